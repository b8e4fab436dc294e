/- The walk of ColourPlays. Conditions: the table of TrailingZeros64 is laid; the arguments' cells are there. -/
import Derived.Test.YtaobcnagdceaeaaDoorWColourA
set_option linter.unusedVariables false
set_option linter.unusedSimpArgs false
namespace Go.Proofs.YtaobcnagdceaeaaDoor
open Go.RowKit

theorem Addr.block_add (a : Addr) (n : Nat) : (a.add n).block = a.block := by
  unfold Addr.add
  split <;> rfl

/-- A row keeps its cells where its block is left as it was. -/
theorem RowAt.keep {F : Nat → Prop} {w w' : World} {p : Option Addr} {k : Nat} {X : Type} {f : X → List Value} {l : List X} (h : RowAt w p k f l) (hm : Mod F w w') (hF : ∀ a, p = some a → ¬ F a.block) : RowAt w' p k f l := fun i x hi => by
  obtain ⟨a, ha, hc⟩ := h i x hi
  refine ⟨a, ha, fun j v hj => ?_⟩
  have hcell := hc j v hj
  have hb : w'.heap[((a.add (i * k)).add j).block]? = w.heap[((a.add (i * k)).add j).block]? := hm.block _ (World.block_lt_of_cell? w _ hcell) (by rw [Addr.block_add, Addr.block_add]; exact hF a ha)
  rw [World.cell?_of_block hb]
  exact hcell

/-- A copy of a row of integers, in a new block. -/
theorem copy_ints_new {w w1 : World} {b : Nat} (hb : w1.heap[b]? = some (.cells #[] 3 (0, 0))) (hE : Ext w w1) (hs : w.heap.size = b) {pa : Option Addr} {cc : Nat} {l : List Int} (hrow : RowAt w pa 1 intF l) (hl : l.length ≤ 1048576) {K : Option Addr → Nat → Nat → World → Prop}
    (k : ∀ (p : Option Addr) (c : Nat) (w2 : World), RowAt w2 p 1 intF l → Ext w w2 → (∀ a, p = some a → w.heap.size ≤ a.block) → K p l.length c w2) :
    ∃ (p : Option Addr) (n c : Nat) (w2 : World), (Builtin.append_ #[32, 32] 32 #[.slice (some ⟨b, 0, none⟩) 0 0, .slice pa l.length cc]).run Tryd.prog w1 = .ok (.slice p n c) w2 ∧ K p n c w2 := by
  have hown : ORow w1 3 1 intF (.slice (some ⟨b, 0, none⟩) 0 0) ([] : List Int) := ⟨rfl, .inr ⟨b, 0, #[], rfl, Nat.zero_le _, hb, Nat.zero_le _, Nat.zero_le _, rfl, rfl⟩⟩
  cases pa with
  | none =>
    have hl0 : l = [] := by
      cases l with
      | nil => rfl
      | cons x l => obtain ⟨a, ha, _⟩ := hrow 0 x rfl; cases ha
    subst hl0
    obtain ⟨i, z, hi, _⟩ := elemI.info
    refine ⟨some ⟨b, 0, none⟩, _, 0, w1, ?_, k _ 0 w1 (fun i x hi => by simp at hi) hE (fun a ha => by cases ha; exact Nat.le_of_eq hs)⟩
    have e : (Builtin.append_ #[32, 32] 32 #[.slice (some ⟨b, 0, none⟩) 0 0, .slice none ([] : List Int).length cc]).run Tryd.prog w1 = .ok (.slice (some ⟨b, 0, none⟩) ([] : List Int).length 0) w1 := by
      simp [Builtin.append_, run_underlying elemI.slice, sizeOf, typeInfo, hi, Builtin.lenOf, Builtin.firstCells, loadCells, loadCellsFrom, storeCells]
    exact e
  | some a =>
    obtain ⟨p, c, w2, hr, ho, hm, hne⟩ := ORow.append elemI intF_len intF_one hown 32 a cc l (fun j x hx => by
      obtain ⟨a', ha', hc⟩ := hrow j x hx
      cases ha'
      exact hc.ext hE) (by simp only [maxLen, List.length_nil]; omega) (by simp only [List.length_nil]; omega)
    simp only [List.length_nil, Nat.zero_add, List.nil_append] at hr ho hne
    refine ⟨p, _, c, w2, hr, k p c w2 (ORow.rowAt intF_len ho) (hE.new hm (fun j hj => by simp only [Value.ownBlock, Option.some.injEq] at hj; omega)) (fun a ha => ?_)⟩
    subst ha
    rcases hne a.block rfl with e | e
    · simp only [Value.ownBlock, Option.some.injEq] at e; omega
    · have := hE.size; omega

/-- An Op of garthlaw07: its kind, its page, its window (where, with what room, what). -/
abbrev COp := Int × Int × Option Addr × Nat × List Int

structure WOps (w : World) (pa : Option Addr) (l : List COp) : Prop where
  at' : ∀ (i : Nat) (k p : Int) (wa : Option Addr) (wc : Nat) (win : List Int), l[i]? = some (k, p, wa, wc, win) →
    (∃ a, pa = some a ∧ CellsAt w (a.add (i * 3)) [.int .i64 k, .int .i64 p, .slice wa win.length wc]) ∧ RowAt w wa 1 intF win ∧ win.length ≤ 70368744177664

theorem WOps.ext {w w' : World} {pa : Option Addr} {l : List COp} (h : WOps w pa l) (hE : Ext w w') : WOps w' pa l := ⟨fun i k p wa wc win hi => by
  obtain ⟨⟨a, ha, hc⟩, hr, hl⟩ := h.at' i k p wa wc win hi
  exact ⟨⟨a, ha, hc.ext hE⟩, hr.ext hE, hl⟩⟩

abbrev WOpsSh : Sh := .row 3 40 (.pair (.int .i64) (.pair (.int .i64) (.pair (.row 1 8 (.int .i64)) .unit)))
abbrev cop (x : Int × Int × ((Option Addr × Nat) × List Int) × Unit) : COp := (x.1, x.2.1, x.2.2.1.1.1, x.2.2.1.1.2, x.2.2.1.2)

/-- The Ops of a row that came in. -/
def wops (x : (Option Addr × Nat) × List (Int × Int × ((Option Addr × Nat) × List Int) × Unit)) : List COp := x.2.map cop
theorem wops_len (x : (Option Addr × Nat) × List (Int × Int × ((Option Addr × Nat) × List Int) × Unit)) : (wops x).length = x.2.length := List.length_map _
theorem wops_get (x : (Option Addr × Nat) × List (Int × Int × ((Option Addr × Nat) × List Int) × Unit)) {i : Nat} {c : COp} (h : (wops x)[i]? = some c) : ∃ y, x.2[i]? = some y ∧ cop y = c := by
  unfold wops at h
  rw [List.getElem?_map] at h
  exact Option.map_eq_some_iff.1 h

theorem wops_row {w : World} {x : WOpsSh.T} (h : WOpsSh.Ok w x) : WOps w x.1.1 (wops x) := ⟨fun i k p wa wc win hi => by
  obtain ⟨y, hy, hyc⟩ := wops_get x hi
  simp only [cop, Prod.mk.injEq] at hyc
  obtain ⟨rfl, rfl, rfl, rfl, rfl⟩ := hyc
  obtain ⟨hc, _, _, hw, _⟩ := h.2.2.2 i y hy
  refine ⟨hc, fun j z hz => (hw.2.2.2 j z hz).1, ?_⟩
  have h8 : y.2.2.1.2.length * 8 ≤ reachBytes := hw.2.2.1
  simp only [reachBytes] at h8
  have : (List.length (α := Int) y.2.2.1.2) = y.2.2.1.2.length := rfl
  omega⟩

theorem long_any {w : World} {pa : Option Addr} {cap : Nat} {l : List COp} (h : WOps w pa l) (hl63 : l.length ≤ maxLen) : Calls Tryd.prog 35 #[.slice pa l.length cap] w
    (Ret fun r w' => ∃ b, r = .bool b ∧ Ext w w' ∧ (b = false → l.length ≤ 300 ∧ ∀ (i : Nat) (k p : Int) (wa : Option Addr) (wc : Nat) (win : List Int), l[i]? = some (k, p, wa, wc, win) → win.length ≤ 2000)) := by
  simp only [maxLen] at hl63
  refine VC.garthlaw07_long.ok ?_
  unfold VC.garthlaw07_long
  refine ⟨fun m nn i w1 => ∃ j : Nat, i = (j : Int) ∧ m + j = l.length ∧ 0 ≤ nn ∧ nn ≤ 2000 ∧ Ext w w1 ∧ (∀ (i : Nat) (k p : Int) (wa : Option Addr) (wc : Nat) (win : List Int), i < j → l[i]? = some (k, p, wa, wc, win) → win.length ≤ 2000),
    ⟨l.length, 0, rfl, rfl, by decide, by decide, Mod.refl _ _, fun i k p wa wc win hi => absurd hi (Nat.not_lt_zero i)⟩, ?_⟩
  rintro m jv nn i w1 ⟨j, rfl, hm, h0, h2000, hE, hall⟩
  refine ifD (fun hj => ⟨by omega, hj, ?_⟩) (fun hj => ⟨_, rfl, hE, fun hb => ⟨?_, fun i k p wa wc win hi => hall i k p wa wc win ?_ hi⟩⟩)
  · obtain ⟨⟨k, p, wa, wc, win⟩, hy⟩ : ∃ y, l[j]? = some y := ⟨_, List.getElem?_eq_getElem (by omega)⟩
    obtain ⟨⟨a, rfl, hc⟩, _, hw⟩ := (h.ext hE).at' j k p wa wc win hy
    rw [Int.toNat_natCast]
    refine ⟨_, _, _, _, _, hc, al_intro fun b w2 hb hE2 hs2 _ => ?_⟩
    refine wr_intro (n := 3) hb (by simp) fun w3 hb3 hm3 _ => ?_
    have hE3 : Ext w1 w3 := hE2.new hm3 (fun k hk => by subst hk; omega)
    have e1 : IntKind.i64.wrap ((1 : Int) + (win.length : Int)) = 1 + (win.length : Int) := wrap_i64 (by omega) (by omega)
    have e2 : IntKind.i64.wrap (nn + (1 + (win.length : Int))) = nn + (1 + (win.length : Int)) := wrap_i64 (by omega) (by omega)
    refine ⟨_, _, _, by rw [add_mk]; exact cell_blk hb3 rfl, ?_⟩
    rw [e1, e2]
    refine ifD (fun _ => ⟨_, rfl, hE.trans hE3, fun q => by cases q⟩) (fun hle => ⟨m - 1, by omega, j + 1, ?_, by omega, by omega, by omega, hE.trans hE3, fun i k' p' wa' wc' win' hi hi' => ?_⟩)
    · rw [wrap_i64 (by omega) (by omega)]; rfl
    · by_cases e : i < j
      · exact hall i k' p' wa' wc' win' e hi'
      · rw [show i = j by omega, hy] at hi'
        simp only [Option.some.injEq, Prod.mk.injEq] at hi'
        obtain ⟨_, _, _, _, rfl⟩ := hi'
        omega
  · have := of_decide_eq_false hb
    omega
  · have := (List.getElem?_eq_some_iff.1 hi).1
    omega

theorem core_ColourPlays (w : World) (tab : Tab w) (P Q : Int) {pa : Option Addr} {cap : Nat} {l : List COp} (hops : WOps w pa l) (hl63 : l.length ≤ maxLen) :
    Calls Tryd.prog 12 #[.agg #[.int .i64 P, .int .i64 Q], .slice pa l.length cap] w (Ret (Yes w)) := by
  refine VC.garthlaw07_ColourPlays.ok ?_
  unfold VC.garthlaw07_ColourPlays
  refine al_intro fun b0 w1 hb0 hE1 hs1 hs1' => ⟨_, _, cells_all (vs := [.int .i64 P, .int .i64 Q]) hb0, .of (mnew_any w1 P Q) ?_⟩
  rintro r w2 (⟨hno, rfl, hE2⟩ | ⟨hcfg, mb, n, C, F, rfl, rfl, rfl, h2, hE2, hnew, hFm⟩)
  · refine ⟨_, _, rfl, _, _, cells_all (vs := [_, _]) (hE2.keep hb0), .of (rmnew_any w2 P Q) ?_⟩
    rintro r w3 (⟨_, rfl, hE3⟩ | ⟨hcfg, _⟩)
    · have hE13 := (hE1.trans hE2).trans hE3
      refine ⟨_, _, rfl, .of (cawake_any (tab.ext hE13)) ?_⟩
      rintro r w4 ⟨rfl, hE4⟩
      have hb4 := hE4.keep (hE3.keep (hE2.keep hb0))
      refine ⟨_, rfl, ifB_false rfl (ifB_false rfl (ifB_false rfl ⟨_, _, cells_all (vs := [_, _]) hb4, .of (check_any w4 P Q) ?_⟩))⟩
      rintro r w5 ⟨rfl, hE5⟩
      rw [if_neg hno]
      exact ⟨_, rfl, ifB_false rfl (ifB_true rfl ⟨rfl, (hE13.trans hE4).trans hE5⟩)⟩
    · exact absurd hcfg hno
  have hE12 := hE1.trans hE2
  refine ⟨_, _, rfl, _, _, cells_all (vs := [_, _]) (hE2.keep hb0), .of (rmnew_any w2 _ _) ?_⟩
  rintro r w3 (⟨hno, _⟩ | ⟨_, q, gb, n', C', hP', hC', rfl, hr3, hE3, hnewr⟩)
  · exact absurd hcfg hno
  have eC : C' = C := by omega
  subst eC
  have hc1 := h2.c1
  have eN : n' = n := Nat.eq_of_mul_eq_mul_right (show 0 < C' by omega) (by omega)
  subst eN
  have hE13 := hE12.trans hE3
  refine ⟨_, _, rfl, .of (cawake_any (tab.ext hE13)) ?_⟩
  rintro r w4 ⟨rfl, hE4⟩
  have hE14 := hE13.trans hE4
  have hb4 := hE4.keep (hE3.keep (hE2.keep hb0))
  refine ⟨_, rfl, ifB_false rfl (ifB_false rfl (ifB_false rfl ⟨_, _, cells_all (vs := [_, _]) hb4, .of (check_any w4 _ _) ?_⟩))⟩
  rintro r w5 ⟨rfl, hE5⟩
  rw [if_pos hcfg]
  have hE15 := hE14.trans hE5
  refine ⟨_, rfl, ifB_false rfl (ifB_false rfl (.of (long_any (hops.ext hE15) hl63) ?_))⟩
  rintro r w6 ⟨bl, rfl, hE6, hlong⟩
  have hE16 := hE15.trans hE6
  have hb6 := hE6.keep (hE5.keep hb4)
  refine ⟨_, rfl, ifB_intro (fun _ => ⟨rfl, hE16⟩) (fun hbl => ⟨_, by rw [add_mk]; exact cell_blk hb6 rfl, ifD (fun _ => ⟨rfl, hE16⟩) (fun _ => ?_)⟩)⟩
  obtain ⟨hl300, hwin⟩ := hlong hbl
  have hnew0 : ∀ k, F k → w.heap.size ≤ k := fun k hk => Nat.le_trans hE1.size (hnew k hk)
  have hq0 : ∀ k, fpS q gb k → w.heap.size ≤ k := fun k hk => Nat.le_trans hE12.size (hnewr k hk)
  have hb0q : ¬ fpS q gb b0 := fun hk => by have := hnewr b0 hk; have := lt_of_blk (hE2.keep hb0); omega
  have hlt2 := h2.lt
  refine ⟨fun m pp i w7 => ∃ (j mb : Nat) (F : Nat → Prop) (hs : List Bool), i = (j : Int) ∧ m + j = l.length ∧ pp = some ⟨mb, 0, none⟩ ∧ MH w7 mb F n' C' hs ∧ RM w7 q gb n' C' hs ∧ (∀ k, F k → ¬ fpS q gb k) ∧ (∀ k, F k → w.heap.size ≤ k) ∧ ¬ F b0 ∧
      w7.heap[b0]? = some (.cells #[.int .i64 ((n' * C' : Nat) : Int), .int .i64 (C' : Int)] 46 (0, 0)) ∧ Ext w w7,
    ⟨l.length, 0, mb, F, _, rfl, rfl, rfl, (((h2.ext hE3).ext hE4).ext hE5).ext hE6, ((hr3.ext hE4).ext hE5).ext hE6, fun k hk hk' => by have a1 := hlt2 k hk; have a2 := hnewr k hk'; omega, hnew0,
      fun hk => by have := hnew b0 hk; have := lt_of_blk hb0; omega, hb6, hE16⟩, ?_⟩
  clear h2 hr3 hnew hlt2 hFm hnewr hnew0 hlong hE6 hE16 hb6 hE15 hE5 hb4 hE14 hE4 hE13 hE3 hE12 hE2 hE1 hb0 hs1 hs1'
  rintro m jv pp i w7 ⟨j, mb, F, hs, rfl, hm, rfl, h7, hr7, hdis, hnew, hFb0, hb7, hE7⟩
  refine ifD (fun hj => ⟨by omega, hj, ?_⟩) (fun hj => ⟨rfl, hE7⟩)
  obtain ⟨⟨k, p, wa, wc, win⟩, hy⟩ : ∃ y, l[j]? = some y := ⟨_, List.getElem?_eq_getElem (by omega)⟩
  obtain ⟨⟨a, rfl, hc⟩, _, _⟩ := (hops.ext hE7).at' j k p wa wc win hy
  obtain ⟨_, hwrow, _⟩ := hops.at' j k p wa wc win hy
  have hw2000 := hwin j k p wa wc win hy
  have hw63 : win.length ≤ maxLen := by simp only [maxLen]; omega
  rw [Int.toNat_natCast]
  refine ⟨_, _, _, _, _, hc, al_intro fun b w8 hb8 hE8 hs8 hs8' => ?_⟩
  refine wr_intro (n := 3) hb8 (by simp) fun w9 hb9 hm9 _ => ?_
  have hE79 : Ext w7 w9 := hE8.new hm9 (fun k hk => by subst hk; omega)
  have hb9 : w9.heap[b]? = some (.cells #[.int .i64 k, .int .i64 p, .slice wa win.length wc] 61 (0, 0)) := hb9
  refine al_intro fun bw w10 hbw hE10 hs10 _ => ⟨_, _, _, by rw [add_mk]; exact cell_blk (hE10.keep hb9) rfl, ?_⟩
  have hE9 := hE7.trans hE79
  refine copy_ints_new hbw hE10 hs10 (hwrow.ext hE9) (by omega) fun pw cw w11 hrow11 hE911 hpw => ?_
  have hE711 := hE79.trans hE911
  have hE11 := hE7.trans hE711
  have hb11 := hE911.keep hb9
  have h11 := h7.ext hE711
  have hr11 := hr7.ext hE711
  have hlt7 := h7.lt
  have hltr := hr7.lt
  have hbF : ¬ F b := fun hk => by have := hlt7 b hk; omega
  have hbq : ¬ fpS q gb b := fun hk => by have := hltr b hk; omega
  have swap : ∀ j, fpS q gb j → ¬ F j := fun j hj hj' => hdis j hj' hj
  have c0 : w11.cell? ((Addr.mk b 0 none).add 0) = some (.int .i64 k) := by rw [add_mk]; exact cell_blk hb11 rfl
  have hnwF : ∀ a, pw = some a → ¬ F a.block := fun a ha hk => by have a1 := hpw a ha; have a2 := hlt7 _ hk; have a3 := hE79.size; omega
  have hnwq : ∀ a, pw = some a → ¬ fpS q gb a.block := fun a ha hk => by have a1 := hpw a ha; have a2 := hltr _ hk; have a3 := hE79.size; omega
  refine ⟨fun pp w12 => ∃ (mb : Nat) (F : Nat → Prop) (hs : List Bool), pp = some ⟨mb, 0, none⟩ ∧ MH w12 mb F n' C' hs ∧ RM w12 q gb n' C' hs ∧ (∀ k, F k → ¬ fpS q gb k) ∧ (∀ k, F k → w.heap.size ≤ k) ∧ ¬ F b0 ∧ ¬ F b ∧
      w12.heap[b0]? = some (.cells #[.int .i64 ((n' * C' : Nat) : Int), .int .i64 (C' : Int)] 46 (0, 0)) ∧ w12.heap[b]? = some (.cells #[.int .i64 k, .int .i64 p, .slice wa win.length wc] 61 (0, 0)) ∧
      RowAt w12 pw 1 intF win ∧ Ext w w12, ⟨_, c0, ifB_intro (fun _ => ?_) (fun _ => ifB_intro (fun _ => ?_) (fun _ => ?_))⟩, ?_⟩
  · -- Take
    refine .of (mtake_any (tab.ext hE11) h11 hrow11 hw63) ?_
    rintro r w12 ⟨rfl, h12, hm12⟩
    have hE12 := hE11.new hm12 hnew
    have hb12 := hm12.keep hb11 hbF
    refine ⟨_, _, rfl, _, _, _, by rw [add_mk]; exact cell_blk hb12 rfl, .of (rmtake_any (hr11.keep hm12 swap) (hwrow.ext hE12) hw63) ?_⟩
    rintro r w13 ⟨rfl, hr13, hm13⟩
    refine ⟨_, _, rfl, ifB_false (by simp) (ifB_false (by simp) ⟨mb, F, _, rfl, h12.keep hm13 hdis, hr13, hdis, hnew, hFb0, hbF, hm13.keep (hm12.keep ((hE711.keep hb7)) hFb0) hb0q, hm13.keep hb12 hbq, ?_, hE12.new hm13 hq0⟩)⟩
    exact (hrow11.keep hm12 fun a ha => hnwF a ha).keep hm13 fun a ha => hnwq a ha
  · -- Give
    rintro w12 rfl
    have hE1112 := Ext.drew w11
    have hE12 := hE11.trans hE1112
    have hb12 := hE1112.keep hb11
    have c1 : ∀ w13 : World, w13.heap[b]? = some (.cells #[.int .i64 k, .int .i64 p, .slice wa win.length wc] 61 (0, 0)) → w13.cell? ((Addr.mk b 0 none).add 1) = some (.int .i64 p) := fun w13 h => by rw [add_mk]; exact cell_blk h rfl
    refine ⟨_, c1 _ hb12, _, c1 _ hb12, .of (mgive_any (h11.ext hE1112) p) ?_⟩
    rintro r w13 ⟨rfl, h13, hm13⟩
    have hb13 := hm13.keep hb12 hbF
    have hE13 := hE12.new hm13 hnew
    refine ⟨_, rfl, ⟨_, c1 _ hb13, rfl⟩, .of (rmgive_any ((hr11.ext hE1112).keep hm13 swap) p) ?_⟩
    rintro r w14 ⟨rfl, hr14, hm14⟩
    refine ⟨_, rfl, ifB_false (by simp) ⟨mb, F, _, rfl, h13.keep hm14 hdis, hr14, hdis, hnew, hFb0, hbF, hm14.keep (hm13.keep (hE1112.keep (hE711.keep hb7)) hFb0) hb0q, hm14.keep hb13 hbq, ?_, hE13.new hm14 hq0⟩⟩
    exact ((hrow11.ext hE1112).keep hm13 fun a ha => hnwF a ha).keep hm14 fun a ha => hnwq a ha
  · -- its copy goes on in its place
    refine .of (mcopy_any h11) ?_
    rintro r w12 ⟨mb', F', rfl, h12, hE1112, hnew', hF'⟩
    have hE12 := hE11.trans hE1112
    have hlt11 := h11.lt
    have hltr11 := hr11.lt
    refine ⟨_, rfl, .of (mtake_any (tab.ext hE12) (h11.ext hE1112) (hrow11.ext hE1112) hw63) ?_⟩
    rintro r w13 ⟨rfl, _, hm13⟩
    refine ⟨_, _, rfl, mb', F', hs, rfl, h12.keep hm13 fun k hk hk' => ?_, (hr11.ext hE1112).keep hm13 swap, fun k hk hk' => ?_, fun k hk => Nat.le_trans hE11.size (hnew' k hk), fun hk => ?_, fun hk => ?_, hm13.keep (hE1112.keep (hE711.keep hb7)) hFb0, hm13.keep (hE1112.keep hb11) hbF, (hrow11.ext hE1112).keep hm13 fun a ha => hnwF a ha, hE12.new hm13 hnew⟩
    · have a1 := hnew' k hk; have a2 := hlt11 k hk'; omega
    · have a1 := hnew' k hk; have a2 := hltr11 k hk'; omega
    · have a1 := hnew' b0 hk; have a2 := lt_of_blk hb7; have a3 := hE711.size; omega
    · have a1 := hnew' b hk; have a2 := lt_of_blk hb11; omega
  -- both are asked
  clear h11 hr11 hdis hnew hFb0 hbF hlt7 hltr swap c0 hb11 hE11 hE711 hE911 hrow11 hb9 hE9 hE10 hE79 hE8 h7 hr7 hb7 hE7 hnwF
  rintro jv pp w12 ⟨mb, F, hs, rfl, h12, hr12, hdis, hnew, hFb0, hFb, hb12, ho12, hrow12, hE12⟩
  refine ⟨fun bb w13 => bb = false ∧ MH w13 mb F n' C' hs ∧ RM w13 q gb n' C' hs ∧ w13.heap[b0]? = some (.cells #[.int .i64 ((n' * C' : Nat) : Int), .int .i64 (C' : Int)] 46 (0, 0)) ∧ Ext w w13, ?_, ?_⟩
  · rintro w13 rfl
    have hE1213 := Ext.drew w12
    have c1 : ∀ w14 : World, Ext w12 w14 → w14.cell? ((Addr.mk b 0 none).add 1) = some (.int .i64 p) := fun w14 h => by rw [add_mk]; exact cell_blk (h.keep ho12) rfl
    have c2 : ∀ w14 : World, Ext w12 w14 → w14.cell? ((Addr.mk b 0 none).add 2) = some (.slice wa win.length wc) := fun w14 h => by rw [add_mk]; exact cell_blk (h.keep ho12) rfl
    have g0 : ∀ w14 : World, Ext w12 w14 → w14.cell? ((Addr.mk b0 0 none).add 0) = some (.int .i64 ((n' * C' : Nat) : Int)) := fun w14 h => by rw [add_mk]; exact cell_blk (h.keep hb12) rfl
    have g1 : ∀ w14 : World, Ext w12 w14 → w14.cell? ((Addr.mk b0 0 none).add 1) = some (.int .i64 (C' : Int)) := fun w14 h => by rw [add_mk]; exact cell_blk (h.keep hb12) rfl
    refine ⟨_, _, _, c2 _ hE1213, .of (mfree_any (h12.ext hE1213) (hrow12.ext hE1213) hw63) ?_⟩
    rintro r w14 ⟨rfl, hE14⟩
    have hE1214 := hE1213.trans hE14
    refine ⟨_, rfl, ⟨_, _, _, c2 _ hE1214, rfl⟩, .of (rmfree_any (hr12.ext hE1214) (hwrow.ext (hE12.trans hE1214)) hw63) ?_⟩
    rintro r w15 ⟨rfl, hE15⟩
    have hE1215 := hE1214.trans hE15
    refine ⟨_, rfl, ifB_false (by simp) ⟨_, c1 _ hE1215, _, c1 _ hE1215, .of (mtaken_any (h12.ext hE1215) p) ?_⟩⟩
    rintro r w16 ⟨rfl, hE16⟩
    have hE1216 := hE1215.trans hE16
    refine ⟨_, rfl, ⟨_, c1 _ hE1216, rfl⟩, .of (rmtaken_any (hr12.ext hE1216) p) ?_⟩
    rintro r w17 ⟨rfl, rfl⟩
    refine ⟨_, rfl, rfl, rfl, ifB_false ?_ ⟨_, c1 _ hE1216, _, c1 _ hE1216, .of (mcolour_any (h12.ext hE1216) p) ?_⟩⟩
    · cases isTaken hs p <;> rfl
    rintro r w18 ⟨rfl, rfl⟩
    refine ⟨_, rfl, ⟨_, c1 _ hE1216, rfl⟩, .of (rmcolour_any (hr12.ext hE1216) p) ?_⟩
    rintro r w19 ⟨rfl, rfl⟩
    refine ⟨_, rfl, rfl, ifB_false (by simp) ⟨_, g0 _ hE1216, _, g1 _ hE1216, by omega, rfl, .of (each_any (h12.ext hE1216)) ?_⟩⟩
    rintro r w20 ⟨rfl, hE20⟩
    have hE1220 := hE1216.trans hE20
    have hp4 := h12.p4
    have hle : n' ≤ n' * C' := Nat.le_mul_of_pos_right n' (by omega)
    refine ⟨_, rfl, ⟨by omega, rfl, rfl⟩, ⟨_, g1 _ hE1220, rfl⟩, ⟨_, g0 _ hE1220, rfl⟩, rfl, ?_, h12.ext hE1220, hr12.ext hE1220, hE1220.keep hb12, hE12.trans hE1220⟩
    rw [tdiv_nat, Nat.mul_div_cancel _ (by omega), wrap_i64 (by omega) (by omega)]
    simp
  · rintro jv bb w13 ⟨rfl, h13, hr13, hb13, hE13⟩
    refine ifB_false rfl ⟨m - 1, by omega, j + 1, mb, F, hs, ?_, by omega, rfl, h13, hr13, hdis, hnew, hFb0, hb13, hE13⟩
    rw [wrap_i64 (by omega) (by omega)]; rfl

theorem at_ColourPlays (w : World) (tab : Tab w) (P Q : Int) {pa : Option Addr} {cap nn : Nat} {l : List COp} (hops : WOps w pa l) (hn : l.length = nn) (hl63 : nn ≤ maxLen) :
    Calls Tryd.prog 12 #[.agg #[.int .i64 P, .int .i64 Q], .slice pa nn cap] w (Ret (Yes w)) := by
  subst hn
  exact core_ColourPlays w tab P Q hops hl63

theorem walk_ColourPlays (w : World) (tab : Tab w) (c : CfgSh.T) (okc : CfgSh.Ok w c) (x : WOpsSh.T) (ok : WOpsSh.Ok w x) : Calls Tryd.prog 12 #[CfgSh.val c, WOpsSh.val x] w (Ret (Yes w)) :=
  at_ColourPlays w tab c.1 c.2.1 (pa := x.1.1) (cap := x.1.2) (l := wops x) (wops_row ok) (wops_len x) (Nat.le_trans ok.1 ok.2.1)

end Go.Proofs.YtaobcnagdceaeaaDoor
