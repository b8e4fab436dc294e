/- The walk of ColourApart. Conditions: the table of TrailingZeros64 is laid; the arguments' cells are there. -/
import Derived.Test.YtaobcnagdceaeaaDoorWColourB
import Derived.Test.YtaobcnagdceaeaaDoorGwMap
set_option linter.unusedVariables false
set_option linter.unusedSimpArgs false
namespace Go.Proofs.YtaobcnagdceaeaaDoor
open Go.RowKit

abbrev I64 (x : Int) : Prop := (Lit.int .i64 x).wf = true

theorem i64_mk {n : Int} (h0 : -9223372036854775808 ≤ n) (h1 : n ≤ 9223372036854775807) : I64 n := by
  simp [I64, Lit.wf, IntKind.min, IntKind.max, IntKind.signed, IntKind.bits]
  omega

/-- A list as a set. -/
def setM (l : List Int) : Int → Option Value := fun x => if x ∈ l then some (.bool true) else none

theorem setM_snoc (l : List Int) (c : Int) : upd (setM l) c (some (.bool true)) = setM (l ++ [c]) := by
  funext x
  unfold upd setM
  by_cases e : x = c
  · subst e; simp
  · simp [e]

theorem setM_get (l : List Int) (x : Int) : (setM l x).getD (.bool false) = .bool (decide (x ∈ l)) := by
  unfold setM
  by_cases e : x ∈ l <;> simp [e]

theorem inW_mem {C : Nat} {l : List Int} {p : Nat} : inW C l p = true ↔ ((p % C : Nat) : Int) ∈ l := by
  unfold inW
  rw [List.any_eq_true]
  exact ⟨fun ⟨x, hx, e⟩ => by rw [← eq_of_beq e]; exact hx, fun h => ⟨_, h, by simp⟩⟩

/-- Both have the same of a window. -/
structure Alike (hs gs : List Bool) (C : Nat) (l : List Int) : Prop where
  len : hs.length = gs.length
  at' : ∀ p, inW C l p = true → hs[p]? = gs[p]?

section
variable {hs gs : List Bool} {C : Nat} {l : List Int}

theorem Alike.fr (h : Alike hs gs C l) (p : Nat) : FrP hs C l p ↔ FrP gs C l p :=
  ⟨fun ⟨a, b⟩ => ⟨by rw [← h.at' p b]; exact a, b⟩, fun ⟨a, b⟩ => ⟨by rw [h.at' p b]; exact a, b⟩⟩

theorem Alike.pg (h : Alike hs gs C l) : pg hs C l = pg gs C l := ((pg_low hs C l).congr h.fr).unique (pg_low gs C l)

theorem Alike.cnt (h : Alike hs gs C l) : cnt hs C l = cnt gs C l := by
  unfold Go.Proofs.YtaobcnagdceaeaaDoor.cnt
  rw [h.len]
  exact List.countP_congr fun p _ => by simp only [decide_eq_true_eq]; exact h.fr p

theorem Alike.set_left (h : Alike hs gs C l) {p : Nat} (b : Bool) (hp : inW C l p = false) : Alike (hs.set p b) gs C l :=
  ⟨by simpa using h.len, fun q hq => by
    rw [List.getElem?_set]
    by_cases e : p = q
    · subst e; rw [hp] at hq; cases hq
    · rw [if_neg e]; exact h.at' q hq⟩

theorem Alike.set_both (h : Alike hs gs C l) (p : Nat) (b : Bool) : Alike (hs.set p b) (gs.set p b) C l :=
  ⟨by simpa using h.len, fun q hq => by
    rw [List.getElem?_set, List.getElem?_set, h.len]
    split
    · rfl
    · exact h.at' q hq⟩

theorem Alike.take_both (h : Alike hs gs C l) : mTakeI hs C l = mTakeI gs C l ∧ mTakeE hs C l = mTakeE gs C l ∧ Alike (mTakeH hs C l) (mTakeH gs C l) C l := by
  have e := h.pg
  refine ⟨by simp only [mTakeI, e], by simp only [mTakeE, e], ?_⟩
  unfold mTakeH
  rw [e]
  split
  · exact h.set_both _ _
  · exact h

/-- Somebody else takes: none of his colours is one of these. -/
theorem Alike.take_other (h : Alike hs gs C l) {m : List Int} (hm : ∀ x ∈ m, x ∉ l) : Alike (mTakeH hs C m) gs C l := by
  unfold mTakeH
  split
  · rename_i p hp
    have hlow := pg_low hs C m
    rw [hp] at hlow
    refine h.set_left _ ?_
    cases hw : inW C l p with
    | false => rfl
    | true => exact absurd (inW_mem.1 hw) (hm _ (inW_mem.1 hlow.1.2))
  · exact h

theorem Alike.give_other (h : Alike hs gs C l) {k : Int} (hk : InS hs k → k.tmod C ∉ l) : Alike (giveH hs k) gs C l := by
  unfold giveH
  split
  · rename_i hin
    obtain ⟨p, rfl⟩ := Int.eq_ofNat_of_zero_le hin.1
    rw [Int.toNat_natCast]
    refine h.set_left _ ?_
    cases hw : inW C l p with
    | false => rfl
    | true => exact absurd (inW_mem.1 hw) (by have := hk hin; rwa [tmod_nat] at this)
  · exact h

end

theorem uM : Tryd.prog.underlying 59 = some (.map 3 4) := rfl
theorem uI : Tryd.prog.underlying 3 = some (.int .i64) := rfl
theorem zB (w : World) : (zeroValue 4).run Tryd.prog w = .ok (.bool false) w := rfl

/-- 'own[x]'. -/
theorem own_look {w : World} {B sz : Nat} {l : List Int} (h : IMap w Tryd.prog 3 .i64 B (setM l) sz) {x : Int} (hx : I64 x) : (Instr.lookup 59 (.map (some B)) (.int .i64 x) false).run Tryd.prog w = .ok (.bool (decide (x ∈ l))) w := by
  rw [h.look uI uM (zB w) hx, setM_get]

theorem mCol_i64 {P C : Nat} (hC : C ≤ 32) (k : Int) (hk : P ≤ 4096) : I64 (mCol P C k) := by
  unfold mCol
  split
  · rename_i h
    obtain ⟨p, rfl⟩ := Int.eq_ofNat_of_zero_le h.1
    rw [tmod_nat]
    have hle : p % C ≤ p := Nat.mod_le _ _
    exact i64_mk (by omega) (by omega)
  · exact i64_mk (by decide) (by decide)

theorem core_ColourApart (w : World) (tab : Tab w) (P Q : Int) {pa : Option Addr} {cap : Nat} {l : List Int} (hrow : RowAt w pa 1 intF l) (hwf : ∀ x ∈ l, I64 x) {pb : Option Addr} {cap2 : Nat} {l2 : List COp} (hops : WOps w pb l2)
    (hwf2 : ∀ c ∈ l2, ∀ x ∈ c.2.2.2.2, I64 x) (hl63 : l2.length ≤ maxLen) :
    Calls Tryd.prog 11 #[.agg #[.int .i64 P, .int .i64 Q], .slice pa l.length cap, .slice pb l2.length cap2] w (Ret (Yes w)) := by
  refine VC.garthlaw07_ColourApart.ok ?_
  unfold VC.garthlaw07_ColourApart
  refine al_intro fun b0 w1 hb0 hE1 hs1 hs1' => ⟨_, _, cells_all (vs := [.int .i64 P, .int .i64 Q]) hb0, .of (mnew_any w1 P Q) ?_⟩
  rintro r w2 (⟨hno, rfl, hE2⟩ | ⟨hcfg, mb, n, C, F, rfl, rfl, rfl, h2, hE2, hnew, hFm⟩)
  · refine ⟨_, _, rfl, _, _, cells_all (vs := [_, _]) (hE2.keep hb0), .of (mnew_any w2 P Q) ?_⟩
    rintro r w3 (⟨_, rfl, hE3⟩ | ⟨hcfg, _⟩)
    case inr => exact absurd hcfg hno
    have hE13 := (hE1.trans hE2).trans hE3
    refine ⟨_, _, rfl, fun bb w4 => bb = true ∧ Ext w w4, .of (cawake_any (tab.ext hE13)) ?_, ?_⟩
    · rintro r w4 ⟨rfl, hE4⟩
      exact ⟨_, rfl, ifB_false rfl (ifB_true rfl ⟨rfl, hE13.trans hE4⟩)⟩
    · rintro jv bb w4 ⟨rfl, hE4⟩
      refine ifB_true rfl (.of (cawake_any (tab.ext hE4)) ?_)
      rintro r w5 ⟨rfl, hE5⟩
      exact ⟨_, rfl, rfl, hE4.trans hE5⟩
  have hE12 := hE1.trans hE2
  refine ⟨_, _, rfl, _, _, cells_all (vs := [_, _]) (hE2.keep hb0), .of (mnew_any w2 _ _) ?_⟩
  rintro r w3 (⟨hno, _⟩ | ⟨_, nb, n', C', G, hP', hC', rfl, g3, hE3, hnewg, hGm⟩)
  · exact absurd hcfg hno
  have eC : C' = C := by omega
  subst eC
  have hc1 := h2.c1
  have hc32 := h2.c32
  have hp4 := h2.p4
  have eN : n' = n := Nat.eq_of_mul_eq_mul_right (show 0 < C' by omega) (by omega)
  subst eN
  have hE13 := hE12.trans hE3
  have hnew0 : ∀ k, F k → w.heap.size ≤ k := fun k hk => Nat.le_trans hE1.size (hnew k hk)
  have hnewg0 : ∀ k, G k → w.heap.size ≤ k := fun k hk => Nat.le_trans hE12.size (hnewg k hk)
  have hdis : ∀ k, F k → ¬ G k := fun k hk hk' => by have a1 := h2.lt k hk; have a2 := hnewg k hk'; omega
  have h3 := h2.ext hE3
  have hb3 := hE3.keep (hE2.keep hb0)
  refine ⟨_, _, rfl, fun bb w4 => Ext w3 w4 ∧ (bb = false → l.length ≤ 100 ∧ l2.length ≤ 300 ∧ ∀ (i : Nat) (k p : Int) (wa : Option Addr) (wc : Nat) (win : List Int), l2[i]? = some (k, p, wa, wc, win) → win.length ≤ 2000), .of (cawake_any (tab.ext hE13)) ?_, ?_⟩
  · rintro r w4 ⟨rfl, hE4⟩
    refine ⟨_, rfl, ifB_false rfl (ifB_false rfl (.of (long_any (hops.ext (hE13.trans hE4)) hl63) ?_))⟩
    rintro r w5 ⟨bl, rfl, hE5, hlong⟩
    have hE35 := hE4.trans hE5
    refine ⟨_, rfl, ifB_intro (fun _ => ⟨hE35, fun q => by cases q⟩) (fun hbl => ifD (fun _ => ⟨hE35, fun q => by cases q⟩) (fun h100 => ⟨_, by rw [add_mk]; exact cell_blk (hE35.keep hb3) rfl, hE35, fun _ => ⟨?_, hlong hbl⟩⟩))⟩
    have h100 : ¬ (l.length : Int) > 100 := h100
    omega
  rintro jv bb w4 ⟨hE34, hl⟩
  have hE4 := hE13.trans hE34
  refine ifB_intro (fun _ => .of (cawake_any (tab.ext hE4)) ?_) (fun hbb => ?_)
  · rintro r w5 ⟨rfl, hE5⟩
    exact ⟨_, rfl, rfl, hE4.trans hE5⟩
  obtain ⟨hl100, hl300, hwin⟩ := hl hbb
  have hln63 : l.length ≤ maxLen := by simp only [maxLen]; omega
  -- own
  refine ⟨some w4.heap.size, w4.alloc (.map #[] 0), run_makeMap _ w4, ?_⟩
  have hE5 := Ext.alloc w4 (.map #[] 0)
  have hlt3 := (h3.ext hE34).lt
  have hltg := (g3.ext hE34).lt
  obtain ⟨B, hB⟩ : ∃ B, B = w4.heap.size := ⟨_, rfl⟩
  have hBF : ¬ F B := fun hk => by have := hlt3 B hk; omega
  have hBG : ¬ G B := fun hk => by have := hltg B hk; omega
  have hBw : w.heap.size ≤ B := by have := hE4.size; omega
  have hmap5 : IMap (w4.alloc (.map #[] 0)) Tryd.prog 3 .i64 B (setM (l.take 0)) 0 := by
    rw [hB]
    exact IMap.made w4 Tryd.prog 3 .i64
  rw [← hB]
  have h5 := (h3.ext hE34).ext hE5
  have g5 := (g3.ext hE34).ext hE5
  have hE45 := hE4.trans hE5
  generalize w4.alloc (.map #[] 0) = w5 at hE5 hmap5 h5 g5 hE45
  refine ⟨fun m i w6 => ∃ (j sz : Nat), i = (j : Int) ∧ m + j = l.length ∧ sz ≤ j ∧ IMap w6 Tryd.prog 3 .i64 B (setM (l.take j)) sz ∧ MH w6 mb F n' C' (List.replicate (n' * C') false) ∧ MH w6 nb G n' C' (List.replicate (n' * C') false) ∧ Ext w w6,
    ⟨l.length, 0, 0, rfl, rfl, Nat.le_refl _, hmap5, h5, g5, hE45⟩, ?_⟩
  clear h5 g5 hmap5 hE45 hE5 hlt3 hltg h3 h2 g3 hb3 hE13 hE12 hE34 hE3 hE2 hE1 hnew hnewg hB hE4 hb0 hs1 hs1'
  rintro m jv i w6 ⟨j, sz, rfl, hm, hsz, hmap, h6, g6, hE6⟩
  refine ifD (fun hj => ⟨by omega, hj, ?_⟩) (fun hj => ?_)
  · obtain ⟨c, hc⟩ : ∃ c, l[j]? = some c := ⟨_, List.getElem?_eq_getElem (by omega)⟩
    rw [Int.toNat_natCast]
    refine (hrow.ext hE6).int hc ?_
    obtain ⟨w7, hr7, hmap7, hm7, hs7⟩ := hmap.store uI uM (by simp only [maxLen]; omega) (hwf c (List.mem_of_getElem? hc)) (.bool true)
    rw [setM_snoc, ← take_snoc hc] at hmap7
    refine ⟨w7, hr7, m - 1, by omega, j + 1, _, ?_, by omega, ?_, hmap7, h6.keep hm7 (fun k hk e => hBF (e ▸ hk)), g6.keep hm7 (fun k hk e => hBG (e ▸ hk)), hE6.new hm7 (fun k hk => by subst hk; exact hBw)⟩
    · rw [wrap_i64 (by omega) (by omega)]; rfl
    · split <;> omega
  rw [List.take_of_length_le (by omega)] at hmap
  -- the script
  refine ⟨fun m i w7 => ∃ (j : Nat) (hs gs : List Bool), i = (j : Int) ∧ m + j = l2.length ∧ Alike hs gs C' l ∧ IMap w7 Tryd.prog 3 .i64 B (setM l) sz ∧ MH w7 mb F n' C' hs ∧ MH w7 nb G n' C' gs ∧ Ext w w7,
    ⟨l2.length, 0, _, _, rfl, rfl, ⟨rfl, fun p _ => rfl⟩, hmap, h6, g6, hE6⟩, ?_⟩
  clear hsz hmap h6 g6 hE6 hj hm j m jv
  rintro m jv i w7 ⟨j, hs, gs, rfl, hm, hal, hmap, h7, g7, hE7⟩
  refine ifD (fun hj => ⟨by omega, hj, ?_⟩) (fun hj => ⟨rfl, hE7⟩)
  obtain ⟨⟨k, p, wa, wc, win⟩, hy⟩ : ∃ y, l2[j]? = some y := ⟨_, List.getElem?_eq_getElem (by omega)⟩
  obtain ⟨⟨a, rfl, hc⟩, _, _⟩ := (hops.ext hE7).at' j k p wa wc win hy
  obtain ⟨_, hwrow, _⟩ := hops.at' j k p wa wc win hy
  have hw2000 := hwin j k p wa wc win hy
  have hwwf : ∀ x ∈ win, I64 x := hwf2 _ (List.mem_of_getElem? hy)
  rw [Int.toNat_natCast]
  refine ⟨_, _, _, _, _, hc, al_intro fun b w8 hb8 hE8 hs8 hs8' => ?_⟩
  refine wr_intro (n := 3) hb8 (by simp) fun w9 hb9 hm9 _ => ?_
  have hE79 : Ext w7 w9 := hE8.new hm9 (fun k hk => by subst hk; omega)
  have hb9 : w9.heap[b]? = some (.cells #[.int .i64 k, .int .i64 p, .slice wa win.length wc] 61 (0, 0)) := hb9
  have hlt7 := h7.lt
  have hltg := g7.lt
  have hltB := hmap.lt
  have hbF : ¬ F b := fun hk => by have := hlt7 b hk; omega
  have hbG : ¬ G b := fun hk => by have := hltg b hk; omega
  have hE9 := hE7.trans hE79
  refine ⟨_, _, _, by rw [add_mk]; exact cell_blk hb9 rfl, fun m2 pp nn cc i w10 => ∃ (q : Nat) (ys : List Int), i = (q : Int) ∧ m2 + q = win.length ∧ nn = ys.length ∧ ys.length ≤ q ∧ (∀ x ∈ ys, x ∉ l) ∧ ORow w10 3 1 intF (.slice pp nn cc) ys ∧
      (∀ j, (Value.slice pp nn cc).ownBlock = some j → w9.heap.size ≤ j) ∧ Ext w9 w10,
    ⟨win.length, 0, [], rfl, rfl, rfl, Nat.le_refl _, (fun x hx => by simp at hx), ORow.nil _ _, (fun j hj => by simp [Value.ownBlock] at hj), Mod.refl _ _⟩, ?_⟩
  rintro m2 jv pp nn cc i w10 ⟨q, ys, rfl, hm2, rfl, hyq, hys, hrow10, hown10, hE10⟩
  have hE910 := hE9.trans hE10
  refine ifD (fun hq => ⟨by omega, hq, ?_⟩) (fun hq => ?_)
  · obtain ⟨c, hcx⟩ : ∃ c, win[q]? = some c := ⟨_, List.getElem?_eq_getElem (by omega)⟩
    rw [Int.toNat_natCast]
    have eq1 : IntKind.i64.wrap ((q : Int) + 1) = ((q + 1 : Nat) : Int) := by rw [wrap_i64 (by omega) (by omega)]; rfl
    refine (hwrow.ext hE910).int hcx ⟨_, w10, own_look (hmap.ext (hE79.trans hE10)) (hwwf c (List.mem_of_getElem? hcx)), ?_⟩
    by_cases hcl : c ∈ l
    · exact ifB_false (by simp [hcl]) ⟨m2 - 1, by omega, q + 1, ys, eq1, by omega, rfl, by omega, hys, hrow10, hown10, hE10⟩
    · refine ifB_true (by simp [hcl]) (al_intro fun b2 w11 hb2 hE11 hs11 hs11' => ?_)
      obtain ⟨p', c', w12, hr, ho, hm12, hne⟩ := ORow.push elemI intF_len intF_one (hrow10.keep (Ext.mod (F := fun _ => False) hE11) (fun _ _ x => x)) 32 ⟨b2, 0, none⟩ 1 c (cells_all (vs := [_]) hb2) (by simp only [maxLen]; omega) (by omega)
      refine ⟨p', _, c', w12, hr, m2 - 1, by omega, q + 1, ys ++ [c], eq1, by omega, by simp, by simp; omega, fun x hx => ?_, ho, fun j hj => ?_, (hE10.trans hE11).new hm12 hown10⟩
      · rcases List.mem_append.1 hx with hx | hx
        · exact hys x hx
        · rw [List.mem_singleton.1 hx]; exact hcl
      · rcases hne j hj with e | e
        · exact hown10 j e
        · have a1 := hE10.size; have a2 := hE11.size; omega
  have hE710 := hE79.trans hE10
  have h10 := h7.ext hE710
  have g10 := g7.ext hE710
  have hmap10 := hmap.ext hE710
  have hb10 := hE10.keep hb9
  have c0 : w10.cell? ((Addr.mk b 0 none).add 0) = some (.int .i64 k) := by rw [add_mk]; exact cell_blk hb10 rfl
  have c1 : ∀ w11 : World, w11.heap[b]? = some (.cells #[.int .i64 k, .int .i64 p, .slice wa win.length wc] 61 (0, 0)) → w11.cell? ((Addr.mk b 0 none).add 1) = some (.int .i64 p) := fun w11 h => by rw [add_mk]; exact cell_blk h rfl
  have swap : ∀ j, G j → ¬ F j := fun j hj hj' => hdis j hj' hj
  have hlenP : hs.length ≤ 4096 := by rw [h7.len]; exact hp4
  refine ⟨fun w11 => ∃ hs gs : List Bool, Alike hs gs C' l ∧ IMap w11 Tryd.prog 3 .i64 B (setM l) sz ∧ MH w11 mb F n' C' hs ∧ MH w11 nb G n' C' gs ∧ Ext w w11, ⟨_, c0, ifB_intro (fun _ => ?_) (fun _ => ifB_intro (fun _ => ?_) (fun _ => ?_))⟩, ?_⟩
  · -- somebody else takes
    refine .of (mtake_any (tab.ext hE910) h10 (ORow.rowAt intF_len hrow10) (by simp only [maxLen]; omega)) ?_
    rintro r w11 ⟨rfl, h11, hm11⟩
    exact ⟨_, _, rfl, _, gs, hal.take_other hys, hmap10.keep hm11 hBF, h11, g10.keep hm11 swap, hE910.new hm11 hnew0⟩
  · -- somebody else gives
    refine ⟨_, c1 _ hb10, .of (mcolour_any h10 p) ?_⟩
    rintro r w11 ⟨rfl, rfl⟩
    refine ⟨_, rfl, _, w11, own_look hmap10 (mCol_i64 hc32 p hlenP), ifB_intro (fun hnot => ⟨_, c1 _ hb10, .of (mgive_any h10 p) ?_⟩) (fun _ => ⟨hs, gs, hal, hmap10, h10, g10, hE910⟩)⟩
    rintro r w12 ⟨rfl, h12, hm12⟩
    refine ⟨_, rfl, _, gs, hal.give_other fun hin hmem => ?_, hmap10.keep hm12 hBF, h12, g10.keep hm12 swap, hE910.new hm12 hnew0⟩
    have : mCol hs.length C' p ∈ l := by rw [mCol, if_pos hin]; exact hmem
    simp [this] at hnot
  · -- both take
    obtain ⟨e1, e2, hal'⟩ := hal.take_both
    refine .of (mtake_any (tab.ext hE910) h10 (hrow.ext hE910) hln63) ?_
    rintro r w11 ⟨rfl, h11, hm11⟩
    have hE11 := hE910.new hm11 hnew0
    refine ⟨_, _, rfl, .of (mtake_any (tab.ext hE11) (g10.keep hm11 swap) (hrow.ext hE11) hln63) ?_⟩
    rintro r w12 ⟨rfl, g12, hm12⟩
    have hE12 := hE11.new hm12 hnewg0
    have h12 := h11.keep hm12 hdis
    have hmap12 := (hmap10.keep hm11 hBF).keep hm12 hBG
    rw [← e1, ← e2]
    refine ⟨_, _, rfl, ifB_false (by simp) (ifB_false (by simp) (ifB_intro (fun hok => .of (mcolour_any h12 _) ?_) (fun _ => ⟨_, _, hal', hmap12, h12, g12, hE12⟩)))⟩
    rintro r w13 ⟨rfl, rfl⟩
    have hlen' : (mTakeH hs C' l).length ≤ 4096 := by rw [len_mTakeH]; exact hlenP
    refine ⟨_, rfl, _, w13, own_look hmap12 (mCol_i64 hc32 _ hlen'), ifB_false ?_ ⟨_, _, hal', hmap12, h12, g12, hE12⟩⟩
    have hlow := pg_low hs C' l
    cases hp : pg hs C' l with
    | none => simp [mTakeE, hp] at hok
    | some x =>
      rw [hp] at hlow
      have hx := (List.getElem?_eq_some_iff.1 hlow.1.1).1
      have ei : mTakeI hs C' l = (x : Int) := by simp only [mTakeI, hp]
      have em : mCol (mTakeH hs C' l).length C' (mTakeI hs C' l) ∈ l := by
        rw [ei, len_mTakeH, mCol, if_pos ⟨by omega, by omega⟩, tmod_nat]
        exact inW_mem.1 hlow.1.2
      simp [em]
  clear hal hmap h7 g7 hE7 hE79 hE9 hE8 hm9 hb9 h10 g10 hmap10 hb10 hE10 hE910 hE710 hrow10 hown10 c0 hlt7 hltg hltB hbF hbG hlenP
  rintro jv w11 ⟨hs, gs, hal, hmap, h11, g11, hE11⟩
  refine .of (mfree_any h11 (hrow.ext hE11) hln63) ?_
  rintro r w12 ⟨rfl, hE12⟩
  refine ⟨_, rfl, .of (mfree_any (g11.ext hE12) (hrow.ext (hE11.trans hE12)) hln63) ?_⟩
  rintro r w13 ⟨rfl, hE13⟩
  have hE1113 := hE12.trans hE13
  rw [hal.cnt]
  refine ⟨_, rfl, ifB_false (by simp) ⟨m - 1, by omega, j + 1, hs, gs, ?_, by omega, hal, hmap.ext hE1113, h11.ext hE1113, g11.ext hE1113, hE11.trans hE1113⟩⟩
  rw [wrap_i64 (by omega) (by omega)]; rfl

theorem win_wf {w : World} {x : WinSh.T} (h : WinSh.Ok w x) : ∀ y ∈ (show List Int from x.2), I64 y := fun y hy => by
  obtain ⟨i, hi⟩ := List.mem_iff_getElem?.1 hy
  exact (h.2.2.2 i y hi).2

theorem wops_wf {w : World} {x : WOpsSh.T} (h : WOpsSh.Ok w x) : ∀ c ∈ wops x, ∀ y ∈ c.2.2.2.2, I64 y := fun c hc y hy => by
  obtain ⟨i, hi⟩ := List.mem_iff_getElem?.1 hc
  obtain ⟨z, hz, rfl⟩ := wops_get x hi
  obtain ⟨j, hj⟩ := List.mem_iff_getElem?.1 hy
  exact ((h.2.2.2 i z hz).2.2.2.1.2.2.2 j y hj).2

theorem at_ColourApart (w : World) (tab : Tab w) (P Q : Int) {pa : Option Addr} {cap : Nat} {l : List Int} (hrow : RowAt w pa 1 intF l) (hwf : ∀ x ∈ l, I64 x) {pb : Option Addr} {cap2 nn : Nat} {l2 : List COp} (hops : WOps w pb l2)
    (hwf2 : ∀ c ∈ l2, ∀ x ∈ c.2.2.2.2, I64 x) (hn : l2.length = nn) (hl63 : nn ≤ maxLen) :
    Calls Tryd.prog 11 #[.agg #[.int .i64 P, .int .i64 Q], .slice pa l.length cap, .slice pb nn cap2] w (Ret (Yes w)) := by
  subst hn
  exact core_ColourApart w tab P Q hrow hwf hops hwf2 hl63

theorem walk_ColourApart (w : World) (tab : Tab w) (c : CfgSh.T) (okc : CfgSh.Ok w c) (x : WinSh.T) (okx : WinSh.Ok w x) (y : WOpsSh.T) (ok : WOpsSh.Ok w y) :
    Calls Tryd.prog 11 #[CfgSh.val c, WinSh.val x, WOpsSh.val y] w (Ret (Yes w)) :=
  at_ColourApart w tab c.1 c.2.1 (pa := x.1.1) (cap := x.1.2) (l := x.2) (win_row okx) (win_wf okx) (pb := y.1.1) (cap2 := y.1.2) (l2 := wops y) (wops_row ok) (wops_wf ok) (wops_len y) (Nat.le_trans ok.1 ok.2.1)

end Go.Proofs.YtaobcnagdceaeaaDoor
