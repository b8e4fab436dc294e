/- The walks of layer 2's statements: ShelfBack, ShelfPlays. Conditions: the table of TrailingZeros64 is laid; the arguments' cells are there. -/
import Derived.Test.YtaobcnagdceaeaaDoorWShelfA
import Derived.Test.YtaobcnagdceaeaaDoorGwOwn
set_option linter.unusedVariables false
set_option linter.unusedSimpArgs false
namespace Go.Proofs.YtaobcnagdceaeaaDoor
open Go.RowKit

theorem elemInt : ElemOk Tryd.prog 32 3 1 8 := ⟨rfl, _, _, rfl, rfl, rfl, rfl, rfl⟩

theorem int_len (x : Int) : (intF x).length = 1 := rfl
theorem int_one (x : Int) (u : Value) (h : u ∈ intF x) : u.oneCell' = true := by
  simp only [intF, List.mem_singleton] at h
  subst h
  rfl

theorem cell_one {w : World} {b : Nat} {v : Value} {T : TypeId} (h : w.heap[b]? = some (.cells #[v] T (0, 0))) : CellsAt w ⟨b, 0, none⟩ [v] := cells_all (vs := [v]) h

/-! ### ShelfPlays -/

theorem walk_ShelfPlays (w : World) (tab : Tab w) (n : Int) (hn : -9223372036854775808 ≤ n ∧ n ≤ 9223372036854775807) (x : OpsSh.T) (ok : OpsSh.Ok w x) : Calls Tryd.prog 7 #[.int .i64 n, OpsSh.val x] w (Ret (Yes w)) := by
  have hrow := ops_row ok
  obtain ⟨⟨pa, cap⟩, l⟩ := x
  refine VC.garthlaw02_ShelfPlays.ok ?_
  unfold VC.garthlaw02_ShelfPlays
  refine ⟨fun b w1 => w1 = w ∧ (b = false → l.length ≤ 500), ?_, ?_⟩
  · have hb : decide (((l.length : Nat) : Int) > 500) = false → l.length ≤ 500 := fun q => by have := of_decide_eq_false q; omega
    exact ifB_intro (fun _ => ifB_intro (fun _ => ⟨rfl, fun q => by cases q⟩) (fun _ => ⟨rfl, hb⟩)) (fun _ => ⟨rfl, hb⟩)
  rintro jv b w0 ⟨rfl, hl⟩
  refine ifB_intro (fun _ => .of (awake_any tab) ?_) (fun hb => .of (new_any w0 n) ?_)
  · rintro r w1 ⟨rfl, hE⟩
    exact ⟨_, rfl, rfl, hE⟩
  have hl := hl hb
  rintro r w1 (⟨hno, rfl, rfl⟩ | ⟨hn0, hn1, p, gb, rfl, h1, hE1, hnew⟩)
  · refine ⟨_, _, rfl, .of (refNew_any w1 n) ?_⟩
    rintro r w2 (⟨_, rfl, rfl⟩ | ⟨hn0, hn1, _⟩)
    · refine ⟨_, _, rfl, .of (awake_any tab) ?_⟩
      rintro r w3 ⟨rfl, hE⟩
      exact ⟨_, rfl, ifB_false rfl (ifB_false rfl (ifB_false rfl (ifB_true rfl ⟨rfl, hE⟩)))⟩
    · exact absurd ⟨hn0, hn1⟩ hno
  refine ⟨_, _, rfl, .of (refNew_any w1 n) ?_⟩
  rintro r w2 (⟨hno, _⟩ | ⟨_, _, q, qb, rfl, h2, hE2, hnew2⟩)
  · exact absurd ⟨hn0, hn1⟩ hno
  have hE12 := hE1.trans hE2
  refine ⟨_, _, rfl, .of (awake_any (tab.ext hE12)) ?_⟩
  rintro r w3 ⟨rfl, hE3⟩
  have hE13 := hE12.trans hE3
  have hpos : 0 < w0.heap.size := by
    have := lt_of_blk (World.block_lt_of_cell? w0 _ (tab 0 0 rfl) |> fun h => Array.getElem?_eq_getElem h)
    omega
  have hlt1 := h1.lt
  obtain ⟨nn, rfl⟩ := Int.eq_ofNat_of_zero_le hn0
  rw [Int.toNat_natCast] at h1 h2
  refine ⟨_, rfl, ifB_false rfl (ifB_false rfl (ifB_false rfl (ifB_false rfl
    ⟨fun m pp i w4 => ∃ (j p gb : Nat) (hs : List Bool), i = (j : Int) ∧ m + j = l.length ∧ pp = some ⟨p, 0, none⟩ ∧ hs.length = nn ∧ SH w4 p gb hs ∧ RS w4 q qb hs ∧ (∀ k, fpS p gb k → ¬ fpS q qb k) ∧ (∀ k, fpS p gb k → w0.heap.size ≤ k) ∧ Ext w0 w4,
      ⟨l.length, 0, p, gb, _, rfl, rfl, rfl, by simp, (h1.ext hE2).ext hE3, h2.ext hE3, fun k hk hk' => by have a1 := hlt1 k hk; have a2 := hnew2 k hk'; omega, hnew, hE13⟩, ?_⟩)))⟩
  have hq0 : ∀ k, fpS q qb k → w0.heap.size ≤ k := fun k hk => Nat.le_trans hE1.size (hnew2 k hk)
  clear h1 h2 hlt1 hnew hE1 hE2 hE3 hE12 hE13 hnew2
  rintro m jv pp i w4 ⟨j, p, gb, hs, rfl, hm, rfl, hlen, h4, hr4, hdis, hnew, hE4⟩
  refine ifD (fun hj => ⟨by omega, by omega, ?_⟩) (fun hj => ⟨rfl, hE4⟩)
  have hj : j < l.length := by have hj : (j : Int) < (l.length : Int) := hj; omega
  obtain ⟨y, hy⟩ : ∃ y, l[j]? = some y := ⟨_, List.getElem?_eq_getElem hj⟩
  rw [Int.toNat_natCast]
  refine (hrow.ext hE4).pair hy (al_intro fun b w5 hb hE5 hs5 hs5' => ?_)
  refine wr_intro (n := 2) hb (by simp) fun w6 hb6 hm6 hs6 => ?_
  have hE46 : Ext w4 w6 := hE5.new hm6 (fun k hk => by subst hk; omega)
  have hE6 := hE4.trans hE46
  have h6 := h4.ext hE46
  have hr6 := hr4.ext hE46
  have c0 : w6.cell? ((Addr.mk b 0 none).add 0) = some (.int .i64 (opF y).1) := by rw [add_mk]; exact cell_blk hb6 rfl
  have hbS : ∀ {p gb : Nat}, SH w4 p gb hs → ¬ fpS p gb b := fun h hk => by have := h.lt b hk; omega
  have hbq : ¬ fpS q qb b := fun hk => by have := hr4.lt b hk; omega
  have hb0 : w0.heap.size ≤ b := by have := hE4.size; omega
  -- a copy goes on in its place
  have hcopy : ∀ (Z : Option Addr → World → Prop), (∀ (p' gb' : Nat) (w9 : World), SH w9 p' gb' hs → RS w9 q qb hs → (∀ k, fpS p' gb' k → ¬ fpS q qb k) → (∀ k, fpS p' gb' k → w0.heap.size ≤ k) → ¬ fpS p' gb' b → Ext w0 w9 → w9.heap[b]? = some (.cells #[.int .i64 (opF y).1, .int .i64 (opF y).2] 37 (0, 0)) → Z (some ⟨p', 0, none⟩) w9) →
      CallS Tryd.prog 22 #[.pointer (some ⟨p, 0, none⟩)] w6 fun v31 w32 => ∃ p33, v31 = .pointer p33 ∧ CallS Tryd.prog 16 #[.pointer (some ⟨p, 0, none⟩)] w32 fun v34 w35 => ∃ i36 i37, v34 = .tuple #[.int .i64 i36, .int .i64 i37] ∧ Z p33 w35 := by
    intro Z hZ
    refine .of (copy_any h6) ?_
    rintro r w7 ⟨p', gb', rfl, h7, hE7, hnew7⟩
    refine ⟨_, rfl, .of (take_any (tab.ext (hE6.trans hE7)) (h6.ext hE7)) ?_⟩
    rintro r w8 ⟨rfl, _, hm8⟩
    have hlt6 := h6.lt
    have hlq6 := hr6.lt
    have hblt := lt_of_blk hb6
    refine ⟨_, _, rfl, hZ p' gb' w8 (h7.keep hm8 fun k hk hk' => ?_) ((hr6.ext hE7).keep hm8 fun k hk hk' => hdis k hk' hk) (fun k hk hk' => ?_) (fun k hk => ?_) (fun hk => ?_) ((hE6.trans hE7).new hm8 hnew) (hm8.keep (hE7.keep hb6) (hbS h4))⟩
    · have a1 := hnew7 k hk; have a2 := hlt6 k hk'; omega
    · have a1 := hnew7 k hk; have a2 := hlq6 k hk'; omega
    · exact Nat.le_trans hE6.size (hnew7 k hk)
    · have := hnew7 b hk; omega
  refine ⟨fun pp w7 => ∃ (p gb : Nat), pp = some ⟨p, 0, none⟩ ∧ SH w7 p gb hs ∧ RS w7 q qb hs ∧ (∀ k, fpS p gb k → ¬ fpS q qb k) ∧ (∀ k, fpS p gb k → w0.heap.size ≤ k) ∧ ¬ fpS p gb b ∧ Ext w0 w7 ∧ w7.heap[b]? = some (.cells #[.int .i64 (opF y).1, .int .i64 (opF y).2] 37 (0, 0)),
    ⟨_, c0, ifB_intro (fun _ => hcopy _ fun p' gb' w9 a1 a2 a3 a4 a5 a6 a7 => ⟨p', gb', rfl, a1, a2, a3, a4, a5, a6, a7⟩) (fun _ => ⟨_, c0, ifB_intro (fun _ => hcopy _ fun p' gb' w9 a1 a2 a3 a4 a5 a6 a7 => ⟨p', gb', rfl, a1, a2, a3, a4, a5, a6, a7⟩) (fun _ => ⟨p, gb, rfl, h6, hr6, hdis, hnew, hbS h4, hE6, hb6⟩)⟩)⟩, ?_⟩
  clear hcopy hbS h6 hr6 h4 hr4 hdis hnew c0
  rintro jv pp w7 ⟨p, gb, rfl, h7, hr7, hdis, hnew, hbn, hE7, hb7⟩
  have hp0 : ¬ fpS p gb 0 := fun hk => by have := hnew 0 hk; omega
  refine ⟨fun bb w8 => bb = false ∧ ∃ hs' : List Bool, hs'.length = nn ∧ SH w8 p gb hs' ∧ RS w8 q qb hs' ∧ Ext w0 w8, ?_, ?_⟩
  · rintro w8 rfl
    have hE8 := Ext.drew w7
    refine ⟨_, _, cells_all (vs := [.int .i64 (opF y).1, .int .i64 (opF y).2]) (hE8.keep hb7), .of (done_any (tab.ext (hE7.trans hE8)) (Nat.lt_of_lt_of_le hpos (hE7.trans hE8).size) (h7.ext hE8) (hr7.ext hE8) hdis hp0 _ _) ?_⟩
    rintro r w9 ⟨rfl, hs', hl', h9, hr9, hm9⟩
    have hb9 := hm9.keep (hE8.keep hb7) (fun hk => hk.elim hbn hbq)
    have hE9 : Ext w0 w9 := (hE7.trans hE8).new hm9 (fun k hk => hk.elim (hnew k) (hq0 k))
    refine ⟨_, rfl, rfl, ifB_false rfl (.of (free_any h9) ?_)⟩
    rintro r w10 ⟨rfl, rfl⟩
    refine ⟨_, rfl, .of (refFree_any hr9) ?_⟩
    rintro r w11 ⟨rfl, rfl⟩
    refine ⟨_, rfl, rfl, ifB_false (by simp) (.of (lowest_any (tab.ext hE9) h9) ?_)⟩
    rintro r w12 ⟨rfl, rfl⟩
    refine ⟨_, rfl, .of (refLowest_any hr9) ?_⟩
    rintro r w13 ⟨rfl, rfl⟩
    have c1 : w13.cell? ((Addr.mk b 0 none).add 1) = some (.int .i64 (opF y).2) := by rw [add_mk]; exact cell_blk hb9 rfl
    refine ⟨_, rfl, rfl, ifB_false (by simp) ⟨_, c1, _, c1, .of (taken_any h9 _) ?_⟩⟩
    rintro r w14 ⟨rfl, rfl⟩
    refine ⟨_, rfl, ⟨_, c1, rfl⟩, .of (refTaken_any hr9 _) ?_⟩
    rintro r w15 ⟨rfl, rfl⟩
    refine ⟨_, rfl, rfl, rfl, ifB_false ?_ (.of (size_any h9) ?_)⟩
    · show (!(isTaken hs' (opF y).2) == isTaken hs' (opF y).2) = false
      cases isTaken hs' (opF y).2 <;> rfl
    · rintro r w16 ⟨rfl, rfl⟩
      exact ⟨_, rfl, rfl, by rw [hl', hlen]; simp, hs', by omega, h9, hr9, hE9⟩
  · rintro jv bb w8 ⟨rfl, hs', hl', h8, hr8, hE8⟩
    refine ifB_false rfl ⟨m - 1, by omega, j + 1, p, gb, hs', ?_, by omega, rfl, hl', h8, hr8, hdis, hnew, hE8⟩
    rw [wrap_i64 (by omega) (by omega)]; rfl

/-! ### ShelfBack -/

/-- hs: what was taken of H, beside. -/
structure Mk (H : List Bool) (T : List Nat) (hs : List Bool) : Prop where
  len : hs.length = H.length
  at' : ∀ i, hs[i]? = if i ∈ T then some true else H[i]?
  was : ∀ i ∈ T, H[i]? = some false
  nodup : T.Nodup

theorem Mk.start (H : List Bool) : Mk H [] H := ⟨rfl, fun i => by simp, fun i hi => by simp at hi, List.nodup_nil⟩

theorem Mk.take {H hs : List Bool} {T : List Nat} (h : Mk H T hs) {k : Nat} (hk : hs[k]? = some false) : Mk H (T ++ [k]) (hs.set k true) := by
  have hk' := h.at' k
  have hn : k ∉ T := fun q => by rw [if_pos q, hk] at hk'; simp at hk'
  rw [if_neg hn, hk] at hk'
  have hkl := (List.getElem?_eq_some_iff.1 hk).1
  refine ⟨by simpa using h.len, fun i => ?_, fun i hi => ?_, ?_⟩
  · rw [List.getElem?_set]
    by_cases e : k = i
    · subst e
      rw [if_pos rfl, if_pos hkl, if_pos (by simp)]
    · rw [if_neg e, h.at' i]
      simp only [List.mem_append, List.mem_singleton]
      have : ¬ i = k := fun q => e q.symm
      simp [this]
  · rcases List.mem_append.1 hi with hi | hi
    · exact h.was i hi
    · rw [List.mem_singleton.1 hi]; exact hk'.symm
  · rw [List.nodup_append]
    refine ⟨h.nodup, by simp, fun a ha b hb => ?_⟩
    rw [List.mem_singleton.1 hb]
    exact fun q => hn (q ▸ ha)

theorem Mk.give {H hs : List Bool} {T : List Nat} {k : Nat} (h : Mk H (k :: T) hs) : hs[k]? = some true ∧ Mk H T (hs.set k false) := by
  have hk : hs[k]? = some true := by rw [h.at' k, if_pos (by simp)]
  have hkl := (List.getElem?_eq_some_iff.1 hk).1
  obtain ⟨hn, hT⟩ := List.nodup_cons.1 h.nodup
  refine ⟨hk, by simpa using h.len, fun i => ?_, fun i hi => h.was i (by simp [hi]), hT⟩
  rw [List.getElem?_set]
  by_cases e : k = i
  · subst e
    rw [if_pos rfl, if_pos hkl, if_neg hn, h.was k (by simp)]
  · rw [if_neg e, h.at' i]
    have : ¬ i = k := fun q => e q.symm
    simp [this]

theorem Mk.done {H hs : List Bool} (h : Mk H [] hs) : hs = H := List.ext_getElem? fun i => by rw [h.at' i]; simp

theorem walk_ShelfBack (w : World) (tab : Tab w) (x0 : Int) (hx0 : -9223372036854775808 ≤ x0 ∧ x0 ≤ 9223372036854775807) (x : OpsSh.T) (ok : OpsSh.Ok w x) (y : IntsSh.T) (oky : IntsSh.Ok w y) :
    Calls Tryd.prog 6 #[.int .i64 x0, OpsSh.val x, IntsSh.val y] w (Ret (Yes w)) := by
  have hrow := ops_row ok
  have hrow2 := ints_row oky
  obtain ⟨⟨pa, cap⟩, l⟩ := x
  obtain ⟨⟨pb, cap2⟩, l2⟩ := y
  obtain ⟨n, hn, hlt⟩ := size_mod x0 500 (by decide) (by decide)
  have hn : IntKind.i64.wrap ((IntKind.u64.wrap x0).tmod 500) = (n : Int) := hn
  refine VC.garthlaw02_ShelfBack.ok ?_
  unfold VC.garthlaw02_ShelfBack
  simp only [hn]
  have hawake : CallS Tryd.prog 15 #[] w fun v0 w1 => ∃ b2, v0 = .bool b2 ∧ Yes w (.bool b2) w1 := by
    refine .of (awake_any tab) ?_
    rintro r w1 ⟨rfl, hE⟩
    exact ⟨_, rfl, rfl, hE⟩
  refine ⟨by decide, ifD (fun _ => hawake) (fun hl => ifD (fun _ => hawake) (fun hl2 => .of (new_any w n) ?_))⟩
  have hl : l.length ≤ 300 := by have hl : ¬ (l.length : Int) > 300 := hl; omega
  have hl2 : l2.length ≤ 300 := by have hl2 : ¬ (l2.length : Int) > 300 := hl2; omega
  rintro r w1 (⟨hno, _⟩ | ⟨_, _, p, gb, rfl, h1, hE1, hnew⟩)
  · exact absurd ⟨by omega, by omega⟩ hno
  rw [Int.toNat_natCast] at h1
  refine ⟨_, _, rfl, fun m i w3 => ∃ (j : Nat) (hs : List Bool), i = (j : Int) ∧ m + j = l.length ∧ hs.length = n ∧ SH w3 p gb hs ∧ Ext w w3, ⟨l.length, 0, _, rfl, rfl, by simp, h1, hE1⟩, ?_⟩
  clear h1 hE1
  rintro m jv i w3 ⟨j, hs, rfl, hm, hlen, h3, hE3⟩
  refine ifD (fun hj => ⟨by omega, by omega, ?_⟩) (fun hj => .of (copy_any h3) ?_)
  · have hj : j < l.length := by have hj : (j : Int) < (l.length : Int) := hj; omega
    obtain ⟨y, hy⟩ : ∃ y, l[j]? = some y := ⟨_, List.getElem?_eq_getElem hj⟩
    rw [Int.toNat_natCast]
    refine (hrow.ext hE3).pair hy (al_intro fun b w4 hb hE4 hs4 hs4' => ?_)
    refine wr_intro (n := 2) hb (by simp) fun w5 hb5 hm5 hs5 => ?_
    have hE5 : Ext w3 w5 := hE4.new hm5 (fun k hk => by subst hk; omega)
    have h5 := h3.ext hE5
    have hE35 := hE3.trans hE5
    have c0 : w5.cell? ((Addr.mk b 0 none).add 0) = some (.int .i64 (opF y).1) := by rw [add_mk]; exact cell_blk hb5 rfl
    have c1 : w5.cell? ((Addr.mk b 0 none).add 1) = some (.int .i64 (opF y).2) := by rw [add_mk]; exact cell_blk hb5 rfl
    have ej : IntKind.i64.wrap ((j : Int) + 1) = ((j + 1 : Nat) : Int) := by rw [wrap_i64 (by omega) (by omega)]; rfl
    refine ⟨_, c0, ifB_intro (fun _ => ⟨_, c1, .of (takeAt_any h5 _) ?_⟩) (fun _ => ⟨_, c1, .of (give_any h5 _) ?_⟩)⟩
    · rintro r w6 ⟨rfl, h6, hm6⟩
      exact ⟨_, rfl, m - 1, by omega, j + 1, _, ej, by omega, by rw [len_takeAtH, hlen], h6, hE35.new hm6 hnew⟩
    · rintro r w6 ⟨rfl, h6, hm6⟩
      exact ⟨_, rfl, m - 1, by omega, j + 1, _, ej, by omega, by rw [len_giveH, hlen], h6, hE35.new hm6 hnew⟩
  clear hj hm j m jv
  rintro r w4 ⟨q, qb, rfl, hq4, hE34, hnewq⟩
  have hlt3 := h3.lt
  have hdis : ∀ k, fpS p gb k → ¬ fpS q qb k := fun k hk hk' => by have a1 := hlt3 k hk; have a2 := hnewq k hk'; omega
  have hnq : ∀ k, fpS q qb k → w.heap.size ≤ k := fun k hk => Nat.le_trans hE3.size (hnewq k hk)
  have h4 := h3.ext hE34
  have hE4 := hE3.trans hE34
  refine ⟨_, rfl, fun m pp nn cc i w5 => ∃ (j : Nat) (hs' : List Bool) (T : List Nat), i = (j : Int) ∧ m + j = l2.length ∧ nn = T.length ∧ T.length ≤ j ∧ Mk hs T hs' ∧ SH w5 p gb hs' ∧ SH w5 q qb hs ∧ Ext w w5 ∧
      ORow w5 3 1 intF (.slice pp nn cc) (T.map fun k : Nat => (k : Int)) ∧ (∀ k, (Value.slice pp nn cc).ownBlock = some k → w.heap.size ≤ k ∧ ¬ fpS p gb k ∧ ¬ fpS q qb k),
    ⟨l2.length, 0, hs, [], rfl, rfl, rfl, Nat.le_refl _, Mk.start hs, h4, hq4, hE4, ORow.nil _ _, fun k hk => by simp [Value.ownBlock] at hk⟩, ?_⟩
  clear h3 hE3 hE34 hq4 h4 hE4 hlt3 hnewq
  rintro m jv pp nn cc i w5 ⟨j, hs', T, rfl, hm, rfl, hTj, hMk, h5, hq5, hE5, hT5, hTn⟩
  refine ifD (fun hj => ⟨by omega, by omega, ?_⟩) (fun hj => ?_)
  · have hj : j < l2.length := by have hj : (j : Int) < (l2.length : Int) := hj; omega
    obtain ⟨y, hy⟩ : ∃ y, l2[j]? = some y := ⟨_, List.getElem?_eq_getElem hj⟩
    have ej : IntKind.i64.wrap ((j : Int) + 1) = ((j + 1 : Nat) : Int) := by rw [wrap_i64 (by omega) (by omega)]; rfl
    rw [Int.toNat_natCast]
    refine (hrow2.ext hE5).int hy (.of (takeAt_any h5 y) ?_)
    rintro r w6 ⟨rfl, h6, hm6⟩
    have hq6 := hq5.keep hm6 (fun k hk hk' => hdis k hk' hk)
    have hE6 := hE5.new hm6 hnew
    have hT6 := hT5.keep hm6 (fun k hk => (hTn k hk).2.1)
    refine ⟨_, rfl, ifB_intro (fun hok => ?_) (fun hno => ⟨m - 1, by omega, j + 1, _, T, ej, by omega, rfl, by omega, ?_, h6, hq6, hE6, hT6, hTn⟩)⟩
    · -- taken
      have hok : takeAtE hs' y = 0 := eq_of_beq hok
      have hin : InS hs' y := by
        by_cases hin : InS hs' y
        · exact hin
        · simp [takeAtE, if_neg hin] at hok
      obtain ⟨k, rfl⟩ := Int.eq_ofNat_of_zero_le hin.1
      have hkl : k < hs'.length := by have := hin.2; omega
      have hkf : hs'[k]? = some false := by
        rw [List.getElem?_eq_getElem hkl]
        cases hc : hs'[k] with
        | false => rfl
        | true =>
          have h' : hs'[k]? = some true := by rw [List.getElem?_eq_getElem hkl, hc]
          simp [takeAtE, if_pos hin, h'] at hok
      have eH : takeAtH hs' (k : Int) = hs'.set k true := by simp only [takeAtH, if_pos hin, Int.toNat_natCast]
      rw [eH] at h6
      refine al_intro fun b w7 hb hE7 hs7 hs7' => ?_
      have hT7 := hT6.keep (Ext.mod (F := fun _ => False) hE7) (fun _ _ x => x)
      obtain ⟨p', c', w8, hr, hT8, hm8, hn8⟩ := ORow.push elemInt int_len int_one hT7 32 ⟨b, 0, none⟩ 1 (k : Int) (cell_one hb) (by simp only [maxLen, List.length_map]; omega) (by simp only [List.length_map]; omega)
      rw [List.length_map] at hr hT8 hn8
      have hE8 : Ext w w8 := (hE6.trans hE7).new hm8 (fun k hk => (hTn k hk).1)
      refine ⟨p', _, c', w8, hr, m - 1, by omega, j + 1, _, T ++ [k], ej, by omega, by simp, by simp; omega, hMk.take hkf, (h6.ext hE7).keep hm8 (fun k hk hk' => (hTn k hk').2.1 hk), (hq6.ext hE7).keep hm8 (fun k hk hk' => (hTn k hk').2.2 hk), hE8, by simpa using hT8, fun k hk => ?_⟩
      rcases hn8 k hk with e | e
      · exact hTn k e
      · have a0 := hE6.size
        have a1 := hE7.size
        exact ⟨by omega, fun q1 => by have := h6.lt k q1; omega, fun q1 => by have := hq6.lt k q1; omega⟩
    · have eH : takeAtH hs' y = hs' := by
        unfold takeAtH
        split
        · rename_i hin
          obtain ⟨k, rfl⟩ := Int.eq_ofNat_of_zero_le hin.1
          have hkl : k < hs'.length := by have := hin.2; omega
          rw [Int.toNat_natCast]
          refine set_same ?_
          rw [List.getElem?_eq_getElem hkl]
          cases hc : hs'[k] with
          | true => rfl
          | false =>
            have h' : hs'[k]? = some false := by rw [List.getElem?_eq_getElem hkl, hc]
            simp [takeAtE, if_pos hin, h'] at hno
        · rfl
      rw [eH]
      exact hMk
  have hT300 : T.length ≤ 300 := by omega
  clear hTj hj hm j m jv hrow2
  -- all are given back
  refine ⟨fun m i w6 => ∃ (j : Nat) (hs'' : List Bool), i = (j : Int) ∧ m + j = T.length ∧ Mk hs (T.drop j) hs'' ∧ SH w6 p gb hs'' ∧ SH w6 q qb hs ∧ Ext w w6 ∧ ORow w6 3 1 intF (.slice pp T.length cc) (T.map fun k : Nat => (k : Int)),
    ⟨T.length, 0, hs', rfl, rfl, by simpa using hMk, h5, hq5, hE5, hT5⟩, ?_⟩
  clear hMk h5 hq5 hE5 hT5
  rintro m jv i w6 ⟨j, hs'', rfl, hm, hMk, h6, hq6, hE6, hT6⟩
  refine ifD (fun hj => ⟨by omega, by omega, ?_⟩) (fun hj => ?_)
  · have hj : j < T.length := by omega
    have hdrop : T.drop j = T[j] :: T.drop (j + 1) := List.drop_eq_getElem_cons hj
    rw [hdrop] at hMk
    obtain ⟨hk, hMk'⟩ := hMk.give
    obtain ⟨a, rfl, hc⟩ := ORow.cells int_len hT6 (i := j) (x := ((T[j] : Nat) : Int)) (by rw [List.getElem?_map, List.getElem?_eq_getElem hj]; rfl)
    have hc0 := hc 0 _ rfl
    rw [Nat.mul_one, Addr.add_add] at hc0
    rw [Int.toNat_natCast]
    refine ⟨_, hc0, .of (give_any h6 _) ?_⟩
    rintro r w7 ⟨rfl, h7, hm7⟩
    have hin : InS hs'' ((T[j] : Nat) : Int) := by have := (List.getElem?_eq_some_iff.1 hk).1; omega
    have e1 : giveE hs'' ((T[j] : Nat) : Int) = 0 := by simp only [giveE, if_pos hin, Int.toNat_natCast, hk, if_true]
    have e2 : giveH hs'' ((T[j] : Nat) : Int) = hs''.set T[j] false := by simp only [giveH, if_pos hin, Int.toNat_natCast]
    rw [e1]
    rw [e2] at h7
    refine ⟨_, rfl, ifB_false rfl ⟨m - 1, by omega, j + 1, _, ?_, by omega, hMk', h7, hq6.keep hm7 (fun k hk hk' => hdis k hk' hk), hE6.new hm7 hnew, hT6.keep hm7 (fun k hk => (hTn k hk).2.1)⟩⟩
    rw [wrap_i64 (by omega) (by omega)]; rfl
  have hd : hs'' = hs := by
    rw [List.drop_of_length_le (by omega)] at hMk
    exact hMk.done
  subst hd
  rw [wrap_i64 (n := (n : Int) + 1) (by omega) (by omega)]
  refine ⟨fun m i w7 => ∃ (j : Nat) (hs : List Bool), i = (j : Int) ∧ m + j = n + 1 ∧ SH w7 p gb hs ∧ SH w7 q qb hs ∧ Ext w w7, ⟨n + 1, 0, _, rfl, rfl, h6, hq6, hE6⟩, ?_⟩
  clear hm j m jv hMk h6 hq6 hE6 hT6 hj
  rintro m jv i w7 ⟨j, hs, rfl, hm, h7, hq7, hE7⟩
  refine ifD (fun hj => .of (take_any (tab.ext hE7) h7) ?_) (fun hj => .of (awake_any (tab.ext hE7)) ?_)
  · rintro r w8 ⟨rfl, h8, hm8⟩
    have hE8 := hE7.new hm8 hnew
    refine ⟨_, _, rfl, .of (take_any (tab.ext hE8) (hq7.keep hm8 (fun k hk hk' => hdis k hk' hk))) ?_⟩
    rintro r w9 ⟨rfl, h9, hm9⟩
    refine ⟨_, _, rfl, ifB_false (by simp) (ifB_false (by simp) ⟨m - 1, by omega, j + 1, _, ?_, by omega, h8.keep hm9 hdis, h9, hE8.new hm9 hnq⟩)⟩
    rw [wrap_i64 (by omega) (by omega)]; rfl
  · rintro r w8 ⟨rfl, hE8⟩
    exact ⟨_, rfl, rfl, hE7.trans hE8⟩

end Go.Proofs.YtaobcnagdceaeaaDoor
