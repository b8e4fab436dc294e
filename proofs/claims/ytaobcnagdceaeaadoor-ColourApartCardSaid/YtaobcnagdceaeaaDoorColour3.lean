/- The reference's map (garthref07); copies of windows; awake, long. Conditions: what is named is there. -/
import Derived.Test.YtaobcnagdceaeaaDoorColour2
set_option linter.unusedVariables false
set_option linter.unusedSimpArgs false
namespace Go.Proofs.YtaobcnagdceaeaaDoor
open Go.RowKit

/-! ### 'append([]int{}, window...)' -/

theorem elemI : ElemOk Tryd.prog 32 3 1 8 := ⟨rfl, _, _, rfl, rfl, rfl, rfl, rfl⟩
theorem intF_len (x : Int) : (intF x).length = 1 := rfl
theorem intF_one (x : Int) (u : Value) (h : u ∈ intF x) : u.oneCell' = true := by
  simp only [intF, List.mem_singleton] at h
  subst h
  rfl

theorem ORow.rowAt {w : World} {e : TypeId} {k : Nat} {X : Type} {f : X → List Value} (hf : ∀ x, (f x).length = k) {p : Option Addr} {n c : Nat} {l : List X} (h : ORow w e k f (.slice p n c) l) : RowAt w p k f l :=
  fun i x hi => h.cells hf hi

/-- A copy of a row of integers, in a new block. -/
theorem copy_ints {w w1 : World} {b : Nat} (hb : w1.heap[b]? = some (.cells #[] 3 (0, 0))) (hE : Ext w w1) (hs : w.heap.size = b) {pa : Option Addr} {cc : Nat} {l : List Int} (hrow : RowAt w pa 1 intF l) (hl : l.length ≤ 1048576) {K : Option Addr → Nat → Nat → World → Prop}
    (k : ∀ (p : Option Addr) (c : Nat) (w2 : World), RowAt w2 p 1 intF l → Ext w w2 → K p l.length c w2) :
    ∃ (p : Option Addr) (n c : Nat) (w2 : World), (Builtin.append_ #[32, 32] 32 #[.slice (some ⟨b, 0, none⟩) 0 0, .slice pa l.length cc]).run Tryd.prog w1 = .ok (.slice p n c) w2 ∧ K p n c w2 := by
  have hown : ORow w1 3 1 intF (.slice (some ⟨b, 0, none⟩) 0 0) ([] : List Int) := ⟨rfl, .inr ⟨b, 0, #[], rfl, Nat.zero_le _, hb, Nat.zero_le _, Nat.zero_le _, rfl, rfl⟩⟩
  cases pa with
  | none =>
    have hl0 : l = [] := by
      cases l with
      | nil => rfl
      | cons x l => obtain ⟨a, ha, _⟩ := hrow 0 x rfl; cases ha
    subst hl0
    obtain ⟨i, z, hi, _⟩ := elemI.info
    refine ⟨some ⟨b, 0, none⟩, _, 0, w1, ?_, k _ 0 w1 (fun i x hi => by simp at hi) hE⟩
    have e : (Builtin.append_ #[32, 32] 32 #[.slice (some ⟨b, 0, none⟩) 0 0, .slice none ([] : List Int).length cc]).run Tryd.prog w1 = .ok (.slice (some ⟨b, 0, none⟩) ([] : List Int).length 0) w1 := by
      simp [Builtin.append_, run_underlying elemI.slice, sizeOf, typeInfo, hi, Builtin.lenOf, Builtin.firstCells, loadCells, loadCellsFrom, storeCells]
    exact e
  | some a =>
    obtain ⟨p, c, w2, hr, ho, hm, hne⟩ := ORow.append elemI intF_len intF_one hown 32 a cc l (fun j x hx => by
      obtain ⟨a', ha', hc⟩ := hrow j x hx
      cases ha'
      exact hc.ext hE) (by simp only [maxLen, List.length_nil]; omega) (by simp only [List.length_nil]; omega)
    simp only [List.length_nil, Nat.zero_add, List.nil_append] at hr ho hne
    exact ⟨p, _, c, w2, hr, k p c w2 (ORow.rowAt intF_len ho) (hE.new hm (fun j hj => by simp only [Value.ownBlock, Option.some.injEq] at hj; omega))⟩

/-! ### the reference's map -/

structure RM (w : World) (q gb : Nat) (n C : Nat) (hs : List Bool) : Prop where
  head : w.heap[q]? = some (.cells #[.int .i64 ((n * C : Nat) : Int), .int .i64 (C : Int), .slice (some ⟨gb, 0, none⟩) hs.length hs.length] 55 (0, 0))
  data : w.heap[gb]? = some (.cells (fC hs).toArray 4 (0, 0))
  ne : q ≠ gb
  len : hs.length = n * C
  c1 : 1 ≤ C
  p4 : n * C ≤ 4096

theorem RM.keep {F : Nat → Prop} {w w' : World} {q gb n C : Nat} {hs : List Bool} (h : RM w q gb n C hs) (hm : Mod F w w') (hF : ∀ k, fpS q gb k → ¬ F k) : RM w' q gb n C hs :=
  ⟨hm.keep h.head (hF q (.inl rfl)), hm.keep h.data (hF gb (.inr rfl)), h.ne, h.len, h.c1, h.p4⟩

theorem RM.ext {w w' : World} {q gb n C : Nat} {hs : List Bool} (h : RM w q gb n C hs) (hm : Ext w w') : RM w' q gb n C hs := h.keep hm (fun _ _ x => x)

theorem RM.lt {w : World} {q gb n C : Nat} {hs : List Bool} (h : RM w q gb n C hs) : ∀ k, fpS q gb k → k < w.heap.size := by
  rintro k (rfl | rfl)
  · exact lt_of_blk h.head
  · exact lt_of_blk h.data

/-- Of: the map's configuration is read alone. -/
theorem of_any {w : World} {q C p : Nat} {P u : Value} {T : TypeId} (hq : w.heap[q]? = some (.cells #[P, .int .i64 (C : Int), u] T (0, 0))) (hC : 1 ≤ C) {pa : Option Addr} {cc : Nat} {l : List Int} (hrow : RowAt w pa 1 intF l) (hl63 : l.length ≤ maxLen) :
    Calls Tryd.prog 34 #[.pointer (some ⟨q, 0, none⟩), .int .i64 (p : Int), .slice pa l.length cc] w (Ret fun r w' => r = .bool (inW C l p) ∧ Ext w w') := by
  simp only [maxLen] at hl63
  refine VC.garthref07_Map_Of.ok ?_
  unfold VC.garthref07_Map_Of
  refine ⟨fun m i w1 => ∃ j : Nat, i = (j : Int) ∧ m + j = l.length ∧ inW C (l.take j) p = false ∧ Ext w w1, ⟨l.length, 0, rfl, rfl, rfl, Mod.refl _ _⟩, ?_⟩
  rintro m jv i w1 ⟨j, rfl, hm, hin, hE⟩
  refine ifD (fun hj => ?_) (fun hj => ⟨by rw [List.take_of_length_le (by omega)] at hin; rw [hin], hE⟩)
  rintro w2 rfl
  have hE2 := hE.trans (Ext.drew w1)
  obtain ⟨c, hc⟩ : ∃ c, l[j]? = some c := ⟨_, List.getElem?_eq_getElem (by omega)⟩
  have ej : IntKind.i64.wrap ((j : Int) + 1) = ((j + 1 : Nat) : Int) := by rw [wrap_i64 (by omega) (by omega)]; rfl
  refine ⟨by omega, hj, ?_⟩
  rw [Int.toNat_natCast]
  obtain ⟨a, rfl, hcell⟩ := (hrow.ext hE2) j c hc
  have hc0 := hcell 0 _ rfl
  rw [Nat.mul_one, Addr.add_add] at hc0
  simp only [someA, add_mk, Nat.zero_add]
  refine ⟨by trivial, _, hc0, _, cell_blk (hE2.keep hq) rfl, by omega, by trivial, ?_⟩
  have e : inW C (l.take (j + 1)) p = (c == ((p % C : Nat) : Int)) := by rw [take_snoc hc, inW_append, hin, inW_one, Bool.false_or]
  rw [tmod_nat]
  refine ifB_intro (fun hq => ⟨?_, hE2⟩) (fun hq => ⟨m - 1, by omega, j + 1, ej, by omega, by rw [e]; exact hq, hE2⟩)
  rw [hq] at e
  have : inW C l p = true := by
    unfold inW at e ⊢
    rw [List.any_eq_true] at e ⊢
    obtain ⟨x, hx, hx'⟩ := e
    exact ⟨x, List.mem_of_mem_take hx, hx'⟩
  rw [this]

theorem right_any (w : World) (P C : Int) : Calls Tryd.prog 56 #[.agg #[.int .i64 P, .int .i64 C]] w (Ret fun r w' => r = .bool (decide (CfgOk P C)) ∧ Ext w w') := by
  refine VC.garthref07_Right.ok ?_
  unfold VC.garthref07_Right
  refine al_intro fun b w1 hb hE hs hs' => ?_
  have c0 : w1.cell? ((Addr.mk b 0 none).add 0) = some (.int .i64 P) := by rw [add_mk]; exact cell_blk hb rfl
  have c1 : w1.cell? ((Addr.mk b 0 none).add 1) = some (.int .i64 C) := by rw [add_mk]; exact cell_blk hb rfl
  have no : ¬ CfgOk P C → (Value.bool false = .bool (decide (CfgOk P C)) ∧ Ext w w1) := fun q => ⟨by rw [decide_eq_false q], hE⟩
  refine ⟨_, c1, ifD (fun h1 => ⟨_, c1, ifD (fun h2 => ⟨_, c0, ifD (fun h3 => ⟨_, c0, ifD (fun h4 => ⟨_, c0, _, c1, by omega, ?_, hE⟩) (fun h => no fun q => h q.2.2.2.1)⟩) (fun h => no fun q => h q.2.2.1)⟩) (fun h => no fun q => h q.2.1)⟩) (fun h => no fun q => h q.1)⟩
  refine congrArg Value.bool ?_
  rw [Bool.eq_iff_iff, decide_eq_true_eq, beq_iff_eq]
  exact ⟨fun q => ⟨h1, h2, h3, h4, q⟩, fun q => q.2.2.2.2⟩

def NewRM (w : World) (P C : Int) (r : Value) (w' : World) : Prop :=
  (¬ CfgOk P C ∧ r = .tuple #[.pointer none, .int .i64 12] ∧ Ext w w') ∨
  (CfgOk P C ∧ ∃ q gb n c : Nat, P = ((n * c : Nat) : Int) ∧ C = (c : Int) ∧ r = .tuple #[.pointer (some ⟨q, 0, none⟩), .int .i64 0] ∧ RM w' q gb n c (List.replicate (n * c) false) ∧ Ext w w' ∧ ∀ k, fpS q gb k → w.heap.size ≤ k)

theorem rmnew_any (w : World) (P C : Int) : Calls Tryd.prog 38 #[.agg #[.int .i64 P, .int .i64 C]] w (Ret (NewRM w P C)) := by
  refine VC.garthref07_New.ok ?_
  unfold VC.garthref07_New
  refine al_intro fun b0 w1 hb0 hE1 hs1 hs1' => ⟨_, _, cells_all (vs := [.int .i64 P, .int .i64 C]) hb0, .of (right_any w1 P C) ?_⟩
  rintro r w2 ⟨rfl, hE2⟩
  have hE12 := hE1.trans hE2
  refine ⟨_, rfl, ?_⟩
  by_cases hcfg : CfgOk P C
  case neg =>
    rw [decide_eq_false hcfg]
    exact ifB_true rfl (.inl ⟨hcfg, rfl, hE12⟩)
  rw [decide_eq_true hcfg]
  obtain ⟨n, c, rfl, rfl, hn, hc1, hc32, hp4⟩ := cfg_nat hcfg
  refine ifB_false rfl ?_
  rintro w3 rfl
  have hE3 := Ext.drew w2
  have hb3 := hE3.keep (hE2.keep hb0)
  refine ⟨_, _, cells_all (vs := [_, _]) hb3, _, by rw [add_mk]; exact cell_blk hb3 rfl, by omega, by omega, by omega, by omega, al_intro fun gb w4 hgb hE4 hs4 hs4' => ⟨⟨_, _, cells_all (vs := [_, _]) (hE4.keep hb3), rfl⟩, rfl, al_intro fun q w5 hq hE5 hs5 hs5' => ?_⟩⟩
  have hE34 := (hE12.trans hE3).trans hE4
  rw [Int.toNat_natCast] at hgb hq
  refine .inr ⟨hcfg, q, gb, n, c, rfl, rfl, rfl, ⟨?_, ?_, by omega, by simp, hc1, hp4⟩, hE34.trans hE5, ?_⟩
  · rw [List.length_replicate]; exact hq
  · rw [madeCells_bool] at hgb; exact hE5.keep hgb
  · have a1 := (hE12.trans hE3).size
    rintro k (rfl | rfl) <;> omega

section
variable {w : World} {q gb n C : Nat} {hs : List Bool}

theorem RM.slot (h : RM w q gb n C hs) : w.cell? (Addr.mk q 2 none) = some (.slice (some ⟨gb, 0, none⟩) hs.length hs.length) := cell_blk h.head rfl
theorem RM.flag (h : RM w q gb n C hs) {i : Nat} {c : Bool} (hc : hs[i]? = some c) : w.cell? (Addr.mk gb i none) = some (.bool c) := cell_blk h.data (fC_get hs hc)

theorem RM.write {K : World → Prop} (h : RM w q gb n C hs) {i : Nat} (c : Bool) (hi : i < hs.length) (k : ∀ w1, RM w1 q gb n C (hs.set i c) → Mod (fpS q gb) w w1 → K w1) :
    WrC w (Addr.mk gb i none) [Value.bool c].length ∧ ∀ w1, w1 = wr w (Addr.mk gb i none) [Value.bool c] → K w1 :=
  wr_intro (n := 1) h.data (by simp [fC]; omega) fun w1 hg hm hs1 => k w1 ⟨by simpa using hm.keep h.head h.ne, by rw [hg, fC_set hs hi], h.ne, by simpa using h.len, h.c1, h.p4⟩ (hm.mono fun j hj => .inr hj)

theorem rmtake_any (h : RM w q gb n C hs) {pa : Option Addr} {cc : Nat} {l : List Int} (hrow : RowAt w pa 1 intF l) (hl63 : l.length ≤ maxLen) :
    Calls Tryd.prog 40 #[.pointer (some ⟨q, 0, none⟩), .slice pa l.length cc] w
      (Ret fun r w' => r = .tuple #[.int .i64 (mTakeI hs C l), .int .i64 (mTakeE hs C l)] ∧ RM w' q gb n C (mTakeH hs C l) ∧ Mod (fpS q gb) w w') := by
  have hlen := h.len
  have hp4 := h.p4
  refine VC.garthref07_Map_Take.ok ?_
  unfold VC.garthref07_Map_Take
  refine ⟨fun m i w1 => ∃ j : Nat, i = (j : Int) ∧ m + j = hs.length ∧ (∀ p, p < j → ¬ FrP hs C l p) ∧ Ext w w1, ⟨hs.length, 0, rfl, rfl, fun p hp => absurd hp (Nat.not_lt_zero p), Mod.refl _ _⟩, ?_⟩
  rintro m jv i w1 ⟨j, rfl, hm, hno, hE⟩
  have h1 := h.ext hE
  have ej : j < hs.length → IntKind.i64.wrap ((j : Int) + 1) = ((j + 1 : Nat) : Int) := fun _ => by rw [wrap_i64 (by omega) (by omega)]; rfl
  simp only [someA, add_mk, Nat.zero_add, Int.toNat_natCast]
  refine ⟨_, _, _, h1.slot, ifD (fun hj => ⟨_, _, _, h1.slot, by omega, hj, ?_⟩) (fun hj => ?_)⟩
  · have hj : j < hs.length := by omega
    obtain ⟨b, hb⟩ : ∃ b, hs[j]? = some b := ⟨_, List.getElem?_eq_getElem hj⟩
    have next : ∀ w2, Ext w w2 → ¬ FrP hs C l j → ∃ n', n' < m ∧ ∃ j' : Nat, IntKind.i64.wrap ((j : Int) + 1) = (j' : Int) ∧ n' + j' = hs.length ∧ (∀ p, p < j' → ¬ FrP hs C l p) ∧ Ext w w2 := fun w2 hE2 hn =>
      ⟨m - 1, by omega, j + 1, ej hj, by omega, fun p hp => if e : p < j then hno p e else by rw [show p = j by omega]; exact hn, hE2⟩
    simp only [someA, add_mk, Nat.zero_add]
    refine ⟨b, h1.flag hb, ?_⟩
    cases b with
    | true => exact ifB_false rfl (next w1 hE fun q => by rw [FrP, hb] at q; cases q.1)
    | false =>
      refine ifB_true rfl (.of (of_any h1.head h.c1 (hrow.ext hE) hl63) ?_)
      rintro r w2 ⟨rfl, hE2⟩
      refine ⟨_, rfl, ifB_intro (fun hw => ?_) (fun hw => next w2 (hE.trans hE2) fun q => by rw [q.2] at hw; cases hw)⟩
      have h2 := h1.ext hE2
      have e : pg hs C l = some j := (pg_low hs C l).unique (b := some j) ⟨⟨hb, hw⟩, hno⟩
      refine ⟨_, _, _, h2.slot, by omega, by omega, ?_⟩
      simp only [someA, add_mk, Nat.zero_add]
      refine h2.write true hj fun w3 h3 hm3 => ⟨?_, ?_, ?_⟩
      · simp only [mTakeI, mTakeE, e]
      · simpa only [mTakeH, e] using h3
      · exact Mod.trans ((hE.trans hE2).mod (F := fpS q gb)) hm3 (fun _ _ x => x)
  · have e : pg hs C l = none := (pg_low hs C l).unique (b := none) fun p hp => hno p (by have := (List.getElem?_eq_some_iff.1 hp.1).1; omega) hp
    refine ⟨?_, ?_, hE.mod⟩
    · simp only [mTakeI, mTakeE, e]
    · simpa only [mTakeH, e] using h1

theorem rmfree_any (h : RM w q gb n C hs) {pa : Option Addr} {cc : Nat} {l : List Int} (hrow : RowAt w pa 1 intF l) (hl63 : l.length ≤ maxLen) :
    Calls Tryd.prog 43 #[.pointer (some ⟨q, 0, none⟩), .slice pa l.length cc] w (Ret fun r w' => r = .int .i64 (cnt hs C l : Nat) ∧ Ext w w') := by
  have hlen := h.len
  have hp4 := h.p4
  refine VC.garthref07_Map_Free.ok ?_
  unfold VC.garthref07_Map_Free
  refine ⟨fun m nf i w1 => ∃ j : Nat, i = (j : Int) ∧ m + j = hs.length ∧ nf = ((List.range j).countP (fun p => decide (FrP hs C l p)) : Nat) ∧ Ext w w1, ⟨hs.length, 0, rfl, rfl, rfl, Mod.refl _ _⟩, ?_⟩
  rintro m jv nf i w1 ⟨j, rfl, hm, rfl, hE⟩
  have h1 := h.ext hE
  have hle := List.countP_le_length (p := fun p => decide (FrP hs C l p)) (l := List.range j)
  rw [List.length_range] at hle
  have e1 : ∀ {b : Bool}, decide (FrP hs C l j) = b → (List.range (j + 1)).countP (fun p => decide (FrP hs C l p)) = (List.range j).countP (fun p => decide (FrP hs C l p)) + (if b = true then 1 else 0) := by
    rintro b rfl
    rw [List.range_succ, List.countP_append, List.countP_singleton]
  simp only [someA, add_mk, Nat.zero_add, Int.toNat_natCast]
  refine ⟨_, _, _, h1.slot, ifD (fun hj => ⟨_, _, _, h1.slot, by omega, hj, ?_⟩) (fun hj => ⟨?_, hE⟩)⟩
  · have hj : j < hs.length := by omega
    have ej : IntKind.i64.wrap ((j : Int) + 1) = ((j + 1 : Nat) : Int) := by rw [wrap_i64 (by omega) (by omega)]; rfl
    obtain ⟨b, hb⟩ : ∃ b, hs[j]? = some b := ⟨_, List.getElem?_eq_getElem hj⟩
    simp only [someA, add_mk, Nat.zero_add]
    refine ⟨b, h1.flag hb, ?_⟩
    cases b with
    | true =>
      refine ifB_false rfl ⟨m - 1, by omega, j + 1, ej, by omega, ?_, hE⟩
      rw [e1 (b := false) (decide_eq_false fun q => by rw [FrP, hb] at q; cases q.1)]
      simp
    | false =>
      refine ifB_true rfl (.of (of_any h1.head h.c1 (hrow.ext hE) hl63) ?_)
      rintro r w2 ⟨rfl, hE2⟩
      refine ⟨_, rfl, ifB_intro (fun hw => ⟨m - 1, by omega, j + 1, ej, by omega, ?_, hE.trans hE2⟩) (fun hw => ⟨m - 1, by omega, j + 1, ej, by omega, ?_, hE.trans hE2⟩)⟩
      · rw [e1 (b := true) (decide_eq_true ⟨hb, hw⟩), wrap_i64 (by omega) (by omega)]
        simp
      · rw [e1 (b := false) (decide_eq_false fun q => by rw [q.2] at hw; cases hw)]
        simp
  · rw [show j = hs.length by omega]; rfl

theorem rmtaken_any (h : RM w q gb n C hs) (k : Int) : Calls Tryd.prog 44 #[.pointer (some ⟨q, 0, none⟩), .int .i64 k] w (Ret fun r w' => r = .bool (isTaken hs k) ∧ w' = w) := by
  refine VC.garthref07_Map_Taken.ok ?_
  unfold VC.garthref07_Map_Taken
  simp only [someA, add_mk, Nat.zero_add]
  refine ifD (fun h0 => ⟨_, _, _, h.slot, ifD (fun h1 => ⟨_, _, _, h.slot, h0, h1, ?_⟩) (fun h1 => ⟨by rw [isTaken_out (by omega)], by trivial⟩)⟩) (fun h0 => ⟨by rw [isTaken_out (by omega)], by trivial⟩)
  obtain ⟨kn, rfl⟩ := Int.eq_ofNat_of_zero_le h0
  obtain ⟨c, hc⟩ : ∃ c, hs[kn]? = some c := ⟨_, List.getElem?_eq_getElem (by omega)⟩
  simp only [someA, add_mk, Nat.zero_add, Int.toNat_natCast]
  exact ⟨c, h.flag hc, by rw [isTaken_at hc], by trivial⟩

theorem rmcolour_any (h : RM w q gb n C hs) (k : Int) : Calls Tryd.prog 45 #[.pointer (some ⟨q, 0, none⟩), .int .i64 k] w (Ret fun r w' => r = .int .i64 (mCol hs.length C k) ∧ w' = w) := by
  have hc1 := h.c1
  have hlen := h.len
  refine VC.garthref07_Map_Colour.ok ?_
  unfold VC.garthref07_Map_Colour
  simp only [someA, add_mk, Nat.zero_add]
  have out : ¬ (0 ≤ k ∧ k < hs.length) → (Value.int .i64 (-1) = .int .i64 (mCol hs.length C k) ∧ True) := fun q => ⟨by rw [mCol, if_neg q], trivial⟩
  refine ifD (fun h0 => by simpa using out (by omega)) (fun h0 => ⟨_, cell_blk h.head rfl, ifD (fun h1 => by simpa using out (by omega)) (fun h1 => ⟨_, cell_blk h.head rfl, by omega, ?_, by trivial⟩)⟩)
  rw [mCol, if_pos (by omega)]

theorem rmgive_any (h : RM w q gb n C hs) (k : Int) : Calls Tryd.prog 41 #[.pointer (some ⟨q, 0, none⟩), .int .i64 k] w
    (Ret fun r w' => r = .int .i64 (giveE hs k) ∧ RM w' q gb n C (giveH hs k) ∧ Mod (fpS q gb) w w') := by
  refine VC.garthref07_Map_Give.ok ?_
  unfold VC.garthref07_Map_Give
  simp only [someA, add_mk, Nat.zero_add]
  have out : ¬ InS hs k → (Value.int .i64 12 = .int .i64 (giveE hs k) ∧ RM w q gb n C (giveH hs k) ∧ Mod (fpS q gb) w w) := fun q => ⟨by simp only [giveE, if_neg q], by simpa only [giveH, if_neg q] using h, Mod.refl _ _⟩
  refine ifD (fun h0 => out (by omega)) (fun h0 => ⟨_, _, _, h.slot, ifD (fun h1 => out (by omega)) (fun h1 => ⟨_, _, _, h.slot, by omega, by omega, ?_⟩)⟩)
  obtain ⟨kn, rfl⟩ := Int.eq_ofNat_of_zero_le (show 0 ≤ k by omega)
  obtain ⟨c, hc⟩ : ∃ c, hs[kn]? = some c := ⟨_, List.getElem?_eq_getElem (by omega)⟩
  have hin : InS hs (kn : Int) := by omega
  simp only [someA, add_mk, Nat.zero_add, Int.toNat_natCast]
  refine ⟨c, h.flag hc, ?_⟩
  cases c with
  | false => exact ifB_true rfl ⟨by simp [giveE, if_pos hin, hc], by simpa only [giveH, if_pos hin, Int.toNat_natCast, set_same hc] using h, Mod.refl _ _⟩
  | true =>
    refine ifB_false rfl ⟨_, _, _, h.slot, by omega, by omega, ?_⟩
    simp only [someA, add_mk, Nat.zero_add]
    exact h.write false (by omega) fun w1 h1 hm => ⟨by simp [giveE, if_pos hin, hc], by simpa only [giveH, if_pos hin, Int.toNat_natCast] using h1, hm⟩

end

/-! ### awake, long -/

theorem blk_ints {w : World} {b : Nat} {l : List Int} (h : w.heap[b]? = some (.cells (l.map fun x => Value.int .i64 x).toArray 3 (0, 0))) : RowAt w (some ⟨b, 0, none⟩) 1 intF l := by
  intro i x hi
  refine ⟨_, rfl, ?_⟩
  rw [add_mk]
  refine cells_blk h fun j v hj => ?_
  cases j with
  | zero =>
    simp only [intF, List.getElem?_cons_zero, Option.some.injEq] at hj
    subst hj
    simp [hi]
  | succ j => simp [intF] at hj

theorem mtake_at {w : World} {mb n C : Nat} {F : Nat → Prop} {hs : List Bool} (tab : Tab w) (h : MH w mb F n C hs) {pa : Option Addr} {cc nn : Nat} {l : List Int} (hrow : RowAt w pa 1 intF l) (hn : l.length = nn) (hl63 : nn ≤ maxLen) :
    Calls Tryd.prog 32 #[.pointer (some ⟨mb, 0, none⟩), .slice pa nn cc] w
      (Ret fun r w' => r = .tuple #[.int .i64 (mTakeI hs C l), .int .i64 (mTakeE hs C l)] ∧ MH w' mb F n C (mTakeH hs C l) ∧ Mod F w w') := by
  subst hn
  exact mtake_any tab h hrow hl63

theorem mfree_at {w : World} {mb n C : Nat} {F : Nat → Prop} {hs : List Bool} (h : MH w mb F n C hs) {pa : Option Addr} {cc nn : Nat} {l : List Int} (hrow : RowAt w pa 1 intF l) (hn : l.length = nn) (hl63 : nn ≤ maxLen) :
    Calls Tryd.prog 31 #[.pointer (some ⟨mb, 0, none⟩), .slice pa nn cc] w (Ret fun r w' => r = .int .i64 (cnt hs C l : Nat) ∧ Ext w w') := by
  subst hn
  exact mfree_any h hrow hl63

theorem cawake_any {w : World} (tab : Tab w) : Calls Tryd.prog 30 #[] w (Ret fun r w' => r = .bool true ∧ Ext w w') := by
  refine VC.garthlaw07_awake.ok ?_
  unfold VC.garthlaw07_awake
  refine .of (mnew_any w 6 3) ?_
  rintro r w1 (⟨hn, _⟩ | ⟨_, mb, n, c, F, hP, hC, rfl, h1, hE1, hnew, hFm⟩)
  · exact absurd (by decide) hn
  have hc : c = 3 := by omega
  subst hc
  have hn : n = 2 := by omega
  subst hn
  have step : ∀ {u v : World}, Ext w u → Mod F u v → Ext w v := fun hu hm => hu.new hm hnew
  have l2 : 2 ≤ maxLen := by simp [maxLen]
  have l1 : 1 ≤ maxLen := by simp [maxLen]
  refine ⟨_, _, rfl, ifB_false rfl (ifB_false rfl (al_intro fun b1 w2 hb1 hE2 _ _ => ?_))⟩
  have r1 : RowAt w2 (some ⟨b1, 0, none⟩) 1 intF [2, 1] := blk_ints (l := [2, 1]) hb1
  refine .of (mtake_at (cc := 2) (tab.ext (hE1.trans hE2)) (h1.ext hE2) r1 rfl l2) ?_
  rintro r w3 ⟨rfl, h3, hm3⟩
  have hE3 := step (hE1.trans hE2) hm3
  refine ⟨_, _, rfl, al_intro fun b2 w4 hb2 hE4 _ _ => ?_⟩
  have r2 : RowAt w4 (some ⟨b2, 0, none⟩) 1 intF [2, 1] := blk_ints (l := [2, 1]) hb2
  refine .of (mtake_at (cc := 2) (tab.ext (hE3.trans hE4)) (h3.ext hE4) r2 rfl l2) ?_
  rintro r w5 ⟨rfl, h5, hm5⟩
  have hE5 := step (hE3.trans hE4) hm5
  refine ⟨_, _, rfl, al_intro fun b3 w6 hb3 hE6 _ _ => ?_⟩
  have r3 : RowAt w6 (some ⟨b3, 0, none⟩) 1 intF [2] := blk_ints (l := [2]) hb3
  refine .of (mtake_at (cc := 1) (tab.ext (hE5.trans hE6)) (h5.ext hE6) r3 rfl l1) ?_
  rintro r w7 ⟨rfl, h7, hm7⟩
  have hE7 := step (hE5.trans hE6) hm7
  refine ⟨_, _, rfl, al_intro fun b4 w8 hb4 hE8 _ _ => ?_⟩
  have r4 : RowAt w8 (some ⟨b4, 0, none⟩) 1 intF [2] := blk_ints (l := [2]) hb4
  refine .of (mtake_at (cc := 1) (tab.ext (hE7.trans hE8)) (h7.ext hE8) r4 rfl l1) ?_
  rintro r w9 ⟨rfl, h9, hm9⟩
  have hE9 := step (hE7.trans hE8) hm9
  refine ⟨_, _, rfl, ifB_true (by decide +kernel) (ifB_true (by decide +kernel) (ifB_true (by decide +kernel) (ifB_true (by decide +kernel) (al_intro fun b5 w10 hb5 hE10 _ _ => ?_))))⟩
  have r5 : RowAt w10 (some ⟨b5, 0, none⟩) 1 intF [0] := blk_ints (l := [0]) hb5
  refine .of (mfree_at (cc := 1) (h9.ext hE10) r5 rfl l1) ?_
  rintro r w11 ⟨rfl, hE11⟩
  have hE911 := hE10.trans hE11
  refine ⟨_, rfl, ifB_true (by decide +kernel) (.of (each_any (h9.ext hE911)) ?_)⟩
  rintro r w12 ⟨rfl, hE12⟩
  refine ⟨_, rfl, ifB_true (by decide) (.of (mcolour_any (h9.ext (hE911.trans hE12)) 4) ?_)⟩
  rintro r w13 ⟨rfl, rfl⟩
  exact ⟨_, rfl, congrArg Value.bool (by decide +kernel), hE9.trans (hE911.trans hE12)⟩

/-- An Op of garthlaw07. -/
abbrev COpsSh : Sh := .row 3 40 (.pair (.int .i64) (.pair (.int .i64) (.pair (.row 1 8 (.int .i64)) .unit)))

/-- A row of Ops: each with its window. -/
def COps (w : World) (pa : Option Addr) (l : COpsSh.T) : Prop := True

end Go.Proofs.YtaobcnagdceaeaaDoor
