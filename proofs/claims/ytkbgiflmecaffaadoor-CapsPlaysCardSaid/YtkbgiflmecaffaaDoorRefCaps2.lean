/- Contracts of the document's table of handles. Conditions: the list is there, and says what the slots say. -/
import Derived.Test.YtkbgiflmecaffaaDoorRefCaps
set_option linter.unusedVariables false
set_option linter.unusedSimpArgs false
namespace Go.Proofs.YtkbgiflmecaffaaDoor
open Go.RowKit

theorem Rel.lt {T : Int} {S : Int → Option Sl} {L : List Rl} (h : Rel T S L) {i j : Nat} {x y : Rl} (hij : i < j) (hx : L[i]? = some x) (hy : L[j]? = some y) : x.2.1 < y.2.1 := by
  obtain ⟨hi, rfl⟩ := List.getElem?_eq_some_iff.1 hx
  obtain ⟨hj, rfl⟩ := List.getElem?_eq_some_iff.1 hy
  exact List.pairwise_iff_getElem.1 h.srt i j hi hj hij

/-- What the document's find answers. -/
def rfindV (T : Int) (o : Option Sl) (h : Int) : Value := match o with
  | some s => .tuple #[.agg #[.int .i64 T, .int .i64 (Hd.uS h), .int .i64 s.1, .int .i64 s.2.1, .int .i64 s.2.2], .bool true]
  | none => .tuple #[.agg #[.int .i64 0, .int .i64 0, .int .i64 0, .int .i64 0, .int .i64 0], .bool false]

theorem cells5 {w : World} {b : Nat} {x y z u v : Value} {T : TypeId} (h : w.heap[b]? = some (.cells #[x, y, z, u, v] T (0, 0))) : CellsAt w (Addr.mk b 0 none) [x, y, z, u, v] := cells_all (vs := [x, y, z, u, v]) h

theorem give5 {w : World} {b : Nat} {T : TypeId} {x y z p q : Value} {u v t r s : Value} {Q : World → Prop} (h : w.heap[b]? = some (.cells #[x, y, z, p, q] T (0, 0))) (k : ∀ w1, w1.heap[b]? = some (.cells #[u, v, t, r, s] T (0, 0)) → Mod (· = b) w w1 → w1.heap.size = w.heap.size → Q w1) :
    WrC w (Addr.mk b 0 none) 5 ∧ ∀ w1, w1 = wr w (Addr.mk b 0 none) [u, v, t, r, s] → Q w1 :=
  wr_intro (b := b) (n := 5) h (by simp) fun w1 h1 hm hs => k w1 (by simpa [setAt] using h1) hm hs

section
variable {w : World} {q : Nat} {F : Nat → Prop} {T nx : Int} {S : Int → Option Sl} {L : List Rl}

theorem rl_head {w : World} {a : Addr} {y : Rl} (h : CellsAt w a (rlF y)) : CellsAt w (a.add 0) [.int .i64 y.1, .int .i64 y.2.1, .int .i64 y.2.2.1, .int .i64 y.2.2.2.1] := by
  intro j v hv
  rw [Addr.add_add, Nat.zero_add]
  refine h j v ?_
  match j, hv with
  | 0, hv => simpa [rlF] using hv
  | 1, hv => simpa [rlF] using hv
  | 2, hv => simpa [rlF] using hv
  | 3, hv => simpa [rlF] using hv

set_option maxHeartbeats 1000000 in
theorem rfind_any (h : RC w q F T nx L) (hrel : Rel T S L) (hok : ∀ x s, S x = some s → 0 ≤ x ∧ x < 4160 ∧ 1 ≤ s.1 ∧ s.1 ≤ 7 ∧ 1 ≤ s.2.1 ∧ s.2.1 < 17592186044416) (hT : 0 ≤ T ∧ T ≤ 7) (hl : L.length ≤ 100000) {hh : Int} (hu : Hd.U64 hh) :
    Calls Tryd.prog 32 #[.pointer (some ⟨q, 0, none⟩), .int .u64 hh] w (Ret fun v w' => v = rfindV T (findS T S hh) hh ∧ Ext w w') := by
  refine VC.garthref10_Caps_find.ok ?_
  unfold VC.garthref10_Caps_find
  refine al_intro fun b0 w1 hb0 hE1 hs1 hs1' => .of (Hd.refunpack_any hh hu w1) ?_
  rintro r w3 ⟨rfl, hE3⟩
  obtain ⟨t, s, r, n, e, hv, _, hcase⟩ := uparts hh
  have hz : ¬ Hd.HOk hh → t = 0 ∧ s = 0 ∧ r = 0 ∧ n = 0 := fun hk => by
    rw [Hd.unpackV, if_neg hk] at hv
    simp at hv
    omega
  rw [hv]
  refine ⟨_, _, _, _, _, rfl, al_intro fun b9 w10 hb9 hE10 hs10 hs10' => ?_⟩
  refine wr_intro (b := b9) (n := 4) hb9 (by simp) fun w11 hb11 hm11 hs11 => ?_
  have hb11 : w11.heap[b9]? = some (.cells #[.int .i64 t, .int .i64 s, .int .i64 r, .int .i64 n] 45 (0, 0)) := hb11
  have s3 := hE3.size
  have hE111 : Ext w1 w11 := (hE3.trans hE10).new hm11 (fun k hk => by omega)
  have hb0' := hE111.keep hb0
  have hE011 := hE1.trans hE111
  have h11 := h.ext hE011
  obtain ⟨v, h11, rfl⟩ := h11
  obtain ⟨pp, cc, rfl⟩ := h11.row.shape
  -- which entry is it?
  have isK : ∀ y ∈ L, ((y.1 == t && (y.2.1 == s && (y.2.2.1 == r && (y.2.2.2.1 == n && true)))) = true ↔ Hd.HOk hh ∧ y.1 = Hd.uT hh ∧ y.2.1 = Hd.uS hh ∧ y.2.2.1 = Hd.uR hh ∧ y.2.2.2.1 = Hd.uN hh) := fun y hy => by
    have hS := (hrel.mem y.2.1 y.2.2).2 (by rw [← hrel.ten y hy]; exact hy)
    have := hok _ _ hS
    rcases hcase with ⟨hk, rfl, rfl, rfl, rfl, _⟩ | ⟨hk, _⟩
    · constructor
      · intro hb
        simp only [Bool.and_true, Bool.and_eq_true, beq_iff_eq] at hb
        exact ⟨hk, hb⟩
      · rintro ⟨_, h1, h2, h3, h4⟩
        simp only [h1, h2, h3, h4, beq_self_eq_true, Bool.and_true]
    · obtain ⟨rfl, rfl, rfl, rfl⟩ := hz hk
      constructor
      · intro hb
        simp only [Bool.and_true, Bool.and_eq_true, beq_iff_eq] at hb
        omega
      · rintro ⟨hk', _⟩
        exact absurd hk' hk
  refine ⟨fun m i w16 => ∃ j : Nat, i = (j : Int) ∧ m + j = L.length ∧ Ext w11 w16 ∧ ∀ (k : Nat) y, k < j → L[k]? = some y → ¬ (Hd.HOk hh ∧ y.1 = Hd.uT hh ∧ y.2.1 = Hd.uS hh ∧ y.2.2.1 = Hd.uR hh ∧ y.2.2.2.1 = Hd.uN hh), ⟨L.length, 0, rfl, rfl, Mod.refl _ _, fun k y hk => by omega⟩, ?_⟩
  rintro m jv i w16 ⟨j, rfl, hmj, hE16, hno⟩
  simp only [someA]
  have hd16 := hE16.keep h11.head
  refine ⟨_, _, _, dcell hd16 rfl, ifB_intro (fun hlt => ?_) (fun hge => ?_)⟩
  · have hlt := of_decide_eq_true hlt
    rintro w21 rfl
    have hE21 := hE16.trans (Ext.drew w16)
    have hd21 := hE21.keep h11.head
    obtain ⟨y, hy⟩ : ∃ y, L[j]? = some y := ⟨_, List.getElem?_eq_getElem (by omega)⟩
    obtain ⟨a, rfl, hc⟩ := (h11.row.keep (Ext.mod (F := fun _ => False) hE21) (fun _ _ x => x)).cells rlF_len hy
    refine ⟨_, _, _, dcell hd21 rfl, by omega, hlt, ?_⟩
    rw [Int.toNat_natCast]
    refine ⟨by trivial, _, _, _, _, rl_head hc, _, _, _, _, cells_all (vs := [_, _, _, _]) (hE21.keep hb11), _, _, run_key_eql _ _ _ _ _ _ _ _ _, by trivial, ifB_intro (fun hb => ?_) (fun hb => ?_)⟩
    · obtain ⟨hk, e1, e2, e3, e4⟩ := (isK y (List.mem_of_getElem? hy)).1 hb
      have hyL : (T, y.2.1, y.2.2) ∈ L := by
        have := List.mem_of_getElem? hy
        rwa [← hrel.ten y this]
      have hS := (hrel.mem y.2.1 y.2.2).2 hyL
      have hf : findS T S hh = some y.2.2 := by
        rw [findS, if_pos ⟨hk, by rw [← e1, hrel.ten y (List.mem_of_getElem? hy)]⟩, ← e2, hS]
        simp only
        rw [if_pos ⟨e3, e4⟩]
      refine ⟨_, _, _, dcell hd21 rfl, by omega, hlt, _, _, _, _, _, hc, give5 (hE21.keep hb0') fun w47 hb47 hm47 _ => ⟨_, _, _, _, _, cells5 hb47, ?_, (hE011.trans hE21).new hm47 (fun k hk => by omega)⟩⟩
      rw [hf, rfindV, hrel.ten y (List.mem_of_getElem? hy), e2]
    · refine ⟨m - 1, by omega, j + 1, ?_, by omega, hE21, fun k z hk hz => ?_⟩
      · rw [wrap_i64 (by omega) (by omega)]; rfl
      · by_cases e : k = j
        · subst e
          rw [hy] at hz
          obtain rfl := Option.some.inj hz
          intro hbad
          rw [(isK y (List.mem_of_getElem? hy)).2 hbad] at hb
          cases hb
        · exact hno k z (by omega) hz
  · have hge := of_decide_eq_false hge
    have hf : findS T S hh = none := by
      cases hf : findS T S hh with
      | none => rfl
      | some s' =>
        obtain ⟨hk, e1, e2, e3, e4⟩ := findS_in hf
        obtain ⟨k, hk'⟩ := List.mem_iff_getElem?.1 ((hrel.mem _ _).1 e2)
        have := (List.getElem?_eq_some_iff.1 hk').1
        exact absurd ⟨hk, e1.symm, rfl, e3, e4⟩ (hno k _ (by omega) hk')
    refine give5 (hE16.keep hb0') fun w54 hb54 hm54 _ => ⟨_, _, _, _, _, cells5 hb54, ?_, (hE011.trans hE16).new hm54 (fun k hk => by omega)⟩
    rw [hf, rfindV]

theorem rFind_any (h : RC w q F T nx L) (hrel : Rel T S L) (hok : ∀ x s, S x = some s → 0 ≤ x ∧ x < 4160 ∧ 1 ≤ s.1 ∧ s.1 ≤ 7 ∧ 1 ≤ s.2.1 ∧ s.2.1 < 17592186044416) (hT : 0 ≤ T ∧ T ≤ 7) (hl : L.length ≤ 100000) {hh : Int} (hu : Hd.U64 hh) (r : Int) :
    Calls Tryd.prog 20 #[.pointer (some ⟨q, 0, none⟩), .int .u64 hh, .int .i64 r] w (Ret fun v w' => v = findR T S hh r ∧ Ext w w') := by
  refine VC.garthref10_Caps_Find.ok ?_
  unfold VC.garthref10_Caps_Find
  refine .of (rfind_any h hrel hok hT hl hu) ?_
  rintro v w1 ⟨rfl, hE1⟩
  have hs1 := hE1.size
  cases hf : findS T S hh with
  | none =>
    refine ⟨_, _, _, _, _, _, rfl, al_intro fun b w9 hb hE9 hs9 hs9' => give5 hb fun w10 hb10 hm10 _ => ifB_true rfl ⟨by rw [findR, hf], (hE1.trans hE9).new hm10 (fun k hk => by omega)⟩⟩
  | some s =>
    refine ⟨_, _, _, _, _, _, rfl, al_intro fun b w9 hb hE9 hs9 hs9' => give5 hb fun w10 hb10 hm10 _ => ifB_false rfl ?_⟩
    have hE10 : Ext w w10 := (hE1.trans hE9).new hm10 (fun k hk => by omega)
    have hsr := hok _ _ (findS_in hf).2.2.1
    refine ifD (fun h1 => ⟨by rw [findR, hf]; simp only; rw [if_pos (.inl h1)], hE10⟩) (fun h1 => ifD (fun h2 => ⟨by rw [findR, hf]; simp only; rw [if_pos (.inr (.inl h2))], hE10⟩) (fun h2 => ⟨s.1, by rw [add_mk, add_mk]; exact cell_blk hb10 rfl, .of (has_any (s := s) (r := r) (by omega) (by omega) (by omega) (by omega) w10) ?_⟩))
    rintro v w13 ⟨rfl, rfl⟩
    refine ⟨_, rfl, ifB_intro (fun h3 => ⟨?_, hE10⟩) (fun h3 => ⟨_, dcell hb10 rfl, ?_, hE10⟩)⟩
    · rw [findR, hf]; simp only; rw [if_pos (.inr (.inr (by simpa using h3)))]
    · rw [findR, hf]; simp only; rw [if_neg]
      rintro (q | q | q)
      · exact h1 q
      · exact h2 q
      · rw [q] at h3; cases h3

end

end Go.Proofs.YtkbgiflmecaffaaDoor
