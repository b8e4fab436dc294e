/- Page: two pages side by side. Conditions: none. -/
import Derived.Test.YtkbgiflmecaffaaPageH
set_option linter.unusedVariables false
set_option linter.unusedSimpArgs false
namespace Go.Proofs.Ytkbgiflmecaffaa
open Go.RowKit

/-- Two pages in two arenas, apart from one another; blocks of K are kept apart from both. -/
def Two (w0 : World) (K : Nat → Prop) (kind pb ap base : Nat) (s : St) (qb aq base' : Nat) (t : St) (w : World) : Prop :=
  ∃ rc wc sb sg FA rd wd tb tg GA, PGw w pb rc wc ap sb sg FA base kind s ∧ PGw w qb rd wd aq tb tg GA base' kind t ∧
    (∀ j, ownP pb rc wc sb sg j ∨ FA j → w0.heap.size ≤ j ∧ ¬ K j ∧ ¬ (ownP qb rd wd tb tg j ∨ GA j)) ∧
    (∀ j, ownP qb rd wd tb tg j ∨ GA j → w0.heap.size ≤ j ∧ ¬ K j) ∧
    (∀ j, K j → w0.heap.size ≤ j ∧ j < w.heap.size) ∧ Ext w0 w

section
variable {w0 w w' : World} {K : Nat → Prop} {kind pb ap base qb aq base' : Nat} {s t : St}

theorem Two.flip (h : Two w0 K kind pb ap base s qb aq base' t w) : Two w0 K kind qb aq base' t pb ap base s w := by
  obtain ⟨rc, wc, sb, sg, FA, rd, wd, tb, tg, GA, h1, h2, hp, hq, hK, hE⟩ := h
  exact ⟨rd, wd, tb, tg, GA, rc, wc, sb, sg, FA, h2, h1, fun j hj => ⟨(hq j hj).1, (hq j hj).2, fun x => (hp j x).2.2 hj⟩, fun j hj => ⟨(hp j hj).1, (hp j hj).2.1⟩, hK, hE⟩

/-- The first one, by itself. -/
theorem Two.left (h : Two w0 K kind pb ap base s qb aq base' t w) : ∃ K', PGs w0 K' pb ap base kind s w ∧ (∀ j, K j → K' j) ∧ ∀ base1 s1 w1, PGs w0 K' pb ap base1 kind s1 w1 → Mod (fun j => ¬ K' j) w w1 → Two w0 K kind pb ap base1 s1 qb aq base' t w1 := by
  obtain ⟨rc, wc, sb, sg, FA, rd, wd, tb, tg, GA, h1, h2, hp, hq, hK, hE⟩ := h
  refine ⟨fun j => K j ∨ (ownP qb rd wd tb tg j ∨ GA j), ⟨rc, wc, sb, sg, FA, h1, fun j hj => ⟨(hp j hj).1, fun x => x.elim (hp j hj).2.1 (hp j hj).2.2⟩, fun j hj => ?_, hE⟩, fun j hj => .inl hj, ?_⟩
  · rcases hj with hj | hj
    · exact hK j hj
    · exact ⟨(hq j hj).1, h2.lt j hj⟩
  · rintro base1 s1 w1 ⟨rc1, wc1, sb1, sg1, FA1, h1', hn, hk, hE1⟩ hm
    exact ⟨rc1, wc1, sb1, sg1, FA1, rd, wd, tb, tg, GA, h1', h2.keep hm (fun j hj x => x (.inr hj)), fun j hj => ⟨(hn j hj).1, fun x => (hn j hj).2 (.inl x), fun x => (hn j hj).2 (.inr x)⟩, hq, fun j hj => hk j (.inl hj), hE1⟩

theorem Two.mod (h : Two w0 K kind pb ap base s qb aq base' t w) (hm : Mod K w w') : Two w0 K kind pb ap base s qb aq base' t w' := by
  obtain ⟨rc, wc, sb, sg, FA, rd, wd, tb, tg, GA, h1, h2, hp, hq, hK, hE⟩ := h
  exact ⟨rc, wc, sb, sg, FA, rd, wd, tb, tg, GA, h1.keep hm (fun j hj => (hp j hj).2.1), h2.keep hm (fun j hj => (hq j hj).2), hp, hq, fun j hj => ⟨(hK j hj).1, Nat.lt_of_lt_of_le (hK j hj).2 hm.size⟩, hE.new hm (fun j hj => (hK j hj).1)⟩

theorem Two.ext (h : Two w0 K kind pb ap base s qb aq base' t w) : Ext w0 w := by
  obtain ⟨rc, wc, sb, sg, FA, rd, wd, tb, tg, GA, h1, h2, hp, hq, hK, hE⟩ := h
  exact hE

end

/-! ### pages that are alike -/

/-- p's bytes hold q's, at base. -/
structure Alike (base : Nat) (pre post : List UInt8) (s t : St) : Prop where
  bs : s.bs = pre ++ t.bs ++ post
  len : pre.length = base
  f : s.f = t.f
  hr : s.hr = t.hr
  hw : s.hw = t.hw
  hs : s.hs = t.hs

theorem seg_mid (pre b post : List UInt8) {a n : Nat} (h : a + n ≤ b.length) : seg (pre ++ b ++ post) (pre.length + a) n = seg b a n := by
  unfold seg
  rw [List.append_assoc, List.drop_append, List.drop_eq_nil_of_le (by omega), List.nil_append, show pre.length + a - pre.length = a by omega, List.drop_append_of_le_length (by omega), List.take_append_of_le_length (by simp; omega)]

theorem putAt_mid (pre b post l : List UInt8) {a : Nat} (h : a + l.length ≤ b.length) : putAt (pre ++ b ++ post) (pre.length + a) l = pre ++ putAt b a l ++ post := by
  unfold putAt
  rw [List.append_assoc pre b post, List.take_append, List.take_of_length_le (l := pre) (by omega), show pre.length + a - pre.length = a by omega, List.take_append_of_le_length (by omega),
    show pre.length + a + l.length = pre.length + (a + l.length) by omega, List.drop_append, List.drop_eq_nil_of_le (show pre.length ≤ pre.length + (a + l.length) by omega), show pre.length + (a + l.length) - pre.length = a + l.length by omega, List.nil_append, List.drop_append_of_le_length h]
  simp only [List.append_assoc]

end Go.Proofs.Ytkbgiflmecaffaa
