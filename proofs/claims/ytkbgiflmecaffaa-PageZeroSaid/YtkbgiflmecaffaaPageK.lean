/- Page: the closure that plays on two pages. Conditions: the pages are there, and alike. -/
import Derived.Test.YtkbgiflmecaffaaPageJ
import Derived.Test.YtkbgiflmecaffaaVcM
set_option linter.unusedVariables false
set_option linter.unusedSimpArgs false
namespace Go.Proofs.Ytkbgiflmecaffaa
open Go.RowKit

section
variable {w0 w w' : World} {K K' : Nat → Prop} {kind pb ap base qb aq base' : Nat} {s t : St}

theorem Two.weak (h : Two w0 K kind pb ap base s qb aq base' t w) (hs : ∀ j, K' j → K j) : Two w0 K' kind pb ap base s qb aq base' t w := by
  obtain ⟨rc, wc, sb, sg, FA, rd, wd, tb, tg, GA, h1, h2, hp, hq, hK, hE⟩ := h
  exact ⟨rc, wc, sb, sg, FA, rd, wd, tb, tg, GA, h1, h2, fun j hj => ⟨(hp j hj).1, fun x => (hp j hj).2.1 (hs j x), (hp j hj).2.2⟩, fun j hj => ⟨(hq j hj).1, fun x => (hq j hj).2 (hs j x)⟩, fun j hj => hK j (hs j hj), hE⟩

theorem Two.grow (h : Two w0 K kind pb ap base s qb aq base' t w) (hE1 : Ext w w') {b : Nat} (hb : w.heap.size ≤ b) (hb' : b < w'.heap.size) : Two w0 (fun j => K j ∨ j = b) kind pb ap base s qb aq base' t w' := by
  obtain ⟨rc, wc, sb, sg, FA, rd, wd, tb, tg, GA, h1, h2, hp, hq, hK, hE⟩ := h
  have l1 := h1.lt
  have l2 := h2.lt
  have z := hE.size
  refine ⟨rc, wc, sb, sg, FA, rd, wd, tb, tg, GA, h1.keep hE1 (fun _ _ x => x), h2.keep hE1 (fun _ _ x => x), fun j hj => ⟨(hp j hj).1, fun x => x.elim (hp j hj).2.1 (fun e => by have := l1 j hj; omega), (hp j hj).2.2⟩, fun j hj => ⟨(hq j hj).1, fun x => x.elim (hq j hj).2 (fun e => by have := l2 j hj; omega)⟩, fun j hj => ?_, hE.trans hE1⟩
  rcases hj with hj | rfl
  · exact ⟨(hK j hj).1, Nat.lt_of_lt_of_le (hK j hj).2 hE1.size⟩
  · exact ⟨by omega, hb'⟩

theorem Two.facts (h : Two w0 K kind pb ap base s qb aq base' t w) : CfgC t.bs.length base' (unitN kind) (perN kind) t.hr ∧ CfgC t.bs.length base' (unitN kind) (perN kind) t.hw ∧ t.hs.length = perN kind := by
  obtain ⟨rc, wc, sb, sg, FA, rd, wd, tb, tg, GA, h1, h2, hp, hq, hK, hE⟩ := h
  exact ⟨h2.gr, h2.gw, h2.hl⟩

theorem Two.alloc1 (h : Two w0 K kind pb ap base s qb aq base' t w) (hl : s.ts.length < 549755813000) {R : Value → World → Prop}
    (r : ∀ w', Two w0 K kind pb ap base (aloS (unitN kind) (perN kind) base s) qb aq base' t w' → Mod (fun j => ¬ K j) w w' → R (.tuple #[.int .i64 (aloI (unitN kind) (perN kind) base s), .int .i64 (aloE (unitN kind) (perN kind) base s)]) w') :
    CallS Try.prog 11 #[.pointer (some ⟨pb, 0, none⟩)] w R := by
  obtain ⟨K1, h1, hs, back⟩ := h.left
  exact h1.alloc hl fun w1 a m => r w1 (back _ _ _ a m) (m.mono fun j x y => x (hs j y))

theorem Two.free1 (h : Two w0 K kind pb ap base s qb aq base' t w) (hl : s.ts.length < 549755812000) (k : Int) {R : Value → World → Prop}
    (r : ∀ w', Two w0 K kind pb ap base (freS (unitN kind) (perN kind) base s k) qb aq base' t w' → Mod (fun j => ¬ K j) w w' → R (.int .i64 (Sf.giveE s.hs k)) w') :
    CallS Try.prog 15 #[.pointer (some ⟨pb, 0, none⟩), .int .i64 k] w R := by
  obtain ⟨K1, h1, hs, back⟩ := h.left
  exact h1.free hl k fun w1 a m => r w1 (back _ _ _ a m) (m.mono fun j x y => x (hs j y))

theorem freS_ts (u p base : Nat) (s : St) (k : Int) : (freS u p base s k).ts.length ≤ s.ts.length + 2 := by
  unfold freS
  split
  · show ((s.ts ++ [_]) ++ [_]).length ≤ _
    simp
  · show s.ts.length ≤ _
    omega

end

end Go.Proofs.Ytkbgiflmecaffaa
