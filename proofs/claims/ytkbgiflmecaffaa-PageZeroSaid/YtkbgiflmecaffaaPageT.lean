/- Page: a page and the reference's page side by side. Conditions: the pages are there. -/
import Derived.Test.YtkbgiflmecaffaaPageS
set_option linter.unusedVariables false
set_option linter.unusedSimpArgs false
namespace Go.Proofs.Ytkbgiflmecaffaa
open Go.RowKit

abbrev OpsSh : Sh := .row 2 16 (.pair (.int .i64) (.pair (.int .i64) .unit))
abbrev opF (x : Int × Int × Unit) : Int × Int := (x.1, x.2.1)
theorem ops_row {w : World} {x : OpsSh.T} (h : OpsSh.Ok w x) : RowAt w x.1.1 2 (fun y : Int × Int × Unit => [.int .i64 (opF y).1, .int .i64 (opF y).2]) x.2 := fun i y hi => (h.2.2.2 i y hi).1

/-- A page and a reference's, apart from one another; blocks of K are kept apart from both. -/
def Bo (w0 : World) (K : Nat → Prop) (kind pb ap base : Nat) (s : St) (qb aq base' : Nat) (t : St) (w : World) : Prop :=
  ∃ rc wc sb sg FA rd wd GA, PGw w pb rc wc ap sb sg FA base kind s ∧ RGw w qb rd wd aq GA base' kind t ∧
    (∀ j, ownP pb rc wc sb sg j ∨ FA j → w0.heap.size ≤ j ∧ ¬ K j ∧ ¬ (ownR qb rd wd j ∨ GA j)) ∧
    (∀ j, ownR qb rd wd j ∨ GA j → w0.heap.size ≤ j ∧ ¬ K j) ∧
    (∀ j, K j → w0.heap.size ≤ j ∧ j < w.heap.size) ∧ Ext w0 w

section
variable {w0 w w' : World} {K K' : Nat → Prop} {kind pb ap base qb aq base' : Nat} {s t : St}

theorem Bo.left (h : Bo w0 K kind pb ap base s qb aq base' t w) : ∃ K', PGs w0 K' pb ap base kind s w ∧ (∀ j, K j → K' j) ∧ ∀ base1 s1 w1, PGs w0 K' pb ap base1 kind s1 w1 → Mod (fun j => ¬ K' j) w w1 → Bo w0 K kind pb ap base1 s1 qb aq base' t w1 := by
  obtain ⟨rc, wc, sb, sg, FA, rd, wd, GA, h1, h2, hp, hq, hK, hE⟩ := h
  refine ⟨fun j => K j ∨ (ownR qb rd wd j ∨ GA j), ⟨rc, wc, sb, sg, FA, h1, fun j hj => ⟨(hp j hj).1, fun x => x.elim (hp j hj).2.1 (hp j hj).2.2⟩, fun j hj => ?_, hE⟩, fun j hj => .inl hj, ?_⟩
  · rcases hj with hj | hj
    · exact hK j hj
    · exact ⟨(hq j hj).1, h2.lt j hj⟩
  · rintro base1 s1 w1 ⟨rc1, wc1, sb1, sg1, FA1, h1', hn, hk, hE1⟩ hm
    exact ⟨rc1, wc1, sb1, sg1, FA1, rd, wd, GA, h1', h2.keep hm (fun j hj x => x (.inr hj)), fun j hj => ⟨(hn j hj).1, fun x => (hn j hj).2 (.inl x), fun x => (hn j hj).2 (.inr x)⟩, hq, fun j hj => hk j (.inl hj), hE1⟩

theorem Bo.right (h : Bo w0 K kind pb ap base s qb aq base' t w) : ∃ K', RGs w0 K' qb aq base' kind t w ∧ (∀ j, K j → K' j) ∧ ∀ base1 t1 w1, RGs w0 K' qb aq base1 kind t1 w1 → Mod (fun j => ¬ K' j) w w1 → Bo w0 K kind pb ap base s qb aq base1 t1 w1 := by
  obtain ⟨rc, wc, sb, sg, FA, rd, wd, GA, h1, h2, hp, hq, hK, hE⟩ := h
  refine ⟨fun j => K j ∨ (ownP pb rc wc sb sg j ∨ FA j), ⟨rd, wd, GA, h2, fun j hj => ⟨(hq j hj).1, fun x => x.elim (hq j hj).2 (fun y => (hp j y).2.2 hj)⟩, fun j hj => ?_, hE⟩, fun j hj => .inl hj, ?_⟩
  · rcases hj with hj | hj
    · exact hK j hj
    · exact ⟨(hp j hj).1, h1.lt j hj⟩
  · rintro base1 t1 w1 ⟨rd1, wd1, GA1, h2', hn, hk, hE1⟩ hm
    exact ⟨rc, wc, sb, sg, FA, rd1, wd1, GA1, h1.keep hm (fun j hj x => x (.inr hj)), h2', fun j hj => ⟨(hp j hj).1, (hp j hj).2.1, fun x => (hn j x).2 (.inr hj)⟩, fun j hj => ⟨(hn j hj).1, fun x => (hn j hj).2 (.inl x)⟩, fun j hj => hk j (.inl hj), hE1⟩

theorem Bo.mod (h : Bo w0 K kind pb ap base s qb aq base' t w) (hm : Mod K w w') : Bo w0 K kind pb ap base s qb aq base' t w' := by
  obtain ⟨rc, wc, sb, sg, FA, rd, wd, GA, h1, h2, hp, hq, hK, hE⟩ := h
  exact ⟨rc, wc, sb, sg, FA, rd, wd, GA, h1.keep hm (fun j hj => (hp j hj).2.1), h2.keep hm (fun j hj => (hq j hj).2), hp, hq, fun j hj => ⟨(hK j hj).1, Nat.lt_of_lt_of_le (hK j hj).2 hm.size⟩, hE.new hm (fun j hj => (hK j hj).1)⟩

theorem Bo.ext (h : Bo w0 K kind pb ap base s qb aq base' t w) : Ext w0 w := by
  obtain ⟨rc, wc, sb, sg, FA, rd, wd, GA, h1, h2, hp, hq, hK, hE⟩ := h
  exact hE

theorem Bo.weak (h : Bo w0 K kind pb ap base s qb aq base' t w) (hs : ∀ j, K' j → K j) : Bo w0 K' kind pb ap base s qb aq base' t w := by
  obtain ⟨rc, wc, sb, sg, FA, rd, wd, GA, h1, h2, hp, hq, hK, hE⟩ := h
  exact ⟨rc, wc, sb, sg, FA, rd, wd, GA, h1, h2, fun j hj => ⟨(hp j hj).1, fun x => (hp j hj).2.1 (hs j x), (hp j hj).2.2⟩, fun j hj => ⟨(hq j hj).1, fun x => (hq j hj).2 (hs j x)⟩, fun j hj => hK j (hs j hj), hE⟩

theorem Bo.grow (h : Bo w0 K kind pb ap base s qb aq base' t w) (hE1 : Ext w w') {B : Nat → Prop} (hb : ∀ j, B j → w.heap.size ≤ j ∧ j < w'.heap.size) : Bo w0 (fun j => K j ∨ B j) kind pb ap base s qb aq base' t w' := by
  obtain ⟨rc, wc, sb, sg, FA, rd, wd, GA, h1, h2, hp, hq, hK, hE⟩ := h
  have l1 := h1.lt
  have l2 := h2.lt
  have z := hE.size
  refine ⟨rc, wc, sb, sg, FA, rd, wd, GA, h1.keep hE1 (fun _ _ x => x), h2.keep hE1 (fun _ _ x => x), fun j hj => ⟨(hp j hj).1, fun x => x.elim (hp j hj).2.1 (fun e => by have := l1 j hj; have := hb j e; omega), (hp j hj).2.2⟩, fun j hj => ⟨(hq j hj).1, fun x => x.elim (hq j hj).2 (fun e => by have := l2 j hj; have := hb j e; omega)⟩, fun j hj => ?_, hE.trans hE1⟩
  rcases hj with hj | hj
  · exact ⟨(hK j hj).1, Nat.lt_of_lt_of_le (hK j hj).2 hE1.size⟩
  · have := hb j hj; exact ⟨by omega, this.2⟩

theorem Bo.facts (h : Bo w0 K kind pb ap base s qb aq base' t w) : CfgC s.bs.length base (unitN kind) (perN kind) s.hr ∧ CfgC s.bs.length base (unitN kind) (perN kind) s.hw ∧ s.hs.length = perN kind ∧ kind < 8 := by
  obtain ⟨rc, wc, sb, sg, FA, rd, wd, GA, h1, h2, hp, hq, hK, hE⟩ := h
  exact ⟨h1.gr, h1.gw, h1.hl, h1.k8⟩

/-- Both give out a block. -/
theorem Bo.allocs (h : Bo w0 K kind pb ap base s qb aq base s w) {R W : List Nat} (I : Inv (unitN kind) (perN kind) base R W s) (hl : s.ts.length < 549755813000) {Q : Value → World → Prop}
    (q : ∀ w' R' W', Bo w0 K kind pb ap base (aloS (unitN kind) (perN kind) base s) qb aq base (aloS (unitN kind) (perN kind) base s) w' → Inv (unitN kind) (perN kind) base R' W' (aloS (unitN kind) (perN kind) base s) → Mod (fun j => ¬ K j) w w' → Q (.tuple #[.int .i64 (aloI (unitN kind) (perN kind) base s), .int .i64 (aloE (unitN kind) (perN kind) base s)]) w') :
    CallS Try.prog 11 #[.pointer (some ⟨pb, 0, none⟩)] w fun v1 w1 => v1 = .tuple #[.int .i64 (aloI (unitN kind) (perN kind) base s), .int .i64 (aloE (unitN kind) (perN kind) base s)] ∧
      CallS Try.prog 21 #[.pointer (some ⟨qb, 0, none⟩)] w1 Q := by
  obtain ⟨g1, g2, g3, g4⟩ := h.facts
  obtain ⟨K1, h1, hs1, back1⟩ := h.left
  refine h1.alloc hl fun w1 a1 m1 => ⟨rfl, ?_⟩
  obtain ⟨K2, h2, hs2, back2⟩ := (back1 _ _ _ a1 m1).right
  refine h2.alloc I hl fun w2 a2 m2 => ?_
  have hB := back2 _ _ _ a2 m2
  have hm : Mod (fun j => ¬ K j) w w2 := Mod.trans (m1.mono fun j x y => x (hs1 j y)) m2 (fun j _ x y => x (hs2 j y))
  rcases I.alo g1 g2 with ⟨rfl, rfl, hf, e1, e2, e3⟩ | ⟨k, R', W', _, _, _, _, _, I'⟩
  · exact q w2 [] [] hB (by rw [e3]; exact I) hm
  · exact q w2 R' W' hB I' hm

/-- Both take a block back. -/
theorem Bo.frees (h : Bo w0 K kind pb ap base s qb aq base s w) {R W : List Nat} (I : Inv (unitN kind) (perN kind) base R W s) (hl : s.ts.length < 549755812000) (k : Int) {Q : Value → World → Prop} {Y : World → Prop}
    (y : ∀ w', Mod (fun j => ¬ K j) w w' → Y w')
    (q : ∀ w' R' W', Bo w0 K kind pb ap base (freS (unitN kind) (perN kind) base s k) qb aq base (freS (unitN kind) (perN kind) base s k) w' → Inv (unitN kind) (perN kind) base R' W' (freS (unitN kind) (perN kind) base s k) → Mod (fun j => ¬ K j) w w' → Q (.int .i64 (Sf.giveE s.hs k)) w') :
    CallS Try.prog 15 #[.pointer (some ⟨pb, 0, none⟩), .int .i64 k] w fun v1 w1 => v1 = .int .i64 (Sf.giveE s.hs k) ∧ Y w1 ∧
      CallS Try.prog 22 #[.pointer (some ⟨qb, 0, none⟩), .int .i64 k] w1 Q := by
  obtain ⟨g1, g2, g3, g4⟩ := h.facts
  obtain ⟨K1, h1, hs1, back1⟩ := h.left
  refine h1.free hl k fun w1 a1 m1 => ⟨rfl, y w1 (m1.mono fun j x z => x (hs1 j z)), ?_⟩
  obtain ⟨K2, h2, hs2, back2⟩ := (back1 _ _ _ a1 m1).right
  refine h2.freeC hl k fun w2 a2 m2 => ?_
  have hB := back2 _ _ _ a2 m2
  have hm : Mod (fun j => ¬ K j) w w2 := Mod.trans (m1.mono fun j x y => x (hs1 j y)) m2 (fun j _ x y => x (hs2 j y))
  rcases I.fre g2 k with ⟨_, e⟩ | ⟨_, n, _, _, _, _, _, I'⟩
  · exact q w2 R W hB (by rw [e]; exact I) hm
  · exact q w2 R (n :: W) hB I' hm

/-- Both are moved. -/
theorem Bo.moves (h : Bo w0 K kind pb ap base s qb aq base t w) (hl : t.bs.length = s.bs.length) (b : Int) {Q : Value → Value → World → Prop} {Y : World → Prop}
    (y : ∀ w', Mod (fun j => ¬ K j) w w' → Y w')
    (q : ∀ e nb w', Bo w0 K kind pb ap nb s qb aq nb t w' → Mod (fun j => ¬ K j) w w' → Q (.int .i64 e) (.int .i64 e) w') :
    CallS Try.prog 30 #[.pointer (some ⟨pb, 0, none⟩), .int .i64 b] w fun v1 w1 => ∃ e : Int, v1 = .int .i64 e ∧ Y w1 ∧
      CallS Try.prog 31 #[.pointer (some ⟨qb, 0, none⟩), .int .i64 b] w1 (Q v1) := by
  obtain ⟨K1, h1, hs1, back1⟩ := h.left
  by_cases hf : fitsP s.bs.length b
  · obtain ⟨nb, rfl⟩ := Int.eq_ofNat_of_zero_le hf.1
    refine h1.moveC nb hf.2.1 (by have := hf.2.2; omega) fun w1 a1 m1 => ⟨_, rfl, y w1 (m1.mono fun j x z => x (hs1 j z)), ?_⟩
    obtain ⟨K2, h2, hs2, back2⟩ := (back1 _ _ _ a1 m1).right
    refine h2.moveC (nb : Int) (fun x => absurd hf (by rw [hl] at x; exact x)) fun nb' w2 e _ a2 m2 => ?_
    have e : nb' = nb := by omega
    subst e
    exact q 0 nb' w2 (back2 _ _ _ a2 m2) (Mod.trans (m1.mono fun j x y => x (hs1 j y)) m2 (fun j _ x y => x (hs2 j y)))
  · refine PGs.moveN h1 b hf ⟨_, rfl, y w (Mod.refl _ _), ?_⟩
    obtain ⟨K2, h2, hs2, back2⟩ := h.right
    exact h2.moveC b (fun _ => q 12 base w h (Mod.refl _ _)) fun nb' w2 e x a2 m2 => absurd (by rw [hl] at x; exact x) hf

end

end Go.Proofs.Ytkbgiflmecaffaa
