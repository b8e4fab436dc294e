/- A range over a map keyed by integers. Conditions: none. -/
import Derived.Test.YtkbgiflmecaffaaGwMap
import Derived.Maps.Range
import Derived.Maps.RangeWalk
set_option linter.unusedVariables false
set_option linter.unusedSimpArgs false
namespace Go.Proofs.Ytkbgiflmecaffaa
open Go.RowKit Go.Maps

/-- Block r is an iterator over the map of block b; L: who is still to come; cnt: how many. -/
def IRg (w : World) (P : Program) (K : TypeId) (q : IntKind) (b r : Nat) (m : Int → Option Value) (sz : Nat) (L : Int → Bool) (cnt : Nat) : Prop :=
  ∃ (D : DataW Value) (left : Lit → Bool), w.ranges P K rdV b r sz D left cnt ∧ (∀ k z, D.atKey (.int q k) z = match m k with | some v => .held v | none => z) ∧ Maps.size D = sz ∧ ∀ k, L k = left (.int q k)

section
variable {P : Program} {K t e : TypeId} {q : IntKind} {w : World} {b r sz cnt : Nat} {m : Int → Option Value} {L : Int → Bool}

theorem IRg.map (h : IRg w P K q b r m sz L cnt) : IMap w P K q b m sz := by
  obtain ⟨D, left, h1, h2, h3, _⟩ := h
  exact ⟨D, h1.owns, h2, h3⟩

theorem IRg.lt (h : IRg w P K q b r m sz L cnt) : r < w.heap.size := by
  obtain ⟨D, left, h1, _⟩ := h
  exact h1.lt

theorem IRg.keep {F : Nat → Prop} {w' : World} (h : IRg w P K q b r m sz L cnt) (hm : Mod F w w') (hb : ¬ F b) (hr : ¬ F r) : IRg w' P K q b r m sz L cnt := by
  obtain ⟨D, left, ⟨es, clock, since, seen, c0, h1, h2, h3, h4, h5, rest⟩, h7⟩ := h
  exact ⟨D, left, ⟨es, clock, since, seen, c0, hm.keep h1 hb, h2, h3, h4, hm.keep h5 hr, rest⟩, h7⟩

theorem IMap.range (h : IMap w P K q b m sz) (hK : P.underlying K = some (.int q)) (ht : P.underlying t = some (.map K e)) :
    ∃ w' cnt, (Instr.range t (.map (some b))).run P w = .ok (.pointer (some ⟨w.heap.size, 0, none⟩)) w' ∧ IRg w' P K q b w.heap.size m sz (fun k => (m k).isSome) cnt ∧ Ext w w' ∧ w'.heap.size = w.heap.size + 1 := by
  obtain ⟨D, h1, h2, h3, h4⟩ := h.has
  obtain ⟨w', hr, hg, hgr, hs⟩ := h1.range (int_keyed hK) ht
  exact ⟨w', _, hr, ⟨D, _, hg, h2, h3, fun k => (h4 k).symm⟩, (Mod.of_grown hgr).mono fun k hk => by simp at hk, hs⟩

theorem IRg.next (h : IRg w P K q b r m sz L cnt) (hK : P.underlying K = some (.int q)) (ty : TypeId) :
    ((∀ k, L k = false) ∧ (Instr.next (.pointer (some ⟨r, 0, none⟩)) false ty).run P w = .ok (.tuple #[.bool false]) w) ∨
    ∃ (k : Int) (v : Value) (w' : World) (cnt' : Nat), (Lit.int q k).wf = true ∧ L k = true ∧ m k = some v ∧ (Instr.next (.pointer (some ⟨r, 0, none⟩)) false ty).run P w = .ok (.tuple #[.bool true, .int q k, v]) w' ∧
      IRg w' P K q b r m sz (fun x => L x && !decide (x = k)) cnt' ∧ cnt' < cnt ∧ Mod (· = r) w w' ∧ w'.heap.size = w.heap.size ∧ (Instr.entry (.pointer (some ⟨r, 0, none⟩))).run P w' = .ok (.tuple #[.int q k, v]) w' := by
  obtain ⟨D, left, h1, h2, h3, h4⟩ := h
  rcases h1.next (int_keyed hK) ty with ⟨_, hl, hr⟩ | ⟨key, v, kl, y, w', cnt', hk, hlk, hv, hat, hr, hg, hlt, hgr, hs, he⟩
  · exact .inl ⟨fun k => by rw [h4, hl], hr⟩
  · obtain ⟨x, rfl, rfl, hwf⟩ := Maps.keyOf_int_inv hK hk
    unfold rdV at hv
    obtain rfl : (.held v, []) = y := Option.some.inj hv
    refine .inr ⟨x, v, w', cnt', hwf, by rw [h4, hlk], ?_, hr, ⟨D, _, hg, h2, h3, fun k => ?_⟩, hlt, (Mod.of_grown hgr).mono fun j hj => (Option.some.inj hj).symm, hs, he⟩
    · cases hm : m x with
      | none =>
        have := hat (.lit (.bool true))
        rw [h2, hm] at this
        cases this
      | some u =>
        have := hat (.lit (.bool true))
        rw [h2, hm] at this
        simp only at this
        cases this
        rfl
    · show (L k && !decide (k = x)) = (left (.int q k) && !(Lit.int q k).sameKey (.int q x))
      rw [h4]
      congr 2
      by_cases e : k = x
      · subst e
        rw [decide_eq_true rfl, WideAt.sameKey_self (isKey q k)]
      · rw [decide_eq_false e]
        cases hs : (Lit.int q k).sameKey (.int q x) with
        | false => rfl
        | true => exact absurd (WideAt.sameKey_eq hs) (lit_ne e)

end

end Go.Proofs.Ytkbgiflmecaffaa
