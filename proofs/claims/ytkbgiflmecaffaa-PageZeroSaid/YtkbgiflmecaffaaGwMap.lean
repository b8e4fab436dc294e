/- A map keyed by integers, as a function from its keys: made, stored into, looked up, deleted from, its length. Conditions: none. -/
import Derived.Test.YtkbgiflmecaffaaGwMem
import Derived.Maps.OwnSet
set_option linter.unusedVariables false
set_option linter.unusedSimpArgs false
namespace Go.Proofs.Ytkbgiflmecaffaa
open Go.RowKit Go.Maps

/-- An element reads as itself. -/
def rdV (v : Value) : Option (DataW Value × List MemPlace) := some (.held v, [])

/-- Block b is a map keyed by integers of kind q; m: what lies at each key; sz: how many. -/
structure IMap (w : World) (P : Program) (K : TypeId) (q : IntKind) (b : Nat) (m : Int → Option Value) (sz : Nat) : Prop where
  own : ∃ D : DataW Value, w.ownsMap P K rdV b sz D ∧ (∀ k z, D.atKey (.int q k) z = match m k with | some v => .held v | none => z) ∧ Maps.size D = sz

def upd (m : Int → Option Value) (k : Int) (v : Option Value) : Int → Option Value := fun x => if x = k then v else m x

theorem Mod.of_grown {w w' : World} {row : Option Nat} (h : w.grownBy w' row) : Mod (fun k => row = some k) w w' :=
  ⟨h.os, h.tape, h.output, h.size, fun k hk hF => h.block k hk (fun e => hF e.symm)⟩

theorem owns_exact {P : Program} {K : TypeId} {w : World} {b n : Nat} {D : DataW Value} (h : w.ownsMap P K rdV b n D) : w.ownsMap P K rdV b (Maps.size D) D := by
  obtain ⟨es, clock, hb, F, hs, rfl⟩ := h
  exact ⟨es, clock, hb, F, by simp [Maps.size, length_sorted], rfl⟩

section
variable {P : Program} {K t e : TypeId} {q : IntKind} {w : World} {b sz : Nat} {m : Int → Option Value}

theorem IMap.keep {F : Nat → Prop} {w' : World} (h : IMap w P K q b m sz) (hm : Mod F w w') (hF : ¬ F b) : IMap w' P K q b m sz := by
  obtain ⟨D, ⟨es, clock, hb, rest⟩, h2, h3⟩ := h.own
  exact ⟨D, ⟨es, clock, hm.keep hb hF, rest⟩, h2, h3⟩

theorem IMap.ext {w' : World} (h : IMap w P K q b m sz) (hm : Ext w w') : IMap w' P K q b m sz := h.keep hm (fun x => x)

theorem IMap.lt (h : IMap w P K q b m sz) : b < w.heap.size := by
  obtain ⟨D, h1, _⟩ := h.own
  exact h1.lt

theorem IMap.made (w : World) (P : Program) (K : TypeId) (q : IntKind) : IMap (w.alloc (.map #[] 0)) P K q w.heap.size (fun _ => none) 0 :=
  ⟨.map [], World.ownsMap_made w P K rdV, fun k z => rfl, rfl⟩

theorem IMap.has (h : IMap w P K q b m sz) : ∃ D : DataW Value, w.ownsMap P K rdV b sz D ∧ (∀ k z, D.atKey (.int q k) z = match m k with | some v => .held v | none => z) ∧ Maps.size D = sz ∧ ∀ k, Maps.has D (.int q k) = (m k).isSome := by
  obtain ⟨D, h1, h2, h3⟩ := h.own
  refine ⟨D, h1, h2, h3, fun k => ?_⟩
  cases hk : m k with
  | none => exact Maps.has_false_of_atKey fun z => by rw [h2, hk]
  | some v => exact Maps.has_true_of_atKey (y := .held v) fun z => by rw [h2, hk]

theorem isKey (q : IntKind) (k : Int) : WideAt.IsKeyLit (.int q k) := by trivial

theorem lit_ne {k k' : Int} (h : k' ≠ k) : (Lit.int q k') ≠ (Lit.int q k) := fun e => h (by injection e)

theorem IMap.store (h : IMap w P K q b m sz) (hK : P.underlying K = some (.int q)) (ht : P.underlying t = some (.map K e)) (hn : sz < maxLen) {k : Int} (hk : (Lit.int q k).wf = true) (v : Value) :
    ∃ w', (Instr.mapUpdate t (.map (some b)) (.int q k) v).run P w = .ok () w' ∧ IMap w' P K q b (upd m k (some v)) (if (m k).isSome then sz else sz + 1) ∧ Mod (· = b) w w' ∧ w'.heap.size = w.heap.size := by
  obtain ⟨D, h1, h2, h3, hh⟩ := h.has
  obtain ⟨w', hr, ho, ht'⟩ := h1.store (int_keyed hK) ht hn (keyOf_int_mk hK hk) (val := v) (d := .held v) (ps := []) rfl
  have htidy := h1.tidy (int_keyed hK)
  have hsz : Maps.size (D.put (.int q k) (.held v)) = if (m k).isSome then sz else sz + 1 := by rw [Maps.size_put htidy, hh, h3]
  refine ⟨w', hr, ⟨D.put (.int q k) (.held v), by rw [← hsz]; exact owns_exact ho, fun k' z => ?_, hsz⟩, ?_, ?_⟩
  · unfold upd
    by_cases e : k' = k
    · subst e
      rw [if_pos rfl]
      exact Maps.atKey_put_same h1.isMap (isKey q k') _ _
    · rw [if_neg e, Maps.atKey_put_other (lit_ne e), h2]
  · exact (Mod.of_grown ht'.grown).mono fun x hx => (Option.some.inj hx).symm
  · obtain ⟨es, clock, es', clock', _, rfl⟩ := ht'
    simp [ChangeMaps.setBlock]

theorem IMap.look (h : IMap w P K q b m sz) (hK : P.underlying K = some (.int q)) (ht : P.underlying t = some (.map K e)) {z : Value} (hz : (zeroValue e).run P w = .ok z w) {k : Int} (hk : (Lit.int q k).wf = true) :
    (Instr.lookup t (.map (some b)) (.int q k) false).run P w = .ok ((m k).getD z) w := by
  obtain ⟨D, h1, h2, h3⟩ := h.own
  obtain ⟨v, ps, hr, hv⟩ := h1.lookup (int_keyed hK) ht hz (zd := .held z) (zp := []) rfl (keyOf_int_mk hK hk)
  rw [hr]
  rw [h2] at hv
  unfold rdV at hv
  cases hm : m k with
  | none => rw [hm] at hv; cases hv; rfl
  | some u => rw [hm] at hv; cases hv; rfl

theorem IMap.look_ok (h : IMap w P K q b m sz) (hK : P.underlying K = some (.int q)) (ht : P.underlying t = some (.map K e)) {z : Value} (hz : (zeroValue e).run P w = .ok z w) {k : Int} (hk : (Lit.int q k).wf = true) :
    (Instr.lookup t (.map (some b)) (.int q k) true).run P w = .ok (.tuple #[(m k).getD z, .bool (m k).isSome]) w := by
  obtain ⟨D, h1, h2, h3, hh⟩ := h.has
  obtain ⟨v, ps, hr, hv⟩ := h1.look_ok (int_keyed hK) ht hz (zd := .held z) (zp := []) rfl (keyOf_int_mk hK hk)
  rw [hr, hh]
  rw [h2] at hv
  unfold rdV at hv
  cases hm : m k with
  | none => rw [hm] at hv; cases hv; rfl
  | some u => rw [hm] at hv; cases hv; rfl

theorem IMap.drop (h : IMap w P K q b m sz) (hK : P.underlying K = some (.int q)) (ht : P.underlying t = some (.map K e)) {k : Int} (hk : (Lit.int q k).wf = true) (ty : TypeId) :
    ∃ w', (Builtin.delete_ #[t, K] ty #[.map (some b), .int q k]).run P w = .ok (.tuple #[]) w' ∧ IMap w' P K q b (upd m k none) (if (m k).isSome then sz - 1 else sz) ∧ Mod (· = b) w w' ∧ w'.heap.size = w.heap.size := by
  obtain ⟨D, h1, h2, h3, hh⟩ := h.has
  obtain ⟨w', hr, ho, ht'⟩ := h1.drop (int_keyed hK) ht (keyOf_int_mk hK hk) ty
  have htidy := h1.tidy (int_keyed hK)
  have hsz : Maps.size (D.del (.int q k)) = if (m k).isSome then sz - 1 else sz := by
    have := Maps.size_del (k := .int q k) htidy
    rw [hh, h3] at this
    cases hm : (m k).isSome with
    | true => rw [hm, if_pos rfl] at this; rw [if_pos rfl]; omega
    | false => rw [hm, if_neg (by simp)] at this; rw [if_neg (by simp)]; omega
  refine ⟨w', hr, ⟨D.del (.int q k), by rw [← hsz]; exact owns_exact ho, fun k' z => ?_, hsz⟩, ?_, ?_⟩
  · unfold upd
    by_cases e : k' = k
    · subst e
      rw [if_pos rfl]
      exact Maps.atKey_del_same _
    · rw [if_neg e, Maps.atKey_del_other (lit_ne e), h2]
  · exact (Mod.of_grown ht'.grown).mono fun x hx => (Option.some.inj hx).symm
  · obtain ⟨es, clock, es', clock', _, rfl⟩ := ht'
    simp [ChangeMaps.setBlock]

theorem IMap.len (h : IMap w P K q b m sz) (ht : P.underlying t = some (.map K e)) (ty : TypeId) : (Builtin.len_ #[t] ty #[.map (some b)]).run P w = .ok (.int .i64 (sz : Int)) w := by
  obtain ⟨D, h1, h2, h3⟩ := h.own
  rw [h1.len ht ty, h3]

end

end Go.Proofs.Ytkbgiflmecaffaa
