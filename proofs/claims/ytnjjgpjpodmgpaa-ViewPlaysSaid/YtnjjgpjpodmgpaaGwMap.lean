/- A map keyed by integers, as a function from its keys: made, stored into, looked up, deleted from, its length. Conditions: none. -/
import Derived.Test.YtnjjgpjpodmgpaaGwMem
import Derived.Maps.OwnSet
set_option linter.unusedVariables false
set_option linter.unusedSimpArgs false
namespace Go.Proofs.Ytnjjgpjpodmgpaa
open Go.RowKit Go.Maps

/-- An element reads as itself. -/
def rdV (v : Value) : Option (DataW Value × List MemPlace) := some (.held v, [])

/-- Block b is a map keyed by integers of kind q; m: what lies at each key; sz: how many. -/
structure IMap (w : World) (P : Program) (K : TypeId) (q : IntKind) (b : Nat) (m : Int → Option Value) (sz : Nat) : Prop where
  own : ∃ D : DataW Value, w.ownsMap P K rdV b sz D ∧ (∀ k z, D.atKey (.int q k) z = match m k with | some v => .held v | none => z) ∧ Maps.size D = sz

def upd (m : Int → Option Value) (k : Int) (v : Option Value) : Int → Option Value := fun x => if x = k then v else m x

theorem Mod.of_grown {w w' : World} {row : Option Nat} (h : w.grownBy w' row) : Mod (fun k => row = some k) w w' :=
  ⟨h.os, h.tape, h.output, h.size, fun k hk hF => h.block k hk (fun e => hF e.symm)⟩

theorem owns_exact {P : Program} {K : TypeId} {w : World} {b n : Nat} {D : DataW Value} (h : w.ownsMap P K rdV b n D) : w.ownsMap P K rdV b (Maps.size D) D := by
  obtain ⟨es, clock, hb, F, hs, rfl⟩ := h
  exact ⟨es, clock, hb, F, by simp [Maps.size, length_sorted], rfl⟩

section
variable {P : Program} {K t e : TypeId} {q : IntKind} {w : World} {b sz : Nat} {m : Int → Option Value}

theorem IMap.keep {F : Nat → Prop} {w' : World} (h : IMap w P K q b m sz) (hm : Mod F w w') (hF : ¬ F b) : IMap w' P K q b m sz := by
  obtain ⟨D, ⟨es, clock, hb, rest⟩, h2, h3⟩ := h.own
  exact ⟨D, ⟨es, clock, hm.keep hb hF, rest⟩, h2, h3⟩

theorem IMap.ext {w' : World} (h : IMap w P K q b m sz) (hm : Ext w w') : IMap w' P K q b m sz := h.keep hm (fun x => x)

theorem IMap.lt (h : IMap w P K q b m sz) : b < w.heap.size := by
  obtain ⟨D, h1, _⟩ := h.own
  exact h1.lt

theorem IMap.made (w : World) (P : Program) (K : TypeId) (q : IntKind) : IMap (w.alloc (.map #[] 0)) P K q w.heap.size (fun _ => none) 0 :=
  ⟨.map [], World.ownsMap_made w P K rdV, fun k z => rfl, rfl⟩

theorem IMap.has (h : IMap w P K q b m sz) : ∃ D : DataW Value, w.ownsMap P K rdV b sz D ∧ (∀ k z, D.atKey (.int q k) z = match m k with | some v => .held v | none => z) ∧ Maps.size D = sz ∧ ∀ k, Maps.has D (.int q k) = (m k).isSome := by
  obtain ⟨D, h1, h2, h3⟩ := h.own
  refine ⟨D, h1, h2, h3, fun k => ?_⟩
  cases hk : m k with
  | none => exact Maps.has_false_of_atKey fun z => by rw [h2, hk]
  | some v => exact Maps.has_true_of_atKey (y := .held v) fun z => by rw [h2, hk]

theorem isKey (q : IntKind) (k : Int) : WideAt.IsKeyLit (.int q k) := by trivial

theorem lit_ne {k k' : Int} (h : k' ≠ k) : (Lit.int q k') ≠ (Lit.int q k) := fun e => h (by injection e)

theorem IMap.store (h : IMap w P K q b m sz) (hK : P.underlying K = some (.int q)) (ht : P.underlying t = some (.map K e)) (hn : sz < maxLen) {k : Int} (hk : (Lit.int q k).wf = true) (v : Value) :
    ∃ w', (Instr.mapUpdate t (.map (some b)) (.int q k) v).run P w = .ok () w' ∧ IMap w' P K q b (upd m k (some v)) (if (m k).isSome then sz else sz + 1) ∧ Mod (· = b) w w' ∧ w'.heap.size = w.heap.size := by
  obtain ⟨D, h1, h2, h3, hh⟩ := h.has
  obtain ⟨w', hr, ho, ht'⟩ := h1.store (int_keyed hK) ht hn (keyOf_int_mk hK hk) (val := v) (d := .held v) (ps := []) rfl
  have htidy := h1.tidy (int_keyed hK)
  have hsz : Maps.size (D.put (.int q k) (.held v)) = if (m k).isSome then sz else sz + 1 := by rw [Maps.size_put htidy, hh, h3]
  refine ⟨w', hr, ⟨D.put (.int q k) (.held v), by rw [← hsz]; exact owns_exact ho, fun k' z => ?_, hsz⟩, ?_, ?_⟩
  · unfold upd
    by_cases e : k' = k
    · subst e
      rw [if_pos rfl]
      exact Maps.atKey_put_same h1.isMap (isKey q k') _ _
    · rw [if_neg e, Maps.atKey_put_other (lit_ne e), h2]
  · exact (Mod.of_grown ht'.grown).mono fun x hx => (Option.some.inj hx).symm
  · obtain ⟨es, clock, es', clock', _, rfl⟩ := ht'
    simp [ChangeMaps.setBlock]

theorem IMap.look (h : IMap w P K q b m sz) (hK : P.underlying K = some (.int q)) (ht : P.underlying t = some (.map K e)) {z : Value} (hz : (zeroValue e).run P w = .ok z w) {k : Int} (hk : (Lit.int q k).wf = true) :
    (Instr.lookup t (.map (some b)) (.int q k) false).run P w = .ok ((m k).getD z) w := by
  obtain ⟨D, h1, h2, h3⟩ := h.own
  obtain ⟨v, ps, hr, hv⟩ := h1.lookup (int_keyed hK) ht hz (zd := .held z) (zp := []) rfl (keyOf_int_mk hK hk)
  rw [hr]
  rw [h2] at hv
  unfold rdV at hv
  cases hm : m k with
  | none => rw [hm] at hv; cases hv; rfl
  | some u => rw [hm] at hv; cases hv; rfl

theorem IMap.look_ok (h : IMap w P K q b m sz) (hK : P.underlying K = some (.int q)) (ht : P.underlying t = some (.map K e)) {z : Value} (hz : (zeroValue e).run P w = .ok z w) {k : Int} (hk : (Lit.int q k).wf = true) :
    (Instr.lookup t (.map (some b)) (.int q k) true).run P w = .ok (.tuple #[(m k).getD z, .bool (m k).isSome]) w := by
  obtain ⟨D, h1, h2, h3, hh⟩ := h.has
  obtain ⟨v, ps, hr, hv⟩ := h1.look_ok (int_keyed hK) ht hz (zd := .held z) (zp := []) rfl (keyOf_int_mk hK hk)
  rw [hr, hh]
  rw [h2] at hv
  unfold rdV at hv
  cases hm : m k with
  | none => rw [hm] at hv; cases hv; rfl
  | some u => rw [hm] at hv; cases hv; rfl

theorem IMap.drop (h : IMap w P K q b m sz) (hK : P.underlying K = some (.int q)) (ht : P.underlying t = some (.map K e)) {k : Int} (hk : (Lit.int q k).wf = true) (ty : TypeId) :
    ∃ w', (Builtin.delete_ #[t, K] ty #[.map (some b), .int q k]).run P w = .ok (.tuple #[]) w' ∧ IMap w' P K q b (upd m k none) (if (m k).isSome then sz - 1 else sz) ∧ Mod (· = b) w w' ∧ w'.heap.size = w.heap.size := by
  obtain ⟨D, h1, h2, h3, hh⟩ := h.has
  obtain ⟨w', hr, ho, ht'⟩ := h1.drop (int_keyed hK) ht (keyOf_int_mk hK hk) ty
  have htidy := h1.tidy (int_keyed hK)
  have hsz : Maps.size (D.del (.int q k)) = if (m k).isSome then sz - 1 else sz := by
    have := Maps.size_del (k := .int q k) htidy
    rw [hh, h3] at this
    cases hm : (m k).isSome with
    | true => rw [hm, if_pos rfl] at this; rw [if_pos rfl]; omega
    | false => rw [hm, if_neg (by simp)] at this; rw [if_neg (by simp)]; omega
  refine ⟨w', hr, ⟨D.del (.int q k), by rw [← hsz]; exact owns_exact ho, fun k' z => ?_, hsz⟩, ?_, ?_⟩
  · unfold upd
    by_cases e : k' = k
    · subst e
      rw [if_pos rfl]
      exact Maps.atKey_del_same _
    · rw [if_neg e, Maps.atKey_del_other (lit_ne e), h2]
  · exact (Mod.of_grown ht'.grown).mono fun x hx => (Option.some.inj hx).symm
  · obtain ⟨es, clock, es', clock', _, rfl⟩ := ht'
    simp [ChangeMaps.setBlock]

theorem IMap.len (h : IMap w P K q b m sz) (ht : P.underlying t = some (.map K e)) (ty : TypeId) : (Builtin.len_ #[t] ty #[.map (some b)]).run P w = .ok (.int .i64 (sz : Int)) w := by
  obtain ⟨D, h1, h2, h3⟩ := h.own
  rw [h1.len ht ty, h3]

/-- A new key's entry, and what is stored there. -/
theorem IMap.entry_new (h : IMap w P K q b m sz) (hK : P.underlying K = some (.int q)) (ht : P.underlying t = some (.map K e)) (hn : sz < maxLen) {z : Value} (hz : ∀ w, (zeroValue e).run P w = .ok z w) {k : Int} (hk : (Lit.int q k).wf = true) (hm : m k = none) (v : Value) :
    ∃ (w1 : World) (st : Int), (Instr.mapEntry t (.map (some b)) (.int q k)).run P w = .ok (.tuple #[z, .int .i64 st]) w1 ∧ Mod (· = b) w w1 ∧ w1.heap.size = w.heap.size ∧
      ∃ w', (Instr.entryStore t (.map (some b)) (.int .i64 st) v).run P w1 = .ok () w' ∧ IMap w' P K q b (upd m k (some v)) (sz + 1) ∧ Mod (· = b) w1 w' ∧ w'.heap.size = w1.heap.size := by
  obtain ⟨w3, hr3, h3, m3, s3⟩ := h.store hK ht hn hk v
  rw [hm] at h3
  have hlook := h.look_ok hK ht (hz w) hk
  rw [hm] at hlook
  obtain ⟨D, ⟨es, clock, hb, F, hs, _⟩, _⟩ := h.own
  have KK := int_keyed hK
  have hkey := keyOf_int_mk hK hk
  rcases KK.find w hkey es.toList F.keys with ⟨h1, h2⟩ | ⟨j, e0, h1, h2, h3'⟩
  case inr =>
    exfalso
    simp [Instr.lookup, run_underlying ht, MapKept.run_getObj_map hb, KK.check w es.isEmpty hkey, h1, Result.andThen, hz w] at hlook
  have hx : ∀ x ∈ es.toList, x.born < clock := F.stamped.1
  let w1 := ChangeMaps.setBlock w b (.map (es.push ⟨.int q k, z, clock⟩) (clock + 1))
  have e1 : (Instr.mapEntry t (.map (some b)) (.int q k)).run P w = .ok (.tuple #[z, .int .i64 (clock : Int)]) w1 := by
    simp [Instr.mapEntry, run_underlying ht, MapKept.run_getObj_map hb, KK.check w false hkey, h1, MapKept.run_setObj_map _ hb, Result.andThen, hz w, w1, ChangeMaps.setBlock, goInt]
  have hb1 : w1.heap[b]? = some (.map (es.push ⟨.int q k, z, clock⟩) (clock + 1)) := (MapKept.heap_set hb).1
  have hfind : (es.push ⟨.int q k, z, clock⟩).findIdx? (fun e => (e.born : Int) == (clock : Int)) = some es.size := by
    rw [Array.findIdx?_push, Array.findIdx?_eq_none_iff.2]
    · simp
    · intro x hxm
      have := hx x (by simpa using hxm)
      simp
      omega
  have e2 : (Instr.entryStore t (.map (some b)) (.int .i64 (clock : Int)) v).run P w1 = .ok () (ChangeMaps.setBlock w1 b (.map (es.push ⟨.int q k, v, clock⟩) (clock + 1))) := by
    have hmod : (es.push ⟨.int q k, z, clock⟩).modify es.size (fun e => { e with val := v }) = es.push ⟨.int q k, v, clock⟩ := by
      apply Array.ext
      · simp
      · intro i h1 h2
        rw [Array.getElem_modify]
        by_cases hi : i < es.size
        · rw [if_neg (by omega), Array.getElem_push_lt hi, Array.getElem_push_lt hi]
        · have : i = es.size := by simp at h1; omega
          subst this
          simp
    simp [Instr.entryStore, MapKept.run_getObj_map hb1, MapKept.run_setObj_map _ hb1, Result.andThen, asInt, asIntOf, hfind, hmod, ChangeMaps.setBlock]
  have e3 : (Instr.mapUpdate t (.map (some b)) (.int q k) v).run P w = .ok () (ChangeMaps.setBlock w b (.map (es.push ⟨.int q k, v, clock⟩) (clock + 1))) := by
    simp [Instr.mapUpdate, run_underlying ht, MapKept.run_getObj_map hb, KK.check w false hkey, h1, MapKept.run_setObj_map _ hb, Result.andThen, ChangeMaps.setBlock]
  rw [hr3] at e3
  injection e3 with _ e3
  have hm1 : Mod (· = b) w w1 := ⟨rfl, rfl, rfl, by simp [w1, ChangeMaps.setBlock], fun i _ hi => (MapKept.heap_set hb).2 i hi⟩
  have hm2 : Mod (· = b) w1 (ChangeMaps.setBlock w1 b (.map (es.push ⟨.int q k, v, clock⟩) (clock + 1))) := ⟨rfl, rfl, rfl, by simp [ChangeMaps.setBlock], fun i _ hi => (MapKept.heap_set hb1).2 i hi⟩
  have hb3 : w3.heap[b]? = some (.map (es.push ⟨.int q k, v, clock⟩) (clock + 1)) := by rw [e3]; exact (MapKept.heap_set hb).1
  have hb4 : (ChangeMaps.setBlock w1 b (.map (es.push ⟨.int q k, v, clock⟩) (clock + 1))).heap[b]? = some (.map (es.push ⟨.int q k, v, clock⟩) (clock + 1)) := (MapKept.heap_set hb1).1
  refine ⟨w1, clock, e1, hm1, by simp [w1, ChangeMaps.setBlock], _, e2, ?_, hm2, by simp [ChangeMaps.setBlock]⟩
  obtain ⟨D', ⟨es', clock', hb', rest⟩, h2', h3'⟩ := h3.own
  rw [hb3] at hb'
  injection hb' with hb'
  injection hb' with p1 p2
  subst p1 p2
  exact ⟨D', ⟨_, _, hb4, rest⟩, h2', h3'⟩

end

end Go.Proofs.Ytnjjgpjpodmgpaa
