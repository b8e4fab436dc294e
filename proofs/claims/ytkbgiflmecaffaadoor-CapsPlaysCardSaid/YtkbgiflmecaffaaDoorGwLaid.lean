/- From a law's walk to its row, where the row lists package-level variables: a table of integers, cell by cell. Conditions: none. -/
import Derived.Test.YtkbgiflmecaffaaDoorGwRow
import Derived.LaidMore
import Derived.FnData
set_option linter.unusedVariables false
set_option linter.unusedSimpArgs false
namespace Go.Proofs.YtkbgiflmecaffaaDoor
open Go.ChangeShapes Go.WideShapes Go.ChangeAt Go.RowKit

section
variable {H : Type} {enc : TypeId × Value → H}

/-- What a law's walk is told, where X holds at the start, and what it owes. -/
def WalksX (X : World → Prop) (enc : TypeId × Value → H) (P : Program) (g : FuncId) (fn : Func) : Prop :=
  ∀ (W : World) (base : Nat) (args : Array Value) (ds : List (DataW H)) (ps : List MemPlace),
    (∀ (j : Nat) t v, fn.params[j]? = some t → args[j]? = some v → Value.okWide P W .any base t v) →
    DataW.TrodAll enc P W 0 (fun _ => true) true fn.params.toList args.toList ds ps →
    (DataW.weightsEach P fn.params.toList ds).all (· ≤ reachBytes) = true → X W →
    Calls P g args W (Ret fun v w' => v = .bool true ∧ Ext W w')

theorem law_liftX {X : World → Prop} {C : Checked} {g : FuncId} {fn : Func} {s : ChangeSpec} {os : Os} {tb : TypeId} (hX : ∀ w w' : World, w.heap = w'.heap → X w → X w')
    (own : ownKnob C.prog.godebug = none) (started : os.Started)
    (noInit : C.prog.inits.idxOf? g = none) (hfn : C.prog.funcs[g]? = some fn)
    (witness : ∃ (w : World) (tape : Tape) (i : Input), w.os = os ∧ (w.forCall tape i).Shaped C.prog ∧ i.vars = [] ∧ Input.okWide C.prog (w.forCall tape i) .any w.heap.size g i ∧
      ((s.pre enc C.prog fn [] false (w.forCall tape i).memory i.args ∧ X (w.forCall tape i).memory) ∧ sizedMet enc C.prog fn (OpenSpec.ofChange s) false (w.forCall tape i).memory i.args) ∧ ({} : Assume).holds C.prog (lone (Frame.enter C.prog g i.args .normal) [] (w.forCall tape i)))
    (hrt : fn.resultTypes = #[tb]) (hb : C.prog.underlying tb = some .bool) (laid : laidOutB C.prog = true)
    (hpar : fn.params.toList.all (fun t => C.prog.readableRec t && Nat.blt t C.prog.types.size) = true) (hvars : s.vars = [])
    (hspec : ∀ ds : List (DataW H), ds.length = fn.params.toList.length → (s.fn H ds).results = [.lit (.bool true)] ∧ (s.fn H ds).args = ds ∧ (s.fn H ds).vars = [])
    (walk : WalksX X enc C.prog g fn) :
    ReturnsInHanded {} C os g .any (fun w args => (s.pre enc C.prog fn [] false w args ∧ X w) ∧ sizedMet enc C.prog fn (OpenSpec.ofChange s) false w args) (s.post enc C.prog fn false true false false) := by
  refine returnsInHanded_of_change_and (X := fun w _ => X w) (fun w w' _ hh h => hX w w' hh h) own started noInit hfn witness ?_
  intro W base args ds gs before hval hW hcnd hsz hx _
  have hW' := hW
  obtain ⟨p, q, hA, hV, hbef, hfz, hnd⟩ := hW
  rw [hvars] at hV
  have hgs : gs = [] := by cases gs with | nil => rfl | cons g gs => exact hV.elim
  subst hgs
  have hlen := (trodAll_length _ _ _ _ hA).1
  have hvt : s.plain.varTypes C.prog = [] := by
    have : s.plain.vars = [] := hvars
    simp [DataSpec.varTypes, this]
  rw [hvt, List.append_nil, List.append_nil] at hsz
  refine (walk W base args ds p hval hA hsz hx).mono fun e W' hR => ?_
  cases e with
  | panicked c => exact hR.elim
  | outgrown => exact hR.elim
  | returned v =>
    obtain ⟨rfl, hE⟩ := hR
    obtain ⟨pa, hpa⟩ := trodAll_below laid hE.below _ _ _ _ hpar hA
    obtain ⟨h1, h2, h3⟩ := hspec ds hlen
    refine ⟨_, rfl, ds, [], before, [], pa, [], hW', ?_, ?_, ?_, hE.below.frame _, fun h => by cases h⟩
    · rw [List.append_nil, h1, hrt]
      exact trodAll_mk1 (shut_bool hb _)
    · rw [List.append_nil, h2]; exact hpa
    · rw [hvars, List.append_nil, h3]; rfl

/-- A listed table of integers: its cells. -/
theorem laid_cells {P : Program} {W : World} {name : String} {g : Nat} {t e : TypeId} {n : Nat} {k : IntKind} {l : List Int} (hg : P.globalNamed name = some g) (ht : (P.globals[g]?).map (·.type) = some t)
    (hu : P.underlying t = some (.array n e)) (he : P.underlying e = some (.int k)) (hc : P.cellsOf e = 1)
    (h : laidMet P [(name, .agg (l.map fun m => .lit (.int k m)))] W) : ∀ (j : Nat) (m : Int), l[j]? = some m → W.cell? ⟨g, j, none⟩ = some (.int k m) := by
  obtain ⟨ps, ⟨g0, t0, cs, f0, p, q, hg0, ht0, hv, hd, _, _⟩, _, _⟩ := h
  obtain rfl := Option.some.inj (hg.symm.trans hg0)
  obtain rfl := Option.some.inj (ht.symm.trans ht0)
  intro j m hj
  rw [World.var?_cell hg hv j]
  obtain ⟨xs, m1, _, hx, hlen, hxl, hel⟩ := DataW.trod_array hu hd
  simp only [Prod.mk.injEq, DataW.agg.injEq] at hx
  have hxj : (xs.map (·.1))[j]? = some (.lit (.int k m)) := by rw [← hx.1, List.getElem?_map, hj]; rfl
  rw [List.getElem?_map] at hxj
  cases hq : xs[j]? with
  | none => rw [hq] at hxj; cases hxj
  | some x =>
    rw [hq] at hxj
    simp only [Option.map_some, Option.some.injEq] at hxj
    have hjn : j < n := by have := (List.getElem?_eq_some_iff.1 hq).1; omega
    have h1 := hel j hjn
    rw [hq, hc, Nat.mul_one] at h1
    obtain ⟨m', e1, e2, _⟩ := DataW.trod_int he h1
    rw [e2] at hxj
    simp only [DataW.lit.injEq, Lit.int.injEq, true_and] at hxj
    subst hxj
    have h2 : ((cs.toList.drop j).take 1)[0]? = some (.int k m') := by rw [e1]; rfl
    rw [List.getElem?_take, if_pos (by omega), List.getElem?_drop, Nat.add_zero] at h2
    simpa using h2

end

end Go.Proofs.YtkbgiflmecaffaaDoor
