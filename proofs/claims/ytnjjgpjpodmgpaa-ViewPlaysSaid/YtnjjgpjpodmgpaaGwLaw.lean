/- Words for a law's walk: what it owes ('Yes'), a number below a bound, rows that came in. Conditions: none. -/
import Derived.Test.YtnjjgpjpodmgpaaGwRun
import Derived.Test.YtnjjgpjpodmgpaaGwRead
set_option linter.unusedVariables false
set_option linter.unusedSimpArgs false
namespace Go.Proofs.Ytnjjgpjpodmgpaa
open Go.RowKit

/-- What a law's walk owes. -/
abbrev Yes (w : World) (v : Value) (w' : World) : Prop := v = .bool true ∧ Ext w w'

theorem size_mod (x : Int) (m : Nat) (h0 : 0 < m) (h1 : m ≤ 1048576) : ∃ n : Nat, IntKind.i64.wrap ((IntKind.u64.wrap x).tmod (m : Int)) = (n : Int) ∧ n < m := by
  obtain ⟨y, hy⟩ : ∃ y : Nat, IntKind.u64.wrap x = (y : Int) := Int.eq_ofNat_of_zero_le (by rw [wrap_u64_mod]; omega)
  rw [hy, ← Int.ofNat_tmod]
  have := Nat.mod_lt y h0
  exact ⟨y % m, wrap_i64 (by omega) (by omega), this⟩

theorem CellsAt.ext {w w' : World} {a : Addr} {vs : List Value} (h : CellsAt w a vs) (hE : Ext w w') : CellsAt w' a vs := by
  intro j v hj
  have hc := h j v hj
  rw [World.cell?_of_block (hE.block _ (World.block_lt_of_cell? w _ hc) (fun x => x))]
  exact hc

/-- A row that came in: its i-th element's cells lie at i * k. -/
def RowAt (w : World) (p : Option Addr) (k : Nat) {X : Type} (f : X → List Value) (l : List X) : Prop := ∀ (i : Nat) (x : X), l[i]? = some x → ∃ a, p = some a ∧ CellsAt w (a.add (i * k)) (f x)

theorem RowAt.ext {w w' : World} {p : Option Addr} {k : Nat} {X : Type} {f : X → List Value} {l : List X} (h : RowAt w p k f l) (hE : Ext w w') : RowAt w' p k f l := fun i x hi => by
  obtain ⟨a, ha, hc⟩ := h i x hi
  exact ⟨a, ha, hc.ext hE⟩

abbrev intF (x : Int) : List Value := [.int .i64 x]

theorem RowAt.int {w : World} {p : Option Addr} {l : List Int} (h : RowAt w p 1 intF l) {i : Nat} {x : Int} (hi : l[i]? = some x) {K : Int → Prop} (k : K x) :
    someA p fun a => ∃ y : Int, w.cell? (a.add i) = some (.int .i64 y) ∧ K y := by
  obtain ⟨a, rfl, hc⟩ := h i x hi
  have := hc 0 _ rfl
  rw [Nat.mul_one, Addr.add_add] at this
  exact ⟨x, this, k⟩

theorem RowAt.pair {w : World} {p : Option Addr} {X : Type} {f : X → Int × Int} {l : List X} (h : RowAt w p 2 (fun x => [.int .i64 (f x).1, .int .i64 (f x).2]) l) {i : Nat} {x : X} (hi : l[i]? = some x) {K : Int → Int → Prop} (k : K (f x).1 (f x).2) :
    someA p fun a => ∃ y z : Int, CellsAt w (a.add (i * 2)) [.int .i64 y, .int .i64 z] ∧ K y z := by
  obtain ⟨a, rfl, hc⟩ := h i x hi
  exact ⟨_, _, hc, k⟩

end Go.Proofs.Ytnjjgpjpodmgpaa
