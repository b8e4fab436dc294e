/- VCs of functions of this seat, printed by a program of mine out of the loaded code: each with its soundness. Conditions: none. -/
import Derived.Test.YtkbgiflmecaffaaProg
import Derived.Test.YtkbgiflmecaffaaGw
import Derived.KernelRfl
set_option linter.unusedVariables false
set_option maxRecDepth 100000
namespace Go.Proofs.Ytkbgiflmecaffaa

/- garthlaw12.had -/
def A_garthlaw12_had : Ann := ⟨fun id => cond (Nat.beq id 3) ⟨[(5, .slice none 0 0), (7, .int .i64 0)], [6, 8, 9, 10, 11, 12, 13, 14, 15, 16, 17, 18, 19, 20]⟩ (LI.none), fun l => none, fun i => none⟩

def VC.garthlaw12_had (x0 : Option Addr) (x1 : Int) (w : World) (R : Value → World → Prop) : Prop :=
  ∃ (x0_1 : Nat → Option Addr → Nat → Nat → Int → World → Prop), (∃ (n1 : Nat), x0_1 n1 none (0 : Nat) (0 : Nat) (0 : Int) w) ∧ ∀ (n2 : Nat) (jv : Nat → Value) (p3 : Option Addr) (n4 n5 : Nat) (i6 : Int) (w7 : World), x0_1 n2 p3 n4 n5 i6 w7 → ifB (decide (i6 < (32 : Int))) (someA x0 fun (a8 : Addr) => (0 : Int) ≤ i6 ∧ i6 < (↑(32 : Nat) : Int) ∧ ∃ (b9 : Bool), w7.cell? ((a8.add (4 : Nat)).add i6.toNat) = some (Value.bool b9) ∧ ifB b9 (∀ (n10 : Nat) (w11 : World), n10 = w7.heap.size → w11 = w7.alloc (Obj.cells #[Value.int IntKind.i64 i6] (3 : Nat)) → ∃ (p12 : Option Addr), ∃ (n13 : Nat), ∃ (n14 : Nat), ∃ (w15 : World), Sem.run Try.prog (Builtin.append_ #[(82 : Nat), (82 : Nat)] (82 : Nat) #[Value.slice p3 n4 n5, Value.slice (some (Addr.mk n10 (0 : Nat) none)) (1 : Nat) (1 : Nat)]) w11 = Result.ok (Value.slice p12 n13 n14) w15 ∧ ∃ (n16 : Nat), n16 < n2 ∧ x0_1 n16 p12 n13 n14 (IntKind.i64.wrap (i6 + (1 : Int))) w15) (∃ (n17 : Nat), n17 < n2 ∧ x0_1 n17 p3 n4 n5 (IntKind.i64.wrap (i6 + (1 : Int))) w7)) (ifB ((↑n4 : Int) == (0 : Int)) (R (Value.int IntKind.i64 (-1 : Int)) w7) (IntKind.u64.wrap (↑n4 : Int) ≠ (0 : Int) ∧ (0 : Int) ≤ IntKind.i64.wrap ((IntKind.u64.wrap x1).tmod (IntKind.u64.wrap (↑n4 : Int))) ∧ IntKind.i64.wrap ((IntKind.u64.wrap x1).tmod (IntKind.u64.wrap (↑n4 : Int))) < (↑n4 : Int) ∧ someA p3 fun (a18 : Addr) => ∃ (i19 : Int), w7.cell? (a18.add (IntKind.i64.wrap ((IntKind.u64.wrap x1).tmod (IntKind.u64.wrap (↑n4 : Int)))).toNat) = some (Value.int IntKind.i64 i19) ∧ R (Value.int IntKind.i64 i19) w7))

theorem VC.garthlaw12_had.ok {x0 : Option Addr} {x1 : Int} {w : World} {R : Value → World → Prop} (h : VC.garthlaw12_had x0 x1 w R ) : Calls Try.prog 20 #[Value.pointer x0, Value.int IntKind.i64 x1] w (Ret R) :=
  calls_of_body (A := A_garthlaw12_had) Try.func20 rfl (by kernel_rfl) (by kernel_rfl) ((show VC.garthlaw12_had x0 x1 w R = wpE Try.prog A_garthlaw12_had Try.f20.ntmps 1000 (bodyOf Try.f20) (K0 Try.prog Try.f20 R) (frame0 #[Value.pointer x0, Value.int IntKind.i64 x1]) w from by kernel_rfl) ▸ h)

end Go.Proofs.Ytkbgiflmecaffaa
