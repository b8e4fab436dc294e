/- VCs of functions of this seat, printed by a program of mine out of the loaded code: each with its soundness. Conditions: none. -/
import Derived.Test.YtkbgiflmecaffaaProg
import Derived.Test.YtkbgiflmecaffaaGw
import Derived.KernelRfl
set_option linter.unusedVariables false
set_option maxRecDepth 100000
namespace Go.Proofs.Ytkbgiflmecaffaa

/- garthlaw12.PageNil -/
def A_garthlaw12_PageNil : Ann := ⟨fun id => LI.none, fun l => none, fun i => none⟩

def VC.garthlaw12_PageNil (x0 : Int) (w : World) (R : Value → World → Prop) : Prop :=
  CallS Try.prog (11 : Nat) #[Value.pointer none] w fun (v0 : Value) (w1 : World) => ∃ (i2 : Int), ∃ (i3 : Int), v0 = Value.tuple #[Value.int IntKind.i64 i2, Value.int IntKind.i64 i3] ∧ CallS Try.prog (8 : Nat) #[Value.pointer none, Value.int IntKind.i64 (0 : Int), Value.int IntKind.i64 (0 : Int)] w1 fun (v4 : Value) (w5 : World) => ∃ (p6 : Option Addr), ∃ (i7 : Int), v4 = Value.tuple #[Value.pointer p6, Value.int IntKind.i64 i7] ∧ CallS Try.prog (9 : Nat) #[] w5 fun (v8 : Value) (w9 : World) => ∃ (b10 : Bool), v8 = Value.bool b10 ∧ ifB b10 (ifB (i2 == (0 : Int)) (ifB (i3 == (11 : Int)) (CallS Try.prog (15 : Nat) #[Value.pointer none, Value.int IntKind.i64 x0] w9 fun (v11 : Value) (w12 : World) => ∃ (i13 : Int), v11 = Value.int IntKind.i64 i13 ∧ ifB (i13 == (11 : Int)) (CallS Try.prog (30 : Nat) #[Value.pointer none, Value.int IntKind.i64 x0] w12 fun (v14 : Value) (w15 : World) => ∃ (i16 : Int), v14 = Value.int IntKind.i64 i16 ∧ ifB (i16 == (11 : Int)) (CallS Try.prog (16 : Nat) #[Value.pointer none, Value.int IntKind.i64 x0] w15 fun (v17 : Value) (w18 : World) => ∃ (b19 : Bool), v17 = Value.bool b19 ∧ ifB (!b19) (CallS Try.prog (17 : Nat) #[Value.pointer none] w18 fun (v20 : Value) (w21 : World) => ∃ (i22 : Int), v20 = Value.int IntKind.i64 i22 ∧ ifB (i22 == (0 : Int)) (CallS Try.prog (24 : Nat) #[Value.pointer none] w21 fun (v23 : Value) (w24 : World) => ∃ (b25 : Bool), v23 = Value.bool b25 ∧ ifB (!b25) (CallS Try.prog (27 : Nat) #[Value.pointer none] w24 fun (v26 : Value) (w27 : World) => ∃ (i28 : Int), v26 = Value.int IntKind.i64 i28 ∧ ifB (i28 == (0 : Int)) (CallS Try.prog (28 : Nat) #[Value.pointer none] w27 fun (v29 : Value) (w30 : World) => ∃ (i31 : Int), v29 = Value.int IntKind.i64 i31 ∧ ifB (i31 == (0 : Int)) (CallS Try.prog (36 : Nat) #[Value.pointer none, Value.pointer none] w30 fun (v32 : Value) (w33 : World) => ∃ (p34 : Option Addr), v32 = Value.pointer p34 ∧ ifB p34.isNone (ifB p6.isNone (R (Value.bool (i7 == (11 : Int))) w33) (R (Value.bool false) w33)) (R (Value.bool false) w33)) (R (Value.bool false) w30)) (R (Value.bool false) w27)) (R (Value.bool false) w24)) (R (Value.bool false) w21)) (R (Value.bool false) w18)) (R (Value.bool false) w15)) (R (Value.bool false) w12)) (R (Value.bool false) w9)) (R (Value.bool false) w9)) (R (Value.bool false) w9)

theorem VC.garthlaw12_PageNil.ok {x0 : Int} {w : World} {R : Value → World → Prop} (h : VC.garthlaw12_PageNil x0 w R ) : Calls Try.prog 6 #[Value.int IntKind.i64 x0] w (Ret R) :=
  calls_of_body (A := A_garthlaw12_PageNil) Try.func6 rfl (by kernel_rfl) (by kernel_rfl) ((show VC.garthlaw12_PageNil x0 w R = wpE Try.prog A_garthlaw12_PageNil Try.f6.ntmps 1000 (bodyOf Try.f6) (K0 Try.prog Try.f6 R) (frame0 #[Value.int IntKind.i64 x0]) w from by kernel_rfl) ▸ h)

end Go.Proofs.Ytkbgiflmecaffaa
