/- VCs of functions of this seat, printed by a program of mine out of the loaded code: each with its soundness. Conditions: none. -/
import Derived.Test.YtkbgiflmecaffaaDoorProg
import Derived.Test.YtkbgiflmecaffaaDoorGw
import Derived.KernelRfl
set_option linter.unusedVariables false
set_option maxRecDepth 100000
namespace Go.Proofs.YtkbgiflmecaffaaDoor

/- (*caps.Caps).Copy -/
def A_caps_Caps_Copy : Ann := ⟨fun id => LI.none, fun l => none, fun i => none⟩

def VC.caps_Caps_Copy (x0 : Option Addr) (w : World) (R : Value → World → Prop) : Prop :=
  ifB x0.isNone (R (Value.pointer none) w) (∀ (w0 : World), w0 = w.drew → someA x0 fun (a1 : Addr) => ∃ (i2 : Int), w0.cell? (a1.add (0 : Nat)) = some (Value.int IntKind.i64 i2) ∧ someA x0 fun (a3 : Addr) => ∃ (i4 : Int), w0.cell? (a3.add (1 : Nat)) = some (Value.int IntKind.i64 i4) ∧ someA x0 fun (a5 : Addr) => ∃ (p6 : Option Nat), w0.cell? (a5.add (2 : Nat)) = some (Value.map p6) ∧ someA x0 fun (a7 : Addr) => ∃ (p8 : Option Addr), w0.cell? (a7.add (3 : Nat)) = some (Value.pointer p8) ∧ someA x0 fun (a9 : Addr) => ∃ (p10 : Option Addr), w0.cell? (a9.add (4 : Nat)) = some (Value.pointer p10) ∧ CallS Tryd.prog (34 : Nat) #[Value.map p6] w0 fun (v11 : Value) (w12 : World) => ∃ (p13 : Option Nat), v11 = Value.map p13 ∧ (∃ (p14 : Option Addr), w12.cell? (a9.add (4 : Nat)) = some (Value.pointer p14) ∧ Value.pointer p14 = Value.pointer p10) ∧ (∃ (p15 : Option Addr), w12.cell? (a7.add (3 : Nat)) = some (Value.pointer p15) ∧ Value.pointer p15 = Value.pointer p8) ∧ (∃ (i16 : Int), w12.cell? (a3.add (1 : Nat)) = some (Value.int IntKind.i64 i16) ∧ Value.int IntKind.i64 i16 = Value.int IntKind.i64 i4) ∧ (∃ (i17 : Int), w12.cell? (a1.add (0 : Nat)) = some (Value.int IntKind.i64 i17) ∧ Value.int IntKind.i64 i17 = Value.int IntKind.i64 i2) ∧ CallS Tryd.prog (35 : Nat) #[Value.pointer p8] w12 fun (v18 : Value) (w19 : World) => ∃ (p20 : Option Addr), v18 = Value.pointer p20 ∧ (∃ (p21 : Option Addr), w19.cell? (a9.add (4 : Nat)) = some (Value.pointer p21) ∧ Value.pointer p21 = Value.pointer p10) ∧ (∃ (i22 : Int), w19.cell? (a3.add (1 : Nat)) = some (Value.int IntKind.i64 i22) ∧ Value.int IntKind.i64 i22 = Value.int IntKind.i64 i4) ∧ (∃ (i23 : Int), w19.cell? (a1.add (0 : Nat)) = some (Value.int IntKind.i64 i23) ∧ Value.int IntKind.i64 i23 = Value.int IntKind.i64 i2) ∧ CallS Tryd.prog (35 : Nat) #[Value.pointer p10] w19 fun (v24 : Value) (w25 : World) => ∃ (p26 : Option Addr), v24 = Value.pointer p26 ∧ (∃ (i27 : Int), w25.cell? (a3.add (1 : Nat)) = some (Value.int IntKind.i64 i27) ∧ Value.int IntKind.i64 i27 = Value.int IntKind.i64 i4) ∧ (∃ (i28 : Int), w25.cell? (a1.add (0 : Nat)) = some (Value.int IntKind.i64 i28) ∧ Value.int IntKind.i64 i28 = Value.int IntKind.i64 i2) ∧ w25 = w25 ∧ ∀ (n29 : Nat) (w30 : World), n29 = w25.heap.size → w30 = w25.alloc (Obj.cells #[Value.int IntKind.i64 i2, Value.int IntKind.i64 i4, Value.map p13, Value.pointer p20, Value.pointer p26] (64 : Nat)) → R (Value.pointer (some (Addr.mk n29 (0 : Nat) none))) w30)

theorem VC.caps_Caps_Copy.ok {x0 : Option Addr} {w : World} {R : Value → World → Prop} (h : VC.caps_Caps_Copy x0 w R ) : Calls Tryd.prog 23 #[Value.pointer x0] w (Ret R) :=
  calls_of_body (A := A_caps_Caps_Copy) Tryd.func23 rfl (by kernel_rfl) (by kernel_rfl) ((show VC.caps_Caps_Copy x0 w R = wpE Tryd.prog A_caps_Caps_Copy Tryd.f23.ntmps 1000 (bodyOf Tryd.f23) (K0 Tryd.prog Tryd.f23 R) (frame0 #[Value.pointer x0]) w from by kernel_rfl) ▸ h)

end Go.Proofs.YtkbgiflmecaffaaDoor
