/- VCs of functions of this seat, printed by a program of mine out of the loaded code: each with its soundness. Conditions: none. -/
import Derived.Test.YtnjjgpjpodmgpaaProg
import Derived.Test.YtnjjgpjpodmgpaaGw
import Derived.KernelRfl
set_option linter.unusedVariables false
set_option maxRecDepth 100000
namespace Go.Proofs.Ytnjjgpjpodmgpaa

/- (*table.Table).put -/
def A_table_Table_put : Ann := ⟨fun id => LI.none, fun l => none, fun i => none⟩

def VC.table_Table_put (x0 : Option Addr) (x1 : Int) (x2 : Int) (w : World) (R : Value → World → Prop) : Prop :=
  ∀ (w0 : World), w0 = w.drew → someA x0 fun (a1 : Addr) => ∃ (p2 : Option Nat), w0.cell? (a1.add (0 : Nat)) = some (Value.map p2) ∧ someA x0 fun (a3 : Addr) => ∃ (p4 : Option Nat), w0.cell? (a3.add (1 : Nat)) = some (Value.map p4) ∧ ∃ (i5 : Int), ∃ (i6 : Int), ∃ (w7 : World), Sem.run Try.prog (Instr.mapEntry (119 : Nat) (Value.map p2) (Value.int IntKind.i64 x1)) w0 = Result.ok (Value.tuple #[Value.int IntKind.i64 i5, Value.int IntKind.i64 i6]) w7 ∧ ∃ (w8 : World), Sem.run Try.prog (Instr.entryStore (119 : Nat) (Value.map p2) (Value.int IntKind.i64 i6) (Value.int IntKind.i64 x2)) w7 = Result.ok () w8 ∧ ∃ (i9 : Int), ∃ (i10 : Int), ∃ (w11 : World), Sem.run Try.prog (Instr.mapEntry (119 : Nat) (Value.map p4) (Value.int IntKind.i64 x2)) w8 = Result.ok (Value.tuple #[Value.int IntKind.i64 i9, Value.int IntKind.i64 i10]) w11 ∧ ∃ (w12 : World), Sem.run Try.prog (Instr.entryStore (119 : Nat) (Value.map p4) (Value.int IntKind.i64 i10) (Value.int IntKind.i64 x1)) w11 = Result.ok () w12 ∧ R (Value.tuple #[]) w12

theorem VC.table_Table_put.ok {x0 : Option Addr} {x1 : Int} {x2 : Int} {w : World} {R : Value → World → Prop} (h : VC.table_Table_put x0 x1 x2 w R ) : Calls Try.prog 58 #[Value.pointer x0, Value.int IntKind.i64 x1, Value.int IntKind.i64 x2] w (Ret R) :=
  calls_of_body (A := A_table_Table_put) Try.func58 rfl (by kernel_rfl) (by kernel_rfl) ((show VC.table_Table_put x0 x1 x2 w R = wpE Try.prog A_table_Table_put Try.f58.ntmps 1000 (bodyOf Try.f58) (K0 Try.prog Try.f58 R) (frame0 #[Value.pointer x0, Value.int IntKind.i64 x1, Value.int IntKind.i64 x2]) w from by kernel_rfl) ▸ h)

end Go.Proofs.Ytnjjgpjpodmgpaa
