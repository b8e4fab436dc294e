/- VCs of functions of this seat, printed by a program of mine out of the loaded code: each with its soundness. Conditions: none. -/
import Derived.Test.YtnjjgpjpodmgpaaProg
import Derived.Test.YtnjjgpjpodmgpaaGw
import Derived.KernelRfl
set_option linter.unusedVariables false
set_option maxRecDepth 100000
namespace Go.Proofs.Ytnjjgpjpodmgpaa

/- arena.New -/
def A_arena_New : Ann := ⟨fun id => LI.none, fun l => none, fun i => none⟩

def VC.arena_New (x0 : Int) (w : World) (R : Value → World → Prop) : Prop :=
  ifB (decide (x0 < (0 : Int))) (R (Value.tuple #[Value.pointer none, Value.int IntKind.i64 (12 : Int)]) w) (ifB (decide (x0 > (2097152 : Int))) (R (Value.tuple #[Value.pointer none, Value.int IntKind.i64 (12 : Int)]) w) ((0 : Int) ≤ x0 ∧ x0 ≤ x0 ∧ (↑(1 : Nat) : Int) * x0 ≤ (281474976710656 : Int) ∧ x0 ≤ (9223372036854775807 : Int) ∧ ∀ (n0 : Nat) (w1 : World), n0 = w.heap.size → w1 = w.alloc (Obj.cells (madeCells #[Value.int IntKind.u8 (0 : Int)] (x0.toNat * (1 : Nat))) (5 : Nat)) → ∀ (n2 : Nat) (w3 : World), n2 = w1.heap.size → w3 = w1.alloc (Obj.cells #[Value.slice (some (Addr.mk n0 (0 : Nat) none)) x0.toNat x0.toNat, Value.slice none (0 : Nat) (0 : Nat)] (107 : Nat)) → R (Value.tuple #[Value.pointer (some (Addr.mk n2 (0 : Nat) none)), Value.int IntKind.i64 (0 : Int)]) w3))

theorem VC.arena_New.ok {x0 : Int} {w : World} {R : Value → World → Prop} (h : VC.arena_New x0 w R ) : Calls Try.prog 13 #[Value.int IntKind.i64 x0] w (Ret R) :=
  calls_of_body (A := A_arena_New) Try.func13 rfl (by kernel_rfl) (by kernel_rfl) ((show VC.arena_New x0 w R = wpE Try.prog A_arena_New Try.f13.ntmps 1000 (bodyOf Try.f13) (K0 Try.prog Try.f13 R) (frame0 #[Value.int IntKind.i64 x0]) w from by kernel_rfl) ▸ h)

/- chain.New -/
def A_chain_New : Ann := ⟨fun id => LI.none, fun l => none, fun i => cond (Nat.beq i 5) (some ⟨[], [8, 9, 10, 11, 12, 13, 14, 15, 16, 17, 18, 19, 20, 21, 22, 23, 24, 25, 26, 27, 28, 29, 30, 31, 32, 33, 34, 35]⟩) (none)⟩

def VC.chain_New (x0 : Option Addr) (x1 : Int) (x2 : Int) (x3 : Int) (w : World) (R : Value → World → Prop) : Prop :=
  ∃ (x0_1 : World → Prop), ifB x0.isNone (R (Value.tuple #[Value.pointer none, Value.int IntKind.i64 (11 : Int)]) w) (ifB (decide (x2 < (8 : Int))) (R (Value.tuple #[Value.pointer none, Value.int IntKind.i64 (12 : Int)]) w) (ifB (decide (x2 > (512 : Int))) (R (Value.tuple #[Value.pointer none, Value.int IntKind.i64 (12 : Int)]) w) (ifB (decide (x3 < (1 : Int))) (R (Value.tuple #[Value.pointer none, Value.int IntKind.i64 (12 : Int)]) w) (ifB (decide (x3 > (64 : Int))) (R (Value.tuple #[Value.pointer none, Value.int IntKind.i64 (12 : Int)]) w) (CallS Try.prog (43 : Nat) #[Value.pointer x0, Value.int IntKind.i64 x1, Value.int IntKind.i64 x2, Value.int IntKind.i64 x3] w fun (v1 : Value) (w2 : World) => ∃ (b3 : Bool), v1 = Value.bool b3 ∧ ifB (!b3) (R (Value.tuple #[Value.pointer none, Value.int IntKind.i64 (12 : Int)]) w2) (x0_1 w2)))))) ∧ ∀ (jv : Nat → Value) (w4 : World), x0_1 w4 → ∀ (n5 : Nat) (w6 : World), n5 = w4.heap.size → w6 = w4.alloc (Obj.cells #[Value.pointer x0, Value.int IntKind.i64 x1, Value.int IntKind.i64 x2, Value.int IntKind.i64 x3, Value.int IntKind.i64 (-1 : Int)] (110 : Nat)) → R (Value.tuple #[Value.pointer (some (Addr.mk n5 (0 : Nat) none)), Value.int IntKind.i64 (0 : Int)]) w6

theorem VC.chain_New.ok {x0 : Option Addr} {x1 : Int} {x2 : Int} {x3 : Int} {w : World} {R : Value → World → Prop} (h : VC.chain_New x0 x1 x2 x3 w R ) : Calls Try.prog 14 #[Value.pointer x0, Value.int IntKind.i64 x1, Value.int IntKind.i64 x2, Value.int IntKind.i64 x3] w (Ret R) :=
  calls_of_body (A := A_chain_New) Try.func14 rfl (by kernel_rfl) (by kernel_rfl) ((show VC.chain_New x0 x1 x2 x3 w R = wpE Try.prog A_chain_New Try.f14.ntmps 1000 (bodyOf Try.f14) (K0 Try.prog Try.f14 R) (frame0 #[Value.pointer x0, Value.int IntKind.i64 x1, Value.int IntKind.i64 x2, Value.int IntKind.i64 x3]) w from by kernel_rfl) ▸ h)

/- (*chain.Chain).Push -/
def A_chain_Chain_Push : Ann := ⟨fun id => LI.none, fun l => none, fun i => cond (Nat.beq i 5) (some ⟨[], [4, 6, 7, 8, 9, 10, 11, 12, 13, 14, 15, 16, 17, 18, 19]⟩) (none)⟩

def VC.chain_Chain_Push (x0 : Option Addr) (x1 : Int) (w : World) (R : Value → World → Prop) : Prop :=
  ∃ (x0_1 : World → Prop), ifB x0.isNone (R (Value.int IntKind.i64 (11 : Int)) w) (ifB (decide (x1 < (0 : Int))) (R (Value.int IntKind.i64 (12 : Int)) w) (someA x0 fun (a1 : Addr) => ∃ (i2 : Int), w.cell? (a1.add (3 : Nat)) = some (Value.int IntKind.i64 i2) ∧ ifB (decide (x1 ≥ i2)) (R (Value.int IntKind.i64 (12 : Int)) w) (x0_1 w))) ∧ ∀ (jv : Nat → Value) (w3 : World), x0_1 w3 → ∀ (w4 : World), w4 = w3.drew → someA x0 fun (a5 : Addr) => ∃ (p6 : Option Addr), w4.cell? (a5.add (0 : Nat)) = some (Value.pointer p6) ∧ someA x0 fun (a7 : Addr) => ∃ (i8 : Int), w4.cell? (a7.add (4 : Nat)) = some (Value.int IntKind.i64 i8) ∧ w4 = w4 ∧ CallS Try.prog (46 : Nat) #[Value.pointer x0, Value.int IntKind.i64 x1] w4 fun (v9 : Value) (w10 : World) => ∃ (i11 : Int), v9 = Value.int IntKind.i64 i11 ∧ (w10 = w10 ∧ Value.int IntKind.u64 (IntKind.u64.wrap (IntKind.i64.wrap (i8 + (1 : Int)))) = Value.int IntKind.u64 (IntKind.u64.wrap (IntKind.i64.wrap (i8 + (1 : Int))))) ∧ Value.int IntKind.i64 (IntKind.i64.wrap (i8 + (1 : Int))) = Value.int IntKind.i64 (IntKind.i64.wrap (i8 + (1 : Int))) ∧ (∃ (i12 : Int), w10.cell? (a7.add (4 : Nat)) = some (Value.int IntKind.i64 i12) ∧ Value.int IntKind.i64 i12 = Value.int IntKind.i64 i8) ∧ (∃ (p13 : Option Addr), w10.cell? (a5.add (0 : Nat)) = some (Value.pointer p13) ∧ Value.pointer p13 = Value.pointer p6) ∧ CallS Try.prog (45 : Nat) #[Value.pointer p6, Value.int IntKind.i64 i11, Value.int IntKind.u64 (IntKind.u64.wrap (IntKind.i64.wrap (i8 + (1 : Int))))] w10 fun (v14 : Value) (w15 : World) => ∃ (i16 : Int), v14 = Value.int IntKind.i64 i16 ∧ someA x0 fun (a17 : Addr) => WrC w15 (a17.add (4 : Nat)) (1 : Nat) ∧ ∀ (w18 : World), w18 = wr w15 (a17.add (4 : Nat)) [Value.int IntKind.i64 x1] → R (Value.int IntKind.i64 i16) w18

theorem VC.chain_Chain_Push.ok {x0 : Option Addr} {x1 : Int} {w : World} {R : Value → World → Prop} (h : VC.chain_Chain_Push x0 x1 w R ) : Calls Try.prog 16 #[Value.pointer x0, Value.int IntKind.i64 x1] w (Ret R) :=
  calls_of_body (A := A_chain_Chain_Push) Try.func16 rfl (by kernel_rfl) (by kernel_rfl) ((show VC.chain_Chain_Push x0 x1 w R = wpE Try.prog A_chain_Chain_Push Try.f16.ntmps 1000 (bodyOf Try.f16) (K0 Try.prog Try.f16 R) (frame0 #[Value.pointer x0, Value.int IntKind.i64 x1]) w from by kernel_rfl) ▸ h)

/- (*chain.Chain).All -/
def A_chain_Chain_All : Ann := ⟨fun id => LI.none, fun l => cond (Nat.beq l 0) (some ⟨[(2, .slice none 0 0), (4, .int .i64 0)], [3, 11, 12, 13, 14, 15, 16, 17, 18, 19, 20, 21, 22, 23, 24, 25, 26, 27, 28, 29, 30, 31, 32, 33]⟩) (none), fun i => none⟩

def VC.chain_Chain_All (x0 : Option Addr) (w : World) (R : Value → World → Prop) : Prop :=
  ifB x0.isNone (R (Value.tuple #[Value.slice none (0 : Nat) (0 : Nat), Value.int IntKind.i64 (11 : Int)]) w) (someA x0 fun (a0 : Addr) => ∃ (i1 : Int), w.cell? (a0.add (4 : Nat)) = some (Value.int IntKind.i64 i1) ∧ ifB (decide (i1 < (0 : Int))) (R (Value.tuple #[Value.slice none (0 : Nat) (0 : Nat), Value.int IntKind.i64 (0 : Int)]) w) (someA x0 fun (a2 : Addr) => ∃ (i3 : Int), w.cell? (a2.add (3 : Nat)) = some (Value.int IntKind.i64 i3) ∧ ifB ((↑(0 : Nat) : Int) == i3) (R (Value.tuple #[Value.slice none (0 : Nat) (0 : Nat), Value.int IntKind.i64 (14 : Int)]) w) (∀ (n4 : Nat) (w5 : World), n4 = w.heap.size → w5 = w.alloc (Obj.cells #[Value.int IntKind.i64 i1] (3 : Nat)) → ∃ (p6 : Option Addr), ∃ (n7 : Nat), ∃ (n8 : Nat), ∃ (w9 : World), Sem.run Try.prog (Builtin.append_ #[(22 : Nat), (22 : Nat)] (22 : Nat) #[Value.slice none (0 : Nat) (0 : Nat), Value.slice (some (Addr.mk n4 (0 : Nat) none)) (1 : Nat) (1 : Nat)]) w5 = Result.ok (Value.slice p6 n7 n8) w9 ∧ CallS Try.prog (47 : Nat) #[Value.pointer x0, Value.int IntKind.i64 i1] w9 fun (v10 : Value) (w11 : World) => ∃ (i12 : Int), ∃ (i13 : Int), v10 = Value.tuple #[Value.int IntKind.i64 i12, Value.int IntKind.i64 i13] ∧ ifB (i13 != (0 : Int)) (R (Value.tuple #[Value.slice none (0 : Nat) (0 : Nat), Value.int IntKind.i64 i13]) w11) (∃ (x14 : Nat → Option Addr → Nat → Nat → Int → World → Prop), (∃ (n15 : Nat), x14 n15 p6 n7 n8 i12 w11) ∧ ∀ (n16 : Nat) (jv : Nat → Value) (p17 : Option Addr) (n18 n19 : Nat) (i20 : Int) (w21 : World), x14 n16 p17 n18 n19 i20 w21 → ifB (decide (i20 < (0 : Int))) (R (Value.tuple #[Value.slice p17 n18 n19, Value.int IntKind.i64 (0 : Int)]) w21) (someA x0 fun (a22 : Addr) => ∃ (i23 : Int), w21.cell? (a22.add (3 : Nat)) = some (Value.int IntKind.i64 i23) ∧ ifB ((↑n18 : Int) == i23) (R (Value.tuple #[Value.slice none (0 : Nat) (0 : Nat), Value.int IntKind.i64 (14 : Int)]) w21) (∀ (n24 : Nat) (w25 : World), n24 = w21.heap.size → w25 = w21.alloc (Obj.cells #[Value.int IntKind.i64 i20] (3 : Nat)) → ∃ (p26 : Option Addr), ∃ (n27 : Nat), ∃ (n28 : Nat), ∃ (w29 : World), Sem.run Try.prog (Builtin.append_ #[(22 : Nat), (22 : Nat)] (22 : Nat) #[Value.slice p17 n18 n19, Value.slice (some (Addr.mk n24 (0 : Nat) none)) (1 : Nat) (1 : Nat)]) w25 = Result.ok (Value.slice p26 n27 n28) w29 ∧ CallS Try.prog (47 : Nat) #[Value.pointer x0, Value.int IntKind.i64 i20] w29 fun (v30 : Value) (w31 : World) => ∃ (i32 : Int), ∃ (i33 : Int), v30 = Value.tuple #[Value.int IntKind.i64 i32, Value.int IntKind.i64 i33] ∧ ifB (i33 != (0 : Int)) (R (Value.tuple #[Value.slice none (0 : Nat) (0 : Nat), Value.int IntKind.i64 i33]) w31) (∃ (n34 : Nat), n34 < n16 ∧ x14 n34 p26 n27 n28 i32 w31)))))))

theorem VC.chain_Chain_All.ok {x0 : Option Addr} {w : World} {R : Value → World → Prop} (h : VC.chain_Chain_All x0 w R ) : Calls Try.prog 17 #[Value.pointer x0] w (Ret R) :=
  calls_of_body (A := A_chain_Chain_All) Try.func17 rfl (by kernel_rfl) (by kernel_rfl) ((show VC.chain_Chain_All x0 w R = wpE Try.prog A_chain_Chain_All Try.f17.ntmps 1000 (bodyOf Try.f17) (K0 Try.prog Try.f17 R) (frame0 #[Value.pointer x0]) w from by kernel_rfl) ▸ h)

/- (*chain.Chain).Pop -/
def A_chain_Chain_Pop : Ann := ⟨fun id => LI.none, fun l => none, fun i => none⟩

def VC.chain_Chain_Pop (x0 : Option Addr) (w : World) (R : Value → World → Prop) : Prop :=
  ifB x0.isNone (R (Value.tuple #[Value.int IntKind.i64 (0 : Int), Value.int IntKind.i64 (11 : Int)]) w) (someA x0 fun (a0 : Addr) => ∃ (i1 : Int), w.cell? (a0.add (4 : Nat)) = some (Value.int IntKind.i64 i1) ∧ ifB (decide (i1 < (0 : Int))) (R (Value.tuple #[Value.int IntKind.i64 (0 : Int), Value.int IntKind.i64 (13 : Int)]) w) (someA x0 fun (a2 : Addr) => ∃ (i3 : Int), w.cell? (a2.add (4 : Nat)) = some (Value.int IntKind.i64 i3) ∧ CallS Try.prog (47 : Nat) #[Value.pointer x0, Value.int IntKind.i64 i3] w fun (v4 : Value) (w5 : World) => ∃ (i6 : Int), ∃ (i7 : Int), v4 = Value.tuple #[Value.int IntKind.i64 i6, Value.int IntKind.i64 i7] ∧ ifB (i7 != (0 : Int)) (R (Value.tuple #[Value.int IntKind.i64 (0 : Int), Value.int IntKind.i64 i7]) w5) (someA x0 fun (a8 : Addr) => WrC w5 (a8.add (4 : Nat)) (1 : Nat) ∧ ∀ (w9 : World), w9 = wr w5 (a8.add (4 : Nat)) [Value.int IntKind.i64 i6] → ∀ (w10 : World), w10 = w9.drew → someA x0 fun (a11 : Addr) => ∃ (p12 : Option Addr), w10.cell? (a11.add (0 : Nat)) = some (Value.pointer p12) ∧ CallS Try.prog (46 : Nat) #[Value.pointer x0, Value.int IntKind.i64 i3] w10 fun (v13 : Value) (w14 : World) => ∃ (i15 : Int), v13 = Value.int IntKind.i64 i15 ∧ (∃ (p16 : Option Addr), w14.cell? (a11.add (0 : Nat)) = some (Value.pointer p16) ∧ Value.pointer p16 = Value.pointer p12) ∧ CallS Try.prog (45 : Nat) #[Value.pointer p12, Value.int IntKind.i64 i15, Value.int IntKind.u64 (0 : Int)] w14 fun (v17 : Value) (w18 : World) => ∃ (i19 : Int), v17 = Value.int IntKind.i64 i19 ∧ R (Value.tuple #[Value.int IntKind.i64 i3, Value.int IntKind.i64 i19]) w18)))

theorem VC.chain_Chain_Pop.ok {x0 : Option Addr} {w : World} {R : Value → World → Prop} (h : VC.chain_Chain_Pop x0 w R ) : Calls Try.prog 18 #[Value.pointer x0] w (Ret R) :=
  calls_of_body (A := A_chain_Chain_Pop) Try.func18 rfl (by kernel_rfl) (by kernel_rfl) ((show VC.chain_Chain_Pop x0 w R = wpE Try.prog A_chain_Chain_Pop Try.f18.ntmps 1000 (bodyOf Try.f18) (K0 Try.prog Try.f18 R) (frame0 #[Value.pointer x0]) w from by kernel_rfl) ▸ h)

/- (*arena.Arena).Read -/
def A_arena_Arena_Read : Ann := ⟨fun id => LI.none, fun l => none, fun i => none⟩

def VC.arena_Arena_Read (x0 : Option Addr) (x1 : Int) (x2 : Int) (w : World) (R : Value → World → Prop) : Prop :=
  CallS Try.prog (48 : Nat) #[Value.pointer x0, Value.int IntKind.i64 x1, Value.int IntKind.i64 x2] w fun (v0 : Value) (w1 : World) => ∃ (i2 : Int), v0 = Value.int IntKind.i64 i2 ∧ ifB (i2 != (0 : Int)) (R (Value.tuple #[Value.string (ByteArray.mk #[]), Value.int IntKind.i64 i2]) w1) (CallS Try.prog (49 : Nat) #[Value.pointer x0, Value.int IntKind.i64 x1, Value.int IntKind.i64 x2, Value.bool false] w1 fun (v3 : Value) (w4 : World) => ∃ (p5 : Option Addr), ∃ (n6 : Nat), ∃ (n7 : Nat), v3 = Value.slice p5 n6 n7 ∧ ∃ (x8 : List UInt8), x8.length = n6 ∧ BytesAt w4 p5 x8 ∧ R (Value.tuple #[Value.string (ByteArray.mk (Array.mk x8)), Value.int IntKind.i64 (0 : Int)]) w4)

theorem VC.arena_Arena_Read.ok {x0 : Option Addr} {x1 : Int} {x2 : Int} {w : World} {R : Value → World → Prop} (h : VC.arena_Arena_Read x0 x1 x2 w R ) : Calls Try.prog 19 #[Value.pointer x0, Value.int IntKind.i64 x1, Value.int IntKind.i64 x2] w (Ret R) :=
  calls_of_body (A := A_arena_Arena_Read) Try.func19 rfl (by kernel_rfl) (by kernel_rfl) ((show VC.arena_Arena_Read x0 x1 x2 w R = wpE Try.prog A_arena_Arena_Read Try.f19.ntmps 1000 (bodyOf Try.f19) (K0 Try.prog Try.f19 R) (frame0 #[Value.pointer x0, Value.int IntKind.i64 x1, Value.int IntKind.i64 x2]) w from by kernel_rfl) ▸ h)

/- (*arena.Arena).Size -/
def A_arena_Arena_Size : Ann := ⟨fun id => LI.none, fun l => none, fun i => none⟩

def VC.arena_Arena_Size (x0 : Option Addr) (w : World) (R : Value → World → Prop) : Prop :=
  ifB x0.isNone (R (Value.int IntKind.i64 (0 : Int)) w) (someA x0 fun (a0 : Addr) => ∃ (p1 : Option Addr), ∃ (n2 : Nat), ∃ (n3 : Nat), w.cell? (a0.add (0 : Nat)) = some (Value.slice p1 n2 n3) ∧ R (Value.int IntKind.i64 (↑n2 : Int)) w)

theorem VC.arena_Arena_Size.ok {x0 : Option Addr} {w : World} {R : Value → World → Prop} (h : VC.arena_Arena_Size x0 w R ) : Calls Try.prog 20 #[Value.pointer x0] w (Ret R) :=
  calls_of_body (A := A_arena_Arena_Size) Try.func20 rfl (by kernel_rfl) (by kernel_rfl) ((show VC.arena_Arena_Size x0 w R = wpE Try.prog A_arena_Arena_Size Try.f20.ntmps 1000 (bodyOf Try.f20) (K0 Try.prog Try.f20 R) (frame0 #[Value.pointer x0]) w from by kernel_rfl) ▸ h)

/- (*chain.Chain).Empty -/
def A_chain_Chain_Empty : Ann := ⟨fun id => LI.none, fun l => none, fun i => none⟩

def VC.chain_Chain_Empty (x0 : Option Addr) (w : World) (R : Value → World → Prop) : Prop :=
  ifB x0.isNone (R (Value.bool true) w) (someA x0 fun (a0 : Addr) => ∃ (i1 : Int), w.cell? (a0.add (4 : Nat)) = some (Value.int IntKind.i64 i1) ∧ R (Value.bool (decide (i1 < (0 : Int)))) w)

theorem VC.chain_Chain_Empty.ok {x0 : Option Addr} {w : World} {R : Value → World → Prop} (h : VC.chain_Chain_Empty x0 w R ) : Calls Try.prog 21 #[Value.pointer x0] w (Ret R) :=
  calls_of_body (A := A_chain_Chain_Empty) Try.func21 rfl (by kernel_rfl) (by kernel_rfl) ((show VC.chain_Chain_Empty x0 w R = wpE Try.prog A_chain_Chain_Empty Try.f21.ntmps 1000 (bodyOf Try.f21) (K0 Try.prog Try.f21 R) (frame0 #[Value.pointer x0]) w from by kernel_rfl) ▸ h)

/- (*arena.Arena).Touched -/
def A_arena_Arena_Touched : Ann := ⟨fun id => LI.none, fun l => none, fun i => none⟩

def VC.arena_Arena_Touched (x0 : Option Addr) (w : World) (R : Value → World → Prop) : Prop :=
  ifB x0.isNone (R (Value.slice none (0 : Nat) (0 : Nat)) w) (∀ (n0 : Nat) (w1 : World), n0 = w.heap.size → w1 = w.alloc (Obj.cells #[] (50 : Nat)) → someA x0 fun (a2 : Addr) => ∃ (p3 : Option Addr), ∃ (n4 : Nat), ∃ (n5 : Nat), w1.cell? (a2.add (1 : Nat)) = some (Value.slice p3 n4 n5) ∧ ∃ (p6 : Option Addr), ∃ (n7 : Nat), ∃ (n8 : Nat), ∃ (w9 : World), Sem.run Try.prog (Builtin.append_ #[(47 : Nat), (47 : Nat)] (47 : Nat) #[Value.slice (some (Addr.mk n0 (0 : Nat) none)) (0 : Nat) (0 : Nat), Value.slice p3 n4 n5]) w1 = Result.ok (Value.slice p6 n7 n8) w9 ∧ R (Value.slice p6 n7 n8) w9)

theorem VC.arena_Arena_Touched.ok {x0 : Option Addr} {w : World} {R : Value → World → Prop} (h : VC.arena_Arena_Touched x0 w R ) : Calls Try.prog 22 #[Value.pointer x0] w (Ret R) :=
  calls_of_body (A := A_arena_Arena_Touched) Try.func22 rfl (by kernel_rfl) (by kernel_rfl) ((show VC.arena_Arena_Touched x0 w R = wpE Try.prog A_arena_Arena_Touched Try.f22.ntmps 1000 (bodyOf Try.f22) (K0 Try.prog Try.f22 R) (frame0 #[Value.pointer x0]) w from by kernel_rfl) ▸ h)

/- (*chain.Chain).Take -/
def A_chain_Chain_Take : Ann := ⟨fun id => LI.none, fun l => none, fun i => none⟩

def VC.chain_Chain_Take (x0 : Option Addr) (x1 : Option Addr) (w : World) (R : Value → World → Prop) : Prop :=
  ifB x0.isNone (R (Value.int IntKind.i64 (11 : Int)) w) (ifB x1.isNone (R (Value.int IntKind.i64 (11 : Int)) w) (someA x0 fun (a0 : Addr) => ∃ (i1 : Int), w.cell? (a0.add (4 : Nat)) = some (Value.int IntKind.i64 i1) ∧ ifB (decide (i1 ≥ (0 : Int))) (R (Value.int IntKind.i64 (7 : Int)) w) (someA x1 fun (a2 : Addr) => ∃ (i3 : Int), w.cell? (a2.add (4 : Nat)) = some (Value.int IntKind.i64 i3) ∧ someA x0 fun (a4 : Addr) => WrC w (a4.add (4 : Nat)) (1 : Nat) ∧ ∀ (w5 : World), w5 = wr w (a4.add (4 : Nat)) [Value.int IntKind.i64 i3] → someA x1 fun (a6 : Addr) => WrC w5 (a6.add (4 : Nat)) (1 : Nat) ∧ ∀ (w7 : World), w7 = wr w5 (a6.add (4 : Nat)) [Value.int IntKind.i64 (-1 : Int)] → R (Value.int IntKind.i64 (0 : Int)) w7)))

theorem VC.chain_Chain_Take.ok {x0 : Option Addr} {x1 : Option Addr} {w : World} {R : Value → World → Prop} (h : VC.chain_Chain_Take x0 x1 w R ) : Calls Try.prog 23 #[Value.pointer x0, Value.pointer x1] w (Ret R) :=
  calls_of_body (A := A_chain_Chain_Take) Try.func23 rfl (by kernel_rfl) (by kernel_rfl) ((show VC.chain_Chain_Take x0 x1 w R = wpE Try.prog A_chain_Chain_Take Try.f23.ntmps 1000 (bodyOf Try.f23) (K0 Try.prog Try.f23 R) (frame0 #[Value.pointer x0, Value.pointer x1]) w from by kernel_rfl) ▸ h)

/- garthref08.Same -/
def A_garthref08_Same : Ann := ⟨fun id => cond (Nat.beq id 4) ⟨[(5, .int .i64 0)], [4, 11, 12, 13, 14, 15, 16, 17, 18, 19, 20, 21, 22, 23, 24, 25]⟩ (LI.none), fun l => none, fun i => none⟩

def VC.garthref08_Same (x0a : Option Addr) (x0l : Nat) (x0c : Nat) (x1a : Option Addr) (x1l : Nat) (x1c : Nat) (w : World) (R : Value → World → Prop) : Prop :=
  ifB ((↑x0l : Int) != (↑x1l : Int)) (R (Value.bool false) w) (∃ (x0 : Nat → Int → World → Prop), (∃ (n1 : Nat), x0 n1 (0 : Int) w) ∧ ∀ (n2 : Nat) (jv : Nat → Value) (i3 : Int) (w4 : World), x0 n2 i3 w4 → ifB (decide (i3 < (↑x0l : Int))) (∀ (w5 : World), w5 = w4.drew → (0 : Int) ≤ i3 ∧ i3 < (↑x0l : Int) ∧ someA x0a fun (a6 : Addr) => w5 = w5 ∧ ∃ (i7 : Int), w5.cell? (a6.add i3.toNat) = some (Value.int IntKind.i64 i7) ∧ (0 : Int) ≤ i3 ∧ i3 < (↑x1l : Int) ∧ someA x1a fun (a8 : Addr) => w5 = w5 ∧ ∃ (i9 : Int), w5.cell? (a8.add i3.toNat) = some (Value.int IntKind.i64 i9) ∧ ifB (i7 != i9) (R (Value.bool false) w5) (∃ (n10 : Nat), n10 < n2 ∧ x0 n10 (IntKind.i64.wrap (i3 + (1 : Int))) w5)) (R (Value.bool true) w4))

theorem VC.garthref08_Same.ok {x0a : Option Addr} {x0l : Nat} {x0c : Nat} {x1a : Option Addr} {x1l : Nat} {x1c : Nat} {w : World} {R : Value → World → Prop} (h : VC.garthref08_Same x0a x0l x0c x1a x1l x1c w R ) : Calls Try.prog 24 #[Value.slice x0a x0l x0c, Value.slice x1a x1l x1c] w (Ret R) :=
  calls_of_body (A := A_garthref08_Same) Try.func24 rfl (by kernel_rfl) (by kernel_rfl) ((show VC.garthref08_Same x0a x0l x0c x1a x1l x1c w R = wpE Try.prog A_garthref08_Same Try.f24.ntmps 1000 (bodyOf Try.f24) (K0 Try.prog Try.f24 R) (frame0 #[Value.slice x0a x0l x0c, Value.slice x1a x1l x1c]) w from by kernel_rfl) ▸ h)

/- (*chain.Chain).Move -/
def A_chain_Chain_Move : Ann := ⟨fun id => LI.none, fun l => none, fun i => none⟩

def VC.chain_Chain_Move (x0 : Option Addr) (x1 : Int) (w : World) (R : Value → World → Prop) : Prop :=
  ifB x0.isNone (R (Value.int IntKind.i64 (11 : Int)) w) (∀ (w0 : World), w0 = w.drew → someA x0 fun (a1 : Addr) => ∃ (p2 : Option Addr), w0.cell? (a1.add (0 : Nat)) = some (Value.pointer p2) ∧ someA x0 fun (a3 : Addr) => ∃ (i4 : Int), w0.cell? (a3.add (2 : Nat)) = some (Value.int IntKind.i64 i4) ∧ someA x0 fun (a5 : Addr) => ∃ (i6 : Int), w0.cell? (a5.add (3 : Nat)) = some (Value.int IntKind.i64 i6) ∧ CallS Try.prog (43 : Nat) #[Value.pointer p2, Value.int IntKind.i64 x1, Value.int IntKind.i64 i4, Value.int IntKind.i64 i6] w0 fun (v7 : Value) (w8 : World) => ∃ (b9 : Bool), v7 = Value.bool b9 ∧ w8 = w8 ∧ ifB (!b9) (R (Value.int IntKind.i64 (12 : Int)) w8) (someA x0 fun (a10 : Addr) => WrC w8 (a10.add (1 : Nat)) (1 : Nat) ∧ ∀ (w11 : World), w11 = wr w8 (a10.add (1 : Nat)) [Value.int IntKind.i64 x1] → R (Value.int IntKind.i64 (0 : Int)) w11))

theorem VC.chain_Chain_Move.ok {x0 : Option Addr} {x1 : Int} {w : World} {R : Value → World → Prop} (h : VC.chain_Chain_Move x0 x1 w R ) : Calls Try.prog 25 #[Value.pointer x0, Value.int IntKind.i64 x1] w (Ret R) :=
  calls_of_body (A := A_chain_Chain_Move) Try.func25 rfl (by kernel_rfl) (by kernel_rfl) ((show VC.chain_Chain_Move x0 x1 w R = wpE Try.prog A_chain_Chain_Move Try.f25.ntmps 1000 (bodyOf Try.f25) (K0 Try.prog Try.f25 R) (frame0 #[Value.pointer x0, Value.int IntKind.i64 x1]) w from by kernel_rfl) ▸ h)

/- (*chain.Chain).Copy -/
def A_chain_Chain_Copy : Ann := ⟨fun id => LI.none, fun l => none, fun i => none⟩

def VC.chain_Chain_Copy (x0 : Option Addr) (x1 : Option Addr) (w : World) (R : Value → World → Prop) : Prop :=
  ifB x0.isNone (R (Value.pointer none) w) (someA x0 fun (a0 : Addr) => ∃ (p1 : Option Addr), ∃ (i2 : Int), ∃ (i3 : Int), ∃ (i4 : Int), ∃ (i5 : Int), CellsAt w a0 [Value.pointer p1, Value.int IntKind.i64 i2, Value.int IntKind.i64 i3, Value.int IntKind.i64 i4, Value.int IntKind.i64 i5] ∧ ∀ (n6 : Nat) (w7 : World), n6 = w.heap.size → w7 = w.alloc (Obj.cells #[Value.pointer none, Value.int IntKind.i64 (0 : Int), Value.int IntKind.i64 (0 : Int), Value.int IntKind.i64 (0 : Int), Value.int IntKind.i64 (0 : Int)] (110 : Nat)) → WrC w7 (Addr.mk n6 (0 : Nat) none) (5 : Nat) ∧ ∀ (w8 : World), w8 = wr w7 (Addr.mk n6 (0 : Nat) none) [Value.pointer p1, Value.int IntKind.i64 i2, Value.int IntKind.i64 i3, Value.int IntKind.i64 i4, Value.int IntKind.i64 i5] → WrC w8 ((Addr.mk n6 (0 : Nat) none).add (0 : Nat)) (1 : Nat) ∧ ∀ (w9 : World), w9 = wr w8 ((Addr.mk n6 (0 : Nat) none).add (0 : Nat)) [Value.pointer x1] → R (Value.pointer (some (Addr.mk n6 (0 : Nat) none))) w9)

theorem VC.chain_Chain_Copy.ok {x0 : Option Addr} {x1 : Option Addr} {w : World} {R : Value → World → Prop} (h : VC.chain_Chain_Copy x0 x1 w R ) : Calls Try.prog 26 #[Value.pointer x0, Value.pointer x1] w (Ret R) :=
  calls_of_body (A := A_chain_Chain_Copy) Try.func26 rfl (by kernel_rfl) (by kernel_rfl) ((show VC.chain_Chain_Copy x0 x1 w R = wpE Try.prog A_chain_Chain_Copy Try.f26.ntmps 1000 (bodyOf Try.f26) (K0 Try.prog Try.f26 R) (frame0 #[Value.pointer x0, Value.pointer x1]) w from by kernel_rfl) ▸ h)

/- garthref01.Same -/
def A_garthref01_Same : Ann := ⟨fun id => cond (Nat.beq id 4) ⟨[(5, .int .i64 0)], [4, 11, 12, 13, 14, 15, 16, 17, 18, 19, 20, 21, 22, 23, 24, 25]⟩ (LI.none), fun l => none, fun i => none⟩

def VC.garthref01_Same (x0a : Option Addr) (x0l : Nat) (x0c : Nat) (x1a : Option Addr) (x1l : Nat) (x1c : Nat) (w : World) (R : Value → World → Prop) : Prop :=
  ifB ((↑x0l : Int) != (↑x1l : Int)) (R (Value.bool false) w) (∃ (x0 : Nat → Int → World → Prop), (∃ (n1 : Nat), x0 n1 (0 : Int) w) ∧ ∀ (n2 : Nat) (jv : Nat → Value) (i3 : Int) (w4 : World), x0 n2 i3 w4 → ifB (decide (i3 < (↑x0l : Int))) (∀ (w5 : World), w5 = w4.drew → (0 : Int) ≤ i3 ∧ i3 < (↑x0l : Int) ∧ someA x0a fun (a6 : Addr) => w5 = w5 ∧ ∃ (i7 : Int), ∃ (i8 : Int), ∃ (b9 : Bool), CellsAt w5 (a6.add (i3.toNat * (3 : Nat))) [Value.int IntKind.i64 i7, Value.int IntKind.i64 i8, Value.bool b9] ∧ (0 : Int) ≤ i3 ∧ i3 < (↑x1l : Int) ∧ someA x1a fun (a10 : Addr) => w5 = w5 ∧ ∃ (i11 : Int), ∃ (i12 : Int), ∃ (b13 : Bool), CellsAt w5 (a10.add (i3.toNat * (3 : Nat))) [Value.int IntKind.i64 i11, Value.int IntKind.i64 i12, Value.bool b13] ∧ ∃ (b14 : Bool), ∃ (w15 : World), Sem.run Try.prog (binOp BinOp.neq (50 : Nat) (Value.agg #[Value.int IntKind.i64 i7, Value.int IntKind.i64 i8, Value.bool b9]) (Value.agg #[Value.int IntKind.i64 i11, Value.int IntKind.i64 i12, Value.bool b13])) w5 = Result.ok (Value.bool b14) w15 ∧ w15 = w5 ∧ ifB b14 (R (Value.bool false) w5) (∃ (n16 : Nat), n16 < n2 ∧ x0 n16 (IntKind.i64.wrap (i3 + (1 : Int))) w5)) (R (Value.bool true) w4))

theorem VC.garthref01_Same.ok {x0a : Option Addr} {x0l : Nat} {x0c : Nat} {x1a : Option Addr} {x1l : Nat} {x1c : Nat} {w : World} {R : Value → World → Prop} (h : VC.garthref01_Same x0a x0l x0c x1a x1l x1c w R ) : Calls Try.prog 29 #[Value.slice x0a x0l x0c, Value.slice x1a x1l x1c] w (Ret R) :=
  calls_of_body (A := A_garthref01_Same) Try.func29 rfl (by kernel_rfl) (by kernel_rfl) ((show VC.garthref01_Same x0a x0l x0c x1a x1l x1c w R = wpE Try.prog A_garthref01_Same Try.f29.ntmps 1000 (bodyOf Try.f29) (K0 Try.prog Try.f29 R) (frame0 #[Value.slice x0a x0l x0c, Value.slice x1a x1l x1c]) w from by kernel_rfl) ▸ h)

/- (*arena.Arena).Write -/
def A_arena_Arena_Write : Ann := ⟨fun id => LI.none, fun l => none, fun i => none⟩

def VC.arena_Arena_Write (x0 : Option Addr) (x1 : Int) (x2 : ByteArray) (w : World) (R : Value → World → Prop) : Prop :=
  CallS Try.prog (48 : Nat) #[Value.pointer x0, Value.int IntKind.i64 x1, Value.int IntKind.i64 (↑x2.size : Int)] w fun (v0 : Value) (w1 : World) => ∃ (i2 : Int), v0 = Value.int IntKind.i64 i2 ∧ ifB (i2 == (0 : Int)) (CallS Try.prog (49 : Nat) #[Value.pointer x0, Value.int IntKind.i64 x1, Value.int IntKind.i64 (↑x2.size : Int), Value.bool true] w1 fun (v3 : Value) (w4 : World) => ∃ (p5 : Option Addr), ∃ (n6 : Nat), ∃ (n7 : Nat), v3 = Value.slice p5 n6 n7 ∧ ∃ (i8 : Int), ∃ (w9 : World), Sem.run Try.prog (Builtin.copy_ #[(41 : Nat), (9 : Nat)] (3 : Nat) #[Value.slice p5 n6 n7, Value.string x2]) w4 = Result.ok (Value.int IntKind.i64 i8) w9 ∧ R (Value.int IntKind.i64 i2) w9) (R (Value.int IntKind.i64 i2) w1)

theorem VC.arena_Arena_Write.ok {x0 : Option Addr} {x1 : Int} {x2 : ByteArray} {w : World} {R : Value → World → Prop} (h : VC.arena_Arena_Write x0 x1 x2 w R ) : Calls Try.prog 33 #[Value.pointer x0, Value.int IntKind.i64 x1, Value.string x2] w (Ret R) :=
  calls_of_body (A := A_arena_Arena_Write) Try.func33 rfl (by kernel_rfl) (by kernel_rfl) ((show VC.arena_Arena_Write x0 x1 x2 w R = wpE Try.prog A_arena_Arena_Write Try.f33.ntmps 1000 (bodyOf Try.f33) (K0 Try.prog Try.f33 R) (frame0 #[Value.pointer x0, Value.int IntKind.i64 x1, Value.string x2]) w from by kernel_rfl) ▸ h)

/- garthref01.New -/
def A_garthref01_New : Ann := ⟨fun id => LI.none, fun l => none, fun i => none⟩

def VC.garthref01_New (x0 : Int) (w : World) (R : Value → World → Prop) : Prop :=
  ifB (decide (x0 < (0 : Int))) (R (Value.tuple #[Value.pointer none, Value.int IntKind.i64 (12 : Int)]) w) (ifB (decide (x0 > (2097152 : Int))) (R (Value.tuple #[Value.pointer none, Value.int IntKind.i64 (12 : Int)]) w) ((0 : Int) ≤ x0 ∧ x0 ≤ x0 ∧ (↑(1 : Nat) : Int) * x0 ≤ (281474976710656 : Int) ∧ x0 ≤ (9223372036854775807 : Int) ∧ ∀ (n0 : Nat) (w1 : World), n0 = w.heap.size → w1 = w.alloc (Obj.cells (madeCells #[Value.int IntKind.u8 (0 : Int)] (x0.toNat * (1 : Nat))) (5 : Nat)) → ∀ (n2 : Nat) (w3 : World), n2 = w1.heap.size → w3 = w1.alloc (Obj.cells #[Value.slice (some (Addr.mk n0 (0 : Nat) none)) x0.toNat x0.toNat, Value.slice none (0 : Nat) (0 : Nat)] (70 : Nat)) → R (Value.tuple #[Value.pointer (some (Addr.mk n2 (0 : Nat) none)), Value.int IntKind.i64 (0 : Int)]) w3))

theorem VC.garthref01_New.ok {x0 : Int} {w : World} {R : Value → World → Prop} (h : VC.garthref01_New x0 w R ) : Calls Try.prog 39 #[Value.int IntKind.i64 x0] w (Ret R) :=
  calls_of_body (A := A_garthref01_New) Try.func39 rfl (by kernel_rfl) (by kernel_rfl) ((show VC.garthref01_New x0 w R = wpE Try.prog A_garthref01_New Try.f39.ntmps 1000 (bodyOf Try.f39) (K0 Try.prog Try.f39 R) (frame0 #[Value.int IntKind.i64 x0]) w from by kernel_rfl) ▸ h)

/- chain.lies -/
def A_chain_lies : Ann := ⟨fun id => LI.none, fun l => none, fun i => none⟩

def VC.chain_lies (x0 : Option Addr) (x1 : Int) (x2 : Int) (x3 : Int) (w : World) (R : Value → World → Prop) : Prop :=
  ifB (decide (x1 ≥ (0 : Int))) (CallS Try.prog (20 : Nat) #[Value.pointer x0] w fun (v0 : Value) (w1 : World) => ∃ (i2 : Int), v0 = Value.int IntKind.i64 i2 ∧ ifB (decide (x1 ≤ i2)) (CallS Try.prog (20 : Nat) #[Value.pointer x0] w1 fun (v3 : Value) (w4 : World) => ∃ (i5 : Int), v3 = Value.int IntKind.i64 i5 ∧ R (Value.bool (decide (IntKind.i64.wrap (x2 * x3) ≤ IntKind.i64.wrap (i5 - x1)))) w4) (R (Value.bool false) w1)) (R (Value.bool false) w)

theorem VC.chain_lies.ok {x0 : Option Addr} {x1 : Int} {x2 : Int} {x3 : Int} {w : World} {R : Value → World → Prop} (h : VC.chain_lies x0 x1 x2 x3 w R ) : Calls Try.prog 43 #[Value.pointer x0, Value.int IntKind.i64 x1, Value.int IntKind.i64 x2, Value.int IntKind.i64 x3] w (Ret R) :=
  calls_of_body (A := A_chain_lies) Try.func43 rfl (by kernel_rfl) (by kernel_rfl) ((show VC.chain_lies x0 x1 x2 x3 w R = wpE Try.prog A_chain_lies Try.f43.ntmps 1000 (bodyOf Try.f43) (K0 Try.prog Try.f43 R) (frame0 #[Value.pointer x0, Value.int IntKind.i64 x1, Value.int IntKind.i64 x2, Value.int IntKind.i64 x3]) w from by kernel_rfl) ▸ h)

/- (*arena.Arena).Load -/
def A_arena_Arena_Load : Ann := ⟨fun id => cond (Nat.beq id 6) ⟨[(4, .int .u64 0), (18, .int .i64 0)], [7, 19, 20, 21, 22, 23, 24, 25, 26, 27, 28, 29, 30, 31]⟩ (LI.none), fun l => none, fun i => none⟩

def VC.arena_Arena_Load (x0 : Option Addr) (x1 : Int) (w : World) (R : Value → World → Prop) : Prop :=
  CallS Try.prog (48 : Nat) #[Value.pointer x0, Value.int IntKind.i64 x1, Value.int IntKind.i64 (8 : Int)] w fun (v0 : Value) (w1 : World) => ∃ (i2 : Int), v0 = Value.int IntKind.i64 i2 ∧ ifB (i2 != (0 : Int)) (R (Value.tuple #[Value.int IntKind.u64 (0 : Int), Value.int IntKind.i64 i2]) w1) (CallS Try.prog (49 : Nat) #[Value.pointer x0, Value.int IntKind.i64 x1, Value.int IntKind.i64 (8 : Int), Value.bool false] w1 fun (v3 : Value) (w4 : World) => ∃ (p5 : Option Addr), ∃ (n6 : Nat), ∃ (n7 : Nat), v3 = Value.slice p5 n6 n7 ∧ ∃ (x8 : Nat → Int → Int → World → Prop), (∃ (n9 : Nat), x8 n9 (0 : Int) (0 : Int) w4) ∧ ∀ (n10 : Nat) (jv : Nat → Value) (i11 i12 : Int) (w13 : World), x8 n10 i11 i12 w13 → ifB (decide (i12 < (↑n6 : Int))) ((0 : Int) ≤ i12 ∧ i12 < (↑n6 : Int) ∧ someA p5 fun (a14 : Addr) => ∃ (i15 : Int), w13.cell? (a14.add i12.toNat) = some (Value.int IntKind.u8 i15) ∧ (0 : Int) ≤ IntKind.i64.wrap ((8 : Int) * i12) ∧ ∃ (n16 : Nat), n16 < n10 ∧ x8 n16 (bits BinOp.or IntKind.u64 i11 (shlV IntKind.u64 (IntKind.u64.wrap i15) (IntKind.i64.wrap ((8 : Int) * i12)))) (IntKind.i64.wrap (i12 + (1 : Int))) w13) (R (Value.tuple #[Value.int IntKind.u64 i11, Value.int IntKind.i64 i2]) w13))

theorem VC.arena_Arena_Load.ok {x0 : Option Addr} {x1 : Int} {w : World} {R : Value → World → Prop} (h : VC.arena_Arena_Load x0 x1 w R ) : Calls Try.prog 44 #[Value.pointer x0, Value.int IntKind.i64 x1] w (Ret R) :=
  calls_of_body (A := A_arena_Arena_Load) Try.func44 rfl (by kernel_rfl) (by kernel_rfl) ((show VC.arena_Arena_Load x0 x1 w R = wpE Try.prog A_arena_Arena_Load Try.f44.ntmps 1000 (bodyOf Try.f44) (K0 Try.prog Try.f44 R) (frame0 #[Value.pointer x0, Value.int IntKind.i64 x1]) w from by kernel_rfl) ▸ h)

/- (*arena.Arena).Store -/
def A_arena_Arena_Store : Ann := ⟨fun id => cond (Nat.beq id 6) ⟨[(20, .int .i64 0)], [9, 21, 22, 23, 24, 25, 26, 27, 28, 29, 30, 31]⟩ (LI.none), fun l => none, fun i => none⟩

def VC.arena_Arena_Store (x0 : Option Addr) (x1 : Int) (x2 : Int) (w : World) (R : Value → World → Prop) : Prop :=
  CallS Try.prog (48 : Nat) #[Value.pointer x0, Value.int IntKind.i64 x1, Value.int IntKind.i64 (8 : Int)] w fun (v0 : Value) (w1 : World) => ∃ (i2 : Int), v0 = Value.int IntKind.i64 i2 ∧ ifB (i2 != (0 : Int)) (R (Value.int IntKind.i64 i2) w1) (CallS Try.prog (49 : Nat) #[Value.pointer x0, Value.int IntKind.i64 x1, Value.int IntKind.i64 (8 : Int), Value.bool true] w1 fun (v3 : Value) (w4 : World) => ∃ (p5 : Option Addr), ∃ (n6 : Nat), ∃ (n7 : Nat), v3 = Value.slice p5 n6 n7 ∧ ∃ (x8 : Nat → Int → World → Prop), (∃ (n9 : Nat), x8 n9 (0 : Int) w4) ∧ ∀ (n10 : Nat) (jv : Nat → Value) (i11 : Int) (w12 : World), x8 n10 i11 w12 → ifB (decide (i11 < (↑n6 : Int))) ((0 : Int) ≤ IntKind.i64.wrap ((8 : Int) * i11) ∧ (0 : Int) ≤ i11 ∧ i11 < (↑n6 : Int) ∧ someA p5 fun (a13 : Addr) => WrC w12 (a13.add i11.toNat) [Value.int IntKind.u8 (IntKind.u8.wrap (shrV IntKind.u64 x2 (IntKind.i64.wrap ((8 : Int) * i11))))].length ∧ ∀ (w14 : World), w14 = wr w12 (a13.add i11.toNat) [Value.int IntKind.u8 (IntKind.u8.wrap (shrV IntKind.u64 x2 (IntKind.i64.wrap ((8 : Int) * i11))))] → ∃ (n15 : Nat), n15 < n10 ∧ x8 n15 (IntKind.i64.wrap (i11 + (1 : Int))) w14) (R (Value.int IntKind.i64 i2) w12))

theorem VC.arena_Arena_Store.ok {x0 : Option Addr} {x1 : Int} {x2 : Int} {w : World} {R : Value → World → Prop} (h : VC.arena_Arena_Store x0 x1 x2 w R ) : Calls Try.prog 45 #[Value.pointer x0, Value.int IntKind.i64 x1, Value.int IntKind.u64 x2] w (Ret R) :=
  calls_of_body (A := A_arena_Arena_Store) Try.func45 rfl (by kernel_rfl) (by kernel_rfl) ((show VC.arena_Arena_Store x0 x1 x2 w R = wpE Try.prog A_arena_Arena_Store Try.f45.ntmps 1000 (bodyOf Try.f45) (K0 Try.prog Try.f45 R) (frame0 #[Value.pointer x0, Value.int IntKind.i64 x1, Value.int IntKind.u64 x2]) w from by kernel_rfl) ▸ h)

/- (*chain.Chain).at -/
def A_chain_Chain_at : Ann := ⟨fun id => LI.none, fun l => none, fun i => none⟩

def VC.chain_Chain_at (x0 : Option Addr) (x1 : Int) (w : World) (R : Value → World → Prop) : Prop :=
  ∀ (w0 : World), w0 = w.drew → someA x0 fun (a1 : Addr) => ∃ (i2 : Int), w0.cell? (a1.add (1 : Nat)) = some (Value.int IntKind.i64 i2) ∧ someA x0 fun (a3 : Addr) => ∃ (i4 : Int), w0.cell? (a3.add (2 : Nat)) = some (Value.int IntKind.i64 i4) ∧ R (Value.int IntKind.i64 (IntKind.i64.wrap (i2 + IntKind.i64.wrap (x1 * i4)))) w0

theorem VC.chain_Chain_at.ok {x0 : Option Addr} {x1 : Int} {w : World} {R : Value → World → Prop} (h : VC.chain_Chain_at x0 x1 w R ) : Calls Try.prog 46 #[Value.pointer x0, Value.int IntKind.i64 x1] w (Ret R) :=
  calls_of_body (A := A_chain_Chain_at) Try.func46 rfl (by kernel_rfl) (by kernel_rfl) ((show VC.chain_Chain_at x0 x1 w R = wpE Try.prog A_chain_Chain_at Try.f46.ntmps 1000 (bodyOf Try.f46) (K0 Try.prog Try.f46 R) (frame0 #[Value.pointer x0, Value.int IntKind.i64 x1]) w from by kernel_rfl) ▸ h)

/- (*chain.Chain).next -/
def A_chain_Chain_next : Ann := ⟨fun id => LI.none, fun l => none, fun i => none⟩

def VC.chain_Chain_next (x0 : Option Addr) (x1 : Int) (w : World) (R : Value → World → Prop) : Prop :=
  ∀ (w0 : World), w0 = w.drew → someA x0 fun (a1 : Addr) => ∃ (p2 : Option Addr), w0.cell? (a1.add (0 : Nat)) = some (Value.pointer p2) ∧ CallS Try.prog (46 : Nat) #[Value.pointer x0, Value.int IntKind.i64 x1] w0 fun (v3 : Value) (w4 : World) => ∃ (i5 : Int), v3 = Value.int IntKind.i64 i5 ∧ (∃ (p6 : Option Addr), w4.cell? (a1.add (0 : Nat)) = some (Value.pointer p6) ∧ Value.pointer p6 = Value.pointer p2) ∧ CallS Try.prog (44 : Nat) #[Value.pointer p2, Value.int IntKind.i64 i5] w4 fun (v7 : Value) (w8 : World) => ∃ (i9 : Int), ∃ (i10 : Int), v7 = Value.tuple #[Value.int IntKind.u64 i9, Value.int IntKind.i64 i10] ∧ ifB (i10 == (0 : Int)) (someA x0 fun (a11 : Addr) => ∃ (i12 : Int), w8.cell? (a11.add (3 : Nat)) = some (Value.int IntKind.i64 i12) ∧ ifB (decide (i9 > IntKind.u64.wrap i12)) (R (Value.tuple #[Value.int IntKind.i64 (IntKind.i64.wrap (IntKind.i64.wrap i9 - (1 : Int))), Value.int IntKind.i64 (14 : Int)]) w8) (R (Value.tuple #[Value.int IntKind.i64 (IntKind.i64.wrap (IntKind.i64.wrap i9 - (1 : Int))), Value.int IntKind.i64 i10]) w8)) (R (Value.tuple #[Value.int IntKind.i64 (IntKind.i64.wrap (IntKind.i64.wrap i9 - (1 : Int))), Value.int IntKind.i64 i10]) w8)

theorem VC.chain_Chain_next.ok {x0 : Option Addr} {x1 : Int} {w : World} {R : Value → World → Prop} (h : VC.chain_Chain_next x0 x1 w R ) : Calls Try.prog 47 #[Value.pointer x0, Value.int IntKind.i64 x1] w (Ret R) :=
  calls_of_body (A := A_chain_Chain_next) Try.func47 rfl (by kernel_rfl) (by kernel_rfl) ((show VC.chain_Chain_next x0 x1 w R = wpE Try.prog A_chain_Chain_next Try.f47.ntmps 1000 (bodyOf Try.f47) (K0 Try.prog Try.f47 R) (frame0 #[Value.pointer x0, Value.int IntKind.i64 x1]) w from by kernel_rfl) ▸ h)

/- (*arena.Arena).has -/
def A_arena_Arena_has : Ann := ⟨fun id => LI.none, fun l => none, fun i => none⟩

def VC.arena_Arena_has (x0 : Option Addr) (x1 : Int) (x2 : Int) (w : World) (R : Value → World → Prop) : Prop :=
  ifB x0.isNone (R (Value.int IntKind.i64 (11 : Int)) w) (ifB (decide (x1 < (0 : Int))) (R (Value.int IntKind.i64 (4 : Int)) w) (ifB (decide (x2 < (0 : Int))) (R (Value.int IntKind.i64 (4 : Int)) w) (someA x0 fun (a0 : Addr) => ∃ (p1 : Option Addr), ∃ (n2 : Nat), ∃ (n3 : Nat), w.cell? (a0.add (0 : Nat)) = some (Value.slice p1 n2 n3) ∧ ifB (decide (x1 > (↑n2 : Int))) (R (Value.int IntKind.i64 (4 : Int)) w) (someA x0 fun (a4 : Addr) => ∃ (p5 : Option Addr), ∃ (n6 : Nat), ∃ (n7 : Nat), w.cell? (a4.add (0 : Nat)) = some (Value.slice p5 n6 n7) ∧ ifB (decide (x2 ≤ IntKind.i64.wrap ((↑n6 : Int) - x1))) (R (Value.int IntKind.i64 (0 : Int)) w) (R (Value.int IntKind.i64 (4 : Int)) w)))))

theorem VC.arena_Arena_has.ok {x0 : Option Addr} {x1 : Int} {x2 : Int} {w : World} {R : Value → World → Prop} (h : VC.arena_Arena_has x0 x1 x2 w R ) : Calls Try.prog 48 #[Value.pointer x0, Value.int IntKind.i64 x1, Value.int IntKind.i64 x2] w (Ret R) :=
  calls_of_body (A := A_arena_Arena_has) Try.func48 rfl (by kernel_rfl) (by kernel_rfl) ((show VC.arena_Arena_has x0 x1 x2 w R = wpE Try.prog A_arena_Arena_has Try.f48.ntmps 1000 (bodyOf Try.f48) (K0 Try.prog Try.f48 R) (frame0 #[Value.pointer x0, Value.int IntKind.i64 x1, Value.int IntKind.i64 x2]) w from by kernel_rfl) ▸ h)

/- (*arena.Arena).touch -/
def A_arena_Arena_touch : Ann := ⟨fun id => LI.none, fun l => none, fun i => none⟩

def VC.arena_Arena_touch (x0 : Option Addr) (x1 : Int) (x2 : Int) (x3 : Bool) (w : World) (R : Value → World → Prop) : Prop :=
  ifB (decide (x2 > (0 : Int))) (someA x0 fun (a0 : Addr) => ∃ (p1 : Option Addr), ∃ (n2 : Nat), ∃ (n3 : Nat), w.cell? (a0.add (1 : Nat)) = some (Value.slice p1 n2 n3) ∧ ∀ (n4 : Nat) (w5 : World), n4 = w.heap.size → w5 = w.alloc (Obj.cells #[Value.int IntKind.i64 x1, Value.int IntKind.i64 x2, Value.bool x3] (50 : Nat)) → ∃ (p6 : Option Addr), ∃ (n7 : Nat), ∃ (n8 : Nat), ∃ (w9 : World), Sem.run Try.prog (Builtin.append_ #[(47 : Nat), (47 : Nat)] (47 : Nat) #[Value.slice p1 n2 n3, Value.slice (some (Addr.mk n4 (0 : Nat) none)) (1 : Nat) (1 : Nat)]) w5 = Result.ok (Value.slice p6 n7 n8) w9 ∧ someA x0 fun (a10 : Addr) => WrC w9 (a10.add (1 : Nat)) (1 : Nat) ∧ ∀ (w11 : World), w11 = wr w9 (a10.add (1 : Nat)) [Value.slice p6 n7 n8] → someA x0 fun (a12 : Addr) => ∃ (p13 : Option Addr), ∃ (n14 : Nat), ∃ (n15 : Nat), w11.cell? (a12.add (0 : Nat)) = some (Value.slice p13 n14 n15) ∧ (0 : Int) ≤ x1 ∧ x1 ≤ IntKind.i64.wrap (x1 + x2) ∧ IntKind.i64.wrap (x1 + x2) ≤ (↑n15 : Int) ∧ R (Value.slice (subA p13 x1.toNat n15 (1 : Nat)) ((IntKind.i64.wrap (x1 + x2)).toNat - x1.toNat) (n15 - x1.toNat)) w11) (someA x0 fun (a16 : Addr) => ∃ (p17 : Option Addr), ∃ (n18 : Nat), ∃ (n19 : Nat), w.cell? (a16.add (0 : Nat)) = some (Value.slice p17 n18 n19) ∧ (0 : Int) ≤ x1 ∧ x1 ≤ IntKind.i64.wrap (x1 + x2) ∧ IntKind.i64.wrap (x1 + x2) ≤ (↑n19 : Int) ∧ R (Value.slice (subA p17 x1.toNat n19 (1 : Nat)) ((IntKind.i64.wrap (x1 + x2)).toNat - x1.toNat) (n19 - x1.toNat)) w)

theorem VC.arena_Arena_touch.ok {x0 : Option Addr} {x1 : Int} {x2 : Int} {x3 : Bool} {w : World} {R : Value → World → Prop} (h : VC.arena_Arena_touch x0 x1 x2 x3 w R ) : Calls Try.prog 49 #[Value.pointer x0, Value.int IntKind.i64 x1, Value.int IntKind.i64 x2, Value.bool x3] w (Ret R) :=
  calls_of_body (A := A_arena_Arena_touch) Try.func49 rfl (by kernel_rfl) (by kernel_rfl) ((show VC.arena_Arena_touch x0 x1 x2 x3 w R = wpE Try.prog A_arena_Arena_touch Try.f49.ntmps 1000 (bodyOf Try.f49) (K0 Try.prog Try.f49 R) (frame0 #[Value.pointer x0, Value.int IntKind.i64 x1, Value.int IntKind.i64 x2, Value.bool x3]) w from by kernel_rfl) ▸ h)

/- garthref11.New -/
def A_garthref11_New : Ann := ⟨fun id => LI.none, fun l => none, fun i => none⟩

def VC.garthref11_New (x0 : Option Addr) (x1 : Int) (x2 : Int) (x3 : Int) (w : World) (R : Value → World → Prop) : Prop :=
  ifB (decide (x2 < (8 : Int))) (R (Value.tuple #[Value.pointer none, Value.int IntKind.i64 (12 : Int)]) w) (ifB (decide (x2 > (512 : Int))) (R (Value.tuple #[Value.pointer none, Value.int IntKind.i64 (12 : Int)]) w) (ifB (decide (x3 < (1 : Int))) (R (Value.tuple #[Value.pointer none, Value.int IntKind.i64 (12 : Int)]) w) (ifB (decide (x3 > (64 : Int))) (R (Value.tuple #[Value.pointer none, Value.int IntKind.i64 (12 : Int)]) w) (CallS Try.prog (75 : Nat) #[Value.pointer x0, Value.int IntKind.i64 x1, Value.int IntKind.i64 x2, Value.int IntKind.i64 x3] w fun (v0 : Value) (w1 : World) => ∃ (b2 : Bool), v0 = Value.bool b2 ∧ ifB (!b2) (R (Value.tuple #[Value.pointer none, Value.int IntKind.i64 (12 : Int)]) w1) (∀ (n3 : Nat) (w4 : World), n3 = w1.heap.size → w4 = w1.alloc (Obj.cells #[Value.pointer x0, Value.int IntKind.i64 x1, Value.int IntKind.i64 x2, Value.int IntKind.i64 x3, Value.int IntKind.i64 (-1 : Int)] (68 : Nat)) → R (Value.tuple #[Value.pointer (some (Addr.mk n3 (0 : Nat) none)), Value.int IntKind.i64 (0 : Int)]) w4)))))

theorem VC.garthref11_New.ok {x0 : Option Addr} {x1 : Int} {x2 : Int} {x3 : Int} {w : World} {R : Value → World → Prop} (h : VC.garthref11_New x0 x1 x2 x3 w R ) : Calls Try.prog 50 #[Value.pointer x0, Value.int IntKind.i64 x1, Value.int IntKind.i64 x2, Value.int IntKind.i64 x3] w (Ret R) :=
  calls_of_body (A := A_garthref11_New) Try.func50 rfl (by kernel_rfl) (by kernel_rfl) ((show VC.garthref11_New x0 x1 x2 x3 w R = wpE Try.prog A_garthref11_New Try.f50.ntmps 1000 (bodyOf Try.f50) (K0 Try.prog Try.f50 R) (frame0 #[Value.pointer x0, Value.int IntKind.i64 x1, Value.int IntKind.i64 x2, Value.int IntKind.i64 x3]) w from by kernel_rfl) ▸ h)

/- (*garthref11.Chain).Push -/
def A_garthref11_Chain_Push : Ann := ⟨fun id => LI.none, fun l => none, fun i => none⟩

def VC.garthref11_Chain_Push (x0 : Option Addr) (x1 : Int) (w : World) (R : Value → World → Prop) : Prop :=
  ifB (decide (x1 < (0 : Int))) (R (Value.int IntKind.i64 (12 : Int)) w) (someA x0 fun (a0 : Addr) => ∃ (i1 : Int), w.cell? (a0.add (3 : Nat)) = some (Value.int IntKind.i64 i1) ∧ ifB (decide (x1 ≥ i1)) (R (Value.int IntKind.i64 (12 : Int)) w) (∀ (w2 : World), w2 = w.drew → someA x0 fun (a3 : Addr) => ∃ (p4 : Option Addr), w2.cell? (a3.add (0 : Nat)) = some (Value.pointer p4) ∧ someA x0 fun (a5 : Addr) => ∃ (i6 : Int), w2.cell? (a5.add (1 : Nat)) = some (Value.int IntKind.i64 i6) ∧ someA x0 fun (a7 : Addr) => ∃ (i8 : Int), w2.cell? (a7.add (2 : Nat)) = some (Value.int IntKind.i64 i8) ∧ someA x0 fun (a9 : Addr) => ∃ (i10 : Int), w2.cell? (a9.add (4 : Nat)) = some (Value.int IntKind.i64 i10) ∧ w2 = w2 ∧ CallS Try.prog (56 : Nat) #[Value.pointer p4, Value.int IntKind.i64 (IntKind.i64.wrap (i6 + IntKind.i64.wrap (x1 * i8))), Value.int IntKind.u64 (IntKind.u64.wrap (IntKind.i64.wrap (i10 + (1 : Int))))] w2 fun (v11 : Value) (w12 : World) => ∃ (i13 : Int), v11 = Value.int IntKind.i64 i13 ∧ someA x0 fun (a14 : Addr) => WrC w12 (a14.add (4 : Nat)) (1 : Nat) ∧ ∀ (w15 : World), w15 = wr w12 (a14.add (4 : Nat)) [Value.int IntKind.i64 x1] → R (Value.int IntKind.i64 (0 : Int)) w15))

theorem VC.garthref11_Chain_Push.ok {x0 : Option Addr} {x1 : Int} {w : World} {R : Value → World → Prop} (h : VC.garthref11_Chain_Push x0 x1 w R ) : Calls Try.prog 51 #[Value.pointer x0, Value.int IntKind.i64 x1] w (Ret R) :=
  calls_of_body (A := A_garthref11_Chain_Push) Try.func51 rfl (by kernel_rfl) (by kernel_rfl) ((show VC.garthref11_Chain_Push x0 x1 w R = wpE Try.prog A_garthref11_Chain_Push Try.f51.ntmps 1000 (bodyOf Try.f51) (K0 Try.prog Try.f51 R) (frame0 #[Value.pointer x0, Value.int IntKind.i64 x1]) w from by kernel_rfl) ▸ h)

/- (*garthref11.Chain).Pop -/
def A_garthref11_Chain_Pop : Ann := ⟨fun id => LI.none, fun l => none, fun i => none⟩

def VC.garthref11_Chain_Pop (x0 : Option Addr) (w : World) (R : Value → World → Prop) : Prop :=
  someA x0 fun (a0 : Addr) => ∃ (i1 : Int), w.cell? (a0.add (4 : Nat)) = some (Value.int IntKind.i64 i1) ∧ ifB (decide (i1 < (0 : Int))) (R (Value.tuple #[Value.int IntKind.i64 (0 : Int), Value.int IntKind.i64 (13 : Int)]) w) (∀ (w2 : World), w2 = w.drew → someA x0 fun (a3 : Addr) => ∃ (p4 : Option Addr), w2.cell? (a3.add (0 : Nat)) = some (Value.pointer p4) ∧ someA x0 fun (a5 : Addr) => ∃ (i6 : Int), w2.cell? (a5.add (1 : Nat)) = some (Value.int IntKind.i64 i6) ∧ someA x0 fun (a7 : Addr) => ∃ (i8 : Int), w2.cell? (a7.add (4 : Nat)) = some (Value.int IntKind.i64 i8) ∧ someA x0 fun (a9 : Addr) => ∃ (i10 : Int), w2.cell? (a9.add (2 : Nat)) = some (Value.int IntKind.i64 i10) ∧ CallS Try.prog (76 : Nat) #[Value.pointer p4, Value.int IntKind.i64 (IntKind.i64.wrap (i6 + IntKind.i64.wrap (i8 * i10)))] w2 fun (v11 : Value) (w12 : World) => ∃ (i13 : Int), ∃ (i14 : Int), v11 = Value.tuple #[Value.int IntKind.u64 i13, Value.int IntKind.i64 i14] ∧ someA x0 fun (a15 : Addr) => ∃ (i16 : Int), w12.cell? (a15.add (3 : Nat)) = some (Value.int IntKind.i64 i16) ∧ ifB (decide (i13 > IntKind.u64.wrap i16)) (R (Value.tuple #[Value.int IntKind.i64 (0 : Int), Value.int IntKind.i64 (14 : Int)]) w12) (∀ (w17 : World), w17 = w12.drew → someA x0 fun (a18 : Addr) => ∃ (p19 : Option Addr), w17.cell? (a18.add (0 : Nat)) = some (Value.pointer p19) ∧ someA x0 fun (a20 : Addr) => ∃ (i21 : Int), w17.cell? (a20.add (1 : Nat)) = some (Value.int IntKind.i64 i21) ∧ someA x0 fun (a22 : Addr) => ∃ (i23 : Int), w17.cell? (a22.add (4 : Nat)) = some (Value.int IntKind.i64 i23) ∧ someA x0 fun (a24 : Addr) => ∃ (i25 : Int), w17.cell? (a24.add (2 : Nat)) = some (Value.int IntKind.i64 i25) ∧ CallS Try.prog (56 : Nat) #[Value.pointer p19, Value.int IntKind.i64 (IntKind.i64.wrap (i21 + IntKind.i64.wrap (i23 * i25))), Value.int IntKind.u64 (0 : Int)] w17 fun (v26 : Value) (w27 : World) => ∃ (i28 : Int), v26 = Value.int IntKind.i64 i28 ∧ someA x0 fun (a29 : Addr) => ∃ (i30 : Int), w27.cell? (a29.add (4 : Nat)) = some (Value.int IntKind.i64 i30) ∧ someA x0 fun (a31 : Addr) => WrC w27 (a31.add (4 : Nat)) (1 : Nat) ∧ ∀ (w32 : World), w32 = wr w27 (a31.add (4 : Nat)) [Value.int IntKind.i64 (IntKind.i64.wrap (IntKind.i64.wrap i13 - (1 : Int)))] → R (Value.tuple #[Value.int IntKind.i64 i30, Value.int IntKind.i64 (0 : Int)]) w32))

theorem VC.garthref11_Chain_Pop.ok {x0 : Option Addr} {w : World} {R : Value → World → Prop} (h : VC.garthref11_Chain_Pop x0 w R ) : Calls Try.prog 52 #[Value.pointer x0] w (Ret R) :=
  calls_of_body (A := A_garthref11_Chain_Pop) Try.func52 rfl (by kernel_rfl) (by kernel_rfl) ((show VC.garthref11_Chain_Pop x0 w R = wpE Try.prog A_garthref11_Chain_Pop Try.f52.ntmps 1000 (bodyOf Try.f52) (K0 Try.prog Try.f52 R) (frame0 #[Value.pointer x0]) w from by kernel_rfl) ▸ h)

/- (*garthref11.Chain).All -/
def A_garthref11_Chain_All : Ann := ⟨fun id => cond (Nat.beq id 3) ⟨[(4, .slice none 0 0), (5, .int .i64 0)], [2, 3, 6, 7, 12, 13, 14, 15, 16, 17, 18, 19, 20, 21, 22, 23, 24, 25, 26, 27, 28, 29, 30, 31, 32, 33, 34, 35, 36, 37, 38, 39, 40, 41, 42, 43, 44, 45, 46, 47, 48, 49, 50, 51, 52, 53]⟩ (LI.none), fun l => none, fun i => none⟩

def VC.garthref11_Chain_All (x0 : Option Addr) (w : World) (R : Value → World → Prop) : Prop :=
  someA x0 fun (a0 : Addr) => ∃ (i1 : Int), w.cell? (a0.add (4 : Nat)) = some (Value.int IntKind.i64 i1) ∧ ∃ (x2 : Nat → Option Addr → Nat → Nat → Int → World → Prop), (∃ (n3 : Nat), x2 n3 none (0 : Nat) (0 : Nat) i1 w) ∧ ∀ (n4 : Nat) (jv : Nat → Value) (p5 : Option Addr) (n6 n7 : Nat) (i8 : Int) (w9 : World), x2 n4 p5 n6 n7 i8 w9 → ifB (decide (i8 ≥ (0 : Int))) (someA x0 fun (a10 : Addr) => ∃ (i11 : Int), w9.cell? (a10.add (3 : Nat)) = some (Value.int IntKind.i64 i11) ∧ ifB ((↑n6 : Int) == i11) (R (Value.tuple #[Value.slice none (0 : Nat) (0 : Nat), Value.int IntKind.i64 (14 : Int)]) w9) (∀ (n12 : Nat) (w13 : World), n12 = w9.heap.size → w13 = w9.alloc (Obj.cells #[Value.int IntKind.i64 i8] (3 : Nat)) → ∃ (p14 : Option Addr), ∃ (n15 : Nat), ∃ (n16 : Nat), ∃ (w17 : World), Sem.run Try.prog (Builtin.append_ #[(22 : Nat), (22 : Nat)] (22 : Nat) #[Value.slice p5 n6 n7, Value.slice (some (Addr.mk n12 (0 : Nat) none)) (1 : Nat) (1 : Nat)]) w13 = Result.ok (Value.slice p14 n15 n16) w17 ∧ ∀ (w18 : World), w18 = w17.drew → someA x0 fun (a19 : Addr) => ∃ (p20 : Option Addr), w18.cell? (a19.add (0 : Nat)) = some (Value.pointer p20) ∧ someA x0 fun (a21 : Addr) => ∃ (i22 : Int), w18.cell? (a21.add (1 : Nat)) = some (Value.int IntKind.i64 i22) ∧ someA x0 fun (a23 : Addr) => ∃ (i24 : Int), w18.cell? (a23.add (2 : Nat)) = some (Value.int IntKind.i64 i24) ∧ CallS Try.prog (76 : Nat) #[Value.pointer p20, Value.int IntKind.i64 (IntKind.i64.wrap (i22 + IntKind.i64.wrap (i8 * i24)))] w18 fun (v25 : Value) (w26 : World) => ∃ (i27 : Int), ∃ (i28 : Int), v25 = Value.tuple #[Value.int IntKind.u64 i27, Value.int IntKind.i64 i28] ∧ someA x0 fun (a29 : Addr) => ∃ (i30 : Int), w26.cell? (a29.add (3 : Nat)) = some (Value.int IntKind.i64 i30) ∧ ifB (decide (i27 > IntKind.u64.wrap i30)) (R (Value.tuple #[Value.slice none (0 : Nat) (0 : Nat), Value.int IntKind.i64 (14 : Int)]) w26) (∃ (n31 : Nat), n31 < n4 ∧ x2 n31 p14 n15 n16 (IntKind.i64.wrap (IntKind.i64.wrap i27 - (1 : Int))) w26))) (R (Value.tuple #[Value.slice p5 n6 n7, Value.int IntKind.i64 (0 : Int)]) w9)

theorem VC.garthref11_Chain_All.ok {x0 : Option Addr} {w : World} {R : Value → World → Prop} (h : VC.garthref11_Chain_All x0 w R ) : Calls Try.prog 53 #[Value.pointer x0] w (Ret R) :=
  calls_of_body (A := A_garthref11_Chain_All) Try.func53 rfl (by kernel_rfl) (by kernel_rfl) ((show VC.garthref11_Chain_All x0 w R = wpE Try.prog A_garthref11_Chain_All Try.f53.ntmps 1000 (bodyOf Try.f53) (K0 Try.prog Try.f53 R) (frame0 #[Value.pointer x0]) w from by kernel_rfl) ▸ h)

/- (*garthref11.Chain).Take -/
def A_garthref11_Chain_Take : Ann := ⟨fun id => LI.none, fun l => none, fun i => none⟩

def VC.garthref11_Chain_Take (x0 : Option Addr) (x1 : Option Addr) (w : World) (R : Value → World → Prop) : Prop :=
  someA x0 fun (a0 : Addr) => ∃ (i1 : Int), w.cell? (a0.add (4 : Nat)) = some (Value.int IntKind.i64 i1) ∧ ifB (decide (i1 ≥ (0 : Int))) (R (Value.int IntKind.i64 (7 : Int)) w) (someA x1 fun (a2 : Addr) => ∃ (i3 : Int), w.cell? (a2.add (4 : Nat)) = some (Value.int IntKind.i64 i3) ∧ someA x0 fun (a4 : Addr) => WrC w (a4.add (4 : Nat)) (1 : Nat) ∧ ∀ (w5 : World), w5 = wr w (a4.add (4 : Nat)) [Value.int IntKind.i64 i3] → someA x1 fun (a6 : Addr) => WrC w5 (a6.add (4 : Nat)) (1 : Nat) ∧ ∀ (w7 : World), w7 = wr w5 (a6.add (4 : Nat)) [Value.int IntKind.i64 (-1 : Int)] → R (Value.int IntKind.i64 (0 : Int)) w7)

theorem VC.garthref11_Chain_Take.ok {x0 : Option Addr} {x1 : Option Addr} {w : World} {R : Value → World → Prop} (h : VC.garthref11_Chain_Take x0 x1 w R ) : Calls Try.prog 54 #[Value.pointer x0, Value.pointer x1] w (Ret R) :=
  calls_of_body (A := A_garthref11_Chain_Take) Try.func54 rfl (by kernel_rfl) (by kernel_rfl) ((show VC.garthref11_Chain_Take x0 x1 w R = wpE Try.prog A_garthref11_Chain_Take Try.f54.ntmps 1000 (bodyOf Try.f54) (K0 Try.prog Try.f54 R) (frame0 #[Value.pointer x0, Value.pointer x1]) w from by kernel_rfl) ▸ h)

/- (*garthref11.Chain).Move -/
def A_garthref11_Chain_Move : Ann := ⟨fun id => LI.none, fun l => none, fun i => none⟩

def VC.garthref11_Chain_Move (x0 : Option Addr) (x1 : Int) (w : World) (R : Value → World → Prop) : Prop :=
  ∀ (w0 : World), w0 = w.drew → someA x0 fun (a1 : Addr) => ∃ (p2 : Option Addr), w0.cell? (a1.add (0 : Nat)) = some (Value.pointer p2) ∧ someA x0 fun (a3 : Addr) => ∃ (i4 : Int), w0.cell? (a3.add (2 : Nat)) = some (Value.int IntKind.i64 i4) ∧ someA x0 fun (a5 : Addr) => ∃ (i6 : Int), w0.cell? (a5.add (3 : Nat)) = some (Value.int IntKind.i64 i6) ∧ CallS Try.prog (75 : Nat) #[Value.pointer p2, Value.int IntKind.i64 x1, Value.int IntKind.i64 i4, Value.int IntKind.i64 i6] w0 fun (v7 : Value) (w8 : World) => ∃ (b9 : Bool), v7 = Value.bool b9 ∧ w8 = w8 ∧ ifB (!b9) (R (Value.int IntKind.i64 (12 : Int)) w8) (someA x0 fun (a10 : Addr) => WrC w8 (a10.add (1 : Nat)) (1 : Nat) ∧ ∀ (w11 : World), w11 = wr w8 (a10.add (1 : Nat)) [Value.int IntKind.i64 x1] → R (Value.int IntKind.i64 (0 : Int)) w11)

theorem VC.garthref11_Chain_Move.ok {x0 : Option Addr} {x1 : Int} {w : World} {R : Value → World → Prop} (h : VC.garthref11_Chain_Move x0 x1 w R ) : Calls Try.prog 55 #[Value.pointer x0, Value.int IntKind.i64 x1] w (Ret R) :=
  calls_of_body (A := A_garthref11_Chain_Move) Try.func55 rfl (by kernel_rfl) (by kernel_rfl) ((show VC.garthref11_Chain_Move x0 x1 w R = wpE Try.prog A_garthref11_Chain_Move Try.f55.ntmps 1000 (bodyOf Try.f55) (K0 Try.prog Try.f55 R) (frame0 #[Value.pointer x0, Value.int IntKind.i64 x1]) w from by kernel_rfl) ▸ h)

/- (*garthref01.Arena).Store -/
def A_garthref01_Arena_Store : Ann := ⟨fun id => cond (Nat.beq id 5) ⟨[(2, .int .u64 0), (7, .int .i64 0)], [15, 16, 17, 18, 19, 20, 21, 22, 23, 24, 25, 26, 27, 28, 29, 30, 31]⟩ (LI.none), fun l => none, fun i => none⟩

def VC.garthref01_Arena_Store (x0 : Option Addr) (x1 : Int) (x2 : Int) (w : World) (R : Value → World → Prop) : Prop :=
  CallS Try.prog (77 : Nat) #[Value.pointer x0, Value.int IntKind.i64 x1, Value.int IntKind.i64 (8 : Int)] w fun (v0 : Value) (w1 : World) => ∃ (b2 : Bool), v0 = Value.bool b2 ∧ ifB (!b2) (R (Value.int IntKind.i64 (4 : Int)) w1) (CallS Try.prog (78 : Nat) #[Value.pointer x0, Value.int IntKind.i64 x1, Value.int IntKind.i64 (8 : Int), Value.bool true] w1 fun (v3 : Value) (w4 : World) => v3 = Value.tuple #[] ∧ ∃ (x5 : Nat → Int → Int → World → Prop), (∃ (n6 : Nat), x5 n6 x2 (0 : Int) w4) ∧ ∀ (n7 : Nat) (jv : Nat → Value) (i8 i9 : Int) (w10 : World), x5 n7 i8 i9 w10 → ifB (decide (i9 < (8 : Int))) (someA x0 fun (a11 : Addr) => ∃ (p12 : Option Addr), ∃ (n13 : Nat), ∃ (n14 : Nat), w10.cell? (a11.add (0 : Nat)) = some (Value.slice p12 n13 n14) ∧ (256 : Int) ≠ (0 : Int) ∧ (0 : Int) ≤ IntKind.i64.wrap (x1 + i9) ∧ IntKind.i64.wrap (x1 + i9) < (↑n13 : Int) ∧ someA p12 fun (a15 : Addr) => WrC w10 (a15.add (IntKind.i64.wrap (x1 + i9)).toNat) [Value.int IntKind.u8 (IntKind.u8.wrap (i8.tmod (256 : Int)))].length ∧ ∀ (w16 : World), w16 = wr w10 (a15.add (IntKind.i64.wrap (x1 + i9)).toNat) [Value.int IntKind.u8 (IntKind.u8.wrap (i8.tmod (256 : Int)))] → (256 : Int) ≠ (0 : Int) ∧ ∃ (n17 : Nat), n17 < n7 ∧ x5 n17 (IntKind.u64.wrap (i8.tdiv (256 : Int))) (IntKind.i64.wrap (i9 + (1 : Int))) w16) (R (Value.int IntKind.i64 (0 : Int)) w10))

theorem VC.garthref01_Arena_Store.ok {x0 : Option Addr} {x1 : Int} {x2 : Int} {w : World} {R : Value → World → Prop} (h : VC.garthref01_Arena_Store x0 x1 x2 w R ) : Calls Try.prog 56 #[Value.pointer x0, Value.int IntKind.i64 x1, Value.int IntKind.u64 x2] w (Ret R) :=
  calls_of_body (A := A_garthref01_Arena_Store) Try.func56 rfl (by kernel_rfl) (by kernel_rfl) ((show VC.garthref01_Arena_Store x0 x1 x2 w R = wpE Try.prog A_garthref01_Arena_Store Try.f56.ntmps 1000 (bodyOf Try.f56) (K0 Try.prog Try.f56 R) (frame0 #[Value.pointer x0, Value.int IntKind.i64 x1, Value.int IntKind.u64 x2]) w from by kernel_rfl) ▸ h)

/- (*arena.Arena).Zero -/
def A_arena_Arena_Zero : Ann := ⟨fun id => LI.none, fun l => none, fun i => none⟩

def VC.arena_Arena_Zero (x0 : Option Addr) (x1 : Int) (x2 : Int) (w : World) (R : Value → World → Prop) : Prop :=
  CallS Try.prog (48 : Nat) #[Value.pointer x0, Value.int IntKind.i64 x1, Value.int IntKind.i64 x2] w fun (v0 : Value) (w1 : World) => ∃ (i2 : Int), v0 = Value.int IntKind.i64 i2 ∧ ifB (i2 == (0 : Int)) (CallS Try.prog (49 : Nat) #[Value.pointer x0, Value.int IntKind.i64 x1, Value.int IntKind.i64 x2, Value.bool true] w1 fun (v3 : Value) (w4 : World) => ∃ (p5 : Option Addr), ∃ (n6 : Nat), ∃ (n7 : Nat), v3 = Value.slice p5 n6 n7 ∧ ∃ (w8 : World), Sem.run Try.prog (Builtin.clear_ #[(41 : Nat)] (0 : Nat) #[Value.slice p5 n6 n7]) w4 = Result.ok (Value.tuple #[]) w8 ∧ R (Value.int IntKind.i64 i2) w8) (R (Value.int IntKind.i64 i2) w1)

theorem VC.arena_Arena_Zero.ok {x0 : Option Addr} {x1 : Int} {x2 : Int} {w : World} {R : Value → World → Prop} (h : VC.arena_Arena_Zero x0 x1 x2 w R ) : Calls Try.prog 68 #[Value.pointer x0, Value.int IntKind.i64 x1, Value.int IntKind.i64 x2] w (Ret R) :=
  calls_of_body (A := A_arena_Arena_Zero) Try.func68 rfl (by kernel_rfl) (by kernel_rfl) ((show VC.arena_Arena_Zero x0 x1 x2 w R = wpE Try.prog A_arena_Arena_Zero Try.f68.ntmps 1000 (bodyOf Try.f68) (K0 Try.prog Try.f68 R) (frame0 #[Value.pointer x0, Value.int IntKind.i64 x1, Value.int IntKind.i64 x2]) w from by kernel_rfl) ▸ h)

/- garthref11.lie -/
def A_garthref11_lie : Ann := ⟨fun id => LI.none, fun l => none, fun i => none⟩

def VC.garthref11_lie (x0 : Option Addr) (x1 : Int) (x2 : Int) (x3 : Int) (w : World) (R : Value → World → Prop) : Prop :=
  ifB (decide (x1 ≥ (0 : Int))) (someA x0 fun (a0 : Addr) => ∃ (p1 : Option Addr), ∃ (n2 : Nat), ∃ (n3 : Nat), w.cell? (a0.add (0 : Nat)) = some (Value.slice p1 n2 n3) ∧ ifB (decide (x1 ≤ (↑n2 : Int))) (someA x0 fun (a4 : Addr) => ∃ (p5 : Option Addr), ∃ (n6 : Nat), ∃ (n7 : Nat), w.cell? (a4.add (0 : Nat)) = some (Value.slice p5 n6 n7) ∧ R (Value.bool (decide (IntKind.i64.wrap (x2 * x3) ≤ IntKind.i64.wrap ((↑n6 : Int) - x1)))) w) (R (Value.bool false) w)) (R (Value.bool false) w)

theorem VC.garthref11_lie.ok {x0 : Option Addr} {x1 : Int} {x2 : Int} {x3 : Int} {w : World} {R : Value → World → Prop} (h : VC.garthref11_lie x0 x1 x2 x3 w R ) : Calls Try.prog 75 #[Value.pointer x0, Value.int IntKind.i64 x1, Value.int IntKind.i64 x2, Value.int IntKind.i64 x3] w (Ret R) :=
  calls_of_body (A := A_garthref11_lie) Try.func75 rfl (by kernel_rfl) (by kernel_rfl) ((show VC.garthref11_lie x0 x1 x2 x3 w R = wpE Try.prog A_garthref11_lie Try.f75.ntmps 1000 (bodyOf Try.f75) (K0 Try.prog Try.f75 R) (frame0 #[Value.pointer x0, Value.int IntKind.i64 x1, Value.int IntKind.i64 x2, Value.int IntKind.i64 x3]) w from by kernel_rfl) ▸ h)

/- (*garthref01.Arena).Load -/
def A_garthref01_Arena_Load : Ann := ⟨fun id => cond (Nat.beq id 6) ⟨[(6, .int .u64 0), (7, .int .i64 0)], [15, 16, 17, 18, 19, 20, 21, 22, 23, 24, 25, 26, 27, 28, 29, 30, 31]⟩ (LI.none), fun l => none, fun i => none⟩

def VC.garthref01_Arena_Load (x0 : Option Addr) (x1 : Int) (w : World) (R : Value → World → Prop) : Prop :=
  CallS Try.prog (77 : Nat) #[Value.pointer x0, Value.int IntKind.i64 x1, Value.int IntKind.i64 (8 : Int)] w fun (v0 : Value) (w1 : World) => ∃ (b2 : Bool), v0 = Value.bool b2 ∧ ifB (!b2) (R (Value.tuple #[Value.int IntKind.u64 (0 : Int), Value.int IntKind.i64 (4 : Int)]) w1) (CallS Try.prog (78 : Nat) #[Value.pointer x0, Value.int IntKind.i64 x1, Value.int IntKind.i64 (8 : Int), Value.bool false] w1 fun (v3 : Value) (w4 : World) => v3 = Value.tuple #[] ∧ ∃ (x5 : Nat → Int → Int → World → Prop), (∃ (n6 : Nat), x5 n6 (0 : Int) (7 : Int) w4) ∧ ∀ (n7 : Nat) (jv : Nat → Value) (i8 i9 : Int) (w10 : World), x5 n7 i8 i9 w10 → ifB (decide (i9 ≥ (0 : Int))) (someA x0 fun (a11 : Addr) => ∃ (p12 : Option Addr), ∃ (n13 : Nat), ∃ (n14 : Nat), w10.cell? (a11.add (0 : Nat)) = some (Value.slice p12 n13 n14) ∧ (0 : Int) ≤ IntKind.i64.wrap (x1 + i9) ∧ IntKind.i64.wrap (x1 + i9) < (↑n13 : Int) ∧ someA p12 fun (a15 : Addr) => ∃ (i16 : Int), w10.cell? (a15.add (IntKind.i64.wrap (x1 + i9)).toNat) = some (Value.int IntKind.u8 i16) ∧ ∃ (n17 : Nat), n17 < n7 ∧ x5 n17 (IntKind.u64.wrap (IntKind.u64.wrap (i8 * (256 : Int)) + IntKind.u64.wrap i16)) (IntKind.i64.wrap (i9 - (1 : Int))) w10) (R (Value.tuple #[Value.int IntKind.u64 i8, Value.int IntKind.i64 (0 : Int)]) w10))

theorem VC.garthref01_Arena_Load.ok {x0 : Option Addr} {x1 : Int} {w : World} {R : Value → World → Prop} (h : VC.garthref01_Arena_Load x0 x1 w R ) : Calls Try.prog 76 #[Value.pointer x0, Value.int IntKind.i64 x1] w (Ret R) :=
  calls_of_body (A := A_garthref01_Arena_Load) Try.func76 rfl (by kernel_rfl) (by kernel_rfl) ((show VC.garthref01_Arena_Load x0 x1 w R = wpE Try.prog A_garthref01_Arena_Load Try.f76.ntmps 1000 (bodyOf Try.f76) (K0 Try.prog Try.f76 R) (frame0 #[Value.pointer x0, Value.int IntKind.i64 x1]) w from by kernel_rfl) ▸ h)

/- (*garthref01.Arena).there -/
def A_garthref01_Arena_there : Ann := ⟨fun id => LI.none, fun l => none, fun i => none⟩

def VC.garthref01_Arena_there (x0 : Option Addr) (x1 : Int) (x2 : Int) (w : World) (R : Value → World → Prop) : Prop :=
  ifB (decide (x1 ≥ (0 : Int))) (ifB (decide (x2 ≥ (0 : Int))) (someA x0 fun (a0 : Addr) => ∃ (p1 : Option Addr), ∃ (n2 : Nat), ∃ (n3 : Nat), w.cell? (a0.add (0 : Nat)) = some (Value.slice p1 n2 n3) ∧ ifB (decide (x1 ≤ (↑n2 : Int))) (someA x0 fun (a4 : Addr) => ∃ (p5 : Option Addr), ∃ (n6 : Nat), ∃ (n7 : Nat), w.cell? (a4.add (0 : Nat)) = some (Value.slice p5 n6 n7) ∧ R (Value.bool (decide (x2 ≤ IntKind.i64.wrap ((↑n6 : Int) - x1)))) w) (R (Value.bool false) w)) (R (Value.bool false) w)) (R (Value.bool false) w)

theorem VC.garthref01_Arena_there.ok {x0 : Option Addr} {x1 : Int} {x2 : Int} {w : World} {R : Value → World → Prop} (h : VC.garthref01_Arena_there x0 x1 x2 w R ) : Calls Try.prog 77 #[Value.pointer x0, Value.int IntKind.i64 x1, Value.int IntKind.i64 x2] w (Ret R) :=
  calls_of_body (A := A_garthref01_Arena_there) Try.func77 rfl (by kernel_rfl) (by kernel_rfl) ((show VC.garthref01_Arena_there x0 x1 x2 w R = wpE Try.prog A_garthref01_Arena_there Try.f77.ntmps 1000 (bodyOf Try.f77) (K0 Try.prog Try.f77 R) (frame0 #[Value.pointer x0, Value.int IntKind.i64 x1, Value.int IntKind.i64 x2]) w from by kernel_rfl) ▸ h)

/- (*garthref01.Arena).note -/
def A_garthref01_Arena_note : Ann := ⟨fun id => LI.none, fun l => none, fun i => none⟩

def VC.garthref01_Arena_note (x0 : Option Addr) (x1 : Int) (x2 : Int) (x3 : Bool) (w : World) (R : Value → World → Prop) : Prop :=
  ifB (decide (x2 > (0 : Int))) (someA x0 fun (a0 : Addr) => ∃ (p1 : Option Addr), ∃ (n2 : Nat), ∃ (n3 : Nat), w.cell? (a0.add (1 : Nat)) = some (Value.slice p1 n2 n3) ∧ ∀ (n4 : Nat) (w5 : World), n4 = w.heap.size → w5 = w.alloc (Obj.cells #[Value.int IntKind.i64 x1, Value.int IntKind.i64 x2, Value.bool x3] (50 : Nat)) → ∃ (p6 : Option Addr), ∃ (n7 : Nat), ∃ (n8 : Nat), ∃ (w9 : World), Sem.run Try.prog (Builtin.append_ #[(47 : Nat), (47 : Nat)] (47 : Nat) #[Value.slice p1 n2 n3, Value.slice (some (Addr.mk n4 (0 : Nat) none)) (1 : Nat) (1 : Nat)]) w5 = Result.ok (Value.slice p6 n7 n8) w9 ∧ someA x0 fun (a10 : Addr) => WrC w9 (a10.add (1 : Nat)) (1 : Nat) ∧ ∀ (w11 : World), w11 = wr w9 (a10.add (1 : Nat)) [Value.slice p6 n7 n8] → R (Value.tuple #[]) w11) (R (Value.tuple #[]) w)

theorem VC.garthref01_Arena_note.ok {x0 : Option Addr} {x1 : Int} {x2 : Int} {x3 : Bool} {w : World} {R : Value → World → Prop} (h : VC.garthref01_Arena_note x0 x1 x2 x3 w R ) : Calls Try.prog 78 #[Value.pointer x0, Value.int IntKind.i64 x1, Value.int IntKind.i64 x2, Value.bool x3] w (Ret R) :=
  calls_of_body (A := A_garthref01_Arena_note) Try.func78 rfl (by kernel_rfl) (by kernel_rfl) ((show VC.garthref01_Arena_note x0 x1 x2 x3 w R = wpE Try.prog A_garthref01_Arena_note Try.f78.ntmps 1000 (bodyOf Try.f78) (K0 Try.prog Try.f78 R) (frame0 #[Value.pointer x0, Value.int IntKind.i64 x1, Value.int IntKind.i64 x2, Value.bool x3]) w from by kernel_rfl) ▸ h)

/- (*garthref01.Arena).Read -/
def A_garthref01_Arena_Read : Ann := ⟨fun id => LI.none, fun l => none, fun i => none⟩

def VC.garthref01_Arena_Read (x0 : Option Addr) (x1 : Int) (x2 : Int) (w : World) (R : Value → World → Prop) : Prop :=
  CallS Try.prog (77 : Nat) #[Value.pointer x0, Value.int IntKind.i64 x1, Value.int IntKind.i64 x2] w fun (v0 : Value) (w1 : World) => ∃ (b2 : Bool), v0 = Value.bool b2 ∧ ifB (!b2) (R (Value.tuple #[Value.string (ByteArray.mk #[]), Value.int IntKind.i64 (4 : Int)]) w1) (CallS Try.prog (78 : Nat) #[Value.pointer x0, Value.int IntKind.i64 x1, Value.int IntKind.i64 x2, Value.bool false] w1 fun (v3 : Value) (w4 : World) => v3 = Value.tuple #[] ∧ someA x0 fun (a5 : Addr) => ∃ (p6 : Option Addr), ∃ (n7 : Nat), ∃ (n8 : Nat), w4.cell? (a5.add (0 : Nat)) = some (Value.slice p6 n7 n8) ∧ (0 : Int) ≤ x1 ∧ x1 ≤ IntKind.i64.wrap (x1 + x2) ∧ IntKind.i64.wrap (x1 + x2) ≤ (↑n8 : Int) ∧ ∃ (x9 : List UInt8), x9.length = (IntKind.i64.wrap (x1 + x2)).toNat - x1.toNat ∧ BytesAt w4 (subA p6 x1.toNat n8 (1 : Nat)) x9 ∧ R (Value.tuple #[Value.string (ByteArray.mk (Array.mk x9)), Value.int IntKind.i64 (0 : Int)]) w4)

theorem VC.garthref01_Arena_Read.ok {x0 : Option Addr} {x1 : Int} {x2 : Int} {w : World} {R : Value → World → Prop} (h : VC.garthref01_Arena_Read x0 x1 x2 w R ) : Calls Try.prog 81 #[Value.pointer x0, Value.int IntKind.i64 x1, Value.int IntKind.i64 x2] w (Ret R) :=
  calls_of_body (A := A_garthref01_Arena_Read) Try.func81 rfl (by kernel_rfl) (by kernel_rfl) ((show VC.garthref01_Arena_Read x0 x1 x2 w R = wpE Try.prog A_garthref01_Arena_Read Try.f81.ntmps 1000 (bodyOf Try.f81) (K0 Try.prog Try.f81 R) (frame0 #[Value.pointer x0, Value.int IntKind.i64 x1, Value.int IntKind.i64 x2]) w from by kernel_rfl) ▸ h)

/- (*garthref01.Arena).Write -/
def A_garthref01_Arena_Write : Ann := ⟨fun id => cond (Nat.beq id 5) ⟨[(7, .int .i64 0)], [19, 20, 21, 22, 23, 24, 25, 26, 27, 28, 29, 30, 31, 32, 33, 34, 35]⟩ (LI.none), fun l => none, fun i => none⟩

def VC.garthref01_Arena_Write (x0 : Option Addr) (x1 : Int) (x2 : ByteArray) (w : World) (R : Value → World → Prop) : Prop :=
  CallS Try.prog (77 : Nat) #[Value.pointer x0, Value.int IntKind.i64 x1, Value.int IntKind.i64 (↑x2.size : Int)] w fun (v0 : Value) (w1 : World) => ∃ (b2 : Bool), v0 = Value.bool b2 ∧ ifB (!b2) (R (Value.int IntKind.i64 (4 : Int)) w1) (CallS Try.prog (78 : Nat) #[Value.pointer x0, Value.int IntKind.i64 x1, Value.int IntKind.i64 (↑x2.size : Int), Value.bool true] w1 fun (v3 : Value) (w4 : World) => v3 = Value.tuple #[] ∧ ∃ (x5 : Nat → Int → World → Prop), (∃ (n6 : Nat), x5 n6 (0 : Int) w4) ∧ ∀ (n7 : Nat) (jv : Nat → Value) (i8 : Int) (w9 : World), x5 n7 i8 w9 → ifB (decide (i8 < (↑x2.size : Int))) (∀ (w10 : World), w10 = w9.drew → someA x0 fun (a11 : Addr) => ∃ (p12 : Option Addr), ∃ (n13 : Nat), ∃ (n14 : Nat), w10.cell? (a11.add (0 : Nat)) = some (Value.slice p12 n13 n14) ∧ (0 : Int) ≤ i8 ∧ ∃ (u15 : UInt8), x2[i8.toNat]? = some u15 ∧ w10 = w10 ∧ (0 : Int) ≤ IntKind.i64.wrap (x1 + i8) ∧ IntKind.i64.wrap (x1 + i8) < (↑n13 : Int) ∧ someA p12 fun (a16 : Addr) => w10 = w10 ∧ WrC w10 (a16.add (IntKind.i64.wrap (x1 + i8)).toNat) [Value.int IntKind.u8 (↑u15.toNat : Int)].length ∧ ∀ (w17 : World), w17 = wr w10 (a16.add (IntKind.i64.wrap (x1 + i8)).toNat) [Value.int IntKind.u8 (↑u15.toNat : Int)] → ∃ (n18 : Nat), n18 < n7 ∧ x5 n18 (IntKind.i64.wrap (i8 + (1 : Int))) w17) (R (Value.int IntKind.i64 (0 : Int)) w9))

theorem VC.garthref01_Arena_Write.ok {x0 : Option Addr} {x1 : Int} {x2 : ByteArray} {w : World} {R : Value → World → Prop} (h : VC.garthref01_Arena_Write x0 x1 x2 w R ) : Calls Try.prog 82 #[Value.pointer x0, Value.int IntKind.i64 x1, Value.string x2] w (Ret R) :=
  calls_of_body (A := A_garthref01_Arena_Write) Try.func82 rfl (by kernel_rfl) (by kernel_rfl) ((show VC.garthref01_Arena_Write x0 x1 x2 w R = wpE Try.prog A_garthref01_Arena_Write Try.f82.ntmps 1000 (bodyOf Try.f82) (K0 Try.prog Try.f82 R) (frame0 #[Value.pointer x0, Value.int IntKind.i64 x1, Value.string x2]) w from by kernel_rfl) ▸ h)

/- (*garthref01.Arena).Zero -/
def A_garthref01_Arena_Zero : Ann := ⟨fun id => cond (Nat.beq id 5) ⟨[(7, .int .i64 0)], [17, 18, 19, 20, 21, 22, 23, 24, 25, 26, 27, 28, 29]⟩ (LI.none), fun l => none, fun i => none⟩

def VC.garthref01_Arena_Zero (x0 : Option Addr) (x1 : Int) (x2 : Int) (w : World) (R : Value → World → Prop) : Prop :=
  CallS Try.prog (77 : Nat) #[Value.pointer x0, Value.int IntKind.i64 x1, Value.int IntKind.i64 x2] w fun (v0 : Value) (w1 : World) => ∃ (b2 : Bool), v0 = Value.bool b2 ∧ ifB (!b2) (R (Value.int IntKind.i64 (4 : Int)) w1) (CallS Try.prog (78 : Nat) #[Value.pointer x0, Value.int IntKind.i64 x1, Value.int IntKind.i64 x2, Value.bool true] w1 fun (v3 : Value) (w4 : World) => v3 = Value.tuple #[] ∧ ∃ (x5 : Nat → Int → World → Prop), (∃ (n6 : Nat), x5 n6 (0 : Int) w4) ∧ ∀ (n7 : Nat) (jv : Nat → Value) (i8 : Int) (w9 : World), x5 n7 i8 w9 → ifB (decide (i8 < x2)) (someA x0 fun (a10 : Addr) => ∃ (p11 : Option Addr), ∃ (n12 : Nat), ∃ (n13 : Nat), w9.cell? (a10.add (0 : Nat)) = some (Value.slice p11 n12 n13) ∧ (0 : Int) ≤ IntKind.i64.wrap (x1 + i8) ∧ IntKind.i64.wrap (x1 + i8) < (↑n12 : Int) ∧ someA p11 fun (a14 : Addr) => WrC w9 (a14.add (IntKind.i64.wrap (x1 + i8)).toNat) [Value.int IntKind.u8 (0 : Int)].length ∧ ∀ (w15 : World), w15 = wr w9 (a14.add (IntKind.i64.wrap (x1 + i8)).toNat) [Value.int IntKind.u8 (0 : Int)] → ∃ (n16 : Nat), n16 < n7 ∧ x5 n16 (IntKind.i64.wrap (i8 + (1 : Int))) w15) (R (Value.int IntKind.i64 (0 : Int)) w9))

theorem VC.garthref01_Arena_Zero.ok {x0 : Option Addr} {x1 : Int} {x2 : Int} {w : World} {R : Value → World → Prop} (h : VC.garthref01_Arena_Zero x0 x1 x2 w R ) : Calls Try.prog 83 #[Value.pointer x0, Value.int IntKind.i64 x1, Value.int IntKind.i64 x2] w (Ret R) :=
  calls_of_body (A := A_garthref01_Arena_Zero) Try.func83 rfl (by kernel_rfl) (by kernel_rfl) ((show VC.garthref01_Arena_Zero x0 x1 x2 w R = wpE Try.prog A_garthref01_Arena_Zero Try.f83.ntmps 1000 (bodyOf Try.f83) (K0 Try.prog Try.f83 R) (frame0 #[Value.pointer x0, Value.int IntKind.i64 x1, Value.int IntKind.i64 x2]) w from by kernel_rfl) ▸ h)

end Go.Proofs.Ytnjjgpjpodmgpaa
