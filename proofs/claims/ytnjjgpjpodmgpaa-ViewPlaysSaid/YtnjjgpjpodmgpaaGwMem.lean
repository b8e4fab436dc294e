/- Memory, block by block: what a step leaves as it was ('Mod'), new blocks, loads and stores in a block that is known whole; numbers that fit. Conditions: none. -/
import Derived.Test.YtnjjgpjpodmgpaaGw
set_option linter.unusedVariables false
set_option linter.unusedSimpArgs false
namespace Go.Proofs.Ytnjjgpjpodmgpaa
open Go.RowKit

/-- w' is w with new blocks, and writes to blocks in F alone. -/
structure Mod (F : Nat → Prop) (w w' : World) : Prop where
  os : w'.os = w.os
  tape : w'.tape = w.tape
  output : w'.output = w.output
  size : w.heap.size ≤ w'.heap.size
  block : ∀ k, k < w.heap.size → ¬ F k → w'.heap[k]? = w.heap[k]?

abbrev Ext (w w' : World) : Prop := Mod (fun _ => False) w w'

theorem Mod.refl (F : Nat → Prop) (w : World) : Mod F w w := ⟨rfl, rfl, rfl, Nat.le_refl _, fun _ _ _ => rfl⟩

theorem Mod.trans {F G : Nat → Prop} {w w' w'' : World} (h : Mod F w w') (g : Mod G w' w'') (hs : ∀ k, k < w.heap.size → G k → F k) : Mod F w w'' :=
  ⟨g.os.trans h.os, g.tape.trans h.tape, g.output.trans h.output, Nat.le_trans h.size g.size,
    fun k hk hF => (g.block k (Nat.lt_of_lt_of_le hk h.size) (fun hG => hF (hs k hk hG))).trans (h.block k hk hF)⟩

theorem Mod.mono {F G : Nat → Prop} {w w' : World} (h : Mod F w w') (hs : ∀ k, F k → G k) : Mod G w w' :=
  ⟨h.os, h.tape, h.output, h.size, fun k hk hG => h.block k hk (fun hF => hG (hs k hF))⟩

theorem Ext.trans {w w' w'' : World} (h : Ext w w') (g : Ext w' w'') : Ext w w'' := Mod.trans h g (fun _ _ x => x)

theorem Ext.mod {F : Nat → Prop} {w w' : World} (h : Ext w w') : Mod F w w' := Mod.mono h (fun _ x => x.elim)

theorem Ext.below {w w' : World} (h : Ext w w') : Below w.heap.size w w' := ⟨h.os, h.tape, h.output, h.size, fun k hk => h.block k hk (fun x => x)⟩

/-- Blocks from w's size on were written: nothing of w is. -/
theorem Ext.new {F : Nat → Prop} {w w' w'' : World} (h : Ext w w') (g : Mod F w' w'') (hF : ∀ k, F k → w.heap.size ≤ k) : Ext w w'' :=
  Mod.trans h g (fun k hk hG => by have := hF k hG; omega)

theorem lt_of_blk {w : World} {b : Nat} {o : Obj} (h : w.heap[b]? = some o) : b < w.heap.size := (Array.getElem?_eq_some_iff.1 h).1

theorem Mod.keep {F : Nat → Prop} {w w' : World} (h : Mod F w w') {b : Nat} {o : Obj} (hb : w.heap[b]? = some o) (hF : ¬ F b) : w'.heap[b]? = some o :=
  (h.block b (lt_of_blk hb) hF).trans hb

theorem Ext.keep {w w' : World} (h : Ext w w') {b : Nat} {o : Obj} (hb : w.heap[b]? = some o) : w'.heap[b]? = some o := Mod.keep h hb (fun x => x)

theorem Ext.drew (w : World) : Ext w w.drew := ⟨rfl, rfl, rfl, Nat.le_refl _, fun _ _ _ => rfl⟩

theorem Ext.alloc (w : World) (o : Obj) : Ext w (w.alloc o) := ⟨rfl, rfl, rfl, by simp, fun k hk _ => Below.heap_alloc w o k hk⟩

theorem add_mk (b o n : Nat) : (Addr.mk b o none).add n = Addr.mk b (o + n) none := Addr.add_lit b o n

/-- A new block of cells. -/
theorem al_intro {w : World} {c : Array Value} {e : TypeId} {K : Nat → World → Prop}
    (h : ∀ b w1, w1.heap[b]? = some (.cells c e (0, 0)) → Ext w w1 → w.heap.size = b → w1.heap.size = b + 1 → K b w1) :
    ∀ (b : Nat) (w1 : World), b = w.heap.size → w1 = w.alloc (.cells c e) → K b w1 := by
  rintro b w1 rfl rfl
  exact h _ _ (heap_alloc_new w _) (Ext.alloc w _) rfl (by simp)

theorem cell_blk {w : World} {b o : Nat} {arr : Array Value} {T : TypeId} {fz : Nat × Nat} {v : Value} (h : w.heap[b]? = some (.cells arr T fz)) (hv : arr[o]? = some v) :
    w.cell? (Addr.mk b o none) = some v := by rw [cell_of_row w b o arr T fz h]; exact hv

theorem cells_blk {w : World} {b o : Nat} {arr : Array Value} {T : TypeId} {fz : Nat × Nat} {vs : List Value} (h : w.heap[b]? = some (.cells arr T fz))
    (hv : ∀ j v, vs[j]? = some v → arr[o + j]? = some v) : CellsAt w (Addr.mk b o none) vs := by
  intro j v hj
  rw [add_mk, cell_of_row w b (o + j) arr T fz h]
  exact hv j v hj

theorem cells_all {w : World} {b : Nat} {T : TypeId} {fz : Nat × Nat} {vs : List Value} (h : w.heap[b]? = some (.cells vs.toArray T fz)) : CellsAt w (Addr.mk b 0 none) vs :=
  cells_blk h fun j v hj => by simpa using hj

def setAt (arr : Array Value) : Nat → List Value → Array Value
  | _, [] => arr
  | o, v :: vs => setAt (arr.setIfInBounds o v) (o + 1) vs

theorem size_setAt : ∀ (vs : List Value) (arr : Array Value) (o : Nat), (setAt arr o vs).size = arr.size
  | [], _, _ => rfl
  | v :: vs, arr, o => by rw [setAt, size_setAt vs]; simp

theorem wrFrom_blk {b T : Nat} : ∀ (vs : List Value) (w : World) (arr : Array Value) (o i : Nat), w.heap[b]? = some (.cells arr T (0, 0)) →
    (wrFrom (Addr.mk b o none) i vs w).heap[b]? = some (.cells (setAt arr (o + i) vs) T (0, 0)) ∧ Mod (· = b) w (wrFrom (Addr.mk b o none) i vs w) ∧
      (wrFrom (Addr.mk b o none) i vs w).heap.size = w.heap.size
  | [], w, arr, o, i, h => ⟨h, Mod.refl _ _, rfl⟩
  | v :: vs, w, arr, o, i, h => by
    have h1 := heap_setCell_same w b (o + i) arr T v h
    obtain ⟨g1, g2, g3⟩ := wrFrom_blk vs (w.setCell (Addr.mk b (o + i) none) v) _ o (i + 1) h1
    simp only [wrFrom, add_mk]
    have hm : Mod (· = b) w (w.setCell (Addr.mk b (o + i) none) v) := ⟨rfl, rfl, rfl, by simp, fun k _ hk => Below.heap_setCell w _ v k hk⟩
    exact ⟨g1, Mod.trans hm g2 (fun _ _ x => x), by rw [g3]; simp⟩

theorem wr_blk {w : World} {b T o : Nat} {arr : Array Value} (vs : List Value) (h : w.heap[b]? = some (.cells arr T (0, 0))) :
    (wr w (Addr.mk b o none) vs).heap[b]? = some (.cells (setAt arr o vs) T (0, 0)) ∧ Mod (· = b) w (wr w (Addr.mk b o none) vs) ∧ (wr w (Addr.mk b o none) vs).heap.size = w.heap.size := by
  have := wrFrom_blk vs w arr o 0 h
  simpa [wr] using this

theorem wrC_blk {w : World} {b T o n : Nat} {arr : Array Value} (h : w.heap[b]? = some (.cells arr T (0, 0))) (hl : o + n ≤ arr.size) : WrC w (Addr.mk b o none) n := by
  intro j hj
  rw [add_mk, cell_of_row w b (o + j) arr T (0, 0) h, frozen_of_row w b (o + j) arr T h]
  refine ⟨?_, rfl⟩
  rw [Array.getElem?_eq_getElem (by omega)]
  rfl

/-- A store into a block that is known whole. -/
theorem wr_intro {w : World} {b T o n : Nat} {arr : Array Value} {vs : List Value} {K : World → Prop} (h : w.heap[b]? = some (.cells arr T (0, 0))) (hl : o + n ≤ arr.size)
    (k : ∀ w1, w1.heap[b]? = some (.cells (setAt arr o vs) T (0, 0)) → Mod (· = b) w w1 → w1.heap.size = w.heap.size → K w1) :
    WrC w (Addr.mk b o none) n ∧ ∀ w1, w1 = wr w (Addr.mk b o none) vs → K w1 := by
  refine ⟨wrC_blk h hl, ?_⟩
  rintro w1 rfl
  obtain ⟨h1, h2, h3⟩ := wr_blk (o := o) vs h
  exact k _ h1 h2 h3

/-! ### numbers -/

theorem wrap_i64 {n : Int} (h0 : -9223372036854775808 ≤ n) (h1 : n ≤ 9223372036854775807) : IntKind.i64.wrap n = n := by
  simp only [IntKind.wrap, IntKind.bits, IntKind.signed, Bool.true_and, Nat.reduceSub, ge_iff_le, decide_eq_true_eq]
  split <;> omega

theorem wrap_u64 {n : Int} (h0 : 0 ≤ n) (h1 : n ≤ 18446744073709551615) : IntKind.u64.wrap n = n := by
  simp only [IntKind.wrap, IntKind.bits, IntKind.signed, Bool.false_and, Bool.false_eq_true, if_false]
  omega

theorem wrap_u8 {n : Int} (h0 : 0 ≤ n) (h1 : n ≤ 255) : IntKind.u8.wrap n = n := by
  simp only [IntKind.wrap, IntKind.bits, IntKind.signed, Bool.false_and, Bool.false_eq_true, if_false]
  omega

theorem wrap_u8_mod (n : Int) : IntKind.u8.wrap n = n % 256 := by
  simp only [IntKind.wrap, IntKind.bits, IntKind.signed, Bool.false_and, Bool.false_eq_true, if_false]
  omega

theorem wrap_u64_mod (n : Int) : IntKind.u64.wrap n = n % 18446744073709551616 := by
  simp only [IntKind.wrap, IntKind.bits, IntKind.signed, Bool.false_and, Bool.false_eq_true, if_false]
  omega

theorem ofInt_nat (k n : Nat) : BitVec.ofInt k (n : Int) = BitVec.ofNat k n := by simp

theorem bits_or {a b : Nat} (ha : a < 18446744073709551616) (hb : b < 18446744073709551616) : bits .or .u64 (a : Int) (b : Int) = ((a ||| b : Nat) : Int) := by
  have hab : (a ||| b) < 2 ^ 64 := Nat.or_lt_two_pow (n := 64) (by omega) (by omega)
  have e : bits .or .u64 (a : Int) (b : Int) = IntKind.u64.wrap ((BitVec.ofInt 64 (a : Int) ||| BitVec.ofInt 64 (b : Int)).toNat : Int) := rfl
  rw [e, ofInt_nat, ofInt_nat, BitVec.toNat_or, BitVec.toNat_ofNat, BitVec.toNat_ofNat, Nat.mod_eq_of_lt (by omega : a < 2 ^ 64), Nat.mod_eq_of_lt (by omega : b < 2 ^ 64)]
  exact wrap_u64 (by omega) (by omega)

theorem bits_and {a b : Nat} (ha : a < 18446744073709551616) (hb : b < 18446744073709551616) : bits .and .u64 (a : Int) (b : Int) = ((a &&& b : Nat) : Int) := by
  have hab : (a &&& b) < 2 ^ 64 := Nat.and_lt_two_pow (n := 64) a (by omega)
  have e : bits .and .u64 (a : Int) (b : Int) = IntKind.u64.wrap ((BitVec.ofInt 64 (a : Int) &&& BitVec.ofInt 64 (b : Int)).toNat : Int) := rfl
  rw [e, ofInt_nat, ofInt_nat, BitVec.toNat_and, BitVec.toNat_ofNat, BitVec.toNat_ofNat, Nat.mod_eq_of_lt (by omega : a < 2 ^ 64), Nat.mod_eq_of_lt (by omega : b < 2 ^ 64)]
  exact wrap_u64 (by omega) (by omega)

theorem bits_xor {a b : Nat} (ha : a < 18446744073709551616) (hb : b < 18446744073709551616) : bits .xor .u64 (a : Int) (b : Int) = ((a ^^^ b : Nat) : Int) := by
  have hab : (a ^^^ b) < 2 ^ 64 := Nat.xor_lt_two_pow (n := 64) (by omega) (by omega)
  have e : bits .xor .u64 (a : Int) (b : Int) = IntKind.u64.wrap ((BitVec.ofInt 64 (a : Int) ^^^ BitVec.ofInt 64 (b : Int)).toNat : Int) := rfl
  rw [e, ofInt_nat, ofInt_nat, BitVec.toNat_xor, BitVec.toNat_ofNat, BitVec.toNat_ofNat, Nat.mod_eq_of_lt (by omega : a < 2 ^ 64), Nat.mod_eq_of_lt (by omega : b < 2 ^ 64)]
  exact wrap_u64 (by omega) (by omega)

theorem shlV_u64 (a : Int) {n : Nat} (hn : n ≤ 64) : shlV .u64 a (n : Int) = IntKind.u64.wrap (a * 2 ^ n) := by
  simp only [shlV, IntKind.bits, Int.toNat_natCast, Nat.min_eq_left hn]

theorem shrV_u64 {a : Int} (ha : 0 ≤ a) {n : Nat} (hn : n ≤ 64) : shrV .u64 a (n : Int) = a / 2 ^ n := by
  simp only [shrV, IntKind.bits, Int.toNat_natCast, Nat.min_eq_left hn]
  rw [Int.fdiv_eq_ediv_of_nonneg _ (by exact Int.pow_nonneg (by decide))]

/-! ### two structs are equal -/

theorem run_eqFields {P : Program} {w : World} {d : Nat} {xs ys : Array Value} : ∀ (l : List (Field × Bool)),
    (∀ p ∈ l, p.1.name ≠ "_" ∧ ∃ x y, (part p.1.type xs p.1.offset).run P w = .ok x w ∧ (part p.1.type ys p.1.offset).run P w = .ok y w ∧ (Op.equalIn d p.1.type x y).run P w = .ok p.2 w) →
    (Op.eqFields d xs ys (l.map (·.1))).run P w = .ok (l.all (·.2)) w
  | [], _ => by simp [Op.eqFields]
  | p :: l, h => by
    obtain ⟨hn, x, y, hx, hy, he⟩ := h p (by simp)
    have ih := run_eqFields l (fun q hq => h q (by simp [hq]))
    simp only [List.map_cons, Op.eqFields, ne_eq, hn, not_false_eq_true, if_true, Sem.run_bind, hx, Result.andThen_ok, hy, he, List.all_cons]
    cases hb : p.2 with
    | true => simp only [Bool.not_true, Bool.false_eq_true, if_false, Bool.true_and]; exact ih
    | false => simp only [Bool.not_false, if_true, Sem.run_pure, Bool.false_and]

theorem run_part' {P : Program} {t : TypeId} {dd : TypeDesc} (hu : P.underlying t = some dd) (ha : isAggD dd = false) {cs : Array Value} {i : Nat} {v : Value} (hv : cs[i]? = some v) (w : World) :
    (part t cs i).run P w = .ok v w := by
  simp only [part, Sem.run_bind, run_isAgg' hu, ha, Result.andThen_ok, Bool.false_eq_true, if_false, hv, Sem.run_pure]

theorem run_eq_struct {P : Program} {w : World} {t : TypeId} {xs ys : Array Value} {l : List (Field × Bool)} (hf : P.underlying t = some (.struct (P.fieldsOf t))) (hp : P.stoodInHeld t = false)
    (hl : (P.fieldsOf t).toList = l.map (·.1))
    (h : ∀ p ∈ l, p.1.name ≠ "_" ∧ ∃ x y, (part p.1.type xs p.1.offset).run P w = .ok x w ∧ (part p.1.type ys p.1.offset).run P w = .ok y w ∧ (Op.equalIn 9999 p.1.type x y).run P w = .ok p.2 w) :
    (binOp .eql t (.agg xs) (.agg ys)).run P w = .ok (.bool (l.all (·.2))) w ∧ (binOp .neq t (.agg xs) (.agg ys)).run P w = .ok (.bool (!l.all (·.2))) w := by
  rw [run_eql_struct, run_neq_struct, run_equalIn_agg w 9999 _ _ _ hf hp, hl, run_eqFields l h]
  exact ⟨rfl, rfl⟩

end Go.Proofs.Ytnjjgpjpodmgpaa
