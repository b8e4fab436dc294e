/- Bytes, parts of them, strings of them. Conditions: none. -/
import Derived.Test.YtnjjgpjpodmgpaaArena2
set_option linter.unusedVariables false
set_option linter.unusedSimpArgs false
namespace Go.Proofs.Ytnjjgpjpodmgpaa
open Go.RowKit

theorem bytesOf_ext {s t : ByteArray} (h : bytesOf s = bytesOf t) : s = t := by
  apply ByteArray.ext
  exact Array.ext' h

theorem bytesOf_strOf (l : List UInt8) : bytesOf (strOf l) = l := rfl
theorem bytesOf_mk (l : List UInt8) : bytesOf (ByteArray.mk l.toArray) = l := rfl
theorem bytesOf_append (s t : ByteArray) : bytesOf (s ++ t) = bytesOf s ++ bytesOf t := by simp [bytesOf]
theorem bytesOf_extract (s : ByteArray) (a b : Nat) : bytesOf (s.extract a b) = seg (bytesOf s) a (b - a) := by
  simp only [bytesOf, ByteArray.data_extract, Array.toList_extract, seg, List.extract_eq_take_drop]

theorem seg_zero (l : List UInt8) (k : Nat) : seg l 0 k = l.take k := by simp [seg]
theorem seg_all (l : List UInt8) {n : Nat} (h : l.length ≤ n) : seg l 0 n = l := by rw [seg_zero, List.take_of_length_le h]
theorem seg_rest (l : List UInt8) {a n : Nat} (h : l.length ≤ n) : seg l a (n - a) = l.drop a := by
  rw [seg, List.take_of_length_le]
  rw [List.length_drop]
  omega

theorem seg_putAt {bs l : List UInt8} {a : Nat} (h : a + l.length ≤ bs.length) : seg (putAt bs a l) a l.length = l := by
  apply List.ext_getElem?
  intro j
  by_cases hj : j < l.length
  · rw [seg_get hj, putAt_get h, if_pos ⟨by omega, by omega⟩, Nat.add_sub_cancel_left]
  · rw [List.getElem?_eq_none, List.getElem?_eq_none]
    · omega
    · rw [seg_length (by rw [putAt_length h]; omega)]; omega

theorem seg_before {bs l : List UInt8} {a : Nat} (h : a + l.length ≤ bs.length) : seg (putAt bs a l) 0 a = seg bs 0 a := by
  apply List.ext_getElem?
  intro j
  by_cases hj : j < a
  · rw [seg_get hj, seg_get hj, putAt_get h, if_neg (by omega)]
  · rw [List.getElem?_eq_none, List.getElem?_eq_none]
    · rw [seg_length (by omega)]; omega
    · rw [seg_length (by rw [putAt_length h]; omega)]; omega

theorem seg_behind {bs l : List UInt8} {a b k : Nat} (h : a + l.length ≤ bs.length) (hb : a + l.length ≤ b) (hk : b + k ≤ bs.length) : seg (putAt bs a l) b k = seg bs b k := by
  apply List.ext_getElem?
  intro j
  by_cases hj : j < k
  · rw [seg_get hj, seg_get hj, putAt_get h, if_neg (by omega)]
  · rw [List.getElem?_eq_none, List.getElem?_eq_none]
    · rw [seg_length (by omega)]; omega
    · rw [seg_length (by rw [putAt_length h]; omega)]; omega

theorem seg_zeros {n a k : Nat} (h : a + k ≤ n) : seg (List.replicate n 0) a k = List.replicate k 0 := by
  apply List.ext_getElem?
  intro j
  by_cases hj : j < k
  · rw [seg_get hj, List.getElem?_replicate, List.getElem?_replicate, if_pos hj, if_pos (by omega)]
  · rw [List.getElem?_eq_none, List.getElem?_eq_none]
    · rw [List.length_replicate]; omega
    · rw [seg_length (by rw [List.length_replicate]; omega)]; omega

theorem made_row {w : World} {K : Nat → World → Prop} (n : Nat) (h : ∀ b w1, BytesAt w1 (some (Addr.mk b 0 none)) (List.replicate n 0) → Ext w w1 → K b w1) :
    ∀ (b : Nat) (w1 : World), b = w.heap.size → w1 = w.alloc (.cells (madeCells #[Value.int .u8 0] (n * 1)) 5) → K b w1 := by
  refine al_intro fun b w1 hb hE _ _ => h b w1 (fun j u hu => ⟨_, rfl, ?_⟩) hE
  rw [madeCells_u8] at hb
  rw [add_mk]
  refine cell_blk hb ?_
  rw [Nat.zero_add, List.getElem?_toArray, bC_get, hu]
  rfl

/-- A new row of zero bytes, as a string. -/
theorem made_str {w : World} {K : List UInt8 → World → Prop} (n : Nat) (h : ∀ w1, Ext w w1 → K (List.replicate n 0) w1) :
    ∀ (b : Nat) (w1 : World), b = w.heap.size → w1 = w.alloc (.cells (madeCells #[Value.int .u8 0] (n * 1)) 5) → ∃ x : List UInt8, x.length = n ∧ BytesAt w1 (some (Addr.mk b 0 none)) x ∧ K x w1 :=
  made_row n fun b w1 hb hE => ⟨List.replicate n 0, by simp, hb, h w1 hE⟩

theorem dec_true {c : Prop} [Decidable c] (h : c) : Value.bool (decide c) = Value.bool true := by rw [decide_eq_true h]

set_option maxHeartbeats 1000000 in
theorem putAt_str {s d : ByteArray} {bs : List UInt8} {a : Nat} (hs : bytesOf s = bs) (h : a + d.size ≤ bs.length) : strOf (putAt bs a (bytesOf d)) = s.extract 0 a ++ d ++ s.extract (a + d.size) bs.length := by
  apply bytesOf_ext
  rw [bytesOf_append, bytesOf_append, bytesOf_extract, bytesOf_extract, bytesOf_strOf, hs, Nat.sub_zero, seg_zero, seg_rest _ (Nat.le_refl _), putAt, bytesOf_length]

theorem size_extract_le (s : ByteArray) (a b : Nat) : (s.extract a b).size ≤ s.size := by
  rw [← bytesOf_length, bytesOf_extract, ← bytesOf_length s, seg, List.length_take, List.length_drop]
  omega

theorem putAt_whole (bs l : List UInt8) (h : l.length = bs.length) : putAt bs 0 l = l := by
  simp [putAt, h]

end Go.Proofs.Ytnjjgpjpodmgpaa
