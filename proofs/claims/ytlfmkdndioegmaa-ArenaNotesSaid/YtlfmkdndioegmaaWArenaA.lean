/- Statements of layer 1 about one arena's bytes: ArenaWords, ArenaApart, ArenaZeroes, ArenaMoves. Conditions: numbers fit their kinds. -/
import Derived.Test.YtlfmkdndioegmaaArena3
set_option linter.unusedVariables false
set_option linter.unusedSimpArgs false
namespace Go.Proofs.Ytlfmkdndioegmaa
open Go.RowKit

/-! ### strings -/

theorem bytesOf_ext {s t : ByteArray} (h : bytesOf s = bytesOf t) : s = t := by
  apply ByteArray.ext
  exact Array.ext' h

theorem bytesOf_strOf (l : List UInt8) : bytesOf (strOf l) = l := rfl
theorem bytesOf_mk (l : List UInt8) : bytesOf (ByteArray.mk l.toArray) = l := rfl
theorem bytesOf_append (s t : ByteArray) : bytesOf (s ++ t) = bytesOf s ++ bytesOf t := by simp [bytesOf]
theorem bytesOf_extract (s : ByteArray) (a b : Nat) : bytesOf (s.extract a b) = seg (bytesOf s) a (b - a) := by
  simp only [bytesOf, ByteArray.data_extract, Array.toList_extract, seg, List.extract_eq_take_drop]

theorem seg_zero (l : List UInt8) (k : Nat) : seg l 0 k = l.take k := by simp [seg]
theorem seg_all (l : List UInt8) {n : Nat} (h : l.length ≤ n) : seg l 0 n = l := by rw [seg_zero, List.take_of_length_le h]
theorem seg_rest (l : List UInt8) {a n : Nat} (h : l.length ≤ n) : seg l a (n - a) = l.drop a := by
  rw [seg, List.take_of_length_le]
  rw [List.length_drop]
  omega

theorem seg_putAt {bs l : List UInt8} {a : Nat} (h : a + l.length ≤ bs.length) : seg (putAt bs a l) a l.length = l := by
  apply List.ext_getElem?
  intro j
  by_cases hj : j < l.length
  · rw [seg_get hj, putAt_get h, if_pos ⟨by omega, by omega⟩, Nat.add_sub_cancel_left]
  · rw [List.getElem?_eq_none, List.getElem?_eq_none]
    · omega
    · rw [seg_length (by rw [putAt_length h]; omega)]; omega

theorem seg_before {bs l : List UInt8} {a : Nat} (h : a + l.length ≤ bs.length) : seg (putAt bs a l) 0 a = seg bs 0 a := by
  apply List.ext_getElem?
  intro j
  by_cases hj : j < a
  · rw [seg_get hj, seg_get hj, putAt_get h, if_neg (by omega)]
  · rw [List.getElem?_eq_none, List.getElem?_eq_none]
    · rw [seg_length (by omega)]; omega
    · rw [seg_length (by rw [putAt_length h]; omega)]; omega

theorem seg_behind {bs l : List UInt8} {a b k : Nat} (h : a + l.length ≤ bs.length) (hb : a + l.length ≤ b) (hk : b + k ≤ bs.length) : seg (putAt bs a l) b k = seg bs b k := by
  apply List.ext_getElem?
  intro j
  by_cases hj : j < k
  · rw [seg_get hj, seg_get hj, putAt_get h, if_neg (by omega)]
  · rw [List.getElem?_eq_none, List.getElem?_eq_none]
    · rw [seg_length (by omega)]; omega
    · rw [seg_length (by rw [putAt_length h]; omega)]; omega

theorem seg_zeros {n a k : Nat} (h : a + k ≤ n) : seg (List.replicate n 0) a k = List.replicate k 0 := by
  apply List.ext_getElem?
  intro j
  by_cases hj : j < k
  · rw [seg_get hj, List.getElem?_replicate, List.getElem?_replicate, if_pos hj, if_pos (by omega)]
  · rw [List.getElem?_eq_none, List.getElem?_eq_none]
    · rw [List.length_replicate]; omega
    · rw [seg_length (by rw [List.length_replicate]; omega)]; omega

theorem size_mod (x : Int) (m : Nat) (h0 : 0 < m) (h1 : m ≤ 1048576) : ∃ n : Nat, IntKind.i64.wrap ((IntKind.u64.wrap x).tmod (m : Int)) = (n : Int) ∧ n < m := by
  rw [wrap_u64_mod]
  have hp : (0 : Int) ≤ x % 18446744073709551616 := Int.emod_nonneg _ (by decide)
  obtain ⟨y, hy⟩ := Int.eq_ofNat_of_zero_le hp
  rw [hy, ← Int.ofNat_tmod]
  have := Nat.mod_lt y h0
  exact ⟨y % m, wrap_i64 (by omega) (by omega), this⟩

/-- A new row of zero bytes. -/
theorem made_row {w : World} {K : Nat → World → Prop} (n : Nat) (h : ∀ b w1, BytesAt w1 (some (Addr.mk b 0 none)) (List.replicate n 0) → Ext w w1 → K b w1) :
    ∀ (b : Nat) (w1 : World), b = w.heap.size → w1 = w.alloc (.cells (madeCells #[Value.int .u8 0] (n * 1)) 5) → K b w1 := by
  refine al_intro fun b w1 hb hE _ _ => h b w1 (fun j u hu => ⟨_, rfl, ?_⟩) hE
  rw [madeCells_u8] at hb
  rw [add_mk]
  refine cell_blk hb ?_
  rw [Nat.zero_add, List.getElem?_toArray, bC_get, hu]
  rfl

/-- A new row of zero bytes, as a string. -/
theorem made_str {w : World} {K : List UInt8 → World → Prop} (n : Nat) (h : ∀ w1, Ext w w1 → K (List.replicate n 0) w1) :
    ∀ (b : Nat) (w1 : World), b = w.heap.size → w1 = w.alloc (.cells (madeCells #[Value.int .u8 0] (n * 1)) 5) → ∃ x : List UInt8, x.length = n ∧ BytesAt w1 (some (Addr.mk b 0 none)) x ∧ K x w1 :=
  made_row n fun b w1 hb hE => ⟨List.replicate n 0, by simp, hb, h w1 hE⟩

theorem dec_true {c : Prop} [Decidable c] (h : c) : Value.bool (decide c) = Value.bool true := by rw [decide_eq_true h]

set_option maxHeartbeats 1000000 in
theorem walk_ArenaWords (x0 : Int) (_ : IsI64 x0) (x1 : Int) (h1 : IsI64 x1) (x2 : Int) (h2 : 0 ≤ x2 ∧ x2 ≤ 18446744073709551615) (w : World) :
    Calls Try.prog 8 #[.int .i64 x0, .int .i64 x1, .int .u64 x2] w (Ret (Yes w)) := by
  refine VC.garthlaw01_ArenaWords.ok ?_
  unfold VC.garthlaw01_ArenaWords
  obtain ⟨n, hn, hlt⟩ := size_mod x0 4096 (by decide) (by decide)
  have hn : IntKind.i64.wrap ((IntKind.u64.wrap x0).tmod 4096) = (n : Int) := hn
  rw [hn]
  have hw8 : IntKind.i64.wrap ((n : Int) - 8) = (n : Int) - 8 := wrap_i64 (by omega) (by omega)
  have hrl : (List.replicate n (0 : UInt8)).length = n := by simp
  obtain ⟨xn, rfl⟩ := Int.eq_ofNat_of_zero_le h2.1
  refine ⟨by decide, new_n (by omega) fun w1 p o1 => ⟨_, _, rfl, .of (awake_any w1) ?_⟩⟩
  rintro v w2 ⟨rfl, hE2⟩
  have o2 := o1.keep hE2
  refine ⟨_, rfl, ifB_false rfl (ifB_false rfl ?_)⟩
  refine store_n o2 (by omega) x1 (xn : Int) (by omega) (by omega) fun w3 o3 => ⟨_, rfl, ?_⟩
  rw [hrl] at o3 ⊢
  by_cases hok : OkA n x1 8
  · rw [if_pos hok] at o3 ⊢
    obtain ⟨an, rfl⟩ := Int.eq_ofNat_of_zero_le hok.1
    simp only [Int.toNat_natCast] at o3
    have hfit : an + (le8 xn).length ≤ (List.replicate n (0 : UInt8)).length := by rw [le8_length, hrl]; omega
    have hpl : (putAt (List.replicate n 0) an (le8 xn)).length = n := by rw [putAt_length hfit, hrl]
    refine load_n o3 (by omega) _ fun w4 o4 => ⟨_, _, rfl, ?_⟩
    rw [hpl, if_pos hok, if_pos hok]
    refine ifB_false rfl (ifD_true (by omega) ?_)
    rw [hw8]
    refine ifB_false (by rw [decide_eq_true (by omega)]; rfl) (ifB_false rfl ?_)
    refine read_n o4 (by omega) 0 (an : Int) fun w5 o5 => ⟨_, _, rfl, ?_⟩
    have hw9 : IntKind.i64.wrap ((an : Int) + 8) = ((an + 8 : Nat) : Int) := by rw [wrap_i64 (by omega) (by omega)]; omega
    have hw10 : IntKind.i64.wrap (IntKind.i64.wrap ((n : Int) - an) - 8) = ((n - an - 8 : Nat) : Int) := by
      rw [wrap_i64 (n := (n : Int) - an) (by omega) (by omega), wrap_i64 (by omega) (by omega)]; omega
    rw [hw9, hw10]
    refine read_n o5 (by omega) _ _ fun w6 o6 => ⟨_, _, rfl, ?_⟩
    rw [hpl, if_pos (by omega), if_pos (by omega), if_pos (by omega)]
    simp only [Int.toNat_natCast, Int.toNat_zero]
    rw [show seg (putAt (List.replicate n 0) an (le8 xn)) an 8 = le8 xn by have := seg_putAt hfit; rwa [le8_length] at this, leV_le8 _ (by omega)]
    refine ifB_true (by simp) (ifB_true rfl ⟨by omega, by omega, by omega, by omega, made_str an fun w7 hE7 => ?_⟩)
    refine ifD_true ?_ ⟨by omega, by omega, by omega, by omega, made_str _ fun w8 hE8 => ⟨dec_true ?_, (o6.ext.trans hE7).trans hE8⟩⟩
    · rw [seg_before hfit, seg_zeros (by omega)]; rfl
    · rw [seg_behind hfit (by rw [le8_length]; omega) (by rw [hrl]; omega), seg_zeros (by omega)]; rfl
  · rw [if_neg hok] at o3 ⊢
    refine load_n o3 (by omega) x1 fun w4 o4 => ⟨_, _, rfl, ?_⟩
    rw [hrl, if_neg hok, if_neg hok]
    refine ifB_false rfl ?_
    have fin : ∀ {A B C : Prop}, (A → B → C) → A → B → C := fun f a b => f a b
    refine ifD (fun hx => ?_) (fun hx => ?_)
    · rw [hw8]
      refine ifB_false (by rw [decide_eq_false (by omega)]; rfl) (ifB_true rfl ?_)
      refine read_n o4 (by omega) 0 (n : Int) fun w5 o5 => ⟨_, _, rfl, ifB_true rfl ?_⟩
      rw [hrl, if_pos (by omega)]
      simp only [Int.toNat_natCast, Int.toNat_zero]
      refine ⟨by omega, by omega, by omega, by omega, made_str n fun w6 hE6 => ⟨dec_true ?_, o5.ext.trans hE6⟩⟩
      rw [seg_zeros (by omega)]; rfl
    · refine ifB_false rfl (ifB_true rfl ?_)
      refine read_n o4 (by omega) 0 (n : Int) fun w5 o5 => ⟨_, _, rfl, ifB_true rfl ?_⟩
      rw [hrl, if_pos (by omega)]
      simp only [Int.toNat_natCast, Int.toNat_zero]
      refine ⟨by omega, by omega, by omega, by omega, made_str n fun w6 hE6 => ⟨dec_true ?_, o5.ext.trans hE6⟩⟩
      rw [seg_zeros (by omega)]; rfl

/-- The string of a whole that was put together. -/
theorem putAt_str {s d : ByteArray} {bs : List UInt8} {a : Nat} (hs : bytesOf s = bs) (h : a + d.size ≤ bs.length) : strOf (putAt bs a (bytesOf d)) = s.extract 0 a ++ d ++ s.extract (a + d.size) bs.length := by
  apply bytesOf_ext
  rw [bytesOf_append, bytesOf_append, bytesOf_extract, bytesOf_extract, bytesOf_strOf, hs, Nat.sub_zero, seg_zero, seg_rest _ (Nat.le_refl _), putAt, bytesOf_length]

theorem size_extract_le (s : ByteArray) (a b : Nat) : (s.extract a b).size ≤ s.size := by
  rw [← bytesOf_length, bytesOf_extract, ← bytesOf_length s, seg, List.length_take, List.length_drop]
  omega

theorem putAt_whole (bs l : List UInt8) (h : l.length = bs.length) : putAt bs 0 l = l := by
  simp [putAt, h]

set_option maxHeartbeats 1000000 in
theorem walk_ArenaApart (x0 : Int) (_ : IsI64 x0) (x1 : ByteArray) (h1 : x1.size ≤ maxLen) (hs1 : x1.data.toList.length ≤ reachBytes) (x2 : ByteArray) (h2 : x2.size ≤ maxLen) (hs2 : x2.data.toList.length ≤ reachBytes) (x3 : Int) (h3 : IsI64 x3) (w : World) :
    Calls Try.prog 9 #[.int .i64 x0, .string x1, .string x2, .int .i64 x3] w (Ret (Yes w)) := by
  refine VC.garthlaw01_ArenaApart.ok ?_
  unfold VC.garthlaw01_ArenaApart
  obtain ⟨n, hn, hlt⟩ := size_mod x0 2048 (by decide) (by decide)
  have hn : IntKind.i64.wrap ((IntKind.u64.wrap x0).tmod 2048) = (n : Int) := hn
  rw [hn]
  have hrl : (List.replicate n (0 : UInt8)).length = n := by simp
  have ra : CallS Try.prog 22 #[] w fun v w' => ∃ b, v = Value.bool b ∧ Yes w (Value.bool b) w' := by
    refine .of (awake_any w) ?_
    rintro v w2 ⟨rfl, hE2⟩
    exact ⟨_, rfl, rfl, hE2⟩
  refine ⟨by decide, ifD (fun _ => ra) fun hx1 => ifD (fun _ => ra) fun hx2 => ?_⟩
  refine new_n (by omega) fun w1 p o1 => ⟨_, _, rfl, ?_⟩
  refine ⟨_, _, run_min_int2 _ _ _ _ _ _ _, ?_⟩
  obtain ⟨m, hm, hm1, hm2⟩ : ∃ m : Nat, (if (n : Int) < (x1.size : Int) then (n : Int) else (x1.size : Int)) = (m : Int) ∧ m ≤ n ∧ m ≤ x1.size := by
    by_cases hq : (n : Int) < (x1.size : Int)
    · exact ⟨n, by rw [if_pos hq], by omega, by omega⟩
    · exact ⟨x1.size, by rw [if_neg hq], by omega, by omega⟩
  rw [hm]
  refine ⟨by omega, by omega, by omega, .of (awake_any w1) ?_⟩
  rintro v w2 ⟨rfl, hE2⟩
  have o2 := o1.keep hE2
  refine ⟨_, rfl, ifB_false rfl (ifB_false rfl ?_)⟩
  have hf : (x1.extract 0 (m : Int).toNat).size ≤ n := by
    rw [← bytesOf_length, bytesOf_extract, seg, List.length_take]
    simp only [Int.toNat_natCast]
    omega
  refine write_n o2 (by omega) 0 _ fun w3 o3 => ⟨_, rfl, ?_⟩
  rw [hrl, if_pos (by omega)] at o3
  rw [hrl, if_pos (by omega)]
  have hbl : (putAt (List.replicate n 0) (0 : Int).toNat (bytesOf (x1.extract 0 (m : Int).toNat))).length = n := by rw [putAt_length (by rw [bytesOf_length, hrl]; simpa using hf), hrl]
  generalize putAt (List.replicate n 0) (0 : Int).toNat (bytesOf (x1.extract 0 (m : Int).toNat)) = bs at o3 hbl
  refine ifB_false rfl (read_n o3 (by omega) 0 (n : Int) fun w4 o4 => ⟨_, _, rfl, ?_⟩)
  refine write_n o4 (by omega) x3 x2 fun w5 o5 => ⟨_, rfl, ?_⟩
  simp only [hbl] at o5 ⊢
  rw [if_pos (by omega : OkA n 0 n)]
  simp only [Int.toNat_natCast, Int.toNat_zero, seg_all bs (Nat.le_of_eq hbl)]
  by_cases hok : OkA n x3 x2.size
  · rw [if_pos hok] at o5 ⊢
    obtain ⟨an, rfl⟩ := Int.eq_ofNat_of_zero_le hok.1
    simp only [Int.toNat_natCast] at o5 ⊢
    have hpl : (putAt bs an (bytesOf x2)).length = n := by rw [putAt_length (by rw [bytesOf_length]; omega), hbl]
    refine read_n o5 (by omega) 0 (n : Int) fun w6 o6 => ⟨_, _, rfl, ?_⟩
    rw [hpl, if_pos (by omega : OkA n 0 n)]
    simp only [Int.toNat_natCast, Int.toNat_zero, seg_all _ (Nat.le_of_eq hpl)]
    refine ifB_false rfl ?_
    rintro w7 rfl
    have hw : IntKind.i64.wrap ((an : Int) + (x2.size : Int)) = ((an + x2.size : Nat) : Int) := by rw [wrap_i64 (by omega) (by omega)]; omega
    have hsz : (strOf bs).size = n := by rw [← bytesOf_length, bytesOf_strOf, hbl]
    have e1 := size_extract_le (strOf bs) 0 an
    have e2 := size_extract_le (strOf bs) (an + x2.size) n
    have e3 : ((strOf bs).extract 0 an ++ x2).size = ((strOf bs).extract 0 an).size + x2.size := by
      rw [← bytesOf_length, bytesOf_append, List.length_append, bytesOf_length, bytesOf_length]
    rw [hw]
    simp only [Int.toNat_natCast, Int.toNat_zero, hsz, e3]
    rw [hsz] at e1 e2
    refine ⟨by omega, by omega, by omega, by trivial, by omega, by trivial, by trivial, by omega, by omega, by omega, by trivial, by omega, by trivial, by trivial, dec_true ?_, o6.ext.trans (Ext.drew _)⟩
    rw [putAt_str (s := strOf bs) (d := x2) (bs := bs) (a := an) rfl (by omega), hbl]
  · rw [if_neg hok] at o5 ⊢
    refine read_n o5 (by omega) 0 (n : Int) fun w6 o6 => ⟨_, _, rfl, ?_⟩
    rw [hbl, if_pos (by omega : OkA n 0 n)]
    simp only [Int.toNat_natCast, Int.toNat_zero, seg_all bs (Nat.le_of_eq hbl)]
    refine ifB_true rfl (ifD_true (by trivial) (ifD (fun _ => ⟨rfl, o6.ext⟩) fun hq1 => ifD (fun _ => ⟨rfl, o6.ext⟩) fun hq2 => ⟨dec_true ?_, o6.ext⟩))
    rw [wrap_i64 (n := (n : Int) - x3) (by omega) (by omega)]
    omega

set_option maxHeartbeats 1000000 in
theorem walk_ArenaZeroes (x0 : ByteArray) (h0 : x0.size ≤ maxLen) (hs0 : x0.data.toList.length ≤ reachBytes) (x1 : Int) (h1 : IsI64 x1) (x2 : Int) (h2 : IsI64 x2) (w : World) :
    Calls Try.prog 10 #[.string x0, .int .i64 x1, .int .i64 x2] w (Ret (Yes w)) := by
  refine VC.garthlaw01_ArenaZeroes.ok ?_
  unfold VC.garthlaw01_ArenaZeroes
  have ra : CallS Try.prog 22 #[] w fun v w' => ∃ b, v = Value.bool b ∧ Yes w (Value.bool b) w' := by
    refine .of (awake_any w) ?_
    rintro v w2 ⟨rfl, hE2⟩
    exact ⟨_, rfl, rfl, hE2⟩
  refine ifD (fun _ => ra) fun hx0 => ?_
  have hrl : (List.replicate x0.size (0 : UInt8)).length = x0.size := by simp
  have hbl := bytesOf_length x0
  refine new_n (by omega) fun w1 p o1 => ⟨_, _, rfl, .of (awake_any w1) ?_⟩
  rintro v w2 ⟨rfl, hE2⟩
  have o2 := o1.keep hE2
  refine ⟨_, rfl, ifB_false rfl (ifB_false rfl ?_)⟩
  refine write_n o2 (by omega) 0 x0 fun w3 o3 => ⟨_, rfl, ?_⟩
  rw [hrl, if_pos (by omega), Int.toNat_zero, putAt_whole _ _ (by rw [hrl, hbl])] at o3
  refine zero_n o3 (by omega) x1 x2 fun w4 o4 => ⟨_, rfl, ?_⟩
  rw [hbl] at o4 ⊢
  by_cases hok : OkA x0.size x1 x2
  · rw [if_pos hok] at o4 ⊢
    obtain ⟨an, rfl⟩ := Int.eq_ofNat_of_zero_le hok.1
    obtain ⟨kn, rfl⟩ := Int.eq_ofNat_of_zero_le hok.2.1
    simp only [Int.toNat_natCast] at o4 ⊢
    have hd : (strOf (List.replicate kn 0)).size = kn := by rw [← bytesOf_length, bytesOf_strOf, List.length_replicate]
    have hpl : (putAt (bytesOf x0) an (List.replicate kn 0)).length = x0.size := by rw [putAt_length (by rw [List.length_replicate]; omega), hbl]
    refine read_n o4 (by omega) 0 (x0.size : Int) fun w5 o5 => ⟨_, _, rfl, ?_⟩
    rw [hpl, if_pos (by omega : OkA x0.size 0 x0.size)]
    simp only [Int.toNat_natCast, Int.toNat_zero, seg_all _ (Nat.le_of_eq hpl)]
    refine ifB_false rfl ?_
    rintro w6 rfl
    have hw : IntKind.i64.wrap ((an : Int) + (kn : Int)) = ((an + kn : Nat) : Int) := by rw [wrap_i64 (by omega) (by omega)]; omega
    have e1 := size_extract_le x0 0 an
    have e2 := size_extract_le x0 (an + kn) x0.size
    have e3 : (x0.extract 0 an ++ strOf (List.replicate kn 0)).size = (x0.extract 0 an).size + kn := by
      rw [← bytesOf_length, bytesOf_append, List.length_append, bytesOf_length, bytesOf_length, hd]
    rw [hw]
    simp only [Int.toNat_natCast, Int.toNat_zero]
    refine ⟨by omega, by omega, by omega, by trivial, by omega, by omega, by omega, by trivial, by omega, by omega, by omega, by omega, made_row kn fun b w7 hb hE7 => ?_⟩
    refine ⟨⟨by omega, by omega, by omega, by trivial, by trivial⟩, by trivial, ⟨by omega, by omega, by omega, by trivial, by trivial⟩, List.replicate kn 0, List.length_replicate, hb, by trivial, ?_, by trivial, ?_, by trivial, by trivial, dec_true ?_, (o5.ext.trans (Ext.drew _)).trans hE7⟩
    · have : ({ data := { toList := List.replicate kn 0 } } : ByteArray).size = kn := hd
      rw [this]
      omega
    · have : (x0.extract 0 an ++ { data := { toList := List.replicate kn 0 } } : ByteArray).size = (x0.extract 0 an).size + kn := e3
      rw [this]
      omega
    · have := putAt_str (s := x0) (d := strOf (List.replicate kn 0)) (bs := bytesOf x0) (a := an) rfl (by omega)
      rw [bytesOf_strOf, hd, hbl] at this
      exact this
  · rw [if_neg hok] at o4 ⊢
    refine read_n o4 (by omega) 0 (x0.size : Int) fun w5 o5 => ⟨_, _, rfl, ?_⟩
    rw [hbl, if_pos (by omega : OkA x0.size 0 x0.size)]
    simp only [Int.toNat_natCast, Int.toNat_zero, seg_all _ (Nat.le_of_eq hbl)]
    exact ifB_true rfl (ifD_true (by trivial) ⟨rfl, o5.ext⟩)

set_option maxHeartbeats 1000000 in
theorem walk_ArenaMoves (x0 : ByteArray) (h0 : x0.size ≤ maxLen) (hs0 : x0.data.toList.length ≤ reachBytes) (x1 : Int) (h1 : IsI64 x1) (x2 : Int) (h2 : IsI64 x2) (x3 : Int) (h3 : IsI64 x3) (w : World) :
    Calls Try.prog 12 #[.string x0, .int .i64 x1, .int .i64 x2, .int .i64 x3] w (Ret (Yes w)) := by
  refine VC.garthlaw01_ArenaMoves.ok ?_
  unfold VC.garthlaw01_ArenaMoves
  have ra : CallS Try.prog 22 #[] w fun v w' => ∃ b, v = Value.bool b ∧ Yes w (Value.bool b) w' := by
    refine .of (awake_any w) ?_
    rintro v w2 ⟨rfl, hE2⟩
    exact ⟨_, rfl, rfl, hE2⟩
  refine ifD (fun _ => ra) fun hx0 => ?_
  have hrl : (List.replicate x0.size (0 : UInt8)).length = x0.size := by simp
  have hbl := bytesOf_length x0
  refine new_n (by omega) fun w1 p o1 => ⟨_, _, rfl, .of (awake_any w1) ?_⟩
  rintro v w2 ⟨rfl, hE2⟩
  have o2 := o1.keep hE2
  refine ⟨_, rfl, ifB_false rfl (ifB_false rfl ?_)⟩
  refine write_n o2 (by omega) 0 x0 fun w3 o3 => ⟨_, rfl, ?_⟩
  rw [hrl, if_pos (by omega), Int.toNat_zero, putAt_whole _ _ (by rw [hrl, hbl])] at o3
  refine copy_n o3 (by omega) x1 x2 x3 fun w4 o4 => ⟨_, rfl, ?_⟩
  rw [hbl] at o4 ⊢
  by_cases hok : OkA x0.size x1 x3 ∧ OkA x0.size x2 x3
  · rw [if_pos hok] at o4 ⊢
    obtain ⟨tn, rfl⟩ := Int.eq_ofNat_of_zero_le hok.1.1
    obtain ⟨an, rfl⟩ := Int.eq_ofNat_of_zero_le hok.2.1
    obtain ⟨kn, rfl⟩ := Int.eq_ofNat_of_zero_le hok.1.2.1
    simp only [Int.toNat_natCast] at o4 ⊢
    have hsl : (seg (bytesOf x0) an kn).length = kn := seg_length (by omega)
    have hpl : (putAt (bytesOf x0) tn (seg (bytesOf x0) an kn)).length = x0.size := by rw [putAt_length (by omega), hbl]
    refine read_n o4 (by omega) 0 (x0.size : Int) fun w5 o5 => ⟨_, _, rfl, ?_⟩
    rw [hpl, if_pos (by omega : OkA x0.size 0 x0.size)]
    simp only [Int.toNat_natCast, Int.toNat_zero, seg_all _ (Nat.le_of_eq hpl)]
    refine ifB_false rfl ?_
    rintro w6 rfl
    have hw : IntKind.i64.wrap ((an : Int) + (kn : Int)) = ((an + kn : Nat) : Int) := by rw [wrap_i64 (by omega) (by omega)]; omega
    have hw' : IntKind.i64.wrap ((tn : Int) + (kn : Int)) = ((tn + kn : Nat) : Int) := by rw [wrap_i64 (by omega) (by omega)]; omega
    have hd : (x0.extract an (an + kn)).size = kn := by rw [← bytesOf_length, bytesOf_extract, Nat.add_sub_cancel_left, hsl]
    have e1 := size_extract_le x0 0 tn
    have e2 := size_extract_le x0 (tn + kn) x0.size
    have e3 : (x0.extract 0 tn ++ x0.extract an (an + kn)).size = (x0.extract 0 tn).size + kn := by
      rw [← bytesOf_length, bytesOf_append, List.length_append, bytesOf_length, bytesOf_length, hd]
    rw [hw, hw']
    simp only [Int.toNat_natCast, Int.toNat_zero, e3, hd]
    refine ⟨by omega, by omega, by omega, by trivial, by omega, by omega, by omega, by trivial, by omega, by trivial, by omega, by omega, by omega, by trivial, by omega, by trivial, by trivial, dec_true ?_, o5.ext.trans (Ext.drew _)⟩
    have := putAt_str (s := x0) (d := x0.extract an (an + kn)) (bs := bytesOf x0) (a := tn) rfl (by omega)
    rw [bytesOf_extract, Nat.add_sub_cancel_left, hd, hbl] at this
    exact this
  · rw [if_neg hok] at o4 ⊢
    refine read_n o4 (by omega) 0 (x0.size : Int) fun w5 o5 => ⟨_, _, rfl, ?_⟩
    rw [hbl, if_pos (by omega : OkA x0.size 0 x0.size)]
    simp only [Int.toNat_natCast, Int.toNat_zero, seg_all _ (Nat.le_of_eq hbl)]
    exact ifB_true rfl ⟨dec_true rfl, o5.ext⟩

end Go.Proofs.Ytlfmkdndioegmaa
