/- (In a namespace of its own beside the shelf.) Contracts of package handle, of its reference, and of the statements' 'awake'. Conditions: numbers fit their kinds. -/
import Derived.Test.YtkbgiflmecaffaaDoorGwMem
import Derived.Test.YtkbgiflmecaffaaDoorVcA
set_option linter.unusedVariables false
set_option linter.unusedSimpArgs false
namespace Go.Proofs.YtkbgiflmecaffaaDoor.Hd
open Go.RowKit

abbrev I64 (x : Int) : Prop := -9223372036854775808 ≤ x ∧ x ≤ 9223372036854775807

/-- P9's words. -/
abbrev KeyOk (t s r n : Int) : Prop := 0 ≤ t ∧ t ≤ 7 ∧ 0 ≤ s ∧ s ≤ 4159 ∧ 1 ≤ r ∧ r ≤ 7 ∧ 1 ≤ n ∧ n ≤ 17592186044415

def packV (t s r n : Int) : Int := t + 16 * r + 128 * s + 1048576 * n

theorem within_any (x a b : Int) (w : World) : Calls Tryd.prog 48 #[.int .i64 x, .int .i64 a, .int .i64 b] w (Ret fun v w' => v = .bool (decide (a ≤ x ∧ x ≤ b)) ∧ w' = w) := by
  refine VC.handle_within.ok ?_
  unfold VC.handle_within
  refine ifD (fun h => ?_) (fun h => ?_)
  · exact ⟨by congr 1; simp; omega, rfl⟩
  · exact ⟨by congr 1; simp; omega, rfl⟩

theorem check_any (t s r n : Int) (w : World) : Calls Tryd.prog 46 #[.agg #[.int .i64 t, .int .i64 s, .int .i64 r, .int .i64 n]] w
    (Ret fun v w' => v = .int .i64 (if KeyOk t s r n then 0 else 12) ∧ Ext w w') := by
  refine VC.handle_Check.ok ?_
  simp only [VC.handle_Check, add_mk, Nat.zero_add, Nat.add_zero]
  refine al_intro fun b w1 hb hE _ hs => ?_
  refine ⟨t, cell_blk hb rfl, .of (within_any _ _ _ _) ?_⟩
  rintro v w2 ⟨rfl, rfl⟩
  refine ⟨_, rfl, ?_⟩
  refine ifB_intro (fun h => ?_) (fun h => ?_)
  · simp at h; exact ⟨by rw [if_neg (by omega)], hE⟩
  simp at h
  refine ⟨s, cell_blk hb rfl, .of (within_any _ _ _ _) ?_⟩
  rintro v w2 ⟨rfl, rfl⟩
  refine ⟨_, rfl, ?_⟩
  refine ifB_intro (fun h => ?_) (fun h => ?_)
  · simp at h; exact ⟨by rw [if_neg (by omega)], hE⟩
  simp at h
  refine ⟨r, cell_blk hb rfl, .of (within_any _ _ _ _) ?_⟩
  rintro v w2 ⟨rfl, rfl⟩
  refine ⟨_, rfl, ?_⟩
  refine ifB_intro (fun h => ?_) (fun h => ?_)
  case refine_2 => simp at h; exact ⟨by rw [if_neg (by omega)], hE⟩
  simp at h
  refine ⟨n, cell_blk hb rfl, .of (within_any _ _ _ _) ?_⟩
  rintro v w2 ⟨rfl, rfl⟩
  refine ⟨_, rfl, ?_⟩
  refine ifB_intro (fun h => ?_) (fun h => ?_)
  · simp at h; exact ⟨by rw [if_pos (by omega)], hE⟩
  · simp at h; exact ⟨by rw [if_neg (by omega)], hE⟩

theorem right_any (t s r n : Int) (w : World) : Calls Tryd.prog 30 #[.agg #[.int .i64 t, .int .i64 s, .int .i64 r, .int .i64 n]] w
    (Ret fun v w' => v = .bool (decide (KeyOk t s r n)) ∧ Ext w w') := by
  refine VC.garthref09_Right.ok ?_
  simp only [VC.garthref09_Right, add_mk, Nat.zero_add, Nat.add_zero]
  refine al_intro fun b w1 hb hE _ hs => ?_
  have no : ∀ c : Prop, [Decidable c] → ¬ c → (Value.bool false = Value.bool (decide c)) := fun c _ hc => by simp [hc]
  refine ⟨t, cell_blk hb rfl, ifD (fun h => ?_) (fun h => ⟨no _ (by omega), hE⟩)⟩
  refine ⟨t, cell_blk hb rfl, ifD (fun h => ?_) (fun h => ⟨no _ (by omega), hE⟩)⟩
  refine ⟨s, cell_blk hb rfl, ifD (fun h => ?_) (fun h => ⟨no _ (by omega), hE⟩)⟩
  refine ⟨s, cell_blk hb rfl, ifD (fun h => ?_) (fun h => ⟨no _ (by omega), hE⟩)⟩
  refine ⟨r, cell_blk hb rfl, ifD (fun h => ?_) (fun h => ⟨no _ (by omega), hE⟩)⟩
  refine ⟨r, cell_blk hb rfl, ifD (fun h => ?_) (fun h => ⟨no _ (by omega), hE⟩)⟩
  refine ⟨n, cell_blk hb rfl, ifD (fun h => ?_) (fun h => ⟨no _ (by omega), hE⟩)⟩
  refine ⟨n, cell_blk hb rfl, ?_, hE⟩
  congr 1
  simp only [decide_eq_decide]
  omega

theorem pack_bits {t s r n : Nat} (ht : t ≤ 7) (hs : s ≤ 4159) (hr : r ≤ 7) (hn : n ≤ 17592186044415) :
    ((t ||| (r * 2 ^ 4)) ||| (s * 2 ^ 7)) ||| (n * 2 ^ 20) = t + 16 * r + 128 * s + 1048576 * n := by
  have e1 : t ||| (r * 2 ^ 4) = r * 2 ^ 4 + t := by
    rw [Nat.or_comm, Nat.mul_comm]; exact (Nat.two_pow_add_eq_or_of_lt (i := 4) (by omega) r).symm
  rw [e1]
  have e2 : (r * 2 ^ 4 + t) ||| (s * 2 ^ 7) = s * 2 ^ 7 + (r * 2 ^ 4 + t) := by
    rw [Nat.or_comm, Nat.mul_comm s]; exact (Nat.two_pow_add_eq_or_of_lt (i := 7) (by omega) s).symm
  rw [e2]
  have e3 : (s * 2 ^ 7 + (r * 2 ^ 4 + t)) ||| (n * 2 ^ 20) = n * 2 ^ 20 + (s * 2 ^ 7 + (r * 2 ^ 4 + t)) := by
    rw [Nat.or_comm, Nat.mul_comm n]; exact (Nat.two_pow_add_eq_or_of_lt (i := 20) (by omega) n).symm
  rw [e3]
  omega

theorem pack_word {t s r n : Int} (h : KeyOk t s r n) :
    bits .or .u64 (bits .or .u64 (bits .or .u64 (IntKind.u64.wrap t) (shlV .u64 (IntKind.u64.wrap r) 4)) (shlV .u64 (IntKind.u64.wrap s) 7)) (shlV .u64 (IntKind.u64.wrap n) 20) = packV t s r n := by
  obtain ⟨h0, h1, h2, h3, h4, h5, h6, h7⟩ := h
  obtain ⟨t, rfl⟩ := Int.eq_ofNat_of_zero_le h0
  obtain ⟨s, rfl⟩ := Int.eq_ofNat_of_zero_le h2
  obtain ⟨r, rfl⟩ := Int.eq_ofNat_of_zero_le (show (0 : Int) ≤ r by omega)
  obtain ⟨n, rfl⟩ := Int.eq_ofNat_of_zero_le (show (0 : Int) ≤ n by omega)
  rw [wrap_u64 (n := (t : Int)) (by omega) (by omega), wrap_u64 (n := (r : Int)) (by omega) (by omega), wrap_u64 (n := (s : Int)) (by omega) (by omega), wrap_u64 (n := (n : Int)) (by omega) (by omega)]
  have e1 := shlV_u64 (r : Int) (n := 4) (by omega)
  have e2 := shlV_u64 (s : Int) (n := 7) (by omega)
  have e3 := shlV_u64 (n : Int) (n := 20) (by omega)
  rw [show ((4 : Nat) : Int) = 4 from rfl, wrap_u64 (by omega) (by omega), show (r : Int) * 2 ^ 4 = ((r * 2 ^ 4 : Nat) : Int) by omega] at e1
  rw [show ((7 : Nat) : Int) = 7 from rfl, wrap_u64 (by omega) (by omega), show (s : Int) * 2 ^ 7 = ((s * 2 ^ 7 : Nat) : Int) by omega] at e2
  rw [show ((20 : Nat) : Int) = 20 from rfl, wrap_u64 (by omega) (by omega), show (n : Int) * 2 ^ 20 = ((n * 2 ^ 20 : Nat) : Int) by omega] at e3
  have hb := pack_bits (t := t) (s := s) (r := r) (n := n) (by omega) (by omega) (by omega) (by omega)
  have l1 : t ||| (r * 2 ^ 4) < 2 ^ 64 := Nat.or_lt_two_pow (n := 64) (by omega) (by omega)
  have l2 : (t ||| (r * 2 ^ 4)) ||| (s * 2 ^ 7) < 2 ^ 64 := Nat.or_lt_two_pow (n := 64) l1 (by omega)
  rw [e1, e2, e3, bits_or (by omega) (by omega), bits_or (by omega) (by omega), bits_or (by omega) (by omega), hb]
  simp only [packV]
  omega

theorem pack_any (t s r n : Int) (w : World) : Calls Tryd.prog 37 #[.agg #[.int .i64 t, .int .i64 s, .int .i64 r, .int .i64 n]] w
    (Ret fun v w' => v = .tuple #[.int .u64 (if KeyOk t s r n then packV t s r n else 0), .int .i64 (if KeyOk t s r n then 0 else 12)] ∧ Ext w w') := by
  refine VC.handle_Pack.ok ?_
  simp only [VC.handle_Pack, add_mk, Nat.zero_add, Nat.add_zero]
  refine al_intro fun b w1 hb hE _ hs => ?_
  refine ⟨t, s, r, n, cells_all hb, .of (check_any _ _ _ _ _) ?_⟩
  rintro v w2 ⟨rfl, hE2⟩
  have hb2 := hE2.keep hb
  refine ⟨_, rfl, ?_⟩
  by_cases hk : KeyOk t s r n
  · rw [if_pos hk, if_pos hk]
    refine ifB_false rfl ?_
    refine ⟨t, cell_blk hb2 rfl, r, cell_blk hb2 rfl, by decide, s, cell_blk hb2 rfl, by decide, n, cell_blk hb2 rfl, by decide, ?_, hE.trans hE2⟩
    rw [pack_word hk]
  · rw [if_neg hk, if_neg hk]
    refine ifB_true rfl ⟨rfl, hE.trans hE2⟩

theorem refpack_any (t s r n : Int) (w : World) : Calls Tryd.prog 42 #[.agg #[.int .i64 t, .int .i64 s, .int .i64 r, .int .i64 n]] w
    (Ret fun v w' => v = .tuple #[.int .u64 (if KeyOk t s r n then packV t s r n else 0), .int .i64 (if KeyOk t s r n then 0 else 12)] ∧ Ext w w') := by
  refine VC.garthref09_Pack.ok ?_
  simp only [VC.garthref09_Pack, add_mk, Nat.zero_add, Nat.add_zero]
  refine al_intro fun b w1 hb hE _ hs => ?_
  refine ⟨t, s, r, n, cells_all hb, .of (right_any _ _ _ _ _) ?_⟩
  rintro v w2 ⟨rfl, hE2⟩
  have hb2 := hE2.keep hb
  refine ⟨_, rfl, ?_⟩
  by_cases hk : KeyOk t s r n
  · rw [if_pos hk, if_pos hk]
    refine ifB_false (by simp [hk]) ?_
    refine ⟨t, cell_blk hb2 rfl, r, cell_blk hb2 rfl, s, cell_blk hb2 rfl, n, cell_blk hb2 rfl, ?_, hE.trans hE2⟩
    obtain ⟨h0, h1, h2, h3, h4, h5, h6, h7⟩ := hk
    have w1 : ∀ x : Int, 0 ≤ x → x ≤ 18446744073709551615 → IntKind.u64.wrap x = x := fun x h h' => wrap_u64 h h'
    rw [w1 t (by omega) (by omega), w1 r (by omega) (by omega), w1 s (by omega) (by omega), w1 n (by omega) (by omega), w1 (16 * r) (by omega) (by omega),
      w1 (t + 16 * r) (by omega) (by omega), w1 (128 * s) (by omega) (by omega), w1 (t + 16 * r + 128 * s) (by omega) (by omega), w1 (1048576 * n) (by omega) (by omega),
      w1 (t + 16 * r + 128 * s + 1048576 * n) (by omega) (by omega)]
    rfl
  · rw [if_neg hk, if_neg hk]
    refine ifB_true (by simp [hk]) ⟨rfl, hE.trans hE2⟩

/-! ### bits taken apart -/

def uT (h : Int) : Int := h % 16
def uR (h : Int) : Int := h / 16 % 8
def uS (h : Int) : Int := h / 128 % 8192
def uN (h : Int) : Int := h / 1048576
abbrev HOk (h : Int) : Prop := KeyOk (uT h) (uS h) (uR h) (uN h)
abbrev U64 (x : Int) : Prop := 0 ≤ x ∧ x ≤ 18446744073709551615

def unpackV (h : Int) : Value := if HOk h then .tuple #[.agg #[.int .i64 (uT h), .int .i64 (uS h), .int .i64 (uR h), .int .i64 (uN h)], .int .i64 0]
  else .tuple #[.agg #[.int .i64 0, .int .i64 0, .int .i64 0, .int .i64 0], .int .i64 5]

theorem and_low {a : Nat} (k : Nat) (m : Nat) (hm : m = 2 ^ k - 1) (h : a < 18446744073709551616) (hk : m < 18446744073709551616) :
    bits .and .u64 (a : Int) (m : Int) = ((a % 2 ^ k : Nat) : Int) := by
  rw [bits_and h hk, hm, Nat.and_two_pow_sub_one_eq_mod]

set_option maxHeartbeats 1000000 in
theorem unpack_any (h : Int) (hu : U64 h) (w : World) : Calls Tryd.prog 38 #[.int .u64 h] w (Ret fun v w' => v = unpackV h ∧ Ext w w') := by
  refine VC.handle_Unpack.ok ?_
  simp only [VC.handle_Unpack, add_mk, Nat.zero_add, Nat.add_zero]
  obtain ⟨m, rfl⟩ := Int.eq_ofNat_of_zero_le hu.1
  have hm : m < 18446744073709551616 := by have := hu.2; omega
  have s4 : shrV .u64 (m : Int) 4 = (m : Int) / 2 ^ 4 := shrV_u64 (a := (m : Int)) (by omega) (n := 4) (by omega)
  have s7 : shrV .u64 (m : Int) 7 = (m : Int) / 2 ^ 7 := shrV_u64 (a := (m : Int)) (by omega) (n := 7) (by omega)
  have s20 : shrV .u64 (m : Int) 20 = (m : Int) / 2 ^ 20 := shrV_u64 (a := (m : Int)) (by omega) (n := 20) (by omega)
  rw [s4, s7, s20]
  have q4 : (m : Int) / 2 ^ 4 = ((m / 16 : Nat) : Int) := by omega
  have q7 : (m : Int) / 2 ^ 7 = ((m / 128 : Nat) : Int) := by omega
  have q20 : (m : Int) / 2 ^ 20 = ((m / 1048576 : Nat) : Int) := by omega
  rw [q4, q7, q20]
  have a1 : bits .and .u64 (m : Int) 15 = ((m % 2 ^ 4 : Nat) : Int) := and_low (a := m) 4 15 (by decide) hm (by omega)
  have a2 : bits .and .u64 ((m / 128 : Nat) : Int) 8191 = ((m / 128 % 2 ^ 13 : Nat) : Int) := and_low (a := m / 128) 13 8191 (by decide) (by omega) (by omega)
  have a3 : bits .and .u64 ((m / 16 : Nat) : Int) 7 = ((m / 16 % 2 ^ 3 : Nat) : Int) := and_low (a := m / 16) 3 7 (by decide) (by omega) (by omega)
  rw [a1, a2, a3, wrap_i64 (by omega) (by omega), wrap_i64 (by omega) (by omega), wrap_i64 (by omega) (by omega), wrap_i64 (by omega) (by omega)]
  have e1 : ((m % 2 ^ 4 : Nat) : Int) = uT m := by simp only [uT]; omega
  have e2 : ((m / 128 % 2 ^ 13 : Nat) : Int) = uS m := by simp only [uS]; omega
  have e3 : ((m / 16 % 2 ^ 3 : Nat) : Int) = uR m := by simp only [uR]; omega
  have e4 : ((m / 1048576 : Nat) : Int) = uN m := by simp only [uN]; omega
  rw [e1, e2, e3, e4]
  refine al_intro fun b w1 hb hE hs1 hs => ?_
  refine ⟨by decide, by decide, by decide, ?_⟩
  refine al_intro fun c w2 hc hE2 hs2 hs' => ?_
  refine wr_intro hc (by simp) fun w3 hc3 hM3 hs3 => ?_
  have hb3 := hM3.keep (hE2.keep hb) (by omega)
  refine ⟨_, _, _, _, cells_all hc3, .of (check_any _ _ _ _ _) ?_⟩
  rintro v w4 ⟨rfl, hE4⟩
  have hc4 := hE4.keep hc3
  have hb4 := hE4.keep hb3
  have hE3 : Ext w w3 := Ext.new (hE.trans hE2) hM3 (by intro k hk; omega)
  have hE4' : Ext w w4 := hE3.trans hE4
  refine ⟨_, rfl, ?_⟩
  by_cases hk : HOk (m : Int)
  · rw [if_pos hk]
    refine ifB_false rfl ?_
    refine ⟨_, _, _, _, cells_all hc4, ?_⟩
    refine wr_intro hb4 (by simp) fun w5 hb5 hM5 hs5 => ?_
    refine ⟨_, _, _, _, cells_all hb5, ?_, Ext.new hE4' hM5 (by intro k hk; omega)⟩
    rw [unpackV, if_pos hk]
  · rw [if_neg hk]
    refine ifB_true rfl ?_
    refine wr_intro hb4 (by simp) fun w5 hb5 hM5 hs5 => ?_
    refine ⟨_, _, _, _, cells_all hb5, ?_, Ext.new hE4' hM5 (by intro k hk; omega)⟩
    rw [unpackV, if_neg hk]

set_option maxHeartbeats 1000000 in
theorem refunpack_any (h : Int) (hu : U64 h) (w : World) : Calls Tryd.prog 17 #[.int .u64 h] w (Ret fun v w' => v = unpackV h ∧ Ext w w') := by
  refine VC.garthref09_Unpack.ok ?_
  simp only [VC.garthref09_Unpack, add_mk, Nat.zero_add, Nat.add_zero]
  have t1 : ∀ x y : Int, 0 ≤ x → x.tmod y = x % y := fun x y hx => Int.tmod_eq_emod_of_nonneg hx
  have t2 : ∀ x y : Int, 0 ≤ x → x.tdiv y = x / y := fun x y hx => Int.tdiv_eq_ediv_of_nonneg hx
  rw [t1 h 16 hu.1, t2 h 16 hu.1, t2 h 128 hu.1, t2 h 1048576 hu.1, wrap_u64 (n := h / 16) (by omega) (by omega), wrap_u64 (n := h / 128) (by omega) (by omega), wrap_u64 (n := h / 1048576) (by omega) (by omega),
    t1 _ 8 (by omega), t1 _ 8192 (by omega), wrap_i64 (n := h % 16) (by omega) (by omega), wrap_i64 (n := h / 128 % 8192) (by omega) (by omega), wrap_i64 (n := h / 16 % 8) (by omega) (by omega), wrap_i64 (n := h / 1048576) (by omega) (by omega)]
  refine al_intro fun b w1 hb hE hs1 hs => ?_
  refine ⟨by decide, by decide, by decide, by decide, by decide, by decide, ?_⟩
  refine al_intro fun c w2 hc hE2 hs2 hs' => ?_
  refine wr_intro hc (by simp) fun w3 hc3 hM3 hs3 => ?_
  have hb3 := hM3.keep (hE2.keep hb) (by omega)
  refine ⟨_, _, _, _, cells_all hc3, .of (right_any _ _ _ _ _) ?_⟩
  rintro v w4 ⟨rfl, hE4⟩
  have hc4 := hE4.keep hc3
  have hb4 := hE4.keep hb3
  have hE3 : Ext w w3 := Ext.new (hE.trans hE2) hM3 (by intro k hk; omega)
  have hE4' : Ext w w4 := hE3.trans hE4
  refine ⟨_, rfl, ?_⟩
  by_cases hk : HOk h
  · refine ifB_false (by rw [decide_eq_true (show KeyOk (h % 16) (h / 128 % 8192) (h / 16 % 8) (h / 1048576) from hk)]; rfl) ?_
    refine ⟨_, _, _, _, cells_all hc4, ?_⟩
    refine wr_intro hb4 (by simp) fun w5 hb5 hM5 hs5 => ?_
    refine ⟨_, _, _, _, cells_all hb5, ?_, Ext.new hE4' hM5 (by intro k hk; omega)⟩
    rw [unpackV, if_pos hk]
    rfl
  · refine ifB_true (by rw [decide_eq_false (show ¬ KeyOk (h % 16) (h / 128 % 8192) (h / 16 % 8) (h / 1048576) from hk)]; rfl) ?_
    refine wr_intro hb4 (by simp) fun w5 hb5 hM5 hs5 => ?_
    refine ⟨_, _, _, _, cells_all hb5, ?_, Ext.new hE4' hM5 (by intro k hk; omega)⟩
    rw [unpackV, if_neg hk]

end Go.Proofs.YtkbgiflmecaffaaDoor.Hd
