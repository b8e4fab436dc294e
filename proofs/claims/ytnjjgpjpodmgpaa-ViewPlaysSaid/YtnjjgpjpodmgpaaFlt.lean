/- Whole numbers below 2^53 as floats: they turn back, add, take away and stand to one another as they do. Conditions: none. -/
import Derived.Test.YtnjjgpjpodmgpaaGw
import Derived.Laws.FloatArith
set_option linter.unusedVariables false
set_option linter.unusedSimpArgs false
namespace Go.Proofs.Ytnjjgpjpodmgpaa
open Ieee

/-- The word of a whole number. -/
def flt (n : Nat) : Nat := FloatKind.f64.nearest (n : Int)

theorem flt_eq (n : Nat) : flt n = double.nearest false n 0 := by
  show double.nearest (decide ((n : Int) < 0)) (n : Int).natAbs 0 = _
  rw [decide_eq_false (by omega)]
  rfl

theorem shl_eq (a b : Nat) : a <<< b = a * 2 ^ b := Nat.shiftLeft_eq a b

theorem cut_none (way : Toward) (neg : Bool) (n : Nat) : way.cut neg n 0 = n := by
  unfold Toward.cut
  rw [show min 0 (n.log2 + 2) = 0 from Nat.zero_min _]
  simp only [Nat.shiftLeft_zero, Nat.div_one, Nat.mod_one]
  cases way <;> simp

theorem cut_mul (way : Toward) (n d : Nat) (hd : d ≤ (n * 2 ^ d).log2 + 2) : way.cut false (n * 2 ^ d) d = n := by
  unfold Toward.cut
  rw [Nat.min_eq_left hd, shl_eq, Nat.one_mul]
  have hp : 0 < 2 ^ d := Nat.two_pow_pos d
  simp only [Nat.mul_div_cancel _ hp, Nat.mul_mod_left]
  cases way <;> simp <;> omega

theorem log2_mul (n k : Nat) (hn : n ≠ 0) : (n * 2 ^ k).log2 = n.log2 + k := by
  induction k with
  | zero => simp
  | succ k ih =>
    have h0 : n * 2 ^ k ≠ 0 := Nat.mul_ne_zero hn (Nat.ne_of_gt (Nat.two_pow_pos k))
    rw [Nat.pow_succ, ← Nat.mul_assoc, Nat.mul_comm (n * 2 ^ k) 2, Nat.log2_two_mul h0, ih]
    omega

theorem log2_lt53 {n : Nat} (h0 : n ≠ 0) (h : n < 9007199254740992) : n.log2 ≤ 52 := by
  have := (Nat.log2_lt h0 (k := 53)).2 (by omega)
  omega

/-- The rung of a number n * 2^k at place -k. -/
theorem near_scaled {n : Nat} (h0 : n ≠ 0) (h : n < 9007199254740992) (k : Nat) (hk : k ≤ 1074) : double.nearest false (n * 2 ^ k) (-(k : Int)) = (n.log2 + 1022) * 4503599627370496 + n * 2 ^ (52 - n.log2) := by
  have hL := log2_lt53 h0 h
  have hm0 : n * 2 ^ k ≠ 0 := Nat.mul_ne_zero h0 (Nat.ne_of_gt (Nat.two_pow_pos k))
  have hlp : double.leastPlace = -1074 := by decide
  have hbin : double.binade = 4503599627370496 := by decide
  have hinf : double.infRung = 2047 * 4503599627370496 := by decide
  unfold Format.nearest
  rw [if_neg hm0, log2_mul n k h0]
  simp only [show double.fractionBits = 52 from rfl, hlp, hbin, hinf]
  have elast : max (-(k : Int) + ((n.log2 + k : Nat) : Int) - ((52 : Nat) : Int)) (-1074 : Int) = (n.log2 : Int) - 52 := by omega
  rw [elast]
  have hkept : Toward.even.cut false ((n * 2 ^ k) <<< (-(k : Int) - ((n.log2 : Int) - 52)).toNat) ((n.log2 : Int) - 52 - -(k : Int)).toNat = n * 2 ^ (52 - n.log2) := by
    by_cases hc : k ≤ 52 - n.log2
    · rw [show ((n.log2 : Int) - 52 - -(k : Int)).toNat = 0 by omega, cut_none, shl_eq, Nat.mul_assoc, ← Nat.pow_add]
      congr 2
      omega
    · rw [show (-(k : Int) - ((n.log2 : Int) - 52)).toNat = 0 by omega, Nat.shiftLeft_zero]
      have e : n * 2 ^ k = n * 2 ^ (52 - n.log2) * 2 ^ ((n.log2 : Int) - 52 - -(k : Int)).toNat := by
        rw [Nat.mul_assoc, ← Nat.pow_add]
        congr 2
        omega
      rw [e]
      refine cut_mul _ _ _ ?_
      rw [← e, log2_mul n k h0]
      omega
  rw [hkept]
  have hlt : n * 2 ^ (52 - n.log2) < 2 * 4503599627370496 := by
    have h1 : n < 2 ^ (n.log2 + 1) := Nat.lt_log2_self
    have h2 : n * 2 ^ (52 - n.log2) < 2 ^ (n.log2 + 1) * 2 ^ (52 - n.log2) := Nat.mul_lt_mul_of_pos_right h1 (Nat.two_pow_pos _)
    rw [← Nat.pow_add, show n.log2 + 1 + (52 - n.log2) = 53 by omega] at h2
    omega
  unfold Format.word
  rw [if_neg (by decide), show ((n.log2 : Int) - 52 - -1074).toNat = n.log2 + 1022 by omega]
  exact Nat.min_eq_left (by omega)

theorem near_zero (s : Int) : double.nearest false 0 s = 0 := rfl

theorem flt_scaled {n : Nat} (h : n < 9007199254740992) (k : Nat) (hk : k ≤ 1074) : double.nearest false (n * 2 ^ k) (-(k : Int)) = flt n := by
  rw [flt_eq]
  by_cases h0 : n = 0
  · subst h0
    rw [Nat.zero_mul, near_zero, near_zero]
  · have := near_scaled h0 h 0 (by omega)
    rw [Nat.pow_zero, Nat.mul_one] at this
    rw [near_scaled h0 h k hk]
    exact this.symm

/-- What the word stands for. -/
theorem read_flt {n : Nat} (h : n < 9007199254740992) : ∃ k : Nat, k ≤ 1074 ∧ (n ≠ 0 → k ≤ 52) ∧ double.read (flt n) = .number false (n * 2 ^ k) (-(k : Int)) := by
  by_cases h0 : n = 0
  · subst h0
    obtain ⟨K, hK⟩ : ∃ K : Nat, K = 1074 := ⟨_, rfl⟩
    refine ⟨K, by omega, fun x => absurd rfl x, ?_⟩
    rw [Nat.zero_mul, flt_eq, near_zero, hK]
    decide
  have hL := log2_lt53 h0 h
  refine ⟨52 - n.log2, by omega, fun _ => by omega, ?_⟩
  have e := near_scaled h0 h 0 (by omega)
  rw [Nat.pow_zero, Nat.mul_one] at e
  have e : flt n = (n.log2 + 1022) * 4503599627370496 + n * 2 ^ (52 - n.log2) := by rw [flt_eq]; exact e
  have hsw : double.signWeight = 9223372036854775808 := by decide
  have hlp : double.leastPlace = -1074 := by decide
  have hbin : double.binade = 4503599627370496 := by decide
  have hinf : double.infRung = 2047 * 4503599627370496 := by decide
  have hlt : n * 2 ^ (52 - n.log2) < 2 * 4503599627370496 := by
    have h1 : n < 2 ^ (n.log2 + 1) := Nat.lt_log2_self
    have h2 : n * 2 ^ (52 - n.log2) < 2 ^ (n.log2 + 1) * 2 ^ (52 - n.log2) := Nat.mul_lt_mul_of_pos_right h1 (Nat.two_pow_pos _)
    rw [← Nat.pow_add, show n.log2 + 1 + (52 - n.log2) = 53 by omega] at h2
    omega
  have hge : 4503599627370496 ≤ n * 2 ^ (52 - n.log2) := by
    have h1 : 2 ^ n.log2 ≤ n := Nat.log2_self_le h0
    have h2 : 2 ^ n.log2 * 2 ^ (52 - n.log2) ≤ n * 2 ^ (52 - n.log2) := Nat.mul_le_mul_right _ h1
    rw [← Nat.pow_add, show n.log2 + (52 - n.log2) = 52 by omega] at h2
    omega
  generalize n * 2 ^ (52 - n.log2) = m at *
  unfold Format.read
  rw [e, hsw, hlp, hbin, hinf]
  have hr : (n.log2 + 1022) * 4503599627370496 + m < 9223372036854775808 := by omega
  rw [Nat.mod_eq_of_lt hr, Nat.div_eq_of_lt hr]
  simp only [Nat.zero_mod]
  rw [if_neg (by omega), if_pos (by omega)]
  have e1 : ((n.log2 + 1022) * 4503599627370496 + m) % 4503599627370496 = m - 4503599627370496 := by omega
  have e2 : ((n.log2 + 1022) * 4503599627370496 + m) / 4503599627370496 = n.log2 + 1023 := by omega
  rw [e1, e2]
  have e3 : 4503599627370496 + (m - 4503599627370496) = m := by omega
  have e4 : (-1074 : Int) + ((n.log2 + 1023 - 1 : Nat) : Int) = -((52 - n.log2 : Nat) : Int) := by omega
  rw [e3, e4]
  rfl

theorem flt_toInt {n : Nat} (h : n < 9007199254740992) : (FloatKind.f64.decode (flt n)).toInt .zero = some (n : Int) := by
  obtain ⟨k, hk, h52, e⟩ := read_flt h
  show (double.read (flt n)).toInt .zero = _
  rw [e]
  show some (signed false (Toward.zero.cut false ((n * 2 ^ k) <<< (-(k : Int)).toNat) (- -(k : Int)).toNat) 0) = _
  rw [show (-(k : Int)).toNat = 0 by omega, show (- -(k : Int)).toNat = k by omega, Nat.shiftLeft_zero]
  have hc : Toward.zero.cut false (n * 2 ^ k) k = n := by
    by_cases h0 : n = 0
    · subst h0
      rw [Nat.zero_mul]
      unfold Toward.cut
      simp
    · refine cut_mul _ _ _ ?_
      rw [log2_mul n k h0]
      omega
  rw [hc]
  simp [signed]

theorem signed_pos (m up : Nat) : signed false m up = ((m * 2 ^ up : Nat) : Int) := by
  unfold signed
  rw [if_neg (by decide), shl_eq]
theorem signed_neg (m up : Nat) : signed true m up = -((m * 2 ^ up : Nat) : Int) := by
  unfold signed
  rw [if_pos rfl, shl_eq]

theorem scale_max (n k l : Nat) : n * 2 ^ k * 2 ^ (-(k : Int) - min (-(k : Int)) (-(l : Int))).toNat = n * 2 ^ max k l := by
  rw [Nat.mul_assoc, ← Nat.pow_add]
  congr 2
  omega

theorem scale_max' (n k l : Nat) : n * 2 ^ l * 2 ^ (-(l : Int) - min (-(k : Int)) (-(l : Int))).toNat = n * 2 ^ max k l := by
  rw [Nat.mul_assoc, ← Nat.pow_add]
  congr 2
  omega

theorem flt_add {n m : Nat} (h : n + m < 9007199254740992) : double.add (flt n) (flt m) = some (flt (n + m)) := by
  obtain ⟨k, hk, _, e⟩ := read_flt (n := n) (by omega)
  obtain ⟨l, hl, _, e'⟩ := read_flt (n := m) (by omega)
  unfold Format.add
  rw [e, e']
  simp only [Datum.sum, signed_pos, scale_max, scale_max']
  have e1 : ((n * 2 ^ max k l : Nat) : Int) + ((m * 2 ^ max k l : Nat) : Int) = (((n + m) * 2 ^ max k l : Nat) : Int) := by rw [Nat.add_mul]; omega
  rw [e1, Int.natAbs_natCast]
  have e2 : (if (((n + m) * 2 ^ max k l : Nat) : Int) = 0 then false && false else decide ((((n + m) * 2 ^ max k l : Nat) : Int) < 0)) = false := by
    split
    · rfl
    · exact decide_eq_false (by omega)
  rw [e2, show min (-(k : Int)) (-(l : Int)) = -((max k l : Nat) : Int) by omega]
  simp only [Option.map_some, Format.write]
  rw [flt_scaled h _ (by omega)]

theorem flt_sub {n m : Nat} (h : n < 9007199254740992) (hm : m ≤ n) : double.sub (flt n) (flt m) = some (flt (n - m)) := by
  obtain ⟨k, hk, _, e⟩ := read_flt h
  obtain ⟨l, hl, _, e'⟩ := read_flt (n := m) (by omega)
  unfold Format.sub
  rw [e, e']
  simp only [Datum.opposite, Datum.sum, Bool.not_false, signed_pos, signed_neg, scale_max, scale_max']
  have hle : m * 2 ^ max k l ≤ n * 2 ^ max k l := Nat.mul_le_mul_right _ hm
  have e1 : ((n * 2 ^ max k l : Nat) : Int) + -((m * 2 ^ max k l : Nat) : Int) = (((n - m) * 2 ^ max k l : Nat) : Int) := by rw [Nat.sub_mul]; omega
  rw [e1, Int.natAbs_natCast]
  have e2 : (if (((n - m) * 2 ^ max k l : Nat) : Int) = 0 then false && true else decide ((((n - m) * 2 ^ max k l : Nat) : Int) < 0)) = false := by
    split
    · rfl
    · exact decide_eq_false (by omega)
  rw [e2, show min (-(k : Int)) (-(l : Int)) = -((max k l : Nat) : Int) by omega]
  simp only [Option.map_some, Format.write]
  rw [flt_scaled (by omega) _ (by omega)]

theorem flt_order {n m : Nat} (h : n < 9007199254740992) (h' : m < 9007199254740992) : double.order (flt n) (flt m) = some (compare n m) := by
  obtain ⟨k, hk, _, e⟩ := read_flt h
  obtain ⟨l, hl, _, e'⟩ := read_flt h'
  unfold Format.order
  rw [e, e']
  simp only [Datum.order, signed_pos, scale_max, scale_max']
  have hp : 0 < 2 ^ max k l := Nat.two_pow_pos _
  have : compare (((n * 2 ^ max k l : Nat) : Int)) (((m * 2 ^ max k l : Nat) : Int)) = compare n m := by
    rcases Nat.lt_trichotomy n m with q | q | q
    · have := Nat.mul_lt_mul_of_pos_right q hp
      rw [Nat.compare_eq_lt.2 q, Int.compare_eq_lt.2 (by omega)]
    · subst q
      rw [Nat.compare_eq_eq.2 rfl, Int.compare_eq_eq.2 rfl]
    · have := Nat.mul_lt_mul_of_pos_right q hp
      rw [Nat.compare_eq_gt.2 q, Int.compare_eq_gt.2 (by omega)]
  rw [this]

end Go.Proofs.Ytnjjgpjpodmgpaa
