/- A shelf in memory: its words hold a bit for each number, set where it is free; math/bits.TrailingZeros64 by its table. Conditions: the table is laid. -/
import Derived.Test.YtkbgiflmecaffaaGwRun
import Derived.Test.YtkbgiflmecaffaaVcA
import Derived.Lib.TrailingZeros
import Derived.Shelf.Spec.TrailingZeros
import Derived.KernelRfl
set_option linter.unusedVariables false
set_option linter.unusedSimpArgs false
namespace Go.Proofs.Ytkbgiflmecaffaa.Sf
open Go.RowKit

/-! ### TrailingZeros64 -/

/-! ### words and flags -/

theorem ctz_spec {x : Nat} (h0 : x ≠ 0) (hx : x < 18446744073709551616) : Lib.ctz 64 x < 64 ∧ x &&& (18446744073709551616 - x) = 2 ^ Lib.ctz 64 x ∧ x.testBit (Lib.ctz 64 x) = true ∧ ∀ b, b < Lib.ctz 64 x → x.testBit b = false := by
  have e : Lib.ctz 64 x = Lib.ctzFrom 64 x := by simp [Lib.ctz, h0]
  obtain ⟨m, hm, hk⟩ := Lib.ctzFrom_spec 64 x (by omega) (by simpa using hx)
  rw [e]
  generalize Lib.ctzFrom 64 x = k at hm hk
  subst hm
  have ha := Lib.and_neg 64 k m (by simpa using hx)
  refine ⟨hk, by simpa using ha, ?_, fun b hb => ?_⟩
  · rw [Nat.mul_comm, Nat.testBit_mul_two_pow]
    simp [Nat.testBit_zero]
  · rw [Nat.mul_comm, Nat.testBit_mul_two_pow]
    simp
    omega

def wC (ws : List Nat) : List Value := ws.map fun x : Nat => Value.int .u64 (x : Int)

/-- The words of a shelf whose taken ones are hs. -/
structure WRel (ws : List Nat) (hs : List Bool) : Prop where
  len : ws.length = (hs.length + 63) / 64
  word : ∀ (i x : Nat), ws[i]? = some x → x < 18446744073709551616 ∧ ∀ b, b < 64 → x.testBit b = decide (hs[64 * i + b]? = some false)

theorem WRel.at {ws : List Nat} {hs : List Bool} (h : WRel ws hs) {k : Nat} {c : Bool} (hk : hs[k]? = some c) : ∃ x, ws[k / 64]? = some x ∧ x < 18446744073709551616 ∧ x.testBit (k % 64) = !c := by
  have hlt : k < hs.length := (List.getElem?_eq_some_iff.1 hk).1
  have hl := h.len
  obtain ⟨x, hx⟩ : ∃ x, ws[k / 64]? = some x := ⟨_, List.getElem?_eq_getElem (by omega)⟩
  obtain ⟨h1, h2⟩ := h.word _ x hx
  refine ⟨x, hx, h1, ?_⟩
  rw [h2 (k % 64) (Nat.mod_lt _ (by decide)), show 64 * (k / 64) + k % 64 = k by omega, hk]
  cases c <;> rfl

theorem WRel.turn {ws : List Nat} {hs : List Bool} (h : WRel ws hs) {k x : Nat} {c : Bool} (hk : hs[k]? = some c) (hx : ws[k / 64]? = some x) : WRel (ws.set (k / 64) (x ^^^ 2 ^ (k % 64))) (hs.set k (!c)) := by
  have hlt : k < hs.length := (List.getElem?_eq_some_iff.1 hk).1
  have hm : k % 64 < 64 := Nat.mod_lt _ (by decide)
  have hp : 2 ^ (k % 64) < 2 ^ 64 := Nat.pow_lt_pow_right (by decide) hm
  have hxl := (List.getElem?_eq_some_iff.1 hx).1
  refine ⟨by simp [h.len], fun i y hy => ?_⟩
  rw [List.getElem?_set] at hy
  by_cases hi : k / 64 = i
  · rw [if_pos hi, if_pos (by omega)] at hy
    cases hy
    obtain ⟨h1, h2⟩ := h.word _ x hx
    refine ⟨Nat.xor_lt_two_pow (n := 64) h1 hp, fun b hb => ?_⟩
    rw [Nat.testBit_xor, Nat.testBit_two_pow, h2 b hb, List.getElem?_set]
    by_cases hb' : k % 64 = b
    · have e : k = 64 * i + b := by omega
      rw [if_pos e, if_pos (by omega)]
      rw [show 64 * (k / 64) + b = k by omega, hk]
      simp only [hb', decide_true]
      cases c <;> rfl
    · rw [if_neg (by omega), hi]
      simp [hb']
  · rw [if_neg hi] at hy
    obtain ⟨h1, h2⟩ := h.word i y hy
    refine ⟨h1, fun b hb => ?_⟩
    rw [h2 b hb, List.getElem?_set, if_neg (by omega)]

/-- The shelf at block p: its words in block gb. -/
structure SH (w : World) (p gb : Nat) (hs : List Bool) : Prop where
  ok : ∃ (ws : List Nat) (rest : List Value) (c : Nat), WRel ws hs ∧ ws.length ≤ c ∧ c ≤ maxLen ∧ rest.length = c - ws.length ∧
    w.heap[p]? = some (.cells #[.slice (some ⟨gb, 0, none⟩) ws.length c, .int .i64 (hs.length : Int), .int .i64 ((hs.count false : Nat) : Int)] 100 (0, 0)) ∧
    w.heap[gb]? = some (.cells (wC ws ++ rest).toArray 101 (0, 0))
  ne : p ≠ gb
  small : hs.length ≤ 65536

end Go.Proofs.Ytkbgiflmecaffaa.Sf
