/- Contracts of package shelf: Lowest, turn, Take, TakeAt, Give. Conditions: the shelf is there, the table of TrailingZeros64 is laid. -/
import Derived.Test.YtkbgiflmecaffaaPShelf
set_option linter.unusedVariables false
set_option linter.unusedSimpArgs false
namespace Go.Proofs.Ytkbgiflmecaffaa.Sf
open Go.RowKit

/-! ### what the calls come to -/

def takeI (hs : List Bool) : Int := match hs.findIdx? (fun b => !b) with | some k => (k : Int) | none => 0
def takeE (hs : List Bool) : Int := match hs.findIdx? (fun b => !b) with | some _ => 0 | none => 13
def takeH (hs : List Bool) : List Bool := match hs.findIdx? (fun b => !b) with | some k => hs.set k true | none => hs
def takeAtE (hs : List Bool) (k : Int) : Int := if InS hs k then (if hs[k.toNat]? = some true then 7 else 0) else 12
def takeAtH (hs : List Bool) (k : Int) : List Bool := if InS hs k then hs.set k.toNat true else hs
def giveE (hs : List Bool) (k : Int) : Int := if InS hs k then (if hs[k.toNat]? = some true then 0 else 13) else 12
def giveH (hs : List Bool) (k : Int) : List Bool := if InS hs k then hs.set k.toNat false else hs
def isTaken (hs : List Bool) (k : Int) : Bool := decide (InS hs k ∧ hs[k.toNat]? = some true)

theorem set_same {hs : List Bool} {k : Nat} {c : Bool} (h : hs[k]? = some c) : hs.set k c = hs := by
  apply List.ext_getElem?
  intro i
  rw [List.getElem?_set]
  split
  · rename_i e
    subst e
    have hl := (List.getElem?_eq_some_iff.1 h).1
    rw [if_pos hl, h]
  · rfl

theorem len_takeH (hs : List Bool) : (takeH hs).length = hs.length := by unfold takeH; split <;> simp
theorem len_takeAtH (hs : List Bool) (k : Int) : (takeAtH hs k).length = hs.length := by unfold takeAtH; split <;> simp
theorem len_giveH (hs : List Bool) (k : Int) : (giveH hs k).length = hs.length := by unfold giveH; split <;> simp

theorem count_set : ∀ {hs : List Bool} {k : Nat} {c : Bool}, hs[k]? = some c → (((hs.set k (!c)).count false : Nat) : Int) = ((hs.count false : Nat) : Int) + (if c = true then 1 else -1)
  | [], k, c, h => by simp at h
  | b :: hs, 0, c, h => by
    simp only [List.getElem?_cons_zero, Option.some.injEq] at h
    subst h
    simp only [List.set_cons_zero, List.count_cons]
    cases b <;> simp <;> omega
  | b :: hs, k + 1, c, h => by
    have := count_set (hs := hs) (k := k) (c := c) (by simpa using h)
    simp only [List.set_cons_succ, List.count_cons]
    omega

/-! ### the words -/

theorem word_zero {ws : List Nat} {hs : List Bool} (h : WRel ws hs) {n : Nat} (hz : ∀ i, i < n → ws[i]? = some 0) : ∀ k, k < 64 * n → hs[k]? ≠ some false := by
  intro k hk e
  obtain ⟨x, hx, hxl, hb⟩ := h.at e
  have h0 := hz (k / 64) (by omega)
  rw [h0] at hx
  cases hx
  simp at hb

theorem word_low {ws : List Nat} {hs : List Bool} (h : WRel ws hs) {j x : Nat} (hz : ∀ i, i < j → ws[i]? = some 0) (hx : ws[j]? = some x) (h0 : x ≠ 0) :
    hs.findIdx? (fun b => !b) = some (64 * j + Lib.ctz 64 x) := by
  obtain ⟨hxl, hbits⟩ := h.word j x hx
  obtain ⟨hk, _, ht, hl⟩ := ctz_spec h0 hxl
  refine low_some ?_ (fun q hq e => ?_)
  · have := hbits _ hk
    rw [ht] at this
    exact of_decide_eq_true this.symm
  · by_cases hqj : q < 64 * j
    · exact word_zero h hz q hqj e
    · have hb : q - 64 * j < Lib.ctz 64 x := by omega
      have h1 := hl _ hb
      have h2 := hbits (q - 64 * j) (by omega)
      rw [show 64 * j + (q - 64 * j) = q by omega, e, h1] at h2
      simp at h2

theorem word_none {ws : List Nat} {hs : List Bool} (h : WRel ws hs) (hz : ∀ i, i < ws.length → ws[i]? = some 0) : hs.findIdx? (fun b => !b) = none := by
  refine low_none fun k e => ?_
  have hlt := (List.getElem?_eq_some_iff.1 e).1
  have := h.len
  exact word_zero h hz k (by omega) e

theorem wC_set (ws : List Nat) (rest : List Value) {i y : Nat} (hi : i < ws.length) : setAt (wC ws ++ rest).toArray i [.int .u64 (y : Int)] = (wC (ws.set i y) ++ rest).toArray := by
  simp only [setAt, List.setIfInBounds_toArray]
  congr 1
  rw [List.set_append_left _ _ (by simpa [wC] using hi)]
  congr 1
  simp [wC, List.map_set]

section
variable {w : World} {p gb : Nat} {hs : List Bool}

theorem lowI_some {k : Nat} (h : hs.findIdx? (fun b => !b) = some k) : lowI hs = (k : Int) := by simp [lowI, h]
theorem lowI_none (h : hs.findIdx? (fun b => !b) = none) : lowI hs = -1 := by simp [lowI, h]

theorem shl_one {b : Nat} (hb : b < 64) : shlV .u64 (1 : Int) (b : Int) = ((2 ^ b : Nat) : Int) := by
  have hp : 2 ^ b < 2 ^ 64 := Nat.pow_lt_pow_right (by decide) hb
  have e : ((2 ^ b : Nat) : Int) = (2 : Int) ^ b := by rw [Int.natCast_pow]; rfl
  rw [shlV_u64 1 (by omega), Int.one_mul, ← e]
  clear e
  generalize 2 ^ b = y at hp ⊢
  exact wrap_u64 (by omega) (by omega)

theorem turn_any (h : SH w p gb hs) {k : Nat} {c : Bool} (hk : hs[k]? = some c) {d : Int} (hd : d = if c = true then 1 else -1) : Calls Try.prog 72 #[.pointer (some ⟨p, 0, none⟩), .int .i64 (k : Int), .int .i64 d] w
    (Ret fun r w' => r = .tuple #[] ∧ SH w' p gb (hs.set k (!c)) ∧ Mod (fpS p gb) w w') := by
  obtain ⟨⟨ws, rest, cap, h1, h2, h3, h4, h5, h6⟩, hne, hsm⟩ := h
  subst hd
  have hlen := h1.len
  have hkl : k < hs.length := (List.getElem?_eq_some_iff.1 hk).1
  obtain ⟨x, hx, hxl, hbit⟩ := h1.at hk
  have hki : k / 64 < ws.length := by omega
  have hp : 2 ^ (k % 64) < 2 ^ 64 := Nat.pow_lt_pow_right (by decide) (Nat.mod_lt _ (by decide))
  obtain ⟨e1, e2⟩ := word_idx k (by omega)
  refine VC.shelf_Shelf_turn.ok ?_
  unfold VC.shelf_Shelf_turn
  rintro w0 rfl
  rw [e1, e2]
  have hE := Ext.drew w
  have c5 : w.drew.cell? (Addr.mk p 0 none) = some (.slice (some ⟨gb, 0, none⟩) ws.length cap) := cell_blk (hE.keep h5) rfl
  simp only [someA, add_mk, Nat.zero_add, Int.toNat_natCast]
  refine ⟨_, _, _, c5, by decide, by trivial, by omega, by omega, ?_⟩
  simp only [someA, add_mk, Nat.zero_add]
  refine ⟨by trivial, _, cell_blk (hE.keep h6) (wC_get ws rest hx), by decide, by trivial, by omega, by trivial, by trivial, by omega, by omega, by trivial, ?_⟩
  rw [shl_one (Nat.mod_lt _ (by decide)), bits_xor hxl hp]
  refine wr_intro (n := 1) (hE.keep h6) (by simp [wC]; omega) fun w8 hg8 hm8 hs8 => ?_
  rw [wC_set ws rest hki] at hg8
  have hp8 := hm8.keep (hE.keep h5) hne
  refine ⟨_, cell_blk hp8 rfl, ?_⟩
  refine wr_intro (n := 1) hp8 (by simp) fun w12 hp12 hm12 hs12 => ⟨by trivial, ⟨⟨ws.set (k / 64) (x ^^^ 2 ^ (k % 64)), rest, cap, h1.turn hk hx, by simpa using h2, h3, by simpa using h4, ?_, hm12.keep hg8 (fun e => hne e.symm)⟩, hne, by simpa using hsm⟩, ?_⟩
  · rw [hp12, List.length_set, List.length_set, count_set hk]
    have hc := List.count_le_length (a := false) (l := hs)
    rw [wrap_i64 (n := ((hs.count false : Nat) : Int) + _) (by split <;> omega) (by split <;> omega)]
    simp [setAt]
  · exact Mod.trans (Mod.trans (hE.mod (F := fpS p gb)) hm8 (fun j _ hj => .inr hj)) hm12 (fun j _ hj => .inl hj)

theorem isTaken_at {k : Nat} {c : Bool} (h : hs[k]? = some c) : isTaken hs (k : Int) = c := by
  have hl := (List.getElem?_eq_some_iff.1 h).1
  have hin : InS hs (k : Int) := ⟨by omega, by omega⟩
  cases c
  · exact decide_eq_false fun q => by rw [Int.toNat_natCast, h] at q; exact absurd q.2 (by simp)
  · exact decide_eq_true ⟨hin, by rw [Int.toNat_natCast, h]⟩

theorem isTaken_out {k : Int} (h : ¬ InS hs k) : isTaken hs k = false := decide_eq_false fun q => h q.1

theorem takeAt_any (h : SH w p gb hs) (k : Int) : Calls Try.prog 44 #[.pointer (some ⟨p, 0, none⟩), .int .i64 k] w
    (Ret fun r w' => r = .int .i64 (takeAtE hs k) ∧ SH w' p gb (takeAtH hs k) ∧ Mod (fpS p gb) w w') := by
  refine VC.shelf_Shelf_TakeAt.ok ?_
  unfold VC.shelf_Shelf_TakeAt
  refine .of (within_any h k) ?_
  rintro r w1 ⟨rfl, rfl⟩
  refine ⟨_, rfl, ?_⟩
  by_cases hin : InS hs k
  case neg =>
    rw [if_neg hin]
    exact ifB_false rfl (ifB_false rfl ⟨by simp only [takeAtE, if_neg hin], by simpa only [takeAtH, if_neg hin] using h, Mod.refl _ _⟩)
  rw [if_pos hin]
  refine ifB_true rfl (.of (taken_any h k) ?_)
  rintro r w1 ⟨rfl, rfl⟩
  obtain ⟨kn, rfl⟩ := Int.eq_ofNat_of_zero_le hin.1
  obtain ⟨c, hc⟩ : ∃ c, hs[kn]? = some c := ⟨_, List.getElem?_eq_getElem (by omega)⟩
  refine ⟨_, rfl, ?_⟩
  have hT : decide (InS hs (kn : Int) ∧ hs[((kn : Int)).toNat]? = some true) = c := isTaken_at hc
  rw [hT]
  cases c with
  | true => exact ifB_true rfl ⟨by simp only [takeAtE, if_pos hin, Int.toNat_natCast, hc, if_true], by simpa only [takeAtH, if_pos hin, Int.toNat_natCast, set_same hc] using h, Mod.refl _ _⟩
  | false =>
    refine ifB_false rfl (ifB_true rfl (.of (turn_any h hc (d := -1) (by decide)) ?_))
    rintro r w2 ⟨rfl, h2, hm⟩
    exact ⟨rfl, by simp [takeAtE, if_pos hin, hc], by simpa only [takeAtH, if_pos hin, Int.toNat_natCast, Bool.not_false] using h2, hm⟩

theorem give_any (h : SH w p gb hs) (k : Int) : Calls Try.prog 49 #[.pointer (some ⟨p, 0, none⟩), .int .i64 k] w
    (Ret fun r w' => r = .int .i64 (giveE hs k) ∧ SH w' p gb (giveH hs k) ∧ Mod (fpS p gb) w w') := by
  refine VC.shelf_Shelf_Give.ok ?_
  unfold VC.shelf_Shelf_Give
  refine .of (within_any h k) ?_
  rintro r w1 ⟨rfl, rfl⟩
  refine ⟨_, rfl, ?_⟩
  by_cases hin : InS hs k
  case neg =>
    rw [if_neg hin]
    exact ifB_false rfl (ifB_false rfl ⟨by simp only [giveE, if_neg hin], by simpa only [giveH, if_neg hin] using h, Mod.refl _ _⟩)
  rw [if_pos hin]
  refine ifB_true rfl (.of (taken_any h k) ?_)
  rintro r w1 ⟨rfl, rfl⟩
  obtain ⟨kn, rfl⟩ := Int.eq_ofNat_of_zero_le hin.1
  obtain ⟨c, hc⟩ : ∃ c, hs[kn]? = some c := ⟨_, List.getElem?_eq_getElem (by omega)⟩
  refine ⟨_, rfl, ?_⟩
  have hT : decide (InS hs (kn : Int) ∧ hs[((kn : Int)).toNat]? = some true) = c := isTaken_at hc
  rw [hT]
  cases c with
  | false => exact ifB_true rfl ⟨by simp [giveE, if_pos hin, hc], by simpa only [giveH, if_pos hin, Int.toNat_natCast, set_same hc] using h, Mod.refl _ _⟩
  | true =>
    refine ifB_false rfl (ifB_true rfl (.of (turn_any h hc (d := 1) (by decide)) ?_))
    rintro r w2 ⟨rfl, h2, hm⟩
    exact ⟨rfl, by simp [giveE, if_pos hin, hc], by simpa only [giveH, if_pos hin, Int.toNat_natCast, Bool.not_true] using h2, hm⟩

end

end Go.Proofs.Ytkbgiflmecaffaa.Sf
