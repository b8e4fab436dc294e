/- Contracts of package caps: put, Find, Grant, Restrict, Count, Serial, New. Conditions: the table is there; the table of TrailingZeros64 is laid. -/
import Derived.Test.YtkbgiflmecaffaaDoorCaps
set_option linter.unusedVariables false
set_option linter.unusedSimpArgs false
namespace Go.Proofs.YtkbgiflmecaffaaDoor
open Go.RowKit

def findR (T : Int) (S : Int → Option Sl) (h r : Int) : Value := match findS T S h with
  | none => .tuple #[.int .i64 0, .int .i64 5]
  | some s => if r < 0 ∨ r > 7 ∨ may s r = false then .tuple #[.int .i64 0, .int .i64 5] else .tuple #[.int .i64 s.2.2, .int .i64 0]

theorem may_any (a b x : Int) (w : World) : Calls Tryd.prog 28 #[.agg #[.int .i64 a, .int .i64 b], .int .i64 x] w (Ret fun r w' => r = .bool (bits .and .i64 a x == x) ∧ Ext w w') := by
  refine VC.caps_good_may.ok ?_
  unfold VC.caps_good_may
  exact al_intro fun b0 w1 hb0 hE1 _ _ => ⟨_, dcell hb0 rfl, rfl, hE1⟩

section
variable {w : World} {p : Nat} {F : Nat → Prop} {T nx : Int} {S : Int → Option Sl} {sz : Nat}

theorem cFind_any (h : CP w p F T nx S sz) {hh : Int} (hu : Hd.U64 hh) (r : Int) : Calls Tryd.prog 14 #[.pointer (some ⟨p, 0, none⟩), .int .u64 hh, .int .i64 r] w (Ret fun v w' => v = findR T S hh r ∧ Ext w w') := by
  refine VC.caps_Caps_Find.ok ?_
  unfold VC.caps_Caps_Find
  refine .of (cfind_any h hu) ?_
  rintro v w1 ⟨rfl, hE1⟩
  cases hf : findS T S hh with
  | none =>
    refine ⟨0, 0, 0, 5, rfl, al_intro fun b w7 hb hE7 hs7 hs7' => give3 hb fun w8 hb8 hm8 hs8 => ifB_true rfl ⟨by rw [findR, hf], (hE1.trans hE7).new hm8 fun k hk => ?_⟩⟩
    have := hE1.size
    omega
  | some s =>
    refine ⟨_, _, _, _, rfl, al_intro fun b w7 hb hE7 hs7 hs7' => give3 hb fun w8 hb8 hm8 hs8 => ifB_false rfl ?_⟩
    have hE8 : Ext w w8 := (hE1.trans hE7).new hm8 fun k hk => by
      have := hE1.size
      omega
    refine ifD (fun h1 => ⟨by rw [findR, hf]; simp only; rw [if_pos (.inl h1)], hE8⟩) (fun h1 => ifD (fun h2 => ⟨by rw [findR, hf]; simp only; rw [if_pos (.inr (.inl h2))], hE8⟩) (fun h2 => ⟨_, _, cells2 hb8, .of (may_any _ _ r w8) ?_⟩))
    rintro v w9 ⟨rfl, hE9⟩
    have hE89 := hE8.trans hE9
    refine ⟨_, rfl, ifB_intro (fun h3 => ⟨?_, hE89⟩) (fun h3 => ⟨_, dcell (hE9.keep hb8) rfl, ?_, hE89⟩)⟩
    · rw [findR, hf]; simp only; rw [if_pos (.inr (.inr (by simpa [may] using h3)))]
    · rw [findR, hf]; simp only; rw [if_neg]
      rintro (q | q | q)
      · exact h1 q
      · exact h2 q
      · have h3 : (bits .and .i64 s.1 r == r) = true := by simpa using h3
        rw [may, h3] at q
        cases q

theorem count_any (h : CP w p F T nx S sz) : Calls Tryd.prog 16 #[.pointer (some ⟨p, 0, none⟩)] w (Ret fun v w' => v = .int .i64 (sz : Int) ∧ w' = w) := by
  obtain ⟨B, ob, og, eb, eg, h, rfl⟩ := h
  refine VC.caps_Caps_Count.ok ?_
  unfold VC.caps_Caps_Count
  refine ifB_false rfl ?_
  exact ⟨_, dcell h.head rfl, _, w, h.slots.len uCM 3, by trivial, by trivial⟩

theorem serial_any (h : CP w p F T nx S sz) : Calls Tryd.prog 24 #[.pointer (some ⟨p, 0, none⟩)] w (Ret fun v w' => v = .int .i64 nx ∧ w' = w) := by
  obtain ⟨B, ob, og, eb, eg, h, rfl⟩ := h
  refine VC.caps_Caps_Serial.ok ?_
  unfold VC.caps_Caps_Serial
  exact ifB_false rfl ⟨_, dcell h.head rfl, by trivial, by trivial⟩

end

section
variable {w : World} {p B ob og eb eg : Nat} {T nx : Int} {S : Int → Option Sl} {sz : Nat}

/-- One of the two shelves. -/
def Side (ob og eb eg sb sg base n : Nat) : Prop := (sb = ob ∧ sg = og ∧ base = 0 ∧ n = 4096) ∨ (sb = eb ∧ sg = eg ∧ base = 4096 ∧ n = 64)

theorem CPw.side (h : CPw w p B ob og eb eg T nx S sz) {sb sg base n : Nat} (hs : Side ob og eb eg sb sg base n) : SH w sb sg (occ S base n) ∧ sb ≠ p ∧ sb ≠ B ∧ sg ≠ p ∧ sg ≠ B ∧ base + n ≤ 4160 := by
  have d := h.d
  rcases hs with ⟨rfl, rfl, rfl, rfl⟩ | ⟨rfl, rfl, rfl, rfl⟩
  · exact ⟨h.objs, d.2.1.symm, d.2.2.2.2.2.1.symm, d.2.2.1.symm, d.2.2.2.2.2.2.1.symm, by decide⟩
  · exact ⟨h.extra, d.2.2.2.1.symm, d.2.2.2.2.2.2.2.1.symm, d.2.2.2.2.1.symm, d.2.2.2.2.2.2.2.2.1.symm, by decide⟩

set_option maxHeartbeats 1000000 in
theorem put_core (h : CPw w p B ob og eb eg T nx S sz) (tab : Tab w) {sb sg base n : Nat} (hs : Side ob og eb eg sb sg base n) {a r : Int} (ha : 0 ≤ a) (hr : 1 ≤ r ∧ r ≤ 7) :
    Calls Tryd.prog 26 #[.pointer (some ⟨p, 0, none⟩), .pointer (some ⟨sb, 0, none⟩), .int .i64 (base : Int), .int .i64 a, .int .i64 r] w
      (Ret fun v w' => v = putV T S base n nx r ∧ CPw w' p B ob og eb eg T (putN S base n nx) (putS S base n nx r a) (putZ S base n nx sz) ∧ Mod (fpC p B ob og eb eg) w w') := by
  refine VC.caps_Caps_put.ok ?_
  unfold VC.caps_Caps_put
  have n0 := h.n0
  have t0 := h.t0
  obtain ⟨hsh, q1, q2, q3, q4, hbn⟩ := h.side hs
  simp only [someA]
  refine ⟨_, dcell h.head rfl, ifD (fun hmax => ?_) (fun hmax => ?_)⟩
  · have e : putK S base n nx = none := if_pos hmax
    refine ⟨by rw [putV, e], ?_, Mod.refl _ _⟩
    rw [putN, putS, putZ, e]
    exact h
  have eK : putK S base n nx = (occ S base n).findIdx? fun b => !b := if_neg hmax
  refine .of (take_any tab hsh) ?_
  rintro v w3 ⟨rfl, hsh3, hm3⟩
  have hsub : ∀ k, fpS sb sg k → fpC p B ob og eb eg k := fun k hk => by
    unfold fpS at hk
    unfold fpC
    unfold Side at hs
    omega
  have hd3 := hm3.keep h.head (fun x => by unfold fpS at x; omega)
  have hi3 := h.slots.keep hm3 (fun x => by unfold fpS at x; omega)
  refine ⟨_, _, rfl, ?_⟩
  cases hf : (occ S base n).findIdx? (fun b => !b) with
  | none =>
    have e1 : takeE (occ S base n) = 13 := by rw [takeE, hf]
    have e2 : takeH (occ S base n) = occ S base n := by rw [takeH, hf]
    rw [e2] at hsh3
    rw [e1]
    rw [hf] at eK
    refine ifB_true rfl ⟨by rw [putV, eK], ?_, hm3.mono hsub⟩
    rw [putN, putS, putZ, eK]
    obtain ⟨_, _, _, _, _, _, _, _, _, d10, d11, d12, d13⟩ := h.d
    rcases hs with ⟨rfl, rfl, rfl, rfl⟩ | ⟨rfl, rfl, rfl, rfl⟩
    · exact ⟨hd3, hi3, hsh3, h.extra.keep hm3 (fun k hk x => by unfold fpS at hk x; omega), t0, n0, h.rng, h.ok, h.szn, h.d⟩
    · exact ⟨hd3, hi3, h.objs.keep hm3 (fun k hk x => by unfold fpS at hk x; omega), hsh3, t0, n0, h.rng, h.ok, h.szn, h.d⟩
  | some k =>
    have e0 : takeI (occ S base n) = (k : Int) := by rw [takeI, hf]
    have e1 : takeE (occ S base n) = 0 := by rw [takeE, hf]
    have e2 : takeH (occ S base n) = (occ S base n).set k true := by rw [takeH, hf]
    have hlow := (low_at hf).1
    have hk : k < n := by
      have := (List.getElem?_eq_some_iff.1 hlow).1
      rwa [occ_len] at this
    rw [occ_get _ hk] at hlow
    have hSn : (S ((base + k : Nat) : Int)).isSome = false := Option.some.inj hlow
    rw [e2, show true = (some (r, nx, a) : Option Sl).isSome from rfl, occ_set S hk] at hsh3
    rw [e0, e1]
    rw [hf] at eK
    have ex : IntKind.i64.wrap ((base : Int) + (k : Int)) = ((base + k : Nat) : Int) := by rw [wrap_i64 (by omega) (by omega)]; rfl
    rw [ex]
    refine ifB_false rfl ?_
    rintro w6 rfl
    have hE6 := Ext.drew w3
    have hd6 := hE6.keep hd3
    obtain ⟨w11, hr11, hi11, hm11, hs11⟩ := (hi3.ext hE6).store uCI uCM (k := ((base + k : Nat) : Int)) (by have := h.szn; simp only [maxLen]; omega) (i64_mk (by omega) (by omega)) (slotV (r, nx, a))
    have emap : upd (mapS S) ((base + k : Nat) : Int) (some (slotV (r, nx, a))) = mapS (updS S ((base + k : Nat) : Int) (some (r, nx, a))) := mapS_upd S _ (some (r, nx, a))
    have esz : (mapS S ((base + k : Nat) : Int)).isSome = false := by
      unfold mapS
      rw [Option.isSome_map]
      exact hSn
    rw [emap, esz] at hi11
    refine ⟨_, dcell hd6 rfl, _, dcell hd6 rfl, by trivial, by trivial, w11, hr11, ?_⟩
    rintro w12 rfl
    have hE12 := Ext.drew w11
    have hd12 := hE12.keep (hm11.keep hd6 h.d.1)
    refine ⟨_, dcell hd12 rfl, _, dcell hd12 rfl, by trivial, .of (Hd.pack_any T ((base + k : Nat) : Int) r nx w11.drew) ?_⟩
    have hok : Hd.KeyOk T ((base + k : Nat) : Int) r nx := ⟨by omega, by omega, by omega, by omega, by omega, by omega, by omega, by omega⟩
    rw [if_pos hok, if_pos hok]
    rintro v w18 ⟨rfl, hE18⟩
    have hd18 := hE18.keep hd12
    refine ⟨_, _, rfl, _, dcell hd18 rfl, ?_⟩
    have hi18 := hi11.ext (hE12.trans hE18)
    have hm318 : Mod (fun j => j = B) w3 w18 := Mod.trans (Mod.trans (hE6.mod (F := fun j => j = B)) hm11 (fun _ _ x => x)) (hE12.trans hE18) (fun _ _ x => x.elim)
    refine wr_intro (b := p) (n := 1) hd18 (by simp) fun w24 hd24 hm24 hs24 => ⟨by rw [putV, eK], ?_, ?_⟩
    · rw [putN, putS, putZ, eK]
      have enx : IntKind.i64.wrap (nx + 1) = nx + 1 := wrap_i64 (by omega) (by omega)
      have hd24' : w24.heap[p]? = some (.cells #[.int .i64 T, .int .i64 (nx + 1), .map (some B), .pointer (some ⟨ob, 0, none⟩), .pointer (some ⟨eb, 0, none⟩)] 64 (0, 0)) := by
        rw [← enx]
        exact hd24
      have hi24 := hi18.keep hm24 h.d.1.symm
      have hsh24 := (hsh3.keep hm318 (fun j hj x => by unfold fpS at hj; omega)).keep hm24 (fun j hj x => by unfold fpS at hj; omega)
      have rng : ∀ x s, updS S ((base + k : Nat) : Int) (some (r, nx, a)) x = some s → 0 ≤ x ∧ x < 4160 := fun x s hx => by
        unfold updS at hx
        split at hx
        · omega
        · exact h.rng x s hx
      have ok : ∀ x s, updS S ((base + k : Nat) : Int) (some (r, nx, a)) x = some s → 1 ≤ s.1 ∧ s.1 ≤ 7 ∧ 1 ≤ s.2.1 ∧ s.2.1 < nx + 1 ∧ 0 ≤ s.2.2 := fun x s hx => by
        unfold updS at hx
        split at hx
        · cases hx
          exact ⟨hr.1, hr.2, n0.1, Int.lt_succ nx, ha⟩
        · have q := h.ok x s hx
          exact ⟨q.1, q.2.1, q.2.2.1, Int.lt_trans q.2.2.2.1 (Int.lt_succ nx), q.2.2.2.2⟩
      have hoth : ∀ {pb gb : Nat} {hs : List Bool}, SH w pb gb hs → pb ≠ sb → pb ≠ sg → gb ≠ sb → gb ≠ sg → pb ≠ B → gb ≠ B → pb ≠ p → gb ≠ p → SH w24 pb gb hs := fun hS a1 a2 a3 a4 a5 a6 a7 a8 =>
        ((hS.keep hm3 (fun j hj x => by unfold fpS at hj x; omega)).keep hm318 (fun j hj x => by unfold fpS at hj; omega)).keep hm24 (fun j hj x => by unfold fpS at hj; omega)
      have szn := h.szn
      obtain ⟨d1, d2, d3, d4, d5, d6, d7, d8, d9, d10, d11, d12, d13⟩ := h.d
      have szn' : (((if false = true then sz else sz + 1 : Nat)) : Int) < nx + 1 := by
        rw [if_neg (by decide)]
        omega
      rcases hs with ⟨rfl, rfl, rfl, rfl⟩ | ⟨rfl, rfl, rfl, rfl⟩
      · refine ⟨hd24', hi24, hsh24, ?_, t0, ⟨Int.le_trans n0.1 (Int.le_of_lt (Int.lt_succ nx)), Int.lt_of_not_ge hmax⟩, rng, ok, szn', h.d⟩
        rw [occ_out _ (fun j hj => by omega)]
        exact hoth h.extra d10.symm d12.symm d11.symm d13.symm d8.symm d9.symm d4.symm d5.symm
      · refine ⟨hd24', hi24, ?_, hsh24, t0, ⟨Int.le_trans n0.1 (Int.le_of_lt (Int.lt_succ nx)), Int.lt_of_not_ge hmax⟩, rng, ok, szn', h.d⟩
        rw [occ_out _ (fun j hj => by omega)]
        exact hoth h.objs d10 d11 d12 d13 d6.symm d7.symm d2.symm d3.symm
    · exact Mod.trans (Mod.trans (hm3.mono hsub) hm318 (fun j _ hj => by unfold fpC; omega)) hm24 (fun j _ hj => by unfold fpC; omega)

end

end Go.Proofs.YtkbgiflmecaffaaDoor
