/- Statements of layer 10 (caps): what is owned; New; no table; awake. Conditions: the table of TrailingZeros64 is laid. -/
import Derived.Test.YtkbgiflmecaffaaDoorCaps3
import Derived.Test.YtkbgiflmecaffaaDoorVcD
import Derived.Test.YtkbgiflmecaffaaDoorVcL
set_option linter.unusedVariables false
set_option linter.unusedSimpArgs false
namespace Go.Proofs.YtkbgiflmecaffaaDoor
open Go.RowKit

/-- A table made behind world w0; blocks of K are kept apart from it. -/
structure COf (w0 w : World) (K : Nat → Prop) (p : Nat) (F : Nat → Prop) (T nx : Int) (S : Int → Option Sl) (sz : Nat) : Prop where
  c : CP w p F T nx S sz
  new : ∀ j, F j → w0.heap.size ≤ j ∧ ¬ K j
  knew : ∀ j, K j → w0.heap.size ≤ j ∧ j < w.heap.size
  ext : Ext w0 w

def CO (w0 w : World) (K : Nat → Prop) (p : Nat) (T nx : Int) (S : Int → Option Sl) (sz : Nat) : Prop := ∃ F, COf w0 w K p F T nx S sz

section
variable {w0 w w' : World} {K K' : Nat → Prop} {p : Nat} {F : Nat → Prop} {T nx : Int} {S : Int → Option Sl} {sz : Nat}

theorem COf.setK (h : COf w0 w K p F T nx S sz) (hm : Mod K w w') (hK : ∀ j, K' j → j < w'.heap.size ∧ w0.heap.size ≤ j ∧ ¬ F j) : COf w0 w' K' p F T nx S sz :=
  ⟨h.c.keep hm (fun j hj x => (h.new j hj).2 x), fun j hj => ⟨(h.new j hj).1, fun x => (hK j x).2.2 hj⟩, fun j hj => ⟨(hK j hj).2.1, (hK j hj).1⟩, h.ext.new hm (fun j hj => (h.knew j hj).1)⟩

theorem COf.keep (h : COf w0 w K p F T nx S sz) (hm : Mod K w w') : COf w0 w' K p F T nx S sz :=
  h.setK hm fun j hj => ⟨Nat.lt_of_lt_of_le (h.knew j hj).2 hm.size, (h.knew j hj).1, fun x => (h.new j x).2 hj⟩

theorem CO.keep (h : CO w0 w K p T nx S sz) (hm : Mod K w w') : CO w0 w' K p T nx S sz := by
  obtain ⟨F, h⟩ := h
  exact ⟨F, h.keep hm⟩

theorem CO.ext (h : CO w0 w K p T nx S sz) : Ext w0 w := by
  obtain ⟨F, h⟩ := h
  exact h.ext

theorem COf.fresh (h : COf w0 w K p F T nx S sz) {j : Nat} (hj : w.heap.size ≤ j) : ¬ F j := fun x => by
  have := h.c.lt j x
  omega

theorem COf.post (h : COf w0 w K p F T nx S sz) {nx' : Int} {S' : Int → Option Sl} {sz' : Nat} (c : CP w' p F T nx' S' sz') (hm : Mod F w w') : CO w0 w' K p T nx' S' sz' ∧ Mod (fun j => ¬ K j) w w' :=
  ⟨⟨F, c, h.new, fun j hj => ⟨(h.knew j hj).1, Nat.lt_of_lt_of_le (h.knew j hj).2 hm.size⟩, h.ext.new hm (fun j hj => (h.new j hj).1)⟩, hm.mono fun j hj => (h.new j hj).2⟩

theorem CO.grant (h : CO w0 w K p T nx S sz) (tab : Tab w0) (a : Int) {Q : Value → World → Prop}
    (q : ∀ w', CO w0 w' K p T (grantN S nx a) (grantS S nx a) (grantZ S nx a sz) → Mod (fun j => ¬ K j) w w' → Q (grantV T S nx a) w') :
    CallS Tryd.prog 12 #[.pointer (some ⟨p, 0, none⟩), .int .i64 a] w Q := by
  obtain ⟨F, h⟩ := h
  refine .of (grant_any h.c (tab.ext h.ext) a) ?_
  rintro r w1 ⟨rfl, c, hm⟩
  obtain ⟨x, y⟩ := h.post c hm
  exact q w1 x y

theorem CO.restrict (h : CO w0 w K p T nx S sz) (tab : Tab w0) {hh : Int} (hu : Hd.U64 hh) (r : Int) {Q : Value → World → Prop}
    (q : ∀ w', CO w0 w' K p T (restN T S nx hh r) (restS T S nx hh r) (restZ T S nx hh r sz) → Mod (fun j => ¬ K j) w w' → Q (restV T S nx hh r) w') :
    CallS Tryd.prog 13 #[.pointer (some ⟨p, 0, none⟩), .int .u64 hh, .int .i64 r] w Q := by
  obtain ⟨F, h⟩ := h
  refine .of (restrict_any h.c (tab.ext h.ext) hu r) ?_
  rintro v w1 ⟨rfl, c, hm⟩
  obtain ⟨x, y⟩ := h.post c hm
  exact q w1 x y

theorem CO.revoke (h : CO w0 w K p T nx S sz) (a : Int) {Q : Value → World → Prop}
    (q : ∀ w', CO w0 w' K p T nx (revS S a 4160) (sz - revC S a 4160) → Mod (fun j => ¬ K j) w w' → Q (.int .i64 (revC S a 4160 : Int)) w') :
    CallS Tryd.prog 15 #[.pointer (some ⟨p, 0, none⟩), .int .i64 a] w Q := by
  obtain ⟨F, h⟩ := h
  refine .of (revoke_any h.c a) ?_
  rintro v w1 ⟨rfl, c, hm⟩
  obtain ⟨x, y⟩ := h.post c hm
  exact q w1 x y

theorem CO.find (h : CO w0 w K p T nx S sz) {hh : Int} (hu : Hd.U64 hh) (r : Int) {Q : Value → World → Prop}
    (q : ∀ w', CO w0 w' K p T nx S sz → Ext w w' → Q (findR T S hh r) w') :
    CallS Tryd.prog 14 #[.pointer (some ⟨p, 0, none⟩), .int .u64 hh, .int .i64 r] w Q := by
  obtain ⟨F, h⟩ := h
  refine .of (cFind_any h.c hu r) ?_
  rintro v w1 ⟨rfl, hE⟩
  exact q w1 ⟨F, h.keep hE.mod⟩ hE

theorem CO.count (h : CO w0 w K p T nx S sz) {Q : Value → World → Prop} (q : Q (.int .i64 (sz : Int)) w) :
    CallS Tryd.prog 16 #[.pointer (some ⟨p, 0, none⟩)] w Q := by
  obtain ⟨F, h⟩ := h
  refine .of (count_any h.c) ?_
  rintro v w1 ⟨rfl, rfl⟩
  exact q

theorem CO.serial (h : CO w0 w K p T nx S sz) {Q : Value → World → Prop} (q : Q (.int .i64 nx) w) :
    CallS Tryd.prog 24 #[.pointer (some ⟨p, 0, none⟩)] w Q := by
  obtain ⟨F, h⟩ := h
  refine .of (serial_any h.c) ?_
  rintro v w1 ⟨rfl, rfl⟩
  exact q

end

/-! ### New -/

theorem occ_none (base n : Nat) : occ (fun _ => none) base n = List.replicate n false := by
  apply List.ext_getElem?
  intro j
  by_cases hj : j < n
  · rw [occ_get _ hj]; simp [hj]
  · rw [List.getElem?_eq_none (by rw [occ_len]; omega), List.getElem?_eq_none (by simp; omega)]

def NewC (w : World) (t s : Int) (v : Value) (w' : World) : Prop :=
  (¬ (0 ≤ t ∧ t ≤ 7 ∧ 1 ≤ s ∧ s ≤ 17592186044416) ∧ v = .tuple #[.pointer none, .int .i64 12] ∧ w' = w) ∨
  (0 ≤ t ∧ t ≤ 7 ∧ 1 ≤ s ∧ s ≤ 17592186044416 ∧ ∃ p, v = .tuple #[.pointer (some ⟨p, 0, none⟩), .int .i64 0] ∧ CO w w' (fun _ => False) p t s (fun _ => none) 0)

theorem capnew_any (t s : Int) (w : World) : Calls Tryd.prog 9 #[.int .i64 t, .int .i64 s] w (Ret (NewC w t s)) := by
  refine VC.caps_New.ok ?_
  unfold VC.caps_New
  refine ifD (fun q => .inl ⟨by omega, rfl, rfl⟩) (fun h1 => ifD (fun q => .inl ⟨by omega, rfl, rfl⟩) (fun h2 => ifD (fun q => .inl ⟨by omega, rfl, rfl⟩) (fun h3 => ifD (fun q => .inl ⟨by omega, rfl, rfl⟩) (fun h4 => ?_))))
  refine .of (new_any w 4096) ?_
  rintro v w1 (⟨hno, _⟩ | ⟨_, _, ob, og, rfl, ho, hE1, hon⟩)
  · exact absurd ⟨by decide, by decide⟩ hno
  refine ⟨_, _, rfl, .of (new_any w1 64) ?_⟩
  rintro v w2 (⟨hno, _⟩ | ⟨_, _, eb, eg, rfl, he, hE2, hen⟩)
  · exact absurd ⟨by decide, by decide⟩ hno
  refine ⟨_, _, rfl, some w2.heap.size, w2.alloc (.map #[] 0), run_makeMap _ w2, ?_⟩
  have hE3 := Ext.alloc w2 (.map #[] 0)
  obtain ⟨B, hB⟩ : ∃ B, B = w2.heap.size := ⟨_, rfl⟩
  have hmap : IMap (w2.alloc (.map #[] 0)) Tryd.prog 3 .i64 B (fun _ => none) 0 := by
    rw [hB]
    exact IMap.made w2 Tryd.prog 3 .i64
  have hs3 : (w2.alloc (.map #[] 0)).heap.size = B + 1 := by rw [hB]; simp
  rw [← hB]
  have ho3 := (ho.ext hE2).ext hE3
  have he3 := he.ext hE3
  have lo := ho.lt
  have le := he.lt
  generalize w2.alloc (.map #[] 0) = w3 at hE3 hmap ho3 he3 hs3
  refine al_intro fun p w4 hp hE4 hs4 hs4' => .inr ⟨by omega, by omega, by omega, by omega, p, rfl, fpC p B ob og eb eg, ⟨B, ob, og, eb, eg, ⟨hp, ?_, ?_, ?_, by omega, by omega, fun x s hx => (nomatch hx), fun x s hx => (nomatch hx), by omega, ?_⟩, rfl⟩, ?_, fun j hj => hj.elim, ((hE1.trans hE2).trans hE3).trans hE4⟩
  · have e : mapS (fun _ => none) = fun _ => none := rfl
    rw [e]
    exact hmap.ext hE4
  · rw [occ_none]
    exact ho3.ext hE4
  · rw [occ_none]
    exact he3.ext hE4
  · have a1 := lo ob (.inl rfl)
    have a2 := lo og (.inr rfl)
    have a3 := le eb (.inl rfl)
    have a4 := le eg (.inr rfl)
    have b1 := hen eb (.inl rfl)
    have b2 := hen eg (.inr rfl)
    have s2 := hE2.size
    refine ⟨?_, ?_, ?_, ?_, ?_, ?_, ?_, ?_, ?_, ?_, ?_, ?_, ?_⟩ <;> omega
  · have a1 := hon ob (.inl rfl)
    have a2 := hon og (.inr rfl)
    have b1 := hen eb (.inl rfl)
    have b2 := hen eg (.inr rfl)
    have s1 := hE1.size
    have s2 := hE2.size
    rintro j (rfl | rfl | rfl | rfl | rfl | rfl) <;> exact ⟨by omega, fun x => x⟩

/-! ### no table -/

theorem ngrant_any (a : Int) (w : World) : Calls Tryd.prog 12 #[.pointer none, .int .i64 a] w (Ret fun r w' => r = .tuple #[.int .u64 0, .int .i64 11] ∧ w' = w) := by
  refine VC.caps_Caps_Grant.ok ?_
  unfold VC.caps_Caps_Grant
  exact ifB_true rfl ⟨rfl, rfl⟩

theorem nfind_any (h : Int) (w : World) : Calls Tryd.prog 27 #[.pointer none, .int .u64 h] w (Ret fun r w' => r = .tuple #[.agg #[.int .i64 0, .int .i64 0, .int .i64 0], .int .i64 11] ∧ Ext w w') := by
  refine VC.caps_Caps_find.ok ?_
  unfold VC.caps_Caps_find
  exact al_intro fun b w1 hb hE1 hs1 hs1' => ifB_true rfl (give3 hb fun w2 hb2 hm2 _ => ⟨_, _, _, cells3 hb2, rfl, hE1.new hm2 (fun k hk => by omega)⟩)

theorem nFind_any (h r : Int) (w : World) : Calls Tryd.prog 14 #[.pointer none, .int .u64 h, .int .i64 r] w (Ret fun v w' => v = .tuple #[.int .i64 0, .int .i64 11] ∧ Ext w w') := by
  refine VC.caps_Caps_Find.ok ?_
  unfold VC.caps_Caps_Find
  refine .of (nfind_any h w) ?_
  rintro v w1 ⟨rfl, hE1⟩
  have := hE1.size
  exact ⟨_, _, _, _, rfl, al_intro fun b w7 hb hE7 hs7 hs7' => give3 hb fun w8 hb8 hm8 hs8 => ifB_true rfl ⟨rfl, (hE1.trans hE7).new hm8 (fun k hk => by omega)⟩⟩

theorem nrestrict_any (h r : Int) (w : World) : Calls Tryd.prog 13 #[.pointer none, .int .u64 h, .int .i64 r] w (Ret fun v w' => v = .tuple #[.int .u64 0, .int .i64 11] ∧ Ext w w') := by
  refine VC.caps_Caps_Restrict.ok ?_
  unfold VC.caps_Caps_Restrict
  refine .of (nfind_any h w) ?_
  rintro v w1 ⟨rfl, hE1⟩
  have := hE1.size
  exact ⟨_, _, _, _, rfl, al_intro fun b w7 hb hE7 hs7 hs7' => give3 hb fun w8 hb8 hm8 hs8 => ifB_true rfl ⟨rfl, (hE1.trans hE7).new hm8 (fun k hk => by omega)⟩⟩

theorem nrevoke_any (a : Int) (w : World) : Calls Tryd.prog 15 #[.pointer none, .int .i64 a] w (Ret fun r w' => r = .int .i64 0 ∧ w' = w) := by
  refine VC.caps_Caps_Revoke.ok ?_
  unfold VC.caps_Caps_Revoke
  exact ifB_true rfl ⟨rfl, rfl⟩

theorem nserial_any (w : World) : Calls Tryd.prog 24 #[.pointer none] w (Ret fun r w' => r = .int .i64 0 ∧ w' = w) := by
  refine VC.caps_Caps_Serial.ok ?_
  unfold VC.caps_Caps_Serial
  exact ifB_true rfl ⟨rfl, rfl⟩

theorem ncount_any (w : World) : Calls Tryd.prog 16 #[.pointer none] w (Ret fun r w' => r = .int .i64 0 ∧ w' = w) := by
  refine VC.caps_Caps_Count.ok ?_
  unfold VC.caps_Caps_Count
  exact ifB_true rfl ⟨rfl, rfl⟩

theorem ncopy_any (w : World) : Calls Tryd.prog 23 #[.pointer none] w (Ret fun r w' => r = .pointer none ∧ w' = w) := by
  refine VC.caps_Caps_Copy.ok ?_
  unfold VC.caps_Caps_Copy
  exact ifB_true rfl ⟨rfl, rfl⟩

/-! ### answers that the document fixes -/

def aS0 : Int → Option Sl := fun _ => none
def aS1 : Int → Option Sl := updS aS0 0 (some (7, 1, 512))
def aS2 : Int → Option Sl := updS aS1 4096 (some (1, 2, 512))

theorem ak1 : putK aS0 0 4096 1 = some 0 := by decide +kernel
theorem ar1 : restO 2 aS1 1048690 1 = some (7, 1, 512) := by decide +kernel
theorem ak2 : putK aS1 4096 64 2 = some 0 := by decide +kernel
theorem ac3 : revC aS2 512 4160 = 2 := by decide +kernel
theorem af1 : findS 2 aS2 2621458 = some (1, 2, 512) := by decide +kernel
theorem af2 : findS 2 (revS aS2 512 4160) 1048690 = none := by decide +kernel

theorem cawake_any {w : World} (tab : Tab w) : Calls Tryd.prog 10 #[] w (Ret (Yes w)) := by
  refine VC.garthlaw10_awake.ok ?_
  unfold VC.garthlaw10_awake
  refine .of (capnew_any 2 1 w) ?_
  rintro v w1 (⟨hno, _⟩ | ⟨_, _, _, _, p, rfl, h1⟩)
  · exact absurd ⟨by decide, by decide, by decide, by decide⟩ hno
  refine ⟨_, _, rfl, ifB_false rfl (ifB_false rfl (h1.grant tab 512 fun w2 h2 _ => ?_))⟩
  have g1 : grantV 2 (fun _ => none) 1 512 = .tuple #[.int .u64 1048690, .int .i64 0] := by
    rw [grantV, if_neg (by decide), putV, show putK (fun _ => none) 0 4096 1 = some 0 from ak1]
    rfl
  have g2 : grantS (fun _ => none) 1 512 = aS1 := by
    rw [grantS, if_neg (by decide), putS, show putK (fun _ => none) 0 4096 1 = some 0 from ak1]
    rfl
  have g3 : grantN (fun _ => none) 1 512 = 2 := by
    rw [grantN, if_neg (by decide), putN, show putK (fun _ => none) 0 4096 1 = some 0 from ak1]
    rfl
  have g4 : grantZ (fun _ => none) 1 512 0 = 1 := by
    rw [grantZ, if_neg (by decide), putZ, show putK (fun _ => none) 0 4096 1 = some 0 from ak1]
  rw [g2, g3, g4] at h2
  rw [g1]
  refine ⟨_, _, rfl, h2.restrict tab (by decide) 1 fun w3 h3 _ => ?_⟩
  have r1 : restV 2 aS1 2 1048690 1 = .tuple #[.int .u64 2621458, .int .i64 0] := by
    rw [restV, ar1]
    simp only
    rw [putV, ak2]
    rfl
  have r2 : restS 2 aS1 2 1048690 1 = aS2 := by
    rw [restS, ar1]
    simp only
    rw [putS, ak2]
    rfl
  have r3 : restN 2 aS1 2 1048690 1 = 3 := by
    rw [restN, ar1]
    simp only
    rw [putN, ak2]
    rfl
  have r4 : restZ 2 aS1 2 1048690 1 1 = 2 := by
    rw [restZ, ar1]
    simp only
    rw [putZ, ak2]
  rw [r2, r3, r4] at h3
  rw [r1]
  refine ⟨_, _, rfl, h3.find (by decide) 1 fun w4 h4 _ => ?_⟩
  have f1 : findR 2 aS2 2621458 1 = .tuple #[.int .i64 512, .int .i64 0] := by
    rw [findR, af1]
    simp only
    rw [if_neg (by decide +kernel)]
  have f2 : findR 2 aS2 2621458 2 = .tuple #[.int .i64 0, .int .i64 5] := by
    rw [findR, af1]
    simp only
    rw [if_pos (by decide +kernel)]
  rw [f1]
  refine ⟨_, _, rfl, h4.find (by decide) 2 fun w5 h5 _ => ?_⟩
  rw [f2]
  refine ⟨_, _, rfl, h5.revoke 512 fun w6 h6 _ => ?_⟩
  rw [ac3] at h6
  rw [ac3]
  refine ⟨_, rfl, h6.find (by decide) 0 fun w7 h7 _ => ?_⟩
  have f3 : findR 2 (revS aS2 512 4160) 1048690 0 = .tuple #[.int .i64 0, .int .i64 5] := by rw [findR, af2]
  rw [f3]
  refine ⟨_, _, rfl, .of (Hd.refunpack_any 2621458 (by decide) w7) ?_⟩
  have u1 : Hd.unpackV 2621458 = .tuple #[.agg #[.int .i64 2, .int .i64 4096, .int .i64 1, .int .i64 2], .int .i64 0] := by
    rw [Hd.unpackV, if_pos (by decide)]
    rfl
  rw [u1]
  rintro v w8 ⟨rfl, hE8⟩
  refine ⟨_, _, _, _, _, rfl, al_intro fun b w9 hb hE9 hs9 hs9' => ?_⟩
  refine wr_intro (b := b) (n := 4) hb (by simp) fun w10 hb10 hm10 _ => ?_
  have hb10 : w10.heap[b]? = some (.cells #[.int .i64 2, .int .i64 4096, .int .i64 1, .int .i64 2] 45 (0, 0)) := hb10
  have hE10 : Ext w7 w10 := (hE8.trans hE9).new hm10 (fun k hk => by have := hE8.size; omega)
  have h10 := h7.keep hE10.mod
  refine ifB_true rfl ⟨_, _, _, _, cells_all (vs := [_, _, _, _]) hb10, _, w10, run_key_eql w10 _ _ _ _ _ _ _ _, ifB_true rfl (ifB_true rfl (ifB_true rfl (ifB_true rfl (ifB_true rfl (ifB_true rfl (h10.serial ⟨_, rfl, ifB_true rfl (h10.count ⟨_, rfl, rfl, h10.ext⟩)⟩))))))⟩

theorem walk_CapsNil (x0 : Int) (_ : -9223372036854775808 ≤ x0 ∧ x0 ≤ 9223372036854775807) (x1 : Int) (_ : -9223372036854775808 ≤ x1 ∧ x1 ≤ 9223372036854775807) (x2 : Int) (_ : 0 ≤ x2 ∧ x2 ≤ 18446744073709551615) (w : World) (tab : Tab w) :
    Calls Tryd.prog 8 #[.int .i64 x0, .int .i64 x1, .int .u64 x2] w (Ret (Yes w)) := by
  refine VC.garthlaw10_CapsNil.ok ?_
  unfold VC.garthlaw10_CapsNil
  refine .of (ngrant_any x0 w) ?_
  rintro v w1 ⟨rfl, rfl⟩
  refine ⟨_, _, rfl, .of (nFind_any x2 x1 w1) ?_⟩
  rintro v w2 ⟨rfl, hE2⟩
  refine ⟨_, _, rfl, .of (nrestrict_any x2 x1 w2) ?_⟩
  rintro v w3 ⟨rfl, hE3⟩
  refine ⟨_, _, rfl, .of (cawake_any (tab.ext (hE2.trans hE3))) ?_⟩
  rintro v w4 ⟨rfl, hE4⟩
  refine ⟨_, rfl, ifB_true rfl (ifB_true rfl (ifB_true rfl (ifB_true rfl (ifB_true rfl (ifB_true rfl (ifB_true rfl (.of (nrevoke_any x0 w4) ?_)))))))⟩
  rintro v w5 ⟨rfl, rfl⟩
  refine ⟨_, rfl, ifB_true rfl (.of (nserial_any w5) ?_)⟩
  rintro v w6 ⟨rfl, rfl⟩
  refine ⟨_, rfl, ifB_true rfl (.of (ncount_any w6) ?_)⟩
  rintro v w7 ⟨rfl, rfl⟩
  refine ⟨_, rfl, ifB_true rfl (.of (ncopy_any w7) ?_)⟩
  rintro v w8 ⟨rfl, rfl⟩
  exact ⟨_, rfl, rfl, (hE2.trans hE3).trans hE4⟩

end Go.Proofs.YtkbgiflmecaffaaDoor
