/- Contracts of garthref12: Alloc, Free, Move, New. Conditions: the page is there, and its chains are lists. -/
import Derived.Test.YtkbgiflmecaffaaPageQ
set_option linter.unusedVariables false
set_option linter.unusedSimpArgs false
namespace Go.Proofs.Ytkbgiflmecaffaa
open Go.RowKit

section
variable {w0 w w' : World} {K F : Nat → Prop} {pb ap base kind p : Nat} {s : St} {bs : List UInt8} {ts : List Tch} {R W : List Nat}

/-- A block is had, or not. -/
theorem RGs.mark (h : RGs w0 K pb ap base kind s w) {k : Nat} (hk : k < perN kind) (b : Bool) {Q : World → Prop}
    (q : ∀ w', RGs w0 K pb ap base kind { s with hs := s.hs.set k b } w' → Mod (fun j => ¬ K j) w w' → Q w') :
    WrC w (((Addr.mk pb 0 none).add 4).add k) 1 ∧ ∀ w', w' = wr w (((Addr.mk pb 0 none).add 4).add k) [.bool b] → Q w' := by
  obtain ⟨rc, wc, FA, h, hn, hkk, hE⟩ := h
  have h32 := h.h32
  have hl := h.hl
  rw [add_mk, add_mk]
  refine wr_intro (b := pb) (n := 1) h.head (by rw [List.size_toArray, headR_len h32]; omega) fun w1 hd1 hm1 _ => ?_
  rw [headR_set h32 (by omega)] at hd1
  obtain ⟨h1, hm⟩ := h.hdp hm1 hd1 h.fl (by simp)
  obtain ⟨a, c⟩ := RGs.step hn hkk hE h1 hm (fun j hj => .inl hj)
  exact q w1 a c

theorem headR_f (ap base kind f f' : Nat) (hs : List Bool) (rc wc : Nat) : setAt (headR ap base kind f hs rc wc).toArray (0 + 3) [Value.int .i64 (f' : Int)] = (headR ap base kind f' hs rc wc).toArray := by
  simp only [setAt]
  apply Array.ext'
  rw [Array.toList_setIfInBounds]
  rfl

theorem RGs.up (h : RGs w0 K pb ap base kind s w) (hf : s.f < perN kind) {Q : World → Prop}
    (q : ∀ w', RGs w0 K pb ap base kind { s with f := s.f + 1 } w' → Mod (fun j => ¬ K j) w w' → Q w') :
    WrC w ((Addr.mk pb 0 none).add 3) 1 ∧ ∀ w', w' = wr w ((Addr.mk pb 0 none).add 3) [.int .i64 (IntKind.i64.wrap ((s.f : Int) + 1))] → Q w' := by
  obtain ⟨rc, wc, FA, h, hn, hkk, hE⟩ := h
  have h32 := h.h32
  have hl := h.hl
  have e1 : IntKind.i64.wrap ((s.f : Int) + 1) = ((s.f + 1 : Nat) : Int) := by rw [wrap_i64 (by omega) (by omega)]; omega
  rw [add_mk, e1]
  refine wr_intro (b := pb) (n := 1) h.head (by rw [List.size_toArray, headR_len h32]; omega) fun w1 hd1 hm1 _ => ?_
  rw [headR_f] at hd1
  obtain ⟨h1, hm⟩ := h.hdp hm1 hd1 hf rfl
  obtain ⟨a, c⟩ := RGs.step hn hkk hE h1 hm (fun j hj => .inl hj)
  exact q w1 a c

theorem RGs.k8 (h : RGs w0 K pb ap base kind s w) : kind < 8 ∧ CfgC s.bs.length base (unitN kind) (perN kind) s.hr ∧ CfgC s.bs.length base (unitN kind) (perN kind) s.hw ∧ s.hs.length = perN kind := by
  obtain ⟨rc, wc, FA, h, hn, hkk, hE⟩ := h
  exact ⟨h.k8, h.gr, h.gw, h.hl⟩

/-- Ready is not empty: its first block is taken. -/
theorem RGs.outC (h : RGs w0 K pb ap base kind s w) (I : Inv (unitN kind) (perN kind) base R W s) (hne : 0 ≤ s.hr) (hl : s.ts.length < 549755813000) {Q : Value → World → Prop}
    (q : ∀ w', RGs w0 K pb ap base kind (outS (unitN kind) (perN kind) base s) w' → Mod (fun j => ¬ K j) w w' → Q (.tuple #[.int .i64 (outI (unitN kind) (perN kind) base s), .int .i64 (outE (unitN kind) (perN kind) base s)]) w') :
    ∃ p26 : Option Addr, w.cell? ((Addr.mk pb 0 none).add 36) = some (.pointer p26) ∧ CallS Try.prog 56 #[.pointer p26] w fun v27 w28 => ∃ i29 i30 : Int, v27 = .tuple #[.int .i64 i29, .int .i64 i30] ∧
      ifB (i30 != 0) (Q (.tuple #[.int .i64 0, .int .i64 i30]) w28) (someA (some (Addr.mk pb 0 none)) fun a31 => 0 ≤ i29 ∧ i29 < ((32 : Nat) : Int) ∧ WrC w28 ((a31.add 4).add i29.toNat) [Value.bool true].length ∧ ∀ w32 : World, w32 = wr w28 ((a31.add 4).add i29.toNat) [.bool true] → Q (.tuple #[.int .i64 i29, .int .i64 0]) w32) := by
  cases R with
  | nil => exact absurd hne (by rw [I.hr]; simp [headI, lnk])
  | cons k R =>
  have h8 := h.k8
  obtain ⟨hkp, hf, hI, hE0, hB, hH, eS⟩ := I.pop0 h8.2.1
  obtain ⟨oI, oE, _⟩ := I.pop h8.2.1
  rw [oI, oE, eS] at q
  have h32 := (class_facts h8.1).2.2.2.1
  obtain ⟨rc, wc, FA, h, hn, hkk, hE⟩ := h
  refine ⟨_, h.c36, .of (rcpop_any h.ar h.cr h.gr (h.nF _ (.inr (.inl rfl))) (by omega)) ?_⟩
  rintro v w1 ⟨rfl, hp⟩
  obtain ⟨FA', h1, hm1, hF1⟩ := h.chR hp ((show CfgC _ base _ _ s.hr by rw [popB_len' h.gr]; exact h.gr).head (popH_in' h.gr).1 (popH_in' h.gr).2) (popB_len' h.gr)
  obtain ⟨a, b⟩ := RGs.step hn hkk hE h1 hm1 hF1
  rw [hI, hE0]
  refine ⟨_, _, rfl, ifB_false rfl ⟨by omega, by omega, ?_⟩⟩
  rw [Int.toNat_natCast]
  refine RGs.mark a hkp true fun w2 h2 m2 => q w2 h2 (Mod.trans b m2 (fun _ _ x => x))

/-- Nothing is ready: a fresh one. -/
theorem RGs.freshC (h : RGs w0 K pb ap base kind s w) (I : Inv (unitN kind) (perN kind) base [] [] s) (hf : s.f < perN kind) {Q : Value → World → Prop}
    (q : ∀ w', RGs w0 K pb ap base kind (takS { s with f := s.f + 1 } (s.f : Int)) w' → Mod (fun j => ¬ K j) w w' → Q (.tuple #[.int .i64 (s.f : Int), .int .i64 0]) w') :
    someA (some (Addr.mk pb 0 none)) fun (a33 : Addr) => ∃ (i34 : Int), w.cell? (a33.add (3 : Nat)) = some (Value.int IntKind.i64 i34) ∧ someA (some (Addr.mk pb 0 none)) fun (a35 : Addr) => WrC w (a35.add (3 : Nat)) (1 : Nat) ∧ ∀ (w36 : World), w36 = wr w (a35.add (3 : Nat)) [Value.int IntKind.i64 (IntKind.i64.wrap (i34 + (1 : Int)))] →
      someA (some (Addr.mk pb 0 none)) fun (a37 : Addr) => (0 : Int) ≤ (s.f : Int) ∧ (s.f : Int) < (↑(32 : Nat) : Int) ∧ WrC w36 ((a37.add (4 : Nat)).add (s.f : Int).toNat) [Value.bool true].length ∧ ∀ (w38 : World), w38 = wr w36 ((a37.add (4 : Nat)).add (s.f : Int).toNat) [Value.bool true] → Q (Value.tuple #[Value.int IntKind.i64 (s.f : Int), Value.int IntKind.i64 (0 : Int)]) w38 := by
  have h8 := h.k8
  have h32 := (class_facts h8.1).2.2.2.1
  obtain ⟨_, _, eh, _⟩ := I.fresh hf
  have e : takS { s with f := s.f + 1 } (s.f : Int) = { s with f := s.f + 1, hs := s.hs.set s.f true } := by
    show ({ s with f := s.f + 1, hs := (takS { s with f := s.f + 1 } (s.f : Int)).hs } : St) = _
    rw [eh]
  rw [e] at q
  have c3 : w.cell? ((Addr.mk pb 0 none).add 3) = some (.int .i64 (s.f : Int)) := by
    obtain ⟨rc, wc, FA, h, _⟩ := h
    exact h.c3
  refine ⟨_, c3, RGs.up h hf fun w1 h1 m1 => ⟨by omega, by omega, ?_⟩⟩
  rw [Int.toNat_natCast]
  exact RGs.mark h1 hf true fun w2 h2 m2 => q w2 h2 (Mod.trans m1 m2 (fun _ _ x => x))

theorem RGs.alloc (h : RGs w0 K pb ap base kind s w) (I : Inv (unitN kind) (perN kind) base R W s) (hl : s.ts.length < 549755813000) {Q : Value → World → Prop}
    (q : ∀ w', RGs w0 K pb ap base kind (aloS (unitN kind) (perN kind) base s) w' → Mod (fun j => ¬ K j) w w' → Q (.tuple #[.int .i64 (aloI (unitN kind) (perN kind) base s), .int .i64 (aloE (unitN kind) (perN kind) base s)]) w') :
    CallS Try.prog 21 #[.pointer (some ⟨pb, 0, none⟩)] w Q := by
  constructor
  refine VC.garthref12_Page_Alloc.ok ?_
  unfold VC.garthref12_Page_Alloc
  refine h.fullC fun w1 h1 m1 => ⟨_, rfl, ?_⟩
  have h8 := h1.k8
  by_cases hfull : s.hs.count true = perN kind
  · rw [decide_eq_true hfull]
    obtain ⟨rfl, rfl, hf⟩ := I.full.1 hfull
    rcases I.alo h8.2.1 h8.2.2.1 with ⟨_, _, _, e1, e2, e3⟩ | ⟨k, R', W', _, _, hk, hh, _⟩
    · rw [e1, e2, e3] at q
      exact ifB_true rfl (q w1 h1 m1)
    · have := I.had k hk
      rw [hh] at this
      have := (Option.some.inj this).symm
      exact absurd ⟨by omega, fun x => by cases x⟩ (of_decide_eq_false this)
  rw [decide_eq_false hfull]
  refine ifB_false rfl ?_
  have hI0 := I.fl
  obtain ⟨rc, wc, FA, g1, hn, hkk, hE⟩ := h1
  have hR1 : RGs w0 K pb ap base kind s w1 := ⟨rc, wc, FA, g1, hn, hkk, hE⟩
  refine ⟨_, g1.c36, _, dcell g1.cr rfl, ?_⟩
  by_cases hr : s.hr < 0
  · refine ifD_true hr ⟨_, g1.c37, _, dcell g1.cw rfl, ?_⟩
    have hRn : R = [] := by
      cases R with
      | nil => rfl
      | cons k R => exact absurd hr (by rw [I.hr]; simp [headI, lnk])
    subst hRn
    by_cases hw : 0 ≤ s.hw
    · refine ifD_true hw ?_
      rintro w2 rfl
      have hE2 := Ext.drew w1
      have g2 := g1.keep hE2 (fun _ _ x => x)
      refine ⟨_, g2.c36, _, g2.c37, .of (rctake_any g2.cr g2.cw g2.d.2.2) ?_⟩
      rintro v w3 ⟨rfl, c3, d3, hm3⟩
      rw [if_neg (by omega)] at c3 d3 ⊢
      obtain ⟨x1, x2, x3⟩ := g2.d
      have g3 : RGw w3 pb rc wc ap FA base kind (colS s) := ⟨hm3.keep g2.head (fun x => x.elim x1 x2), g2.ar.keep hm3 (fun j hj x => g2.nF j (x.elim (fun e => .inr (.inl e)) (fun e => .inr (.inr e))) hj), c3, d3, g2.gw, g2.gw.head (head' := -1) (by decide) (by have := g2.gw.p1; omega), g2.k8, g2.hl, g2.fl, g2.d, g2.nF⟩
      obtain ⟨a, b⟩ := RGs.step (K := K) hn (fun j hj => ⟨(hkk j hj).1, Nat.lt_of_lt_of_le (hkk j hj).2 hE2.size⟩) (hE.trans hE2) g3 (hm3.mono fun j hj => .inl (hj.elim (fun e => .inr (.inl e)) (fun e => .inr (.inr e)))) (fun j hj => .inl hj)
      refine ⟨_, rfl, _, g3.c3, _, g3.c36, _, dcell g3.cr rfl, ifD_true hw ?_⟩
      have m3 : Mod (fun j => ¬ K j) w w3 := Mod.trans (Mod.trans m1 hE2 (fun _ _ x => x.elim)) b (fun _ _ x => x)
      have e1 : aloS (unitN kind) (perN kind) base s = outS (unitN kind) (perN kind) base (colS s) := by rw [aloS, if_neg (by omega), if_pos hw]
      have e2 : aloI (unitN kind) (perN kind) base s = outI (unitN kind) (perN kind) base (colS s) := by rw [aloI, if_neg (by omega), if_pos hw]
      have e3 : aloE (unitN kind) (perN kind) base s = outE (unitN kind) (perN kind) base (colS s) := by rw [aloE, if_neg (by omega), if_pos hw]
      rw [e1, e2, e3] at q
      exact RGs.outC a I.col hw hl fun w4 h4 m4 => q w4 h4 (Mod.trans m3 m4 (fun _ _ x => x))
    · have hWn : W = [] := by
        cases W with
        | nil => rfl
        | cons k W => exact absurd (show 0 ≤ s.hw by rw [I.hw]; simp [headI, lnk]) hw
      subst hWn
      have hf : s.f ≠ perN kind := fun x => hfull (I.full.2 ⟨rfl, rfl, x⟩)
      refine ifD_false hw ⟨_, g1.c3, _, g1.c36, _, dcell g1.cr rfl, ifD_false (by omega) ?_⟩
      have e1 : aloS (unitN kind) (perN kind) base s = takS { s with f := s.f + 1 } (s.f : Int) := by rw [aloS, if_neg (by omega), if_neg hw, if_neg hf]
      have e2 : aloI (unitN kind) (perN kind) base s = (s.f : Int) := by rw [aloI, if_neg (by omega), if_neg hw, if_neg hf]
      have e3 : aloE (unitN kind) (perN kind) base s = 0 := by rw [aloE, if_neg (by omega), if_neg hw, if_neg hf]; exact (I.fresh (by omega)).2.1
      rw [e1, e2, e3] at q
      exact RGs.freshC hR1 I (by omega) fun w4 h4 m4 => q w4 h4 (Mod.trans m1 m4 (fun _ _ x => x))
  · refine ifD_false hr ⟨_, g1.c3, _, g1.c36, _, dcell g1.cr rfl, ifD_true (by omega) ?_⟩
    have hr : 0 ≤ s.hr := by omega
    have e1 : aloS (unitN kind) (perN kind) base s = outS (unitN kind) (perN kind) base s := if_pos hr
    have e2 : aloI (unitN kind) (perN kind) base s = outI (unitN kind) (perN kind) base s := if_pos hr
    have e3 : aloE (unitN kind) (perN kind) base s = outE (unitN kind) (perN kind) base s := if_pos hr
    rw [e1, e2, e3] at q
    exact RGs.outC hR1 I hr hl fun w4 h4 m4 => q w4 h4 (Mod.trans m1 m4 (fun _ _ x => x))

end

end Go.Proofs.Ytkbgiflmecaffaa
