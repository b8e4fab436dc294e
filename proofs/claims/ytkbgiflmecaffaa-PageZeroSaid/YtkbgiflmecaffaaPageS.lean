/- Contracts of garthref12: Free, Move, New; the program's Move; had. Conditions: the page is there. -/
import Derived.Test.YtkbgiflmecaffaaPageR
import Derived.Test.YtkbgiflmecaffaaVcQ
set_option linter.unusedVariables false
set_option linter.unusedSimpArgs false
namespace Go.Proofs.Ytkbgiflmecaffaa
open Go.RowKit

section
variable {w0 w w' : World} {K F : Nat → Prop} {pb ap base kind p : Nat} {s : St} {bs : List UInt8} {ts : List Tch} {R W : List Nat}

abbrev fitsP (n : Nat) (b : Int) : Prop := 0 ≤ b ∧ b.tmod 512 = 0 ∧ b ≤ (n : Int) - 512

theorem RGs.freeC (h : RGs w0 K pb ap base kind s w) (hl : s.ts.length < 549755812000) (k : Int) {Q : Value → World → Prop}
    (q : ∀ w', RGs w0 K pb ap base kind (freS (unitN kind) (perN kind) base s k) w' → Mod (fun j => ¬ K j) w w' → Q (.int .i64 (Sf.giveE s.hs k)) w') :
    CallS Try.prog 22 #[.pointer (some ⟨pb, 0, none⟩), .int .i64 k] w Q := by
  constructor
  refine VC.garthref12_Page_Free.ok ?_
  unfold VC.garthref12_Page_Free
  have h8 := h.k8
  have h32 := (class_facts h8.1).2.2.2.1
  have hlen := h8.2.2.2
  have same : Sf.giveE s.hs k ≠ 0 → freS (unitN kind) (perN kind) base s k = s := fun he => by
    unfold freS
    rw [if_neg he]
    unfold givS
    rw [give_bad he]
  have out : ¬ Sf.InS s.hs k → Sf.giveE s.hs k = 12 := fun x => by rw [Sf.giveE, if_neg x]
  refine ifD (fun hneg => ?_) (fun hpos => ?_)
  · have e := out fun x => by have := x.1; omega
    have := q w (by rw [same (by rw [e]; decide)]; exact h) (Mod.refl _ _)
    rw [e] at this
    exact this
  obtain ⟨rc, wc, FA, g, hn, hkk, hE⟩ := h
  refine ⟨_, g.c2, rper_any g.k8 _ fun w1 hE1 => ⟨_, rfl, ?_⟩⟩
  have g1 := g.keep hE1 (fun _ _ x => x)
  have hkk1 : ∀ j, K j → w0.heap.size ≤ j ∧ j < w1.heap.size := fun j hj => ⟨(hkk j hj).1, Nat.lt_of_lt_of_le (hkk j hj).2 hE1.size⟩
  have hR1 : RGs w0 K pb ap base kind s w1 := ⟨rc, wc, FA, g1, hn, hkk1, hE.trans hE1⟩
  refine ifD (fun hge => ?_) (fun hlt => ?_)
  · have e := out fun x => by have := x.2; omega
    have := q w1 (by rw [same (by rw [e]; decide)]; exact hR1) hE1.mod
    rw [e] at this
    exact this
  obtain ⟨n, rfl⟩ := Int.eq_ofNat_of_zero_le (show 0 ≤ k by omega)
  have hnp : n < perN kind := by omega
  have hin : Sf.InS s.hs (n : Int) := ⟨by omega, by omega⟩
  refine ⟨by omega, by omega, _, by rw [Int.toNat_natCast]; exact g1.cH (by omega), ?_⟩
  have hn' : n < s.hs.length := by omega
  have hg := List.getElem?_eq_getElem hn'
  by_cases hb : s.hs[n] = true
  case neg =>
    have hb : s.hs[n] = false := by simpa using hb
    have e : Sf.giveE s.hs (n : Int) = 13 := by rw [Sf.giveE, if_pos hin, Int.toNat_natCast, hg, hb]; rfl
    have := q w1 (by rw [same (by rw [e]; decide)]; exact hR1) hE1.mod
    rw [e] at this
    exact ifB_true (by rw [hg, hb]; rfl) this
  refine ifB_false (by rw [hg, hb]; rfl) ?_
  have e : Sf.giveE s.hs (n : Int) = 0 := by rw [Sf.giveE, if_pos hin, Int.toNat_natCast, hg, hb]; rfl
  have eS : freS (unitN kind) (perN kind) base s (n : Int) = { pusS (unitN kind) (perN kind) base (zerS (unitN kind) base s n) n with hs := s.hs.set n false } := by
    unfold freS
    rw [if_pos e]
    have : Sf.giveH s.hs (n : Int) = s.hs.set n false := by rw [Sf.giveH, if_pos hin, Int.toNat_natCast]
    show ({ pusS (unitN kind) (perN kind) base (zerS (unitN kind) base s n) n with hs := Sf.giveH s.hs (n : Int) } : St) = _
    rw [this]
  rw [e, eS] at q
  rintro w2 rfl
  have hE2 := Ext.drew w1
  have hE12 := hE1.trans hE2
  have g2 := g1.keep hE2 (fun _ _ x => x)
  have hfit := unit_fit g2.gw hnp
  have u8 := g2.gw.u8
  have n21 := g2.gw.n21
  have e2 : IntKind.i64.wrap ((base : Int) + IntKind.i64.wrap ((n : Int) * (unitN kind : Int))) = ((base + n * unitN kind : Nat) : Int) := by
    rw [← Int.natCast_mul, wrap_i64 (n := ((n * unitN kind : Nat) : Int)) (by omega) (by omega), wrap_i64 (by omega) (by omega)]
    omega
  refine ⟨_, g2.c0, _, g2.c1, _, g2.c2, _, g2.c2, runit_any g2.k8 _ fun w3 hE3 => ⟨_, rfl, ?_⟩⟩
  have g3 := g2.keep hE3 (fun _ _ x => x)
  refine ⟨⟨_, g3.c2, rfl⟩, ⟨_, g3.c1, rfl⟩, ⟨_, g3.c0, rfl⟩, runit_any g3.k8 _ fun w4 hE4 => ⟨_, rfl, rfl, rfl, ?_⟩⟩
  have g4 := g3.keep hE4 (fun _ _ x => x)
  have hE14 := (hE12.trans hE3).trans hE4
  refine ⟨⟨_, g4.c1, rfl⟩, ⟨_, g4.c0, rfl⟩, ?_⟩
  rw [e2]
  refine .of (refzero_any g4.ar _ _ (by omega)) ?_
  rintro v w5 ⟨rfl, hp⟩
  have hok : OkA s.bs.length ((base + n * unitN kind : Nat) : Int) (unitN kind : Int) := ⟨by omega, by omega, by omega⟩
  rw [if_pos hok, if_pos hok, noteA, if_pos (by omega), Int.toNat_natCast, Int.toNat_natCast] at hp
  rw [if_pos hok]
  have hzl : (putAt s.bs (base + n * unitN kind) (List.replicate (unitN kind) 0)).length = s.bs.length := putAt_length (by simp; omega)
  obtain ⟨FA5, g5, hm5, hF5⟩ := g4.arp hp hzl
  have hkk4 : ∀ j, K j → w0.heap.size ≤ j ∧ j < w4.heap.size := fun j hj => ⟨(hkk j hj).1, Nat.lt_of_lt_of_le (hkk j hj).2 hE14.size⟩
  obtain ⟨a5, b5⟩ := RGs.step hn hkk4 (hE.trans hE14) g5 hm5 hF5
  refine ⟨_, rfl, ?_⟩
  obtain ⟨rc6, wc6, FA6, g6, hn6, hkk6, hE6⟩ := a5
  have hinC : InC (perN kind) (n : Int) := ⟨by omega, by omega⟩
  have hat := g6.gw.at hnp
  refine ⟨_, g6.c37, .of (rcpush_any g6.ar g6.cw g6.gw (g6.nF _ (.inr (.inr rfl))) (by show (s.ts ++ [_]).length < _; simp; omega) (n : Int)) ?_⟩
  rintro v w7 ⟨rfl, hp7⟩
  rw [pushB, if_pos hinC, pushT, if_pos hinC, pushH, if_pos hinC, Int.toNat_natCast] at hp7
  have hlen7 : (putAt (putAt s.bs (base + n * unitN kind) (List.replicate (unitN kind) 0)) (base + n * unitN kind) (le8 (s.hw + 1).toNat)).length = s.bs.length := by
    rw [putAt_length (by rw [le8_length, hzl]; omega), hzl]
  obtain ⟨FA7, g7, hm7, hF7⟩ := g6.chW hp7 (by show CfgC (putAt (putAt s.bs (base + n * unitN kind) (List.replicate (unitN kind) 0)) (base + n * unitN kind) (le8 (s.hw + 1).toNat)).length _ _ _ _; rw [hlen7]; exact g.gw.head (by omega) (by omega)) (hlen7.trans hzl.symm)
  obtain ⟨a7, b7⟩ := RGs.step hn6 hkk6 hE6 g7 hm7 hF7
  refine ⟨_, rfl, by omega, by omega, ?_⟩
  rw [Int.toNat_natCast]
  exact RGs.mark a7 hnp false fun w8 h8' m8 => q w8 h8' (Mod.trans (Mod.trans (Mod.trans (hE14.mod (F := fun j => ¬ K j)) b5 (fun _ _ x => x)) b7 (fun _ _ x => x)) m8 (fun _ _ x => x))

theorem RGs.moveC (h : RGs w0 K pb ap base kind s w) (b : Int) {Q : Value → World → Prop}
    (q0 : ¬ fitsP s.bs.length b → Q (.int .i64 12) w)
    (q1 : ∀ (nb : Nat) w', b = nb → fitsP s.bs.length b → RGs w0 K pb ap nb kind s w' → Mod (fun j => ¬ K j) w w' → Q (.int .i64 0) w') :
    CallS Try.prog 31 #[.pointer (some ⟨pb, 0, none⟩), .int .i64 b] w Q := by
  constructor
  refine VC.garthref12_Page_Move.ok ?_
  unfold VC.garthref12_Page_Move
  obtain ⟨rc, wc, FA, h, hn, hk, hE⟩ := h
  obtain ⟨c1, c2, c3, c4, c5⟩ := class_facts h.k8
  refine ⟨_, h.c0, .of (rfits_any h.ar b) ?_⟩
  rintro v w1 ⟨rfl, rfl⟩
  by_cases hf : fitsP s.bs.length b
  case neg =>
    rw [decide_eq_false hf]
    exact ⟨_, rfl, ifB_true rfl (q0 hf)⟩
  rw [decide_eq_true hf]
  refine ⟨_, rfl, ifB_false rfl ?_⟩
  obtain ⟨nb, rfl⟩ := Int.eq_ofNat_of_zero_le hf.1
  have hb : nb + 512 ≤ s.bs.length := by have := hf.2.2; omega
  have h32 := h.h32
  obtain ⟨x1, x2, x3⟩ := h.d
  simp only [someA]
  rw [add_mk, Nat.zero_add]
  refine wr_intro (b := pb) (n := 1) h.head (by rw [List.size_toArray, headR_len h32]; omega) fun w2 hd2 hm2 _ => ?_
  have hd2' : w2.heap[pb]? = some (.cells (headR ap nb kind s.f s.hs rc wc).toArray 57 (0, 0)) := by
    rw [hd2]
    congr 2
  have a2 := h.ar.keep hm2 (fun j hj e => h.nF j (.inl e) hj)
  have r2 := h.cr.keep hm2 (fun e => x1 e.symm)
  have v2 := h.cw.keep hm2 (fun e => x2 e.symm)
  have he : moveE s.bs.length (unitN kind) (perN kind) (nb : Int) = 0 := if_pos ⟨by omega, by omega⟩
  refine ⟨_, dcell hd2' (by rw [List.getElem?_toArray]; exact headR_r h32), .of (rcmove_any a2 r2 h.gr (h.nF _ (.inr (.inl rfl))) _) ?_⟩
  rintro v w3 ⟨rfl, FA3, a3, r3, m3, f3⟩
  rw [if_pos he, Int.toNat_natCast] at r3
  have lt2 : ∀ j, j < w1.heap.size → j < w2.heap.size := fun j hj => Nat.lt_of_lt_of_le hj hm2.size
  have nF3 : ∀ j, ownR pb rc wc j → ¬ FA3 j := fun j hj x => (f3 j x).elim (h.nF j hj) (fun y => by have := lt2 j (h.lt j (.inl hj)); omega)
  have k3 : ∀ j, ownR pb rc wc j → j ≠ rc → ¬ (FA j ∨ j = rc) := fun j hj hne x => x.elim (h.nF j hj) hne
  have hd3 := m3.keep hd2' (k3 _ (.inl rfl) x1)
  have v3 := v2.keep m3 (k3 _ (.inr (.inr rfl)) x3.symm)
  refine ⟨_, rfl, _, dcell hd3 (by rw [List.getElem?_toArray]; exact headR_w h32), .of (rcmove_any a3 v3 h.gw (nF3 _ (.inr (.inr rfl))) _) ?_⟩
  rintro v w4 ⟨rfl, FA4, a4, v4, m4, f4⟩
  rw [if_pos he, Int.toNat_natCast] at v4
  have lt3 : ∀ j, j < w1.heap.size → j < w3.heap.size := fun j hj => Nat.lt_of_lt_of_le (lt2 j hj) m3.size
  have k4 : ∀ j, ownR pb rc wc j → j ≠ wc → ¬ (FA3 j ∨ j = wc) := fun j hj hne x => x.elim (nF3 j hj) hne
  have g1 : CfgC s.bs.length nb (unitN kind) (perN kind) s.hr := ⟨c1, c2, c3, by omega, by omega, h.gr.n21, h.gr.h0, h.gr.h1⟩
  have g2 : CfgC s.bs.length nb (unitN kind) (perN kind) s.hw := ⟨c1, c2, c3, by omega, by omega, h.gw.n21, h.gw.h0, h.gw.h1⟩
  have h4 : RGw w4 pb rc wc ap FA4 nb kind s := ⟨m4.keep hd3 (k4 _ (.inl rfl) x2), a4, r3.keep m4 (k4 _ (.inr (.inl rfl)) x3), v4, g1, g2, h.k8, h.hl, h.fl, ⟨x1, x2, x3⟩,
    fun j hj x => (f4 j x).elim (nF3 j hj) (fun y => by have := lt3 j (h.lt j (.inl hj)); omega)⟩
  have hmod : Mod (fun j => ownR pb rc wc j ∨ FA j) w1 w4 := by
    refine Mod.trans (Mod.trans (hm2.mono fun j e => .inl (.inl e)) m3 (fun j hj x => ?_)) m4 (fun j hj x => ?_)
    · exact x.elim .inr (fun e => .inl (.inr (.inl e)))
    · rcases x with x | e
      · exact (f3 j x).elim .inr (fun y => by have := lt2 j hj; omega)
      · exact .inl (.inr (.inr e))
  have hF : ∀ j, FA4 j → FA j ∨ w1.heap.size ≤ j := fun j x => (f4 j x).elim (fun y => (f3 j y).elim .inl (fun z => .inr (Nat.le_trans hm2.size z))) (fun z => .inr (Nat.le_trans hm2.size (Nat.le_trans m3.size z)))
  refine ⟨_, rfl, ?_⟩
  obtain ⟨a, b⟩ := RGs.step hn hk hE h4 hmod hF
  exact q1 nb w4 rfl hf a b

theorem rcnew_ok (h : Ar w 61 p F bs ts) {kind base : Nat} (hk : kind < 8) (hb : base + 512 ≤ bs.length) {Q : Value → World → Prop}
    (q : ∀ cb w', CH w' 88 cb p base (unitN kind) (perN kind) (-1) → CfgC bs.length base (unitN kind) (perN kind) (-1) → Ext w w' → w.heap.size ≤ cb → cb < w'.heap.size → Q (.tuple #[.pointer (some ⟨cb, 0, none⟩), .int .i64 0]) w') :
    CallS Try.prog 54 #[.pointer (some ⟨p, 0, none⟩), .int .i64 (base : Int), .int .i64 (unitN kind : Int), .int .i64 (perN kind : Int)] w Q := by
  obtain ⟨c1, c2, c3, c4, c5⟩ := class_facts hk
  refine .of (rcnew_any h _ _ _) ?_
  rintro v w1 (⟨x, _, _⟩ | ⟨cb, base', unit, per, e1, e2, e3, rfl, c, g, hE, hs⟩)
  · rw [← Int.natCast_mul] at x
    exact absurd ⟨by omega, by omega, by omega, by omega, by omega, by omega⟩ x
  · have e1 : base' = base := by omega
    have e2 : unit = unitN kind := by omega
    have e3 : per = perN kind := by omega
    subst e1 e2 e3
    exact q cb w1 c g hE hs (lt_of_blk c)

theorem rpnew_any (h : Ar w 61 p F bs ts) (hn : ∀ j, F j → w0.heap.size ≤ j ∧ ¬ K j) (hK : ∀ j, K j → w0.heap.size ≤ j ∧ j < w.heap.size) (hE : Ext w0 w) (b kd : Int) {Q : Value → World → Prop}
    (q0 : ¬ ((0 ≤ kd ∧ kd < 8) ∧ 0 ≤ b ∧ b.tmod 512 = 0 ∧ b ≤ (bs.length : Int) - 512) → Q (.tuple #[.pointer none, .int .i64 12]) w)
    (q1 : ∀ (base kind pb : Nat) w', kd = kind → kind < 8 → b = base → base + 512 ≤ bs.length → b.tmod 512 = 0 → RGs w0 K pb p base kind (newSt kind bs ts) w' → Ext w w' → Q (.tuple #[.pointer (some ⟨pb, 0, none⟩), .int .i64 0]) w') :
    CallS Try.prog 19 #[.pointer (some ⟨p, 0, none⟩), .int .i64 b, .int .i64 kd] w Q := by
  constructor
  refine VC.garthref12_New.ok ?_
  unfold VC.garthref12_New
  refine ifD (fun x => q0 fun y => by omega) (fun hk0 => ifD (fun x => q0 fun y => by omega) (fun hk7 => .of (rfits_any h b) ?_))
  rintro v w1 ⟨rfl, rfl⟩
  by_cases hl : 0 ≤ b ∧ b.tmod 512 = 0 ∧ b ≤ (bs.length : Int) - 512
  case neg =>
    rw [decide_eq_false hl]
    exact ⟨_, rfl, ifB_true rfl (q0 fun x => hl x.2)⟩
  rw [decide_eq_true hl]
  refine ⟨_, rfl, ifB_false rfl ?_⟩
  obtain ⟨kind, rfl⟩ := Int.eq_ofNat_of_zero_le (show 0 ≤ kd by omega)
  have hk8 : kind < 8 := by omega
  obtain ⟨base, rfl⟩ := Int.eq_ofNat_of_zero_le hl.1
  have hb5 : base + 512 ≤ bs.length := by omega
  obtain ⟨c1, c2, c3, c4, c5⟩ := class_facts hk8
  refine al_intro fun pb w2 hd2 hE2 hs2 hs2' => runit_any hk8 _ fun w3 hE3 => ⟨_, rfl, rper_any hk8 _ fun w4 hE4 => ⟨_, rfl, ?_⟩⟩
  have hE14 := (hE2.trans hE3).trans hE4
  have hd4 := hE4.keep (hE3.keep hd2)
  refine rcnew_ok (h.ext hE14) hk8 hb5 fun rc w5 cr gr hE5 hs5 hs5' => ⟨_, _, rfl, ?_⟩
  have hd5 := hE5.keep hd4
  rw [add_mk]
  refine wr_intro (b := pb) (n := 1) hd5 (by simp) fun w6 hd6 hm6 hs6 => runit_any hk8 _ fun w7 hE7 => ⟨_, rfl, rper_any hk8 _ fun w8 hE8 => ⟨_, rfl, ?_⟩⟩
  have hE15 := hE14.trans hE5
  have hE16 : Ext w1 w6 := hE15.new hm6 (fun k e => by subst e; omega)
  have hE18 := (hE16.trans hE7).trans hE8
  have hd8 := hE8.keep (hE7.keep hd6)
  have z2 := hE2.size
  have z14 := (hE3.trans hE4).size
  have cr8 : CH w8 88 rc p base (unitN kind) (perN kind) (-1) := hE8.keep (hE7.keep (hm6.keep cr (fun e => by omega)))
  refine rcnew_ok (h.ext hE18) hk8 hb5 fun wc w9 cw gw hE9 hs9 hs9' => ⟨_, _, rfl, ?_⟩
  have hd9 := hE9.keep hd8
  have cr9 : CH w9 88 rc p base (unitN kind) (perN kind) (-1) := hE9.keep cr8
  refine wr_intro (b := pb) (n := 1) hd9 (by simp [setAt]) fun w10 hd10 hm10 hs10 => ?_
  have z18 := (hE7.trans hE8).size
  have z6 := hm6.size
  have z9 := hE9.size
  have hA : Ext w1 w10 := (hE18.trans hE9).new hm10 (fun k e => by subst e; omega)
  have ehd : setAt (setAt #[Value.pointer (some ⟨p, 0, none⟩), .int .i64 (base : Int), .int .i64 (kind : Int), .int .i64 0, .bool false, .bool false, .bool false, .bool false, .bool false, .bool false, .bool false, .bool false, .bool false, .bool false, .bool false, .bool false, .bool false, .bool false, .bool false, .bool false, .bool false, .bool false, .bool false, .bool false, .bool false, .bool false, .bool false, .bool false, .bool false, .bool false, .bool false, .bool false, .bool false, .bool false, .bool false, .bool false, .pointer none, .pointer none] (0 + 36) [Value.pointer (some ⟨rc, 0, none⟩)]) (0 + 37) [Value.pointer (some ⟨wc, 0, none⟩)] = (headR p base kind 0 (List.replicate (perN kind) false) rc wc).toArray := by
    have : padH (List.replicate (perN kind) false) = List.replicate 32 false := by
      unfold padH
      rw [List.length_replicate, List.replicate_append_replicate, show perN kind + (32 - perN kind) = 32 by omega]
    simp only [setAt]
    apply Array.ext'
    unfold headR
    rw [this]
    rfl
  rw [ehd] at hd10
  have cr10 : CH w10 88 rc p base (unitN kind) (perN kind) (-1) := hm10.keep cr9 (fun e => by omega)
  have cw10 : CH w10 88 wc p base (unitN kind) (perN kind) (-1) := hm10.keep cw (fun e => by omega)
  have hown : ∀ j, ownR pb rc wc j → w1.heap.size ≤ j := by
    rintro j (rfl | rfl | rfl)
    all_goals omega
  refine q1 base kind pb w10 rfl hk8 rfl hb5 hl.2.1 ⟨rc, wc, F, ⟨hd10, h.ext hA, cr10, cw10, gr, gw, hk8, List.length_replicate, Nat.zero_le _, ⟨by omega, by omega, by omega⟩, fun j hj x => ?_⟩, fun j hj => ?_, fun j hj => ⟨(hK j hj).1, Nat.lt_of_lt_of_le (hK j hj).2 hA.size⟩, hE.trans hA⟩ hA
  · have := hown j hj
    have := h.lt j x
    omega
  · rcases hj with hj | hj
    · have := hown j hj
      have := hE.size
      exact ⟨by omega, fun q => by have := (hK j q).2; omega⟩
    · exact hn j hj

/-- had: some number. -/
theorem RGs.hadC (h : RGs w0 K pb ap base kind s w) (k : Int) {Q : Value → World → Prop} (q : ∀ i w', Ext w w' → Q (.int .i64 i) w') :
    CallS Try.prog 20 #[.pointer (some ⟨pb, 0, none⟩), .int .i64 k] w Q := by
  constructor
  refine VC.garthlaw12_had.ok ?_
  unfold VC.garthlaw12_had
  obtain ⟨rc, wc, FA, h, hn, hkk, hE⟩ := h
  have h32 := h.h32
  refine ⟨fun n p l c i w1 => ∃ (j : Nat) (L : List Int), i = (j : Int) ∧ n + j = 32 ∧ l = L.length ∧ L.length ≤ j ∧ ORow w1 3 1 intF (.slice p L.length c) L ∧ Ext w w1 ∧ ∀ b, (Value.slice p L.length c).ownBlock = some b → w.heap.size ≤ b, ⟨32, 0, [], rfl, rfl, rfl, Nat.le_refl _, ORow.nil _ _, Mod.refl _ _, fun b hb => by simp [Value.ownBlock] at hb⟩, ?_⟩
  rintro n jv pp l c i w1 ⟨j, L, rfl, hn, rfl, hL, row, hE1, hown⟩
  have e1 : IntKind.i64.wrap ((j : Int) + 1) = ((j + 1 : Nat) : Int) := by rw [wrap_i64 (by omega) (by omega)]; omega
  rw [e1]
  refine ifD (fun hj => ⟨by omega, by omega, _, by rw [Int.toNat_natCast]; exact (h.keep hE1 (fun _ _ x => x)).cH (by omega), ifB_intro (fun _ => ?_) (fun _ => ?_)⟩) (fun hj => ?_)
  · refine al_intro fun b w2 hb hE2 hs2 _ => ?_
    have row2 := row.keep hE2 (fun _ _ x => x)
    obtain ⟨p', c', w3, hr, row3, hm3, hown3⟩ := row2.push elemI intF_len intF_one 82 ⟨b, 0, none⟩ 1 (j : Int) (cells_all hb) (by simp only [maxLen]; omega) (by omega)
    refine ⟨p', _, c', w3, hr, n - 1, by omega, j + 1, L ++ [(j : Int)], rfl, by omega, by simp, by simp; omega, ?_, (hE1.trans hE2).new hm3 (fun k hk => hown k hk), fun b' hb' => ?_⟩
    · rw [List.length_append]; exact row3
    · rw [List.length_append] at hb'
      rcases hown3 b' hb' with z | z
      · exact hown b' z
      · have := hE1.size; have := hE2.size; omega
  · exact ⟨n - 1, by omega, j + 1, L, rfl, by omega, rfl, by omega, row, hE1, hown⟩
  · refine ifB_intro (fun h0 => q _ w1 hE1) (fun h0 => ?_)
    have hpos : 0 < L.length := by
      have : ¬ ((L.length : Int) = 0) := by simpa using h0
      omega
    have hw1 : IntKind.u64.wrap (L.length : Int) = (L.length : Int) := wrap_u64 (by omega) (by omega)
    obtain ⟨m, hm, hml⟩ := size_mod k L.length hpos (by omega)
    rw [hw1, hm]
    obtain ⟨y, hy⟩ : ∃ y, L[m]? = some y := ⟨_, List.getElem?_eq_getElem hml⟩
    obtain ⟨a, rfl, hc⟩ := row.cells intF_len hy
    refine ⟨by omega, by omega, by omega, y, ?_, q y w1 hE1⟩
    have := hc 0 _ rfl
    rw [Nat.mul_one, Addr.add_add] at this
    rw [Int.toNat_natCast]
    exact this

/-- Move to a place that may not be. -/
theorem PGs.moveN (h : PGs w0 K pb ap base kind s w) (b : Int) (hf : ¬ fitsP s.bs.length b) {Q : Value → World → Prop} (q : Q (.int .i64 12) w) :
    CallS Try.prog 30 #[.pointer (some ⟨pb, 0, none⟩), .int .i64 b] w Q := by
  obtain ⟨rc, wc, sb, sg, FA, h, hn, hk, hE⟩ := h
  constructor
  refine VC.page_Page_Move.ok ?_
  unfold VC.page_Page_Move
  refine ifB_false rfl ⟨_, dcell h.head rfl, .of (plies_any h.ar _) ?_⟩
  rintro v w1 ⟨rfl, rfl⟩
  rw [decide_eq_false hf]
  exact ⟨_, rfl, ifB_true rfl q⟩

end

end Go.Proofs.Ytkbgiflmecaffaa
