/- Page: Move to a place that fits. Conditions: the page is there. -/
import Derived.Test.YtkbgiflmecaffaaPageN
set_option linter.unusedVariables false
set_option linter.unusedSimpArgs false
namespace Go.Proofs.Ytkbgiflmecaffaa
open Go.RowKit

section
variable {w0 w w' : World} {K K' : Nat → Prop} {kind pb ap base qb aq base' : Nat} {s t : St}

theorem PGs.stepB {rc wc sb sg base1 : Nat} {FA FA' : Nat → Prop} {s' : St} (hn : ∀ j, ownP pb rc wc sb sg j ∨ FA j → w0.heap.size ≤ j ∧ ¬ K j) (hk : ∀ j, K j → w0.heap.size ≤ j ∧ j < w.heap.size) (hE : Ext w0 w)
    (h' : PGw w' pb rc wc ap sb sg FA' base1 kind s') (hm : Mod (fun j => ownP pb rc wc sb sg j ∨ FA j) w w') (hF : ∀ j, FA' j → FA j ∨ w.heap.size ≤ j) : PGs w0 K pb ap base1 kind s' w' ∧ Mod (fun j => ¬ K j) w w' := by
  refine ⟨⟨rc, wc, sb, sg, FA', h', fun j hj => ?_, fun j hj => ⟨(hk j hj).1, Nat.lt_of_lt_of_le (hk j hj).2 hm.size⟩, hE.new hm (fun j hj => (hn j hj).1)⟩, hm.mono fun j hj => (hn j hj).2⟩
  rcases hj with hj | hj
  · exact hn j (.inl hj)
  · rcases hF j hj with z | z
    · exact hn j (.inr z)
    · exact ⟨Nat.le_trans hE.size z, fun q => by have := (hk j q).2; omega⟩

theorem PGs.moveC (h : PGs w0 K pb ap base kind s w) (nb : Nat) (hm512 : (nb : Int).tmod 512 = 0) (hb : nb + 512 ≤ s.bs.length) {R : Value → World → Prop}
    (r : ∀ w', PGs w0 K pb ap nb kind s w' → Mod (fun j => ¬ K j) w w' → R (.int .i64 0) w') : CallS Try.prog 30 #[.pointer (some ⟨pb, 0, none⟩), .int .i64 (nb : Int)] w R := by
  obtain ⟨rc, wc, sb, sg, FA, h, hn, hk, hE⟩ := h
  obtain ⟨c1, c2, c3, c4, c5⟩ := class_facts h.k8
  constructor
  refine VC.page_Page_Move.ok ?_
  unfold VC.page_Page_Move
  refine ifB_false rfl ⟨_, dcell h.head rfl, .of (plies_any h.ar _) ?_⟩
  rintro v w1 ⟨rfl, rfl⟩
  rw [decide_eq_true ⟨by omega, hm512, by omega⟩]
  refine ⟨_, rfl, ifB_false rfl ?_⟩
  simp only [someA, add_mk]
  refine wr_intro (b := pb) (n := 1) h.head (by simp) fun w2 hd2 hm2 _ => ⟨VC.page_shards_move.ok ?_⟩
  unfold VC.page_shards_move
  obtain ⟨x1, x2, x3, x4, x5, x6, x7, x8, x9⟩ := h.d
  have nFp : ∀ j, FA j → j ≠ pb := fun j hj e => h.nF j (.inl e) hj
  have a2 := h.ar.keep hm2 (fun j hj e => nFp j hj e)
  have r2 := h.cr.keep hm2 (fun e => x1 e.symm)
  have v2 := h.cw.keep hm2 (fun e => x2 e.symm)
  have s2 := h.sh.keep hm2 (fun j hj e => by
    rcases hj with rfl | rfl
    · exact x3 e.symm
    · exact x4 e.symm)
  have he : moveE s.bs.length (unitN kind) (perN kind) (nb : Int) = 0 := if_pos ⟨by omega, by omega⟩
  refine ⟨_, dcell hd2 rfl, .of (move_any a2 r2 h.gr (h.nF _ (.inr (.inl rfl))) _) ?_⟩
  rintro v w3 ⟨rfl, FA3, a3, r3, m3, f3⟩
  rw [if_pos he, Int.toNat_natCast] at r3
  have lt2 : ∀ j, j < w1.heap.size → j < w2.heap.size := fun j hj => Nat.lt_of_lt_of_le hj hm2.size
  have nF3 : ∀ j, ownP pb rc wc sb sg j → ¬ FA3 j := fun j hj x => (f3 j x).elim (h.nF j hj) (fun y => by have := lt2 j (h.lt j (.inl hj)); omega)
  have k3 : ∀ j, ownP pb rc wc sb sg j → j ≠ rc → ¬ (FA j ∨ j = rc) := fun j hj hne x => x.elim (h.nF j hj) hne
  have hd3 := m3.keep hd2 (k3 _ (.inl rfl) x1)
  have v3 := v2.keep m3 (k3 _ (.inr (.inr (.inl rfl))) x5.symm)
  have s3 := s2.keep m3 (fun j hj => by
    rcases hj with rfl | rfl
    · exact k3 _ (.inr (.inr (.inr (.inl rfl)))) x6.symm
    · exact k3 _ (.inr (.inr (.inr (.inr rfl)))) x7.symm)
  refine ⟨_, rfl, _, dcell hd3 rfl, .of (move_any a3 v3 h.gw (nF3 _ (.inr (.inr (.inl rfl)))) _) ?_⟩
  rintro v w4 ⟨rfl, FA4, a4, v4, m4, f4⟩
  rw [if_pos he, Int.toNat_natCast] at v4
  have lt3 : ∀ j, j < w1.heap.size → j < w3.heap.size := fun j hj => Nat.lt_of_lt_of_le (lt2 j hj) m3.size
  have k4 : ∀ j, ownP pb rc wc sb sg j → j ≠ wc → ¬ (FA3 j ∨ j = wc) := fun j hj hne x => x.elim (nF3 j hj) hne
  have g1 : CfgC s.bs.length nb (unitN kind) (perN kind) s.hr := ⟨c1, c2, c3, by omega, by omega, h.gr.n21, h.gr.h0, h.gr.h1⟩
  have g2 : CfgC s.bs.length nb (unitN kind) (perN kind) s.hw := ⟨c1, c2, c3, by omega, by omega, h.gw.n21, h.gw.h0, h.gw.h1⟩
  have h4 : PGw w4 pb rc wc ap sb sg FA4 nb kind s := ⟨m4.keep hd3 (k4 _ (.inl rfl) x2), a4, r3.keep m4 (k4 _ (.inr (.inl rfl)) x5), v4, s3.keep m4 (fun j hj => by
    rcases hj with rfl | rfl
    · exact k4 _ (.inr (.inr (.inr (.inl rfl)))) x8.symm
    · exact k4 _ (.inr (.inr (.inr (.inr rfl)))) x9.symm), g1, g2, h.k8, h.hl, h.fl, ⟨x1, x2, x3, x4, x5, x6, x7, x8, x9⟩,
    fun j hj x => (f4 j x).elim (nF3 j hj) (fun y => by have := lt3 j (h.lt j (.inl hj)); omega)⟩
  have hmod : Mod (fun j => ownP pb rc wc sb sg j ∨ FA j) w1 w4 := by
    refine Mod.trans (Mod.trans (hm2.mono fun j e => .inl (.inl e)) m3 (fun j hj x => ?_)) m4 (fun j hj x => ?_)
    · exact x.elim .inr (fun e => .inl (.inr (.inl e)))
    · rcases x with x | e
      · exact (f3 j x).elim .inr (fun y => by have := lt2 j hj; omega)
      · exact .inl (.inr (.inr (.inl e)))
  have hF : ∀ j, FA4 j → FA j ∨ w1.heap.size ≤ j := fun j x => (f4 j x).elim (fun y => (f3 j y).elim .inl (fun z => .inr (Nat.le_trans hm2.size z))) (fun z => .inr (Nat.le_trans hm2.size (Nat.le_trans m3.size z)))
  refine ⟨_, rfl, rfl, ?_⟩
  obtain ⟨a, b⟩ := PGs.stepB hn hk hE h4 hmod hF
  exact r w4 a b

theorem Two.move1 (h : Two w0 K kind pb ap base s qb aq base' t w) (nb : Nat) (hm512 : (nb : Int).tmod 512 = 0) (hb : nb + 512 ≤ s.bs.length) {R : Value → World → Prop}
    (r : ∀ w', Two w0 K kind pb ap nb s qb aq base' t w' → Mod (fun j => ¬ K j) w w' → R (.int .i64 0) w') : CallS Try.prog 30 #[.pointer (some ⟨pb, 0, none⟩), .int .i64 (nb : Int)] w R := by
  obtain ⟨K1, h1, hs, back⟩ := h.left
  exact h1.moveC nb hm512 hb fun w1 a m => r w1 (back _ _ _ a m) (m.mono fun j x y => x (hs j y))

end

end Go.Proofs.Ytkbgiflmecaffaa
