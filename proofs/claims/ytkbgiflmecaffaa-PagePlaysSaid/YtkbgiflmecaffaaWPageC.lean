/- Statements of layer 12 (page): PagePlays. Conditions: the arguments' cells are there. -/
import Derived.Test.YtkbgiflmecaffaaPageT
import Derived.Test.YtkbgiflmecaffaaVcP
import Derived.Test.YtkbgiflmecaffaaSpanSame
set_option linter.unusedVariables false
set_option linter.unusedSimpArgs false
namespace Go.Proofs.Ytkbgiflmecaffaa
open Go.RowKit

/-- The page, the reference's page and block b (a call), at a place of the script. -/
def Play (w0 : World) (K : Nat → Prop) (kind pb ap qb aq base n t : Nat) (w : World) : Prop :=
  ∃ s R W, Bo w0 K kind pb ap base s qb aq base s w ∧ Inv (unitN kind) (perN kind) base R W s ∧ s.ts.length ≤ t ∧ s.bs.length = n

theorem Play.ext {w0 w w' : World} {K : Nat → Prop} {kind pb ap qb aq base n t : Nat} (h : Play w0 K kind pb ap qb aq base n t w) (hm : Mod K w w') : Play w0 K kind pb ap qb aq base n t w' := by
  obtain ⟨s, R, W, h, I, h1, h2⟩ := h
  exact ⟨s, R, W, h.mod hm, I, h1, h2⟩

theorem op_cells {w : World} {b : Nat} {Tc : TypeId} {k y : Int} (h : w.heap[b]? = some (.cells #[.int .i64 k, .int .i64 y] Tc (0, 0))) :
    w.cell? ((Addr.mk b 0 none).add 0) = some (.int .i64 k) ∧ w.cell? ((Addr.mk b 0 none).add 1) = some (.int .i64 y) := by
  constructor <;> rw [add_mk] <;> exact cell_blk h rfl

set_option maxRecDepth 20000 in
theorem walk_PagePlays (w : World) (x0 : Int) (_ : -9223372036854775808 ≤ x0 ∧ x0 ≤ 9223372036854775807) (x1 : Int) (_ : -9223372036854775808 ≤ x1 ∧ x1 ≤ 9223372036854775807) (x2 : Int) (_ : -9223372036854775808 ≤ x2 ∧ x2 ≤ 9223372036854775807) (x : OpsSh.T) (ok : OpsSh.Ok w x) :
    Calls Try.prog 4 #[.int .i64 x0, .int .i64 x1, .int .i64 x2, OpsSh.val x] w (Ret (Yes w)) := by
  have hrow := ops_row ok
  obtain ⟨⟨pa, cap⟩, l⟩ := x
  obtain ⟨size, hs, hsz⟩ := size_mod x0 4096 (by decide) (by decide)
  have hs : IntKind.i64.wrap ((IntKind.u64.wrap x0).tmod 4096) = (size : Int) := hs
  refine VC.garthlaw12_PagePlays.ok ?_
  unfold VC.garthlaw12_PagePlays
  rw [hs]
  refine ⟨by decide, .of (new_any (size : Int) w) ?_⟩
  rintro v w1 (⟨q, _, _⟩ | ⟨_, _, ap, FA, rfl, hA, hE1, hF⟩)
  · exact absurd ⟨by omega, by omega⟩ q
  refine ⟨_, _, rfl, .of (refnew_any (size : Int) w1) ?_⟩
  rintro v w2 (⟨q, _, _⟩ | ⟨_, _, aq, GA, rfl, hB, hE2, hG⟩)
  · exact absurd ⟨by omega, by omega⟩ q
  rw [Int.toNat_natCast] at hA hB
  have hlA : (List.replicate size (0 : UInt8)).length = size := List.length_replicate
  have hE12 := hE1.trans hE2
  have hAlt := hA.lt
  have hBlt := hB.lt
  have z1 := hE1.size
  have z2 := hE2.size
  refine ⟨_, _, rfl, pnew_any (w0 := w) (K := GA) (hA.ext hE2) (fun j hj => ⟨hF j hj, fun x => by have := hAlt j hj; have := hG j x; omega⟩) (fun j hj => ⟨by have := hG j hj; omega, hBlt j hj⟩) hE12 x1 x2 (fun hbad => ?_) (fun base kind pb w3 e1 hk8 e2 hb ht h3 hE3 => ?_)⟩
  · refine ⟨_, _, rfl, rpnew_any (w0 := w) (K := fun _ => False) hB (fun j hj => ⟨by have := hG j hj; omega, fun x => x⟩) (fun j x => x.elim) hE12 x1 x2 (fun _ => ?_) (fun base kind pb w3 e1 hk8 e2 hb ht h3 hE3 => absurd ⟨⟨by omega, by omega⟩, by omega, ht, by omega⟩ hbad)⟩
    refine ⟨_, _, rfl, awake_any w2 fun w4 hE4 => ⟨_, rfl, ifB_false rfl (ifB_false rfl (ifB_false rfl ⟨fun _ => False, ifB_true rfl ⟨rfl, hE12.trans hE4⟩, fun jv w5 x => x.elim⟩))⟩⟩
  subst e1 e2
  obtain ⟨rc, wc, sb, sg, FA3, g3, hn3, hk3, hE03⟩ := h3
  have g3lt := g3.lt
  have z3 := hE3.size
  refine ⟨_, _, rfl, rpnew_any (w0 := w) (K := fun j => ownP pb rc wc sb sg j ∨ FA3 j) (hB.ext hE3) (fun j hj => ⟨by have := hG j hj; omega, fun x => (hn3 j x).2 hj⟩) (fun j hj => ⟨(hn3 j hj).1, g3lt j hj⟩) (hE12.trans hE3) base kind (fun hbad => absurd ⟨⟨by omega, by omega⟩, by omega, ht, by omega⟩ hbad) (fun base' kind' qb w4 e1 _ e2 _ _ h4 hE4 => ?_)⟩
  have e1 : kind' = kind := by omega
  have e2 : base' = base := by omega
  subst e1 e2
  obtain ⟨rd, wd, GA4, g4, hn4, hk4, hE04⟩ := h4
  have h0 : Bo w (fun _ => False) kind' pb ap base' (newSt kind' (List.replicate size 0) []) qb aq base' (newSt kind' (List.replicate size 0) []) w4 :=
    ⟨rc, wc, sb, sg, FA3, rd, wd, GA4, g3.keep hE4 (fun _ _ x => x), g4, fun j hj => ⟨(hn3 j hj).1, fun x => x, fun x => (hn4 j x).2 hj⟩, fun j hj => ⟨(hn4 j hj).1, fun x => x⟩, fun j x => x.elim, hE04⟩
  refine ⟨_, _, rfl, awake_any w4 fun w5 hE5 => ⟨_, rfl, ifB_false rfl (ifB_false rfl (ifB_false rfl ?_))⟩⟩
  have h5 : Play w (fun _ => False) kind' pb ap qb aq base' size 0 w5 := ⟨_, [], [], h0.mod hE5, Inv.init kind' base' _ _, Nat.le_refl _, List.length_replicate⟩
  refine ⟨fun w6 => l.length ≤ 400 ∧ Play w (fun _ => False) kind' pb ap qb aq base' size 0 w6, ifB_false rfl (ifD (fun _ => ⟨rfl, h0.ext.trans hE5⟩) (fun q => ⟨?_, h5⟩)), ?_⟩
  · have q : ¬ (l.length : Int) > 400 := q
    omega
  clear h0 h5 hE5 g4 hn4 hk4 hE04 hE4 g3 hn3 hk3 hE03 g3lt
  rintro jv w6 ⟨hmax, h6⟩
  refine ⟨fun w7 => Play w (fun _ => False) kind' pb ap qb aq base' size 800 w7, ⟨fun n i w7 => ∃ j : Nat, i = (j : Int) ∧ n + j = l.length ∧ Play w (fun _ => False) kind' pb ap qb aq base' size (2 * j) w7, ⟨l.length, 0, rfl, rfl, h6⟩, ?_⟩, ?_⟩
  · rintro n jv i w7 ⟨j, rfl, hn, s, R, W, hB, I, hts, hbl⟩
    refine ifD (fun hj => ⟨by omega, by omega, ?_⟩) (fun hj => ⟨s, R, W, hB, I, by omega, hbl⟩)
    have hj : j < l.length := by have hj : (j : Int) < (l.length : Int) := hj; omega
    obtain ⟨y, hy⟩ : ∃ y, l[j]? = some y := ⟨_, List.getElem?_eq_getElem hj⟩
    rw [Int.toNat_natCast]
    refine (hrow.ext hB.ext).pair hy (al_intro fun b w8 hb8 hE8 hs8 hs8' => ?_)
    refine wr_intro (n := 2) hb8 (by simp) fun w9 hb9 hm9 hs9 => ?_
    have hE9 : Ext w7 w9 := hE8.new hm9 (fun k hk => by subst hk; omega)
    have h9 := (hB.grow hE9 (B := (· = b)) (fun k hk => by subst hk; omega)).weak (K' := (· = b)) (fun k hk => .inr hk)
    have hc9 : w9.heap[b]? = some (.cells #[.int .i64 (opF y).1, .int .i64 (opF y).2] 35 (0, 0)) := hb9
    refine ⟨fun w10 => ∃ k z : Int, w10.heap[b]? = some (.cells #[.int .i64 k, .int .i64 z] 35 (0, 0)) ∧ Bo w (· = b) kind' pb ap base' s qb aq base' s w10, ?_, ?_⟩
    · obtain ⟨c0, c1⟩ := op_cells hc9
      refine ⟨_, c0, ifB_intro (fun _ => ⟨_, c1, ?_⟩) (fun _ => ⟨_, _, hc9, h9⟩)⟩
      obtain ⟨K2, hR, hs2, back⟩ := h9.right
      refine hR.hadC _ fun i w10 hE10 => ⟨_, rfl, ?_⟩
      have hc10 := hE10.keep hc9
      have h10 := h9.mod hE10.mod
      rw [add_mk, add_mk]
      refine wr_intro (n := 1) hc10 (by simp) fun w11 hc11 hm11 _ => ?_
      refine wr_intro (n := 1) hc11 (by simp [setAt]) fun w12 hc12 hm12 _ => ⟨_, _, hc12, (h10.mod hm11).mod hm12⟩
    rintro jv w10 ⟨k, z, hc10, h10⟩
    obtain ⟨c0, c1⟩ := op_cells hc10
    refine ⟨fun e f m n w11 => e = f ∧ m = n ∧ ∃ s1 R1 W1, w11.heap[b]? = some (.cells #[.int .i64 k, .int .i64 z] 35 (0, 0)) ∧ Bo w (· = b) kind' pb ap base' s1 qb aq base' s1 w11 ∧ Inv (unitN kind') (perN kind') base' R1 W1 s1 ∧ s1.ts.length ≤ 2 * j + 2 ∧ s1.bs.length = size, ⟨_, c0, ?_⟩, ?_⟩
    · obtain ⟨f1, f2, f3, f4⟩ := h10.facts
      refine ifB_intro (fun _ => ?_) (fun _ => ifB_intro (fun _ => ?_) (fun _ => ⟨rfl, rfl, s, R, W, hc10, h10, I, by omega, hbl⟩))
      · refine .of (CallS.h (h10.allocs I (by omega) (Q := fun v w49 => v = .tuple #[.int .i64 (aloI (unitN kind') (perN kind') base' s), .int .i64 (aloE (unitN kind') (perN kind') base' s)] ∧ w49.heap[b]? = some (.cells #[.int .i64 k, .int .i64 z] 35 (0, 0)) ∧ ∃ R1 W1, Bo w (· = b) kind' pb ap base' (aloS (unitN kind') (perN kind') base' s) qb aq base' (aloS (unitN kind') (perN kind') base' s) w49 ∧ Inv (unitN kind') (perN kind') base' R1 W1 (aloS (unitN kind') (perN kind') base' s)) fun w11 R1 W1 h11 I1 m11 => ⟨rfl, m11.keep hc10 (fun x => x rfl), R1, W1, h11, I1⟩)) ?_
        rintro v w11 ⟨rfl, call⟩
        refine ⟨_, _, rfl, .of (CallS.h call) ?_⟩
        rintro v w12 ⟨rfl, hc12, R1, W1, h12, I1⟩
        refine ⟨_, _, rfl, rfl, rfl, _, R1, W1, hc12, h12, I1, ?_, ?_⟩
        · have := aloS_ts (unitN kind') (perN kind') base' s; omega
        · rw [aloS_len f1 f2]; exact hbl
      · rintro w11 rfl
        have hE11 := Ext.drew w10
        have h11 := h10.mod hE11.mod
        have hc11 := hE11.keep hc10
        have c11 := (op_cells hc11).2
        refine ⟨_, c11, _, c11, .of (CallS.h (h11.frees I (by omega) z (Y := fun w12 => w12.heap[b]? = some (.cells #[.int .i64 k, .int .i64 z] 35 (0, 0))) (fun w' m => m.keep hc11 (fun x => x rfl))
          (Q := fun v w49 => v = .int .i64 (Sf.giveE s.hs z) ∧ w49.heap[b]? = some (.cells #[.int .i64 k, .int .i64 z] 35 (0, 0)) ∧ ∃ R1 W1, Bo w (· = b) kind' pb ap base' (freS (unitN kind') (perN kind') base' s z) qb aq base' (freS (unitN kind') (perN kind') base' s z) w49 ∧ Inv (unitN kind') (perN kind') base' R1 W1 (freS (unitN kind') (perN kind') base' s z)) fun w12 R1 W1 h12 I1 m12 => ⟨rfl, m12.keep hc11 (fun x => x rfl), R1, W1, h12, I1⟩)) ?_⟩
        rintro v w12 ⟨rfl, hc12, call⟩
        refine ⟨_, rfl, ⟨_, (op_cells hc12).2, rfl⟩, .of (CallS.h call) ?_⟩
        rintro v w13 ⟨rfl, hc13, R1, W1, h13, I1⟩
        refine ⟨_, rfl, rfl, rfl, _, R1, W1, hc13, h13, I1, ?_, ?_⟩
        · have := freS_ts (unitN kind') (perN kind') base' s z; omega
        · rw [freS_len f2 f3]; exact hbl
    · rintro jv i62 i63 i64 i65 w11 ⟨rfl, rfl, s1, R1, W1, hc11, h11, I1, ht1, hb1⟩
      rintro w12 rfl
      have hE12 := Ext.drew w11
      have h12 := h11.mod hE12.mod
      have hc12 := hE12.keep hc11
      obtain ⟨f1, f2, f3, f4⟩ := h12.facts
      refine ifB_false (by simp) ⟨rfl, ifB_false (by simp) ?_⟩
      obtain ⟨K1, p1, hs1, back1⟩ := h12.left
      refine p1.used fun w13 a13 m13 => ⟨_, rfl, ?_⟩
      have h13 := back1 _ _ _ a13 m13
      have hc13 := m13.keep hc12 (fun x => x (hs1 b rfl))
      obtain ⟨K2, p2, hs2, back2⟩ := h13.right
      refine p2.usedC ⟨_, rfl, rfl, ifB_false (by simp) ?_⟩
      obtain ⟨K3, p3, hs3, back3⟩ := h13.left
      refine p3.full ⟨_, rfl, ?_⟩
      refine p2.fullC fun w14 a14 m14 => ⟨_, rfl, rfl, rfl, ?_⟩
      have h14 := back2 _ _ _ a14 m14
      have hc14 := m14.keep hc13 (fun x => x (hs2 b rfl))
      have ecount : ((((s1.hs.count false : Nat) : Int) == 0) : Bool) = decide (s1.hs.count true = perN kind') := by
        have e : (s1.hs.count true) + (s1.hs.count false) = s1.hs.length := by
          have := List.length_eq_countP_add_countP (p := fun b => b == true) (l := s1.hs)
          have e2 : s1.hs.countP (fun b => decide ¬ (b == true) = true) = s1.hs.count false := by
            rw [List.count]
            congr 1
            funext b
            cases b <;> rfl
          rw [e2] at this
          rw [this]; rfl
        rw [Bool.eq_iff_iff]
        simp only [beq_iff_eq, decide_eq_true_eq]
        omega
      rw [ecount]
      have c14 := (op_cells hc14).2
      refine ifB_false (by cases decide (s1.hs.count true = perN kind') <;> rfl) ⟨_, c14, _, c14, ?_⟩
      obtain ⟨K4, p4, hs4, back4⟩ := h14.left
      refine p4.has z ⟨_, rfl, ⟨_, c14, rfl⟩, ?_⟩
      obtain ⟨K5, p5, hs5, back5⟩ := h14.right
      refine p5.hasC z fun w15 a15 m15 => ⟨_, rfl, rfl, rfl, ifB_false (by cases Sf.isTaken s1.hs z <;> rfl) ?_⟩
      have h15 := back5 _ _ _ a15 m15
      have c1q : w15.cell? ((Addr.mk qb 0 none).add 1) = some (.int .i64 (base' : Int)) := by
        obtain ⟨rc, wc, FA, g, _⟩ := a15
        exact g.c1
      obtain ⟨K6, p6, hs6, back6⟩ := h15.left
      refine ⟨_, c1q, p6.baseA ⟨_, rfl, ⟨_, c1q, rfl⟩, rfl, ifB_false (by simp) (p6.kindA ⟨_, rfl, rfl, ifB_false (by simp) ⟨n - 1, by omega, j + 1, ?_, by omega, s1, R1, W1, h15.weak (fun _ x => x.elim), I1, by omega, hb1⟩⟩)⟩⟩
      rw [wrap_i64 (by omega) (by omega)]; omega
  · rintro jv w7 ⟨s, R, W, hB, I, hts, hbl⟩
    obtain ⟨rc, wc, sb, sg, FA, rd, wd, GA, g1, g2, hp, hq, hK, hE⟩ := hB
    refine .of (touched_any g1.ar (by omega)) ?_
    rintro v w8 ⟨hr, hE8, hown⟩
    obtain ⟨ta, tc, rfl⟩ := hr.shape
    have hB8 : Bo w (fun j => (Value.slice ta s.ts.length tc).ownBlock = some j) kind' pb ap base' s qb aq base' s w8 :=
      (Bo.grow ⟨rc, wc, sb, sg, FA, rd, wd, GA, g1, g2, hp, hq, hK, hE⟩ hE8 (B := fun j => (Value.slice ta s.ts.length tc).ownBlock = some j) (fun j hj => ⟨hown j hj, (World.ownsRow.lt hr j hj).2⟩)).weak (fun j hj => .inr hj)
    refine ⟨_, _, _, rfl, ?_⟩
    obtain ⟨K1, p1, hs1, back1⟩ := hB8.left
    have okr : OkA s.bs.length 0 (size : Int) := ⟨by omega, by omega, by omega⟩
    refine p1.arenaC (P := fun v => v = .tuple #[.string (strOf s.bs), .int .i64 0]) (bs' := s.bs) (ts' := noteA s.ts 0 (size : Int) false) rfl (fun FA a => by
      have := read_any a 0 (size : Int) (by omega)
      rw [if_pos okr, if_pos okr, if_pos okr] at this
      have e : seg s.bs (0 : Int).toNat (size : Int).toNat = s.bs := by rw [Int.toNat_natCast]; exact seg_all s.bs (by omega)
      rw [e] at this
      exact this) ?_
    rintro v w9 rfl a9 m9
    have hB9 := back1 _ _ _ a9 m9
    have hr9 : TRow w9 (.slice ta s.ts.length tc) s.ts := hr.keep m9 (fun j hj x => x (hs1 j hj))
    refine ⟨_, _, rfl, ?_⟩
    refine ⟨fun n i w10 => ∃ (j nb : Nat), i = (j : Int) ∧ n + j = l.length ∧ TRow w10 (.slice ta s.ts.length tc) s.ts ∧ Bo w (fun j => (Value.slice ta s.ts.length tc).ownBlock = some j) kind' pb ap nb { s with bs := s.bs, ts := noteA s.ts 0 (size : Int) false } qb aq nb s w10, ⟨l.length, 0, base', rfl, rfl, hr9, hB9⟩, ?_⟩
    clear hB9 hr9 m9 a9 p1 back1 hB8 hr g1 g2 hp hq hK hE
    rintro n jv i w10 ⟨j, nb, rfl, hn, hr, hB⟩
    refine ifD (fun hj => ⟨by omega, by omega, ?_⟩) (fun hj => ?_)
    · have hj : j < l.length := by have hj : (j : Int) < (l.length : Int) := hj; omega
      obtain ⟨y, hy⟩ : ∃ y, l[j]? = some y := ⟨_, List.getElem?_eq_getElem hj⟩
      rw [Int.toNat_natCast]
      refine (hrow.ext hB.ext).pair hy (al_intro fun b w11 hb11 hE11 hs11 hs11' => ?_)
      refine wr_intro (n := 2) hb11 (by simp) fun w12 hb12 hm12 hs12 => ?_
      have hE12 : Ext w10 w12 := hE11.new hm12 (fun k hk => by subst hk; omega)
      rintro w13 rfl
      have hE13 := hE12.trans (Ext.drew w12)
      have h13 := hB.grow hE13 (B := (· = b)) (fun k hk => by subst hk; exact ⟨by omega, by show k < w12.heap.size; omega⟩)
      have hr13 := hr.keep hE13 (fun _ _ x => x)
      have hc13 : w12.drew.heap[b]? = some (.cells #[.int .i64 (opF y).1, .int .i64 (opF y).2] 35 (0, 0)) := hb12
      have c13 := (op_cells hc13).2
      refine ⟨_, c13, _, c13, .of (CallS.h (h13.moves rfl (opF y).2 (Y := fun w14 => w14.heap[b]? = some (.cells #[.int .i64 (opF y).1, .int .i64 (opF y).2] 35 (0, 0))) (fun w' m => m.keep hc13 (fun x => x (.inr rfl)))
        (Q := fun v u w15 => ∃ e : Int, v = .int .i64 e ∧ u = .int .i64 e ∧ ∃ nb, TRow w15 (.slice ta s.ts.length tc) s.ts ∧ Bo w (fun j => (Value.slice ta s.ts.length tc).ownBlock = some j) kind' pb ap nb { s with bs := s.bs, ts := noteA s.ts 0 (size : Int) false } qb aq nb s w15) fun e nb w14 h14 m14 => ⟨e, rfl, rfl, nb, hr13.keep m14 (fun j hj x => x (.inl hj)), h14.weak (fun j hj => .inl hj)⟩)) ?_⟩
      rintro v w14 ⟨e, rfl, hc14, call⟩
      refine ⟨_, rfl, ⟨_, (op_cells hc14).2, rfl⟩, .of (CallS.h call) ?_⟩
      rintro v w15 ⟨e', e1, rfl, nb', hr15, h15⟩
      have e1 : e = e' := by injection e1
      subst e1
      refine ⟨_, rfl, ifB_false (by simp) ?_⟩
      obtain ⟨K5, p5, hs5, back5⟩ := h15.right
      have c1q : w15.cell? ((Addr.mk qb 0 none).add 1) = some (.int .i64 (nb' : Int)) := by
        obtain ⟨rc, wc, FA, g, _⟩ := p5
        exact g.c1
      obtain ⟨K6, p6, hs6, back6⟩ := h15.left
      refine ⟨_, c1q, p6.baseA ⟨_, rfl, ⟨_, c1q, rfl⟩, rfl, ifB_false (by simp) ⟨n - 1, by omega, j + 1, nb', ?_, by omega, hr15, h15⟩⟩⟩
      rw [wrap_i64 (by omega) (by omega)]; omega
    · obtain ⟨rc, wc, sb, sg, FA, rd, wd, GA, g1, g2, hp, hq, hK, hE⟩ := hB
      obtain ⟨gb, vq, g, _⟩ := g2.ar
      obtain ⟨pq, cq, rfl⟩ := g.row.shape
      refine ⟨_, _, _, g.slot0, s.bs, rfl, fun k y hy => ⟨_, rfl, ?_⟩, ifB_true (decide_eq_true rfl) ⟨_, _, _, g.slot1, .of (same_any hr g.row rfl rfl (by omega)) ?_⟩⟩
      · rw [add_mk, Nat.zero_add]; exact g.byteAt hy
      · rintro v w11 ⟨rfl, hE11⟩
        exact ⟨_, rfl, dec_true rfl, hE.trans hE11⟩

end Go.Proofs.Ytkbgiflmecaffaa
