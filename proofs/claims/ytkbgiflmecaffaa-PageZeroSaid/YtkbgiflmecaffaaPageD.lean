/- Contracts of package page: Alloc. Conditions: the page is there. -/
import Derived.Test.YtkbgiflmecaffaaPageC
set_option linter.unusedVariables false
set_option linter.unusedSimpArgs false
namespace Go.Proofs.Ytkbgiflmecaffaa
open Go.RowKit

section
variable {w0 w w' : World} {K : Nat → Prop} {pb ap base kind : Nat} {s s' : St}

theorem popB_len' {bs : List UInt8} {base unit per : Nat} {head : Int} (g : CfgC bs.length base unit per head) : (popB bs base unit per head).length = bs.length := by
  have := g.h1
  unfold popB
  split
  · rfl
  split
  · rfl
  · exact putAt_length (by rw [le8_length]; exact (g.at (by omega)).1)

theorem popH_in' {bs : List UInt8} {base unit per : Nat} {head : Int} (g : CfgC bs.length base unit per head) : -1 ≤ popH bs base unit per head ∧ popH bs base unit per head < per := by
  have := g.h0
  have := g.h1
  unfold popH
  split
  · omega
  split
  · omega
  · omega

/-- Ready.Pop. -/
theorem PGs.pop (h : PGs w0 K pb ap base kind s w) (hl : s.ts.length < 549755813000) :
    ∃ rc, w.cell? (((Addr.mk pb 0 none).add 0).add 0) = some (.pointer (some ⟨rc, 0, none⟩)) ∧ (∀ {R : Value → World → Prop}, (∀ w', PGs w0 K pb ap base kind (popS (unitN kind) (perN kind) base s) w' → Mod (fun j => ¬ K j) w w' → R (.tuple #[.int .i64 (popI s.bs base (unitN kind) (perN kind) s.hr), .int .i64 (popE s.bs base (unitN kind) (perN kind) s.hr)]) w') →
      CallS Try.prog 43 #[.pointer (some ⟨rc, 0, none⟩)] w R) := by
  obtain ⟨rc, wc, sb, sg, FA, h, hn, hk, hE⟩ := h
  refine ⟨rc, dcell2 h.head rfl, fun {R} r => ?_⟩
  refine .of (pop_any h.ar h.cr h.gr (h.nF _ (.inr (.inl rfl))) (by omega)) ?_
  rintro v w1 ⟨rfl, hp⟩
  obtain ⟨FA', h1, hm1, hF1⟩ := h.chR hp ((show CfgC _ base _ _ s.hr by rw [popB_len' h.gr]; exact h.gr).head (popH_in' h.gr).1 (popH_in' h.gr).2) (popB_len' h.gr)
  obtain ⟨a, b⟩ := PGs.step h hn hk hE h1 hm1 hF1
  exact r w1 a b

/-- Shelf.TakeAt. -/
theorem PGs.takeAt (h : PGs w0 K pb ap base kind s w) (k : Int) :
    ∃ sb, w.cell? ((Addr.mk pb 0 none).add 6) = some (.pointer (some ⟨sb, 0, none⟩)) ∧ (∀ {R : Value → World → Prop}, (∀ w', PGs w0 K pb ap base kind (takS s k) w' → Mod (fun j => ¬ K j) w w' → R (.int .i64 (Sf.takeAtE s.hs k)) w') →
      CallS Try.prog 44 #[.pointer (some ⟨sb, 0, none⟩), .int .i64 k] w R) := by
  obtain ⟨rc, wc, sb, sg, FA, h, hn, hk, hE⟩ := h
  refine ⟨sb, dcell h.head rfl, fun {R} r => ?_⟩
  refine .of (Sf.takeAt_any h.sh k) ?_
  rintro v w1 ⟨rfl, hs, hm⟩
  obtain ⟨h1, hm1⟩ := h.shp hs hm (Sf.len_takeAtH _ _)
  obtain ⟨a, b⟩ := PGs.step h hn hk hE h1 hm1 (fun j hj => .inl hj)
  exact r w1 a b

/-- What one cell says. -/
theorem PGs.fresh (h : PGs w0 K pb ap base kind s w) : w.cell? ((Addr.mk pb 0 none).add 5) = some (.int .i64 (s.f : Int)) ∧ s.f ≤ perN kind ∧ kind < 8 := by
  obtain ⟨rc, wc, sb, sg, FA, h, hn, hk, hE⟩ := h
  exact ⟨dcell h.head rfl, h.fl, h.k8⟩

theorem PGs.readyE (h : PGs w0 K pb ap base kind s w) : ∃ rc, w.cell? (((Addr.mk pb 0 none).add 0).add 0) = some (.pointer (some ⟨rc, 0, none⟩)) ∧ ∀ {R : Value → World → Prop}, R (.bool (decide (s.hr < 0))) w → CallS Try.prog 42 #[.pointer (some ⟨rc, 0, none⟩)] w R := by
  obtain ⟨rc, wc, sb, sg, FA, h, hn, hk, hE⟩ := h
  refine ⟨rc, dcell2 h.head rfl, fun {R} r => .of (empty_any h.cr) ?_⟩
  rintro v w1 ⟨rfl, rfl⟩
  exact r

theorem PGs.sizeC (h : PGs w0 K pb ap base kind s w) : ∃ sb, w.cell? ((Addr.mk pb 0 none).add 6) = some (.pointer (some ⟨sb, 0, none⟩)) ∧ ∀ {R : Value → World → Prop}, R (.int .i64 (perN kind : Int)) w → CallS Try.prog 46 #[.pointer (some ⟨sb, 0, none⟩)] w R := by
  obtain ⟨rc, wc, sb, sg, FA, h, hn, hk, hE⟩ := h
  refine ⟨sb, dcell h.head rfl, fun {R} r => .of (Sf.size_any h.sh) ?_⟩
  rintro v w1 ⟨rfl, rfl⟩
  rw [h.hl]
  exact r

theorem PGs.freeC (h : PGs w0 K pb ap base kind s w) : ∃ sb, w.cell? ((Addr.mk pb 0 none).add 6) = some (.pointer (some ⟨sb, 0, none⟩)) ∧ ∀ {R : Value → World → Prop}, R (.int .i64 ((s.hs.count false : Nat) : Int)) w → CallS Try.prog 52 #[.pointer (some ⟨sb, 0, none⟩)] w R := by
  obtain ⟨rc, wc, sb, sg, FA, h, hn, hk, hE⟩ := h
  refine ⟨sb, dcell h.head rfl, fun {R} r => .of (Sf.free_any h.sh) ?_⟩
  rintro v w1 ⟨rfl, rfl⟩
  exact r

/-- collect: where nothing is ready. -/
theorem PGs.collect (h : PGs w0 K pb ap base kind s w) (hr : s.hr < 0) {Q : Value → World → Prop}
    (q : ∀ w', PGs w0 K pb ap base kind (if 0 ≤ s.hw then colS s else s) w' → Mod (fun j => ¬ K j) w w' → Q (.bool (decide (0 ≤ s.hw))) w') :
    CallS Try.prog 45 #[.pointer (some ((Addr.mk pb 0 none).add 0))] w Q := by
  have e0 : (Addr.mk pb 0 none).add 0 = Addr.mk pb 0 none := by rw [add_mk]
  rw [e0]
  obtain ⟨rc, wc, sb, sg, FA, h, hn, hk, hE⟩ := h
  constructor
  refine VC.page_shards_collect.ok ?_
  unfold VC.page_shards_collect
  rintro w1 rfl
  have hE1 := Ext.drew w
  have h1 := h.keep hE1 (fun _ _ x => x)
  have hk1 : ∀ j, K j → w0.heap.size ≤ j ∧ j < w.drew.heap.size := fun j hj => ⟨(hk j hj).1, Nat.lt_of_lt_of_le (hk j hj).2 hE1.size⟩
  simp only [someA]
  refine ⟨_, dcell h1.head rfl, .of (empty_any h1.cw) ?_⟩
  rintro v w2 ⟨rfl, rfl⟩
  refine ⟨_, rfl, by trivial, ?_⟩
  by_cases hw : 0 ≤ s.hw
  · rw [decide_eq_false (by omega)]
    refine ifB_true rfl ⟨_, dcell h1.head rfl, _, dcell h1.head rfl, .of (ctake_any h1.cr h1.cw h1.d.2.2.2.2.1) ?_⟩
    rintro v w3 ⟨rfl, c3, d3, hm3⟩
    rw [if_neg (by omega)] at c3 d3 ⊢
    rw [if_pos hw, decide_eq_true hw] at q
    obtain ⟨x1, x2, x3, x4, x5, x6, x7, x8, x9⟩ := h1.d
    have h3 : PGw w3 pb rc wc ap sb sg FA base kind (colS s) := ⟨hm3.keep h1.head (fun x => x.elim x1 x2), h1.ar.keep hm3 (fun j hj x => h1.nF j (x.elim (fun e => .inr (.inl e)) (fun e => .inr (.inr (.inl e)))) hj), c3, d3, h1.sh.keep hm3 (fun j hj x => by
      rcases hj with rfl | rfl
      · exact x.elim (fun e => x6 e.symm) (fun e => x8 e.symm)
      · exact x.elim (fun e => x7 e.symm) (fun e => x9 e.symm)), h1.gw, h1.gw.head (head' := -1) (by decide) (by have := h1.gw.p1; omega), h1.k8, h1.hl, h1.fl, h1.d, h1.nF⟩
    obtain ⟨a, b⟩ := PGs.step h1 hn hk1 (hE.trans hE1) h3 (hm3.mono fun j hj => .inl (hj.elim (fun e => .inr (.inl e)) (fun e => .inr (.inr (.inl e))))) (fun j hj => .inl hj)
    exact ⟨_, rfl, by trivial, q w3 a (Mod.trans (hE1.mod (F := fun j => ¬ K j)) b (fun _ _ x => x))⟩
  · rw [decide_eq_true (by omega)]
    rw [if_neg hw, decide_eq_false hw] at q
    exact ifB_false rfl ⟨by trivial, q _ ⟨rc, wc, sb, sg, FA, h1, hn, hk1, hE.trans hE1⟩ hE1.mod⟩

/-- A fresh one: the count goes up. -/
theorem PGs.up (h : PGs w0 K pb ap base kind s w) (hf : s.f < perN kind) {Q : World → Prop} (q : ∀ w', PGs w0 K pb ap base kind { s with f := s.f + 1 } w' → Mod (fun j => ¬ K j) w w' → Q w') :
    WrC w ((Addr.mk pb 0 none).add 5) 1 ∧ ∀ w', w' = wr w ((Addr.mk pb 0 none).add 5) [.int .i64 (IntKind.i64.wrap ((s.f : Int) + 1))] → Q w' := by
  obtain ⟨rc, wc, sb, sg, FA, h, hn, hk, hE⟩ := h
  have hp := (class_facts h.k8).2.2.2.1
  rw [add_mk, wrap_i64 (n := (s.f : Int) + 1) (by omega) (by omega)]
  refine wr_intro (b := pb) (n := 1) h.head (by simp) fun w1 hd1 hm1 _ => ?_
  obtain ⟨x1, x2, x3, x4, x5, x6, x7, x8, x9⟩ := h.d
  have h1 : PGw w1 pb rc wc ap sb sg FA base kind { s with f := s.f + 1 } := ⟨hd1, h.ar.keep hm1 (fun j hj e => h.nF j (.inl e) hj), h.cr.keep hm1 x1.symm, h.cw.keep hm1 x2.symm, h.sh.keep hm1 (fun j hj e => by
    rcases hj with rfl | rfl
    · exact x3 e.symm
    · exact x4 e.symm), h.gr, h.gw, h.k8, h.hl, hf, h.d, h.nF⟩
  obtain ⟨a, b⟩ := PGs.step h hn hk hE h1 (hm1.mono fun j hj => .inl (.inl hj)) (fun j hj => .inl hj)
  exact q w1 a b

end

end Go.Proofs.Ytkbgiflmecaffaa
