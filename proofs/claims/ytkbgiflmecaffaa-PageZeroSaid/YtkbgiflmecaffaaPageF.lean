/- Contracts of package page: Free, and what is asked of a page; New. Conditions: the page is there. -/
import Derived.Test.YtkbgiflmecaffaaPageE
set_option linter.unusedVariables false
set_option linter.unusedSimpArgs false
namespace Go.Proofs.Ytkbgiflmecaffaa
open Go.RowKit

/-- The block was zeroed. -/
def zerS (u base : Nat) (s : St) (k : Nat) : St := { s with bs := putAt s.bs (base + k * u) (List.replicate u 0), ts := s.ts ++ [(((base + k * u : Nat) : Int), (u : Int), true)] }
def givS (s : St) (k : Int) : St := { s with hs := Sf.giveH s.hs k }
def pusS (u p base : Nat) (s : St) (k : Nat) : St := { s with bs := putAt s.bs (base + k * u) (le8 (s.hw + 1).toNat), ts := s.ts ++ [(((base + k * u : Nat) : Int), 8, true)], hw := (k : Int) }
def freS (u p base : Nat) (s : St) (k : Int) : St := if Sf.giveE s.hs k = 0 then pusS u p base (zerS u base (givS s k) k.toNat) k.toNat else givS s k

section
variable {w0 w w' : World} {K : Nat → Prop} {pb ap base kind : Nat} {s s' : St}

theorem unit_fit {n base unit per k : Nat} {head : Int} (g : CfgC n base unit per head) (hk : k < per) : base + k * unit + unit ≤ n := by
  have h1 : (k + 1) * unit ≤ per * unit := Nat.mul_le_mul_right _ hk
  rw [Nat.add_mul, Nat.one_mul, Nat.mul_comm per] at h1
  have := g.fit
  omega

/-- Shelf.Give. -/
theorem PGs.give (h : PGs w0 K pb ap base kind s w) (k : Int) :
    ∃ sb, w.cell? ((Addr.mk pb 0 none).add 6) = some (.pointer (some ⟨sb, 0, none⟩)) ∧ (∀ {R : Value → World → Prop}, (∀ w', PGs w0 K pb ap base kind (givS s k) w' → Mod (fun j => ¬ K j) w w' → R (.int .i64 (Sf.giveE s.hs k)) w') →
      CallS Try.prog 49 #[.pointer (some ⟨sb, 0, none⟩), .int .i64 k] w R) := by
  obtain ⟨rc, wc, sb, sg, FA, h, hn, hk, hE⟩ := h
  refine ⟨sb, dcell h.head rfl, fun {R} r => ?_⟩
  refine .of (Sf.give_any h.sh k) ?_
  rintro v w1 ⟨rfl, hs, hm⟩
  obtain ⟨h1, hm1⟩ := h.shp hs hm (Sf.len_giveH _ _)
  obtain ⟨a, b⟩ := PGs.step h hn hk hE h1 hm1 (fun j hj => .inl hj)
  exact r w1 a b

theorem PGs.kindC (h : PGs w0 K pb ap base kind s w) : w.cell? ((Addr.mk pb 0 none).add 4) = some (.int .i64 (kind : Int)) := by
  obtain ⟨rc, wc, sb, sg, FA, h, hn, hk, hE⟩ := h
  exact dcell h.head rfl

theorem PGs.baseC (h : PGs w0 K pb ap base kind s w) : w.cell? ((Addr.mk pb 0 none).add 3) = some (.int .i64 (base : Int)) := by
  obtain ⟨rc, wc, sb, sg, FA, h, hn, hk, hE⟩ := h
  exact dcell h.head rfl

theorem PGs.hsl (h : PGs w0 K pb ap base kind s w) : s.hs.length = perN kind := by
  obtain ⟨rc, wc, sb, sg, FA, h, hn, hk, hE⟩ := h
  exact h.hl

theorem PGs.cfg (h : PGs w0 K pb ap base kind s w) : CfgC s.bs.length base (unitN kind) (perN kind) s.hw := by
  obtain ⟨rc, wc, sb, sg, FA, h, hn, hk, hE⟩ := h
  exact h.gw

theorem PGs.cfr (h : PGs w0 K pb ap base kind s w) : CfgC s.bs.length base (unitN kind) (perN kind) s.hr := by
  obtain ⟨rc, wc, sb, sg, FA, h, hn, hk, hE⟩ := h
  exact h.gr

/-- Arena.Zero of a block. -/
theorem PGs.zero (h : PGs w0 K pb ap base kind s w) {k : Nat} (hkp : k < perN kind) (hl : s.ts.length < 549755813000) :
    w.cell? ((Addr.mk pb 0 none).add 2) = some (.pointer (some ⟨ap, 0, none⟩)) ∧ (∀ {R : Value → World → Prop}, (∀ w', PGs w0 K pb ap base kind (zerS (unitN kind) base s k) w' → Mod (fun j => ¬ K j) w w' → R (.int .i64 0) w') →
      CallS Try.prog 35 #[.pointer (some ⟨ap, 0, none⟩), .int .i64 ((base + k * unitN kind : Nat) : Int), .int .i64 (unitN kind : Int)] w R) := by
  obtain ⟨rc, wc, sb, sg, FA, h, hn, hk, hE⟩ := h
  refine ⟨dcell h.head rfl, fun {R} r => ?_⟩
  have hfit := unit_fit h.gw hkp
  have hu := h.gw.u8
  refine .of (zero_any h.ar _ _ (by omega)) ?_
  rintro v w1 ⟨rfl, hp⟩
  have hok : OkA s.bs.length ((base + k * unitN kind : Nat) : Int) (unitN kind : Int) := ⟨by omega, by omega, by omega⟩
  rw [if_pos hok, if_pos hok, noteA, if_pos (by omega), Int.toNat_natCast, Int.toNat_natCast] at hp
  rw [if_pos hok]
  obtain ⟨FA', h1, hm1, hF1⟩ := h.arp hp (putAt_length (by simp; omega))
  obtain ⟨a, b⟩ := PGs.step h hn hk hE h1 hm1 hF1
  exact r w1 a b

/-- Waiting.Push of a block. -/
theorem PGs.push (h : PGs w0 K pb ap base kind s w) {k : Nat} (hkp : k < perN kind) (hl : s.ts.length < 549755813000) :
    ∃ wc, w.cell? (((Addr.mk pb 0 none).add 0).add 1) = some (.pointer (some ⟨wc, 0, none⟩)) ∧ (∀ {R : Value → World → Prop}, (∀ w', PGs w0 K pb ap base kind (pusS (unitN kind) (perN kind) base s k) w' → Mod (fun j => ¬ K j) w w' → R (.int .i64 0) w') →
      CallS Try.prog 50 #[.pointer (some ⟨wc, 0, none⟩), .int .i64 (k : Int)] w R) := by
  obtain ⟨rc, wc, sb, sg, FA, h, hn, hk, hE⟩ := h
  refine ⟨wc, dcell2 h.head rfl, fun {R} r => ?_⟩
  have hat := h.gw.at hkp
  have hin : InC (perN kind) (k : Int) := ⟨by omega, by omega⟩
  refine .of (push_any h.ar h.cw h.gw (h.nF _ (.inr (.inr (.inl rfl)))) (by omega) (k : Int)) ?_
  rintro v w1 ⟨rfl, hp⟩
  rw [pushB, if_pos hin, pushT, if_pos hin, pushH, if_pos hin, Int.toNat_natCast] at hp
  rw [pushE, if_pos hin]
  have hlen : (putAt s.bs (base + k * unitN kind) (le8 (s.hw + 1).toNat)).length = s.bs.length := putAt_length (by rw [le8_length]; omega)
  obtain ⟨FA', h1, hm1, hF1⟩ := h.chW hp (by rw [hlen]; exact h.gw.head (by omega) (by omega)) hlen
  obtain ⟨a, b⟩ := PGs.step h hn hk hE h1 hm1 hF1
  exact r w1 a b

theorem PGs.free (h : PGs w0 K pb ap base kind s w) (hl : s.ts.length < 549755812000) (k : Int) {R : Value → World → Prop}
    (r : ∀ w', PGs w0 K pb ap base kind (freS (unitN kind) (perN kind) base s k) w' → Mod (fun j => ¬ K j) w w' → R (.int .i64 (Sf.giveE s.hs k)) w') :
    CallS Try.prog 15 #[.pointer (some ⟨pb, 0, none⟩), .int .i64 k] w R := by
  constructor
  refine VC.page_Page_Free.ok ?_
  unfold VC.page_Page_Free
  refine ifB_false rfl ?_
  obtain ⟨sb, hc, call⟩ := h.give k
  refine ⟨_, hc, call fun w1 h1 hm1 => ⟨_, rfl, ?_⟩⟩
  by_cases he : Sf.giveE s.hs k = 0
  · have e1 : freS (unitN kind) (perN kind) base s k = pusS (unitN kind) (perN kind) base (zerS (unitN kind) base (givS s k) k.toNat) k.toNat := if_pos he
    rw [e1] at r
    have hin : Sf.InS s.hs k := by
      by_cases q : Sf.InS s.hs k
      · exact q
      · rw [Sf.giveE, if_neg q] at he; omega
    obtain ⟨n, rfl⟩ := Int.eq_ofNat_of_zero_le hin.1
    have hn : n < perN kind := by have := hin.2; rw [h.hsl] at this; omega
    rw [Int.toNat_natCast] at r
    refine ifB_false (by rw [he]; rfl) ⟨_, h1.kindC, .of (unit_any h1.fresh.2.2 w1) ?_⟩
    rintro v w2 ⟨rfl, rfl⟩
    refine ⟨_, rfl, ?_⟩
    rintro w3 rfl
    have hE3 := Ext.drew w2
    have h3 := h1.keep hE3.mod
    have hfit := unit_fit h3.cfg hn
    have hn21 := h3.cfg.n21
    have e2 : IntKind.i64.wrap ((base : Int) + IntKind.i64.wrap ((n : Int) * (unitN kind : Int))) = ((base + n * unitN kind : Nat) : Int) := by
      rw [← Int.natCast_mul, wrap_i64 (n := ((n * unitN kind : Nat) : Int)) (by omega) (by omega), wrap_i64 (by omega) (by omega)]
      omega
    obtain ⟨hca, callz⟩ := h3.zero hn (show s.ts.length < _ by omega)
    refine ⟨_, hca, _, h3.baseC, ?_⟩
    rw [e2]
    refine callz fun w4 h4 hm4 => ⟨_, rfl, ifB_false rfl ?_⟩
    obtain ⟨wc, hcw, callp⟩ := h4.push hn (by show (s.ts ++ [_]).length < _; simp; omega)
    refine ⟨_, hcw, callp fun w5 h5 hm5 => ⟨_, rfl, ?_⟩⟩
    rw [he] at r
    exact r w5 h5 (Mod.trans (Mod.trans (Mod.trans hm1 hE3 (fun _ _ x => x.elim)) hm4 (fun _ _ x => x)) hm5 (fun _ _ x => x))
  · have e1 : freS (unitN kind) (perN kind) base s k = givS s k := if_neg he
    rw [e1] at r
    exact ifB_true (by simpa using he) (r w1 h1 hm1)

theorem PGs.used (h : PGs w0 K pb ap base kind s w) {R : Value → World → Prop}
    (r : ∀ w', PGs w0 K pb ap base kind s w' → Mod (fun j => ¬ K j) w w' → R (.int .i64 ((s.hs.count true : Nat) : Int)) w') :
    CallS Try.prog 17 #[.pointer (some ⟨pb, 0, none⟩)] w R := by
  constructor
  refine VC.page_Page_Used.ok ?_
  unfold VC.page_Page_Used
  refine ifB_false rfl ?_
  rintro w1 rfl
  have hE1 := Ext.drew w
  have h1 := h.keep hE1.mod
  have hp := (class_facts h1.fresh.2.2).2.2.2.1
  have hsl := h1.hsl
  obtain ⟨sb, hc, size⟩ := h1.sizeC
  obtain ⟨sb2, hc2, free⟩ := h1.freeC
  have e : (s.hs.count true) + (s.hs.count false) = s.hs.length := by
    have := List.length_eq_countP_add_countP (p := fun b => b == true) (l := s.hs)
    have e2 : s.hs.countP (fun b => decide ¬ (b == true) = true) = s.hs.count false := by
      rw [List.count]
      congr 1
      funext b
      cases b <;> rfl
    rw [e2] at this
    rw [this]; rfl
  refine ⟨_, hc, _, hc2, size ⟨_, rfl, ⟨_, hc2, rfl⟩, free ⟨_, rfl, ?_⟩⟩⟩
  have e3 : IntKind.i64.wrap ((perN kind : Int) - ((s.hs.count false : Nat) : Int)) = ((s.hs.count true : Nat) : Int) := by
    rw [wrap_i64 (by omega) (by omega)]
    omega
  rw [e3]
  exact r _ h1 hE1.mod

theorem PGs.full (h : PGs w0 K pb ap base kind s w) {R : Value → World → Prop} (r : R (.bool (((s.hs.count false : Nat) : Int) == 0)) w) :
    CallS Try.prog 24 #[.pointer (some ⟨pb, 0, none⟩)] w R := by
  constructor
  refine VC.page_Page_Full.ok ?_
  unfold VC.page_Page_Full
  obtain ⟨sb2, hc2, free⟩ := h.freeC
  exact ifB_true rfl ⟨_, hc2, free ⟨_, rfl, r⟩⟩

theorem PGs.has (h : PGs w0 K pb ap base kind s w) (k : Int) {R : Value → World → Prop} (r : R (.bool (Sf.isTaken s.hs k)) w) :
    CallS Try.prog 16 #[.pointer (some ⟨pb, 0, none⟩), .int .i64 k] w R := by
  constructor
  refine VC.page_Page_Has.ok ?_
  unfold VC.page_Page_Has
  obtain ⟨rc, wc, sb, sg, FA, h, hn, hk, hE⟩ := h
  refine ifB_true rfl ⟨_, dcell h.head rfl, .of (Sf.taken_any h.sh k) ?_⟩
  rintro v w1 ⟨rfl, rfl⟩
  exact ⟨_, rfl, r⟩

theorem PGs.baseA (h : PGs w0 K pb ap base kind s w) {R : Value → World → Prop} (r : R (.int .i64 (base : Int)) w) : CallS Try.prog 27 #[.pointer (some ⟨pb, 0, none⟩)] w R := by
  constructor
  refine VC.page_Page_Base.ok ?_
  unfold VC.page_Page_Base
  exact ifB_false rfl ⟨_, h.baseC, r⟩

theorem PGs.kindA (h : PGs w0 K pb ap base kind s w) {R : Value → World → Prop} (r : R (.int .i64 (kind : Int)) w) : CallS Try.prog 28 #[.pointer (some ⟨pb, 0, none⟩)] w R := by
  constructor
  refine VC.page_Page_Kind.ok ?_
  unfold VC.page_Page_Kind
  exact ifB_false rfl ⟨_, h.kindC, r⟩

end

end Go.Proofs.Ytkbgiflmecaffaa
