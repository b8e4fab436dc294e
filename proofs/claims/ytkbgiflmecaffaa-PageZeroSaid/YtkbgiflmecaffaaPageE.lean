/- Contracts of package page: Alloc, Free, and what is asked of a page. Conditions: the page is there. -/
import Derived.Test.YtkbgiflmecaffaaPageD
set_option linter.unusedVariables false
set_option linter.unusedSimpArgs false
namespace Go.Proofs.Ytkbgiflmecaffaa
open Go.RowKit

section
variable {w0 w w' : World} {K : Nat → Prop} {pb ap base kind : Nat} {s s' : St}

theorem out_part (h : PGs w0 K pb ap base kind s w) (hl : s.ts.length < 549755813000) {R : Value → World → Prop}
    (r : ∀ w', PGs w0 K pb ap base kind (outS (unitN kind) (perN kind) base s) w' → Mod (fun j => ¬ K j) w w' → R (.tuple #[.int .i64 (outI (unitN kind) (perN kind) base s), .int .i64 (outE (unitN kind) (perN kind) base s)]) w') :
    ∃ p6 : Option Addr, w.cell? (((Addr.mk pb 0 none).add 0).add 0) = some (.pointer p6) ∧ CallS Try.prog 43 #[.pointer p6] w fun v7 w8 => ∃ i9 i10 : Int, v7 = .tuple #[.int .i64 i9, .int .i64 i10] ∧
      ifB (i10 != 0) (R (.tuple #[.int .i64 0, .int .i64 i10]) w8) (∃ p12 : Option Addr, w8.cell? ((Addr.mk pb 0 none).add 6) = some (.pointer p12) ∧ CallS Try.prog 44 #[.pointer p12, .int .i64 i9] w8 fun v13 w14 => ∃ i15 : Int, v13 = .int .i64 i15 ∧ R (.tuple #[.int .i64 i9, .int .i64 i15]) w14) := by
  obtain ⟨rc, hc, call⟩ := h.pop hl
  refine ⟨_, hc, call fun w1 h1 hm1 => ⟨_, _, rfl, ?_⟩⟩
  by_cases he : popE s.bs base (unitN kind) (perN kind) s.hr = 0
  · have e1 : outS (unitN kind) (perN kind) base s = takS (popS (unitN kind) (perN kind) base s) (popI s.bs base (unitN kind) (perN kind) s.hr) := if_pos he
    have e2 : outI (unitN kind) (perN kind) base s = popI s.bs base (unitN kind) (perN kind) s.hr := if_pos he
    have e3 : outE (unitN kind) (perN kind) base s = Sf.takeAtE s.hs (popI s.bs base (unitN kind) (perN kind) s.hr) := if_pos he
    rw [e1, e2, e3] at r
    refine ifB_false (by rw [he]; rfl) ?_
    obtain ⟨sb, hc2, call2⟩ := h1.takeAt (popI s.bs base (unitN kind) (perN kind) s.hr)
    exact ⟨_, hc2, call2 fun w2 h2 hm2 => ⟨_, rfl, r w2 h2 (Mod.trans hm1 hm2 (fun _ _ x => x))⟩⟩
  · have e1 : outS (unitN kind) (perN kind) base s = popS (unitN kind) (perN kind) base s := if_neg he
    have e2 : outI (unitN kind) (perN kind) base s = 0 := if_neg he
    have e3 : outE (unitN kind) (perN kind) base s = popE s.bs base (unitN kind) (perN kind) s.hr := if_neg he
    rw [e1, e2, e3] at r
    exact ifB_true (by simpa using he) (r w1 h1 hm1)

theorem PGs.fr (h : PGs w0 K pb ap base kind s w) (hr : s.hr < 0) (hw : ¬ 0 ≤ s.hw) {R : Value → World → Prop}
    (r : ∀ w', PGs w0 K pb ap base kind (if s.f = perN kind then s else takS { s with f := s.f + 1 } (s.f : Int)) w' → Mod (fun j => ¬ K j) w w' → R (.tuple #[.int .i64 (if s.f = perN kind then 0 else (s.f : Int)), .int .i64 (if s.f = perN kind then 10 else Sf.takeAtE s.hs (s.f : Int))]) w') :
    ∀ w45 : World, w45 = w.drew → ∃ i47 : Int, w45.cell? ((Addr.mk pb 0 none).add 5) = some (.int .i64 i47) ∧ ∃ p49 : Option Addr, w45.cell? ((Addr.mk pb 0 none).add 6) = some (.pointer p49) ∧
      CallS Try.prog 46 #[.pointer p49] w45 fun v50 w51 => ∃ i52 : Int, v50 = .int .i64 i52 ∧ (∃ i53 : Int, w51.cell? ((Addr.mk pb 0 none).add 5) = some (.int .i64 i53) ∧ Value.int .i64 i53 = Value.int .i64 i47) ∧
        ifB (i47 == i52) (R (.tuple #[.int .i64 0, .int .i64 10]) w51) (∃ i55 : Int, w51.cell? ((Addr.mk pb 0 none).add 5) = some (.int .i64 i55) ∧ WrC w51 ((Addr.mk pb 0 none).add 5) 1 ∧ ∀ w57 : World, w57 = wr w51 ((Addr.mk pb 0 none).add 5) [.int .i64 (IntKind.i64.wrap (i55 + 1))] →
          ∀ w58 : World, w58 = w57.drew → ∃ i60 : Int, w58.cell? ((Addr.mk pb 0 none).add 5) = some (.int .i64 i60) ∧ ∃ p62 : Option Addr, w58.cell? ((Addr.mk pb 0 none).add 6) = some (.pointer p62) ∧ ∃ i64 : Int, w58.cell? ((Addr.mk pb 0 none).add 5) = some (.int .i64 i64) ∧
            CallS Try.prog 44 #[.pointer p62, .int .i64 (IntKind.i64.wrap (i64 - 1))] w58 fun v65 w66 => ∃ i67 : Int, v65 = .int .i64 i67 ∧ Value.int .i64 (IntKind.i64.wrap (i60 - 1)) = Value.int .i64 (IntKind.i64.wrap (i60 - 1)) ∧ (∃ i68 : Int, w66.cell? ((Addr.mk pb 0 none).add 5) = some (.int .i64 i68) ∧ Value.int .i64 i68 = Value.int .i64 i60) ∧ R (.tuple #[.int .i64 (IntKind.i64.wrap (i60 - 1)), .int .i64 i67]) w66) := by
  rintro w1 rfl
  have hE := Ext.drew w
  have h1 := h.keep hE.mod
  obtain ⟨hf, hfl, hk8⟩ := h1.fresh
  have hp := (class_facts hk8).2.2.2.1
  obtain ⟨sb, hc, size⟩ := h1.sizeC
  refine ⟨_, hf, _, hc, size ⟨_, rfl, ⟨_, hf, rfl⟩, ?_⟩⟩
  by_cases e : s.f = perN kind
  · rw [if_pos e, if_pos e, if_pos e] at r
    exact ifB_true (by simp [e]) (r _ h1 hE.mod)
  · rw [if_neg e, if_neg e, if_neg e] at r
    refine ifB_false (by simp; omega) ⟨_, hf, ?_⟩
    refine h1.up (by omega) fun w2 h2 hm2 => ?_
    rintro w3 rfl
    have hE3 := Ext.drew w2
    have h3 := h2.keep hE3.mod
    have hf3 := h3.fresh.1
    have e1 : IntKind.i64.wrap (((s.f + 1 : Nat) : Int) - 1) = (s.f : Int) := by rw [wrap_i64 (by omega) (by omega)]; omega
    obtain ⟨sb3, hc3, call⟩ := h3.takeAt (s.f : Int)
    refine ⟨_, hf3, _, hc3, _, hf3, ?_⟩
    rw [e1]
    refine call fun w4 h4 hm4 => ⟨_, rfl, rfl, ⟨_, h4.fresh.1, rfl⟩, ?_⟩
    exact r w4 h4 (Mod.trans (Mod.trans (Mod.trans (hE.mod (F := fun j => ¬ K j)) hm2 (fun _ _ x => x)) hE3 (fun _ _ x => x.elim)) hm4 (fun _ _ x => x))

theorem outS_ts (u p base : Nat) (s : St) : (outS u p base s).ts.length ≤ s.ts.length + 2 := by
  have h : (popT s.bs s.ts base u p s.hr).length ≤ s.ts.length + 2 := by
    unfold popT
    split
    · omega
    split
    · simp
    · simp
  unfold outS
  split <;> exact h

theorem aloS_ts (u p base : Nat) (s : St) : (aloS u p base s).ts.length ≤ s.ts.length + 2 := by
  unfold aloS
  split
  · exact outS_ts _ _ _ _
  split
  · exact outS_ts u p base (colS s)
  split
  · omega
  · show s.ts.length ≤ _
    omega

theorem PGs.alloc (h : PGs w0 K pb ap base kind s w) (hl : s.ts.length < 549755813000) {R : Value → World → Prop}
    (r : ∀ w', PGs w0 K pb ap base kind (aloS (unitN kind) (perN kind) base s) w' → Mod (fun j => ¬ K j) w w' → R (.tuple #[.int .i64 (aloI (unitN kind) (perN kind) base s), .int .i64 (aloE (unitN kind) (perN kind) base s)]) w') :
    CallS Try.prog 11 #[.pointer (some ⟨pb, 0, none⟩)] w R := by
  constructor
  refine VC.page_Page_Alloc.ok ?_
  unfold VC.page_Page_Alloc
  refine ifB_false rfl ?_
  obtain ⟨rc, hc, emp⟩ := h.readyE
  refine ⟨_, hc, emp ⟨_, rfl, ?_⟩⟩
  by_cases hr : 0 ≤ s.hr
  · rw [decide_eq_false (by omega)]
    have e1 : aloS (unitN kind) (perN kind) base s = outS (unitN kind) (perN kind) base s := if_pos hr
    have e2 : aloI (unitN kind) (perN kind) base s = outI (unitN kind) (perN kind) base s := if_pos hr
    have e3 : aloE (unitN kind) (perN kind) base s = outE (unitN kind) (perN kind) base s := if_pos hr
    rw [e1, e2, e3] at r
    exact ifB_true rfl (out_part h hl r)
  rw [decide_eq_true (by omega)]
  refine ifB_false rfl ?_
  refine h.collect (by omega) fun w1 h1 hm1 => ⟨_, rfl, ?_⟩
  by_cases hw : 0 ≤ s.hw
  · rw [decide_eq_true hw]
    rw [if_pos hw] at h1
    have e1 : aloS (unitN kind) (perN kind) base s = outS (unitN kind) (perN kind) base (colS s) := by rw [aloS, if_neg hr, if_pos hw]
    have e2 : aloI (unitN kind) (perN kind) base s = outI (unitN kind) (perN kind) base (colS s) := by rw [aloI, if_neg hr, if_pos hw]
    have e3 : aloE (unitN kind) (perN kind) base s = outE (unitN kind) (perN kind) base (colS s) := by rw [aloE, if_neg hr, if_pos hw]
    rw [e1, e2, e3] at r
    refine ifB_true rfl ⟨fun m w2 => w2 = w1, ⟨0, rfl⟩, ?_⟩
    rintro m jv w2 rfl
    obtain ⟨rc, hc, emp⟩ := h1.readyE
    refine ⟨_, hc, emp ⟨_, rfl, ?_⟩⟩
    rw [decide_eq_false (show ¬ (colS s).hr < 0 by show ¬ s.hw < 0; omega)]
    exact ifB_true rfl (out_part h1 hl fun w' a b => r w' a (Mod.trans hm1 b (fun _ _ x => x)))
  · rw [decide_eq_false hw]
    rw [if_neg hw] at h1
    have e1 : aloS (unitN kind) (perN kind) base s = (if s.f = perN kind then s else takS { s with f := s.f + 1 } (s.f : Int)) := by rw [aloS, if_neg hr, if_neg hw]
    have e2 : aloI (unitN kind) (perN kind) base s = (if s.f = perN kind then 0 else (s.f : Int)) := by rw [aloI, if_neg hr, if_neg hw]
    have e3 : aloE (unitN kind) (perN kind) base s = (if s.f = perN kind then 10 else Sf.takeAtE s.hs (s.f : Int)) := by rw [aloE, if_neg hr, if_neg hw]
    rw [e1, e2, e3] at r
    exact ifB_false rfl (h1.fr (by omega) hw fun w' a b => r w' a (Mod.trans hm1 b (fun _ _ x => x)))

end

end Go.Proofs.Ytkbgiflmecaffaa
