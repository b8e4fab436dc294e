/- Contracts of package page: New, and a page that is none. Conditions: none. -/
import Derived.Test.YtkbgiflmecaffaaPageF
set_option linter.unusedVariables false
set_option linter.unusedSimpArgs false
namespace Go.Proofs.Ytkbgiflmecaffaa
open Go.RowKit

section
variable {w0 w w' : World} {K F : Nat → Prop} {p : Nat} {bs : List UInt8} {ts : List Tch}

theorem plies_any (h : Ar w 70 p F bs ts) (b : Int) : Calls Try.prog 38 #[.pointer (some ⟨p, 0, none⟩), .int .i64 b] w
    (Ret fun r w' => r = .bool (decide (0 ≤ b ∧ b.tmod 512 = 0 ∧ b ≤ (bs.length : Int) - 512)) ∧ w' = w) := by
  have hsm := h.small
  refine VC.page_lies.ok ?_
  unfold VC.page_lies
  refine ifD (fun h0 => ⟨by decide, ifB_intro (fun h1 => ?_) (fun h1 => ?_)⟩) (fun h0 => ⟨by rw [decide_eq_false (fun x => h0 x.1)], rfl⟩)
  · refine .of (size_any h) ?_
    rintro v w1 ⟨rfl, rfl⟩
    have h1' : b.tmod 512 = 0 := by simpa using h1
    refine ⟨_, rfl, congrArg Value.bool (decide_eq_decide.2 ?_), rfl⟩
    rw [wrap_i64 (by omega) (by omega)]
    exact ⟨fun x => ⟨h0, h1', x⟩, fun x => x.2.2⟩
  · have h1' : ¬ b.tmod 512 = 0 := by simpa using h1
    exact ⟨by rw [decide_eq_false (fun x => h1' x.2.1)], rfl⟩

theorem cnew_ok (h : Ar w 70 p F bs ts) {kind base : Nat} (hk : kind < 8) (hb : base + 512 ≤ bs.length) {R : Value → World → Prop}
    (r : ∀ cb w', CH w' 97 cb p base (unitN kind) (perN kind) (-1) → CfgC bs.length base (unitN kind) (perN kind) (-1) → Ext w w' → w.heap.size ≤ cb → cb < w'.heap.size → R (.tuple #[.pointer (some ⟨cb, 0, none⟩), .int .i64 0]) w') :
    CallS Try.prog 39 #[.pointer (some ⟨p, 0, none⟩), .int .i64 (base : Int), .int .i64 (unitN kind : Int), .int .i64 (perN kind : Int)] w R := by
  obtain ⟨c1, c2, c3, c4, c5⟩ := class_facts hk
  refine .of (cnew_any h _ _ _) ?_
  rintro v w1 (⟨q, _, _⟩ | ⟨cb, base', unit, per, e1, e2, e3, rfl, c, g, hE, hs⟩)
  · rw [← Int.natCast_mul] at q
    exact absurd ⟨by omega, by omega, by omega, by omega, by omega, by omega⟩ q
  · have e1 : base' = base := by omega
    have e2 : unit = unitN kind := by omega
    have e3 : per = perN kind := by omega
    subst e1 e2 e3
    exact r cb w1 c g hE hs (lt_of_blk c)

def newSt (kind : Nat) (bs : List UInt8) (ts : List Tch) : St := ⟨bs, ts, 0, -1, -1, List.replicate (perN kind) false⟩

theorem pnew_any (h : Ar w 70 p F bs ts) (hn : ∀ j, F j → w0.heap.size ≤ j ∧ ¬ K j) (hK : ∀ j, K j → w0.heap.size ≤ j ∧ j < w.heap.size) (hE : Ext w0 w) (b kd : Int) {R : Value → World → Prop}
    (r0 : ¬ ((0 ≤ kd ∧ kd < 8) ∧ 0 ≤ b ∧ b.tmod 512 = 0 ∧ b ≤ (bs.length : Int) - 512) → R (.tuple #[.pointer none, .int .i64 12]) w)
    (r1 : ∀ (base kind pb : Nat) w', kd = kind → kind < 8 → b = base → base + 512 ≤ bs.length → b.tmod 512 = 0 → PGs w0 K pb p base kind (newSt kind bs ts) w' → Ext w w' → R (.tuple #[.pointer (some ⟨pb, 0, none⟩), .int .i64 0]) w') :
    CallS Try.prog 8 #[.pointer (some ⟨p, 0, none⟩), .int .i64 b, .int .i64 kd] w R := by
  constructor
  refine VC.page_New.ok ?_
  unfold VC.page_New
  refine .of (per_any kd w) ?_
  rintro v w1 ⟨rfl, rfl⟩
  by_cases hkd : 0 ≤ kd ∧ kd < 8
  case neg =>
    rw [if_neg hkd]
    exact ⟨_, rfl, ifB_false rfl (ifB_true rfl (r0 fun x => hkd x.1))⟩
  rw [if_pos hkd]
  obtain ⟨kind, rfl⟩ := Int.eq_ofNat_of_zero_le hkd.1
  have hk8 : kind < 8 := by omega
  obtain ⟨c1, c2, c3, c4, c5⟩ := class_facts hk8
  rw [Int.toNat_natCast]
  refine ⟨_, rfl, ifB_false rfl (ifB_false (by simp; omega) (.of (plies_any h b) ?_))⟩
  rintro v w2 ⟨rfl, rfl⟩
  by_cases hl : 0 ≤ b ∧ b.tmod 512 = 0 ∧ b ≤ (bs.length : Int) - 512
  case neg =>
    rw [decide_eq_false hl]
    exact ⟨_, rfl, ifB_true rfl (r0 fun x => hl x.2)⟩
  rw [decide_eq_true hl]
  refine ⟨_, rfl, ifB_false rfl (.of (unit_any hk8 w2) ?_)⟩
  rintro v w3 ⟨rfl, rfl⟩
  obtain ⟨base, rfl⟩ := Int.eq_ofNat_of_zero_le hl.1
  refine ⟨_, rfl, cnew_ok h hk8 (by omega) fun rc w4 cr gr hE4 hs4 hs4' => ⟨_, _, rfl, .of (unit_any hk8 w4) ?_⟩⟩
  rintro v w5 ⟨rfl, rfl⟩
  refine ⟨_, rfl, cnew_ok (h.ext hE4) hk8 (by omega) fun wc w6 cw gw hE6 hs6 hs6' => ⟨_, _, rfl, .of (Sf.new_any w6 _) ?_⟩⟩
  rintro v w7 (⟨q, _, _⟩ | ⟨_, _, sb, sg, rfl, sh, hE7, hs7⟩)
  · exact absurd ⟨by omega, by omega⟩ q
  rw [Int.toNat_natCast] at sh
  refine ⟨_, _, rfl, al_intro fun pb w8 hd hE8 hs8 _ => ?_⟩
  have cr8 : CH w8 97 rc p base (unitN kind) (perN kind) (-1) := hE8.keep (hE7.keep (hE6.keep cr))
  have cw8 : CH w8 97 wc p base (unitN kind) (perN kind) (-1) := hE8.keep (hE7.keep cw)
  have hb := hs7 sb (.inl rfl)
  have hg := hs7 sg (.inr rfl)
  have hb' := sh.lt sb (.inl rfl)
  have hg' := sh.lt sg (.inr rfl)
  have z4 := hE4.size
  have z6 := hE6.size
  have z0 := hE.size
  have hA := ((hE4.trans hE6).trans hE7).trans hE8
  have hown : ∀ j, ownP pb rc wc sb sg j → w3.heap.size ≤ j := by
    rintro j (rfl | rfl | rfl | rfl | rfl)
    · have := hE7.size; omega
    all_goals omega
  refine r1 base kind pb w8 rfl hk8 rfl (by omega) hl.2.1 ⟨rc, wc, sb, sg, F, ⟨hd, h.ext hA, cr8, cw8, sh.ext hE8, gr, gw, hk8, List.length_replicate, Nat.zero_le _, ⟨?_, ?_, ?_, ?_, ?_, ?_, ?_, ?_, ?_⟩, fun j hj x => ?_⟩, fun j hj => ?_, fun j hj => ⟨(hK j hj).1, Nat.lt_of_lt_of_le (hK j hj).2 hA.size⟩, hE.trans hA⟩ hA
  all_goals try (have := hE7.size; omega)
  · have := hown j hj
    have := h.lt j x
    omega
  · rcases hj with hj | hj
    · have := hown j hj
      exact ⟨by omega, fun q => by have := (hK j q).2; omega⟩
    · exact hn j hj

theorem pnew_nil (w : World) (b kd : Int) {R : Value → World → Prop} (r : R (.tuple #[.pointer none, .int .i64 11]) w) : CallS Try.prog 8 #[.pointer none, .int .i64 b, .int .i64 kd] w R := by
  constructor
  refine VC.page_New.ok ?_
  unfold VC.page_New
  refine .of (per_any kd w) ?_
  rintro v w1 ⟨rfl, rfl⟩
  exact ⟨_, rfl, ifB_true rfl r⟩

theorem alloc_nil {R : Value → World → Prop} (r : R (.tuple #[.int .i64 0, .int .i64 11]) w) : CallS Try.prog 11 #[.pointer none] w R := ⟨VC.page_Page_Alloc.ok (ifB_true rfl r)⟩
theorem pfree_nil (k : Int) {R : Value → World → Prop} (r : R (.int .i64 11) w) : CallS Try.prog 15 #[.pointer none, .int .i64 k] w R := ⟨VC.page_Page_Free.ok (ifB_true rfl r)⟩
theorem pmove_nil (k : Int) {R : Value → World → Prop} (r : R (.int .i64 11) w) : CallS Try.prog 30 #[.pointer none, .int .i64 k] w R := ⟨VC.page_Page_Move.ok (ifB_true rfl r)⟩
theorem phas_nil (k : Int) {R : Value → World → Prop} (r : R (.bool false) w) : CallS Try.prog 16 #[.pointer none, .int .i64 k] w R := ⟨VC.page_Page_Has.ok (ifB_false rfl r)⟩
theorem used_nil {R : Value → World → Prop} (r : R (.int .i64 0) w) : CallS Try.prog 17 #[.pointer none] w R := ⟨VC.page_Page_Used.ok (ifB_true rfl r)⟩
theorem full_nil {R : Value → World → Prop} (r : R (.bool false) w) : CallS Try.prog 24 #[.pointer none] w R := ⟨VC.page_Page_Full.ok (ifB_false rfl r)⟩
theorem base_nil {R : Value → World → Prop} (r : R (.int .i64 0) w) : CallS Try.prog 27 #[.pointer none] w R := ⟨VC.page_Page_Base.ok (ifB_true rfl r)⟩
theorem kind_nil {R : Value → World → Prop} (r : R (.int .i64 0) w) : CallS Try.prog 28 #[.pointer none] w R := ⟨VC.page_Page_Kind.ok (ifB_true rfl r)⟩
theorem pcopy_nil (a : Option Addr) {R : Value → World → Prop} (r : R (.pointer none) w) : CallS Try.prog 36 #[.pointer none, .pointer a] w R := ⟨VC.page_Page_Copy.ok (ifB_true rfl r)⟩

end

end Go.Proofs.Ytkbgiflmecaffaa
