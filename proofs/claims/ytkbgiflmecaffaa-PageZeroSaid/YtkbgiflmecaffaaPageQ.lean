/- The reference's page in memory, and contracts of garthref12 and garthref03. Conditions: the page is there. -/
import Derived.Test.YtkbgiflmecaffaaPageP
set_option linter.unusedVariables false
set_option linter.unusedSimpArgs false
namespace Go.Proofs.Ytkbgiflmecaffaa
open Go.RowKit

def padH (hs : List Bool) : List Bool := hs ++ List.replicate (32 - hs.length) false
def headR (ap base kind f : Nat) (hs : List Bool) (rc wc : Nat) : List Value :=
  [.pointer (some ⟨ap, 0, none⟩), .int .i64 (base : Int), .int .i64 (kind : Int), .int .i64 (f : Int)] ++ (padH hs).map Value.bool ++ [.pointer (some ⟨rc, 0, none⟩), .pointer (some ⟨wc, 0, none⟩)]

theorem padH_len {hs : List Bool} (h : hs.length ≤ 32) : (padH hs).length = 32 := by simp [padH]; omega

section
variable {ap base kind f rc wc : Nat} {hs : List Bool}

theorem headR_len (h : hs.length ≤ 32) : (headR ap base kind f hs rc wc).length = 38 := by
  simp only [headR, List.length_append, List.length_map, padH_len h, List.length_cons, List.length_nil]

theorem headR_had (h : hs.length ≤ 32) {k : Nat} (hk : k < 32) : (headR ap base kind f hs rc wc)[4 + k]? = ((padH hs)[k]?).map Value.bool := by
  unfold headR
  rw [List.getElem?_append_left (by simp [padH_len h]; omega), List.getElem?_append_right (by simp)]
  simp

theorem padH_get (h : hs.length ≤ 32) {k : Nat} (hk : k < 32) : (padH hs)[k]? = some (hs[k]?.getD false) := by
  unfold padH
  by_cases q : k < hs.length
  · rw [List.getElem?_append_left q, List.getElem?_eq_getElem q]; rfl
  · rw [List.getElem?_append_right (by omega), List.getElem?_replicate, if_pos (by omega), List.getElem?_eq_none (by omega)]; rfl

theorem headR_r (h : hs.length ≤ 32) : (headR ap base kind f hs rc wc)[36]? = some (.pointer (some ⟨rc, 0, none⟩)) := by
  unfold headR
  rw [List.getElem?_append_right (by simp [padH_len h])]
  simp [padH_len h]

theorem headR_w (h : hs.length ≤ 32) : (headR ap base kind f hs rc wc)[37]? = some (.pointer (some ⟨wc, 0, none⟩)) := by
  unfold headR
  rw [List.getElem?_append_right (by simp [padH_len h])]
  simp [padH_len h]

theorem padH_set (h : hs.length ≤ 32) {k : Nat} (hk : k < hs.length) (b : Bool) : padH (hs.set k b) = (padH hs).set k b := by
  unfold padH
  rw [List.set_append, if_pos hk, List.length_set]

theorem headR_set (h : hs.length ≤ 32) {k : Nat} (hk : k < hs.length) (b : Bool) : setAt (headR ap base kind f hs rc wc).toArray (0 + 4 + k) [Value.bool b] = (headR ap base kind f (hs.set k b) rc wc).toArray := by
  simp only [setAt]
  apply Array.ext'
  rw [Array.toList_setIfInBounds]
  unfold headR
  rw [padH_set h hk, List.map_set, List.set_append, if_pos (by simp [padH_len h]; omega), List.set_append, if_neg (by simp)]
  simp

theorem count_pad : (padH hs).count true = hs.count true := by
  unfold padH
  rw [List.count_append, List.count_replicate]
  simp

end

def ownR (pb rc wc j : Nat) : Prop := j = pb ∨ j = rc ∨ j = wc

structure RGw (w : World) (pb rc wc ap : Nat) (FA : Nat → Prop) (base kind : Nat) (s : St) : Prop where
  head : w.heap[pb]? = some (.cells (headR ap base kind s.f s.hs rc wc).toArray 57 (0, 0))
  ar : Ar w 61 ap FA s.bs s.ts
  cr : CH w 88 rc ap base (unitN kind) (perN kind) s.hr
  cw : CH w 88 wc ap base (unitN kind) (perN kind) s.hw
  gr : CfgC s.bs.length base (unitN kind) (perN kind) s.hr
  gw : CfgC s.bs.length base (unitN kind) (perN kind) s.hw
  k8 : kind < 8
  hl : s.hs.length = perN kind
  fl : s.f ≤ perN kind
  d : pb ≠ rc ∧ pb ≠ wc ∧ rc ≠ wc
  nF : ∀ j, ownR pb rc wc j → ¬ FA j

/-- A reference's page made behind world w0; blocks of K are kept apart. -/
def RGs (w0 : World) (K : Nat → Prop) (pb ap base kind : Nat) (s : St) (w : World) : Prop :=
  ∃ rc wc FA, RGw w pb rc wc ap FA base kind s ∧ (∀ j, ownR pb rc wc j ∨ FA j → w0.heap.size ≤ j ∧ ¬ K j) ∧ (∀ j, K j → w0.heap.size ≤ j ∧ j < w.heap.size) ∧ Ext w0 w

section
variable {w0 w w' : World} {K : Nat → Prop} {pb rc wc ap base base1 kind : Nat} {FA FA' : Nat → Prop} {s s' : St}

theorem RGw.lt (h : RGw w pb rc wc ap FA base kind s) : ∀ j, ownR pb rc wc j ∨ FA j → j < w.heap.size := by
  rintro j ((rfl | rfl | rfl) | hj)
  · exact lt_of_blk h.head
  · exact lt_of_blk h.cr
  · exact lt_of_blk h.cw
  · exact h.ar.lt j hj

theorem RGw.h32 (h : RGw w pb rc wc ap FA base kind s) : s.hs.length ≤ 32 := by
  rw [h.hl]; exact (class_facts h.k8).2.2.2.1

theorem RGw.keep {G : Nat → Prop} (h : RGw w pb rc wc ap FA base kind s) (hm : Mod G w w') (hG : ∀ j, ownR pb rc wc j ∨ FA j → ¬ G j) : RGw w' pb rc wc ap FA base kind s :=
  ⟨hm.keep h.head (hG _ (.inl (.inl rfl))), h.ar.keep hm (fun j hj => hG j (.inr hj)), h.cr.keep hm (hG _ (.inl (.inr (.inl rfl)))), h.cw.keep hm (hG _ (.inl (.inr (.inr rfl)))), h.gr, h.gw, h.k8, h.hl, h.fl, h.d, h.nF⟩

theorem RGs.keep (h : RGs w0 K pb ap base kind s w) (hm : Mod K w w') : RGs w0 K pb ap base kind s w' := by
  obtain ⟨rc, wc, FA, h, hn, hk, hE⟩ := h
  exact ⟨rc, wc, FA, h.keep hm (fun j hj => (hn j hj).2), hn, fun j hj => ⟨(hk j hj).1, Nat.lt_of_lt_of_le (hk j hj).2 hm.size⟩, hE.new hm (fun j hj => (hk j hj).1)⟩

theorem RGs.ext (h : RGs w0 K pb ap base kind s w) : Ext w0 w := by
  obtain ⟨_, _, _, _, _, _, hE⟩ := h
  exact hE

theorem RGs.step (hn : ∀ j, ownR pb rc wc j ∨ FA j → w0.heap.size ≤ j ∧ ¬ K j) (hk : ∀ j, K j → w0.heap.size ≤ j ∧ j < w.heap.size) (hE : Ext w0 w)
    (h' : RGw w' pb rc wc ap FA' base1 kind s') (hm : Mod (fun j => ownR pb rc wc j ∨ FA j) w w') (hF : ∀ j, FA' j → FA j ∨ w.heap.size ≤ j) : RGs w0 K pb ap base1 kind s' w' ∧ Mod (fun j => ¬ K j) w w' := by
  refine ⟨⟨rc, wc, FA', h', fun j hj => ?_, fun j hj => ⟨(hk j hj).1, Nat.lt_of_lt_of_le (hk j hj).2 hm.size⟩, hE.new hm (fun j hj => (hn j hj).1)⟩, hm.mono fun j hj => (hn j hj).2⟩
  rcases hj with hj | hj
  · exact hn j (.inl hj)
  · rcases hF j hj with z | z
    · exact hn j (.inr z)
    · exact ⟨Nat.le_trans hE.size z, fun q => by have := (hk j q).2; omega⟩

theorem RGw.chR (h : RGw w pb rc wc ap FA base kind s) {bs' : List UInt8} {ts' : List Tch} {h' : Int} (hp : CPost w 61 88 ap rc FA bs' ts' base (unitN kind) (perN kind) h' w') (g : CfgC bs'.length base (unitN kind) (perN kind) h') (hl : bs'.length = s.bs.length) :
    ∃ FA', RGw w' pb rc wc ap FA' base kind { s with bs := bs', ts := ts', hr := h' } ∧ Mod (fun j => ownR pb rc wc j ∨ FA j) w w' ∧ ∀ j, FA' j → FA j ∨ w.heap.size ≤ j := by
  obtain ⟨FA', a, c, hm, hF⟩ := hp
  obtain ⟨d1, d2, d3⟩ := h.d
  have k : ∀ j, ownR pb rc wc j → j ≠ rc → ¬ (FA j ∨ j = rc) := fun j hj hne x => x.elim (h.nF j hj) hne
  refine ⟨FA', ⟨hm.keep h.head (k _ (.inl rfl) d1), a, c, h.cw.keep hm (k _ (.inr (.inr rfl)) d3.symm), g, ?_, h.k8, h.hl, h.fl, h.d, fun j hj x => ?_⟩, hm.mono fun j hj => hj.elim .inr (fun e => .inl (.inr (.inl e))), hF⟩
  · show CfgC bs'.length base (unitN kind) (perN kind) s.hw
    rw [hl]; exact h.gw
  · have := h.lt j (.inl hj)
    exact (hF j x).elim (h.nF j hj) (fun y => by omega)

theorem RGw.chW (h : RGw w pb rc wc ap FA base kind s) {bs' : List UInt8} {ts' : List Tch} {h' : Int} (hp : CPost w 61 88 ap wc FA bs' ts' base (unitN kind) (perN kind) h' w') (g : CfgC bs'.length base (unitN kind) (perN kind) h') (hl : bs'.length = s.bs.length) :
    ∃ FA', RGw w' pb rc wc ap FA' base kind { s with bs := bs', ts := ts', hw := h' } ∧ Mod (fun j => ownR pb rc wc j ∨ FA j) w w' ∧ ∀ j, FA' j → FA j ∨ w.heap.size ≤ j := by
  obtain ⟨FA', a, c, hm, hF⟩ := hp
  obtain ⟨d1, d2, d3⟩ := h.d
  have k : ∀ j, ownR pb rc wc j → j ≠ wc → ¬ (FA j ∨ j = wc) := fun j hj hne x => x.elim (h.nF j hj) hne
  refine ⟨FA', ⟨hm.keep h.head (k _ (.inl rfl) d2), a, h.cr.keep hm (k _ (.inr (.inl rfl)) d3), c, ?_, g, h.k8, h.hl, h.fl, h.d, fun j hj x => ?_⟩, hm.mono fun j hj => hj.elim .inr (fun e => .inl (.inr (.inr e))), hF⟩
  · show CfgC bs'.length base (unitN kind) (perN kind) s.hr
    rw [hl]; exact h.gr
  · have := h.lt j (.inl hj)
    exact (hF j x).elim (h.nF j hj) (fun y => by omega)

theorem RGw.arp (h : RGw w pb rc wc ap FA base kind s) {bs' : List UInt8} {ts' : List Tch} (hp : Post w 61 ap FA bs' ts' w') (hl : bs'.length = s.bs.length) :
    ∃ FA', RGw w' pb rc wc ap FA' base kind { s with bs := bs', ts := ts' } ∧ Mod (fun j => ownR pb rc wc j ∨ FA j) w w' ∧ ∀ j, FA' j → FA j ∨ w.heap.size ≤ j := by
  obtain ⟨FA', a, hm, hF⟩ := hp
  have g := h.gr
  rw [← hl] at g
  exact h.chR ⟨FA', a, h.cr.keep hm (h.nF _ (.inr (.inl rfl))), hm.mono fun j hj => .inl hj, hF⟩ g hl

/-- The head was written. -/
theorem RGw.hdp (h : RGw w pb rc wc ap FA base kind s) {f' : Nat} {hs' : List Bool} (hm : Mod (· = pb) w w') (hd : w'.heap[pb]? = some (.cells (headR ap base kind f' hs' rc wc).toArray 57 (0, 0))) (hf : f' ≤ perN kind) (hl : hs'.length = s.hs.length) :
    RGw w' pb rc wc ap FA base kind { s with f := f', hs := hs' } ∧ Mod (fun j => ownR pb rc wc j ∨ FA j) w w' := by
  obtain ⟨d1, d2, d3⟩ := h.d
  exact ⟨⟨hd, h.ar.keep hm (fun j hj e => h.nF j (.inl e) hj), h.cr.keep hm d1.symm, h.cw.keep hm d2.symm, h.gr, h.gw, h.k8, hl.trans h.hl, hf, h.d, h.nF⟩, hm.mono fun j hj => .inl (.inl hj)⟩

/-! ### the cells -/

theorem RGw.c0 (h : RGw w pb rc wc ap FA base kind s) : w.cell? ((Addr.mk pb 0 none).add 0) = some (.pointer (some ⟨ap, 0, none⟩)) := dcell h.head rfl
theorem RGw.c1 (h : RGw w pb rc wc ap FA base kind s) : w.cell? ((Addr.mk pb 0 none).add 1) = some (.int .i64 (base : Int)) := dcell h.head rfl
theorem RGw.c2 (h : RGw w pb rc wc ap FA base kind s) : w.cell? ((Addr.mk pb 0 none).add 2) = some (.int .i64 (kind : Int)) := dcell h.head rfl
theorem RGw.c3 (h : RGw w pb rc wc ap FA base kind s) : w.cell? ((Addr.mk pb 0 none).add 3) = some (.int .i64 (s.f : Int)) := dcell h.head rfl
theorem RGw.c36 (h : RGw w pb rc wc ap FA base kind s) : w.cell? ((Addr.mk pb 0 none).add 36) = some (.pointer (some ⟨rc, 0, none⟩)) := dcell h.head (by rw [List.getElem?_toArray]; exact headR_r h.h32)
theorem RGw.c37 (h : RGw w pb rc wc ap FA base kind s) : w.cell? ((Addr.mk pb 0 none).add 37) = some (.pointer (some ⟨wc, 0, none⟩)) := dcell h.head (by rw [List.getElem?_toArray]; exact headR_w h.h32)
theorem RGw.cH (h : RGw w pb rc wc ap FA base kind s) {k : Nat} (hk : k < 32) : w.cell? (((Addr.mk pb 0 none).add 4).add k) = some (.bool (s.hs[k]?.getD false)) := dcell2 h.head (by
  rw [List.getElem?_toArray, Nat.zero_add, headR_had h.h32 hk, padH_get h.h32 hk]; rfl)

end

/-! ### what is asked -/

theorem rper_any {k : Nat} (hk : k < 8) (w : World) {R : Value → World → Prop} (r : ∀ w', Ext w w' → R (.int .i64 (perN k : Int)) w') : CallS Try.prog 12 #[.int .i64 (k : Int)] w R := by
  constructor
  refine VC.garthref03_Per.ok ?_
  unfold VC.garthref03_Per
  refine ifD_false (by omega) (ifD_false (by omega) ⟨VC.garthref03_Unit.ok ?_⟩)
  unfold VC.garthref03_Unit
  refine al_intro fun b w1 hb hE hs _ => ifD_false (by omega) (ifD_false (by omega) (ifD_true (by omega) ⟨by omega, by omega, ?_⟩))
  obtain ⟨d1, d2⟩ := tdiv_512 hk
  refine ⟨(unitN k : Int), ?_, _, rfl, d1, by rw [d2]; exact r w1 hE⟩
  rw [add_mk, Int.toNat_natCast, Nat.zero_add]
  refine cell_blk hb ?_
  match k, hk with
  | 0, _ => rfl
  | 1, _ => rfl
  | 2, _ => rfl
  | 3, _ => rfl
  | 4, _ => rfl
  | 5, _ => rfl
  | 6, _ => rfl
  | 7, _ => rfl

theorem runit_any {k : Nat} (hk : k < 8) (w : World) {R : Value → World → Prop} (r : ∀ w', Ext w w' → R (.int .i64 (unitN k : Int)) w') : CallS Try.prog 10 #[.int .i64 (k : Int)] w R := by
  constructor
  refine VC.garthref03_Unit.ok ?_
  unfold VC.garthref03_Unit
  refine al_intro fun b w1 hb hE hs _ => ifD_false (by omega) (ifD_false (by omega) (ifD_true (by omega) ⟨by omega, by omega, ?_⟩))
  refine ⟨(unitN k : Int), ?_, r w1 hE⟩
  rw [add_mk, Int.toNat_natCast, Nat.zero_add]
  refine cell_blk hb ?_
  match k, hk with
  | 0, _ => rfl
  | 1, _ => rfl
  | 2, _ => rfl
  | 3, _ => rfl
  | 4, _ => rfl
  | 5, _ => rfl
  | 6, _ => rfl
  | 7, _ => rfl

section
variable {w0 w w' : World} {K F : Nat → Prop} {pb ap base kind p : Nat} {s : St} {bs : List UInt8} {ts : List Tch}

theorem rfits_any (h : Ar w 61 p F bs ts) (b : Int) : Calls Try.prog 53 #[.pointer (some ⟨p, 0, none⟩), .int .i64 b] w
    (Ret fun r w' => r = .bool (decide (0 ≤ b ∧ b.tmod 512 = 0 ∧ b ≤ (bs.length : Int) - 512)) ∧ w' = w) := by
  have hsm := h.small
  obtain ⟨gb, v, h, rfl⟩ := h
  refine VC.garthref12_fits.ok ?_
  unfold VC.garthref12_fits
  refine ifD (fun h0 => ⟨by decide, ifB_intro (fun h1 => ?_) (fun h1 => ?_)⟩) (fun h0 => ⟨by rw [decide_eq_false (fun x => h0 x.1)], rfl⟩)
  · have h1' : b.tmod 512 = 0 := by simpa using h1
    refine ⟨_, _, _, h.slot0, ifD (fun h2 => ⟨_, _, _, h.slot0, congrArg Value.bool (decide_eq_decide.2 ?_), rfl⟩) (fun h2 => ⟨?_, rfl⟩)⟩
    · rw [wrap_i64 (by omega) (by omega)]
      exact ⟨fun x => ⟨h0, h1', by omega⟩, fun x => by omega⟩
    · rw [decide_eq_false (fun x => h2 (by omega))]
  · have h1' : ¬ b.tmod 512 = 0 := by simpa using h1
    exact ⟨by rw [decide_eq_false (fun x => h1' x.2.1)], rfl⟩

theorem count_take {l : List Bool} {j : Nat} {b : Bool} (h : l[j]? = some b) : (l.take (j + 1)).count true = (l.take j).count true + (if b then 1 else 0) := by
  rw [List.take_add_one, h, List.count_append]
  cases b <;> simp

theorem RGw.usedC {rc wc : Nat} {FA : Nat → Prop} (h : RGw w pb rc wc ap FA base kind s) {R : Value → World → Prop} (r : R (.int .i64 ((s.hs.count true : Nat) : Int)) w) :
    CallS Try.prog 23 #[.pointer (some ⟨pb, 0, none⟩)] w R := by
  constructor
  refine VC.garthref12_Page_Used.ok ?_
  unfold VC.garthref12_Page_Used
  have h32 := h.h32
  refine ⟨fun n c i w1 => ∃ j : Nat, i = (j : Int) ∧ n + j = 32 ∧ c = ((((padH s.hs).take j).count true : Nat) : Int) ∧ w1 = w, ⟨32, 0, rfl, rfl, by simp, rfl⟩, ?_⟩
  rintro n jv c i w1 ⟨j, rfl, hn, rfl, rfl⟩
  have hlen := padH_len h32
  have hcl : ((padH s.hs).take j).count true ≤ 32 := Nat.le_trans List.count_le_length (by rw [List.length_take]; omega)
  refine ifD (fun hj => ⟨by omega, by omega, _, by rw [Int.toNat_natCast]; exact h.cH (by omega), ?_⟩) (fun hj => ?_)
  · have hj : j < 32 := by omega
    have hg := padH_get h32 hj
    have e1 : IntKind.i64.wrap ((j : Int) + 1) = ((j + 1 : Nat) : Int) := by rw [wrap_i64 (by omega) (by omega)]; omega
    rw [e1]
    have ct := count_take hg
    cases hb : s.hs[j]?.getD false with
    | true =>
      rw [hb, if_pos rfl] at ct
      exact ⟨n - 1, by omega, j + 1, rfl, by omega, by rw [wrap_i64 (by omega) (by omega), ct]; omega, rfl⟩
    | false =>
      rw [hb, if_neg (by simp), Nat.add_zero] at ct
      exact ⟨n - 1, by omega, j + 1, rfl, by omega, by rw [ct, Nat.add_zero], rfl⟩
  · have : j = 32 := by omega
    subst this
    rw [List.take_of_length_le (by omega), count_pad]
    exact r

theorem RGs.usedC (h : RGs w0 K pb ap base kind s w) {R : Value → World → Prop} (r : R (.int .i64 ((s.hs.count true : Nat) : Int)) w) :
    CallS Try.prog 23 #[.pointer (some ⟨pb, 0, none⟩)] w R := by
  obtain ⟨rc, wc, FA, h, hn, hk, hE⟩ := h
  exact h.usedC r

theorem RGs.fullC (h : RGs w0 K pb ap base kind s w) {R : Value → World → Prop} (r : ∀ w', RGs w0 K pb ap base kind s w' → Mod (fun j => ¬ K j) w w' → R (.bool (decide (s.hs.count true = perN kind))) w') :
    CallS Try.prog 25 #[.pointer (some ⟨pb, 0, none⟩)] w R := by
  constructor
  refine VC.garthref12_Page_Full.ok ?_
  unfold VC.garthref12_Page_Full
  obtain ⟨rc, wc, FA, h, hn, hk, hE⟩ := h
  rintro w1 rfl
  have hE1 := Ext.drew w
  have h1 := h.keep hE1 (fun _ _ x => x)
  refine ⟨_, h1.c2, h1.usedC ⟨_, rfl, ⟨_, h1.c2, rfl⟩, rper_any h1.k8 _ fun w2 hE2 => ⟨_, rfl, ?_⟩⟩⟩
  have e : ((((s.hs.count true : Nat) : Int) == ((perN kind : Nat) : Int)) : Bool) = decide (s.hs.count true = perN kind) := by
    rw [Bool.eq_iff_iff]; simp; omega
  rw [e]
  have hE12 := hE1.trans hE2
  exact r w2 ⟨rc, wc, FA, h.keep hE12 (fun _ _ x => x), hn, fun j hj => ⟨(hk j hj).1, Nat.lt_of_lt_of_le (hk j hj).2 hE12.size⟩, hE.trans hE12⟩ hE12.mod

theorem RGs.hasC (h : RGs w0 K pb ap base kind s w) (k : Int) {R : Value → World → Prop} (r : ∀ w', RGs w0 K pb ap base kind s w' → Mod (fun j => ¬ K j) w w' → R (.bool (Sf.isTaken s.hs k)) w') :
    CallS Try.prog 26 #[.pointer (some ⟨pb, 0, none⟩), .int .i64 k] w R := by
  constructor
  refine VC.garthref12_Page_Has.ok ?_
  unfold VC.garthref12_Page_Has
  have out : ¬ Sf.InS s.hs k → Sf.isTaken s.hs k = false := fun q => Sf.isTaken_out q
  refine ifD (fun h0 => ?_) (fun h0 => ?_)
  · obtain ⟨rc, wc, FA, h, hn, hk, hE⟩ := h
    refine ⟨_, h.c2, rper_any h.k8 _ fun w1 hE1 => ⟨_, rfl, ?_⟩⟩
    have h1 := h.keep hE1 (fun _ _ x => x)
    have hR : RGs w0 K pb ap base kind s w1 := ⟨rc, wc, FA, h1, hn, fun j hj => ⟨(hk j hj).1, Nat.lt_of_lt_of_le (hk j hj).2 hE1.size⟩, hE.trans hE1⟩
    have h32 := h1.h32
    have hl := h1.hl
    obtain ⟨n, rfl⟩ := Int.eq_ofNat_of_zero_le h0
    refine ifD (fun h2 => ⟨by omega, by omega, _, by rw [Int.toNat_natCast]; exact h1.cH (by omega), ?_⟩) (fun h2 => ?_)
    · have hn' : n < s.hs.length := by omega
      have e : Sf.isTaken s.hs (n : Int) = (s.hs[n]?.getD false) := by
        rw [List.getElem?_eq_getElem hn']
        exact Sf.isTaken_at (List.getElem?_eq_getElem hn')
      have := r w1 hR hE1.mod
      rw [e] at this
      exact this
    · have := r w1 hR hE1.mod
      rw [out (fun q => by have := q.2; omega)] at this
      exact this
  · have := r w h (Mod.refl _ _)
    rw [out (fun q => h0 q.1)] at this
    exact this

end

end Go.Proofs.Ytkbgiflmecaffaa
