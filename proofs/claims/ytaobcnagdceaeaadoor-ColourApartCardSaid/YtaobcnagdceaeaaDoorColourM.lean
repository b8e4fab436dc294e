/- A colour map in memory, and contracts of package colour. Conditions: the map is there, the table of TrailingZeros64 is laid. -/
import Derived.Test.YtaobcnagdceaeaaDoorColourP
import Derived.Test.YtaobcnagdceaeaaDoorGwLaw
import Derived.Test.YtaobcnagdceaeaaDoorGwOwn
set_option linter.unusedVariables false
set_option linter.unusedSimpArgs false
namespace Go.Proofs.YtaobcnagdceaeaaDoor
open Go.RowKit

abbrev ptF (q : Nat × Nat) : List Value := [.pointer (some ⟨q.1, 0, none⟩)]
theorem pt_len (q : Nat × Nat) : (ptF q).length = 1 := rfl
theorem pt_one (q : Nat × Nat) (u : Value) (h : u ∈ ptF q) : u.oneCell' = true := by
  simp only [ptF, List.mem_singleton] at h
  subst h
  rfl

theorem elemPt : ElemOk Tryd.prog 81 23 1 8 := ⟨rfl, _, _, rfl, rfl, rfl, rfl, rfl⟩

/-- The blocks of a map. -/
def fpM (mb : Nat) (v : Value) (L : List (Nat × Nat)) (k : Nat) : Prop := k = mb ∨ v.ownBlock = some k ∨ ∃ q ∈ L, fpS q.1 q.2 k

structure MP (w : World) (mb : Nat) (P C : Int) (v : Value) (L : List (Nat × Nat)) (fs : List (List Bool)) : Prop where
  head : w.heap[mb]? = some (.cells #[.int .i64 P, .int .i64 C, v] 83 (0, 0))
  row : ORow w 23 1 ptF v L
  len : fs.length = L.length
  sh : ∀ (c p gb : Nat) (fl : List Bool), L[c]? = some (p, gb) → fs[c]? = some fl → SH w p gb fl
  own : ∀ k, v.ownBlock = some k → k ≠ mb ∧ ∀ q ∈ L, ¬ fpS q.1 q.2 k
  hd : ∀ q ∈ L, ¬ fpS q.1 q.2 mb
  dis : ∀ (c c' : Nat) (q q' : Nat × Nat), L[c]? = some q → L[c']? = some q' → c ≠ c' → ∀ k, fpS q.1 q.2 k → ¬ fpS q'.1 q'.2 k

section
variable {w : World} {mb : Nat} {P C : Int} {v : Value} {L : List (Nat × Nat)} {fs : List (List Bool)}

theorem MP.keep {F : Nat → Prop} {w' : World} (h : MP w mb P C v L fs) (hm : Mod F w w') (hF : ∀ k, fpM mb v L k → ¬ F k) : MP w' mb P C v L fs :=
  ⟨hm.keep h.head (hF mb (.inl rfl)), h.row.keep hm (fun b hb => hF b (.inr (.inl hb))), h.len,
    fun c p gb fl hc hf => (h.sh c p gb fl hc hf).keep hm (fun k hk => hF k (.inr (.inr ⟨(p, gb), List.mem_of_getElem? hc, hk⟩))), h.own, h.hd, h.dis⟩

theorem MP.ext {w' : World} (h : MP w mb P C v L fs) (hm : Ext w w') : MP w' mb P C v L fs := h.keep hm (fun _ _ x => x)

theorem MP.lt (h : MP w mb P C v L fs) : ∀ k, fpM mb v L k → k < w.heap.size := by
  rintro k (rfl | hk | ⟨q, hq, hk⟩)
  · exact lt_of_blk h.head
  · exact h.row.lt k hk
  · obtain ⟨c, hc⟩ := List.mem_iff_getElem?.1 hq
    obtain ⟨fl, hf⟩ : ∃ fl, fs[c]? = some fl := ⟨_, List.getElem?_eq_getElem (by have := (List.getElem?_eq_some_iff.1 hc).1; have := h.len; omega)⟩
    exact (h.sh c q.1 q.2 fl hc hf).lt k hk

theorem MP.c0 (h : MP w mb P C v L fs) : w.cell? (Addr.mk mb 0 none) = some (.int .i64 P) := cell_blk h.head rfl
theorem MP.c1 (h : MP w mb P C v L fs) : w.cell? (Addr.mk mb 1 none) = some (.int .i64 C) := cell_blk h.head rfl
theorem MP.c2 (h : MP w mb P C v L fs) : w.cell? (Addr.mk mb 2 none) = some v := cell_blk h.head rfl

/-- A shelf of the map, by its place. -/
theorem MP.at {p : Option Addr} {n cc : Nat} (h : MP w mb P C (.slice p n cc) L fs) {c : Nat} (hc : c < L.length) :
    ∃ (a : Addr) (q : Nat × Nat) (fl : List Bool), p = some a ∧ L[c]? = some q ∧ fs[c]? = some fl ∧ w.cell? (a.add c) = some (.pointer (some ⟨q.1, 0, none⟩)) ∧ SH w q.1 q.2 fl := by
  have hq : L[c]? = some L[c] := List.getElem?_eq_getElem hc
  have hf : fs[c]? = some (fs[c]'(by have := h.len; omega)) := List.getElem?_eq_getElem (by have := h.len; omega)
  obtain ⟨a, rfl, hcell⟩ := ORow.cells pt_len h.row hq
  have h0 := hcell 0 _ rfl
  rw [Nat.mul_one, Addr.add_add] at h0
  exact ⟨a, _, _, rfl, hq, hf, h0, h.sh c _ _ _ hq hf⟩

/-- One shelf has turned. -/
theorem MP.turn {w' : World} (h : MP w mb P C v L fs) {c : Nat} {q : Nat × Nat} {fl : List Bool} (hq : L[c]? = some q) (h' : SH w' q.1 q.2 fl) (hm : Mod (fpS q.1 q.2) w w') : MP w' mb P C v L (fs.set c fl) ∧ Mod (fpM mb v L) w w' := by
  have hmem := List.mem_of_getElem? hq
  refine ⟨⟨hm.keep h.head (h.hd q hmem), h.row.keep hm (fun b hb => (h.own b hb).2 q hmem), by simpa using h.len, fun c' p gb fl' hc hf => ?_, h.own, h.hd, h.dis⟩, hm.mono fun k hk => .inr (.inr ⟨q, hmem, hk⟩)⟩
  rw [List.getElem?_set] at hf
  by_cases e : c = c'
  · subst e
    rw [if_pos rfl] at hf
    split at hf
    · cases hf
      rw [hq] at hc
      cases hc
      exact h'
    · cases hf
  · rw [if_neg e] at hf
    exact (h.sh c' p gb fl' hc hf).keep hm (fun k hk => h.dis c' c _ _ hc hq (fun x => e x.symm) k hk)

/-- One shelf more: 'm.shelf = append(m.shelf, s)', the slice read before. -/
theorem MP.push (h : MP w mb P C v L fs) {p gb : Nat} {fl : List Bool} (hs : SH w p gb fl) (hn : ∀ k, fpS p gb k → ¬ fpM mb v L k) (hl : L.length < 1048576) {p1 : Option Addr} {n1 c1 : Nat} (hv : v = .slice p1 n1 c1)
    {b : Nat} {w1 : World} (hb : w1.heap[b]? = some (.cells #[.pointer (some ⟨p, 0, none⟩)] 23 (0, 0))) (hE : Ext w w1) (hsz : w.heap.size = b) {K : Option Addr → Nat → Nat → World → Prop}
    (k : ∀ (p2 : Option Addr) (n2 c2 : Nat) (w2 : World), WrC w2 (Addr.mk mb 2 none) 1 → (∀ w3 : World, w3 = wr w2 (Addr.mk mb 2 none) [.slice p2 n2 c2] → MP w3 mb P C (.slice p2 n2 c2) (L ++ [(p, gb)]) (fs ++ [fl]) ∧ Mod (fpM mb v L) w w3 ∧
      ∀ j, fpM mb (.slice p2 n2 c2) (L ++ [(p, gb)]) j → fpM mb v L j ∨ fpS p gb j ∨ w.heap.size ≤ j) → K p2 n2 c2 w2) :
    ∃ (p2 : Option Addr) (n2 c2 : Nat) (w2 : World), (Builtin.append_ #[81, 81] 81 #[.slice p1 n1 c1, .slice (some ⟨b, 0, none⟩) 1 1]).run Tryd.prog w1 = .ok (.slice p2 n2 c2) w2 ∧ K p2 n2 c2 w2 := by
  subst hv
  have h1 := h.ext hE
  obtain ⟨p2, c2, w2, hr, hrow, hm, hne⟩ := ORow.push elemPt pt_len pt_one h1.row 81 ⟨b, 0, none⟩ 1 (p, gb) (cells_all (vs := [_]) hb) (by simp only [maxLen]; omega) (by omega)
  have hlt := h.lt
  have hh2 := hm.keep h1.head (fun e => (h.own mb e).1 rfl)
  refine ⟨p2, _, c2, w2, hr, k p2 _ c2 w2 (wrC_blk hh2 (by simp)) ?_⟩
  rintro w3 rfl
  obtain ⟨g1, g2, g3⟩ := wr_blk (o := 2) [.slice p2 (L.length + 1) c2] hh2
  have hslt := hs.lt
  have ob : ∀ j, (Value.slice p2 (L.length + 1) c2).ownBlock = some j → j ≠ mb ∧ (∀ q ∈ L, ¬ fpS q.1 q.2 j) ∧ ¬ fpS p gb j := by
    intro j hj
    rcases hne j hj with e | e
    · exact ⟨(h.own j e).1, (h.own j e).2, fun hk => hn j hk (.inr (.inl e))⟩
    · have := hE.size
      refine ⟨fun q => ?_, fun q hq hk => ?_, fun hk => ?_⟩
      · have := hlt mb (.inl rfl); omega
      · have := hlt j (.inr (.inr ⟨q, hq, hk⟩)); omega
      · have := hslt j hk; omega
  have hmod : Mod (fpM mb (.slice p1 n1 c1) L) w (wr w2 (Addr.mk mb 2 none) [.slice p2 (L.length + 1) c2]) :=
    Mod.trans (Mod.trans (hE.mod (F := fpM mb (.slice p1 n1 c1) L)) hm (fun j _ hj => .inr (.inl hj))) g2 (fun j _ hj => .inl hj)
  refine ⟨⟨g1, hrow.keep g2 (fun j hj => (ob j hj).1), by simp [h.len], fun c p' gb' fl' hc hf => ?_, fun j hj => ⟨(ob j hj).1, fun q hq => ?_⟩, fun q hq => ?_, fun c c' q q' hq hq' hcc => ?_⟩, hmod, fun j hj => ?_⟩
  · by_cases e : c < L.length
    · rw [List.getElem?_append_left e] at hc
      rw [List.getElem?_append_left (by have := h.len; omega)] at hf
      have hm' : Mod (fun j => j = mb ∨ (Value.slice p1 n1 c1).ownBlock = some j) w (wr w2 (Addr.mk mb 2 none) [.slice p2 (L.length + 1) c2]) :=
        Mod.trans (Mod.trans (hE.mod (F := fun j => j = mb ∨ (Value.slice p1 n1 c1).ownBlock = some j)) hm (fun j _ hj => .inr hj)) g2 (fun j _ hj => .inl hj)
      refine (h.sh c p' gb' fl' hc hf).keep hm' fun j hj hF => ?_
      rcases hF with rfl | hF
      · exact h.hd _ (List.mem_of_getElem? hc) hj
      · exact (h.own j hF).2 _ (List.mem_of_getElem? hc) hj
    · have hcl := (List.getElem?_eq_some_iff.1 hc).1
      rw [List.length_append, List.length_singleton] at hcl
      have e2 : c = L.length := by omega
      subst e2
      rw [List.getElem?_append_right (Nat.le_refl _), Nat.sub_self] at hc
      rw [List.getElem?_append_right (by have := h.len; omega), show L.length - fs.length = 0 by have := h.len; omega] at hf
      simp only [List.getElem?_cons_zero, Option.some.injEq, Prod.mk.injEq] at hc hf
      obtain ⟨rfl, rfl⟩ := hc
      subst hf
      exact hs.keep hmod (fun j hj => hn j hj)
  · rcases List.mem_append.1 hq with hq | hq
    · exact (ob j hj).2.1 q hq
    · rw [List.mem_singleton.1 hq]; exact (ob j hj).2.2
  · rcases List.mem_append.1 hq with hq | hq
    · exact h.hd q hq
    · rw [List.mem_singleton.1 hq]; exact fun hk => hn mb hk (.inl rfl)
  · have two : ∀ {c : Nat} {q : Nat × Nat}, (L ++ [(p, gb)])[c]? = some q → (c < L.length ∧ L[c]? = some q) ∨ (c = L.length ∧ q = (p, gb)) := by
      intro c q hq
      by_cases e : c < L.length
      · rw [List.getElem?_append_left e] at hq; exact .inl ⟨e, hq⟩
      · have hcl := (List.getElem?_eq_some_iff.1 hq).1
        rw [List.length_append, List.length_singleton] at hcl
        have e2 : c = L.length := by omega
        subst e2
        rw [List.getElem?_append_right (Nat.le_refl _), Nat.sub_self] at hq
        simp only [List.getElem?_cons_zero, Option.some.injEq] at hq
        exact .inr ⟨rfl, hq.symm⟩
    intro j hj hj'
    rcases two hq with ⟨e, hq⟩ | ⟨e, rfl⟩ <;> rcases two hq' with ⟨e', hq'⟩ | ⟨e', rfl⟩
    · exact h.dis c c' q q' hq hq' hcc j hj hj'
    · exact hn j hj' (.inr (.inr ⟨q, List.mem_of_getElem? hq, hj⟩))
    · exact hn j hj (.inr (.inr ⟨q', List.mem_of_getElem? hq', hj'⟩))
    · exact hcc (by omega)
  · rcases hj with rfl | hj | ⟨q, hq, hk⟩
    · exact .inl (.inl rfl)
    · rcases hne j hj with e | e
      · exact .inl (.inr (.inl e))
      · have := hE.size; exact .inr (.inr (by omega))
    · rcases List.mem_append.1 hq with hq | hq
      · exact .inl (.inr (.inr ⟨q, hq, hk⟩))
      · rw [List.mem_singleton.1 hq] at hk; exact .inr (.inl hk)

end

/-- A configuration that may be. -/
def CfgOk (P C : Int) : Prop := 1 ≤ C ∧ C ≤ 32 ∧ 1 ≤ P ∧ P ≤ 4096 ∧ P.tmod C = 0

instance (P C : Int) : Decidable (CfgOk P C) := inferInstanceAs (Decidable (_ ∧ _))

/-- A map of n * C pages, of which hs are taken; F: its blocks, among others. -/
structure MH (w : World) (mb : Nat) (F : Nat → Prop) (n C : Nat) (hs : List Bool) : Prop where
  n1 : 1 ≤ n
  c1 : 1 ≤ C
  c32 : C ≤ 32
  p4 : n * C ≤ 4096
  len : hs.length = n * C
  ok : ∃ v L, MP w mb ((n * C : Nat) : Int) (C : Int) v L (cols hs C n) ∧ L.length = C ∧ ∀ k, fpM mb v L k → F k
  lt : ∀ k, F k → k < w.heap.size

section
variable {w : World} {mb n C : Nat} {F : Nat → Prop} {hs : List Bool}

theorem MH.keep {G : Nat → Prop} {w' : World} (h : MH w mb F n C hs) (hm : Mod G w w') (hF : ∀ k, F k → ¬ G k) : MH w' mb F n C hs := by
  obtain ⟨v, L, h1, h2, h3⟩ := h.ok
  exact ⟨h.n1, h.c1, h.c32, h.p4, h.len, ⟨v, L, h1.keep hm (fun k hk => hF k (h3 k hk)), h2, h3⟩, fun k hk => Nat.lt_of_lt_of_le (h.lt k hk) hm.size⟩

theorem MH.ext {w' : World} (h : MH w mb F n C hs) (hm : Ext w w') : MH w' mb F n C hs := h.keep hm (fun _ _ x => x)

theorem colour_any (h : MH w mb F n C hs) (c : Int) : Calls Tryd.prog 54 #[.pointer (some ⟨mb, 0, none⟩), .int .i64 c] w (Ret fun r w' => r = .bool (decide (0 ≤ c ∧ c < C)) ∧ w' = w) := by
  obtain ⟨v, L, h1, h2, h3⟩ := h.ok
  obtain ⟨p, cc, rfl⟩ := h1.row.shape
  refine VC.colour_Map_colour.ok ?_
  unfold VC.colour_Map_colour
  simp only [someA, add_mk, Nat.zero_add]
  refine ifD (fun h0 => ⟨_, _, _, h1.c2, ?_, by trivial⟩) (fun h0 => ⟨by rw [decide_eq_false (by omega)], by trivial⟩)
  rw [h2]
  exact congrArg Value.bool (decide_eq_decide.2 (by omega))

theorem mwithin_any (h : MH w mb F n C hs) (k : Int) : Calls Tryd.prog 55 #[.pointer (some ⟨mb, 0, none⟩), .int .i64 k] w (Ret fun r w' => r = .bool (decide (InS hs k)) ∧ w' = w) := by
  obtain ⟨v, L, h1, h2, h3⟩ := h.ok
  have hlen := h.len
  refine VC.colour_Map_within.ok ?_
  unfold VC.colour_Map_within
  simp only [someA, add_mk, Nat.zero_add]
  refine ifB_true rfl (ifD (fun h0 => ⟨_, h1.c0, ?_, by trivial⟩) (fun h0 => ⟨by rw [decide_eq_false (by omega)], by trivial⟩))
  exact congrArg Value.bool (decide_eq_decide.2 (by omega))

theorem tmod_nat (a b : Nat) : ((a : Nat) : Int).tmod (b : Int) = ((a % b : Nat) : Int) := (Int.ofNat_tmod a b).symm
theorem tdiv_nat (a b : Nat) : ((a : Nat) : Int).tdiv (b : Int) = ((a / b : Nat) : Int) := (Int.ofNat_tdiv a b).symm

theorem mcolour_any (h : MH w mb F n C hs) (k : Int) : Calls Tryd.prog 36 #[.pointer (some ⟨mb, 0, none⟩), .int .i64 k] w (Ret fun r w' => r = .int .i64 (mCol hs.length C k) ∧ w' = w) := by
  obtain ⟨v, L, h1, h2, h3⟩ := h.ok
  have hc1 := h.c1
  refine VC.colour_Map_Colour.ok ?_
  unfold VC.colour_Map_Colour
  refine .of (mwithin_any h k) ?_
  rintro r w1 ⟨rfl, rfl⟩
  refine ⟨_, rfl, ?_⟩
  by_cases hin : InS hs k
  · rw [decide_eq_true hin]
    simp only [someA, add_mk, Nat.zero_add]
    exact ifB_false rfl ⟨_, h1.c1, by omega, by rw [mCol, if_pos hin], by trivial⟩
  · rw [decide_eq_false hin]
    exact ifB_true rfl ⟨by rw [mCol, if_neg hin], rfl⟩

theorem each_any (h : MH w mb F n C hs) : Calls Tryd.prog 46 #[.pointer (some ⟨mb, 0, none⟩)] w (Ret fun r w' => r = .int .i64 (n : Int) ∧ Ext w w') := by
  have hc1 := h.c1
  have hp4 := h.p4
  refine VC.colour_Map_Each.ok ?_
  unfold VC.colour_Map_Each
  refine ifB_false rfl ?_
  rintro w0 rfl
  obtain ⟨v, L, h1, h2, h3⟩ := (h.ext (Ext.drew w)).ok
  simp only [someA, add_mk, Nat.zero_add]
  refine ⟨_, h1.c0, _, h1.c1, by omega, by trivial, ?_, Ext.drew w⟩
  have hle : n ≤ n * C := Nat.le_mul_of_pos_right n (by omega)
  rw [tdiv_nat, Nat.mul_div_cancel _ (by omega), wrap_i64 (by omega) (by omega)]

/-- The free pages of a colour's shelf, and the lowest one of the colour. -/
theorem lowest_col (h : MH w mb F n C hs) {c : Nat} (hc : c < C) : ∃ o : Option Nat, IsLow (FrP hs C [(c : Int)]) (o.map fun k => k * C + c) ∧ lowI (col hs C n c) = (match o with | some k => (k : Int) | none => -1) ∧ (∀ k, o = some k → k < n) := by
  have hl := col_low h.len hc
  refine ⟨_, hl, rfl, fun k hk => ?_⟩
  have := (List.getElem?_eq_some_iff.1 (low_at hk).1).1
  rwa [col_len] at this

/-- The shelf of a page, and what turns with it. -/
theorem MH.page (h : MH w mb F n C hs) {p : Nat} (hp : p < hs.length) : p % C < C ∧ p / C < n ∧ (∀ b, (col hs C n (p % C))[p / C]? = some b ↔ hs[p]? = some b) := by
  have hc1 := h.c1
  have hc : p % C < C := Nat.mod_lt _ (by omega)
  have hd : p / C < n := (Nat.div_lt_iff_lt_mul (by omega)).2 (by rw [← h.len]; exact hp)
  exact ⟨hc, hd, fun b => by rw [col_get' h.len hc hd, page_split]⟩

/-- The call's operand chain 'm.shelf[page%C]', 'page/C' in the world w1. -/
theorem MH.turn {w' : World} (h : MH w mb F n C hs) {v : Value} {L : List (Nat × Nat)} (h1 : MP w mb ((n * C : Nat) : Int) (C : Int) v L (cols hs C n)) (h2 : L.length = C) (h3 : ∀ k, fpM mb v L k → F k) {p : Nat} (hp : p < hs.length) {q : Nat × Nat} {b : Bool}
    (hq : L[p % C]? = some q) (h' : SH w' q.1 q.2 ((col hs C n (p % C)).set (p / C) b)) (hm : Mod (fpS q.1 q.2) w w') : MH w' mb F n C (hs.set p b) ∧ Mod F w w' := by
  obtain ⟨g1, g2⟩ := h1.turn hq h' hm
  rw [cols_set h.len hp] at g1
  exact ⟨⟨h.n1, h.c1, h.c32, h.p4, by simpa using h.len, ⟨v, L, g1, h2, h3⟩, fun k hk => Nat.lt_of_lt_of_le (h.lt k hk) hm.size⟩, g2.mono h3⟩

theorem col_isTaken (h : MH w mb F n C hs) {p : Nat} (hp : p < hs.length) : isTaken (col hs C n (p % C)) ((p / C : Nat) : Int) = isTaken hs (p : Int) := by
  obtain ⟨hc, hd, hb⟩ := h.page hp
  obtain ⟨b, hbp⟩ : ∃ b, hs[p]? = some b := ⟨_, List.getElem?_eq_getElem hp⟩
  rw [isTaken_at hbp, isTaken_at ((hb b).2 hbp)]

theorem mtaken_any (h : MH w mb F n C hs) (k : Int) : Calls Tryd.prog 33 #[.pointer (some ⟨mb, 0, none⟩), .int .i64 k] w (Ret fun r w' => r = .bool (isTaken hs k) ∧ Ext w w') := by
  have hc1 := h.c1
  refine VC.colour_Map_Taken.ok ?_
  unfold VC.colour_Map_Taken
  rintro w0 rfl
  have hE := Ext.drew w
  have h0 := h.ext hE
  refine .of (mwithin_any h0 k) ?_
  rintro r w1 ⟨rfl, rfl⟩
  refine ⟨_, rfl, ?_⟩
  by_cases hin : InS hs k
  case neg =>
    rw [decide_eq_false hin]
    exact ifB_false rfl ⟨rfl, by rw [isTaken_out hin], hE⟩
  rw [decide_eq_true hin]
  obtain ⟨p, rfl⟩ := Int.eq_ofNat_of_zero_le hin.1
  have hp : p < hs.length := by omega
  obtain ⟨hc, hd, _⟩ := h0.page hp
  obtain ⟨v, L, h1, h2, h3⟩ := h0.ok
  obtain ⟨pv, cc, rfl⟩ := h1.row.shape
  obtain ⟨a, q, fl, rfl, hq, hf, hcell, hsh⟩ := h1.at (c := p % C) (by omega)
  rw [cols_get hc] at hf
  cases hf
  have hp4 := h.p4
  have hle : p / C ≤ p := Nat.div_le_self _ _
  have hlen := h.len
  have em := tmod_nat p C
  have hd0 := Int.natCast_nonneg (p / C)
  simp only [someA, add_mk, Nat.zero_add]
  refine ifB_true rfl ⟨_, _, _, h1.c2, _, h1.c1, by omega, by trivial, by omega, by omega, ?_⟩
  rw [em, Int.toNat_natCast]
  refine ⟨by trivial, _, hcell, _, h1.c1, by omega, by trivial, ?_⟩
  rw [tdiv_nat, wrap_i64 (n := ((p / C : Nat) : Int)) (by omega) (by omega)]
  refine .of (taken_any hsh _) ?_
  rintro r w2 ⟨rfl, rfl⟩
  refine ⟨_, rfl, by trivial, ?_, hE⟩
  exact congrArg Value.bool (col_isTaken h0 hp)

theorem mgive_any (h : MH w mb F n C hs) (k : Int) : Calls Tryd.prog 37 #[.pointer (some ⟨mb, 0, none⟩), .int .i64 k] w (Ret fun r w' => r = .int .i64 (giveE hs k) ∧ MH w' mb F n C (giveH hs k) ∧ Mod F w w') := by
  have hc1 := h.c1
  refine VC.colour_Map_Give.ok ?_
  unfold VC.colour_Map_Give
  refine ifB_false rfl (.of (mwithin_any h k) ?_)
  rintro r w1 ⟨rfl, rfl⟩
  refine ⟨_, rfl, ?_⟩
  by_cases hin : InS hs k
  case neg =>
    rw [decide_eq_false hin]
    exact ifB_true rfl ⟨by simp only [giveE, if_neg hin], by simpa only [giveH, if_neg hin] using h, Mod.refl _ _⟩
  rw [decide_eq_true hin]
  refine ifB_false rfl ?_
  rintro w2 rfl
  have hE := Ext.drew w1
  have h0 := h.ext hE
  obtain ⟨p, rfl⟩ := Int.eq_ofNat_of_zero_le hin.1
  have hp : p < hs.length := by omega
  obtain ⟨hc, hd, hbit⟩ := h0.page hp
  obtain ⟨v, L, h1, h2, h3⟩ := h0.ok
  obtain ⟨pv, cc, rfl⟩ := h1.row.shape
  obtain ⟨a, q, fl, rfl, hq, hf, hcell, hsh⟩ := h1.at (c := p % C) (by omega)
  rw [cols_get hc] at hf
  cases hf
  have hp4 := h.p4
  have hle : p / C ≤ p := Nat.div_le_self _ _
  have hlen := h.len
  have em := tmod_nat p C
  have hd0 := Int.natCast_nonneg (p / C)
  simp only [someA, add_mk, Nat.zero_add]
  refine ⟨_, _, _, h1.c2, _, h1.c1, by omega, by trivial, by omega, by omega, ?_⟩
  rw [em, Int.toNat_natCast]
  refine ⟨by trivial, _, hcell, _, h1.c1, by omega, by trivial, ?_⟩
  rw [tdiv_nat, wrap_i64 (n := ((p / C : Nat) : Int)) (by omega) (by omega)]
  refine .of (give_any hsh _) ?_
  rintro r w3 ⟨rfl, h4, hm⟩
  have hin' : InS (col hs C n (p % C)) ((p / C : Nat) : Int) := by rw [InS, col_len]; omega
  have e1 : giveH (col hs C n (p % C)) ((p / C : Nat) : Int) = (col hs C n (p % C)).set (p / C) false := by simp only [giveH, if_pos hin', Int.toNat_natCast]
  rw [e1] at h4
  obtain ⟨g1, g2⟩ := h0.turn h1 h2 h3 hp hq h4 hm
  refine ⟨_, rfl, ?_, by simpa only [giveH, if_pos hin, Int.toNat_natCast] using g1, Mod.trans (hE.mod (F := F)) g2 (fun _ _ x => x)⟩
  simp only [giveE, if_pos hin', if_pos hin, Int.toNat_natCast, hbit]

end

end Go.Proofs.YtaobcnagdceaeaaDoor
