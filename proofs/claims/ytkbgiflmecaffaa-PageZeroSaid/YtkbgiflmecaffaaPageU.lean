/- Page: what is given out is 0, and what is had is left alone. Conditions: none. -/
import Derived.Test.YtkbgiflmecaffaaPageP
import Derived.Test.YtkbgiflmecaffaaGwRange
set_option linter.unusedVariables false
set_option linter.unusedSimpArgs false
namespace Go.Proofs.Ytkbgiflmecaffaa
open Go.RowKit

theorem Inv.aloZ {u p base : Nat} {R W : List Nat} {s : St} (I : Inv u p base R W s) (g : CfgC s.bs.length base u p s.hr) (gw : CfgC s.bs.length base u p s.hw) :
    (R = [] ∧ W = [] ∧ s.f = p ∧ aloI u p base s = 0 ∧ aloE u p base s = 10 ∧ aloS u p base s = s) ∨
    (∃ (k : Nat) (R' W' : List Nat), aloI u p base s = (k : Int) ∧ aloE u p base s = 0 ∧ k < p ∧ s.hs[k]? = some false ∧ (aloS u p base s).hs = s.hs.set k true ∧ Inv u p base R' W' (aloS u p base s) ∧
      ((aloS u p base s).bs = putAt s.bs (base + k * u) (le8 0) ∧ (aloS u p base s).f = s.f ∨ (aloS u p base s).bs = s.bs ∧ k = s.f ∧ (aloS u p base s).f = s.f + 1)) := by
  cases R with
  | cons k R =>
    have h0 : 0 ≤ s.hr := by rw [I.hr]; simp [headI, lnk]
    obtain ⟨a, b, c, d, e, e', e'', f⟩ := I.pop g
    have e1 : aloS u p base s = outS u p base s := if_pos h0
    refine .inr ⟨k, R, W, ?_, ?_, c, d, by rw [e1, e], by rw [e1]; exact f, .inl ⟨by rw [e1, e'], by rw [e1, e'']⟩⟩
    · rw [aloI, if_pos h0, a]
    · rw [aloE, if_pos h0, b]
  | nil =>
    have h0 : ¬ 0 ≤ s.hr := by rw [I.hr]; simp [headI, lnk]
    cases W with
    | cons k W =>
      have h1 : 0 ≤ s.hw := by rw [I.hw]; simp [headI, lnk]
      obtain ⟨a, b, c, d, e, e', e'', f⟩ := I.col.pop (s := colS s) gw
      have e1 : aloS u p base s = outS u p base (colS s) := by rw [aloS, if_neg h0, if_pos h1]
      refine .inr ⟨k, W, [], ?_, ?_, c, d, by rw [e1, e]; rfl, by rw [e1]; exact f, .inl ⟨by rw [e1, e']; rfl, by rw [e1, e'']; rfl⟩⟩
      · rw [aloI, if_neg h0, if_pos h1, a]
      · rw [aloE, if_neg h0, if_pos h1, b]
    | nil =>
      have h1 : ¬ 0 ≤ s.hw := by rw [I.hw]; simp [headI, lnk]
      by_cases hf : s.f = p
      · exact .inl ⟨rfl, rfl, hf, by rw [aloI, if_neg h0, if_neg h1, if_pos hf], by rw [aloE, if_neg h0, if_neg h1, if_pos hf], by rw [aloS, if_neg h0, if_neg h1, if_pos hf]⟩
      · have hlt : s.f < p := Nat.lt_of_le_of_ne I.fl hf
        obtain ⟨a, b, c, d⟩ := I.fresh hlt
        have e1 : aloS u p base s = takS { s with f := s.f + 1 } (s.f : Int) := by rw [aloS, if_neg h0, if_neg h1, if_neg hf]
        exact .inr ⟨s.f, [], [], by rw [aloI, if_neg h0, if_neg h1, if_neg hf], by rw [aloE, if_neg h0, if_neg h1, if_neg hf, b], hlt, a, by rw [e1, c], by rw [e1]; exact d, .inr ⟨by rw [e1]; rfl, rfl, by rw [e1]; rfl⟩⟩

/-- What those who have blocks wrote there. -/
def mmap (u p : Nat) (s : St) : Int → Option Value := fun k => if 0 ≤ k ∧ k < (p : Int) ∧ s.hs[k.toNat]? = some true then some (.string (strOf (seg s.bs (k.toNat * u) u))) else none

structure Zr (u p : Nat) (s : St) : Prop where
  tail : ∀ q, q < p → s.hs[q]? = some false → (seg s.bs (q * u) u).drop 8 = List.replicate (u - 8) 0
  fresh : ∀ q, q < p → s.f ≤ q → seg s.bs (q * u) u = List.replicate u 0

/-- No block but the n-th has turned. -/
def Far (u p n : Nat) (bs bs' : List UInt8) : Prop := ∀ q, q < p → q ≠ n → seg bs' (q * u) u = seg bs (q * u) u

section
variable {u p : Nat} {R W : List Nat} {s s' : St} {head : Int}

theorem far_put {bs l : List UInt8} (g : CfgC bs.length 0 u p head) {n : Nat} (hn : n < p) (hl : l.length ≤ u) : Far u p n bs (putAt bs (0 + n * u) l) := by
  intro q hq hne
  have h1 := unit_fit g hn
  have h2 := unit_fit g hq
  have := blk_apart (base := 0) (unit := u) (j := n) (k := q) (fun e => hne e.symm)
  exact seg_far (by omega) (by omega) (by omega)

theorem Far.trans {n : Nat} {a b c : List UInt8} (h : Far u p n a b) (h' : Far u p n b c) : Far u p n a c := fun q hq hne => (h' q hq hne).trans (h q hq hne)

theorem mmap_set {n : Nat} {b : Bool} (hn : n < p) (hlen : s.hs.length = p) (hh : s'.hs = s.hs.set n b) (hf : Far u p n s.bs s'.bs) :
    mmap u p s' = upd (mmap u p s) (n : Int) (if b then some (.string (strOf (seg s'.bs (n * u) u))) else none) := by
  funext k
  show (if 0 ≤ k ∧ k < (p : Int) ∧ s'.hs[k.toNat]? = some true then some (Value.string (strOf (seg s'.bs (k.toNat * u) u))) else none) =
    if k = (n : Int) then (if b then some (.string (strOf (seg s'.bs (n * u) u))) else none) else (if 0 ≤ k ∧ k < (p : Int) ∧ s.hs[k.toNat]? = some true then some (Value.string (strOf (seg s.bs (k.toNat * u) u))) else none)
  rw [hh]
  by_cases e : k = (n : Int)
  · subst e
    have e2 : (s.hs.set n b)[n]? = some b := by rw [List.getElem?_set, if_pos rfl, if_pos (by rw [hlen]; exact hn)]
    rw [if_pos (rfl : (n : Int) = (n : Int)), Int.toNat_natCast, e2]
    cases b with
    | true => rw [if_pos ⟨by omega, by omega, rfl⟩]; rfl
    | false => rw [if_neg (fun x => by cases x.2.2)]; rfl
  · rw [if_neg e]
    by_cases h0 : 0 ≤ k ∧ k < (p : Int)
    · obtain ⟨q, rfl⟩ := Int.eq_ofNat_of_zero_le h0.1
      have hne : n ≠ q := fun x => e (by rw [x])
      rw [Int.toNat_natCast, List.getElem?_set, if_neg hne, hf q (by omega) (fun x => hne x.symm)]
    · rw [if_neg (fun x => h0 ⟨x.1, x.2.1⟩), if_neg (fun x => h0 ⟨x.1, x.2.1⟩)]

/-- The same, where who is had stays. -/
theorem mmap_same (hh : s'.hs = s.hs) (hb : s'.bs = s.bs) : mmap u p s' = mmap u p s := by
  funext k
  unfold mmap
  rw [hh, hb]

theorem mmap_at {n : Nat} (hn : n < p) : mmap u p s (n : Int) = if s.hs[n]? = some true then some (.string (strOf (seg s.bs (n * u) u))) else none := by
  unfold mmap
  rw [Int.toNat_natCast]
  by_cases h : s.hs[n]? = some true
  · rw [if_pos ⟨by omega, by omega, h⟩, if_pos h]
  · rw [if_neg (fun x => h x.2.2), if_neg h]

theorem mmap_some {k : Int} {v : Value} (h : mmap u p s k = some v) : ∃ n : Nat, k = (n : Int) ∧ n < p ∧ s.hs[n]? = some true ∧ v = .string (strOf (seg s.bs (n * u) u)) := by
  unfold mmap at h
  split at h
  · rename_i q
    obtain ⟨n, rfl⟩ := Int.eq_ofNat_of_zero_le q.1
    rw [Int.toNat_natCast] at q h
    exact ⟨n, rfl, by omega, q.2.2, (Option.some.inj h).symm⟩
  · cases h

theorem Zr.init (kind : Nat) (n : Nat) (h : unitN kind * perN kind ≤ n) (ts : List Tch) : Zr (unitN kind) (perN kind) (newSt kind (List.replicate n 0) ts) := by
  have fit : ∀ q, q < perN kind → q * unitN kind + unitN kind ≤ n := fun q hq => by
    have := Nat.mul_le_mul_right (unitN kind) (show q + 1 ≤ perN kind from hq)
    rw [Nat.add_mul, Nat.one_mul, Nat.mul_comm (perN kind)] at this
    omega
  have e : ∀ q, q < perN kind → seg (List.replicate n (0 : UInt8)) (q * unitN kind) (unitN kind) = List.replicate (unitN kind) 0 := fun q hq => seg_zeros (fit q hq)
  refine ⟨fun q hq _ => ?_, fun q hq _ => e q hq⟩
  show (seg (List.replicate n (0 : UInt8)) (q * unitN kind) (unitN kind)).drop 8 = _
  rw [e q hq, List.drop_replicate]

theorem le8_zero : le8 0 = List.replicate 8 0 := by decide +kernel

theorem seg_put8 {bs l : List UInt8} (g : CfgC bs.length 0 u p head) {n : Nat} (hn : n < p) (hl : l.length = 8) : seg (putAt bs (0 + n * u) l) (n * u) u = l ++ (seg bs (n * u) u).drop 8 := by
  have h1 := unit_fit g hn
  have u8 := g.u8
  have hp : (putAt bs (0 + n * u) l).length = bs.length := putAt_length (by omega)
  apply List.ext_getElem?
  intro j
  by_cases hj : j < u
  · rw [seg_get hj, putAt_get (by omega)]
    by_cases h8 : j < 8
    · rw [if_pos (by omega), List.getElem?_append_left (by omega)]
      congr 1
      omega
    · rw [if_neg (by omega), List.getElem?_append_right (by omega), List.getElem?_drop, hl, seg_get (by omega)]
      congr 1
      omega
  · rw [List.getElem?_eq_none (by rw [seg_length (by omega)]; omega), List.getElem?_eq_none (by rw [List.length_append, List.length_drop, seg_length (by omega)]; omega)]

theorem seg_whole {bs l : List UInt8} (g : CfgC bs.length 0 u p head) {n : Nat} (hn : n < p) (hl : l.length = u) : seg (putAt bs (0 + n * u) l) (n * u) u = l := by
  have h1 := unit_fit g hn
  have := seg_putAt (bs := bs) (l := l) (a := 0 + n * u) (by omega)
  rw [hl, Nat.zero_add] at this
  rw [Nat.zero_add]
  exact this

/-- A block is given out: it is 0. -/
theorem Zr.alo (Z : Zr u p s) (I : Inv u p 0 R W s) (g : CfgC s.bs.length 0 u p s.hr) (gw : CfgC s.bs.length 0 u p s.hw) :
    (s.hs.count true = p ∧ aloE u p 0 s = 10 ∧ aloS u p 0 s = s) ∨
    (∃ (k : Nat) (R' W' : List Nat), aloI u p 0 s = (k : Int) ∧ aloE u p 0 s = 0 ∧ k < p ∧ s.hs[k]? = some false ∧ (aloS u p 0 s).hs = s.hs.set k true ∧ Inv u p 0 R' W' (aloS u p 0 s) ∧
      Far u p k s.bs (aloS u p 0 s).bs ∧ seg (aloS u p 0 s).bs (k * u) u = List.replicate u 0 ∧ s.f ≤ (aloS u p 0 s).f) := by
  rcases I.aloZ g gw with ⟨a, b, c, d, e, f⟩ | ⟨k, R', W', a, b, c, d, e, f, h⟩
  · exact .inl ⟨I.full.2 ⟨a, b, c⟩, e, f⟩
  · refine .inr ⟨k, R', W', a, b, c, d, e, f, ?_⟩
    have u8 := g.u8
    rcases h with ⟨h1, h2⟩ | ⟨h1, h2, h3⟩
    · rw [h1, h2]
      refine ⟨far_put g c (by rw [le8_length]; omega), ?_, Nat.le_refl _⟩
      rw [seg_put8 g c (le8_length 0), Z.tail k c d, le8_zero, List.replicate_append_replicate]
      congr 1
      omega
    · rw [h1, h3]
      exact ⟨fun _ _ _ => rfl, Z.fresh k c (by omega), by omega⟩

/-- Behind a step at block n alone. -/
theorem Zr.step {n : Nat} {b : Bool} (Z : Zr u p s) (hh : s'.hs = s.hs.set n b) (hlen : s.hs.length = p) (hn : n < p) (hf : Far u p n s.bs s'.bs) (hs : s.f ≤ s'.f) (ht : b = false → (seg s'.bs (n * u) u).drop 8 = List.replicate (u - 8) 0) (hfr : n < s'.f) : Zr u p s' := by
  refine ⟨fun q hq hq' => ?_, fun q hq hq' => ?_⟩
  · rw [hh, List.getElem?_set] at hq'
    by_cases e : n = q
    · subst e
      rw [if_pos rfl, if_pos (by omega)] at hq'
      exact ht (Option.some.inj hq')
    · rw [if_neg e] at hq'
      rw [hf q hq (fun x => e x.symm)]
      exact Z.tail q hq hq'
  · have e : q ≠ n := fun x => by omega
    rw [hf q hq e]
    exact Z.fresh q hq (by omega)

/-- A block is taken back. -/
theorem Zr.fre (Z : Zr u p s) (I : Inv u p 0 R W s) (g : CfgC s.bs.length 0 u p s.hw) (k : Int) :
    (Sf.giveE s.hs k ≠ 0 ∧ freS u p 0 s k = s ∧ mmap u p s k = none) ∨
    (Sf.giveE s.hs k = 0 ∧ ∃ n : Nat, k = (n : Int) ∧ n < p ∧ s.hs[n]? = some true ∧ (freS u p 0 s k).hs = s.hs.set n false ∧ Inv u p 0 R (n :: W) (freS u p 0 s k) ∧ Far u p n s.bs (freS u p 0 s k).bs ∧ Zr u p (freS u p 0 s k)) := by
  rcases I.fre g k with ⟨a, b⟩ | ⟨a, n, rfl, hn, hh, e1, e2, I'⟩
  · refine .inl ⟨a, b, ?_⟩
    unfold mmap
    rw [if_neg]
    rintro ⟨h0, h1, h2⟩
    have hin : Sf.InS s.hs k := ⟨h0, by rw [I.len]; exact h1⟩
    rw [Sf.giveE, if_pos hin, if_pos h2] at a
    exact a rfl
  · have hnf : n < s.f := by
      have := I.had n hn
      rw [hh] at this
      exact (of_decide_eq_true (Option.some.inj this).symm).1
    have hlen := I.len
    have fit := unit_fit g hn
    have hzl : (putAt s.bs (0 + n * u) (List.replicate u 0)).length = s.bs.length := putAt_length (by rw [List.length_replicate]; omega)
    have g2 : CfgC (putAt s.bs (0 + n * u) (List.replicate u 0)).length 0 u p s.hw := by rw [hzl]; exact g
    have eb : (freS u p 0 s (n : Int)).bs = putAt (putAt s.bs (0 + n * u) (List.replicate u 0)) (0 + n * u) (le8 (s.hw + 1).toNat) := by
      unfold freS
      rw [if_pos a, Int.toNat_natCast]
      rfl
    have u8 := g.u8
    have hf : Far u p n s.bs (freS u p 0 s (n : Int)).bs := by
      rw [eb]
      exact (far_put g hn (by rw [List.length_replicate]; exact Nat.le_refl _)).trans (far_put g2 hn (by rw [le8_length]; omega))
    refine .inr ⟨a, n, rfl, hn, hh, e1, I', hf, Z.step e1 hlen hn hf (by rw [e2]; exact Nat.le_refl _) (fun _ => ?_) (by rw [e2]; exact hnf)⟩
    rw [eb, seg_put8 g2 hn (le8_length _), seg_whole g hn List.length_replicate, List.drop_append_of_le_length (by rw [le8_length]; exact Nat.le_refl _), List.drop_eq_nil_of_le (by rw [le8_length]; exact Nat.le_refl _), List.nil_append, List.drop_replicate]

/-- Who has a block writes there. -/
theorem Inv.put (I : Inv u p 0 R W s) (g : CfgC s.bs.length 0 u p s.hw) {n : Nat} (hn : n < p) (hh : s.hs[n]? = some true) {l : List UInt8} (hl : l.length = u) (ts : List Tch) : Inv u p 0 R W { s with bs := putAt s.bs (0 + n * u) l, ts := ts } := by
  have hd := I.had n hn
  rw [hh] at hd
  have hni := (of_decide_eq_true (Option.some.inj hd).symm).2
  have keepL : ∀ {S : List Nat}, (∀ q ∈ S, q ∈ R ++ W) → Lks (lkA s.bs 0 u) S → Lks (lkA (putAt s.bs (0 + n * u) l) 0 u) S := fun {S} hS h => h.same fun q hq => by
    have hq' := hS q hq
    exact lk_other g (by omega) hn (Nat.lt_of_lt_of_le (I.lt q hq') I.fl) (fun x => hni (by rw [x]; exact hq'))
  exact ⟨I.hr, I.hw, keepL (fun q hq => List.mem_append_left _ hq) I.lr, keepL (fun q hq => List.mem_append_right _ hq) I.lw, I.nd, I.lt, I.had, I.fl, I.len⟩

theorem Inv.ts (I : Inv u p 0 R W s) (ts : List Tch) : Inv u p 0 R W { s with ts := ts } := ⟨I.hr, I.hw, I.lr, I.lw, I.nd, I.lt, I.had, I.fl, I.len⟩

theorem Zr.put (Z : Zr u p s) (I : Inv u p 0 R W s) (g : CfgC s.bs.length 0 u p s.hw) {n : Nat} (hn : n < p) (hh : s.hs[n]? = some true) {l : List UInt8} (hl : l.length = u) (ts : List Tch) : Zr u p { s with bs := putAt s.bs (0 + n * u) l, ts := ts } := by
  have hd := I.had n hn
  rw [hh] at hd
  have hnf := (of_decide_eq_true (Option.some.inj hd).symm).1
  exact Z.step (b := true) (Sf.set_same hh).symm I.len hn (far_put g hn (by omega)) (Nat.le_refl _) (fun x => by cases x) hnf

theorem Zr.ts (Z : Zr u p s) (ts : List Tch) : Zr u p { s with ts := ts } := ⟨Z.tail, Z.fresh⟩

end

/-! ### who is still to come -/

def rem (L : Int → Bool) : Nat := (List.range 32).countP fun n : Nat => L (n : Int)

theorem countP_less {X : Type} {a b : X → Bool} (hab : ∀ x, a x = true → b x = true) : ∀ (l : List X) (x : X), x ∈ l → b x = true → a x = false → l.countP a + 1 ≤ l.countP b
  | [], x, h, _, _ => by cases h
  | y :: l, x, h, hb, ha => by
    rw [List.countP_cons, List.countP_cons]
    have hm : l.countP a ≤ l.countP b := List.countP_mono_left fun z _ => hab z
    rcases List.mem_cons.1 h with rfl | h
    · rw [if_pos hb, if_neg (by rw [ha]; simp)]
      omega
    · have := countP_less hab l x h hb ha
      have h2 : (if a y = true then 1 else 0) ≤ (if b y = true then 1 else 0) := by
        by_cases q : a y = true
        · rw [if_pos q, if_pos (hab y q)]; exact Nat.le_refl 1
        · rw [if_neg q]; exact Nat.zero_le _
      omega

theorem rem_less {L : Int → Bool} {n : Nat} (hn : n < 32) (h : L (n : Int) = true) : rem (fun x => L x && !decide (x = (n : Int))) + 1 ≤ rem L :=
  countP_less (a := fun m : Nat => L (m : Int) && !decide ((m : Int) = (n : Int))) (b := fun m : Nat => L (m : Int)) (fun x hx => by simp only [Bool.and_eq_true] at hx; exact hx.1) _ n (List.mem_range.2 hn) h (by simp)

theorem rem_le (L : Int → Bool) : rem L ≤ 32 := Nat.le_trans List.countP_le_length (by simp)

end Go.Proofs.Ytkbgiflmecaffaa
