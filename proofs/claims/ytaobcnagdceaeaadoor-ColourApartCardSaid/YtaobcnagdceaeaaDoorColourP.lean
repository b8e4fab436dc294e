/- Pages and colours, in plain lists: the lowest free page of a window, how many are free, the colours' own rows. Conditions: none. -/
import Derived.Test.YtaobcnagdceaeaaDoorShelfR
set_option linter.unusedVariables false
set_option linter.unusedSimpArgs false
namespace Go.Proofs.YtaobcnagdceaeaaDoor

/-- Is page p of the window l? -/
def inW (C : Nat) (l : List Int) (p : Nat) : Bool := l.any fun x => x == ((p % C : Nat) : Int)

/-- A free page of the window. -/
def FrP (hs : List Bool) (C : Nat) (l : List Int) (p : Nat) : Prop := hs[p]? = some false ∧ inW C l p = true

instance (hs : List Bool) (C : Nat) (l : List Int) : DecidablePred (FrP hs C l) := fun p => inferInstanceAs (Decidable (_ ∧ _))

/-- o is the lowest one of Q. -/
def IsLow (Q : Nat → Prop) : Option Nat → Prop
  | some p => Q p ∧ ∀ q, q < p → ¬ Q q
  | none => ∀ q, ¬ Q q

theorem IsLow.unique {Q : Nat → Prop} {a b : Option Nat} (ha : IsLow Q a) (hb : IsLow Q b) : a = b := by
  cases a with
  | none => cases b with
    | none => rfl
    | some y => exact absurd hb.1 (ha y)
  | some x => cases b with
    | none => exact absurd ha.1 (hb x)
    | some y =>
      congr 1
      rcases Nat.lt_trichotomy x y with h | h | h
      · exact absurd ha.1 (hb.2 x h)
      · exact h
      · exact absurd hb.1 (ha.2 y h)

theorem IsLow.congr {Q Q' : Nat → Prop} {a : Option Nat} (h : ∀ p, Q p ↔ Q' p) (ha : IsLow Q a) : IsLow Q' a := by
  cases a with
  | none => exact fun q hq => ha q ((h q).2 hq)
  | some x => exact ⟨(h x).1 ha.1, fun q hq hq' => ha.2 q hq ((h q).2 hq')⟩

/-- The lesser one. -/
def lesser : Option Nat → Option Nat → Option Nat
  | some x, some y => some (if y < x then y else x)
  | some x, none => some x
  | none, b => b

theorem IsLow.or {Q Q' : Nat → Prop} {a b : Option Nat} (ha : IsLow Q a) (hb : IsLow Q' b) : IsLow (fun p => Q p ∨ Q' p) (lesser a b) := by
  cases a with
  | none => cases b with
    | none => exact fun q hq => hq.elim (ha q) (hb q)
    | some y => exact ⟨.inr hb.1, fun q hq hq' => hq'.elim (ha q) (hb.2 q hq)⟩
  | some x => cases b with
    | none => exact ⟨.inl ha.1, fun q hq hq' => hq'.elim (ha.2 q hq) (hb q)⟩
    | some y =>
      simp only [lesser]
      by_cases h : y < x
      · rw [if_pos h]
        exact ⟨.inr hb.1, fun q hq hq' => hq'.elim (ha.2 q (Nat.lt_trans hq h)) (hb.2 q hq)⟩
      · rw [if_neg h]
        exact ⟨.inl ha.1, fun q hq hq' => hq'.elim (ha.2 q hq) (hb.2 q (by omega))⟩

/-- The lowest free page of a window. -/
def pg (hs : List Bool) (C : Nat) (l : List Int) : Option Nat := (List.range hs.length).find? fun p => decide (FrP hs C l p)

theorem pg_low (hs : List Bool) (C : Nat) (l : List Int) : IsLow (FrP hs C l) (pg hs C l) := by
  unfold pg
  cases h : (List.range hs.length).find? (fun p => decide (FrP hs C l p)) with
  | none =>
    intro q hq
    rw [List.find?_eq_none] at h
    have hlt := (List.getElem?_eq_some_iff.1 hq.1).1
    exact h q (List.mem_range.2 hlt) (decide_eq_true hq)
  | some p =>
    obtain ⟨hp, xs, ys, hab, hall⟩ := List.find?_eq_some_iff_append.1 h
    refine ⟨of_decide_eq_true hp, fun q hq hq' => ?_⟩
    have hlt := (List.getElem?_eq_some_iff.1 hq'.1).1
    have hq2 : (List.range hs.length)[q]? = some q := List.getElem?_range hlt
    have hal : xs.length = p := by
      have h1 : (List.range hs.length)[xs.length]? = some p := by rw [hab, List.getElem?_append_right (Nat.le_refl _)]; simp
      have hl := (List.getElem?_eq_some_iff.1 h1).1
      rw [List.length_range] at hl
      rw [List.getElem?_range hl] at h1
      exact Option.some.inj h1
    rw [hab, List.getElem?_append_left (by omega)] at hq2
    have := hall q (List.mem_of_getElem? hq2)
    simp [hq'] at this

theorem inW_append (C : Nat) (l m : List Int) (p : Nat) : inW C (l ++ m) p = (inW C l p || inW C m p) := by simp [inW, List.any_append]

theorem FrP_append (hs : List Bool) (C : Nat) (l m : List Int) (p : Nat) : FrP hs C (l ++ m) p ↔ (FrP hs C l p ∨ FrP hs C m p) := by
  unfold FrP
  rw [inW_append, Bool.or_eq_true]
  constructor
  · rintro ⟨a, b | b⟩
    · exact .inl ⟨a, b⟩
    · exact .inr ⟨a, b⟩
  · rintro (⟨a, b⟩ | ⟨a, b⟩)
    · exact ⟨a, .inl b⟩
    · exact ⟨a, .inr b⟩

theorem inW_one (C : Nat) (c : Int) (p : Nat) : inW C [c] p = (c == ((p % C : Nat) : Int)) := by simp [inW]

/-- No colour: no page. -/
theorem FrP_out {hs : List Bool} {C : Nat} (hC : 0 < C) {c : Int} (h : ¬ (0 ≤ c ∧ c < C)) (p : Nat) : ¬ FrP hs C [c] p := by
  rintro ⟨_, hw⟩
  rw [inW_one] at hw
  have := eq_of_beq hw
  have := Nat.mod_lt p hC
  omega

/-- The flags of a colour's pages. -/
def col (hs : List Bool) (C n c : Nat) : List Bool := (List.range n).map fun k => hs.getD (k * C + c) true

theorem col_len (hs : List Bool) (C n c : Nat) : (col hs C n c).length = n := by simp [col]

theorem col_get {hs : List Bool} {C n c k : Nat} (hk : k < n) : (col hs C n c)[k]? = some (hs.getD (k * C + c) true) := by
  simp [col, hk]

theorem col_get' {hs : List Bool} {C n c k : Nat} {b : Bool} (hl : hs.length = n * C) (hc : c < C) (hk : k < n) : (col hs C n c)[k]? = some b ↔ hs[k * C + c]? = some b := by
  have hlt : k * C + c < hs.length := by
    have : (k + 1) * C ≤ n * C := Nat.mul_le_mul_right _ hk
    rw [Nat.add_mul] at this
    omega
  rw [col_get hk, List.getD_eq_getElem?_getD, List.getElem?_eq_getElem hlt]
  rfl

theorem page_mod {C k c : Nat} (hc : c < C) : (k * C + c) % C = c ∧ (k * C + c) / C = k := by
  rw [Nat.mul_comm]
  exact ⟨by rw [Nat.mul_add_mod, Nat.mod_eq_of_lt hc], by rw [Nat.mul_add_div (by omega), Nat.div_eq_of_lt hc, Nat.add_zero]⟩

theorem page_split (C p : Nat) : p / C * C + p % C = p := Nat.div_add_mod' p C

/-- A colour's lowest free page, out of its row's. -/
theorem col_low {hs : List Bool} {C n c : Nat} (hl : hs.length = n * C) (hc : c < C) : IsLow (FrP hs C [(c : Int)]) (((col hs C n c).findIdx? fun b => !b).map fun k => k * C + c) := by
  have hC : 0 < C := by omega
  have key : ∀ q, FrP hs C [(c : Int)] q → q % C = c ∧ q / C < n ∧ (col hs C n c)[q / C]? = some false := by
    rintro q ⟨h1, h2⟩
    rw [inW_one] at h2
    have h2 := eq_of_beq h2
    have hq := (List.getElem?_eq_some_iff.1 h1).1
    have hm : q % C = c := by omega
    have hd : q / C < n := (Nat.div_lt_iff_lt_mul hC).2 (by omega)
    refine ⟨hm, hd, (col_get' hl hc hd).2 ?_⟩
    rw [← hm, page_split]
    exact h1
  cases h : (col hs C n c).findIdx? (fun b => !b) with
  | none =>
    intro q hq
    obtain ⟨_, _, h3⟩ := key q hq
    rw [List.findIdx?_eq_none_iff] at h
    have := h false (List.mem_of_getElem? h3)
    simp at this
  | some k =>
    obtain ⟨h1, h2⟩ := low_at h
    have hk : k < n := by have := (List.getElem?_eq_some_iff.1 h1).1; rwa [col_len] at this
    refine ⟨⟨(col_get' hl hc hk).1 h1, ?_⟩, fun q hq hf => ?_⟩
    · rw [inW_one, (page_mod hc).1]; simp
    · obtain ⟨g1, g2, g3⟩ := key q hf
      have : q / C < k := by
        rcases Nat.lt_or_ge (q / C) k with hlt | hge
        · exact hlt
        · have h4 := page_split C q
          have h5 : k * C ≤ q / C * C := Nat.mul_le_mul_right _ hge
          simp only at hq
          omega
      rw [h2 _ this] at g3
      cases g3

/-- The rows of all colours. -/
def cols (hs : List Bool) (C n : Nat) : List (List Bool) := (List.range C).map fun c => col hs C n c

theorem cols_len (hs : List Bool) (C n : Nat) : (cols hs C n).length = C := by simp [cols]
theorem cols_get {hs : List Bool} {C n c : Nat} (hc : c < C) : (cols hs C n)[c]? = some (col hs C n c) := by simp [cols, hc]

theorem cols_set {hs : List Bool} {C n p : Nat} {b : Bool} (hl : hs.length = n * C) (hp : p < hs.length) : (cols hs C n).set (p % C) ((col hs C n (p % C)).set (p / C) b) = cols (hs.set p b) C n := by
  have hC : 0 < C := Nat.pos_of_ne_zero fun e => by subst e; omega
  apply List.ext_getElem?
  intro c
  rw [List.getElem?_set, cols_len]
  by_cases hc : c < C
  · rw [cols_get hc, cols_get hc]
    by_cases e : p % C = c
    · rw [if_pos e, if_pos (by omega)]
      congr 1
      apply List.ext_getElem?
      intro k
      rw [List.getElem?_set, col_len]
      by_cases hk : k < n
      · rw [e, col_get hk, col_get hk]
        by_cases ek : p / C = k
        · have hpe : k * C + c = p := by rw [← ek, ← e]; exact page_split C p
          rw [if_pos ek, if_pos (by omega), hpe, List.getD_eq_getElem?_getD, List.getElem?_set, if_pos rfl, if_pos hp]
          rfl
        · have hpe : p ≠ k * C + c := fun q => ek (by rw [q]; exact (page_mod hc).2)
          rw [if_neg ek, List.getD_eq_getElem?_getD, List.getD_eq_getElem?_getD, List.getElem?_set, if_neg hpe]
      · rw [List.getElem?_eq_none (by rw [col_len]; omega), List.getElem?_eq_none (by rw [col_len]; omega)]
        split
        · rw [if_neg (by omega)]
        · rfl
    · rw [if_neg e]
      congr 1
      unfold col
      apply List.map_congr_left
      intro k _
      have hpe : p ≠ k * C + c := fun q => e (by rw [q]; exact (page_mod hc).1)
      rw [List.getD_eq_getElem?_getD, List.getD_eq_getElem?_getD, List.getElem?_set, if_neg hpe]
  · rw [if_neg (fun e => hc (by rw [← e]; exact Nat.mod_lt _ hC)), List.getElem?_eq_none (by rw [cols_len]; omega), List.getElem?_eq_none (by rw [cols_len]; omega)]

/-- How many pages of the window are free. -/
def cnt (hs : List Bool) (C : Nat) (l : List Int) : Nat := (List.range hs.length).countP fun p => decide (FrP hs C l p)

theorem cnt_le (hs : List Bool) (C : Nat) (l : List Int) : cnt hs C l ≤ hs.length := by
  have := List.countP_le_length (p := fun p => decide (FrP hs C l p)) (l := List.range hs.length)
  simpa [cnt] using this

theorem countP_or {Q Q' R : Nat → Bool} : ∀ (l : List Nat), (∀ x ∈ l, R x = (Q x || Q' x)) → (∀ x ∈ l, ¬ (Q x = true ∧ Q' x = true)) → l.countP R = l.countP Q + l.countP Q'
  | [], _, _ => by simp
  | x :: l, h, hd => by
    have ih := countP_or l (fun y hy => h y (by simp [hy])) (fun y hy => hd y (by simp [hy]))
    have h0 := h x (by simp)
    have d0 := hd x (by simp)
    rw [List.countP_cons, List.countP_cons, List.countP_cons, ih, h0]
    cases hq : Q x <;> cases hq' : Q' x <;> simp [hq, hq'] at d0 ⊢ <;> omega

theorem count_block (hs : List Bool) (C c : Nat) (hc : c < C) : ∀ n : Nat, (List.range (n * C)).countP (fun p => decide (hs.getD p true = false) && decide (p % C = c)) = (col hs C n c).count false
  | 0 => by simp [col]
  | n + 1 => by
    have ih := count_block hs C c hc n
    have e1 : List.range ((n + 1) * C) = List.range (n * C) ++ (List.range C).map (fun x => n * C + x) := by rw [Nat.add_mul, Nat.one_mul, List.range_add]
    have e2 : col hs C (n + 1) c = col hs C n c ++ [hs.getD (n * C + c) true] := by simp [col, List.range_succ]
    rw [e1, e2, List.countP_append, ih, List.count_append, List.countP_map]
    congr 1
    have e3 : (List.range C).countP ((fun p => decide (hs.getD p true = false) && decide (p % C = c)) ∘ fun x => n * C + x) = (List.range C).countP (fun x => decide (hs.getD (n * C + c) true = false) && decide (x = c)) := by
      refine List.countP_congr fun x hx => ?_
      have hx := List.mem_range.1 hx
      simp only [Function.comp, (page_mod hx).1, Bool.and_eq_true, decide_eq_true_eq]
      constructor
      · rintro ⟨a, rfl⟩; exact ⟨a, rfl⟩
      · rintro ⟨a, rfl⟩; exact ⟨a, rfl⟩
    rw [e3]
    cases hb : hs.getD (n * C + c) true with
    | true => simp
    | false =>
      have e4 : (List.range C).countP (fun x => decide (false = false) && decide (x = c)) = (List.range C).count c := by
        rw [List.count_eq_countP]
        exact List.countP_congr fun x _ => by simp
      rw [e4, (List.nodup_range).count, if_pos (List.mem_range.2 hc)]
      simp

theorem getD_false {hs : List Bool} {p : Nat} : hs.getD p true = false ↔ hs[p]? = some false := by
  rw [List.getD_eq_getElem?_getD]
  cases h : hs[p]? with
  | none => simp
  | some b => cases b <;> simp

/-- One more colour in the window. -/
theorem cnt_more {hs : List Bool} {C n c : Nat} (hl : hs.length = n * C) (hc : c < C) {l : List Int} (hn : l.any (fun x => x == (c : Int)) = false) : cnt hs C (l ++ [(c : Int)]) = cnt hs C l + (col hs C n c).count false := by
  rw [← count_block hs C c hc n, ← hl]
  unfold cnt
  refine countP_or _ (fun p hp => ?_) (fun p hp => ?_)
  · have e : decide (FrP hs C (l ++ [(c : Int)]) p) = (decide (FrP hs C l p) || decide (FrP hs C [(c : Int)] p)) := by
      rw [← Bool.decide_or]
      exact decide_eq_decide.2 (FrP_append hs C l [(c : Int)] p)
    rw [e]
    congr 1
    rw [← Bool.decide_and]
    refine decide_eq_decide.2 ?_
    unfold FrP
    rw [getD_false, inW_one]
    constructor
    · rintro ⟨a, b⟩; exact ⟨a, by have := eq_of_beq b; omega⟩
    · rintro ⟨a, b⟩; exact ⟨a, by rw [b]; simp⟩
  · rintro ⟨h1, h2⟩
    simp only [Bool.and_eq_true, decide_eq_true_eq] at h1 h2
    have h3 := h1.2
    unfold inW at h3
    rw [h2.2] at h3
    rw [hn] at h3
    cases h3

/-- A colour that is there already, or is none, adds nothing. -/
theorem cnt_same {hs : List Bool} {C : Nat} (hC : 0 < C) {c : Int} {l : List Int} (h : ¬ (0 ≤ c ∧ c < C) ∨ l.any (fun x => x == c) = true) : cnt hs C (l ++ [c]) = cnt hs C l := by
  unfold cnt
  refine List.countP_congr fun p hp => ?_
  simp only [decide_eq_true_eq]
  rw [FrP_append]
  constructor
  · rintro (a | a)
    · exact a
    · rcases h with h | h
      · exact absurd a (FrP_out hC h p)
      · refine ⟨a.1, ?_⟩
        have hw := a.2
        rw [inW_one] at hw
        have hw := eq_of_beq hw
        unfold inW
        rw [← hw]
        exact h
  · exact .inl

theorem cnt_zero {hs : List Bool} {C : Nat} {l : List Int} : cnt hs C l = 0 ↔ pg hs C l = none := by
  unfold cnt pg
  rw [List.countP_eq_zero, List.find?_eq_none]

theorem FrP_set {hs : List Bool} {C : Nat} {l : List Int} {p : Nat} (hp : p < hs.length) (q : Nat) : FrP (hs.set p true) C l q ↔ (FrP hs C l q ∧ q ≠ p) := by
  unfold FrP
  rw [List.getElem?_set]
  by_cases e : p = q
  · subst e
    rw [if_pos rfl, if_pos hp]
    simp
  · rw [if_neg e]
    have : q ≠ p := fun x => e x.symm
    simp [this]

theorem cnt_take {hs : List Bool} {C : Nat} {l : List Int} {p : Nat} (h : FrP hs C l p) : cnt hs C l = cnt (hs.set p true) C l + 1 := by
  have hp := (List.getElem?_eq_some_iff.1 h.1).1
  have e : (List.range hs.length).countP (fun q => decide (q = p)) = 1 := by
    have : (List.range hs.length).countP (fun q => decide (q = p)) = (List.range hs.length).count p := by
      rw [List.count_eq_countP]
      exact List.countP_congr fun x _ => by simp
    rw [this, (List.nodup_range).count, if_pos (List.mem_range.2 hp)]
  unfold cnt
  rw [List.length_set, ← e]
  refine countP_or _ (fun q hq => ?_) (fun q hq => ?_)
  · rw [← Bool.decide_or]
    refine decide_eq_decide.2 ?_
    rw [FrP_set hp]
    constructor
    · intro a
      by_cases e : q = p
      · exact .inr e
      · exact .inl ⟨a, e⟩
    · rintro (a | rfl)
      · exact a.1
      · exact h
  · rintro ⟨a, b⟩
    simp only [decide_eq_true_eq] at a b
    exact ((FrP_set hp q).1 a).2 b

/-! ### what the calls come to -/

def mTakeI (hs : List Bool) (C : Nat) (l : List Int) : Int := match pg hs C l with | some p => (p : Int) | none => 0
def mTakeE (hs : List Bool) (C : Nat) (l : List Int) : Int := match pg hs C l with | some _ => 0 | none => 13
def mTakeH (hs : List Bool) (C : Nat) (l : List Int) : List Bool := match pg hs C l with | some p => hs.set p true | none => hs
def mCol (P C : Nat) (k : Int) : Int := if 0 ≤ k ∧ k < P then k.tmod C else -1

theorem len_mTakeH (hs : List Bool) (C : Nat) (l : List Int) : (mTakeH hs C l).length = hs.length := by unfold mTakeH; split <;> simp

end Go.Proofs.YtaobcnagdceaeaaDoor
