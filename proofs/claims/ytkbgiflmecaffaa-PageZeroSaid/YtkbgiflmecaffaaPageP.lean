/- Page: the lists of its two chains, in its bytes. Conditions: none. -/
import Derived.Test.YtkbgiflmecaffaaPageO
set_option linter.unusedVariables false
set_option linter.unusedSimpArgs false
namespace Go.Proofs.Ytkbgiflmecaffaa
open Go.RowKit

def lnk : List Nat → Nat
  | [] => 0
  | k :: _ => k + 1
def headI (S : List Nat) : Int := (lnk S : Int) - 1

/-- The links of a list's blocks. -/
def Lks (lk : Nat → Nat) : List Nat → Prop
  | [] => True
  | k :: S => lk k = lnk S ∧ Lks lk S

theorem Lks.same {lk lk' : Nat → Nat} : ∀ {S : List Nat}, Lks lk S → (∀ k ∈ S, lk' k = lk k) → Lks lk' S
  | [], _, _ => trivial
  | k :: S, h, e => ⟨by rw [e k (List.mem_cons_self ..)]; exact h.1, Lks.same h.2 fun q hq => e q (List.mem_cons_of_mem _ hq)⟩

structure Inv (u p base : Nat) (R W : List Nat) (s : St) : Prop where
  hr : s.hr = headI R
  hw : s.hw = headI W
  lr : Lks (lkA s.bs base u) R
  lw : Lks (lkA s.bs base u) W
  nd : (R ++ W).Nodup
  lt : ∀ q ∈ R ++ W, q < s.f
  had : ∀ k, k < p → s.hs[k]? = some (decide (k < s.f ∧ k ∉ R ++ W))
  fl : s.f ≤ p
  len : s.hs.length = p

theorem seg_far {bs l : List UInt8} {a b n : Nat} (ha : a + l.length ≤ bs.length) (hb : b + n ≤ bs.length) (hd : a + l.length ≤ b ∨ b + n ≤ a) : seg (putAt bs a l) b n = seg bs b n := by
  have e : (putAt bs a l).length = bs.length := putAt_length ha
  apply List.ext_getElem?
  intro j
  by_cases hj : j < n
  · rw [seg_get hj, seg_get hj, putAt_get ha, if_neg (by omega)]
  · rw [List.getElem?_eq_none (by rw [seg_length (by omega)]; omega), List.getElem?_eq_none (by rw [seg_length (by omega)]; omega)]

theorem blk_apart {base unit j k : Nat} (h : j ≠ k) : base + j * unit + unit ≤ base + k * unit ∨ base + k * unit + unit ≤ base + j * unit := by
  rcases Nat.lt_or_gt_of_ne h with q | q
  · have := Nat.mul_le_mul_right unit (show j + 1 ≤ k from q)
    rw [Nat.add_mul] at this
    omega
  · have := Nat.mul_le_mul_right unit (show k + 1 ≤ j from q)
    rw [Nat.add_mul] at this
    omega

section
variable {u p base : Nat} {R W : List Nat} {s : St} {head : Int}

theorem lk_other {bs l : List UInt8} (g : CfgC bs.length base u p head) (hl : l.length ≤ u) {j k : Nat} (hj : j < p) (hk : k < p) (h : j ≠ k) : lkA (putAt bs (base + j * u) l) base u k = lkA bs base u k := by
  have h1 := unit_fit g hj
  have h2 := unit_fit g hk
  have u8 := g.u8
  unfold lkA
  rw [seg_far (by omega) (by omega) (by have := blk_apart (base := base) (unit := u) h; omega)]

theorem lk_same {bs : List UInt8} (g : CfgC bs.length base u p head) {x k : Nat} (hk : k < p) (hx : x < 18446744073709551616) : lkA (putAt bs (base + k * u) (le8 x)) base u k = x := by
  have h1 := unit_fit g hk
  have u8 := g.u8
  have hle : base + k * u + (le8 x).length ≤ bs.length := by rw [le8_length]; omega
  have := seg_putAt hle
  rw [le8_length] at this
  unfold lkA
  rw [this, leV_le8 x hx]

theorem Inv.init (kind : Nat) (base : Nat) (bs : List UInt8) (ts : List Tch) : Inv (unitN kind) (perN kind) base [] [] (newSt kind bs ts) :=
  ⟨rfl, rfl, trivial, trivial, List.nodup_nil, fun q hq => (by cases hq), fun k hk => by
    show (List.replicate (perN kind) false)[k]? = _
    rw [List.getElem?_replicate, if_pos hk, decide_eq_false (fun x => absurd x.1 (Nat.not_lt_zero _))], Nat.zero_le _, List.length_replicate⟩

theorem Inv.lnkR (I : Inv u p base R W s) : lnk R ≤ p := by
  cases R with
  | nil => exact Nat.zero_le _
  | cons k R => have := I.lt k (by simp); have := I.fl; simp only [lnk]; omega

theorem Inv.col (I : Inv u p base [] W s) : Inv u p base W [] (colS s) :=
  ⟨I.hw, rfl, I.lw, trivial, by simpa using I.nd, fun q hq => I.lt q (by simpa using hq), fun k hk => by
    show s.hs[k]? = some (decide (k < s.f ∧ k ∉ W ++ []))
    rw [I.had k hk]
    simp, I.fl, I.len⟩

theorem had_set (I : Inv u p base R W s) {k : Nat} (hk : k < p) {R' W' : List Nat} {f' : Nat} {b : Bool} (h : ∀ q, q ≠ k → q < p → ((q < f' ∧ q ∉ R' ++ W') ↔ (q < s.f ∧ q ∉ R ++ W))) (hb : b = decide (k < f' ∧ k ∉ R' ++ W')) :
    ∀ q, q < p → (s.hs.set k b)[q]? = some (decide (q < f' ∧ q ∉ R' ++ W')) := by
  intro q hq
  rw [List.getElem?_set]
  by_cases e : k = q
  · subst e
    rw [if_pos rfl, if_pos (by rw [I.len]; exact hk), hb]
  · rw [if_neg e, I.had q hq, decide_eq_decide.2 (h q (fun x => e x.symm) hq)]

theorem Inv.pop0 {k : Nat} (I : Inv u p base (k :: R) W s) (g : CfgC s.bs.length base u p s.hr) :
    k < p ∧ s.hs[k]? = some false ∧ popI s.bs base u p s.hr = (k : Int) ∧ popE s.bs base u p s.hr = 0 ∧ popB s.bs base u p s.hr = putAt s.bs (base + k * u) (le8 0) ∧ popH s.bs base u p s.hr = headI R ∧
      outS u p base s = { popS u p base s with hs := s.hs.set k true } := by
  have e : s.hr = (k : Int) := by rw [I.hr]; simp [headI, lnk]
  have hkf : k < s.f := I.lt k (by simp)
  have hkp : k < p := Nat.lt_of_lt_of_le hkf I.fl
  have h0 : ¬ ((k : Int) < 0) := by omega
  have el : lkA s.bs base u k = lnk R := I.lr.1
  have hlr : lnk R ≤ p := by
    cases R with
    | nil => exact Nat.zero_le _
    | cons j R => have := I.lt j (by simp); have := I.fl; simp only [lnk]; omega
  have hI : popI s.bs base u p s.hr = (k : Int) := by rw [e, popI, if_neg h0, Int.toNat_natCast, el, if_neg (by omega)]
  have hE : popE s.bs base u p s.hr = 0 := by rw [e, popE, if_neg h0, Int.toNat_natCast, el, if_neg (by omega)]
  have hB : popB s.bs base u p s.hr = putAt s.bs (base + k * u) (le8 0) := by rw [e, popB, if_neg h0, Int.toNat_natCast, el, if_neg (by omega)]
  have hH : popH s.bs base u p s.hr = headI R := by rw [e, popH, if_neg h0, Int.toNat_natCast, el, if_neg (by omega)]; rfl
  have hf : s.hs[k]? = some false := by rw [I.had k hkp, decide_eq_false (fun x => x.2 (by simp))]
  have hin : Sf.InS s.hs (k : Int) := ⟨by omega, by rw [I.len]; omega⟩
  refine ⟨hkp, hf, hI, hE, hB, hH, ?_⟩
  unfold outS
  rw [if_pos hE, hI]
  have eh : Sf.takeAtH s.hs (k : Int) = s.hs.set k true := by rw [Sf.takeAtH, if_pos hin, Int.toNat_natCast]
  show { popS u p base s with hs := Sf.takeAtH s.hs (k : Int) } = _
  rw [eh]

theorem Inv.pop {k : Nat} (I : Inv u p base (k :: R) W s) (g : CfgC s.bs.length base u p s.hr) :
    outI u p base s = (k : Int) ∧ outE u p base s = 0 ∧ k < p ∧ s.hs[k]? = some false ∧ (outS u p base s).hs = s.hs.set k true ∧ (outS u p base s).bs = putAt s.bs (base + k * u) (le8 0) ∧ (outS u p base s).f = s.f ∧ Inv u p base R W (outS u p base s) := by
  obtain ⟨hkp, hf, hI, hE, hB, hH, eS⟩ := I.pop0 g
  have hkf : k < s.f := I.lt k (by simp)
  have nd := I.nd
  rw [List.cons_append, List.nodup_cons] at nd
  have hin : Sf.InS s.hs (k : Int) := ⟨by omega, by rw [I.len]; omega⟩
  have u8 := g.u8
  have keepL : ∀ {S : List Nat}, (∀ q ∈ S, q ∈ R ++ W) → Lks (lkA s.bs base u) S → Lks (lkA (popB s.bs base u p s.hr) base u) S := fun {S} hS h => h.same fun q hq => by
    rw [hB]
    have hq' := hS q hq
    exact lk_other g (by rw [le8_length]; omega) hkp (Nat.lt_of_lt_of_le (I.lt q (List.mem_cons_of_mem _ hq')) I.fl) (fun x => nd.1 (by rw [x]; exact hq'))
  refine ⟨by unfold outI; rw [if_pos hE, hI], ?_, hkp, hf, by rw [eS], by rw [eS]; exact hB, by rw [eS]; rfl, ?_⟩
  · unfold outE
    rw [if_pos hE, hI, Sf.takeAtE, if_pos hin, Int.toNat_natCast, hf]
    rfl
  · rw [eS]
    refine ⟨hH, I.hw, keepL (fun q hq => List.mem_append_left _ hq) I.lr.2, keepL (fun q hq => List.mem_append_right _ hq) I.lw, nd.2, fun q hq => I.lt q (List.mem_cons_of_mem _ hq), ?_, I.fl, by show (s.hs.set k true).length = p; rw [List.length_set]; exact I.len⟩
    refine had_set I hkp (fun q hq _ => ?_) (decide_eq_true ⟨hkf, nd.1⟩).symm
    show (q < s.f ∧ q ∉ R ++ W) ↔ _
    rw [List.cons_append, List.mem_cons]
    exact ⟨fun x => ⟨x.1, fun y => y.elim hq x.2⟩, fun x => ⟨x.1, fun y => x.2 (.inr y)⟩⟩

/-- A fresh one. -/
theorem Inv.fresh (I : Inv u p base [] [] s) (hf : s.f < p) : s.hs[s.f]? = some false ∧ Sf.takeAtE s.hs (s.f : Int) = 0 ∧ (takS { s with f := s.f + 1 } (s.f : Int)).hs = s.hs.set s.f true ∧ Inv u p base [] [] (takS { s with f := s.f + 1 } (s.f : Int)) := by
  have hin : Sf.InS s.hs (s.f : Int) := ⟨by omega, by rw [I.len]; omega⟩
  have h1 : s.hs[s.f]? = some false := by rw [I.had s.f hf, decide_eq_false (fun x => absurd x.1 (Nat.lt_irrefl _))]
  have eh : (takS { s with f := s.f + 1 } (s.f : Int)).hs = s.hs.set s.f true := by
    show Sf.takeAtH s.hs (s.f : Int) = _
    rw [Sf.takeAtH, if_pos hin, Int.toNat_natCast]
  refine ⟨h1, by rw [Sf.takeAtE, if_pos hin, Int.toNat_natCast, h1]; rfl, eh, ⟨I.hr, I.hw, trivial, trivial, I.nd, fun q hq => (by cases hq), ?_, hf, by rw [eh, List.length_set]; exact I.len⟩⟩
  rw [eh]
  refine had_set I hf (fun q hq _ => ?_) (decide_eq_true ⟨Nat.lt_succ_self _, fun x => by cases x⟩).symm
  show (q < s.f + 1 ∧ _) ↔ _
  exact ⟨fun x => ⟨by omega, x.2⟩, fun x => ⟨by omega, x.2⟩⟩

/-- Alloc's answer, by the lists. -/
theorem Inv.alo (I : Inv u p base R W s) (g : CfgC s.bs.length base u p s.hr) (gw : CfgC s.bs.length base u p s.hw) :
    (R = [] ∧ W = [] ∧ s.f = p ∧ aloI u p base s = 0 ∧ aloE u p base s = 10 ∧ aloS u p base s = s) ∨
    (∃ (k : Nat) (R' W' : List Nat), aloI u p base s = (k : Int) ∧ aloE u p base s = 0 ∧ k < p ∧ s.hs[k]? = some false ∧ (aloS u p base s).hs = s.hs.set k true ∧ Inv u p base R' W' (aloS u p base s)) := by
  cases R with
  | cons k R =>
    have h0 : 0 ≤ s.hr := by rw [I.hr]; simp [headI, lnk]
    obtain ⟨a, b, c, d, e, _, _, f⟩ := I.pop g
    have e1 : aloS u p base s = outS u p base s := if_pos h0
    refine .inr ⟨k, R, W, ?_, ?_, c, d, by rw [e1, e], by rw [e1]; exact f⟩
    · rw [aloI, if_pos h0, a]
    · rw [aloE, if_pos h0, b]
  | nil =>
    have h0 : ¬ 0 ≤ s.hr := by rw [I.hr]; simp [headI, lnk]
    cases W with
    | cons k W =>
      have h1 : 0 ≤ s.hw := by rw [I.hw]; simp [headI, lnk]
      obtain ⟨a, b, c, d, e, _, _, f⟩ := I.col.pop (s := colS s) gw
      have e1 : aloS u p base s = outS u p base (colS s) := by rw [aloS, if_neg h0, if_pos h1]
      refine .inr ⟨k, W, [], ?_, ?_, c, d, by rw [e1, e]; rfl, by rw [e1]; exact f⟩
      · rw [aloI, if_neg h0, if_pos h1, a]
      · rw [aloE, if_neg h0, if_pos h1, b]
    | nil =>
      have h1 : ¬ 0 ≤ s.hw := by rw [I.hw]; simp [headI, lnk]
      by_cases hf : s.f = p
      · exact .inl ⟨rfl, rfl, hf, by rw [aloI, if_neg h0, if_neg h1, if_pos hf], by rw [aloE, if_neg h0, if_neg h1, if_pos hf], by rw [aloS, if_neg h0, if_neg h1, if_pos hf]⟩
      · have hlt : s.f < p := Nat.lt_of_le_of_ne I.fl hf
        obtain ⟨a, b, c, d⟩ := I.fresh hlt
        have e1 : aloS u p base s = takS { s with f := s.f + 1 } (s.f : Int) := by rw [aloS, if_neg h0, if_neg h1, if_neg hf]
        exact .inr ⟨s.f, [], [], by rw [aloI, if_neg h0, if_neg h1, if_neg hf], by rw [aloE, if_neg h0, if_neg h1, if_neg hf, b], hlt, a, by rw [e1, c], by rw [e1]; exact d⟩

/-- Free of what isn't had. -/
theorem give_bad {hs : List Bool} {k : Int} (h : Sf.giveE hs k ≠ 0) : Sf.giveH hs k = hs := by
  unfold Sf.giveH
  by_cases q : Sf.InS hs k
  · rw [if_pos q]
    have q1 := q.1
    have q2 := q.2
    rw [Sf.giveE, if_pos q] at h
    refine Sf.set_same ?_
    have hlt : k.toNat < hs.length := by omega
    rw [List.getElem?_eq_getElem hlt] at h ⊢
    cases hb : hs[k.toNat] with
    | false => rfl
    | true => rw [hb, if_pos rfl] at h; exact absurd rfl h
  · rw [if_neg q]

theorem give_ok {hs : List Bool} {k : Int} (h : Sf.giveE hs k = 0) : ∃ n : Nat, k = (n : Int) ∧ n < hs.length ∧ hs[n]? = some true := by
  by_cases q : Sf.InS hs k
  · have q2 := q.2
    obtain ⟨n, rfl⟩ := Int.eq_ofNat_of_zero_le q.1
    rw [Sf.giveE, if_pos q, Int.toNat_natCast] at h
    refine ⟨n, rfl, by omega, ?_⟩
    by_cases e : hs[n]? = some true
    · exact e
    · rw [if_neg e] at h; omega
  · rw [Sf.giveE, if_neg q] at h
    omega

theorem Inv.fre (I : Inv u p base R W s) (g : CfgC s.bs.length base u p s.hw) (k : Int) :
    (Sf.giveE s.hs k ≠ 0 ∧ freS u p base s k = s) ∨
    (Sf.giveE s.hs k = 0 ∧ ∃ n : Nat, k = (n : Int) ∧ n < p ∧ s.hs[n]? = some true ∧ (freS u p base s k).hs = s.hs.set n false ∧ (freS u p base s k).f = s.f ∧ Inv u p base R (n :: W) (freS u p base s k)) := by
  by_cases he : Sf.giveE s.hs k = 0
  case neg =>
    refine .inl ⟨he, ?_⟩
    unfold freS
    rw [if_neg he]
    unfold givS
    rw [give_bad he]
  obtain ⟨n, rfl, hn, hh⟩ := give_ok he
  have hnp : n < p := by rw [← I.len]; exact hn
  have e1 : freS u p base s (n : Int) = pusS u p base (zerS u base (givS s n) n) n := by unfold freS; rw [if_pos he]; simp only [Int.toNat_natCast]
  have hin : Sf.InS s.hs (n : Int) := ⟨by omega, by omega⟩
  have eh : (pusS u p base (zerS u base (givS s n) n) n).hs = s.hs.set n false := by
    show Sf.giveH s.hs (n : Int) = _
    rw [Sf.giveH, if_pos hin, Int.toNat_natCast]
  have hd := I.had n hnp
  rw [hh] at hd
  have hd : decide (n < s.f ∧ n ∉ R ++ W) = true := (Option.some.inj hd).symm
  obtain ⟨hnf, hni⟩ := of_decide_eq_true hd
  have fit := unit_fit g hnp
  have u8 := g.u8
  have hlen : (putAt s.bs (base + n * u) (List.replicate u 0)).length = s.bs.length := putAt_length (by rw [List.length_replicate]; omega)
  have g2 : CfgC (putAt s.bs (base + n * u) (List.replicate u 0)).length base u p s.hw := by rw [hlen]; exact g
  have keepL : ∀ {S : List Nat}, (∀ q ∈ S, q ∈ R ++ W) → Lks (lkA s.bs base u) S → Lks (lkA (putAt (putAt s.bs (base + n * u) (List.replicate u 0)) (base + n * u) (le8 (s.hw + 1).toNat)) base u) S := fun {S} hS h => h.same fun q hq => by
    have hq' := hS q hq
    have hne : n ≠ q := fun x => hni (by rw [x]; exact hq')
    have hqp := Nat.lt_of_lt_of_le (I.lt q hq') I.fl
    rw [lk_other g2 (by rw [le8_length]; omega) hnp hqp hne, lk_other g (by rw [List.length_replicate]; exact Nat.le_refl _) hnp hqp hne]
  have hl : lnk W ≤ p := by
    cases W with
    | nil => exact Nat.zero_le _
    | cons j W => have := I.lt j (by simp); have := I.fl; simp only [lnk]; omega
  have ew : (s.hw + 1).toNat = lnk W := by rw [I.hw]; unfold headI; omega
  have p64 := g.p64
  refine .inr ⟨he, n, rfl, hnp, hh, by rw [e1, eh], by rw [e1]; rfl, ?_⟩
  rw [e1]
  refine ⟨I.hr, by show (n : Int) = headI (n :: W); simp [headI, lnk], keepL (fun q hq => List.mem_append_left _ hq) I.lr, ⟨?_, keepL (fun q hq => List.mem_append_right _ hq) I.lw⟩, ?_, fun q hq => ?_, ?_, I.fl, by rw [eh, List.length_set]; exact I.len⟩
  · show lkA (putAt (putAt s.bs (base + n * u) (List.replicate u 0)) (base + n * u) (le8 (s.hw + 1).toNat)) base u n = lnk W
    rw [lk_same g2 hnp (by omega), ew]
  · exact (List.perm_middle.nodup_iff).2 (List.nodup_cons.2 ⟨hni, I.nd⟩)
  · have hq : q = n ∨ q ∈ R ++ W := by simpa [or_left_comm] using hq
    rcases hq with rfl | hq
    · exact hnf
    · exact I.lt q hq
  · rw [eh]
    refine had_set I hnp (fun q hq _ => ?_) (decide_eq_false (fun x => x.2 (by simp))).symm
    show (q < s.f ∧ q ∉ R ++ n :: W) ↔ _
    have : q ∈ R ++ n :: W ↔ q ∈ R ++ W := by simp [hq]
    rw [this]

/-- Is it full? -/
theorem Inv.full (I : Inv u p base R W s) : (s.hs.count true = p) ↔ (R = [] ∧ W = [] ∧ s.f = p) := by
  rw [← I.len, List.count_eq_length]
  constructor
  · intro h
    have hall : ∀ k, k < p → k < s.f ∧ k ∉ R ++ W := fun k hk => by
      have h1 := I.had k hk
      have hm : decide (k < s.f ∧ k ∉ R ++ W) ∈ s.hs := List.mem_of_getElem? h1
      exact of_decide_eq_true (h _ hm).symm
    have hnil : R ++ W = [] := by
      cases hx : R ++ W with
      | nil => rfl
      | cons q S =>
        have hq : q ∈ R ++ W := by rw [hx]; simp
        exact absurd hq (hall q (Nat.lt_of_lt_of_le (I.lt q hq) I.fl)).2
    obtain ⟨a, b⟩ := List.append_eq_nil_iff.1 hnil
    refine ⟨a, b, ?_⟩
    rw [I.len]
    have := I.fl
    by_cases e : s.f < p
    · exact absurd (hall s.f e).1 (Nat.lt_irrefl _)
    · omega
  · rintro ⟨rfl, rfl, hf⟩ b hb
    obtain ⟨k, hk, rfl⟩ := List.getElem_of_mem hb
    rw [I.len] at hf
    have h1 := I.had k (by rw [← I.len]; exact hk)
    rw [List.getElem?_eq_getElem hk, Option.some.injEq] at h1
    rw [h1]
    exact (decide_eq_true ⟨by rw [hf, ← I.len]; exact hk, fun x => by cases x⟩).symm

end

end Go.Proofs.Ytkbgiflmecaffaa
