/- View: what is written is read; what is touched is the table's. Conditions: none. -/
import Derived.Test.YtnjjgpjpodmgpaaVwE
set_option linter.unusedVariables false
set_option linter.unusedSimpArgs false
namespace Go.Proofs.Ytnjjgpjpodmgpaa
open Go.RowKit Go.Maps

theorem flat_snoc (l : List Pc) (s : Pc) : flat (l ++ [s]) = flat l ++ List.range' s.1 s.2 := by simp [flat]

theorem flat_sum (l : List Pc) : (flat l).length = sumN l := flatP_len l

section
variable {bs d : List UInt8}

theorem rdB_get (l : List Pc) : InP bs.length l → ∀ j : Nat, (rdB bs l)[j]? = ((flat l)[j]?).bind fun x : Nat => bs[x]? := by
  induction l using snoc_ind with
  | h0 => intro _ j; simp [rdB, flat]
  | h1 l s ih =>
    intro h j
    obtain ⟨h1, h2⟩ := h.front
    rw [rdB_snoc, flat_snoc]
    have hl := rdB_len l h1
    have hf := flat_sum l
    by_cases hj : j < sumN l
    · rw [List.getElem?_append_left (by omega), List.getElem?_append_left (by omega)]
      exact ih h1 j
    · rw [List.getElem?_append_right (by omega), List.getElem?_append_right (by omega), hl, hf]
      by_cases hk : j - sumN l < s.2
      · rw [seg_get hk, List.getElem?_range' hk]
        simp
      · rw [List.getElem?_eq_none (by rw [seg_length h2]; omega), List.getElem?_eq_none (by rw [List.length_range']; omega)]
        rfl

theorem wrB_out (l : List Pc) : InP bs.length l → ∀ x : Nat, x ∉ flat l → (wrB bs l d)[x]? = bs[x]? := by
  induction l using snoc_ind with
  | h0 => intro _ x _; rfl
  | h1 l s ih =>
    intro h x hx
    obtain ⟨h1, h2⟩ := h.front
    rw [flat_snoc, List.mem_append, List.mem_range'_1] at hx
    have hw := wrB_len (d := d) l h1
    have hsl := seg_le d (sumN l) s.2
    rw [wrB_snoc, putAt_get (by omega), if_neg (fun q => hx (.inr (by omega)))]
    exact ih h1 x (fun q => hx (.inl q))

theorem wrB_in (l : List Pc) : InP bs.length l → (flat l).Nodup → sumN l ≤ d.length → ∀ j x : Nat, (flat l)[j]? = some x → (wrB bs l d)[x]? = d[j]? := by
  induction l using snoc_ind with
  | h0 => intro _ _ _ j x hx; simp [flat] at hx
  | h1 l s ih =>
    intro h hn hd j x hx
    obtain ⟨h1, h2⟩ := h.front
    rw [flat_snoc] at hn hx
    rw [sumN_snoc] at hd
    have hw := wrB_len (d := d) l h1
    have hf := flat_sum l
    have hsl : (seg d (sumN l) s.2).length = s.2 := seg_length hd
    obtain ⟨n1, n2, n3⟩ := List.nodup_append.1 hn
    rw [wrB_snoc, putAt_get (by omega), hsl]
    by_cases hj : j < sumN l
    · rw [List.getElem?_append_left (by omega)] at hx
      have hxm := List.mem_of_getElem? hx
      rw [if_neg (fun q => n3 x hxm x (List.mem_range'_1.2 q) rfl)]
      exact ih h1 n1 (by omega) j x hx
    · rw [List.getElem?_append_right (by omega), hf] at hx
      have hk : j - sumN l < s.2 := by have := (List.getElem?_eq_some_iff.1 hx).1; rwa [List.length_range'] at this
      rw [List.getElem?_range' hk] at hx
      have hx : x = s.1 + (j - sumN l) := by simpa using hx.symm
      subst hx
      rw [if_pos ⟨by omega, by omega⟩, show s.1 + (j - sumN l) - s.1 = j - sumN l by omega, seg_get hk]
      congr 1
      omega

/-- What was written is read. -/
theorem rd_wr (l : List Pc) (h : InP bs.length l) (hn : (flat l).Nodup) (hd : d.length = sumN l) : rdB (wrB bs l d) l = d := by
  apply List.ext_getElem?
  intro j
  have hw := wrB_len (d := d) l h
  rw [rdB_get l (by rw [hw]; exact h)]
  by_cases hj : j < sumN l
  · have hf := flat_sum l
    obtain ⟨x, hx⟩ : ∃ x, (flat l)[j]? = some x := ⟨_, List.getElem?_eq_getElem (by omega)⟩
    rw [hx]
    exact wrB_in l h hn (by omega) j x hx
  · have hf := flat_sum l
    rw [List.getElem?_eq_none (by omega), List.getElem?_eq_none (by omega)]
    rfl

end

theorem nodup_map_on {X Y : Type} {f : X → Y} : ∀ {l : List X}, (∀ x y, x ∈ l → y ∈ l → f x = f y → x = y) → l.Nodup → (l.map f).Nodup
  | [], _, _ => List.nodup_nil
  | z :: l, h, hn => by
    rw [List.nodup_cons] at hn
    rw [List.map_cons, List.nodup_cons]
    refine ⟨fun q => ?_, nodup_map_on (fun x y hx hy => h x y (List.mem_cons_of_mem _ hx) (List.mem_cons_of_mem _ hy)) hn.2⟩
    obtain ⟨x, hx, e⟩ := List.mem_map.1 q
    have := h x z (List.mem_cons_of_mem _ hx) (List.mem_cons_self ..) e
    exact hn.1 (this ▸ hx)

/-- The bytes of a list of pieces are all different. -/
theorem vpc_nodup {T : Tb} (g : TOk T) {size : Nat} {addr n : Int} {l : List Pc} (h : vpc T size addr n = some l) : (flat l).Nodup := by
  obtain ⟨a, k, _, _, ha0, hak, hp⟩ := pcsE_some (vpc_some h).1
  have ok := pcs_ok hp
  rw [ok.flat]
  refine nodup_map_on ?_ List.nodup_range
  intro i j hi hj e
  have := phys_inj g (ok.all i (List.mem_range.1 hi)) (ok.all j (List.mem_range.1 hj)) e
  omega

/-- A touch that lies in a page of the table's. -/
def OwnV (T : Tb) (ts : List Tch) : Prop := ∀ t ∈ ts, ∃ a n : Nat, t.1 = (a : Int) ∧ t.2.1 = (n : Int) ∧ a ≤ 600000000 ∧ 0 ≤ hld T ((a / 512 : Nat) : Int) ∧ a % 512 + n ≤ 512

theorem OwnV.append {T : Tb} {ts us : List Tch} (h : OwnV T ts) (h' : OwnV T us) : OwnV T (ts ++ us) := fun t ht => (List.mem_append.1 ht).elim (h t) (h' t)

theorem own_vL {T : Tb} (g : TOk T) (size : Nat) (addr n : Int) (b : Bool) : OwnV T (tchL (vL T size addr n) b) := by
  rcases vE_cases T size addr n with ⟨_, e⟩ | ⟨_, l, e1, e2⟩
  · rw [e]
    intro t ht
    simp [tchL] at ht
  · rw [e2]
    obtain ⟨a, k, _, _, ha0, hak, hp⟩ := pcsE_some (vpc_some e1).1
    have ok := pcs_ok hp
    intro t ht
    obtain ⟨s, hs, rfl⟩ := List.mem_map.1 ht
    obtain ⟨p1, p2, j, p3, p4, p5⟩ := ok.pos s hs
    obtain ⟨x, hx⟩ := Option.isSome_iff_exists.1 ((fnd_pos g).1 p4)
    have efx : fnd T (((a + j) / 512 : Nat) : Int) = x.2 := by unfold fnd; rw [hx]
    have rx := g.rng x (fndO_some hx).1
    rw [efx] at p5
    refine ⟨s.1, s.2, rfl, rfl, by omega, ?_, p2⟩
    have e : ((s.1 / 512 : Nat) : Int) = x.2 := by omega
    rw [e, hld_pos g]
    cases hh : hldO T x.2 with
    | none => exact absurd rfl (hldO_none hh x (fndO_some hx).1)
    | some y => rfl

theorem vL_len (T : Tb) (size : Nat) (addr n : Int) (hs : size ≤ 2097152) : (vL T size addr n).length ≤ 3276800 := by
  rcases vE_cases T size addr n with ⟨_, e⟩ | ⟨_, l, e1, e2⟩
  · rw [e]; simp
  · rw [e2]; exact (vpc_facts e1 hs).2.2.1

theorem vL_in (T : Tb) (size : Nat) (addr n : Int) (hs : size ≤ 2097152) : InP size (vL T size addr n) := by
  rcases vE_cases T size addr n with ⟨_, e⟩ | ⟨_, l, e1, e2⟩
  · rw [e]; intro s hs; cases hs
  · rw [e2]; exact (vpc_facts e1 hs).1

theorem cpB_len (T : Tb) (bs : List UInt8) (to from_ n : Int) (hs : bs.length ≤ 2097152) : (cpB T bs to from_ n).length = bs.length := by
  unfold cpB
  split
  · exact wrB_len _ (vL_in _ _ _ _ hs)
  · rfl

theorem cpT_own {T : Tb} (g : TOk T) {size : Nat} {ts : List Tch} (h : OwnV T ts) (to from_ n : Int) : OwnV T (cpT T size ts to from_ n) := by
  unfold cpT
  split
  · exact (h.append (own_vL g _ _ _ _)).append (own_vL g _ _ _ _)
  · exact h

theorem cpT_len (T : Tb) (size : Nat) (ts : List Tch) (to from_ n : Int) (hs : size ≤ 2097152) : (cpT T size ts to from_ n).length ≤ ts.length + 6553600 := by
  unfold cpT
  split
  · have g1 := vL_len T size to n hs
    have g2 := vL_len T size from_ n hs
    rw [List.length_append, List.length_append, tchL_len, tchL_len]
    omega
  · omega

end Go.Proofs.Ytnjjgpjpodmgpaa
