/- Contracts of table.Pieces and view.pieces. Conditions: arena and table are there. -/
import Derived.Test.YtnjjgpjpodmgpaaPcs
set_option linter.unusedVariables false
set_option linter.unusedSimpArgs false
namespace Go.Proofs.Ytnjjgpjpodmgpaa
open Go.RowKit Go.Maps

def spT (l : List Pc) : List Tch := l.map fun s => ((s.1 : Int), (s.2 : Int), false)
theorem spT_len (l : List Pc) : (spT l).length = l.length := by simp [spT]
theorem spT_get {l : List Pc} {i : Nat} {s : Pc} (h : l[i]? = some s) : (spT l)[i]? = some ((s.1 : Int), (s.2 : Int), false) := by simp [spT, h]

def pcsE (T : Tb) (addr n : Int) : Option (List Pc) := if Win addr n then pcs T addr.toNat n.toNat else none
def inA (size : Nat) (l : List Pc) : Bool := l.all fun s => decide (s.1 ≤ size ∧ s.2 ≤ size - s.1)
def vpc (T : Tb) (size : Nat) (addr n : Int) : Option (List Pc) := match pcsE T addr n with | none => none | some l => cond (inA size l) (some l) none

theorem pcsE_some {T : Tb} {addr n : Int} {l : List Pc} (h : pcsE T addr n = some l) : ∃ a k : Nat, addr = a ∧ n = k ∧ 131072 ≤ a ∧ a + k ≤ 3276800 ∧ pcs T a k = some l := by
  unfold pcsE at h
  split at h
  · rename_i q
    exact ⟨addr.toNat, n.toNat, by omega, by omega, by omega, by omega, h⟩
  · cases h

theorem vpc_some {T : Tb} {size : Nat} {addr n : Int} {l : List Pc} (h : vpc T size addr n = some l) : pcsE T addr n = some l ∧ ∀ s ∈ l, s.1 ≤ size ∧ s.2 ≤ size - s.1 := by
  unfold vpc at h
  split at h
  · cases h
  · rename_i l' e
    cases hi : inA size l' with
    | false => rw [hi] at h; cases h
    | true =>
      rw [hi] at h
      obtain rfl : l' = l := Option.some.inj h
      refine ⟨e, fun s hs => ?_⟩
      have := List.all_eq_true.1 hi s hs
      simpa using this

section
variable {w w' : World} {tb m1 m2 : Nat} {T : Tb}

theorem PT.pieces (h : PT w tb m1 m2 T) (addr n : Int) {R : Value → World → Prop}
    (r0 : pcsE T addr n = none → ∀ w', Ext w w' → R (.tuple #[.slice none 0 0, .int .i64 4]) w')
    (r1 : ∀ l q c w', pcsE T addr n = some l → TRow w' (.slice q l.length c) (spT l) → Ext w w' → (∀ j, (Value.slice q l.length c).ownBlock = some j → w.heap.size ≤ j) → R (.tuple #[.slice q l.length c, .int .i64 0]) w') :
    CallS Try.prog 36 #[.pointer (some ⟨tb, 0, none⟩), .int .i64 addr, .int .i64 n] w R := by
  constructor
  refine VC.table_Table_Pieces.ok ?_
  unfold VC.table_Table_Pieces
  refine ifB_false rfl (within_win addr n w ⟨_, rfl, ?_⟩)
  by_cases hW : Win addr n
  case neg =>
    rw [decide_eq_false hW]
    exact ifB_true rfl (r0 (if_neg hW) w (Mod.refl _ _))
  rw [decide_eq_true hW]
  refine ifB_false rfl ?_
  have eP : pcsE T addr n = pcs T addr.toNat n.toNat := if_pos hW
  rw [eP] at r0 r1
  obtain ⟨a, rfl⟩ := Int.eq_ofNat_of_zero_le (show 0 ≤ addr by omega)
  obtain ⟨N, rfl⟩ := Int.eq_ofNat_of_zero_le hW.1
  rw [Int.toNat_natCast, Int.toNat_natCast] at r0 r1
  refine ⟨fun f i6 i7 q c1 c2 w1 => ∃ (k : Nat) (l : List Pc), i6 = ((a + k : Nat) : Int) ∧ i7 = ((N - k : Nat) : Int) ∧ f + k = N ∧ pcs T a k = some l ∧ (k = 0 ∨ (a + k) % 512 = 0 ∨ k = N) ∧ c1 = l.length ∧ TRow w1 (.slice q l.length c2) (spT l) ∧ Ext w w1 ∧
    ∀ j, (Value.slice q l.length c2).ownBlock = some j → w.heap.size ≤ j, ⟨N, 0, [], by omega, by omega, by omega, rfl, .inl rfl, rfl, TRow.nil _, Mod.refl _ _, fun j hj => by simp [Value.ownBlock] at hj⟩, ?_⟩
  rintro f jv i6 i7 q c1 c2 w1 ⟨k, l, rfl, rfl, hf, hp, hk, rfl, row, hE, hown⟩
  refine ifD (fun hgt => ?_) (fun hle => ?_)
  · have hkN : k < N := by omega
    have hk' : k = 0 ∨ (a + k) % 512 = 0 := by omega
    have hq : (a + k) / 512 < 6400 := by omega
    refine at_any (by omega) (by omega) w1 ⟨_, _, _, rfl, _, w1, rfl, _, w1, conv_flt (by omega) w1, ?_⟩
    have h1 := h.ext hE
    refine h1.find (i64w (by omega) (by omega)) ⟨_, rfl, ?_⟩
    refine ifD (fun hneg => ?_) (fun hpos => ?_)
    · have := pcs_none (pcs_bad hp hneg) (N - (k + 1))
      rw [show k + 1 + (N - (k + 1)) = N by omega] at this
      exact r0 this w1 hE
    · have hpos : 0 ≤ fnd T (((a + k) / 512 : Nat) : Int) := by omega
      obtain ⟨x, hx⟩ := Option.isSome_iff_exists.1 ((fnd_pos h.ok).1 hpos)
      have efx : fnd T (((a + k) / 512 : Nat) : Int) = x.2 := by unfold fnd; rw [hx]
      have rx := h.ok.rng x (fndO_some hx).1
      obtain ⟨p, hpn⟩ := Int.eq_ofNat_of_zero_le hpos
      have hp20 : p ≤ 1048576 := by omega
      obtain ⟨m, hm⟩ : ∃ m : Nat, m + 1 = min (N - k) (512 - (a + k) % 512) := ⟨min (N - k) (512 - (a + k) % 512) - 1, by omega⟩
      have emin : (if IntKind.i64.wrap (512 - (((a + k) % 512 : Nat) : Int)) < ((N - k : Nat) : Int) then IntKind.i64.wrap (512 - (((a + k) % 512 : Nat) : Int)) else ((N - k : Nat) : Int)) = ((m + 1 : Nat) : Int) := by
        rw [wrap_i64 (by omega) (by omega)]
        split <;> omega
      have eat : IntKind.i64.wrap (IntKind.i64.wrap (fnd T (((a + k) / 512 : Nat) : Int) * 512) + (((a + k) % 512 : Nat) : Int)) = ((p * 512 + (a + k) % 512 : Nat) : Int) := by
        rw [hpn, wrap_i64 (n := (p : Int) * 512) (by omega) (by omega), wrap_i64 (by omega) (by omega)]
        omega
      refine ⟨_, w1, rfl, _, w1, conv_flt (by omega) w1, _, w1, run_min_int2 w1 _ _ _ _ _ _, ?_⟩
      rw [emin, eat]
      refine al_intro fun b w2 hb hE2 hs2 _ => ?_
      have row2 := row.keep hE2 (fun _ _ x => x)
      obtain ⟨v', w3, hr, row3, hm3, hown3⟩ := run_touch (t := (((p * 512 + (a + k) % 512 : Nat) : Int), ((m + 1 : Nat) : Int), false)) (a := ⟨b, 0, none⟩) (c := 1) row2 (cells_all hb) (by rw [spT_len]; have := pcs_len hp; omega)
      have hch := pcs_chunk hp hpos hk' m (by omega)
      rw [hpn, Int.toNat_natCast] at hch
      have esp : spT l ++ [(((p * 512 + (a + k) % 512 : Nat) : Int), ((m + 1 : Nat) : Int), false)] = spT (l ++ [(p * 512 + (a + k) % 512, m + 1)]) := by simp [spT]
      rw [esp] at row3
      obtain ⟨q3, c3, rfl⟩ := row3.shape
      rw [spT_len] at row3 hown3
      rw [spT_len] at hr
      refine ⟨q3, _, c3, w3, hr, N - (k + (m + 1)), by omega, k + (m + 1), _, ?_, ?_, by omega, hch, by omega, rfl, row3, (hE.trans hE2).new hm3 (fun j hj => hown j hj), fun j hj => ?_⟩
      · rw [wrap_i64 (by omega) (by omega)]; omega
      · rw [wrap_i64 (by omega) (by omega)]; omega
      · rcases hown3 j hj with z | z
        · exact hown j z
        · have := hE.size; have := hE2.size; omega
  · have hkN : k = N := by omega
    subst hkN
    exact r1 l q c2 w1 hp row hE hown

theorem Ar.sizeC {F : Nat → Prop} {p : Nat} {bs : List UInt8} {ts : List Tch} (h : Ar w 107 p F bs ts) {R : Value → World → Prop} (r : R (.int .i64 (bs.length : Int)) w) : CallS Try.prog 20 #[.pointer (some ⟨p, 0, none⟩)] w R := by
  refine .of (size_any h) ?_
  rintro v w1 ⟨rfl, rfl⟩
  exact r

theorem view_pieces {ap : Nat} {F : Nat → Prop} {bs : List UInt8} {ts : List Tch} (ha : Ar w 107 ap F bs ts) (h : PT w tb m1 m2 T) (addr n : Int) {R : Value → World → Prop}
    (r0 : vpc T bs.length addr n = none → ∀ w', Ext w w' → R (.tuple #[.slice none 0 0, .int .i64 4]) w')
    (r1 : ∀ l q c w', vpc T bs.length addr n = some l → TRow w' (.slice q l.length c) (spT l) → Ext w w' → (∀ j, (Value.slice q l.length c).ownBlock = some j → w.heap.size ≤ j) → R (.tuple #[.slice q l.length c, .int .i64 0]) w') :
    CallS Try.prog 59 #[.pointer (some ⟨ap, 0, none⟩), .pointer (some ⟨tb, 0, none⟩), .int .i64 addr, .int .i64 n] w R := by
  have hsm := ha.small
  constructor
  refine VC.view_pieces.ok ?_
  unfold VC.view_pieces
  refine ifB_false rfl (ifB_false rfl (h.pieces addr n (fun e w1 hE1 => ?_) (fun l q c w1 e row hE1 hown => ?_)))
  · refine ⟨_, _, _, _, rfl, fun _ i w2 => i = 0 ∧ Ext w w2, ⟨0, rfl, hE1⟩, ?_⟩
    rintro _ _ _ w2 ⟨rfl, hE2⟩
    exact ifD_false (by decide) (r0 (by unfold vpc; rw [e]) w2 hE2)
  · obtain ⟨a, k, ea, ek, ha0, hak, hpc⟩ := pcsE_some e
    have hlen := pcs_len hpc
    have hok := pcs_ok hpc
    have sml : ∀ s ∈ l, s.1 ≤ 1048577 * 512 ∧ s.2 ≤ 512 := fun s hs => by
      obtain ⟨p1, p2, j, p3, p4, p5⟩ := hok.pos s hs
      obtain ⟨x, hx⟩ := Option.isSome_iff_exists.1 ((fnd_pos h.ok).1 p4)
      have efx : fnd T (((a + j) / 512 : Nat) : Int) = x.2 := by unfold fnd; rw [hx]
      have rx := h.ok.rng x (fndO_some hx).1
      rw [efx] at p5
      omega
    refine ⟨_, _, _, _, rfl, fun f i w2 => ∃ j : Nat, i = (j : Int) ∧ f + j = l.length ∧ Ext w1 w2 ∧ ∀ s ∈ l.take j, s.1 ≤ bs.length ∧ s.2 ≤ bs.length - s.1, ⟨l.length, 0, rfl, by omega, Mod.refl _ _, fun s hs => by simp at hs⟩, ?_⟩
    rintro f jv i w2 ⟨j, rfl, hf, hE2, hall⟩
    have bad : ∀ {s : Pc} {w3 : World}, l[j]? = some s → ¬ (s.1 ≤ bs.length ∧ s.2 ≤ bs.length - s.1) → Ext w1 w3 → R (.tuple #[.slice none 0 0, .int .i64 4]) w3 := fun {s w3} hs hb hE3 => by
      refine r0 ?_ w3 (hE1.trans hE3)
      unfold vpc
      rw [e]
      have : inA bs.length l = false := by
        cases hi : inA bs.length l with
        | false => rfl
        | true =>
          have := List.all_eq_true.1 hi s (List.mem_of_getElem? hs)
          exact absurd (by simpa using this) hb
      simp only [this, cond_false]
    refine ifD (fun hj => ⟨by omega, by omega, ?_⟩) (fun hj => ?_)
    · have hj : j < l.length := by omega
      obtain ⟨s, hs⟩ : ∃ s, l[j]? = some s := ⟨_, List.getElem?_eq_getElem hj⟩
      have hs20 := sml s (List.mem_of_getElem? hs)
      have row2 := row.keep hE2 (fun _ _ x => x)
      rw [← spT_len l] at row2
      obtain ⟨x, rfl, hc⟩ := row2.cells (spT_get hs)
      rw [Int.toNat_natCast]
      refine ⟨_, _, _, hc, al_intro fun b w3 hb hE3 hs3 _ => ?_⟩
      refine wr_intro (n := 3) hb (by simp) fun w4 hb4 hm4 hs4 => ?_
      have hE4 : Ext w2 w4 := hE3.new hm4 (fun k hk => by subst hk; omega)
      rintro w5 rfl
      have hE5 := hE4.trans (Ext.drew w4)
      have hb5 : w4.drew.heap[b]? = some (.cells #[.int .i64 (s.1 : Int), .int .i64 (s.2 : Int), .bool false] 50 (0, 0)) := hb4
      have c0 : w4.drew.cell? ((Addr.mk b 0 none).add 0) = some (.int .i64 (s.1 : Int)) := by rw [add_mk]; exact cell_blk hb5 rfl
      have c1 : w4.drew.cell? ((Addr.mk b 0 none).add 1) = some (.int .i64 (s.2 : Int)) := by rw [add_mk]; exact cell_blk hb5 rfl
      have ha5 := ha.keep ((hE1.trans hE2).trans hE5) (fun _ _ x => x)
      refine ⟨_, c0, ha5.sizeC ⟨_, rfl, ⟨_, c0, rfl⟩, ?_⟩⟩
      refine ifD (fun hgt => ⟨rfl, rfl, rfl, bad hs (fun q => by omega) (hE2.trans hE5)⟩) (fun hle => ⟨_, c1, _, c0, ha5.sizeC ⟨_, rfl, ⟨_, c0, rfl⟩, ⟨_, c1, rfl⟩, rfl, ?_⟩⟩)
      rw [wrap_i64 (n := (bs.length : Int) - (s.1 : Int)) (by omega) (by omega)]
      refine ifD (fun hgt => bad hs (fun q => by omega) (hE2.trans hE5)) (fun hle2 => ⟨f - 1, by omega, j + 1, ?_, by omega, hE2.trans hE5, fun u hu => ?_⟩)
      · rw [wrap_i64 (by omega) (by omega)]; omega
      · rw [List.take_add_one, hs] at hu
        rcases List.mem_append.1 hu with hu | hu
        · exact hall u hu
        · simp at hu; subst hu; omega
    · have hjl : j = l.length := by omega
      subst hjl
      rw [List.take_length] at hall
      refine r1 l q c w2 ?_ (row.keep hE2 (fun _ _ x => x)) (hE1.trans hE2) hown
      unfold vpc
      rw [e]
      have : inA bs.length l = true := List.all_eq_true.2 fun s hs => by simpa using hall s hs
      simp only [this, cond_true]

end

end Go.Proofs.Ytnjjgpjpodmgpaa
