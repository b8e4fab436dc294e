/- The reference's pieces. Conditions: arena and table are there. -/
import Derived.Test.YtnjjgpjpodmgpaaRTab
import Derived.Test.YtnjjgpjpodmgpaaVwC
set_option linter.unusedVariables false
set_option linter.unusedSimpArgs false
namespace Go.Proofs.Ytnjjgpjpodmgpaa
open Go.RowKit Go.Maps

theorem rwithin_win (addr n : Int) (w : World) {R : Value → World → Prop} (r : R (.bool (decide (Win addr n))) w) : CallS Try.prog 88 #[.int .i64 addr, .int .i64 n] w R := by
  constructor
  refine VC.garthref14_Within.ok ?_
  unfold VC.garthref14_Within
  have no : ¬ Win addr n → R (.bool false) w := fun q => by rw [decide_eq_false q] at r; exact r
  refine ifD (fun h1 => ifD (fun h2 => ifD (fun h3 => ?_) (fun q => no fun x => q x.2.2.1)) (fun q => no fun x => q x.2.1)) (fun q => no fun x => q x.1)
  rw [wrap_i64 (by omega) (by omega)]
  have e : decide (n ≤ 3276800 - addr) = decide (Win addr n) := decide_eq_decide.2 ⟨fun x => ⟨by omega, by omega, by omega, by omega⟩, fun x => x.2.2.2⟩
  rw [e]
  exact r

theorem spT_snoc (l : List Pc) (x : Pc) : spT (l ++ [x]) = spT l ++ [((x.1 : Int), (x.2 : Int), false)] := by simp [spT]

theorem tcells_set (ts : List Tch) (a b b' : Int) (c : Bool) : (tcells (ts ++ [(a, b, c)])).set (ts.length * 3 + 1) (.int .i64 b') = tcells (ts ++ [(a, b', c)]) := by
  have e : ∀ t : Tch, tcells (ts ++ [t]) = tcells ts ++ tcell t := fun t => by rw [tcells_append]; simp [tcells]
  have hl : (tcells ts).length = ts.length * 3 := by
    unfold tcells
    exact flat_len (f := tcell) (k := 3) (fun _ => rfl) ts
  rw [e, e, List.set_append_right _ _ (by omega), hl, Nat.add_sub_cancel_left]
  rfl

/-- One byte more in the last piece. -/
theorem TRow.more {w : World} {q : Option Addr} {n c : Nat} {l : List Pc} {x : Pc} (h : TRow w (.slice q n c) (spT (l ++ [x]))) (hn : n = l.length + 1) (hx : x.2 < 1000000000) {K : World → Prop}
    (k : ∀ w', TRow w' (.slice q n c) (spT (l ++ [(x.1, x.2 + 1)])) → Mod (fun j => (Value.slice q n c).ownBlock = some j) w w' → K w') (hl : l.length < 1000000000) :
    0 ≤ IntKind.i64.wrap ((n : Int) - 1) ∧ IntKind.i64.wrap ((n : Int) - 1) < (n : Int) ∧ someA q fun a => ∃ i21 : Int, w.cell? ((a.add ((IntKind.i64.wrap ((n : Int) - 1)).toNat * 3)).add 1) = some (.int .i64 i21) ∧
      0 ≤ IntKind.i64.wrap ((n : Int) - 1) ∧ IntKind.i64.wrap ((n : Int) - 1) < (n : Int) ∧ someA q fun a22 => WrC w ((a22.add ((IntKind.i64.wrap ((n : Int) - 1)).toNat * 3)).add 1) 1 ∧
        ∀ w23, w23 = wr w ((a22.add ((IntKind.i64.wrap ((n : Int) - 1)).toNat * 3)).add 1) [.int .i64 (IntKind.i64.wrap (i21 + 1))] → K w23 := by
  subst hn
  have ew : IntKind.i64.wrap (((l.length + 1 : Nat) : Int) - 1) = ((l.length : Nat) : Int) := by rw [wrap_i64 (by omega) (by omega)]; omega
  rw [ew, Int.toNat_natCast]
  rw [spT_snoc] at h
  have hc := h
  have hg : (spT l ++ [((x.1 : Int), (x.2 : Int), false)])[l.length]? = some ((x.1 : Int), (x.2 : Int), false) := by
    rw [List.getElem?_append_right (by rw [spT_len]; omega), spT_len]
    simp
  obtain ⟨a, rfl, hcell⟩ := TRow.cells hc hg
  rcases h.2 with ⟨e, _⟩ | ⟨g, cap, cur, e, hb, hgg, hnc, hcm, hcs, htake⟩
  · cases e
  injection e with e1 e2 e3
  cases e1
  subst e3
  have h1 := hcell 1 _ rfl
  refine ⟨by omega, by omega, _, h1, by omega, by omega, ?_⟩
  simp only [someA, add_mk, Nat.zero_add]
  have hlen : (spT l ++ [((x.1 : Int), (x.2 : Int), false)]).length = l.length + 1 := by rw [List.length_append, spT_len]; rfl
  rw [hlen] at hnc htake
  refine wr_intro (n := 1) hgg (by rw [hcs]; have := Nat.mul_le_mul_right 3 hnc; omega) fun w1 hg1 hm1 _ => k w1 ?_ (hm1.mono fun j hj => by subst hj; rfl)
  rw [wrap_i64 (by omega) (by omega), show (x.2 : Int) + 1 = ((x.2 + 1 : Nat) : Int) by omega] at hg1
  rw [spT_snoc]
  have hlen' : (spT l ++ [((x.1 : Int), ((x.2 + 1 : Nat) : Int), false)]).length = l.length + 1 := by rw [List.length_append, spT_len]; rfl
  refine ⟨by rw [hlen']; have := h.1; rw [hlen] at this; rw [← tcells_set (spT l) (x.1 : Int) (x.2 : Int), List.length_set]; exact this, .inr ⟨g, c, _, by show Value.slice _ _ _ = Value.slice _ (spT l ++ [((x.1 : Int), ((x.2 + 1 : Nat) : Int), false)]).length c; rw [hlen'], Nat.zero_le _, hg1, by rw [hlen']; exact hnc, hcm, by rw [size_setAt]; exact hcs, ?_⟩⟩
  rw [hlen', ← tcells_set (spT l) (x.1 : Int) (x.2 : Int), ← htake, spT_len]
  show (cur.setIfInBounds _ _).toList.take _ = _
  rw [Array.toList_setIfInBounds, List.take_set]

section
variable {w w' : World} {rt : Nat} {v : Value} {T : Tb}

set_option maxHeartbeats 1000000 in
theorem RT.pieces (h : RT w rt v T) (addr n : Int) {R : Value → World → Prop}
    (r0 : pcsE T addr n = none → ∀ w', Ext w w' → R (.tuple #[.slice none 0 0, .int .i64 4]) w')
    (r1 : ∀ l q c w', pcsE T addr n = some l → TRow w' (.slice q l.length c) (spT l) → Ext w w' → (∀ j, (Value.slice q l.length c).ownBlock = some j → w.heap.size ≤ j) → R (.tuple #[.slice q l.length c, .int .i64 0]) w') :
    CallS Try.prog 87 #[.pointer (some ⟨rt, 0, none⟩), .int .i64 addr, .int .i64 n] w R := by
  constructor
  refine VC.garthref15_Table_Pieces.ok ?_
  unfold VC.garthref15_Table_Pieces
  refine rwithin_win addr n w ⟨_, rfl, ?_⟩
  by_cases hW : Win addr n
  case neg =>
    rw [decide_eq_false hW]
    exact ifB_true rfl (r0 (if_neg hW) w (Mod.refl _ _))
  rw [decide_eq_true hW]
  refine ifB_false rfl ?_
  have eP : pcsE T addr n = pcs T addr.toNat n.toNat := if_pos hW
  rw [eP] at r0 r1
  obtain ⟨a, rfl⟩ := Int.eq_ofNat_of_zero_le (show 0 ≤ addr by omega)
  obtain ⟨N, rfl⟩ := Int.eq_ofNat_of_zero_le hW.1
  rw [Int.toNat_natCast, Int.toNat_natCast] at r0 r1
  refine ⟨fun f q c1 c2 i w1 => ∃ (k : Nat) (l : List Pc), i = ((a + k : Nat) : Int) ∧ f + k = N ∧ pcs T a k = some l ∧ c1 = l.length ∧ TRow w1 (.slice q l.length c2) (spT l) ∧ Ext w w1 ∧
    ∀ j, (Value.slice q l.length c2).ownBlock = some j → w.heap.size ≤ j, ⟨N, 0, [], by omega, by omega, rfl, rfl, TRow.nil _, Mod.refl _ _, fun j hj => by simp [Value.ownBlock] at hj⟩, ?_⟩
  rintro f jv q c1 c2 i w1 ⟨k, l, rfl, hf, hp, rfl, row, hE, hown⟩
  have es : IntKind.i64.wrap ((a : Int) + (N : Int)) = ((a + N : Nat) : Int) := by rw [wrap_i64 (by omega) (by omega)]; omega
  rw [es]
  refine ifD (fun hgt => ?_) (fun hle => ?_)
  · have hkN : k < N := by omega
    have ediv : IntKind.i64.wrap (((a + k : Nat) : Int).tdiv 512) = (((a + k) / 512 : Nat) : Int) := by
      rw [show (512 : Int) = ((512 : Nat) : Int) from rfl, ← Int.ofNat_tdiv, wrap_i64 (by omega) (by omega)]
    rw [ediv]
    have h1 := h.keep (Ext.mod (F := fun _ => False) hE) (fun _ _ x => x)
    refine ⟨by decide, h1.find _ ⟨_, rfl, ?_⟩⟩
    refine ifD (fun hneg => ?_) (fun hpos => ?_)
    · have := pcs_none (pcs_bad hp hneg) (N - (k + 1))
      rw [show k + 1 + (N - (k + 1)) = N by omega] at this
      exact r0 this w1 hE
    have hpos : 0 ≤ fnd T (((a + k) / 512 : Nat) : Int) := by omega
    obtain ⟨x, hx⟩ := Option.isSome_iff_exists.1 ((fnd_pos h.ok).1 hpos)
    have efx : fnd T (((a + k) / 512 : Nat) : Int) = x.2 := by unfold fnd; rw [hx]
    have rx := h.ok.rng x (fndO_some hx).1
    obtain ⟨p, hpn⟩ := Int.eq_ofNat_of_zero_le hpos
    have hp20 : p ≤ 1048576 := by omega
    have emod : ((a + k : Nat) : Int).tmod 512 = (((a + k) % 512 : Nat) : Int) := by
      rw [show (512 : Int) = ((512 : Nat) : Int) from rfl, ← Int.ofNat_tmod]
    have eat : IntKind.i64.wrap (IntKind.i64.wrap (fnd T (((a + k) / 512 : Nat) : Int) * 512) + (((a + k) % 512 : Nat) : Int)) = ((p * 512 + (a + k) % 512 : Nat) : Int) := by
      rw [hpn, wrap_i64 (n := (p : Int) * 512) (by omega) (by omega), wrap_i64 (by omega) (by omega)]
      omega
    have enx : IntKind.i64.wrap (((a + k : Nat) : Int) + 1) = ((a + (k + 1) : Nat) : Int) := by rw [wrap_i64 (by omega) (by omega)]; omega
    have hlk := pcs_len hp
    rw [emod, eat, enx]
    -- a new piece
    have new : (k = 0 ∨ (a + k) % 512 = 0) → ∀ (n25 : Nat) (w26 : World), n25 = w1.heap.size → w26 = w1.alloc (Obj.cells #[.int .i64 ((p * 512 + (a + k) % 512 : Nat) : Int), .int .i64 0, .bool false] 50) →
        ∃ (p27 : Option Addr) (n28 n29 : Nat) (w30 : World), Sem.run Try.prog (Builtin.append_ #[47, 47] 47 #[.slice q l.length c2, .slice (some (Addr.mk n25 0 none)) 1 1]) w26 = .ok (.slice p27 n28 n29) w30 ∧
          0 ≤ IntKind.i64.wrap ((n28 : Int) - 1) ∧ IntKind.i64.wrap ((n28 : Int) - 1) < (n28 : Int) ∧ someA p27 fun a20 => ∃ i21 : Int, w30.cell? ((a20.add ((IntKind.i64.wrap ((n28 : Int) - 1)).toNat * 3)).add 1) = some (.int .i64 i21) ∧
      0 ≤ IntKind.i64.wrap ((n28 : Int) - 1) ∧ IntKind.i64.wrap ((n28 : Int) - 1) < (n28 : Int) ∧ someA p27 fun a22 => WrC w30 ((a22.add ((IntKind.i64.wrap ((n28 : Int) - 1)).toNat * 3)).add 1) 1 ∧
        ∀ w23, w23 = wr w30 ((a22.add ((IntKind.i64.wrap ((n28 : Int) - 1)).toNat * 3)).add 1) [.int .i64 (IntKind.i64.wrap (i21 + 1))] → ∃ n35, n35 < f ∧ (∃ (k' : Nat) (l' : List Pc), ((a + (k + 1) : Nat) : Int) = ((a + k' : Nat) : Int) ∧ n35 + k' = N ∧ pcs T a k' = some l' ∧ n28 = l'.length ∧ TRow w23 (.slice p27 l'.length n29) (spT l') ∧ Ext w w23 ∧
          ∀ j, (Value.slice p27 l'.length n29).ownBlock = some j → w.heap.size ≤ j) := fun hk => by
      refine al_intro fun b w2 hb hE2 hs2 _ => ?_
      have row2 := row.keep hE2 (fun _ _ x => x)
      obtain ⟨v', w3, hr, row3, hm3, hown3⟩ := run_touch (t := (((p * 512 + (a + k) % 512 : Nat) : Int), 0, false)) (a := ⟨b, 0, none⟩) (c := 1) row2 (cells_all hb) (by rw [spT_len]; omega)
      have esp : spT l ++ [(((p * 512 + (a + k) % 512 : Nat) : Int), 0, false)] = spT (l ++ [(p * 512 + (a + k) % 512, 0)]) := by rw [spT_snoc]; rfl
      rw [esp] at row3
      obtain ⟨q3, c3, rfl⟩ := row3.shape
      have el : (spT (l ++ [(p * 512 + (a + k) % 512, 0)])).length = l.length + 1 := by rw [spT_len, List.length_append]; rfl
      rw [el] at hr row3 hown3
      have hnn := pcs_new hp hpos hk
      rw [hpn, Int.toNat_natCast] at hnn
      refine ⟨q3, l.length + 1, c3, w3, hr, TRow.more row3 rfl (by show (0 : Nat) < _; omega) (fun w4 row4 hm4 => ?_) (by omega)⟩
      have hnew : ∀ j, (Value.slice q3 (l.length + 1) c3).ownBlock = some j → w.heap.size ≤ j := fun j hj => by
        rcases hown3 j hj with z | z
        · exact hown j z
        · have := hE.size; have := hE2.size; omega
      have e5 : (l ++ [(p * 512 + (a + k) % 512, 0 + 1)]).length = l.length + 1 := by simp
      refine ⟨N - (k + 1), by omega, k + 1, _, rfl, by omega, hnn, by simp, ?_, ((hE.trans hE2).new hm3 (fun j hj => hown j hj)).new hm4 (fun j hj => hnew j hj), fun j hj => hnew j ?_⟩
      · have : (l ++ [(p * 512 + (a + k) % 512, 1)]).length = l.length + 1 := by simp
        rw [this]
        exact row4
      · have : (l ++ [(p * 512 + (a + k) % 512, 1)]).length = l.length + 1 := by simp
        rw [this] at hj
        exact hj
    refine ifB_intro (fun e => ⟨by decide, new (.inl (by have e : ((a + k : Nat) : Int) = (a : Int) := by simpa using e
                                                         omega))⟩) (fun e => ⟨by decide, ifB_intro (fun e2 => ⟨by decide, new (.inr (by have e2 : (((a + k) % 512 : Nat) : Int) = 0 := by simpa using e2
                                                                                                                                        omega))⟩) (fun e2 => ?_)⟩)
    have hk1 : ¬ (k = 0 ∨ (a + k) % 512 = 0) := by
      have e : ¬ ((a + k : Nat) : Int) = (a : Int) := by simpa using e
      have e2 : ¬ (((a + k) % 512 : Nat) : Int) = 0 := by simpa using e2
      omega
    have hon := pcs_on hp hpos hk1
    obtain ⟨l0, y, el, hy⟩ := (pcs_ok hp).last (fun e => hk1 (.inl e))
    subst el
    have hy2 := (pcs_ok hp).pos y (by simp)
    rw [bump_snoc] at hon
    have ell : (l0 ++ [y]).length = l0.length + 1 := by simp
    rw [ell] at row hown hlk ⊢
    refine TRow.more row rfl (by omega) (fun w4 row4 hm4 => ?_) (by omega)
    have ell2 : (l0 ++ [(y.1, y.2 + 1)]).length = l0.length + 1 := by simp
    refine ⟨N - (k + 1), by omega, k + 1, _, rfl, by omega, hon, by simp, ?_, hE.new hm4 (fun j hj => hown j hj), fun j hj => hown j ?_⟩
    · rw [ell2]; exact row4
    · rw [ell2] at hj; exact hj
  · have hkN : k = N := by omega
    subst hkN
    exact r1 l q c2 w1 hp row hE hown

end

end Go.Proofs.Ytnjjgpjpodmgpaa
