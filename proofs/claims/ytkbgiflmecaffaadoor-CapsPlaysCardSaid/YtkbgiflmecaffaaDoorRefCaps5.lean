/- Contracts of the document's table of handles: Grant, Restrict, Revoke. Conditions: the list is there, and says what the slots say. -/
import Derived.Test.YtkbgiflmecaffaaDoorRefCaps4
import Derived.Test.YtkbgiflmecaffaaDoorWCapsD
set_option linter.unusedVariables false
set_option linter.unusedSimpArgs false
namespace Go.Proofs.YtkbgiflmecaffaaDoor
open Go.RowKit

theorem putV_shape (T : Int) (S : Int → Option Sl) (base n : Nat) (nx r : Int) : ∃ i e, putV T S base n nx r = .tuple #[.int .u64 i, .int .i64 e] := by
  unfold putV
  split <;> exact ⟨_, _, rfl⟩

section
variable {w : World} {q : Nat} {F : Nat → Prop} {T nx : Int} {S : Int → Option Sl} {L : List Rl}

theorem rgrant_any (h : RC w q F T nx L) (hrel : Rel T S L) (t0 : 0 ≤ T ∧ T ≤ 7) (n0 : 1 ≤ nx ∧ nx ≤ 17592186044416) (hl : L.length ≤ 100000) (a : Int) :
    Calls Tryd.prog 19 #[.pointer (some ⟨q, 0, none⟩), .int .i64 a] w
      (Ret fun v w' => v = grantV T S nx a ∧ ∃ L', Rel T (grantS S nx a) L' ∧ L'.length = grantZ S nx a L.length ∧ RPost w q F T (grantN S nx a) L' w') := by
  refine VC.garthref10_Caps_Grant.ok ?_
  unfold VC.garthref10_Caps_Grant
  refine ifB_intro (fun ha => ?_) (fun ha => ?_)
  · have ha := of_decide_eq_true ha
    rw [grantV, grantS, grantN, grantZ, if_pos ha, if_pos ha, if_pos ha, if_pos ha]
    exact ⟨rfl, L, hrel, rfl, F, h, Mod.refl _ _, fun k hk => .inl hk⟩
  · have ha := of_decide_eq_false ha
    obtain ⟨g1, g2, g3, g4⟩ := grant_pos (T := T) (S := S) (nx := nx) (a := a) (sz := L.length) (by omega)
    rw [g1, g2, g3, g4]
    refine .of (rput_any h hrel t0 n0 hl (base := 0) (n := 4096) (by decide) (a := a) (r := 7) (by decide)) ?_
    rintro v w1 ⟨rfl, h1⟩
    obtain ⟨i, e, hv⟩ := putV_shape T S 0 4096 nx 7
    rw [hv]
    exact ⟨_, _, rfl, rfl, h1⟩

theorem rrestrict_any (h : RC w q F T nx L) (hrel : Rel T S L) (hok : ∀ x s, S x = some s → 0 ≤ x ∧ x < 4160 ∧ 1 ≤ s.1 ∧ s.1 ≤ 7 ∧ 1 ≤ s.2.1 ∧ s.2.1 < 17592186044416) (t0 : 0 ≤ T ∧ T ≤ 7) (n0 : 1 ≤ nx ∧ nx ≤ 17592186044416) (hl : L.length ≤ 100000) {hh : Int} (hu : Hd.U64 hh) (r : Int) :
    Calls Tryd.prog 21 #[.pointer (some ⟨q, 0, none⟩), .int .u64 hh, .int .i64 r] w
      (Ret fun v w' => v = restV T S nx hh r ∧ ∃ L', Rel T (restS T S nx hh r) L' ∧ L'.length = restZ T S nx hh r L.length ∧ RPost w q F T (restN T S nx hh r) L' w') := by
  refine VC.garthref10_Caps_Restrict.ok ?_
  unfold VC.garthref10_Caps_Restrict
  refine .of (rfind_any h hrel hok t0 hl hu) ?_
  rintro v w1 ⟨rfl, hE1⟩
  have hs1 := hE1.size
  have bad : ∀ (w' : World) (e : Int), Ext w w' → restO T S hh r = none → restE T S hh r = e → Value.tuple #[.int .u64 0, .int .i64 e] = restV T S nx hh r ∧ ∃ L', Rel T (restS T S nx hh r) L' ∧ L'.length = restZ T S nx hh r L.length ∧ RPost w q F T (restN T S nx hh r) L' w' := fun w' e hE ho he => by
    rw [restV, restS, restZ, restN, ho, he]
    exact ⟨rfl, L, hrel, rfl, F, h.ext hE, hE.mod, fun k hk => .inl hk⟩
  cases hf : findS T S hh with
  | none =>
    refine ⟨_, _, _, _, _, _, rfl, al_intro fun b w9 hb hE9 hs9 hs9' => give5 hb fun w10 hb10 hm10 _ => ifB_true rfl (bad w10 5 ((hE1.trans hE9).new hm10 (fun k hk => by omega)) (by rw [restO, hf]) (by rw [restE, hf]))⟩
  | some s =>
    refine ⟨_, _, _, _, _, _, rfl, al_intro fun b w9 hb hE9 hs9 hs9' => give5 hb fun w10 hb10 hm10 _ => ifB_false rfl ?_⟩
    have hE10 : Ext w w10 := (hE1.trans hE9).new hm10 (fun k hk => by omega)
    have hsr := hok _ _ (findS_in hf).2.2.1
    refine ifB_intro (fun h1 => bad w10 2 hE10 ?_ ?_) (fun h1 => ifB_intro (fun h2 => bad w10 2 hE10 ?_ ?_) (fun h2 => ?_))
    · have h1 := of_decide_eq_true h1
      rw [restO, hf]; simp only; rw [if_neg (by omega)]
    · have h1 := of_decide_eq_true h1
      rw [restE, hf]; simp only; rw [if_pos (.inl h1)]
    · have h2 := of_decide_eq_true h2
      rw [restO, hf]; simp only; rw [if_neg (by omega)]
    · have h2 := of_decide_eq_true h2
      rw [restE, hf]; simp only; rw [if_pos (.inr h2)]
    have h1 := of_decide_eq_false h1
    have h2 := of_decide_eq_false h2
    refine ⟨s.1, by rw [add_mk, add_mk]; exact cell_blk hb10 rfl, .of (has_any (s := s) (r := r) (by omega) (by omega) (by omega) (by omega) w10) ?_⟩
    rintro v w13 ⟨rfl, rfl⟩
    refine ⟨_, rfl, ifB_intro (fun h3 => bad w13 5 hE10 ?_ ?_) (fun h3 => ⟨_, dcell hb10 rfl, ?_⟩)⟩
    · have h3 : may s r = false := by simpa using h3
      rw [restO, hf]; simp only; rw [if_neg (fun q => by rw [h3] at q; exact absurd q.2.2 (by decide))]
    · rw [restE, hf]; simp only; rw [if_neg (by omega)]
    · have h3 : may s r = true := by simpa using h3
      have ho : restO T S hh r = some s := by rw [restO, hf]; simp only; rw [if_pos ⟨by omega, by omega, h3⟩]
      obtain ⟨g1, g2, g3, g4⟩ := rest_some (nx := nx) (sz := L.length) ho
      rw [g1, g2, g3, g4]
      refine .of (rput_any (h.ext hE10) hrel t0 n0 hl (base := 4096) (n := 64) (by decide) (a := s.2.2) (r := r) ⟨by omega, by omega⟩) ?_
      rintro v w14 ⟨rfl, L', h4, h5, F', h6, h7, h8⟩
      obtain ⟨i, e, hv⟩ := putV_shape T S 4096 64 nx r
      rw [hv]
      have hs10 := hE10.size
      exact ⟨_, _, rfl, rfl, L', h4, h5, F', h6, Mod.trans hE10.mod h7 (fun _ _ x => x), fun k hk => (h8 k hk).imp id (fun z => by omega)⟩

theorem Rel.rev (hrel : Rel T S L) (hok : ∀ x s, S x = some s → 0 ≤ x ∧ x < 4160) (a : Int) : Rel T (revS S a 4160) (L.filter fun y => !(y.2.2.2.2 == a)) := by
  refine ⟨hrel.srt.filter _, fun y hy => hrel.ten y (List.mem_filter.1 hy).1, fun x s => ?_⟩
  rw [List.mem_filter, ← hrel.mem]
  unfold revS
  by_cases hx : (S x).any (fun s => s.2.2 == a) = true ∧ 0 ≤ x ∧ x < ((4160 : Nat) : Int)
  · rw [if_pos hx]
    constructor
    · intro q; cases q
    · rintro ⟨q, r⟩
      rw [q] at hx
      have := hx.1
      simp only [Option.any_some] at this
      simp only [this] at r
      cases r
  · rw [if_neg hx]
    constructor
    · intro q
      refine ⟨q, ?_⟩
      have := hok x s q
      cases e : s.2.2 == a with
      | false => rfl
      | true => exact absurd ⟨by rw [q]; simpa using e, this.1, by omega⟩ hx
    · exact fun q => q.1

theorem Rel.count (hrel : Rel T S L) (hok : ∀ x s, S x = some s → 0 ≤ x ∧ x < 4160) (a : Int) : revC S a 4160 = (L.filter fun y => y.2.2.2.2 == a).length := by
  have e1 : revC S a 4160 = (((List.range 4160).filter fun j : Nat => (S (j : Int)).any fun s => s.2.2 == a).map fun j : Nat => (j : Int)).length := by
    rw [List.length_map, ← List.countP_eq_length_filter]
    rfl
  have e2 : (L.filter fun y => y.2.2.2.2 == a).length = ((L.filter fun y => y.2.2.2.2 == a).map fun y => y.2.1).length := by rw [List.length_map]
  rw [e1, e2]
  have n1 : (((List.range 4160).filter fun j : Nat => (S (j : Int)).any fun s => s.2.2 == a).map fun j : Nat => (j : Int)).Nodup := by
    rw [List.nodup_iff_pairwise_ne, List.pairwise_map]
    have hnd : ((List.range 4160).filter fun j : Nat => (S (j : Int)).any fun s => s.2.2 == a).Nodup := List.Pairwise.filter _ List.nodup_range
    rw [List.nodup_iff_pairwise_ne] at hnd
    exact hnd.imp fun {i j} hne e => hne (by omega)
  have n2 : ((L.filter fun y => y.2.2.2.2 == a).map fun y => y.2.1).Nodup := by
    rw [List.nodup_iff_pairwise_ne, List.pairwise_map]
    exact (hrel.srt.filter _).imp fun {x y} hlt e => by omega
  apply Nat.le_antisymm
  · refine nodup_sub _ _ n1 fun x hx => ?_
    obtain ⟨j, hj, rfl⟩ := List.mem_map.1 hx
    have hany := (List.mem_filter.1 hj).2
    cases hS : S (j : Int) with
    | none => rw [hS] at hany; cases hany
    | some s =>
      rw [hS] at hany
      exact List.mem_map.2 ⟨(T, (j : Int), s), List.mem_filter.2 ⟨(hrel.mem _ _).1 hS, by simpa using hany⟩, rfl⟩
  · refine nodup_sub _ _ n2 fun x hx => ?_
    obtain ⟨y, hy, rfl⟩ := List.mem_map.1 hx
    obtain ⟨hyL, hya⟩ := List.mem_filter.1 hy
    have hS : S y.2.1 = some y.2.2 := (hrel.mem _ _).2 (by rw [← hrel.ten y hyL]; exact hyL)
    have hr := hok _ _ hS
    refine List.mem_map.2 ⟨y.2.1.toNat, List.mem_filter.2 ⟨List.mem_range.2 (by omega), ?_⟩, Int.toNat_of_nonneg hr.1⟩
    rw [Int.toNat_of_nonneg hr.1, hS]
    simpa using hya

set_option maxRecDepth 20000 in
theorem rrevoke_any (h : RC w q F T nx L) (hrel : Rel T S L) (hok : ∀ x s, S x = some s → 0 ≤ x ∧ x < 4160) (hl : L.length ≤ 100000) (a : Int) :
    Calls Tryd.prog 22 #[.pointer (some ⟨q, 0, none⟩), .int .i64 a] w
      (Ret fun v w' => v = .int .i64 (revC S a 4160 : Int) ∧ ∃ L', Rel T (revS S a 4160) L' ∧ L'.length = L.length - revC S a 4160 ∧ RPost w q F T nx L' w') := by
  refine VC.garthref10_Caps_Revoke.ok ?_
  unfold VC.garthref10_Caps_Revoke
  obtain ⟨pp, cc, hw, rfl, hpp⟩ := h.shape
  clear h
  have h := hw
  clear hw
  have hqlt := lt_of_blk h.head
  refine ⟨fun m p3 n4 c5 i w7 => ∃ j : Nat, i = (j : Int) ∧ m + j = L.length ∧ n4 = ((L.take j).filter fun y => !(y.2.2.2.2 == a)).length ∧ ORow w7 78 5 rlF (.slice p3 n4 c5) ((L.take j).filter fun y => !(y.2.2.2.2 == a)) ∧ (∀ x, (Value.slice p3 n4 c5).ownBlock = some x → w.heap.size ≤ x) ∧ Ext w w7,
    ⟨L.length, 0, rfl, rfl, by simp, by simpa using ORow.nil _ _, fun x hx => by simp [Value.ownBlock] at hx, Mod.refl _ _⟩, ?_⟩
  rintro m jv p3 n4 c5 i w7 ⟨j, rfl, hmj, rfl, hout, hon, hE7⟩
  have hd7 := hE7.keep h.head
  have hrow7 := h.row.keep (Ext.mod (F := fun _ => False) hE7) (fun _ _ x => x)
  have hfl : ((L.take j).filter fun y => !(y.2.2.2.2 == a)).length ≤ L.length := Nat.le_trans (List.length_filter_le _ _) (by rw [List.length_take]; exact Nat.min_le_right _ _)
  simp only [someA]
  refine ⟨_, _, _, dcell hd7 rfl, ifB_intro (fun hlt => ?_) (fun hge => ?_)⟩
  · have hlt := of_decide_eq_true hlt
    obtain ⟨y, hy⟩ : ∃ y, L[j]? = some y := ⟨_, List.getElem?_eq_getElem (by omega)⟩
    obtain ⟨ad, rfl, hc⟩ := hrow7.cells rlF_len hy
    have c4 := hc 4 _ rfl
    have etk : L.take (j + 1) = L.take j ++ [y] := by rw [List.take_add_one, hy]; rfl
    have ej : IntKind.i64.wrap ((j : Int) + 1) = ((j + 1 : Nat) : Int) := by rw [wrap_i64 (by omega) (by omega)]; rfl
    rw [Int.toNat_natCast]
    refine ⟨fun p3 n4 c5 w8 => n4 = ((L.take (j + 1)).filter fun y => !(y.2.2.2.2 == a)).length ∧ ORow w8 78 5 rlF (.slice p3 n4 c5) ((L.take (j + 1)).filter fun y => !(y.2.2.2.2 == a)) ∧ (∀ x, (Value.slice p3 n4 c5).ownBlock = some x → w.heap.size ≤ x) ∧ Ext w w8, ⟨_, _, _, dcell hd7 rfl, by omega, hlt, _, c4, ifB_intro (fun hne => ?_) (fun heq => ?_)⟩, ?_⟩
    · have hne' : (!(y.2.2.2.2 == a)) = true := hne
      have e : (L.take (j + 1)).filter (fun y => !(y.2.2.2.2 == a)) = (L.take j).filter (fun y => !(y.2.2.2.2 == a)) ++ [y] := by rw [etk, List.filter_append]; simp only [List.filter_cons, hne', if_true, List.filter_nil]
      refine ⟨_, _, _, dcell hd7 rfl, by omega, hlt, _, _, _, _, _, hc, al_intro fun b w8 hb hE8 hs8 hs8' => ?_⟩
      have hout8 := hout.keep (Ext.mod (F := fun _ => False) hE8) (fun _ _ x => x)
      obtain ⟨p', c', w9, hr, ho, hM9, hne9⟩ := ORow.push elemR rlF_len rlF_one hout8 54 ⟨b, 0, none⟩ 1 y (cells_all (vs := [_, _, _, _, _]) hb) (by simp only [maxLen]; omega) (by omega)
      rw [e]
      have s7 := hE7.size
      refine ⟨p', _, c', w9, hr, by simp, ho, fun x hx => ?_, (hE7.trans hE8).new hM9 hon⟩
      rcases hne9 x hx with z | z
      · exact hon x z
      · omega
    · have heq' : (!(y.2.2.2.2 == a)) = false := heq
      have e : (L.take (j + 1)).filter (fun y => !(y.2.2.2.2 == a)) = (L.take j).filter (fun y => !(y.2.2.2.2 == a)) := by rw [etk, List.filter_append]; simp [List.filter_cons, heq']
      rw [e]
      exact ⟨rfl, hout, hon, hE7⟩
    · rintro jv p4 n5 c6 w8 ⟨rfl, ho, hn, hE8⟩
      exact ⟨m - 1, by omega, j + 1, ej, by omega, rfl, ho, hn, hE8⟩
  · have hge := of_decide_eq_false hge
    have etk : L.take j = L := List.take_of_length_le (by omega)
    rw [etk] at hout hon hfl ⊢
    refine ⟨_, _, _, dcell hd7 rfl, ?_⟩
    refine wr_intro (b := q) (n := 1) hd7 (by simp) fun w8 hd8 hm8 hs8 => ?_
    have hcnt := hrel.count hok a
    have hsum : (L.filter fun y => y.2.2.2.2 == a).length + (L.filter fun y => !(y.2.2.2.2 == a)).length = L.length := by
      rw [← List.countP_eq_length_filter, ← List.countP_eq_length_filter]
      have := List.length_eq_countP_add_countP (fun y : Rl => y.2.2.2.2 == a) (l := L)
      rw [this]
      congr 1
      exact List.countP_congr fun y _ => by simp
    have s7 := hE7.size
    refine ⟨?_, _, hrel.rev hok a, by omega, _, ⟨_, ⟨hd8, hout.keep hm8 (fun x hx e => by have := hon x hx; omega), fun e => by have := hon q e; omega⟩, rfl⟩, ?_, ?_⟩
    · rw [wrap_i64 (by omega) (by omega), hcnt]
      congr 1
      omega
    · exact Mod.trans (hE7.mod (F := fun k => k = q ∨ (Value.slice pp L.length cc).ownBlock = some k)) hm8 (fun j _ hj => .inl hj)
    · rintro k (e | e)
      · exact .inl (.inl e)
      · exact .inr (hon k e)

end

end Go.Proofs.YtkbgiflmecaffaaDoor
