/- Contracts of package colour: Take, Free, Check, New, Copy; no map. Conditions: what is named is there. -/
import Derived.Test.YtaobcnagdceaeaaDoorColourM
set_option linter.unusedVariables false
set_option linter.unusedSimpArgs false
namespace Go.Proofs.YtaobcnagdceaeaaDoor
open Go.RowKit

def oI : Option Nat → Int
  | some p => (p : Int)
  | none => -1

section
variable {w : World} {mb n C : Nat} {F : Nat → Prop} {hs : List Bool}

theorem take_snoc {l : List Int} {j : Nat} {c : Int} (h : l[j]? = some c) : l.take (j + 1) = l.take j ++ [c] := by
  rw [List.take_add_one, h]
  rfl

theorem page_lt {k c : Nat} (hk : k < n) (hc : c < C) : k * C + c < n * C := by
  have : (k + 1) * C ≤ n * C := Nat.mul_le_mul_right _ hk
  rw [Nat.add_mul] at this
  omega

theorem mtake_any (tab : Tab w) (h : MH w mb F n C hs) {pa : Option Addr} {cc : Nat} {l : List Int} (hrow : RowAt w pa 1 intF l) (hl63 : l.length ≤ maxLen) :
    Calls Tryd.prog 32 #[.pointer (some ⟨mb, 0, none⟩), .slice pa l.length cc] w
      (Ret fun r w' => r = .tuple #[.int .i64 (mTakeI hs C l), .int .i64 (mTakeE hs C l)] ∧ MH w' mb F n C (mTakeH hs C l) ∧ Mod F w w') := by
  have hc1 := h.c1
  have hp4 := h.p4
  have hlen := h.len
  simp only [maxLen] at hl63
  refine VC.colour_Map_Take.ok ?_
  unfold VC.colour_Map_Take
  refine ifB_false rfl ⟨fun m best i w1 => ∃ (j : Nat) (o : Option Nat), i = (j : Int) ∧ m + j = l.length ∧ IsLow (FrP hs C (l.take j)) o ∧ best = oI o ∧ w1 = w,
    ⟨l.length, 0, none, rfl, rfl, (fun q hq => by simp [FrP, inW] at hq), rfl, rfl⟩, ?_⟩
  rintro m jv best i w1 ⟨j, o, rfl, hm, hlow, rfl, rfl⟩
  obtain ⟨v, L, h1, h2, h3⟩ := h.ok
  obtain ⟨pv, vc, rfl⟩ := h1.row.shape
  refine ifD (fun hj => ⟨by omega, hj, ?_⟩) (fun hj => ?_)
  · obtain ⟨c, hc⟩ : ∃ c, l[j]? = some c := ⟨_, List.getElem?_eq_getElem (by omega)⟩
    have ej : IntKind.i64.wrap ((j : Int) + 1) = ((j + 1 : Nat) : Int) := by rw [wrap_i64 (by omega) (by omega)]; rfl
    rw [Int.toNat_natCast]
    refine hrow.int hc (.of (colour_any h c) ?_)
    rintro r w2 ⟨rfl, rfl⟩
    refine ⟨_, rfl, ?_⟩
    by_cases hin : 0 ≤ c ∧ c < C
    case neg =>
      rw [decide_eq_false hin]
      refine ifB_true rfl ⟨m - 1, by omega, j + 1, o, ej, by omega, ?_, rfl, rfl⟩
      rw [take_snoc hc]
      refine hlow.congr fun p => ?_
      rw [FrP_append]
      exact ⟨.inl, fun q => q.elim id (fun a => absurd a (FrP_out (by omega) hin p))⟩
    rw [decide_eq_true hin]
    obtain ⟨cn, rfl⟩ := Int.eq_ofNat_of_zero_le hin.1
    have hcn : cn < C := by omega
    refine ifB_false rfl ?_
    obtain ⟨a, q, fl, rfl, hq, hf, hcell, hsh⟩ := h1.at (c := cn) (by omega)
    rw [cols_get hcn] at hf
    cases hf
    simp only [someA, add_mk, Nat.zero_add, Int.toNat_natCast]
    refine ⟨_, _, _, h1.c2, by omega, by omega, ?_⟩
    refine ⟨_, hcell, .of (lowest_any tab hsh) ?_⟩
    rintro r w3 ⟨rfl, rfl⟩
    obtain ⟨o', hlow', e', hk'⟩ := lowest_col h hcn
    rw [e']
    have hlow2 : IsLow (FrP hs C (l.take (j + 1))) (lesser o (o'.map fun k => k * C + cn)) := by
      rw [take_snoc hc]
      exact (hlow.or hlow').congr fun p => (FrP_append hs C _ _ p).symm
    refine ⟨_, rfl, ?_⟩
    cases o' with
    | none =>
      refine ifB_false rfl ⟨m - 1, by omega, j + 1, _, ej, by omega, hlow2, ?_, rfl⟩
      cases o <;> rfl
    | some k =>
      have hk := hk' k rfl
      have hpl := page_lt (C := C) hk hcn
      have hkC : k * C ≤ k * C + cn := by omega
      have ek : IntKind.i64.wrap (IntKind.i64.wrap ((k : Int) * (C : Int)) + (cn : Int)) = ((k * C + cn : Nat) : Int) := by
        rw [← Int.natCast_mul, wrap_i64 (n := ((k * C : Nat) : Int)) (by omega) (by omega), ← Int.natCast_add, wrap_i64 (by omega) (by omega)]
      refine ifB_true (decide_eq_true (Int.natCast_nonneg k)) ?_
      cases o with
      | none =>
        refine ifB_true rfl ?_
        refine ⟨_, h1.c1, m - 1, by omega, j + 1, _, ej, by omega, hlow2, ?_, rfl⟩
        rw [ek]
        rfl
      | some x =>
        refine ifB_false (decide_eq_false (by show ¬ ((x : Int) < 0); omega)) ?_
        refine ⟨_, h1.c1, ?_⟩
        rw [ek]
        refine ifD (fun hlt => ?_) (fun hlt => ?_)
        · have hlt : k * C + cn < x := by have : ((k * C + cn : Nat) : Int) < (x : Int) := hlt; omega
          refine ⟨_, h1.c1, m - 1, by omega, j + 1, _, ej, by omega, hlow2, ?_, rfl⟩
          rw [ek]
          simp only [lesser, Option.map_some, oI, if_pos hlt]
        · have hlt : ¬ k * C + cn < x := by have : ¬ ((k * C + cn : Nat) : Int) < (x : Int) := hlt; omega
          refine ⟨m - 1, by omega, j + 1, _, ej, by omega, hlow2, ?_, rfl⟩
          simp only [lesser, Option.map_some, oI, if_neg hlt]
  · rw [List.take_of_length_le (by omega)] at hlow
    have e := hlow.unique (pg_low hs C l)
    cases o with
    | none => exact ifB_true rfl ⟨by simp only [mTakeI, mTakeE, ← e], by simpa only [mTakeH, ← e] using h, Mod.refl _ _⟩
    | some p =>
      refine ifB_false (decide_eq_false (by show ¬ ((p : Int) < 0); omega)) ?_
      rintro w2 rfl
      have hE := Ext.drew w1
      have h0 := h.ext hE
      have h1 := h1.ext hE
      have hp := (List.getElem?_eq_some_iff.1 hlow.1.1).1
      obtain ⟨hc, hd, hbit⟩ := h0.page hp
      obtain ⟨a, q, fl, rfl, hq, hf, hcell, hsh⟩ := h1.at (c := p % C) (by omega)
      rw [cols_get hc] at hf
      cases hf
      have hle : p / C ≤ p := Nat.div_le_self _ _
      have em := tmod_nat p C
      have hd0 := Int.natCast_nonneg (p / C)
      simp only [someA, add_mk, Nat.zero_add, oI]
      refine ⟨_, _, _, h1.c2, _, h1.c1, by omega, by trivial, by omega, by omega, ?_⟩
      rw [em, Int.toNat_natCast]
      refine ⟨by trivial, _, hcell, _, h1.c1, by omega, by trivial, ?_⟩
      rw [tdiv_nat, wrap_i64 (n := ((p / C : Nat) : Int)) (by omega) (by omega)]
      refine .of (takeAt_any hsh _) ?_
      rintro r w3 ⟨rfl, h4, hm4⟩
      have hin' : InS (col hs C n (p % C)) ((p / C : Nat) : Int) := by rw [InS, col_len]; omega
      have hfree : (col hs C n (p % C))[p / C]? = some false := (hbit false).2 hlow.1.1
      have e1 : takeAtH (col hs C n (p % C)) ((p / C : Nat) : Int) = (col hs C n (p % C)).set (p / C) true := by simp only [takeAtH, if_pos hin', Int.toNat_natCast]
      have e2 : takeAtE (col hs C n (p % C)) ((p / C : Nat) : Int) = 0 := by
        rw [takeAtE, if_pos hin', Int.toNat_natCast, hfree]
        rfl
      rw [e1] at h4
      obtain ⟨g1, g2⟩ := h0.turn h1 h2 h3 hp hq h4 hm4
      rw [e2]
      exact ⟨_, rfl, by simp only [mTakeI, mTakeE, ← e], by simpa only [mTakeH, ← e] using g1, Mod.trans (hE.mod (F := F)) g2 (fun _ _ x => x)⟩

theorem any_snoc {l : List Int} {c x : Int} : (l ++ [c]).any (fun y => y == x) = (l.any (fun y => y == x) || (c == x)) := by simp [List.any_append]

theorem mfree_any (h : MH w mb F n C hs) {pa : Option Addr} {cc : Nat} {l : List Int} (hrow : RowAt w pa 1 intF l) (hl63 : l.length ≤ maxLen) :
    Calls Tryd.prog 31 #[.pointer (some ⟨mb, 0, none⟩), .slice pa l.length cc] w (Ret fun r w' => r = .int .i64 (cnt hs C l : Nat) ∧ Ext w w') := by
  have hc1 := h.c1
  have hc32 := h.c32
  have hp4 := h.p4
  have hlen := h.len
  simp only [maxLen] at hl63
  refine VC.colour_Map_Free.ok ?_
  unfold VC.colour_Map_Free
  refine ifB_false rfl (al_intro fun b w1 hb hE1 hs1 hs1' => ?_)
  refine ⟨fun m nf i w2 => ∃ (j : Nat) (seen : List Bool), i = (j : Int) ∧ m + j = l.length ∧ seen.length = 32 ∧ (∀ c, c < C → seen[c]? = some ((l.take j).any fun x => x == (c : Int))) ∧ nf = (cnt hs C (l.take j) : Nat) ∧
      w2.heap[b]? = some (.cells (fC seen).toArray 84 (0, 0)) ∧ Ext w w2,
    ⟨l.length, 0, List.replicate 32 false, rfl, rfl, rfl, fun c hc => ?_, ?_, hb, hE1⟩, ?_⟩
  · rw [List.getElem?_replicate, if_pos (by omega)]; rfl
  · have : cnt hs C (l.take 0) = 0 := by rw [cnt_zero]; exact IsLow.unique (pg_low hs C _) (fun q hq => by simp [FrP, inW] at hq)
    rw [this]; rfl
  rintro m jv nf i w2 ⟨j, seen, rfl, hm, hsl, hseen, rfl, hb2, hE2⟩
  refine ifD (fun hj => ⟨by omega, hj, ?_⟩) (fun hj => ⟨by rw [List.take_of_length_le (by omega)], hE2⟩)
  obtain ⟨c, hc⟩ : ∃ c, l[j]? = some c := ⟨_, List.getElem?_eq_getElem (by omega)⟩
  have ej : IntKind.i64.wrap ((j : Int) + 1) = ((j + 1 : Nat) : Int) := by rw [wrap_i64 (by omega) (by omega)]; rfl
  rw [Int.toNat_natCast]
  refine (hrow.ext hE2).int hc (.of (colour_any (h.ext hE2) c) ?_)
  rintro r w3 ⟨rfl, rfl⟩
  refine ⟨_, rfl, ?_⟩
  by_cases hin : 0 ≤ c ∧ c < C
  case neg =>
    rw [decide_eq_false hin]
    refine ifB_false rfl ⟨m - 1, by omega, j + 1, seen, ej, by omega, hsl, fun c' hc' => ?_, ?_, hb2, hE2⟩
    · rw [take_snoc hc, any_snoc, hseen c' hc']
      have : (c == (c' : Int)) = false := by simp; omega
      rw [this, Bool.or_false]
    · rw [take_snoc hc, cnt_same (by omega) (.inl hin)]
  rw [decide_eq_true hin]
  obtain ⟨cn, rfl⟩ := Int.eq_ofNat_of_zero_le hin.1
  have hcn : cn < C := by omega
  simp only [add_mk, Nat.zero_add, Int.toNat_natCast]
  refine ifB_true rfl ⟨by omega, by omega, _, cell_blk hb2 (fC_get seen (hseen cn hcn)), ?_⟩
  cases hany : (l.take j).any (fun x => x == (cn : Int)) with
  | true =>
    refine ifB_false rfl ⟨m - 1, by omega, j + 1, seen, ej, by omega, hsl, fun c' hc' => ?_, ?_, hb2, hE2⟩
    · rw [take_snoc hc, any_snoc, hseen c' hc']
      by_cases e : c' = cn
      · subst e; rw [hany]; rfl
      · have : ((cn : Int) == (c' : Int)) = false := by simp; omega
        rw [this, Bool.or_false]
    · rw [take_snoc hc, cnt_same (by omega) (.inr hany)]
  | false =>
    refine ifB_true rfl ⟨by omega, by omega, ?_⟩
    refine wr_intro (n := 1) hb2 (by simp [fC]; omega) fun w4 hb4 hm4 hs4 => ?_
    rw [fC_set seen (by omega)] at hb4
    have hE4 : Ext w w4 := hE2.new hm4 (fun k hk => by subst hk; omega)
    obtain ⟨v, L, h1, h2, h3⟩ := (h.ext hE4).ok
    obtain ⟨pv, vc, rfl⟩ := h1.row.shape
    obtain ⟨a, q, fl, rfl, hq, hf, hcell, hsh⟩ := h1.at (c := cn) (by omega)
    rw [cols_get hcn] at hf
    cases hf
    simp only [someA, add_mk, Nat.zero_add]
    refine ⟨_, _, _, h1.c2, by omega, by omega, ?_⟩
    refine ⟨_, hcell, .of (free_any hsh) ?_⟩
    rintro r w5 ⟨rfl, rfl⟩
    have e := cnt_more hlen hcn hany
    have hle := cnt_le hs C (l.take j ++ [(cn : Int)])
    refine ⟨_, rfl, m - 1, by omega, j + 1, seen.set cn true, ej, by omega, by simpa using hsl, fun c' hc' => ?_, ?_, hb4, hE4⟩
    · rw [take_snoc hc, any_snoc, List.getElem?_set]
      by_cases e : cn = c'
      · subst e; rw [if_pos rfl, if_pos (by omega)]; simp
      · rw [if_neg e, hseen c' hc']
        have : ((cn : Int) == (c' : Int)) = false := by simp; omega
        rw [this, Bool.or_false]
    · rw [take_snoc hc, wrap_i64 (by omega) (by omega), e]
      omega

end

/-! ### Check, New -/

theorem check_any (w : World) (P C : Int) : Calls Tryd.prog 39 #[.agg #[.int .i64 P, .int .i64 C]] w (Ret fun r w' => r = .int .i64 (if CfgOk P C then 0 else 12) ∧ Ext w w') := by
  refine VC.colour_Check.ok ?_
  unfold VC.colour_Check
  refine al_intro fun b w1 hb hE hs hs' => ?_
  have c0 : w1.cell? ((Addr.mk b 0 none).add 0) = some (.int .i64 P) := by rw [add_mk]; exact cell_blk hb rfl
  have c1 : w1.cell? ((Addr.mk b 0 none).add 1) = some (.int .i64 C) := by rw [add_mk]; exact cell_blk hb rfl
  have no : ¬ CfgOk P C → (Value.int .i64 12 = .int .i64 (if CfgOk P C then 0 else 12) ∧ Ext w w1) := fun q => ⟨by rw [if_neg q], hE⟩
  refine ⟨_, c1, ifD (fun h => no fun q => by have := q.1; omega) (fun h1 => ⟨_, c1, ifD (fun h => no fun q => by have := q.2.1; omega) (fun h2 => ⟨_, c0, ifD (fun h => no fun q => by have := q.2.2.1; omega) (fun h3 => ⟨_, c0, ifD (fun h => no fun q => by have := q.2.2.2.1; omega) (fun h4 => ⟨_, c0, _, c1, by omega, ?_⟩)⟩)⟩)⟩)⟩
  refine ifB_intro (fun h => no fun q => ?_) (fun h => ⟨?_, hE⟩)
  · have := q.2.2.2.2
    rw [this] at h
    cases h
  · rw [if_pos]
    exact ⟨by omega, by omega, by omega, by omega, by simpa using h⟩

theorem cols_none (n C : Nat) : cols (List.replicate (n * C) false) C n = List.replicate C (List.replicate n false) := by
  apply List.ext_getElem?
  intro c
  by_cases hc : c < C
  · rw [cols_get hc, List.getElem?_replicate, if_pos hc]
    congr 1
    apply List.ext_getElem?
    intro k
    by_cases hk : k < n
    · have hp := page_lt (C := C) hk hc
      rw [col_get hk, List.getElem?_replicate, if_pos hk, List.getD_eq_getElem?_getD, List.getElem?_replicate, if_pos hp]
      rfl
    · rw [List.getElem?_eq_none (by rw [col_len]; omega), List.getElem?_replicate, if_neg hk]
  · rw [List.getElem?_eq_none (by rw [cols_len]; omega), List.getElem?_replicate, if_neg hc]

def NewM (w : World) (P C : Int) (r : Value) (w' : World) : Prop :=
  (¬ CfgOk P C ∧ r = .tuple #[.pointer none, .int .i64 12] ∧ Ext w w') ∨
  (CfgOk P C ∧ ∃ (mb n c : Nat) (F : Nat → Prop), P = ((n * c : Nat) : Int) ∧ C = (c : Int) ∧ r = .tuple #[.pointer (some ⟨mb, 0, none⟩), .int .i64 0] ∧ MH w' mb F n c (List.replicate (n * c) false) ∧ Ext w w' ∧ (∀ k, F k → w.heap.size ≤ k) ∧ F mb)

theorem cfg_nat {P C : Int} (h : CfgOk P C) : ∃ n c : Nat, P = ((n * c : Nat) : Int) ∧ C = (c : Int) ∧ 1 ≤ n ∧ 1 ≤ c ∧ c ≤ 32 ∧ n * c ≤ 4096 := by
  obtain ⟨h1, h2, h3, h4, h5⟩ := h
  obtain ⟨c, rfl⟩ := Int.eq_ofNat_of_zero_le (show 0 ≤ C by omega)
  obtain ⟨p, rfl⟩ := Int.eq_ofNat_of_zero_le (show 0 ≤ P by omega)
  rw [tmod_nat] at h5
  have h5 : p % c = 0 := by omega
  have hp : p / c * c = p := Nat.div_mul_cancel (Nat.dvd_of_mod_eq_zero h5)
  refine ⟨p / c, c, by rw [hp], rfl, ?_, by omega, by omega, by rw [hp]; omega⟩
  rcases Nat.eq_zero_or_pos (p / c) with e | e
  · rw [e] at hp; omega
  · exact e

theorem mnew_any (w : World) (P C : Int) : Calls Tryd.prog 29 #[.agg #[.int .i64 P, .int .i64 C]] w (Ret (NewM w P C)) := by
  refine VC.colour_New.ok ?_
  unfold VC.colour_New
  refine al_intro fun b0 w1 hb0 hE1 hs1 hs1' => ⟨_, _, cells_all (vs := [.int .i64 P, .int .i64 C]) hb0, .of (check_any w1 P C) ?_⟩
  rintro r w2 ⟨rfl, hE2⟩
  have hE12 := hE1.trans hE2
  refine ⟨_, rfl, ?_⟩
  by_cases hcfg : CfgOk P C
  case neg =>
    rw [if_neg hcfg]
    exact ifB_true rfl (.inl ⟨hcfg, rfl, hE12⟩)
  rw [if_pos hcfg]
  obtain ⟨n, c, rfl, rfl, hn, hc1, hc32, hp4⟩ := cfg_nat hcfg
  refine ifB_false rfl ⟨_, _, cells_all (vs := [_, _]) (hE2.keep hb0), al_intro fun mb w3 hmb hE3 hs3 hs3' => ?_⟩
  have hb3 := hE3.keep (hE2.keep hb0)
  have hE13 := hE12.trans hE3
  refine ⟨_, by rw [add_mk]; exact cell_blk hb3 rfl, fun m i w4 => ∃ (j : Nat) (v : Value) (L : List (Nat × Nat)), i = (j : Int) ∧ m + j = c ∧ MP w4 mb ((n * c : Nat) : Int) (c : Int) v L (List.replicate j (List.replicate n false)) ∧ L.length = j ∧
      Ext w2 w4 ∧ (∀ k, fpM mb v L k → w2.heap.size ≤ k) ∧ w4.heap[b0]? = some (.cells #[.int .i64 ((n * c : Nat) : Int), .int .i64 (c : Int)] 46 (0, 0)),
    ⟨c, 0, .slice none 0 0, [], rfl, rfl, ⟨hmb, ORow.nil _ _, rfl, fun c p gb fl hq => by simp at hq, fun k hk => by simp [Value.ownBlock] at hk, fun q hq => by simp at hq, fun c c' q q' hq => by simp at hq⟩, rfl, hE3, fun k hk => ?_, hb3⟩, ?_⟩
  · rcases hk with rfl | hk | ⟨q, hq, _⟩
    · omega
    · simp [Value.ownBlock] at hk
    · simp at hq
  rintro m jv i w4 ⟨j, v, L, rfl, hm, hMP, hL, hE4, hnew, hb4⟩
  refine ifD (fun hj => ?_) (fun hj => .inr ⟨hcfg, mb, n, c, fpM mb v L, rfl, rfl, rfl, ⟨hn, hc1, hc32, hp4, by simp, ⟨v, L, ?_, ?_, fun k hk => hk⟩, hMP.lt⟩, hE12.trans hE4, fun k hk => Nat.le_trans hE12.size (hnew k hk), .inl rfl⟩)
  · have c0 : w4.cell? ((Addr.mk b0 0 none).add 0) = some (.int .i64 ((n * c : Nat) : Int)) := by rw [add_mk]; exact cell_blk hb4 rfl
    have c1 : w4.cell? ((Addr.mk b0 0 none).add 1) = some (.int .i64 (c : Int)) := by rw [add_mk]; exact cell_blk hb4 rfl
    have hle : n ≤ n * c := Nat.le_mul_of_pos_right n (by omega)
    have hdiv : IntKind.i64.wrap (((n * c : Nat) : Int).tdiv (c : Int)) = (n : Int) := by rw [tdiv_nat, Nat.mul_div_cancel _ (by omega), wrap_i64 (by omega) (by omega)]
    refine ⟨_, c0, _, c1, by omega, ?_⟩
    rw [hdiv]
    refine .of (new_any w4 (n : Int)) ?_
    rintro r w5 (⟨hno, _⟩ | ⟨_, _, p, gb, rfl, h5, hE5, hnew5⟩)
    · exact absurd ⟨by omega, by omega⟩ hno
    rw [Int.toNat_natCast] at h5
    have hMP5 := hMP.ext hE5
    have hlt4 := hMP.lt
    obtain ⟨pv, vc, rfl⟩ := hMP5.row.shape
    refine ⟨_, _, rfl, _, _, _, by rw [add_mk]; exact hMP5.c2, al_intro fun b w6 hb hE6 hs6 hs6' => ?_⟩
    simp only [add_mk, Nat.zero_add]
    refine hMP5.push h5 (fun k hk hk' => by have a1 := hnew5 k hk; have a2 := hlt4 k hk'; omega) (by omega) rfl hb hE6 hs6 (fun p2 n2 c2 w7 hwr hk => ?_)
    refine ⟨hwr, ?_⟩
    rintro w8 rfl
    obtain ⟨g1, g2, g3⟩ := hk _ rfl
    refine ⟨m - 1, by omega, j + 1, .slice p2 n2 c2, L ++ [(p, gb)], ?_, by omega, ?_, by simp [hL], (hE4.trans hE5).new g2 hnew, fun k hk' => ?_, ?_⟩
    · rw [wrap_i64 (by omega) (by omega)]; rfl
    · rw [List.replicate_succ']; exact g1
    · have a1 := hE4.size
      have a2 := hE5.size
      rcases g3 k hk' with e | e | e
      · exact hnew k e
      · have := hnew5 k e; omega
      · omega
    · refine g2.keep (hE5.keep hb4) (fun hk => ?_)
      have := hnew _ hk
      have := lt_of_blk (hE2.keep hb0)
      omega
  · have : j = c := by omega
    subst this
    rw [cols_none]
    exact hMP
  · omega

/-! ### Copy -/

theorem mcopy_any {w : World} {mb n C : Nat} {F : Nat → Prop} {hs : List Bool} (h : MH w mb F n C hs) : Calls Tryd.prog 42 #[.pointer (some ⟨mb, 0, none⟩)] w
    (Ret fun r w' => ∃ (mb' : Nat) (F' : Nat → Prop), r = .pointer (some ⟨mb', 0, none⟩) ∧ MH w' mb' F' n C hs ∧ Ext w w' ∧ (∀ k, F' k → w.heap.size ≤ k) ∧ F' mb') := by
  have hc32 := h.c32
  have hlen := h.len
  refine VC.colour_Map_Copy.ok ?_
  unfold VC.colour_Map_Copy
  obtain ⟨v, L, h1, h2, h3⟩ := h.ok
  obtain ⟨pv, vc, rfl⟩ := h1.row.shape
  refine ifB_false rfl ?_
  simp only [someA, add_mk, Nat.zero_add]
  refine ⟨_, _, cells_blk (vs := [.int .i64 ((n * C : Nat) : Int), .int .i64 (C : Int)]) h1.head (fun j u hu => ?_), al_intro fun mb' w1 hmb hE1 hs1 hs1' => ⟨_, _, _, (h1.ext hE1).c2, ?_⟩⟩
  · match j, hu with
    | 0, hu => exact hu
    | 1, hu => exact hu
    | j + 2, hu => simp at hu
  refine ⟨fun m i w2 => ∃ (j : Nat) (v' : Value) (L' : List (Nat × Nat)), i = (j : Int) ∧ m + j = C ∧ MP w2 mb' ((n * C : Nat) : Int) (C : Int) v' L' ((cols hs C n).take j) ∧ L'.length = j ∧ Ext w w2 ∧ (∀ k, fpM mb' v' L' k → w.heap.size ≤ k),
    ⟨C, 0, .slice none 0 0, [], rfl, rfl, ⟨hmb, ORow.nil _ _, rfl, fun c p gb fl hq => by simp at hq, fun k hk => by simp [Value.ownBlock] at hk, fun q hq => by simp at hq, fun c c' q q' hq => by simp at hq⟩, rfl, hE1, fun k hk => ?_⟩, ?_⟩
  · rcases hk with rfl | hk | ⟨q, hq, _⟩
    · omega
    · simp [Value.ownBlock] at hk
    · simp at hq
  rintro m jv i w2 ⟨j, v', L', rfl, hm, hMP, hL, hE2, hnew⟩
  refine ifD (fun hj => ⟨by omega, by omega, ?_⟩) (fun hj => ⟨mb', fpM mb' v' L', rfl, ⟨h.n1, h.c1, hc32, h.p4, hlen, ⟨v', L', ?_, by omega, fun k hk => hk⟩, hMP.lt⟩, hE2, hnew, .inl rfl⟩)
  · have hjC : j < C := by omega
    obtain ⟨a, q, fl, ha, hq, hf, hcell, hsh⟩ := (h1.ext hE2).at (c := j) (by omega)
    cases ha
    rw [cols_get hjC] at hf
    cases hf
    rw [Int.toNat_natCast]
    refine ⟨_, hcell, ?_⟩
    rintro w3 rfl
    have hE3 := Ext.drew w2
    have hMP3 := hMP.ext hE3
    obtain ⟨p1, c1, rfl⟩ := hMP3.row.shape
    refine ⟨_, _, _, hMP3.c2, .of (copy_any (hsh.ext hE3)) ?_⟩
    rintro r w4 ⟨p, gb, rfl, h4, hE4, hnew4⟩
    have hMP4 := hMP3.ext hE4
    have hlt3 := hMP3.lt
    refine ⟨_, rfl, ⟨_, _, _, hMP4.c2, by trivial⟩, al_intro fun b w5 hb hE5 hs5 hs5' => ⟨⟨_, _, _, (hMP4.ext hE5).c2, by trivial⟩, ?_⟩⟩
    refine hMP4.push h4 (fun k hk hk' => by have a1 := hnew4 k hk; have a2 := hlt3 k hk'; omega) (by omega) rfl hb hE5 hs5 (fun p2 n2 c2 w6 hwr hk => ⟨hwr, ?_⟩)
    rintro w7 rfl
    obtain ⟨g1, g2, g3⟩ := hk _ rfl
    have hE24 := (hE2.trans hE3).trans hE4
    refine ⟨m - 1, by omega, j + 1, .slice p2 n2 c2, L' ++ [(p, gb)], ?_, by omega, ?_, by simp [hL], hE24.new g2 hnew, fun k hk' => ?_⟩
    · rw [wrap_i64 (by omega) (by omega)]; rfl
    · rw [List.take_add_one, cols_get hjC]; exact g1
    · have a1 := hE24.size
      have a2 := (hE2.trans hE3).size
      rcases g3 k hk' with e | e | e
      · exact hnew k e
      · have := hnew4 k e; omega
      · omega
  · rw [List.take_of_length_le (by rw [cols_len]; omega)] at hMP
    exact hMP

/-! ### no map -/

section
variable (w : World)

theorem mtake_nil (v : Option Addr) (l c : Nat) : Calls Tryd.prog 32 #[.pointer none, .slice v l c] w (Ret fun r w' => r = .tuple #[.int .i64 0, .int .i64 11] ∧ w' = w) := by
  refine VC.colour_Map_Take.ok ?_
  unfold VC.colour_Map_Take
  exact ifB_true rfl ⟨rfl, rfl⟩

theorem mfree_nil (v : Option Addr) (l c : Nat) : Calls Tryd.prog 31 #[.pointer none, .slice v l c] w (Ret fun r w' => r = .int .i64 0 ∧ w' = w) := by
  refine VC.colour_Map_Free.ok ?_
  unfold VC.colour_Map_Free
  exact ifB_true rfl ⟨rfl, rfl⟩

theorem mwithin_nil (k : Int) : Calls Tryd.prog 55 #[.pointer none, .int .i64 k] w (Ret fun r w' => r = .bool false ∧ w' = w) := by
  refine VC.colour_Map_within.ok ?_
  unfold VC.colour_Map_within
  exact ifB_false rfl ⟨rfl, rfl⟩

theorem mcolour_nil (k : Int) : Calls Tryd.prog 36 #[.pointer none, .int .i64 k] w (Ret fun r w' => r = .int .i64 (-1) ∧ w' = w) := by
  refine VC.colour_Map_Colour.ok ?_
  unfold VC.colour_Map_Colour
  refine .of (mwithin_nil w k) ?_
  rintro r w1 ⟨rfl, rfl⟩
  exact ⟨_, rfl, ifB_true rfl ⟨rfl, rfl⟩⟩

theorem mtaken_nil (k : Int) : Calls Tryd.prog 33 #[.pointer none, .int .i64 k] w (Ret fun r w' => r = .bool false ∧ Ext w w') := by
  refine VC.colour_Map_Taken.ok ?_
  unfold VC.colour_Map_Taken
  rintro w0 rfl
  refine .of (mwithin_nil w.drew k) ?_
  rintro r w1 ⟨rfl, rfl⟩
  exact ⟨_, rfl, ifB_false rfl ⟨rfl, rfl, Ext.drew w⟩⟩

theorem mgive_nil (k : Int) : Calls Tryd.prog 37 #[.pointer none, .int .i64 k] w (Ret fun r w' => r = .int .i64 11 ∧ w' = w) := by
  refine VC.colour_Map_Give.ok ?_
  unfold VC.colour_Map_Give
  exact ifB_true rfl ⟨rfl, rfl⟩

theorem each_nil : Calls Tryd.prog 46 #[.pointer none] w (Ret fun r w' => r = .int .i64 0 ∧ w' = w) := by
  refine VC.colour_Map_Each.ok ?_
  unfold VC.colour_Map_Each
  exact ifB_true rfl ⟨rfl, rfl⟩

theorem mcopy_nil : Calls Tryd.prog 42 #[.pointer none] w (Ret fun r w' => r = .pointer none ∧ w' = w) := by
  refine VC.colour_Map_Copy.ok ?_
  unfold VC.colour_Map_Copy
  exact ifB_true rfl ⟨rfl, rfl⟩

end

end Go.Proofs.YtaobcnagdceaeaaDoor
