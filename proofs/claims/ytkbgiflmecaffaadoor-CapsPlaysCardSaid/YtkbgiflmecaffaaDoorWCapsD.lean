/- Statements of layer 10: CapsOnce. Conditions: the table of TrailingZeros64 is laid; the arguments' cells are there. -/
import Derived.Test.YtkbgiflmecaffaaDoorWCapsC
import Derived.Test.YtkbgiflmecaffaaDoorGwRange
import Derived.Test.YtkbgiflmecaffaaDoorVcO
set_option linter.unusedVariables false
set_option linter.unusedSimpArgs false
namespace Go.Proofs.YtkbgiflmecaffaaDoor
open Go.RowKit

/-! ### a set of numbers -/

def setM (l : List Int) : Int → Option Value := fun x => if x ∈ l then some (.bool true) else none

theorem setM_snoc (l : List Int) (c : Int) : upd (setM l) c (some (.bool true)) = setM (l ++ [c]) := by
  funext x
  unfold upd setM
  by_cases e : x = c
  · subst e; simp
  · simp [e]

theorem setM_get (l : List Int) (x : Int) : (setM l x).getD (.bool false) = .bool (decide (x ∈ l)) := by
  unfold setM
  by_cases e : x ∈ l <;> simp [e]

theorem uUM : Tryd.prog.underlying 29 = some (.map 30 4) := by kernel_rfl
theorem uUI : Tryd.prog.underlying 30 = some (.int .u64) := by kernel_rfl
theorem zB (w : World) : (zeroValue 4).run Tryd.prog w = .ok (.bool false) w := by kernel_rfl

theorem u64_mk {x : Int} (h : Hd.U64 x) : (Lit.int .u64 x).wf = true := by
  simp [Lit.wf, IntKind.min, IntKind.max, IntKind.signed, IntKind.bits]
  exact ⟨h.1, by have := h.2; omega⟩

abbrev SMap (w : World) (b : Nat) (l : List Int) (sz : Nat) : Prop := IMap w Tryd.prog 30 .u64 b (setM l) sz

theorem own_look {w : World} {B sz : Nat} {l : List Int} (h : SMap w B l sz) {x : Int} (hx : Hd.U64 x) : (Instr.lookup 29 (.map (some B)) (.int .u64 x) false).run Tryd.prog w = .ok (.bool (decide (x ∈ l))) w := by
  rw [h.look uUI uUM (zB w) (u64_mk hx), setM_get]

theorem set_store {w : World} {B sz : Nat} {l : List Int} (h : SMap w B l sz) (hn : sz < maxLen) {x : Int} (hx : Hd.U64 x) :
    ∃ w', (Instr.mapUpdate 29 (.map (some B)) (.int .u64 x) (.bool true)).run Tryd.prog w = .ok () w' ∧ (∃ sz', sz' ≤ sz + 1 ∧ SMap w' B (l ++ [x]) sz') ∧ Mod (· = B) w w' := by
  obtain ⟨w', hr, hm, hM, _⟩ := h.store uUI uUM hn (u64_mk hx) (.bool true)
  rw [setM_snoc] at hm
  exact ⟨w', hr, ⟨_, by split <;> omega, hm⟩, hM⟩

/-! ### what is given is new -/

/-- What a call that may give a handle does, more closely. -/
def Eff2 (T nx : Int) (S : Int → Option Sl) (v nx' : Int) (S' : Int → Option Sl) : Prop :=
  (v = 0 ∧ S' = S ∧ nx' = nx) ∨ (v ≠ 0 ∧ Hd.U64 v ∧ nx' = nx + 1 ∧ ∃ x s, S x = none ∧ S' = updS S x (some s) ∧ Hd.KeyOk T x s.1 s.2.1 ∧ s.2.1 = nx ∧ v = Hd.packV T x s.1 s.2.1)

theorem Eff2.eff {T nx : Int} {S : Int → Option Sl} {v nx' : Int} {S' : Int → Option Sl} (h : Eff2 T nx S v nx' S') : Eff T S v S' := by
  rcases h with ⟨a, b, _⟩ | ⟨a, b, _, x, s, _, d, e, _, f⟩
  · exact .inl ⟨a, b⟩
  · exact .inr ⟨a, b, x, s, d, e, f⟩

theorem put_eff2 {T : Int} {S : Int → Option Sl} {base n : Nat} {nx r a : Int} (t0 : 0 ≤ T ∧ T ≤ 7) (n0 : 1 ≤ nx) (hr : 1 ≤ r ∧ r ≤ 7) (hb : base + n ≤ 4160) :
    ∃ v e, putV T S base n nx r = .tuple #[.int .u64 v, .int .i64 e] ∧ Eff2 T nx S v (putN S base n nx) (putS S base n nx r a) ∧ (e = 0 → v ≠ 0 ∧ ∃ x, S x = none ∧ putS S base n nx r a = updS S x (some (r, nx, a)) ∧ Hd.KeyOk T x r nx ∧ v = Hd.packV T x r nx) := by
  cases hk : putK S base n nx with
  | none => exact ⟨0, 10, by rw [putV, hk], .inl ⟨rfl, by rw [putS, hk], by rw [putN, hk]⟩, fun e => absurd e (by decide)⟩
  | some k =>
    have hn : nx < 17592186044416 := by
      unfold putK at hk
      split at hk
      · cases hk
      · omega
    have hlow : (occ S base n).findIdx? (fun b => !b) = some k := by
      unfold putK at hk
      split at hk
      · cases hk
      · exact hk
    have hkn : k < n := by
      have := (List.getElem?_eq_some_iff.1 (low_at hlow).1).1
      rwa [occ_len] at this
    have hfree : S ((base + k : Nat) : Int) = none := by
      have := (low_at hlow).1
      rw [occ_get _ hkn] at this
      have := Option.some.inj this
      cases hS : S ((base + k : Nat) : Int) with
      | none => rfl
      | some s => rw [hS] at this; cases this
    have key : Hd.KeyOk T ((base + k : Nat) : Int) r nx := ⟨t0.1, t0.2, by omega, by omega, hr.1, hr.2, n0, by omega⟩
    have hv : Hd.packV T ((base + k : Nat) : Int) r nx ≠ 0 := by
      unfold Hd.packV
      omega
    exact ⟨_, 0, by rw [putV, hk], .inr ⟨hv, (parts_of key).2.2.2.2, by rw [putN, hk], _, (r, nx, a), hfree, by rw [putS, hk], key, rfl, rfl⟩, fun _ => ⟨hv, _, hfree, by rw [putS, hk], key, rfl⟩⟩

theorem grant_eff2 {T : Int} {S : Int → Option Sl} {nx a : Int} (t0 : 0 ≤ T ∧ T ≤ 7) (n0 : 1 ≤ nx) : ∃ v e, grantV T S nx a = .tuple #[.int .u64 v, .int .i64 e] ∧ Eff2 T nx S v (grantN S nx a) (grantS S nx a) := by
  by_cases ha : a < 0
  · exact ⟨0, 12, if_pos ha, .inl ⟨rfl, if_pos ha, if_pos ha⟩⟩
  · obtain ⟨g1, g2, g3, _⟩ := grant_pos (T := T) (S := S) (nx := nx) (a := a) (sz := 0) (by omega)
    rw [g1, g2, g3]
    obtain ⟨v, e, h1, h2, _⟩ := put_eff2 (S := S) (a := a) t0 n0 (r := 7) (by decide) (show 0 + 4096 ≤ 4160 by decide)
    exact ⟨v, e, h1, h2⟩

theorem rest_eff2 {T : Int} {S : Int → Option Sl} {nx h r : Int} (t0 : 0 ≤ T ∧ T ≤ 7) (n0 : 1 ≤ nx) : ∃ v e, restV T S nx h r = .tuple #[.int .u64 v, .int .i64 e] ∧ Eff2 T nx S v (restN T S nx h r) (restS T S nx h r) ∧
    (e = 0 → ∃ s x, findS T S h = some s ∧ 1 ≤ r ∧ r ≤ 7 ∧ may s r = true ∧ S x = none ∧ restS T S nx h r = updS S x (some (r, nx, s.2.2)) ∧ Hd.KeyOk T x r nx ∧ v = Hd.packV T x r nx) := by
  cases hr : restO T S h r with
  | none =>
    refine ⟨0, _, by rw [restV, hr], .inl ⟨rfl, by rw [restS, hr], by rw [restN, hr]⟩, fun e => ?_⟩
    unfold restE at e
    split at e
    · split at e <;> exact absurd e (by decide)
    · exact absurd e (by decide)
  | some s =>
    obtain ⟨g1, g2, g3, _⟩ := rest_some (nx := nx) (sz := 0) hr
    rw [g1, g2, g3]
    have hr' : findS T S h = some s ∧ 1 ≤ r ∧ r ≤ 7 ∧ may s r = true := by
      unfold restO at hr
      split at hr
      · rename_i s' hs
        split at hr
        · rename_i q
          obtain rfl := Option.some.inj hr
          exact ⟨hs, q⟩
        · cases hr
      · cases hr
    obtain ⟨v, e, h1, h2, h3⟩ := put_eff2 (S := S) (a := s.2.2) t0 n0 ⟨hr'.2.1, hr'.2.2.1⟩ (show 4096 + 64 ≤ 4160 by decide)
    refine ⟨v, e, h1, h2, fun he => ?_⟩
    obtain ⟨_, x, a, b, c, d⟩ := h3 he
    exact ⟨s, x, hr'.1, hr'.2.1, hr'.2.2.1, hr'.2.2.2, a, b, c, d⟩

theorem findS_upd {T : Int} {S : Int → Option Sl} {x : Int} {s : Sl} {h : Int} (hne : Hd.uS h ≠ x) : findS T (updS S x (some s)) h = findS T S h := by
  have e : updS S x (some s) (Hd.uS h) = S (Hd.uS h) := by unfold updS; rw [if_neg hne]
  unfold findS
  rw [e]

theorem findS_new {T : Int} {S : Int → Option Sl} {x : Int} {s : Sl} {h : Int} (hS : S x = none) (hn : Hd.uN h ≠ s.2.1) (h0 : findS T S h = none) : findS T (updS S x (some s)) h = none := by
  by_cases e : Hd.uS h = x
  · have e' : updS S x (some s) (Hd.uS h) = some s := by unfold updS; rw [if_pos e]
    unfold findS
    rw [e']
    split
    · simp only
      rw [if_neg (fun q => hn q.2.symm)]
    · rfl
  · rw [findS_upd e]
    exact h0

theorem findS_rev {T : Int} {S : Int → Option Sl} {a h : Int} {k : Nat} (h0 : findS T S h = none) : findS T (revS S a k) h = none := by
  cases hf : findS T (revS S a k) h with
  | none => rfl
  | some s =>
    obtain ⟨hk, hT, hS, e1, e2⟩ := findS_in hf
    have hS' : S (Hd.uS h) = some s := by
      unfold revS at hS
      split at hS
      · cases hS
      · exact hS
    have : findS T S h = some s := by
      unfold findS
      rw [if_pos ⟨hk, hT⟩, hS']
      simp only
      rw [if_pos ⟨e1, e2⟩]
    rw [h0] at this
    cases this

theorem findS_gone {T : Int} {S : Int → Option Sl} {a h : Int} {s : Sl} (h0 : findS T S h = some s) (ha : s.2.2 = a) : findS T (revS S a 4160) h = none := by
  obtain ⟨hk, hT, hS, e1, e2⟩ := findS_in h0
  have e : revS S a 4160 (Hd.uS h) = none := by
    unfold revS
    rw [if_pos ⟨by rw [hS]; simpa using ha, hk.2.2.1, by have := hk.2.2.2.1; omega⟩]
  unfold findS
  rw [e]
  split <;> rfl

/-- What is known of all that were given, and of those that are dead. -/
structure Inv (T nx : Int) (S : Int → Option Sl) (G D : List Int) : Prop where
  cov : Cov T S G
  giv : ∀ x ∈ G, Hd.U64 x ∧ Hd.uN x < nx
  nd : G.Nodup
  dead : ∀ x ∈ D, Hd.U64 x ∧ Hd.uN x < nx ∧ findS T S x = none

theorem Inv.give {T nx : Int} {S : Int → Option Sl} {G D : List Int} {v nx' : Int} {S' : Int → Option Sl} (h : Inv T nx S G D) (e : Eff2 T nx S v nx' S') :
    Inv T nx' S' (if v = 0 then G else G ++ [v]) D ∧ (v ≠ 0 → v ∉ G) := by
  have hc := h.cov.step e.eff
  rcases e with ⟨rfl, rfl, rfl⟩ | ⟨hv, hu, rfl, x, s, hS, rfl, key, hs, rfl⟩
  · rw [if_pos rfl]
    exact ⟨h, fun q => absurd rfl q⟩
  · have hN : Hd.uN (Hd.packV T x s.1 s.2.1) = nx := by rw [(parts_of key).2.2.2.1, hs]
    have hout : Hd.packV T x s.1 s.2.1 ∉ G := fun q => by
      have := (h.giv _ q).2
      omega
    rw [if_neg hv] at hc ⊢
    refine ⟨⟨hc, fun y hy => ?_, ?_, fun y hy => ?_⟩, fun _ => hout⟩
    · rcases List.mem_append.1 hy with hy | hy
      · have := h.giv y hy
        exact ⟨this.1, by omega⟩
      · rw [List.mem_singleton.1 hy]
        exact ⟨hu, by omega⟩
    · rw [List.nodup_append]
      exact ⟨h.nd, by simp, fun a ha b hb e => hout (by rw [← List.mem_singleton.1 hb, ← e]; exact ha)⟩
    · obtain ⟨d1, d2, d3⟩ := h.dead y hy
      exact ⟨d1, by omega, findS_new hS (by omega) d3⟩

/-- Is it good, and of this address? -/
def isAt (T : Int) (S : Int → Option Sl) (a x : Int) : Bool := (findS T S x).any fun s => s.2.2 == a

theorem Inv.rev {T nx : Int} {S : Int → Option Sl} {G D : List Int} (h : Inv T nx S G D) (a : Int) : Inv T nx (revS S a 4160) G (D ++ G.filter (isAt T S a)) :=
  ⟨h.cov.rev a 4160, h.giv, h.nd, fun y hy => by
    rcases List.mem_append.1 hy with hy | hy
    · obtain ⟨d1, d2, d3⟩ := h.dead y hy
      exact ⟨d1, d2, findS_rev d3⟩
    · obtain ⟨hy, hat⟩ := List.mem_filter.1 hy
      obtain ⟨g1, g2⟩ := h.giv y hy
      unfold isAt at hat
      cases hf : findS T S y with
      | none => rw [hf] at hat; cases hat
      | some s =>
        rw [hf] at hat
        exact ⟨g1, g2, findS_gone hf (by simpa using hat)⟩⟩

theorem nodup_sub : ∀ (l m : List Int), l.Nodup → (∀ x ∈ l, x ∈ m) → l.length ≤ m.length
  | [], m, _, _ => by simp
  | x :: l, m, hn, h => by
    have hx := h x (by simp)
    have := nodup_sub l (m.erase x) (List.nodup_cons.1 hn).2 (fun y hy => by
      have hne : y ≠ x := fun e => (List.nodup_cons.1 hn).1 (e ▸ hy)
      exact (List.mem_erase_of_ne hne).2 (h y (by simp [hy])))
    have hpos := List.length_pos_of_mem hx
    rw [List.length_erase_of_mem hx] at this
    simp only [List.length_cons]
    omega

/-- Just as many slots as handles. -/
theorem Inv.count {T nx : Int} {S : Int → Option Sl} {G D : List Int} (h : Inv T nx S G D) (hT : 0 ≤ T ∧ T ≤ 7) (hok : ∀ x s, S x = some s → 0 ≤ x ∧ x < 4160 ∧ 1 ≤ s.1 ∧ s.1 ≤ 7 ∧ 1 ≤ s.2.1 ∧ s.2.1 < 17592186044416) (a : Int) : revC S a 4160 = (G.filter (isAt T S a)).length := by
  have keyOf : ∀ x s, S x = some s → Hd.KeyOk T x s.1 s.2.1 := fun x s hs => by
    have := hok x s hs
    exact ⟨hT.1, hT.2, by omega, by omega, by omega, by omega, by omega, by omega⟩
  apply Nat.le_antisymm
  · -- each slot's handle
    have e : revC S a 4160 = (((List.range 4160).filter fun j : Nat => (S (j : Int)).any fun s => s.2.2 == a).map fun j : Nat => match S (j : Int) with | some s => Hd.packV T (j : Int) s.1 s.2.1 | none => 0).length := by
      rw [List.length_map, ← List.countP_eq_length_filter]
      rfl
    rw [e]
    apply nodup_sub
    · rw [List.nodup_iff_pairwise_ne, List.pairwise_map]
      have hnd : ((List.range 4160).filter fun j : Nat => (S (j : Int)).any fun s => s.2.2 == a).Nodup := List.Pairwise.filter _ List.nodup_range
      have hmem : ∀ j ∈ ((List.range 4160).filter fun j : Nat => (S (j : Int)).any fun s => s.2.2 == a), ∃ s, S (j : Int) = some s := fun j hj => by
        have := (List.mem_filter.1 hj).2
        cases hS : S (j : Int) with
        | none => rw [hS] at this; cases this
        | some s => exact ⟨s, rfl⟩
      rw [List.nodup_iff_pairwise_ne] at hnd
      refine hnd.imp_of_mem fun {i j} hi hj hne => ?_
      obtain ⟨s, hs⟩ := hmem i hi
      obtain ⟨t, ht⟩ := hmem j hj
      rw [hs, ht]
      simp only
      intro e
      have e1 := (parts_of (keyOf _ _ hs)).2.1
      have e2 := (parts_of (keyOf _ _ ht)).2.1
      rw [e, e2] at e1
      omega
    · intro y hy
      obtain ⟨j, hj, rfl⟩ := List.mem_map.1 hy
      have hany := (List.mem_filter.1 hj).2
      cases hS : S (j : Int) with
      | none => rw [hS] at hany; cases hany
      | some s =>
        rw [hS] at hany
        simp only
        refine List.mem_filter.2 ⟨h.cov _ _ hS, ?_⟩
        unfold isAt
        rw [findS_of (keyOf _ _ hS) hS]
        exact hany
  · -- each handle's slot
    have e : (G.filter (isAt T S a)).length = ((G.filter (isAt T S a)).map Hd.uS).length := by rw [List.length_map]
    have e2 : revC S a 4160 = (((List.range 4160).filter fun j : Nat => (S (j : Int)).any fun s => s.2.2 == a).map fun j : Nat => (j : Int)).length := by
      rw [List.length_map, ← List.countP_eq_length_filter]
      rfl
    have hin : ∀ x ∈ G.filter (isAt T S a), ∃ s, findS T S x = some s ∧ s.2.2 = a := fun x hx => by
      have hat := (List.mem_filter.1 hx).2
      unfold isAt at hat
      cases hf : findS T S x with
      | none => rw [hf] at hat; cases hat
      | some s => rw [hf] at hat; exact ⟨s, rfl, by simpa using hat⟩
    rw [e, e2]
    apply nodup_sub
    · rw [List.nodup_iff_pairwise_ne, List.pairwise_map]
      have hnd : (G.filter (isAt T S a)).Nodup := List.Pairwise.filter _ h.nd
      rw [List.nodup_iff_pairwise_ne] at hnd
      refine hnd.imp_of_mem fun {x y} hx hy hne e => hne ?_
      obtain ⟨s, hs, _⟩ := hin x hx
      obtain ⟨t, ht, _⟩ := hin y hy
      obtain ⟨_, a1, a2, a3, a4⟩ := findS_in hs
      obtain ⟨_, b1, b2, b3, b4⟩ := findS_in ht
      rw [← e, a2] at b2
      obtain rfl := Option.some.inj b2
      rw [← pack_back x, ← pack_back y, a1, b1, e, ← a3, ← a4, ← b3, ← b4]
    · intro y hy
      obtain ⟨x, hx, rfl⟩ := List.mem_map.1 hy
      obtain ⟨s, hs, ha⟩ := hin x hx
      obtain ⟨hk, _, hS, _, _⟩ := findS_in hs
      have h0 := hk.2.2.1
      have h1 := hk.2.2.2.1
      refine List.mem_map.2 ⟨(Hd.uS x).toNat, List.mem_filter.2 ⟨List.mem_range.2 (by omega), ?_⟩, by omega⟩
      rw [Int.toNat_of_nonneg h0, hS]
      simpa using ha

end Go.Proofs.YtkbgiflmecaffaaDoor
