/- The document's table of handles: a sorted list. Conditions: the list is there. -/
import Derived.Test.YtkbgiflmecaffaaDoorWCapsB
import Derived.Test.YtkbgiflmecaffaaDoorVcP
set_option linter.unusedVariables false
set_option linter.unusedSimpArgs false
namespace Go.Proofs.YtkbgiflmecaffaaDoor
open Go.RowKit

/-- An entry: tenant, slot, rights, serial, address. -/
abbrev Rl := Int × Int × Sl
def rlF (x : Rl) : List Value := [.int .i64 x.1, .int .i64 x.2.1, .int .i64 x.2.2.1, .int .i64 x.2.2.2.1, .int .i64 x.2.2.2.2]
theorem rlF_len (x : Rl) : (rlF x).length = 5 := rfl
theorem rlF_one (x : Rl) (u : Value) (h : u ∈ rlF x) : u.oneCell' = true := by
  simp only [rlF, List.mem_cons, List.mem_nil_iff, or_false] at h
  rcases h with rfl | rfl | rfl | rfl | rfl <;> rfl
theorem elemR : ElemOk Tryd.prog 54 78 5 40 := .of (z := .agg #[.int .i64 0, .int .i64 0, .int .i64 0, .int .i64 0, .int .i64 0]) (by kernel_rfl) (by kernel_rfl) rfl

/-- The list says what the slots say. -/
structure Rel (T : Int) (S : Int → Option Sl) (L : List Rl) : Prop where
  srt : L.Pairwise fun x y => x.2.1 < y.2.1
  ten : ∀ y ∈ L, y.1 = T
  mem : ∀ x s, S x = some s ↔ (T, x, s) ∈ L

structure RCw (w : World) (q : Nat) (v : Value) (T nx : Int) (L : List Rl) : Prop where
  head : w.heap[q]? = some (.cells #[.int .i64 T, .int .i64 nx, v] 56 (0, 0))
  row : ORow w 78 5 rlF v L
  ne : v.ownBlock ≠ some q

def RC (w : World) (q : Nat) (F : Nat → Prop) (T nx : Int) (L : List Rl) : Prop := ∃ v, RCw w q v T nx L ∧ F = fun k => k = q ∨ v.ownBlock = some k

def RPost (w : World) (q : Nat) (F : Nat → Prop) (T nx : Int) (L : List Rl) (w' : World) : Prop := ∃ F', RC w' q F' T nx L ∧ Mod F w w' ∧ ∀ k, F' k → F k ∨ w.heap.size ≤ k

theorem RC.keep {w w' : World} {q : Nat} {F G : Nat → Prop} {T nx : Int} {L : List Rl} (h : RC w q F T nx L) (hm : Mod G w w') (hG : ∀ k, F k → ¬ G k) : RC w' q F T nx L := by
  obtain ⟨v, h, rfl⟩ := h
  exact ⟨v, ⟨hm.keep h.head (hG q (.inl rfl)), h.row.keep hm (fun k hk => hG k (.inr hk)), h.ne⟩, rfl⟩

theorem RC.ext {w w' : World} {q : Nat} {F : Nat → Prop} {T nx : Int} {L : List Rl} (h : RC w q F T nx L) (hE : Ext w w') : RC w' q F T nx L := h.keep hE fun _ _ x => x

theorem RC.lt {w : World} {q : Nat} {F : Nat → Prop} {T nx : Int} {L : List Rl} (h : RC w q F T nx L) : ∀ k, F k → k < w.heap.size := by
  obtain ⟨v, h, rfl⟩ := h
  rintro k (rfl | hk)
  · exact lt_of_blk h.head
  · exact h.row.lt k hk

theorem rnew_any (t s : Int) (w : World) : Calls Tryd.prog 18 #[.int .i64 t, .int .i64 s] w (Ret fun v w' =>
    (¬ (0 ≤ t ∧ t ≤ 7 ∧ 1 ≤ s ∧ s ≤ 17592186044416) ∧ v = .tuple #[.pointer none, .int .i64 12] ∧ w' = w) ∨
    (0 ≤ t ∧ t ≤ 7 ∧ 1 ≤ s ∧ s ≤ 17592186044416 ∧ ∃ q F, v = .tuple #[.pointer (some ⟨q, 0, none⟩), .int .i64 0] ∧ RC w' q F t s [] ∧ Ext w w' ∧ ∀ k, F k → w.heap.size ≤ k)) := by
  refine VC.garthref10_New.ok ?_
  unfold VC.garthref10_New
  refine ifD (fun q => .inl ⟨by omega, rfl, rfl⟩) (fun h1 => ifD (fun q => .inl ⟨by omega, rfl, rfl⟩) (fun h2 => ifD (fun q => .inl ⟨by omega, rfl, rfl⟩) (fun h3 => ifD (fun q => .inl ⟨by omega, rfl, rfl⟩) (fun h4 => ?_))))
  refine al_intro fun q w1 hq hE hs hs' => .inr ⟨by omega, by omega, by omega, by omega, q, _, rfl, ⟨.slice none 0 0, ⟨hq, ORow.nil _ _, by simp [Value.ownBlock]⟩, rfl⟩, hE, ?_⟩
  rintro k (rfl | hk)
  · omega
  · simp [Value.ownBlock] at hk

/-! ### rights -/

theorem has_plain : ∀ x y : Fin 8, ∀ k : Fin 3, (((y.val : Int).tdiv (2 ^ k.val)).tmod 2 == 1) = true → (((x.val : Int).tdiv (2 ^ k.val)).tmod 2 == 0) = true → (bits .and .i64 (x.val : Int) (y.val : Int) == (y.val : Int)) = false := by decide +kernel

theorem has_all : ∀ x y : Fin 8, (∀ k : Fin 3, ¬ ((((y.val : Int).tdiv (2 ^ k.val)).tmod 2 == 1) = true ∧ (((x.val : Int).tdiv (2 ^ k.val)).tmod 2 == 0) = true)) → (bits .and .i64 (x.val : Int) (y.val : Int) == (y.val : Int)) = true := by decide +kernel

theorem has_any {s : Sl} {r : Int} (s0 : 0 ≤ s.1) (s7 : s.1 ≤ 7) (r0 : 0 ≤ r) (r7 : r ≤ 7) (w : World) : Calls Tryd.prog 33 #[.int .i64 s.1, .int .i64 r] w (Ret fun v w' => v = .bool (may s r) ∧ w' = w) := by
  obtain ⟨x, hx⟩ : ∃ x : Fin 8, (x.val : Int) = s.1 := ⟨⟨s.1.toNat, by omega⟩, by simp only; omega⟩
  obtain ⟨y, hy⟩ : ∃ y : Fin 8, (y.val : Int) = r := ⟨⟨r.toNat, by omega⟩, by simp only; omega⟩
  unfold may
  rw [← hx, ← hy]
  have hx8 := x.isLt
  have hy8 := y.isLt
  refine VC.garthref10_has.ok ?_
  unfold VC.garthref10_has
  refine ⟨fun m i w1 => w1 = w ∧ ∃ k : Nat, i = (2 : Int) ^ k ∧ m + k = 3 ∧ ∀ j : Fin 3, j.val < k → ¬ ((((y.val : Int).tdiv (2 ^ j.val)).tmod 2 == 1) = true ∧ (((x.val : Int).tdiv (2 ^ j.val)).tmod 2 == 0) = true), ⟨3, rfl, 0, rfl, rfl, fun j hj => by omega⟩, ?_⟩
  rintro m jv i w1 ⟨rfl, k, rfl, hmk, hj⟩
  have hk3 : k ≤ 3 := by omega
  refine ifB_intro (fun hlt => ?_) (fun hge => ?_)
  · have hk : k < 3 := by
      have := of_decide_eq_true hlt
      match k, hk3 with
      | 0, _ => decide
      | 1, _ => decide
      | 2, _ => decide
      | 3, _ => exact absurd this (by decide)
    have hpow : (2 : Int) ^ k ≠ 0 ∧ (∀ z : Nat, z < 8 → IntKind.i64.wrap ((z : Int).tdiv ((2 : Int) ^ k)) = (z : Int).tdiv ((2 : Int) ^ k)) ∧ IntKind.i64.wrap (2 * (2 : Int) ^ k) = (2 : Int) ^ (k + 1) := by
      refine ⟨?_, fun z hz => ?_, ?_⟩
      · match k, hk with
        | 0, _ => decide
        | 1, _ => decide
        | 2, _ => decide
      · refine wrap_i64 ?_ ?_
        · have : 0 ≤ (z : Int).tdiv ((2 : Int) ^ k) := Int.tdiv_nonneg (by omega) (by
            match k, hk with
            | 0, _ => decide
            | 1, _ => decide
            | 2, _ => decide)
          omega
        · have : (z : Int).tdiv ((2 : Int) ^ k) ≤ (z : Int) := Int.tdiv_le_self _ (by omega)
          omega
      · match k, hk with
        | 0, _ => decide
        | 1, _ => decide
        | 2, _ => decide
    rw [hpow.2.1 _ hx8, hpow.2.1 _ hy8]
    have go : ¬ ((((y.val : Int).tdiv (2 ^ k)).tmod 2 == 1) = true ∧ (((x.val : Int).tdiv (2 ^ k)).tmod 2 == 0) = true) → ∃ n7, n7 < m ∧ w1 = w1 ∧ ∃ k' : Nat, IntKind.i64.wrap (2 * (2 : Int) ^ k) = (2 : Int) ^ k' ∧ n7 + k' = 3 ∧ ∀ j : Fin 3, j.val < k' → ¬ ((((y.val : Int).tdiv (2 ^ j.val)).tmod 2 == 1) = true ∧ (((x.val : Int).tdiv (2 ^ j.val)).tmod 2 == 0) = true) := fun q =>
      ⟨m - 1, by omega, rfl, k + 1, hpow.2.2, by omega, fun j hj' => by
        by_cases e : j.val = k
        · rw [e]; exact q
        · exact hj j (by omega)⟩
    refine ⟨fun w2 => w2 = w1 ∧ ¬ ((((y.val : Int).tdiv (2 ^ k)).tmod 2 == 1) = true ∧ (((x.val : Int).tdiv (2 ^ k)).tmod 2 == 0) = true), ⟨hpow.1, by decide, ifB_intro (fun h1 => ⟨hpow.1, by decide, ifB_intro (fun h2 => ⟨?_, rfl⟩) (fun h2 => ⟨rfl, fun q => by rw [q.2] at h2; cases h2⟩)⟩) (fun h1 => ⟨rfl, fun q => by rw [q.1] at h1; cases h1⟩)⟩, ?_⟩
    · rw [has_plain x y ⟨k, hk⟩ h1 h2]
    · rintro jv w2 ⟨rfl, q⟩
      exact go q
  · have hk : k = 3 := by
      have := of_decide_eq_false hge
      match k, hk3 with
      | 0, _ => exact absurd this (by decide)
      | 1, _ => exact absurd this (by decide)
      | 2, _ => exact absurd this (by decide)
      | 3, _ => rfl
    subst hk
    exact ⟨by rw [has_all x y fun j => hj j j.isLt], rfl⟩

end Go.Proofs.YtkbgiflmecaffaaDoor
