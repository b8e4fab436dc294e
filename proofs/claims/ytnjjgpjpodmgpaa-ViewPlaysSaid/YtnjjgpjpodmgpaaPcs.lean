/- Where local bytes lie: the pieces, byte by byte and chunk by chunk. Conditions: none. -/
import Derived.Test.YtnjjgpjpodmgpaaTab
set_option linter.unusedVariables false
set_option linter.unusedSimpArgs false
namespace Go.Proofs.Ytnjjgpjpodmgpaa
open Go.RowKit

theorem nodup_inj {X Y : Type} {f : X → Y} : ∀ {l : List X} {x y : X}, (l.map f).Nodup → x ∈ l → y ∈ l → f x = f y → x = y
  | [], _, _, _, h, _, _ => by cases h
  | z :: l, x, y, hn, hx, hy, e => by
    rw [List.map_cons, List.nodup_cons] at hn
    by_cases h1 : x = z
    · by_cases h2 : y = z
      · rw [h1, h2]
      · have hy : y ∈ l := (List.mem_cons.1 hy).resolve_left h2
        exact absurd (List.mem_map.2 ⟨y, hy, by rw [← e, h1]⟩) hn.1
    · have hx : x ∈ l := (List.mem_cons.1 hx).resolve_left h1
      by_cases h2 : y = z
      · exact absurd (List.mem_map.2 ⟨x, hx, by rw [e, h2]⟩) hn.1
      · exact nodup_inj hn.2 hx ((List.mem_cons.1 hy).resolve_left h2) e

abbrev Pc := Nat × Nat
/-- The last piece has one byte more. -/
def bump : List Pc → List Pc
  | [] => []
  | [x] => [(x.1, x.2 + 1)]
  | x :: y :: l => x :: bump (y :: l)

theorem bump_snoc : ∀ (l : List Pc) (x : Pc), bump (l ++ [x]) = l ++ [(x.1, x.2 + 1)]
  | [], x => rfl
  | [y], x => rfl
  | y :: z :: l, x => by
    have := bump_snoc (z :: l) x
    simp only [List.cons_append] at this ⊢
    simp only [bump, this]

def pcs (T : Tb) (a : Nat) : Nat → Option (List Pc)
  | 0 => some []
  | k + 1 => match pcs T a k with
    | none => none
    | some l => if fnd T (((a + k) / 512 : Nat) : Int) < 0 then none else
        if k = 0 ∨ (a + k) % 512 = 0 then some (l ++ [((fnd T (((a + k) / 512 : Nat) : Int)).toNat * 512 + (a + k) % 512, 1)]) else some (bump l)

section
variable {T : Tb} {a k m : Nat} {l : List Pc}

theorem pcs_bad (h : pcs T a k = some l) (hf : fnd T (((a + k) / 512 : Nat) : Int) < 0) : pcs T a (k + 1) = none := by
  simp only [pcs, h]
  rw [if_pos hf]

theorem pcs_new (h : pcs T a k = some l) (hf : 0 ≤ fnd T (((a + k) / 512 : Nat) : Int)) (hk : k = 0 ∨ (a + k) % 512 = 0) : pcs T a (k + 1) = some (l ++ [((fnd T (((a + k) / 512 : Nat) : Int)).toNat * 512 + (a + k) % 512, 1)]) := by
  simp only [pcs, h]
  rw [if_neg (by omega), if_pos hk]

theorem pcs_on (h : pcs T a k = some l) (hf : 0 ≤ fnd T (((a + k) / 512 : Nat) : Int)) (hk : ¬ (k = 0 ∨ (a + k) % 512 = 0)) : pcs T a (k + 1) = some (bump l) := by
  simp only [pcs, h]
  rw [if_neg (by omega), if_neg hk]

theorem pcs_none (h : pcs T a k = none) : ∀ m, pcs T a (k + m) = none
  | 0 => h
  | m + 1 => by
    show pcs T a ((k + m) + 1) = none
    simp only [pcs, pcs_none h m]

theorem pcs_pre (h : pcs T a (k + m) ≠ none) : pcs T a k ≠ none := fun e => h (pcs_none e m)

theorem pcs_chunk (h : pcs T a k = some l) (hf : 0 ≤ fnd T (((a + k) / 512 : Nat) : Int)) (hk : k = 0 ∨ (a + k) % 512 = 0) : ∀ m, m + 1 ≤ 512 - (a + k) % 512 →
    pcs T a (k + (m + 1)) = some (l ++ [((fnd T (((a + k) / 512 : Nat) : Int)).toNat * 512 + (a + k) % 512, m + 1)])
  | 0, _ => pcs_new h hf hk
  | m + 1, hm => by
    have ih := pcs_chunk h hf hk m (by omega)
    have e1 : (a + (k + (m + 1))) / 512 = (a + k) / 512 := by omega
    have := pcs_on ih (by rw [e1]; exact hf) (by omega)
    rw [bump_snoc] at this
    exact this

theorem bump_len : ∀ l : List Pc, (bump l).length = l.length
  | [] => rfl
  | [x] => rfl
  | x :: y :: l => by simp only [bump, List.length_cons, bump_len (y :: l)]

theorem pcs_len : ∀ {k : Nat} {l : List Pc}, pcs T a k = some l → l.length ≤ k
  | 0, l, h => by simp only [pcs, Option.some.injEq] at h; subst h; simp
  | k + 1, l, h => by
    simp only [pcs] at h
    split at h
    · cases h
    · rename_i l' hl
      have := pcs_len hl
      split at h
      · cases h
      split at h
      · cases h; simp; omega
      · cases h; rw [bump_len]; omega

/-- Where a local byte lies. -/
def phys (T : Tb) (x : Nat) : Nat := (fnd T ((x / 512 : Nat) : Int)).toNat * 512 + x % 512
def flat (l : List Pc) : List Nat := l.flatMap fun s => List.range' s.1 s.2

theorem flat_append (l m : List Pc) : flat (l ++ m) = flat l ++ flat m := by simp [flat]

theorem flat_bump (l : List Pc) (x : Pc) : flat (bump (l ++ [x])) = flat (l ++ [x]) ++ [x.1 + x.2] := by
  rw [bump_snoc, flat_append, flat_append, List.append_assoc]
  congr 1
  simp only [flat, List.flatMap_cons, List.flatMap_nil, List.append_nil]
  rw [List.range'_1_concat]

/-- A list of pieces, all its facts. -/
structure PcsOk (T : Tb) (a k : Nat) (l : List Pc) : Prop where
  flat : flat l = (List.range k).map fun j => phys T (a + j)
  pos : ∀ s ∈ l, 1 ≤ s.2 ∧ s.1 % 512 + s.2 ≤ 512 ∧ ∃ j, j < k ∧ 0 ≤ fnd T (((a + j) / 512 : Nat) : Int) ∧ s.1 / 512 = (fnd T (((a + j) / 512 : Nat) : Int)).toNat
  last : k ≠ 0 → ∃ l' x, l = l' ++ [x] ∧ x.1 + x.2 = phys T (a + (k - 1)) + 1
  all : ∀ j, j < k → 0 ≤ fnd T (((a + j) / 512 : Nat) : Int)

theorem pcs_ok : ∀ {k : Nat} {l : List Pc}, pcs T a k = some l → PcsOk T a k l
  | 0, l, h => by
    simp only [pcs, Option.some.injEq] at h
    subst h
    exact ⟨rfl, fun s hs => (by cases hs), fun x => absurd rfl x, fun j hj => absurd hj (Nat.not_lt_zero _)⟩
  | k + 1, l, h => by
    cases hl : pcs T a k with
    | none => simp only [pcs, hl] at h; cases h
    | some l' =>
      have ih := pcs_ok hl
      by_cases hf : fnd T (((a + k) / 512 : Nat) : Int) < 0
      · rw [pcs_bad hl hf] at h; cases h
      have hf : 0 ≤ fnd T (((a + k) / 512 : Nat) : Int) := by omega
      have all : ∀ j, j < k + 1 → 0 ≤ fnd T (((a + j) / 512 : Nat) : Int) := fun j hj => by
        by_cases e : j = k
        · subst e; exact hf
        · exact ih.all j (by omega)
      by_cases hk : k = 0 ∨ (a + k) % 512 = 0
      · rw [pcs_new hl hf hk, Option.some.injEq] at h
        subst h
        refine ⟨?_, fun s hs => ?_, fun _ => ⟨l', _, rfl, ?_⟩, all⟩
        · rw [flat_append, ih.flat, List.range_succ, List.map_append]
          rfl
        · rcases List.mem_append.1 hs with hs | hs
          · obtain ⟨p1, p2, j, p3, p4⟩ := ih.pos s hs
            exact ⟨p1, p2, j, by omega, p4⟩
          · rw [List.mem_singleton] at hs
            subst hs
            refine ⟨Nat.le_refl _, by show (_ * 512 + (a + k) % 512) % 512 + 1 ≤ 512; omega, k, by omega, hf, by show (_ * 512 + (a + k) % 512) / 512 = _; omega⟩
        · show (_ * 512 + (a + k) % 512) + 1 = phys T (a + (k + 1 - 1)) + 1
          rw [Nat.add_sub_cancel]
          rfl
      · rw [pcs_on hl hf hk, Option.some.injEq] at h
        subst h
        obtain ⟨l0, x, e, hx⟩ := ih.last (fun e => hk (.inl e))
        have hk0 : k ≠ 0 := fun e => hk (.inl e)
        have hm : (a + k) % 512 ≠ 0 := fun e => hk (.inr e)
        have e1 : (a + (k - 1)) / 512 = (a + k) / 512 := by omega
        have e2 : phys T (a + (k - 1)) + 1 = phys T (a + k) := by
          unfold phys
          rw [e1]
          omega
        subst e
        refine ⟨?_, fun s hs => ?_, fun _ => ?_, all⟩
        · rw [flat_bump, ih.flat, List.range_succ, List.map_append, hx, e2]
          rfl
        · rw [bump_snoc] at hs
          rcases List.mem_append.1 hs with hs | hs
          · obtain ⟨p1, p2, j, p3, p4⟩ := ih.pos s (List.mem_append_left _ hs)
            exact ⟨p1, p2, j, by omega, p4⟩
          · rw [List.mem_singleton] at hs
            subst hs
            obtain ⟨p1, p2, j, p3, p4, p5⟩ := ih.pos x (by simp)
            refine ⟨by show 1 ≤ x.2 + 1; omega, ?_, j, by omega, p4, p5⟩
            show x.1 % 512 + (x.2 + 1) ≤ 512
            unfold phys at hx
            omega
        · refine ⟨l0, (x.1, x.2 + 1), bump_snoc _ _, ?_⟩
          rw [Nat.add_sub_cancel, ← e2, ← hx]
          show x.1 + (x.2 + 1) = _
          omega

theorem flatP_len : ∀ (l : List Pc), (flat l).length = (l.map (·.2)).sum
  | [] => rfl
  | s :: l => by
    have := flatP_len l
    simp only [flat, List.flatMap_cons, List.length_append, List.length_range', List.map_cons, List.sum_cons] at this ⊢
    rw [this]

/-- Two local bytes lie apart. -/
theorem phys_inj (g : TOk T) {x y : Nat} (hx : 0 ≤ fnd T ((x / 512 : Nat) : Int)) (hy : 0 ≤ fnd T ((y / 512 : Nat) : Int)) (h : phys T x = phys T y) : x = y := by
  obtain ⟨p, hp⟩ := Option.isSome_iff_exists.1 ((fnd_pos g).1 hx)
  obtain ⟨q, hq⟩ := Option.isSome_iff_exists.1 ((fnd_pos g).1 hy)
  have e1 : fnd T ((x / 512 : Nat) : Int) = p.2 := by unfold fnd; rw [hp]
  have e2 : fnd T ((y / 512 : Nat) : Int) = q.2 := by unfold fnd; rw [hq]
  have r1 := g.rng p (fndO_some hp).1
  have r2 := g.rng q (fndO_some hq).1
  unfold phys at h
  rw [e1, e2] at h
  have h2 : p.2 = q.2 := by omega
  have hpq : p = q := by
    have hn := g.n2
    exact nodup_inj hn (fndO_some hp).1 (fndO_some hq).1 h2
  subst hpq
  have a1 := (fndO_some hp).2
  have a2 := (fndO_some hq).2
  omega

end

end Go.Proofs.Ytnjjgpjpodmgpaa
