/- Statements of layer 11: ChainBack, ChainTakes. Conditions: the arguments' cells are there. -/
import Derived.Test.YtnjjgpjpodmgpaaWChainB
import Derived.Test.YtnjjgpjpodmgpaaGwMap
set_option linter.unusedVariables false
set_option linter.unusedSimpArgs false
namespace Go.Proofs.Ytnjjgpjpodmgpaa
open Go.RowKit

/-! ### a set of numbers -/

abbrev I64 (x : Int) : Prop := (Lit.int .i64 x).wf = true

def setM (l : List Int) : Int → Option Value := fun x => if x ∈ l then some (.bool true) else none

theorem setM_snoc (l : List Int) (c : Int) : upd (setM l) c (some (.bool true)) = setM (l ++ [c]) := by
  funext x
  unfold upd setM
  by_cases e : x = c
  · subst e; simp
  · simp [e]

theorem setM_get (l : List Int) (x : Int) : (setM l x).getD (.bool false) = .bool (decide (x ∈ l)) := by
  unfold setM
  by_cases e : x ∈ l <;> simp [e]

theorem uM : Try.prog.underlying 32 = some (.map 3 4) := by kernel_rfl
theorem uI : Try.prog.underlying 3 = some (.int .i64) := by kernel_rfl
theorem zB (w : World) : (zeroValue 4).run Try.prog w = .ok (.bool false) w := by kernel_rfl

theorem own_look {w : World} {B sz : Nat} {l : List Int} (h : IMap w Try.prog 3 .i64 B (setM l) sz) {x : Int} (hx : I64 x) : (Instr.lookup 32 (.map (some B)) (.int .i64 x) false).run Try.prog w = .ok (.bool (decide (x ∈ l))) w := by
  rw [h.look uI uM (zB w) hx, setM_get]

theorem ctake_snoc {l : List Int} {j : Nat} {c : Int} (hc : l[j]? = some c) : l.take (j + 1) = l.take j ++ [c] := by rw [List.take_add_one, hc]; rfl

/-! ### the bytes of a chain that was pushed -/

def lnk : List Nat → Nat
  | [] => 0
  | k :: _ => k + 1

def headI (S : List Nat) : Int := (lnk S : Int) - 1

def img (n base unit : Nat) : List Nat → List UInt8
  | [] => List.replicate n 0
  | k :: S => putAt (img n base unit S) (base + k * unit) (le8 (lnk S))

theorem le8_zero : le8 0 = List.replicate 8 0 := by decide +kernel

theorem putAt_twice {bs l m : List UInt8} {a : Nat} (hl : l.length = m.length) (h : a + l.length ≤ bs.length) : putAt (putAt bs a l) a m = putAt bs a m := by
  apply List.ext_getElem?
  intro j
  rw [putAt_get (bs := putAt bs a l) (by rw [putAt_length h]; omega), putAt_get (l := l) h, putAt_get (l := m) (by omega)]
  split
  · rfl
  · rw [if_neg (by omega)]

theorem putAt_seg {bs : List UInt8} {a k : Nat} (h : a + k ≤ bs.length) : putAt bs a (seg bs a k) = bs := by
  apply List.ext_getElem?
  intro j
  rw [putAt_get (by rw [seg_length h]; exact h), seg_length h]
  split
  · rename_i hj
    rw [seg_get (by omega)]
    congr 1
    omega
  · rfl

theorem seg_other {bs l : List UInt8} {a b : Nat} (ha : a + l.length ≤ bs.length) (hb : b + 8 ≤ bs.length) (hd : a + l.length ≤ b ∨ b + 8 ≤ a) : seg (putAt bs a l) b 8 = seg bs b 8 := by
  apply List.ext_getElem?
  intro j
  by_cases hj : j < 8
  · rw [seg_get hj, seg_get hj, putAt_get ha, if_neg (by omega)]
  · rw [List.getElem?_eq_none (by rw [seg_length (by rw [putAt_length ha]; exact hb)]; omega), List.getElem?_eq_none (by rw [seg_length hb]; omega)]

structure OkS (n base unit per : Nat) (S : List Nat) : Prop where
  u8 : 8 ≤ unit
  u512 : unit ≤ 512
  p1 : 1 ≤ per
  p64 : per ≤ 64
  fit : base + unit * per ≤ n
  n21 : n ≤ 2097152
  nd : S.Nodup
  lt : ∀ k ∈ S, k < per

section
variable {n base unit per : Nat} {S : List Nat}

theorem OkS.at (g : OkS n base unit per S) {k : Nat} (hk : k < per) : base + k * unit + 8 ≤ n := by
  have h1 : (k + 1) * unit ≤ per * unit := Nat.mul_le_mul_right _ hk
  rw [Nat.add_mul, Nat.one_mul, Nat.mul_comm per] at h1
  have := g.fit
  have := g.u8
  omega

theorem OkS.tail {k : Nat} (g : OkS n base unit per (k :: S)) : OkS n base unit per S := ⟨g.u8, g.u512, g.p1, g.p64, g.fit, g.n21, (List.nodup_cons.1 g.nd).2, fun q hq => g.lt q (List.mem_cons_of_mem _ hq)⟩

theorem OkS.cons {k : Nat} (g : OkS n base unit per S) (hk : k < per) (h : k ∉ S) : OkS n base unit per (k :: S) := ⟨g.u8, g.u512, g.p1, g.p64, g.fit, g.n21, List.nodup_cons.2 ⟨h, g.nd⟩, fun q hq => by
  rcases List.mem_cons.1 hq with rfl | hq
  · exact hk
  · exact g.lt q hq⟩

theorem apart_words {q k : Nat} (hu : 8 ≤ unit) (h : q ≠ k) : base + k * unit + 8 ≤ base + q * unit ∨ base + q * unit + 8 ≤ base + k * unit := by
  rcases Nat.lt_or_gt_of_ne h with h | h
  · have : (q + 1) * unit ≤ k * unit := Nat.mul_le_mul_right _ h
    rw [Nat.add_mul, Nat.one_mul] at this
    omega
  · have : (k + 1) * unit ≤ q * unit := Nat.mul_le_mul_right _ h
    rw [Nat.add_mul, Nat.one_mul] at this
    omega

theorem img_len : ∀ {S : List Nat}, OkS n base unit per S → (img n base unit S).length = n
  | [], _ => by simp [img]
  | k :: S, g => by
    have h := img_len g.tail
    unfold img
    rw [putAt_length (by rw [le8_length, h]; exact g.at (g.lt k (List.mem_cons_self ..))), h]

theorem img_out : ∀ {S : List Nat}, OkS n base unit per S → ∀ {q : Nat}, q < per → q ∉ S → seg (img n base unit S) (base + q * unit) 8 = List.replicate 8 0
  | [], g, q, hq, _ => seg_zeros (g.at hq)
  | k :: S, g, q, hq, hn => by
    have h := img_len g.tail
    have hk := g.at (g.lt k (List.mem_cons_self ..))
    have hne : q ≠ k := fun e => hn (by rw [e]; exact List.mem_cons_self ..)
    unfold img
    rw [seg_other (by rw [le8_length, h]; exact hk) (by rw [h]; exact g.at hq) (by rw [le8_length]; exact apart_words g.u8 hne)]
    exact img_out g.tail hq (fun x => hn (List.mem_cons_of_mem _ x))

theorem img_link : ∀ {S : List Nat}, OkS n base unit per S → ∀ (A : List Nat) (k : Nat) (B : List Nat), S = A ++ k :: B → lkA (img n base unit S) base unit k = lnk B
  | [], _, A, k, B, e => by simp at e
  | q :: S, g, A, k, B, e => by
    have h := img_len g.tail
    have hq := g.at (g.lt q (List.mem_cons_self ..))
    cases A with
    | nil =>
      simp only [List.nil_append, List.cons.injEq] at e
      obtain ⟨rfl, rfl⟩ := e
      have hl : lnk S ≤ 64 := by
        cases S with
        | nil => simp [lnk]
        | cons x S => have := g.lt x (by simp); have := g.p64; simp [lnk]; omega
      have hs : seg (img n base unit (q :: S)) (base + q * unit) 8 = le8 (lnk S) := by
        have := seg_putAt (bs := img n base unit S) (l := le8 (lnk S)) (a := base + q * unit) (by rw [le8_length, h]; exact hq)
        rwa [le8_length] at this
      show leV (seg (img n base unit (q :: S)) (base + q * unit) 8) = lnk S
      rw [hs, leV_le8 _ (by omega)]
    | cons a A =>
      simp only [List.cons_append, List.cons.injEq] at e
      obtain ⟨rfl, e⟩ := e
      have hkS : k ∈ S := by rw [e]; simp
      have hk := g.at (g.lt k (List.mem_cons_of_mem _ hkS))
      have hne : k ≠ q := fun x => (List.nodup_cons.1 g.nd).1 (by rw [← x]; exact hkS)
      have hs : seg (img n base unit (q :: S)) (base + k * unit) 8 = seg (img n base unit S) (base + k * unit) 8 := by
        show seg (putAt (img n base unit S) (base + q * unit) (le8 (lnk S))) _ 8 = _
        rw [seg_other (by rw [le8_length, h]; exact hq) (by rw [h]; exact hk) (by rw [le8_length]; exact apart_words g.u8 hne)]
      show leV (seg (img n base unit (q :: S)) (base + k * unit) 8) = lnk B
      rw [hs]
      exact img_link g.tail A k B e

theorem lnk_le (g : OkS n base unit per S) : lnk S ≤ per := by
  cases S with
  | nil => simp [lnk]
  | cons x S => have := g.lt x (by simp); simp [lnk]; omega

theorem img_pop {k : Nat} (g : OkS n base unit per (k :: S)) : putAt (img n base unit (k :: S)) (base + k * unit) (le8 0) = img n base unit S := by
  have h := img_len g.tail
  have hk := g.at (g.lt k (List.mem_cons_self ..))
  show putAt (putAt (img n base unit S) (base + k * unit) (le8 (lnk S))) _ (le8 0) = _
  rw [putAt_twice (by simp only [le8_length]) (by rw [le8_length, h]; exact hk), le8_zero, ← img_out g.tail (g.lt k (List.mem_cons_self ..)) (List.nodup_cons.1 g.nd).1]
  exact putAt_seg (by rw [h]; exact hk)

theorem len_nodup : ∀ (n : Nat) (S : List Nat), S.Nodup → (∀ k ∈ S, k < n) → S.length ≤ n
  | 0, S, _, h => by
    cases S with
    | nil => simp
    | cons x S => exact absurd (h x (by simp)) (by omega)
  | n + 1, S, hn, h => by
    by_cases hm : n ∈ S
    · have h1 := len_nodup n (S.erase n) (hn.erase n) (fun k hk => by
        have hk' := (List.Nodup.mem_erase_iff hn).1 hk
        have := h k hk'.2
        omega)
      rw [List.length_erase_of_mem hm] at h1
      omega
    · have := len_nodup n S hn (fun k hk => by
        have := h k hk
        have : k ≠ n := fun e => hm (e ▸ hk)
        omega)
      omega

abbrev asI (S : List Nat) : List Int := S.map fun k : Nat => (k : Int)

theorem allR_list (lk : Nat → Nat) : ∀ (S : List Nat) (f : Nat) (acc : List Int), S.length ≤ f → (∀ k ∈ S, k < per) → (∀ (A : List Nat) (k : Nat) (B : List Nat), S = A ++ k :: B → lk k = lnk B) →
    allR per lk f (headI S) acc = (some (acc ++ asI S), S)
  | [], f, acc, _, _, _ => by
    have e : headI [] = -1 := rfl
    rw [e]
    cases f <;> simp [allR]
  | k :: S, 0, acc, hf, _, _ => by simp at hf
  | k :: S, f + 1, acc, hf, hlt, hlk => by
    have e : headI (k :: S) = (k : Int) := by simp [headI, lnk]
    have ek : lk k = lnk S := hlk [] k S rfl
    have hl : ¬ per < lnk S := by
      cases S with
      | nil => simp [lnk]
      | cons x S => have := hlt x (by simp); simp [lnk]; omega
    have ih := allR_list lk S f (acc ++ [(k : Int)]) (by simp at hf; omega) (fun q hq => hlt q (List.mem_cons_of_mem _ hq)) (fun A q B e => hlk (k :: A) q B (by rw [e]; rfl))
    rw [e]
    unfold allR
    rw [if_neg (by omega), Int.toNat_natCast, ek, if_neg hl]
    show ((allR per lk f (headI S) (acc ++ [(k : Int)])).1, k :: (allR per lk f (headI S) (acc ++ [(k : Int)])).2) = _
    rw [ih]
    simp

end

end Go.Proofs.Ytnjjgpjpodmgpaa
