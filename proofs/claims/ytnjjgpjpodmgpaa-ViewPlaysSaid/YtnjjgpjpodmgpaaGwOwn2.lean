/- A row of one's own: one more behind its first ones, what is behind a place of it. Conditions: none. -/
import Derived.Test.YtnjjgpjpodmgpaaGwLaw
import Derived.Test.YtnjjgpjpodmgpaaGwOwn
set_option linter.unusedVariables false
set_option linter.unusedSimpArgs false
namespace Go.Proofs.Ytnjjgpjpodmgpaa
open Go.RowKit

section
variable {X : Type} {f : X → List Value} {k : Nat} {w : World} {e : TypeId} {l : List X}

/-- One more behind the first ones of a row, which keeps: a new row. -/
theorem ORow.full {P : Program} {t bytes : Nat} (E : ElemOk P t e k bytes) (hf : ∀ x, (f x).length = k) {p : Option Addr} {n c : Nat} (h : ORow w e k f (.slice p n c) l) {m : Nat} (hm : m ≤ l.length) (ty : TypeId) (a : Addr) (c' : Nat) (x : X) (ha : CellsAt w a (f x))
    (h63 : l.length + 1 ≤ maxLen) (hb : (l.length + 1) * bytes ≤ 140737488355328) (h1 : ∀ x u, u ∈ f x → u.oneCell' = true) :
    ∃ (p' : Option Addr) (cc : Nat) (w' : World), (Builtin.append_ #[t, t] ty #[.slice p m m, .slice (some a) 1 c']).run P w = .ok (.slice p' (m + 1) cc) w' ∧ ORow w' e k f (.slice p' (m + 1) cc) (l.take m ++ [x]) ∧ Ext w w' ∧
      ∀ b, (Value.slice p' (m + 1) cc).ownBlock = some b → w.heap.size ≤ b := by
  have hlt : (l.take m).length = m := by rw [List.length_take]; omega
  rcases h.2 with ⟨hv, hn⟩ | ⟨g, cap, cur, hv, _, hg, hnc, hcm, hcs, htake⟩
  · cases hv
    have : m = 0 := by omega
    subst this
    obtain ⟨p', cc, w', hr, ho, hM, hne⟩ := ORow.push E hf h1 (ORow.nil (k := k) (f := f) w e) ty a c' x ha (by simp only [List.length_nil]; omega) (by simp only [List.length_nil, Nat.zero_add]; exact Nat.le_trans (Nat.mul_le_mul_right _ (by omega)) hb)
    exact ⟨p', cc, w', hr, by simpa using ho, hM.mono fun b hb => by simp [Value.ownBlock] at hb, fun b hb => (hne b hb).elim (fun q => by simp [Value.ownBlock] at q) id⟩
  · cases hv
    obtain ⟨i, z, hi, hz, hs, hby, hzs⟩ := E.info
    subst hs
    subst hby
    have hall : ((l.take m ++ [x]).flatMap f).length = (m + 1) * i.size := by rw [flat_len hf]; simp [hlt]
    have hnews : (f x).length = 1 * i.size := by rw [hf, Nat.one_mul]
    have holds : ∀ j u, ((l.take m).flatMap f)[j]? = some u → w.cell? ((⟨g, 0, none⟩ : Addr).add j) = some u := by
      intro j u hu
      have hlen := (List.getElem?_eq_some_iff.1 hu).1
      rw [flat_len hf, hlt] at hlen
      have hcell := World.ownsRow.cells h (g := g) rfl j u
      refine hcell ?_
      have e : l.flatMap f = (l.take m).flatMap f ++ (l.drop m).flatMap f := by rw [← List.flatMap_append, List.take_append_drop]
      rw [e, List.getElem?_append_left (by rw [flat_len hf, hlt]; exact hlen)]
      exact hu
    have hr := run_append_grow (P := P) w t ty e i z E.slice hi hz ⟨g, 0, none⟩ m m ((l.take m).flatMap f) (by rw [flat_len hf, hlt]) holds a 1 c' (f x) hnews (fun j v hv => ha j v hv) (by omega) (by simp only [maxLen] at h63; omega)
      (growslice_fits (by omega) (Nat.le_trans (Nat.mul_le_mul_right _ (by omega)) hb))
    have hge := grownCap_ge w (m + 1) m e
    refine ⟨_, _, _, hr, ⟨?_, .inr ⟨w.heap.size, _, _, ?_, Nat.zero_le _, heap_alloc_new w.drew _, ?_, grownCap_le_maxLen w (m + 1) m e (by omega), ?_, ?_⟩⟩, (Ext.drew w).trans (Ext.alloc w.drew _), fun b hb => ?_⟩
    · rw [hall]; simp [hlt]
    · simp [hlt]
    · simp only [List.length_append, hlt, List.length_singleton]; exact hge
    · simp only [Array.size_append, List.size_toArray, size_zeroCells, hzs, flat_len hf, hlt, hf]
      rw [show m * i.size + i.size = (m + 1) * i.size by rw [Nat.add_mul, Nat.one_mul], ← Nat.add_mul]
      congr 1
      omega
    · rw [Array.toList_append, Array.toList_append, List.flatMap_append]
      have e2 : ([x].flatMap f) = f x := by simp
      rw [e2]
      have a1 : (l.take m ++ [x]).length = m + 1 := by simp [hlt]
      have a2 : ((l.take m).flatMap f ++ f x).length = m * i.size + i.size := by rw [List.length_append, flat_len hf, hlt, hf]
      have : (l.take m ++ [x]).length * i.size = ((l.take m).flatMap f ++ f x).length := by rw [a1, a2, Nat.add_mul, Nat.one_mul]
      rw [this]
      exact List.take_left
    · simp [Value.ownBlock] at hb
      omega

/-- What is behind a place of a row is copied onto an own row. -/
theorem ORow.rest {P : Program} {t bytes : Nat} (E : ElemOk P t e k bytes) (hf : ∀ x, (f x).length = k) (h1 : ∀ x u, u ∈ f x → u.oneCell' = true) {v : Value} {l0 : List X} (h0 : ORow w e k f v l0) {p : Option Addr} {n c : Nat} (h : ORow w e k f (.slice p n c) l) {m : Nat} (hm : m ≤ l.length) (ty : TypeId)
    (h63 : l0.length + l.length ≤ maxLen) (hb : (l0.length + l.length) * bytes ≤ 140737488355328) (hk : 0 < k) :
    ∃ (p' : Option Addr) (cc : Nat) (w' : World), (Builtin.append_ #[t, t] ty #[v, .slice (subA p m c k) (n - m) (c - m)]).run P w = .ok (.slice p' (l0.length + (l.length - m)) cc) w' ∧ ORow w' e k f (.slice p' (l0.length + (l.length - m)) cc) (l0 ++ l.drop m) ∧
      Mod (fun b => v.ownBlock = some b) w w' ∧ ∀ b, (Value.slice p' (l0.length + (l.length - m)) cc).ownBlock = some b → v.ownBlock = some b ∨ w.heap.size ≤ b := by
  obtain ⟨p0, c0, rfl⟩ := h0.shape
  rcases h.2 with ⟨hv, hn⟩ | ⟨g, cap, cur, hv, _, hg, hnc, _⟩
  · obtain ⟨e1, e2, e3⟩ := Value.slice.inj hv
    subst e1
    subst e2
    subst e3
    have hl : l = [] := List.eq_nil_of_length_eq_zero (by omega)
    subst hl
    have hm0 : m = 0 := by simpa using hm
    subst hm0
    obtain ⟨i, z, hi, hz, hs, hby, hzs⟩ := E.info
    have hcap : l0.length ≤ c0 := by
      rcases h0.2 with ⟨hv0, hn0⟩ | ⟨_, _, _, hv0, _, _, hnc0, _⟩
      · omega
      · have := (Value.slice.inj hv0).2.2; omega
    refine ⟨p0, c0, w, ?_, by simpa using h0, Mod.refl _ _, fun b hb => .inl (by simpa using hb)⟩
    have esub : subA none 0 0 k = none := by simp [subA]
    simp only [List.length_nil, Nat.sub_zero, Nat.add_zero]
    show (Builtin.append_ #[t, t] ty #[.slice p0 l0.length c0, .slice (subA none 0 0 k) 0 0]).run P w = _
    rw [esub]
    exact append_none w t ty e i E.slice hi p0 l0.length c0 hcap
  · obtain ⟨e1, e2, e3⟩ := Value.slice.inj hv
    subst e1
    subst e2
    have hsub : ∃ a', subA (some ⟨g, 0, none⟩) m c k = some a' ∧ (m < c → a' = ⟨g, m * k, none⟩) := by
      unfold subA
      by_cases q : c = m
      · rw [if_pos q]
        exact ⟨_, rfl, fun x => by omega⟩
      · rw [if_neg q]
        refine ⟨_, rfl, fun _ => ?_⟩
        show (Addr.mk g 0 none).add (m * k) = _
        rw [add_mk, Nat.zero_add]
    obtain ⟨a', ea, hmk⟩ := hsub
    rw [ea]
    obtain ⟨p', cc, w', hr, ho, hM, hne⟩ := ORow.append E hf h1 h0 ty a' (c - m) (l.drop m) (fun j x hx => by
      rw [List.getElem?_drop] at hx
      have hlt := (List.getElem?_eq_some_iff.1 hx).1
      obtain ⟨a, ea', hc⟩ := h.cells hf hx
      obtain rfl := Option.some.inj ea'
      rw [hmk (by omega), add_mk]
      rw [add_mk] at hc
      have e : 0 + (m + j) * k = m * k + j * k := by rw [Nat.zero_add, Nat.add_mul]
      rw [e] at hc
      exact hc) (by rw [List.length_drop]; omega) (by rw [List.length_drop]; exact Nat.le_trans (Nat.mul_le_mul_right _ (by omega)) hb)
    rw [List.length_drop] at hr ho hne
    exact ⟨p', cc, w', hr, ho, hM, hne⟩

theorem ORow.cap {p : Option Addr} {n c : Nat} (h : ORow w e k f (.slice p n c) l) : l.length ≤ c := by
  rcases h.2 with ⟨hv0, hn0⟩ | ⟨_, _, _, hv0, _, _, hnc0, _⟩
  · omega
  · have := (Value.slice.inj hv0).2.2; omega

end

end Go.Proofs.Ytnjjgpjpodmgpaa
