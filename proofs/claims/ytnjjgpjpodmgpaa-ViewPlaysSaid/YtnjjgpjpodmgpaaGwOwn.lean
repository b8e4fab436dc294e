/- A row of one's own, of elements of k cells each; appending to it. Conditions: none. -/
import Derived.Test.YtnjjgpjpodmgpaaGwRun
set_option linter.unusedVariables false
set_option linter.unusedSimpArgs false
namespace Go.Proofs.Ytnjjgpjpodmgpaa
open Go.RowKit

section
variable {X : Type} {f : X → List Value} {k : Nat}

theorem flat_len (hf : ∀ x, (f x).length = k) : ∀ l : List X, (l.flatMap f).length = l.length * k
  | [] => by simp
  | x :: l => by simp only [List.flatMap_cons, List.length_append, hf, flat_len hf l, List.length_cons, Nat.add_mul]; omega

theorem flat_get (hf : ∀ x, (f x).length = k) : ∀ (l : List X) (i : Nat) (x : X), l[i]? = some x → ∀ (j : Nat) (v : Value), (f x)[j]? = some v → (l.flatMap f)[i * k + j]? = some v
  | [], i, x, h, _, _, _ => by simp at h
  | y :: l, 0, x, h, j, v, hv => by
    simp only [List.getElem?_cons_zero, Option.some.injEq] at h
    subst h
    have hj := (List.getElem?_eq_some_iff.1 hv).1
    rw [List.flatMap_cons, List.getElem?_append_left (by omega)]
    simpa using hv
  | y :: l, i + 1, x, h, j, v, hv => by
    have hl := hf y
    rw [List.flatMap_cons, List.getElem?_append_right (by rw [hl, Nat.add_mul]; omega), hl, show (i + 1) * k + j - k = i * k + j by rw [Nat.add_mul]; omega]
    exact flat_get hf l i x (by simpa using h) j v hv

/-- A row of one's own at v. -/
abbrev ORow (w : World) (e : TypeId) (k : Nat) {X : Type} (f : X → List Value) (v : Value) (l : List X) : Prop := w.ownsRow 0 e k v l.length (l.flatMap f)

/-- The closed facts of a slice's type. -/
structure ElemOk (P : Program) (t e : TypeId) (k bytes : Nat) : Prop where
  slice : P.underlying t = some (.slice e)
  info : ∃ (i : TypeInfo) (z : Value), P.info? e = some i ∧ i.zero = some z ∧ i.size = k ∧ i.bytes = bytes ∧ z.cells.size = k

theorem ElemOk.of {P : Program} {t e : TypeId} {k bytes : Nat} {z : Value} (h1 : P.underlying t = some (.slice e)) (h2 : (P.info? e).map (fun i => (i.size, i.bytes, i.zero)) = some (k, bytes, some z)) (hz : z.cells.size = k) : ElemOk P t e k bytes := by
  obtain ⟨i, hi, hs, hb, hq⟩ := info_of h2
  exact ⟨h1, i, z, hi, hq, hs, hb, hz⟩

variable {w : World} {e : TypeId} {v : Value} {l : List X}

theorem ORow.keep {F : Nat → Prop} {w' : World} (h : ORow w e k f v l) (hm : Mod F w w') (hF : ∀ b, v.ownBlock = some b → ¬ F b) : ORow w' e k f v l := by
  refine ⟨h.1, ?_⟩
  rcases h.2 with hn | ⟨g, cap, cur, rfl, hb, hgg, rest⟩
  · exact .inl hn
  · exact .inr ⟨g, cap, cur, rfl, hb, hm.keep hgg (hF g rfl), rest⟩

theorem ORow.nil (w : World) (e : TypeId) : ORow w e k f (.slice none 0 0) [] := w.ownsRow_nil 0 _ k

theorem ORow.shape (h : ORow w e k f v l) : ∃ p c, v = .slice p l.length c := by
  rcases h.2 with ⟨rfl, hn⟩ | ⟨g, cap, cur, rfl, _⟩
  · exact ⟨none, 0, by rw [hn]⟩
  · exact ⟨_, _, rfl⟩

theorem ORow.lt (h : ORow w e k f v l) : ∀ b, v.ownBlock = some b → b < w.heap.size := by
  intro b hb
  rcases h.2 with ⟨rfl, hn⟩ | ⟨g, cap, cur, rfl, _, hgg, _⟩
  · simp [Value.ownBlock] at hb
  · simp only [Value.ownBlock, Option.some.injEq] at hb
    subst hb
    exact lt_of_blk hgg

theorem ORow.cells (hf : ∀ x, (f x).length = k) {p : Option Addr} {n c : Nat} (h : ORow w e k f (.slice p n c) l) {i : Nat} {x : X} (hi : l[i]? = some x) : ∃ a, p = some a ∧ CellsAt w (a.add (i * k)) (f x) := by
  rcases h.2 with ⟨q, hn⟩ | ⟨g, cap, cur, q, _⟩
  · have := List.eq_nil_of_length_eq_zero hn
    subst this
    simp at hi
  · cases q
    refine ⟨⟨g, 0, none⟩, rfl, fun j u hu => ?_⟩
    have := World.ownsRow.cells h (g := g) rfl (i * k + j) u (flat_get hf l i x hi j u hu)
    rw [add_mk, add_mk]
    rw [add_mk] at this
    rw [show 0 + i * k + j = 0 + (i * k + j) by omega]
    exact this

/-- append(v, news...) -/
theorem ORow.append {P : Program} {t bytes : Nat} (E : ElemOk P t e k bytes) (hf : ∀ x, (f x).length = k) (h1 : ∀ x u, u ∈ f x → u.oneCell' = true) (h : ORow w e k f v l) (ty : TypeId) (a : Addr) (c : Nat) (news : List X)
    (ha : ∀ (j : Nat) (x : X), news[j]? = some x → CellsAt w (a.add (j * k)) (f x)) (h63 : l.length + news.length ≤ maxLen) (hb : (l.length + news.length) * bytes ≤ 140737488355328) :
    ∃ (p : Option Addr) (c' : Nat) (w' : World), (Builtin.append_ #[t, t] ty #[v, .slice (some a) news.length c]).run P w = .ok (.slice p (l.length + news.length) c') w' ∧ ORow w' e k f (.slice p (l.length + news.length) c') (l ++ news) ∧
      Mod (fun b => v.ownBlock = some b) w w' ∧ (∀ b, (Value.slice p (l.length + news.length) c').ownBlock = some b → v.ownBlock = some b ∨ w.heap.size ≤ b) := by
  obtain ⟨i, z, hi, hz, hs, hby, hzs⟩ := E.info
  obtain ⟨v', w', hr, ho, hg, hne⟩ := append_own (P := P) w t ty e i z k bytes E.slice hi hz hs hby hzs v l.length (l.flatMap f) h a news.length c (news.flatMap f) (flat_len hf news) (fun j u hu => by
      have hlen := (List.getElem?_eq_some_iff.1 hu).1
      rw [flat_len hf] at hlen
      have hk : 0 < k := Nat.pos_of_ne_zero fun q => by subst q; omega
      have hj : j / k < news.length := (Nat.div_lt_iff_lt_mul hk).2 hlen
      have hx : news[j / k]? = some news[j / k] := List.getElem?_eq_getElem hj
      have hm : j % k < (f news[j / k]).length := by rw [hf]; exact Nat.mod_lt _ hk
      have hu' := flat_get hf news (j / k) _ hx (j % k) _ (List.getElem?_eq_getElem hm)
      have hd := Nat.div_add_mod' j k
      rw [show j / k * k + j % k = j from hd, hu] at hu'
      have hc := ha _ _ hx (j % k) u (by rw [hu']; exact List.getElem?_eq_getElem hm)
      rw [Addr.add_add, hd] at hc
      exact hc) (fun u hu => by
      obtain ⟨x, _, hx⟩ := List.mem_flatMap.1 hu
      exact h1 x u hx) h63 hb
  have ho' : ORow w' e k f v' (l ++ news) := by
    show w'.ownsRow 0 e k v' (l ++ news).length ((l ++ news).flatMap f)
    rw [List.length_append, List.flatMap_append]
    exact ho
  obtain ⟨p, c', rfl⟩ := ho'.shape
  rw [List.length_append] at hr ho' hne
  exact ⟨p, c', w', hr, ho', hg, hne⟩

/-- append(v, x) -/
theorem ORow.push {P : Program} {t bytes : Nat} (E : ElemOk P t e k bytes) (hf : ∀ x, (f x).length = k) (h1 : ∀ x u, u ∈ f x → u.oneCell' = true) (h : ORow w e k f v l) (ty : TypeId) (a : Addr) (c : Nat) (x : X) (ha : CellsAt w a (f x))
    (h63 : l.length + 1 ≤ maxLen) (hb : (l.length + 1) * bytes ≤ 140737488355328) :
    ∃ (p : Option Addr) (c' : Nat) (w' : World), (Builtin.append_ #[t, t] ty #[v, .slice (some a) 1 c]).run P w = .ok (.slice p (l.length + 1) c') w' ∧ ORow w' e k f (.slice p (l.length + 1) c') (l ++ [x]) ∧
      Mod (fun b => v.ownBlock = some b) w w' ∧ (∀ b, (Value.slice p (l.length + 1) c').ownBlock = some b → v.ownBlock = some b ∨ w.heap.size ≤ b) :=
  ORow.append E hf h1 h ty a c [x] (fun j y hy => by
    cases j with
    | zero =>
      simp only [List.getElem?_cons_zero, Option.some.injEq] at hy
      subst hy
      intro i u hu
      have := ha i u hu
      rw [Addr.add_add, Nat.zero_mul, Nat.zero_add]
      exact this
    | succ j => simp at hy) h63 hb

end

end Go.Proofs.Ytnjjgpjpodmgpaa
