/- An arena in memory: its head, its bytes, the row of its touches; and what append, copy and clear do to them. Conditions: none. -/
import Derived.Test.YtnjjgpjpodmgpaaGwRun
import Derived.Test.YtnjjgpjpodmgpaaProg
import Derived.KernelRfl
set_option linter.unusedVariables false
set_option linter.unusedSimpArgs false
namespace Go.Proofs.Ytnjjgpjpodmgpaa
open Go.RowKit

/-! ### bytes -/

def bC (bs : List UInt8) : List Value := bs.map fun b => Value.int .u8 (b.toNat : Int)

theorem bC_length (bs : List UInt8) : (bC bs).length = bs.length := by simp [bC]

theorem bC_get (bs : List UInt8) (j : Nat) : (bC bs)[j]? = (bs[j]?).map fun b => Value.int .u8 (b.toNat : Int) := by simp [bC]

theorem bC_one (bs : List UInt8) : ∀ v ∈ bC bs, v.oneCell' = true := by
  intro v hv
  obtain ⟨b, _, rfl⟩ := List.mem_map.1 hv
  rfl

theorem madeCells_u8 (n : Nat) : madeCells #[Value.int .u8 0] (n * 1) = (bC (List.replicate n 0)).toArray := by
  have h : (madeCells #[Value.int .u8 0] (n * 1)).toList = bC (List.replicate n 0) := by
    apply List.ext_getElem?
    intro j
    rw [bC_get]
    by_cases hj : j < n
    · simp [madeCells, hj, Nat.mod_one]
    · simp [madeCells, hj]
  rw [← h]

/-- l written over bs from at on. -/
def putAt (bs : List UInt8) (a : Nat) (l : List UInt8) : List UInt8 := bs.take a ++ l ++ bs.drop (a + l.length)

theorem putAt_length {bs : List UInt8} {a : Nat} {l : List UInt8} (h : a + l.length ≤ bs.length) : (putAt bs a l).length = bs.length := by
  simp only [putAt, List.length_append, List.length_take, List.length_drop]
  omega

theorem putAt_nil (bs : List UInt8) (a : Nat) : putAt bs a [] = bs := by simp [putAt]

theorem putAt_get {bs : List UInt8} {a : Nat} {l : List UInt8} (h : a + l.length ≤ bs.length) (j : Nat) :
    (putAt bs a l)[j]? = if a ≤ j ∧ j < a + l.length then l[j - a]? else bs[j]? := by
  unfold putAt
  have hta : (bs.take a).length = a := by rw [List.length_take]; omega
  by_cases h1 : j < a
  · rw [if_neg (by omega), List.append_assoc, List.getElem?_append_left (by rw [hta]; exact h1), List.getElem?_take, if_pos h1]
  · by_cases h2 : j < a + l.length
    · rw [if_pos ⟨by omega, h2⟩, List.append_assoc, List.getElem?_append_right (by rw [hta]; omega), hta, List.getElem?_append_left (by omega)]
    · rw [if_neg (by omega), List.getElem?_append_right (by rw [List.length_append, hta]; omega), List.length_append, hta, List.getElem?_drop]
      congr 1
      omega

theorem putAt_snoc {bs : List UInt8} {a i : Nat} {l : List UInt8} {b : UInt8} (h : a + l.length ≤ bs.length) (hb : l[i]? = some b) :
    (putAt bs a (l.take i)).set (a + i) b = putAt bs a (l.take (i + 1)) := by
  have hi : i < l.length := (List.getElem?_eq_some_iff.1 hb).1
  have h1 : (l.take i).length = i := by rw [List.length_take]; omega
  have h2 : (l.take (i + 1)).length = i + 1 := by rw [List.length_take]; omega
  apply List.ext_getElem?
  intro j
  rw [List.getElem?_set, putAt_get (by omega), putAt_get (by omega), h1, h2, putAt_length (by omega)]
  by_cases hj : a + i = j
  · subst hj
    rw [if_pos rfl, if_pos (by omega), if_pos (by omega), Nat.add_sub_cancel_left, List.getElem?_take, if_pos (by omega), hb]
  · rw [if_neg hj]
    by_cases hk : a ≤ j ∧ j < a + i
    · rw [if_pos hk, if_pos (by omega), List.getElem?_take, List.getElem?_take, if_pos (by omega), if_pos (by omega)]
    · rw [if_neg hk, if_neg (by omega)]

/-- The bytes from a on, k of them. -/
def seg (bs : List UInt8) (a k : Nat) : List UInt8 := (bs.drop a).take k

theorem seg_length {bs : List UInt8} {a k : Nat} (h : a + k ≤ bs.length) : (seg bs a k).length = k := by simp [seg]; omega

theorem seg_get {bs : List UInt8} {a k j : Nat} (hj : j < k) : (seg bs a k)[j]? = bs[a + j]? := by
  simp [seg, List.getElem?_take, List.getElem?_drop, hj]

/-! ### touches -/

abbrev Tch := Int × Int × Bool
def tcell (t : Tch) : List Value := [.int .i64 t.1, .int .i64 t.2.1, .bool t.2.2]
def tcells (ts : List Tch) : List Value := ts.flatMap tcell

theorem tcells_append (a b : List Tch) : tcells (a ++ b) = tcells a ++ tcells b := by simp [tcells]
theorem tcells_length (ts : List Tch) : (tcells ts).length = ts.length * 3 := by
  induction ts with
  | nil => rfl
  | cons t ts ih => simp only [tcells, List.flatMap_cons, List.length_append, List.length_cons] at ih ⊢; rw [ih]; simp [tcell]; omega

theorem tcells_one (ts : List Tch) : ∀ v ∈ tcells ts, v.oneCell' = true := by
  intro v hv
  obtain ⟨t, _, ht⟩ := List.mem_flatMap.1 hv
  simp only [tcell, List.mem_cons, List.not_mem_nil, or_false] at ht
  rcases ht with rfl | rfl | rfl <;> rfl

theorem tcells_get (ts : List Tch) (i : Nat) (t : Tch) (h : ts[i]? = some t) (j : Nat) (v : Value) (hv : (tcell t)[j]? = some v) : (tcells ts)[i * 3 + j]? = some v := by
  induction ts generalizing i with
  | nil => simp at h
  | cons t' ts ih =>
    have hj : j < 3 := by have := (List.getElem?_eq_some_iff.1 hv).1; simpa [tcell] using this
    have hc : tcells (t' :: ts) = tcell t' ++ tcells ts := by simp [tcells]
    have hl : (tcell t').length = 3 := rfl
    rw [hc]
    cases i with
    | zero =>
      simp only [List.getElem?_cons_zero, Option.some.injEq] at h
      subst h
      rw [List.getElem?_append_left (by omega)]
      simpa using hv
    | succ i =>
      rw [List.getElem?_append_right (by omega), hl, show (i + 1) * 3 + j - 3 = i * 3 + j by omega]
      exact ih i (by simpa using h)

/-- A row of touches, its slice v. -/
abbrev TRow (w : World) (v : Value) (ts : List Tch) : Prop := w.ownsRow 0 50 3 v ts.length (tcells ts)

theorem grown_mod {w w' : World} {row : Option Nat} (h : w.grownBy w' row) : Mod (fun k => row = some k) w w' :=
  ⟨h.os, h.tape, h.output, h.size, fun k hk hF => h.block k hk (fun e => hF e.symm)⟩

theorem TRow.keep {F : Nat → Prop} {w w' : World} {v : Value} {ts : List Tch} (h : TRow w v ts) (hm : Mod F w w') (hF : ∀ k, v.ownBlock = some k → ¬ F k) : TRow w' v ts := by
  refine ⟨h.1, ?_⟩
  rcases h.2 with hn | ⟨g, cap, cur, rfl, hb, hgg, rest⟩
  · exact .inl hn
  · exact .inr ⟨g, cap, cur, rfl, hb, hm.keep hgg (hF g rfl), rest⟩

theorem TRow.nil (w : World) : TRow w (.slice none 0 0) [] := w.ownsRow_nil 0 _ 3

theorem TRow.shape {w : World} {v : Value} {ts : List Tch} (h : TRow w v ts) : ∃ p c, v = .slice p ts.length c := by
  rcases h.2 with ⟨rfl, hn⟩ | ⟨g, cap, cur, rfl, _⟩
  · exact ⟨none, 0, by rw [hn]⟩
  · exact ⟨_, _, rfl⟩

theorem TRow.cells {w : World} {p : Option Addr} {n c : Nat} {ts : List Tch} (h : TRow w (.slice p n c) ts) {i : Nat} {t : Tch} (hi : ts[i]? = some t) :
    ∃ a, p = some a ∧ CellsAt w (a.add (i * 3)) (tcell t) := by
  rcases h.2 with ⟨e, hn⟩ | ⟨g, cap, cur, e, _⟩
  · have := List.eq_nil_of_length_eq_zero hn
    subst this
    simp at hi
  · cases e
    refine ⟨⟨g, 0, none⟩, rfl, fun j v hv => ?_⟩
    have := World.ownsRow.cells h (g := g) rfl (i * 3 + j) v (tcells_get ts i t hi j v hv)
    rw [add_mk, add_mk]
    rw [add_mk] at this
    rw [show 0 + i * 3 + j = 0 + (i * 3 + j) by omega]
    exact this

/-- One touch more. -/
theorem run_touch {w : World} {v : Value} {ts : List Tch} {t : Tch} {a : Addr} {c : Nat} (h : TRow w v ts) (ha : CellsAt w a (tcell t)) (hl : ts.length < 1099511627776) :
    ∃ v' w', (Builtin.append_ #[47, 47] 47 #[v, .slice (some a) 1 c]).run Try.prog w = .ok v' w' ∧ TRow w' v' (ts ++ [t]) ∧ Mod (fun k => v.ownBlock = some k) w w' ∧
      (∀ k, v'.ownBlock = some k → v.ownBlock = some k ∨ w.heap.size ≤ k) := by
  obtain ⟨i, hi, hs, hby, hz⟩ : ∃ i, Try.prog.info? 50 = some i ∧ i.size = 3 ∧ i.bytes = 24 ∧ i.zero = some (.agg #[.int .i64 0, .int .i64 0, .bool false]) := info_of (by kernel_rfl)
  obtain ⟨v', w', hr, ho, hg, hne⟩ := append_own (P := Try.prog) w 47 47 50 i _ 3 24 (by kernel_rfl) hi hz hs hby rfl v ts.length (tcells ts) h a 1 c (tcell t) rfl ha
    (fun u hu => tcells_one [t] u (by simpa [tcells] using hu)) (by simp only [maxLen]; omega) (by omega)
  refine ⟨v', w', hr, ?_, hg, hne⟩
  have e : tcells (ts ++ [t]) = tcells ts ++ tcell t := by rw [tcells_append]; simp [tcells]
  unfold TRow
  rw [e, List.length_append]
  exact ho

/-! ### an arena -/

/-- The arena at block p: its bytes in block gb, its touches' slice v. -/
structure AR (w : World) (T : TypeId) (p gb : Nat) (v : Value) (bs : List UInt8) (ts : List Tch) : Prop where
  head : w.heap[p]? = some (.cells #[.slice (some ⟨gb, 0, none⟩) bs.length bs.length, v] T (0, 0))
  data : w.heap[gb]? = some (.cells (bC bs).toArray 5 (0, 0))
  row : TRow w v ts
  ne : p ≠ gb
  vp : v.ownBlock ≠ some p
  vg : v.ownBlock ≠ some gb
  small : bs.length ≤ 2097152

def fpA (p gb : Nat) (v : Value) (k : Nat) : Prop := k = p ∨ k = gb ∨ v.ownBlock = some k

theorem AR.keep {F : Nat → Prop} {w w' : World} {T : TypeId} {p gb : Nat} {v : Value} {bs : List UInt8} {ts : List Tch} (h : AR w T p gb v bs ts) (hm : Mod F w w') (hF : ∀ k, fpA p gb v k → ¬ F k) : AR w' T p gb v bs ts :=
  ⟨hm.keep h.head (hF p (.inl rfl)), hm.keep h.data (hF gb (.inr (.inl rfl))), h.row.keep hm (fun k hk => hF k (.inr (.inr hk))), h.ne, h.vp, h.vg, h.small⟩

theorem AR.ext {w w' : World} {T : TypeId} {p gb : Nat} {v : Value} {bs : List UInt8} {ts : List Tch} (h : AR w T p gb v bs ts) (hm : Ext w w') : AR w' T p gb v bs ts := h.keep hm (fun _ _ x => x)

theorem AR.lt {w : World} {T : TypeId} {p gb : Nat} {v : Value} {bs : List UInt8} {ts : List Tch} (h : AR w T p gb v bs ts) : ∀ k, fpA p gb v k → k < w.heap.size := by
  intro k hk
  rcases hk with rfl | rfl | hk
  · exact lt_of_blk h.head
  · exact lt_of_blk h.data
  · exact (World.ownsRow.lt h.row k hk).2

/-- The bytes turn, in their block. -/
theorem AR.bytes {w w' : World} {T : TypeId} {p gb : Nat} {v : Value} {bs bs' : List UInt8} {ts : List Tch} (h : AR w T p gb v bs ts) (hd : w'.heap[gb]? = some (.cells (bC bs').toArray 5 (0, 0)))
    (hm : Mod (· = gb) w w') (hl : bs'.length = bs.length) : AR w' T p gb v bs' ts :=
  ⟨by rw [hl]; exact hm.keep h.head h.ne, hd, h.row.keep hm (fun k hk e => h.vg (by rw [hk, e])), h.ne, h.vp, h.vg, by rw [hl]; exact h.small⟩

/-- The touches' slice turns. -/
theorem AR.turn {w w' : World} {T : TypeId} {p gb : Nat} {v v' : Value} {bs : List UInt8} {ts ts' : List Tch} (h : AR w T p gb v bs ts) (hm : Mod (· = p) w w')
    (hd : w'.heap[p]? = some (.cells #[.slice (some ⟨gb, 0, none⟩) bs.length bs.length, v'] T (0, 0))) (hr : TRow w' v' ts') (hp : v'.ownBlock ≠ some p) (hg : v'.ownBlock ≠ some gb) : AR w' T p gb v' bs ts' :=
  ⟨hd, hm.keep h.data (fun e => h.ne e.symm), hr, h.ne, hp, hg, h.small⟩

/-- One byte is written. -/
theorem AR.set {w : World} {T : TypeId} {p gb : Nat} {v : Value} {bs : List UInt8} {ts : List Tch} {K : World → Prop} (h : AR w T p gb v bs ts) {o : Nat} (ho : o < bs.length) (b : UInt8)
    (k : ∀ w1, AR w1 T p gb v (bs.set o b) ts → Mod (· = gb) w w1 → w1.heap.size = w.heap.size → K w1) :
    WrC w (Addr.mk gb o none) 1 ∧ ∀ w1, w1 = wr w (Addr.mk gb o none) [.int .u8 (b.toNat : Int)] → K w1 := by
  refine wr_intro h.data (by simp [bC]; omega) fun w1 h1 hm hs => k w1 (h.bytes ?_ hm (by simp)) hm hs
  rw [h1]
  congr 2
  simp only [setAt]
  apply Array.ext'
  simp [bC, List.map_set]

theorem AR.byteAt {w : World} {T : TypeId} {p gb : Nat} {v : Value} {bs : List UInt8} {ts : List Tch} (h : AR w T p gb v bs ts) {o : Nat} {b : UInt8} (hb : bs[o]? = some b) : w.cell? (Addr.mk gb o none) = some (.int .u8 (b.toNat : Int)) := by
  refine cell_blk h.data ?_
  rw [List.getElem?_toArray, bC_get, hb]
  rfl

theorem AR.slot0 {w : World} {T : TypeId} {p gb : Nat} {v : Value} {bs : List UInt8} {ts : List Tch} (h : AR w T p gb v bs ts) : w.cell? ((Addr.mk p 0 none).add 0) = some (.slice (some ⟨gb, 0, none⟩) bs.length bs.length) := by
  rw [add_mk]; exact cell_blk h.head rfl
theorem AR.slot1 {w : World} {T : TypeId} {p gb : Nat} {v : Value} {bs : List UInt8} {ts : List Tch} (h : AR w T p gb v bs ts) : w.cell? ((Addr.mk p 0 none).add 1) = some v := by
  rw [add_mk]; exact cell_blk h.head rfl

theorem subA_data {gb : Nat} {a n : Nat} (h : a < n) : subA (some (Addr.mk gb 0 none)) a n 1 = some (Addr.mk gb a none) := by
  simp only [subA]
  rw [if_neg (by omega)]
  simp [add_mk]

/-- The bytes of a part. -/
theorem AR.part {w : World} {T : TypeId} {p gb : Nat} {v : Value} {bs : List UInt8} {ts : List Tch} (h : AR w T p gb v bs ts) {a k : Nat} (hk : a + k ≤ bs.length) :
    BytesAt w (subA (some (Addr.mk gb 0 none)) a bs.length 1) (seg bs a k) := by
  intro j b hj
  have hjk : j < k := by have := (List.getElem?_eq_some_iff.1 hj).1; rw [seg_length hk] at this; exact this
  rw [subA_data (by omega)]
  refine ⟨_, rfl, ?_⟩
  rw [add_mk]
  refine h.byteAt ?_
  rw [← hj, seg_get hjk]

end Go.Proofs.Ytnjjgpjpodmgpaa
