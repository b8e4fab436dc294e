/- Contracts of package view: Zero, Write, Read, Copy. Conditions: arena and table are there. -/
import Derived.Test.YtnjjgpjpodmgpaaVwA
import Derived.Test.YtnjjgpjpodmgpaaBld
import Derived.Test.YtnjjgpjpodmgpaaBytes
set_option linter.unusedVariables false
set_option linter.unusedSimpArgs false
namespace Go.Proofs.Ytnjjgpjpodmgpaa
open Go.RowKit Go.Maps

theorem TRow.lt' {w : World} {v : Value} {ts : List Tch} (h : TRow w v ts) : ∀ k, v.ownBlock = some k → k < w.heap.size := fun k hk => (World.ownsRow.lt h k hk).2

/-! ### what is done at pieces -/

def sumN (l : List Pc) : Nat := (l.map (·.2)).sum
def tchL (l : List Pc) (b : Bool) : List Tch := l.map fun s => ((s.1 : Int), (s.2 : Int), b)
def zrB (bs : List UInt8) (l : List Pc) : List UInt8 := l.foldl (fun b s => putAt b s.1 (List.replicate s.2 0)) bs
def wrB (bs : List UInt8) (l : List Pc) (d : List UInt8) : List UInt8 := (l.foldl (fun (x : List UInt8 × Nat) s => (putAt x.1 s.1 (seg d x.2 s.2), x.2 + s.2)) (bs, 0)).1
def rdB (bs : List UInt8) (l : List Pc) : List UInt8 := l.flatMap fun s => seg bs s.1 s.2

theorem sumN_snoc (l : List Pc) (s : Pc) : sumN (l ++ [s]) = sumN l + s.2 := by simp [sumN]
theorem tchL_snoc (l : List Pc) (s : Pc) (b : Bool) : tchL (l ++ [s]) b = tchL l b ++ [((s.1 : Int), (s.2 : Int), b)] := by simp [tchL]
theorem tchL_len (l : List Pc) (b : Bool) : (tchL l b).length = l.length := by simp [tchL]
theorem zrB_snoc (bs : List UInt8) (l : List Pc) (s : Pc) : zrB bs (l ++ [s]) = putAt (zrB bs l) s.1 (List.replicate s.2 0) := by simp [zrB]
theorem rdB_snoc (bs : List UInt8) (l : List Pc) (s : Pc) : rdB bs (l ++ [s]) = rdB bs l ++ seg bs s.1 s.2 := by simp [rdB]

theorem wr_snd (d : List UInt8) : ∀ (l : List Pc) (x : List UInt8 × Nat), (l.foldl (fun (x : List UInt8 × Nat) s => (putAt x.1 s.1 (seg d x.2 s.2), x.2 + s.2)) x).2 = x.2 + sumN l
  | [], x => by simp [sumN]
  | s :: l, x => by
    rw [List.foldl_cons, wr_snd d l]
    simp only [sumN, List.map_cons, List.sum_cons]
    omega

theorem wrB_snoc (bs : List UInt8) (l : List Pc) (s : Pc) (d : List UInt8) : wrB bs (l ++ [s]) d = putAt (wrB bs l d) s.1 (seg d (sumN l) s.2) := by
  unfold wrB
  rw [List.foldl_append]
  simp only [List.foldl_cons, List.foldl_nil]
  rw [wr_snd, Nat.zero_add]

/-- Pieces that lie in n bytes. -/
abbrev InP (n : Nat) (l : List Pc) : Prop := ∀ s ∈ l, s.1 + s.2 ≤ n

theorem snoc_ind {X : Type} {P : List X → Prop} (h0 : P []) (h1 : ∀ l x, P l → P (l ++ [x])) (l : List X) : P l := by
  have : ∀ m : List X, P m.reverse := fun m => by
    induction m with
    | nil => exact h0
    | cons x m ih => rw [List.reverse_cons]; exact h1 _ _ ih
  simpa using this l.reverse

theorem InP.front {n : Nat} {l : List Pc} {s : Pc} (h : InP n (l ++ [s])) : InP n l ∧ s.1 + s.2 ≤ n := ⟨fun u hu => h u (List.mem_append_left _ hu), h s (by simp)⟩

theorem zrB_len {bs : List UInt8} (l : List Pc) : InP bs.length l → (zrB bs l).length = bs.length := by
  induction l using snoc_ind with
  | h0 => intro _; rfl
  | h1 l s ih =>
    intro h
    have hf := h.front
    rw [zrB_snoc, putAt_length (by rw [ih hf.1, List.length_replicate]; exact hf.2), ih hf.1]

theorem seg_le (d : List UInt8) (a n : Nat) : (seg d a n).length ≤ n := by
  unfold seg
  rw [List.length_take]
  omega

theorem wrB_len {bs d : List UInt8} (l : List Pc) : InP bs.length l → (wrB bs l d).length = bs.length := by
  induction l using snoc_ind with
  | h0 => intro _; rfl
  | h1 l s ih =>
    intro h
    have hf := h.front
    have hs := hf.2
    have := seg_le d (sumN l) s.2
    rw [wrB_snoc, putAt_length (by rw [ih hf.1]; omega), ih hf.1]

theorem rdB_len {bs : List UInt8} (l : List Pc) : InP bs.length l → (rdB bs l).length = sumN l := by
  induction l using snoc_ind with
  | h0 => intro _; rfl
  | h1 l s ih =>
    intro h
    have hf := h.front
    rw [rdB_snoc, List.length_append, ih hf.1, seg_length hf.2, sumN_snoc]

theorem take_snoc {X : Type} {l : List X} {i : Nat} {x : X} (h : l[i]? = some x) : l.take (i + 1) = l.take i ++ [x] := by rw [List.take_add_one, h]; rfl

theorem vpc_facts {T : Tb} {size : Nat} {addr n : Int} {l : List Pc} (h : vpc T size addr n = some l) (hs : size ≤ 2097152) :
    InP size l ∧ (∀ s ∈ l, 1 ≤ s.2 ∧ s.2 ≤ 512) ∧ l.length ≤ 3276800 ∧ sumN l ≤ 3276800 ∧ (sumN l : Int) = n := by
  obtain ⟨h1, h2⟩ := vpc_some h
  obtain ⟨a, k, ea, ek, ha0, hak, hp⟩ := pcsE_some h1
  have ok := pcs_ok hp
  have hl := pcs_len hp
  have hsum : sumN l = k := by
    have := congrArg List.length ok.flat
    rw [flatP_len, List.length_map, List.length_range] at this
    exact this
  refine ⟨fun s hs => ?_, fun s hs => ?_, by omega, by omega, by omega⟩
  · have := h2 s hs; omega
  · obtain ⟨p1, p2, _⟩ := ok.pos s hs; omega

/-! ### each -/

/-- The VC of view.each over a closure g. -/
def EachP (g : FuncId) (mk : Value → Value → Array Value) (x0a : Option Addr) (x0l x0c : Nat) (w : World) (R : Value → World → Prop) : Prop :=
  ifB (decide ((0 : Int) < (↑x0l : Int))) ((0 : Int) ≤ (0 : Int) ∧ (0 : Int) < (↑x0l : Int) ∧ someA x0a fun (a0 : Addr) => ∃ (i1 : Int), ∃ (i2 : Int), ∃ (b3 : Bool), CellsAt w (a0.add (0 : Nat)) [Value.int IntKind.i64 i1, Value.int IntKind.i64 i2, Value.bool b3] ∧ CallS Try.prog g (mk (Value.agg #[Value.int IntKind.i64 i1, Value.int IntKind.i64 i2, Value.bool b3]) (Value.int IntKind.i64 (0 : Int))) w fun (v4 : Value) (w5 : World) => v4 = Value.tuple #[] ∧ (0 : Int) ≤ (0 : Int) ∧ (0 : Int) < (↑x0l : Int) ∧ someA x0a fun (a6 : Addr) => ∃ (i7 : Int), w5.cell? ((a6.add (0 : Nat)).add (1 : Nat)) = some (Value.int IntKind.i64 i7) ∧ ∃ (x8 : Nat → Int → Int → World → Prop), (∃ (n9 : Nat), x8 n9 (IntKind.i64.wrap ((0 : Int) + (1 : Int))) (IntKind.i64.wrap ((0 : Int) + i7)) w5) ∧ ∀ (n10 : Nat) (jv : Nat → Value) (i11 i12 : Int) (w13 : World), x8 n10 i11 i12 w13 → ifB (decide (i11 < (↑x0l : Int))) ((0 : Int) ≤ i11 ∧ i11 < (↑x0l : Int) ∧ someA x0a fun (a14 : Addr) => ∃ (i15 : Int), ∃ (i16 : Int), ∃ (b17 : Bool), CellsAt w13 (a14.add (i11.toNat * (3 : Nat))) [Value.int IntKind.i64 i15, Value.int IntKind.i64 i16, Value.bool b17] ∧ CallS Try.prog g (mk (Value.agg #[Value.int IntKind.i64 i15, Value.int IntKind.i64 i16, Value.bool b17]) (Value.int IntKind.i64 i12)) w13 fun (v18 : Value) (w19 : World) => v18 = Value.tuple #[] ∧ (0 : Int) ≤ i11 ∧ i11 < (↑x0l : Int) ∧ someA x0a fun (a20 : Addr) => ∃ (i21 : Int), w19.cell? ((a20.add (i11.toNat * (3 : Nat))).add (1 : Nat)) = some (Value.int IntKind.i64 i21) ∧ ∃ (n22 : Nat), n22 < n10 ∧ x8 n22 (IntKind.i64.wrap (i11 + (1 : Int))) (IntKind.i64.wrap (i12 + i21)) w19) (R (Value.tuple #[]) w13)) (R (Value.tuple #[]) w)

theorem each_any {g : FuncId} {mk : Value → Value → Array Value} {q : Option Addr} {c : Nat} {l : List Pc} {w : World} {J : Nat → World → Prop} {R : Value → World → Prop} (hsum : sumN l ≤ 3276800) (hlen : l.length ≤ 3276800)
    (row : ∀ i w1, J i w1 → TRow w1 (.slice q l.length c) (spT l)) (h0 : J 0 w)
    (step : ∀ i s w1, l[i]? = some s → J i w1 → CallS Try.prog g (mk (Value.agg #[.int .i64 (s.1 : Int), .int .i64 (s.2 : Int), .bool false]) (.int .i64 (sumN (l.take i) : Int))) w1 fun v w2 => v = .tuple #[] ∧ J (i + 1) w2)
    (r : ∀ w', J l.length w' → R (.tuple #[]) w') : EachP g mk q l.length c w R := by
  have cells : ∀ {i s w1}, l[i]? = some s → J i w1 → ∃ a, q = some a ∧ CellsAt w1 (a.add (i * 3)) [.int .i64 (s.1 : Int), .int .i64 (s.2 : Int), .bool false] := fun {i s w1} hs hj => by
    have hr := row i w1 hj
    rw [← spT_len l] at hr
    exact hr.cells (spT_get hs)
  have cell1 : ∀ {a : Addr} {i : Nat} {s : Pc} {w1 : World}, CellsAt w1 (a.add (i * 3)) [.int .i64 (s.1 : Int), .int .i64 (s.2 : Int), .bool false] → w1.cell? ((a.add (i * 3)).add 1) = some (.int .i64 (s.2 : Int)) := fun h => h 1 _ rfl
  have sumle : ∀ {i : Nat} {s : Pc}, l[i]? = some s → sumN (l.take (i + 1)) = sumN (l.take i) + s.2 ∧ sumN (l.take (i + 1)) ≤ 3276800 := fun {i s} hs => by
    refine ⟨by rw [take_snoc hs, sumN_snoc], ?_⟩
    refine Nat.le_trans ?_ hsum
    have e : sumN l = sumN (l.take (i + 1)) + sumN (l.drop (i + 1)) := by
      unfold sumN
      rw [← List.sum_append, ← List.map_append, List.take_append_drop]
    omega
  unfold EachP
  refine ifB_intro (fun h => ?_) (fun h => ?_)
  · have hl : 0 < l.length := by have := of_decide_eq_true h; omega
    obtain ⟨s, hs⟩ : ∃ s, l[0]? = some s := ⟨_, List.getElem?_eq_getElem hl⟩
    obtain ⟨a, rfl, hc⟩ := cells hs h0
    have sl := sumle hs
    rw [Nat.zero_mul] at hc
    have st := step 0 s w hs h0
    rw [show sumN (l.take 0) = 0 from rfl] at st
    refine ⟨by omega, by omega, _, _, _, hc, .of st.h ?_⟩
    rintro v w1 ⟨rfl, h1⟩
    have hx : w1.cell? ((a.add 0).add 1) = some (.int .i64 (s.2 : Int)) := by
      have hr := row 1 w1 h1
      rw [← spT_len l] at hr
      obtain ⟨a', e, hc'⟩ := hr.cells (spT_get hs)
      cases e
      rw [Nat.zero_mul] at hc'
      exact hc' 1 _ rfl
    refine ⟨rfl, by omega, by omega, _, hx, fun f i d w2 => ∃ j : Nat, i = (j : Int) ∧ f + j = l.length ∧ d = (sumN (l.take j) : Int) ∧ J j w2, ⟨l.length - 1, 1, ?_, by omega, ?_, h1⟩, ?_⟩
    · rw [wrap_i64 (by decide) (by decide)]; rfl
    · rw [sl.1, show sumN (l.take 0) = 0 from rfl, Nat.zero_add, Int.zero_add]
      rw [show sumN (l.take 0) = 0 from rfl] at sl
      exact wrap_i64 (by omega) (by omega)
    · rintro f jv i d w2 ⟨j, rfl, hf, rfl, hj⟩
      refine ifB_intro (fun hlt => ?_) (fun hge => ?_)
      · have hlt : j < l.length := by have := of_decide_eq_true hlt; omega
        obtain ⟨s', hs'⟩ : ∃ s, l[j]? = some s := ⟨_, List.getElem?_eq_getElem hlt⟩
        obtain ⟨a', e, hc'⟩ := cells hs' hj
        cases e
        rw [Int.toNat_natCast]
        refine ⟨by omega, by omega, _, _, _, hc', .of (step j s' w2 hs' hj).h ?_⟩
        rintro v w3 ⟨rfl, h3⟩
        have hx' : w3.cell? ((a.add (j * 3)).add 1) = some (.int .i64 (s'.2 : Int)) := by
          have hr := row (j + 1) w3 h3
          rw [← spT_len l] at hr
          obtain ⟨a'', e, hc''⟩ := hr.cells (spT_get hs')
          cases e
          exact hc'' 1 _ rfl
        have sl' := sumle hs'
        refine ⟨rfl, by omega, by omega, _, hx', f - 1, by omega, j + 1, ?_, by omega, ?_, h3⟩
        · rw [wrap_i64 (by omega) (by omega)]; omega
        · rw [wrap_i64 (by omega) (by omega), sl'.1]; omega
      · have : j = l.length := by have := of_decide_eq_false hge; omega
        subst this
        exact r w2 hj
  · have : l.length = 0 := by have := of_decide_eq_false h; omega
    have e : l = [] := List.eq_nil_of_length_eq_zero this
    subst e
    exact r w h0

end Go.Proofs.Ytnjjgpjpodmgpaa
