/- The reference's table: Find, Holder, Map. Conditions: the table is there. -/
import Derived.Test.YtnjjgpjpodmgpaaTab
import Derived.Test.YtnjjgpjpodmgpaaGwOwn2
import Derived.Test.YtnjjgpjpodmgpaaVcW
import Derived.Laws.Slices
set_option linter.unusedVariables false
set_option linter.unusedSimpArgs false
namespace Go.Proofs.Ytnjjgpjpodmgpaa
open Go.RowKit Go.Maps

def pairF (x : Int × Int) : List Value := [.int .i64 x.1, .int .i64 x.2]
theorem pairF_len (x : Int × Int) : (pairF x).length = 2 := rfl
theorem pairF_one (x : Int × Int) (u : Value) (h : u ∈ pairF x) : u.oneCell' = true := by
  simp only [pairF, List.mem_cons, List.not_mem_nil, or_false] at h
  rcases h with rfl | rfl <;> rfl
theorem elemP : ElemOk Try.prog 92 149 2 16 := .of (z := .agg #[.int .i64 0, .int .i64 0]) (by kernel_rfl) (by kernel_rfl) rfl

theorem run_subP (w : World) (p : Option Addr) (n c : Nat) {m : Nat} (h : m ≤ c) : ∃ p', (Instr.sliceAt 92 (.slice p n c) none (some (.int .i64 (m : Int))) (some (.int .i64 (m : Int)))).run Try.prog w = .ok (.slice p' m m) w ∧ (∀ g, p = some ⟨g, 0, none⟩ → p' = p) ∧ (p = none → p' = none) := by
  have he : Try.prog.elem 92 = 149 := by kernel_rfl
  have ht : Try.prog.underlying 92 = some (.slice (Try.prog.elem 92)) := by rw [he]; exact elemP.slice
  obtain ⟨i, z, hi, hz, hs, hby, hzs⟩ := elemP.info
  have hsz : (sizeOf (Try.prog.elem 92)).run Try.prog w = .ok 2 w := by
    rw [he, run_sizeOf' hi, hs]
  refine ⟨if m = 0 then p else p.map (·.add (0 * 2)), ?_, fun g hg => ?_, fun hg => ?_⟩
  · rw [run_sliceAt_slice w _ _ _ _ _ ht, run_slice_hm w _ p n c ht .i64 .i64 (m : Int) (m : Int) (by omega) (Int.le_refl _) (by omega), hsz]
    simp only [Result.andThen, sliced, Int.toNat_natCast, Nat.sub_zero]
  · subst hg
    split
    · rfl
    · show some ((Addr.mk g 0 none).add (0 * 2)) = _
      rw [add_mk]
  · subst hg
    split <;> rfl

/-- The reference's table at block rt, its row v. -/
structure RT (w : World) (rt : Nat) (v : Value) (T : Tb) : Prop where
  head : w.heap[rt]? = some (.cells #[v] 94 (0, 0))
  row : ORow w 149 2 pairF v T
  ne : v.ownBlock ≠ some rt
  ok : TOk T
  few : T.length ≤ 1000000

def fpR (rt : Nat) (v : Value) (k : Nat) : Prop := k = rt ∨ v.ownBlock = some k

section
variable {w w' : World} {rt : Nat} {v : Value} {T : Tb}

theorem RT.keep {F : Nat → Prop} (h : RT w rt v T) (hm : Mod F w w') (hF : ∀ j, fpR rt v j → ¬ F j) : RT w' rt v T :=
  ⟨hm.keep h.head (hF _ (.inl rfl)), h.row.keep hm (fun k hk => hF k (.inr hk)), h.ne, h.ok, h.few⟩

theorem RT.lt (h : RT w rt v T) : ∀ j, fpR rt v j → j < w.heap.size := by
  rintro j (rfl | hj)
  · exact lt_of_blk h.head
  · exact h.row.lt j hj

theorem find_at {X : Type} {l : List X} {f : X → Bool} {j : Nat} {x : X} (hj : l[j]? = some x) (hx : f x = true) (hb : ∀ y ∈ l.take j, f y = false) : l.find? f = some x := by
  have e : l = l.take j ++ x :: l.drop (j + 1) := by
    have hlt := (List.getElem?_eq_some_iff.1 hj).1
    have hx' := (List.getElem?_eq_some_iff.1 hj).2
    rw [← hx', List.getElem_cons_drop, List.take_append_drop]
  rw [e, List.find?_append, List.find?_eq_none.2 (fun y hy => by simp [hb y hy]), List.find?_cons, hx]
  rfl

theorem take_all {X : Type} {l : List X} {j : Nat} {x : X} {p : X → Prop} (hj : l[j]? = some x) (h : ∀ y ∈ l.take j, p y) (hx : p x) : ∀ y ∈ l.take (j + 1), p y := by
  intro y hy
  rw [List.take_add_one, hj] at hy
  rcases List.mem_append.1 hy with hy | hy
  · exact h y hy
  · simp at hy; subst hy; exact hx

theorem RT.find (h : RT w rt v T) (x : Int) {R : Value → World → Prop} (r : R (.int .i64 (fnd T x)) w) : CallS Try.prog 84 #[.pointer (some ⟨rt, 0, none⟩), .int .i64 x] w R := by
  constructor
  refine VC.garthref15_Table_Find.ok ?_
  unfold VC.garthref15_Table_Find
  obtain ⟨p, c, rfl⟩ := h.row.shape
  have few := h.few
  have c0 : w.cell? ((Addr.mk rt 0 none).add 0) = some (.slice p T.length c) := by rw [add_mk]; exact cell_blk h.head rfl
  refine ⟨fun n i w1 => ∃ j : Nat, i = (j : Int) ∧ n + j = T.length ∧ w1 = w ∧ ∀ y ∈ T.take j, y.1 ≠ x, ⟨T.length, 0, rfl, rfl, rfl, fun y hy => by simp at hy⟩, ?_⟩
  rintro n jv i w1 ⟨j, rfl, hn, rfl, hb⟩
  refine ⟨_, _, _, c0, ifD (fun hj => ?_) (fun hj => ?_)⟩
  · have hj : j < T.length := by omega
    obtain ⟨y, hy⟩ : ∃ y, T[j]? = some y := ⟨_, List.getElem?_eq_getElem hj⟩
    obtain ⟨a, rfl, hc⟩ := h.row.cells pairF_len hy
    have h0 := hc 0 _ rfl
    have h1 := hc 1 _ rfl
    rw [Int.toNat_natCast]
    refine ⟨_, _, _, c0, by omega, by omega, _, h0, ifB_intro (fun e => ⟨_, _, _, c0, by omega, by omega, _, h1, ?_⟩) (fun e => ⟨n - 1, by omega, j + 1, ?_, by omega, rfl, take_all hy hb (by simpa using e)⟩)⟩
    · have e : y.1 = x := by simpa using e
      have ef : fnd T x = y.2 := by
        unfold fnd fndO
        rw [find_at hy (by simp [e]) (fun z hz => by simp [hb z hz])]
      rw [← ef]
      exact r
    · rw [wrap_i64 (by omega) (by omega)]; omega
  · have ef : fnd T x = -1 := by
      unfold fnd fndO
      rw [List.find?_eq_none.2 (fun z hz => by simp [hb z (by rw [List.take_of_length_le (by omega)]; exact hz)])]
    rw [← ef]
    exact r

theorem RT.holder (h : RT w rt v T) (x : Int) {R : Value → World → Prop} (r : R (.int .i64 (hld T x)) w) : CallS Try.prog 85 #[.pointer (some ⟨rt, 0, none⟩), .int .i64 x] w R := by
  constructor
  refine VC.garthref15_Table_Holder.ok ?_
  unfold VC.garthref15_Table_Holder
  obtain ⟨p, c, rfl⟩ := h.row.shape
  have few := h.few
  have c0 : w.cell? ((Addr.mk rt 0 none).add 0) = some (.slice p T.length c) := by rw [add_mk]; exact cell_blk h.head rfl
  refine ⟨fun n i w1 => ∃ j : Nat, i = (j : Int) ∧ n + j = T.length ∧ w1 = w ∧ ∀ y ∈ T.take j, y.2 ≠ x, ⟨T.length, 0, rfl, rfl, rfl, fun y hy => by simp at hy⟩, ?_⟩
  rintro n jv i w1 ⟨j, rfl, hn, rfl, hb⟩
  refine ⟨_, _, _, c0, ifD (fun hj => ?_) (fun hj => ?_)⟩
  · have hj : j < T.length := by omega
    obtain ⟨y, hy⟩ : ∃ y, T[j]? = some y := ⟨_, List.getElem?_eq_getElem hj⟩
    obtain ⟨a, rfl, hc⟩ := h.row.cells pairF_len hy
    have h0 := hc 0 _ rfl
    have h1 := hc 1 _ rfl
    rw [Int.toNat_natCast]
    refine ⟨_, _, _, c0, by omega, by omega, _, h1, ifB_intro (fun e => ⟨_, _, _, c0, by omega, by omega, _, h0, ?_⟩) (fun e => ⟨n - 1, by omega, j + 1, ?_, by omega, rfl, take_all hy hb (by simpa using e)⟩)⟩
    · have e : y.2 = x := by simpa using e
      have ef : hld T x = y.1 := by
        unfold hld hldO
        rw [find_at hy (by simp [e]) (fun z hz => by simp [hb z hz])]
      rw [← ef]
      exact r
    · rw [wrap_i64 (by omega) (by omega)]; omega
  · have ef : hld T x = -1 := by
      unfold hld hldO
      rw [List.find?_eq_none.2 (fun z hz => by simp [hb z (by rw [List.take_of_length_le (by omega)]; exact hz)])]
    rw [← ef]
    exact r

theorem tw_take {X : Type} {p : X → Bool} : ∀ (l : List X) (m : Nat), (∀ x ∈ l.take m, p x = true) → (∀ x, l[m]? = some x → p x = false) → m ≤ l.length → l.takeWhile p = l.take m ∧ l.dropWhile p = l.drop m
  | [], m, _, _, h => by simp
  | x :: l, 0, _, h, _ => by
    have := h x rfl
    simp [List.takeWhile_cons, List.dropWhile_cons, this]
  | x :: l, m + 1, h1, h2, h3 => by
    have hx := h1 x (by simp)
    obtain ⟨a, b⟩ := tw_take l m (fun y hy => h1 y (by simp [hy])) (fun y hy => h2 y (by simpa using hy)) (by simpa using h3)
    simp [List.takeWhile_cons, List.dropWhile_cons, hx, a, b]

set_option maxHeartbeats 1000000 in
theorem RT.map (h : RT w rt v T) (hl : T.length < 1000000) (x p : Int) {R : Value → World → Prop}
    (r : ∀ v' w', RT w' rt v' (mapT T x p) → Mod (fpR rt v) w w' → (∀ k, fpR rt v' k → fpR rt v k ∨ w.heap.size ≤ k) → R (.int .i64 (mapE T x p)) w') :
    CallS Try.prog 73 #[.pointer (some ⟨rt, 0, none⟩), .int .i64 x, .int .i64 p] w R := by
  constructor
  refine VC.garthref15_Table_Map.ok ?_
  unfold VC.garthref15_Table_Map
  have same : mapT T x p = T → R (.int .i64 (mapE T x p)) w := fun e => r v w (by rw [e]; exact h) (Mod.refl _ _) (fun k hk => .inl hk)
  have out : ¬ mayM x p → R (.int .i64 12) w := fun q => by
    have e : mapE T x p = 12 := if_neg q
    have := same (by unfold mapT; rw [e]; rfl)
    rw [e] at this
    exact this
  have bad : mayM x p → 0 ≤ fnd T x ∨ 0 ≤ hld T p → R (.int .i64 7) w := fun q1 q2 => by
    have e : mapE T x p = 7 := by unfold mapE; rw [if_pos q1, if_pos q2]
    have := same (by unfold mapT; rw [e]; rfl)
    rw [e] at this
    exact this
  refine ifD (fun q => out fun x => by omega) (fun q1 => ifD (fun q => out fun x => by omega) (fun q2 => ifD (fun q => out fun x => by omega) (fun q3 => ifD (fun q => out fun x => by omega) (fun q4 => ?_))))
  have may : mayM x p := ⟨by omega, by omega, by omega, by omega⟩
  refine h.find x ⟨_, rfl, ifD (fun q => bad may (.inl q)) (fun q5 => h.holder p ⟨_, rfl, ifD (fun q => bad may (.inr q)) (fun q6 => ?_)⟩)⟩
  have hf : fndO T x = none := by
    cases hx : fndO T x with
    | none => rfl
    | some y => exact absurd ((fnd_pos h.ok).2 (by rw [hx]; rfl)) q5
  have hh : hldO T p = none := by
    cases hx : hldO T p with
    | none => rfl
    | some y => exact absurd ((hld_pos h.ok).2 (by rw [hx]; rfl)) q6
  have e : mapE T x p = 0 := by unfold mapE; rw [if_pos may, if_neg (fun z => z.elim q5 q6)]
  have e2 : mapT T x p = insT T x p := by unfold mapT; rw [if_pos e]
  rw [e, e2] at r
  clear same out bad
  obtain ⟨pp, c, rfl⟩ := h.row.shape
  have hshape : pp = none ∨ ∃ g, pp = some ⟨g, 0, none⟩ := by
    rcases h.row.2 with ⟨hv, _⟩ | ⟨g, _, _, hv, _⟩
    · exact .inl (Value.slice.inj hv).1
    · exact .inr ⟨g, (Value.slice.inj hv).1⟩
  have c0 : w.cell? ((Addr.mk rt 0 none).add 0) = some (.slice pp T.length c) := by rw [add_mk]; exact cell_blk h.head rfl
  refine ⟨fun i w1 => w1 = w ∧ ∃ m : Nat, i = (m : Int) ∧ m ≤ T.length ∧ (∀ y ∈ T.take m, y.1 < x) ∧ ∀ y, T[m]? = some y → ¬ y.1 < x, ⟨fun n i w1 => ∃ j : Nat, i = (j : Int) ∧ n + j = T.length ∧ w1 = w ∧ ∀ y ∈ T.take j, y.1 < x, ⟨T.length, 0, rfl, rfl, rfl, fun y hy => by simp at hy⟩, ?_⟩, ?_⟩
  · rintro n jv i w1 ⟨j, rfl, hn, rfl, hb⟩
    refine ⟨_, _, _, c0, ifD (fun hj => ?_) (fun hj => ⟨rfl, j, rfl, by omega, hb, fun y hy => by have := (List.getElem?_eq_some_iff.1 hy).1; omega⟩)⟩
    have hj : j < T.length := by omega
    obtain ⟨y, hy⟩ : ∃ y, T[j]? = some y := ⟨_, List.getElem?_eq_getElem hj⟩
    obtain ⟨a, rfl, hc⟩ := h.row.cells pairF_len hy
    have h0 := hc 0 _ rfl
    rw [Int.toNat_natCast]
    refine ⟨_, _, _, c0, by omega, by omega, _, h0, ifD (fun q => ⟨n - 1, by omega, j + 1, ?_, by omega, rfl, take_all hy hb q⟩) (fun q => ⟨rfl, j, rfl, by omega, hb, fun z hz => by rw [hy] at hz; cases hz; exact q⟩)⟩
    rw [wrap_i64 (by omega) (by omega)]; omega
  rintro jv i w1 ⟨rfl, m, rfl, hm, hlow, hhigh⟩
  obtain ⟨etw, edw⟩ := tw_take (p := fun y : Int × Int => decide (y.1 < x)) T m (fun y hy => decide_eq_true (hlow y hy)) (fun y hy => decide_eq_false (hhigh y hy)) hm
  have eins : insT T x p = (T.take m ++ [(x, p)]) ++ T.drop m := by
    unfold insT
    rw [etw, edw, List.append_assoc]
    rfl
  refine al_intro fun eb w2 heb hE2 hs2 hs2' => ?_
  have hd2 := hE2.keep h.head
  have hrow2 := h.row.keep hE2 (fun _ _ q => q)
  have hcap := hrow2.cap
  have hnil : ORow w2 149 2 pairF (.slice (some ⟨eb, 0, none⟩) 0 0) [] := ⟨by simp, .inr ⟨eb, 0, #[], rfl, Nat.zero_le _, heb, Nat.le_refl _, by decide, rfl, by simp⟩⟩
  obtain ⟨rp, rc, w3, hr3, hrest3, hm3, hrn⟩ := ORow.rest elemP pairF_len pairF_one hnil hrow2 hm 92 (by simp only [maxLen, List.length_nil]; omega) (by simp only [List.length_nil]; omega) (by decide)
  simp only [List.length_nil, Nat.zero_add, List.nil_append] at hr3 hrest3 hrn
  refine ⟨_, _, _, by rw [add_mk]; exact cell_blk hd2 rfl, by omega, by omega, by omega, rp, T.length - m, rc, w3, ?_, ?_⟩
  · rw [Int.toNat_natCast, Int.toNat_natCast]; exact hr3
  have hrt := lt_of_blk h.head
  have hm3' : Mod (fun j => j = eb) w2 w3 := hm3.mono fun j hj => by simpa [Value.ownBlock] using hj.symm
  have hd3 := hm3'.keep hd2 (fun e => by omega)
  have hrow3 := hrow2.keep hm3' (fun j hj e => by have := h.row.lt j hj; omega)
  obtain ⟨sp, hsub, hsp, hsp0⟩ := run_subP w3 pp T.length c (m := m) (by omega)
  have espp : sp = pp := by
    rcases hshape with e | ⟨g, e⟩
    · rw [hsp0 e, e]
    · exact hsp g e
  subst espp
  refine ⟨_, _, _, by rw [add_mk]; exact cell_blk hd3 rfl, sp, m, m, w3, hsub, al_intro fun xb w4 hxb hE4 hs4 hs4' => ?_⟩
  have hd4 := hE4.keep hd3
  have hrow4 := hrow3.keep (Ext.mod (F := fun _ => False) hE4) (fun _ _ x => x)
  have hrest4 := hrest3.keep (Ext.mod (F := fun _ => False) hE4) (fun _ _ x => x)
  obtain ⟨np, nc, w5, hr5, hnew5, hE5, hnn⟩ := ORow.full elemP pairF_len hrow4 hm 92 ⟨xb, 0, none⟩ 1 (x, p) (cells_all (vs := [_, _]) hxb) (by simp only [maxLen]; omega) (by omega) pairF_one
  refine ⟨np, m + 1, nc, w5, hr5, ?_⟩
  have hrest5 := hrest4.keep (Ext.mod (F := fun _ => False) hE5) (fun _ _ x => x)
  have hlt1 : (T.take m ++ [(x, p)]).length = m + 1 := by simp; omega
  have hdl : (T.drop m).length = T.length - m := by simp
  have last : ∃ (fp : Option Addr) (fc : Nat) (w6 : World), (Builtin.append_ #[92, 92] 92 #[.slice np (m + 1) nc, .slice rp (T.length - m) rc]).run Try.prog w5 = .ok (.slice fp (T.length + 1) fc) w6 ∧
      ORow w6 149 2 pairF (.slice fp (T.length + 1) fc) ((T.take m ++ [(x, p)]) ++ T.drop m) ∧ Mod (fun b => (Value.slice np (m + 1) nc).ownBlock = some b) w5 w6 ∧ ∀ b, (Value.slice fp (T.length + 1) fc).ownBlock = some b → (Value.slice np (m + 1) nc).ownBlock = some b ∨ w5.heap.size ≤ b := by
    obtain ⟨fp, fc, w6, ha, hb, hc, hd⟩ := ORow.rest elemP pairF_len pairF_one hnew5 hrest5 (m := 0) (Nat.zero_le _) 92 (by rw [hlt1, hdl]; simp only [maxLen]; omega) (by rw [hlt1, hdl]; omega) (by decide)
    have e1 : (T.take m ++ [(x, p)]).length + ((T.drop m).length - 0) = T.length + 1 := by rw [hlt1, hdl]; omega
    rw [e1, List.drop_zero] at hb
    rw [e1] at ha hd
    refine ⟨fp, fc, w6, ?_, hb, hc, hd⟩
    have e2 : subA rp 0 rc 2 = rp := by
      unfold subA
      split
      · rfl
      · cases rp with
        | none => rfl
        | some ra =>
          rcases hrest5.2 with ⟨hv, _⟩ | ⟨g, _, _, hv, _⟩
          · cases (Value.slice.inj hv).1
          · obtain rfl := Option.some.inj (Value.slice.inj hv).1
            show some ((Addr.mk g 0 none).add (0 * 2)) = _
            rw [add_mk]
    rw [e2, Nat.sub_zero, Nat.sub_zero] at ha
    exact ha
  obtain ⟨fp, fc, w6, hr6, hfin6, hm6, hfn⟩ := last
  refine ⟨fp, T.length + 1, fc, w6, hr6, ?_⟩
  have z2 := hE2.size
  have z3 := hm3.size
  have z4 := hE4.size
  have z5 := hE5.size
  have hd6 := hm6.keep (hE5.keep hd4) (fun e => by have := hnn rt e; omega)
  have hown6 : ∀ b, (Value.slice fp (T.length + 1) fc).ownBlock = some b → w1.heap.size ≤ b := fun b hb => by
    rcases hfn b hb with e | e
    · have := hnn b e; omega
    · omega
  rw [eins] at r
  simp only [someA, add_mk]
  refine wr_intro (n := 1) hd6 (by simp) fun w7 hd7 hm7 hs7 => r _ w7 ⟨hd7, ?_, fun e => by have := hown6 rt e; omega, by rw [← eins]; exact h.ok.ins hf hh may, by simp; omega⟩ ?_ (fun k hk => ?_)
  · have := hfin6.keep hm7 (fun k hk e => by have := hown6 k hk; omega)
    have el : (T.take m ++ [(x, p)] ++ T.drop m).length = T.length + 1 := by rw [List.length_append, hlt1, hdl]; omega
    exact this
  · have n1 : Mod (fpR rt (Value.slice sp T.length c)) w1 w3 := Mod.trans hE2.mod hm3' (fun k hk e => by omega)
    have n2 := Mod.trans n1 (hE4.trans hE5) (fun _ _ x => x.elim)
    have n3 := Mod.trans n2 hm6 (fun k hk e => by have := hnn k e; omega)
    exact Mod.trans n3 hm7 (fun k _ e => .inl e)
  · rcases hk with rfl | hk
    · exact .inl (.inl rfl)
    · exact .inr (hown6 k hk)

end

end Go.Proofs.Ytnjjgpjpodmgpaa
