/- A table in memory, and contracts of packages place and table. Conditions: the table is there. -/
import Derived.Test.YtnjjgpjpodmgpaaArena2
import Derived.Test.YtnjjgpjpodmgpaaFlt
import Derived.Test.YtnjjgpjpodmgpaaGwMap
import Derived.Test.YtnjjgpjpodmgpaaVcV
import Derived.Test.YtnjjgpjpodmgpaaVcP
import Derived.Laws.Small
set_option linter.unusedVariables false
set_option linter.unusedSimpArgs false
namespace Go.Proofs.Ytnjjgpjpodmgpaa
open Go.RowKit Go.Maps

abbrev Tb := List (Int × Int)
def fndO (T : Tb) (v : Int) : Option (Int × Int) := T.find? fun x => decide (x.1 = v)
def hldO (T : Tb) (p : Int) : Option (Int × Int) := T.find? fun x => decide (x.2 = p)
def fnd (T : Tb) (v : Int) : Int := match fndO T v with | some x => x.2 | none => -1
def hld (T : Tb) (p : Int) : Int := match hldO T p with | some x => x.1 | none => -1
def insT (T : Tb) (v p : Int) : Tb := T.takeWhile (fun x => decide (x.1 < v)) ++ (v, p) :: T.dropWhile (fun x => decide (x.1 < v))

structure TOk (T : Tb) : Prop where
  rng : ∀ x ∈ T, 256 ≤ x.1 ∧ x.1 < 6400 ∧ 0 ≤ x.2 ∧ x.2 ≤ 1048576
  n1 : (T.map (·.1)).Nodup
  n2 : (T.map (·.2)).Nodup

section
variable {T : Tb} {v p k : Int}

theorem fndO_some {x : Int × Int} (h : fndO T v = some x) : x ∈ T ∧ x.1 = v := ⟨List.mem_of_find?_eq_some h, by simpa using List.find?_some h⟩
theorem hldO_some {x : Int × Int} (h : hldO T p = some x) : x ∈ T ∧ x.2 = p := ⟨List.mem_of_find?_eq_some h, by simpa using List.find?_some h⟩
theorem fndO_none (h : fndO T v = none) : ∀ x ∈ T, x.1 ≠ v := fun x hx e => by simpa [e] using List.find?_eq_none.1 h x hx
theorem hldO_none (h : hldO T p = none) : ∀ x ∈ T, x.2 ≠ p := fun x hx e => by simpa [e] using List.find?_eq_none.1 h x hx

theorem fnd_pos (g : TOk T) : 0 ≤ fnd T v ↔ (fndO T v).isSome = true := by
  unfold fnd
  cases h : fndO T v with
  | none => simp
  | some x => have := (g.rng x (fndO_some h).1); simp; omega

theorem hld_pos (g : TOk T) : 0 ≤ hld T p ↔ (hldO T p).isSome = true := by
  unfold hld
  cases h : hldO T p with
  | none => simp
  | some x => have := (g.rng x (hldO_some h).1); simp; omega

theorem ins_split (T : Tb) (v : Int) : T = T.takeWhile (fun x => decide (x.1 < v)) ++ T.dropWhile (fun x => decide (x.1 < v)) := (List.takeWhile_append_dropWhile ..).symm

theorem fndO_ins (h : fndO T v = none) : fndO (insT T v p) k = if k = v then some (v, p) else fndO T k := by
  have hn := fndO_none h
  have e : fndO T k = fndO (T.takeWhile (fun x => decide (x.1 < v)) ++ T.dropWhile (fun x => decide (x.1 < v))) k := by rw [← ins_split]
  have hm : ∀ x ∈ T.takeWhile (fun x => decide (x.1 < v)), x.1 ≠ v := fun x hx => hn x (List.takeWhile_subset _ hx)
  rw [e]
  unfold fndO insT
  rw [List.find?_append, List.find?_append, List.find?_cons]
  by_cases hk : k = v
  · subst hk
    rw [if_pos rfl, List.find?_eq_none.2 (fun x hx => by simpa using hm x hx)]
    simp
  · rw [if_neg hk]
    have : decide ((v, p).1 = k) = false := decide_eq_false (fun q => hk q.symm)
    rw [this]

theorem hldO_ins (h : hldO T p = none) : hldO (insT T v p) k = if k = p then some (v, p) else hldO T k := by
  have hn := hldO_none h
  have e : hldO T k = hldO (T.takeWhile (fun x => decide (x.1 < v)) ++ T.dropWhile (fun x => decide (x.1 < v))) k := by rw [← ins_split]
  have hm : ∀ x ∈ T.takeWhile (fun x => decide (x.1 < v)), x.2 ≠ p := fun x hx => hn x (List.takeWhile_subset _ hx)
  rw [e]
  unfold hldO insT
  rw [List.find?_append, List.find?_append, List.find?_cons]
  by_cases hk : k = p
  · subst hk
    rw [if_pos rfl, List.find?_eq_none.2 (fun x hx => by simpa using hm x hx)]
    simp
  · rw [if_neg hk]
    have : decide ((v, p).2 = k) = false := decide_eq_false (fun q => hk q.symm)
    rw [this]

theorem len_ins : (insT T v p).length = T.length + 1 := by
  have := congrArg List.length (ins_split T v)
  unfold insT
  rw [List.length_append] at this ⊢
  rw [List.length_cons]
  omega

theorem TOk.ins (g : TOk T) (h1 : fndO T v = none) (h2 : hldO T p = none) (hr : 256 ≤ v ∧ v < 6400 ∧ 0 ≤ p ∧ p ≤ 1048576) : TOk (insT T v p) := by
  have hp : List.Perm (insT T v p) ((v, p) :: T) := by
    unfold insT
    refine List.perm_middle.trans ?_
    rw [← ins_split]
  refine ⟨fun x hx => ?_, ?_, ?_⟩
  · rcases List.mem_cons.1 (hp.mem_iff.1 hx) with rfl | q
    · exact hr
    · exact g.rng x q
  · rw [(hp.map _).nodup_iff, List.map_cons, List.nodup_cons]
    refine ⟨fun q => ?_, g.n1⟩
    obtain ⟨x, hx, e⟩ := List.mem_map.1 q
    exact fndO_none h1 x hx e
  · rw [(hp.map _).nodup_iff, List.map_cons, List.nodup_cons]
    refine ⟨fun q => ?_, g.n2⟩
    obtain ⟨x, hx, e⟩ := List.mem_map.1 q
    exact hldO_none h2 x hx e

end

/-- The map from local pages, and back. -/
def pgM (T : Tb) : Int → Option Value := fun k => (fndO T k).map fun x => .int .i64 x.2
def lcM (T : Tb) : Int → Option Value := fun k => (hldO T k).map fun x => .int .i64 x.1

theorem pgM_ins {T : Tb} {v p : Int} (h : fndO T v = none) : upd (pgM T) v (some (.int .i64 p)) = pgM (insT T v p) := by
  funext k
  unfold upd pgM
  rw [fndO_ins h]
  by_cases e : k = v
  · rw [if_pos e, if_pos e]; rfl
  · rw [if_neg e, if_neg e]

theorem lcM_ins {T : Tb} {v p : Int} (h : hldO T p = none) : upd (lcM T) p (some (.int .i64 v)) = lcM (insT T v p) := by
  funext k
  unfold upd lcM
  rw [hldO_ins h]
  by_cases e : k = p
  · rw [if_pos e, if_pos e]; rfl
  · rw [if_neg e, if_neg e]

theorem uTM : Try.prog.underlying 119 = some (.map 3 3) := by kernel_rfl
theorem uTI : Try.prog.underlying 3 = some (.int .i64) := by kernel_rfl
theorem zTI (w : World) : (zeroValue 3).run Try.prog w = .ok (.int .i64 0) w := by kernel_rfl

abbrev I64w (x : Int) : Prop := (Lit.int .i64 x).wf = true
theorem i64w {x : Int} (h0 : -9223372036854775808 ≤ x) (h1 : x ≤ 9223372036854775807) : I64w x := by
  show (Lit.int .i64 x).wf = true
  simp [Lit.wf, IntKind.min, IntKind.max, IntKind.signed, IntKind.bits]
  omega

def ownT (tb m1 m2 j : Nat) : Prop := j = tb ∨ j = m1 ∨ j = m2

structure PT (w : World) (tb m1 m2 : Nat) (T : Tb) : Prop where
  head : w.heap[tb]? = some (.cells #[.map (some m1), .map (some m2)] 121 (0, 0))
  pg : IMap w Try.prog 3 .i64 m1 (pgM T) T.length
  lc : IMap w Try.prog 3 .i64 m2 (lcM T) T.length
  d : tb ≠ m1 ∧ tb ≠ m2 ∧ m1 ≠ m2
  ok : TOk T
  few : T.length ≤ 1000000

theorem PT.keep {F : Nat → Prop} {w w' : World} {tb m1 m2 : Nat} {T : Tb} (h : PT w tb m1 m2 T) (hm : Mod F w w') (hF : ∀ j, ownT tb m1 m2 j → ¬ F j) : PT w' tb m1 m2 T :=
  ⟨hm.keep h.head (hF _ (.inl rfl)), h.pg.keep hm (hF _ (.inr (.inl rfl))), h.lc.keep hm (hF _ (.inr (.inr rfl))), h.d, h.ok, h.few⟩

theorem PT.ext {w w' : World} {tb m1 m2 : Nat} {T : Tb} (h : PT w tb m1 m2 T) (hm : Ext w w') : PT w' tb m1 m2 T := h.keep hm (fun _ _ x => x)

theorem PT.lt {w : World} {tb m1 m2 : Nat} {T : Tb} (h : PT w tb m1 m2 T) : ∀ j, ownT tb m1 m2 j → j < w.heap.size := by
  rintro j (rfl | rfl | rfl)
  · exact lt_of_blk h.head
  · exact h.pg.lt
  · exact h.lc.lt

section
variable {w : World} {tb m1 m2 : Nat} {T : Tb}

theorem tnew_any (w : World) {R : Value → World → Prop} (r : ∀ tb m1 m2 w', PT w' tb m1 m2 [] → Ext w w' → (∀ j, ownT tb m1 m2 j → w.heap.size ≤ j) → R (.pointer (some ⟨tb, 0, none⟩)) w') :
    CallS Try.prog 31 #[] w R := by
  constructor
  refine VC.table_New.ok ?_
  unfold VC.table_New
  refine ⟨some w.heap.size, w.alloc (.map #[] 0), run_makeMap _ w, ?_⟩
  have hE1 := Ext.alloc w (.map #[] 0)
  have hm1 : IMap (w.alloc (.map #[] 0)) Try.prog 3 .i64 w.heap.size (fun _ => none) 0 := IMap.made w Try.prog 3 .i64
  have hs1 : (w.alloc (.map #[] 0)).heap.size = w.heap.size + 1 := by simp
  generalize w.alloc (.map #[] 0) = w1 at hE1 hm1 hs1
  refine ⟨some w1.heap.size, w1.alloc (.map #[] 0), run_makeMap _ w1, ?_⟩
  have hE2 := Ext.alloc w1 (.map #[] 0)
  have hm2 : IMap (w1.alloc (.map #[] 0)) Try.prog 3 .i64 w1.heap.size (fun _ => none) 0 := IMap.made w1 Try.prog 3 .i64
  have hs2 : (w1.alloc (.map #[] 0)).heap.size = w1.heap.size + 1 := by simp
  generalize w1.alloc (.map #[] 0) = w2 at hE2 hm2 hs2
  refine al_intro fun tb w3 hd hE3 hs3 _ => ?_
  have e1 : pgM [] = fun _ => none := rfl
  have e2 : lcM [] = fun _ => none := rfl
  refine r tb w.heap.size w1.heap.size w3 ⟨hd, ?_, ?_, ⟨by omega, by omega, by omega⟩, ⟨fun x hx => (by cases hx), List.nodup_nil, List.nodup_nil⟩, Nat.zero_le _⟩ ((hE1.trans hE2).trans hE3) ?_
  · rw [e1]; exact (hm1.ext hE2).ext hE3
  · rw [e2]; exact hm2.ext hE3
  · rintro j (rfl | rfl | rfl) <;> omega

theorem look_any {b : Nat} {f : Int → Option Value} {sz : Nat} (h : IMap w Try.prog 3 .i64 b f sz) {k : Int} (hk : I64w k) {x : Option Int} (hf : f k = x.map fun y => .int .i64 y) {R : Value → World → Prop}
    (r : R (.int .i64 (x.getD (-1))) w) : CallS Try.prog 74 #[.map (some b), .int .i64 k] w R := by
  constructor
  refine VC.table_look.ok ?_
  unfold VC.table_look
  have lk := h.look_ok uTI uTM (zTI w) hk
  rw [hf] at lk
  cases x with
  | none => exact ⟨_, _, _, lk, ifB_false rfl r⟩
  | some y => exact ⟨_, _, _, lk, ifB_true rfl r⟩

theorem PT.find (h : PT w tb m1 m2 T) {v : Int} (hv : I64w v) {R : Value → World → Prop} (r : R (.int .i64 (fnd T v)) w) : CallS Try.prog 57 #[.pointer (some ⟨tb, 0, none⟩), .int .i64 v] w R := by
  constructor
  refine VC.table_Table_Find.ok ?_
  unfold VC.table_Table_Find
  refine ifB_false rfl ⟨_, by rw [add_mk]; exact cell_blk h.head rfl, look_any h.pg hv (x := (fndO T v).map (·.2)) (by unfold pgM; cases fndO T v <;> rfl) ⟨_, rfl, ?_⟩⟩
  have e : ((fndO T v).map (·.2)).getD (-1) = fnd T v := by unfold fnd; cases fndO T v <;> rfl
  rw [e]
  exact r

theorem PT.holder (h : PT w tb m1 m2 T) {v : Int} (hv : I64w v) {R : Value → World → Prop} (r : R (.int .i64 (hld T v)) w) : CallS Try.prog 42 #[.pointer (some ⟨tb, 0, none⟩), .int .i64 v] w R := by
  constructor
  refine VC.table_Table_Holder.ok ?_
  unfold VC.table_Table_Holder
  refine ifB_false rfl ⟨_, by rw [add_mk]; exact cell_blk h.head rfl, look_any h.lc hv (x := (hldO T v).map (·.1)) (by unfold lcM; cases hldO T v <;> rfl) ⟨_, rfl, ?_⟩⟩
  have e : ((hldO T v).map (·.1)).getD (-1) = hld T v := by unfold hld; cases hldO T v <;> rfl
  rw [e]
  exact r

abbrev mayM (v p : Int) : Prop := 256 ≤ v ∧ v < 6400 ∧ 0 ≤ p ∧ p ≤ 1048576
def mapE (T : Tb) (v p : Int) : Int := if mayM v p then (if 0 ≤ fnd T v ∨ 0 ≤ hld T p then 7 else 0) else 12
def mapT (T : Tb) (v p : Int) : Tb := if mapE T v p = 0 then insT T v p else T

theorem mapT_len (T : Tb) (v p : Int) : (mapT T v p).length ≤ T.length + 1 := by
  unfold mapT
  split
  · rw [len_ins]; exact Nat.le_refl _
  · omega

theorem PT.map (h : PT w tb m1 m2 T) (hl : T.length < 1000000) (v p : Int) {R : Value → World → Prop}
    (r : ∀ w', PT w' tb m1 m2 (mapT T v p) → Mod (ownT tb m1 m2) w w' → R (.int .i64 (mapE T v p)) w') :
    CallS Try.prog 32 #[.pointer (some ⟨tb, 0, none⟩), .int .i64 v, .int .i64 p] w R := by
  constructor
  refine VC.table_Table_Map.ok ?_
  unfold VC.table_Table_Map
  have out : ¬ mayM v p → R (.int .i64 12) w := fun q => by
    have e : mapE T v p = 12 := if_neg q
    have e2 : mapT T v p = T := by unfold mapT; rw [e]; rfl
    have := r w (by rw [e2]; exact h) (Mod.refl _ _)
    rw [e] at this
    exact this
  have bad : mayM v p → 0 ≤ fnd T v ∨ 0 ≤ hld T p → R (.int .i64 7) w := fun q1 q2 => by
    have e : mapE T v p = 7 := by unfold mapE; rw [if_pos q1, if_pos q2]
    have e2 : mapT T v p = T := by unfold mapT; rw [e]; rfl
    have := r w (by rw [e2]; exact h) (Mod.refl _ _)
    rw [e] at this
    exact this
  refine ifB_false rfl (ifD (fun q => out fun x => by omega) (fun q1 => ifD (fun q => out fun x => by omega) (fun q2 => ifD (fun q => out fun x => by omega) (fun q3 => ifD (fun q => out fun x => by omega) (fun q4 => ?_)))))
  have may : mayM v p := ⟨by omega, by omega, by omega, by omega⟩
  refine h.find (i64w (by omega) (by omega)) ⟨_, rfl, ifD (fun q => bad may (.inl q)) (fun q5 => h.holder (i64w (by omega) (by omega)) ⟨_, rfl, ifD (fun q => bad may (.inr q)) (fun q6 => ?_)⟩)⟩
  have hf : fndO T v = none := by
    cases hx : fndO T v with
    | none => rfl
    | some x => exact absurd ((fnd_pos h.ok).2 (by rw [hx]; rfl)) q5
  have hh : hldO T p = none := by
    cases hx : hldO T p with
    | none => rfl
    | some x => exact absurd ((hld_pos h.ok).2 (by rw [hx]; rfl)) q6
  have e : mapE T v p = 0 := by unfold mapE; rw [if_pos may, if_neg (fun x => x.elim q5 q6)]
  have e2 : mapT T v p = insT T v p := by unfold mapT; rw [if_pos e]
  rw [e, e2] at r
  refine ⟨VC.table_Table_put.ok ?_⟩
  unfold VC.table_Table_put
  rintro w0 rfl
  have hE0 := Ext.drew w
  have h0 := h.ext hE0
  obtain ⟨d1, d2, d3⟩ := h.d
  have hv : I64w v := i64w (by omega) (by omega)
  have hp : I64w p := i64w (by omega) (by omega)
  obtain ⟨w1, st1, r1, m1', s1, w2, r2, i2, mm2, s2⟩ := h0.pg.entry_new uTI uTM (by simp only [maxLen]; omega) zTI hv (by unfold pgM; rw [hf]; rfl) (.int .i64 p)
  have lc2 := (h0.lc.keep m1' (fun e => d3 e.symm)).keep mm2 (fun e => d3 e.symm)
  obtain ⟨w3, st3, r3, m3', s3, w4, r4, i4, mm4, s4⟩ := lc2.entry_new uTI uTM (by simp only [maxLen]; omega) zTI hp (by unfold lcM; rw [hh]; rfl) (.int .i64 v)
  rw [pgM_ins hf] at i2
  rw [lcM_ins hh] at i4
  have hd4 := mm4.keep (m3'.keep (mm2.keep (m1'.keep h0.head d1) d1) d2) d2
  refine ⟨_, by rw [add_mk]; exact cell_blk h0.head rfl, _, by rw [add_mk]; exact cell_blk h0.head rfl, _, _, w1, r1, w2, r2, _, _, w3, r3, w4, r4, rfl, ?_⟩
  have hm : Mod (ownT tb m1 m2) w w4 := by
    have a1 := Mod.trans (hE0.mod (F := ownT tb m1 m2)) m1' (fun j _ e => .inr (.inl e))
    have a2 := Mod.trans a1 mm2 (fun j _ e => .inr (.inl e))
    have a3 := Mod.trans a2 m3' (fun j _ e => .inr (.inr e))
    exact Mod.trans a3 mm4 (fun j _ e => .inr (.inr e))
  exact r w4 ⟨hd4, by rw [len_ins]; exact (i2.keep m3' d3).keep mm4 d3, by rw [len_ins]; exact i4, h.d, h.ok.ins hf hh may, by rw [len_ins]; omega⟩ hm

/-! ### places -/

abbrev Win (addr n : Int) : Prop := 0 ≤ n ∧ 131072 ≤ addr ∧ addr ≤ 3276800 ∧ n ≤ 3276800 - addr

theorem within_win (addr n : Int) (w : World) {R : Value → World → Prop} (r : R (.bool (decide (Win addr n))) w) : CallS Try.prog 65 #[.int .i64 addr, .int .i64 n] w R := by
  constructor
  refine VC.place_Within.ok ?_
  unfold VC.place_Within
  have no : ¬ Win addr n → R (.bool false) w := fun q => by rw [decide_eq_false q] at r; exact r
  refine ifD (fun h1 => ifD (fun h2 => ifD (fun h3 => ?_) (fun q => no fun x => q x.2.2.1)) (fun q => no fun x => q x.2.1)) (fun q => no fun x => q x.1)
  rw [wrap_i64 (by omega) (by omega)]
  have e : decide (n ≤ 3276800 - addr) = decide (Win addr n) := decide_eq_decide.2 ⟨fun x => ⟨by omega, by omega, by omega, by omega⟩, fun x => x.2.2.2⟩
  rw [e]
  exact r

theorem at_any {a : Nat} (h0 : 131072 ≤ a) (h1 : a < 3276800) (w : World) {R : Value → World → Prop} (r : R (.tuple #[.complex .f64 (flt (a / 512)) (flt (a % 512)), .int .i64 0]) w) :
    CallS Try.prog 66 #[.int .i64 (a : Int)] w R := by
  have e1 : IntKind.i64.wrap ((a : Int).tdiv 512) = ((a / 512 : Nat) : Int) := by
    rw [show ((a : Int).tdiv 512) = ((a / 512 : Nat) : Int) from (Int.ofNat_tdiv a 512).symm, wrap_i64 (by omega) (by omega)]
  have e2 : (a : Int).tmod 512 = ((a % 512 : Nat) : Int) := (Int.ofNat_tmod a 512).symm
  have q1 : ¬ ((a : Int) < 131072) := by omega
  have q2 : ¬ ((a : Int) ≥ 3276800) := by omega
  generalize (a : Int) = x at *
  constructor
  refine VC.place_At.ok ?_
  unfold VC.place_At
  refine ifD_false q1 (ifD_false q2 ⟨by decide, by decide, ?_⟩)
  rw [e1, e2]
  exact ⟨_, _, w, rfl, r⟩

theorem conv_flt {n : Nat} (h : n < 9007199254740992) (w : World) : (convert 138 3 (.float .f64 (flt n))).run Try.prog w = .ok (.int .i64 (n : Int)) w := by
  refine run_convert_float_int w _ _ _ _ _ _ (by kernel_rfl) (by kernel_rfl) ?_
  unfold floatToIntVal
  rw [flt_toInt h]
  simp only
  rw [if_pos]
  simp only [IntKind.min, IntKind.max, IntKind.signed, IntKind.bits]
  omega

end

end Go.Proofs.Ytnjjgpjpodmgpaa
