/- A strings.Builder of one's own: WriteString, String. Conditions: it is there, and what it has stays below 2^46 bytes. -/
import Derived.Test.YtnjjgpjpodmgpaaArena2
import Derived.Test.YtnjjgpjpodmgpaaVcV
import Derived.Lib.AppendStr
import Derived.Lib.UnsafeStr
import Derived.Lib.Builder
import Derived.Laws.Externs
set_option linter.unusedVariables false
set_option linter.unusedSimpArgs false
namespace Go.Proofs.Ytnjjgpjpodmgpaa
open Go.RowKit Go.Lib

theorem mod_freeze (w : World) (g n : Nat) : Mod (· = g) w (w.freeze ⟨g, 0, none⟩ n) := by
  unfold World.freeze
  split
  · exact Mod.refl _ _
  · refine ⟨rfl, rfl, rfl, by simp, fun k _ hk => ?_⟩
    simp only [Array.getElem?_modify]
    rw [if_neg (fun e => hk e.symm)]

/-- Where the row lies that an append of a string gives. -/
theorem appstr_own {P : Program} {w w' : World} {t u ty e : TypeId} {i : TypeInfo} {v v' : Value} {n : Nat} {xs : List Value} {s : ByteArray} (hown : w.ownsRow 0 e 1 v n xs) (hi : P.info? e = some i) (hz : i.zero = some (.int .u8 0))
    (hsize : i.size = 1) (hby : i.bytes = 1) (ht : P.underlying t = some (.slice e)) (hu : P.underlying u = some .string) (hbytes : n + s.size ≤ 140737488355328)
    (hr : (Builtin.append_ #[t, u] ty #[v, .string s]).run P w = .ok v' w') : ∀ k, v'.ownBlock = some k → v.ownBlock = some k ∨ w.heap.size ≤ k := by
  intro k hk
  rcases hown.2 with ⟨rfl, rfl⟩ | ⟨g, cap, cur, rfl, hbg, hg, hnc, hcm, hcs, htake⟩
  · by_cases hm : s.size = 0
    · have hf := run_firstCells_string (P := P) w 1 s
      rw [hm] at hf
      have : (Builtin.append_ #[t, u] ty #[.slice none 0 0, .string s]).run P w = .ok (.slice none 0 0) w := by
        simp [Builtin.append_, run_underlying ht, run_underlying hu, sizeOf, typeInfo, hi, hsize, Builtin.lenOf, hm, hf]
      rw [this] at hr
      injection hr with hr
      subst hr
      simp [Value.ownBlock] at hk
    · rw [run_append_nil_string (P := P) w t u ty e i (.int .u8 0) ht hu hi hz s (by omega) (by omega) (by rw [hby]; omega)] at hr
      injection hr with hr
      subst hr
      simp [Value.ownBlock] at hk
      exact .inr (by omega)
  · have hxl : xs.length = n := by simpa using hown.1
    by_cases hroom : n + s.size ≤ cap
    · have hcs' : cur.size = cap := by simpa using hcs
      rw [run_append_room_string (P := P) w t u ty e i ht hu hi hsize g n cap cur hg s hroom (by omega)] at hr
      injection hr with hr
      subst hr
      exact .inl (by simpa [Value.ownBlock] using hk)
    · have holds : ∀ j u, xs[j]? = some u → w.cell? ((⟨g, 0, none⟩ : Addr).add j) = some u := hown.cells (g := g) rfl
      rw [run_append_grow_string (P := P) w t u ty e i (.int .u8 0) ht hu hi hz ⟨g, 0, none⟩ n cap xs (by rw [hsize]; simpa using hxl) holds s (by omega) (by omega) (by rw [hby]; exact growslice_fits (by omega) (by omega))] at hr
      injection hr with hr
      subst hr
      simp [Value.ownBlock] at hk
      exact .inr (by omega)

/-- A builder at block bb, its buffer v. -/
def BB (w : World) (bb : Nat) (v : Value) (bs : List UInt8) : Prop :=
  ∃ p : Option Addr, w.heap[bb]? = some (.cells #[.pointer p, v] 128 (0, 0)) ∧ (p = none ∨ p = some ⟨bb, 0, none⟩) ∧ w.ownsRow 0 5 1 v bs.length (bC bs) ∧ v.ownBlock ≠ some bb

def fpB (bb : Nat) (v : Value) (k : Nat) : Prop := k = bb ∨ v.ownBlock = some k

theorem ownsRow_keep {F : Nat → Prop} {w w' : World} {e : TypeId} {k n : Nat} {v : Value} {xs : List Value} (h : w.ownsRow 0 e k v n xs) (hm : Mod F w w') (hF : ∀ k, v.ownBlock = some k → ¬ F k) : w'.ownsRow 0 e k v n xs := by
  refine ⟨h.1, ?_⟩
  rcases h.2 with hn | ⟨g, cap, cur, rfl, hb, hgg, rest⟩
  · exact .inl hn
  · exact .inr ⟨g, cap, cur, rfl, hb, hm.keep hgg (hF g rfl), rest⟩

section
variable {w w' : World} {bb : Nat} {v : Value} {bs : List UInt8}

theorem BB.keep {F : Nat → Prop} (h : BB w bb v bs) (hm : Mod F w w') (hF : ∀ k, fpB bb v k → ¬ F k) : BB w' bb v bs := by
  obtain ⟨p, hd, hp, row, hne⟩ := h
  exact ⟨p, hm.keep hd (hF bb (.inl rfl)), hp, ownsRow_keep row hm (fun k hk => hF k (.inr hk)), hne⟩

theorem BB.lt (h : BB w bb v bs) : ∀ k, fpB bb v k → k < w.heap.size := by
  obtain ⟨p, hd, hp, row, hne⟩ := h
  rintro k (rfl | hk)
  · exact lt_of_blk hd
  · exact (World.ownsRow.lt row k hk).2

theorem BB.shape (h : BB w bb v bs) : ∃ p n c, v = .slice p n c := by
  obtain ⟨p, hd, hp, row, hne⟩ := h
  rcases row.2 with ⟨rfl, hn⟩ | ⟨g, cap, cur, rfl, _⟩
  · exact ⟨_, _, _, rfl⟩
  · exact ⟨_, _, _, rfl⟩

theorem builder_info : ∃ i, Try.prog.info? 128 = some i ∧ i.size = 2 := by
  obtain ⟨i, hi, hq⟩ := Option.map_eq_some_iff.1 (show (Try.prog.info? 128).map (·.size) = some 2 by kernel_rfl)
  exact ⟨i, hi, hq⟩

theorem copyCheck_any (h : BB w bb v bs) {R : Value → World → Prop} (r : ∀ w', BB w' bb v bs → Mod (· = bb) w w' → R (.tuple #[]) w') :
    CallS Try.prog 79 #[.pointer (some ⟨bb, 0, none⟩)] w R := by
  have h0 := h
  obtain ⟨p, hd, hp, row, hne⟩ := h
  obtain ⟨i, hi, hsz⟩ := builder_info
  constructor
  refine VC.__strings_Builder__copyCheck.ok ?_
  unfold VC.__strings_Builder__copyCheck
  rcases hp with rfl | rfl
  · have hsh : w.shape? bb = some (128, 2) := by simp [World.shape?, hd]
    refine ⟨_, by rw [add_mk]; exact cell_blk hd rfl, ifB_true rfl ⟨_, w, run_to_unsafe w ⟨bb, 0, none⟩ (by kernel_rfl) (by kernel_rfl) hi (by omega) hsh (Nat.zero_lt_succ 1), ?_⟩⟩
    refine ⟨_, w, by rw [run_callFunc_extern (f := 86) Try.func86 (by kernel_rfl) (by kernel_rfl) (by kernel_rfl) (e := Extern.AbiNoEscape.same) (by kernel_rfl), run_noEscape]; rfl, ?_⟩
    refine ⟨_, w, run_from_unsafe w ⟨bb, 0, none⟩ (by kernel_rfl) (by kernel_rfl) hi hsh (by kernel_rfl), ?_⟩
    rw [add_mk]
    refine wr_intro (n := 1) hd (by simp) fun w1 hd1 hm1 _ => r w1 ⟨_, hd1, .inr rfl, ownsRow_keep row hm1 (fun k hk e => hne (by rw [← e]; exact hk)), hne⟩ hm1
  · refine ⟨_, by rw [add_mk]; exact cell_blk hd rfl, ifB_false rfl ⟨_, by rw [add_mk]; exact cell_blk hd rfl, _, w, run_neq_ptr_same w _ (by kernel_rfl) hi, ifB_false rfl (r w h0 (Mod.refl _ _))⟩⟩

theorem bC_append (a b : List UInt8) : bC (a ++ b) = bC a ++ bC b := by simp [bC]
theorem strCells_bC (s : ByteArray) : strCells s = bC (bytesOf s) := rfl

theorem wstr_any (h : BB w bb v bs) (s : ByteArray) (hl : bs.length + s.size ≤ 70368744177664) {R : Value → World → Prop}
    (r : ∀ v' w', BB w' bb v' (bs ++ bytesOf s) → Mod (fpB bb v) w w' → (∀ k, fpB bb v' k → fpB bb v k ∨ w.heap.size ≤ k) → R (.tuple #[.int .i64 (s.size : Int), .nilIface]) w') :
    CallS Try.prog 63 #[.pointer (some ⟨bb, 0, none⟩), .string s] w R := by
  have hlt := h.lt
  constructor
  refine VC.__strings_Builder__WriteString.ok ?_
  unfold VC.__strings_Builder__WriteString
  refine copyCheck_any h fun w1 h1 m1 => ⟨rfl, ?_⟩
  obtain ⟨q, n, c, rfl⟩ := h1.shape
  obtain ⟨p, hd, hp, row, hne⟩ := h1
  obtain ⟨i, hi, hs, hby, hz⟩ : ∃ i, Try.prog.info? 5 = some i ∧ i.size = 1 ∧ i.bytes = 1 ∧ i.zero = some (.int .u8 0) := info_of (by kernel_rfl)
  obtain ⟨v', w2, hr, row2, hg, _⟩ := run_append_own_string (P := Try.prog) w1 0 41 9 41 5 i (by kernel_rfl) (by kernel_rfl) hi hz hs hby _ _ _ row s (by simp only [maxLen]; omega) (by omega) (Nat.zero_le _)
  have m2 := grown_mod hg
  have hd2 := m2.keep hd (fun e => hne e)
  have hshape : ∃ q' n' c', v' = .slice q' n' c' := by
    rcases row2.2 with ⟨rfl, hn⟩ | ⟨g, cap, cur, rfl, _⟩
    · exact ⟨_, _, _, rfl⟩
    · exact ⟨_, _, _, rfl⟩
  have hnew : ∀ k, v'.ownBlock = some k → (Value.slice q n c).ownBlock = some k ∨ w1.heap.size ≤ k := appstr_own row hi hz hs hby (by kernel_rfl) (by kernel_rfl) (by omega) hr
  obtain ⟨q', n', c', rfl⟩ := hshape
  have hbb := hlt bb (.inl rfl)
  have z1 := m1.size
  have hne' : (Value.slice q' n' c').ownBlock ≠ some bb := fun e => (hnew bb e).elim hne (fun x => by omega)
  refine ⟨_, _, _, by rw [add_mk]; exact cell_blk hd rfl, _, _, _, w2, hr, ?_⟩
  simp only [someA, add_mk]
  refine wr_intro (n := 1) hd2 (by simp) fun w3 hd3 m3 _ => r _ w3 ⟨p, hd3, hp, ?_, hne'⟩ ?_ ?_
  · have := ownsRow_keep row2 m3 (fun k hk e => hne' (by rw [← e]; exact hk))
    rw [strCells_bC, ← bC_append] at this
    rw [List.length_append, bytesOf_length]
    exact this
  · have a1 : Mod (fpB bb (Value.slice q n c)) w w1 := m1.mono fun k hk => .inl hk
    have a2 := Mod.trans a1 m2 (fun k _ hk => .inr hk)
    exact Mod.trans a2 m3 (fun k _ hk => .inl hk)
  · rintro k (rfl | hk)
    · exact .inl (.inl rfl)
    · rcases hnew k hk with x | x
      · exact .inl (.inr x)
      · exact .inr (by omega)

theorem bstring_any (h : BB w bb v bs) (hl : bs.length ≤ 70368744177664) {R : Value → World → Prop} (r : ∀ w', Mod (fpB bb v) w w' → R (.string (strOf bs)) w') :
    CallS Try.prog 64 #[.pointer (some ⟨bb, 0, none⟩)] w R := by
  constructor
  refine VC.__strings_Builder__String.ok ?_
  unfold VC.__strings_Builder__String
  rintro w1 rfl
  have hE := Ext.drew w
  have h1 := h.keep hE (fun _ _ x => x)
  obtain ⟨p, hd, hp, row, hne⟩ := h1
  have hlen := row.1
  rcases row.2 with ⟨rfl, hn⟩ | ⟨g, cap, cur, rfl, hb, hg, hnc, hcm, hcs, htake⟩
  · have hb0 : bs = [] := List.eq_nil_of_length_eq_zero hn
    subst hb0
    refine ⟨_, _, _, by rw [add_mk]; exact cell_blk hd rfl, _, _, _, by rw [add_mk]; exact cell_blk hd rfl, rfl, _, _, run_unsafeSliceData_nil w.drew _ _ _ _, ⟨rfl, rfl⟩, ⟨_, _, _, by rw [add_mk]; exact cell_blk hd rfl, rfl⟩, _, _, run_unsafeString_none w.drew _ _ _ _, ?_⟩
    exact r _ hE.mod
  · by_cases h0 : bs = []
    · subst h0
      by_cases hc0 : cap = 0
      · subst hc0
        have hsh : w.drew.shape? g = some (5, cur.size) := by simp [World.shape?, hg]
        refine ⟨_, _, _, by rw [add_mk]; exact cell_blk hd rfl, _, _, _, by rw [add_mk]; exact cell_blk hd rfl, rfl, _, _, run_unsafeSliceData_zero w.drew _ _ 5 (by kernel_rfl) ⟨g, 0, none⟩ _ _ hsh, ⟨rfl, rfl⟩, ?_⟩
        have hE2 := Ext.alloc w.drew (.view ⟨g, 0, none⟩ 5)
        refine ⟨⟨_, _, _, by rw [add_mk]; exact cell_blk (hE2.keep hd) rfl, rfl⟩, _, _, run_unsafeString_none _ _ _ _ _, ?_⟩
        exact r _ (hE.trans hE2).mod
      · refine ⟨_, _, _, by rw [add_mk]; exact cell_blk hd rfl, _, _, _, by rw [add_mk]; exact cell_blk hd rfl, rfl, _, _, run_unsafeSliceData_row w.drew _ _ ⟨g, 0, none⟩ _ _ hc0, ⟨rfl, rfl⟩, ⟨_, _, _, by rw [add_mk]; exact cell_blk hd rfl, rfl⟩, _, _, run_unsafeString_none w.drew _ _ _ _, ?_⟩
        exact r _ hE.mod
    · have hpos : 0 < bs.length := List.length_pos_iff.2 h0
      have hsh : w.drew.shape? g = some (5, cur.size) := by simp [World.shape?, hg]
      have hrow := run_unsafeString_row (P := Try.prog) w.drew 146 3 9 5 (by kernel_rfl) (by kernel_rfl) g cur.size hsh bs h0 (by omega) (by omega) (fun j x hj => by
        have := World.ownsRow.cells row (g := g) rfl j (.int .u8 (x.toNat : Int)) (by rw [bC_get, hj]; rfl)
        exact this)
      refine ⟨_, _, _, by rw [add_mk]; exact cell_blk hd rfl, _, _, _, by rw [add_mk]; exact cell_blk hd rfl, rfl, _, _, run_unsafeSliceData_row w.drew _ _ ⟨g, 0, none⟩ _ _ (by omega), ⟨rfl, rfl⟩, ⟨_, _, _, by rw [add_mk]; exact cell_blk hd rfl, rfl⟩, _, _, hrow, ?_⟩
      refine r _ ?_
      have hfz : Mod (· = g) w.drew (w.drew.freeze ⟨g, 0, none⟩ bs.length) := mod_freeze _ _ _
      exact Mod.trans (hE.mod (F := fpB bb _)) hfz (fun k _ e => .inr (by rw [e]; rfl))

end

end Go.Proofs.Ytnjjgpjpodmgpaa
