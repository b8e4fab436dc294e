/- Statements of layer 16 (view): ViewNil, ViewOwn, ViewMoves, ViewBack. Conditions: the arguments' cells are there. -/
import Derived.Test.YtnjjgpjpodmgpaaVwF
import Derived.Test.YtnjjgpjpodmgpaaVcL
set_option linter.unusedVariables false
set_option linter.unusedSimpArgs false
namespace Go.Proofs.Ytnjjgpjpodmgpaa
open Go.RowKit Go.Maps

/-! ### nothing there -/

section
variable {w : World} {R : Value → World → Prop}

theorem pieces_nil {a t : Option Addr} (hn : a = none ∨ t = none) (addr n : Int) (r : R (.tuple #[.slice none 0 0, .int .i64 11]) w) : CallS Try.prog 59 #[.pointer a, .pointer t, .int .i64 addr, .int .i64 n] w R := by
  constructor
  refine VC.view_pieces.ok ?_
  unfold VC.view_pieces
  cases a with
  | none => exact ifB_true rfl r
  | some x =>
    cases t with
    | none => exact ifB_false rfl (ifB_true rfl r)
    | some y => rcases hn with h | h <;> cases h

theorem vread_nil {a t : Option Addr} (hn : a = none ∨ t = none) (addr n : Int) (r : ∀ w', Ext w w' → R (.tuple #[.string (ByteArray.mk #[]), .int .i64 11]) w') : CallS Try.prog 35 #[.pointer a, .pointer t, .int .i64 addr, .int .i64 n] w R := by
  constructor
  refine VC.view_Read.ok ?_
  unfold VC.view_Read
  refine al_intro fun b0 w1 hb0 hE1 hs1 _ => ⟨_, cell_blk hb0 rfl, pieces_nil hn addr n ⟨_, _, _, _, rfl, ifB_true rfl (r w1 hE1)⟩⟩

theorem vwrite_nil {a t : Option Addr} (hn : a = none ∨ t = none) (addr : Int) (s : ByteArray) (r : ∀ w', Ext w w' → R (.int .i64 11) w') : CallS Try.prog 34 #[.pointer a, .pointer t, .int .i64 addr, .string s] w R := by
  constructor
  refine VC.view_Write.ok ?_
  unfold VC.view_Write
  refine al_intro fun b0 w1 hb0 hE1 hs1 _ => al_intro fun b1 w2 hb1 hE2 hs2 _ => ⟨_, cell_blk (hE2.keep hb0) rfl, _, cell_blk hb1 rfl, pieces_nil hn addr _ ⟨_, _, _, _, rfl, ifB_false rfl (r w2 (hE1.trans hE2))⟩⟩

theorem vzero_nil {a t : Option Addr} (hn : a = none ∨ t = none) (addr n : Int) (r : ∀ w', Ext w w' → R (.int .i64 11) w') : CallS Try.prog 38 #[.pointer a, .pointer t, .int .i64 addr, .int .i64 n] w R := by
  constructor
  refine VC.view_Zero.ok ?_
  unfold VC.view_Zero
  refine al_intro fun b0 w1 hb0 hE1 hs1 _ => ⟨_, cell_blk hb0 rfl, pieces_nil hn addr n ⟨_, _, _, _, rfl, ifB_false rfl (r w1 hE1)⟩⟩

theorem vcopy_nil {a t : Option Addr} (hn : a = none ∨ t = none) (to from_ n : Int) (r : R (.int .i64 11) w) : CallS Try.prog 37 #[.pointer a, .pointer t, .int .i64 to, .int .i64 from_, .int .i64 n] w R := by
  constructor
  refine VC.view_Copy.ok ?_
  unfold VC.view_Copy
  exact pieces_nil hn to n ⟨_, _, _, _, rfl, ifB_true rfl r⟩

end

theorem walk_ViewNil (a0 : Int) (_ : -9223372036854775808 ≤ a0 ∧ a0 ≤ 9223372036854775807) (a1 : Int) (_ : -9223372036854775808 ≤ a1 ∧ a1 ≤ 9223372036854775807) (a2 : ByteArray) (_ : a2.size ≤ maxLen) (_ : a2.size ≤ reachBytes) (w : World) :
    Calls Try.prog 10 #[.int .i64 a0, .int .i64 a1, .string a2] w (Ret (Yes w)) := by
  refine VC.garthlaw16_ViewNil.ok ?_
  unfold VC.garthlaw16_ViewNil
  refine ifD (fun _ => awake_any w fun w1 hE => ⟨_, rfl, rfl, hE⟩) (fun _ => ?_)
  refine .of (new_any 512 w) ?_
  rintro v w1 (⟨q, _, _⟩ | ⟨_, _, ap, F, rfl, hA, hE1, hF⟩)
  · exact absurd ⟨by omega, by omega⟩ q
  refine ⟨_, _, rfl, tnew_any w1 fun tb m1 m2 w2 ht hE2 hT => ⟨_, rfl, vread_nil (.inl rfl) a0 a1 fun w3 hE3 => ⟨_, _, rfl, vread_nil (.inr rfl) a0 a1 fun w4 hE4 => ⟨_, _, rfl, awake_any w4 fun w5 hE5 => ⟨_, rfl, ?_⟩⟩⟩⟩⟩
  refine ifB_true rfl (ifB_true (decide_eq_true rfl) (ifB_true (decide_eq_true rfl) (ifB_true rfl (ifB_true rfl (vwrite_nil (.inl rfl) a0 a2 fun w6 hE6 => ⟨_, rfl, ifB_true rfl (vzero_nil (.inr rfl) a0 a1 fun w7 hE7 => ⟨_, rfl, ifB_true rfl ?_⟩)⟩)))))
  refine tnew_any w7 fun tb' m1' m2' w8 ht' hE8 hT' => ⟨_, rfl, vcopy_nil (.inl rfl) a0 a1 a1 ⟨_, rfl, rfl, ?_⟩⟩
  exact ((((((hE1.trans hE2).trans hE3).trans hE4).trans hE5).trans hE6).trans hE7).trans hE8

/-! ### the others -/

abbrev MOpsSh : Sh := .row 3 24 (.pair (.int .i64) (.pair (.int .i64) (.pair (.int .i64) .unit)))
abbrev MOp := Int × Int × Int × Unit
def mopF (x : MOp) : List Value := [.int .i64 x.1, .int .i64 x.2.1, .int .i64 x.2.2.1]

theorem mops_row {w : World} {x : MOpsSh.T} (h : MOpsSh.Ok w x) : RowAt w x.1.1 3 mopF x.2 := fun i y hi => (h.2.2.2 i y hi).1

theorem RowAt.mop {w : World} {p : Option Addr} {l : List MOp} (h : RowAt w p 3 mopF l) {i : Nat} {x : MOp} (hi : l[i]? = some x) {K : Int → Int → Int → Prop} (k : K x.1 x.2.1 x.2.2.1) :
    someA p fun a => ∃ (i1 i2 i3 : Int), CellsAt w (a.add (i * 3)) [.int .i64 i1, .int .i64 i2, .int .i64 i3] ∧ K i1 i2 i3 := by
  obtain ⟨a, rfl, hc⟩ := h i x hi
  exact ⟨_, _, _, hc, k⟩

/-- An arena and a table, at a place of a script. -/
def Pl (w0 : World) (ap tb n tmax : Nat) (w : World) : Prop := ∃ bs T, VS w0 (fun _ => False) ap tb bs [] T w ∧ bs.length = n ∧ T.length ≤ tmax

set_option maxRecDepth 20000 in
theorem core_ViewOwn (w : World) {pa : Option Addr} {cap : Nat} {l : List MOp} (hrow : RowAt w pa 3 mopF l) {pa2 : Option Addr} {cap2 : Nat} {l2 : List VOp} (hrow2 : RowAt w pa2 5 vopF l2) (h63 : l2.length ≤ maxLen) :
    Calls Try.prog 12 #[.slice pa l.length cap, .slice pa2 l2.length cap2] w (Ret (Yes w)) := by
  refine VC.garthlaw16_ViewOwn.ok ?_
  unfold VC.garthlaw16_ViewOwn
  refine awake_any w fun w1 hE1 => ⟨_, rfl, ifB_false rfl ?_⟩
  refine ifD (fun _ => awake_any w1 fun w2 hE2 => ⟨_, rfl, rfl, hE1.trans hE2⟩) (fun hl60 => ?_)
  have hl60 : l.length ≤ 60 := by omega
  refine long_any (hrow2.ext hE1) h63 fun b w2 hE2 hb => ⟨_, rfl, ?_⟩
  have hE12 := hE1.trans hE2
  cases b with
  | true => exact ifB_true rfl (awake_any w2 fun w3 hE3 => ⟨_, rfl, rfl, hE12.trans hE3⟩)
  | false =>
    have hl100 : l2.length ≤ 100 := hb rfl
    refine ifB_false rfl (.of (new_any 4096 w2) ?_)
    rintro v w3 (⟨q, _, _⟩ | ⟨_, _, ap, F, rfl, hA, hE3, hF⟩)
    · exact absurd ⟨by omega, by omega⟩ q
    have z12 := hE12.size
    refine ⟨_, _, rfl, tnew_any w3 fun tb m1 m2 w4 ht hE4 hT => ⟨_, rfl, ?_⟩⟩
    have h4 : VS w (fun _ => False) ap tb (List.replicate 4096 0) [] [] w4 := VS.start (p := 0) hA (hE12.trans hE3) (fun k hk => Nat.le_trans z12 (hF k hk)) ht hE4 hT
    refine ⟨fun n i w5 => ∃ j : Nat, i = (j : Int) ∧ n + j = l.length ∧ Pl w ap tb 4096 j w5, ⟨l.length, 0, rfl, rfl, _, _, h4, List.length_replicate, Nat.le_refl _⟩, ?_⟩
    rintro n jv i w5 ⟨j, rfl, hn, bs, T, h5, hbl, hTl⟩
    refine ifD (fun hj => ⟨by omega, by omega, ?_⟩) (fun hj => ?_)
    · have hj : j < l.length := by have hj : (j : Int) < (l.length : Int) := hj; omega
      obtain ⟨z, hz⟩ : ∃ z, l[j]? = some z := ⟨_, List.getElem?_eq_getElem hj⟩
      rw [Int.toNat_natCast]
      refine (hrow.ext h5.ext).mop hz (al_intro fun b w6 hb6 hE6 hs6 _ => ?_)
      refine wr_intro (n := 3) hb6 (by simp) fun w7 hb7 hm7 hs7 => ?_
      have hE7 : Ext w5 w7 := hE6.new hm7 (fun k hk => by subst hk; omega)
      refine ⟨_, by rw [add_mk]; exact cell_blk hb7 rfl, _, by rw [add_mk]; exact cell_blk hb7 rfl, (h5.mod hE7.mod).map (by omega) _ _ fun w8 h8 _ => ⟨_, rfl, n - 1, by omega, j + 1, ?_, by omega, bs, _, h8, hbl, ?_⟩⟩
      · rw [wrap_i64 (by omega) (by omega)]; omega
      · have := mapT_len T z.2.1 z.2.2.1; omega
    · have gT := h5.ok.1
      refine ⟨fun n i w6 => ∃ (j : Nat) (bs : List UInt8) (ts : List Tch), i = (j : Int) ∧ n + j = l2.length ∧ VS w (fun _ => False) ap tb bs ts T w6 ∧ bs.length = 4096 ∧ OwnV T ts ∧ ts.length ≤ 10000000 * j, ⟨l2.length, 0, bs, [], rfl, rfl, h5, hbl, fun t ht => (by cases ht), by simp⟩, ?_⟩
      rintro n jv i w6 ⟨j, bs, ts, rfl, hn, h6, hbl, hO, hts⟩
      refine ifD (fun hj => ⟨by omega, by omega, ?_⟩) (fun hj => ?_)
      · have hj : j < l2.length := by omega
        have ew : IntKind.i64.wrap ((j : Int) + 1) = ((j + 1 : Nat) : Int) := by rw [wrap_i64 (by omega) (by omega)]; omega
        rw [ew]
        obtain ⟨z, hz⟩ : ∃ z, l2[j]? = some z := ⟨_, List.getElem?_eq_getElem hj⟩
        rw [Int.toNat_natCast]
        refine (hrow2.ext h6.ext).vop hz (al_intro fun b w7 hb7 hE7 hs7 _ => ?_)
        refine wr_intro (n := 5) hb7 (by simp) fun w8 hb8 hm8 hs8 => ?_
        have hE8 : Ext w6 w8 := hE7.new hm8 (fun k hk => by subst hk; omega)
        have h8 := h6.mod hE8.mod
        have b20 : bs.length ≤ 2097152 := by omega
        have fin : ∀ {bs' : List UInt8} {ts' : List Tch} {w9 : World}, VS w (fun _ => False) ap tb bs' ts' T w9 → bs'.length = 4096 → OwnV T ts' → ts'.length ≤ ts.length + 7000000 →
            ∃ n63 : Nat, n63 < n ∧ ∃ (j_1 : Nat) (bs : List UInt8) (ts : List Tch), ((j + 1 : Nat) : Int) = (j_1 : Int) ∧ n63 + j_1 = l2.length ∧ VS w (fun _ => False) ap tb bs ts T w9 ∧ bs.length = 4096 ∧ OwnV T ts ∧ ts.length ≤ 10000000 * j_1 :=
          fun h hb ho ht => ⟨n - 1, by omega, j + 1, _, _, rfl, by omega, h, hb, ho, by omega⟩
        refine ⟨_, by rw [add_mk]; exact cell_blk hb8 rfl, ifB_intro (fun _ => ?_) (fun _ => ifB_intro (fun _ => ?_) (fun _ => ifB_intro (fun _ => ?_) (fun _ => ?_)))⟩
        · refine ⟨_, by rw [add_mk]; exact cell_blk hb8 rfl, _, by rw [add_mk]; exact cell_blk hb8 rfl, _, w8, run_min_int2 w8 _ _ _ _ _ _, h8.read (by omega) _ _ fun w9 h9 _ => ⟨_, _, rfl, ?_⟩⟩
          exact fin h9 hbl (hO.append (own_vL gT _ _ _ _)) (by rw [List.length_append, tchL_len]; have := vL_len T bs.length z.2.1 (if 8192 < z.2.2.1 then 8192 else z.2.2.1) b20; omega)
        · refine ⟨_, by rw [add_mk]; exact cell_blk hb8 rfl, _, by rw [add_mk]; exact cell_blk hb8 rfl, h8.write (by omega) _ _ fun w9 h9 _ => ⟨_, rfl, ?_⟩⟩
          exact fin h9 (by rw [wrB_len _ (vL_in _ _ _ _ b20)]; exact hbl) (hO.append (own_vL gT _ _ _ _)) (by rw [List.length_append, tchL_len]; have := vL_len T bs.length z.2.1 z.2.2.2.2.1.size b20; omega)
        · refine ⟨_, by rw [add_mk]; exact cell_blk hb8 rfl, _, by rw [add_mk]; exact cell_blk hb8 rfl, _, w8, run_min_int2 w8 _ _ _ _ _ _, h8.zero (by omega) _ _ fun w9 h9 _ => ⟨_, rfl, ?_⟩⟩
          exact fin h9 (by rw [zrB_len _ (vL_in _ _ _ _ b20)]; exact hbl) (hO.append (own_vL gT _ _ _ _)) (by rw [List.length_append, tchL_len]; have := vL_len T bs.length z.2.1 (if 8192 < z.2.2.1 then 8192 else z.2.2.1) b20; omega)
        · refine ⟨_, by rw [add_mk]; exact cell_blk hb8 rfl, _, by rw [add_mk]; exact cell_blk hb8 rfl, _, by rw [add_mk]; exact cell_blk hb8 rfl, _, w8, run_min_int2 w8 _ _ _ _ _ _, h8.copy (by omega) _ _ _ fun w9 h9 _ => ⟨_, rfl, ?_⟩⟩
          refine fin h9 ((cpB_len _ _ _ _ _ b20).trans hbl) (cpT_own gT hO _ _ _) ?_
          have g1 := cpT_len T bs.length ts z.2.1 z.2.2.1 (if 8192 < z.2.2.2.1 then 8192 else z.2.2.2.1) b20
          omega
      · refine h6.touchedC (by omega) fun q c w7 hr h7 hE7 => ⟨_, _, _, rfl, ?_⟩
        refine ⟨fun n i w8 => ∃ j : Nat, i = (j : Int) ∧ n + j = ts.length ∧ TRow w8 (.slice q ts.length c) ts ∧ VS w (fun j => False ∨ (Value.slice q ts.length c).ownBlock = some j) ap tb bs ts T w8, ⟨ts.length, 0, rfl, rfl, hr, h7⟩, ?_⟩
        rintro n jv i w8 ⟨j, rfl, hn, hr, h8⟩
        refine ifD (fun hj => ⟨by omega, by omega, ?_⟩) (fun hj => ⟨rfl, h8.ext⟩)
        have hj : j < ts.length := by omega
        obtain ⟨t, ht⟩ : ∃ t, ts[j]? = some t := ⟨_, List.getElem?_eq_getElem hj⟩
        obtain ⟨a, rfl, hc⟩ := hr.cells ht
        obtain ⟨u, k, e1, e2, hu, hh, hk⟩ := hO t (List.mem_of_getElem? ht)
        rw [Int.toNat_natCast]
        refine ⟨_, _, _, hc, al_intro fun b w9 hb9 hE9 hs9 _ => ?_⟩
        refine wr_intro (n := 3) hb9 (by simp) fun w10 hb10 hm10 hs10 => ?_
        have hE10 : Ext w8 w10 := hE9.new hm10 (fun k hk => by subst hk; omega)
        have h10 := h8.mod hE10.mod
        have c0 : w10.cell? ((Addr.mk b 0 none).add 0) = some (.int .i64 t.1) := by rw [add_mk]; exact cell_blk hb10 rfl
        have c1 : w10.cell? ((Addr.mk b 0 none).add 1) = some (.int .i64 t.2.1) := by rw [add_mk]; exact cell_blk hb10 rfl
        have ediv : IntKind.i64.wrap (t.1.tdiv 512) = ((u / 512 : Nat) : Int) := by
          rw [e1, show ((u : Int).tdiv 512) = ((u / 512 : Nat) : Int) from (Int.ofNat_tdiv u 512).symm, wrap_i64 (by omega) (by omega)]
        have emod : IntKind.i64.wrap (t.1.tmod 512 + t.2.1) = ((u % 512 + k : Nat) : Int) := by
          rw [e1, e2, show ((u : Int).tmod 512) = ((u % 512 : Nat) : Int) from (Int.ofNat_tmod u 512).symm, wrap_i64 (by omega) (by omega)]
          omega
        refine ⟨_, c0, by decide, ?_⟩
        rw [ediv]
        refine h10.holderC (i64w (by omega) (by omega)) ⟨_, rfl, ifB_false (decide_eq_false (by omega)) ⟨_, c0, by decide, _, c1, ?_⟩⟩
        rw [emod]
        refine ifB_false (decide_eq_false (by omega)) ⟨n - 1, by omega, j + 1, ?_, by omega, hr.keep hE10 (fun _ _ x => x), h10⟩
        rw [wrap_i64 (by omega) (by omega)]; omega

theorem walk_ViewOwn (w : World) (x : MOpsSh.T) (ok : MOpsSh.Ok w x) (y : VOpsSh.T) (oky : VOpsSh.Ok w y) :
    Calls Try.prog 12 #[MOpsSh.val x, VOpsSh.val y] w (Ret (Yes w)) :=
  core_ViewOwn w (l := x.2) (mops_row ok) (l2 := y.2) (vops_row oky) (Nat.le_trans oky.1 oky.2.1)

end Go.Proofs.Ytnjjgpjpodmgpaa
