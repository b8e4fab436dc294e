/- Statements of layer 16 (view): ViewMoves, ViewBack. Conditions: the arguments' cells are there. -/
import Derived.Test.YtnjjgpjpodmgpaaWViewA
set_option linter.unusedVariables false
set_option linter.unusedSimpArgs false
namespace Go.Proofs.Ytnjjgpjpodmgpaa
open Go.RowKit Go.Maps

set_option maxRecDepth 20000 in
theorem core_ViewMoves (w : World) {pa : Option Addr} {cap : Nat} {l : List MOp} (hrow : RowAt w pa 3 mopF l) (first : ByteArray) (to from_ n0 : Int) :
    Calls Try.prog 9 #[.slice pa l.length cap, .string first, .int .i64 to, .int .i64 from_, .int .i64 n0] w (Ret (Yes w)) := by
  refine VC.garthlaw16_ViewMoves.ok ?_
  unfold VC.garthlaw16_ViewMoves
  refine awake_any w fun w1 hE1 => ⟨_, rfl, ifB_false rfl ?_⟩
  refine ifD (fun _ => awake_any w1 fun w2 hE2 => ⟨_, rfl, rfl, hE1.trans hE2⟩) (fun hl60 => ?_)
  refine ifD (fun _ => awake_any w1 fun w2 hE2 => ⟨_, rfl, rfl, hE1.trans hE2⟩) (fun hf4 => ?_)
  refine ifD (fun _ => awake_any w1 fun w2 hE2 => ⟨_, rfl, rfl, hE1.trans hE2⟩) (fun hn4 => ?_)
  refine .of (new_any 4096 w1) ?_
  rintro v w3 (⟨q, _, _⟩ | ⟨_, _, ap, F, rfl, hA, hE3, hF⟩)
  · exact absurd ⟨by omega, by omega⟩ q
  have z12 := hE1.size
  refine ⟨_, _, rfl, tnew_any w3 fun tb m1 m2 w4 ht hE4 hT => ⟨_, rfl, ?_⟩⟩
  have h4 : VS w (fun _ => False) ap tb (List.replicate 4096 0) [] [] w4 := VS.start (p := 0) hA (hE1.trans hE3) (fun k hk => Nat.le_trans z12 (hF k hk)) ht hE4 hT
  refine ⟨fun n i w5 => ∃ j : Nat, i = (j : Int) ∧ n + j = l.length ∧ Pl w ap tb 4096 j w5, ⟨l.length, 0, rfl, rfl, _, _, h4, List.length_replicate, Nat.le_refl _⟩, ?_⟩
  rintro n jv i w5 ⟨j, rfl, hn, bs, T, h5, hbl, hTl⟩
  refine ifD (fun hj => ⟨by omega, by omega, ?_⟩) (fun hj => ?_)
  · have hj : j < l.length := by omega
    have ew : IntKind.i64.wrap ((j : Int) + 1) = ((j + 1 : Nat) : Int) := by rw [wrap_i64 (by omega) (by omega)]; omega
    rw [ew]
    obtain ⟨z, hz⟩ : ∃ z, l[j]? = some z := ⟨_, List.getElem?_eq_getElem hj⟩
    rw [Int.toNat_natCast]
    refine (hrow.ext h5.ext).mop hz (al_intro fun b w6 hb6 hE6 hs6 _ => ?_)
    refine wr_intro (n := 3) hb6 (by simp) fun w7 hb7 hm7 hs7 => ?_
    have hE7 : Ext w5 w7 := hE6.new hm7 (fun k hk => by subst hk; omega)
    have h7 := h5.mod hE7.mod
    refine ⟨_, by rw [add_mk]; exact cell_blk hb7 rfl, ifB_intro (fun _ => ?_) (fun _ => ⟨n - 1, by omega, j + 1, rfl, by omega, bs, T, h7, hbl, by omega⟩)⟩
    refine ⟨_, by rw [add_mk]; exact cell_blk hb7 rfl, _, by rw [add_mk]; exact cell_blk hb7 rfl, h7.map (by omega) _ _ fun w8 h8 _ => ⟨_, rfl, n - 1, by omega, j + 1, rfl, by omega, bs, _, h8, hbl, ?_⟩⟩
    have := mapT_len T z.2.1 z.2.2.1; omega
  · have gT := h5.ok.1
    refine h5.awrite (a := 0) (by simp) (by omega) fun w6 ts6 t6 h6 _ => ⟨_, rfl, ?_⟩
    have hbl6 : (putAt bs 0 (bytesOf first)).length = 4096 := by rw [putAt_length (by rw [bytesOf_length]; omega)]; exact hbl
    generalize putAt bs 0 (bytesOf first) = b1 at h6 hbl6
    have b20 : b1.length ≤ 2097152 := by omega
    simp only [List.length_nil] at t6
    have g1 := vL_len T b1.length from_ n0 b20
    refine h6.read (by omega) from_ n0 fun w7 h7 _ => ⟨_, _, rfl, ?_⟩
    have g2 := cpT_len T b1.length (ts6 ++ tchL (vL T b1.length from_ n0) false) to from_ n0 b20
    rw [List.length_append, tchL_len] at g2
    refine h7.copy (by rw [List.length_append, tchL_len]; omega) to from_ n0 fun w8 h8 _ => ⟨_, rfl, ?_⟩
    have hcl := cpB_len T b1 to from_ n0 b20
    refine h8.read (by omega) to n0 fun w9 h9 _ => ⟨_, _, rfl, ?_⟩
    rw [hcl]
    have hW := h9.ext
    by_cases hc : cpE T b1.length to from_ n0 = 0
    · have h1 : vE T b1.length to n0 = 0 := by
        by_cases q : vE T b1.length to n0 = 0
        · exact q
        · unfold cpE at hc; rw [if_neg q] at hc; exact hc
      have h2 : vE T b1.length from_ n0 = 0 := by unfold cpE at hc; rw [if_pos h1] at hc; exact hc
      rw [hc, h1, h2]
      refine ifB_false rfl (ifB_true rfl (ifB_true rfl ⟨dec_true (congrArg strOf ?_), hW⟩))
      unfold cpB
      rw [if_pos hc]
      rcases vE_cases T b1.length to n0 with ⟨c1, _⟩ | ⟨_, L1, c2, c3⟩
      · rw [h1] at c1; omega
      rcases vE_cases T b1.length from_ n0 with ⟨d1, _⟩ | ⟨_, L2, d2, d3⟩
      · rw [h2] at d1; omega
      obtain ⟨i1, _, _, _, e1⟩ := vpc_facts c2 b20
      obtain ⟨i2, _, _, _, e2⟩ := vpc_facts d2 b20
      rw [c3, d3]
      exact rd_wr L1 i1 (vpc_nodup gT c2) (by rw [rdB_len L2 i2]; omega)
    · refine ifB_true (by simpa using hc) ?_
      by_cases q : vE T b1.length from_ n0 = 0
      · rw [q]
        refine ifB_false rfl ⟨?_, hW⟩
        have h1 : vE T b1.length to n0 ≠ 0 := fun x => by unfold cpE at hc; rw [if_pos x] at hc; exact hc q
        rw [show (vE T b1.length to n0 != 0) = true by simpa using h1]
      · exact ifB_true (by simpa using q) ⟨rfl, hW⟩

theorem walk_ViewMoves (w : World) (x : MOpsSh.T) (ok : MOpsSh.Ok w x) (s : ByteArray) (_ : s.size ≤ maxLen) (_ : s.size ≤ reachBytes) (a2 : Int) (_ : -9223372036854775808 ≤ a2 ∧ a2 ≤ 9223372036854775807) (a3 : Int) (_ : -9223372036854775808 ≤ a3 ∧ a3 ≤ 9223372036854775807) (a4 : Int) (_ : -9223372036854775808 ≤ a4 ∧ a4 ≤ 9223372036854775807) :
    Calls Try.prog 9 #[MOpsSh.val x, .string s, .int .i64 a2, .int .i64 a3, .int .i64 a4] w (Ret (Yes w)) :=
  core_ViewMoves w (l := x.2) (mops_row ok) s a2 a3 a4

end Go.Proofs.Ytnjjgpjpodmgpaa
