/- View: one op on both sides. Conditions: they are there. -/
import Derived.Test.YtnjjgpjpodmgpaaRVwD
set_option linter.unusedVariables false
set_option linter.unusedSimpArgs false
namespace Go.Proofs.Ytnjjgpjpodmgpaa
open Go.RowKit Go.Maps

abbrev ptr (p : Nat) : Value := .pointer (some ⟨p, 0, none⟩)
abbrev bothC (a t b r : Nat) : Obj := .cells #[ptr a, ptr t, ptr b, ptr r] 96 (0, 0)

section
variable {w0 w w' : World} {K : Nat → Prop} {a t b r bp : Nat} {bs : List UInt8} {ts : List Tch} {T : Tb} {R : Value → World → Prop}

set_option maxHeartbeats 1000000 in
theorem done_any (h : Bv w0 K a t b r bs ts T bs ts T w) (hK : K bp) (hb : w.heap[bp]? = some (bothC a t b r)) (hl : ts.length ≤ 4000000000) (hT : T.length < 1000000) (k1 k2 k3 k4 : Int) (s : ByteArray)
    (k : ∀ w' bs' ts' T', Bv w0 K a t b r bs' ts' T' bs' ts' T' w' → w'.heap[bp]? = some (bothC a t b r) → bs'.length = bs.length → ts'.length ≤ ts.length + 6553600 → T'.length ≤ T.length + 1 → R (.bool true) w') :
    CallS Try.prog 41 #[.pointer (some ⟨bp, 0, none⟩), .agg #[.int .i64 k1, .int .i64 k2, .int .i64 k3, .int .i64 k4, .string s]] w R := by
  have hsm : bs.length ≤ 2097152 := by
    obtain ⟨O, x, _⟩ := h.left
    exact x.small
  have hz := h.ext.size
  constructor
  refine VC.garthlaw16_both_done.ok ?_
  unfold VC.garthlaw16_both_done
  refine al_intro fun n0 w1 hn hE1 hs1 hs1' => ?_
  have g1 := h.grow hE1 (B := (· = n0)) (fun j hj => by subst hj; exact ⟨by omega, by omega⟩)
  have b1 := hE1.keep hb
  have g3 := g1.mod (Ext.drew w1).mod
  have b3 : w1.drew.heap[bp]? = _ := b1
  have n3 : w1.drew.heap[n0]? = some (.cells #[.int .i64 k1, .int .i64 k2, .int .i64 k3, .int .i64 k4, .string s] 101 (0, 0)) := hn
  have fin : ∀ w' bs' ts' T', Bv w0 (fun j => K j ∨ j = n0) a t b r bs' ts' T' bs' ts' T' w' → w'.heap[bp]? = some (bothC a t b r) → bs'.length = bs.length → ts'.length ≤ ts.length + 6553600 → T'.length ≤ T.length + 1 → R (.bool true) w' :=
    fun w' bs' ts' T' x => k w' bs' ts' T' (x.weak fun j hj => .inl hj)
  have vl := fun x y => vL_len T bs.length x y hsm
  refine ⟨_, by rw [add_mk]; exact cell_blk hn rfl, ifB_intro (fun _ => ?_) (fun _ => ifB_intro (fun _ => ?_) (fun _ => ifB_intro (fun _ => ?_) (fun _ => ifB_intro (fun _ => ?_) (fun _ => ?_))))⟩ <;> rintro w2 rfl
  · obtain ⟨O, x, hKO, back⟩ := g3.left
    refine ⟨_, by rw [add_mk]; exact cell_blk b3 rfl, _, by rw [add_mk]; exact cell_blk b3 rfl, _, by rw [add_mk]; exact cell_blk n3 rfl, _, by rw [add_mk]; exact cell_blk n3 rfl, x.read (by omega) _ _ fun w4 hn4 => ⟨_, _, rfl, ?_⟩⟩
    obtain ⟨g4, m4⟩ := back _ _ _ _ hn4
    have b4 := m4.keep b3 (hKO _ (.inl hK))
    have n4 := m4.keep n3 (hKO _ (.inr rfl))
    rintro w5 rfl
    have g5 := g4.mod (Ext.drew w4).mod
    have b5 : w4.drew.heap[bp]? = _ := b4
    have n5 : w4.drew.heap[n0]? = _ := n4
    obtain ⟨P, y, hKP, back2⟩ := g5.right
    refine ⟨_, by rw [add_mk]; exact cell_blk b5 rfl, _, by rw [add_mk]; exact cell_blk b5 rfl, _, by rw [add_mk]; exact cell_blk n5 rfl, _, by rw [add_mk]; exact cell_blk n5 rfl, y.read (by omega) _ _ fun w6 hn6 => ⟨_, _, rfl, ?_⟩⟩
    obtain ⟨g6, m6⟩ := back2 _ _ _ _ hn6
    have b6 := m6.keep b5 (hKP _ (.inl hK))
    refine ifB_true (decide_eq_true rfl) ?_
    rw [beq_self_eq_true]
    exact fin w6 _ _ _ g6 b6 rfl (by rw [List.length_append, tchL_len]; have := vl k2 k3; omega) (by omega)
  · obtain ⟨O, x, hKO, back⟩ := g3.left
    refine ⟨_, by rw [add_mk]; exact cell_blk b3 rfl, _, by rw [add_mk]; exact cell_blk b3 rfl, _, by rw [add_mk]; exact cell_blk n3 rfl, _, by rw [add_mk]; exact cell_blk n3 rfl, _, by rw [add_mk]; exact cell_blk b3 rfl, _, by rw [add_mk]; exact cell_blk b3 rfl, _, by rw [add_mk]; exact cell_blk n3 rfl, _, by rw [add_mk]; exact cell_blk n3 rfl,
      x.write (by omega) _ _ fun w4 hn4 => ⟨_, rfl, ?_⟩⟩
    obtain ⟨g4, m4⟩ := back _ _ _ _ hn4
    have b4 := m4.keep b3 (hKO _ (.inl hK))
    have n4 := m4.keep n3 (hKO _ (.inr rfl))
    obtain ⟨P, y, hKP, back2⟩ := g4.right
    refine ⟨⟨_, by rw [add_mk]; exact cell_blk n4 rfl, rfl⟩, ⟨_, by rw [add_mk]; exact cell_blk n4 rfl, rfl⟩, ⟨_, by rw [add_mk]; exact cell_blk b4 rfl, rfl⟩, ⟨_, by rw [add_mk]; exact cell_blk b4 rfl, rfl⟩, y.write (by omega) _ _ fun w6 hn6 => ⟨_, rfl, ?_⟩⟩
    obtain ⟨g6, m6⟩ := back2 _ _ _ _ hn6
    have b6 := m6.keep b4 (hKP _ (.inl hK))
    rw [beq_self_eq_true]
    exact fin w6 _ _ _ g6 b6 (wrB_len _ (vL_in _ _ _ _ hsm)) (by rw [List.length_append, tchL_len]; have := vl k2 s.size; omega) (by omega)
  · obtain ⟨O, x, hKO, back⟩ := g3.left
    refine ⟨_, by rw [add_mk]; exact cell_blk b3 rfl, _, by rw [add_mk]; exact cell_blk b3 rfl, _, by rw [add_mk]; exact cell_blk n3 rfl, _, by rw [add_mk]; exact cell_blk n3 rfl, _, by rw [add_mk]; exact cell_blk b3 rfl, _, by rw [add_mk]; exact cell_blk b3 rfl, _, by rw [add_mk]; exact cell_blk n3 rfl, _, by rw [add_mk]; exact cell_blk n3 rfl,
      x.zero (by omega) _ _ fun w4 hn4 => ⟨_, rfl, ?_⟩⟩
    obtain ⟨g4, m4⟩ := back _ _ _ _ hn4
    have b4 := m4.keep b3 (hKO _ (.inl hK))
    have n4 := m4.keep n3 (hKO _ (.inr rfl))
    obtain ⟨P, y, hKP, back2⟩ := g4.right
    refine ⟨⟨_, by rw [add_mk]; exact cell_blk n4 rfl, rfl⟩, ⟨_, by rw [add_mk]; exact cell_blk n4 rfl, rfl⟩, ⟨_, by rw [add_mk]; exact cell_blk b4 rfl, rfl⟩, ⟨_, by rw [add_mk]; exact cell_blk b4 rfl, rfl⟩, y.zero (by omega) _ _ fun w6 hn6 => ⟨_, rfl, ?_⟩⟩
    obtain ⟨g6, m6⟩ := back2 _ _ _ _ hn6
    have b6 := m6.keep b4 (hKP _ (.inl hK))
    rw [beq_self_eq_true]
    exact fin w6 _ _ _ g6 b6 (zrB_len _ (vL_in _ _ _ _ hsm)) (by rw [List.length_append, tchL_len]; have := vl k2 k3; omega) (by omega)
  · obtain ⟨O, x, hKO, back⟩ := g3.left
    refine ⟨_, by rw [add_mk]; exact cell_blk b3 rfl, _, by rw [add_mk]; exact cell_blk b3 rfl, _, by rw [add_mk]; exact cell_blk n3 rfl, _, by rw [add_mk]; exact cell_blk n3 rfl, _, by rw [add_mk]; exact cell_blk n3 rfl, _, by rw [add_mk]; exact cell_blk b3 rfl, _, by rw [add_mk]; exact cell_blk b3 rfl, _, by rw [add_mk]; exact cell_blk n3 rfl, _, by rw [add_mk]; exact cell_blk n3 rfl, _, by rw [add_mk]; exact cell_blk n3 rfl,
      x.copy (by omega) _ _ _ fun w4 hn4 => ⟨_, rfl, ?_⟩⟩
    obtain ⟨g4, m4⟩ := back _ _ _ _ hn4
    have b4 := m4.keep b3 (hKO _ (.inl hK))
    have n4 := m4.keep n3 (hKO _ (.inr rfl))
    obtain ⟨P, y, hKP, back2⟩ := g4.right
    refine ⟨⟨_, by rw [add_mk]; exact cell_blk n4 rfl, rfl⟩, ⟨_, by rw [add_mk]; exact cell_blk n4 rfl, rfl⟩, ⟨_, by rw [add_mk]; exact cell_blk n4 rfl, rfl⟩, ⟨_, by rw [add_mk]; exact cell_blk b4 rfl, rfl⟩, ⟨_, by rw [add_mk]; exact cell_blk b4 rfl, rfl⟩, y.copy (by omega) _ _ _ fun w6 hn6 => ⟨_, rfl, ?_⟩⟩
    obtain ⟨g6, m6⟩ := back2 _ _ _ _ hn6
    have b6 := m6.keep b4 (hKP _ (.inl hK))
    rw [beq_self_eq_true]
    exact fin w6 _ _ _ g6 b6 (cpB_len _ _ _ _ _ hsm) (cpT_len _ _ _ _ _ _ hsm) (by omega)
  · obtain ⟨O, x, hKO, back⟩ := g3.left
    refine ⟨_, by rw [add_mk]; exact cell_blk b3 rfl, _, by rw [add_mk]; exact cell_blk n3 rfl, _, by rw [add_mk]; exact cell_blk n3 rfl, _, by rw [add_mk]; exact cell_blk b3 rfl, _, by rw [add_mk]; exact cell_blk n3 rfl, _, by rw [add_mk]; exact cell_blk n3 rfl,
      x.map hT _ _ fun w4 hn4 => ⟨_, rfl, ?_⟩⟩
    obtain ⟨g4, m4⟩ := back _ _ _ _ hn4
    have b4 := m4.keep b3 (hKO _ (.inl hK))
    have n4 := m4.keep n3 (hKO _ (.inr rfl))
    obtain ⟨P, y, hKP, back2⟩ := g4.right
    refine ⟨⟨_, by rw [add_mk]; exact cell_blk n4 rfl, rfl⟩, ⟨_, by rw [add_mk]; exact cell_blk n4 rfl, rfl⟩, ⟨_, by rw [add_mk]; exact cell_blk b4 rfl, rfl⟩, y.map hT _ _ fun w6 hn6 => ⟨_, rfl, ?_⟩⟩
    obtain ⟨g6, m6⟩ := back2 _ _ _ _ hn6
    have b6 := m6.keep b4 (hKP _ (.inl hK))
    rw [beq_self_eq_true]
    exact fin w6 _ _ _ g6 b6 rfl (by omega) (mapT_len _ _ _)

end

end Go.Proofs.Ytnjjgpjpodmgpaa
