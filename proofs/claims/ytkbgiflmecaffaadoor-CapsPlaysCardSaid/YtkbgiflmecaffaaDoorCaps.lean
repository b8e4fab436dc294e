/- Contracts of package caps. Conditions: the table is there; the table of TrailingZeros64 is laid. -/
import Derived.Test.YtkbgiflmecaffaaDoorCapsM
import Derived.Test.YtkbgiflmecaffaaDoorGwTab
set_option linter.unusedVariables false
set_option linter.unusedSimpArgs false
namespace Go.Proofs.YtkbgiflmecaffaaDoor
open Go.RowKit

theorem uCM : Tryd.prog.underlying 62 = some (.map 3 69) := by kernel_rfl
theorem uCI : Tryd.prog.underlying 3 = some (.int .i64) := by kernel_rfl
theorem zCS (w : World) : (zeroValue 69).run Tryd.prog w = .ok (slotV (0, 0, 0)) w := by kernel_rfl

theorem i64_mk {n : Int} (h0 : -9223372036854775808 ≤ n) (h1 : n ≤ 9223372036854775807) : (Lit.int .i64 n).wf = true := by
  simp [Lit.wf, IntKind.min, IntKind.max, IntKind.signed, IntKind.bits]
  omega

theorem dcell {w : World} {b : Nat} {arr : Array Value} {T : TypeId} {v : Value} {i : Nat} (h : w.heap[b]? = some (.cells arr T (0, 0))) (hv : arr[0 + i]? = some v) : w.cell? ((Addr.mk b 0 none).add i) = some v := by
  rw [add_mk]
  exact cell_blk h hv

theorem cells3 {w : World} {b : Nat} {x y z : Value} {T : TypeId} (h : w.heap[b]? = some (.cells #[x, y, z] T (0, 0))) : CellsAt w (Addr.mk b 0 none) [x, y, z] := cells_all (vs := [x, y, z]) h

theorem cells2 {w : World} {b : Nat} {x y z : Value} {T : TypeId} (h : w.heap[b]? = some (.cells #[x, y, z] T (0, 0))) : CellsAt w ((Addr.mk b 0 none).add 0) [x, y] := by
  intro j v hv
  rw [add_mk, add_mk]
  refine cell_blk h ?_
  match j, hv with
  | 0, hv => simpa using hv
  | 1, hv => simpa using hv

/-- The zero struct is written, read and given back. -/
theorem give3 {w : World} {b : Nat} {T : TypeId} {x y z : Value} {u v t : Value} {Q : World → Prop} (h : w.heap[b]? = some (.cells #[x, y, z] T (0, 0))) (q : ∀ w1, w1.heap[b]? = some (.cells #[u, v, t] T (0, 0)) → Mod (· = b) w w1 → w1.heap.size = w.heap.size → Q w1) :
    WrC w (Addr.mk b 0 none) 3 ∧ ∀ w1, w1 = wr w (Addr.mk b 0 none) [u, v, t] → Q w1 :=
  wr_intro (b := b) (n := 3) h (by simp) fun w1 h1 hm hs => q w1 (by simpa [setAt] using h1) hm hs

section
variable {w : World} {p : Nat} {F : Nat → Prop} {T nx : Int} {S : Int → Option Sl} {sz : Nat}

theorem uparts (h : Int) : ∃ t s r n e : Int, Hd.unpackV h = .tuple #[.agg #[.int .i64 t, .int .i64 s, .int .i64 r, .int .i64 n], .int .i64 e] ∧ (Lit.int .i64 s).wf = true ∧
    ((Hd.HOk h ∧ t = Hd.uT h ∧ s = Hd.uS h ∧ r = Hd.uR h ∧ n = Hd.uN h ∧ e = 0) ∨ (¬ Hd.HOk h ∧ e = 5)) := by
  unfold Hd.unpackV
  by_cases hk : Hd.HOk h
  · rw [if_pos hk]
    exact ⟨_, _, _, _, _, rfl, i64_mk (by have := hk.2.2.1; omega) (by have := hk.2.2.2.1; omega), .inl ⟨hk, rfl, rfl, rfl, rfl, rfl⟩⟩
  · rw [if_neg hk]
    exact ⟨_, _, _, _, _, rfl, i64_mk (by decide) (by decide), .inr ⟨hk, rfl⟩⟩

theorem slot_look {b : Nat} (h : IMap w Tryd.prog 3 .i64 b (mapS S) sz) {k : Int} (hk : (Lit.int .i64 k).wf = true) :
    (Instr.lookup 62 (.map (some b)) (.int .i64 k) true).run Tryd.prog w = .ok (.tuple #[slotV ((S k).getD (0, 0, 0)), .bool (S k).isSome]) w := by
  rw [h.look_ok uCI uCM (zCS w) hk]
  unfold mapS
  cases S k <;> rfl

set_option maxHeartbeats 1000000 in
theorem cfind_any (h : CP w p F T nx S sz) {hh : Int} (hu : Hd.U64 hh) : Calls Tryd.prog 27 #[.pointer (some ⟨p, 0, none⟩), .int .u64 hh] w (Ret fun r w' => r = findV (findS T S hh) ∧ Ext w w') := by
  refine VC.caps_Caps_find.ok ?_
  unfold VC.caps_Caps_find
  refine al_intro fun b0 w1 hb0 hE1 hs1 hs1' => ifB_false rfl (.of (Hd.unpack_any hh hu w1) ?_)
  rintro r w7 ⟨rfl, hE7⟩
  obtain ⟨t, s, r, n, e, hv, hswf, hcase⟩ := uparts hh
  rw [hv]
  have hb7 := hE7.keep hb0
  refine ⟨_, _, _, _, _, rfl, al_intro fun b13 w14 hb13 hE14 hs14 hs14' => ?_⟩
  refine wr_intro (b := b13) (n := 4) hb13 (by simp) fun w15 hb15 hm15 hs15 => ?_
  have hb15 : w15.heap[b13]? = some (.cells #[.int .i64 t, .int .i64 s, .int .i64 r, .int .i64 n] 45 (0, 0)) := hb15
  rintro w16 rfl
  have s7 := hE7.size
  have hE715 : Ext w7 w15 := hE14.new hm15 (fun k hk => by omega)
  have hE116 : Ext w1 w15.drew := (hE7.trans hE715).trans (Ext.drew w15)
  have hE16 := hE1.trans hE116
  have hb16 := (Ext.drew w15).keep hb15
  have hb0' := hE116.keep hb0
  have h16 := h.ext hE16
  have hltb0 : b0 < w15.drew.heap.size := lt_of_blk hb0'
  generalize w15.drew = w16 at hE16 hE116 hb16 hb0' h16 hltb0
  obtain ⟨B, ob, og, eb, eg, h16, rfl⟩ := h16
  simp only [someA]
  refine ⟨_, dcell h16.head rfl, _, dcell hb16 rfl, _, _, _, _, w16, slot_look h16.slots hswf, rfl, al_intro fun b25 w26 hb25 hE26 hs26 hs26' => ?_⟩
  have hm26 := h16.slots.ext hE26
  refine ⟨⟨_, _, _, _, w26, slot_look hm26 hswf, rfl, rfl⟩, ⟨_, dcell (hE26.keep hb16) rfl, rfl⟩, ⟨_, dcell (hE26.keep h16.head) rfl, rfl⟩, ?_⟩
  refine give3 hb25 fun w34 hb34 hm34 hs34 => ?_
  rintro w35 rfl
  have hE1634 : Ext w16 w34 := hE26.new hm34 (fun k hk => by omega)
  have hE1635 : Ext w16 w34.drew := hE1634.trans (Ext.drew w34)
  have hb35 := (Ext.drew w34).keep hb34
  have hb0'' := hE1635.keep hb0'
  have h35 := h16.keep hE1635 (fun _ _ x => x)
  have hk35 := hE1635.keep hb16
  have hE35 : Ext w w34.drew := hE16.trans hE1635
  generalize w34.drew = w35 at hE1635 hb35 hb0'' h35 hk35 hE35
  have lt0 : w.heap.size ≤ b0 := by omega
  -- not good
  have bad : findS T S hh = none → WrC w35 (Addr.mk b0 0 none) 3 ∧ ∀ (w36 : World), w36 = wr w35 (Addr.mk b0 0 none) [Value.int .i64 0, .int .i64 0, .int .i64 0] →
      ∃ i37 i38 i39 : Int, CellsAt w36 (Addr.mk b0 0 none) [.int .i64 i37, .int .i64 i38, .int .i64 i39] ∧ (Value.tuple #[.agg #[.int .i64 i37, .int .i64 i38, .int .i64 i39], .int .i64 5] = findV (findS T S hh) ∧ Ext w w36) := fun hn => by
    refine give3 hb0'' fun w36 hb36 hm36 _ => ⟨_, _, _, cells3 hb36, ?_, hE35.new hm36 (fun k hk => by omega)⟩
    rw [hn]
    rfl
  rcases hcase with ⟨hk, rfl, rfl, rfl, rfl, rfl⟩ | ⟨hk, rfl⟩
  case inr =>
    refine ifB_true rfl ⟨by trivial, by trivial, by trivial, bad ?_⟩
    rw [findS, if_neg (fun x => hk x.1)]
  refine ifB_false rfl ⟨by trivial, by trivial, ?_⟩
  cases hS : S (Hd.uS hh) with
  | none =>
    refine ifB_true rfl ⟨by trivial, by trivial, bad ?_⟩
    rw [findS, hS]
    split <;> rfl
  | some sl =>
    refine ifB_false rfl ⟨_, dcell hk35 rfl, _, dcell h35.head rfl, by trivial, ?_⟩
    by_cases hT : Hd.uT hh = T
    case neg =>
      refine ifB_true (by simpa using hT) ⟨by trivial, bad ?_⟩
      rw [findS, if_neg (fun x => hT x.2)]
    refine ifB_false (by simpa using hT) ?_
    rw [hS] at hb35
    refine ⟨_, _, cells2 hb35, _, dcell hk35 rfl, _, dcell hk35 rfl, by trivial, _, w35, run_good_neq w35 _ _ _ _, by trivial, by trivial, ?_⟩
    by_cases hg : sl.1 = Hd.uR hh ∧ sl.2.1 = Hd.uN hh
    · refine ifB_false ?_ ⟨_, _, _, cells3 hb35, ?_⟩
      · show (!(sl.1 == Hd.uR hh && (sl.2.1 == Hd.uN hh && true))) = false
        rw [hg.1, hg.2]; simp
      · refine give3 hb0'' fun w36 hb36 hm36 _ => ⟨_, _, _, cells3 hb36, ?_, hE35.new hm36 (fun k hk => by omega)⟩
        rw [findS, if_pos ⟨hk, hT⟩, hS]
        simp only [if_pos hg]
        rfl
    · refine ifB_true ?_ (bad ?_)
      · show (!(sl.1 == Hd.uR hh && (sl.2.1 == Hd.uN hh && true))) = true
        rw [Bool.not_eq_true', Bool.eq_false_iff]
        intro q
        simp at q
        exact hg q
      · rw [findS, if_pos ⟨hk, hT⟩, hS]
        simp only [if_neg hg]

end

end Go.Proofs.YtkbgiflmecaffaaDoor
