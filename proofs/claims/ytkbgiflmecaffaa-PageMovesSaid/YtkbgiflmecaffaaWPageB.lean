/- Statements of layer 12 (page): PageMoves. Conditions: the arguments' cells are there. -/
import Derived.Test.YtkbgiflmecaffaaPageO
import Derived.Test.YtkbgiflmecaffaaVcN
set_option linter.unusedVariables false
set_option linter.unusedSimpArgs false
namespace Go.Proofs.Ytkbgiflmecaffaa
open Go.RowKit

/-- Two new pages in arenas of their own. -/
theorem two_new {w w1 w2 : World} {kind pb ap cb : Nat} {s : St} {FB : Nat → Prop}
    (h1 : PGs w (fun j => FB j) pb ap 0 kind s w1) (hE : Ext w1 w2) (hcb : w1.heap.size ≤ cb) (hcb' : cb < w2.heap.size) :
    ∃ K2 : Nat → Prop, (∀ j, FB j → ¬ K2 j) ∧ (∀ j, K2 j → w.heap.size ≤ j ∧ j < w2.heap.size) ∧ Ext w w2 ∧
      ∀ w3 (qb aq : Nat) t base', PGs w K2 qb aq base' kind t w3 → Ext w2 w3 → Two w (fun j => j = cb) kind pb ap 0 s qb aq base' t w3 := by
  obtain ⟨rc, wc, sb, sg, FA, h, hn, hk, hE1⟩ := h1
  have l1 := h.lt
  have z := hE.size
  have z1 := hE1.size
  refine ⟨fun j => (ownP pb rc wc sb sg j ∨ FA j) ∨ j = cb, fun j hj x => ?_, fun j hj => ?_, hE1.trans hE, ?_⟩
  · rcases x with x | rfl
    · exact (hn j x).2 hj
    · have := (hk j hj).2; omega
  · rcases hj with hj | rfl
    · exact ⟨(hn j hj).1, Nat.lt_of_lt_of_le (l1 j hj) z⟩
    · exact ⟨by omega, hcb'⟩
  · rintro w3 qb aq t base' ⟨rd, wd, tb, tg, GA, g, gn, gk, gE⟩ hE3
    exact ⟨rc, wc, sb, sg, FA, rd, wd, tb, tg, GA, h.keep (hE.trans hE3) (fun _ _ x => x), g, fun j hj => ⟨(hn j hj).1, fun e => by have := l1 j hj; omega, fun x => (gn j x).2 (.inl hj)⟩,
      fun j hj => ⟨(gn j hj).1, fun e => (gn j hj).2 (.inr e)⟩, fun j e => ⟨by omega, Nat.lt_of_lt_of_le (by omega) hE3.size⟩, gE⟩

theorem tail_bytes {b post : List UInt8} (hb : b.length = 512) (hp : post.length = 512) : putAt (putAt ([] ++ b ++ post) 512 (seg ([] ++ b ++ post) 0 512)) 0 (List.replicate 512 0) = List.replicate 512 0 ++ b ++ [] := by
  have e1 : seg ([] ++ b ++ post) 0 512 = b := by rw [seg_zero, List.nil_append, List.take_append_of_le_length (by omega), List.take_of_length_le (by omega)]
  have e2 : putAt ([] ++ b ++ post) 512 b = b ++ b := by
    unfold putAt
    rw [List.nil_append, List.take_append_of_le_length (by omega), List.take_of_length_le (by omega), List.drop_eq_nil_of_le (by simp; omega), List.append_nil]
  rw [e1, e2]
  unfold putAt
  rw [List.length_replicate, List.take_zero, List.nil_append, Nat.zero_add, List.drop_append_of_le_length (by omega), List.drop_eq_nil_of_le (by omega), List.nil_append, List.append_nil]

abbrev OpsSh : Sh := .row 2 16 (.pair (.int .i64) (.pair (.int .i64) .unit))
abbrev opF (x : Int × Int × Unit) : Int × Int := (x.1, x.2.1)
theorem ops_row {w : World} {x : OpsSh.T} (h : OpsSh.Ok w x) : RowAt w x.1.1 2 (fun y : Int × Int × Unit => [.int .i64 (opF y).1, .int .i64 (opF y).2]) x.2 := fun i y hi => (h.2.2.2 i y hi).1

/-- What is done behind the two pages' making. -/
def Behind (kind : Nat) (l l2 : List (Int × Int × Unit)) (w : World) (pb ap qb aq cb cq : Nat) (w1 : World) : Prop :=
  ∃ s t Tc, Two w (fun j => j = cb ∨ j = cq) kind pb ap 0 s qb aq 0 t w1 ∧ Alike 0 [] (List.replicate 512 0) s t ∧ w1.heap[cb]? = some (.cells #[.pointer (some ⟨pb, 0, none⟩)] Tc (0, 0)) ∧
    w1.heap[cq]? = some (.cells #[.pointer (some ⟨qb, 0, none⟩)] Tc (0, 0)) ∧ s.ts = [] ∧ t.ts = [] ∧ t.bs.length = 512

theorem rep1024 : List.replicate (Int.toNat 1024) (0 : UInt8) = [] ++ List.replicate (Int.toNat 512) 0 ++ List.replicate 512 0 := by
  rw [List.nil_append, show Int.toNat 1024 = 1024 from rfl, show Int.toNat 512 = 512 from rfl, List.replicate_append_replicate]

set_option maxRecDepth 20000 in
theorem walk_PageMoves (w : World) (x0 : Int) (_ : -9223372036854775808 ≤ x0 ∧ x0 ≤ 9223372036854775807) (x : OpsSh.T) (ok : OpsSh.Ok w x) (y : OpsSh.T) (oky : OpsSh.Ok w y) :
    Calls Try.prog 5 #[.int .i64 x0, OpsSh.val x, OpsSh.val y] w (Ret (Yes w)) := by
  have hrow := ops_row ok
  have hrow2 := ops_row oky
  obtain ⟨⟨pa, cap⟩, l⟩ := x
  obtain ⟨⟨pa2, cap2⟩, l2⟩ := y
  obtain ⟨kind, hk, hk8⟩ := size_mod x0 8 (by decide) (by decide)
  have hk : IntKind.i64.wrap ((IntKind.u64.wrap x0).tmod 8) = (kind : Int) := hk
  refine VC.garthlaw12_PageMoves.ok ?_
  unfold VC.garthlaw12_PageMoves
  rw [hk]
  refine ⟨by decide, .of (new_any 1024 w) ?_⟩
  rintro v w1 (⟨q, _, _⟩ | ⟨_, _, ap, FA, rfl, hA, hE1, hF⟩)
  · exact absurd ⟨by omega, by omega⟩ q
  refine ⟨_, _, rfl, .of (new_any 512 w1) ?_⟩
  rintro v w2 (⟨q, _, _⟩ | ⟨_, _, aq, GA, rfl, hB, hE2, hG⟩)
  · exact absurd ⟨by omega, by omega⟩ q
  refine ⟨_, _, rfl, pnew_any (w0 := w) (K := GA) (hA.ext hE2) (fun j hj => ⟨hF j hj, fun x => by have := hA.lt j hj; have := hG j x; omega⟩) (fun j hj => ⟨by have := hG j hj; have := hE1.size; omega, hB.lt j hj⟩) (hE1.trans hE2) 0 kind (fun q => absurd ⟨⟨by omega, by omega⟩, by decide, by decide +kernel, by rw [List.length_replicate]; decide⟩ q) ?_⟩
  intro base kind' pb w3 e1 _ e2 _ _ h3 hE3
  have e1 : kind' = kind := by omega
  have e2 : base = 0 := by omega
  subst e1 e2
  refine ⟨_, _, rfl, al_intro fun cb w4 hc4 hE4 hs4 hs4' => wr_intro (n := 1) hc4 (by simp) fun w5 hc5 hm5 hs5 => ?_⟩
  have hE35 : Ext w3 w5 := hE4.new hm5 (fun k hk => by subst hk; omega)
  obtain ⟨K2, hK2, hK2', hE05, fin⟩ := two_new h3 hE35 (cb := cb) (by omega) (by omega)
  refine ⟨fun pq w8 => ∃ qb cq, pq = some ⟨cq, 0, none⟩ ∧ Behind kind' l l2 w pb ap qb aq cb cq w8, pnew_any (w0 := w) (K := K2) ((hB.ext hE3).ext hE35) (fun j hj => ⟨by have := hG j hj; have := hE1.size; omega, hK2 j hj⟩) hK2' hE05 0 kind' (fun q => absurd ⟨⟨by omega, by omega⟩, by decide, by decide +kernel, by rw [List.length_replicate]; decide⟩ q) ?_, ?_⟩
  · intro base2 kind2 qb w6 e1 _ e2 _ _ h6 hE6
    have e1 : kind2 = kind' := by omega
    have e2 : base2 = 0 := by omega
    subst e1 e2
    refine ⟨_, _, rfl, al_intro fun cq w7 hc7 hE7 hs7 hs7' => wr_intro (n := 1) hc7 (by simp) fun w8 hc8 hm8 hs8 => ?_⟩
    have hE68 : Ext w6 w8 := hE7.new hm8 (fun k hk => by subst hk; omega)
    have h8 := (fin w6 qb aq _ _ h6 hE6).grow hE68 (b := cq) (by omega) (by omega)
    exact ⟨qb, cq, rfl, _, _, _, h8, ⟨rep1024, rfl, rfl, rfl, rfl, rfl⟩, hE68.keep (hE6.keep hc5), hc8, rfl, rfl, List.length_replicate⟩
  rintro jv pq w9 ⟨qb, cq, rfl, s, t, Tc, h, hA9, hcb, hcq, hs, ht, hlen⟩
  refine ⟨fun w10 => l.length ≤ 200 ∧ l2.length ≤ 200 ∧ Behind kind' l l2 w pb ap qb aq cb cq w10, awake_any w9 fun w10 hE10 => ⟨_, rfl, ifB_false rfl (ifB_false rfl ?_)⟩, ?_⟩
  · have h10 := h.mod hE10.mod
    have done : ∀ {R : Value → World → Prop}, (∀ w', Ext w w' → R (.bool true) w') → CallS Try.prog 9 #[] w10 R := fun r => awake_any w10 fun w11 hE11 => r w11 (h10.ext.trans hE11)
    refine ifD (fun _ => done fun w11 hE11 => ⟨_, rfl, ifB_true rfl ⟨rfl, hE11⟩⟩) (fun q1 => ifD (fun _ => done fun w11 hE11 => ⟨_, rfl, ifB_true rfl ⟨rfl, hE11⟩⟩) (fun q2 => ⟨?_, ?_, s, t, Tc, h10, hA9, hE10.keep hcb, hE10.keep hcq, hs, ht, hlen⟩))
    · have q1 : ¬ (l.length : Int) > 200 := q1
      omega
    · have q2 : ¬ (l2.length : Int) > 200 := q2
      omega
  rintro jv w11 ⟨hl1, hl2, s, t, Tc, h, hA, hcb, hcq, hs, ht, hlen⟩
  refine play_any hrow hl1 h hA (.inl rfl) (.inr rfl) hcb hcq (by rw [hs]; exact Nat.zero_le _) (by rw [ht]; exact Nat.zero_le _) fun w12 s1 t1 h1 hA1 hcb1 hcq1 hs1 ht1 hlen1 => ⟨_, rfl, ifB_false rfl ?_⟩
  rw [hs, List.length_nil] at hs1
  rw [ht, List.length_nil] at ht1
  have hs1 : s1.ts.length ≤ 0 + 2 * l.length := hs1
  have ht1 : t1.ts.length ≤ 0 + 2 * l.length := ht1
  have hb : t1.bs.length = 512 := hlen1.trans hlen
  have hsb : s1.bs.length = 1024 := by rw [hA1.bs, List.length_append, List.length_append, hb, List.length_replicate]; rfl
  have ok1 : OkA s1.bs.length 512 512 ∧ OkA s1.bs.length 0 512 := by rw [hsb]; decide
  refine h1.arenaC (P := fun v => v = .int .i64 0) (bs' := putAt s1.bs 512 (seg s1.bs 0 512)) (ts' := noteA (noteA s1.ts 0 512 false) 512 512 true) (putAt_length (by rw [seg_length (by omega)]; omega)) (fun FA a => by
    have := copy_any a 512 0 512 (by omega)
    rw [if_pos ok1, if_pos ok1, if_pos ok1] at this
    exact this) ?_
  rintro v w13 rfl h2 m2
  refine ⟨_, rfl, ?_⟩
  have bsl : (putAt s1.bs 512 (seg s1.bs 0 512)).length = 1024 := by rw [putAt_length (by rw [seg_length (by omega)]; omega), hsb]
  have tsl : (noteA (noteA s1.ts 0 512 false) 512 512 true).length ≤ 500 := by
    have e1 := noteA_len (noteA s1.ts 0 512 false) 512 512 true
    have e2 := noteA_len s1.ts 0 512 false
    omega
  have ok2 : OkA (putAt s1.bs 512 (seg s1.bs 0 512)).length 0 512 := by rw [bsl]; decide
  refine h2.arenaC (P := fun v => v = .int .i64 0) (bs' := putAt (putAt s1.bs 512 (seg s1.bs 0 512)) 0 (List.replicate 512 0)) (ts' := noteA (noteA (noteA s1.ts 0 512 false) 512 512 true) 0 512 true) (putAt_length (by rw [List.length_replicate]; show 0 + 512 ≤ (putAt s1.bs 512 (seg s1.bs 0 512)).length; omega)) (fun FA a => by
    have := zero_any a 0 512 (by show (noteA (noteA s1.ts 0 512 false) 512 512 true).length < _; omega)
    rw [if_pos ok2, if_pos ok2, if_pos ok2] at this
    exact this) ?_
  rintro v w14 rfl h3 m3
  have hcb3 := m3.keep (m2.keep hcb1 (fun q => q (.inl rfl))) (fun q => q (.inl rfl))
  have hcq3 := m3.keep (m2.keep hcq1 (fun q => q (.inr rfl))) (fun q => q (.inr rfl))
  have bsl2 : (putAt (putAt s1.bs 512 (seg s1.bs 0 512)) 0 (List.replicate 512 0)).length = 1024 := by rw [putAt_length (by rw [List.length_replicate]; omega), bsl]
  have tsl2 : (noteA (noteA (noteA s1.ts 0 512 false) 512 512 true) 0 512 true).length ≤ 600 := by
    have e1 := noteA_len (noteA (noteA s1.ts 0 512 false) 512 512 true) 0 512 true
    omega
  refine ⟨_, rfl, _, cell_blk hcb3 rfl, h3.move1 512 (by decide +kernel) (by show 512 + 512 ≤ (putAt (putAt s1.bs 512 (seg s1.bs 0 512)) 0 (List.replicate 512 0)).length; omega) fun w15 h4 m4 => ⟨_, rfl, ifB_false rfl ?_⟩⟩
  have hA3 : Alike 512 (List.replicate 512 0) [] { s1 with bs := putAt (putAt s1.bs 512 (seg s1.bs 0 512)) 0 (List.replicate 512 0), ts := noteA (noteA (noteA s1.ts 0 512 false) 512 512 true) 0 512 true } t1 :=
    ⟨by show putAt (putAt s1.bs 512 (seg s1.bs 0 512)) 0 (List.replicate 512 0) = _; rw [hA1.bs]; exact tail_bytes hb List.length_replicate, List.length_replicate, hA1.f, hA1.hr, hA1.hw, hA1.hs⟩
  refine play_any hrow2 hl2 h4 hA3 (.inl rfl) (.inr rfl) (m4.keep hcb3 (fun q => q (.inl rfl))) (m4.keep hcq3 (fun q => q (.inr rfl))) (by show (noteA (noteA (noteA s1.ts 0 512 false) 512 512 true) 0 512 true).length ≤ _; omega) (by omega) fun w16 s2 t2 h5 hA5 _ _ hs5 ht5 hlen5 => ⟨_, rfl, ifB_false rfl ?_⟩
  have hb2 : t2.bs.length = 512 := hlen5.trans hb
  have hsb2 : s2.bs.length = 1024 := by rw [hA5.bs, List.length_append, List.length_append, hb2, List.length_replicate]; rfl
  have hs5 : s2.ts.length ≤ (noteA (noteA (noteA s1.ts 0 512 false) 512 512 true) 0 512 true).length + 2 * l2.length := hs5
  have ht5 : t2.ts.length ≤ t1.ts.length + 2 * l2.length := ht5
  have ok3 : OkA s2.bs.length 512 512 := by rw [hsb2]; decide
  have ok4 : OkA t2.bs.length 0 512 := by rw [hb2]; decide
  have ok5 : OkA s2.bs.length 0 512 := by rw [hsb2]; decide
  refine h5.arenaC (P := fun v => v = .tuple #[.string (strOf (seg s2.bs 512 512)), .int .i64 0]) (bs' := s2.bs) (ts' := noteA s2.ts 512 512 false) rfl (fun FA a => by
    have := read_any a 512 512 (by omega)
    rw [if_pos ok3, if_pos ok3, if_pos ok3] at this
    exact this) ?_
  rintro v w17 rfl h6 m6
  refine ⟨_, _, rfl, h6.flip.arenaC (P := fun v => v = .tuple #[.string (strOf (seg t2.bs 0 512)), .int .i64 0]) (bs' := t2.bs) (ts' := noteA t2.ts 0 512 false) rfl (fun FA a => by
    have := read_any a 0 512 (by omega)
    rw [if_pos ok4, if_pos ok4, if_pos ok4] at this
    exact this) ?_⟩
  rintro v w18 rfl h7 m7
  refine ⟨_, _, rfl, h7.flip.arenaC (P := fun v => v = .tuple #[.string (strOf (seg s2.bs 0 512)), .int .i64 0]) (bs' := s2.bs) (ts' := noteA (noteA s2.ts 512 512 false) 0 512 false) rfl (fun FA a => by
    have := read_any a 0 512 (by have := noteA_len s2.ts 512 512 false; show (noteA s2.ts 512 512 false).length < _; omega)
    rw [if_pos ok5, if_pos ok5, if_pos ok5] at this
    exact this) ?_⟩
  rintro v w19 rfl h8 m8
  have e1 : seg s2.bs 512 512 = seg t2.bs 0 512 := by
    have := seg_mid (List.replicate 512 0) t2.bs [] (a := 0) (n := 512) (by omega)
    rw [← hA5.bs, List.length_replicate] at this
    exact this
  have e2 : seg s2.bs 0 512 = List.replicate 512 0 := by
    rw [hA5.bs, seg_zero, List.append_assoc, List.take_append_of_le_length (by rw [List.length_replicate]; exact Nat.le_refl _), List.take_of_length_le (by rw [List.length_replicate]; exact Nat.le_refl _)]
  refine ⟨_, _, rfl, ifB_true (decide_eq_true (congrArg strOf e1)) ⟨by decide, by decide, by decide, by decide, made_str 512 fun w20 hE20 => ⟨dec_true ?_, h8.ext.trans hE20⟩⟩⟩
  rw [e2]
  rfl

end Go.Proofs.Ytkbgiflmecaffaa
