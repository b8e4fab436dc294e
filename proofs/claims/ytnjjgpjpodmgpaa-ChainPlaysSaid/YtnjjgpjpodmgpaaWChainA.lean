/- Statements of layer 11 (chain): what is owned; awake; ChainNil, ChainOwn. Conditions: the arguments' cells are there. -/
import Derived.Test.YtnjjgpjpodmgpaaChain2
import Derived.Test.YtnjjgpjpodmgpaaSpanSame
import Derived.Test.YtnjjgpjpodmgpaaVcL
set_option linter.unusedVariables false
set_option linter.unusedSimpArgs false
namespace Go.Proofs.Ytnjjgpjpodmgpaa
open Go.RowKit

/-- A chain and its arena, made behind world w0; blocks of K are kept apart from both. -/
structure CWf (w0 w : World) (K : Nat → Prop) (TA TC : TypeId) (p cb : Nat) (F : Nat → Prop) (bs : List UInt8) (ts : List Tch) (base unit per : Nat) (head : Int) : Prop where
  ar : Ar w TA p F bs ts
  ch : CH w TC cb p base unit per head
  cfg : CfgC bs.length base unit per head
  nF : ¬ F cb
  new : ∀ j, F j ∨ j = cb → w0.heap.size ≤ j ∧ ¬ K j
  knew : ∀ j, K j → w0.heap.size ≤ j ∧ j < w.heap.size
  ext : Ext w0 w

def CW (w0 w : World) (K : Nat → Prop) (TA TC : TypeId) (p cb : Nat) (bs : List UInt8) (ts : List Tch) (base unit per : Nat) (head : Int) : Prop := ∃ F, CWf w0 w K TA TC p cb F bs ts base unit per head

section
variable {w0 w w' : World} {K K' : Nat → Prop} {TA TC : TypeId} {p cb : Nat} {F : Nat → Prop} {bs : List UInt8} {ts : List Tch} {base unit per : Nat} {head : Int}

theorem pushB_len (g : CfgC bs.length base unit per head) (k : Int) : (pushB bs base unit per head k).length = bs.length := by
  unfold pushB
  split
  · rename_i h
    have := h.1
    have := h.2
    exact putAt_length (by rw [le8_length]; exact (g.at (by omega)).1)
  · rfl

theorem popB_len (g : CfgC bs.length base unit per head) : (popB bs base unit per head).length = bs.length := by
  have := g.h1
  unfold popB
  split
  · rfl
  split
  · rfl
  · exact putAt_length (by rw [le8_length]; exact (g.at (by omega)).1)

theorem pushH_in (g : CfgC bs.length base unit per head) (k : Int) : -1 ≤ pushH per head k ∧ pushH per head k < per := by
  unfold pushH
  split
  · rename_i h
    have := h.1
    have := h.2
    omega
  · exact ⟨g.h0, g.h1⟩

theorem popH_in (g : CfgC bs.length base unit per head) : -1 ≤ popH bs base unit per head ∧ popH bs base unit per head < per := by
  have := g.h0
  have := g.h1
  unfold popH
  split
  · omega
  split
  · omega
  · omega

theorem CWf.fresh (h : CWf w0 w K TA TC p cb F bs ts base unit per head) {j : Nat} (hj : w.heap.size ≤ j) : ¬ F j ∧ j ≠ cb := by
  have a := h.ar.lt
  have b := lt_of_blk h.ch
  exact ⟨fun x => by have := a j x; omega, by omega⟩

theorem CWf.setK (h : CWf w0 w K TA TC p cb F bs ts base unit per head) (hm : Mod K w w') (hK : ∀ j, K' j → j < w'.heap.size ∧ w0.heap.size ≤ j ∧ ¬ F j ∧ j ≠ cb) : CWf w0 w' K' TA TC p cb F bs ts base unit per head :=
  ⟨h.ar.keep hm (fun j hj => (h.new j (.inl hj)).2), h.ch.keep hm (fun hc => (h.new cb (.inr rfl)).2 hc), h.cfg, h.nF, fun j hj => ⟨(h.new j hj).1, fun x => by
    obtain ⟨_, _, a, b⟩ := hK j x
    exact hj.elim a b⟩, fun j hj => ⟨(hK j hj).2.1, (hK j hj).1⟩, h.ext.new hm (fun j hj => (h.knew j hj).1)⟩

theorem CWf.keep (h : CWf w0 w K TA TC p cb F bs ts base unit per head) (hm : Mod K w w') : CWf w0 w' K TA TC p cb F bs ts base unit per head :=
  h.setK hm fun j hj => ⟨Nat.lt_of_lt_of_le (h.knew j hj).2 hm.size, (h.knew j hj).1, fun x => (h.new j (.inl x)).2 hj, fun e => (h.new j (.inr e)).2 hj⟩

theorem CW.keep (h : CW w0 w K TA TC p cb bs ts base unit per head) (hm : Mod K w w') : CW w0 w' K TA TC p cb bs ts base unit per head := by
  obtain ⟨F, h⟩ := h
  exact ⟨F, h.keep hm⟩

theorem CW.ext (h : CW w0 w K TA TC p cb bs ts base unit per head) : Ext w0 w := by
  obtain ⟨F, h⟩ := h
  exact h.ext

theorem CW.cfg (h : CW w0 w K TA TC p cb bs ts base unit per head) : CfgC bs.length base unit per head := by
  obtain ⟨F, h⟩ := h
  exact h.cfg

/-- Behind a call of the chain. -/
theorem CWf.cpost (h : CWf w0 w K TA TC p cb F bs ts base unit per head) {bs' : List UInt8} {ts' : List Tch} {base' : Nat} {head' : Int} (hp : CPost w TA TC p cb F bs' ts' base' unit per head' w') (g : CfgC bs'.length base' unit per head') :
    CW w0 w' K TA TC p cb bs' ts' base' unit per head' ∧ Mod (fun j => ¬ K j) w w' := by
  obtain ⟨F', h1, c1, hm, hF⟩ := hp
  have hlt := lt_of_blk h.ch
  refine ⟨⟨F', h1, c1, g, fun x => (hF cb x).elim h.nF (fun y => by omega), fun j hj => ?_, fun j hj => ⟨(h.knew j hj).1, Nat.lt_of_lt_of_le (h.knew j hj).2 hm.size⟩, h.ext.new hm (fun j hj => (h.new j hj).1)⟩, hm.mono fun j hj => (h.new j hj).2⟩
  rcases hj with hj | hj
  · rcases hF j hj with x | x
    · exact h.new j (.inl x)
    · exact ⟨Nat.le_trans h.ext.size x, fun y => by have := (h.knew j y).2; omega⟩
  · exact h.new j (.inr hj)

/-- Behind a call of the arena. -/
theorem CWf.apost (h : CWf w0 w K TA TC p cb F bs ts base unit per head) {bs' : List UInt8} {ts' : List Tch} (hp : Post w TA p F bs' ts' w') (hl : bs'.length = bs.length) :
    CW w0 w' K TA TC p cb bs' ts' base unit per head ∧ Mod (fun j => ¬ K j) w w' := by
  obtain ⟨F', h1, hm, hF⟩ := hp
  exact h.cpost ⟨F', h1, h.ch.keep hm h.nF, hm.mono fun j hj => .inl hj, hF⟩ (by rw [hl]; exact h.cfg)

theorem CW.push (h : CW w0 w K TA TC p cb bs ts base unit per head) (hl : ts.length < 549755813000) (k : Int) {Q : Value → World → Prop}
    (q : ∀ w', CW w0 w' K TA TC p cb (pushB bs base unit per head k) (pushT ts base unit per k) base unit per (pushH per head k) → Mod (fun j => ¬ K j) w w' → Q (.int .i64 (pushE per k)) w') :
    CallS Try.prog 16 #[.pointer (some ⟨cb, 0, none⟩), .int .i64 k] w Q := by
  obtain ⟨F, h⟩ := h
  refine .of (push_any h.ar h.ch h.cfg h.nF (by omega) k) ?_
  rintro r w1 ⟨rfl, hp⟩
  obtain ⟨a, b⟩ := h.cpost hp ((show CfgC _ base unit per head by rw [pushB_len h.cfg]; exact h.cfg).head (pushH_in h.cfg k).1 (pushH_in h.cfg k).2)
  exact q w1 a b

theorem CW.pop (h : CW w0 w K TA TC p cb bs ts base unit per head) (hl : ts.length < 549755813000) {Q : Value → World → Prop}
    (q : ∀ w', CW w0 w' K TA TC p cb (popB bs base unit per head) (popT bs ts base unit per head) base unit per (popH bs base unit per head) → Mod (fun j => ¬ K j) w w' → Q (.tuple #[.int .i64 (popI bs base unit per head), .int .i64 (popE bs base unit per head)]) w') :
    CallS Try.prog 18 #[.pointer (some ⟨cb, 0, none⟩)] w Q := by
  obtain ⟨F, h⟩ := h
  refine .of (pop_any h.ar h.ch h.cfg h.nF (by omega)) ?_
  rintro r w1 ⟨rfl, hp⟩
  obtain ⟨a, b⟩ := h.cpost hp ((show CfgC _ base unit per head by rw [popB_len h.cfg]; exact h.cfg).head (popH_in h.cfg).1 (popH_in h.cfg).2)
  exact q w1 a b

theorem CW.all (h : CW w0 w K TA TC p cb bs ts base unit per head) (hl : ts.length < 549755813000) {Q : Value → World → Prop}
    (q : ∀ r w' F', CWf w0 w' K TA TC p cb F' bs (ts ++ readT base unit (allR per (lkA bs base unit) per head []).2) base unit per head → Mod (fun j => ¬ K j) w w' → AllRes w w' F' (allR per (lkA bs base unit) per head []).1 r → Q r w') :
    CallS Try.prog 17 #[.pointer (some ⟨cb, 0, none⟩)] w Q := by
  obtain ⟨F, h⟩ := h
  refine .of (all_any h.ar h.ch h.cfg h.nF (by omega)) ?_
  rintro r w1 ⟨F', h1, c1, hm, hF, hr⟩
  have hlt := lt_of_blk h.ch
  refine q r w1 F' ⟨h1, c1, h.cfg, fun x => (hF cb x).elim h.nF (fun y => by omega), fun j hj => ?_, fun j hj => ⟨(h.knew j hj).1, Nat.lt_of_lt_of_le (h.knew j hj).2 hm.size⟩, h.ext.new hm (fun j hj => (h.new j (.inl hj)).1)⟩ (hm.mono fun j hj => (h.new j (.inl hj)).2) hr
  rcases hj with hj | hj
  · rcases hF j hj with x | x
    · exact h.new j (.inl x)
    · exact ⟨Nat.le_trans h.ext.size x, fun y => by have := (h.knew j y).2; omega⟩
  · exact h.new j (.inr hj)

/-- Its list's row, its blocks, and what the chain keeps apart. -/
theorem CWf.rowK (h : CWf w0 w' K TA TC p cb F bs ts base unit per head) {l : List Int} {pp : Option Addr} {c : Nat} (hE : Ext w0 w) (hcb : cb < w.heap.size) (hrow : ORow w' 3 1 intF (.slice pp l.length c) l)
    (hown : ∀ j, (Value.slice pp l.length c).ownBlock = some j → w.heap.size ≤ j ∧ ¬ F j) : CWf w0 w' (fun j => K j ∨ (Value.slice pp l.length c).ownBlock = some j) TA TC p cb F bs ts base unit per head :=
  h.setK (Mod.refl _ _) fun j hj => by
    rcases hj with hj | hj
    · exact ⟨(h.knew j hj).2, (h.knew j hj).1, fun x => (h.new j (.inl x)).2 hj, fun e => (h.new j (.inr e)).2 hj⟩
    · have a := hown j hj
      exact ⟨hrow.lt j hj, Nat.le_trans hE.size a.1, a.2, by omega⟩

theorem CW.empty (h : CW w0 w K TA TC p cb bs ts base unit per head) {Q : Value → World → Prop} (q : Q (.bool (decide (head < 0))) w) :
    CallS Try.prog 21 #[.pointer (some ⟨cb, 0, none⟩)] w Q := by
  obtain ⟨F, h⟩ := h
  refine .of (empty_any h.ch) ?_
  rintro r w1 ⟨rfl, rfl⟩
  exact q

theorem CW.load (h : CW w0 w K 107 TC p cb bs ts base unit per head) (hl : ts.length < 549755813000) {a : Nat} (ha : a + 8 ≤ bs.length) {Q : Value → World → Prop}
    (q : ∀ w', CW w0 w' K 107 TC p cb bs (ts ++ [((a : Int), 8, false)]) base unit per head → Mod (fun j => ¬ K j) w w' → Q (.tuple #[.int .u64 ((leV (seg bs a 8) : Nat) : Int), .int .i64 0]) w') :
    CallS Try.prog 44 #[.pointer (some ⟨p, 0, none⟩), .int .i64 (a : Int)] w Q := by
  obtain ⟨F, h⟩ := h
  refine .of (load_ok h.ar ha (by omega)) ?_
  rintro r w1 ⟨rfl, hp⟩
  obtain ⟨a, b⟩ := h.apost hp rfl
  exact q w1 a b

end

/-- An arena and a chain in it are made. -/
theorem start_any {w : World} {n base unit per : Nat} (g : CfgC n base unit per (-1)) {Q : Option Addr → Int → Option Addr → Int → World → Prop}
    (q : ∀ p cb w', CW w w' (fun _ => False) 107 110 p cb (List.replicate n 0) [] base unit per (-1) → Q (some ⟨p, 0, none⟩) 0 (some ⟨cb, 0, none⟩) 0 w') :
    CallS Try.prog 13 #[.int .i64 (n : Int)] w fun v0 w1 => ∃ p2 : Option Addr, ∃ i3 : Int, v0 = .tuple #[.pointer p2, .int .i64 i3] ∧
      CallS Try.prog 14 #[.pointer p2, .int .i64 (base : Int), .int .i64 (unit : Int), .int .i64 (per : Int)] w1 fun v4 w5 => ∃ p6 : Option Addr, ∃ i7 : Int, v4 = .tuple #[.pointer p6, .int .i64 i7] ∧ Q p2 i3 p6 i7 w5 := by
  have hn := g.n21
  refine .of (new_any _ w) ?_
  rintro r w1 (⟨hno, _⟩ | ⟨_, _, p, F, rfl, h1, hE1, hF⟩)
  · exact absurd ⟨by omega, by omega⟩ hno
  refine ⟨_, _, rfl, .of (cnew_any h1 _ _ _) ?_⟩
  have hl : (List.replicate (n : Int).toNat (0 : UInt8)).length = n := by simp
  rw [hl]
  rintro r w2 (⟨hno, _⟩ | ⟨cb, b', u', r', e1, e2, e3, rfl, hc, g', hE2, hcb⟩)
  · refine absurd ⟨?_, ?_, ?_, ?_, ?_, ?_⟩ hno
    · have := g.u8; omega
    · have := g.u512; omega
    · have := g.p1; omega
    · have := g.p64; omega
    · omega
    · rw [← Int.natCast_mul]
      have := g.fit; omega
  obtain rfl : base = b' := by omega
  obtain rfl : unit = u' := by omega
  obtain rfl : per = r' := by omega
  refine ⟨_, _, rfl, q p cb w2 ⟨F, ?_, hc, by simpa using g, fun x => by have := h1.lt cb x; omega, fun j hj => ⟨?_, fun x => x⟩, fun j hj => hj.elim, hE1.trans hE2⟩⟩
  · have h2 := h1.ext hE2
    rwa [Int.toNat_natCast] at h2
  · rcases hj with hj | rfl
    · exact hF j hj
    · exact Nat.le_trans hE1.size hcb

/-! ### no chain -/

theorem npush_any (k : Int) (w : World) : Calls Try.prog 16 #[.pointer none, .int .i64 k] w (Ret fun r w' => r = .int .i64 11 ∧ w' = w) := by
  refine VC.chain_Chain_Push.ok ?_
  unfold VC.chain_Chain_Push
  exact ⟨fun _ => False, ifB_true rfl ⟨rfl, rfl⟩, fun _ _ h => h.elim⟩

theorem npop_any (w : World) : Calls Try.prog 18 #[.pointer none] w (Ret fun r w' => r = .tuple #[.int .i64 0, .int .i64 11] ∧ w' = w) := by
  refine VC.chain_Chain_Pop.ok ?_
  unfold VC.chain_Chain_Pop
  exact ifB_true rfl ⟨rfl, rfl⟩

theorem nall_any (w : World) : Calls Try.prog 17 #[.pointer none] w (Ret fun r w' => r = .tuple #[.slice none 0 0, .int .i64 11] ∧ w' = w) := by
  refine VC.chain_Chain_All.ok ?_
  unfold VC.chain_Chain_All
  exact ifB_true rfl ⟨rfl, rfl⟩

theorem ntake_any (w : World) : Calls Try.prog 23 #[.pointer none, .pointer none] w (Ret fun r w' => r = .int .i64 11 ∧ w' = w) := by
  refine VC.chain_Chain_Take.ok ?_
  unfold VC.chain_Chain_Take
  exact ifB_true rfl ⟨rfl, rfl⟩

theorem nmove_any (k : Int) (w : World) : Calls Try.prog 25 #[.pointer none, .int .i64 k] w (Ret fun r w' => r = .int .i64 11 ∧ w' = w) := by
  refine VC.chain_Chain_Move.ok ?_
  unfold VC.chain_Chain_Move
  exact ifB_true rfl ⟨rfl, rfl⟩

theorem nempty_any (w : World) : Calls Try.prog 21 #[.pointer none] w (Ret fun r w' => r = .bool true ∧ w' = w) := by
  refine VC.chain_Chain_Empty.ok ?_
  unfold VC.chain_Chain_Empty
  exact ifB_true rfl ⟨rfl, rfl⟩

theorem ncopy_any (w : World) : Calls Try.prog 26 #[.pointer none, .pointer none] w (Ret fun r w' => r = .pointer none ∧ w' = w) := by
  refine VC.chain_Chain_Copy.ok ?_
  unfold VC.chain_Chain_Copy
  exact ifB_true rfl ⟨rfl, rfl⟩

theorem nnew_any (b u r : Int) (w : World) : Calls Try.prog 14 #[.pointer none, .int .i64 b, .int .i64 u, .int .i64 r] w (Ret fun v w' => v = .tuple #[.pointer none, .int .i64 11] ∧ w' = w) := by
  refine VC.chain_New.ok ?_
  unfold VC.chain_New
  exact ⟨fun _ => False, ifB_true rfl ⟨rfl, rfl⟩, fun _ _ h => h.elim⟩

/-! ### answers that the document fixes -/

def ab1 : List UInt8 := pushB (List.replicate 96 0) 32 16 4 (-1) 2
def ab2 : List UInt8 := pushB ab1 32 16 4 2 0

theorem lawake_any (w : World) : Calls Try.prog 15 #[] w (Ret (Yes w)) := by
  refine VC.garthlaw11_awake.ok ?_
  unfold VC.garthlaw11_awake
  refine start_any (n := 96) (base := 32) (unit := 16) (per := 4) ⟨by decide, by decide, by decide, by decide, by decide, by decide, by decide, by decide⟩ fun p cb w1 h1 => ?_
  refine ifB_false rfl (ifB_false rfl (h1.empty ⟨_, rfl, ifB_false rfl ?_⟩))
  refine h1.push (by decide) 2 fun w2 h2 hm2 => ⟨_, rfl, ?_⟩
  have e2 : pushH 4 (-1) 2 = 2 := by decide
  rw [e2] at h2
  change CW w w2 (fun _ => False) _ _ p cb ab1 [(64, 8, true)] 32 16 4 2 at h2
  refine h2.push (by decide) 0 fun w3 h3 hm3 => ⟨_, rfl, ?_⟩
  have e3 : pushH 4 2 0 = 0 := by decide
  rw [e3] at h3
  change CW w w3 (fun _ => False) _ _ p cb ab2 [(64, 8, true), (32, 8, true)] 32 16 4 0 at h3
  have l2 : ab2.length = 96 := by decide +kernel
  refine h3.load (a := 32) (by decide) (by rw [l2]; decide) fun w4 h4 hm4 => ⟨_, _, rfl, ?_⟩
  refine h4.all (by decide) fun r w5 F5 h5 hm5 hr => ?_
  have eall : allR 4 (lkA ab2 32 16) 4 0 [] = (some [0, 2], [0, 2]) := by decide +kernel
  rw [eall] at h5 hr
  obtain ⟨pp, c, rfl, hrow, hown⟩ := hr
  have hcb : cb < w4.heap.size := by
    obtain ⟨_, q⟩ := h4
    exact lt_of_blk q.ch
  have h6 := h5.rowK h4.ext hcb hrow hown
  refine ⟨_, _, _, _, rfl, CW.pop ⟨F5, h6⟩ (by decide) fun w7 h7 hm7 => ⟨_, _, rfl, ?_⟩⟩
  have hrow7 := hrow.keep hm7 fun j hj x => x (.inr hj)
  have l3 : (popB ab2 32 16 4 0).length = 96 := by decide +kernel
  refine h7.load (a := 32) (by decide +kernel) (by rw [l3]; decide) fun w8 h8 hm8 => ⟨_, _, rfl, ?_⟩
  have hrow8 := hrow7.keep hm8 fun j hj x => x (.inr hj)
  have v1 : leV (seg ab2 32 8) = 3 := by decide +kernel
  have v2 : leV (seg (popB ab2 32 16 4 0) 32 8) = 0 := by decide +kernel
  have v3 : popI ab2 32 16 4 0 = 0 := by decide +kernel
  have v4 : popE ab2 32 16 4 0 = 0 := by decide +kernel
  rw [v1, v2, v3, v4]
  refine ifB_true rfl (ifB_true rfl (ifB_true rfl (al_intro fun b w9 hb hE9 _ _ => ?_)))
  have hrow9 := hrow8.keep (Ext.mod (F := fun _ => False) hE9) (fun _ _ x => x)
  refine .of (same08_any (l := [0, 2]) (m := [0, 2]) (pb := some ⟨b, 0, none⟩) (cb := 2) (ORow.rowAt intF_len hrow9) (fun i x hi => ⟨_, rfl, ?_⟩) (by decide)) ?_
  · match i, hi with
    | 0, hi =>
      obtain rfl : (0 : Int) = x := by simpa using hi
      rw [add_mk]
      intro j v hv
      obtain ⟨rfl, rfl⟩ : j = 0 ∧ v = .int .i64 0 := by
        match j, hv with
        | 0, hv => exact ⟨rfl, by simpa using hv.symm⟩
      rw [add_mk]
      exact cell_blk hb rfl
    | 1, hi =>
      obtain rfl : (2 : Int) = x := by simpa using hi
      rw [add_mk]
      intro j v hv
      obtain ⟨rfl, rfl⟩ : j = 0 ∧ v = .int .i64 2 := by
        match j, hv with
        | 0, hv => exact ⟨rfl, by simpa using hv.symm⟩
      rw [add_mk]
      exact cell_blk hb rfl
  rintro r w10 ⟨rfl, hE10⟩
  exact ⟨_, rfl, ifB_true rfl (ifB_true rfl (ifB_true rfl ⟨rfl, (h8.ext.trans hE9).trans hE10⟩))⟩

theorem walk_ChainNil (k : Int) (_ : -9223372036854775808 ≤ k ∧ k ≤ 9223372036854775807) (w : World) : Calls Try.prog 6 #[.int .i64 k] w (Ret (Yes w)) := by
  refine VC.garthlaw11_ChainNil.ok ?_
  unfold VC.garthlaw11_ChainNil
  refine .of (npop_any w) ?_
  rintro r w1 ⟨rfl, rfl⟩
  refine ⟨_, _, rfl, .of (nall_any w1) ?_⟩
  rintro r w2 ⟨rfl, rfl⟩
  refine ⟨_, _, _, _, rfl, .of (nnew_any _ _ _ w2) ?_⟩
  rintro r w3 ⟨rfl, rfl⟩
  refine ⟨_, _, rfl, .of (lawake_any w3) ?_⟩
  rintro r w4 ⟨rfl, hE⟩
  refine ⟨_, rfl, ifB_true rfl (ifB_true rfl (ifB_true rfl (ifB_true rfl (ifB_true rfl (.of (npush_any k w4) ?_)))))⟩
  rintro r w5 ⟨rfl, rfl⟩
  refine ⟨_, rfl, ifB_true rfl (.of (ntake_any w5) ?_)⟩
  rintro r w6 ⟨rfl, rfl⟩
  refine ⟨_, rfl, ifB_true rfl (.of (nmove_any k w6) ?_)⟩
  rintro r w7 ⟨rfl, rfl⟩
  refine ⟨_, rfl, ifB_true rfl (.of (nempty_any w7) ?_)⟩
  rintro r w8 ⟨rfl, rfl⟩
  refine ⟨_, rfl, ifB_true rfl (.of (ncopy_any w8) ?_)⟩
  rintro r w9 ⟨rfl, rfl⟩
  exact ⟨_, rfl, ifB_true rfl (ifB_true rfl ⟨rfl, hE⟩)⟩

end Go.Proofs.Ytnjjgpjpodmgpaa
