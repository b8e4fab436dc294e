/- Statements of layer 1 about scripts: ArenaNil, ArenaPlays. Conditions: the script's cells are there. -/
import Derived.Test.YtlfmkdndioegmaaArena4
import Derived.Test.YtlfmkdndioegmaaGwRead
set_option linter.unusedVariables false
set_option linter.unusedSimpArgs false
namespace Go.Proofs.Ytlfmkdndioegmaa
open Go.RowKit

/-- An Op of garthlaw01. -/
abbrev OpS : Sh := .pair (.int .i64) (.pair (.int .i64) (.pair (.int .i64) (.pair (.int .i64) (.pair (.int .u64) (.pair .str .unit)))))
abbrev opV (k a b c v : Int) (s : ByteArray) : List Value := [.int .i64 k, .int .i64 a, .int .i64 b, .int .i64 c, .int .u64 v, .string s]

/-- A row of Ops. -/
def Ops (w : World) (p : Option Addr) (l : List (Int × Int × Int × Int × Int × ByteArray)) : Prop :=
  ∀ i k a b c v s, l[i]? = some (k, a, b, c, v, s) → (∃ x, p = some x ∧ CellsAt w (x.add (i * 6)) (opV k a b c v s)) ∧ 0 ≤ v ∧ v < 18446744073709551616

theorem CellsAt.ext {w w' : World} {a : Addr} {vs : List Value} (h : CellsAt w a vs) (hE : Ext w w') : CellsAt w' a vs := by
  intro j v hj
  have hc := h j v hj
  have hlt := World.block_lt_of_cell? w _ hc
  rw [World.cell?_of_block (hE.block _ hlt (fun x => x))]
  exact hc

theorem Ops.ext {w w' : World} {p : Option Addr} {l : List (Int × Int × Int × Int × Int × ByteArray)} (h : Ops w p l) (hE : Ext w w') : Ops w' p l := by
  intro i k a b c v s hi
  obtain ⟨⟨x, hx, hc⟩, hv⟩ := h i k a b c v s hi
  exact ⟨⟨x, hx, hc.ext hE⟩, hv⟩

theorem min_le_run (w : World) (s : Nat) : ∃ m : Int, (Builtin.min_ #[3, 3] 3 #[.int .i64 (s : Int), .int .i64 1048576]).run Try.prog w = .ok (.int .i64 m) w ∧ 0 ≤ m ∧ m ≤ 1048576 := by
  refine ⟨_, run_min_int2 _ _ _ _ _ _ _, ?_⟩
  split <;> omega

theorem great_any {w : World} {p : Option Addr} {l : List (Int × Int × Int × Int × Int × ByteArray)} {n c : Nat} (h : Ops w p l) (hn : n = l.length) (hm : n ≤ maxLen) :
    Calls Try.prog 33 #[.slice p n c] w (Ret fun r w' => ∃ b, r = .bool b ∧ (b = false → n ≤ 500) ∧ Ext w w') := by
  simp only [maxLen] at hm
  refine VC.garthlaw01_great.ok ?_
  unfold VC.garthlaw01_great
  refine ⟨fun m s i w1 => ∃ j : Nat, i = j ∧ m + j = n ∧ 0 ≤ s ∧ s ≤ 16384 ∧ Ext w w1, ⟨n, 0, rfl, rfl, by omega, by omega, Mod.refl _ _⟩, ?_⟩
  rintro m jv s _ w1 ⟨j, rfl, hm, hs0, hs1, hE⟩
  refine ifD (fun hj => ?_) (fun hj => ⟨_, rfl, fun hb => ?_, hE⟩)
  · obtain ⟨⟨k, a, b, cc, v, d⟩, ho⟩ : ∃ o, l[j]? = some o := ⟨_, List.getElem?_eq_getElem (by omega)⟩
    obtain ⟨⟨x, rfl, hc⟩, _⟩ := (h.ext hE) j _ _ _ _ _ _ ho
    refine ⟨by omega, by omega, _, _, _, _, _, _, hc, al_intro fun g w2 hg hE2 _ _ => ?_⟩
    refine wr_intro (n := 6) hg (by simp) fun w3 h3 hm3 _ => ?_
    have hE3 : Ext w1 w3 := Ext.new hE2 hm3 (fun k hk => by subst hk; exact Nat.le_of_eq (by assumption))
    obtain ⟨mn, hmr, hm0, hm1⟩ := min_le_run w3 d.size
    refine ⟨d, ?_, mn, w3, hmr, ?_⟩
    · rw [add_mk]
      exact cell_blk h3 rfl
    · rw [wrap_i64 (n := 1 + mn) (by omega) (by omega), wrap_i64 (n := s + (1 + mn)) (by omega) (by omega)]
      refine ifD (fun _ => ⟨_, rfl, (fun e => by cases e), hE.trans hE3⟩) (fun _ => ⟨m - 1, by omega, j + 1, ?_, by omega, by omega, by omega, hE.trans hE3⟩)
      rw [wrap_i64 (by omega) (by omega)]; omega
  · have := of_decide_eq_false hb
    omega

/-! ### no arena -/

section
variable (w : World)

theorem has_nil (a k : Int) : Calls Try.prog 38 #[.pointer none, .int .i64 a, .int .i64 k] w (Ret fun r w' => r = .int .i64 11 ∧ w' = w) := by
  refine VC.arena_Arena_has.ok ?_
  unfold VC.arena_Arena_has
  exact ifB_true rfl ⟨rfl, rfl⟩

theorem load_nil (a : Int) : Calls Try.prog 24 #[.pointer none, .int .i64 a] w (Ret fun r w' => r = .tuple #[.int .u64 0, .int .i64 11] ∧ w' = w) := by
  refine VC.arena_Arena_Load.ok ?_
  unfold VC.arena_Arena_Load
  refine .of (has_nil w a 8) ?_
  rintro r w1 ⟨rfl, rfl⟩
  exact ⟨_, rfl, ifB_true rfl ⟨rfl, rfl⟩⟩

theorem store_nil (a x : Int) : Calls Try.prog 23 #[.pointer none, .int .i64 a, .int .u64 x] w (Ret fun r w' => r = .int .i64 11 ∧ w' = w) := by
  refine VC.arena_Arena_Store.ok ?_
  unfold VC.arena_Arena_Store
  refine .of (has_nil w a 8) ?_
  rintro r w1 ⟨rfl, rfl⟩
  exact ⟨_, rfl, ifB_true rfl ⟨rfl, rfl⟩⟩

theorem read_nil (a k : Int) : Calls Try.prog 25 #[.pointer none, .int .i64 a, .int .i64 k] w (Ret fun r w' => r = .tuple #[.string (ByteArray.mk #[]), .int .i64 11] ∧ w' = w) := by
  refine VC.arena_Arena_Read.ok ?_
  unfold VC.arena_Arena_Read
  refine .of (has_nil w a k) ?_
  rintro r w1 ⟨rfl, rfl⟩
  exact ⟨_, rfl, ifB_true rfl ⟨rfl, rfl⟩⟩

theorem write_nil (a : Int) (s : ByteArray) : Calls Try.prog 26 #[.pointer none, .int .i64 a, .string s] w (Ret fun r w' => r = .int .i64 11 ∧ w' = w) := by
  refine VC.arena_Arena_Write.ok ?_
  unfold VC.arena_Arena_Write
  refine .of (has_nil w a s.size) ?_
  rintro r w1 ⟨rfl, rfl⟩
  exact ⟨_, rfl, ifB_false rfl ⟨rfl, rfl⟩⟩

theorem zero_nil (a k : Int) : Calls Try.prog 27 #[.pointer none, .int .i64 a, .int .i64 k] w (Ret fun r w' => r = .int .i64 11 ∧ w' = w) := by
  refine VC.arena_Arena_Zero.ok ?_
  unfold VC.arena_Arena_Zero
  refine .of (has_nil w a k) ?_
  rintro r w1 ⟨rfl, rfl⟩
  exact ⟨_, rfl, ifB_false rfl ⟨rfl, rfl⟩⟩

theorem copy_nil (t a k : Int) : Calls Try.prog 31 #[.pointer none, .int .i64 t, .int .i64 a, .int .i64 k] w (Ret fun r w' => r = .int .i64 11 ∧ w' = w) := by
  refine VC.arena_Arena_Copy.ok ?_
  unfold VC.arena_Arena_Copy
  refine .of (has_nil w t k) ?_
  rintro r w1 ⟨rfl, rfl⟩
  exact ⟨_, rfl, ifB_true rfl ⟨rfl, rfl⟩⟩

theorem forget_nil : Calls Try.prog 30 #[.pointer none] w (Ret fun r w' => r = .tuple #[] ∧ w' = w) := by
  refine VC.arena_Arena_Forget.ok ?_
  unfold VC.arena_Arena_Forget
  exact ifB_false rfl ⟨rfl, rfl⟩

theorem size_nil : Calls Try.prog 35 #[.pointer none] w (Ret fun r w' => r = .int .i64 0 ∧ w' = w) := by
  refine VC.arena_Arena_Size.ok ?_
  unfold VC.arena_Arena_Size
  exact ifB_true rfl ⟨rfl, rfl⟩

theorem touched_nil : Calls Try.prog 29 #[.pointer none] w (Ret fun r w' => r = .slice none 0 0 ∧ w' = w) := by
  refine VC.arena_Arena_Touched.ok ?_
  unfold VC.arena_Arena_Touched
  exact ifB_true rfl ⟨rfl, rfl⟩

end

theorem walk_ArenaNil (w : World) (o : Int × Int × Int × Int × Int × ByteArray × Unit) (ho : OpS.Ok w o) :
    Calls Try.prog 14 #[OpS.val o] w (Ret (Yes w)) := by
  obtain ⟨k, a, b, c, v, s, _⟩ := o
  have hv : 0 ≤ v ∧ v ≤ 18446744073709551615 := u64_of_wf ho.2.2.2.2.1
  refine VC.garthlaw01_ArenaNil.ok ?_
  unfold VC.garthlaw01_ArenaNil
  refine al_intro fun g w1 hg hE1 hs1 _ => ⟨_, _, _, _, _, _, cells_all hg, al_intro fun g2 w2 hg2 hE2 hs2 _ => ?_⟩
  have hops : Ops w2 (some ⟨g2, 0, none⟩) [(k, a, b, c, v, s)] := by
    intro i k' a' b' c' v' s' hi
    cases i with
    | zero =>
      simp only [List.getElem?_cons_zero, Option.some.injEq, Prod.mk.injEq] at hi
      obtain ⟨rfl, rfl, rfl, rfl, rfl, rfl⟩ := hi
      refine ⟨⟨_, rfl, ?_⟩, by omega⟩
      rw [add_mk]
      exact cells_all hg2
    | succ i => simp at hi
  refine .of (great_any (c := 1) hops rfl (by decide)) ?_
  rintro r w3 ⟨q, rfl, hq, hE3⟩
  have hE := (hE1.trans hE2).trans hE3
  refine ⟨_, rfl, ifB_intro (fun _ => ?_) (fun _ => ?_)⟩
  · refine .of (awake_any w3) ?_
    rintro r w4 ⟨rfl, hE4⟩
    exact ⟨_, rfl, rfl, hE.trans hE4⟩
  have hg3 := (hE2.trans hE3).keep hg
  have cell : ∀ w' : World, w'.heap[g]? = some (Obj.cells #[.int .i64 k, .int .i64 a, .int .i64 b, .int .i64 c, .int .u64 v, .string s] 64 (0, 0)) → ∀ (j : Nat) (x : Value), (opV k a b c v s)[j]? = some x → w'.cell? ((Addr.mk g 0 none).add j) = some x := by
    intro w' hw' j x hx
    rw [add_mk, Nat.zero_add]
    exact cell_blk hw' (by simpa using hx)
  refine .of (forget_nil w3) ?_
  rintro r w3 ⟨rfl, rfl⟩
  refine ⟨rfl, a, cell _ hg3 1 _ rfl, .of (load_nil _ a) ?_⟩
  rintro r w3 ⟨rfl, rfl⟩
  refine ⟨_, _, rfl, a, cell _ hg3 1 _ rfl, b, cell _ hg3 2 _ rfl, .of (read_nil _ a b) ?_⟩
  rintro r w3 ⟨rfl, rfl⟩
  refine ⟨_, _, rfl, .of (awake_any _) ?_⟩
  rintro r w4 ⟨rfl, hE4⟩
  have hg4 := hE4.keep hg3
  refine ⟨_, rfl, ifB_true rfl (ifB_true rfl (ifB_true rfl (ifB_true (by decide) (ifB_true rfl ?_))))⟩
  refine ⟨a, cell _ hg4 1 _ rfl, v, cell _ hg4 4 _ rfl, .of (store_nil _ a v) ?_⟩
  rintro r w5 ⟨rfl, rfl⟩
  refine ⟨_, rfl, ifB_true rfl ⟨a, cell _ hg4 1 _ rfl, s, cell _ hg4 5 _ rfl, .of (write_nil _ a s) ?_⟩⟩
  rintro r w5 ⟨rfl, rfl⟩
  refine ⟨_, rfl, ifB_true rfl ⟨a, cell _ hg4 1 _ rfl, b, cell _ hg4 2 _ rfl, .of (zero_nil _ a b) ?_⟩⟩
  rintro r w5 ⟨rfl, rfl⟩
  refine ⟨_, rfl, ifB_true rfl ⟨a, cell _ hg4 1 _ rfl, b, cell _ hg4 2 _ rfl, c, cell _ hg4 3 _ rfl, .of (copy_nil _ a b c) ?_⟩⟩
  rintro r w5 ⟨rfl, rfl⟩
  refine ⟨_, rfl, ifB_true rfl (.of (size_nil _) ?_)⟩
  rintro r w5 ⟨rfl, rfl⟩
  refine ⟨_, rfl, ifB_true rfl (.of (touched_nil _) ?_)⟩
  rintro r w5 ⟨rfl, rfl⟩
  exact ⟨_, _, _, rfl, rfl, hE.trans hE4⟩

/-! ### the arena and its reference side by side -/

structure TwoF (hs : List (Nat × Obj)) (w0 w : World) (p q : Nat) (bs : List UInt8) (ts : List Tch) (cs : List UInt8) (us : List Tch) (F G : Nat → Prop) : Prop where
  a : Ar w 73 p F bs ts
  b : Ar w 67 q G cs us
  apart : ∀ k, F k → ¬ G k
  ext : Ext w0 w
  fa : ∀ k, F k → w0.heap.size ≤ k
  fb : ∀ k, G k → w0.heap.size ≤ k
  held : ∀ x ∈ hs, w.heap[x.1]? = some x.2 ∧ ¬ F x.1 ∧ ¬ G x.1

def Two (hs : List (Nat × Obj)) (w0 w : World) (p q : Nat) (bs : List UInt8) (ts : List Tch) (cs : List UInt8) (us : List Tch) : Prop := ∃ F G, TwoF hs w0 w p q bs ts cs us F G

section
variable {hs : List (Nat × Obj)} {w0 w w' : World} {p q : Nat} {bs bs' cs cs' : List UInt8} {ts ts' us us' : List Tch} {F G : Nat → Prop} {K : Value → World → Prop}

theorem Two.ext (o : Two hs w0 w p q bs ts cs us) : Ext w0 w := by obtain ⟨_, _, o⟩ := o; exact o.ext

theorem Two.keep (o : Two hs w0 w p q bs ts cs us) (h : Ext w w') : Two hs w0 w' p q bs ts cs us := by
  obtain ⟨F, G, o⟩ := o
  exact ⟨F, G, o.a.keep h (fun _ _ x => x), o.b.keep h (fun _ _ x => x), o.apart, o.ext.trans h, o.fa, o.fb, fun x hx => ⟨h.keep (o.held x hx).1, (o.held x hx).2⟩⟩

theorem Two.hold (o : Two [] w0 w p q bs ts cs us) (h : Ext w w') {g : Nat} {b : Obj} (hg : w'.heap[g]? = some b) (hs : w.heap.size = g) : Two [(g, b)] w0 w' p q bs ts cs us := by
  obtain ⟨F, G, o⟩ := o
  have la := o.a.lt
  have lb := o.b.lt
  refine ⟨F, G, o.a.keep h (fun _ _ x => x), o.b.keep h (fun _ _ x => x), o.apart, o.ext.trans h, o.fa, o.fb, fun x hx => ?_⟩
  simp only [List.mem_singleton] at hx
  subst hx
  exact ⟨hg, fun q => by have := la g q; omega, fun q => by have := lb g q; omega⟩

theorem Two.free (o : Two hs w0 w p q bs ts cs us) : Two [] w0 w p q bs ts cs us := by
  obtain ⟨F, G, o⟩ := o
  exact ⟨F, G, o.a, o.b, o.apart, o.ext, o.fa, o.fb, fun x hx => by cases hx⟩

theorem Two.cell {g : Nat} {arr : Array Value} {T : TypeId} (o : Two [(g, .cells arr T (0, 0))] w0 w p q bs ts cs us) {j : Nat} {v : Value} (hv : arr[j]? = some v) : w.cell? ((Addr.mk g 0 none).add j) = some v := by
  obtain ⟨F, G, o⟩ := o
  rw [add_mk, Nat.zero_add]
  exact cell_blk (o.held (g, .cells arr T (0, 0)) (by simp)).1 hv

theorem TwoF.post1 (o : TwoF hs w0 w p q bs ts cs us F G) (hp : Post w 73 p F bs' ts' w') : Two hs w0 w' p q bs' ts' cs us := by
  obtain ⟨F', a', m, f'⟩ := hp
  have lb := o.b.lt
  refine ⟨F', G, a', o.b.keep m (fun k hk hF => o.apart k hF hk), fun k hk hG => ?_, Ext.new o.ext m o.fa, fun k hk => ?_, o.fb, fun x hx => ⟨m.keep (o.held x hx).1 (o.held x hx).2.1, fun hF => ?_, (o.held x hx).2.2⟩⟩
  · rcases f' k hk with q | q
    · exact o.apart k q hG
    · have := lb k hG; omega
  · rcases f' k hk with q | q
    · exact o.fa k q
    · exact Nat.le_trans o.ext.size q
  · rcases f' x.1 hF with q | q
    · exact (o.held x hx).2.1 q
    · have := lt_of_blk (o.held x hx).1; omega

theorem TwoF.post2 (o : TwoF hs w0 w p q bs ts cs us F G) (hp : Post w 67 q G cs' us' w') : Two hs w0 w' p q bs ts cs' us' := by
  obtain ⟨G', b', m, f'⟩ := hp
  have la := o.a.lt
  refine ⟨F, G', o.a.keep m (fun k hk hG => o.apart k hk hG), b', fun k hk hG => ?_, Ext.new o.ext m o.fb, o.fa, fun k hk => ?_, fun x hx => ⟨m.keep (o.held x hx).1 (o.held x hx).2.2, (o.held x hx).2.1, fun hG => ?_⟩⟩
  · rcases f' k hG with q | q
    · exact o.apart k hk q
    · have := la k hk; omega
  · rcases f' k hk with q | q
    · exact o.fb k q
    · exact Nat.le_trans o.ext.size q
  · rcases f' x.1 hG with q | q
    · exact (o.held x hx).2.2 q
    · have := lt_of_blk (o.held x hx).1; omega

theorem Two.call1 {g : FuncId} {args : Array Value} {x : Value} (o : Two hs w0 w p q bs ts cs us)
    (c : ∀ F, Ar w 73 p F bs ts → Calls Try.prog g args w (Ret fun r w' => r = x ∧ Post w 73 p F bs' ts' w')) (k : ∀ w', Two hs w0 w' p q bs' ts' cs us → K x w') : CallS Try.prog g args w K := by
  obtain ⟨F, G, o⟩ := o
  refine .of (c F o.a) ?_
  rintro _ w' ⟨rfl, hp⟩
  exact k w' (o.post1 hp)

theorem Two.call2 {g : FuncId} {args : Array Value} {x : Value} (o : Two hs w0 w p q bs ts cs us)
    (c : ∀ G, Ar w 67 q G cs us → Calls Try.prog g args w (Ret fun r w' => r = x ∧ Post w 67 q G cs' us' w')) (k : ∀ w', Two hs w0 w' p q bs ts cs' us' → K x w') : CallS Try.prog g args w K := by
  obtain ⟨F, G, o⟩ := o
  refine .of (c G o.b) ?_
  rintro _ w' ⟨rfl, hp⟩
  exact k w' (o.post2 hp)

/-- The reference's bytes, and its touches. -/
theorem Two.slot0 (o : Two hs w0 w p q bs ts cs us) : ∃ g, w.cell? ((Addr.mk q 0 none).add 0) = some (.slice (some ⟨g, 0, none⟩) cs.length cs.length) ∧ BytesAt w (some ⟨g, 0, none⟩) cs := by
  obtain ⟨F, G, o⟩ := o
  obtain ⟨gb, v, h, _⟩ := o.b
  refine ⟨gb, h.slot0, fun j b hj => ⟨_, rfl, ?_⟩⟩
  rw [add_mk, Nat.zero_add]
  exact h.byteAt hj

theorem Two.slot1 (o : Two hs w0 w p q bs ts cs us) : ∃ a c, w.cell? ((Addr.mk q 0 none).add 1) = some (.slice a us.length c) ∧ TRow w (.slice a us.length c) us := by
  obtain ⟨F, G, o⟩ := o
  obtain ⟨gb, v, h, _⟩ := o.b
  obtain ⟨a, c, rfl⟩ := h.row.shape
  exact ⟨a, c, h.slot1, h.row⟩

theorem iteLen {c : Prop} [Decidable c] {a : Nat} {l : List UInt8} (h : c → a + l.length ≤ bs.length) : (if c then putAt bs a l else bs).length = bs.length := by
  split
  · rename_i hc
    exact putAt_length (h hc)
  · rfl

/-- After an op: both have the same bytes and touches. -/
def Even (w0 w : World) (p q : Nat) (n m : Nat) (r : Value) : Prop := r = .bool true ∧ ∃ bs ts, Two [] w0 w p q bs ts bs ts ∧ bs.length = n ∧ ts.length ≤ m

theorem even_of {n m : Nat} {r : Value} (o : Two hs w0 w p q bs ts bs ts) (hr : r = .bool true) (hn : bs.length = n) (hm : ts.length ≤ m) : Even w0 w p q n m r := ⟨hr, bs, ts, o.free, hn, hm⟩

set_option maxHeartbeats 2000000 in
theorem done_any (o : Two [] w0 w p q bs ts bs ts) (hl : ts.length < 1099511627770) (k a b c v : Int) (s : ByteArray) (hv0 : 0 ≤ v) (hv : v < 18446744073709551616) :
    Calls Try.prog 34 #[.pointer (some ⟨p, 0, none⟩), .pointer (some ⟨q, 0, none⟩), .agg #[.int .i64 k, .int .i64 a, .int .i64 b, .int .i64 c, .int .u64 v, .string s]] w
      (Ret fun r w' => Even w0 w' p q bs.length (ts.length + 2) r) := by
  refine VC.garthlaw01_done.ok ?_
  unfold VC.garthlaw01_done
  refine al_intro fun g w1 hg hE hs hs1 => ?_
  have o1 := o.hold hE hg hs
  have two := fun (c : Prop) [Decidable c] (x y : Int) (z : Bool) => @iteN ts c _ x y z
  have refl : ∀ x : Int, Value.bool (x == x) = Value.bool true := fun x => by simp
  refine ⟨k, o1.cell rfl, ifB_intro (fun _ => ?_) (fun _ => ?_)⟩
  · refine ⟨a, o1.cell rfl, o1.call1 (fun F h => load_any h a (by omega)) fun w2 o2 => ?_⟩
    refine ⟨_, _, rfl, a, o2.cell rfl, o2.call2 (fun F h => refload_any h a (by omega)) fun w3 o3 => ?_⟩
    exact ⟨_, _, rfl, ifB_true (by simp) (even_of o3 (refl _) rfl (two _ _ _ _))⟩
  refine ifB_intro (fun _ => ?_) (fun _ => ?_)
  · rintro w2 rfl
    have o2 := o1.keep (Ext.drew w1)
    refine ⟨a, o2.cell rfl, v, o2.cell rfl, a, o2.cell rfl, v, o2.cell rfl, o2.call1 (fun F h => store_any h a v hv0 hv (by omega)) fun w3 o3 => ?_⟩
    refine ⟨_, rfl, ⟨v, o3.cell rfl, rfl⟩, ⟨a, o3.cell rfl, rfl⟩, o3.call2 (fun F h => refstore_any h a v hv0 hv (by omega)) fun w4 o4 => ?_⟩
    exact ⟨_, rfl, even_of o4 (refl _) (iteLen fun hc => by rw [le8_length]; omega) (two _ _ _ _)⟩
  refine ifB_intro (fun _ => ?_) (fun _ => ?_)
  · refine ⟨b, o1.cell rfl, ifD (fun _ => even_of o1 rfl rfl (by omega)) (fun _ => ?_)⟩
    refine ⟨a, o1.cell rfl, b, o1.cell rfl, o1.call1 (fun F h => read_any h a b (by omega)) fun w2 o2 => ?_⟩
    refine ⟨_, _, rfl, a, o2.cell rfl, b, o2.cell rfl, o2.call2 (fun F h => refread_any h a b (by omega)) fun w3 o3 => ?_⟩
    exact ⟨_, _, rfl, ifD_true rfl (even_of o3 (refl _) rfl (two _ _ _ _))⟩
  refine ifB_intro (fun _ => ?_) (fun _ => ?_)
  · rintro w2 rfl
    have o2 := o1.keep (Ext.drew w1)
    refine ⟨a, o2.cell rfl, s, o2.cell rfl, a, o2.cell rfl, s, o2.cell rfl, o2.call1 (fun F h => write_any h a s (by omega)) fun w3 o3 => ?_⟩
    refine ⟨_, rfl, ⟨s, o3.cell rfl, rfl⟩, ⟨a, o3.cell rfl, rfl⟩, o3.call2 (fun F h => refwrite_any h a s (by omega)) fun w4 o4 => ?_⟩
    exact ⟨_, rfl, even_of o4 (refl _) (iteLen fun hc => by rw [bytesOf_length]; omega) (two _ _ _ _)⟩
  refine ifB_intro (fun _ => ?_) (fun _ => ?_)
  · rintro w2 rfl
    have o2 := o1.keep (Ext.drew w1)
    refine ⟨a, o2.cell rfl, b, o2.cell rfl, a, o2.cell rfl, b, o2.cell rfl, o2.call1 (fun F h => zero_any h a b (by omega)) fun w3 o3 => ?_⟩
    refine ⟨_, rfl, ⟨b, o3.cell rfl, rfl⟩, ⟨a, o3.cell rfl, rfl⟩, o3.call2 (fun F h => refzero_any h a b (by omega)) fun w4 o4 => ?_⟩
    exact ⟨_, rfl, even_of o4 (refl _) (iteLen fun hc => by rw [List.length_replicate]; omega) (two _ _ _ _)⟩
  refine ifB_intro (fun _ => ?_) (fun _ => ?_)
  · rintro w2 rfl
    have o2 := o1.keep (Ext.drew w1)
    refine ⟨a, o2.cell rfl, b, o2.cell rfl, c, o2.cell rfl, a, o2.cell rfl, b, o2.cell rfl, c, o2.cell rfl, o2.call1 (fun F h => copy_any h a b c (by omega)) fun w3 o3 => ?_⟩
    refine ⟨_, rfl, ⟨c, o3.cell rfl, rfl⟩, ⟨b, o3.cell rfl, rfl⟩, ⟨a, o3.cell rfl, rfl⟩, o3.call2 (fun F h => refcopy_any h a b c (by omega)) fun w4 o4 => ?_⟩
    refine ⟨_, rfl, even_of o4 (refl _) (iteLen fun hc => by rw [seg_length (by omega)]; omega) ?_⟩
    have h1 := noteA_len ts b c false
    have h2 := noteA_len (noteA ts b c false) a c true
    split <;> omega
  have last : ∀ {cs : List UInt8} {us : List Tch} (w2 : World), Two [(g, Obj.cells #[.int .i64 k, .int .i64 a, .int .i64 b, .int .i64 c, .int .u64 v, .string s] 64 (0, 0))] w0 w2 p q cs us cs us → cs.length = bs.length → us.length ≤ ts.length + 2 →
      someA (some (Addr.mk q 0 none)) fun a86 => ∃ (p87 : Option Addr) (n88 n89 : Nat), w2.cell? (a86.add 0) = some (.slice p87 n88 n89) ∧ w2 = w2 ∧
        CallS Try.prog 35 #[.pointer (some ⟨p, 0, none⟩)] w2 fun v90 w91 => ∃ i92 : Int, v90 = .int .i64 i92 ∧ (w91 = w91 ∧ Value.int .i64 (n88 : Int) = Value.int .i64 (n88 : Int)) ∧
          (∃ (p93 : Option Addr) (n94 n95 : Nat), w91.cell? (a86.add 0) = some (.slice p93 n94 n95) ∧ Value.slice p93 n94 n95 = Value.slice p87 n88 n89) ∧ Even w0 w91 p q bs.length (ts.length + 2) (Value.bool (i92 == (n88 : Int))) := by
    intro cs us w2 o2 hcs hus
    obtain ⟨gb, hc, _⟩ := o2.slot0
    refine ⟨_, _, _, hc, rfl, ?_⟩
    obtain ⟨F, G, o2'⟩ := id o2
    refine .of (size_any o2'.a) ?_
    rintro r w3 ⟨rfl, rfl⟩
    exact ⟨_, rfl, ⟨rfl, rfl⟩, ⟨_, _, _, hc, rfl⟩, even_of o2 (refl _) hcs hus⟩
  refine ifB_intro (fun _ => ?_) (fun _ => ?_)
  · refine o1.call1 (fun F h => forget_any h) fun w2 o2 => ⟨rfl, ?_⟩
    obtain ⟨F, G, o2'⟩ := o2
    refine forget_step o2'.b fun w3 hp => ?_
    have o3 := o2'.post2 hp
    rintro w4 rfl
    exact last _ (o3.keep (Ext.drew w3)) rfl (by simp)
  · rintro w2 rfl
    exact last _ (o1.keep (Ext.drew w1)) rfl (by omega)

end

abbrev ScriptS : Sh := .row 6 56 OpS

set_option maxHeartbeats 2000000 in
theorem walk_ArenaPlays (w : World) (x0 : Int) (h0 : IsI64 x0) (x1 : (Option Addr × Nat) × List (Int × Int × Int × Int × Int × ByteArray × Unit)) (ho : ScriptS.Ok w x1) :
    Calls Try.prog 13 #[.int .i64 x0, ScriptS.val x1] w (Ret (Yes w)) := by
  obtain ⟨⟨pa, ca⟩, l⟩ := x1
  obtain ⟨hlc, hcm, _, hel⟩ := ho
  simp only [maxLen] at hcm
  have hlc : l.length ≤ ca := hlc
  have hops : Ops w pa (l.map fun o => (o.1, o.2.1, o.2.2.1, o.2.2.2.1, o.2.2.2.2.1, o.2.2.2.2.2.1)) := by
    intro i k a b c v s hi
    rw [List.getElem?_map] at hi
    cases hx : l[i]? with
    | none => rw [hx] at hi; cases hi
    | some o =>
      rw [hx] at hi
      obtain ⟨k', a', b', c', v', s', _⟩ := o
      simp only [Option.map_some, Option.some.injEq, Prod.mk.injEq] at hi
      obtain ⟨rfl, rfl, rfl, rfl, rfl, rfl⟩ := hi
      obtain ⟨h1, h2⟩ := hel i _ hx
      have hv : 0 ≤ v' ∧ v' ≤ 18446744073709551615 := u64_of_wf h2.2.2.2.2.1
      exact ⟨h1, by omega, by omega⟩
  generalize hll : (l.map fun o => (o.1, o.2.1, o.2.2.1, o.2.2.2.1, o.2.2.2.2.1, o.2.2.2.2.2.1)) = ll at hops
  have hlen : l.length = ll.length := by rw [← hll, List.length_map]
  show Calls Try.prog 13 #[.int .i64 x0, .slice pa l.length ca] w (Ret (Yes w))
  refine VC.garthlaw01_ArenaPlays.ok ?_
  unfold VC.garthlaw01_ArenaPlays
  refine ⟨fun w1 => w = w1 ∧ ¬ (65536 < x0 ∧ x0 ≤ 2097152), ?_, ?_⟩
  · refine ifD (fun hq => ifD (fun hq2 => ?_) (fun hq2 => ⟨rfl, by omega⟩)) (fun hq => ⟨rfl, by omega⟩)
    refine .of (awake_any w) ?_
    rintro r w2 ⟨rfl, hE2⟩
    exact ⟨_, rfl, rfl, hE2⟩
  rintro jv _ ⟨rfl, hx0⟩
  refine .of (new_any x0 w) ?_
  rintro r w1 (⟨hn, rfl, rfl⟩ | ⟨hn1, hn2, p, F, rfl, hA, hE1, hF⟩)
  · refine ⟨_, _, rfl, .of (refnew_any x0 _) ?_⟩
    rintro r w1 (⟨_, rfl, rfl⟩ | ⟨hn1, hn2, _⟩)
    · refine ⟨_, _, rfl, .of (awake_any _) ?_⟩
      rintro r w2 ⟨rfl, hE2⟩
      exact ⟨_, rfl, ifB_false rfl (ifB_false rfl (ifB_false rfl (ifB_true rfl ⟨rfl, hE2⟩)))⟩
    · exact absurd ⟨hn1, hn2⟩ hn
  refine ⟨_, _, rfl, .of (refnew_any x0 w1) ?_⟩
  rintro r w2 (⟨hn, _⟩ | ⟨_, _, q, G, rfl, hB, hE2, hG⟩)
  · exact absurd ⟨hn1, hn2⟩ hn
  obtain ⟨xn, rfl⟩ := Int.eq_ofNat_of_zero_le hn1
  have hla := hA.lt
  have o2 : Two [] w w2 p q (List.replicate xn 0) [] (List.replicate xn 0) [] :=
    ⟨F, G, by simpa using hA.keep hE2 (fun _ _ x => x), by simpa using hB, fun k hk hg => by have := hla k hk; have := hG k hg; omega, hE1.trans hE2, hF, fun k hk => Nat.le_trans hE1.size (hG k hk), fun x hx => by cases hx⟩
  refine ⟨_, _, rfl, .of (awake_any w2) ?_⟩
  rintro r w3 ⟨rfl, hE3⟩
  have o3 := o2.keep hE3
  refine ⟨_, rfl, ifB_false rfl (ifB_false rfl (ifB_false rfl (ifB_false rfl ?_)))⟩
  refine .of (great_any (n := l.length) (c := ca) (hops.ext o3.ext) hlen (by simp only [maxLen]; omega)) ?_
  rintro r w4 ⟨b, rfl, hb, hE4⟩
  have o4 := o3.keep hE4
  refine ⟨_, rfl, ifB_intro (fun _ => ⟨rfl, o4.ext⟩) (fun hb0 => ?_)⟩
  have h500 := hb hb0
  refine ⟨fun m i w5 => ∃ j : Nat, i = j ∧ m + j = l.length ∧ ∃ bs ts, Two [] w w5 p q bs ts bs ts ∧ bs.length = xn ∧ ts.length ≤ 2 * j, ⟨l.length, 0, rfl, rfl, _, _, o4, by simp, by simp⟩, ?_⟩
  rintro m jv _ w5 ⟨j, rfl, hm, bs, ts, o5, hbl, htl⟩
  refine ifD (fun hj => ?_) (fun hj => ?_)
  · have hj : j < l.length := by omega
    obtain ⟨⟨k, a, b, c, v, s⟩, ho⟩ : ∃ o, ll[j]? = some o := ⟨_, List.getElem?_eq_getElem (by omega)⟩
    obtain ⟨⟨x, rfl, hc⟩, hv0, hv1⟩ := (hops.ext o5.ext) j _ _ _ _ _ _ ho
    refine ⟨by omega, by omega, _, _, _, _, _, _, hc, al_intro fun g w6 hg hE6 hs6 _ => ?_⟩
    refine wr_intro (n := 6) hg (by simp) fun w7 h7 hm7 _ => ?_
    have hE7 : Ext w5 w7 := Ext.new hE6 hm7 (fun k hk => by subst hk; exact Nat.le_of_eq hs6)
    rintro w8 rfl
    have h8 : w7.drew.heap[g]? = _ := h7
    have o8 := o5.keep (hE7.trans (Ext.drew w7))
    refine ⟨_, _, _, _, _, _, cells_all h8, .of (done_any o8 (by omega) k a b c v s hv0 hv1) ?_⟩
    rintro r w9 ⟨rfl, bs', ts', o9, hbl', htl'⟩
    refine ⟨_, rfl, by trivial, ifB_false rfl ?_⟩
    obtain ⟨ra, rc, hslot, hrow⟩ := o9.slot1
    refine ⟨_, _, _, hslot, ?_⟩
    obtain ⟨F', G', o9'⟩ := id o9
    refine .of (touched_any o9'.a (by omega)) ?_
    rintro r w10 ⟨hr, hE10, _⟩
    obtain ⟨ta, tc, rfl⟩ := hr.shape
    have o10 := o9.keep hE10
    have hrow10 := hrow.keep hE10 (fun _ _ x => x)
    have hslot10 : w10.cell? ((Addr.mk q 0 none).add 1) = some (.slice ra ts'.length rc) := by
      have hlt := World.block_lt_of_cell? w9 _ hslot
      rw [World.cell?_of_block (hE10.block _ hlt (fun x => x))]
      exact hslot
    refine ⟨_, _, _, rfl, ⟨_, _, _, hslot10, rfl⟩, .of (same_any hr hrow10 rfl rfl (by omega)) ?_⟩
    rintro r w11 ⟨rfl, hE11⟩
    refine ⟨_, rfl, by trivial, by trivial, ifB_false (by simp) ⟨m - 1, by omega, j + 1, ?_, by omega, bs', ts', o10.keep hE11, by omega, by omega⟩⟩
    rw [wrap_i64 (by omega) (by omega)]; omega
  · have hsm : xn ≤ 65536 := by omega
    refine o5.call1 (fun F h => read_any h 0 (xn : Int) (by omega)) fun w6 o6 => ⟨_, _, rfl, ?_⟩
    rw [hbl, if_pos (by omega), if_pos (by omega)]
    refine ifB_true rfl ?_
    obtain ⟨gb, hc, hb6⟩ := o6.slot0
    refine ⟨_, _, _, hc, bs, rfl, hb6, ?_, o6.ext⟩
    simp only [Int.toNat_natCast, Int.toNat_zero]
    have : seg bs 0 xn = bs := by rw [seg, List.drop_zero, List.take_of_length_le (by omega)]
    exact congrArg Value.bool (decide_eq_true (by rw [this]; rfl))

end Go.Proofs.Ytlfmkdndioegmaa
