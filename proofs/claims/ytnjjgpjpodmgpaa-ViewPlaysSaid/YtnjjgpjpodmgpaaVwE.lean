/- View: arena and table together; awake, long. Conditions: they are there. -/
import Derived.Test.YtnjjgpjpodmgpaaVwD
import Derived.Test.YtnjjgpjpodmgpaaGwLaw
set_option linter.unusedVariables false
set_option linter.unusedSimpArgs false
namespace Go.Proofs.Ytnjjgpjpodmgpaa
open Go.RowKit Go.Maps

/-- An arena and a table made behind world w0; blocks of K are kept apart. -/
def VS (w0 : World) (K : Nat → Prop) (ap tb : Nat) (bs : List UInt8) (ts : List Tch) (T : Tb) (w : World) : Prop :=
  ∃ m1 m2 F, Ar w 107 ap F bs ts ∧ PT w tb m1 m2 T ∧ (∀ j, ownT tb m1 m2 j → ¬ F j) ∧ (∀ j, ownT tb m1 m2 j ∨ F j → w0.heap.size ≤ j ∧ ¬ K j) ∧ (∀ j, K j → w0.heap.size ≤ j ∧ j < w.heap.size) ∧ Ext w0 w

section
variable {w0 w w' : World} {K K' : Nat → Prop} {ap tb : Nat} {bs bs' : List UInt8} {ts ts' : List Tch} {T : Tb}

theorem VS.ext (h : VS w0 K ap tb bs ts T w) : Ext w0 w := by
  obtain ⟨m1, m2, F, a, t, d, o, k, hE⟩ := h
  exact hE

theorem VS.ok (h : VS w0 K ap tb bs ts T w) : TOk T ∧ bs.length ≤ 2097152 := by
  obtain ⟨m1, m2, F, a, t, d, o, k, hE⟩ := h
  exact ⟨t.ok, a.small⟩

theorem VS.mod (h : VS w0 K ap tb bs ts T w) (hm : Mod K w w') : VS w0 K ap tb bs ts T w' := by
  obtain ⟨m1, m2, F, a, t, d, o, k, hE⟩ := h
  exact ⟨m1, m2, F, a.keep hm (fun j hj => (o j (.inr hj)).2), t.keep hm (fun j hj => (o j (.inl hj)).2), d, o, fun j hj => ⟨(k j hj).1, Nat.lt_of_lt_of_le (k j hj).2 hm.size⟩, hE.new hm (fun j hj => (k j hj).1)⟩

theorem VS.grow (h : VS w0 K ap tb bs ts T w) (hE1 : Ext w w') {B : Nat → Prop} (hb : ∀ j, B j → w.heap.size ≤ j ∧ j < w'.heap.size) : VS w0 (fun j => K j ∨ B j) ap tb bs ts T w' := by
  obtain ⟨m1, m2, F, a, t, d, o, k, hE⟩ := h
  have l1 := a.lt
  have l2 := t.lt
  have z := hE.size
  refine ⟨m1, m2, F, a.keep hE1 (fun _ _ x => x), t.ext hE1, d, fun j hj => ⟨(o j hj).1, fun x => x.elim (o j hj).2 (fun e => ?_)⟩, fun j hj => ?_, hE.trans hE1⟩
  · have := hb j e
    rcases hj with hj | hj
    · have := l2 j hj; omega
    · have := l1 j hj; omega
  · rcases hj with hj | hj
    · exact ⟨(k j hj).1, Nat.lt_of_lt_of_le (k j hj).2 hE1.size⟩
    · have := hb j hj; exact ⟨by omega, this.2⟩

theorem VS.weak (h : VS w0 K ap tb bs ts T w) (hs : ∀ j, K' j → K j) : VS w0 K' ap tb bs ts T w := by
  obtain ⟨m1, m2, F, a, t, d, o, k, hE⟩ := h
  exact ⟨m1, m2, F, a, t, d, fun j hj => ⟨(o j hj).1, fun x => (o j hj).2 (hs j x)⟩, fun j hj => k j (hs j hj), hE⟩

/-- A call on the arena. -/
theorem VS.call (h : VS w0 K ap tb bs ts T w) {g : FuncId} {args : Array Value} {Q R : Value → World → Prop}
    (call : ∀ m1 m2 F, Ar w 107 ap F bs ts → PT w tb m1 m2 T → (∀ j, ownT tb m1 m2 j → ¬ F j) → (∀ {S : Value → World → Prop}, (∀ v w', Q v w' → Post w 107 ap F bs' ts' w' → S v w') → CallS Try.prog g args w S))
    (r : ∀ v w', Q v w' → VS w0 K ap tb bs' ts' T w' → Mod (fun j => ¬ K j) w w' → R v w') : CallS Try.prog g args w R := by
  obtain ⟨m1, m2, F, a, t, d, o, k, hE⟩ := h
  refine call m1 m2 F a t d fun v w1 hq hp => ?_
  obtain ⟨F', a', m, f⟩ := hp
  have tl := t.lt
  refine r v w1 hq ⟨m1, m2, F', a', t.keep m d, fun j hj x => (f j x).elim (d j hj) (fun y => by have := tl j hj; omega), fun j hj => ?_, fun j hj => ⟨(k j hj).1, Nat.lt_of_lt_of_le (k j hj).2 m.size⟩, hE.new m (fun j hj => (o j (.inr hj)).1)⟩ (m.mono fun j hj => (o j (.inr hj)).2)
  rcases hj with hj | hj
  · exact o j (.inl hj)
  · rcases f j hj with x | x
    · exact o j (.inr x)
    · exact ⟨Nat.le_trans hE.size x, fun q => by have := (k j q).2; omega⟩

theorem VS.zero (h : VS w0 K ap tb bs ts T w) (hl : ts.length < 400000000000) (addr n : Int) {R : Value → World → Prop}
    (r : ∀ w', VS w0 K ap tb (zrB bs (vL T bs.length addr n)) (ts ++ tchL (vL T bs.length addr n) true) T w' → Mod (fun j => ¬ K j) w w' → R (.int .i64 (vE T bs.length addr n)) w') :
    CallS Try.prog 38 #[.pointer (some ⟨ap, 0, none⟩), .pointer (some ⟨tb, 0, none⟩), .int .i64 addr, .int .i64 n] w R :=
  h.call (Q := fun v w' => v = .int .i64 (vE T bs.length addr n)) (fun m1 m2 F a t d {S} s => vzero a t (by omega) addr n fun w' hp => s _ w' rfl hp) (fun v w' e a m => by subst e; exact r w' a m)

theorem VS.write (h : VS w0 K ap tb bs ts T w) (hl : ts.length < 400000000000) (addr : Int) (s : ByteArray) {R : Value → World → Prop}
    (r : ∀ w', VS w0 K ap tb (wrB bs (vL T bs.length addr s.size) (bytesOf s)) (ts ++ tchL (vL T bs.length addr s.size) true) T w' → Mod (fun j => ¬ K j) w w' → R (.int .i64 (vE T bs.length addr s.size)) w') :
    CallS Try.prog 34 #[.pointer (some ⟨ap, 0, none⟩), .pointer (some ⟨tb, 0, none⟩), .int .i64 addr, .string s] w R :=
  h.call (Q := fun v w' => v = .int .i64 (vE T bs.length addr s.size)) (fun m1 m2 F a t d {S} k => vwrite a t (by omega) addr s fun w' hp => k _ w' rfl hp) (fun v w' e a m => by subst e; exact r w' a m)

theorem VS.read (h : VS w0 K ap tb bs ts T w) (hl : ts.length < 400000000000) (addr n : Int) {R : Value → World → Prop}
    (r : ∀ w', VS w0 K ap tb bs (ts ++ tchL (vL T bs.length addr n) false) T w' → Mod (fun j => ¬ K j) w w' → R (.tuple #[.string (strOf (rdB bs (vL T bs.length addr n))), .int .i64 (vE T bs.length addr n)]) w') :
    CallS Try.prog 35 #[.pointer (some ⟨ap, 0, none⟩), .pointer (some ⟨tb, 0, none⟩), .int .i64 addr, .int .i64 n] w R :=
  h.call (Q := fun v w' => v = .tuple #[.string (strOf (rdB bs (vL T bs.length addr n))), .int .i64 (vE T bs.length addr n)]) (fun m1 m2 F a t d {S} k => vread a t (by omega) addr n fun w' hp => k _ w' rfl hp) (fun v w' e a m => by subst e; exact r w' a m)

theorem VS.copy (h : VS w0 K ap tb bs ts T w) (hl : ts.length < 400000000000) (to from_ n : Int) {R : Value → World → Prop}
    (r : ∀ w', VS w0 K ap tb (cpB T bs to from_ n) (cpT T bs.length ts to from_ n) T w' → Mod (fun j => ¬ K j) w w' → R (.int .i64 (cpE T bs.length to from_ n)) w') :
    CallS Try.prog 37 #[.pointer (some ⟨ap, 0, none⟩), .pointer (some ⟨tb, 0, none⟩), .int .i64 to, .int .i64 from_, .int .i64 n] w R :=
  h.call (Q := fun v w' => v = .int .i64 (cpE T bs.length to from_ n)) (fun m1 m2 F a t d {S} k => vcopy a t d (by omega) to from_ n fun w' hp => k _ w' rfl hp) (fun v w' e a m => by subst e; exact r w' a m)

theorem VS.aread (h : VS w0 K ap tb bs ts T w) (hl : ts.length < 400000000000) {a n : Nat} (hn : a + n ≤ bs.length) {R : Value → World → Prop}
    (r : ∀ w' ts', ts'.length ≤ ts.length + 1 → VS w0 K ap tb bs ts' T w' → Mod (fun j => ¬ K j) w w' → R (.tuple #[.string (strOf (seg bs a n)), .int .i64 0]) w') :
    CallS Try.prog 19 #[.pointer (some ⟨ap, 0, none⟩), .int .i64 (a : Int), .int .i64 (n : Int)] w R := by
  have ok : OkA bs.length (a : Int) (n : Int) := ⟨by omega, by omega, by omega⟩
  refine h.call (bs' := bs) (ts' := noteA ts a n false) (Q := fun v w' => v = .tuple #[.string (strOf (seg bs a n)), .int .i64 0]) (fun m1 m2 F ar t d {S} k => ?_) (fun v w' e q m => by subst e; exact r w' _ (noteA_len _ _ _ _) q m)
  refine .of (read_any ar a n (by omega)) ?_
  rintro v w1 ⟨rfl, hp⟩
  rw [if_pos ok] at hp
  rw [if_pos ok, if_pos ok, Int.toNat_natCast, Int.toNat_natCast]
  exact k _ w1 rfl hp

theorem VS.awrite (h : VS w0 K ap tb bs ts T w) (hl : ts.length < 400000000000) {a : Nat} {s : ByteArray} (hn : a + s.size ≤ bs.length) {R : Value → World → Prop}
    (r : ∀ w' ts', ts'.length ≤ ts.length + 1 → VS w0 K ap tb (putAt bs a (bytesOf s)) ts' T w' → Mod (fun j => ¬ K j) w w' → R (.int .i64 0) w') :
    CallS Try.prog 33 #[.pointer (some ⟨ap, 0, none⟩), .int .i64 (a : Int), .string s] w R := by
  have ok : OkA bs.length (a : Int) (s.size : Int) := ⟨by omega, by omega, by omega⟩
  refine h.call (bs' := putAt bs a (bytesOf s)) (ts' := noteA ts a s.size true) (Q := fun v w' => v = .int .i64 0) (fun m1 m2 F ar t d {S} k => ?_) (fun v w' e q m => by subst e; exact r w' _ (noteA_len _ _ _ _) q m)
  refine .of (write_any ar a s (by omega)) ?_
  rintro v w1 ⟨rfl, hp⟩
  rw [if_pos ok, if_pos ok, Int.toNat_natCast] at hp
  rw [if_pos ok]
  exact k _ w1 rfl hp

theorem VS.map (h : VS w0 K ap tb bs ts T w) (hl : T.length < 1000000) (v p : Int) {R : Value → World → Prop}
    (r : ∀ w', VS w0 K ap tb bs ts (mapT T v p) w' → Mod (fun j => ¬ K j) w w' → R (.int .i64 (mapE T v p)) w') :
    CallS Try.prog 32 #[.pointer (some ⟨tb, 0, none⟩), .int .i64 v, .int .i64 p] w R := by
  obtain ⟨m1, m2, F, a, t, d, o, k, hE⟩ := h
  refine t.map hl v p fun w1 t1 m => r w1 ⟨m1, m2, F, a.keep m (fun j hj x => d j x hj), t1, d, o, fun j hj => ⟨(k j hj).1, Nat.lt_of_lt_of_le (k j hj).2 m.size⟩, hE.new m (fun j hj => (o j (.inl hj)).1)⟩ (m.mono fun j hj => (o j (.inl hj)).2)

theorem VS.holderC (h : VS w0 K ap tb bs ts T w) {p : Int} (hp : I64w p) {R : Value → World → Prop} (r : R (.int .i64 (hld T p)) w) : CallS Try.prog 42 #[.pointer (some ⟨tb, 0, none⟩), .int .i64 p] w R := by
  obtain ⟨m1, m2, F, a, t, d, o, k, hE⟩ := h
  exact t.holder hp r

theorem VS.touchedC (h : VS w0 K ap tb bs ts T w) (hl : ts.length < 400000000000) {R : Value → World → Prop}
    (r : ∀ q c w', TRow w' (.slice q ts.length c) ts → VS w0 (fun j => K j ∨ (Value.slice q ts.length c).ownBlock = some j) ap tb bs ts T w' → Ext w w' → R (.slice q ts.length c) w') :
    CallS Try.prog 22 #[.pointer (some ⟨ap, 0, none⟩)] w R := by
  have h0 := h
  obtain ⟨m1, m2, F, a, t, d, o, k, hE⟩ := h
  refine .of (touched_any a (by omega)) ?_
  rintro v w1 ⟨hr, hE1, hown⟩
  obtain ⟨q, c, rfl⟩ := hr.shape
  exact r q c w1 hr (h0.grow hE1 (fun j hj => ⟨hown j hj, hr.lt' j hj⟩)) hE1

/-- A new arena and a new table. -/
theorem VS.start {p : Nat} {F : Nat → Prop} {w1 w2 : World} {m1 m2 : Nat} (ha : Ar w1 107 ap F bs ts) (hE1 : Ext w w1) (hF : ∀ k, F k → w.heap.size ≤ k) (ht : PT w2 tb m1 m2 T) (hE2 : Ext w1 w2) (hT : ∀ j, ownT tb m1 m2 j → w1.heap.size ≤ j) :
    VS w (fun _ => False) ap tb bs ts T w2 := by
  have l := ha.lt
  refine ⟨m1, m2, F, ha.keep hE2 (fun _ _ x => x), ht, fun j hj x => by have := hT j hj; have := l j x; omega, fun j hj => ⟨?_, fun x => x⟩, fun j x => x.elim, hE1.trans hE2⟩
  rcases hj with hj | hj
  · have := hT j hj; have := hE1.size; omega
  · exact hF j hj

end

/-! ### awake -/

namespace Aw
def T1 : Tb := mapT [] 256 7
def T2 : Tb := mapT T1 257 3
def d4 : ByteArray := ByteArray.mk #[97, 98, 99, 100]
def b0 : List UInt8 := List.replicate 8192 0
def L1 : List Pc := vL T2 8192 131582 4
def b1 : List UInt8 := wrB b0 L1 (bytesOf d4)
theorem e1 : vE T2 8192 131582 4 = 0 ∧ L1 = [(4094, 2), (1536, 2)] := by decide +kernel
theorem e2 : vE T2 8192 131581 6 = 0 ∧ vL T2 8192 131581 6 = [(4093, 3), (1536, 3)] := by decide +kernel
theorem e3 : vE T2 8192 132090 10 = 4 := by decide +kernel
theorem r1 : seg b1 4094 2 = [97, 98] := by decide +kernel
theorem r2 : seg b1 1536 2 = [99, 100] := by decide +kernel
theorem r3 : rdB b1 [(4093, 3), (1536, 3)] = [0, 97, 98, 99, 100, 0] := by decide +kernel
theorem l1 : b1.length = 8192 := by decide +kernel
end Aw

theorem awake_any (w : World) {R : Value → World → Prop} (r : ∀ w', Ext w w' → R (.bool true) w') : CallS Try.prog 30 #[] w R := by
  constructor
  refine VC.garthlaw16_awake.ok ?_
  unfold VC.garthlaw16_awake
  refine .of (new_any 8192 w) ?_
  rintro v w1 (⟨q, _, _⟩ | ⟨_, _, ap, F, rfl, hA, hE1, hF⟩)
  · exact absurd ⟨by omega, by omega⟩ q
  refine ⟨_, _, rfl, tnew_any w1 fun tb m1 m2 w2 ht hE2 hT => ⟨_, rfl, ?_⟩⟩
  have h2 : VS w (fun _ => False) ap tb Aw.b0 [] [] w2 := VS.start (p := 0) hA hE1 hF ht hE2 hT
  have hb0 : Aw.b0.length = 8192 := List.length_replicate
  refine h2.map (by decide) 256 7 fun w3 h3 _ => ⟨_, rfl, ?_⟩
  refine VS.map (T := Aw.T1) h3 (by decide) 257 3 fun w4 h4 _ => ⟨_, rfl, ?_⟩
  refine VS.write (T := Aw.T2) h4 (by decide) 131582 Aw.d4 fun w5 h5 _ => ⟨_, rfl, ?_⟩
  rw [hb0] at h5 ⊢
  have h5 : VS w (fun _ => False) ap tb Aw.b1 ([] ++ tchL Aw.L1 true) Aw.T2 w5 := h5
  have t5 : ([] ++ tchL Aw.L1 true).length = 2 := by rw [Aw.e1.2]; rfl
  generalize [] ++ tchL Aw.L1 true = ts5 at h5 t5
  refine h5.aread (a := 4094) (n := 2) (by omega) (by rw [Aw.l1]; decide) fun w6 ts6 l6 h6 _ => ⟨_, _, rfl, ?_⟩
  refine h6.aread (a := 1536) (n := 2) (by omega) (by rw [Aw.l1]; decide) fun w7 ts7 l7 h7 _ => ⟨_, _, rfl, ?_⟩
  refine h7.read (by omega) 131581 6 fun w8 h8 _ => ⟨_, _, rfl, ?_⟩
  rw [Aw.l1, Aw.e2.2] at h8
  refine h8.read (by rw [List.length_append, tchL_len]; simp; omega) 132090 10 fun w9 h9 _ => ⟨_, _, rfl, ?_⟩
  rw [Aw.l1, Aw.e2.1, Aw.e2.2, Aw.e3, Aw.r1, Aw.r2, Aw.r3]
  have e5 : vE Aw.T2 8192 131582 (Aw.d4.size : Int) = 0 := Aw.e1.1
  rw [e5]
  exact ifB_true rfl (ifB_true (decide_eq_true rfl) (ifB_true (decide_eq_true rfl) (ifB_true (decide_eq_true rfl) (ifB_true rfl (r w9 h9.ext)))))

/-! ### long -/

abbrev VOp := Int × Int × Int × Int × ByteArray × Unit
abbrev VOpsSh : Sh := .row 5 48 (.pair (.int .i64) (.pair (.int .i64) (.pair (.int .i64) (.pair (.int .i64) (.pair .str .unit)))))
def vopF (x : VOp) : List Value := [.int .i64 x.1, .int .i64 x.2.1, .int .i64 x.2.2.1, .int .i64 x.2.2.2.1, .string x.2.2.2.2.1]

theorem vops_row {w : World} {x : VOpsSh.T} (h : VOpsSh.Ok w x) : RowAt w x.1.1 5 vopF x.2 := fun i y hi => (h.2.2.2 i y hi).1

theorem RowAt.vop {w : World} {p : Option Addr} {l : List VOp} (h : RowAt w p 5 vopF l) {i : Nat} {x : VOp} (hi : l[i]? = some x) {K : Int → Int → Int → Int → ByteArray → Prop} (k : K x.1 x.2.1 x.2.2.1 x.2.2.2.1 x.2.2.2.2.1) :
    someA p fun a => ∃ (i1 i2 i3 i4 : Int) (s : ByteArray), CellsAt w (a.add (i * 5)) [.int .i64 i1, .int .i64 i2, .int .i64 i3, .int .i64 i4, .string s] ∧ K i1 i2 i3 i4 s := by
  obtain ⟨a, rfl, hc⟩ := h i x hi
  exact ⟨_, _, _, _, _, hc, k⟩

theorem long_any {w : World} {pa : Option Addr} {cap : Nat} {l : List VOp} (hrow : RowAt w pa 5 vopF l) (h63 : l.length ≤ maxLen) {R : Value → World → Prop} (r : ∀ b w', Ext w w' → (b = false → l.length ≤ 100) → R (.bool b) w') :
    CallS Try.prog 40 #[.slice pa l.length cap] w R := by
  constructor
  refine VC.garthlaw16_long.ok ?_
  unfold VC.garthlaw16_long
  refine ⟨fun n i3 i w1 => ∃ j : Nat, i = (j : Int) ∧ n + j = l.length ∧ Ext w w1, ⟨l.length, 0, rfl, rfl, Mod.refl _ _⟩, ?_⟩
  rintro n jv i3 i w1 ⟨j, rfl, hn, hE⟩
  refine ifD (fun hj => ⟨by omega, by omega, ?_⟩) (fun hj => r _ w1 hE (fun q => ?_))
  · have hj : j < l.length := by omega
    obtain ⟨y, hy⟩ : ∃ y, l[j]? = some y := ⟨_, List.getElem?_eq_getElem hj⟩
    rw [Int.toNat_natCast]
    refine (hrow.ext hE).vop hy (al_intro fun b w2 hb hE2 hs2 _ => ?_)
    refine wr_intro (n := 5) hb (by simp) fun w3 hb3 hm3 hs3 => ?_
    have hE3 : Ext w w3 := hE.trans (hE2.new hm3 (fun k hk => by subst hk; omega))
    refine ⟨_, by rw [add_mk]; exact cell_blk hb3 rfl, _, w3, run_min_int2 w3 _ _ _ _ _ _, ifB_intro (fun _ => r _ w3 hE3 (fun q => by cases q)) (fun _ => ⟨n - 1, by omega, j + 1, ?_, by omega, hE3⟩)⟩
    simp only [maxLen] at h63
    rw [wrap_i64 (by omega) (by omega)]; omega
  · have := of_decide_eq_false q
    omega

end Go.Proofs.Ytnjjgpjpodmgpaa
