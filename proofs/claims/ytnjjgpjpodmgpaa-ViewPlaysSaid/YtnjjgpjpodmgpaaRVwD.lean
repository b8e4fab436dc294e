/- View: the program and the reference, side by side. Conditions: they are there. -/
import Derived.Test.YtnjjgpjpodmgpaaRVwC
import Derived.Test.YtnjjgpjpodmgpaaWViewA
set_option linter.unusedVariables false
set_option linter.unusedSimpArgs false
namespace Go.Proofs.Ytnjjgpjpodmgpaa
open Go.RowKit Go.Maps

section
variable {w0 w w' : World} {a t b r : Nat} {T : Tb} {bs : List UInt8} {ts : List Tch}

/-- An arena and a table; their blocks are O. -/
def SL (w : World) (O : Nat → Prop) (a t : Nat) (bs : List UInt8) (ts : List Tch) (T : Tb) : Prop :=
  ∃ m1 m2 F, Ar w 107 a F bs ts ∧ PT w t m1 m2 T ∧ (∀ j, ownT t m1 m2 j → ¬ F j) ∧ ∀ j, ownT t m1 m2 j ∨ F j ↔ O j
/-- The reference's. -/
def SR (w : World) (O : Nat → Prop) (a t : Nat) (bs : List UInt8) (ts : List Tch) (T : Tb) : Prop :=
  ∃ v F, Ar w 70 a F bs ts ∧ RT w t v T ∧ (∀ j, fpR t v j → ¬ F j) ∧ ∀ j, fpR t v j ∨ F j ↔ O j

/-- What a call on one side gives. -/
def New (w : World) (O : Nat → Prop) (S : World → (Nat → Prop) → Prop) (w' : World) : Prop := ∃ O', S w' O' ∧ Mod O w w' ∧ ∀ j, O' j → O j ∨ w.heap.size ≤ j

theorem SL.keep {O G : Nat → Prop} (h : SL w O a t bs ts T) (hm : Mod G w w') (hd : ∀ j, O j → ¬ G j) : SL w' O a t bs ts T := by
  obtain ⟨m1, m2, F, x, y, d, o⟩ := h
  exact ⟨m1, m2, F, x.keep hm (fun j hj => hd j ((o j).1 (.inr hj))), y.keep hm (fun j hj => hd j ((o j).1 (.inl hj))), d, o⟩
theorem SR.keep {O G : Nat → Prop} (h : SR w O a t bs ts T) (hm : Mod G w w') (hd : ∀ j, O j → ¬ G j) : SR w' O a t bs ts T := by
  obtain ⟨v, F, x, y, d, o⟩ := h
  exact ⟨v, F, x.keep hm (fun j hj => hd j ((o j).1 (.inr hj))), y.keep hm (fun j hj => hd j ((o j).1 (.inl hj))), d, o⟩
theorem SL.lt {O : Nat → Prop} (h : SL w O a t bs ts T) : ∀ j, O j → j < w.heap.size := by
  obtain ⟨m1, m2, F, x, y, d, o⟩ := h
  exact fun j hj => ((o j).2 hj).elim (y.lt j) (x.lt j)
theorem SR.lt {O : Nat → Prop} (h : SR w O a t bs ts T) : ∀ j, O j → j < w.heap.size := by
  obtain ⟨v, F, x, y, d, o⟩ := h
  exact fun j hj => ((o j).2 hj).elim (y.lt j) (x.lt j)
theorem SL.small {O : Nat → Prop} (h : SL w O a t bs ts T) : bs.length ≤ 2097152 := by
  obtain ⟨m1, m2, F, x, y, d, o⟩ := h
  exact x.small

theorem sl_post {m1 m2 : Nat} {F O : Nat → Prop} {bs' : List UInt8} {ts' : List Tch} (y : PT w t m1 m2 T) (d : ∀ j, ownT t m1 m2 j → ¬ F j) (o : ∀ j, ownT t m1 m2 j ∨ F j ↔ O j) (hp : Post w 107 a F bs' ts' w') : New w O (fun w' O' => SL w' O' a t bs' ts' T) w' := by
  obtain ⟨F', x', m, f⟩ := hp
  have yl := y.lt
  refine ⟨fun j => ownT t m1 m2 j ∨ F' j, ⟨m1, m2, F', x', y.keep m d, fun j hj q => (f j q).elim (d j hj) (fun z => by have := yl j hj; omega), fun j => Iff.rfl⟩, m.mono fun j hj => (o j).1 (.inr hj), fun j hj => ?_⟩
  rcases hj with hj | hj
  · exact .inl ((o j).1 (.inl hj))
  · exact (f j hj).imp (fun q => (o j).1 (.inr q)) id
theorem sr_post {v : Value} {F O : Nat → Prop} {bs' : List UInt8} {ts' : List Tch} (y : RT w t v T) (d : ∀ j, fpR t v j → ¬ F j) (o : ∀ j, fpR t v j ∨ F j ↔ O j) (hp : Post w 70 a F bs' ts' w') : New w O (fun w' O' => SR w' O' a t bs' ts' T) w' := by
  obtain ⟨F', x', m, f⟩ := hp
  have yl := y.lt
  refine ⟨fun j => fpR t v j ∨ F' j, ⟨v, F', x', y.keep m d, fun j hj q => (f j q).elim (d j hj) (fun z => by have := yl j hj; omega), fun j => Iff.rfl⟩, m.mono fun j hj => (o j).1 (.inr hj), fun j hj => ?_⟩
  rcases hj with hj | hj
  · exact .inl ((o j).1 (.inl hj))
  · exact (f j hj).imp (fun q => (o j).1 (.inr q)) id

variable {O : Nat → Prop} {R : Value → World → Prop}

theorem SL.zero (h : SL w O a t bs ts T) (hl : ts.length < 400000000000) (addr n : Int)
    (k : ∀ w', New w O (fun w' O' => SL w' O' a t (zrB bs (vL T bs.length addr n)) (ts ++ tchL (vL T bs.length addr n) true) T) w' → R (.int .i64 (vE T bs.length addr n)) w') :
    CallS Try.prog 38 #[.pointer (some ⟨a, 0, none⟩), .pointer (some ⟨t, 0, none⟩), .int .i64 addr, .int .i64 n] w R := by
  obtain ⟨m1, m2, F, x, y, d, o⟩ := h
  exact vzero x y (by omega) addr n fun w' hp => k w' (sl_post y d o hp)
theorem SL.write (h : SL w O a t bs ts T) (hl : ts.length < 400000000000) (addr : Int) (s : ByteArray)
    (k : ∀ w', New w O (fun w' O' => SL w' O' a t (wrB bs (vL T bs.length addr s.size) (bytesOf s)) (ts ++ tchL (vL T bs.length addr s.size) true) T) w' → R (.int .i64 (vE T bs.length addr s.size)) w') :
    CallS Try.prog 34 #[.pointer (some ⟨a, 0, none⟩), .pointer (some ⟨t, 0, none⟩), .int .i64 addr, .string s] w R := by
  obtain ⟨m1, m2, F, x, y, d, o⟩ := h
  exact vwrite x y (by omega) addr s fun w' hp => k w' (sl_post y d o hp)
theorem SL.read (h : SL w O a t bs ts T) (hl : ts.length < 400000000000) (addr n : Int)
    (k : ∀ w', New w O (fun w' O' => SL w' O' a t bs (ts ++ tchL (vL T bs.length addr n) false) T) w' → R (.tuple #[.string (strOf (rdB bs (vL T bs.length addr n))), .int .i64 (vE T bs.length addr n)]) w') :
    CallS Try.prog 35 #[.pointer (some ⟨a, 0, none⟩), .pointer (some ⟨t, 0, none⟩), .int .i64 addr, .int .i64 n] w R := by
  obtain ⟨m1, m2, F, x, y, d, o⟩ := h
  exact vread x y (by omega) addr n fun w' hp => k w' (sl_post y d o hp)
theorem SL.copy (h : SL w O a t bs ts T) (hl : ts.length < 400000000000) (to from_ n : Int)
    (k : ∀ w', New w O (fun w' O' => SL w' O' a t (cpB T bs to from_ n) (cpT T bs.length ts to from_ n) T) w' → R (.int .i64 (cpE T bs.length to from_ n)) w') :
    CallS Try.prog 37 #[.pointer (some ⟨a, 0, none⟩), .pointer (some ⟨t, 0, none⟩), .int .i64 to, .int .i64 from_, .int .i64 n] w R := by
  obtain ⟨m1, m2, F, x, y, d, o⟩ := h
  exact vcopy x y d (by omega) to from_ n fun w' hp => k w' (sl_post y d o hp)
theorem SL.map (h : SL w O a t bs ts T) (hl : T.length < 1000000) (v p : Int)
    (k : ∀ w', New w O (fun w' O' => SL w' O' a t bs ts (mapT T v p)) w' → R (.int .i64 (mapE T v p)) w') :
    CallS Try.prog 32 #[.pointer (some ⟨t, 0, none⟩), .int .i64 v, .int .i64 p] w R := by
  obtain ⟨m1, m2, F, x, y, d, o⟩ := h
  exact y.map hl v p fun w' y' m => k w' ⟨O, ⟨m1, m2, F, x.keep m (fun j hj q => d j q hj), y', d, o⟩, m.mono fun j hj => (o j).1 (.inl hj), fun j hj => .inl hj⟩

theorem SR.zero (h : SR w O a t bs ts T) (hl : ts.length < 400000000000) (addr n : Int)
    (k : ∀ w', New w O (fun w' O' => SR w' O' a t (zrB bs (vL T bs.length addr n)) (ts ++ tchL (vL T bs.length addr n) true) T) w' → R (.int .i64 (vE T bs.length addr n)) w') :
    CallS Try.prog 71 #[.pointer (some ⟨a, 0, none⟩), .pointer (some ⟨t, 0, none⟩), .int .i64 addr, .int .i64 n] w R := by
  obtain ⟨v, F, x, y, d, o⟩ := h
  exact rzero x y (by omega) addr n fun w' hp => k w' (sr_post y d o hp)
theorem SR.write (h : SR w O a t bs ts T) (hl : ts.length < 400000000000) (addr : Int) (s : ByteArray)
    (k : ∀ w', New w O (fun w' O' => SR w' O' a t (wrB bs (vL T bs.length addr s.size) (bytesOf s)) (ts ++ tchL (vL T bs.length addr s.size) true) T) w' → R (.int .i64 (vE T bs.length addr s.size)) w') :
    CallS Try.prog 70 #[.pointer (some ⟨a, 0, none⟩), .pointer (some ⟨t, 0, none⟩), .int .i64 addr, .string s] w R := by
  obtain ⟨v, F, x, y, d, o⟩ := h
  exact rwrite x y (by omega) addr s fun w' hp => k w' (sr_post y d o hp)
theorem SR.read (h : SR w O a t bs ts T) (hl : ts.length < 400000000000) (addr n : Int)
    (k : ∀ w', New w O (fun w' O' => SR w' O' a t bs (ts ++ tchL (vL T bs.length addr n) false) T) w' → R (.tuple #[.string (strOf (rdB bs (vL T bs.length addr n))), .int .i64 (vE T bs.length addr n)]) w') :
    CallS Try.prog 69 #[.pointer (some ⟨a, 0, none⟩), .pointer (some ⟨t, 0, none⟩), .int .i64 addr, .int .i64 n] w R := by
  obtain ⟨v, F, x, y, d, o⟩ := h
  exact rread x y (by omega) addr n fun w' hp => k w' (sr_post y d o hp)
theorem SR.copy (h : SR w O a t bs ts T) (hl : ts.length < 400000000000) (to from_ n : Int)
    (k : ∀ w', New w O (fun w' O' => SR w' O' a t (cpB T bs to from_ n) (cpT T bs.length ts to from_ n) T) w' → R (.int .i64 (cpE T bs.length to from_ n)) w') :
    CallS Try.prog 72 #[.pointer (some ⟨a, 0, none⟩), .pointer (some ⟨t, 0, none⟩), .int .i64 to, .int .i64 from_, .int .i64 n] w R := by
  obtain ⟨v, F, x, y, d, o⟩ := h
  exact rcopy x y d (by omega) to from_ n fun w' hp => k w' (sr_post y d o hp)
theorem SR.map (h : SR w O a t bs ts T) (hl : T.length < 1000000) (v p : Int)
    (k : ∀ w', New w O (fun w' O' => SR w' O' a t bs ts (mapT T v p)) w' → R (.int .i64 (mapE T v p)) w') :
    CallS Try.prog 73 #[.pointer (some ⟨t, 0, none⟩), .int .i64 v, .int .i64 p] w R := by
  obtain ⟨v0, F, x, y, d, o⟩ := h
  have xl := x.lt
  refine y.map hl v p fun v' w' y' m f => k w' ⟨fun j => fpR t v' j ∨ F j, ⟨v', F, x.keep m (fun j hj q => d j q hj), y', fun j hj q => (f j hj).elim (fun z => d j z q) (fun z => by have := xl j q; omega), fun j => Iff.rfl⟩, m.mono fun j hj => (o j).1 (.inl hj), fun j hj => ?_⟩
  rcases hj with hj | hj
  · exact (f j hj).imp (fun q => (o j).1 (.inl q)) id
  · exact .inl ((o j).1 (.inr hj))

end

/-- Both sides; behind world w0; the blocks of K are kept apart. -/
def Bv (w0 : World) (K : Nat → Prop) (a t b r : Nat) (bs : List UInt8) (ts : List Tch) (T : Tb) (bs2 : List UInt8) (ts2 : List Tch) (T2 : Tb) (w : World) : Prop :=
  ∃ O P, SL w O a t bs ts T ∧ SR w P b r bs2 ts2 T2 ∧ (∀ j, O j → ¬ P j) ∧ (∀ j, O j ∨ P j → w0.heap.size ≤ j ∧ ¬ K j) ∧ (∀ j, K j → w0.heap.size ≤ j ∧ j < w.heap.size) ∧ Ext w0 w

section
variable {w0 w w' : World} {K : Nat → Prop} {a t b r : Nat} {bs bs2 : List UInt8} {ts ts2 : List Tch} {T T2 : Tb}

theorem Bv.ext (h : Bv w0 K a t b r bs ts T bs2 ts2 T2 w) : Ext w0 w := by
  obtain ⟨O, P, x, y, d, o, k, hE⟩ := h
  exact hE

theorem Bv.mod (h : Bv w0 K a t b r bs ts T bs2 ts2 T2 w) (hm : Mod K w w') : Bv w0 K a t b r bs ts T bs2 ts2 T2 w' := by
  obtain ⟨O, P, x, y, d, o, k, hE⟩ := h
  exact ⟨O, P, x.keep hm (fun j hj => (o j (.inl hj)).2), y.keep hm (fun j hj => (o j (.inr hj)).2), d, o, fun j hj => ⟨(k j hj).1, Nat.lt_of_lt_of_le (k j hj).2 hm.size⟩, hE.new hm (fun j hj => (k j hj).1)⟩

theorem Bv.grow (h : Bv w0 K a t b r bs ts T bs2 ts2 T2 w) (hE1 : Ext w w') {B : Nat → Prop} (hb : ∀ j, B j → w.heap.size ≤ j ∧ j < w'.heap.size) : Bv w0 (fun j => K j ∨ B j) a t b r bs ts T bs2 ts2 T2 w' := by
  obtain ⟨O, P, x, y, d, o, k, hE⟩ := h
  have l1 := x.lt
  have l2 := y.lt
  have z := hE.size
  refine ⟨O, P, x.keep hE1 (fun _ _ q => q), y.keep hE1 (fun _ _ q => q), d, fun j hj => ⟨(o j hj).1, fun q => q.elim (o j hj).2 (fun e => ?_)⟩, fun j hj => ?_, hE.trans hE1⟩
  · have := hb j e
    rcases hj with hj | hj
    · have := l1 j hj; omega
    · have := l2 j hj; omega
  · rcases hj with hj | hj
    · exact ⟨(k j hj).1, Nat.lt_of_lt_of_le (k j hj).2 hE1.size⟩
    · have := hb j hj; exact ⟨by omega, this.2⟩

theorem Bv.weak {K' : Nat → Prop} (h : Bv w0 K a t b r bs ts T bs2 ts2 T2 w) (hs : ∀ j, K' j → K j) : Bv w0 K' a t b r bs ts T bs2 ts2 T2 w := by
  obtain ⟨O, P, x, y, d, o, k, hE⟩ := h
  exact ⟨O, P, x, y, d, fun j hj => ⟨(o j hj).1, fun q => (o j hj).2 (hs j q)⟩, fun j hj => k j (hs j hj), hE⟩

/-- The left side, for a call. -/
theorem Bv.left (h : Bv w0 K a t b r bs ts T bs2 ts2 T2 w) : ∃ O, SL w O a t bs ts T ∧ (∀ j, K j → ¬ O j) ∧ ∀ bs' ts' T' w', New w O (fun w' O' => SL w' O' a t bs' ts' T') w' → Bv w0 K a t b r bs' ts' T' bs2 ts2 T2 w' ∧ Mod O w w' := by
  obtain ⟨O, P, x, y, d, o, k, hE⟩ := h
  have l2 := y.lt
  refine ⟨O, x, fun j hj q => (o j (.inl q)).2 hj, fun bs' ts' T' w' hn => ?_⟩
  obtain ⟨O', x', m, f⟩ := hn
  refine ⟨⟨O', P, x', y.keep m (fun j hj q => d j q hj), fun j hj q => (f j hj).elim (fun z => d j z q) (fun z => by have := l2 j q; omega), fun j hj => ?_, fun j hj => ⟨(k j hj).1, Nat.lt_of_lt_of_le (k j hj).2 m.size⟩, hE.new m (fun j hj => (o j (.inl hj)).1)⟩, m⟩
  rcases hj with hj | hj
  · rcases f j hj with q | q
    · exact o j (.inl q)
    · exact ⟨Nat.le_trans hE.size q, fun z => by have := (k j z).2; omega⟩
  · exact o j (.inr hj)

theorem Bv.right (h : Bv w0 K a t b r bs ts T bs2 ts2 T2 w) : ∃ P, SR w P b r bs2 ts2 T2 ∧ (∀ j, K j → ¬ P j) ∧ ∀ bs' ts' T' w', New w P (fun w' O' => SR w' O' b r bs' ts' T') w' → Bv w0 K a t b r bs ts T bs' ts' T' w' ∧ Mod P w w' := by
  obtain ⟨O, P, x, y, d, o, k, hE⟩ := h
  have l1 := x.lt
  refine ⟨P, y, fun j hj q => (o j (.inr q)).2 hj, fun bs' ts' T' w' hn => ?_⟩
  obtain ⟨P', y', m, f⟩ := hn
  refine ⟨⟨O, P', x.keep m (fun j hj q => d j hj q), y', fun j hj q => (f j q).elim (fun z => d j hj z) (fun z => by have := l1 j hj; omega), fun j hj => ?_, fun j hj => ⟨(k j hj).1, Nat.lt_of_lt_of_le (k j hj).2 m.size⟩, hE.new m (fun j hj => (o j (.inr hj)).1)⟩, m⟩
  rcases hj with hj | hj
  · exact o j (.inl hj)
  · rcases f j hj with q | q
    · exact o j (.inr q)
    · exact ⟨Nat.le_trans hE.size q, fun z => by have := (k j z).2; omega⟩

end

end Go.Proofs.Ytnjjgpjpodmgpaa
