/- Contracts of package chain: All, Copy; the reference's chain; two lists are compared; no chain. Conditions: what is named is there. -/
import Derived.Test.YtkbgiflmecaffaaChain
set_option linter.unusedVariables false
set_option linter.unusedSimpArgs false
namespace Go.Proofs.Ytkbgiflmecaffaa
open Go.RowKit

theorem elemI : ElemOk Try.prog 82 3 1 8 := .of (z := .int .i64 0) (by kernel_rfl) (by kernel_rfl) rfl
theorem intF_len (x : Int) : (intF x).length = 1 := rfl
theorem intF_one (x : Int) (u : Value) (h : u ∈ intF x) : u.oneCell' = true := by
  simp only [intF, List.mem_singleton] at h
  subst h
  rfl

theorem ORow.rowAt {w : World} {e : TypeId} {k : Nat} {X : Type} {f : X → List Value} (hf : ∀ x, (f x).length = k) {p : Option Addr} {n c : Nat} {l : List X} (h : ORow w e k f (.slice p n c) l) : RowAt w p k f l :=
  fun i x hi => h.cells hf hi

/-- What All answers: its list's row, or that it is none. -/
def AllRes (w w' : World) (F' : Nat → Prop) (o : Option (List Int)) (r : Value) : Prop :=
  match o with
  | some l => ∃ p c, r = .tuple #[.slice p l.length c, .int .i64 0] ∧ ORow w' 3 1 intF (.slice p l.length c) l ∧ ∀ j, (Value.slice p l.length c).ownBlock = some j → w.heap.size ≤ j ∧ ¬ F' j
  | none => r = .tuple #[.slice none 0 0, .int .i64 14]

section
variable {w : World} {TA TC : TypeId} {p cb : Nat} {F : Nat → Prop} {bs : List UInt8} {ts : List Tch} {base unit per : Nat} {head : Int}

/-- The state between two rounds of All. -/
structure AllI (w : World) (TA TC : TypeId) (p cb : Nat) (F : Nat → Prop) (bs : List UInt8) (ts : List Tch) (base unit per : Nat) (head : Int) (f : Nat) (pp : Option Addr) (nn cc : Nat) (k : Int) (w1 : World) (F1 : Nat → Prop) (acc : List Int) (dn : List Nat) : Prop where
  ar : Ar w1 TA p F1 bs (ts ++ readT base unit dn)
  ch : CH w1 TC cb p base unit per head
  nF : ¬ F1 cb
  sub : ∀ j, F1 j → F j ∨ w.heap.size ≤ j
  mod : Mod F w w1
  row : ORow w1 3 1 intF (.slice pp nn cc) acc
  own : ∀ j, (Value.slice pp nn cc).ownBlock = some j → w.heap.size ≤ j ∧ ¬ F1 j
  nn : nn = acc.length
  fuel : acc.length + f = per
  low : -1 ≤ k
  high : k < per
  dnl : dn.length ≤ acc.length
  cbl : cb < w.heap.size
  res : allR per (lkA bs base unit) per head [] = ((allR per (lkA bs base unit) f k acc).1, dn ++ (allR per (lkA bs base unit) f k acc).2)

theorem AllI.start (h : Ar w TA p F bs ts) (c : CH w TC cb p base unit per head) (g : CfgC bs.length base unit per head) (nF : ¬ F cb) : AllI w TA TC p cb F bs ts base unit per head per none 0 0 head w F [] [] :=
  ⟨by simpa [readT] using h, c, nF, fun j hj => .inl hj, Mod.refl _ _, ORow.nil _ _, fun j hj => by simp [Value.ownBlock] at hj, rfl, by simp, g.h0, g.h1, Nat.le_refl _, lt_of_blk c, by simp⟩

/-- The end: nothing is left. -/
theorem AllI.stop {f : Nat} {pp : Option Addr} {nn cc : Nat} {k : Int} {w1 : World} {F1 : Nat → Prop} {acc : List Int} {dn : List Nat} (I : AllI w TA TC p cb F bs ts base unit per head f pp nn cc k w1 F1 acc dn) (hk : k < 0) :
    AllRes w w1 F1 (allR per (lkA bs base unit) per head []).1 (.tuple #[.slice pp nn cc, .int .i64 0]) ∧ Ar w1 TA p F1 bs (ts ++ readT base unit (allR per (lkA bs base unit) per head []).2) := by
  have e : allR per (lkA bs base unit) f k acc = (some acc, []) := by cases f <;> simp [allR, hk]
  have hr := I.res
  rw [e] at hr
  rw [hr]
  have hrow := I.row
  have hown := I.own
  rw [I.nn] at hrow hown ⊢
  exact ⟨⟨pp, cc, rfl, hrow, hown⟩, by simpa using I.ar⟩

/-- The end: it turns in a ring, or is too long. -/
theorem AllI.full {f : Nat} {pp : Option Addr} {nn cc : Nat} {k : Int} {w1 : World} {F1 : Nat → Prop} {acc : List Int} {dn : List Nat} (I : AllI w TA TC p cb F bs ts base unit per head f pp nn cc k w1 F1 acc dn) (hk : ¬ k < 0) (hn : (nn : Int) = (per : Int)) :
    AllRes w w1 F1 (allR per (lkA bs base unit) per head []).1 (.tuple #[.slice none 0 0, .int .i64 14]) ∧ Ar w1 TA p F1 bs (ts ++ readT base unit (allR per (lkA bs base unit) per head []).2) := by
  have h0 : f = 0 := by have := I.fuel; have := I.nn; omega
  subst h0
  have e : allR per (lkA bs base unit) 0 k acc = (none, []) := by simp [allR, hk]
  have hr := I.res
  rw [e] at hr
  rw [hr]
  exact ⟨rfl, by simpa using I.ar⟩

/-- A block's link is read, and is none. -/
theorem AllI.bad {f : Nat} {pp : Option Addr} {nn cc : Nat} {k : Int} {w1 : World} {F1 : Nat → Prop} {acc : List Int} {dn : List Nat} (I : AllI w TA TC p cb F bs ts base unit per head f pp nn cc k w1 F1 acc dn) (hk : ¬ k < 0) (hn : (nn : Int) ≠ (per : Int))
    (hb : per < lkA bs base unit k.toNat) {w2 : World} {F2 : Nat → Prop} (h2 : Ar w2 TA p F2 bs (ts ++ readT base unit dn ++ [(((base + k.toNat * unit : Nat) : Int), 8, false)])) :
    AllRes w w2 F2 (allR per (lkA bs base unit) per head []).1 (.tuple #[.slice none 0 0, .int .i64 14]) ∧ Ar w2 TA p F2 bs (ts ++ readT base unit (allR per (lkA bs base unit) per head []).2) := by
  obtain ⟨f', rfl⟩ : ∃ f', f = f' + 1 := ⟨f - 1, by have := I.fuel; have := I.nn; omega⟩
  have e : allR per (lkA bs base unit) (f' + 1) k acc = (none, [k.toNat]) := by simp only [allR]; rw [if_neg hk, if_pos hb]
  have hr := I.res
  rw [e] at hr
  rw [hr]
  refine ⟨rfl, ?_⟩
  simpa [readT, List.append_assoc] using h2

/-- A round: the block is noted, its link is read. -/
theorem AllI.round {f : Nat} {pp : Option Addr} {nn cc : Nat} {k : Int} {w1 : World} {F1 : Nat → Prop} {acc : List Int} {dn : List Nat} (I : AllI w TA TC p cb F bs ts base unit per head f pp nn cc k w1 F1 acc dn) (hk : ¬ k < 0) (hn : (nn : Int) ≠ (per : Int))
    (hb : ¬ per < lkA bs base unit k.toNat) {pp' : Option Addr} {c' : Nat} {w2 w3 : World} {F3 : Nat → Prop} (hm2 : Mod (fun j => (Value.slice pp nn cc).ownBlock = some j) w1 w2) (h2 : Ar w2 TA p F1 bs (ts ++ readT base unit dn))
    (hrow2 : ORow w2 3 1 intF (.slice pp' (acc.length + 1) c') (acc ++ [k])) (hown2 : ∀ j, (Value.slice pp' (acc.length + 1) c').ownBlock = some j → (Value.slice pp nn cc).ownBlock = some j ∨ w1.heap.size ≤ j)
    (h3 : Ar w3 TA p F3 bs (ts ++ readT base unit dn ++ [(((base + k.toNat * unit : Nat) : Int), 8, false)])) (hm3 : Mod F1 w2 w3) (hF3 : ∀ j, F3 j → F1 j ∨ w2.heap.size ≤ j) (hlt1 : ∀ j, F1 j → j < w1.heap.size) :
    AllI w TA TC p cb F bs ts base unit per head (f - 1) pp' (acc.length + 1) c' ((lkA bs base unit k.toNat : Int) - 1) w3 F3 (acc ++ [k]) (dn ++ [k.toNat]) ∧ f - 1 < f := by
  have hnn := I.nn
  have hfu := I.fuel
  obtain ⟨f', rfl⟩ : ∃ f', f = f' + 1 := ⟨f - 1, by omega⟩
  rw [Nat.add_sub_cancel]
  have e : allR per (lkA bs base unit) (f' + 1) k acc = ((allR per (lkA bs base unit) f' ((lkA bs base unit k.toNat : Int) - 1) (acc ++ [k])).1, k.toNat :: (allR per (lkA bs base unit) f' ((lkA bs base unit k.toNat : Int) - 1) (acc ++ [k])).2) := by
    conv => lhs; unfold allR
    rw [if_neg hk, if_neg hb]
  have hr := I.res
  rw [e] at hr
  have hcb := lt_of_blk I.ch
  have hs1 := I.mod.size
  have hs2 := hm2.size
  have hsr := hrow2.lt
  have own12 : ∀ j, (Value.slice pp' (acc.length + 1) c').ownBlock = some j → w.heap.size ≤ j ∧ ¬ F1 j := fun j hj => by
    rcases hown2 j hj with q | q
    · exact I.own j q
    · exact ⟨by omega, fun x => by have := hlt1 j x; omega⟩
  refine ⟨⟨?_, (I.ch.keep hm2 fun q => by have := (I.own cb q).1; have := I.cbl; omega).keep hm3 I.nF, fun q => (hF3 cb q).elim I.nF (fun x => by omega), fun j hj => ?_, ?_, hrow2.keep hm3 fun j hj => (own12 j hj).2, fun j hj => ⟨(own12 j hj).1, fun q => (hF3 j q).elim (own12 j hj).2 (fun x => by have := hsr j hj; omega)⟩, by simp, ?_, by omega, by omega, ?_, I.cbl, ?_⟩, Nat.lt_succ_self _⟩
  · simpa [readT, List.append_assoc] using h3
  · rcases hF3 j hj with q | q
    · exact I.sub j q
    · exact .inr (by omega)
  · exact Mod.trans (Mod.trans I.mod hm2 (fun j hj hj' => by have := (I.own j hj').1; omega)) hm3 (fun j hj hj' => (I.sub j hj').elim id (fun x => by omega))
  · simp only [List.length_append, List.length_singleton]; omega
  · have := I.dnl
    simp only [List.length_append, List.length_singleton]; omega
  · rw [hr]
    simp [List.append_assoc]

/-- What lies behind All. -/
def AllPost (w : World) (TA TC : TypeId) (p cb : Nat) (F : Nat → Prop) (bs : List UInt8) (ts : List Tch) (base unit per : Nat) (head : Int) (r : Value) (w' : World) : Prop :=
  ∃ F', Ar w' TA p F' bs (ts ++ readT base unit (allR per (lkA bs base unit) per head []).2) ∧ CH w' TC cb p base unit per head ∧ Mod F w w' ∧ (∀ j, F' j → F j ∨ w.heap.size ≤ j) ∧ AllRes w w' F' (allR per (lkA bs base unit) per head []).1 r

theorem AllI.post {f : Nat} {pp : Option Addr} {nn cc : Nat} {k : Int} {w1 : World} {F1 : Nat → Prop} {acc : List Int} {dn : List Nat} (I : AllI w TA TC p cb F bs ts base unit per head f pp nn cc k w1 F1 acc dn) {r : Value}
    (h : AllRes w w1 F1 (allR per (lkA bs base unit) per head []).1 r ∧ Ar w1 TA p F1 bs (ts ++ readT base unit (allR per (lkA bs base unit) per head []).2)) : AllPost w TA TC p cb F bs ts base unit per head r w1 :=
  ⟨F1, h.2, I.ch, I.mod, I.sub, h.1⟩

/-- One pass through the body of All. -/
theorem all_body (g : CfgC bs.length base unit per head) (hl : ts.length < 549755813000) {f : Nat} {pp : Option Addr} {nn cc : Nat} {k : Int} {w1 : World} {F1 : Nat → Prop} {acc : List Int} {dn : List Nat}
    (I : AllI w TA TC p cb F bs ts base unit per head f pp nn cc k w1 F1 acc dn) {K : Option Addr → Nat → Nat → Int → World → Prop}
    (hK : ∀ (f' : Nat) (pp' : Option Addr) (n' c' : Nat) (k' : Int) (w3 : World) (F3 : Nat → Prop) (acc' : List Int) (dn' : List Nat), AllI w TA TC p cb F bs ts base unit per head f' pp' n' c' k' w3 F3 acc' dn' → f' < f → K pp' n' c' k' w3) :
    ifB (decide (k < 0)) (AllPost w TA TC p cb F bs ts base unit per head (.tuple #[.slice pp nn cc, .int .i64 0]) w1) (someA (some ⟨cb, 0, none⟩) fun a2 => ∃ i3 : Int, w1.cell? (a2.add 3) = some (.int .i64 i3) ∧
      ifB ((nn : Int) == i3) (AllPost w TA TC p cb F bs ts base unit per head (.tuple #[.slice none 0 0, .int .i64 14]) w1) (∀ (n4 : Nat) (w5 : World), n4 = w1.heap.size → w5 = w1.alloc (.cells #[.int .i64 k] 3) →
        ∃ (p6 : Option Addr) (n7 n8 : Nat) (w9 : World), Sem.run Try.prog (Builtin.append_ #[82, 82] 82 #[.slice pp nn cc, .slice (some (Addr.mk n4 0 none)) 1 1]) w5 = .ok (.slice p6 n7 n8) w9 ∧
          CallS Try.prog 68 #[.pointer (some ⟨cb, 0, none⟩), .int .i64 k] w9 fun v10 w11 => ∃ i12 i13 : Int, v10 = .tuple #[.int .i64 i12, .int .i64 i13] ∧
            ifB (i13 != 0) (AllPost w TA TC p cb F bs ts base unit per head (.tuple #[.slice none 0 0, .int .i64 i13]) w11) (K p6 n7 n8 i12 w11))) := by
  refine ifD (fun hk => I.post (I.stop hk)) (fun hk => ?_)
  simp only [someA, add_mk, Nat.zero_add]
  refine ⟨_, cell_blk I.ch rfl, ifB_intro (fun hq => I.post (I.full hk (eq_of_beq hq))) (fun hq => ?_)⟩
  have hq : (nn : Int) ≠ (per : Int) := by simpa using hq
  have hnn := I.nn
  have hfu := I.fuel
  have hdl := I.dnl
  have hlow := I.low
  have hhigh := I.high
  have hp64 := g.p64
  refine al_intro fun b w5 hb hE5 hs5 hs5' => ?_
  have hrow5 := I.row.keep (Ext.mod (F := fun _ => False) hE5) (fun _ _ x => x)
  obtain ⟨p', c', w9, hr, ho, hm9, hne⟩ := ORow.push elemI intF_len intF_one hrow5 82 ⟨b, 0, none⟩ 1 k (cells_all (vs := [_]) hb) (by simp only [maxLen]; omega) (by omega)
  refine ⟨p', _, c', w9, hr, ?_⟩
  have hlt1 := I.ar.lt
  have hm19 : Mod (fun j => (Value.slice pp nn cc).ownBlock = some j) w1 w9 := Mod.trans hE5.mod hm9 (fun _ _ x => x)
  have h9 : Ar w9 TA p F1 bs (ts ++ readT base unit dn) := I.ar.keep hm19 (fun j hj hj' => (I.own j hj').2 hj)
  have c9 : CH w9 TC cb p base unit per head := I.ch.keep hm19 (fun q => by have := (I.own cb q).1; have := I.cbl; omega)
  obtain ⟨kn, rfl⟩ := Int.eq_ofNat_of_zero_le (show 0 ≤ k by omega)
  refine .of (next_any h9 c9 g I.nF (by simp [readT]; omega) (k := kn) (by omega)) ?_
  rintro r w11 ⟨x, rfl, hx, F3, h11, hm11, hF3⟩
  refine ⟨_, _, rfl, ?_⟩
  have hown' : ∀ j, (Value.slice p' (acc.length + 1) c').ownBlock = some j → (Value.slice pp nn cc).ownBlock = some j ∨ w1.heap.size ≤ j := fun j hj => (hne j hj).imp id (fun q => by have := hE5.size; omega)
  by_cases hbad : per < lkA bs base unit kn
  · rw [if_pos hbad]
    refine ifB_true rfl ⟨F3, (I.bad hk hq (by simpa using hbad) (by simpa using h11)).2, c9.keep hm11 I.nF, ?_, ?_, (I.bad hk hq (by simpa using hbad) (by simpa using h11)).1⟩
    · exact Mod.trans (Mod.trans I.mod hm19 (fun j hj hj' => by have := (I.own j hj').1; omega)) hm11 (fun j hj hj' => (I.sub j hj').elim id (fun q => by omega))
    · exact fun j hj => (hF3 j hj).elim (I.sub j) (fun q => .inr (by have := I.mod.size; have := hm19.size; omega))
  · rw [if_neg hbad]
    have hx := hx (by omega)
    obtain ⟨I', hlt⟩ := I.round hk hq (by simpa using hbad) hm19 h9 ho hown' (by simpa using h11) hm11 hF3 hlt1
    refine ifB_false rfl ?_
    rw [hx]
    exact hK _ _ _ _ _ _ _ _ _ (by simpa using I') hlt

/-! ### the reference's chain -/

theorem lie_any (h : Ar w TA p F bs ts) (b : Int) (hu : unit ≤ 512) (hp : per ≤ 64) : Calls Try.prog 74 #[.pointer (some ⟨p, 0, none⟩), .int .i64 b, .int .i64 (unit : Int), .int .i64 (per : Int)] w
    (Ret fun r w' => r = .bool (decide (0 ≤ b ∧ b + (unit * per : Nat) ≤ bs.length)) ∧ w' = w) := by
  have hsm := h.small
  have hmul : unit * per ≤ 512 * 64 := Nat.mul_le_mul hu hp
  obtain ⟨gb, v, h, rfl⟩ := h
  refine VC.garthref11_lie.ok ?_
  unfold VC.garthref11_lie
  refine ifD (fun h0 => ⟨_, _, _, h.slot0, ifD (fun h1 => ⟨_, _, _, h.slot0, ?_, rfl⟩) (fun h1 => ⟨by rw [decide_eq_false (by omega)], rfl⟩)⟩) (fun h0 => ⟨by rw [decide_eq_false (by omega)], rfl⟩)
  rw [← Int.natCast_mul, wrap_i64 (n := ((unit * per : Nat) : Int)) (by omega) (by omega), wrap_i64 (by omega) (by omega)]
  exact congrArg Value.bool (decide_eq_decide.2 (by omega))

theorem rcnew_any (h : Ar w TA p F bs ts) (b u r : Int) : Calls Try.prog 54 #[.pointer (some ⟨p, 0, none⟩), .int .i64 b, .int .i64 u, .int .i64 r] w (Ret (NewC w TA 88 p F bs.length b u r)) := by
  have hsm := h.small
  refine VC.garthref11_New.ok ?_
  unfold VC.garthref11_New
  refine ifD (fun q => .inl ⟨by omega, rfl, rfl⟩) (fun h1 => ifD (fun q => .inl ⟨by omega, rfl, rfl⟩) (fun h2 => ifD (fun q => .inl ⟨by omega, rfl, rfl⟩) (fun h3 => ifD (fun q => .inl ⟨by omega, rfl, rfl⟩) (fun h4 => ?_))))
  obtain ⟨un, rfl⟩ := Int.eq_ofNat_of_zero_le (show 0 ≤ u by omega)
  obtain ⟨rn, rfl⟩ := Int.eq_ofNat_of_zero_le (show 0 ≤ r by omega)
  refine .of (lie_any h b (by omega) (by omega)) ?_
  rintro v w1 ⟨rfl, rfl⟩
  refine ⟨_, rfl, ?_⟩
  rw [Int.natCast_mul]
  by_cases hok : 0 ≤ b ∧ b + (un : Int) * (rn : Int) ≤ bs.length
  · rw [decide_eq_true hok]
    obtain ⟨bn, rfl⟩ := Int.eq_ofNat_of_zero_le hok.1
    have q6 := hok.2
    rw [← Int.natCast_mul] at q6
    exact ifB_false rfl (al_intro fun cb w2 hcb hE _ _ => .inr ⟨cb, bn, un, rn, rfl, rfl, rfl, rfl, hcb, ⟨by omega, by omega, by omega, by omega, by omega, hsm, by omega, by omega⟩, hE, by omega⟩)
  · rw [decide_eq_false hok]
    exact ifB_true rfl (.inl ⟨fun q => hok q.2.2.2.2, rfl, rfl⟩)

theorem rcpush_any (h : Ar w TA p F bs ts) (c : CH w TC cb p base unit per head) (g : CfgC bs.length base unit per head) (nF : ¬ F cb) (hl : ts.length < 549755813888) (k : Int) :
    Calls Try.prog 58 #[.pointer (some ⟨cb, 0, none⟩), .int .i64 k] w (Ret fun r w' => r = .int .i64 (pushE per k) ∧
      CPost w TA TC p cb F (pushB bs base unit per head k) (pushT ts base unit per k) base unit per (pushH per head k) w') := by
  have hp64 := g.p64
  have hh0 := g.h0
  have hh1 := g.h1
  have hn21 := g.n21
  refine VC.garthref11_Chain_Push.ok ?_
  unfold VC.garthref11_Chain_Push
  have out : ¬ InC per k → (Value.int .i64 12 = .int .i64 (pushE per k) ∧ CPost w TA TC p cb F (pushB bs base unit per head k) (pushT ts base unit per k) base unit per (pushH per head k) w) := fun q => by
    rw [pushE, pushB, pushT, pushH, if_neg q, if_neg q, if_neg q, if_neg q]
    exact ⟨rfl, F, h, c, Mod.refl _ _, fun j hj => .inl hj⟩
  simp only [someA, add_mk, Nat.zero_add]
  refine ifD (fun q => out fun x => by have := x.1; omega) (fun h0 => ⟨_, cell_blk c rfl, ifD (fun q => out fun x => by have := x.2; omega) (fun h1 => ?_)⟩)
  have hin : InC per k := ⟨by omega, by omega⟩
  obtain ⟨kn, rfl⟩ := Int.eq_ofNat_of_zero_le hin.1
  have hkn : kn < per := by omega
  rintro w2 rfl
  have hE := Ext.drew w
  have c2 : CH w.drew TC cb p base unit per head := c.keep hE (fun x => x)
  obtain ⟨hd, hhd⟩ := Int.eq_ofNat_of_zero_le (show 0 ≤ head + 1 by omega)
  have ew : IntKind.u64.wrap (IntKind.i64.wrap (head + 1)) = (hd : Int) := by rw [hhd, wrap_i64 (by omega) (by omega), wrap_u64 (by omega) (by omega)]
  obtain ⟨g1, g2⟩ := g.at hkn
  have ea : IntKind.i64.wrap ((base : Int) + IntKind.i64.wrap ((kn : Int) * (unit : Int))) = ((base + kn * unit : Nat) : Int) := by
    rw [← Int.natCast_mul, wrap_i64 (n := ((kn * unit : Nat) : Int)) (by omega) (by omega), ← Int.natCast_add, wrap_i64 (by omega) (by omega)]
  refine ⟨_, cell_blk c2 rfl, _, cell_blk c2 rfl, _, cell_blk c2 rfl, _, cell_blk c2 rfl, by trivial, ?_⟩
  rw [ew, ea]
  refine .of (refstore_ok (h.ext hE) (by omega) g1 hl) ?_
  rintro r w4 ⟨rfl, F', h4, hm4, hF'⟩
  have c4 : CH w4 TC cb p base unit per head := c2.keep hm4 nF
  have hlt := lt_of_blk c
  have nF' : ¬ F' cb := fun q => (hF' cb q).elim nF (fun x => by have := hE.size; omega)
  refine ⟨_, rfl, ?_⟩
  refine wr_intro (n := 1) c4 (by simp) fun w5 hc5 hm5 _ => ⟨by rw [pushE, if_pos hin], F', ?_, ?_, ?_, ?_⟩
  · rw [pushB, pushT, if_pos hin, if_pos hin, hhd, Int.toNat_natCast, Int.toNat_natCast]
    exact h4.keep hm5 (fun j hj e => nF' (by rw [← e]; exact hj))
  · rw [pushH, if_pos hin]
    exact hc5
  · exact Mod.trans (Mod.trans (hE.mod (F := fun j => F j ∨ j = cb)) hm4 (fun j _ hj => .inl hj)) hm5 (fun j _ hj => .inr hj)
  · exact fun j hj => (hF' j hj).imp id (fun x => Nat.le_trans hE.size x)

theorem rcpop_any (h : Ar w TA p F bs ts) (c : CH w TC cb p base unit per head) (g : CfgC bs.length base unit per head) (nF : ¬ F cb) (hl : ts.length < 549755813800) :
    Calls Try.prog 56 #[.pointer (some ⟨cb, 0, none⟩)] w (Ret fun r w' => r = .tuple #[.int .i64 (popI bs base unit per head), .int .i64 (popE bs base unit per head)] ∧
      CPost w TA TC p cb F (popB bs base unit per head) (popT bs ts base unit per head) base unit per (popH bs base unit per head) w') := by
  have hp64 := g.p64
  have hh0 := g.h0
  have hh1 := g.h1
  have hn21 := g.n21
  refine VC.garthref11_Chain_Pop.ok ?_
  unfold VC.garthref11_Chain_Pop
  simp only [someA, add_mk, Nat.zero_add]
  refine ⟨_, cell_blk c rfl, ifD (fun hneg => ?_) (fun hpos => ?_)⟩
  · simp only [popI, popE, popB, popT, popH, if_pos hneg]
    exact ⟨by trivial, F, h, c, Mod.refl _ _, fun j hj => .inl hj⟩
  obtain ⟨k, rfl⟩ := Int.eq_ofNat_of_zero_le (show 0 ≤ head by omega)
  have hk : k < per := by omega
  obtain ⟨g1, g2⟩ := g.at hk
  have ea : IntKind.i64.wrap ((base : Int) + IntKind.i64.wrap ((k : Int) * (unit : Int))) = ((base + k * unit : Nat) : Int) := by
    rw [← Int.natCast_mul, wrap_i64 (n := ((k * unit : Nat) : Int)) (by omega) (by omega), ← Int.natCast_add, wrap_i64 (by omega) (by omega)]
  rintro w2 rfl
  have hE := Ext.drew w
  have c2 : CH w.drew TC cb p base unit per k := c.keep hE (fun x => x)
  refine ⟨_, cell_blk c2 rfl, _, cell_blk c2 rfl, _, cell_blk c2 rfl, _, cell_blk c2 rfl, ?_⟩
  rw [ea]
  refine .of (refload_ok (h.ext hE) g1 (by omega)) ?_
  rintro r w3 ⟨rfl, F1, h3, hm3, hF1⟩
  have c3 : CH w3 TC cb p base unit per k := c2.keep hm3 nF
  have hlt := lt_of_blk c
  have hsE := hE.size
  have nF1 : ¬ F1 cb := fun q => (hF1 cb q).elim nF (fun y => by omega)
  have hv := leV8_lt bs (base + k * unit)
  have hm03 : Mod F w w3 := Mod.trans hE.mod hm3 (fun _ _ x => x)
  refine ⟨_, _, rfl, ?_⟩
  refine ⟨_, cell_blk c3 rfl, ?_⟩
  rw [wrap_u64 (n := (per : Int)) (by omega) (by omega)]
  simp only [popI, popE, popB, popT, popH, if_neg hpos, Int.toNat_natCast]
  refine ifD (fun hgt => ?_) (fun hgt => ?_)
  · have hbad : per < lkA bs base unit k := by have hgt : (lkA bs base unit k : Int) > per := hgt; omega
    simp only [if_pos hbad]
    exact ⟨by trivial, F1, h3, c3, hm03.mono (fun j hj => .inl hj), fun j hj => (hF1 j hj).imp id (fun q => by omega)⟩
  have hbad : ¬ per < lkA bs base unit k := by have hgt : ¬ (lkA bs base unit k : Int) > per := hgt; omega
  simp only [if_neg hbad]
  rintro w4 rfl
  have hE4 := Ext.drew w3
  have c4 : CH w3.drew TC cb p base unit per k := c3.keep hE4 (fun x => x)
  refine ⟨_, cell_blk c4 rfl, _, cell_blk c4 rfl, _, cell_blk c4 rfl, _, cell_blk c4 rfl, ?_⟩
  rw [ea]
  refine .of (refstore_ok (x := 0) (h3.ext hE4) (by omega) g1 (by simp; omega)) ?_
  rintro r w5 ⟨rfl, F5, h5, hm5, hF5⟩
  have c5 : CH w5 TC cb p base unit per k := c4.keep hm5 nF1
  have hs4 := hE4.size
  have hs3 := hm03.size
  have nF5 : ¬ F5 cb := fun q => (hF5 cb q).elim nF1 (fun y => by omega)
  refine ⟨_, rfl, _, cell_blk c5 rfl, ?_⟩
  have ex : IntKind.i64.wrap (IntKind.i64.wrap (lkA bs base unit k : Int) - 1) = (lkA bs base unit k : Int) - 1 := by rw [wrap_i64 (n := (lkA bs base unit k : Int)) (by omega) (by omega), wrap_i64 (by omega) (by omega)]
  rw [ex]
  refine wr_intro (n := 1) c5 (by simp) fun w6 hc6 hm6 _ => ⟨by trivial, F5, h5.keep hm6 (fun j hj e => nF5 (by rw [← e]; exact hj)), hc6, ?_, ?_⟩
  · have m1 : Mod (fun j => F j ∨ j = cb) w w3.drew := Mod.trans (hm03.mono (G := fun j => F j ∨ j = cb) (fun j hj => .inl hj)) hE4 (fun j _ hj => hj.elim)
    exact Mod.trans (Mod.trans m1 hm5 (fun j hj hj' => (hF1 j hj').imp id (fun y => by omega))) hm6 (fun j _ hj => .inr hj)
  · intro j hj
    rcases hF5 j hj with q | q
    · exact (hF1 j q).imp id (fun y => by omega)
    · exact .inr (by omega)

theorem rctake_any {db : Nat} {base' unit' per' : Nat} {head' : Int} (c : CH w TC cb p base unit per head) (d : CH w TC db p base' unit' per' head') (hne : cb ≠ db) :
    Calls Try.prog 55 #[.pointer (some ⟨cb, 0, none⟩), .pointer (some ⟨db, 0, none⟩)] w (Ret fun r w' => r = .int .i64 (if 0 ≤ head then 7 else 0) ∧
      CH w' TC cb p base unit per (if 0 ≤ head then head else head') ∧ CH w' TC db p base' unit' per' (if 0 ≤ head then head' else -1) ∧ Mod (fun j => j = cb ∨ j = db) w w') := by
  refine VC.garthref11_Chain_Take.ok ?_
  unfold VC.garthref11_Chain_Take
  simp only [someA, add_mk, Nat.zero_add]
  refine ⟨_, cell_blk c rfl, ifD (fun h0 => ?_) (fun h0 => ⟨_, cell_blk d rfl, ?_⟩)⟩
  · rw [if_pos h0, if_pos h0, if_pos h0]
    exact ⟨rfl, c, d, Mod.refl _ _⟩
  · have h0 : ¬ 0 ≤ head := h0
    rw [if_neg h0, if_neg h0, if_neg h0]
    refine wr_intro (n := 1) c (by simp) fun w1 hc1 hm1 _ => ?_
    have d1 : CH w1 TC db p base' unit' per' head' := d.keep hm1 (fun e => hne e.symm)
    refine wr_intro (n := 1) d1 (by simp) fun w2 hd2 hm2 _ => ⟨rfl, ?_, hd2, Mod.trans (hm1.mono fun j hj => .inl hj) hm2 (fun j _ hj => .inr hj)⟩
    exact hm2.keep hc1 hne

theorem rcmove_any (h : Ar w TA p F bs ts) (c : CH w TC cb p base unit per head) (g : CfgC bs.length base unit per head) (nF : ¬ F cb) (b : Int) :
    Calls Try.prog 60 #[.pointer (some ⟨cb, 0, none⟩), .int .i64 b] w (Ret fun r w' => r = .int .i64 (moveE bs.length unit per b) ∧ CPost w TA TC p cb F bs ts (if moveE bs.length unit per b = 0 then b.toNat else base) unit per head w') := by
  refine VC.garthref11_Chain_Move.ok ?_
  unfold VC.garthref11_Chain_Move
  rintro w0 rfl
  have hE := Ext.drew w
  have c0 : CH w.drew TC cb p base unit per head := c.keep hE (fun x => x)
  simp only [someA, add_mk, Nat.zero_add]
  refine ⟨_, cell_blk c0 rfl, _, cell_blk c0 rfl, _, cell_blk c0 rfl, .of (lie_any (h.ext hE) b g.u512 g.p64) ?_⟩
  rintro r w1 ⟨rfl, rfl⟩
  refine ⟨_, rfl, by trivial, ?_⟩
  by_cases hok : 0 ≤ b ∧ b + (unit * per : Nat) ≤ bs.length
  · have e : moveE bs.length unit per b = 0 := if_pos hok
    rw [decide_eq_true hok, e, if_pos rfl]
    refine ifB_false rfl ?_
    refine wr_intro (n := 1) c0 (by simp) fun w2 hc2 hm2 _ => ⟨rfl, F, (h.ext hE).keep hm2 (fun j hj e => nF (by rw [← e]; exact hj)), ?_, ?_, fun j hj => .inl hj⟩
    · obtain ⟨bn, rfl⟩ := Int.eq_ofNat_of_zero_le hok.1
      exact hc2
    · exact Mod.trans (hE.mod (F := fun j => F j ∨ j = cb)) hm2 (fun j _ hj => .inr hj)
  · have e : moveE bs.length unit per b = 12 := if_neg hok
    rw [decide_eq_false hok, e, if_neg (by decide)]
    exact ifB_true rfl ⟨rfl, F, h.ext hE, c0, hE.mod, fun j hj => .inl hj⟩

end

/-! ### two lists are compared -/

end Go.Proofs.Ytkbgiflmecaffaa
