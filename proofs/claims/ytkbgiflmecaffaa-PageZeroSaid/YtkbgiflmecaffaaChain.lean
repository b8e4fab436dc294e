/- A chain in memory, and contracts of package chain. Conditions: the chain and its arena are there. -/
import Derived.Test.YtkbgiflmecaffaaBytes
import Derived.Test.YtkbgiflmecaffaaArenaRef
import Derived.Test.YtkbgiflmecaffaaGwOwn
import Derived.Test.YtkbgiflmecaffaaGwLaw
set_option linter.unusedVariables false
set_option linter.unusedSimpArgs false
namespace Go.Proofs.Ytkbgiflmecaffaa
open Go.RowKit

/-! ### words that are there -/

section
variable {w : World} {T : TypeId} {p : Nat} {F : Nat → Prop} {bs : List UInt8} {ts : List Tch}

theorem Ar.ext {w' : World} (h : Ar w T p F bs ts) (hE : Ext w w') : Ar w' T p F bs ts := h.keep hE (fun _ _ x => x)

theorem store_ok (h : Ar w T p F bs ts) {a x : Nat} (hx : x < 18446744073709551616) (ha : a + 8 ≤ bs.length) (hl : ts.length < 549755813888) :
    Calls Try.prog 69 #[.pointer (some ⟨p, 0, none⟩), .int .i64 (a : Int), .int .u64 (x : Int)] w (Ret fun r w' => r = .int .i64 0 ∧ Post w T p F (putAt bs a (le8 x)) (ts ++ [((a : Int), 8, true)]) w') := by
  have hok : OkA bs.length (a : Int) 8 := ⟨by omega, by omega, by omega⟩
  refine call_mono (store_any h (a : Int) (x : Int) (by omega) (by omega) (by omega)) ?_
  rintro r w' ⟨rfl, hp⟩
  rw [if_pos hok, if_pos hok, Int.toNat_natCast, Int.toNat_natCast] at hp
  exact ⟨by rw [if_pos hok], hp⟩

theorem load_ok (h : Ar w T p F bs ts) {a : Nat} (ha : a + 8 ≤ bs.length) (hl : ts.length < 549755813888) :
    Calls Try.prog 81 #[.pointer (some ⟨p, 0, none⟩), .int .i64 (a : Int)] w (Ret fun r w' => r = .tuple #[.int .u64 ((leV (seg bs a 8) : Nat) : Int), .int .i64 0] ∧ Post w T p F bs (ts ++ [((a : Int), 8, false)]) w') := by
  have hok : OkA bs.length (a : Int) 8 := ⟨by omega, by omega, by omega⟩
  refine call_mono (load_any h (a : Int) (by omega)) ?_
  rintro r w' ⟨rfl, hp⟩
  rw [if_pos hok] at hp
  exact ⟨by rw [if_pos hok, if_pos hok, Int.toNat_natCast], hp⟩

theorem refstore_ok (h : Ar w T p F bs ts) {a x : Nat} (hx : x < 18446744073709551616) (ha : a + 8 ≤ bs.length) (hl : ts.length < 549755813888) :
    Calls Try.prog 76 #[.pointer (some ⟨p, 0, none⟩), .int .i64 (a : Int), .int .u64 (x : Int)] w (Ret fun r w' => r = .int .i64 0 ∧ Post w T p F (putAt bs a (le8 x)) (ts ++ [((a : Int), 8, true)]) w') := by
  have hok : OkA bs.length (a : Int) 8 := ⟨by omega, by omega, by omega⟩
  refine call_mono (refstore_any h (a : Int) (x : Int) (by omega) (by omega) (by omega)) ?_
  rintro r w' ⟨rfl, hp⟩
  rw [if_pos hok, if_pos hok, Int.toNat_natCast, Int.toNat_natCast] at hp
  exact ⟨by rw [if_pos hok], hp⟩

theorem refload_ok (h : Ar w T p F bs ts) {a : Nat} (ha : a + 8 ≤ bs.length) (hl : ts.length < 549755813888) :
    Calls Try.prog 75 #[.pointer (some ⟨p, 0, none⟩), .int .i64 (a : Int)] w (Ret fun r w' => r = .tuple #[.int .u64 ((leV (seg bs a 8) : Nat) : Int), .int .i64 0] ∧ Post w T p F bs (ts ++ [((a : Int), 8, false)]) w') := by
  have hok : OkA bs.length (a : Int) 8 := ⟨by omega, by omega, by omega⟩
  refine call_mono (refload_any h (a : Int) (by omega)) ?_
  rintro r w' ⟨rfl, hp⟩
  rw [if_pos hok] at hp
  exact ⟨by rw [if_pos hok, if_pos hok, Int.toNat_natCast], hp⟩

theorem leV8_lt (bs : List UInt8) (a : Nat) : leV (seg bs a 8) < 18446744073709551616 := by
  have h := leV_lt (seg bs a 8)
  have hl : (seg bs a 8).length ≤ 8 := by simp [seg, List.length_take]; omega
  exact Nat.lt_of_lt_of_le h (by calc 256 ^ (seg bs a 8).length ≤ 256 ^ 8 := Nat.pow_le_pow_right (by decide) hl
    _ = 18446744073709551616 := by decide)

end

/-! ### a chain -/

/-- The chain at block cb, in the arena at block p. -/
def CH (w : World) (T : TypeId) (cb p base unit per : Nat) (head : Int) : Prop :=
  w.heap[cb]? = some (.cells #[.pointer (some ⟨p, 0, none⟩), .int .i64 (base : Int), .int .i64 (unit : Int), .int .i64 (per : Int), .int .i64 head] T (0, 0))

theorem CH.keep {F : Nat → Prop} {w w' : World} {T : TypeId} {cb p base unit per : Nat} {head : Int} (h : CH w T cb p base unit per head) (hm : Mod F w w') (hF : ¬ F cb) : CH w' T cb p base unit per head := hm.keep (show w.heap[cb]? = _ from h) hF

structure CfgC (n base unit per : Nat) (head : Int) : Prop where
  u8 : 8 ≤ unit
  u512 : unit ≤ 512
  p1 : 1 ≤ per
  p64 : per ≤ 64
  fit : base + unit * per ≤ n
  n21 : n ≤ 2097152
  h0 : -1 ≤ head
  h1 : head < per

theorem CfgC.at {n base unit per : Nat} {head : Int} (g : CfgC n base unit per head) {k : Nat} (hk : k < per) : base + k * unit + 8 ≤ n ∧ k * unit ≤ n := by
  have h1 : (k + 1) * unit ≤ per * unit := Nat.mul_le_mul_right _ hk
  rw [Nat.add_mul, Nat.one_mul, Nat.mul_comm per] at h1
  have := g.fit
  have := g.u8
  omega

theorem CfgC.head {n base unit per : Nat} {head head' : Int} (g : CfgC n base unit per head) (h0 : -1 ≤ head') (h1 : head' < per) : CfgC n base unit per head' := ⟨g.u8, g.u512, g.p1, g.p64, g.fit, g.n21, h0, h1⟩

/-- What lies behind a call on a chain. -/
def CPost (w : World) (TA TC : TypeId) (p cb : Nat) (F : Nat → Prop) (bs : List UInt8) (ts : List Tch) (base unit per : Nat) (head : Int) (w' : World) : Prop :=
  ∃ F', Ar w' TA p F' bs ts ∧ CH w' TC cb p base unit per head ∧ Mod (fun j => F j ∨ j = cb) w w' ∧ ∀ j, F' j → F j ∨ w.heap.size ≤ j

/-- The link of block k. -/
abbrev lkA (bs : List UInt8) (base unit k : Nat) : Nat := leV (seg bs (base + k * unit) 8)

def InC (per : Nat) (k : Int) : Prop := 0 ≤ k ∧ k < per
instance (per : Nat) (k : Int) : Decidable (InC per k) := inferInstanceAs (Decidable (_ ∧ _))

def pushB (bs : List UInt8) (base unit per : Nat) (head k : Int) : List UInt8 := if InC per k then putAt bs (base + k.toNat * unit) (le8 (head + 1).toNat) else bs
def pushT (ts : List Tch) (base unit per : Nat) (k : Int) : List Tch := if InC per k then ts ++ [(((base + k.toNat * unit : Nat) : Int), 8, true)] else ts
def pushH (per : Nat) (head k : Int) : Int := if InC per k then k else head
def pushE (per : Nat) (k : Int) : Int := if InC per k then 0 else 12

def popI (bs : List UInt8) (base unit per : Nat) (head : Int) : Int := if head < 0 then 0 else if per < lkA bs base unit head.toNat then 0 else head
def popE (bs : List UInt8) (base unit per : Nat) (head : Int) : Int := if head < 0 then 13 else if per < lkA bs base unit head.toNat then 14 else 0
def popB (bs : List UInt8) (base unit per : Nat) (head : Int) : List UInt8 := if head < 0 then bs else if per < lkA bs base unit head.toNat then bs else putAt bs (base + head.toNat * unit) (le8 0)
def popT (bs : List UInt8) (ts : List Tch) (base unit per : Nat) (head : Int) : List Tch :=
  if head < 0 then ts else if per < lkA bs base unit head.toNat then ts ++ [(((base + head.toNat * unit : Nat) : Int), 8, false)] else ts ++ [(((base + head.toNat * unit : Nat) : Int), 8, false)] ++ [(((base + head.toNat * unit : Nat) : Int), 8, true)]
def popH (bs : List UInt8) (base unit per : Nat) (head : Int) : Int := if head < 0 then head else if per < lkA bs base unit head.toNat then head else (lkA bs base unit head.toNat : Int) - 1

def moveE (n unit per : Nat) (b : Int) : Int := if 0 ≤ b ∧ b + (unit * per : Nat) ≤ n then 0 else 12

/-- All: from block k on; acc: what was met; what is read. -/
def allR (per : Nat) (lk : Nat → Nat) : Nat → Int → List Int → Option (List Int) × List Nat
  | 0, k, acc => if k < 0 then (some acc, []) else (none, [])
  | f + 1, k, acc => if k < 0 then (some acc, []) else if per < lk k.toNat then (none, [k.toNat]) else
      ((allR per lk f ((lk k.toNat : Int) - 1) (acc ++ [k])).1, k.toNat :: (allR per lk f ((lk k.toNat : Int) - 1) (acc ++ [k])).2)

def readT (base unit : Nat) (l : List Nat) : List Tch := l.map fun k => (((base + k * unit : Nat) : Int), 8, false)

theorem allR_len (per : Nat) (lk : Nat → Nat) : ∀ (f : Nat) (k : Int) (acc : List Int), (allR per lk f k acc).2.length ≤ f
  | 0, k, acc => by unfold allR; split <;> simp
  | f + 1, k, acc => by
    unfold allR
    split
    · simp
    · split
      · simp
      · have := allR_len per lk f ((lk k.toNat : Int) - 1) (acc ++ [k])
        simp only [List.length_cons]
        omega

section
variable {w : World} {TA TC : TypeId} {p cb : Nat} {F : Nat → Prop} {bs : List UInt8} {ts : List Tch} {base unit per : Nat} {head : Int}

theorem at_any (c : CH w TC cb p base unit per head) (g : CfgC bs.length base unit per head) {k : Nat} (hk : k < per) :
    Calls Try.prog 70 #[.pointer (some ⟨cb, 0, none⟩), .int .i64 (k : Int)] w (Ret fun r w' => r = .int .i64 ((base + k * unit : Nat) : Int) ∧ Ext w w') := by
  refine VC.chain_Chain_at.ok ?_
  unfold VC.chain_Chain_at
  rintro w0 rfl
  have hE := Ext.drew w
  have c' : CH w.drew TC cb p base unit per head := c.keep hE (fun x => x)
  obtain ⟨h1, h2⟩ := g.at hk
  have hn := g.n21
  simp only [someA, add_mk, Nat.zero_add]
  refine ⟨_, cell_blk c' rfl, _, cell_blk c' rfl, ?_, hE⟩
  rw [← Int.natCast_mul, wrap_i64 (n := ((k * unit : Nat) : Int)) (by omega) (by omega), ← Int.natCast_add, wrap_i64 (by omega) (by omega)]

theorem next_any (h : Ar w TA p F bs ts) (c : CH w TC cb p base unit per head) (g : CfgC bs.length base unit per head) (nF : ¬ F cb) (hl : ts.length < 549755813888) {k : Nat} (hk : k < per) :
    Calls Try.prog 68 #[.pointer (some ⟨cb, 0, none⟩), .int .i64 (k : Int)] w (Ret fun r w' => ∃ x : Int, r = .tuple #[.int .i64 x, .int .i64 (if per < lkA bs base unit k then 14 else 0)] ∧
      (lkA bs base unit k ≤ per → x = (lkA bs base unit k : Int) - 1) ∧ Post w TA p F bs (ts ++ [(((base + k * unit : Nat) : Int), 8, false)]) w') := by
  refine VC.chain_Chain_next.ok ?_
  unfold VC.chain_Chain_next
  rintro w0 rfl
  have hE := Ext.drew w
  have c0 : CH w.drew TC cb p base unit per head := c.keep hE (fun x => x)
  simp only [someA, add_mk, Nat.zero_add]
  refine ⟨_, cell_blk c0 rfl, .of (at_any (bs := bs) c0 g hk) ?_⟩
  rintro r w1 ⟨rfl, hE1⟩
  have hE01 := hE.trans hE1
  have c1 : CH w1 TC cb p base unit per head := c0.keep hE1 (fun x => x)
  refine ⟨_, rfl, ⟨_, cell_blk c1 rfl, by trivial⟩, .of (load_ok (h.ext hE01) (g.at hk).1 hl) ?_⟩
  rintro r w2 ⟨rfl, F', h2, hm2, hF'⟩
  have c2 : CH w2 TC cb p base unit per head := c1.keep hm2 nF
  have hlt := leV8_lt bs (base + k * unit)
  have hp64 := g.p64
  have post : Post w TA p F bs (ts ++ [(((base + k * unit : Nat) : Int), 8, false)]) w2 := ⟨F', h2, Mod.trans (hE01.mod (F := F)) hm2 (fun _ _ x => x), fun j hj => (hF' j hj).imp id (fun x => Nat.le_trans hE01.size x)⟩
  refine ⟨_, _, rfl, ifB_true rfl ⟨_, cell_blk c2 rfl, ?_⟩⟩
  rw [wrap_u64 (n := (per : Int)) (by omega) (by omega)]
  refine ifD (fun hgt => ⟨_, by rw [if_pos (show per < lkA bs base unit k by have hgt : (lkA bs base unit k : Int) > per := hgt; omega)], fun hle => ?_, post⟩) (fun hgt => ⟨_, by rw [if_neg (show ¬ per < lkA bs base unit k by have hgt : ¬ (lkA bs base unit k : Int) > per := hgt; omega)], fun hle => ?_, post⟩)
  · have hgt : (lkA bs base unit k : Int) > per := hgt
    omega
  · rw [wrap_i64 (n := (leV (seg bs (base + k * unit) 8) : Int)) (by omega) (by omega), wrap_i64 (by omega) (by omega)]

theorem push_any (h : Ar w TA p F bs ts) (c : CH w TC cb p base unit per head) (g : CfgC bs.length base unit per head) (nF : ¬ F cb) (hl : ts.length < 549755813888) (k : Int) :
    Calls Try.prog 50 #[.pointer (some ⟨cb, 0, none⟩), .int .i64 k] w (Ret fun r w' => r = .int .i64 (pushE per k) ∧
      CPost w TA TC p cb F (pushB bs base unit per head k) (pushT ts base unit per k) base unit per (pushH per head k) w') := by
  have hp64 := g.p64
  have hh0 := g.h0
  have hh1 := g.h1
  refine VC.chain_Chain_Push.ok ?_
  unfold VC.chain_Chain_Push
  have out : ¬ InC per k → (Value.int .i64 12 = .int .i64 (pushE per k) ∧ CPost w TA TC p cb F (pushB bs base unit per head k) (pushT ts base unit per k) base unit per (pushH per head k) w) := fun q => by
    rw [pushE, pushB, pushT, pushH, if_neg q, if_neg q, if_neg q, if_neg q]
    exact ⟨rfl, F, h, c, Mod.refl _ _, fun j hj => .inl hj⟩
  simp only [someA, add_mk, Nat.zero_add]
  refine ⟨fun w1 => w1 = w ∧ InC per k, ifB_false rfl (ifD (fun q => out fun x => by have := x.1; omega) (fun h0 => ⟨_, cell_blk c rfl, ifD (fun q => out fun x => by have := x.2; omega) (fun h1 => ⟨rfl, ⟨by omega, by omega⟩⟩)⟩)), ?_⟩
  rintro jv w1 ⟨rfl, hin⟩
  obtain ⟨kn, rfl⟩ := Int.eq_ofNat_of_zero_le hin.1
  have hkn : kn < per := by have := hin.2; omega
  rintro w2 rfl
  have hE := Ext.drew w1
  have c2 : CH w1.drew TC cb p base unit per head := c.keep hE (fun x => x)
  refine ⟨_, cell_blk c2 rfl, _, cell_blk c2 rfl, by trivial, .of (at_any (bs := bs) c2 g hkn) ?_⟩
  rintro r w3 ⟨rfl, hE3⟩
  have c3 : CH w3 TC cb p base unit per head := c2.keep hE3 (fun x => x)
  obtain ⟨hd, hhd⟩ := Int.eq_ofNat_of_zero_le (show 0 ≤ head + 1 by omega)
  have ew : IntKind.u64.wrap (IntKind.i64.wrap (head + 1)) = (hd : Int) := by rw [hhd, wrap_i64 (by omega) (by omega), wrap_u64 (by omega) (by omega)]
  have hE13 := hE.trans hE3
  rw [ew]
  refine ⟨_, rfl, ⟨by trivial, by trivial⟩, by trivial, ⟨_, cell_blk c3 rfl, by trivial⟩, ⟨_, cell_blk c3 rfl, by trivial⟩, .of (store_ok (h.ext hE13) (by omega) (g.at hkn).1 hl) ?_⟩
  rintro r w4 ⟨rfl, F', h4, hm4, hF'⟩
  have c4 : CH w4 TC cb p base unit per head := c3.keep hm4 nF
  have hlt := lt_of_blk c
  have nF' : ¬ F' cb := fun q => (hF' cb q).elim nF (fun x => by have := hE13.size; omega)
  refine ⟨_, rfl, ?_⟩
  refine wr_intro (n := 1) c4 (by simp) fun w5 hc5 hm5 _ => ⟨by rw [pushE, if_pos hin], F', ?_, ?_, ?_, ?_⟩
  · rw [pushB, pushT, if_pos hin, if_pos hin, hhd, Int.toNat_natCast, Int.toNat_natCast]
    exact h4.keep hm5 (fun j hj e => nF' (by rw [← e]; exact hj))
  · rw [pushH, if_pos hin]
    exact hc5
  · exact Mod.trans (Mod.trans (hE13.mod (F := fun j => F j ∨ j = cb)) hm4 (fun j _ hj => .inl hj)) hm5 (fun j _ hj => .inr hj)
  · exact fun j hj => (hF' j hj).imp id (fun x => Nat.le_trans hE13.size x)

theorem pop_any (h : Ar w TA p F bs ts) (c : CH w TC cb p base unit per head) (g : CfgC bs.length base unit per head) (nF : ¬ F cb) (hl : ts.length < 549755813800) :
    Calls Try.prog 43 #[.pointer (some ⟨cb, 0, none⟩)] w (Ret fun r w' => r = .tuple #[.int .i64 (popI bs base unit per head), .int .i64 (popE bs base unit per head)] ∧
      CPost w TA TC p cb F (popB bs base unit per head) (popT bs ts base unit per head) base unit per (popH bs base unit per head) w') := by
  have hp64 := g.p64
  have hh0 := g.h0
  have hh1 := g.h1
  refine VC.chain_Chain_Pop.ok ?_
  unfold VC.chain_Chain_Pop
  simp only [someA, add_mk, Nat.zero_add]
  refine ifB_false rfl ⟨_, cell_blk c rfl, ifD (fun hneg => ?_) (fun hpos => ⟨_, cell_blk c rfl, ?_⟩)⟩
  · simp only [popI, popE, popB, popT, popH, if_pos hneg]
    exact ⟨by trivial, F, h, c, Mod.refl _ _, fun j hj => .inl hj⟩
  obtain ⟨k, rfl⟩ := Int.eq_ofNat_of_zero_le (show 0 ≤ head by omega)
  have hk : k < per := by omega
  simp only [popI, popE, popB, popT, popH, if_neg hpos, Int.toNat_natCast]
  refine .of (next_any h c g nF (by omega) hk) ?_
  rintro r w1 ⟨x, rfl, hx, F1, h1, hm1, hF1⟩
  have c1 : CH w1 TC cb p base unit per k := c.keep hm1 nF
  have hlt := lt_of_blk c
  have nF1 : ¬ F1 cb := fun q => (hF1 cb q).elim nF (fun y => by omega)
  refine ⟨_, _, rfl, ?_⟩
  by_cases hbad : per < lkA bs base unit k
  · simp only [if_pos hbad]
    exact ifB_true rfl ⟨by trivial, F1, h1, c1, hm1.mono (fun j hj => .inl hj), hF1⟩
  simp only [if_neg hbad]
  have hx := hx (by omega)
  refine ifB_false rfl ?_
  refine wr_intro (n := 1) c1 (by simp) fun w2 hc2 hm2 _ => ?_
  have c2 : CH w2 TC cb p base unit per x := hc2
  have h2 := h1.keep hm2 (fun j hj e => nF1 (by rw [← e]; exact hj))
  rintro w3 rfl
  have hE3 := Ext.drew w2
  have c3 : CH w2.drew TC cb p base unit per x := c2.keep hE3 (fun y => y)
  have gx : CfgC bs.length base unit per x := g.head (by omega) (by omega)
  refine ⟨_, cell_blk c3 rfl, .of (at_any (bs := bs) c3 gx hk) ?_⟩
  rintro r w4 ⟨rfl, hE4⟩
  have hE24 := hE3.trans hE4
  have c4 : CH w4 TC cb p base unit per x := c3.keep hE4 (fun y => y)
  refine ⟨_, rfl, ⟨_, cell_blk c4 rfl, by trivial⟩, .of (store_ok (x := 0) (h2.ext hE24) (by omega) (g.at hk).1 (by simp; omega)) ?_⟩
  rintro r w5 ⟨rfl, F5, h5, hm5, hF5⟩
  refine ⟨_, rfl, rfl, F5, h5, ?_, ?_, ?_⟩
  · rw [← hx]; exact c4.keep hm5 nF1
  · have m1 : Mod (fun j => F j ∨ j = cb) w w2 := Mod.trans (hm1.mono (G := fun j => F j ∨ j = cb) (fun j hj => .inl hj)) hm2 (fun j _ hj => .inr hj)
    have m2 : Mod (fun j => F j ∨ j = cb) w w4 := Mod.trans m1 hE24 (fun j _ hj => hj.elim)
    exact Mod.trans m2 hm5 (fun j hj hj' => (hF1 j hj').imp id (fun y => by omega))
  · intro j hj
    rcases hF5 j hj with q | q
    · exact hF1 j q
    · have a1 := hm1.size; have a2 := hm2.size; have a3 := hE24.size
      exact .inr (by omega)

theorem empty_any (c : CH w TC cb p base unit per head) : Calls Try.prog 42 #[.pointer (some ⟨cb, 0, none⟩)] w (Ret fun r w' => r = .bool (decide (head < 0)) ∧ w' = w) := by
  refine VC.chain_Chain_Empty.ok ?_
  unfold VC.chain_Chain_Empty
  simp only [someA, add_mk, Nat.zero_add]
  exact ifB_false rfl ⟨_, cell_blk c rfl, by trivial, by trivial⟩

theorem lies_any (h : Ar w TA p F bs ts) (b : Int) (hu : unit ≤ 512) (hp : per ≤ 64) : Calls Try.prog 66 #[.pointer (some ⟨p, 0, none⟩), .int .i64 b, .int .i64 (unit : Int), .int .i64 (per : Int)] w
    (Ret fun r w' => r = .bool (decide (0 ≤ b ∧ b + (unit * per : Nat) ≤ bs.length)) ∧ w' = w) := by
  have hsm := h.small
  have hmul : unit * per ≤ 512 * 64 := Nat.mul_le_mul hu hp
  refine VC.chain_lies.ok ?_
  unfold VC.chain_lies
  refine ifD (fun h0 => .of (size_any h) ?_) (fun h0 => ⟨by rw [decide_eq_false (by omega)], rfl⟩)
  rintro r w1 ⟨rfl, rfl⟩
  refine ⟨_, rfl, ifD (fun h1 => .of (size_any h) ?_) (fun h1 => ⟨by rw [decide_eq_false (by omega)], rfl⟩)⟩
  rintro r w2 ⟨rfl, rfl⟩
  refine ⟨_, rfl, ?_, rfl⟩
  rw [← Int.natCast_mul, wrap_i64 (n := ((unit * per : Nat) : Int)) (by omega) (by omega), wrap_i64 (by omega) (by omega)]
  exact congrArg Value.bool (decide_eq_decide.2 (by omega))

theorem move_any (h : Ar w TA p F bs ts) (c : CH w TC cb p base unit per head) (g : CfgC bs.length base unit per head) (nF : ¬ F cb) (b : Int) :
    Calls Try.prog 79 #[.pointer (some ⟨cb, 0, none⟩), .int .i64 b] w (Ret fun r w' => r = .int .i64 (moveE bs.length unit per b) ∧ CPost w TA TC p cb F bs ts (if moveE bs.length unit per b = 0 then b.toNat else base) unit per head w') := by
  refine VC.chain_Chain_Move.ok ?_
  unfold VC.chain_Chain_Move
  refine ifB_false rfl ?_
  rintro w0 rfl
  have hE := Ext.drew w
  have c0 : CH w.drew TC cb p base unit per head := c.keep hE (fun x => x)
  simp only [someA, add_mk, Nat.zero_add]
  refine ⟨_, cell_blk c0 rfl, _, cell_blk c0 rfl, _, cell_blk c0 rfl, .of (lies_any (h.ext hE) b g.u512 g.p64) ?_⟩
  rintro r w1 ⟨rfl, rfl⟩
  refine ⟨_, rfl, by trivial, ?_⟩
  by_cases hok : 0 ≤ b ∧ b + (unit * per : Nat) ≤ bs.length
  · have e : moveE bs.length unit per b = 0 := if_pos hok
    rw [decide_eq_true hok, e, if_pos rfl]
    refine ifB_false rfl ?_
    refine wr_intro (n := 1) c0 (by simp) fun w2 hc2 hm2 _ => ⟨rfl, F, (h.ext hE).keep hm2 (fun j hj e => nF (by rw [← e]; exact hj)), ?_, ?_, fun j hj => .inl hj⟩
    · obtain ⟨bn, rfl⟩ := Int.eq_ofNat_of_zero_le hok.1
      exact hc2
    · exact Mod.trans (hE.mod (F := fun j => F j ∨ j = cb)) hm2 (fun j _ hj => .inr hj)
  · have e : moveE bs.length unit per b = 12 := if_neg hok
    rw [decide_eq_false hok, e, if_neg (by decide)]
    exact ifB_true rfl ⟨rfl, F, h.ext hE, c0, hE.mod, fun j hj => .inl hj⟩

theorem CfgC.move {n : Nat} (g : CfgC n base unit per head) (b : Int) : CfgC n (if moveE n unit per b = 0 then b.toNat else base) unit per head := by
  by_cases hok : 0 ≤ b ∧ b + (unit * per : Nat) ≤ n
  · have e : moveE n unit per b = 0 := if_pos hok
    rw [if_pos e]
    exact ⟨g.u8, g.u512, g.p1, g.p64, by omega, g.n21, g.h0, g.h1⟩
  · have e : moveE n unit per b = 12 := if_neg hok
    rw [e, if_neg (by decide)]
    exact g

/-- Take: of two chains. -/
theorem ctake_any {db : Nat} {base' unit' per' : Nat} {head' : Int} (c : CH w TC cb p base unit per head) (d : CH w TC db p base' unit' per' head') (hne : cb ≠ db) :
    Calls Try.prog 73 #[.pointer (some ⟨cb, 0, none⟩), .pointer (some ⟨db, 0, none⟩)] w (Ret fun r w' => r = .int .i64 (if 0 ≤ head then 7 else 0) ∧
      CH w' TC cb p base unit per (if 0 ≤ head then head else head') ∧ CH w' TC db p base' unit' per' (if 0 ≤ head then head' else -1) ∧ Mod (fun j => j = cb ∨ j = db) w w') := by
  refine VC.chain_Chain_Take.ok ?_
  unfold VC.chain_Chain_Take
  simp only [someA, add_mk, Nat.zero_add]
  refine ifB_false rfl (ifB_false rfl ⟨_, cell_blk c rfl, ifD (fun h0 => ?_) (fun h0 => ⟨_, cell_blk d rfl, ?_⟩)⟩)
  · rw [if_pos h0, if_pos h0, if_pos h0]
    exact ⟨rfl, c, d, Mod.refl _ _⟩
  · have h0 : ¬ 0 ≤ head := h0
    rw [if_neg h0, if_neg h0, if_neg h0]
    refine wr_intro (n := 1) c (by simp) fun w1 hc1 hm1 _ => ?_
    have d1 : CH w1 TC db p base' unit' per' head' := d.keep hm1 (fun e => hne e.symm)
    refine wr_intro (n := 1) d1 (by simp) fun w2 hd2 hm2 _ => ⟨rfl, ?_, hd2, Mod.trans (hm1.mono fun j hj => .inl hj) hm2 (fun j _ hj => .inr hj)⟩
    exact hm2.keep hc1 hne

def NewC (w : World) (TA TC : TypeId) (p : Nat) (F : Nat → Prop) (n : Nat) (b u r : Int) (v : Value) (w' : World) : Prop :=
  (¬ (8 ≤ u ∧ u ≤ 512 ∧ 1 ≤ r ∧ r ≤ 64 ∧ 0 ≤ b ∧ b + u * r ≤ n) ∧ v = .tuple #[.pointer none, .int .i64 12] ∧ w' = w) ∨
  (∃ (cb base unit per : Nat), b = base ∧ u = unit ∧ r = per ∧ v = .tuple #[.pointer (some ⟨cb, 0, none⟩), .int .i64 0] ∧ CH w' TC cb p base unit per (-1) ∧ CfgC n base unit per (-1) ∧ Ext w w' ∧ w.heap.size ≤ cb)

theorem cnew_any (h : Ar w TA p F bs ts) (b u r : Int) : Calls Try.prog 39 #[.pointer (some ⟨p, 0, none⟩), .int .i64 b, .int .i64 u, .int .i64 r] w (Ret (NewC w TA 97 p F bs.length b u r)) := by
  have hsm := h.small
  refine VC.chain_New.ok ?_
  unfold VC.chain_New
  refine ⟨fun w1 => w1 = w ∧ (8 ≤ u ∧ u ≤ 512 ∧ 1 ≤ r ∧ r ≤ 64 ∧ 0 ≤ b ∧ b + u * r ≤ bs.length), ifB_false rfl (ifD (fun q => .inl ⟨by omega, rfl, rfl⟩) (fun h1 => ifD (fun q => .inl ⟨by omega, rfl, rfl⟩) (fun h2 => ifD (fun q => .inl ⟨by omega, rfl, rfl⟩) (fun h3 => ifD (fun q => .inl ⟨by omega, rfl, rfl⟩) (fun h4 => ?_))))), ?_⟩
  · obtain ⟨un, rfl⟩ := Int.eq_ofNat_of_zero_le (show 0 ≤ u by omega)
    obtain ⟨rn, rfl⟩ := Int.eq_ofNat_of_zero_le (show 0 ≤ r by omega)
    refine .of (lies_any h b (by omega) (by omega)) ?_
    rintro v w1 ⟨rfl, rfl⟩
    refine ⟨_, rfl, ?_⟩
    rw [Int.natCast_mul]
    by_cases hok : 0 ≤ b ∧ b + (un : Int) * (rn : Int) ≤ bs.length
    · rw [decide_eq_true hok]
      exact ifB_false rfl ⟨rfl, by omega, by omega, by omega, by omega, hok⟩
    · rw [decide_eq_false hok]
      exact ifB_true rfl (.inl ⟨fun q => hok q.2.2.2.2, rfl, rfl⟩)
  · rintro jv w1 ⟨rfl, q1, q2, q3, q4, q5, q6⟩
    obtain ⟨un, rfl⟩ := Int.eq_ofNat_of_zero_le (show 0 ≤ u by omega)
    obtain ⟨rn, rfl⟩ := Int.eq_ofNat_of_zero_le (show 0 ≤ r by omega)
    obtain ⟨bn, rfl⟩ := Int.eq_ofNat_of_zero_le q5
    rw [← Int.natCast_mul] at q6
    exact al_intro fun cb w2 hcb hE _ _ => .inr ⟨cb, bn, un, rn, rfl, rfl, rfl, rfl, hcb, ⟨by omega, by omega, by omega, by omega, by omega, hsm, by omega, by omega⟩, hE, by omega⟩

end

end Go.Proofs.Ytkbgiflmecaffaa
