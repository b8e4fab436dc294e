/- Statements of layer 11: ChainPlays. Conditions: the arguments' cells are there. -/
import Derived.Test.YtnjjgpjpodmgpaaWChainD
set_option linter.unusedVariables false
set_option linter.unusedSimpArgs false
namespace Go.Proofs.Ytnjjgpjpodmgpaa
open Go.RowKit

theorem Ar.slot0' {w : World} {T : TypeId} {p : Nat} {F : Nat → Prop} {bs : List UInt8} {ts : List Tch} (h : Ar w T p F bs ts) : ∃ g, w.cell? ((Addr.mk p 0 none).add 0) = some (.slice (some ⟨g, 0, none⟩) bs.length bs.length) ∧ BytesAt w (some ⟨g, 0, none⟩) bs := by
  obtain ⟨gb, v, h, _⟩ := h
  refine ⟨gb, h.slot0, fun j b hb => ⟨_, rfl, ?_⟩⟩
  rw [add_mk, Nat.zero_add]
  exact h.byteAt hb

theorem Ar.slot1' {w : World} {T : TypeId} {p : Nat} {F : Nat → Prop} {bs : List UInt8} {ts : List Tch} (h : Ar w T p F bs ts) : ∃ q c, w.cell? ((Addr.mk p 0 none).add 1) = some (.slice q ts.length c) ∧ TRow w (.slice q ts.length c) ts := by
  obtain ⟨gb, v, h, _⟩ := h
  obtain ⟨q, c, e⟩ := h.row.shape
  have := h.slot1
  have hr := h.row
  subst e
  exact ⟨q, c, this, hr⟩

/-- The blocks of a pair. -/
structure Pn where
  pb : Nat
  pa : Nat
  pw : Nat
  c0 : Nat
  c1 : Nat
  x0 : Nat
  x1 : Nat
  arr : Array Value

def Pn.own (q : Pn) (j : Nat) : Prop := j = q.pb ∨ j = q.c0 ∨ j = q.c1 ∨ j = q.x0 ∨ j = q.x1
def Pn.sw (q : Pn) : Pn := { q with c0 := q.c1, c1 := q.c0, x0 := q.x1, x1 := q.x0 }

/-- Two chains in an arena, and the document's, alike. -/
structure PS (w0 w : World) (q : Pn) (F G : Nat → Prop) (bs : List UInt8) (ts : List Tch) (b0 b1 u r : Nat) (h0 h1 : Int) : Prop where
  pr : w.heap[q.pb]? = some (.cells q.arr 65 (0, 0))
  ar : Ar w 107 q.pa F bs ts
  rr : Ar w 70 q.pw G bs ts
  cc0 : CH w 110 q.c0 q.pa b0 u r h0
  cc1 : CH w 110 q.c1 q.pa b1 u r h1
  xx0 : CH w 68 q.x0 q.pw b0 u r h0
  xx1 : CH w 68 q.x1 q.pw b1 u r h1
  g0 : CfgC bs.length b0 u r h0
  g1 : CfgC bs.length b1 u r h1
  sep : ∀ j, F j → ¬ G j
  nF : ∀ j, q.own j → ¬ F j ∧ ¬ G j
  d : q.pb ≠ q.c0 ∧ q.pb ≠ q.c1 ∧ q.pb ≠ q.x0 ∧ q.pb ≠ q.x1 ∧ q.c0 ≠ q.c1 ∧ q.c0 ≠ q.x0 ∧ q.c0 ≠ q.x1 ∧ q.c1 ≠ q.x0 ∧ q.c1 ≠ q.x1 ∧ q.x0 ≠ q.x1
  new : ∀ j, F j ∨ G j ∨ q.own j → w0.heap.size ≤ j
  ext : Ext w0 w

section
variable {w0 w w1 w2 : World} {q : Pn} {F G : Nat → Prop} {bs : List UInt8} {ts : List Tch} {b0 b1 u r : Nat} {h0 h1 : Int}

theorem Pn.own_sw {j : Nat} (h : q.sw.own j) : q.own j := by
  simp only [Pn.own, Pn.sw] at h ⊢
  omega

theorem PS.swap (h : PS w0 w q F G bs ts b0 b1 u r h0 h1) : PS w0 w q.sw F G bs ts b1 b0 u r h1 h0 :=
  ⟨h.pr, h.ar, h.rr, h.cc1, h.cc0, h.xx1, h.xx0, h.g1, h.g0, h.sep, fun j hj => h.nF j (Pn.own_sw hj), by
    have := h.d
    simp only [Pn.sw]
    omega, fun j hj => h.new j (hj.imp id fun x => x.imp id Pn.own_sw), h.ext⟩

theorem PS.lt (h : PS w0 w q F G bs ts b0 b1 u r h0 h1) : ∀ j, q.own j → j < w.heap.size := fun j hj => by
  rcases hj with rfl | rfl | rfl | rfl | rfl
  · exact lt_of_blk h.pr
  · exact lt_of_blk h.cc0
  · exact lt_of_blk h.cc1
  · exact lt_of_blk h.xx0
  · exact lt_of_blk h.xx1

theorem PS.out (h : PS w0 w q F G bs ts b0 b1 u r h0 h1) {j : Nat} (hj : w.heap.size ≤ j) : ¬ F j ∧ ¬ G j ∧ ¬ q.own j :=
  ⟨fun x => by have := h.ar.lt j x; omega, fun x => by have := h.rr.lt j x; omega, fun x => by have := h.lt j x; omega⟩

theorem PS.keep (h : PS w0 w q F G bs ts b0 b1 u r h0 h1) (hE : Ext w w1) : PS w0 w1 q F G bs ts b0 b1 u r h0 h1 :=
  ⟨hE.keep h.pr, h.ar.ext hE, h.rr.ext hE, hE.keep h.cc0, hE.keep h.cc1, hE.keep h.xx0, hE.keep h.xx1, h.g0, h.g1, h.sep, h.nF, h.d, h.new, h.ext.trans hE⟩

theorem o0 : q.own q.pb := .inl rfl
theorem o1 : q.own q.c0 := .inr (.inl rfl)
theorem o2 : q.own q.c1 := .inr (.inr (.inl rfl))
theorem o3 : q.own q.x0 := .inr (.inr (.inr (.inl rfl)))
theorem o4 : q.own q.x1 := .inr (.inr (.inr (.inr rfl)))

/-- Between the two calls. -/
theorem PS.mid (h : PS w0 w q F G bs ts b0 b1 u r h0 h1) {bs' : List UInt8} {ts' : List Tch} {b' : Nat} {h' : Int} (hp : CPost w 107 110 q.pa q.c0 F bs' ts' b' u r h' w1) :
    Ar w1 70 q.pw G bs ts ∧ CH w1 68 q.x0 q.pw b0 u r h0 ∧ w1.heap[q.pb]? = some (.cells q.arr 65 (0, 0)) := by
  obtain ⟨F', a, c, hm, hF⟩ := hp
  have d := h.d
  refine ⟨h.rr.keep hm fun j hj x => ?_, h.xx0.keep hm fun x => ?_, hm.keep h.pr fun x => ?_⟩
  · rcases x with x | rfl
    · exact h.sep j x hj
    · exact (h.nF _ o1).2 hj
  · rcases x with x | x
    · exact (h.nF _ o3).1 x
    · omega
  · rcases x with x | x
    · exact (h.nF _ o0).1 x
    · omega

/-- Behind both calls. -/
theorem PS.both (h : PS w0 w q F G bs ts b0 b1 u r h0 h1) {bs' : List UInt8} {ts' : List Tch} {b' : Nat} {h' : Int} (hp : CPost w 107 110 q.pa q.c0 F bs' ts' b' u r h' w1)
    (hx : CPost w1 70 68 q.pw q.x0 G bs' ts' b' u r h' w2) (g : CfgC bs'.length b' u r h') (hl : bs'.length = bs.length) :
    ∃ F' G', PS w0 w2 q F' G' bs' ts' b' b1 u r h' h1 := by
  obtain ⟨F', a, c, hm, hF⟩ := hp
  obtain ⟨G', b, x, hm2, hG⟩ := hx
  have d := h.d
  have s1 := hm.size
  have s2 := hm2.size
  have k1 : ∀ j, q.own j → j ≠ q.c0 → ¬ (F j ∨ j = q.c0) := fun j hj hn x => x.elim (h.nF j hj).1 hn
  have k2 : ∀ j, q.own j → j ≠ q.x0 → ¬ (G j ∨ j = q.x0) := fun j hj hn x => x.elim (h.nF j hj).2 hn
  have e0 := lt_of_blk h.xx0
  have e1 := lt_of_blk h.cc0
  refine ⟨F', G', hm2.keep (hm.keep h.pr (k1 _ o0 (by omega))) (k2 _ o0 (by omega)), a.keep hm2 fun j hj y => ?_, b, c.keep hm2 (k2 _ o1 (by omega)), (h.cc1.keep hm (k1 _ o2 (by omega))).keep hm2 (k2 _ o2 (by omega)), x,
    (h.xx1.keep hm (k1 _ o4 (by omega))).keep hm2 (k2 _ o4 (by omega)), g, by rw [hl]; exact h.g1, fun j hj y => ?_, fun j hj => ⟨fun y => ?_, fun y => ?_⟩, d, fun j hj => ?_, (h.ext.new hm ?_).new hm2 ?_⟩
  · rcases hF j hj with z | z
    · rcases y with y | rfl
      · exact h.sep j z y
      · exact (h.nF _ o3).1 z
    · rcases y with y | rfl
      · have := h.rr.lt j y; omega
      · omega
  · have := a.lt j hj
    rcases hG j y with y | y
    · rcases hF j hj with z | z
      · exact h.sep j z y
      · have := h.rr.lt j y; omega
    · omega
  · have := h.lt j hj
    exact (hF j y).elim (h.nF j hj).1 (fun z => by omega)
  · have := h.lt j hj
    exact (hG j y).elim (h.nF j hj).2 (fun z => by omega)
  · have se := h.ext.size
    rcases hj with hj | hj | hj
    · exact (hF j hj).elim (fun z => h.new j (.inl z)) (fun z => by omega)
    · exact (hG j hj).elim (fun z => h.new j (.inr (.inl z))) (fun z => by omega)
    · exact h.new j (.inr (.inr hj))
  · rintro j (y | rfl)
    · exact h.new j (.inl y)
    · exact h.new _ (.inr (.inr o1))
  · rintro j (y | rfl)
    · exact h.new j (.inr (.inl y))
    · exact h.new _ (.inr (.inr o3))

/-- Only heads were turned. -/
theorem PS.heads (h : PS w0 w q F G bs ts b0 b1 u r h0 h1) (hm : Mod (fun j => j = q.c0 ∨ j = q.c1 ∨ j = q.x0 ∨ j = q.x1) w w1) {h0' h1' : Int} (e0 : CH w1 110 q.c0 q.pa b0 u r h0') (e1 : CH w1 110 q.c1 q.pa b1 u r h1')
    (e2 : CH w1 68 q.x0 q.pw b0 u r h0') (e3 : CH w1 68 q.x1 q.pw b1 u r h1') (g0 : CfgC bs.length b0 u r h0') (g1 : CfgC bs.length b1 u r h1') : PS w0 w1 q F G bs ts b0 b1 u r h0' h1' := by
  have d := h.d
  have hk : ∀ j, (j = q.c0 ∨ j = q.c1 ∨ j = q.x0 ∨ j = q.x1) → q.own j := fun j hj => .inr hj
  exact ⟨hm.keep h.pr (by omega), h.ar.keep hm (fun j hj x => (h.nF j (hk j x)).1 hj), h.rr.keep hm (fun j hj x => (h.nF j (hk j x)).2 hj), e0, e1, e2, e3, g0, g1, h.sep, h.nF, d, h.new, h.ext.new hm (fun j hj => h.new j (.inr (.inr (hk j hj))))⟩

theorem allres {w w' : World} {F' : Nat → Prop} {o : Option (List Int)} {v : Value} (h : AllRes w w' F' o v) : ∃ pp c, v = .tuple #[.slice pp (o.getD []).length c, .int .i64 (if o.isSome then 0 else 14)] ∧
    ORow w' 3 1 intF (.slice pp (o.getD []).length c) (o.getD []) ∧ ∀ j, (Value.slice pp (o.getD []).length c).ownBlock = some j → w.heap.size ≤ j := by
  cases o with
  | none => exact ⟨none, 0, h, ORow.nil _ _, fun j hj => by simp [Value.ownBlock] at hj⟩
  | some l =>
    obtain ⟨pp, c, e, hr, ho⟩ := h
    exact ⟨pp, c, e, hr, fun j hj => (ho j hj).1⟩

theorem AllPost.cpost {TA TC : TypeId} {p cb : Nat} {base unit per : Nat} {head : Int} {v : Value} (h : AllPost w TA TC p cb F bs ts base unit per head v w1) :
    CPost w TA TC p cb F bs (ts ++ readT base unit (allR per (lkA bs base unit) per head []).2) base unit per head w1 ∧ ∃ F', AllRes w w1 F' (allR per (lkA bs base unit) per head []).1 v := by
  obtain ⟨F', a, c, m, f, r⟩ := h
  exact ⟨⟨F', a, c, m.mono fun j hj => .inl hj, f⟩, F', r⟩

end

theorem pcell {w : World} {b : Nat} {arr : Array Value} {T : TypeId} {v : Value} {i j : Nat} (h : w.heap[b]? = some (.cells arr T (0, 0))) (hv : arr[0 + i + j]? = some v) : w.cell? (((Addr.mk b 0 none).add i).add j) = some v := by
  rw [add_mk, add_mk]
  exact cell_blk h hv

theorem ocell {w : World} {b : Nat} {arr : Array Value} {T : TypeId} {v : Value} {i : Nat} (h : w.heap[b]? = some (.cells arr T (0, 0))) (hv : arr[0 + i]? = some v) : w.cell? ((Addr.mk b 0 none).add i) = some v := by
  rw [add_mk]
  exact cell_blk h hv

def Pn.ok (q : Pn) : Prop := q.arr = #[.pointer (some ⟨q.pa, 0, none⟩), .pointer (some ⟨q.c0, 0, none⟩), .pointer (some ⟨q.c1, 0, none⟩), .pointer (some ⟨q.pw, 0, none⟩), .pointer (some ⟨q.x0, 0, none⟩), .pointer (some ⟨q.x1, 0, none⟩)]

theorem allR_list_len (per : Nat) (lk : Nat → Nat) : ∀ (f : Nat) (k : Int) (acc : List Int), ((allR per lk f k acc).1.getD []).length ≤ acc.length + f
  | 0, k, acc => by unfold allR; split <;> simp
  | f + 1, k, acc => by
    unfold allR
    split
    · simp
    · split
      · simp
      · have := allR_list_len per lk f ((lk k.toNat : Int) - 1) (acc ++ [k])
        simp only [List.length_append, List.length_singleton] at this
        simp only
        omega

/-- What a call of both leaves. -/
def Done (w0 : World) (q : Pn) (n : Nat) (L : Nat) (r : Value) (w' : World) : Prop :=
  r = .bool true ∧ ∃ F' G' bs' ts' b0' b1' u r h0' h1', PS w0 w' q F' G' bs' ts' b0' b1' u r h0' h1' ∧ bs'.length = n ∧ ts'.length ≤ L

set_option maxHeartbeats 2000000 in
theorem done_any {w0 w : World} {q : Pn} {F G : Nat → Prop} {bs : List UInt8} {ts : List Tch} {b0 b1 u r : Nat} {h0 h1 : Int} (h : PS w0 w q F G bs ts b0 b1 u r h0 h1) (hq : q.ok) (kd k : Int) (two : Bool) (x : Int) (hx0 : 0 ≤ x) (hx : x < 18446744073709551616) (hl : ts.length < 549755810000) :
    Calls Try.prog 28 #[.pointer (some ⟨q.pb, 0, none⟩), .agg #[.int .i64 kd, .int .i64 k, .bool two, .int .u64 x]] w (Ret (Done w0 q bs.length (ts.length + 70))) := by
  refine VC.garthlaw11_pair_done.ok ?_
  unfold VC.garthlaw11_pair_done
  have hq' : q.arr = _ := hq
  refine al_intro fun ob w1 hob hE1 hs1 hs1' => ?_
  have hout := h.out (j := ob) (by omega)
  have hst := h.keep hE1
  have k0 : ∀ w' : World, w'.heap[ob]? = some (.cells #[.int .i64 kd, .int .i64 k, .bool two, .int .u64 x] 46 (0, 0)) → w'.cell? ((Addr.mk ob 0 none).add 0) = some (.int .i64 kd) := fun w' h => ocell h rfl
  have k1 : ∀ w' : World, w'.heap[ob]? = some (.cells #[.int .i64 kd, .int .i64 k, .bool two, .int .u64 x] 46 (0, 0)) → w'.cell? ((Addr.mk ob 0 none).add 1) = some (.int .i64 k) := fun w' h => ocell h rfl
  have k3 : ∀ w' : World, w'.heap[ob]? = some (.cells #[.int .i64 kd, .int .i64 k, .bool two, .int .u64 x] 46 (0, 0)) → w'.cell? ((Addr.mk ob 0 none).add 3) = some (.int .u64 x) := fun w' h => ocell h rfl
  have pa0 : q.arr[0 + 0]? = some (.pointer (some ⟨q.pa, 0, none⟩)) := by rw [hq']; rfl
  have pw0 : q.arr[0 + 3]? = some (.pointer (some ⟨q.pw, 0, none⟩)) := by rw [hq']; rfl
  have pc0 : q.arr[0 + 1 + 0]? = some (.pointer (some ⟨q.c0, 0, none⟩)) := by rw [hq']; rfl
  have pc1 : q.arr[0 + 1 + 1]? = some (.pointer (some ⟨q.c1, 0, none⟩)) := by rw [hq']; rfl
  have px0 : q.arr[0 + 4 + 0]? = some (.pointer (some ⟨q.x0, 0, none⟩)) := by rw [hq']; rfl
  have px1 : q.arr[0 + 4 + 1]? = some (.pointer (some ⟨q.x1, 0, none⟩)) := by rw [hq']; rfl
  refine ⟨_, ocell hob rfl, ifB_intro (fun htwo => ?_) (fun htwo => ?_)⟩
  · have fin : ∀ {b : Bool} {w' : World} {F' G' bs' ts' ba bb ha hb}, b = true → PS w0 w' q.sw F' G' bs' ts' ba bb u r ha hb → bs'.length = bs.length → ts'.length ≤ ts.length + 70 → Done w0 q bs.length (ts.length + 70) (.bool b) w' := by
      rintro b w' F' G' bs' ts' ba bb ha hb rfl hp hb' ht'
      exact ⟨rfl, F', G', bs', ts', _, _, u, r, _, _, hp.swap, hb', ht'⟩
    refine ⟨fun pc px w2 => pc = some ⟨(q.sw).c0, 0, none⟩ ∧ px = some ⟨(q.sw).x0, 0, none⟩ ∧ w2 = w1.drew, ?_, ?_⟩
    · rintro w2 rfl
      have hE2 := Ext.drew w1
      simp only [someA]
      exact ⟨by decide, by decide, by trivial, _, pcell (hE2.keep hst.pr) pc1, by decide, by decide, by trivial, _, pcell (hE2.keep hst.pr) px1, rfl, rfl, by trivial⟩
    rintro jv _ _ w2 ⟨rfl, rfl, rfl⟩
    have hE2 := Ext.drew w1
    have h2 := (hst.keep hE2).swap
    have ho2 := hE2.keep hob
    have hout2 : ¬ F ob ∧ ¬ G ob ∧ ob ≠ (q.sw).c0 ∧ ob ≠ (q.sw).x0 := ⟨hout.1, hout.2.1, fun e => hout.2.2 (by rw [e]; exact o2), fun e => hout.2.2 (by rw [e]; exact o4)⟩
    generalize w1.drew = w2 at h2 ho2
    have nF := (h2.nF _ o1).1
    have nG := (h2.nF _ o3).2
    have kep : ∀ {w' w'' : World} {bs' ts' b' h'}, w'.heap[ob]? = some (.cells #[.int .i64 kd, .int .i64 k, .bool two, .int .u64 x] 46 (0, 0)) → CPost w' 107 110 (q.sw).pa (q.sw).c0 F bs' ts' b' u r h' w'' →
        w''.heap[ob]? = some (.cells #[.int .i64 kd, .int .i64 k, .bool two, .int .u64 x] 46 (0, 0)) := by
      rintro w' w'' bs' ts' b' h' ho ⟨_, _, _, hm, _⟩
      exact hm.keep ho fun y => y.elim hout2.1 hout2.2.2.1
    refine ⟨_, k0 _ ho2, ifB_intro (fun _ => ?_) (fun _ => ifB_intro (fun _ => ?_) (fun _ => ifB_intro (fun _ => ?_) (fun _ => ifB_intro (fun _ => ?_) (fun _ => ifB_intro (fun _ => ?_) (fun _ => ifB_intro (fun _ => ?_) (fun _ => fin rfl h2 rfl (by omega)))))))⟩
    · -- Push
      rintro w3 rfl
      have h3 := h2.keep (Ext.drew w2)
      have ho3 := (Ext.drew w2).keep ho2
      refine ⟨_, k1 _ ho3, _, k1 _ ho3, .of (push_any h3.ar h3.cc0 h3.g0 nF (by omega) k) ?_⟩
      rintro v w4 ⟨rfl, hp⟩
      obtain ⟨rr, xx, _⟩ := h3.mid hp
      refine ⟨_, rfl, ⟨_, k1 _ (kep ho3 hp), rfl⟩, .of (rcpush_any rr xx h3.g0 nG (by omega) k) ?_⟩
      rintro v w5 ⟨rfl, hp2⟩
      obtain ⟨F', G', h5⟩ := h3.both hp hp2 ((show CfgC _ _ u r _ by rw [pushB_len h3.g0]; exact h3.g0).head (pushH_in h3.g0 k).1 (pushH_in h3.g0 k).2) (pushB_len h3.g0 k)
      exact ⟨_, rfl, fin (by simp) h5 (pushB_len h3.g0 k) (by have := pushT_len ts b1 u r k; omega)⟩
    · -- Pop
      refine .of (pop_any h2.ar h2.cc0 h2.g0 nF (by omega)) ?_
      rintro v w4 ⟨rfl, hp⟩
      obtain ⟨rr, xx, _⟩ := h2.mid hp
      refine ⟨_, _, rfl, .of (rcpop_any rr xx h2.g0 nG (by omega)) ?_⟩
      rintro v w5 ⟨rfl, hp2⟩
      obtain ⟨F', G', h5⟩ := h2.both hp hp2 ((show CfgC _ _ u r _ by rw [popB_len h2.g0]; exact h2.g0).head (popH_in h2.g0).1 (popH_in h2.g0).2) (popB_len h2.g0)
      exact ⟨_, _, rfl, ifB_true (by simp) (fin (by simp) h5 (popB_len h2.g0) (by have := popT_len bs ts b1 u r h1; omega))⟩
    · -- All
      refine .of (all_any h2.ar h2.cc0 h2.g0 nF (by omega)) ?_
      intro v w4 hpp
      obtain ⟨hp, F4, hr⟩ := hpp.cpost
      clear hpp
      obtain ⟨rr, xx, _⟩ := h2.mid hp
      obtain ⟨pp, c, rfl, hrow, hown⟩ := allres hr
      refine ⟨_, _, _, _, rfl, .of (rcall_any rr xx h2.g0 nG (by omega)) ?_⟩
      intro v w5 hpp
      obtain ⟨hp2, F5, hr2⟩ := hpp.cpost
      clear hpp
      obtain ⟨F', G', h5⟩ := h2.both hp hp2 h2.g0 rfl
      obtain ⟨pp2, c2, rfl, hrow2, hown2⟩ := allres hr2
      have hlen := allR_len r (lkA bs b1 u) r h1 []
      have hp64 := h2.g0.p64
      obtain ⟨_, _, _, hm2, _⟩ := hp2
      have hx0lt := lt_of_blk h2.xx0
      have hrow5 := hrow.keep hm2 fun j hj y => by
        have a := hown j hj
        rcases y with y | y
        · have := h2.rr.lt j y; omega
        · omega
      have hll := allR_list_len r (lkA bs b1 u) r h1 []
      refine ⟨_, _, _, _, rfl, .of (same08_any (ORow.rowAt intF_len hrow5) (ORow.rowAt intF_len hrow2) ?_) ?_⟩
      · simp only [maxLen, List.length_nil] at hll ⊢; omega
      rintro v w6 ⟨rfl, hE6⟩
      refine ⟨_, rfl, ifB_true (by simp) (fin (by simp) (h5.keep hE6) rfl ?_)⟩
      simp only [List.length_append, readT, List.length_map]; omega
    · -- Take
      rintro w3 rfl
      have h3 := h2.keep (Ext.drew w2)
      have d := h3.d
      simp only [someA]
      refine ⟨by decide, by decide, by trivial, _, pcell h3.pr (show q.sw.arr[0 + 1 + 0]? = some (.pointer (some ⟨q.sw.c1, 0, none⟩)) from pc0), by decide, by decide, by trivial, _, pcell h3.pr (show q.sw.arr[0 + 4 + 0]? = some (.pointer (some ⟨q.sw.x1, 0, none⟩)) from px0), .of (ctake_any h3.cc0 h3.cc1 d.2.2.2.2.1) ?_⟩
      rintro v w4 ⟨rfl, e0, e1, hm⟩
      have x0 : CH w4 _ _ _ _ u r _ := h3.xx0.keep hm (by omega)
      have x1 : CH w4 _ _ _ _ u r _ := h3.xx1.keep hm (by omega)
      have pr4 := hm.keep h3.pr (by omega)
      refine ⟨_, rfl, ⟨_, pcell pr4 (show q.sw.arr[0 + 4 + 0]? = some (.pointer (some ⟨q.sw.x1, 0, none⟩)) from px0), rfl⟩, ⟨by decide, by decide, by trivial, by trivial⟩, by trivial, .of (rctake_any x0 x1 d.2.2.2.2.2.2.2.2.2) ?_⟩
      rintro v w5 ⟨rfl, e2, e3, hm2⟩
      have e0' := e0.keep hm2 (by omega)
      have e1' := e1.keep hm2 (by omega)
      have hmm : Mod (fun j => j = (q.sw).c0 ∨ j = (q.sw).c1 ∨ j = (q.sw).x0 ∨ j = (q.sw).x1) w2.drew w5 := Mod.trans (hm.mono fun j hj => by omega) hm2 (fun j _ hj => by omega)
      have ga := h3.g0
      have gb := h3.g1
      have g1 := ga.h0
      have g2 := ga.h1
      have g3 := gb.h0
      have g4 := gb.h1
      have g5 := ga.p1
      have h5 := h3.heads hmm e0' e1' e2 e3 (ga.head (by split <;> omega) (by split <;> omega)) (gb.head (by split <;> omega) (by split <;> omega))
      exact ⟨_, rfl, fin (by simp) h5 rfl (by omega)⟩
    · -- Move
      rintro w3 rfl
      have h3 := h2.keep (Ext.drew w2)
      have ho3 := (Ext.drew w2).keep ho2
      refine ⟨_, k1 _ ho3, _, k1 _ ho3, .of (move_any h3.ar h3.cc0 h3.g0 nF k) ?_⟩
      rintro v w4 ⟨rfl, hp⟩
      obtain ⟨rr, xx, _⟩ := h3.mid hp
      refine ⟨_, rfl, ⟨_, k1 _ (kep ho3 hp), rfl⟩, .of (rcmove_any rr xx h3.g0 nG k) ?_⟩
      rintro v w5 ⟨rfl, hp2⟩
      obtain ⟨F', G', h5⟩ := h3.both hp hp2 (h3.g0.move k) rfl
      exact ⟨_, rfl, fin (by simp) h5 rfl (by omega)⟩
    · -- somebody else writes
      rintro w3 rfl
      have h3 := h2.keep (Ext.drew w2)
      have ho3 := (Ext.drew w2).keep ho2
      simp only [someA]
      refine ⟨_, ocell h3.pr pa0, _, k1 _ ho3, _, k3 _ ho3, _, ocell h3.pr pw0, _, k1 _ ho3, _, k3 _ ho3, .of (store_any h3.ar k x hx0 hx (by omega)) ?_⟩
      rintro v w4 ⟨rfl, F4, a4, hm4, hF4⟩
      have hp : CPost w2.drew 107 110 (q.sw).pa (q.sw).c0 F _ _ b1 u r h1 w4 := ⟨F4, a4, h3.cc0.keep hm4 nF, hm4.mono fun j hj => .inl hj, hF4⟩
      obtain ⟨rr, xx, pr4⟩ := h3.mid hp
      have ho4 := kep ho3 hp
      refine ⟨_, rfl, ⟨_, k3 _ ho4, rfl⟩, ⟨_, k1 _ ho4, rfl⟩, ⟨_, ocell pr4 pw0, rfl⟩, .of (refstore_any rr k x hx0 hx (by omega)) ?_⟩
      rintro v w5 ⟨rfl, G5, a5, hm5, hG5⟩
      have hlen : (if OkA bs.length k 8 then putAt bs k.toNat (le8 x.toNat) else bs).length = bs.length := by
        split
        · exact putAt_length (by rw [le8_length]; omega)
        · rfl
      obtain ⟨F', G', h5⟩ := h3.both hp ⟨G5, a5, xx.keep hm5 nG, hm5.mono fun j hj => .inl hj, hG5⟩ (by rw [hlen]; exact h3.g0) hlen
      refine ⟨_, rfl, fin (by simp) h5 hlen ?_⟩
      have := noteA_len ts k 8 true
      split <;> omega
  · have fin : ∀ {b : Bool} {w' : World} {F' G' bs' ts' ba bb ha hb}, b = true → PS w0 w' q F' G' bs' ts' ba bb u r ha hb → bs'.length = bs.length → ts'.length ≤ ts.length + 70 → Done w0 q bs.length (ts.length + 70) (.bool b) w' := by
      rintro b w' F' G' bs' ts' ba bb ha hb rfl hp hb' ht'
      exact ⟨rfl, F', G', bs', ts', _, _, u, r, _, _, hp, hb', ht'⟩
    refine ⟨fun pc px w2 => pc = some ⟨(q).c0, 0, none⟩ ∧ px = some ⟨(q).x0, 0, none⟩ ∧ w2 = w1.drew, ?_, ?_⟩
    · rintro w2 rfl
      have hE2 := Ext.drew w1
      simp only [someA]
      exact ⟨by decide, by decide, by trivial, _, pcell (hE2.keep hst.pr) pc0, by decide, by decide, by trivial, _, pcell (hE2.keep hst.pr) px0, rfl, rfl, by trivial⟩
    rintro jv _ _ w2 ⟨rfl, rfl, rfl⟩
    have hE2 := Ext.drew w1
    have h2 := (hst.keep hE2)
    have ho2 := hE2.keep hob
    have hout2 : ¬ F ob ∧ ¬ G ob ∧ ob ≠ (q).c0 ∧ ob ≠ (q).x0 := ⟨hout.1, hout.2.1, fun e => hout.2.2 (by rw [e]; exact o1), fun e => hout.2.2 (by rw [e]; exact o3)⟩
    generalize w1.drew = w2 at h2 ho2
    have nF := (h2.nF _ o1).1
    have nG := (h2.nF _ o3).2
    have kep : ∀ {w' w'' : World} {bs' ts' b' h'}, w'.heap[ob]? = some (.cells #[.int .i64 kd, .int .i64 k, .bool two, .int .u64 x] 46 (0, 0)) → CPost w' 107 110 (q).pa (q).c0 F bs' ts' b' u r h' w'' →
        w''.heap[ob]? = some (.cells #[.int .i64 kd, .int .i64 k, .bool two, .int .u64 x] 46 (0, 0)) := by
      rintro w' w'' bs' ts' b' h' ho ⟨_, _, _, hm, _⟩
      exact hm.keep ho fun y => y.elim hout2.1 hout2.2.2.1
    refine ⟨_, k0 _ ho2, ifB_intro (fun _ => ?_) (fun _ => ifB_intro (fun _ => ?_) (fun _ => ifB_intro (fun _ => ?_) (fun _ => ifB_intro (fun _ => ?_) (fun _ => ifB_intro (fun _ => ?_) (fun _ => ifB_intro (fun _ => ?_) (fun _ => fin rfl h2 rfl (by omega)))))))⟩
    · -- Push
      rintro w3 rfl
      have h3 := h2.keep (Ext.drew w2)
      have ho3 := (Ext.drew w2).keep ho2
      refine ⟨_, k1 _ ho3, _, k1 _ ho3, .of (push_any h3.ar h3.cc0 h3.g0 nF (by omega) k) ?_⟩
      rintro v w4 ⟨rfl, hp⟩
      obtain ⟨rr, xx, _⟩ := h3.mid hp
      refine ⟨_, rfl, ⟨_, k1 _ (kep ho3 hp), rfl⟩, .of (rcpush_any rr xx h3.g0 nG (by omega) k) ?_⟩
      rintro v w5 ⟨rfl, hp2⟩
      obtain ⟨F', G', h5⟩ := h3.both hp hp2 ((show CfgC _ _ u r _ by rw [pushB_len h3.g0]; exact h3.g0).head (pushH_in h3.g0 k).1 (pushH_in h3.g0 k).2) (pushB_len h3.g0 k)
      exact ⟨_, rfl, fin (by simp) h5 (pushB_len h3.g0 k) (by have := pushT_len ts b0 u r k; omega)⟩
    · -- Pop
      refine .of (pop_any h2.ar h2.cc0 h2.g0 nF (by omega)) ?_
      rintro v w4 ⟨rfl, hp⟩
      obtain ⟨rr, xx, _⟩ := h2.mid hp
      refine ⟨_, _, rfl, .of (rcpop_any rr xx h2.g0 nG (by omega)) ?_⟩
      rintro v w5 ⟨rfl, hp2⟩
      obtain ⟨F', G', h5⟩ := h2.both hp hp2 ((show CfgC _ _ u r _ by rw [popB_len h2.g0]; exact h2.g0).head (popH_in h2.g0).1 (popH_in h2.g0).2) (popB_len h2.g0)
      exact ⟨_, _, rfl, ifB_true (by simp) (fin (by simp) h5 (popB_len h2.g0) (by have := popT_len bs ts b0 u r h0; omega))⟩
    · -- All
      refine .of (all_any h2.ar h2.cc0 h2.g0 nF (by omega)) ?_
      intro v w4 hpp
      obtain ⟨hp, F4, hr⟩ := hpp.cpost
      clear hpp
      obtain ⟨rr, xx, _⟩ := h2.mid hp
      obtain ⟨pp, c, rfl, hrow, hown⟩ := allres hr
      refine ⟨_, _, _, _, rfl, .of (rcall_any rr xx h2.g0 nG (by omega)) ?_⟩
      intro v w5 hpp
      obtain ⟨hp2, F5, hr2⟩ := hpp.cpost
      clear hpp
      obtain ⟨F', G', h5⟩ := h2.both hp hp2 h2.g0 rfl
      obtain ⟨pp2, c2, rfl, hrow2, hown2⟩ := allres hr2
      have hlen := allR_len r (lkA bs b0 u) r h0 []
      have hp64 := h2.g0.p64
      obtain ⟨_, _, _, hm2, _⟩ := hp2
      have hx0lt := lt_of_blk h2.xx0
      have hrow5 := hrow.keep hm2 fun j hj y => by
        have a := hown j hj
        rcases y with y | y
        · have := h2.rr.lt j y; omega
        · omega
      have hll := allR_list_len r (lkA bs b0 u) r h0 []
      refine ⟨_, _, _, _, rfl, .of (same08_any (ORow.rowAt intF_len hrow5) (ORow.rowAt intF_len hrow2) ?_) ?_⟩
      · simp only [maxLen, List.length_nil] at hll ⊢; omega
      rintro v w6 ⟨rfl, hE6⟩
      refine ⟨_, rfl, ifB_true (by simp) (fin (by simp) (h5.keep hE6) rfl ?_)⟩
      simp only [List.length_append, readT, List.length_map]; omega
    · -- Take
      rintro w3 rfl
      have h3 := h2.keep (Ext.drew w2)
      have d := h3.d
      simp only [someA]
      refine ⟨by decide, by decide, by trivial, _, pcell h3.pr (show q.arr[0 + 1 + 1]? = some (.pointer (some ⟨q.c1, 0, none⟩)) from pc1), by decide, by decide, by trivial, _, pcell h3.pr (show q.arr[0 + 4 + 1]? = some (.pointer (some ⟨q.x1, 0, none⟩)) from px1), .of (ctake_any h3.cc0 h3.cc1 d.2.2.2.2.1) ?_⟩
      rintro v w4 ⟨rfl, e0, e1, hm⟩
      have x0 : CH w4 _ _ _ _ u r _ := h3.xx0.keep hm (by omega)
      have x1 : CH w4 _ _ _ _ u r _ := h3.xx1.keep hm (by omega)
      have pr4 := hm.keep h3.pr (by omega)
      refine ⟨_, rfl, ⟨_, pcell pr4 (show q.arr[0 + 4 + 1]? = some (.pointer (some ⟨q.x1, 0, none⟩)) from px1), rfl⟩, ⟨by decide, by decide, by trivial, by trivial⟩, by trivial, .of (rctake_any x0 x1 d.2.2.2.2.2.2.2.2.2) ?_⟩
      rintro v w5 ⟨rfl, e2, e3, hm2⟩
      have e0' := e0.keep hm2 (by omega)
      have e1' := e1.keep hm2 (by omega)
      have hmm : Mod (fun j => j = (q).c0 ∨ j = (q).c1 ∨ j = (q).x0 ∨ j = (q).x1) w2.drew w5 := Mod.trans (hm.mono fun j hj => by omega) hm2 (fun j _ hj => by omega)
      have ga := h3.g0
      have gb := h3.g1
      have g1 := ga.h0
      have g2 := ga.h1
      have g3 := gb.h0
      have g4 := gb.h1
      have g5 := ga.p1
      have h5 := h3.heads hmm e0' e1' e2 e3 (ga.head (by split <;> omega) (by split <;> omega)) (gb.head (by split <;> omega) (by split <;> omega))
      exact ⟨_, rfl, fin (by simp) h5 rfl (by omega)⟩
    · -- Move
      rintro w3 rfl
      have h3 := h2.keep (Ext.drew w2)
      have ho3 := (Ext.drew w2).keep ho2
      refine ⟨_, k1 _ ho3, _, k1 _ ho3, .of (move_any h3.ar h3.cc0 h3.g0 nF k) ?_⟩
      rintro v w4 ⟨rfl, hp⟩
      obtain ⟨rr, xx, _⟩ := h3.mid hp
      refine ⟨_, rfl, ⟨_, k1 _ (kep ho3 hp), rfl⟩, .of (rcmove_any rr xx h3.g0 nG k) ?_⟩
      rintro v w5 ⟨rfl, hp2⟩
      obtain ⟨F', G', h5⟩ := h3.both hp hp2 (h3.g0.move k) rfl
      exact ⟨_, rfl, fin (by simp) h5 rfl (by omega)⟩
    · -- somebody else writes
      rintro w3 rfl
      have h3 := h2.keep (Ext.drew w2)
      have ho3 := (Ext.drew w2).keep ho2
      simp only [someA]
      refine ⟨_, ocell h3.pr pa0, _, k1 _ ho3, _, k3 _ ho3, _, ocell h3.pr pw0, _, k1 _ ho3, _, k3 _ ho3, .of (store_any h3.ar k x hx0 hx (by omega)) ?_⟩
      rintro v w4 ⟨rfl, F4, a4, hm4, hF4⟩
      have hp : CPost w2.drew 107 110 (q).pa (q).c0 F _ _ b0 u r h0 w4 := ⟨F4, a4, h3.cc0.keep hm4 nF, hm4.mono fun j hj => .inl hj, hF4⟩
      obtain ⟨rr, xx, pr4⟩ := h3.mid hp
      have ho4 := kep ho3 hp
      refine ⟨_, rfl, ⟨_, k3 _ ho4, rfl⟩, ⟨_, k1 _ ho4, rfl⟩, ⟨_, ocell pr4 pw0, rfl⟩, .of (refstore_any rr k x hx0 hx (by omega)) ?_⟩
      rintro v w5 ⟨rfl, G5, a5, hm5, hG5⟩
      have hlen : (if OkA bs.length k 8 then putAt bs k.toNat (le8 x.toNat) else bs).length = bs.length := by
        split
        · exact putAt_length (by rw [le8_length]; omega)
        · rfl
      obtain ⟨F', G', h5⟩ := h3.both hp ⟨G5, a5, xx.keep hm5 nG, hm5.mono fun j hj => .inl hj, hG5⟩ (by rw [hlen]; exact h3.g0) hlen
      refine ⟨_, rfl, fin (by simp) h5 hlen ?_⟩
      have := noteA_len ts k 8 true
      split <;> omega

/-! ### both are made -/

def parr (pa pw : Nat) (P X : Nat → Option Addr) : Array Value := #[.pointer (some ⟨pa, 0, none⟩), .pointer (P 0), .pointer (P 1), .pointer (some ⟨pw, 0, none⟩), .pointer (X 0), .pointer (X 1)]
def updF (P : Nat → Option Addr) (j : Nat) (v : Option Addr) : Nat → Option Addr := fun i => if i = j then v else P i

theorem setP {pa pw : Nat} {P X : Nat → Option Addr} {j : Nat} (hj : j < 2) (v : Option Addr) : setAt (parr pa pw P X) (0 + 1 + j) [.pointer v] = parr pa pw (updF P j v) X := by
  match j, hj with
  | 0, _ => rfl
  | 1, _ => rfl

theorem setX {pa pw : Nat} {P X : Nat → Option Addr} {j : Nat} (hj : j < 2) (v : Option Addr) : setAt (parr pa pw P X) (0 + 4 + j) [.pointer v] = parr pa pw P (updF X j v) := by
  match j, hj with
  | 0, _ => rfl
  | 1, _ => rfl

theorem getP {pa pw : Nat} {P X : Nat → Option Addr} {j : Nat} (hj : j < 2) : (parr pa pw P X)[0 + 1 + j]? = some (.pointer (P j)) := by
  match j, hj with
  | 0, _ => rfl
  | 1, _ => rfl

theorem getB {B0 B1 : Int} {j : Nat} (hj : j < 2) : (#[Value.int .i64 B0, .int .i64 B1] : Array Value)[0 + j]? = some (.int .i64 (if j = 0 then B0 else B1)) := by
  match j, hj with
  | 0, _ => rfl
  | 1, _ => rfl

/-- Two chains alike, or none. -/
def OptC (w : World) (pa pw n : Nat) (F G : Nat → Prop) (pb : Nat) (lo : Nat) (x2 x3 : Int) (cp xp : Option Addr) : Prop :=
  (cp = none ∧ xp = none) ∨ ∃ cb xb b u r : Nat, cp = some ⟨cb, 0, none⟩ ∧ xp = some ⟨xb, 0, none⟩ ∧ CH w 110 cb pa b u r (-1) ∧ CH w 68 xb pw b u r (-1) ∧ CfgC n b u r (-1) ∧ x2 = (u : Int) ∧ x3 = (r : Int) ∧
    (∀ j, j = cb ∨ j = xb → ¬ F j ∧ ¬ G j ∧ j ≠ pb ∧ lo ≤ j) ∧ cb ≠ xb

theorem OptC.keep {w w' : World} {pa pw n : Nat} {F G M : Nat → Prop} {pb lo : Nat} {x2 x3 : Int} {cp xp : Option Addr} (h : OptC w pa pw n F G pb lo x2 x3 cp xp) (hm : Mod M w w') (hM : ∀ j, M j → j = pb) : OptC w' pa pw n F G pb lo x2 x3 cp xp := by
  rcases h with h | ⟨cb, xb, b, u, r, e1, e2, c, x, g, a2, a3, f, ne⟩
  · exact .inl h
  · exact .inr ⟨cb, xb, b, u, r, e1, e2, hm.keep c fun y => (f cb (.inl rfl)).2.2.1 (hM _ y), hm.keep x fun y => (f xb (.inr rfl)).2.2.1 (hM _ y), g, a2, a3, f, ne⟩

/-- What 'made' leaves. -/
def MadeC (w0 : World) (n : Nat) (v : Value) (w' : World) : Prop :=
  ∃ pb pa pw P X, v = .tuple #[.pointer (some ⟨pb, 0, none⟩), .bool true] ∧ Ext w0 w' ∧ w'.heap[pb]? = some (.cells (parr pa pw P X) 65 (0, 0)) ∧
    (P 0 = none ∨ P 1 = none ∨ ∃ (q : Pn) (F G : Nat → Prop) (b0 b1 u r : Nat), q.ok ∧ q.pb = pb ∧ q.arr = parr pa pw P X ∧ PS w0 w' q F G (List.replicate n 0) [] b0 b1 u r (-1) (-1))

set_option maxHeartbeats 1000000 in
theorem made_any (w : World) (n : Nat) (hn : n < 2048) (B0 B1 x2 x3 : Int) :
    Calls Try.prog 27 #[.int .i64 (n : Int), .agg #[.int .i64 B0, .int .i64 B1], .int .i64 x2, .int .i64 x3] w (Ret (MadeC w n)) := by
  refine VC.garthlaw11_made.ok ?_
  unfold VC.garthlaw11_made
  refine al_intro fun bb w1 hbb hE1 hs1 hs1' => ?_
  refine al_intro fun pb w3 hpb hE3 hs3 hs3' => ?_
  have hE03 := hE1.trans hE3
  refine .of (new_any (n : Int) w3) ?_
  rintro v w5 (⟨hno, _⟩ | ⟨_, _, pa, F, rfl, ha5, hE5, hFn⟩)
  · exact absurd ⟨by omega, by omega⟩ hno
  have hpb5 := hE5.keep hpb
  refine ⟨_, _, rfl, ?_⟩
  refine wr_intro (b := pb) (n := 1) hpb5 (by simp) fun w6 hpb6 hm6 hs6 => ?_
  have nFp : ¬ F pb := fun y => by have := hFn pb y; omega
  have ha6 := ha5.keep hm6 (fun j hj e => nFp (e ▸ hj))
  refine .of (refnew_any (n : Int) w6) ?_
  rintro v w10 (⟨hno, _⟩ | ⟨_, _, pw, G, rfl, hg10, hE10, hGn⟩)
  · exact absurd ⟨by omega, by omega⟩ hno
  have hpb10 := hE10.keep hpb6
  refine ⟨_, _, rfl, ?_⟩
  refine wr_intro (b := pb) (n := 1) hpb10 (by simp [setAt]) fun w11 hpb11 hm11 hs11 => ?_
  rw [Int.toNat_natCast] at ha6 hg10
  have hlt6 := ha6.lt
  have hltF5 := ha5.lt
  have s5 := hE5.size
  have nGp : ¬ G pb := fun y => by have := hGn pb y; have := lt_of_blk hpb6; omega
  have hrep : (List.replicate n (0 : UInt8)).length = n := by simp
  have sep : ∀ j, F j → ¬ G j := fun j hj y => by have := hGn j y; have := hlt6 j hj; omega
  have ha11 := (ha6.ext hE10).keep hm11 (fun j hj e => nFp (e ▸ hj))
  have hg11 := hg10.keep hm11 (fun j hj e => nGp (e ▸ hj))
  have hE011 : Ext w w11 := by
    have a1 : Ext w w6 := (hE03.trans hE5).new hm6 (fun j hj => by omega)
    exact (a1.trans hE10).new hm11 (fun j hj => by omega)
  have hbb11 : w11.heap[bb]? = some (.cells #[.int .i64 B0, .int .i64 B1] 56 (0, 0)) := hm11.keep (hE10.keep (hm6.keep (hE5.keep (hE3.keep hbb)) (by omega))) (by omega)
  have newF : ∀ j, F j → w.heap.size ≤ j := fun j hj => by have := hFn j hj; omega
  have newG : ∀ j, G j → w.heap.size ≤ j := fun j hj => by have := hGn j hj; have := hE011.size; omega
  have bbF : ¬ F bb := fun y => by have := hFn bb y; omega
  have bbG : ¬ G bb := fun y => by have := hGn bb y; omega
  have hlo : w.heap.size ≤ pb := by omega
  have hbbpb : bb ≠ pb := by omega
  refine ⟨fun m i w12 => ∃ (j : Nat) (P X : Nat → Option Addr), i = (j : Int) ∧ m + j = 2 ∧ w12.heap[pb]? = some (.cells (parr pa pw P X) 65 (0, 0)) ∧ w12.heap[bb]? = some (.cells #[.int .i64 B0, .int .i64 B1] 56 (0, 0)) ∧
      Ar w12 107 pa F (List.replicate n 0) [] ∧ Ar w12 70 pw G (List.replicate n 0) [] ∧ Ext w w12 ∧
      (∀ i, i < j → OptC w12 pa pw n F G pb w.heap.size x2 x3 (P i) (X i)) ∧
      (∀ i i', i < i' → i' < j → ∀ a b, (P i = some a ∨ X i = some a) → (P i' = some b ∨ X i' = some b) → a ≠ b),
    ⟨2, 0, fun _ => none, fun _ => none, rfl, rfl, hpb11, hbb11, ha11, hg11, hE011, fun i hi => by omega, fun i i' _ hi => by omega⟩, ?_⟩
  clear hbb11 ha11 hg11 hE011 hpb11 ha6 hg10 hpb10 hpb6 ha5 hpb5 hbb hpb
  rintro m jv i w12 ⟨j, P, X, rfl, hmj, hpb, hbb, ha, hg, hE, hopt, hdis⟩
  refine ifD (fun hj => ?_) (fun hj => ?_)
  · have hj2 : j < 2 := by omega
    rintro w13 rfl
    have hEd := Ext.drew w12
    refine ⟨_, ocell (hEd.keep hpb) rfl, by omega, hj, by trivial, _, ocell (hEd.keep hbb) (by rw [Int.toNat_natCast]; exact getB hj2), .of (cnew_any (ha.ext hEd) _ x2 x3) ?_⟩
    rw [hrep]
    intro v w14 hnew
    obtain ⟨cp, e, hv, hE14, hcp⟩ : ∃ cp e, v = .tuple #[.pointer cp, .int .i64 e] ∧ Ext w12 w14 ∧ ((cp = none ∧ e = 12 ∧ ¬ (8 ≤ x2 ∧ x2 ≤ 512 ∧ 1 ≤ x3 ∧ x3 ≤ 64 ∧ 0 ≤ (if j = 0 then B0 else B1) ∧ (if j = 0 then B0 else B1) + x2 * x3 ≤ (n : Int))) ∨
        ∃ cb b u r : Nat, cp = some ⟨cb, 0, none⟩ ∧ e = 0 ∧ (if j = 0 then B0 else B1) = (b : Int) ∧ x2 = (u : Int) ∧ x3 = (r : Int) ∧ CH w14 110 cb pa b u r (-1) ∧ CfgC n b u r (-1) ∧ w12.heap.size ≤ cb) := by
      rcases hnew with ⟨hno, rfl, rfl⟩ | ⟨cb, b, u, r, e1, e2, e3, rfl, hc, g, hE', hcb⟩
      · exact ⟨none, 12, rfl, hEd, .inl ⟨rfl, rfl, hno⟩⟩
      · exact ⟨_, 0, rfl, hEd.trans hE', .inr ⟨cb, b, u, r, rfl, rfl, e1, e2, e3, hc, g, hcb⟩⟩
    clear hnew
    subst hv
    have hpb14 := hE14.keep hpb
    refine ⟨_, _, rfl, by omega, hj, by trivial, ?_⟩
    rw [add_mk, add_mk, Int.toNat_natCast]
    refine wr_intro (b := pb) (n := 1) hpb14 (by simp [parr]; omega) fun w15 hpb15 hm15 hs15 => ?_
    rw [setP hj2] at hpb15
    rintro w16 rfl
    have hEd2 := Ext.drew w15
    have hpbw : pb < w12.heap.size := lt_of_blk hpb
    have hm1216 : Mod (fun k => k = pb) w12 w15.drew := Mod.trans (Mod.trans (hE14.mod (F := fun k => k = pb)) hm15 (fun _ _ y => y)) hEd2 (fun _ _ y => y.elim)
    have hg16 := hg.keep hm1216 (fun k hk e => nGp (e ▸ hk))
    have ha16 := ha.keep hm1216 (fun k hk e => nFp (e ▸ hk))
    refine ⟨_, ocell (hEd2.keep hpb15) rfl, by omega, hj, by trivial, _, ocell (hm1216.keep hbb hbbpb) (by exact getB hj2), .of (rcnew_any hg16 _ x2 x3) ?_⟩
    rw [hrep]
    intro v w17 hnew
    obtain ⟨xp, e', hv, hE17, hxp⟩ : ∃ cp e, v = .tuple #[.pointer cp, .int .i64 e] ∧ Ext w15.drew w17 ∧ ((cp = none ∧ e = 12 ∧ ¬ (8 ≤ x2 ∧ x2 ≤ 512 ∧ 1 ≤ x3 ∧ x3 ≤ 64 ∧ 0 ≤ (if j = 0 then B0 else B1) ∧ (if j = 0 then B0 else B1) + x2 * x3 ≤ (n : Int))) ∨
        ∃ cb b u r : Nat, cp = some ⟨cb, 0, none⟩ ∧ e = 0 ∧ (if j = 0 then B0 else B1) = (b : Int) ∧ x2 = (u : Int) ∧ x3 = (r : Int) ∧ CH w17 68 cb pw b u r (-1) ∧ CfgC n b u r (-1) ∧ w15.heap.size ≤ cb) := by
      rcases hnew with ⟨hno, rfl, rfl⟩ | ⟨cb, b, u, r, e1, e2, e3, rfl, hc, g, hE', hcb⟩
      · exact ⟨none, 12, rfl, Mod.refl _ _, .inl ⟨rfl, rfl, hno⟩⟩
      · exact ⟨_, 0, rfl, hE', .inr ⟨cb, b, u, r, rfl, rfl, e1, e2, e3, hc, g, Nat.le_trans hEd2.size hcb⟩⟩
    clear hnew
    subst hv
    have hpb17 := hE17.keep (hEd2.keep hpb15)
    refine ⟨_, _, rfl, by omega, hj, by trivial, ?_⟩
    rw [add_mk, add_mk]
    refine wr_intro (b := pb) (n := 1) hpb17 (by simp [parr]; omega) fun w18 hpb18 hm18 hs18 => ?_
    rw [setX hj2] at hpb18
    have hm1218 : Mod (fun k => k = pb) w12 w18 := Mod.trans (Mod.trans hm1216 (hE17.mod (F := fun k => k = pb)) (fun _ _ y => y)) hm18 (fun _ _ y => y)
    -- alike
    have hee : e = e' := by
      rcases hcp with ⟨rfl, rfl, hno⟩ | ⟨cb, b, u, r, rfl, rfl, e1, e2, e3, hc, g, hcb⟩
      · rcases hxp with ⟨rfl, rfl, _⟩ | ⟨xb, b', u', r', rfl, rfl, f1, f2, f3, hx, g', hxb⟩
        · rfl
        · refine absurd ⟨?_, ?_, ?_, ?_, ?_, ?_⟩ hno
          · have := g'.u8; omega
          · have := g'.u512; omega
          · have := g'.p1; omega
          · have := g'.p64; omega
          · omega
          · rw [f1, f2, f3, ← Int.natCast_mul]; have := g'.fit; omega
      · rcases hxp with ⟨rfl, rfl, hno⟩ | ⟨xb, b', u', r', rfl, rfl, f1, f2, f3, hx, g', hxb⟩
        · refine absurd ⟨?_, ?_, ?_, ?_, ?_, ?_⟩ hno
          · have := g.u8; omega
          · have := g.u512; omega
          · have := g.p1; omega
          · have := g.p64; omega
          · omega
          · rw [e1, e2, e3, ← Int.natCast_mul]; have := g.fit; omega
        · rfl
    subst hee
    have hnone : (!cp.isNone == (e != 0)) = false := by
      rcases hcp with ⟨rfl, rfl, _⟩ | ⟨cb, b, u, r, rfl, rfl, _⟩ <;> rfl
    have hopt' : OptC w18 pa pw n F G pb w.heap.size x2 x3 cp xp := by
      rcases hcp with ⟨rfl, rfl, hno⟩ | ⟨cb, b, u, r, rfl, rfl, e1, e2, e3, hc, g, hcb⟩
      · rcases hxp with ⟨rfl, _, _⟩ | ⟨xb, b', u', r', rfl, h12, _⟩
        · exact .inl ⟨rfl, rfl⟩
        · exact absurd h12 (by decide)
      · rcases hxp with ⟨rfl, h12, _⟩ | ⟨xb, b', u', r', rfl, _, f1, f2, f3, hx, g', hxb⟩
        · exact absurd h12 (by decide)
        · obtain rfl : b = b' := by omega
          obtain rfl : u = u' := by omega
          obtain rfl : r = r' := by omega
          have hcb14 := lt_of_blk hc
          have hsz := hE.size
          have hs14 := hE14.size
          have la := ha.lt
          have lg := hg.lt
          have m1418 : Mod (fun k => k = pb) w14 w18 := Mod.trans (Mod.trans (Mod.trans hm15 hEd2 (fun _ _ y => y.elim)) (hE17.mod (F := fun k => k = pb)) (fun _ _ y => y)) hm18 (fun _ _ y => y)
          refine .inr ⟨cb, xb, b, u, r, rfl, rfl, m1418.keep hc (by omega), hm18.keep hx (by omega), g, e2, e3, fun k hk => ?_, by omega⟩
          have hk' : w12.heap.size ≤ k := by omega
          exact ⟨fun y => by have := la k y; omega, fun y => by have := lg k y; omega, by omega, by omega⟩
    have hfresh : ∀ b, (cp = some b ∨ xp = some b) → w12.heap.size ≤ b.block := by
      have hs14 := hE14.size
      intro b hb
      rcases hb with hb | hb
      · rcases hcp with ⟨rfl, _, _⟩ | ⟨cb, _, _, _, rfl, _, _, _, _, _, _, hcb⟩
        · cases hb
        · cases hb; exact hcb
      · rcases hxp with ⟨rfl, _, _⟩ | ⟨xb, _, _, _, rfl, _, _, _, _, _, _, hxb⟩
        · cases hb
        · cases hb
          show w12.heap.size ≤ xb
          omega
    have hold : ∀ i, i < j → ∀ a, (P i = some a ∨ X i = some a) → a.block < w12.heap.size := by
      intro i hi a haa
      rcases hopt i hi with ⟨e1, e2⟩ | ⟨cb, xb, _, _, _, e1, e2, hc, hx, _⟩
      · rw [e1, e2] at haa
        rcases haa with haa | haa <;> cases haa
      · rw [e1, e2] at haa
        rcases haa with haa | haa
        · cases haa; exact lt_of_blk hc
        · cases haa; exact lt_of_blk hx
    refine ⟨fun b w19 => b = false ∧ w19 = w18, ifB_false (by simp) ⟨by omega, hj, _, cell_blk hpb18 (getP hj2), ?_, rfl⟩, ?_⟩
    · rw [show updF P j cp j = cp by simp [updF]]
      exact hnone
    rintro jv b19 w19 ⟨rfl, rfl⟩
    refine ifB_false rfl ⟨m - 1, by omega, j + 1, updF P j cp, updF X j xp, ?_, by omega, hpb18, hm1218.keep hbb hbbpb, ha.keep hm1218 (fun k hk e => nFp (e ▸ hk)), hg.keep hm1218 (fun k hk e => nGp (e ▸ hk)), hE.new hm1218 (fun k hk => by omega), fun i hi => ?_, fun i i' hii hi' a b haa hbb' => ?_⟩
    · rw [wrap_i64 (by omega) (by omega)]; rfl
    · by_cases e : i = j
      · subst e
        simp only [updF, if_true]
        exact hopt'
      · simp only [updF, if_neg e]
        exact (hopt i (by omega)).keep hm1218 (fun k hk => hk)
    · have hi : i ≠ j := by omega
      simp only [updF, if_neg hi] at haa
      by_cases e : i' = j
      · subst e
        simp only [updF, if_true] at hbb'
        have h1 := hold i hii a haa
        have h2 := hfresh b hbb'
        intro e
        subst e
        omega
      · simp only [updF, if_neg e] at hbb'
        exact hdis i i' hii (by omega) a b haa hbb'
  · obtain rfl : j = 2 := by omega
    refine ⟨pb, pa, pw, P, X, rfl, hE, hpb, ?_⟩
    rcases hopt 0 (by omega) with ⟨e, _⟩ | ⟨c0, x0, b0, u, r, e1, e2, hc0, hx0, g0, a2, a3, f0, n0⟩
    · exact .inl e
    rcases hopt 1 (by omega) with ⟨e, _⟩ | ⟨c1, x1, b1, u', r', e3, e4, hc1, hx1, g1, a2', a3', f1, n1⟩
    · exact .inr (.inl e)
    obtain rfl : u = u' := by omega
    obtain rfl : r = r' := by omega
    have hd := hdis 0 1 (by omega) (by omega)
    have d1 : c0 ≠ c1 := fun e => hd _ _ (.inl e1) (.inl e3) (by rw [e])
    have d2 : c0 ≠ x1 := fun e => hd _ _ (.inl e1) (.inr e4) (by rw [e])
    have d3 : x0 ≠ c1 := fun e => hd _ _ (.inr e2) (.inl e3) (by rw [e])
    have d4 : x0 ≠ x1 := fun e => hd _ _ (.inr e2) (.inr e4) (by rw [e])
    have q0 := f0 c0 (.inl rfl)
    have q1 := f0 x0 (.inr rfl)
    have q2 := f1 c1 (.inl rfl)
    have q3 := f1 x1 (.inr rfl)
    refine .inr (.inr ⟨⟨pb, pa, pw, c0, c1, x0, x1, parr pa pw P X⟩, F, G, b0, b1, u, r, ?_, rfl, rfl, hpb, ha, hg, hc0, hc1, hx0, hx1, by rw [hrep]; exact g0, by rw [hrep]; exact g1, sep, ?_, ?_, ?_, hE⟩)
    · show parr pa pw P X = _
      simp only [parr, e1, e2, e3, e4]
    · rintro j (rfl | rfl | rfl | rfl | rfl)
      · exact ⟨nFp, nGp⟩
      · exact ⟨q0.1, q0.2.1⟩
      · exact ⟨q2.1, q2.2.1⟩
      · exact ⟨q1.1, q1.2.1⟩
      · exact ⟨q3.1, q3.2.1⟩
    · have a := q0.2.2.1
      have b := q1.2.2.1
      have c := q2.2.2.1
      have d := q3.2.2.1
      show pb ≠ c0 ∧ pb ≠ c1 ∧ pb ≠ x0 ∧ pb ≠ x1 ∧ c0 ≠ c1 ∧ c0 ≠ x0 ∧ c0 ≠ x1 ∧ c1 ≠ x0 ∧ c1 ≠ x1 ∧ x0 ≠ x1
      omega
    · rintro j (hj | hj | rfl | rfl | rfl | rfl | rfl)
      · exact newF j hj
      · exact newG j hj
      · exact hlo
      · exact q0.2.2.2
      · exact q2.2.2.2
      · exact q1.2.2.2
      · exact q3.2.2.2

/-! ### ChainPlays -/

theorem u64_range {x : Int} (h : (Lit.int .u64 x).wf = true) : 0 ≤ x ∧ x < 18446744073709551616 := by
  simp [Lit.wf, IntKind.min, IntKind.max, IntKind.signed, IntKind.bits] at h
  omega

set_option maxHeartbeats 1000000 in
theorem core_ChainPlays (w : World) (x0 B0 B1 x2 x3 : Int) {pa : Option Addr} {cap : Nat} {l : List LOp} (hrow : RowAt w pa 4 lopF l) (hwf : ∀ y ∈ l, (Lit.int .u64 y.2.2.2.1).wf = true) (hl63 : l.length ≤ maxLen) :
    Calls Try.prog 7 #[.int .i64 x0, .agg #[.int .i64 B0, .int .i64 B1], .int .i64 x2, .int .i64 x3, .slice pa l.length cap] w (Ret (Yes w)) := by
  refine VC.garthlaw11_ChainPlays.ok ?_
  unfold VC.garthlaw11_ChainPlays
  obtain ⟨n, hn, hlt⟩ := size_mod x0 2048 (by decide) (by decide)
  have hn : IntKind.i64.wrap ((IntKind.u64.wrap x0).tmod 2048) = (n : Int) := hn
  simp only [hn]
  refine al_intro fun bb w1 hbb hE1 hs1 hs1' => ⟨by decide, _, _, cells_all (vs := [.int .i64 B0, .int .i64 B1]) hbb, .of (made_any w1 n hlt B0 B1 x2 x3) ?_⟩
  rintro v w2 ⟨pb, pa', pw', P, X, rfl, hE2, hpb, hcase⟩
  have hE02 := hE1.trans hE2
  refine ⟨_, _, rfl, fun b w3 => Ext w2 w3 ∧ (b = false → l.length ≤ 400), .of (lawake_any w2) ?_, ?_⟩
  · rintro r w3 ⟨rfl, hE⟩
    refine ⟨_, rfl, ifB_false rfl (ifB_false rfl ⟨hE, fun q => ?_⟩)⟩
    have := of_decide_eq_false q
    omega
  rintro jv b w3 ⟨hE3, hl⟩
  have hE03 := hE02.trans hE3
  refine ifB_intro (fun _ => .of (lawake_any w3) ?_) (fun hb => ?_)
  · rintro r w4 ⟨rfl, hE⟩
    exact ⟨_, rfl, ifB_true rfl ⟨rfl, hE03.trans hE⟩⟩
  have hl := hl hb
  have hpb3 := hE3.keep hpb
  simp only [someA]
  refine ⟨by decide, by decide, _, pcell hpb3 (getP (j := 0) (by decide)), ?_⟩
  rcases hcase with e | hcase
  · rw [e]; exact ifB_true rfl ⟨rfl, hE03⟩
  refine ifB_intro (fun _ => ⟨rfl, hE03⟩) (fun _ => ⟨by decide, by decide, _, pcell hpb3 (getP (j := 1) (by decide)), ?_⟩)
  rcases hcase with e | ⟨q, F, G, b0, b1, u, r, hq, rfl, harr, h2⟩
  · rw [e]; exact ifB_true rfl ⟨rfl, hE03⟩
  refine ifB_intro (fun _ => ⟨rfl, hE03⟩) (fun _ => ?_)
  have h3 := h2.keep hE3
  have hnew1 : w.heap.size ≤ w1.heap.size := hE1.size
  clear hpb3 hpb
  refine ⟨fun m i w4 => ∃ (j : Nat) (F G : Nat → Prop) (bs : List UInt8) (ts : List Tch) (b0 b1 u r : Nat) (h0 h1 : Int), i = (j : Int) ∧ m + j = l.length ∧ PS w1 w4 q F G bs ts b0 b1 u r h0 h1 ∧ bs.length = n ∧ ts.length ≤ 70 * j,
    ⟨l.length, 0, F, G, _, _, b0, b1, u, r, _, _, rfl, rfl, h3, by simp, by simp⟩, ?_⟩
  clear h2 h3
  rintro m jv i w4 ⟨j, F, G, bs, ts, b0, b1, u, r, h0, h1, rfl, hmj, h4, hbl, htl⟩
  have hE04 := hE1.trans h4.ext
  have hq' : q.arr = _ := hq
  have pa0 : q.arr[0 + 0]? = some (.pointer (some ⟨q.pa, 0, none⟩)) := by rw [hq']; rfl
  have pw0 : q.arr[0 + 3]? = some (.pointer (some ⟨q.pw, 0, none⟩)) := by rw [hq']; rfl
  have pc0 : q.arr[0 + 1 + 0]? = some (.pointer (some ⟨q.c0, 0, none⟩)) := by rw [hq']; rfl
  have pc1 : q.arr[0 + 1 + 1]? = some (.pointer (some ⟨q.c1, 0, none⟩)) := by rw [hq']; rfl
  have px0 : q.arr[0 + 4 + 0]? = some (.pointer (some ⟨q.x0, 0, none⟩)) := by rw [hq']; rfl
  have px1 : q.arr[0 + 4 + 1]? = some (.pointer (some ⟨q.x1, 0, none⟩)) := by rw [hq']; rfl
  refine ifD (fun hj => ⟨by omega, hj, ?_⟩) (fun hj => ?_)
  · obtain ⟨y, hy⟩ : ∃ y, l[j]? = some y := ⟨_, List.getElem?_eq_getElem (by omega)⟩
    have hyw := hwf y (List.mem_of_getElem? hy)
    rw [Int.toNat_natCast]
    refine (hrow.ext hE04).lop hy (al_intro fun b w8 hb8 hE8 hs8 hs8' => ?_)
    refine wr_intro (b := b) (n := 4) hb8 (by simp) fun w9 hb9 hm9 _ => ?_
    have hE49 : Ext w4 w9 := hE8.new hm9 (fun k hk => by subst hk; omega)
    have hb9 : w9.heap[b]? = some (.cells #[.int .i64 y.1, .int .i64 y.2.1, .bool y.2.2.1, .int .u64 y.2.2.2.1] 46 (0, 0)) := hb9
    have h9 := h4.keep hE49
    have hr := u64_range hyw
    refine ⟨fun bb w10 => bb = false ∧ ∃ F' G' bs' ts' b0' b1' u r h0' h1', PS w1 w10 q F' G' bs' ts' b0' b1' u r h0' h1' ∧ bs'.length = n ∧ ts'.length ≤ 70 * (j + 1), ?_, ?_⟩
    · rintro w10 rfl
      have hE10 := Ext.drew w9
      refine ⟨_, _, _, _, cells_all (vs := [_, _, _, _]) (hE10.keep hb9), .of (done_any (h9.keep hE10) hq _ _ _ _ hr.1 hr.2 (by omega)) ?_⟩
      rintro v w11 ⟨rfl, F', G', bs', ts', b0', b1', u', r', h0', h1', h11, hbl', htl'⟩
      refine ⟨_, rfl, by trivial, ifB_false rfl ⟨by decide, by decide, by trivial, _, pcell h11.pr pc0, by decide, by decide, by trivial, _, pcell h11.pr px0, ?_⟩⟩
      refine ⟨_, ocell h11.xx0 rfl, .of (empty_any h11.cc0) ?_⟩
      rintro v w12 ⟨rfl, rfl⟩
      refine ⟨_, rfl, by trivial, ⟨_, ocell h11.xx0 rfl, rfl⟩, ⟨_, pcell h11.pr px0, rfl⟩, ⟨by decide, by decide, by trivial, by trivial⟩, by trivial, by trivial, ifB_false ?_ ⟨by decide, by decide, by trivial, _, pcell h11.pr pc1, by decide, by decide, by trivial, _, pcell h11.pr px1, ?_⟩⟩
      · cases decide (h0' < 0) <;> rfl
      refine ⟨_, ocell h11.xx1 rfl, .of (empty_any h11.cc1) ?_⟩
      rintro v w13 ⟨rfl, rfl⟩
      refine ⟨_, rfl, by trivial, ⟨_, ocell h11.xx1 rfl, rfl⟩, ⟨_, pcell h11.pr px1, rfl⟩, ⟨by decide, by decide, by trivial, by trivial⟩, by trivial, by trivial, ?_, F', G', bs', ts', b0', b1', u', r', h0', h1', h11, by omega, by omega⟩
      cases decide (h1' < 0) <;> rfl
    · rintro jv bb' w10 ⟨rfl, F', G', bs', ts', b0', b1', u', r', h0', h1', h11, hbl', htl'⟩
      refine ifB_false rfl ⟨m - 1, by omega, j + 1, F', G', bs', ts', b0', b1', u', r', h0', h1', ?_, by omega, h11, hbl', htl'⟩
      rw [wrap_i64 (by omega) (by omega)]; rfl
  · refine ⟨_, ocell h4.pr pa0, .of (touched_any h4.ar (by omega)) ?_⟩
    rintro v w5 ⟨hT, hE5, hTn⟩
    obtain ⟨tp, tc, rfl⟩ := hT.shape
    have h5 := h4.keep hE5
    have ok : OkA bs.length 0 (n : Int) := ⟨by omega, by omega, by omega⟩
    refine ⟨_, _, _, rfl, _, ocell h5.pr pa0, .of (read_any h5.ar 0 (n : Int) (by omega)) ?_⟩
    rintro v w6 ⟨rfl, F6, h6, hm6, hF6⟩
    have lF := h4.ar.lt
    have hT6 := hT.keep hm6 (fun k hk y => by have := hTn k hk; have := lF k y; omega)
    have pr6 := hm6.keep h5.pr (h5.nF _ o0).1
    have rr6 := h5.rr.keep hm6 (fun k hk y => h5.sep k y hk)
    have hE06 : Ext w w6 := (hE1.trans h5.ext).new hm6 (fun k hk => by have := h5.new k (.inl hk); omega)
    obtain ⟨g6, e6, hby6⟩ := rr6.slot0'
    obtain ⟨t6, c6, f6, hrow6⟩ := rr6.slot1'
    rw [if_pos ok, if_pos ok]
    have es : seg bs (0 : Int).toNat (n : Int).toNat = bs := by rw [Int.toNat_natCast, ← hbl]; exact seg_all bs (Nat.le_refl _)
    rw [es]
    refine ⟨_, _, rfl, _, ocell pr6 pw0, _, _, _, e6, bs, rfl, hby6, ifB_true (by rw [decide_eq_true]; rfl) ⟨_, ocell pr6 pw0, _, _, _, f6, .of (same_any hT6 hrow6 rfl rfl (by omega)) ?_⟩⟩
    rintro v w7 ⟨rfl, hE7⟩
    exact ⟨_, rfl, by simp, hE06.trans hE7⟩

theorem walk_ChainPlays (w : World) (x0 : Int) (_ : -9223372036854775808 ≤ x0 ∧ x0 ≤ 9223372036854775807) (x1 : (Sh.pair (.int .i64) (.pair (.int .i64) .unit)).T) (ok1 : (Sh.pair (.int .i64) (.pair (.int .i64) .unit)).Ok w x1)
    (x2 : Int) (_ : -9223372036854775808 ≤ x2 ∧ x2 ≤ 9223372036854775807) (x3 : Int) (_ : -9223372036854775808 ≤ x3 ∧ x3 ≤ 9223372036854775807) (x : LOpsSh.T) (ok : LOpsSh.Ok w x) :
    Calls Try.prog 7 #[.int .i64 x0, (Sh.pair (.int .i64) (.pair (.int .i64) .unit)).val x1, .int .i64 x2, .int .i64 x3, LOpsSh.val x] w (Ret (Yes w)) :=
  core_ChainPlays w x0 x1.1 x1.2.1 x2 x3 (pa := x.1.1) (cap := x.1.2) (l := x.2) (lops_row ok) (lops_wf ok) (Nat.le_trans ok.1 ok.2.1)

end Go.Proofs.Ytnjjgpjpodmgpaa
