/- Two lists of touches are compared; a list of touches beside an arena. Conditions: none. -/
import Derived.Test.YtlfmkdndioegmaaArena3
import Derived.Test.YtlfmkdndioegmaaArenaRef
set_option linter.unusedVariables false
set_option linter.unusedSimpArgs false
namespace Go.Proofs.Ytlfmkdndioegmaa
open Go.RowKit

theorem run_span_neq (w : World) (a b a' b' : Int) (c c' : Bool) :
    (binOp .neq 52 (.agg #[.int .i64 a, .int .i64 b, .bool c]) (.agg #[.int .i64 a', .int .i64 b', .bool c'])).run Try.prog w = .ok (.bool (!(a == a' && (b == b' && (c == c' && true))))) w := by
  have hu : Try.prog.underlying 3 = some (.int .i64) := by kernel_rfl
  have hb : Try.prog.underlying 4 = some .bool := by kernel_rfl
  exact (run_eq_struct (P := Try.prog) (w := w) (t := 52) (xs := #[.int .i64 a, .int .i64 b, .bool c]) (ys := #[.int .i64 a', .int .i64 b', .bool c'])
    (l := [(⟨ "At", 3, 0, false, "", "", 0⟩, a == a'), (⟨ "N", 3, 1, false, "", "", 8⟩, b == b'), (⟨ "Wrote", 4, 2, false, "", "", 16⟩, c == c')])
    (by kernel_rfl) (by kernel_rfl) (by kernel_rfl) (by
      intro p hp
      simp only [List.mem_cons, List.mem_nil_iff, or_false] at hp
      rcases hp with rfl | rfl | rfl
      · exact ⟨by simp, _, _, run_part' hu rfl rfl w, run_part' hu rfl rfl w, run_equalIn_int w 9998 3 .i64 .i64 _ _ hu⟩
      · exact ⟨by simp, _, _, run_part' hu rfl rfl w, run_part' hu rfl rfl w, run_equalIn_int w 9998 3 .i64 .i64 _ _ hu⟩
      · exact ⟨by simp, _, _, run_part' hb rfl rfl w, run_part' hb rfl rfl w, run_equalIn_bool w 9998 4 _ _ hb⟩)).2

theorem same_any {w : World} {pa pb : Option Addr} {na nb ca cb : Nat} {ts us : List Tch} (ha : TRow w (.slice pa na ca) ts) (hb : TRow w (.slice pb nb cb) us) (hn : na = ts.length) (hm : nb = us.length) (hl : ts.length < 1099511627776) :
    Calls Try.prog 28 #[.slice pa na ca, .slice pb nb cb] w (Ret fun r w' => r = .bool (decide (ts = us)) ∧ Ext w w') := by
  subst hn hm
  refine VC.garthref01_Same.ok ?_
  unfold VC.garthref01_Same
  by_cases hlen : ts.length = us.length
  case neg =>
    refine ifB_true (by simp; omega) ⟨?_, Mod.refl _ _⟩
    rw [decide_eq_false (fun e => hlen (by rw [e]))]
  refine ifB_false (by simp; omega) ?_
  refine ⟨fun n i w1 => ∃ j : Nat, i = j ∧ n + j = ts.length ∧ Ext w w1 ∧ ts.take j = us.take j, ⟨ts.length, 0, rfl, rfl, Mod.refl _ _, by simp⟩, ?_⟩
  rintro n jv _ w1 ⟨j, rfl, hn, hE, hj⟩
  refine ifD (fun hlt => ?_) (fun hlt => ?_)
  · rintro w2 rfl
    have hE2 := hE.trans (Ext.drew w1)
    obtain ⟨t, ht⟩ : ∃ t, ts[j]? = some t := ⟨_, List.getElem?_eq_getElem (by omega)⟩
    obtain ⟨u, hu⟩ : ∃ u, us[j]? = some u := ⟨_, List.getElem?_eq_getElem (by omega)⟩
    obtain ⟨a, rfl, hca⟩ := (ha.keep hE2 (fun _ _ x => x)).cells ht
    obtain ⟨b, rfl, hcb⟩ := (hb.keep hE2 (fun _ _ x => x)).cells hu
    have htk : ts.take (j + 1) = ts.take j ++ [t] := by rw [List.take_add_one, ht]; rfl
    have huk : us.take (j + 1) = us.take j ++ [u] := by rw [List.take_add_one, hu]; rfl
    refine ⟨by omega, by omega, by trivial, _, _, _, hca, by omega, by omega, by trivial, _, _, _, hcb, _, _, run_span_neq _ _ _ _ _ _ _, by trivial, ?_⟩
    refine ifB_intro (fun hq => ⟨?_, hE2⟩) (fun hq => ⟨n - 1, by omega, j + 1, ?_, by omega, hE2, ?_⟩)
    · rw [decide_eq_false]
      intro e
      subst e
      rw [ht] at hu
      cases hu
      simp at hq
    · rw [wrap_i64 (by omega) (by omega)]; omega
    · rw [htk, huk, hj]
      have : t = u := by
        obtain ⟨t1, t2, t3⟩ := t
        obtain ⟨u1, u2, u3⟩ := u
        simp at hq
        simp [hq]
      rw [this]
  · have hj2 : j = ts.length := by omega
    subst hj2
    refine ⟨?_, hE⟩
    rw [decide_eq_true]
    rw [List.take_of_length_le (Nat.le_refl _), List.take_of_length_le (by omega)] at hj
    exact hj

/-- An arena made since w0, and a list of touches beside it. -/
def Beside (w0 w : World) (T : TypeId) (p : Nat) (bs : List UInt8) (ts us : List Tch) (v : Value) : Prop :=
  ∃ F, Ar w T p F bs ts ∧ Ext w0 w ∧ (∀ k, F k → w0.heap.size ≤ k) ∧ TRow w v us ∧ ∀ k, v.ownBlock = some k → ¬ F k ∧ w0.heap.size ≤ k

section
variable {w0 w w' : World} {T : TypeId} {p : Nat} {bs bs' : List UInt8} {ts ts' us : List Tch} {v : Value} {K : Value → World → Prop}

theorem Beside.ext (o : Beside w0 w T p bs ts us v) : Ext w0 w := by obtain ⟨_, _, h, _⟩ := o; exact h

theorem Beside.keep (o : Beside w0 w T p bs ts us v) (h : Ext w w') : Beside w0 w' T p bs ts us v := by
  obtain ⟨F, a, e, f, r, g⟩ := o
  exact ⟨F, a.keep h (fun _ _ x => x), e.trans h, f, r.keep h (fun _ _ x => x), g⟩

theorem Beside.call {g : FuncId} {args : Array Value} {x : Value} (o : Beside w0 w T p bs ts us v)
    (c : ∀ F, Ar w T p F bs ts → Calls Try.prog g args w (Ret fun r w' => r = x ∧ Post w T p F bs' ts' w')) (k : ∀ w', Beside w0 w' T p bs' ts' us v → K x w') : CallS Try.prog g args w K := by
  obtain ⟨F, a, e, f, r, g⟩ := o
  refine .of (c F a) ?_
  rintro _ w' ⟨rfl, F', a', m, f'⟩
  have hlt := fun k hk => (World.ownsRow.lt r k hk).2
  refine k w' ⟨F', a', Ext.new e m f, fun k hk => ?_, r.keep m (fun k hk => (g k hk).1), fun k hk => ⟨fun q => ?_, (g k hk).2⟩⟩
  · rcases f' k hk with q | q
    · exact f k q
    · exact Nat.le_trans e.size q
  · rcases f' k q with q | q
    · exact (g k hk).1 q
    · have := hlt k hk; omega

theorem Beside.add {pa : Option Addr} {na ca : Nat} {K : Option Addr → Nat → Nat → World → Prop} (o : Beside w0 w T p bs ts us (.slice pa na ca)) (hl : us.length < 1099511627776) (a k : Int) (b : Bool)
    (hK : ∀ q n c w', Beside w0 w' T p bs ts (us ++ [(a, k, b)]) (.slice q n c) → n = us.length + 1 → K q n c w') :
    ∀ (n4 : Nat) (w5 : World), n4 = w.heap.size → w5 = w.alloc (Obj.cells #[Value.int IntKind.i64 a, Value.int IntKind.i64 k, Value.bool b] 52) →
        ∃ (p6 : Option Addr) (n7 : Nat) (n8 : Nat) (w9 : World),
          Sem.run Try.prog (Builtin.append_ #[50, 50] 50 #[Value.slice pa na ca, Value.slice (some (Addr.mk n4 (0 : Nat) none)) (1 : Nat) (1 : Nat)]) w5 = Result.ok (Value.slice p6 n7 n8) w9 ∧ K p6 n7 n8 w9 := by
  refine al_intro fun n4 w5 hb hE hs hs5 => ?_
  obtain ⟨F, ar, e, f, r, g⟩ := o.keep hE
  have hF5 := ar.lt
  obtain ⟨F0, ar0, _, _, r0, g0⟩ := o
  obtain ⟨v', w9, hr, hrow, hm, hv⟩ := run_touch (t := (a, k, b)) (a := ⟨n4, 0, none⟩) (c := 1) r (cells_all hb) hl
  obtain ⟨p6, c6, rfl⟩ := hrow.shape
  refine ⟨p6, _, c6, w9, hr, hK _ _ _ _ ⟨F, ar.keep hm (fun k hk q => (g k q).1 hk), Ext.new e hm (fun k hk => (g k hk).2), f, hrow, fun k hk => ?_⟩ (by simp)⟩
  rcases hv k hk with q | q
  · exact g k q
  · exact ⟨fun hq => by have := hF5 k hq; omega, Nat.le_trans e.size q⟩

end

end Go.Proofs.Ytlfmkdndioegmaa
