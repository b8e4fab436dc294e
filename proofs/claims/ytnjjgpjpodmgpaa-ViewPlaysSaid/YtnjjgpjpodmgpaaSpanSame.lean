/- Two lists of touches are compared. Conditions: none. -/
import Derived.Test.YtnjjgpjpodmgpaaArenaRef
set_option linter.unusedVariables false
set_option linter.unusedSimpArgs false
namespace Go.Proofs.Ytnjjgpjpodmgpaa
open Go.RowKit

theorem run_span_neq (w : World) (a b a' b' : Int) (c c' : Bool) :
    (binOp .neq 50 (.agg #[.int .i64 a, .int .i64 b, .bool c]) (.agg #[.int .i64 a', .int .i64 b', .bool c'])).run Try.prog w = .ok (.bool (!(a == a' && (b == b' && (c == c' && true))))) w := by
  have hu : Try.prog.underlying 3 = some (.int .i64) := by kernel_rfl
  have hb : Try.prog.underlying 4 = some .bool := by kernel_rfl
  exact (run_eq_struct (P := Try.prog) (w := w) (t := 50) (xs := #[.int .i64 a, .int .i64 b, .bool c]) (ys := #[.int .i64 a', .int .i64 b', .bool c'])
    (l := [(⟨ "At", 3, 0, false, "", "", 0⟩, a == a'), (⟨ "N", 3, 1, false, "", "", 8⟩, b == b'), (⟨ "Wrote", 4, 2, false, "", "", 16⟩, c == c')])
    (by kernel_rfl) (by kernel_rfl) (by kernel_rfl) (by
      intro p hp
      simp only [List.mem_cons, List.mem_nil_iff, or_false] at hp
      rcases hp with rfl | rfl | rfl
      · exact ⟨by simp, _, _, run_part' hu rfl rfl w, run_part' hu rfl rfl w, run_equalIn_int w 9998 3 .i64 .i64 _ _ hu⟩
      · exact ⟨by simp, _, _, run_part' hu rfl rfl w, run_part' hu rfl rfl w, run_equalIn_int w 9998 3 .i64 .i64 _ _ hu⟩
      · exact ⟨by simp, _, _, run_part' hb rfl rfl w, run_part' hb rfl rfl w, run_equalIn_bool w 9998 4 _ _ hb⟩)).2

theorem same_any {w : World} {pa pb : Option Addr} {na nb ca cb : Nat} {ts us : List Tch} (ha : TRow w (.slice pa na ca) ts) (hb : TRow w (.slice pb nb cb) us) (hn : na = ts.length) (hm : nb = us.length) (hl : ts.length < 1099511627776) :
    Calls Try.prog 29 #[.slice pa na ca, .slice pb nb cb] w (Ret fun r w' => r = .bool (decide (ts = us)) ∧ Ext w w') := by
  subst hn hm
  refine VC.garthref01_Same.ok ?_
  unfold VC.garthref01_Same
  by_cases hlen : ts.length = us.length
  case neg =>
    refine ifB_true (by simp; omega) ⟨?_, Mod.refl _ _⟩
    rw [decide_eq_false (fun e => hlen (by rw [e]))]
  refine ifB_false (by simp; omega) ?_
  refine ⟨fun n i w1 => ∃ j : Nat, i = j ∧ n + j = ts.length ∧ Ext w w1 ∧ ts.take j = us.take j, ⟨ts.length, 0, rfl, rfl, Mod.refl _ _, by simp⟩, ?_⟩
  rintro n jv _ w1 ⟨j, rfl, hn, hE, hj⟩
  refine ifD (fun hlt => ?_) (fun hlt => ?_)
  · rintro w2 rfl
    have hE2 := hE.trans (Ext.drew w1)
    obtain ⟨t, ht⟩ : ∃ t, ts[j]? = some t := ⟨_, List.getElem?_eq_getElem (by omega)⟩
    obtain ⟨u, hu⟩ : ∃ u, us[j]? = some u := ⟨_, List.getElem?_eq_getElem (by omega)⟩
    obtain ⟨a, rfl, hca⟩ := (ha.keep hE2 (fun _ _ x => x)).cells ht
    obtain ⟨b, rfl, hcb⟩ := (hb.keep hE2 (fun _ _ x => x)).cells hu
    have htk : ts.take (j + 1) = ts.take j ++ [t] := by rw [List.take_add_one, ht]; rfl
    have huk : us.take (j + 1) = us.take j ++ [u] := by rw [List.take_add_one, hu]; rfl
    refine ⟨by omega, by omega, by trivial, _, _, _, hca, by omega, by omega, by trivial, _, _, _, hcb, _, _, run_span_neq _ _ _ _ _ _ _, by trivial, ?_⟩
    refine ifB_intro (fun hq => ⟨?_, hE2⟩) (fun hq => ⟨n - 1, by omega, j + 1, ?_, by omega, hE2, ?_⟩)
    · rw [decide_eq_false]
      intro e
      subst e
      rw [ht] at hu
      cases hu
      simp at hq
    · rw [wrap_i64 (by omega) (by omega)]; omega
    · rw [htk, huk, hj]
      have : t = u := by
        obtain ⟨t1, t2, t3⟩ := t
        obtain ⟨u1, u2, u3⟩ := u
        simp at hq
        simp [hq]
      rw [this]
  · have hj2 : j = ts.length := by omega
    subst hj2
    refine ⟨?_, hE⟩
    rw [decide_eq_true]
    rw [List.take_of_length_le (Nat.le_refl _), List.take_of_length_le (by omega)] at hj
    exact hj

end Go.Proofs.Ytnjjgpjpodmgpaa
