/- Statement of layer 1 about touches: ArenaNotes. Conditions: numbers fit their kinds. -/
import Derived.Test.YtlfmkdndioegmaaArena4
import Derived.Test.YtlfmkdndioegmaaWArenaA
set_option linter.unusedVariables false
set_option linter.unusedSimpArgs false
namespace Go.Proofs.Ytlfmkdndioegmaa
open Go.RowKit

theorem noteA_pos {ts : List Tch} {a k : Int} {b : Bool} (h : 0 < k) : noteA ts a k b = ts ++ [(a, k, b)] := if_pos h
theorem noteA_neg {ts : List Tch} {a k : Int} {b : Bool} (h : ¬ 0 < k) : noteA ts a k b = ts := if_neg h

set_option maxHeartbeats 1000000 in
theorem walk_ArenaNotes (x0 : Int) (_ : IsI64 x0) (x1 : Int) (h1 : IsI64 x1) (x2 : Int) (h2 : IsI64 x2) (x3 : ByteArray) (h3 : x3.size ≤ maxLen) (hs3 : x3.data.toList.length ≤ reachBytes) (w : World) :
    Calls Try.prog 11 #[.int .i64 x0, .int .i64 x1, .int .i64 x2, .string x3] w (Ret (Yes w)) := by
  refine VC.garthlaw01_ArenaNotes.ok ?_
  unfold VC.garthlaw01_ArenaNotes
  obtain ⟨n, hn, hlt⟩ := size_mod x0 2048 (by decide) (by decide)
  have hn : IntKind.i64.wrap ((IntKind.u64.wrap x0).tmod 2048) = (n : Int) := hn
  rw [hn]
  have hrl : (List.replicate n (0 : UInt8)).length = n := by simp
  refine ⟨by decide, new_own (by omega) fun w1 p o1 => ⟨_, _, rfl, ?_⟩⟩
  refine ⟨fun b w2 => Own w w2 73 p (List.replicate n 0) [] , .of (awake_any w1) ?_, ?_⟩
  · rintro v w2 ⟨rfl, hE2⟩
    have o2 := o1.keep hE2
    exact ⟨_, rfl, ifB_false rfl (ifB_false rfl (ifD (fun _ => o2) (fun _ => o2)))⟩
  intro jv b w2 o2
  refine ifB_intro (fun hb => ?_) (fun hb => ?_)
  · refine .of (awake_any w2) ?_
    rintro v w3 ⟨rfl, hE3⟩
    exact ⟨_, rfl, ifB_true rfl ⟨rfl, o2.ext.trans hE3⟩⟩
  have o2' : Beside w w2 73 p (List.replicate n 0) [] [] (.slice none 0 0) := by
    obtain ⟨F, a, e, f⟩ := o2
    exact ⟨F, a, e, f, TRow.nil _, fun k hk => by simp [Value.ownBlock] at hk⟩
  refine o2'.call (fun F h => read_any h x1 x2 (by decide)) fun w3 o3 => ⟨_, _, rfl, ?_⟩
  rw [hrl] at o3 ⊢
  generalize ht1 : (if OkA n x1 x2 then noteA [] x1 x2 false else []) = t1 at o3
  have hl1 : t1.length ≤ 1 := by
    subst ht1
    have := noteA_len [] x1 x2 false
    split
    · exact this
    · simp
  refine ⟨fun q m c w4 => Beside w w4 73 p (List.replicate n 0) t1 t1 (.slice q m c), ?_, ?_⟩
  · by_cases hok : OkA n x1 x2
    · rw [if_pos hok] at ht1 ⊢
      refine ifB_true rfl (ifD (fun hk => ?_) (fun hk => ?_))
      · rw [noteA_pos hk] at ht1
        subst ht1
        exact o3.add (by decide) x1 x2 false fun q m c w' o _ => o
      · rw [noteA_neg hk] at ht1
        subst ht1
        exact o3
    · rw [if_neg hok] at ht1 ⊢
      subst ht1
      exact ifB_false rfl o3
  intro jv q m c w4 o4
  obtain rfl : m = t1.length := by
    obtain ⟨_, _, _, _, r, _⟩ := o4
    obtain ⟨_, _, e⟩ := r.shape
    cases e
    rfl
  generalize ht2 : (if OkA n x1 x2 then noteA t1 x1 x2 true else t1) = t2
  generalize hb2 : (if OkA n x1 x2 then putAt (List.replicate n 0) x1.toNat (List.replicate x2.toNat 0) else List.replicate n 0) = b2
  have hl2 : t2.length ≤ 2 := by
    subst ht2
    have := noteA_len t1 x1 x2 true
    split <;> omega
  have hbl : b2.length = n := by
    subst hb2
    split
    · rw [putAt_length (by rw [List.length_replicate, hrl]; omega), hrl]
    · exact hrl
  refine ⟨fun q m c w5 => Beside w w5 73 p b2 t2 t2 (.slice q m c), ?_, ?_⟩
  · refine o4.call (fun F h => zero_any h x1 x2 (by omega)) fun w5 o5 => ⟨_, rfl, ?_⟩
    rw [hrl] at o5 ⊢
    rw [ht2, hb2] at o5
    by_cases hok : OkA n x1 x2
    · rw [if_pos hok] at ht2 ⊢
      refine ifB_true rfl (ifD (fun hk => ?_) (fun hk => ?_))
      · rw [noteA_pos hk] at ht2
        subst ht2
        exact o5.add (by omega) x1 x2 true fun q m c w' o _ => o
      · rw [noteA_neg hk] at ht2
        subst ht2
        exact o5
    · rw [if_neg hok] at ht2 ⊢
      subst ht2
      exact ifB_false rfl o5
  intro jv q m c w5 o5
  obtain rfl : m = t2.length := by
    obtain ⟨_, _, _, _, r, _⟩ := o5
    obtain ⟨_, _, e⟩ := r.shape
    cases e
    rfl
  generalize ht3 : (if OkA n x1 x3.size then noteA t2 x1 x3.size true else t2) = t3
  generalize hb3 : (if OkA n x1 x3.size then putAt b2 x1.toNat (bytesOf x3) else b2) = b3
  have hl3 : t3.length ≤ 3 := by
    subst ht3
    have := noteA_len t2 x1 x3.size true
    split <;> omega
  refine ⟨fun q m c w6 => Beside w w6 73 p b3 t3 t3 (.slice q m c), ?_, ?_⟩
  · refine o5.call (fun F h => write_any h x1 x3 (by omega)) fun w6 o6 => ⟨_, rfl, ?_⟩
    rw [hbl] at o6 ⊢
    rw [ht3, hb3] at o6
    by_cases hok : OkA n x1 x3.size
    · rw [if_pos hok] at ht3 ⊢
      refine ifB_true rfl ?_
      have hem : x3 = ByteArray.mk #[] ↔ x3.size = 0 := by
        constructor
        · intro e; rw [e]; rfl
        · intro e
          apply bytesOf_ext
          have : (bytesOf x3).length = 0 := by rw [bytesOf_length]; exact e
          rw [List.eq_nil_of_length_eq_zero this]
          rfl
      by_cases hk : x3.size = 0
      · refine ifB_false (by simp [hem.2 hk]) ?_
        rw [noteA_neg (by omega)] at ht3
        subst ht3
        exact o6
      · refine ifB_true (by simp [hem, hk]) ?_
        rw [noteA_pos (by omega)] at ht3
        subst ht3
        exact o6.add (by omega) x1 x3.size true fun q m c w' o _ => o
    · rw [if_neg hok] at ht3 ⊢
      subst ht3
      exact ifB_false rfl o6
  intro jv q m c w6 o6
  obtain ⟨F, a6, e6, f6, r6, g6⟩ := o6
  obtain rfl : m = t3.length := by
    obtain ⟨_, _, e⟩ := r6.shape
    cases e
    rfl
  refine .of (touched_any a6 (by omega)) ?_
  rintro r w7 ⟨hr, hE7, _⟩
  obtain ⟨q', c', rfl⟩ := hr.shape
  have r7 := r6.keep hE7 (fun _ _ x => x)
  refine ⟨_, _, _, rfl, .of (same_any hr r7 rfl rfl (by omega)) ?_⟩
  rintro r w8 ⟨rfl, hE8⟩
  refine ⟨_, rfl, ifB_false (by simp) ?_⟩
  have a8 := a6.keep (hE7.trans hE8) (fun _ _ x => x)
  refine .of (forget_any a8) ?_
  rintro r w9 ⟨rfl, hp9⟩
  refine ⟨rfl, ?_⟩
  obtain ⟨F', a9, e9, f9⟩ := own_of ((e6.trans hE7).trans hE8) f6 hp9
  refine .of (touched_any a9 (by decide)) ?_
  rintro r w10 ⟨hr10, hE10, _⟩
  obtain ⟨q', c', rfl⟩ := hr10.shape
  exact ⟨_, _, _, rfl, rfl, e9.trans hE10⟩

end Go.Proofs.Ytlfmkdndioegmaa
