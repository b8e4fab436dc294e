/- Statements of layer 11: ChainTakes. Conditions: the arguments' cells are there. -/
import Derived.Test.YtnjjgpjpodmgpaaWChainD
set_option linter.unusedVariables false
set_option linter.unusedSimpArgs false
namespace Go.Proofs.Ytnjjgpjpodmgpaa
open Go.RowKit

section
variable {w0 w : World} {K : Nat → Prop} {TA TC : TypeId} {p cb db : Nat} {F : Nat → Prop} {bs : List UInt8} {ts : List Tch} {base unit per : Nat} {head head' : Int}

/-- One takes from the other: who takes is kept apart (K) by who is taken from. -/
theorem CWf.take (h : CWf w0 w K 107 TC p cb F bs ts base unit per head) (d : CH w TC db p base unit per head') (hd : K db) {Q : Value → World → Prop}
    (q : ∀ w', CWf w0 w' K 107 TC p cb F bs ts base unit per (if 0 ≤ head' then head else -1) → CH w' TC db p base unit per (if 0 ≤ head' then head' else head) → Mod (fun j => j = db ∨ j = cb) w w' → Q (.int .i64 (if 0 ≤ head' then 7 else 0)) w') :
    CallS Try.prog 23 #[.pointer (some ⟨db, 0, none⟩), .pointer (some ⟨cb, 0, none⟩)] w Q := by
  have hne : db ≠ cb := fun e => (h.new cb (.inr rfl)).2 (e ▸ hd)
  refine .of (ctake_any d h.ch hne) ?_
  rintro r w1 ⟨rfl, hD, hC, hm⟩
  have hF : ∀ k, F k → ¬ (k = db ∨ k = cb) := fun k hk x => by
    rcases x with rfl | rfl
    · exact (h.new k (.inl hk)).2 hd
    · exact h.nF hk
  refine q w1 ⟨h.ar.keep hm hF, hC, h.cfg.head ?_ ?_, h.nF, h.new, fun j hj => ⟨(h.knew j hj).1, Nat.lt_of_lt_of_le (h.knew j hj).2 hm.size⟩, h.ext.new hm fun j hj => ?_⟩ hD hm
  · have := h.cfg.h0
    split <;> omega
  · have := h.cfg.h1
    have := h.cfg.p1
    split <;> omega
  · rcases hj with rfl | rfl
    · exact (h.knew j hd).1
    · exact (h.new j (.inr rfl)).1

/-- The other one's view. -/
theorem CWf.swap (h : CWf w0 w K TA TC p cb F bs ts base unit per head) (d : CH w TC db p base unit per head') (hd : K db) (h0 : -1 ≤ head') (h1 : head' < per) :
    CWf w0 w (fun j => K j ∧ j ≠ db ∨ j = cb) TA TC p db F bs ts base unit per head' := by
  have hne : db ≠ cb := fun e => (h.new cb (.inr rfl)).2 (e ▸ hd)
  refine ⟨h.ar, d, h.cfg.head h0 h1, fun x => (h.new db (.inl x)).2 hd, fun j hj => ?_, fun j hj => ?_, h.ext⟩
  · rcases hj with hj | rfl
    · refine ⟨(h.new j (.inl hj)).1, fun x => ?_⟩
      rcases x with x | rfl
      · exact (h.new j (.inl hj)).2 x.1
      · exact h.nF hj
    · refine ⟨(h.knew j hd).1, fun x => ?_⟩
      rcases x with x | x
      · exact x.2 rfl
      · exact hne x
  · rcases hj with hj | rfl
    · exact h.knew j hj.1
    · exact ⟨(h.new j (.inr rfl)).1, lt_of_blk h.ch⟩

end

set_option maxHeartbeats 1000000 in
theorem core_ChainTakes (w : World) (x0 x1 : Int) {pa : Option Addr} {cap : Nat} {l : List Int} (hrow : RowAt w pa 1 intF l) (hwf : ∀ x ∈ l, I64 x) (hl63 : l.length ≤ maxLen) :
    Calls Try.prog 5 #[.int .i64 x0, .int .i64 x1, .slice pa l.length cap] w (Ret (Yes w)) := by
  refine VC.garthlaw11_ChainTakes.ok ?_
  unfold VC.garthlaw11_ChainTakes
  obtain ⟨unit, hu, hu0, hu1⟩ := unit_of x0
  obtain ⟨per, hp, hp0, hp1⟩ := per_of x1
  obtain ⟨hm, hm1⟩ := wmul hu1 hp1
  simp only [hu, hp, hm]
  obtain ⟨n, hn⟩ : ∃ n, n = unit * per := ⟨_, rfl⟩
  simp only [← hn]
  have ok0 : OkS n 0 unit per [] := ⟨hu0, hu1, hp0, hp1, by omega, by omega, List.nodup_nil, fun k hk => by simp at hk⟩
  refine ⟨by decide, by decide, start_any (n := n) (base := 0) ⟨hu0, hu1, hp0, hp1, by omega, by omega, by omega, by omega⟩ fun p cb w1 h1 => ?_⟩
  -- the other one
  obtain ⟨F, h1⟩ := h1
  refine .of (cnew_any h1.ar 0 (unit : Int) (per : Int)) ?_
  have hl0 : (List.replicate n (0 : UInt8)).length = n := by simp
  rw [hl0]
  rintro r w2 (⟨hno, _⟩ | ⟨db, b', u', r', e1, e2, e3, rfl, hc2, g2, hE2, hdb⟩)
  · refine absurd ⟨?_, ?_, ?_, ?_, ?_, ?_⟩ hno
    · omega
    · omega
    · omega
    · omega
    · omega
    · rw [← Int.natCast_mul]; omega
  obtain rfl : 0 = b' := by omega
  obtain rfl : unit = u' := by omega
  obtain rfl : per = r' := by omega
  have h2 : CW w w2 (fun x => x = db) 107 110 p cb (img n 0 unit []) [] 0 unit per (headI []) := by
    refine ⟨F, h1.setK hE2.mod fun x hx => ?_⟩
    subst hx
    have b := h1.fresh hdb
    have c := h1.ext.size
    exact ⟨lt_of_blk hc2, by omega, b.1, b.2⟩
  refine ⟨_, _, rfl, fun b w3 => CW w w3 (fun x => x = db) 107 110 p cb (img n 0 unit []) [] 0 unit per (headI []) ∧ CH w3 110 db p 0 unit per (-1) ∧ (b = false → l.length ≤ 200), .of (lawake_any w2) ?_, ?_⟩
  · rintro r w3 ⟨rfl, hE⟩
    refine ⟨_, rfl, ifB_false rfl (ifB_false rfl ⟨h2.keep hE.mod, hE.keep hc2, fun q => ?_⟩)⟩
    have := of_decide_eq_false q
    omega
  rintro jv b w3 ⟨h3, hd3, hl⟩
  refine ifB_intro (fun _ => .of (lawake_any w3) ?_) (fun hb => ?_)
  · rintro r w4 ⟨rfl, hE⟩
    exact ⟨_, rfl, ifB_true rfl ⟨rfl, h3.ext.trans hE⟩⟩
  have hl := hl hb
  -- seen
  refine ⟨some w3.heap.size, w3.alloc (.map #[] 0), run_makeMap _ w3, ?_⟩
  have hE4 := Ext.alloc w3 (.map #[] 0)
  obtain ⟨B, hB⟩ : ∃ B, B = w3.heap.size := ⟨_, rfl⟩
  have hmap4 : IMap (w3.alloc (.map #[] 0)) Try.prog 3 .i64 B (setM (l.take 0)) 0 := by
    rw [hB]
    exact IMap.made w3 Try.prog 3 .i64
  rw [← hB]
  have hd4 : CH (w3.alloc (.map #[] 0)) 110 db p 0 unit per (-1) := hE4.keep hd3
  have hdB : db ≠ B := by have := lt_of_blk hd3; omega
  have h4 : CW w (w3.alloc (.map #[] 0)) (fun x => x = B ∨ x = db) 107 110 p cb (img n 0 unit []) [] 0 unit per (headI []) := by
    obtain ⟨F, h3⟩ := h3
    refine ⟨F, h3.setK hE4.mod fun x hx => ?_⟩
    rcases hx with rfl | rfl
    · have a := hmap4.lt
      have b := h3.fresh (j := x) (by omega)
      have c := h3.ext.size
      exact ⟨a, by omega, b.1, b.2⟩
    · have a := h3.knew x rfl
      exact ⟨Nat.lt_of_lt_of_le a.2 hE4.size, a.1, fun y => (h3.new x (.inl y)).2 rfl, fun y => (h3.new x (.inr y)).2 rfl⟩
  generalize w3.alloc (.map #[] 0) = w4 at hE4 hmap4 h4 hd4
  refine ⟨fun m i w5 => ∃ (j sz : Nat) (S : List Nat) (ts : List Tch), i = (j : Int) ∧ m + j = l.length ∧ sz ≤ j ∧ OkS n 0 unit per S ∧ (∀ k ∈ S, (k : Int) ∈ l.take j) ∧ ts.length ≤ j ∧
      IMap w5 Try.prog 3 .i64 B (setM (l.take j)) sz ∧ CH w5 110 db p 0 unit per (-1) ∧
      CW w w5 (fun x => x = B ∨ x = db) 107 110 p cb (img n 0 unit S) ts 0 unit per (headI S),
    ⟨l.length, 0, 0, [], [], rfl, rfl, Nat.le_refl _, ok0, fun k hk => by simp at hk, Nat.le_refl _, hmap4, hd4, h4⟩, ?_⟩
  clear h1 h2 h3 h4 hmap4 hE4 hB hd3 hd4 hc2
  rintro m jv i w5 ⟨j, sz, S, ts, rfl, hmj, hsz, ok, hmem, htl, hmap, hd, h5⟩
  refine ifD (fun hj => ⟨by omega, hj, ?_⟩) (fun hj => ?_)
  · obtain ⟨c, hc⟩ : ∃ c, l[j]? = some c := ⟨_, List.getElem?_eq_getElem (by omega)⟩
    have hcw := hwf c (List.mem_of_getElem? hc)
    rw [Int.toNat_natCast]
    have ej : IntKind.i64.wrap ((j : Int) + 1) = ((j + 1 : Nat) : Int) := by rw [wrap_i64 (by omega) (by omega)]; rfl
    refine (hrow.ext h5.ext).int hc ?_
    refine ⟨fun w6 => Mod (fun x => ¬ (x = B ∨ x = db)) w5 w6 ∧ ∃ S' ts', ts'.length ≤ j + 1 ∧ OkS n 0 unit per S' ∧ (∀ k ∈ S', (k : Int) ∈ l.take j ++ [c]) ∧
      CW w w6 (fun x => x = B ∨ x = db) 107 110 p cb (img n 0 unit S') ts' 0 unit per (headI S'), ⟨_, w5, own_look hmap hcw, ?_⟩, ?_⟩
    · by_cases hcl : c ∈ l.take j
      · exact ifB_false (by simp [hcl]) ⟨Mod.refl _ _, S, ts, by omega, ok, fun k hk => List.mem_append_left _ (hmem k hk), h5⟩
      · refine ifB_true (by simp [hcl]) (h5.push (by omega) c fun w6 h6 hm6 => ⟨_, rfl, hm6, ?_⟩)
        have hT := pushT_len ts 0 unit per c
        by_cases hin : InC per c
        · obtain ⟨q, rfl⟩ := Int.eq_ofNat_of_zero_le hin.1
          obtain ⟨e1, e2, e3⟩ := push_in (n := n) (base := 0) (unit := unit) (S := S) hin
          rw [e1, e2] at h6
          have hq : q < per := by have := hin.2; omega
          refine ⟨q :: S, _, by omega, ok.cons hq (fun x => hcl (hmem q x)), fun k hk => ?_, h6⟩
          rcases List.mem_cons.1 hk with rfl | hk
          · simp
          · exact List.mem_append_left _ (hmem k hk)
        · obtain ⟨e1, e2, e3⟩ := push_out (n := n) (base := 0) (unit := unit) (S := S) hin
          rw [e1, e2] at h6
          exact ⟨S, _, by omega, ok, fun k hk => List.mem_append_left _ (hmem k hk), h6⟩
    · rintro jv w6 ⟨hm6, S', ts', htl', ok', hmem', h6⟩
      have hmap6 := hmap.keep hm6 (fun x => x (.inl rfl))
      have hd6 := hd.keep hm6 (fun x => x (.inr rfl))
      obtain ⟨w8, hr8, hmap8, hm8, hs8⟩ := hmap6.store uI uM (by simp only [maxLen]; omega) hcw (.bool true)
      rw [setM_snoc, ← ctake_snoc hc] at hmap8
      refine ⟨w8, hr8, m - 1, by omega, j + 1, _, S', ts', ej, by omega, ?_, ok', fun k hk => ?_, htl', hmap8, hd6.keep hm8 hdB, h6.keep (hm8.mono fun x hx => .inl hx)⟩
      · split <;> omega
      · rw [ctake_snoc hc]
        exact hmem' k hk
  -- was
  have hSlen : S.length ≤ 64 := Nat.le_trans (len_nodup per S ok.nd ok.lt) hp1
  have hcb5 : cb < w5.heap.size := by
    obtain ⟨_, x⟩ := h5
    exact lt_of_blk x.ch
  have hdb5 := lt_of_blk hd
  refine h5.allS ok (by omega) fun pq cq w6 F6 h6 hm6 hwas hnew => ⟨_, _, _, _, rfl, ?_⟩
  have hd6 := hd.keep hm6 (fun x => x (.inr rfl))
  have hneg : ¬ (0 : Int) ≤ -1 := by decide
  refine ⟨fun b w7 => b = false ∧ CWf w w7 (fun j => (j = B ∨ j = db) ∨ (Value.slice pq (asI S).length cq).ownBlock = some j) 107 110 p cb F6 (img n 0 unit S) (ts ++ readT 0 unit S) 0 unit per (-1) ∧
    CH w7 110 db p 0 unit per (headI S) ∧ Mod (fun j => j = db ∨ j = cb) w6 w7, h6.take hd6 (.inl (.inr rfl)) fun w7 h7 hd7 hm7 => ?_, ?_⟩
  · rw [if_neg hneg] at h7 hd7 ⊢
    exact ⟨_, rfl, ifB_false rfl (CW.empty ⟨F6, h7⟩ ⟨_, rfl, rfl, h7, hd7, hm7⟩)⟩
  rintro jv b w7 ⟨rfl, h7, hd7, hm7⟩
  have hwas7 := hwas.keep hm7 (fun j hj x => by
    have := hnew j hj
    omega)
  refine ifB_false rfl ?_
  -- now
  have h7d := h7.swap hd7 (.inl (.inr rfl)) (headI_in ok).1 (headI_in ok).2
  refine CW.allS ⟨F6, h7d⟩ ok (by simp [readT]; omega) fun pr cr w8 F8 h8 hm8 hnow hnew8 => ⟨_, _, _, _, rfl, ?_⟩
  have hc8 := h7.ch.keep hm8 (fun x => x (.inr rfl))
  have hwas8 := hwas7.keep hm8 (fun j hj x => x (.inl ⟨.inr hj, fun e => by have := hnew j hj; omega⟩))
  -- left
  have h8c := h8.swap hc8 (.inl (.inr rfl)) (by omega) (by omega)
  have ea : allR per (lkA (img n 0 unit S) 0 unit) per (-1) [] = (some [], []) := by
    cases per <;> simp [allR]
  refine CW.all ⟨F8, h8c⟩ (by simp [readT]; omega) fun r w9 F9 h9 hm9 hr => ?_
  rw [ea] at h9 hr
  obtain ⟨ps, c9, rfl, hleft, hlown⟩ := hr
  refine ⟨_, _, _, _, rfl, ?_⟩
  have hcw7 := lt_of_blk h7.ch
  have hdw7 := lt_of_blk hd7
  have hcbdb : cb ≠ db := fun e => (h7.new cb (.inr rfl)).2 (.inl (.inr e))
  have hd9 : CH w9 110 db p 0 unit per (headI S) := h8.ch.keep hm9 (fun x => x (.inr rfl))
  have hwas9 := hwas8.keep hm9 (fun j hj x => x (.inl ⟨.inl (.inl ⟨.inr hj, fun e => by have := hnew j hj; omega⟩), fun e => by have := hnew j hj; omega⟩))
  have hnow9 := hnow.keep hm9 (fun j hj x => x (.inl ⟨.inr hj, fun e => by have := hnew8 j hj; omega⟩))
  -- twice
  refine .of (ctake_any h9.ch hd9 hcbdb) ?_
  rintro r w10 ⟨rfl, hc10, hd10, hm10⟩
  rw [if_neg hneg] at hc10 hd10 ⊢
  have hs5 := hm6.size
  have hs7 := hm7.size
  have hwas10 := hwas9.keep hm10 (fun j hj x => by have := hnew j hj; omega)
  have hnow10 := hnow9.keep hm10 (fun j hj x => by have := hnew8 j hj; omega)
  have hE10 : Ext w w10 := h9.ext.new hm10 fun j hj => by
    rcases hj with rfl | rfl
    · exact (h7.new j (.inr rfl)).1
    · exact (h7.knew j (.inl (.inr rfl))).1
  refine ⟨_, rfl, ifB_true rfl (ifB_true rfl (.of (same08_any (ORow.rowAt intF_len hwas10) (ORow.rowAt intF_len hnow10) (by simp only [List.length_map, maxLen]; omega)) ?_))⟩
  rintro r w11 ⟨rfl, hE11⟩
  have hE := hE10.trans hE11
  refine ⟨_, rfl, ifB_true (by simp) (ifB_true rfl (ifB_true rfl (ifB_intro (fun _ => ⟨rfl, hE⟩) (fun _ => .of (empty_any (hE11.keep hd10)) ?_))))⟩
  rintro r w12 ⟨rfl, rfl⟩
  exact ⟨_, rfl, rfl, hE⟩

theorem walk_ChainTakes (w : World) (x0 : Int) (_ : -9223372036854775808 ≤ x0 ∧ x0 ≤ 9223372036854775807) (x1 : Int) (_ : -9223372036854775808 ≤ x1 ∧ x1 ≤ 9223372036854775807) (x : (Sh.row 1 8 (.int .i64)).T) (ok : (Sh.row 1 8 (.int .i64)).Ok w x) :
    Calls Try.prog 5 #[.int .i64 x0, .int .i64 x1, (Sh.row 1 8 (.int .i64)).val x] w (Ret (Yes w)) :=
  core_ChainTakes w x0 x1 (pa := x.1.1) (cap := x.1.2) (l := x.2) (fun i y hi => (ok.2.2.2 i y hi).1) (fun y hy => by
    obtain ⟨i, hi⟩ := List.mem_iff_getElem?.1 hy
    exact (ok.2.2.2 i y hi).2) (Nat.le_trans ok.1 ok.2.1)

end Go.Proofs.Ytnjjgpjpodmgpaa
