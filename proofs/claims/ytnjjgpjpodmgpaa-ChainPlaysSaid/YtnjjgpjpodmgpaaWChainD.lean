/- Statements of layer 11: ChainBack, ChainTakes. Conditions: the arguments' cells are there. -/
import Derived.Test.YtnjjgpjpodmgpaaWChainC
set_option linter.unusedVariables false
set_option linter.unusedSimpArgs false
namespace Go.Proofs.Ytnjjgpjpodmgpaa
open Go.RowKit

section
variable {n base unit per : Nat} {S : List Nat}

theorem headI_in (g : OkS n base unit per S) : -1 ≤ headI S ∧ headI S < per := by
  have := lnk_le g
  unfold headI
  omega

theorem OkS.cfg (g : OkS n base unit per S) : CfgC (img n base unit S).length base unit per (headI S) := by
  rw [img_len g]
  exact ⟨g.u8, g.u512, g.p1, g.p64, g.fit, g.n21, (headI_in g).1, (headI_in g).2⟩

theorem push_in {q : Nat} (hq : InC per (q : Int)) : pushB (img n base unit S) base unit per (headI S) (q : Int) = img n base unit (q :: S) ∧ pushH per (headI S) (q : Int) = headI (q :: S) ∧ pushE per (q : Int) = 0 := by
  have e : (headI S + 1).toNat = lnk S := by unfold headI; omega
  refine ⟨?_, ?_, ?_⟩
  · rw [pushB, if_pos hq, Int.toNat_natCast, e]; rfl
  · rw [pushH, if_pos hq]; simp [headI, lnk]
  · rw [pushE, if_pos hq]

theorem push_out {q : Int} (hq : ¬ InC per q) : pushB (img n base unit S) base unit per (headI S) q = img n base unit S ∧ pushH per (headI S) q = headI S ∧ pushE per q = 12 := ⟨if_neg hq, if_neg hq, if_neg hq⟩

theorem pop_at {k : Nat} (g : OkS n base unit per (k :: S)) : popI (img n base unit (k :: S)) base unit per (headI (k :: S)) = (k : Int) ∧ popE (img n base unit (k :: S)) base unit per (headI (k :: S)) = 0 ∧
    popB (img n base unit (k :: S)) base unit per (headI (k :: S)) = img n base unit S ∧ popH (img n base unit (k :: S)) base unit per (headI (k :: S)) = headI S := by
  have e : headI (k :: S) = (k : Int) := by simp [headI, lnk]
  have el := img_link g [] k S rfl
  have hl := lnk_le g.tail
  have h0 : ¬ ((k : Int) < 0) := by omega
  rw [e]
  refine ⟨?_, ?_, ?_, ?_⟩
  · rw [popI, if_neg h0, Int.toNat_natCast, el, if_neg (by omega)]
  · rw [popE, if_neg h0, Int.toNat_natCast, el, if_neg (by omega)]
  · rw [popB, if_neg h0, Int.toNat_natCast, el, if_neg (by omega), img_pop g]
  · rw [popH, if_neg h0, Int.toNat_natCast, el, if_neg (by omega)]; rfl

theorem popT_len (bs : List UInt8) (ts : List Tch) (base unit per : Nat) (head : Int) : (popT bs ts base unit per head).length ≤ ts.length + 2 := by
  unfold popT
  split
  · omega
  split
  · simp
  · simp

theorem pushT_len (ts : List Tch) (base unit per : Nat) (k : Int) : (pushT ts base unit per k).length ≤ ts.length + 1 := by
  unfold pushT
  split
  · simp
  · omega

theorem all_img (g : OkS n base unit per S) : allR per (lkA (img n base unit S) base unit) per (headI S) [] = (some (asI S), S) := by
  have := allR_list (per := per) (lkA (img n base unit S) base unit) S per [] (len_nodup per S g.nd g.lt) g.lt (img_link g)
  simpa using this

variable {w0 w : World} {K : Nat → Prop} {TA TC : TypeId} {p cb : Nat} {ts : List Tch}

/-- All: what was pushed. -/
theorem CW.allS (h : CW w0 w K TA TC p cb (img n base unit S) ts base unit per (headI S)) (g : OkS n base unit per S) (hl : ts.length < 549755813000) {Q : Value → World → Prop}
    (q : ∀ pp c w' F', CWf w0 w' (fun j => K j ∨ (Value.slice pp (asI S).length c).ownBlock = some j) TA TC p cb F' (img n base unit S) (ts ++ readT base unit S) base unit per (headI S) → Mod (fun j => ¬ K j) w w' → ORow w' 3 1 intF (.slice pp (asI S).length c) (asI S) →
      (∀ j, (Value.slice pp (asI S).length c).ownBlock = some j → w.heap.size ≤ j) → Q (.tuple #[.slice pp (asI S).length c, .int .i64 0]) w') :
    CallS Try.prog 17 #[.pointer (some ⟨cb, 0, none⟩)] w Q := by
  refine h.all hl fun r w' F' h' hm hr => ?_
  rw [all_img g] at h' hr
  obtain ⟨pp, c, rfl, hrow, hown⟩ := hr
  have hcb : cb < w.heap.size := by
    obtain ⟨_, x⟩ := h
    exact lt_of_blk x.ch
  exact q pp c w' F' (h'.rowK h.ext hcb hrow hown) hm hrow (fun j hj => (hown j hj).1)

end

section
variable {w0 w : World} {K : Nat → Prop} {TC : TypeId} {p cb : Nat} {bs : List UInt8} {ts : List Tch} {base unit per : Nat} {head : Int}

theorem CW.size (h : CW w0 w K 107 TC p cb bs ts base unit per head) {Q : Value → World → Prop} (q : Q (.int .i64 (bs.length : Int)) w) :
    CallS Try.prog 20 #[.pointer (some ⟨p, 0, none⟩)] w Q := by
  obtain ⟨F, h⟩ := h
  refine .of (size_any h.ar) ?_
  rintro r w1 ⟨rfl, rfl⟩
  exact q

theorem CW.read (h : CW w0 w K 107 TC p cb bs ts base unit per head) (hl : ts.length < 549755813000) {Q : Value → World → Prop}
    (q : ∀ w' ts', ts'.length ≤ ts.length + 1 → CW w0 w' K 107 TC p cb bs ts' base unit per head → Mod (fun j => ¬ K j) w w' → Q (.tuple #[.string (strOf bs), .int .i64 0]) w') :
    CallS Try.prog 19 #[.pointer (some ⟨p, 0, none⟩), .int .i64 0, .int .i64 (bs.length : Int)] w Q := by
  obtain ⟨F, h⟩ := h
  have ok : OkA bs.length 0 (bs.length : Int) := ⟨by omega, by omega, by omega⟩
  refine .of (read_any h.ar 0 (bs.length : Int) (by omega)) ?_
  rintro r w1 ⟨rfl, hp⟩
  rw [if_pos ok] at hp
  obtain ⟨a, b⟩ := h.apost hp rfl
  rw [if_pos ok, if_pos ok]
  have e : seg bs (0 : Int).toNat (bs.length : Int).toNat = bs := by rw [Int.toNat_natCast]; exact seg_all bs (Nat.le_refl _)
  rw [e]
  exact q w1 _ (noteA_len _ _ _ _) a b

end

theorem getElem?_rev {l : List Nat} {k : Nat} {S : List Nat} : (asI (k :: S)).reverse[S.length]? = some (k : Int) := by
  simp [asI]

set_option maxHeartbeats 1000000 in
theorem core_ChainBack (w : World) (x0 x1 : Int) {pa : Option Addr} {cap : Nat} {l : List Int} (hrow : RowAt w pa 1 intF l) (hwf : ∀ x ∈ l, I64 x) (hl63 : l.length ≤ maxLen) :
    Calls Try.prog 3 #[.int .i64 x0, .int .i64 x1, .slice pa l.length cap] w (Ret (Yes w)) := by
  refine VC.garthlaw11_ChainBack.ok ?_
  unfold VC.garthlaw11_ChainBack
  obtain ⟨unit, hu, hu0, hu1⟩ := unit_of x0
  obtain ⟨per, hp, hp0, hp1⟩ := per_of x1
  obtain ⟨hm, hm1⟩ := wmul hu1 hp1
  simp only [hu, hp, hm]
  obtain ⟨n, hn⟩ : ∃ n, n = unit * per + 16 := ⟨_, rfl⟩
  have e64 : IntKind.i64.wrap (((unit * per : Nat) : Int) + 16) = (n : Int) := by rw [wrap_i64 (by omega) (by omega)]; omega
  simp only [e64]
  have ok0 : OkS n 16 unit per [] := ⟨hu0, hu1, hp0, hp1, by omega, by omega, List.nodup_nil, fun k hk => by simp at hk⟩
  refine ⟨by decide, by decide, start_any (n := n) (base := 16) ⟨hu0, hu1, hp0, hp1, by omega, by omega, by omega, by omega⟩ fun p cb w1 h1 => ?_⟩
  refine ⟨fun b w2 => CW w w2 (fun _ => False) 107 110 p cb (img n 16 unit []) [] 16 unit per (headI []) ∧ (b = false → l.length ≤ 200), .of (lawake_any w1) ?_, ?_⟩
  · rintro r w2 ⟨rfl, hE⟩
    refine ⟨_, rfl, ifB_false rfl (ifB_false rfl ⟨h1.keep hE.mod, fun q => ?_⟩)⟩
    have := of_decide_eq_false q
    omega
  rintro jv b w2 ⟨h2, hl⟩
  refine ifB_intro (fun _ => .of (lawake_any w2) ?_) (fun hb => ?_)
  · rintro r w3 ⟨rfl, hE⟩
    exact ⟨_, rfl, ifB_true rfl ⟨rfl, h2.ext.trans hE⟩⟩
  have hl := hl hb
  -- seen
  refine ⟨some w2.heap.size, w2.alloc (.map #[] 0), run_makeMap _ w2, ?_⟩
  have hE3 := Ext.alloc w2 (.map #[] 0)
  obtain ⟨B, hB⟩ : ∃ B, B = w2.heap.size := ⟨_, rfl⟩
  have hmap3 : IMap (w2.alloc (.map #[] 0)) Try.prog 3 .i64 B (setM (l.take 0)) 0 := by
    rw [hB]
    exact IMap.made w2 Try.prog 3 .i64
  rw [← hB]
  have h3 : CW w (w2.alloc (.map #[] 0)) (fun x => x = B ∨ (Value.slice none 0 0).ownBlock = some x) 107 110 p cb (img n 16 unit []) [] 16 unit per (headI []) := by
    obtain ⟨F, h2⟩ := h2
    refine ⟨F, h2.setK hE3.mod fun x hx => ?_⟩
    rcases hx with rfl | hx
    · have a := hmap3.lt
      have b := h2.fresh (j := x) (by omega)
      have c := h2.ext.size
      exact ⟨a, by omega, b.1, b.2⟩
    · simp [Value.ownBlock] at hx
  generalize w2.alloc (.map #[] 0) = w3 at hE3 hmap3 h3
  refine ⟨fun m pp nn cc i w4 => ∃ (j sz : Nat) (S : List Nat) (ts : List Tch), i = (j : Int) ∧ m + j = l.length ∧ sz ≤ j ∧ nn = (asI S).reverse.length ∧ S.length ≤ j ∧ OkS n 16 unit per S ∧ (∀ k ∈ S, (k : Int) ∈ l.take j) ∧ ts.length ≤ j ∧
      IMap w4 Try.prog 3 .i64 B (setM (l.take j)) sz ∧ ORow w4 3 1 intF (.slice pp nn cc) (asI S).reverse ∧ (∀ x, (Value.slice pp nn cc).ownBlock = some x → x ≠ B) ∧
      CW w w4 (fun x => x = B ∨ (Value.slice pp nn cc).ownBlock = some x) 107 110 p cb (img n 16 unit S) ts 16 unit per (headI S),
    ⟨l.length, 0, 0, [], [], rfl, rfl, Nat.le_refl _, rfl, Nat.le_refl _, ok0, fun k hk => by simp at hk, Nat.le_refl _, hmap3, ORow.nil _ _, fun x hx => by simp [Value.ownBlock] at hx, h3⟩, ?_⟩
  clear h1 h2 h3 hmap3 hE3 hB
  rintro m jv pp nn cc i w4 ⟨j, sz, S, ts, rfl, hmj, hsz, rfl, hSj, ok, hmem, htl, hmap, hput, hpB, h4⟩
  refine ifD (fun hj => ⟨by omega, hj, ?_⟩) (fun hj => ?_)
  · obtain ⟨c, hc⟩ : ∃ c, l[j]? = some c := ⟨_, List.getElem?_eq_getElem (by omega)⟩
    have hcw := hwf c (List.mem_of_getElem? hc)
    rw [Int.toNat_natCast]
    have ej : IntKind.i64.wrap ((j : Int) + 1) = ((j + 1 : Nat) : Int) := by rw [wrap_i64 (by omega) (by omega)]; rfl
    refine (hrow.ext h4.ext).int hc ?_
    refine ⟨fun b w5 => Mod (fun x => ¬ (x = B ∨ (Value.slice pp (asI S).reverse.length cc).ownBlock = some x)) w4 w5 ∧ ∃ S' ts', ts'.length ≤ j + 1 ∧ (b = true → ∃ q : Nat, c = (q : Int) ∧ c ∉ l.take j ∧ q < per ∧ S' = q :: S) ∧ (b = false → S' = S) ∧
      CW w w5 (fun x => x = B ∨ (Value.slice pp (asI S).reverse.length cc).ownBlock = some x) 107 110 p cb (img n 16 unit S') ts' 16 unit per (headI S'), ⟨_, w4, own_look hmap hcw, ?_⟩, ?_⟩
    · by_cases hcl : c ∈ l.take j
      · exact ifB_false (by simp [hcl]) ⟨Mod.refl _ _, S, ts, by omega, fun x => absurd x (by decide), fun _ => rfl, h4⟩
      · refine ifB_true (by simp [hcl]) (h4.push (by omega) c fun w5 h5 hm5 => ⟨_, rfl, hm5, ?_⟩)
        have hT := pushT_len ts 16 unit per c
        by_cases hin : InC per c
        · obtain ⟨q, rfl⟩ := Int.eq_ofNat_of_zero_le hin.1
          obtain ⟨e1, e2, e3⟩ := push_in (n := n) (base := 16) (unit := unit) (S := S) hin
          rw [e1, e2] at h5
          rw [e3]
          exact ⟨q :: S, _, by omega, fun _ => ⟨q, rfl, hcl, by have := hin.2; omega, rfl⟩, fun x => absurd x (by decide), h5⟩
        · obtain ⟨e1, e2, e3⟩ := push_out (n := n) (base := 16) (unit := unit) (S := S) hin
          rw [e1, e2] at h5
          rw [e3]
          exact ⟨S, _, by omega, fun x => absurd x (by decide), fun _ => rfl, h5⟩
    · rintro jv b5 w5 ⟨hm5, S', ts', htl', hbt, hbf, h5⟩
      have hmap5 := hmap.keep hm5 (fun x => x (.inl rfl))
      have hput5 := hput.keep hm5 (fun x hx y => y (.inr hx))
      refine ifB_intro (fun hb5 => ?_) (fun hb5 => ?_)
      · obtain ⟨q, rfl, hcl, hq, rfl⟩ := hbt hb5
        have ok' := ok.cons hq (fun hqS => hcl (hmem q hqS))
        refine al_intro fun b w6 hb6 hE6 hs6 hs6' => ?_
        have hput6 := hput5.keep (Ext.mod (F := fun _ => False) hE6) (fun _ _ x => x)
        obtain ⟨p', c', w7, hr, ho, hm7, hne⟩ := ORow.push elemI intF_len intF_one hput6 22 ⟨b, 0, none⟩ 1 (q : Int) (cells_all (vs := [_]) hb6) (by simp only [maxLen, List.length_reverse, List.length_map]; omega) (by simp only [List.length_reverse, List.length_map]; omega)
        have er : (asI S).reverse ++ [(q : Int)] = (asI (q :: S)).reverse := by simp
        have el : (asI S).reverse.length + 1 = (asI (q :: S)).reverse.length := by simp
        rw [er, el] at ho
        rw [el] at hr hne
        have hmap6 := hmap5.ext hE6
        have hmap7 := hmap6.keep hm7 (fun x => hpB B x rfl)
        have h6 := h5.keep hE6.mod
        have hown' : ∀ x, (Value.slice p' (asI (q :: S)).reverse.length c').ownBlock = some x → x ≠ B := fun x hx => by
          rcases hne x hx with y | y
          · exact hpB x y
          · have := hmap6.lt; omega
        have h7 : CW w w7 (fun x => x = B ∨ (Value.slice p' (asI (q :: S)).reverse.length c').ownBlock = some x) 107 110 p cb (img n 16 unit (q :: S)) ts' 16 unit per (headI (q :: S)) := by
          obtain ⟨F, h6⟩ := h6
          refine ⟨F, h6.setK (hm7.mono fun x hx => .inr hx) fun x hx => ?_⟩
          rcases hx with rfl | hx
          · exact ⟨hmap7.lt, (h6.knew x (.inl rfl)).1, fun y => (h6.new x (.inl y)).2 (.inl rfl), fun y => (h6.new x (.inr y)).2 (.inl rfl)⟩
          · refine ⟨ho.lt x hx, ?_⟩
            rcases hne x hx with y | y
            · exact ⟨(h6.knew x (.inr y)).1, fun z => (h6.new x (.inl z)).2 (.inr y), fun z => (h6.new x (.inr z)).2 (.inr y)⟩
            · have a := h6.fresh y
              exact ⟨by have := h6.ext.size; omega, a.1, a.2⟩
        refine ⟨p', _, c', w7, hr, ?_⟩
        obtain ⟨w8, hr8, hmap8, hm8, hs8⟩ := hmap7.store uI uM (by simp only [maxLen]; omega) hcw (.bool true)
        rw [setM_snoc, ← ctake_snoc hc] at hmap8
        refine ⟨w8, hr8, m - 1, by omega, j + 1, _, q :: S, ts', ej, by omega, ?_, rfl, by simp; omega, ok', fun k hk => ?_, htl', hmap8, ho.keep hm8 (fun x hx e => hown' x hx e), hown', h7.keep (hm8.mono fun x hx => .inl hx)⟩
        · split <;> omega
        · rw [ctake_snoc hc]
          rcases List.mem_cons.1 hk with rfl | hk
          · simp
          · exact List.mem_append_left _ (hmem k hk)
      · obtain rfl := hbf hb5
        obtain ⟨w8, hr8, hmap8, hm8, hs8⟩ := hmap5.store uI uM (by simp only [maxLen]; omega) hcw (.bool true)
        rw [setM_snoc, ← ctake_snoc hc] at hmap8
        refine ⟨w8, hr8, m - 1, by omega, j + 1, _, S', ts', ej, by omega, ?_, rfl, by omega, ok, fun k hk => ?_, htl', hmap8, hput5.keep hm8 (fun x hx e => hpB x hx e), hpB, h5.keep (hm8.mono fun x hx => .inl hx)⟩
        · split <;> omega
        · rw [ctake_snoc hc]
          exact List.mem_append_left _ (hmem k hk)
  -- what is there
  refine h4.allS ok (by omega) fun pq cq w5 F5 h5 hm5 hall hanew => ⟨_, _, _, _, rfl, ?_⟩
  have hput5 := hput.keep hm5 (fun x hx y => y (.inr hx))
  refine ⟨fun b w6 => b = false ∧ w6 = w5, ifB_false rfl ⟨by simp, rfl⟩, ?_⟩
  rintro jv b6 w6 ⟨rfl, rfl⟩
  refine ifB_false rfl ?_
  have hSlen : S.length ≤ 64 := Nat.le_trans (len_nodup per S ok.nd ok.lt) hp1
  have elen : IntKind.i64.wrap ((((asI S).reverse.length : Nat) : Int) - 1) = (S.length : Int) - 1 := by
    simp only [List.length_reverse, List.length_map]
    rw [wrap_i64 (by omega) (by omega)]
  rw [elen]
  refine ⟨fun m i w7 => ∃ (A S' : List Nat) (ts' : List Tch), S = A ++ S' ∧ i = (S'.length : Int) - 1 ∧ m = S'.length ∧ ts'.length + 2 * S'.length ≤ 1000 ∧ OkS n 16 unit per S' ∧ ORow w7 3 1 intF (.slice pp (asI S).reverse.length cc) (asI S).reverse ∧ ORow w7 3 1 intF (.slice pq (asI S).length cq) (asI S) ∧
      CW w w7 (fun x => (x = B ∨ (Value.slice pp (asI S).reverse.length cc).ownBlock = some x) ∨ (Value.slice pq (asI S).length cq).ownBlock = some x) 107 110 p cb (img n 16 unit S') ts' 16 unit per (headI S'),
    ⟨_, [], S, _, rfl, rfl, rfl, ?_, ok, hput5, hall, ⟨F5, h5⟩⟩, ?_⟩
  · simp only [List.length_append, readT, List.length_map]; omega
  clear h5 hput5 hall h4 hput hmap hm5 hanew
  rintro m jv i w7 ⟨A, S', ts', hS, rfl, rfl, htl', ok', hput, hall, h7⟩
  have hlenS : S.length = A.length + S'.length := by rw [hS]; simp
  refine ifD (fun hi => ?_) (fun hi => ?_)
  · rintro w8 rfl
    have hE8 := Ext.drew w7
    have hput8 := hput.keep (Ext.mod (F := fun _ => False) hE8) (fun _ _ x => x)
    have hall8 := hall.keep (Ext.mod (F := fun _ => False) hE8) (fun _ _ x => x)
    have h8 := h7.keep hE8.mod
    obtain ⟨k, S'', rfl⟩ : ∃ k S'', S' = k :: S'' := by
      cases S' with
      | nil => simp at hi
      | cons k S'' => exact ⟨k, S'', rfl⟩
    simp only [List.length_cons] at hlenS htl' ⊢
    have ei : ((S''.length + 1 : Nat) : Int) - 1 = (S''.length : Int) := by omega
    have ed : IntKind.i64.wrap ((S.length : Int) - 1 - (((S''.length + 1 : Nat) : Int) - 1)) = (A.length : Int) := by rw [wrap_i64 (by omega) (by omega)]; omega
    have ga : (asI S)[A.length]? = some (k : Int) := by rw [hS]; simp [asI]
    have gp : (asI S).reverse[S''.length]? = some (k : Int) := by rw [hS]; simp [asI]
    have hla : (asI S).length = S.length := by simp
    have hlp : (asI S).reverse.length = S.length := by simp
    rw [ed, ei, Int.toNat_natCast, Int.toNat_natCast]
    obtain ⟨a, ea, hca⟩ := hall8.cells intF_len ga
    obtain ⟨a', ea', hcp⟩ := hput8.cells intF_len gp
    have ca := hca 0 _ rfl
    have cp := hcp 0 _ rfl
    rw [Nat.mul_one, Addr.add_add] at ca cp
    rw [ea, ea']
    refine ⟨by trivial, by omega, by omega, by trivial, _, ca, by omega, by omega, by trivial, _, cp, ifB_false (by simp) ?_⟩
    rw [ea] at h8 hall8
    rw [ea'] at h8 hput8
    refine h8.pop (by omega) fun w9 h9 hm9 => ?_
    obtain ⟨e1, e2, e3, e4⟩ := pop_at ok'
    have hput9 := hput8.keep hm9 (fun x hx y => y (.inl (.inr hx)))
    have hall9 := hall8.keep hm9 (fun x hx y => y (.inr hx))
    obtain ⟨a2, ea2, hcp9⟩ := hput9.cells intF_len gp
    have cp9 := hcp9 0 _ rfl
    rw [Nat.mul_one, Addr.add_add] at cp9
    obtain rfl : a' = a2 := Option.some.inj ea2
    have hT := popT_len (img n 16 unit (k :: S'')) ts' 16 unit per (headI (k :: S''))
    rw [e3, e4] at h9
    rw [e1, e2]
    refine ⟨_, _, rfl, by omega, by omega, _, cp9, ifB_false (by simp) (ifB_false rfl ⟨S''.length, by omega, A ++ [k], S'', popT (img n 16 unit (k :: S'')) ts' 16 unit per (headI (k :: S'')), ?_, ?_, rfl, ?_, ok'.tail, ?_, ?_, ?_⟩)⟩
    · rw [hS]; simp
    · rw [wrap_i64 (by omega) (by omega)]
    · omega
    · exact hput9
    · exact hall9
    · exact h9
  · obtain rfl : S' = [] := by
      cases S' with
      | nil => rfl
      | cons k S'' => simp only [List.length_cons] at hi; omega
    have hil : (img n 16 unit []).length = n := by simp [img]
    simp only [List.length_nil, Nat.mul_zero, Nat.add_zero] at htl'
    refine h7.size ⟨_, rfl, h7.read (by omega) fun w8 t8 ht8 h8 hm8 => ⟨_, _, rfl, h8.pop (by omega) fun w9 h9 hm9 => ?_⟩⟩
    have eh : headI [] = -1 := rfl
    have e1 : popE (img n 16 unit []) 16 unit per (headI []) = 13 := by rw [eh]; rfl
    have e2 : popB (img n 16 unit []) 16 unit per (headI []) = img n 16 unit [] := by rw [eh]; rfl
    have e3 : popH (img n 16 unit []) 16 unit per (headI []) = -1 := by rw [eh]; rfl
    rw [e2, e3] at h9
    rw [e1]
    refine ⟨_, _, rfl, ifB_true rfl (h9.empty ⟨_, rfl, ifB_true rfl (h9.size ⟨_, rfl, ?_⟩)⟩)⟩
    rw [hil]
    refine ⟨by omega, by omega, by omega, by omega, ?_⟩
    rw [Int.toNat_natCast]
    refine made_str n fun w10 hE10 => ⟨?_, h9.ext.trans hE10⟩
    rw [decide_eq_true]
    rfl

theorem walk_ChainBack (w : World) (x0 : Int) (_ : -9223372036854775808 ≤ x0 ∧ x0 ≤ 9223372036854775807) (x1 : Int) (_ : -9223372036854775808 ≤ x1 ∧ x1 ≤ 9223372036854775807) (x : (Sh.row 1 8 (.int .i64)).T) (ok : (Sh.row 1 8 (.int .i64)).Ok w x) :
    Calls Try.prog 3 #[.int .i64 x0, .int .i64 x1, (Sh.row 1 8 (.int .i64)).val x] w (Ret (Yes w)) :=
  core_ChainBack w x0 x1 (pa := x.1.1) (cap := x.1.2) (l := x.2) (fun i y hi => (ok.2.2.2 i y hi).1) (fun y hy => by
    obtain ⟨i, hi⟩ := List.mem_iff_getElem?.1 hy
    exact (ok.2.2.2 i y hi).2) (Nat.le_trans ok.1 ok.2.1)

end Go.Proofs.Ytnjjgpjpodmgpaa
