/- Statements of layer 10: CapsOnce: the walk. Conditions: the table of TrailingZeros64 is laid; the arguments' cells are there. -/
import Derived.Test.YtkbgiflmecaffaaDoorWCapsD
set_option linter.unusedVariables false
set_option linter.unusedSimpArgs false
namespace Go.Proofs.YtkbgiflmecaffaaDoor
open Go.RowKit

theorem may_zero {s : Sl} (h1 : 1 ≤ s.1) (h7 : s.1 ≤ 7) : may s 0 = true := by
  have : ∀ k : Fin 8, bits .and .i64 (k.val : Int) 0 == 0 := by decide +kernel
  have hk := this ⟨s.1.toNat, by omega⟩
  simp only at hk
  rw [Int.toNat_of_nonneg (by omega)] at hk
  exact hk

theorem may_trans {s : Sl} {r n a b : Int} (h1 : 1 ≤ s.1) (h7 : s.1 ≤ 7) (r1 : 1 ≤ r) (r7 : r ≤ 7) (b0 : 0 ≤ b) (b7 : b ≤ 7) (h : may s r = true) (g : may (r, n, a) b = true) : may s b = true := by
  have : ∀ x y z : Fin 8, (bits .and .i64 (x.val : Int) (y.val : Int) == (y.val : Int)) = true → (bits .and .i64 (y.val : Int) (z.val : Int) == (z.val : Int)) = true → (bits .and .i64 (x.val : Int) (z.val : Int) == (z.val : Int)) = true := by decide +kernel
  have hk := this ⟨s.1.toNat, by omega⟩ ⟨r.toNat, by omega⟩ ⟨b.toNat, by omega⟩
  simp only at hk
  rw [Int.toNat_of_nonneg (by omega), Int.toNat_of_nonneg (by omega), Int.toNat_of_nonneg b0] at hk
  exact hk h g

theorem findR_some {T : Int} {S : Int → Option Sl} {h b : Int} {s : Sl} (hf : findS T S h = some s) (b0 : 0 ≤ b) (b7 : b ≤ 7) :
    findR T S h b = .tuple #[.int .i64 (if may s b = true then s.2.2 else 0), .int .i64 (if may s b = true then 0 else 5)] := by
  rw [findR, hf]
  simp only
  cases hm : may s b with
  | true => rw [if_neg (by simp; omega), if_pos rfl, if_pos rfl]
  | false => rw [if_pos (.inr (.inr rfl)), if_neg (by decide), if_neg (by decide)]

theorem findR_none {T : Int} {S : Int → Option Sl} {h b : Int} (hf : findS T S h = none) : findR T S h b = .tuple #[.int .i64 0, .int .i64 5] := by rw [findR, hf]

theorem CO.okS {w0 w : World} {K : Nat → Prop} {p : Nat} {T nx : Int} {S : Int → Option Sl} {sz : Nat} (h : CO w0 w K p T nx S sz) : ∀ x s, S x = some s → 0 ≤ x ∧ x < 4160 ∧ 1 ≤ s.1 ∧ s.1 ≤ 7 ∧ 1 ≤ s.2.1 ∧ s.2.1 < 17592186044416 := by
  obtain ⟨F, h⟩ := h
  obtain ⟨_, _, _, _, _, c, _⟩ := h.c
  intro x s hs
  have a := c.rng x s hs
  have b := c.ok x s hs
  have d := c.n0
  omega

theorem isAt_of {T : Int} {S : Int → Option Sl} {a x : Int} {s : Sl} (h : findS T S x = some s) : isAt T S a x = (s.2.2 == a) := by unfold isAt; rw [h]; rfl
theorem isAt_none {T : Int} {S : Int → Option Sl} {a x : Int} (h : findS T S x = none) : isAt T S a x = false := by unfold isAt; rw [h]; rfl

set_option maxHeartbeats 4000000 in
theorem core_CapsOnce (w : World) (tab : Tab w) (T : Int) {pa : Option Addr} {cap : Nat} {l : List KOp} (hrow : RowAt w pa 5 kopF l) (hwf : ∀ y ∈ l, Hd.U64 y.2.2.2.2.1) (hl63 : l.length ≤ maxLen) :
    Calls Tryd.prog 3 #[.int .i64 T, .slice pa l.length cap] w (Ret (Yes w)) := by
  refine VC.garthlaw10_CapsOnce.ok ?_
  unfold VC.garthlaw10_CapsOnce
  refine .of (capnew_any T 1 w) ?_
  rintro v w1 (⟨hno, rfl, rfl⟩ | ⟨t0, t7, _, _, p, rfl, h1⟩)
  · refine ⟨_, _, rfl, fun b w2 => b = true ∧ Ext w1 w2, .of (cawake_any tab) ?_, ?_⟩
    · rintro v w2 ⟨rfl, hE⟩
      exact ⟨_, rfl, ifB_false rfl (ifB_true rfl ⟨rfl, hE⟩)⟩
    · rintro jv b w2 ⟨rfl, hE⟩
      refine ifB_true rfl (.of (cawake_any (tab.ext hE)) ?_)
      rintro v w3 ⟨rfl, hE3⟩
      exact ⟨_, rfl, rfl, hE.trans hE3⟩
  refine ⟨_, _, rfl, fun b w2 => (b = false → l.length ≤ 300) ∧ CO w w2 (fun _ => False) p T 1 (fun _ => none) 0, .of (cawake_any (tab.ext h1.ext)) ?_, ?_⟩
  · rintro v w2 ⟨rfl, hE⟩
    refine ⟨_, rfl, ifB_false rfl (ifB_false rfl ⟨fun q => ?_, h1.keep hE.mod⟩)⟩
    have := of_decide_eq_false q
    omega
  rintro jv b w2 ⟨hl, h2⟩
  refine ifB_intro (fun _ => .of (cawake_any (tab.ext h2.ext)) ?_) (fun hb => ?_)
  · rintro v w3 ⟨rfl, hE⟩
    exact ⟨_, rfl, rfl, h2.ext.trans hE⟩
  have hl := hl hb
  -- seen, dead
  refine ⟨some w2.heap.size, w2.alloc (.map #[] 0), run_makeMap _ w2, ?_⟩
  have hE3 := Ext.alloc w2 (.map #[] 0)
  obtain ⟨B1, hB1⟩ : ∃ B, B = w2.heap.size := ⟨_, rfl⟩
  have hm1 : SMap (w2.alloc (.map #[] 0)) B1 [] 0 := by
    have e : setM [] = fun _ => none := by funext x; simp [setM]
    unfold SMap
    rw [hB1, e]
    exact IMap.made w2 Tryd.prog 30 .u64
  have hs3 : (w2.alloc (.map #[] 0)).heap.size = B1 + 1 := by rw [hB1]; simp
  rw [← hB1]
  generalize w2.alloc (.map #[] 0) = w3 at hE3 hm1 hs3
  refine ⟨some w3.heap.size, w3.alloc (.map #[] 0), run_makeMap _ w3, ?_⟩
  have hE4 := Ext.alloc w3 (.map #[] 0)
  obtain ⟨B2, hB2⟩ : ∃ B, B = w3.heap.size := ⟨_, rfl⟩
  have hm2 : SMap (w3.alloc (.map #[] 0)) B2 [] 0 := by
    have e : setM [] = fun _ => none := by funext x; simp [setM]
    unfold SMap
    rw [hB2, e]
    exact IMap.made w3 Tryd.prog 30 .u64
  have hs4 : (w3.alloc (.map #[] 0)).heap.size = B2 + 1 := by rw [hB2]; simp
  rw [← hB2]
  have hm1' := hm1.ext hE4
  generalize w3.alloc (.map #[] 0) = w4 at hE4 hm2 hs4 hm1'
  have hB12 : B1 ≠ B2 := by omega
  have h4 : CO w w4 (fun x => x = B1 ∨ x = B2 ∨ (Value.slice none 0 0).ownBlock = some x) p T 1 (fun _ => none) 0 := by
    obtain ⟨F, h2⟩ := h2
    have hsz := h2.ext.size
    refine ⟨F, h2.setK (hE3.trans hE4).mod fun j hj => ?_⟩
    rcases hj with rfl | rfl | hj
    · exact ⟨by omega, by omega, h2.fresh (by omega)⟩
    · exact ⟨by omega, by omega, h2.fresh (by omega)⟩
    · simp [Value.ownBlock] at hj
  have inv0 : Inv T 1 (fun _ => none) [] [] := ⟨fun x s hx => by simp at hx, fun x hx => by simp at hx, List.nodup_nil, fun x hx => by simp at hx⟩
  refine ⟨fun m pp nn cc i w5 => ∃ (j : Nat) (G D : List Int) (nx : Int) (S : Int → Option Sl) (sz s1 s2 : Nat), i = (j : Int) ∧ m + j = l.length ∧ nn = G.length ∧ G.length ≤ j ∧ s1 ≤ j ∧ s2 ≤ 300 * j ∧ Inv T nx S G D ∧ SMap w5 B1 G s1 ∧ SMap w5 B2 D s2 ∧
      ORow w5 30 1 uF (.slice pp nn cc) G ∧ (∀ x, (Value.slice pp nn cc).ownBlock = some x → x ≠ B1 ∧ x ≠ B2) ∧ CO w w5 (fun x => x = B1 ∨ x = B2 ∨ (Value.slice pp nn cc).ownBlock = some x) p T nx S sz,
    ⟨l.length, 0, [], [], 1, _, 0, 0, 0, rfl, rfl, rfl, Nat.le_refl _, Nat.le_refl _, Nat.le_refl _, inv0, hm1', hm2, ORow.nil _ _, fun x hx => by simp [Value.ownBlock] at hx, h4⟩, ?_⟩
  clear h1 h2 h4 hm1 hm1' hm2 hE3 hE4 hs3 hs4 hB1 hB2 inv0
  rintro m jv pp nn cc i w5 ⟨j, G, D, nx, S, sz, s1, s2, rfl, hmj, rfl, hGj, hs1, hs2, inv, hm1, hm2, hG, hown, h5⟩
  obtain ⟨tr, n0⟩ := h5.rng
  refine ifD (fun hj => ⟨by omega, hj, ?_⟩) (fun hj => ⟨rfl, h5.ext⟩)
  obtain ⟨y, hy⟩ : ∃ y, l[j]? = some y := ⟨_, List.getElem?_eq_getElem (by omega)⟩
  have hyw := hwf y (List.mem_of_getElem? hy)
  rw [Int.toNat_natCast]
  refine (hrow.ext h5.ext).kop hy (al_intro fun b w8 hb8 hE8 hs8 hs8' => ?_)
  refine wr_intro (b := b) (n := 5) hb8 (by simp) fun w9 hb9 hm9 _ => ?_
  have hE59 : Ext w5 w9 := hE8.new hm9 (fun k hk => by omega)
  have hb9 : w9.heap[b]? = some (.cells #[.int .i64 y.1, .int .i64 y.2.1, .int .i64 y.2.2.1, .int .i64 y.2.2.2.1, .int .u64 y.2.2.2.2.1] 32 (0, 0)) := hb9
  have hG9 := hG.keep (Ext.mod (F := fun _ => False) hE59) (fun _ _ x => x)
  refine ⟨_, _, _, _, _, cells_all (vs := [_, _, _, _, _]) hb9, .of (of_any (ORow.rowAt uF_len hG9) (fun x hx => (inv.giv x hx).1) (by omega) _ _ _ _ hyw) ?_⟩
  rintro v w10 ⟨h, rfl, hh64, hE10⟩
  have hE510 := hE59.trans hE10
  have hb10 := hE10.keep hb9
  have hG10 := hG.keep (Ext.mod (F := fun _ => False) hE510) (fun _ _ x => x)
  have h10 := h5.keep hE510.mod
  have hm1 := hm1.ext hE510
  have hm2 := hm2.ext hE510
  clear hG9 hG hE59 hm9 hb8 hE8 hs8 hs8' hb9 h5 hE10
  have ej : IntKind.i64.wrap ((j : Int) + 1) = ((j + 1 : Nat) : Int) := by rw [wrap_i64 (by omega) (by omega)]; rfl
  have hlG : G.length ≤ 300 := by omega
  refine ⟨_, rfl, fun v w11 => Hd.U64 v ∧ ∃ (D' : List Int) (nx' : Int) (S' : Int → Option Sl) (sz' s2' : Nat), s2' ≤ s2 + 300 ∧ Inv T nx' S' (if v = 0 then G else G ++ [v]) D' ∧ (v ≠ 0 → v ∉ G) ∧ SMap w11 B1 G s1 ∧ SMap w11 B2 D' s2' ∧
      ORow w11 30 1 uF (.slice pp G.length cc) G ∧ CO w w11 (fun x => x = B1 ∨ x = B2 ∨ (Value.slice pp G.length cc).ownBlock = some x) p T nx' S' sz', ⟨_, dcell hb10 rfl, ?_⟩, ?_⟩
  · refine ifB_intro (fun _ => ⟨_, dcell hb10 rfl, h10.grant tab _ fun w11 h11 hm11 => ?_⟩) (fun _ => ifB_intro (fun _ => ⟨_, dcell hb10 rfl, h10.restrict tab hh64 _ fun w11 h11 hm11 => ?_⟩) (fun _ => ifB_intro (fun _ => ?_) (fun _ => ?_)))
    · obtain ⟨v, e, hv, he⟩ := grant_eff2 (T := T) (S := S) (nx := nx) (a := y.2.1) tr n0
      rw [hv]
      obtain ⟨i1, i2⟩ := inv.give he
      exact ⟨_, _, rfl, he.eff.u64, D, _, _, _, s2, by omega, i1, i2, hm1.keep hm11 (fun x => x (.inl rfl)), hm2.keep hm11 (fun x => x (.inr (.inl rfl))), hG10.keep hm11 (fun x hx z => z (.inr (.inr hx))), h11⟩
    · obtain ⟨v, e, hv, he, hok⟩ := rest_eff2 (T := T) (S := S) (nx := nx) (h := h) (r := y.2.2.1) tr n0
      rw [hv]
      obtain ⟨i1, i2⟩ := inv.give he
      have fin : ∀ w12 : World, Ext w11 w12 → Hd.U64 v ∧ ∃ (D' : List Int) (nx' : Int) (S' : Int → Option Sl) (sz' s2' : Nat), s2' ≤ s2 + 300 ∧ Inv T nx' S' (if v = 0 then G else G ++ [v]) D' ∧ (v ≠ 0 → v ∉ G) ∧ SMap w12 B1 G s1 ∧ SMap w12 B2 D' s2' ∧
          ORow w12 30 1 uF (.slice pp G.length cc) G ∧ CO w w12 (fun x => x = B1 ∨ x = B2 ∨ (Value.slice pp G.length cc).ownBlock = some x) p T nx' S' sz' := fun w12 hE =>
        ⟨he.eff.u64, D, _, _, _, s2, by omega, i1, i2, (hm1.keep hm11 (fun x => x (.inl rfl))).ext hE, (hm2.keep hm11 (fun x => x (.inr (.inl rfl)))).ext hE, (hG10.keep hm11 (fun x hx z => z (.inr (.inr hx)))).keep (Ext.mod (F := fun _ => False) hE) (fun _ _ x => x), h11.keep hE.mod⟩
      refine ⟨_, _, rfl, ifB_intro (fun hz => ?_) (fun _ => fin w11 (Mod.refl _ _))⟩
      obtain ⟨s, x, hf, hr1, hr7, hmay, hSx, hS', key, rfl⟩ := hok (by simpa using hz)
      obtain ⟨hk, _, hSh, _, _⟩ := findS_in hf
      have hsr := h10.okS _ _ hSh
      have hfh : findS T (restS T S nx h y.2.2.1) h = some s := by
        rw [hS', findS_upd (fun e => by rw [e, hSx] at hSh; cases hSh)]
        exact hf
      have hfv : findS T (restS T S nx h y.2.2.1) (Hd.packV T x y.2.2.1 nx) = some (y.2.2.1, nx, s.2.2) := findS_of (s := (y.2.2.1, nx, s.2.2)) key (by rw [hS']; unfold updS; rw [if_pos rfl])
      refine ⟨fun m2 i w12 => ∃ k : Nat, i = (2 : Int) ^ k ∧ m2 + k = 3 ∧ Ext w11 w12, ⟨3, 0, rfl, rfl, Mod.refl _ _⟩, ?_⟩
      rintro m2 jv i w12 ⟨k, rfl, hmk, hE12⟩
      have hk3 : k ≤ 3 := by omega
      have h12 := h11.keep hE12.mod
      refine ifD (fun hle => ?_) (fun hle => fin w12 hE12)
      have hpow : (2 : Int) ^ k ≤ 7 ∧ 0 ≤ (2 : Int) ^ k ∧ k ≤ 2 ∧ IntKind.i64.wrap ((2 : Int) ^ k * 2) = (2 : Int) ^ (k + 1) := by
        match k, hk3 with
        | 0, _ => decide
        | 1, _ => decide
        | 2, _ => decide
        | 3, _ => exact absurd hle (by decide)
      refine h12.find hh64 _ fun w13 h13 hE13 => ?_
      rw [findR_some hfh hpow.2.1 hpow.1]
      refine ⟨_, _, rfl, h13.find he.eff.u64 _ fun w14 h14 hE14 => ?_⟩
      rw [findR_some hfv hpow.2.1 hpow.1]
      have hgo : ∃ n67, n67 < m2 ∧ ∃ k' : Nat, IntKind.i64.wrap ((2 : Int) ^ k * 2) = (2 : Int) ^ k' ∧ n67 + k' = 3 ∧ Ext w11 w14 := ⟨m2 - 1, by omega, k + 1, hpow.2.2.2, by omega, (hE12.trans hE13).trans hE14⟩
      refine ⟨_, _, rfl, ifB_intro (fun hz => ?_) (fun _ => hgo)⟩
      have hmb : may (y.2.2.1, nx, s.2.2) ((2 : Int) ^ k) = true := by
        cases hm : may (y.2.2.1, nx, s.2.2) ((2 : Int) ^ k) with
        | true => rfl
        | false => rw [hm, if_neg (by decide)] at hz; cases hz
      rw [if_pos (may_trans hsr.2.2.1 hsr.2.2.2.1 hr1 hr7 hpow.2.1 hpow.1 hmay hmb)]
      exact ifB_false rfl hgo
    · -- Revoke
      have hs10 : b < w10.heap.size := lt_of_blk hb10
      refine ⟨fun m2 p2 n2 c2 i w11 => ∃ q : Nat, i = (q : Int) ∧ m2 + q = G.length ∧ n2 = ((G.take q).filter (isAt T S y.2.1)).length ∧ ORow w11 30 1 uF (.slice p2 n2 c2) ((G.take q).filter (isAt T S y.2.1)) ∧ (∀ x, (Value.slice p2 n2 c2).ownBlock = some x → w10.heap.size ≤ x) ∧ Ext w10 w11,
        ⟨G.length, 0, rfl, rfl, by simp, by simpa using ORow.nil _ _, fun x hx => by simp [Value.ownBlock] at hx, Mod.refl _ _⟩, ?_⟩
      rintro m2 jv p2 n2 c2 i w11 ⟨q, rfl, hmq, rfl, hgone, hgnew, hE11⟩
      have h11 := h10.keep hE11.mod
      have hb11 := hE11.keep hb10
      have hG11 := hG10.keep (Ext.mod (F := fun _ => False) hE11) (fun _ _ x => x)
      refine ifD (fun hq => ?_) (fun hq => ?_)
      · obtain ⟨x, hx⟩ : ∃ x, G[q]? = some x := ⟨_, List.getElem?_eq_getElem (by omega)⟩
        obtain ⟨a, ea, hc⟩ := hG11.cells uF_len hx
        have c := hc 0 _ rfl
        rw [Nat.mul_one, Addr.add_add] at c
        have hxu := (inv.giv x (List.mem_of_getElem? hx)).1
        have etk : G.take (q + 1) = G.take q ++ [x] := by rw [List.take_add_one, hx]; rfl
        have eq1 : IntKind.i64.wrap ((q : Int) + 1) = ((q + 1 : Nat) : Int) := by rw [wrap_i64 (by omega) (by omega)]; rfl
        refine ⟨fun p3 n3 c3 w12 => n3 = ((G.take (q + 1)).filter (isAt T S y.2.1)).length ∧ ORow w12 30 1 uF (.slice p3 n3 c3) ((G.take (q + 1)).filter (isAt T S y.2.1)) ∧ (∀ x, (Value.slice p3 n3 c3).ownBlock = some x → w10.heap.size ≤ x) ∧ Ext w10 w12, ⟨by omega, hq, ?_⟩, ?_⟩
        · rw [ea]
          refine ⟨x, by rw [Int.toNat_natCast]; exact c, h11.find hxu 0 fun w12 h12 hE12 => ?_⟩
          have hE1012 := hE11.trans hE12
          have hgone12 := hgone.keep (Ext.mod (F := fun _ => False) hE12) (fun _ _ x => x)
          have skip : isAt T S y.2.1 x = false → ((G.take q).filter (isAt T S y.2.1)).length = ((G.take (q + 1)).filter (isAt T S y.2.1)).length ∧ ORow w12 30 1 uF (.slice p2 ((G.take q).filter (isAt T S y.2.1)).length c2) ((G.take (q + 1)).filter (isAt T S y.2.1)) ∧ (∀ x, (Value.slice p2 ((G.take q).filter (isAt T S y.2.1)).length c2).ownBlock = some x → w10.heap.size ≤ x) ∧ Ext w10 w12 := fun hn => by
            have e : (G.take (q + 1)).filter (isAt T S y.2.1) = (G.take q).filter (isAt T S y.2.1) := by rw [etk, List.filter_append]; simp [hn]
            rw [e]
            exact ⟨rfl, hgone12, hgnew, hE1012⟩
          cases hf : findS T S x with
          | none =>
            rw [findR_none hf]
            exact ⟨_, _, rfl, ifB_false rfl (skip (isAt_none hf))⟩
          | some s =>
            have hsr := h10.okS _ _ (findS_in hf).2.2.1
            rw [findR_some hf (by decide) (by decide), if_pos (may_zero hsr.2.2.1 hsr.2.2.2.1), if_pos (may_zero hsr.2.2.1 hsr.2.2.2.1)]
            refine ⟨_, _, rfl, ifB_true rfl ⟨_, dcell (hE12.keep hb11) rfl, ifB_intro (fun ha => ?_) (fun ha => skip (by rw [isAt_of hf]; exact ha))⟩⟩
            refine al_intro fun b2 w13 hb2 hE13 hs13 hs13' => ?_
            have hg13 := hgone12.keep (Ext.mod (F := fun _ => False) hE13) (fun _ _ x => x)
            have hlf : ((G.take q).filter (isAt T S y.2.1)).length ≤ G.length := Nat.le_trans (List.length_filter_le _ _) (by rw [List.length_take]; exact Nat.min_le_right _ _)
            obtain ⟨p', c', w14, hr, ho, hm14, hne⟩ := ORow.push elemU uF_len uF_one hg13 28 ⟨b2, 0, none⟩ 1 x (cells_all (vs := [_]) hb2) (by simp only [maxLen]; omega) (by omega)
            have hxt : isAt T S y.2.1 x = true := by rw [isAt_of hf]; exact ha
            have e : (G.take (q + 1)).filter (isAt T S y.2.1) = (G.take q).filter (isAt T S y.2.1) ++ [x] := by rw [etk, List.filter_append]; simp [hxt]
            have el : ((G.take q).filter (isAt T S y.2.1)).length + 1 = ((G.take (q + 1)).filter (isAt T S y.2.1)).length := by rw [e]; simp
            have ho : ORow w14 30 1 uF (.slice p' (((G.take q).filter (isAt T S y.2.1)).length + 1) c') ((G.take (q + 1)).filter (isAt T S y.2.1)) := by rw [e]; exact ho
            refine ⟨p', _, c', w14, hr, el, ho, fun j hj => ?_, (hE1012.trans hE13).new hm14 hgnew⟩
            rcases hne j hj with z | z
            · exact hgnew j z
            · have := (hE1012.trans hE13).size; omega
        · rintro jv p3 n3 c3 w12 ⟨rfl, ho, hnew, hE12⟩
          exact ⟨m2 - 1, by omega, q + 1, eq1, by omega, rfl, ho, hnew, hE12⟩
      -- all were looked at
      have etk : G.take q = G := List.take_of_length_le (by omega)
      rw [etk] at hgone hgnew ⊢
      obtain ⟨Z, hZ⟩ : ∃ Z, Z = G.filter (isAt T S y.2.1) := ⟨_, rfl⟩
      rw [← hZ] at hgone hgnew ⊢
      have hZl : Z.length ≤ G.length := by rw [hZ]; exact List.length_filter_le _ _
      have h11' : CO w w11 (fun x => (x = B1 ∨ x = B2 ∨ (Value.slice pp G.length cc).ownBlock = some x) ∨ (Value.slice p2 Z.length c2).ownBlock = some x) p T nx S sz := by
        obtain ⟨F, h10⟩ := h10
        have hsz := h10.ext.size
        refine ⟨F, h10.setK hE11.mod fun x hx => ?_⟩
        rcases hx with hx | hx
        · exact ⟨Nat.lt_of_lt_of_le (h10.knew x hx).2 hE11.size, (h10.knew x hx).1, fun z => (h10.new x z).2 hx⟩
        · have a := hgnew x hx
          exact ⟨hgone.lt x hx, by omega, h10.fresh a⟩
      refine ⟨_, dcell hb11 rfl, h11'.revoke _ fun w12 h12 hm12 => ⟨_, rfl, ?_⟩⟩
      have hcnt : revC S y.2.1 4160 = Z.length := by rw [hZ]; exact inv.count tr (h10.okS) y.2.1
      rw [hcnt] at h12 ⊢
      have hgone12 := hgone.keep hm12 (fun x hx z => z (.inr hx))
      have hG12 := hG11.keep hm12 (fun x hx z => z (.inl (.inr (.inr hx))))
      have hm1' := (hm1.ext hE11).keep hm12 (fun z => z (.inl (.inl rfl)))
      have hm2' := (hm2.ext hE11).keep hm12 (fun z => z (.inl (.inr (.inl rfl))))
      have hB2lt := hm2.lt
      refine ifB_false (by simp) ⟨fun m3 i w13 => ∃ (k s2' : Nat), i = (k : Int) ∧ m3 + k = Z.length ∧ s2' ≤ s2 + k ∧ SMap w13 B2 (D ++ Z.take k) s2' ∧ Mod (fun x => x = B2) w12 w13, ⟨Z.length, 0, s2, rfl, rfl, Nat.le_refl _, by simpa using hm2', Mod.refl _ _⟩, ?_⟩
      rintro m3 jv i w13 ⟨k, s2', rfl, hmk, hs2', hm2k, hM13⟩
      have hgone13 := hgone12.keep hM13 (fun x hx z => by have := hgnew x hx; omega)
      refine ifD (fun hk => ⟨by omega, hk, ?_⟩) (fun hk => ?_)
      · obtain ⟨x, hx⟩ : ∃ x, Z[k]? = some x := ⟨_, List.getElem?_eq_getElem (by omega)⟩
        obtain ⟨a, ea, hc⟩ := hgone13.cells uF_len hx
        have c := hc 0 _ rfl
        rw [Nat.mul_one, Addr.add_add] at c
        have hxG : x ∈ G := by
          have := List.mem_of_getElem? hx
          rw [hZ] at this
          exact (List.mem_filter.1 this).1
        rw [ea]
        obtain ⟨w14, hr, ⟨s3, hs3, hm14⟩, hM14⟩ := set_store hm2k (by simp only [maxLen]; omega) (inv.giv x hxG).1
        refine ⟨x, by rw [Int.toNat_natCast]; exact c, w14, hr, m3 - 1, by omega, k + 1, s3, ?_, by omega, by omega, ?_, Mod.trans hM13 hM14 (fun _ _ z => z)⟩
        · rw [wrap_i64 (by omega) (by omega)]; rfl
        · rw [List.take_add_one, hx, ← List.append_assoc]
          exact hm14
      · rw [List.take_of_length_le (by omega)] at hm2k
        refine ⟨⟨by decide, by decide⟩, D ++ Z, nx, revS S y.2.1 4160, sz - Z.length, s2', by omega, ?_, fun z => absurd rfl z, hm1'.keep hM13 hB12, hm2k, hG12.keep hM13 (fun x hx z => (hown x hx).2 z), ?_⟩
        · rw [if_pos rfl, hZ]
          exact inv.rev y.2.1
        · obtain ⟨F, h12⟩ := h12
          refine ⟨F, h12.setK (hM13.mono fun x hx => .inl (.inr (.inl hx))) fun x hx => ?_⟩
          exact ⟨Nat.lt_of_lt_of_le (h12.knew x (.inl hx)).2 hM13.size, (h12.knew x (.inl hx)).1, fun z => (h12.new x z).2 (.inl hx)⟩
    · exact ⟨⟨by decide, by decide⟩, D, nx, S, sz, s2, by omega, by rw [if_pos rfl]; exact inv, fun z => absurd rfl z, hm1, hm2, hG10, h10⟩
  clear hb10 hG10 h10 hm1 hm2 inv hE510 hh64
  rintro jv v w11 ⟨hv64, D', nx', S', sz', s2', hs2', inv, hvG, hm1, hm2, hG, h11⟩
  refine ⟨fun p3 n3 c3 w12 => ∃ (G' : List Int) (s1' : Nat), n3 = G'.length ∧ G'.length ≤ j + 1 ∧ s1' ≤ j + 1 ∧ Inv T nx' S' G' D' ∧ SMap w12 B1 G' s1' ∧ SMap w12 B2 D' s2' ∧ ORow w12 30 1 uF (.slice p3 n3 c3) G' ∧ (∀ x, (Value.slice p3 n3 c3).ownBlock = some x → x ≠ B1 ∧ x ≠ B2) ∧
      CO w w12 (fun x => x = B1 ∨ x = B2 ∨ (Value.slice p3 n3 c3).ownBlock = some x) p T nx' S' sz', ?_, ?_⟩
  · refine ifB_intro (fun hv => ?_) (fun hv => ?_)
    · have hv0 : v ≠ 0 := by simpa using hv
      rw [if_neg hv0] at inv
      refine ⟨_, w11, own_look hm1 hv64, ifB_false (decide_eq_false (hvG hv0)) ?_⟩
      obtain ⟨w12, hr12, ⟨s3, hs3, hm1'⟩, hM12⟩ := set_store hm1 (by simp only [maxLen]; omega) hv64
      refine ⟨w12, hr12, al_intro fun b2 w13 hb2 hE13 hs13 hs13' => ?_⟩
      have hG13 := (hG.keep hM12 (fun x hx z => (hown x hx).1 z)).keep (Ext.mod (F := fun _ => False) hE13) (fun _ _ x => x)
      obtain ⟨p', c', w14, hr, ho, hm14, hne⟩ := ORow.push elemU uF_len uF_one hG13 28 ⟨b2, 0, none⟩ 1 v (cells_all (vs := [_]) hb2) (by simp only [maxLen]; omega) (by omega)
      have el : G.length + 1 = (G ++ [v]).length := by simp
      rw [el] at hr ho hne
      have h12 := h11.keep (hM12.mono fun x hx => .inl hx)
      have h13 := h12.keep hE13.mod
      have hm1a := hm1'.ext hE13
      have hm2a := (hm2.keep hM12 (fun e => hB12 e.symm)).ext hE13
      have hl1 := hm1a.lt
      have hl2 := hm2a.lt
      have hown' : ∀ x, (Value.slice p' (G ++ [v]).length c').ownBlock = some x → x ≠ B1 ∧ x ≠ B2 := fun x hx => by
        rcases hne x hx with z | z
        · exact hown x z
        · omega
      refine ⟨p', _, c', w14, hr, G ++ [v], s3, rfl, by simp; omega, by omega, inv, hm1a.keep hm14 (fun x => (hown B1 x).1 rfl), hm2a.keep hm14 (fun x => (hown B2 x).2 rfl), ho, hown', ?_⟩
      obtain ⟨F, h13⟩ := h13
      refine ⟨F, h13.setK (hm14.mono fun x hx => .inr (.inr hx)) fun x hx => ?_⟩
      rcases hx with hx | hx | hx
      · exact ⟨Nat.lt_of_lt_of_le (h13.knew x (.inl hx)).2 hm14.size, (h13.knew x (.inl hx)).1, fun z => (h13.new x z).2 (.inl hx)⟩
      · exact ⟨Nat.lt_of_lt_of_le (h13.knew x (.inr (.inl hx))).2 hm14.size, (h13.knew x (.inr (.inl hx))).1, fun z => (h13.new x z).2 (.inr (.inl hx))⟩
      · refine ⟨ho.lt x hx, ?_⟩
        rcases hne x hx with z | z
        · exact ⟨(h13.knew x (.inr (.inr z))).1, fun y => (h13.new x y).2 (.inr (.inr z))⟩
        · exact ⟨Nat.le_trans h13.ext.size z, h13.fresh z⟩
    · have hv0 : v = 0 := by simpa using hv
      rw [if_pos hv0] at inv
      exact ⟨G, s1, rfl, by omega, by omega, inv, hm1, hm2, hG, hown, h11⟩
  clear hm1 hm2 hG h11 inv hvG hown
  rintro jv p3 n3 c3 w12 ⟨G', s1', rfl, hG', hs1', inv, hm1, hm2, hG, hown, h12⟩
  obtain ⟨w13, cnt, hr, hrg, hE13, hs13⟩ := hm2.range uUI uUM
  refine ⟨_, w13, hr, fun m3 w14 => ∃ L : Int → Bool, IRg w14 Tryd.prog 30 .u64 B2 w12.heap.size (setM D') s2' L m3 ∧ (∀ k, L k = true → k ∈ D') ∧ Ext w12 w14, ⟨cnt, _, hrg, fun k hk => ?_, hE13⟩, ?_⟩
  · unfold setM at hk
    by_cases e : k ∈ D'
    · exact e
    · rw [if_neg e] at hk; cases hk
  rintro m3 jv w14 ⟨L, hrg, hL, hE14⟩
  rcases hrg.next uUI 0 with ⟨_, hrun⟩ | ⟨k, v, w15, cnt', hwf, hLk, hmk, hrun, hrg', hlt, hM15, hs15, hent⟩
  · refine ⟨false, .nilIface, .nilIface, w14, hrun, fun _ => ⟨m - 1, by omega, j + 1, G', D', nx', S', sz', s1', s2', ej, by omega, rfl, hG', hs1', by omega, inv, hm1.ext hE14, hrg.map, hG.keep (Ext.mod (F := fun _ => False) hE14) (fun _ _ x => x), hown, h12.keep hE14.mod⟩, fun z => absurd z (by decide)⟩
  · have hE15 : Ext w12 w15 := hE14.new hM15 (fun x hx => by omega)
    have hkD := hL k hLk
    obtain ⟨d1, d2, d3⟩ := inv.dead k hkD
    refine ⟨true, _, _, w15, hrun, fun z => absurd z (by decide), fun _ => ⟨k, v, w15, hent, (h12.keep hE15.mod).find d1 0 fun w16 h16 hE16 => ?_⟩⟩
    rw [findR_none d3]
    refine ⟨_, _, rfl, ifB_false rfl ⟨cnt', hlt, _, hrg'.keep (Ext.mod (F := fun _ => False) hE16) (fun x => x) (fun x => x), fun x hx => hL x ?_, hE15.trans hE16⟩⟩
    simp only [Bool.and_eq_true] at hx
    exact hx.1

theorem walk_CapsOnce (w : World) (tab : Tab w) (T : Int) (_ : -9223372036854775808 ≤ T ∧ T ≤ 9223372036854775807) (x : KOpsSh.T) (ok : KOpsSh.Ok w x) :
    Calls Tryd.prog 3 #[.int .i64 T, KOpsSh.val x] w (Ret (Yes w)) :=
  core_CapsOnce w tab T (pa := x.1.1) (cap := x.1.2) (l := x.2) (kops_row ok) (kops_wf ok) (Nat.le_trans ok.1 ok.2.1)

end Go.Proofs.YtkbgiflmecaffaaDoor
