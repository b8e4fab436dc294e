/- Statements of layer 12 (page): PageZero. Conditions: the arguments' cells are there. -/
import Derived.Test.YtkbgiflmecaffaaPageT
import Derived.Test.YtkbgiflmecaffaaPageU
import Derived.Test.YtkbgiflmecaffaaVcR
set_option linter.unusedVariables false
set_option linter.unusedSimpArgs false
namespace Go.Proofs.Ytkbgiflmecaffaa
open Go.RowKit Go.Maps

section
variable {w0 w w' : World} {K K' : Nat → Prop} {pb ap base kind : Nat} {s : St}

theorem PGs.grow (h : PGs w0 K pb ap base kind s w) (hE1 : Ext w w') {B : Nat → Prop} (hb : ∀ j, B j → w.heap.size ≤ j ∧ j < w'.heap.size) : PGs w0 (fun j => K j ∨ B j) pb ap base kind s w' := by
  obtain ⟨rc, wc, sb, sg, FA, h, hn, hk, hE⟩ := h
  have l := h.lt
  have z := hE.size
  refine ⟨rc, wc, sb, sg, FA, h.keep hE1 (fun _ _ x => x), fun j hj => ⟨(hn j hj).1, fun x => x.elim (hn j hj).2 (fun e => by have := l j hj; have := hb j e; omega)⟩, fun j hj => ?_, hE.trans hE1⟩
  rcases hj with hj | hj
  · exact ⟨(hk j hj).1, Nat.lt_of_lt_of_le (hk j hj).2 hE1.size⟩
  · have := hb j hj; exact ⟨by omega, this.2⟩

theorem PGs.weak (h : PGs w0 K pb ap base kind s w) (hs : ∀ j, K' j → K j) : PGs w0 K' pb ap base kind s w := by
  obtain ⟨rc, wc, sb, sg, FA, h, hn, hk, hE⟩ := h
  exact ⟨rc, wc, sb, sg, FA, h, fun j hj => ⟨(hn j hj).1, fun x => (hn j hj).2 (hs j x)⟩, fun j hj => hk j (hs j hj), hE⟩

end

theorem count_on {hs : List Bool} {k : Nat} (h : hs[k]? = some false) : (hs.set k true).count true = hs.count true + 1 := by
  obtain ⟨hk, e⟩ := List.getElem?_eq_some_iff.1 h
  rw [List.count_set hk, e]
  simp

theorem count_off {hs : List Bool} {k : Nat} (h : hs[k]? = some true) : (hs.set k false).count true = hs.count true - 1 := by
  obtain ⟨hk, e⟩ := List.getElem?_eq_some_iff.1 h
  rw [List.count_set hk, e]
  simp

theorem uSM : Try.prog.underlying 33 = some (.map 3 9) := by kernel_rfl
theorem uII : Try.prog.underlying 3 = some (.int .i64) := by kernel_rfl
theorem zSt (w : World) : (zeroValue 9).run Try.prog w = .ok (.string .empty) w := by kernel_rfl

/-- The page, and the map of what was written. -/
structure Zs (w0 : World) (K : Nat → Prop) (pb ap kind mb : Nat) (s : St) (R W : List Nat) (w : World) : Prop where
  pg : PGs w0 K pb ap 0 kind s w
  mp : IMap w Try.prog 3 .i64 mb (mmap (unitN kind) (perN kind) s) (s.hs.count true)
  I : Inv (unitN kind) (perN kind) 0 R W s
  Z : Zr (unitN kind) (perN kind) s
  len : s.bs.length = 512
  km : K mb

theorem Zs.mod {w0 w w' : World} {K F : Nat → Prop} {pb ap kind mb : Nat} {s : St} {R W : List Nat} (h : Zs w0 K pb ap kind mb s R W w) (hm : Mod F w w') (hF : ∀ j, F j → K j ∧ j ≠ mb) : Zs w0 K pb ap kind mb s R W w' :=
  ⟨h.pg.keep (hm.mono fun j hj => (hF j hj).1), h.mp.keep hm (fun x => (hF _ x).2 rfl), h.I, h.Z, h.len, h.km⟩

theorem Zs.ext {w0 w w' : World} {K : Nat → Prop} {pb ap kind mb : Nat} {s : St} {R W : List Nat} (h : Zs w0 K pb ap kind mb s R W w) (hm : Ext w w') : Zs w0 K pb ap kind mb s R W w' := h.mod hm (fun _ x => x.elim)

/-- The bytes that are written. -/
theorem set_byte {bs : List UInt8} {o : Nat} {x : Int} (h0 : 0 ≤ x) (h1 : x ≤ 255) : setAt (bC bs).toArray o [.int .u8 x] = (bC (bs.set o (UInt8.ofNat x.toNat))).toArray := by
  simp only [setAt]
  apply Array.ext'
  rw [Array.toList_setIfInBounds]
  show (bC bs).set o (.int .u8 x) = bC (bs.set o (UInt8.ofNat x.toNat))
  unfold bC
  rw [List.map_set]
  congr 2
  have : (UInt8.ofNat x.toNat).toNat = x.toNat := by
    rw [UInt8.toNat_ofNat']
    exact Nat.mod_eq_of_lt (by omega)
  rw [this]
  omega

set_option maxRecDepth 20000 in
theorem walk_PageZero (w : World) (x0 : Int) (_ : -9223372036854775808 ≤ x0 ∧ x0 ≤ 9223372036854775807) (x : OpsSh.T) (ok : OpsSh.Ok w x) :
    Calls Try.prog 3 #[.int .i64 x0, OpsSh.val x] w (Ret (Yes w)) := by
  have hrow := ops_row ok
  have hwf : ∀ y ∈ (show List (Int × Int × Unit) from x.2), (Lit.int .i64 y.2.1).wf = true := fun y hy => by
    obtain ⟨i, hi, rfl⟩ := List.getElem_of_mem hy
    exact (ok.2.2.2 i _ (List.getElem?_eq_getElem hi)).2.2.1
  obtain ⟨⟨pa, cap⟩, l⟩ := x
  obtain ⟨kind, hk, hk8⟩ := size_mod x0 8 (by decide) (by decide)
  have hk : IntKind.i64.wrap ((IntKind.u64.wrap x0).tmod 8) = (kind : Int) := hk
  obtain ⟨c1, c2, c3, c4, c5⟩ := class_facts hk8
  refine VC.garthlaw12_PageZero.ok ?_
  unfold VC.garthlaw12_PageZero
  rw [hk]
  refine ⟨by decide, .of (new_any 512 w) ?_⟩
  rintro v w1 (⟨q, _, _⟩ | ⟨_, _, ap, FA, rfl, hA, hE1, hF⟩)
  · exact absurd ⟨by omega, by omega⟩ q
  refine ⟨_, _, rfl, pnew_any (w0 := w) (K := fun _ => False) hA (fun j hj => ⟨hF j hj, fun x => x⟩) (fun j x => x.elim) hE1 0 kind (fun q => absurd ⟨⟨by omega, by omega⟩, by decide, by decide +kernel, by rw [List.length_replicate]; decide⟩ q) ?_⟩
  intro base kind' pb w2 e1 _ e2 _ _ h2 hE2
  have e1 : kind' = kind := by omega
  have e2 : base = 0 := by omega
  subst e1 e2
  refine ⟨_, _, rfl, fun w3 => l.length ≤ 300 ∧ PGs w (fun _ => False) pb ap 0 kind' (newSt kind' (List.replicate 512 0) []) w3, awake_any w2 fun w3 hE3 => ⟨_, rfl, ifB_false rfl (ifB_false rfl ?_)⟩, ?_⟩
  · have h3 := h2.keep hE3.mod
    refine ifD (fun _ => awake_any w3 fun w4 hE4 => ⟨_, rfl, ifB_true rfl ⟨rfl, h3.ext.trans hE4⟩⟩) (fun q => ⟨?_, h3⟩)
    have q : ¬ (l.length : Int) > 300 := q
    omega
  clear h2 hE2 hE1 hA hF
  rintro jv w3 ⟨hmax, h3⟩
  refine runit_any hk8 _ fun w4 hE4 => ⟨_, rfl, some w4.heap.size, w4.alloc (.map #[] 0), run_makeMap _ w4, ?_⟩
  have h4 := h3.keep hE4.mod
  have hE5 := Ext.alloc w4 (.map #[] 0)
  obtain ⟨mb, hmb⟩ : ∃ B, B = w4.heap.size := ⟨_, rfl⟩
  have hm5 : IMap (w4.alloc (.map #[] 0)) Try.prog 3 .i64 mb (fun _ => none) 0 := by
    rw [hmb]
    exact IMap.made w4 Try.prog 3 .i64
  have hs5 : (w4.alloc (.map #[] 0)).heap.size = mb + 1 := by rw [hmb]; simp
  rw [← hmb]
  generalize w4.alloc (.map #[] 0) = w5 at hE5 hm5 hs5
  have h5 : Zs w (· = mb) pb ap kind' mb (newSt kind' (List.replicate 512 0) []) [] [] w5 := by
    refine ⟨(h4.grow hE5 (B := (· = mb)) (fun j hj => by subst hj; omega)).weak (fun j hj => .inr hj), ?_, Inv.init kind' 0 _ _, Zr.init kind' 512 c5 _, List.length_replicate, rfl⟩
    have e1 : mmap (unitN kind') (perN kind') (newSt kind' (List.replicate 512 0) []) = fun _ => none := by
      funext k
      show (if 0 ≤ k ∧ k < (perN kind' : Int) ∧ (List.replicate (perN kind') false)[k.toNat]? = some true then _ else none) = none
      rw [if_neg]
      rintro ⟨_, _, q⟩
      rw [List.getElem?_replicate] at q
      split at q <;> cases q
    have e2 : (newSt kind' (List.replicate 512 0) []).hs.count true = 0 := by
      show (List.replicate (perN kind') false).count true = 0
      rw [List.count_replicate]
      rfl
    rw [e1, e2]
    exact hm5
  refine ⟨fun n i w6 => ∃ (j : Nat) (s : St) (R W : List Nat), i = (j : Int) ∧ n + j = l.length ∧ Zs w (· = mb) pb ap kind' mb s R W w6 ∧ s.ts.length ≤ 40 * j, ⟨l.length, 0, _, [], [], rfl, rfl, h5, Nat.le_refl _⟩, ?_⟩
  clear h5 hs5 hm5 hE5 h4 hE4 h3 hmb
  rintro n jv i w6 ⟨j, s, R, W, rfl, hn, h6, hts⟩
  refine ifD (fun hj => ⟨by omega, by omega, ?_⟩) (fun hj => ⟨rfl, h6.pg.ext⟩)
  have hj : j < l.length := by have hj : (j : Int) < (l.length : Int) := hj; omega
  have ew : IntKind.i64.wrap ((j : Int) + 1) = ((j + 1 : Nat) : Int) := by rw [wrap_i64 (by omega) (by omega)]; omega
  rw [ew]
  obtain ⟨y, hy⟩ : ∃ y, l[j]? = some y := ⟨_, List.getElem?_eq_getElem hj⟩
  have hyw : (Lit.int .i64 (opF y).2).wf = true := hwf y (List.mem_of_getElem? hy)
  rw [Int.toNat_natCast]
  refine (hrow.ext h6.pg.ext).pair hy (al_intro fun b w7 hb7 hE7 hs7 hs7' => ?_)
  refine wr_intro (n := 2) hb7 (by simp) fun w8 hb8 hm8 hs8 => ?_
  have hE8 : Ext w6 w8 := hE7.new hm8 (fun k hk => by subst hk; omega)
  have hc8 : w8.heap[b]? = some (.cells #[.int .i64 (opF y).1, .int .i64 (opF y).2] 35 (0, 0)) := hb8
  have lt6 := h6.mp.lt
  have h8 : Zs w (fun j => j = mb ∨ j = b) pb ap kind' mb s R W w8 := ⟨h6.pg.grow hE8 (B := (· = b)) (fun k hk => by subst hk; omega), (h6.ext hE8).mp, h6.I, h6.Z, h6.len, .inl rfl⟩
  have wk : ∀ {s' : St} {R' W' : List Nat} {w' : World}, Zs w (fun j => j = mb ∨ j = b) pb ap kind' mb s' R' W' w' → Zs w (· = mb) pb ap kind' mb s' R' W' w' := fun h => ⟨h.pg.weak (fun j hj => .inl hj), h.mp, h.I, h.Z, h.len, rfl⟩
  have facts : ∀ {K : Nat → Prop} {s' : St} {R' W' : List Nat} {w' : World}, Zs w K pb ap kind' mb s' R' W' w' → CfgC s'.bs.length 0 (unitN kind') (perN kind') s'.hr ∧ CfgC s'.bs.length 0 (unitN kind') (perN kind') s'.hw := fun h => ⟨h.pg.cfr, h.pg.cfg⟩
  have ku : ∀ k : Nat, k < perN kind' → IntKind.i64.wrap ((k : Int) * (unitN kind' : Int)) = ((k * unitN kind' : Nat) : Int) ∧ k * unitN kind' + unitN kind' ≤ 512 := fun k hkp => by
    have := Nat.mul_le_mul_right (unitN kind') (show k + 1 ≤ perN kind' from hkp)
    rw [Nat.add_mul, Nat.one_mul, Nat.mul_comm (perN kind')] at this
    refine ⟨?_, by omega⟩
    rw [← Int.natCast_mul, wrap_i64 (by omega) (by omega)]
  refine ⟨fun w9 => ∃ (s' : St) (R' W' : List Nat), Zs w (· = mb) pb ap kind' mb s' R' W' w9 ∧ s'.ts.length ≤ 40 * j + 4, ?_, ?_⟩
  · obtain ⟨c0, c1'⟩ : w8.cell? ((Addr.mk b 0 none).add 0) = some (.int .i64 (opF y).1) ∧ w8.cell? ((Addr.mk b 0 none).add 1) = some (.int .i64 (opF y).2) := by
      constructor <;> rw [add_mk] <;> exact cell_blk hc8 rfl
    refine ⟨_, c0, fun _ w9 => w9 = w8, ifB_intro (fun _ => rfl) (fun _ => rfl), ?_⟩
    rintro jv b41 w9 rfl
    obtain ⟨g1, g2⟩ := facts h8
    refine ifB_intro (fun _ => ?_) (fun _ => ?_)
    · -- Alloc
      refine h8.pg.alloc (by omega) fun w10 h10 m10 => ⟨_, _, rfl, ?_⟩
      have mp10 := h8.mp.keep m10 (fun x => x (.inl rfl))
      rcases h8.Z.alo h8.I g1 g2 with ⟨hc, e1, e2⟩ | ⟨k, R', W', e1, e2, hkp, hf, eh, I', far, z0, hff⟩
      · rw [e1]
        rw [e2] at h10
        refine ifB_true rfl (ifB_false rfl ⟨_, _, mp10.len uSM _, rper_any hk8 _ fun w11 hE11 => ⟨_, rfl, ?_⟩⟩)
        rw [hc]
        refine ifB_false (by simp) ⟨n - 1, by omega, j + 1, s, R, W, rfl, by omega, wk (Zs.ext ⟨h10, mp10, h8.I, h8.Z, h8.len, .inl rfl⟩ hE11), by omega⟩
      · rw [e1, e2]
        refine ifB_false rfl ?_
        obtain ⟨ku1, ku2⟩ := ku k hkp
        rw [ku1]
        have hts1 := aloS_ts (unitN kind') (perN kind') 0 s
        have hbl : (aloS (unitN kind') (perN kind') 0 s).bs.length = 512 := (aloS_len g1 g2).trans h8.len
        have okr : OkA (aloS (unitN kind') (perN kind') 0 s).bs.length ((k * unitN kind' : Nat) : Int) (unitN kind' : Int) := ⟨by omega, by omega, by rw [hbl]; omega⟩
        refine h10.arenaC (P := fun v => v = .tuple #[.string (strOf (List.replicate (unitN kind') 0)), .int .i64 0]) (bs' := (aloS (unitN kind') (perN kind') 0 s).bs) (ts' := noteA (aloS (unitN kind') (perN kind') 0 s).ts ((k * unitN kind' : Nat) : Int) (unitN kind' : Int) false) rfl (fun FA a => by
          have := read_any a ((k * unitN kind' : Nat) : Int) (unitN kind' : Int) (by omega)
          rw [if_pos okr, if_pos okr, if_pos okr, Int.toNat_natCast, Int.toNat_natCast, z0] at this
          exact this) ?_
        rintro v w11 rfl h11 m11
        have mp11 := mp10.keep m11 (fun x => x (.inl rfl))
        have hkw : (Lit.int .i64 (k : Int)).wf = true := by
          simp [Lit.wf, IntKind.min, IntKind.max, IntKind.signed, IntKind.bits]
          omega
        have mk : mmap (unitN kind') (perN kind') s (k : Int) = none := by rw [mmap_at hkp, hf, if_neg (by simp)]
        have lk := mp11.look_ok uII uSM (zSt w11) hkw
        rw [mk] at lk
        refine ⟨_, _, rfl, _, _, _, lk, ifB_false rfl ⟨by omega, by omega, by omega, by omega, ?_⟩⟩
        rw [Int.toNat_natCast]
        refine made_str (unitN kind') fun w12 hE12 => ifB_false (by simp [strOf]) ⟨by omega, by omega, by omega, by omega, al_intro fun g w13 hg hE13 hs13 _ => ?_⟩
        rw [madeCells_u8] at hg
        have hE123 := hE12.trans hE13
        have z12 := hE12.size
        have lt11 := mp11.lt
        refine ⟨fun n' i' w14 => ∃ (q : Nat) (bs : List UInt8), i' = (q : Int) ∧ n' + q = unitN kind' ∧ bs.length = unitN kind' ∧ w14.heap[g]? = some (.cells (bC bs).toArray 5 (0, 0)) ∧ Ext w11 w14, ⟨unitN kind', 0, _, rfl, rfl, List.length_replicate, hg, hE123⟩, ?_⟩
        rintro n' jv i' w14 ⟨q, bs, rfl, hn', hbs, hg14, hE14⟩
        refine ifD (fun hq => ⟨by omega, by omega, ?_⟩) (fun hq => ?_)
        · rw [add_mk]
          refine wr_intro (n := 1) hg14 (by simp [bC, hbs]; omega) fun w15 hg15 hm15 hs15 => ?_
          have ub := wrap_u8_mod (IntKind.i64.wrap (IntKind.i64.wrap ((j : Int) + (q : Int)) + 1))
          rw [set_byte (by rw [ub]; omega) (by rw [ub]; omega)] at hg15
          exact ⟨n' - 1, by omega, q + 1, _, by rw [wrap_i64 (by omega) (by omega)]; omega, by omega, by rw [List.length_set]; exact hbs, hg15, hE14.new hm15 (fun k hk => by subst hk; omega)⟩
        · have mp14 := mp11.ext hE14
          obtain ⟨w15, hr15, mp15, m15, s15⟩ := mp14.store uII uSM (by have : s.hs.count true ≤ s.hs.length := List.count_le_length; have := h8.I.len; simp only [maxLen]; omega) hkw (.string (strOf bs))
          rw [mk, Option.isSome_none, if_neg (by simp)] at mp15
          have lk2 := mp15.look uII uSM (zSt w15) hkw
          have eu : upd (mmap (unitN kind') (perN kind') s) (k : Int) (some (.string (strOf bs))) (k : Int) = some (.string (strOf bs)) := by unfold upd; rw [if_pos rfl]
          rw [eu] at lk2
          refine ⟨bs, hbs, fun q' b' hb' => ⟨_, rfl, by rw [add_mk]; exact cell_blk hg14 (by rw [Nat.zero_add, List.getElem?_toArray, bC_get, hb']; rfl)⟩, w15, hr15, _, _, lk2, ?_⟩
          have h14 := h11.keep hE14.mod
          have h15 := h14.keep (m15.mono fun j hj => .inl hj)
          have hsz : (strOf bs).size = unitN kind' := by rw [← bytesOf_length, bytesOf_strOf]; exact hbs
          have okw : OkA (aloS (unitN kind') (perN kind') 0 s).bs.length ((k * unitN kind' : Nat) : Int) ((strOf bs).size : Int) := ⟨by omega, by omega, by rw [hbl, hsz]; omega⟩
          have hts2 := noteA_len (aloS (unitN kind') (perN kind') 0 s).ts ((k * unitN kind' : Nat) : Int) (unitN kind' : Int) false
          refine h15.arenaC (P := fun v => v = .int .i64 0) (bs' := putAt (aloS (unitN kind') (perN kind') 0 s).bs (0 + k * unitN kind') bs) (ts' := noteA (noteA (aloS (unitN kind') (perN kind') 0 s).ts ((k * unitN kind' : Nat) : Int) (unitN kind' : Int) false) ((k * unitN kind' : Nat) : Int) ((strOf bs).size : Int) true) (putAt_length (by rw [hbs]; show 0 + k * unitN kind' + unitN kind' ≤ (aloS (unitN kind') (perN kind') 0 s).bs.length; omega)) (fun FA a => by
            have := write_any a ((k * unitN kind' : Nat) : Int) (strOf bs) (by show (noteA (aloS (unitN kind') (perN kind') 0 s).ts ((k * unitN kind' : Nat) : Int) (unitN kind' : Int) false).length < _; omega)
            rw [if_pos okw, if_pos okw, if_pos okw, Int.toNat_natCast, bytesOf_strOf] at this
            rw [Nat.zero_add]
            exact this) ?_
          rintro v w16 rfl h16 m16
          have hts3 := noteA_len (noteA (aloS (unitN kind') (perN kind') 0 s).ts ((k * unitN kind' : Nat) : Int) (unitN kind' : Int) false) ((k * unitN kind' : Nat) : Int) ((strOf bs).size : Int) true
          have hon : (aloS (unitN kind') (perN kind') 0 s).hs[k]? = some true := by
            rw [eh, List.getElem?_set, if_pos rfl, if_pos (by have := h8.I.len; omega)]
          have g3 : CfgC (aloS (unitN kind') (perN kind') 0 s).bs.length 0 (unitN kind') (perN kind') (aloS (unitN kind') (perN kind') 0 s).hw := h10.cfg
          have I1 := I'.put g3 hkp hon hbs (noteA (noteA (aloS (unitN kind') (perN kind') 0 s).ts ((k * unitN kind' : Nat) : Int) (unitN kind' : Int) false) ((k * unitN kind' : Nat) : Int) ((strOf bs).size : Int) true)
          have Z0 : Zr (unitN kind') (perN kind') (aloS (unitN kind') (perN kind') 0 s) := h8.Z.step eh h8.I.len hkp far hff (fun x => by cases x) (by
            have := I'.had k hkp
            rw [hon] at this
            exact (of_decide_eq_true (Option.some.inj this).symm).1)
          have Z1 := Z0.put I' g3 hkp hon hbs (noteA (noteA (aloS (unitN kind') (perN kind') 0 s).ts ((k * unitN kind' : Nat) : Int) (unitN kind' : Int) false) ((k * unitN kind' : Nat) : Int) ((strOf bs).size : Int) true)
          refine ⟨_, rfl, _, R', W', wk ⟨h16, ?_, I1, Z1, ?_, .inl rfl⟩, ?_⟩
          · have mp16 := mp15.keep m16 (fun x => x (.inl rfl))
            have em := mmap_set (s := s) (s' := { aloS (unitN kind') (perN kind') 0 s with bs := putAt (aloS (unitN kind') (perN kind') 0 s).bs (0 + k * unitN kind') bs, ts := noteA (noteA (aloS (unitN kind') (perN kind') 0 s).ts ((k * unitN kind' : Nat) : Int) (unitN kind' : Int) false) ((k * unitN kind' : Nat) : Int) ((strOf bs).size : Int) true }) (u := unitN kind') (p := perN kind') (n := k) (b := true) hkp h8.I.len eh (far.trans (far_put g3 hkp (by omega)))
            rw [seg_whole g3 hkp hbs] at em
            rw [em]
            show IMap w16 _ _ _ mb _ ((aloS (unitN kind') (perN kind') 0 s).hs.count true)
            rw [eh, count_on hf]
            exact mp16
          · show (putAt (aloS (unitN kind') (perN kind') 0 s).bs (0 + k * unitN kind') bs).length = 512
            rw [putAt_length (by rw [hbs]; omega)]
            exact hbl
          · show (noteA (noteA (aloS (unitN kind') (perN kind') 0 s).ts ((k * unitN kind' : Nat) : Int) (unitN kind' : Int) false) ((k * unitN kind' : Nat) : Int) ((strOf bs).size : Int) true).length ≤ _
            omega
    · -- Free
      have lk := h8.mp.look_ok uII uSM (zSt w9) hyw
      refine ⟨_, c1', ?_⟩
      rcases h8.Z.fre h8.I g2 (opF y).2 with ⟨e1, e2, e3⟩ | ⟨e1, m, e2, hmp, hh, eh, I', far, Z'⟩
      · rw [e3] at lk
        refine ⟨_, _, _, lk, _, c1', h8.pg.free (by omega) _ fun w10 h10 m10 => ⟨_, rfl, ifB_false (by simp [e1]) ?_⟩⟩
        rw [e2] at h10
        have mp10 := h8.mp.keep m10 (fun x => x (.inl rfl))
        have hc10 := m10.keep hc8 (fun x => x (.inr rfl))
        obtain ⟨w11, hr11, mp11, m11, s11⟩ := mp10.drop uII uSM hyw 0
        rw [e3, Option.isSome_none, if_neg (by simp)] at mp11
        refine ⟨_, by rw [add_mk]; exact cell_blk hc10 rfl, _, hr11, s, R, W, wk ⟨h10.keep (m11.mono fun j hj => .inl hj), ?_, h8.I, h8.Z, h8.len, .inl rfl⟩, by omega⟩
        have eu : upd (mmap (unitN kind') (perN kind') s) (opF y).2 none = mmap (unitN kind') (perN kind') s := by
          funext k
          unfold upd
          split
          · rename_i q; rw [q, e3]
          · rfl
        rw [eu] at mp11
        exact mp11
      · have e3 : mmap (unitN kind') (perN kind') s (opF y).2 = some (.string (strOf (seg s.bs (m * unitN kind') (unitN kind')))) := by rw [e2, mmap_at hmp, hh, if_pos rfl]
        rw [e3] at lk
        refine ⟨_, _, _, lk, _, c1', h8.pg.free (by omega) _ fun w10 h10 m10 => ⟨_, rfl, ifB_false (by simp [e1]) ?_⟩⟩
        have mp10 := h8.mp.keep m10 (fun x => x (.inl rfl))
        have hc10 := m10.keep hc8 (fun x => x (.inr rfl))
        obtain ⟨w11, hr11, mp11, m11, s11⟩ := mp10.drop uII uSM hyw 0
        rw [e3, Option.isSome_some, if_pos rfl] at mp11
        have hts1 := freS_ts (unitN kind') (perN kind') 0 s (opF y).2
        refine ⟨_, by rw [add_mk]; exact cell_blk hc10 rfl, _, hr11, _, R, m :: W, wk ⟨h10.keep (m11.mono fun j hj => .inl hj), ?_, I', Z', (freS_len g2 h8.I.len).trans h8.len, .inl rfl⟩, by omega⟩
        rw [mmap_set (b := false) hmp h8.I.len eh far, eh, count_off hh, ← e2]
        exact mp11
  · rintro jv w9 ⟨s1, R1, W1, h9, hts9⟩
    obtain ⟨w10, cnt, hr10, rg10, hE10, hs10⟩ := h9.mp.range uII uSM
    have h10 := h9.pg.grow hE10 (B := fun j => j = w9.heap.size) (fun k hk => by subst hk; omega)
    refine ⟨_, w10, hr10, fun n' w11 => ∃ (s' : St) (L : Int → Bool), PGs w (fun j => j = mb ∨ j = w9.heap.size) pb ap 0 kind' s' w11 ∧ IRg w11 Try.prog 3 .i64 mb w9.heap.size (mmap (unitN kind') (perN kind') s') (s'.hs.count true) L n' ∧ Inv (unitN kind') (perN kind') 0 R1 W1 s' ∧ Zr (unitN kind') (perN kind') s' ∧ s'.bs.length = 512 ∧ s'.ts.length + rem L ≤ 40 * j + 36, ⟨cnt, s1, _, h10, rg10, h9.I, h9.Z, h9.len, by have := rem_le (fun k => (mmap (unitN kind') (perN kind') s1 k).isSome); omega⟩, ?_⟩
    generalize w9.heap.size = r
    rintro n' jv w11 ⟨s2, L, h11, rg11, I2, Z2, hl2, ht2⟩
    rcases rg11.next uII 0 with ⟨_, hr⟩ | ⟨k, v, w12, cnt', hkw, hL, hm, hr, rg12, hlt, m12, s12, he⟩
    · refine ⟨false, undef, undef, w11, hr, fun _ => ?_, fun x => by cases x⟩
      refine h11.used fun w12 h12 m12 => ⟨_, rfl, ?_⟩
      have mp12 := rg11.map.keep m12 (fun x => x (.inl rfl))
      refine ⟨_, _, mp12.len uSM _, ifB_false (by simp) ⟨n - 1, by omega, j + 1, s2, R1, W1, rfl, by omega, ⟨h12.weak (fun j hj => .inl hj), mp12, I2, Z2, hl2, rfl⟩, by omega⟩⟩
    · obtain ⟨m, rfl, hmp, hh, rfl⟩ := mmap_some hm
      refine ⟨true, _, _, w12, hr, fun x => (by cases x), fun _ => ⟨_, _, _, he, ?_⟩⟩
      have h12 := h11.keep (m12.mono fun j hj => .inr hj)
      obtain ⟨ku1, ku2⟩ := ku m hmp
      rw [ku1]
      have okr : OkA s2.bs.length ((m * unitN kind' : Nat) : Int) (unitN kind' : Int) := ⟨by omega, by omega, by rw [hl2]; omega⟩
      have hrl := rem_less (L := L) (n := m) (by omega) hL
      refine h12.arenaC (P := fun v => v = .tuple #[.string (strOf (seg s2.bs (m * unitN kind') (unitN kind'))), .int .i64 0]) (bs' := s2.bs) (ts' := noteA s2.ts ((m * unitN kind' : Nat) : Int) (unitN kind' : Int) false) rfl (fun FA a => by
        have := read_any a ((m * unitN kind' : Nat) : Int) (unitN kind' : Int) (by omega)
        rw [if_pos okr, if_pos okr, if_pos okr, Int.toNat_natCast, Int.toNat_natCast] at this
        exact this) ?_
      rintro v w13 rfl h13 m13
      have hnl := noteA_len s2.ts ((m * unitN kind' : Nat) : Int) (unitN kind' : Int) false
      refine ⟨_, _, rfl, ifB_false (by simp) (h13.has (m : Int) ⟨_, rfl, ifB_false ?_ ⟨cnt', hlt, _, (fun x => L x && !decide (x = (m : Int))), h13, ?_, I2.ts _, Z2.ts _, hl2, ?_⟩⟩)⟩
      · show (!Sf.isTaken s2.hs (m : Int)) = false
        rw [Sf.isTaken_at hh]
        rfl
      · exact rg12.keep m13 (fun x => x (.inl rfl)) (fun x => x (.inr rfl))
      · show (noteA s2.ts ((m * unitN kind' : Nat) : Int) (unitN kind' : Int) false).length + rem _ ≤ _
        omega

end Go.Proofs.Ytkbgiflmecaffaa
