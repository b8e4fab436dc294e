/- Statements of layer 10: CapsForged. Conditions: the table of TrailingZeros64 is laid; the arguments' cells are there. -/
import Derived.Test.YtkbgiflmecaffaaDoorWCapsB
set_option linter.unusedVariables false
set_option linter.unusedSimpArgs false
namespace Go.Proofs.YtkbgiflmecaffaaDoor
open Go.RowKit

abbrev uF (x : Int) : List Value := [.int .u64 x]
theorem uF_len (x : Int) : (uF x).length = 1 := rfl
theorem uF_one (x : Int) (u : Value) (h : u ∈ uF x) : u.oneCell' = true := by
  simp only [uF, List.mem_singleton] at h
  subst h
  rfl
theorem elemU : ElemOk Tryd.prog 28 30 1 8 := .of (z := .int .u64 0) (by kernel_rfl) (by kernel_rfl) rfl

theorem xor_u64 {a b : Int} (ha : Hd.U64 a) (hb : Hd.U64 b) : Hd.U64 (bits .xor .u64 a b) := by
  obtain ⟨x, rfl⟩ := Int.eq_ofNat_of_zero_le ha.1
  obtain ⟨y, rfl⟩ := Int.eq_ofNat_of_zero_le hb.1
  have h1 := ha.2
  have h2 := hb.2
  rw [bits_xor (by omega) (by omega)]
  have : x ^^^ y < 2 ^ 64 := Nat.xor_lt_two_pow (n := 64) (by omega) (by omega)
  exact ⟨by omega, by omega⟩

theorem of_any {w : World} {pa : Option Addr} {cc : Nat} {G : List Int} (hG : RowAt w pa 1 uF G) (hu : ∀ x ∈ G, Hd.U64 x) (hl : G.length ≤ 1048576) (kd ad rt pk : Int) {tn : Int} (ht : Hd.U64 tn) :
    Calls Tryd.prog 11 #[.slice pa G.length cc, .agg #[.int .i64 kd, .int .i64 ad, .int .i64 rt, .int .i64 pk, .int .u64 tn]] w (Ret fun v w' => ∃ h, v = .int .u64 h ∧ Hd.U64 h ∧ Ext w w') := by
  refine VC.garthlaw10_of.ok ?_
  unfold VC.garthlaw10_of
  refine al_intro fun b w1 hb hE1 _ _ => ifB_intro (fun _ => ⟨_, dcell hb rfl, _, rfl, ht, hE1⟩) (fun hne => ?_)
  have hpos : 0 < G.length := by
    cases G with
    | nil => simp at hne
    | cons x G => simp
  rintro w3 rfl
  have hE := hE1.trans (Ext.drew w1)
  have hb3 := (Ext.drew w1).keep hb
  obtain ⟨k, hk, hkl⟩ := size_mod pk G.length hpos hl
  have el : IntKind.u64.wrap (G.length : Int) = (G.length : Int) := wrap_u64 (by omega) (by omega)
  rw [el]
  refine ⟨pk, dcell hb3 rfl, ?_⟩
  rw [hk]
  obtain ⟨x, hx⟩ : ∃ x, G[k]? = some x := ⟨_, List.getElem?_eq_getElem hkl⟩
  obtain ⟨a, rfl, hc⟩ := (hG.ext hE) k x hx
  have c := hc 0 _ rfl
  rw [Nat.mul_one, Addr.add_add] at c
  simp only [someA]
  refine ⟨by trivial, by trivial, by trivial, by omega, by trivial, by trivial, by omega, by omega, by trivial, x, ?_, _, dcell hb3 rfl, by trivial, _, rfl, xor_u64 (hu x (List.mem_of_getElem? hx)) ht, hE⟩
  rw [Int.toNat_natCast]
  exact c

/-- What a call that may give a handle does. -/
def Eff (T : Int) (S : Int → Option Sl) (v : Int) (S' : Int → Option Sl) : Prop := (v = 0 ∧ S' = S) ∨ (v ≠ 0 ∧ Hd.U64 v ∧ ∃ x s, S' = updS S x (some s) ∧ Hd.KeyOk T x s.1 s.2.1 ∧ v = Hd.packV T x s.1 s.2.1)

theorem Eff.u64 {T : Int} {S S' : Int → Option Sl} {v : Int} (h : Eff T S v S') : Hd.U64 v := by
  rcases h with ⟨rfl, _⟩ | ⟨_, h, _⟩
  · exact ⟨by decide, by decide⟩
  · exact h

theorem put_eff {T : Int} {S : Int → Option Sl} {base n : Nat} {nx r a : Int} (t0 : 0 ≤ T ∧ T ≤ 7) (n0 : 1 ≤ nx) (hr : 1 ≤ r ∧ r ≤ 7) (hb : base + n ≤ 4160) : ∃ v e, putV T S base n nx r = .tuple #[.int .u64 v, .int .i64 e] ∧ Eff T S v (putS S base n nx r a) := by
  cases hk : putK S base n nx with
  | none => exact ⟨0, 10, by rw [putV, hk], .inl ⟨rfl, by rw [putS, hk]⟩⟩
  | some k =>
    have hn : nx < 17592186044416 := by
      unfold putK at hk
      split at hk
      · cases hk
      · omega
    have hkn : k < n := by
      unfold putK at hk
      split at hk
      · cases hk
      · have := (List.getElem?_eq_some_iff.1 (low_at hk).1).1
        rwa [occ_len] at this
    have key : Hd.KeyOk T ((base + k : Nat) : Int) r nx := ⟨t0.1, t0.2, by omega, by omega, hr.1, hr.2, n0, by omega⟩
    refine ⟨_, 0, by rw [putV, hk], .inr ⟨?_, (parts_of key).2.2.2.2, _, (r, nx, a), by rw [putS, hk], key, rfl⟩⟩
    unfold Hd.packV
    omega

theorem grant_eff {T : Int} {S : Int → Option Sl} {nx a : Int} (t0 : 0 ≤ T ∧ T ≤ 7) (n0 : 1 ≤ nx) : ∃ v e, grantV T S nx a = .tuple #[.int .u64 v, .int .i64 e] ∧ Eff T S v (grantS S nx a) := by
  by_cases ha : a < 0
  · exact ⟨0, 12, if_pos ha, .inl ⟨rfl, if_pos ha⟩⟩
  · obtain ⟨g1, g2, _, _⟩ := grant_pos (T := T) (S := S) (nx := nx) (a := a) (sz := 0) (by omega)
    rw [g1, g2]
    exact put_eff t0 n0 (by decide) (by decide)

theorem rest_eff {T : Int} {S : Int → Option Sl} {nx h r : Int} (t0 : 0 ≤ T ∧ T ≤ 7) (n0 : 1 ≤ nx) : ∃ v e, restV T S nx h r = .tuple #[.int .u64 v, .int .i64 e] ∧ Eff T S v (restS T S nx h r) := by
  cases hr : restO T S h r with
  | none => exact ⟨0, _, by rw [restV, hr], .inl ⟨rfl, by rw [restS, hr]⟩⟩
  | some s =>
    obtain ⟨g1, g2, _, _⟩ := rest_some (nx := nx) (sz := 0) hr
    rw [g1, g2]
    have hr' : 1 ≤ r ∧ r ≤ 7 := by
      unfold restO at hr
      split at hr
      · split at hr
        · rename_i q
          exact ⟨q.1, q.2.1⟩
        · cases hr
      · cases hr
    exact put_eff t0 n0 hr' (by decide)

theorem CO.rng {w0 w : World} {K : Nat → Prop} {p : Nat} {T nx : Int} {S : Int → Option Sl} {sz : Nat} (h : CO w0 w K p T nx S sz) : (0 ≤ T ∧ T ≤ 7) ∧ 1 ≤ nx := by
  obtain ⟨F, h⟩ := h
  obtain ⟨_, _, _, _, _, c, _⟩ := h.c
  exact ⟨c.t0, c.n0.1⟩

/-- All that are good were given. -/
def Cov (T : Int) (S : Int → Option Sl) (G : List Int) : Prop := ∀ x s, S x = some s → Hd.packV T x s.1 s.2.1 ∈ G

theorem Cov.step {T : Int} {S S' : Int → Option Sl} {G : List Int} {v : Int} (h : Cov T S G) (e : Eff T S v S') : Cov T S' (if v = 0 then G else G ++ [v]) := by
  rcases e with ⟨rfl, rfl⟩ | ⟨hv, _, x, s, rfl, _, rfl⟩
  · rw [if_pos rfl]; exact h
  · rw [if_neg hv]
    intro y t ht
    unfold updS at ht
    split at ht
    · rename_i e
      cases ht
      rw [e]
      simp
    · exact List.mem_append_left _ (h y t ht)

theorem Cov.rev {T : Int} {S : Int → Option Sl} {G : List Int} (h : Cov T S G) (a : Int) (k : Nat) : Cov T (revS S a k) G := fun x s hx => by
  unfold revS at hx
  split at hx
  · cases hx
  · exact h x s hx

theorem pack_back (h : Int) : Hd.packV (Hd.uT h) (Hd.uS h) (Hd.uR h) (Hd.uN h) = h := by
  unfold Hd.packV Hd.uT Hd.uS Hd.uR Hd.uN
  omega

theorem Cov.mem {T : Int} {S : Int → Option Sl} {G : List Int} (h : Cov T S G) {hh : Int} {s : Sl} (e : findS T S hh = some s) : hh ∈ G := by
  obtain ⟨_, e1, e2, e3, e4⟩ := findS_in e
  have := h _ _ e2
  rwa [e3, e4, ← e1, pack_back] at this

theorem findR_shape (T : Int) (S : Int → Option Sl) (h r : Int) : ∃ a e, findR T S h r = .tuple #[.int .i64 a, .int .i64 e] := by
  unfold findR
  split
  · exact ⟨_, _, rfl⟩
  · split <;> exact ⟨_, _, rfl⟩

/-! ### scripts -/

abbrev KOp := Int × Int × Int × Int × Int × Unit
abbrev kopF (o : KOp) : List Value := [.int .i64 o.1, .int .i64 o.2.1, .int .i64 o.2.2.1, .int .i64 o.2.2.2.1, .int .u64 o.2.2.2.2.1]
abbrev KOpsSh : Sh := .row 5 40 (.pair (.int .i64) (.pair (.int .i64) (.pair (.int .i64) (.pair (.int .i64) (.pair (.int .u64) .unit)))))

theorem kops_row {w : World} {x : KOpsSh.T} (h : KOpsSh.Ok w x) : RowAt w x.1.1 5 kopF x.2 := fun i y hi => (h.2.2.2 i y hi).1

theorem u64_rng {x : Int} (h : (Lit.int .u64 x).wf = true) : Hd.U64 x := by
  simp [Lit.wf, IntKind.min, IntKind.max, IntKind.signed, IntKind.bits] at h
  exact ⟨by omega, by omega⟩

theorem kops_wf {w : World} {x : KOpsSh.T} (h : KOpsSh.Ok w x) : ∀ y ∈ (show List KOp from x.2), Hd.U64 y.2.2.2.2.1 := fun y hy => by
  obtain ⟨i, hi⟩ := List.mem_iff_getElem?.1 hy
  exact u64_rng (h.2.2.2 i y hi).2.2.2.2.2.1

theorem RowAt.kop {w : World} {p : Option Addr} {l : List KOp} (h : RowAt w p 5 kopF l) {i : Nat} {x : KOp} (hi : l[i]? = some x) {K : Int → Int → Int → Int → Int → Prop} (k : K x.1 x.2.1 x.2.2.1 x.2.2.2.1 x.2.2.2.2.1) :
    someA p fun a => ∃ y z u v t : Int, CellsAt w (a.add (i * 5)) [.int .i64 y, .int .i64 z, .int .i64 u, .int .i64 v, .int .u64 t] ∧ K y z u v t := by
  obtain ⟨a, rfl, hc⟩ := h i x hi
  exact ⟨_, _, _, _, _, hc, k⟩

theorem ORow.rowAt {w : World} {e : TypeId} {k : Nat} {X : Type} {f : X → List Value} (hf : ∀ x, (f x).length = k) {p : Option Addr} {n c : Nat} {l : List X} (h : ORow w e k f (.slice p n c) l) : RowAt w p k f l :=
  fun i x hi => h.cells hf hi

set_option maxHeartbeats 1000000 in
theorem core_CapsForged (w : World) (tab : Tab w) (T : Int) {pa : Option Addr} {cap : Nat} {l : List KOp} (hrow : RowAt w pa 5 kopF l) (hwf : ∀ y ∈ l, Hd.U64 y.2.2.2.2.1) (hl63 : l.length ≤ maxLen) (hh : Int) (hu : Hd.U64 hh) :
    Calls Tryd.prog 4 #[.int .i64 T, .slice pa l.length cap, .int .u64 hh] w (Ret (Yes w)) := by
  refine VC.garthlaw10_CapsForged.ok ?_
  unfold VC.garthlaw10_CapsForged
  refine .of (capnew_any T 1 w) ?_
  rintro v w1 (⟨hno, rfl, rfl⟩ | ⟨t0, t7, _, _, p, rfl, h1⟩)
  · refine ⟨_, _, rfl, fun b w2 => b = true ∧ Ext w1 w2, .of (cawake_any tab) ?_, ?_⟩
    · rintro v w2 ⟨rfl, hE⟩
      exact ⟨_, rfl, ifB_false rfl (ifB_true rfl ⟨rfl, hE⟩)⟩
    · rintro jv b w2 ⟨rfl, hE⟩
      refine ifB_true rfl (.of (cawake_any (tab.ext hE)) ?_)
      rintro v w3 ⟨rfl, hE3⟩
      exact ⟨_, rfl, rfl, hE.trans hE3⟩
  refine ⟨_, _, rfl, fun b w2 => (b = false → l.length ≤ 300) ∧ CO w w2 (fun _ => False) p T 1 (fun _ => none) 0, .of (cawake_any (tab.ext h1.ext)) ?_, ?_⟩
  · rintro v w2 ⟨rfl, hE⟩
    refine ⟨_, rfl, ifB_false rfl (ifB_false rfl ⟨fun q => ?_, h1.keep hE.mod⟩)⟩
    have := of_decide_eq_false q
    omega
  rintro jv b w2 ⟨hl, h2⟩
  refine ifB_intro (fun _ => .of (cawake_any (tab.ext h2.ext)) ?_) (fun hb => ?_)
  · rintro v w3 ⟨rfl, hE⟩
    exact ⟨_, rfl, rfl, h2.ext.trans hE⟩
  have hl := hl hb
  have h2' : CO w w2 (fun x => (Value.slice none 0 0).ownBlock = some x) p T 1 (fun _ => none) 0 := by
    obtain ⟨F, h2⟩ := h2
    exact ⟨F, h2.setK (Mod.refl _ _) fun j hj => by simp [Value.ownBlock] at hj⟩
  refine ⟨fun m pp nn cc i w3 => ∃ (j : Nat) (G : List Int) (nx : Int) (S : Int → Option Sl) (sz : Nat), i = (j : Int) ∧ m + j = l.length ∧ nn = G.length ∧ G.length ≤ j ∧ (∀ x ∈ G, Hd.U64 x) ∧ Cov T S G ∧ ORow w3 30 1 uF (.slice pp nn cc) G ∧
      CO w w3 (fun x => (Value.slice pp nn cc).ownBlock = some x) p T nx S sz,
    ⟨l.length, 0, [], 1, _, 0, rfl, rfl, rfl, Nat.le_refl _, fun x hx => by simp at hx, fun x s hx => by simp at hx, ORow.nil _ _, h2'⟩, ?_⟩
  clear h1 h2 h2'
  rintro m jv pp nn cc i w3 ⟨j, G, nx, S, sz, rfl, hmj, rfl, hGj, hGu, hcov, hG, h3⟩
  obtain ⟨tr, n0⟩ := h3.rng
  refine ifD (fun hj => ⟨by omega, hj, ?_⟩) (fun hj => ?_)
  · obtain ⟨y, hy⟩ : ∃ y, l[j]? = some y := ⟨_, List.getElem?_eq_getElem (by omega)⟩
    have hyw := hwf y (List.mem_of_getElem? hy)
    rw [Int.toNat_natCast]
    refine (hrow.ext h3.ext).kop hy (al_intro fun b w8 hb8 hE8 hs8 hs8' => ?_)
    refine wr_intro (b := b) (n := 5) hb8 (by simp) fun w9 hb9 hm9 _ => ?_
    have hE39 : Ext w3 w9 := hE8.new hm9 (fun k hk => by omega)
    have hb9 : w9.heap[b]? = some (.cells #[.int .i64 y.1, .int .i64 y.2.1, .int .i64 y.2.2.1, .int .i64 y.2.2.2.1, .int .u64 y.2.2.2.2.1] 32 (0, 0)) := hb9
    have h9 := h3.keep hE39.mod
    have hG9 := hG.keep (Ext.mod (F := fun _ => False) hE39) (fun _ _ x => x)
    have ej : IntKind.i64.wrap ((j : Int) + 1) = ((j + 1 : Nat) : Int) := by rw [wrap_i64 (by omega) (by omega)]; rfl
    refine ⟨fun v w10 => Hd.U64 v ∧ Mod (fun x => ¬ (Value.slice pp G.length cc).ownBlock = some x) w9 w10 ∧ ∃ nx' S' sz', Cov T S' (if v = 0 then G else G ++ [v]) ∧ CO w w10 (fun x => (Value.slice pp G.length cc).ownBlock = some x) p T nx' S' sz', ⟨_, dcell hb9 rfl, ?_⟩, ?_⟩
    · refine ifB_intro (fun _ => ⟨_, dcell hb9 rfl, h9.grant tab _ fun w10 h10 hm10 => ?_⟩) (fun _ => ifB_intro (fun _ => ?_) (fun _ => ifB_intro (fun _ => ⟨_, dcell hb9 rfl, h9.revoke _ fun w10 h10 hm10 => ?_⟩) (fun _ => ?_)))
      · obtain ⟨v, e, hv, he⟩ := grant_eff (T := T) (S := S) (nx := nx) (a := y.2.1) tr n0
        rw [hv]
        exact ⟨_, _, rfl, he.u64, hm10, _, _, _, hcov.step he, h10⟩
      · rintro w10 rfl
        have hEd := Ext.drew w9
        refine ⟨_, _, _, _, _, cells_all (vs := [_, _, _, _, _]) (hEd.keep hb9), _, dcell (hEd.keep hb9) rfl, .of (of_any (ORow.rowAt uF_len (hG9.keep (Ext.mod (F := fun _ => False) hEd) (fun _ _ x => x))) hGu (by omega) _ _ _ _ hyw) ?_⟩
        rintro v w11 ⟨h, rfl, hh64, hE11⟩
        have hE911 := hEd.trans hE11
        refine ⟨_, rfl, ⟨_, dcell (hE911.keep hb9) rfl, rfl⟩, (h9.keep hE911.mod).restrict tab hh64 _ fun w12 h12 hm12 => ?_⟩
        obtain ⟨v, e, hv, he⟩ := rest_eff (T := T) (S := S) (nx := nx) (h := h) (r := y.2.2.1) tr n0
        rw [hv]
        exact ⟨_, _, rfl, he.u64, Mod.trans hE911.mod hm12 (fun _ _ x => x), _, _, _, hcov.step he, h12⟩
      · exact ⟨_, rfl, ⟨by decide, by decide⟩, hm10, _, _, _, by rw [if_pos rfl]; exact hcov.rev _ _, h10⟩
      · exact ⟨⟨by decide, by decide⟩, Mod.refl _ _, _, _, _, by rw [if_pos rfl]; exact hcov, h9⟩
    · rintro jv v w10 ⟨hv64, hm10, nx', S', sz', hcov', h10⟩
      have hG10 := hG9.keep hm10 (fun x hx y => y hx)
      refine ifB_intro (fun hv => ?_) (fun hv => ?_)
      · have hv0 : v ≠ 0 := by simpa using hv
        rw [if_neg hv0] at hcov'
        refine al_intro fun b2 w11 hb2 hE11 hs11 hs11' => ?_
        have hG11 := hG10.keep (Ext.mod (F := fun _ => False) hE11) (fun _ _ x => x)
        obtain ⟨p', c', w12, hr, ho, hm12, hne⟩ := ORow.push elemU uF_len uF_one hG11 28 ⟨b2, 0, none⟩ 1 v (cells_all (vs := [_]) hb2) (by simp only [maxLen]; omega) (by omega)
        have el : G.length + 1 = (G ++ [v]).length := by simp
        rw [el] at hr ho hne
        have h11 := h10.keep hE11.mod
        refine ⟨p', _, c', w12, hr, m - 1, by omega, j + 1, G ++ [v], nx', S', sz', ej, by omega, rfl, by simp; omega, fun x hx => ?_, hcov', ho, ?_⟩
        · rcases List.mem_append.1 hx with hx | hx
          · exact hGu x hx
          · rw [List.mem_singleton.1 hx]; exact hv64
        · obtain ⟨F, h11⟩ := h11
          refine ⟨F, h11.setK hm12 fun x hx => ⟨ho.lt x hx, ?_⟩⟩
          rcases hne x hx with q | q
          · exact ⟨(h11.knew x q).1, fun z => (h11.new x z).2 q⟩
          · exact ⟨Nat.le_trans h11.ext.size q, h11.fresh q⟩
      · have hv0 : v = 0 := by simpa using hv
        rw [if_pos hv0] at hcov'
        exact ⟨m - 1, by omega, j + 1, G, nx', S', sz', ej, by omega, rfl, by omega, hGu, hcov', hG10, h10⟩
  -- is it one of those that were given?
  refine ⟨fun m b i w4 => ∃ q : Nat, i = (q : Int) ∧ m + q = G.length ∧ b = decide (hh ∈ G.take q) ∧ w4 = w3, ⟨G.length, 0, rfl, rfl, by simp, rfl⟩, ?_⟩
  rintro m jv b i w4 ⟨q, rfl, hmq, rfl, rfl⟩
  refine ifD (fun hq => ?_) (fun hq => ?_)
  · obtain ⟨x, hx⟩ : ∃ x, G[q]? = some x := ⟨_, List.getElem?_eq_getElem (by omega)⟩
    obtain ⟨a, ea, hc⟩ := hG.cells uF_len hx
    have c := hc 0 _ rfl
    rw [Nat.mul_one, Addr.add_add] at c
    refine ⟨fun b w5 => b = decide (hh ∈ G.take (q + 1)) ∧ w5 = w4, ⟨by omega, hq, ?_⟩, ?_⟩
    · rw [ea]
      refine ⟨x, by rw [Int.toNat_natCast]; exact c, ?_⟩
      rw [List.take_add_one, hx]
      refine ifD (fun hm => ⟨?_, rfl⟩) (fun hm => ⟨?_, rfl⟩)
      · rw [decide_eq_true]; exact List.mem_append_left _ hm
      · by_cases e : x = hh
        · subst e
          rw [decide_eq_true (List.mem_append_right _ (by simp))]
          simp
        · rw [decide_eq_false (fun y => by
            rcases List.mem_append.1 y with y | y
            · exact hm y
            · have : hh = x := by simpa using y
              exact e this.symm)]
          simpa using e
    · rintro jv b w5 ⟨rfl, rfl⟩
      refine ⟨m - 1, by omega, q + 1, ?_, by omega, rfl, rfl⟩
      rw [wrap_i64 (by omega) (by omega)]; rfl
  rw [List.take_of_length_le (by omega)]
  refine h3.find hu 0 fun w5 h5 _ => ?_
  obtain ⟨fa, fe, hf⟩ := findR_shape T S hh 0
  rw [hf]
  refine ⟨_, _, rfl, h5.count ⟨_, rfl, h5.restrict tab hu 1 fun w6 h6 _ => ?_⟩⟩
  obtain ⟨v, e, hv, he⟩ := rest_eff (T := T) (S := S) (nx := nx) (h := hh) (r := 1) tr n0
  rw [hv]
  refine ⟨_, _, rfl, ifD (fun _ => ⟨rfl, h6.ext⟩) (fun hn => ?_)⟩
  have hnone : findS T S hh = none := by
    cases hf : findS T S hh with
    | none => rfl
    | some s => exact absurd (hcov.mem hf) hn
  have e1 : fe = 5 := by
    rw [findR, hnone] at hf
    simp only [Value.tuple.injEq] at hf
    simp at hf
    omega
  have hro : restO T S hh 1 = none := by rw [restO, hnone]
  have e2 : e = 5 := by
    rw [restV, hro] at hv
    have : restE T S hh 1 = 5 := by rw [restE, hnone]
    rw [this] at hv
    simp at hv
    omega
  rw [e1, e2]
  have hz : restZ T S nx hh 1 sz = sz := by rw [restZ, hro]
  rw [hz] at h6
  exact ifB_true rfl (ifB_true rfl (h6.count ⟨_, rfl, by simp, h6.ext⟩))

theorem walk_CapsForged (w : World) (tab : Tab w) (T : Int) (_ : -9223372036854775808 ≤ T ∧ T ≤ 9223372036854775807) (x : KOpsSh.T) (ok : KOpsSh.Ok w x) (hh : Int) (hu : 0 ≤ hh ∧ hh ≤ 18446744073709551615) :
    Calls Tryd.prog 4 #[.int .i64 T, KOpsSh.val x, .int .u64 hh] w (Ret (Yes w)) :=
  core_CapsForged w tab T (pa := x.1.1) (cap := x.1.2) (l := x.2) (kops_row ok) (kops_wf ok) (Nat.le_trans ok.1 ok.2.1) hh hu

end Go.Proofs.YtkbgiflmecaffaaDoor
