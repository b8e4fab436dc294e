/- Statements of layer 10: CapsPlays. Conditions: the table of TrailingZeros64 is laid; the arguments' cells are there. -/
import Derived.Test.YtkbgiflmecaffaaDoorRefCaps5
import Derived.Test.YtkbgiflmecaffaaDoorCapsCopy
import Derived.Test.YtkbgiflmecaffaaDoorVcQ
set_option linter.unusedVariables false
set_option linter.unusedSimpArgs false
namespace Go.Proofs.YtkbgiflmecaffaaDoor
open Go.RowKit

/-- A table and the document's, alike; blocks of R are kept apart from both. -/
structure PW (w0 w : World) (p q : Nat) (FR R : Nat → Prop) (T nx : Int) (S : Int → Option Sl) (L : List Rl) : Prop where
  co : CO w0 w (fun x => FR x ∨ R x) p T nx S L.length
  rc : RC w q FR T nx L
  rel : Rel T S L
  sep : ∀ k, FR k → ¬ R k

theorem grantZ_le (S : Int → Option Sl) (nx a : Int) (z : Nat) : grantZ S nx a z ≤ z + 1 := by
  unfold grantZ putZ
  split
  · omega
  · split <;> omega

theorem restZ_le (T : Int) (S : Int → Option Sl) (nx h r : Int) (z : Nat) : restZ T S nx h r z ≤ z + 1 := by
  unfold restZ putZ
  split
  · split <;> omega
  · omega

section
variable {w0 w w1 w2 : World} {p q : Nat} {FR R : Nat → Prop} {T nx : Int} {S : Int → Option Sl} {L : List Rl}

theorem PW.ext (h : PW w0 w p q FR R T nx S L) (hE : Ext w w1) : PW w0 w1 p q FR R T nx S L := ⟨h.co.keep hE.mod, h.rc.ext hE, h.rel, h.sep⟩

theorem CO.rng2 {K : Nat → Prop} {sz : Nat} (h : CO w0 w K p T nx S sz) : 1 ≤ nx ∧ nx ≤ 17592186044416 := by
  obtain ⟨F, h⟩ := h
  obtain ⟨_, _, _, _, _, c, _⟩ := h.c
  exact c.n0

theorem CO.okT {K : Nat → Prop} {sz : Nat} (h : CO w0 w K p T nx S sz) : ∀ x s, S x = some s → 0 ≤ x ∧ x < 4160 ∧ 1 ≤ s.1 ∧ s.1 ≤ 7 ∧ 1 ≤ s.2.1 ∧ s.2.1 < 17592186044416 := by
  obtain ⟨F, h⟩ := h
  obtain ⟨_, _, _, _, _, c, _⟩ := h.c
  intro x s hs
  have a := c.rng x s hs
  have b := c.ok x s hs
  have d := c.n0
  omega

/-- Other blocks are kept apart. -/
theorem PW.setR {R' : Nat → Prop} (h : PW w0 w p q FR R T nx S L) (hm : Mod R w w1) (hR : ∀ j, R' j → j < w1.heap.size ∧ (R j ∨ w.heap.size ≤ j)) : PW w0 w1 p q FR R' T nx S L := by
  obtain ⟨⟨F, co⟩, rc, rel, sep⟩ := h
  refine ⟨⟨F, co.setK (hm.mono fun j hj => .inr hj) fun j hj => ?_⟩, rc.keep hm sep, rel, fun k hk hk' => ?_⟩
  · rcases hj with hj | hj
    · exact ⟨Nat.lt_of_lt_of_le (rc.lt j hj) hm.size, (co.knew j (.inl hj)).1, fun y => (co.new j y).2 (.inl hj)⟩
    · obtain ⟨a, b⟩ := hR j hj
      refine ⟨a, ?_⟩
      rcases b with b | b
      · exact ⟨(co.knew j (.inr b)).1, fun y => (co.new j y).2 (.inr b)⟩
      · exact ⟨Nat.le_trans co.ext.size b, co.fresh b⟩
  · rcases (hR k hk').2 with b | b
    · exact sep k hk b
    · have := rc.lt k hk
      omega

/-- Behind both calls. -/
theorem PW.both {nx' : Int} {S' : Int → Option Sl} {z' : Nat} {L' : List Rl} (h : PW w0 w p q FR R T nx S L) (co : CO w0 w1 (fun x => FR x ∨ R x) p T nx' S' z') (hm : Mod (fun j => ¬ (FR j ∨ R j)) w w1) (rel : Rel T S' L') (hz : L'.length = z') (hp : RPost w1 q FR T nx' L' w2) :
    ∃ FR', PW w0 w2 p q FR' R T nx' S' L' ∧ Mod FR w1 w2 := by
  obtain ⟨FR', rc, hm2, hn⟩ := hp
  subst hz
  obtain ⟨F, co⟩ := co
  refine ⟨FR', ⟨⟨F, co.setK (hm2.mono fun j hj => .inl hj) fun j hj => ?_⟩, rc, rel, fun j hj hR => ?_⟩, hm2⟩
  · rcases hj with hj | hj
    · refine ⟨rc.lt j hj, ?_⟩
      rcases hn j hj with z | z
      · exact ⟨(co.knew j (.inl z)).1, fun y => (co.new j y).2 (.inl z)⟩
      · exact ⟨Nat.le_trans co.ext.size z, co.fresh z⟩
    · exact ⟨Nat.lt_of_lt_of_le (co.knew j (.inr hj)).2 hm2.size, (co.knew j (.inr hj)).1, fun y => (co.new j y).2 (.inr hj)⟩
  · rcases hn j hj with z | z
    · exact h.sep j z hR
    · have := (co.knew j (.inr hR)).2
      omega

theorem PW.rcAt (h : PW w0 w p q FR R T nx S L) (hm : Mod (fun j => ¬ (FR j ∨ R j)) w w1) : RC w1 q FR T nx L := h.rc.keep hm fun k hk x => x (.inl hk)

end

set_option maxHeartbeats 4000000 in
theorem core_CapsPlays (w : World) (tab : Tab w) (T : Int) (sr : Int) {pa : Option Addr} {cap : Nat} {l : List KOp} (hrow : RowAt w pa 5 kopF l) (hwf : ∀ y ∈ l, Hd.U64 y.2.2.2.2.1) (hl63 : l.length ≤ maxLen) :
    Calls Tryd.prog 7 #[.int .i64 T, .int .i64 sr, .slice pa l.length cap] w (Ret (Yes w)) := by
  refine VC.garthlaw10_CapsPlays.ok ?_
  unfold VC.garthlaw10_CapsPlays
  refine .of (capnew_any T sr w) ?_
  rintro v w1 (⟨hno, rfl, rfl⟩ | ⟨t0, t7, s1, s44, p, rfl, h1⟩)
  · refine ⟨_, _, rfl, .of (rnew_any T sr w1) ?_⟩
    rintro v w2 (⟨_, rfl, rfl⟩ | ⟨a1, a2, a3, a4, _⟩)
    case inr => exact absurd ⟨a1, a2, a3, a4⟩ hno
    refine ⟨_, _, rfl, fun b w3 => b = false ∧ Ext w2 w3, .of (cawake_any tab) ?_, ?_⟩
    · rintro v w3 ⟨rfl, hE⟩
      exact ⟨_, rfl, ifB_false rfl (ifB_false rfl ⟨rfl, hE⟩)⟩
    · rintro jv b w3 ⟨rfl, hE⟩
      refine ifB_false rfl ⟨fun b w4 => b = true ∧ w4 = w3, ifB_true rfl ⟨rfl, rfl⟩, ?_⟩
      rintro jv b w4 ⟨rfl, rfl⟩
      exact ifB_true rfl ⟨rfl, hE⟩
  refine ⟨_, _, rfl, .of (rnew_any T sr w1) ?_⟩
  rintro v w2 (⟨hno, _⟩ | ⟨_, _, _, _, q, FR, rfl, hrc, hE2, hFn⟩)
  · exact absurd ⟨t0, t7, s1, s44⟩ hno
  have rel0 : Rel T (fun _ => none) [] := ⟨List.Pairwise.nil, fun y hy => by simp at hy, fun x s => by simp⟩
  have st : PW w w2 p q FR (fun x => (Value.slice none 0 0).ownBlock = some x) T sr (fun _ => none) [] := by
    obtain ⟨F, h1⟩ := h1
    refine ⟨⟨F, h1.setK hE2.mod fun j hj => ?_⟩, hrc, rel0, fun k hk hk' => by simp [Value.ownBlock] at hk'⟩
    rcases hj with hj | hj
    · exact ⟨hrc.lt j hj, Nat.le_trans h1.ext.size (hFn j hj), h1.fresh (hFn j hj)⟩
    · simp [Value.ownBlock] at hj
  refine ⟨_, _, rfl, fun b w3 => b = false ∧ PW w w3 p q FR (fun x => (Value.slice none 0 0).ownBlock = some x) T sr (fun _ => none) [], .of (cawake_any (tab.ext (h1.ext.trans hE2))) ?_, ?_⟩
  · rintro v w3 ⟨rfl, hE⟩
    exact ⟨_, rfl, ifB_false rfl (ifB_false rfl ⟨rfl, st.ext hE⟩)⟩
  rintro jv b w3 ⟨rfl, st3⟩
  refine ifB_false rfl ⟨fun b w4 => (b = false → l.length ≤ 400) ∧ w4 = w3, ifB_false rfl ⟨fun z => by have := of_decide_eq_false z; omega, rfl⟩, ?_⟩
  rintro jv b w4 ⟨hl, rfl⟩
  refine ifB_intro (fun _ => ⟨rfl, st3.co.ext⟩) (fun hb => ?_)
  have hl := hl hb
  refine ⟨fun m cp pp nn cc i w5 => ∃ (j : Nat) (G : List Int) (p : Nat) (FR : Nat → Prop) (nx : Int) (S : Int → Option Sl) (L : List Rl), cp = some ⟨p, 0, none⟩ ∧ i = (j : Int) ∧ m + j = l.length ∧ nn = G.length ∧ G.length ≤ j ∧ L.length ≤ j ∧ (∀ x ∈ G, Hd.U64 x) ∧ ORow w5 30 1 uF (.slice pp nn cc) G ∧
      PW w w5 p q FR (fun x => (Value.slice pp nn cc).ownBlock = some x) T nx S L,
    ⟨l.length, 0, [], p, FR, sr, _, [], rfl, rfl, rfl, rfl, Nat.le_refl _, Nat.le_refl _, fun x hx => by simp at hx, ORow.nil _ _, st3⟩, ?_⟩
  clear h1 hrc hE2 hFn st st3 rel0
  rintro m jv cp pp nn cc i w5 ⟨j, G, p, FR, nx, S, L, rfl, rfl, hmj, rfl, hGj, hLj, hGu, hG, st⟩
  refine ifD (fun hj => ⟨by omega, hj, ?_⟩) (fun hj => ⟨rfl, st.co.ext⟩)
  obtain ⟨y, hy⟩ : ∃ y, l[j]? = some y := ⟨_, List.getElem?_eq_getElem (by omega)⟩
  have hyw := hwf y (List.mem_of_getElem? hy)
  rw [Int.toNat_natCast]
  refine (hrow.ext st.co.ext).kop hy (al_intro fun b w8 hb8 hE8 hs8 hs8' => ?_)
  refine wr_intro (b := b) (n := 5) hb8 (by simp) fun w9 hb9 hm9 _ => ?_
  have hE59 : Ext w5 w9 := hE8.new hm9 (fun k hk => by omega)
  have hb9 : w9.heap[b]? = some (.cells #[.int .i64 y.1, .int .i64 y.2.1, .int .i64 y.2.2.1, .int .i64 y.2.2.2.1, .int .u64 y.2.2.2.2.1] 32 (0, 0)) := hb9
  have hG9 := hG.keep (Ext.mod (F := fun _ => False) hE59) (fun _ _ x => x)
  refine ⟨_, _, _, _, _, cells_all (vs := [_, _, _, _, _]) hb9, .of (of_any (ORow.rowAt uF_len hG9) hGu (by omega) _ _ _ _ hyw) ?_⟩
  rintro v w10 ⟨h, rfl, hh64, hE10⟩
  have hE510 := hE59.trans hE10
  have hb10 := hE10.keep hb9
  have hG10 := hG.keep (Ext.mod (F := fun _ => False) hE510) (fun _ _ x => x)
  have st10 : PW w w10 p q FR (fun x => (Value.slice pp G.length cc).ownBlock = some x ∨ x = b) T nx S L := st.setR hE510.mod fun k hk => by
    rcases hk with hk | rfl
    · exact ⟨hG10.lt k hk, .inl hk⟩
    · exact ⟨lt_of_blk hb10, .inr (by omega)⟩
  clear hG9 hG hE59 hm9 hb8 hE8 hs8' hb9 hE10
  have ej : IntKind.i64.wrap ((j : Int) + 1) = ((j + 1 : Nat) : Int) := by rw [wrap_i64 (by omega) (by omega)]; rfl
  have hl1 : L.length ≤ 100000 := by omega
  obtain ⟨tr, _⟩ := st10.co.rng
  have n0 := st10.co.rng2
  have hok := st10.co.okT
  -- what is left when both are done
  have fin : ∀ {w11 : World} {p' : Nat} {FR' : Nat → Prop} {nx' : Int} {S' : Int → Option Sl} {L' : List Rl}, PW w w11 p' q FR' (fun x => (Value.slice pp G.length cc).ownBlock = some x ∨ x = b) T nx' S' L' → L'.length ≤ j + 1 → ORow w11 30 1 uF (.slice pp G.length cc) G →
      ∃ (p'' : Nat) (FR' : Nat → Prop) (nx' : Int) (S' : Int → Option Sl) (L' : List Rl), some (Addr.mk p' 0 none) = some ⟨p'', 0, none⟩ ∧ L'.length ≤ j + 1 ∧ ORow w11 30 1 uF (.slice pp G.length cc) G ∧ PW w w11 p'' q FR' (fun x => (Value.slice pp G.length cc).ownBlock = some x) T nx' S' L' := fun st hl hG =>
    ⟨_, _, _, _, _, rfl, hl, hG, st.setR (Mod.refl _ _) fun k hk => ⟨hG.lt k hk, .inl (.inl hk)⟩⟩
  refine ⟨_, rfl, fun cp' e f a a' x x' w11 => e = f ∧ a = a' ∧ x = x' ∧ Hd.U64 a ∧ ∃ (p' : Nat) (FR' : Nat → Prop) (nx' : Int) (S' : Int → Option Sl) (L' : List Rl), cp' = some ⟨p', 0, none⟩ ∧ L'.length ≤ j + 1 ∧ ORow w11 30 1 uF (.slice pp G.length cc) G ∧ PW w w11 p' q FR' (fun x => (Value.slice pp G.length cc).ownBlock = some x) T nx' S' L', ⟨_, dcell hb10 rfl, ?_⟩, ?_⟩
  · have u0 : Hd.U64 0 := ⟨by decide, by decide⟩
    refine ifB_intro (fun _ => ?_) (fun _ => ifB_intro (fun _ => ?_) (fun _ => ifB_intro (fun _ => ?_) (fun _ => ifB_intro (fun _ => ?_) (fun _ => ?_))))
    · -- Grant
      refine ⟨_, dcell hb10 rfl, st10.co.grant tab y.2.1 fun w11 co11 hk11 => ?_⟩
      obtain ⟨i, e, hv, he⟩ := grant_eff2 (T := T) (S := S) (nx := nx) (a := y.2.1) tr n0.1
      have hb11 := hk11.keep hb10 (fun z => z (.inr (.inr rfl)))
      have hG11 := hG10.keep hk11 (fun k hk z => z (.inr (.inl hk)))
      rw [hv]
      refine ⟨_, _, rfl, _, dcell hb11 rfl, .of (rgrant_any (st10.rcAt hk11) st10.rel tr n0 hl1 y.2.1) ?_⟩
      rintro v w12 ⟨rfl, L', hrel', hlen', hp'⟩
      obtain ⟨FR', st12, hm12⟩ := st10.both co11 hk11 hrel' hlen' hp'
      rw [hv]
      exact ⟨_, _, rfl, rfl, rfl, rfl, he.eff.u64, fin st12 (by have := grantZ_le S nx y.2.1 L.length; omega) (hG11.keep hm12 (fun k hk z => st10.sep k z (.inl hk)))⟩
    · -- Find
      refine ⟨_, dcell hb10 rfl, st10.co.find hh64 _ fun w11 co11 hE11 => ?_⟩
      obtain ⟨i, e, hv⟩ := findR_shape T S h y.2.2.1
      have st11 := st10.ext hE11
      rw [hv]
      refine ⟨_, _, rfl, _, dcell (hE11.keep hb10) rfl, .of (rFind_any st11.rc st11.rel hok tr hl1 hh64 y.2.2.1) ?_⟩
      rintro v w12 ⟨rfl, hE12⟩
      rw [hv]
      have hE := hE11.trans hE12
      exact ⟨_, _, rfl, rfl, rfl, rfl, u0, fin (st10.ext hE) (by omega) (hG10.keep (Ext.mod (F := fun _ => False) hE) (fun _ _ x => x))⟩
    · -- Restrict
      refine ⟨_, dcell hb10 rfl, st10.co.restrict tab hh64 _ fun w11 co11 hk11 => ?_⟩
      obtain ⟨i, e, hv, he, _⟩ := rest_eff2 (T := T) (S := S) (nx := nx) (h := h) (r := y.2.2.1) tr n0.1
      have hb11 := hk11.keep hb10 (fun z => z (.inr (.inr rfl)))
      have hG11 := hG10.keep hk11 (fun k hk z => z (.inr (.inl hk)))
      rw [hv]
      refine ⟨_, _, rfl, _, dcell hb11 rfl, .of (rrestrict_any (st10.rcAt hk11) st10.rel hok tr n0 hl1 hh64 y.2.2.1) ?_⟩
      rintro v w12 ⟨rfl, L', hrel', hlen', hp'⟩
      obtain ⟨FR', st12, hm12⟩ := st10.both co11 hk11 hrel' hlen' hp'
      rw [hv]
      exact ⟨_, _, rfl, rfl, rfl, rfl, he.eff.u64, fin st12 (by have := restZ_le T S nx h y.2.2.1 L.length; omega) (hG11.keep hm12 (fun k hk z => st10.sep k z (.inl hk)))⟩
    · -- Revoke
      rintro w11 rfl
      have hEd := Ext.drew w10
      have st11 := st10.ext hEd
      have hb11 := hEd.keep hb10
      have hG11 := hG10.keep (Ext.mod (F := fun _ => False) hEd) (fun _ _ x => x)
      refine ⟨_, dcell hb11 rfl, _, dcell hb11 rfl, st11.co.revoke y.2.1 fun w12 co12 hk12 => ?_⟩
      have hb12 := hk12.keep hb11 (fun z => z (.inr (.inr rfl)))
      have hG12 := hG11.keep hk12 (fun k hk z => z (.inr (.inl hk)))
      refine ⟨_, rfl, ⟨_, dcell hb12 rfl, rfl⟩, .of (rrevoke_any (st11.rcAt hk12) st11.rel (fun x s hs => ⟨(hok x s hs).1, (hok x s hs).2.1⟩) hl1 y.2.1) ?_⟩
      rintro v w13 ⟨rfl, L', hrel', hlen', hp'⟩
      obtain ⟨FR', st13, hm13⟩ := st11.both co12 hk12 hrel' hlen' hp'
      exact ⟨_, rfl, rfl, rfl, rfl, u0, fin st13 (by omega) (hG12.keep hm13 (fun k hk z => st11.sep k z (.inl hk)))⟩
    · -- its copy goes on
      obtain ⟨⟨F, co⟩, rc10, rel10, sep10⟩ := st10
      refine .of (ccopy_any co.c) ?_
      rintro v w11 ⟨p', F', rfl, c11, hE11, hF'⟩
      have co11 := co.keep hE11.mod
      refine ⟨_, rfl, .of (grant_any co11.c (tab.ext co11.ext) 1) ?_⟩
      rintro v w12 ⟨rfl, _, hm12⟩
      obtain ⟨i, e, hv, he⟩ := grant_eff2 (T := T) (S := S) (nx := nx) (a := 1) tr n0.1
      rw [hv]
      have hFlt := co.c.lt
      have c12 : CP w12 p' F' T nx S L.length := c11.keep hm12 (fun k hk x => by have := hF' k hk; have := hFlt k x; omega)
      have hKlt : ∀ k, FR k ∨ ((Value.slice pp G.length cc).ownBlock = some k ∨ k = b) → k < w10.heap.size := fun k hk => (co.knew k hk).2
      have s11 := hE11.size
      have s12 := hm12.size
      have co12 : CO w w12 (fun x => FR x ∨ ((Value.slice pp G.length cc).ownBlock = some x ∨ x = b)) p' T nx S L.length :=
        ⟨F', c12, fun k hk => ⟨Nat.le_trans co.ext.size (hF' k hk), fun x => by have := hF' k hk; have := hKlt k x; omega⟩, fun k hk => ⟨(co.knew k hk).1, by have := hKlt k hk; omega⟩, co11.ext.new hm12 (fun k hk => (co.new k hk).1)⟩
      have rc12 := (rc10.ext hE11).keep hm12 (fun k hk x => (co.new k x).2 (.inl hk))
      have hG12 := (hG10.keep (Ext.mod (F := fun _ => False) hE11) (fun _ _ x => x)).keep hm12 (fun k hk x => (co.new k x).2 (.inr (.inl hk)))
      exact ⟨_, _, rfl, rfl, rfl, rfl, u0, fin ⟨co12, rc12, rel10, sep10⟩ (by omega) hG12⟩
  clear fin st st10 hG10 hb10 hE510 hok hl1 n0
  rintro jv cp' e f a a' x x' w11 ⟨rfl, rfl, rfl, hau, p', FR', nx', S', L', rfl, hL', hG, st⟩
  refine ⟨fun b w12 => b = false ∧ Ext w11 w12, ?_, ?_⟩
  · rintro w12 rfl
    have hEd := Ext.drew w11
    have st12 := st.ext hEd
    obtain ⟨rp, rc, hrw, _, _⟩ := st12.rc.shape
    simp only [someA]
    refine ifB_false (by simp) ⟨by trivial, ifB_false (by simp) ⟨by trivial, ifB_false (by simp) ⟨_, dcell hrw.head rfl, st12.co.serial ⟨_, rfl, ⟨_, dcell hrw.head rfl, rfl⟩, by trivial, ifB_false (by simp) ⟨_, _, _, dcell hrw.head rfl, by trivial, st12.co.count ⟨_, rfl, ⟨by trivial, by trivial⟩, ⟨_, _, _, dcell hrw.head rfl, rfl⟩, by trivial, by simp, hEd⟩⟩⟩⟩⟩⟩
  rintro jv bb w12 ⟨rfl, hE12⟩
  have st12 := st.ext hE12
  have hG12 := hG.keep (Ext.mod (F := fun _ => False) hE12) (fun _ _ x => x)
  refine ifB_false rfl (ifB_intro (fun hv => ?_) (fun hv => ⟨m - 1, by omega, j + 1, G, p', FR', nx', S', L', rfl, ej, by omega, rfl, by omega, hL', hGu, hG12, st12⟩))
  refine al_intro fun b2 w13 hb2 hE13 hs13 hs13' => ?_
  have hG13 := hG12.keep (Ext.mod (F := fun _ => False) hE13) (fun _ _ x => x)
  obtain ⟨gp, c', w14, hr, ho, hm14, hne⟩ := ORow.push elemU uF_len uF_one hG13 28 ⟨b2, 0, none⟩ 1 a (cells_all (vs := [_]) hb2) (by simp only [maxLen]; omega) (by omega)
  have el : G.length + 1 = (G ++ [a]).length := by simp
  rw [el] at hr ho hne
  refine ⟨gp, _, c', w14, hr, m - 1, by omega, j + 1, G ++ [a], p', FR', nx', S', L', rfl, ej, by omega, rfl, by simp; omega, hL', fun x hx => ?_, ho, (st12.ext hE13).setR hm14 fun k hk => ⟨ho.lt k hk, hne k hk⟩⟩
  rcases List.mem_append.1 hx with hx | hx
  · exact hGu x hx
  · rw [List.mem_singleton.1 hx]; exact hau

theorem walk_CapsPlays (w : World) (tab : Tab w) (T : Int) (_ : -9223372036854775808 ≤ T ∧ T ≤ 9223372036854775807) (sr : Int) (_ : -9223372036854775808 ≤ sr ∧ sr ≤ 9223372036854775807) (x : KOpsSh.T) (ok : KOpsSh.Ok w x) :
    Calls Tryd.prog 7 #[.int .i64 T, .int .i64 sr, KOpsSh.val x] w (Ret (Yes w)) :=
  core_CapsPlays w tab T sr (pa := x.1.1) (cap := x.1.2) (l := x.2) (kops_row ok) (kops_wf ok) (Nat.le_trans ok.1 ok.2.1)

end Go.Proofs.YtkbgiflmecaffaaDoor
