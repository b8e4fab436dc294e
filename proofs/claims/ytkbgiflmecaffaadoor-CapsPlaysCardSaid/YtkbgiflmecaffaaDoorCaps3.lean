/- Contracts of package caps: Grant, Restrict, Revoke, New; no table. Conditions: the table is there; the table of TrailingZeros64 is laid. -/
import Derived.Test.YtkbgiflmecaffaaDoorCaps2
set_option linter.unusedVariables false
set_option linter.unusedSimpArgs false
namespace Go.Proofs.YtkbgiflmecaffaaDoor
open Go.RowKit

def grantV (T : Int) (S : Int → Option Sl) (nx a : Int) : Value := if a < 0 then .tuple #[.int .u64 0, .int .i64 12] else putV T S 0 4096 nx 7
def grantN (S : Int → Option Sl) (nx a : Int) : Int := if a < 0 then nx else putN S 0 4096 nx
def grantS (S : Int → Option Sl) (nx a : Int) : Int → Option Sl := if a < 0 then S else putS S 0 4096 nx 7 a
def grantZ (S : Int → Option Sl) (nx a : Int) (sz : Nat) : Nat := if a < 0 then sz else putZ S 0 4096 nx sz

def restO (T : Int) (S : Int → Option Sl) (h r : Int) : Option Sl := match findS T S h with
  | some s => if 1 ≤ r ∧ r ≤ 7 ∧ may s r = true then some s else none
  | none => none
def restE (T : Int) (S : Int → Option Sl) (h r : Int) : Int := match findS T S h with
  | some _ => if r < 1 ∨ r > 7 then 2 else 5
  | none => 5
def restV (T : Int) (S : Int → Option Sl) (nx h r : Int) : Value := match restO T S h r with
  | some _ => putV T S 4096 64 nx r
  | none => .tuple #[.int .u64 0, .int .i64 (restE T S h r)]
def restN (T : Int) (S : Int → Option Sl) (nx h r : Int) : Int := match restO T S h r with
  | some _ => putN S 4096 64 nx
  | none => nx
def restS (T : Int) (S : Int → Option Sl) (nx h r : Int) : Int → Option Sl := match restO T S h r with
  | some s => putS S 4096 64 nx r s.2.2
  | none => S
def restZ (T : Int) (S : Int → Option Sl) (nx h r : Int) (sz : Nat) : Nat := match restO T S h r with
  | some _ => putZ S 4096 64 nx sz
  | none => sz

theorem findS_in {T : Int} {S : Int → Option Sl} {h : Int} {s : Sl} (e : findS T S h = some s) : Hd.HOk h ∧ Hd.uT h = T ∧ S (Hd.uS h) = some s ∧ s.1 = Hd.uR h ∧ s.2.1 = Hd.uN h := by
  unfold findS at e
  split at e
  · rename_i hk
    cases hS : S (Hd.uS h) with
    | none => rw [hS] at e; cases e
    | some s' =>
      rw [hS] at e
      simp only at e
      split at e
      · rename_i hg
        obtain rfl := Option.some.inj e
        exact ⟨hk.1, hk.2, rfl, hg.1, hg.2⟩
      · cases e
  · cases e

section
variable {w : World} {p : Nat} {F : Nat → Prop} {T nx : Int} {S : Int → Option Sl} {sz : Nat}

theorem grant_any (h : CP w p F T nx S sz) (tab : Tab w) (a : Int) : Calls Tryd.prog 12 #[.pointer (some ⟨p, 0, none⟩), .int .i64 a] w
    (Ret fun v w' => v = grantV T S nx a ∧ CP w' p F T (grantN S nx a) (grantS S nx a) (grantZ S nx a sz) ∧ Mod F w w') := by
  obtain ⟨B, ob, og, eb, eg, h, rfl⟩ := h
  refine VC.caps_Caps_Grant.ok ?_
  unfold VC.caps_Caps_Grant
  refine ifB_false rfl (ifD (fun ha => ?_) (fun ha => ?_))
  · rw [grantV, grantN, grantS, grantZ, if_pos ha, if_pos ha, if_pos ha, if_pos ha]
    exact ⟨rfl, ⟨B, ob, og, eb, eg, h, rfl⟩, Mod.refl _ _⟩
  · rw [grantV, grantN, grantS, grantZ, if_neg ha, if_neg ha, if_neg ha, if_neg ha]
    simp only [someA]
    refine ⟨_, dcell h.head rfl, .of (put_core h tab (sb := ob) (sg := og) (base := 0) (n := 4096) (.inl ⟨rfl, rfl, rfl, rfl⟩) (by omega) (by decide)) ?_⟩
    rintro v w3 ⟨rfl, h3, hm3⟩
    have hv : ∃ i4 i5 : Int, putV T S 0 4096 nx 7 = .tuple #[.int .u64 i4, .int .i64 i5] := by
      unfold putV
      split <;> exact ⟨_, _, rfl⟩
    obtain ⟨i4, i5, e⟩ := hv
    rw [e]
    exact ⟨_, _, rfl, rfl, ⟨B, ob, og, eb, eg, h3, rfl⟩, hm3⟩

theorem restrict_any (h : CP w p F T nx S sz) (tab : Tab w) {hh : Int} (hu : Hd.U64 hh) (r : Int) : Calls Tryd.prog 13 #[.pointer (some ⟨p, 0, none⟩), .int .u64 hh, .int .i64 r] w
    (Ret fun v w' => v = restV T S nx hh r ∧ CP w' p F T (restN T S nx hh r) (restS T S nx hh r) (restZ T S nx hh r sz) ∧ Mod F w w') := by
  refine VC.caps_Caps_Restrict.ok ?_
  unfold VC.caps_Caps_Restrict
  refine .of (cfind_any h hu) ?_
  rintro v w1 ⟨rfl, hE1⟩
  have hs1 := hE1.size
  cases hf : findS T S hh with
  | none =>
    refine ⟨0, 0, 0, 5, rfl, al_intro fun b w7 hb hE7 hs7 hs7' => give3 hb fun w8 hb8 hm8 hs8 => ifB_true rfl ?_⟩
    have hE8 : Ext w w8 := (hE1.trans hE7).new hm8 fun k hk => by omega
    have e : restO T S hh r = none := by rw [restO, hf]
    rw [restV, restN, restS, restZ, e, restE, hf]
    exact ⟨rfl, h.ext hE8, hE8.mod⟩
  | some s =>
    refine ⟨_, _, _, _, rfl, al_intro fun b w7 hb hE7 hs7 hs7' => give3 hb fun w8 hb8 hm8 hs8 => ifB_false rfl ?_⟩
    have hE8 : Ext w w8 := (hE1.trans hE7).new hm8 fun k hk => by omega
    have bad : ∀ (w' : World), Ext w w' → ¬ (1 ≤ r ∧ r ≤ 7 ∧ may s r = true) → ∀ e, restE T S hh r = e → Value.tuple #[.int .u64 0, .int .i64 e] = restV T S nx hh r ∧ CP w' p F T (restN T S nx hh r) (restS T S nx hh r) (restZ T S nx hh r sz) ∧ Mod F w w' := fun w' hE' hno e he => by
      have e : restO T S hh r = none := by rw [restO, hf]; simp only; rw [if_neg hno]
      rw [restV, restN, restS, restZ, e, he]
      exact ⟨rfl, h.ext hE', hE'.mod⟩
    refine ifD (fun h1 => bad w8 hE8 (fun q => by omega) 2 (by rw [restE, hf]; simp only; rw [if_pos (.inl h1)])) (fun h1 => ifD (fun h2 => bad w8 hE8 (fun q => by omega) 2 (by rw [restE, hf]; simp only; rw [if_pos (.inr h2)])) (fun h2 => ⟨_, _, cells2 hb8, .of (may_any _ _ r w8) ?_⟩))
    rintro v w9 ⟨rfl, hE9⟩
    have hE89 := hE8.trans hE9
    refine ⟨_, rfl, ifB_intro (fun h3 => bad w9 hE89 (fun q => ?_) 5 (by rw [restE, hf]; simp only; rw [if_neg (by omega)])) (fun h3 => ?_)⟩
    · have h3' : may s r = false := by simpa [may] using h3
      rw [h3'] at q
      exact absurd q.2.2 (by decide)
    rintro w14 rfl
    have hE14 := hE89.trans (Ext.drew w9)
    have hb14 := (Ext.drew w9).keep (hE9.keep hb8)
    have h14 := h.ext hE14
    have tab14 := tab.ext hE14
    have hadr : 0 ≤ s.2.2 := by
      obtain ⟨_, _, _, _, _, h, _⟩ := h
      exact (h.ok _ s (findS_in hf).2.2.1).2.2.2.2
    have e : restO T S hh r = some s := by
      have h3' : may s r = true := by simpa [may] using h3
      rw [restO, hf]; simp only; rw [if_pos ⟨by omega, by omega, h3'⟩]
    rw [restV, restN, restS, restZ, e]
    obtain ⟨B, ob, og, eb, eg, h14, rfl⟩ := h14
    simp only [someA]
    refine ⟨_, dcell h14.head rfl, _, dcell hb14 rfl, .of (put_core h14 tab14 (sb := eb) (sg := eg) (base := 4096) (n := 64) (.inr ⟨rfl, rfl, rfl, rfl⟩) hadr (by omega)) ?_⟩
    rintro v w15 ⟨rfl, h15, hm15⟩
    have hv : ∃ i4 i5 : Int, putV T S 4096 64 nx r = .tuple #[.int .u64 i4, .int .i64 i5] := by
      unfold putV
      split <;> exact ⟨_, _, rfl⟩
    obtain ⟨i4, i5, e⟩ := hv
    rw [e]
    exact ⟨_, _, rfl, rfl, ⟨B, ob, og, eb, eg, h15, rfl⟩, Mod.trans hE14.mod hm15 (fun _ _ x => x)⟩

end

/-! ### Revoke -/

def revS (S : Int → Option Sl) (a : Int) (k : Nat) : Int → Option Sl := fun x => if (S x).any (fun s => s.2.2 == a) = true ∧ 0 ≤ x ∧ x < k then none else S x
def revC (S : Int → Option Sl) (a : Int) (k : Nat) : Nat := (List.range k).countP fun j : Nat => (S (j : Int)).any fun s => s.2.2 == a

theorem revC_succ (S : Int → Option Sl) (a : Int) (k : Nat) : revC S a (k + 1) = revC S a k + (if (S (k : Int)).any (fun s => s.2.2 == a) = true then 1 else 0) := by
  unfold revC
  rw [List.range_succ, List.countP_append]
  simp [List.countP_cons]

theorem revS_at (S : Int → Option Sl) (a : Int) (k : Nat) : revS S a k (k : Int) = S (k : Int) := by
  unfold revS
  rw [if_neg (by omega)]

theorem revS_hit {S : Int → Option Sl} {a : Int} {k : Nat} (h : (S (k : Int)).any (fun s => s.2.2 == a) = true) : updS (revS S a k) (k : Int) none = revS S a (k + 1) := by
  funext x
  unfold updS revS
  by_cases e : x = (k : Int)
  · subst e
    rw [if_pos rfl, if_pos ⟨h, by omega, by omega⟩]
  · rw [if_neg e]
    by_cases q : (S x).any (fun s => s.2.2 == a) = true ∧ 0 ≤ x ∧ x < k
    · rw [if_pos q, if_pos ⟨q.1, q.2.1, by omega⟩]
    · rw [if_neg q, if_neg (fun y => q ⟨y.1, y.2.1, by omega⟩)]

theorem revS_miss {S : Int → Option Sl} {a : Int} {k : Nat} (h : (S (k : Int)).any (fun s => s.2.2 == a) = false) : revS S a k = revS S a (k + 1) := by
  funext x
  unfold revS
  by_cases e : x = (k : Int)
  · subst e
    rw [if_neg (by omega), if_neg (by rw [h]; simp)]
  · by_cases q : (S x).any (fun s => s.2.2 == a) = true ∧ 0 ≤ x ∧ x < k
    · rw [if_pos q, if_pos ⟨q.1, q.2.1, by omega⟩]
    · rw [if_neg q, if_neg (fun y => q ⟨y.1, y.2.1, by omega⟩)]

theorem revS_zero (S : Int → Option Sl) (a : Int) : revS S a 0 = S := by
  funext x
  unfold revS
  rw [if_neg (by omega)]

section
variable {w : World} {p B ob og eb eg : Nat} {T nx : Int} {S : Int → Option Sl} {sz : Nat}

/-- A slot is taken out. -/
theorem rev_del (h : CPw w p B ob og eb eg T nx S sz) {k : Nat} (hk : k < 4160) (hS : (S (k : Int)).isSome = true) :
    ∃ w', (Builtin.delete_ #[62, 3] 0 #[.map (some B), .int .i64 (k : Int)]).run Tryd.prog w = .ok (.tuple #[]) w' ∧
      w'.heap[p]? = some (.cells #[.int .i64 T, .int .i64 nx, .map (some B), .pointer (some ⟨ob, 0, none⟩), .pointer (some ⟨eb, 0, none⟩)] 64 (0, 0)) ∧
      ∀ {Q : Value → World → Prop}, (∀ (v : Int) w'', CPw w'' p B ob og eb eg T nx (updS S (k : Int) none) (sz - 1) → Mod (fpC p B ob og eb eg) w w'' → Q (.int .i64 v) w'') →
        CallS Tryd.prog 29 #[.pointer (some ⟨if k < 4096 then ob else eb, 0, none⟩), .int .i64 (if k < 4096 then (k : Int) else (k : Int) - 4096)] w' Q := by
  obtain ⟨w', hr, hi, hm, hs⟩ := h.slots.drop uCI uCM (k := (k : Int)) (i64_mk (by omega) (by omega)) 0
  have esz : (mapS S (k : Int)).isSome = true := by
    unfold mapS
    rw [Option.isSome_map]
    exact hS
  have emap : upd (mapS S) (k : Int) none = mapS (updS S (k : Int) none) := mapS_upd S _ none
  rw [esz, if_pos rfl, emap] at hi
  obtain ⟨d1, d2, d3, d4, d5, d6, d7, d8, d9, d10, d11, d12, d13⟩ := h.d
  have hd := hm.keep h.head d1
  have h1 := h.objs.keep hm (fun j hj x => by rcases hj with e | e; exact d6 (by rw [← x, e]); exact d7 (by rw [← x, e]))
  have h2 := h.extra.keep hm (fun j hj x => by rcases hj with e | e; exact d8 (by rw [← x, e]); exact d9 (by rw [← x, e]))
  refine ⟨w', hr, hd, fun {Q} q => ?_⟩
  have rng : ∀ x s, updS S (k : Int) none x = some s → 0 ≤ x ∧ x < 4160 := fun x s hx => by
    unfold updS at hx
    split at hx
    · cases hx
    · exact h.rng x s hx
  have ok : ∀ x s, updS S (k : Int) none x = some s → 1 ≤ s.1 ∧ s.1 ≤ 7 ∧ 1 ≤ s.2.1 ∧ s.2.1 < nx ∧ 0 ≤ s.2.2 := fun x s hx => by
    unfold updS at hx
    split at hx
    · cases hx
    · exact h.ok x s hx
  have hz : ((sz - 1 : Nat) : Int) < nx := by have := h.szn; omega
  have hBm : Mod (fpC p B ob og eb eg) w w' := hm.mono fun j hj => .inr (.inl hj)
  by_cases hlt : k < 4096
  · rw [if_pos hlt, if_pos hlt]
    refine .of (give_any h1 (k : Int)) ?_
    rintro v w'' ⟨rfl, h1', hm'⟩
    have eg' : giveH (occ S 0 4096) (k : Int) = occ (updS S (k : Int) none) 0 4096 := by
      have hin : InS (occ S 0 4096) (k : Int) := ⟨by omega, by rw [occ_len]; omega⟩
      rw [giveH, if_pos hin, Int.toNat_natCast, show false = (none : Option Sl).isSome from rfl, occ_set S hlt]
      simp only [Nat.zero_add]
    rw [eg'] at h1'
    refine q _ w'' ⟨hm'.keep hd (fun x => x.elim d2 d3), hi.keep hm' (fun x => x.elim d6 d7), h1', ?_, h.t0, h.n0, rng, ok, hz, h.d⟩ (Mod.trans hBm hm' (fun j _ hj => hj.elim (fun e => .inr (.inr (.inl e))) (fun e => .inr (.inr (.inr (.inl e))))))
    rw [occ_out _ (fun j hj => by omega)]
    exact h2.keep hm' (fun j hj x => by
      rcases hj with e | e <;> rcases x with f | f
      · exact d10 (by rw [← f, e])
      · exact d12 (by rw [← f, e])
      · exact d11 (by rw [← f, e])
      · exact d13 (by rw [← f, e]))
  · rw [if_neg hlt, if_neg hlt]
    refine .of (give_any h2 ((k : Int) - 4096)) ?_
    rintro v w'' ⟨rfl, h2', hm'⟩
    have eg' : giveH (occ S 4096 64) ((k : Int) - 4096) = occ (updS S (k : Int) none) 4096 64 := by
      have hin : InS (occ S 4096 64) ((k : Int) - 4096) := ⟨by omega, by rw [occ_len]; omega⟩
      have e : ((k : Int) - 4096).toNat = k - 4096 := by omega
      rw [giveH, if_pos hin, e, show false = (none : Option Sl).isSome from rfl, occ_set S (by omega)]
      rw [show ((4096 + (k - 4096) : Nat) : Int) = (k : Int) by omega]
    rw [eg'] at h2'
    refine q _ w'' ⟨hm'.keep hd (fun x => x.elim d4 d5), hi.keep hm' (fun x => x.elim d8 d9), ?_, h2', h.t0, h.n0, rng, ok, hz, h.d⟩ (Mod.trans hBm hm' (fun j _ hj => hj.elim (fun e => .inr (.inr (.inr (.inr (.inl e))))) (fun e => .inr (.inr (.inr (.inr (.inr e)))))))
    rw [occ_out _ (fun j hj => by omega)]
    exact h1.keep hm' (fun j hj x => by
      rcases hj with e | e <;> rcases x with f | f
      · exact d10 (by rw [← e, f])
      · exact d11 (by rw [← e, f])
      · exact d12 (by rw [← e, f])
      · exact d13 (by rw [← e, f]))

set_option maxRecDepth 20000 in
set_option maxHeartbeats 1000000 in
theorem revoke_core (h : CPw w p B ob og eb eg T nx S sz) (a : Int) : Calls Tryd.prog 15 #[.pointer (some ⟨p, 0, none⟩), .int .i64 a] w
    (Ret fun v w' => v = .int .i64 (revC S a 4160 : Int) ∧ CPw w' p B ob og eb eg T nx (revS S a 4160) (sz - revC S a 4160) ∧ Mod (fpC p B ob og eb eg) w w') := by
  refine VC.caps_Caps_Revoke.ok ?_
  unfold VC.caps_Caps_Revoke
  have next : ∀ {k : Nat} {w8 : World} {n : Int}, k < 4160 → CPw w8 p B ob og eb eg T nx (revS S a k) (sz - revC S a k) → (S (k : Int)).any (fun s => s.2.2 == a) = false → n = (revC S a k : Int) → n = (revC S a (k + 1) : Int) ∧ CPw w8 p B ob og eb eg T nx (revS S a (k + 1)) (sz - revC S a (k + 1)) := fun {k w8 n} hk h8 hm hn => by
    have e := revC_succ S a k
    rw [hm, if_neg (by decide), Nat.add_zero] at e
    rw [e, ← revS_miss hm]
    exact ⟨hn, h8⟩
  have hit : ∀ {k : Nat} {w8 : World} {n : Int}, k < 4160 → CPw w8 p B ob og eb eg T nx (updS (revS S a k) (k : Int) none) (sz - revC S a k - 1) → (S (k : Int)).any (fun s => s.2.2 == a) = true → n = (revC S a k : Int) → IntKind.i64.wrap (n + 1) = (revC S a (k + 1) : Int) ∧ CPw w8 p B ob og eb eg T nx (revS S a (k + 1)) (sz - revC S a (k + 1)) := fun {k w8 n} hk h8 hm hn => by
    have hle : revC S a k ≤ k := by
      unfold revC
      exact Nat.le_trans List.countP_le_length (by simp)
    have e := revC_succ S a k
    rw [hm, if_pos rfl] at e
    rw [e, ← revS_hit hm]
    refine ⟨by rw [hn, wrap_i64 (by omega) (by omega)]; rfl, ?_⟩
    rw [← Nat.sub_sub]
    exact h8
  have hbase : CPw w p B ob og eb eg T nx (revS S a 0) (sz - revC S a 0) := by
    rw [revS_zero]
    exact h
  refine ifB_false rfl ⟨fun n w1 => n = (revC S a 1 : Int) ∧ CPw w1 p B ob og eb eg T nx (revS S a 1) (sz - revC S a 1) ∧ Mod (fpC p B ob og eb eg) w w1, ?_, ?_⟩
  · simp only [someA]
    refine ⟨_, dcell hbase.head rfl, _, _, _, _, w, slot_look hbase.slots (i64_mk (by decide) (by decide)), al_intro fun b w9 hb hE9 hs9 hs9' => give3 hb fun w10 hb10 hm10 hs10 => ?_⟩
    have hE10 : Ext w w10 := hE9.new hm10 fun k hk => by omega
    have h10 := hbase.keep hE10 (fun _ _ x => x)
    have e0 := revS_at S a 0
    cases hS : S ((0 : Nat) : Int) with
    | none =>
      have hS' : revS S a 0 0 = none := by rw [show (0 : Int) = ((0 : Nat) : Int) from rfl, e0, hS]
      rw [hS']
      obtain ⟨q1, q2⟩ := next (k := 0) (n := 0) (by decide) h10 (by rw [hS]; rfl) rfl
      exact ifB_false rfl ⟨q1, q2, hE10.mod⟩
    | some s =>
      have hS' : revS S a 0 0 = some s := by rw [show (0 : Int) = ((0 : Nat) : Int) from rfl, e0, hS]
      rw [hS'] at hb10 ⊢
      refine ifB_true rfl ⟨_, dcell hb10 rfl, ifB_intro (fun ha => ?_) (fun ha => ?_)⟩
      · obtain ⟨w14, hr, hd, hq⟩ := rev_del h10 (k := 0) (by decide) (by rw [e0, hS]; rfl)
        refine ⟨_, dcell h10.head rfl, w14, hr, _, dcell hd rfl, hq fun v w18 h18 hm18 => ⟨_, rfl, ?_⟩⟩
        obtain ⟨q1, q2⟩ := hit (k := 0) (n := 0) (by decide) h18 (by rw [hS]; exact ha) rfl
        exact ⟨q1, q2, Mod.trans hE10.mod hm18 (fun _ _ x => x)⟩
      · obtain ⟨q1, q2⟩ := next (k := 0) (n := 0) (by decide) h10 (by rw [hS]; exact ha) rfl
        exact ⟨q1, q2, hE10.mod⟩
  rintro jv n w21 ⟨rfl, h21, hm21⟩
  refine ⟨fun m n i w22 => ∃ k : Nat, i = (k : Int) ∧ 1 ≤ k ∧ m + k = 4160 ∧ n = (revC S a k : Int) ∧ CPw w22 p B ob og eb eg T nx (revS S a k) (sz - revC S a k) ∧ Mod (fpC p B ob og eb eg) w w22, ⟨4159, 1, rfl, Nat.le_refl _, rfl, rfl, h21, hm21⟩, ?_⟩
  rintro m jv n i w22 ⟨k, rfl, hk1, hmk, rfl, h22, hm22⟩
  refine ifD (fun hge => ?_) (fun hge => ?_)
  · have e : k = 4160 := by omega
    rw [e] at h22
    rw [e]
    exact ⟨by trivial, h22, hm22⟩
  have hk : k < 4160 := by omega
  refine ⟨fun n w1 => n = (revC S a (k + 1) : Int) ∧ CPw w1 p B ob og eb eg T nx (revS S a (k + 1)) (sz - revC S a (k + 1)) ∧ Mod (fpC p B ob og eb eg) w w1, ?_, ?_⟩
  · simp only [someA]
    refine ⟨_, dcell h22.head rfl, _, _, _, _, w22, slot_look h22.slots (i64_mk (by omega) (by omega)), al_intro fun b w9 hb hE9 hs9 hs9' => give3 hb fun w10 hb10 hm10 hs10 => ?_⟩
    have hE10 : Ext w22 w10 := hE9.new hm10 fun k hk => by omega
    have h10 := h22.keep hE10 (fun _ _ x => x)
    have hm10 : Mod (fpC p B ob og eb eg) w w10 := Mod.trans hm22 hE10 (fun _ _ x => x.elim)
    have e0 := revS_at S a k
    cases hS : S (k : Int) with
    | none =>
      rw [hS] at e0
      rw [e0]
      obtain ⟨q1, q2⟩ := next (k := k) hk h10 (by rw [hS]; rfl) rfl
      exact ifB_false rfl ⟨q1, q2, hm10⟩
    | some s =>
      rw [hS] at e0
      rw [e0] at hb10 ⊢
      refine ifB_true rfl ⟨_, dcell hb10 rfl, ifB_intro (fun ha => ?_) (fun ha => ?_)⟩
      · obtain ⟨w14, hr, hd, hq⟩ := rev_del h10 (k := k) hk (by rw [e0]; rfl)
        have fin : ∀ (v : Int) (w18 : World), CPw w18 p B ob og eb eg T nx (updS (revS S a k) (k : Int) none) (sz - revC S a k - 1) → Mod (fpC p B ob og eb eg) w10 w18 → IntKind.i64.wrap ((revC S a k : Int) + 1) = (revC S a (k + 1) : Int) ∧ CPw w18 p B ob og eb eg T nx (revS S a (k + 1)) (sz - revC S a (k + 1)) ∧ Mod (fpC p B ob og eb eg) w w18 := fun v w18 h18 hm18 => by
          obtain ⟨q1, q2⟩ := hit (k := k) hk h18 (by rw [hS]; exact ha) rfl
          exact ⟨q1, q2, Mod.trans hm10 hm18 (fun _ _ x => x)⟩
        refine ⟨_, dcell h10.head rfl, w14, hr, ?_⟩
        rcases Nat.lt_or_ge k 4096 with hlt | hlt
        · rw [show decide ((k : Int) < 4096) = true from decide_eq_true (by omega)]
          refine ifB_true rfl ?_
          refine ⟨_, dcell hd rfl, ?_⟩
          have := hq (Q := fun v45 w46 => ∃ i47 : Int, v45 = .int .i64 i47 ∧ (IntKind.i64.wrap ((revC S a k : Int) + 1) = (revC S a (k + 1) : Int) ∧ CPw w46 p B ob og eb eg T nx (revS S a (k + 1)) (sz - revC S a (k + 1)) ∧ Mod (fpC p B ob og eb eg) w w46)) fun v w18 h18 hm18 => ⟨_, rfl, fin v w18 h18 hm18⟩
          have e1 : (if k < 4096 then ob else eb) = ob := if_pos hlt
          have e2 : (if k < 4096 then (k : Int) else (k : Int) - 4096) = (k : Int) := if_pos hlt
          rw [e1, e2] at this
          exact this
        · rw [show decide ((k : Int) < 4096) = false from decide_eq_false (by omega)]
          refine ifB_false rfl ?_
          refine ⟨_, dcell hd rfl, ?_⟩
          have := hq (Q := fun v45 w46 => ∃ i47 : Int, v45 = .int .i64 i47 ∧ (IntKind.i64.wrap ((revC S a k : Int) + 1) = (revC S a (k + 1) : Int) ∧ CPw w46 p B ob og eb eg T nx (revS S a (k + 1)) (sz - revC S a (k + 1)) ∧ Mod (fpC p B ob og eb eg) w w46)) fun v w18 h18 hm18 => ⟨_, rfl, fin v w18 h18 hm18⟩
          have e1 : (if k < 4096 then ob else eb) = eb := if_neg (Nat.not_lt.2 hlt)
          have e2 : (if k < 4096 then (k : Int) else (k : Int) - 4096) = (k : Int) - 4096 := if_neg (Nat.not_lt.2 hlt)
          rw [e1, e2] at this
          rw [wrap_i64 (n := (k : Int) - 4096) (by omega) (by omega)]
          exact this
      · obtain ⟨q1, q2⟩ := next (k := k) hk h10 (by rw [hS]; exact ha) rfl
        exact ⟨q1, q2, hm10⟩
  · rintro jv n' w54 ⟨rfl, h54, hm54⟩
    refine ⟨m - 1, by omega, k + 1, ?_, by omega, by omega, rfl, h54, hm54⟩
    rw [wrap_i64 (by omega) (by omega)]; rfl

end

theorem revoke_any {w : World} {p : Nat} {F : Nat → Prop} {T nx : Int} {S : Int → Option Sl} {sz : Nat} (h : CP w p F T nx S sz) (a : Int) : Calls Tryd.prog 15 #[.pointer (some ⟨p, 0, none⟩), .int .i64 a] w
    (Ret fun v w' => v = .int .i64 (revC S a 4160 : Int) ∧ CP w' p F T nx (revS S a 4160) (sz - revC S a 4160) ∧ Mod F w w') := by
  obtain ⟨B, ob, og, eb, eg, h, rfl⟩ := h
  refine call_mono (revoke_core h a) ?_
  rintro v w' ⟨rfl, h', hm⟩
  exact ⟨rfl, ⟨B, ob, og, eb, eg, h', rfl⟩, hm⟩

end Go.Proofs.YtkbgiflmecaffaaDoor
