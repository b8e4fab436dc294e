/- Contracts of the document's table of handles: put, Grant, Restrict, Revoke. Conditions: the list is there, and says what the slots say. -/
import Derived.Test.YtkbgiflmecaffaaDoorRefCaps3
import Derived.Laws.Slices
set_option linter.unusedVariables false
set_option linter.unusedSimpArgs false
namespace Go.Proofs.YtkbgiflmecaffaaDoor
open Go.RowKit

theorem run_sub3 (w : World) (p : Option Addr) (n c : Nat) {m : Nat} (h : m ≤ c) : ∃ p', (Instr.sliceAt 54 (.slice p n c) none (some (.int .i64 (m : Int))) (some (.int .i64 (m : Int)))).run Tryd.prog w = .ok (.slice p' m m) w ∧ (∀ g, p = some ⟨g, 0, none⟩ → p' = p) ∧ (p = none → p' = none) := by
  have he : Tryd.prog.elem 54 = 78 := by kernel_rfl
  have ht : Tryd.prog.underlying 54 = some (.slice (Tryd.prog.elem 54)) := by rw [he]; exact elemR.slice
  obtain ⟨i, z, hi, hz, hs, hby, hzs⟩ := elemR.info
  have hsz : (sizeOf (Tryd.prog.elem 54)).run Tryd.prog w = .ok 5 w := by
    rw [he, run_sizeOf' hi, hs]
  refine ⟨if m = 0 then p else p.map (·.add (0 * 5)), ?_, fun g hg => ?_, fun hg => ?_⟩
  · rw [run_sliceAt_slice w _ _ _ _ _ ht, run_slice_hm w _ p n c ht .i64 .i64 (m : Int) (m : Int) (by omega) (Int.le_refl _) (by omega), hsz]
    simp only [Result.andThen, sliced, Int.toNat_natCast, Nat.sub_zero]
  · subst hg
    split
    · rfl
    · show some ((Addr.mk g 0 none).add (0 * 5)) = _
      rw [add_mk]
  · subst hg
    split <;> rfl

section
variable {w : World} {q : Nat} {F : Nat → Prop} {T nx : Int} {S : Int → Option Sl} {L : List Rl}

theorem RC.shape (h : RC w q F T nx L) : ∃ pp cc, RCw w q (.slice pp L.length cc) T nx L ∧ F = (fun k => k = q ∨ (Value.slice pp L.length cc).ownBlock = some k) ∧ (pp = none ∨ ∃ g, pp = some ⟨g, 0, none⟩) := by
  obtain ⟨v, h, rfl⟩ := h
  obtain ⟨pp, cc, rfl⟩ := h.row.shape
  refine ⟨pp, cc, h, rfl, ?_⟩
  rcases h.row.2 with ⟨hv, _⟩ | ⟨g, _, _, hv, _⟩
  · exact .inl (Value.slice.inj hv).1
  · exact .inr ⟨g, (Value.slice.inj hv).1⟩

set_option maxHeartbeats 2000000 in
theorem rput_any (h : RC w q F T nx L) (hrel : Rel T S L) (t0 : 0 ≤ T ∧ T ≤ 7) (n0 : 1 ≤ nx ∧ nx ≤ 17592186044416) (hl : L.length ≤ 100000) {base n : Nat} (hbn : base + n ≤ 4160) {a r : Int} (hr : 1 ≤ r ∧ r ≤ 7) :
    Calls Tryd.prog 31 #[.pointer (some ⟨q, 0, none⟩), .int .i64 (base : Int), .int .i64 ((base + n : Nat) : Int), .int .i64 a, .int .i64 r] w
      (Ret fun v w' => v = putV T S base n nx r ∧ ∃ L', Rel T (putS S base n nx r a) L' ∧ L'.length = putZ S base n nx L.length ∧ RPost w q F T (putN S base n nx) L' w') := by
  refine VC.garthref10_Caps_put.ok ?_
  unfold VC.garthref10_Caps_put
  obtain ⟨pp, cc, hw, rfl, hpp⟩ := h.shape
  clear h
  have h := hw
  clear hw
  have rowAt : ∀ (i : Nat) y, L[i]? = some y → ∃ a, pp = some a ∧ CellsAt w (a.add (i * 5)) (rlF y) := fun i y hy => h.row.cells rlF_len hy
  refine ⟨fun i s w1 => w1 = w ∧ ∃ m k : Nat, i = (m : Int) ∧ s = ((base + k : Nat) : Int) ∧ m ≤ L.length ∧ k ≤ m ∧ (∀ (j : Nat) y, j < m → L[j]? = some y → y.2.1 < ((base + k : Nat) : Int)) ∧ (∀ (j : Nat) y, m ≤ j → L[j]? = some y → ((base + k : Nat) : Int) < y.2.1) ∧ (∀ j : Nat, j < k → (S ((base + j : Nat) : Int)).isSome = true), ?_, ?_⟩
  · refine ⟨fun z i s w1 => w1 = w ∧ ∃ m k : Nat, i = (m : Int) ∧ s = ((base + k : Nat) : Int) ∧ z + m = L.length ∧ k ≤ m ∧ (∀ (j : Nat) y, j < m → L[j]? = some y → y.2.1 < ((base + k : Nat) : Int)) ∧ (∀ j : Nat, j < k → (S ((base + j : Nat) : Int)).isSome = true), ⟨L.length, rfl, 0, 0, rfl, rfl, rfl, Nat.le_refl _, fun j y hj => by omega, fun j hj => by omega⟩, ?_⟩
    rintro z jv i s w1 ⟨rfl, m, k, rfl, rfl, hz, hkm, hlow, hocc⟩
    simp only [someA]
    refine ⟨_, _, _, dcell h.head rfl, ifB_intro (fun hlt => ?_) (fun hge => ?_)⟩
    · have hlt := of_decide_eq_true hlt
      obtain ⟨y, hy⟩ : ∃ y, L[m]? = some y := ⟨_, List.getElem?_eq_getElem (by omega)⟩
      obtain ⟨ad, rfl, hc⟩ := rowAt m y hy
      have c1 := hc 1 _ rfl
      have cell1 : w1.cell? (((ad.add (m * 5)).add 0).add 1) = some (.int .i64 y.2.1) := by rw [Addr.add_add, Addr.add_add]; rw [Addr.add_add] at c1; exact c1
      rw [Int.toNat_natCast]
      refine ⟨_, _, _, dcell h.head rfl, by omega, hlt, _, cell1, ifB_intro (fun hle => ?_) (fun hgt => ?_)⟩
      · have hle := of_decide_eq_true hle
        have ei : IntKind.i64.wrap ((m : Int) + 1) = ((m + 1 : Nat) : Int) := by rw [wrap_i64 (by omega) (by omega)]; rfl
        refine ⟨fun s' w2 => w2 = w1 ∧ ((y.2.1 = ((base + k : Nat) : Int) ∧ s' = ((base + (k + 1) : Nat) : Int)) ∨ (y.2.1 ≠ ((base + k : Nat) : Int) ∧ s' = ((base + k : Nat) : Int))), ⟨_, _, _, dcell h.head rfl, by omega, hlt, _, cell1, ifB_intro (fun he => ?_) (fun he => ?_)⟩, ?_⟩
        · have he : y.2.1 = ((base + k : Nat) : Int) := by simpa using he
          exact ⟨rfl, .inl ⟨he, by rw [wrap_i64 (by omega) (by omega)]; omega⟩⟩
        · have he : y.2.1 ≠ ((base + k : Nat) : Int) := by simpa using he
          exact ⟨rfl, .inr ⟨he, rfl⟩⟩
        · rintro jv s' w2 ⟨rfl, ⟨he, rfl⟩ | ⟨he, rfl⟩⟩
          · refine ⟨z - 1, by omega, rfl, m + 1, k + 1, ei, rfl, by omega, by omega, fun j x hj hx => ?_, fun j hj => ?_⟩
            · by_cases e : j = m
              · subst e
                rw [hy] at hx
                obtain rfl := Option.some.inj hx
                omega
              · have := hlow j x (by omega) hx
                omega
            · by_cases e : j = k
              · subst e
                have hyL := List.mem_of_getElem? hy
                have : S ((base + j : Nat) : Int) = some y.2.2 := (hrel.mem _ _).2 (by rw [← he, ← hrel.ten y hyL]; exact hyL)
                rw [this]; rfl
              · exact hocc j (by omega)
          · refine ⟨z - 1, by omega, rfl, m + 1, k, ei, rfl, by omega, by omega, fun j x hj hx => ?_, hocc⟩
            by_cases e : j = m
            · subst e
              rw [hy] at hx
              obtain rfl := Option.some.inj hx
              omega
            · exact hlow j x (by omega) hx
      · have hgt := of_decide_eq_false hgt
        refine ⟨by trivial, m, k, rfl, rfl, by omega, hkm, hlow, fun j x hj hx => ?_, hocc⟩
        by_cases e : j = m
        · subst e
          rw [hy] at hx
          obtain rfl := Option.some.inj hx
          omega
        · have := hrel.lt (show m < j by omega) hy hx
          omega
    · have hge := of_decide_eq_false hge
      refine ⟨by trivial, m, k, rfl, rfl, by omega, hkm, hlow, fun j x hj hx => ?_, hocc⟩
      have := (List.getElem?_eq_some_iff.1 hx).1
      omega
  rintro jv i s w1 ⟨rfl, m, k, rfl, rfl, hmL, hkm, hlow, hhigh, hocc⟩
  have hfree : S ((base + k : Nat) : Int) = none := by
    cases hS : S ((base + k : Nat) : Int) with
    | none => rfl
    | some s =>
      obtain ⟨j, hj⟩ := List.mem_iff_getElem?.1 ((hrel.mem _ _).1 hS)
      by_cases e : j < m
      · have := hlow j _ e hj; simp only at this; omega
      · have := hhigh j _ (by omega) hj; simp only at this; omega
  have none' : putK S base n nx = none → (Value.tuple #[.int .u64 0, .int .i64 10]) = putV T S base n nx r ∧ ∃ L', Rel T (putS S base n nx r a) L' ∧ L'.length = putZ S base n nx L.length ∧ RPost w1 q (fun k => k = q ∨ (Value.slice pp L.length cc).ownBlock = some k) T (putN S base n nx) L' w1 := fun e => by
    obtain ⟨p1, p2, p3, p4⟩ := putR_none (T := T) (r := r) (a := a) (sz := L.length) e
    rw [p1, p2, p3, p4]
    exact ⟨rfl, L, hrel, rfl, _, ⟨_, h, rfl⟩, Mod.refl _ _, fun k hk => .inl hk⟩
  refine ifB_intro (fun hge => none' (putK_full fun j hj => hocc j (by have := of_decide_eq_true hge; omega))) (fun hlt => ?_)
  have hlt := of_decide_eq_false hlt
  have hkn : k < n := by omega
  simp only [someA]
  refine ⟨_, dcell h.head rfl, ifB_intro (fun hge => none' (if_pos (of_decide_eq_true hge))) (fun hmax => ?_)⟩
  have hmax := of_decide_eq_false hmax
  have hK : putK S base n nx = some k := putK_at (by omega) hkn hfree hocc
  obtain ⟨p1, p2, p3, p4⟩ := putR_some (T := T) (r := r) (a := a) (sz := L.length) hK
  have key : Hd.KeyOk T ((base + k : Nat) : Int) r nx := ⟨t0.1, t0.2, by omega, by omega, hr.1, hr.2, n0.1, by omega⟩
  rintro w2 rfl
  have hE2 := Ext.drew w1
  have hd2 := hE2.keep h.head
  refine ⟨_, dcell hd2 rfl, _, dcell hd2 rfl, by trivial, al_intro fun kb w3 hkb hE3 hs3 hs3' => ?_⟩
  have hd3 := hE3.keep hd2
  refine ⟨⟨by trivial, by trivial⟩, ⟨_, dcell hd3 rfl, rfl⟩, ⟨_, dcell hd3 rfl, rfl⟩, ?_⟩
  refine wr_intro (b := kb) (n := 4) hkb (by simp) fun w4 hkb4 hm4 hs4 => ?_
  have hkb4 : w4.heap[kb]? = some (.cells #[.int .i64 T, .int .i64 ((base + k : Nat) : Int), .int .i64 r, .int .i64 nx] 45 (0, 0)) := hkb4
  have hq2 := lt_of_blk hd2
  have hd4 := hm4.keep hd3 (by omega)
  refine ⟨_, dcell hd4 rfl, ?_⟩
  refine wr_intro (b := q) (n := 1) hd4 (by simp) fun w5 hd5 hm5 hs5 => ?_
  have enx : IntKind.i64.wrap (nx + 1) = nx + 1 := wrap_i64 (by omega) (by omega)
  rw [enx] at hd5
  have hd5 : w5.heap[q]? = some (.cells #[.int .i64 T, .int .i64 (nx + 1), .slice pp L.length cc] 56 (0, 0)) := hd5
  have hkb5 := hm5.keep hkb4 (by omega)
  have hE14 : Ext w1 w4 := (hE2.trans hE3).new hm4 (fun j hj => by have := hE2.size; omega)
  have hrow4 := h.row.keep (Ext.mod (F := fun _ => False) hE14) (fun _ _ x => x)
  have hrow5 := hrow4.keep hm5 (fun j hj e => h.ne (by rw [hj, e]))
  have s14 := hE14.size
  refine al_intro fun eb w6 heb hE6 hs6 hs6' => ?_
  have hd6 := hE6.keep hd5
  have hrow6 := hrow5.keep (Ext.mod (F := fun _ => False) hE6) (fun _ _ x => x)
  have hkb6 := hE6.keep hkb5
  have hcap := hrow6.cap
  have hnil : ORow w6 78 5 rlF (.slice (some ⟨eb, 0, none⟩) 0 0) [] := ⟨by simp, .inr ⟨eb, 0, #[], rfl, Nat.zero_le _, heb, Nat.le_refl _, by decide, rfl, by simp⟩⟩
  obtain ⟨rp, rc, w7, hr7, hrest7, hm7, hrn⟩ := ORow.rest elemR rlF_len rlF_one hnil hrow6 hmL 54 (by simp only [maxLen, List.length_nil]; omega) (by simp only [List.length_nil]; omega) (by decide)
  simp only [List.length_nil, Nat.zero_add, List.nil_append] at hr7 hrest7 hrn
  refine ⟨_, _, _, dcell hd6 rfl, by omega, by omega, by omega, rp, L.length - m, rc, w7, ?_, ?_⟩
  · rw [Int.toNat_natCast, Int.toNat_natCast]; exact hr7
  have ebq : eb ≠ q := by have := lt_of_blk hd5; omega
  have ekb : eb ≠ kb := by have := lt_of_blk hkb5; omega
  have hm7' : Mod (fun j => j = eb) w6 w7 := hm7.mono fun j hj => by simpa [Value.ownBlock] using hj.symm
  have hd7 := hm7'.keep hd6 (fun e => ebq e.symm)
  have hkb7 := hm7'.keep hkb6 (fun e => ekb e.symm)
  have hrow7 := hrow6.keep hm7' (fun j hj e => by have := hrow5.lt j hj; omega)
  rintro w8 rfl
  have hE8 := Ext.drew w7
  have hd8 := hE8.keep hd7
  have hkb8 := hE8.keep hkb7
  have hrow8 := hrow7.keep (Ext.mod (F := fun _ => False) hE8) (fun _ _ x => x)
  have hrest8 := hrest7.keep (Ext.mod (F := fun _ => False) hE8) (fun _ _ x => x)
  obtain ⟨sp, hsub8, hsp, hsp0⟩ := run_sub3 w7.drew pp L.length cc (m := m) (by omega)
  have espp : sp = pp := by
    rcases hpp with e | ⟨g, e⟩
    · rw [hsp0 e, e]
    · exact hsp g e
  subst espp
  refine ⟨_, _, _, dcell hd8 rfl, sp, m, m, w7.drew, hsub8, rfl, _, _, _, _, cells_all (vs := [_, _, _, _]) hkb8, by trivial, al_intro fun xb w9 hxb hE9 hs9 hs9' => ?_⟩
  obtain ⟨sp', hsub9, hsp', hsp0'⟩ := run_sub3 w9 sp L.length cc (m := m) (by omega)
  have espp' : sp' = sp := by
    rcases hpp with e | ⟨g, e⟩
    · rw [hsp0' e, e]
    · exact hsp' g e
  subst espp'
  have hd9 := hE9.keep hd8
  have hkb9 := hE9.keep hkb8
  have hrow9 := hrow8.keep (Ext.mod (F := fun _ => False) hE9) (fun _ _ x => x)
  have hrest9 := hrest8.keep (Ext.mod (F := fun _ => False) hE9) (fun _ _ x => x)
  refine ⟨⟨_, _, _, w9, hsub9, rfl, rfl⟩, ⟨_, _, _, dcell hd9 rfl, rfl⟩, ?_⟩
  obtain ⟨np, nc, w10, hr10, hnew10, hE10, hnn⟩ := ORow.full elemR rlF_len hrow9 hmL 54 ⟨xb, 0, none⟩ 1 (T, ((base + k : Nat) : Int), (r, nx, a)) (cells_all (vs := [_, _, _, _, _]) hxb) (by simp only [maxLen]; omega) (by omega) rlF_one
  refine ⟨np, m + 1, nc, w10, hr10, ?_⟩
  have hrest10 := hrest9.keep (Ext.mod (F := fun _ => False) hE10) (fun _ _ x => x)
  have hlt1 : (L.take m ++ [(T, ((base + k : Nat) : Int), (r, nx, a))]).length = m + 1 := by simp; omega
  have hdl : (L.drop m).length = L.length - m := by simp
  -- the rest behind it
  have last : ∃ (fp : Option Addr) (fc : Nat) (w11 : World), (Builtin.append_ #[54, 54] 54 #[.slice np (m + 1) nc, .slice rp (L.length - m) rc]).run Tryd.prog w10 = .ok (.slice fp (L.length + 1) fc) w11 ∧
      ORow w11 78 5 rlF (.slice fp (L.length + 1) fc) ((L.take m ++ [(T, ((base + k : Nat) : Int), (r, nx, a))]) ++ L.drop m) ∧ Mod (fun b => (Value.slice np (m + 1) nc).ownBlock = some b) w10 w11 ∧ ∀ b, (Value.slice fp (L.length + 1) fc).ownBlock = some b → (Value.slice np (m + 1) nc).ownBlock = some b ∨ w10.heap.size ≤ b := by
    obtain ⟨fp, fc, w11, ha, hb, hc, hd⟩ := ORow.rest elemR rlF_len rlF_one hnew10 hrest10 (m := 0) (Nat.zero_le _) 54 (by rw [hlt1, hdl]; simp only [maxLen]; omega) (by rw [hlt1, hdl]; omega) (by decide)
    have e1 : (L.take m ++ [(T, ((base + k : Nat) : Int), (r, nx, a))]).length + ((L.drop m).length - 0) = L.length + 1 := by rw [hlt1, hdl]; omega
    rw [e1, List.drop_zero] at hb
    rw [e1] at ha hd
    refine ⟨fp, fc, w11, ?_, hb, hc, hd⟩
    have e2 : subA rp 0 rc 5 = rp := by
      unfold subA
      split
      · rfl
      · cases rp with
        | none => rfl
        | some ra =>
          rcases hrest10.2 with ⟨hv, _⟩ | ⟨g, _, _, hv, _⟩
          · cases (Value.slice.inj hv).1
          · obtain rfl := Option.some.inj (Value.slice.inj hv).1
            show some ((Addr.mk g 0 none).add (0 * 5)) = _
            rw [add_mk]
    rw [e2, Nat.sub_zero, Nat.sub_zero] at ha
    exact ha
  obtain ⟨fp, fc, w11, hr11, hfin11, hm11, hfn⟩ := last
  refine ⟨fp, L.length + 1, fc, w11, hr11, ?_⟩
  have s5 : w1.heap.size ≤ w5.heap.size := by omega
  have hqlt := lt_of_blk h.head
  have sE6 := hE6.size
  have s7 := hm7.size
  have s9 := hE9.size
  have s10 := hE10.size
  have s8 := hE8.size
  have hown11 : ∀ b, (Value.slice fp (L.length + 1) fc).ownBlock = some b → w9.heap.size ≤ b := fun b hb => by
    rcases hfn b hb with e | e
    · exact hnn b e
    · omega
  have hd11 := hm11.keep (hE10.keep hd9) (fun e => by have := hnn q e; omega)
  have hkb11 := hm11.keep (hE10.keep hkb9) (fun e => by have := hnn kb e; have := lt_of_blk hkb9; omega)
  refine wr_intro (b := q) (n := 1) hd11 (by simp) fun w12 hd12 hm12 hs12 => ?_
  have hd12 : w12.heap[q]? = some (.cells #[.int .i64 T, .int .i64 (nx + 1), .slice fp (L.length + 1) fc] 56 (0, 0)) := hd12
  have hfin12 := hfin11.keep hm12 (fun b hb e => by have := hown11 b hb; omega)
  have hkb12 := hm12.keep hkb11 (by omega)
  refine ⟨_, _, _, _, cells_all (vs := [_, _, _, _]) hkb12, .of (Hd.refpack_any _ _ _ _ w12) ?_⟩
  rw [if_pos key, if_pos key]
  rintro v w13 ⟨rfl, hE13⟩
  have hll : ((L.take m ++ [(T, ((base + k : Nat) : Int), (r, nx, a))]) ++ L.drop m).length = L.length + 1 := by rw [List.length_append, hlt1, hdl]; omega
  refine ⟨_, _, rfl, by rw [p1], _, by rw [p2]; exact hrel.insert hfree hlow hhigh, by rw [p4]; exact hll, ?_⟩
  rw [p3]
  refine ⟨_, ⟨.slice fp (L.length + 1) fc, ⟨hE13.keep hd12, hfin12.keep (Ext.mod (F := fun _ => False) hE13) (fun _ _ x => x), fun e => ?_⟩, rfl⟩, ?_, ?_⟩
  · have := hown11 q e; omega
  · have m5 : Mod (fun j => j = q) w1 w5 := Mod.trans (hE14.mod (F := fun j => j = q)) hm5 (fun _ _ x => x)
    have m7 : Mod (fun j => j = q) w1 w7 := Mod.trans (Mod.trans m5 (hE6.mod (F := fun j => j = q)) (fun _ _ x => x)) hm7' (fun j hj e => by omega)
    have m10 : Mod (fun j => j = q) w1 w10 := Mod.trans m7 ((hE8.trans hE9).trans hE10) (fun _ _ x => x.elim)
    have m11 : Mod (fun j => j = q) w1 w11 := Mod.trans m10 hm11 (fun j hj e => by have := hnn j e; omega)
    have m13 : Mod (fun j => j = q) w1 w13 := Mod.trans (Mod.trans m11 hm12 (fun _ _ x => x)) hE13 (fun _ _ x => x.elim)
    exact m13.mono fun j hj => .inl hj
  · rintro j (e | e)
    · exact .inl (.inl e)
    · have := hown11 j e; exact .inr (by omega)

end

end Go.Proofs.YtkbgiflmecaffaaDoor
