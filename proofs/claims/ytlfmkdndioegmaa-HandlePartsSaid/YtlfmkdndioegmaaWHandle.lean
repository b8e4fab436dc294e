/- The five statements of layer 9: each returns true. Conditions: numbers fit their kinds. -/
import Derived.Test.YtlfmkdndioegmaaHandle
set_option linter.unusedVariables false
set_option linter.unusedSimpArgs false
namespace Go.Proofs.Ytlfmkdndioegmaa
open Go.RowKit

/-- It returns true, and nothing of w has turned. -/
abbrev Yes (w : World) (v : Value) (w' : World) : Prop := v = .bool true ∧ Ext w w'

theorem walk_HandlePacks (t s r n : Int) (_ : I64 t) (_ : I64 s) (_ : I64 r) (_ : I64 n) (w : World) : Calls Try.prog 3 #[.agg #[.int .i64 t, .int .i64 s, .int .i64 r, .int .i64 n]] w
    (Ret fun v w' => v = .bool true ∧ Ext w w') := by
  refine VC.garthlaw09_HandlePacks.ok ?_
  simp only [VC.garthlaw09_HandlePacks, add_mk, Nat.zero_add, Nat.add_zero]
  refine al_intro fun b w1 hb hE1 _ _ => ?_
  refine ⟨t, s, r, n, cells_all hb, .of (pack_any t s r n w1) ?_⟩
  rintro v w2 ⟨rfl, hE2⟩
  have hb2 := hE2.keep hb
  refine ⟨_, _, rfl, t, s, r, n, cells_all hb2, .of (refpack_any t s r n w2) ?_⟩
  rintro v w3 ⟨rfl, hE3⟩
  refine ⟨_, _, rfl, .of (hawake_any w3) ?_⟩
  rintro v w4 ⟨rfl, hE4⟩
  have hb4 := hE4.keep (hE3.keep hb2)
  refine ⟨_, rfl, ifB_true rfl (ifB_true (by simp) (ifB_true (by simp) ?_))⟩
  refine ⟨t, s, r, n, cells_all hb4, .of (check_any t s r n w4) ?_⟩
  rintro v w5 ⟨rfl, hE5⟩
  exact ⟨_, rfl, by simp, (((hE1.trans hE2).trans hE3).trans hE4).trans hE5⟩

theorem run_key_eq (a b c d a' b' c' d' : Int) (w : World) :
    (binOp .eql 23 (.agg #[.int .i64 a, .int .i64 b, .int .i64 c, .int .i64 d]) (.agg #[.int .i64 a', .int .i64 b', .int .i64 c', .int .i64 d'])).run Try.prog w =
      .ok (.bool (a == a' && (b == b' && (c == c' && d == d')))) w := by
  have hu : Try.prog.underlying 3 = some (.int .i64) := by kernel_rfl
  have h := run_eq_struct (P := Try.prog) (w := w) (t := 23) (xs := #[.int .i64 a, .int .i64 b, .int .i64 c, .int .i64 d]) (ys := #[.int .i64 a', .int .i64 b', .int .i64 c', .int .i64 d'])
    (l := [(⟨ "Tenant", 3, 0, false, "", "", 0⟩, a == a'), (⟨ "Slot", 3, 1, false, "", "", 8⟩, b == b'), (⟨ "Rights", 3, 2, false, "", "", 16⟩, c == c'), (⟨ "Serial", 3, 3, false, "", "", 24⟩, d == d')])
    (by kernel_rfl) (by kernel_rfl) (by kernel_rfl) (by
      intro p hp
      simp only [List.mem_cons, List.mem_nil_iff, or_false] at hp
      rcases hp with rfl | rfl | rfl | rfl
      · exact ⟨by simp, _, _, run_part' hu rfl rfl w, run_part' hu rfl rfl w, run_equalIn_int w 9998 3 .i64 .i64 _ _ hu⟩
      · exact ⟨by simp, _, _, run_part' hu rfl rfl w, run_part' hu rfl rfl w, run_equalIn_int w 9998 3 .i64 .i64 _ _ hu⟩
      · exact ⟨by simp, _, _, run_part' hu rfl rfl w, run_part' hu rfl rfl w, run_equalIn_int w 9998 3 .i64 .i64 _ _ hu⟩
      · exact ⟨by simp, _, _, run_part' hu rfl rfl w, run_part' hu rfl rfl w, run_equalIn_int w 9998 3 .i64 .i64 _ _ hu⟩)
  rw [h.1]
  simp

theorem unpack_shape (h : Int) : ∃ a b c d e : Int, unpackV h = .tuple #[.agg #[.int .i64 a, .int .i64 b, .int .i64 c, .int .i64 d], .int .i64 e] ∧
    ((HOk h ∧ a = uT h ∧ b = uS h ∧ c = uR h ∧ d = uN h ∧ e = 0) ∨ (¬ HOk h ∧ a = 0 ∧ b = 0 ∧ c = 0 ∧ d = 0 ∧ e = 5)) := by
  by_cases hk : HOk h
  · exact ⟨_, _, _, _, _, by rw [unpackV, if_pos hk], .inl ⟨hk, rfl, rfl, rfl, rfl, rfl⟩⟩
  · exact ⟨_, _, _, _, _, by rw [unpackV, if_neg hk], .inr ⟨hk, rfl, rfl, rfl, rfl, rfl⟩⟩

theorem walk_HandleUnpacks (h : Int) (hu : U64 h) (w : World) : Calls Try.prog 4 #[.int .u64 h] w (Ret fun v w' => v = .bool true ∧ Ext w w') := by
  refine VC.garthlaw09_HandleUnpacks.ok ?_
  simp only [VC.garthlaw09_HandleUnpacks, add_mk, Nat.zero_add, Nat.add_zero]
  refine .of (unpack_any h hu w) ?_
  rintro v w1 ⟨rfl, hE1⟩
  obtain ⟨a, b, c, d, e, hv, _⟩ := unpack_shape h
  rw [hv]
  refine ⟨a, b, c, d, e, rfl, ?_⟩
  refine al_intro fun x w2 hx hE2 hs2 _ => ?_
  refine wr_intro hx (by simp) fun w3 hx3 hM3 hs3 => ?_
  have hE3 : Ext w w3 := Ext.new (hE1.trans hE2) hM3 (by have := hE1.size; intro k hk; omega)
  refine .of (refunpack_any h hu w3) ?_
  rintro v w4 ⟨rfl, hE4⟩
  rw [hv]
  have hx4 := hE4.keep hx3
  refine ⟨a, b, c, d, e, rfl, ?_⟩
  refine al_intro fun y w5 hy hE5 hs5 _ => ?_
  refine wr_intro hy (by simp) fun w6 hy6 hM6 hs6 => ?_
  have hx6 := hM6.keep (hE5.keep hx4) (by have := lt_of_blk hx4; omega)
  have hE6 : Ext w w6 := Ext.new ((hE3.trans hE4).trans hE5) hM6 (by have := hE3.size; have := hE4.size; intro k hk; omega)
  refine .of (hawake_any w6) ?_
  rintro v w7 ⟨rfl, hE7⟩
  refine ⟨_, rfl, ifB_true rfl ?_⟩
  refine ⟨a, b, c, d, cells_all (hE7.keep hx6), a, b, c, d, cells_all (hE7.keep hy6), _, _, run_key_eq _ _ _ _ _ _ _ _ _, ?_⟩
  exact ifB_true (by simp) ⟨by simp, hE6.trans hE7⟩

theorem unpack_pack {t s r n : Int} (h : KeyOk t s r n) : U64 (packV t s r n) ∧ HOk (packV t s r n) ∧ uT (packV t s r n) = t ∧ uS (packV t s r n) = s ∧ uR (packV t s r n) = r ∧ uN (packV t s r n) = n := by
  obtain ⟨h0, h1, h2, h3, h4, h5, h6, h7⟩ := h
  have e1 : uT (packV t s r n) = t := by simp only [uT, packV]; omega
  have e2 : uS (packV t s r n) = s := by simp only [uS, packV]; omega
  have e3 : uR (packV t s r n) = r := by simp only [uR, packV]; omega
  have e4 : uN (packV t s r n) = n := by simp only [uN, packV]; omega
  refine ⟨by simp only [packV]; omega, ?_, e1, e2, e3, e4⟩
  unfold HOk
  rw [e1, e2, e3, e4]
  exact ⟨h0, h1, h2, h3, h4, h5, h6, h7⟩

theorem walk_HandleBack (t s r n : Int) (_ : I64 t) (_ : I64 s) (_ : I64 r) (_ : I64 n) (w : World) : Calls Try.prog 5 #[.agg #[.int .i64 t, .int .i64 s, .int .i64 r, .int .i64 n]] w
    (Ret fun v w' => v = .bool true ∧ Ext w w') := by
  refine VC.garthlaw09_HandleBack.ok ?_
  simp only [VC.garthlaw09_HandleBack, add_mk, Nat.zero_add, Nat.add_zero]
  refine al_intro fun b w1 hb hE1 _ _ => ?_
  refine ⟨t, s, r, n, cells_all hb, .of (pack_any t s r n w1) ?_⟩
  rintro v w2 ⟨rfl, hE2⟩
  have hb2 := hE2.keep hb
  refine ⟨_, _, rfl, ?_⟩
  by_cases hk : KeyOk t s r n
  · rw [if_pos hk, if_pos hk]
    obtain ⟨hu, ho, e1, e2, e3, e4⟩ := unpack_pack hk
    refine ifB_false rfl ?_
    refine .of (unpack_any _ hu w2) ?_
    rintro v w3 ⟨rfl, hE3⟩
    rw [unpackV, if_pos ho, e1, e2, e3, e4]
    refine ⟨t, s, r, n, 0, rfl, ?_⟩
    refine al_intro fun x w4 hx hE4 hs4 _ => ?_
    refine wr_intro hx (by simp) fun w5 hx5 hM5 hs5 => ?_
    have hb5 := hM5.keep (hE4.keep (hE3.keep hb2)) (by have := lt_of_blk (hE3.keep hb2); omega)
    have hE5 : Ext w w5 := Ext.new (((hE1.trans hE2).trans hE3).trans hE4) hM5 (by have := hE1.size; have := hE2.size; have := hE3.size; intro k hk; omega)
    refine .of (hawake_any w5) ?_
    rintro v w6 ⟨rfl, hE6⟩
    refine ⟨_, rfl, ifB_true rfl (ifB_true rfl ?_)⟩
    refine ⟨t, s, r, n, cells_all (hE6.keep hx5), t, s, r, n, cells_all (hE6.keep hb5), _, _, run_key_eq _ _ _ _ _ _ _ _ _, by simp, hE5.trans hE6⟩
  · rw [if_neg hk, if_neg hk]
    refine ifB_true rfl (.of (hawake_any w2) ?_)
    rintro v w3 ⟨rfl, hE3⟩
    exact ⟨_, rfl, ifB_true rfl ⟨rfl, (hE1.trans hE2).trans hE3⟩⟩

theorem pack_unpack {h : Int} (hu : U64 h) : packV (uT h) (uS h) (uR h) (uN h) = h := by
  simp only [packV, uT, uS, uR, uN]; omega

theorem pack_inj {t s r n t' s' r' n' : Int} (h : KeyOk t s r n) (h' : KeyOk t' s' r' n') :
    (packV t s r n == packV t' s' r' n') = (t == t' && (s == s' && (r == r' && n == n'))) := by
  rw [Bool.eq_iff_iff]
  simp only [beq_iff_eq, Bool.and_eq_true]
  constructor
  · intro e
    obtain ⟨_, _, e1, e2, e3, e4⟩ := unpack_pack h
    obtain ⟨_, _, f1, f2, f3, f4⟩ := unpack_pack h'
    rw [e] at e1 e2 e3 e4
    exact ⟨e1.symm.trans f1, e2.symm.trans f2, e3.symm.trans f3, e4.symm.trans f4⟩
  · rintro ⟨rfl, rfl, rfl, rfl⟩
    rfl

set_option maxHeartbeats 1000000 in
theorem walk_HandleOne (h : Int) (hu : U64 h) (t s r n : Int) (_ : I64 t) (_ : I64 s) (_ : I64 r) (_ : I64 n) (t' s' r' n' : Int) (_ : I64 t') (_ : I64 s') (_ : I64 r') (_ : I64 n') (w : World) :
    Calls Try.prog 6 #[.int .u64 h, .agg #[.int .i64 t, .int .i64 s, .int .i64 r, .int .i64 n], .agg #[.int .i64 t', .int .i64 s', .int .i64 r', .int .i64 n']] w
    (Ret fun v w' => v = .bool true ∧ Ext w w') := by
  refine VC.garthlaw09_HandleOne.ok ?_
  simp only [VC.garthlaw09_HandleOne, add_mk, Nat.zero_add, Nat.add_zero]
  refine al_intro fun b w1 hb hE1 hs0 hs1 => ?_
  refine al_intro fun c w2 hc hE2 hs2 hs3 => ?_
  have hb2 := hE2.keep hb
  refine .of (unpack_any h hu w2) ?_
  rintro v w3 ⟨rfl, hE3⟩
  obtain ⟨x1, x2, x3, x4, x5, hv, hx⟩ := unpack_shape h
  rw [hv]
  refine ⟨x1, x2, x3, x4, x5, rfl, ?_⟩
  refine al_intro fun d w4 hd hE4 hs4 _ => ?_
  refine wr_intro hd (by simp) fun w5 hd5 hM5 hs5 => ?_
  have hb5 := hM5.keep (hE4.keep (hE3.keep hb2)) (by have := lt_of_blk (hE3.keep hb2); omega)
  have hc5 := hM5.keep (hE4.keep (hE3.keep hc)) (by have := lt_of_blk (hE3.keep hc); omega)
  have hE5 : Ext w w5 := Ext.new (((hE1.trans hE2).trans hE3).trans hE4) hM5 (by have := hE1.size; have := hE2.size; have := hE3.size; intro k hk; omega)
  clear hM5 hE4 hE3
  rcases hx with ⟨hk, rfl, rfl, rfl, rfl, rfl⟩ | ⟨hk, rfl, rfl, rfl, rfl, rfl⟩
  · refine ifB_true rfl ?_
    refine ⟨_, _, _, _, cells_all hd5, .of (pack_any _ _ _ _ w5) ?_⟩
    rintro v w6 ⟨rfl, hE6⟩
    rw [if_pos hk, if_pos hk, pack_unpack hu]
    refine ⟨_, _, rfl, ifB_false (by simp) (ifB_false rfl ?_)⟩
    refine ⟨_, _, _, _, cells_all (hE6.keep hb5), .of (pack_any _ _ _ _ w6) ?_⟩
    rintro v w7 ⟨rfl, hE7⟩
    refine ⟨_, _, rfl, _, _, _, _, cells_all (hE7.keep (hE6.keep hc5)), .of (pack_any _ _ _ _ w7) ?_⟩
    rintro v w8 ⟨rfl, hE8⟩
    refine ⟨_, _, rfl, .of (hawake_any w8) ?_⟩
    rintro v w9 ⟨rfl, hE9⟩
    have hE : Ext w w9 := (((hE5.trans hE6).trans hE7).trans hE8).trans hE9
    refine ⟨_, rfl, ifB_true rfl ?_⟩
    by_cases k1 : KeyOk t s r n
    · rw [if_pos k1, if_pos k1]
      refine ifB_false rfl ?_
      by_cases k2 : KeyOk t' s' r' n'
      · rw [if_pos k2, if_pos k2]
        refine ifB_false rfl ⟨_, _, _, _, cells_all (hE9.keep (hE8.keep (hE7.keep (hE6.keep hb5)))), _, _, _, _, cells_all (hE9.keep (hE8.keep (hE7.keep (hE6.keep hc5)))), _, _, run_key_eq _ _ _ _ _ _ _ _ _, ?_, hE⟩
        rw [pack_inj k1 k2]
        simp
      · rw [if_neg k2, if_neg k2]
        exact ifB_true rfl ⟨by trivial, hE⟩
    · rw [if_neg k1, if_neg k1]
      exact ifB_true rfl ⟨by trivial, hE⟩
  · refine ifB_false rfl ?_
    refine ⟨_, _, _, _, cells_all hb5, .of (pack_any _ _ _ _ w5) ?_⟩
    rintro v w7 ⟨rfl, hE7⟩
    refine ⟨_, _, rfl, _, _, _, _, cells_all (hE7.keep hc5), .of (pack_any _ _ _ _ w7) ?_⟩
    rintro v w8 ⟨rfl, hE8⟩
    refine ⟨_, _, rfl, .of (hawake_any w8) ?_⟩
    rintro v w9 ⟨rfl, hE9⟩
    have hE : Ext w w9 := ((hE5.trans hE7).trans hE8).trans hE9
    refine ⟨_, rfl, ifB_true rfl ?_⟩
    by_cases k1 : KeyOk t s r n
    · rw [if_pos k1, if_pos k1]
      refine ifB_false rfl ?_
      by_cases k2 : KeyOk t' s' r' n'
      · rw [if_pos k2, if_pos k2]
        refine ifB_false rfl ⟨_, _, _, _, cells_all (hE9.keep (hE8.keep (hE7.keep hb5))), _, _, _, _, cells_all (hE9.keep (hE8.keep (hE7.keep hc5))), _, _, run_key_eq _ _ _ _ _ _ _ _ _, ?_, hE⟩
        rw [pack_inj k1 k2]
        simp
      · rw [if_neg k2, if_neg k2]
        exact ifB_true rfl ⟨by trivial, hE⟩
    · rw [if_neg k1, if_neg k1]
      exact ifB_true rfl ⟨by trivial, hE⟩

theorem xor_mod {a b k : Nat} (h : a % 2 ^ k = b % 2 ^ k) : (a ^^^ b) % 2 ^ k = 0 := by
  rw [Nat.xor_mod_two_pow, h, Nat.xor_self]

theorem xor_div {a b k : Nat} (h : a / 2 ^ k = b / 2 ^ k) : (a ^^^ b) / 2 ^ k = 0 := by
  rw [← Nat.shiftRight_eq_div_pow, Nat.shiftRight_xor_distrib, Nat.shiftRight_eq_div_pow, Nat.shiftRight_eq_div_pow, h, Nat.xor_self]

/-- Two words that part in nothing modulo 2^k. -/
theorem low_same {a b : Int} (ha : U64 a) (hb : U64 b) (k : Nat) (h : a % (2 ^ k : Nat) = b % (2 ^ k : Nat)) : (bits .xor .u64 a b).tmod (2 ^ k : Nat) = 0 := by
  obtain ⟨a, rfl⟩ := Int.eq_ofNat_of_zero_le ha.1
  obtain ⟨b, rfl⟩ := Int.eq_ofNat_of_zero_le hb.1
  have ha' : a < 18446744073709551616 := by have := ha.2; omega
  have hb' : b < 18446744073709551616 := by have := hb.2; omega
  rw [bits_xor ha' hb', Int.tmod_eq_emod_of_nonneg (by omega)]
  have := xor_mod (a := a) (b := b) (k := k) (by exact_mod_cast h)
  exact_mod_cast this

theorem high_same {a b : Int} (ha : U64 a) (hb : U64 b) (k : Nat) (hk : k ≤ 64) (h : a / (2 ^ k : Nat) = b / (2 ^ k : Nat)) : shrV .u64 (bits .xor .u64 a b) (k : Int) = 0 := by
  obtain ⟨a, rfl⟩ := Int.eq_ofNat_of_zero_le ha.1
  obtain ⟨b, rfl⟩ := Int.eq_ofNat_of_zero_le hb.1
  have ha' : a < 18446744073709551616 := by have := ha.2; omega
  have hb' : b < 18446744073709551616 := by have := hb.2; omega
  rw [bits_xor ha' hb', shrV_u64 (by omega) hk]
  have := xor_div (a := a) (b := b) (k := k) (by exact_mod_cast h)
  exact_mod_cast this

/-- The last line of HandleParts, by what the three packings came to. -/
theorem parts_low1 {t s r n n' : Int} (h : KeyOk t s r n) (h' : KeyOk t s r n') : (bits .xor .u64 (packV t s r n) (packV t s r n')).tmod 1048576 = 0 :=
  low_same (unpack_pack h).1 (unpack_pack h').1 20 (by simp only [packV]; omega)

theorem parts_low2 {t s r n s' : Int} (h : KeyOk t s r n) (h' : KeyOk t s' r n) :
    shrV .u64 (bits .xor .u64 (packV t s r n) (packV t s' r n)) 20 = 0 ∧ (bits .xor .u64 (packV t s r n) (packV t s' r n)).tmod 128 = 0 :=
  ⟨high_same (unpack_pack h).1 (unpack_pack h').1 20 (by omega) (by simp only [packV]; omega), low_same (unpack_pack h).1 (unpack_pack h').1 7 (by simp only [packV]; omega)⟩

theorem parts_low3 {t s r n r' : Int} (h : KeyOk t s r n) (h' : KeyOk t s r' n) :
    shrV .u64 (bits .xor .u64 (packV t s r n) (packV t s r' n)) 7 = 0 ∧ (bits .xor .u64 (packV t s r n) (packV t s r' n)).tmod 16 = 0 :=
  ⟨high_same (unpack_pack h).1 (unpack_pack h').1 7 (by omega) (by simp only [packV]; omega), low_same (unpack_pack h).1 (unpack_pack h').1 4 (by simp only [packV]; omega)⟩

theorem setAt_four (a b c d v : Value) : setAt #[a, b, c, d] 3 [v] = #[a, b, c, v] ∧ setAt #[a, b, c, d] 1 [v] = #[a, v, c, d] ∧ setAt #[a, b, c, d] 2 [v] = #[a, b, v, d] := ⟨rfl, rfl, rfl⟩

set_option maxHeartbeats 2000000 in
theorem walk_HandleParts (t s r n : Int) (_ : I64 t) (_ : I64 s) (_ : I64 r) (_ : I64 n) (t' s' r' n' : Int) (_ : I64 t') (_ : I64 s') (_ : I64 r') (_ : I64 n') (w : World) :
    Calls Try.prog 7 #[.agg #[.int .i64 t, .int .i64 s, .int .i64 r, .int .i64 n], .agg #[.int .i64 t', .int .i64 s', .int .i64 r', .int .i64 n']] w
    (Ret (Yes w)) := by
  refine VC.garthlaw09_HandleParts.ok ?_
  simp only [VC.garthlaw09_HandleParts, add_mk, Nat.zero_add, Nat.add_zero]
  refine al_intro fun b w1 hb hE1 hs0 hs1 => ?_
  refine al_intro fun c w2 hc hE2 hs2 hs3 => ?_
  have hb2 := hE2.keep hb
  refine ⟨t, s, r, n, cells_all hb2, .of (pack_any _ _ _ _ _) ?_⟩
  rintro v w3 ⟨rfl, hE3⟩
  refine ⟨_, _, rfl, t, s, r, n, cells_all (hE3.keep hb2), ?_⟩
  -- the key with the other serial
  refine al_intro fun x w4 hx hE4 hs4 _ => ?_
  refine wr_intro hx (by simp) fun w5 hx5 hM5 hs5 => ?_
  have hb5 := hM5.keep (hE4.keep (hE3.keep hb2)) (by have := lt_of_blk (hE3.keep hb2); omega)
  have hc5 := hM5.keep (hE4.keep (hE3.keep hc)) (by have := lt_of_blk (hE3.keep hc); omega)
  have hbx : b ≠ x := by have := lt_of_blk (hE3.keep hb2); omega
  have hcx : c ≠ x := by have := lt_of_blk (hE3.keep hc); omega
  have hwx : w.heap.size ≤ x := by have := hE1.size; have := hE2.size; have := hE3.size; omega
  have hE5 : Ext w w5 := Ext.new (((hE1.trans hE2).trans hE3).trans hE4) hM5 (by intro k hk; omega)
  clear hM5 hE4 hE3
  refine ⟨n', cell_blk hc5 rfl, ?_⟩
  refine wr_intro hx5 (by simp [size_setAt]) fun w6 hx6 hM6 hs6 => ?_
  have hb6 := hM6.keep hb5 hbx
  have hc6 := hM6.keep hc5 hcx
  have hE6 : Ext w w6 := Ext.new hE5 hM6 (by intro k hk; omega)
  clear hM6
  have e6 : setAt (setAt #[Value.int .i64 0, .int .i64 0, .int .i64 0, .int .i64 0] 0 [.int .i64 t, .int .i64 s, .int .i64 r, .int .i64 n]) 3 [.int .i64 n'] = #[.int .i64 t, .int .i64 s, .int .i64 r, .int .i64 n'] := rfl
  rw [e6] at hx6
  refine ⟨t, s, r, n', cells_all hx6, .of (pack_any _ _ _ _ _) ?_⟩
  rintro v w7 ⟨rfl, hE7⟩
  have hb7 := hE7.keep hb6
  have hc7 := hE7.keep hc6
  refine ⟨_, _, rfl, t, s, r, n, cells_all hb7, ?_⟩
  -- with the other slot
  refine al_intro fun y w8 hy hE8 hs8 _ => ?_
  refine wr_intro hy (by simp) fun w9 hy9 hM9 hs9 => ?_
  have hb9 := hM9.keep (hE8.keep hb7) (by have := lt_of_blk hb7; omega)
  have hc9 := hM9.keep (hE8.keep hc7) (by have := lt_of_blk hc7; omega)
  have hby : b ≠ y := by have := lt_of_blk hb7; omega
  have hcy : c ≠ y := by have := lt_of_blk hc7; omega
  have hwy : w.heap.size ≤ y := by have := hE6.size; have := hE7.size; omega
  have hE9 : Ext w w9 := Ext.new ((hE6.trans hE7).trans hE8) hM9 (by intro k hk; omega)
  clear hM9 hE8 hE7
  refine ⟨s', cell_blk hc9 rfl, ?_⟩
  refine wr_intro hy9 (by simp [size_setAt]) fun w10 hy10 hM10 hs10 => ?_
  have hb10 := hM10.keep hb9 hby
  have hc10 := hM10.keep hc9 hcy
  have hE10 : Ext w w10 := Ext.new hE9 hM10 (by intro k hk; omega)
  clear hM10
  have e10 : setAt (setAt #[Value.int .i64 0, .int .i64 0, .int .i64 0, .int .i64 0] 0 [.int .i64 t, .int .i64 s, .int .i64 r, .int .i64 n]) 1 [.int .i64 s'] = #[.int .i64 t, .int .i64 s', .int .i64 r, .int .i64 n] := rfl
  rw [e10] at hy10
  refine ⟨t, s', r, n, cells_all hy10, .of (pack_any _ _ _ _ _) ?_⟩
  rintro v w11 ⟨rfl, hE11⟩
  have hb11 := hE11.keep hb10
  have hc11 := hE11.keep hc10
  refine ⟨_, _, rfl, t, s, r, n, cells_all hb11, ?_⟩
  -- with other rights
  refine al_intro fun z w12 hz hE12 hs12 _ => ?_
  refine wr_intro hz (by simp) fun w13 hz13 hM13 hs13 => ?_
  have hc13 := hM13.keep (hE12.keep hc11) (by have := lt_of_blk hc11; omega)
  have hwz : w.heap.size ≤ z := by have := hE10.size; have := hE11.size; omega
  have hE13 : Ext w w13 := Ext.new ((hE10.trans hE11).trans hE12) hM13 (by intro k hk; omega)
  clear hM13 hE12 hE11
  refine ⟨r', cell_blk hc13 rfl, ?_⟩
  refine wr_intro hz13 (by simp [size_setAt]) fun w14 hz14 hM14 hs14 => ?_
  have hE14 : Ext w w14 := Ext.new hE13 hM14 (by intro k hk; omega)
  clear hM14
  have e14 : setAt (setAt #[Value.int .i64 0, .int .i64 0, .int .i64 0, .int .i64 0] 0 [.int .i64 t, .int .i64 s, .int .i64 r, .int .i64 n]) 2 [.int .i64 r'] = #[.int .i64 t, .int .i64 s, .int .i64 r', .int .i64 n] := rfl
  rw [e14] at hz14
  refine ⟨t, s, r', n, cells_all hz14, .of (pack_any _ _ _ _ _) ?_⟩
  rintro v w15 ⟨rfl, hE15⟩
  refine ⟨_, _, rfl, .of (hawake_any w15) ?_⟩
  rintro v w16 ⟨rfl, hE16⟩
  have hE : Ext w w16 := (hE14.trans hE15).trans hE16
  refine ⟨_, rfl, ifB_false rfl ?_⟩
  by_cases k0 : KeyOk t s r n
  case neg =>
    rw [if_neg k0, if_neg k0]
    refine ifB_true rfl (.of (hawake_any w16) ?_)
    rintro v w17 ⟨rfl, hE17⟩
    exact ⟨_, rfl, rfl, hE.trans hE17⟩
  rw [if_pos k0, if_pos k0]
  refine ifB_false rfl ?_
  -- the rights' row
  have last : ∀ (bb : Bool), bb = true → Yes w (Value.bool bb) w16 := fun bb hb => ⟨by rw [hb], hE⟩
  have L3 : ifB ((if KeyOk t s r' n then (0 : Int) else 12) != 0) (Yes w (Value.bool true) w16)
      ((0 : Int) ≤ 7 ∧ ifB (shrV .u64 (bits .xor .u64 (packV t s r n) (if KeyOk t s r' n then packV t s r' n else 0)) 7 == 0)
        ((16 : Int) ≠ 0 ∧ Yes w (Value.bool ((bits .xor .u64 (packV t s r n) (if KeyOk t s r' n then packV t s r' n else 0)).tmod 16 == 0)) w16)
        (Yes w (Value.bool false) w16)) := by
    by_cases k3 : KeyOk t s r' n
    · rw [if_pos k3, if_pos k3]
      obtain ⟨p1, p2⟩ := parts_low3 k0 k3
      refine ifB_false rfl ⟨by decide, ifB_true (by rw [p1]; rfl) ⟨by decide, last _ (by rw [p2]; rfl)⟩⟩
    · rw [if_neg k3, if_neg k3]
      exact ifB_true rfl ⟨rfl, hE⟩
  by_cases k1 : KeyOk t s r n'
  · rw [if_pos k1, if_pos k1]
    refine ifB_false rfl ⟨by decide, ifB_true (by rw [parts_low1 k0 k1]; rfl) ?_⟩
    by_cases k2 : KeyOk t s' r n
    · rw [if_pos k2, if_pos k2]
      obtain ⟨p1, p2⟩ := parts_low2 k0 k2
      exact ifB_false rfl ⟨by decide, ifB_true (by rw [p1]; rfl) ⟨by decide, ifB_true (by rw [p2]; rfl) L3⟩⟩
    · rw [if_neg k2, if_neg k2]
      exact ifB_true rfl L3
  · rw [if_neg k1, if_neg k1]
    refine ifB_true rfl ?_
    by_cases k2 : KeyOk t s' r n
    · rw [if_pos k2, if_pos k2]
      obtain ⟨p1, p2⟩ := parts_low2 k0 k2
      exact ifB_false rfl ⟨by decide, ifB_true (by rw [p1]; rfl) ⟨by decide, ifB_true (by rw [p2]; rfl) L3⟩⟩
    · rw [if_neg k2, if_neg k2]
      exact ifB_true rfl L3

end Go.Proofs.Ytlfmkdndioegmaa
