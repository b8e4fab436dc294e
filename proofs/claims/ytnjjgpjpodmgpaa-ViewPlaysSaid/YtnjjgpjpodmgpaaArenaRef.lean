/- Contracts of the arena's reference. Conditions: as the arena's. -/
import Derived.Test.YtnjjgpjpodmgpaaArena2
set_option linter.unusedVariables false
set_option linter.unusedSimpArgs false
namespace Go.Proofs.Ytnjjgpjpodmgpaa
open Go.RowKit

section
variable {w w4 w' : World} {T : TypeId} {p gb : Nat} {v v' : Value} {bs bs' : List UInt8} {ts ts' : List Tch} {F : Nat → Prop}

theorem AR.slot0' (h : AR w T p gb v bs' ts) (hl : bs'.length = bs.length) : w.cell? ((Addr.mk p 0 none).add 0) = some (.slice (some ⟨gb, 0, none⟩) bs.length bs.length) := by rw [← hl]; exact h.slot0

/-- One step of a loop that writes byte by byte. -/
theorem AR.next {K : World → Prop} {l : List UInt8} {an j : Nat} {b : UInt8} (h : AR w T p gb v (putAt bs an (l.take j)) ts) (hfit : an + l.length ≤ bs.length) (hb : l[j]? = some b)
    (k : ∀ w1, AR w1 T p gb v (putAt bs an (l.take (j + 1))) ts → Mod (· = gb) w w1 → K w1) :
    WrC w (Addr.mk gb (an + j) none) 1 ∧ ∀ w1, w1 = wr w (Addr.mk gb (an + j) none) [.int .u8 (b.toNat : Int)] → K w1 := by
  have hj : j < l.length := (List.getElem?_eq_some_iff.1 hb).1
  have hlen : (putAt bs an (l.take j)).length = bs.length := putAt_length (by rw [List.length_take]; omega)
  refine h.set (by omega) b fun w1 h1 hm _ => k w1 ?_ hm
  rw [putAt_snoc hfit hb] at h1
  exact h1

theorem refstore_any (h : Ar w T p F bs ts) (a x : Int) (hx0 : 0 ≤ x) (hx : x < 18446744073709551616) (hl : ts.length < 1099511627776) :
    Calls Try.prog 56 #[.pointer (some ⟨p, 0, none⟩), .int .i64 a, .int .u64 x] w (Ret fun r w' => r = .int .i64 (if OkA bs.length a 8 then 0 else 4) ∧
      Post w T p F (if OkA bs.length a 8 then putAt bs a.toNat (le8 x.toNat) else bs) (if OkA bs.length a 8 then noteA ts a 8 true else ts) w') := by
  obtain ⟨gb, v, h, rfl⟩ := h
  have hsm := h.small
  obtain ⟨xn, rfl⟩ := Int.eq_ofNat_of_zero_le hx0
  simp only [Int.toNat_natCast]
  refine VC.garthref01_Arena_Store.ok ?_
  unfold VC.garthref01_Arena_Store
  refine .of (there_any h a 8) ?_
  rintro r w1 ⟨rfl, rfl⟩
  refine ⟨_, rfl, ?_⟩
  by_cases hok : OkA bs.length a 8
  case neg =>
    simp only [if_neg hok]
    exact ifB_true (by simp [hok]) ⟨by trivial, Ar.same ⟨gb, v, h, rfl⟩⟩
  simp only [if_pos hok]
  obtain ⟨an, rfl⟩ := Int.eq_ofNat_of_zero_le hok.1
  refine ifB_false (by simp [hok]) ?_
  refine .of (note_any h an 8 true hl) ?_
  rintro r w4 ⟨rfl, v', h4, hm4, hf4⟩
  rw [noteA, if_pos (by omega : (0 : Int) < 8)] at h4 ⊢
  refine ⟨rfl, ?_⟩
  refine ⟨fun n y i w12 => ∃ j : Nat, i = j ∧ n + j = 8 ∧ y = ((xn / 256 ^ j : Nat) : Int) ∧ AR w12 T p gb v' (putAt bs an ((le8 xn).take j)) (ts ++ [((an : Int), (8 : Int), true)]) ∧ Mod (· = gb) w4 w12, ⟨8, 0, rfl, rfl, by simp, by simpa [putAt_nil] using h4, Mod.refl _ _⟩, ?_⟩
  rintro n jv _ _ w12 ⟨j, rfl, hn, rfl, h12, hm12⟩
  have hlen : (putAt bs an ((le8 xn).take j)).length = bs.length := putAt_length (by rw [List.length_take, le8_length]; omega)
  refine ifD (fun hj => ?_) (fun hj => ?_)
  · have hj8 : j < 8 := by omega
    have hw : IntKind.i64.wrap ((an : Int) + (j : Int)) = ((an + j : Nat) : Int) := by rw [wrap_i64 (by omega) (by omega)]; omega
    rw [hw]
    refine ⟨_, _, _, h12.slot0' hlen, by decide, by omega, by omega, ?_⟩
    simp only [someA, add_mk, Nat.zero_add, Int.toNat_natCast]
    have hb : IntKind.u8.wrap (((xn / 256 ^ j : Nat) : Int).tmod 256) = ((UInt8.ofNat (xn / 256 ^ j)).toNat : Int) := by
      rw [u8_toNat, show (256 : Int) = ((256 : Nat) : Int) from rfl, ← Int.ofNat_tmod, wrap_u8 (by omega) (by omega)]
    rw [hb]
    refine h12.next (by rw [le8_length]; omega) (le8_get _ hj8) fun w1 h1 hm1 => ⟨by decide, n - 1, by omega, j + 1, ?_, by omega, ?_, h1, Mod.trans hm12 hm1 (fun _ _ x => x)⟩
    · rw [wrap_i64 (by omega) (by omega)]; omega
    · rw [show (256 : Int) = ((256 : Nat) : Int) from rfl, ← Int.ofNat_tdiv, Nat.div_div_eq_div_mul, ← Nat.pow_succ]
      exact wrap_u64 (Int.natCast_nonneg _) (by have := Nat.div_le_self xn (256 ^ j.succ); omega)
  · have hj8 : j = 8 := by omega
    subst hj8
    rw [List.take_of_length_le (by rw [le8_length]; omega)] at h12
    exact ⟨by trivial, post_of hm4 hf4 h12 hm12⟩

theorem refload_any (h : Ar w T p F bs ts) (a : Int) (hl : ts.length < 1099511627776) :
    Calls Try.prog 76 #[.pointer (some ⟨p, 0, none⟩), .int .i64 a] w (Ret fun r w' =>
      r = .tuple #[.int .u64 ((if OkA bs.length a 8 then leV (seg bs a.toNat 8) else 0 : Nat) : Int), .int .i64 (if OkA bs.length a 8 then 0 else 4)] ∧
      Post w T p F bs (if OkA bs.length a 8 then noteA ts a 8 false else ts) w') := by
  obtain ⟨gb, v, h, rfl⟩ := h
  have hsm := h.small
  refine VC.garthref01_Arena_Load.ok ?_
  unfold VC.garthref01_Arena_Load
  refine .of (there_any h a 8) ?_
  rintro r w1 ⟨rfl, rfl⟩
  refine ⟨_, rfl, ?_⟩
  by_cases hok : OkA bs.length a 8
  case neg =>
    simp only [if_neg hok]
    exact ifB_true (by simp [hok]) ⟨by trivial, Ar.same ⟨gb, v, h, rfl⟩⟩
  simp only [if_pos hok]
  obtain ⟨an, rfl⟩ := Int.eq_ofNat_of_zero_le hok.1
  refine ifB_false (by simp [hok]) ?_
  refine .of (note_any h an 8 false hl) ?_
  rintro r w4 ⟨rfl, v', h4, hm4, hf4⟩
  refine ⟨rfl, ?_⟩
  simp only [Int.toNat_natCast]
  have hsl : (seg bs an 8).length = 8 := seg_length (by omega)
  refine ⟨fun n y i w12 => ∃ j : Nat, i = (j : Int) - 1 ∧ n = j ∧ j ≤ 8 ∧ y = ((leV ((seg bs an 8).drop j) : Nat) : Int) ∧ w12 = w4, ⟨8, 8, by omega, rfl, by omega, by rw [List.drop_eq_nil_of_le (by omega)]; rfl, by trivial⟩, ?_⟩
  rintro n jv _ _ w12 ⟨j, rfl, rfl, hj, rfl, rfl⟩
  refine ifD (fun hj0 => ?_) (fun hj0 => ?_)
  · obtain ⟨k, rfl⟩ : ∃ k, n = k + 1 := ⟨n - 1, by omega⟩
    obtain ⟨b, hb⟩ : ∃ b, (seg bs an 8)[k]? = some b := ⟨_, List.getElem?_eq_getElem (by omega)⟩
    have hb' : bs[an + k]? = some b := by rw [← hb, seg_get (by omega)]
    have hw : IntKind.i64.wrap ((an : Int) + (((k + 1 : Nat) : Int) - 1)) = ((an + k : Nat) : Int) := by rw [wrap_i64 (by omega) (by omega)]; omega
    rw [hw]
    refine ⟨_, _, _, h4.slot0, by omega, by omega, ?_⟩
    simp only [someA, add_mk, Nat.zero_add, Int.toNat_natCast]
    refine ⟨_, h4.byteAt hb', k, by omega, k, ?_, rfl, by omega, ?_, by trivial⟩
    · rw [wrap_i64 (by omega) (by omega)]; omega
    · have hlt := leV_lt ((seg bs an 8).drop k)
      rw [List.length_drop, hsl] at hlt
      have hp : (256 : Nat) ^ (8 - k) ≤ 256 ^ 8 := Nat.pow_le_pow_right (by decide) (by omega)
      have h8 : (256 : Nat) ^ 8 = 18446744073709551616 := by decide
      have hd := leV_drop _ _ _ hb
      rw [hd] at hlt
      have hbn := b.toNat_lt
      rw [hd, wrap_u64 (n := ((leV (List.drop (k + 1) (seg bs an 8)) : Nat) : Int) * 256) (by omega) (by omega), wrap_u64 (n := (b.toNat : Int)) (by omega) (by omega), wrap_u64 (by omega) (by omega)]
      omega
  · have : n = 0 := by omega
    subst this
    exact ⟨rfl, post_of hm4 hf4 h4 (Mod.refl _ _)⟩

theorem refread_any (h : Ar w T p F bs ts) (a k : Int) (hl : ts.length < 1099511627776) :
    Calls Try.prog 81 #[.pointer (some ⟨p, 0, none⟩), .int .i64 a, .int .i64 k] w (Ret fun r w' =>
      r = .tuple #[.string (if OkA bs.length a k then strOf (seg bs a.toNat k.toNat) else ByteArray.mk #[]), .int .i64 (if OkA bs.length a k then 0 else 4)] ∧
      Post w T p F bs (if OkA bs.length a k then noteA ts a k false else ts) w') := by
  obtain ⟨gb, v, h, rfl⟩ := h
  have hsm := h.small
  refine VC.garthref01_Arena_Read.ok ?_
  unfold VC.garthref01_Arena_Read
  refine .of (there_any h a k) ?_
  rintro r w1 ⟨rfl, rfl⟩
  refine ⟨_, rfl, ?_⟩
  by_cases hok : OkA bs.length a k
  case neg =>
    simp only [if_neg hok]
    exact ifB_true (by simp [hok]) ⟨by trivial, Ar.same ⟨gb, v, h, rfl⟩⟩
  simp only [if_pos hok]
  obtain ⟨an, rfl⟩ := Int.eq_ofNat_of_zero_le hok.1
  obtain ⟨kn, rfl⟩ := Int.eq_ofNat_of_zero_le hok.2.1
  refine ifB_false (by simp [hok]) ?_
  refine .of (note_any h an kn false hl) ?_
  rintro r w4 ⟨rfl, v', h4, hm4, hf4⟩
  refine ⟨rfl, _, _, _, h4.slot0, ?_⟩
  have hw : IntKind.i64.wrap ((an : Int) + (kn : Int)) = ((an + kn : Nat) : Int) := by rw [wrap_i64 (by omega) (by omega)]; omega
  rw [hw]
  simp only [Int.toNat_natCast]
  refine ⟨by omega, by omega, by omega, seg bs an kn, ?_, h4.part (by omega), by trivial, post_of hm4 hf4 h4 (Mod.refl _ _)⟩
  rw [seg_length (by omega)]
  omega

theorem refwrite_any (h : Ar w T p F bs ts) (a : Int) (s : ByteArray) (hl : ts.length < 1099511627776) :
    Calls Try.prog 82 #[.pointer (some ⟨p, 0, none⟩), .int .i64 a, .string s] w (Ret fun r w' => r = .int .i64 (if OkA bs.length a s.size then 0 else 4) ∧
      Post w T p F (if OkA bs.length a s.size then putAt bs a.toNat (bytesOf s) else bs) (if OkA bs.length a s.size then noteA ts a s.size true else ts) w') := by
  obtain ⟨gb, v, h, rfl⟩ := h
  have hsm := h.small
  refine VC.garthref01_Arena_Write.ok ?_
  unfold VC.garthref01_Arena_Write
  refine .of (there_any h a s.size) ?_
  rintro r w1 ⟨rfl, rfl⟩
  refine ⟨_, rfl, ?_⟩
  by_cases hok : OkA bs.length a s.size
  case neg =>
    simp only [if_neg hok]
    exact ifB_true (by simp [hok]) ⟨by trivial, Ar.same ⟨gb, v, h, rfl⟩⟩
  simp only [if_pos hok]
  obtain ⟨an, rfl⟩ := Int.eq_ofNat_of_zero_le hok.1
  refine ifB_false (by simp [hok]) ?_
  refine .of (note_any h an s.size true hl) ?_
  rintro r w4 ⟨rfl, v', h4, hm4, hf4⟩
  refine ⟨rfl, ?_⟩
  simp only [Int.toNat_natCast]
  have hbl := bytesOf_length s
  refine ⟨fun n i w12 => ∃ j : Nat, i = j ∧ n + j = s.size ∧ AR w12 T p gb v' (putAt bs an ((bytesOf s).take j)) (noteA ts an s.size true) ∧ Mod (· = gb) w4 w12, ⟨s.size, 0, rfl, rfl, by simpa [putAt_nil] using h4, Mod.refl _ _⟩, ?_⟩
  rintro n jv _ w12 ⟨j, rfl, hn, h12, hm12⟩
  have hlen : (putAt bs an ((bytesOf s).take j)).length = bs.length := putAt_length (by rw [List.length_take]; omega)
  refine ifD (fun hj => ?_) (fun hj => ?_)
  · rintro w13 rfl
    have h13 := h12.ext (Ext.drew w12)
    obtain ⟨b, hb⟩ : ∃ b, (bytesOf s)[j]? = some b := ⟨_, List.getElem?_eq_getElem (by omega)⟩
    have hw : IntKind.i64.wrap ((an : Int) + (j : Int)) = ((an + j : Nat) : Int) := by rw [wrap_i64 (by omega) (by omega)]; omega
    rw [hw]
    refine ⟨_, _, _, h13.slot0' hlen, by omega, b, by rw [str_get, Int.toNat_natCast, hb], by trivial, by omega, by omega, ?_⟩
    simp only [someA, add_mk, Nat.zero_add, Int.toNat_natCast]
    refine ⟨by trivial, h13.next (by omega) hb fun w1 h1 hm1 => ⟨n - 1, by omega, j + 1, ?_, by omega, h1, Mod.trans (Mod.trans hm12 (Ext.drew w12).mod (fun _ _ x => x)) hm1 (fun _ _ x => x)⟩⟩
    rw [wrap_i64 (by omega) (by omega)]; omega
  · have hj8 : j = s.size := by omega
    subst hj8
    rw [List.take_of_length_le (by omega)] at h12
    exact ⟨by trivial, post_of hm4 hf4 h12 hm12⟩

theorem refzero_any (h : Ar w T p F bs ts) (a k : Int) (hl : ts.length < 1099511627776) :
    Calls Try.prog 83 #[.pointer (some ⟨p, 0, none⟩), .int .i64 a, .int .i64 k] w (Ret fun r w' => r = .int .i64 (if OkA bs.length a k then 0 else 4) ∧
      Post w T p F (if OkA bs.length a k then putAt bs a.toNat (List.replicate k.toNat 0) else bs) (if OkA bs.length a k then noteA ts a k true else ts) w') := by
  obtain ⟨gb, v, h, rfl⟩ := h
  have hsm := h.small
  refine VC.garthref01_Arena_Zero.ok ?_
  unfold VC.garthref01_Arena_Zero
  refine .of (there_any h a k) ?_
  rintro r w1 ⟨rfl, rfl⟩
  refine ⟨_, rfl, ?_⟩
  by_cases hok : OkA bs.length a k
  case neg =>
    simp only [if_neg hok]
    exact ifB_true (by simp [hok]) ⟨by trivial, Ar.same ⟨gb, v, h, rfl⟩⟩
  simp only [if_pos hok]
  obtain ⟨an, rfl⟩ := Int.eq_ofNat_of_zero_le hok.1
  obtain ⟨kn, rfl⟩ := Int.eq_ofNat_of_zero_le hok.2.1
  refine ifB_false (by simp [hok]) ?_
  refine .of (note_any h an kn true hl) ?_
  rintro r w4 ⟨rfl, v', h4, hm4, hf4⟩
  refine ⟨rfl, ?_⟩
  simp only [Int.toNat_natCast]
  have hbl : (List.replicate kn (0 : UInt8)).length = kn := List.length_replicate
  refine ⟨fun n i w12 => ∃ j : Nat, i = j ∧ n + j = kn ∧ AR w12 T p gb v' (putAt bs an ((List.replicate kn 0).take j)) (noteA ts an kn true) ∧ Mod (· = gb) w4 w12, ⟨kn, 0, rfl, rfl, by simpa [putAt_nil] using h4, Mod.refl _ _⟩, ?_⟩
  rintro n jv _ w12 ⟨j, rfl, hn, h12, hm12⟩
  have hlen : (putAt bs an ((List.replicate kn 0).take j)).length = bs.length := putAt_length (by rw [List.length_take]; omega)
  refine ifD (fun hj => ?_) (fun hj => ?_)
  · have hb : (List.replicate kn (0 : UInt8))[j]? = some 0 := by rw [List.getElem?_replicate, if_pos (by omega)]
    have hw : IntKind.i64.wrap ((an : Int) + (j : Int)) = ((an + j : Nat) : Int) := by rw [wrap_i64 (by omega) (by omega)]; omega
    rw [hw]
    refine ⟨_, _, _, h12.slot0' hlen, by omega, by omega, ?_⟩
    simp only [someA, add_mk, Nat.zero_add, Int.toNat_natCast]
    refine h12.next (b := 0) (by omega) hb fun w1 h1 hm1 => ⟨n - 1, by omega, j + 1, ?_, by omega, h1, Mod.trans hm12 hm1 (fun _ _ x => x)⟩
    rw [wrap_i64 (by omega) (by omega)]; omega
  · have hj8 : j = kn := by omega
    subst hj8
    rw [List.take_of_length_le (by omega)] at h12
    exact ⟨by trivial, post_of hm4 hf4 h12 hm12⟩

end

end Go.Proofs.Ytnjjgpjpodmgpaa
