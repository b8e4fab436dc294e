/- Contracts of the arena's calls and of its reference's: Load, Store, Read, Write, Zero, Copy, Touched, Forget, Size. Conditions: the arena is there, the numbers fit, its touches are fewer than 2^40. -/
import Derived.Test.YtnjjgpjpodmgpaaArena
import Derived.Lib.SliceRun
set_option linter.unusedVariables false
set_option linter.unusedSimpArgs false
namespace Go.Proofs.Ytnjjgpjpodmgpaa
open Go.RowKit

/-! ### little-endian words -/

def le8 (x : Nat) : List UInt8 := (List.range 8).map fun i => UInt8.ofNat (x / 256 ^ i)

def leV : List UInt8 → Nat
  | [] => 0
  | b :: l => b.toNat + 256 * leV l

theorem le8_length (x : Nat) : (le8 x).length = 8 := by simp [le8]

theorem le8_get (x : Nat) {j : Nat} (hj : j < 8) : (le8 x)[j]? = some (UInt8.ofNat (x / 256 ^ j)) := by simp [le8, hj]

theorem u8_toNat (n : Nat) : (UInt8.ofNat n).toNat = n % 256 := by simp

theorem byte_at (x j : Nat) : (x : Int) / 2 ^ (8 * j) % 256 = ((x / 256 ^ j % 256 : Nat) : Int) := by
  have h : (256 : Nat) ^ j = 2 ^ (8 * j) := by rw [Nat.pow_mul]
  rw [h, Int.natCast_emod, Int.natCast_ediv, Int.natCast_pow]
  rfl

theorem leV_lt : ∀ l : List UInt8, leV l < 256 ^ l.length
  | [] => by simp [leV]
  | b :: l => by
    have := leV_lt l
    have hb := b.toNat_lt
    simp only [leV, List.length_cons, Nat.pow_succ]
    omega

theorem leV_snoc : ∀ (l : List UInt8) (j : Nat) (b : UInt8), l[j]? = some b → leV (l.take (j + 1)) = leV (l.take j) + b.toNat * 256 ^ j
  | [], j, b, h => by simp at h
  | c :: l, 0, b, h => by
    simp at h
    subst h
    simp [leV]
  | c :: l, j + 1, b, h => by
    have ih := leV_snoc l j b (by simpa using h)
    simp only [List.take_succ_cons, leV, ih, Nat.pow_succ, Nat.mul_add]
    have : 256 * (b.toNat * 256 ^ j) = b.toNat * (256 ^ j * 256) := by rw [← Nat.mul_assoc, Nat.mul_comm 256, Nat.mul_assoc, Nat.mul_comm 256]
    omega

theorem leV_drop (l : List UInt8) (j : Nat) (b : UInt8) (h : l[j]? = some b) : leV (l.drop j) = leV (l.drop (j + 1)) * 256 + b.toNat := by
  obtain ⟨hj, rfl⟩ := List.getElem?_eq_some_iff.1 h
  rw [List.drop_eq_getElem_cons hj]
  simp only [leV]
  omega

theorem leV_le8 (x : Nat) (h : x < 18446744073709551616) : leV (le8 x) = x := by
  simp only [le8, show List.range 8 = [0, 1, 2, 3, 4, 5, 6, 7] from rfl, List.map_cons, List.map_nil, leV, u8_toNat]
  simp only [Nat.reducePow, Nat.div_one]
  omega

def strOf (l : List UInt8) : ByteArray := ByteArray.mk l.toArray
def bytesOf (s : ByteArray) : List UInt8 := s.data.toList

theorem bytesOf_length (s : ByteArray) : (bytesOf s).length = s.size := by
  show s.data.toList.length = s.data.size
  exact Array.length_toList

theorem str_get (s : ByteArray) (j : Nat) : s[j]? = (bytesOf s)[j]? := by
  by_cases h : j < s.size
  · have h' : j < (bytesOf s).length := by rw [bytesOf_length]; exact h
    rw [getElem?_pos s j h, List.getElem?_eq_getElem h']
    rfl
  · rw [getElem?_neg s j h, List.getElem?_eq_none (by rw [bytesOf_length]; omega)]

section
variable {w w4 w' : World} {T : TypeId} {p gb : Nat} {v v' : Value} {bs bs' : List UInt8} {ts ts' : List Tch} {F : Nat → Prop}

theorem post_of (hm : Mod (fpA p gb v) w w4) (hf : ∀ j, fpA p gb v' j → fpA p gb v j ∨ w.heap.size ≤ j) (h : AR w' T p gb v' bs ts) (hm' : Mod (· = gb) w4 w') : Post w T p (fpA p gb v) bs ts w' :=
  ⟨_, ⟨gb, v', h, rfl⟩, Mod.trans hm hm' (fun k _ hk => .inr (.inl hk)), hf⟩

theorem Mod.gb_ext (h : Ext w w') : Mod (· = gb) w w' := h.mod

theorem AR.setRow (h : AR w T p gb v bs ts) (o : Nat) (l : List UInt8) (ho : o + l.length ≤ bs.length) :
    AR (w.setRow gb ((bC bs).take o ++ bC l ++ (bC bs).drop (o + l.length)).toArray) T p gb v (putAt bs o l) ts ∧
    Mod (· = gb) w (w.setRow gb ((bC bs).take o ++ bC l ++ (bC bs).drop (o + l.length)).toArray) := by
  have hm : Mod (· = gb) w (w.setRow gb ((bC bs).take o ++ bC l ++ (bC bs).drop (o + l.length)).toArray) := ⟨rfl, rfl, rfl, by simp, fun k _ hk => setRow_other w gb k _ hk⟩
  refine ⟨h.bytes ?_ hm (putAt_length ho), hm⟩
  rw [setRow_heap w gb _ _ _ _ h.data]
  simp [putAt, bC]

theorem subA_some (gb a n : Nat) : ∃ o, subA (some (Addr.mk gb 0 none)) a n 1 = some (Addr.mk gb o none) ∧ (o = a ∨ (a = n ∧ o = 0)) := by
  by_cases h : n = a
  · subst h
    refine ⟨0, by simp [subA], .inr ⟨rfl, rfl⟩⟩
  · refine ⟨a, by simp [subA, h, add_mk], .inl rfl⟩

/-! ### the arena -/

theorem store_any (h : Ar w T p F bs ts) (a x : Int) (hx0 : 0 ≤ x) (hx : x < 18446744073709551616) (hl : ts.length < 1099511627776) :
    Calls Try.prog 45 #[.pointer (some ⟨p, 0, none⟩), .int .i64 a, .int .u64 x] w (Ret fun r w' => r = .int .i64 (if OkA bs.length a 8 then 0 else 4) ∧
      Post w T p F (if OkA bs.length a 8 then putAt bs a.toNat (le8 x.toNat) else bs) (if OkA bs.length a 8 then noteA ts a 8 true else ts) w') := by
  obtain ⟨gb, v, h, rfl⟩ := h
  have hsm := h.small
  obtain ⟨xn, rfl⟩ := Int.eq_ofNat_of_zero_le hx0
  simp only [Int.toNat_natCast]
  refine VC.arena_Arena_Store.ok ?_
  unfold VC.arena_Arena_Store
  refine .of (has_any h a 8) ?_
  rintro r w1 ⟨rfl, rfl⟩
  refine ⟨_, rfl, ?_⟩
  by_cases hok : OkA bs.length a 8
  case neg =>
    simp only [if_neg hok]
    exact ifB_true rfl ⟨by trivial, Ar.same ⟨gb, v, h, rfl⟩⟩
  simp only [if_pos hok]
  refine ifB_false rfl ?_
  refine .of (touch_any h a 8 true hok hl) ?_
  rintro r w4 ⟨rfl, v', h4, hm4, hf4⟩
  refine ⟨_, _, _, rfl, ?_⟩
  rw [subA_data (by omega : a.toNat < bs.length)]
  refine ⟨fun n i w12 => ∃ j : Nat, i = j ∧ n + j = 8 ∧ AR w12 T p gb v' (putAt bs a.toNat ((le8 xn).take j)) (noteA ts a 8 true) ∧ Mod (· = gb) w4 w12, ⟨8, 0, rfl, rfl, by simpa [putAt_nil] using h4, Mod.refl _ _⟩, ?_⟩
  rintro n jv _ w12 ⟨j, rfl, hn, h12, hm12⟩
  refine ifD (fun hj => ?_) (fun hj => ?_)
  · have hj8 : j < 8 := by omega
    have hlen : (putAt bs a.toNat ((le8 xn).take j)).length = bs.length := putAt_length (by rw [List.length_take, le8_length]; omega)
    rw [wrap_i64 (n := 8 * (j : Int)) (by omega) (by omega)]
    refine ⟨by omega, by omega, hj, ?_⟩
    simp only [someA, add_mk, Int.toNat_natCast]
    have hb : IntKind.u8.wrap (shrV .u64 (xn : Int) (8 * (j : Int))) = ((UInt8.ofNat (xn / 256 ^ j)).toNat : Int) := by
      rw [show (8 : Int) * (j : Int) = ((8 * j : Nat) : Int) by omega, shrV_u64 (by omega) (by omega), wrap_u8_mod, u8_toNat, byte_at]
    rw [hb]
    refine h12.set (by rw [hlen]; omega) _ fun w1 h1 hm1 _ => ?_
    refine ⟨n - 1, by omega, j + 1, ?_, by omega, ?_, Mod.trans hm12 hm1 (fun _ _ x => x)⟩
    · rw [wrap_i64 (by omega) (by omega)]; omega
    · rw [putAt_snoc (by rw [le8_length]; omega) (le8_get _ hj8)] at h1
      exact h1
  · have hj8 : j = 8 := by omega
    subst hj8
    rw [List.take_of_length_le (by rw [le8_length]; omega)] at h12
    exact ⟨by trivial, post_of hm4 hf4 h12 hm12⟩

theorem or_step {acc b j : Nat} (hj : j < 8) (hacc : acc < 256 ^ j) (hb : b < 256) :
    bits .or .u64 (acc : Int) (shlV .u64 (IntKind.u64.wrap (b : Int)) ((8 * j : Nat) : Int)) = ((acc + b * 256 ^ j : Nat) : Int) := by
  have h256 : 256 ^ j = 2 ^ (8 * j) := by rw [Nat.pow_mul]
  have hp : (256 : Nat) ^ j ≤ 256 ^ 7 := Nat.pow_le_pow_right (by decide) (by omega)
  have h7 : (256 : Nat) ^ 7 = 72057594037927936 := by decide
  have hbm : b * 256 ^ j ≤ 255 * 256 ^ 7 := Nat.mul_le_mul (by omega) hp
  rw [wrap_u64 (by omega) (by omega), shlV_u64 _ (by omega), show (b : Int) * 2 ^ (8 * j) = ((b * 256 ^ j : Nat) : Int) by rw [h256]; norm_cast, wrap_u64 (by omega) (by omega), bits_or (by omega) (by omega)]
  congr 1
  rw [Nat.or_comm, h256, Nat.mul_comm]
  rw [h256] at hacc
  rw [← Nat.two_pow_add_eq_or_of_lt hacc]
  omega

theorem load_any (h : Ar w T p F bs ts) (a : Int) (hl : ts.length < 1099511627776) :
    Calls Try.prog 44 #[.pointer (some ⟨p, 0, none⟩), .int .i64 a] w (Ret fun r w' =>
      r = .tuple #[.int .u64 ((if OkA bs.length a 8 then leV (seg bs a.toNat 8) else 0 : Nat) : Int), .int .i64 (if OkA bs.length a 8 then 0 else 4)] ∧
      Post w T p F bs (if OkA bs.length a 8 then noteA ts a 8 false else ts) w') := by
  obtain ⟨gb, v, h, rfl⟩ := h
  have hsm := h.small
  refine VC.arena_Arena_Load.ok ?_
  unfold VC.arena_Arena_Load
  refine .of (has_any h a 8) ?_
  rintro r w1 ⟨rfl, rfl⟩
  refine ⟨_, rfl, ?_⟩
  by_cases hok : OkA bs.length a 8
  case neg =>
    simp only [if_neg hok]
    exact ifB_true rfl ⟨by trivial, Ar.same ⟨gb, v, h, rfl⟩⟩
  simp only [if_pos hok]
  refine ifB_false rfl ?_
  refine .of (touch_any h a 8 false hok hl) ?_
  rintro r w4 ⟨rfl, v', h4, hm4, hf4⟩
  refine ⟨_, _, _, rfl, ?_⟩
  rw [subA_data (by omega : a.toNat < bs.length)]
  have hsl : (seg bs a.toNat 8).length = 8 := seg_length (by omega)
  refine ⟨fun n acc i w12 => ∃ j : Nat, i = j ∧ n + j = 8 ∧ acc = (leV ((seg bs a.toNat 8).take j) : Int) ∧ w12 = w4, ⟨8, 0, rfl, rfl, by simp [leV], by trivial⟩, ?_⟩
  rintro n jv _ _ w12 ⟨j, rfl, hn, rfl, rfl⟩
  refine ifD (fun hj => ?_) (fun hj => ?_)
  · have hj8 : j < 8 := by omega
    obtain ⟨b, hb⟩ : ∃ b, (seg bs a.toNat 8)[j]? = some b := ⟨_, List.getElem?_eq_getElem (by omega)⟩
    have hb' : bs[a.toNat + j]? = some b := by rw [← hb, seg_get hj8]
    refine ⟨by omega, hj, ?_⟩
    simp only [someA, add_mk, Int.toNat_natCast]
    refine ⟨_, h4.byteAt hb', ?_⟩
    rw [wrap_i64 (n := 8 * (j : Int)) (by omega) (by omega)]
    refine ⟨by omega, n - 1, by omega, j + 1, ?_, by omega, ?_, by trivial⟩
    · rw [wrap_i64 (by omega) (by omega)]; omega
    · have hlt : leV ((seg bs a.toNat 8).take j) < 256 ^ j := by
        have := leV_lt ((seg bs a.toNat 8).take j)
        rwa [List.length_take, hsl, Nat.min_eq_left (by omega)] at this
      rw [leV_snoc _ _ _ hb, show (8 : Int) * (j : Int) = ((8 * j : Nat) : Int) by omega]
      exact or_step hj8 hlt b.toNat_lt
  · have hj8 : j = 8 := by omega
    subst hj8
    rw [List.take_of_length_le (by omega)]
    exact ⟨by trivial, post_of hm4 hf4 h4 (Mod.refl _ _)⟩

theorem read_any (h : Ar w T p F bs ts) (a k : Int) (hl : ts.length < 1099511627776) :
    Calls Try.prog 19 #[.pointer (some ⟨p, 0, none⟩), .int .i64 a, .int .i64 k] w (Ret fun r w' =>
      r = .tuple #[.string (if OkA bs.length a k then strOf (seg bs a.toNat k.toNat) else ByteArray.mk #[]), .int .i64 (if OkA bs.length a k then 0 else 4)] ∧
      Post w T p F bs (if OkA bs.length a k then noteA ts a k false else ts) w') := by
  obtain ⟨gb, v, h, rfl⟩ := h
  have hsm := h.small
  refine VC.arena_Arena_Read.ok ?_
  unfold VC.arena_Arena_Read
  refine .of (has_any h a k) ?_
  rintro r w1 ⟨rfl, rfl⟩
  refine ⟨_, rfl, ?_⟩
  by_cases hok : OkA bs.length a k
  case neg =>
    simp only [if_neg hok]
    exact ifB_true rfl ⟨by trivial, Ar.same ⟨gb, v, h, rfl⟩⟩
  simp only [if_pos hok]
  refine ifB_false rfl ?_
  refine .of (touch_any h a k false hok hl) ?_
  rintro r w4 ⟨rfl, v', h4, hm4, hf4⟩
  exact ⟨_, _, _, rfl, seg bs a.toNat k.toNat, seg_length (by omega), h4.part (by omega), by trivial, post_of hm4 hf4 h4 (Mod.refl _ _)⟩

theorem write_any (h : Ar w T p F bs ts) (a : Int) (s : ByteArray) (hl : ts.length < 1099511627776) :
    Calls Try.prog 33 #[.pointer (some ⟨p, 0, none⟩), .int .i64 a, .string s] w (Ret fun r w' => r = .int .i64 (if OkA bs.length a s.size then 0 else 4) ∧
      Post w T p F (if OkA bs.length a s.size then putAt bs a.toNat (bytesOf s) else bs) (if OkA bs.length a s.size then noteA ts a s.size true else ts) w') := by
  obtain ⟨gb, v, h, rfl⟩ := h
  have hsm := h.small
  refine VC.arena_Arena_Write.ok ?_
  unfold VC.arena_Arena_Write
  refine .of (has_any h a s.size) ?_
  rintro r w1 ⟨rfl, rfl⟩
  refine ⟨_, rfl, ?_⟩
  by_cases hok : OkA bs.length a s.size
  case neg =>
    simp only [if_neg hok]
    exact ifB_false rfl ⟨by trivial, Ar.same ⟨gb, v, h, rfl⟩⟩
  simp only [if_pos hok]
  refine ifB_true rfl ?_
  refine .of (touch_any h a s.size true hok hl) ?_
  rintro r w4 ⟨rfl, v', h4, hm4, hf4⟩
  refine ⟨_, _, _, rfl, ?_⟩
  obtain ⟨o, ho, ho'⟩ := subA_some gb a.toNat bs.length
  rw [ho]
  have hbl := bytesOf_length s
  have hfit : o + s.size ≤ bs.length := by omega
  have hrun := Lib.run_copy_row_string (P := Try.prog) w4 41 9 3 5 gb o (s.size : Int).toNat (bs.length - a.toNat) s (bC bs).toArray 5 (by kernel_rfl) (by kernel_rfl) h4.data (by omega) (by simp [bC]; omega)
  have hp := h4.setRow o (bytesOf s) (by omega)
  refine ⟨_, _, hrun, by trivial, ?_⟩
  have e : putAt bs a.toNat (bytesOf s) = putAt bs o (bytesOf s) := by
    rcases ho' with rfl | ⟨h1, h2⟩
    · rfl
    · have : bytesOf s = [] := List.eq_nil_of_length_eq_zero (by omega)
      rw [this, putAt_nil, putAt_nil]
  rw [e]
  have hp1 := hp.1
  have hp2 := hp.2
  rw [hbl] at hp1 hp2
  exact post_of hm4 hf4 hp1 hp2

theorem clear_none {P : Program} (w : World) (t e ty : TypeId) (ht : P.underlying t = some (.slice e)) (q : Option Addr) (c : Nat) : (Builtin.clear_ #[t] ty #[.slice q 0 c]).run P w = .ok (.tuple #[]) w := by
  cases q <;> simp [Builtin.clear_, run_underlying ht]

theorem run_clear_bytes (h : AR w T p gb v bs ts) (o n c : Nat) (hn : o + n ≤ bs.length) :
    ∃ w1, (Builtin.clear_ #[41] 0 #[.slice (some ⟨gb, o, none⟩) n c]).run Try.prog w = .ok (.tuple #[]) w1 ∧ AR w1 T p gb v (putAt bs o (List.replicate n 0)) ts ∧ Mod (· = gb) w w1 := by
  by_cases hn0 : n = 0
  · subst hn0
    refine ⟨w, clear_none w 41 5 0 (by kernel_rfl) _ c, ?_, Mod.refl _ _⟩
    simpa [putAt_nil] using h
  · have hz : ∀ w, (zeroValue 5).run Try.prog w = .ok (.int .u8 0) w := fun _ => by kernel_rfl
    have hp := h.setRow o (List.replicate n 0) (by simpa using hn)
    have hzc : (Builtin.zeroCells (Value.int .u8 0).cells n).toList = bC (List.replicate n 0) := by
      apply List.ext_getElem?
      intro j
      rw [bC_get]
      by_cases hj : j < n
      · simp [Builtin.zeroCells, Value.cells, hj, Nat.mod_one]
      · simp [Builtin.zeroCells, Value.cells, hj]
    have hst := run_storeCells_at Try.prog gb o 5 (bC (List.replicate n 0)) 0 (bC bs).toArray w h.data (by simp [bC]; omega) (bC_one _)
    have hlen : (bC (List.replicate n 0)).length = n := by simp [bC]
    simp only [Nat.add_zero, hlen] at hst
    have hlen2 : (List.replicate n (0 : UInt8)).length = n := by simp
    rw [hlen2] at hp
    refine ⟨_, ?_, hp.1, hp.2⟩
    obtain ⟨m, rfl⟩ : ∃ m, n = m + 1 := ⟨n - 1, by omega⟩
    simp [Builtin.clear_, run_underlying (P := Try.prog) (t := 41) (d := .slice 5) (by kernel_rfl), hz, hzc, hst]

theorem zero_any (h : Ar w T p F bs ts) (a k : Int) (hl : ts.length < 1099511627776) :
    Calls Try.prog 68 #[.pointer (some ⟨p, 0, none⟩), .int .i64 a, .int .i64 k] w (Ret fun r w' => r = .int .i64 (if OkA bs.length a k then 0 else 4) ∧
      Post w T p F (if OkA bs.length a k then putAt bs a.toNat (List.replicate k.toNat 0) else bs) (if OkA bs.length a k then noteA ts a k true else ts) w') := by
  obtain ⟨gb, v, h, rfl⟩ := h
  have hsm := h.small
  refine VC.arena_Arena_Zero.ok ?_
  unfold VC.arena_Arena_Zero
  refine .of (has_any h a k) ?_
  rintro r w1 ⟨rfl, rfl⟩
  refine ⟨_, rfl, ?_⟩
  by_cases hok : OkA bs.length a k
  case neg =>
    simp only [if_neg hok]
    exact ifB_false rfl ⟨by trivial, Ar.same ⟨gb, v, h, rfl⟩⟩
  simp only [if_pos hok]
  refine ifB_true rfl ?_
  refine .of (touch_any h a k true hok hl) ?_
  rintro r w4 ⟨rfl, v', h4, hm4, hf4⟩
  refine ⟨_, _, _, rfl, ?_⟩
  obtain ⟨o, ho, ho'⟩ := subA_some gb a.toNat bs.length
  rw [ho]
  obtain ⟨w5, hr, h5, hm5⟩ := run_clear_bytes h4 o k.toNat (bs.length - a.toNat) (by omega)
  refine ⟨w5, hr, by trivial, ?_⟩
  have e : putAt bs a.toNat (List.replicate k.toNat 0) = putAt bs o (List.replicate k.toNat 0) := by
    rcases ho' with rfl | ⟨h1, h2⟩
    · rfl
    · rw [show k.toNat = 0 by omega, List.replicate_zero, putAt_nil, putAt_nil]
  rw [e]
  exact post_of hm4 hf4 h5 hm5

theorem noteA_len (ts : List Tch) (a k : Int) (b : Bool) : (noteA ts a k b).length ≤ ts.length + 1 := by
  unfold noteA
  split
  · simp
  · omega

theorem size_any (h : Ar w T p F bs ts) : Calls Try.prog 20 #[.pointer (some ⟨p, 0, none⟩)] w (Ret fun r w' => r = .int .i64 bs.length ∧ w' = w) := by
  obtain ⟨gb, v, h, rfl⟩ := h
  refine VC.arena_Arena_Size.ok ?_
  unfold VC.arena_Arena_Size
  exact ifB_false rfl ⟨_, _, _, h.slot0, rfl, rfl⟩

theorem forget_step {K : World → Prop} (h : Ar w T p F bs ts) (hK : ∀ w', Post w T p F bs [] w' → K w') :
    WrC w ((Addr.mk p 0 none).add 1) 1 ∧ ∀ w1, w1 = wr w ((Addr.mk p 0 none).add 1) [Value.slice none 0 0] → K w1 := by
  obtain ⟨gb, v, h, rfl⟩ := h
  rw [add_mk]
  refine wr_intro (n := 1) h.head (by simp) fun w1 h1 hm hs => hK w1 ⟨_, ⟨gb, .slice none 0 0, h.turn hm (by simpa [setAt] using h1) (TRow.nil _) (by simp [Value.ownBlock]) (by simp [Value.ownBlock]), rfl⟩, hm.mono (fun _ q => .inl q), fun k hk => .inl ?_⟩
  rcases hk with q | q | q
  · exact .inl q
  · exact .inr (.inl q)
  · simp [Value.ownBlock] at q

theorem touched_any (h : Ar w T p F bs ts) (hl : ts.length < 1099511627776) :
    Calls Try.prog 22 #[.pointer (some ⟨p, 0, none⟩)] w (Ret fun r w' => TRow w' r ts ∧ Ext w w' ∧ ∀ k, r.ownBlock = some k → w.heap.size ≤ k) := by
  obtain ⟨gb, v, h, rfl⟩ := h
  refine VC.arena_Arena_Touched.ok ?_
  unfold VC.arena_Arena_Touched
  refine ifB_false rfl (al_intro fun n w1 hb hE hs hs1 => ?_)
  have h1 := h.ext hE
  obtain ⟨q, c, rfl⟩ := h1.row.shape
  refine ⟨q, _, c, h1.slot1, ?_⟩
  have hown : w1.ownsRow 0 50 3 (.slice (some ⟨n, 0, none⟩) 0 0) 0 [] := ⟨rfl, .inr ⟨n, 0, #[], rfl, Nat.zero_le _, hb, Nat.zero_le _, Nat.zero_le _, rfl, rfl⟩⟩
  obtain ⟨i, hi, hsz, hby, hz⟩ : ∃ i, Try.prog.info? 50 = some i ∧ i.size = 3 ∧ i.bytes = 24 ∧ i.zero = some (.agg #[.int .i64 0, .int .i64 0, .bool false]) := info_of (by kernel_rfl)
  rcases h1.row.2 with ⟨e, h0⟩ | ⟨g, cap, cur, e, _⟩
  · obtain ⟨rfl, _, rfl⟩ := Value.slice.inj e
    have hts : ts = [] := List.eq_nil_of_length_eq_zero h0
    subst hts
    refine ⟨_, _, _, w1, append_none w1 47 47 50 i (by kernel_rfl) hi _ 0 0 (Nat.le_refl _), hown, hE, fun k hk => ?_⟩
    simp [Value.ownBlock] at hk
    omega
  · obtain ⟨rfl, _, rfl⟩ := Value.slice.inj e
    obtain ⟨v', w', hr, ho, hg, hne⟩ := append_own (P := Try.prog) w1 47 47 50 i _ 3 24 (by kernel_rfl) hi hz hsz hby rfl _ 0 [] hown ⟨g, 0, none⟩ ts.length c (tcells ts) (by rw [tcells_length]) (World.ownsRow.cells h1.row (g := g) rfl)
      (tcells_one ts) (by simp only [maxLen]; omega) (by omega)
    simp only [List.nil_append, Nat.zero_add] at ho
    obtain ⟨q', c', rfl⟩ := TRow.shape (w := w') (v := v') (ts := ts) ho
    refine ⟨q', _, c', w', hr, ho, Ext.new hE hg (fun k hk => ?_), fun k hk => ?_⟩
    · simp [Value.ownBlock] at hk; omega
    · rcases hne k hk with q | q
      · simp [Value.ownBlock] at q; omega
      · have := hE.size; omega

end

end Go.Proofs.Ytnjjgpjpodmgpaa
