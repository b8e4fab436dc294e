/- Statements of layer 16 (view): ViewBack. Conditions: the arguments' cells are there. -/
import Derived.Test.YtnjjgpjpodmgpaaWViewB
set_option linter.unusedVariables false
set_option linter.unusedSimpArgs false
namespace Go.Proofs.Ytnjjgpjpodmgpaa
open Go.RowKit Go.Maps

/-- The set of these numbers. -/
def setN (l : List Nat) : Int → Option Value := fun x => if 0 ≤ x ∧ x.toNat ∈ l then some (.bool true) else none

theorem setN_snoc (l : List Nat) (c : Nat) : upd (setN l) (c : Int) (some (.bool true)) = setN (l ++ [c]) := by
  funext x
  unfold upd setN
  by_cases e : x = (c : Int)
  · subst e; simp
  · rw [if_neg e]
    by_cases h0 : 0 ≤ x
    · obtain ⟨n, rfl⟩ := Int.eq_ofNat_of_zero_le h0
      have : n ≠ c := fun q => e (by rw [q])
      simp [this]
    · rw [if_neg (fun q => h0 q.1), if_neg (fun q => h0 q.1)]

theorem setN_at (l : List Nat) (n : Nat) : setN l (n : Int) = if n ∈ l then some (.bool true) else none := by
  unfold setN
  rw [Int.toNat_natCast]
  by_cases h : n ∈ l
  · rw [if_pos ⟨by omega, h⟩, if_pos h]
  · rw [if_neg (fun q => h q.2), if_neg h]

theorem uMB : Try.prog.underlying 32 = some (.map 3 4) := by kernel_rfl
theorem zMB (w : World) : (zeroValue 4).run Try.prog w = .ok (.bool false) w := by kernel_rfl

/-- The set, and the row of pieces, at a place of the loops. -/
def Js (w0 : World) (q : Option Addr) (c mb : Nat) (L : List Pc) (P : List Nat) (w : World) : Prop :=
  TRow w (.slice q L.length c) (spT L) ∧ IMap w Try.prog 3 .i64 mb (setN P) P.length ∧ Ext w0 w ∧ w0.heap.size ≤ mb ∧ (Value.slice q L.length c).ownBlock ≠ some mb

theorem Js.ext {w0 w w' : World} {q : Option Addr} {c mb : Nat} {L : List Pc} {P : List Nat} (h : Js w0 q c mb L P w) (hE : Ext w w') : Js w0 q c mb L P w' :=
  ⟨h.1.keep hE (fun _ _ x => x), h.2.1.ext hE, h.2.2.1.trans hE, h.2.2.2⟩

theorem Js.put {w0 w : World} {q : Option Addr} {c mb : Nat} {L : List Pc} {P : List Nat} (h : Js w0 q c mb L P w) {x : Nat} (hx : x ≤ 1000000000) (hn : x ∉ P) (hl : P.length ≤ 4000000) :
    ∃ w', (Instr.mapUpdate 32 (.map (some mb)) (.int .i64 (x : Int)) (.bool true)).run Try.prog w = .ok () w' ∧ Js w0 q c mb L (P ++ [x]) w' := by
  obtain ⟨h1, h2, h3, h4, h5⟩ := h
  obtain ⟨w', hr, hi, hm, hs⟩ := h2.store uTI uMB (by simp only [maxLen]; omega) (i64w (x := (x : Int)) (by omega) (by omega)) (.bool true)
  rw [setN_at, if_neg hn, setN_snoc] at hi
  refine ⟨w', hr, h1.keep hm (fun k hk e => h5 (by rw [← e]; exact hk)), ?_, h3.new hm (fun k e => by rw [e]; exact h4), h4, h5⟩
  rw [List.length_append]
  exact hi

set_option maxRecDepth 20000 in
theorem core_ViewBack (w : World) {pa : Option Addr} {cap : Nat} {l : List MOp} (hrow : RowAt w pa 3 mopF l) (first : ByteArray) (addr : Int) (data : ByteArray) :
    Calls Try.prog 8 #[.slice pa l.length cap, .string first, .int .i64 addr, .string data] w (Ret (Yes w)) := by
  refine VC.garthlaw16_ViewBack.ok ?_
  unfold VC.garthlaw16_ViewBack
  refine awake_any w fun w1 hE1 => ⟨_, rfl, ifB_false rfl ?_⟩
  refine ifD (fun _ => awake_any w1 fun w2 hE2 => ⟨_, rfl, rfl, hE1.trans hE2⟩) (fun hl60 => ?_)
  refine ifD (fun _ => awake_any w1 fun w2 hE2 => ⟨_, rfl, rfl, hE1.trans hE2⟩) (fun hf4 => ?_)
  refine ifD (fun _ => awake_any w1 fun w2 hE2 => ⟨_, rfl, rfl, hE1.trans hE2⟩) (fun hn4 => ?_)
  refine .of (new_any 4096 w1) ?_
  rintro v w3 (⟨q, _, _⟩ | ⟨_, _, ap, F, rfl, hA, hE3, hF⟩)
  · exact absurd ⟨by omega, by omega⟩ q
  have z12 := hE1.size
  refine ⟨_, _, rfl, tnew_any w3 fun tb m1 m2 w4 ht hE4 hT => ⟨_, rfl, ?_⟩⟩
  have h4 : VS w (fun _ => False) ap tb (List.replicate 4096 0) [] [] w4 := VS.start (p := 0) hA (hE1.trans hE3) (fun k hk => Nat.le_trans z12 (hF k hk)) ht hE4 hT
  refine ⟨fun n i w5 => ∃ j : Nat, i = (j : Int) ∧ n + j = l.length ∧ Pl w ap tb 4096 j w5, ⟨l.length, 0, rfl, rfl, _, _, h4, List.length_replicate, Nat.le_refl _⟩, ?_⟩
  rintro n jv i w5 ⟨j, rfl, hn, bs, T, h5, hbl, hTl⟩
  refine ifD (fun hj => ⟨by omega, by omega, ?_⟩) (fun hj => ?_)
  · have hj : j < l.length := by omega
    have ew : IntKind.i64.wrap ((j : Int) + 1) = ((j + 1 : Nat) : Int) := by rw [wrap_i64 (by omega) (by omega)]; omega
    rw [ew]
    obtain ⟨z, hz⟩ : ∃ z, l[j]? = some z := ⟨_, List.getElem?_eq_getElem hj⟩
    rw [Int.toNat_natCast]
    refine (hrow.ext h5.ext).mop hz (al_intro fun b w6 hb6 hE6 hs6 _ => ?_)
    refine wr_intro (n := 3) hb6 (by simp) fun w7 hb7 hm7 hs7 => ?_
    have hE7 : Ext w5 w7 := hE6.new hm7 (fun k hk => by subst hk; omega)
    have h7 := h5.mod hE7.mod
    refine ⟨_, by rw [add_mk]; exact cell_blk hb7 rfl, ifB_intro (fun _ => ?_) (fun _ => ⟨n - 1, by omega, j + 1, rfl, by omega, bs, T, h7, hbl, by omega⟩)⟩
    refine ⟨_, by rw [add_mk]; exact cell_blk hb7 rfl, _, by rw [add_mk]; exact cell_blk hb7 rfl, h7.map (by omega) _ _ fun w8 h8 _ => ⟨_, rfl, n - 1, by omega, j + 1, rfl, by omega, bs, _, h8, hbl, ?_⟩⟩
    have := mapT_len T z.2.1 z.2.2.1; omega
  · have gT := h5.ok.1
    refine h5.awrite (a := 0) (by simp) (by omega) fun w6 ts6 t6 h6 _ => ⟨_, rfl, ?_⟩
    have hbl6 : (putAt bs 0 (bytesOf first)).length = 4096 := by rw [putAt_length (by rw [bytesOf_length]; omega)]; exact hbl
    generalize putAt bs 0 (bytesOf first) = b1 at h6 hbl6
    have b20 : b1.length ≤ 2097152 := by omega
    simp only [List.length_nil] at t6
    refine h6.aread (a := 0) (n := 4096) (by omega) (by omega) fun w7 ts7 t7 h7 _ => ⟨_, _, rfl, ?_⟩
    have g1 := vL_len T b1.length addr data.size b20
    refine h7.write (by omega) addr data fun w8 h8 _ => ⟨_, rfl, ?_⟩
    have inL := vL_in T b1.length addr data.size b20
    have hwl := wrB_len (d := bytesOf data) (vL T b1.length addr data.size) inL
    refine h8.aread (a := 0) (n := 4096) (by rw [List.length_append, tchL_len]; omega) (by omega) fun w9 ts9 t9 h9 _ => ⟨_, _, rfl, ?_⟩
    rw [List.length_append, tchL_len] at t9
    rw [seg_all b1 (by omega), seg_all (wrB b1 (vL T b1.length addr data.size) (bytesOf data)) (by omega)]
    rcases vE_cases T b1.length addr data.size with ⟨c1, c2⟩ | ⟨c1, L, c2, c3⟩
    · rw [c1, c2]
      exact ifB_true rfl (ifB_true (decide_eq_true rfl) ⟨rfl, h9.ext⟩)
    rw [c1]
    refine ifB_false rfl ?_
    obtain ⟨iL, pL, lL, sL, eL⟩ := vpc_facts c2 b20
    have nd := vpc_nodup gT c2
    refine h9.read (by omega) addr data.size fun w10 h10 _ => ⟨_, _, rfl, ?_⟩
    rw [hwl, c1]
    have hd : (bytesOf data).length = sumN L := by rw [bytesOf_length]; omega
    have erd : strOf (rdB (wrB b1 (vL T b1.length addr data.size) (bytesOf data)) (vL T b1.length addr data.size)) = data := by
      rw [c3, rd_wr L iL nd hd]
      exact bytesOf_ext rfl
    rw [erd]
    refine ifB_false rfl (ifB_false (by simp) ?_)
    obtain ⟨m1', m2', F', a', t', _, _, _, hE10⟩ := h10
    have epc := (vpc_some c2).1
    refine t'.pieces addr data.size (fun e => by rw [epc] at e; cases e) (fun L' q c w11 e row hE11 hown => ?_)
    obtain rfl : L = L' := by rw [epc] at e; exact Option.some.inj e
    refine ⟨_, _, _, _, rfl, some w11.heap.size, w11.alloc (.map #[] 0), run_makeMap _ w11, ?_⟩
    have hE12 := Ext.alloc w11 (.map #[] 0)
    obtain ⟨mb, hmb⟩ : ∃ B, B = w11.heap.size := ⟨_, rfl⟩
    have hm12 : IMap (w11.alloc (.map #[] 0)) Try.prog 3 .i64 mb (fun _ => none) 0 := by
      rw [hmb]
      exact IMap.made w11 Try.prog 3 .i64
    rw [← hmb]
    generalize w11.alloc (.map #[] 0) = w12 at hE12 hm12
    have z10 := hE10.size
    have z11 := hE11.size
    have J0 : Js w q c mb L [] w12 := by
      refine ⟨row.keep hE12 (fun _ _ x => x), ?_, (hE10.trans hE11).trans hE12, by omega, fun e => by have := row.lt' mb e; omega⟩
      have : setN [] = fun _ => none := by funext x; unfold setN; rw [if_neg (fun q => by cases q.2)]
      rw [this]
      exact hm12
    have small : ∀ x ∈ flat L, x ≤ 1000000000 := fun x hx => by
      obtain ⟨s, hs, hx⟩ := List.mem_flatMap.1 hx
      have := iL s hs
      have := List.mem_range'_1.1 hx
      omega
    have fl := flat_sum L
    refine ⟨fun f i w13 => ∃ j : Nat, i = (j : Int) ∧ f + j = L.length ∧ Js w q c mb L (flat (L.take j)) w13, ⟨L.length, 0, rfl, rfl, J0⟩, ?_⟩
    rintro f jv i w13 ⟨j, rfl, hf, hJ⟩
    refine ifD (fun hj => ⟨by omega, by omega, ?_⟩) (fun hj => ?_)
    · have hj : j < L.length := by omega
      have ew : IntKind.i64.wrap ((j : Int) + 1) = ((j + 1 : Nat) : Int) := by rw [wrap_i64 (by omega) (by omega)]; omega
      rw [ew]
      obtain ⟨s, hs⟩ : ∃ s, L[j]? = some s := ⟨_, List.getElem?_eq_getElem hj⟩
      have hr := hJ.1
      rw [← spT_len L] at hr
      obtain ⟨a, rfl, hc⟩ := hr.cells (spT_get hs)
      have hps := pL s (List.mem_of_getElem? hs)
      have hin := iL s (List.mem_of_getElem? hs)
      rw [Int.toNat_natCast]
      refine ⟨_, _, _, hc, al_intro fun b w14 hb14 hE14 hs14 _ => ?_⟩
      refine wr_intro (n := 3) hb14 (by simp) fun w15 hb15 hm15 hs15 => ?_
      have hE15 : Ext w13 w15 := hE14.new hm15 (fun k hk => by subst hk; omega)
      have mlt := hJ.2.1.lt
      refine ⟨_, by rw [add_mk]; exact cell_blk hb15 rfl, fun f2 i2 w16 => ∃ k : Nat, i2 = (k : Int) ∧ f2 + k = s.2 ∧ Js w (some a) c mb L (flat (L.take j) ++ List.range' s.1 k) w16 ∧ w16.heap[b]? = some (.cells #[.int .i64 (s.1 : Int), .int .i64 (s.2 : Int), .bool false] 50 (0, 0)), ⟨s.2, 0, rfl, rfl, by simpa using hJ.ext hE15, hb15⟩, ?_⟩
      rintro f2 jv2 i2 w16 ⟨k, rfl, hf2, hJ2, hb16⟩
      have hfl : flat L = flat (L.take j) ++ List.range' s.1 s.2 ++ flat (L.drop (j + 1)) := by
        rw [← flat_snoc, ← flat_append, ← take_snoc hs, List.take_append_drop]
      refine ifD (fun hk => ?_) (fun hk => ⟨f - 1, by omega, j + 1, rfl, by omega, ?_⟩)
      · have hk : k < s.2 := by have hk : (k : Int) < (s.2 : Int) := hk; omega
        have eat : IntKind.i64.wrap ((s.1 : Int) + (k : Int)) = ((s.1 + k : Nat) : Int) := by rw [wrap_i64 (by omega) (by omega)]; omega
        refine ⟨_, by rw [add_mk]; exact cell_blk hb16 rfl, ?_⟩
        rw [eat]
        have hmem : s.1 + k ∈ flat L := by
          rw [hfl]
          exact List.mem_append_left _ (List.mem_append_right _ (List.mem_range'_1.2 ⟨by omega, by omega⟩))
        have hnot : s.1 + k ∉ flat (L.take j) ++ List.range' s.1 k := by
          rw [hfl] at nd
          obtain ⟨n1, _, _⟩ := List.nodup_append.1 nd
          obtain ⟨_, _, n3⟩ := List.nodup_append.1 n1
          intro q
          rcases List.mem_append.1 q with q | q
          · exact n3 _ q _ (List.mem_range'_1.2 ⟨by omega, by omega⟩) rfl
          · have := List.mem_range'_1.1 q; omega
        have hpl : (flat (L.take j) ++ List.range' s.1 k).length ≤ 4000000 := by
          have := congrArg List.length hfl
          simp only [List.length_append, List.length_range'] at this ⊢
          omega
        obtain ⟨w17, hr17, hJ17⟩ := hJ2.put (small _ hmem) hnot hpl
        refine ⟨w17, hr17, f2 - 1, by omega, k + 1, ?_, by omega, ?_, ?_⟩
        · rw [wrap_i64 (by omega) (by omega)]; omega
        · rw [List.append_assoc, ← List.range'_1_concat] at hJ17
          exact hJ17
        · obtain ⟨wx, hrx, hix, hmx, hsx⟩ := hJ2.2.1.store uTI uMB (by simp only [maxLen]; omega) (i64w (x := ((s.1 + k : Nat) : Int)) (by omega) (by omega)) (.bool true)
          rw [hrx] at hr17
          injection hr17 with _ hr17
          subst hr17
          exact hmx.keep hb16 (fun e => by omega)
      · have : k = s.2 := by have hk : ¬ (k : Int) < (s.2 : Int) := hk; omega
        subst this
        rw [take_snoc hs, flat_snoc]
        exact hJ2
    · have : j = L.length := by omega
      subst this
      rw [List.take_length] at hJ
      refine ⟨fun f i w14 => ∃ k : Nat, i = (k : Int) ∧ f + k = 4096 ∧ Js w q c mb L (flat L) w14, ⟨4096, 0, rfl, rfl, hJ⟩, ?_⟩
      rintro f jv i w14 ⟨k, rfl, hf, hJ⟩
      refine ifD (fun hk => ?_) (fun hk => ?_)
      · have hk : k < 4096 := by omega
        rintro w15 rfl
        have hJ15 := hJ.ext (Ext.drew w14)
        have lk := hJ15.2.1.look uTI uMB (zMB _) (i64w (x := (k : Int)) (by omega) (by omega))
        rw [setN_at] at lk
        have next : ∃ n100 : Nat, n100 < f ∧ ∃ k' : Nat, IntKind.i64.wrap ((k : Int) + 1) = (k' : Int) ∧ n100 + k' = 4096 ∧ Js w q c mb L (flat L) w14.drew := ⟨f - 1, by omega, k + 1, by rw [wrap_i64 (by omega) (by omega)]; omega, by omega, hJ15⟩
        by_cases hm : k ∈ flat L
        · rw [if_pos hm] at lk
          exact ⟨_, _, lk, rfl, rfl, ifB_false rfl ⟨rfl, next⟩⟩
        · rw [if_neg hm] at lk
          have hb1 : ∃ u, b1[k]? = some u := ⟨_, List.getElem?_eq_getElem (by omega)⟩
          obtain ⟨u, hu⟩ := hb1
          have hout := wrB_out (bs := b1) (d := bytesOf data) L iL k hm
          refine ⟨_, _, lk, rfl, rfl, ifB_true rfl ⟨by omega, u, ?_, rfl, by omega, u, ?_, rfl, rfl, ifB_false (by simp) next⟩⟩
          · rw [Int.toNat_natCast, str_get, bytesOf_strOf, c3, hout]; exact hu
          · rw [Int.toNat_natCast, str_get, bytesOf_strOf]; exact hu
      · have hlen := hJ.2.1.len uMB 3
        rw [fl] at hlen
        refine ⟨_, w14, hlen, ?_, hJ.2.2.1⟩
        rw [show ((sumN L : Int) == (data.size : Int)) = true by rw [eL]; simp]

theorem walk_ViewBack (w : World) (x : MOpsSh.T) (ok : MOpsSh.Ok w x) (s : ByteArray) (_ : s.size ≤ maxLen) (_ : s.size ≤ reachBytes) (a2 : Int) (_ : -9223372036854775808 ≤ a2 ∧ a2 ≤ 9223372036854775807) (t : ByteArray) (_ : t.size ≤ maxLen) (_ : t.size ≤ reachBytes) :
    Calls Try.prog 8 #[MOpsSh.val x, .string s, .int .i64 a2, .string t] w (Ret (Yes w)) :=
  core_ViewBack w (l := x.2) (mops_row ok) s a2 t

end Go.Proofs.Ytnjjgpjpodmgpaa
