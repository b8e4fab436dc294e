/- Contracts of package view: Zero, Write. Conditions: arena and table are there. -/
import Derived.Test.YtnjjgpjpodmgpaaVwB
set_option linter.unusedVariables false
set_option linter.unusedSimpArgs false
namespace Go.Proofs.Ytnjjgpjpodmgpaa
open Go.RowKit Go.Maps

def vE (T : Tb) (size : Nat) (addr n : Int) : Int := match vpc T size addr n with | none => 4 | some _ => 0
def vL (T : Tb) (size : Nat) (addr n : Int) : List Pc := match vpc T size addr n with | none => [] | some l => l

section
variable {w w' : World} {tb m1 m2 ap : Nat} {T : Tb} {F : Nat → Prop} {bs : List UInt8} {ts : List Tch} {R : Value → World → Prop}

theorem post_ext {TA : TypeId} (ha : Ar w TA ap F bs ts) (hE : Ext w w') : Post w TA ap F bs ts w' := ⟨F, ha.keep hE (fun _ _ x => x), hE.mod, fun k hk => .inl hk⟩

theorem vE_none {addr n : Int} (e : vpc T bs.length addr n = none) : vE T bs.length addr n = 4 ∧ vL T bs.length addr n = [] := by
  unfold vE vL
  rw [e]
  exact ⟨rfl, rfl⟩
theorem vE_some {addr n : Int} {l : List Pc} (e : vpc T bs.length addr n = some l) : vE T bs.length addr n = 0 ∧ vL T bs.length addr n = l := by
  unfold vE vL
  rw [e]
  exact ⟨rfl, rfl⟩

theorem each67 {a : Option Addr} {l c : Nat} {k : Option Addr} (h : EachP 67 (fun s d => #[s, d, .pointer k]) a l c w R) : VC.view_each_67 a l c k w R := by
  have e : VC.view_each_67 a l c k w R = EachP 67 (fun s d => #[s, d, .pointer k]) a l c w R := by
    unfold VC.view_each_67 EachP
    congr 2
  rw [e]; exact h
theorem each61 {a : Option Addr} {l c : Nat} {k k' : Option Addr} (h : EachP 61 (fun s d => #[s, d, .pointer k, .pointer k']) a l c w R) : VC.view_each_61 a l c k k' w R := by
  have e : VC.view_each_61 a l c k k' w R = EachP 61 (fun s d => #[s, d, .pointer k, .pointer k']) a l c w R := by
    unfold VC.view_each_61 EachP
    congr 2
  rw [e]; exact h
theorem each62 {a : Option Addr} {l c : Nat} {k k' : Option Addr} (h : EachP 62 (fun s d => #[s, d, .pointer k, .pointer k']) a l c w R) : VC.view_each_62 a l c k k' w R := by
  have e : VC.view_each_62 a l c k k' w R = EachP 62 (fun s d => #[s, d, .pointer k, .pointer k']) a l c w R := by
    unfold VC.view_each_62 EachP
    congr 2
  rw [e]; exact h

/-- What each's rounds keep: the arena. -/
def Jz (w0 : World) (ap : Nat) (F : Nat → Prop) (b : Nat → List UInt8) (t : Nat → List Tch) (i : Nat) (w : World) : Prop :=
  ∃ F', Ar w 107 ap F' (b i) (t i) ∧ Mod F w0 w ∧ ∀ k, F' k → F k ∨ w0.heap.size ≤ k

theorem Jz.post {w0 : World} {b : Nat → List UInt8} {t : Nat → List Tch} {i : Nat} (h : Jz w0 ap F b t i w') (hE : Ext w w0) : Post w 107 ap F (b i) (t i) w' := by
  obtain ⟨F', a, m, f⟩ := h
  exact ⟨F', a, Mod.trans hE.mod m (fun _ _ x => x), fun k hk => (f k hk).imp id (fun x => Nat.le_trans hE.size x)⟩

/-- A call on the arena, in a round. -/
theorem Jz.next {w0 w1 w2 : World} {b : Nat → List UInt8} {t : Nat → List Tch} {i : Nat} {F' : Nat → Prop} (hm : Mod F w0 w1) (hf : ∀ k, F' k → F k ∨ w0.heap.size ≤ k)
    (hp : Post w1 107 ap F' (b (i + 1)) (t (i + 1)) w2) : Jz w0 ap F b t (i + 1) w2 := by
  obtain ⟨F2, a, m, f⟩ := hp
  refine ⟨F2, a, Mod.trans hm m (fun k hk x => (hf k x).elim id (fun y => by omega)), fun k hk => ?_⟩
  rcases f k hk with x | x
  · exact hf k x
  · exact .inr (Nat.le_trans hm.size x)

theorem vzero (ha : Ar w 107 ap F bs ts) (h : PT w tb m1 m2 T) (hl : ts.length < 500000000000) (addr n : Int)
    (r : ∀ w', Post w 107 ap F (zrB bs (vL T bs.length addr n)) (ts ++ tchL (vL T bs.length addr n) true) w' → R (.int .i64 (vE T bs.length addr n)) w') :
    CallS Try.prog 38 #[.pointer (some ⟨ap, 0, none⟩), .pointer (some ⟨tb, 0, none⟩), .int .i64 addr, .int .i64 n] w R := by
  have hsm := ha.small
  have hlt := ha.lt
  constructor
  refine VC.view_Zero.ok ?_
  unfold VC.view_Zero
  refine al_intro fun b0 w1 hb0 hE1 hs1 _ => ⟨_, cell_blk hb0 rfl, view_pieces (ha.keep hE1 (fun _ _ x => x)) (h.ext hE1) addr n (fun e w2 hE2 => ?_) (fun l q c w2 e row hE2 hown => ?_)⟩
  · obtain ⟨e1, e2⟩ := vE_none e
    rw [e1, e2] at r
    exact ⟨_, _, _, _, rfl, ifB_false rfl (r w2 (by simpa [zrB, tchL] using post_ext ha (hE1.trans hE2)))⟩
  · obtain ⟨e1, e2⟩ := vE_some e
    rw [e1, e2] at r
    obtain ⟨inp, pos, len, sum, _⟩ := vpc_facts e hsm
    have hE12 := hE1.trans hE2
    have hb2 := hE2.keep hb0
    have z1 := hE1.size
    refine ⟨_, _, _, _, rfl, ifB_true rfl ⟨VC.view_each_67.ok (each67 ?_)⟩⟩
    refine each_any (J := Jz w2 ap F (fun i => zrB bs (l.take i)) (fun i => ts ++ tchL (l.take i) true)) sum len (fun i w3 hj => ?_) ⟨F, by simpa [zrB, tchL] using ha.keep hE12 (fun _ _ x => x), Mod.refl _ _, fun k hk => .inl hk⟩ (fun i s w3 hs hj => ?_) (fun w3 hj => ⟨rfl, r w3 ?_⟩)
    · obtain ⟨F', _, m, _⟩ := hj
      exact row.keep m (fun k hk x => by have := hown k hk; have := hlt k x; omega)
    · obtain ⟨F', a, m, f⟩ := hj
      have hb3 := m.keep hb2 (fun x => by have := hlt b0 x; omega)
      have hsl := inp s (List.mem_of_getElem? hs)
      have hps := pos s (List.mem_of_getElem? hs)
      have inpt : InP bs.length (l.take i) := fun u hu => inp u (List.mem_of_mem_take hu)
      have hzl := zrB_len (l.take i) inpt
      constructor
      refine VC.view_Zero_1.ok ?_
      unfold VC.view_Zero_1
      refine al_intro fun b4 w4 hb4 hE4 _ _ => ?_
      have hb44 := hE4.keep hb3
      refine ⟨_, cell_blk hb44 rfl, _, by rw [add_mk]; exact cell_blk hb4 rfl, _, by rw [add_mk]; exact cell_blk hb4 rfl, .of (zero_any (a.keep hE4 (fun _ _ x => x)) _ _ (by rw [List.length_append, tchL_len, List.length_take]; omega)) ?_⟩
      rintro v w5 ⟨rfl, hp⟩
      have ok : OkA (zrB bs (l.take i)).length (s.1 : Int) (s.2 : Int) := ⟨by omega, by omega, by rw [hzl]; omega⟩
      rw [if_pos ok, if_pos ok, noteA, if_pos (by omega), Int.toNat_natCast, Int.toNat_natCast, ← zrB_snoc, List.append_assoc, ← tchL_snoc, ← take_snoc hs] at hp
      refine ⟨_, rfl, rfl, Jz.next (w1 := w4) (i := i) (F' := F') (Mod.trans m hE4 (fun _ _ x => x.elim)) f hp⟩
    · have := hj.post hE12
      rw [List.take_length] at this
      exact this

theorem vwrite (ha : Ar w 107 ap F bs ts) (h : PT w tb m1 m2 T) (hl : ts.length < 500000000000) (addr : Int) (d : ByteArray)
    (r : ∀ w', Post w 107 ap F (wrB bs (vL T bs.length addr d.size) (bytesOf d)) (ts ++ tchL (vL T bs.length addr d.size) true) w' → R (.int .i64 (vE T bs.length addr d.size)) w') :
    CallS Try.prog 34 #[.pointer (some ⟨ap, 0, none⟩), .pointer (some ⟨tb, 0, none⟩), .int .i64 addr, .string d] w R := by
  have hsm := ha.small
  have hlt := ha.lt
  constructor
  refine VC.view_Write.ok ?_
  unfold VC.view_Write
  refine al_intro fun b0 w1 hb0 hE1 hs1 _ => al_intro fun bd w1' hbd hE1' hs1' _ => ?_
  have hE11 := hE1.trans hE1'
  have hb01 := hE1'.keep hb0
  refine ⟨_, cell_blk hb01 rfl, _, cell_blk hbd rfl, view_pieces (ha.keep hE11 (fun _ _ x => x)) (h.ext hE11) addr d.size (fun e w2 hE2 => ?_) (fun l q c w2 e row hE2 hown => ?_)⟩
  · obtain ⟨e1, e2⟩ := vE_none e
    rw [e1, e2] at r
    exact ⟨_, _, _, _, rfl, ifB_false rfl (r w2 (by simpa [wrB, tchL] using post_ext ha (hE11.trans hE2)))⟩
  · obtain ⟨e1, e2⟩ := vE_some e
    rw [e1, e2] at r
    obtain ⟨inp, pos, len, sum, esum⟩ := vpc_facts e hsm
    have hE12 := hE11.trans hE2
    have hb2 := hE2.keep hb01
    have hbd2 := hE2.keep hbd
    have z1 := hE1.size
    have z11 := hE11.size
    refine ⟨_, _, _, _, rfl, ifB_true rfl ⟨VC.view_each_61.ok (each61 ?_)⟩⟩
    refine each_any (J := Jz w2 ap F (fun i => wrB bs (l.take i) (bytesOf d)) (fun i => ts ++ tchL (l.take i) true)) sum len (fun i w3 hj => ?_) ⟨F, by simpa [wrB, tchL] using ha.keep hE12 (fun _ _ x => x), Mod.refl _ _, fun k hk => .inl hk⟩ (fun i s w3 hs hj => ?_) (fun w3 hj => ⟨rfl, r w3 ?_⟩)
    · obtain ⟨F', _, m, _⟩ := hj
      exact row.keep m (fun k hk x => by have := hown k hk; have := hlt k x; omega)
    · obtain ⟨F', a, m, f⟩ := hj
      have hb3 := m.keep hb2 (fun x => by have := hlt b0 x; omega)
      have hbd3 := m.keep hbd2 (fun x => by have := hlt bd x; omega)
      have hsl := inp s (List.mem_of_getElem? hs)
      have hps := pos s (List.mem_of_getElem? hs)
      have inpt : InP bs.length (l.take i) := fun u hu => inp u (List.mem_of_mem_take hu)
      have hzl := wrB_len (d := bytesOf d) (l.take i) inpt
      have hsum1 : sumN (l.take (i + 1)) = sumN (l.take i) + s.2 := by rw [take_snoc hs, sumN_snoc]
      have hsum2 : sumN (l.take (i + 1)) ≤ sumN l := by
        have e : sumN l = sumN (l.take (i + 1)) + sumN (l.drop (i + 1)) := by
          unfold sumN
          rw [← List.sum_append, ← List.map_append, List.take_append_drop]
        omega
      constructor
      refine VC.view_Write_1.ok ?_
      unfold VC.view_Write_1
      refine al_intro fun b4 w4 hb4 hE4 _ _ => ?_
      rintro w4' rfl
      have hE44 := hE4.trans (Ext.drew w4)
      have hb44 := hE44.keep hb3
      have hbd44 := hE44.keep hbd3
      have hb4' : w4.drew.heap[b4]? = _ := hb4
      have ew : IntKind.i64.wrap ((sumN (l.take i) : Int) + (s.2 : Int)) = ((sumN (l.take i) + s.2 : Nat) : Int) := by rw [wrap_i64 (by omega) (by omega)]; omega
      refine ⟨_, cell_blk hb44 rfl, _, by rw [add_mk]; exact cell_blk hb4' rfl, _, cell_blk hbd44 rfl, _, by rw [add_mk]; exact cell_blk hb4' rfl, by omega, by rw [ew]; omega, by rw [ew]; omega, rfl, ?_⟩
      rw [ew, Int.toNat_natCast, Int.toNat_natCast]
      refine .of (write_any (a.keep hE44 (fun _ _ x => x)) _ _ (by rw [List.length_append, tchL_len, List.length_take]; omega)) ?_
      rintro v w5 ⟨rfl, hp⟩
      have hex : bytesOf (d.extract (sumN (l.take i)) (sumN (l.take i) + s.2)) = seg (bytesOf d) (sumN (l.take i)) s.2 := by rw [bytesOf_extract, Nat.add_sub_cancel_left]
      have hsz : (d.extract (sumN (l.take i)) (sumN (l.take i) + s.2)).size = s.2 := by
        rw [← bytesOf_length, hex, seg_length (by rw [bytesOf_length]; omega)]
      have ok : OkA (wrB bs (l.take i) (bytesOf d)).length (s.1 : Int) ((d.extract (sumN (l.take i)) (sumN (l.take i) + s.2)).size : Int) := ⟨by omega, by omega, by rw [hzl, hsz]; omega⟩
      rw [if_pos ok, if_pos ok, hsz, noteA, if_pos (by omega), Int.toNat_natCast, hex, ← wrB_snoc, List.append_assoc, ← tchL_snoc, ← take_snoc hs] at hp
      refine ⟨_, rfl, rfl, Jz.next (w1 := w4.drew) (i := i) (F' := F') (Mod.trans m hE44 (fun _ _ x => x.elim)) f hp⟩
    · have := hj.post hE12
      rw [List.take_length] at this
      exact this

end

end Go.Proofs.Ytnjjgpjpodmgpaa
