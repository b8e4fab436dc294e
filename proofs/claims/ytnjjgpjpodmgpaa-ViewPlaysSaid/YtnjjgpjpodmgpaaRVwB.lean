/- The reference's view: pieces, Zero, Write, Read, Copy. Conditions: arena and table are there. -/
import Derived.Test.YtnjjgpjpodmgpaaRVwA
import Derived.Test.YtnjjgpjpodmgpaaVwD
import Derived.Test.YtnjjgpjpodmgpaaArenaRef
set_option linter.unusedVariables false
set_option linter.unusedSimpArgs false
namespace Go.Proofs.Ytnjjgpjpodmgpaa
open Go.RowKit Go.Maps

section
variable {w w' : World} {rt ap : Nat} {v : Value} {T : Tb} {F : Nat → Prop} {bs : List UInt8} {ts : List Tch} {R : Value → World → Prop}

theorem Ar.lenC {TA : TypeId} (h : Ar w TA ap F bs ts) : ∃ p c, w.cell? ((Addr.mk ap 0 none).add 0) = some (.slice p bs.length c) := by
  obtain ⟨gb, v, h, rfl⟩ := h
  exact ⟨_, _, h.slot0⟩

theorem RT.ext (h : RT w rt v T) (hE : Ext w w') : RT w' rt v T := h.keep (F := fun _ => False) hE (fun _ _ x => x)

theorem rpieces (ha : Ar w 70 ap F bs ts) (h : RT w rt v T) (addr n : Int)
    (r0 : vpc T bs.length addr n = none → ∀ w', Ext w w' → R (.tuple #[.slice none 0 0, .int .i64 4]) w')
    (r1 : ∀ l q c w', vpc T bs.length addr n = some l → TRow w' (.slice q l.length c) (spT l) → Ext w w' → (∀ j, (Value.slice q l.length c).ownBlock = some j → w.heap.size ≤ j) → R (.tuple #[.slice q l.length c, .int .i64 0]) w') :
    CallS Try.prog 80 #[.pointer (some ⟨ap, 0, none⟩), .pointer (some ⟨rt, 0, none⟩), .int .i64 addr, .int .i64 n] w R := by
  have hsm := ha.small
  constructor
  refine VC.garthref16_pieces.ok ?_
  unfold VC.garthref16_pieces
  refine h.pieces addr n (fun e w1 hE1 => ?_) (fun l q c w1 e row hE1 hown => ?_)
  · exact ⟨_, _, _, _, rfl, ifB_true rfl (r0 (by unfold vpc; rw [e]) w1 hE1)⟩
  · obtain ⟨a, k, ea, ek, ha0, hak, hpc⟩ := pcsE_some e
    have hlen := pcs_len hpc
    have hok := pcs_ok hpc
    have sml : ∀ s ∈ l, s.1 ≤ 1048577 * 512 ∧ s.2 ≤ 512 := fun s hs => by
      obtain ⟨p1, p2, j, p3, p4, p5⟩ := hok.pos s hs
      obtain ⟨x, hx⟩ := Option.isSome_iff_exists.1 ((fnd_pos h.ok).1 p4)
      have efx : fnd T (((a + j) / 512 : Nat) : Int) = x.2 := by unfold fnd; rw [hx]
      have rx := h.ok.rng x (fndO_some hx).1
      rw [efx] at p5
      omega
    refine ⟨_, _, _, _, rfl, ifB_false rfl ⟨fun f i w2 => ∃ j : Nat, i = (j : Int) ∧ f + j = l.length ∧ Ext w1 w2 ∧ ∀ s ∈ l.take j, s.1 ≤ bs.length ∧ s.2 ≤ bs.length - s.1, ⟨l.length, 0, rfl, by omega, Mod.refl _ _, fun s hs => by simp at hs⟩, ?_⟩⟩
    rintro f jv i w2 ⟨j, rfl, hf, hE2, hall⟩
    have bad : ∀ {s : Pc} {w3 : World}, l[j]? = some s → ¬ (s.1 ≤ bs.length ∧ s.2 ≤ bs.length - s.1) → Ext w1 w3 → R (.tuple #[.slice none 0 0, .int .i64 4]) w3 := fun {s w3} hs hb hE3 => by
      refine r0 ?_ w3 (hE1.trans hE3)
      unfold vpc
      rw [e]
      have : inA bs.length l = false := by
        cases hi : inA bs.length l with
        | false => rfl
        | true =>
          have := List.all_eq_true.1 hi s (List.mem_of_getElem? hs)
          exact absurd (by simpa using this) hb
      simp only [this, cond_false]
    refine ifD (fun hj => ?_) (fun hj => ?_)
    · have hj : j < l.length := by omega
      obtain ⟨s, hs⟩ : ∃ s, l[j]? = some s := ⟨_, List.getElem?_eq_getElem hj⟩
      have hs20 := sml s (List.mem_of_getElem? hs)
      rintro w5 rfl
      have hE5 := hE2.trans (Ext.drew w2)
      have row2 := row.keep hE5 (fun _ _ x => x)
      rw [← spT_len l] at row2
      obtain ⟨x, rfl, hc⟩ := row2.cells (spT_get hs)
      rw [Int.toNat_natCast]
      have c0 := hc 0 _ rfl
      have c1 := hc 1 _ rfl
      have ha5 := ha.keep (hE1.trans hE5) (fun _ _ x => x)
      obtain ⟨pa, ca, hca⟩ := ha5.lenC
      refine ⟨by omega, by omega, rfl, _, c0, _, _, _, hca, rfl, ?_⟩
      refine ifD (fun hgt => ⟨rfl, bad hs (fun q => by have hgt : (s.1 : Int) > (bs.length : Int) := hgt; omega) hE5⟩) (fun hle => ⟨by omega, by omega, rfl, _, c1, _, _, _, hca, rfl, by omega, by omega, rfl, _, c0, rfl, ?_⟩)
      have hle : ¬ (s.1 : Int) > (bs.length : Int) := hle
      show ifB (decide ((s.2 : Int) > IntKind.i64.wrap ((bs.length : Int) - (s.1 : Int)))) _ _
      rw [wrap_i64 (n := (bs.length : Int) - (s.1 : Int)) (by omega) (by omega)]
      refine ifD (fun hgt => bad hs (fun q => by omega) hE5) (fun hle2 => ⟨f - 1, by omega, j + 1, ?_, by omega, hE5, fun u hu => ?_⟩)
      · rw [wrap_i64 (by omega) (by omega)]; omega
      · rw [List.take_add_one, hs] at hu
        rcases List.mem_append.1 hu with hu | hu
        · exact hall u hu
        · simp at hu; subst hu; omega
    · have hjl : j = l.length := by omega
      subst hjl
      rw [List.take_length] at hall
      refine r1 l q c w2 ?_ (row.keep hE2 (fun _ _ x => x)) (hE1.trans hE2) hown
      unfold vpc
      rw [e]
      have : inA bs.length l = true := List.all_eq_true.2 fun s hs => by simpa using hall s hs
      simp only [this, cond_true]

/-- What a round keeps: the reference's arena. -/
def Jx (w0 : World) (ap : Nat) (F : Nat → Prop) (b : Nat → List UInt8) (t : Nat → List Tch) (i : Nat) (w : World) : Prop :=
  ∃ F', Ar w 70 ap F' (b i) (t i) ∧ Mod F w0 w ∧ ∀ k, F' k → F k ∨ w0.heap.size ≤ k

theorem Jx.post {w0 : World} {b : Nat → List UInt8} {t : Nat → List Tch} {i : Nat} (h : Jx w0 ap F b t i w') (hE : Ext w w0) : Post w 70 ap F (b i) (t i) w' := by
  obtain ⟨F', a, m, f⟩ := h
  exact ⟨F', a, Mod.trans hE.mod m (fun _ _ x => x), fun k hk => (f k hk).imp id (fun x => Nat.le_trans hE.size x)⟩

theorem Jx.next {w0 w1 w2 : World} {b : Nat → List UInt8} {t : Nat → List Tch} {i : Nat} {F' : Nat → Prop} (hm : Mod F w0 w1) (hf : ∀ k, F' k → F k ∨ w0.heap.size ≤ k)
    (hp : Post w1 70 ap F' (b (i + 1)) (t (i + 1)) w2) : Jx w0 ap F b t (i + 1) w2 := by
  obtain ⟨F2, a, m, f⟩ := hp
  refine ⟨F2, a, Mod.trans hm m (fun k hk x => (hf k x).elim id (fun y => by omega)), fun k hk => ?_⟩
  rcases f k hk with x | x
  · exact hf k x
  · exact .inr (Nat.le_trans hm.size x)

/-- The row of pieces at a place. -/
theorem row_at {q : Option Addr} {c : Nat} {l : List Pc} (row : TRow w (.slice q l.length c) (spT l)) {i : Nat} {s : Pc} (hs : l[i]? = some s) :
    ∃ x, q = some x ∧ w.cell? ((x.add (i * 3)).add 0) = some (.int .i64 (s.1 : Int)) ∧ w.cell? ((x.add (i * 3)).add 1) = some (.int .i64 (s.2 : Int)) := by
  rw [← spT_len l] at row
  obtain ⟨x, rfl, hc⟩ := row.cells (spT_get hs)
  exact ⟨x, rfl, hc 0 _ rfl, hc 1 _ rfl⟩

theorem sum_at {l : List Pc} {i : Nat} {s : Pc} (hs : l[i]? = some s) : sumN (l.take i) + s.2 ≤ sumN l := by
  have e3 : sumN (l.take (i + 1)) = sumN (l.take i) + s.2 := by rw [take_snoc hs, sumN_snoc]
  have e : sumN l = sumN (l.take (i + 1)) + sumN (l.drop (i + 1)) := by
    unfold sumN
    rw [← List.sum_append, ← List.map_append, List.take_append_drop]
  omega

theorem rzero (ha : Ar w 70 ap F bs ts) (h : RT w rt v T) (hl : ts.length < 500000000000) (addr n : Int)
    (r : ∀ w', Post w 70 ap F (zrB bs (vL T bs.length addr n)) (ts ++ tchL (vL T bs.length addr n) true) w' → R (.int .i64 (vE T bs.length addr n)) w') :
    CallS Try.prog 71 #[.pointer (some ⟨ap, 0, none⟩), .pointer (some ⟨rt, 0, none⟩), .int .i64 addr, .int .i64 n] w R := by
  have hsm := ha.small
  have hlt := ha.lt
  constructor
  refine VC.garthref16_Zero.ok ?_
  unfold VC.garthref16_Zero
  refine rpieces ha h addr n (fun e w2 hE2 => ?_) (fun l q c w2 e row hE2 hown => ?_)
  · obtain ⟨e1, e2⟩ := vE_none e
    rw [e1, e2] at r
    refine ⟨_, _, _, _, rfl, fun _ i w3 => i = 0 ∧ w3 = w2, ⟨0, rfl, rfl⟩, ?_⟩
    rintro _ _ _ w3 ⟨rfl, rfl⟩
    exact ifD_false (by decide) (r w3 (by simpa [zrB, tchL] using post_ext ha hE2))
  · obtain ⟨e1, e2⟩ := vE_some e
    rw [e1, e2] at r
    obtain ⟨inp, pos, len, sum, _⟩ := vpc_facts e hsm
    refine ⟨_, _, _, _, rfl, fun f i w3 => ∃ j : Nat, i = (j : Int) ∧ f + j = l.length ∧ Jx w2 ap F (fun i => zrB bs (l.take i)) (fun i => ts ++ tchL (l.take i) true) j w3, ⟨l.length, 0, rfl, rfl, F, by simpa [zrB, tchL] using ha.keep hE2 (fun _ _ x => x), Mod.refl _ _, fun k hk => .inl hk⟩, ?_⟩
    rintro f jv i w3 ⟨j, rfl, hf, F', a, m, ff⟩
    refine ifD (fun hj => ?_) (fun hj => ?_)
    · have hj : j < l.length := by omega
      obtain ⟨s, hs⟩ : ∃ s, l[j]? = some s := ⟨_, List.getElem?_eq_getElem hj⟩
      rintro w4 rfl
      have row3 := (row.keep m (fun k hk x => by have := hown k hk; have := hlt k x; omega)).keep (Ext.drew w3) (fun _ _ x => x)
      obtain ⟨x, rfl, c0, c1⟩ := row_at row3 hs
      rw [Int.toNat_natCast]
      have hsl := inp s (List.mem_of_getElem? hs)
      have hps := pos s (List.mem_of_getElem? hs)
      have inpt : InP bs.length (l.take j) := fun u hu => inp u (List.mem_of_mem_take hu)
      have hzl := zrB_len (l.take j) inpt
      refine ⟨by omega, by omega, rfl, _, c0, by omega, by omega, rfl, _, c1, .of (refzero_any (a.keep (Ext.drew w3) (fun _ _ x => x)) _ _ (by rw [List.length_append, tchL_len, List.length_take]; omega)) ?_⟩
      rintro v' w5 ⟨rfl, hp⟩
      have ok : OkA (zrB bs (l.take j)).length (s.1 : Int) (s.2 : Int) := ⟨by omega, by omega, by rw [hzl]; omega⟩
      rw [if_pos ok, if_pos ok, noteA, if_pos (by omega), Int.toNat_natCast, Int.toNat_natCast, ← zrB_snoc, List.append_assoc, ← tchL_snoc, ← take_snoc hs] at hp
      refine ⟨_, rfl, f - 1, by omega, j + 1, by rw [wrap_i64 (by omega) (by omega)]; omega, by omega, Jx.next (w1 := w3.drew) (i := j) (F' := F') (Mod.trans m (Ext.drew w3) (fun _ _ x => x.elim)) ff hp⟩
    · have hjl : j = l.length := by omega
      subst hjl
      have := Jx.post (w := w) (i := l.length) (b := fun i => zrB bs (l.take i)) (t := fun i => ts ++ tchL (l.take i) true) ⟨F', a, m, ff⟩ hE2
      simp only [List.take_length] at this
      exact r w3 this

theorem rwrite (ha : Ar w 70 ap F bs ts) (h : RT w rt v T) (hl : ts.length < 500000000000) (addr : Int) (d : ByteArray)
    (r : ∀ w', Post w 70 ap F (wrB bs (vL T bs.length addr d.size) (bytesOf d)) (ts ++ tchL (vL T bs.length addr d.size) true) w' → R (.int .i64 (vE T bs.length addr d.size)) w') :
    CallS Try.prog 70 #[.pointer (some ⟨ap, 0, none⟩), .pointer (some ⟨rt, 0, none⟩), .int .i64 addr, .string d] w R := by
  have hsm := ha.small
  have hlt := ha.lt
  constructor
  refine VC.garthref16_Write.ok ?_
  unfold VC.garthref16_Write
  refine rpieces ha h addr d.size (fun e w2 hE2 => ?_) (fun l q c w2 e row hE2 hown => ?_)
  · obtain ⟨e1, e2⟩ := vE_none e
    rw [e1, e2] at r
    refine ⟨_, _, _, _, rfl, fun _ _ i w3 => i = 0 ∧ w3 = w2, ⟨0, rfl, rfl⟩, ?_⟩
    rintro _ _ _ _ w3 ⟨rfl, rfl⟩
    exact ifD_false (by decide) (r w3 (by simpa [wrB, tchL] using post_ext ha hE2))
  · obtain ⟨e1, e2⟩ := vE_some e
    rw [e1, e2] at r
    obtain ⟨inp, pos, len, sum, esum⟩ := vpc_facts e hsm
    refine ⟨_, _, _, _, rfl, fun f s9 i w3 => ∃ j : Nat, i = (j : Int) ∧ f + j = l.length ∧ s9 = d.extract (sumN (l.take j)) d.size ∧ Jx w2 ap F (fun i => wrB bs (l.take i) (bytesOf d)) (fun i => ts ++ tchL (l.take i) true) j w3, ⟨l.length, 0, rfl, rfl, by simp [sumN], F, by simpa [wrB, tchL] using ha.keep hE2 (fun _ _ x => x), Mod.refl _ _, fun k hk => .inl hk⟩, ?_⟩
    rintro f jv s9 i w3 ⟨j, rfl, hf, rfl, F', a, m, ff⟩
    refine ifD (fun hj => ?_) (fun hj => ?_)
    · have hj : j < l.length := by omega
      obtain ⟨s, hs⟩ : ∃ s, l[j]? = some s := ⟨_, List.getElem?_eq_getElem hj⟩
      rintro w4 rfl
      have row3 := (row.keep m (fun k hk x => by have := hown k hk; have := hlt k x; omega)).keep (Ext.drew w3) (fun _ _ x => x)
      have hsl := inp s (List.mem_of_getElem? hs)
      have hps := pos s (List.mem_of_getElem? hs)
      have inpt : InP bs.length (l.take j) := fun u hu => inp u (List.mem_of_mem_take hu)
      have hzl := wrB_len (d := bytesOf d) (l.take j) inpt
      have hsum := sum_at hs
      have hbl := bytesOf_length d
      have hdl : (d.extract (sumN (l.take j)) d.size).size = d.size - sumN (l.take j) := by rw [ByteArray.size_extract]; omega
      obtain ⟨x, rfl, c0, c1⟩ := row_at row3 hs
      rw [Int.toNat_natCast]
      have eex : (d.extract (sumN (l.take j)) d.size).extract 0 s.2 = d.extract (sumN (l.take j)) (sumN (l.take j) + s.2) := by
        rw [ByteArray.extract_extract]
        congr 1
        omega
      refine ⟨by omega, by omega, rfl, _, c0, by omega, by omega, rfl, _, c1, by omega, by omega, by rw [hdl]; omega, rfl, ?_⟩
      rw [Int.toNat_natCast, eex]
      refine .of (refwrite_any (a.keep (Ext.drew w3) (fun _ _ x => x)) _ _ (by rw [List.length_append, tchL_len, List.length_take]; omega)) ?_
      rintro v' w5 ⟨rfl, hp⟩
      have hex : bytesOf (d.extract (sumN (l.take j)) (sumN (l.take j) + s.2)) = seg (bytesOf d) (sumN (l.take j)) s.2 := by rw [bytesOf_extract, Nat.add_sub_cancel_left]
      have hsz : (d.extract (sumN (l.take j)) (sumN (l.take j) + s.2)).size = s.2 := by
        rw [← bytesOf_length, hex, seg_length (by rw [bytesOf_length]; omega)]
      have ok : OkA (wrB bs (l.take j) (bytesOf d)).length (s.1 : Int) ((d.extract (sumN (l.take j)) (sumN (l.take j) + s.2)).size : Int) := ⟨by omega, by omega, by rw [hzl, hsz]; omega⟩
      rw [if_pos ok, if_pos ok, hsz, noteA, if_pos (by omega), Int.toNat_natCast, hex, ← wrB_snoc, List.append_assoc, ← tchL_snoc, ← take_snoc hs] at hp
      have hJ := Jx.next (w0 := w2) (w1 := w3.drew) (i := j) (F' := F') (b := fun i => wrB bs (l.take i) (bytesOf d)) (t := fun i => ts ++ tchL (l.take i) true) (Mod.trans m (Ext.drew w3) (fun _ _ x => x.elim)) ff hp
      obtain ⟨F5, a5, m5, f5⟩ := hJ
      have row5 := row.keep m5 (fun k hk x => by have := hown k hk; have := hlt k x; omega)
      obtain ⟨x', ex, d0, d1⟩ := row_at row5 hs
      cases ex
      refine ⟨_, rfl, by omega, by omega, _, d1, by omega, by rw [hdl]; omega, by omega, f - 1, by omega, j + 1, by rw [wrap_i64 (by omega) (by omega)]; omega, by omega, ?_, F5, a5, m5, f5⟩
      rw [Int.toNat_natCast, Int.toNat_natCast, ByteArray.extract_extract, take_snoc hs, sumN_snoc, hdl]
      congr 1
      omega
    · have hjl : j = l.length := by omega
      subst hjl
      have := Jx.post (w := w) (i := l.length) (b := fun i => wrB bs (l.take i) (bytesOf d)) (t := fun i => ts ++ tchL (l.take i) true) ⟨F', a, m, ff⟩ hE2
      simp only [List.take_length] at this
      exact r w3 this

end

end Go.Proofs.Ytnjjgpjpodmgpaa
