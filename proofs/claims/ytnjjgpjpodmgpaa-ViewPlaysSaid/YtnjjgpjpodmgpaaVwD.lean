/- Contracts of package view: Read, Copy. Conditions: arena and table are there. -/
import Derived.Test.YtnjjgpjpodmgpaaVwC
set_option linter.unusedVariables false
set_option linter.unusedSimpArgs false
namespace Go.Proofs.Ytnjjgpjpodmgpaa
open Go.RowKit Go.Maps

section
variable {w w' : World} {tb m1 m2 ap : Nat} {T : Tb} {F : Nat → Prop} {bs : List UInt8} {ts : List Tch} {R : Value → World → Prop}

/-- What Read's rounds keep: the arena, the builder. -/
def Jr (w0 : World) (ap bb : Nat) (F : Nat → Prop) (bs : List UInt8) (t : Nat → List Tch) (o : Nat → List UInt8) (i : Nat) (w : World) : Prop :=
  ∃ F' v, Ar w 107 ap F' bs (t i) ∧ BB w bb v (o i) ∧ Mod (fun k => F k ∨ k = bb) w0 w ∧ (∀ k, F' k → F k ∨ w0.heap.size ≤ k) ∧ (∀ k, fpB bb v k → k = bb ∨ w0.heap.size ≤ k) ∧ ∀ k, fpB bb v k → ¬ F' k

theorem vread (ha : Ar w 107 ap F bs ts) (h : PT w tb m1 m2 T) (hl : ts.length < 500000000000) (addr n : Int)
    (r : ∀ w', Post w 107 ap F bs (ts ++ tchL (vL T bs.length addr n) false) w' → R (.tuple #[.string (strOf (rdB bs (vL T bs.length addr n))), .int .i64 (vE T bs.length addr n)]) w') :
    CallS Try.prog 35 #[.pointer (some ⟨ap, 0, none⟩), .pointer (some ⟨tb, 0, none⟩), .int .i64 addr, .int .i64 n] w R := by
  have hsm := ha.small
  have hlt := ha.lt
  constructor
  refine VC.view_Read.ok ?_
  unfold VC.view_Read
  refine al_intro fun b0 w1 hb0 hE1 hs1 _ => ⟨_, cell_blk hb0 rfl, view_pieces (ha.keep hE1 (fun _ _ x => x)) (h.ext hE1) addr n (fun e w2 hE2 => ?_) (fun l q c w2 e row hE2 hown => ?_)⟩
  · obtain ⟨e1, e2⟩ := vE_none e
    rw [e1, e2] at r
    exact ⟨_, _, _, _, rfl, ifB_true rfl (r w2 (by simpa [tchL] using post_ext ha (hE1.trans hE2)))⟩
  · obtain ⟨e1, e2⟩ := vE_some e
    rw [e1, e2] at r
    obtain ⟨inp, pos, len, sum, _⟩ := vpc_facts e hsm
    have hE12 := hE1.trans hE2
    have hb2 := hE2.keep hb0
    have z1 := hE1.size
    have z2 := hE2.size
    refine ⟨_, _, _, _, rfl, ifB_false rfl (al_intro fun bb w3 hbb hE3 hs3 hs3' => ⟨VC.view_each_62.ok (each62 ?_)⟩)⟩
    have hE13 := hE12.trans hE3
    have hb3' := hE3.keep hb2
    have row3 := row.keep hE3 (fun _ _ x => x)
    have rowlt := row.lt'
    have nF : ∀ k, w.heap.size ≤ k → ¬ F k := fun k hk x => by have := hlt k x; omega
    refine each_any (J := Jr w3 ap bb F bs (fun i => ts ++ tchL (l.take i) false) (fun i => rdB bs (l.take i))) sum len (fun i w4 hj => ?_) ?_ (fun i s w4 hs hj => ?_) (fun w4 hj => ⟨rfl, ?_⟩)
    · obtain ⟨F', v, _, _, m, _⟩ := hj
      refine row3.keep m (fun k hk x => ?_)
      have h1 := hown k hk
      have h2 := rowlt k hk
      rcases x with x | x
      · exact nF k (by omega) x
      · omega
    · refine ⟨F, .slice none 0 0, by simpa [tchL] using ha.keep hE13 (fun _ _ x => x), ⟨none, hbb, .inl rfl, World.ownsRow_nil _ 0 _ 1, by simp [Value.ownBlock]⟩, Mod.refl _ _, fun k hk => .inl hk, fun k hk => ?_, fun k hk x => ?_⟩
      · rcases hk with rfl | hk
        · exact .inl rfl
        · simp [Value.ownBlock] at hk
      · rcases hk with rfl | hk
        · exact nF k (by omega) x
        · simp [Value.ownBlock] at hk
    · obtain ⟨F', v, a, b, m, f, g, d⟩ := hj
      have hb4 := m.keep hb3' (fun x => by rcases x with x | x; exact nF b0 (by omega) x; omega)
      have hsl := inp s (List.mem_of_getElem? hs)
      have hps := pos s (List.mem_of_getElem? hs)
      have inpt : InP bs.length (l.take i) := fun u hu => inp u (List.mem_of_mem_take hu)
      have hrl := rdB_len (l.take i) inpt
      have hsum2 : sumN (l.take i) + s.2 ≤ sumN l := by
        have e3 : sumN (l.take (i + 1)) = sumN (l.take i) + s.2 := by rw [take_snoc hs, sumN_snoc]
        have e : sumN l = sumN (l.take (i + 1)) + sumN (l.drop (i + 1)) := by
          unfold sumN
          rw [← List.sum_append, ← List.map_append, List.take_append_drop]
        omega
      constructor
      refine VC.view_Read_1.ok ?_
      unfold VC.view_Read_1
      refine al_intro fun b5 w5 hb5 hE5 hs5 _ => ?_
      have hb45 := hE5.keep hb4
      have a5 := a.keep hE5 (fun _ _ x => x)
      have bb5 := b.keep hE5 (fun _ _ x => x)
      refine ⟨_, cell_blk hb45 rfl, _, by rw [add_mk]; exact cell_blk hb5 rfl, _, by rw [add_mk]; exact cell_blk hb5 rfl, .of (read_any a5 _ _ (by rw [List.length_append, tchL_len, List.length_take]; omega)) ?_⟩
      rintro x w6 ⟨rfl, F6, a6, m6, f6⟩
      have ok : OkA bs.length (s.1 : Int) (s.2 : Int) := ⟨by omega, by omega, by omega⟩
      rw [if_pos ok, noteA, if_pos (by omega), List.append_assoc, ← tchL_snoc, ← take_snoc hs] at a6
      rw [if_pos ok, if_pos ok, Int.toNat_natCast, Int.toNat_natCast]
      have b6 := bb5.keep m6 d
      have blt5 := bb5.lt
      have z5 := hE5.size
      have z6 := m6.size
      have zm := m.size
      have d6 : ∀ k, fpB bb v k → ¬ F6 k := fun k hk x => (f6 k x).elim (d k hk) (fun y => by have := blt5 k hk; omega)
      have hss : (strOf (seg bs s.1 s.2)).size = s.2 := by rw [← bytesOf_length, bytesOf_strOf, seg_length hsl]
      refine ⟨_, _, rfl, wstr_any b6 _ (by rw [hrl, hss]; omega) fun v7 w7 b7 m7 f7 => ⟨_, _, rfl, rfl, ?_⟩⟩
      rw [bytesOf_strOf, ← rdB_snoc, ← take_snoc hs] at b7
      have a6lt := a6.lt
      have b6lt := b6.lt
      refine ⟨F6, v7, a6.keep m7 (fun k hk x => d6 k x hk), b7, ?_, fun k hk => ?_, fun k hk => ?_, fun k hk x => ?_⟩
      · have n1 := Mod.trans m hE5 (fun _ _ x => x.elim)
        have n2 := Mod.trans n1 m6 (fun k hk x => (f k x).elim .inl (fun y => by omega))
        exact Mod.trans n2 m7 (fun k hk x => (g k x).elim .inr (fun y => by omega))
      · exact (f6 k hk).elim (f k) (fun y => .inr (by omega))
      · exact (f7 k hk).elim (g k) (fun y => .inr (by omega))
      · exact (f7 k hk).elim (fun y => d6 k y x) (fun y => by have := a6lt k x; omega)
    · obtain ⟨F', v, a, b, m, f, g, d⟩ := hj
      simp only [List.take_length] at a b
      have hrl := rdB_len l inp
      refine bstring_any b (by omega) fun w5 m5 => ⟨_, rfl, r w5 ⟨F', a.keep m5 (fun k hk x => d k x hk), ?_, fun k hk => ?_⟩⟩
      · have zm := m.size
        have z13 := hE13.size
        have n1 : Mod F w w4 := Mod.trans hE13.mod m (fun k hk x => x.elim id (fun e => by omega))
        exact Mod.trans n1 m5 (fun k hk x => (g k x).elim (fun e => by omega) (fun y => by omega))
      · exact (f k hk).imp id (fun x => Nat.le_trans hE13.size x)

def cpE (T : Tb) (size : Nat) (to from_ n : Int) : Int := if vE T size to n = 0 then vE T size from_ n else vE T size to n
def cpB (T : Tb) (bs : List UInt8) (to from_ n : Int) : List UInt8 := if cpE T bs.length to from_ n = 0 then wrB bs (vL T bs.length to n) (rdB bs (vL T bs.length from_ n)) else bs
def cpT (T : Tb) (size : Nat) (ts : List Tch) (to from_ n : Int) : List Tch := if cpE T size to from_ n = 0 then ts ++ tchL (vL T size from_ n) false ++ tchL (vL T size to n) true else ts

theorem vE_cases (T : Tb) (size : Nat) (addr n : Int) : (vE T size addr n = 4 ∧ vL T size addr n = []) ∨ (vE T size addr n = 0 ∧ ∃ l, vpc T size addr n = some l ∧ vL T size addr n = l) := by
  unfold vE vL
  cases h : vpc T size addr n with
  | none => exact .inl ⟨rfl, rfl⟩
  | some l => exact .inr ⟨rfl, l, rfl, rfl⟩

theorem vcopy (ha : Ar w 107 ap F bs ts) (h : PT w tb m1 m2 T) (hd : ∀ j, ownT tb m1 m2 j → ¬ F j) (hl : ts.length < 400000000000) (to from_ n : Int)
    (r : ∀ w', Post w 107 ap F (cpB T bs to from_ n) (cpT T bs.length ts to from_ n) w' → R (.int .i64 (cpE T bs.length to from_ n)) w') :
    CallS Try.prog 37 #[.pointer (some ⟨ap, 0, none⟩), .pointer (some ⟨tb, 0, none⟩), .int .i64 to, .int .i64 from_, .int .i64 n] w R := by
  have hsm := ha.small
  have hlt := ha.lt
  constructor
  refine VC.view_Copy.ok ?_
  unfold VC.view_Copy
  refine view_pieces ha h to n (fun e w1 hE1 => ?_) (fun l q c w1 e row hE1 hown => ?_)
  · obtain ⟨e1, e2⟩ := vE_none e
    have ec : cpE T bs.length to from_ n = 4 := by unfold cpE; rw [e1]; rfl
    rw [cpB, cpT, ec, if_neg (by decide), if_neg (by decide)] at r
    exact ⟨_, _, _, _, rfl, ifB_true rfl (r w1 (post_ext ha hE1))⟩
  · obtain ⟨e1, e2⟩ := vE_some e
    obtain ⟨inp, pos, len, sum, esum⟩ := vpc_facts e hsm
    refine ⟨_, _, _, _, rfl, ifB_false rfl ?_⟩
    refine vread (ha.keep hE1 (fun _ _ x => x)) (h.ext hE1) (by omega) from_ n fun w2 hp2 => ⟨_, _, rfl, ?_⟩
    obtain ⟨F2, a2, m2', f2⟩ := hp2
    have ec : cpE T bs.length to from_ n = vE T bs.length from_ n := by unfold cpE; rw [e1]; rfl
    rcases vE_cases T bs.length from_ n with ⟨c1, c2⟩ | ⟨c1, lf, c2, c3⟩
    · rw [c2] at a2
      rw [c1] at ec ⊢
      rw [cpB, cpT, ec, if_neg (by decide), if_neg (by decide)] at r
      refine ifB_true rfl (r w2 ⟨F2, by simpa [tchL] using a2, Mod.trans hE1.mod m2' (fun _ _ x => x), fun k hk => (f2 k hk).imp id (fun x => Nat.le_trans hE1.size x)⟩)
    · obtain ⟨inpf, posf, lenf, sumf, esumf⟩ := vpc_facts c2 hsm
      rw [c1] at ec ⊢
      rw [cpB, cpT, ec, if_pos rfl, if_pos rfl] at r
      have hsz : ((strOf (rdB bs (vL T bs.length from_ n))).size : Int) = n := by
        rw [c3, ← bytesOf_length, bytesOf_strOf, rdB_len lf inpf]
        exact esumf
      refine ifB_false rfl ?_
      have h2 := (h.ext hE1).keep m2' (fun j hj x => hd j hj x)
      refine vwrite a2 h2 (by rw [List.length_append, tchL_len, c3]; omega) to (strOf (rdB bs (vL T bs.length from_ n))) fun w3 hp3 => ?_
      rw [hsz, bytesOf_strOf] at hp3
      rw [hsz, e1]
      obtain ⟨F3, a3, m3, f3⟩ := hp3
      refine ⟨_, rfl, r w3 ⟨F3, a3, ?_, fun k hk => ?_⟩⟩
      · have n1 : Mod F w w2 := Mod.trans hE1.mod m2' (fun _ _ x => x)
        exact Mod.trans n1 m3 (fun k hk x => (f2 k x).elim id (fun y => by have := hE1.size; omega))
      · rcases f3 k hk with x | x
        · exact (f2 k x).imp id (fun y => Nat.le_trans hE1.size y)
        · exact .inr (by have := hE1.size; have := m2'.size; omega)

end

end Go.Proofs.Ytnjjgpjpodmgpaa
