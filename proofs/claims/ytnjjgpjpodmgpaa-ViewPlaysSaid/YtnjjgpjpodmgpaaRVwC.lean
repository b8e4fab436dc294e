/- The reference's view: Read, Copy. Conditions: arena and table are there. -/
import Derived.Test.YtnjjgpjpodmgpaaRVwB
set_option linter.unusedVariables false
set_option linter.unusedSimpArgs false
namespace Go.Proofs.Ytnjjgpjpodmgpaa
open Go.RowKit Go.Maps Go.Lib

section
variable {w w' : World} {rt ap : Nat} {v : Value} {T : Tb} {F : Nat → Prop} {bs : List UInt8} {ts : List Tch} {R : Value → World → Prop}

/-- An own row of bytes. -/
abbrev BRow (w : World) (v : Value) (bs : List UInt8) : Prop := w.ownsRow 0 5 1 v bs.length (bC bs)

theorem BRow.shape (h : BRow w v bs) : ∃ p c, v = .slice p bs.length c := by
  rcases h.2 with ⟨rfl, hn⟩ | ⟨g, cap, cur, rfl, _⟩
  · exact ⟨none, 0, by rw [hn]⟩
  · exact ⟨_, _, rfl⟩

theorem BRow.at {p : Option Addr} {n c : Nat} (h : BRow w (.slice p n c) bs) : BytesAt w p bs := by
  intro j b hj
  rcases h.2 with ⟨e, hn⟩ | ⟨g, cap, cur, e, _⟩
  · have := List.eq_nil_of_length_eq_zero hn
    subst this
    simp at hj
  · cases e
    exact ⟨_, rfl, World.ownsRow.cells h (g := g) rfl j _ (by rw [bC_get, hj]; rfl)⟩

/-- A string behind it. -/
theorem BRow.str (h : BRow w v bs) (s : ByteArray) (hl : bs.length + s.size ≤ 70368744177664) :
    ∃ p n c w', Sem.run Try.prog (Builtin.append_ #[41, 9] 41 #[v, .string s]) w = .ok (.slice p n c) w' ∧ BRow w' (.slice p n c) (bs ++ bytesOf s) ∧ Mod (fun k => v.ownBlock = some k) w w' ∧
      ∀ k, (Value.slice p n c).ownBlock = some k → v.ownBlock = some k ∨ w.heap.size ≤ k := by
  obtain ⟨i, hi, hs, hby, hz⟩ : ∃ i, Try.prog.info? 5 = some i ∧ i.size = 1 ∧ i.bytes = 1 ∧ i.zero = some (.int .u8 0) := info_of (by kernel_rfl)
  obtain ⟨v', w2, hr, row2, hg, _⟩ := run_append_own_string (P := Try.prog) w 0 41 9 41 5 i (by kernel_rfl) (by kernel_rfl) hi hz hs hby _ _ _ h s (by simp only [maxLen]; omega) (by omega) (Nat.zero_le _)
  have hnew := appstr_own h hi hz hs hby (by kernel_rfl) (by kernel_rfl) (by omega) hr
  have row3 : BRow w2 v' (bs ++ bytesOf s) := by
    rw [strCells_bC, ← bC_append] at row2
    unfold BRow
    rw [List.length_append, bytesOf_length]
    exact row2
  obtain ⟨p, c, rfl⟩ := row3.shape
  exact ⟨_, _, _, w2, hr, row3, grown_mod hg, hnew⟩

/-- What Read's rounds keep: the arena, the row of bytes. -/
def Jy (w0 : World) (ap : Nat) (F : Nat → Prop) (bs : List UInt8) (t : Nat → List Tch) (o : Nat → List UInt8) (i : Nat) (v : Value) (w : World) : Prop :=
  ∃ F', Ar w 70 ap F' bs (t i) ∧ BRow w v (o i) ∧ Mod F w0 w ∧ (∀ k, F' k → F k ∨ w0.heap.size ≤ k) ∧ (∀ k, v.ownBlock = some k → w0.heap.size ≤ k) ∧ ∀ k, v.ownBlock = some k → ¬ F' k

theorem rread (ha : Ar w 70 ap F bs ts) (h : RT w rt v T) (hl : ts.length < 500000000000) (addr n : Int)
    (r : ∀ w', Post w 70 ap F bs (ts ++ tchL (vL T bs.length addr n) false) w' → R (.tuple #[.string (strOf (rdB bs (vL T bs.length addr n))), .int .i64 (vE T bs.length addr n)]) w') :
    CallS Try.prog 69 #[.pointer (some ⟨ap, 0, none⟩), .pointer (some ⟨rt, 0, none⟩), .int .i64 addr, .int .i64 n] w R := by
  have hsm := ha.small
  have hlt := ha.lt
  constructor
  refine VC.garthref16_Read.ok ?_
  unfold VC.garthref16_Read
  refine rpieces ha h addr n (fun e w2 hE2 => ?_) (fun l q c w2 e row hE2 hown => ?_)
  · obtain ⟨e1, e2⟩ := vE_none e
    rw [e1, e2] at r
    refine ⟨_, _, _, _, rfl, al_intro fun b w3 hb hE3 _ _ => ⟨fun _ p n c i w4 => n = 0 ∧ i = 0 ∧ w4 = w3, ⟨0, rfl, rfl, rfl⟩, ?_⟩⟩
    rintro _ _ p n c i w4 ⟨rfl, rfl, rfl⟩
    exact ifD_false (by decide) ⟨[], rfl, fun j b hb => by simp at hb, r w4 (by simpa [tchL] using post_ext ha (hE2.trans hE3))⟩
  · obtain ⟨e1, e2⟩ := vE_some e
    rw [e1, e2] at r
    obtain ⟨inp, pos, len, sum, _⟩ := vpc_facts e hsm
    have z2 := hE2.size
    have rowlt := row.lt'
    have nF : ∀ k, w.heap.size ≤ k → ¬ F k := fun k hk x => by have := hlt k x; omega
    refine ⟨_, _, _, _, rfl, al_intro fun bb w3 hbb hE3 hs3 hs3' => ?_⟩
    have hE23 := hE2.trans hE3
    refine ⟨fun f p n c i w4 => ∃ j : Nat, i = (j : Int) ∧ f + j = l.length ∧ n = (rdB bs (l.take j)).length ∧ Jy w2 ap F bs (fun i => ts ++ tchL (l.take i) false) (fun i => rdB bs (l.take i)) j (.slice p n c) w4, ⟨l.length, 0, rfl, rfl, rfl, F, by simpa [tchL] using ha.keep hE23 (fun _ _ x => x), ?_, hE3.mod, fun k hk => .inl hk, fun k hk => ?_, fun k hk x => ?_⟩, ?_⟩
    · exact ⟨by simp [bC, rdB], .inr ⟨bb, 0, #[], rfl, Nat.zero_le _, hbb, Nat.le_refl _, by decide, rfl, by simp [bC, rdB]⟩⟩
    · have hk : bb = k := by simpa [Value.ownBlock] using hk
      omega
    · have hk : bb = k := by simpa [Value.ownBlock] using hk
      exact nF k (by omega) x
    rintro f jv p n' c' i w4 ⟨j, rfl, hf, rfl, F', a, b, m, ff, g, d⟩
    refine ifD (fun hj => ?_) (fun hj => ?_)
    · have hj : j < l.length := by omega
      obtain ⟨s, hs⟩ : ∃ s, l[j]? = some s := ⟨_, List.getElem?_eq_getElem hj⟩
      rintro w5 rfl
      have hD := Ext.drew w4
      have row5 := (row.keep m (fun k hk x => nF k (hown k hk) x)).keep hD (fun _ _ x => x)
      obtain ⟨x, rfl, c0, c1⟩ := row_at row5 hs
      rw [Int.toNat_natCast]
      have hsl := inp s (List.mem_of_getElem? hs)
      have hps := pos s (List.mem_of_getElem? hs)
      have inpt : InP bs.length (l.take j) := fun u hu => inp u (List.mem_of_mem_take hu)
      have hrl := rdB_len (l.take j) inpt
      have hsum2 := sum_at hs
      have a5 := a.keep hD (fun _ _ x => x)
      have b5 := ownsRow_keep b hD (fun _ _ x => x)
      refine ⟨by omega, by omega, rfl, _, c0, by omega, by omega, rfl, _, c1, .of (refread_any a5 _ _ (by rw [List.length_append, tchL_len, List.length_take]; omega)) ?_⟩
      rintro v6 w6 ⟨rfl, F6, a6, m6, f6⟩
      have ok : OkA bs.length (s.1 : Int) (s.2 : Int) := ⟨by omega, by omega, by omega⟩
      rw [if_pos ok, noteA, if_pos (by omega), List.append_assoc, ← tchL_snoc, ← take_snoc hs] at a6
      rw [if_pos ok, if_pos ok, Int.toNat_natCast, Int.toNat_natCast]
      have b6 : BRow w6 _ _ := ownsRow_keep b5 m6 d
      have blt := (World.ownsRow.lt b5)
      have z5 : w4.heap.size ≤ w4.drew.heap.size := hD.size
      have z6 := m6.size
      have zm := m.size
      have d6 : ∀ k, (Value.slice p (rdB bs (l.take j)).length c').ownBlock = some k → ¬ F6 k := fun k hk x => (f6 k x).elim (d k hk) (fun y => by have := (blt k hk).2; omega)
      have hss : (strOf (seg bs s.1 s.2)).size = s.2 := by rw [← bytesOf_length, bytesOf_strOf, seg_length hsl]
      obtain ⟨p7, n7, c7, w7, hr7, b7, m7, f7⟩ := b6.str (strOf (seg bs s.1 s.2)) (by rw [hrl, hss]; omega)
      rw [bytesOf_strOf, ← rdB_snoc, ← take_snoc hs] at b7
      have en : n7 = (rdB bs (l.take (j + 1))).length := by
        obtain ⟨_, _, e⟩ := b7.shape
        cases e; rfl
      subst en
      have a6lt := a6.lt
      have b6lt := World.ownsRow.lt b6
      refine ⟨_, _, rfl, _, _, _, w7, hr7, f - 1, by omega, j + 1, by rw [wrap_i64 (by omega) (by omega)]; omega, by omega, rfl, F6, a6.keep m7 (fun k hk x => d6 k x hk), b7, ?_, fun k hk => ?_, fun k hk => ?_, fun k hk x => ?_⟩
      · have n1 := Mod.trans m hD (fun _ _ x => x.elim)
        have n2 := Mod.trans n1 m6 (fun k hk x => (ff k x).elim id (fun y => by omega))
        exact Mod.trans n2 m7 (fun k hk x => by have := g k x; omega)
      · exact (f6 k hk).elim (ff k) (fun y => .inr (by omega))
      · exact (f7 k hk).elim (g k) (fun y => by omega)
      · exact (f7 k hk).elim (fun y => d6 k y x) (fun y => by have := a6lt k x; omega)
    · have hjl : j = l.length := by omega
      subst hjl
      simp only [List.take_length] at a b ⊢
      refine ⟨rdB bs l, rfl, b.at, r w4 ⟨F', a, Mod.trans hE2.mod m (fun _ _ x => x), fun k hk => (ff k hk).imp id (fun x => by have := hE2.size; omega)⟩⟩

theorem rcopy (ha : Ar w 70 ap F bs ts) (h : RT w rt v T) (hd : ∀ j, fpR rt v j → ¬ F j) (hl : ts.length < 400000000000) (to from_ n : Int)
    (r : ∀ w', Post w 70 ap F (cpB T bs to from_ n) (cpT T bs.length ts to from_ n) w' → R (.int .i64 (cpE T bs.length to from_ n)) w') :
    CallS Try.prog 72 #[.pointer (some ⟨ap, 0, none⟩), .pointer (some ⟨rt, 0, none⟩), .int .i64 to, .int .i64 from_, .int .i64 n] w R := by
  have hsm := ha.small
  have hlt := ha.lt
  constructor
  refine VC.garthref16_Copy.ok ?_
  unfold VC.garthref16_Copy
  refine rpieces ha h to n (fun e w1 hE1 => ?_) (fun l q c w1 e row hE1 hown => ?_)
  · obtain ⟨e1, e2⟩ := vE_none e
    have ec : cpE T bs.length to from_ n = 4 := by unfold cpE; rw [e1]; rfl
    rw [cpB, cpT, ec, if_neg (by decide), if_neg (by decide)] at r
    exact ⟨_, _, _, _, rfl, ifB_true rfl (r w1 (post_ext ha hE1))⟩
  · obtain ⟨e1, e2⟩ := vE_some e
    obtain ⟨inp, pos, len, sum, esum⟩ := vpc_facts e hsm
    refine ⟨_, _, _, _, rfl, ifB_false rfl ?_⟩
    refine rread (ha.keep hE1 (fun _ _ x => x)) (h.ext hE1) (by omega) from_ n fun w2 hp2 => ⟨_, _, rfl, ?_⟩
    obtain ⟨F2, a2, m2', f2⟩ := hp2
    have ec : cpE T bs.length to from_ n = vE T bs.length from_ n := by unfold cpE; rw [e1]; rfl
    rcases vE_cases T bs.length from_ n with ⟨c1, c2⟩ | ⟨c1, lf, c2, c3⟩
    · rw [c2] at a2
      rw [c1] at ec ⊢
      rw [cpB, cpT, ec, if_neg (by decide), if_neg (by decide)] at r
      refine ifB_true rfl (r w2 ⟨F2, by simpa [tchL] using a2, Mod.trans hE1.mod m2' (fun _ _ x => x), fun k hk => (f2 k hk).imp id (fun x => Nat.le_trans hE1.size x)⟩)
    · obtain ⟨inpf, posf, lenf, sumf, esumf⟩ := vpc_facts c2 hsm
      rw [c1] at ec ⊢
      rw [cpB, cpT, ec, if_pos rfl, if_pos rfl] at r
      have hsz : ((strOf (rdB bs (vL T bs.length from_ n))).size : Int) = n := by
        rw [c3, ← bytesOf_length, bytesOf_strOf, rdB_len lf inpf]
        exact esumf
      refine ifB_false rfl ?_
      have h2 := (h.ext hE1).keep m2' (fun j hj x => hd j hj x)
      refine rwrite a2 h2 (by rw [List.length_append, tchL_len, c3]; omega) to (strOf (rdB bs (vL T bs.length from_ n))) fun w3 hp3 => ?_
      rw [hsz, bytesOf_strOf] at hp3
      rw [hsz, e1]
      obtain ⟨F3, a3, m3, f3⟩ := hp3
      refine ⟨_, rfl, r w3 ⟨F3, a3, ?_, fun k hk => ?_⟩⟩
      · have n1 : Mod F w w2 := Mod.trans hE1.mod m2' (fun _ _ x => x)
        exact Mod.trans n1 m3 (fun k hk x => (f2 k x).elim id (fun y => by have := hE1.size; omega))
      · rcases f3 k hk with x | x
        · exact (f2 k x).imp id (fun y => Nat.le_trans hE1.size y)
        · exact .inr (by have := hE1.size; have := m2'.size; omega)

end

end Go.Proofs.Ytnjjgpjpodmgpaa
