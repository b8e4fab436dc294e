/- Contracts of package arena and of its reference. Conditions: the arena is there, the numbers fit, its touches are fewer than 2^40. -/
import Derived.Test.YtnjjgpjpodmgpaaArenaM
import Derived.Test.YtnjjgpjpodmgpaaVcA
set_option linter.unusedVariables false
set_option linter.unusedSimpArgs false
namespace Go.Proofs.Ytnjjgpjpodmgpaa
open Go.RowKit

abbrev IsI64 (x : Int) : Prop := -9223372036854775808 ≤ x ∧ x ≤ 9223372036854775807

/-- Are these bytes there? -/
abbrev OkA (n : Nat) (a k : Int) : Prop := 0 ≤ a ∧ 0 ≤ k ∧ a + k ≤ n

def noteA (ts : List Tch) (a k : Int) (wr : Bool) : List Tch := if 0 < k then ts ++ [(a, k, wr)] else ts

/-- An arena at p, its blocks being F. -/
def Ar (w : World) (T : TypeId) (p : Nat) (F : Nat → Prop) (bs : List UInt8) (ts : List Tch) : Prop := ∃ gb v, AR w T p gb v bs ts ∧ F = fpA p gb v

/-- After a call on the arena: its bytes and touches, and nothing else has turned. -/
def Post (w : World) (T : TypeId) (p : Nat) (F : Nat → Prop) (bs : List UInt8) (ts : List Tch) (w' : World) : Prop := ∃ F', Ar w' T p F' bs ts ∧ Mod F w w' ∧ ∀ k, F' k → F k ∨ w.heap.size ≤ k

theorem Ar.keep {F G : Nat → Prop} {w w' : World} {T : TypeId} {p : Nat} {bs : List UInt8} {ts : List Tch} (h : Ar w T p F bs ts) (hm : Mod G w w') (hF : ∀ k, F k → ¬ G k) : Ar w' T p F bs ts := by
  obtain ⟨gb, v, h, rfl⟩ := h
  exact ⟨gb, v, h.keep hm hF, rfl⟩

theorem Ar.lt {F : Nat → Prop} {w : World} {T : TypeId} {p : Nat} {bs : List UInt8} {ts : List Tch} (h : Ar w T p F bs ts) : ∀ k, F k → k < w.heap.size := by
  obtain ⟨gb, v, h, rfl⟩ := h
  exact h.lt

theorem Ar.same {F : Nat → Prop} {w : World} {T : TypeId} {p : Nat} {bs : List UInt8} {ts : List Tch} (h : Ar w T p F bs ts) : Post w T p F bs ts w := ⟨F, h, Mod.refl _ _, fun k hk => .inl hk⟩

theorem Ar.small {F : Nat → Prop} {w : World} {T : TypeId} {p : Nat} {bs : List UInt8} {ts : List Tch} (h : Ar w T p F bs ts) : bs.length ≤ 2097152 := by
  obtain ⟨gb, v, h, rfl⟩ := h
  exact h.small

/-! ### New -/

theorem new_any (n : Int) (w : World) : Calls Try.prog 13 #[.int .i64 n] w (Ret fun v w' =>
    (¬ (0 ≤ n ∧ n ≤ 2097152) ∧ v = .tuple #[.pointer none, .int .i64 12] ∧ w' = w) ∨
    (0 ≤ n ∧ n ≤ 2097152 ∧ ∃ p F, v = .tuple #[.pointer (some ⟨p, 0, none⟩), .int .i64 0] ∧ Ar w' 107 p F (List.replicate n.toNat 0) [] ∧ Ext w w' ∧ ∀ k, F k → w.heap.size ≤ k)) := by
  refine VC.arena_New.ok ?_
  unfold VC.arena_New
  refine ifD (fun h => .inl ⟨by omega, rfl, rfl⟩) (fun h => ?_)
  refine ifD (fun h => .inl ⟨by omega, rfl, rfl⟩) (fun h' => ?_)
  refine ⟨by omega, by omega, by omega, by omega, al_intro fun b w1 hb hE hs hs1 => al_intro fun p w2 hp hE2 hs2 hs3 => .inr ⟨by omega, by omega, p, _, rfl, ⟨b, .slice none 0 0, ⟨?_, ?_, TRow.nil _, by omega, by simp [Value.ownBlock], by simp [Value.ownBlock], ?_⟩, rfl⟩, hE.trans hE2, ?_⟩⟩
  · rw [List.length_replicate]; exact hp
  · rw [madeCells_u8] at hb; exact hE2.keep hb
  · rw [List.length_replicate]; omega
  · intro k hk
    rcases hk with rfl | rfl | hk
    · omega
    · omega
    · simp [Value.ownBlock] at hk

theorem refnew_any (n : Int) (w : World) : Calls Try.prog 39 #[.int .i64 n] w (Ret fun v w' =>
    (¬ (0 ≤ n ∧ n ≤ 2097152) ∧ v = .tuple #[.pointer none, .int .i64 12] ∧ w' = w) ∨
    (0 ≤ n ∧ n ≤ 2097152 ∧ ∃ p F, v = .tuple #[.pointer (some ⟨p, 0, none⟩), .int .i64 0] ∧ Ar w' 70 p F (List.replicate n.toNat 0) [] ∧ Ext w w' ∧ ∀ k, F k → w.heap.size ≤ k)) := by
  refine VC.garthref01_New.ok ?_
  unfold VC.garthref01_New
  refine ifD (fun h => .inl ⟨by omega, rfl, rfl⟩) (fun h => ?_)
  refine ifD (fun h => .inl ⟨by omega, rfl, rfl⟩) (fun h' => ?_)
  refine ⟨by omega, by omega, by omega, by omega, al_intro fun b w1 hb hE hs hs1 => al_intro fun p w2 hp hE2 hs2 hs3 => .inr ⟨by omega, by omega, p, _, rfl, ⟨b, .slice none 0 0, ⟨?_, ?_, TRow.nil _, by omega, by simp [Value.ownBlock], by simp [Value.ownBlock], ?_⟩, rfl⟩, hE.trans hE2, ?_⟩⟩
  · rw [List.length_replicate]; exact hp
  · rw [madeCells_u8] at hb; exact hE2.keep hb
  · rw [List.length_replicate]; omega
  · intro k hk
    rcases hk with rfl | rfl | hk
    · omega
    · omega
    · simp [Value.ownBlock] at hk

/-! ### has, touch -/

section
variable {w : World} {T : TypeId} {p gb : Nat} {v : Value} {bs : List UInt8} {ts : List Tch}

theorem has_any (h : AR w T p gb v bs ts) (a k : Int) :
    Calls Try.prog 48 #[.pointer (some ⟨p, 0, none⟩), .int .i64 a, .int .i64 k] w (Ret fun r w' => r = .int .i64 (if OkA bs.length a k then 0 else 4) ∧ w' = w) := by
  refine VC.arena_Arena_has.ok ?_
  unfold VC.arena_Arena_has
  have hsm := h.small
  refine ifB_false rfl ?_
  refine ifD (fun h1 => ⟨by rw [if_neg (by omega)], rfl⟩) (fun h1 => ?_)
  refine ifD (fun h2 => ⟨by rw [if_neg (by omega)], rfl⟩) (fun h2 => ?_)
  refine ⟨_, _, _, h.slot0, ?_⟩
  refine ifD (fun h3 => ⟨by rw [if_neg (by omega)], rfl⟩) (fun h3 => ?_)
  refine ⟨_, _, _, h.slot0, ?_⟩
  rw [wrap_i64 (n := (bs.length : Int) - a) (by omega) (by omega)]
  exact ifD (fun h4 => ⟨by rw [if_pos (by omega)], rfl⟩) (fun h4 => ⟨by rw [if_neg (by omega)], rfl⟩)

theorem there_any (h : AR w T p gb v bs ts) (a k : Int) :
    Calls Try.prog 77 #[.pointer (some ⟨p, 0, none⟩), .int .i64 a, .int .i64 k] w (Ret fun r w' => r = .bool (decide (OkA bs.length a k)) ∧ w' = w) := by
  refine VC.garthref01_Arena_there.ok ?_
  unfold VC.garthref01_Arena_there
  have hsm := h.small
  have no : ∀ c : Prop, [Decidable c] → ¬ c → (Value.bool false = Value.bool (decide c)) := fun c _ hc => by simp [hc]
  refine ifD (fun h1 => ?_) (fun h1 => ⟨no _ (by omega), rfl⟩)
  refine ifD (fun h2 => ?_) (fun h2 => ⟨no _ (by omega), rfl⟩)
  refine ⟨_, _, _, h.slot0, ?_⟩
  refine ifD (fun h3 => ?_) (fun h3 => ⟨no _ (by omega), rfl⟩)
  refine ⟨_, _, _, h.slot0, ?_, rfl⟩
  rw [wrap_i64 (n := (bs.length : Int) - a) (by omega) (by omega)]
  congr 1
  simp only [decide_eq_decide]
  omega

/-- A touch is noted, as touch and note do it. -/
theorem note_step {K : World → Prop} (h : AR w T p gb v bs ts) (a k : Int) (b : Bool) (hl : ts.length < 1099511627776)
    (hK : ∀ v' w', AR w' T p gb v' bs (ts ++ [(a, k, b)]) → Mod (fpA p gb v) w w' → (∀ j, fpA p gb v' j → fpA p gb v j ∨ w.heap.size ≤ j) → K w') :
    ∃ (p1 : Option Addr) (n2 : Nat) (n3 : Nat), w.cell? ((Addr.mk p 0 none).add 1) = some (Value.slice p1 n2 n3) ∧
      ∀ (n4 : Nat) (w5 : World), n4 = w.heap.size → w5 = w.alloc (Obj.cells #[Value.int IntKind.i64 a, Value.int IntKind.i64 k, Value.bool b] 50) →
        ∃ (p6 : Option Addr) (n7 : Nat) (n8 : Nat) (w9 : World),
          Sem.run Try.prog (Builtin.append_ #[47, 47] 47 #[Value.slice p1 n2 n3, Value.slice (some (Addr.mk n4 (0 : Nat) none)) (1 : Nat) (1 : Nat)]) w5 = Result.ok (Value.slice p6 n7 n8) w9 ∧
          someA (some (Addr.mk p 0 none)) fun (a10 : Addr) => WrC w9 (a10.add (1 : Nat)) (1 : Nat) ∧ ∀ (w11 : World), w11 = wr w9 (a10.add (1 : Nat)) [Value.slice p6 n7 n8] → K w11 := by
  obtain ⟨p1, c, rfl⟩ := h.row.shape
  refine ⟨p1, _, c, h.slot1, al_intro fun n4 w5 hb hE hs hs5 => ?_⟩
  have h5 := h.ext hE
  obtain ⟨v', w9, hr, hrow, hm, hv⟩ := run_touch (t := (a, k, b)) (a := ⟨n4, 0, none⟩) (c := 1) h5.row (cells_all hb) hl
  obtain ⟨p6, c6, rfl⟩ := hrow.shape
  refine ⟨p6, _, c6, w9, hr, ?_⟩
  have hlt := h.lt
  have nep : ∀ j, (Value.slice p6 (ts ++ [(a, k, b)]).length c6).ownBlock = some j → j ≠ p ∧ j ≠ gb := by
    intro j hj
    rcases hv j hj with e | e
    · exact ⟨fun q => h.vp (by rw [e, q]), fun q => h.vg (by rw [e, q])⟩
    · have h1 := hlt p (.inl rfl)
      have h2 := hlt gb (.inr (.inl rfl))
      have := hE.size
      exact ⟨by omega, by omega⟩
  have hp9 : w9.heap[p]? = some (.cells #[.slice (some ⟨gb, 0, none⟩) bs.length bs.length, Value.slice p1 ts.length c] T (0, 0)) := hm.keep h5.head (fun e => h.vp e)
  have hg9 := hm.keep h5.data (fun e => h.vg e)
  simp only [someA, add_mk]
  refine wr_intro (n := 1) hp9 (by simp) fun w11 h11 hm11 hs11 => ?_
  have hmod : Mod (fpA p gb (Value.slice p1 ts.length c)) w w11 := by
    refine Mod.trans (Mod.trans (hE.mod (F := fpA p gb (Value.slice p1 ts.length c))) hm (fun j _ hj => .inr (.inr hj))) hm11 (fun j _ hj => .inl hj)
  refine hK _ w11 ⟨?_, hm11.keep hg9 (fun e => h.ne e.symm), hrow.keep hm11 (fun j hj => (nep j hj).1), h.ne, fun e => (nep p e).1 rfl, fun e => (nep gb e).2 rfl, h.small⟩ hmod (fun j hj => ?_)
  · simpa [setAt] using h11
  · rcases hj with rfl | rfl | hj
    · exact .inl (.inl rfl)
    · exact .inl (.inr (.inl rfl))
    · rcases hv j hj with e | e
      · exact .inl (.inr (.inr e))
      · exact .inr (by have := hE.size; omega)

theorem touch_any (h : AR w T p gb v bs ts) (a k : Int) (b : Bool) (hok : OkA bs.length a k) (hl : ts.length < 1099511627776) :
    Calls Try.prog 49 #[.pointer (some ⟨p, 0, none⟩), .int .i64 a, .int .i64 k, .bool b] w
      (Ret fun r w' => r = .slice (subA (some ⟨gb, 0, none⟩) a.toNat bs.length 1) k.toNat (bs.length - a.toNat) ∧
        ∃ v', AR w' T p gb v' bs (noteA ts a k b) ∧ Mod (fpA p gb v) w w' ∧ ∀ j, fpA p gb v' j → fpA p gb v j ∨ w.heap.size ≤ j) := by
  refine VC.arena_Arena_touch.ok ?_
  unfold VC.arena_Arena_touch
  have hsm := h.small
  have hwr : IntKind.i64.wrap (a + k) = a + k := wrap_i64 (by omega) (by omega)
  refine ifD (fun h1 => ?_) (fun h1 => ?_)
  · refine note_step h a k b hl fun v' w' h' hm hf => ?_
    refine ⟨_, _, _, h'.slot0, ?_⟩
    rw [hwr]
    refine ⟨by omega, by omega, by omega, ?_, v', ?_, hm, hf⟩
    · rw [show (a + k).toNat - a.toNat = k.toNat by omega]
    · rw [noteA, if_pos h1]; exact h'
  · refine ⟨_, _, _, h.slot0, ?_⟩
    rw [hwr]
    refine ⟨by omega, by omega, by omega, ?_, v, ?_, Mod.refl _ _, fun j hj => .inl hj⟩
    · rw [show (a + k).toNat - a.toNat = k.toNat by omega]
    · rw [noteA, if_neg h1]; exact h

theorem note_any (h : AR w T p gb v bs ts) (a k : Int) (b : Bool) (hl : ts.length < 1099511627776) :
    Calls Try.prog 78 #[.pointer (some ⟨p, 0, none⟩), .int .i64 a, .int .i64 k, .bool b] w
      (Ret fun r w' => r = .tuple #[] ∧ ∃ v', AR w' T p gb v' bs (noteA ts a k b) ∧ Mod (fpA p gb v) w w' ∧ ∀ j, fpA p gb v' j → fpA p gb v j ∨ w.heap.size ≤ j) := by
  refine VC.garthref01_Arena_note.ok ?_
  unfold VC.garthref01_Arena_note
  refine ifD (fun h1 => ?_) (fun h1 => ?_)
  · refine note_step h a k b hl fun v' w' h' hm hf => ⟨rfl, v', ?_, hm, hf⟩
    rw [noteA, if_pos h1]; exact h'
  · refine ⟨rfl, v, ?_, Mod.refl _ _, fun j hj => .inl hj⟩
    rw [noteA, if_neg h1]; exact h

end

end Go.Proofs.Ytnjjgpjpodmgpaa
