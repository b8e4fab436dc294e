/- A table of handles is copied. (Types and functions by number: this seat's alone: 20 is interface{}, 43 is maps.clone.) Conditions: the table is there. -/
import Derived.Test.YtkbgiflmecaffaaDoorCaps4
import Derived.Shelf.SlMaps.Clone
set_option linter.unusedVariables false
set_option linter.unusedSimpArgs false
namespace Go.Proofs.YtkbgiflmecaffaaDoor
open Go.RowKit

def slmRen : Go.Shelf.Ren :=
  { f := fun n => cond (Nat.beq n 5) 34 43, t := fun n => cond (Nat.beq n 4) 4 (cond (Nat.beq n 20) 20 (cond (Nat.beq n 23) 62 (cond (Nat.beq n 25) 3 69))), g := fun _ => 0 }

theorem slmLays : Go.Proofs.SlLaysW.n5 Tryd.prog slmRen :=
  { mixed := by kernel_rfl, f5 := ⟨ "maps.Clone[map[int]garth/caps.slot,int,garth/caps.slot]", by decide, by kernel_rfl⟩, f7 := by kernel_rfl, t4 := by kernel_rfl, a4 := fun _ => by kernel_rfl, z4 := fun _ => by kernel_rfl, v4 := fun _ => by kernel_rfl, t20 := by kernel_rfl, a20 := fun _ => by kernel_rfl, z20 := fun _ => by kernel_rfl, v20 := fun _ => by kernel_rfl,
    t23 := by kernel_rfl, a23 := fun _ => by kernel_rfl, z23 := fun _ => by kernel_rfl, v23 := fun _ => by kernel_rfl }

theorem mclone_any {w : World} {b sz : Nat} {m : Int → Option Value} (h : IMap w Tryd.prog 3 .i64 b m sz) :
    Calls Tryd.prog 34 #[.map (some b)] w (Ret fun r w' => r = .map (some w.heap.size) ∧ IMap w' Tryd.prog 3 .i64 w.heap.size m sz ∧ Ext w w') := by
  obtain ⟨D, h1, h2, h3⟩ := h.own
  refine (AnyW.maps_Clone_owns slmLays 3 rdV b sz D w h1).mono ?_
  rintro e w' ⟨rfl, c1, c2, c3⟩
  exact ⟨rfl, ⟨D, c1, h2, h3⟩, ⟨c3.os, c3.tape, c3.output, c3.size, fun k hk _ => c3.block k hk⟩⟩

theorem ccopy_any {w : World} {p : Nat} {F : Nat → Prop} {T nx : Int} {S : Int → Option Sl} {sz : Nat} (h : CP w p F T nx S sz) : Calls Tryd.prog 23 #[.pointer (some ⟨p, 0, none⟩)] w
    (Ret fun v w' => ∃ p' F', v = .pointer (some ⟨p', 0, none⟩) ∧ CP w' p' F' T nx S sz ∧ Ext w w' ∧ ∀ k, F' k → w.heap.size ≤ k) := by
  obtain ⟨B, ob, og, eb, eg, h, rfl⟩ := h
  refine VC.caps_Caps_Copy.ok ?_
  unfold VC.caps_Caps_Copy
  refine ifB_false rfl ?_
  rintro w0 rfl
  have hE0 := Ext.drew w
  have h0 := h.keep hE0 (fun _ _ x => x)
  simp only [someA]
  refine ⟨_, dcell h0.head rfl, _, dcell h0.head rfl, _, dcell h0.head rfl, _, dcell h0.head rfl, _, dcell h0.head rfl, .of (mclone_any h0.slots) ?_⟩
  rintro v w1 ⟨rfl, hm1, hE1⟩
  have h1 := h0.keep hE1 (fun _ _ x => x)
  refine ⟨_, rfl, ⟨_, dcell h1.head rfl, rfl⟩, ⟨_, dcell h1.head rfl, rfl⟩, ⟨_, dcell h1.head rfl, rfl⟩, ⟨_, dcell h1.head rfl, rfl⟩, .of (copy_any h1.objs) ?_⟩
  rintro v w2 ⟨qo, go, rfl, ho2, hE2, hno⟩
  have h2 := h1.keep hE2 (fun _ _ x => x)
  refine ⟨_, rfl, ⟨_, dcell h2.head rfl, rfl⟩, ⟨_, dcell h2.head rfl, rfl⟩, ⟨_, dcell h2.head rfl, rfl⟩, .of (copy_any h2.extra) ?_⟩
  rintro v w3 ⟨qe, ge, rfl, he3, hE3, hne⟩
  have h3 := h2.keep hE3 (fun _ _ x => x)
  refine ⟨_, rfl, ⟨_, dcell h3.head rfl, rfl⟩, ⟨_, dcell h3.head rfl, rfl⟩, by trivial, ?_⟩
  refine al_intro fun b w4 hb hE4 hs4 hs4' => ?_
  have lm := hm1.lt
  have lo := ho2.lt
  have le := he3.lt
  have a1 := hno qo (.inl rfl)
  have a2 := hno go (.inr rfl)
  have b1 := lo qo (.inl rfl)
  have b2 := lo go (.inr rfl)
  have c1 := hne qe (.inl rfl)
  have c2 := hne ge (.inr rfl)
  have d1 := le qe (.inl rfl)
  have d2 := le ge (.inr rfl)
  have s0 := hE0.size
  have s1 := hE1.size
  have s2 := hE2.size
  have s3 := hE3.size
  refine ⟨b, _, rfl, ⟨_, qo, go, qe, ge, ⟨hb, ((hm1.ext hE2).ext hE3).ext hE4, (ho2.ext hE3).ext hE4, he3.ext hE4, h.t0, h.n0, h.rng, h.ok, h.szn, ?_⟩, rfl⟩, (((hE0.trans hE1).trans hE2).trans hE3).trans hE4, ?_⟩
  · refine ⟨?_, ?_, ?_, ?_, ?_, ?_, ?_, ?_, ?_, ?_, ?_, ?_, ?_⟩ <;> omega
  · rintro k (rfl | rfl | rfl | rfl | rfl | rfl) <;> omega

end Go.Proofs.YtkbgiflmecaffaaDoor
