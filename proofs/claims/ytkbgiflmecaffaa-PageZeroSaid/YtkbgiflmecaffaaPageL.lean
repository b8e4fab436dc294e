/- Page: the closure that plays on two pages. Conditions: the pages are there, and alike. -/
import Derived.Test.YtkbgiflmecaffaaPageK
set_option linter.unusedVariables false
set_option linter.unusedSimpArgs false
namespace Go.Proofs.Ytkbgiflmecaffaa
open Go.RowKit

section
variable {w0 w w' : World} {K K' : Nat → Prop} {kind pb ap base qb aq base' : Nat} {s t : St}

theorem outS_len {u p base : Nat} {s : St} (g : CfgC s.bs.length base u p s.hr) : (outS u p base s).bs.length = s.bs.length := by
  unfold outS
  split <;> exact popB_len' g

theorem aloS_len {u p base : Nat} {s : St} (g : CfgC s.bs.length base u p s.hr) (gw : CfgC s.bs.length base u p s.hw) : (aloS u p base s).bs.length = s.bs.length := by
  unfold aloS
  split
  · exact outS_len g
  split
  · exact outS_len (s := colS s) gw
  split <;> rfl

theorem freS_len {u p base : Nat} {s : St} {k : Int} (gw : CfgC s.bs.length base u p s.hw) (hl : s.hs.length = p) : (freS u p base s k).bs.length = s.bs.length := by
  unfold freS
  split
  · rename_i he
    have hin : Sf.InS s.hs k := by
      by_cases q : Sf.InS s.hs k
      · exact q
      · rw [Sf.giveE, if_neg q] at he; omega
    have hkp : k.toNat < p := by have := hin.1; have := hin.2; omega
    have hf := unit_fit gw hkp
    have u8 := gw.u8
    have e : (putAt s.bs (base + k.toNat * u) (List.replicate u 0)).length = s.bs.length := putAt_length (by rw [List.length_replicate]; omega)
    show (putAt (putAt s.bs (base + k.toNat * u) (List.replicate u 0)) (base + k.toNat * u) (le8 _)).length = _
    rw [putAt_length (by rw [le8_length, e]; omega), e]
  · rfl

theorem play_any {X : Type} {f : X → Int × Int} {l : List X} {pa : Option Addr} {cap : Nat} {pre post : List UInt8} {cb cq : Nat} {Tc : TypeId}
    (hrow : RowAt w0 pa 2 (fun x => [.int .i64 (f x).1, .int .i64 (f x).2]) l) (hmax : l.length ≤ 200) (h : Two w0 K kind pb ap base s qb aq 0 t w) (hA : Alike base pre post s t) (hKb : K cb) (hKq : K cq)
    (hcb : w.heap[cb]? = some (.cells #[.pointer (some ⟨pb, 0, none⟩)] Tc (0, 0))) (hcq : w.heap[cq]? = some (.cells #[.pointer (some ⟨qb, 0, none⟩)] Tc (0, 0)))
    (hs : s.ts.length ≤ 10000000) (ht : t.ts.length ≤ 10000000) {R : Value → World → Prop}
    (r : ∀ w1 s1 t1, Two w0 K kind pb ap base s1 qb aq 0 t1 w1 → Alike base pre post s1 t1 → w1.heap[cb]? = some (.cells #[.pointer (some ⟨pb, 0, none⟩)] Tc (0, 0)) → w1.heap[cq]? = some (.cells #[.pointer (some ⟨qb, 0, none⟩)] Tc (0, 0)) →
      s1.ts.length ≤ s.ts.length + 2 * l.length → t1.ts.length ≤ t.ts.length + 2 * l.length → t1.bs.length = t.bs.length → R (.bool true) w1) :
    CallS Try.prog 33 #[.slice pa l.length cap, .pointer (some ⟨cb, 0, none⟩), .pointer (some ⟨cq, 0, none⟩)] w R := by
  constructor
  refine VC.garthlaw12_PageMoves_1.ok ?_
  unfold VC.garthlaw12_PageMoves_1
  refine ⟨fun n i w1 => ∃ (j : Nat) (s1 t1 : St), i = (j : Int) ∧ n + j = l.length ∧ Two w0 K kind pb ap base s1 qb aq 0 t1 w1 ∧ Alike base pre post s1 t1 ∧ w1.heap[cb]? = some (.cells #[.pointer (some ⟨pb, 0, none⟩)] Tc (0, 0)) ∧ w1.heap[cq]? = some (.cells #[.pointer (some ⟨qb, 0, none⟩)] Tc (0, 0)) ∧
      s1.ts.length ≤ s.ts.length + 2 * j ∧ t1.ts.length ≤ t.ts.length + 2 * j ∧ t1.bs.length = t.bs.length, ⟨l.length, 0, s, t, rfl, rfl, h, hA, hcb, hcq, by omega, by omega, rfl⟩, ?_⟩
  clear h hA hcb hcq
  rintro n jv i w1 ⟨j, s1, t1, rfl, hn, h, hA, hcb, hcq, hs1, ht1, hlen⟩
  refine ifD (fun hj => ⟨by omega, by omega, ?_⟩) (fun hj => r w1 s1 t1 h hA hcb hcq (by omega) (by omega) hlen)
  have hj : j < l.length := by have hj : (j : Int) < (l.length : Int) := hj; omega
  obtain ⟨y, hy⟩ : ∃ y, l[j]? = some y := ⟨_, List.getElem?_eq_getElem hj⟩
  rw [Int.toNat_natCast]
  refine (hrow.ext h.ext).pair hy (al_intro fun b w2 hb hE2 hs2 hs2' => ?_)
  refine wr_intro (n := 2) hb (by simp) fun w3 hb3 hm3 hs3 => ?_
  have hE3 : Ext w1 w3 := hE2.new hm3 (fun k hk => by subst hk; omega)
  have h3 := h.grow hE3 (b := b) (by omega) (lt_of_blk hb3)
  have hcb3 := hE3.keep hcb
  have hcq3 := hE3.keep hcq
  have e1 : IntKind.i64.wrap ((j : Int) + 1) = ((j + 1 : Nat) : Int) := by rw [wrap_i64 (by omega) (by omega)]; omega
  rw [e1]
  obtain ⟨g1, g2, g3⟩ := h3.facts
  refine ⟨_, by rw [add_mk]; exact cell_blk hb3 rfl, ifB_intro (fun _ => ?_) (fun _ => ?_)⟩
  · obtain ⟨a1, a2, a3⟩ := hA.alo g1 g2
    refine ⟨_, cell_blk hcb3 rfl, h3.alloc1 (by omega) fun w4 h4 m4 => ⟨_, _, rfl, ?_⟩⟩
    have k4 : ∀ {x : Nat} {o : Obj}, (K x ∨ x = b) → w3.heap[x]? = some o → w4.heap[x]? = some o := fun hx ho => m4.keep ho (fun q => q hx)
    refine ⟨_, cell_blk (k4 (.inl hKq) hcq3) rfl, h4.flip.alloc1 (by omega) fun w5 h5 m5 => ⟨_, _, rfl, ?_⟩⟩
    have k5 : ∀ {x : Nat} {o : Obj}, (K x ∨ x = b) → w3.heap[x]? = some o → w5.heap[x]? = some o := fun hx ho => m5.keep (k4 hx ho) (fun q => q hx)
    rw [a1, a2]
    refine ifB_false (by simp) (ifB_false (by simp) ⟨n - 1, by omega, j + 1, _, _, rfl, by omega, h5.flip.weak (fun _ x => .inl x), a3, k5 (.inl hKb) hcb3, k5 (.inl hKq) hcq3, ?_, ?_, (aloS_len g1 g2).trans hlen⟩)
    · have := aloS_ts (unitN kind) (perN kind) base s1; omega
    · have := aloS_ts (unitN kind) (perN kind) 0 t1; omega
  · rintro w4 rfl
    have hE4 := Ext.drew w3
    have h4 := h3.mod hE4.mod
    have hb4 := hE4.keep hb3
    have hcb4 := hE4.keep hcb3
    have hcq4 := hE4.keep hcq3
    obtain ⟨a1, a2⟩ := hA.fre g2 g3 (f y).2
    have c1 : w3.drew.cell? ((Addr.mk b 0 none).add 1) = some (.int .i64 (f y).2) := by rw [add_mk]; exact cell_blk hb4 rfl
    refine ⟨_, cell_blk hcb4 rfl, _, c1, _, cell_blk hcq4 rfl, _, c1, h4.free1 (by omega) _ fun w5 h5 m5 => ⟨_, rfl, ?_⟩⟩
    have k5 : ∀ {x : Nat} {o : Obj}, (K x ∨ x = b) → w3.drew.heap[x]? = some o → w5.heap[x]? = some o := fun hx ho => m5.keep ho (fun q => q hx)
    have c5 : w5.cell? ((Addr.mk b 0 none).add 1) = some (.int .i64 (f y).2) := by rw [add_mk]; exact cell_blk (k5 (.inr rfl) hb4) rfl
    refine ⟨⟨_, c5, rfl⟩, ⟨_, cell_blk (k5 (.inl hKq) hcq4) rfl, rfl⟩, h5.flip.free1 (by omega) _ fun w6 h6 m6 => ⟨_, rfl, ?_⟩⟩
    have k6 : ∀ {x : Nat} {o : Obj}, (K x ∨ x = b) → w3.drew.heap[x]? = some o → w6.heap[x]? = some o := fun hx ho => m6.keep (k5 hx ho) (fun q => q hx)
    rw [a1]
    refine ifB_false (by simp) ⟨n - 1, by omega, j + 1, _, _, rfl, by omega, h6.flip.weak (fun _ x => .inl x), a2, k6 (.inl hKb) hcb4, k6 (.inl hKq) hcq4, ?_, ?_, (freS_len g2 g3).trans hlen⟩
    · have := freS_ts (unitN kind) (perN kind) base s1 (f y).2; omega
    · have := freS_ts (unitN kind) (perN kind) 0 t1 (f y).2; omega

end

end Go.Proofs.Ytkbgiflmecaffaa
