/- Page: pages that are alike go on alike. Conditions: none. -/
import Derived.Test.YtkbgiflmecaffaaPageI
set_option linter.unusedVariables false
set_option linter.unusedSimpArgs false
namespace Go.Proofs.Ytkbgiflmecaffaa
open Go.RowKit

section
variable {base unit per : Nat} {pre post : List UInt8} {s t : St}

theorem Alike.lk (h : Alike base pre post s t) (g : CfgC t.bs.length 0 unit per t.hr) {k : Nat} (hk : k < per) : lkA s.bs base unit k = lkA t.bs 0 unit k := by
  have := (g.at hk).1
  unfold lkA
  rw [h.bs, ← h.len, seg_mid pre t.bs post (by omega), Nat.zero_add]

theorem Alike.put (h : Alike base pre post s t) {a : Nat} {l : List UInt8} (hl : a + l.length ≤ t.bs.length) : putAt s.bs (base + a) l = pre ++ putAt t.bs a l ++ post := by
  rw [h.bs, ← h.len, putAt_mid pre t.bs post l hl]

theorem Alike.pop (h : Alike base pre post s t) (g : CfgC t.bs.length 0 unit per t.hr) : popI s.bs base unit per s.hr = popI t.bs 0 unit per t.hr ∧ popE s.bs base unit per s.hr = popE t.bs 0 unit per t.hr ∧ Alike base pre post (popS unit per base s) (popS unit per 0 t) := by
  have hh := h.hr
  have g1 := g.h1
  by_cases hn : t.hr < 0
  · simp only [popI, popE, popS, popB, popH, hh, if_pos hn]
    exact ⟨trivial, trivial, ⟨h.bs, h.len, h.f, rfl, h.hw, h.hs⟩⟩
  obtain ⟨k, hk⟩ := Int.eq_ofNat_of_zero_le (show 0 ≤ t.hr by omega)
  have hkp : k < per := by omega
  have e := h.lk g hkp
  have hat := (g.at hkp).1
  have hn' : ¬ ((k : Int) < 0) := by omega
  simp only [popI, popE, popS, popB, popH, hh, hk, if_neg hn', Int.toNat_natCast, e]
  split
  · exact ⟨trivial, trivial, ⟨h.bs, h.len, h.f, rfl, h.hw, h.hs⟩⟩
  · refine ⟨trivial, trivial, ⟨?_, h.len, h.f, rfl, h.hw, h.hs⟩⟩
    rw [h.put (by rw [le8_length]; omega), Nat.zero_add]

theorem Alike.tak (h : Alike base pre post s t) (k : Int) : Alike base pre post (takS s k) (takS t k) := ⟨h.bs, h.len, h.f, h.hr, h.hw, by simp only [takS, h.hs]⟩

theorem Alike.out (h : Alike base pre post s t) (g : CfgC t.bs.length 0 unit per t.hr) : outI unit per base s = outI unit per 0 t ∧ outE unit per base s = outE unit per 0 t ∧ Alike base pre post (outS unit per base s) (outS unit per 0 t) := by
  obtain ⟨a, b, c⟩ := h.pop g
  unfold outI outE outS
  rw [a, b, h.hs]
  split
  · exact ⟨rfl, rfl, c.tak _⟩
  · exact ⟨rfl, rfl, c⟩

theorem Alike.alo (h : Alike base pre post s t) (g : CfgC t.bs.length 0 unit per t.hr) (gw : CfgC t.bs.length 0 unit per t.hw) : aloI unit per base s = aloI unit per 0 t ∧ aloE unit per base s = aloE unit per 0 t ∧ Alike base pre post (aloS unit per base s) (aloS unit per 0 t) := by
  have c : Alike base pre post (colS s) (colS t) := ⟨h.bs, h.len, h.f, h.hw, rfl, h.hs⟩
  have o := h.out g
  have oc := c.out gw
  unfold aloI aloE aloS
  rw [h.hr, h.hw, h.f, h.hs]
  split
  · exact o
  split
  · exact oc
  split
  · exact ⟨rfl, rfl, h⟩
  · exact ⟨rfl, rfl, ⟨h.bs, h.len, rfl, rfl, rfl, rfl⟩⟩

theorem Alike.fre (h : Alike base pre post s t) (gw : CfgC t.bs.length 0 unit per t.hw) (hl : t.hs.length = per) (k : Int) : Sf.giveE s.hs k = Sf.giveE t.hs k ∧ Alike base pre post (freS unit per base s k) (freS unit per 0 t k) := by
  refine ⟨by rw [h.hs], ?_⟩
  have hg : Alike base pre post (givS s k) (givS t k) := ⟨h.bs, h.len, h.f, h.hr, h.hw, by simp only [givS, h.hs]⟩
  unfold freS
  rw [h.hs]
  split
  · rename_i he
    have hin : Sf.InS t.hs k := by
      by_cases q : Sf.InS t.hs k
      · exact q
      · rw [Sf.giveE, if_neg q] at he; omega
    have hkp : k.toNat < per := by have := hin.1; have := hin.2; omega
    have hf := unit_fit gw hkp
    have u8 := gw.u8
    have hz : Alike base pre post (zerS unit base (givS s k) k.toNat) (zerS unit 0 (givS t k) k.toNat) := ⟨by
      show putAt s.bs (base + k.toNat * unit) _ = _ ++ putAt t.bs (0 + k.toNat * unit) _ ++ _
      rw [Nat.zero_add, h.put (by rw [List.length_replicate]; omega)], h.len, h.f, h.hr, h.hw, hg.hs⟩
    have hlen : (zerS unit 0 (givS t k) k.toNat).bs.length = t.bs.length := by
      show (putAt t.bs (0 + k.toNat * unit) _).length = _
      exact putAt_length (by rw [List.length_replicate]; omega)
    refine ⟨?_, h.len, h.f, h.hr, rfl, hg.hs⟩
    show putAt (zerS unit base (givS s k) k.toNat).bs (base + k.toNat * unit) (le8 (s.hw + 1).toNat) = _ ++ putAt (zerS unit 0 (givS t k) k.toNat).bs (0 + k.toNat * unit) (le8 (t.hw + 1).toNat) ++ _
    rw [Nat.zero_add, hz.put (by rw [le8_length, hlen]; omega), h.hw]
  · exact hg

end

end Go.Proofs.Ytkbgiflmecaffaa
