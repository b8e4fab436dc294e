/- Page: its arena is called; Move. Conditions: the pages are there. -/
import Derived.Test.YtkbgiflmecaffaaPageL
set_option linter.unusedVariables false
set_option linter.unusedSimpArgs false
namespace Go.Proofs.Ytkbgiflmecaffaa
open Go.RowKit

section
variable {w0 w w' : World} {K K' : Nat → Prop} {kind pb ap base qb aq base' : Nat} {s t : St}

theorem PGs.arenaC (h : PGs w0 K pb ap base kind s w) {g : FuncId} {args : Array Value} {P : Value → Prop} {bs' : List UInt8} {ts' : List Tch} (hl : bs'.length = s.bs.length)
    (call : ∀ FA, Ar w 70 ap FA s.bs s.ts → Calls Try.prog g args w (Ret fun v w' => P v ∧ Post w 70 ap FA bs' ts' w')) {R : Value → World → Prop}
    (r : ∀ v w', P v → PGs w0 K pb ap base kind { s with bs := bs', ts := ts' } w' → Mod (fun j => ¬ K j) w w' → R v w') : CallS Try.prog g args w R := by
  obtain ⟨rc, wc, sb, sg, FA, h, hn, hk, hE⟩ := h
  refine .of (call FA h.ar) ?_
  rintro v w1 ⟨hv, hp⟩
  obtain ⟨FA', h1, hm1, hF1⟩ := h.arp hp hl
  obtain ⟨a, b⟩ := PGs.step h hn hk hE h1 hm1 hF1
  exact r v w1 hv a b

theorem Two.arenaC (h : Two w0 K kind pb ap base s qb aq base' t w) {g : FuncId} {args : Array Value} {P : Value → Prop} {bs' : List UInt8} {ts' : List Tch} (hl : bs'.length = s.bs.length)
    (call : ∀ FA, Ar w 70 ap FA s.bs s.ts → Calls Try.prog g args w (Ret fun v w' => P v ∧ Post w 70 ap FA bs' ts' w')) {R : Value → World → Prop}
    (r : ∀ v w', P v → Two w0 K kind pb ap base { s with bs := bs', ts := ts' } qb aq base' t w' → Mod (fun j => ¬ K j) w w' → R v w') : CallS Try.prog g args w R := by
  obtain ⟨K1, h1, hs, back⟩ := h.left
  exact h1.arenaC hl call fun v w1 hv a m => r v w1 hv (back _ _ _ a m) (m.mono fun j x y => x (hs j y))

end

end Go.Proofs.Ytkbgiflmecaffaa
