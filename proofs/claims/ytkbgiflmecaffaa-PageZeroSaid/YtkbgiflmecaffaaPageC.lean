/- A page in memory, and contracts of package page. Conditions: the page is there. -/
import Derived.Test.YtkbgiflmecaffaaPageM
set_option linter.unusedVariables false
set_option linter.unusedSimpArgs false
namespace Go.Proofs.Ytkbgiflmecaffaa
open Go.RowKit

theorem dcell {w : World} {b : Nat} {arr : Array Value} {T : TypeId} {v : Value} {i : Nat} (h : w.heap[b]? = some (.cells arr T (0, 0))) (hv : arr[0 + i]? = some v) : w.cell? ((Addr.mk b 0 none).add i) = some v := by
  rw [add_mk]
  exact cell_blk h hv

theorem dcell2 {w : World} {b : Nat} {arr : Array Value} {T : TypeId} {v : Value} {i j : Nat} (h : w.heap[b]? = some (.cells arr T (0, 0))) (hv : arr[0 + i + j]? = some v) : w.cell? (((Addr.mk b 0 none).add i).add j) = some v := by
  rw [add_mk, add_mk]
  exact cell_blk h hv

/-- A page's state: bytes, touches, fresh, the heads of ready and waiting, who is had. -/
structure St where
  bs : List UInt8
  ts : List Tch
  f : Nat
  hr : Int
  hw : Int
  hs : List Bool

def ownP (pb rc wc sb sg j : Nat) : Prop := j = pb ∨ j = rc ∨ j = wc ∨ j = sb ∨ j = sg

structure PGw (w : World) (pb rc wc ap sb sg : Nat) (FA : Nat → Prop) (base kind : Nat) (s : St) : Prop where
  head : w.heap[pb]? = some (.cells #[.pointer (some ⟨rc, 0, none⟩), .pointer (some ⟨wc, 0, none⟩), .pointer (some ⟨ap, 0, none⟩), .int .i64 (base : Int), .int .i64 (kind : Int), .int .i64 (s.f : Int), .pointer (some ⟨sb, 0, none⟩)] 81 (0, 0))
  ar : Ar w 70 ap FA s.bs s.ts
  cr : CH w 97 rc ap base (unitN kind) (perN kind) s.hr
  cw : CH w 97 wc ap base (unitN kind) (perN kind) s.hw
  sh : Sf.SH w sb sg s.hs
  gr : CfgC s.bs.length base (unitN kind) (perN kind) s.hr
  gw : CfgC s.bs.length base (unitN kind) (perN kind) s.hw
  k8 : kind < 8
  hl : s.hs.length = perN kind
  fl : s.f ≤ perN kind
  d : pb ≠ rc ∧ pb ≠ wc ∧ pb ≠ sb ∧ pb ≠ sg ∧ rc ≠ wc ∧ rc ≠ sb ∧ rc ≠ sg ∧ wc ≠ sb ∧ wc ≠ sg
  nF : ∀ j, ownP pb rc wc sb sg j → ¬ FA j

/-- A page made behind world w0; blocks of K are kept apart. -/
def PGs (w0 : World) (K : Nat → Prop) (pb ap base kind : Nat) (s : St) (w : World) : Prop :=
  ∃ rc wc sb sg FA, PGw w pb rc wc ap sb sg FA base kind s ∧ (∀ j, ownP pb rc wc sb sg j ∨ FA j → w0.heap.size ≤ j ∧ ¬ K j) ∧ (∀ j, K j → w0.heap.size ≤ j ∧ j < w.heap.size) ∧ Ext w0 w

section
variable {w0 w w' : World} {K : Nat → Prop} {pb rc wc ap sb sg base kind : Nat} {FA FA' : Nat → Prop} {s s' : St}

theorem PGw.lt (h : PGw w pb rc wc ap sb sg FA base kind s) : ∀ j, ownP pb rc wc sb sg j ∨ FA j → j < w.heap.size := by
  rintro j ((rfl | rfl | rfl | rfl | rfl) | hj)
  · exact lt_of_blk h.head
  · exact lt_of_blk h.cr
  · exact lt_of_blk h.cw
  · exact h.sh.lt _ (.inl rfl)
  · exact h.sh.lt _ (.inr rfl)
  · exact h.ar.lt j hj

theorem PGw.keep {G : Nat → Prop} (h : PGw w pb rc wc ap sb sg FA base kind s) (hm : Mod G w w') (hG : ∀ j, ownP pb rc wc sb sg j ∨ FA j → ¬ G j) : PGw w' pb rc wc ap sb sg FA base kind s :=
  ⟨hm.keep h.head (hG _ (.inl (.inl rfl))), h.ar.keep hm (fun j hj => hG j (.inr hj)), h.cr.keep hm (hG _ (.inl (.inr (.inl rfl)))), h.cw.keep hm (hG _ (.inl (.inr (.inr (.inl rfl))))),
    h.sh.keep hm (fun j hj => hG j (.inl (by rcases hj with e | e; exact .inr (.inr (.inr (.inl e))); exact .inr (.inr (.inr (.inr e)))))), h.gr, h.gw, h.k8, h.hl, h.fl, h.d, h.nF⟩

theorem PGs.keep (h : PGs w0 K pb ap base kind s w) (hm : Mod K w w') : PGs w0 K pb ap base kind s w' := by
  obtain ⟨rc, wc, sb, sg, FA, h, hn, hk, hE⟩ := h
  exact ⟨rc, wc, sb, sg, FA, h.keep hm (fun j hj => (hn j hj).2), hn, fun j hj => ⟨(hk j hj).1, Nat.lt_of_lt_of_le (hk j hj).2 hm.size⟩, hE.new hm (fun j hj => (hk j hj).1)⟩

theorem PGs.ext (h : PGs w0 K pb ap base kind s w) : Ext w0 w := by
  obtain ⟨_, _, _, _, _, _, _, _, hE⟩ := h
  exact hE

/-- Behind a step. -/
theorem PGs.step (h : PGw w pb rc wc ap sb sg FA base kind s) (hn : ∀ j, ownP pb rc wc sb sg j ∨ FA j → w0.heap.size ≤ j ∧ ¬ K j) (hk : ∀ j, K j → w0.heap.size ≤ j ∧ j < w.heap.size) (hE : Ext w0 w)
    (h' : PGw w' pb rc wc ap sb sg FA' base kind s') (hm : Mod (fun j => ownP pb rc wc sb sg j ∨ FA j) w w') (hF : ∀ j, FA' j → FA j ∨ w.heap.size ≤ j) : PGs w0 K pb ap base kind s' w' ∧ Mod (fun j => ¬ K j) w w' := by
  refine ⟨⟨rc, wc, sb, sg, FA', h', fun j hj => ?_, fun j hj => ⟨(hk j hj).1, Nat.lt_of_lt_of_le (hk j hj).2 hm.size⟩, hE.new hm (fun j hj => (hn j hj).1)⟩, hm.mono fun j hj => (hn j hj).2⟩
  rcases hj with hj | hj
  · exact hn j (.inl hj)
  · rcases hF j hj with z | z
    · exact hn j (.inr z)
    · exact ⟨Nat.le_trans hE.size z, fun q => by have := (hk j q).2; omega⟩

/-- The ready chain was called. -/
theorem PGw.chR (h : PGw w pb rc wc ap sb sg FA base kind s) {bs' : List UInt8} {ts' : List Tch} {h' : Int} (hp : CPost w 70 97 ap rc FA bs' ts' base (unitN kind) (perN kind) h' w') (g : CfgC bs'.length base (unitN kind) (perN kind) h') (hl : bs'.length = s.bs.length) :
    ∃ FA', PGw w' pb rc wc ap sb sg FA' base kind { s with bs := bs', ts := ts', hr := h' } ∧ Mod (fun j => ownP pb rc wc sb sg j ∨ FA j) w w' ∧ ∀ j, FA' j → FA j ∨ w.heap.size ≤ j := by
  obtain ⟨FA', a, c, hm, hF⟩ := hp
  obtain ⟨d1, d2, d3, d4, d5, d6, d7, d8, d9⟩ := h.d
  have k : ∀ j, ownP pb rc wc sb sg j → j ≠ rc → ¬ (FA j ∨ j = rc) := fun j hj hne x => x.elim (h.nF j hj) hne
  refine ⟨FA', ⟨hm.keep h.head (k _ (.inl rfl) d1), a, c, h.cw.keep hm (k _ (.inr (.inr (.inl rfl))) d5.symm), h.sh.keep hm (fun j hj => ?_), g, ?_, h.k8, h.hl, h.fl, h.d, fun j hj x => ?_⟩, hm.mono fun j hj => hj.elim .inr (fun e => .inl (.inr (.inl e))), hF⟩
  · rcases hj with rfl | rfl
    · exact k _ (.inr (.inr (.inr (.inl rfl)))) d6.symm
    · exact k _ (.inr (.inr (.inr (.inr rfl)))) d7.symm
  · show CfgC bs'.length base (unitN kind) (perN kind) s.hw
    rw [hl]; exact h.gw
  · have := h.lt j (.inl hj)
    exact (hF j x).elim (h.nF j hj) (fun y => by omega)

/-- The waiting chain was called. -/
theorem PGw.chW (h : PGw w pb rc wc ap sb sg FA base kind s) {bs' : List UInt8} {ts' : List Tch} {h' : Int} (hp : CPost w 70 97 ap wc FA bs' ts' base (unitN kind) (perN kind) h' w') (g : CfgC bs'.length base (unitN kind) (perN kind) h') (hl : bs'.length = s.bs.length) :
    ∃ FA', PGw w' pb rc wc ap sb sg FA' base kind { s with bs := bs', ts := ts', hw := h' } ∧ Mod (fun j => ownP pb rc wc sb sg j ∨ FA j) w w' ∧ ∀ j, FA' j → FA j ∨ w.heap.size ≤ j := by
  obtain ⟨FA', a, c, hm, hF⟩ := hp
  obtain ⟨d1, d2, d3, d4, d5, d6, d7, d8, d9⟩ := h.d
  have k : ∀ j, ownP pb rc wc sb sg j → j ≠ wc → ¬ (FA j ∨ j = wc) := fun j hj hne x => x.elim (h.nF j hj) hne
  refine ⟨FA', ⟨hm.keep h.head (k _ (.inl rfl) d2), a, h.cr.keep hm (k _ (.inr (.inl rfl)) d5), c, h.sh.keep hm (fun j hj => ?_), ?_, g, h.k8, h.hl, h.fl, h.d, fun j hj x => ?_⟩, hm.mono fun j hj => hj.elim .inr (fun e => .inl (.inr (.inr (.inl e)))), hF⟩
  · rcases hj with rfl | rfl
    · exact k _ (.inr (.inr (.inr (.inl rfl)))) d8.symm
    · exact k _ (.inr (.inr (.inr (.inr rfl)))) d9.symm
  · show CfgC bs'.length base (unitN kind) (perN kind) s.hr
    rw [hl]; exact h.gr
  · have := h.lt j (.inl hj)
    exact (hF j x).elim (h.nF j hj) (fun y => by omega)

/-- The arena was called. -/
theorem PGw.arp (h : PGw w pb rc wc ap sb sg FA base kind s) {bs' : List UInt8} {ts' : List Tch} (hp : Post w 70 ap FA bs' ts' w') (hl : bs'.length = s.bs.length) :
    ∃ FA', PGw w' pb rc wc ap sb sg FA' base kind { s with bs := bs', ts := ts' } ∧ Mod (fun j => ownP pb rc wc sb sg j ∨ FA j) w w' ∧ ∀ j, FA' j → FA j ∨ w.heap.size ≤ j := by
  obtain ⟨FA', a, hm, hF⟩ := hp
  have g := h.gr
  rw [← hl] at g
  exact h.chR ⟨FA', a, h.cr.keep hm (h.nF _ (.inr (.inl rfl))), hm.mono fun j hj => .inl hj, hF⟩ g hl

/-- The shelf was called. -/
theorem PGw.shp (h : PGw w pb rc wc ap sb sg FA base kind s) {hs' : List Bool} (hp : Sf.SH w' sb sg hs') (hm : Mod (Sf.fpS sb sg) w w') (hl : hs'.length = s.hs.length) :
    PGw w' pb rc wc ap sb sg FA base kind { s with hs := hs' } ∧ Mod (fun j => ownP pb rc wc sb sg j ∨ FA j) w w' := by
  obtain ⟨d1, d2, d3, d4, d5, d6, d7, d8, d9⟩ := h.d
  refine ⟨⟨hm.keep h.head (fun x => x.elim d3 d4), h.ar.keep hm (fun j hj x => h.nF j (x.elim (fun e => .inr (.inr (.inr (.inl e)))) (fun e => .inr (.inr (.inr (.inr e))))) hj), h.cr.keep hm (fun x => x.elim d6 d7), h.cw.keep hm (fun x => x.elim d8 d9), hp, h.gr, h.gw, h.k8, by rw [← h.hl]; exact hl, h.fl, h.d, h.nF⟩,
    hm.mono fun j hj => .inl (hj.elim (fun e => .inr (.inr (.inr (.inl e)))) (fun e => .inr (.inr (.inr (.inr e)))))⟩

end

/-! ### what calls answer -/

def popS (u p base : Nat) (s : St) : St := { s with bs := popB s.bs base u p s.hr, ts := popT s.bs s.ts base u p s.hr, hr := popH s.bs base u p s.hr }
def takS (s : St) (k : Int) : St := { s with hs := Sf.takeAtH s.hs k }

/-- A block out of the ready chain. -/
def outS (u p base : Nat) (s : St) : St := if popE s.bs base u p s.hr = 0 then takS (popS u p base s) (popI s.bs base u p s.hr) else popS u p base s
def outI (u p base : Nat) (s : St) : Int := if popE s.bs base u p s.hr = 0 then popI s.bs base u p s.hr else 0
def outE (u p base : Nat) (s : St) : Int := if popE s.bs base u p s.hr = 0 then Sf.takeAtE s.hs (popI s.bs base u p s.hr) else popE s.bs base u p s.hr

def colS (s : St) : St := { s with hr := s.hw, hw := -1 }

def aloS (u p base : Nat) (s : St) : St := if 0 ≤ s.hr then outS u p base s else if 0 ≤ s.hw then outS u p base (colS s) else if s.f = p then s else takS { s with f := s.f + 1 } (s.f : Int)
def aloI (u p base : Nat) (s : St) : Int := if 0 ≤ s.hr then outI u p base s else if 0 ≤ s.hw then outI u p base (colS s) else if s.f = p then 0 else (s.f : Int)
def aloE (u p base : Nat) (s : St) : Int := if 0 ≤ s.hr then outE u p base s else if 0 ≤ s.hw then outE u p base (colS s) else if s.f = p then 10 else Sf.takeAtE s.hs (s.f : Int)

end Go.Proofs.Ytkbgiflmecaffaa
