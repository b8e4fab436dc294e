/- Statements of layer 11: ChainOwn. Conditions: the arguments' cells are there. -/
import Derived.Test.YtnjjgpjpodmgpaaWChainA
set_option linter.unusedVariables false
set_option linter.unusedSimpArgs false
namespace Go.Proofs.Ytnjjgpjpodmgpaa
open Go.RowKit

theorem unit_of (x : Int) : ∃ u : Nat, IntKind.i64.wrap ((8 : Int) + IntKind.i64.wrap ((IntKind.u64.wrap x).tmod (505 : Int))) = (u : Int) ∧ 8 ≤ u ∧ u ≤ 512 := by
  obtain ⟨n, hn, hlt⟩ := size_mod x 505 (by decide) (by decide)
  have hn : IntKind.i64.wrap ((IntKind.u64.wrap x).tmod 505) = (n : Int) := hn
  refine ⟨8 + n, ?_, by omega, by omega⟩
  rw [hn, wrap_i64 (by omega) (by omega)]
  rfl

theorem per_of (x : Int) : ∃ u : Nat, IntKind.i64.wrap ((1 : Int) + IntKind.i64.wrap ((IntKind.u64.wrap x).tmod (64 : Int))) = (u : Int) ∧ 1 ≤ u ∧ u ≤ 64 := by
  obtain ⟨n, hn, hlt⟩ := size_mod x 64 (by decide) (by decide)
  have hn : IntKind.i64.wrap ((IntKind.u64.wrap x).tmod 64) = (n : Int) := hn
  refine ⟨1 + n, ?_, by omega, by omega⟩
  rw [hn, wrap_i64 (by omega) (by omega)]
  rfl

theorem wmul {u r : Nat} (hu : u ≤ 512) (hr : r ≤ 64) : IntKind.i64.wrap ((u : Int) * (r : Int)) = ((u * r : Nat) : Int) ∧ u * r ≤ 32768 := by
  have h : u * r ≤ 512 * 64 := Nat.mul_le_mul hu hr
  exact ⟨by rw [← Int.natCast_mul, wrap_i64 (by omega) (by omega)], by omega⟩

/-- A touch of a chain's own first words. -/
def OwnT (base unit per : Nat) (ts : List Tch) : Prop := ∀ t ∈ ts, ∃ k : Nat, k < per ∧ t.1 = ((base + k * unit : Nat) : Int) ∧ t.2.1 = 8

theorem OwnT.snoc {base unit per : Nat} {ts : List Tch} (h : OwnT base unit per ts) {k : Nat} (hk : k < per) (b : Bool) : OwnT base unit per (ts ++ [(((base + k * unit : Nat) : Int), 8, b)]) := fun t ht => by
  rcases List.mem_append.1 ht with ht | ht
  · exact h t ht
  · rw [List.mem_singleton.1 ht]; exact ⟨k, hk, rfl, rfl⟩

theorem OwnT.push {base unit per : Nat} {ts : List Tch} (h : OwnT base unit per ts) (k : Int) : OwnT base unit per (pushT ts base unit per k) ∧ (pushT ts base unit per k).length ≤ ts.length + 1 := by
  unfold pushT
  split
  · rename_i hin
    have := hin.1
    have := hin.2
    exact ⟨h.snoc (by omega) true, by simp⟩
  · exact ⟨h, by omega⟩

theorem OwnT.pop {bs : List UInt8} {base unit per : Nat} {head : Int} {ts : List Tch} (h : OwnT base unit per ts) (h1 : head < per) (hp : 0 < per) : OwnT base unit per (popT bs ts base unit per head) ∧ (popT bs ts base unit per head).length ≤ ts.length + 2 := by
  unfold popT
  split
  · exact ⟨h, by omega⟩
  split
  · exact ⟨h.snoc (by omega) false, by simp⟩
  · exact ⟨(h.snoc (by omega) false).snoc (by omega) true, by simp⟩

theorem allR_lt (per : Nat) (lk : Nat → Nat) : ∀ (f : Nat) (k : Int) (acc : List Int), k < per → ∀ q ∈ (allR per lk f k acc).2, q < per
  | 0, k, acc, hk, q, hq => by unfold allR at hq; split at hq <;> simp at hq
  | f + 1, k, acc, hk, q, hq => by
    unfold allR at hq
    split at hq
    · simp at hq
    rename_i hk0
    split at hq
    · obtain rfl := List.mem_singleton.1 hq
      omega
    · rcases List.mem_cons.1 hq with rfl | hq
      · omega
      · exact allR_lt per lk f _ _ (by omega) q hq

theorem OwnT.all {base unit per : Nat} {ts : List Tch} (h : OwnT base unit per ts) {l : List Nat} (hl : ∀ q ∈ l, q < per) : OwnT base unit per (ts ++ readT base unit l) := fun t ht => by
  rcases List.mem_append.1 ht with ht | ht
  · exact h t ht
  · obtain ⟨k, hk, rfl⟩ := List.mem_map.1 ht
    exact ⟨k, hl k hk, rfl, rfl⟩

/-! ### scripts -/

abbrev LOp := Int × Int × Bool × Int × Unit
abbrev lopF (o : LOp) : List Value := [.int .i64 o.1, .int .i64 o.2.1, .bool o.2.2.1, .int .u64 o.2.2.2.1]
abbrev LOpsSh : Sh := .row 4 32 (.pair (.int .i64) (.pair (.int .i64) (.pair .bool (.pair (.int .u64) .unit))))

theorem lops_row {w : World} {x : LOpsSh.T} (h : LOpsSh.Ok w x) : RowAt w x.1.1 4 lopF x.2 := fun i y hi => (h.2.2.2 i y hi).1
theorem lops_wf {w : World} {x : LOpsSh.T} (h : LOpsSh.Ok w x) : ∀ y ∈ (show List LOp from x.2), (Lit.int .u64 y.2.2.2.1).wf = true := fun y hy => by
  obtain ⟨i, hi⟩ := List.mem_iff_getElem?.1 hy
  exact (h.2.2.2 i y hi).2.2.2.2.1

theorem RowAt.lop {w : World} {p : Option Addr} {l : List LOp} (h : RowAt w p 4 lopF l) {i : Nat} {x : LOp} (hi : l[i]? = some x) {K : Int → Int → Bool → Int → Prop} (k : K x.1 x.2.1 x.2.2.1 x.2.2.2.1) :
    someA p fun a => ∃ y z : Int, ∃ b : Bool, ∃ v : Int, CellsAt w (a.add (i * 4)) [.int .i64 y, .int .i64 z, .bool b, .int .u64 v] ∧ K y z b v := by
  obtain ⟨a, rfl, hc⟩ := h i x hi
  exact ⟨_, _, _, _, hc, k⟩

theorem core_ChainOwn (w : World) (x0 x1 : Int) {pa : Option Addr} {cap : Nat} {l : List LOp} (hrow : RowAt w pa 4 lopF l) (hl63 : l.length ≤ maxLen) :
    Calls Try.prog 4 #[.int .i64 x0, .int .i64 x1, .slice pa l.length cap] w (Ret (Yes w)) := by
  refine VC.garthlaw11_ChainOwn.ok ?_
  unfold VC.garthlaw11_ChainOwn
  obtain ⟨unit, hu, hu0, hu1⟩ := unit_of x0
  obtain ⟨per, hp, hp0, hp1⟩ := per_of x1
  obtain ⟨hm, hm1⟩ := wmul hu1 hp1
  simp only [hu, hp, hm]
  have e64 : IntKind.i64.wrap (((unit * per : Nat) : Int) + 64) = ((unit * per + 64 : Nat) : Int) := by rw [wrap_i64 (by omega) (by omega)]; rfl
  simp only [e64]
  refine ⟨by decide, by decide, start_any (n := unit * per + 64) (base := 32) ⟨hu0, hu1, hp0, hp1, by omega, by omega, by omega, by omega⟩ fun p cb w1 h1 => ?_⟩
  refine ⟨fun b w2 => CW w w2 (fun _ => False) 107 110 p cb (List.replicate (unit * per + 64) 0) [] 32 unit per (-1) ∧ (b = false → l.length ≤ 300), .of (lawake_any w1) ?_, ?_⟩
  · rintro r w2 ⟨rfl, hE⟩
    refine ⟨_, rfl, ifB_false rfl (ifB_false rfl ⟨h1.keep hE.mod, fun q => ?_⟩)⟩
    have := of_decide_eq_false q
    omega
  rintro jv b w2 ⟨h2, hl⟩
  refine ifB_intro (fun _ => .of (lawake_any w2) ?_) (fun hb => ?_)
  · rintro r w3 ⟨rfl, hE⟩
    exact ⟨_, rfl, ifB_true rfl ⟨rfl, h2.ext.trans hE⟩⟩
  have hl := hl hb
  refine ⟨fun m i w3 => ∃ (j : Nat) (bs : List UInt8) (ts : List Tch) (head : Int), i = (j : Int) ∧ m + j = l.length ∧ CW w w3 (fun _ => False) 107 110 p cb bs ts 32 unit per head ∧ OwnT 32 unit per ts ∧ ts.length ≤ 64 * j,
    ⟨l.length, 0, _, [], _, rfl, rfl, h2, fun t ht => by simp at ht, by simp⟩, ?_⟩
  clear h1 h2
  rintro m jv i w3 ⟨j, bs, ts, head, rfl, hmj, h3, hown, htl⟩
  refine ifD (fun hj => ⟨by omega, hj, ?_⟩) (fun hj => ?_)
  · obtain ⟨y, hy⟩ : ∃ y, l[j]? = some y := ⟨_, List.getElem?_eq_getElem (by omega)⟩
    rw [Int.toNat_natCast]
    refine (hrow.ext h3.ext).lop hy (al_intro fun b w8 hb8 hE8 hs8 hs8' => ?_)
    refine wr_intro (n := 4) hb8 (by simp) fun w9 hb9 hm9 _ => ?_
    have hE39 : Ext w3 w9 := hE8.new hm9 (fun k hk => by subst hk; omega)
    have hb9 : w9.heap[b]? = some (.cells #[.int .i64 y.1, .int .i64 y.2.1, .bool y.2.2.1, .int .u64 y.2.2.2.1] 46 (0, 0)) := hb9
    have h9 := h3.keep (hE39.mod (F := fun _ => False))
    have ej : IntKind.i64.wrap ((j : Int) + 1) = ((j + 1 : Nat) : Int) := by rw [wrap_i64 (by omega) (by omega)]; rfl
    have g := h9.cfg
    refine ⟨_, by rw [add_mk]; exact cell_blk hb9 rfl, ifB_intro (fun _ => ⟨_, by rw [add_mk]; exact cell_blk hb9 rfl, h9.push (by omega) _ fun w10 h10 _ => ⟨_, rfl, m - 1, by omega, j + 1, _, _, _, ej, by omega, h10, (hown.push _).1, ?_⟩⟩)
      (fun _ => ifB_intro (fun _ => h9.pop (by omega) fun w10 h10 _ => ⟨_, _, rfl, m - 1, by omega, j + 1, _, _, _, ej, by omega, h10, (hown.pop g.h1 (by omega)).1, ?_⟩)
        (fun _ => h9.all (by omega) fun r w10 F10 h10 _ hr => ?_))⟩
    · have := (hown.push y.2.1).2; omega
    · have := (hown.pop (bs := bs) g.h1 (by omega)).2; omega
    · have hlen := allR_len per (lkA bs 32 unit) per head []
      have hlt := allR_lt per (lkA bs 32 unit) per head [] g.h1
      have hn : (ts ++ readT 32 unit (allR per (lkA bs 32 unit) per head []).2).length ≤ 64 * (j + 1) := by simp only [List.length_append, readT, List.length_map]; omega
      have go : ∃ n47, n47 < m ∧ ∃ (j' : Nat) (bs' : List UInt8) (ts' : List Tch) (head' : Int), IntKind.i64.wrap ((j : Int) + 1) = (j' : Int) ∧ n47 + j' = l.length ∧ CW w w10 (fun _ => False) 107 110 p cb bs' ts' 32 unit per head' ∧ OwnT 32 unit per ts' ∧ ts'.length ≤ 64 * j' :=
        ⟨m - 1, by omega, j + 1, bs, _, head, ej, by omega, ⟨F10, h10⟩, hown.all hlt, hn⟩
      revert hr
      cases (allR per (lkA bs 32 unit) per head []).1 with
      | none => rintro rfl; exact ⟨_, _, _, _, rfl, go⟩
      | some q => rintro ⟨pp, c, rfl, _⟩; exact ⟨_, _, _, _, rfl, go⟩
  · have g := h3.cfg
    obtain ⟨F, h3⟩ := h3
    refine .of (touched_any h3.ar (by omega)) ?_
    rintro r w4 ⟨hT, hE4, hTn⟩
    obtain ⟨pp, c, rfl⟩ := hT.shape
    have hE04 := h3.ext.trans hE4
    refine ⟨_, _, _, rfl, fun m i w5 => ∃ j : Nat, i = (j : Int) ∧ m + j = ts.length ∧ Ext w4 w5, ⟨ts.length, 0, rfl, rfl, Mod.refl _ _⟩, ?_⟩
    rintro m jv i w5 ⟨q, rfl, hm5, hE5⟩
    refine ifD (fun hq => ⟨by omega, hq, ?_⟩) (fun hq => ⟨rfl, hE04.trans hE5⟩)
    have hT5 := hT.keep (Ext.mod (F := fun _ => False) hE5) (fun _ _ x => x)
    obtain ⟨t, ht⟩ : ∃ t, ts[q]? = some t := ⟨_, List.getElem?_eq_getElem (by omega)⟩
    obtain ⟨a, rfl, hc⟩ := hT5.cells ht
    obtain ⟨k, hk, ek, en⟩ := hown t (List.mem_of_getElem? ht)
    have hlt := (g.at hk).2
    have hf := (g.at hk).1
    have hn21 := g.n21
    rw [Int.toNat_natCast]
    refine ⟨_, _, _, hc, al_intro fun b w8 hb8 hE8 hs8 hs8' => ?_⟩
    refine wr_intro (n := 3) hb8 (by simp) fun w9 hb9 hm9 _ => ?_
    have hE59 : Ext w5 w9 := hE8.new hm9 (fun k hk => by subst hk; omega)
    have hb9 : w9.heap[b]? = some (.cells #[.int .i64 t.1, .int .i64 t.2.1, .bool t.2.2] 50 (0, 0)) := hb9
    have c0 : w9.cell? ((Addr.mk b 0 none).add 0) = some (.int .i64 t.1) := by rw [add_mk]; exact cell_blk hb9 rfl
    have c1 : w9.cell? ((Addr.mk b 0 none).add 1) = some (.int .i64 t.2.1) := by rw [add_mk]; exact cell_blk hb9 rfl
    have esub : IntKind.i64.wrap (t.1 - 32) = ((k * unit : Nat) : Int) := by rw [ek, wrap_i64 (by omega) (by omega)]; omega
    have hune : (unit : Int) ≠ 0 := by omega
    have emod : (((k * unit : Nat) : Int)).tmod (unit : Int) = 0 := by rw [Int.natCast_mul]; exact Int.mul_tmod_left _ _
    have ediv : (((k * unit : Nat) : Int)).tdiv (unit : Int) = (k : Int) := by rw [Int.natCast_mul]; exact Int.mul_tdiv_cancel _ hune
    refine ⟨fun bb w10 => bb = false ∧ w10 = w9, ⟨_, c1, ifB_false (by rw [en]; rfl) ⟨_, c0, ifD_false (by rw [ek]; omega) ⟨_, c0, hune, ?_⟩⟩⟩, ?_⟩
    · rw [esub, emod]
      refine ifB_false rfl ⟨_, c0, hune, ?_, rfl⟩
      rw [esub, ediv, wrap_i64 (by omega) (by omega)]
      exact decide_eq_false (by omega)
    · rintro jv bb w10 ⟨rfl, rfl⟩
      refine ifB_false rfl ⟨m - 1, by omega, q + 1, ?_, by omega, hE5.trans hE59⟩
      rw [wrap_i64 (by omega) (by omega)]; rfl

theorem walk_ChainOwn (w : World) (x0 : Int) (_ : -9223372036854775808 ≤ x0 ∧ x0 ≤ 9223372036854775807) (x1 : Int) (_ : -9223372036854775808 ≤ x1 ∧ x1 ≤ 9223372036854775807) (x : LOpsSh.T) (ok : LOpsSh.Ok w x) :
    Calls Try.prog 4 #[.int .i64 x0, .int .i64 x1, LOpsSh.val x] w (Ret (Yes w)) :=
  core_ChainOwn w x0 x1 (pa := x.1.1) (cap := x.1.2) (l := x.2) (lops_row ok) (Nat.le_trans ok.1 ok.2.1)

end Go.Proofs.Ytnjjgpjpodmgpaa
