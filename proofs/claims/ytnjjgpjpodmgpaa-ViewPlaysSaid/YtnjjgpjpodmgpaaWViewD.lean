/- Statement of layer 16 (view): ViewPlays. Conditions: the arguments' cells are there. -/
import Derived.Test.YtnjjgpjpodmgpaaRVwE
import Derived.Test.YtnjjgpjpodmgpaaSpanSame
set_option linter.unusedVariables false
set_option linter.unusedSimpArgs false
namespace Go.Proofs.Ytnjjgpjpodmgpaa
open Go.RowKit Go.Maps

/-- Both sides, at a place of a script. -/
def Pv (w0 : World) (a t b r bp n j : Nat) (w : World) : Prop :=
  ∃ bs ts T, Bv w0 (· = bp) a t b r bs ts T bs ts T w ∧ w.heap[bp]? = some (bothC a t b r) ∧ bs.length = n ∧ ts.length ≤ 10000000 * j ∧ T.length ≤ j

theorem Pv.mod {w0 w w' : World} {a t b r bp n j : Nat} (h : Pv w0 a t b r bp n j w) (hE : Ext w w') : Pv w0 a t b r bp n j w' := by
  obtain ⟨bs, ts, T, h, hb, h1, h2, h3⟩ := h
  exact ⟨bs, ts, T, h.mod hE.mod, hE.keep hb, h1, h2, h3⟩

theorem Pv.up {w0 w : World} {a t b r bp n j : Nat} (h : Pv w0 a t b r bp n j w) : Pv w0 a t b r bp n (j + 1) w := by
  obtain ⟨bs, ts, T, h, hb, h1, h2, h3⟩ := h
  exact ⟨bs, ts, T, h, hb, h1, by omega, by omega⟩

theorem Pv.done {w0 w : World} {a t b r bp n j : Nat} (h : Pv w0 a t b r bp n j w) (hj : j < 100) (k1 k2 k3 k4 : Int) (s : ByteArray) {R : Value → World → Prop} (k : ∀ w', Pv w0 a t b r bp n (j + 1) w' → R (.bool true) w') :
    CallS Try.prog 41 #[.pointer (some ⟨bp, 0, none⟩), .agg #[.int .i64 k1, .int .i64 k2, .int .i64 k3, .int .i64 k4, .string s]] w R := by
  obtain ⟨bs, ts, T, h, hb, h1, h2, h3⟩ := h
  exact done_any h rfl hb (by omega) (by omega) k1 k2 k3 k4 s fun w' bs' ts' T' g g1 g2 g3 g4 => k w' ⟨bs', ts', T', g, g1, by omega, by omega, by omega⟩

set_option maxHeartbeats 2000000 in
set_option maxRecDepth 20000 in
theorem core_ViewPlays (w : World) (x0 : Int) {pa : Option Addr} {cap : Nat} {l : List VOp} (hrow : RowAt w pa 5 vopF l) (h63 : l.length ≤ maxLen) :
    Calls Try.prog 11 #[.int .i64 x0, .slice pa l.length cap] w (Ret (Yes w)) := by
  obtain ⟨size, hs, hsz⟩ := size_mod x0 8192 (by decide) (by decide)
  have hs : IntKind.i64.wrap ((IntKind.u64.wrap x0).tmod 8192) = (size : Int) := hs
  refine VC.garthlaw16_ViewPlays.ok ?_
  unfold VC.garthlaw16_ViewPlays
  rw [hs]
  refine ⟨by decide, tnew_any w fun tb m1 m2 w1 ht hE1 hT => ⟨_, rfl, al_intro fun rt w4 hrt hE4 hs4 _ => al_intro fun bp w6 hbp hE6 hs6 _ => .of (new_any (size : Int) w6) ?_⟩⟩
  rintro v w8 (⟨q, _, _⟩ | ⟨_, _, ap, F, rfl, hA, hE8, hF⟩)
  · exact absurd ⟨by omega, by omega⟩ q
  have hbp8 := hE8.keep hbp
  refine ⟨_, _, rfl, ?_⟩
  rw [add_mk]
  refine wr_intro (n := 1) hbp8 (by simp) fun w11 hbp11 hm11 hs11 => .of (refnew_any (size : Int) w11) ?_
  rintro v w13 (⟨q, _, _⟩ | ⟨_, _, aq, G, rfl, hB, hE13, hG⟩)
  · exact absurd ⟨by omega, by omega⟩ q
  have hbp13 := hE13.keep hbp11
  refine ⟨_, _, rfl, ?_⟩
  rw [add_mk]
  refine wr_intro (n := 1) hbp13 (by simp [setAt]) fun w16 hbp16 hm16 hs16 => ?_
  have z1 := hE1.size
  have z4 := hE4.size
  have z6 := hE6.size
  have z8 := hE8.size
  have z13 := hE13.size
  have lT := ht.lt
  have lA := hA.lt
  have lB := hB.lt
  rw [Int.toNat_natCast] at hA hB
  have dT : ∀ j, ownT tb m1 m2 j → ¬ j = bp := fun j hj e => by have := lT j hj; omega
  have t16 : PT w16 tb m1 m2 [] := ((((ht.ext hE4).ext hE6).ext hE8).keep hm11 dT).ext hE13 |>.keep hm16 dT
  have dA : ∀ j, F j → ¬ j = bp := fun j hj e => by have := hF j hj; omega
  have a16 : Ar w16 107 ap F (List.replicate size 0) [] := ((hA.keep hm11 dA).keep hE13 (fun _ _ q => q)).keep hm16 dA
  have b16 : Ar w16 70 aq G (List.replicate size 0) [] := hB.keep hm16 (fun j hj e => by have := hG j hj; omega)
  have hrt16 := hm16.keep (hE13.keep (hm11.keep (hE8.keep (hE6.keep hrt)) (fun e => by omega))) (fun e => by omega)
  have r16 : RT w16 rt (.slice none 0 0) [] := ⟨hrt16, ORow.nil _ _, by simp [Value.ownBlock], t16.ok, by simp⟩
  have frt : ∀ j, fpR rt (.slice none 0 0) j ↔ j = rt := fun j => by simp [fpR, Value.ownBlock]
  have hE16 : Ext w w16 := by
    have e1 := ((hE1.trans hE4).trans hE6).trans hE8
    have e2 := e1.new hm11 (fun j hj => by subst hj; omega)
    exact (e2.trans hE13).new hm16 (fun j hj => by subst hj; omega)
  have h16 : Pv w ap tb aq rt bp size 0 w16 := by
    refine ⟨_, [], [], ⟨_, _, ⟨m1, m2, F, a16, t16, fun j hj q => by have := lT j hj; have := hF j q; omega, fun j => Iff.rfl⟩, ⟨_, G, b16, r16, fun j hj q => by have := (frt j).1 hj; have := hG j q; omega, fun j => Iff.rfl⟩, ?_, ?_, ?_, hE16⟩, hbp16, List.length_replicate, by simp, by simp⟩
    · rintro j (hj | hj) (q | q)
      · have := lT j hj; have := (frt j).1 q; omega
      · have := lT j hj; have := hG j q; omega
      · have := hF j hj; have := (frt j).1 q; omega
      · have := lA j hj; have := hG j q; omega
    · rintro j ((hj | hj) | (hj | hj))
      · exact ⟨hT j hj, dT j hj⟩
      · have := hF j hj; exact ⟨by omega, dA j hj⟩
      · have := (frt j).1 hj; exact ⟨by omega, by omega⟩
      · have := hG j hj; exact ⟨by omega, by omega⟩
    · rintro j rfl
      exact ⟨by omega, lt_of_blk hbp16⟩
  clear b16 a16 t16 r16 hrt16 dT dA frt
  refine awake_any w16 fun w18 hE18 => ⟨_, rfl, ifB_false rfl ?_⟩
  have h18 := h16.mod hE18
  have hE018 := hE16.trans hE18
  refine long_any (hrow.ext hE018) h63 fun b w24 hE24 hb => ⟨_, rfl, ?_⟩
  have h24 := h18.mod hE24
  cases b with
  | true => exact ifB_true rfl (awake_any w24 fun w27 hE27 => ⟨_, rfl, rfl, (hE018.trans hE24).trans hE27⟩)
  | false =>
  have hl100 : l.length ≤ 100 := hb rfl
  refine ifB_false rfl ⟨fun n i w33 => ∃ j : Nat, i = (j : Int) ∧ n + j = l.length ∧ Pv w ap tb aq rt bp size j w33, ⟨l.length, 0, rfl, rfl, h24⟩, ?_⟩
  clear h16 h18 h24
  rintro n jv i w33 ⟨j, rfl, hn, h33⟩
  refine ifD (fun hj => ⟨by omega, by omega, ?_⟩) (fun hj => ?_)
  · have hj : j < l.length := by omega
    have ew : IntKind.i64.wrap ((j : Int) + 1) = ((j + 1 : Nat) : Int) := by rw [wrap_i64 (by omega) (by omega)]; omega
    rw [ew]
    obtain ⟨z, hz⟩ : ∃ z, l[j]? = some z := ⟨_, List.getElem?_eq_getElem hj⟩
    rw [Int.toNat_natCast]
    have hEw : Ext w w33 := by
      obtain ⟨bs, ts, T, h, _⟩ := h33
      exact h.ext
    refine (hrow.ext hEw).vop hz (al_intro fun b w7 hb7 hE7 hs7 _ => ?_)
    refine wr_intro (n := 5) hb7 (by simp) fun w42 hb42 hm42 hs42 => ?_
    have h42 := h33.mod (hE7.new hm42 (fun k hk => by subst hk; omega))
    have skip : ∃ n45 : Nat, n45 < n ∧ ∃ j_1 : Nat, ((j + 1 : Nat) : Int) = (j_1 : Int) ∧ n45 + j_1 = l.length ∧ Pv w ap tb aq rt bp size j_1 w42 := ⟨n - 1, by omega, j + 1, rfl, by omega, h42.up⟩
    have call : ∃ (i51 i52 i53 i54 : Int) (s55 : ByteArray), CellsAt w42 (Addr.mk b 0 none) [.int .i64 i51, .int .i64 i52, .int .i64 i53, .int .i64 i54, .string s55] ∧
        CallS Try.prog 41 #[.pointer (some ⟨bp, 0, none⟩), .agg #[.int .i64 i51, .int .i64 i52, .int .i64 i53, .int .i64 i54, .string s55]] w42 fun v56 w57 => ∃ b58 : Bool, v56 = .bool b58 ∧
          ifB (!b58) (Yes w (.bool false) w57) (∃ n59 : Nat, n59 < n ∧ ∃ j_1 : Nat, ((j + 1 : Nat) : Int) = (j_1 : Int) ∧ n59 + j_1 = l.length ∧ Pv w ap tb aq rt bp size j_1 w57) :=
      ⟨z.1, z.2.1, z.2.2.1, z.2.2.2.1, z.2.2.2.2.1, cells_all (vs := [_, _, _, _, _]) hb42, h42.done (by omega) _ _ _ _ _ fun w' h' => ⟨_, rfl, ifB_false rfl ⟨n - 1, by omega, j + 1, rfl, by omega, h'⟩⟩⟩
    refine ⟨_, by rw [add_mk]; exact cell_blk hb42 rfl, ifB_intro (fun _ => ?_) (fun _ => ?_)⟩
    · refine ⟨_, by rw [add_mk]; exact cell_blk hb42 rfl, ifB_intro (fun _ => skip) (fun _ => ⟨_, by rw [add_mk]; exact cell_blk hb42 rfl, ifB_intro (fun _ => skip) (fun _ => ⟨_, by rw [add_mk]; exact cell_blk hb42 rfl, ifB_intro (fun _ => ?_) (fun _ => call)⟩)⟩)⟩
      exact ⟨_, by rw [add_mk]; exact cell_blk hb42 rfl, ifB_intro (fun _ => skip) (fun _ => call)⟩
    · refine ⟨_, by rw [add_mk]; exact cell_blk hb42 rfl, ifB_intro (fun _ => ?_) (fun _ => call)⟩
      exact ⟨_, by rw [add_mk]; exact cell_blk hb42 rfl, ifB_intro (fun _ => skip) (fun _ => call)⟩
  · obtain ⟨bs, ts, T, h, hbp, hbl, htl, hTl⟩ := h33
    have h0 := h
    obtain ⟨O, P, x, y, d, o, kk, hE⟩ := h
    obtain ⟨m1', m2', F', xa, xt, xd, xo⟩ := x
    obtain ⟨v', G', ya, yt, yd, yo⟩ := y
    refine ⟨_, cell_blk hbp rfl, .of (touched_any xa (by omega)) ?_⟩
    rintro v w92 ⟨hr, hE92, hown⟩
    obtain ⟨q, c, rfl⟩ := hr.shape
    have ka : ∀ j, F' j → j ≠ bp := fun j hj e => (o j (.inl ((xo j).1 (.inr hj)))).2 e
    have hbp92 := hE92.keep hbp
    refine ⟨_, _, _, rfl, _, cell_blk hbp92 rfl, .of (read_any (xa.keep hE92 (fun _ _ q => q)) 0 (size : Int) (by omega)) ?_⟩
    have okr : OkA bs.length 0 (size : Int) := ⟨by omega, by omega, by omega⟩
    rintro v w98 ⟨rfl, F8, x8, m98, f98⟩
    rw [if_pos okr, if_pos okr]
    have e : seg bs (0 : Int).toNat (size : Int).toNat = bs := by rw [Int.toNat_natCast]; exact seg_all bs (by omega)
    rw [e]
    have hbp98 := m98.keep hbp92 (fun z => ka _ z rfl)
    have z92 := hE92.size
    have xl := xa.lt
    have hr98 : TRow w98 (.slice q ts.length c) ts := hr.keep m98 (fun j hj z => by have := hown j hj; have := xl j z; omega)
    have y98 : Ar w98 70 aq G' bs ts := (ya.keep hE92 (fun _ _ q => q)).keep m98 (fun j hj z => d j ((xo j).1 (.inr z)) ((yo j).1 (.inr hj)))
    obtain ⟨gb, vq, g, _⟩ := y98
    obtain ⟨pq, cq, rfl⟩ := g.row.shape
    refine ⟨_, _, rfl, _, cell_blk hbp98 rfl, _, _, _, g.slot0, bs, rfl, fun k y hy => ⟨_, rfl, ?_⟩, ifB_true (decide_eq_true rfl) ⟨_, cell_blk hbp98 rfl, _, _, _, g.slot1, .of (same_any hr98 g.row rfl rfl (by omega)) ?_⟩⟩
    · rw [add_mk, Nat.zero_add]; exact g.byteAt hy
    · rintro v w113 ⟨rfl, hE113⟩
      refine ⟨_, rfl, dec_true rfl, (hE.trans hE92).new (Mod.trans (F := F') m98 hE113 (fun _ _ q => q.elim)) (fun j hj => (o j (.inl ((xo j).1 (.inr hj)))).1) |>.trans (Mod.refl _ _)⟩

theorem walk_ViewPlays (w : World) (x0 : Int) (_ : -9223372036854775808 ≤ x0 ∧ x0 ≤ 9223372036854775807) (y : VOpsSh.T) (oky : VOpsSh.Ok w y) :
    Calls Try.prog 11 #[.int .i64 x0, VOpsSh.val y] w (Ret (Yes w)) :=
  core_ViewPlays w x0 (l := y.2) (vops_row oky) (Nat.le_trans oky.1 oky.2.1)

end Go.Proofs.Ytnjjgpjpodmgpaa
