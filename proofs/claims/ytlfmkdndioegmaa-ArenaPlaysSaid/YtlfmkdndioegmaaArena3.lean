/- An arena that a statement has made itself; the statements' 'awake'. Conditions: none. -/
import Derived.Test.YtlfmkdndioegmaaArena2
set_option linter.unusedVariables false
set_option linter.unusedSimpArgs false
namespace Go.Proofs.Ytlfmkdndioegmaa
open Go.RowKit

/-- It returns true, and nothing of w has turned. -/
abbrev Yes (w : World) (v : Value) (w' : World) : Prop := v = .bool true ∧ Ext w w'

/-- An arena made since w0, nothing of which has turned. -/
def Own (w0 w : World) (T : TypeId) (p : Nat) (bs : List UInt8) (ts : List Tch) : Prop := ∃ F, Ar w T p F bs ts ∧ Ext w0 w ∧ ∀ k, F k → w0.heap.size ≤ k

def OwnN (w0 w : World) (T : TypeId) (p : Nat) (bs : List UInt8) (n : Nat) : Prop := ∃ ts, Own w0 w T p bs ts ∧ ts.length ≤ n

section
variable {w0 w w' : World} {T : TypeId} {p : Nat} {bs : List UInt8} {ts : List Tch} {n : Nat} {K : Value → World → Prop}

theorem Own.ext (o : Own w0 w T p bs ts) : Ext w0 w := by obtain ⟨_, _, h, _⟩ := o; exact h
theorem OwnN.ext (o : OwnN w0 w T p bs n) : Ext w0 w := by obtain ⟨_, o, _⟩ := o; exact o.ext
theorem Own.keep (o : Own w0 w T p bs ts) (h : Ext w w') : Own w0 w' T p bs ts := by
  obtain ⟨F, a, e, f⟩ := o
  exact ⟨F, a.keep h (fun _ _ x => x), e.trans h, f⟩
theorem OwnN.keep (o : OwnN w0 w T p bs n) (h : Ext w w') : OwnN w0 w' T p bs n := by
  obtain ⟨ts, o, l⟩ := o
  exact ⟨ts, o.keep h, l⟩
theorem Own.small (o : Own w0 w T p bs ts) : bs.length ≤ 2097152 := by obtain ⟨_, a, _, _⟩ := o; exact a.small
theorem OwnN.small (o : OwnN w0 w T p bs n) : bs.length ≤ 2097152 := by obtain ⟨_, o, _⟩ := o; exact o.small

theorem own_of {F : Nat → Prop} (hE : Ext w0 w) (hF : ∀ k, F k → w0.heap.size ≤ k) {bs' : List UInt8} {ts' : List Tch} (hp : Post w T p F bs' ts' w') : Own w0 w' T p bs' ts' := by
  obtain ⟨F', a, m, f⟩ := hp
  refine ⟨F', a, Ext.new hE m hF, fun k hk => ?_⟩
  rcases f k hk with q | q
  · exact hF k q
  · exact Nat.le_trans hE.size q

theorem Own.call {g : FuncId} {args : Array Value} {x : Value} {bs' : List UInt8} {ts' : List Tch} (o : Own w0 w T p bs ts)
    (c : ∀ F, Ar w T p F bs ts → Calls Try.prog g args w (Ret fun r w' => r = x ∧ Post w T p F bs' ts' w')) (k : ∀ w', Own w0 w' T p bs' ts' → K x w') : CallS Try.prog g args w K := by
  obtain ⟨F, a, e, f⟩ := o
  refine .of (c F a) ?_
  rintro r w' ⟨rfl, hp⟩
  exact k w' (own_of e f hp)

theorem own_new (T : TypeId) {g : FuncId} (c : ∀ w, Calls Try.prog g #[.int .i64 (n : Int)] w (Ret fun v w' =>
    (¬ (0 ≤ (n : Int) ∧ (n : Int) ≤ 2097152) ∧ v = .tuple #[.pointer none, .int .i64 12] ∧ w' = w) ∨
    (0 ≤ (n : Int) ∧ (n : Int) ≤ 2097152 ∧ ∃ p F, v = .tuple #[.pointer (some ⟨p, 0, none⟩), .int .i64 0] ∧ Ar w' T p F (List.replicate (n : Int).toNat 0) [] ∧ Ext w w' ∧ ∀ k, F k → w.heap.size ≤ k)))
    (hn : n ≤ 2097152) (k : ∀ w' p, Own w w' T p (List.replicate n 0) [] → K (.tuple #[.pointer (some ⟨p, 0, none⟩), .int .i64 0]) w') : CallS Try.prog g #[.int .i64 (n : Int)] w K := by
  refine .of (c w) ?_
  rintro v w' (⟨h, _⟩ | ⟨_, _, p, F, rfl, a, e, f⟩)
  · exact absurd ⟨by omega, by omega⟩ h
  · exact k w' p ⟨F, by simpa using a, e, f⟩

theorem new_own (hn : n ≤ 2097152) (k : ∀ w' p, Own w w' 73 p (List.replicate n 0) [] → K (.tuple #[.pointer (some ⟨p, 0, none⟩), .int .i64 0]) w') :
    CallS Try.prog 21 #[.int .i64 (n : Int)] w K := own_new 73 (fun w => new_any n w) hn k

theorem new_n (hn : n ≤ 2097152) (k : ∀ w' p, OwnN w w' 73 p (List.replicate n 0) 0 → K (.tuple #[.pointer (some ⟨p, 0, none⟩), .int .i64 0]) w') :
    CallS Try.prog 21 #[.int .i64 (n : Int)] w K := new_own hn fun w' p o => k w' p ⟨[], o, Nat.le_refl _⟩

theorem OwnN.call {g : FuncId} {args : Array Value} {x : Value} {bs' : List UInt8} (o : OwnN w0 w T p bs n) (hn : n < 1000)
    (c : ∀ F ts, ts.length < 1099511627770 → Ar w T p F bs ts → ∃ ts', Calls Try.prog g args w (Ret fun r w' => r = x ∧ Post w T p F bs' ts' w') ∧ ts'.length ≤ ts.length + 2) (k : ∀ w', OwnN w0 w' T p bs' (n + 2) → K x w') : CallS Try.prog g args w K := by
  obtain ⟨ts, ⟨F, a, e, f⟩, l⟩ := o
  obtain ⟨ts', h, l'⟩ := c F ts (by omega) a
  refine .of h ?_
  rintro r w' ⟨rfl, hp⟩
  exact k w' ⟨ts', own_of e f hp, by omega⟩

theorem iteN {c : Prop} [Decidable c] (a : Int) (k : Int) (b : Bool) : (if c then noteA ts a k b else ts).length ≤ ts.length + 2 := by
  have := noteA_len ts a k b
  split <;> omega

theorem store_n (o : OwnN w0 w T p bs n) (hn : n < 1000) (a x : Int) (hx0 : 0 ≤ x) (hx : x < 18446744073709551616)
    (k : ∀ w', OwnN w0 w' T p (if OkA bs.length a 8 then putAt bs a.toNat (le8 x.toNat) else bs) (n + 2) → K (.int .i64 (if OkA bs.length a 8 then 0 else 4)) w') :
    CallS Try.prog 23 #[.pointer (some ⟨p, 0, none⟩), .int .i64 a, .int .u64 x] w K :=
  o.call hn (fun F ts l h => ⟨_, store_any h a x hx0 hx (by omega), iteN _ _ _⟩) k

theorem load_n (o : OwnN w0 w T p bs n) (hn : n < 1000) (a : Int)
    (k : ∀ w', OwnN w0 w' T p bs (n + 2) → K (.tuple #[.int .u64 ((if OkA bs.length a 8 then leV (seg bs a.toNat 8) else 0 : Nat) : Int), .int .i64 (if OkA bs.length a 8 then 0 else 4)]) w') :
    CallS Try.prog 24 #[.pointer (some ⟨p, 0, none⟩), .int .i64 a] w K :=
  o.call hn (fun F ts l h => ⟨_, load_any h a (by omega), iteN _ _ _⟩) k

theorem read_n (o : OwnN w0 w T p bs n) (hn : n < 1000) (a m : Int)
    (k : ∀ w', OwnN w0 w' T p bs (n + 2) → K (.tuple #[.string (if OkA bs.length a m then strOf (seg bs a.toNat m.toNat) else ByteArray.mk #[]), .int .i64 (if OkA bs.length a m then 0 else 4)]) w') :
    CallS Try.prog 25 #[.pointer (some ⟨p, 0, none⟩), .int .i64 a, .int .i64 m] w K :=
  o.call hn (fun F ts l h => ⟨_, read_any h a m (by omega), iteN _ _ _⟩) k

theorem write_n (o : OwnN w0 w T p bs n) (hn : n < 1000) (a : Int) (s : ByteArray)
    (k : ∀ w', OwnN w0 w' T p (if OkA bs.length a s.size then putAt bs a.toNat (bytesOf s) else bs) (n + 2) → K (.int .i64 (if OkA bs.length a s.size then 0 else 4)) w') :
    CallS Try.prog 26 #[.pointer (some ⟨p, 0, none⟩), .int .i64 a, .string s] w K :=
  o.call hn (fun F ts l h => ⟨_, write_any h a s (by omega), iteN _ _ _⟩) k

theorem zero_n (o : OwnN w0 w T p bs n) (hn : n < 1000) (a m : Int)
    (k : ∀ w', OwnN w0 w' T p (if OkA bs.length a m then putAt bs a.toNat (List.replicate m.toNat 0) else bs) (n + 2) → K (.int .i64 (if OkA bs.length a m then 0 else 4)) w') :
    CallS Try.prog 27 #[.pointer (some ⟨p, 0, none⟩), .int .i64 a, .int .i64 m] w K :=
  o.call hn (fun F ts l h => ⟨_, zero_any h a m (by omega), iteN _ _ _⟩) k

theorem copy_n (o : OwnN w0 w T p bs n) (hn : n < 1000) (t a m : Int)
    (k : ∀ w', OwnN w0 w' T p (if OkA bs.length t m ∧ OkA bs.length a m then putAt bs t.toNat (seg bs a.toNat m.toNat) else bs) (n + 2) → K (.int .i64 (if OkA bs.length t m ∧ OkA bs.length a m then 0 else 4)) w') :
    CallS Try.prog 31 #[.pointer (some ⟨p, 0, none⟩), .int .i64 t, .int .i64 a, .int .i64 m] w K :=
  o.call hn (fun F ts l h => ⟨_, copy_any h t a m (by omega), by
    have h1 := noteA_len ts a m false
    have h2 := noteA_len (noteA ts a m false) t m true
    split <;> omega⟩) k

end

/-! ### awake -/

theorem awake_any (w : World) : Calls Try.prog 22 #[] w (Ret fun v w' => v = .bool true ∧ Ext w w') := by
  refine VC.garthlaw01_awake.ok ?_
  unfold VC.garthlaw01_awake
  refine new_own (n := 16) (by omega) fun w1 p o1 => ?_
  refine ⟨_, _, rfl, ifB_false rfl (ifB_false rfl ?_)⟩
  refine o1.call (fun F h => store_any h 8 258 (by omega) (by omega) (by decide)) fun w2 o2 => ?_
  have e2 : (if OkA (List.replicate 16 (0 : UInt8)).length 8 8 then putAt (List.replicate 16 0) (8 : Int).toNat (le8 (258 : Int).toNat) else List.replicate 16 0) = [0, 0, 0, 0, 0, 0, 0, 0, 2, 1, 0, 0, 0, 0, 0, 0] := by decide
  have t2 : (if OkA (List.replicate 16 (0 : UInt8)).length 8 8 then noteA [] 8 8 true else []) = [(8, 8, true)] := by decide
  rw [e2, t2] at o2
  refine ⟨_, rfl, o2.call (fun F h => read_any h 8 2 (by decide)) fun w3 o3 => ?_⟩
  refine ⟨_, _, rfl, o3.call (fun F h => load_any h 9 (by decide)) fun w4 o4 => ?_⟩
  refine ⟨_, _, rfl, o4.call (fun F h => read_any h 16 0 (by decide)) fun w5 o5 => ?_⟩
  refine ⟨_, _, rfl, ifB_true (by decide) (ifB_true (by decide) (ifB_true (by decide) (ifB_true (by decide) (ifB_true (by decide) ?_))))⟩
  have t5 : (if OkA ([0, 0, 0, 0, 0, 0, 0, 0, 2, 1, 0, 0, 0, 0, 0, 0] : List UInt8).length 16 0 then noteA (if OkA ([0, 0, 0, 0, 0, 0, 0, 0, 2, 1, 0, 0, 0, 0, 0, 0] : List UInt8).length 9 8 then noteA (if OkA ([0, 0, 0, 0, 0, 0, 0, 0, 2, 1, 0, 0, 0, 0, 0, 0] : List UInt8).length 8 2 then noteA [(8, 8, true)] 8 2 false else [(8, 8, true)]) 9 8 false else (if OkA ([0, 0, 0, 0, 0, 0, 0, 0, 2, 1, 0, 0, 0, 0, 0, 0] : List UInt8).length 8 2 then noteA [(8, 8, true)] 8 2 false else [(8, 8, true)])) 16 0 false else (if OkA ([0, 0, 0, 0, 0, 0, 0, 0, 2, 1, 0, 0, 0, 0, 0, 0] : List UInt8).length 9 8 then noteA (if OkA ([0, 0, 0, 0, 0, 0, 0, 0, 2, 1, 0, 0, 0, 0, 0, 0] : List UInt8).length 8 2 then noteA [(8, 8, true)] 8 2 false else [(8, 8, true)]) 9 8 false else (if OkA ([0, 0, 0, 0, 0, 0, 0, 0, 2, 1, 0, 0, 0, 0, 0, 0] : List UInt8).length 8 2 then noteA [(8, 8, true)] 8 2 false else [(8, 8, true)]))) = [(8, 8, true), (8, 2, false)] := by decide
  rw [t5] at o5
  obtain ⟨F, a5, e5, f5⟩ := o5
  refine .of (touched_any a5 (by decide)) ?_
  rintro r w6 ⟨hr, hE6, _⟩
  obtain ⟨q, c, rfl⟩ := hr.shape
  refine ⟨_, _, _, rfl, ifB_true rfl ?_⟩
  have a6 := a5.keep hE6 (fun _ _ x => x)
  refine .of (size_any a6) ?_
  rintro r w7 ⟨rfl, rfl⟩
  exact ⟨_, rfl, rfl, e5.trans hE6⟩

end Go.Proofs.Ytlfmkdndioegmaa
