/- Texts merged: Wt1 Wc1 VcL1 WTC. Conditions: none. -/
import Derived.Lib.SliceRun
import Derived.WalkKit
import Derived.Laws.StructEq
import Derived.ProofKit
import Derived.OpenShut
import Derived.ShutString
import Derived.ChangeOld
import Derived.Below
import Derived.SizedLaws
import Derived.Lib.SmallJoins
import Derived.LaidMore
import Derived.FnData
import Derived.Laws.AppendOwn
import Derived.Laws.CopyRow
import Derived.Laws.IdiomCopy
import Derived.Lib.BufferWrite
import Derived.Test.YtpnbcakbefplpaaGreatDoorProg
import Derived.KernelRfl
import Derived.Lib.TrailingZeros
import Derived.Shelf.Spec.TrailingZeros
import Derived.Test.YtpnbcakbefplpaaGreatDoorRows
import Derived.Test.YtpnbcakbefplpaaGreatDoorTie
import Derived.Stop.Joined
import Derived.Laws.FloatArith
import Derived.Maps.OwnSet
import Derived.Laws.Small
import Derived.Lib.AppendStr
import Derived.Lib.UnsafeStr
import Derived.Lib.Builder
import Derived.Laws.Externs
import Derived.Laws.ComplexArith
import Derived.Laws.Cover2
import Derived.Shelf.Sort.Plain
import Derived.Shelf.Slices.Clone
import Derived.Shelf.Slices.CompactI
import Derived.Shelf.Slices.Turned
import Derived.Shelf.Slices.In.SortNone
import Derived.Shelf.SlIterI.Nil
import Derived.Sort.OwnSortedInts
import Derived.Laws.IdiomStrings
import Derived.Test.YtpnbcakbefplpaaGreatDoorM06
set_option linter.unusedVariables false
set_option linter.unusedSimpArgs false
namespace Go.Proofs.YtpnbcakbefplpaaGreatDoor
set_option maxRecDepth 20000
section
open Go.RowKit Go.Maps Thing
def winO(a:Ad)(T:Int):List Int:=if 0<=T/\T<8 then a.ws T.toNat else []
section
variable{s:Sv}{sb:Nat}{y:Sy}{x:Se}{w:World}{F:Nat->Prop}{X C:Thing}{R:Value->World->Prop}
theorem s_windowA(g:AdOk s x.a)(h:X.P w F)(e:X=svX s sb y x*C)(T:Int)
  (r:∀p c w',ORow w' 3 1 intF (.slice p (winO x.a T).length c) (winO x.a T)->Ext w w'->(∀j,(Value.slice p (winO x.a T).length c).ownBlock=some j->w.heap.size<=j)->R (.slice p (winO x.a T).length c) w') :
  CallS Tryz.prog 13 #[.pointer (some ⟨sb,0,none⟩),.int .i64 T] w R:=by
 unfold winO at r
 by_cases hT:0<=T/\T<8
 ·rw[if_pos hT] at r
  obtain⟨m,rfl⟩:=Int.eq_ofNat_of_zero_le hT.1
  rw[Int.toNat_natCast] at r
  have:=g.ws m (by omega)
  exact s_window h e (by omega) (by omega) r
 ·rw[if_neg hT] at r
  constructor
  refine vc85.ok ?_
  unfold vc85
  refine ifB_false rfl ⟨_,sc_ad h e,?_⟩
  constructor
  refine vc96.ok ?_
  unfold vc96
  refine ifB_false rfl ⟨_,ac_po (s:=s) (ab:=y.ab) (z:=y.z) (a:=x.a) (C:=svAd s sb y x*C) h (by rw[e,sv_ad0]; ac_rfl),?_⟩
  constructor
  refine vc116.ok ?_
  unfold vc116
  refine poready _ _ ⟨_,rfl,?_⟩
  rw[if_neg (fun z=>hT ⟨z.1,z.2.1⟩)]
  exact ifB_true rfl ⟨_,_,_,rfl,_,_,_,rfl,r none 0 w (ORow.nil _ _) (Mod.refl _ _) fun j hj=>by simp[Value.ownBlock] at hj⟩
def bmM(l:List Int):Int->Option Value:=fun k=>if k ∈ l then some (.bool true)else none
theorem bm_map:Tryz.prog.underlying 42=some (.map 3 4):=by kernel_rfl
theorem bm_z(w:World):(zeroValue 4).run Tryz.prog w=.ok (.bool false) w:=by kernel_rfl
abbrev bmT(mp:Nat)(l:List Int):Thing:=mpT 3 mp (bmM l)
theorem bm_look{mp:Nat}{l:List Int}(h:X.P w F)(e:X=bmT mp l*C){k:Int}(hk:I64w k):(Instr.lookup 42 (.map (some mp)) (.int .i64 k) false).run Tryz.prog w=.ok (.bool (decide (k ∈ l))) w:=by
 have:=mp_look (K:=3) (mp:=mp) (m:=bmM l) (C:=C) h e int_und bm_map (bm_z w) hk
 rw[this]
 unfold bmM
 by_cases q:k ∈ l
 ·rw[if_pos q,decide_eq_true q]; rfl
 ·rw[if_neg q,decide_eq_false q]; rfl
theorem bm_store{mp:Nat}{l:List Int}(h:X.P w F)(e:X=bmT mp l*C){k:Int}(hk:I64w k)(few:∀k ∈ l,0<=k/\k<10000000) :
  ∃w' F',(Instr.mapUpdate 42 (.map (some mp)) (.int .i64 k) (.bool true)).run Tryz.prog w=.ok () w'/\(bmT mp (l++[k])*C).P w' F'/\Step F w F' w':=by
 obtain⟨w',F',hr,h',st⟩:=mp_store (K:=3) (mp:=mp) (m:=bmM l) (C:=C) h e int_und bm_map hk (.bool true) (fun j hj=>by
  unfold bmM at hj
  split at hj
  ·rename_i q; exact few j q
  ·cases hj)
 refine⟨w',F',hr,re h' ?_,st⟩
 have:upd (bmM l) k (some (.bool true))=bmM (l++[k]):=funext fun j=>by
  unfold upd bmM
  by_cases q:j=k
  ·rw[if_pos q,if_pos (List.mem_append.2 (.inr (by simp[q])))]
  ·rw[if_neg q]
   by_cases q2:j ∈ l
   ·rw[if_pos q2,if_pos (List.mem_append.2 (.inl q2))]
   ·rw[if_neg q2,if_neg]
    intro z
    rcases List.mem_append.1 z with z | z
    ·exact q2 z
    ·exact q (List.mem_singleton.1 z)
 rw[this]
theorem bm_len{mp:Nat}{l:List Int}(h:X.P w F)(e:X=bmT mp l*C):∃n:Nat,(Builtin.len_ #[42] 3 #[.map (some mp)]).run Tryz.prog w=.ok (.int .i64 (n:Int)) w/\∃l':List Int,l'.length=n/\l'.Nodup/\∀k,k ∈ l' ↔ k ∈ l:=by
 obtain⟨n,hr,l',h1,h2,h3⟩:=mp_len (K:=3) (mp:=mp) (m:=bmM l) (C:=C) h e bm_map 3
 refine⟨n,hr,l',h1,h2,fun k=>?_⟩
 rw[h3]
 unfold bmM
 split <;> simp[*]
theorem bm_made(h:X.P w F):(bmT w.heap.size []*X).P (w.alloc (.map #[] 0)) (fun j=>j=w.heap.size\/F j)/\Step F w (fun j=>j=w.heap.size\/F j) (w.alloc (.map #[] 0)):=by
 have e:bmM []=fun _=>none:=funext fun k=>by simp[bmM]
 show(mpT 3 w.heap.size (bmM [])*X).P _ _/\_
 rw[e]
 exact mp_made (K:=3) h
theorem op_box{o:Op}{K:Nat->World->Prop}(h:X.P w F)(k:∀n w' F',(blk n (opB o)*X).P w' F'->Step F w F' w'->K n w') :
  ∀(n:Nat)(w1:World),n=w.heap.size->w1=w.alloc (Obj.cells #[.int .i64 (0:Int),.int .i64 (0:Int),.int .i64 (0:Int),.int .i64 (0:Int),.int .u64 (0:Int),.string (ByteArray.mk #[])] 35)->WrC w1 (Addr.mk n (0:Nat) none) 6/\∀(w2:World),w2=wr w1 (Addr.mk n (0:Nat) none) (opL o)->K n w2:=by
 refine blk_al h fun n w1 F1 h1 s1 _=>?_
 refine blk_wr (b:=n) (o:=0) (arr:=(opL zO).toArray) (T:=35) (C:=X) h1 rfl (by simp) fun w2 F2 h2 s2=>?_
 rw[setAt6 _ rfl] at h2
 exact k n w2 F2 h2 (s1.trans s2)
theorem t_playedOps{o:Obj}(P0 C0:Int)(s:ByteArray)(most:Int)(h:(tabT o*C).P w F)
  (r:∀p0 po co ps ns cs ops w' F',(∀o ∈ ops,Hd.U64 o.H)->ops.length<=4000->(tabT o*(dnT (.slice po ops.length co) ops*C)).P w' F'->Step F w F' w'->R (.tuple #[.pointer p0,.slice po ops.length co,.slice ps ns cs]) w') :
  CallS Tryz.prog 9 #[.agg #[.int .i64 P0,.int .i64 C0],.string s,.int .i64 most] w R:=by
 refine t_played P0 C0 s most h (fun _ w' F' p st=>?_) fun hpl sv sb y po co ps cs w' F' ho hs p st=>?_
 ·refine r none none 0 none 0 0 [] w' F' (fun o ho=>by cases ho) (Nat.zero_le _) ?_ st
  rw[show dnT (.slice none ([]:List Op).length 0) []=emp from rw_emp,emp_mul]
  exact p
 ·have iv:=run_inv hs (rdL_ok s)
  subst ho
  obtain⟨F2,h2,sub⟩:=drop_left (A:=svTb sv sb y (runL sv (rdL s)).x*saT (.slice ps (runL sv (rdL s)).said.length cs) (runL sv (rdL s)).said) (B:=tabT sv.o*(dnT (.slice po (runL sv (rdL s)).ops.length co) (runL sv (rdL s)).ops*C)) (re p (by rw[sv_tab]; ac_rfl))
  exact r _ _ _ _ _ _ _ w' F2 iv.ou (by rw[iv.ol]; exact rdL_len s) h2 (st.sub sub)
end
end
section
open Go.RowKit Go.Maps Thing
section
variable{s:Sv}{A:Ax}{t:Tn}{a:Ad}{x:Se}
theorem getM_9(n:Int):(getM s A t n).e ≠ 9:=by
 unfold getM
 split; · show(2:Int) ≠ 9; omega
 split; · show(3:Int) ≠ 9; omega
 split; · show(10:Int) ≠ 9; omega
 split; · show(10:Int) ≠ 9; omega
 split; · show(10:Int) ≠ 9; omega
 split; · show(10:Int) ≠ 9; omega
 show(0:Int) ≠ 9; omega
theorem spE_9(t:Tn)(h x f n:Int):spE t h x f n ≠ 9:=by
 unfold spE
 split <;> omega
theorem vE_9(T:Tb)(size:Nat)(x n:Int):vE T size x n ≠ 9:=by
 unfold vE
 split <;> omega
theorem ask_9(o:Op):(askM s A t o).a.E ≠ 9:=by
 unfold askM
 split
 ·exact getM_9 _
 split
 ·unfold calR
  split
  ·exact getM_9 _
  ·show(2:Int) ≠ 9; omega
 split
 ·unfold freR
  split
  ·show(0:Int) ≠ 9; omega
  ·show(5:Int) ≠ 9; omega
 split
 ·unfold rlcR
  split
  ·show(5:Int) ≠ 9; omega
  split
  ·show(2:Int) ≠ 9; omega
  split
  ·split
   ·show(0:Int) ≠ 9; omega
   ·exact getM_9 _
  ·show(0:Int) ≠ 9; omega
 split
 ·unfold usbR
  split
  ·show(0:Int) ≠ 9; omega
  ·show(5:Int) ≠ 9; omega
 split
 ·unfold reaR
  split
  ·exact vE_9 _ _ _ _
  ·exact spE_9 _ _ _ _ _
 split
 ·unfold wriR
  split
  ·exact vE_9 _ _ _ _
  ·exact spE_9 _ _ _ _ _
 show rstE _ _ _ _ _ ≠ 9
 unfold rstE
 split
 ·split <;> omega
 ·unfold Cp.restE
  split
  ·split <;> omega
  ·omega
theorem fitE_9(t:Tn)(b p:Int):fitE t b p ≠ 9:=by
 unfold fitE
 split; · omega
 split; · omega
 split <;> omega
theorem rszR_9(b:Int)(win:List Int):(rszR s A t b win).E ≠ 9:=by
 unfold rszR
 split
 ·exact fitE_9 _ _ _
 split
 ·show(movM s A t.H win).E ≠ 9
  unfold movM
  split
  ·show(0:Int) ≠ 9; omega
  ·show(13:Int) ≠ 9; omega
 ·show qresE _ _ _ ≠ 9
  unfold qresE
  split <;> omega
theorem do_9(g:AdInv s x.a){o:Op}(h:(doM s x o).a.E=9):o.K<=2/\1<=o.M/\o.M<=32/\(x.a.hs.count false:Int)<o.M-((winO x.a o.T).length:Int):=by
 unfold doM at h
 split at h
 ·exfalso
  have h:chkE o=9:=h
  unfold chkE at h
  split at h <;> omega
 rename_i hc
 have hc:chkE o=0:=by simpa using hc
 obtain⟨_,_,h0,h8,_⟩:=chk_ok hc
 have h:(doA s (fgt x.a) o).a.E=9:=h
 have hw:winO x.a o.T=x.a.ws o.T.toNat:=if_pos ⟨h0,h8⟩
 rw[hw]
 have c32:=g.c32
 unfold doA at h
 split at h
 ·rename_i k1
  have h:(creM s (fgt x.a) o.T o.M o.N).E=9:=h
  unfold creM at h
  split at h; · cases h
  split at h; · cases h
  rename_i _ hn
  split at h; · cases h
  rename_i hz
  split at h; · cases h
  split at h
  ·rename_i hlt
   have hz:sizE s o.M o.N=0:=by simpa using hz
   obtain⟨_,m1,m2⟩:=siz_ok hz
   have hnone:x.a.tn o.T.toNat=none:=by
    have hn:¬(x.a.tn o.T.toNat).isSome=true:=hn
    simpa using hn
   rw[g.nil o.T.toNat (by omega) hnone]
   have hlt:(x.a.hs.count false:Int)<o.M:=hlt
   exact⟨by omega,m1,by omega,by show _<o.M-((0:Nat):Int); omega⟩
  ·split at h <;> cases h
 split at h
 ·rename_i k2
  have h:(resM s (fgt x.a) o.T o.M o.N).E=9:=h
  unfold resM at h
  split at h; · cases h
  cases ht:(fgt x.a).tn o.T.toNat with
  | none=>rw[ht] at h; cases h
  | some t=>
   rw[ht] at h
   have h:(if _ then _ else _:Ar').E=9:=h
   split at h; · cases h
   rename_i hz
   split at h
   ·exact absurd h (fitE_9 _ _ _)
   split at h
   ·rename_i hlt
    have hz:sizE s o.M o.N=0:=by simpa using hz
    obtain⟨_,m1,m2⟩:=siz_ok hz
    have hlt:x.a.hs.count false<o.M.toNat-(x.a.ws o.T.toNat).length:=hlt
    exact⟨by omega,m1,by omega,by omega⟩
   ·exact absurd h (rszR_9 _ _)
 split at h
 ·have h:(desM s (fgt x.a) o.T).E=9:=h
  unfold desM at h
  split at h; · cases h
  cases ht:(fgt x.a).tn o.T.toNat with
  | none=>rw[ht] at h; cases h
  | some t=>rw[ht] at h; cases h
 cases ht:(fgt x.a).tn o.T.toNat with
 | none=>rw[ht] at h; cases h
 | some t=>rw[ht] at h; exact absurd h (ask_9 _)
theorem count_range(p:Bool):∀(hs:List Bool),hs.count p=((List.range hs.length).filter fun c=>hs.getD c (!p) == p).length:=fun hs=>by
 have e:hs=(List.range hs.length).map fun c=>hs.getD c (!p):=by
  apply List.ext_getElem
  ·simp
  ·intro i h1 h2
   simp[List.getD_eq_getElem?_getD,h1]
 rw[<-List.countP_eq_length_filter]
 conv=>lhs; rw[e]
 rw[List.count,List.countP_map]
 rfl
theorem cnt_bool:∀l:List Bool,l.count true+l.count false=l.length
 | []=>rfl
 | b :: l=>by
  have:=cnt_bool l
  rw[List.count_cons,List.count_cons,List.length_cons]
  cases b <;> simp <;> omega
def hadL(a:Ad)(n:Nat):List Int:=(List.range n).flatMap a.ws
theorem hadL_mem{a:Ad}{n:Nat}{c:Int}:c ∈ hadL a n ↔ ∃i,i<n/\c ∈ a.ws i:=by
 unfold hadL
 rw[List.mem_flatMap]
 constructor
 ·rintro⟨i,hi,hc⟩; exact⟨i,List.mem_range.1 hi,hc⟩
 ·rintro⟨i,hi,hc⟩; exact⟨i,List.mem_range.2 hi,hc⟩
theorem hadL_next(a:Ad)(n:Nat):hadL a (n+1)=hadL a n++a.ws n:=by
 unfold hadL
 rw[List.range_succ,List.flatMap_append]
 simp
theorem had_count(g:AdInv s a){l:List Int}(nd:l.Nodup)(hm:∀k,k ∈ l ↔ k ∈ hadL a 8):l.length+a.hs.count false=s.C:=by
 have h1:l.length=a.hs.count true:=by
  rw[count_range true]
  have nd2:(((List.range a.hs.length).filter fun c=>a.hs.getD c (!true) == true).map fun c:Nat=>(c:Int)).Nodup:=by
   refine List.nodup_iff_pairwise_ne.2 (List.pairwise_map.2 ?_)
   refine(List.nodup_iff_pairwise_ne.1 (List.Nodup.sublist List.filter_sublist List.nodup_range)).imp fun {p q} hpq e=>hpq (by omega)
  have hp:l.Perm (((List.range a.hs.length).filter fun c=>a.hs.getD c (!true) == true).map fun c:Nat=>(c:Int)):=by
   refine(List.perm_ext_iff_of_nodup nd nd2).2 fun k=>?_
   rw[hm,hadL_mem,List.mem_map]
   constructor
   ·rintro⟨i,hi,hc⟩
    obtain⟨h0,hC⟩:=g.rng i hi k hc
    obtain⟨m,rfl⟩:=Int.eq_ofNat_of_zero_le h0
    have hh:=(g.has m).2 ⟨i,hi,hc⟩
    refine⟨m,List.mem_filter.2 ⟨List.mem_range.2 (List.getElem?_eq_some_iff.1 hh).1,?_⟩,rfl⟩
    rw[List.getD_eq_getElem?_getD,hh]; rfl
   ·rintro⟨m,hmm,rfl⟩
    obtain⟨q1,q2⟩:=List.mem_filter.1 hmm
    have hlt:=List.mem_range.1 q1
    have hh:a.hs[m]? = some true:=by
     rw[List.getElem?_eq_getElem hlt]
     rw[List.getD_eq_getElem?_getD,List.getElem?_eq_getElem hlt] at q2
     simpa using q2
    exact(g.has m).1 hh
  rw[hp.length_eq,List.length_map]
 have h2:a.hs.count true+a.hs.count false=a.hs.length:=cnt_bool a.hs
 have:=g.hl
 omega
end
end
set_option maxRecDepth 100000
section
variable{w:World}{R:Value->World->Prop}
def va235:Ann:=⟨fun id=>cond (Nat.beq id 6) ⟨[(36,.int .i64 0)],([4]++rg 11 6++[18]++rg 37 67)⟩ (cond (Nat.beq id 14) ⟨[(67,.int .i64 0)],([4,16,18]++rg 68 27)⟩ (cond (Nat.beq id 17) ⟨[(74,.int .i64 0)],([4,18]++rg 75 19)⟩ (LI.none))),fun l=>none,fun i=>cond (Nat.beq i 12) (some ⟨[],([4]++rg 50 16)⟩) (none)⟩
def vc235(x0_0 x0_1:Int)(x1:ByteArray)(w:World)(R:Value->World->Prop):Prop:=
 ∀(n0:Nat)(w1:World),n0=w.heap.size->w1=w.alloc (.cells #[.int .i64 x0_0,.int .i64 x0_1] 23)->∃i2 i3:Int,CellsAt w1 (Addr.mk n0 0 none) [.int .i64 i2,.int .i64 i3]/\CS 9 #[.agg #[.int .i64 i2,.int .i64 i3],.string x1,.int .i64 150] w1 fun v4 w5=>∃(p6 p7:Option Addr)(n8 n9:Nat)(p10:Option Addr)(n11 n12:Nat),v4=.tuple #[.pointer p6,.slice p7 n8 n9,.slice p10 n11 n12]/\∃i13 i14:Int,CellsAt w5 (Addr.mk n0 0 none) [.int .i64 i13,.int .i64 i14]/\CS 10 #[.agg #[.int .i64 i13,.int .i64 i14]] w5 fun v15 w16=>∃(p17:Option Addr)(i18:Int),v15=.tuple #[.pointer p17,.int .i64 i18]/\ifB (i18 != 0) (CS 11 #[] w16 fun v19 w20=>∃b21:Bool,v19=.bool b21/\R (.bool b21) w20) (∃x22:Nat->Int->World->Prop,(∃n23:Nat,x22 n23 0 w16)/\∀(n24:Nat)(jv:Nat->Value)(i25:Int)(w26:World),x22 n24 i25 w26->ifB (decide (i25<(↑n8:Int))) (0<=i25/\i25<(↑n8:Int)/\someA p7 fun a27=>∃(i28 i29 i30 i31 i32:Int)(s33:ByteArray),CellsAt w26 (a27.add (i25.toNat*6)) [.int .i64 i28,.int .i64 i29,.int .i64 i30,.int .i64 i31,.int .u64 i32,.string s33]/\∀(n34:Nat)(w35:World),n34=w26.heap.size->w35=w26.alloc (.cells #[.int .i64 0,.int .i64 0,.int .i64 0,.int .i64 0,.int .u64 0,.string (.mk #[])] 35)->WrC w35 (Addr.mk n34 0 none) 6/\∀(w36:World),w36=wr w35 (Addr.mk n34 0 none) [.int .i64 i28,.int .i64 i29,.int .i64 i30,.int .i64 i31,.int .u64 i32,.string s33]->∀(w37:World),w37=w36.drew->∃i38:Int,w37.cell? ((Addr.mk n34 0 none).add 1)=some (.int .i64 i38)/\CS 12 #[.pointer p17] w37 fun v39 w40=>∃i41:Int,v39=.int .i64 i41/\(∃i42:Int,w40.cell? ((Addr.mk n34 0 none).add 1)=some (.int .i64 i42)/\Value.int .i64 i42=.int .i64 i38)/\CS 13 #[.pointer p17,.int .i64 i38] w40 fun v43 w44=>∃(p45:Option Addr)(n46 n47:Nat),v43=.slice p45 n46 n47/\w44=w44/\∃(i48 i49 i50 i51 i52:Int)(s53:ByteArray),CellsAt w44 (Addr.mk n34 0 none) [.int .i64 i48,.int .i64 i49,.int .i64 i50,.int .i64 i51,.int .u64 i52,.string s53]/\CS 14 #[.pointer p17,.agg #[.int .i64 i48,.int .i64 i49,.int .i64 i50,.int .i64 i51,.int .u64 i52,.string s53]] w44 fun v54 w55=>∃(i56 i57 i58 i59:Int)(s60:ByteArray)(i61:Int),v54=.agg #[.int .i64 i56,.int .u64 i57,.int .i64 i58,.int .i64 i59,.string s60,.int .i64 i61]/\∀(n62:Nat)(w63:World),n62=w55.heap.size->w63=w55.alloc (.cells #[.int .i64 0,.int .u64 0,.int .i64 0,.int .i64 0,.string (.mk #[]),.int .i64 0] 40)->WrC w63 (Addr.mk n62 0 none) 6/\∀(w64:World),w64=wr w63 (Addr.mk n62 0 none) [.int .i64 i56,.int .u64 i57,.int .i64 i58,.int .i64 i59,.string s60,.int .i64 i61]->∃x65:World->Prop,(∃i66:Int,w64.cell? ((Addr.mk n62 0 none).add 0)=some (.int .i64 i66)/\ifB (i66 == 9) (∃i67:Int,w64.cell? ((Addr.mk n34 0 none).add 0)=some (.int .i64 i67)/\ifB (decide (i67>2)) (R (.bool false) w64) (∃i68:Int,w64.cell? ((Addr.mk n34 0 none).add 3)=some (.int .i64 i68)/\ifB (decide (IntKind.i64.wrap (i68-(↑n46:Int))<=i41)) (R (.bool false) w64) (x65 w64))) (x65 w64))/\∀(jv:Nat->Value)(w69:World),x65 w69->∃(p70:Option Nat)(w71:World),Sem.run Tryz.prog (Instr.makeMap 42 none) w69=.ok (.map p70) w71/\∃x72:Nat->Int->World->Prop,(∃n73:Nat,x72 n73 0 w71)/\∀(n74:Nat)(jv:Nat->Value)(i75:Int)(w76:World),x72 n74 i75 w76->ifB (decide (i75<8)) (CS 13 #[.pointer p17,.int .i64 i75] w76 fun v77 w78=>∃(p79:Option Addr)(n80 n81:Nat),v77=.slice p79 n80 n81/\∃x82:Nat->Int->World->Prop,(∃n83:Nat,x82 n83 0 w78)/\∀(n84:Nat)(jv:Nat->Value)(i85:Int)(w86:World),x82 n84 i85 w86->ifB (decide (i85<(↑n80:Int))) (0<=i85/\i85<(↑n80:Int)/\someA p79 fun a87=>∃i88:Int,w86.cell? (a87.add i85.toNat)=some (.int .i64 i88)/\∃(b89:Bool)(w90:World),Sem.run Tryz.prog (Instr.lookup 42 (.map p70) (.int .i64 i88) false) w86=.ok (.bool b89) w90/\ifB b89 (R (.bool false) w90) (ifB (decide (i88<0)) (R (.bool false) w90) (∃i91:Int,w90.cell? ((Addr.mk n0 0 none).add 1)=some (.int .i64 i91)/\ifB (decide (i88>=i91)) (R (.bool false) w90) (∃w92:World,Sem.run Tryz.prog (Instr.mapUpdate 42 (.map p70) (.int .i64 i88) (.bool true)) w90=.ok () w92/\∃n93:Nat,n93<n84/\x82 n93 (IntKind.i64.wrap (i85+1)) w92)))) (∃n94:Nat,n94<n74/\x72 n94 (IntKind.i64.wrap (i75+1)) w86)) (∀(w95:World),w95=w76.drew->∃(i96:Int)(w97:World),Sem.run Tryz.prog (Builtin.len_ #[42] 3 #[.map p70]) w95=.ok (.int .i64 i96) w97/\w97=w95/\∃i98:Int,w95.cell? ((Addr.mk n0 0 none).add 1)=some (.int .i64 i98)/\CS 12 #[.pointer p17] w95 fun v99 w100=>∃i101:Int,v99=.int .i64 i101/\(∃i102:Int,w100.cell? ((Addr.mk n0 0 none).add 1)=some (.int .i64 i102)/\Value.int .i64 i102=.int .i64 i98)/\ifB (IntKind.i64.wrap (i96+i101) != i98) (R (.bool false) w100) (∃n103:Nat,n103<n24/\x22 n103 (IntKind.i64.wrap (i25+1)) w100))) (CS 11 #[] w26 fun v104 w105=>∃b106:Bool,v104=.bool b106/\R (.bool b106) w105))
theorem vc235.ok{x0_0 x0_1:Int}{x1:ByteArray}(h:vc235 x0_0 x0_1 x1 w R ):Calls Tryz.prog 3 #[.agg #[.int .i64 x0_0,.int .i64 x0_1],.string x1] w (Ret R):=
 bodyE va235 Tryz.func3 (h:=h)
end
set_option maxRecDepth 20000
section
open Go.RowKit Go.Maps Thing
theorem tab_start{W:World}(tab:Sf.Tab W):∃o,(tabT o).P W (· = 0):=by
 have h:=tab 0 _ rfl
 cases e:W.heap[0]? with
 | none=>unfold World.cell? at h; rw[e] at h; cases h
 | some o=>exact⟨o,tab,e,rfl⟩
abbrev cfO(P0 C0:Int):Obj:=.cells #[.int .i64 P0,.int .i64 C0] 23 (0,0)
theorem t_end{o:Obj}{W w:World}{F:Nat->Prop}{C:Thing}(h0:(tabT o).P W (· = 0))(h:(tabT o*C).P w F)(st:Step (· = 0) W F w) :
  CallS Tryz.prog 11 #[] w fun(v:Value) (w':World)=>∃(b:Bool),v=.bool b/\Yes W (.bool b) w':=by
 obtain⟨F1,h1,sub⟩:=part_of (A:=tabT o) (Y:=C) h rfl
 refine t_awake h1 fun w' F' h2 s2=>⟨true,rfl,rfl,?_⟩
 exact ext_of_tab h0 h2 ((st.sub sub).trans s2)
theorem t_endS{s:Sv}{sb:Nat}{y:Sy}{x:Se}{o:Obj}{W w:World}{F:Nat->Prop}{X C:Thing}(h0:(tabT o).P W (· = 0))(ho:s.o=o)(h:X.P w F)(e:X=svX s sb y x*C)(st:Step (· = 0) W F w) :
  CallS Tryz.prog 11 #[] w fun(v:Value) (w':World)=>∃(b:Bool),v=.bool b/\Yes W (.bool b) w':=by
 subst ho
 exact t_end (C:=svTb s sb y x*C) h0 (re h (by rw[e,sv_tab,Thing.mul_assoc])) st
theorem walk_TopColours(P0 C0:Int)(_:-9223372036854775808<=P0/\P0<=9223372036854775807)(_:-9223372036854775808<=C0/\C0<=9223372036854775807)(str:ByteArray)(_:str.size<=maxLen)(_:str.size<=reachBytes)(W:World)(tab:Sf.Tab W) :
  Calls Tryz.prog 3 #[.agg #[.int .i64 P0,.int .i64 C0],.string str] W (Ret (Yes W)):=by
 obtain⟨o,h0⟩:=tab_start tab
 refine vc235.ok ?_
 unfold vc235
 refine blk_al h0 fun n0 w1 F1 h1 s1 _=>?_
 have h1:(blk n0 (cfO P0 C0)*tabT o).P w1 F1:=h1
 have rc:∀ {w':World} {F':Nat->Prop} {X Z:Thing},X.P w' F'->X=blk n0 (cfO P0 C0)*Z->w'.heap[n0]? = some (cfO P0 C0):=fun p e=>blk_of p e
 refine⟨_,_,cells_all (vs:=[.int .i64 P0,.int .i64 C0]) (rc h1 rfl),?_⟩
 refine t_playedOps (o:=o) (C:=blk n0 (cfO P0 C0)) P0 C0 str 150 (re h1 (Thing.mul_comm _ _)) fun p0 po co ps ns cs ops w2 F2 hou hol h2 st2=>⟨_,_,_,_,_,_,_,rfl,?_⟩
 have s2:=s1.trans st2
 refine⟨_,_,cells_all (vs:=[.int .i64 P0,.int .i64 C0]) (rc (Z:=tabT o*dnT (.slice po ops.length co) ops) h2 (by show tabT o*(dnT (.slice po ops.length co) ops*blk n0 (cfO P0 C0))=_; ac_rfl)),?_⟩
 refine s_newC (C:=dnT (.slice po ops.length co) ops*blk n0 (cfO P0 C0)) h2 P0 C0 (fun hno w3 h3 hE3=>⟨_,_,rfl,ifB_true rfl (t_end h0 h3 (s2.trans (Step.ext hE3)))⟩) fun s sb y w3 F3 hcfg ho hs h3 st3=>⟨_,_,rfl,ifB_false rfl ?_⟩
 have s3:=s2.trans st3
 have hC:C0=(s.C:Int):=hs.c
 let D:Thing:=dnT (.slice po ops.length co) ops*blk n0 (cfO P0 C0)
 refine⟨fun f i w'=>∃j:Nat,i=(j:Int)/\f+j=ops.length/\∃y x F',AdInv s x.a/\x.done.length<=j/\(svX s sb y x*D).P w' F'/\Step (· = 0) W F' w',⟨ops.length,0,rfl,rfl,y,_,F3,inv_ad_new hs,Nat.le_refl _,h3,s3⟩,?_⟩
 rintro f jv i w4 ⟨j,rfl,hf,y,x,F4,g,hd,h4,s4⟩
 refine ifB_intro (fun q=>?pos) (fun q=>?neg)
 case neg=>exact t_endS h0 ho h4 rfl s4
 have q:=of_decide_eq_true q
 have hj:j<ops.length:=by omega
 obtain⟨op,hop⟩:∃op,ops[j]? = some op:=⟨_,List.getElem?_eq_getElem hj⟩
 have hrow:=rw_of (e:=35) (k:=6) (f:=opL) (v:=.slice po ops.length co) (l:=ops) (Y:=svX s sb y x*blk n0 (cfO P0 C0)) h4 (by show svX s sb y x*(dnT (.slice po ops.length co) ops*blk n0 (cfO P0 C0))=dnT (.slice po ops.length co) ops*_; ac_rfl)
 obtain⟨ap,hp,hcells⟩:=ORow.cells opL_len hrow hop
 refine⟨by omega,by omega,?_⟩
 subst hp
 rw[Int.toNat_natCast]
 have hou':=hou op (List.mem_of_getElem? hop)
 refine⟨_,_,_,_,_,_,hcells,op_box h4 fun nb w5 F5 h5 s5=>?_⟩
 rintro w6 rfl
 have h6:=Thing.grow h5 (Ext.drew w5)
 have s6:=(s4.trans s5).trans (Step.ext (Ext.drew w5))
 generalize w5.drew=w6 at h6 s6 ⊢
 have rO:∀ {w':World} {F':Nat->Prop} {X Z:Thing},X.P w' F'->X=blk nb (opB op)*Z->w'.heap[nb]? = some (opB op):=fun p e=>blk_of p e
 refine⟨_,by rw[add_mk]; exact cell_blk (rO h6 rfl) rfl,s_free (C:=blk nb (opB op)*D) h6 (by ac_rfl) ⟨_,rfl,⟨_,by rw[add_mk]; exact cell_blk (rO h6 rfl) rfl,rfl⟩,?_⟩⟩
 refine s_windowA (C:=blk nb (opB op)*D) g.ok h6 (by ac_rfl) op.T fun p7 c7 w7 hr7 hE7 hn7=>⟨_,_,_,rfl,rfl,?_⟩
 have h7:=Thing.grow h6 hE7
 have s7:=s6.trans (Step.ext hE7)
 refine⟨_,_,_,_,_,_,cells_all (vs:=opL op) (rO h7 rfl),?_⟩
 have g9:=do_9 (s:=s) (x:=x) g (o:=op)
 have gi:=inv_do g op
 have gl:=do_len (s:=s) (x:=x) op
 refine aw_do (C:=blk nb (opB op)*D) g hou' (by omega) h7 (by ac_rfl) fun na y8 w8 F8 h8 st8=>?_
 have s8:=s7.trans st8
 generalize doM s x op=d at h8 g9 gi gl ⊢
 refine⟨fun w'=>w'=w8,⟨_,by rw[add_mk]; exact cell_blk (blk_of h8 rfl) rfl,ifB_intro (fun q=>?_) (fun q=>rfl)⟩,?_⟩
 ·have q:d.a.E=9:=by simpa using q
  obtain⟨k2,m1,m32,hlt⟩:=g9 q
  have hb:=rO (Z:=bA na d.a*(svX s sb y8 d.x*D)) h8 (by show bA na d.a*(svX s sb y8 d.x*(blk nb (opB op)*D))=_; ac_rfl)
  refine⟨_,by rw[add_mk]; exact cell_blk hb rfl,ifB_false (decide_eq_false (by omega)) ⟨_,by rw[add_mk]; exact cell_blk hb rfl,ifB_false (decide_eq_false ?_) rfl⟩⟩
  have hw:((winO x.a op.T).length:Int)<=32:=by
   unfold winO
   split
   ·have:=g.wl (i:=op.T.toNat) (by omega); omega
   ·show((0:Nat):Int)<=32; omega
  rw[wrap_i64 (by omega) (by omega)]
  omega
 rintro _ w9 rfl
 refine⟨some w9.heap.size,w9.alloc (.map #[] 0),run_makeMap _ w9,?_⟩
 let Z:Thing:=svX s sb y8 d.x*(bA na d.a*(blk nb (opB op)*D))
 have h9:Z.P w9 F8:=re h8 (sw4 _ _ _)
 obtain⟨h10,st10⟩:=bm_made h9
 generalize w9.heap.size=mp at h10 st10 ⊢
 generalize w9.alloc (.map #[] 0)=w10 at h10 st10 ⊢
 have rC:∀ {w':World} {F':Nat->Prop} {Q:Thing},(Q*Z).P w' F'->w'.heap[n0]? = some (cfO P0 C0):=fun {w' F' Q} p=>rc (Z:=Q*(svX s sb y8 d.x*(bA na d.a*(blk nb (opB op)*dnT (.slice (some ap) ops.length co) ops)))) p (by show Q*(svX s sb y8 d.x*(bA na d.a*(blk nb (opB op)*(dnT (.slice (some ap) ops.length co) ops*blk n0 (cfO P0 C0)))))=_; ac_rfl)
 have few:∀ {m:Nat},m<=8->∀k ∈ hadL d.x.a m,0<=k/\k<10000000:=fun {m} hm k hk=>by
  obtain⟨i,hi,hk⟩:=hadL_mem.1 hk
  have:=gi.rng i (by omega) k hk
  have:=g.c32
  omega
 refine⟨fun f' i' w'=>∃m:Nat,i'=(m:Int)/\f'+m=8/\∃F',(bmT mp (hadL d.x.a m)*Z).P w' F'/\Step (· = 0) W F' w',⟨8,0,rfl,rfl,_,h10,s8.trans st10⟩,?_⟩
 rintro f' jv' i' w11 ⟨m,rfl,hf',F11,h11,s11⟩
 refine ifB_intro (fun q=>?_) (fun q=>?_)
 ·have q:=of_decide_eq_true q
  have hm:m<8:=by omega
  have ew:winO d.x.a (m:Int)=d.x.a.ws m:=by unfold winO; rw[if_pos ⟨by omega,by omega⟩,Int.toNat_natCast]
  refine s_windowA (C:=bmT mp (hadL d.x.a m)*(bA na d.a*(blk nb (opB op)*D))) gi.ok h11 (sw4 _ _ _) (m:Int) fun p12 c12 w12 hr12 hE12 hn12=>⟨_,_,_,rfl,?_⟩
  rw[ew] at hr12 hn12 ⊢
  obtain⟨h12,st12⟩:=fresh_add (B:=rowT (.slice p12 (d.x.a.ws m).length c12) (d.x.a.ws m)) h11 hE12 ⟨hr12,rfl⟩ hn12
  refine⟨fun f2 i2 w'=>∃k:Nat,i2=(k:Int)/\f2+k=(d.x.a.ws m).length/\∃F',(bmT mp (hadL d.x.a m++(d.x.a.ws m).take k)*(rowT (.slice p12 (d.x.a.ws m).length c12) (d.x.a.ws m)*Z)).P w' F'/\Step (· = 0) W F' w',⟨(d.x.a.ws m).length,0,rfl,rfl,_,by rw[List.take_zero,List.append_nil]; exact re h12 (sw4 _ _ _),s11.trans st12⟩,?_⟩
  rintro f2 jv2 i2 w13 ⟨k,rfl,hf2,F13,h13,s13⟩
  refine ifB_intro (fun q2=>?_) (fun q2=>?_)
  ·have q2:=of_decide_eq_true q2
   have hk:k<(d.x.a.ws m).length:=by omega
   obtain⟨col,hcol⟩:∃col,(d.x.a.ws m)[k]? = some col:=⟨_,List.getElem?_eq_getElem hk⟩
   have hcm:=List.mem_of_getElem? hcol
   obtain⟨c0,c1⟩:=gi.rng m hm col hcm
   have hc32:=g.c32
   have hwl:=gi.wl hm
   have hr13:=row_of (v:=.slice p12 (d.x.a.ws m).length c12) (l:=d.x.a.ws m) (Y:=bmT mp (hadL d.x.a m++(d.x.a.ws m).take k)*Z) h13 (sw4 _ _ _)
   refine⟨by omega,by omega,?_⟩
   rw[Int.toNat_natCast]
   refine(ORow.rowAt intF_len hr13).int hcol ?_
   have hno:col ∉ hadL d.x.a m++(d.x.a.ws m).take k:=fun z=>by
    rcases List.mem_append.1 z with z | z
    ·obtain⟨i,hi,z⟩:=hadL_mem.1 z
     exact gi.dis i m (by omega) hm (by omega) col z hcm
    ·have nd:=gi.nd m hm
     rw[<-List.take_append_drop k (d.x.a.ws m)] at nd
     refine(List.nodup_append.1 nd).2.2 col z col ?_ rfl
     rw[List.mem_iff_getElem?]
     exact⟨0,by rw[List.getElem?_drop]; exact hcol⟩
   have h64:I64w col:=i64w (by omega) (by omega)
   have hfew:∀c ∈ hadL d.x.a m++(d.x.a.ws m).take k,0<=c/\c<10000000:=fun c hc=>by
    rcases List.mem_append.1 hc with hc | hc
    ·exact few (by omega) c hc
    ·have:=gi.rng m hm c (List.mem_of_mem_take hc); omega
   have hl:=bm_look h13 rfl h64
   rw[decide_eq_false hno] at hl
   have hcf:=rC (Q:=bmT mp (hadL d.x.a m++(d.x.a.ws m).take k)*rowT (.slice p12 (d.x.a.ws m).length c12) (d.x.a.ws m)) (re h13 (Thing.mul_assoc _ _ _).symm)
   obtain⟨w14,F14,hrun,h14,st14⟩:=bm_store h13 rfl h64 hfew
   refine⟨false,w13,hl,ifB_false rfl (ifB_false (decide_eq_false (by omega)) ⟨C0,by rw[add_mk]; exact cell_blk hcf rfl,ifB_false (decide_eq_false (by omega)) ⟨w14,hrun,f2-1,by omega,k+1,by rw[wrap_i64 (by omega) (by omega)]; omega,by omega,F14,?_,s13.trans st14⟩⟩)⟩
   rw[List.take_add_one,hcol]
   rw[List.append_assoc] at h14
   exact h14
  ·have q2:=of_decide_eq_false q2
   have ek:(d.x.a.ws m).take k=d.x.a.ws m:=List.take_of_length_le (by omega)
   rw[ek,<-hadL_next] at h13
   obtain⟨F14,h14,sub⟩:=drop_left (A:=rowT (.slice p12 (d.x.a.ws m).length c12) (d.x.a.ws m)) (re h13 (sw4 _ _ _))
   exact⟨f'-1,by omega,m+1,by rw[wrap_i64 (by omega) (by omega)]; omega,by omega,F14,h14,s13.sub sub⟩
 ·have q:=of_decide_eq_false q
  have em:m=8:=by omega
  subst em
  rintro w12 rfl
  have h12:=Thing.grow h11 (Ext.drew w11)
  have s12:=s11.trans (Step.ext (Ext.drew w11))
  generalize w11.drew=w12 at h12 s12 ⊢
  obtain⟨n,hrun,l,hl1,hl2,hl3⟩:=bm_len h12 rfl
  have hcnt:=had_count gi hl2 hl3
  have hcf:=rC h12
  refine⟨_,w12,hrun,rfl,C0,by rw[add_mk]; exact cell_blk hcf rfl,s_free (C:=bmT mp (hadL d.x.a 8)*(bA na d.a*(blk nb (opB op)*D))) h12 (sw4 _ _ _) ⟨_,rfl,⟨_,by rw[add_mk]; exact cell_blk hcf rfl,rfl⟩,ifB_false ?_ ?_⟩⟩
  ·have hc32:=g.c32
   rw[wrap_i64 (by omega) (by omega)]
   simp only[bne_eq_false_iff_eq]
   omega
  ·obtain⟨F13,h13,sub⟩:=drop_left (A:=bmT mp (hadL d.x.a 8)*(bA na d.a*blk nb (opB op))) (B:=svX s sb y8 d.x*D) (re h12 (by show bmT mp (hadL d.x.a 8)*(svX s sb y8 d.x*(bA na d.a*(blk nb (opB op)*D)))=_; ac_rfl))
   exact⟨f-1,by omega,j+1,by rw[wrap_i64 (by omega) (by omega)]; omega,by omega,y8,d.x,F13,gi,by omega,h13,s12.sub sub⟩
end
end Go.Proofs.YtpnbcakbefplpaaGreatDoor
