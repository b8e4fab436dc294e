/- Texts merged: Cv2 Wt2 Wb1 VcL2 WTF. Conditions: none. -/
import Derived.Test.YtpnbcakbefplpaaGreatDoorProg
import Derived.KernelRfl
import Derived.Test.YtpnbcakbefplpaaGreatDoorM06
set_option linter.unusedVariables false
set_option linter.unusedSimpArgs false
namespace Go.Proofs.YtpnbcakbefplpaaGreatDoor
section
open Go.RowKit Go.Maps Thing
structure CapA (lo:Nat->Int) (a:Ad):Prop where
 tn:∀i t,i<8->a.tn i=some t->CapI (lo i) t
 se:∀i,i<8->lo i<=a.se i
def curO(o:Option Tn)(x:Int):Int:=match o with | some t=>t.nx | none=>x
def curA(a:Ad)(i:Nat):Int:=curO (a.tn i) (a.se i)
section
variable{s:Sv}{A A':Ax}{t:Tn}{a:Ad}{x:Se}{lo:Nat->Int}
theorem capA_0:CapA (fun _=>1) (A0 s):=⟨fun i t _ h=>(by cases h),fun i _=>Int.le_refl _⟩
theorem CapA.upd(c:CapA lo a){m:Nat}{a':Ad}{o:Option Tn}{x:Int}(et:a'.tn=updF a.tn m o)(es:a'.se=updF a.se m x)(ho:∀t,o=some t->CapI (lo m) t)(hx:m<8->lo m<=x):CapA lo a':=by
 refine⟨fun i t hi h=>?_,fun i hi=>?_⟩
 ·rw[et] at h;by_cases e:i=m
  ·subst e;rw[Q0f] at h;exact ho t h
  ·rw[Q0p e] at h;exact c.tn i t hi h
 ·rw[es];by_cases e:i=m
  ·subst e;rw[Q0f];exact hx hi
  ·rw[Q0p e];exact c.se i hi
theorem cap_T0{n:Nat}{id se q l:Int}{win:List Int}(h:l<=se):CapI l (T0 n id se q win):=
 ⟨fun j z h=>(by cases h),fun i j z z' _ _ _ _ h=>(by cases h),fun j z h=>(by cases h),fun j z h=>(by cases h),h⟩
theorem res_keep(g:AdInv s a)(i k q:Int):(resM s a i k q).a=a \/ ∃m t t',i=((m:Nat):Int) /\ m<8 /\ a.tn m=some t /\ (resM s a i k q).a.tn=updF a.tn m (some t') /\ (resM s a i k q).a.se=a.se /\ t'.S=t.S /\ t'.nx=t.nx /\ t'.ob=t.ob /\ TsIn (fun p=>inPg t.H.T p \/ inPg t'.H.T p) a.A.ts (resM s a i k q).a.A.ts:=by
 unfold resM;by_cases hi:¬(0<=i /\ i<8)
 ·rw[if_pos hi];exact .inl rfl
 rw[if_neg hi];have hi:=Classical.not_not.1 hi;obtain⟨m,rfl⟩:=zzeoz hi.1;rw[zztnc];cases ht:a.tn m with
 | none=>exact .inl rfl
 | some t=>
  dsimp only;by_cases hs:sizE s k q ≠ 0
  ·rw[if_pos hs];exact .inl rfl
  rw[if_neg hs];have hs:=Classical.not_not.1 hs;by_cases hf:fitE t q (k*s.nC) ≠ 0
  ·rw[if_pos hf];exact .inl rfl
  rw[if_neg hf];by_cases hc:a.hs.count false<k.toNat-(a.ws m).length
  ·rw[if_pos hc];exact .inl rfl
  rw[if_neg hc];obtain⟨y1,y2,y3⟩:=siz_ok hs;have hm:m<8:=by omega
  have gt:=g.tn m t hm ht;have hw:(((a.grant m (k.toNat-(a.ws m).length)).ws m).take k.toNat).length<=32:=by
   rw[zzlnt];have:=g.c32;omega
  refine .inr ⟨m,t,(rszR s a.A t q (((a.grant m (k.toNat-(a.ws m).length)).ws m).take k.toNat)).t,rfl,hm,ht,rfl,rfl,?_⟩;show _ /\ _ /\ _ /\ TsIn _ a.A.ts (rszR s a.A t q (((a.grant m (k.toNat-(a.ws m).length)).ws m).take k.toNat)).A.ts;generalize((a.grant m (k.toNat-(a.ws m).length)).ws m).take k.toNat=win at hw ⊢;have hfr:=(mov_keep gt.inv.ok.h hw).1.fr.tsIn;unfold rszR;split
  ·exact⟨rfl,rfl,rfl,TsIn.refl _ _⟩
  split
  ·exact⟨rfl,rfl,rfl,hfr⟩
  ·exact⟨rfl,rfl,rfl,hfr⟩
structure DoI (lo:Nat->Int) (a:Ad) (T:Int) (h:Int) (a':Ad):Prop where
 cap:CapA lo a'
 cur:∀i,i<8->curA a i<=curA a' i
 hd:h=0 \/ Hd.uN h<curA a' T.toNat
 ts:TsIn (fun p=>inPg (oT (tnA a T)) p \/ inPg (oT (tnA a' T)) p) a.A.ts a'.A.ts
theorem cur_le{m i:Nat}{o:Option Tn}{x:Int}(h:curA a m<=curO o x):curA a i<=curO (updF a.tn m o i) (updF a.se m x i):=by
 by_cases e:i=m
 ·subst e;rw[Q0f,Q0f];exact h
 ·rw[Q0p e,Q0p e];exact Int.le_refl _
theorem cur_le1{m i:Nat}{o:Option Tn}(h:curA a m<=curO o (a.se m)):curA a i<=curO (updF a.tn m o i) (a.se i):=by
 by_cases e:i=m
 ·subst e;rw[Q0f];exact h
 ·rw[Q0p e];exact Int.le_refl _
theorem cur_at{a:Ad}{m:Nat}{o:Option Tn}(h:a.tn m=o):curA a m=curO o (a.se m):=by unfold curA;rw[h]
theorem doI_doA(g:AdInv s a)(c:CapA lo a){o:Op}(h:chkE o=0):DoI lo a o.T (doA s a o).a.Hd (doA s a o).x:=by
 obtain⟨_,_,h0,h8,_⟩:=chk_ok h;obtain⟨K,T,N,M,Hh,D⟩:=o;have h0:0<=T:=h0;have h8:T<8:=h8;obtain⟨m,rfl⟩:=zzeoz h0;have hm:m<8:=by omega
 have refl:∀E:Int,DoI lo a (m:Int) (anE E).Hd a:=fun E=>⟨c,fun _ _=>Int.le_refl _,.inl rfl,TsIn.refl _ _⟩;have hin:∀a':Ad,tnA a' (m:Int)=a'.tn m:=fun a'=>by unfold tnA;rw[if_pos ⟨by omega,by omega⟩,zztnc]
 unfold doA;dsimp only;split
 ·show DoI lo a (m:Int) (anE (creM s a (m:Int) M N).E).Hd (creM s a (m:Int) M N).a;unfold creM;split;· exact refl _
  split;· exact refl _
  rename_i hn;rw[zztnc] at hn;have hnone:a.tn m=none:=by
   cases e:a.tn m with
   | none=>rfl
   | some t=>rw[e] at hn;exact absurd rfl hn
  split;· exact refl _
  split;· exact refl _
  split;· exact refl _
  rw[zztnc];split
  ·have ei:a.se=updF a.se m (a.se m):=(Q0N a.se m).symm;refine⟨c.upd (m:=m) (x:=a.se m) rfl ei (fun t e=>by cases e;exact cap_T0 (c.se m hm)) (fun _=>c.se m hm),fun i hi=>cur_le1 (m:=m) (by rw[cur_at hnone];exact Int.le_refl _),.inl rfl,TsIn.refl _ _⟩
  ·exact⟨⟨c.tn,c.se⟩,fun _ _=>Int.le_refl _,.inl rfl,TsIn.refl _ _⟩
 split
 ·show DoI lo a (m:Int) (anE (resM s a (m:Int) M N).E).Hd (resM s a (m:Int) M N).a;rcases res_keep g (m:Int) M N with e | ⟨m',t,t',e1,e2,e3,e4,e5,e6,e7,e8,e9⟩
  ·rw[e];exact refl _
  ·have em:m'=m:=by omega
   subst em;have ei:(resM s a (m':Int) M N).a.se=updF a.se m' (a.se m'):=by rw[e5,Q0N]
   refine⟨c.upd e4 ei (fun x ex=>by cases ex;exact(c.tn m' t hm e3).same e6 e7 fun k hk=>by rw[e8];exact hk) (fun _=>c.se m' hm),fun i hi=>?_,.inl rfl,?_⟩
   ·unfold curA;rw[e4,e5];refine cur_le1 (m:=m') ?_;rw[cur_at e3];show t.nx<=t'.nx;rw[e7];exact Int.le_refl _
   ·rw[hin,hin,e3,e4,Q0f];exact e9
 split
 ·show DoI lo a (m:Int) (anE (desM s a (m:Int)).E).Hd (desM s a (m:Int)).a;unfold desM;split;· exact refl _
  rw[zztnc];cases ht:a.tn m with
  | none=>exact refl _
  | some t=>
   have gt:=g.tn m t hm ht;have ct:=c.tn m t hm ht;refine⟨c.upd (m:=m) (x:=t.nx) rfl rfl (fun x ex=>by cases ex) (fun _=>ct.lo),fun i hi=>cur_le (m:=m) (by rw[cur_at ht];exact Int.le_refl _),.inl rfl,?_⟩
   ·have hfr:=(dro_keep gt.inv.ok.h).1.fr.tsIn;have eH:=(dro_keep gt.inv.ok.h).2.1;refine hfr.mono fun p q=>.inl ?_;rw[hin,ht];refine q.elim id fun z=>?_;rw[eH] at z;obtain⟨y,hy,_⟩:=z;cases hy
 rw[zztnc];cases ht:a.tn m with
 | none=>exact refl _
 | some t=>
  have gt:=g.tn m t hm ht;have ct:=c.tn m t hm ht;have ak:=ask_cap gt.inv ct (by rw[gt.id];omega) ⟨K,(m:Int),N,M,Hh,D⟩;have at_:=ask_tsl gt.inv ct ⟨K,(m:Int),N,M,Hh,D⟩;have ei:a.se=updF a.se m (a.se m):=(Q0N a.se m).symm;refine⟨c.upd (m:=m) (x:=a.se m) rfl ei (fun x ex=>by cases ex;exact ak.cap) (fun _=>c.se m hm),fun i hi=>cur_le1 (m:=m) (by rw[cur_at ht];exact ak.nx),?_,?_⟩
  ·rw[zztnc];show(askM s a.A t ⟨K,(m:Int),N,M,Hh,D⟩).a.Hd=0 \/ _<curO (updF a.tn m _ m) _;rw[Q0f];exact ak.hd
  ·rw[hin,hin,ht];show TsIn (fun p=>inPg t.H.T p \/ inPg (oT (updF a.tn m _ m)) p) _ _;rw[Q0f];exact at_
theorem capA_fgt(c:CapA lo a):CapA lo (fgt a):=⟨c.tn,c.se⟩
theorem doI_do(g:AdInv s x.a)(c:CapA lo x.a)(o:Op):CapA lo (doM s x o).x.a /\ (∀i,i<8->curA x.a i<=curA (doM s x o).x.a i) /\ ((doM s x o).a.Hd=0 \/ Hd.uN (doM s x o).a.Hd<curA (doM s x o).x.a o.T.toNat) /\
  TsL (fun p=>inPg (oT (tnA x.a o.T)) p \/ inPg (oT (tnA (doM s x o).x.a o.T)) p) (doM s x o).x.tch:=by
 unfold doM;split
 ·exact⟨⟨c.tn,c.se⟩,fun i _=>Int.le_refl _,.inl rfl,fun t h=>(by cases h)⟩
 ·rename_i hc;have h:=doI_doA (o:=o) g.fgt (capA_fgt c) (by simpa using hc);refine⟨h.cap,h.cur,h.hd,?_⟩;obtain⟨l,e,hl⟩:=h.ts;show TsL _ (doA s (fgt x.a) o).x.A.ts;rw[e];exact hl
theorem own_col(g:AdInv s a){i:Nat}(hi:i<8){p:Nat}(h:inPg (oT (a.tn i)) p):((p % s.C:Nat):Int) ∈ a.ws i:=by
 cases ht:a.tn i with
 | none=>rw[ht] at h;obtain⟨y,hy,_⟩:=h;cases hy
 | some t=>
  rw[ht] at h;have gt:=g.tn i t hi ht;exact(gt.win _).1 (Q3C.1 (Q3U gt.inv.ok.h h))
theorem own_one(g:AdInv s a){i j:Nat}(hi:i<8)(hj:j<8){p:Nat}(h:inPg (oT (a.tn i)) p)(h':inPg (oT (a.tn j)) p):i=j:=
 Classical.byContradiction fun e=>g.dis i j hi hj e _ (own_col g hi h) (own_col g hj h')
theorem oT_tok(g:AdInv s a){i:Nat}(hi:i<8):TOk (oT (a.tn i)):=by
 cases ht:a.tn i with
 | none=>exact⟨fun x hx=>(by cases hx),List.nodup_nil,List.nodup_nil⟩
 | some t=>exact(g.tn i t hi ht).inv.ok.h.tok
theorem pag_mem{T:Tb}(tok:TOk T)(v:Int):v ∈ pagO T ↔ ∃p:Nat,v=(p:Int) /\ inPg T p:=by
 unfold pagO;rw[srt_mem,List.mem_map];constructor
 ·rintro⟨k,hk,rfl⟩;obtain⟨y,hy⟩:=zzise.1 (((Q0H tok).2.2 k).1 hk);have e:fnd T k=y.2:=by unfold fnd;rw[hy]
  have hT:=(Q0a hy).1;obtain⟨p,hp⟩:=zzeoz (tok.rng y hT).2.2.1;exact⟨p,by rw[e,hp],y,hT,hp⟩
 ·rintro⟨p,rfl,y,hy,hp⟩;have h:=Q0U tok hy;exact⟨y.1,((Q0H tok).2.2 y.1).2 (by rw[h];rfl),by unfold fnd;rw[h];exact hp⟩
theorem pag_nodup{T:Tb}(tok:TOk T):(pagO T).Nodup:=by
 unfold pagO;refine Q1X ?_;have hal:=(Q0H tok).1;refine List.nodup_iff_pairwise_ne.2 (List.pairwise_map.2 ((List.nodup_iff_pairwise_ne.1 ?_).imp_of_mem fun {a b} ha hb hab z=>hab ?_))
 ·unfold allT;exact(List.mergeSort_perm _ _).nodup_iff.2 tok.n1
 ·obtain⟨y,hy⟩:=zzise.1 (((Q0H tok).2.2 a).1 ha);obtain⟨y',hy'⟩:=zzise.1 (((Q0H tok).2.2 b).1 hb);have e:fnd T a=y.2:=by unfold fnd;rw[hy]
  have e':fnd T b=y'.2:=by unfold fnd;rw[hy']
  obtain⟨h1,h2⟩:=Q0a hy;obtain⟨h1',h2'⟩:=Q0a hy';have:=Q0x tok.n2 h1 h1' (show y.2=y'.2 by rw[<-e,<-e',z]);rw[<-h2,<-h2',this]
end
end
set_option maxRecDepth 20000
section
open Go.RowKit Go.Maps Thing
section
variable{w:World}{F:Nat->Prop}{X C:Thing}
theorem bm_loop{mp:Nat}{p:Option Addr}{c:Nat}{l m:List Int}{K:World->Prop}(h:X.P w F)(e:X=rowT (.slice p l.length c) l*(bmT mp m*C))(few:∀k ∈ m++l,0<=k /\ k<10000000)(hl:l.length<=1000000)
  (k:∀w' F',(bmT mp (m++l)*C).P w' F'->Step F w F' w'->K w') :
  ∃x45:Nat->Int->World->Prop,(∃n46:Nat,x45 n46 (0:Int) w) /\ ∀(n47:Nat)(jv:Nat->Value)(i48:Int)(w49:World),x45 n47 i48 w49->ifB (decide (i48<(↑l.length:Int))) ((0:Int)<=i48 /\ i48<(↑l.length:Int) /\ someA p fun a50=>∃i51:Int,w49.cell? (a50.add i48.toNat)=some (.int .i64 i51) /\ ∃w52:World,Sem.run Tryz.prog (Instr.mapUpdate 42 (.map (some mp)) (.int .i64 i51) (.bool true)) w49=Result.ok () w52 /\
   ∃n53:Nat,n53<n47 /\ x45 n53 (IntKind.i64.wrap (i48+(1:Int))) w52) (K w49):=by
 refine⟨fun f i w'=>∃j:Nat,i=(j:Int) /\ f+j=l.length /\ ∃F',(bmT mp (m++l.take j)*(rowT (.slice p l.length c) l*C)).P w' F' /\ Step F w F' w',⟨l.length,0,rfl,rfl,F,by rw[List.take_zero,List.append_nil];exact re h (by rw[e];ac_rfl),Step.refl _ _⟩,?_⟩;rintro f jv i w1 ⟨j,rfl,hf,F1,h1,s1⟩;refine Q05 (fun q=>?_) (fun q=>?_)
 ·have q:=zzodt q;have hj:j<l.length:=by omega
  obtain⟨a,ha⟩:∃a,l[j]? = some a:=⟨_,zzgge hj⟩;have hr:=Q1I (v:=.slice p l.length c) (l:=l) (Y:=bmT mp (m++l.take j)*C) h1 (sw4 _ _ _);refine⟨by omega,by omega,?_⟩;rw[zztnc];refine(ORow.rowAt Q0C hr).int ha ?_;have hr2:=few a (List.mem_append_right _ (zzmog ha));obtain⟨w2,F2,hrun,h2,s2⟩:=bm_store h1 rfl (k:=a) (i64w (by omega) (by omega)) fun x hx=>few x (by
   rcases zzmpd.1 hx with hx | hx
   ·exact zzmal _ hx
   ·exact List.mem_append_right _ (List.mem_of_mem_take hx))
  refine⟨w2,hrun,f-1,by omega,j+1,by rw[Q04 (by omega) (by omega)];omega,by omega,F2,?_,s1.trans s2⟩;rw[List.take_add_one,ha];rw[List.append_assoc] at h2;exact h2
 ·have q:=of_decide_eq_false q;have ek:l.take j=l:=List.take_of_length_le (by omega);rw[ek] at h1;obtain⟨F2,h2,sub⟩:=Q07 (A:=rowT (.slice p l.length c) l) (re h1 (sw4 _ _ _));exact k w1 F2 h2 (s1.sub sub)
def imM(f:Int->Option Int):Int->Option Value:=fun k=>(f k).map (.int .i64)
abbrev imT(mp:Nat)(f:Int->Option Int):Thing:=mpT 3 mp (imM f)
theorem im_map:Tryz.prog.underlying 48=some (.map 3 3):=by kernel_rfl
theorem im_z(w:World):(zeroValue 3).run Tryz.prog w=.ok (.int .i64 0) w:=by kernel_rfl
theorem im_look{mp:Nat}{f:Int->Option Int}(h:X.P w F)(e:X=imT mp f*C){k:Int}(hk:I64w k):(Instr.lookup 48 (.map (some mp)) (.int .i64 k) true).run Tryz.prog w=.ok (.tuple #[.int .i64 ((f k).getD 0),.bool (f k).isSome]) w:=by
 obtain⟨F1,⟨l,h1,_⟩,_⟩:=Q0e h e;have:=h1.look_ok Q0D im_map (im_z w) hk;rw[this];unfold imM;cases f k <;> rfl
theorem im_store{mp:Nat}{f:Int->Option Int}(h:X.P w F)(e:X=imT mp f*C){k:Int}(hk:I64w k)(v:Int)(few:∀k,(f k).isSome=true->0<=k /\ k<10000000) :
  ∃w' F',(Instr.mapUpdate 48 (.map (some mp)) (.int .i64 k) (.int .i64 v)).run Tryz.prog w=.ok () w' /\ (imT mp (updI f k (some v))*C).P w' F' /\ Step F w F' w':=by
 obtain⟨w',F',hr,h',st⟩:=Q1D (K:=3) (mp:=mp) (m:=imM f) (C:=C) h e Q0D im_map hk (.int .i64 v) (fun j hj=>by
  unfold imM at hj;rw[Option.isSome_map] at hj;exact few j hj)
 refine⟨w',F',hr,re h' ?_,st⟩;have:upd (imM f) k (some (.int .i64 v))=imM (updI f k (some v)):=funext fun j=>by
  unfold upd imM updI;split <;> rfl
 rw[this]
theorem im_made(h:X.P w F):(imT w.heap.size (fun _=>none)*X).P (w.alloc (.map #[] 0)) (fun j=>j=w.heap.size \/ F j) /\ Step F w (fun j=>j=w.heap.size \/ F j) (w.alloc (.map #[] 0)):=by
 have e:imM (fun _=>none)=fun _=>none:=rfl;show(mpT 3 w.heap.size (imM (fun _=>none))*X).P _ _ /\ _;rw[e];exact Q2s (K:=3) h
end
end
set_option maxRecDepth 20000
section
open Go.RowKit Go.Maps Thing
theorem tab_start{W:World}(tab:Sf.Tab W):∃o,(tabT o).P W (· = 0):=by
 have h:=tab 0 _ rfl;cases e:W.heap[0]? with
 | none=>unfold World.cell? at h;rw[e] at h;cases h
 | some o=>exact⟨o,tab,e,rfl⟩
abbrev cfO(P0 C0:Int):Obj:=.cells #[.int .i64 P0,.int .i64 C0] 23 (0,0)
theorem t_end{o:Obj}{W w:World}{F:Nat->Prop}{C:Thing}(h0:(tabT o).P W (· = 0))(h:(tabT o*C).P w F)(st:Step (· = 0) W F w) :
  CS 11 #[] w fun(v:Value) (w':World)=>∃(b:Bool),v=.bool b /\ Yes W (.bool b) w':=by
 obtain⟨F1,h1,sub⟩:=Q0e (A:=tabT o) (Y:=C) h rfl;refine t_awake h1 fun w' F' h2 s2=>⟨true,rfl,rfl,?_⟩;exact ext_of_tab h0 h2 ((st.sub sub).trans s2)
theorem t_endS{s:Sv}{sb:Nat}{y:Sy}{x:Se}{o:Obj}{W w:World}{F:Nat->Prop}{X C:Thing}(h0:(tabT o).P W (· = 0))(ho:s.o=o)(h:X.P w F)(e:X=svX s sb y x*C)(st:Step (· = 0) W F w) :
  CS 11 #[] w fun(v:Value) (w':World)=>∃(b:Bool),v=.bool b /\ Yes W (.bool b) w':=by
 subst ho;exact t_end (C:=svTb s sb y x*C) h0 (re h (by rw[e,sv_tab,Thing.mul_assoc])) st
end
set_option maxRecDepth 100000
section
variable{w:World}{R:Value->World->Prop}
def va232:Ann:=⟨fun id=>cond (Nat.beq id 6) ⟨[(45,.int .i64 0)],([4,11,12,14,16,18,19,20,21,23,25,26,27]++rg 46 100)⟩ (cond (Nat.beq id 10) ⟨[(55,.int .i64 0)],([14]++rg 56 6)⟩ (cond (Nat.beq id 16) ⟨[(70,.int .i64 0)],([16]++rg 71 6)⟩ (cond (Nat.beq id 21) ⟨[(80,.int .i64 0)],([4,18]++rg 81 19)⟩ (cond (Nat.beq id 28) ⟨[(101,.int .i64 0)],([4,20,21,23,25,26,27]++rg 102 43)⟩ (cond (Nat.beq id 32) ⟨[(109,.int .i64 0)],([23]++rg 110 6)⟩ (cond (Nat.beq id 37) ⟨[(120,.int .i64 0)],([4,25,26,27]++rg 121 23)⟩ (LI.none))))))),fun l=>none,fun i=>cond (Nat.beq i 25) (some ⟨[],([4,18]++rg 82 17)⟩) (cond (Nat.beq i 26) (some ⟨[],([4,18]++rg 77 23)⟩) (cond (Nat.beq i 42) (some ⟨[],([4,26,27]++rg 124 16)⟩) (none)))⟩
def vc232(x0_0 x0_1:Int)(x1:ByteArray)(w:World)(R:VW):Prop:=
 ∀(n0:Nat)(w1:World),n0=w.heap.size->w1=w.alloc (.cells #[.int .i64 x0_0,.int .i64 x0_1] 23)->∃i2 i3:Int,CellsAt w1 (zA n0) [.int .i64 i2,.int .i64 i3] /\ CS 9 #[.agg #[.int .i64 i2,.int .i64 i3],.string x1,.int .i64 150] w1 fun v4 w5=>∃(p6 p7:Option Addr)(n8 n9:Nat)(p10:Option Addr)(n11 n12:Nat),v4=.tuple #[.pointer p6,.slice p7 n8 n9,.slice p10 n11 n12] /\ ∃i13 i14:Int,CellsAt w5 (zA n0) [.int .i64 i13,.int .i64 i14] /\ CS 10 #[.agg #[.int .i64 i13,.int .i64 i14]] w5 fun v15 w16=>∃(p17:Option Addr)(i18:Int),v15=.tuple #[.pointer p17,.int .i64 i18] /\ ifB (i18 != 0) (CS 11 #[] w16 fun v19 w20=>∃b21:Bool,v19=.bool b21 /\ R (.bool b21) w20) (∃x22:Nat->Int->World->Prop,(∃n23:Nat,x22 n23 0 w16) /\ ∀(n24:Nat)(jv:Nat->Value)(i25:Int)(w26:World),x22 n24 i25 w26->ifB (decide (i25<(↑n8:Int))) (0<=i25 /\ i25<(↑n8:Int) /\ someA p7 fun a27=>∃(i28 i29 i30 i31 i32:Int)(s33:ByteArray),CellsAt w26 (a27.add (i25.toNat*6)) [.int .i64 i28,.int .i64 i29,.int .i64 i30,.int .i64 i31,.int .u64 i32,.string s33] /\ ∀(n34:Nat)(w35:World),n34=w26.heap.size->w35=w26.alloc (.cells #[.int .i64 0,.int .i64 0,.int .i64 0,.int .i64 0,.int .u64 0,.string (.mk #[])] 35)->WrC w35 (zA n34) 6 /\ ∀(w36:World),w36=wr w35 (zA n34) [.int .i64 i28,.int .i64 i29,.int .i64 i30,.int .i64 i31,.int .u64 i32,.string s33]->∃(p37:Option Nat)(w38:World),Sem.run Tryz.prog (Instr.makeMap 42 none) w36=.ok (.map p37) w38 /\ ∃i39:Int,w38.cell? ((zA n34).add 1)=some (.int .i64 i39) /\ CS 15 #[.pointer p17,.int .i64 i39] w38 fun v40 w41=>∃(p42:Option Addr)(n43 n44:Nat),v40=.slice p42 n43 n44 /\ ∃x45:Nat->Int->World->Prop,(∃n46:Nat,x45 n46 0 w41) /\ ∀(n47:Nat)(jv:Nat->Value)(i48:Int)(w49:World),x45 n47 i48 w49->ifB (decide (i48<(↑n43:Int))) (0<=i48 /\ i48<(↑n43:Int) /\ someA p42 fun a50=>∃i51:Int,w49.cell? (a50.add i48.toNat)=some (.int .i64 i51) /\ ∃w52:World,Sem.run Tryz.prog (Instr.mapUpdate 42 (.map p37) (.int .i64 i51) (.bool true)) w49=.ok () w52 /\ ∃n53:Nat,n53<n47 /\ x45 n53 (IntKind.i64.wrap (i48+1)) w52) (∃(i54 i55 i56 i57 i58:Int)(s59:ByteArray),CellsAt w49 (zA n34) [.int .i64 i54,.int .i64 i55,.int .i64 i56,.int .i64 i57,.int .u64 i58,.string s59] /\ CS 14 #[.pointer p17,.agg #[.int .i64 i54,.int .i64 i55,.int .i64 i56,.int .i64 i57,.int .u64 i58,.string s59]] w49 fun v60 w61=>∃(i62 i63 i64 i65:Int)(s66:ByteArray)(i67:Int),v60=.agg #[.int .i64 i62,.int .u64 i63,.int .i64 i64,.int .i64 i65,.string s66,.int .i64 i67] /\ ∃i68:Int,w61.cell? ((zA n34).add 1)=some (.int .i64 i68) /\ CS 15 #[.pointer p17,.int .i64 i68] w61 fun v69 w70=>∃(p71:Option Addr)(n72 n73:Nat),v69=.slice p71 n72 n73 /\ ∃x74:Nat->Int->World->Prop,(∃n75:Nat,x74 n75 0 w70) /\ ∀(n76:Nat)(jv:Nat->Value)(i77:Int)(w78:World),x74 n76 i77 w78->ifB (decide (i77<(↑n72:Int))) (0<=i77 /\ i77<(↑n72:Int) /\ someA p71 fun a79=>∃i80:Int,w78.cell? (a79.add i77.toNat)=some (.int .i64 i80) /\ ∃w81:World,Sem.run Tryz.prog (Instr.mapUpdate 42 (.map p37) (.int .i64 i80) (.bool true)) w78=.ok () w81 /\ ∃n82:Nat,n82<n76 /\ x74 n82 (IntKind.i64.wrap (i77+1)) w81) (∃x83:World->Prop,(CS 16 #[.pointer p17] w78 fun v84 w85=>∃(p86:Option Addr)(n87 n88:Nat),v84=.slice p86 n87 n88 /\ ∃x89:Nat->Int->World->Prop,(∃n90:Nat,x89 n90 0 w85) /\ ∀(n91:Nat)(jv:Nat->Value)(i92:Int)(w93:World),x89 n91 i92 w93->ifB (decide (i92<(↑n87:Int))) (∃x94:World->Prop,(0<=i92 /\ i92<(↑n87:Int) /\ someA p86 fun a95=>∃(i96 i97:Int)(b98:Bool),CellsAt w93 (a95.add (i92.toNat*3)) [.int .i64 i96,.int .i64 i97,.bool b98] /\ ∀(n99:Nat)(w100:World),n99=w93.heap.size->w100=w93.alloc (.cells #[.int .i64 0,.int .i64 0,.bool false] 47)->WrC w100 (zA n99) 3 /\ ∀(w101:World),w101=wr w100 (zA n99) [.int .i64 i96,.int .i64 i97,.bool b98]->∃i102:Int,w101.cell? ((zA n99).add 0)=some (.int .i64 i102) /\ (512:Int) ≠ 0 /\ ∃(b103:Bool)(w104:World),Sem.run Tryz.prog (Instr.lookup 42 (.map p37) (.int .i64 (IntKind.i64.wrap (i102.tdiv 512))) false) w101=.ok (.bool b103) w104 /\ ifB (!b103) (R (.bool false) w104) (∃i105:Int,w104.cell? ((zA n99).add 0)=some (.int .i64 i105) /\ (512:Int) ≠ 0 /\ ∃i106:Int,w104.cell? ((zA n99).add 1)=some (.int .i64 i106) /\ ifB (decide (IntKind.i64.wrap (i105.tmod 512+i106)>512)) (R (.bool false) w104) (x94 w104))) /\ ∀(jv:Nat->Value)(w107:World),x94 w107->∃n108:Nat,n108<n91 /\ x89 n108 (IntKind.i64.wrap (i92+1)) w107) (x83 w93)) /\ ∀(jv:Nat->Value)(w109:World),x83 w109->∃(p110:Option Nat)(w111:World),Sem.run Tryz.prog (Instr.makeMap 48 none) w109=.ok (.map p110) w111 /\ ∃x112:Nat->Int->World->Prop,(∃n113:Nat,x112 n113 0 w111) /\ ∀(n114:Nat)(jv:Nat->Value)(i115:Int)(w116:World),x112 n114 i115 w116->ifB (decide (i115<8)) (∃(p117:Option Nat)(w118:World),Sem.run Tryz.prog (Instr.makeMap 42 none) w116=.ok (.map p117) w118 /\ CS 13 #[.pointer p17,.int .i64 i115] w118 fun v119 w120=>∃(p121:Option Addr)(n122 n123:Nat),v119=.slice p121 n122 n123 /\ ∃x124:Nat->Int->World->Prop,(∃n125:Nat,x124 n125 0 w120) /\ ∀(n126:Nat)(jv:Nat->Value)(i127:Int)(w128:World),x124 n126 i127 w128->ifB (decide (i127<(↑n122:Int))) (0<=i127 /\ i127<(↑n122:Int) /\ someA p121 fun a129=>∃i130:Int,w128.cell? (a129.add i127.toNat)=some (.int .i64 i130) /\ ∃w131:World,Sem.run Tryz.prog (Instr.mapUpdate 42 (.map p117) (.int .i64 i130) (.bool true)) w128=.ok () w131 /\ ∃n132:Nat,n132<n126 /\ x124 n132 (IntKind.i64.wrap (i127+1)) w131) (CS 15 #[.pointer p17,.int .i64 i115] w128 fun v133 w134=>∃(p135:Option Addr)(n136 n137:Nat),v133=.slice p135 n136 n137 /\ ∃x138:Nat->Int->World->Prop,(∃n139:Nat,x138 n139 0 w134) /\ ∀(n140:Nat)(jv:Nat->Value)(i141:Int)(w142:World),x138 n140 i141 w142->ifB (decide (i141<(↑n136:Int))) (0<=i141 /\ i141<(↑n136:Int) /\ someA p135 fun a143=>∃i144:Int,w142.cell? (a143.add i141.toNat)=some (.int .i64 i144) /\ ∃x145:World->Prop,(∃(i146:Int)(b147:Bool)(w148:World),Sem.run Tryz.prog (Instr.lookup 48 (.map p110) (.int .i64 i144) true) w142=.ok (.tuple #[.int .i64 i146,.bool b147]) w148 /\ ifB b147 (R (.bool false) w148) (∃i149:Int,w148.cell? ((zA n0).add 1)=some (.int .i64 i149) /\ i149 ≠ 0 /\ ∃(b150:Bool)(w151:World),Sem.run Tryz.prog (Instr.lookup 42 (.map p117) (.int .i64 (i144.tmod i149)) false) w148=.ok (.bool b150) w151 /\ ifB (!b150) (R (.bool false) w151) (x145 w151))) /\ ∀(jv:Nat->Value)(w152:World),x145 w152->∃w153:World,Sem.run Tryz.prog (Instr.mapUpdate 48 (.map p110) (.int .i64 i144) (.int .i64 i115)) w152=.ok () w153 /\ ∃n154:Nat,n154<n140 /\ x138 n154 (IntKind.i64.wrap (i141+1)) w153) (∃n155:Nat,n155<n114 /\ x112 n155 (IntKind.i64.wrap (i115+1)) w142))) (∃n156:Nat,n156<n24 /\ x22 n156 (IntKind.i64.wrap (i25+1)) w116)))) (CS 11 #[] w26 fun v157 w158=>∃b159:Bool,v157=.bool b159 /\ R (.bool b159) w158))
theorem vc232.ok{x0_0 x0_1:Int}{x1:ByteArray}(h:vc232 x0_0 x0_1 x1 w R ):Calls Tryz.prog 4 #[.agg #[.int .i64 x0_0,.int .i64 x0_1],.string x1] w (Ret R):=
 bodyE va232 Tryz.func4 (h:=h)
end
set_option maxRecDepth 20000
section
open Go.RowKit Go.Maps Thing
section
variable{a:Ad}{s:Sv}
theorem pag_few(g:AdInv s a){i:Nat}(hi:i<8){p:Int}(h:p ∈ pagO (oT (a.tn i))):0<=p /\ p<10000000:=by
 obtain⟨n,rfl,y,hy,e⟩:=(pag_mem (oT_tok g hi) p).1 h;have:=(oT_tok g hi).rng y hy;omega
theorem tnA_tok(g:AdInv s a)(T:Int):TOk (oT (tnA a T)):=by
 unfold tnA;split
 ·rename_i h;exact oT_tok g (by omega)
 ·exact⟨fun x hx=>(by cases hx),List.nodup_nil,List.nodup_nil⟩
theorem setAt3(arr:Array Value)(hs:arr.size=3)(a b c:Value):setAt arr 0 [a,b,c]=#[a,b,c]:=by
 obtain⟨l⟩:=arr;have hs:l.length=3:=hs
 match l,hs with
 | [_,_,_],_=>rfl
theorem tcell_len(t:Tch):(tcell t).length=3:=rfl
end
theorem walk_TopConfined(P0 C0:Int)(_:-9223372036854775808<=P0 /\ P0<=9223372036854775807)(_:-9223372036854775808<=C0 /\ C0<=9223372036854775807)(str:ByteArray)(_:str.size<=maxLen)(_:str.size<=reachBytes)(W:World)(tab:Sf.Tab W) :
  Calls Tryz.prog 4 #[.agg #[.int .i64 P0,.int .i64 C0],.string str] W (Ret (Yes W)):=by
 obtain⟨o,h0⟩:=tab_start tab;refine vc232.ok ?_;unfold vc232;refine Q0m h0 fun n0 w1 F1 h1 s1 _=>?_;have h1:(blk n0 (cfO P0 C0)*tabT o).P w1 F1:=h1;have rc:∀ {w':World} {F':Nat->Prop} {X Z:Thing},X.P w' F'->X=blk n0 (cfO P0 C0)*Z->w'.heap[n0]? = some (cfO P0 C0):=fun p e=>Q0c p e;refine⟨_,_,Q08 (vs:=[.int .i64 P0,.int .i64 C0]) (rc h1 rfl),?_⟩;refine t_playedOps (o:=o) (C:=blk n0 (cfO P0 C0)) P0 C0 str 150 (re h1 (zztmc _ _)) fun p0 po co ps ns cs ops w2 F2 hou hol h2 st2=>⟨_,_,_,_,_,_,_,rfl,?_⟩;have s2:=s1.trans st2;refine⟨_,_,Q08 (vs:=[.int .i64 P0,.int .i64 C0]) (rc (Z:=tabT o*dnT (.slice po ops.length co) ops) h2 (by show tabT o*(dnT (.slice po ops.length co) ops*blk n0 (cfO P0 C0))=_;ac_rfl)),?_⟩;refine s_newC (C:=dnT (.slice po ops.length co) ops*blk n0 (cfO P0 C0)) h2 P0 C0 (fun hno w3 h3 hE3=>⟨_,_,rfl,Q03 rfl (t_end h0 h3 (s2.trans (Step.ext hE3)))⟩) fun s sb y w3 F3 hcfg ho hs h3 st3=>⟨_,_,rfl,Q00 rfl ?_⟩;have s3:=s2.trans st3;have hC:C0=(s.C:Int):=hs.c;have c1:=hs.c1
 let D:Thing:=dnT (.slice po ops.length co) ops*blk n0 (cfO P0 C0)
 refine⟨fun f i w'=>∃j:Nat,i=(j:Int) /\ f+j=ops.length /\ ∃y x F',AdInv s x.a /\ CapA (fun _=>1) x.a /\ x.done.length<=j /\ (svX s sb y x*D).P w' F' /\ Step (· = 0) W F' w',⟨ops.length,0,rfl,rfl,y,_,F3,Q2o hs,capA_0,Nat.le_refl _,h3,s3⟩,?_⟩;rintro f jv i w4 ⟨j,rfl,hf,y,x,F4,g,cap,hd,h4,s4⟩;refine Q05 (fun q=>?pos) (fun q=>?neg)
 case neg=>exact t_endS h0 ho h4 rfl s4
 have q:=zzodt q;have hj:j<ops.length:=by omega
 obtain⟨op,hop⟩:∃op,ops[j]? = some op:=⟨_,zzgge hj⟩;have hrow:=rw_of (e:=35) (k:=6) (f:=opL) (v:=.slice po ops.length co) (l:=ops) (Y:=svX s sb y x*blk n0 (cfO P0 C0)) h4 (by show svX s sb y x*(dnT (.slice po ops.length co) ops*blk n0 (cfO P0 C0))=dnT (.slice po ops.length co) ops*_;ac_rfl);obtain⟨ap,hp,hcells⟩:=ORow.cells opL_len hrow hop;refine⟨by omega,by omega,?_⟩;subst hp;rw[zztnc];have hou':=hou op (zzmog hop);refine⟨_,_,_,_,_,_,hcells,op_box h4 fun nb w5 F5 h5 s5=>?_⟩;have s5:=s4.trans s5
 let E:Thing:=blk nb (opB op)*D
 have h5:(svX s sb y x*E).P w5 F5:=re h5 (sw4 _ _ _);refine⟨some w5.heap.size,w5.alloc (.map #[] 0),run_makeMap _ w5,?_⟩;obtain⟨h6,st6⟩:=bm_made h5;generalize w5.heap.size=m1 at h6 st6 ⊢;generalize w5.alloc (.map #[] 0)=w6 at h6 st6 ⊢;have s6:=s5.trans st6;have rO:∀ {w':World} {F':Nat->Prop} {X Z:Thing},X.P w' F'->X=blk nb (opB op)*Z->w'.heap[nb]? = some (opB op):=fun p e=>Q0c p e;refine⟨_,by rw[Q02];exact Q01 (rO (Z:=bmT m1 []*(svX s sb y x*D)) h6 (by show bmT m1 []*(svX s sb y x*(blk nb (opB op)*D))=_;ac_rfl)) rfl,?_⟩;have gi:=Q2H g op;have gl:=Q2I (s:=s) (x:=x) op;obtain⟨gc,_,_,gt⟩:=doI_do g cap op;have gtl:=do_tch g op;have fewA:∀ {a:Ad},AdInv s a->∀k ∈ pagO (oT (tnA a op.T)),0<=k /\ k<10000000:=fun {a} ga k hk=>by
  unfold tnA at hk;split at hk
  ·rename_i hT;exact pag_few ga (by omega) hk
  ·have e0:pagO (oT none)=[]:=List.eq_nil_of_length_eq_zero (Q2a (oT none));rw[e0] at hk;cases hk
 have lenA:∀ {a:Ad},AdInv s a->(pagO (oT (tnA a op.T))).length<=1000000:=fun {a} ga=>by
  rw[Q2a];unfold tnA;split
  ·cases h:a.tn op.T.toNat with
   | none=>exact Nat.zero_le _
   | some t=>have:=(ga.tn op.T.toNat t (by omega) h).inv.ok.h.few;show t.H.T.length<=_;omega
  ·exact Nat.zero_le _
 refine s_pagesA (C:=bmT m1 []*E) g.ok h6 (sw4 _ _ _) op.T fun p7 c7 w7 F7 h7 st7=>⟨_,_,_,rfl,?_⟩;have s7:=s6.trans st7;refine bm_loop (C:=svX s sb y x*E) h7 rfl (fun k hk=>by rw[List.nil_append] at hk;exact fewA g k hk) (lenA g) fun w8 F8 h8 st8=>?_;rw[List.nil_append] at h8;have s8:=s7.trans st8;have m1L:∀p:Nat,inPg (oT (tnA x.a op.T)) p->(p:Int) ∈ pagO (oT (tnA x.a op.T)):=fun p hp=>(pag_mem (tnA_tok g op.T) _).2 ⟨p,rfl,hp⟩;have fw1:=fewA g;generalize pagO (oT (tnA x.a op.T))=l1 at h8 m1L fw1;refine⟨_,_,_,_,_,_,Q08 (vs:=opL op) (rO (Z:=bmT m1 l1*(svX s sb y x*D)) h8 (by show bmT m1 l1*(svX s sb y x*(blk nb (opB op)*D))=_;ac_rfl)),?_⟩;refine(t_do g hou' (by omega)).use (C:=bmT m1 l1*E) h8 (sw4 _ _ _) fun v w9 F9 p9 st9=>?_;obtain⟨y9,rfl,h9⟩:=Q0o p9;have s9:=s8.trans st9;generalize doM s x op=d at h9 gi gl gc gt gtl ⊢;refine⟨_,_,_,_,_,_,rfl,?_⟩;refine⟨_,by rw[Q02];exact Q01 (rO (Z:=bmT m1 l1*(svX s sb y9 d.x*D)) h9 (by show svX s sb y9 d.x*(bmT m1 l1*(blk nb (opB op)*D))=_;ac_rfl)) rfl,?_⟩;refine s_pagesA (C:=bmT m1 l1*E) gi.ok h9 rfl op.T fun p10 c10 w10 F10 h10 st10=>⟨_,_,_,rfl,?_⟩;have s10:=s9.trans st10;refine bm_loop (m:=l1) (C:=svX s sb y9 d.x*E) h10 (by rw[sw4 (svX s sb y9 d.x)]) (fun k hk=>(zzmpd.1 hk).elim (fw1 k) (fewA gi k)) (lenA gi) fun w11 F11 h11 st11=>?_;have s11:=s10.trans st11;have m2L:∀p:Nat,inPg (oT (tnA d.x.a op.T)) p->(p:Int) ∈ pagO (oT (tnA d.x.a op.T)):=fun p hp=>(pag_mem (tnA_tok gi op.T) _).2 ⟨p,rfl,hp⟩
 have hL:∀p:Nat,(inPg (oT (tnA x.a op.T)) p \/ inPg (oT (tnA d.x.a op.T)) p)->(p:Int) ∈ l1++pagO (oT (tnA d.x.a op.T)):=fun p hp=>zzmpd.2 (hp.imp (m1L p) (m2L p));generalize l1++pagO (oT (tnA d.x.a op.T))=L at h11 hL
 let Z:Thing:=svX s sb y9 d.x*E
 have h11:(bmT m1 L*Z).P w11 F11:=h11;refine⟨fun w'=>∃F',(bmT m1 L*Z).P w' F' /\ Step (· = 0) W F' w',?_,?_⟩
 ·refine s_touched (s:=s) (sb:=sb) (y:=y9) (x:=d.x) (C:=bmT m1 L*E) h11 (sw4 _ _ _) (by omega) fun p12 c12 w12 hr12 hE12 hn12=>⟨_,_,_,rfl,?_⟩;obtain⟨h12,st12⟩:=Q0i (B:=tcT (.slice p12 d.x.tch.length c12) d.x.tch) h11 hE12 ⟨hr12,rfl⟩ hn12;refine⟨fun f2 i2 w'=>∃k:Nat,i2=(k:Int) /\ f2+k=d.x.tch.length /\ ∃F',(tcT (.slice p12 d.x.tch.length c12) d.x.tch*(bmT m1 L*Z)).P w' F' /\ Step (· = 0) W F' w',⟨d.x.tch.length,0,rfl,rfl,_,h12,s11.trans st12⟩,?_⟩;rintro f2 jv2 i2 w13 ⟨k,rfl,hf2,F13,h13,s13⟩;refine Q05 (fun q2=>?_) (fun q2=>?_)
  case refine_2=>
   obtain⟨F14,h14,sub⟩:=Q07 h13;exact⟨F14,h14,s13.sub sub⟩
  have q2:=zzodt q2;have hk:k<d.x.tch.length:=by omega
  obtain⟨t,ht⟩:∃t,d.x.tch[k]? = some t:=⟨_,zzgge hk⟩;obtain⟨pg,hpg,a1,a2,a3⟩:=gt t (zzmog ht);have hrow2:=rw_of (e:=47) (k:=3) (f:=tcell) (v:=.slice p12 d.x.tch.length c12) (l:=d.x.tch) (Y:=bmT m1 L*Z) h13 rfl;obtain⟨at_,hat,hc2⟩:=ORow.cells tcell_len hrow2 ht;subst hat
  refine⟨fun w'=>∃F',(tcT (.slice (some at_) d.x.tch.length c12) d.x.tch*(bmT m1 L*Z)).P w' F' /\ Step (· = 0) W F' w',⟨by omega,by omega,?_⟩,fun _ w' ⟨F',p,st⟩=>⟨f2-1,by omega,k+1,by rw[Q04 (by omega) (by omega)];omega,by omega,F',p,st⟩⟩;rw[zztnc];refine⟨_,_,_,hc2,Q0m h13 fun n99 w14 F14 h14 st14 _=>?_⟩;refine Q0L (b:=n99) (o:=0) (C:=tcT (.slice (some at_) d.x.tch.length c12) d.x.tch*(bmT m1 L*Z)) h14 rfl (by simp) fun w15 F15 h15 st15=>?_;rw[setAt3 _ rfl] at h15;have hb:=Q0c h15 rfl;obtain⟨a,ha⟩:=zzeoz (show 0<=t.1 by omega);obtain⟨n,hn⟩:=zzeoz (show 0<=t.2.1 by omega);have e1:a / 512=pg:=by omega
  have hw:=hL pg hpg;have hfit:pg<10000000:=by
   rcases hpg with z | z
   ·obtain⟨yy,hy,e⟩:=z;have:=(tnA_tok g op.T).rng yy hy;omega
   ·obtain⟨yy,hy,e⟩:=z;have:=(tnA_tok gi op.T).rng yy hy;omega
  have e2:IntKind.i64.wrap (t.1.tdiv 512)=(pg:Int):=by
   rw[ha,show(a:Int).tdiv 512=((a / 512:Nat):Int)from(Int.ofNat_tdiv _ _).symm,e1,Q04 (by omega) (by omega)]
  have e3:t.1.tmod 512=((a % 512:Nat):Int):=by rw[ha];exact(Int.ofNat_tmod _ _).symm
  have hl:=bm_look (mp:=m1) (l:=L) (C:=blk n99 (.cells #[.int .i64 t.1,.int .i64 t.2.1,.bool t.2.2] 47 (0,0))*(tcT (.slice (some at_) d.x.tch.length c12) d.x.tch*Z)) h15 (by ac_rfl) (k:=(pg:Int)) (i64w (by omega) (by omega));rw[decide_eq_true hw] at hl;refine⟨t.1,by rw[Q02];exact Q01 hb rfl,by decide,true,w15,by rw[e2];exact hl,Q00 rfl ⟨t.1,by rw[Q02];exact Q01 hb rfl,by decide,t.2.1,by rw[Q02];exact Q01 hb rfl,Q00 (zzdcf ?_) ?_⟩⟩
  ·rw[e3,hn,Q04 (by omega) (by omega)];omega
  ·obtain⟨F16,h16,sub⟩:=Q07 h15;exact⟨F16,h16,((s13.trans st14).trans st15).sub sub⟩
 rintro _ w12 ⟨F12,h12,s12⟩;refine⟨some w12.heap.size,w12.alloc (.map #[] 0),run_makeMap _ w12,?_⟩;obtain⟨h13,st13⟩:=im_made h12;generalize w12.heap.size=mo at h13 st13 ⊢;generalize w12.alloc (.map #[] 0)=w13 at h13 st13 ⊢
 let had:Nat->Int->Prop:=fun m p=>∃j,j<m /\ ∃n:Nat,p=(n:Int) /\ inPg (oT (d.x.a.tn j)) n
 have rC:∀ {w':World} {F':Nat->Prop} {Q:Thing},(Q*Z).P w' F'->w'.heap[n0]? = some (cfO P0 C0):=fun {w' F' Q} p=>rc (Z:=Q*(svX s sb y9 d.x*(blk nb (opB op)*dnT (.slice (some ap) ops.length co) ops))) p (by show Q*(svX s sb y9 d.x*(blk nb (opB op)*(dnT (.slice (some ap) ops.length co) ops*blk n0 (cfO P0 C0))))=_;ac_rfl);refine⟨fun f' i' w'=>∃m:Nat,i'=(m:Int) /\ f'+m=8 /\ ∃(fn:Int->Option Int)(F':Nat->Prop),(∀p,(fn p).isSome=true ↔ had m p) /\ (imT mo fn*(bmT m1 L*Z)).P w' F' /\ Step (· = 0) W F' w',⟨8,0,rfl,rfl,fun _=>none,_,fun p=>⟨fun z=>(by cases z),fun⟨j,hj,_⟩=>absurd hj (Nat.not_lt_zero j)⟩,h13,s12.trans st13⟩,?_⟩;rintro f' jv' i' w14 ⟨m,rfl,hf',fn,F14,hfn,h14,s14⟩;refine Q05 (fun q=>?pos2) (fun q=>?neg2)
 case neg2=>
  have q:=of_decide_eq_false q;obtain⟨F15,h15,sub⟩:=Q07 (A:=imT mo fn*(bmT m1 L*blk nb (opB op))) (B:=svX s sb y9 d.x*D) (re h14 (by show imT mo fn*(bmT m1 L*(svX s sb y9 d.x*(blk nb (opB op)*D)))=_;ac_rfl));exact⟨f-1,by omega,j+1,by rw[Q04 (by omega) (by omega)];omega,by omega,y9,d.x,F15,gi,gc,by omega,h15,s14.sub sub⟩
 have q:=zzodt q;have hm:m<8:=by omega
 refine⟨some w14.heap.size,w14.alloc (.map #[] 0),run_makeMap _ w14,?_⟩;obtain⟨h15,st15⟩:=bm_made h14;generalize w14.heap.size=mm at h15 st15 ⊢;generalize w14.alloc (.map #[] 0)=w15 at h15 st15 ⊢;have s15:=s14.trans st15;have hwl:=gi.wl hm;refine s_window (C:=bmT mm []*(imT mo fn*(bmT m1 L*E))) h15 (by show bmT mm []*(imT mo fn*(bmT m1 L*(svX s sb y9 d.x*E)))=_;ac_rfl) hm (by omega) fun p16 c16 w16 hr16 hE16 hn16=>⟨_,_,_,rfl,?_⟩;obtain⟨h16,st16⟩:=Q0i (B:=rowT (.slice p16 (d.x.a.ws m).length c16) (d.x.a.ws m)) h15 hE16 ⟨hr16,rfl⟩ hn16;have hc32:=g.c32;refine bm_loop (m:=[]) (C:=imT mo fn*(bmT m1 L*Z)) h16 rfl (fun k hk=>by rw[List.nil_append] at hk;have:=gi.rng m hm k hk;omega) (by omega) fun w17 F17 h17 st17=>?_;rw[List.nil_append] at h17;have s17:=(s15.trans st16).trans st17;have tok:=oT_tok gi hm;refine s_pages (C:=bmT mm (d.x.a.ws m)*(imT mo fn*(bmT m1 L*E))) gi.ok h17 (by show bmT mm (d.x.a.ws m)*(imT mo fn*(bmT m1 L*(svX s sb y9 d.x*E)))=_;ac_rfl) hm fun p18 c18 w18 F18 h18 st18=>⟨_,_,_,rfl,?_⟩;have s18:=s17.trans st18;have hpm:=pag_mem tok;have hpn:=pag_nodup tok;have hpf:=fun k hk=>pag_few gi hm (p:=k) hk;have hlen:(pagO (oT (d.x.a.tn m))).length<=6400:=by
  rw[Q2a];cases h:d.x.a.tn m with
  | none=>exact Nat.zero_le _
  | some t=>exact(gi.tn m t hm h).inv.ok.h.few
 generalize pagO (oT (d.x.a.tn m))=l at h18 hpm hpn hpf hlen ⊢;refine⟨fun f2 i2 w'=>∃k:Nat,i2=(k:Int) /\ f2+k=l.length /\ ∃(fn:Int->Option Int)(F':Nat->Prop),(∀p,(fn p).isSome=true ↔ had m p \/ p ∈ l.take k) /\ (rowT (.slice p18 l.length c18) l*(bmT mm (d.x.a.ws m)*(imT mo fn*(bmT m1 L*Z)))).P w' F' /\ Step (· = 0) W F' w',⟨l.length,0,rfl,rfl,fn,F18,fun p=>by rw[hfn,List.take_zero];simp,h18,s18⟩,?_⟩;rintro f2 jv2 i2 w19 ⟨k,rfl,hf2,fn2,F19,hfn2,h19,s19⟩;refine Q05 (fun q2=>?_) (fun q2=>?_)
 case refine_2=>
  have q2:=of_decide_eq_false q2;have ek:l.take k=l:=List.take_of_length_le (by omega);rw[ek] at hfn2;obtain⟨F20,h20,sub⟩:=Q07 (A:=rowT (.slice p18 l.length c18) l*bmT mm (d.x.a.ws m)) (B:=imT mo fn2*(bmT m1 L*Z)) (re h19 (by ac_rfl));refine⟨f'-1,by omega,m+1,by rw[Q04 (by omega) (by omega)];omega,by omega,fn2,F20,fun p=>?_,h20,s19.sub sub⟩;rw[hfn2];constructor
  ·rintro(⟨j2,hj2,z⟩ | z)
   ·exact⟨j2,by omega,z⟩
   ·exact⟨m,by omega,(hpm p).1 z⟩
  ·rintro⟨j2,hj2,z⟩;by_cases e:j2=m
   ·subst e;exact .inr ((hpm p).2 z)
   ·exact .inl ⟨j2,by omega,z⟩
 have q2:=zzodt q2;have hk:k<l.length:=by omega
 obtain⟨pv,hpv⟩:∃pv,l[k]? = some pv:=⟨_,zzgge hk⟩;have hmem:=zzmog hpv;obtain⟨pn,rfl,hin⟩:=(hpm pv).1 hmem;have hfew:=hpf _ hmem;have hr19:=Q1I (v:=.slice p18 l.length c18) (l:=l) (Y:=bmT mm (d.x.a.ws m)*(imT mo fn2*(bmT m1 L*Z))) h19 rfl;refine⟨by omega,by omega,?_⟩;rw[zztnc];refine(ORow.rowAt Q0C hr19).int hpv ?_;have hno:¬(had m (pn:Int) \/ (pn:Int) ∈ l.take k):=by
  rintro(⟨j2,hj2,n,en,z⟩ | z)
  ·have en:n=pn:=by omega
   subst en;have:=own_one gi (by omega) hm z hin;omega
  ·rw[<-List.take_append_drop k l] at hpn;refine(List.nodup_append.1 hpn).2.2 _ z (pn:Int) ?_ rfl;rw[List.mem_iff_getElem?];exact⟨0,by rw[List.getElem?_drop];exact hpv⟩
 have hf0:(fn2 (pn:Int)).isSome=false:=by
  cases e:(fn2 (pn:Int)).isSome with
  | false=>rfl
  | true=>exact absurd ((hfn2 _).1 e) hno
 have h64:I64w (pn:Int):=i64w (by omega) (by omega);have hlo:=im_look (mp:=mo) (f:=fn2) (C:=rowT (.slice p18 l.length c18) l*(bmT mm (d.x.a.ws m)*(bmT m1 L*Z))) h19 (by ac_rfl) h64;rw[hf0] at hlo;have hcol:=own_col gi hm hin;have ecol:(pn:Int).tmod C0=((pn % s.C:Nat):Int):=by rw[hC];exact(Int.ofNat_tmod _ _).symm
 have hmod:pn % s.C<s.C:=Nat.mod_lt _ (by omega);have hlm:=bm_look (mp:=mm) (l:=d.x.a.ws m) (C:=rowT (.slice p18 l.length c18) l*(imT mo fn2*(bmT m1 L*Z))) h19 (by ac_rfl) (k:=((pn % s.C:Nat):Int)) (i64w (by omega) (by omega));rw[decide_eq_true hcol] at hlm;have hcf:=rC (Q:=rowT (.slice p18 l.length c18) l*(bmT mm (d.x.a.ws m)*(imT mo fn2*bmT m1 L))) (re h19 (by ac_rfl));refine⟨fun w'=>w'=w19,⟨_,false,w19,hlo,Q00 rfl ⟨C0,by rw[Q02];exact Q01 hcf rfl,by omega,true,w19,by rw[ecol];exact hlm,Q00 rfl rfl⟩⟩,?_⟩;rintro _ w20 rfl;obtain⟨w21,F21,hrun,h21,st21⟩:=im_store (mp:=mo) (f:=fn2) (C:=rowT (.slice p18 l.length c18) l*(bmT mm (d.x.a.ws m)*(bmT m1 L*Z))) h19 (by ac_rfl) h64 (m:Int) fun p hp=>by
  rcases(hfn2 p).1 hp with⟨j2,hj2,n,rfl,yy,hy,e⟩ | z
  ·have:=(oT_tok gi (i:=j2) (by omega)).rng yy hy;omega
  ·exact hpf p (List.mem_of_mem_take z)
 refine⟨w21,hrun,f2-1,by omega,k+1,by rw[Q04 (by omega) (by omega)];omega,by omega,_,F21,fun p=>?_,re h21 (by ac_rfl),s19.trans st21⟩;rw[List.take_add_one,hpv];show(updI fn2 (pn:Int) (some (m:Int)) p).isSome=true ↔ had m p \/ p ∈ l.take k++[(pn:Int)];rw[zzmpd,List.mem_singleton];by_cases e:p=(pn:Int)
 ·rw[e,Q0s];simp
 ·rw[Q0q e,hfn2];constructor
  ·rintro(z | z)
   ·exact .inl z
   ·exact .inr (.inl z)
  ·rintro(z | z | z)
   ·exact .inl z
   ·exact .inr z
   ·exact absurd z e
end
end Go.Proofs.YtpnbcakbefplpaaGreatDoor
