/- Texts merged: Cv2 Wc1 Wd1 Wb1 Wo1 Wo2 Ts1 VcL6 WTD. Conditions: none. -/
import Derived.Test.YtpnbcakbefplpaaGreatDoorProg
import Derived.KernelRfl
import Derived.Test.YtpnbcakbefplpaaGreatDoorM06
set_option linter.unusedVariables false
set_option linter.unusedSimpArgs false
namespace Go.Proofs.YtpnbcakbefplpaaGreatDoor
open _root_.Go.Proofs.Tryz (prog)
section
open Go.RowKit Go.Maps Thing
structure CapA (lo:Nat->Int) (a:Ad):Prop where
 tn:∀i t,i<8->a.tn i=some t->CapI (lo i) t
 se:∀i,i<8->lo i<=a.se i
def curO(o:Option Tn)(x:Int):Int:=match o with | some t=>t.nx | none=>x
def curA(a:Ad)(i:Nat):Int:=curO (a.tn i) (a.se i)
section
variable{s:Sv}{A A':Ax}{t:Tn}{a:Ad}{x:Se}{lo:Nat->Int}
theorem Qf5:CapA (fun _=>1) (A0 s):=⟨fun i t _ h=>(by cases h),fun i _=>Int.le_refl _⟩
theorem CapA.upd(c:CapA lo a){m:Nat}{a':Ad}{o:Option Tn}{x:Int}(et:a'.tn=updF a.tn m o)(es:a'.se=updF a.se m x)(ho:∀t,o=some t->CapI (lo m) t)(hx:m<8->lo m<=x):CapA lo a':=by
 refine⟨fun i t hi h=>?_,fun i hi=>?_⟩
 ·rw[et] at h;by_cases e:i=m
  ·subst e;rw[Q0f] at h;exact ho t h
  ·rw[Q0k e] at h;exact c.tn i t hi h
 ·rw[es];by_cases e:i=m
  ·subst e;rw[Q0f];exact hx hi
  ·rw[Q0k e];exact c.se i hi
theorem Qf6{n:Nat}{id se q l:Int}{win:List Int}(h:l<=se):CapI l (T0 n id se q win):=
 ⟨fun j z h=>(by cases h),fun i j z z' _ _ _ _ h=>(by cases h),fun j z h=>(by cases h),fun j z h=>(by cases h),h⟩
theorem QbT(g:AdInv s a)(i k q:Int):(resM s a i k q).a=a \/ ∃m t t',i=((m:Nat):Int) /\ m<8 /\ a.tn m=some t /\ (resM s a i k q).a.tn=updF a.tn m (some t') /\ (resM s a i k q).a.se=a.se /\ t'.S=t.S /\ t'.nx=t.nx /\ t'.ob=t.ob /\ TsIn (fun p=>inPg t.H.T p \/ inPg t'.H.T p) a.A.ts (resM s a i k q).a.A.ts:=by
 unfold resM;by_cases hi:¬(0<=i /\ i<8)
 ·rw[if_pos hi];exact .inl rfl
 rw[if_neg hi];have hi:=Classical.not_not.1 hi;obtain⟨m,rfl⟩:=zzeoz hi.1;rw[zztnc];cases ht:a.tn m with
 | none=>exact .inl rfl
 | some t=>
  dsimp only;by_cases hs:sizE s k q ≠ 0
  ·rw[if_pos hs];exact .inl rfl
  rw[if_neg hs];have hs:=Classical.not_not.1 hs;by_cases hf:fitE t q (k*s.nC) ≠ 0
  ·rw[if_pos hf];exact .inl rfl
  rw[if_neg hf];by_cases hc:a.hs.count false<k.toNat-(a.ws m).length
  ·rw[if_pos hc];exact .inl rfl
  rw[if_neg hc];obtain⟨y1,y2,y3⟩:=Q5K hs;have hm:m<8:=by omega
  have gt:=g.tn m t hm ht;have hw:(((a.grant m (k.toNat-(a.ws m).length)).ws m).take k.toNat).length<=32:=by
   rw[zzlnt];have:=g.c32;omega
  refine .inr ⟨m,t,(rszR s a.A t q (((a.grant m (k.toNat-(a.ws m).length)).ws m).take k.toNat)).t,rfl,hm,ht,rfl,rfl,?_⟩;show _ /\ _ /\ _ /\ TsIn _ a.A.ts (rszR s a.A t q (((a.grant m (k.toNat-(a.ws m).length)).ws m).take k.toNat)).A.ts;generalize((a.grant m (k.toNat-(a.ws m).length)).ws m).take k.toNat=win at hw ⊢;have hfr:=(Q7m gt.inv.ok.h hw).1.fr.tsIn;unfold rszR;split
  ·exact⟨rfl,rfl,rfl,TsIn.refl _ _⟩
  split
  ·exact⟨rfl,rfl,rfl,hfr⟩
  ·exact⟨rfl,rfl,rfl,hfr⟩
structure DoI (lo:Nat->Int) (a:Ad) (T:Int) (h:Int) (a':Ad):Prop where
 cap:CapA lo a'
 cur:∀i,i<8->curA a i<=curA a' i
 hd:h=0 \/ Hd.uN h<curA a' T.toNat
 ts:TsIn (fun p=>inPg (oT (tnA a T)) p \/ inPg (oT (tnA a' T)) p) a.A.ts a'.A.ts
theorem Qfa{m i:Nat}{o:Option Tn}{x:Int}(h:curA a m<=curO o x):curA a i<=curO (updF a.tn m o i) (updF a.se m x i):=by
 by_cases e:i=m
 ·subst e;rw[Q0f,Q0f];exact h
 ·rw[Q0k e,Q0k e];exact Int.le_refl _
theorem Q6b{m i:Nat}{o:Option Tn}(h:curA a m<=curO o (a.se m)):curA a i<=curO (updF a.tn m o i) (a.se i):=by
 by_cases e:i=m
 ·subst e;rw[Q0f];exact h
 ·rw[Q0k e];exact Int.le_refl _
theorem Q3H{a:Ad}{m:Nat}{o:Option Tn}(h:a.tn m=o):curA a m=curO o (a.se m):=by unfold curA;rw[h]
theorem Qdy(g:AdInv s a)(c:CapA lo a){o:Op}(h:chkE o=0):DoI lo a o.T (doA s a o).a.Hd (doA s a o).x:=by
 obtain⟨_,_,h0,h8,_⟩:=Q5d h;obtain⟨K,T,N,M,Hh,D⟩:=o;have h0:0<=T:=h0;have h8:T<8:=h8;obtain⟨m,rfl⟩:=zzeoz h0;have hm:m<8:=by omega
 have refl:∀E:Int,DoI lo a (m:Int) (anE E).Hd a:=fun E=>⟨c,fun _ _=>Int.le_refl _,.inl rfl,TsIn.refl _ _⟩;have hin:∀a':Ad,tnA a' (m:Int)=a'.tn m:=fun a'=>by unfold tnA;rw[if_pos ⟨by omega,by omega⟩,zztnc]
 unfold doA;dsimp only;split
 ·show DoI lo a (m:Int) (anE (creM s a (m:Int) M N).E).Hd (creM s a (m:Int) M N).a;unfold creM;split;· exact refl _
  split;· exact refl _
  rename_i hn;rw[zztnc] at hn;have hnone:a.tn m=none:=by
   cases e:a.tn m with
   | none=>rfl
   | some t=>rw[e] at hn;exact absurd rfl hn
  split;· exact refl _
  split;· exact refl _
  split;· exact refl _
  rw[zztnc];split
  ·have ei:a.se=updF a.se m (a.se m):=(Q0N a.se m).symm;refine⟨c.upd (m:=m) (x:=a.se m) rfl ei (fun t e=>by cases e;exact Qf6 (c.se m hm)) (fun _=>c.se m hm),fun i hi=>Q6b (m:=m) (by rw[Q3H hnone];exact Int.le_refl _),.inl rfl,TsIn.refl _ _⟩
  ·exact⟨⟨c.tn,c.se⟩,fun _ _=>Int.le_refl _,.inl rfl,TsIn.refl _ _⟩
 split
 ·show DoI lo a (m:Int) (anE (resM s a (m:Int) M N).E).Hd (resM s a (m:Int) M N).a;rcases QbT g (m:Int) M N with e | ⟨m',t,t',e1,e2,e3,e4,e5,e6,e7,e8,e9⟩
  ·rw[e];exact refl _
  ·have em:m'=m:=by omega
   subst em;have ei:(resM s a (m':Int) M N).a.se=updF a.se m' (a.se m'):=by rw[e5,Q0N]
   refine⟨c.upd e4 ei (fun x ex=>by cases ex;exact(c.tn m' t hm e3).same e6 e7 fun k hk=>by rw[e8];exact hk) (fun _=>c.se m' hm),fun i hi=>?_,.inl rfl,?_⟩
   ·unfold curA;rw[e4,e5];refine Q6b (m:=m') ?_;rw[Q3H e3];show t.nx<=t'.nx;rw[e7];exact Int.le_refl _
   ·rw[hin,hin,e3,e4,Q0f];exact e9
 split
 ·show DoI lo a (m:Int) (anE (desM s a (m:Int)).E).Hd (desM s a (m:Int)).a;unfold desM;split;· exact refl _
  rw[zztnc];cases ht:a.tn m with
  | none=>exact refl _
  | some t=>
   have gt:=g.tn m t hm ht;have ct:=c.tn m t hm ht;refine⟨c.upd (m:=m) (x:=t.nx) rfl rfl (fun x ex=>by cases ex) (fun _=>ct.lo),fun i hi=>Qfa (m:=m) (by rw[Q3H ht];exact Int.le_refl _),.inl rfl,?_⟩
   ·have hfr:=(Q2I gt.inv.ok.h).1.fr.tsIn;have eH:=(Q2I gt.inv.ok.h).2.1;refine hfr.mono fun p q=>.inl ?_;rw[hin,ht];refine q.elim id fun z=>?_;rw[eH] at z;obtain⟨y,hy,_⟩:=z;cases hy
 rw[zztnc];cases ht:a.tn m with
 | none=>exact refl _
 | some t=>
  have gt:=g.tn m t hm ht;have ct:=c.tn m t hm ht;have ak:=Qdm gt.inv ct (by rw[gt.id];omega) ⟨K,(m:Int),N,M,Hh,D⟩;have at_:=Qdn gt.inv ct ⟨K,(m:Int),N,M,Hh,D⟩;have ei:a.se=updF a.se m (a.se m):=(Q0N a.se m).symm;refine⟨c.upd (m:=m) (x:=a.se m) rfl ei (fun x ex=>by cases ex;exact ak.cap) (fun _=>c.se m hm),fun i hi=>Q6b (m:=m) (by rw[Q3H ht];exact ak.nx),?_,?_⟩
  ·rw[zztnc];show(askM s a.A t ⟨K,(m:Int),N,M,Hh,D⟩).a.Hd=0 \/ _<curO (updF a.tn m _ m) _;rw[Q0f];exact ak.hd
  ·rw[hin,hin,ht];show TsIn (fun p=>inPg t.H.T p \/ inPg (oT (updF a.tn m _ m)) p) _ _;rw[Q0f];exact at_
theorem Qb6(c:CapA lo a):CapA lo (fgt a):=⟨c.tn,c.se⟩
theorem Q8X(g:AdInv s x.a)(c:CapA lo x.a)(o:Op):CapA lo (doM s x o).x.a /\ (∀i,i<8->curA x.a i<=curA (doM s x o).x.a i) /\ ((doM s x o).a.Hd=0 \/ Hd.uN (doM s x o).a.Hd<curA (doM s x o).x.a o.T.toNat) /\
  TsL (fun p=>inPg (oT (tnA x.a o.T)) p \/ inPg (oT (tnA (doM s x o).x.a o.T)) p) (doM s x o).x.tch:=by
 unfold doM;split
 ·exact⟨⟨c.tn,c.se⟩,fun i _=>Int.le_refl _,.inl rfl,fun t h=>(by cases h)⟩
 ·rename_i hc;have h:=Qdy (o:=o) g.fgt (Qb6 c) (by simpa using hc);refine⟨h.cap,h.cur,h.hd,?_⟩;obtain⟨l,e,hl⟩:=h.ts;show TsL _ (doA s (fgt x.a) o).x.A.ts;rw[e];exact hl
theorem Q9K(g:AdInv s a){i:Nat}(hi:i<8){p:Nat}(h:inPg (oT (a.tn i)) p):((p % s.C:Nat):Int) ∈ a.ws i:=by
 cases ht:a.tn i with
 | none=>rw[ht] at h;obtain⟨y,hy,_⟩:=h;cases hy
 | some t=>
  rw[ht] at h;have gt:=g.tn i t hi ht;exact(gt.win _).1 (Q39.1 (Q3R gt.inv.ok.h h))
theorem Qe6(g:AdInv s a){i j:Nat}(hi:i<8)(hj:j<8){p:Nat}(h:inPg (oT (a.tn i)) p)(h':inPg (oT (a.tn j)) p):i=j:=
 Classical.byContradiction fun e=>g.dis i j hi hj e _ (Q9K g hi h) (Q9K g hj h')
theorem QcL(g:AdInv s a){i:Nat}(hi:i<8):TOk (oT (a.tn i)):=by
 cases ht:a.tn i with
 | none=>exact⟨fun x hx=>(by cases hx),List.nodup_nil,List.nodup_nil⟩
 | some t=>exact(g.tn i t hi ht).inv.ok.h.tok
theorem Q9N{T:Tb}(tok:TOk T)(v:Int):v ∈ pagO T ↔ ∃p:Nat,v=(p:Int) /\ inPg T p:=by
 unfold pagO;rw[Q4M,List.mem_map];constructor
 ·rintro⟨k,hk,rfl⟩;obtain⟨y,hy⟩:=zzise.1 (((Q0T tok).2.2 k).1 hk);have e:fnd T k=y.2:=by unfold fnd;rw[hy]
  have hT:=(Q0a hy).1;obtain⟨p,hp⟩:=zzeoz (tok.rng y hT).2.2.1;exact⟨p,by rw[e,hp],y,hT,hp⟩
 ·rintro⟨p,rfl,y,hy,hp⟩;have h:=Q0V tok hy;exact⟨y.1,((Q0T tok).2.2 y.1).2 (by rw[h];rfl),by unfold fnd;rw[h];exact hp⟩
end
end
section
open Go.RowKit Go.Maps Thing
section
variable{s:Sv}{A:Ax}{t:Tn}{a:Ad}{x:Se}
theorem Q6a(p:Bool):∀(hs:List Bool),hs.count p=((List.range hs.length).filter fun c=>hs.getD c (!p) == p).length:=fun hs=>by
 have e:hs=(List.range hs.length).map fun c=>hs.getD c (!p):=by
  apply List.ext_getElem
  ·simp
  ·intro i h1 h2;simp[List.getD_eq_getElem?_getD,h1]
 rw[<-List.countP_eq_length_filter]
 conv=>lhs;rw[e]
 rw[List.count,List.countP_map];rfl
theorem Q6T:∀l:List Bool,l.count true+l.count false=l.length
 | []=>rfl
 | b :: l=>by
  have:=Q6T l;rw[List.count_cons,List.count_cons,List.length_cons];cases b <;> simp <;> omega
def hadL(a:Ad)(n:Nat):List Int:=(List.range n).flatMap a.ws
theorem Q2M{a:Ad}{n:Nat}{c:Int}:c ∈ hadL a n ↔ ∃i,i<n /\ c ∈ a.ws i:=by
 unfold hadL;rw[List.mem_flatMap];constructor
 ·rintro⟨i,hi,hc⟩;exact⟨i,List.mem_range.1 hi,hc⟩
 ·rintro⟨i,hi,hc⟩;exact⟨i,List.mem_range.2 hi,hc⟩
theorem Q5m(g:AdInv s a){l:List Int}(nd:l.Nodup)(hm:∀k,k ∈ l ↔ k ∈ hadL a 8):l.length+a.hs.count false=s.C:=by
 have h1:l.length=a.hs.count true:=by
  rw[Q6a true];have nd2:(((List.range a.hs.length).filter fun c=>a.hs.getD c (!true) == true).map fun c:Nat=>(c:Int)).Nodup:=by
   refine List.nodup_iff_pairwise_ne.2 (List.pairwise_map.2 ?_);refine(List.nodup_iff_pairwise_ne.1 (List.Nodup.sublist List.filter_sublist List.nodup_range)).imp fun {p q} hpq e=>hpq (by omega)
  have hp:l.Perm (((List.range a.hs.length).filter fun c=>a.hs.getD c (!true) == true).map fun c:Nat=>(c:Int)):=by
   refine(List.perm_ext_iff_of_nodup nd nd2).2 fun k=>?_;rw[hm,Q2M,List.mem_map];constructor
   ·rintro⟨i,hi,hc⟩;obtain⟨h0,hC⟩:=g.rng i hi k hc;obtain⟨m,rfl⟩:=zzeoz h0;have hh:=(g.has m).2 ⟨i,hi,hc⟩;refine⟨m,List.mem_filter.2 ⟨List.mem_range.2 (zzgsi.1 hh).1,?_⟩,rfl⟩;rw[List.getD_eq_getElem?_getD,hh];rfl
   ·rintro⟨m,hmm,rfl⟩;obtain⟨q1,q2⟩:=List.mem_filter.1 hmm;have hlt:=List.mem_range.1 q1;have hh:a.hs[m]? = some true:=by
     rw[zzgge hlt];rw[List.getD_eq_getElem?_getD,zzgge hlt] at q2;simpa using q2
    exact(g.has m).1 hh
  rw[hp.length_eq,List.length_map]
 have h2:a.hs.count true+a.hs.count false=a.hs.length:=Q6T a.hs;have:=g.hl;omega
end
end
section
open Go.RowKit Go.Maps Thing
def gvnL(ops:List Op)(said:List An)(id:Int):List Int:=(ops.zip said).filterMap fun p=>if p.2.Hd ≠ 0 /\ p.1.T=id then some p.2.Hd else none
section
variable{s:Sv}{A:Ax}{t:Tn}{a:Ad}{x:Se}
structure HdI (s:Sv) (n:Rn):Prop where
 cap:CapA (fun _=>1) n.x.a
 hd:∀p ∈ n.ops.zip n.said,p.2.Hd ≠ 0->0<=p.1.T /\ p.1.T<8 /\ Hd.uN p.2.Hd<curA n.x.a p.1.T.toNat
theorem QdJ{n:Rn}{k:Nat}(g:RnInv s n k)(h:HdI s n){st:Stp}(ok:StpOk st):HdI s (runS s n st):=by
 have hu:=Q4l g.g ok;have hd:=Q6W g.ad hu;obtain⟨c1,c2,c3,_⟩:=Q8X g.ad h.cap (hOf n.g st);refine⟨c1,fun p hp h0=>?_⟩;have hp:p ∈ (n.ops++[hOf n.g st]).zip (n.said++[(doM s n.x (hOf n.g st)).a]):=hp;rw[List.zip_append (by rw[g.ol,g.sl])] at hp;show 0<=p.1.T /\ p.1.T<8 /\ Hd.uN p.2.Hd<curA (doM s n.x (hOf n.g st)).x.a p.1.T.toNat
 rcases zzmpd.1 hp with hp | hp
 ·obtain⟨q1,q2,q3⟩:=h.hd p hp h0;exact⟨q1,q2,Int.lt_of_lt_of_le q3 (c2 _ (by omega))⟩
 ·have:p=(hOf n.g st,(doM s n.x (hOf n.g st)).a):=by simpa using hp
  subst this;obtain⟨q1,q2⟩:=hd.2 h0;exact⟨q1,q2,c3.resolve_left h0⟩
theorem Q9f:∀(l:List Stp) {n:Rn} {k:Nat},RnInv s n k->HdI s n->(∀x ∈ l,StpOk x)->HdI s (l.foldl (runS s) n)
 | [],n,k,g,h,_=>h
 | x :: l,n,k,g,h,ok=>Q9f l (Q2U g (ok x (by simp))) (QdJ g h (ok x (by simp))) fun y hy=>ok y (by simp[hy])
theorem QfI{P0 C0:Int}(g:SvOk s P0 C0){l:List Stp}(h:∀x ∈ l,StpOk x):HdI s (runL s l):=
 Q9f l (run0 g) ⟨Qf5,fun p hp=>(by cases hp)⟩ h
theorem Qfn{n:Rn}(h:HdI s n){id:Nat}(hid:id<8):∀y ∈ gvnL n.ops n.said id,Hd.uN y<curA n.x.a id:=fun y hy=>by
 obtain⟨p,hp,e⟩:=List.mem_filterMap.1 hy;split at e
 ·rename_i q;cases e;have:=(h.hd p hp q.1).2.2;rw[q.2,zztnc] at this;exact this
 ·cases e
def desO(id:Nat):Op:=⟨3,(id:Int),0,0,0,ByteArray.mk #[]⟩
def usbO(id:Nat)(h:Int):Op:=⟨8,(id:Int),0,0,h,ByteArray.mk #[]⟩
theorem Q2l(g:AdInv s a):(hadL a 8).Nodup:=
 Q1D a.ws 8 (fun i hi=>g.nd i hi) fun i j c hi hj h1 h2=>Classical.byContradiction fun e=>g.dis i j hi hj e c h1 h2
structure Gone (s:Sv) (x:Se) (id:Nat) (d:Dr):Prop where
 e1:(x.a.tn id).isSome=true->d.a.E=0
 e0:(x.a.tn id).isSome=false->d.a.E=6
 tn:d.x.a.tn id=none
 ws:d.x.a.ws id=[]
 free:d.x.a.hs.count false=x.a.hs.count false+(x.a.ws id).length
 cap:CapA (fun i=>if i=id then curA x.a id else 1) d.x.a
 pg:∀p,inPg (oT (x.a.tn id)) p->(∀i,i<8->¬inPg (oT (d.x.a.tn i)) p) /\ ∀j,p*512<=j->j<p*512+512->d.x.a.A.bs[j]? = some 0
theorem Qbg(g:AdInv s x.a)(c:CapA (fun _=>1) x.a){id:Nat}(hid:id<8):Gone s x id (doM s x (desO id)):=by
 have g':=Q1v (x:=x) g (desO id);have hc:chkE (desO id)=0:=by
  unfold chkE;rw[if_neg];show ¬((3:Int)<1 \/ (3:Int)>11 \/ (id:Int)<0 \/ (id:Int)>=8 \/ ((0:Nat):Int)>8192 \/ (((0:Nat):Int)>0 /\ (3:Int) ≠ 10));omega
 have ed:doM s x (desO id)=⟨{(doA s (fgt x.a) (desO id)).a with C:=chgO (doA s (fgt x.a) (desO id)).x ((desO id).T.toNat)},⟨(doA s (fgt x.a) (desO id)).x,x.done++[desO id],(doA s (fgt x.a) (desO id)).x.A.ts⟩⟩:=by
  unfold doM;rw[if_neg (not_not_intro hc)]
 have ea:doA s (fgt x.a) (desO id)=⟨anE (desM s (fgt x.a) (id:Int)).E,(desM s (fgt x.a) (id:Int)).a⟩:=by
  unfold doA;rw[if_neg (show ¬(desO id).K=1 from by show ¬(3:Int)=1;omega),if_neg (show ¬(desO id).K=2 from by show ¬(3:Int)=2;omega),if_pos (show(desO id).K=3 from rfl)];rfl
 have e1:(doM s x (desO id)).x.a=(desM s (fgt x.a) (id:Int)).a:=by rw[ed];show(doA s (fgt x.a) (desO id)).x=_;rw[ea]
 have e2:(doM s x (desO id)).a.E=(desM s (fgt x.a) (id:Int)).E:=by rw[ed];show(doA s (fgt x.a) (desO id)).a.E=_;rw[ea] <;> rfl
 rw[e1] at g';have es:∀y:Option Tn,y=x.a.tn id->(desM s (fgt x.a) (id:Int))=(match y with | none=>⟨6,fgt x.a⟩ | some t=>⟨0,{A:=drpA s (fgt x.a).A t,hs:=gvH x.a.hs (x.a.ws id),ws:=updW x.a.ws id [],tn:=updF x.a.tn id none,se:=updF x.a.se id t.nx}⟩:Ar'):=fun y hy=>by
  subst hy;unfold desM;rw[if_neg (not_not_intro ⟨by omega,by omega⟩),zztnc];show(match x.a.tn id with | none=>_ | some t=>_:Ar')=_;cases x.a.tn id <;> rfl
 have es:=es _ rfl;have capE:∀(a':Ad),a'.tn id=none->(∀i t,i<8->i ≠ id->a'.tn i=some t->x.a.tn i=some t)->a'.se id=curA x.a id->(∀i,i<8->i ≠ id->a'.se i=x.a.se i)->CapA (fun i=>if i=id then curA x.a id else 1) a':=fun a' h1 h2 h3 h4=>by
  refine⟨fun i t hi h=>?_,fun i hi=>?_⟩
  ·by_cases e:i=id
   ·rw[e,h1] at h;cases h
   ·show CapI (if i=id then _ else _) t;rw[if_neg e];exact c.tn i t hi (h2 i t hi e h)
  ·show(if i=id then _ else _)<=_;by_cases e:i=id
   ·rw[if_pos e,e,h3];exact Int.le_refl _
   ·rw[if_neg e,h4 i hi e];exact c.se i hi
 cases ht:x.a.tn id with
 | none=>
  rw[ht] at es;have es:desM s (fgt x.a) (id:Int)=⟨6,fgt x.a⟩:=es;have hw:x.a.ws id=[]:=g.nil id hid ht;have hcur:curA x.a id=x.a.se id:=Q3H ht;refine⟨fun h=>(by rw[ht] at h;cases h),fun _=>(by rw[e2,es]),(by rw[e1,es];exact ht),(by rw[e1,es];exact hw),(by rw[e1,es,hw];rfl),(by rw[e1,es];exact capE _ ht (fun i t _ _ h=>h) hcur.symm fun i _ _=>rfl),fun p hp=>?_⟩;rw[ht] at hp;obtain⟨y,hy,_⟩:=hp;cases hy
 | some t=>
  rw[ht] at es;have es:desM s (fgt x.a) (id:Int)=⟨0,{A:=drpA s (fgt x.a).A t,hs:=gvH x.a.hs (x.a.ws id),ws:=updW x.a.ws id [],tn:=updF x.a.tn id none,se:=updF x.a.se id t.nx}⟩:=es;have gf:AdInv s (fgt x.a):=g.fgt;have gt:=gf.tn id t hid ht;have hcur:curA x.a id=t.nx:=Q3H ht;obtain⟨_,_,hz⟩:=Q2I gt.inv.ok.h;rw[es] at g';refine⟨fun _=>(by rw[e2,es]),fun h=>(by rw[ht] at h;cases h),(by rw[e1,es];exact Q0f _ _ _),(by rw[e1,es];exact if_pos rfl),?_,?_,fun p hp=>?_⟩
  ·rw[e1,es];show(gvH x.a.hs (x.a.ws id)).count false=_;have h1:=Q5m g (Q2l g) (fun k=>Iff.rfl);have h2:=Q5m g' (l:=(hadL x.a 8).filter fun k=>!(x.a.ws id).contains k) ((Q2l g).filter _) fun k=>by
    rw[List.mem_filter,Q2M,Q2M];constructor
    ·rintro⟨⟨i,hi,hk⟩,hn⟩;have hn:k ∉ x.a.ws id:=by simpa using hn
     refine⟨i,hi,?_⟩;show k ∈ updW x.a.ws id [] i;have e:i ≠ id:=fun e=>hn (by rw[<-e];exact hk);rw[show updW x.a.ws id [] i=x.a.ws i from if_neg e];exact hk
    ·rintro⟨i,hi,hk⟩;have hk:k ∈ updW x.a.ws id [] i:=hk;by_cases e:i=id
     ·rw[show updW x.a.ws id [] i=[] from if_pos e] at hk;cases hk
     ·rw[show updW x.a.ws id [] i=x.a.ws i from if_neg e] at hk;refine⟨⟨i,hi,hk⟩,?_⟩;have:=g.dis i id hi hid e k hk;simpa using this
   have h2:((hadL x.a 8).filter fun k=>!(x.a.ws id).contains k).length+(gvH x.a.hs (x.a.ws id)).count false=s.C:=h2;have h3:((hadL x.a 8).filter fun k=>(x.a.ws id).contains k).length=(x.a.ws id).length:=by
    refine List.Perm.length_eq ((List.perm_ext_iff_of_nodup ((Q2l g).filter _) (g.nd id hid)).2 fun k=>?_);rw[List.mem_filter,Q2M];constructor
    ·rintro⟨_,h⟩;simpa using h
    ·intro h;exact⟨⟨id,hid,h⟩,by simpa using h⟩
   have h4:(hadL x.a 8).length=((hadL x.a 8).filter fun k=>(x.a.ws id).contains k).length+((hadL x.a 8).filter fun k=>!(x.a.ws id).contains k).length:=by
    rw[<-List.countP_eq_length_filter,<-List.countP_eq_length_filter];have:=List.length_eq_countP_add_countP (p:=fun k=>(x.a.ws id).contains k) (l:=hadL x.a 8);rw[this];congr 1;refine List.countP_congr fun k _=>?_;simp
   omega
  ·rw[e1,es];refine capE _ (Q0f _ _ _) (fun i t' _ e h=>?_) ?_ fun i _ e=>Q0k e
   ·have h:updF x.a.tn id none i=some t':=h;rw[Q0k e] at h;exact h
   ·show updF x.a.se id t.nx id=_;rw[Q0f,hcur]
  ·rw[ht] at hp;rw[e1,es];refine⟨fun i hi h=>?_,hz p hp⟩;have h:inPg (oT (updF x.a.tn id none i)) p:=h;by_cases e:i=id
   ·rw[e,Q0f] at h;obtain⟨y,hy,_⟩:=h;cases hy
   ·rw[Q0k e] at h;exact e (Qe6 g hi hid h (by rw[ht];exact hp))
theorem Qe3{lo:Nat->Int}(c:CapA lo x.a){id:Nat}(hid:id<8){h:Int}(hl:Hd.uN h<lo id):(doM s x (usbO id h)).a.E=5 \/ (doM s x (usbO id h)).a.E=6:=by
 have hc:chkE (usbO id h)=0:=by
  unfold chkE;rw[if_neg];show ¬((8:Int)<1 \/ (8:Int)>11 \/ (id:Int)<0 \/ (id:Int)>=8 \/ ((0:Nat):Int)>8192 \/ (((0:Nat):Int)>0 /\ (8:Int) ≠ 10));omega
 unfold doM;rw[if_neg (not_not_intro hc)];show(doA s (fgt x.a) (usbO id h)).a.E=5 \/ (doA s (fgt x.a) (usbO id h)).a.E=6;have k:(usbO id h).K=8:=rfl;unfold doA;rw[if_neg (by omega),if_neg (by omega),if_neg (by omega)];have eT:(usbO id h).T.toNat=id:=zztnc id;rw[eT];cases ht:(fgt x.a).tn id with
 | none=>exact .inr rfl
 | some t=>
  left;show(askM s (fgt x.a).A t (usbO id h)).a.E=5;unfold askM;rw[if_neg (by omega),if_neg (by omega),if_neg (by omega),if_neg (by omega),if_pos k];show(usbR t h).E=5;unfold usbR;cases hf:fnO t.id t.S h 0 with
  | none=>rfl
  | some b=>
   exfalso;obtain⟨z,hz,_⟩:=Q6f hf;obtain⟨_,_,hS,_,hN⟩:=Cp.findS_in hz;have:=(c.tn id t hid ht).sr _ z hS;omega
end
end
set_option maxRecDepth 20000
section
open Go.RowKit Go.Maps Thing
theorem QaK{W:World}(tab:Sf.Tab W):∃o,(tabT o).P W (· = 0):=by
 have h:=tab 0 _ rfl;cases e:W.heap[0]? with
 | none=>unfold World.cell? at h;rw[e] at h;cases h
 | some o=>exact⟨o,tab,e,rfl⟩
abbrev cfO(P0 C0:Int):Obj:=.cells #[.int .i64 P0,.int .i64 C0] 23 (0,0)
theorem Qex{o:Obj}{W w:World}{F:Nat->Prop}{C:Thing}(h0:(tabT o).P W (· = 0))(h:(tabT o*C).P w F)(st:Step (· = 0) W F w) :
  CS 11 #[] w fun(v:Value) (w':World)=>∃(b:Bool),v=.bool b /\ Yes W (.bool b) w':=by
 obtain⟨F1,h1,sub⟩:=Q0e (A:=tabT o) (Y:=C) h rfl;refine Qew h1 fun w' F' h2 s2=>⟨true,rfl,rfl,?_⟩;exact Q86 h0 h2 ((st.sub sub).trans s2)
theorem Qaq{s:Sv}{sb:Nat}{y:Sy}{x:Se}{o:Obj}{W w:World}{F:Nat->Prop}{X C:Thing}(h0:(tabT o).P W (· = 0))(ho:s.o=o)(h:X.P w F)(e:X=svX s sb y x*C)(st:Step (· = 0) W F w) :
  CS 11 #[] w fun(v:Value) (w':World)=>∃(b:Bool),v=.bool b /\ Yes W (.bool b) w':=by
 subst ho;exact Qex (C:=svTb s sb y x*C) h0 (re h (by rw[e,QcZ,Thing.mul_assoc])) st
end
set_option maxRecDepth 20000
section
open Go.RowKit Go.Maps Thing
abbrev iC(L:List Int):List Value:=L.map fun x=>.int .i64 x
abbrev iO(L:List Int):Obj:=.cells (iC L).toArray 3 (0,0)
theorem Q9w(n:Nat):madeCells #[Value.int .i64 0] (n*1)=(iC (List.replicate n 0)).toArray:=by
 have h:(madeCells #[Value.int .i64 0] (n*1)).toList=iC (List.replicate n 0):=by
  apply List.ext_getElem?;intro j;by_cases hj:j<n
  ·simp[madeCells,hj,Nat.mod_one]
  ·simp[madeCells,hj]
 rw[<-h]
section
variable{w:World}{F:Nat->Prop}{X C:Thing}{R:VW}{b:Nat}{L:List Int}
theorem Qfv{i:Nat}{v:Int}{K:World->Prop}(h:X.P w F)(e:X=blk b (iO L)*C)(hi:i<L.length)(k:∀w1 F',(blk b (iO (L.set i v))*C).P w1 F'->Step F w F' w1->K w1) :
  WrC w ((zA b).add i) 1 /\ ∀w1,w1=wr w ((zA b).add i) [.int .i64 v]->K w1:=by
 rw[Q02,Nat.zero_add];refine Q0F (vs:=[.int .i64 v]) h e (by simp;omega) fun w1 F' p s=>k w1 F' ?_ s;have e:setAt (iC L).toArray i [.int .i64 v]=(iC (L.set i v)).toArray:=by
  show(iC L).toArray.setIfInBounds i _=_;simp[iC,List.map_set]
 rw[e] at p;exact p
theorem Qfu(h:X.P w F)(e:X=blk b (iO L)*C)(hm:L.length<=100000):(rowT (.slice (some ⟨b,0,none⟩) L.length L.length) L*C).P w F:=by
 subst e;obtain⟨F1,F2,⟨h1,rfl⟩,h2,d,rfl⟩:=h;have ef:(L.flatMap intF)=iC L:=Q0D L;have h3:ORow w 3 1 intF (.slice (some ⟨b,0,none⟩) L.length L.length) L:=by
  refine⟨Q1W Q0x _,.inr ⟨b,L.length,(iC L).toArray,rfl,Nat.zero_le _,h1,Nat.le_refl _,?_,?_,?_⟩⟩
  ·simp only[maxLen];omega
  ·simp
  ·rw[ef];exact List.take_of_length_le (by simp)
 exact⟨_,F2,⟨h3,rfl⟩,h2,fun j hj=>d j (by simpa [Value.ownBlock,eq_comm] using hj),by funext j;simp[Value.ownBlock,eq_comm]⟩
end
section
variable{s:Sv}{sb:Nat}{y:Sy}{x:Se}{w:World}{F:Nat->Prop}{X C:Thing}{R:VW}
def NoOwn(a:Ad)(n:Nat)(L:List Int):Prop:=L.length=n /\ ∀q,q<n->(∀i,i<8->¬inPg (oT (a.tn i)) q)->L[q]? = some (-1)
theorem Qc3{P0 C0:Int}(hcfg:Cl.CfgOk P0 C0)(hs:SvOk s P0 C0)(g:AdInv s x.a)(h:X.P w F)(e:X=svX s sb y x*C)
  (r:∀p c L w' F',NoOwn x.a (s.nC*s.C) L->(rowT (.slice p L.length c) L*X).P w' F'->Step F w F' w'->R (.slice p L.length c) w') :
  CS 31 #[.agg #[.int .i64 P0,.int .i64 C0],zP sb] w R:=by
 subst e;have hP:=hs.p;have p4:=hs.p4;generalize hn:s.nC*s.C=n at hP p4 r;constructor;refine vc74.ok ?_;unfold vc74;refine Q0m h fun n0 w1 F1 h1 s1 _=>Q00 rfl ?_;have h1:(blk n0 (cfO P0 C0)*(svX s sb y x*C)).P w1 F1:=h1;have rc:∀ {w':World} {F':Nat->Prop} {X Z:Thing},X.P w' F'->X=blk n0 (cfO P0 C0)*Z->w'.heap[n0]? = some (cfO P0 C0):=fun p e=>Q0c p e;refine⟨_,_,Q08 (vs:=[.int .i64 P0,.int .i64 C0]) (rc h1 rfl),.of (Cl.check_any w1 P0 C0) ?_⟩;rintro v w2 ⟨rfl,hE⟩;rw[if_pos hcfg];have h2:=Thing.grow h1 hE;have s2:=s1.trans (Step.ext hE);refine⟨_,rfl,Q00 rfl ⟨P0,by rw[Q02];exact Q01 (rc h2 rfl) rfl,by omega,by omega,by omega,by omega,?_⟩⟩;rw[hP,zztnc,Q9w];refine Q0m h2 fun n8 w3 F3 h3 s3 _=>?_;have h3:(blk n8 (iO (List.replicate n 0))*(blk n0 (cfO P0 C0)*(svX s sb y x*C))).P w3 F3:=h3;refine⟨fun f i w'=>∃j:Nat,i=(j:Int) /\ f+j=n /\ ∃L F',L.length=n /\ (∀q,q<j->L[q]? = some (-1:Int)) /\ (blk n8 (iO L)*(blk n0 (cfO P0 C0)*(svX s sb y x*C))).P w' F' /\ Step F w F' w',⟨n,0,rfl,rfl,_,F3,zzlrp,fun q hq=>absurd hq (Nat.not_lt_zero q),h3,s2.trans s3⟩,?_⟩;rintro f jv i w4 ⟨j,rfl,hf,L,F4,hL,hq4,h4,s4⟩;refine Q05 (fun q=>?pos) (fun q=>?neg)
 case pos=>
  have q:=zzodt q;refine⟨by omega,by omega,?_⟩;rw[zztnc];refine Qfv h4 rfl (by omega) fun w5 F5 h5 s5=>⟨f-1,by omega,j+1,by rw[Q03 (by omega) (by omega)];omega,by omega,_,F5,by rw[List.length_set];exact hL,fun q hq=>?_,h5,s4.trans s5⟩;rw[zzgst];by_cases e:j=q
  ·rw[if_pos e,if_pos (by omega)]
  ·rw[if_neg e];exact hq4 q (by omega)
 have q:=of_decide_eq_false q;have n4:NoOwn x.a n L:=⟨hL,fun p hp _=>hq4 p (by omega)⟩;clear hq4 hL h3 s3 h2 s2 hE h1 s1;refine⟨fun f i w'=>i=(f:Int)-1 /\ f<=8 /\ ∃L F',NoOwn x.a n L /\ (blk n8 (iO L)*(blk n0 (cfO P0 C0)*(svX s sb y x*C))).P w' F' /\ Step F w F' w',⟨8,rfl,Nat.le_refl _,L,F4,n4,h4,s4⟩,?_⟩;rintro f2 jv2 i2 w5 ⟨rfl,hf2,L,F5,n5,h5,s5⟩;refine Q05 (fun q=>?pos2) (fun q=>?neg2)
 case neg2=>
  have h6:=Qfu h5 rfl (by rw[n5.1];omega);obtain⟨F7,h7,sub⟩:=Q07 (A:=blk n0 (cfO P0 C0)) (B:=rowT (.slice (some ⟨n8,0,none⟩) L.length L.length) L*(svX s sb y x*C)) (re h6 (sw4 _ _ _));have:=r _ _ L w5 F7 n5 h7 (s5.sub sub);rw[n5.1] at this;exact this
 have q:=zzodt q;obtain⟨m,rfl⟩:∃m,f2=m+1:=⟨f2-1,by omega⟩;have em:((m+1:Nat):Int)-1=(m:Int):=by omega
 rw[em];refine Q6u (C:=blk n8 (iO L)*(blk n0 (cfO P0 C0)*C)) g.ok h5 (by ac_rfl) (i:=m) (by omega) fun p6 c6 w6 F6 h6 s6=>⟨_,_,_,rfl,?_⟩;have hpl:=Q2R (oT (x.a.tn m));have hown:∀k ∈ pagO (oT (x.a.tn m)),∃p:Nat,k=(p:Int) /\ inPg (oT (x.a.tn m)) p:=fun k hk=>(Q9N (QcL g (by omega)) k).1 hk;have hlen:(pagO (oT (x.a.tn m))).length<=1000000:=by
  rw[hpl];cases h:x.a.tn m with
  | none=>exact Nat.zero_le _
  | some t=>have:=(g.tn m t (by omega) h).inv.ok.h.few;show t.H.T.length<=_;omega
 generalize pagO (oT (x.a.tn m))=pl at *
 refine⟨fun f i w'=>∃j:Nat,i=(j:Int) /\ f+j=pl.length /\ ∃L F',NoOwn x.a n L /\ (rowT (.slice p6 pl.length c6) pl*(blk n8 (iO L)*(blk n0 (cfO P0 C0)*(svX s sb y x*C)))).P w' F' /\ Step F w F' w',⟨pl.length,0,rfl,rfl,L,F6,n5,h6,s5.trans s6⟩,?_⟩;rintro f3 jv3 i3 w7 ⟨j3,rfl,hf3,L7,F7,n7,h7,s7⟩;refine Q05 (fun q3=>?pos3) (fun q3=>?neg3)
 case neg3=>
  obtain⟨F8,h8,sub⟩:=Q07 h7;exact⟨m,by omega,by rw[Q03 (by omega) (by omega)],by omega,L7,F8,n7,h8,s7.sub sub⟩
 have q3:=zzodt q3;obtain⟨k,hk⟩:∃k,pl[j3]? = some k:=⟨_,zzgge (by omega)⟩;obtain⟨pk,rfl,ho⟩:=hown k (zzmog hk);have hrow:ORow w7 3 1 intF (.slice p6 pl.length c6) pl:=by
  obtain⟨_,_,⟨a,_⟩,_⟩:=h7;exact a
 obtain⟨a,ha,hc⟩:=hrow.cells Q0x hk;have hc:=hc 0 _ rfl;rw[Addr.add_add,Nat.mul_one,Nat.add_zero] at hc;subst ha;refine⟨by omega,by omega,?_⟩;rw[zztnc];refine⟨_,hc,P0,by rw[Q02];exact Q01 (rc (Z:=rowT (.slice (some a) pl.length c6) pl*(blk n8 (iO L7)*(svX s sb y x*C))) h7 (by ac_rfl)) rfl,Q05 (fun q4=>?_) (fun q4=>⟨f3-1,by omega,j3+1,by rw[Q03 (by omega) (by omega)];omega,by omega,L7,F7,n7,h7,s7⟩)⟩;have q4:=zzodt q4;refine⟨by omega,by omega,?_⟩;rw[zztnc];refine Qfv (C:=rowT (.slice (some a) pl.length c6) pl*(blk n0 (cfO P0 C0)*(svX s sb y x*C))) h7 (sw4 _ _ _) (by rw[n7.1];omega) fun w8 F8 h8 s8=>⟨f3-1,by omega,j3+1,by rw[Q03 (by omega) (by omega)];omega,by omega,_,F8,⟨by rw[List.length_set];exact n7.1,fun qq hqq hno=>?_⟩,re h8 (sw4 _ _ _),s7.trans s8⟩;rw[zzgst,if_neg]
 ·exact n7.2 qq hqq hno
 ·intro e;subst e;exact hno m (by omega) ho
end
end
set_option maxRecDepth 20000
section
open Go.RowKit Go.Maps Thing
section
variable{s:Sv}{sb:Nat}{y:Sy}{x:Se}{w:World}{F:Nat->Prop}{X C:Thing}{R:VW}{a:Ad}{n:Rn}
theorem AdInv.aTs(g:AdInv s a)(ts:List Tch):AdInv s (aTs a ts):=
 ⟨fun i t hi h=>⟨(g.tn i t hi h).inv.tsF ts,(g.tn i t hi h).id,(g.tn i t hi h).win,(g.tn i t hi h).wn,(g.tn i t hi h).lp⟩,g.n1,g.c1,g.c32,g.p4,g.sn,g.bl,g.cl,g.hl,g.se,g.nil,g.nd,g.rng,g.dis,g.has,g.all⟩
theorem CapA.aTs{lo:Nat->Int}(c:CapA lo a)(ts:List Tch):CapA lo (aTs a ts):=⟨c.tn,c.se⟩
theorem Q5J:∀(l:List Stp) {n:Rn} {k:Nat},RnInv s n k->(∀a ∈ n.said,Hd.U64 a.Hd)->(∀x ∈ l,StpOk x)->∀a ∈ (l.foldl (runS s) n).said,Hd.U64 a.Hd
 | [],n,k,_,h,_=>h
 | x :: l,n,k,g,h,ok=>Q5J l (Q2U g (ok x (by simp))) (fun a ha=>by
   have ha:a ∈ n.said++[(doM s n.x (hOf n.g x)).a]:=ha;rcases zzmpd.1 ha with ha | ha
   ·exact h a ha
   ·rw[List.mem_singleton.1 ha];exact(Q6W g.ad (Q4l g.g (ok x (by simp)))).1) fun y hy=>ok y (by simp[hy])
theorem QbX{P0 C0:Int}(g:SvOk s P0 C0){l:List Stp}(h:∀x ∈ l,StpOk x):∀a ∈ (runL s l).said,Hd.U64 a.Hd:=
 Q5J l (run0 g) (fun a ha=>(by cases ha)) h
def gvnJ(ops:List Op)(said:List An)(id:Int)(j:Nat):List Int:=((ops.zip said).take j).filterMap fun p=>if p.2.Hd ≠ 0 /\ p.1.T=id then some p.2.Hd else none
theorem Q9d{ops:List Op}{said:List An}{id:Int}{j:Nat}{o:Op}{a:An}(h1:ops[j]? = some o)(h2:said[j]? = some a) :
  gvnJ ops said id (j+1)=gvnJ ops said id j++if a.Hd ≠ 0 /\ o.T=id then [a.Hd] else []:=by
 unfold gvnJ;have hz:(ops.zip said)[j]? = some (o,a):=by rw[List.getElem?_zip_eq_some];exact⟨h1,h2⟩
 rw[List.take_add_one,hz,List.filterMap_append];congr 1;simp only[Option.toList_some,List.filterMap_cons,List.filterMap_nil];split
 ·rename_i e;split at e
  ·cases e
  ·rename_i q;rw[if_neg q]
 ·rename_i e;split at e
  ·rename_i q;cases e;rw[if_pos q]
  ·cases e
theorem Qbm{ops:List Op}{said:List An}{id:Int}{j:Nat}(h:ops.length<=j):gvnJ ops said id j=gvnL ops said id:=by
 unfold gvnJ gvnL;rw[List.take_of_length_le];rw[List.length_zip];omega
theorem Q7a(ops:List Op)(said:List An)(id:Int)(j:Nat):(gvnJ ops said id j).length<=j:=by
 unfold gvnJ;refine Nat.le_trans (List.length_filterMap_le _ _) ?_;rw[zzlnt];omega
theorem QdG{ops:List Op}{said:List An}{id:Int}(h:∀a ∈ said,Hd.U64 a.Hd):∀y ∈ gvnL ops said id,Hd.U64 y:=fun y hy=>by
 obtain⟨p,hp,e⟩:=List.mem_filterMap.1 hy;split at e
 ·cases e;exact h _ (List.of_mem_zip hp).2
 ·cases e
theorem QeU{p:Option Addr}{n c k i:Nat}{l:List Int}{v:Int}(h:ORow w 33 1 u64F (.slice p n c) l)(hn:n=l.length)(hc:n<=c)(hi:l[k+i]? = some v):∃a,subA p k c 1=some a /\ w.cell? (a.add i)=some (.int .u64 v):=by
 obtain⟨a,rfl,hcell⟩:=Q7V h hi;have hlt:k+i<l.length:=(zzgsi.1 hi).1;refine⟨a.add (k*1),?_,?_⟩
 ·unfold subA;rw[if_neg (by omega)];rfl
 ·rw[Addr.add_add,Nat.mul_one];exact hcell
theorem QfV{id:Nat}(hid:id<8)(g:AdInv s x.a)(tn:x.a.tn id=none)(ws:x.a.ws id=[])(h:X.P w F)(e:X=svX s sb y x*C){i70:Int}(hfree:((x.a.hs.count false:Nat):Int)=i70){K:World->Prop}(k:∀w' F',X.P w' F'->Step F w F' w'->K w') :
  CS 17 #[zP sb,.int .i64 (id:Int)] w fun v93 w94=>∃b95:Bool,v93=.bool b95 /\ ifB b95 (R (.bool false) w94) (CS 23 #[zP sb,.int .i64 (id:Int)] w94 fun v96 w97=>∃i98:Int,v96=.int .i64 i98 /\ ifB (i98 != (0:Int)) (R (.bool false) w97) (CS 15 #[zP sb,.int .i64 (id:Int)] w97 fun v99 w100=>∃(p101:Option Addr)(n102 n103:Nat),v99=.slice p101 n102 n103 /\ ifB ((↑n102:Int) != (0:Int)) (R (.bool false) w100) (CS 13 #[zP sb,.int .i64 (id:Int)] w100 fun v104 w105=>∃(p106:Option Addr)(n107 n108:Nat),v104=.slice p106 n107 n108 /\ ifB ((↑n107:Int) != (0:Int)) (R (.bool false) w105) (CS 12 #[zP sb] w105 fun v109 w110=>∃i111:Int,v109=.int .i64 i111 /\ ifB (i111 != i70) (R (.bool false) w110) (K w110))))):=by
 refine QcY h e hid ⟨_,rfl,Q00 (by rw[tn];rfl) ?_⟩;have hc:chgO x.a id=0:=by unfold chgO;rw[tn]
 refine Q5I g.ok h e hid ⟨_,rfl,Q00 (by rw[hc];rfl) ?_⟩;have e0:pagO (oT none)=[]:=List.eq_nil_of_length_eq_zero (Q2R (oT none));refine Q6u g.ok h e hid fun p c w1 F1 h1 s1=>⟨_,_,_,rfl,Q00 (by rw[tn,e0];rfl) ?_⟩;obtain⟨F2,h2,sub⟩:=Q07 h1;refine Q7J h2 e hid (by rw[ws];exact Nat.zero_le _) fun p2 c2 w3 _ hE _=>⟨_,_,_,rfl,Q00 (by rw[ws];rfl) ?_⟩;have h3:=Thing.grow h2 hE;refine QcX h3 e ⟨_,rfl,Q00 (by rw[hfree];simp) (k w3 F2 h3 ((s1.sub sub).trans (Step.ext hE)))⟩
end
end
set_option maxRecDepth 20000
section
open Go.RowKit Go.Maps Thing
section
variable{s:Sv}{n:Rn}{k:Nat}{x:Se}
theorem Qfc(g:AdInv s x.a)(o:Op):(doM s x o).x.a.A.ts.length<=10000000:=by
 unfold doM;split
 ·exact Nat.zero_le _
 ·rename_i hc;have:=Q8W (o:=o) g.fgt.ok (by simpa using hc);have e:(fgt x.a).A.ts.length=0:=rfl;show(doA s (fgt x.a) o).x.A.ts.length<=_;omega
section
variable(o o':Obj)(ap ap' mb mb' nC C n:Nat)
end
end
end
set_option maxRecDepth 100000
section
variable{w:World}{R:Value->World->Prop}
def va235:Ann:=⟨fun id=>cond (Nat.beq id 8) ⟨[(14,.slice none 0 0),(57,.int .i64 0)],([15,16]++rg 58 22)⟩ (cond (Nat.beq id 21) ⟨[(151,.int .i64 0)],([8,25]++rg 152 21)⟩ (cond (Nat.beq id 27) ⟨[(175,.int .i64 0)],([8,27,29,30]++rg 176 33)⟩ (cond (Nat.beq id 31) ⟨[(190,.int .i64 0)],([8,29,30]++rg 191 17)⟩ (LI.none)))),fun l=>none,fun i=>cond (Nat.beq i 6) (some ⟨[],([8]++rg 48 7)⟩) (cond (Nat.beq i 12) (some ⟨[(14,.slice none 0 0)],([15,16]++rg 59 20)⟩) (cond (Nat.beq i 18) (some ⟨[],([8]++rg 95 48)⟩) (none)))⟩
def vc235(x0_0 x0_1:Int)(x1 x2:ByteArray)(x3:Int)(w:World)(R:VW):Prop:=
 ∀(n0:Nat)(w1:World),n0=w.heap.size->w1=w.alloc (.cells #[.int .i64 x0_0,.int .i64 x0_1] 23)->(8:Int) ≠ 0 /\ ∃i2 i3:Int,CellsAt w1 (zA n0) [.int .i64 i2,.int .i64 i3] /\ CS 9 #[.agg #[.int .i64 i2,.int .i64 i3],.string x1,.int .i64 120] w1 fun v4 w5=>∃(p6 p7:Option Addr)(n8 n9:Nat)(p10:Option Addr)(n11 n12:Nat),v4=.tuple #[.pointer p6,.slice p7 n8 n9,.slice p10 n11 n12] /\ ∃i13 i14:Int,CellsAt w5 (zA n0) [.int .i64 i13,.int .i64 i14] /\ CS 30 #[.agg #[.int .i64 i13,.int .i64 i14],.string x2,.int .i64 60] w5 fun v15 w16=>∃(p17:Option Addr)(n18 n19:Nat)(b20:Bool),v15=.tuple #[.slice p17 n18 n19,.bool b20] /\ ∃x21:World->Prop,ifB p6.isNone (CS 11 #[] w16 fun v22 w23=>∃b24:Bool,v22=.bool b24 /\ R (.bool b24) w23) (ifB (!b20) (CS 11 #[] w16 fun v25 w26=>∃b27:Bool,v25=.bool b27 /\ R (.bool b27) w26) (x21 w16)) /\ ∀(jv:Nat->Value)(w28:World),x21 w28->∃x29:Nat->Option Addr->Nat->Nat->Int->World->Prop,(∃n30:Nat,x29 n30 none 0 0 0 w28) /\ ∀(n31:Nat)(jv:Nat->Value)(p32:Option Addr)(n33 n34:Nat)(i35:Int)(w36:World),x29 n31 p32 n33 n34 i35 w36->ifB (decide (i35<(↑n11:Int))) (∃x37:Option Addr->Nat->Nat->World->Prop,(0<=i35 /\ i35<(↑n11:Int) /\ someA p10 fun a38=>∃(i39 i40 i41 i42:Int)(s43:ByteArray)(i44:Int),CellsAt w36 (a38.add (i35.toNat*6)) [.int .i64 i39,.int .u64 i40,.int .i64 i41,.int .i64 i42,.string s43,.int .i64 i44] /\ ∀(n45:Nat)(w46:World),n45=w36.heap.size->w46=w36.alloc (.cells #[.int .i64 0,.int .u64 0,.int .i64 0,.int .i64 0,.string (.mk #[]),.int .i64 0] 40)->WrC w46 (zA n45) 6 /\ ∀(w47:World),w47=wr w46 (zA n45) [.int .i64 i39,.int .u64 i40,.int .i64 i41,.int .i64 i42,.string s43,.int .i64 i44]->∃i48:Int,w47.cell? ((zA n45).add 1)=some (.int .u64 i48) /\ ifB (i48 != 0) (0<=i35 /\ i35<(↑n8:Int) /\ someA p7 fun a49=>∃i50:Int,w47.cell? ((a49.add (i35.toNat*6)).add 1)=some (.int .i64 i50) /\ ifB (i50 == IntKind.i64.wrap ((IntKind.u64.wrap x3).tmod 8)) (∃i51:Int,w47.cell? ((zA n45).add 1)=some (.int .u64 i51) /\ ∀(n52:Nat)(w53:World),n52=w47.heap.size->w53=w47.alloc (.cells #[.int .u64 i51] 33)->∃(p54:Option Addr)(n55 n56:Nat)(w57:World),Sem.run prog (Builtin.append_ #[55,55] 55 #[.slice p32 n33 n34,.slice (some (zA n52)) 1 1]) w53=.ok (.slice p54 n55 n56) w57 /\ x37 p54 n55 n56 w57) (x37 p32 n33 n34 w47)) (x37 p32 n33 n34 w47)) /\ ∀(jv:Nat->Value)(p58:Option Addr)(n59 n60:Nat)(w61:World),x37 p58 n59 n60 w61->∃n62:Nat,n62<n31 /\ x29 n62 p58 n59 n60 (IntKind.i64.wrap (i35+1)) w61) (CS 15 #[.pointer p6,.int .i64 (IntKind.i64.wrap ((IntKind.u64.wrap x3).tmod 8))] w36 fun v63 w64=>∃(p65:Option Addr)(n66 n67:Nat),v63=.slice p65 n66 n67 /\ CS 12 #[.pointer p6] w64 fun v68 w69=>∃i70:Int,v68=.int .i64 i70 /\ CS 13 #[.pointer p6,.int .i64 (IntKind.i64.wrap ((IntKind.u64.wrap x3).tmod 8))] w69 fun v71 w72=>∃(p73:Option Addr)(n74 n75:Nat),v71=.slice p73 n74 n75 /\ CS 17 #[.pointer p6,.int .i64 (IntKind.i64.wrap ((IntKind.u64.wrap x3).tmod 8))] w72 fun v76 w77=>∃b78:Bool,v76=.bool b78 /\ CS 14 #[.pointer p6,.agg #[.int .i64 3,.int .i64 (IntKind.i64.wrap ((IntKind.u64.wrap x3).tmod 8)),.int .i64 0,.int .i64 0,.int .u64 0,.string (.mk #[])]] w77 fun v79 w80=>∃(i81 i82 i83 i84:Int)(s85:ByteArray)(i86:Int),v79=.agg #[.int .i64 i81,.int .u64 i82,.int .i64 i83,.int .i64 i84,.string s85,.int .i64 i86] /\ ∀(n87:Nat)(w88:World),n87=w80.heap.size->w88=w80.alloc (.cells #[.int .i64 0,.int .u64 0,.int .i64 0,.int .i64 0,.string (.mk #[]),.int .i64 0] 40)->WrC w88 (zA n87) 6 /\ ∀(w89:World),w89=wr w88 (zA n87) [.int .i64 i81,.int .u64 i82,.int .i64 i83,.int .i64 i84,.string s85,.int .i64 i86]->∃x90:World->Prop,(∃i91:Int,w89.cell? ((zA n87).add 0)=some (.int .i64 i91) /\ ifB (!(i91 == 0) == b78) (R (.bool false) w89) (ifB (!b78) (∃i92:Int,w89.cell? ((zA n87).add 0)=some (.int .i64 i92) /\ ifB (i92 != 6) (R (.bool false) w89) (CS 17 #[.pointer p6,.int .i64 (IntKind.i64.wrap ((IntKind.u64.wrap x3).tmod 8))] w89 fun v93 w94=>∃b95:Bool,v93=.bool b95 /\ ifB b95 (R (.bool false) w94) (CS 23 #[.pointer p6,.int .i64 (IntKind.i64.wrap ((IntKind.u64.wrap x3).tmod 8))] w94 fun v96 w97=>∃i98:Int,v96=.int .i64 i98 /\ ifB (i98 != 0) (R (.bool false) w97) (CS 15 #[.pointer p6,.int .i64 (IntKind.i64.wrap ((IntKind.u64.wrap x3).tmod 8))] w97 fun v99 w100=>∃(p101:Option Addr)(n102 n103:Nat),v99=.slice p101 n102 n103 /\ ifB ((↑n102:Int) != 0) (R (.bool false) w100) (CS 13 #[.pointer p6,.int .i64 (IntKind.i64.wrap ((IntKind.u64.wrap x3).tmod 8))] w100 fun v104 w105=>∃(p106:Option Addr)(n107 n108:Nat),v104=.slice p106 n107 n108 /\ ifB ((↑n107:Int) != 0) (R (.bool false) w105) (CS 12 #[.pointer p6] w105 fun v109 w110=>∃i111:Int,v109=.int .i64 i111 /\ ifB (i111 != IntKind.i64.wrap (i70+(↑n74:Int))) (R (.bool false) w110) (x90 w110))))))) (CS 17 #[.pointer p6,.int .i64 (IntKind.i64.wrap ((IntKind.u64.wrap x3).tmod 8))] w89 fun v112 w113=>∃b114:Bool,v112=.bool b114 /\ ifB b114 (R (.bool false) w113) (CS 23 #[.pointer p6,.int .i64 (IntKind.i64.wrap ((IntKind.u64.wrap x3).tmod 8))] w113 fun v115 w116=>∃i117:Int,v115=.int .i64 i117 /\ ifB (i117 != 0) (R (.bool false) w116) (CS 15 #[.pointer p6,.int .i64 (IntKind.i64.wrap ((IntKind.u64.wrap x3).tmod 8))] w116 fun v118 w119=>∃(p120:Option Addr)(n121 n122:Nat),v118=.slice p120 n121 n122 /\ ifB ((↑n121:Int) != 0) (R (.bool false) w119) (CS 13 #[.pointer p6,.int .i64 (IntKind.i64.wrap ((IntKind.u64.wrap x3).tmod 8))] w119 fun v123 w124=>∃(p125:Option Addr)(n126 n127:Nat),v123=.slice p125 n126 n127 /\ ifB ((↑n126:Int) != 0) (R (.bool false) w124) (CS 12 #[.pointer p6] w124 fun v128 w129=>∃i130:Int,v128=.int .i64 i130 /\ ifB (i130 != IntKind.i64.wrap (i70+(↑n74:Int))) (R (.bool false) w129) (x90 w129)))))))) /\ ∀(jv:Nat->Value)(w131:World),x90 w131->∃i132 i133:Int,CellsAt w131 (zA n0) [.int .i64 i132,.int .i64 i133] /\ CS 29 #[.agg #[.int .i64 i132,.int .i64 i133],.pointer p6] w131 fun v134 w135=>∃s136:ByteArray,v134=.string s136 /\ ∃i137 i138:Int,CellsAt w135 (zA n0) [.int .i64 i137,.int .i64 i138] /\ CS 31 #[.agg #[.int .i64 i137,.int .i64 i138],.pointer p6] w135 fun v139 w140=>∃(p141:Option Addr)(n142 n143:Nat),v139=.slice p141 n142 n143 /\ ∃x144:Nat->Int->World->Prop,(∃n145:Nat,x144 n145 0 w140) /\ ∀(n146:Nat)(jv:Nat->Value)(i147:Int)(w148:World),x144 n146 i147 w148->ifB (decide (i147<(↑n66:Int))) (0<=i147 /\ i147<(↑n66:Int) /\ someA p65 fun a149=>∃i150:Int,w148.cell? (a149.add i147.toNat)=some (.int .i64 i150) /\ ∀(w151:World),w151=w148.drew->0<=i150 /\ i150<(↑n142:Int) /\ someA p141 fun a152=>w151=w151 /\ ∃i153:Int,w151.cell? (a152.add i150.toNat)=some (.int .i64 i153) /\ ifB (i153 != (-1)) (Value.tuple #[]=.tuple #[] /\ Value.tuple #[]=.tuple #[] /\ Value.tuple #[]=.tuple #[] /\ Value.tuple #[]=.tuple #[] /\ w151=w151 /\ R (.bool false) w151) (0<=IntKind.i64.wrap (i150*512) /\ IntKind.i64.wrap (i150*512)<=IntKind.i64.wrap (IntKind.i64.wrap (i150*512)+512) /\ IntKind.i64.wrap (IntKind.i64.wrap (i150*512)+512)<=(↑s136.size:Int) /\ w151=w151 /\ (0:Int)<=512 /\ (512:Int)<=512 /\ (↑(1:Nat):Int)*(512:Int)<=281474976710656 /\ (512:Int)<=9223372036854775807 /\ ∀(n154:Nat)(w155:World),n154=w151.heap.size->w155=w151.alloc (.cells (madeCells #[.int .u8 0] 512) 5)->(0<=IntKind.i64.wrap (i150*512) /\ IntKind.i64.wrap (i150*512)<=IntKind.i64.wrap (IntKind.i64.wrap (i150*512)+512) /\ IntKind.i64.wrap (IntKind.i64.wrap (i150*512)+512)<=(↑s136.size:Int) /\ w155=w155 /\ Value.string (s136.extract (IntKind.i64.wrap (i150*512)).toNat (IntKind.i64.wrap (IntKind.i64.wrap (i150*512)+512)).toNat)=.string (s136.extract (IntKind.i64.wrap (i150*512)).toNat (IntKind.i64.wrap (IntKind.i64.wrap (i150*512)+512)).toNat)) /\ Value.int .i64 (IntKind.i64.wrap (IntKind.i64.wrap (i150*512)+512))=.int .i64 (IntKind.i64.wrap (IntKind.i64.wrap (i150*512)+512)) /\ Value.int .i64 (IntKind.i64.wrap (i150*512))=.int .i64 (IntKind.i64.wrap (i150*512)) /\ Value.int .i64 (IntKind.i64.wrap (i150*512))=.int .i64 (IntKind.i64.wrap (i150*512)) /\ ∃x156:List UInt8,x156.length=512 /\ BytesAt w155 (some (zA n154)) x156 /\ w155=w155 /\ w155=w155 /\ w155=w155 /\ ifB (!decide (s136.extract (IntKind.i64.wrap (i150*512)).toNat (IntKind.i64.wrap (IntKind.i64.wrap (i150*512)+512)).toNat=ByteArray.mk x156.toArray)) (R (.bool false) w155) (∃n157:Nat,n157<n146 /\ x144 n157 (IntKind.i64.wrap (i147+1)) w155))) (∃x158:Nat->Int->World->Prop,(∃n159:Nat,x158 n159 0 w148) /\ ∀(n160:Nat)(jv:Nat->Value)(i161:Int)(w162:World),x158 n160 i161 w162->ifB (decide (i161<(↑n18:Int))) (0<=i161 /\ i161<(↑n18:Int) /\ someA p17 fun a163=>∃(i164 i165 i166 i167 i168:Int)(s169:ByteArray)(i170:Int),CellsAt w162 (a163.add (i161.toNat*7)) [.int .i64 i164,.int .i64 i165,.int .i64 i166,.int .i64 i167,.int .u64 i168,.string s169,.int .i64 i170] /\ ∀(n171:Nat)(w172:World),n171=w162.heap.size->w172=w162.alloc (.cells #[.int .i64 0,.int .i64 0,.int .i64 0,.int .i64 0,.int .u64 0,.string (.mk #[]),.int .i64 0] 62)->WrC w172 (zA n171) 7 /\ ∀(w173:World),w173=wr w172 (zA n171) [.int .i64 i164,.int .i64 i165,.int .i64 i166,.int .i64 i167,.int .u64 i168,.string s169,.int .i64 i170]->∃(i174 i175 i176 i177 i178:Int)(s179:ByteArray),CellsAt w173 ((zA n171).add 0) [.int .i64 i174,.int .i64 i175,.int .i64 i176,.int .i64 i177,.int .u64 i178,.string s179] /\ CS 14 #[.pointer p6,.agg #[.int .i64 i174,.int .i64 i175,.int .i64 i176,.int .i64 i177,.int .u64 i178,.string s179]] w173 fun v180 w181=>∃(i182 i183 i184 i185:Int)(s186:ByteArray)(i187:Int),v180=.agg #[.int .i64 i182,.int .u64 i183,.int .i64 i184,.int .i64 i185,.string s186,.int .i64 i187] /\ ∃(i188:Int)(w189:World),Sem.run prog (Builtin.max_ #[3,3] 3 #[.int .i64 0,.int .i64 (IntKind.i64.wrap ((↑n33:Int)-12))]) w181=.ok (.int .i64 i188) w189 /\ 0<=i188 /\ i188<=(↑n33:Int) /\ (↑n33:Int)<=(↑n34:Int) /\ ∃x190:Nat->Int->World->Prop,(∃n191:Nat,x190 n191 0 w189) /\ ∀(n192:Nat)(jv:Nat->Value)(i193:Int)(w194:World),x190 n192 i193 w194->ifB (decide (i193<(↑((↑n33:Int).toNat-i188.toNat):Int))) (0<=i193 /\ i193<(↑((↑n33:Int).toNat-i188.toNat):Int) /\ someA (subA p32 i188.toNat n34 1) fun a195=>∃i196:Int,w194.cell? (a195.add i193.toNat)=some (.int .u64 i196) /\ CS 14 #[.pointer p6,.agg #[.int .i64 8,.int .i64 (IntKind.i64.wrap ((IntKind.u64.wrap x3).tmod 8)),.int .i64 0,.int .i64 0,.int .u64 i196,.string (.mk #[])]] w194 fun v197 w198=>∃(i199 i200 i201 i202:Int)(s203:ByteArray)(i204:Int),v197=.agg #[.int .i64 i199,.int .u64 i200,.int .i64 i201,.int .i64 i202,.string s203,.int .i64 i204] /\ ∀(n205:Nat)(w206:World),n205=w198.heap.size->w206=w198.alloc (.cells #[.int .i64 0,.int .u64 0,.int .i64 0,.int .i64 0,.string (.mk #[]),.int .i64 0] 40)->WrC w206 (zA n205) 6 /\ ∀(w207:World),w207=wr w206 (zA n205) [.int .i64 i199,.int .u64 i200,.int .i64 i201,.int .i64 i202,.string s203,.int .i64 i204]->∃i208:Int,w207.cell? ((zA n205).add 0)=some (.int .i64 i208) /\ ifB (i208 != 5) (∃i209:Int,w207.cell? ((zA n205).add 0)=some (.int .i64 i209) /\ ifB (i209 != 6) (R (.bool false) w207) (∃n210:Nat,n210<n192 /\ x190 n210 (IntKind.i64.wrap (i193+1)) w207)) (∃n211:Nat,n211<n192 /\ x190 n211 (IntKind.i64.wrap (i193+1)) w207)) (∃n212:Nat,n212<n160 /\ x158 n212 (IntKind.i64.wrap (i161+1)) w194)) (CS 11 #[] w162 fun v213 w214=>∃b215:Bool,v213=.bool b215 /\ R (.bool b215) w214)))
theorem vc235.ok{x0_0 x0_1:Int}{x1 x2:ByteArray}{x3:Int}(h:vc235 x0_0 x0_1 x1 x2 x3 w R ):Calls prog 8 #[.agg #[.int .i64 x0_0,.int .i64 x0_1],.string x1,.string x2,.int .i64 x3] w (Ret R):=
 bodyE va235 Tryz.func8 (h:=h)
end
set_option maxRecDepth 20000
section
open Go.RowKit Go.Maps Thing
section
variable{w:World}{F:Nat->Prop}{X C:Thing}{R:VW}
abbrev zAnsw:An:=⟨0,0,0,0,ByteArray.mk #[],0⟩
theorem Q8I{a:An}{K:Nat->World->Prop}(h:X.P w F)(k:∀n w' F',(bA n a*X).P w' F'->Step F w F' w'->K n w') :
  ∀(n:Nat)(w1:World),n=w.heap.size->w1=w.alloc (Obj.cells #[.int .i64 (0:Int),.int .u64 (0:Int),.int .i64 (0:Int),.int .i64 (0:Int),.string (ByteArray.mk #[]),.int .i64 (0:Int)] 40)->WrC w1 (zA n) 6 /\ ∀(w2:World),w2=wr w1 (zA n) (anL a)->K n w2:=by
 refine Q0m h fun n w1 F1 h1 s1 _=>?_;refine Q0F (b:=n) (o:=0) (arr:=(anL zAnsw).toArray) (T:=40) (C:=X) h1 rfl (by simp) fun w2 F2 h2 s2=>?_;rw[setAt6 _ rfl] at h2;exact k n w2 F2 h2 (s1.trans s2)
theorem Qep{x:Stp}{K:Nat->World->Prop}(h:X.P w F)(k:∀n w' F',(skT n x*X).P w' F'->Step F w F' w'->K n w') :
  ∀(n:Nat)(w1:World),n=w.heap.size->w1=w.alloc (Obj.cells #[.int .i64 (0:Int),.int .i64 (0:Int),.int .i64 (0:Int),.int .i64 (0:Int),.int .u64 (0:Int),.string (ByteArray.mk #[]),.int .i64 (0:Int)] 62)->WrC w1 (zA n) 7 /\ ∀(w2:World),w2=wr w1 (zA n) (spL x)->K n w2:=by
 refine Q0m h fun n w1 F1 h1 s1 _=>?_;refine Q0F (b:=n) (o:=0) (arr:=(spL zS).toArray) (T:=62) (C:=X) h1 rfl (by simp) fun w2 F2 h2 s2=>?_;rw[setAt7 _ rfl] at h2;exact k n w2 F2 h2 (s1.trans s2)
theorem Qee{e k:Nat}{Z:Type}{f:Z->List Value}{p:Option Addr}{n c:Nat}{l:List Z}(h:ORow w e k f (.slice p n c) l):n<=c:=by
 rcases h.2 with⟨hv,_⟩ | ⟨g,cap,cur,hv,_,_,hnc,_⟩
 ·cases hv;exact Nat.le_refl _
 ·cases hv;exact hnc
end
theorem walk_TopDestroyed(P0 C0:Int)(_:-9223372036854775808<=P0 /\ P0<=9223372036854775807)(_:-9223372036854775808<=C0 /\ C0<=9223372036854775807)(str:ByteArray)(_:str.size<=maxLen)(_:str.size<=reachBytes)(str2:ByteArray)(_:str2.size<=maxLen)(_:str2.size<=reachBytes)(x3:Int)(_:-9223372036854775808<=x3 /\ x3<=9223372036854775807)(W:World)(tab:Sf.Tab W) :
  Calls prog 8 #[.agg #[.int .i64 P0,.int .i64 C0],.string str,.string str2,.int .i64 x3] W (Ret (Yes W)):=by
 obtain⟨o,h0⟩:=QaK tab;obtain⟨id,hid,hlt⟩:=QbY x3 8 (by decide) (by decide);have hid:IntKind.i64.wrap ((IntKind.u64.wrap x3).tmod 8)=(id:Int):=hid;refine vc235.ok ?_;unfold vc235;rw[hid];refine Q0m h0 fun n0 w1 F1 h1 s1 _=>⟨by decide,?_⟩;have h1:(blk n0 (cfO P0 C0)*tabT o).P w1 F1:=h1;have rc:∀ {w':World} {F':Nat->Prop} {X Z:Thing},X.P w' F'->X=blk n0 (cfO P0 C0)*Z->w'.heap[n0]? = some (cfO P0 C0):=fun p e=>Q0c p e;refine⟨_,_,Q08 (vs:=[.int .i64 P0,.int .i64 C0]) (rc h1 rfl),?_⟩;refine Qc7 (o:=o) (C:=blk n0 (cfO P0 C0)) P0 C0 str 120 (re h1 (zztmc _ _)) (fun _ w2 F2 h2 st2=>?_) fun hpl s sb y po co ps cs w2 F2 ho hs h2 st2=>?_
 ·have s2:=s1.trans st2;exact⟨_,_,_,_,_,_,_,rfl,_,_,Q08 (vs:=[.int .i64 P0,.int .i64 C0]) (rc h2 (zztmc _ _)),Q6D P0 C0 str2 60 (fun _ w3 hE=>⟨_,_,_,_,rfl,fun _=>False,Q04 rfl (Qex h0 (Thing.grow h2 hE) (s2.trans (Step.ext hE))),fun _ _ z=>z.elim⟩) fun _ _ p c w3 F3 h3 hE hn=>⟨_,_,_,_,rfl,fun _=>False,Q04 rfl (Qex h0 (Thing.grow h2 hE) (s2.trans (Step.ext hE))),fun _ _ z=>z.elim⟩⟩
 have s2:=s1.trans st2;obtain⟨_,_,h120,hcfg⟩:=hpl;have iv:=Qa8 hs (Q5z str);have hd:=QfI hs (Q5z str);have su:=QbX hs (Q5z str);have hl:(rdL str).length<=120:=by omega
 generalize runL s (rdL str)=n at *
 generalize(rdL str).length=nl at *
 have g:=iv.ad;have dn:=iv.dn;have ol:=iv.ol;have sl:=iv.sl;refine⟨_,_,_,_,_,_,_,rfl,_,_,Q08 (vs:=[.int .i64 P0,.int .i64 C0]) (rc (Z:=svX s sb y n.x*(dnT (.slice po n.ops.length co) n.ops*saT (.slice ps n.said.length cs) n.said)) h2 (by ac_rfl)),?_⟩;refine Q6D P0 C0 str2 60 (fun _ w3 hE=>⟨_,_,_,_,rfl,fun _=>False,Q00 rfl (Q04 rfl (Qaq h0 ho (Thing.grow h2 hE) rfl (s2.trans (Step.ext hE)))),fun _ _ z=>z.elim⟩) fun _ _ pl cl w3 F3 h3 hE hn=>?_;obtain⟨h3,st3⟩:=Q0i (B:=stpsT (.slice pl (rdL str2).length cl) (rdL str2)) h2 hE h3 hn;have s3:=s2.trans st3;have ok2:=Q5z str2;generalize rdL str2=l2 at *
 refine⟨_,_,_,_,rfl,fun w'=>l2.length<=60 /\ ∃F',(svX s sb y n.x*(dnT (.slice po n.ops.length co) n.ops*(saT (.slice ps n.said.length cs) n.said*(stpsT (.slice pl l2.length cl) l2*blk n0 (cfO P0 C0))))).P w' F' /\ Step (· = 0) W F' w',Q00 rfl (Q05 (fun q=>Qaq (C:=stpsT (.slice pl l2.length cl) l2*(dnT (.slice po n.ops.length co) n.ops*(saT (.slice ps n.said.length cs) n.said*blk n0 (cfO P0 C0)))) h0 ho h3 (sw4 _ _ _) s3) (fun q=>⟨by have:((l2.length:Nat):Int)<=60:=(by simpa using q);omega,_,re h3 (by ac_rfl),s3⟩)),?_⟩;clear h3 s3 st3 hE hn h2 s2 st2 h1 s1;rintro jv w4 ⟨h60,F4,h4,s4⟩
 let gj:Nat->List Int:=gvnJ n.ops n.said (id:Int)
 let Z:Thing:=svX s sb y n.x*(dnT (.slice po n.ops.length co) n.ops*(saT (.slice ps n.said.length cs) n.said*(stpsT (.slice pl l2.length cl) l2*blk n0 (cfO P0 C0))))
 refine⟨fun f p k c i w'=>∃j:Nat,i=(j:Int) /\ f+j=n.said.length /\ k=(gj j).length /\ ∃F',(rwT 33 1 u64F (.slice p (gj j).length c) (gj j)*Z).P w' F' /\ Step (· = 0) W F' w',⟨n.said.length,0,rfl,rfl,rfl,F4,re (Q3m (e:=33) (k:=1) (f:=u64F) h4) (zztmc _ _),s4⟩,?_⟩;rintro f jv p k c i w5 ⟨j,rfl,hf,rfl,F5,h5,s5⟩;refine Q05 (fun q=>?pos) (fun q=>?neg)
 case pos=>
  have q:=zzodt q;have hj:j<n.said.length:=by omega
  obtain⟨a,ha⟩:∃a,n.said[j]? = some a:=⟨_,zzgge hj⟩;obtain⟨op,hop⟩:∃op,n.ops[j]? = some op:=⟨_,zzgge (by omega)⟩;have hnx:=Q9d (id:=(id:Int)) hop ha;have hgl:=Q7a n.ops n.said (id:Int) j;refine⟨fun p' k' c' w'=>k'=(gj (j+1)).length /\ ∃F',(rwT 33 1 u64F (.slice p' (gj (j+1)).length c') (gj (j+1))*Z).P w' F' /\ Step (· = 0) W F' w',?_,fun _ p' k' c' w' ⟨e,F',p,st⟩=>⟨f-1,by omega,j+1,by rw[Q03 (by omega) (by omega)];omega,by omega,e,F',p,st⟩⟩;have row1:=Q5H (e:=40) (k:=6) (f:=anL) (v:=.slice ps n.said.length cs) (l:=n.said) (Y:=rwT 33 1 u64F (.slice p (gj j).length c) (gj j)*(svX s sb y n.x*(dnT (.slice po n.ops.length co) n.ops*(stpsT (.slice pl l2.length cl) l2*blk n0 (cfO P0 C0))))) h5 (by show rwT 33 1 u64F (.slice p (gj j).length c) (gj j)*(svX s sb y n.x*(dnT (.slice po n.ops.length co) n.ops*(saT (.slice ps n.said.length cs) n.said*(stpsT (.slice pl l2.length cl) l2*blk n0 (cfO P0 C0)))))=saT (.slice ps n.said.length cs) n.said*_;ac_rfl);obtain⟨a1,hp1,hc1⟩:=ORow.cells Q8H row1 ha;refine⟨by omega,by omega,?_⟩;rw[hp1,zztnc];refine⟨_,_,_,_,_,_,hc1,Q8I h5 fun nb w6 F6 h6 s6=>?_⟩;have s6:=s5.trans s6;have no:(gj (j+1)=gj j)->(gj j).length=(gj (j+1)).length /\ ∃F',(rwT 33 1 u64F (.slice p (gj (j+1)).length c) (gj (j+1))*Z).P w6 F' /\ Step (· = 0) W F' w6:=fun e=>by
   obtain⟨F7,h7,sub⟩:=Q07 h6;rw[e];exact⟨rfl,F7,h7,s6.sub sub⟩
  refine⟨a.Hd,by rw[Q02];exact Q01 (Q0c h6 rfl) rfl,Q05 (fun q2=>?_) (fun q2=>?_)⟩
  ·have row2:=Q5H (e:=35) (k:=6) (f:=opL) (v:=.slice po n.ops.length co) (l:=n.ops) (Y:=bA nb a*(rwT 33 1 u64F (.slice p (gj j).length c) (gj j)*(svX s sb y n.x*(saT (.slice ps n.said.length cs) n.said*(stpsT (.slice pl l2.length cl) l2*blk n0 (cfO P0 C0)))))) h6 (by show bA nb a*(rwT 33 1 u64F (.slice p (gj j).length c) (gj j)*(svX s sb y n.x*(dnT (.slice po n.ops.length co) n.ops*(saT (.slice ps n.said.length cs) n.said*(stpsT (.slice pl l2.length cl) l2*blk n0 (cfO P0 C0))))))=dnT (.slice po n.ops.length co) n.ops*_;ac_rfl);obtain⟨a2,hp2,hc2⟩:=ORow.cells Q6p row2 hop;refine⟨by omega,by omega,?_⟩;rw[hp2];refine⟨op.T,hc2 1 _ rfl,Q05 (fun q3=>?_) (fun q3=>?_)⟩
   ·have e1:gj (j+1)=gj j++[a.Hd]:=by
     show gvnJ _ _ _ _=_;rw[hnx,if_pos ⟨by simpa using q2,by simpa using q3⟩]
    refine⟨a.Hd,by rw[Q02];exact Q01 (Q0c h6 rfl) rfl,?_⟩;refine Q0m h6 fun n52 w7 F7 h7 s7 _=>?_;have hgl:(gj j).length<=j:=hgl;obtain⟨p',c',w8,F8,hrun,h8,s8⟩:=Q2r elemU Q4X Q7U (v:=.slice p (gj j).length c) (l:=gj j) (a:=⟨n52,0,none⟩) (c:=1) (x:=a.Hd) (Y:=blk n52 (.cells #[.int .u64 a.Hd] 33 (0,0))*(bA nb a*Z)) (re h7 (by show blk n52 (.cells #[.int .u64 a.Hd] 33 (0,0))*(bA nb a*(rwT 33 1 u64F (.slice p (gj j).length c) (gj j)*Z))=_;ac_rfl)) (Q08 (vs:=[.int .u64 a.Hd]) (Q0c h7 rfl)) (by omega) (by omega);obtain⟨F9,h9,sub⟩:=Q07 (A:=blk n52 (.cells #[.int .u64 a.Hd] 33 (0,0))*bA nb a) (B:=rwT 33 1 u64F (.slice p' ((gj j).length+1) c') (gj j++[a.Hd])*Z) (re h8 (by ac_rfl));have el:(gj j++[a.Hd]).length=(gj j).length+1:=by rw[zzlna];rfl
    refine⟨p',_,c',w8,hrun,?_⟩;rw[e1,el];exact⟨rfl,F9,h9,((s6.trans s7).trans s8).sub sub⟩
   ·refine no ?_;show gvnJ _ _ _ _=_;rw[hnx,if_neg (fun z=>(by simpa using q3:¬op.T=(id:Int)) z.2),List.append_nil]
  ·refine no ?_;show gvnJ _ _ _ _=_;rw[hnx,if_neg (fun z=>z.1 (by simpa using q2)),List.append_nil]
 have q:=of_decide_eq_false q;have eg:gj j=gvnL n.ops n.said (id:Int):=Qbm (by omega);have gl:(gj j).length<=120:=by
  have:(gj j).length<=j:=Q7a n.ops n.said (id:Int) j;omega
 have gu:=QdG (ops:=n.ops) (id:=(id:Int)) su;have glt:=Qfn hd hlt;rw[eg] at h5 gl ⊢;generalize gvnL n.ops n.said (id:Int)=gs at *
 obtain⟨F6,h6,sub⟩:=Q07 (A:=dnT (.slice po n.ops.length co) n.ops*saT (.slice ps n.said.length cs) n.said) (B:=svX s sb y n.x*(rwT 33 1 u64F (.slice p gs.length c) gs*(stpsT (.slice pl l2.length cl) l2*blk n0 (cfO P0 C0)))) (re h5 (by show rwT 33 1 u64F (.slice p gs.length c) gs*(svX s sb y n.x*(dnT (.slice po n.ops.length co) n.ops*(saT (.slice ps n.said.length cs) n.said*(stpsT (.slice pl l2.length cl) l2*blk n0 (cfO P0 C0)))))=_;ac_rfl));have s6:=s5.sub sub;clear h5 s5 eg h4 s4
 let D:Thing:=rwT 33 1 u64F (.slice p gs.length c) gs*(stpsT (.slice pl l2.length cl) l2*blk n0 (cfO P0 C0))
 have h6:(svX s sb y n.x*D).P w5 F6:=h6;have g6:=g.ok;refine Q6u (C:=D) g6 h6 rfl hlt fun pp cp w7 F7 h7 s7=>⟨_,_,_,rfl,?_⟩;have s7:=s6.trans s7;have hpl:=Q2R (oT (n.x.a.tn id));have hown:∀k ∈ pagO (oT (n.x.a.tn id)),∃p:Nat,k=(p:Int) /\ inPg (oT (n.x.a.tn id)) p:=fun k hk=>(Q9N (QcL g hlt) k).1 hk;have hplen:(pagO (oT (n.x.a.tn id))).length<=1000000:=by
  rw[hpl];cases h:n.x.a.tn id with
  | none=>exact Nat.zero_le _
  | some t=>have:=(g.tn id t hlt h).inv.ok.h.few;show t.H.T.length<=_;omega
 generalize pagO (oT (n.x.a.tn id))=pg at *
 refine QcX (C:=rowT (.slice pp pg.length cp) pg*D) h7 (sw4 _ _ _) ⟨_,rfl,?_⟩;have hws:(n.x.a.ws id).length<=1000000:=by have:=g6.ws id hlt;omega
 refine Q7J (C:=rowT (.slice pp pg.length cp) pg*D) h7 (sw4 _ _ _) hlt hws fun pw cw w8 _ hE8 _=>⟨_,_,_,rfl,?_⟩;have h8:=Thing.grow h7 hE8;have s8:=s7.trans (Step.ext hE8);refine QcY (C:=rowT (.slice pp pg.length cp) pg*D) h8 (sw4 _ _ _) hlt ⟨_,rfl,?_⟩;have gi:=Q1v (x:=n.x) g (desO id);have gl1:=Q1K (s:=s) (x:=n.x) (desO id);have des:=Qbg g hd.cap hlt;have ats:=Qfc (x:=n.x) g (desO id);refine(Qgf (o:=desO id) g (show Hd.U64 0 by unfold Hd.U64;omega) (by omega)).use (C:=rowT (.slice pp pg.length cp) pg*D) h8 (sw4 _ _ _) fun v w9 F9 p9 st9=>?_;obtain⟨y9,rfl,h9⟩:=Q0l p9;have s9:=s8.trans st9;generalize doM s n.x (desO id)=d at h9 gi gl1 des ats ⊢;refine⟨_,_,_,_,_,_,rfl,?_⟩;refine Q8I h9 fun nb w10 F10 h10 s10=>?_;have s10:=s9.trans s10;have cE:w10.cell? ((zA nb).add 0)=some (.int .i64 d.a.E):=by rw[Q02];exact Q01 (Q0c h10 rfl) rfl
 obtain⟨F11,h11,sub⟩:=Q07 h10;have s11:=s10.sub sub;have hfree:((d.x.a.hs.count false:Nat):Int)=IntKind.i64.wrap (((n.x.a.hs.count false:Nat):Int)+(((n.x.a.ws id).length:Nat):Int)):=by
  have e:=des.free;have l1:d.x.a.hs.count false<=d.x.a.hs.length:=List.count_le_length;have l2:=gi.hl;have l3:=gi.c32;rw[Q03 (by omega) (by omega)];omega
 refine⟨fun w'=>∃F',(svX s sb y9 d.x*(rowT (.slice pp pg.length cp) pg*D)).P w' F' /\ Step (· = 0) W F' w',⟨d.a.E,cE,?_⟩,?_⟩
 ·have gone:=fun(K:World->Prop) (k:∀w' F',(svX s sb y9 d.x*(rowT (.slice pp pg.length cp) pg*D)).P w' F'->Step F11 w10 F' w'->K w')=>QfV (R:=Yes W) (sb:=sb) (C:=rowT (.slice pp pg.length cp) pg*D) hlt gi des.tn des.ws h11 rfl hfree k;cases hl:(n.x.a.tn id).isSome with
  | true=>
   have e:=des.e1 hl;rw[e];exact Q00 rfl (Q00 rfl (gone _ fun w' F' p st=>⟨F',p,s11.trans st⟩))
  | false=>
   have e:=des.e0 hl;rw[e] at cE ⊢;exact Q00 rfl (Q04 rfl ⟨6,cE,Q00 rfl (gone _ fun w' F' p st=>⟨F',p,s11.trans st⟩)⟩)
 clear h11 s11 sub cE h10 s10 h9 s9 st9 p9 h8 s8 hE8 h7 s7 h6 s6;rintro jv w11 ⟨F11,h11,s11⟩;have tc:∀ {w':World} {F':Nat->Prop} {A B:Thing},(A*(B*D)).P w' F'->CellsAt w' ⟨n0,0,none⟩ [.int .i64 P0,.int .i64 C0]:=fun {w' F' A B} hp=>Q08 (rc (Z:=A*(B*(rwT 33 1 u64F (.slice p gs.length c) gs*stpsT (.slice pl l2.length cl) l2))) hp (by show A*(B*(_*(_*blk n0 (cfO P0 C0))))=_;ac_rfl));refine⟨_,_,tc h11,?_⟩;have hbl:=gi.bl;refine(t_all (s:=s) (sb:=sb) (y:=y9) (x:=d.x) hs (by omega) hbl).use (C:=rowT (.slice pp pg.length cp) pg*D) h11 rfl fun v w12 F12 p12 st12=>?_;rw[Q06] at p12;obtain⟨rfl,h12⟩:=p12;have s12:=s11.trans st12;have gx:AdInv s (aTs d.x.a (noteA d.x.a.A.ts 0 s.n false)):=gi.aTs _;have cx:CapA (fun i=>if i=id then curA n.x.a id else 1) (aTs d.x.a (noteA d.x.a.A.ts 0 s.n false)):=des.cap.aTs _;generalize eX:({d.x with a:=aTs d.x.a (noteA d.x.a.A.ts 0 s.n false)}:Se)=xe at h12;have gx:AdInv s xe.a:=by rw[<-eX];exact gx
 have cx:CapA (fun i=>if i=id then curA n.x.a id else 1) xe.a:=by rw[<-eX];exact cx
 have dx:xe.done.length<=130:=by rw[<-eX];show d.x.done.length<=130;omega
 have ex:xe.a.tn=d.x.a.tn:=by rw[<-eX];rfl
 refine⟨_,rfl,_,_,tc h12,?_⟩;refine Qc3 hcfg hs gx h12 rfl fun po2 co2 L w13 F13 no13 h13 st13=>⟨_,_,_,rfl,?_⟩;have s13:=s12.trans st13;have p4:=hs.p4;have hsn:=hs.n;have nL:=no13.1
 let Z2:Thing:=svX s sb y9 xe*(rowT (.slice pp pg.length cp) pg*D)
 have h13:(rowT (.slice po2 L.length co2) L*Z2).P w13 F13:=h13;have ssz:(strOf d.x.a.A.bs).size=s.n:=by rw[Q0P,hbl]
 refine⟨fun f i w'=>∃j:Nat,i=(j:Int) /\ f+j=pg.length /\ ∃F',(rowT (.slice po2 L.length co2) L*Z2).P w' F' /\ Step (· = 0) W F' w',⟨pg.length,0,rfl,rfl,F13,h13,s13⟩,?_⟩;rintro f2 jv2 i2 w14 ⟨j2,rfl,hf2,F14,h14,s14⟩;refine Q05 (fun q=>?pos2) (fun q=>?neg2)
 case pos2=>
  have q:=zzodt q;obtain⟨k,hk⟩:∃k,pg[j2]? = some k:=⟨_,zzgge (by omega)⟩;obtain⟨pk,rfl,hin⟩:=hown k (zzmog hk);obtain⟨dno,dz⟩:=des.pg pk hin;have hpk:pk<s.nC*s.C:=by
   obtain⟨yy,hy,e⟩:=hin;cases ht:n.x.a.tn id with
   | none=>rw[ht] at hy;cases hy
   | some t=>
    rw[ht] at hy;have h1:=((g.tn id t hlt ht).inv.ok.h.own yy hy).1;have h2:=(zzgsi.1 h1).1;have h3:=g.cl;omega
  have hrow:ORow w14 3 1 intF (.slice pp pg.length cp) pg:=by
   obtain⟨_,_,⟨a,_⟩,_⟩:=re (Y:=rowT (.slice pp pg.length cp) pg*(rowT (.slice po2 L.length co2) L*(svX s sb y9 xe*D))) h14 (by show rowT (.slice po2 L.length co2) L*(svX s sb y9 xe*(rowT (.slice pp pg.length cp) pg*D))=_;ac_rfl);exact a
  obtain⟨a,ha,hc⟩:=hrow.cells Q0x hk;have hc:=hc 0 _ rfl;rw[Addr.add_add,Nat.mul_one,Nat.add_zero] at hc;refine⟨by omega,by omega,?_⟩;rw[ha,zztnc];refine⟨_,hc,?_⟩;rintro w15 rfl;have h15:=Thing.grow h14 (Ext.drew w14);have s15:=s14.trans (Step.ext (Ext.drew w14));generalize w14.drew=w15 at h15 s15 ⊢;have hL:L[pk]? = some (-1):=no13.2 pk (by omega) (by rw[ex];exact dno);have hrow2:ORow w15 3 1 intF (.slice po2 L.length co2) L:=by
   obtain⟨_,_,⟨a,_⟩,_⟩:=h15;exact a
  obtain⟨a2,ha2,hc2⟩:=hrow2.cells Q0x hL;have hc2:=hc2 0 _ rfl;rw[Addr.add_add,Nat.mul_one,Nat.add_zero] at hc2;refine⟨by omega,by omega,?_⟩;subst ha2;rw[zztnc];have e1:IntKind.i64.wrap ((pk:Int)*512)=((pk*512:Nat):Int):=by rw[Q03 (by omega) (by omega)];omega
  have e2:IntKind.i64.wrap (((pk*512:Nat):Int)+512)=((pk*512+512:Nat):Int):=by rw[Q03 (by omega) (by omega)];omega
  rw[e1,e2,zztnc,zztnc];refine⟨rfl,_,hc2,Q00 rfl ⟨by omega,by omega,by omega,rfl,by omega,by omega,by omega,by omega,?_⟩⟩;refine Q7i 512 fun bb w16 hb16 hE16=>?_;have h16:=Thing.grow h15 hE16;have s16:=s15.trans (Step.ext hE16);have estr:(strOf d.x.a.A.bs).extract (pk*512) (pk*512+512)=ByteArray.mk (List.replicate 512 (0:UInt8)).toArray:=by
   refine Q1f ?_;rw[Q0K,Q0q];show _=List.replicate 512 (0:UInt8);refine List.ext_getElem? fun m=>?_;by_cases hm:m<512
   ·rw[Q6v (by omega),dz _ (by omega) (by omega),List.getElem?_replicate,if_pos hm]
   ·rw[List.getElem?_eq_none,List.getElem?_eq_none]
    ·rw[zzlrp];omega
    ·rw[Q0E]
     ·omega
     ·rw[hbl];omega
  exact⟨⟨by omega,by omega,by omega,rfl,rfl⟩,rfl,rfl,rfl,List.replicate 512 0,zzlrp,hb16,rfl,rfl,rfl,Q00 (by rw[estr];simp) ⟨f2-1,by omega,j2+1,by rw[Q03 (by omega) (by omega)];omega,by omega,F14,h16,s16⟩⟩
 clear h13 s13 st13 h12 s12 st12 h11 s11;obtain⟨F15,h15,sub⟩:=Q07 (A:=rowT (.slice po2 L.length co2) L*rowT (.slice pp pg.length cp) pg) (B:=svX s sb y9 xe*D) (re h14 (by show rowT (.slice po2 L.length co2) L*(svX s sb y9 xe*(rowT (.slice pp pg.length cp) pg*D))=_;ac_rfl));have s15:=s14.sub sub;clear h14 s14 sub;refine⟨fun f i w'=>∃k:Nat,i=(k:Int) /\ f+k=l2.length /\ ∃y x F',AdInv s x.a /\ CapA (fun i=>if i=id then curA n.x.a id else 1) x.a /\ x.done.length<=130+13*k /\ (svX s sb y x*D).P w' F' /\ Step (· = 0) W F' w',⟨l2.length,0,rfl,rfl,y9,xe,F15,gx,cx,by omega,h15,s15⟩,?_⟩;clear h15 s15;rintro f3 jv3 i3 w16 ⟨k3,rfl,hf3,y,x,F16,g3,c3,d3,h16,s16⟩;refine Q05 (fun q=>?pos3) (fun q=>?neg3)
 case neg3=>exact Qaq h0 ho h16 rfl s16
 have q:=zzodt q;obtain⟨st,hst⟩:∃st,l2[k3]? = some st:=⟨_,zzgge (by omega)⟩;have stok:=ok2 st (zzmog hst);have row3:=Q5H (e:=62) (k:=7) (f:=spL) (v:=.slice pl l2.length cl) (l:=l2) (Y:=svX s sb y x*(rwT 33 1 u64F (.slice p gs.length c) gs*blk n0 (cfO P0 C0))) h16 (by show svX s sb y x*(rwT 33 1 u64F (.slice p gs.length c) gs*(stpsT (.slice pl l2.length cl) l2*blk n0 (cfO P0 C0)))=stpsT (.slice pl l2.length cl) l2*_;ac_rfl);obtain⟨a3,hp3,hc3⟩:=ORow.cells Q6x row3 hst;refine⟨by omega,by omega,?_⟩;rw[hp3,zztnc];refine⟨_,_,_,_,_,_,_,hc3,Qep h16 fun nb w17 F17 h17 s17=>?_⟩;have s17:=s16.trans s17;refine⟨_,_,_,_,_,_,Q5b (Q0c h17 rfl),?_⟩;have gi3:=Q1v (x:=x) g3 st.o;have dl3:=Q1K (s:=s) (x:=x) st.o;obtain⟨ci3,_⟩:=Q8X g3 c3 st.o;refine(Qgf (o:=st.o) g3 stok.h (by omega)).use (C:=skT nb st*D) h17 (sw4 _ _ _) fun v w18 F18 p18 st18=>?_;obtain⟨y18,rfl,h18⟩:=Q0l p18;have s18:=s17.trans st18;generalize doM s x st.o=d18 at h18 gi3 dl3 ci3 ⊢;refine⟨_,_,_,_,_,_,rfl,?_⟩;obtain⟨F19,h19,sub⟩:=Q07 (A:=skT nb st) (B:=svX s sb y18 d18.x*D) (re h18 (sw4 _ _ _));have s19:=s18.sub sub;have rowg:=Q5H (e:=33) (k:=1) (f:=u64F) (v:=.slice p gs.length c) (l:=gs) (Y:=svX s sb y18 d18.x*(stpsT (.slice pl l2.length cl) l2*blk n0 (cfO P0 C0))) h19 (sw4 _ _ _);have hcap:=Qee rowg;refine⟨_,w18,run_max_int2 w18 _ _ _ _ _ _,?_⟩
 have em:(if IntKind.i64.wrap (((gs.length:Nat):Int)-12)>0 then IntKind.i64.wrap (((gs.length:Nat):Int)-12)else 0)=((gs.length-12:Nat):Int):=by
  rw[Q03 (by omega) (by omega)];split <;> omega
 rw[em,zztnc,zztnc];refine⟨by omega,by omega,by omega,?_⟩;refine⟨fun f i w'=>∃m:Nat,i=(m:Int) /\ f+m=gs.length-(gs.length-12) /\ ∃y x F',AdInv s x.a /\ CapA (fun i=>if i=id then curA n.x.a id else 1) x.a /\ x.done.length<=131+13*k3+m /\ (svX s sb y x*D).P w' F' /\ Step (· = 0) W F' w',⟨gs.length-(gs.length-12),0,rfl,rfl,y18,d18.x,F19,gi3,ci3,by omega,h19,s19⟩,?_⟩;clear h19 s19 rowg h18 s18 st18 h17 s17 h16 s16;rintro f4 jv4 i4 w20 ⟨m4,rfl,hf4,y,x,F20,g4,c4,d4,h20,s20⟩;refine Q05 (fun q=>?pos4) (fun q=>?neg4)
 case neg4=>
  have q:=of_decide_eq_false q;exact⟨f3-1,by omega,k3+1,by rw[Q03 (by omega) (by omega)];omega,by omega,y,x,F20,g4,c4,by omega,h20,s20⟩
 have q:=zzodt q;obtain⟨hh,hhh⟩:∃hh,gs[gs.length-12+m4]? = some hh:=⟨_,zzgge (by omega)⟩;have rowg:=Q5H (e:=33) (k:=1) (f:=u64F) (v:=.slice p gs.length c) (l:=gs) (Y:=svX s sb y x*(stpsT (.slice pl l2.length cl) l2*blk n0 (cfO P0 C0))) h20 (sw4 _ _ _);obtain⟨a4,ha4,hc4⟩:=QeU rowg rfl hcap hhh;refine⟨by omega,by omega,?_⟩;rw[ha4,zztnc];have hmem:=zzmog hhh;refine⟨hh,hc4,?_⟩;have gi4:=Q1v (x:=x) g4 (usbO id hh);have dl4:=Q1K (s:=s) (x:=x) (usbO id hh);obtain⟨ci4,_⟩:=Q8X g4 c4 (usbO id hh);have bad:=Qe3 (s:=s) (x:=x) c4 hlt (h:=hh) (by rw[if_pos rfl];exact glt hh hmem);refine(Qgf (o:=usbO id hh) g4 (gu hh hmem) (by omega)).use (C:=D) h20 rfl fun v w21 F21 p21 st21=>?_;obtain⟨y21,rfl,h21⟩:=Q0l p21;have s21:=s20.trans st21;generalize doM s x (usbO id hh)=d21 at h21 gi4 dl4 ci4 bad ⊢;refine⟨_,_,_,_,_,_,rfl,?_⟩;refine Q8I h21 fun nb w22 F22 h22 s22=>?_;have s22:=s21.trans s22;have cE:w22.cell? ((zA nb).add 0)=some (.int .i64 d21.a.E):=by rw[Q02];exact Q01 (Q0c h22 rfl) rfl
 obtain⟨F23,h23,sub⟩:=Q07 h22;have fin:∃n211,n211<f4 /\ ∃m:Nat,IntKind.i64.wrap ((m4:Int)+1)=(m:Int) /\ n211+m=gs.length-(gs.length-12) /\ ∃y x F',AdInv s x.a /\ CapA (fun i=>if i=id then curA n.x.a id else 1) x.a /\ x.done.length<=131+13*k3+m /\ (svX s sb y x*D).P w22 F' /\ Step (· = 0) W F' w22:=
  ⟨f4-1,by omega,m4+1,by rw[Q03 (by omega) (by omega)];omega,by omega,y21,d21.x,F23,gi4,ci4,by omega,h23,s22.sub sub⟩
 rcases bad with e | e
 ·exact⟨_,cE,Q00 (by rw[e];rfl) fin⟩
 ·exact⟨_,cE,Q04 (by rw[e];rfl) ⟨_,cE,Q00 (by rw[e];rfl) fin⟩⟩
end
end Go.Proofs.YtpnbcakbefplpaaGreatDoor
