/- Texts merged: Ok5 Ok6 Ok7 Ok8 Ok9 Se1 Se2 Se3 Se4 Se5 Sq1 Aw1 Aw2 Sc1 Sc2 Sc3 Sc4 Sc5 Rn1 Rn2 Rn3 Rn4 Pl1 Pn1 VcN Pn2 Pn3 Wb1. Conditions: none. -/
import Derived.KernelRfl
import Derived.Laws.IdiomStrings
import Derived.Test.YtpnbcakbefplpaaGreatDoorProg
import Derived.Test.YtpnbcakbefplpaaGreatDoorM05
set_option linter.unusedVariables false
set_option linter.unusedSimpArgs false
namespace Go.Proofs.YtpnbcakbefplpaaGreatDoor
open _root_.Go.Proofs.Tryz (prog)
section
open Go.RowKit Go.Maps Thing
structure FreE (H H':Hp) (k m b:Nat):Prop where
 bks:∀k' m' b',k'<24->m'<sltN k'->b'<perM k'->(bk H' k' m' b' ↔ bk H k' m' b' /\ ¬(k'=k /\ m'=m /\ b'=b))
 us:∀k' m',k'<24->m'<sltN k'->usd H' k' m'+(if k'=k /\ m'=m then 1 else 0)=usd H k' m'
 sl:∀k',k'<24->slK H' k'<=slK H k'
 tk:∀k' m',k'<24->m'<sltN k'->(H'.sl k')[m']? = some true->(H.sl k')[m']? = some true
 use:k<8->(H'.sl k)[m]? = some true->1<=usd H' k m
section
variable{s:Sv}{A:Ax}{H H':Hp}
theorem Q6R{hs:List Bool}{m:Nat}(h:m<hs.length):Sf.giveH hs (m:Int)=hs.set m false:=by
 unfold Sf.giveH;rw[if_pos ⟨by omega,by omega⟩,zztnc]
theorem QcN{k m:Nat}(hml:m<(H.sl k).length)(el:H'.sl=updF H.sl k ((H.sl k).set m false))(k' m':Nat):(H'.sl k')[m']? = some true ↔ (H.sl k')[m']? = some true /\ ¬(k'=k /\ m'=m):=by
 rw[el];by_cases e:k'=k
 ·subst e;rw[Q0o,zzgst];by_cases z:m=m'
  ·subst z;rw[if_pos rfl,if_pos hml];simp
  ·rw[if_neg z];exact⟨fun a=>⟨a,fun b=>z b.2.symm⟩,fun a=>a.1⟩
 ·rw[Q0r e];exact⟨fun a=>⟨a,fun b=>e b.1⟩,fun a=>a.1⟩
theorem Q7v{H H':Hp}(h:∀k' m':Nat,(H'.sl k')[m']? = some true->(H.sl k')[m']? = some true)(k:Nat):slK H' k<=slK H k:=by
 unfold slK;refine Q9W fun m _=>?_;by_cases y:(H'.sl k)[m]? = some true
 ·rw[if_pos y,if_pos (h k m y)];exact Nat.le_refl _
 ·rw[if_neg y];exact Nat.zero_le _
theorem QdS{k m b:Nat}(hk:k<24)(h8:8<=k)(hm:m<sltN k)(hb:b<perM k)(ht:(H.sl k)[m]? = some true)(el:H'.sl=updF H.sl k ((H.sl k).set m false))(eS:H'.S=H.S):FreE H H' k m b:=by
 have hml:=(zzgsi.1 ht).1;have tk:=QcN hml el;have hp:perM k=1:=if_neg (by omega);refine⟨fun k' m' b' hk' hm' hb'=>?_,fun k' m' hk' hm'=>?_,fun k' _=>Q7v (fun k' m' y=>((tk k' m').1 y).1) k',fun k' m' _ _ y=>((tk k' m').1 y).1,fun z=>by omega⟩
 ·unfold bk;rw[tk,eS];constructor
  ·rintro⟨⟨a,c⟩,d⟩;exact⟨⟨a,d⟩,fun z=>c ⟨z.1,z.2.1⟩⟩
  ·rintro⟨⟨a,d⟩,c⟩;refine⟨⟨a,fun z=>c ⟨z.1,z.2,?_⟩⟩,d⟩;have:perM k'=1:=by rw[z.1];exact hp
   omega
 ·unfold usd;rw[eS];by_cases h:k'<8
  ·rw[if_pos h,if_pos h,if_neg (show ¬(k'=k /\ m'=m)from fun e=>by omega)];rfl
  ·rw[if_neg h,if_neg h];by_cases e:k'=k /\ m'=m
   ·rw[if_pos e,if_neg (fun z=>((tk k' m').1 z).2 e),if_pos];rw[e.1,e.2];exact ht
   ·rw[if_neg e];by_cases y:(H.sl k')[m']? = some true
    ·rw[if_pos y,if_pos ((tk k' m').2 ⟨y,e⟩)]
    ·rw[if_neg y,if_neg fun z=>y ((tk k' m').1 z).1]
theorem Q6O(g:HOk s A H){a:Int}{k m b:Nat}(eb:blkM H a=some (k,m,b)):FreE H (freM A H a).H k m b /\ (freM A H a).E=0:=by
 obtain⟨hk,hm,hbp,ea,ht,hS8⟩:=Q0T eb;have hml:=(zzgsi.1 ht).1;unfold freM;rw[eb];show FreE H (if 8<=k then _ else _:Mr).H k m b /\ (if 8<=k then _ else _:Mr).E=0;by_cases h8:8<=k
 ·rw[if_pos h8];exact⟨QdS hk h8 hm hbp ht (by show updF H.sl k (Sf.giveH (H.sl k) (m:Int))=_;rw[Q6R hml]) rfl,rfl⟩
 rw[if_neg h8];have k8:k<8:=by omega
 obtain⟨q,hS,hgb⟩:=hS8 k8;rw[hS];show FreE H (frP A (if _ then _ else _) k m b q).H k m b /\ (frP A (if _ then _ else _) k m b q).E=0;have hgk:q.kind=k:=by
  obtain⟨q',e1,e2⟩:=g.sm k m k8 ht;rw[hS] at e1;cases e1;exact e2
 obtain⟨_,pq,_⟩:=g.pg _ q hS;obtain⟨p,e1,e2,e3,e4⟩:=g.pgs hS;subst hgk;obtain⟨fr,pq',hhs⟩:=Qc8 (s:=q.q.st A.bs A.ts) k8 e3 e4 pq hgb;have hhs:(freS (unitN q.kind) (perN q.kind) q.base (q.q.st A.bs A.ts) (b:Int)).hs=q.q.hs.set b false:=hhs;generalize eHx:(if q.q.hs.count false=0 then H.push q.kind (locN q.kind m)else H)=Hx;have xS:Hx.S=H.S:=by rw[<-eHx];split <;> rfl
 have xsl:Hx.sl=H.sl:=by rw[<-eHx];split <;> rfl
 have hbl:=(zzgsi.1 hgb).1;have hget:∀b',(q.q.hs.set b false)[b']? = some true ↔ q.q.hs[b']? = some true /\ b' ≠ b:=fun b'=>by
  rw[zzgst];by_cases z:b=b'
  ·subst z;rw[if_pos rfl,if_pos hbl];simp
  ·rw[if_neg z];exact⟨fun y=>⟨y,fun w=>z w.symm⟩,fun y=>y.1⟩
 have old:∀b',bk H q.kind m b' ↔ q.q.hs[b']? = some true:=fun b'=>by
  unfold bk;exact⟨fun⟨_,c⟩=>by obtain⟨g,x,y⟩:=c k8;rw[hS] at x;cases x;exact y,fun y=>⟨ht,fun _=>⟨q,hS,y⟩⟩⟩
 have uold:usd H q.kind m=q.q.hs.count true:=by unfold usd;rw[if_pos k8,hS]
 have hcount:=Q2Y hgb;unfold frP;generalize freS (unitN q.kind) (perN q.kind) q.base (q.q.st A.bs A.ts) (b:Int)=st at hhs ⊢;by_cases hz:st.hs.count true=0
 ·rw[if_pos hz];refine⟨?_,rfl⟩;generalize eH':reH (((Hx.page (locN q.kind m) q st).cut q.kind (locN q.kind m)).gone (locN q.kind m)) q.kind m=H';have el:H'.sl=updF H.sl q.kind ((H.sl q.kind).set m false):=by
   rw[<-eH'];show updF Hx.sl q.kind (Sf.giveH (Hx.sl q.kind) (m:Int))=_;rw[xsl,Q6R hml]
  have eS:∀v,v ≠ (locN q.kind m:Int)->H'.S v=H.S v:=fun v hv=>by
   rw[<-eH'];show updI (updI Hx.S (locN q.kind m) _) (locN q.kind m) none v=_;rw[Q0u hv,Q0u hv,xS]
  have eSn:H'.S (locN q.kind m)=none:=by
   rw[<-eH'];show updI (updI Hx.S (locN q.kind m) _) (locN q.kind m) none _=_;rw[Q0z]
  have tk:=QcN hml el;refine⟨fun k' m' b' hk' hm' hb'=>?_,fun k' m' hk' hm'=>?_,fun k' _=>Q7v (fun k' m' y=>((tk k' m').1 y).1) k',fun k' m' _ _ y=>((tk k' m').1 y).1,fun _ y=>absurd ⟨rfl,rfl⟩ ((tk _ _).1 y).2⟩
  ·by_cases e:k'=q.kind /\ m'=m
   ·rw[e.1,e.2,old];constructor
    ·rintro⟨y,_⟩;exact absurd ⟨rfl,rfl⟩ ((tk _ _).1 y).2
    ·rintro⟨y,c⟩;have:=(hget b').2 ⟨y,fun z=>c ⟨rfl,rfl,z⟩⟩;rw[<-hhs] at this;exact absurd (zzmog this) (List.count_eq_zero.1 hz)
   ·unfold bk;rw[tk];constructor
    ·rintro⟨⟨y,_⟩,c⟩;refine⟨⟨y,fun z=>?_⟩,fun z=>e ⟨z.1,z.2.1⟩⟩;have:=c z;rw[eS _ (fun q=>e (Q0M hk' hm' hk hm q))] at this;exact this
    ·rintro⟨⟨y,c⟩,_⟩;refine⟨⟨y,e⟩,fun z=>?_⟩;rw[eS _ (fun q=>e (Q0M hk' hm' hk hm q))];exact c z
  ·by_cases e:k'=q.kind /\ m'=m
   ·rw[if_pos e,e.1,e.2,uold];unfold usd;rw[if_pos k8,eSn];rw[hhs] at hz;show 0+1=_;omega
   ·rw[if_neg e];unfold usd;by_cases h:k'<8
    ·rw[if_pos h,if_pos h,eS _ (fun q=>e (Q0M hk' hm' hk hm q))];rfl
    ·rw[if_neg h,if_neg h];by_cases y:(H.sl k')[m']? = some true
     ·rw[if_pos y,if_pos ((tk k' m').2 ⟨y,e⟩)]
     ·rw[if_neg y,if_neg fun z=>y ((tk k' m').1 z).1]
 ·rw[if_neg hz];refine⟨?_,rfl⟩;have eS:(Hx.page (locN q.kind m) q st).S=updI H.S (locN q.kind m) (some {q with q:=st.pq}):=by show updI Hx.S _ _=_;rw[xS]
  have el:(Hx.page (locN q.kind m) q st).sl=H.sl:=xsl;refine⟨fun k' m' b' hk' hm' hb'=>?_,fun k' m' hk' hm'=>?_,fun k' _=>Nat.le_of_eq (Q27 el k'),fun k' m' _ _ y=>by rw[<-el];exact y,fun _ _=>?_⟩
  ·show bk (Hx.page (locN q.kind m) q st) k' m' b' ↔ _;rw[Q5Z k8 hm eS el b' hk' hm'];by_cases e:k'=q.kind /\ m'=m
   ·rw[if_pos e,e.1,e.2,old];show _ /\ st.hs[b']? = some true ↔ _;rw[hhs,hget];exact⟨fun y=>⟨y.2.1,fun z=>y.2.2 z.2.2⟩,fun y=>⟨ht,y.1,fun z=>y.2 ⟨rfl,rfl,z⟩⟩⟩
   ·rw[if_neg e];exact⟨fun y=>⟨y,fun z=>e ⟨z.1,z.2.1⟩⟩,fun y=>y.1⟩
  ·show usd (Hx.page (locN q.kind m) q st) k' m'+_=_;rw[Q2T k8 hm eS el hk' hm'];by_cases e:k'=q.kind /\ m'=m
   ·rw[if_pos e,if_pos e,e.1,e.2,uold];show st.hs.count true+1=_;rw[hhs];exact hcount
   ·rw[if_neg e,if_neg e];rfl
  ·show 1<=usd (Hx.page (locN q.kind m) q st) q.kind m;rw[Q2T k8 hm eS el hk hm,if_pos ⟨rfl,rfl⟩];show 1<=st.hs.count true;omega
theorem QdB(g:HOk s A H){win:List Int}(hw:win.length<=32):SamE H (movM s A H win).H:=by
 unfold movM;by_cases hc:(outL s A.cs H.T win).length<=Cl.cnt A.cs s.C win
 case neg=>rw[if_neg hc];exact SamE.refl H
 rw[if_pos hc];obtain⟨a,b,c⟩:=Q6c (A0:=A) (B:=H) _ A {H with win:=win} (Q4y g hw hc) (Q5l g win);generalize(mvN s (outL s A.cs H.T win) A {H with win:=win}).1=A' at a b c ⊢;generalize(mvN s (outL s A.cs H.T win) A {H with win:=win}).2=H' at a b c ⊢;show SamE H H';have hS:∀v,(∃q,H'.S v=some q) ↔ ∃q,H.S v=some q:=fun v=>⟨fun⟨q,h⟩=>by obtain⟨q0,x,_⟩:=b.pg v q h;exact⟨q0,x⟩,fun⟨q,h⟩=>by obtain⟨q0,x,_⟩:=b.sm v q h;exact⟨q0,x⟩⟩;refine⟨fun k m b' _ _ _=>?_,fun k m _ _=>?_,fun k _=>Q27 b.sl k,fun k m _ _=>by rw[b.sl]⟩
 ·unfold bk;rw[b.sl];refine and_congr Iff.rfl (forall_congr' fun _=>?_);constructor
  ·rintro⟨q,x,y⟩;obtain⟨q0,u1,u2,u3,_⟩:=b.pg _ q x;exact⟨q0,u1,by rw[<-u3];exact y⟩
  ·rintro⟨q,x,y⟩;obtain⟨q0,u1,u2,u3⟩:=b.sm _ q x;exact⟨q0,u1,by rw[u3];exact y⟩
 ·unfold usd;rw[b.sl];split
  ·cases h:H'.S (locN k m)with
   | none=>
    cases h':H.S (locN k m)with
    | none=>rfl
    | some q0=>obtain⟨q,u,_⟩:=b.sm _ q0 h';rw[h] at u;cases u
   | some q=>
    obtain⟨q0,u1,u2,u3,_⟩:=b.pg _ q h;rw[u1];show q.q.hs.count true=q0.q.hs.count true;rw[u3]
  ·rfl
end
end
section
open Go.RowKit Go.Maps Thing
structure TnInv (s:Sv) (A:Ax) (t:Tn):Prop where
 ok:TnOk s A t
 ob1:∀a v,t.ob a=some v->∃k m b,blkM t.H a=some (k,m,b) /\ 1<=v /\ v<=(untN k:Int)
 ob2:∀a k m b,blkM t.H a=some (k,m,b)->(t.ob a).isSome=true
 cb:t.q.cb=chgH t.H
 r0:t.q.rb=0 /\ t.q.rp=0
 cp:t.q.cp=t.H.T.length
 pk:MayQ t.peak /\ (t.q.lb:Int)<=t.peak
 pgs:∀k,k<8->slK t.H k<=byN k t.peak.toNat
 use:∀k m,k<8->m<sltN k->(t.H.sl k)[m]? = some true->1<=usd t.H k m
 dem:demN t.peak.toNat<=t.q.lp
section
variable{s:Sv}{A A':Ax}{H H' H'':Hp}{t t':Tn}
theorem QbX{k m:Nat}{f g:Nat->Nat}(hm:m<sltN k)(h:∀m',m'<sltN k->f m'=g m'+if m'=m then 1 else 0):sumR (sltN k) f=sumR (sltN k) g+1:=by
 have:=Q4L (f:=f) (g:=g) hm fun i hi he=>by rw[h i hi,if_neg he];rfl
 have h2:=h m hm;rw[if_pos rfl] at h2;omega
theorem Q8x{k m:Nat}(hk:k<24)(hm:m<sltN k)(h:∀k' m',k'<24->m'<sltN k'->usd H' k' m'=usd H k' m'+if k'=k /\ m'=m then 1 else 0):chgH H'=chgH H+untN k:=by
 have h1:∀k',k'<24->k' ≠ k->usdK H' k'=usdK H k':=fun k' hk' he=>Q0q fun m' hm'=>by rw[h k' m' hk' hm',if_neg (fun z=>he z.1)];rfl
 have h2:usdK H' k=usdK H k+1:=QbX hm fun m' hm'=>by
  rw[h k m' hk hm'];by_cases e:m'=m
  ·rw[if_pos ⟨rfl,e⟩,if_pos e]
  ·rw[if_neg (fun z=>e z.2),if_neg e]
 unfold chgH;have:=Q4L (f:=fun k=>usdK H' k*untN k) (g:=fun k=>usdK H k*untN k) hk fun i hi he=>by rw[h1 i hi he]
 simp only[h2,Nat.add_mul,Nat.one_mul] at this;omega
theorem SamE.usdK(h:SamE H H'){k:Nat}(hk:k<24):usdK H' k=usdK H k:=Q0q fun m hm=>h.us k m hk hm
theorem SamE.chg(h:SamE H H'):chgH H'=chgH H:=Q0q fun k hk=>by rw[h.usdK hk]
theorem SamE.len(h:SamE H H')(g:HOk s A H)(g':HOk s A' H'):H'.T.length=H.T.length:=by
 rw[Q21 g,Q21 g'];exact Q0q fun k hk=>by rw[h.sl k hk]
theorem SamE.blk(h:SamE H H')(a:Int):blkM H' a=blkM H a:=by
 refine Q3f fun x=>?_;obtain⟨k,m,b⟩:=x;constructor
 ·intro e;obtain⟨hk,hm,hb,rfl,hbk⟩:=Q15 e;exact(Q1o hk hm hb).2 ((h.bks k m b hk hm hb).1 hbk)
 ·intro e;obtain⟨hk,hm,hb,rfl,hbk⟩:=Q15 e;exact(Q1o hk hm hb).2 ((h.bks k m b hk hm hb).2 hbk)
theorem TnInv.same(g:TnInv s A t)(ok:TnOk s A' t')(h:SamE t.H t'.H)(ho:t'.ob=t.ob)(hq:t'.q=t.q)(hp:t'.peak=t.peak):TnInv s A' t':=by
 refine⟨ok,fun a v hv=>?_,fun a k m b hb=>?_,by rw[hq,h.chg];exact g.cb,by rw[hq];exact g.r0,by rw[hq,h.len g.ok.h ok.h];exact g.cp,by rw[hq,hp];exact g.pk,fun k hk=>by rw[h.sl k (by omega),hp];exact g.pgs k hk,fun k m hk hm ht=>?_,by rw[hq,hp];exact g.dem⟩
 ·rw[ho] at hv;rw[h.blk];exact g.ob1 a v hv
 ·rw[h.blk] at hb;rw[ho];exact g.ob2 a k m b hb
 ·rw[h.us k m (by omega) hm];exact g.use k m hk hm ((h.tk k m (by omega) hm).1 ht)
theorem Q7G(g:HOk s A H){k m:Nat}(hk:k<24)(hm:m<sltN k)(ht:(H.sl k)[m]? ≠ some true):usd H k m=0:=by
 unfold usd;by_cases h8:k<8
 ·rw[if_pos h8];cases hS:H.S (locN k m)with
  | none=>rfl
  | some q=>
   obtain⟨a1,_,m',a3,a4,a5,_⟩:=g.pg _ q hS;obtain⟨e1,e2⟩:=Q0M hk hm (by omega) a3 a4;rw[<-e1,<-e2] at a5;exact absurd a5 ht
 ·rw[if_neg h8,if_neg ht]
theorem Qex{k m b:Nat}(g:HOk s A H)(g'':HOk s A' H'')(use:∀k m,k<8->m<sltN k->(H.sl k)[m]? = some true->1<=usd H k m)(h:MalE H H' k m b)(f:FreE H' H'' k m b):SamE H H'':=by
 have us:∀k' m',k'<24->m'<sltN k'->usd H'' k' m'=usd H k' m':=fun k' m' hk hm=>by
  have h1:=h.us k' m' hk hm;have h2:=f.us k' m' hk hm;omega
 have tk:∀k' m',k'<24->m'<sltN k'->((H''.sl k')[m']? = some true ↔ (H.sl k')[m']? = some true):=fun k' m' hk hm=>by
  constructor
  ·intro z;rcases h.tk k' m' hk hm (f.tk k' m' hk hm z)with y | y
   ·exact y
   ·refine Classical.byContradiction fun w=>?_;have h0:=Q7G g hk hm w;rw[<-us k' m' hk hm] at h0;by_cases h8:k'<8
    ·have:=f.use (by rw[<-y.1];exact h8) (by rw[<-y.1,<-y.2];exact z);rw[<-y.1,<-y.2] at this;omega
    ·unfold usd at h0;rw[if_neg h8,if_pos z] at h0;omega
  ·intro z;refine Classical.byContradiction fun w=>?_;have h0:=Q7G g'' hk hm w;rw[us k' m' hk hm] at h0;by_cases h8:k'<8
   ·have:=use k' m' h8 hm z;omega
   ·unfold usd at h0;rw[if_neg h8,if_pos z] at h0;omega
 refine⟨fun k' m' b' hk hm hb=>?_,us,fun k' hk=>?_,tk⟩
 ·rw[f.bks k' m' b' hk hm hb,h.bks k' m' b' hk hm hb];constructor
  ·rintro⟨y | y,z⟩
   ·exact y
   ·exact absurd y z
  ·intro y;exact⟨.inl y,fun z=>h.no (by rw[<-z.1,<-z.2.1,<-z.2.2];exact y)⟩
 ·unfold slK;refine Q0q fun m' hm=>?_;by_cases y:(H.sl k')[m']? = some true
  ·rw[if_pos y,if_pos ((tk k' m' hk hm).2 y)]
  ·rw[if_neg y,if_neg fun z=>y ((tk k' m' hk hm).1 z)]
theorem Qd2{k n p:Nat}(h8:k<8)(h:n*perN k*untN k+untN k<=p):n+1<=byN k p:=by
 obtain⟨c1,c2,c3,c4,c5⟩:=Q0g h8;have eu:untN k=unitN k:=if_pos h8;rw[eu] at h;unfold byN;have h1:(n*perN k+1)*unitN k<=p:=by rw[Nat.add_mul,Nat.one_mul];exact h
 have h2:n*perN k+1<=p / unitN k:=(Nat.le_div_iff_mul_le (by omega)).2 h1;refine(Nat.le_div_iff_mul_le (by omega)).2 ?_;rw[Nat.add_mul,Nat.one_mul];omega
theorem Q8y{n:Int}(h:1<=n /\ n<=8192):n<=(untN (clsN n.toNat):Int):=by
 by_cases h2:n<=256
 ·obtain⟨a,b,_⟩:=Q3E (n:=n.toNat) (by omega);have:untN (clsN n.toNat)=unitN (clsN n.toNat):=if_pos a;rw[this];omega
 ·have e:clsN n.toNat=8+(n.toNat-1) / 512:=by unfold clsN;rw[if_pos (by omega)]
  have:untN (clsN n.toNat)=(clsN n.toNat-7)*512:=if_neg (by rw[e];omega);rw[this,e];omega
theorem Q4q(g:TnInv s A t)(n:Int):TnInv s (getM s A t n).A (getM s A t n).t:=by
 have go:=Q5d g.ok n;obtain⟨mle,_,i0,i1⟩:=Q4u (s:=s) (A:=A) (H:=t.H) n;obtain⟨ef0,ef1⟩:=Qbg g.ok.h n;have keep:=(Q1u g.ok.h n).ok;have hok:=go.ok;unfold getM at hok ⊢;split at hok
 ·rename_i h0;rw[if_pos h0];exact g
 rename_i h0;rw[if_neg h0];have hn:1<=n /\ n<=8192:=by
  unfold chgI at h0;split at h0
  ·rename_i z;exact z
  ·exact absurd rfl h0
 have ec:chgI n=(untN (clsN n.toNat):Int):=if_pos hn;have ecl:clsI n=(clsN n.toNat:Int):=if_pos hn;have ecn:(chgI n).toNat=untN (clsN n.toNat):=by rw[ec,zztnc]
 rw[ecn] at hok ⊢;have hcu:=Q8y hn;generalize clsN n.toNat=k at hok ecl hcu ⊢;split at hok
 ·rename_i h1;rw[if_pos h1];exact g
 rename_i h1;rw[if_neg h1];have h1:=Classical.not_not.1 h1;obtain⟨f1,f2⟩:=h1;have r0:=g.r0;have eq0:∀(c:Nat),({t.q with rb:=t.q.rb+c-c,rp:=t.q.rp+0-0}:Qu)=t.q:=fun c=>by
  have:t.q.rb+c-c=t.q.rb:=by omega
  rw[this];rfl
 split at hok
 ·rename_i h2;rw[if_pos h2];exact g.same hok (SamE.refl _) rfl (eq0 _) rfl
 rename_i h2;rw[if_neg h2];split at hok
 ·rename_i h3;rw[if_pos h3];exact g.same hok (ef1 h3) rfl (eq0 _) rfl
 rename_i h3;rw[if_neg h3];have h3:=Classical.not_not.1 h3;obtain⟨k',m,b,ek,eI,mal⟩:=ef0 h3;have ek:k'=k:=by rw[ecl] at ek;omega
 subst ek;have eb:blkM (malM s A t.H n).H (malM s A t.H n).I=some (k',m,b):=by
  rw[eI];exact(Q1o mal.k24 mal.hm mal.hb).2 ((mal.bks k' m b mal.k24 mal.hm mal.hb).2 (.inr ⟨rfl,rfl,rfl⟩))
 have und:∀(hok:TnOk s (undM (malM s A t.H n).A (((t.res (untN k') 0).mal s A n).gra (malM s A t.H n).I) (malM s A t.H n).I (untN k')).A (undM (malM s A t.H n).A (((t.res (untN k') 0).mal s A n).gra (malM s A t.H n).I) (malM s A t.H n).I (untN k')).t),TnInv s (undM (malM s A t.H n).A (((t.res (untN k') 0).mal s A n).gra (malM s A t.H n).I) (malM s A t.H n).I (untN k')).A (undM (malM s A t.H n).A (((t.res (untN k') 0).mal s A n).gra (malM s A t.H n).I) (malM s A t.H n).I (untN k')).t:=fun hok=>by
  have fr:=(Q6O keep eb).1;exact g.same hok (Qex g.ok.h hok.h g.use mal fr) rfl (eq0 _) rfl
 split at hok
 ·rename_i h4;rw[if_pos h4];exact und hok
 rename_i h4;rw[if_neg h4];split at hok
 ·rename_i h5;rw[if_pos h5];exact und hok
 rename_i h5;rw[if_neg h5];have hchg:=Q8x mal.k24 mal.hm mal.us;have hcb:=g.cb;have hpk:=g.pk;refine⟨hok,fun a v hv=>?_,fun a k2 m2 b2 hb2=>?_,?_,?_,?_,hpk,fun k2 hk2=>?_,fun k2 m2 hk2 hm2 ht2=>?_,g.dem⟩
 ·have hv:updI t.ob (malM s A t.H n).I (some n) a=some v:=hv;show ∃k m b,blkM (malM s A t.H n).H a=some (k,m,b) /\ _;by_cases e:a=(malM s A t.H n).I
  ·rw[e,Q0z] at hv;cases hv;rw[e,eb];exact⟨k',m,b,rfl,hn.1,hcu⟩
  ·rw[Q0u e] at hv;obtain⟨k2,m2,b2,e1,e2⟩:=g.ob1 a v hv;obtain⟨hk,hm,hb,rfl,hbk⟩:=Q15 e1;exact⟨k2,m2,b2,(Q1o hk hm hb).2 ((mal.bks k2 m2 b2 hk hm hb).2 (.inl hbk)),e2⟩
 ·have hb2:blkM (malM s A t.H n).H a=some (k2,m2,b2):=hb2;show(updI t.ob (malM s A t.H n).I (some n) a).isSome=true;by_cases e:a=(malM s A t.H n).I
  ·rw[e,Q0z];rfl
  ·rw[Q0u e];obtain⟨hk,hm,hb,rfl,hbk⟩:=Q15 hb2;rcases(mal.bks k2 m2 b2 hk hm hb).1 hbk with y | y
   ·exact g.ob2 _ k2 m2 b2 ((Q1o hk hm hb).2 y)
   ·exact absurd (by rw[eI,y.1,y.2.1,y.2.2]) e
 ·show t.q.cb+untN k'=chgH (malM s A t.H n).H;rw[hchg,hcb]
 ·show t.q.rb+untN k'+0-untN k'=0 /\ t.q.rp+0+((malM s A t.H n).H.T.length-t.H.T.length)-((malM s A t.H n).H.T.length-t.H.T.length)=0;omega
 ·show t.q.cp+((malM s A t.H n).H.T.length-t.H.T.length)=(malM s A t.H n).H.T.length;have:=g.cp;omega
 ·show slK (malM s A t.H n).H k2<=byN k2 t.peak.toNat
  rcases mal.sl k2 (by omega)with y | ⟨y1,y2,y3⟩
  ·rw[y];exact g.pgs k2 hk2
  ·rw[y2];subst y1;refine Qd2 hk2 ?_;have hu:=y3 hk2;have h1:usdK t.H k2*untN k2<=chgH t.H:=QbC (fun k=>usdK t.H k*untN k) (by omega);rw[hu] at h1;have:=hpk.2;omega
 ·show 1<=usd (malM s A t.H n).H k2 m2;have ht2:((malM s A t.H n).H.sl k2)[m2]? = some true:=ht2;have hu:=mal.us k2 m2 (by omega) hm2;rcases mal.tk k2 m2 (by omega) hm2 ht2 with y | y
  ·have:=g.use k2 m2 hk2 hm2 y;omega
  ·rw[if_pos y] at hu;omega
theorem Q91(g:TnInv s A t)(a:Int):TnInv s (putA A t a) (putM A t a):=by
 have hok:=(Q8S g.ok a).ok;cases eb:blkM t.H a with
 | none=>
  have e1:freM A t.H a=⟨0,13,A,t.H⟩:=by unfold freM;rw[eb]
  have e2:usbI t.H a=0:=by unfold usbI;rw[eb]
  refine g.same hok ?_ ?_ ?_ rfl
  ·show SamE t.H (freM A t.H a).H;rw[e1];exact SamE.refl _
  ·show updI t.ob a none=t.ob;have:t.ob a=none:=by
    cases h:t.ob a with
    | none=>rfl
    | some v=>obtain⟨k,m,b,e,_⟩:=g.ob1 a v h;rw[eb] at e;cases e
   rw[<-this,Q5P]
  ·show qrefM t.q (usbI t.H a).toNat (t.H.T.length-(freM A t.H a).H.T.length)=t.q;rw[e1,e2];show qrefM t.q 0 (t.H.T.length-t.H.T.length)=t.q;rw[Nat.sub_self];unfold qrefM;rw[if_pos ⟨Nat.zero_le _,Nat.zero_le _⟩];rfl
 | some x=>
  obtain⟨k,m,b⟩:=x;obtain⟨hk,hm,hb,rfl,hbk⟩:=Q15 eb;obtain⟨fr,_⟩:=Q6O g.ok.h eb;have e2:usbI t.H (adrN k m b)=(untN k:Int):=by unfold usbI;rw[eb]
  have hchg:chgH t.H=chgH (freM A t.H (adrN k m b)).H+untN k:=Q8x hk hm fun k' m' a c=>(fr.us k' m' a c).symm;have hle:=(Q4h A t.H (adrN k m b)).1;have hcb:=g.cb;have hcp:=g.cp;have eq:(putM A t (adrN k m b)).q={t.q with cb:=t.q.cb-untN k,cp:=t.q.cp-(t.H.T.length-(freM A t.H (adrN k m b)).H.T.length)}:=by
   show qrefM t.q (usbI t.H (adrN k m b)).toNat (t.H.T.length-(freM A t.H (adrN k m b)).H.T.length)=_;rw[e2,zztnc];exact if_pos ⟨by omega,by omega⟩
  refine⟨hok,fun a v hv=>?_,fun a k2 m2 b2 hb2=>?_,?_,by rw[eq];exact g.r0,?_,by rw[eq];exact g.pk,fun k2 hk2=>?_,fun k2 m2 hk2 hm2 ht2=>?_,by rw[eq];exact g.dem⟩
  ·have hv:updI t.ob (adrN k m b) none a=some v:=hv;show ∃k' m' b',blkM (freM A t.H (adrN k m b)).H a=some (k',m',b') /\ _;by_cases e:a=(adrN k m b:Int)
   ·rw[e,Q0z] at hv;cases hv
   ·rw[Q0u e] at hv;obtain⟨k2,m2,b2,e1,e3⟩:=g.ob1 a v hv;obtain⟨hk2,hm2,hb2,rfl,hbk2⟩:=Q15 e1;exact⟨k2,m2,b2,(Q1o hk2 hm2 hb2).2 ((fr.bks k2 m2 b2 hk2 hm2 hb2).2 ⟨hbk2,fun z=>e (by rw[z.1,z.2.1,z.2.2])⟩),e3⟩
  ·have hb2:blkM (freM A t.H (adrN k m b)).H a=some (k2,m2,b2):=hb2;obtain⟨hk2,hm2,hbb2,rfl,hbk2⟩:=Q15 hb2;obtain⟨y,z⟩:=(fr.bks k2 m2 b2 hk2 hm2 hbb2).1 hbk2;show(updI t.ob (adrN k m b) none (adrN k2 m2 b2)).isSome=true;rw[Q0u]
   ·exact g.ob2 _ k2 m2 b2 ((Q1o hk2 hm2 hbb2).2 y)
   ·intro e;exact z (QcU hk2 hm2 hbb2 hk hm hb (by omega))
  ·rw[eq];show t.q.cb-untN k=chgH (freM A t.H (adrN k m b)).H;omega
  ·rw[eq];show t.q.cp-(t.H.T.length-(freM A t.H (adrN k m b)).H.T.length)=(freM A t.H (adrN k m b)).H.T.length;omega
  ·exact Nat.le_trans (fr.sl k2 (by omega)) (g.pgs k2 hk2)
  ·show 1<=usd (freM A t.H (adrN k m b)).H k2 m2;have ht2:((freM A t.H (adrN k m b)).H.sl k2)[m2]? = some true:=ht2;by_cases e:k2=k /\ m2=m
   ·rw[e.1,e.2] at ht2 ⊢;exact fr.use (by rw[<-e.1];exact hk2) ht2
   ·have hu:=fr.us k2 m2 (by omega) hm2;rw[if_neg e] at hu;have:=g.use k2 m2 hk2 hm2 (fr.tk k2 m2 (by omega) hm2 ht2);omega
theorem Q3M(g:TnInv s A t)(ok:TnOk s A' t):TnInv s A' t:=g.same ok (SamE.refl _) rfl rfl rfl
theorem Qdq(g:TnInv s A t){a n:Int}(ok:TnOk s A (t.add a n)){k m b:Nat}(eb:blkM t.H a=some (k,m,b))(hn:1<=n /\ n<=(untN k:Int)):TnInv s A (t.add a n):=by
 refine⟨ok,fun a' v hv=>?_,fun a' k' m' b' hb=>?_,g.cb,g.r0,g.cp,g.pk,g.pgs,g.use,g.dem⟩
 ·have hv:updI t.ob a (some n) a'=some v:=hv;show ∃k m b,blkM t.H a'=some (k,m,b) /\ _;by_cases e:a'=a
  ·rw[e,Q0z] at hv;cases hv;rw[e];exact⟨k,m,b,eb,hn⟩
  ·rw[Q0u e] at hv;exact g.ob1 a' v hv
 ·have hb:blkM t.H a'=some (k',m',b'):=hb;show(updI t.ob a (some n) a').isSome=true;by_cases e:a'=a
  ·rw[e,Q0z];rfl
  ·rw[Q0u e];exact g.ob2 a' k' m' b' hb
theorem Qdr(g:TnInv s A t)(o:Op):TnInv s (askM s A t o).A (askM s A t o).t:=by
 have hok:=(Qc9 g.ok o).ok;have sm:=g.ok.h.small;unfold askM at hok ⊢;split at hok
 ·rename_i h;rw[if_pos h];exact Q4q g _
 rename_i h;rw[if_neg h];split at hok
 ·rename_i h;rw[if_pos h];unfold calR;cases calM o.N o.M with
  | none=>exact g
  | some m=>exact Q4q g m
 rename_i h;rw[if_neg h];split at hok
 ·rename_i h;rw[if_pos h];unfold freR;cases fnO t.id t.S o.H 4 with
  | none=>exact g
  | some a=>exact Q91 g a
 rename_i h;rw[if_neg h];split at hok
 ·rename_i h;rw[if_pos h];unfold rlcR at hok ⊢;cases e:fnO t.id t.S o.H 4 with
  | none=>exact g
  | some a=>
   rw[e] at hok;dsimp only at hok ⊢;split at hok
   ·rename_i h;rw[if_pos h];exact g
   rename_i hc;rw[if_neg hc];have hn:1<=o.N /\ o.N<=8192:=by
    unfold clsI at hc;split at hc
    ·rename_i z;exact z
    ·omega
   split at hok
   ·rename_i h;rw[if_pos h];split at hok
    ·rename_i h;rw[if_pos h];have h1:=Q4q g o.N;have h2:=Q3M h1 (A':=cpyA (getM s A t o.N).A (getM s A t o.N).t.H.T (getM s A t o.N).ad a ((t.ob a).getD 0)) (Q1C h1.ok _ (Q62 _ _ _ _ _ h1.ok.h.small)).ok;exact Q91 h2 a
    ·rename_i h;rw[if_neg h];exact Q4q g _
   ·rename_i h;rw[if_neg h];have ec:chgI o.N=(untN (clsN o.N.toNat):Int):=if_pos hn;have hcu:=Q8y hn;rw[ec] at h;cases eb:blkM t.H a with
    | none=>
     have:usbI t.H a=0:=by unfold usbI;rw[eb]
     rw[this] at h;omega
    | some x=>
     obtain⟨k,m,b⟩:=x;have:usbI t.H a=(untN k:Int):=by unfold usbI;rw[eb]
     rw[this] at h;have key:∀A',TnOk s A' t->TnOk s A' (t.add a o.N)->TnInv s A' (t.add a o.N):=fun A' y z=>Qdq (Q3M g y) z eb ⟨hn.1,by omega⟩;split at hok
     ·rename_i h;rw[if_pos h];exact key _ (Q1C g.ok _ (Q6x _ (Q3w _ _ _ _ sm).1)).ok hok
     ·rename_i h;rw[if_neg h];exact key _ g.ok hok
 rename_i h;rw[if_neg h];split at hok
 ·rename_i h;rw[if_pos h];exact g
 rename_i h;rw[if_neg h];split at hok
 ·rename_i h;rw[if_pos h];have ht:=QdM A t o.H o.N o.M;rw[ht] at hok ⊢;exact Q3M g hok
 rename_i h;rw[if_neg h];split at hok
 ·rename_i h;rw[if_pos h];have ht:=Qez A t o.H o.N o.D;rw[ht] at hok ⊢;exact Q3M g hok
 ·rename_i h;rw[if_neg h];exact g.same hok (SamE.refl _) rfl rfl rfl
end
end
section
open Go.RowKit Go.Maps Thing
theorem Qew{hs:List Bool}(h:1<=hs.count false):∃j:Nat,j<hs.length /\ hs[j]? = some false /\ Sf.takeI hs=(j:Int) /\ Sf.takeH hs=hs.set j true:=by
 cases e:hs.findIdx? (fun b=>!b)with
 | none=>
  have:=List.findIdx?_eq_none_iff.1 e;have:hs.count false=0:=List.count_eq_zero.2 fun q=>by have:=this false q;simp at this
  omega
 | some j=>
  obtain⟨hj,hv,_⟩:=List.findIdx?_eq_some_iff_getElem.1 e;refine⟨j,hj,?_,by unfold Sf.takeI;rw[e],by unfold Sf.takeH;rw[e]⟩;rw[zzgge hj];simpa using hv
structure TkF (hs hs':List Bool) (l:List Int) (k:Nat):Prop where
 len:hs'.length=hs.length
 nd:l.Nodup
 rng:∀c ∈ l,0<=c /\ c.toNat<hs.length /\ hs[c.toNat]? = some false
 iff:∀c:Nat,hs'[c]? = some true ↔ hs[c]? = some true \/ (c:Int) ∈ l
 cnt:hs'.count false+k=hs.count false
theorem Q4Q(hs:List Bool):∀k,k<=hs.count false->TkF hs (tkH hs k) (tkL hs k) k
 | 0,_=>⟨rfl,List.nodup_nil,fun c h=>(by cases h),fun c=>by simp[tkH,tkL],rfl⟩
 | k+1,h=>by
  have g:=Q4Q hs k (by omega);have gc:=g.cnt;obtain⟨j,hj,hf,e1,e2⟩:=Qew (hs:=tkH hs k) (by omega);have hjl:j<hs.length:=by have:=g.len;omega
  have hjn:(j:Int) ∉ tkL hs k:=fun z=>by
   have:=(g.iff j).2 (.inr z);rw[hf] at this;cases this
  have hjf:hs[j]? = some false:=by
   rw[zzgge hjl];cases hb:hs[j]
   ·rfl
   ·have:=(g.iff j).2 (.inl (by rw[zzgge hjl,hb]));rw[hf] at this;cases this
  rw[tkH,tkL,e1,e2];refine⟨by rw[List.length_set];exact g.len,List.nodup_append.2 ⟨g.nd,by simp,fun a ha b hb=>?_⟩,fun c hc=>?_,fun c=>?_,?_⟩
  ·simp at hb;subst hb;rintro rfl;exact hjn ha
  ·rcases zzmpd.1 hc with hc | hc
   ·exact g.rng c hc
   ·simp at hc;subst hc;exact⟨by omega,by rw[zztnc];exact hjl,by rw[zztnc];exact hjf⟩
  ·rw[Q0E hj,g.iff,zzmpd,List.mem_singleton];constructor
   ·rintro(z | z | z)
    ·exact .inr (.inr (by rw[z]))
    ·exact .inl z
    ·exact .inr (.inl z)
   ·rintro(z | z | z)
    ·exact .inr (.inl z)
    ·exact .inr (.inr z)
    ·exact .inl (by omega)
  ·have:=Q1X hf;omega
theorem Q6S(l:List Int):∀hs:List Bool,(∀c ∈ l,0<=c /\ c.toNat<hs.length)->(gvH hs l).length=hs.length /\ ∀c:Nat,(gvH hs l)[c]? = some true ↔ hs[c]? = some true /\ (c:Int) ∉ l:=by
 induction l with
 | nil=>intro hs _;exact⟨rfl,fun c=>by simp[gvH]⟩
 | cons x l ih=>
  intro hs h;obtain⟨x0,x1⟩:=h x (by simp);have e:Sf.giveH hs x=hs.set x.toNat false:=by unfold Sf.giveH;rw[if_pos ⟨x0,by omega⟩]
  have hl:(hs.set x.toNat false).length=hs.length:=List.length_set;obtain⟨a,b⟩:=ih (hs.set x.toNat false) fun c hc=>by rw[hl];exact h c (zzmcm _ hc)
  have eg:gvH hs (x :: l)=gvH (hs.set x.toNat false) l:=by unfold gvH;rw[List.foldl_cons,e]
  rw[eg];refine⟨a.trans hl,fun c=>?_⟩;rw[b,zzgst,List.mem_cons];by_cases z:x.toNat=c
  ·rw[if_pos z,if_pos x1];constructor
   ·rintro⟨q,_⟩;simp at q
   ·rintro⟨_,q⟩;exact absurd (.inl (by omega)) q
  ·rw[if_neg z];exact⟨fun⟨p,q⟩=>⟨p,fun y=>y.elim (fun w=>z (by omega)) q⟩,fun⟨p,q⟩=>⟨p,fun y=>q (.inr y)⟩⟩
theorem Q6m(l:List Int)(c:Int):c ∈ srtI l ↔ c ∈ l:=(Q5E l).mem_iff
theorem Q3l{l:List Int}(h:l.Nodup):(srtI l).Nodup:=(Q5E l).nodup_iff.2 h
theorem Q49{l:List Int}(h:l.Nodup):Lib.compact l=l:=by
 unfold Lib.compact Lib.compactUpTo;have hk:∀m ∈ List.range l.length,Lib.keeps l.toArray m=true:=fun m hm=>by
  have hm:=List.mem_range.1 hm;unfold Lib.keeps;rcases m with _ | m
  ·simp
  ·refine decide_eq_true (.inr fun e=>?_);have e1:l.toArray[m+1]! = l[m+1]:=by simp[hm]
   have e2:l.toArray[m+1-1]! = l[m]'(by omega):=by simp[show m<l.length by omega]
   rw[e1,e2] at e;exact List.pairwise_iff_getElem.1 h m (m+1) (by omega) hm (by omega) e.symm
 rw[List.filter_eq_self.2 hk];apply List.ext_getElem
 ·simp
 ·intro i h1 h2;simp[h2]
theorem Q5w{nC C:Nat}{l:List Int}(h:l.Nodup)(hr:∀c ∈ l,0<=c /\ c<(C:Int)):rooN nC C l=l.length*nC:=by
 unfold rooN;rw[Q49 (Q3l h)];have:(srtI l).countP (isCol C)=(srtI l).length:=List.countP_eq_length.2 fun c hc=>by
  have:=hr c ((Q6m l c).1 hc);exact decide_eq_true this
 rw[this,Q18]
theorem Qd5{nC C:Nat}:∀(l:List Int),l.Nodup->(∀c ∈ l,0<=c /\ c<(C:Int))->Cl.cnt (List.replicate (nC*C) false) C l=l.length*nC:=by
 intro l
 induction l using Q2N with
 | h0=>
  intro _ _;have:Cl.cnt (List.replicate (nC*C) false) C []=0:=by
   unfold Cl.cnt;rw[List.countP_eq_zero];intro p _;unfold Cl.FrP Cl.inW;simp
  rw[this];simp
 | h1 l x ih=>
  intro hn hr;obtain⟨n1,n2,n3⟩:=List.nodup_append.1 hn;obtain⟨x0,x1⟩:=hr x (by simp);obtain⟨c,rfl⟩:=zzeoz x0;have hc:c<C:=by omega
  have hno:l.any (fun x=>x == (c:Int))=false:=by
   rw[List.any_eq_false];intro y hy e;have e:y=(c:Int):=by simpa using e
   exact n3 y hy _ (by simp) e
  rw[Cl.cnt_more (n:=nC) (by rw[zzlrp]) hc hno,ih n1 fun c hc=>hr c (zzmal _ hc),zzlna,List.length_singleton,Nat.add_mul,Nat.one_mul];congr 1;have hl:(Cl.col (List.replicate (nC*C) false) C nC c).length=nC:=Cl.col_len _ _ _ _
  conv=>rhs;rw[<-hl]
  refine List.count_eq_length.2 fun b hb=>?_;obtain⟨k,hk⟩:=List.getElem?_of_mem hb;have hkl:=(zzgsi.1 hk).1;rw[hl] at hkl;have:=(Cl.col_get' (by rw[zzlrp]) hc hkl).1 hk;exact(List.eq_of_mem_replicate (zzmog this)).symm
section
variable{s:Sv}{A:Ax}{H:Hp}
theorem Q57{X:Type}(P Q:X->Bool)(l:List X):l.countP P=l.countP (fun x=>P x && Q x)+l.countP fun x=>P x && !Q x:=by
 induction l with
 | nil=>rfl
 | cons x l ih=>
  rw[List.countP_cons,List.countP_cons,List.countP_cons,ih];cases P x <;> cases Q x <;> simp <;> omega
theorem Qbi(g:HOk s A H)(hl:A.cs.length=s.nC*s.C){win:List Int}(hn:win.Nodup)(hr:∀c ∈ win,0<=c /\ c<(s.C:Int))(all:∀p,A.cs[p]? = some true->Cl.inW s.C win p=true->inPg H.T p)(hT:H.T.length<=win.length*s.nC) :
  (outL s A.cs H.T win).length<=Cl.cnt A.cs s.C win:=by
 have h1:=Qd5 (nC:=s.nC) (C:=s.C) win hn hr;have h2:Cl.cnt (List.replicate (s.nC*s.C) false) s.C win=(List.range A.cs.length).countP (Cl.inW s.C win):=by
  unfold Cl.cnt;rw[zzlrp,hl];refine List.countP_congr fun p hp=>?_;have hp:=List.mem_range.1 hp;rw[decide_eq_true_eq];exact⟨fun h=>h.2,fun h=>⟨by rw[List.getElem?_replicate,if_pos hp],h⟩⟩
 have h3:=Q57 (Cl.inW s.C win) (fun p=>decide (A.cs[p]? = some false)) (List.range A.cs.length);have h4:(List.range A.cs.length).countP (fun p=>Cl.inW s.C win p && decide (A.cs[p]? = some false))=Cl.cnt A.cs s.C win:=by
  unfold Cl.cnt;refine List.countP_congr fun p _=>?_;rw[Bool.and_eq_true,decide_eq_true_eq,decide_eq_true_eq];exact and_comm
 have h5:(List.range A.cs.length).countP (fun p=>Cl.inW s.C win p && !decide (A.cs[p]? = some false))=(H.T.filter fun y=>Cl.inW s.C win y.2.toNat).length:=by
  rw[List.countP_eq_length_filter,show(H.T.filter fun y=>Cl.inW s.C win y.2.toNat).length=((H.T.filter fun y=>Cl.inW s.C win y.2.toNat).map fun y=>y.2.toNat).length from(List.length_map _).symm];refine List.Perm.length_eq ((List.perm_ext_iff_of_nodup (List.nodup_range.filter _) ?_).2 fun p=>?_)
  ·have:(H.T.filter fun y=>Cl.inW s.C win y.2.toNat).Nodup:=(List.nodup_iff_pairwise_ne.2 ((List.pairwise_map.1 (List.nodup_iff_pairwise_ne.1 g.tok.n1)).imp fun h e=>h (by rw[e]))).filter _;refine List.nodup_iff_pairwise_ne.2 (List.pairwise_map.2 ((List.nodup_iff_pairwise_ne.1 this).imp_of_mem fun {a b} ha hb hab e=>hab ?_));have ha:=(List.mem_filter.1 ha).1;have hb:=(List.mem_filter.1 hb).1;have h1:=(g.tok.rng a ha).2.2.1;have h2:=(g.tok.rng b hb).2.2.1;exact Q0x g.tok.n2 ha hb (by show a.2=b.2;omega)
  ·rw[List.mem_filter,List.mem_range,List.mem_map];constructor
   ·rintro⟨hp,h⟩;rw[Bool.and_eq_true] at h;have hct:A.cs[p]? = some true:=by
     rw[zzgge hp] at h ⊢;cases hb:A.cs[p]
     ·rw[hb] at h;simp at h
     ·rfl
    obtain⟨y,hy,e⟩:=all p hct h.1;have ey:y.2.toNat=p:=by omega
    exact⟨y,List.mem_filter.2 ⟨hy,by rw[ey];exact h.1⟩,ey⟩
   ·rintro⟨y,hy,rfl⟩;obtain⟨hy,hw⟩:=List.mem_filter.1 hy;have hc:=g.own' y hy;refine⟨(zzgsi.1 hc).1,?_⟩;rw[hc];simpa using hw
 have h6:(outL s A.cs H.T win).length=(H.T.filter fun y=>!Cl.inW s.C win y.2.toNat).length:=by
  have e1:(outL s A.cs H.T win).length=((H.T.map (·.1)).filter (outF s A.cs H.T win)).length:=by
   unfold outL allT;exact((List.mergeSort_perm _ _).filter _).length_eq
  rw[e1,List.filter_map,List.length_map];congr 1;refine List.filter_congr fun y hy=>?_;obtain⟨o,ho⟩:=zzeoz (g.tok.rng y hy).2.2.1;have hcs:=(zzgsi.1 (g.own' y hy)).1;rw[ho,zztnc] at hcs;show outF s A.cs H.T win y.1=_;unfold outF;have ef:fnd H.T y.1=(o:Int):=by unfold fnd;rw[Q16 g.tok hy];exact ho
  have em:Cl.mCol A.cs.length s.C (o:Int)=((o % s.C:Nat):Int):=by
   unfold Cl.mCol;rw[if_pos ⟨by omega,by omega⟩];exact(Int.ofNat_tmod o s.C).symm
  rw[ef,em,ho,zztnc];unfold Cl.inW;have:(win.any fun x=>x == ((o % s.C:Nat):Int))=win.contains ((o % s.C:Nat):Int):=by
   rw[List.contains_eq_any_beq];congr 1;funext z;exact Bool.beq_comm
  rw[this]
 have h7:H.T.length=(H.T.filter fun y=>Cl.inW s.C win y.2.toNat).length+(H.T.filter fun y=>!Cl.inW s.C win y.2.toNat).length:=by
  rw[<-List.countP_eq_length_filter,<-List.countP_eq_length_filter];have:=List.length_eq_countP_add_countP (p:=fun y:Int × Int=>Cl.inW s.C win y.2.toNat) (l:=H.T);rw[this];congr 1;refine List.countP_congr fun y _=>?_;simp
 omega
end
end
section
open Go.RowKit Go.Maps Thing
def oT(o:Option Tn):Tb:=match o with | some t=>t.H.T | none=>[]
structure TnW (s:Sv) (A:Ax) (i:Nat) (t:Tn) (w:List Int):Prop where
 inv:TnInv s A t
 id:t.id=(i:Int)
 win:∀c,c ∈ t.H.win ↔ c ∈ w
 wn:t.H.win.Nodup
 lp:t.q.lp=w.length*s.nC
structure AdInv (s:Sv) (a:Ad):Prop where
 tn:∀i t,i<8->a.tn i=some t->TnW s a.A i t (a.ws i)
 n1:1<=s.nC
 c1:1<=s.C
 c32:s.C<=32
 p4:s.nC*s.C<=4096
 sn:s.n=s.nC*s.C*512
 bl:a.A.bs.length=s.n
 cl:a.A.cs.length=s.nC*s.C
 hl:a.hs.length=s.C
 se:∀i,i<8->1<=a.se i /\ a.se i<=17592186044416
 nil:∀i,i<8->a.tn i=none->a.ws i=[]
 nd:∀i,i<8->(a.ws i).Nodup
 rng:∀i,i<8->∀c ∈ a.ws i,0<=c /\ c<(s.C:Int)
 dis:∀i j,i<8->j<8->i ≠ j->∀c ∈ a.ws i,c ∉ a.ws j
 has:∀c:Nat,a.hs[c]? = some true ↔ ∃i,i<8 /\ (c:Int) ∈ a.ws i
 all:∀p,a.A.cs[p]? = some true->∃i,i<8 /\ inPg (oT (a.tn i)) p
theorem Q9e{C:Nat}{l:List Int}(h:l.Nodup)(hr:∀c ∈ l,0<=c /\ c<(C:Int)):l.length<=C:=Q1f h (fun x hx=>(hr x hx).1) fun x hx=>(hr x hx).2
section
variable{s:Sv}{A A':Ax}{H H':Hp}{a:Ad}{t t':Tn}
theorem AdInv.nc(g:AdInv s a):s.nC<=4096:=Nat.le_trans (Nat.le_mul_of_pos_right s.nC g.c1) g.p4
theorem AdInv.wl(g:AdInv s a){i:Nat}(hi:i<8):(a.ws i).length<=32:=Nat.le_trans (Q9e (g.nd i hi) (g.rng i hi)) g.c32
theorem AdInv.ok(g:AdInv s a):AdOk s a:=⟨fun i t hi h=>(g.tn i t hi h).inv.ok,fun i hi=>g.wl hi,g.se,g.hl,g.c32,g.nc⟩
theorem HOk.other(g:HOk s A H)(hb:A'.bs.length=A.bs.length)(hc:A'.cs.length=A.cs.length)(h:∀y ∈ H.T,A'.cs[y.2.toNat]? = A.cs[y.2.toNat]?):HOk s A' H:=
 ⟨hb.trans g.nb,by rw[hc];exact g.nc,by rw[hc];exact g.p4,g.win,g.tok,g.few,g.sl,fun y hy=>⟨by rw[h y hy];exact(g.own y hy).1,(g.own y hy).2⟩,g.pg,g.sm,g.ln,g.tab⟩
theorem HSt.tst2(g:HOk s A H)(h:HSt s A H A' H'):TSt s (H.win++H'.win) A H.T A' H'.T:=by
 refine⟨h.fr.bl,h.fr.cl,fun p hp=>h.fr.cs p fun q=>hp ?_,h.new,h.rest⟩;rw[Cl.inW_append,Bool.or_eq_true];rcases q with q | q
 ·exact⟨.inl (Q5o g q),.inl q⟩
 ·exact⟨.inr (Q5o h.ok q),h.new p q⟩
theorem Q4n{C:Nat}{l:List Int}{p:Nat}:Cl.inW C l p=true ↔ ((p % C:Nat):Int) ∈ l:=by
 unfold Cl.inW;rw[List.any_eq_true];constructor
 ·rintro⟨x,hx,e⟩;have e:x=((p % C:Nat):Int):=by simpa using e
  rw[<-e];exact hx
 ·intro h;exact⟨_,h,by simp⟩
theorem Q4p(g:AdInv s a){i:Nat}(hi:i<8){A':Ax}{o:Option Tn}{V wi:List Int}{hs':List Bool}{x:Int}(st:TSt s V a.A (oT (a.tn i)) A' (oT o))(hV:∀j,j<8->j ≠ i->∀c ∈ V,c ∉ a.ws j)
  (ht:∀t,o=some t->TnW s A' i t wi) (hnone:o=none->wi=[]) (wn:wi.Nodup) (wr:∀c ∈ wi,0<=c /\ c<(s.C:Int)) (wd:∀j,j<8->j ≠ i->∀c ∈ wi,c ∉ a.ws j)
  (hl:hs'.length=s.C) (hh:∀c:Nat,hs'[c]? = some true ↔ (c:Int) ∈ wi \/ ∃j,j<8 /\ j ≠ i /\ (c:Int) ∈ a.ws j) (hx:1<=x /\ x<=17592186044416) :
  AdInv s {A:=A',hs:=hs',ws:=updW a.ws i wi,tn:=updF a.tn i o,se:=updF a.se i x}:=by
 have wsi:updW a.ws i wi i=wi:=if_pos rfl;have wsj:∀j,j ≠ i->updW a.ws i wi j=a.ws j:=fun j h=>if_neg h;refine⟨fun j t hj h=>?_,g.n1,g.c1,g.c32,g.p4,g.sn,st.bl.trans g.bl,st.cl.trans g.cl,hl,fun j hj=>?_,fun j hj h=>?_,fun j hj=>?_,fun j hj=>?_,fun j k hj hk hjk=>?_,fun c=>?_,fun p hp=>?_⟩
 ·have h:updF a.tn i o j=some t:=h;by_cases e:j=i
  ·subst e;rw[Q0o] at h;show TnW s A' j t (updW a.ws j wi j);rw[wsi];exact ht t h
  ·rw[Q0r e] at h;show TnW s A' j t (updW a.ws i wi j);rw[wsj j e];have gt:=g.tn j t hj h;refine⟨Q3M gt.inv ⟨gt.inv.ok.h.other st.bl st.cl fun y hy=>st.cs _ fun q=>?_,gt.inv.ok.q,gt.inv.ok.ob,gt.inv.ok.al,gt.inv.ok.cap,gt.inv.ok.nx⟩,gt.id,gt.win,gt.wn,gt.lp⟩;have h1:=Q4n.1 q.1;have h2:=Q4n.1 (gt.inv.ok.h.own y hy).2;exact hV j hj e _ h1 ((gt.win _).1 h2)
 ·show 1<=updF a.se i x j /\ updF a.se i x j<=_;by_cases e:j=i
  ·subst e;rw[Q0o];exact hx
  ·rw[Q0r e];exact g.se j hj
 ·have h:updF a.tn i o j=none:=h;show updW a.ws i wi j=[];by_cases e:j=i
  ·subst e;rw[Q0o] at h;rw[wsi];exact hnone h
  ·rw[Q0r e] at h;rw[wsj j e];exact g.nil j hj h
 ·show(updW a.ws i wi j).Nodup;by_cases e:j=i
  ·subst e;rw[wsi];exact wn
  ·rw[wsj j e];exact g.nd j hj
 ·show ∀c ∈ updW a.ws i wi j,_;by_cases e:j=i
  ·subst e;rw[wsi];exact wr
  ·rw[wsj j e];exact g.rng j hj
 ·show ∀c ∈ updW a.ws i wi j,c ∉ updW a.ws i wi k;by_cases e:j=i
  ·subst e;rw[wsi,wsj k fun z=>hjk z.symm];exact wd k hk fun z=>hjk z.symm
  ·rw[wsj j e];by_cases e2:k=i
   ·subst e2;rw[wsi];exact fun c hc hw=>wd j hj e c hw hc
   ·rw[wsj k e2];exact g.dis j k hj hk hjk
 ·show hs'[c]? = some true ↔ ∃j,j<8 /\ (c:Int) ∈ updW a.ws i wi j;rw[hh];constructor
  ·rintro(h | ⟨j,hj,e,h⟩)
   ·exact⟨i,hi,by rw[wsi];exact h⟩
   ·exact⟨j,hj,by rw[wsj j e];exact h⟩
  ·rintro⟨j,hj,h⟩;by_cases e:j=i
   ·subst e;rw[wsi] at h;exact .inl h
   ·rw[wsj j e] at h;exact .inr ⟨j,hj,e,h⟩
 ·show ∃j,j<8 /\ inPg (oT (updF a.tn i o j)) p;rcases st.rest p hp with h | ⟨h1,h2⟩
  ·exact⟨i,hi,by rw[Q0o];exact h⟩
  ·obtain⟨j,hj,h⟩:=g.all p h1;refine⟨j,hj,?_⟩;by_cases e:j=i
   ·subst e;exact absurd h h2
   ·rw[Q0r e];exact h
theorem Q6t(ws:Nat->List Int)(i:Nat):updW ws i (ws i)=ws:=by
 funext j;unfold updW;split
 ·rename_i e;rw[e]
 ·rfl
theorem Q7V(g:AdInv s a){i:Nat}(hi:i<8)(h:a.tn i=some t)(o:Op):AdInv s {a with A:=(askM s a.A t o).A,tn:=updF a.tn i (some (askM s a.A t o).t)}:=by
 have gt:=g.tn i t hi h;have go:=Qc9 gt.inv.ok o;have inv:=Qdr gt.inv o;have:=Q4p g hi (A':=(askM s a.A t o).A) (o:=some (askM s a.A t o).t) (V:=t.H.win) (wi:=a.ws i) (hs':=a.hs) (x:=a.se i) (by rw[h];exact go.st) (fun j hj e c hc=>g.dis i j hi hj (fun z=>e z.symm) c ((gt.win c).1 hc))
  (fun t' e=>by cases e;exact⟨inv,go.id.trans gt.id,fun c=>by rw[go.win];exact gt.win c,by rw[go.win];exact gt.wn,go.lp.trans gt.lp⟩) (fun e=>by cases e) (g.nd i hi) (g.rng i hi) (fun j hj e=>g.dis i j hi hj fun z=>e z.symm) g.hl
  (fun c=>by
   rw[g.has];constructor
   ·rintro⟨j,hj,hc⟩;by_cases e:j=i
    ·subst e;exact .inl hc
    ·exact .inr ⟨j,hj,e,hc⟩
   ·rintro(hc | ⟨j,hj,_,hc⟩)
    ·exact⟨i,hi,hc⟩
    ·exact⟨j,hj,hc⟩) (g.se i hi)
 rw[Q6t,Q0W] at this;exact this
theorem Q7X(g:AdInv s a)(i:Int):AdInv s (desM s a i).a:=by
 unfold desM;by_cases hi:0<=i /\ i<8
 case neg=>rw[if_pos hi];exact g
 rw[if_neg (not_not_intro hi)];obtain⟨m,rfl⟩:=zzeoz hi.1;have hm:m<8:=by omega
 rw[zztnc];cases h:a.tn m with
 | none=>exact g
 | some t=>
  have gt:=g.tn m t hm h;obtain⟨st,eH,_⟩:=QaW gt.inv.ok.h;have ts:=st.tst gt.inv.ok.h (by rw[eH];rfl);rw[eH] at ts;obtain⟨g1,g2⟩:=Q6S (a.ws m) a.hs fun c hc=>by have:=g.rng m hm c hc;have:=g.hl;omega
  exact Q4p g hm (A':=drpA s a.A t) (o:=none) (V:=t.H.win) (wi:=[]) (hs':=gvH a.hs (a.ws m)) (x:=t.nx) (by rw[h];exact ts) (fun j hj e c hc=>g.dis m j hm hj (fun z=>e z.symm) c ((gt.win c).1 hc))
   (fun t' e=>by cases e) (fun _=>rfl) List.nodup_nil (fun c hc=>by cases hc) (fun j hj e c hc=>by cases hc) (g1.trans g.hl)
   (fun c=>by
    rw[g2,g.has];constructor
    ·rintro⟨⟨j,hj,hc⟩,hn⟩;exact .inr ⟨j,hj,fun e=>hn (by rw[<-e];exact hc),hc⟩
    ·rintro(hc | ⟨j,hj,e,hc⟩)
     ·cases hc
     ·exact⟨⟨j,hj,hc⟩,fun z=>g.dis m j hm hj (fun w=>e w.symm) _ z hc⟩) gt.inv.ok.nx
theorem Qfx{n:Nat}{q:Int}{i:Nat}{se:Int}{win:List Int}(bl:A.bs.length=s.n)(nc:A.cs.length*512=s.n)(p4:A.cs.length<=4096)(hw:win.length<=32)(hq:MayQ q)(hd:demN q.toNat<=n)(hn:n<=1099511627776)(hse:1<=se /\ se<=17592186044416):TnInv s A (T0 n i se q win):=by
 have h0:=Q5g (s:=s) (win:=win) bl nc p4 hw;have no:∀k m,¬((H0 win).sl k)[m]? = some true:=fun k m h=>by
  have:=zzmog h;exact absurd (List.eq_of_mem_replicate this) (by simp)
 have us:∀k m,usd (H0 win) k m=0:=fun k m=>by
  unfold usd;split
  ·rfl
  ·rw[if_neg (no k m)]
 have ch:chgH (H0 win)=0:=by
  unfold chgH;have:sumR 24 (fun k=>usdK (H0 win) k*untN k)=sumR 24 fun _=>0:=Q0q fun k _=>by
   have:usdK (H0 win) k=0:=by
    unfold usdK;have:=Q0q (n:=sltN k) (f:=usd (H0 win) k) (g:=fun _=>0) fun m _=>us k m;rw[this];have:=Q19 (sltN k) 0 (fun _=>0);simpa using this
   rw[this,Nat.zero_mul]
  rw[this];have:=Q19 24 0 (fun _=>0);simpa using this
 have sl:∀k,slK (H0 win) k=0:=fun k=>by
  unfold slK;have:=Q0q (n:=sltN k) (f:=fun m=>if ((H0 win).sl k)[m]? = some true then 1 else 0) (g:=fun _=>0) fun m _=>if_neg (no k m);rw[this];have:=Q19 (sltN k) 0 (fun _=>0);simpa using this
 refine⟨⟨h0,⟨⟨by show q.toNat<=_;omega,hn⟩,by show 0+0<=q.toNat;omega,by show 0+0<=n;omega⟩,fun k v h=>(by cases h),fun k v h=>(by cases h),fun x z h=>(by cases h),hse⟩,fun a v h=>(by cases h),fun a k m b h=>?_,ch.symm,⟨rfl,rfl⟩,rfl,⟨hq,by show((q.toNat:Nat):Int)<=q;omega⟩,fun k _=>by show slK (H0 win) k<=_;rw[sl];omega,fun k m _ _ h=>absurd h (no k m),hd⟩;exact absurd (Q15 h).2.2.2.2.1 (no k m)
theorem Q7W(g:AdInv s a)(i k q:Int):AdInv s (creM s a i k q).a:=by
 unfold creM;by_cases hi:0<=i /\ i<8
 case neg=>rw[if_pos hi];exact g
 rw[if_neg (not_not_intro hi)];obtain⟨m,rfl⟩:=zzeoz hi.1;have hm:m<8:=by omega
 rw[zztnc];cases h:a.tn m with
 | some t=>exact g
 | none=>
  rw[if_neg (by simp)];by_cases hs:sizE s k q=0
  case neg=>rw[if_pos hs];exact g
  rw[if_neg (not_not_intro hs)];obtain⟨y1,y2,y3⟩:=Q7u hs;obtain⟨kn,rfl⟩:=zzeoz (show 0<=k by omega);rw[zztnc];by_cases hf:(demN q.toNat:Int)<=(kn:Int)*s.nC
  case neg=>rw[if_pos hf];exact g
  rw[if_neg (not_not_intro hf)];by_cases hc:(a.hs.count false:Int)<(kn:Int)
  ·rw[if_pos hc];exact g
  rw[if_neg hc];have tk:=Q4Q a.hs kn (by omega);have hlen:=Q1T a.hs kn;have hr:∀c ∈ tkL a.hs kn,0<=c /\ c<(s.C:Int):=fun c hc=>by have:=tk.rng c hc;have:=g.hl;omega
  have hroo:rooN s.nC s.C (tkL a.hs kn)=kn*s.nC:=by rw[Q5w tk.nd hr,hlen]
  have hf2:demN q.toNat<=kn*s.nC:=by rw[<-Int.natCast_mul] at hf;omega
  rw[hroo,if_pos (by omega)];have hk32:kn<=32:=by have:=g.c32;omega
  have hkn:kn*s.nC<=32*4096:=Nat.mul_le_mul hk32 g.nc;have hn0:=g.nil m hm h;have hsn:=g.sn;have hcl:=g.cl;have inv:=Qfx (s:=s) (A:=a.A) (n:=kn*s.nC) (q:=q) (i:=m) (se:=a.se m) (win:=tkL a.hs kn) g.bl (by rw[hcl];exact hsn.symm) (by rw[hcl];exact g.p4) (by omega) y1 hf2 (by omega) (g.se m hm);have hW:∀c,c ∈ srtI (a.ws m++tkL a.hs kn) ↔ c ∈ tkL a.hs kn:=fun c=>by rw[Q6m,hn0,List.nil_append]
  have wd:∀j,j<8->j ≠ m->∀c ∈ tkL a.hs kn,c ∉ a.ws j:=fun j hj e c hc z=>by
   obtain⟨c0,c1,c2⟩:=tk.rng c hc;have:=(g.has c.toNat).2 ⟨j,hj,by rw[show((c.toNat:Nat):Int)=c by omega];exact z⟩;rw[c2] at this;cases this
  have:=Q4p g hm (A':=a.A) (o:=some (T0 (kn*s.nC) m (a.se m) q (tkL a.hs kn))) (V:=tkL a.hs kn) (wi:=srtI (a.ws m++tkL a.hs kn)) (hs':=tkH a.hs kn) (x:=a.se m) (by rw[h];exact TSt.same rfl rfl) wd
   (fun t' e=>by cases e;exact⟨inv,rfl,fun c=>(hW c).symm,tk.nd,by show kn*s.nC=_;rw[Q18,hn0,List.nil_append,hlen]⟩) (fun e=>by cases e) (by rw[hn0,List.nil_append];exact Q3l tk.nd) (fun c hc=>hr c ((hW c).1 hc)) (fun j hj e c hc=>wd j hj e c ((hW c).1 hc)) (tk.len.trans g.hl)
   (fun c=>by
    rw[tk.iff,g.has,hW];constructor
    ·rintro(⟨j,hj,hc⟩ | hc)
     ·refine .inr ⟨j,hj,fun e=>?_,hc⟩;rw[e,hn0] at hc;cases hc
     ·exact .inl hc
    ·rintro(hc | ⟨j,hj,_,hc⟩)
     ·exact .inr hc
     ·exact .inl ⟨j,hj,hc⟩) (g.se m hm)
  rw[Q0W] at this;exact this
end
end
section
open Go.RowKit Go.Maps Thing
theorem QaN{p q:Nat}(h:p<=q)(k:Nat):byN k p<=byN k q:=by
 unfold byN;have:=Nat.div_le_div_right (c:=unitN k) h;exact Nat.div_le_div_right (by omega)
section
variable{s:Sv}{A A':Ax}{H H':Hp}{a:Ad}{t t':Tn}
theorem Qbm(g:TnInv s A t)(h:∀k,t.ob k=none){k m:Nat}(hk:k<24)(hm:m<sltN k):(t.H.sl k)[m]? ≠ some true:=fun ht=>by
 have no:∀b,b<perM k->¬bk t.H k m b:=fun b hb hbk=>by
  have:=g.ob2 _ k m b ((Q1o hk hm hb).2 hbk);rw[h] at this;cases this
 by_cases h8:k<8
 ·have hu:=g.use k m h8 hm ht;unfold usd at hu;rw[if_pos h8] at hu;cases hS:t.H.S (locN k m)with
  | none=>rw[hS] at hu;exact absurd hu (by show ¬1<=0;omega)
  | some q=>
   rw[hS] at hu;have hu:1<=q.q.hs.count true:=hu;have hmem:true ∈ q.q.hs:=List.count_pos_iff.1 (by omega);obtain⟨b,hb⟩:=List.getElem?_of_mem hmem;obtain⟨_,pq,m',a3,a4,_⟩:=g.ok.h.pg _ q hS;obtain⟨e1,e2⟩:=Q0M hk hm (by omega) a3 a4;have hbl:=(zzgsi.1 hb).1;have hl:=pq.hl;rw[<-e1] at hl;have hp:perM k=perN k:=if_pos h8;exact no b (by omega) ⟨ht,fun _=>⟨q,hS,hb⟩⟩
 ·exact no 0 (by have:=(Q0G hk).2.2.2.1;omega) ⟨ht,fun z=>absurd z h8⟩
theorem Q9i(g:TnInv s A t)(b:Int)(hb:(t.q.cb:Int)<=b):(∀k,k<8->slK t.H k<=byN k (nxtM t b).toNat) /\ t.H.T.length<=demN (nxtM t b).toNat /\ b<=nxtM t b:=by
 by_cases h:∀k,t.ob k=none
 ·rw[Q78 h];have sl:∀k,k<24->slK t.H k=0:=fun k hk=>by
   unfold slK;have:=Q0q (n:=sltN k) (f:=fun m=>if (t.H.sl k)[m]? = some true then 1 else 0) (g:=fun _=>0) fun m hm=>if_neg (Qbm g h hk hm);rw[this];have:=Q19 (sltN k) 0 (fun _=>0);simpa using this
  refine⟨fun k hk=>by rw[sl k (by omega)];omega,?_,by omega⟩;rw[Q21 g.ok.h];have:=Q0q (n:=24) (f:=fun k=>slK t.H k*pagN k) (g:=fun _=>0) fun k hk=>by rw[sl k hk,Nat.zero_mul]
  rw[this];have:=Q19 24 0 (fun _=>0);have:sumR 24 (fun _=>0)=0:=by simpa using this
  omega
 ·rw[Q79 h];have hle:t.peak.toNat<=(max b t.peak).toNat:=by omega
  have hcb:=g.cb;have hpk:=g.pk;have hqb:=g.ok.q.b;have hs:∀k,k<8->slK t.H k<=byN k (max b t.peak).toNat:=fun k hk=>Nat.le_trans (g.pgs k hk) (QaN hle k);exact⟨hs,QdO g.ok.h (by omega) hs,by omega⟩
theorem Q8f{l:List Int}(h:l.Nodup)(k:Nat):(l.take k).Nodup:=h.sublist (List.take_sublist k l)
theorem Q7Y(g:AdInv s a)(i k q:Int):AdInv s (resM s a i k q).a /\ ((resM s a i k q).E ≠ 0->(resM s a i k q).a=a):=by
 unfold resM;by_cases hi:0<=i /\ i<8
 case neg=>rw[if_pos hi];exact⟨g,fun _=>rfl⟩
 rw[if_neg (not_not_intro hi)];obtain⟨m,rfl⟩:=zzeoz hi.1;have hm:m<8:=by omega
 rw[zztnc];cases h:a.tn m with
 | none=>exact⟨g,fun _=>rfl⟩
 | some t=>
  dsimp only;by_cases hs:sizE s k q=0
  case neg=>rw[if_pos hs];exact⟨g,fun _=>rfl⟩
  rw[if_neg (not_not_intro hs)];obtain⟨y1,y2,y3⟩:=Q7u hs;obtain⟨kn,rfl⟩:=zzeoz (show 0<=k by omega);rw[zztnc];by_cases hf:fitE t q ((kn:Int)*s.nC)=0
  case neg=>rw[if_pos hf];exact⟨g,fun _=>rfl⟩
  rw[if_neg (not_not_intro hf)];by_cases hc:a.hs.count false<kn-(a.ws m).length
  ·rw[if_pos hc];exact⟨g,fun _=>rfl⟩
  rw[if_neg hc];have gt:=g.tn m t hm h;obtain⟨f1,f2,f3,f4⟩:=Q8J hf;obtain⟨x1,x2,x3⟩:=Q9i gt.inv q f2;generalize ed:kn-(a.ws m).length=d at hc ⊢;have tk:=Q4Q a.hs d (by omega);have hlen:=Q1T a.hs d;have hn0:=g.nd m hm;have hr0:=g.rng m hm;have eW:(a.grant m d).ws m=srtI (a.ws m++tkL a.hs d):=if_pos rfl;have eWs:(a.grant m d).ws=updW a.ws m (srtI (a.ws m++tkL a.hs d)):=rfl;have eHs:(a.grant m d).hs=tkH a.hs d:=rfl;have fresh:∀j,j<8->∀c ∈ tkL a.hs d,c ∉ a.ws j:=fun j hj c hc z=>by
   obtain⟨c0,c1,c2⟩:=tk.rng c hc;have:=(g.has c.toNat).2 ⟨j,hj,by rw[show((c.toNat:Nat):Int)=c by omega];exact z⟩;rw[c2] at this;cases this
  have hbig:(a.ws m++tkL a.hs d).Nodup:=List.nodup_append.2 ⟨hn0,tk.nd,fun x hx y hy e=>fresh m hm y hy (by rw[<-e];exact hx)⟩;have hbr:∀c ∈ a.ws m++tkL a.hs d,0<=c /\ c<(s.C:Int):=fun c hc=>by
   rcases zzmpd.1 hc with hc | hc
   ·exact hr0 c hc
   ·have:=tk.rng c hc;have:=g.hl;omega
  rw[eW,eWs,eHs];generalize eB:srtI (a.ws m++tkL a.hs d)=W;have hWn:W.Nodup:=by rw[<-eB];exact Q3l hbig
  have hWm:∀c,c ∈ W ↔ c ∈ a.ws m \/ c ∈ tkL a.hs d:=fun c=>by rw[<-eB,Q6m,zzmpd]
  have hWr:∀c ∈ W,0<=c /\ c<(s.C:Int):=fun c hc=>hbr c (zzmpd.2 ((hWm c).1 hc));have hWl:W.length=(a.ws m).length+d:=by rw[<-eB,Q18,zzlna,hlen]
  have hkl:(W.take kn).length=kn:=by rw[zzlnt];omega
  have tn:(W.take kn).Nodup:=Q8f hWn kn;have tr:∀c ∈ W.take kn,0<=c /\ c<(s.C:Int):=fun c hc=>hWr c (List.mem_of_mem_take hc);have hroo:rooN s.nC s.C (W.take kn)=kn*s.nC:=by rw[Q5w tn tr,hkl]
  have hf4:demN (nxtM t q).toNat<=kn*s.nC:=by rw[<-Int.natCast_mul] at f4;omega
  have hw32:(W.take kn).length<=32:=by rw[hkl];have:=g.c32;omega
  have others:∀j,j<8->j ≠ m->∀c ∈ W,c ∉ a.ws j:=fun j hj e c hc z=>by
   rcases(hWm c).1 hc with y | y
   ·exact g.dis m j hm hj (fun w=>e w.symm) c y z
   ·exact fresh j hj c y z
  have hfit:(outL s a.A.cs t.H.T (W.take kn)).length<=Cl.cnt a.A.cs s.C (W.take kn):=by
   refine Qbi gt.inv.ok.h g.cl tn tr (fun p hp hw=>?_) (by rw[hkl];omega);obtain⟨j,hj,hin⟩:=g.all p hp;cases htj:a.tn j with
   | none=>rw[htj] at hin;obtain⟨y,hy,_⟩:=hin;cases hy
   | some tj=>
    rw[htj] at hin;have gj:=g.tn j tj hj htj;have hcol:=Q4n.1 (Q5o gj.inv.ok.h hin);have hcw:=(gj.win _).1 hcol;have hcm:=Q4n.1 hw;by_cases e:j=m
    ·subst e;rw[h] at htj;cases htj;exact hin
    ·exact absurd hcw (others j hj e _ (List.mem_of_mem_take hcm))
  have hmov:(movM s a.A t.H (W.take kn)).E=0:=by unfold movM;rw[if_pos hfit]
  obtain⟨hst,hw0,_⟩:=Qbj gt.inv.ok.h (win:=W.take kn) hw32;obtain⟨hwin,hTl⟩:=hw0 hmov;have sam:=QdB gt.inv.ok.h (win:=W.take kn) hw32;have hcp:=gt.inv.cp;have hr:=gt.inv.r0;have qe:qresE t.q q.toNat (kn*s.nC)=0:=if_pos ⟨by omega,by omega⟩;have qm:qresM t.q q.toNat (kn*s.nC)={t.q with lb:=q.toNat,lp:=kn*s.nC}:=if_pos ⟨by omega,by omega⟩;unfold rszR;rw[hroo];rw[<-Int.natCast_mul] at hf;rw[if_neg (not_not_intro hf),if_neg (not_not_intro hmov),qe,qm];refine⟨?_,fun z=>absurd rfl z⟩;have hkb:kn*s.nC<=32*4096:=Nat.mul_le_mul (by have:=g.c32;omega) g.nc;have gq:=gt.inv.ok.q;have inv':TnInv s (movM s a.A t.H (W.take kn)).A {t with H:=(movM s a.A t.H (W.take kn)).H,peak:=nxtM t q,q:={t.q with lb:=q.toNat,lp:=kn*s.nC}}:=by
   have ok':TnOk s (movM s a.A t.H (W.take kn)).A {t with H:=(movM s a.A t.H (W.take kn)).H,peak:=nxtM t q,q:={t.q with lb:=q.toNat,lp:=kn*s.nC}}:=
    ⟨hst.ok,⟨⟨by show q.toNat<=_;omega,by show kn*s.nC<=_;omega⟩,by show t.q.cb+t.q.rb<=q.toNat;omega,by show t.q.cp+t.q.rp<=kn*s.nC;omega⟩,gt.inv.ok.ob,gt.inv.ok.al,gt.inv.ok.cap,gt.inv.ok.nx⟩
   refine⟨ok',fun x v hv=>?_,fun x k m b hb=>?_,?_,hr,?_,⟨f3,by show((q.toNat:Nat):Int)<=nxtM t q;omega⟩,fun k hk=>?_,fun k m hk hm ht=>?_,hf4⟩
   ·show ∃k m b,blkM (movM s a.A t.H (W.take kn)).H x=_ /\ _;rw[sam.blk];exact gt.inv.ob1 x v hv
   ·have hb:blkM (movM s a.A t.H (W.take kn)).H x=some (k,m,b):=hb;rw[sam.blk] at hb;exact gt.inv.ob2 x k m b hb
   ·show t.q.cb=chgH (movM s a.A t.H (W.take kn)).H;rw[sam.chg];exact gt.inv.cb
   ·show t.q.cp=(movM s a.A t.H (W.take kn)).H.T.length;rw[hTl];exact hcp
   ·show slK (movM s a.A t.H (W.take kn)).H k<=byN k (nxtM t q).toNat
    rw[sam.sl k (by omega)];exact x1 k hk
   ·show 1<=usd (movM s a.A t.H (W.take kn)).H k m;rw[sam.us k m (by omega) hm];exact gt.inv.use k m hk hm ((sam.tk k m (by omega) hm).1 ht)
  have hdr:∀c ∈ W.drop kn,0<=c /\ c.toNat<(tkH a.hs d).length:=fun c hc=>by
   have:=hWr c (List.mem_of_mem_drop hc);have:=tk.len;have:=g.hl;omega
  obtain⟨v1,v2⟩:=Q6S (W.drop kn) (tkH a.hs d) hdr;have split:∀c,c ∈ W ↔ c ∈ W.take kn \/ c ∈ W.drop kn:=fun c=>by
   conv=>lhs;rw[<-List.take_append_drop kn W]
   exact zzmpd
  have dj:∀c ∈ W.take kn,c ∉ W.drop kn:=fun c hc hd=>by
   have:=hWn;rw[<-List.take_append_drop kn W] at this;exact(List.nodup_append.1 this).2.2 c hc c hd rfl
  have:=Q4p g hm (A':=(movM s a.A t.H (W.take kn)).A) (o:=some {t with H:=(movM s a.A t.H (W.take kn)).H,peak:=nxtM t q,q:={t.q with lb:=q.toNat,lp:=kn*s.nC}}) (V:=t.H.win++W.take kn) (wi:=W.take kn) (hs':=gvH (tkH a.hs d) (W.drop kn)) (x:=a.se m)
   (by rw[h];have:=hst.tst2 gt.inv.ok.h;rw[hwin] at this;exact this)
   (fun j hj e c hc=>by
    rcases zzmpd.1 hc with hc | hc
    ·exact g.dis m j hm hj (fun z=>e z.symm) c ((gt.win c).1 hc)
    ·exact others j hj e c (List.mem_of_mem_take hc))
   (fun t' e=>by cases e;exact⟨inv',gt.id,fun c=>by show c ∈ (movM s a.A t.H (W.take kn)).H.win ↔ _;rw[hwin],by show(movM s a.A t.H (W.take kn)).H.win.Nodup;rw[hwin];exact tn,by show kn*s.nC=_;rw[hkl]⟩)
   (fun e=>by cases e) tn tr (fun j hj e c hc=>others j hj e c (List.mem_of_mem_take hc)) (by rw[v1,tk.len];exact g.hl)
   (fun c=>by
    rw[v2,tk.iff,g.has];constructor
    ·rintro⟨⟨j,hj,hc⟩ | hc,hn⟩
     ·by_cases e:j=m
      ·subst e;exact .inl (((split c).1 ((hWm c).2 (.inl hc))).resolve_right hn)
      ·exact .inr ⟨j,hj,e,hc⟩
     ·exact .inl (((split c).1 ((hWm c).2 (.inr hc))).resolve_right hn)
    ·rintro(hc | ⟨j,hj,e,hc⟩)
     ·refine⟨?_,dj c hc⟩;rcases(hWm c).1 ((split c).2 (.inl hc))with y | y
      ·exact .inl ⟨m,hm,y⟩
      ·exact .inr y
     ·exact⟨.inl ⟨j,hj,hc⟩,fun z=>others j hj e c ((split c).2 (.inr z)) hc⟩) (g.se m hm)
  rw[Q0W] at this;have e2:updW (updW a.ws m W) m (W.take kn)=updW a.ws m (W.take kn):=by
   funext j;unfold updW;split <;> rfl
  rw[e2];exact this
theorem Q3L{P0 C0:Int}(g:SvOk s P0 C0):AdInv s (A0 s):=by
 have h1:=g.n;exact⟨fun i t hi h=>(by cases h),g.n1,g.c1,g.c32,g.p4,h1,zzlrp,zzlrp,zzlrp,fun i hi=>⟨by show(1:Int)<=1;omega,by show(1:Int)<=_;omega⟩,fun i hi _=>rfl,fun i hi=>List.nodup_nil,fun i hi c hc=>(by cases hc),fun i j hi hj e c hc=>(by cases hc),
  fun c=>⟨fun h=>absurd (List.eq_of_mem_replicate (zzmog h)) (by simp),fun⟨i,hi,h⟩=>(by cases h)⟩,fun p h=>absurd (List.eq_of_mem_replicate (zzmog h)) (by simp)⟩
end
end
section
open Go.RowKit Go.Maps Thing
abbrev opL(o:Op):List Value:=[.int .i64 o.K,.int .i64 o.T,.int .i64 o.N,.int .i64 o.M,.int .u64 o.H,.string o.D]
abbrev opV(o:Op):Value:=.agg #[.int .i64 o.K,.int .i64 o.T,.int .i64 o.N,.int .i64 o.M,.int .u64 o.H,.string o.D]
abbrev opB(o:Op):Obj:=.cells #[.int .i64 o.K,.int .i64 o.T,.int .i64 o.N,.int .i64 o.M,.int .u64 o.H,.string o.D] 35 (0,0)
def chkE(o:Op):Int:=if o.K<1 \/ o.K>11 \/ o.T<0 \/ o.T>=8 \/ (o.D.size:Int)>8192 \/ ((o.D.size:Int)>0 /\ o.K ≠ 10)then 1 else 0
section
variable{w:World}{R:VW}
theorem ocheck(o:Op)(r:∀w',Ext w w'->R (.int .i64 (chkE o)) w'):CS 37 #[opV o] w R:=by
 constructor;refine vc98.ok ?_;unfold vc98;refine Q08 fun n0 w1 hb hE _ _=>?_;have bad:(o.K<1 \/ o.K>11 \/ o.T<0 \/ o.T>=8 \/ (o.D.size:Int)>8192 \/ ((o.D.size:Int)>0 /\ o.K ≠ 10))->R (.int .i64 1) w1:=fun q=>by
  have:=r w1 hE;unfold chkE at this;rw[if_pos q] at this;exact this
 have good:¬(o.K<1 \/ o.K>11 \/ o.T<0 \/ o.T>=8 \/ (o.D.size:Int)>8192 \/ ((o.D.size:Int)>0 /\ o.K ≠ 10))->R (.int .i64 0) w1:=fun q=>by
  have:=r w1 hE;unfold chkE at this;rw[if_neg q] at this;exact this
 refine⟨_,by rw[Q02];exact Q01 hb rfl,ifD (fun q=>bad (.inl q)) (fun q1=>⟨_,by rw[Q02];exact Q01 hb rfl,ifD (fun q=>bad (.inr (.inl q))) (fun q2=>⟨_,by rw[Q02];exact Q01 hb rfl,ifD (fun q=>bad (.inr (.inr (.inl q)))) (fun q3=>
  ⟨_,by rw[Q02];exact Q01 hb rfl,ifD (fun q=>bad (.inr (.inr (.inr (.inl q))))) (fun q4=>⟨_,by rw[Q02];exact Q01 hb rfl,ifD (fun q=>bad (.inr (.inr (.inr (.inr (.inl q)))))) (fun q5=>ifD (fun q6=>⟨_,by rw[Q02];exact Q01 hb rfl,Q05 (fun q=>?_) (fun q=>?_)⟩) (fun q6=>good ?_))⟩)⟩)⟩)⟩)⟩
 ·have q:o.K ≠ 10:=by simpa using q
  exact bad (.inr (.inr (.inr (.inr (.inr ⟨q6,q⟩)))))
 ·have q:o.K=10:=by simpa using q
  exact good (by rintro(z | z | z | z | z | z) <;> omega)
 ·rintro(z | z | z | z | z | z) <;> omega
end
section
variable{s:Sv}{tb:Nat}{y:Tl}{t:Tn}{A:Ax}{w:World}{F:Nat->Prop}{X C:Thing}{R:VW}
def askK(n2:Nat)(R:VW)(v39:Value)(w40:World):Prop:=∃(i41 i42 i43 i44:Int)(s45:ByteArray)(i46:Int),v39=.agg #[.int .i64 i41,.int IntKind.u64 i42,.int .i64 i43,.int .i64 i44,.string s45,.int .i64 i46] /\ WrC w40 (zA n2) (6:Nat) /\ ∀(w47:World),w47=wr w40 (zA n2) [.int .i64 i41,.int IntKind.u64 i42,.int .i64 i43,.int .i64 i44,.string s45,.int .i64 i46] →
 ∃(i48 i49 i50 i51:Int)(s52:ByteArray)(i53:Int),CellsAt w47 (zA n2) [.int .i64 i48,.int IntKind.u64 i49,.int .i64 i50,.int .i64 i51,.string s52,.int .i64 i53] /\ R (.agg #[.int .i64 i48,.int IntKind.u64 i49,.int .i64 i50,.int .i64 i51,.string s52,.int .i64 i53]) w47
theorem Qe8(g:TnOk s A t)(hts:A.ts.length<60000000000)(o:Op)(hu:Hd.U64 o.H):Tri 42 #[zP tb,opV o] (axT s A*tnX s tb y t)
  (fun v=>any fun y':Tl=>only (v=anV (askM s A t o).a) (axT s (askM s A t o).A*tnX s tb y' (askM s A t o).t)):=by
 intro w F R h r;have r:∀y' w' F',(axT s (askM s A t o).A*tnX s tb y' (askM s A t o).t).P w' F'->Step F w F' w'->R (anV (askM s A t o).a) w':=fun y' w' F' p st=>r _ w' F' ⟨y',rfl,p⟩ st;constructor;refine vc101.ok ?_;unfold vc101;refine Q0j h fun n0 w1 F1 h1 s1 _=>Q0j h1 fun n2 w2 F2 h2 s2 _=>?_;have s12:=s1.trans s2;have hb:=Q09 (b:=n0) (o:=opB o) (C:=blk n2 (anO zAn)*(axT s A*tnX s tb y t)) h2 (by show blk n2 (anO zAn)*(blk n0 (opB o)*_)=_;ac_rfl);have fin:∀(rs:Rs)(y':Tl)(w':World)(F':Nat->Prop),askM s A t o=rs->(axT s rs.A*tnX s tb y' rs.t*(blk n2 (anO zAn)*blk n0 (opB o))).P w' F'->Step F2 w2 F' w'->askK n2 R (anV rs.a) w':=fun rs y' w' F' e p st=>by
  rw[e] at r;refine⟨_,_,_,_,_,_,rfl,?_⟩;refine Q1n rs.a (C:=blk n0 (opB o)*(axT s rs.A*tnX s tb y' rs.t)) (re p (by show _=blk n2 (anO zAn)*_;ac_rfl)) rfl fun w4 F4 h4 s4=>?_;obtain⟨F5,h5,sub⟩:=drop_left h4;exact r y' w4 F5 h5 (((s12.trans st).trans s4).sub sub)
 have pre:(axT s A*tnX s tb y t*(blk n2 (anO zAn)*blk n0 (opB o))).P w2 F2:=re h2 (by show blk n2 (anO zAn)*(blk n0 (opB o)*_)=_;ac_rfl);unfold askM at fin;refine⟨_,by rw[Q02];exact Q01 hb rfl,Q05 (fun q=>?_) (fun q=>?_)⟩
 ·have q:o.K=4:=by simpa using q
  refine⟨_,by rw[Q02];exact Q01 hb rfl,(Q5J g (by omega) o.N).use (C:=blk n2 (anO zAn)*blk n0 (opB o)) pre rfl fun v w' F' p st=>?_⟩;obtain⟨y',rfl,pb⟩:=Q0p p;exact fin _ y' w' F' (if_pos q) pb st
 have q4:¬o.K=4:=by simpa using q
 rw[if_neg q4] at fin;refine Q05 (fun q=>?_) (fun q=>?_)
 ·have q:o.K=5:=by simpa using q
  refine⟨_,by rw[Q02];exact Q01 hb rfl,_,by rw[Q02];exact Q01 hb rfl,(Qak g (by omega) o.N o.M).use (C:=blk n2 (anO zAn)*blk n0 (opB o)) pre rfl fun v w' F' p st=>?_⟩;obtain⟨y',rfl,pb⟩:=Q0p p;exact fin _ y' w' F' (if_pos q) pb st
 have q5:¬o.K=5:=by simpa using q
 rw[if_neg q5] at fin;refine Q05 (fun q=>?_) (fun q=>?_)
 ·have q:o.K=6:=by simpa using q
  refine⟨_,by rw[Q02];exact Q01 hb rfl,(Qep g (by omega) hu).use (C:=blk n2 (anO zAn)*blk n0 (opB o)) pre rfl fun v w' F' p st=>?_⟩;rw[Q06] at p;obtain⟨rfl,p⟩:=p;exact fin _ y w' F' (if_pos q) p st
 have q6:¬o.K=6:=by simpa using q
 rw[if_neg q6] at fin;refine Q05 (fun q=>?_) (fun q=>?_)
 ·have q:o.K=7:=by simpa using q
  refine⟨_,by rw[Q02];exact Q01 hb rfl,_,by rw[Q02];exact Q01 hb rfl,(Q8e g (by omega) hu o.N).use (C:=blk n2 (anO zAn)*blk n0 (opB o)) pre rfl fun v w' F' p st=>?_⟩;obtain⟨y',rfl,pb⟩:=Q0p p;exact fin _ y' w' F' (if_pos q) pb st
 have q7:¬o.K=7:=by simpa using q
 rw[if_neg q7] at fin;refine Q05 (fun q=>?_) (fun q=>?_)
 ·have q:o.K=8:=by simpa using q
  refine⟨_,by rw[Q02];exact Q01 hb rfl,(Qas g hu).use (C:=blk n2 (anO zAn)*blk n0 (opB o)) pre rfl fun v w' F' p st=>?_⟩;rw[Q06] at p;obtain⟨rfl,p⟩:=p;exact fin ⟨usbR t o.H,A,t⟩ y w' F' (if_pos q) p st
 have q8:¬o.K=8:=by simpa using q
 rw[if_neg q8] at fin;refine Q05 (fun q=>?_) (fun q=>?_)
 ·have q:o.K=9:=by simpa using q
  refine⟨_,by rw[Q02];exact Q01 hb rfl,_,by rw[Q02];exact Q01 hb rfl,_,by rw[Q02];exact Q01 hb rfl,(Qer g (by omega) hu o.N o.M).use (C:=blk n2 (anO zAn)*blk n0 (opB o)) pre rfl fun v w' F' p st=>?_⟩;rw[Q06] at p;obtain⟨rfl,p⟩:=p;have ht:=QdM A t o.H o.N o.M;exact fin (reaR A t o.H o.N o.M) y w' F' (if_pos q) (by rw[ht];exact p) st
 have q9:¬o.K=9:=by simpa using q
 rw[if_neg q9] at fin;refine Q05 (fun q=>?_) (fun q=>?_)
 ·have q:o.K=10:=by simpa using q
  refine⟨_,by rw[Q02];exact Q01 hb rfl,_,by rw[Q02];exact Q01 hb rfl,_,by rw[Q02];exact Q01 hb rfl,(QbM g (by omega) hu o.N o.D).use (C:=blk n2 (anO zAn)*blk n0 (opB o)) pre rfl fun v w' F' p st=>?_⟩;rw[Q06] at p;obtain⟨rfl,p⟩:=p;have ht:=Qez A t o.H o.N o.D;exact fin (wriR A t o.H o.N o.D) y w' F' (if_pos q) (by rw[ht];exact p) st
 have q10:¬o.K=10:=by simpa using q
 rw[if_neg q10] at fin;refine⟨_,by rw[Q02];exact Q01 hb rfl,_,by rw[Q02];exact Q01 hb rfl,(Q6q g hu o.N).use (C:=blk n2 (anO zAn)*blk n0 (opB o)) pre rfl fun v w' F' p st=>?_⟩;rw[Q06] at p;obtain⟨rfl,p⟩:=p;exact fin (resR A t o.H o.N) y w' F' rfl p st
theorem Qa0{ap:Nat}{bs:List UInt8}{ts:List Tch}:Tri 36 #[zP ap] (arT ap bs ts) (fun v=>only (v=.tuple #[]) (arT ap bs [])):=by
 intro w F R h r;refine .of (Q7R h) ?_;rintro v w1 ⟨rfl,F',p,m,f⟩;exact r _ w1 F' ⟨rfl,p⟩ ⟨m,f⟩
theorem Q8a{ap:Nat}{bs:List UInt8}{ts:List Tch}(h:(arT ap bs ts).P w F)(hl:ts.length<1000000000000)(r:∀p c w',ORow w' 47 3 tcell (.slice p ts.length c) ts->Ext w w'->(∀j,(Value.slice p ts.length c).ownBlock=some j->w.heap.size<=j)->R (.slice p ts.length c) w') :
  CS 43 #[zP ap] w R:=by
 refine .of (Q6s h (by omega)) ?_;rintro v w' ⟨hrow,hE,hn⟩;obtain⟨p,c,rfl⟩:=hrow.shape;exact r p c w' hrow hE hn
end
end
section
open Go.RowKit Go.Maps Thing
section
variable{s:Sv}{A:Ax}{t:Tn}{a:Ad}
theorem Qau(T:Tb)(size:Nat)(ts:List Tch)(x n:Int)(b:Bool)(hs:size<=2097152):(ts++tchL (vL T size x n) b).length<=ts.length+3276800:=by
 have:=(Q3w T size x n hs).2;rw[zzlna,Q1k];omega
theorem Qcw(A:Ax)(t:Tn)(x:Int):(putA A t x).ts.length<=A.ts.length+18:=(Q4h A t.H x).2
theorem QeH(g:TnOk s A t)(o:Op):(askM s A t o).A.ts.length<=A.ts.length+10000000:=by
 have sm:=g.h.small;have G:=fun n=>Q8P (s:=s) (A:=A) (t:=t) n;unfold askM;split
 ·exact Nat.le_trans (G _) (by omega)
 split
 ·unfold calR;split
  ·exact Nat.le_trans (G _) (by omega)
  ·exact Nat.le_add_right _ _
 split
 ·unfold freR;split
  ·exact Nat.le_trans (Qcw A t _) (by omega)
  ·exact Nat.le_add_right _ _
 split
 ·unfold rlcR;split
  ·exact Nat.le_add_right _ _
  rename_i x _;split
  ·exact Nat.le_add_right _ _
  split
  ·split
   ·have gh:=Q6Q (s:=s) (A:=A) (t:=t) g.h o.N;have h1:=Qcw (cpyA (getM s A t o.N).A (getM s A t o.N).t.H.T (getM s A t o.N).ad x ((t.ob x).getD 0)) (getM s A t o.N).t x;have h2:(cpyA (getM s A t o.N).A (getM s A t o.N).t.H.T (getM s A t o.N).ad x ((t.ob x).getD 0)).ts.length<=(getM s A t o.N).A.ts.length+6553600:=Q8B _ _ _ _ _ _ gh.small;have h3:=G o.N;exact Nat.le_trans h1 (by omega)
   ·exact Nat.le_trans (G _) (by omega)
  ·show(if _ then zerA A t.H.T _ _ else A).ts.length<=_;split
   ·exact Nat.le_trans (Qau _ _ _ _ _ _ sm) (by omega)
   ·exact Nat.le_add_right _ _
 split
 ·exact Nat.le_add_right _ _
 split
 ·unfold reaR;split
  ·exact Nat.le_trans (Qau _ _ _ _ _ _ sm) (by omega)
  ·exact Nat.le_add_right _ _
 split
 ·unfold wriR;split
  ·exact Nat.le_trans (Qau _ _ _ _ _ _ sm) (by omega)
  ·exact Nat.le_add_right _ _
 exact Nat.le_add_right _ _
theorem Q6A(T:Tb):(allT T).length=T.length:=by
 unfold allT;rw[List.length_mergeSort,List.length_map]
theorem QeS(g:HOk s A t.H):(drpA s A t).ts.length<=A.ts.length+6400:=by
 have h1:=(Q30 s (allT t.H.T) A t.H.T (fun y hy=>(g.tin y hy))).2.1;rw[Q6A] at h1;have:=g.few;exact Nat.le_trans h1 (by omega)
theorem Qcm(g:HOk s A t.H)(win:List Int):(movM s A t.H win).A.ts.length<=A.ts.length+19200:=by
 have:=g.few;have hl:(outL s A.cs t.H.T win).length<=t.H.T.length:=by
  unfold outL;refine Nat.le_trans (List.length_filter_le _ _) ?_;rw[Q6A];exact Nat.le_refl _
 unfold movM;split
 ·show(mvN s (outL s A.cs t.H.T win) A {t.H with win:=win}).1.ts.length<=_;rw[Q9c];omega
 ·exact Nat.le_add_right _ _
theorem QeL(i k q:Int):(creM s a i k q).a.A=a.A:=by
 unfold creM;split;rfl;split;rfl;split;rfl;split;rfl;split;rfl;split <;> rfl
theorem QeM(g:AdOk s a)(i:Int):(desM s a i).a.A.ts.length<=a.A.ts.length+6400:=by
 unfold desM;split
 ·exact Nat.le_add_right _ _
 rename_i hi;cases h:a.tn i.toNat with
 | none=>exact Nat.le_add_right _ _
 | some t=>exact QeS (g.tn i.toNat t (by omega) h).h
theorem Qfh(g:AdOk s a)(i k q:Int):(resM s a i k q).a.A.ts.length<=a.A.ts.length+19200:=by
 unfold resM;split
 ·exact Nat.le_add_right _ _
 rename_i hi;cases h:a.tn i.toNat with
 | none=>exact Nat.le_add_right _ _
 | some t=>
  have gt:=(g.tn i.toNat t (by omega) h).h;show(if _ then _ else _:Ar').a.A.ts.length<=_;split
  ·exact Nat.le_add_right _ _
  split
  ·exact Nat.le_add_right _ _
  split
  ·exact Nat.le_add_right _ _
  show(rszR s a.A t q _).A.ts.length<=_;unfold rszR;split
  ·exact Nat.le_add_right _ _
  split
  ·exact Qcm gt _
  ·exact Qcm gt _
end
structure Se where
 a:Ad
 done:List Op
 tch:List Tch
structure Dr where
 a:An
 x:Se
structure Da where
 a:An
 x:Ad
def fgt(a:Ad):Ad:={a with A:={a.A with ts:=[]}}
def chgO(a:Ad)(T:Nat):Int:=match a.tn T with | some t=>(t.q.cb:Int) | none=>0
noncomputable def doA(s:Sv)(a:Ad)(o:Op):Da:=
 if o.K=1 then⟨anE (creM s a o.T o.M o.N).E,(creM s a o.T o.M o.N).a⟩
 else if o.K=2 then⟨anE (resM s a o.T o.M o.N).E,(resM s a o.T o.M o.N).a⟩
 else if o.K=3 then⟨anE (desM s a o.T).E,(desM s a o.T).a⟩
 else match a.tn o.T.toNat with
  | none=>⟨anE 6,a⟩
  | some t=>⟨(askM s a.A t o).a,{a with A:=(askM s a.A t o).A,tn:=updF a.tn o.T.toNat (some (askM s a.A t o).t)}⟩
noncomputable def doM(s:Sv)(x:Se)(o:Op):Dr:=
 if chkE o ≠ 0 then⟨anE (chkE o),⟨fgt x.a,x.done,[]⟩⟩
 else⟨{(doA s (fgt x.a) o).a with C:=chgO (doA s (fgt x.a) o).x o.T.toNat},⟨(doA s (fgt x.a) o).x,x.done++[o],(doA s (fgt x.a) o).x.A.ts⟩⟩
section
variable{s:Sv}{A:Ax}{t:Tn}{a:Ad}{x:Se}
theorem Q6E{o:Op}(h:chkE o=0):1<=o.K /\ o.K<=11 /\ 0<=o.T /\ o.T<8 /\ (o.D.size:Int)<=8192 /\ ((o.D.size:Int)=0 \/ o.K=10):=by
 unfold chkE at h;split at h
 ·cases h
 ·rename_i q;have hs:(0:Int)<=o.D.size:=Int.natCast_nonneg _;refine⟨?_,?_,?_,?_,?_,?_⟩
  ·exact Classical.byContradiction fun z=>q (.inl (by omega))
  ·exact Classical.byContradiction fun z=>q (.inr (.inl (by omega)))
  ·exact Classical.byContradiction fun z=>q (.inr (.inr (.inl (by omega))))
  ·exact Classical.byContradiction fun z=>q (.inr (.inr (.inr (.inl (by omega)))))
  ·exact Classical.byContradiction fun z=>q (.inr (.inr (.inr (.inr (.inl (by omega))))))
  ·exact Classical.byContradiction fun z=>q (.inr (.inr (.inr (.inr (.inr ⟨by omega,by omega⟩)))))
theorem TnInv.tsF(g:TnInv s A t)(ts:List Tch):TnInv s {A with ts:=ts} t:=Q3M g ⟨g.ok.h.bytes ts rfl,g.ok.q,g.ok.ob,g.ok.al,g.ok.cap,g.ok.nx⟩
theorem AdInv.fgt(g:AdInv s a):AdInv s (fgt a):=
 ⟨fun i t hi h=>⟨(g.tn i t hi h).inv.tsF [],(g.tn i t hi h).id,(g.tn i t hi h).win,(g.tn i t hi h).wn,(g.tn i t hi h).lp⟩,g.n1,g.c1,g.c32,g.p4,g.sn,g.bl,g.cl,g.hl,g.se,g.nil,g.nd,g.rng,g.dis,g.has,g.all⟩
theorem Q90(g:AdInv s a){o:Op}(h:chkE o=0):AdInv s (doA s a o).x:=by
 obtain⟨_,_,h0,h8,_⟩:=Q6E h;unfold doA;split
 ·exact Q7W g _ _ _
 split
 ·exact(Q7Y g _ _ _).1
 split
 ·exact Q7X g _
 cases ht:a.tn o.T.toNat with
 | none=>exact g
 | some t=>exact Q7V g (by omega) ht o
theorem Q36(g:AdInv s x.a)(o:Op):AdInv s (doM s x o).x.a:=by
 unfold doM;split
 ·exact g.fgt
 ·rename_i h;exact Q90 g.fgt (by simpa using h)
theorem Q8E(g:AdOk s a){o:Op}(h:chkE o=0):(doA s a o).x.A.ts.length<=a.A.ts.length+10000000:=by
 obtain⟨_,_,h0,h8,_⟩:=Q6E h;unfold doA;split
 ·show(creM s a o.T o.M o.N).a.A.ts.length<=_;rw[QeL];exact Nat.le_add_right _ _
 split
 ·exact Nat.le_trans (Qfh g _ _ _) (by omega)
 split
 ·exact Nat.le_trans (QeM g _) (by omega)
 cases ht:a.tn o.T.toNat with
 | none=>exact Nat.le_add_right _ _
 | some t=>exact QeH (g.tn o.T.toNat t (by omega) ht) o
end
end
section
open Go.RowKit Go.Maps Thing
structure Sy where
 ab:Nat
 z:Al
 vd:Value
 vt:Value
def svv(s:Sv)(y:Sy)(i:Nat):Value:=if i=0 then .pointer (some ⟨y.ab,0,none⟩)else if i=1 then .int .i64 ((s.nC*s.C:Nat):Int)else if i=2 then .int .i64 (s.C:Int)else if i=3 then y.vd else y.vt
abbrev svO(s:Sv)(y:Sy):Obj:=fO 5 81 (svv s y)
abbrev dnT(v:Value)(l:List Op):Thing:=rwT 35 6 opL v l
abbrev tcT(v:Value)(l:List Tch):Thing:=rwT 47 3 tcell v l
def svX(s:Sv)(sb:Nat)(y:Sy)(x:Se):Thing:=blk sb (svO s y)*(adX s y.ab y.z x.a*(dnT y.vd x.done*tcT y.vt x.tch))
theorem elemOp:ElemOk prog 25 35 6 56:=.of (z:=.agg #[.int .i64 0,.int .i64 0,.int .i64 0,.int .i64 0,.int .u64 0,.string (ByteArray.mk #[])]) (by kernel_rfl) (by kernel_rfl) rfl
theorem Q9j(x:Op):(opL x).length=6:=rfl
theorem Q9k(x:Op)(u:Value)(h:u ∈ opL x):u.oneCell'=true:=by
 simp only[opL,List.mem_cons,List.not_mem_nil,or_false] at h;rcases h with rfl | rfl | rfl | rfl | rfl | rfl <;> rfl
section
variable{s:Sv}{sb:Nat}{y:Sy}{x:Se}{w:World}{F:Nat->Prop}{X C:Thing}{R:VW}
def svAd(s:Sv)(sb:Nat)(y:Sy)(x:Se):Thing:=blk sb (svO s y)*(dnT y.vd x.done*tcT y.vt x.tch)
theorem QbD(z:Al)(a:Ad):svX s sb {y with z:=z} {x with a:=a}=adX s y.ab z a*svAd s sb y x:=by
 unfold svX svAd;show blk sb (svO s y)*_=_;ac_rfl
theorem Q1z:svX s sb y x=adX s y.ab y.z x.a*svAd s sb y x:=QbD y.z x.a
theorem sc(h:X.P w F)(e:X=svX s sb y x*C){i:Nat}(hi:i<5):w.cell? ⟨sb,i,none⟩=some (svv s y i):=
 Q4c (Q09 h (show X=blk sb (svO s y)*(adX s y.ab y.z x.a*(dnT y.vd x.done*tcT y.vt x.tch)*C) by rw[e];unfold svX;ac_rfl)) hi
theorem Q5D(h:X.P w F)(e:X=svX s sb y x*C):w.cell? (((zA sb).add 0).add 0)=some (.pointer (some ⟨y.ab,0,none⟩)):=by rw[Q02,Q02];exact sc h e (by omega)
theorem Qfp(h:X.P w F)(e:X=svX s sb y x*C):w.cell? (((zA sb).add 0).add 3)=some y.vd:=by rw[Q02,Q02];exact sc h e (by omega)
theorem Q6d(r:R (.int .i64 0) w):CS 58 #[.pointer none] w R:=by
 constructor;refine vc110.ok ?_;unfold vc110;exact Q03 rfl r
theorem s_at(h:X.P w F)(e:X=svX s sb y x*C)(i:Int)(r:R (tnP y.z x.a i) w):CS 44 #[zP sb,.int .i64 i] w R:=by
 constructor;refine vc102.ok ?_;unfold vc102;exact Q00 rfl ⟨_,Q5D h e,atenant (C:=svAd s sb y x*C) h (by rw[e,Q1z];ac_rfl) i ⟨_,rfl,r⟩⟩
theorem Q9M(g:AdOk s x.a)(h:X.P w F)(e:X=svX s sb y x*C){i:Nat}(hi:i<8)(r:R (.int .i64 (chgO x.a i)) w):CS 23 #[zP sb,.int .i64 (i:Int)] w R:=by
 constructor;refine vc91.ok ?_;unfold vc91;unfold chgO at r;refine s_at h e _ ⟨_,rfl,?_⟩;rw[if_pos ⟨by omega,by omega⟩,zztnc];cases ht:x.a.tn i with
 | none=>rw[ht] at r;exact Q6d ⟨_,rfl,r⟩
 | some t=>
  rw[ht] at r;exact Q2u (C:=axT s x.a.A*adTn s y.ab y.z x.a ⟨i,hi⟩*(svAd s sb y x*C)) h (by rw[e,Q1z,Q3B ⟨i,hi⟩ ht];ac_rfl) (g.tn i t hi ht).q ⟨_,rfl,r⟩
def doTl(sb n0 n2:Nat)(R:VW)(w76:World):Prop:=
 ∃i77:Int,w76.cell? ((zA n0).add (1:Nat))=some (.int .i64 i77) /\ CS 23 #[zP sb,.int .i64 i77] w76 fun v78 w79=>∃i80:Int,v78=.int .i64 i80 /\ WrC w79 ((zA n2).add (5:Nat)) (1:Nat) /\ ∀(w81:World),w81=wr w79 ((zA n2).add (5:Nat)) [.int .i64 i80] →
 ∃p83:Option Addr,w81.cell? (((zA sb).add (0:Nat)).add (0:Nat))=some (.pointer p83) /\ CS 35 #[.pointer p83] w81 fun v84 w85=>∃p86:Option Addr,v84=.pointer p86 /\ CS 43 #[.pointer p86] w85 fun v87 w88=>∃(p89:Option Addr)(n90 n91:Nat),v87=.slice p89 n90 n91 /\
 WrC w88 (((zA sb).add (0:Nat)).add (4:Nat)) (1:Nat) /\ ∀(w93:World),w93=wr w88 (((zA sb).add (0:Nat)).add (4:Nat)) [.slice p89 n90 n91]->∃(i94 i95 i96 i97:Int)(s98:ByteArray)(i99:Int),CellsAt w93 (zA n2) [.int .i64 i94,.int .u64 i95,.int .i64 i96,.int .i64 i97,.string s98,.int .i64 i99] /\
 WrC w93 (zA n2) (6:Nat) /\ ∀(w100:World),w100=wr w93 (zA n2) [.int .i64 i94,.int .u64 i95,.int .i64 i96,.int .i64 i97,.string s98,.int .i64 i99]->∃(i101 i102 i103 i104:Int)(s105:ByteArray)(i106:Int),CellsAt w100 (zA n2) [.int .i64 i101,.int .u64 i102,.int .i64 i103,.int .i64 i104,.string s105,.int .i64 i106] /\ R (.agg #[.int .i64 i101,.int .u64 i102,.int .i64 i103,.int .i64 i104,.string s105,.int .i64 i106]) w100
theorem Qfv(v:Value):fO 5 81 (updV (svv s y) (0+0+4) v)=svO s {y with vt:=v}:=Q0Q fun i hi=>by
 match i,hi with
 | 0,_=>rfl
 | 1,_=>rfl
 | 2,_=>rfl
 | 3,_=>rfl
 | 4,_=>rfl
theorem Qfu(v:Value):fO 5 81 (updV (svv s y) (0+0+3) v)=svO s {y with vd:=v}:=Q0Q fun i hi=>by
 match i,hi with
 | 0,_=>rfl
 | 1,_=>rfl
 | 2,_=>rfl
 | 3,_=>rfl
 | 4,_=>rfl
theorem Q9Y{v:Value}{ts:List Tch}{K:World->Prop}(h:X.P w F)(e:X=tcT v ts*(svX s sb y x*C))(k:∀w1 F',(svX s sb {y with vt:=v} {x with tch:=ts}*C).P w1 F'->Step F w F' w1->K w1) :
  WrC w (((zA sb).add 0).add 4) 1 /\ ∀w1,w1=wr w (((zA sb).add 0).add 4) [v]->K w1:=by
 rw[Q02,Q02];refine Q1I (C:=tcT v ts*(adX s y.ab y.z x.a*(dnT y.vd x.done*tcT y.vt x.tch)*C)) (v:=v) h (show X=blk sb (svO s y)*_ by rw[e];unfold svX;ac_rfl) (by omega) fun w1 F1 h1 s1=>?_;have h2:(tcT y.vt x.tch*(svX s sb {y with vt:=v} {x with tch:=ts}*C)).P w1 F1:=re h1 (by
  rw[Qfv];unfold svX;show _=tcT y.vt x.tch*(blk sb (svO s {y with vt:=v})*(adX s y.ab y.z x.a*(dnT y.vd x.done*tcT v ts))*C);ac_rfl)
 obtain⟨F2,h3,sub⟩:=drop_left h2;exact k w1 F2 h3 (s1.sub sub)
theorem QfN(h:X.P w F):(tcT (.slice none 0 0) []*X).P w F:=re (Q3i h) (zztmc _ _)
theorem Q8F{n0 n2:Nat}{o:Op}{a:Ad}{dn:List Op}(g:AdOk s a)(hT:0<=o.T /\ o.T<8)(an:An)(h:(blk n2 (anO (anL an).toArray)*(blk n0 (opB o)*svX s sb y ⟨a,dn,[]⟩)).P w F)(hts:a.A.ts.length<1000000000000)
  (r:∀y' w' F',(svX s sb y' ⟨a,dn,a.A.ts⟩).P w' F'->Step F w F' w'->R (anV {an with C:=chgO a o.T.toNat}) w'):doTl sb n0 n2 R w:=by
 obtain⟨K,T,N,M,Hh,D⟩:=o;obtain⟨m,rfl⟩:=zzeoz hT.1;have hm:m<8:=by have:(m:Int)<8:=hT.2;omega
 rw[show(Op.T ⟨K,(m:Int),N,M,Hh,D⟩).toNat=m from zztnc m] at r;unfold doTl;have hb:=Q09 (b:=n0) (o:=opB ⟨K,(m:Int),N,M,Hh,D⟩) (C:=blk n2 (anO (anL an).toArray)*svX s sb y ⟨a,dn,[]⟩) h (by ac_rfl);refine⟨_,by rw[Q02];exact Q01 hb rfl,Q9M (x:=⟨a,dn,[]⟩) (C:=blk n2 (anO (anL an).toArray)*blk n0 (opB ⟨K,(m:Int),N,M,Hh,D⟩)) g h (by ac_rfl) hm ⟨_,rfl,?_⟩⟩;rw[Q02];refine Q0B (b:=n2) (o:=0+5) (C:=blk n0 (opB ⟨K,(m:Int),N,M,Hh,D⟩)*svX s sb y ⟨a,dn,[]⟩) h rfl (by simp) fun w3 F3 h3 s3=>?_;have h3:(blk n2 (anO (anL {an with C:=chgO a m}).toArray)*(blk n0 (opB ⟨K,(m:Int),N,M,Hh,D⟩)*svX s sb y ⟨a,dn,[]⟩)).P w3 F3:=h3;have e3:∀ {B:Thing},blk n2 (anO (anL {an with C:=chgO a m}).toArray)*(B*svX s sb y ⟨a,dn,[]⟩)=svX s sb y ⟨a,dn,[]⟩*(blk n2 (anO (anL {an with C:=chgO a m}).toArray)*B):=by intro B;ac_rfl
 refine⟨_,Q5D h3 e3,aarena (s:=s) (ab:=y.ab) (z:=y.z) (a:=a) (C:=svAd s sb y ⟨a,dn,[]⟩*(blk n2 (anO (anL {an with C:=chgO a m}).toArray)*blk n0 (opB ⟨K,(m:Int),N,M,Hh,D⟩))) h3 (by rw[Q1z];ac_rfl) ⟨_,rfl,?_⟩⟩;obtain⟨Fa,ha,_⟩:=Q0e (A:=arT s.ap a.A.bs a.A.ts) (Y:=adAr s y.ab y.z a*(svAd s sb y ⟨a,dn,[]⟩*(blk n2 (anO (anL {an with C:=chgO a m}).toArray)*blk n0 (opB ⟨K,(m:Int),N,M,Hh,D⟩)))) h3 (by rw[Q1z,Q8m];ac_rfl);refine Q8a ha (by omega) fun p c w4 hrow hE hn=>⟨_,_,_,rfl,?_⟩;obtain⟨h4,s4⟩:=Q0h (B:=tcT (.slice p a.A.ts.length c) a.A.ts) h3 hE ⟨hrow,rfl⟩ hn;refine Q9Y (s:=s) (sb:=sb) (y:=y) (x:=⟨a,dn,[]⟩) (ts:=a.A.ts) (C:=blk n2 (anO (anL {an with C:=chgO a m}).toArray)*blk n0 (opB ⟨K,(m:Int),N,M,Hh,D⟩)) h4 (by ac_rfl) fun w5 F5 h5 s5=>?_;have hb5:=Q09 (b:=n2) (o:=anO (anL {an with C:=chgO a m}).toArray) (C:=svX s sb {y with vt:=.slice p a.A.ts.length c} ⟨a,dn,a.A.ts⟩*blk n0 (opB ⟨K,(m:Int),N,M,Hh,D⟩)) h5 (by show svX s sb {y with vt:=.slice p a.A.ts.length c} ⟨a,dn,a.A.ts⟩*_=_;ac_rfl);refine⟨_,_,_,_,_,_,Q07 hb5,Q1n {an with C:=chgO a m} (arr:=(anL {an with C:=chgO a m}).toArray) (C:=svX s sb {y with vt:=.slice p a.A.ts.length c} ⟨a,dn,a.A.ts⟩*blk n0 (opB ⟨K,(m:Int),N,M,Hh,D⟩)) (re h5 (by show svX s sb {y with vt:=.slice p a.A.ts.length c} ⟨a,dn,a.A.ts⟩*_=_;ac_rfl)) rfl fun w6 F6 h6 s6=>?_⟩;obtain⟨F7,h7,sub⟩:=drop_left (re h6 (zztmc _ _));exact r _ w6 F7 h7 ((((s3.trans s4).trans s5).trans s6).sub sub)
end
end
section
open Go.RowKit Go.Maps Thing
section
variable{s:Sv}{sb:Nat}{y:Sy}{x:Se}{w:World}{F:Nat->Prop}{X C:Thing}{R:VW}
def svDn(s:Sv)(sb:Nat)(y:Sy)(x:Se):Thing:=blk sb (svO s y)*(adX s y.ab y.z x.a*tcT y.vt x.tch)
theorem Qfw:svX s sb y x=dnT y.vd x.done*svDn s sb y x:=by unfold svX svDn;ac_rfl
theorem Qe3{v:Value}{l:List Op}{K:World->Prop}(h:X.P w F)(e:X=dnT v l*(svDn s sb y x*C))(k:∀w1 F',(svX s sb {y with vd:=v} {x with done:=l}*C).P w1 F'->Step F w F' w1->K w1) :
  WrC w (((zA sb).add 0).add 3) 1 /\ ∀w1,w1=wr w (((zA sb).add 0).add 3) [v]->K w1:=by
 rw[Q02,Q02];refine Q1I (C:=dnT v l*(adX s y.ab y.z x.a*tcT y.vt x.tch)*C) (v:=v) h (show X=blk sb (svO s y)*_ by rw[e];unfold svDn;ac_rfl) (by omega) fun w1 F1 h1 s1=>?_;refine k w1 F1 (re h1 ?_) s1;rw[Qfu];unfold svX;show _=blk sb (svO s {y with vd:=v})*(adX s y.ab y.z x.a*(dnT v l*tcT y.vt x.tch))*C;ac_rfl
abbrev b2(n2:Nat)(an:An):Thing:=blk n2 (anO (anL an).toArray)
theorem sw3(A B C:Thing):A*(B*C)=C*(A*B):=by ac_rfl
theorem QaG{n0 n2:Nat}{o:Op}{a:Ad}{dn:List Op}{E:Int}(g:AdOk s a)(hT:0<=o.T /\ o.T<8)(hts:a.A.ts.length<1000000000000)(h:(b2 n2 (anE 0)*(blk n0 (opB o)*svX s sb y ⟨a,dn,[]⟩)).P w F)
  (r:∀y' w' F',(svX s sb y' ⟨a,dn,a.A.ts⟩).P w' F'->Step F w F' w'->R (anV {anE E with C:=chgO a o.T.toNat}) w') :
  WrC w ((zA n2).add 0) 1 /\ ∀w1,w1=wr w ((zA n2).add 0) [.int .i64 E]->doTl sb n0 n2 R w1:=by
 rw[Q02];refine Q0B (b:=n2) (o:=0+0) (C:=blk n0 (opB o)*svX s sb y ⟨a,dn,[]⟩) h rfl (by simp) fun w3 F3 h3 s3=>?_;have h3:(b2 n2 (anE E)*(blk n0 (opB o)*svX s sb y ⟨a,dn,[]⟩)).P w3 F3:=h3;exact Q8F g hT (anE E) h3 hts fun y' w' F' p st=>r y' w' F' p (s3.trans st)
theorem t_do(g:AdInv s x.a){o:Op}(hu:Hd.U64 o.H)(hl:x.done.length+1<=1000000):Tri 14 #[zP sb,opV o] (svX s sb y x)
  (fun v=>any fun y':Sy=>only (v=anV (doM s x o).a) (svX s sb y' (doM s x o).x)):=by
 intro w F R h r;have r:∀y' w' F',(svX s sb y' (doM s x o).x).P w' F'->Step F w F' w'->R (anV (doM s x o).a) w':=fun y' w' F' p st=>r _ w' F' ⟨y',rfl,p⟩ st;have gf:=g.fgt;constructor;refine vc122.ok ?_;unfold vc122;refine Q0j h fun n0 w1 F1 h1 s1 _=>Q0j h1 fun n2 w2 F2 h2 s2 _=>Q00 rfl ?_;have e2:b2 n2 (anE 0)*(blk n0 (opB o)*svX s sb y x)=svX s sb y x*(b2 n2 (anE 0)*blk n0 (opB o)):=sw3 _ _ _;refine⟨_,Q5D h2 e2,aarena (s:=s) (ab:=y.ab) (z:=y.z) (a:=x.a) (C:=svAd s sb y x*(b2 n2 (anE 0)*blk n0 (opB o))) h2 (e2.trans (by rw[Q1z];ac_rfl)) ⟨_,rfl,?_⟩⟩;refine Qa0.use (C:=adAr s y.ab y.z x.a*(svAd s sb y x*(b2 n2 (anE 0)*blk n0 (opB o)))) h2 (e2.trans (by rw[Q1z,Q8m];ac_rfl)) fun v w3 F3 h3 s3=>?_;rw[Q06] at h3;obtain⟨hv,h3⟩:=h3;refine⟨hv,?_⟩;have e3:arT s.ap x.a.A.bs []*(adAr s y.ab y.z x.a*(svAd s sb y x*(b2 n2 (anE 0)*blk n0 (opB o))))=svX s sb y {x with a:=fgt x.a}*(b2 n2 (anE 0)*blk n0 (opB o)):=by
  rw[Q1z];have e:=QcS (s:=s) (ab:=y.ab) (z:=y.z) (a:=x.a) x.a.A.bs [];show _=adX s y.ab y.z (fgt x.a)*svAd s sb y x*_;have e:adX s y.ab y.z (fgt x.a)=_:=e;rw[e];ac_rfl
 rw[e3] at h3;refine Q9Y (s:=s) (sb:=sb) (y:=y) (x:={x with a:=fgt x.a}) (ts:=[]) (C:=b2 n2 (anE 0)*blk n0 (opB o)) (QfN h3) rfl fun w4 F4 h4 s4=>?_;have s14:=((s1.trans s2).trans s3).trans s4
 let y4:Sy:={y with vt:=.slice none 0 0}
 let x4:Se:=⟨fgt x.a,x.done,[]⟩
 have h4:(svX s sb y4 x4*(b2 n2 (anE 0)*blk n0 (opB o))).P w4 F4:=h4;have hb4:=Q09 (b:=n0) (o:=opB o) (C:=svX s sb y4 x4*b2 n2 (anE 0)) h4 (by ac_rfl);refine⟨_,_,_,_,_,_,Q07 (vs:=opL o) hb4,ocheck o fun w5 hE5=>⟨_,rfl,?_⟩⟩;have h5:=Thing.grow h4 hE5;have s15:=s14.trans (Step.ext hE5);rw[Q02];refine Q0B (b:=n2) (o:=0+0) (arr:=(anL (anE 0)).toArray) (T:=40) (C:=blk n0 (opB o)*svX s sb y4 x4) h5 (by show _=b2 n2 (anE 0)*_;ac_rfl) (by simp) fun w6 F6 h6 s6=>?_;have h6:(b2 n2 (anE (chkE o))*(blk n0 (opB o)*svX s sb y4 x4)).P w6 F6:=h6;have s16:=s15.trans s6;have hb6:=Q09 h6 rfl;refine⟨_,Q01 hb6 rfl,Q05 (fun q=>?_) (fun q=>?_)⟩
 ·have q:chkE o ≠ 0:=by simpa using q
  unfold doM at r;rw[if_pos q] at r;refine⟨_,_,_,_,_,_,Q07 (vs:=anL (anE (chkE o))) hb6,Q1n (anE (chkE o)) (arr:=(anL (anE (chkE o))).toArray) (C:=blk n0 (opB o)*svX s sb y4 x4) h6 rfl fun w7 F7 h7 s7=>?_⟩;obtain⟨F8,h8,sub⟩:=drop_left h7;exact r y4 w7 F8 h8 ((s16.trans s7).sub sub)
 have q:chkE o=0:=by simpa using q
 obtain⟨k1,k11,t0,t8,_⟩:=Q6E q;unfold doM at r;rw[if_neg (by simp[q])] at r;rw[q] at h6;refine fun w7 e7=>?_;subst e7;have hE7:=Ext.drew w6;have h7:=Thing.grow h6 hE7;have s17:=s16.trans (Step.ext hE7);have e7:b2 n2 (anE 0)*(blk n0 (opB o)*svX s sb y4 x4)=svX s sb y4 x4*(b2 n2 (anE 0)*blk n0 (opB o)):=sw3 _ _ _;have hrow:=Q5C (e:=35) (k:=6) (f:=opL) (v:=y4.vd) (l:=x4.done) (Y:=svDn s sb y4 x4*(b2 n2 (anE 0)*blk n0 (opB o))) h7 (by rw[e7,Qfw];show _=dnT y4.vd x4.done*_;ac_rfl);obtain⟨pd,cd,hvd⟩:=hrow.shape;refine⟨_,_,_,(Qfp h7 e7).trans (congrArg some hvd),_,_,_,_,_,_,Q07 (vs:=opL o) (Q09 (b:=n0) (o:=opB o) (C:=b2 n2 (anE 0)*svX s sb y4 x4) h7 (by ac_rfl)),?_⟩;refine Q0j h7 fun n8 w8 F8 h8 s8 _=>?_;have s18:=s17.trans s8;have e8:blk n8 (opB o)*(b2 n2 (anE 0)*(blk n0 (opB o)*svX s sb y4 x4))=svX s sb y4 x4*(blk n8 (opB o)*(b2 n2 (anE 0)*blk n0 (opB o))):=by ac_rfl
 refine⟨⟨_,_,_,(Qfp (C:=blk n8 (opB o)*(b2 n2 (anE 0)*blk n0 (opB o))) h8 e8).trans (congrArg some hvd),rfl⟩,?_⟩;obtain⟨p9,c9,w9,F9,hrun,h9,s9⟩:=Q3j elemOp Q9j Q9k (v:=y4.vd) (l:=x4.done) (a:=⟨n8,0,none⟩) (c:=1) (x:=o) (Y:=svDn s sb y4 x4*(blk n8 (opB o)*(b2 n2 (anE 0)*blk n0 (opB o)))) (re h8 (by show blk n8 (opB o)*(b2 n2 (anE 0)*(blk n0 (opB o)*svX s sb y4 x4))=_;rw[e8,Qfw];show _=dnT y4.vd x4.done*_;ac_rfl))
  (Q07 (vs:=opL o) (Q09 (b:=n8) (o:=opB o) (C:=b2 n2 (anE 0)*(blk n0 (opB o)*svX s sb y4 x4)) h8 rfl)) hl (by have hl4:x4.done.length+1<=1000000:=hl;omega)
 rw[hvd] at hrun;refine⟨_,_,_,w9,hrun,Qe3 (s:=s) (sb:=sb) (y:=y4) (x:=x4) (l:=x4.done++[o]) (C:=blk n8 (opB o)*(b2 n2 (anE 0)*blk n0 (opB o))) h9 rfl fun w10 F10 h10 s10=>?_⟩
 let y5:Sy:={y4 with vd:=.slice p9 (x4.done.length+1) c9}
 let x5:Se:=⟨fgt x.a,x.done++[o],[]⟩
 have h10:(svX s sb y5 x5*(blk n8 (opB o)*(b2 n2 (anE 0)*blk n0 (opB o)))).P w10 F10:=h10;obtain⟨F11,h11,sub⟩:=drop_left (A:=blk n8 (opB o)) (B:=b2 n2 (anE 0)*(blk n0 (opB o)*svX s sb y5 x5)) (re h10 (by ac_rfl));have s1a:=((s18.trans s9).trans s10).sub sub;have hb11:=Q09 (b:=n0) (o:=opB o) (C:=svX s sb y5 x5*b2 n2 (anE 0)) h11 (by ac_rfl);have hE12:=Ext.drew w10;have h12:=Thing.grow h11 hE12;have s1b:=s1a.trans (Step.ext hE12);have hb12:=hE12.keep hb11;have e12:b2 n2 (anE 0)*(blk n0 (opB o)*svX s sb y5 x5)=svX s sb y5 x5*(b2 n2 (anE 0)*blk n0 (opB o)):=sw3 _ _ _;have ea:b2 n2 (anE 0)*(blk n0 (opB o)*svX s sb y5 x5)=adX s y5.ab y5.z x5.a*(svAd s sb y5 x5*(b2 n2 (anE 0)*blk n0 (opB o))):=by rw[e12,Q1z,Thing.mul_assoc]
 have hts:x5.a.A.ts.length<60000000000:=by show 0<_;omega
 have gdo:=(Q90 gf q).ok;have tsd:(doA s x5.a o).x.A.ts.length<1000000000000:=by
  have:=Q8E gf.ok q;have e0:(fgt x.a).A.ts.length=0:=rfl;exact Nat.lt_of_le_of_lt this (by omega)
 have adm:∀(E:Int)(z':Al)(w':World)(F':Nat->Prop),doA s x5.a o=⟨anE E,(doA s x5.a o).x⟩->(adX s y5.ab z' (doA s x5.a o).x*(svAd s sb y5 x5*(b2 n2 (anE 0)*blk n0 (opB o)))).P w' F'->Step F11 w10.drew F' w' →
   WrC w' ((zA n2).add 0) 1 /\ ∀w1,w1=wr w' ((zA n2).add 0) [.int .i64 E]->doTl sb n0 n2 R w1:=fun E z' w' F' ed p st=>by
  have p2:(b2 n2 (anE 0)*(blk n0 (opB o)*svX s sb {y5 with z:=z'} ⟨(doA s x5.a o).x,x.done++[o],[]⟩)).P w' F':=re p (by
   have e:=QbD (s:=s) (sb:=sb) (y:=y5) (x:=x5) z' (doA s x5.a o).x;have e:svX s sb {y5 with z:=z'} ⟨(doA s x5.a o).x,x.done++[o],[]⟩=adX s y5.ab z' (doA s x5.a o).x*svAd s sb y5 x5:=e;rw[e];ac_rfl)
  refine QaG gdo ⟨t0,t8⟩ tsd p2 fun y' w'' F'' p3 st3=>?_;have r:=r y' w'' F'' p3 ((s1b.trans st).trans st3);rw[show doA s (fgt x.a) o=_ from ed] at r;exact r
 refine⟨_,by rw[Q02];exact Q01 hb11 rfl,Q05 (fun q1=>?_) (fun q1=>?_)⟩
 ·have q1:o.K=1:=by simpa using q1
  refine fun w12 e=>?_;subst e;refine⟨_,Q5D h12 e12,_,by rw[Q02];exact Q01 hb12 rfl,_,by rw[Q02];exact Q01 hb12 rfl,_,by rw[Q02];exact Q01 hb12 rfl,?_⟩;refine(Q9Z (s:=s) (ab:=y5.ab) (z:=y5.z) (a:=x5.a) gf.ok o.T o.M o.N).use h12 ea fun v w' F' p st=>?_;obtain⟨z',rfl,pb⟩:=Q0p p;have ed:doA s x5.a o=⟨anE (creM s x5.a o.T o.M o.N).E,(creM s x5.a o.T o.M o.N).a⟩:=by unfold doA;rw[if_pos q1]
  exact⟨_,rfl,adm _ z' w' F' (by rw[ed]) (by rw[ed];exact pb) st⟩
 have q1:¬o.K=1:=by simpa using q1
 refine Q05 (fun q2=>?_) (fun q2=>?_)
 ·have q2:o.K=2:=by simpa using q2
  refine fun w12 e=>?_;subst e;refine⟨_,Q5D h12 e12,_,by rw[Q02];exact Q01 hb12 rfl,_,by rw[Q02];exact Q01 hb12 rfl,_,by rw[Q02];exact Q01 hb12 rfl,?_⟩;refine(Qa1 (s:=s) (ab:=y5.ab) (z:=y5.z) (a:=x5.a) gf.ok hts o.T o.M o.N).use h12 ea fun v w' F' p st=>?_;obtain⟨z',rfl,pb⟩:=Q0p p;have ed:doA s x5.a o=⟨anE (resM s x5.a o.T o.M o.N).E,(resM s x5.a o.T o.M o.N).a⟩:=by unfold doA;rw[if_neg q1,if_pos q2]
  exact⟨_,rfl,adm _ z' w' F' (by rw[ed]) (by rw[ed];exact pb) st⟩
 have q2:¬o.K=2:=by simpa using q2
 refine Q05 (fun q3=>?_) (fun q3=>?_)
 ·have q3:o.K=3:=by simpa using q3
  refine fun w12 e=>?_;subst e;refine⟨_,Q5D h12 e12,_,by rw[Q02];exact Q01 hb12 rfl,?_⟩;refine(Q89 (s:=s) (ab:=y5.ab) (z:=y5.z) (a:=x5.a) gf.ok hts o.T).use h12 ea fun v w' F' p st=>?_;obtain⟨z',rfl,pb⟩:=Q0p p;have ed:doA s x5.a o=⟨anE (desM s x5.a o.T).E,(desM s x5.a o.T).a⟩:=by unfold doA;rw[if_neg q1,if_neg q2,if_pos q3]
  exact⟨_,rfl,adm _ z' w' F' (by rw[ed]) (by rw[ed];exact pb) st⟩
 have q3:¬o.K=3:=by simpa using q3
 refine fun w12 e=>?_;subst e;refine⟨_,Q5D h12 e12,_,by rw[Q02];exact Q01 hb12 rfl,atenant (s:=s) (ab:=y5.ab) (z:=y5.z) (a:=x5.a) h12 ea o.T ⟨_,rfl,?_⟩⟩;rw[if_pos ⟨t0,t8⟩];have hT:o.T.toNat<8:=by omega
 cases ht:x5.a.tn o.T.toNat with
 | none=>
  have ed:doA s x5.a o=⟨anE 6,x5.a⟩:=by unfold doA;rw[if_neg q1,if_neg q2,if_neg q3,ht]
  rw[show doA s (fgt x.a) o=_ from ed] at r;refine Q03 rfl (Q1n (anE 6) (arr:=(anL (anE 0)).toArray) (C:=blk n0 (opB o)*svX s sb y5 x5) h12 rfl fun w13 F13 h13 s13=>?_);obtain⟨F14,h14,sub⟩:=drop_left h13;have r:=r y5 w13 F14 h14 ((s1b.trans s13).sub sub);have ec:chgO x5.a o.T.toNat=0:=by unfold chgO;rw[ht]
  have r:R (anV {anE 6 with C:=chgO x5.a o.T.toNat}) w13:=r;rw[ec] at r;exact r
 | some t=>
  have ed:doA s x5.a o=⟨(askM s x5.a.A t o).a,{x5.a with A:=(askM s x5.a.A t o).A,tn:=updF x5.a.tn o.T.toNat (some (askM s x5.a.A t o).t)}⟩:=by unfold doA;rw[if_neg q1,if_neg q2,if_neg q3,ht]
  refine Q00 rfl ⟨_,_,_,_,_,_,Q07 (vs:=opL o) hb12,?_⟩;have gt:=gf.ok.tn o.T.toNat t hT ht;refine(Qe8 (s:=s) (tb:=y5.z.tp o.T.toNat) (y:=y5.z.ty o.T.toNat) (t:=t) (A:=x5.a.A) gt hts o hu).use (C:=adTn s y5.ab y5.z x5.a ⟨o.T.toNat,hT⟩*(svAd s sb y5 x5*(b2 n2 (anE 0)*blk n0 (opB o)))) h12 (by rw[ea,Q3B ⟨o.T.toNat,hT⟩ ht,Thing.mul_assoc]) fun v w' F' p st=>?_;obtain⟨yt,rfl,pb⟩:=Q0p p;have ew:=QaF (s:=s) (ab:=y5.ab) (z:=y5.z) (a:=x5.a) ⟨o.T.toNat,hT⟩ ht yt (askM s x5.a.A t o).A (askM s x5.a.A t o).t;have esv:=QbD (s:=s) (sb:=sb) (y:=y5) (x:=x5) {y5.z with ty:=updF y5.z.ty o.T.toNat yt} (doA s x5.a o).x;have p2:(b2 n2 (anE 0)*(blk n0 (opB o)*svX s sb {y5 with z:={y5.z with ty:=updF y5.z.ty o.T.toNat yt}} ⟨(doA s x5.a o).x,x.done++[o],[]⟩)).P w' F':=re pb (by
   have esv:svX s sb {y5 with z:={y5.z with ty:=updF y5.z.ty o.T.toNat yt}} ⟨(doA s x5.a o).x,x.done++[o],[]⟩=_:=esv;rw[esv,ed];have ew:adX s y5.ab {y5.z with ty:=updF y5.z.ty o.T.toNat yt} {x5.a with A:=(askM s x5.a.A t o).A,tn:=updF x5.a.tn o.T.toNat (some (askM s x5.a.A t o).t)}=_:=ew;rw[ew];ac_rfl)
  refine⟨_,_,_,_,_,_,rfl,Q0B (b:=n2) (o:=0) (arr:=(anL (anE 0)).toArray) (T:=40) (C:=blk n0 (opB o)*svX s sb {y5 with z:={y5.z with ty:=updF y5.z.ty o.T.toNat yt}} ⟨(doA s x5.a o).x,x.done++[o],[]⟩) p2 rfl (by simp) fun w13 F13 h13 s13=>?_⟩;have h13:(b2 n2 (askM s x5.a.A t o).a*(blk n0 (opB o)*svX s sb {y5 with z:={y5.z with ty:=updF y5.z.ty o.T.toNat yt}} ⟨(doA s x5.a o).x,x.done++[o],[]⟩)).P w13 F13:=h13;refine Q8F gdo ⟨t0,t8⟩ (askM s x5.a.A t o).a h13 tsd fun y' w'' F'' p3 st3=>?_;have r:=r y' w'' F'' p3 (((s1b.trans st).trans s13).trans st3);rw[show doA s (fgt x.a) o=_ from ed] at r;rw[show doA s x5.a o=_ from ed];exact r
end
end
section
open Go.RowKit Go.Maps Thing
section
variable{s:Sv}{sb:Nat}{y:Sy}{x:Se}{w:World}{F:Nat->Prop}{X C:Thing}{R:VW}
theorem Qfn{o:Obj}(h:(tabT o).P w F)(P0 C0:Int)(r0:¬Cl.CfgOk P0 C0->∀w',Ext w w'->R (.tuple #[.pointer none,.int .i64 12]) w')
  (r1:∀s sb y w' F',Cl.CfgOk P0 C0->s.o=o->SvOk s P0 C0->(svX s sb y ⟨A0 s,[],[]⟩).P w' F'->Step F w F' w'->R (.tuple #[zP sb,.int .i64 0]) w') :
  CS 10 #[.agg #[.int .i64 P0,.int .i64 C0]] w R:=by
 constructor;refine vc121.ok ?_;unfold vc121;refine Q08 fun n0 w1 hb1 hE1 hs1 hs1'=>⟨_,_,Q07 (vs:=[.int .i64 P0,.int .i64 C0]) hb1,?_⟩;have h1:=Thing.grow h hE1;refine Qe6 h1 P0 C0 (fun hno w2 hE2=>⟨_,_,rfl,Q03 rfl (r0 hno w2 (hE1.trans hE2))⟩) fun s ab z w2 F2 hok ho hs h2 st2=>⟨_,_,rfl,Q00 rfl ?_⟩;have hF:¬F n0:=fun q=>by have:=(tabT o).lt h n0 q;omega
 have hb2:w2.heap[n0]? = some (.cells #[.int .i64 P0,.int .i64 C0] 23 (0,0)):=by
  rw[st2.1.block n0 (by omega) hF];exact hb1
 refine⟨_,_,Q07 (vs:=[.int .i64 P0,.int .i64 C0]) hb2,Q0j h2 fun sb w3 F3 h3 s3 _=>?_⟩;have st:Step F w F3 w3:=((Step.ext hE1).trans st2).trans s3;refine r1 s sb ⟨ab,z,.slice none 0 0,.slice none 0 0⟩ w3 F3 hok ho hs ?_ st;have h4:=Q3i (e:=47) (k:=3) (f:=tcell) (Q3i (e:=35) (k:=6) (f:=opL) h3);refine re h4 ?_;have eo:Obj.cells #[zP ab,.int .i64 P0,.int .i64 C0,.slice none 0 0,.slice none 0 0] 81 (0,0)=svO s ⟨ab,z,.slice none 0 0,.slice none 0 0⟩:=by
  rw[hs.p,hs.c];rfl
 unfold svX;rw[<-eo];show blk sb _*adX s ab z (A0 s)*dnT (.slice none 0 0) []*tcT (.slice none 0 0) []=blk sb _*(adX s ab z (A0 s)*(dnT (.slice none 0 0) []*tcT (.slice none 0 0) []));rw[Thing.mul_assoc,Thing.mul_assoc]
def aTs(a:Ad)(ts:List Tch):Ad:={a with A:={a.A with ts:=ts}}
theorem QdV(hts:x.a.A.ts.length<400000000000){at_ n:Nat}(hn:at_+n<=x.a.A.bs.length):Tri 63 #[zP sb,.int .i64 (at_:Int),.int .i64 (n:Int)] (svX s sb y x)
  (fun v=>only (v=.tuple #[.string (strOf (seg x.a.A.bs at_ n)),.int .i64 0]) (svX s sb y {x with a:=aTs x.a (noteA x.a.A.ts at_ n false)})):=by
 intro w F R h r;constructor;refine vc113.ok ?_;unfold vc113;have h0:(svX s sb y x*emp).P w F:=by rw[Q0b];exact h
 refine Q00 rfl ⟨_,Q5D h0 rfl,aarena (s:=s) (ab:=y.ab) (z:=y.z) (a:=x.a) (C:=svAd s sb y x) h Q1z ⟨_,rfl,?_⟩⟩;refine(Qe7 hts hn).use (C:=adAr s y.ab y.z x.a*svAd s sb y x) h (by rw[Q1z,Q8m,Thing.mul_assoc]) fun v w' F' p st=>?_;rw[Q06] at p;obtain⟨rfl,p⟩:=p;refine⟨_,_,rfl,r _ w' F' ⟨rfl,re p ?_⟩ st⟩;have e1:=QcS (s:=s) (ab:=y.ab) (z:=y.z) (a:=x.a) x.a.A.bs (noteA x.a.A.ts at_ n false);have e1:adX s y.ab y.z (aTs x.a (noteA x.a.A.ts at_ n false))=_:=e1;have e2:=QbD (s:=s) (sb:=sb) (y:=y) (x:=x) y.z (aTs x.a (noteA x.a.A.ts at_ n false));have e2:svX s sb y {x with a:=aTs x.a (noteA x.a.A.ts at_ n false)}=_:=e2;rw[e2,e1,Thing.mul_assoc]
end
end
section
open Go.RowKit Go.Maps Thing
theorem QcA(w:World)(a b:An) :
  (binOp .eql 40 (anV a) (anV b)).run prog w=.ok (.bool (a.E == b.E && (a.Hd == b.Hd && (a.Ad == b.Ad && (a.N == b.N && (decide (a.D=b.D) && (a.C == b.C && true))))))) w /\ (binOp .neq 40 (anV a) (anV b)).run prog w=.ok (.bool (!(a.E == b.E && (a.Hd == b.Hd && (a.Ad == b.Ad && (a.N == b.N && (decide (a.D=b.D) && (a.C == b.C && true)))))))) w:=by
 have hu:Tryz.prog.underlying 3=some (.int .i64):=by kernel_rfl
 have he:Tryz.prog.underlying 29=some (.int .i64):=by kernel_rfl
 have h6:Tryz.prog.underlying 33=some (.int .u64):=by kernel_rfl
 have hs:Tryz.prog.underlying 9=some .string:=by kernel_rfl
 exact Q1i (P:=prog) (w:=w) (t:=40) (xs:=(anL a).toArray) (ys:=(anL b).toArray)
  (l := [(⟨ "Err", 29, 0, false, "", "", 0⟩, a.E == b.E), (⟨ "Handle", 33, 1, false, "", "", 8⟩, a.Hd == b.Hd), (⟨ "Addr", 3, 2, false, "", "", 16⟩, a.Ad == b.Ad), (⟨ "N", 3, 3, false, "", "", 24⟩, a.N == b.N), (⟨ "Data", 9, 4, false, "", "", 32⟩, decide (a.D = b.D)), (⟨ "Charged", 3, 5, false, "", "", 48⟩, a.C == b.C)])
  (by kernel_rfl) (by kernel_rfl) (by kernel_rfl) (by
   intro p hp;simp only[List.mem_cons,List.mem_nil_iff,or_false] at hp;rcases hp with rfl | rfl | rfl | rfl | rfl | rfl
   ·exact⟨by simp,_,_,Q0c he rfl rfl w,Q0c he rfl rfl w,run_equalIn_int w 9998 29 .i64 .i64 _ _ he⟩
   ·exact⟨by simp,_,_,Q0c h6 rfl rfl w,Q0c h6 rfl rfl w,run_equalIn_int w 9998 33 .u64 .u64 _ _ h6⟩
   ·exact⟨by simp,_,_,Q0c hu rfl rfl w,Q0c hu rfl rfl w,run_equalIn_int w 9998 3 .i64 .i64 _ _ hu⟩
   ·exact⟨by simp,_,_,Q0c hu rfl rfl w,Q0c hu rfl rfl w,run_equalIn_int w 9998 3 .i64 .i64 _ _ hu⟩
   ·exact⟨by simp,_,_,Q0c hs rfl rfl w,Q0c hs rfl rfl w,by rw[<-Q7y];exact run_equalIn_string w 9998 9 _ _ hs⟩
   ·exact⟨by simp,_,_,Q0c hu rfl rfl w,Q0c hu rfl rfl w,run_equalIn_int w 9998 3 .i64 .i64 _ _ hu⟩)
theorem QeG(a b:An):(a.E == b.E && (a.Hd == b.Hd && (a.Ad == b.Ad && (a.N == b.N && (decide (a.D=b.D) && (a.C == b.C && true))))))=true ↔ a=b:=by
 obtain⟨a1,a2,a3,a4,a5,a6⟩:=a;obtain⟨b1,b2,b3,b4,b5,b6⟩:=b;simp only[Bool.and_true,Bool.and_eq_true,beq_iff_eq,decide_eq_true_eq,An.mk.injEq]
structure Stp where
 o:Op
 B:Int
abbrev spL(x:Stp):List Value:=[.int .i64 x.o.K,.int .i64 x.o.T,.int .i64 x.o.N,.int .i64 x.o.M,.int .u64 x.o.H,.string x.o.D,.int .i64 x.B]
abbrev spV(x:Stp):Value:=.agg (spL x).toArray
def opQ(a b:Op):Bool:=a.K == b.K && (a.T == b.T && (a.N == b.N && (a.M == b.M && (a.H == b.H && (decide (a.D=b.D) && true)))))
theorem Qfl(d:Nat)(w:World)(a b:Op):(Op.equalIn (d+2) 35 (opV a) (opV b)).run prog w=.ok (opQ a b) w:=by
 have hu:Tryz.prog.underlying 3=some (.int .i64):=by kernel_rfl
 have h6:Tryz.prog.underlying 33=some (.int .u64):=by kernel_rfl
 have hs:Tryz.prog.underlying 9=some .string:=by kernel_rfl
 have hf:Tryz.prog.underlying 35=some (.struct (Tryz.prog.fieldsOf 35)):=by kernel_rfl
 have hp:Tryz.prog.stoodInHeld 35=false:=by kernel_rfl
 rw[run_equalIn_agg w (d+1) _ _ _ hf hp]
 have hl : (Tryz.prog.fieldsOf 35).toList = ([(⟨ "Kind", 3, 0, false, "", "", 0⟩, a.K == b.K), (⟨ "Tenant", 3, 1, false, "", "", 8⟩, a.T == b.T), (⟨ "N", 3, 2, false, "", "", 16⟩, a.N == b.N), (⟨ "M", 3, 3, false, "", "", 24⟩, a.M == b.M), (⟨ "Handle", 33, 4, false, "", "", 32⟩, a.H == b.H), (⟨ "Data", 9, 5, false, "", "", 40⟩, decide (a.D = b.D))] : List (Field × Bool)).map (·.1) := by kernel_rfl
 rw[hl];exact Q1x (P:=prog) (w:=w) (d:=d+1) (xs:=(opL a).toArray) (ys:=(opL b).toArray)
  [(⟨ "Kind", 3, 0, false, "", "", 0⟩, a.K == b.K), (⟨ "Tenant", 3, 1, false, "", "", 8⟩, a.T == b.T), (⟨ "N", 3, 2, false, "", "", 16⟩, a.N == b.N), (⟨ "M", 3, 3, false, "", "", 24⟩, a.M == b.M), (⟨ "Handle", 33, 4, false, "", "", 32⟩, a.H == b.H), (⟨ "Data", 9, 5, false, "", "", 40⟩, decide (a.D = b.D))] (by
   intro p hp;simp only[List.mem_cons,List.mem_nil_iff,or_false] at hp;rcases hp with rfl | rfl | rfl | rfl | rfl | rfl
   ·exact⟨by simp,_,_,Q0c hu rfl rfl w,Q0c hu rfl rfl w,run_equalIn_int w d 3 .i64 .i64 _ _ hu⟩
   ·exact⟨by simp,_,_,Q0c hu rfl rfl w,Q0c hu rfl rfl w,run_equalIn_int w d 3 .i64 .i64 _ _ hu⟩
   ·exact⟨by simp,_,_,Q0c hu rfl rfl w,Q0c hu rfl rfl w,run_equalIn_int w d 3 .i64 .i64 _ _ hu⟩
   ·exact⟨by simp,_,_,Q0c hu rfl rfl w,Q0c hu rfl rfl w,run_equalIn_int w d 3 .i64 .i64 _ _ hu⟩
   ·exact⟨by simp,_,_,Q0c h6 rfl rfl w,Q0c h6 rfl rfl w,run_equalIn_int w d 33 .u64 .u64 _ _ h6⟩
   ·exact⟨by simp,_,_,Q0c hs rfl rfl w,Q0c hs rfl rfl w,by rw[<-Q7y];exact run_equalIn_string w d 9 _ _ hs⟩)
theorem QdU(w:World)(a b:Stp):(binOp .neq 62 (spV a) (spV b)).run prog w=.ok (.bool (!(opQ a.o b.o && (a.B == b.B && true)))) w:=by
 have hu:Tryz.prog.underlying 3=some (.int .i64):=by kernel_rfl
 have hf:Tryz.prog.underlying 35=some (.struct (Tryz.prog.fieldsOf 35)):=by kernel_rfl
 have hpt:∀x:Stp,(part 35 (spL x).toArray 0).run prog w=.ok (opV x.o) w:=fun x=>by kernel_rfl
 exact(Q1i (P:=prog) (w:=w) (t:=62) (xs:=(spL a).toArray) (ys:=(spL b).toArray)
  (l := [(⟨ "Op", 35, 0, false, "", "", 0⟩, opQ a.o b.o), (⟨ "Back", 3, 6, false, "", "", 56⟩, a.B == b.B)])
  (by kernel_rfl) (by kernel_rfl) (by kernel_rfl) (by
   intro p hp;simp only[List.mem_cons,List.mem_nil_iff,or_false] at hp;rcases hp with rfl | rfl
   ·exact⟨by simp,_,_,hpt a,hpt b,Qfl 9997 w a.o b.o⟩
   ·exact⟨by simp,_,_,Q0c hu rfl rfl w,Q0c hu rfl rfl w,run_equalIn_int w 9998 3 .i64 .i64 _ _ hu⟩)).2
theorem op_eq(a b:Op):opQ a b=true ↔ a=b:=by
 obtain⟨a1,a2,a3,a4,a5,a6⟩:=a;obtain⟨b1,b2,b3,b4,b5,b6⟩:=b;simp only[opQ,Bool.and_true,Bool.and_eq_true,beq_iff_eq,decide_eq_true_eq,Op.mk.injEq]
end
set_option maxRecDepth 100000
section
open Go.RowKit Go.Maps Thing
def aS(o:Obj)(ap mb:Nat):Sv:=⟨o,ap,mb,16,4,32768⟩
def aO1:Op:=⟨1,0,100,1,0,ByteArray.mk #[]⟩
def aO2:Op:=⟨4,0,40,0,0,ByteArray.mk #[]⟩
def aO3:Op:=⟨4,1,40,0,0,ByteArray.mk #[]⟩
def aO4:Op:=⟨12,0,0,0,0,ByteArray.mk #[]⟩
def aO5:Op:=⟨10,0,38,0,1048688,ByteArray.mk #[120,121]⟩
def aO6:Op:=⟨9,0,37,3,1048688,ByteArray.mk #[]⟩
def aO7:Op:=⟨6,0,0,0,1048688,ByteArray.mk #[]⟩
section
variable(s:Sv)
noncomputable def aX0:Se:=⟨A0 s,[],[]⟩
noncomputable def aX1:Se:=(doM s (aX0 s) aO1).x
noncomputable def aX2:Se:=(doM s (aX1 s) aO2).x
noncomputable def aX3:Se:=(doM s (aX2 s) aO3).x
noncomputable def aX4:Se:=(doM s (aX3 s) aO4).x
noncomputable def aX5:Se:=(doM s (aX4 s) aO5).x
noncomputable def aX6:Se:=(doM s (aX5 s) aO6).x
noncomputable def aX7:Se:=(doM s (aX6 s) aO7).x
end
section
variable(o:Obj)(ap mb:Nat)
theorem aw1:(doM (aS o ap mb) (aX0 (aS o ap mb)) aO1).a=anE 0:=by kernel_rfl
theorem aw2:(doM (aS o ap mb) (aX1 (aS o ap mb)) aO2).a=⟨0,1048688,393216,0,ByteArray.mk #[],48⟩:=by kernel_rfl
theorem aw3:(doM (aS o ap mb) (aX2 (aS o ap mb)) aO3).a=anE 6:=by kernel_rfl
theorem aw4:(doM (aS o ap mb) (aX3 (aS o ap mb)) aO4).a=anE 1:=by kernel_rfl
theorem aw5:(doM (aS o ap mb) (aX4 (aS o ap mb)) aO5).a.E=0:=by kernel_rfl
theorem aw6:(doM (aS o ap mb) (aX5 (aS o ap mb)) aO6).a=⟨0,0,0,0,ByteArray.mk #[0,120,121],48⟩:=by kernel_rfl
theorem aw7:(doM (aS o ap mb) (aX6 (aS o ap mb)) aO7).a=anE 0:=by kernel_rfl
end
end
section
open Go.RowKit Go.Maps Thing
section
variable{s:Sv}{sb:Nat}{y:Sy}{x:Se}{w:World}{F:Nat->Prop}{X C:Thing}{R:VW}
theorem Q2Z(o:Op):(doM s x o).x.done.length<=x.done.length+1:=by
 unfold doM;split
 ·exact Nat.le_add_right _ _
 ·show(x.done++[o]).length<=_;rw[zzlna];exact Nat.le_refl _
theorem Q52(g:AdInv s x.a){o:Op}(hu:Hd.U64 o.H)(hl:x.done.length+1<=1000000){K:Nat->World->Prop}(h:X.P w F)(e:X=svX s sb y x*C)
  (k:∀n y' w' F',(blk n (anO (anL (doM s x o).a).toArray)*(svX s sb y' (doM s x o).x*C)).P w' F'->Step F w F' w'->K n w') :
  CS 14 #[zP sb,opV o] w fun v4 w5=>∃(i6 i7 i8 i9:Int)(s10:ByteArray)(i11:Int),v4=.agg #[.int .i64 i6,.int .u64 i7,.int .i64 i8,.int .i64 i9,.string s10,.int .i64 i11] /\
   ∀(n12:Nat)(w13:World),n12=w5.heap.size->w13=w5.alloc (Obj.cells #[.int .i64 (0:Int),.int .u64 (0:Int),.int .i64 (0:Int),.int .i64 (0:Int),.string (ByteArray.mk #[]),.int .i64 (0:Int)] 40)->WrC w13 (zA n12) (6:Nat) /\ ∀(w14:World),w14=wr w13 (zA n12) [.int .i64 i6,.int .u64 i7,.int .i64 i8,.int .i64 i9,.string s10,.int .i64 i11]->K n12 w14:=by
 refine(t_do g hu hl).use h e fun v w' F' p st=>?_;obtain⟨y',rfl,pb⟩:=Q0p p;refine⟨_,_,_,_,_,_,rfl,Q0j pb fun n w13 F13 h13 s13 _=>?_⟩;refine Q0B (b:=n) (o:=0) (arr:=(anL (anE 0)).toArray) (T:=40) (C:=svX s sb y' (doM s x o).x*C) h13 rfl (by simp) fun w14 F14 h14 s14=>?_;exact k n y' w14 F14 h14 ((st.trans s13).trans s14)
abbrev bA(n:Nat)(a:An):Thing:=blk n (anO (anL a).toArray)
theorem sw4(A B C:Thing):A*(B*C)=B*(A*C):=by ac_rfl
def svTb(s:Sv)(sb:Nat)(y:Sy)(x:Se):Thing:=poT y.z.pb x.a.hs x.a.ws*adPo s y.ab y.z x.a*svAd s sb y x
theorem Q3o:svX s sb y x=tabT s.o*svTb s sb y x:=by
 unfold svTb;rw[Q1z,Q2v];ac_rfl
theorem QfP{o:Obj}(ho:s.o=o)(h:X.P w F)(e:X=svX s sb y x*C):∃F1,(tabT o).P w F1 /\ ∀j,F1 j->F j:=by
 subst ho;exact Q0e (Y:=svTb s sb y x*C) h (by rw[e,Q3o,Thing.mul_assoc])
theorem Q2i{o:Obj}{w':World}{F':Nat->Prop}(h:(tabT o).P w F)(h':(tabT o).P w' F')(s:Step F w F' w'):Ext w w':=by
 obtain⟨_,h2,rfl⟩:=h;obtain⟨_,h3,rfl⟩:=h';refine⟨s.1.os,s.1.tape,s.1.output,s.1.size,fun k hk _=>?_⟩;by_cases e:k=0
 ·subst e;rw[h2,h3]
 ·exact s.1.block k hk e
theorem Qe9{o:Obj}(h:(tabT o).P w F)(r:∀w' F',(tabT o).P w' F'->Step F w F' w'->R (.bool true) w'):CS 11 #[] w R:=by
 constructor;refine vc81.ok ?_;unfold vc81;refine Qfn h 64 4 (fun no=>absurd (by unfold Cl.CfgOk;decide) no) fun s sb y w0 F0 _ ho hs h0 st0=>⟨_,_,rfl,Q00 rfl (Q00 rfl ?_)⟩;have hsv:s=aS s.o s.ap s.mb:=by
  obtain⟨so,ap,mb,nC,C,n⟩:=s;have hp:=hs.p;have hc:=hs.c;have hn:=hs.n;simp only at hp hc hn;have e1:C=4:=by omega
  subst e1;have e2:nC=16:=by omega
  subst e2;subst hn;rfl
 rw[ho] at hsv;generalize hso:o=so at hsv;generalize s.ap=ap at hsv;generalize s.mb=mb at hsv;have g0:AdInv s (aX0 s).a:=Q3L hs;have g1:=Q36 g0 aO1;have g2:=Q36 g1 aO2;have g3:=Q36 g2 aO3;have g4:=Q36 g3 aO4;have g5:=Q36 g4 aO5;have g6:=Q36 g5 aO6;have l0:(aX0 s).done.length<=0:=Nat.le_refl _;have l1:(aX1 s).done.length<=1:=Nat.le_trans (Q2Z _) (by omega);have l2:(aX2 s).done.length<=2:=Nat.le_trans (Q2Z _) (by omega);have l3:(aX3 s).done.length<=3:=Nat.le_trans (Q2Z _) (by omega);have l4:(aX4 s).done.length<=4:=Nat.le_trans (Q2Z _) (by omega);have l5:(aX5 s).done.length<=5:=Nat.le_trans (Q2Z _) (by omega);have l6:(aX6 s).done.length<=6:=Nat.le_trans (Q2Z _) (by omega);have u0:Hd.U64 0:=by unfold Hd.U64;decide
 have u1:Hd.U64 1048688:=by unfold Hd.U64;decide
 have e1:(doM s (aX0 s) aO1).a=anE 0:=by rw[hsv];exact aw1 so ap mb
 have e2:(doM s (aX1 s) aO2).a=⟨0,1048688,393216,0,ByteArray.mk #[],48⟩:=by rw[hsv];exact aw2 so ap mb
 have e3:(doM s (aX2 s) aO3).a=anE 6:=by rw[hsv];exact aw3 so ap mb
 have e4:(doM s (aX3 s) aO4).a=anE 1:=by rw[hsv];exact aw4 so ap mb
 have e5:(doM s (aX4 s) aO5).a.E=0:=by rw[hsv];exact aw5 so ap mb
 have e6:(doM s (aX5 s) aO6).a=⟨0,0,0,0,ByteArray.mk #[0,120,121],48⟩:=by rw[hsv];exact aw6 so ap mb
 have e7:(doM s (aX6 s) aO7).a=anE 0:=by rw[hsv];exact aw7 so ap mb
 clear hsv;have h0:(svX s sb y (aX0 s)*emp).P w0 F0:=by rw[Q0b];exact h0
 refine Q52 (o:=aO1) g0 u0 (by omega) h0 rfl fun n1 y1 w1 F1 h1 s1=>?_;rw[e1] at h1;refine Q52 (o:=aO2) (C:=bA n1 (anE 0)*emp) g1 u0 (by show(aX1 s).done.length+1<=_;omega) h1 (sw4 _ _ _) fun n2 y2 w2 F2 h2 s2=>?_;have h2:(bA n2 (doM s (aX1 s) aO2).a*(svX s sb y2 (aX2 s)*(bA n1 (anE 0)*emp))).P w2 F2:=h2;rw[e2] at h2;refine Q52 (o:=aO3) g2 u0 (by show(aX2 s).done.length+1<=_;omega) h2 (sw4 _ _ _) fun n3 y3 w3 F3 h3 s3=>?_;have h3:(bA n3 (doM s (aX2 s) aO3).a*(svX s sb y3 (aX3 s)*(bA n2 ⟨0,1048688,393216,0,ByteArray.mk #[],48⟩*(bA n1 (anE 0)*emp)))).P w3 F3:=h3;rw[e3] at h3;refine Q52 (o:=aO4) g3 u0 (by show(aX3 s).done.length+1<=_;omega) h3 (sw4 _ _ _) fun n4 y4 w4 F4 h4 s4=>?_;have h4:(bA n4 (doM s (aX3 s) aO4).a*(svX s sb y4 (aX4 s)*(bA n3 (anE 6)*(bA n2 ⟨0,1048688,393216,0,ByteArray.mk #[],48⟩*(bA n1 (anE 0)*emp))))).P w4 F4:=h4;rw[e4] at h4;refine⟨1048688,by
  rw[Q02];exact Q01 (Q09 (b:=n2) (C:=bA n4 (anE 1)*(svX s sb y4 (aX4 s)*(bA n3 (anE 6)*(bA n1 (anE 0)*emp)))) h4 (by show _=bA n2 ⟨0,1048688,393216,0,ByteArray.mk #[],48⟩*_;ac_rfl)) rfl,?_⟩
 refine Q52 (o:=aO5) g4 u1 (by show(aX4 s).done.length+1<=_;omega) h4 (sw4 _ _ _) fun n5 y5 w5 F5 h5 s5=>?_;have h5:(bA n5 (doM s (aX4 s) aO5).a*(svX s sb y5 (aX5 s)*(bA n4 (anE 1)*(bA n3 (anE 6)*(bA n2 ⟨0,1048688,393216,0,ByteArray.mk #[],48⟩*(bA n1 (anE 0)*emp)))))).P w5 F5:=h5;generalize(doM s (aX4 s) aO5).a=a5 at e5 h5;refine⟨1048688,by
  rw[Q02];exact Q01 (Q09 (b:=n2) (C:=bA n5 a5*(svX s sb y5 (aX5 s)*(bA n4 (anE 1)*(bA n3 (anE 6)*(bA n1 (anE 0)*emp))))) h5 (by show _=bA n2 ⟨0,1048688,393216,0,ByteArray.mk #[],48⟩*_;ac_rfl)) rfl,?_⟩
 refine Q52 (o:=aO6) g5 u1 (by show(aX5 s).done.length+1<=_;omega) h5 (sw4 _ _ _) fun n6 y6 w6 F6 h6 s6=>?_;have h6:(bA n6 (doM s (aX5 s) aO6).a*(svX s sb y6 (aX6 s)*(bA n5 a5*(bA n4 (anE 1)*(bA n3 (anE 6)*(bA n2 ⟨0,1048688,393216,0,ByteArray.mk #[],48⟩*(bA n1 (anE 0)*emp))))))).P w6 F6:=h6;rw[e6] at h6;refine⟨1048688,by
  rw[Q02];exact Q01 (Q09 (b:=n2) (C:=bA n6 ⟨0,0,0,0,ByteArray.mk #[0,120,121],48⟩*(svX s sb y6 (aX6 s)*(bA n5 a5*(bA n4 (anE 1)*(bA n3 (anE 6)*(bA n1 (anE 0)*emp)))))) h6 (by show _=bA n2 ⟨0,1048688,393216,0,ByteArray.mk #[],48⟩*_;ac_rfl)) rfl,?_⟩
 refine Q52 (o:=aO7) g6 u1 (by show(aX6 s).done.length+1<=_;omega) h6 (sw4 _ _ _) fun n7 y7 w7 F7 h7 s7=>?_;have h7:(bA n7 (doM s (aX6 s) aO7).a*(svX s sb y7 (aX7 s)*(bA n6 ⟨0,0,0,0,ByteArray.mk #[0,120,121],48⟩*(bA n5 a5*(bA n4 (anE 1)*(bA n3 (anE 6)*(bA n2 ⟨0,1048688,393216,0,ByteArray.mk #[],48⟩*(bA n1 (anE 0)*emp)))))))).P w7 F7:=h7;rw[e7] at h7;generalize aX7 s=x7 at h7;obtain⟨F8,h8,sub⟩:=QfP (C:=bA n7 (anE 0)*(bA n6 ⟨0,0,0,0,ByteArray.mk #[0,120,121],48⟩*(bA n5 a5*(bA n4 (anE 1)*(bA n3 (anE 6)*(bA n2 ⟨0,1048688,393216,0,ByteArray.mk #[],48⟩*(bA n1 (anE 0)*emp))))))) ho h7 (sw4 _ _ _);have sall:=(((((((st0.trans s1).trans s2).trans s3).trans s4).trans s5).trans s6).trans s7).sub sub;have c1:=Q09 (b:=n1) (o:=anO (anL (anE 0)).toArray) (C:=bA n7 (anE 0)*(svX s sb y7 x7*(bA n6 ⟨0,0,0,0,ByteArray.mk #[0,120,121],48⟩*(bA n5 a5*(bA n4 (anE 1)*(bA n3 (anE 6)*(bA n2 ⟨0,1048688,393216,0,ByteArray.mk #[],48⟩*emp))))))) h7 (by show _=bA n1 (anE 0)*_;ac_rfl);have c2:=Q09 (b:=n2) (o:=anO (anL ⟨0,1048688,393216,0,ByteArray.mk #[],48⟩).toArray) (C:=bA n7 (anE 0)*(svX s sb y7 x7*(bA n6 ⟨0,0,0,0,ByteArray.mk #[0,120,121],48⟩*(bA n5 a5*(bA n4 (anE 1)*(bA n3 (anE 6)*(bA n1 (anE 0)*emp))))))) h7 (by show _=bA n2 ⟨0,1048688,393216,0,ByteArray.mk #[],48⟩*_;ac_rfl)
 have c3:=Q09 (b:=n3) (o:=anO (anL (anE 6)).toArray) (C:=bA n7 (anE 0)*(svX s sb y7 x7*(bA n6 ⟨0,0,0,0,ByteArray.mk #[0,120,121],48⟩*(bA n5 a5*(bA n4 (anE 1)*(bA n2 ⟨0,1048688,393216,0,ByteArray.mk #[],48⟩*(bA n1 (anE 0)*emp))))))) h7 (by show _=bA n3 (anE 6)*_;ac_rfl);have c4:=Q09 (b:=n4) (o:=anO (anL (anE 1)).toArray) (C:=bA n7 (anE 0)*(svX s sb y7 x7*(bA n6 ⟨0,0,0,0,ByteArray.mk #[0,120,121],48⟩*(bA n5 a5*(bA n3 (anE 6)*(bA n2 ⟨0,1048688,393216,0,ByteArray.mk #[],48⟩*(bA n1 (anE 0)*emp))))))) h7 (by show _=bA n4 (anE 1)*_;ac_rfl);have c5:=Q09 (b:=n5) (o:=anO (anL a5).toArray) (C:=bA n7 (anE 0)*(svX s sb y7 x7*(bA n6 ⟨0,0,0,0,ByteArray.mk #[0,120,121],48⟩*(bA n4 (anE 1)*(bA n3 (anE 6)*(bA n2 ⟨0,1048688,393216,0,ByteArray.mk #[],48⟩*(bA n1 (anE 0)*emp))))))) h7 (by show _=bA n5 a5*_;ac_rfl);have c6:=Q09 (b:=n6) (o:=anO (anL ⟨0,0,0,0,ByteArray.mk #[0,120,121],48⟩).toArray) (C:=bA n7 (anE 0)*(svX s sb y7 x7*(bA n5 a5*(bA n4 (anE 1)*(bA n3 (anE 6)*(bA n2 ⟨0,1048688,393216,0,ByteArray.mk #[],48⟩*(bA n1 (anE 0)*emp))))))) h7 (by show _=bA n6 ⟨0,0,0,0,ByteArray.mk #[0,120,121],48⟩*_;ac_rfl);have c7:=Q09 h7 rfl;have same:∀a:An,(binOp .eql 40 (anV a) (anV a)).run prog w7=.ok (.bool true) w7:=fun a=>by rw[(QcA w7 a a).1,(QeG a a).2 rfl]
 refine⟨_,_,_,_,_,_,Q07 c1,true,w7,same (anE 0),Q03 rfl ?_⟩;refine⟨_,_,_,_,_,_,Q07 c2,true,w7,same ⟨0,1048688,393216,0,ByteArray.mk #[],48⟩,Q03 rfl ?_⟩;refine⟨_,_,_,_,_,_,Q07 c3,true,w7,same (anE 6),Q03 rfl ?_⟩;refine⟨_,_,_,_,_,_,Q07 c4,true,w7,same (anE 1),Q03 rfl ?_⟩;refine⟨0,by rw[Q02];rw[<-e5];exact Q01 c5 rfl,Q03 rfl ?_⟩;refine⟨_,_,_,_,_,_,Q07 c6,true,w7,same ⟨0,0,0,0,ByteArray.mk #[0,120,121],48⟩,Q03 rfl ?_⟩;exact⟨_,_,_,_,_,_,Q07 c7,true,w7,same (anE 0),r w7 F8 h8 sall⟩
end
end
section
open Go.RowKit Go.Maps Thing
structure Tp where
 r:List UInt8
 sh:Bool
abbrev tpO(t:Tp):Obj:=.cells #[.string (strOf t.r),.bool t.sh] 108 (0,0)
abbrev tpT(b:Nat)(t:Tp):Thing:=blk b (tpO t)
def bytL(t:Tp)(n:Nat):List UInt8:=if n>t.r.length then List.replicate (max n 1) 0 else t.r.take n
def bytT(t:Tp)(n:Nat):Tp:=if n>t.r.length then⟨[],true⟩else⟨t.r.drop n,t.sh⟩
theorem Q45(t:Tp){n:Nat}(h:1<=n):(bytL t n).length=n:=by
 unfold bytL;split
 ·rw[zzlrp];omega
 ·rw[zzlnt];omega
theorem Q88(l:List UInt8)(n:Nat):(strOf l).extract 0 n=strOf (l.take n):=by
 apply Q10;rw[Q0P,Q0l,Q0l,seg,List.drop_zero,Nat.sub_zero]
theorem Q87(l:List UInt8)(n:Nat):(strOf l).extract n l.length=strOf (l.drop n):=by
 apply Q10;rw[Q0P,Q0l,Q0l,seg];exact List.take_of_length_le (by rw[List.length_drop];exact Nat.le_refl _)
theorem Q0N(l:List UInt8):(strOf l).size=l.length:=by
 rw[<-Q0k,Q0l]
theorem Q3m(l:List UInt8)(i:Nat):(strOf l)[i]? = l[i]?:=by
 by_cases h:i<l.length
 ·have h':i<(strOf l).size:=by rw[Q0N];exact h
  rw[getElem?_pos _ i h',getElem?_pos _ i h];rfl
 ·have h':¬i<(strOf l).size:=by rw[Q0N];exact h
  rw[getElem?_neg _ i h',getElem?_neg _ i h]
section
variable{b:Nat}{t:Tp}{w:World}{F:Nat->Prop}{X C:Thing}{R:VW}
theorem Q4N{n:Nat}(hn:n<=10000):Tri 154 #[zP b,.int .i64 (n:Int)] (tpT b t) (fun v=>only (v=.string (strOf (bytL t n))) (tpT b (bytT t n))):=by
 intro w F R h r;have h0:(tpT b t*emp).P w F:=by rw[Q0b];exact h
 constructor;refine vc167.ok ?_;unfold vc167;have hb:=Q09 h0 rfl;unfold bytL bytT at r;refine⟨_,by rw[Q02];exact Q01 hb rfl,ifD (fun hlt=>?_) (fun hlt=>?_)⟩
 ·rw[Q0N] at hlt;have hlt:n>t.r.length:=by omega
  rw[if_pos hlt,if_pos hlt] at r;show WrC w ((zA b).add 0) 1 /\ _;rw[Q02];refine Q0B (b:=b) (o:=0+0) (C:=emp) h0 rfl (by simp) fun w1 F1 h1 s1=>?_;show WrC w1 ((zA b).add 1) 1 /\ _;rw[Q02];refine Q0B (b:=b) (o:=0+1) (C:=emp) h1 rfl (by simp[setAt]) fun w2 F2 h2 s2=>?_;refine⟨_,w2,run_max_int2 w2 _ _ _ _ _ _,?_⟩;have em:(if (1:Int)>(n:Int)then(1:Int)else(n:Int))=((max n 1:Nat):Int):=by
   split <;> omega
  rw[em,zztnc];refine⟨by omega,by omega,by show((1:Nat):Int)*((max n 1:Nat):Int)<=_;omega,by omega,Qbf _ fun w3 hE3=>?_⟩;have h2:(tpT b ⟨[],true⟩*emp).P w2 F2:=h2;rw[Q0b] at h2;exact r _ w3 F2 ⟨rfl,Thing.grow h2 hE3⟩ ((s1.trans s2).trans (Step.ext hE3))
 ·rw[Q0N] at hlt;have hlt:¬n>t.r.length:=by omega
  rw[if_neg hlt,if_neg hlt] at r;refine⟨_,by rw[Q02];exact Q01 hb rfl,by omega,by omega,by rw[Q0N];omega,_,by rw[Q02];exact Q01 hb rfl,by omega,by rw[Q0N];omega,by omega,?_⟩;show WrC w ((zA b).add 0) 1 /\ _;rw[Q02];refine Q0B (b:=b) (o:=0+0) (C:=emp) h0 rfl (by simp) fun w1 F1 h1 s1=>?_;rw[zztnc,Q88];refine r _ w1 F1 ⟨rfl,?_⟩ s1;rw[Q0b] at h1;rw[zztnc,zztnc,Q0N,Q87] at h1;exact h1
def oneI(t:Tp):Int:=(((bytL t 1).headD 0).toNat:Int)
theorem Q2K(t:Tp):0<=oneI t /\ oneI t<=255:=by
 have:=((bytL t 1).headD 0).toNat_lt;unfold oneI;omega
theorem QbF:Tri 102 #[zP b] (tpT b t) (fun v=>only (v=.int .i64 (oneI t)) (tpT b (bytT t 1))):=by
 intro w F R h r;constructor;refine vc147.ok ?_;unfold vc147;have h0:(tpT b t*emp).P w F:=by rw[Q0b];exact h
 refine(Q4N (b:=b) (t:=t) (n:=1) (by omega)).use h0 rfl fun v w1 F1 p st=>?_;rw[Q06,Q0b] at p;obtain⟨rfl,p⟩:=p;have hl:=Q45 t (n:=1) (Nat.le_refl _);have hr:=Q2K t;unfold oneI at r hr
 match e:bytL t 1,hl with
 | [u],_=>
  rw[e] at r hr;refine⟨_,rfl,by omega,u,by rw[Q3m];rfl,?_⟩;have hr:0<=(u.toNat:Int) /\ (u.toNat:Int)<=255:=hr;rw[Q04 (by omega) (by omega)];exact r _ w1 F1 ⟨rfl,p⟩ st
def numI(t:Tp):Int:=if ((bytL t 2).getD 0 0).toNat+256*((bytL t 2).getD 1 0).toNat<32768 then(((bytL t 2).getD 0 0).toNat+256*((bytL t 2).getD 1 0).toNat:Nat)else((((bytL t 2).getD 0 0).toNat+256*((bytL t 2).getD 1 0).toNat:Nat):Int)-65536
theorem Qbn(u v:UInt8):IntKind.i64.wrap (IntKind.i16.wrap (bits BinOp.or IntKind.u16 (IntKind.u16.wrap (u.toNat:Int)) (shlV IntKind.u16 (IntKind.u16.wrap (v.toNat:Int)) (8:Int)))) =
  if u.toNat+256*v.toNat<32768 then((u.toNat+256*v.toNat:Nat):Int)else((u.toNat+256*v.toNat:Nat):Int)-65536:=by
 have hu:=u.toNat_lt;have hv:=v.toNat_lt;have w16:∀n:Int,0<=n->n<65536->IntKind.u16.wrap n=n:=fun n h0 h1=>by
  simp only[IntKind.wrap,IntKind.bits,IntKind.signed,Bool.false_and,Bool.false_eq_true,if_false];omega
 have es:shlV IntKind.u16 (IntKind.u16.wrap (v.toNat:Int)) (8:Int)=((v.toNat <<< 8:Nat):Int):=by
  rw[w16 _ (by omega) (by omega)];unfold shlV;have:min (8:Int).toNat IntKind.u16.bits=8:=rfl;rw[this,w16 _ (by omega) (by omega),Nat.shiftLeft_eq];omega
 have eo:bits BinOp.or IntKind.u16 (u.toNat:Int) ((v.toNat <<< 8:Nat):Int)=((u.toNat+256*v.toNat:Nat):Int):=by
  have e:bits .or .u16 (u.toNat:Int) ((v.toNat <<< 8:Nat):Int)=IntKind.u16.wrap ((BitVec.ofInt 16 (u.toNat:Int) ||| BitVec.ofInt 16 ((v.toNat <<< 8:Nat):Int)).toNat:Int):=rfl;have hs:v.toNat <<< 8=256*v.toNat:=by rw[Nat.shiftLeft_eq];omega
  rw[e,Q0U,Q0U,BitVec.toNat_or,BitVec.toNat_ofNat,BitVec.toNat_ofNat,Nat.mod_eq_of_lt (by omega),Nat.mod_eq_of_lt (by omega),Nat.or_comm];have ho:=Nat.shiftLeft_add_eq_or_of_lt (i:=8) (show u.toNat<2 ^ 8 by omega) v.toNat
  rw[<-ho,hs,w16 _ (by omega) (by omega)];omega
 rw[es,w16 _ (by omega) (by omega),eo];generalize hn:u.toNat+256*v.toNat=n;have hn':n<65536:=by omega
 have w2:IntKind.i16.wrap (n:Int)=if n<32768 then(n:Int)else(n:Int)-65536:=by
  simp only[IntKind.wrap,IntKind.bits,IntKind.signed,Bool.true_and];split
  ·rename_i h;simp at h;rw[if_neg (by omega)];omega
  ·rename_i h;simp at h;rw[if_pos (by omega)];omega
 rw[w2];split
 ·exact Q04 (by omega) (by omega)
 ·exact Q04 (by omega) (by omega)
theorem QbE:Tri 104 #[zP b] (tpT b t) (fun v=>only (v=.int .i64 (numI t)) (tpT b (bytT t 2))):=by
 intro w F R h r;constructor;refine vc149.ok ?_;unfold vc149;have h0:(tpT b t*emp).P w F:=by rw[Q0b];exact h
 refine(Q4N (b:=b) (t:=t) (n:=2) (by omega)).use h0 rfl fun v w1 F1 p st=>?_;rw[Q06,Q0b] at p;obtain⟨rfl,p⟩:=p;have hl:=Q45 t (n:=2) (by omega);unfold numI at r
 match e:bytL t 2,hl with
 | [u,v],_=>
  rw[e] at r;refine⟨_,rfl,fun w3 e3=>?_⟩;subst e3;refine⟨by omega,u,by rw[Q3m];rfl,rfl,rfl,by omega,v,by rw[Q3m];rfl,rfl,rfl,by omega,rfl,rfl,rfl,rfl,?_⟩;rw[Qbn];exact r _ _ F1 ⟨rfl,Thing.grow p (Ext.drew w1)⟩ (st.trans (Step.ext (Ext.drew w1)))
def texL(t:Tp):List UInt8:=if oneI t=0 then [] else bytL (bytT t 1) (oneI t).toNat
def texT(t:Tp):Tp:=if oneI t=0 then bytT t 1 else bytT (bytT t 1) (oneI t).toNat
theorem QfH:Tri 105 #[zP b] (tpT b t) (fun v=>only (v=.string (strOf (texL t))) (tpT b (texT t))):=by
 intro w F R h r;constructor;refine vc150.ok ?_;unfold vc150;have h0:(tpT b t*emp).P w F:=by rw[Q0b];exact h
 have hr:=Q2K t;refine(QbF (b:=b) (t:=t)).use h0 rfl fun v w1 F1 p st=>?_;rw[Q06] at p;obtain⟨rfl,p⟩:=p;unfold texL texT at r;refine⟨_,rfl,Q05 (fun q=>?_) (fun q=>?_)⟩
 ·have q:oneI t=0:=by simpa using q
  rw[if_pos q,if_pos q] at r;rw[Q0b] at p;exact r _ w1 F1 ⟨rfl,p⟩ st
 ·have q:¬oneI t=0:=by simpa using q
  rw[if_neg q,if_neg q] at r;obtain⟨m,hm⟩:=zzeoz hr.1;rw[hm,zztnc] at r;rw[hm];refine(Q4N (b:=b) (t:=bytT t 1) (n:=m) (by omega)).use p rfl fun v w2 F2 p2 st2=>?_;rw[Q06,Q0b] at p2;obtain⟨rfl,p2⟩:=p2;exact⟨_,rfl,r _ w2 F2 ⟨rfl,p2⟩ (st.trans st2)⟩
end
end
set_option maxRecDepth 20000
section
open Go.RowKit Go.Maps Thing
abbrev skO(x:Stp):Obj:=.cells (spL x).toArray 62 (0,0)
abbrev skT(n:Nat)(x:Stp):Thing:=blk n (skO x)
def numB:List UInt8->Nat
 | []=>0
 | c :: l=>c.toNat+256*numB l
theorem Q9h:∀l:List UInt8,numB l<256 ^ l.length
 | []=>by decide
 | c :: l=>by
  have:=Q9h l;have:=c.toNat_lt;rw[numB,List.length_cons,Nat.pow_succ];omega
theorem Q3b:∀(l:List UInt8)(c:UInt8),numB (l++[c])=numB l+c.toNat*256 ^ l.length
 | [],c=>by simp[numB]
 | d :: l,c=>by
  rw[List.cons_append,numB,numB,Q3b l c,List.length_cons,Nat.pow_succ,Nat.mul_add,Nat.mul_comm 256 (c.toNat*_),Nat.mul_assoc];omega
def hndS(t:Tp)(x:Stp):Stp:=if oneI t<255 then {x with B:=oneI t} else⟨{x.o with H:=(numB (bytL (bytT t 1) 8):Nat)},0⟩
def hndT(t:Tp):Tp:=if oneI t<255 then bytT t 1 else bytT (bytT t 1) 8
theorem QdE{n i:Nat}(c:UInt8)(hi:i<8)(hn:n<256 ^ i):bits BinOp.or IntKind.u64 (n:Int) (shlV IntKind.u64 (IntKind.u64.wrap (c.toNat:Int)) (IntKind.i64.wrap (8*(i:Int))))=((n+c.toNat*256 ^ i:Nat):Int):=by
 have hc:=c.toNat_lt;have hp:(256:Nat) ^ i=2 ^ (8*i):=by rw[Nat.pow_mul]
 have hle:256 ^ i<=256 ^ 7:=Nat.pow_le_pow_right (by omega) (by omega);have h7:(256:Nat) ^ 7=72057594037927936:=by decide
 have hcp:c.toNat*256 ^ i<=255*72057594037927936:=Nat.mul_le_mul (by omega) (by omega);rw[Q0y (by omega) (by omega),Q04 (by omega) (by omega),show(8:Int)*(i:Int)=((8*i:Nat):Int) by omega,Q1G _ (by omega)];have e1:(c.toNat:Int)*2 ^ (8*i)=((c.toNat*256 ^ i:Nat):Int):=by
  rw[hp];simp
 rw[e1,Q0y (by omega) (by omega),Q2h (by omega) (by omega)];have e2:c.toNat*256 ^ i=c.toNat <<< (8*i):=by rw[Nat.shiftLeft_eq,hp]
 rw[e2,Nat.or_comm,<-Nat.shiftLeft_add_eq_or_of_lt (by rw[<-hp];exact hn),Nat.add_comm]
section
variable{b n:Nat}{t:Tp}{x:Stp}{w:World}{F:Nat->Prop}{X C:Thing}{R:VW}
theorem Qan(h0:x.o.H=0):Tri 103 #[zP b,zP n] (tpT b t*skT n x) (fun v=>only (v=.tuple #[]) (tpT b (hndT t)*skT n (hndS t x))):=by
 intro w F R h r;constructor;refine vc148.ok ?_;unfold vc148;have hr:=Q2K t;refine(QbF (b:=b) (t:=t)).use h rfl fun v w1 F1 p st=>?_;rw[Q06] at p;obtain⟨rfl,p⟩:=p;refine⟨_,rfl,?_⟩;show WrC w1 ((zA n).add 6) 1 /\ _;rw[Q02];refine Q0B (b:=n) (o:=0+6) (C:=tpT b (bytT t 1)) p (by show _=skT n x*_;ac_rfl) (by simp) fun w2 F2 h2 s2=>?_;have h2:(skT n {x with B:=oneI t}*tpT b (bytT t 1)).P w2 F2:=h2;have hb2:=Q09 h2 rfl;unfold hndT hndS at r;refine⟨oneI t,by rw[Q02];exact Q01 hb2 rfl,Q05 (fun q=>?_) (fun q=>?_)⟩
 ·have q:oneI t<255:=zzodt q;rw[if_pos q,if_pos q] at r;exact r _ w2 F2 ⟨rfl,re h2 (zztmc _ _)⟩ (st.trans s2)
 have q:¬oneI t<255:=of_decide_eq_false q;rw[if_neg q,if_neg q] at r;show WrC w2 ((zA n).add 6) 1 /\ _;rw[Q02];refine Q0B (b:=n) (o:=0+6) (C:=tpT b (bytT t 1)) h2 rfl (by simp) fun w3 F3 h3 s3=>?_;have h3:(skT n {x with B:=0}*tpT b (bytT t 1)).P w3 F3:=h3;refine(Q4N (b:=b) (t:=bytT t 1) (n:=8) (by omega)).use h3 (zztmc _ _) fun v w4 F4 h4 s4=>?_;rw[Q06] at h4;obtain⟨rfl,h4⟩:=h4;have hl:=Q45 (bytT t 1) (n:=8) (by omega);generalize bytL (bytT t 1) 8=l at hl r ⊢;have hrun:=run_bytes_of_string (P:=prog) w4 9 73 5 (strOf l) (by kernel_rfl) (by kernel_rfl) (by kernel_rfl);refine⟨_,rfl,_,_,_,_,hrun,?_⟩;generalize grownCap w4 (strOf l).size 0 5=cp;have hE5:Ext w4 (w4.drew.alloc (.cells (bytesRow (strOf l) cp) 5 ((bytesRow (strOf l) cp).size,(bytesRow (strOf l) cp).size+1))):=(Ext.drew w4).trans (Ext.alloc _ _);have hg:(w4.drew.alloc (.cells (bytesRow (strOf l) cp) 5 ((bytesRow (strOf l) cp).size,(bytesRow (strOf l) cp).size+1))).heap[w4.heap.size]? = some (.cells (bytesRow (strOf l) cp) 5 ((bytesRow (strOf l) cp).size,(bytesRow (strOf l) cp).size+1)):=heap_alloc_new w4.drew _;generalize w4.drew.alloc (.cells (bytesRow (strOf l) cp) 5 ((bytesRow (strOf l) cp).size,(bytesRow (strOf l) cp).size+1))=w5 at hE5 hg ⊢;have hrow:∀(i:Nat)(c:UInt8),l[i]? = some c->(bytesRow (strOf l) cp)[i]? = some (.int .u8 (c.toNat:Int)):=fun i c hc=>by
  have hi:i<l.length:=(zzgsi.1 hc).1;unfold bytesRow;rw[Array.getElem?_append_left (by simp[strOf,hi]),Array.getElem?_map];show((l.toArray)[i]?).map _=_;rw[List.getElem?_toArray,hc];rfl
 generalize bytesRow (strOf l) cp=row at hg hrow;generalize hO:Obj.cells row 5 (row.size,row.size+1)=O at hg;obtain⟨h5,s5⟩:=Q0h (B:=blk w4.heap.size O) h4 hE5 ⟨hg,rfl⟩ (fun j hj=>by have:j=w4.heap.size:=hj;omega);generalize w4.heap.size=g at h5 s5 ⊢;rw[Q0N,hl]
 let t':=bytT (bytT t 1) 8
 let xj:Nat->Stp:=fun j=>⟨{x.o with H:=(numB (l.take j):Nat)},0⟩
 refine⟨fun f i w'=>∃j:Nat,i=(j:Int) /\ f+j=8 /\ ∃F',(skT n (xj j)*(tpT b t'*blk g O)).P w' F' /\ Step F w F' w',⟨8,0,rfl,rfl,_,re h5 ?_,(((st.trans s2).trans s3).trans s4).trans s5⟩,?_⟩
 ·have e0:({x with B:=0}:Stp)=xj 0:=by
   obtain⟨⟨K,T,N,M,H,D⟩,B⟩:=x;have h0:H=0:=h0;subst h0;rfl
  rw[e0];show blk g O*(tpT b t'*skT n (xj 0))=_;ac_rfl
 rintro f jv i w6 ⟨j,rfl,hf,F6,h6,s6⟩;refine ifD (fun hj=>⟨by omega,by omega,?_⟩) (fun hj=>?_)
 ·have hj':j<8:=by omega
  obtain⟨c,hc⟩:∃c,l[j]? = some c:=⟨_,zzgge (by omega)⟩;rw[zztnc];have hbg:=Q09 (b:=g) (o:=O) (C:=skT n (xj j)*tpT b t') h6 (by ac_rfl);rw[<-hO] at hbg;refine⟨_,by rw[Q02];refine Q01 hbg ?_;rw[Nat.zero_add];exact hrow j c hc,fun w7 e7=>?_⟩;subst e7;have h7:=Thing.grow h6 (Ext.drew w6);have hb7:=Q09 h7 rfl;refine⟨_,by rw[Q02,Q02];exact Q01 hb7 rfl,rfl,by rw[Q04 (by omega) (by omega)];omega,rfl,rfl,?_⟩;show WrC w6.drew (((zA n).add 0).add 4) 1 /\ _;rw[Q02,Q02];refine Q0B (b:=n) (o:=0+0+4) (C:=tpT b t'*blk g O) h7 rfl (by simp) fun w8 F8 h8 s8=>?_;have hlt:=Q9h (l.take j);have hlj:(l.take j).length=j:=by rw[zzlnt];omega
  rw[hlj] at hlt;have hn:numB (l.take (j+1))=numB (l.take j)+c.toNat*256 ^ j:=by
   rw[List.take_add_one,hc];show numB (l.take j++[c])=_;rw[Q3b,hlj]
  refine⟨f-1,by omega,j+1,by rw[Q04 (by omega) (by omega)];omega,by omega,F8,?_,(s6.trans (Step.ext (Ext.drew w6))).trans s8⟩;rw[QdE c hj' hlt,<-hn] at h8;exact h8
 ·have ej:j=8:=by omega
  subst ej;have etk:l.take 8=l:=List.take_of_length_le (by omega);have h6:(blk g O*(tpT b t'*skT n (xj 8))).P w6 F6:=re h6 (by ac_rfl);obtain⟨F7,h7,sub⟩:=drop_left h6;refine r _ w6 F7 ⟨rfl,?_⟩ (s6.sub sub);have exj:xj 8=⟨{x.o with H:=(numB l:Nat)},0⟩:=by show Stp.mk {x.o with H:=(numB (l.take 8):Nat)} 0=_;rw[etk]
  rw[exj] at h7;exact h7
end
end
set_option maxRecDepth 20000
section
open Go.RowKit Go.Maps Thing
def zO:Op:=⟨0,0,0,0,0,ByteArray.mk #[]⟩
def zS:Stp:=⟨zO,0⟩
def kx2(t:Tp):Stp:=⟨⟨oneI t % 16,oneI (bytT t 1),0,0,0,ByteArray.mk #[]⟩,0⟩
def kt2(t:Tp):Tp:=bytT (bytT t 1) 1
def kx3(t:Tp):Stp:=if 6<=oneI t % 16 /\ oneI t % 16<=11 then hndS (kt2 t) (kx2 t)else kx2 t
def kt3(t:Tp):Tp:=if 6<=oneI t % 16 /\ oneI t % 16<=11 then hndT (kt2 t)else kt2 t
def argS(k:Int)(x:Stp)(t:Tp):Stp:=
 if k=1 \/ k=2 \/ k=5 \/ k=9 then⟨{x.o with N:=numI t,M:=numI (bytT t 2)},x.B⟩
 else if k=4 \/ k=7 \/ k=11 then⟨{x.o with N:=numI t},x.B⟩
 else if k=10 then⟨{x.o with N:=numI t,D:=strOf (texL (bytT t 2))},x.B⟩
 else x
def argT(k:Int)(t:Tp):Tp:=
 if k=1 \/ k=2 \/ k=5 \/ k=9 then bytT (bytT t 2) 2
 else if k=4 \/ k=7 \/ k=11 then bytT t 2
 else if k=10 then texT (bytT t 2)
 else t
def stpX(t:Tp):Stp:=argS (oneI t % 16) (kx3 t) (kt3 t)
def stpE(t:Tp):Tp:=argT (oneI t % 16) (kt3 t)
def stpN(t:Tp):Option Stp:=if t.r=[] then none else if (stpE t).sh=true then none else some (stpX t)
def stpR(t:Tp):Tp:=if t.r=[] then t else stpE t
theorem hnd_K(t:Tp)(x:Stp):(hndS t x).o.K=x.o.K:=by unfold hndS;split <;> rfl
section
variable{b n:Nat}{t:Tp}{x:Stp}{w:World}{F:Nat->Prop}{X C:Thing}{R:VW}
theorem Q2A{i o:Nat}{v:Value}{x':Stp}{K:World->Prop}(h:X.P w F)(e:X=skT n x*C)(ho:o=i)(hi:i<7)(hx:setAt (spL x).toArray i [v]=(spL x').toArray)
  (k:∀w1 F',(skT n x'*C).P w1 F'->Step F w F' w1->K w1):WrC w (Addr.mk n o none) 1 /\ ∀w1,w1=wr w (Addr.mk n o none) [v]->K w1:=by
 subst ho;refine Q0B (b:=n) (o:=o) (C:=C) h e (by simp;omega) fun w1 F1 h1 s1=>k w1 F1 ?_ s1;rw[hx] at h1;exact h1
def sEnd(b n:Nat)(R:VW)(w53:World):Prop:=
 someA (some (zA b)) fun a54=>∃b55:Bool,w53.cell? (a54.add 1)=some (.bool b55) /\ ifB (!b55) (∃(i56 i57 i58 i59 i60:Int)(s61:ByteArray)(i62:Int),CellsAt w53 (zA n) [.int .i64 i56,.int .i64 i57,.int .i64 i58,.int .i64 i59,.int .u64 i60,.string s61,.int .i64 i62] /\ WrC w53 (zA n) 7 /\ ∀(w63:World),w63=wr w53 (zA n) [.int .i64 i56,.int .i64 i57,.int .i64 i58,.int .i64 i59,.int .u64 i60,.string s61,.int .i64 i62] →
  ∃(i64 i65 i66 i67 i68:Int)(s69:ByteArray)(i70:Int),CellsAt w63 (zA n) [.int .i64 i64,.int .i64 i65,.int .i64 i66,.int .i64 i67,.int .u64 i68,.string s69,.int .i64 i70] /\ R (.tuple #[.agg #[.int .i64 i64,.int .i64 i65,.int .i64 i66,.int .i64 i67,.int .u64 i68,.string s69,.int .i64 i70],.bool true]) w63) (WrC w53 (zA n) 7 /\ ∀(w71:World),w71=wr w53 (zA n) [.int .i64 0,.int .i64 0,.int .i64 0,.int .i64 0,.int .u64 0,.string (.mk #[]),.int .i64 0] →
  ∃(i72 i73 i74 i75 i76:Int)(s77:ByteArray)(i78:Int),CellsAt w71 (zA n) [.int .i64 i72,.int .i64 i73,.int .i64 i74,.int .i64 i75,.int .u64 i76,.string s77,.int .i64 i78] /\ R (.tuple #[.agg #[.int .i64 i72,.int .i64 i73,.int .i64 i74,.int .i64 i75,.int .u64 i76,.string s77,.int .i64 i78],.bool false]) w71)
theorem setAt7(arr:Array Value)(hs:arr.size=7)(a b c d e f g:Value):setAt arr 0 [a,b,c,d,e,f,g]=#[a,b,c,d,e,f,g]:=by
 obtain⟨l⟩:=arr;have hs:l.length=7:=hs
 match l,hs with
 | [_,_,_,_,_,_,_],_=>rfl
theorem Q9Q{x x':Stp}(h:X.P w F)(e:X=skT n x'*C){bb:Bool}(r:∀w' F',C.P w' F'->Step F w F' w'->R (.tuple #[spV x,.bool bb]) w') :
  WrC w (zA n) (7:Nat) /\ ∀(w63:World),w63=wr w (zA n) (spL x) →
  ∃(i64 i65 i66 i67 i68:Int)(s69:ByteArray)(i70:Int),CellsAt w63 (zA n) [.int .i64 i64,.int .i64 i65,.int .i64 i66,.int .i64 i67,.int .u64 i68,.string s69,.int .i64 i70] /\ R (.tuple #[.agg #[.int .i64 i64,.int .i64 i65,.int .i64 i66,.int .i64 i67,.int .u64 i68,.string s69,.int .i64 i70],.bool bb]) w63:=by
 refine Q0B (C:=C) h e (by simp) fun w1 F1 h1 s1=>?_;rw[setAt7 _ rfl] at h1;have h1:(skT n x*C).P w1 F1:=h1;have hb:=Q09 h1 rfl;obtain⟨F2,h2,sub⟩:=drop_left h1;exact⟨_,_,_,_,_,_,_,Q07 (vs:=spL x) hb,r w1 F2 h2 (s1.sub sub)⟩
theorem s_end(h:(tpT b t*skT n x).P w F)(r0:t.sh=true->∀w' F',(tpT b t).P w' F'->Step F w F' w'->R (.tuple #[spV zS,.bool false]) w')(r1:t.sh=false->∀w' F',(tpT b t).P w' F'->Step F w F' w'->R (.tuple #[spV x,.bool true]) w'):sEnd b n R w:=by
 unfold sEnd;have hb:=Q09 h rfl;have h':(skT n x*tpT b t).P w F:=re h (zztmc _ _);refine⟨t.sh,by rw[Q02];exact Q01 hb rfl,Q05 (fun q=>?_) (fun q=>?_)⟩
 ·have q:t.sh=false:=by simpa using q
  exact⟨_,_,_,_,_,_,_,Q07 (vs:=spL x) (Q09 h' rfl),Q9Q (x:=x) h' rfl (r1 q)⟩
 ·have q:t.sh=true:=by simpa using q
  exact Q9Q (x:=zS) h' rfl (r0 q)
theorem QfG:Tri 62 #[zP b] (tpT b t) (fun v=>only (v=.tuple #[spV ((stpN t).getD zS),.bool (stpN t).isSome]) (tpT b (stpR t))):=by
 intro w F R h r;constructor;refine vc211.ok ?_;unfold vc211;refine Q0j h fun n w1 F1 h1 s1 _=>?_;have h1:(skT n zS*tpT b t).P w1 F1:=h1;have hb1:=Q09 (b:=b) (o:=tpO t) (C:=skT n zS) h1 (zztmc _ _);unfold stpN stpR at r;refine⟨_,by rw[Q02];exact Q01 hb1 rfl,Q05 (fun q=>?_) (fun q=>?_)⟩
 ·have q:strOf t.r=ByteArray.mk #[]:=zzodt q;have q:t.r=[]:=by have:=congrArg bytesOf q;exact this
  rw[if_pos q,if_pos q] at r;exact Q9Q (x:=zS) h1 rfl fun w' F' p st=>r _ w' F' ⟨rfl,p⟩ (s1.trans st)
 have q:¬t.r=[]:=fun z=>of_decide_eq_false q (by rw[z];rfl);rw[if_neg q,if_neg q] at r;have ho1:=Q2K t;refine(QbF (b:=b) (t:=t)).use h1 (zztmc _ _) fun v w2 F2 h2 s2=>?_;rw[Q06] at h2;obtain⟨rfl,h2⟩:=h2;refine⟨_,rfl,by omega,?_⟩;have em:(oneI t).tmod 16=oneI t % 16:=Int.tmod_eq_emod_of_nonneg ho1.1;rw[em,Q02,Q02];refine Q2A (i:=0) (x:=zS) (x':=⟨{zO with K:=oneI t % 16},0⟩) (C:=tpT b (bytT t 1)) h2 (zztmc _ _) rfl (by omega) rfl fun w3 F3 h3 s3=>?_;refine(QbF (b:=b) (t:=bytT t 1)).use h3 (zztmc _ _) fun v w4 F4 h4 s4=>?_;rw[Q06] at h4;obtain⟨rfl,h4⟩:=h4;refine⟨_,rfl,?_⟩;rw[Q02];refine Q2A (i:=1) (x:=⟨{zO with K:=oneI t % 16},0⟩) (x':=kx2 t) (C:=tpT b (kt2 t)) h4 (zztmc _ _) rfl (by omega) rfl fun w5 F5 h5 s5=>?_;have s15:=(((s1.trans s2).trans s3).trans s4).trans s5;refine⟨fun w'=>∃F',(tpT b (kt3 t)*skT n (kx3 t)).P w' F' /\ Step F w F' w',?_,?_⟩
 ·have hb5:=Q09 h5 rfl;have no:¬(6<=oneI t % 16 /\ oneI t % 16<=11)->∃F',(tpT b (kt3 t)*skT n (kx3 t)).P w5 F' /\ Step F w F' w5:=fun z=>by
   unfold kt3 kx3;rw[if_neg z,if_neg z];exact⟨F5,re h5 (zztmc _ _),s15⟩
  refine⟨oneI t % 16,Q01 hb5 rfl,Q05 (fun q1=>Q05 (fun q2=>?_) (fun q2=>?_)) (fun q1=>?_)⟩
  ·have q1:=zzodt q1;have q2:=zzodt q2;refine(Qan (b:=b) (n:=n) (t:=kt2 t) (x:=kx2 t) rfl).use (C:=emp) h5 (by rw[Q0b,zztmc]) fun v w6 F6 h6 s6=>?_;rw[Q06,Q0b] at h6;obtain⟨rfl,h6⟩:=h6;refine⟨rfl,F6,?_,s15.trans s6⟩;unfold kt3 kx3;rw[if_pos ⟨q1,q2⟩,if_pos ⟨q1,q2⟩];exact h6
  ·have q2:=of_decide_eq_false q2;exact no (fun z=>q2 z.2)
  ·have q1:=of_decide_eq_false q1;exact no (fun z=>q1 z.1)
 rintro _ w6 ⟨F6,h6,s6⟩;have hK:(kx3 t).o.K=oneI t % 16:=by
  unfold kx3;split
  ·rw[hnd_K];rfl
  ·rfl
 have fin:∀w' F',(tpT b (stpE t)*skT n (stpX t)).P w' F'->Step F w F' w'->sEnd b n R w':=fun w' F' p st=>by
  refine s_end p (fun hs w'' F'' p2 st2=>?_) (fun hs w'' F'' p2 st2=>?_)
  ·rw[if_pos hs] at r;exact r _ w'' F'' ⟨rfl,p2⟩ (st.trans st2)
  ·rw[if_neg (by simp[hs])] at r;exact r _ w'' F'' ⟨rfl,p2⟩ (st.trans st2)
 have eX:stpX t=argS (oneI t % 16) (kx3 t) (kt3 t):=rfl;have eE:stpE t=argT (oneI t % 16) (kt3 t):=rfl;generalize stpX t=xe at eX fin r;generalize stpE t=te at eE fin r;generalize oneI t % 16=k at hK eX eE;generalize kx3 t=x3 at h6 hK eX;generalize kt3 t=t3 at h6 eX eE;obtain⟨⟨K,T3,N3,M3,H3,D3⟩,B3⟩:=x3;have hK:K=k:=hK;subst hK;have hb6:=Q09 (b:=n) (C:=tpT b t3) h6 (zztmc _ _);have h6':(skT n ⟨⟨K,T3,N3,M3,H3,D3⟩,B3⟩*tpT b t3).P w6 F6:=re h6 (zztmc _ _);refine⟨fun w'=>∃F',(tpT b te*skT n xe).P w' F' /\ Step F w F' w',⟨K,Q01 hb6 rfl,fun bb w'=>bb=decide (K=1 \/ K=2 \/ K=5 \/ K=9) /\ w'=w6,?_,?_⟩,fun _ w' ⟨F',p,st⟩=>fin w' F' p st⟩
 ·have dd:∀i:Int,(K == i)=decide (K=i):=fun i=>rfl;refine Q05 (fun q=>⟨?_,rfl⟩) (fun q=>Q05 (fun q2=>⟨?_,rfl⟩) (fun q2=>Q05 (fun q3=>⟨?_,rfl⟩) (fun q3=>⟨?_,rfl⟩)))
  ·have q':K=1:=by simpa using q
   rw[q,decide_eq_true (.inl q')]
  ·have q':K=2:=by simpa using q2
   rw[q2,decide_eq_true (.inr (.inl q'))]
  ·have q':K=5:=by simpa using q3
   rw[q3,decide_eq_true (.inr (.inr (.inl q')))]
  ·have a1:¬K=1:=by simpa using q
   have a2:¬K=2:=by simpa using q2
   have a3:¬K=5:=by simpa using q3
   by_cases a4:K=9
   ·rw[decide_eq_true (.inr (.inr (.inr a4)))];simp[a4]
   ·rw[zzdcf (by omega)];simp[a4]
 rintro _ bb w7 ⟨rfl,rfl⟩;refine Q05 (fun q=>?_) (fun q=>?_)
 ·have q:=zzodt q;unfold argS at eX;unfold argT at eE;rw[if_pos q] at eX eE;subst eX eE;refine(QbE (b:=b) (t:=t3)).use h6 rfl fun v w8 F8 h8 s8=>?_;rw[Q06] at h8;obtain⟨rfl,h8⟩:=h8;refine⟨_,rfl,(QbE (b:=b) (t:=bytT t3 2)).use h8 rfl fun v w9 F9 h9 s9=>?_⟩;rw[Q06] at h9;obtain⟨rfl,h9⟩:=h9;refine⟨_,rfl,Q2A (i:=2) (x:=⟨⟨K,T3,N3,M3,H3,D3⟩,B3⟩) (x':=⟨⟨K,T3,numI t3,M3,H3,D3⟩,B3⟩) (C:=tpT b (bytT (bytT t3 2) 2)) h9 (zztmc _ _) rfl (by omega) rfl fun w10 F10 h10 s10=>?_⟩;rw[Q02];refine Q2A (i:=3) (x:=⟨⟨K,T3,numI t3,M3,H3,D3⟩,B3⟩) (x':=⟨⟨K,T3,numI t3,numI (bytT t3 2),H3,D3⟩,B3⟩) (C:=tpT b (bytT (bytT t3 2) 2)) h10 rfl rfl (by omega) rfl fun w11 F11 h11 s11=>?_;exact⟨F11,re h11 (zztmc _ _),(((s6.trans s8).trans s9).trans s10).trans s11⟩
 have q:=of_decide_eq_false q;unfold argS at eX;unfold argT at eE;rw[if_neg q] at eX eE;refine⟨fun bb w'=>bb=decide (K=4 \/ K=7 \/ K=11) /\ w'=w7,?_,?_⟩
 ·refine Q05 (fun q=>⟨?_,rfl⟩) (fun q=>Q05 (fun q2=>⟨?_,rfl⟩) (fun q2=>⟨?_,rfl⟩))
  ·have q':K=4:=by simpa using q
   rw[q,decide_eq_true (.inl q')]
  ·have q':K=7:=by simpa using q2
   rw[q2,decide_eq_true (.inr (.inl q'))]
  ·have a1:¬K=4:=by simpa using q
   have a2:¬K=7:=by simpa using q2
   by_cases a4:K=11
   ·rw[decide_eq_true (.inr (.inr a4))];simp[a4]
   ·rw[zzdcf (by omega)];simp[a4]
 rintro _ bb w8 ⟨rfl,rfl⟩;refine Q05 (fun q2=>?_) (fun q2=>?_)
 ·have q2:=zzodt q2;rw[if_pos q2] at eX eE;subst eX eE;refine(QbE (b:=b) (t:=t3)).use h6 rfl fun v w9 F9 h9 s9=>?_;rw[Q06] at h9;obtain⟨rfl,h9⟩:=h9;refine⟨_,rfl,Q2A (i:=2) (x:=⟨⟨K,T3,N3,M3,H3,D3⟩,B3⟩) (x':=⟨⟨K,T3,numI t3,M3,H3,D3⟩,B3⟩) (C:=tpT b (bytT t3 2)) h9 (zztmc _ _) rfl (by omega) rfl fun w10 F10 h10 s10=>?_⟩;exact⟨F10,re h10 (zztmc _ _),(s6.trans s9).trans s10⟩
 have q2:=of_decide_eq_false q2;rw[if_neg q2] at eX eE;refine Q05 (fun q3=>?_) (fun q3=>?_)
 ·have q3:K=10:=by simpa using q3
  rw[if_pos q3] at eX eE;subst eX eE;refine(QbE (b:=b) (t:=t3)).use h6 rfl fun v w9 F9 h9 s9=>?_;rw[Q06] at h9;obtain⟨rfl,h9⟩:=h9;refine⟨_,rfl,Q2A (i:=2) (x:=⟨⟨K,T3,N3,M3,H3,D3⟩,B3⟩) (x':=⟨⟨K,T3,numI t3,M3,H3,D3⟩,B3⟩) (C:=tpT b (bytT t3 2)) h9 (zztmc _ _) rfl (by omega) rfl fun w10 F10 h10 s10=>?_⟩;refine(QfH (b:=b) (t:=bytT t3 2)).use h10 (zztmc _ _) fun v w11 F11 h11 s11=>?_;rw[Q06] at h11;obtain⟨rfl,h11⟩:=h11;refine⟨_,rfl,?_⟩;rw[Q02];refine Q2A (i:=5) (x:=⟨⟨K,T3,numI t3,M3,H3,D3⟩,B3⟩) (x':=⟨⟨K,T3,numI t3,M3,H3,strOf (texL (bytT t3 2))⟩,B3⟩) (C:=tpT b (texT (bytT t3 2))) h11 (zztmc _ _) rfl (by omega) rfl fun w12 F12 h12 s12=>?_;exact⟨F12,re h12 (zztmc _ _),(((s6.trans s9).trans s10).trans s11).trans s12⟩
 ·have q3:¬K=10:=by simpa using q3
  rw[if_neg q3] at eX eE;subst eX eE;exact⟨F6,h6,s6⟩
end
end
set_option maxRecDepth 20000
section
open Go.RowKit Go.Maps Thing
abbrev stpsT(v:Value)(l:List Stp):Thing:=rwT 62 7 spL v l
theorem elemStp:ElemOk prog 59 62 7 64:=.of (z:=.agg #[.int .i64 0,.int .i64 0,.int .i64 0,.int .i64 0,.int .u64 0,.string (ByteArray.mk #[]),.int .i64 0]) (by kernel_rfl) (by kernel_rfl) rfl
theorem Q4I(x:Stp):(spL x).length=7:=rfl
theorem Q9S(x:Stp)(u:Value)(h:u ∈ spL x):u.oneCell'=true:=by
 simp only[spL,List.mem_cons,List.not_mem_nil,or_false] at h;rcases h with rfl | rfl | rfl | rfl | rfl | rfl | rfl <;> rfl
def readL:Nat->Tp->List Stp
 | 0,_=>[]
 | k+1,t=>match stpN t with | none=>[] | some x=>x :: readL k (stpR t)
def rdL(s:ByteArray):List Stp:=readL 4000 ⟨(bytesOf s).take 16384,false⟩
section
variable{w:World}{F:Nat->Prop}{X C:Thing}{R:VW}
theorem emp_P(w:World):emp.P w (fun _=>False):=rfl
theorem QfD(s:ByteArray)(r:∀p c w' F',(stpsT (.slice p (rdL s).length c) (rdL s)).P w' F'->Ext w w'->(∀j,F' j->w.heap.size<=j)->R (.slice p (rdL s).length c) w') :
  CS 28 #[.string s] w R:=by
 constructor;refine vc72.ok ?_;unfold vc72;have em:(if (16384:Int)<(s.size:Int)then(16384:Int)else(s.size:Int))=((min 16384 s.size:Nat):Int):=by
  split <;> omega
 refine⟨_,w,run_min_int2 w _ _ _ _ _ _,?_⟩;rw[em,zztnc];refine⟨by omega,by omega,by omega,?_⟩;have e0:s.extract 0 (min 16384 s.size)=strOf ((bytesOf s).take 16384):=by
  apply Q10;rw[Q0P,Q0l,seg,List.drop_zero,Nat.sub_zero];have hl:=Q0k s;rcases Nat.le_total s.size 16384 with h | h
  ·rw[Nat.min_eq_right h,List.take_of_length_le (by omega),List.take_of_length_le (by omega)]
  ·rw[Nat.min_eq_left h]
 rw[e0];refine Q0j (emp_P w) fun b w1 F1 h1 s1 _=>?_;have h1:(tpT b ⟨(bytesOf s).take 16384,false⟩*emp).P w1 F1:=h1;generalize et:(⟨(bytesOf s).take 16384,false⟩:Tp)=t0 at h1;have eL:rdL s=readL 4000 t0:=by unfold rdL;rw[et]
 have h1:(tpT b t0).P w1 F1:=re h1 (Q0b _);refine⟨fun f p n c w'=>∃l:List Stp,n=l.length /\ f+l.length=4000 /\ ∃t F',l++readL (4000-l.length) t=rdL s /\ (stpsT (.slice p l.length c) l*tpT b t).P w' F' /\ Step (fun _=>False) w F' w',⟨4000,[],rfl,rfl,t0,_,by rw[eL];rfl,re (Q3i h1) (zztmc _ _),s1⟩,?_⟩;rintro f jv p n c w2 ⟨l,rfl,hf,t,F2,hl,h2,s2⟩;have fin:∀w' F',l=rdL s->(stpsT (.slice p l.length c) l*tpT b t).P w' F'->Step (fun _=>False) w F' w'->R (.slice p l.length c) w':=fun w' F' e p st=>by
  obtain⟨F3,h3,sub⟩:=drop_left (re p (zztmc _ _));have st:=st.sub sub;rw[e] at h3 ⊢;exact r _ _ w' F3 h3 st.1 fun j hj=>(st.2 j hj).resolve_left id
 refine Q05 (fun q=>?pos) (fun q=>?neg)
 case neg=>
  have q:=of_decide_eq_false q;have e4:l.length=4000:=by omega
  rw[e4] at hl;have hl:l++[]=rdL s:=hl;rw[List.append_nil] at hl;exact fin w2 F2 hl h2 s2
 have q:=zzodt q;have hlt:l.length<4000:=by omega
 refine(QfG (b:=b) (t:=t)).use h2 (zztmc _ _) fun v w3 F3 h3 s3=>?_;rw[Q06] at h3;obtain⟨rfl,h3⟩:=h3;obtain⟨k,hk⟩:∃k,4000-l.length=k+1:=⟨4000-l.length-1,by omega⟩;rw[hk,readL] at hl;refine⟨_,_,_,_,_,_,_,_,rfl,Q0j h3 fun n4 w4 F4 h4 s4 _=>?_⟩;have h4:(skT n4 zS*(tpT b (stpR t)*stpsT (.slice p l.length c) l)).P w4 F4:=h4;refine Q0B (b:=n4) (o:=0) (C:=tpT b (stpR t)*stpsT (.slice p l.length c) l) h4 rfl (by simp) fun w5 F5 h5 s5=>?_;rw[setAt7 _ rfl] at h5;have h5:(skT n4 ((stpN t).getD zS)*(tpT b (stpR t)*stpsT (.slice p l.length c) l)).P w5 F5:=h5;have s25:=((s2.trans s3).trans s4).trans s5;cases hn:stpN t with
 | none=>
  rw[hn] at hl;have hl:l++[]=rdL s:=hl;rw[List.append_nil] at hl;refine Q03 rfl ?_;obtain⟨F6,h6,sub⟩:=drop_left h5;obtain⟨F7,h7,sub7⟩:=drop_left h6;have st:=(s25.sub sub).sub sub7;rw[hl] at h7 ⊢;exact r _ _ w5 F7 h7 st.1 fun j hj=>(st.2 j hj).resolve_left id
 | some x=>
  rw[hn] at hl h5;have hl:l++(x :: readL k (stpR t))=rdL s:=hl;have h5:(skT n4 x*(tpT b (stpR t)*stpsT (.slice p l.length c) l)).P w5 F5:=h5;refine Q00 rfl ⟨_,_,_,_,_,_,_,Q07 (vs:=spL x) (Q09 h5 rfl),Q0j h5 fun n6 w6 F6 h6 s6 _=>?_⟩;have h6:(skT n6 x*(skT n4 x*(tpT b (stpR t)*stpsT (.slice p l.length c) l))).P w6 F6:=h6;obtain⟨p',c',w7,F7,hrun,h7,s7⟩:=Q3j elemStp Q4I Q9S (v:=.slice p l.length c) (l:=l) (a:=⟨n6,0,none⟩) (c:=1) (x:=x) (Y:=skT n6 x*(skT n4 x*tpT b (stpR t))) (re h6 (by show _=stpsT (.slice p l.length c) l*_;ac_rfl)) (Q07 (vs:=spL x) (Q09 h6 rfl)) (by omega) (by omega);obtain⟨F8,h8,sub⟩:=drop_left (A:=skT n6 x*skT n4 x) (B:=tpT b (stpR t)*stpsT (.slice p' (l.length+1) c') (l++[x])) (re h7 (by show stpsT (.slice p' (l.length+1) c') (l++[x])*_=_;ac_rfl));have el:(l++[x]).length=l.length+1:=by rw[zzlna];rfl
  refine⟨p',_,c',w7,hrun,f-1,by omega,l++[x],by rw[el],by rw[el];omega,stpR t,F8,?_,?_,(((s25.trans s6).trans s7).sub sub)⟩
  ·rw[<-hl,el,show 4000-(l.length+1)=k by omega,List.append_assoc];rfl
  ·rw[el];exact re h8 (zztmc _ _)
end
end
section
open Go.RowKit Go.Maps Thing
section
variable{w:World}{F:Nat->Prop}{X C:Thing}{R:VW}
theorem Qed(P0 C0:Int)(r:∀w',Ext w w'->R (.bool (decide (P0>512))) w'):CS 25 #[.agg #[.int .i64 P0,.int .i64 C0],.slice none 0 0,.int .i64 1] w R:=by
 constructor;refine vc93.ok ?_;unfold vc93;refine Q08 fun b w1 hb hE _ _=>⟨fun f i j w'=>i=0 /\ j=0 /\ w'=w1,⟨0,rfl,rfl,rfl⟩,?_⟩;rintro f jv i j w' ⟨rfl,rfl,rfl⟩;refine ifD (fun q=>by omega) (fun q=>ifD (fun q2=>by omega) (fun q2=>⟨_,by rw[Q02];exact Q01 hb rfl,r _ hE⟩))
end
structure Rn where
 x:Se
 g:Int->List Int
 ops:List Op
 said:List An
def hOf(g:Int->List Int)(st:Stp):Op:=if st.B>0 then {st.o with H:=if st.B<=((g st.o.T).length:Int)then(g st.o.T).getD ((g st.o.T).length-st.B.toNat) 0 else 0} else st.o
def gAd(g:Int->List Int)(T:Int)(h:Int):Int->List Int:=if h ≠ 0 then(fun k=>if k=T then g T++[h] else g k)else g
noncomputable def runS(s:Sv)(n:Rn)(st:Stp):Rn:=
 ⟨(doM s n.x (hOf n.g st)).x,gAd n.g st.o.T (doM s n.x (hOf n.g st)).a.Hd,n.ops++[hOf n.g st],n.said++[(doM s n.x (hOf n.g st)).a]⟩
def R0(s:Sv):Rn:=⟨⟨A0 s,[],[]⟩,fun _=>[],[],[]⟩
noncomputable def runL(s:Sv)(l:List Stp):Rn:=l.foldl (runS s) (R0 s)
structure StpOk (x:Stp):Prop where
 t:I64w x.o.T
 h:Hd.U64 x.o.H
 b:I64w x.B
section
variable{s:Sv}{A:Ax}{t:Tn}{a:Ad}{x:Se}
theorem Qf1(g:Int->List Int)(st:Stp):(hOf g st).T=st.o.T:=by unfold hOf;split <;> rfl
theorem Q7c{T k r nx:Int}(hT:0<=T /\ T<=7)(hk:0<=k /\ k<=4159)(hr:0<=r /\ r<=7)(hn:0<=nx /\ nx<=17592186044415):Hd.U64 (Hd.packV T k r nx):=by
 unfold Hd.packV Hd.U64;omega
theorem Q7g{S:Int->Option Cp.Sl}{base n k:Nat}{nx:Int}(h:Cp.putK S base n nx=some k):k<n /\ nx<17592186044416:=by
 unfold Cp.putK at h;split at h
 ·cases h
 ·rename_i q;obtain⟨hl,_⟩:=List.findIdx?_eq_some_iff_getElem.1 h;rw[Cp.occ_len] at hl;exact⟨hl,by omega⟩
theorem Qde{T nx a:Int}{S:Int->Option Cp.Sl}(hT:0<=T /\ T<=7)(hn:0<=nx):Hd.U64 (grI T S nx a):=by
 unfold grI;have z:Hd.U64 0:=by unfold Hd.U64;omega
 split
 ·exact z
 ·split
  ·rename_i k hk;obtain⟨h1,h2⟩:=Q7g hk;exact Q7c hT (by omega) (by omega) (by omega)
  ·exact z
theorem Qbx{T nx h r:Int}{S:Int->Option Cp.Sl}(hT:0<=T /\ T<=7)(hn:0<=nx):Hd.U64 (rstI T S nx h r):=by
 unfold rstI;have z:Hd.U64 0:=by unfold Hd.U64;omega
 split
 ·rename_i y hy;have hr:1<=r /\ r<=7:=by
   unfold Cp.restO at hy;split at hy
   ·split at hy
    ·rename_i q;exact⟨q.1,q.2.1⟩
    ·cases hy
   ·cases hy
  split
  ·rename_i k hk;obtain⟨h1,h2⟩:=Q7g hk;exact Q7c hT (by omega) (by omega) (by omega)
  ·exact z
 ·exact z
theorem Q4j(hT:0<=t.id /\ t.id<=7)(hn:0<=t.nx)(n:Int):Hd.U64 (getM s A t n).h:=by
 have z:Hd.U64 0:=by unfold Hd.U64;omega
 unfold getM;split;exact z;split;exact z;split;exact z;split;exact z;split;exact z;split;exact z;exact Qde hT hn
theorem Qd0(hT:0<=t.id /\ t.id<=7)(hn:0<=t.nx){o:Op}(hu:Hd.U64 o.H):Hd.U64 (askM s A t o).a.Hd:=by
 have z:Hd.U64 0:=by unfold Hd.U64;omega
 unfold askM;split
 ·exact Q4j hT hn _
 split
 ·unfold calR;split
  ·exact Q4j hT hn _
  ·exact z
 split
 ·unfold freR;split <;> exact z
 split
 ·unfold rlcR;split
  ·exact z
  split
  ·exact z
  split
  ·split
   ·exact Q4j hT hn _
   ·exact z
  ·exact hu
 split
 ·unfold usbR;split <;> exact z
 split
 ·unfold reaR;split <;> exact z
 split
 ·unfold wriR;split <;> exact z
 ·exact Qbx hT hn
theorem Qc2(g:AdInv s x.a){o:Op}(hu:Hd.U64 o.H):Hd.U64 (doM s x o).a.Hd /\ ((doM s x o).a.Hd ≠ 0->0<=o.T /\ o.T<8):=by
 have z:Hd.U64 0:=by unfold Hd.U64;omega
 unfold doM;split
 ·exact⟨z,fun h=>absurd rfl h⟩
 rename_i hc;have hc:chkE o=0:=by simpa using hc
 obtain⟨_,_,h0,h8,_⟩:=Q6E hc;refine⟨?_,fun _=>⟨h0,h8⟩⟩;show Hd.U64 (doA s (fgt x.a) o).a.Hd;unfold doA;split;exact z;split;exact z;split;exact z;cases ht:(fgt x.a).tn o.T.toNat with
 | none=>exact z
 | some t=>
  have w:=g.fgt.tn o.T.toNat t (by omega) ht;have hid:=w.id;have hn:=w.inv.ok.nx;exact Qd0 (by omega) (by omega) hu
end
end
section
open Go.RowKit Go.Maps Thing
structure GOk (g:Int->List Int) (k:Nat):Prop where
 out:∀T,¬(0<=T /\ T<8)->g T=[]
 u:∀T h,h ∈ g T->Hd.U64 h
 len:∀T,(g T).length<=k
structure RnInv (s:Sv) (n:Rn) (k:Nat):Prop where
 ad:AdInv s n.x.a
 dn:n.x.done.length<=k
 ol:n.ops.length=k
 sl:n.said.length=k
 ou:∀o ∈ n.ops,Hd.U64 o.H
 g:GOk n.g k
 tc:n.x.tch.length<=10000000
section
variable{s:Sv}{n:Rn}{k:Nat}{x:Se}
theorem QeQ(g:AdInv s x.a)(o:Op):(doM s x o).x.tch.length<=10000000:=by
 unfold doM;split
 ·exact Nat.zero_le _
 ·rename_i hc;have:=Q8E (o:=o) g.fgt.ok (by simpa using hc);have e:(fgt x.a).A.ts.length=0:=rfl;show(doA s (fgt x.a) o).x.A.ts.length<=_;omega
theorem Q8T{g:Int->List Int}(hg:GOk g k){st:Stp}(h:StpOk st):Hd.U64 (hOf g st).H:=by
 unfold hOf;split
 ·show Hd.U64 (if _ then _ else _);have z:Hd.U64 0:=by unfold Hd.U64;omega
  split
  ·rename_i h1 h2;have hi:(g st.o.T).length-st.B.toNat<(g st.o.T).length:=by omega
   rw[List.getD_eq_getElem?_getD,zzgge hi];exact hg.u _ _ (List.getElem_mem hi)
  ·exact z
 ·exact h.h
theorem GOk.add{g:Int->List Int}(hg:GOk g k){T h:Int}(hu:Hd.U64 h)(hT:h ≠ 0->0<=T /\ T<8):GOk (gAd g T h) (k+1):=by
 unfold gAd;split
 ·rename_i q;have ht:=hT q;refine⟨fun T' hT'=>?_,fun T' y hy=>?_,fun T'=>?_⟩
  ·show(if T'=T then _ else _)=_;rw[if_neg (fun e=>hT' (by omega))];exact hg.out T' hT'
  ·have hy:y ∈ (if T'=T then g T++[h] else g T'):=hy;split at hy
   ·rcases zzmpd.1 hy with hy | hy
    ·exact hg.u _ _ hy
    ·rw[List.mem_singleton.1 hy];exact hu
   ·exact hg.u _ _ hy
  ·show(if T'=T then g T++[h] else g T').length<=_;split
   ·rw[zzlna];have:=hg.len T;exact Nat.add_le_add this (Nat.le_refl _)
   ·have:=hg.len T';omega
 ·exact⟨hg.out,hg.u,fun T'=>by have:=hg.len T';omega⟩
theorem Q4G(g:RnInv s n k){st:Stp}(h:StpOk st):RnInv s (runS s n st) (k+1):=by
 have hu:=Q8T g.g h;have hd:=Qc2 g.ad hu;rw[Qf1] at hd;refine⟨Q36 g.ad _,?_,?_,?_,?_,g.g.add hd.1 hd.2,QeQ g.ad _⟩
 ·have:=Q2Z (s:=s) (x:=n.x) (hOf n.g st);have:=g.dn;show(doM s n.x (hOf n.g st)).x.done.length<=_;omega
 ·show(n.ops++[_]).length=_;rw[zzlna,g.ol];rfl
 ·show(n.said++[_]).length=_;rw[zzlna,g.sl];rfl
 ·intro o ho;rcases zzmpd.1 ho with ho | ho
  ·exact g.ou o ho
  ·rw[List.mem_singleton.1 ho];exact hu
theorem run0{P0 C0:Int}(g:SvOk s P0 C0):RnInv s (R0 s) 0:=
 ⟨Q3L g,Nat.le_refl _,rfl,rfl,(fun o ho=>by cases ho),⟨fun _ _=>rfl,(fun T h hh=>by cases hh),fun T=>Nat.le_refl _⟩,Nat.zero_le _⟩
theorem Q7s:∀(l:List Stp) {n:Rn} {k:Nat},RnInv s n k->(∀x ∈ l,StpOk x)->RnInv s (l.foldl (runS s) n) (k+l.length)
 | [],n,k,g,_=>g
 | x :: l,n,k,g,h=>by
  have:=Q7s l (Q4G g (h x (by simp))) fun y hy=>h y (by simp[hy]);rw[List.length_cons,show k+(l.length+1)=k+1+l.length by omega];exact this
theorem Q6l{P0 C0:Int}(g:SvOk s P0 C0){l:List Stp}(h:∀x ∈ l,StpOk x):RnInv s (runL s l) l.length:=by
 have:=Q7s l (run0 g) h
 rwa [Nat.zero_add] at this
theorem Q9I(l:List Stp)(x:Stp):runL s (l++[x])=runS s (runL s l) x:=by
 unfold runL;rw[List.foldl_append];rfl
end
def u64F(x:Int):List Value:=[.int .u64 x]
theorem Q7E(x:Int):(u64F x).length=1:=rfl
theorem QbT(x:Int)(u:Value)(h:u ∈ u64F x):u.oneCell'=true:=by
 simp only[u64F,List.mem_cons,List.not_mem_nil,or_false] at h;subst h;rfl
theorem elemU:ElemOk prog 55 33 1 8:=.of (z:=.int .u64 0) (by kernel_rfl) (by kernel_rfl) rfl
def gvM(gv:Int->Value)(g:Int->List Int):Int->Option Value:=fun k=>if g k=[] then none else some (gv k)
def gvF(gv:Int->Value)(g:Int->List Int):Fin 8->Thing:=fun i=>rwT 33 1 u64F (gv (i.val:Int)) (g (i.val:Int))
def gvT(mp:Nat)(gv:Int->Value)(g:Int->List Int):Thing:=mpT 3 mp (gvM gv g)*fam (gvF gv g)
def GvOk(gv:Int->Value)(g:Int->List Int):Prop:=∀k,g k=[]->gv k=.slice none 0 0
theorem Q8Q:Tryz.prog.underlying 105=some (.map 3 55):=by kernel_rfl
theorem giv_z(w:World):(zeroValue 55).run prog w=.ok (.slice none 0 0) w:=by kernel_rfl
section
variable{mp:Nat}{gv:Int->Value}{g:Int->List Int}{k:Nat}{w:World}{F:Nat->Prop}{X C:Thing}
theorem Qf0(i:Fin 8)(h:X.P w F)(e:X=gvT mp gv g*C):ORow w 33 1 u64F (gv (i.val:Int)) (g (i.val:Int)):=
 Q5C (e:=33) (k:=1) (f:=u64F) (Y:=mpT 3 mp (gvM gv g)*(fam (Thing.upd (gvF gv g) i emp)*C)) h (by rw[e];unfold gvT;rw[Q3G (gvF gv g) i];show _=gvF gv g i*_;ac_rfl)
theorem Q6T(ok:GvOk gv g)(hg:GOk g k)(h:X.P w F)(e:X=gvT mp gv g*C)(T:Int):∃p c,gv T=.slice p (g T).length c:=by
 by_cases hT:0<=T /\ T<8
 ·have:=Qf0 (⟨T.toNat,by omega⟩:Fin 8) h e;have e1:((⟨T.toNat,by omega⟩:Fin 8).val:Int)=T:=by show((T.toNat:Nat):Int)=T;omega
  rw[e1] at this;exact this.shape
 ·have h0:=hg.out T hT;rw[ok T h0,h0];exact⟨none,0,rfl⟩
theorem Q6a(ok:GvOk gv g)(h:X.P w F)(e:X=gvT mp gv g*C){T:Int}(hT:I64w T):(Instr.lookup 105 (.map (some mp)) (.int .i64 T) false).run prog w=.ok (gv T) w:=by
 have:=Q4v (K:=3) (mp:=mp) (m:=gvM gv g) (C:=fam (gvF gv g)*C) h (by rw[e];unfold gvT;ac_rfl) Q0L Q8Q (giv_z w) hT;rw[this];unfold gvM;split
 ·rename_i q;rw[ok T q];rfl
 ·rfl
theorem Qdg(ok:GvOk gv g)(hg:GOk g k)(hk:k<=100000)(h:X.P w F)(e:X=gvT mp gv g*C){T hh:Int}(hT:0<=T /\ T<8){a:Addr}(ha:w.cell? a=some (.int .u64 hh))(h0:hh ≠ 0) :
  ∃p' c' w1 F1 Y,(Builtin.append_ #[55,55] 55 #[gv T,.slice (some a) 1 1]).run prog w=.ok (.slice p' ((g T).length+1) c') w1 /\ (Y*C).P w1 F1 /\ Step F w F1 w1 /\
   ∃w2 F2 gv',(Instr.mapUpdate 105 (.map (some mp)) (.int .i64 T) (.slice p' ((g T).length+1) c')).run prog w1=.ok () w2 /\ GvOk gv' (gAd g T hh) /\ (gvT mp gv' (gAd g T hh)*C).P w2 F2 /\ Step F w F2 w2:=by
 obtain⟨m,rfl⟩:=zzeoz hT.1;have hm:m<8:=by omega
 let i:Fin 8:=⟨m,hm⟩
 have e1:X=rwT 33 1 u64F (gv (m:Int)) (g (m:Int))*(mpT 3 mp (gvM gv g)*fam (Thing.upd (gvF gv g) i emp)*C):=by
  rw[e];unfold gvT;rw[Q3G (gvF gv g) i];show _=gvF gv g i*_;ac_rfl
 have hlen:=hg.len (m:Int);obtain⟨p',c',w1,F1,hrun,h1,s1⟩:=Q3j elemU Q7E QbT (v:=gv (m:Int)) (l:=g (m:Int)) (a:=a) (c:=1) (x:=hh) (re h e1) (fun j u hu=>by
  match j with
  | 0=>
   have:some (Value.int .u64 hh)=some u:=hu;cases this;show w.cell? (a.add 0)=_;have ea:a.add 0=a:=by obtain⟨b,o,x⟩:=a;rfl
   rw[ea];exact ha
  | j+1=>simp[u64F] at hu) (by omega) (by omega)
 refine⟨p',c',w1,F1,_,hrun,re h1 (by rw[<-Thing.mul_assoc]),s1,?_⟩;obtain⟨w2,F2,r2,h2,s2⟩:=Q2I (K:=3) (mp:=mp) (m:=gvM gv g) (C:=rwT 33 1 u64F (.slice p' ((g (m:Int)).length+1) c') (g (m:Int)++[hh])*(fam (Thing.upd (gvF gv g) i emp)*C)) h1 (by ac_rfl) Q0L Q8Q (k:=(m:Int)) (i64w (by omega) (by omega)) (.slice p' ((g (m:Int)).length+1) c') (fun k hk=>by
  unfold gvM at hk;by_cases hk':0<=k /\ k<8
  ·omega
  ·rw[if_pos (hg.out k hk')] at hk;cases hk)
 let gv':Int->Value:=fun k=>if k=(m:Int)then .slice p' ((g (m:Int)).length+1) c' else gv k
 have eg:gAd g (m:Int) hh=fun k=>if k=(m:Int)then g (m:Int)++[hh] else g k:=by unfold gAd;rw[if_pos h0]
 have gm:gAd g (m:Int) hh (m:Int)=g (m:Int)++[hh]:=by rw[eg];exact if_pos rfl
 have gn:∀k,k ≠ (m:Int)->gAd g (m:Int) hh k=g k:=fun k hk=>by rw[eg];exact if_neg hk
 refine⟨w2,F2,gv',r2,fun k hk=>?_,re h2 ?_,s1.trans s2⟩
 ·by_cases q:k=(m:Int)
  ·subst q;rw[gm] at hk;simp at hk
  ·rw[gn k q] at hk;show(if k=(m:Int)then _ else gv k)=_;rw[if_neg q];exact ok k hk
 ·unfold gvT;have em:upd (gvM gv g) (m:Int) (some (.slice p' ((g (m:Int)).length+1) c'))=gvM gv' (gAd g (m:Int) hh):=funext fun k=>by
   unfold upd gvM;by_cases q:k=(m:Int)
   ·subst q;rw[if_pos rfl,gm,if_neg (by simp)];show _=some (if (m:Int)=(m:Int)then _ else gv (m:Int));rw[if_pos rfl]
   ·rw[if_neg q,gn k q];show _=if g k=[] then none else some (if k=(m:Int)then _ else gv k)
    rw[if_neg q]
  have ef:gvF gv' (gAd g (m:Int) hh)=Thing.upd (gvF gv g) i (rwT 33 1 u64F (.slice p' ((g (m:Int)).length+1) c') (g (m:Int)++[hh])):=funext fun j=>by
   unfold gvF Thing.upd;by_cases q:j=i
   ·subst q;rw[if_pos rfl];show rwT _ 1 u64F (if (m:Int)=(m:Int)then _ else gv (m:Int)) (gAd g (m:Int) hh (m:Int))=_;rw[if_pos rfl,gm]
   ·have q':(j.val:Int) ≠ (m:Int):=fun z=>q (Fin.ext (by show j.val=m;omega));rw[if_neg q,gn _ q'];show rwT _ 1 u64F (if (j.val:Int)=(m:Int)then _ else gv (j.val:Int)) _=_;rw[if_neg q']
  rw[em,ef,Q0X (gvF gv g) i (rwT 33 1 u64F (.slice p' ((g (m:Int)).length+1) c') (g (m:Int)++[hh]))];ac_rfl
end
end
section
open Go.RowKit Go.Maps Thing
abbrev saT(v:Value)(l:List An):Thing:=rwT 40 6 anL v l
theorem elemAn:ElemOk prog 26 40 6 56:=.of (z:=.agg #[.int .i64 0,.int .u64 0,.int .i64 0,.int .i64 0,.string (ByteArray.mk #[]),.int .i64 0]) (by kernel_rfl) (by kernel_rfl) rfl
theorem Q5W(x:An):(anL x).length=6:=rfl
theorem QcZ(x:An)(u:Value)(h:u ∈ anL x):u.oneCell'=true:=by
 simp only[anL,List.mem_cons,List.not_mem_nil,or_false] at h;rcases h with rfl | rfl | rfl | rfl | rfl | rfl <;> rfl
section
variable{w:World}{F:Nat->Prop}{X C Y:Thing}
theorem QbS{n38 n69 n15 n18:Nat}{p13 p16:Option Addr}{lo:List Op}{ls:List An}{o:Op}{a:An}{K:Option Addr->Nat->Nat->Option Addr->Nat->Nat->World->Prop}
  (h:(bA n69 a*(blk n38 (opB o)*(dnT (.slice p13 lo.length n15) lo*(saT (.slice p16 ls.length n18) ls*Y)))).P w F) (hl:lo.length+1<=1000000) (hs:ls.length+1<=1000000)
  (k:∀p c p' c' w' F',(dnT (.slice p (lo.length+1) c) (lo++[o])*(saT (.slice p' (ls.length+1) c') (ls++[a])*Y)).P w' F'->Step F w F' w'->K p (lo.length+1) c p' (ls.length+1) c' w') :
  ∀(w97:World),w97=w.drew->∃(i98 i99 i100 i101 i102:Int)(s103:ByteArray),CellsAt w97 (zA n38) [.int .i64 i98,.int .i64 i99,.int .i64 i100,.int .i64 i101,.int .u64 i102,.string s103] /\ ∃(i104 i105 i106 i107:Int)(s108:ByteArray)(i109:Int),CellsAt w97 (zA n69) [.int .i64 i104,.int .u64 i105,.int .i64 i106,.int .i64 i107,.string s108,.int .i64 i109] /\ (∀(n110:Nat)(w111:World),n110=w97.heap.size->w111=w97.alloc (Obj.cells #[(.int .i64 i98:Value),.int .i64 i99,.int .i64 i100,.int .i64 i101,.int .u64 i102,.string s103] 35)->(∃(i112 i113 i114 i115:Int)(s116:ByteArray)(i117:Int),CellsAt w111 (zA n69) [.int .i64 i112,.int .u64 i113,.int .i64 i114,.int .i64 i115,.string s116,.int .i64 i117] /\ Value.agg #[.int .i64 i112,.int .u64 i113,.int .i64 i114,.int .i64 i115,.string s116,.int .i64 i117]=.agg #[.int .i64 i104,.int .u64 i105,.int .i64 i106,.int .i64 i107,.string s108,.int .i64 i109]) /\ (∃(p118:Option Addr)(n119 n120:Nat)(w121:World),Sem.run prog (Builtin.append_ #[25,25] 25 #[.slice p13 lo.length n15,.slice (some (zA n110)) (1:Nat) (1:Nat)]) w111=Result.ok (.slice p118 n119 n120) w121 /\ (∃(i122 i123 i124 i125:Int)(s126:ByteArray)(i127:Int),CellsAt w121 (zA n69) [.int .i64 i122,.int .u64 i123,.int .i64 i124,.int .i64 i125,.string s126,.int .i64 i127] /\ Value.agg #[.int .i64 i122,.int .u64 i123,.int .i64 i124,.int .i64 i125,.string s126,.int .i64 i127]=.agg #[.int .i64 i104,.int .u64 i105,.int .i64 i106,.int .i64 i107,.string s108,.int .i64 i109]) /\ ∀(n128:Nat)(w129:World),n128=w121.heap.size->w129=w121.alloc (Obj.cells #[.int .i64 i104,.int .u64 i105,.int .i64 i106,.int .i64 i107,.string s108,.int .i64 i109] 40)->(∃(i130 i131 i132 i133 i134:Int)(s135:ByteArray),CellsAt w129 (zA n38) [.int .i64 i130,.int .i64 i131,.int .i64 i132,.int .i64 i133,.int .u64 i134,.string s135] /\ Value.agg #[.int .i64 i130,.int .i64 i131,.int .i64 i132,.int .i64 i133,.int .u64 i134,.string s135]=.agg #[(.int .i64 i98:Value),.int .i64 i99,.int .i64 i100,.int .i64 i101,.int .u64 i102,.string s103]) /\ ∃(p136:Option Addr)(n137 n138:Nat)(w139:World),Sem.run prog (Builtin.append_ #[26,26] 26 #[.slice p16 ls.length n18,.slice (some (zA n128)) (1:Nat) (1:Nat)]) w129=Result.ok (.slice p136 n137 n138) w139 /\ K p118 n119 n120 p136 n137 n138 w139) /\ ∀(n141:Nat)(w142:World),n141=w111.heap.size->w142=w111.alloc (Obj.cells #[.int .i64 i104,.int .u64 i105,.int .i64 i106,.int .i64 i107,.string s108,.int .i64 i109] 40)->(∃(i143 i144 i145 i146 i147:Int)(s148:ByteArray),CellsAt w142 (zA n38) [.int .i64 i143,.int .i64 i144,.int .i64 i145,.int .i64 i146,.int .u64 i147,.string s148] /\ Value.agg #[.int .i64 i143,.int .i64 i144,.int .i64 i145,.int .i64 i146,.int .u64 i147,.string s148]=.agg #[(.int .i64 i98:Value),.int .i64 i99,.int .i64 i100,.int .i64 i101,.int .u64 i102,.string s103]) /\ ∃(p149:Option Addr)(n150 n151:Nat)(w152:World),Sem.run prog (Builtin.append_ #[25,25] 25 #[.slice p13 lo.length n15,.slice (some (zA n110)) (1:Nat) (1:Nat)]) w142=Result.ok (.slice p149 n150 n151) w152 /\ (∃(i153 i154 i155 i156:Int)(s157:ByteArray)(i158:Int),CellsAt w152 (zA n69) [.int .i64 i153,.int .u64 i154,.int .i64 i155,.int .i64 i156,.string s157,.int .i64 i158] /\ Value.agg #[.int .i64 i153,.int .u64 i154,.int .i64 i155,.int .i64 i156,.string s157,.int .i64 i158]=.agg #[.int .i64 i104,.int .u64 i105,.int .i64 i106,.int .i64 i107,.string s108,.int .i64 i109]) /\ ∃(p159:Option Addr)(n160 n161:Nat)(w162:World),Sem.run prog (Builtin.append_ #[26,26] 26 #[.slice p16 ls.length n18,.slice (some (zA n141)) (1:Nat) (1:Nat)]) w152=Result.ok (.slice p159 n160 n161) w162 /\ K p149 n150 n151 p159 n160 n161 w162) /\ ∀(n164:Nat)(w165:World),n164=w97.heap.size->w165=w97.alloc (Obj.cells #[.int .i64 i104,.int .u64 i105,.int .i64 i106,.int .i64 i107,.string s108,.int .i64 i109] 40)->(∃(i166 i167 i168 i169 i170:Int)(s171:ByteArray),CellsAt w165 (zA n38) [.int .i64 i166,.int .i64 i167,.int .i64 i168,.int .i64 i169,.int .u64 i170,.string s171] /\ Value.agg #[.int .i64 i166,.int .i64 i167,.int .i64 i168,.int .i64 i169,.int .u64 i170,.string s171]=.agg #[(.int .i64 i98:Value),.int .i64 i99,.int .i64 i100,.int .i64 i101,.int .u64 i102,.string s103]) /\ ∀(n172:Nat)(w173:World),n172=w165.heap.size->w173=w165.alloc (Obj.cells #[(.int .i64 i98:Value),.int .i64 i99,.int .i64 i100,.int .i64 i101,.int .u64 i102,.string s103] 35)->(∃(i174 i175 i176 i177:Int)(s178:ByteArray)(i179:Int),CellsAt w173 (zA n69) [.int .i64 i174,.int .u64 i175,.int .i64 i176,.int .i64 i177,.string s178,.int .i64 i179] /\ Value.agg #[.int .i64 i174,.int .u64 i175,.int .i64 i176,.int .i64 i177,.string s178,.int .i64 i179]=.agg #[.int .i64 i104,.int .u64 i105,.int .i64 i106,.int .i64 i107,.string s108,.int .i64 i109]) /\ ∃(p180:Option Addr)(n181 n182:Nat)(w183:World),Sem.run prog (Builtin.append_ #[25,25] 25 #[.slice p13 lo.length n15,.slice (some (zA n172)) (1:Nat) (1:Nat)]) w173=Result.ok (.slice p180 n181 n182) w183 /\ (∃(i184 i185 i186 i187:Int)(s188:ByteArray)(i189:Int),CellsAt w183 (zA n69) [.int .i64 i184,.int .u64 i185,.int .i64 i186,.int .i64 i187,.string s188,.int .i64 i189] /\ Value.agg #[.int .i64 i184,.int .u64 i185,.int .i64 i186,.int .i64 i187,.string s188,.int .i64 i189]=.agg #[.int .i64 i104,.int .u64 i105,.int .i64 i106,.int .i64 i107,.string s108,.int .i64 i109]) /\ ∃(p190:Option Addr)(n191 n192:Nat)(w193:World),Sem.run prog (Builtin.append_ #[26,26] 26 #[.slice p16 ls.length n18,.slice (some (zA n164)) (1:Nat) (1:Nat)]) w183=Result.ok (.slice p190 n191 n192) w193 /\ K p180 n181 n182 p190 n191 n192 w193:=by
 refine fun w1 e1=>?_;subst e1;have h1:=Thing.grow h (Ext.drew w);have s1:Step F w F w.drew:=Step.ext (Ext.drew w);generalize w.drew=w1 at h1 s1 ⊢;have rd:∀ {w':World} {F':Nat->Prop} {Z:Thing},(bA n69 a*(blk n38 (opB o)*Z)).P w' F'->CellsAt w' (zA n69) (anL a) /\ CellsAt w' (zA n38) (opL o):=fun {w' F' Z} p=>⟨Q07 (vs:=anL a) (Q09 p rfl),Q07 (vs:=opL o) (Q09 (C:=bA n69 a*Z) p (sw4 _ _ _))⟩;have po:∀ {w':World} {F':Nat->Prop} {Z:Thing} {b:Nat},(blk b (opB o)*(bA n69 a*(blk n38 (opB o)*(dnT (.slice p13 lo.length n15) lo*Z)))).P w' F'->∃p c w2 F2,(Builtin.append_ #[25,25] 25 #[.slice p13 lo.length n15,.slice (some ⟨b,0,none⟩) 1 1]).run prog w'=.ok (.slice p (lo.length+1) c) w2 /\
   (bA n69 a*(blk n38 (opB o)*(dnT (.slice p (lo.length+1) c) (lo++[o])*Z))).P w2 F2 /\ Step F' w' F2 w2:=fun {w' F' Z b} p=>by
  obtain⟨p',c',w2,F2,hrun,h2,s2⟩:=Q3j elemOp Q9j Q9k (v:=.slice p13 lo.length n15) (l:=lo) (a:=⟨b,0,none⟩) (c:=1) (x:=o) (Y:=blk b (opB o)*(bA n69 a*(blk n38 (opB o)*Z))) (re p (by show _=dnT (.slice p13 lo.length n15) lo*_;ac_rfl)) (Q07 (vs:=opL o) (Q09 p rfl)) hl (by omega);obtain⟨F3,h3,sub⟩:=drop_left (A:=blk b (opB o)) (B:=bA n69 a*(blk n38 (opB o)*(dnT (.slice p' (lo.length+1) c') (lo++[o])*Z))) (re h2 (by show dnT (.slice p' (lo.length+1) c') (lo++[o])*_=_;ac_rfl));exact⟨p',c',w2,F3,hrun,h3,s2.sub sub⟩
 have ps:∀ {w':World} {F':Nat->Prop} {Z:Thing} {b:Nat},(bA b a*(bA n69 a*(blk n38 (opB o)*(saT (.slice p16 ls.length n18) ls*Z)))).P w' F'->∃p c w2 F2,(Builtin.append_ #[26,26] 26 #[.slice p16 ls.length n18,.slice (some ⟨b,0,none⟩) 1 1]).run prog w'=.ok (.slice p (ls.length+1) c) w2 /\
   (bA n69 a*(blk n38 (opB o)*(saT (.slice p (ls.length+1) c) (ls++[a])*Z))).P w2 F2 /\ Step F' w' F2 w2:=fun {w' F' Z b} p=>by
  obtain⟨p',c',w2,F2,hrun,h2,s2⟩:=Q3j elemAn Q5W QcZ (v:=.slice p16 ls.length n18) (l:=ls) (a:=⟨b,0,none⟩) (c:=1) (x:=a) (Y:=bA b a*(bA n69 a*(blk n38 (opB o)*Z))) (re p (by show _=saT (.slice p16 ls.length n18) ls*_;ac_rfl)) (Q07 (vs:=anL a) (Q09 p rfl)) hs (by omega);obtain⟨F3,h3,sub⟩:=drop_left (A:=bA b a) (B:=bA n69 a*(blk n38 (opB o)*(saT (.slice p' (ls.length+1) c') (ls++[a])*Z))) (re h2 (by show saT (.slice p' (ls.length+1) c') (ls++[a])*_=_;ac_rfl));exact⟨p',c',w2,F3,hrun,h3,s2.sub sub⟩
 have fin:∀ {p c p' c' w' F'},(bA n69 a*(blk n38 (opB o)*(dnT (.slice p (lo.length+1) c) (lo++[o])*(saT (.slice p' (ls.length+1) c') (ls++[a])*Y)))).P w' F'->Step F w F' w'->K p (lo.length+1) c p' (ls.length+1) c' w':=fun {p c p' c' w' F'} q st=>by
  obtain⟨F2,h2,sub⟩:=drop_left q;obtain⟨F3,h3,sub3⟩:=drop_left h2;exact k p c p' c' w' F3 h3 ((st.sub sub).sub sub3)
 obtain⟨ra,ro⟩:=rd h1;refine⟨_,_,_,_,_,_,ro,_,_,_,_,_,_,ra,?_,?_⟩
 ·refine Q0j h1 fun b2 w2 F2 h2 s2 _=>?_;have h2:(blk b2 (opB o)*(bA n69 a*(blk n38 (opB o)*(dnT (.slice p13 lo.length n15) lo*(saT (.slice p16 ls.length n18) ls*Y))))).P w2 F2:=h2;have r2:=rd (Z:=blk b2 (opB o)*(dnT (.slice p13 lo.length n15) lo*(saT (.slice p16 ls.length n18) ls*Y))) (re h2 (by ac_rfl));refine⟨⟨_,_,_,_,_,_,r2.1,rfl⟩,?_,?_⟩
  ·obtain⟨p,c,w3,F3,hrun,h3,s3⟩:=po h2;refine⟨p,_,c,w3,hrun,⟨_,_,_,_,_,_,(rd h3).1,rfl⟩,Q0j h3 fun b4 w4 F4 h4 s4 _=>?_⟩;have h4:(bA b4 a*(bA n69 a*(blk n38 (opB o)*(dnT (.slice p (lo.length+1) c) (lo++[o])*(saT (.slice p16 ls.length n18) ls*Y))))).P w4 F4:=h4;refine⟨⟨_,_,_,_,_,_,(rd (Z:=bA b4 a*(dnT (.slice p (lo.length+1) c) (lo++[o])*(saT (.slice p16 ls.length n18) ls*Y))) (re h4 (by ac_rfl))).2,rfl⟩,?_⟩;obtain⟨p',c',w5,F5,hrun5,h5,s5⟩:=ps (Z:=dnT (.slice p (lo.length+1) c) (lo++[o])*Y) (re h4 (by ac_rfl));exact⟨p',_,c',w5,hrun5,fin (re h5 (by ac_rfl)) (((((s1.trans s2).trans s3).trans s4).trans s5))⟩
  ·refine Q0j h2 fun b3 w3 F3 h3 s3 _=>?_;have h3:(bA b3 a*(blk b2 (opB o)*(bA n69 a*(blk n38 (opB o)*(dnT (.slice p13 lo.length n15) lo*(saT (.slice p16 ls.length n18) ls*Y)))))).P w3 F3:=h3;refine⟨⟨_,_,_,_,_,_,(rd (Z:=bA b3 a*(blk b2 (opB o)*(dnT (.slice p13 lo.length n15) lo*(saT (.slice p16 ls.length n18) ls*Y)))) (re h3 (by ac_rfl))).2,rfl⟩,?_⟩;obtain⟨p,c,w4,F4,hrun,h4,s4⟩:=po (Z:=bA b3 a*(saT (.slice p16 ls.length n18) ls*Y)) (re h3 (by ac_rfl));refine⟨p,_,c,w4,hrun,⟨_,_,_,_,_,_,(rd h4).1,rfl⟩,?_⟩;obtain⟨p',c',w5,F5,hrun5,h5,s5⟩:=ps (b:=b3) (Z:=dnT (.slice p (lo.length+1) c) (lo++[o])*Y) (re h4 (by ac_rfl));exact⟨p',_,c',w5,hrun5,fin (re h5 (by ac_rfl)) (((((s1.trans s2).trans s3).trans s4).trans s5))⟩
 ·refine Q0j h1 fun b2 w2 F2 h2 s2 _=>?_;have h2:(bA b2 a*(bA n69 a*(blk n38 (opB o)*(dnT (.slice p13 lo.length n15) lo*(saT (.slice p16 ls.length n18) ls*Y))))).P w2 F2:=h2;refine⟨⟨_,_,_,_,_,_,(rd (Z:=bA b2 a*(dnT (.slice p13 lo.length n15) lo*(saT (.slice p16 ls.length n18) ls*Y))) (re h2 (by ac_rfl))).2,rfl⟩,Q0j h2 fun b3 w3 F3 h3 s3 _=>?_⟩;have h3:(blk b3 (opB o)*(bA b2 a*(bA n69 a*(blk n38 (opB o)*(dnT (.slice p13 lo.length n15) lo*(saT (.slice p16 ls.length n18) ls*Y)))))).P w3 F3:=h3;refine⟨⟨_,_,_,_,_,_,(rd (Z:=blk b3 (opB o)*(bA b2 a*(dnT (.slice p13 lo.length n15) lo*(saT (.slice p16 ls.length n18) ls*Y)))) (re h3 (by ac_rfl))).1,rfl⟩,?_⟩;obtain⟨p,c,w4,F4,hrun,h4,s4⟩:=po (b:=b3) (Z:=bA b2 a*(saT (.slice p16 ls.length n18) ls*Y)) (re h3 (by ac_rfl));refine⟨p,_,c,w4,hrun,⟨_,_,_,_,_,_,(rd h4).1,rfl⟩,?_⟩;obtain⟨p',c',w5,F5,hrun5,h5,s5⟩:=ps (b:=b2) (Z:=dnT (.slice p (lo.length+1) c) (lo++[o])*Y) (re h4 (by ac_rfl));exact⟨p',_,c',w5,hrun5,fin (re h5 (by ac_rfl)) (((((s1.trans s2).trans s3).trans s4).trans s5))⟩
end
end
set_option maxRecDepth 20000
section
open Go.RowKit Go.Maps Thing
section
variable{s:Sv}{w:World}{F:Nat->Prop}{X C Y:Thing}{R:VW}
theorem Q8w{b:Nat}{x:Stp}(h:w.heap[b]? = some (skO x)):CellsAt w ((zA b).add 0) (opL x.o):=by
 intro i u hu;rw[Q02,Q02]
 match i,hu with
 | 0,hu=>cases hu;exact Q01 h rfl
 | 1,hu=>cases hu;exact Q01 h rfl
 | 2,hu=>cases hu;exact Q01 h rfl
 | 3,hu=>cases hu;exact Q01 h rfl
 | 4,hu=>cases hu;exact Q01 h rfl
 | 5,hu=>cases hu;exact Q01 h rfl
 | n+6,hu=>cases hu
theorem QbU{p:Option Addr}{n c i:Nat}{l:List Int}{x:Int}(h:ORow w 33 1 u64F (.slice p n c) l)(hi:l[i]? = some x):∃a,p=some a /\ w.cell? (a.add i)=some (.int .u64 x):=by
 obtain⟨a,ha,hc⟩:=ORow.cells Q7E h hi;refine⟨a,ha,?_⟩;have:=hc 0 (.int .u64 x) rfl;rw[Addr.add_add,Nat.mul_one,Nat.add_zero] at this;exact this
def hndK(p8:Option Nat)(n29 n38:Nat)(x41:World->Prop)(w40:World):Prop:=
 ∃i42:Int,w40.cell? ((zA n29).add (6:Nat))=some (.int .i64 i42) /\ ifB (decide (i42>(0:Int))) (∃i43:Int,w40.cell? ((zA n38).add (1:Nat))=some (.int .i64 i43) /\ ∃(p44:Option Addr)(n45 n46:Nat)(w47:World),Sem.run prog (Instr.lookup 105 (.map p8) (.int .i64 i43) false) w40=Result.ok (.slice p44 n45 n46) w47 /\
  WrC w47 ((zA n38).add (4:Nat)) [Value.int .u64 (0:Int)].length /\ ∀(w48:World),w48=wr w47 ((zA n38).add (4:Nat)) [.int .u64 (0:Int)]->∃i49:Int,w48.cell? ((zA n29).add (6:Nat))=some (.int .i64 i49) /\ ifB (decide (i49<=(↑n45:Int))) (∃i50:Int,w48.cell? ((zA n29).add (6:Nat))=some (.int .i64 i50) /\
  (0:Int)<=IntKind.i64.wrap ((↑n45:Int)-i50) /\ IntKind.i64.wrap ((↑n45:Int)-i50)<(↑n45:Int) /\ someA p44 fun a51=>∃i52:Int,w48.cell? (a51.add (IntKind.i64.wrap ((↑n45:Int)-i50)).toNat)=some (.int .u64 i52) /\ WrC w48 ((zA n38).add (4:Nat)) [Value.int .u64 i52].length /\
  ∀(w53:World),w53=wr w48 ((zA n38).add (4:Nat)) [.int .u64 i52]->x41 w53) (x41 w48)) (x41 w40)
theorem Qcp{n:Nat}{o:Op}{h':Int}{K:World->Prop}(h:X.P w F)(e:X=blk n (opB o)*C)(k:∀w1 F',(blk n (opB {o with H:=h'})*C).P w1 F'->Step F w F' w1->K w1) :
  WrC w ((zA n).add 4) 1 /\ ∀w1,w1=wr w ((zA n).add 4) [.int .u64 h']->K w1:=by
 rw[Q02];exact Q0B (b:=n) (o:=0+4) (C:=C) h e (by simp) fun w1 F1 h1 s1=>k w1 F1 h1 s1
theorem Qf2{mp n29 n38 k:Nat}{gv:Int->Value}{g:Int->List Int}{st:Stp}{x41:World->Prop}(ok:GvOk gv g)(hg:GOk g k)(hk:k<=100000)(hst:StpOk st)
  (h:(blk n38 (opB st.o)*(skT n29 st*(gvT mp gv g*Y))).P w F) (r:∀w' F',(blk n38 (opB (hOf g st))*(skT n29 st*(gvT mp gv g*Y))).P w' F'->Step F w F' w'->x41 w'):hndK (some mp) n29 n38 x41 w:=by
 unfold hndK;have rB:∀ {w':World} {F':Nat->Prop} {o:Op},(blk n38 (opB o)*(skT n29 st*(gvT mp gv g*Y))).P w' F'->w'.cell? ((zA n29).add 6)=some (.int .i64 st.B):=fun {w' F' o} p=>by
  rw[Q02];exact Q01 (Q09 (b:=n29) (o:=skO st) (C:=blk n38 (opB o)*(gvT mp gv g*Y)) p (sw4 _ _ _)) rfl
 unfold hOf at r;refine⟨_,rB h,Q05 (fun q=>?_) (fun q=>?_)⟩
 case refine_2=>
  have q:=of_decide_eq_false q;rw[if_neg q] at r;exact r w F h (Step.refl _ _)
 have q:=zzodt q;rw[if_pos q] at r;have hb:=Q09 h rfl;have eg:blk n38 (opB st.o)*(skT n29 st*(gvT mp gv g*Y))=gvT mp gv g*(blk n38 (opB st.o)*(skT n29 st*Y)):=by ac_rfl
 obtain⟨p,c,hsh⟩:=Q6T ok hg h eg st.o.T;refine⟨_,by rw[Q02];exact Q01 hb rfl,p,_,c,w,(Q6a ok h eg hst.t).trans (by rw[hsh]),Qcp (h':=0) h rfl fun w2 F2 h2 s2=>?_⟩;have hl:=hg.len st.o.T;refine⟨_,rB h2,Q05 (fun q2=>?_) (fun q2=>?_)⟩
 ·have q2:=zzodt q2;rw[if_pos q2] at r;have hT:0<=st.o.T /\ st.o.T<8:=Classical.byContradiction fun z=>by
   have:=hg.out st.o.T z;rw[this] at q2;have q2:st.B<=0:=q2;omega
  have e1:(((⟨st.o.T.toNat,by omega⟩:Fin 8).val:Nat):Int)=st.o.T:=by show((st.o.T.toNat:Nat):Int)=_;omega
  have hrow:=Qf0 (mp:=mp) (gv:=gv) (g:=g) (C:=blk n38 (opB {st.o with H:=0})*(skT n29 st*Y)) (⟨st.o.T.toNat,by omega⟩:Fin 8) h2 (by ac_rfl);rw[e1,hsh] at hrow;obtain⟨m,hm⟩:=zzeoz (show 0<=st.B by omega);rw[hm] at q q2;have ew:IntKind.i64.wrap (((g st.o.T).length:Int)-(m:Int))=(((g st.o.T).length-m:Nat):Int):=by rw[Q04 (by omega) (by omega)];omega
  have hi:(g st.o.T).length-m<(g st.o.T).length:=by omega
  obtain⟨a,rfl,ha⟩:=QbU hrow (i:=(g st.o.T).length-m) (x:=(g st.o.T).getD ((g st.o.T).length-m) 0) (by rw[List.getD_eq_getElem?_getD,zzgge hi];rfl);rw[hm,zztnc] at r;refine⟨(m:Int),(rB h2).trans (by rw[hm]),by rw[ew];omega,by rw[ew];omega,?_⟩;rw[ew,zztnc];exact⟨_,ha,Qcp (h':=(g st.o.T).getD ((g st.o.T).length-m) 0) h2 rfl fun w3 F3 h3 s3=>r w3 F3 h3 (s2.trans s3)⟩
 ·have q2:=of_decide_eq_false q2;rw[if_neg q2] at r;exact r w2 F2 h2 s2
def givK(p8:Option Nat)(n38 n69:Nat)(x72:World->Prop)(w71:World):Prop:=
 ∃i73:Int,w71.cell? ((zA n69).add (1:Nat))=some (.int .u64 i73) /\ ifB (i73 != (0:Int)) (∀(w74:World),w74=w71.drew->∃i75:Int,w74.cell? ((zA n38).add (1:Nat))=some (.int .i64 i75) /\ ∃i76:Int,w74.cell? ((zA n38).add (1:Nat))=some (.int .i64 i76) /\ ∃(p77:Option Addr)(n78 n79:Nat)(w80:World),Sem.run prog (Instr.lookup 105 (.map p8) (.int .i64 i76) false) w74=Result.ok (.slice p77 n78 n79) w80 /\ w80=w74 /\
  ∃i81:Int,w74.cell? ((zA n69).add (1:Nat))=some (.int .u64 i81) /\ ∀(n82:Nat)(w83:World),n82=w74.heap.size->w83=w74.alloc (Obj.cells #[.int .u64 i81] 33)->(∃(p84:Option Addr)(n85 n86:Nat)(w87:World),Sem.run prog (Instr.lookup 105 (.map p8) (.int .i64 i76) false) w83=Result.ok (.slice p84 n85 n86) w87 /\ w87=w83 /\ Value.slice p84 n85 n86=.slice p77 n78 n79) /\
  (∃i88:Int,w83.cell? ((zA n38).add (1:Nat))=some (.int .i64 i88) /\ Value.int .i64 i88=.int .i64 i76) /\ (∃i89:Int,w83.cell? ((zA n38).add (1:Nat))=some (.int .i64 i89) /\ Value.int .i64 i89=.int .i64 i75) /\ ∃(p90:Option Addr)(n91 n92:Nat)(w93:World),Sem.run prog (Builtin.append_ #[55,55] 55 #[.slice p77 n78 n79,.slice (some (zA n82)) (1:Nat) (1:Nat)]) w83=Result.ok (.slice p90 n91 n92) w93 /\
  (∃i94:Int,w93.cell? ((zA n38).add (1:Nat))=some (.int .i64 i94) /\ Value.int .i64 i94=.int .i64 i75) /\ ∃w95:World,Sem.run prog (Instr.mapUpdate 105 (.map p8) (.int .i64 i75) (.slice p90 n91 n92)) w93=Result.ok () w95 /\ x72 w95) (x72 w71)
theorem QeX{mp n38 n69 k:Nat}{gv:Int->Value}{g:Int->List Int}{o:Op}{a:An}{x72:World->Prop}(ok:GvOk gv g)(hg:GOk g k)(hk:k<=100000)(hT:a.Hd ≠ 0->0<=o.T /\ o.T<8)
  (h:(bA n69 a*(blk n38 (opB o)*(gvT mp gv g*Y))).P w F) (r:∀gv' w' F',GvOk gv' (gAd g o.T a.Hd)->(bA n69 a*(blk n38 (opB o)*(gvT mp gv' (gAd g o.T a.Hd)*Y))).P w' F'->Step F w F' w'->x72 w'):givK (some mp) n38 n69 x72 w:=by
 unfold givK;have rT:∀ {w':World} {F':Nat->Prop} {Z:Thing},(bA n69 a*(blk n38 (opB o)*Z)).P w' F'->w'.cell? ((zA n38).add 1)=some (.int .i64 o.T):=fun {w' F' Z} p=>by
  rw[Q02];exact Q01 (Q09 (b:=n38) (o:=opB o) (C:=bA n69 a*Z) p (sw4 _ _ _)) rfl
 have rH:∀ {w':World} {F':Nat->Prop} {Z:Thing},(bA n69 a*Z).P w' F'->w'.cell? ((zA n69).add 1)=some (.int .u64 a.Hd):=fun {w' F' Z} p=>by
  rw[Q02];exact Q01 (Q09 p rfl) rfl
 refine⟨_,rH h,Q05 (fun q=>?_) (fun q=>?_)⟩
 case refine_2=>
  have q:a.Hd=0:=by simpa using q
  have eg:gAd g o.T a.Hd=g:=by unfold gAd;rw[if_neg (not_not_intro q)]
  rw[eg] at r;exact r gv w F ok h (Step.refl _ _)
 have q:a.Hd ≠ 0:=by simpa using q
 have ht:=hT q;refine fun w1 e1=>?_;subst e1;have hE1:=Ext.drew w;have h1:=Thing.grow h hE1;have s1:Step F w F w.drew:=Step.ext hE1;generalize w.drew=w1 at h1 s1 ⊢;have eg:bA n69 a*(blk n38 (opB o)*(gvT mp gv g*Y))=gvT mp gv g*(bA n69 a*(blk n38 (opB o)*Y)):=by ac_rfl
 obtain⟨p,c,hsh⟩:=Q6T ok hg h1 eg o.T;have hT64:I64w o.T:=i64w (by omega) (by omega);refine⟨_,rT h1,_,rT h1,p,_,c,w1,(Q6a ok h1 eg hT64).trans (by rw[hsh]),rfl,_,rH h1,Q0j h1 fun b w2 F2 h2 s2 _=>?_⟩;have eg2:∀ {Z:Thing},Z*(bA n69 a*(blk n38 (opB o)*(gvT mp gv g*Y)))=gvT mp gv g*(Z*(bA n69 a*(blk n38 (opB o)*Y))):=by intro Z;ac_rfl
 have ew:∀ {Z:Thing},Z*(bA n69 a*(blk n38 (opB o)*(gvT mp gv g*Y)))=bA n69 a*(blk n38 (opB o)*(Z*(gvT mp gv g*Y))):=by intro Z;ac_rfl
 refine⟨⟨p,_,c,w2,(Q6a ok h2 eg2 hT64).trans (by rw[hsh]),rfl,rfl⟩,⟨_,rT (re h2 ew),rfl⟩,⟨_,rT (re h2 ew),rfl⟩,?_⟩;obtain⟨p',c',w3,F3,Z3,hrun,h3,s3,w4,F4,gv',r4,ok4,h4,s4⟩:=Qdg ok hg hk h2 eg2 ht (a:=⟨b,0,none⟩) (hh:=a.Hd) (Q01 (Q09 h2 rfl) rfl) q;rw[hsh] at hrun;refine⟨p',_,c',w3,hrun,⟨_,rT (Z:=Z3*(blk b (.cells #[.int .u64 a.Hd] 33 (0,0))*Y)) (re h3 (by ac_rfl)),rfl⟩,w4,r4,?_⟩;obtain⟨F5,h5,sub⟩:=drop_left (A:=blk b (.cells #[.int .u64 a.Hd] 33 (0,0))) (B:=bA n69 a*(blk n38 (opB o)*(gvT mp gv' (gAd g o.T a.Hd)*Y))) (re h4 (by ac_rfl));exact r gv' w4 F5 ok4 h5 (((s1.trans s2).trans s4).sub sub)
end
end
set_option maxRecDepth 20000
section
open Go.RowKit Go.Maps Thing
section
variable{s:Sv}{w:World}{F:Nat->Prop}{X C Y:Thing}{R:VW}
theorem Q9J{L:List Stp}{j:Nat}{st:Stp}(h:L[j]? = some st):runL s (L.take (j+1))=runS s (runL s (L.take j)) st:=by
 rw[List.take_add_one,h];exact Q9I _ _
theorem Qfm{X:Type}{e:TypeId}{k:Nat}{f:X->List Value}:rwT e k f (.slice none 0 0) []=emp:=by
 ext w F;constructor
 ·rintro⟨_,rfl⟩;show _=_;funext j;simp[Value.ownBlock]
 ·intro hF;have hF:F=fun _=>False:=hF;subst hF;exact⟨ORow.nil _ _,funext fun j=>by simp[Value.ownBlock]⟩
theorem Qfo{o:Obj}(h:(tabT o*C).P w F)(P0 C0:Int)(r0:¬Cl.CfgOk P0 C0->∀w',(tabT o*C).P w' F->Ext w w'->R (.tuple #[.pointer none,.int .i64 12]) w')
  (r1:∀s sb y w' F',Cl.CfgOk P0 C0->s.o=o->SvOk s P0 C0->(svX s sb y ⟨A0 s,[],[]⟩*C).P w' F'->Step F w F' w'->R (.tuple #[zP sb,.int .i64 0]) w') :
  CS 10 #[.agg #[.int .i64 P0,.int .i64 C0]] w R:=by
 have h':=h;obtain⟨F1,F2,ht,hc,d,rfl⟩:=h;refine Qfn ht P0 C0 (fun hno w' hE=>r0 hno w' (Thing.grow h' hE) hE) fun s sb y w' F' hok ho hs p st=>?_;obtain⟨q,st2⟩:=Q0C hc d p st;exact r1 s sb y w' _ hok ho hs q st2
theorem QfE{o:Obj}(P0 C0:Int){p:Option Addr}{c:Nat}{L:List Stp}(hL:L.length<=4000)(hok:∀x ∈ L,StpOk x)(h:(tabT o*(stpsT (.slice p L.length c) L*C)).P w F)
  (r0:¬Cl.CfgOk P0 C0->∀w',(tabT o*(stpsT (.slice p L.length c) L*C)).P w' F->Ext w w'->R (.tuple #[.pointer none,.slice none 0 0,.slice none 0 0,.int .i64 12]) w')
  (r1:∀s sb y po co ps cs w' F',Cl.CfgOk P0 C0->s.o=o->SvOk s P0 C0->(svX s sb y (runL s L).x*(dnT (.slice po (runL s L).ops.length co) (runL s L).ops*(saT (.slice ps (runL s L).said.length cs) (runL s L).said*(stpsT (.slice p L.length c) L*C)))).P w' F'->Step F w F' w' →
   R (.tuple #[zP sb,.slice po (runL s L).ops.length co,.slice ps (runL s L).said.length cs,.int .i64 0]) w') :
  CS 27 #[.agg #[.int .i64 P0,.int .i64 C0],.slice p L.length c] w R:=by
 constructor;refine vc71.ok ?_;unfold vc71;refine Q08 fun n0 w1 hb1 hE1 _ _=>⟨_,_,Q07 (vs:=[.int .i64 P0,.int .i64 C0]) hb1,?_⟩;refine Qfo (Thing.grow h hE1) P0 C0 (fun hno w2 p2 hE2=>⟨_,_,rfl,Q03 rfl (r0 hno w2 p2 (hE1.trans hE2))⟩) fun s sb y w2 F2 hcfg ho hs h2 st2=>⟨_,_,rfl,Q00 rfl ?_⟩;have s2:Step F w F2 w2:=(Step.ext hE1).trans st2;refine⟨some w2.heap.size,w2.alloc (.map #[] 0),run_makeMap _ w2,?_⟩;obtain⟨h3,s3⟩:=Q4w (K:=3) h2;generalize w2.heap.size=mp at h3 s3 ⊢;generalize w2.alloc (.map #[] 0)=w3 at h3 s3 ⊢
 let D:Thing:=stpsT (.slice p L.length c) L*C
 have inv:∀j,j<=L.length->RnInv s (runL s (L.take j)) j:=fun j hj=>by
  have:=Q6l hs (l:=L.take j) fun x hx=>hok x (List.mem_of_mem_take hx)
  rwa [zzlnt,Nat.min_eq_left hj] at this
 have hfam:fam (gvF (fun _=>.slice none 0 0) (fun _=>[]))=emp:=by
  have e:gvF (fun _=>.slice none 0 0) (fun _=>[])=fun _=>(emp:Thing):=funext fun i=>Qfm;rw[e];exact Q31
 have hgv:gvT mp (fun _=>.slice none 0 0) (R0 s).g=mpT 3 mp (fun _=>none):=by
  unfold gvT;have:gvM (fun _=>Value.slice none 0 0) (R0 s).g=fun _=>none:=funext fun k=>rfl;rw[this];show _*fam (gvF (fun _=>.slice none 0 0) (fun _=>[]))=_;rw[hfam,Q0b]
 have h4:(svX s sb y (R0 s).x*(gvT mp (fun _=>.slice none 0 0) (R0 s).g*(dnT (.slice none 0 0) []*(saT (.slice none 0 0) []*D)))).P w3 _:=re (Q3i (Q3i h3)) (by
  rw[hgv];show mpT 3 mp (fun _=>none)*(svX s sb y (R0 s).x*D)*saT (.slice none 0 0) []*dnT (.slice none 0 0) []=_;ac_rfl)
 have e0:runL s (L.take 0)=R0 s:=rfl;refine⟨fun f p13 n14 c15 p16 n17 c18 i w'=>∃j:Nat,i=(j:Int) /\ f+j=L.length /\ n14=(runL s (L.take j)).ops.length /\ n17=(runL s (L.take j)).said.length /\ ∃y gv F',GvOk gv (runL s (L.take j)).g /\
  (svX s sb y (runL s (L.take j)).x*(gvT mp gv (runL s (L.take j)).g*(dnT (.slice p13 (runL s (L.take j)).ops.length c15) (runL s (L.take j)).ops*(saT (.slice p16 (runL s (L.take j)).said.length c18) (runL s (L.take j)).said*D)))).P w' F' /\ Step F w F' w',
  ⟨L.length,0,rfl,rfl,rfl,rfl,y,fun _=>.slice none 0 0,_,fun _ _=>rfl,h4,s2.trans s3⟩,?_⟩
 rintro f jv p13 n14 c15 p16 n17 c18 i w4 ⟨j,rfl,hf,rfl,rfl,y,gv,F4,ok,h4,s4⟩;refine Q05 (fun q=>?pos) (fun q=>?neg)
 case neg=>
  have q:=of_decide_eq_false q;have ej:L.take j=L:=List.take_of_length_le (by omega);rw[ej] at h4 ⊢;obtain⟨F5,h5,sub⟩:=drop_left (A:=gvT mp gv (runL s L).g) (B:=svX s sb y (runL s L).x*(dnT (.slice p13 (runL s L).ops.length c15) (runL s L).ops*(saT (.slice p16 (runL s L).said.length c18) (runL s L).said*D))) (re h4 (by ac_rfl));exact r1 s sb y p13 c15 p16 c18 w4 F5 hcfg ho hs h5 (s4.sub sub)
 have q:=zzodt q;have hj:j<L.length:=by omega
 obtain⟨st,hst⟩:∃st,L[j]? = some st:=⟨_,zzgge hj⟩;have hstk:=hok st (zzmog hst);have iv:=inv j (by omega);have hnext:=Q9J (s:=s) hst;generalize hn:runL s (L.take j)=n at h4 ok iv hnext;have hrow:=Q5C (e:=62) (k:=7) (f:=spL) (v:=.slice p L.length c) (l:=L) (Y:=svX s sb y n.x*(gvT mp gv n.g*(dnT (.slice p13 n.ops.length c15) n.ops*(saT (.slice p16 n.said.length c18) n.said*C)))) h4 (by show _=stpsT (.slice p L.length c) L*_;show svX s sb y n.x*(gvT mp gv n.g*(dnT _ n.ops*(saT _ n.said*(stpsT (.slice p L.length c) L*C))))=_;ac_rfl);obtain⟨a21,hp,hcells⟩:=ORow.cells Q4I hrow hst;refine⟨by omega,by omega,?_⟩;subst hp;rw[zztnc]
 let Z:Thing:=svX s sb y n.x*(dnT (.slice p13 n.ops.length c15) n.ops*(saT (.slice p16 n.said.length c18) n.said*D))
 have eZ:svX s sb y n.x*(gvT mp gv n.g*(dnT (.slice p13 n.ops.length c15) n.ops*(saT (.slice p16 n.said.length c18) n.said*D)))=gvT mp gv n.g*Z:=sw4 _ _ _;rw[eZ] at h4;refine⟨_,_,_,_,_,_,_,hcells,Q0j h4 fun n29 w5 F5 h5 s5 _=>?_⟩;refine Q0B (b:=n29) (o:=0) (arr:=(spL zS).toArray) (T:=62) (C:=gvT mp gv n.g*Z) h5 rfl (by simp) fun w6 F6 h6 s6=>?_;rw[setAt7 _ rfl] at h6;have h6:(skT n29 st*(gvT mp gv n.g*Z)).P w6 F6:=h6;refine⟨_,_,_,_,_,_,Q8w (x:=st) (Q09 h6 rfl),Q0j h6 fun n38 w7 F7 h7 s7 _=>?_⟩;refine Q0B (b:=n38) (o:=0) (arr:=(opL zO).toArray) (T:=35) (C:=skT n29 st*(gvT mp gv n.g*Z)) h7 rfl (by simp) fun w8 F8 h8 s8=>?_;rw[setAt6 _ rfl] at h8;have h8:(blk n38 (opB st.o)*(skT n29 st*(gvT mp gv n.g*Z))).P w8 F8:=h8;have s8':=((((s4.trans s5).trans s6).trans s7).trans s8);refine⟨fun w'=>∃F',(blk n38 (opB (hOf n.g st))*(skT n29 st*(gvT mp gv n.g*Z))).P w' F' /\ Step F w F' w',Qf2 ok iv.g (by omega) hstk h8 fun w' F' p2 st2=>⟨F',p2,s8'.trans st2⟩,?_⟩;rintro _ w9 ⟨F9,h9,s9⟩;have hoT:=Qf1 n.g st;have hou:=Q8T iv.g hstk;have hdu:=Qc2 iv.ad hou;have iv2:=Q4G iv hstk;unfold runS at hnext iv2;generalize hOf n.g st=o1 at h9 hoT hou hdu hnext iv2;refine⟨_,_,_,_,_,_,Q07 (vs:=opL o1) (Q09 h9 rfl),?_⟩
 refine Q52 (o:=o1) (C:=blk n38 (opB o1)*(skT n29 st*(gvT mp gv n.g*(dnT (.slice p13 n.ops.length c15) n.ops*(saT (.slice p16 n.said.length c18) n.said*D))))) iv.ad hou (by have:=iv.dn;omega) h9 (by show blk n38 (opB o1)*(skT n29 st*(gvT mp gv n.g*(svX s sb y n.x*(dnT (.slice p13 n.ops.length c15) n.ops*(saT (.slice p16 n.said.length c18) n.said*D)))))=_;ac_rfl) fun n69 y10 w10 F10 h10 s10=>?_;generalize doM s n.x o1=d at h10 hnext hdu iv2
 let Y2:Thing:=skT n29 st*(svX s sb y10 d.x*(dnT (.slice p13 n.ops.length c15) n.ops*(saT (.slice p16 n.said.length c18) n.said*D)))
 have h10:(bA n69 d.a*(blk n38 (opB o1)*(gvT mp gv n.g*Y2))).P w10 F10:=re h10 (by
  show bA n69 d.a*(svX s sb y10 d.x*(blk n38 (opB o1)*(skT n29 st*(gvT mp gv n.g*(dnT (.slice p13 n.ops.length c15) n.ops*(saT (.slice p16 n.said.length c18) n.said*D))))))=bA n69 d.a*(blk n38 (opB o1)*(gvT mp gv n.g*(skT n29 st*(svX s sb y10 d.x*(dnT (.slice p13 n.ops.length c15) n.ops*(saT (.slice p16 n.said.length c18) n.said*D))))));ac_rfl)
 refine⟨fun w'=>∃gv' F',GvOk gv' (gAd n.g o1.T d.a.Hd) /\ (bA n69 d.a*(blk n38 (opB o1)*(gvT mp gv' (gAd n.g o1.T d.a.Hd)*Y2))).P w' F' /\ Step F w F' w',QeX ok iv.g (by omega) hdu.2 h10 fun gv' w' F' ok' p2 st2=>⟨gv',F',ok',p2,(s9.trans s10).trans st2⟩,?_⟩;rintro _ w11 ⟨gv',F11,ok',h11,s11⟩;have hol:=iv.ol;have hsl:=iv.sl;refine QbS (lo:=n.ops) (ls:=n.said) (o:=o1) (a:=d.a) (Y:=skT n29 st*(svX s sb y10 d.x*(gvT mp gv' (gAd n.g o1.T d.a.Hd)*D)))
  (K:=fun p118 n119 n120 p136 n137 n138 w139=>∃(n140:Nat),n140<f /\ ∃j':Nat,IntKind.i64.wrap ((j:Int)+1)=(j':Int) /\ n140+j'=L.length /\ n119=(runL s (L.take j')).ops.length /\ n137=(runL s (L.take j')).said.length /\ ∃y gv F',GvOk gv (runL s (L.take j')).g /\
  (svX s sb y (runL s (L.take j')).x*(gvT mp gv (runL s (L.take j')).g*(dnT (.slice p118 (runL s (L.take j')).ops.length n120) (runL s (L.take j')).ops*(saT (.slice p136 (runL s (L.take j')).said.length n138) (runL s (L.take j')).said*D)))).P w139 F' /\ Step F w F' w139)
  (re h11 (by
   show bA n69 d.a*(blk n38 (opB o1)*(gvT mp gv' (gAd n.g o1.T d.a.Hd)*(skT n29 st*(svX s sb y10 d.x*(dnT (.slice p13 n.ops.length c15) n.ops*(saT (.slice p16 n.said.length c18) n.said*D))))))=_;ac_rfl)) (by omega) (by omega) fun p1 c1 p2 c2 w12 F12 h12 s12=>?_
 obtain⟨F13,h13,sub⟩:=drop_left (A:=skT n29 st) (B:=svX s sb y10 d.x*(gvT mp gv' (gAd n.g o1.T d.a.Hd)*(dnT (.slice p1 (n.ops.length+1) c1) (n.ops++[o1])*(saT (.slice p2 (n.said.length+1) c2) (n.said++[d.a])*D)))) (re h12 (by ac_rfl));rw[hoT] at h13 ok';refine⟨f-1,by omega,j+1,by rw[Q04 (by omega) (by omega)];omega,by omega,?_,?_,y10,gv',F13,?_,?_,(s11.trans s12).sub sub⟩
 ·rw[hnext];show n.ops.length+1=(n.ops++[o1]).length;rw[zzlna];rfl
 ·rw[hnext];show n.said.length+1=(n.said++[d.a]).length;rw[zzlna];rfl
 ·rw[hnext];exact ok'
 ·rw[hnext];have e1:(n.ops++[o1]).length=n.ops.length+1:=zzlna ..;have e2:(n.said++[d.a]).length=n.said.length+1:=zzlna ..;show(svX s sb y10 d.x*(gvT mp gv' (gAd n.g st.o.T d.a.Hd)*(dnT (.slice p1 (n.ops++[o1]).length c1) (n.ops++[o1])*(saT (.slice p2 (n.said++[d.a]).length c2) (n.said++[d.a])*D)))).P w12 F13;rw[e1,e2];exact h13
end
end
set_option maxRecDepth 20000
section
open Go.RowKit Go.Maps Thing
section
variable{w:World}{F:Nat->Prop}{X C Y:Thing}{R:VW}
theorem Qfy{s:Sv}{sb:Nat}{y:Sy}{x:Se}{P0 C0:Int}(hs:SvOk s P0 C0)(hts:x.a.A.ts.length<400000000000)(hb:x.a.A.bs.length=s.n):Tri 29 #[.agg #[.int .i64 P0,.int .i64 C0],zP sb] (svX s sb y x)
  (fun v=>only (v=.string (strOf x.a.A.bs)) (svX s sb y {x with a:=aTs x.a (noteA x.a.A.ts 0 s.n false)})):=by
 intro w F R h r;constructor;refine vc94.ok ?_;unfold vc94;refine Q08 fun n0 w1 hb1 hE1 _ _=>⟨_,by rw[Q02];exact Q01 hb1 rfl,?_⟩;have h1:=Thing.grow h hE1;have hp:=hs.p;have hp4:=hs.p4;have hn:=hs.n;have e:IntKind.i64.wrap (P0*512)=((s.n:Nat):Int):=by rw[Q04 (by omega) (by omega)];omega
 rw[e];have h2:(svX s sb y x*emp).P w1 F:=by rw[Q0b];exact h1
 refine(QdV (s:=s) (sb:=sb) (y:=y) (x:=x) (at_:=0) (n:=s.n) hts (by omega)).use h2 rfl fun v w3 F3 p3 st3=>?_;rw[Q06,Q0b] at p3;obtain⟨rfl,p3⟩:=p3;have es:seg x.a.A.bs 0 s.n=x.a.A.bs:=by
  unfold seg;rw[List.drop_zero];exact List.take_of_length_le (by omega)
 rw[es] at *
 exact⟨_,_,rfl,r _ w3 F3 ⟨rfl,p3⟩ ((Step.ext hE1).trans st3)⟩
end
end
section
open Go.RowKit Go.Maps Thing
def byI(n:Int):UInt8:=UInt8.ofNat (n % 256).toNat
theorem Q1q(n:Int):(byI n).toNat=(n % 256).toNat:=by
 unfold byI;rw[UInt8.toNat_ofNat'];exact Nat.mod_eq_of_lt (by omega)
def numW(n:Int):List UInt8:=[byI n,byI (n / 256)]
def hndW(x:Stp):List UInt8:=if x.o.H=0 then [byI x.B] else 255 :: (List.range 8).map fun i=>byI (x.o.H / 256 ^ i)
def argW(o:Op):List UInt8:=
 if o.K=1 \/ o.K=2 \/ o.K=5 \/ o.K=9 then numW o.N++numW o.M
 else if o.K=4 \/ o.K=7 \/ o.K=11 then numW o.N
 else if o.K=10 then numW o.N++(byI (o.D.size:Int) :: bytesOf o.D)
 else []
def stpW(x:Stp):List UInt8:=byI x.o.K :: byI x.o.T :: ((if 6<=x.o.K /\ x.o.K<=11 then hndW x else [])++argW x.o)
def numB?(n:Int):Bool:=decide (n < -32768) || decide (n>32767)
def hndB(x:Stp):Bool:=decide (x.B<0) || (decide (x.B>=255) || (decide (x.B>0) && decide (x.o.H ≠ 0)))
def argL(x:Stp):Stp:=
 if x.o.K=1 \/ x.o.K=2 \/ x.o.K=5 \/ x.o.K=9 then⟨{x.o with N:=0,M:=0},x.B⟩
 else if x.o.K=4 \/ x.o.K=7 \/ x.o.K=11 then⟨{x.o with N:=0},x.B⟩
 else if x.o.K=10 then⟨{x.o with N:=0,D:=ByteArray.mk #[]},x.B⟩
 else x
def argB(o:Op):Bool:=
 if o.K=1 \/ o.K=2 \/ o.K=5 \/ o.K=9 then numB? o.N || numB? o.M
 else if o.K=4 \/ o.K=7 \/ o.K=11 then numB? o.N
 else if o.K=10 then numB? o.N || decide ((o.D.size:Int)>255)
 else false
def hndL(x:Stp):Stp:=if 6<=x.o.K /\ x.o.K<=11 then⟨{x.o with H:=0},0⟩else x
def endL(x:Stp):Stp:=⟨{x.o with K:=0,T:=0},x.B⟩
def headB(o:Op):Bool:=decide (o.K<0) || (decide (o.K>=16) || (decide (o.T<0) || decide (o.T>255)))
def stpB(x:Stp):Bool:=headB x.o || ((decide (6<=x.o.K /\ x.o.K<=11) && hndB x) || (argB x.o || !(opQ (endL (argL (hndL x))).o zO && ((endL (argL (hndL x))).B == 0 && true))))
theorem Q46(a r:List UInt8)(sh:Bool):bytL ⟨a++r,sh⟩ a.length=a /\ bytT ⟨a++r,sh⟩ a.length=⟨r,sh⟩:=by
 unfold bytL bytT;have h:¬a.length>(a++r).length:=by rw[zzlna];omega
 rw[if_neg h,if_neg h];exact⟨List.take_left,by rw[List.drop_left]⟩
theorem Q3d(b:UInt8)(r:List UInt8)(sh:Bool):oneI ⟨b :: r,sh⟩=(b.toNat:Int) /\ bytT ⟨b :: r,sh⟩ 1=⟨r,sh⟩:=by
 have h:=Q46 [b] r sh;have h1:bytL ⟨b :: r,sh⟩ 1=[b]:=h.1;unfold oneI;rw[h1];exact⟨rfl,h.2⟩
theorem Q4z{n:Int}(h:numB? n=false)(r:List UInt8)(sh:Bool):numI ⟨numW n++r,sh⟩=n /\ bytT ⟨numW n++r,sh⟩ 2=⟨r,sh⟩:=by
 have h1:=Q46 (numW n) r sh;have h2:bytL ⟨numW n++r,sh⟩ 2=numW n:=h1.1;refine⟨?_,h1.2⟩;unfold numI;rw[h2];have e0:(numW n).getD 0 0=byI n:=rfl;have e1:(numW n).getD 1 0=byI (n / 256):=rfl;rw[e0,e1,Q1q,Q1q];simp only[numB?,Bool.or_eq_false_iff,decide_eq_false_iff_not] at h;split <;> omega
theorem Q77(H:Nat):∀k,numB ((List.range k).map fun i=>byI ((H:Int) / 256 ^ i))=H % 256 ^ k
 | 0=>by simp[numB,Nat.mod_one]
 | k+1=>by
  rw[List.range_succ,List.map_append,List.map_cons,List.map_nil,Q3b,Q77 H k,Q1q];have e:((H:Int) / 256 ^ k % 256).toNat=H / 256 ^ k % 256:=by
   have:(H:Int) / 256 ^ k % 256=((H / 256 ^ k % 256:Nat):Int):=by
    rw[Int.natCast_emod,Int.natCast_ediv,Int.natCast_pow];rfl
   rw[this,zztnc]
  rw[e,List.length_map,List.length_range,Nat.pow_succ,Nat.mod_mul,Nat.mul_comm (256 ^ k)]
theorem Qdl{x y:Stp}(hy:y.o.H=0)(h:hndB x=false)(hu:Hd.U64 x.o.H)(r:List UInt8)(sh:Bool) :
  hndS ⟨hndW x++r,sh⟩ y=⟨{y.o with H:=x.o.H},x.B⟩ /\ hndT ⟨hndW x++r,sh⟩=⟨r,sh⟩:=by
 simp only[hndB,Bool.or_eq_false_iff,decide_eq_false_iff_not,Bool.and_eq_false_iff] at h;obtain⟨h0,h1,h2⟩:=h;unfold hndW hndS hndT;by_cases q:x.o.H=0
 ·rw[if_pos q];have ho:=Q3d (byI x.B) r sh;rw[show [byI x.B]++r=byI x.B :: r from rfl,ho.1,ho.2];have eb:((byI x.B).toNat:Int)=x.B:=by rw[Q1q];omega
  rw[eb,if_pos (by omega),if_pos (by omega),q];obtain⟨⟨K,T,N,M,H,D⟩,B⟩:=y;have hy:H=0:=hy;subst hy;exact⟨rfl,rfl⟩
 ·rw[if_neg q];have eB:x.B=0:=by rcases h2 with h2 | h2 <;> omega
  have ho:=Q3d 255 ((List.range 8).map (fun i=>byI (x.o.H / 256 ^ i))++r) sh;rw[List.cons_append,ho.1,ho.2];have e5:¬(((255:UInt8).toNat:Nat):Int)<255:=by decide
  rw[if_neg e5,if_neg e5];have hb:=Q46 ((List.range 8).map (fun i=>byI (x.o.H / 256 ^ i))) r sh;rw[List.length_map,List.length_range] at hb;rw[hb.1,hb.2];obtain⟨H,hH⟩:=zzeoz hu.1;have hlt:=hu.2;rw[hH] at hlt ⊢;have e8:(256:Nat) ^ 8=18446744073709551616:=by decide
  rw[Q77 H 8,Nat.mod_eq_of_lt (by omega),eB];exact⟨rfl,rfl⟩
theorem Qe2{x:Stp}(h:stpB x=false)(hu:Hd.U64 x.o.H)(r:List UInt8):stpN ⟨stpW x++r,false⟩=some x /\ stpR ⟨stpW x++r,false⟩=⟨r,false⟩:=by
 obtain⟨⟨K,T,N,M,H,D⟩,B⟩:=x;simp only[stpB,headB,Bool.or_eq_false_iff,decide_eq_false_iff_not,Bool.not_eq_false',decide_eq_true_eq,Bool.and_eq_false_iff] at h;obtain⟨⟨k0,k1,t0,t1⟩,hh,ha,he⟩:=h;have he:endL (argL (hndL ⟨⟨K,T,N,M,H,D⟩,B⟩))=zS:=by
  rw[Bool.and_eq_true] at he;have h1:=(op_eq _ _).1 he.1;have h2:(endL (argL (hndL ⟨⟨K,T,N,M,H,D⟩,B⟩))).B=0:=by simpa using he.2
  generalize endL (argL (hndL ⟨⟨K,T,N,M,H,D⟩,B⟩))=z at h1 h2;obtain⟨zo,zb⟩:=z;have h1:zo=zO:=h1;have h2:zb=0:=h2;rw[h1,h2];rfl
 have ho:=Q3d (byI K) (byI T :: ((if 6<=K /\ K<=11 then hndW ⟨⟨K,T,N,M,H,D⟩,B⟩else [])++argW ⟨K,T,N,M,H,D⟩)++r) false;have ho2:=Q3d (byI T) ((if 6<=K /\ K<=11 then hndW ⟨⟨K,T,N,M,H,D⟩,B⟩else [])++argW ⟨K,T,N,M,H,D⟩++r) false;have eK:((byI K).toNat:Int)=K:=by rw[Q1q];omega
 have eT:((byI T).toNat:Int)=T:=by rw[Q1q];omega
 have hne:stpW ⟨⟨K,T,N,M,H,D⟩,B⟩++r ≠ []:=by unfold stpW;simp
 have e1:oneI ⟨stpW ⟨⟨K,T,N,M,H,D⟩,B⟩++r,false⟩=K:=ho.1.trans eK;have e2:bytT ⟨stpW ⟨⟨K,T,N,M,H,D⟩,B⟩++r,false⟩ 1=⟨byI T :: ((if 6<=K /\ K<=11 then hndW ⟨⟨K,T,N,M,H,D⟩,B⟩else [])++argW ⟨K,T,N,M,H,D⟩)++r,false⟩:=ho.2;have e3:oneI (bytT ⟨stpW ⟨⟨K,T,N,M,H,D⟩,B⟩++r,false⟩ 1)=T:=by rw[e2];exact ho2.1.trans eT
 have e4:kt2 ⟨stpW ⟨⟨K,T,N,M,H,D⟩,B⟩++r,false⟩=⟨(if 6<=K /\ K<=11 then hndW ⟨⟨K,T,N,M,H,D⟩,B⟩else [])++argW ⟨K,T,N,M,H,D⟩++r,false⟩:=by
  unfold kt2;rw[e2];exact ho2.2
 have em:K % 16=K:=by omega
 have e5:kx2 ⟨stpW ⟨⟨K,T,N,M,H,D⟩,B⟩++r,false⟩=⟨⟨K,T,0,0,0,ByteArray.mk #[]⟩,0⟩:=by unfold kx2;rw[e1,e3,em]
 have h3:kx3 ⟨stpW ⟨⟨K,T,N,M,H,D⟩,B⟩++r,false⟩=⟨⟨K,T,0,0,H,ByteArray.mk #[]⟩,B⟩ /\ kt3 ⟨stpW ⟨⟨K,T,N,M,H,D⟩,B⟩++r,false⟩=⟨argW ⟨K,T,N,M,H,D⟩++r,false⟩:=by
  unfold kx3 kt3;rw[e1,em,e4,e5];by_cases q:6<=K /\ K<=11
  ·rw[if_pos q,if_pos q,if_pos q,List.append_assoc];have hb:hndB ⟨⟨K,T,N,M,H,D⟩,B⟩=false:=by rcases hh with hh | hh;exact absurd q hh;exact hh
   exact Qdl (x:=⟨⟨K,T,N,M,H,D⟩,B⟩) rfl hb hu _ _
  ·rw[if_neg q,if_neg q,if_neg q];have eHB:H=0 /\ B=0:=by
    unfold hndL at he;rw[if_neg (show ¬(6<=(Stp.mk ⟨K,T,N,M,H,D⟩ B).o.K /\ (Stp.mk ⟨K,T,N,M,H,D⟩ B).o.K<=11)from q)] at he;unfold argL endL zS zO at he;split at he
    ·simp only[Stp.mk.injEq,Op.mk.injEq] at he;exact⟨he.1.2.2.2.2.1,he.2⟩
    split at he
    ·simp only[Stp.mk.injEq,Op.mk.injEq] at he;exact⟨he.1.2.2.2.2.1,he.2⟩
    split at he
    ·simp only[Stp.mk.injEq,Op.mk.injEq] at he;exact⟨he.1.2.2.2.2.1,he.2⟩
    ·simp only[Stp.mk.injEq,Op.mk.injEq] at he;exact⟨he.1.2.2.2.2.1,he.2⟩
   rw[eHB.1,eHB.2];exact⟨rfl,rfl⟩
 have h4:stpX ⟨stpW ⟨⟨K,T,N,M,H,D⟩,B⟩++r,false⟩=⟨⟨K,T,N,M,H,D⟩,B⟩ /\ stpE ⟨stpW ⟨⟨K,T,N,M,H,D⟩,B⟩++r,false⟩=⟨r,false⟩:=by
  unfold stpX stpE;rw[h3.1,h3.2,e1,em];have hek:(hndL ⟨⟨K,T,N,M,H,D⟩,B⟩).o.K=K:=by unfold hndL;split <;> rfl
  have hen:(hndL ⟨⟨K,T,N,M,H,D⟩,B⟩).o.N=N:=by unfold hndL;split <;> rfl
  have hem:(hndL ⟨⟨K,T,N,M,H,D⟩,B⟩).o.M=M:=by unfold hndL;split <;> rfl
  have hed:(hndL ⟨⟨K,T,N,M,H,D⟩,B⟩).o.D=D:=by unfold hndL;split <;> rfl
  generalize hndL ⟨⟨K,T,N,M,H,D⟩,B⟩=z at he hek hen hem hed;unfold argB at ha;unfold argS argT argW;unfold argL at he;rw[hek] at he;by_cases q1:K=1 \/ K=2 \/ K=5 \/ K=9
  ·rw[if_pos q1] at ha;rw[if_pos q1] at he;rw[if_pos q1,if_pos q1,if_pos q1];simp only[Bool.or_eq_false_iff] at ha;unfold endL zS zO at he;simp only[Stp.mk.injEq,Op.mk.injEq] at he;have eD:D=ByteArray.mk #[]:=by rw[<-hed];exact he.1.2.2.2.2.2
   have n1:=Q4z ha.1 (numW M++r) false;have n2:=Q4z ha.2 r false;show(Stp.mk ⟨K,T,numI ⟨numW N++numW M++r,false⟩,numI (bytT ⟨numW N++numW M++r,false⟩ 2),H,ByteArray.mk #[]⟩ B)=_ /\ bytT (bytT ⟨numW N++numW M++r,false⟩ 2) 2=_;rw[List.append_assoc,n1.1,n1.2,n2.1,n2.2,eD];exact⟨rfl,rfl⟩
  rw[if_neg q1] at ha;rw[if_neg q1] at he;rw[if_neg q1,if_neg q1,if_neg q1];by_cases q2:K=4 \/ K=7 \/ K=11
  ·rw[if_pos q2] at ha;rw[if_pos q2] at he;rw[if_pos q2,if_pos q2,if_pos q2];unfold endL zS zO at he;simp only[Stp.mk.injEq,Op.mk.injEq] at he;have eD:D=ByteArray.mk #[]:=by rw[<-hed];exact he.1.2.2.2.2.2
   have eM:M=0:=by rw[<-hem];exact he.1.2.2.2.1
   have n1:=Q4z ha r false;show(Stp.mk ⟨K,T,numI ⟨numW N++r,false⟩,0,H,ByteArray.mk #[]⟩ B)=_ /\ bytT ⟨numW N++r,false⟩ 2=_;rw[n1.1,n1.2,eD,eM];exact⟨rfl,rfl⟩
  rw[if_neg q2] at ha;rw[if_neg q2] at he;rw[if_neg q2,if_neg q2,if_neg q2];by_cases q3:K=10
  ·rw[if_pos q3] at ha;rw[if_pos q3] at he;rw[if_pos q3,if_pos q3,if_pos q3];simp only[Bool.or_eq_false_iff,decide_eq_false_iff_not] at ha;unfold endL zS zO at he;simp only[Stp.mk.injEq,Op.mk.injEq] at he;have eM:M=0:=by rw[<-hem];exact he.1.2.2.2.1
   have n1:=Q4z ha.1 (byI (D.size:Int) :: bytesOf D++r) false;have n2:=Q3d (byI (D.size:Int)) (bytesOf D++r) false;have es:((byI (D.size:Int)).toNat:Int)=(D.size:Int):=by rw[Q1q];omega
   have hl:=Q0k D;have n3:=Q46 (bytesOf D) r false;rw[hl] at n3;show(Stp.mk ⟨K,T,numI ⟨numW N++(byI (D.size:Int) :: bytesOf D)++r,false⟩,0,H,strOf (texL (bytT ⟨numW N++(byI (D.size:Int) :: bytesOf D)++r,false⟩ 2))⟩ B)=_ /\ texT (bytT ⟨numW N++(byI (D.size:Int) :: bytesOf D)++r,false⟩ 2)=_;rw[List.append_assoc,n1.1,n1.2];unfold texL texT;rw[List.cons_append,n2.1,n2.2,es,eM];by_cases z:(D.size:Int)=0
   ·rw[if_pos z,if_pos z];have:bytesOf D=[]:=List.eq_nil_of_length_eq_zero (by omega);have e0:D=ByteArray.mk #[]:=Q10 (by rw[this];rfl);rw[this,e0];exact⟨rfl,rfl⟩
   ·rw[if_neg z,if_neg z,zztnc,n3.1,n3.2];have e0:strOf (bytesOf D)=D:=Q10 (Q0l _);rw[e0];exact⟨rfl,rfl⟩
  ·rw[if_neg q3] at he;rw[if_neg q3,if_neg q3,if_neg q3];unfold endL zS zO at he;simp only[Stp.mk.injEq,Op.mk.injEq] at he;have eD:D=ByteArray.mk #[]:=by rw[<-hed];exact he.1.2.2.2.2.2
   have eM:M=0:=by rw[<-hem];exact he.1.2.2.2.1
   have eN:N=0:=by rw[<-hen];exact he.1.2.2.1
   rw[eD,eM,eN];exact⟨rfl,rfl⟩
 unfold stpN stpR;rw[if_neg hne,if_neg hne,h4.2,h4.1];exact⟨if_neg (by simp),rfl⟩
theorem Q5t:∀(l:List Stp)(k:Nat),l.length<=k->(∀x ∈ l,stpB x=false /\ Hd.U64 x.o.H)->readL k ⟨l.flatMap stpW,false⟩=l
 | [],k,_,_=>by
  cases k with
  | zero=>rfl
  | succ k=>
   unfold readL;have:stpN ⟨([]:List Stp).flatMap stpW,false⟩=none:=if_pos rfl;rw[this]
 | x :: l,0,hk,_=>by simp at hk
 | x :: l,k+1,hk,h=>by
  unfold readL;obtain⟨h1,h2⟩:=h x (by simp);have h3:=Qe2 h1 h2 (l.flatMap stpW);rw[List.flatMap_cons,h3.1,h3.2];show x :: readL k ⟨l.flatMap stpW,false⟩=_;rw[Q5t l k (by rw[List.length_cons] at hk;omega) fun y hy=>h y (by simp[hy])]
theorem QdL{l:List Stp}(hk:l.length<=4000)(h:∀x ∈ l,stpB x=false /\ Hd.U64 x.o.H)(hl:(l.flatMap stpW).length<=16384):rdL (strOf (l.flatMap stpW))=l:=by
 unfold rdL;rw[Q0l,List.take_of_length_le hl];exact Q5t l 4000 hk h
end
set_option maxRecDepth 100000
section
variable{w:World}{R:Value->World->Prop}
def va232:Ann:=⟨fun id=>LI.none,fun l=>none,fun i=>cond (Nat.beq i 4) (some ⟨[],(rg 11 29)⟩) (cond (Nat.beq i 7) (some ⟨[],(rg 56 8)⟩) (cond (Nat.beq i 12) (some ⟨[(65,.bool false)],[66,67,68,69]⟩) (cond (Nat.beq i 17) (some ⟨[(80,.bool false)],[81,82,83]⟩) (cond (Nat.beq i 21) (some ⟨[],(rg 96 15)⟩) (cond (Nat.beq i 24) (some ⟨[],(rg 64 77)⟩) (none))))))⟩
def vc232(x0:Option Addr)(x1_0 x1_1 x1_2 x1_3 x1_4:Int)(x1_5:ByteArray)(x1_6:Int)(w:World)(R:VW):Prop:=
 ∀(n0:Nat)(w1:World),n0=w.heap.size->w1=w.alloc (.cells #[.int .i64 x1_0,.int .i64 x1_1,.int .i64 x1_2,.int .i64 x1_3,.int .u64 x1_4,.string x1_5,.int .i64 x1_6] 62)->∃i2:Int,w1.cell? (((zA n0).add 0).add 0)=some (.int .i64 i2) /\ ∃x3:World->Prop,(someA x0 fun a4=>∃b5:Bool,w1.cell? (a4.add 1)=some (.bool b5) /\ ifB b5 (someA x0 fun a6=>WrC w1 (a6.add 1) 1 /\ ∀(w7:World),w7=wr w1 (a6.add 1) [.bool true]->x3 w7) (ifB (decide (i2<0)) (someA x0 fun a8=>WrC w1 (a8.add 1) 1 /\ ∀(w9:World),w9=wr w1 (a8.add 1) [.bool true]->x3 w9) (ifB (decide (i2>=16)) (someA x0 fun a10=>WrC w1 (a10.add 1) 1 /\ ∀(w11:World),w11=wr w1 (a10.add 1) [.bool true]->x3 w11) (∃i12:Int,w1.cell? (((zA n0).add 0).add 1)=some (.int .i64 i12) /\ ifB (decide (i12<0)) (someA x0 fun a13=>WrC w1 (a13.add 1) 1 /\ ∀(w14:World),w14=wr w1 (a13.add 1) [.bool true]->x3 w14) (∃i15:Int,w1.cell? (((zA n0).add 0).add 1)=some (.int .i64 i15) /\ someA x0 fun a16=>WrC w1 (a16.add 1) 1 /\ ∀(w17:World),w17=wr w1 (a16.add 1) [.bool (decide (i15>255))]->x3 w17))))) /\ ∀(jv:Nat->Value)(w18:World),x3 w18->∀(w19:World),w19=w18.drew->someA x0 fun a20=>∃(p21:Option Addr)(n22 n23:Nat),w19.cell? (a20.add 0)=some (.slice p21 n22 n23) /\ w19=w19 /\ ∃i24:Int,w19.cell? (((zA n0).add 0).add 1)=some (.int .i64 i24) /\ w19=w19 /\ ∀(n25:Nat)(w26:World),n25=w19.heap.size->w26=w19.alloc (.cells #[.int .u8 (IntKind.u8.wrap i2),.int .u8 (IntKind.u8.wrap i24)] 5)->(∃(p27:Option Addr)(n28 n29:Nat),w26.cell? (a20.add 0)=some (.slice p27 n28 n29) /\ Value.slice p27 n28 n29=.slice p21 n22 n23) /\ ∃(p30:Option Addr)(n31 n32:Nat)(w33:World),Sem.run prog (Builtin.append_ #[73,73] 73 #[.slice p21 n22 n23,.slice (some (zA n25)) 2 2]) w26=.ok (.slice p30 n31 n32) w33 /\ someA x0 fun a34=>WrC w33 (a34.add 0) 1 /\ ∀(w35:World),w35=wr w33 (a34.add 0) [.slice p30 n31 n32]->∃x36:World->Prop,ifB (decide (i2>=6)) (ifB (decide (i2<=11)) (CS 100 #[.pointer x0,zP n0] w35 fun v37 w38=>v37=.tuple #[] /\ x36 w38) (x36 w35)) (x36 w35) /\ ∀(jv:Nat->Value)(w39:World),x36 w39->∃x40:World->Prop,(∃x41:Bool->World->Prop,ifB (i2 == 1) (x41 (i2 == 1) w39) (ifB (i2 == 2) (x41 (i2 == 2) w39) (ifB (i2 == 5) (x41 (i2 == 5) w39) (x41 (i2 == 9) w39))) /\ ∀(jv:Nat->Value)(b42:Bool)(w43:World),x41 b42 w43->ifB b42 (CS 101 #[.pointer x0,.pointer (some (((zA n0).add 0).add 2))] w43 fun v44 w45=>v44=.tuple #[] /\ CS 101 #[.pointer x0,.pointer (some (((zA n0).add 0).add 3))] w45 fun v46 w47=>v46=.tuple #[] /\ x40 w47) (∃x48:Bool->World->Prop,ifB (i2 == 4) (x48 (i2 == 4) w43) (ifB (i2 == 7) (x48 (i2 == 7) w43) (x48 (i2 == 11) w43)) /\ ∀(jv:Nat->Value)(b49:Bool)(w50:World),x48 b49 w50->ifB b49 (CS 101 #[.pointer x0,.pointer (some (((zA n0).add 0).add 2))] w50 fun v51 w52=>v51=.tuple #[] /\ x40 w52) (ifB (i2 == 10) (CS 101 #[.pointer x0,.pointer (some (((zA n0).add 0).add 2))] w50 fun v53 w54=>v53=.tuple #[] /\ ∃x55:World->Prop,(someA x0 fun a56=>∃b57:Bool,w54.cell? (a56.add 1)=some (.bool b57) /\ ifB b57 (someA x0 fun a58=>WrC w54 (a58.add 1) 1 /\ ∀(w59:World),w59=wr w54 (a58.add 1) [.bool true]->x55 w59) (∃s60:ByteArray,w54.cell? (((zA n0).add 0).add 5)=some (.string s60) /\ someA x0 fun a61=>WrC w54 (a61.add 1) 1 /\ ∀(w62:World),w62=wr w54 (a61.add 1) [.bool (decide ((↑s60.size:Int)>255))]->x55 w62)) /\ ∀(jv:Nat->Value)(w63:World),x55 w63->∀(w64:World),w64=w63.drew->someA x0 fun a65=>∃(p66:Option Addr)(n67 n68:Nat),w64.cell? (a65.add 0)=some (.slice p66 n67 n68) /\ ∃s69:ByteArray,w64.cell? (((zA n0).add 0).add 5)=some (.string s69) /\ w64=w64 /\ w64=w64 /\ ∀(n70:Nat)(w71:World),n70=w64.heap.size->w71=w64.alloc (.cells #[.int .u8 (IntKind.u8.wrap (↑s69.size:Int))] 5)->(∃(p72:Option Addr)(n73 n74:Nat),w71.cell? (a65.add 0)=some (.slice p72 n73 n74) /\ Value.slice p72 n73 n74=.slice p66 n67 n68) /\ ∃(p75:Option Addr)(n76 n77:Nat)(w78:World),Sem.run prog (Builtin.append_ #[73,73] 73 #[.slice p66 n67 n68,.slice (some (zA n70)) 1 1]) w71=.ok (.slice p75 n76 n77) w78 /\ someA x0 fun a79=>WrC w78 (a79.add 0) 1 /\ ∀(w80:World),w80=wr w78 (a79.add 0) [.slice p75 n76 n77]->∀(w81:World),w81=w80.drew->someA x0 fun a82=>∃(p83:Option Addr)(n84 n85:Nat),w81.cell? (a82.add 0)=some (.slice p83 n84 n85) /\ ∃s86:ByteArray,w81.cell? (((zA n0).add 0).add 5)=some (.string s86) /\ ∃(p87:Option Addr)(n88 n89:Nat)(w90:World),Sem.run prog (Builtin.append_ #[73,9] 73 #[.slice p83 n84 n85,.string s86]) w81=.ok (.slice p87 n88 n89) w90 /\ someA x0 fun a91=>WrC w90 (a91.add 0) 1 /\ ∀(w92:World),w92=wr w90 (a91.add 0) [.slice p87 n88 n89]->WrC w92 (((zA n0).add 0).add 5) 1 /\ ∀(w93:World),w93=wr w92 (((zA n0).add 0).add 5) [.string (.mk #[])]->x40 w93) (x40 w50)))) /\ ∀(jv:Nat->Value)(w94:World),x40 w94->WrC w94 (((zA n0).add 0).add 0) 1 /\ ∀(w95:World),w95=wr w94 (((zA n0).add 0).add 0) [.int .i64 0]->WrC w95 (((zA n0).add 0).add 1) 1 /\ ∀(w96:World),w96=wr w95 (((zA n0).add 0).add 1) [.int .i64 0]->someA x0 fun a97=>∃b98:Bool,w96.cell? (a97.add 1)=some (.bool b98) /\ ifB b98 (someA x0 fun a99=>WrC w96 (a99.add 1) 1 /\ ∀(w100:World),w100=wr w96 (a99.add 1) [.bool true]->R (.tuple #[]) w100) (∃(i101 i102 i103 i104 i105:Int)(s106:ByteArray)(i107:Int),CellsAt w96 (zA n0) [.int .i64 i101,.int .i64 i102,.int .i64 i103,.int .i64 i104,.int .u64 i105,.string s106,.int .i64 i107] /\ ∃(b108:Bool)(w109:World),Sem.run prog (binOp BinOp.neq 62 (.agg #[.int .i64 i101,.int .i64 i102,.int .i64 i103,.int .i64 i104,.int .u64 i105,.string s106,.int .i64 i107]) (.agg #[.int .i64 0,.int .i64 0,.int .i64 0,.int .i64 0,.int .u64 0,.string (.mk #[]),.int .i64 0])) w96=.ok (.bool b108) w109 /\ someA x0 fun a110=>WrC w109 (a110.add 1) 1 /\ ∀(w111:World),w111=wr w109 (a110.add 1) [.bool b108]->R (.tuple #[]) w111)
theorem vc232.ok{x0:Option Addr}{x1_0 x1_1 x1_2 x1_3 x1_4:Int}{x1_5:ByteArray}{x1_6:Int}(h:vc232 x0 x1_0 x1_1 x1_2 x1_3 x1_4 x1_5 x1_6 w R ):Calls prog 61 #[.pointer x0,.agg #[.int .i64 x1_0,.int .i64 x1_1,.int .i64 x1_2,.int .i64 x1_3,.int .u64 x1_4,.string x1_5,.int .i64 x1_6]] w (Ret R):=
 bodyE va232 Tryz.func61 (h:=h)
def va233:Ann:=⟨fun id=>cond (Nat.beq id 5) ⟨[(70,.int .i64 0)],([4]++rg 71 21)⟩ (LI.none),fun l=>none,fun i=>cond (Nat.beq i 1) (some ⟨[],(rg 5 36)⟩) (cond (Nat.beq i 9) (some ⟨[],([4]++rg 41 51)⟩) (none))⟩
def vc233(x0 x1:Option Addr)(w:World)(R:VW):Prop:=
 ∃x0_1:World->Prop,(someA x0 fun a1=>∃b2:Bool,w.cell? (a1.add 1)=some (.bool b2) /\ ifB b2 (someA x0 fun a3=>WrC w (a3.add 1) 1 /\ ∀(w4:World),w4=wr w (a3.add 1) [.bool true]->x0_1 w4) (someA x1 fun a5=>∃i6:Int,w.cell? (a5.add 6)=some (.int .i64 i6) /\ ifB (decide (i6<0)) (someA x0 fun a7=>WrC w (a7.add 1) 1 /\ ∀(w8:World),w8=wr w (a7.add 1) [.bool true]->x0_1 w8) (someA x1 fun a9=>∃i10:Int,w.cell? (a9.add 6)=some (.int .i64 i10) /\ ifB (decide (i10>=255)) (someA x0 fun a11=>WrC w (a11.add 1) 1 /\ ∀(w12:World),w12=wr w (a11.add 1) [.bool true]->x0_1 w12) (someA x1 fun a13=>∃i14:Int,w.cell? (a13.add 6)=some (.int .i64 i14) /\ ifB (decide (i14>0)) (someA x1 fun a15=>∃i16:Int,w.cell? ((a15.add 0).add 4)=some (.int .u64 i16) /\ someA x0 fun a17=>WrC w (a17.add 1) 1 /\ ∀(w18:World),w18=wr w (a17.add 1) [.bool (i16 != 0)]->x0_1 w18) (someA x0 fun a19=>WrC w (a19.add 1) 1 /\ ∀(w20:World),w20=wr w (a19.add 1) [.bool false]->x0_1 w20))))) /\ ∀(jv:Nat->Value)(w21:World),x0_1 w21->∃x22:World->Prop,(someA x1 fun a23=>∃i24:Int,w21.cell? ((a23.add 0).add 4)=some (.int .u64 i24) /\ ifB (i24 == 0) (∀(w25:World),w25=w21.drew->someA x0 fun a26=>∃(p27:Option Addr)(n28 n29:Nat),w25.cell? (a26.add 0)=some (.slice p27 n28 n29) /\ someA x1 fun a30=>∃i31:Int,w25.cell? (a30.add 6)=some (.int .i64 i31) /\ w25=w25 /\ ∀(n32:Nat)(w33:World),n32=w25.heap.size->w33=w25.alloc (.cells #[.int .u8 (IntKind.u8.wrap i31)] 5)->(∃(p34:Option Addr)(n35 n36:Nat),w33.cell? (a26.add 0)=some (.slice p34 n35 n36) /\ Value.slice p34 n35 n36=.slice p27 n28 n29) /\ ∃(p37:Option Addr)(n38 n39:Nat)(w40:World),Sem.run prog (Builtin.append_ #[73,73] 73 #[.slice p27 n28 n29,.slice (some (zA n32)) 1 1]) w33=.ok (.slice p37 n38 n39) w40 /\ someA x0 fun a41=>WrC w40 (a41.add 0) 1 /\ ∀(w42:World),w42=wr w40 (a41.add 0) [.slice p37 n38 n39]->x22 w42) (someA x0 fun a43=>∃(p44:Option Addr)(n45 n46:Nat),w21.cell? (a43.add 0)=some (.slice p44 n45 n46) /\ ∀(n47:Nat)(w48:World),n47=w21.heap.size->w48=w21.alloc (.cells #[.int .u8 255] 5)->∃(p49:Option Addr)(n50 n51:Nat)(w52:World),Sem.run prog (Builtin.append_ #[73,73] 73 #[.slice p44 n45 n46,.slice (some (zA n47)) 1 1]) w48=.ok (.slice p49 n50 n51) w52 /\ someA x0 fun a53=>WrC w52 (a53.add 0) 1 /\ ∀(w54:World),w54=wr w52 (a53.add 0) [.slice p49 n50 n51]->∃x55:Nat->Int->World->Prop,(∃n56:Nat,x55 n56 0 w54) /\ ∀(n57:Nat)(jv:Nat->Value)(i58:Int)(w59:World),x55 n57 i58 w59->ifB (decide (i58<8)) (∀(w60:World),w60=w59.drew->someA x0 fun a61=>∃(p62:Option Addr)(n63 n64:Nat),w60.cell? (a61.add 0)=some (.slice p62 n63 n64) /\ someA x1 fun a65=>∃i66:Int,w60.cell? ((a65.add 0).add 4)=some (.int .u64 i66) /\ 0<=IntKind.i64.wrap (8*i58) /\ w60=w60 /\ w60=w60 /\ ∀(n67:Nat)(w68:World),n67=w60.heap.size->w68=w60.alloc (.cells #[.int .u8 (IntKind.u8.wrap (shrV IntKind.u64 i66 (IntKind.i64.wrap (8*i58))))] 5)->(∃(p69:Option Addr)(n70 n71:Nat),w68.cell? (a61.add 0)=some (.slice p69 n70 n71) /\ Value.slice p69 n70 n71=.slice p62 n63 n64) /\ ∃(p72:Option Addr)(n73 n74:Nat)(w75:World),Sem.run prog (Builtin.append_ #[73,73] 73 #[.slice p62 n63 n64,.slice (some (zA n67)) 1 1]) w68=.ok (.slice p72 n73 n74) w75 /\ someA x0 fun a76=>WrC w75 (a76.add 0) 1 /\ ∀(w77:World),w77=wr w75 (a76.add 0) [.slice p72 n73 n74]->∃n78:Nat,n78<n57 /\ x55 n78 (IntKind.i64.wrap (i58+1)) w77) (x22 w59))) /\ ∀(jv:Nat->Value)(w79:World),x22 w79->someA x1 fun a80=>WrC w79 (a80.add 6) 1 /\ ∀(w81:World),w81=wr w79 (a80.add 6) [.int .i64 0]->someA x1 fun a82=>WrC w81 ((a82.add 0).add 4) 1 /\ ∀(w83:World),w83=wr w81 ((a82.add 0).add 4) [.int .u64 0]->R (.tuple #[]) w83
theorem vc233.ok{x0 x1:Option Addr}(h:vc233 x0 x1 w R ):Calls prog 100 #[.pointer x0,.pointer x1] w (Ret R):=
 bodyE va233 Tryz.func100 (h:=h)
def va234:Ann:=⟨fun id=>LI.none,fun l=>none,fun i=>cond (Nat.beq i 1) (some ⟨[],(rg 4 19)⟩) (none)⟩
def vc234(x0 x1:Option Addr)(w:World)(R:VW):Prop:=
 ∃x0_1:World->Prop,(someA x0 fun a1=>∃b2:Bool,w.cell? (a1.add 1)=some (.bool b2) /\ ifB b2 (someA x0 fun a3=>WrC w (a3.add 1) 1 /\ ∀(w4:World),w4=wr w (a3.add 1) [.bool true]->x0_1 w4) (someA x1 fun a5=>∃i6:Int,w.cell? a5=some (.int .i64 i6) /\ ifB (decide (i6<(-32768))) (someA x0 fun a7=>WrC w (a7.add 1) 1 /\ ∀(w8:World),w8=wr w (a7.add 1) [.bool true]->x0_1 w8) (someA x1 fun a9=>∃i10:Int,w.cell? a9=some (.int .i64 i10) /\ someA x0 fun a11=>WrC w (a11.add 1) 1 /\ ∀(w12:World),w12=wr w (a11.add 1) [.bool (decide (i10>32767))]->x0_1 w12))) /\ ∀(jv:Nat->Value)(w13:World),x0_1 w13->∀(w14:World),w14=w13.drew->someA x0 fun a15=>∃(p16:Option Addr)(n17 n18:Nat),w14.cell? (a15.add 0)=some (.slice p16 n17 n18) /\ someA x1 fun a19=>∃i20:Int,w14.cell? a19=some (.int .i64 i20) /\ w14=w14 /\ someA x1 fun a21=>∃i22:Int,w14.cell? a21=some (.int .i64 i22) /\ (0:Int)<=8 /\ w14=w14 /\ w14=w14 /\ ∀(n23:Nat)(w24:World),n23=w14.heap.size->w24=w14.alloc (.cells #[.int .u8 (IntKind.u8.wrap i20),.int .u8 (IntKind.u8.wrap (shrV IntKind.i64 i22 8))] 5)->(∃(p25:Option Addr)(n26 n27:Nat),w24.cell? (a15.add 0)=some (.slice p25 n26 n27) /\ Value.slice p25 n26 n27=.slice p16 n17 n18) /\ ∃(p28:Option Addr)(n29 n30:Nat)(w31:World),Sem.run prog (Builtin.append_ #[73,73] 73 #[.slice p16 n17 n18,.slice (some (zA n23)) 2 2]) w24=.ok (.slice p28 n29 n30) w31 /\ someA x0 fun a32=>WrC w31 (a32.add 0) 1 /\ ∀(w33:World),w33=wr w31 (a32.add 0) [.slice p28 n29 n30]->someA x1 fun a34=>WrC w33 a34 1 /\ ∀(w35:World),w35=wr w33 a34 [.int .i64 0]->R (.tuple #[]) w35
theorem vc234.ok{x0 x1:Option Addr}(h:vc234 x0 x1 w R ):Calls prog 101 #[.pointer x0,.pointer x1] w (Ret R):=
 bodyE va234 Tryz.func101 (h:=h)
end
set_option maxRecDepth 20000
section
open Go.RowKit Go.Maps Thing
def byF(c:UInt8):List Value:=[.int .u8 (c.toNat:Int)]
abbrev byT(v:Value)(l:List UInt8):Thing:=rwT 5 1 byF v l
theorem elemBy:ElemOk prog 73 5 1 1:=.of (z:=.int .u8 0) (by kernel_rfl) (by kernel_rfl) rfl
theorem Q8s(x:UInt8):(byF x).length=1:=rfl
theorem Qd1(x:UInt8)(u:Value)(h:u ∈ byF x):u.oneCell'=true:=by
 simp only[byF,List.mem_cons,List.not_mem_nil,or_false] at h;subst h;rfl
abbrev pnO(v:Value)(bad:Bool):Obj:=.cells #[v,.bool bad] 103 (0,0)
def pnT(b:Nat)(v:Value)(bad:Bool)(l:List UInt8):Thing:=blk b (pnO v bad)*byT v l
theorem Q1U(n:Int):IntKind.u8.wrap n=((byI n).toNat:Int):=by
 rw[Q1q];simp only[IntKind.wrap,IntKind.bits,IntKind.signed,Bool.false_and,Bool.false_eq_true,if_false];omega
theorem shr_8(n:Int):shrV .i64 n 8=n / 256:=by
 unfold shrV;show n.fdiv (2 ^ 8)=_;rw[Int.fdiv_eq_ediv_of_nonneg _ (by decide)];rfl
section
variable{w:World}{F:Nat->Prop}{X C:Thing}{R:VW}{b:Nat}{v:Value}{bad:Bool}{out:List UInt8}
theorem Q17(h:X.P w F)(e:X=pnT b v bad out*C):∃p c,v=.slice p out.length c:=
 (Q5C (e:=5) (k:=1) (f:=byF) (v:=v) (l:=out) (Y:=blk b (pnO v bad)*C) h (by rw[e];unfold pnT;show _=byT v out*_;ac_rfl)).shape
theorem Q12(h:X.P w F)(e:X=pnT b v bad out*C):w.heap[b]? = some (pnO v bad):=Q09 (C:=byT v out*C) h (by rw[e];unfold pnT;ac_rfl)
theorem Q22{bb:Bool}{K:World->Prop}(h:X.P w F)(e:X=pnT b v bad out*C)(k:∀w1 F',(pnT b v bb out*C).P w1 F'->Step F w F' w1->K w1) :
  WrC w ((zA b).add 1) 1 /\ ∀w1,w1=wr w ((zA b).add 1) [.bool bb]->K w1:=by
 rw[Q02];refine Q0B (b:=b) (o:=0+1) (C:=byT v out*C) h (by rw[e];unfold pnT;ac_rfl) (by simp) fun w1 F1 h1 s1=>k w1 F1 ?_ s1;have h1:(blk b (pnO v bb)*(byT v out*C)).P w1 F1:=h1;exact re h1 (by unfold pnT;ac_rfl)
theorem Qct{v':Value}{out':List UInt8}{K:World->Prop}(h:X.P w F)(e:X=byT v' out'*(blk b (pnO v bad)*C))(k:∀w1 F',(pnT b v' bad out'*C).P w1 F'->Step F w F' w1->K w1) :
  WrC w ((zA b).add 0) 1 /\ ∀w1,w1=wr w ((zA b).add 0) [v']->K w1:=by
 rw[Q02];refine Q0B (b:=b) (o:=0+0) (C:=byT v' out'*C) h (by rw[e];ac_rfl) (by simp) fun w1 F1 h1 s1=>k w1 F1 ?_ s1;have h1:(blk b (pnO v' bad)*(byT v' out'*C)).P w1 F1:=h1;exact re h1 (by unfold pnT;ac_rfl)
theorem Q1O:∀l:List UInt8,l.flatMap byF=l.map fun c=>.int .u8 (c.toNat:Int)
 | []=>rfl
 | a :: l=>by rw[List.flatMap_cons,Q1O l];rfl
theorem Qdb(l:List UInt8){j:Nat}{x:UInt8}(h:l[j]? = some x):(l.flatMap byF).toArray[j]? = some (.int .u8 (x.toNat:Int)):=by
 rw[Q1O,List.getElem?_toArray,List.getElem?_map,h];rfl
theorem Q2n{p:Option Addr}{c:Nat}{news:List UInt8}{arr:Array Value}{K:World->Prop}(h:X.P w F)(e:X=pnT b (.slice p out.length c) bad out*C)(ha:arr=(news.flatMap byF).toArray)(hl:out.length+news.length<=1000000)
  (k:∀v' w' F',(pnT b v' bad (out++news)*C).P w' F'->Step F w F' w'->K w') :
  ∀(n13:Nat)(w14:World),n13=w.heap.size->w14=w.alloc (Obj.cells arr 5)->(∃(p15:Option Addr)(n16 n17:Nat),w14.cell? ((zA b).add 0)=some (.slice p15 n16 n17) /\ Value.slice p15 n16 n17=.slice p out.length c) /\
   ∃(p18:Option Addr)(n19 n20:Nat)(w21:World),Sem.run prog (Builtin.append_ #[73,73] 73 #[.slice p out.length c,.slice (some (zA n13)) news.length news.length]) w14=Result.ok (.slice p18 n19 n20) w21 /\
   WrC w21 ((zA b).add 0) 1 /\ ∀(w23:World),w23=wr w21 ((zA b).add 0) [.slice p18 n19 n20]->K w23:=by
 refine Q0j h fun n w1 F1 h1 s1 _=>?_;have h2:(pnT b (.slice p out.length c) bad out*(blk n (.cells arr 5 (0,0))*C)).P w1 F1:=re h1 (by rw[e];ac_rfl);refine⟨⟨_,_,_,by rw[Q02];exact Q01 (Q12 h2 rfl) rfl,rfl⟩,?_⟩;have hb:=Q09 h1 rfl;obtain⟨F3,F4,⟨hr,rfl⟩,hy,d,rfl⟩:(byT (.slice p out.length c) out*(blk b (pnO (.slice p out.length c) bad)*(blk n (.cells arr 5 (0,0))*C))).P w1 F1:=re h2 (by unfold pnT;ac_rfl);obtain⟨p',c',w2,hrun,hr2,hm,hn⟩:=ORow.append elemBy Q8s Qd1 hr 73 ⟨n,0,none⟩ news.length news (fun j x hx u hu hh=>by
  match u,hh with
  | 0,hh=>
   cases hh;rw[Q02,Q02];refine Q01 hb ?_;rw[ha,show 0+j*1+0=j by omega];exact Qdb news hx
  | u+1,hh=>simp[byF] at hh) (by simp only[maxLen];omega) (by omega)
 obtain⟨q,s2⟩:=Q0C (B:=byT (.slice p' (out.length+news.length) c') (out++news)) hy d ⟨hr2,rfl⟩ ⟨hm,hn⟩;refine⟨p',_,c',w2,hrun,Qct (C:=blk n (.cells arr 5 (0,0))*C) q rfl fun w3 F5 h3 s3=>?_⟩;obtain⟨F6,h6,sub⟩:=drop_left (re h3 (sw4 _ _ _));exact k _ w3 F6 h6 (((s1.trans s2).trans s3).sub sub)
theorem Qfe{p:Option Addr}{c:Nat}{str:ByteArray}{K:World->Prop}(h:X.P w F)(e:X=pnT b (.slice p out.length c) bad out*C)(hl:out.length+str.size<=1000000)
  (k:∀v' w' F',(pnT b v' bad (out++bytesOf str)*C).P w' F'->Step F w F' w'->K w') :
  ∃(p70:Option Addr)(n71 n72:Nat)(w73:World),Sem.run prog (Builtin.append_ #[73,9] 73 #[.slice p out.length c,.string str]) w=Result.ok (.slice p70 n71 n72) w73 /\
   WrC w73 ((zA b).add 0) 1 /\ ∀(w75:World),w75=wr w73 ((zA b).add 0) [.slice p70 n71 n72]->K w75:=by
 obtain⟨F3,F4,⟨hr,rfl⟩,hy,d,rfl⟩:(byT (.slice p out.length c) out*(blk b (pnO (.slice p out.length c) bad)*C)).P w F:=re h (by rw[e];unfold pnT;ac_rfl);obtain⟨i,hi,hs,hby,hz⟩:∃i,Tryz.prog.info? 5=some i /\ i.size=1 /\ i.bytes=1 /\ i.zero=some (.int .u8 0):=Q35 (by kernel_rfl);obtain⟨v',w2,hrun,row2,hg,_⟩:=Go.Lib.run_append_own_string (P:=prog) w 0 73 9 73 5 i (by kernel_rfl) (by kernel_rfl) hi hz hs hby _ _ _ hr str (by simp only[maxLen];omega) (by omega) (Nat.zero_le _);have hn:=Q3C hr hi hz hs hby (by kernel_rfl) (by kernel_rfl) (by omega) hrun;have ex:out.flatMap byF++Go.Lib.strCells str=(out++bytesOf str).flatMap byF:=by
  rw[List.flatMap_append];congr 1;rw[Q1O];rfl
 have hr2:ORow w2 5 1 byF v' (out++bytesOf str):=by
  unfold ORow;rw[zzlna,Q0k,<-ex];exact row2
 obtain⟨p',c',rfl⟩:=hr2.shape;obtain⟨q,s2⟩:=Q0C (B:=byT (.slice p' (out++bytesOf str).length c') (out++bytesOf str)) hy d ⟨hr2,rfl⟩ ⟨Q5e hg,hn⟩;exact⟨p',_,c',w2,hrun,Qct (C:=C) q rfl fun w3 F5 h3 s3=>k _ w3 F5 h3 (s2.trans s3)⟩
theorem Q7D{m i:Nat}{n:Int}{arr:Array Value}{T:TypeId}(hi:arr[i]? = some (.int .i64 n))(hl:out.length+2<=1000000)(h:X.P w F)(e:X=pnT b v bad out*(blk m (.cells arr T (0,0))*C))
  (r:∀v' w' F',(pnT b v' (bad || numB? n) (out++numW n)*(blk m (.cells (setAt arr i [.int .i64 0]) T (0,0))*C)).P w' F'->Step F w F' w'->R (.tuple #[]) w') :
  CS 101 #[zP b,.pointer (some ⟨m,i,none⟩)] w R:=by
 subst e;constructor;refine vc234.ok ?_;unfold vc234;have rn:∀ {w':World} {F':Nat->Prop} {v:Value} {bad:Bool} {out:List UInt8},(pnT b v bad out*(blk m (.cells arr T (0,0))*C)).P w' F'->w'.cell? ⟨m,i,none⟩=some (.int .i64 n):=fun {w' F' v bad out} p=>Q01 (Q09 (b:=m) (o:=.cells arr T (0,0)) (C:=pnT b v bad out*C) p (sw4 _ _ _)) hi;refine⟨fun w'=>∃F',(pnT b v (bad || numB? n) out*(blk m (.cells arr T (0,0))*C)).P w' F' /\ Step F w F' w',?_,?_⟩
 ·refine⟨bad,by rw[Q02];exact Q01 (Q12 h rfl) rfl,Q05 (fun q=>?_) (fun q=>?_)⟩
  ·subst q;exact Q22 (bb:=true) h rfl fun w1 F1 h1 s1=>⟨F1,h1,s1⟩
  ·subst q;refine⟨n,rn h,Q05 (fun q=>?_) (fun q=>?_)⟩
   ·have eb:numB? n=true:=by unfold numB?;rw[q];rfl
    rw[eb];exact Q22 (bb:=true) h rfl fun w1 F1 h1 s1=>⟨F1,h1,s1⟩
   ·refine⟨n,rn h,Q22 (bb:=decide (n>32767)) h rfl fun w1 F1 h1 s1=>⟨F1,?_,s1⟩⟩;have eb:(false || numB? n)=decide (n>32767):=by unfold numB?;rw[q];rfl
    rw[eb];exact h1
 rintro _ w1 ⟨F1,h1,s1⟩;rintro w2 rfl;have h2:=Thing.grow h1 (Ext.drew w1);have s2:=s1.trans (Step.ext (Ext.drew w1));generalize w1.drew=w2 at h2 s2 ⊢;obtain⟨p,c,rfl⟩:=Q17 h2 rfl;refine⟨p,_,c,by rw[Q02];exact Q01 (Q12 h2 rfl) rfl,n,rn h2,rfl,n,rn h2,by decide,rfl,rfl,?_⟩;refine Q2n (news:=numW n) h2 rfl (by rw[Q1U,Q1U,shr_8];rfl) (by show out.length+2<=_;omega) fun v' w3 F3 h3 s3=>?_;refine Q0B (b:=m) (o:=i) (C:=pnT b v' (bad || numB? n) (out++numW n)*C) h3 (sw4 _ _ _) (by have:=(Array.getElem?_eq_some_iff.1 hi).1;simp;omega) fun w4 F4 h4 s4=>?_;exact r v' w4 F4 (re h4 (sw4 _ _ _)) ((s2.trans s3).trans s4)
end
end
set_option maxRecDepth 20000
section
open Go.RowKit Go.Maps Thing
section
variable{w:World}{F:Nat->Prop}{X C:Thing}{R:VW}{b m:Nat}{v:Value}{bad:Bool}{out:List UInt8}{x:Stp}
theorem Q6U(x:Stp):(hndW x).length<=9:=by
 unfold hndW;split
 ·show 1<=9;omega
 ·rw[List.length_cons,List.length_map,List.length_range];omega
theorem Qad(hH:Hd.U64 x.o.H)(hl:out.length+20<=1000000)(h:X.P w F)(e:X=pnT b v bad out*(skT m x*C))
  (r:∀v' w' F',(pnT b v' (bad || hndB x) (out++hndW x)*(skT m ⟨{x.o with H:=0},0⟩*C)).P w' F'->Step F w F' w'->R (.tuple #[]) w') :
  CS 100 #[zP b,zP m] w R:=by
 subst e;constructor;refine vc233.ok ?_;unfold vc233;have rx:∀ {w':World} {F':Nat->Prop} {v:Value} {bad:Bool} {out:List UInt8},(pnT b v bad out*(skT m x*C)).P w' F'->w'.heap[m]? = some (skO x):=fun {w' F' v bad out} p=>Q09 (b:=m) (o:=skO x) (C:=pnT b v bad out*C) p (sw4 _ _ _);have rB:∀ {w':World} {F':Nat->Prop} {v:Value} {bad:Bool} {out:List UInt8},(pnT b v bad out*(skT m x*C)).P w' F'->w'.cell? ((zA m).add 6)=some (.int .i64 x.B):=fun p=>by rw[Q02];exact Q01 (rx p) rfl
 have rH:∀ {w':World} {F':Nat->Prop} {v:Value} {bad:Bool} {out:List UInt8},(pnT b v bad out*(skT m x*C)).P w' F'->w'.cell? (((zA m).add 0).add 4)=some (.int .u64 x.o.H):=fun p=>by rw[Q02,Q02];exact Q01 (rx p) rfl
 refine⟨fun w'=>∃F',(pnT b v (bad || hndB x) out*(skT m x*C)).P w' F' /\ Step F w F' w',?_,?_⟩
 ·have put:∀bb:Bool,(bad || hndB x)=bb->WrC w ((zA b).add 1) 1 /\ ∀w1,w1=wr w ((zA b).add 1) [.bool bb]->∃F',(pnT b v (bad || hndB x) out*(skT m x*C)).P w1 F' /\ Step F w F' w1:=fun bb eb=>by
   rw[eb];exact Q22 (bb:=bb) h rfl fun w1 F1 h1 s1=>⟨F1,h1,s1⟩
  refine⟨bad,by rw[Q02];exact Q01 (Q12 h rfl) rfl,Q05 (fun q=>?_) (fun q=>?_)⟩
  ·exact put true (by rw[q];rfl)
  refine⟨_,rB h,Q05 (fun q1=>?_) (fun q1=>?_)⟩
  ·exact put true (by unfold hndB;rw[q,q1];rfl)
  refine⟨_,rB h,Q05 (fun q2=>?_) (fun q2=>?_)⟩
  ·exact put true (by unfold hndB;rw[q,q1,q2];rfl)
  refine⟨_,rB h,Q05 (fun q3=>?_) (fun q3=>?_)⟩
  ·refine⟨_,rH h,put _ ?_⟩;unfold hndB;rw[q,q1,q2,q3];show decide (x.o.H ≠ 0)=(x.o.H != 0);by_cases z:x.o.H=0
   ·simp[z]
   ·simp[z]
  ·exact put false (by unfold hndB;rw[q,q1,q2,q3];rfl)
 generalize(bad || hndB x)=bad2 at r ⊢;rintro _ w1 ⟨F1,h1,s1⟩;refine⟨fun w'=>∃v' F',(pnT b v' bad2 (out++hndW x)*(skT m x*C)).P w' F' /\ Step F w F' w',?_,?_⟩
 ·refine⟨_,rH h1,Q05 (fun q=>?_) (fun q=>?_)⟩
  ·have q:x.o.H=0:=by simpa using q
   rintro w2 rfl;have h2:=Thing.grow h1 (Ext.drew w1);have s2:=s1.trans (Step.ext (Ext.drew w1));generalize w1.drew=w2 at h2 s2 ⊢;obtain⟨p,c,rfl⟩:=Q17 h2 rfl;refine⟨p,_,c,by rw[Q02];exact Q01 (Q12 h2 rfl) rfl,_,rB h2,rfl,?_⟩;have eW:hndW x=[byI x.B]:=if_pos q;rw[eW];exact Q2n (news:=[byI x.B]) h2 rfl (by rw[Q1U];rfl) (by show out.length+1<=_;omega) fun v' w3 F3 h3 s3=>⟨v',F3,h3,s2.trans s3⟩
  ·have q:¬x.o.H=0:=by simpa using q
   obtain⟨p,c,rfl⟩:=Q17 h1 rfl;refine⟨p,_,c,by rw[Q02];exact Q01 (Q12 h1 rfl) rfl,fun n w2 hn hw=>?_⟩;refine(Q2n (news:=[255]) h1 rfl rfl (by show out.length+1<=_;omega) (fun v' w3 F3 h3 s3=>?_) n w2 hn hw).2
   let fj:Nat->UInt8:=fun i=>byI (x.o.H / 256 ^ i)
   refine⟨fun f i w'=>∃j:Nat,i=(j:Int) /\ f+j=8 /\ ∃v' F',(pnT b v' bad2 (out++[255]++(List.range j).map fj)*(skT m x*C)).P w' F' /\ Step F w F' w',⟨8,0,rfl,rfl,v',F3,by rw[List.range_zero,List.map_nil,List.append_nil];exact h3,s1.trans s3⟩,?_⟩;rintro f jv i w4 ⟨j,rfl,hf,v4,F4,h4,s4⟩;refine Q05 (fun q2=>?_) (fun q2=>?_)
   ·have q2:=zzodt q2;rintro w5 rfl;have h5:=Thing.grow h4 (Ext.drew w4);have s5:=s4.trans (Step.ext (Ext.drew w4));generalize w4.drew=w5 at h5 s5 ⊢;obtain⟨p5,c5,rfl⟩:=Q17 h5 rfl;have hlen:(out++[255]++(List.range j).map fj).length=out.length+1+j:=by rw[zzlna,zzlna,List.length_map,List.length_range];rfl
    have e8:IntKind.i64.wrap (8*(j:Int))=((8*j:Nat):Int):=by rw[Q04 (by omega) (by omega)];omega
    refine⟨p5,_,c5,by rw[Q02];exact Q01 (Q12 h5 rfl) rfl,_,rH h5,by rw[e8];omega,rfl,rfl,?_⟩;have ev:IntKind.u8.wrap (shrV .u64 x.o.H (IntKind.i64.wrap (8*(j:Int))))=((fj j).toNat:Int):=by
     rw[e8,Q1H hH.1 (by omega),Q1U];show _=((byI (x.o.H / 256 ^ j)).toNat:Int);have:(2:Int) ^ (8*j)=256 ^ j:=by rw[Int.pow_mul];rfl
     rw[this]
    refine Q2n (news:=[fj j]) h5 rfl (by rw[ev];rfl) (by show _+1<=_;rw[hlen];omega) fun v' w6 F6 h6 s6=>⟨f-1,by omega,j+1,by rw[Q04 (by omega) (by omega)];omega,by omega,v',F6,?_,s5.trans s6⟩;rw[List.range_succ,List.map_append,<-List.append_assoc];exact h6
   ·have q2:=of_decide_eq_false q2;have ej:j=8:=by omega
    subst ej;have eW:hndW x=255 :: (List.range 8).map fj:=if_neg q;rw[eW];rw[List.append_assoc] at h4;exact⟨v4,F4,h4,s4⟩
 rintro _ w2 ⟨v2,F2,h2,s2⟩;show WrC w2 ((zA m).add 6) 1 /\ _;rw[Q02];refine Q2A (i:=6) (x:=x) (x':=⟨x.o,0⟩) (C:=pnT b v2 bad2 (out++hndW x)*C) h2 (sw4 _ _ _) rfl (by omega) rfl fun w3 F3 h3 s3=>?_;show WrC w3 (((zA m).add 0).add 4) 1 /\ _;rw[Q02,Q02];refine Q2A (i:=4) (x:=⟨x.o,0⟩) (x':=⟨{x.o with H:=0},0⟩) (C:=pnT b v2 bad2 (out++hndW x)*C) h3 rfl rfl (by omega) rfl fun w4 F4 h4 s4=>?_;exact r v2 w4 F4 (re h4 (sw4 _ _ _)) ((s2.trans s3).trans s4)
def stEnd(b n0:Nat)(R:VW)(w94:World):Prop:=
 WrC w94 (((zA n0).add (0:Nat)).add (0:Nat)) (1:Nat) /\ ∀(w95:World),w95=wr w94 (((zA n0).add (0:Nat)).add (0:Nat)) [.int .i64 (0:Int)]->WrC w95 (((zA n0).add (0:Nat)).add (1:Nat)) (1:Nat) /\ ∀(w96:World),w96=wr w95 (((zA n0).add (0:Nat)).add (1:Nat)) [.int .i64 (0:Int)]->∃b98:Bool,w96.cell? ((zA b).add (1:Nat))=some (.bool b98) /\ ifB b98 (WrC w96 ((zA b).add (1:Nat)) (1:Nat) /\ ∀(w100:World),w100=wr w96 ((zA b).add (1:Nat)) [.bool true]->R (.tuple #[]) w100)
  (∃(i101 i102 i103 i104 i105:Int)(s106:ByteArray)(i107:Int),CellsAt w96 (zA n0) [.int .i64 i101,.int .i64 i102,.int .i64 i103,.int .i64 i104,.int .u64 i105,.string s106,.int .i64 i107] /\ ∃(b108:Bool)(w109:World),Sem.run prog (binOp BinOp.neq 62 (.agg #[.int .i64 i101,.int .i64 i102,.int .i64 i103,.int .i64 i104,.int .u64 i105,.string s106,.int .i64 i107]) (.agg #[.int .i64 (0:Int),.int .i64 (0:Int),.int .i64 (0:Int),.int .i64 (0:Int),.int .u64 (0:Int),.string (ByteArray.mk #[]),.int .i64 (0:Int)])) w96=Result.ok (.bool b108) w109 /\
   WrC w109 ((zA b).add (1:Nat)) (1:Nat) /\ ∀(w111:World),w111=wr w109 ((zA b).add (1:Nat)) [.bool b108]->R (.tuple #[]) w111)
theorem Qfs(h:(pnT b v bad out*(skT m x*C)).P w F)(r:∀v' w' F',(pnT b v' (bad || !(opQ (endL x).o zO && ((endL x).B == 0 && true))) out*C).P w' F'->Step F w F' w'->R (.tuple #[]) w'):stEnd b m R w:=by
 unfold stEnd;rw[Q02,Q02,Q02];refine Q2A (i:=0) (x:=x) (x':=⟨{x.o with K:=0},x.B⟩) (C:=pnT b v bad out*C) h (sw4 _ _ _) rfl (by omega) rfl fun w3 F3 h3 s3=>?_;refine Q2A (i:=1) (x:=⟨{x.o with K:=0},x.B⟩) (x':=endL x) (C:=pnT b v bad out*C) h3 rfl rfl (by omega) rfl fun w4 F4 h4 s4=>?_;have s34:=s3.trans s4;have h5:(pnT b v bad out*(skT m (endL x)*C)).P w4 F4:=re h4 (sw4 _ _ _);refine⟨bad,by rw[Q02];exact Q01 (Q12 h5 rfl) rfl,Q05 (fun q=>?_) (fun q=>?_)⟩
 ·subst q;refine Q22 (bb:=true) h5 rfl fun w5 F5 h6 s5=>?_;obtain⟨F7,h7,sub⟩:=drop_left (re h6 (sw4 _ _ _));exact r v w5 F7 h7 ((s34.trans s5).sub sub)
 ·subst q;refine⟨_,_,_,_,_,_,_,Q07 (vs:=spL (endL x)) (Q09 h4 rfl),_,w4,QdU w4 (endL x) zS,Q22 (bb:=!(opQ (endL x).o zS.o && ((endL x).B == zS.B && true))) h5 rfl fun w5 F5 h6 s5=>?_⟩;obtain⟨F7,h7,sub⟩:=drop_left (re h6 (sw4 _ _ _));exact r v w5 F7 h7 ((s34.trans s5).sub sub)
theorem QaK{o:Op}(h:o.D.size<=1024):(argW o).length<=1030:=by
 unfold argW;have hl:=Q0k o.D;split
 ·show 4<=1030;omega
 split
 ·show 2<=1030;omega
 split
 ·rw[zzlna,List.length_cons,hl];show 2+(o.D.size+1)<=1030;omega
 ·exact Nat.zero_le _
theorem QbB{x:Stp}(h:x.o.D.size<=1024):(stpW x).length<=1050:=by
 unfold stpW;rw[List.length_cons,List.length_cons,zzlna];have h1:=Q6U x;have h2:=QaK h;split
 ·omega
 ·rw[List.length_nil];omega
theorem Qek(hH:Hd.U64 x.o.H)(hD:x.o.D.size<=1024)(hl:out.length+2000<=1000000)(h:X.P w F)(e:X=pnT b v bad out*C)
  (r:∀v' w' F',(pnT b v' (bad || stpB x) (out++stpW x)*C).P w' F'->Step F w F' w'->R (.tuple #[]) w') :
  CS 61 #[zP b,spV x] w R:=by
 subst e;obtain⟨⟨K,T,N,M,H,D⟩,B⟩:=x;constructor;refine vc232.ok ?_;unfold vc232;refine Q0j h fun n w1 F1 h1 s1 _=>?_;have h1:(skT n ⟨⟨K,T,N,M,H,D⟩,B⟩*(pnT b v bad out*C)).P w1 F1:=h1;have hx1:=Q09 h1 rfl;have h1:(pnT b v bad out*(skT n ⟨⟨K,T,N,M,H,D⟩,B⟩*C)).P w1 F1:=re h1 (sw4 _ _ _);refine⟨K,by rw[Q02,Q02];exact Q01 hx1 rfl,?_⟩
 let hb:Bool:=headB ⟨K,T,N,M,H,D⟩
 refine⟨fun w'=>∃F',(pnT b v (bad || hb) out*(skT n ⟨⟨K,T,N,M,H,D⟩,B⟩*C)).P w' F' /\ Step F w F' w',?_,?_⟩
 ·have put:∀bb:Bool,(bad || hb)=bb->WrC w1 ((zA b).add 1) 1 /\ ∀w2,w2=wr w1 ((zA b).add 1) [.bool bb]->∃F',(pnT b v (bad || hb) out*(skT n ⟨⟨K,T,N,M,H,D⟩,B⟩*C)).P w2 F' /\ Step F w F' w2:=fun bb eb=>by
   rw[eb];exact Q22 (bb:=bb) h1 rfl fun w2 F2 h2 s2=>⟨F2,h2,s1.trans s2⟩
  have rT:w1.cell? (((zA n).add 0).add 1)=some (.int .i64 T):=by rw[Q02,Q02];exact Q01 hx1 rfl
  refine⟨bad,by rw[Q02];exact Q01 (Q12 h1 rfl) rfl,Q05 (fun q=>?_) (fun q=>?_)⟩
  ·exact put true (by rw[q];rfl)
  refine Q05 (fun q1=>put true (by show(bad || (decide (K<0) || (decide (K>=16) || (decide (T<0) || decide (T>255)))))=true;rw[q,q1];rfl)) (fun q1=>?_);refine Q05 (fun q2=>put true (by show(bad || (decide (K<0) || (decide (K>=16) || (decide (T<0) || decide (T>255)))))=true;rw[q,q1,q2];rfl)) (fun q2=>?_);refine⟨T,rT,Q05 (fun q3=>put true (by show(bad || (decide (K<0) || (decide (K>=16) || (decide (T<0) || decide (T>255)))))=true;rw[q,q1,q2,q3];rfl)) (fun q3=>⟨T,rT,put _ ?_⟩)⟩;show(bad || (decide (K<0) || (decide (K>=16) || (decide (T<0) || decide (T>255)))))=_;rw[q,q1,q2,q3];rfl
 rintro _ w2 ⟨F2,h2,s2⟩;rintro w3 rfl;have h3:=Thing.grow h2 (Ext.drew w2);have s3:=s2.trans (Step.ext (Ext.drew w2));generalize w2.drew=w3 at h3 s3 ⊢;have hx3:=Q09 (b:=n) (o:=skO ⟨⟨K,T,N,M,H,D⟩,B⟩) (C:=pnT b v (bad || hb) out*C) h3 (sw4 _ _ _);obtain⟨p,c,rfl⟩:=Q17 h3 rfl;refine⟨p,_,c,by rw[Q02];exact Q01 (Q12 h3 rfl) rfl,rfl,T,by rw[Q02,Q02];exact Q01 hx3 rfl,rfl,?_⟩;refine Q2n (news:=[byI K,byI T]) h3 rfl (by rw[Q1U,Q1U];rfl) (by show out.length+2<=_;omega) fun v4 w4 F4 h4 s4=>?_;have s4:=s3.trans s4
 let x1:Stp:=hndL ⟨⟨K,T,N,M,H,D⟩,B⟩
 let hw:List UInt8:=if 6<=K /\ K<=11 then hndW ⟨⟨K,T,N,M,H,D⟩,B⟩else []
 let b1:Bool:=decide (6<=K /\ K<=11) && hndB ⟨⟨K,T,N,M,H,D⟩,B⟩
 have hwl:hw.length<=9:=by
  show(if 6<=K /\ K<=11 then hndW ⟨⟨K,T,N,M,H,D⟩,B⟩else []).length<=9;split
  ·exact Q6U _
  ·exact Nat.zero_le _
 have hl2:(out++[byI K,byI T]).length=out.length+2:=by rw[zzlna];rfl
 refine⟨fun w'=>∃v' F',(pnT b v' ((bad || hb) || b1) (out++[byI K,byI T]++hw)*(skT n x1*C)).P w' F' /\ Step F w F' w',?_,?_⟩
 ·have no:¬(6<=K /\ K<=11)->∃v' F',(pnT b v' ((bad || hb) || b1) (out++[byI K,byI T]++hw)*(skT n x1*C)).P w4 F' /\ Step F w F' w4:=fun z=>by
   have e1:x1=⟨⟨K,T,N,M,H,D⟩,B⟩:=if_neg z;have e2:hw=[]:=if_neg z;have e3:b1=false:=by show(decide (6<=K /\ K<=11) && _)=false;rw[zzdcf z];rfl
   rw[e1,e2,e3,List.append_nil,Bool.or_false];exact⟨v4,F4,h4,s4⟩
  refine Q05 (fun q1=>Q05 (fun q2=>?_) (fun q2=>?_)) (fun q1=>?_)
  ·have z:6<=K /\ K<=11:=⟨zzodt q1,zzodt q2⟩;refine Qad (x:=⟨⟨K,T,N,M,H,D⟩,B⟩) hH (by rw[hl2];omega) h4 rfl fun v5 w5 F5 h5 s5=>⟨rfl,v5,F5,?_,s4.trans s5⟩;have e1:x1=⟨⟨K,T,N,M,0,D⟩,0⟩:=if_pos z;have e2:hw=hndW ⟨⟨K,T,N,M,H,D⟩,B⟩:=if_pos z;have e3:b1=hndB ⟨⟨K,T,N,M,H,D⟩,B⟩:=by show(decide (6<=K /\ K<=11) && _)=_;rw[decide_eq_true z];rfl
   rw[e1,e2,e3];exact h5
  ·exact no fun z=>(of_decide_eq_false q2) z.2
  ·exact no fun z=>(of_decide_eq_false q1) z.1
 rintro _ w5 ⟨v5,F5,h5,s5⟩;have k1:x1.o.K=K:=by show(hndL _).o.K=K;unfold hndL;split <;> rfl
 have n1:x1.o.N=N:=by show(hndL _).o.N=N;unfold hndL;split <;> rfl
 have m1:x1.o.M=M:=by show(hndL _).o.M=M;unfold hndL;split <;> rfl
 have d1:x1.o.D=D:=by show(hndL _).o.D=D;unfold hndL;split <;> rfl
 have hst:stpB ⟨⟨K,T,N,M,H,D⟩,B⟩=(hb || (b1 || (argB ⟨K,T,N,M,H,D⟩ || !(opQ (endL (argL x1)).o zO && ((endL (argL x1)).B == 0 && true))))):=rfl;have hsw:stpW ⟨⟨K,T,N,M,H,D⟩,B⟩=[byI K,byI T]++(hw++argW ⟨K,T,N,M,H,D⟩):=rfl;rw[hst,hsw] at r;have eN:∀w':List UInt8,out++[byI K,byI T]++hw++w'=out++([byI K,byI T]++(hw++w')):=fun w'=>by rw[List.append_assoc,List.append_assoc]
 have eBad:∀q:Bool,((((bad || hb) || b1) || argB ⟨K,T,N,M,H,D⟩) || q)=(bad || (hb || (b1 || (argB ⟨K,T,N,M,H,D⟩ || q)))):=fun q=>by rw[Bool.or_assoc,Bool.or_assoc,Bool.or_assoc]
 have hl3:(out++[byI K,byI T]++hw).length<=out.length+11:=by rw[zzlna,hl2];omega
 generalize out++[byI K,byI T]++hw=o3 at h5 eN hl3;generalize(bad || hb || b1)=b3 at h5 eBad;generalize x1=z at h5 k1 n1 m1 d1 r;obtain⟨⟨zK,zT,zN,zM,zH,zD⟩,zB⟩:=z;have k1:zK=K:=k1;have n1:zN=N:=n1;have m1:zM=M:=m1;have d1:zD=D:=d1;subst k1 n1 m1 d1;have fin:∀v' w' F',(pnT b v' (b3 || argB ⟨zK,T,zN,zM,H,zD⟩) (o3++argW ⟨zK,T,zN,zM,H,zD⟩)*(skT n (argL ⟨⟨zK,zT,zN,zM,zH,zD⟩,zB⟩)*C)).P w' F'->Step F w F' w'->stEnd b n R w':=fun v' w' F' p st=>by
  refine Qfs p fun v2 w2 F2 p2 st2=>?_;rw[eBad,eN] at p2;exact r v2 w2 F2 p2 (st.trans st2)
 clear r;refine⟨fun w'=>∃v' F',(pnT b v' (b3 || argB ⟨zK,T,zN,zM,H,zD⟩) (o3++argW ⟨zK,T,zN,zM,H,zD⟩)*(skT n (argL ⟨⟨zK,zT,zN,zM,zH,zD⟩,zB⟩)*C)).P w' F' /\ Step F w F' w',?_,fun _ w' ⟨v',F',p,st⟩=>fin v' w' F' p st⟩;have a6:∀j:Nat,(((zA n).add 0).add j)=⟨n,0+0+j,none⟩:=fun j=>by rw[Q02,Q02]
 refine⟨fun bb w'=>bb=decide (zK=1 \/ zK=2 \/ zK=5 \/ zK=9) /\ w'=w5,?_,?_⟩
 ·refine Q05 (fun q=>⟨?_,rfl⟩) (fun q=>Q05 (fun q2=>⟨?_,rfl⟩) (fun q2=>Q05 (fun q3=>⟨?_,rfl⟩) (fun q3=>⟨?_,rfl⟩)))
  ·have q':zK=1:=by simpa using q
   rw[q,decide_eq_true (.inl q')]
  ·have q':zK=2:=by simpa using q2
   rw[q2,decide_eq_true (.inr (.inl q'))]
  ·have q':zK=5:=by simpa using q3
   rw[q3,decide_eq_true (.inr (.inr (.inl q')))]
  ·have a1:¬zK=1:=by simpa using q
   have a2:¬zK=2:=by simpa using q2
   have a3:¬zK=5:=by simpa using q3
   by_cases a4:zK=9
   ·rw[decide_eq_true (.inr (.inr (.inr a4)))];simp[a4]
   ·rw[zzdcf (by omega)];simp[a4]
 rintro _ bb w7 ⟨rfl,rfl⟩;unfold argB argW argL;refine Q05 (fun q=>?_) (fun q=>?_)
 ·have q:=zzodt q;simp only[if_pos q];rw[a6,a6];refine Q7D (m:=n) (i:=2) (n:=zN) (arr:=(spL ⟨⟨zK,zT,zN,zM,zH,zD⟩,zB⟩).toArray) (T:=62) rfl (by omega) h5 rfl fun v6 w6 F6 h6 s6=>⟨rfl,?_⟩;have hl6:(o3++numW zN).length=o3.length+2:=by rw[zzlna];rfl
  refine Q7D (m:=n) (i:=3) (n:=zM) (arr:=(spL ⟨⟨zK,zT,0,zM,zH,zD⟩,zB⟩).toArray) (T:=62) rfl (by rw[hl6];omega) h6 rfl fun v8 w8 F8 h8 s8=>⟨rfl,v8,F8,?_,(s5.trans s6).trans s8⟩;rw[Bool.or_assoc,List.append_assoc] at h8;exact h8
 have q:=of_decide_eq_false q;simp only[if_neg q];refine⟨fun bb w'=>bb=decide (zK=4 \/ zK=7 \/ zK=11) /\ w'=w7,?_,?_⟩
 ·refine Q05 (fun q=>⟨?_,rfl⟩) (fun q=>Q05 (fun q2=>⟨?_,rfl⟩) (fun q2=>⟨?_,rfl⟩))
  ·have q':zK=4:=by simpa using q
   rw[q,decide_eq_true (.inl q')]
  ·have q':zK=7:=by simpa using q2
   rw[q2,decide_eq_true (.inr (.inl q'))]
  ·have a1:¬zK=4:=by simpa using q
   have a2:¬zK=7:=by simpa using q2
   by_cases a4:zK=11
   ·rw[decide_eq_true (.inr (.inr a4))];simp[a4]
   ·rw[zzdcf (by omega)];simp[a4]
 rintro _ bb w8 ⟨rfl,rfl⟩;refine Q05 (fun q2=>?_) (fun q2=>?_)
 ·have q2:=zzodt q2;simp only[if_pos q2];rw[a6];exact Q7D (m:=n) (i:=2) (n:=zN) (arr:=(spL ⟨⟨zK,zT,zN,zM,zH,zD⟩,zB⟩).toArray) (T:=62) rfl (by omega) h5 rfl fun v6 w6 F6 h6 s6=>⟨rfl,v6,F6,h6,s5.trans s6⟩
 have q2:=of_decide_eq_false q2;simp only[if_neg q2];refine Q05 (fun q3=>?_) (fun q3=>?_)
 case refine_2=>
  have q3:¬zK=10:=by simpa using q3
  simp only[if_neg q3];refine⟨v5,F5,?_,s5⟩;rw[Bool.or_false,List.append_nil];exact h5
 have q3:zK=10:=by simpa using q3
 simp only[if_pos q3];rw[a6];refine Q7D (m:=n) (i:=2) (n:=zN) (arr:=(spL ⟨⟨zK,zT,zN,zM,zH,zD⟩,zB⟩).toArray) (T:=62) rfl (by omega) h5 rfl fun v6 w6 F6 h6 s6=>⟨rfl,?_⟩;have h6:(pnT b v6 (b3 || numB? zN) (o3++numW zN)*(skT n ⟨⟨zK,zT,0,zM,zH,zD⟩,zB⟩*C)).P w6 F6:=h6;have s6:=s5.trans s6;have hl6:(o3++numW zN).length=o3.length+2:=by rw[zzlna];rfl
 have rD:∀ {w':World} {F':Nat->Prop} {v:Value} {bad:Bool} {out:List UInt8},(pnT b v bad out*(skT n ⟨⟨zK,zT,0,zM,zH,zD⟩,zB⟩*C)).P w' F'->w'.cell? (((zA n).add 0).add 5)=some (.string zD):=fun {w' F' v bad out} p=>by
  rw[a6];exact Q01 (Q09 (b:=n) (o:=skO ⟨⟨zK,zT,0,zM,zH,zD⟩,zB⟩) (C:=pnT b v bad out*C) p (sw4 _ _ _)) rfl
 refine⟨fun w'=>∃F',(pnT b v6 ((b3 || numB? zN) || decide ((zD.size:Int)>255)) (o3++numW zN)*(skT n ⟨⟨zK,zT,0,zM,zH,zD⟩,zB⟩*C)).P w' F' /\ Step F w F' w',?_,?_⟩
 ·refine⟨_,by rw[Q02];exact Q01 (Q12 h6 rfl) rfl,Q05 (fun q4=>?_) (fun q4=>?_)⟩
  ·rw[q4];exact Q22 (bb:=true) h6 rfl fun w9 F9 h9 s9=>⟨F9,h9,s6.trans s9⟩
  ·refine⟨zD,rD h6,Q22 (bb:=decide ((zD.size:Int)>255)) h6 rfl fun w9 F9 h9 s9=>⟨F9,?_,s6.trans s9⟩⟩;rw[q4,Bool.false_or];exact h9
 rintro _ w9 ⟨F9,h9,s9⟩;rintro w10 rfl;have h10:=Thing.grow h9 (Ext.drew w9);have s10:=s9.trans (Step.ext (Ext.drew w9));generalize w9.drew=w10 at h10 s10 ⊢;obtain⟨p10,c10,rfl⟩:=Q17 h10 rfl;have hD:zD.size<=1024:=hD;refine⟨p10,_,c10,by rw[Q02];exact Q01 (Q12 h10 rfl) rfl,zD,rD h10,trivial,trivial,?_⟩;refine Q2n (news:=[byI (zD.size:Int)]) h10 rfl (by rw[Q1U];rfl) (by show _+1<=_;rw[hl6];omega) fun v11 w11 F11 h11 s11=>?_;have s11:=s10.trans s11;rintro w12 rfl;have h12:=Thing.grow h11 (Ext.drew w11);have s12:=s11.trans (Step.ext (Ext.drew w11));generalize w11.drew=w12 at h12 s12 ⊢;obtain⟨p12,c12,rfl⟩:=Q17 h12 rfl;have hl12:(o3++numW zN++[byI (zD.size:Int)]).length=o3.length+3:=by rw[zzlna,hl6];rfl
 refine⟨p12,_,c12,by rw[Q02];exact Q01 (Q12 h12 rfl) rfl,zD,rD h12,Qfe h12 rfl (by rw[hl12];omega) fun v13 w13 F13 h13 s13=>?_⟩;rw[a6];refine Q2A (i:=5) (x:=⟨⟨zK,zT,0,zM,zH,zD⟩,zB⟩) (x':=⟨⟨zK,zT,0,zM,zH,ByteArray.mk #[]⟩,zB⟩) (C:=pnT b v13 (b3 || numB? zN || decide ((zD.size:Int)>255)) (o3++numW zN++[byI (zD.size:Int)]++bytesOf zD)*C) h13 (sw4 _ _ _) rfl (by omega) rfl fun w14 F14 h14 s14=>?_;refine⟨v13,F14,?_,(s12.trans s13).trans s14⟩;have eo:o3++numW zN++[byI (zD.size:Int)]++bytesOf zD=o3++(numW zN++(byI (zD.size:Int) :: bytesOf zD)):=by
  rw[List.append_assoc,List.append_assoc];rfl
 rw[eo,Bool.or_assoc] at h14;exact re h14 (sw4 _ _ _)
theorem Qej{p:Option Addr}{c:Nat}{l:List Stp}(hlen:l.length<=150)(hok:∀x ∈ l,Hd.U64 x.o.H /\ x.o.D.size<=1024)(h:(stpsT (.slice p l.length c) l*C).P w F)
  (r0:∀(e:Int) w' F',e ≠ 0->(stpsT (.slice p l.length c) l*C).P w' F'->Step F w F' w'->R (.tuple #[.string (ByteArray.mk #[]),.int .i64 e]) w')
  (r1:∀w' F',(∀x ∈ l,stpB x=false)->(l.flatMap stpW).length<=16384->(stpsT (.slice p l.length c) l*C).P w' F'->Step F w F' w'->R (.tuple #[.string (strOf (l.flatMap stpW)),.int .i64 0]) w') :
  CS 26 #[.slice p l.length c] w R:=by
 constructor;refine vc70.ok ?_;unfold vc70;refine Q0j h fun b w1 F1 h1 s1 _=>Q00 (zzdcf (by omega)) ?_;have h1:(blk b (pnO (.slice none 0 0) false)*(stpsT (.slice p l.length c) l*C)).P w1 F1:=h1;have h2:(pnT b (.slice none 0 0) false []*(stpsT (.slice p l.length c) l*C)).P w1 F1:=re (Q3i (e:=5) (k:=1) (f:=byF) h1) (by unfold pnT;show blk b (pnO (.slice none 0 0) false)*(stpsT (.slice p l.length c) l*C)*byT (.slice none 0 0) []=_;ac_rfl);have hw:∀j,((l.take j).flatMap stpW).length<=j*1050:=fun j=>by
  induction j with
  | zero=>exact Nat.le_refl _
  | succ j ih=>
   by_cases hj:j<l.length
   ·rw[List.take_add_one,zzgge hj,List.flatMap_append,zzlna];have:=QbB (hok _ (List.getElem_mem hj)).2;have e1:((some l[j]).toList.flatMap stpW)=stpW l[j]:=by simp
    rw[e1];omega
   ·rw[List.take_of_length_le (by omega)] at ih ⊢;omega
 refine⟨fun f i w'=>∃j:Nat,i=(j:Int) /\ f+j=l.length /\ (∀x ∈ l.take j,stpB x=false) /\ ∃v F',(pnT b v false ((l.take j).flatMap stpW)*(stpsT (.slice p l.length c) l*C)).P w' F' /\ Step F w F' w',⟨l.length,0,rfl,rfl,fun x hx=>(by cases hx),_,F1,h2,s1⟩,?_⟩;rintro f jv i w2 ⟨j,rfl,hf,hgood,v,F2,h2,s2⟩;refine Q05 (fun q=>?_) (fun q=>?_)
 ·have q:=zzodt q;have hj:j<l.length:=by omega
  obtain⟨x,hx⟩:∃x,l[j]? = some x:=⟨_,zzgge hj⟩;obtain⟨x1,x2⟩:=hok x (zzmog hx);have hrow:=Q5C (e:=62) (k:=7) (f:=spL) (v:=.slice p l.length c) (l:=l) (Y:=pnT b v false ((l.take j).flatMap stpW)*C) h2 (by show pnT b v false _*(stpsT (.slice p l.length c) l*C)=stpsT (.slice p l.length c) l*_;ac_rfl);obtain⟨a,hp,hcells⟩:=ORow.cells Q4I hrow hx;refine⟨by omega,by omega,?_⟩;subst hp;rw[zztnc];refine⟨_,_,_,_,_,_,_,hcells,Q0j h2 fun n w3 F3 h3 s3 _=>?_⟩;refine Q0B (b:=n) (o:=0) (arr:=(spL zS).toArray) (T:=62) (C:=pnT b v false ((l.take j).flatMap stpW)*(stpsT (.slice (some a) l.length c) l*C)) h3 rfl (by simp) fun w4 F4 h4 s4=>?_;rw[setAt7 _ rfl] at h4;have h4:(skT n x*(pnT b v false ((l.take j).flatMap stpW)*(stpsT (.slice (some a) l.length c) l*C))).P w4 F4:=h4;refine⟨_,_,_,_,_,_,_,Q07 (vs:=spL x) (Q09 h4 rfl),?_⟩;have hwj:=hw j;refine Qek (x:=x) (C:=skT n x*(stpsT (.slice (some a) l.length c) l*C)) x1 x2 (by omega) h4 (sw4 _ _ _) fun v5 w5 F5 h5 s5=>⟨rfl,?_⟩;rw[Bool.false_or] at h5;have e1:(l.take (j+1)).flatMap stpW=(l.take j).flatMap stpW++stpW x:=by rw[List.take_add_one,hx,List.flatMap_append];simp
  have s5:=((s2.trans s3).trans s4).trans s5;refine⟨stpB x,by rw[Q02];exact Q01 (Q12 h5 rfl) rfl,Q05 (fun q2=>?_) (fun q2=>?_)⟩
  ·obtain⟨F6,h6,sub⟩:=drop_left (A:=pnT b v5 (stpB x) ((l.take j).flatMap stpW++stpW x)*skT n x) (B:=stpsT (.slice (some a) l.length c) l*C) (re h5 (by rw[Thing.mul_assoc]));exact r0 12 w5 F6 (by omega) h6 (s5.sub sub)
  ·rw[q2] at h5;obtain⟨F6,h6,sub⟩:=drop_left (re h5 (sw4 _ _ _));refine⟨f-1,by omega,j+1,by rw[Q04 (by omega) (by omega)];omega,by omega,fun y hy=>?_,v5,F6,by rw[e1];exact h6,s5.sub sub⟩;rw[List.take_add_one,hx] at hy;rcases zzmpd.1 hy with hy | hy
   ·exact hgood y hy
   ·have:y=x:=by simpa using hy
    rw[this];exact q2
 ·have q:=of_decide_eq_false q;have ej:l.take j=l:=List.take_of_length_le (by omega);rw[ej] at h2 hgood;obtain⟨p2,c2,rfl⟩:=Q17 h2 rfl;have hc:w2.cell? ((zA b).add 0)=some (.slice p2 (l.flatMap stpW).length c2):=by rw[Q02];exact Q01 (Q12 h2 rfl) rfl
  obtain⟨F6,h6,sub⟩:=drop_left h2;refine⟨p2,_,c2,hc,Q05 (fun q2=>?_) (fun q2=>?_)⟩
  ·exact r0 14 w2 F6 (by omega) h6 (s2.sub sub)
  ·have q2:=of_decide_eq_false q2;have hr:=Q5C (e:=5) (k:=1) (f:=byF) (v:=.slice p2 (l.flatMap stpW).length c2) (l:=l.flatMap stpW) (Y:=blk b (pnO (.slice p2 (l.flatMap stpW).length c2) false)*(stpsT (.slice p l.length c) l*C)) h2 (by unfold pnT;show _=byT (.slice p2 (l.flatMap stpW).length c2) (l.flatMap stpW)*_;ac_rfl);refine⟨p2,_,c2,hc,l.flatMap stpW,rfl,fun j x hx=>?_,r1 w2 F6 hgood (by omega) h6 (s2.sub sub)⟩;obtain⟨a,ha,hcell⟩:=ORow.cells Q8s hr hx;have:=hcell 0 _ rfl;rw[Addr.add_add,Nat.mul_one,Nat.add_zero] at this;exact⟨a,ha,this⟩
end
end
set_option maxRecDepth 20000
section
open Go.RowKit Go.Maps Thing
theorem Qat{W:World}(tab:Sf.Tab W):∃o,(tabT o).P W (· = 0):=by
 have h:=tab 0 _ rfl;cases e:W.heap[0]? with
 | none=>unfold World.cell? at h;rw[e] at h;cases h
 | some o=>exact⟨o,tab,e,rfl⟩
abbrev cfO(P0 C0:Int):Obj:=.cells #[.int .i64 P0,.int .i64 C0] 23 (0,0)
theorem Qa7{o:Obj}{W w:World}{F:Nat->Prop}{C:Thing}(h0:(tabT o).P W (· = 0))(h:(tabT o*C).P w F)(st:Step (· = 0) W F w) :
  CS 11 #[] w fun(v:Value) (w':World)=>∃(b:Bool),v=.bool b /\ Yes W (.bool b) w':=by
 obtain⟨F1,h1,sub⟩:=Q0e (A:=tabT o) (Y:=C) h rfl;refine Qe9 h1 fun w' F' h2 s2=>⟨true,rfl,rfl,?_⟩;exact Q2i h0 h2 ((st.sub sub).trans s2)
theorem QfA{s:Sv}{sb:Nat}{y:Sy}{x:Se}{o:Obj}{W w:World}{F:Nat->Prop}{X C:Thing}(h0:(tabT o).P W (· = 0))(ho:s.o=o)(h:X.P w F)(e:X=svX s sb y x*C)(st:Step (· = 0) W F w) :
  CS 11 #[] w fun(v:Value) (w':World)=>∃(b:Bool),v=.bool b /\ Yes W (.bool b) w':=by
 subst ho;exact Qa7 (C:=svTb s sb y x*C) h0 (re h (by rw[e,Q3o,Thing.mul_assoc])) st
end
end Go.Proofs.YtpnbcakbefplpaaGreatDoor
