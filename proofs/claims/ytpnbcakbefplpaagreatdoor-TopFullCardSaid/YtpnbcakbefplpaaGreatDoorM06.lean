/- Texts merged: Ok4 Ok5 Ok6 Ok7 Ok8 Ok9 Se1 Se2 Se3 Se4 Se5 Sq1 Aw1 Aw2 Sc1 Sc2 Sc3 Sc4 Sc5 Rn1 Rn2 Rn3 Rn4 Pl1 Wt1 Cv1 Wf1 Cv2. Conditions: none. -/
import Derived.KernelRfl
import Derived.Laws.IdiomStrings
import Derived.Test.YtpnbcakbefplpaaGreatDoorM05
set_option linter.unusedVariables false
set_option linter.unusedSimpArgs false
namespace Go.Proofs.YtpnbcakbefplpaaGreatDoor
open _root_.Go.Proofs.Tryz (prog)
section
open Go.RowKit Go.Maps Thing
structure SamE (H H':Hp):Prop where
 bks:∀k m b,k<24->m<sltN k->b<perM k->(bk H' k m b ↔ bk H k m b)
 us:∀k m,k<24->m<sltN k->usd H' k m=usd H k m
 sl:∀k,k<24->slK H' k=slK H k
 tk:∀k m,k<24->m<sltN k->((H'.sl k)[m]? = some true ↔ (H.sl k)[m]? = some true)
theorem SamE.refl(H:Hp):SamE H H:=⟨fun _ _ _ _ _ _=>Iff.rfl,fun _ _ _ _=>rfl,fun _ _=>rfl,fun _ _ _ _=>Iff.rfl⟩
section
variable{s:Sv}{A:Ax}{H H' H1:Hp}
theorem Q9Y{k m:Nat}{q:Pg}{q':Pq}(h8:k<8)(hm:m<sltN k)(ht:(H.sl k)[m]? = some true)(hS:H.S (locN k m)=some q)(hq:q'.hs=q.q.hs)(eS:H'.S=updI H.S (locN k m) (some {q with q:=q'}))(el:H'.sl=H.sl):SamE H H':=by
 refine⟨fun k' m' b' hk' hm' hb'=>?_,fun k' m' hk' hm'=>?_,fun k' hk'=>Q2f el k',fun k' m' _ _=>by rw[el]⟩
 ·rw[Q68 h8 hm eS el b' hk' hm'];by_cases e:k'=k /\ m'=m
  ·rw[if_pos e,e.1,e.2];show _ /\ q'.hs[b']? = some true ↔ _;rw[hq];exact⟨fun⟨a,c⟩=>⟨a,fun _=>⟨q,hS,c⟩⟩,fun⟨a,c⟩=>⟨a,by obtain⟨g,x,y⟩:=c h8;rw[hS] at x;cases x;exact y⟩⟩
  ·rw[if_neg e]
 ·rw[Q3d h8 hm eS el hk' hm'];by_cases e:k'=k /\ m'=m
  ·rw[if_pos e,e.1,e.2];show q'.hs.count true=_;rw[hq];unfold usd;rw[if_pos h8,hS]
  ·rw[if_neg e]
theorem Q9E(g:HOk s A H){k m:Nat}{q:Pg}(h8:k<8)(hm:m<sltN k)(ht:(H.sl k)[m]? = some true)(hS:H.S (locN k m)=some q)(hk:q.kind=k) :
  ((maF A H k (locN k m) q).E=0->∃b,(maF A H k (locN k m) q).I=(adrN k m b:Int) /\ MalE H (maF A H k (locN k m) q).H k m b) /\ ((maF A H k (locN k m) q).E ≠ 0->SamE H (maF A H k (locN k m) q).H):=by
 subst hk;obtain⟨_,pq,_⟩:=g.pg _ q hS;obtain⟨p,e1,e2,e3,e4⟩:=g.pgs hS;obtain⟨fr,pq',a0,a1⟩:=Q8O (s:=q.q.st A.bs A.ts) h8 e3 e4 pq;obtain⟨l1,l2⟩:=Q1e (k:=q.kind) (by omega) hm;have hloc:(locN q.kind m:Int)-(locN q.kind 0:Int)=(m:Int):=by
  unfold locN;rw[show pagN q.kind=1 from if_pos h8];omega
 unfold maF;rw[hloc];generalize aloS (unitN q.kind) (perN q.kind) q.base (q.q.st A.bs A.ts)=st at fr pq' a0 a1 ⊢;generalize aloI (unitN q.kind) (perN q.kind) q.base (q.q.st A.bs A.ts)=I at a0 ⊢;generalize aloE (unitN q.kind) (perN q.kind) q.base (q.q.st A.bs A.ts)=E at a0 a1 ⊢;by_cases hE:E=0
 ·rw[if_pos hE];obtain⟨b,rfl,hb,hst⟩:=a0 hE;have hb':q.q.hs[b]? = some false:=hb;have hbl:=(zzgsi.1 hb').1;have hp:perM q.kind=perN q.kind:=if_pos h8;have hin:InB q.kind (m:Int) (b:Int):=⟨by omega,by omega,by omega,by have:=pq.hl;omega⟩;have eE:placE q.kind (m:Int) (b:Int)=0:=if_pos hin;have eI:placI q.kind (m:Int) (b:Int)=(adrN q.kind m b:Int):=by unfold placI;rw[if_pos hin,zztnc,zztnc]
  refine⟨fun _=>⟨b,eI,?_⟩,fun h=>absurd eE h⟩;have key:∀H2:Hp,H2.S=updI H.S (locN q.kind m) (some {q with q:=st.pq})->H2.sl=H.sl->MalE H H2 q.kind m b:=fun H2 x y=>Qc3 h8 hm ht hS hb' pq.hl hst x y;show MalE H (if st.hs.count false=0 then _ else _) _ _ _;split
  ·exact key _ rfl rfl
  ·exact key _ rfl rfl
 ·rw[if_neg hE];refine⟨fun h=>absurd h hE,fun _=>?_⟩;exact Q9Y (q':=st.pq) h8 hm ht hS (a1 hE) rfl rfl
theorem Q8e{k base:Nat}(h8:k<8)(bs:List UInt8)(ts:List Tch):aloE (unitN k) (perN k) base ((newPq k).st bs ts)=0:=by
 have hp:=(Q0h h8).2.2.1;show(if (0:Int) ≤ -1 then _ else if (0:Int) ≤ -1 then _ else if (0:Nat)=perN k then(10:Int)else Sf.takeAtE (List.replicate (perN k) false) 0)=0;rw[if_neg (show ¬(0:Int) ≤ -1 by omega),if_neg (show ¬(0:Int) ≤ -1 by omega),if_neg (show ¬(0:Nat)=perN k by omega)];show Sf.takeAtE (List.replicate (perN k) false) 0=0;unfold Sf.takeAtE;rw[if_pos ⟨by omega,by rw[zzlrp];omega⟩,if_neg];rw[show(0:Int).toNat=0 from rfl,List.getElem?_replicate,if_pos (by omega)];simp
theorem Q7k(g:HOk s A H)(n:Int):((malM s A H n).E=0->∃k m b:Nat,clsI n=(k:Int) /\ (malM s A H n).I=(adrN k m b:Int) /\ MalE H (malM s A H n).H k m b) /\ ((malM s A H n).E ≠ 0->SamE H (malM s A H n).H):=by
 obtain⟨c24,cm1⟩:=Q2s n;unfold malM;by_cases h1:clsI n<0
 ·rw[if_pos h1];exact⟨fun h=>(by cases h),fun _=>SamE.refl H⟩
 rw[if_neg h1];obtain⟨k,hk⟩:=zzeoz (show 0<=clsI n by omega);have k24:k<24:=by omega
 rw[hk,zztnc];by_cases h2:(8:Int)<=(k:Int)
 ·rw[if_pos h2];by_cases hB:hoB s A H k=true
  ·rw[if_pos hB];obtain⟨m,hm,hms,hf,eI,h⟩:=Q6n g k24 hB;have hin:InB k (m:Int) 0:=⟨by omega,by omega,by omega,by have:=(Q0D k24).2.2.2.1;omega⟩;have e1:placE k (m:Int) 0=0:=if_pos hin;have e2:placI k (m:Int) 0=(adrN k m 0:Int):=by unfold placI;rw[if_pos hin,zztnc];rfl
   rw[eI];refine⟨fun _=>⟨k,m,0,rfl,e2,?_⟩,fun z=>absurd e1 z⟩;have eH:=h.eH;exact Qez k24 (by omega) hms (g.sl k k24) hf (by show(hoH s A H k).sl=_;rw[eH]) (by show(hoH s A H k).S=_;rw[eH])
  ·rw[if_neg hB];exact⟨fun h=>(by cases h),fun _=>SamE.refl H⟩
 rw[if_neg h2];have k8:k<8:=by omega
 unfold malK;cases hL:H.ln k with
 | cons v rest=>
  have hv:v ∈ H.ln k:=by rw[hL];simp
  obtain⟨q,a,b,c⟩:=((g.ln k k8).2 v).1 hv;show((match H.S v with | some g=>maF A H k v g | none=>⟨0,11,A,H⟩:Mr).E=0->∃k' m b:Nat,(k:Int)=(k':Int) /\ (match H.S v with | some g=>maF A H k v g | none=>⟨0,11,A,H⟩:Mr).I=(adrN k' m b:Int) /\ MalE H (match H.S v with | some g=>maF A H k v g | none=>⟨0,11,A,H⟩:Mr).H k' m b) /\ ((match H.S v with | some g=>maF A H k v g | none=>⟨0,11,A,H⟩:Mr).E ≠ 0->SamE H (match H.S v with | some g=>maF A H k v g | none=>⟨0,11,A,H⟩:Mr).H);rw[a];obtain⟨a1,a2,m,a3,a4,a5,_⟩:=g.pg v q a;rw[b] at a3 a4 a5;subst a4;obtain⟨x,y⟩:=Q9E g k8 a3 a5 a b;exact⟨fun z=>by obtain⟨bb,u,w⟩:=x z;exact⟨k,m,bb,rfl,u,w⟩,y⟩
 | nil=>
  show((if hoB s A H k=true then _ else _:Mr).E=0->∃k' m b:Nat,(k:Int)=(k':Int) /\ (if hoB s A H k=true then _ else _:Mr).I=(adrN k' m b:Int) /\ MalE H (if hoB s A H k=true then _ else _:Mr).H k' m b) /\ ((if hoB s A H k=true then _ else _:Mr).E ≠ 0->SamE H (if hoB s A H k=true then _ else _:Mr).H);by_cases hB:hoB s A H k=true
  case neg=>rw[if_neg hB];exact⟨fun h=>(by cases h),fun _=>SamE.refl H⟩
  rw[if_pos hB];obtain⟨st,eS,eln⟩:=Q2v g k8 hB;obtain⟨m,hm,hms,hf,eI,h⟩:=Q6n g k24 hB;have eV:nwV H k=(locN k m:Int):=by unfold nwV;rw[hm,zztnc]
  have eH:=h.eH;have esl:(nwH s A H k).sl=updF H.sl k ((H.sl k).set m true):=by show(hoH s A H k).sl=_;rw[eH]
  have hml:m<(H.sl k).length:=by rw[g.sl k k24];exact hms
  have ht:((nwH s A H k).sl k)[m]? = some true:=by rw[esl,Q0g,List.getElem?_set_self hml]
  rw[eV] at eS ⊢;obtain⟨x,y⟩:=Q9E st.ok k8 hms ht eS rfl;have e0:(maF (hoA s A H k) (nwH s A H k) k (locN k m) (nwG s A H k)).E=0:=by
   have hz:=Q8e (k:=k) (base:=(nwG s A H k).base) k8 (hoA s A H k).bs (hoA s A H k).ts;have hz:aloE (unitN k) (perN k) (nwG s A H k).base ((nwG s A H k).q.st (hoA s A H k).bs (hoA s A H k).ts)=0:=hz;obtain⟨b,hb,hbf,_⟩:=(Q8O (s:=(nwG s A H k).q.st (hoA s A H k).bs (hoA s A H k).ts) k8 (st.ok.pgs eS).choose_spec.2.2.1 (st.ok.pgs eS).choose_spec.2.2.2 (st.ok.pg _ _ eS).2.1).2.2.1 hz;unfold maF;rw[if_pos hz,hb];have hbl:=(zzgsi.1 hbf).1;have hl:((nwG s A H k).q.st (hoA s A H k).bs (hoA s A H k).ts).hs.length=perN k:=zzlrp;have hp:perM k=perN k:=if_pos k8;have hloc:(locN k m:Int)-(locN k 0:Int)=(m:Int):=by
    unfold locN;rw[show pagN k=1 from if_pos k8];omega
   rw[hloc];exact if_pos ⟨by omega,by omega,by omega,by omega⟩
  refine⟨fun _=>?_,fun z=>absurd e0 z⟩;obtain⟨b,u,w⟩:=x e0;refine⟨k,m,b,rfl,u,?_⟩;have hSn:H.S (locN k m:Int)=none:=by
   cases hS:H.S (locN k m:Int)with
   | none=>rfl
   | some q=>
    obtain⟨a1,_,m',a3,a4,a5,_⟩:=g.pg _ q hS;obtain⟨e1,e2⟩:=Q0Q k24 hms (by omega) a3 a4;rw[<-e1,<-e2,hf] at a5;cases a5
  have eSn:(nwH s A H k).S=updI H.S (locN k m) (some (nwG s A H k)):=by
   show updI H.S (nwV H k) _=_;rw[eV]
  have tkn:∀k' m',((nwH s A H k).sl k')[m']? = some true ↔ (H.sl k')[m']? = some true \/ (k'=k /\ m'=m):=fun k' m'=>by
   rw[esl];by_cases e:k'=k
   ·subst e;rw[Q0g,Q0I hml];exact⟨fun c=>c.elim (fun z=>.inr ⟨rfl,z⟩) .inl,fun c=>c.elim .inr fun z=>.inl z.2⟩
   ·rw[Q0n e];exact⟨.inl,fun c=>c.elim id fun z=>absurd z.1 e⟩
  have hs0:∀b',(nwG s A H k).q.hs[b']? ≠ some true:=fun b' z=>by
   have:=zzmog z;exact absurd (List.eq_of_mem_replicate this) (by simp)
  have bkn:∀k' m' b',k'<24->m'<sltN k'->(bk (nwH s A H k) k' m' b' ↔ bk H k' m' b'):=fun k' m' b' hk' hm'=>by
   unfold bk;rw[tkn,eSn];by_cases e:k'=k /\ m'=m
   ·rw[e.1,e.2,Q0r,hf];exact⟨fun⟨_,c⟩=>by obtain⟨g',x,y⟩:=c k8;cases x;exact absurd y (hs0 b'),fun c=>by simp at c⟩
   ·constructor
    ·rintro⟨a,c⟩;refine⟨a.resolve_right e,fun z=>?_⟩;obtain⟨g',x,y⟩:=c z;rw[Q0q (fun q=>e (Q0Q hk' hm' k24 hms q))] at x;exact⟨g',x,y⟩
    ·rintro⟨a,c⟩;refine⟨.inl a,fun z=>?_⟩;rw[Q0q (fun q=>e (Q0Q hk' hm' k24 hms q))];exact c z
  have usn:∀k' m',k'<24->m'<sltN k'->usd (nwH s A H k) k' m'=usd H k' m':=fun k' m' hk' hm'=>by
   unfold usd;rw[eSn];by_cases h8:k'<8
   ·rw[if_pos h8,if_pos h8];by_cases e:k'=k /\ m'=m
    ·rw[e.1,e.2,Q0r,hSn];show(List.replicate (perN k) false).count true=0;rw[List.count_replicate];simp
    ·rw[Q0q (fun q=>e (Q0Q hk' hm' k24 hms q))]
   ·rw[if_neg h8,if_neg h8];have:¬(k'=k /\ m'=m):=fun e=>h8 (by rw[e.1];exact k8);by_cases y:(H.sl k')[m']? = some true
    ·rw[if_pos y,if_pos ((tkn k' m').2 (.inl y))]
    ·rw[if_neg y,if_neg fun z=>((tkn k' m').1 z).elim y this]
  refine⟨w.k24,w.hm,w.hb,fun z=>w.no ((bkn k m b k24 hms).2 z),fun k' m' b' a c d=>by rw[w.bks k' m' b' a c d,bkn k' m' b' a c],fun k' m' a c=>by rw[w.us k' m' a c,usn k' m' a c],fun k' a=>?_,fun k' m' a c z=>?_⟩
  ·have e2:slK (nwH s A H k) k'=slK H k'+if k'=k then 1 else 0:=Qap hms (g.sl k k24) (by rw[hf];simp) esl k'
   have e3:slK (maF (hoA s A H k) (nwH s A H k) k (locN k m) (nwG s A H k)).H k'=slK (nwH s A H k) k':=Q2f (by
    unfold maF;split
    ·show(if _ then _ else _:Hp).sl=_;split <;> rfl
    ·rfl) k'
   rw[e3,e2];by_cases e:k'=k
   ·rw[if_pos e];exact .inr ⟨e,rfl,fun _=>Q6P g k8 hL⟩
   ·rw[if_neg e];exact .inl rfl
  ·rcases w.tk k' m' a c z with q | q
   ·exact(tkn k' m').1 q
   ·exact .inr q
end
end
section
open Go.RowKit Go.Maps Thing
structure FreE (H H':Hp) (k m b:Nat):Prop where
 bks:∀k' m' b',k'<24->m'<sltN k'->b'<perM k'->(bk H' k' m' b' ↔ bk H k' m' b' /\ ¬(k'=k /\ m'=m /\ b'=b))
 us:∀k' m',k'<24->m'<sltN k'->usd H' k' m'+(if k'=k /\ m'=m then 1 else 0)=usd H k' m'
 sl:∀k',k'<24->slK H' k'<=slK H k'
 tk:∀k' m',k'<24->m'<sltN k'->(H'.sl k')[m']? = some true->(H.sl k')[m']? = some true
 use:k<8->(H'.sl k)[m]? = some true->1<=usd H' k m
section
variable{s:Sv}{A:Ax}{H H':Hp}
theorem Q79{hs:List Bool}{m:Nat}(h:m<hs.length):Sf.giveH hs (m:Int)=hs.set m false:=by
 unfold Sf.giveH;rw[if_pos ⟨by omega,by omega⟩,zztnc]
theorem Qdr{k m:Nat}(hml:m<(H.sl k).length)(el:H'.sl=updF H.sl k ((H.sl k).set m false))(k' m':Nat):(H'.sl k')[m']? = some true ↔ (H.sl k')[m']? = some true /\ ¬(k'=k /\ m'=m):=by
 rw[el];by_cases e:k'=k
 ·subst e;rw[Q0g,zzgst];by_cases z:m=m'
  ·subst z;rw[if_pos rfl,if_pos hml];simp
  ·rw[if_neg z];exact⟨fun a=>⟨a,fun b=>z b.2.symm⟩,fun a=>a.1⟩
 ·rw[Q0n e];exact⟨fun a=>⟨a,fun b=>e b.1⟩,fun a=>a.1⟩
theorem Q7P{H H':Hp}(h:∀k' m':Nat,(H'.sl k')[m']? = some true->(H.sl k')[m']? = some true)(k:Nat):slK H' k<=slK H k:=by
 unfold slK;refine Q2G fun m _=>?_;by_cases y:(H'.sl k)[m]? = some true
 ·rw[if_pos y,if_pos (h k m y)];exact Nat.le_refl _
 ·rw[if_neg y];exact Nat.zero_le _
theorem Qey{k m b:Nat}(hk:k<24)(h8:8<=k)(hm:m<sltN k)(hb:b<perM k)(ht:(H.sl k)[m]? = some true)(el:H'.sl=updF H.sl k ((H.sl k).set m false))(eS:H'.S=H.S):FreE H H' k m b:=by
 have hml:=(zzgsi.1 ht).1;have tk:=Qdr hml el;have hp:perM k=1:=if_neg (by omega);refine⟨fun k' m' b' hk' hm' hb'=>?_,fun k' m' hk' hm'=>?_,fun k' _=>Q7P (fun k' m' y=>((tk k' m').1 y).1) k',fun k' m' _ _ y=>((tk k' m').1 y).1,fun z=>by omega⟩
 ·unfold bk;rw[tk,eS];constructor
  ·rintro⟨⟨a,c⟩,d⟩;exact⟨⟨a,d⟩,fun z=>c ⟨z.1,z.2.1⟩⟩
  ·rintro⟨⟨a,d⟩,c⟩;refine⟨⟨a,fun z=>c ⟨z.1,z.2,?_⟩⟩,d⟩;have:perM k'=1:=by rw[z.1];exact hp
   omega
 ·unfold usd;rw[eS];by_cases h:k'<8
  ·rw[if_pos h,if_pos h,if_neg (show ¬(k'=k /\ m'=m)from fun e=>by omega)];rfl
  ·rw[if_neg h,if_neg h];by_cases e:k'=k /\ m'=m
   ·rw[if_pos e,if_neg (fun z=>((tk k' m').1 z).2 e),if_pos];rw[e.1,e.2];exact ht
   ·rw[if_neg e];by_cases y:(H.sl k')[m']? = some true
    ·rw[if_pos y,if_pos ((tk k' m').2 ⟨y,e⟩)]
    ·rw[if_neg y,if_neg fun z=>y ((tk k' m').1 z).1]
theorem Q76(g:HOk s A H){a:Int}{k m b:Nat}(eb:blkM H a=some (k,m,b)):FreE H (freM A H a).H k m b /\ (freM A H a).E=0:=by
 obtain⟨hk,hm,hbp,ea,ht,hS8⟩:=Q0Z eb;have hml:=(zzgsi.1 ht).1;unfold freM;rw[eb];show FreE H (if 8<=k then _ else _:Mr).H k m b /\ (if 8<=k then _ else _:Mr).E=0;by_cases h8:8<=k
 ·rw[if_pos h8];exact⟨Qey hk h8 hm hbp ht (by show updF H.sl k (Sf.giveH (H.sl k) (m:Int))=_;rw[Q79 hml]) rfl,rfl⟩
 rw[if_neg h8];have k8:k<8:=by omega
 obtain⟨q,hS,hgb⟩:=hS8 k8;rw[hS];show FreE H (frP A (if _ then _ else _) k m b q).H k m b /\ (frP A (if _ then _ else _) k m b q).E=0;have hgk:q.kind=k:=by
  obtain⟨q',e1,e2⟩:=g.sm k m k8 ht;rw[hS] at e1;cases e1;exact e2
 obtain⟨_,pq,_⟩:=g.pg _ q hS;obtain⟨p,e1,e2,e3,e4⟩:=g.pgs hS;subst hgk;obtain⟨fr,pq',hhs⟩:=QcN (s:=q.q.st A.bs A.ts) k8 e3 e4 pq hgb;have hhs:(freS (unitN q.kind) (perN q.kind) q.base (q.q.st A.bs A.ts) (b:Int)).hs=q.q.hs.set b false:=hhs;generalize eHx:(if q.q.hs.count false=0 then H.push q.kind (locN q.kind m)else H)=Hx;have xS:Hx.S=H.S:=by rw[<-eHx];split <;> rfl
 have xsl:Hx.sl=H.sl:=by rw[<-eHx];split <;> rfl
 have hbl:=(zzgsi.1 hgb).1;have hget:∀b',(q.q.hs.set b false)[b']? = some true ↔ q.q.hs[b']? = some true /\ b' ≠ b:=fun b'=>by
  rw[zzgst];by_cases z:b=b'
  ·subst z;rw[if_pos rfl,if_pos hbl];simp
  ·rw[if_neg z];exact⟨fun y=>⟨y,fun w=>z w.symm⟩,fun y=>y.1⟩
 have old:∀b',bk H q.kind m b' ↔ q.q.hs[b']? = some true:=fun b'=>by
  unfold bk;exact⟨fun⟨_,c⟩=>by obtain⟨g,x,y⟩:=c k8;rw[hS] at x;cases x;exact y,fun y=>⟨ht,fun _=>⟨q,hS,y⟩⟩⟩
 have uold:usd H q.kind m=q.q.hs.count true:=by unfold usd;rw[if_pos k8,hS]
 have hcount:=Q3h hgb;unfold frP;generalize freS (unitN q.kind) (perN q.kind) q.base (q.q.st A.bs A.ts) (b:Int)=st at hhs ⊢;by_cases hz:st.hs.count true=0
 ·rw[if_pos hz];refine⟨?_,rfl⟩;generalize eH':reH (((Hx.page (locN q.kind m) q st).cut q.kind (locN q.kind m)).gone (locN q.kind m)) q.kind m=H';have el:H'.sl=updF H.sl q.kind ((H.sl q.kind).set m false):=by
   rw[<-eH'];show updF Hx.sl q.kind (Sf.giveH (Hx.sl q.kind) (m:Int))=_;rw[xsl,Q79 hml]
  have eS:∀v,v ≠ (locN q.kind m:Int)->H'.S v=H.S v:=fun v hv=>by
   rw[<-eH'];show updI (updI Hx.S (locN q.kind m) _) (locN q.kind m) none v=_;rw[Q0q hv,Q0q hv,xS]
  have eSn:H'.S (locN q.kind m)=none:=by
   rw[<-eH'];show updI (updI Hx.S (locN q.kind m) _) (locN q.kind m) none _=_;rw[Q0r]
  have tk:=Qdr hml el;refine⟨fun k' m' b' hk' hm' hb'=>?_,fun k' m' hk' hm'=>?_,fun k' _=>Q7P (fun k' m' y=>((tk k' m').1 y).1) k',fun k' m' _ _ y=>((tk k' m').1 y).1,fun _ y=>absurd ⟨rfl,rfl⟩ ((tk _ _).1 y).2⟩
  ·by_cases e:k'=q.kind /\ m'=m
   ·rw[e.1,e.2,old];constructor
    ·rintro⟨y,_⟩;exact absurd ⟨rfl,rfl⟩ ((tk _ _).1 y).2
    ·rintro⟨y,c⟩;have:=(hget b').2 ⟨y,fun z=>c ⟨rfl,rfl,z⟩⟩;rw[<-hhs] at this;exact absurd (zzmog this) (List.count_eq_zero.1 hz)
   ·unfold bk;rw[tk];constructor
    ·rintro⟨⟨y,_⟩,c⟩;refine⟨⟨y,fun z=>?_⟩,fun z=>e ⟨z.1,z.2.1⟩⟩;have:=c z;rw[eS _ (fun q=>e (Q0Q hk' hm' hk hm q))] at this;exact this
    ·rintro⟨⟨y,c⟩,_⟩;refine⟨⟨y,e⟩,fun z=>?_⟩;rw[eS _ (fun q=>e (Q0Q hk' hm' hk hm q))];exact c z
  ·by_cases e:k'=q.kind /\ m'=m
   ·rw[if_pos e,e.1,e.2,uold];unfold usd;rw[if_pos k8,eSn];rw[hhs] at hz;show 0+1=_;omega
   ·rw[if_neg e];unfold usd;by_cases h:k'<8
    ·rw[if_pos h,if_pos h,eS _ (fun q=>e (Q0Q hk' hm' hk hm q))];rfl
    ·rw[if_neg h,if_neg h];by_cases y:(H.sl k')[m']? = some true
     ·rw[if_pos y,if_pos ((tk k' m').2 ⟨y,e⟩)]
     ·rw[if_neg y,if_neg fun z=>y ((tk k' m').1 z).1]
 ·rw[if_neg hz];refine⟨?_,rfl⟩;have eS:(Hx.page (locN q.kind m) q st).S=updI H.S (locN q.kind m) (some {q with q:=st.pq}):=by show updI Hx.S _ _=_;rw[xS]
  have el:(Hx.page (locN q.kind m) q st).sl=H.sl:=xsl;refine⟨fun k' m' b' hk' hm' hb'=>?_,fun k' m' hk' hm'=>?_,fun k' _=>Nat.le_of_eq (Q2f el k'),fun k' m' _ _ y=>by rw[<-el];exact y,fun _ _=>?_⟩
  ·show bk (Hx.page (locN q.kind m) q st) k' m' b' ↔ _;rw[Q68 k8 hm eS el b' hk' hm'];by_cases e:k'=q.kind /\ m'=m
   ·rw[if_pos e,e.1,e.2,old];show _ /\ st.hs[b']? = some true ↔ _;rw[hhs,hget];exact⟨fun y=>⟨y.2.1,fun z=>y.2.2 z.2.2⟩,fun y=>⟨ht,y.1,fun z=>y.2 ⟨rfl,rfl,z⟩⟩⟩
   ·rw[if_neg e];exact⟨fun y=>⟨y,fun z=>e ⟨z.1,z.2.1⟩⟩,fun y=>y.1⟩
  ·show usd (Hx.page (locN q.kind m) q st) k' m'+_=_;rw[Q3d k8 hm eS el hk' hm'];by_cases e:k'=q.kind /\ m'=m
   ·rw[if_pos e,if_pos e,e.1,e.2,uold];show st.hs.count true+1=_;rw[hhs];exact hcount
   ·rw[if_neg e,if_neg e];rfl
  ·show 1<=usd (Hx.page (locN q.kind m) q st) q.kind m;rw[Q3d k8 hm eS el hk hm,if_pos ⟨rfl,rfl⟩];show 1<=st.hs.count true;omega
theorem Qei(g:HOk s A H){win:List Int}(hw:win.length<=32):SamE H (movM s A H win).H:=by
 unfold movM;by_cases hc:(outL s A.cs H.T win).length<=Cl.cnt A.cs s.C win
 case neg=>rw[if_neg hc];exact SamE.refl H
 rw[if_pos hc];obtain⟨a,b,c⟩:=Q6p (A0:=A) (B:=H) _ A {H with win:=win} (Q4D g hw hc) (Q5t g win);generalize(mvN s (outL s A.cs H.T win) A {H with win:=win}).1=A' at a b c ⊢;generalize(mvN s (outL s A.cs H.T win) A {H with win:=win}).2=H' at a b c ⊢;show SamE H H';have hS:∀v,(∃q,H'.S v=some q) ↔ ∃q,H.S v=some q:=fun v=>⟨fun⟨q,h⟩=>by obtain⟨q0,x,_⟩:=b.pg v q h;exact⟨q0,x⟩,fun⟨q,h⟩=>by obtain⟨q0,x,_⟩:=b.sm v q h;exact⟨q0,x⟩⟩;refine⟨fun k m b' _ _ _=>?_,fun k m _ _=>?_,fun k _=>Q2f b.sl k,fun k m _ _=>by rw[b.sl]⟩
 ·unfold bk;rw[b.sl];refine and_congr Iff.rfl (forall_congr' fun _=>?_);constructor
  ·rintro⟨q,x,y⟩;obtain⟨q0,u1,u2,u3,_⟩:=b.pg _ q x;exact⟨q0,u1,by rw[<-u3];exact y⟩
  ·rintro⟨q,x,y⟩;obtain⟨q0,u1,u2,u3⟩:=b.sm _ q x;exact⟨q0,u1,by rw[u3];exact y⟩
 ·unfold usd;rw[b.sl];split
  ·cases h:H'.S (locN k m)with
   | none=>
    cases h':H.S (locN k m)with
    | none=>rfl
    | some q0=>obtain⟨q,u,_⟩:=b.sm _ q0 h';rw[h] at u;cases u
   | some q=>
    obtain⟨q0,u1,u2,u3,_⟩:=b.pg _ q h;rw[u1];show q.q.hs.count true=q0.q.hs.count true;rw[u3]
  ·rfl
end
end
section
open Go.RowKit Go.Maps Thing
structure TnInv (s:Sv) (A:Ax) (t:Tn):Prop where
 ok:TnOk s A t
 ob1:∀a v,t.ob a=some v->∃k m b,blkM t.H a=some (k,m,b) /\ 1<=v /\ v<=(untN k:Int)
 ob2:∀a k m b,blkM t.H a=some (k,m,b)->(t.ob a).isSome=true
 cb:t.q.cb=chgH t.H
 r0:t.q.rb=0 /\ t.q.rp=0
 cp:t.q.cp=t.H.T.length
 pk:MayQ t.peak /\ (t.q.lb:Int)<=t.peak
 pgs:∀k,k<8->slK t.H k<=byN k t.peak.toNat
 use:∀k m,k<8->m<sltN k->(t.H.sl k)[m]? = some true->1<=usd t.H k m
 dem:demN t.peak.toNat<=t.q.lp
section
variable{s:Sv}{A A':Ax}{H H' H'':Hp}{t t':Tn}
theorem QcA{k m:Nat}{f g:Nat->Nat}(hm:m<sltN k)(h:∀m',m'<sltN k->f m'=g m'+if m'=m then 1 else 0):sumR (sltN k) f=sumR (sltN k) g+1:=by
 have:=Q38 (f:=f) (g:=g) hm fun i hi he=>by rw[h i hi,if_neg he];rfl
 have h2:=h m hm;rw[if_pos rfl] at h2;omega
theorem Q6d{k m:Nat}(hk:k<24)(hm:m<sltN k)(h:∀k' m',k'<24->m'<sltN k'->usd H' k' m'=usd H k' m'+if k'=k /\ m'=m then 1 else 0):chgH H'=chgH H+untN k:=by
 have h1:∀k',k'<24->k' ≠ k->usdK H' k'=usdK H k':=fun k' hk' he=>Q0d fun m' hm'=>by rw[h k' m' hk' hm',if_neg (fun z=>he z.1)];rfl
 have h2:usdK H' k=usdK H k+1:=QcA hm fun m' hm'=>by
  rw[h k m' hk hm'];by_cases e:m'=m
  ·rw[if_pos ⟨rfl,e⟩,if_pos e]
  ·rw[if_neg (fun z=>e z.2),if_neg e]
 unfold chgH;have:=Q38 (f:=fun k=>usdK H' k*untN k) (g:=fun k=>usdK H k*untN k) hk fun i hi he=>by rw[h1 i hi he]
 simp only[h2,Nat.add_mul,Nat.one_mul] at this;omega
theorem SamE.usdK(h:SamE H H'){k:Nat}(hk:k<24):usdK H' k=usdK H k:=Q0d fun m hm=>h.us k m hk hm
theorem SamE.chg(h:SamE H H'):chgH H'=chgH H:=Q0d fun k hk=>by rw[h.usdK hk]
theorem SamE.len(h:SamE H H')(g:HOk s A H)(g':HOk s A' H'):H'.T.length=H.T.length:=by
 rw[Q1f g,Q1f g'];exact Q0d fun k hk=>by rw[h.sl k hk]
theorem SamE.blk(h:SamE H H')(a:Int):blkM H' a=blkM H a:=by
 refine Q3v fun x=>?_;obtain⟨k,m,b⟩:=x;constructor
 ·intro e;obtain⟨hk,hm,hb,rfl,hbk⟩:=Q0F e;exact(Q1i hk hm hb).2 ((h.bks k m b hk hm hb).1 hbk)
 ·intro e;obtain⟨hk,hm,hb,rfl,hbk⟩:=Q0F e;exact(Q1i hk hm hb).2 ((h.bks k m b hk hm hb).2 hbk)
theorem TnInv.same(g:TnInv s A t)(ok:TnOk s A' t')(h:SamE t.H t'.H)(ho:t'.ob=t.ob)(hq:t'.q=t.q)(hp:t'.peak=t.peak):TnInv s A' t':=by
 refine⟨ok,fun a v hv=>?_,fun a k m b hb=>?_,by rw[hq,h.chg];exact g.cb,by rw[hq];exact g.r0,by rw[hq,h.len g.ok.h ok.h];exact g.cp,by rw[hq,hp];exact g.pk,fun k hk=>by rw[h.sl k (by omega),hp];exact g.pgs k hk,fun k m hk hm ht=>?_,by rw[hq,hp];exact g.dem⟩
 ·rw[ho] at hv;rw[h.blk];exact g.ob1 a v hv
 ·rw[h.blk] at hb;rw[ho];exact g.ob2 a k m b hb
 ·rw[h.us k m (by omega) hm];exact g.use k m hk hm ((h.tk k m (by omega) hm).1 ht)
theorem Q54(g:HOk s A H){k m:Nat}(hk:k<24)(hm:m<sltN k)(ht:(H.sl k)[m]? ≠ some true):usd H k m=0:=by
 unfold usd;by_cases h8:k<8
 ·rw[if_pos h8];cases hS:H.S (locN k m)with
  | none=>rfl
  | some q=>
   obtain⟨a1,_,m',a3,a4,a5,_⟩:=g.pg _ q hS;obtain⟨e1,e2⟩:=Q0Q hk hm (by omega) a3 a4;rw[<-e1,<-e2] at a5;exact absurd a5 ht
 ·rw[if_neg h8,if_neg ht]
theorem Qfd{k m b:Nat}(g:HOk s A H)(g'':HOk s A' H'')(use:∀k m,k<8->m<sltN k->(H.sl k)[m]? = some true->1<=usd H k m)(h:MalE H H' k m b)(f:FreE H' H'' k m b):SamE H H'':=by
 have us:∀k' m',k'<24->m'<sltN k'->usd H'' k' m'=usd H k' m':=fun k' m' hk hm=>by
  have h1:=h.us k' m' hk hm;have h2:=f.us k' m' hk hm;omega
 have tk:∀k' m',k'<24->m'<sltN k'->((H''.sl k')[m']? = some true ↔ (H.sl k')[m']? = some true):=fun k' m' hk hm=>by
  constructor
  ·intro z;rcases h.tk k' m' hk hm (f.tk k' m' hk hm z)with y | y
   ·exact y
   ·refine Classical.byContradiction fun w=>?_;have h0:=Q54 g hk hm w;rw[<-us k' m' hk hm] at h0;by_cases h8:k'<8
    ·have:=f.use (by rw[<-y.1];exact h8) (by rw[<-y.1,<-y.2];exact z);rw[<-y.1,<-y.2] at this;omega
    ·unfold usd at h0;rw[if_neg h8,if_pos z] at h0;omega
  ·intro z;refine Classical.byContradiction fun w=>?_;have h0:=Q54 g'' hk hm w;rw[us k' m' hk hm] at h0;by_cases h8:k'<8
   ·have:=use k' m' h8 hm z;omega
   ·unfold usd at h0;rw[if_neg h8,if_pos z] at h0;omega
 refine⟨fun k' m' b' hk hm hb=>?_,us,fun k' hk=>?_,tk⟩
 ·rw[f.bks k' m' b' hk hm hb,h.bks k' m' b' hk hm hb];constructor
  ·rintro⟨y | y,z⟩
   ·exact y
   ·exact absurd y z
  ·intro y;exact⟨.inl y,fun z=>h.no (by rw[<-z.1,<-z.2.1,<-z.2.2];exact y)⟩
 ·unfold slK;refine Q0d fun m' hm=>?_;by_cases y:(H.sl k')[m']? = some true
  ·rw[if_pos y,if_pos ((tk k' m' hk hm).2 y)]
  ·rw[if_neg y,if_neg fun z=>y ((tk k' m' hk hm).1 z)]
theorem Q6c{k n p:Nat}(h8:k<8)(h:n*perN k*untN k+untN k<=p):n+1<=byN k p:=by
 obtain⟨c1,c2,c3,c4,c5⟩:=Q0h h8;have eu:untN k=unitN k:=if_pos h8;rw[eu] at h;unfold byN;have h1:(n*perN k+1)*unitN k<=p:=by rw[Nat.add_mul,Nat.one_mul];exact h
 have h2:n*perN k+1<=p / unitN k:=(Nat.le_div_iff_mul_le (by omega)).2 h1;refine(Nat.le_div_iff_mul_le (by omega)).2 ?_;rw[Nat.add_mul,Nat.one_mul];omega
theorem Q8Z{n:Int}(h:1<=n /\ n<=8192):n<=(untN (clsN n.toNat):Int):=by
 by_cases h2:n<=256
 ·obtain⟨a,b,_⟩:=Q2t (n:=n.toNat) (by omega);have:untN (clsN n.toNat)=unitN (clsN n.toNat):=if_pos a;rw[this];omega
 ·have e:clsN n.toNat=8+(n.toNat-1) / 512:=by unfold clsN;rw[if_pos (by omega)]
  have:untN (clsN n.toNat)=(clsN n.toNat-7)*512:=if_neg (by rw[e];omega);rw[this,e];omega
theorem Q2x(g:TnInv s A t)(n:Int):TnInv s (getM s A t n).A (getM s A t n).t:=by
 have go:=Q5n g.ok n;obtain⟨mle,_,i0,i1⟩:=Q3o (s:=s) (A:=A) (H:=t.H) n;obtain⟨ef0,ef1⟩:=Q7k g.ok.h n;have keep:=(Q17 g.ok.h n).ok;have hok:=go.ok;unfold getM at hok ⊢;split at hok
 ·rename_i h0;rw[if_pos h0];exact g
 rename_i h0;rw[if_neg h0];have hn:1<=n /\ n<=8192:=by
  unfold chgI at h0;split at h0
  ·rename_i z;exact z
  ·exact absurd rfl h0
 have ec:chgI n=(untN (clsN n.toNat):Int):=if_pos hn;have ecl:clsI n=(clsN n.toNat:Int):=if_pos hn;have ecn:(chgI n).toNat=untN (clsN n.toNat):=by rw[ec,zztnc]
 rw[ecn] at hok ⊢;have hcu:=Q8Z hn;generalize clsN n.toNat=k at hok ecl hcu ⊢;split at hok
 ·rename_i h1;rw[if_pos h1];exact g
 rename_i h1;rw[if_neg h1];have h1:=Classical.not_not.1 h1;obtain⟨f1,f2⟩:=h1;have r0:=g.r0;have eq0:∀(c:Nat),({t.q with rb:=t.q.rb+c-c,rp:=t.q.rp+0-0}:Qu)=t.q:=fun c=>by
  have:t.q.rb+c-c=t.q.rb:=by omega
  rw[this];rfl
 split at hok
 ·rename_i h2;rw[if_pos h2];exact g.same hok (SamE.refl _) rfl (eq0 _) rfl
 rename_i h2;rw[if_neg h2];split at hok
 ·rename_i h3;rw[if_pos h3];exact g.same hok (ef1 h3) rfl (eq0 _) rfl
 rename_i h3;rw[if_neg h3];have h3:=Classical.not_not.1 h3;obtain⟨k',m,b,ek,eI,mal⟩:=ef0 h3;have ek:k'=k:=by rw[ecl] at ek;omega
 subst ek;have eb:blkM (malM s A t.H n).H (malM s A t.H n).I=some (k',m,b):=by
  rw[eI];exact(Q1i mal.k24 mal.hm mal.hb).2 ((mal.bks k' m b mal.k24 mal.hm mal.hb).2 (.inr ⟨rfl,rfl,rfl⟩))
 have und:∀(hok:TnOk s (undM (malM s A t.H n).A (((t.res (untN k') 0).mal s A n).gra (malM s A t.H n).I) (malM s A t.H n).I (untN k')).A (undM (malM s A t.H n).A (((t.res (untN k') 0).mal s A n).gra (malM s A t.H n).I) (malM s A t.H n).I (untN k')).t),TnInv s (undM (malM s A t.H n).A (((t.res (untN k') 0).mal s A n).gra (malM s A t.H n).I) (malM s A t.H n).I (untN k')).A (undM (malM s A t.H n).A (((t.res (untN k') 0).mal s A n).gra (malM s A t.H n).I) (malM s A t.H n).I (untN k')).t:=fun hok=>by
  have fr:=(Q76 keep eb).1;exact g.same hok (Qfd g.ok.h hok.h g.use mal fr) rfl (eq0 _) rfl
 split at hok
 ·rename_i h4;rw[if_pos h4];exact und hok
 rename_i h4;rw[if_neg h4];split at hok
 ·rename_i h5;rw[if_pos h5];exact und hok
 rename_i h5;rw[if_neg h5];have hchg:=Q6d mal.k24 mal.hm mal.us;have hcb:=g.cb;have hpk:=g.pk;refine⟨hok,fun a v hv=>?_,fun a k2 m2 b2 hb2=>?_,?_,?_,?_,hpk,fun k2 hk2=>?_,fun k2 m2 hk2 hm2 ht2=>?_,g.dem⟩
 ·have hv:updI t.ob (malM s A t.H n).I (some n) a=some v:=hv;show ∃k m b,blkM (malM s A t.H n).H a=some (k,m,b) /\ _;by_cases e:a=(malM s A t.H n).I
  ·rw[e,Q0r] at hv;cases hv;rw[e,eb];exact⟨k',m,b,rfl,hn.1,hcu⟩
  ·rw[Q0q e] at hv;obtain⟨k2,m2,b2,e1,e2⟩:=g.ob1 a v hv;obtain⟨hk,hm,hb,rfl,hbk⟩:=Q0F e1;exact⟨k2,m2,b2,(Q1i hk hm hb).2 ((mal.bks k2 m2 b2 hk hm hb).2 (.inl hbk)),e2⟩
 ·have hb2:blkM (malM s A t.H n).H a=some (k2,m2,b2):=hb2;show(updI t.ob (malM s A t.H n).I (some n) a).isSome=true;by_cases e:a=(malM s A t.H n).I
  ·rw[e,Q0r];rfl
  ·rw[Q0q e];obtain⟨hk,hm,hb,rfl,hbk⟩:=Q0F hb2;rcases(mal.bks k2 m2 b2 hk hm hb).1 hbk with y | y
   ·exact g.ob2 _ k2 m2 b2 ((Q1i hk hm hb).2 y)
   ·exact absurd (by rw[eI,y.1,y.2.1,y.2.2]) e
 ·show t.q.cb+untN k'=chgH (malM s A t.H n).H;rw[hchg,hcb]
 ·show t.q.rb+untN k'+0-untN k'=0 /\ t.q.rp+0+((malM s A t.H n).H.T.length-t.H.T.length)-((malM s A t.H n).H.T.length-t.H.T.length)=0;omega
 ·show t.q.cp+((malM s A t.H n).H.T.length-t.H.T.length)=(malM s A t.H n).H.T.length;have:=g.cp;omega
 ·show slK (malM s A t.H n).H k2<=byN k2 t.peak.toNat
  rcases mal.sl k2 (by omega)with y | ⟨y1,y2,y3⟩
  ·rw[y];exact g.pgs k2 hk2
  ·rw[y2];subst y1;refine Q6c hk2 ?_;have hu:=y3 hk2;have h1:usdK t.H k2*untN k2<=chgH t.H:=Q37 (fun k=>usdK t.H k*untN k) (by omega);rw[hu] at h1;have:=hpk.2;omega
 ·show 1<=usd (malM s A t.H n).H k2 m2;have ht2:((malM s A t.H n).H.sl k2)[m2]? = some true:=ht2;have hu:=mal.us k2 m2 (by omega) hm2;rcases mal.tk k2 m2 (by omega) hm2 ht2 with y | y
  ·have:=g.use k2 m2 hk2 hm2 y;omega
  ·rw[if_pos y] at hu;omega
theorem Q9y(g:TnInv s A t)(a:Int):TnInv s (putA A t a) (putM A t a):=by
 have hok:=(Q9o g.ok a).ok;cases eb:blkM t.H a with
 | none=>
  have e1:freM A t.H a=⟨0,13,A,t.H⟩:=by unfold freM;rw[eb]
  have e2:usbI t.H a=0:=by unfold usbI;rw[eb]
  refine g.same hok ?_ ?_ ?_ rfl
  ·show SamE t.H (freM A t.H a).H;rw[e1];exact SamE.refl _
  ·show updI t.ob a none=t.ob;have:t.ob a=none:=by
    cases h:t.ob a with
    | none=>rfl
    | some v=>obtain⟨k,m,b,e,_⟩:=g.ob1 a v h;rw[eb] at e;cases e
   rw[<-this,Q5V]
  ·show qrefM t.q (usbI t.H a).toNat (t.H.T.length-(freM A t.H a).H.T.length)=t.q;rw[e1,e2];show qrefM t.q 0 (t.H.T.length-t.H.T.length)=t.q;rw[Nat.sub_self];unfold qrefM;rw[if_pos ⟨Nat.zero_le _,Nat.zero_le _⟩];rfl
 | some x=>
  obtain⟨k,m,b⟩:=x;obtain⟨hk,hm,hb,rfl,hbk⟩:=Q0F eb;obtain⟨fr,_⟩:=Q76 g.ok.h eb;have e2:usbI t.H (adrN k m b)=(untN k:Int):=by unfold usbI;rw[eb]
  have hchg:chgH t.H=chgH (freM A t.H (adrN k m b)).H+untN k:=Q6d hk hm fun k' m' a c=>(fr.us k' m' a c).symm;have hle:=(Q4o A t.H (adrN k m b)).1;have hcb:=g.cb;have hcp:=g.cp;have eq:(putM A t (adrN k m b)).q={t.q with cb:=t.q.cb-untN k,cp:=t.q.cp-(t.H.T.length-(freM A t.H (adrN k m b)).H.T.length)}:=by
   show qrefM t.q (usbI t.H (adrN k m b)).toNat (t.H.T.length-(freM A t.H (adrN k m b)).H.T.length)=_;rw[e2,zztnc];exact if_pos ⟨by omega,by omega⟩
  refine⟨hok,fun a v hv=>?_,fun a k2 m2 b2 hb2=>?_,?_,by rw[eq];exact g.r0,?_,by rw[eq];exact g.pk,fun k2 hk2=>?_,fun k2 m2 hk2 hm2 ht2=>?_,by rw[eq];exact g.dem⟩
  ·have hv:updI t.ob (adrN k m b) none a=some v:=hv;show ∃k' m' b',blkM (freM A t.H (adrN k m b)).H a=some (k',m',b') /\ _;by_cases e:a=(adrN k m b:Int)
   ·rw[e,Q0r] at hv;cases hv
   ·rw[Q0q e] at hv;obtain⟨k2,m2,b2,e1,e3⟩:=g.ob1 a v hv;obtain⟨hk2,hm2,hb2,rfl,hbk2⟩:=Q0F e1;exact⟨k2,m2,b2,(Q1i hk2 hm2 hb2).2 ((fr.bks k2 m2 b2 hk2 hm2 hb2).2 ⟨hbk2,fun z=>e (by rw[z.1,z.2.1,z.2.2])⟩),e3⟩
  ·have hb2:blkM (freM A t.H (adrN k m b)).H a=some (k2,m2,b2):=hb2;obtain⟨hk2,hm2,hbb2,rfl,hbk2⟩:=Q0F hb2;obtain⟨y,z⟩:=(fr.bks k2 m2 b2 hk2 hm2 hbb2).1 hbk2;show(updI t.ob (adrN k m b) none (adrN k2 m2 b2)).isSome=true;rw[Q0q]
   ·exact g.ob2 _ k2 m2 b2 ((Q1i hk2 hm2 hbb2).2 y)
   ·intro e;exact z (Q8M hk2 hm2 hbb2 hk hm hb (by omega))
  ·rw[eq];show t.q.cb-untN k=chgH (freM A t.H (adrN k m b)).H;omega
  ·rw[eq];show t.q.cp-(t.H.T.length-(freM A t.H (adrN k m b)).H.T.length)=(freM A t.H (adrN k m b)).H.T.length;omega
  ·exact Nat.le_trans (fr.sl k2 (by omega)) (g.pgs k2 hk2)
  ·show 1<=usd (freM A t.H (adrN k m b)).H k2 m2;have ht2:((freM A t.H (adrN k m b)).H.sl k2)[m2]? = some true:=ht2;by_cases e:k2=k /\ m2=m
   ·rw[e.1,e.2] at ht2 ⊢;exact fr.use (by rw[<-e.1];exact hk2) ht2
   ·have hu:=fr.us k2 m2 (by omega) hm2;rw[if_neg e] at hu;have:=g.use k2 m2 hk2 hm2 (fr.tk k2 m2 (by omega) hm2 ht2);omega
theorem Q3V(g:TnInv s A t)(ok:TnOk s A' t):TnInv s A' t:=g.same ok (SamE.refl _) rfl rfl rfl
theorem Qe9(g:TnInv s A t){a n:Int}(ok:TnOk s A (t.add a n)){k m b:Nat}(eb:blkM t.H a=some (k,m,b))(hn:1<=n /\ n<=(untN k:Int)):TnInv s A (t.add a n):=by
 refine⟨ok,fun a' v hv=>?_,fun a' k' m' b' hb=>?_,g.cb,g.r0,g.cp,g.pk,g.pgs,g.use,g.dem⟩
 ·have hv:updI t.ob a (some n) a'=some v:=hv;show ∃k m b,blkM t.H a'=some (k,m,b) /\ _;by_cases e:a'=a
  ·rw[e,Q0r] at hv;cases hv;rw[e];exact⟨k,m,b,eb,hn⟩
  ·rw[Q0q e] at hv;exact g.ob1 a' v hv
 ·have hb:blkM t.H a'=some (k',m',b'):=hb;show(updI t.ob a (some n) a').isSome=true;by_cases e:a'=a
  ·rw[e,Q0r];rfl
  ·rw[Q0q e];exact g.ob2 a' k' m' b' hb
theorem Qea(g:TnInv s A t)(o:Op):TnInv s (askM s A t o).A (askM s A t o).t:=by
 have hok:=(QcO g.ok o).ok;have sm:=g.ok.h.small;unfold askM at hok ⊢;split at hok
 ·rename_i h;rw[if_pos h];exact Q2x g _
 rename_i h;rw[if_neg h];split at hok
 ·rename_i h;rw[if_pos h];unfold calR;cases calM o.N o.M with
  | none=>exact g
  | some m=>exact Q2x g m
 rename_i h;rw[if_neg h];split at hok
 ·rename_i h;rw[if_pos h];unfold freR;cases fnO t.id t.S o.H 4 with
  | none=>exact g
  | some a=>exact Q9y g a
 rename_i h;rw[if_neg h];split at hok
 ·rename_i h;rw[if_pos h];unfold rlcR at hok ⊢;cases e:fnO t.id t.S o.H 4 with
  | none=>exact g
  | some a=>
   rw[e] at hok;dsimp only at hok ⊢;split at hok
   ·rename_i h;rw[if_pos h];exact g
   rename_i hc;rw[if_neg hc];have hn:1<=o.N /\ o.N<=8192:=by
    unfold clsI at hc;split at hc
    ·rename_i z;exact z
    ·omega
   split at hok
   ·rename_i h;rw[if_pos h];split at hok
    ·rename_i h;rw[if_pos h];have h1:=Q2x g o.N;have h2:=Q3V h1 (A':=cpyA (getM s A t o.N).A (getM s A t o.N).t.H.T (getM s A t o.N).ad a ((t.ob a).getD 0)) (Q1D h1.ok _ (Q4g _ _ _ _ _ h1.ok.h.small)).ok;exact Q9y h2 a
    ·rename_i h;rw[if_neg h];exact Q2x g _
   ·rename_i h;rw[if_neg h];have ec:chgI o.N=(untN (clsN o.N.toNat):Int):=if_pos hn;have hcu:=Q8Z hn;rw[ec] at h;cases eb:blkM t.H a with
    | none=>
     have:usbI t.H a=0:=by unfold usbI;rw[eb]
     rw[this] at h;omega
    | some x=>
     obtain⟨k,m,b⟩:=x;have:usbI t.H a=(untN k:Int):=by unfold usbI;rw[eb]
     rw[this] at h;have key:∀A',TnOk s A' t->TnOk s A' (t.add a o.N)->TnInv s A' (t.add a o.N):=fun A' y z=>Qe9 (Q3V g y) z eb ⟨hn.1,by omega⟩;split at hok
     ·rename_i h;rw[if_pos h];exact key _ (Q1D g.ok _ (Q6M _ (Q3I _ _ _ _ sm).1)).ok hok
     ·rename_i h;rw[if_neg h];exact key _ g.ok hok
 rename_i h;rw[if_neg h];split at hok
 ·rename_i h;rw[if_pos h];exact g
 rename_i h;rw[if_neg h];split at hok
 ·rename_i h;rw[if_pos h];have ht:=Qa7 A t o.H o.N o.M;rw[ht] at hok ⊢;exact Q3V g hok
 rename_i h;rw[if_neg h];split at hok
 ·rename_i h;rw[if_pos h];have ht:=Qbc A t o.H o.N o.D;rw[ht] at hok ⊢;exact Q3V g hok
 ·rename_i h;rw[if_neg h];exact g.same hok (SamE.refl _) rfl rfl rfl
end
end
section
open Go.RowKit Go.Maps Thing
theorem Qfc{hs:List Bool}(h:1<=hs.count false):∃j:Nat,j<hs.length /\ hs[j]? = some false /\ Sf.takeI hs=(j:Int) /\ Sf.takeH hs=hs.set j true:=by
 cases e:hs.findIdx? (fun b=>!b)with
 | none=>
  have:=List.findIdx?_eq_none_iff.1 e;have:hs.count false=0:=List.count_eq_zero.2 fun q=>by have:=this false q;simp at this
  omega
 | some j=>
  obtain⟨hj,hv,_⟩:=List.findIdx?_eq_some_iff_getElem.1 e;refine⟨j,hj,?_,by unfold Sf.takeI;rw[e],by unfold Sf.takeH;rw[e]⟩;rw[zzgge hj];simpa using hv
structure TkF (hs hs':List Bool) (l:List Int) (k:Nat):Prop where
 len:hs'.length=hs.length
 nd:l.Nodup
 rng:∀c ∈ l,0<=c /\ c.toNat<hs.length /\ hs[c.toNat]? = some false
 iff:∀c:Nat,hs'[c]? = some true ↔ hs[c]? = some true \/ (c:Int) ∈ l
 cnt:hs'.count false+k=hs.count false
theorem Q4V(hs:List Bool):∀k,k<=hs.count false->TkF hs (tkH hs k) (tkL hs k) k
 | 0,_=>⟨rfl,List.nodup_nil,fun c h=>(by cases h),fun c=>by simp[tkH,tkL],rfl⟩
 | k+1,h=>by
  have g:=Q4V hs k (by omega);have gc:=g.cnt;obtain⟨j,hj,hf,e1,e2⟩:=Qfc (hs:=tkH hs k) (by omega);have hjl:j<hs.length:=by have:=g.len;omega
  have hjn:(j:Int) ∉ tkL hs k:=fun z=>by
   have:=(g.iff j).2 (.inr z);rw[hf] at this;cases this
  have hjf:hs[j]? = some false:=by
   rw[zzgge hjl];cases hb:hs[j]
   ·rfl
   ·have:=(g.iff j).2 (.inl (by rw[zzgge hjl,hb]));rw[hf] at this;cases this
  rw[tkH,tkL,e1,e2];refine⟨by rw[List.length_set];exact g.len,List.nodup_append.2 ⟨g.nd,by simp,fun a ha b hb=>?_⟩,fun c hc=>?_,fun c=>?_,?_⟩
  ·simp at hb;subst hb;rintro rfl;exact hjn ha
  ·rcases zzmpd.1 hc with hc | hc
   ·exact g.rng c hc
   ·simp at hc;subst hc;exact⟨by omega,by rw[zztnc];exact hjl,by rw[zztnc];exact hjf⟩
  ·rw[Q0I hj,g.iff,zzmpd,List.mem_singleton];constructor
   ·rintro(z | z | z)
    ·exact .inr (.inr (by rw[z]))
    ·exact .inl z
    ·exact .inr (.inl z)
   ·rintro(z | z | z)
    ·exact .inr (.inl z)
    ·exact .inr (.inr z)
    ·exact .inl (by omega)
  ·have:=Q21 hf;omega
theorem Q7a(l:List Int):∀hs:List Bool,(∀c ∈ l,0<=c /\ c.toNat<hs.length)->(gvH hs l).length=hs.length /\ ∀c:Nat,(gvH hs l)[c]? = some true ↔ hs[c]? = some true /\ (c:Int) ∉ l:=by
 induction l with
 | nil=>intro hs _;exact⟨rfl,fun c=>by simp[gvH]⟩
 | cons x l ih=>
  intro hs h;obtain⟨x0,x1⟩:=h x (by simp);have e:Sf.giveH hs x=hs.set x.toNat false:=by unfold Sf.giveH;rw[if_pos ⟨x0,by omega⟩]
  have hl:(hs.set x.toNat false).length=hs.length:=List.length_set;obtain⟨a,b⟩:=ih (hs.set x.toNat false) fun c hc=>by rw[hl];exact h c (zzmcm _ hc)
  have eg:gvH hs (x :: l)=gvH (hs.set x.toNat false) l:=by unfold gvH;rw[List.foldl_cons,e]
  rw[eg];refine⟨a.trans hl,fun c=>?_⟩;rw[b,zzgst,List.mem_cons];by_cases z:x.toNat=c
  ·rw[if_pos z,if_pos x1];constructor
   ·rintro⟨q,_⟩;simp at q
   ·rintro⟨_,q⟩;exact absurd (.inl (by omega)) q
  ·rw[if_neg z];exact⟨fun⟨p,q⟩=>⟨p,fun y=>y.elim (fun w=>z (by omega)) q⟩,fun⟨p,q⟩=>⟨p,fun y=>q (.inr y)⟩⟩
theorem Q6A(l:List Int)(c:Int):c ∈ srtI l ↔ c ∈ l:=(Q5J l).mem_iff
theorem Q3z{l:List Int}(h:l.Nodup):(srtI l).Nodup:=(Q5J l).nodup_iff.2 h
theorem Q4e{l:List Int}(h:l.Nodup):Lib.compact l=l:=by
 unfold Lib.compact Lib.compactUpTo;have hk:∀m ∈ List.range l.length,Lib.keeps l.toArray m=true:=fun m hm=>by
  have hm:=List.mem_range.1 hm;unfold Lib.keeps;rcases m with _ | m
  ·simp
  ·refine decide_eq_true (.inr fun e=>?_);have e1:l.toArray[m+1]! = l[m+1]:=by simp[hm]
   have e2:l.toArray[m+1-1]! = l[m]'(by omega):=by simp[show m<l.length by omega]
   rw[e1,e2] at e;exact List.pairwise_iff_getElem.1 h m (m+1) (by omega) hm (by omega) e.symm
 rw[List.filter_eq_self.2 hk];apply List.ext_getElem
 ·simp
 ·intro i h1 h2;simp[h2]
theorem Q5C{nC C:Nat}{l:List Int}(h:l.Nodup)(hr:∀c ∈ l,0<=c /\ c<(C:Int)):rooN nC C l=l.length*nC:=by
 unfold rooN;rw[Q4e (Q3z h)];have:(srtI l).countP (isCol C)=(srtI l).length:=List.countP_eq_length.2 fun c hc=>by
  have:=hr c ((Q6A l c).1 hc);exact decide_eq_true this
 rw[this,Q0Y]
theorem Q91{nC C:Nat}:∀(l:List Int),l.Nodup->(∀c ∈ l,0<=c /\ c<(C:Int))->Cl.cnt (List.replicate (nC*C) false) C l=l.length*nC:=by
 intro l
 induction l using Q36 with
 | h0=>
  intro _ _;have:Cl.cnt (List.replicate (nC*C) false) C []=0:=by
   unfold Cl.cnt;rw[List.countP_eq_zero];intro p _;unfold Cl.FrP Cl.inW;simp
  rw[this];simp
 | h1 l x ih=>
  intro hn hr;obtain⟨n1,n2,n3⟩:=List.nodup_append.1 hn;obtain⟨x0,x1⟩:=hr x (by simp);obtain⟨c,rfl⟩:=zzeoz x0;have hc:c<C:=by omega
  have hno:l.any (fun x=>x == (c:Int))=false:=by
   rw[List.any_eq_false];intro y hy e;have e:y=(c:Int):=by simpa using e
   exact n3 y hy _ (by simp) e
  rw[Cl.cnt_more (n:=nC) (by rw[zzlrp]) hc hno,ih n1 fun c hc=>hr c (zzmal _ hc),zzlna,List.length_singleton,Nat.add_mul,Nat.one_mul];congr 1;have hl:(Cl.col (List.replicate (nC*C) false) C nC c).length=nC:=Cl.col_len _ _ _ _
  conv=>rhs;rw[<-hl]
  refine List.count_eq_length.2 fun b hb=>?_;obtain⟨k,hk⟩:=List.getElem?_of_mem hb;have hkl:=(zzgsi.1 hk).1;rw[hl] at hkl;have:=(Cl.col_get' (by rw[zzlrp]) hc hkl).1 hk;exact(List.eq_of_mem_replicate (zzmog this)).symm
section
variable{s:Sv}{A:Ax}{H:Hp}
theorem Q2J{X:Type}(P Q:X->Bool)(l:List X):l.countP P=l.countP (fun x=>P x && Q x)+l.countP fun x=>P x && !Q x:=by
 induction l with
 | nil=>rfl
 | cons x l ih=>
  rw[List.countP_cons,List.countP_cons,List.countP_cons,ih];cases P x <;> cases Q x <;> simp <;> omega
theorem QbW(g:HOk s A H)(hl:A.cs.length=s.nC*s.C){win:List Int}(hn:win.Nodup)(hr:∀c ∈ win,0<=c /\ c<(s.C:Int))(all:∀p,A.cs[p]? = some true->Cl.inW s.C win p=true->inPg H.T p)(hT:H.T.length<=win.length*s.nC) :
  (outL s A.cs H.T win).length<=Cl.cnt A.cs s.C win:=by
 have h1:=Q91 (nC:=s.nC) (C:=s.C) win hn hr;have h2:Cl.cnt (List.replicate (s.nC*s.C) false) s.C win=(List.range A.cs.length).countP (Cl.inW s.C win):=by
  unfold Cl.cnt;rw[zzlrp,hl];refine List.countP_congr fun p hp=>?_;have hp:=List.mem_range.1 hp;rw[decide_eq_true_eq];exact⟨fun h=>h.2,fun h=>⟨by rw[List.getElem?_replicate,if_pos hp],h⟩⟩
 have h3:=Q2J (Cl.inW s.C win) (fun p=>decide (A.cs[p]? = some false)) (List.range A.cs.length);have h4:(List.range A.cs.length).countP (fun p=>Cl.inW s.C win p && decide (A.cs[p]? = some false))=Cl.cnt A.cs s.C win:=by
  unfold Cl.cnt;refine List.countP_congr fun p _=>?_;rw[Bool.and_eq_true,decide_eq_true_eq,decide_eq_true_eq];exact and_comm
 have h5:(List.range A.cs.length).countP (fun p=>Cl.inW s.C win p && !decide (A.cs[p]? = some false))=(H.T.filter fun y=>Cl.inW s.C win y.2.toNat).length:=by
  rw[List.countP_eq_length_filter,show(H.T.filter fun y=>Cl.inW s.C win y.2.toNat).length=((H.T.filter fun y=>Cl.inW s.C win y.2.toNat).map fun y=>y.2.toNat).length from(List.length_map _).symm];refine List.Perm.length_eq ((List.perm_ext_iff_of_nodup (List.nodup_range.filter _) ?_).2 fun p=>?_)
  ·have:(H.T.filter fun y=>Cl.inW s.C win y.2.toNat).Nodup:=(List.nodup_iff_pairwise_ne.2 ((List.pairwise_map.1 (List.nodup_iff_pairwise_ne.1 g.tok.n1)).imp fun h e=>h (by rw[e]))).filter _;refine List.nodup_iff_pairwise_ne.2 (List.pairwise_map.2 ((List.nodup_iff_pairwise_ne.1 this).imp_of_mem fun {a b} ha hb hab e=>hab ?_));have ha:=(List.mem_filter.1 ha).1;have hb:=(List.mem_filter.1 hb).1;have h1:=(g.tok.rng a ha).2.2.1;have h2:=(g.tok.rng b hb).2.2.1;exact Q0z g.tok.n2 ha hb (by show a.2=b.2;omega)
  ·rw[List.mem_filter,List.mem_range,List.mem_map];constructor
   ·rintro⟨hp,h⟩;rw[Bool.and_eq_true] at h;have hct:A.cs[p]? = some true:=by
     rw[zzgge hp] at h ⊢;cases hb:A.cs[p]
     ·rw[hb] at h;simp at h
     ·rfl
    obtain⟨y,hy,e⟩:=all p hct h.1;have ey:y.2.toNat=p:=by omega
    exact⟨y,List.mem_filter.2 ⟨hy,by rw[ey];exact h.1⟩,ey⟩
   ·rintro⟨y,hy,rfl⟩;obtain⟨hy,hw⟩:=List.mem_filter.1 hy;have hc:=g.own' y hy;refine⟨(zzgsi.1 hc).1,?_⟩;rw[hc];simpa using hw
 have h6:(outL s A.cs H.T win).length=(H.T.filter fun y=>!Cl.inW s.C win y.2.toNat).length:=by
  have e1:(outL s A.cs H.T win).length=((H.T.map (·.1)).filter (outF s A.cs H.T win)).length:=by
   unfold outL allT;exact((List.mergeSort_perm _ _).filter _).length_eq
  rw[e1,List.filter_map,List.length_map];congr 1;refine List.filter_congr fun y hy=>?_;obtain⟨o,ho⟩:=zzeoz (g.tok.rng y hy).2.2.1;have hcs:=(zzgsi.1 (g.own' y hy)).1;rw[ho,zztnc] at hcs;show outF s A.cs H.T win y.1=_;unfold outF;have ef:fnd H.T y.1=(o:Int):=by unfold fnd;rw[Q0W g.tok hy];exact ho
  have em:Cl.mCol A.cs.length s.C (o:Int)=((o % s.C:Nat):Int):=by
   unfold Cl.mCol;rw[if_pos ⟨by omega,by omega⟩];exact(Int.ofNat_tmod o s.C).symm
  rw[ef,em,ho,zztnc];unfold Cl.inW;have:(win.any fun x=>x == ((o % s.C:Nat):Int))=win.contains ((o % s.C:Nat):Int):=by
   rw[List.contains_eq_any_beq];congr 1;funext z;exact Bool.beq_comm
  rw[this]
 have h7:H.T.length=(H.T.filter fun y=>Cl.inW s.C win y.2.toNat).length+(H.T.filter fun y=>!Cl.inW s.C win y.2.toNat).length:=by
  rw[<-List.countP_eq_length_filter,<-List.countP_eq_length_filter];have:=List.length_eq_countP_add_countP (p:=fun y:Int × Int=>Cl.inW s.C win y.2.toNat) (l:=H.T);rw[this];congr 1;refine List.countP_congr fun y _=>?_;simp
 omega
end
end
section
open Go.RowKit Go.Maps Thing
def oT(o:Option Tn):Tb:=match o with | some t=>t.H.T | none=>[]
structure TnW (s:Sv) (A:Ax) (i:Nat) (t:Tn) (w:List Int):Prop where
 inv:TnInv s A t
 id:t.id=(i:Int)
 win:∀c,c ∈ t.H.win ↔ c ∈ w
 wn:t.H.win.Nodup
 lp:t.q.lp=w.length*s.nC
structure AdInv (s:Sv) (a:Ad):Prop where
 tn:∀i t,i<8->a.tn i=some t->TnW s a.A i t (a.ws i)
 n1:1<=s.nC
 c1:1<=s.C
 c32:s.C<=32
 p4:s.nC*s.C<=4096
 sn:s.n=s.nC*s.C*512
 bl:a.A.bs.length=s.n
 cl:a.A.cs.length=s.nC*s.C
 hl:a.hs.length=s.C
 se:∀i,i<8->1<=a.se i /\ a.se i<=17592186044416
 nil:∀i,i<8->a.tn i=none->a.ws i=[]
 nd:∀i,i<8->(a.ws i).Nodup
 rng:∀i,i<8->∀c ∈ a.ws i,0<=c /\ c<(s.C:Int)
 dis:∀i j,i<8->j<8->i ≠ j->∀c ∈ a.ws i,c ∉ a.ws j
 has:∀c:Nat,a.hs[c]? = some true ↔ ∃i,i<8 /\ (c:Int) ∈ a.ws i
 all:∀p,a.A.cs[p]? = some true->∃i,i<8 /\ inPg (oT (a.tn i)) p
theorem Q9N{C:Nat}{l:List Int}(h:l.Nodup)(hr:∀c ∈ l,0<=c /\ c<(C:Int)):l.length<=C:=Q18 h (fun x hx=>(hr x hx).1) fun x hx=>(hr x hx).2
section
variable{s:Sv}{A A':Ax}{H H':Hp}{a:Ad}{t t':Tn}
theorem AdInv.nc(g:AdInv s a):s.nC<=4096:=Nat.le_trans (Nat.le_mul_of_pos_right s.nC g.c1) g.p4
theorem AdInv.wl(g:AdInv s a){i:Nat}(hi:i<8):(a.ws i).length<=32:=Nat.le_trans (Q9N (g.nd i hi) (g.rng i hi)) g.c32
theorem AdInv.ok(g:AdInv s a):AdOk s a:=⟨fun i t hi h=>(g.tn i t hi h).inv.ok,fun i hi=>g.wl hi,g.se,g.hl,g.c32,g.nc⟩
theorem HOk.other(g:HOk s A H)(hb:A'.bs.length=A.bs.length)(hc:A'.cs.length=A.cs.length)(h:∀y ∈ H.T,A'.cs[y.2.toNat]? = A.cs[y.2.toNat]?):HOk s A' H:=
 ⟨hb.trans g.nb,by rw[hc];exact g.nc,by rw[hc];exact g.p4,g.win,g.tok,g.few,g.sl,fun y hy=>⟨by rw[h y hy];exact(g.own y hy).1,(g.own y hy).2⟩,g.pg,g.sm,g.ln,g.tab⟩
theorem HSt.tst2(g:HOk s A H)(h:HSt s A H A' H'):TSt s (H.win++H'.win) A H.T A' H'.T:=by
 refine⟨h.fr.bl,h.fr.cl,fun p hp=>h.fr.cs p fun q=>hp ?_,h.new,h.rest⟩;rw[Cl.inW_append,Bool.or_eq_true];rcases q with q | q
 ·exact⟨.inl (Q3X g q),.inl q⟩
 ·exact⟨.inr (Q3X h.ok q),h.new p q⟩
theorem Q2w{C:Nat}{l:List Int}{p:Nat}:Cl.inW C l p=true ↔ ((p % C:Nat):Int) ∈ l:=by
 unfold Cl.inW;rw[List.any_eq_true];constructor
 ·rintro⟨x,hx,e⟩;have e:x=((p % C:Nat):Int):=by simpa using e
  rw[<-e];exact hx
 ·intro h;exact⟨_,h,by simp⟩
theorem Q4x(g:AdInv s a){i:Nat}(hi:i<8){A':Ax}{o:Option Tn}{V wi:List Int}{hs':List Bool}{x:Int}(st:TSt s V a.A (oT (a.tn i)) A' (oT o))(hV:∀j,j<8->j ≠ i->∀c ∈ V,c ∉ a.ws j)
  (ht:∀t,o=some t->TnW s A' i t wi) (hnone:o=none->wi=[]) (wn:wi.Nodup) (wr:∀c ∈ wi,0<=c /\ c<(s.C:Int)) (wd:∀j,j<8->j ≠ i->∀c ∈ wi,c ∉ a.ws j)
  (hl:hs'.length=s.C) (hh:∀c:Nat,hs'[c]? = some true ↔ (c:Int) ∈ wi \/ ∃j,j<8 /\ j ≠ i /\ (c:Int) ∈ a.ws j) (hx:1<=x /\ x<=17592186044416) :
  AdInv s {A:=A',hs:=hs',ws:=updW a.ws i wi,tn:=updF a.tn i o,se:=updF a.se i x}:=by
 have wsi:updW a.ws i wi i=wi:=if_pos rfl;have wsj:∀j,j ≠ i->updW a.ws i wi j=a.ws j:=fun j h=>if_neg h;refine⟨fun j t hj h=>?_,g.n1,g.c1,g.c32,g.p4,g.sn,st.bl.trans g.bl,st.cl.trans g.cl,hl,fun j hj=>?_,fun j hj h=>?_,fun j hj=>?_,fun j hj=>?_,fun j k hj hk hjk=>?_,fun c=>?_,fun p hp=>?_⟩
 ·have h:updF a.tn i o j=some t:=h;by_cases e:j=i
  ·subst e;rw[Q0g] at h;show TnW s A' j t (updW a.ws j wi j);rw[wsi];exact ht t h
  ·rw[Q0n e] at h;show TnW s A' j t (updW a.ws i wi j);rw[wsj j e];have gt:=g.tn j t hj h;refine⟨Q3V gt.inv ⟨gt.inv.ok.h.other st.bl st.cl fun y hy=>st.cs _ fun q=>?_,gt.inv.ok.q,gt.inv.ok.ob,gt.inv.ok.al,gt.inv.ok.cap,gt.inv.ok.nx⟩,gt.id,gt.win,gt.wn,gt.lp⟩;have h1:=Q2w.1 q.1;have h2:=Q2w.1 (gt.inv.ok.h.own y hy).2;exact hV j hj e _ h1 ((gt.win _).1 h2)
 ·show 1<=updF a.se i x j /\ updF a.se i x j<=_;by_cases e:j=i
  ·subst e;rw[Q0g];exact hx
  ·rw[Q0n e];exact g.se j hj
 ·have h:updF a.tn i o j=none:=h;show updW a.ws i wi j=[];by_cases e:j=i
  ·subst e;rw[Q0g] at h;rw[wsi];exact hnone h
  ·rw[Q0n e] at h;rw[wsj j e];exact g.nil j hj h
 ·show(updW a.ws i wi j).Nodup;by_cases e:j=i
  ·subst e;rw[wsi];exact wn
  ·rw[wsj j e];exact g.nd j hj
 ·show ∀c ∈ updW a.ws i wi j,_;by_cases e:j=i
  ·subst e;rw[wsi];exact wr
  ·rw[wsj j e];exact g.rng j hj
 ·show ∀c ∈ updW a.ws i wi j,c ∉ updW a.ws i wi k;by_cases e:j=i
  ·subst e;rw[wsi,wsj k fun z=>hjk z.symm];exact wd k hk fun z=>hjk z.symm
  ·rw[wsj j e];by_cases e2:k=i
   ·subst e2;rw[wsi];exact fun c hc hw=>wd j hj e c hw hc
   ·rw[wsj k e2];exact g.dis j k hj hk hjk
 ·show hs'[c]? = some true ↔ ∃j,j<8 /\ (c:Int) ∈ updW a.ws i wi j;rw[hh];constructor
  ·rintro(h | ⟨j,hj,e,h⟩)
   ·exact⟨i,hi,by rw[wsi];exact h⟩
   ·exact⟨j,hj,by rw[wsj j e];exact h⟩
  ·rintro⟨j,hj,h⟩;by_cases e:j=i
   ·subst e;rw[wsi] at h;exact .inl h
   ·rw[wsj j e] at h;exact .inr ⟨j,hj,e,h⟩
 ·show ∃j,j<8 /\ inPg (oT (updF a.tn i o j)) p;rcases st.rest p hp with h | ⟨h1,h2⟩
  ·exact⟨i,hi,by rw[Q0g];exact h⟩
  ·obtain⟨j,hj,h⟩:=g.all p h1;refine⟨j,hj,?_⟩;by_cases e:j=i
   ·subst e;exact absurd h h2
   ·rw[Q0n e];exact h
theorem Q6H(ws:Nat->List Int)(i:Nat):updW ws i (ws i)=ws:=by
 funext j;unfold updW;split
 ·rename_i e;rw[e]
 ·rfl
theorem Q8h(g:AdInv s a){i:Nat}(hi:i<8)(h:a.tn i=some t)(o:Op):AdInv s {a with A:=(askM s a.A t o).A,tn:=updF a.tn i (some (askM s a.A t o).t)}:=by
 have gt:=g.tn i t hi h;have go:=QcO gt.inv.ok o;have inv:=Qea gt.inv o;have:=Q4x g hi (A':=(askM s a.A t o).A) (o:=some (askM s a.A t o).t) (V:=t.H.win) (wi:=a.ws i) (hs':=a.hs) (x:=a.se i) (by rw[h];exact go.st) (fun j hj e c hc=>g.dis i j hi hj (fun z=>e z.symm) c ((gt.win c).1 hc))
  (fun t' e=>by cases e;exact⟨inv,go.id.trans gt.id,fun c=>by rw[go.win];exact gt.win c,by rw[go.win];exact gt.wn,go.lp.trans gt.lp⟩) (fun e=>by cases e) (g.nd i hi) (g.rng i hi) (fun j hj e=>g.dis i j hi hj fun z=>e z.symm) g.hl
  (fun c=>by
   rw[g.has];constructor
   ·rintro⟨j,hj,hc⟩;by_cases e:j=i
    ·subst e;exact .inl hc
    ·exact .inr ⟨j,hj,e,hc⟩
   ·rintro(hc | ⟨j,hj,_,hc⟩)
    ·exact⟨i,hi,hc⟩
    ·exact⟨j,hj,hc⟩) (g.se i hi)
 rw[Q6H,Q0A] at this;exact this
theorem Q8j(g:AdInv s a)(i:Int):AdInv s (desM s a i).a:=by
 unfold desM;by_cases hi:0<=i /\ i<8
 case neg=>rw[if_pos hi];exact g
 rw[if_neg (not_not_intro hi)];obtain⟨m,rfl⟩:=zzeoz hi.1;have hm:m<8:=by omega
 rw[zztnc];cases h:a.tn m with
 | none=>exact g
 | some t=>
  have gt:=g.tn m t hm h;obtain⟨st,eH,_⟩:=Q4i gt.inv.ok.h;have ts:=st.tst gt.inv.ok.h (by rw[eH];rfl);rw[eH] at ts;obtain⟨g1,g2⟩:=Q7a (a.ws m) a.hs fun c hc=>by have:=g.rng m hm c hc;have:=g.hl;omega
  exact Q4x g hm (A':=drpA s a.A t) (o:=none) (V:=t.H.win) (wi:=[]) (hs':=gvH a.hs (a.ws m)) (x:=t.nx) (by rw[h];exact ts) (fun j hj e c hc=>g.dis m j hm hj (fun z=>e z.symm) c ((gt.win c).1 hc))
   (fun t' e=>by cases e) (fun _=>rfl) List.nodup_nil (fun c hc=>by cases hc) (fun j hj e c hc=>by cases hc) (g1.trans g.hl)
   (fun c=>by
    rw[g2,g.has];constructor
    ·rintro⟨⟨j,hj,hc⟩,hn⟩;exact .inr ⟨j,hj,fun e=>hn (by rw[<-e];exact hc),hc⟩
    ·rintro(hc | ⟨j,hj,e,hc⟩)
     ·cases hc
     ·exact⟨⟨j,hj,hc⟩,fun z=>g.dis m j hm hj (fun w=>e w.symm) _ z hc⟩) gt.inv.ok.nx
theorem Qgh{n:Nat}{q:Int}{i:Nat}{se:Int}{win:List Int}(bl:A.bs.length=s.n)(nc:A.cs.length*512=s.n)(p4:A.cs.length<=4096)(hw:win.length<=32)(hq:MayQ q)(hd:demN q.toNat<=n)(hn:n<=1099511627776)(hse:1<=se /\ se<=17592186044416):TnInv s A (T0 n i se q win):=by
 have h0:=Q5p (s:=s) (win:=win) bl nc p4 hw;have no:∀k m,¬((H0 win).sl k)[m]? = some true:=fun k m h=>by
  have:=zzmog h;exact absurd (List.eq_of_mem_replicate this) (by simp)
 have us:∀k m,usd (H0 win) k m=0:=fun k m=>by
  unfold usd;split
  ·rfl
  ·rw[if_neg (no k m)]
 have ch:chgH (H0 win)=0:=by
  unfold chgH;have:sumR 24 (fun k=>usdK (H0 win) k*untN k)=sumR 24 fun _=>0:=Q0d fun k _=>by
   have:usdK (H0 win) k=0:=by
    unfold usdK;have:=Q0d (n:=sltN k) (f:=usd (H0 win) k) (g:=fun _=>0) fun m _=>us k m;rw[this];have:=Q0P (sltN k) 0 (fun _=>0);simpa using this
   rw[this,Nat.zero_mul]
  rw[this];have:=Q0P 24 0 (fun _=>0);simpa using this
 have sl:∀k,slK (H0 win) k=0:=fun k=>by
  unfold slK;have:=Q0d (n:=sltN k) (f:=fun m=>if ((H0 win).sl k)[m]? = some true then 1 else 0) (g:=fun _=>0) fun m _=>if_neg (no k m);rw[this];have:=Q0P (sltN k) 0 (fun _=>0);simpa using this
 refine⟨⟨h0,⟨⟨by show q.toNat<=_;omega,hn⟩,by show 0+0<=q.toNat;omega,by show 0+0<=n;omega⟩,fun k v h=>(by cases h),fun k v h=>(by cases h),fun x z h=>(by cases h),hse⟩,fun a v h=>(by cases h),fun a k m b h=>?_,ch.symm,⟨rfl,rfl⟩,rfl,⟨hq,by show((q.toNat:Nat):Int)<=q;omega⟩,fun k _=>by show slK (H0 win) k<=_;rw[sl];omega,fun k m _ _ h=>absurd h (no k m),hd⟩;exact absurd (Q0F h).2.2.2.2.1 (no k m)
theorem Q8i(g:AdInv s a)(i k q:Int):AdInv s (creM s a i k q).a:=by
 unfold creM;by_cases hi:0<=i /\ i<8
 case neg=>rw[if_pos hi];exact g
 rw[if_neg (not_not_intro hi)];obtain⟨m,rfl⟩:=zzeoz hi.1;have hm:m<8:=by omega
 rw[zztnc];cases h:a.tn m with
 | some t=>exact g
 | none=>
  rw[if_neg (by simp)];by_cases hs:sizE s k q=0
  case neg=>rw[if_pos hs];exact g
  rw[if_neg (not_not_intro hs)];obtain⟨y1,y2,y3⟩:=Q5I hs;obtain⟨kn,rfl⟩:=zzeoz (show 0<=k by omega);rw[zztnc];by_cases hf:(demN q.toNat:Int)<=(kn:Int)*s.nC
  case neg=>rw[if_pos hf];exact g
  rw[if_neg (not_not_intro hf)];by_cases hc:(a.hs.count false:Int)<(kn:Int)
  ·rw[if_pos hc];exact g
  rw[if_neg hc];have tk:=Q4V a.hs kn (by omega);have hlen:=Q1Y a.hs kn;have hr:∀c ∈ tkL a.hs kn,0<=c /\ c<(s.C:Int):=fun c hc=>by have:=tk.rng c hc;have:=g.hl;omega
  have hroo:rooN s.nC s.C (tkL a.hs kn)=kn*s.nC:=by rw[Q5C tk.nd hr,hlen]
  have hf2:demN q.toNat<=kn*s.nC:=by rw[<-Int.natCast_mul] at hf;omega
  rw[hroo,if_pos (by omega)];have hk32:kn<=32:=by have:=g.c32;omega
  have hkn:kn*s.nC<=32*4096:=Nat.mul_le_mul hk32 g.nc;have hn0:=g.nil m hm h;have hsn:=g.sn;have hcl:=g.cl;have inv:=Qgh (s:=s) (A:=a.A) (n:=kn*s.nC) (q:=q) (i:=m) (se:=a.se m) (win:=tkL a.hs kn) g.bl (by rw[hcl];exact hsn.symm) (by rw[hcl];exact g.p4) (by omega) y1 hf2 (by omega) (g.se m hm);have hW:∀c,c ∈ srtI (a.ws m++tkL a.hs kn) ↔ c ∈ tkL a.hs kn:=fun c=>by rw[Q6A,hn0,List.nil_append]
  have wd:∀j,j<8->j ≠ m->∀c ∈ tkL a.hs kn,c ∉ a.ws j:=fun j hj e c hc z=>by
   obtain⟨c0,c1,c2⟩:=tk.rng c hc;have:=(g.has c.toNat).2 ⟨j,hj,by rw[show((c.toNat:Nat):Int)=c by omega];exact z⟩;rw[c2] at this;cases this
  have:=Q4x g hm (A':=a.A) (o:=some (T0 (kn*s.nC) m (a.se m) q (tkL a.hs kn))) (V:=tkL a.hs kn) (wi:=srtI (a.ws m++tkL a.hs kn)) (hs':=tkH a.hs kn) (x:=a.se m) (by rw[h];exact TSt.same rfl rfl) wd
   (fun t' e=>by cases e;exact⟨inv,rfl,fun c=>(hW c).symm,tk.nd,by show kn*s.nC=_;rw[Q0Y,hn0,List.nil_append,hlen]⟩) (fun e=>by cases e) (by rw[hn0,List.nil_append];exact Q3z tk.nd) (fun c hc=>hr c ((hW c).1 hc)) (fun j hj e c hc=>wd j hj e c ((hW c).1 hc)) (tk.len.trans g.hl)
   (fun c=>by
    rw[tk.iff,g.has,hW];constructor
    ·rintro(⟨j,hj,hc⟩ | hc)
     ·refine .inr ⟨j,hj,fun e=>?_,hc⟩;rw[e,hn0] at hc;cases hc
     ·exact .inl hc
    ·rintro(hc | ⟨j,hj,_,hc⟩)
     ·exact .inr hc
     ·exact .inl ⟨j,hj,hc⟩) (g.se m hm)
  rw[Q0A] at this;exact this
end
end
section
open Go.RowKit Go.Maps Thing
theorem Qbk{p q:Nat}(h:p<=q)(k:Nat):byN k p<=byN k q:=by
 unfold byN;have:=Nat.div_le_div_right (c:=unitN k) h;exact Nat.div_le_div_right (by omega)
section
variable{s:Sv}{A A':Ax}{H H':Hp}{a:Ad}{t t':Tn}
theorem Q32(g:TnInv s A t)(h:∀k,t.ob k=none){k m:Nat}(hk:k<24)(hm:m<sltN k):(t.H.sl k)[m]? ≠ some true:=fun ht=>by
 have no:∀b,b<perM k->¬bk t.H k m b:=fun b hb hbk=>by
  have:=g.ob2 _ k m b ((Q1i hk hm hb).2 hbk);rw[h] at this;cases this
 by_cases h8:k<8
 ·have hu:=g.use k m h8 hm ht;unfold usd at hu;rw[if_pos h8] at hu;cases hS:t.H.S (locN k m)with
  | none=>rw[hS] at hu;exact absurd hu (by show ¬1<=0;omega)
  | some q=>
   rw[hS] at hu;have hu:1<=q.q.hs.count true:=hu;have hmem:true ∈ q.q.hs:=List.count_pos_iff.1 (by omega);obtain⟨b,hb⟩:=List.getElem?_of_mem hmem;obtain⟨_,pq,m',a3,a4,_⟩:=g.ok.h.pg _ q hS;obtain⟨e1,e2⟩:=Q0Q hk hm (by omega) a3 a4;have hbl:=(zzgsi.1 hb).1;have hl:=pq.hl;rw[<-e1] at hl;have hp:perM k=perN k:=if_pos h8;exact no b (by omega) ⟨ht,fun _=>⟨q,hS,hb⟩⟩
 ·exact no 0 (by have:=(Q0D hk).2.2.2.1;omega) ⟨ht,fun z=>absurd z h8⟩
theorem Q9Q(g:TnInv s A t)(b:Int)(hb:(t.q.cb:Int)<=b):(∀k,k<8->slK t.H k<=byN k (nxtM t b).toNat) /\ t.H.T.length<=demN (nxtM t b).toNat /\ b<=nxtM t b:=by
 by_cases h:∀k,t.ob k=none
 ·rw[Q7q h];have sl:∀k,k<24->slK t.H k=0:=fun k hk=>by
   unfold slK;have:=Q0d (n:=sltN k) (f:=fun m=>if (t.H.sl k)[m]? = some true then 1 else 0) (g:=fun _=>0) fun m hm=>if_neg (Q32 g h hk hm);rw[this];have:=Q0P (sltN k) 0 (fun _=>0);simpa using this
  refine⟨fun k hk=>by rw[sl k (by omega)];omega,?_,by omega⟩;rw[Q1f g.ok.h];have:=Q0d (n:=24) (f:=fun k=>slK t.H k*pagN k) (g:=fun _=>0) fun k hk=>by rw[sl k hk,Nat.zero_mul]
  rw[this];have:=Q0P 24 0 (fun _=>0);have:sumR 24 (fun _=>0)=0:=by simpa using this
  omega
 ·rw[Q7r h];have hle:t.peak.toNat<=(max b t.peak).toNat:=by omega
  have hcb:=g.cb;have hpk:=g.pk;have hqb:=g.ok.q.b;have hs:∀k,k<8->slK t.H k<=byN k (max b t.peak).toNat:=fun k hk=>Nat.le_trans (g.pgs k hk) (Qbk hle k);exact⟨hs,Qaf g.ok.h (by omega) hs,by omega⟩
theorem Q8E{l:List Int}(h:l.Nodup)(k:Nat):(l.take k).Nodup:=h.sublist (List.take_sublist k l)
theorem Q8k(g:AdInv s a)(i k q:Int):AdInv s (resM s a i k q).a /\ ((resM s a i k q).E ≠ 0->(resM s a i k q).a=a):=by
 unfold resM;by_cases hi:0<=i /\ i<8
 case neg=>rw[if_pos hi];exact⟨g,fun _=>rfl⟩
 rw[if_neg (not_not_intro hi)];obtain⟨m,rfl⟩:=zzeoz hi.1;have hm:m<8:=by omega
 rw[zztnc];cases h:a.tn m with
 | none=>exact⟨g,fun _=>rfl⟩
 | some t=>
  dsimp only;by_cases hs:sizE s k q=0
  case neg=>rw[if_pos hs];exact⟨g,fun _=>rfl⟩
  rw[if_neg (not_not_intro hs)];obtain⟨y1,y2,y3⟩:=Q5I hs;obtain⟨kn,rfl⟩:=zzeoz (show 0<=k by omega);rw[zztnc];by_cases hf:fitE t q ((kn:Int)*s.nC)=0
  case neg=>rw[if_pos hf];exact⟨g,fun _=>rfl⟩
  rw[if_neg (not_not_intro hf)];by_cases hc:a.hs.count false<kn-(a.ws m).length
  ·rw[if_pos hc];exact⟨g,fun _=>rfl⟩
  rw[if_neg hc];have gt:=g.tn m t hm h;obtain⟨f1,f2,f3,f4⟩:=Q9d hf;obtain⟨x1,x2,x3⟩:=Q9Q gt.inv q f2;generalize ed:kn-(a.ws m).length=d at hc ⊢;have tk:=Q4V a.hs d (by omega);have hlen:=Q1Y a.hs d;have hn0:=g.nd m hm;have hr0:=g.rng m hm;have eW:(a.grant m d).ws m=srtI (a.ws m++tkL a.hs d):=if_pos rfl;have eWs:(a.grant m d).ws=updW a.ws m (srtI (a.ws m++tkL a.hs d)):=rfl;have eHs:(a.grant m d).hs=tkH a.hs d:=rfl;have fresh:∀j,j<8->∀c ∈ tkL a.hs d,c ∉ a.ws j:=fun j hj c hc z=>by
   obtain⟨c0,c1,c2⟩:=tk.rng c hc;have:=(g.has c.toNat).2 ⟨j,hj,by rw[show((c.toNat:Nat):Int)=c by omega];exact z⟩;rw[c2] at this;cases this
  have hbig:(a.ws m++tkL a.hs d).Nodup:=List.nodup_append.2 ⟨hn0,tk.nd,fun x hx y hy e=>fresh m hm y hy (by rw[<-e];exact hx)⟩;have hbr:∀c ∈ a.ws m++tkL a.hs d,0<=c /\ c<(s.C:Int):=fun c hc=>by
   rcases zzmpd.1 hc with hc | hc
   ·exact hr0 c hc
   ·have:=tk.rng c hc;have:=g.hl;omega
  rw[eW,eWs,eHs];generalize eB:srtI (a.ws m++tkL a.hs d)=W;have hWn:W.Nodup:=by rw[<-eB];exact Q3z hbig
  have hWm:∀c,c ∈ W ↔ c ∈ a.ws m \/ c ∈ tkL a.hs d:=fun c=>by rw[<-eB,Q6A,zzmpd]
  have hWr:∀c ∈ W,0<=c /\ c<(s.C:Int):=fun c hc=>hbr c (zzmpd.2 ((hWm c).1 hc));have hWl:W.length=(a.ws m).length+d:=by rw[<-eB,Q0Y,zzlna,hlen]
  have hkl:(W.take kn).length=kn:=by rw[zzlnt];omega
  have tn:(W.take kn).Nodup:=Q8E hWn kn;have tr:∀c ∈ W.take kn,0<=c /\ c<(s.C:Int):=fun c hc=>hWr c (List.mem_of_mem_take hc);have hroo:rooN s.nC s.C (W.take kn)=kn*s.nC:=by rw[Q5C tn tr,hkl]
  have hf4:demN (nxtM t q).toNat<=kn*s.nC:=by rw[<-Int.natCast_mul] at f4;omega
  have hw32:(W.take kn).length<=32:=by rw[hkl];have:=g.c32;omega
  have others:∀j,j<8->j ≠ m->∀c ∈ W,c ∉ a.ws j:=fun j hj e c hc z=>by
   rcases(hWm c).1 hc with y | y
   ·exact g.dis m j hm hj (fun w=>e w.symm) c y z
   ·exact fresh j hj c y z
  have hfit:(outL s a.A.cs t.H.T (W.take kn)).length<=Cl.cnt a.A.cs s.C (W.take kn):=by
   refine QbW gt.inv.ok.h g.cl tn tr (fun p hp hw=>?_) (by rw[hkl];omega);obtain⟨j,hj,hin⟩:=g.all p hp;cases htj:a.tn j with
   | none=>rw[htj] at hin;obtain⟨y,hy,_⟩:=hin;cases hy
   | some tj=>
    rw[htj] at hin;have gj:=g.tn j tj hj htj;have hcol:=Q2w.1 (Q3X gj.inv.ok.h hin);have hcw:=(gj.win _).1 hcol;have hcm:=Q2w.1 hw;by_cases e:j=m
    ·subst e;rw[h] at htj;cases htj;exact hin
    ·exact absurd hcw (others j hj e _ (List.mem_of_mem_take hcm))
  have hmov:(movM s a.A t.H (W.take kn)).E=0:=by unfold movM;rw[if_pos hfit]
  obtain⟨hst,hw0,_⟩:=Q7n gt.inv.ok.h (win:=W.take kn) hw32;obtain⟨hwin,hTl⟩:=hw0 hmov;have sam:=Qei gt.inv.ok.h (win:=W.take kn) hw32;have hcp:=gt.inv.cp;have hr:=gt.inv.r0;have qe:qresE t.q q.toNat (kn*s.nC)=0:=if_pos ⟨by omega,by omega⟩;have qm:qresM t.q q.toNat (kn*s.nC)={t.q with lb:=q.toNat,lp:=kn*s.nC}:=if_pos ⟨by omega,by omega⟩;unfold rszR;rw[hroo];rw[<-Int.natCast_mul] at hf;rw[if_neg (not_not_intro hf),if_neg (not_not_intro hmov),qe,qm];refine⟨?_,fun z=>absurd rfl z⟩;have hkb:kn*s.nC<=32*4096:=Nat.mul_le_mul (by have:=g.c32;omega) g.nc;have gq:=gt.inv.ok.q;have inv':TnInv s (movM s a.A t.H (W.take kn)).A {t with H:=(movM s a.A t.H (W.take kn)).H,peak:=nxtM t q,q:={t.q with lb:=q.toNat,lp:=kn*s.nC}}:=by
   have ok':TnOk s (movM s a.A t.H (W.take kn)).A {t with H:=(movM s a.A t.H (W.take kn)).H,peak:=nxtM t q,q:={t.q with lb:=q.toNat,lp:=kn*s.nC}}:=
    ⟨hst.ok,⟨⟨by show q.toNat<=_;omega,by show kn*s.nC<=_;omega⟩,by show t.q.cb+t.q.rb<=q.toNat;omega,by show t.q.cp+t.q.rp<=kn*s.nC;omega⟩,gt.inv.ok.ob,gt.inv.ok.al,gt.inv.ok.cap,gt.inv.ok.nx⟩
   refine⟨ok',fun x v hv=>?_,fun x k m b hb=>?_,?_,hr,?_,⟨f3,by show((q.toNat:Nat):Int)<=nxtM t q;omega⟩,fun k hk=>?_,fun k m hk hm ht=>?_,hf4⟩
   ·show ∃k m b,blkM (movM s a.A t.H (W.take kn)).H x=_ /\ _;rw[sam.blk];exact gt.inv.ob1 x v hv
   ·have hb:blkM (movM s a.A t.H (W.take kn)).H x=some (k,m,b):=hb;rw[sam.blk] at hb;exact gt.inv.ob2 x k m b hb
   ·show t.q.cb=chgH (movM s a.A t.H (W.take kn)).H;rw[sam.chg];exact gt.inv.cb
   ·show t.q.cp=(movM s a.A t.H (W.take kn)).H.T.length;rw[hTl];exact hcp
   ·show slK (movM s a.A t.H (W.take kn)).H k<=byN k (nxtM t q).toNat
    rw[sam.sl k (by omega)];exact x1 k hk
   ·show 1<=usd (movM s a.A t.H (W.take kn)).H k m;rw[sam.us k m (by omega) hm];exact gt.inv.use k m hk hm ((sam.tk k m (by omega) hm).1 ht)
  have hdr:∀c ∈ W.drop kn,0<=c /\ c.toNat<(tkH a.hs d).length:=fun c hc=>by
   have:=hWr c (List.mem_of_mem_drop hc);have:=tk.len;have:=g.hl;omega
  obtain⟨v1,v2⟩:=Q7a (W.drop kn) (tkH a.hs d) hdr;have split:∀c,c ∈ W ↔ c ∈ W.take kn \/ c ∈ W.drop kn:=fun c=>by
   conv=>lhs;rw[<-List.take_append_drop kn W]
   exact zzmpd
  have dj:∀c ∈ W.take kn,c ∉ W.drop kn:=fun c hc hd=>by
   have:=hWn;rw[<-List.take_append_drop kn W] at this;exact(List.nodup_append.1 this).2.2 c hc c hd rfl
  have:=Q4x g hm (A':=(movM s a.A t.H (W.take kn)).A) (o:=some {t with H:=(movM s a.A t.H (W.take kn)).H,peak:=nxtM t q,q:={t.q with lb:=q.toNat,lp:=kn*s.nC}}) (V:=t.H.win++W.take kn) (wi:=W.take kn) (hs':=gvH (tkH a.hs d) (W.drop kn)) (x:=a.se m)
   (by rw[h];have:=hst.tst2 gt.inv.ok.h;rw[hwin] at this;exact this)
   (fun j hj e c hc=>by
    rcases zzmpd.1 hc with hc | hc
    ·exact g.dis m j hm hj (fun z=>e z.symm) c ((gt.win c).1 hc)
    ·exact others j hj e c (List.mem_of_mem_take hc))
   (fun t' e=>by cases e;exact⟨inv',gt.id,fun c=>by show c ∈ (movM s a.A t.H (W.take kn)).H.win ↔ _;rw[hwin],by show(movM s a.A t.H (W.take kn)).H.win.Nodup;rw[hwin];exact tn,by show kn*s.nC=_;rw[hkl]⟩)
   (fun e=>by cases e) tn tr (fun j hj e c hc=>others j hj e c (List.mem_of_mem_take hc)) (by rw[v1,tk.len];exact g.hl)
   (fun c=>by
    rw[v2,tk.iff,g.has];constructor
    ·rintro⟨⟨j,hj,hc⟩ | hc,hn⟩
     ·by_cases e:j=m
      ·subst e;exact .inl (((split c).1 ((hWm c).2 (.inl hc))).resolve_right hn)
      ·exact .inr ⟨j,hj,e,hc⟩
     ·exact .inl (((split c).1 ((hWm c).2 (.inr hc))).resolve_right hn)
    ·rintro(hc | ⟨j,hj,e,hc⟩)
     ·refine⟨?_,dj c hc⟩;rcases(hWm c).1 ((split c).2 (.inl hc))with y | y
      ·exact .inl ⟨m,hm,y⟩
      ·exact .inr y
     ·exact⟨.inl ⟨j,hj,hc⟩,fun z=>others j hj e c ((split c).2 (.inr z)) hc⟩) (g.se m hm)
  rw[Q0A] at this;have e2:updW (updW a.ws m W) m (W.take kn)=updW a.ws m (W.take kn):=by
   funext j;unfold updW;split <;> rfl
  rw[e2];exact this
theorem Q3U{P0 C0:Int}(g:SvOk s P0 C0):AdInv s (A0 s):=by
 have h1:=g.n;exact⟨fun i t hi h=>(by cases h),g.n1,g.c1,g.c32,g.p4,h1,zzlrp,zzlrp,zzlrp,fun i hi=>⟨by show(1:Int)<=1;omega,by show(1:Int)<=_;omega⟩,fun i hi _=>rfl,fun i hi=>List.nodup_nil,fun i hi c hc=>(by cases hc),fun i j hi hj e c hc=>(by cases hc),
  fun c=>⟨fun h=>absurd (List.eq_of_mem_replicate (zzmog h)) (by simp),fun⟨i,hi,h⟩=>(by cases h)⟩,fun p h=>absurd (List.eq_of_mem_replicate (zzmog h)) (by simp)⟩
end
end
section
open Go.RowKit Go.Maps Thing
abbrev opL(o:Op):List Value:=[.int .i64 o.K,.int .i64 o.T,.int .i64 o.N,.int .i64 o.M,.int .u64 o.H,.string o.D]
abbrev opV(o:Op):Value:=.agg #[.int .i64 o.K,.int .i64 o.T,.int .i64 o.N,.int .i64 o.M,.int .u64 o.H,.string o.D]
abbrev opB(o:Op):Obj:=.cells #[.int .i64 o.K,.int .i64 o.T,.int .i64 o.N,.int .i64 o.M,.int .u64 o.H,.string o.D] 35 (0,0)
def chkE(o:Op):Int:=if o.K<1 \/ o.K>11 \/ o.T<0 \/ o.T>=8 \/ (o.D.size:Int)>8192 \/ ((o.D.size:Int)>0 /\ o.K ≠ 10)then 1 else 0
section
variable{w:World}{R:VW}
theorem ocheck(o:Op)(r:∀w',Ext w w'->R (.int .i64 (chkE o)) w'):CS 37 #[opV o] w R:=by
 constructor;refine vc98.ok ?_;unfold vc98;refine Q09 fun n0 w1 hb hE _ _=>?_;have bad:(o.K<1 \/ o.K>11 \/ o.T<0 \/ o.T>=8 \/ (o.D.size:Int)>8192 \/ ((o.D.size:Int)>0 /\ o.K ≠ 10))->R (.int .i64 1) w1:=fun q=>by
  have:=r w1 hE;unfold chkE at this;rw[if_pos q] at this;exact this
 have good:¬(o.K<1 \/ o.K>11 \/ o.T<0 \/ o.T>=8 \/ (o.D.size:Int)>8192 \/ ((o.D.size:Int)>0 /\ o.K ≠ 10))->R (.int .i64 0) w1:=fun q=>by
  have:=r w1 hE;unfold chkE at this;rw[if_neg q] at this;exact this
 refine⟨_,by rw[Q02];exact Q01 hb rfl,ifD (fun q=>bad (.inl q)) (fun q1=>⟨_,by rw[Q02];exact Q01 hb rfl,ifD (fun q=>bad (.inr (.inl q))) (fun q2=>⟨_,by rw[Q02];exact Q01 hb rfl,ifD (fun q=>bad (.inr (.inr (.inl q)))) (fun q3=>
  ⟨_,by rw[Q02];exact Q01 hb rfl,ifD (fun q=>bad (.inr (.inr (.inr (.inl q))))) (fun q4=>⟨_,by rw[Q02];exact Q01 hb rfl,ifD (fun q=>bad (.inr (.inr (.inr (.inr (.inl q)))))) (fun q5=>ifD (fun q6=>⟨_,by rw[Q02];exact Q01 hb rfl,Q05 (fun q=>?_) (fun q=>?_)⟩) (fun q6=>good ?_))⟩)⟩)⟩)⟩)⟩
 ·have q:o.K ≠ 10:=by simpa using q
  exact bad (.inr (.inr (.inr (.inr (.inr ⟨q6,q⟩)))))
 ·have q:o.K=10:=by simpa using q
  exact good (by rintro(z | z | z | z | z | z) <;> omega)
 ·rintro(z | z | z | z | z | z) <;> omega
end
section
variable{s:Sv}{tb:Nat}{y:Tl}{t:Tn}{A:Ax}{w:World}{F:Nat->Prop}{X C:Thing}{R:VW}
def askK(n2:Nat)(R:VW)(v39:Value)(w40:World):Prop:=∃(i41 i42 i43 i44:Int)(s45:ByteArray)(i46:Int),v39=.agg #[.int .i64 i41,.int IntKind.u64 i42,.int .i64 i43,.int .i64 i44,.string s45,.int .i64 i46] /\ WrC w40 (zA n2) (6:Nat) /\ ∀(w47:World),w47=wr w40 (zA n2) [.int .i64 i41,.int IntKind.u64 i42,.int .i64 i43,.int .i64 i44,.string s45,.int .i64 i46] →
 ∃(i48 i49 i50 i51:Int)(s52:ByteArray)(i53:Int),CellsAt w47 (zA n2) [.int .i64 i48,.int IntKind.u64 i49,.int .i64 i50,.int .i64 i51,.string s52,.int .i64 i53] /\ R (.agg #[.int .i64 i48,.int IntKind.u64 i49,.int .i64 i50,.int .i64 i51,.string s52,.int .i64 i53]) w47
theorem QeO(g:TnOk s A t)(hts:A.ts.length<60000000000)(o:Op)(hu:Hd.U64 o.H):Tri 42 #[zP tb,opV o] (axT s A*tnX s tb y t)
  (fun v=>any fun y':Tl=>only (v=anV (askM s A t o).a) (axT s (askM s A t o).A*tnX s tb y' (askM s A t o).t)):=by
 intro w F R h r;have r:∀y' w' F',(axT s (askM s A t o).A*tnX s tb y' (askM s A t o).t).P w' F'->Step F w F' w'->R (anV (askM s A t o).a) w':=fun y' w' F' p st=>r _ w' F' ⟨y',rfl,p⟩ st;constructor;refine vc101.ok ?_;unfold vc101;refine Q0m h fun n0 w1 F1 h1 s1 _=>Q0m h1 fun n2 w2 F2 h2 s2 _=>?_;have s12:=s1.trans s2;have hb:=Q0b (b:=n0) (o:=opB o) (C:=blk n2 (anO zAn)*(axT s A*tnX s tb y t)) h2 (by show blk n2 (anO zAn)*(blk n0 (opB o)*_)=_;ac_rfl);have fin:∀(rs:Rs)(y':Tl)(w':World)(F':Nat->Prop),askM s A t o=rs->(axT s rs.A*tnX s tb y' rs.t*(blk n2 (anO zAn)*blk n0 (opB o))).P w' F'->Step F2 w2 F' w'->askK n2 R (anV rs.a) w':=fun rs y' w' F' e p st=>by
  rw[e] at r;refine⟨_,_,_,_,_,_,rfl,?_⟩;refine Q1s rs.a (C:=blk n0 (opB o)*(axT s rs.A*tnX s tb y' rs.t)) (re p (by show _=blk n2 (anO zAn)*_;ac_rfl)) rfl fun w4 F4 h4 s4=>?_;obtain⟨F5,h5,sub⟩:=Q07 h4;exact r y' w4 F5 h5 (((s12.trans st).trans s4).sub sub)
 have pre:(axT s A*tnX s tb y t*(blk n2 (anO zAn)*blk n0 (opB o))).P w2 F2:=re h2 (by show blk n2 (anO zAn)*(blk n0 (opB o)*_)=_;ac_rfl);unfold askM at fin;refine⟨_,by rw[Q02];exact Q01 hb rfl,Q05 (fun q=>?_) (fun q=>?_)⟩
 ·have q:o.K=4:=by simpa using q
  refine⟨_,by rw[Q02];exact Q01 hb rfl,(Q5P g (by omega) o.N).use (C:=blk n2 (anO zAn)*blk n0 (opB o)) pre rfl fun v w' F' p st=>?_⟩;obtain⟨y',rfl,pb⟩:=Q0l p;exact fin _ y' w' F' (if_pos q) pb st
 have q4:¬o.K=4:=by simpa using q
 rw[if_neg q4] at fin;refine Q05 (fun q=>?_) (fun q=>?_)
 ·have q:o.K=5:=by simpa using q
  refine⟨_,by rw[Q02];exact Q01 hb rfl,_,by rw[Q02];exact Q01 hb rfl,(QaS g (by omega) o.N o.M).use (C:=blk n2 (anO zAn)*blk n0 (opB o)) pre rfl fun v w' F' p st=>?_⟩;obtain⟨y',rfl,pb⟩:=Q0l p;exact fin _ y' w' F' (if_pos q) pb st
 have q5:¬o.K=5:=by simpa using q
 rw[if_neg q5] at fin;refine Q05 (fun q=>?_) (fun q=>?_)
 ·have q:o.K=6:=by simpa using q
  refine⟨_,by rw[Q02];exact Q01 hb rfl,(Qf4 g (by omega) hu).use (C:=blk n2 (anO zAn)*blk n0 (opB o)) pre rfl fun v w' F' p st=>?_⟩;rw[Q06] at p;obtain⟨rfl,p⟩:=p;exact fin _ y w' F' (if_pos q) p st
 have q6:¬o.K=6:=by simpa using q
 rw[if_neg q6] at fin;refine Q05 (fun q=>?_) (fun q=>?_)
 ·have q:o.K=7:=by simpa using q
  refine⟨_,by rw[Q02];exact Q01 hb rfl,_,by rw[Q02];exact Q01 hb rfl,(Q8D g (by omega) hu o.N).use (C:=blk n2 (anO zAn)*blk n0 (opB o)) pre rfl fun v w' F' p st=>?_⟩;obtain⟨y',rfl,pb⟩:=Q0l p;exact fin _ y' w' F' (if_pos q) pb st
 have q7:¬o.K=7:=by simpa using q
 rw[if_neg q7] at fin;refine Q05 (fun q=>?_) (fun q=>?_)
 ·have q:o.K=8:=by simpa using q
  refine⟨_,by rw[Q02];exact Q01 hb rfl,(QaZ g hu).use (C:=blk n2 (anO zAn)*blk n0 (opB o)) pre rfl fun v w' F' p st=>?_⟩;rw[Q06] at p;obtain⟨rfl,p⟩:=p;exact fin ⟨usbR t o.H,A,t⟩ y w' F' (if_pos q) p st
 have q8:¬o.K=8:=by simpa using q
 rw[if_neg q8] at fin;refine Q05 (fun q=>?_) (fun q=>?_)
 ·have q:o.K=9:=by simpa using q
  refine⟨_,by rw[Q02];exact Q01 hb rfl,_,by rw[Q02];exact Q01 hb rfl,_,by rw[Q02];exact Q01 hb rfl,(Qf7 g (by omega) hu o.N o.M).use (C:=blk n2 (anO zAn)*blk n0 (opB o)) pre rfl fun v w' F' p st=>?_⟩;rw[Q06] at p;obtain⟨rfl,p⟩:=p;have ht:=Qa7 A t o.H o.N o.M;exact fin (reaR A t o.H o.N o.M) y w' F' (if_pos q) (by rw[ht];exact p) st
 have q9:¬o.K=9:=by simpa using q
 rw[if_neg q9] at fin;refine Q05 (fun q=>?_) (fun q=>?_)
 ·have q:o.K=10:=by simpa using q
  refine⟨_,by rw[Q02];exact Q01 hb rfl,_,by rw[Q02];exact Q01 hb rfl,_,by rw[Q02];exact Q01 hb rfl,(Qcr g (by omega) hu o.N o.D).use (C:=blk n2 (anO zAn)*blk n0 (opB o)) pre rfl fun v w' F' p st=>?_⟩;rw[Q06] at p;obtain⟨rfl,p⟩:=p;have ht:=Qbc A t o.H o.N o.D;exact fin (wriR A t o.H o.N o.D) y w' F' (if_pos q) (by rw[ht];exact p) st
 have q10:¬o.K=10:=by simpa using q
 rw[if_neg q10] at fin;refine⟨_,by rw[Q02];exact Q01 hb rfl,_,by rw[Q02];exact Q01 hb rfl,(Q6F g hu o.N).use (C:=blk n2 (anO zAn)*blk n0 (opB o)) pre rfl fun v w' F' p st=>?_⟩;rw[Q06] at p;obtain⟨rfl,p⟩:=p;exact fin (resR A t o.H o.N) y w' F' rfl p st
theorem Qay{ap:Nat}{bs:List UInt8}{ts:List Tch}:Tri 36 #[zP ap] (arT ap bs ts) (fun v=>only (v=.tuple #[]) (arT ap bs [])):=by
 intro w F R h r;refine .of (Q8d h) ?_;rintro v w1 ⟨rfl,F',p,m,f⟩;exact r _ w1 F' ⟨rfl,p⟩ ⟨m,f⟩
theorem Q8z{ap:Nat}{bs:List UInt8}{ts:List Tch}(h:(arT ap bs ts).P w F)(hl:ts.length<1000000000000)(r:∀p c w',ORow w' 47 3 tcell (.slice p ts.length c) ts->Ext w w'->(∀j,(Value.slice p ts.length c).ownBlock=some j->w.heap.size<=j)->R (.slice p ts.length c) w') :
  CS 43 #[zP ap] w R:=by
 refine .of (Q6G h (by omega)) ?_;rintro v w' ⟨hrow,hE,hn⟩;obtain⟨p,c,rfl⟩:=hrow.shape;exact r p c w' hrow hE hn
end
end
section
open Go.RowKit Go.Maps Thing
section
variable{s:Sv}{A:Ax}{t:Tn}{a:Ad}
theorem Qb1(T:Tb)(size:Nat)(ts:List Tch)(x n:Int)(b:Bool)(hs:size<=2097152):(ts++tchL (vL T size x n) b).length<=ts.length+3276800:=by
 have:=(Q3I T size x n hs).2;rw[zzlna,Q1o];omega
theorem Qdb(A:Ax)(t:Tn)(x:Int):(putA A t x).ts.length<=A.ts.length+18:=(Q4o A t.H x).2
theorem Qfn(g:TnOk s A t)(o:Op):(askM s A t o).A.ts.length<=A.ts.length+10000000:=by
 have sm:=g.h.small;have G:=fun n=>Q9l (s:=s) (A:=A) (t:=t) n;unfold askM;split
 ·exact Nat.le_trans (G _) (by omega)
 split
 ·unfold calR;split
  ·exact Nat.le_trans (G _) (by omega)
  ·exact Nat.le_add_right _ _
 split
 ·unfold freR;split
  ·exact Nat.le_trans (Qdb A t _) (by omega)
  ·exact Nat.le_add_right _ _
 split
 ·unfold rlcR;split
  ·exact Nat.le_add_right _ _
  rename_i x _;split
  ·exact Nat.le_add_right _ _
  split
  ·split
   ·have gh:=Q78 (s:=s) (A:=A) (t:=t) g.h o.N;have h1:=Qdb (cpyA (getM s A t o.N).A (getM s A t o.N).t.H.T (getM s A t o.N).ad x ((t.ob x).getD 0)) (getM s A t o.N).t x;have h2:(cpyA (getM s A t o.N).A (getM s A t o.N).t.H.T (getM s A t o.N).ad x ((t.ob x).getD 0)).ts.length<=(getM s A t o.N).A.ts.length+6553600:=Q94 _ _ _ _ _ _ gh.small;have h3:=G o.N;exact Nat.le_trans h1 (by omega)
   ·exact Nat.le_trans (G _) (by omega)
  ·show(if _ then zerA A t.H.T _ _ else A).ts.length<=_;split
   ·exact Nat.le_trans (Qb1 _ _ _ _ _ _ sm) (by omega)
   ·exact Nat.le_add_right _ _
 split
 ·exact Nat.le_add_right _ _
 split
 ·unfold reaR;split
  ·exact Nat.le_trans (Qb1 _ _ _ _ _ _ sm) (by omega)
  ·exact Nat.le_add_right _ _
 split
 ·unfold wriR;split
  ·exact Nat.le_trans (Qb1 _ _ _ _ _ _ sm) (by omega)
  ·exact Nat.le_add_right _ _
 exact Nat.le_add_right _ _
theorem Q2Q(T:Tb):(allT T).length=T.length:=by
 unfold allT;rw[List.length_mergeSort,List.length_map]
theorem Qfx(g:HOk s A t.H):(drpA s A t).ts.length<=A.ts.length+6400:=by
 have h1:=(Q3i s (allT t.H.T) A t.H.T (fun y hy=>(g.tin y hy))).2.1;rw[Q2Q] at h1;have:=g.few;exact Nat.le_trans h1 (by omega)
theorem Qd2(g:HOk s A t.H)(win:List Int):(movM s A t.H win).A.ts.length<=A.ts.length+19200:=by
 have:=g.few;have hl:(outL s A.cs t.H.T win).length<=t.H.T.length:=by
  unfold outL;refine Nat.le_trans (List.length_filter_le _ _) ?_;rw[Q2Q];exact Nat.le_refl _
 unfold movM;split
 ·show(mvN s (outL s A.cs t.H.T win) A {t.H with win:=win}).1.ts.length<=_;rw[Q9J];omega
 ·exact Nat.le_add_right _ _
theorem Qft(i k q:Int):(creM s a i k q).a.A=a.A:=by
 unfold creM;split;rfl;split;rfl;split;rfl;split;rfl;split;rfl;split <;> rfl
theorem Qfv(g:AdOk s a)(i:Int):(desM s a i).a.A.ts.length<=a.A.ts.length+6400:=by
 unfold desM;split
 ·exact Nat.le_add_right _ _
 rename_i hi;cases h:a.tn i.toNat with
 | none=>exact Nat.le_add_right _ _
 | some t=>exact Qfx (g.tn i.toNat t (by omega) h).h
theorem QfY(g:AdOk s a)(i k q:Int):(resM s a i k q).a.A.ts.length<=a.A.ts.length+19200:=by
 unfold resM;split
 ·exact Nat.le_add_right _ _
 rename_i hi;cases h:a.tn i.toNat with
 | none=>exact Nat.le_add_right _ _
 | some t=>
  have gt:=(g.tn i.toNat t (by omega) h).h;show(if _ then _ else _:Ar').a.A.ts.length<=_;split
  ·exact Nat.le_add_right _ _
  split
  ·exact Nat.le_add_right _ _
  split
  ·exact Nat.le_add_right _ _
  show(rszR s a.A t q _).A.ts.length<=_;unfold rszR;split
  ·exact Nat.le_add_right _ _
  split
  ·exact Qd2 gt _
  ·exact Qd2 gt _
end
structure Se where
 a:Ad
 done:List Op
 tch:List Tch
structure Dr where
 a:An
 x:Se
structure Da where
 a:An
 x:Ad
def fgt(a:Ad):Ad:={a with A:={a.A with ts:=[]}}
def chgO(a:Ad)(T:Nat):Int:=match a.tn T with | some t=>(t.q.cb:Int) | none=>0
def quoO(a:Ad)(T:Nat):Int:=match a.tn T with | some t=>(t.q.lb:Int) | none=>0
noncomputable def doA(s:Sv)(a:Ad)(o:Op):Da:=
 if o.K=1 then⟨anE (creM s a o.T o.M o.N).E,(creM s a o.T o.M o.N).a⟩
 else if o.K=2 then⟨anE (resM s a o.T o.M o.N).E,(resM s a o.T o.M o.N).a⟩
 else if o.K=3 then⟨anE (desM s a o.T).E,(desM s a o.T).a⟩
 else match a.tn o.T.toNat with
  | none=>⟨anE 6,a⟩
  | some t=>⟨(askM s a.A t o).a,{a with A:=(askM s a.A t o).A,tn:=updF a.tn o.T.toNat (some (askM s a.A t o).t)}⟩
noncomputable def doM(s:Sv)(x:Se)(o:Op):Dr:=
 if chkE o ≠ 0 then⟨anE (chkE o),⟨fgt x.a,x.done,[]⟩⟩
 else⟨{(doA s (fgt x.a) o).a with C:=chgO (doA s (fgt x.a) o).x o.T.toNat},⟨(doA s (fgt x.a) o).x,x.done++[o],(doA s (fgt x.a) o).x.A.ts⟩⟩
section
variable{s:Sv}{A:Ax}{t:Tn}{a:Ad}{x:Se}
theorem Q3O{o:Op}(h:chkE o=0):1<=o.K /\ o.K<=11 /\ 0<=o.T /\ o.T<8 /\ (o.D.size:Int)<=8192 /\ ((o.D.size:Int)=0 \/ o.K=10):=by
 unfold chkE at h;split at h
 ·cases h
 ·rename_i q;have hs:(0:Int)<=o.D.size:=Int.natCast_nonneg _;refine⟨?_,?_,?_,?_,?_,?_⟩
  ·exact Classical.byContradiction fun z=>q (.inl (by omega))
  ·exact Classical.byContradiction fun z=>q (.inr (.inl (by omega)))
  ·exact Classical.byContradiction fun z=>q (.inr (.inr (.inl (by omega))))
  ·exact Classical.byContradiction fun z=>q (.inr (.inr (.inr (.inl (by omega)))))
  ·exact Classical.byContradiction fun z=>q (.inr (.inr (.inr (.inr (.inl (by omega))))))
  ·exact Classical.byContradiction fun z=>q (.inr (.inr (.inr (.inr (.inr ⟨by omega,by omega⟩)))))
theorem TnInv.tsF(g:TnInv s A t)(ts:List Tch):TnInv s {A with ts:=ts} t:=Q3V g ⟨g.ok.h.bytes ts rfl,g.ok.q,g.ok.ob,g.ok.al,g.ok.cap,g.ok.nx⟩
theorem AdInv.fgt(g:AdInv s a):AdInv s (fgt a):=
 ⟨fun i t hi h=>⟨(g.tn i t hi h).inv.tsF [],(g.tn i t hi h).id,(g.tn i t hi h).win,(g.tn i t hi h).wn,(g.tn i t hi h).lp⟩,g.n1,g.c1,g.c32,g.p4,g.sn,g.bl,g.cl,g.hl,g.se,g.nil,g.nd,g.rng,g.dis,g.has,g.all⟩
theorem Q9x(g:AdInv s a){o:Op}(h:chkE o=0):AdInv s (doA s a o).x:=by
 obtain⟨_,_,h0,h8,_⟩:=Q3O h;unfold doA;split
 ·exact Q8i g _ _ _
 split
 ·exact(Q8k g _ _ _).1
 split
 ·exact Q8j g _
 cases ht:a.tn o.T.toNat with
 | none=>exact g
 | some t=>exact Q8h g (by omega) ht o
theorem Q1N(g:AdInv s x.a)(o:Op):AdInv s (doM s x o).x.a:=by
 unfold doM;split
 ·exact g.fgt
 ·rename_i h;exact Q9x g.fgt (by simpa using h)
theorem QcH(g:AdOk s a){o:Op}(h:chkE o=0):(doA s a o).x.A.ts.length<=a.A.ts.length+10000000:=by
 obtain⟨_,_,h0,h8,_⟩:=Q3O h;unfold doA;split
 ·show(creM s a o.T o.M o.N).a.A.ts.length<=_;rw[Qft];exact Nat.le_add_right _ _
 split
 ·exact Nat.le_trans (QfY g _ _ _) (by omega)
 split
 ·exact Nat.le_trans (Qfv g _) (by omega)
 cases ht:a.tn o.T.toNat with
 | none=>exact Nat.le_add_right _ _
 | some t=>exact Qfn (g.tn o.T.toNat t (by omega) ht) o
end
end
section
open Go.RowKit Go.Maps Thing
structure Sy where
 ab:Nat
 z:Al
 vd:Value
 vt:Value
def svv(s:Sv)(y:Sy)(i:Nat):Value:=if i=0 then .pointer (some ⟨y.ab,0,none⟩)else if i=1 then .int .i64 ((s.nC*s.C:Nat):Int)else if i=2 then .int .i64 (s.C:Int)else if i=3 then y.vd else y.vt
abbrev svO(s:Sv)(y:Sy):Obj:=fO 5 81 (svv s y)
abbrev dnT(v:Value)(l:List Op):Thing:=rwT 35 6 opL v l
abbrev tcT(v:Value)(l:List Tch):Thing:=rwT 47 3 tcell v l
def svX(s:Sv)(sb:Nat)(y:Sy)(x:Se):Thing:=blk sb (svO s y)*(adX s y.ab y.z x.a*(dnT y.vd x.done*tcT y.vt x.tch))
theorem elemOp:ElemOk prog 25 35 6 56:=.of (z:=.agg #[.int .i64 0,.int .i64 0,.int .i64 0,.int .i64 0,.int .u64 0,.string (ByteArray.mk #[])]) (by kernel_rfl) (by kernel_rfl) rfl
theorem Q9R(x:Op):(opL x).length=6:=rfl
theorem Q9S(x:Op)(u:Value)(h:u ∈ opL x):u.oneCell'=true:=by
 simp only[opL,List.mem_cons,List.not_mem_nil,or_false] at h;rcases h with rfl | rfl | rfl | rfl | rfl | rfl <;> rfl
section
variable{s:Sv}{sb:Nat}{y:Sy}{x:Se}{w:World}{F:Nat->Prop}{X C:Thing}{R:VW}
def svAd(s:Sv)(sb:Nat)(y:Sy)(x:Se):Thing:=blk sb (svO s y)*(dnT y.vd x.done*tcT y.vt x.tch)
theorem QeI(z:Al)(a:Ad):svX s sb {y with z:=z} {x with a:=a}=adX s y.ab z a*svAd s sb y x:=by
 unfold svX svAd;show blk sb (svO s y)*_=_;ac_rfl
theorem Q1h:svX s sb y x=adX s y.ab y.z x.a*svAd s sb y x:=QeI y.z x.a
theorem sc(h:X.P w F)(e:X=svX s sb y x*C){i:Nat}(hi:i<5):w.cell? ⟨sb,i,none⟩=some (svv s y i):=
 Q4j (Q0b h (show X=blk sb (svO s y)*(adX s y.ab y.z x.a*(dnT y.vd x.done*tcT y.vt x.tch)*C) by rw[e];unfold svX;ac_rfl)) hi
theorem Q6y(h:X.P w F)(e:X=svX s sb y x*C):w.cell? (((zA sb).add 0).add 0)=some (.pointer (some ⟨y.ab,0,none⟩)):=by rw[Q02,Q02];exact sc h e (by omega)
theorem Qga(h:X.P w F)(e:X=svX s sb y x*C):w.cell? (((zA sb).add 0).add 3)=some y.vd:=by rw[Q02,Q02];exact sc h e (by omega)
theorem Q6q(r:R (.int .i64 0) w):CS 58 #[.pointer none] w R:=by
 constructor;refine vc110.ok ?_;unfold vc110;exact Q03 rfl r
theorem Q9L(r:R (.int .i64 0) w):CS 53 #[.pointer none] w R:=by
 constructor;refine vc105.ok ?_;unfold vc105;exact Q03 rfl r
theorem Q8o(r:R (.slice none 0 0) w):CS 51 #[.pointer none] w R:=by
 constructor;refine vc79.ok ?_;unfold vc79;exact Q03 rfl r
theorem QbZ(r:R (.pointer none) w):CS 45 #[.pointer none] w R:=by
 constructor;refine vc103.ok ?_;unfold vc103;exact Q03 rfl r
theorem Q9M(r:R (.pointer none) w):CS 46 #[.pointer none] w R:=by
 constructor;refine vc104.ok ?_;unfold vc104;exact Q03 rfl r
theorem Qel(r:R (.slice none 0 0) w):CS 47 #[.pointer none] w R:=by
 constructor;refine vc78.ok ?_;unfold vc78;exact Q03 rfl r
theorem Qg6(h:X.P w F)(e:X=svX s sb y x*C)(i:Int)(r:R (tnP y.z x.a i) w):CS 44 #[zP sb,.int .i64 i] w R:=by
 constructor;refine vc102.ok ?_;unfold vc102;exact Q00 rfl ⟨_,Q6y h e,atenant (C:=svAd s sb y x*C) h (by rw[e,Q1h];ac_rfl) i ⟨_,rfl,r⟩⟩
theorem Qg7(h:X.P w F)(e:X=svX s sb y x*C){i:Nat}(hi:i<8)(r:R (.bool (x.a.tn i).isSome) w):CS 17 #[zP sb,.int .i64 (i:Int)] w R:=by
 constructor;refine vc87.ok ?_;unfold vc87;refine Qg6 h e _ ⟨_,rfl,?_⟩;rw[if_pos ⟨by omega,by omega⟩,zztnc];cases ht:x.a.tn i with
 | none=>rw[ht] at r;exact r
 | some t=>rw[ht] at r;exact r
theorem Q5H(g:AdOk s x.a)(h:X.P w F)(e:X=svX s sb y x*C){i:Nat}(hi:i<8)(r:R (.int .i64 (chgO x.a i)) w):CS 23 #[zP sb,.int .i64 (i:Int)] w R:=by
 constructor;refine vc91.ok ?_;unfold vc91;unfold chgO at r;refine Qg6 h e _ ⟨_,rfl,?_⟩;rw[if_pos ⟨by omega,by omega⟩,zztnc];cases ht:x.a.tn i with
 | none=>rw[ht] at r;exact Q6q ⟨_,rfl,r⟩
 | some t=>
  rw[ht] at r;exact Q2H (C:=axT s x.a.A*adTn s y.ab y.z x.a ⟨i,hi⟩*(svAd s sb y x*C)) h (by rw[e,Q1h,Q1K ⟨i,hi⟩ ht];ac_rfl) (g.tn i t hi ht).q ⟨_,rfl,r⟩
theorem Qak(g:AdOk s x.a)(h:X.P w F)(e:X=svX s sb y x*C){i:Nat}(hi:i<8)(r:R (.int .i64 (quoO x.a i)) w):CS 20 #[zP sb,.int .i64 (i:Int)] w R:=by
 constructor;refine vc89.ok ?_;unfold vc89;unfold quoO at r;refine Qg6 h e _ ⟨_,rfl,?_⟩;rw[if_pos ⟨by omega,by omega⟩,zztnc];cases ht:x.a.tn i with
 | none=>rw[ht] at r;exact Q9L ⟨_,rfl,r⟩
 | some t=>
  rw[ht] at r;exact Qcp (C:=axT s x.a.A*adTn s y.ab y.z x.a ⟨i,hi⟩*(svAd s sb y x*C)) h (by rw[e,Q1h,Q1K ⟨i,hi⟩ ht];ac_rfl) (g.tn i t hi ht).q ⟨_,rfl,r⟩
def doTl(sb n0 n2:Nat)(R:VW)(w76:World):Prop:=
 ∃i77:Int,w76.cell? ((zA n0).add (1:Nat))=some (.int .i64 i77) /\ CS 23 #[zP sb,.int .i64 i77] w76 fun v78 w79=>∃i80:Int,v78=.int .i64 i80 /\ WrC w79 ((zA n2).add (5:Nat)) (1:Nat) /\ ∀(w81:World),w81=wr w79 ((zA n2).add (5:Nat)) [.int .i64 i80] →
 ∃p83:Option Addr,w81.cell? (((zA sb).add (0:Nat)).add (0:Nat))=some (.pointer p83) /\ CS 35 #[.pointer p83] w81 fun v84 w85=>∃p86:Option Addr,v84=.pointer p86 /\ CS 43 #[.pointer p86] w85 fun v87 w88=>∃(p89:Option Addr)(n90 n91:Nat),v87=.slice p89 n90 n91 /\
 WrC w88 (((zA sb).add (0:Nat)).add (4:Nat)) (1:Nat) /\ ∀(w93:World),w93=wr w88 (((zA sb).add (0:Nat)).add (4:Nat)) [.slice p89 n90 n91]->∃(i94 i95 i96 i97:Int)(s98:ByteArray)(i99:Int),CellsAt w93 (zA n2) [.int .i64 i94,.int .u64 i95,.int .i64 i96,.int .i64 i97,.string s98,.int .i64 i99] /\
 WrC w93 (zA n2) (6:Nat) /\ ∀(w100:World),w100=wr w93 (zA n2) [.int .i64 i94,.int .u64 i95,.int .i64 i96,.int .i64 i97,.string s98,.int .i64 i99]->∃(i101 i102 i103 i104:Int)(s105:ByteArray)(i106:Int),CellsAt w100 (zA n2) [.int .i64 i101,.int .u64 i102,.int .i64 i103,.int .i64 i104,.string s105,.int .i64 i106] /\ R (.agg #[.int .i64 i101,.int .u64 i102,.int .i64 i103,.int .i64 i104,.string s105,.int .i64 i106]) w100
theorem Qgf(v:Value):fO 5 81 (updV (svv s y) (0+0+4) v)=svO s {y with vt:=v}:=Q0V fun i hi=>by
 match i,hi with
 | 0,_=>rfl
 | 1,_=>rfl
 | 2,_=>rfl
 | 3,_=>rfl
 | 4,_=>rfl
theorem Qge(v:Value):fO 5 81 (updV (svv s y) (0+0+3) v)=svO s {y with vd:=v}:=Q0V fun i hi=>by
 match i,hi with
 | 0,_=>rfl
 | 1,_=>rfl
 | 2,_=>rfl
 | 3,_=>rfl
 | 4,_=>rfl
theorem Qaw{v:Value}{ts:List Tch}{K:World->Prop}(h:X.P w F)(e:X=tcT v ts*(svX s sb y x*C))(k:∀w1 F',(svX s sb {y with vt:=v} {x with tch:=ts}*C).P w1 F'->Step F w F' w1->K w1) :
  WrC w (((zA sb).add 0).add 4) 1 /\ ∀w1,w1=wr w (((zA sb).add 0).add 4) [v]->K w1:=by
 rw[Q02,Q02];refine Q1J (C:=tcT v ts*(adX s y.ab y.z x.a*(dnT y.vd x.done*tcT y.vt x.tch)*C)) (v:=v) h (show X=blk sb (svO s y)*_ by rw[e];unfold svX;ac_rfl) (by omega) fun w1 F1 h1 s1=>?_;have h2:(tcT y.vt x.tch*(svX s sb {y with vt:=v} {x with tch:=ts}*C)).P w1 F1:=re h1 (by
  rw[Qgf];unfold svX;show _=tcT y.vt x.tch*(blk sb (svO s {y with vt:=v})*(adX s y.ab y.z x.a*(dnT y.vd x.done*tcT v ts))*C);ac_rfl)
 obtain⟨F2,h3,sub⟩:=Q07 h2;exact k w1 F2 h3 (s1.sub sub)
theorem Qgv(h:X.P w F):(tcT (.slice none 0 0) []*X).P w F:=re (Q2d h) (zztmc _ _)
theorem Q99{n0 n2:Nat}{o:Op}{a:Ad}{dn:List Op}(g:AdOk s a)(hT:0<=o.T /\ o.T<8)(an:An)(h:(blk n2 (anO (anL an).toArray)*(blk n0 (opB o)*svX s sb y ⟨a,dn,[]⟩)).P w F)(hts:a.A.ts.length<1000000000000)
  (r:∀y' w' F',(svX s sb y' ⟨a,dn,a.A.ts⟩).P w' F'->Step F w F' w'->R (anV {an with C:=chgO a o.T.toNat}) w'):doTl sb n0 n2 R w:=by
 obtain⟨K,T,N,M,Hh,D⟩:=o;obtain⟨m,rfl⟩:=zzeoz hT.1;have hm:m<8:=by have:(m:Int)<8:=hT.2;omega
 rw[show(Op.T ⟨K,(m:Int),N,M,Hh,D⟩).toNat=m from zztnc m] at r;unfold doTl;have hb:=Q0b (b:=n0) (o:=opB ⟨K,(m:Int),N,M,Hh,D⟩) (C:=blk n2 (anO (anL an).toArray)*svX s sb y ⟨a,dn,[]⟩) h (by ac_rfl);refine⟨_,by rw[Q02];exact Q01 hb rfl,Q5H (x:=⟨a,dn,[]⟩) (C:=blk n2 (anO (anL an).toArray)*blk n0 (opB ⟨K,(m:Int),N,M,Hh,D⟩)) g h (by ac_rfl) hm ⟨_,rfl,?_⟩⟩;rw[Q02];refine Q0K (b:=n2) (o:=0+5) (C:=blk n0 (opB ⟨K,(m:Int),N,M,Hh,D⟩)*svX s sb y ⟨a,dn,[]⟩) h rfl (by simp) fun w3 F3 h3 s3=>?_;have h3:(blk n2 (anO (anL {an with C:=chgO a m}).toArray)*(blk n0 (opB ⟨K,(m:Int),N,M,Hh,D⟩)*svX s sb y ⟨a,dn,[]⟩)).P w3 F3:=h3;have e3:∀ {B:Thing},blk n2 (anO (anL {an with C:=chgO a m}).toArray)*(B*svX s sb y ⟨a,dn,[]⟩)=svX s sb y ⟨a,dn,[]⟩*(blk n2 (anO (anL {an with C:=chgO a m}).toArray)*B):=by intro B;ac_rfl
 refine⟨_,Q6y h3 e3,aarena (s:=s) (ab:=y.ab) (z:=y.z) (a:=a) (C:=svAd s sb y ⟨a,dn,[]⟩*(blk n2 (anO (anL {an with C:=chgO a m}).toArray)*blk n0 (opB ⟨K,(m:Int),N,M,Hh,D⟩))) h3 (by rw[Q1h];ac_rfl) ⟨_,rfl,?_⟩⟩;obtain⟨Fa,ha,_⟩:=Q0f (A:=arT s.ap a.A.bs a.A.ts) (Y:=adAr s y.ab y.z a*(svAd s sb y ⟨a,dn,[]⟩*(blk n2 (anO (anL {an with C:=chgO a m}).toArray)*blk n0 (opB ⟨K,(m:Int),N,M,Hh,D⟩)))) h3 (by rw[Q1h,QcE];ac_rfl);refine Q8z ha (by omega) fun p c w4 hrow hE hn=>⟨_,_,_,rfl,?_⟩;obtain⟨h4,s4⟩:=Q0j (B:=tcT (.slice p a.A.ts.length c) a.A.ts) h3 hE ⟨hrow,rfl⟩ hn;refine Qaw (s:=s) (sb:=sb) (y:=y) (x:=⟨a,dn,[]⟩) (ts:=a.A.ts) (C:=blk n2 (anO (anL {an with C:=chgO a m}).toArray)*blk n0 (opB ⟨K,(m:Int),N,M,Hh,D⟩)) h4 (by ac_rfl) fun w5 F5 h5 s5=>?_;have hb5:=Q0b (b:=n2) (o:=anO (anL {an with C:=chgO a m}).toArray) (C:=svX s sb {y with vt:=.slice p a.A.ts.length c} ⟨a,dn,a.A.ts⟩*blk n0 (opB ⟨K,(m:Int),N,M,Hh,D⟩)) h5 (by show svX s sb {y with vt:=.slice p a.A.ts.length c} ⟨a,dn,a.A.ts⟩*_=_;ac_rfl);refine⟨_,_,_,_,_,_,Q08 hb5,Q1s {an with C:=chgO a m} (arr:=(anL {an with C:=chgO a m}).toArray) (C:=svX s sb {y with vt:=.slice p a.A.ts.length c} ⟨a,dn,a.A.ts⟩*blk n0 (opB ⟨K,(m:Int),N,M,Hh,D⟩)) (re h5 (by show svX s sb {y with vt:=.slice p a.A.ts.length c} ⟨a,dn,a.A.ts⟩*_=_;ac_rfl)) rfl fun w6 F6 h6 s6=>?_⟩;obtain⟨F7,h7,sub⟩:=Q07 (re h6 (zztmc _ _));exact r _ w6 F7 h7 ((((s3.trans s4).trans s5).trans s6).sub sub)
end
end
section
open Go.RowKit Go.Maps Thing
section
variable{s:Sv}{sb:Nat}{y:Sy}{x:Se}{w:World}{F:Nat->Prop}{X C:Thing}{R:VW}
def svDn(s:Sv)(sb:Nat)(y:Sy)(x:Se):Thing:=blk sb (svO s y)*(adX s y.ab y.z x.a*tcT y.vt x.tch)
theorem Qgg:svX s sb y x=dnT y.vd x.done*svDn s sb y x:=by unfold svX svDn;ac_rfl
theorem QeJ{v:Value}{l:List Op}{K:World->Prop}(h:X.P w F)(e:X=dnT v l*(svDn s sb y x*C))(k:∀w1 F',(svX s sb {y with vd:=v} {x with done:=l}*C).P w1 F'->Step F w F' w1->K w1) :
  WrC w (((zA sb).add 0).add 3) 1 /\ ∀w1,w1=wr w (((zA sb).add 0).add 3) [v]->K w1:=by
 rw[Q02,Q02];refine Q1J (C:=dnT v l*(adX s y.ab y.z x.a*tcT y.vt x.tch)*C) (v:=v) h (show X=blk sb (svO s y)*_ by rw[e];unfold svDn;ac_rfl) (by omega) fun w1 F1 h1 s1=>?_;refine k w1 F1 (re h1 ?_) s1;rw[Qge];unfold svX;show _=blk sb (svO s {y with vd:=v})*(adX s y.ab y.z x.a*(dnT v l*tcT y.vt x.tch))*C;ac_rfl
abbrev b2(n2:Nat)(an:An):Thing:=blk n2 (anO (anL an).toArray)
theorem sw3(A B C:Thing):A*(B*C)=C*(A*B):=by ac_rfl
theorem Qbf{n0 n2:Nat}{o:Op}{a:Ad}{dn:List Op}{E:Int}(g:AdOk s a)(hT:0<=o.T /\ o.T<8)(hts:a.A.ts.length<1000000000000)(h:(b2 n2 (anE 0)*(blk n0 (opB o)*svX s sb y ⟨a,dn,[]⟩)).P w F)
  (r:∀y' w' F',(svX s sb y' ⟨a,dn,a.A.ts⟩).P w' F'->Step F w F' w'->R (anV {anE E with C:=chgO a o.T.toNat}) w') :
  WrC w ((zA n2).add 0) 1 /\ ∀w1,w1=wr w ((zA n2).add 0) [.int .i64 E]->doTl sb n0 n2 R w1:=by
 rw[Q02];refine Q0K (b:=n2) (o:=0+0) (C:=blk n0 (opB o)*svX s sb y ⟨a,dn,[]⟩) h rfl (by simp) fun w3 F3 h3 s3=>?_;have h3:(b2 n2 (anE E)*(blk n0 (opB o)*svX s sb y ⟨a,dn,[]⟩)).P w3 F3:=h3;exact Q99 g hT (anE E) h3 hts fun y' w' F' p st=>r y' w' F' p (s3.trans st)
theorem QgF(g:AdInv s x.a){o:Op}(hu:Hd.U64 o.H)(hl:x.done.length+1<=1000000):Tri 14 #[zP sb,opV o] (svX s sb y x)
  (fun v=>any fun y':Sy=>only (v=anV (doM s x o).a) (svX s sb y' (doM s x o).x)):=by
 intro w F R h r;have r:∀y' w' F',(svX s sb y' (doM s x o).x).P w' F'->Step F w F' w'->R (anV (doM s x o).a) w':=fun y' w' F' p st=>r _ w' F' ⟨y',rfl,p⟩ st;have gf:=g.fgt;constructor;refine vc122.ok ?_;unfold vc122;refine Q0m h fun n0 w1 F1 h1 s1 _=>Q0m h1 fun n2 w2 F2 h2 s2 _=>Q00 rfl ?_;have e2:b2 n2 (anE 0)*(blk n0 (opB o)*svX s sb y x)=svX s sb y x*(b2 n2 (anE 0)*blk n0 (opB o)):=sw3 _ _ _;refine⟨_,Q6y h2 e2,aarena (s:=s) (ab:=y.ab) (z:=y.z) (a:=x.a) (C:=svAd s sb y x*(b2 n2 (anE 0)*blk n0 (opB o))) h2 (e2.trans (by rw[Q1h];ac_rfl)) ⟨_,rfl,?_⟩⟩;refine Qay.use (C:=adAr s y.ab y.z x.a*(svAd s sb y x*(b2 n2 (anE 0)*blk n0 (opB o)))) h2 (e2.trans (by rw[Q1h,QcE];ac_rfl)) fun v w3 F3 h3 s3=>?_;rw[Q06] at h3;obtain⟨hv,h3⟩:=h3;refine⟨hv,?_⟩;have e3:arT s.ap x.a.A.bs []*(adAr s y.ab y.z x.a*(svAd s sb y x*(b2 n2 (anE 0)*blk n0 (opB o))))=svX s sb y {x with a:=fgt x.a}*(b2 n2 (anE 0)*blk n0 (opB o)):=by
  rw[Q1h];have e:=Qfi (s:=s) (ab:=y.ab) (z:=y.z) (a:=x.a) x.a.A.bs [];show _=adX s y.ab y.z (fgt x.a)*svAd s sb y x*_;have e:adX s y.ab y.z (fgt x.a)=_:=e;rw[e];ac_rfl
 rw[e3] at h3;refine Qaw (s:=s) (sb:=sb) (y:=y) (x:={x with a:=fgt x.a}) (ts:=[]) (C:=b2 n2 (anE 0)*blk n0 (opB o)) (Qgv h3) rfl fun w4 F4 h4 s4=>?_;have s14:=((s1.trans s2).trans s3).trans s4
 let y4:Sy:={y with vt:=.slice none 0 0}
 let x4:Se:=⟨fgt x.a,x.done,[]⟩
 have h4:(svX s sb y4 x4*(b2 n2 (anE 0)*blk n0 (opB o))).P w4 F4:=h4;have hb4:=Q0b (b:=n0) (o:=opB o) (C:=svX s sb y4 x4*b2 n2 (anE 0)) h4 (by ac_rfl);refine⟨_,_,_,_,_,_,Q08 (vs:=opL o) hb4,ocheck o fun w5 hE5=>⟨_,rfl,?_⟩⟩;have h5:=Thing.grow h4 hE5;have s15:=s14.trans (Step.ext hE5);rw[Q02];refine Q0K (b:=n2) (o:=0+0) (arr:=(anL (anE 0)).toArray) (T:=40) (C:=blk n0 (opB o)*svX s sb y4 x4) h5 (by show _=b2 n2 (anE 0)*_;ac_rfl) (by simp) fun w6 F6 h6 s6=>?_;have h6:(b2 n2 (anE (chkE o))*(blk n0 (opB o)*svX s sb y4 x4)).P w6 F6:=h6;have s16:=s15.trans s6;have hb6:=Q0b h6 rfl;refine⟨_,Q01 hb6 rfl,Q05 (fun q=>?_) (fun q=>?_)⟩
 ·have q:chkE o ≠ 0:=by simpa using q
  unfold doM at r;rw[if_pos q] at r;refine⟨_,_,_,_,_,_,Q08 (vs:=anL (anE (chkE o))) hb6,Q1s (anE (chkE o)) (arr:=(anL (anE (chkE o))).toArray) (C:=blk n0 (opB o)*svX s sb y4 x4) h6 rfl fun w7 F7 h7 s7=>?_⟩;obtain⟨F8,h8,sub⟩:=Q07 h7;exact r y4 w7 F8 h8 ((s16.trans s7).sub sub)
 have q:chkE o=0:=by simpa using q
 obtain⟨k1,k11,t0,t8,_⟩:=Q3O q;unfold doM at r;rw[if_neg (by simp[q])] at r;rw[q] at h6;refine fun w7 e7=>?_;subst e7;have hE7:=Ext.drew w6;have h7:=Thing.grow h6 hE7;have s17:=s16.trans (Step.ext hE7);have e7:b2 n2 (anE 0)*(blk n0 (opB o)*svX s sb y4 x4)=svX s sb y4 x4*(b2 n2 (anE 0)*blk n0 (opB o)):=sw3 _ _ _;have hrow:=Q8t (e:=35) (k:=6) (f:=opL) (v:=y4.vd) (l:=x4.done) (Y:=svDn s sb y4 x4*(b2 n2 (anE 0)*blk n0 (opB o))) h7 (by rw[e7,Qgg];show _=dnT y4.vd x4.done*_;ac_rfl);obtain⟨pd,cd,hvd⟩:=hrow.shape;refine⟨_,_,_,(Qga h7 e7).trans (congrArg some hvd),_,_,_,_,_,_,Q08 (vs:=opL o) (Q0b (b:=n0) (o:=opB o) (C:=b2 n2 (anE 0)*svX s sb y4 x4) h7 (by ac_rfl)),?_⟩;refine Q0m h7 fun n8 w8 F8 h8 s8 _=>?_;have s18:=s17.trans s8;have e8:blk n8 (opB o)*(b2 n2 (anE 0)*(blk n0 (opB o)*svX s sb y4 x4))=svX s sb y4 x4*(blk n8 (opB o)*(b2 n2 (anE 0)*blk n0 (opB o))):=by ac_rfl
 refine⟨⟨_,_,_,(Qga (C:=blk n8 (opB o)*(b2 n2 (anE 0)*blk n0 (opB o))) h8 e8).trans (congrArg some hvd),rfl⟩,?_⟩;obtain⟨p9,c9,w9,F9,hrun,h9,s9⟩:=Q1V elemOp Q9R Q9S (v:=y4.vd) (l:=x4.done) (a:=⟨n8,0,none⟩) (c:=1) (x:=o) (Y:=svDn s sb y4 x4*(blk n8 (opB o)*(b2 n2 (anE 0)*blk n0 (opB o)))) (re h8 (by show blk n8 (opB o)*(b2 n2 (anE 0)*(blk n0 (opB o)*svX s sb y4 x4))=_;rw[e8,Qgg];show _=dnT y4.vd x4.done*_;ac_rfl))
  (Q08 (vs:=opL o) (Q0b (b:=n8) (o:=opB o) (C:=b2 n2 (anE 0)*(blk n0 (opB o)*svX s sb y4 x4)) h8 rfl)) hl (by have hl4:x4.done.length+1<=1000000:=hl;omega)
 rw[hvd] at hrun;refine⟨_,_,_,w9,hrun,QeJ (s:=s) (sb:=sb) (y:=y4) (x:=x4) (l:=x4.done++[o]) (C:=blk n8 (opB o)*(b2 n2 (anE 0)*blk n0 (opB o))) h9 rfl fun w10 F10 h10 s10=>?_⟩
 let y5:Sy:={y4 with vd:=.slice p9 (x4.done.length+1) c9}
 let x5:Se:=⟨fgt x.a,x.done++[o],[]⟩
 have h10:(svX s sb y5 x5*(blk n8 (opB o)*(b2 n2 (anE 0)*blk n0 (opB o)))).P w10 F10:=h10;obtain⟨F11,h11,sub⟩:=Q07 (A:=blk n8 (opB o)) (B:=b2 n2 (anE 0)*(blk n0 (opB o)*svX s sb y5 x5)) (re h10 (by ac_rfl));have s1a:=((s18.trans s9).trans s10).sub sub;have hb11:=Q0b (b:=n0) (o:=opB o) (C:=svX s sb y5 x5*b2 n2 (anE 0)) h11 (by ac_rfl);have hE12:=Ext.drew w10;have h12:=Thing.grow h11 hE12;have s1b:=s1a.trans (Step.ext hE12);have hb12:=hE12.keep hb11;have e12:b2 n2 (anE 0)*(blk n0 (opB o)*svX s sb y5 x5)=svX s sb y5 x5*(b2 n2 (anE 0)*blk n0 (opB o)):=sw3 _ _ _;have ea:b2 n2 (anE 0)*(blk n0 (opB o)*svX s sb y5 x5)=adX s y5.ab y5.z x5.a*(svAd s sb y5 x5*(b2 n2 (anE 0)*blk n0 (opB o))):=by rw[e12,Q1h,Thing.mul_assoc]
 have hts:x5.a.A.ts.length<60000000000:=by show 0<_;omega
 have gdo:=(Q9x gf q).ok;have tsd:(doA s x5.a o).x.A.ts.length<1000000000000:=by
  have:=QcH gf.ok q;have e0:(fgt x.a).A.ts.length=0:=rfl;exact Nat.lt_of_le_of_lt this (by omega)
 have adm:∀(E:Int)(z':Al)(w':World)(F':Nat->Prop),doA s x5.a o=⟨anE E,(doA s x5.a o).x⟩->(adX s y5.ab z' (doA s x5.a o).x*(svAd s sb y5 x5*(b2 n2 (anE 0)*blk n0 (opB o)))).P w' F'->Step F11 w10.drew F' w' →
   WrC w' ((zA n2).add 0) 1 /\ ∀w1,w1=wr w' ((zA n2).add 0) [.int .i64 E]->doTl sb n0 n2 R w1:=fun E z' w' F' ed p st=>by
  have p2:(b2 n2 (anE 0)*(blk n0 (opB o)*svX s sb {y5 with z:=z'} ⟨(doA s x5.a o).x,x.done++[o],[]⟩)).P w' F':=re p (by
   have e:=QeI (s:=s) (sb:=sb) (y:=y5) (x:=x5) z' (doA s x5.a o).x;have e:svX s sb {y5 with z:=z'} ⟨(doA s x5.a o).x,x.done++[o],[]⟩=adX s y5.ab z' (doA s x5.a o).x*svAd s sb y5 x5:=e;rw[e];ac_rfl)
  refine Qbf gdo ⟨t0,t8⟩ tsd p2 fun y' w'' F'' p3 st3=>?_;have r:=r y' w'' F'' p3 ((s1b.trans st).trans st3);rw[show doA s (fgt x.a) o=_ from ed] at r;exact r
 refine⟨_,by rw[Q02];exact Q01 hb11 rfl,Q05 (fun q1=>?_) (fun q1=>?_)⟩
 ·have q1:o.K=1:=by simpa using q1
  refine fun w12 e=>?_;subst e;refine⟨_,Q6y h12 e12,_,by rw[Q02];exact Q01 hb12 rfl,_,by rw[Q02];exact Q01 hb12 rfl,_,by rw[Q02];exact Q01 hb12 rfl,?_⟩;refine(Qax (s:=s) (ab:=y5.ab) (z:=y5.z) (a:=x5.a) gf.ok o.T o.M o.N).use h12 ea fun v w' F' p st=>?_;obtain⟨z',rfl,pb⟩:=Q0l p;have ed:doA s x5.a o=⟨anE (creM s x5.a o.T o.M o.N).E,(creM s x5.a o.T o.M o.N).a⟩:=by unfold doA;rw[if_pos q1]
  exact⟨_,rfl,adm _ z' w' F' (by rw[ed]) (by rw[ed];exact pb) st⟩
 have q1:¬o.K=1:=by simpa using q1
 refine Q05 (fun q2=>?_) (fun q2=>?_)
 ·have q2:o.K=2:=by simpa using q2
  refine fun w12 e=>?_;subst e;refine⟨_,Q6y h12 e12,_,by rw[Q02];exact Q01 hb12 rfl,_,by rw[Q02];exact Q01 hb12 rfl,_,by rw[Q02];exact Q01 hb12 rfl,?_⟩;refine(Qaz (s:=s) (ab:=y5.ab) (z:=y5.z) (a:=x5.a) gf.ok hts o.T o.M o.N).use h12 ea fun v w' F' p st=>?_;obtain⟨z',rfl,pb⟩:=Q0l p;have ed:doA s x5.a o=⟨anE (resM s x5.a o.T o.M o.N).E,(resM s x5.a o.T o.M o.N).a⟩:=by unfold doA;rw[if_neg q1,if_pos q2]
  exact⟨_,rfl,adm _ z' w' F' (by rw[ed]) (by rw[ed];exact pb) st⟩
 have q2:¬o.K=2:=by simpa using q2
 refine Q05 (fun q3=>?_) (fun q3=>?_)
 ·have q3:o.K=3:=by simpa using q3
  refine fun w12 e=>?_;subst e;refine⟨_,Q6y h12 e12,_,by rw[Q02];exact Q01 hb12 rfl,?_⟩;refine(Q8y (s:=s) (ab:=y5.ab) (z:=y5.z) (a:=x5.a) gf.ok hts o.T).use h12 ea fun v w' F' p st=>?_;obtain⟨z',rfl,pb⟩:=Q0l p;have ed:doA s x5.a o=⟨anE (desM s x5.a o.T).E,(desM s x5.a o.T).a⟩:=by unfold doA;rw[if_neg q1,if_neg q2,if_pos q3]
  exact⟨_,rfl,adm _ z' w' F' (by rw[ed]) (by rw[ed];exact pb) st⟩
 have q3:¬o.K=3:=by simpa using q3
 refine fun w12 e=>?_;subst e;refine⟨_,Q6y h12 e12,_,by rw[Q02];exact Q01 hb12 rfl,atenant (s:=s) (ab:=y5.ab) (z:=y5.z) (a:=x5.a) h12 ea o.T ⟨_,rfl,?_⟩⟩;rw[if_pos ⟨t0,t8⟩];have hT:o.T.toNat<8:=by omega
 cases ht:x5.a.tn o.T.toNat with
 | none=>
  have ed:doA s x5.a o=⟨anE 6,x5.a⟩:=by unfold doA;rw[if_neg q1,if_neg q2,if_neg q3,ht]
  rw[show doA s (fgt x.a) o=_ from ed] at r;refine Q03 rfl (Q1s (anE 6) (arr:=(anL (anE 0)).toArray) (C:=blk n0 (opB o)*svX s sb y5 x5) h12 rfl fun w13 F13 h13 s13=>?_);obtain⟨F14,h14,sub⟩:=Q07 h13;have r:=r y5 w13 F14 h14 ((s1b.trans s13).sub sub);have ec:chgO x5.a o.T.toNat=0:=by unfold chgO;rw[ht]
  have r:R (anV {anE 6 with C:=chgO x5.a o.T.toNat}) w13:=r;rw[ec] at r;exact r
 | some t=>
  have ed:doA s x5.a o=⟨(askM s x5.a.A t o).a,{x5.a with A:=(askM s x5.a.A t o).A,tn:=updF x5.a.tn o.T.toNat (some (askM s x5.a.A t o).t)}⟩:=by unfold doA;rw[if_neg q1,if_neg q2,if_neg q3,ht]
  refine Q00 rfl ⟨_,_,_,_,_,_,Q08 (vs:=opL o) hb12,?_⟩;have gt:=gf.ok.tn o.T.toNat t hT ht;refine(QeO (s:=s) (tb:=y5.z.tp o.T.toNat) (y:=y5.z.ty o.T.toNat) (t:=t) (A:=x5.a.A) gt hts o hu).use (C:=adTn s y5.ab y5.z x5.a ⟨o.T.toNat,hT⟩*(svAd s sb y5 x5*(b2 n2 (anE 0)*blk n0 (opB o)))) h12 (by rw[ea,Q1K ⟨o.T.toNat,hT⟩ ht,Thing.mul_assoc]) fun v w' F' p st=>?_;obtain⟨yt,rfl,pb⟩:=Q0l p;have ew:=Qbe (s:=s) (ab:=y5.ab) (z:=y5.z) (a:=x5.a) ⟨o.T.toNat,hT⟩ ht yt (askM s x5.a.A t o).A (askM s x5.a.A t o).t;have esv:=QeI (s:=s) (sb:=sb) (y:=y5) (x:=x5) {y5.z with ty:=updF y5.z.ty o.T.toNat yt} (doA s x5.a o).x;have p2:(b2 n2 (anE 0)*(blk n0 (opB o)*svX s sb {y5 with z:={y5.z with ty:=updF y5.z.ty o.T.toNat yt}} ⟨(doA s x5.a o).x,x.done++[o],[]⟩)).P w' F':=re pb (by
   have esv:svX s sb {y5 with z:={y5.z with ty:=updF y5.z.ty o.T.toNat yt}} ⟨(doA s x5.a o).x,x.done++[o],[]⟩=_:=esv;rw[esv,ed];have ew:adX s y5.ab {y5.z with ty:=updF y5.z.ty o.T.toNat yt} {x5.a with A:=(askM s x5.a.A t o).A,tn:=updF x5.a.tn o.T.toNat (some (askM s x5.a.A t o).t)}=_:=ew;rw[ew];ac_rfl)
  refine⟨_,_,_,_,_,_,rfl,Q0K (b:=n2) (o:=0) (arr:=(anL (anE 0)).toArray) (T:=40) (C:=blk n0 (opB o)*svX s sb {y5 with z:={y5.z with ty:=updF y5.z.ty o.T.toNat yt}} ⟨(doA s x5.a o).x,x.done++[o],[]⟩) p2 rfl (by simp) fun w13 F13 h13 s13=>?_⟩;have h13:(b2 n2 (askM s x5.a.A t o).a*(blk n0 (opB o)*svX s sb {y5 with z:={y5.z with ty:=updF y5.z.ty o.T.toNat yt}} ⟨(doA s x5.a o).x,x.done++[o],[]⟩)).P w13 F13:=h13;refine Q99 gdo ⟨t0,t8⟩ (askM s x5.a.A t o).a h13 tsd fun y' w'' F'' p3 st3=>?_;have r:=r y' w'' F'' p3 (((s1b.trans st).trans s13).trans st3);rw[show doA s (fgt x.a) o=_ from ed] at r;rw[show doA s x5.a o=_ from ed];exact r
end
end
section
open Go.RowKit Go.Maps Thing
section
variable{s:Sv}{sb:Nat}{y:Sy}{x:Se}{w:World}{F:Nat->Prop}{X C:Thing}{R:VW}
theorem Qg8{o:Obj}(h:(tabT o).P w F)(P0 C0:Int)(r0:¬Cl.CfgOk P0 C0->∀w',Ext w w'->R (.tuple #[.pointer none,.int .i64 12]) w')
  (r1:∀s sb y w' F',Cl.CfgOk P0 C0->s.o=o->SvOk s P0 C0->(svX s sb y ⟨A0 s,[],[]⟩).P w' F'->Step F w F' w'->R (.tuple #[zP sb,.int .i64 0]) w') :
  CS 10 #[.agg #[.int .i64 P0,.int .i64 C0]] w R:=by
 constructor;refine vc121.ok ?_;unfold vc121;refine Q09 fun n0 w1 hb1 hE1 hs1 hs1'=>⟨_,_,Q08 (vs:=[.int .i64 P0,.int .i64 C0]) hb1,?_⟩;have h1:=Thing.grow h hE1;refine QeM h1 P0 C0 (fun hno w2 hE2=>⟨_,_,rfl,Q03 rfl (r0 hno w2 (hE1.trans hE2))⟩) fun s ab z w2 F2 hok ho hs h2 st2=>⟨_,_,rfl,Q00 rfl ?_⟩;have hF:¬F n0:=fun q=>by have:=(tabT o).lt h n0 q;omega
 have hb2:w2.heap[n0]? = some (.cells #[.int .i64 P0,.int .i64 C0] 23 (0,0)):=by
  rw[st2.1.block n0 (by omega) hF];exact hb1
 refine⟨_,_,Q08 (vs:=[.int .i64 P0,.int .i64 C0]) hb2,Q0m h2 fun sb w3 F3 h3 s3 _=>?_⟩;have st:Step F w F3 w3:=((Step.ext hE1).trans st2).trans s3;refine r1 s sb ⟨ab,z,.slice none 0 0,.slice none 0 0⟩ w3 F3 hok ho hs ?_ st;have h4:=Q2d (e:=47) (k:=3) (f:=tcell) (Q2d (e:=35) (k:=6) (f:=opL) h3);refine re h4 ?_;have eo:Obj.cells #[zP ab,.int .i64 P0,.int .i64 C0,.slice none 0 0,.slice none 0 0] 81 (0,0)=svO s ⟨ab,z,.slice none 0 0,.slice none 0 0⟩:=by
  rw[hs.p,hs.c];rfl
 unfold svX;rw[<-eo];show blk sb _*adX s ab z (A0 s)*dnT (.slice none 0 0) []*tcT (.slice none 0 0) []=blk sb _*(adX s ab z (A0 s)*(dnT (.slice none 0 0) []*tcT (.slice none 0 0) []));rw[Thing.mul_assoc,Thing.mul_assoc]
def obO(a:Ad)(i:Nat):Int->Option Int:=match a.tn i with | some t=>t.ob | none=>fun _=>none
def blkO(a:Ad)(i:Nat)(ss:List Int):List Blk:=match a.tn i with | some t=>blkL t ss | none=>[]
theorem Q6S{a:Ad}{i:Nat}{ss:List Int}(h:isKeys (obO a i) ss):(blkO a i ss).length=ss.length:=by
 unfold blkO;unfold obO at h;cases ht:a.tn i with
 | some t=>exact List.length_map _
 | none=>
  rw[ht] at h
  match ss,h with
  | [],_=>rfl
  | k :: l,h=>exact absurd ((h.2.2 k).1 (by simp)) (by simp)
theorem Q7N(g:AdOk s x.a)(h:X.P w F)(e:X=svX s sb y x*C){i:Nat}(hi:i<8)
  (r:∀p c ss w' F',isKeys (obO x.a i) ss->(rwT 99 3 blF (.slice p (blkO x.a i ss).length c) (blkO x.a i ss)*X).P w' F'->Step F w F' w'->R (.slice p (blkO x.a i ss).length c) w') :
  CS 18 #[zP sb,.int .i64 (i:Int)] w R:=by
 constructor;refine vc123.ok ?_;unfold vc123;refine Qg6 h e _ ⟨_,rfl,?_⟩;rw[if_pos ⟨by omega,by omega⟩,zztnc];have key:=fun ss (ik:isKeys (obO x.a i) ss)=>Q6S ik;unfold obO at r key;unfold blkO at r key;cases ht:x.a.tn i with
 | none=>
  rw[ht] at r;exact Q8o ⟨_,_,_,rfl,r none 0 [] w F ⟨List.nodup_nil,List.Pairwise.nil,fun k=>by simp⟩ (re (Q2d h) (zztmc _ _)) (Step.refl _ _)⟩
 | some t=>
  rw[ht] at r key;refine QaR (s:=s) (A:=x.a.A) (C:=adTn s y.ab y.z x.a ⟨i,hi⟩*(svAd s sb y x*C)) (g.tn i t hi ht) h (by rw[e,Q1h,Q1K ⟨i,hi⟩ ht];ac_rfl) fun p c ss w' F' ik p1 st=>⟨_,_,_,rfl,?_⟩;have el:=key ss ik;have r:=r p c ss w' F' ik;rw[show(match some t with | some t=>blkL t ss | none=>[])=blkL t ss from rfl] at r;have el:(blkL t ss).length=ss.length:=el;rw[el] at r;exact r p1 st
def pagO(T:Tb):List Int:=srtI ((allT T).map (fnd T))
theorem Q7v(T:Tb):(pagO T).length=T.length:=by
 unfold pagO;rw[Q0Y,List.length_map,Q2Q]
theorem QeA(g:AdOk s x.a)(h:X.P w F)(e:X=svX s sb y x*C){i:Nat}(hi:i<8)
  (r:∀p c w' F',(rowT (.slice p (pagO (oT (x.a.tn i))).length c) (pagO (oT (x.a.tn i)))*X).P w' F'->Step F w F' w'->R (.slice p (pagO (oT (x.a.tn i))).length c) w') :
  CS 15 #[zP sb,.int .i64 (i:Int)] w R:=by
 constructor;refine vc75.ok ?_;unfold vc75;refine Qg6 h e _ ⟨_,rfl,?_⟩;rw[if_pos ⟨by omega,by omega⟩,zztnc];cases ht:x.a.tn i with
 | none=>
  rw[ht] at r;have e0:pagO (oT none)=[]:=by
   have:=Q7v (oT none);exact List.eq_nil_of_length_eq_zero this
  rw[e0] at r;refine QbZ ⟨_,rfl,Q9M ⟨_,rfl,Qel ⟨_,_,_,rfl,?_⟩⟩⟩;refine⟨fun f p n c i w'=>p=none /\ n=0 /\ c=0 /\ i=0 /\ w'=w,⟨0,rfl,rfl,rfl,rfl,rfl⟩,?_⟩;rintro f jv p n c i w' ⟨rfl,rfl,rfl,rfl,rfl⟩;refine ifD (fun q=>by omega) (fun q=>?_);have h1:(rowT (.slice none 0 0) []*X).P w' F:=re (Q4K h) (zztmc _ _);refine(Q7W (p:=none) (c:=0) (l:=[]) (by simp)).use h1 rfl fun v w2 F2 p2 st=>?_;rw[Q06] at p2;obtain⟨rfl,p2⟩:=p2;have e1:srtI []=[]:=List.mergeSort_nil;rw[e1] at p2;exact⟨rfl,r none 0 w2 F2 p2 st⟩
 | some t=>
  rw[ht] at r;have gt:=(g.tn i t hi ht).h;have e1:∀ {Z1 Z2:Thing},Z1*(Z2*X)=tnX s (y.z.tp i) (y.z.ty i) t*(Z1*(Z2*(axT s x.a.A*adTn s y.ab y.z x.a ⟨i,hi⟩*(svAd s sb y x*C)))):=fun {Z1 Z2}=>by rw[e,Q1h,Q1K ⟨i,hi⟩ ht];ac_rfl
  have e0:X=tnX s (y.z.tp i) (y.z.ty i) t*(axT s x.a.A*adTn s y.ab y.z x.a ⟨i,hi⟩*(svAd s sb y x*C)):=by rw[e,Q1h,Q1K ⟨i,hi⟩ ht];ac_rfl
  have ehp:X=hpX s (y.z.ty i).hb (y.z.ty i).x t.H*(tnHp s (y.z.tp i) (y.z.ty i) t*(axT s x.a.A*adTn s y.ab y.z x.a ⟨i,hi⟩*(svAd s sb y x*C))):=by rw[e0,Q0S];ac_rfl
  refine Qf5 h e0 ⟨_,rfl,Q2j h ehp ⟨_,rfl,?_⟩⟩;have etb:X=tbT (y.z.ty i).x.tb t.H.T*(hpTb s (y.z.ty i).hb (y.z.ty i).x t.H*(tnHp s (y.z.tp i) (y.z.ty i) t*(axT s x.a.A*adTn s y.ab y.z x.a ⟨i,hi⟩*(svAd s sb y x*C)))):=by
   have:=Q4u (s:=s) (hb:=(y.z.ty i).hb) (x:=(y.z.ty i).x) (H:=t.H) t.H.T;rw[ehp,show hpX s (y.z.ty i).hb (y.z.ty i).x t.H=_ from this,Thing.mul_assoc]
  obtain⟨Ft,htb,_⟩:=Q0f h etb;refine QaQ htb fun p0 c0 w1 hrow hE hn=>⟨_,_,_,rfl,?_⟩;obtain⟨h1,s1⟩:=Q0j (B:=rowT (.slice p0 (allT t.H.T).length c0) (allT t.H.T)) h hE ⟨hrow,rfl⟩ hn;have hal:(allT t.H.T).length<=6400:=by rw[Q2Q];exact gt.few
  generalize eal:allT t.H.T=al at hrow hn h1 hal s1 ⊢;have epg:pagO (oT (some t))=srtI (al.map (fnd t.H.T)):=by
   unfold pagO;show srtI ((allT t.H.T).map (fnd t.H.T))=_;rw[eal]
  rw[epg] at r
  let pl:Nat->List Int:=fun j=>(al.take j).map (fnd t.H.T)
  have plen:∀j,j<=al.length->(pl j).length=j:=fun j hj=>by
   show((al.take j).map _).length=j;rw[List.length_map,zzlnt];omega
  refine⟨fun f p n c i w'=>∃j:Nat,i=(j:Int) /\ f+j=al.length /\ n=(pl j).length /\ ∃F',(rowT (.slice p (pl j).length c) (pl j)*(rowT (.slice p0 al.length c0) al*X)).P w' F' /\ Step F w F' w',⟨al.length,0,rfl,rfl,rfl,_,re (Q4K h1) (zztmc _ _),s1⟩,?_⟩;rintro f jv p n c ii w2 ⟨j,rfl,hf,rfl,F2,h2,s2⟩;refine ifD (fun hj=>⟨by omega,by omega,?_⟩) (fun hj=>?_)
  ·have hj':j<al.length:=by omega
   obtain⟨a,ha⟩:∃a,al[j]? = some a:=⟨_,zzgge hj'⟩;have hr2:=Q29 (v:=.slice p0 al.length c0) (l:=al) (Y:=rowT (.slice p (pl j).length c) (pl j)*X) h2 (by ac_rfl);rw[zztnc];refine(ORow.rowAt Q0G hr2).int ha ?_;have hrng:I64w a:=by
    have hm:a ∈ allT t.H.T:=by rw[eal];exact zzmog ha
    unfold allT at hm;rw[List.mem_mergeSort] at hm;obtain⟨yy,hy,rfl⟩:=List.mem_map.1 hm;have:=gt.tok.rng yy hy;exact i64w (by omega) (by omega)
   obtain⟨Ft2,htb2,_⟩:=Q0f (A:=tbT (y.z.ty i).x.tb t.H.T) (Y:=rowT (.slice p (pl j).length c) (pl j)*(rowT (.slice p0 al.length c0) al*(hpTb s (y.z.ty i).hb (y.z.ty i).x t.H*(tnHp s (y.z.tp i) (y.z.ty i) t*(axT s x.a.A*adTn s y.ab y.z x.a ⟨i,hi⟩*(svAd s sb y x*C)))))) h2 (by rw[etb];ac_rfl);refine Q6E htb2 hrng ⟨_,rfl,Q0m h2 fun b w4 F4 h4 s4 _=>?_⟩;have hb4:=Q0b h4 rfl;have pj:=plen j (by omega);obtain⟨p',c',w5,F5,hrun,h5,s5⟩:=Q4L (v:=.slice p (pl j).length c) (l:=pl j) (a:=⟨b,0,none⟩) (c:=1) (x:=fnd t.H.T a) (Y:=blk b (.cells #[.int .i64 (fnd t.H.T a)] 3 (0,0))*(rowT (.slice p0 al.length c0) al*X)) (re h4 (by ac_rfl)) (Q01 hb4 rfl) (by omega);obtain⟨F6,h6,sub⟩:=Q07 (A:=blk b (.cells #[.int .i64 (fnd t.H.T a)] 3 (0,0))) (re h5 (sw1 _ _ _));have etk:pl (j+1)=pl j++[fnd t.H.T a]:=by
    show(al.take (j+1)).map _=(al.take j).map _++_;rw[List.take_add_one,ha,List.map_append];rfl
   refine⟨p',_,c',w5,hrun,f-1,by omega,j+1,by rw[Q04 (by omega) (by omega)];omega,by omega,by rw[etk,zzlna];rfl,F6,?_,((s2.trans s4).trans s5).sub sub⟩;rw[etk,zzlna];exact h6
  ·have ej:pl j=al.map (fnd t.H.T):=by
    show(al.take j).map _=_;rw[List.take_of_length_le (by omega)]
   rw[ej] at h2 ⊢;have el:(al.map (fnd t.H.T)).length=(srtI (al.map (fnd t.H.T))).length:=(Q0Y _).symm;have few:(al.map (fnd t.H.T)).length<=1000000:=by rw[List.length_map];omega
   obtain⟨F3,h3,sub⟩:=Q07 (A:=rowT (.slice p0 al.length c0) al) (re h2 (sw1 _ _ _));refine(Q7W (p:=p) (c:=c) (l:=al.map (fnd t.H.T)) few).use h3 rfl fun v w4 F4 p4 st=>?_;rw[Q06] at p4;obtain⟨rfl,p4⟩:=p4;refine⟨rfl,?_⟩;rw[el] at p4 ⊢;exact r p c w4 F4 p4 ((s2.sub sub).trans st)
end
end
section
open Go.RowKit Go.Maps Thing
theorem Qg2(w:World)(a b:An) :
  (binOp .eql 40 (anV a) (anV b)).run prog w=.ok (.bool (a.E == b.E && (a.Hd == b.Hd && (a.Ad == b.Ad && (a.N == b.N && (decide (a.D=b.D) && (a.C == b.C && true))))))) w /\ (binOp .neq 40 (anV a) (anV b)).run prog w=.ok (.bool (!(a.E == b.E && (a.Hd == b.Hd && (a.Ad == b.Ad && (a.N == b.N && (decide (a.D=b.D) && (a.C == b.C && true)))))))) w:=by
 have hu:Tryz.prog.underlying 3=some (.int .i64):=by kernel_rfl
 have he:Tryz.prog.underlying 29=some (.int .i64):=by kernel_rfl
 have h6:Tryz.prog.underlying 33=some (.int .u64):=by kernel_rfl
 have hs:Tryz.prog.underlying 9=some .string:=by kernel_rfl
 exact Q2a (P:=prog) (w:=w) (t:=40) (xs:=(anL a).toArray) (ys:=(anL b).toArray)
  (l := [(⟨ "Err", 29, 0, false, "", "", 0⟩, a.E == b.E), (⟨ "Handle", 33, 1, false, "", "", 8⟩, a.Hd == b.Hd), (⟨ "Addr", 3, 2, false, "", "", 16⟩, a.Ad == b.Ad), (⟨ "N", 3, 3, false, "", "", 24⟩, a.N == b.N), (⟨ "Data", 9, 4, false, "", "", 32⟩, decide (a.D = b.D)), (⟨ "Charged", 3, 5, false, "", "", 48⟩, a.C == b.C)])
  (by kernel_rfl) (by kernel_rfl) (by kernel_rfl) (by
   intro p hp;simp only[List.mem_cons,List.mem_nil_iff,or_false] at hp;rcases hp with rfl | rfl | rfl | rfl | rfl | rfl
   ·exact⟨by simp,_,_,Q0t he rfl rfl w,Q0t he rfl rfl w,run_equalIn_int w 9998 29 .i64 .i64 _ _ he⟩
   ·exact⟨by simp,_,_,Q0t h6 rfl rfl w,Q0t h6 rfl rfl w,run_equalIn_int w 9998 33 .u64 .u64 _ _ h6⟩
   ·exact⟨by simp,_,_,Q0t hu rfl rfl w,Q0t hu rfl rfl w,run_equalIn_int w 9998 3 .i64 .i64 _ _ hu⟩
   ·exact⟨by simp,_,_,Q0t hu rfl rfl w,Q0t hu rfl rfl w,run_equalIn_int w 9998 3 .i64 .i64 _ _ hu⟩
   ·exact⟨by simp,_,_,Q0t hs rfl rfl w,Q0t hs rfl rfl w,by rw[<-Qau];exact run_equalIn_string w 9998 9 _ _ hs⟩
   ·exact⟨by simp,_,_,Q0t hu rfl rfl w,Q0t hu rfl rfl w,run_equalIn_int w 9998 3 .i64 .i64 _ _ hu⟩)
theorem an_eq(a b:An):(a.E == b.E && (a.Hd == b.Hd && (a.Ad == b.Ad && (a.N == b.N && (decide (a.D=b.D) && (a.C == b.C && true))))))=true ↔ a=b:=by
 obtain⟨a1,a2,a3,a4,a5,a6⟩:=a;obtain⟨b1,b2,b3,b4,b5,b6⟩:=b;simp only[Bool.and_true,Bool.and_eq_true,beq_iff_eq,decide_eq_true_eq,An.mk.injEq]
structure Stp where
 o:Op
 B:Int
abbrev spL(x:Stp):List Value:=[.int .i64 x.o.K,.int .i64 x.o.T,.int .i64 x.o.N,.int .i64 x.o.M,.int .u64 x.o.H,.string x.o.D,.int .i64 x.B]
abbrev spV(x:Stp):Value:=.agg (spL x).toArray
end
set_option maxRecDepth 100000
section
open Go.RowKit Go.Maps Thing
def aS(o:Obj)(ap mb:Nat):Sv:=⟨o,ap,mb,16,4,32768⟩
def aO1:Op:=⟨1,0,100,1,0,ByteArray.mk #[]⟩
def aO2:Op:=⟨4,0,40,0,0,ByteArray.mk #[]⟩
def aO3:Op:=⟨4,1,40,0,0,ByteArray.mk #[]⟩
def aO4:Op:=⟨12,0,0,0,0,ByteArray.mk #[]⟩
def aO5:Op:=⟨10,0,38,0,1048688,ByteArray.mk #[120,121]⟩
def aO6:Op:=⟨9,0,37,3,1048688,ByteArray.mk #[]⟩
def aO7:Op:=⟨6,0,0,0,1048688,ByteArray.mk #[]⟩
section
variable(s:Sv)
noncomputable def aX0:Se:=⟨A0 s,[],[]⟩
noncomputable def aX1:Se:=(doM s (aX0 s) aO1).x
noncomputable def aX2:Se:=(doM s (aX1 s) aO2).x
noncomputable def aX3:Se:=(doM s (aX2 s) aO3).x
noncomputable def aX4:Se:=(doM s (aX3 s) aO4).x
noncomputable def aX5:Se:=(doM s (aX4 s) aO5).x
noncomputable def aX6:Se:=(doM s (aX5 s) aO6).x
noncomputable def aX7:Se:=(doM s (aX6 s) aO7).x
end
section
variable(o:Obj)(ap mb:Nat)
theorem aw1:(doM (aS o ap mb) (aX0 (aS o ap mb)) aO1).a=anE 0:=by kernel_rfl
theorem aw2:(doM (aS o ap mb) (aX1 (aS o ap mb)) aO2).a=⟨0,1048688,393216,0,ByteArray.mk #[],48⟩:=by kernel_rfl
theorem aw3:(doM (aS o ap mb) (aX2 (aS o ap mb)) aO3).a=anE 6:=by kernel_rfl
theorem aw4:(doM (aS o ap mb) (aX3 (aS o ap mb)) aO4).a=anE 1:=by kernel_rfl
theorem aw5:(doM (aS o ap mb) (aX4 (aS o ap mb)) aO5).a.E=0:=by kernel_rfl
theorem aw6:(doM (aS o ap mb) (aX5 (aS o ap mb)) aO6).a=⟨0,0,0,0,ByteArray.mk #[0,120,121],48⟩:=by kernel_rfl
theorem aw7:(doM (aS o ap mb) (aX6 (aS o ap mb)) aO7).a=anE 0:=by kernel_rfl
end
end
section
open Go.RowKit Go.Maps Thing
section
variable{s:Sv}{sb:Nat}{y:Sy}{x:Se}{w:World}{F:Nat->Prop}{X C:Thing}{R:VW}
theorem Q1L(o:Op):(doM s x o).x.done.length<=x.done.length+1:=by
 unfold doM;split
 ·exact Nat.le_add_right _ _
 ·show(x.done++[o]).length<=_;rw[zzlna];exact Nat.le_refl _
theorem Q5c(g:AdInv s x.a){o:Op}(hu:Hd.U64 o.H)(hl:x.done.length+1<=1000000){K:Nat->World->Prop}(h:X.P w F)(e:X=svX s sb y x*C)
  (k:∀n y' w' F',(blk n (anO (anL (doM s x o).a).toArray)*(svX s sb y' (doM s x o).x*C)).P w' F'->Step F w F' w'->K n w') :
  CS 14 #[zP sb,opV o] w fun v4 w5=>∃(i6 i7 i8 i9:Int)(s10:ByteArray)(i11:Int),v4=.agg #[.int .i64 i6,.int .u64 i7,.int .i64 i8,.int .i64 i9,.string s10,.int .i64 i11] /\
   ∀(n12:Nat)(w13:World),n12=w5.heap.size->w13=w5.alloc (Obj.cells #[.int .i64 (0:Int),.int .u64 (0:Int),.int .i64 (0:Int),.int .i64 (0:Int),.string (ByteArray.mk #[]),.int .i64 (0:Int)] 40)->WrC w13 (zA n12) (6:Nat) /\ ∀(w14:World),w14=wr w13 (zA n12) [.int .i64 i6,.int .u64 i7,.int .i64 i8,.int .i64 i9,.string s10,.int .i64 i11]->K n12 w14:=by
 refine(QgF g hu hl).use h e fun v w' F' p st=>?_;obtain⟨y',rfl,pb⟩:=Q0l p;refine⟨_,_,_,_,_,_,rfl,Q0m pb fun n w13 F13 h13 s13 _=>?_⟩;refine Q0K (b:=n) (o:=0) (arr:=(anL (anE 0)).toArray) (T:=40) (C:=svX s sb y' (doM s x o).x*C) h13 rfl (by simp) fun w14 F14 h14 s14=>?_;exact k n y' w14 F14 h14 ((st.trans s13).trans s14)
abbrev bA(n:Nat)(a:An):Thing:=blk n (anO (anL a).toArray)
theorem sw4(A B C:Thing):A*(B*C)=B*(A*C):=by ac_rfl
def svTb(s:Sv)(sb:Nat)(y:Sy)(x:Se):Thing:=poT y.z.pb x.a.hs x.a.ws*adPo s y.ab y.z x.a*svAd s sb y x
theorem Qdf:svX s sb y x=tabT s.o*svTb s sb y x:=by
 unfold svTb;rw[Q1h,Q2I];ac_rfl
theorem Qgx{o:Obj}(ho:s.o=o)(h:X.P w F)(e:X=svX s sb y x*C):∃F1,(tabT o).P w F1 /\ ∀j,F1 j->F j:=by
 subst ho;exact Q0f (Y:=svTb s sb y x*C) h (by rw[e,Qdf,Thing.mul_assoc])
theorem Q8b{o:Obj}{w':World}{F':Nat->Prop}(h:(tabT o).P w F)(h':(tabT o).P w' F')(s:Step F w F' w'):Ext w w':=by
 obtain⟨_,h2,rfl⟩:=h;obtain⟨_,h3,rfl⟩:=h';refine⟨s.1.os,s.1.tape,s.1.output,s.1.size,fun k hk _=>?_⟩;by_cases e:k=0
 ·subst e;rw[h2,h3]
 ·exact s.1.block k hk e
theorem QeP{o:Obj}(h:(tabT o).P w F)(r:∀w' F',(tabT o).P w' F'->Step F w F' w'->R (.bool true) w'):CS 11 #[] w R:=by
 constructor;refine vc81.ok ?_;unfold vc81;refine Qg8 h 64 4 (fun no=>absurd (by unfold Cl.CfgOk;decide) no) fun s sb y w0 F0 _ ho hs h0 st0=>⟨_,_,rfl,Q00 rfl (Q00 rfl ?_)⟩;have hsv:s=aS s.o s.ap s.mb:=by
  obtain⟨so,ap,mb,nC,C,n⟩:=s;have hp:=hs.p;have hc:=hs.c;have hn:=hs.n;simp only at hp hc hn;have e1:C=4:=by omega
  subst e1;have e2:nC=16:=by omega
  subst e2;subst hn;rfl
 rw[ho] at hsv;generalize hso:o=so at hsv;generalize s.ap=ap at hsv;generalize s.mb=mb at hsv;have g0:AdInv s (aX0 s).a:=Q3U hs;have g1:=Q1N g0 aO1;have g2:=Q1N g1 aO2;have g3:=Q1N g2 aO3;have g4:=Q1N g3 aO4;have g5:=Q1N g4 aO5;have g6:=Q1N g5 aO6;have l0:(aX0 s).done.length<=0:=Nat.le_refl _;have l1:(aX1 s).done.length<=1:=Nat.le_trans (Q1L _) (by omega);have l2:(aX2 s).done.length<=2:=Nat.le_trans (Q1L _) (by omega);have l3:(aX3 s).done.length<=3:=Nat.le_trans (Q1L _) (by omega);have l4:(aX4 s).done.length<=4:=Nat.le_trans (Q1L _) (by omega);have l5:(aX5 s).done.length<=5:=Nat.le_trans (Q1L _) (by omega);have l6:(aX6 s).done.length<=6:=Nat.le_trans (Q1L _) (by omega);have u0:Hd.U64 0:=by unfold Hd.U64;decide
 have u1:Hd.U64 1048688:=by unfold Hd.U64;decide
 have e1:(doM s (aX0 s) aO1).a=anE 0:=by rw[hsv];exact aw1 so ap mb
 have e2:(doM s (aX1 s) aO2).a=⟨0,1048688,393216,0,ByteArray.mk #[],48⟩:=by rw[hsv];exact aw2 so ap mb
 have e3:(doM s (aX2 s) aO3).a=anE 6:=by rw[hsv];exact aw3 so ap mb
 have e4:(doM s (aX3 s) aO4).a=anE 1:=by rw[hsv];exact aw4 so ap mb
 have e5:(doM s (aX4 s) aO5).a.E=0:=by rw[hsv];exact aw5 so ap mb
 have e6:(doM s (aX5 s) aO6).a=⟨0,0,0,0,ByteArray.mk #[0,120,121],48⟩:=by rw[hsv];exact aw6 so ap mb
 have e7:(doM s (aX6 s) aO7).a=anE 0:=by rw[hsv];exact aw7 so ap mb
 clear hsv;have h0:(svX s sb y (aX0 s)*emp).P w0 F0:=by rw[Q0c];exact h0
 refine Q5c (o:=aO1) g0 u0 (by omega) h0 rfl fun n1 y1 w1 F1 h1 s1=>?_;rw[e1] at h1;refine Q5c (o:=aO2) (C:=bA n1 (anE 0)*emp) g1 u0 (by show(aX1 s).done.length+1<=_;omega) h1 (sw4 _ _ _) fun n2 y2 w2 F2 h2 s2=>?_;have h2:(bA n2 (doM s (aX1 s) aO2).a*(svX s sb y2 (aX2 s)*(bA n1 (anE 0)*emp))).P w2 F2:=h2;rw[e2] at h2;refine Q5c (o:=aO3) g2 u0 (by show(aX2 s).done.length+1<=_;omega) h2 (sw4 _ _ _) fun n3 y3 w3 F3 h3 s3=>?_;have h3:(bA n3 (doM s (aX2 s) aO3).a*(svX s sb y3 (aX3 s)*(bA n2 ⟨0,1048688,393216,0,ByteArray.mk #[],48⟩*(bA n1 (anE 0)*emp)))).P w3 F3:=h3;rw[e3] at h3;refine Q5c (o:=aO4) g3 u0 (by show(aX3 s).done.length+1<=_;omega) h3 (sw4 _ _ _) fun n4 y4 w4 F4 h4 s4=>?_;have h4:(bA n4 (doM s (aX3 s) aO4).a*(svX s sb y4 (aX4 s)*(bA n3 (anE 6)*(bA n2 ⟨0,1048688,393216,0,ByteArray.mk #[],48⟩*(bA n1 (anE 0)*emp))))).P w4 F4:=h4;rw[e4] at h4;refine⟨1048688,by
  rw[Q02];exact Q01 (Q0b (b:=n2) (C:=bA n4 (anE 1)*(svX s sb y4 (aX4 s)*(bA n3 (anE 6)*(bA n1 (anE 0)*emp)))) h4 (by show _=bA n2 ⟨0,1048688,393216,0,ByteArray.mk #[],48⟩*_;ac_rfl)) rfl,?_⟩
 refine Q5c (o:=aO5) g4 u1 (by show(aX4 s).done.length+1<=_;omega) h4 (sw4 _ _ _) fun n5 y5 w5 F5 h5 s5=>?_;have h5:(bA n5 (doM s (aX4 s) aO5).a*(svX s sb y5 (aX5 s)*(bA n4 (anE 1)*(bA n3 (anE 6)*(bA n2 ⟨0,1048688,393216,0,ByteArray.mk #[],48⟩*(bA n1 (anE 0)*emp)))))).P w5 F5:=h5;generalize(doM s (aX4 s) aO5).a=a5 at e5 h5;refine⟨1048688,by
  rw[Q02];exact Q01 (Q0b (b:=n2) (C:=bA n5 a5*(svX s sb y5 (aX5 s)*(bA n4 (anE 1)*(bA n3 (anE 6)*(bA n1 (anE 0)*emp))))) h5 (by show _=bA n2 ⟨0,1048688,393216,0,ByteArray.mk #[],48⟩*_;ac_rfl)) rfl,?_⟩
 refine Q5c (o:=aO6) g5 u1 (by show(aX5 s).done.length+1<=_;omega) h5 (sw4 _ _ _) fun n6 y6 w6 F6 h6 s6=>?_;have h6:(bA n6 (doM s (aX5 s) aO6).a*(svX s sb y6 (aX6 s)*(bA n5 a5*(bA n4 (anE 1)*(bA n3 (anE 6)*(bA n2 ⟨0,1048688,393216,0,ByteArray.mk #[],48⟩*(bA n1 (anE 0)*emp))))))).P w6 F6:=h6;rw[e6] at h6;refine⟨1048688,by
  rw[Q02];exact Q01 (Q0b (b:=n2) (C:=bA n6 ⟨0,0,0,0,ByteArray.mk #[0,120,121],48⟩*(svX s sb y6 (aX6 s)*(bA n5 a5*(bA n4 (anE 1)*(bA n3 (anE 6)*(bA n1 (anE 0)*emp)))))) h6 (by show _=bA n2 ⟨0,1048688,393216,0,ByteArray.mk #[],48⟩*_;ac_rfl)) rfl,?_⟩
 refine Q5c (o:=aO7) g6 u1 (by show(aX6 s).done.length+1<=_;omega) h6 (sw4 _ _ _) fun n7 y7 w7 F7 h7 s7=>?_;have h7:(bA n7 (doM s (aX6 s) aO7).a*(svX s sb y7 (aX7 s)*(bA n6 ⟨0,0,0,0,ByteArray.mk #[0,120,121],48⟩*(bA n5 a5*(bA n4 (anE 1)*(bA n3 (anE 6)*(bA n2 ⟨0,1048688,393216,0,ByteArray.mk #[],48⟩*(bA n1 (anE 0)*emp)))))))).P w7 F7:=h7;rw[e7] at h7;generalize aX7 s=x7 at h7;obtain⟨F8,h8,sub⟩:=Qgx (C:=bA n7 (anE 0)*(bA n6 ⟨0,0,0,0,ByteArray.mk #[0,120,121],48⟩*(bA n5 a5*(bA n4 (anE 1)*(bA n3 (anE 6)*(bA n2 ⟨0,1048688,393216,0,ByteArray.mk #[],48⟩*(bA n1 (anE 0)*emp))))))) ho h7 (sw4 _ _ _);have sall:=(((((((st0.trans s1).trans s2).trans s3).trans s4).trans s5).trans s6).trans s7).sub sub;have c1:=Q0b (b:=n1) (o:=anO (anL (anE 0)).toArray) (C:=bA n7 (anE 0)*(svX s sb y7 x7*(bA n6 ⟨0,0,0,0,ByteArray.mk #[0,120,121],48⟩*(bA n5 a5*(bA n4 (anE 1)*(bA n3 (anE 6)*(bA n2 ⟨0,1048688,393216,0,ByteArray.mk #[],48⟩*emp))))))) h7 (by show _=bA n1 (anE 0)*_;ac_rfl);have c2:=Q0b (b:=n2) (o:=anO (anL ⟨0,1048688,393216,0,ByteArray.mk #[],48⟩).toArray) (C:=bA n7 (anE 0)*(svX s sb y7 x7*(bA n6 ⟨0,0,0,0,ByteArray.mk #[0,120,121],48⟩*(bA n5 a5*(bA n4 (anE 1)*(bA n3 (anE 6)*(bA n1 (anE 0)*emp))))))) h7 (by show _=bA n2 ⟨0,1048688,393216,0,ByteArray.mk #[],48⟩*_;ac_rfl)
 have c3:=Q0b (b:=n3) (o:=anO (anL (anE 6)).toArray) (C:=bA n7 (anE 0)*(svX s sb y7 x7*(bA n6 ⟨0,0,0,0,ByteArray.mk #[0,120,121],48⟩*(bA n5 a5*(bA n4 (anE 1)*(bA n2 ⟨0,1048688,393216,0,ByteArray.mk #[],48⟩*(bA n1 (anE 0)*emp))))))) h7 (by show _=bA n3 (anE 6)*_;ac_rfl);have c4:=Q0b (b:=n4) (o:=anO (anL (anE 1)).toArray) (C:=bA n7 (anE 0)*(svX s sb y7 x7*(bA n6 ⟨0,0,0,0,ByteArray.mk #[0,120,121],48⟩*(bA n5 a5*(bA n3 (anE 6)*(bA n2 ⟨0,1048688,393216,0,ByteArray.mk #[],48⟩*(bA n1 (anE 0)*emp))))))) h7 (by show _=bA n4 (anE 1)*_;ac_rfl);have c5:=Q0b (b:=n5) (o:=anO (anL a5).toArray) (C:=bA n7 (anE 0)*(svX s sb y7 x7*(bA n6 ⟨0,0,0,0,ByteArray.mk #[0,120,121],48⟩*(bA n4 (anE 1)*(bA n3 (anE 6)*(bA n2 ⟨0,1048688,393216,0,ByteArray.mk #[],48⟩*(bA n1 (anE 0)*emp))))))) h7 (by show _=bA n5 a5*_;ac_rfl);have c6:=Q0b (b:=n6) (o:=anO (anL ⟨0,0,0,0,ByteArray.mk #[0,120,121],48⟩).toArray) (C:=bA n7 (anE 0)*(svX s sb y7 x7*(bA n5 a5*(bA n4 (anE 1)*(bA n3 (anE 6)*(bA n2 ⟨0,1048688,393216,0,ByteArray.mk #[],48⟩*(bA n1 (anE 0)*emp))))))) h7 (by show _=bA n6 ⟨0,0,0,0,ByteArray.mk #[0,120,121],48⟩*_;ac_rfl);have c7:=Q0b h7 rfl;have same:∀a:An,(binOp .eql 40 (anV a) (anV a)).run prog w7=.ok (.bool true) w7:=fun a=>by rw[(Qg2 w7 a a).1,(an_eq a a).2 rfl]
 refine⟨_,_,_,_,_,_,Q08 c1,true,w7,same (anE 0),Q03 rfl ?_⟩;refine⟨_,_,_,_,_,_,Q08 c2,true,w7,same ⟨0,1048688,393216,0,ByteArray.mk #[],48⟩,Q03 rfl ?_⟩;refine⟨_,_,_,_,_,_,Q08 c3,true,w7,same (anE 6),Q03 rfl ?_⟩;refine⟨_,_,_,_,_,_,Q08 c4,true,w7,same (anE 1),Q03 rfl ?_⟩;refine⟨0,by rw[Q02];rw[<-e5];exact Q01 c5 rfl,Q03 rfl ?_⟩;refine⟨_,_,_,_,_,_,Q08 c6,true,w7,same ⟨0,0,0,0,ByteArray.mk #[0,120,121],48⟩,Q03 rfl ?_⟩;exact⟨_,_,_,_,_,_,Q08 c7,true,w7,same (anE 0),r w7 F8 h8 sall⟩
end
end
section
open Go.RowKit Go.Maps Thing
structure Tp where
 r:List UInt8
 sh:Bool
abbrev tpO(t:Tp):Obj:=.cells #[.string (strOf t.r),.bool t.sh] 108 (0,0)
abbrev tpT(b:Nat)(t:Tp):Thing:=blk b (tpO t)
def bytL(t:Tp)(n:Nat):List UInt8:=if n>t.r.length then List.replicate (max n 1) 0 else t.r.take n
def bytT(t:Tp)(n:Nat):Tp:=if n>t.r.length then⟨[],true⟩else⟨t.r.drop n,t.sh⟩
theorem Q2R(t:Tp){n:Nat}(h:1<=n):(bytL t n).length=n:=by
 unfold bytL;split
 ·rw[zzlrp];omega
 ·rw[zzlnt];omega
theorem Q8x(l:List UInt8)(n:Nat):(strOf l).extract 0 n=strOf (l.take n):=by
 apply Q1P;rw[Q0U,Q0s,Q0s,seg,List.drop_zero,Nat.sub_zero]
theorem Q8w(l:List UInt8)(n:Nat):(strOf l).extract n l.length=strOf (l.drop n):=by
 apply Q1P;rw[Q0U,Q0s,Q0s,seg];exact List.take_of_length_le (by rw[List.length_drop];exact Nat.le_refl _)
theorem Q0R(l:List UInt8):(strOf l).size=l.length:=by
 rw[<-Q0v,Q0s]
theorem Q3A(l:List UInt8)(i:Nat):(strOf l)[i]? = l[i]?:=by
 by_cases h:i<l.length
 ·have h':i<(strOf l).size:=by rw[Q0R];exact h
  rw[getElem?_pos _ i h',getElem?_pos _ i h];rfl
 ·have h':¬i<(strOf l).size:=by rw[Q0R];exact h
  rw[getElem?_neg _ i h',getElem?_neg _ i h]
section
variable{b:Nat}{t:Tp}{w:World}{F:Nat->Prop}{X C:Thing}{R:VW}
theorem Q4R{n:Nat}(hn:n<=10000):Tri 154 #[zP b,.int .i64 (n:Int)] (tpT b t) (fun v=>only (v=.string (strOf (bytL t n))) (tpT b (bytT t n))):=by
 intro w F R h r;have h0:(tpT b t*emp).P w F:=by rw[Q0c];exact h
 constructor;refine vc167.ok ?_;unfold vc167;have hb:=Q0b h0 rfl;unfold bytL bytT at r;refine⟨_,by rw[Q02];exact Q01 hb rfl,ifD (fun hlt=>?_) (fun hlt=>?_)⟩
 ·rw[Q0R] at hlt;have hlt:n>t.r.length:=by omega
  rw[if_pos hlt,if_pos hlt] at r;show WrC w ((zA b).add 0) 1 /\ _;rw[Q02];refine Q0K (b:=b) (o:=0+0) (C:=emp) h0 rfl (by simp) fun w1 F1 h1 s1=>?_;show WrC w1 ((zA b).add 1) 1 /\ _;rw[Q02];refine Q0K (b:=b) (o:=0+1) (C:=emp) h1 rfl (by simp[setAt]) fun w2 F2 h2 s2=>?_;refine⟨_,w2,run_max_int2 w2 _ _ _ _ _ _,?_⟩;have em:(if (1:Int)>(n:Int)then(1:Int)else(n:Int))=((max n 1:Nat):Int):=by
   split <;> omega
  rw[em,zztnc];refine⟨by omega,by omega,by show((1:Nat):Int)*((max n 1:Nat):Int)<=_;omega,by omega,QbT _ fun w3 hE3=>?_⟩;have h2:(tpT b ⟨[],true⟩*emp).P w2 F2:=h2;rw[Q0c] at h2;exact r _ w3 F2 ⟨rfl,Thing.grow h2 hE3⟩ ((s1.trans s2).trans (Step.ext hE3))
 ·rw[Q0R] at hlt;have hlt:¬n>t.r.length:=by omega
  rw[if_neg hlt,if_neg hlt] at r;refine⟨_,by rw[Q02];exact Q01 hb rfl,by omega,by omega,by rw[Q0R];omega,_,by rw[Q02];exact Q01 hb rfl,by omega,by rw[Q0R];omega,by omega,?_⟩;show WrC w ((zA b).add 0) 1 /\ _;rw[Q02];refine Q0K (b:=b) (o:=0+0) (C:=emp) h0 rfl (by simp) fun w1 F1 h1 s1=>?_;rw[zztnc,Q8x];refine r _ w1 F1 ⟨rfl,?_⟩ s1;rw[Q0c] at h1;rw[zztnc,zztnc,Q0R,Q8w] at h1;exact h1
def oneI(t:Tp):Int:=(((bytL t 1).headD 0).toNat:Int)
theorem Q1k(t:Tp):0<=oneI t /\ oneI t<=255:=by
 have:=((bytL t 1).headD 0).toNat_lt;unfold oneI;omega
theorem Qci:Tri 102 #[zP b] (tpT b t) (fun v=>only (v=.int .i64 (oneI t)) (tpT b (bytT t 1))):=by
 intro w F R h r;constructor;refine vc147.ok ?_;unfold vc147;have h0:(tpT b t*emp).P w F:=by rw[Q0c];exact h
 refine(Q4R (b:=b) (t:=t) (n:=1) (by omega)).use h0 rfl fun v w1 F1 p st=>?_;rw[Q06,Q0c] at p;obtain⟨rfl,p⟩:=p;have hl:=Q2R t (n:=1) (Nat.le_refl _);have hr:=Q1k t;unfold oneI at r hr
 match e:bytL t 1,hl with
 | [u],_=>
  rw[e] at r hr;refine⟨_,rfl,by omega,u,by rw[Q3A];rfl,?_⟩;have hr:0<=(u.toNat:Int) /\ (u.toNat:Int)<=255:=hr;rw[Q04 (by omega) (by omega)];exact r _ w1 F1 ⟨rfl,p⟩ st
def numI(t:Tp):Int:=if ((bytL t 2).getD 0 0).toNat+256*((bytL t 2).getD 1 0).toNat<32768 then(((bytL t 2).getD 0 0).toNat+256*((bytL t 2).getD 1 0).toNat:Nat)else((((bytL t 2).getD 0 0).toNat+256*((bytL t 2).getD 1 0).toNat:Nat):Int)-65536
theorem Qc1(u v:UInt8):IntKind.i64.wrap (IntKind.i16.wrap (bits BinOp.or IntKind.u16 (IntKind.u16.wrap (u.toNat:Int)) (shlV IntKind.u16 (IntKind.u16.wrap (v.toNat:Int)) (8:Int)))) =
  if u.toNat+256*v.toNat<32768 then((u.toNat+256*v.toNat:Nat):Int)else((u.toNat+256*v.toNat:Nat):Int)-65536:=by
 have hu:=u.toNat_lt;have hv:=v.toNat_lt;have w16:∀n:Int,0<=n->n<65536->IntKind.u16.wrap n=n:=fun n h0 h1=>by
  simp only[IntKind.wrap,IntKind.bits,IntKind.signed,Bool.false_and,Bool.false_eq_true,if_false];omega
 have es:shlV IntKind.u16 (IntKind.u16.wrap (v.toNat:Int)) (8:Int)=((v.toNat <<< 8:Nat):Int):=by
  rw[w16 _ (by omega) (by omega)];unfold shlV;have:min (8:Int).toNat IntKind.u16.bits=8:=rfl;rw[this,w16 _ (by omega) (by omega),Nat.shiftLeft_eq];omega
 have eo:bits BinOp.or IntKind.u16 (u.toNat:Int) ((v.toNat <<< 8:Nat):Int)=((u.toNat+256*v.toNat:Nat):Int):=by
  have e:bits .or .u16 (u.toNat:Int) ((v.toNat <<< 8:Nat):Int)=IntKind.u16.wrap ((BitVec.ofInt 16 (u.toNat:Int) ||| BitVec.ofInt 16 ((v.toNat <<< 8:Nat):Int)).toNat:Int):=rfl;have hs:v.toNat <<< 8=256*v.toNat:=by rw[Nat.shiftLeft_eq];omega
  rw[e,Q10,Q10,BitVec.toNat_or,BitVec.toNat_ofNat,BitVec.toNat_ofNat,Nat.mod_eq_of_lt (by omega),Nat.mod_eq_of_lt (by omega),Nat.or_comm];have ho:=Nat.shiftLeft_add_eq_or_of_lt (i:=8) (show u.toNat<2 ^ 8 by omega) v.toNat
  rw[<-ho,hs,w16 _ (by omega) (by omega)];omega
 rw[es,w16 _ (by omega) (by omega),eo];generalize hn:u.toNat+256*v.toNat=n;have hn':n<65536:=by omega
 have w2:IntKind.i16.wrap (n:Int)=if n<32768 then(n:Int)else(n:Int)-65536:=by
  simp only[IntKind.wrap,IntKind.bits,IntKind.signed,Bool.true_and];split
  ·rename_i h;simp at h;rw[if_neg (by omega)];omega
  ·rename_i h;simp at h;rw[if_pos (by omega)];omega
 rw[w2];split
 ·exact Q04 (by omega) (by omega)
 ·exact Q04 (by omega) (by omega)
theorem Qch:Tri 104 #[zP b] (tpT b t) (fun v=>only (v=.int .i64 (numI t)) (tpT b (bytT t 2))):=by
 intro w F R h r;constructor;refine vc149.ok ?_;unfold vc149;have h0:(tpT b t*emp).P w F:=by rw[Q0c];exact h
 refine(Q4R (b:=b) (t:=t) (n:=2) (by omega)).use h0 rfl fun v w1 F1 p st=>?_;rw[Q06,Q0c] at p;obtain⟨rfl,p⟩:=p;have hl:=Q2R t (n:=2) (by omega);unfold numI at r
 match e:bytL t 2,hl with
 | [u,v],_=>
  rw[e] at r;refine⟨_,rfl,fun w3 e3=>?_⟩;subst e3;refine⟨by omega,u,by rw[Q3A];rfl,rfl,rfl,by omega,v,by rw[Q3A];rfl,rfl,rfl,by omega,rfl,rfl,rfl,rfl,?_⟩;rw[Qc1];exact r _ _ F1 ⟨rfl,Thing.grow p (Ext.drew w1)⟩ (st.trans (Step.ext (Ext.drew w1)))
def texL(t:Tp):List UInt8:=if oneI t=0 then [] else bytL (bytT t 1) (oneI t).toNat
def texT(t:Tp):Tp:=if oneI t=0 then bytT t 1 else bytT (bytT t 1) (oneI t).toNat
theorem Qgp:Tri 105 #[zP b] (tpT b t) (fun v=>only (v=.string (strOf (texL t))) (tpT b (texT t))):=by
 intro w F R h r;constructor;refine vc150.ok ?_;unfold vc150;have h0:(tpT b t*emp).P w F:=by rw[Q0c];exact h
 have hr:=Q1k t;refine(Qci (b:=b) (t:=t)).use h0 rfl fun v w1 F1 p st=>?_;rw[Q06] at p;obtain⟨rfl,p⟩:=p;unfold texL texT at r;refine⟨_,rfl,Q05 (fun q=>?_) (fun q=>?_)⟩
 ·have q:oneI t=0:=by simpa using q
  rw[if_pos q,if_pos q] at r;rw[Q0c] at p;exact r _ w1 F1 ⟨rfl,p⟩ st
 ·have q:¬oneI t=0:=by simpa using q
  rw[if_neg q,if_neg q] at r;obtain⟨m,hm⟩:=zzeoz hr.1;rw[hm,zztnc] at r;rw[hm];refine(Q4R (b:=b) (t:=bytT t 1) (n:=m) (by omega)).use p rfl fun v w2 F2 p2 st2=>?_;rw[Q06,Q0c] at p2;obtain⟨rfl,p2⟩:=p2;exact⟨_,rfl,r _ w2 F2 ⟨rfl,p2⟩ (st.trans st2)⟩
end
end
set_option maxRecDepth 20000
section
open Go.RowKit Go.Maps Thing
abbrev skO(x:Stp):Obj:=.cells (spL x).toArray 62 (0,0)
abbrev skT(n:Nat)(x:Stp):Thing:=blk n (skO x)
def numB:List UInt8->Nat
 | []=>0
 | c :: l=>c.toNat+256*numB l
theorem Q6r:∀l:List UInt8,numB l<256 ^ l.length
 | []=>by decide
 | c :: l=>by
  have:=Q6r l;have:=c.toNat_lt;rw[numB,List.length_cons,Nat.pow_succ];omega
theorem Q5u:∀(l:List UInt8)(c:UInt8),numB (l++[c])=numB l+c.toNat*256 ^ l.length
 | [],c=>by simp[numB]
 | d :: l,c=>by
  rw[List.cons_append,numB,numB,Q5u l c,List.length_cons,Nat.pow_succ,Nat.mul_add,Nat.mul_comm 256 (c.toNat*_),Nat.mul_assoc];omega
def hndS(t:Tp)(x:Stp):Stp:=if oneI t<255 then {x with B:=oneI t} else⟨{x.o with H:=(numB (bytL (bytT t 1) 8):Nat)},0⟩
def hndT(t:Tp):Tp:=if oneI t<255 then bytT t 1 else bytT (bytT t 1) 8
theorem Qem{n i:Nat}(c:UInt8)(hi:i<8)(hn:n<256 ^ i):bits BinOp.or IntKind.u64 (n:Int) (shlV IntKind.u64 (IntKind.u64.wrap (c.toNat:Int)) (IntKind.i64.wrap (8*(i:Int))))=((n+c.toNat*256 ^ i:Nat):Int):=by
 have hc:=c.toNat_lt;have hp:(256:Nat) ^ i=2 ^ (8*i):=by rw[Nat.pow_mul]
 have hle:256 ^ i<=256 ^ 7:=Nat.pow_le_pow_right (by omega) (by omega);have h7:(256:Nat) ^ 7=72057594037927936:=by decide
 have hcp:c.toNat*256 ^ i<=255*72057594037927936:=Nat.mul_le_mul (by omega) (by omega);rw[Q0B (by omega) (by omega),Q04 (by omega) (by omega),show(8:Int)*(i:Int)=((8*i:Nat):Int) by omega,Q1H _ (by omega)];have e1:(c.toNat:Int)*2 ^ (8*i)=((c.toNat*256 ^ i:Nat):Int):=by
  rw[hp];simp
 rw[e1,Q0B (by omega) (by omega),Q2q (by omega) (by omega)];have e2:c.toNat*256 ^ i=c.toNat <<< (8*i):=by rw[Nat.shiftLeft_eq,hp]
 rw[e2,Nat.or_comm,<-Nat.shiftLeft_add_eq_or_of_lt (by rw[<-hp];exact hn),Nat.add_comm]
section
variable{b n:Nat}{t:Tp}{x:Stp}{w:World}{F:Nat->Prop}{X C:Thing}{R:VW}
theorem QaU(h0:x.o.H=0):Tri 103 #[zP b,zP n] (tpT b t*skT n x) (fun v=>only (v=.tuple #[]) (tpT b (hndT t)*skT n (hndS t x))):=by
 intro w F R h r;constructor;refine vc148.ok ?_;unfold vc148;have hr:=Q1k t;refine(Qci (b:=b) (t:=t)).use h rfl fun v w1 F1 p st=>?_;rw[Q06] at p;obtain⟨rfl,p⟩:=p;refine⟨_,rfl,?_⟩;show WrC w1 ((zA n).add 6) 1 /\ _;rw[Q02];refine Q0K (b:=n) (o:=0+6) (C:=tpT b (bytT t 1)) p (by show _=skT n x*_;ac_rfl) (by simp) fun w2 F2 h2 s2=>?_;have h2:(skT n {x with B:=oneI t}*tpT b (bytT t 1)).P w2 F2:=h2;have hb2:=Q0b h2 rfl;unfold hndT hndS at r;refine⟨oneI t,by rw[Q02];exact Q01 hb2 rfl,Q05 (fun q=>?_) (fun q=>?_)⟩
 ·have q:oneI t<255:=zzodt q;rw[if_pos q,if_pos q] at r;exact r _ w2 F2 ⟨rfl,re h2 (zztmc _ _)⟩ (st.trans s2)
 have q:¬oneI t<255:=of_decide_eq_false q;rw[if_neg q,if_neg q] at r;show WrC w2 ((zA n).add 6) 1 /\ _;rw[Q02];refine Q0K (b:=n) (o:=0+6) (C:=tpT b (bytT t 1)) h2 rfl (by simp) fun w3 F3 h3 s3=>?_;have h3:(skT n {x with B:=0}*tpT b (bytT t 1)).P w3 F3:=h3;refine(Q4R (b:=b) (t:=bytT t 1) (n:=8) (by omega)).use h3 (zztmc _ _) fun v w4 F4 h4 s4=>?_;rw[Q06] at h4;obtain⟨rfl,h4⟩:=h4;have hl:=Q2R (bytT t 1) (n:=8) (by omega);generalize bytL (bytT t 1) 8=l at hl r ⊢;have hrun:=run_bytes_of_string (P:=prog) w4 9 73 5 (strOf l) (by kernel_rfl) (by kernel_rfl) (by kernel_rfl);refine⟨_,rfl,_,_,_,_,hrun,?_⟩;generalize grownCap w4 (strOf l).size 0 5=cp;have hE5:Ext w4 (w4.drew.alloc (.cells (bytesRow (strOf l) cp) 5 ((bytesRow (strOf l) cp).size,(bytesRow (strOf l) cp).size+1))):=(Ext.drew w4).trans (Ext.alloc _ _);have hg:(w4.drew.alloc (.cells (bytesRow (strOf l) cp) 5 ((bytesRow (strOf l) cp).size,(bytesRow (strOf l) cp).size+1))).heap[w4.heap.size]? = some (.cells (bytesRow (strOf l) cp) 5 ((bytesRow (strOf l) cp).size,(bytesRow (strOf l) cp).size+1)):=heap_alloc_new w4.drew _;generalize w4.drew.alloc (.cells (bytesRow (strOf l) cp) 5 ((bytesRow (strOf l) cp).size,(bytesRow (strOf l) cp).size+1))=w5 at hE5 hg ⊢;have hrow:∀(i:Nat)(c:UInt8),l[i]? = some c->(bytesRow (strOf l) cp)[i]? = some (.int .u8 (c.toNat:Int)):=fun i c hc=>by
  have hi:i<l.length:=(zzgsi.1 hc).1;unfold bytesRow;rw[Array.getElem?_append_left (by simp[strOf,hi]),Array.getElem?_map];show((l.toArray)[i]?).map _=_;rw[List.getElem?_toArray,hc];rfl
 generalize bytesRow (strOf l) cp=row at hg hrow;generalize hO:Obj.cells row 5 (row.size,row.size+1)=O at hg;obtain⟨h5,s5⟩:=Q0j (B:=blk w4.heap.size O) h4 hE5 ⟨hg,rfl⟩ (fun j hj=>by have:j=w4.heap.size:=hj;omega);generalize w4.heap.size=g at h5 s5 ⊢;rw[Q0R,hl]
 let t':=bytT (bytT t 1) 8
 let xj:Nat->Stp:=fun j=>⟨{x.o with H:=(numB (l.take j):Nat)},0⟩
 refine⟨fun f i w'=>∃j:Nat,i=(j:Int) /\ f+j=8 /\ ∃F',(skT n (xj j)*(tpT b t'*blk g O)).P w' F' /\ Step F w F' w',⟨8,0,rfl,rfl,_,re h5 ?_,(((st.trans s2).trans s3).trans s4).trans s5⟩,?_⟩
 ·have e0:({x with B:=0}:Stp)=xj 0:=by
   obtain⟨⟨K,T,N,M,H,D⟩,B⟩:=x;have h0:H=0:=h0;subst h0;rfl
  rw[e0];show blk g O*(tpT b t'*skT n (xj 0))=_;ac_rfl
 rintro f jv i w6 ⟨j,rfl,hf,F6,h6,s6⟩;refine ifD (fun hj=>⟨by omega,by omega,?_⟩) (fun hj=>?_)
 ·have hj':j<8:=by omega
  obtain⟨c,hc⟩:∃c,l[j]? = some c:=⟨_,zzgge (by omega)⟩;rw[zztnc];have hbg:=Q0b (b:=g) (o:=O) (C:=skT n (xj j)*tpT b t') h6 (by ac_rfl);rw[<-hO] at hbg;refine⟨_,by rw[Q02];refine Q01 hbg ?_;rw[Nat.zero_add];exact hrow j c hc,fun w7 e7=>?_⟩;subst e7;have h7:=Thing.grow h6 (Ext.drew w6);have hb7:=Q0b h7 rfl;refine⟨_,by rw[Q02,Q02];exact Q01 hb7 rfl,rfl,by rw[Q04 (by omega) (by omega)];omega,rfl,rfl,?_⟩;show WrC w6.drew (((zA n).add 0).add 4) 1 /\ _;rw[Q02,Q02];refine Q0K (b:=n) (o:=0+0+4) (C:=tpT b t'*blk g O) h7 rfl (by simp) fun w8 F8 h8 s8=>?_;have hlt:=Q6r (l.take j);have hlj:(l.take j).length=j:=by rw[zzlnt];omega
  rw[hlj] at hlt;have hn:numB (l.take (j+1))=numB (l.take j)+c.toNat*256 ^ j:=by
   rw[List.take_add_one,hc];show numB (l.take j++[c])=_;rw[Q5u,hlj]
  refine⟨f-1,by omega,j+1,by rw[Q04 (by omega) (by omega)];omega,by omega,F8,?_,(s6.trans (Step.ext (Ext.drew w6))).trans s8⟩;rw[Qem c hj' hlt,<-hn] at h8;exact h8
 ·have ej:j=8:=by omega
  subst ej;have etk:l.take 8=l:=List.take_of_length_le (by omega);have h6:(blk g O*(tpT b t'*skT n (xj 8))).P w6 F6:=re h6 (by ac_rfl);obtain⟨F7,h7,sub⟩:=Q07 h6;refine r _ w6 F7 ⟨rfl,?_⟩ (s6.sub sub);have exj:xj 8=⟨{x.o with H:=(numB l:Nat)},0⟩:=by show Stp.mk {x.o with H:=(numB (l.take 8):Nat)} 0=_;rw[etk]
  rw[exj] at h7;exact h7
end
end
set_option maxRecDepth 20000
section
open Go.RowKit Go.Maps Thing
def zO:Op:=⟨0,0,0,0,0,ByteArray.mk #[]⟩
def zS:Stp:=⟨zO,0⟩
def kx2(t:Tp):Stp:=⟨⟨oneI t % 16,oneI (bytT t 1),0,0,0,ByteArray.mk #[]⟩,0⟩
def kt2(t:Tp):Tp:=bytT (bytT t 1) 1
def kx3(t:Tp):Stp:=if 6<=oneI t % 16 /\ oneI t % 16<=11 then hndS (kt2 t) (kx2 t)else kx2 t
def kt3(t:Tp):Tp:=if 6<=oneI t % 16 /\ oneI t % 16<=11 then hndT (kt2 t)else kt2 t
def argS(k:Int)(x:Stp)(t:Tp):Stp:=
 if k=1 \/ k=2 \/ k=5 \/ k=9 then⟨{x.o with N:=numI t,M:=numI (bytT t 2)},x.B⟩
 else if k=4 \/ k=7 \/ k=11 then⟨{x.o with N:=numI t},x.B⟩
 else if k=10 then⟨{x.o with N:=numI t,D:=strOf (texL (bytT t 2))},x.B⟩
 else x
def argT(k:Int)(t:Tp):Tp:=
 if k=1 \/ k=2 \/ k=5 \/ k=9 then bytT (bytT t 2) 2
 else if k=4 \/ k=7 \/ k=11 then bytT t 2
 else if k=10 then texT (bytT t 2)
 else t
def stpX(t:Tp):Stp:=argS (oneI t % 16) (kx3 t) (kt3 t)
def stpE(t:Tp):Tp:=argT (oneI t % 16) (kt3 t)
def stpN(t:Tp):Option Stp:=if t.r=[] then none else if (stpE t).sh=true then none else some (stpX t)
def stpR(t:Tp):Tp:=if t.r=[] then t else stpE t
theorem hnd_K(t:Tp)(x:Stp):(hndS t x).o.K=x.o.K:=by unfold hndS;split <;> rfl
section
variable{b n:Nat}{t:Tp}{x:Stp}{w:World}{F:Nat->Prop}{X C:Thing}{R:VW}
theorem Q6z{i o:Nat}{v:Value}{x':Stp}{K:World->Prop}(h:X.P w F)(e:X=skT n x*C)(ho:o=i)(hi:i<7)(hx:setAt (spL x).toArray i [v]=(spL x').toArray)
  (k:∀w1 F',(skT n x'*C).P w1 F'->Step F w F' w1->K w1):WrC w (Addr.mk n o none) 1 /\ ∀w1,w1=wr w (Addr.mk n o none) [v]->K w1:=by
 subst ho;refine Q0K (b:=n) (o:=o) (C:=C) h e (by simp;omega) fun w1 F1 h1 s1=>k w1 F1 ?_ s1;rw[hx] at h1;exact h1
def sEnd(b n:Nat)(R:VW)(w53:World):Prop:=
 someA (some (zA b)) fun a54=>∃b55:Bool,w53.cell? (a54.add 1)=some (.bool b55) /\ ifB (!b55) (∃(i56 i57 i58 i59 i60:Int)(s61:ByteArray)(i62:Int),CellsAt w53 (zA n) [.int .i64 i56,.int .i64 i57,.int .i64 i58,.int .i64 i59,.int .u64 i60,.string s61,.int .i64 i62] /\ WrC w53 (zA n) 7 /\ ∀(w63:World),w63=wr w53 (zA n) [.int .i64 i56,.int .i64 i57,.int .i64 i58,.int .i64 i59,.int .u64 i60,.string s61,.int .i64 i62] →
  ∃(i64 i65 i66 i67 i68:Int)(s69:ByteArray)(i70:Int),CellsAt w63 (zA n) [.int .i64 i64,.int .i64 i65,.int .i64 i66,.int .i64 i67,.int .u64 i68,.string s69,.int .i64 i70] /\ R (.tuple #[.agg #[.int .i64 i64,.int .i64 i65,.int .i64 i66,.int .i64 i67,.int .u64 i68,.string s69,.int .i64 i70],.bool true]) w63) (WrC w53 (zA n) 7 /\ ∀(w71:World),w71=wr w53 (zA n) [.int .i64 0,.int .i64 0,.int .i64 0,.int .i64 0,.int .u64 0,.string (.mk #[]),.int .i64 0] →
  ∃(i72 i73 i74 i75 i76:Int)(s77:ByteArray)(i78:Int),CellsAt w71 (zA n) [.int .i64 i72,.int .i64 i73,.int .i64 i74,.int .i64 i75,.int .u64 i76,.string s77,.int .i64 i78] /\ R (.tuple #[.agg #[.int .i64 i72,.int .i64 i73,.int .i64 i74,.int .i64 i75,.int .u64 i76,.string s77,.int .i64 i78],.bool false]) w71)
theorem setAt7(arr:Array Value)(hs:arr.size=7)(a b c d e f g:Value):setAt arr 0 [a,b,c,d,e,f,g]=#[a,b,c,d,e,f,g]:=by
 obtain⟨l⟩:=arr;have hs:l.length=7:=hs
 match l,hs with
 | [_,_,_,_,_,_,_],_=>rfl
theorem Qao{x x':Stp}(h:X.P w F)(e:X=skT n x'*C){bb:Bool}(r:∀w' F',C.P w' F'->Step F w F' w'->R (.tuple #[spV x,.bool bb]) w') :
  WrC w (zA n) (7:Nat) /\ ∀(w63:World),w63=wr w (zA n) (spL x) →
  ∃(i64 i65 i66 i67 i68:Int)(s69:ByteArray)(i70:Int),CellsAt w63 (zA n) [.int .i64 i64,.int .i64 i65,.int .i64 i66,.int .i64 i67,.int .u64 i68,.string s69,.int .i64 i70] /\ R (.tuple #[.agg #[.int .i64 i64,.int .i64 i65,.int .i64 i66,.int .i64 i67,.int .u64 i68,.string s69,.int .i64 i70],.bool bb]) w63:=by
 refine Q0K (C:=C) h e (by simp) fun w1 F1 h1 s1=>?_;rw[setAt7 _ rfl] at h1;have h1:(skT n x*C).P w1 F1:=h1;have hb:=Q0b h1 rfl;obtain⟨F2,h2,sub⟩:=Q07 h1;exact⟨_,_,_,_,_,_,_,Q08 (vs:=spL x) hb,r w1 F2 h2 (s1.sub sub)⟩
theorem s_end(h:(tpT b t*skT n x).P w F)(r0:t.sh=true->∀w' F',(tpT b t).P w' F'->Step F w F' w'->R (.tuple #[spV zS,.bool false]) w')(r1:t.sh=false->∀w' F',(tpT b t).P w' F'->Step F w F' w'->R (.tuple #[spV x,.bool true]) w'):sEnd b n R w:=by
 unfold sEnd;have hb:=Q0b h rfl;have h':(skT n x*tpT b t).P w F:=re h (zztmc _ _);refine⟨t.sh,by rw[Q02];exact Q01 hb rfl,Q05 (fun q=>?_) (fun q=>?_)⟩
 ·have q:t.sh=false:=by simpa using q
  exact⟨_,_,_,_,_,_,_,Q08 (vs:=spL x) (Q0b h' rfl),Qao (x:=x) h' rfl (r1 q)⟩
 ·have q:t.sh=true:=by simpa using q
  exact Qao (x:=zS) h' rfl (r0 q)
theorem Qgo:Tri 62 #[zP b] (tpT b t) (fun v=>only (v=.tuple #[spV ((stpN t).getD zS),.bool (stpN t).isSome]) (tpT b (stpR t))):=by
 intro w F R h r;constructor;refine vc211.ok ?_;unfold vc211;refine Q0m h fun n w1 F1 h1 s1 _=>?_;have h1:(skT n zS*tpT b t).P w1 F1:=h1;have hb1:=Q0b (b:=b) (o:=tpO t) (C:=skT n zS) h1 (zztmc _ _);unfold stpN stpR at r;refine⟨_,by rw[Q02];exact Q01 hb1 rfl,Q05 (fun q=>?_) (fun q=>?_)⟩
 ·have q:strOf t.r=ByteArray.mk #[]:=zzodt q;have q:t.r=[]:=by have:=congrArg bytesOf q;exact this
  rw[if_pos q,if_pos q] at r;exact Qao (x:=zS) h1 rfl fun w' F' p st=>r _ w' F' ⟨rfl,p⟩ (s1.trans st)
 have q:¬t.r=[]:=fun z=>of_decide_eq_false q (by rw[z];rfl);rw[if_neg q,if_neg q] at r;have ho1:=Q1k t;refine(Qci (b:=b) (t:=t)).use h1 (zztmc _ _) fun v w2 F2 h2 s2=>?_;rw[Q06] at h2;obtain⟨rfl,h2⟩:=h2;refine⟨_,rfl,by omega,?_⟩;have em:(oneI t).tmod 16=oneI t % 16:=Int.tmod_eq_emod_of_nonneg ho1.1;rw[em,Q02,Q02];refine Q6z (i:=0) (x:=zS) (x':=⟨{zO with K:=oneI t % 16},0⟩) (C:=tpT b (bytT t 1)) h2 (zztmc _ _) rfl (by omega) rfl fun w3 F3 h3 s3=>?_;refine(Qci (b:=b) (t:=bytT t 1)).use h3 (zztmc _ _) fun v w4 F4 h4 s4=>?_;rw[Q06] at h4;obtain⟨rfl,h4⟩:=h4;refine⟨_,rfl,?_⟩;rw[Q02];refine Q6z (i:=1) (x:=⟨{zO with K:=oneI t % 16},0⟩) (x':=kx2 t) (C:=tpT b (kt2 t)) h4 (zztmc _ _) rfl (by omega) rfl fun w5 F5 h5 s5=>?_;have s15:=(((s1.trans s2).trans s3).trans s4).trans s5;refine⟨fun w'=>∃F',(tpT b (kt3 t)*skT n (kx3 t)).P w' F' /\ Step F w F' w',?_,?_⟩
 ·have hb5:=Q0b h5 rfl;have no:¬(6<=oneI t % 16 /\ oneI t % 16<=11)->∃F',(tpT b (kt3 t)*skT n (kx3 t)).P w5 F' /\ Step F w F' w5:=fun z=>by
   unfold kt3 kx3;rw[if_neg z,if_neg z];exact⟨F5,re h5 (zztmc _ _),s15⟩
  refine⟨oneI t % 16,Q01 hb5 rfl,Q05 (fun q1=>Q05 (fun q2=>?_) (fun q2=>?_)) (fun q1=>?_)⟩
  ·have q1:=zzodt q1;have q2:=zzodt q2;refine(QaU (b:=b) (n:=n) (t:=kt2 t) (x:=kx2 t) rfl).use (C:=emp) h5 (by rw[Q0c,zztmc]) fun v w6 F6 h6 s6=>?_;rw[Q06,Q0c] at h6;obtain⟨rfl,h6⟩:=h6;refine⟨rfl,F6,?_,s15.trans s6⟩;unfold kt3 kx3;rw[if_pos ⟨q1,q2⟩,if_pos ⟨q1,q2⟩];exact h6
  ·have q2:=of_decide_eq_false q2;exact no (fun z=>q2 z.2)
  ·have q1:=of_decide_eq_false q1;exact no (fun z=>q1 z.1)
 rintro _ w6 ⟨F6,h6,s6⟩;have hK:(kx3 t).o.K=oneI t % 16:=by
  unfold kx3;split
  ·rw[hnd_K];rfl
  ·rfl
 have fin:∀w' F',(tpT b (stpE t)*skT n (stpX t)).P w' F'->Step F w F' w'->sEnd b n R w':=fun w' F' p st=>by
  refine s_end p (fun hs w'' F'' p2 st2=>?_) (fun hs w'' F'' p2 st2=>?_)
  ·rw[if_pos hs] at r;exact r _ w'' F'' ⟨rfl,p2⟩ (st.trans st2)
  ·rw[if_neg (by simp[hs])] at r;exact r _ w'' F'' ⟨rfl,p2⟩ (st.trans st2)
 have eX:stpX t=argS (oneI t % 16) (kx3 t) (kt3 t):=rfl;have eE:stpE t=argT (oneI t % 16) (kt3 t):=rfl;generalize stpX t=xe at eX fin r;generalize stpE t=te at eE fin r;generalize oneI t % 16=k at hK eX eE;generalize kx3 t=x3 at h6 hK eX;generalize kt3 t=t3 at h6 eX eE;obtain⟨⟨K,T3,N3,M3,H3,D3⟩,B3⟩:=x3;have hK:K=k:=hK;subst hK;have hb6:=Q0b (b:=n) (C:=tpT b t3) h6 (zztmc _ _);have h6':(skT n ⟨⟨K,T3,N3,M3,H3,D3⟩,B3⟩*tpT b t3).P w6 F6:=re h6 (zztmc _ _);refine⟨fun w'=>∃F',(tpT b te*skT n xe).P w' F' /\ Step F w F' w',⟨K,Q01 hb6 rfl,fun bb w'=>bb=decide (K=1 \/ K=2 \/ K=5 \/ K=9) /\ w'=w6,?_,?_⟩,fun _ w' ⟨F',p,st⟩=>fin w' F' p st⟩
 ·have dd:∀i:Int,(K == i)=decide (K=i):=fun i=>rfl;refine Q05 (fun q=>⟨?_,rfl⟩) (fun q=>Q05 (fun q2=>⟨?_,rfl⟩) (fun q2=>Q05 (fun q3=>⟨?_,rfl⟩) (fun q3=>⟨?_,rfl⟩)))
  ·have q':K=1:=by simpa using q
   rw[q,decide_eq_true (.inl q')]
  ·have q':K=2:=by simpa using q2
   rw[q2,decide_eq_true (.inr (.inl q'))]
  ·have q':K=5:=by simpa using q3
   rw[q3,decide_eq_true (.inr (.inr (.inl q')))]
  ·have a1:¬K=1:=by simpa using q
   have a2:¬K=2:=by simpa using q2
   have a3:¬K=5:=by simpa using q3
   by_cases a4:K=9
   ·rw[decide_eq_true (.inr (.inr (.inr a4)))];simp[a4]
   ·rw[zzdcf (by omega)];simp[a4]
 rintro _ bb w7 ⟨rfl,rfl⟩;refine Q05 (fun q=>?_) (fun q=>?_)
 ·have q:=zzodt q;unfold argS at eX;unfold argT at eE;rw[if_pos q] at eX eE;subst eX eE;refine(Qch (b:=b) (t:=t3)).use h6 rfl fun v w8 F8 h8 s8=>?_;rw[Q06] at h8;obtain⟨rfl,h8⟩:=h8;refine⟨_,rfl,(Qch (b:=b) (t:=bytT t3 2)).use h8 rfl fun v w9 F9 h9 s9=>?_⟩;rw[Q06] at h9;obtain⟨rfl,h9⟩:=h9;refine⟨_,rfl,Q6z (i:=2) (x:=⟨⟨K,T3,N3,M3,H3,D3⟩,B3⟩) (x':=⟨⟨K,T3,numI t3,M3,H3,D3⟩,B3⟩) (C:=tpT b (bytT (bytT t3 2) 2)) h9 (zztmc _ _) rfl (by omega) rfl fun w10 F10 h10 s10=>?_⟩;rw[Q02];refine Q6z (i:=3) (x:=⟨⟨K,T3,numI t3,M3,H3,D3⟩,B3⟩) (x':=⟨⟨K,T3,numI t3,numI (bytT t3 2),H3,D3⟩,B3⟩) (C:=tpT b (bytT (bytT t3 2) 2)) h10 rfl rfl (by omega) rfl fun w11 F11 h11 s11=>?_;exact⟨F11,re h11 (zztmc _ _),(((s6.trans s8).trans s9).trans s10).trans s11⟩
 have q:=of_decide_eq_false q;unfold argS at eX;unfold argT at eE;rw[if_neg q] at eX eE;refine⟨fun bb w'=>bb=decide (K=4 \/ K=7 \/ K=11) /\ w'=w7,?_,?_⟩
 ·refine Q05 (fun q=>⟨?_,rfl⟩) (fun q=>Q05 (fun q2=>⟨?_,rfl⟩) (fun q2=>⟨?_,rfl⟩))
  ·have q':K=4:=by simpa using q
   rw[q,decide_eq_true (.inl q')]
  ·have q':K=7:=by simpa using q2
   rw[q2,decide_eq_true (.inr (.inl q'))]
  ·have a1:¬K=4:=by simpa using q
   have a2:¬K=7:=by simpa using q2
   by_cases a4:K=11
   ·rw[decide_eq_true (.inr (.inr a4))];simp[a4]
   ·rw[zzdcf (by omega)];simp[a4]
 rintro _ bb w8 ⟨rfl,rfl⟩;refine Q05 (fun q2=>?_) (fun q2=>?_)
 ·have q2:=zzodt q2;rw[if_pos q2] at eX eE;subst eX eE;refine(Qch (b:=b) (t:=t3)).use h6 rfl fun v w9 F9 h9 s9=>?_;rw[Q06] at h9;obtain⟨rfl,h9⟩:=h9;refine⟨_,rfl,Q6z (i:=2) (x:=⟨⟨K,T3,N3,M3,H3,D3⟩,B3⟩) (x':=⟨⟨K,T3,numI t3,M3,H3,D3⟩,B3⟩) (C:=tpT b (bytT t3 2)) h9 (zztmc _ _) rfl (by omega) rfl fun w10 F10 h10 s10=>?_⟩;exact⟨F10,re h10 (zztmc _ _),(s6.trans s9).trans s10⟩
 have q2:=of_decide_eq_false q2;rw[if_neg q2] at eX eE;refine Q05 (fun q3=>?_) (fun q3=>?_)
 ·have q3:K=10:=by simpa using q3
  rw[if_pos q3] at eX eE;subst eX eE;refine(Qch (b:=b) (t:=t3)).use h6 rfl fun v w9 F9 h9 s9=>?_;rw[Q06] at h9;obtain⟨rfl,h9⟩:=h9;refine⟨_,rfl,Q6z (i:=2) (x:=⟨⟨K,T3,N3,M3,H3,D3⟩,B3⟩) (x':=⟨⟨K,T3,numI t3,M3,H3,D3⟩,B3⟩) (C:=tpT b (bytT t3 2)) h9 (zztmc _ _) rfl (by omega) rfl fun w10 F10 h10 s10=>?_⟩;refine(Qgp (b:=b) (t:=bytT t3 2)).use h10 (zztmc _ _) fun v w11 F11 h11 s11=>?_;rw[Q06] at h11;obtain⟨rfl,h11⟩:=h11;refine⟨_,rfl,?_⟩;rw[Q02];refine Q6z (i:=5) (x:=⟨⟨K,T3,numI t3,M3,H3,D3⟩,B3⟩) (x':=⟨⟨K,T3,numI t3,M3,H3,strOf (texL (bytT t3 2))⟩,B3⟩) (C:=tpT b (texT (bytT t3 2))) h11 (zztmc _ _) rfl (by omega) rfl fun w12 F12 h12 s12=>?_;exact⟨F12,re h12 (zztmc _ _),(((s6.trans s9).trans s10).trans s11).trans s12⟩
 ·have q3:¬K=10:=by simpa using q3
  rw[if_neg q3] at eX eE;subst eX eE;exact⟨F6,h6,s6⟩
end
end
set_option maxRecDepth 20000
section
open Go.RowKit Go.Maps Thing
abbrev stpsT(v:Value)(l:List Stp):Thing:=rwT 62 7 spL v l
theorem elemStp:ElemOk prog 59 62 7 64:=.of (z:=.agg #[.int .i64 0,.int .i64 0,.int .i64 0,.int .i64 0,.int .u64 0,.string (ByteArray.mk #[]),.int .i64 0]) (by kernel_rfl) (by kernel_rfl) rfl
theorem Qar(x:Stp):(spL x).length=7:=rfl
theorem QeF(x:Stp)(u:Value)(h:u ∈ spL x):u.oneCell'=true:=by
 simp only[spL,List.mem_cons,List.not_mem_nil,or_false] at h;rcases h with rfl | rfl | rfl | rfl | rfl | rfl | rfl <;> rfl
def readL:Nat->Tp->List Stp
 | 0,_=>[]
 | k+1,t=>match stpN t with | none=>[] | some x=>x :: readL k (stpR t)
def rdL(s:ByteArray):List Stp:=readL 4000 ⟨(bytesOf s).take 16384,false⟩
theorem Q5A:∀k t,(readL k t).length<=k
 | 0,t=>Nat.le_refl _
 | k+1,t=>by
  unfold readL;split
  ·exact Nat.zero_le _
  ·rw[List.length_cons];have:=Q5A k (stpR t);omega
section
variable{w:World}{F:Nat->Prop}{X C:Thing}{R:VW}
theorem emp_P(w:World):emp.P w (fun _=>False):=rfl
theorem Qgm(s:ByteArray)(r:∀p c w' F',(stpsT (.slice p (rdL s).length c) (rdL s)).P w' F'->Ext w w'->(∀j,F' j->w.heap.size<=j)->R (.slice p (rdL s).length c) w') :
  CS 28 #[.string s] w R:=by
 constructor;refine vc72.ok ?_;unfold vc72;have em:(if (16384:Int)<(s.size:Int)then(16384:Int)else(s.size:Int))=((min 16384 s.size:Nat):Int):=by
  split <;> omega
 refine⟨_,w,run_min_int2 w _ _ _ _ _ _,?_⟩;rw[em,zztnc];refine⟨by omega,by omega,by omega,?_⟩;have e0:s.extract 0 (min 16384 s.size)=strOf ((bytesOf s).take 16384):=by
  apply Q1P;rw[Q0U,Q0s,seg,List.drop_zero,Nat.sub_zero];have hl:=Q0v s;rcases Nat.le_total s.size 16384 with h | h
  ·rw[Nat.min_eq_right h,List.take_of_length_le (by omega),List.take_of_length_le (by omega)]
  ·rw[Nat.min_eq_left h]
 rw[e0];refine Q0m (emp_P w) fun b w1 F1 h1 s1 _=>?_;have h1:(tpT b ⟨(bytesOf s).take 16384,false⟩*emp).P w1 F1:=h1;generalize et:(⟨(bytesOf s).take 16384,false⟩:Tp)=t0 at h1;have eL:rdL s=readL 4000 t0:=by unfold rdL;rw[et]
 have h1:(tpT b t0).P w1 F1:=re h1 (Q0c _);refine⟨fun f p n c w'=>∃l:List Stp,n=l.length /\ f+l.length=4000 /\ ∃t F',l++readL (4000-l.length) t=rdL s /\ (stpsT (.slice p l.length c) l*tpT b t).P w' F' /\ Step (fun _=>False) w F' w',⟨4000,[],rfl,rfl,t0,_,by rw[eL];rfl,re (Q2d h1) (zztmc _ _),s1⟩,?_⟩;rintro f jv p n c w2 ⟨l,rfl,hf,t,F2,hl,h2,s2⟩;have fin:∀w' F',l=rdL s->(stpsT (.slice p l.length c) l*tpT b t).P w' F'->Step (fun _=>False) w F' w'->R (.slice p l.length c) w':=fun w' F' e p st=>by
  obtain⟨F3,h3,sub⟩:=Q07 (re p (zztmc _ _));have st:=st.sub sub;rw[e] at h3 ⊢;exact r _ _ w' F3 h3 st.1 fun j hj=>(st.2 j hj).resolve_left id
 refine Q05 (fun q=>?pos) (fun q=>?neg)
 case neg=>
  have q:=of_decide_eq_false q;have e4:l.length=4000:=by omega
  rw[e4] at hl;have hl:l++[]=rdL s:=hl;rw[List.append_nil] at hl;exact fin w2 F2 hl h2 s2
 have q:=zzodt q;have hlt:l.length<4000:=by omega
 refine(Qgo (b:=b) (t:=t)).use h2 (zztmc _ _) fun v w3 F3 h3 s3=>?_;rw[Q06] at h3;obtain⟨rfl,h3⟩:=h3;obtain⟨k,hk⟩:∃k,4000-l.length=k+1:=⟨4000-l.length-1,by omega⟩;rw[hk,readL] at hl;refine⟨_,_,_,_,_,_,_,_,rfl,Q0m h3 fun n4 w4 F4 h4 s4 _=>?_⟩;have h4:(skT n4 zS*(tpT b (stpR t)*stpsT (.slice p l.length c) l)).P w4 F4:=h4;refine Q0K (b:=n4) (o:=0) (C:=tpT b (stpR t)*stpsT (.slice p l.length c) l) h4 rfl (by simp) fun w5 F5 h5 s5=>?_;rw[setAt7 _ rfl] at h5;have h5:(skT n4 ((stpN t).getD zS)*(tpT b (stpR t)*stpsT (.slice p l.length c) l)).P w5 F5:=h5;have s25:=((s2.trans s3).trans s4).trans s5;cases hn:stpN t with
 | none=>
  rw[hn] at hl;have hl:l++[]=rdL s:=hl;rw[List.append_nil] at hl;refine Q03 rfl ?_;obtain⟨F6,h6,sub⟩:=Q07 h5;obtain⟨F7,h7,sub7⟩:=Q07 h6;have st:=(s25.sub sub).sub sub7;rw[hl] at h7 ⊢;exact r _ _ w5 F7 h7 st.1 fun j hj=>(st.2 j hj).resolve_left id
 | some x=>
  rw[hn] at hl h5;have hl:l++(x :: readL k (stpR t))=rdL s:=hl;have h5:(skT n4 x*(tpT b (stpR t)*stpsT (.slice p l.length c) l)).P w5 F5:=h5;refine Q00 rfl ⟨_,_,_,_,_,_,_,Q08 (vs:=spL x) (Q0b h5 rfl),Q0m h5 fun n6 w6 F6 h6 s6 _=>?_⟩;have h6:(skT n6 x*(skT n4 x*(tpT b (stpR t)*stpsT (.slice p l.length c) l))).P w6 F6:=h6;obtain⟨p',c',w7,F7,hrun,h7,s7⟩:=Q1V elemStp Qar QeF (v:=.slice p l.length c) (l:=l) (a:=⟨n6,0,none⟩) (c:=1) (x:=x) (Y:=skT n6 x*(skT n4 x*tpT b (stpR t))) (re h6 (by show _=stpsT (.slice p l.length c) l*_;ac_rfl)) (Q08 (vs:=spL x) (Q0b h6 rfl)) (by omega) (by omega);obtain⟨F8,h8,sub⟩:=Q07 (A:=skT n6 x*skT n4 x) (B:=tpT b (stpR t)*stpsT (.slice p' (l.length+1) c') (l++[x])) (re h7 (by show stpsT (.slice p' (l.length+1) c') (l++[x])*_=_;ac_rfl));have el:(l++[x]).length=l.length+1:=by rw[zzlna];rfl
  refine⟨p',_,c',w7,hrun,f-1,by omega,l++[x],by rw[el],by rw[el];omega,stpR t,F8,?_,?_,(((s25.trans s6).trans s7).sub sub)⟩
  ·rw[<-hl,el,show 4000-(l.length+1)=k by omega,List.append_assoc];rfl
  ·rw[el];exact re h8 (zztmc _ _)
end
end
section
open Go.RowKit Go.Maps Thing
section
variable{w:World}{F:Nat->Prop}{X C:Thing}{R:VW}
theorem QeT(P0 C0:Int)(r:∀w',Ext w w'->R (.bool (decide (P0>512))) w'):CS 25 #[.agg #[.int .i64 P0,.int .i64 C0],.slice none 0 0,.int .i64 1] w R:=by
 constructor;refine vc93.ok ?_;unfold vc93;refine Q09 fun b w1 hb hE _ _=>⟨fun f i j w'=>i=0 /\ j=0 /\ w'=w1,⟨0,rfl,rfl,rfl⟩,?_⟩;rintro f jv i j w' ⟨rfl,rfl,rfl⟩;refine ifD (fun q=>by omega) (fun q=>ifD (fun q2=>by omega) (fun q2=>⟨_,by rw[Q02];exact Q01 hb rfl,r _ hE⟩))
theorem Qf2(P0 C0:Int)(s:ByteArray)(most:Int)(r0:¬(s.size<=8192 /\ P0<=512)->∀w',Ext w w'->R (.tuple #[.slice none 0 0,.bool false]) w')
  (r1:s.size<=8192->P0<=512->∀p c w' F',(stpsT (.slice p (rdL s).length c) (rdL s)).P w' F'->Ext w w'->(∀j,F' j->w.heap.size<=j)->R (.tuple #[.slice p (rdL s).length c,.bool (decide (((rdL s).length:Int)<=most))]) w') :
  CS 30 #[.agg #[.int .i64 P0,.int .i64 C0],.string s,.int .i64 most] w R:=by
 constructor;refine vc73.ok ?_;unfold vc73;refine Q09 fun b w1 hb hE hs _=>ifD (fun q=>r0 (fun z=>by omega) w1 hE) (fun q=>⟨_,_,Q08 (vs:=[.int .i64 P0,.int .i64 C0]) hb,QeT P0 C0 fun w2 hE2=>⟨_,rfl,Q05 (fun q2=>?_) (fun q2=>?_)⟩⟩)
 ·have q2:=zzodt q2;exact r0 (fun z=>by omega) w2 (hE.trans hE2)
 ·have q2:=of_decide_eq_false q2;refine Qgm s fun p c w3 F3 h3 hE3 hn3=>⟨_,_,_,rfl,r1 (by omega) (by omega) p c w3 F3 h3 ((hE.trans hE2).trans hE3) fun j hj=>?_⟩;have:=hn3 j hj;have:=hE.size;have:=hE2.size;omega
end
structure Rn where
 x:Se
 g:Int->List Int
 ops:List Op
 said:List An
def hOf(g:Int->List Int)(st:Stp):Op:=if st.B>0 then {st.o with H:=if st.B<=((g st.o.T).length:Int)then(g st.o.T).getD ((g st.o.T).length-st.B.toNat) 0 else 0} else st.o
def gAd(g:Int->List Int)(T:Int)(h:Int):Int->List Int:=if h ≠ 0 then(fun k=>if k=T then g T++[h] else g k)else g
noncomputable def runS(s:Sv)(n:Rn)(st:Stp):Rn:=
 ⟨(doM s n.x (hOf n.g st)).x,gAd n.g st.o.T (doM s n.x (hOf n.g st)).a.Hd,n.ops++[hOf n.g st],n.said++[(doM s n.x (hOf n.g st)).a]⟩
def R0(s:Sv):Rn:=⟨⟨A0 s,[],[]⟩,fun _=>[],[],[]⟩
noncomputable def runL(s:Sv)(l:List Stp):Rn:=l.foldl (runS s) (R0 s)
structure StpOk (x:Stp):Prop where
 t:I64w x.o.T
 h:Hd.U64 x.o.H
 b:I64w x.B
section
variable{s:Sv}{A:Ax}{t:Tn}{a:Ad}{x:Se}
theorem QfJ(g:Int->List Int)(st:Stp):(hOf g st).T=st.o.T:=by unfold hOf;split <;> rfl
theorem Q7u{T k r nx:Int}(hT:0<=T /\ T<=7)(hk:0<=k /\ k<=4159)(hr:0<=r /\ r<=7)(hn:0<=nx /\ nx<=17592186044415):Hd.U64 (Hd.packV T k r nx):=by
 unfold Hd.packV Hd.U64;omega
theorem Q7A{S:Int->Option Cp.Sl}{base n k:Nat}{nx:Int}(h:Cp.putK S base n nx=some k):k<n /\ nx<17592186044416:=by
 unfold Cp.putK at h;split at h
 ·cases h
 ·rename_i q;obtain⟨hl,_⟩:=List.findIdx?_eq_some_iff_getElem.1 h;rw[Cp.occ_len] at hl;exact⟨hl,by omega⟩
theorem QdX{T nx a:Int}{S:Int->Option Cp.Sl}(hT:0<=T /\ T<=7)(hn:0<=nx):Hd.U64 (grI T S nx a):=by
 unfold grI;have z:Hd.U64 0:=by unfold Hd.U64;omega
 split
 ·exact z
 ·split
  ·rename_i k hk;obtain⟨h1,h2⟩:=Q7A hk;exact Q7u hT (by omega) (by omega) (by omega)
  ·exact z
theorem Qce{T nx h r:Int}{S:Int->Option Cp.Sl}(hT:0<=T /\ T<=7)(hn:0<=nx):Hd.U64 (rstI T S nx h r):=by
 unfold rstI;have z:Hd.U64 0:=by unfold Hd.U64;omega
 split
 ·rename_i y hy;have hr:1<=r /\ r<=7:=by
   unfold Cp.restO at hy;split at hy
   ·split at hy
    ·rename_i q;exact⟨q.1,q.2.1⟩
    ·cases hy
   ·cases hy
  split
  ·rename_i k hk;obtain⟨h1,h2⟩:=Q7A hk;exact Q7u hT (by omega) (by omega) (by omega)
  ·exact z
 ·exact z
theorem Q4q(hT:0<=t.id /\ t.id<=7)(hn:0<=t.nx)(n:Int):Hd.U64 (getM s A t n).h:=by
 have z:Hd.U64 0:=by unfold Hd.U64;omega
 unfold getM;split;exact z;split;exact z;split;exact z;split;exact z;split;exact z;split;exact z;exact QdX hT hn
theorem QdH(hT:0<=t.id /\ t.id<=7)(hn:0<=t.nx){o:Op}(hu:Hd.U64 o.H):Hd.U64 (askM s A t o).a.Hd:=by
 have z:Hd.U64 0:=by unfold Hd.U64;omega
 unfold askM;split
 ·exact Q4q hT hn _
 split
 ·unfold calR;split
  ·exact Q4q hT hn _
  ·exact z
 split
 ·unfold freR;split <;> exact z
 split
 ·unfold rlcR;split
  ·exact z
  split
  ·exact z
  split
  ·split
   ·exact Q4q hT hn _
   ·exact z
  ·exact hu
 split
 ·unfold usbR;split <;> exact z
 split
 ·unfold reaR;split <;> exact z
 split
 ·unfold wriR;split <;> exact z
 ·exact Qce hT hn
theorem Q6Y(g:AdInv s x.a){o:Op}(hu:Hd.U64 o.H):Hd.U64 (doM s x o).a.Hd /\ ((doM s x o).a.Hd ≠ 0->0<=o.T /\ o.T<8):=by
 have z:Hd.U64 0:=by unfold Hd.U64;omega
 unfold doM;split
 ·exact⟨z,fun h=>absurd rfl h⟩
 rename_i hc;have hc:chkE o=0:=by simpa using hc
 obtain⟨_,_,h0,h8,_⟩:=Q3O hc;refine⟨?_,fun _=>⟨h0,h8⟩⟩;show Hd.U64 (doA s (fgt x.a) o).a.Hd;unfold doA;split;exact z;split;exact z;split;exact z;cases ht:(fgt x.a).tn o.T.toNat with
 | none=>exact z
 | some t=>
  have w:=g.fgt.tn o.T.toNat t (by omega) ht;have hid:=w.id;have hn:=w.inv.ok.nx;exact QdH (by omega) (by omega) hu
end
end
section
open Go.RowKit Go.Maps Thing
structure GOk (g:Int->List Int) (k:Nat):Prop where
 out:∀T,¬(0<=T /\ T<8)->g T=[]
 u:∀T h,h ∈ g T->Hd.U64 h
 len:∀T,(g T).length<=k
structure RnInv (s:Sv) (n:Rn) (k:Nat):Prop where
 ad:AdInv s n.x.a
 dn:n.x.done.length<=k
 ol:n.ops.length=k
 sl:n.said.length=k
 ou:∀o ∈ n.ops,Hd.U64 o.H
 g:GOk n.g k
 tc:n.x.tch.length<=10000000
section
variable{s:Sv}{n:Rn}{k:Nat}{x:Se}
theorem Qfw(g:AdInv s x.a)(o:Op):(doM s x o).x.tch.length<=10000000:=by
 unfold doM;split
 ·exact Nat.zero_le _
 ·rename_i hc;have:=QcH (o:=o) g.fgt.ok (by simpa using hc);have e:(fgt x.a).A.ts.length=0:=rfl;show(doA s (fgt x.a) o).x.A.ts.length<=_;omega
theorem Q6m{g:Int->List Int}(hg:GOk g k){st:Stp}(h:StpOk st):Hd.U64 (hOf g st).H:=by
 unfold hOf;split
 ·show Hd.U64 (if _ then _ else _);have z:Hd.U64 0:=by unfold Hd.U64;omega
  split
  ·rename_i h1 h2;have hi:(g st.o.T).length-st.B.toNat<(g st.o.T).length:=by omega
   rw[List.getD_eq_getElem?_getD,zzgge hi];exact hg.u _ _ (List.getElem_mem hi)
  ·exact z
 ·exact h.h
theorem GOk.add{g:Int->List Int}(hg:GOk g k){T h:Int}(hu:Hd.U64 h)(hT:h ≠ 0->0<=T /\ T<8):GOk (gAd g T h) (k+1):=by
 unfold gAd;split
 ·rename_i q;have ht:=hT q;refine⟨fun T' hT'=>?_,fun T' y hy=>?_,fun T'=>?_⟩
  ·show(if T'=T then _ else _)=_;rw[if_neg (fun e=>hT' (by omega))];exact hg.out T' hT'
  ·have hy:y ∈ (if T'=T then g T++[h] else g T'):=hy;split at hy
   ·rcases zzmpd.1 hy with hy | hy
    ·exact hg.u _ _ hy
    ·rw[List.mem_singleton.1 hy];exact hu
   ·exact hg.u _ _ hy
  ·show(if T'=T then g T++[h] else g T').length<=_;split
   ·rw[zzlna];have:=hg.len T;exact Nat.add_le_add this (Nat.le_refl _)
   ·have:=hg.len T';omega
 ·exact⟨hg.out,hg.u,fun T'=>by have:=hg.len T';omega⟩
theorem Q35(g:RnInv s n k){st:Stp}(h:StpOk st):RnInv s (runS s n st) (k+1):=by
 have hu:=Q6m g.g h;have hd:=Q6Y g.ad hu;rw[QfJ] at hd;refine⟨Q1N g.ad _,?_,?_,?_,?_,g.g.add hd.1 hd.2,Qfw g.ad _⟩
 ·have:=Q1L (s:=s) (x:=n.x) (hOf n.g st);have:=g.dn;show(doM s n.x (hOf n.g st)).x.done.length<=_;omega
 ·show(n.ops++[_]).length=_;rw[zzlna,g.ol];rfl
 ·show(n.said++[_]).length=_;rw[zzlna,g.sl];rfl
 ·intro o ho;rcases zzmpd.1 ho with ho | ho
  ·exact g.ou o ho
  ·rw[List.mem_singleton.1 ho];exact hu
theorem run0{P0 C0:Int}(g:SvOk s P0 C0):RnInv s (R0 s) 0:=
 ⟨Q3U g,Nat.le_refl _,rfl,rfl,(fun o ho=>by cases ho),⟨fun _ _=>rfl,(fun T h hh=>by cases hh),fun T=>Nat.le_refl _⟩,Nat.zero_le _⟩
theorem Q7M:∀(l:List Stp) {n:Rn} {k:Nat},RnInv s n k->(∀x ∈ l,StpOk x)->RnInv s (l.foldl (runS s) n) (k+l.length)
 | [],n,k,g,_=>g
 | x :: l,n,k,g,h=>by
  have:=Q7M l (Q35 g (h x (by simp))) fun y hy=>h y (by simp[hy]);rw[List.length_cons,show k+(l.length+1)=k+1+l.length by omega];exact this
theorem Qaj{P0 C0:Int}(g:SvOk s P0 C0){l:List Stp}(h:∀x ∈ l,StpOk x):RnInv s (runL s l) l.length:=by
 have:=Q7M l (run0 g) h
 rwa [Nat.zero_add] at this
theorem Qah(l:List Stp)(x:Stp):runL s (l++[x])=runS s (runL s l) x:=by
 unfold runL;rw[List.foldl_append];rfl
end
def u64F(x:Int):List Value:=[.int .u64 x]
theorem Q4Z(x:Int):(u64F x).length=1:=rfl
theorem Q7X(x:Int)(u:Value)(h:u ∈ u64F x):u.oneCell'=true:=by
 simp only[u64F,List.mem_cons,List.not_mem_nil,or_false] at h;subst h;rfl
theorem elemU:ElemOk prog 55 33 1 8:=.of (z:=.int .u64 0) (by kernel_rfl) (by kernel_rfl) rfl
def gvM(gv:Int->Value)(g:Int->List Int):Int->Option Value:=fun k=>if g k=[] then none else some (gv k)
def gvF(gv:Int->Value)(g:Int->List Int):Fin 8->Thing:=fun i=>rwT 33 1 u64F (gv (i.val:Int)) (g (i.val:Int))
def gvT(mp:Nat)(gv:Int->Value)(g:Int->List Int):Thing:=mpT 3 mp (gvM gv g)*fam (gvF gv g)
def GvOk(gv:Int->Value)(g:Int->List Int):Prop:=∀k,g k=[]->gv k=.slice none 0 0
theorem Q9m:Tryz.prog.underlying 105=some (.map 3 55):=by kernel_rfl
theorem giv_z(w:World):(zeroValue 55).run prog w=.ok (.slice none 0 0) w:=by kernel_rfl
section
variable{mp:Nat}{gv:Int->Value}{g:Int->List Int}{k:Nat}{w:World}{F:Nat->Prop}{X C:Thing}
theorem QfI(i:Fin 8)(h:X.P w F)(e:X=gvT mp gv g*C):ORow w 33 1 u64F (gv (i.val:Int)) (g (i.val:Int)):=
 Q8t (e:=33) (k:=1) (f:=u64F) (Y:=mpT 3 mp (gvM gv g)*(fam (Thing.upd (gvF gv g) i emp)*C)) h (by rw[e];unfold gvT;rw[Q3Q (gvF gv g) i];show _=gvF gv g i*_;ac_rfl)
theorem Q7b(ok:GvOk gv g)(hg:GOk g k)(h:X.P w F)(e:X=gvT mp gv g*C)(T:Int):∃p c,gv T=.slice p (g T).length c:=by
 by_cases hT:0<=T /\ T<8
 ·have:=QfI (⟨T.toNat,by omega⟩:Fin 8) h e;have e1:((⟨T.toNat,by omega⟩:Fin 8).val:Int)=T:=by show((T.toNat:Nat):Int)=T;omega
  rw[e1] at this;exact this.shape
 ·have h0:=hg.out T hT;rw[ok T h0,h0];exact⟨none,0,rfl⟩
theorem Q6l(ok:GvOk gv g)(h:X.P w F)(e:X=gvT mp gv g*C){T:Int}(hT:I64w T):(Instr.lookup 105 (.map (some mp)) (.int .i64 T) false).run prog w=.ok (gv T) w:=by
 have:=Q3p (K:=3) (mp:=mp) (m:=gvM gv g) (C:=fam (gvF gv g)*C) h (by rw[e];unfold gvT;ac_rfl) Q0L Q9m (giv_z w) hT;rw[this];unfold gvM;split
 ·rename_i q;rw[ok T q];rfl
 ·rfl
theorem QdZ(ok:GvOk gv g)(hg:GOk g k)(hk:k<=100000)(h:X.P w F)(e:X=gvT mp gv g*C){T hh:Int}(hT:0<=T /\ T<8){a:Addr}(ha:w.cell? a=some (.int .u64 hh))(h0:hh ≠ 0) :
  ∃p' c' w1 F1 Y,(Builtin.append_ #[55,55] 55 #[gv T,.slice (some a) 1 1]).run prog w=.ok (.slice p' ((g T).length+1) c') w1 /\ (Y*C).P w1 F1 /\ Step F w F1 w1 /\
   ∃w2 F2 gv',(Instr.mapUpdate 105 (.map (some mp)) (.int .i64 T) (.slice p' ((g T).length+1) c')).run prog w1=.ok () w2 /\ GvOk gv' (gAd g T hh) /\ (gvT mp gv' (gAd g T hh)*C).P w2 F2 /\ Step F w F2 w2:=by
 obtain⟨m,rfl⟩:=zzeoz hT.1;have hm:m<8:=by omega
 let i:Fin 8:=⟨m,hm⟩
 have e1:X=rwT 33 1 u64F (gv (m:Int)) (g (m:Int))*(mpT 3 mp (gvM gv g)*fam (Thing.upd (gvF gv g) i emp)*C):=by
  rw[e];unfold gvT;rw[Q3Q (gvF gv g) i];show _=gvF gv g i*_;ac_rfl
 have hlen:=hg.len (m:Int);obtain⟨p',c',w1,F1,hrun,h1,s1⟩:=Q1V elemU Q4Z Q7X (v:=gv (m:Int)) (l:=g (m:Int)) (a:=a) (c:=1) (x:=hh) (re h e1) (fun j u hu=>by
  match j with
  | 0=>
   have:some (Value.int .u64 hh)=some u:=hu;cases this;show w.cell? (a.add 0)=_;have ea:a.add 0=a:=by obtain⟨b,o,x⟩:=a;rfl
   rw[ea];exact ha
  | j+1=>simp[u64F] at hu) (by omega) (by omega)
 refine⟨p',c',w1,F1,_,hrun,re h1 (by rw[<-Thing.mul_assoc]),s1,?_⟩;obtain⟨w2,F2,r2,h2,s2⟩:=Q30 (K:=3) (mp:=mp) (m:=gvM gv g) (C:=rwT 33 1 u64F (.slice p' ((g (m:Int)).length+1) c') (g (m:Int)++[hh])*(fam (Thing.upd (gvF gv g) i emp)*C)) h1 (by ac_rfl) Q0L Q9m (k:=(m:Int)) (i64w (by omega) (by omega)) (.slice p' ((g (m:Int)).length+1) c') (fun k hk=>by
  unfold gvM at hk;by_cases hk':0<=k /\ k<8
  ·omega
  ·rw[if_pos (hg.out k hk')] at hk;cases hk)
 let gv':Int->Value:=fun k=>if k=(m:Int)then .slice p' ((g (m:Int)).length+1) c' else gv k
 have eg:gAd g (m:Int) hh=fun k=>if k=(m:Int)then g (m:Int)++[hh] else g k:=by unfold gAd;rw[if_pos h0]
 have gm:gAd g (m:Int) hh (m:Int)=g (m:Int)++[hh]:=by rw[eg];exact if_pos rfl
 have gn:∀k,k ≠ (m:Int)->gAd g (m:Int) hh k=g k:=fun k hk=>by rw[eg];exact if_neg hk
 refine⟨w2,F2,gv',r2,fun k hk=>?_,re h2 ?_,s1.trans s2⟩
 ·by_cases q:k=(m:Int)
  ·subst q;rw[gm] at hk;simp at hk
  ·rw[gn k q] at hk;show(if k=(m:Int)then _ else gv k)=_;rw[if_neg q];exact ok k hk
 ·unfold gvT;have em:upd (gvM gv g) (m:Int) (some (.slice p' ((g (m:Int)).length+1) c'))=gvM gv' (gAd g (m:Int) hh):=funext fun k=>by
   unfold upd gvM;by_cases q:k=(m:Int)
   ·subst q;rw[if_pos rfl,gm,if_neg (by simp)];show _=some (if (m:Int)=(m:Int)then _ else gv (m:Int));rw[if_pos rfl]
   ·rw[if_neg q,gn k q];show _=if g k=[] then none else some (if k=(m:Int)then _ else gv k)
    rw[if_neg q]
  have ef:gvF gv' (gAd g (m:Int) hh)=Thing.upd (gvF gv g) i (rwT 33 1 u64F (.slice p' ((g (m:Int)).length+1) c') (g (m:Int)++[hh])):=funext fun j=>by
   unfold gvF Thing.upd;by_cases q:j=i
   ·subst q;rw[if_pos rfl];show rwT _ 1 u64F (if (m:Int)=(m:Int)then _ else gv (m:Int)) (gAd g (m:Int) hh (m:Int))=_;rw[if_pos rfl,gm]
   ·have q':(j.val:Int) ≠ (m:Int):=fun z=>q (Fin.ext (by show j.val=m;omega));rw[if_neg q,gn _ q'];show rwT _ 1 u64F (if (j.val:Int)=(m:Int)then _ else gv (j.val:Int)) _=_;rw[if_neg q']
  rw[em,ef,Q12 (gvF gv g) i (rwT 33 1 u64F (.slice p' ((g (m:Int)).length+1) c') (g (m:Int)++[hh]))];ac_rfl
end
end
section
open Go.RowKit Go.Maps Thing
abbrev saT(v:Value)(l:List An):Thing:=rwT 40 6 anL v l
theorem elemAn:ElemOk prog 26 40 6 56:=.of (z:=.agg #[.int .i64 0,.int .u64 0,.int .i64 0,.int .i64 0,.string (ByteArray.mk #[]),.int .i64 0]) (by kernel_rfl) (by kernel_rfl) rfl
theorem QdC(x:An):(anL x).length=6:=rfl
theorem QdD(x:An)(u:Value)(h:u ∈ anL x):u.oneCell'=true:=by
 simp only[anL,List.mem_cons,List.not_mem_nil,or_false] at h;rcases h with rfl | rfl | rfl | rfl | rfl | rfl <;> rfl
section
variable{w:World}{F:Nat->Prop}{X C Y:Thing}
theorem Qcx{n38 n69 n15 n18:Nat}{p13 p16:Option Addr}{lo:List Op}{ls:List An}{o:Op}{a:An}{K:Option Addr->Nat->Nat->Option Addr->Nat->Nat->World->Prop}
  (h:(bA n69 a*(blk n38 (opB o)*(dnT (.slice p13 lo.length n15) lo*(saT (.slice p16 ls.length n18) ls*Y)))).P w F) (hl:lo.length+1<=1000000) (hs:ls.length+1<=1000000)
  (k:∀p c p' c' w' F',(dnT (.slice p (lo.length+1) c) (lo++[o])*(saT (.slice p' (ls.length+1) c') (ls++[a])*Y)).P w' F'->Step F w F' w'->K p (lo.length+1) c p' (ls.length+1) c' w') :
  ∀(w97:World),w97=w.drew->∃(i98 i99 i100 i101 i102:Int)(s103:ByteArray),CellsAt w97 (zA n38) [.int .i64 i98,.int .i64 i99,.int .i64 i100,.int .i64 i101,.int .u64 i102,.string s103] /\ ∃(i104 i105 i106 i107:Int)(s108:ByteArray)(i109:Int),CellsAt w97 (zA n69) [.int .i64 i104,.int .u64 i105,.int .i64 i106,.int .i64 i107,.string s108,.int .i64 i109] /\ (∀(n110:Nat)(w111:World),n110=w97.heap.size->w111=w97.alloc (Obj.cells #[(.int .i64 i98:Value),.int .i64 i99,.int .i64 i100,.int .i64 i101,.int .u64 i102,.string s103] 35)->(∃(i112 i113 i114 i115:Int)(s116:ByteArray)(i117:Int),CellsAt w111 (zA n69) [.int .i64 i112,.int .u64 i113,.int .i64 i114,.int .i64 i115,.string s116,.int .i64 i117] /\ Value.agg #[.int .i64 i112,.int .u64 i113,.int .i64 i114,.int .i64 i115,.string s116,.int .i64 i117]=.agg #[.int .i64 i104,.int .u64 i105,.int .i64 i106,.int .i64 i107,.string s108,.int .i64 i109]) /\ (∃(p118:Option Addr)(n119 n120:Nat)(w121:World),Sem.run prog (Builtin.append_ #[25,25] 25 #[.slice p13 lo.length n15,.slice (some (zA n110)) (1:Nat) (1:Nat)]) w111=Result.ok (.slice p118 n119 n120) w121 /\ (∃(i122 i123 i124 i125:Int)(s126:ByteArray)(i127:Int),CellsAt w121 (zA n69) [.int .i64 i122,.int .u64 i123,.int .i64 i124,.int .i64 i125,.string s126,.int .i64 i127] /\ Value.agg #[.int .i64 i122,.int .u64 i123,.int .i64 i124,.int .i64 i125,.string s126,.int .i64 i127]=.agg #[.int .i64 i104,.int .u64 i105,.int .i64 i106,.int .i64 i107,.string s108,.int .i64 i109]) /\ ∀(n128:Nat)(w129:World),n128=w121.heap.size->w129=w121.alloc (Obj.cells #[.int .i64 i104,.int .u64 i105,.int .i64 i106,.int .i64 i107,.string s108,.int .i64 i109] 40)->(∃(i130 i131 i132 i133 i134:Int)(s135:ByteArray),CellsAt w129 (zA n38) [.int .i64 i130,.int .i64 i131,.int .i64 i132,.int .i64 i133,.int .u64 i134,.string s135] /\ Value.agg #[.int .i64 i130,.int .i64 i131,.int .i64 i132,.int .i64 i133,.int .u64 i134,.string s135]=.agg #[(.int .i64 i98:Value),.int .i64 i99,.int .i64 i100,.int .i64 i101,.int .u64 i102,.string s103]) /\ ∃(p136:Option Addr)(n137 n138:Nat)(w139:World),Sem.run prog (Builtin.append_ #[26,26] 26 #[.slice p16 ls.length n18,.slice (some (zA n128)) (1:Nat) (1:Nat)]) w129=Result.ok (.slice p136 n137 n138) w139 /\ K p118 n119 n120 p136 n137 n138 w139) /\ ∀(n141:Nat)(w142:World),n141=w111.heap.size->w142=w111.alloc (Obj.cells #[.int .i64 i104,.int .u64 i105,.int .i64 i106,.int .i64 i107,.string s108,.int .i64 i109] 40)->(∃(i143 i144 i145 i146 i147:Int)(s148:ByteArray),CellsAt w142 (zA n38) [.int .i64 i143,.int .i64 i144,.int .i64 i145,.int .i64 i146,.int .u64 i147,.string s148] /\ Value.agg #[.int .i64 i143,.int .i64 i144,.int .i64 i145,.int .i64 i146,.int .u64 i147,.string s148]=.agg #[(.int .i64 i98:Value),.int .i64 i99,.int .i64 i100,.int .i64 i101,.int .u64 i102,.string s103]) /\ ∃(p149:Option Addr)(n150 n151:Nat)(w152:World),Sem.run prog (Builtin.append_ #[25,25] 25 #[.slice p13 lo.length n15,.slice (some (zA n110)) (1:Nat) (1:Nat)]) w142=Result.ok (.slice p149 n150 n151) w152 /\ (∃(i153 i154 i155 i156:Int)(s157:ByteArray)(i158:Int),CellsAt w152 (zA n69) [.int .i64 i153,.int .u64 i154,.int .i64 i155,.int .i64 i156,.string s157,.int .i64 i158] /\ Value.agg #[.int .i64 i153,.int .u64 i154,.int .i64 i155,.int .i64 i156,.string s157,.int .i64 i158]=.agg #[.int .i64 i104,.int .u64 i105,.int .i64 i106,.int .i64 i107,.string s108,.int .i64 i109]) /\ ∃(p159:Option Addr)(n160 n161:Nat)(w162:World),Sem.run prog (Builtin.append_ #[26,26] 26 #[.slice p16 ls.length n18,.slice (some (zA n141)) (1:Nat) (1:Nat)]) w152=Result.ok (.slice p159 n160 n161) w162 /\ K p149 n150 n151 p159 n160 n161 w162) /\ ∀(n164:Nat)(w165:World),n164=w97.heap.size->w165=w97.alloc (Obj.cells #[.int .i64 i104,.int .u64 i105,.int .i64 i106,.int .i64 i107,.string s108,.int .i64 i109] 40)->(∃(i166 i167 i168 i169 i170:Int)(s171:ByteArray),CellsAt w165 (zA n38) [.int .i64 i166,.int .i64 i167,.int .i64 i168,.int .i64 i169,.int .u64 i170,.string s171] /\ Value.agg #[.int .i64 i166,.int .i64 i167,.int .i64 i168,.int .i64 i169,.int .u64 i170,.string s171]=.agg #[(.int .i64 i98:Value),.int .i64 i99,.int .i64 i100,.int .i64 i101,.int .u64 i102,.string s103]) /\ ∀(n172:Nat)(w173:World),n172=w165.heap.size->w173=w165.alloc (Obj.cells #[(.int .i64 i98:Value),.int .i64 i99,.int .i64 i100,.int .i64 i101,.int .u64 i102,.string s103] 35)->(∃(i174 i175 i176 i177:Int)(s178:ByteArray)(i179:Int),CellsAt w173 (zA n69) [.int .i64 i174,.int .u64 i175,.int .i64 i176,.int .i64 i177,.string s178,.int .i64 i179] /\ Value.agg #[.int .i64 i174,.int .u64 i175,.int .i64 i176,.int .i64 i177,.string s178,.int .i64 i179]=.agg #[.int .i64 i104,.int .u64 i105,.int .i64 i106,.int .i64 i107,.string s108,.int .i64 i109]) /\ ∃(p180:Option Addr)(n181 n182:Nat)(w183:World),Sem.run prog (Builtin.append_ #[25,25] 25 #[.slice p13 lo.length n15,.slice (some (zA n172)) (1:Nat) (1:Nat)]) w173=Result.ok (.slice p180 n181 n182) w183 /\ (∃(i184 i185 i186 i187:Int)(s188:ByteArray)(i189:Int),CellsAt w183 (zA n69) [.int .i64 i184,.int .u64 i185,.int .i64 i186,.int .i64 i187,.string s188,.int .i64 i189] /\ Value.agg #[.int .i64 i184,.int .u64 i185,.int .i64 i186,.int .i64 i187,.string s188,.int .i64 i189]=.agg #[.int .i64 i104,.int .u64 i105,.int .i64 i106,.int .i64 i107,.string s108,.int .i64 i109]) /\ ∃(p190:Option Addr)(n191 n192:Nat)(w193:World),Sem.run prog (Builtin.append_ #[26,26] 26 #[.slice p16 ls.length n18,.slice (some (zA n164)) (1:Nat) (1:Nat)]) w183=Result.ok (.slice p190 n191 n192) w193 /\ K p180 n181 n182 p190 n191 n192 w193:=by
 refine fun w1 e1=>?_;subst e1;have h1:=Thing.grow h (Ext.drew w);have s1:Step F w F w.drew:=Step.ext (Ext.drew w);generalize w.drew=w1 at h1 s1 ⊢;have rd:∀ {w':World} {F':Nat->Prop} {Z:Thing},(bA n69 a*(blk n38 (opB o)*Z)).P w' F'->CellsAt w' (zA n69) (anL a) /\ CellsAt w' (zA n38) (opL o):=fun {w' F' Z} p=>⟨Q08 (vs:=anL a) (Q0b p rfl),Q08 (vs:=opL o) (Q0b (C:=bA n69 a*Z) p (sw4 _ _ _))⟩;have po:∀ {w':World} {F':Nat->Prop} {Z:Thing} {b:Nat},(blk b (opB o)*(bA n69 a*(blk n38 (opB o)*(dnT (.slice p13 lo.length n15) lo*Z)))).P w' F'->∃p c w2 F2,(Builtin.append_ #[25,25] 25 #[.slice p13 lo.length n15,.slice (some ⟨b,0,none⟩) 1 1]).run prog w'=.ok (.slice p (lo.length+1) c) w2 /\
   (bA n69 a*(blk n38 (opB o)*(dnT (.slice p (lo.length+1) c) (lo++[o])*Z))).P w2 F2 /\ Step F' w' F2 w2:=fun {w' F' Z b} p=>by
  obtain⟨p',c',w2,F2,hrun,h2,s2⟩:=Q1V elemOp Q9R Q9S (v:=.slice p13 lo.length n15) (l:=lo) (a:=⟨b,0,none⟩) (c:=1) (x:=o) (Y:=blk b (opB o)*(bA n69 a*(blk n38 (opB o)*Z))) (re p (by show _=dnT (.slice p13 lo.length n15) lo*_;ac_rfl)) (Q08 (vs:=opL o) (Q0b p rfl)) hl (by omega);obtain⟨F3,h3,sub⟩:=Q07 (A:=blk b (opB o)) (B:=bA n69 a*(blk n38 (opB o)*(dnT (.slice p' (lo.length+1) c') (lo++[o])*Z))) (re h2 (by show dnT (.slice p' (lo.length+1) c') (lo++[o])*_=_;ac_rfl));exact⟨p',c',w2,F3,hrun,h3,s2.sub sub⟩
 have ps:∀ {w':World} {F':Nat->Prop} {Z:Thing} {b:Nat},(bA b a*(bA n69 a*(blk n38 (opB o)*(saT (.slice p16 ls.length n18) ls*Z)))).P w' F'->∃p c w2 F2,(Builtin.append_ #[26,26] 26 #[.slice p16 ls.length n18,.slice (some ⟨b,0,none⟩) 1 1]).run prog w'=.ok (.slice p (ls.length+1) c) w2 /\
   (bA n69 a*(blk n38 (opB o)*(saT (.slice p (ls.length+1) c) (ls++[a])*Z))).P w2 F2 /\ Step F' w' F2 w2:=fun {w' F' Z b} p=>by
  obtain⟨p',c',w2,F2,hrun,h2,s2⟩:=Q1V elemAn QdC QdD (v:=.slice p16 ls.length n18) (l:=ls) (a:=⟨b,0,none⟩) (c:=1) (x:=a) (Y:=bA b a*(bA n69 a*(blk n38 (opB o)*Z))) (re p (by show _=saT (.slice p16 ls.length n18) ls*_;ac_rfl)) (Q08 (vs:=anL a) (Q0b p rfl)) hs (by omega);obtain⟨F3,h3,sub⟩:=Q07 (A:=bA b a) (B:=bA n69 a*(blk n38 (opB o)*(saT (.slice p' (ls.length+1) c') (ls++[a])*Z))) (re h2 (by show saT (.slice p' (ls.length+1) c') (ls++[a])*_=_;ac_rfl));exact⟨p',c',w2,F3,hrun,h3,s2.sub sub⟩
 have fin:∀ {p c p' c' w' F'},(bA n69 a*(blk n38 (opB o)*(dnT (.slice p (lo.length+1) c) (lo++[o])*(saT (.slice p' (ls.length+1) c') (ls++[a])*Y)))).P w' F'->Step F w F' w'->K p (lo.length+1) c p' (ls.length+1) c' w':=fun {p c p' c' w' F'} q st=>by
  obtain⟨F2,h2,sub⟩:=Q07 q;obtain⟨F3,h3,sub3⟩:=Q07 h2;exact k p c p' c' w' F3 h3 ((st.sub sub).sub sub3)
 obtain⟨ra,ro⟩:=rd h1;refine⟨_,_,_,_,_,_,ro,_,_,_,_,_,_,ra,?_,?_⟩
 ·refine Q0m h1 fun b2 w2 F2 h2 s2 _=>?_;have h2:(blk b2 (opB o)*(bA n69 a*(blk n38 (opB o)*(dnT (.slice p13 lo.length n15) lo*(saT (.slice p16 ls.length n18) ls*Y))))).P w2 F2:=h2;have r2:=rd (Z:=blk b2 (opB o)*(dnT (.slice p13 lo.length n15) lo*(saT (.slice p16 ls.length n18) ls*Y))) (re h2 (by ac_rfl));refine⟨⟨_,_,_,_,_,_,r2.1,rfl⟩,?_,?_⟩
  ·obtain⟨p,c,w3,F3,hrun,h3,s3⟩:=po h2;refine⟨p,_,c,w3,hrun,⟨_,_,_,_,_,_,(rd h3).1,rfl⟩,Q0m h3 fun b4 w4 F4 h4 s4 _=>?_⟩;have h4:(bA b4 a*(bA n69 a*(blk n38 (opB o)*(dnT (.slice p (lo.length+1) c) (lo++[o])*(saT (.slice p16 ls.length n18) ls*Y))))).P w4 F4:=h4;refine⟨⟨_,_,_,_,_,_,(rd (Z:=bA b4 a*(dnT (.slice p (lo.length+1) c) (lo++[o])*(saT (.slice p16 ls.length n18) ls*Y))) (re h4 (by ac_rfl))).2,rfl⟩,?_⟩;obtain⟨p',c',w5,F5,hrun5,h5,s5⟩:=ps (Z:=dnT (.slice p (lo.length+1) c) (lo++[o])*Y) (re h4 (by ac_rfl));exact⟨p',_,c',w5,hrun5,fin (re h5 (by ac_rfl)) (((((s1.trans s2).trans s3).trans s4).trans s5))⟩
  ·refine Q0m h2 fun b3 w3 F3 h3 s3 _=>?_;have h3:(bA b3 a*(blk b2 (opB o)*(bA n69 a*(blk n38 (opB o)*(dnT (.slice p13 lo.length n15) lo*(saT (.slice p16 ls.length n18) ls*Y)))))).P w3 F3:=h3;refine⟨⟨_,_,_,_,_,_,(rd (Z:=bA b3 a*(blk b2 (opB o)*(dnT (.slice p13 lo.length n15) lo*(saT (.slice p16 ls.length n18) ls*Y)))) (re h3 (by ac_rfl))).2,rfl⟩,?_⟩;obtain⟨p,c,w4,F4,hrun,h4,s4⟩:=po (Z:=bA b3 a*(saT (.slice p16 ls.length n18) ls*Y)) (re h3 (by ac_rfl));refine⟨p,_,c,w4,hrun,⟨_,_,_,_,_,_,(rd h4).1,rfl⟩,?_⟩;obtain⟨p',c',w5,F5,hrun5,h5,s5⟩:=ps (b:=b3) (Z:=dnT (.slice p (lo.length+1) c) (lo++[o])*Y) (re h4 (by ac_rfl));exact⟨p',_,c',w5,hrun5,fin (re h5 (by ac_rfl)) (((((s1.trans s2).trans s3).trans s4).trans s5))⟩
 ·refine Q0m h1 fun b2 w2 F2 h2 s2 _=>?_;have h2:(bA b2 a*(bA n69 a*(blk n38 (opB o)*(dnT (.slice p13 lo.length n15) lo*(saT (.slice p16 ls.length n18) ls*Y))))).P w2 F2:=h2;refine⟨⟨_,_,_,_,_,_,(rd (Z:=bA b2 a*(dnT (.slice p13 lo.length n15) lo*(saT (.slice p16 ls.length n18) ls*Y))) (re h2 (by ac_rfl))).2,rfl⟩,Q0m h2 fun b3 w3 F3 h3 s3 _=>?_⟩;have h3:(blk b3 (opB o)*(bA b2 a*(bA n69 a*(blk n38 (opB o)*(dnT (.slice p13 lo.length n15) lo*(saT (.slice p16 ls.length n18) ls*Y)))))).P w3 F3:=h3;refine⟨⟨_,_,_,_,_,_,(rd (Z:=blk b3 (opB o)*(bA b2 a*(dnT (.slice p13 lo.length n15) lo*(saT (.slice p16 ls.length n18) ls*Y)))) (re h3 (by ac_rfl))).1,rfl⟩,?_⟩;obtain⟨p,c,w4,F4,hrun,h4,s4⟩:=po (b:=b3) (Z:=bA b2 a*(saT (.slice p16 ls.length n18) ls*Y)) (re h3 (by ac_rfl));refine⟨p,_,c,w4,hrun,⟨_,_,_,_,_,_,(rd h4).1,rfl⟩,?_⟩;obtain⟨p',c',w5,F5,hrun5,h5,s5⟩:=ps (b:=b2) (Z:=dnT (.slice p (lo.length+1) c) (lo++[o])*Y) (re h4 (by ac_rfl));exact⟨p',_,c',w5,hrun5,fin (re h5 (by ac_rfl)) (((((s1.trans s2).trans s3).trans s4).trans s5))⟩
end
end
set_option maxRecDepth 20000
section
open Go.RowKit Go.Maps Thing
section
variable{s:Sv}{w:World}{F:Nat->Prop}{X C Y:Thing}{R:VW}
theorem Q8X{b:Nat}{x:Stp}(h:w.heap[b]? = some (skO x)):CellsAt w ((zA b).add 0) (opL x.o):=by
 intro i u hu;rw[Q02,Q02]
 match i,hu with
 | 0,hu=>cases hu;exact Q01 h rfl
 | 1,hu=>cases hu;exact Q01 h rfl
 | 2,hu=>cases hu;exact Q01 h rfl
 | 3,hu=>cases hu;exact Q01 h rfl
 | 4,hu=>cases hu;exact Q01 h rfl
 | 5,hu=>cases hu;exact Q01 h rfl
 | n+6,hu=>cases hu
theorem Q7Y{p:Option Addr}{n c i:Nat}{l:List Int}{x:Int}(h:ORow w 33 1 u64F (.slice p n c) l)(hi:l[i]? = some x):∃a,p=some a /\ w.cell? (a.add i)=some (.int .u64 x):=by
 obtain⟨a,ha,hc⟩:=ORow.cells Q4Z h hi;refine⟨a,ha,?_⟩;have:=hc 0 (.int .u64 x) rfl;rw[Addr.add_add,Nat.mul_one,Nat.add_zero] at this;exact this
def hndK(p8:Option Nat)(n29 n38:Nat)(x41:World->Prop)(w40:World):Prop:=
 ∃i42:Int,w40.cell? ((zA n29).add (6:Nat))=some (.int .i64 i42) /\ ifB (decide (i42>(0:Int))) (∃i43:Int,w40.cell? ((zA n38).add (1:Nat))=some (.int .i64 i43) /\ ∃(p44:Option Addr)(n45 n46:Nat)(w47:World),Sem.run prog (Instr.lookup 105 (.map p8) (.int .i64 i43) false) w40=Result.ok (.slice p44 n45 n46) w47 /\
  WrC w47 ((zA n38).add (4:Nat)) [Value.int .u64 (0:Int)].length /\ ∀(w48:World),w48=wr w47 ((zA n38).add (4:Nat)) [.int .u64 (0:Int)]->∃i49:Int,w48.cell? ((zA n29).add (6:Nat))=some (.int .i64 i49) /\ ifB (decide (i49<=(↑n45:Int))) (∃i50:Int,w48.cell? ((zA n29).add (6:Nat))=some (.int .i64 i50) /\
  (0:Int)<=IntKind.i64.wrap ((↑n45:Int)-i50) /\ IntKind.i64.wrap ((↑n45:Int)-i50)<(↑n45:Int) /\ someA p44 fun a51=>∃i52:Int,w48.cell? (a51.add (IntKind.i64.wrap ((↑n45:Int)-i50)).toNat)=some (.int .u64 i52) /\ WrC w48 ((zA n38).add (4:Nat)) [Value.int .u64 i52].length /\
  ∀(w53:World),w53=wr w48 ((zA n38).add (4:Nat)) [.int .u64 i52]->x41 w53) (x41 w48)) (x41 w40)
theorem Qd5{n:Nat}{o:Op}{h':Int}{K:World->Prop}(h:X.P w F)(e:X=blk n (opB o)*C)(k:∀w1 F',(blk n (opB {o with H:=h'})*C).P w1 F'->Step F w F' w1->K w1) :
  WrC w ((zA n).add 4) 1 /\ ∀w1,w1=wr w ((zA n).add 4) [.int .u64 h']->K w1:=by
 rw[Q02];exact Q0K (b:=n) (o:=0+4) (C:=C) h e (by simp) fun w1 F1 h1 s1=>k w1 F1 h1 s1
theorem QfK{mp n29 n38 k:Nat}{gv:Int->Value}{g:Int->List Int}{st:Stp}{x41:World->Prop}(ok:GvOk gv g)(hg:GOk g k)(hk:k<=100000)(hst:StpOk st)
  (h:(blk n38 (opB st.o)*(skT n29 st*(gvT mp gv g*Y))).P w F) (r:∀w' F',(blk n38 (opB (hOf g st))*(skT n29 st*(gvT mp gv g*Y))).P w' F'->Step F w F' w'->x41 w'):hndK (some mp) n29 n38 x41 w:=by
 unfold hndK;have rB:∀ {w':World} {F':Nat->Prop} {o:Op},(blk n38 (opB o)*(skT n29 st*(gvT mp gv g*Y))).P w' F'->w'.cell? ((zA n29).add 6)=some (.int .i64 st.B):=fun {w' F' o} p=>by
  rw[Q02];exact Q01 (Q0b (b:=n29) (o:=skO st) (C:=blk n38 (opB o)*(gvT mp gv g*Y)) p (sw4 _ _ _)) rfl
 unfold hOf at r;refine⟨_,rB h,Q05 (fun q=>?_) (fun q=>?_)⟩
 case refine_2=>
  have q:=of_decide_eq_false q;rw[if_neg q] at r;exact r w F h (Step.refl _ _)
 have q:=zzodt q;rw[if_pos q] at r;have hb:=Q0b h rfl;have eg:blk n38 (opB st.o)*(skT n29 st*(gvT mp gv g*Y))=gvT mp gv g*(blk n38 (opB st.o)*(skT n29 st*Y)):=by ac_rfl
 obtain⟨p,c,hsh⟩:=Q7b ok hg h eg st.o.T;refine⟨_,by rw[Q02];exact Q01 hb rfl,p,_,c,w,(Q6l ok h eg hst.t).trans (by rw[hsh]),Qd5 (h':=0) h rfl fun w2 F2 h2 s2=>?_⟩;have hl:=hg.len st.o.T;refine⟨_,rB h2,Q05 (fun q2=>?_) (fun q2=>?_)⟩
 ·have q2:=zzodt q2;rw[if_pos q2] at r;have hT:0<=st.o.T /\ st.o.T<8:=Classical.byContradiction fun z=>by
   have:=hg.out st.o.T z;rw[this] at q2;have q2:st.B<=0:=q2;omega
  have e1:(((⟨st.o.T.toNat,by omega⟩:Fin 8).val:Nat):Int)=st.o.T:=by show((st.o.T.toNat:Nat):Int)=_;omega
  have hrow:=QfI (mp:=mp) (gv:=gv) (g:=g) (C:=blk n38 (opB {st.o with H:=0})*(skT n29 st*Y)) (⟨st.o.T.toNat,by omega⟩:Fin 8) h2 (by ac_rfl);rw[e1,hsh] at hrow;obtain⟨m,hm⟩:=zzeoz (show 0<=st.B by omega);rw[hm] at q q2;have ew:IntKind.i64.wrap (((g st.o.T).length:Int)-(m:Int))=(((g st.o.T).length-m:Nat):Int):=by rw[Q04 (by omega) (by omega)];omega
  have hi:(g st.o.T).length-m<(g st.o.T).length:=by omega
  obtain⟨a,rfl,ha⟩:=Q7Y hrow (i:=(g st.o.T).length-m) (x:=(g st.o.T).getD ((g st.o.T).length-m) 0) (by rw[List.getD_eq_getElem?_getD,zzgge hi];rfl);rw[hm,zztnc] at r;refine⟨(m:Int),(rB h2).trans (by rw[hm]),by rw[ew];omega,by rw[ew];omega,?_⟩;rw[ew,zztnc];exact⟨_,ha,Qd5 (h':=(g st.o.T).getD ((g st.o.T).length-m) 0) h2 rfl fun w3 F3 h3 s3=>r w3 F3 h3 (s2.trans s3)⟩
 ·have q2:=of_decide_eq_false q2;rw[if_neg q2] at r;exact r w2 F2 h2 s2
def givK(p8:Option Nat)(n38 n69:Nat)(x72:World->Prop)(w71:World):Prop:=
 ∃i73:Int,w71.cell? ((zA n69).add (1:Nat))=some (.int .u64 i73) /\ ifB (i73 != (0:Int)) (∀(w74:World),w74=w71.drew->∃i75:Int,w74.cell? ((zA n38).add (1:Nat))=some (.int .i64 i75) /\ ∃i76:Int,w74.cell? ((zA n38).add (1:Nat))=some (.int .i64 i76) /\ ∃(p77:Option Addr)(n78 n79:Nat)(w80:World),Sem.run prog (Instr.lookup 105 (.map p8) (.int .i64 i76) false) w74=Result.ok (.slice p77 n78 n79) w80 /\ w80=w74 /\
  ∃i81:Int,w74.cell? ((zA n69).add (1:Nat))=some (.int .u64 i81) /\ ∀(n82:Nat)(w83:World),n82=w74.heap.size->w83=w74.alloc (Obj.cells #[.int .u64 i81] 33)->(∃(p84:Option Addr)(n85 n86:Nat)(w87:World),Sem.run prog (Instr.lookup 105 (.map p8) (.int .i64 i76) false) w83=Result.ok (.slice p84 n85 n86) w87 /\ w87=w83 /\ Value.slice p84 n85 n86=.slice p77 n78 n79) /\
  (∃i88:Int,w83.cell? ((zA n38).add (1:Nat))=some (.int .i64 i88) /\ Value.int .i64 i88=.int .i64 i76) /\ (∃i89:Int,w83.cell? ((zA n38).add (1:Nat))=some (.int .i64 i89) /\ Value.int .i64 i89=.int .i64 i75) /\ ∃(p90:Option Addr)(n91 n92:Nat)(w93:World),Sem.run prog (Builtin.append_ #[55,55] 55 #[.slice p77 n78 n79,.slice (some (zA n82)) (1:Nat) (1:Nat)]) w83=Result.ok (.slice p90 n91 n92) w93 /\
  (∃i94:Int,w93.cell? ((zA n38).add (1:Nat))=some (.int .i64 i94) /\ Value.int .i64 i94=.int .i64 i75) /\ ∃w95:World,Sem.run prog (Instr.mapUpdate 105 (.map p8) (.int .i64 i75) (.slice p90 n91 n92)) w93=Result.ok () w95 /\ x72 w95) (x72 w71)
theorem QfF{mp n38 n69 k:Nat}{gv:Int->Value}{g:Int->List Int}{o:Op}{a:An}{x72:World->Prop}(ok:GvOk gv g)(hg:GOk g k)(hk:k<=100000)(hT:a.Hd ≠ 0->0<=o.T /\ o.T<8)
  (h:(bA n69 a*(blk n38 (opB o)*(gvT mp gv g*Y))).P w F) (r:∀gv' w' F',GvOk gv' (gAd g o.T a.Hd)->(bA n69 a*(blk n38 (opB o)*(gvT mp gv' (gAd g o.T a.Hd)*Y))).P w' F'->Step F w F' w'->x72 w'):givK (some mp) n38 n69 x72 w:=by
 unfold givK;have rT:∀ {w':World} {F':Nat->Prop} {Z:Thing},(bA n69 a*(blk n38 (opB o)*Z)).P w' F'->w'.cell? ((zA n38).add 1)=some (.int .i64 o.T):=fun {w' F' Z} p=>by
  rw[Q02];exact Q01 (Q0b (b:=n38) (o:=opB o) (C:=bA n69 a*Z) p (sw4 _ _ _)) rfl
 have rH:∀ {w':World} {F':Nat->Prop} {Z:Thing},(bA n69 a*Z).P w' F'->w'.cell? ((zA n69).add 1)=some (.int .u64 a.Hd):=fun {w' F' Z} p=>by
  rw[Q02];exact Q01 (Q0b p rfl) rfl
 refine⟨_,rH h,Q05 (fun q=>?_) (fun q=>?_)⟩
 case refine_2=>
  have q:a.Hd=0:=by simpa using q
  have eg:gAd g o.T a.Hd=g:=by unfold gAd;rw[if_neg (not_not_intro q)]
  rw[eg] at r;exact r gv w F ok h (Step.refl _ _)
 have q:a.Hd ≠ 0:=by simpa using q
 have ht:=hT q;refine fun w1 e1=>?_;subst e1;have hE1:=Ext.drew w;have h1:=Thing.grow h hE1;have s1:Step F w F w.drew:=Step.ext hE1;generalize w.drew=w1 at h1 s1 ⊢;have eg:bA n69 a*(blk n38 (opB o)*(gvT mp gv g*Y))=gvT mp gv g*(bA n69 a*(blk n38 (opB o)*Y)):=by ac_rfl
 obtain⟨p,c,hsh⟩:=Q7b ok hg h1 eg o.T;have hT64:I64w o.T:=i64w (by omega) (by omega);refine⟨_,rT h1,_,rT h1,p,_,c,w1,(Q6l ok h1 eg hT64).trans (by rw[hsh]),rfl,_,rH h1,Q0m h1 fun b w2 F2 h2 s2 _=>?_⟩;have eg2:∀ {Z:Thing},Z*(bA n69 a*(blk n38 (opB o)*(gvT mp gv g*Y)))=gvT mp gv g*(Z*(bA n69 a*(blk n38 (opB o)*Y))):=by intro Z;ac_rfl
 have ew:∀ {Z:Thing},Z*(bA n69 a*(blk n38 (opB o)*(gvT mp gv g*Y)))=bA n69 a*(blk n38 (opB o)*(Z*(gvT mp gv g*Y))):=by intro Z;ac_rfl
 refine⟨⟨p,_,c,w2,(Q6l ok h2 eg2 hT64).trans (by rw[hsh]),rfl,rfl⟩,⟨_,rT (re h2 ew),rfl⟩,⟨_,rT (re h2 ew),rfl⟩,?_⟩;obtain⟨p',c',w3,F3,Z3,hrun,h3,s3,w4,F4,gv',r4,ok4,h4,s4⟩:=QdZ ok hg hk h2 eg2 ht (a:=⟨b,0,none⟩) (hh:=a.Hd) (Q01 (Q0b h2 rfl) rfl) q;rw[hsh] at hrun;refine⟨p',_,c',w3,hrun,⟨_,rT (Z:=Z3*(blk b (.cells #[.int .u64 a.Hd] 33 (0,0))*Y)) (re h3 (by ac_rfl)),rfl⟩,w4,r4,?_⟩;obtain⟨F5,h5,sub⟩:=Q07 (A:=blk b (.cells #[.int .u64 a.Hd] 33 (0,0))) (B:=bA n69 a*(blk n38 (opB o)*(gvT mp gv' (gAd g o.T a.Hd)*Y))) (re h4 (by ac_rfl));exact r gv' w4 F5 ok4 h5 (((s1.trans s2).trans s4).sub sub)
end
end
set_option maxRecDepth 20000
section
open Go.RowKit Go.Maps Thing
section
variable{s:Sv}{w:World}{F:Nat->Prop}{X C Y:Thing}{R:VW}
theorem Qai{L:List Stp}{j:Nat}{st:Stp}(h:L[j]? = some st):runL s (L.take (j+1))=runS s (runL s (L.take j)) st:=by
 rw[List.take_add_one,h];exact Qah _ _
theorem Qg5{X:Type}{e:TypeId}{k:Nat}{f:X->List Value}:rwT e k f (.slice none 0 0) []=emp:=by
 ext w F;constructor
 ·rintro⟨_,rfl⟩;show _=_;funext j;simp[Value.ownBlock]
 ·intro hF;have hF:F=fun _=>False:=hF;subst hF;exact⟨ORow.nil _ _,funext fun j=>by simp[Value.ownBlock]⟩
theorem Qg9{o:Obj}(h:(tabT o*C).P w F)(P0 C0:Int)(r0:¬Cl.CfgOk P0 C0->∀w',(tabT o*C).P w' F->Ext w w'->R (.tuple #[.pointer none,.int .i64 12]) w')
  (r1:∀s sb y w' F',Cl.CfgOk P0 C0->s.o=o->SvOk s P0 C0->(svX s sb y ⟨A0 s,[],[]⟩*C).P w' F'->Step F w F' w'->R (.tuple #[zP sb,.int .i64 0]) w') :
  CS 10 #[.agg #[.int .i64 P0,.int .i64 C0]] w R:=by
 have h':=h;obtain⟨F1,F2,ht,hc,d,rfl⟩:=h;refine Qg8 ht P0 C0 (fun hno w' hE=>r0 hno w' (Thing.grow h' hE) hE) fun s sb y w' F' hok ho hs p st=>?_;obtain⟨q,st2⟩:=Q0O hc d p st;exact r1 s sb y w' _ hok ho hs q st2
theorem t_run{o:Obj}(P0 C0:Int){p:Option Addr}{c:Nat}{L:List Stp}(hL:L.length<=4000)(hok:∀x ∈ L,StpOk x)(h:(tabT o*(stpsT (.slice p L.length c) L*C)).P w F)
  (r0:¬Cl.CfgOk P0 C0->∀w',(tabT o*(stpsT (.slice p L.length c) L*C)).P w' F->Ext w w'->R (.tuple #[.pointer none,.slice none 0 0,.slice none 0 0,.int .i64 12]) w')
  (r1:∀s sb y po co ps cs w' F',Cl.CfgOk P0 C0->s.o=o->SvOk s P0 C0->(svX s sb y (runL s L).x*(dnT (.slice po (runL s L).ops.length co) (runL s L).ops*(saT (.slice ps (runL s L).said.length cs) (runL s L).said*(stpsT (.slice p L.length c) L*C)))).P w' F'->Step F w F' w' →
   R (.tuple #[zP sb,.slice po (runL s L).ops.length co,.slice ps (runL s L).said.length cs,.int .i64 0]) w') :
  CS 27 #[.agg #[.int .i64 P0,.int .i64 C0],.slice p L.length c] w R:=by
 constructor;refine vc71.ok ?_;unfold vc71;refine Q09 fun n0 w1 hb1 hE1 _ _=>⟨_,_,Q08 (vs:=[.int .i64 P0,.int .i64 C0]) hb1,?_⟩;refine Qg9 (Thing.grow h hE1) P0 C0 (fun hno w2 p2 hE2=>⟨_,_,rfl,Q03 rfl (r0 hno w2 p2 (hE1.trans hE2))⟩) fun s sb y w2 F2 hcfg ho hs h2 st2=>⟨_,_,rfl,Q00 rfl ?_⟩;have s2:Step F w F2 w2:=(Step.ext hE1).trans st2;refine⟨some w2.heap.size,w2.alloc (.map #[] 0),run_makeMap _ w2,?_⟩;obtain⟨h3,s3⟩:=Q4B (K:=3) h2;generalize w2.heap.size=mp at h3 s3 ⊢;generalize w2.alloc (.map #[] 0)=w3 at h3 s3 ⊢
 let D:Thing:=stpsT (.slice p L.length c) L*C
 have inv:∀j,j<=L.length->RnInv s (runL s (L.take j)) j:=fun j hj=>by
  have:=Qaj hs (l:=L.take j) fun x hx=>hok x (List.mem_of_mem_take hx)
  rwa [zzlnt,Nat.min_eq_left hj] at this
 have hfam:fam (gvF (fun _=>.slice none 0 0) (fun _=>[]))=emp:=by
  have e:gvF (fun _=>.slice none 0 0) (fun _=>[])=fun _=>(emp:Thing):=funext fun i=>Qg5;rw[e];exact Q3j
 have hgv:gvT mp (fun _=>.slice none 0 0) (R0 s).g=mpT 3 mp (fun _=>none):=by
  unfold gvT;have:gvM (fun _=>Value.slice none 0 0) (R0 s).g=fun _=>none:=funext fun k=>rfl;rw[this];show _*fam (gvF (fun _=>.slice none 0 0) (fun _=>[]))=_;rw[hfam,Q0c]
 have h4:(svX s sb y (R0 s).x*(gvT mp (fun _=>.slice none 0 0) (R0 s).g*(dnT (.slice none 0 0) []*(saT (.slice none 0 0) []*D)))).P w3 _:=re (Q2d (Q2d h3)) (by
  rw[hgv];show mpT 3 mp (fun _=>none)*(svX s sb y (R0 s).x*D)*saT (.slice none 0 0) []*dnT (.slice none 0 0) []=_;ac_rfl)
 have e0:runL s (L.take 0)=R0 s:=rfl;refine⟨fun f p13 n14 c15 p16 n17 c18 i w'=>∃j:Nat,i=(j:Int) /\ f+j=L.length /\ n14=(runL s (L.take j)).ops.length /\ n17=(runL s (L.take j)).said.length /\ ∃y gv F',GvOk gv (runL s (L.take j)).g /\
  (svX s sb y (runL s (L.take j)).x*(gvT mp gv (runL s (L.take j)).g*(dnT (.slice p13 (runL s (L.take j)).ops.length c15) (runL s (L.take j)).ops*(saT (.slice p16 (runL s (L.take j)).said.length c18) (runL s (L.take j)).said*D)))).P w' F' /\ Step F w F' w',
  ⟨L.length,0,rfl,rfl,rfl,rfl,y,fun _=>.slice none 0 0,_,fun _ _=>rfl,h4,s2.trans s3⟩,?_⟩
 rintro f jv p13 n14 c15 p16 n17 c18 i w4 ⟨j,rfl,hf,rfl,rfl,y,gv,F4,ok,h4,s4⟩;refine Q05 (fun q=>?pos) (fun q=>?neg)
 case neg=>
  have q:=of_decide_eq_false q;have ej:L.take j=L:=List.take_of_length_le (by omega);rw[ej] at h4 ⊢;obtain⟨F5,h5,sub⟩:=Q07 (A:=gvT mp gv (runL s L).g) (B:=svX s sb y (runL s L).x*(dnT (.slice p13 (runL s L).ops.length c15) (runL s L).ops*(saT (.slice p16 (runL s L).said.length c18) (runL s L).said*D))) (re h4 (by ac_rfl));exact r1 s sb y p13 c15 p16 c18 w4 F5 hcfg ho hs h5 (s4.sub sub)
 have q:=zzodt q;have hj:j<L.length:=by omega
 obtain⟨st,hst⟩:∃st,L[j]? = some st:=⟨_,zzgge hj⟩;have hstk:=hok st (zzmog hst);have iv:=inv j (by omega);have hnext:=Qai (s:=s) hst;generalize hn:runL s (L.take j)=n at h4 ok iv hnext;have hrow:=Q8t (e:=62) (k:=7) (f:=spL) (v:=.slice p L.length c) (l:=L) (Y:=svX s sb y n.x*(gvT mp gv n.g*(dnT (.slice p13 n.ops.length c15) n.ops*(saT (.slice p16 n.said.length c18) n.said*C)))) h4 (by show _=stpsT (.slice p L.length c) L*_;show svX s sb y n.x*(gvT mp gv n.g*(dnT _ n.ops*(saT _ n.said*(stpsT (.slice p L.length c) L*C))))=_;ac_rfl);obtain⟨a21,hp,hcells⟩:=ORow.cells Qar hrow hst;refine⟨by omega,by omega,?_⟩;subst hp;rw[zztnc]
 let Z:Thing:=svX s sb y n.x*(dnT (.slice p13 n.ops.length c15) n.ops*(saT (.slice p16 n.said.length c18) n.said*D))
 have eZ:svX s sb y n.x*(gvT mp gv n.g*(dnT (.slice p13 n.ops.length c15) n.ops*(saT (.slice p16 n.said.length c18) n.said*D)))=gvT mp gv n.g*Z:=sw4 _ _ _;rw[eZ] at h4;refine⟨_,_,_,_,_,_,_,hcells,Q0m h4 fun n29 w5 F5 h5 s5 _=>?_⟩;refine Q0K (b:=n29) (o:=0) (arr:=(spL zS).toArray) (T:=62) (C:=gvT mp gv n.g*Z) h5 rfl (by simp) fun w6 F6 h6 s6=>?_;rw[setAt7 _ rfl] at h6;have h6:(skT n29 st*(gvT mp gv n.g*Z)).P w6 F6:=h6;refine⟨_,_,_,_,_,_,Q8X (x:=st) (Q0b h6 rfl),Q0m h6 fun n38 w7 F7 h7 s7 _=>?_⟩;refine Q0K (b:=n38) (o:=0) (arr:=(opL zO).toArray) (T:=35) (C:=skT n29 st*(gvT mp gv n.g*Z)) h7 rfl (by simp) fun w8 F8 h8 s8=>?_;rw[setAt6 _ rfl] at h8;have h8:(blk n38 (opB st.o)*(skT n29 st*(gvT mp gv n.g*Z))).P w8 F8:=h8;have s8':=((((s4.trans s5).trans s6).trans s7).trans s8);refine⟨fun w'=>∃F',(blk n38 (opB (hOf n.g st))*(skT n29 st*(gvT mp gv n.g*Z))).P w' F' /\ Step F w F' w',QfK ok iv.g (by omega) hstk h8 fun w' F' p2 st2=>⟨F',p2,s8'.trans st2⟩,?_⟩;rintro _ w9 ⟨F9,h9,s9⟩;have hoT:=QfJ n.g st;have hou:=Q6m iv.g hstk;have hdu:=Q6Y iv.ad hou;have iv2:=Q35 iv hstk;unfold runS at hnext iv2;generalize hOf n.g st=o1 at h9 hoT hou hdu hnext iv2;refine⟨_,_,_,_,_,_,Q08 (vs:=opL o1) (Q0b h9 rfl),?_⟩
 refine Q5c (o:=o1) (C:=blk n38 (opB o1)*(skT n29 st*(gvT mp gv n.g*(dnT (.slice p13 n.ops.length c15) n.ops*(saT (.slice p16 n.said.length c18) n.said*D))))) iv.ad hou (by have:=iv.dn;omega) h9 (by show blk n38 (opB o1)*(skT n29 st*(gvT mp gv n.g*(svX s sb y n.x*(dnT (.slice p13 n.ops.length c15) n.ops*(saT (.slice p16 n.said.length c18) n.said*D)))))=_;ac_rfl) fun n69 y10 w10 F10 h10 s10=>?_;generalize doM s n.x o1=d at h10 hnext hdu iv2
 let Y2:Thing:=skT n29 st*(svX s sb y10 d.x*(dnT (.slice p13 n.ops.length c15) n.ops*(saT (.slice p16 n.said.length c18) n.said*D)))
 have h10:(bA n69 d.a*(blk n38 (opB o1)*(gvT mp gv n.g*Y2))).P w10 F10:=re h10 (by
  show bA n69 d.a*(svX s sb y10 d.x*(blk n38 (opB o1)*(skT n29 st*(gvT mp gv n.g*(dnT (.slice p13 n.ops.length c15) n.ops*(saT (.slice p16 n.said.length c18) n.said*D))))))=bA n69 d.a*(blk n38 (opB o1)*(gvT mp gv n.g*(skT n29 st*(svX s sb y10 d.x*(dnT (.slice p13 n.ops.length c15) n.ops*(saT (.slice p16 n.said.length c18) n.said*D))))));ac_rfl)
 refine⟨fun w'=>∃gv' F',GvOk gv' (gAd n.g o1.T d.a.Hd) /\ (bA n69 d.a*(blk n38 (opB o1)*(gvT mp gv' (gAd n.g o1.T d.a.Hd)*Y2))).P w' F' /\ Step F w F' w',QfF ok iv.g (by omega) hdu.2 h10 fun gv' w' F' ok' p2 st2=>⟨gv',F',ok',p2,(s9.trans s10).trans st2⟩,?_⟩;rintro _ w11 ⟨gv',F11,ok',h11,s11⟩;have hol:=iv.ol;have hsl:=iv.sl;refine Qcx (lo:=n.ops) (ls:=n.said) (o:=o1) (a:=d.a) (Y:=skT n29 st*(svX s sb y10 d.x*(gvT mp gv' (gAd n.g o1.T d.a.Hd)*D)))
  (K:=fun p118 n119 n120 p136 n137 n138 w139=>∃(n140:Nat),n140<f /\ ∃j':Nat,IntKind.i64.wrap ((j:Int)+1)=(j':Int) /\ n140+j'=L.length /\ n119=(runL s (L.take j')).ops.length /\ n137=(runL s (L.take j')).said.length /\ ∃y gv F',GvOk gv (runL s (L.take j')).g /\
  (svX s sb y (runL s (L.take j')).x*(gvT mp gv (runL s (L.take j')).g*(dnT (.slice p118 (runL s (L.take j')).ops.length n120) (runL s (L.take j')).ops*(saT (.slice p136 (runL s (L.take j')).said.length n138) (runL s (L.take j')).said*D)))).P w139 F' /\ Step F w F' w139)
  (re h11 (by
   show bA n69 d.a*(blk n38 (opB o1)*(gvT mp gv' (gAd n.g o1.T d.a.Hd)*(skT n29 st*(svX s sb y10 d.x*(dnT (.slice p13 n.ops.length c15) n.ops*(saT (.slice p16 n.said.length c18) n.said*D))))))=_;ac_rfl)) (by omega) (by omega) fun p1 c1 p2 c2 w12 F12 h12 s12=>?_
 obtain⟨F13,h13,sub⟩:=Q07 (A:=skT n29 st) (B:=svX s sb y10 d.x*(gvT mp gv' (gAd n.g o1.T d.a.Hd)*(dnT (.slice p1 (n.ops.length+1) c1) (n.ops++[o1])*(saT (.slice p2 (n.said.length+1) c2) (n.said++[d.a])*D)))) (re h12 (by ac_rfl));rw[hoT] at h13 ok';refine⟨f-1,by omega,j+1,by rw[Q04 (by omega) (by omega)];omega,by omega,?_,?_,y10,gv',F13,?_,?_,(s11.trans s12).sub sub⟩
 ·rw[hnext];show n.ops.length+1=(n.ops++[o1]).length;rw[zzlna];rfl
 ·rw[hnext];show n.said.length+1=(n.said++[d.a]).length;rw[zzlna];rfl
 ·rw[hnext];exact ok'
 ·rw[hnext];have e1:(n.ops++[o1]).length=n.ops.length+1:=zzlna ..;have e2:(n.said++[d.a]).length=n.said.length+1:=zzlna ..;show(svX s sb y10 d.x*(gvT mp gv' (gAd n.g st.o.T d.a.Hd)*(dnT (.slice p1 (n.ops++[o1]).length c1) (n.ops++[o1])*(saT (.slice p2 (n.said++[d.a]).length c2) (n.said++[d.a])*D)))).P w12 F13;rw[e1,e2];exact h13
end
end
set_option maxRecDepth 20000
section
open Go.RowKit Go.Maps Thing
theorem Qc0{l:List UInt8}(h:l.length=8):Hd.U64 ((numB l:Nat):Int):=by
 have:=Q6r l;rw[h] at this;have e:(256:Nat) ^ 8=18446744073709551616:=by decide
 unfold Hd.U64;omega
theorem Qgd{t:Tp}{x:Stp}(h:stpN t=some x):StpOk x:=by
 unfold stpN at h;split at h
 ·cases h
 split at h
 ·cases h
 cases h;have z:Hd.U64 0:=by unfold Hd.U64;omega
 have a1:=Q1k t;have a2:=Q1k (bytT t 1);have k2:StpOk (kx2 t):=⟨i64w (by show -9223372036854775808<=oneI (bytT t 1);omega) (by show oneI (bytT t 1)<=_;omega),z,i64w (by show(-9223372036854775808:Int)<=0;omega) (by show(0:Int)<=_;omega)⟩;have k3:StpOk (kx3 t):=by
  unfold kx3;split
  ·unfold hndS;have a3:=Q1k (kt2 t);split
   ·exact⟨k2.t,k2.h,i64w (by show -9223372036854775808<=oneI (kt2 t);omega) (by show oneI (kt2 t)<=_;omega)⟩
   ·exact⟨k2.t,Qc0 (Q2R _ (by omega)),i64w (by show(-9223372036854775808:Int)<=0;omega) (by show(0:Int)<=_;omega)⟩
  ·exact k2
 unfold stpX argS;split
 ·exact⟨k3.t,k3.h,k3.b⟩
 split
 ·exact⟨k3.t,k3.h,k3.b⟩
 split
 ·exact⟨k3.t,k3.h,k3.b⟩
 ·exact k3
theorem Q7K:∀(k:Nat)(t:Tp),∀x ∈ readL k t,StpOk x
 | 0,t,x,h=>by cases h
 | k+1,t,x,h=>by
  unfold readL at h;split at h
  ·cases h
  ·rename_i y hy;rcases List.mem_cons.1 h with rfl | h
   ·exact Qgd hy
   ·exact Q7K k _ x h
theorem Q7I(s:ByteArray):∀x ∈ rdL s,StpOk x:=Q7K _ _
theorem Qev(s:ByteArray):(rdL s).length<=4000:=Q5A _ _
def PlOk(P0 C0:Int)(s:ByteArray)(most:Int):Prop:=s.size<=8192 /\ P0<=512 /\ ((rdL s).length:Int)<=most /\ Cl.CfgOk P0 C0
section
variable{w:World}{F:Nat->Prop}{X C Y:Thing}{R:VW}
theorem Qcm{o:Obj}(P0 C0:Int)(s:ByteArray)(most:Int)(h:(tabT o*C).P w F)
  (r0:¬PlOk P0 C0 s most->∀w' F',(tabT o*C).P w' F'->Step F w F' w'->R (.tuple #[.pointer none,.slice none 0 0,.slice none 0 0]) w')
  (r1:PlOk P0 C0 s most->∀sv sb y po co ps cs w' F',sv.o=o->SvOk sv P0 C0->(svX sv sb y (runL sv (rdL s)).x*(dnT (.slice po (runL sv (rdL s)).ops.length co) (runL sv (rdL s)).ops*(saT (.slice ps (runL sv (rdL s)).said.length cs) (runL sv (rdL s)).said*C))).P w' F'->Step F w F' w' →
   R (.tuple #[zP sb,.slice po (runL sv (rdL s)).ops.length co,.slice ps (runL sv (rdL s)).said.length cs]) w') :
  CS 9 #[.agg #[.int .i64 P0,.int .i64 C0],.string s,.int .i64 most] w R:=by
 constructor;refine vc69.ok ?_;unfold vc69;refine Q09 fun n0 w1 hb1 hE1 hs1 _=>⟨_,_,Q08 (vs:=[.int .i64 P0,.int .i64 C0]) hb1,?_⟩;have h1:=Thing.grow h hE1;refine Qf2 P0 C0 s most (fun hno w2 hE2=>⟨_,_,_,_,rfl,Q03 rfl (r0 (fun z=>hno ⟨z.1,z.2.1⟩) w2 F (Thing.grow h1 hE2) (Step.ext (hE1.trans hE2)))⟩) fun hsz hP p c w2 F2 h2 hE2 hn2=>⟨_,_,_,_,rfl,?_⟩;obtain⟨h3,s3⟩:=Q0j h1 hE2 h2 hn2;have s3:Step F w _ w2:=(Step.ext hE1).trans s3;refine Q05 (fun q=>?_) (fun q=>?_)
 ·have q:¬((rdL s).length:Int)<=most:=by simpa using q
  obtain⟨F4,h4,sub⟩:=Q07 h3;exact r0 (fun z=>q z.2.2.1) w2 F4 h4 (s3.sub sub)
 ·have q:((rdL s).length:Int)<=most:=by simpa using q
  have hb2:w2.heap[n0]? = some (.cells #[.int .i64 P0,.int .i64 C0] 23 (0,0)):=hE2.keep hb1;refine⟨_,_,Q08 (vs:=[.int .i64 P0,.int .i64 C0]) hb2,?_⟩;refine t_run (o:=o) (C:=C) P0 C0 (Qev s) (Q7I s) (re h3 (by show _=tabT o*(stpsT (.slice p (rdL s).length c) (rdL s)*C);ac_rfl)) (fun hno w4 p4 hE4=>?_) fun sv sb y po co ps cs w4 F4 hcfg ho hs p4 st4=>?_
  ·refine⟨_,_,_,_,_,_,_,_,rfl,Q03 rfl ?_⟩;obtain⟨F5,h5,sub⟩:=Q07 (re p4 (sw4 _ _ _));exact r0 (fun z=>hno z.2.2.2) w4 F5 h5 ((s3.trans (Step.ext hE4)).sub sub)
  ·refine⟨_,_,_,_,_,_,_,_,rfl,Q00 rfl ?_⟩;obtain⟨F5,h5,sub⟩:=Q07 (A:=stpsT (.slice p (rdL s).length c) (rdL s)) (B:=svX sv sb y (runL sv (rdL s)).x*(dnT (.slice po (runL sv (rdL s)).ops.length co) (runL sv (rdL s)).ops*(saT (.slice ps (runL sv (rdL s)).said.length cs) (runL sv (rdL s)).said*C))) (re p4 (by ac_rfl));exact r1 ⟨hsz,hP,q,hcfg⟩ sv sb y po co ps cs w4 F5 ho hs h5 ((s3.trans st4).sub sub)
end
end
set_option maxRecDepth 20000
section
open Go.RowKit Go.Maps Thing
def tnA(a:Ad)(T:Int):Option Tn:=if 0<=T /\ T<8 then a.tn T.toNat else none
section
variable{s:Sv}{sb:Nat}{y:Sy}{x:Se}{w:World}{F:Nat->Prop}{X C:Thing}{R:VW}
end
end
section
open Go.RowKit Go.Maps Thing
theorem Q6o{X:Type}:∀ {l m:List X},l.Nodup->(∀x ∈ l,x ∈ m)->l.length<=m.length
 | [],m,_,_=>Nat.zero_le _
 | x :: l,m,hn,h=>by
  obtain⟨h1,h2⟩:=List.nodup_cons.1 hn;obtain⟨a,b,e⟩:=List.append_of_mem (h x (by simp));subst e;have:=Q6o (l:=l) (m:=a++b) h2 fun y hy=>by
   have hy':=h y (zzmcm _ hy);rcases zzmpd.1 hy' with z | z
   ·exact zzmal _ z
   ·rcases List.mem_cons.1 z with z | z
    ·subst z;exact absurd hy h1
    ·exact List.mem_append_right _ z
  simp only[zzlna,List.length_cons] at this ⊢;omega
def bkS(H:Hp)(k m:Nat):List (Nat × Nat × Nat):=if k<8 then(match H.S (locN k m)with | some g=>((List.range g.q.hs.length).filter fun b=>g.q.hs.getD b false == true).map fun b=>(k,m,b) | none=>[])else if (H.sl k)[m]? = some true then [(k,m,0)] else []
def bkA(H:Hp):List (Nat × Nat × Nat):=(List.range 24).flatMap fun k=>(List.range (sltN k)).flatMap fun m=>bkS H k m
theorem Q93(p:Bool):∀(hs:List Bool),hs.count p=((List.range hs.length).filter fun c=>hs.getD c (!p) == p).length:=fun hs=>by
 have e:hs=(List.range hs.length).map fun c=>hs.getD c (!p):=by
  apply List.ext_getElem
  ·simp
  ·intro i h1 h2;simp[List.getD_eq_getElem?_getD,h1]
 rw[<-List.countP_eq_length_filter]
 conv=>lhs;rw[e]
 rw[List.count,List.countP_map];rfl
theorem QdK(H:Hp)(k m:Nat):(bkS H k m).length=usd H k m:=by
 unfold bkS usd;by_cases h:k<8
 ·rw[if_pos h,if_pos h];cases H.S (locN k m)with
  | none=>rfl
  | some g=>
   show(((List.range g.q.hs.length).filter fun b=>g.q.hs.getD b false == true).map fun b=>(k,m,b)).length=g.q.hs.count true;rw[List.length_map,Q93 true];rfl
 ·rw[if_neg h,if_neg h];split <;> rfl
theorem QdI(H:Hp):(bkA H).length=sumR 24 fun k=>usdK H k:=by
 unfold bkA;rw[Q2Z];refine Q0d fun k _=>?_;rw[Q2Z];exact Q0d fun m _=>QdK H k m
theorem QdJ{H:Hp}{k m b:Nat}(hk:k<24)(hm:m<sltN k)(hb:b<perM k)(h:bk H k m b):(k,m,b) ∈ bkA H:=by
 unfold bkA;refine List.mem_flatMap.2 ⟨k,List.mem_range.2 hk,List.mem_flatMap.2 ⟨m,List.mem_range.2 hm,?_⟩⟩;unfold bkS;by_cases h8:k<8
 ·rw[if_pos h8];obtain⟨g,e1,e2⟩:=h.2 h8;rw[e1];refine List.mem_map.2 ⟨b,List.mem_filter.2 ⟨List.mem_range.2 (zzgsi.1 e2).1,?_⟩,rfl⟩;rw[List.getD_eq_getElem?_getD,e2];rfl
 ·rw[if_neg h8,if_pos h.1];have:perM k=1:=if_neg h8;have:b=0:=by omega
  rw[this];simp
theorem Q46{k:Nat}(hk:k<24):16<=untN k:=by
 have h1:∀j:Fin 24,16<=untN j.val:=by decide +kernel
 exact h1 ⟨k,hk⟩
theorem Qbn{H:Hp}{l:List Int}(hn:l.Nodup)(h:∀a ∈ l,(blkM H a).isSome=true):16*l.length<=chgH H:=by
 have h1:l.length<=(bkA H).length:=by
  have e:l.length=(l.map fun a=>(blkM H a).getD (0,0,0)).length:=(List.length_map _).symm;rw[e];refine Q6o ?_ fun x hx=>?_
  ·refine List.nodup_iff_pairwise_ne.2 (List.pairwise_map.2 ((List.nodup_iff_pairwise_ne.1 hn).imp_of_mem fun {a b} ha hb hab z=>hab ?_));obtain⟨⟨k,m,i⟩,hx⟩:=zzise.1 (h a ha);obtain⟨⟨k',m',i'⟩,hy⟩:=zzise.1 (h b hb);rw[hx,hy] at z;have z:(k,m,i)=(k',m',i'):=z;rw[(Q0F hx).2.2.2.1,(Q0F hy).2.2.2.1];cases z;rfl
  ·obtain⟨a,ha,rfl⟩:=List.mem_map.1 hx;obtain⟨⟨k,m,i⟩,hx⟩:=zzise.1 (h a ha);rw[hx];obtain⟨h1,h2,h3,_,h5⟩:=Q0F hx;exact QdJ h1 h2 h3 h5
 rw[QdI] at h1;have h2:sumR 24 (fun k=>usdK H k)*16<=chgH H:=by
  rw[<-Q0P];exact Q2G fun k hk=>Nat.mul_le_mul_left _ (Q46 hk)
 omega
structure CapI (lo:Int) (t:Tn):Prop where
 ob:∀j z,t.S j=some z->(t.ob z.2.2).isSome=true
 one:∀i j z z',0<=i->i<4096->0<=j->j<4096->t.S i=some z->t.S j=some z'->z.2.2=z'.2.2->i=j
 rng:∀j z,t.S j=some z->0<=j /\ j<4160
 sr:∀j z,t.S j=some z->lo<=z.2.1 /\ z.2.1<t.nx
 lo:lo<=t.nx
section
variable{s:Sv}{A A':Ax}{t:Tn}{lo:Int}
theorem Q1g{S:Int->Option Cp.Sl}{base n:Nat}{nx:Int}{k:Nat}(h:Cp.putK S base n nx=some k):k<n /\ nx<17592186044416 /\ S ((base+k:Nat):Int)=none:=by
 unfold Cp.putK at h;split at h
 ·cases h
 ·obtain⟨hj,hv,_⟩:=List.findIdx?_eq_some_iff_getElem.1 h;rw[Cp.occ_len] at hj;refine⟨hj,by omega,?_⟩;have e:=Cp.occ_get S (base:=base) hj;rw[zzgge (by rw[Cp.occ_len];exact hj)] at e;have e:=Option.some.inj e;rw[e] at hv;simpa using hv
theorem Qc9(g:TnInv s A t)(c:CapI lo t)(hn:t.nx<17592186044416)(hq:t.q.cb+16<=t.q.lb):∃j,Cp.putK t.S 0 4096 t.nx=some j:=by
 cases e:Cp.putK t.S 0 4096 t.nx with
 | some j=>exact⟨j,rfl⟩
 | none=>
  exfalso;unfold Cp.putK at e;rw[if_neg (by omega)] at e;have e:=List.findIdx?_eq_none_iff.1 e;have all:∀k:Nat,k<4096->∃z,t.S (k:Int)=some z:=fun k hk=>by
   have h1:=Cp.occ_get t.S (base:=0) hk;have h2:=e _ (zzmog h1);rw[Nat.zero_add] at h2;cases h3:t.S (k:Int)with
   | some z=>exact⟨z,rfl⟩
   | none=>rw[h3] at h2;simp at h2
  let f:Nat->Int:=fun k=>match t.S (k:Int)with | some z=>z.2.2 | none=>0
  have hl:16*((List.range 4096).map f).length<=chgH t.H:=by
   refine Qbn ?_ fun a ha=>?_
   ·refine List.nodup_iff_pairwise_ne.2 (List.pairwise_map.2 ((List.nodup_iff_pairwise_ne.1 List.nodup_range).imp_of_mem fun {i j} hi hj hij z=>hij ?_));have hi:=List.mem_range.1 hi;have hj:=List.mem_range.1 hj;obtain⟨x,hx⟩:=all i hi;obtain⟨y,hy⟩:=all j hj;have z:(match t.S (i:Int)with | some z=>z.2.2 | none=>0)=(match t.S (j:Int)with | some z=>z.2.2 | none=>0):=z;rw[hx,hy] at z;have:=c.one (i:Int) (j:Int) x y (by omega) (by omega) (by omega) (by omega) hx hy z;omega
   ·obtain⟨i,hi,rfl⟩:=List.mem_map.1 ha;obtain⟨x,hx⟩:=all i (List.mem_range.1 hi);have ef:f i=x.2.2:=by show(match t.S (i:Int)with | some z=>z.2.2 | none=>0)=_;rw[hx]
    rw[ef];obtain⟨v,hv⟩:=zzise.1 (c.ob _ x hx);obtain⟨k,m,b,hb,_⟩:=g.ob1 _ v hv;rw[hb];rfl
  rw[List.length_map,List.length_range] at hl;have:=g.cb;have:=g.pk;omega
theorem CapI.put(c:CapI lo t){j:Nat}{t':Tn}{base n:Nat}{r a:Int}(hj:Cp.putK t.S base n t.nx=some j)(hb:base+n<=4160)(hS:t'.S=Cp.putS t.S base n t.nx r a)(hn:t'.nx=t.nx+1)(ho:∀k,(t.ob k).isSome=true->(t'.ob k).isSome=true)(ha:(t'.ob a).isSome=true)
  (h1:base+j<4096->∀i z,t.S i=some z->z.2.2 ≠ a):CapI lo t':=by
 obtain⟨hjn,_,hno⟩:=Q1g hj;have eS:t'.S=Cp.updS t.S ((base+j:Nat):Int) (some (r,t.nx,a)):=by rw[hS];unfold Cp.putS;rw[hj]
 have old:∀i z,t'.S i=some z->(i=((base+j:Nat):Int) /\ z=(r,t.nx,a)) \/ t.S i=some z:=fun i z h=>by
  rw[eS] at h;unfold Cp.updS at h;split at h
  ·rename_i e;cases h;exact .inl ⟨e,rfl⟩
  ·exact .inr h
 have hlo:=c.lo;refine⟨fun i z h=>?_,fun i k z z' i0 i1 k0 k1 hi hk e=>?_,fun i z h=>?_,fun i z h=>?_,by omega⟩
 ·rcases old i z h with⟨_,rfl⟩ | h
  ·exact ha
  ·exact ho _ (c.ob i z h)
 ·rcases old i z hi with⟨ei,rfl⟩ | hi
  ·rcases old k z' hk with⟨ek,rfl⟩ | hk
   ·rw[ei,ek]
   ·exact absurd e.symm (h1 (by omega) k z' hk)
  ·rcases old k z' hk with⟨ek,rfl⟩ | hk
   ·exact absurd e (h1 (by omega) i z hi)
   ·exact c.one i k z z' i0 i1 k0 k1 hi hk e
 ·rcases old i z h with⟨e,_⟩ | h
  ·omega
  ·exact c.rng i z h
 ·rcases old i z h with⟨_,rfl⟩ | h
  ·show lo<=t.nx /\ t.nx<t'.nx;omega
  ·have:=c.sr i z h;omega
theorem CapI.rev(c:CapI lo t){t':Tn}{a:Int}(hS:t'.S=Cp.revS t.S a 4160)(hn:t'.nx=t.nx)(ho:t'.ob=updI t.ob a none):CapI lo t':=by
 have old:∀i z,t'.S i=some z->t.S i=some z /\ z.2.2 ≠ a:=fun i z h=>by
  rw[hS] at h;unfold Cp.revS at h;split at h
  ·cases h
  ·rename_i q;refine⟨h,fun e=>q ?_⟩;have hr:=c.rng i z h;rw[h];exact⟨by show(z.2.2 == a)=true;rw[e];exact beq_self_eq_true a,hr.1,hr.2⟩
 refine⟨fun i z h=>?_,fun i k z z' i0 i1 k0 k1 hi hk e=>c.one i k z z' i0 i1 k0 k1 (old i z hi).1 (old k z' hk).1 e,fun i z h=>c.rng i z (old i z h).1,fun i z h=>by rw[hn];exact c.sr i z (old i z h).1,by rw[hn];exact c.lo⟩;obtain⟨h1,h2⟩:=old i z h;rw[ho,Q0q h2];exact c.ob i z h1
theorem CapI.same(c:CapI lo t){t':Tn}(hS:t'.S=t.S)(hn:t'.nx=t.nx)(ho:∀k,(t.ob k).isSome=true->(t'.ob k).isSome=true):CapI lo t':=
 ⟨fun j z h=>ho _ (c.ob j z (by rw[<-hS];exact h)),fun i j z z' a b c' d hi hj e=>c.one i j z z' a b c' d (by rw[<-hS];exact hi) (by rw[<-hS];exact hj) e,fun j z h=>c.rng j z (by rw[<-hS];exact h),fun j z h=>by rw[hn];exact c.sr j z (by rw[<-hS];exact h),by rw[hn];exact c.lo⟩
structure Got (s:Sv) (A:Ax) (t:Tn) (n:Int) (g:Gr) (k m b j:Nat):Prop where
 e:g.e=0
 ax:g.A=(malM s A t.H n).A
 hp:g.t.H=(malM s A t.H n).H
 me:(malM s A t.H n).E=0
 mi:(malM s A t.H n).I=(adrN k m b:Int)
 mal:MalE t.H (malM s A t.H n).H k m b
 n1:1<=n /\ n<=8192
 kc:k=clsN n.toNat
 no:t.ob (adrN k m b)=none
 pj:Cp.putK t.S 0 4096 t.nx=some j
 ss:g.t.S=Cp.putS t.S 0 4096 t.nx 7 (adrN k m b)
 nx:g.t.nx=t.nx+1
 ob:g.t.ob=updI t.ob (adrN k m b) (some n)
 id:g.t.id=t.id
 ad:g.ad=(adrN k m b:Int)
 h:g.h=Hd.packV t.id (j:Int) 7 t.nx
 cb:g.t.q.cb=t.q.cb+untN k
 lb:g.t.q.lb=t.q.lb
 fit:t.q.cb+untN k<=t.q.lb
theorem Q25(g:TnInv s A t)(c:CapI lo t)(n:Int) :
  ((getM s A t n).e ≠ 0 /\ (getM s A t n).A=A /\ (getM s A t n).t=t /\ (getM s A t n).h=0 /\ ((getM s A t n).e=3 \/ ¬(1<=n /\ n<=8192) \/ t.nx>=17592186044416)) \/
  ((getM s A t n).e=10 /\ (getM s A t n).A=(malM s A t.H n).A /\ (getM s A t n).t={t with H:=(malM s A t.H n).H} /\ (getM s A t n).h=0 /\ (malM s A t.H n).E ≠ 0 /\ 1<=n /\ n<=8192 /\ t.q.cb+untN (clsN n.toNat)<=t.q.lb) \/
  ∃k m b j,Got s A t n (getM s A t n) k m b j:=by
 obtain⟨ef0,ef1⟩:=Q7k g.ok.h n;obtain⟨mle,_,i0,i1⟩:=Q3o (s:=s) (A:=A) (H:=t.H) n;have i1:=Q2x g n;have keep:=(Q17 g.ok.h n).ok;have r0:=g.r0;have eq0:∀(c:Nat),({t.q with rb:=t.q.rb+c-c,rp:=t.q.rp+0-0}:Qu)=t.q:=fun c=>by
  have:t.q.rb+c-c=t.q.rb:=by omega
  rw[this];rfl
 unfold getM at i1 ⊢;split at i1
 ·rename_i h0;rw[if_pos h0];refine .inl ⟨by show(2:Int) ≠ 0;omega,rfl,rfl,rfl,.inr (.inl fun hn=>?_)⟩;have:chgI n=(untN (clsN n.toNat):Int):=if_pos hn;rw[this] at h0;have:=Q46 (Q15 (n:=n.toNat) (by omega));omega
 rename_i h0;rw[if_neg h0];have hn:1<=n /\ n<=8192:=by
  unfold chgI at h0;split at h0
  ·rename_i z;exact z
  ·exact absurd rfl h0
 have ec:chgI n=(untN (clsN n.toNat):Int):=if_pos hn;have ecl:clsI n=(clsN n.toNat:Int):=if_pos hn;have ecn:(chgI n).toNat=untN (clsN n.toNat):=by rw[ec,zztnc]
 have hu16:=Q46 (Q15 (n:=n.toNat) (by omega));rw[ecn] at i1 ⊢;generalize hk:clsN n.toNat=k at i1 ecl hu16 ⊢;split at i1
 ·rename_i h1;rw[if_pos h1];exact .inl ⟨by show(3:Int) ≠ 0;omega,rfl,rfl,rfl,.inl rfl⟩
 rename_i h1;rw[if_neg h1];have h1:=Classical.not_not.1 h1;obtain⟨f1,f2⟩:=h1;split at i1
 ·rename_i h2;rw[if_pos h2];refine .inl ⟨by show(10:Int) ≠ 0;omega,rfl,?_,rfl,.inr (.inr h2)⟩;show({t with q:={t.q with rb:=t.q.rb+untN k-untN k,rp:=t.q.rp+0-0}}:Tn)=t;rw[eq0]
 rename_i h2;rw[if_neg h2];split at i1
 ·rename_i h3;rw[if_pos h3];refine .inr (.inl ⟨rfl,rfl,?_,rfl,h3,hn.1,hn.2,by omega⟩);show({t with H:=(malM s A t.H n).H,q:={t.q with rb:=t.q.rb+untN k-untN k,rp:=t.q.rp+0-0}}:Tn)=_;rw[eq0]
 rename_i h3;rw[if_neg h3];have h3:=Classical.not_not.1 h3;obtain⟨k',m,b,ek,eI,mal⟩:=ef0 h3;have ek:k'=k:=by rw[ecl] at ek;omega
 subst ek;obtain⟨j,hj⟩:=Qc9 g c (by omega) (by omega);have hge:grE t.S t.nx (malM s A t.H n).I=0:=by unfold grE;rw[if_neg (by omega),hj]
 rw[if_neg (not_not_intro hge)] at i1 ⊢;have hfit:(t.res (untN k') 0).q.fits 0 ((malM s A t.H n).H.T.length-t.H.T.length):=by
  have hchg:=Q6d mal.k24 mal.hm mal.us;have hcb:=g.cb;have hcp:=g.cp;have hpk:=g.pk;have hroom:=Qaf keep (p:=t.peak.toNat) (by omega) fun k2 hk2=>by
   rcases mal.sl k2 (by omega)with y | ⟨y1,y2,y3⟩
   ·rw[y];exact g.pgs k2 hk2
   ·rw[y2];subst y1;refine Q6c hk2 ?_;have hu:=y3 hk2;have h1:usdK t.H k2*untN k2<=chgH t.H:=Q37 (fun k=>usdK t.H k*untN k) (by omega);rw[hu] at h1;omega
  have hd:=g.dem;exact⟨by show t.q.cb+(t.q.rb+untN k')+0<=t.q.lb;omega,by show t.q.cp+(t.q.rp+0)+((malM s A t.H n).H.T.length-t.H.T.length)<=t.q.lp;omega⟩
 rw[if_neg (not_not_intro hfit)];have hno:t.ob (adrN k' m b)=none:=by
  cases h:t.ob (adrN k' m b)with
  | none=>rfl
  | some v=>
   obtain⟨k2,m2,b2,e,_⟩:=g.ob1 _ v h;obtain⟨a1,a2,a3,a4,a5⟩:=Q0F e;obtain⟨e1,e2,e3⟩:=Q8M a1 a2 a3 mal.k24 mal.hm mal.hb (by omega);exact absurd (by rw[<-e1,<-e2,<-e3];exact a5) mal.no
 have hS:Cp.grantS t.S t.nx (malM s A t.H n).I=Cp.putS t.S 0 4096 t.nx 7 (adrN k' m b):=by
  unfold Cp.grantS;rw[if_neg (by omega),eI]
 have hN:Cp.grantN t.S t.nx (malM s A t.H n).I=t.nx+1:=by
  unfold Cp.grantN Cp.putN;rw[if_neg (by omega),hj]
 have hI:grI t.id t.S t.nx (malM s A t.H n).I=Hd.packV t.id (j:Int) 7 t.nx:=by
  unfold grI;rw[if_neg (by omega),hj];show Hd.packV t.id ((0+j:Nat):Int) 7 t.nx=_;rw[Nat.zero_add]
 exact .inr (.inr ⟨k',m,b,j,rfl,rfl,rfl,h3,eI,mal,hn,hk.symm,hno,hj,hS,hN,by rw[<-eI];rfl,rfl,eI,hI,rfl,rfl,by omega⟩)
theorem Q50{T k r n:Int}(h0:0<=T /\ T<=15)(h1:0<=k /\ k<=8191)(h2:0<=r /\ r<=7):Hd.uN (Hd.packV T k r n)=n:=by
 unfold Hd.uN Hd.packV;omega
theorem QdN(c:CapI lo t){n:Int}{g:Gr}{k m b j:Nat}(h:Got s A t n g k m b j):CapI lo g.t:=by
 refine c.put (n:=4096) h.pj (by omega) h.ss h.nx (fun x hx=>?_) ?_ fun _ i z hz e=>?_
 ·rw[h.ob];by_cases q:x=(adrN k m b:Int)
  ·rw[q,Q0r];rfl
  ·rw[Q0q q];exact hx
 ·rw[h.ob,Q0r];rfl
 ·have:=c.ob i z hz;rw[e,h.no] at this;cases this
theorem Q6V(c:CapI lo t)(a:Int):CapI lo (putM A t a):=c.rev (a:=a) rfl rfl rfl
structure AskI (lo:Int) (t:Tn) (h:Int) (t':Tn):Prop where
 cap:CapI lo t'
 nx:t.nx<=t'.nx
 hd:h=0 \/ Hd.uN h<t'.nx
theorem Q9h{T:Int}{S:Int->Option Cp.Sl}{h x a:Int}(e:fnO T S h x=some a):∃z,Cp.findS T S h=some z /\ z.2.2=a:=by
 unfold fnO at e;cases hz:Cp.findS T S h with
 | none=>rw[hz] at e;cases e
 | some z=>
  rw[hz] at e;dsimp only at e;split at e
  ·cases e
  ·exact⟨z,rfl,Option.some.inj e⟩
theorem Q67(g:TnInv s A t)(c:CapI lo t)(hid:0<=t.id /\ t.id<=7)(n:Int):AskI lo t (getM s A t n).h (getM s A t n).t:=by
 rcases Q25 g c n with⟨_,_,e,eh,_⟩ | ⟨_,_,e,eh,_⟩ | ⟨k,m,b,j,h⟩
 ·rw[e,eh];exact⟨c,Int.le_refl _,.inl rfl⟩
 ·rw[e,eh];exact⟨c.same rfl rfl fun k h=>h,Int.le_refl _,.inl rfl⟩
 ·have hj:=Q1g h.pj;have hn:=h.nx;refine⟨QdN c h,by omega,.inr ?_⟩;rw[h.h,Q50 (by omega) (by omega) (by omega)];omega
theorem QdE(g:TnInv s A t)(c:CapI lo t)(hid:0<=t.id /\ t.id<=7)(o:Op):AskI lo t (askM s A t o).a.Hd (askM s A t o).t:=by
 have r:AskI lo t 0 t:=⟨c,Int.le_refl _,.inl rfl⟩;unfold askM;split
 ·exact Q67 g c hid _
 split
 ·unfold calR;split
  ·exact Q67 g c hid _
  ·exact r
 split
 ·unfold freR;split
  ·exact⟨Q6V c _,Int.le_refl _,.inl rfl⟩
  ·exact r
 split
 ·unfold rlcR;split
  ·exact r
  rename_i a ea;split
  ·exact r
  split
  ·have h1:=Q67 g c hid o.N;split
   ·exact⟨Q6V h1.cap _,h1.nx,h1.hd⟩
   ·exact⟨h1.cap,h1.nx,.inl rfl⟩
  ·obtain⟨z,hz,hza⟩:=Q9h ea;obtain⟨_,_,hS,_,hN⟩:=Cp.findS_in hz;refine⟨c.same rfl rfl fun k hk=>?_,Int.le_refl _,.inr ?_⟩
   ·show(updI t.ob a (some o.N) k).isSome=true;by_cases e:k=a
    ·rw[e,Q0r];rfl
    ·rw[Q0q e];exact hk
   ·show Hd.uN o.H<t.nx;rw[<-hN];exact(c.sr _ z hS).2
 split
 ·refine⟨c,Int.le_refl _,.inl ?_⟩;unfold usbR;split <;> rfl
 split
 ·rw[Qa7];refine⟨c,Int.le_refl _,.inl ?_⟩;unfold reaR;split <;> rfl
 split
 ·rw[Qbc];refine⟨c,Int.le_refl _,.inl ?_⟩;unfold wriR;split <;> rfl
 ·show AskI lo t (rstI t.id t.S t.nx o.H o.N) {t with nx:=Cp.restN t.id t.S t.nx o.H o.N,S:=Cp.restS t.id t.S t.nx o.H o.N,sz:=Cp.restZ t.id t.S t.nx o.H o.N t.sz};cases hr:Cp.restO t.id t.S o.H o.N with
  | none=>
   have e1:rstI t.id t.S t.nx o.H o.N=0:=by unfold rstI;rw[hr]
   have e2:Cp.restN t.id t.S t.nx o.H o.N=t.nx:=by unfold Cp.restN;rw[hr]
   have e3:Cp.restS t.id t.S t.nx o.H o.N=t.S:=by unfold Cp.restS;rw[hr]
   rw[e1,e2,e3];exact⟨c.same rfl rfl fun k h=>h,Int.le_refl _,.inl rfl⟩
  | some z=>
   have hr1:1<=o.N /\ o.N<=7 /\ ∃x,t.S x=some z:=by
    unfold Cp.restO at hr;cases hf:Cp.findS t.id t.S o.H with
    | none=>rw[hf] at hr;cases hr
    | some z1=>
     rw[hf] at hr;dsimp only at hr;split at hr
     ·rename_i q;cases hr;exact⟨q.1,q.2.1,_,(Cp.findS_in hf).2.2.1⟩
     ·cases hr
   obtain⟨n1,n7,x,hx⟩:=hr1;have e2:Cp.restN t.id t.S t.nx o.H o.N=Cp.putN t.S 4096 64 t.nx:=by unfold Cp.restN;rw[hr]
   have e3:Cp.restS t.id t.S t.nx o.H o.N=Cp.putS t.S 4096 64 t.nx o.N z.2.2:=by unfold Cp.restS;rw[hr]
   cases hk:Cp.putK t.S 4096 64 t.nx with
   | none=>
    have e1:rstI t.id t.S t.nx o.H o.N=0:=by unfold rstI;rw[hr,hk]
    have e4:Cp.putN t.S 4096 64 t.nx=t.nx:=by unfold Cp.putN;rw[hk]
    have e5:Cp.putS t.S 4096 64 t.nx o.N z.2.2=t.S:=by unfold Cp.putS;rw[hk]
    rw[e1,e2,e3,e4,e5];exact⟨c.same rfl rfl fun k h=>h,Int.le_refl _,.inl rfl⟩
   | some j=>
    have hj:=Q1g hk;have e1:rstI t.id t.S t.nx o.H o.N=Hd.packV t.id ((4096+j:Nat):Int) o.N t.nx:=by unfold rstI;rw[hr,hk]
    have e4:Cp.putN t.S 4096 64 t.nx=t.nx+1:=by unfold Cp.putN;rw[hk]
    rw[e1,e2,e3,e4];refine⟨c.put (base:=4096) (n:=64) hk (by omega) rfl rfl (fun k h=>h) (c.ob x z hx) (fun q=>by omega),by show t.nx<=t.nx+1;omega,.inr ?_⟩;rw[Q50 (by omega) (by omega) (by omega)];show t.nx<t.nx+1;omega
end
end
section
open Go.RowKit Go.Maps Thing
def TsL(P:Nat->Prop)(l:List Tch):Prop:=∀t ∈ l,∃p:Nat,P p /\ ((p*512:Nat):Int)<=t.1 /\ 1<=t.2.1 /\ t.1+t.2.1<=((p*512+512:Nat):Int)
def TsIn(P:Nat->Prop)(a b:List Tch):Prop:=∃l,b=a++l /\ TsL P l
theorem TsIn.refl(P:Nat->Prop)(a:List Tch):TsIn P a a:=⟨[],by simp,fun t h=>(by cases h)⟩
theorem TsIn.trans{P:Nat->Prop}{a b c:List Tch}(h:TsIn P a b)(g:TsIn P b c):TsIn P a c:=by
 obtain⟨l,rfl,hl⟩:=h;obtain⟨m,rfl,hm⟩:=g;refine⟨l++m,by rw[List.append_assoc],fun t ht=>?_⟩;rcases zzmpd.1 ht with h | h
 ·exact hl t h
 ·exact hm t h
theorem TsIn.mono{P Q:Nat->Prop}{a b:List Tch}(h:TsIn P a b)(hs:∀p,P p->Q p):TsIn Q a b:=by
 obtain⟨l,e,hl⟩:=h;exact⟨l,e,fun t ht=>by obtain⟨p,a,b⟩:=hl t ht;exact⟨p,hs p a,b⟩⟩
theorem HFr.tsIn{A A':Ax}{P:Nat->Prop}(h:HFr A A' P):TsIn P A.ts A'.ts:=h.ts
section
variable{s:Sv}{A A':Ax}{H H':Hp}{t:Tn}{lo:Int}
theorem vL_ts(T:Tb)(size:Nat)(addr n:Int)(b:Bool):TsL (inPg T) (tchL (vL T size addr n) b):=by
 rcases Q55 T size addr n with⟨_,e⟩ | ⟨_,l,e1,e2⟩
 ·rw[e];exact fun t h=>by cases h
 ·rw[e2];obtain⟨a,k,_,_,_,_,hp⟩:=Q3w (Q82 e1).1;have ok:=Q7x hp;intro t ht;obtain⟨y,hy,rfl⟩:=List.mem_map.1 ht;obtain⟨h1,h2,j,hj,h3,h4⟩:=ok.pos y hy;refine⟨y.1 / 512,?_,?_,?_,?_⟩
  ·have hf:(fndO T (((a+j) / 512:Nat):Int)).isSome=true:=by
    unfold fnd at h3;cases e:fndO T (((a+j) / 512:Nat):Int)with
    | some z=>rfl
    | none=>rw[e] at h3;exact absurd h3 (by show ¬(0:Int) ≤ -1;omega)
   obtain⟨z,hz⟩:=zzise.1 hf;refine⟨z,(Q0a hz).1,?_⟩;have e:fnd T (((a+j) / 512:Nat):Int)=z.2:=by unfold fnd;rw[hz]
   rw[e] at h3 h4;omega
  ·show(((y.1 / 512*512:Nat)):Int)<=(y.1:Int);omega
  ·show(1:Int)<=(y.2:Int);omega
  ·show(y.1:Int)+(y.2:Int)<=((y.1 / 512*512+512:Nat):Int);omega
theorem QbU(g:HOk s A H)(n:Int):∀v y,fndO H.T v=some y->fndO (malM s A H n).H.T v=some y:=by
 intro v y hv;obtain⟨c24,cm1⟩:=Q2s n;unfold malM;by_cases h1:clsI n<0
 ·rw[if_pos h1];exact hv
 rw[if_neg h1];have ho:∀k,k<24->fndO (hoH s A H k).T v=some y:=fun k hk=>by
  by_cases hB:hoB s A H k=true
  ·obtain⟨m,_,_,_,_,h⟩:=Q6n g hk hB;exact h.old v y hv
  ·unfold hoH;rw[if_neg hB];exact hv
 by_cases h2:(8:Int)<=clsI n
 ·rw[if_pos h2];split
  ·exact ho _ (by omega)
  ·exact hv
 rw[if_neg h2];unfold malK;split
 ·split
  ·rw[QbR];exact hv
  ·exact hv
 ·split
  ·rw[QbR];exact ho _ (by omega)
  ·exact hv
theorem Qby(g:HOk s A H){a:Int}{k m b:Nat}(eb:blkM H a=some (k,m,b)):∀y ∈ H.T,y ∈ (freM A H a).H.T \/ ∃j:Nat,j<pagN k /\ y.1=(locN k m:Int)+(j:Int):=by
 intro y hy;have rm:∀T:Tb,TOk T->y ∈ T->y ∈ rmN T (locN k m) (pagN k) \/ ∃j:Nat,j<pagN k /\ y.1=(locN k m:Int)+(j:Int):=fun T tok h=>by
  obtain⟨_,f⟩:=Q4J tok (locN k m) (pagN k);have f:=f y.1;by_cases q:∃j:Nat,j<pagN k /\ y.1=(locN k m:Int)+(j:Int)
  ·exact .inr q
  ·rw[if_neg q,Q0W tok h] at f;exact .inl (Q0a f).1
 unfold freM;rw[eb];show y ∈ (if 8<=k then _ else _:Mr).H.T \/ _;by_cases h8:8<=k
 ·rw[if_pos h8];exact rm _ g.tok hy
 rw[if_neg h8];cases hS:H.S (locN k m)with
 | none=>exact .inl hy
 | some q=>
  show y ∈ (frP A (if q.q.hs.count false=0 then H.push k (locN k m)else H) k m b q).H.T \/ _;have eT:(if q.q.hs.count false=0 then H.push k (locN k m)else H).T=H.T:=by split <;> rfl
  unfold frP;split
  ·show y ∈ rmN (if q.q.hs.count false=0 then H.push k (locN k m)else H).T (locN k m) (pagN k) \/ _;rw[eT];exact rm _ g.tok hy
  ·refine .inl ?_;show y ∈ (if q.q.hs.count false=0 then H.push k (locN k m)else H).T;rw[eT];exact hy
theorem Q9H(g:HOk s A H){n a:Int}{k m b:Nat}(eb:blkM H a=some (k,m,b)){A':Ax}{H1:Hp}(e1:H1=(malM s A H n).H)(g1:HOk s A' H1)(eb1:blkM H1 a=some (k,m,b)) :
  ∀p,inPg H1.T p->inPg H.T p \/ inPg (freM A' H1 a).H.T p:=by
 rintro p ⟨y,hy,ep⟩;rcases Qby g1 eb1 y hy with h | ⟨j,hj,hv⟩
 ·exact .inr ⟨y,h,ep⟩
 ·obtain⟨hk,hm,_,_,hbk⟩:=Q0F eb;have:=(g.tab y.1).2 ⟨k,m,j,hk,hbk.1,hj,hv⟩;obtain⟨y0,hy0⟩:=zzise.1 this;have h2:=QbU g n y.1 y0 hy0;rw[<-e1,Q0W g1.tok hy] at h2;cases h2;exact .inl ⟨y,(Q0a hy0).1,ep⟩
theorem QdW{n:Int}{g:Gr}{k m b j:Nat}(h:Got s A t n g k m b j){a:Int}{x:Nat × Nat × Nat}(e:blkM t.H a=some x):blkM g.t.H a=some x:=by
 obtain⟨k',m',b'⟩:=x;obtain⟨a1,a2,a3,rfl,a5⟩:=Q0F e;rw[h.hp];exact(Q1i a1 a2 a3).2 ((h.mal.bks k' m' b' a1 a2 a3).2 (.inl a5))
theorem Qb7(g:TnInv s A t)(c:CapI lo t)(n:Int):TsIn (fun p=>inPg t.H.T p \/ inPg (getM s A t n).t.H.T p) A.ts (getM s A t n).A.ts:=by
 have hm:=(Q17 g.ok.h n).fr.tsIn;rcases Q25 g c n with⟨_,e,_⟩ | ⟨_,e,e2,_⟩ | ⟨k,m,b,j,h⟩
 ·rw[e];exact TsIn.refl _ _
 ·rw[e,e2];exact hm
 ·rw[h.ax,h.hp];exact hm
theorem Qgy(g:TnInv s A t)(a:Int):TsIn (fun p=>inPg t.H.T p \/ inPg (putM A t a).H.T p) A.ts (putA A t a).ts:=(Q1v g.ok.h a).fr.tsIn
theorem QdG(g:TnInv s A t)(c:CapI lo t)(o:Op):TsIn (fun p=>inPg t.H.T p \/ inPg (askM s A t o).t.H.T p) A.ts (askM s A t o).A.ts:=by
 have vT:∀(T:Tb)(Q:Nat->Prop)(addr n:Int)(size:Nat)(w:Bool)(ts:List Tch),(∀p,inPg T p->Q p)->TsIn Q ts (ts++tchL (vL T size addr n) w):=fun T Q addr n size w ts hQ=>⟨_,rfl,fun x hx=>by obtain⟨p,a,b⟩:=vL_ts T size addr n w x hx;exact⟨p,hQ p a,b⟩⟩;unfold askM;split
 ·exact Qb7 g c _
 split
 ·unfold calR;split
  ·exact Qb7 g c _
  ·exact TsIn.refl _ _
 split
 ·unfold freR;split
  ·exact Qgy g _
  ·exact TsIn.refl _ _
 split
 ·unfold rlcR;cases ea:fnO t.id t.S o.H 4 with
  | none=>exact TsIn.refl _ _
  | some a=>
   dsimp only;by_cases hc:clsI o.N<0
   ·rw[if_pos hc];exact TsIn.refl _ _
   rw[if_neg hc];by_cases hg:chgI o.N>usbI t.H a
   ·rw[if_pos hg];have h1:=Qb7 g c o.N;by_cases he:(getM s A t o.N).e=0
    case neg=>rw[if_neg he];exact h1
    rw[if_pos he];obtain⟨z,hz,hza⟩:=Q9h ea;have hob:=c.ob _ z (Cp.findS_in hz).2.2.1;rw[hza] at hob;obtain⟨v,hv⟩:=zzise.1 hob;obtain⟨k0,m0,b0,eb,_⟩:=g.ob1 a v hv;obtain⟨k,m,b,j,got⟩:∃k m b j,Got s A t o.N (getM s A t o.N) k m b j:=by
     rcases Q25 g c o.N with⟨q,_⟩ | ⟨q,_⟩ | q
     ·exact absurd he q
     ·rw[he] at q;cases q
     ·exact q
    have eb1:=QdW got eb;have inv1:=Q2x g o.N;have ecpy:∀x y:Int,(cpyA (getM s A t o.N).A (getM s A t o.N).t.H.T (getM s A t o.N).ad x y).bs.length=(getM s A t o.N).A.bs.length:=fun x y=>Q4g _ _ _ _ _ inv1.ok.h.small;have ok2:HOk s (cpyA (getM s A t o.N).A (getM s A t o.N).t.H.T (getM s A t o.N).ad a ((t.ob a).getD 0)) (getM s A t o.N).t.H:=inv1.ok.h.bytes _ (ecpy _ _);have mid:=Q9H g.ok.h (n:=o.N) eb got.hp ok2 eb1;have h3:=(Q1v ok2 a).fr.tsIn;show TsIn (fun p=>inPg t.H.T p \/ inPg (freM (cpyA (getM s A t o.N).A (getM s A t o.N).t.H.T (getM s A t o.N).ad a ((t.ob a).getD 0)) (getM s A t o.N).t.H a).H.T p) A.ts (freM (cpyA (getM s A t o.N).A (getM s A t o.N).t.H.T (getM s A t o.N).ad a ((t.ob a).getD 0)) (getM s A t o.N).t.H a).A.ts;refine(h1.mono fun p q=>q.elim .inl (mid p)).trans (TsIn.trans ?_ (h3.mono fun p q=>q.elim (mid p) .inr));show TsIn _ _ (cpT _ _ _ _ _ _);unfold cpT;split
    ·exact(vT _ _ _ _ _ _ _ mid).trans (vT _ _ _ _ _ _ _ mid)
    ·exact TsIn.refl _ _
   ·rw[if_neg hg];show TsIn _ A.ts (if _ then _ else _:Ax).ts;split
    ·exact vT _ _ _ _ _ _ _ fun p h=>.inl h
    ·exact TsIn.refl _ _
 split
 ·exact TsIn.refl _ _
 split
 ·unfold reaR;split
  ·exact vT _ _ _ _ _ _ _ fun p h=>.inl h
  ·exact TsIn.refl _ _
 split
 ·unfold wriR;split
  ·exact vT _ _ _ _ _ _ _ fun p h=>.inl h
  ·exact TsIn.refl _ _
 ·exact TsIn.refl _ _
end
end
section
open Go.RowKit Go.Maps Thing
structure CapA (lo:Nat->Int) (a:Ad):Prop where
 tn:∀i t,i<8->a.tn i=some t->CapI (lo i) t
 se:∀i,i<8->lo i<=a.se i
def curO(o:Option Tn)(x:Int):Int:=match o with | some t=>t.nx | none=>x
def curA(a:Ad)(i:Nat):Int:=curO (a.tn i) (a.se i)
section
variable{s:Sv}{A A':Ax}{t:Tn}{a:Ad}{x:Se}{lo:Nat->Int}
theorem QcG:CapA (fun _=>1) (A0 s):=⟨fun i t _ h=>(by cases h),fun i _=>Int.le_refl _⟩
theorem CapA.upd(c:CapA lo a){m:Nat}{a':Ad}{o:Option Tn}{x:Int}(et:a'.tn=updF a.tn m o)(es:a'.se=updF a.se m x)(ho:∀t,o=some t->CapI (lo m) t)(hx:m<8->lo m<=x):CapA lo a':=by
 refine⟨fun i t hi h=>?_,fun i hi=>?_⟩
 ·rw[et] at h;by_cases e:i=m
  ·subst e;rw[Q0g] at h;exact ho t h
  ·rw[Q0n e] at h;exact c.tn i t hi h
 ·rw[es];by_cases e:i=m
  ·subst e;rw[Q0g];exact hx hi
  ·rw[Q0n e];exact c.se i hi
theorem Qfq{n:Nat}{id se q l:Int}{win:List Int}(h:l<=se):CapI l (T0 n id se q win):=
 ⟨fun j z h=>(by cases h),fun i j z z' _ _ _ _ h=>(by cases h),fun j z h=>(by cases h),fun j z h=>(by cases h),h⟩
theorem Q7L(g:AdInv s a)(i k q:Int):(resM s a i k q).a=a \/ ∃m t t',i=((m:Nat):Int) /\ m<8 /\ a.tn m=some t /\ (resM s a i k q).a.tn=updF a.tn m (some t') /\ (resM s a i k q).a.se=a.se /\ t'.S=t.S /\ t'.nx=t.nx /\ t'.ob=t.ob /\ TsIn (fun p=>inPg t.H.T p \/ inPg t'.H.T p) a.A.ts (resM s a i k q).a.A.ts:=by
 unfold resM;by_cases hi:¬(0<=i /\ i<8)
 ·rw[if_pos hi];exact .inl rfl
 rw[if_neg hi];have hi:=Classical.not_not.1 hi;obtain⟨m,rfl⟩:=zzeoz hi.1;rw[zztnc];cases ht:a.tn m with
 | none=>exact .inl rfl
 | some t=>
  dsimp only;by_cases hs:sizE s k q ≠ 0
  ·rw[if_pos hs];exact .inl rfl
  rw[if_neg hs];have hs:=Classical.not_not.1 hs;by_cases hf:fitE t q (k*s.nC) ≠ 0
  ·rw[if_pos hf];exact .inl rfl
  rw[if_neg hf];by_cases hc:a.hs.count false<k.toNat-(a.ws m).length
  ·rw[if_pos hc];exact .inl rfl
  rw[if_neg hc];obtain⟨y1,y2,y3⟩:=Q5I hs;have hm:m<8:=by omega
  have gt:=g.tn m t hm ht;have hw:(((a.grant m (k.toNat-(a.ws m).length)).ws m).take k.toNat).length<=32:=by
   rw[zzlnt];have:=g.c32;omega
  refine .inr ⟨m,t,(rszR s a.A t q (((a.grant m (k.toNat-(a.ws m).length)).ws m).take k.toNat)).t,rfl,hm,ht,rfl,rfl,?_⟩;show _ /\ _ /\ _ /\ TsIn _ a.A.ts (rszR s a.A t q (((a.grant m (k.toNat-(a.ws m).length)).ws m).take k.toNat)).A.ts;generalize((a.grant m (k.toNat-(a.ws m).length)).ws m).take k.toNat=win at hw ⊢;have hfr:=(Q7n gt.inv.ok.h hw).1.fr.tsIn;unfold rszR;split
  ·exact⟨rfl,rfl,rfl,TsIn.refl _ _⟩
  split
  ·exact⟨rfl,rfl,rfl,hfr⟩
  ·exact⟨rfl,rfl,rfl,hfr⟩
structure DoI (lo:Nat->Int) (a:Ad) (T:Int) (h:Int) (a':Ad):Prop where
 cap:CapA lo a'
 cur:∀i,i<8->curA a i<=curA a' i
 hd:h=0 \/ Hd.uN h<curA a' T.toNat
 ts:TsIn (fun p=>inPg (oT (tnA a T)) p \/ inPg (oT (tnA a' T)) p) a.A.ts a'.A.ts
theorem Qfu{m i:Nat}{o:Option Tn}{x:Int}(h:curA a m<=curO o x):curA a i<=curO (updF a.tn m o i) (updF a.se m x i):=by
 by_cases e:i=m
 ·subst e;rw[Q0g,Q0g];exact h
 ·rw[Q0n e,Q0n e];exact Int.le_refl _
theorem Q6e{m i:Nat}{o:Option Tn}(h:curA a m<=curO o (a.se m)):curA a i<=curO (updF a.tn m o i) (a.se i):=by
 by_cases e:i=m
 ·subst e;rw[Q0g];exact h
 ·rw[Q0n e];exact Int.le_refl _
theorem Q22{a:Ad}{m:Nat}{o:Option Tn}(h:a.tn m=o):curA a m=curO o (a.se m):=by unfold curA;rw[h]
theorem QdS(g:AdInv s a)(c:CapA lo a){o:Op}(h:chkE o=0):DoI lo a o.T (doA s a o).a.Hd (doA s a o).x:=by
 obtain⟨_,_,h0,h8,_⟩:=Q3O h;obtain⟨K,T,N,M,Hh,D⟩:=o;have h0:0<=T:=h0;have h8:T<8:=h8;obtain⟨m,rfl⟩:=zzeoz h0;have hm:m<8:=by omega
 have refl:∀E:Int,DoI lo a (m:Int) (anE E).Hd a:=fun E=>⟨c,fun _ _=>Int.le_refl _,.inl rfl,TsIn.refl _ _⟩;have hin:∀a':Ad,tnA a' (m:Int)=a'.tn m:=fun a'=>by unfold tnA;rw[if_pos ⟨by omega,by omega⟩,zztnc]
 unfold doA;dsimp only;split
 ·show DoI lo a (m:Int) (anE (creM s a (m:Int) M N).E).Hd (creM s a (m:Int) M N).a;unfold creM;split;· exact refl _
  split;· exact refl _
  rename_i hn;rw[zztnc] at hn;have hnone:a.tn m=none:=by
   cases e:a.tn m with
   | none=>rfl
   | some t=>rw[e] at hn;exact absurd rfl hn
  split;· exact refl _
  split;· exact refl _
  split;· exact refl _
  rw[zztnc];split
  ·have ei:a.se=updF a.se m (a.se m):=(Q0A a.se m).symm;refine⟨c.upd (m:=m) (x:=a.se m) rfl ei (fun t e=>by cases e;exact Qfq (c.se m hm)) (fun _=>c.se m hm),fun i hi=>Q6e (m:=m) (by rw[Q22 hnone];exact Int.le_refl _),.inl rfl,TsIn.refl _ _⟩
  ·exact⟨⟨c.tn,c.se⟩,fun _ _=>Int.le_refl _,.inl rfl,TsIn.refl _ _⟩
 split
 ·show DoI lo a (m:Int) (anE (resM s a (m:Int) M N).E).Hd (resM s a (m:Int) M N).a;rcases Q7L g (m:Int) M N with e | ⟨m',t,t',e1,e2,e3,e4,e5,e6,e7,e8,e9⟩
  ·rw[e];exact refl _
  ·have em:m'=m:=by omega
   subst em;have ei:(resM s a (m':Int) M N).a.se=updF a.se m' (a.se m'):=by rw[e5,Q0A]
   refine⟨c.upd e4 ei (fun x ex=>by cases ex;exact(c.tn m' t hm e3).same e6 e7 fun k hk=>by rw[e8];exact hk) (fun _=>c.se m' hm),fun i hi=>?_,.inl rfl,?_⟩
   ·unfold curA;rw[e4,e5];refine Q6e (m:=m') ?_;rw[Q22 e3];show t.nx<=t'.nx;rw[e7];exact Int.le_refl _
   ·rw[hin,hin,e3,e4,Q0g];exact e9
 split
 ·show DoI lo a (m:Int) (anE (desM s a (m:Int)).E).Hd (desM s a (m:Int)).a;unfold desM;split;· exact refl _
  rw[zztnc];cases ht:a.tn m with
  | none=>exact refl _
  | some t=>
   have gt:=g.tn m t hm ht;have ct:=c.tn m t hm ht;refine⟨c.upd (m:=m) (x:=t.nx) rfl rfl (fun x ex=>by cases ex) (fun _=>ct.lo),fun i hi=>Qfu (m:=m) (by rw[Q22 ht];exact Int.le_refl _),.inl rfl,?_⟩
   ·have hfr:=(Q4i gt.inv.ok.h).1.fr.tsIn;have eH:=(Q4i gt.inv.ok.h).2.1;refine hfr.mono fun p q=>.inl ?_;rw[hin,ht];refine q.elim id fun z=>?_;rw[eH] at z;obtain⟨y,hy,_⟩:=z;cases hy
 rw[zztnc];cases ht:a.tn m with
 | none=>exact refl _
 | some t=>
  have gt:=g.tn m t hm ht;have ct:=c.tn m t hm ht;have ak:=QdE gt.inv ct (by rw[gt.id];omega) ⟨K,(m:Int),N,M,Hh,D⟩;have at_:=QdG gt.inv ct ⟨K,(m:Int),N,M,Hh,D⟩;have ei:a.se=updF a.se m (a.se m):=(Q0A a.se m).symm;refine⟨c.upd (m:=m) (x:=a.se m) rfl ei (fun x ex=>by cases ex;exact ak.cap) (fun _=>c.se m hm),fun i hi=>Q6e (m:=m) (by rw[Q22 ht];exact ak.nx),?_,?_⟩
  ·rw[zztnc];show(askM s a.A t ⟨K,(m:Int),N,M,Hh,D⟩).a.Hd=0 \/ _<curO (updF a.tn m _ m) _;rw[Q0g];exact ak.hd
  ·rw[hin,hin,ht];show TsIn (fun p=>inPg t.H.T p \/ inPg (oT (updF a.tn m _ m)) p) _ _;rw[Q0g];exact at_
theorem Q6U(c:CapA lo a):CapA lo (fgt a):=⟨c.tn,c.se⟩
theorem Q97(g:AdInv s x.a)(c:CapA lo x.a)(o:Op):CapA lo (doM s x o).x.a /\ (∀i,i<8->curA x.a i<=curA (doM s x o).x.a i) /\ ((doM s x o).a.Hd=0 \/ Hd.uN (doM s x o).a.Hd<curA (doM s x o).x.a o.T.toNat) /\
  TsL (fun p=>inPg (oT (tnA x.a o.T)) p \/ inPg (oT (tnA (doM s x o).x.a o.T)) p) (doM s x o).x.tch:=by
 unfold doM;split
 ·exact⟨⟨c.tn,c.se⟩,fun i _=>Int.le_refl _,.inl rfl,fun t h=>(by cases h)⟩
 ·rename_i hc;have h:=QdS (o:=o) g.fgt (Q6U c) (by simpa using hc);refine⟨h.cap,h.cur,h.hd,?_⟩;obtain⟨l,e,hl⟩:=h.ts;show TsL _ (doA s (fgt x.a) o).x.A.ts;rw[e];exact hl
theorem Qeo(g:AdInv s a){i:Nat}(hi:i<8){p:Nat}(h:inPg (oT (a.tn i)) p):((p % s.C:Nat):Int) ∈ a.ws i:=by
 cases ht:a.tn i with
 | none=>rw[ht] at h;obtain⟨y,hy,_⟩:=h;cases hy
 | some t=>
  rw[ht] at h;have gt:=g.tn i t hi ht;exact(gt.win _).1 (Q2w.1 (Q3X gt.inv.ok.h h))
end
end
end Go.Proofs.YtpnbcakbefplpaaGreatDoor
