/- Texts merged: Wu1 Wu2 Wu3 Rf5 Wb1 Wu4 Wd1 VcL3 WTU. Conditions: none. -/
import Derived.Test.YtpnbcakbefplpaaGreatDoorProg
import Derived.KernelRfl
import Derived.Test.YtpnbcakbefplpaaGreatDoorM06
set_option linter.unusedVariables false
set_option linter.unusedSimpArgs false
namespace Go.Proofs.YtpnbcakbefplpaaGreatDoor
open _root_.Go.Proofs.Tryz (prog)
section
open Go.RowKit Go.Maps Thing
structure FrQ (k:Nat) (q:Pq):Prop where
 hr:q.hr<0
 hw:q.hw<0
 lo:∀i,i<q.f->q.hs[i]? = some true
 hi:∀i,q.f<=i->i<perN k->q.hs[i]? = some false
def FrH(H:Hp):Prop:=∀v q,H.S v=some q->FrQ q.kind q.q
section
variable{s:Sv}{A:Ax}{H:Hp}{t:Tn}{a:Ad}
theorem QfU(k:Nat):FrQ k (newPq k):=⟨by show(-1:Int)<0;omega,by show(-1:Int)<0;omega,fun i h=>absurd h (Nat.not_lt_zero i),fun i _ h=>by show(List.replicate (perN k) false)[i]? = _;rw[List.getElem?_replicate,if_pos h]⟩
theorem Qfm{k base:Nat}{q:Pq}{bs:List UInt8}{ts:List Tch}(g:PqOk k q)(fr:FrQ k q)(hc:q.hs.count false ≠ 0) :
  q.f<perN k /\ aloE (unitN k) (perN k) base (q.st bs ts)=0 /\ aloI (unitN k) (perN k) base (q.st bs ts)=(q.f:Int) /\ FrQ k (aloS (unitN k) (perN k) base (q.st bs ts)).pq:=by
 have hr:=fr.hr;have hw:=fr.hw;have hf:q.f<perN k:=by
  have:=g.f;rcases Nat.lt_or_ge q.f (perN k)with h | h
  ·exact h
  ·exfalso;refine hc (List.count_eq_zero.2 fun hm=>?_);obtain⟨i,hi⟩:=List.getElem?_of_mem hm;have hil:=(zzgsi.1 hi).1;have hl:=g.hl;have:=fr.lo i (by omega);rw[hi] at this;cases this
 have e1:¬0<=(q.st bs ts).hr:=by show ¬0<=q.hr;omega
 have e2:¬0<=(q.st bs ts).hw:=by show ¬0<=q.hw;omega
 have e3:¬(q.st bs ts).f=perN k:=by show ¬q.f=perN k;omega
 have hl:=g.hl;have hin:Sf.InS q.hs (q.f:Int):=⟨by omega,by omega⟩;have hE:Sf.takeAtE q.hs (q.f:Int)=0:=by
  unfold Sf.takeAtE;rw[if_pos hin,zztnc,fr.hi q.f (Nat.le_refl _) hf,if_neg (by simp)]
 have hH:Sf.takeAtH q.hs (q.f:Int)=q.hs.set q.f true:=by
  unfold Sf.takeAtH;rw[if_pos hin,zztnc]
 unfold aloE aloI aloS;rw[if_neg e1,if_neg e2,if_neg e3,if_neg e1,if_neg e2,if_neg e3,if_neg e1,if_neg e2,if_neg e3];refine⟨hf,hE,rfl,hr,hw,fun i hi=>?_,fun i hi h2=>?_⟩
 ·have hi:i<q.f+1:=hi;show(Sf.takeAtH q.hs (q.f:Int))[i]? = _;rw[hH,zzgst];by_cases z:q.f=i
  ·rw[if_pos z,if_pos (by omega)]
  ·rw[if_neg z];exact fr.lo i (by omega)
 ·have hi:q.f+1<=i:=hi;show(Sf.takeAtH q.hs (q.f:Int))[i]? = _;rw[hH,zzgsn (by omega)];exact fr.hi i (by omega) h2
theorem Qd0(g:HOk s A H)(fr:FrH H){k m:Nat}{q:Pg}(h8:k<8)(hm:m<sltN k)(hS:H.S (locN k m)=some q)(hk:q.kind=k)(hc:q.q.hs.count false ≠ 0) :
  (maF A H k (locN k m) q).E=0 /\ FrH (maF A H k (locN k m) q).H:=by
 subst hk;obtain⟨_,pq,_⟩:=g.pg _ q hS;obtain⟨hf,hE,hI,hF⟩:=Qfm (base:=q.base) (bs:=A.bs) (ts:=A.ts) pq (fr _ q hS) hc;have hloc:(locN q.kind m:Int)-(locN q.kind 0:Int)=(m:Int):=by
  unfold locN;rw[show pagN q.kind=1 from if_pos h8];omega
 have hp:perM q.kind=perN q.kind:=if_pos h8;have hin:InB q.kind (m:Int) (q.q.f:Int):=⟨by omega,by omega,by omega,by omega⟩;unfold maF;rw[hloc,if_pos hE,hI];refine⟨if_pos hin,?_⟩;generalize aloS (unitN q.kind) (perN q.kind) q.base (q.q.st A.bs A.ts)=st at hF ⊢;have key:FrH (H.page (locN q.kind m) q st):=fun v r hr=>by
  have hr:updI H.S (locN q.kind m) (some {q with q:=st.pq}) v=some r:=hr;by_cases e:v=(locN q.kind m:Int)
  ·rw[e,Q0r] at hr;cases hr;exact hF
  ·rw[Q0q e] at hr;exact fr v r hr
 show FrH (if st.hs.count false=0 then _ else _);split
 ·exact key
 ·exact key
theorem QfR(g:HOk s A H)(fr:FrH H){n:Int}(hn:1<=n /\ n<=8192)(hB:8<=clsN n.toNat \/ H.ln (clsN n.toNat)=[]->hoB s A H (clsN n.toNat)=true) :
  (malM s A H n).E=0 /\ FrH (malM s A H n).H:=by
 have ecl:clsI n=(clsN n.toNat:Int):=if_pos hn;have c24:=Q15 (n:=n.toNat) (by omega);have frT:∀k,FrH (hoH s A H k):=fun k=>by
  unfold hoH;split
  ·exact fun v q h=>fr v q h
  ·exact fr
 unfold malM;rw[ecl];generalize clsN n.toNat=k at hB c24 ⊢;rw[if_neg (by omega),zztnc];by_cases h8:(8:Int)<=(k:Int)
 ·have hB:=hB (.inl (by omega));rw[if_pos h8,if_pos hB];obtain⟨m,hm,hms,hf,eI,h⟩:=Q6n g c24 hB;refine⟨?_,frT k⟩;show placE k (hoI s A H k) 0=0;rw[eI];exact if_pos ⟨by omega,by omega,by omega,by have:=(Q0D c24).2.2.2.1;omega⟩
 rw[if_neg h8];have k8:k<8:=by omega
 unfold malK;cases hL:H.ln k with
 | cons v rest=>
  have hv:v ∈ H.ln k:=by rw[hL];simp
  obtain⟨q,a,b,c⟩:=((g.ln k k8).2 v).1 hv;show(match H.S v with | some g=>maF A H k v g | none=>⟨0,11,A,H⟩:Mr).E=0 /\ FrH (match H.S v with | some g=>maF A H k v g | none=>⟨0,11,A,H⟩:Mr).H;rw[a];obtain⟨a1,a2,m,a3,a4,a5,_⟩:=g.pg v q a;rw[b] at a3 a4 a5;subst a4;exact Qd0 g fr k8 a3 a b c
 | nil=>
  have hB:=hB (.inr hL);show(if hoB s A H k=true then _ else _:Mr).E=0 /\ FrH (if hoB s A H k=true then _ else _:Mr).H;rw[if_pos hB];obtain⟨st,eS,eln⟩:=Q2v g k8 hB;obtain⟨m,hm,hms,hf,eI,h⟩:=Q6n g c24 hB;have eV:nwV H k=(locN k m:Int):=by unfold nwV;rw[hm,zztnc]
  have eS0:(nwH s A H k).S=updI H.S (nwV H k) (some (nwG s A H k)):=rfl;rw[eV] at eS eS0 ⊢;refine Qd0 st.ok (fun v q hq=>?_) k8 hms eS rfl ?_
  ·rw[eS0] at hq;by_cases e:v=(locN k m:Int)
   ·rw[e,Q0r] at hq;cases hq;exact QfU k
   ·rw[Q0q e] at hq;exact fr v q hq
  ·show(List.replicate (perN k) false).count false ≠ 0;have hp:=(Q0h k8).2.2.1;rw[List.count_replicate];simp;omega
theorem QeC(g:TnInv s A t){k:Nat}(hk:k<24):slK t.H k<=usdK t.H k:=by
 by_cases h8:k<8
 ·refine Q2G fun m hm=>?_;split
  ·rename_i h;exact g.use k m h8 hm h
  ·exact Nat.zero_le _
 ·rw[Q6I (by omega)];exact Nat.le_refl _
theorem Q5K:∀n,sumR n (fun _=>1)=n
 | 0=>rfl
 | n+1=>by rw[Q0E,Q5K n]
theorem Qaq(g:TnInv s A t){k:Nat}(hk:k<24)(hc:t.q.cb+untN k<=t.q.lb)(hq:t.q.lb<=4096):0<=Sf.lowI (t.H.sl k):=by
 have h1:=QeC g hk;have h2:usdK t.H k*untN k<=chgH t.H:=Q37 (fun k=>usdK t.H k*untN k) hk;have h3:=g.cb;have h4:(slK t.H k+1)*untN k<=4096:=by
  have:=zzmlr (untN k) h1;rw[Nat.add_mul,Nat.one_mul];omega
 have h5:slK t.H k+1<=4096 / untN k:=(Nat.le_div_iff_mul_le (by have:=Q46 hk;omega)).2 h4;have h6:4096 / untN k<=sltN k:=by
  have:∀j:Fin 24,4096 / untN j.val<=sltN j.val:=by decide +kernel
  exact this ⟨k,hk⟩
 unfold Sf.lowI;cases e:(t.H.sl k).findIdx? (fun b=>!b)with
 | some j=>simp
 | none=>
  exfalso;have e:=List.findIdx?_eq_none_iff.1 e;have hl:=g.ok.h.sl k hk;have:slK t.H k=sltN k:=by
   unfold slK;have:=Q0d (n:=sltN k) (f:=fun m=>if (t.H.sl k)[m]? = some true then 1 else 0) (g:=fun _=>1) fun m hm=>by
    have hm':m<(t.H.sl k).length:=by omega
    have:=e _ (List.getElem_mem hm');rw[if_pos];rw[zzgge hm'];simpa using this
   rw[this];exact Q5K _
  omega
theorem Q8p(g:TnInv s A t){k:Nat}(hk:k<24)(hc:t.q.cb+untN k<=t.q.lb)(h:8<=k \/ t.H.ln k=[]):t.H.T.length+pagN k<=demN t.peak.toNat:=by
 have hcb:=g.cb;have hpk:=g.pk;rw[Q1f g.ok.h];unfold demN;rw[Q6b];rw[show(24:Nat)=8+16 from rfl,Q1I];have hch:chgH t.H=sumR 8 (fun k=>usdK t.H k*untN k)+sumR 16 fun i=>usdK t.H (8+i)*untN (8+i):=by
  unfold chgH;rw[show(24:Nat)=8+16 from rfl,Q1I]
 have e16:sumR 16 (fun i=>slK t.H (8+i)*pagN (8+i))*512=sumR 16 fun i=>usdK t.H (8+i)*untN (8+i):=by
  rw[<-Q0P];refine Q0d fun i hi=>?_;rw[Q6I (by omega)];have:untN (8+i)=pagN (8+i)*512:=by unfold untN pagN;rw[if_neg (by omega),if_neg (by omega)]
  rw[this,Nat.mul_assoc]
 have h8s:sumR 8 (fun k=>slK t.H k*pagN k)=sumR 8 fun k=>slK t.H k:=Q0d fun k hk=>by rw[show pagN k=1 from if_pos hk,Nat.mul_one]
 rw[h8s];by_cases h8:k<8
 ·have hL:t.H.ln k=[]:=h.resolve_left (by omega);have hu:=Q6P g.ok.h h8 hL;have h1:usdK t.H k*untN k<=chgH t.H:=Q37 (fun k=>usdK t.H k*untN k) hk;rw[hu] at h1;have h2:slK t.H k+1<=byN k t.peak.toNat:=Q6c h8 (by omega);have h3:sumR 8 (fun k'=>slK t.H k'+if k'=k then 1 else 0)<=sumR 8 fun k=>byN k t.peak.toNat:=Q2G fun k' hk'=>by
   split
   ·rename_i e;rw[e];exact h2
   ·exact g.pgs k' hk'
  have h4:=Q38 (n:=8) (f:=fun k'=>slK t.H k'+if k'=k then 1 else 0) (g:=fun k=>slK t.H k) h8 fun i hi he=>by rw[if_neg he];rfl
  simp only[if_pos] at h4;rw[show pagN k=1 from if_pos h8];omega
 ·have h1:sumR 8 (fun k=>slK t.H k)<=sumR 8 fun k=>byN k t.peak.toNat:=Q2G fun k' hk'=>g.pgs k' hk';have hu:untN k=pagN k*512:=by unfold untN pagN;rw[if_neg (by omega),if_neg (by omega)]
  omega
theorem QcB(g:HOk s A H)(hl:A.cs.length=s.nC*s.C){win:List Int}(hn:win.Nodup)(hr:∀c ∈ win,0<=c /\ c<(s.C:Int))(all:∀p,A.cs[p]? = some true->Cl.inW s.C win p=true->inPg H.T p):win.length*s.nC<=H.T.length+Cl.cnt A.cs s.C win:=by
 have h1:=Q91 (nC:=s.nC) (C:=s.C) win hn hr;have h2:Cl.cnt (List.replicate (s.nC*s.C) false) s.C win=(List.range A.cs.length).countP (Cl.inW s.C win):=by
  unfold Cl.cnt;rw[zzlrp,hl];refine List.countP_congr fun p hp=>?_;have hp:=List.mem_range.1 hp;rw[decide_eq_true_eq];exact⟨fun h=>h.2,fun h=>⟨by rw[List.getElem?_replicate,if_pos hp],h⟩⟩
 have h3:=Q2J (Cl.inW s.C win) (fun p=>decide (A.cs[p]? = some false)) (List.range A.cs.length);have h4:(List.range A.cs.length).countP (fun p=>Cl.inW s.C win p && decide (A.cs[p]? = some false))=Cl.cnt A.cs s.C win:=by
  unfold Cl.cnt;refine List.countP_congr fun p _=>?_;rw[Bool.and_eq_true,decide_eq_true_eq,decide_eq_true_eq];exact and_comm
 have h5:(List.range A.cs.length).countP (fun p=>Cl.inW s.C win p && !decide (A.cs[p]? = some false))<=H.T.length:=by
  rw[List.countP_eq_length_filter,show H.T.length=(H.T.map fun y=>y.2.toNat).length from(List.length_map _).symm];refine Q6o (List.nodup_range.filter _) fun p hp=>?_;obtain⟨hp,h⟩:=List.mem_filter.1 hp;have hp:=List.mem_range.1 hp;rw[Bool.and_eq_true] at h;have hct:A.cs[p]? = some true:=by
   rw[zzgge hp] at h ⊢;cases hb:A.cs[p]
   ·rw[hb] at h;simp at h
   ·rfl
  obtain⟨y,hy,e⟩:=all p hct h.1;exact List.mem_map.2 ⟨y,hy,by omega⟩
 omega
theorem QdA(g:AdInv s a){m:Nat}(hm:m<8)(ht:a.tn m=some t):∀p,a.A.cs[p]? = some true->Cl.inW s.C t.H.win p=true->inPg t.H.T p:=fun p hp hw=>by
 obtain⟨j,hj,hin⟩:=g.all p hp;have gt:=g.tn m t hm ht;have hcm:=(gt.win _).1 (Q2w.1 hw);have hcj:=Qeo g hj hin;have e:j=m:=Classical.byContradiction fun e=>g.dis j m hj hm e _ hcj hcm;subst e;rw[ht] at hin;exact hin
theorem QbE(g:AdInv s a){lo:Int}{m:Nat}(hm:m<8)(ht:a.tn m=some t)(c:CapI lo t)(fr:FrH t.H){n:Int}(hn:1<=n /\ n<=8192)(hc:t.q.cb+untN (clsN n.toNat)<=t.q.lb)(hq:t.q.lb<=4096)(hx:t.nx<17592186044416) :
  ∃k m b j,Got s a.A t n (getM s a.A t n) k m b j /\ FrH (getM s a.A t n).t.H:=by
 have gt:=g.tn m t hm ht;have c24:=Q15 (n:=n.toNat) (by omega);obtain⟨e0,f0⟩:=QfR gt.inv.ok.h fr hn (n:=n) fun h=>by
  have h1:=Qaq gt.inv c24 hc hq;have h2:=Q8p gt.inv c24 hc h;have h3:=gt.inv.dem;have h4:=gt.lp;have h5:=QcB gt.inv.ok.h g.cl gt.wn (fun c hc=>g.rng m hm c ((gt.win c).1 hc)) (QdA g hm ht);have h6:t.H.win.length=(a.ws m).length:=((List.perm_ext_iff_of_nodup gt.wn (g.nd m hm)).2 gt.win).length_eq;unfold hoB;rw[Bool.and_eq_true,decide_eq_true_eq,decide_eq_true_eq];rw[h6] at h5;exact⟨h1,by omega⟩
 rcases Q25 gt.inv c n with⟨q,_,_,_,z⟩ | ⟨_,_,_,_,z,_⟩ | ⟨k,m,b,j,h⟩
 ·exfalso;rcases z with z | z | z
  ·
   have hchg:chgI n=(untN (clsN n.toNat):Int):=if_pos hn;have hu:=Q46 c24;have r0:=gt.inv.r0;unfold getM at z;rw[if_neg (by omega),if_neg (not_not_intro (show t.q.fits (chgI n).toNat 0 from⟨by omega,by have:=gt.inv.ok.q.p;omega⟩)),if_neg (by omega),if_neg (not_not_intro e0)] at z;split at z
   ·cases z
   split at z
   ·cases z
   ·cases z
  ·exact z hn
  ·omega
 ·exact absurd e0 z
 ·exact⟨k,m,b,j,h,by rw[h.hp];exact f0⟩
theorem QbD(g:TnInv s A t){n:Int}(hn:1<=n /\ n<=8192)(hc:¬t.q.cb+untN (clsN n.toNat)<=t.q.lb):getM s A t n=⟨0,0,3,A,t⟩:=by
 have hchg:chgI n=(untN (clsN n.toNat):Int):=if_pos hn;have hu:=Q46 (Q15 (n:=n.toNat) (by omega));unfold getM;rw[if_neg (by omega),if_pos];rintro⟨h1,_⟩;have r0:=g.r0;omega
end
end
section
open Go.RowKit Go.Maps Thing
def malO(id:Nat)(n:Int):Op:=⟨4,(id:Int),n,0,0,ByteArray.mk #[]⟩
def freO(id:Nat)(h:Int):Op:=⟨6,(id:Int),0,0,h,ByteArray.mk #[]⟩
structure FullS (x:Se) (id:Nat) (t:Tn) (l:List (Int × Int)):Prop where
 tn:x.a.tn id=some t
 fd:∀p ∈ l,Cp.findS t.id t.S p.1=some (7,Hd.uN p.1,p.2)
 nd:(l.map (·.2)).Nodup
 ob:∀k,(t.ob k).isSome=true ↔ k ∈ l.map (·.2)
section
variable{s:Sv}{A:Ax}{t:Tn}{a:Ad}{x:Se}{id:Nat}{lo:Nat->Int}
theorem Q98{o:Op}(hc:chkE o=0)(k:4<=o.K)(hT:o.T=(id:Int))(ht:x.a.tn id=some t) :
  (doM s x o).a.E=(askM s (fgt x.a).A t o).a.E /\ (doM s x o).a.Hd=(askM s (fgt x.a).A t o).a.Hd /\ (doM s x o).a.Ad=(askM s (fgt x.a).A t o).a.Ad /\ (doM s x o).x.a.tn id=some (askM s (fgt x.a).A t o).t:=by
 have eT:o.T.toNat=id:=by rw[hT,zztnc]
 have ht':(fgt x.a).tn o.T.toNat=some t:=by rw[eT];exact ht
 have ea:doA s (fgt x.a) o=⟨(askM s (fgt x.a).A t o).a,{fgt x.a with A:=(askM s (fgt x.a).A t o).A,tn:=updF (fgt x.a).tn o.T.toNat (some (askM s (fgt x.a).A t o).t)}⟩:=by
  unfold doA;rw[if_neg (by omega),if_neg (by omega),if_neg (by omega),ht']
 unfold doM;rw[if_neg (not_not_intro hc)];refine⟨?_,?_,?_,?_⟩
 ·show(doA s (fgt x.a) o).a.E=_;rw[ea]
 ·show(doA s (fgt x.a) o).a.Hd=_;rw[ea]
 ·show(doA s (fgt x.a) o).a.Ad=_;rw[ea]
 ·show(doA s (fgt x.a) o).x.tn id=_;rw[ea,eT];exact Q0g _ _ _
theorem Q8Y(hid:id<8)(n:Int):chkE (malO id n)=0:=by
 unfold chkE;rw[if_neg];show ¬((4:Int)<1 \/ (4:Int)>11 \/ (id:Int)<0 \/ (id:Int)>=8 \/ ((0:Nat):Int)>8192 \/ (((0:Nat):Int)>0 /\ (4:Int) ≠ 10));omega
theorem QdP(hid:id<8)(h:Int):chkE (freO id h)=0:=by
 unfold chkE;rw[if_neg];show ¬((6:Int)<1 \/ (6:Int)>11 \/ (id:Int)<0 \/ (id:Int)>=8 \/ ((0:Nat):Int)>8192 \/ (((0:Nat):Int)>0 /\ (6:Int) ≠ 10));omega
theorem Q8P(n:Int):askM s A t (malO id n)=⟨ansG (getM s A t n),(getM s A t n).A,(getM s A t n).t⟩:=by
 unfold askM;exact if_pos rfl
theorem QdF(h:Int):askM s A t (freO id h)=freR A t h:=by
 unfold askM;rw[if_neg (show ¬(freO id h).K=4 from by show ¬(6:Int)=4;omega),if_neg (show ¬(freO id h).K=5 from by show ¬(6:Int)=5;omega)];exact if_pos rfl
theorem Qbw{S:Int->Option Cp.Sl}{T h a:Int}{base n j:Nat}{nx r b:Int}{z:Cp.Sl}(hj:Cp.putK S base n nx=some j)(hf:Cp.findS T S h=some z):Cp.findS T (Cp.putS S base n nx r b) h=some z:=by
 obtain⟨h1,h2,h3,h4,h5⟩:=Cp.findS_in hf;obtain⟨_,_,hno⟩:=Q1g hj;have e:Cp.putS S base n nx r b (Hd.uS h)=some z:=by
  unfold Cp.putS;rw[hj];show Cp.updS S _ _ _=_;unfold Cp.updS;rw[if_neg]
  ·exact h3
  ·intro e;rw[e,hno] at h3;cases h3
 unfold Cp.findS;rw[if_pos ⟨h1,h2⟩,e];show(if z.1=Hd.uR h /\ z.2.1=Hd.uN h then some z else none)=_;rw[if_pos ⟨h4,h5⟩]
theorem Qbv{S:Int->Option Cp.Sl}{T:Int}{j:Nat}{nx b:Int}(hT:0<=T /\ T<=7)(hn:1<=nx)(hj:Cp.putK S 0 4096 nx=some j):Cp.findS T (Cp.putS S 0 4096 nx 7 b) (Hd.packV T (j:Int) 7 nx)=some (7,nx,b):=by
 obtain⟨hjn,hx,hno⟩:=Q1g hj;have uT:Hd.uT (Hd.packV T (j:Int) 7 nx)=T:=by unfold Hd.uT Hd.packV;omega
 have uR:Hd.uR (Hd.packV T (j:Int) 7 nx)=7:=by unfold Hd.uR Hd.packV;omega
 have uS:Hd.uS (Hd.packV T (j:Int) 7 nx)=(j:Int):=by unfold Hd.uS Hd.packV;omega
 have uN:Hd.uN (Hd.packV T (j:Int) 7 nx)=nx:=Q50 (by omega) (by omega) (by omega);unfold Cp.findS;rw[if_pos ⟨by rw[Hd.HOk,uT,uS,uR,uN];omega,uT⟩,uS,uR,uN];have e:Cp.putS S 0 4096 nx 7 b (j:Int)=some (7,nx,b):=by
  unfold Cp.putS;rw[hj];show Cp.updS S _ _ _=_;unfold Cp.updS;rw[if_pos (by omega)]
 rw[e];exact if_pos ⟨rfl,rfl⟩
theorem QfD(g:AdInv s x.a)(c:CapA lo x.a)(hid:id<8){l:List (Int × Int)}(h:FullS x id t l)(fr:FrH t.H){n:Int}(hn:1<=n /\ n<=8192)(hc:t.q.cb+untN (clsN n.toNat)<=t.q.lb)(hq:t.q.lb<=4096)(hx:t.nx<17592186044416) :
  (doM s x (malO id n)).a.E=0 /\ ∃t',FullS (doM s x (malO id n)).x id t' (l++[((doM s x (malO id n)).a.Hd,(doM s x (malO id n)).a.Ad)]) /\ FrH t'.H /\ t'.q.cb=t.q.cb+untN (clsN n.toNat) /\ t'.q.lb=t.q.lb /\ t'.nx=t.nx+1:=by
 have gf:AdInv s (fgt x.a):=g.fgt;have ht:(fgt x.a).tn id=some t:=h.tn;have gt:=gf.tn id t hid ht;have ct:=c.tn id t hid h.tn;obtain⟨k,m,b,j,got,hfr⟩:=QbE gf hid ht ct fr hn hc hq hx;obtain⟨d1,d2,d3,d4⟩:=Q98 (s:=s) (Q8Y hid n) (by show(4:Int)<=4;omega) rfl h.tn;rw[Q8P] at d1 d2 d3 d4;have hid':=gt.id;have hnx:=gt.inv.ok.nx;refine⟨d1.trans got.e,_,⟨d4,fun p hp=>?_,?_,fun k'=>?_⟩,hfr,?_,got.lb,got.nx⟩
 ·show Cp.findS (getM s (fgt x.a).A t n).t.id (getM s (fgt x.a).A t n).t.S p.1=_;rw[got.id,got.ss];rcases zzmpd.1 hp with hp | hp
  ·exact Qbw (a:=0) got.pj (h.fd p hp)
  ·have hp:p=((doM s x (malO id n)).a.Hd,(doM s x (malO id n)).a.Ad):=by simpa using hp
   subst hp;rw[d2,d3];show Cp.findS t.id _ (getM s (fgt x.a).A t n).h=some (7,Hd.uN (getM s (fgt x.a).A t n).h,(getM s (fgt x.a).A t n).ad);rw[got.h,got.ad];have hj:=Q1g got.pj;rw[Q50 (by omega) (by omega) (by omega)];exact Qbv (by omega) hnx.1 got.pj
 ·rw[List.map_append];refine List.nodup_append.2 ⟨h.nd,by simp,fun y hy z hz e=>?_⟩;have hz:z=(doM s x (malO id n)).a.Ad:=by simpa using hz
  rw[d3] at hz;have hz:z=(adrN k m b:Int):=hz.trans got.ad;have:=(h.ob y).2 hy;rw[e,hz,got.no] at this;cases this
 ·show((getM s (fgt x.a).A t n).t.ob k').isSome=true ↔ _;rw[got.ob,List.map_append,zzmpd,d3];show _ ↔ _ \/ k' ∈ [(getM s (fgt x.a).A t n).ad];rw[List.mem_singleton,got.ad];by_cases e:k'=(adrN k m b:Int)
  ·rw[e,Q0r];simp
  ·rw[Q0q e,h.ob];simp[e]
 ·show(getM s (fgt x.a).A t n).t.q.cb=_;rw[got.cb,got.kc]
theorem QfB(g:AdInv s x.a)(hid:id<8)(ht:x.a.tn id=some t){n:Int}(hn:1<=n /\ n<=8192)(hc:¬t.q.cb+untN (clsN n.toNat)<=t.q.lb):(doM s x (malO id n)).a.E=3 /\ (doM s x (malO id n)).x.a.tn id=some t:=by
 have gf:AdInv s (fgt x.a):=g.fgt;have gt:=gf.tn id t hid ht;obtain⟨d1,d2,d3,d4⟩:=Q98 (s:=s) (Q8Y hid n) (by show(4:Int)<=4;omega) rfl ht;rw[Q8P] at d1 d4;have e:=QbD (A:=(fgt x.a).A) gt.inv hn hc;rw[e] at d1 d4;exact⟨d1,d4⟩
theorem QfC(hid:id<8){h b:Int}{l:List (Int × Int)}(f:FullS x id t ((h,b) :: l)):(doM s x (freO id h)).a.E=0 /\ ∃t',FullS (doM s x (freO id h)).x id t' l:=by
 obtain⟨d1,d2,d3,d4⟩:=Q98 (s:=s) (QdP hid h) (by show(4:Int)<=6;omega) rfl f.tn;rw[QdF] at d1 d4;have hf:=f.fd (h,b) (by simp);have hfn:fnO t.id t.S h 4=some b:=by
  unfold fnO;rw[hf];have:¬((4:Int)<0 \/ (4:Int)>7 \/ Cp.may (7,Hd.uN h,b) 4=false):=by
   have hm:Cp.may (7,Hd.uN h,b) 4=true:=by
    show(bits .and .i64 7 4 == 4)=true;decide
   rw[hm];simp
  exact if_neg this
 have er:freR (fgt x.a).A t h=⟨{anE 0 with C:=((putM (fgt x.a).A t b).q.cb:Int)},putA (fgt x.a).A t b,putM (fgt x.a).A t b⟩:=by
  unfold freR;rw[hfn]
 rw[er] at d1 d4;refine⟨d1,putM (fgt x.a).A t b,d4,fun p hp=>?_,?_,fun k=>?_⟩
 ·have hp':=f.fd p (zzmcm _ hp);obtain⟨h1,h2,h3,h4,h5⟩:=Cp.findS_in hp';have hne:p.2 ≠ b:=fun e=>by
   have:=(List.nodup_cons.1 f.nd).1;exact this (List.mem_map.2 ⟨p,hp,e⟩)
  show Cp.findS t.id (Cp.revS t.S b 4160) p.1=_;have e:Cp.revS t.S b 4160 (Hd.uS p.1)=some (7,Hd.uN p.1,p.2):=by
   unfold Cp.revS;rw[if_neg,h3];rintro⟨q,_⟩;rw[h3] at q;have q:(p.2 == b)=true:=q;exact hne (by simpa using q)
  unfold Cp.findS;rw[if_pos ⟨h1,h2⟩,e];exact if_pos ⟨h4,h5⟩
 ·exact(List.nodup_cons.1 f.nd).2
 ·show(updI t.ob b none k).isSome=true ↔ _;have hb:=(List.nodup_cons.1 f.nd).1;by_cases e:k=b
  ·rw[e,Q0r];exact⟨fun z=>(by cases z),fun z=>absurd z hb⟩
  ·rw[Q0q e,f.ob,List.map_cons,List.mem_cons];exact⟨fun z=>z.resolve_left e,.inr⟩
theorem Q9i(g:AdInv s x.a)(hid:id<8)(f:FullS x id t []):oT (x.a.tn id)=[] /\ chgO x.a id=0:=by
 have gt:=(g.tn id t hid f.tn).inv;have em:∀k,t.ob k=none:=fun k=>by
  cases h:t.ob k with
  | none=>rfl
  | some v=>have:=(f.ob k).1 (by rw[h];rfl);cases this
 have z:∀k,k<24->slK t.H k=0:=fun k hk=>by
  unfold slK;have:=Q0d (n:=sltN k) (f:=fun m=>if (t.H.sl k)[m]? = some true then 1 else 0) (g:=fun _=>0) fun m hm=>if_neg (Q32 gt em hk hm);rw[this];have:=Q0P (sltN k) 0 (fun _=>0);simpa using this
 have u:∀k,k<24->usdK t.H k=0:=fun k hk=>by
  unfold usdK;have:=Q0d (n:=sltN k) (f:=usd t.H k) (g:=fun _=>0) fun m hm=>Q54 gt.ok.h hk hm (Q32 gt em hk hm);rw[this];have:=Q0P (sltN k) 0 (fun _=>0);simpa using this
 have z24:sumR 24 (fun _=>0)=0:=by
  have:=Q0P 24 0 (fun _=>0);simpa using this
 constructor
 ·rw[f.tn];show t.H.T=[];refine List.eq_nil_of_length_eq_zero ?_;rw[Q1f gt.ok.h];have:=Q0d (n:=24) (f:=fun k=>slK t.H k*pagN k) (g:=fun _=>0) fun k hk=>by rw[z k hk,Nat.zero_mul]
  rw[this,z24]
 ·unfold chgO;rw[f.tn];show((t.q.cb:Nat):Int)=0;rw[gt.cb];have:chgH t.H=0:=by
   unfold chgH;have:=Q0d (n:=24) (f:=fun k=>usdK t.H k*untN k) (g:=fun _=>0) fun k hk=>by rw[u k hk,Nat.zero_mul]
   rw[this,z24]
  rw[this];rfl
theorem QbC(g:AdInv s x.a)(hid:id<8)(ht:x.a.tn id=some t)(em:∀k,t.ob k=none):FullS x id t [] /\ FrH t.H /\ t.q.cb=0:=by
 have gt:=(g.tn id t hid ht).inv;have f:FullS x id t []:=⟨ht,fun p hp=>(by cases hp),List.nodup_nil,fun k=>by rw[em];simp⟩;refine⟨f,fun v q hS=>?_,?_⟩
 ·obtain⟨a1,_,m,a3,_,a5,_⟩:=gt.ok.h.pg v q hS;exact absurd a5 (Q32 gt em (by omega) a3)
 ·have:=(Q9i g hid f).2;unfold chgO at this;rw[ht] at this;have this:((t.q.cb:Nat):Int)=0:=this;omega
theorem Q62{k m b:Nat}(hk:k<24)(hm:m<sltN k)(hb:b<perM k):m*(pagN k*512)+b*untN k+untN k<=(m+1)*(pagN k*512) /\ (m+1)*(pagN k*512)<=131072:=by
 have h1:∀j:Fin 24,perM j.val*untN j.val<=pagN j.val*512 /\ sltN j.val*(pagN j.val*512)<=131072:=by decide +kernel
 obtain⟨h1,h2⟩:=h1 ⟨k,hk⟩;have h1:perM k*untN k<=pagN k*512:=h1;have h2:sltN k*(pagN k*512)<=131072:=h2;have h3:(b+1)*untN k<=perM k*untN k:=zzmlr _ hb;have h4:(m+1)*(pagN k*512)<=sltN k*(pagN k*512):=zzmlr _ hm;rw[Nat.add_mul,Nat.one_mul] at h3;have h5:(m+1)*(pagN k*512)=m*(pagN k*512)+pagN k*512:=by rw[Nat.add_mul,Nat.one_mul]
 omega
theorem Q8L{k m b k' m' b':Nat}(hk:k<24)(hm:m<sltN k)(hb:b<perM k)(hk':k'<24)(hm':m'<sltN k')(hb':b'<perM k')(h:adrN k m b<adrN k' m' b'):adrN k m b+untN k<=adrN k' m' b':=by
 obtain⟨f1,f2⟩:=Q62 hk hm hb;obtain⟨f3,f4⟩:=Q62 hk' hm' hb';have e1:adrN k m b=131072*(k+1)+m*(pagN k*512)+b*untN k:=rfl;have e2:adrN k' m' b'=131072*(k'+1)+m'*(pagN k'*512)+b'*untN k':=rfl;rcases Nat.lt_trichotomy k k' with e | e | e
 ·omega
 ·subst e;rcases Nat.lt_trichotomy m m' with e | e | e
  ·have:(m+1)*(pagN k*512)<=m'*(pagN k*512):=zzmlr _ e;omega
  ·subst e;have:b<b':=by
    refine Classical.byContradiction fun z=>?_;have:b'*untN k<=b*untN k:=zzmlr _ (by omega);omega
   have:(b+1)*untN k<=b'*untN k:=zzmlr _ this;rw[Nat.add_mul,Nat.one_mul] at this;omega
  ·have:(m'+1)*(pagN k*512)<=m*(pagN k*512):=zzmlr _ e;omega
 ·omega
end
end
section
open Go.RowKit Go.Maps Thing
section
variable{s:Sv}{A:Ax}{t:Tn}{a:Ad}{x:Se}{lo:Nat->Int}{l:Int}
theorem Q80(g:TnInv s A t)(c:CapI l t)(n:Int):(getM s A t n).t.nx<=t.nx+1:=by
 rcases Q25 g c n with⟨_,_,e,_⟩ | ⟨_,_,e,_⟩ | ⟨k,m,b,j,h⟩
 ·rw[e];omega
 ·rw[e];show t.nx<=t.nx+1;omega
 ·rw[h.nx];omega
theorem Qfe(S:Int->Option Cp.Sl)(b n:Nat)(x:Int):Cp.putN S b n x<=x+1:=by
 unfold Cp.putN;split <;> omega
theorem QgD(g:TnInv s A t)(c:CapI l t)(o:Op):(askM s A t o).t.nx<=t.nx+1:=by
 have r:t.nx<=t.nx+1:=by omega
 unfold askM;split
 ·exact Q80 g c _
 split
 ·unfold calR;split
  ·exact Q80 g c _
  ·exact r
 split
 ·unfold freR;split
  ·exact r
  ·exact r
 split
 ·unfold rlcR;split
  ·exact r
  split
  ·exact r
  split
  ·split
   ·exact Q80 g c _
   ·exact Q80 g c _
  ·exact r
 split
 ·exact r
 split
 ·rw[Qa7];exact r
 split
 ·rw[Qbc];exact r
 ·show Cp.restN t.id t.S t.nx o.H o.N<=_;unfold Cp.restN;split
  ·exact Qfe _ _ _ _
  ·exact r
theorem Q81{m i:Nat}{o:Option Tn}{v:Int}(h:curO o v<=curA a m+1):curO (updF a.tn m o i) (updF a.se m v i)<=curA a i+1:=by
 by_cases e:i=m
 ·subst e;rw[Q0g,Q0g];exact h
 ·rw[Q0n e,Q0n e];show curA a i<=_;omega
theorem QgE(g:AdInv s a)(c:CapA lo a){o:Op}(h:chkE o=0)(i:Nat):curA (doA s a o).x i<=curA a i+1:=by
 obtain⟨_,_,h0,h8,_⟩:=Q3O h;obtain⟨K,T,N,M,Hh,D⟩:=o;have h0:0<=T:=h0;have h8:T<8:=h8;obtain⟨m,rfl⟩:=zzeoz h0;have hm:m<8:=by omega
 have refl:curA a i<=curA a i+1:=by omega
 unfold doA;dsimp only;split
 ·show curA (creM s a (m:Int) M N).a i<=_;unfold creM;split;· exact refl
  split;· exact refl
  rename_i hn;rw[zztnc] at hn;have hnone:a.tn m=none:=by
   cases e:a.tn m with
   | none=>rfl
   | some t=>rw[e] at hn;exact absurd rfl hn
  split;· exact refl
  split;· exact refl
  split;· exact refl
  rw[zztnc];split
  ·have:=Q81 (a:=a) (m:=m) (i:=i) (v:=a.se m) (o:=some (T0 (rooN s.nC s.C (tkL a.hs M.toNat)) (m:Int) (a.se m) N (tkL a.hs M.toNat))) (by rw[Q22 hnone];show a.se m<=a.se m+1;omega);rw[Q0A] at this;exact this
  ·exact refl
 split
 ·show curA (resM s a (m:Int) M N).a i<=_;rcases Q7L g (m:Int) M N with e | ⟨m',t,t',e1,e2,e3,e4,e5,e6,e7,e8,e9⟩
  ·rw[e];exact refl
  ·have em:m'=m:=by omega
   subst em;have:=Q81 (a:=a) (m:=m') (i:=i) (v:=a.se m') (o:=some t') (by rw[Q22 e3];show t'.nx<=t.nx+1;rw[e7];omega);rw[Q0A] at this;show curO ((resM s a (m':Int) M N).a.tn i) ((resM s a (m':Int) M N).a.se i)<=_;rw[e4,e5];exact this
 split
 ·show curA (desM s a (m:Int)).a i<=_;unfold desM;split;· exact refl
  rw[zztnc];cases ht:a.tn m with
  | none=>exact refl
  | some t=>exact Q81 (a:=a) (m:=m) (i:=i) (v:=t.nx) (o:=none) (by rw[Q22 ht];show t.nx<=t.nx+1;omega)
 rw[zztnc];cases ht:a.tn m with
 | none=>exact refl
 | some t=>
  have gt:=g.tn m t hm ht;have ct:=c.tn m t hm ht;have:=Q81 (a:=a) (m:=m) (i:=i) (v:=a.se m) (o:=some (askM s a.A t ⟨K,(m:Int),N,M,Hh,D⟩).t) (by rw[Q22 ht];exact QgD gt.inv ct _);rw[Q0A] at this;exact this
theorem up_do(g:AdInv s x.a)(c:CapA lo x.a)(o:Op)(i:Nat):curA (doM s x o).x.a i<=curA x.a i+1:=by
 unfold doM;split
 ·show curA x.a i<=_;omega
 ·rename_i hc;exact QgE (o:=o) g.fgt (Q6U c) (by simpa using hc) i
theorem Qb9:∀(l:List Stp) {n:Rn} {k:Nat},RnInv s n k->CapA (fun _=>1) n.x.a->(∀i,curA n.x.a i<=1+k)->(∀x ∈ l,StpOk x)->∀i,curA (l.foldl (runS s) n).x.a i<=1+(k+l.length:Nat)
 | [],n,k,_,_,h,_=>h
 | x :: l,n,k,g,c,h,ok=>by
  have:=Qb9 l (Q35 g (ok x (by simp))) (Q97 g.ad c (hOf n.g x)).1 (fun i=>by
   have h1:=up_do g.ad c (hOf n.g x) i;have h2:=h i;show curA (doM s n.x (hOf n.g x)).x.a i<=_;omega) fun y hy=>ok y (by simp[hy])
  rw[List.length_cons,show k+(l.length+1)=k+1+l.length by omega];exact this
theorem Qg4{P0 C0:Int}(g:SvOk s P0 C0){l:List Stp}(h:∀x ∈ l,StpOk x)(i:Nat):curA (runL s l).x.a i<=1+(l.length:Nat):=by
 have:=Qb9 l (run0 g) QcG (fun i=>by show(1:Int)<=1+(0:Nat);omega) h i
 rwa [Nat.zero_add] at this
end
end
set_option maxRecDepth 20000
section
open Go.RowKit Go.Maps Thing
section
variable{w:World}{R:VW}
theorem Qa5{k:Nat}(hk:k<24)(r:∀w',Ext w w'->R (.int .i64 (untN k:Int)) w'):CS 55 #[.int .i64 (k:Int)] w R:=by
 constructor;refine vc107.ok ?_;unfold vc107;refine Q09 fun n0 w1 hb hE _ _=>Q00 (zzdcf (by omega)) (Q00 (zzdcf (by omega)) (ifD (fun h8=>⟨by omega,by omega,?_⟩) (fun h8=>?_)))
 ·have hk8:k<8:=by omega
  rw[zztnc,Q02];have eu:untN k=unitN k:=if_pos hk8;rw[eu] at r;refine⟨(unitN k:Int),Q01 hb ?_,r w1 hE⟩;have:∀j:Fin 8,(#[Value.int .i64 16,Value.int .i64 32,Value.int .i64 48,Value.int .i64 64,Value.int .i64 96,Value.int .i64 128,Value.int .i64 192,Value.int .i64 256]:Array Value)[0+j.val]? = some (.int .i64 (unitN j.val:Int)):=fun j=>by
   match j with
   | 0=>rfl
   | 1=>rfl
   | 2=>rfl
   | 3=>rfl
   | 4=>rfl
   | 5=>rfl
   | 6=>rfl
   | 7=>rfl
  exact this ⟨k,hk8⟩
 ·have eu:untN k=(k-7)*512:=if_neg (by omega);rw[eu] at r;rw[Q04 (n:=(k:Int)-7) (by omega) (by omega),Q04 (by omega) (by omega),show((k:Int)-7)*512=(((k-7)*512:Nat):Int) by omega];exact r w1 hE
end
end
set_option maxRecDepth 20000
section
open Go.RowKit Go.Maps Thing
theorem Qb0{W:World}(tab:Sf.Tab W):∃o,(tabT o).P W (· = 0):=by
 have h:=tab 0 _ rfl;cases e:W.heap[0]? with
 | none=>unfold World.cell? at h;rw[e] at h;cases h
 | some o=>exact⟨o,tab,e,rfl⟩
abbrev cfO(P0 C0:Int):Obj:=.cells #[.int .i64 P0,.int .i64 C0] 23 (0,0)
theorem Qgj{o:Obj}{W w:World}{F:Nat->Prop}{C:Thing}(h0:(tabT o).P W (· = 0))(h:(tabT o*C).P w F)(st:Step (· = 0) W F w) :
  CS 11 #[] w fun(v:Value) (w':World)=>∃(b:Bool),v=.bool b /\ Yes W (.bool b) w':=by
 obtain⟨F1,h1,sub⟩:=Q0f (A:=tabT o) (Y:=C) h rfl;refine QeP h1 fun w' F' h2 s2=>⟨true,rfl,rfl,?_⟩;exact Q8b h0 h2 ((st.sub sub).trans s2)
theorem Qdg{s:Sv}{sb:Nat}{y:Sy}{x:Se}{o:Obj}{W w:World}{F:Nat->Prop}{X C:Thing}(h0:(tabT o).P W (· = 0))(ho:s.o=o)(h:X.P w F)(e:X=svX s sb y x*C)(st:Step (· = 0) W F w) :
  CS 11 #[] w fun(v:Value) (w':World)=>∃(b:Bool),v=.bool b /\ Yes W (.bool b) w':=by
 subst ho;exact Qgj (C:=svTb s sb y x*C) h0 (re h (by rw[e,Qdf,Thing.mul_assoc])) st
end
set_option maxRecDepth 20000
section
open Go.RowKit Go.Maps Thing
theorem Qbo{n:Nat}(h:1<=n /\ n<=8192):n<=untN (clsN n) /\ ∀c,c<clsN n->untN c<n:=by
 by_cases q:n<=256
 ·obtain⟨h8,h1,h2⟩:=Q2t q;have e:∀c,c<8->untN c=unitN c:=fun c hc=>if_pos hc;exact⟨by rw[e _ h8];exact h1,fun c hc=>by rw[e c (by omega)];exact h2 c hc⟩
 ·have e:clsN n=8+(n-1) / 512:=by unfold clsN;rw[if_pos (by omega)]
  have e2:untN (clsN n)=(clsN n-7)*512:=if_neg (by omega);refine⟨by rw[e2,e];omega,fun c hc=>?_⟩;by_cases h8:c<8
  ·have:∀j:Fin 8,unitN j.val<=256:=by decide
   have:=this ⟨c,h8⟩;rw[show untN c=unitN c from if_pos h8];have:unitN c<=256:=this;omega
  ·rw[show untN c=(c-7)*512 from if_neg h8];omega
theorem Q53{k:Nat}(hk:k<24):1<=untN k /\ untN k<=8192 /\ clsN (untN k)=k /\ untN k % 16=0:=by
 have:∀j:Fin 24,1<=untN j.val /\ untN j.val<=8192 /\ clsN (untN j.val)=j.val /\ untN j.val % 16=0:=by decide +kernel
 exact this ⟨k,hk⟩
section
variable{w:World}{F:Nat->Prop}{X C:Thing}{R:VW}
theorem r_of{n:Nat}(hn:1<=n /\ n<=8192)(r:∀w',Ext w w'->R (.int .i64 (clsN n:Int)) w'):CS 54 #[.int .i64 (n:Int)] w R:=by
 constructor;refine vc106.ok ?_;unfold vc106;obtain⟨h1,h2⟩:=Qbo hn;have h3:=Q15 (n:=n) (by omega);refine Q00 (zzdcf (by omega)) ⟨fun f i w'=>∃j:Nat,i=(j:Int) /\ f+j=clsN n /\ Ext w w',⟨clsN n,0,rfl,rfl,Mod.refl _ _⟩,?_⟩;rintro f jv i w1 ⟨j,rfl,hf,hE⟩;refine Q03 (decide_eq_true (by omega)) (Qa5 (k:=j) (by omega) fun w2 hE2=>⟨_,rfl,Q05 (fun q=>?_) (fun q=>?_)⟩)
 ·have q:=zzodt q;have e:j=clsN n:=by
   refine Classical.byContradiction fun z=>?_;have:=h2 j (by omega);omega
  rw[e];exact r w2 (hE.trans hE2)
 ·have q:=of_decide_eq_false q;have e:j ≠ clsN n:=fun z=>by rw[z] at q;omega
  exact⟨f-1,by omega,j+1,by rw[Q04 (by omega) (by omega)];omega,by omega,hE.trans hE2⟩
theorem r_chg{n:Nat}(hn:1<=n /\ n<=8192)(r:∀w',Ext w w'->R (.int .i64 (untN (clsN n):Int)) w'):CS 21 #[.int .i64 (n:Int)] w R:=by
 constructor;refine vc90.ok ?_;unfold vc90;have h3:=Q15 (n:=n) (by omega);exact r_of hn fun w1 h1=>⟨_,rfl,Q00 (zzdcf (by omega)) (r_of hn fun w2 h2=>⟨_,rfl,Qa5 h3 fun w3 h3=>⟨_,rfl,r w3 ((h1.trans h2).trans h3)⟩⟩)⟩
theorem Qeu{k:Nat}(hk:k<24)(r:∀(a:Nat) w',Ext w w'->1<=a->a ∣ 512->a ∣ untN k->R (.int .i64 (a:Int)) w'):CS 57 #[.int .i64 (k:Int)] w R:=by
 constructor;refine vc109.ok ?_;unfold vc109;have p512:(512:Nat)=2 ^ 9:=by decide
 refine Q00 (zzdcf (by omega)) (Q00 (zzdcf (by omega)) ⟨fun f i w'=>∃j:Nat,i=((2 ^ j:Nat):Int) /\ f+j=9 /\ 2 ^ j ∣ untN k /\ Ext w w',⟨9,0,rfl,rfl,Nat.one_dvd _,Mod.refl _ _⟩,?_⟩);rintro f jv i w1 ⟨j,rfl,hf,hd,hE⟩;have hj1:1<=2 ^ j:=Nat.one_le_two_pow;have hj9:2 ^ j ∣ 512:=by rw[p512];exact Nat.pow_dvd_pow 2 (by omega)
 have hj5:2 ^ j<=512:=Nat.le_of_dvd (by omega) hj9;refine Q05 (fun q=>?_) (fun q=>r _ w1 hE hj1 hj9 hd);have q:=zzodt q;refine Qa5 hk fun w2 hE2=>⟨_,rfl,?_⟩;have e:IntKind.i64.wrap (2*((2 ^ j:Nat):Int))=((2 ^ (j+1):Nat):Int):=by
  have:2 ^ (j+1)=2 ^ j*2:=Nat.pow_succ 2 j;rw[Q04 (by omega) (by omega),this];omega
 rw[e];have hj2:1<=2 ^ (j+1):=Nat.one_le_two_pow;refine⟨by omega,Q05 (fun q2=>?_) (fun q2=>r _ w2 (hE.trans hE2) hj1 hj9 hd)⟩;have hf0:f ≠ 0:=fun z=>by
  have:j=9:=by omega
  subst this;exact absurd q (by decide)
 refine⟨f-1,by omega,j+1,rfl,by omega,?_,hE.trans hE2⟩;have q2:Int.tmod ((untN k:Nat):Int) ((2 ^ (j+1):Nat):Int)=0:=by simpa using q2
 rw[<-Int.ofNat_tmod] at q2;exact Nat.dvd_of_mod_eq_zero (by exact_mod_cast q2)
def BlkOk(z:Blk):Prop:=∃k m b,k<24 /\ m<sltN k /\ b<perM k /\ z.1=(adrN k m b:Int) /\ z.2.2=(untN k:Int) /\ 1<=z.2.1 /\ z.2.1<=z.2.2
theorem Qfp{s:Sv}{A:Ax}{t:Tn}(g:TnInv s A t){ss:List Int}(h:isKeys t.ob ss):∀z ∈ blkL t ss,BlkOk z:=fun z hz=>by
 obtain⟨a,ha,rfl⟩:=List.mem_map.1 hz;have hs:=(h.2.2 a).1 ha;cases hv:t.ob a with
 | none=>rw[hv] at hs;cases hs
 | some v=>
  obtain⟨k,m,b,e,v1,v2⟩:=g.ob1 a v hv;obtain⟨h1,h2,h3,h4,_⟩:=Q0F e;have eu:usbI t.H a=(untN k:Int):=by unfold usbI;rw[e]
  exact⟨k,m,b,h1,h2,h3,h4,eu,v1,by show v<=usbI t.H a;rw[eu];exact v2⟩
theorem Q5d{x y:Blk}(hx:BlkOk x)(hy:BlkOk y)(h:x.1<y.1):x.1+x.2.2<=y.1:=by
 obtain⟨k,m,b,h1,h2,h3,h4,h5,_⟩:=hx;obtain⟨k',m',b',g1,g2,g3,g4,g5,_⟩:=hy;have:=Q8L h1 h2 h3 g1 g2 g3 (by omega);omega
theorem Q8U{z:Blk}(h:BlkOk z):131072<=z.1 /\ z.1+z.2.2<=3276800 /\ 1<=z.2.2 /\ z.2.2<=8192:=by
 obtain⟨k,m,b,h1,h2,h3,h4,h5,_⟩:=h;obtain⟨f1,f2⟩:=Q62 h1 h2 h3;obtain⟨u1,u2,_⟩:=Q53 h1;have e1:adrN k m b=131072*(k+1)+m*(pagN k*512)+b*untN k:=rfl;omega
theorem setAt3b(arr:Array Value)(hs:arr.size=3)(a b c:Value):setAt arr 0 [a,b,c]=#[a,b,c]:=by
 obtain⟨l⟩:=arr;have hs:l.length=3:=hs
 match l,hs with
 | [_,_,_],_=>rfl
abbrev bxO(z:Blk):Obj:=.cells (blF z).toArray 99 (0,0)
theorem Q8S{z:Blk}{K:Nat->World->Prop}(h:X.P w F)(k:∀n w' F',(blk n (bxO z)*X).P w' F'->Step F w F' w'->K n w') :
  ∀(n:Nat)(w1:World),n=w.heap.size->w1=w.alloc (Obj.cells #[.int .i64 (0:Int),.int .i64 (0:Int),.int .i64 (0:Int)] 99)->WrC w1 (zA n) 3 /\ ∀(w2:World),w2=wr w1 (zA n) (blF z)->K n w2:=by
 refine Q0m h fun n w1 F1 h1 s1 _=>?_;refine Q0K (b:=n) (o:=0) (arr:=(blF (0,0,0)).toArray) (T:=99) (C:=X) h1 rfl (by simp[blF]) fun w2 F2 h2 s2=>?_;have e:setAt (blF (0,0,0)).toArray 0 (blF z)=(blF z).toArray:=setAt3b _ rfl _ _ _;rw[e] at h2;exact k n w2 F2 h2 (s1.trans s2)
theorem Q2r{n i:Nat}{z:Blk}{v:Value}(h:X.P w F)(e:X=blk n (bxO z)*C)(hv:(blF z)[i]? = some v):w.cell? ((zA n).add i)=some v:=by
 rw[Q02,Nat.zero_add];exact Q01 (Q0b h e) (by simpa using hv)
theorem Qca{z:Blk}(h:BlkOk z)(r:R (.bool true) w):CS 56 #[.int .i64 z.1,.int .i64 z.2.2] w R:=by
 constructor;refine vc108.ok ?_;unfold vc108;obtain⟨h1,h2,h3,h4⟩:=Q8U h;refine Q03 (decide_eq_true (by omega)) (Q03 (decide_eq_true (by omega)) (Q03 (decide_eq_true (by omega)) ?_));rw[Q04 (by omega) (by omega),decide_eq_true (by omega)];exact r
theorem Q8T{k m b i:Nat}(hi:i ∣ 512)(hu:i ∣ untN k):i ∣ adrN k m b:=by
 have e1:adrN k m b=131072*(k+1)+m*(pagN k*512)+b*untN k:=rfl;rw[e1];refine Nat.dvd_add (Nat.dvd_add ?_ ?_) (Nat.dvd_mul_left_of_dvd hu b)
 ·exact Nat.dvd_mul_right_of_dvd (Nat.dvd_trans hi ⟨256,rfl⟩) _
 ·exact Nat.dvd_mul_left_of_dvd (Nat.dvd_mul_left_of_dvd hi _) _
theorem QeN{l:List Blk}{p:Option Addr}{c:Nat}(h:X.P w F)(e:X=rwT 99 3 blF (.slice p l.length c) l*C)(hl:l.length<=100000000)(ok:∀z ∈ l,BlkOk z)(nd:(l.map (·.1)).Nodup)(r:∀w' F',X.P w' F'->Step F w F' w'->R (.bool true) w') :
  CS 22 #[.slice p l.length c] w R:=by
 subst e;constructor;refine vc82.ok ?_;unfold vc82
 let X:Thing:=rwT 99 3 blF (.slice p l.length c) l*C
 have h:X.P w F:=h;refine⟨fun f i w'=>∃j:Nat,i=(j:Int) /\ f+j=l.length /\ ∃F',X.P w' F' /\ Step F w F' w',⟨l.length,0,rfl,rfl,F,h,Step.refl _ _⟩,?_⟩;rintro f jv i w1 ⟨j,rfl,hf,F1,h1,s1⟩;refine Q05 (fun q=>?pos) (fun q=>?neg)
 case neg=>exact r w1 F1 h1 s1
 have q:=zzodt q;have rows:∀ {w':World} {F':Nat->Prop},X.P w' F'->ORow w' 99 3 blF (.slice p l.length c) l:=fun hp=>Q8t (e:=99) (k:=3) (f:=blF) (v:=.slice p l.length c) (l:=l) (Y:=C) hp rfl;obtain⟨x,hx⟩:∃x,l[j]? = some x:=⟨_,zzgge (by omega)⟩;obtain⟨a,ha,hc⟩:=ORow.cells Q69 (rows h1) hx;have okx:=ok x (zzmog hx);obtain⟨i1,i2,i3,i4⟩:=Q8U okx;refine⟨by omega,by omega,?_⟩;rw[ha,zztnc];refine⟨_,_,_,hc,Q8S h1 fun n9 w2 F2 h2 s2=>?_⟩;have s2:=s1.trans s2;rintro w3 rfl;have h3:=Thing.grow h2 (Ext.drew w2);have s3:=s2.trans (Step.ext (Ext.drew w2));generalize w2.drew=w3 at h3 s3 ⊢;obtain⟨k,m,b,k1,k2,k3,k4,k5,k6,k7⟩:=okx;have okx:=ok x (zzmog hx);obtain⟨u1,u2,u3,u4⟩:=Q53 k1;have c0:∀ {w':World} {F':Nat->Prop},(blk n9 (bxO x)*X).P w' F'->w'.cell? ((zA n9).add 0)=some (.int .i64 x.1):=fun hp=>Q2r hp rfl rfl;have c1:∀ {w':World} {F':Nat->Prop},(blk n9 (bxO x)*X).P w' F'->w'.cell? ((zA n9).add 1)=some (.int .i64 x.2.1):=fun hp=>Q2r hp rfl rfl;have c2:∀ {w':World} {F':Nat->Prop},(blk n9 (bxO x)*X).P w' F'->w'.cell? ((zA n9).add 2)=some (.int .i64 x.2.2):=fun hp=>Q2r hp rfl rfl;refine⟨_,c1 h3,Q00 (zzdcf (by omega)) ⟨_,c1 h3,_,c2 h3,rfl,Q00 (zzdcf (by omega)) ⟨_,c0 h3,_,c2 h3,Qca okx ⟨_,rfl,rfl,rfl,Q00 rfl ⟨_,c0 h3,_,c2 h3,?_⟩⟩⟩⟩⟩;rw[k5];refine r_of ⟨u1,u2⟩ fun w4 hE4=>⟨_,rfl,⟨_,c0 (Thing.grow h3 hE4),rfl⟩,?_⟩;rw[u3];refine Qeu k1 fun al w5 hE5 al1 al2 al3=>⟨_,rfl,⟨_,c0 (Thing.grow (Thing.grow h3 hE4) hE5),rfl⟩,by omega,rfl,rfl,?_⟩
 have h5:=Thing.grow (Thing.grow h3 hE4) hE5;have s5:=(s3.trans (Step.ext hE4)).trans (Step.ext hE5);have d1:Int.tmod x.1 (al:Int)=0:=by
  rw[k4,<-Int.ofNat_tmod,Nat.mod_eq_zero_of_dvd (Q8T al2 al3)];rfl
 have d2:Int.tmod x.1 8=0:=by
  rw[k4,show(8:Int)=((8:Nat):Int)from rfl,<-Int.ofNat_tmod,Nat.mod_eq_zero_of_dvd (Q8T ⟨64,rfl⟩ (Nat.dvd_of_mod_eq_zero (by omega)))];rfl
 refine Q00 (by rw[d1];rfl) ⟨_,c0 h5,by decide,rfl,rfl,Q00 (by rw[d2];rfl) ?_⟩;refine⟨fun f i w'=>∃j:Nat,i=(j:Int) /\ f+j=l.length /\ ∃F',(blk n9 (bxO x)*X).P w' F' /\ Step F w F' w',⟨l.length,0,rfl,rfl,F2,h5,s5⟩,?_⟩;rintro f2 jv2 i2 w6 ⟨j2,rfl,hf2,F6,h6,s6⟩;refine Q05 (fun q2=>?pos2) (fun q2=>?neg2)
 case neg2=>
  obtain⟨F7,h7,sub⟩:=Q07 h6;exact⟨f-1,by omega,j+1,by rw[Q04 (by omega) (by omega)];omega,by omega,F7,h7,s6.sub sub⟩
 have q2:=zzodt q2;obtain⟨y,hy⟩:∃y,l[j2]? = some y:=⟨_,zzgge (by omega)⟩;have rowy:=Q8t (e:=99) (k:=3) (f:=blF) (v:=.slice p l.length c) (l:=l) (Y:=blk n9 (bxO x)*C) h6 (sw4 _ _ _);obtain⟨a2,ha2,hc2⟩:=ORow.cells Q69 rowy hy;have oky:=ok y (zzmog hy);obtain⟨y1,y2,y3,y4⟩:=Q8U oky;refine⟨by omega,by omega,?_⟩;have ea:a2=a:=by rw[ha] at ha2;cases ha2;rfl
 subst ea;refine⟨_,_,_,by rw[zztnc];exact hc2,Q8S h6 fun n41 w7 F7 h7 s7=>?_⟩;obtain⟨F8,h8,sub⟩:=Q07 h7;have s8:=(s6.trans s7).sub sub;have fin:∃n53,n53<f2 /\ ∃j:Nat,IntKind.i64.wrap ((j2:Int)+1)=(j:Int) /\ n53+j=l.length /\ ∃F',(blk n9 (bxO x)*X).P w7 F' /\ Step F w F' w7:=⟨f2-1,by omega,j2+1,by rw[Q04 (by omega) (by omega)];omega,by omega,F8,h8,s8⟩;refine Q05 (fun q3=>?_) (fun _=>fin);have q3:j ≠ j2:=fun z=>by rw[z] at q3;simp at q3
 have hne:x.1 ≠ y.1:=fun z=>by
  have h1:(l.map (·.1))[j]? = some x.1:=by rw[List.getElem?_map,hx];rfl
  have h2:(l.map (·.1))[j2]? = some y.1:=by rw[List.getElem?_map,hy];rfl
  exact q3 ((List.getElem?_inj (by rw[List.length_map];omega) nd).1 (by rw[h1,h2,z]))
 refine⟨_,c0 h8,_,Q2r h7 rfl rfl,_,Q2r h7 rfl rfl,Q05 (fun q4=>?_) (fun _=>fin)⟩;refine⟨_,Q2r h7 rfl rfl,_,c0 h8,_,c2 h8,Q00 (zzdcf fun q5=>?_) fin⟩;have q4:=zzodt q4;rw[Q04 (by omega) (by omega)] at q4 q5;rcases Int.lt_or_gt_of_ne hne with z | z
 ·have:=Q5d okx oky z;omega
 ·have:=Q5d oky okx z;omega
end
end
section
open Go.RowKit Go.Maps Thing
section
variable{s:Sv}{A:Ax}{t:Tn}{a:Ad}{x:Se}
structure HdI (s:Sv) (n:Rn):Prop where
 cap:CapA (fun _=>1) n.x.a
 hd:∀p ∈ n.ops.zip n.said,p.2.Hd ≠ 0->0<=p.1.T /\ p.1.T<8 /\ Hd.uN p.2.Hd<curA n.x.a p.1.T.toNat
theorem Qe2{n:Rn}{k:Nat}(g:RnInv s n k)(h:HdI s n){st:Stp}(ok:StpOk st):HdI s (runS s n st):=by
 have hu:=Q6m g.g ok;have hd:=Q6Y g.ad hu;obtain⟨c1,c2,c3,_⟩:=Q97 g.ad h.cap (hOf n.g st);refine⟨c1,fun p hp h0=>?_⟩;have hp:p ∈ (n.ops++[hOf n.g st]).zip (n.said++[(doM s n.x (hOf n.g st)).a]):=hp;rw[List.zip_append (by rw[g.ol,g.sl])] at hp;show 0<=p.1.T /\ p.1.T<8 /\ Hd.uN p.2.Hd<curA (doM s n.x (hOf n.g st)).x.a p.1.T.toNat
 rcases zzmpd.1 hp with hp | hp
 ·obtain⟨q1,q2,q3⟩:=h.hd p hp h0;exact⟨q1,q2,Int.lt_of_lt_of_le q3 (c2 _ (by omega))⟩
 ·have:p=(hOf n.g st,(doM s n.x (hOf n.g st)).a):=by simpa using hp
  subst this;obtain⟨q1,q2⟩:=hd.2 h0;exact⟨q1,q2,c3.resolve_left h0⟩
theorem Q9r:∀(l:List Stp) {n:Rn} {k:Nat},RnInv s n k->HdI s n->(∀x ∈ l,StpOk x)->HdI s (l.foldl (runS s) n)
 | [],n,k,g,h,_=>h
 | x :: l,n,k,g,h,ok=>Q9r l (Q35 g (ok x (by simp))) (Qe2 g h (ok x (by simp))) fun y hy=>ok y (by simp[hy])
theorem Qg3{P0 C0:Int}(g:SvOk s P0 C0){l:List Stp}(h:∀x ∈ l,StpOk x):HdI s (runL s l):=
 Q9r l (run0 g) ⟨QcG,fun p hp=>(by cases hp)⟩ h
end
end
set_option maxRecDepth 100000
section
variable{w:World}{R:Value->World->Prop}
def va232:Ann:=⟨fun id=>cond (Nat.beq id 7) ⟨[(12,.slice none 0 0),(62,.int .i64 0)],([8,13]++rg 63 15)⟩ (cond (Nat.beq id 17) ⟨[(95,.int .i64 0)],([8,16,17]++rg 96 12)⟩ (LI.none)),fun l=>none,fun i=>cond (Nat.beq i 5) (some ⟨[],([8]++rg 29 27)⟩) (cond (Nat.beq i 16) (some ⟨[],([8,14]++rg 78 15)⟩) (none))⟩
def vc232(x0_0 x0_1:Int)(x1:ByteArray)(x2 x3:Int)(w:World)(R:VW):Prop:=
 ∀(n0:Nat)(w1:World),n0=w.heap.size->w1=w.alloc (.cells #[.int .i64 x0_0,.int .i64 x0_1] 23)->(8:Int) ≠ 0 /\ ∃i2 i3:Int,CellsAt w1 (zA n0) [.int .i64 i2,.int .i64 i3] /\ CS 9 #[.agg #[.int .i64 i2,.int .i64 i3],.string x1,.int .i64 120] w1 fun v4 w5=>∃(p6 p7:Option Addr)(n8 n9:Nat)(p10:Option Addr)(n11 n12:Nat),v4=.tuple #[.pointer p6,.slice p7 n8 n9,.slice p10 n11 n12] /\ ∃x13:World->Prop,ifB p6.isNone (CS 11 #[] w5 fun v14 w15=>∃b16:Bool,v14=.bool b16 /\ R (.bool b16) w15) (CS 17 #[.pointer p6,.int .i64 (IntKind.i64.wrap ((IntKind.u64.wrap x2).tmod 8))] w5 fun v17 w18=>∃b19:Bool,v17=.bool b19 /\ ifB (!b19) (CS 11 #[] w18 fun v20 w21=>∃b22:Bool,v20=.bool b22 /\ R (.bool b22) w21) (CS 18 #[.pointer p6,.int .i64 (IntKind.i64.wrap ((IntKind.u64.wrap x2).tmod 8))] w18 fun v23 w24=>∃(p25:Option Addr)(n26 n27:Nat),v23=.slice p25 n26 n27 /\ ifB ((↑n26:Int) != 0) (CS 11 #[] w24 fun v28 w29=>∃b30:Bool,v28=.bool b30 /\ R (.bool b30) w29) (CS 19 #[.int .i64 x3] w24 fun v31 w32=>∃i33:Int,v31=.int .i64 i33 /\ ifB (decide (i33<0)) (CS 11 #[] w32 fun v34 w35=>∃b36:Bool,v34=.bool b36 /\ R (.bool b36) w35) (CS 20 #[.pointer p6,.int .i64 (IntKind.i64.wrap ((IntKind.u64.wrap x2).tmod 8))] w32 fun v37 w38=>∃i39:Int,v37=.int .i64 i39 /\ ifB (decide (i39>4096)) (CS 11 #[] w38 fun v40 w41=>∃b42:Bool,v40=.bool b42 /\ R (.bool b42) w41) (x13 w38))))) /\ ∀(jv:Nat->Value)(w43:World),x13 w43->CS 20 #[.pointer p6,.int .i64 (IntKind.i64.wrap ((IntKind.u64.wrap x2).tmod 8))] w43 fun v44 w45=>∃i46:Int,v44=.int .i64 i46 /\ CS 21 #[.int .i64 x3] w45 fun v47 w48=>∃i49:Int,v47=.int .i64 i49 /\ i49 ≠ 0 /\ ∃x50:Nat->Option Addr->Nat->Nat->Int->World->Prop,(∃n51:Nat,x50 n51 none 0 0 0 w48) /\ ∀(n52:Nat)(jv:Nat->Value)(p53:Option Addr)(n54 n55:Nat)(i56:Int)(w57:World),x50 n52 p53 n54 n55 i56 w57->ifB (decide (i56<IntKind.i64.wrap (i46.tdiv i49))) (CS 14 #[.pointer p6,.agg #[.int .i64 4,.int .i64 (IntKind.i64.wrap ((IntKind.u64.wrap x2).tmod 8)),.int .i64 x3,.int .i64 0,.int .u64 0,.string (.mk #[])]] w57 fun v58 w59=>∃(i60 i61 i62 i63:Int)(s64:ByteArray)(i65:Int),v58=.agg #[.int .i64 i60,.int .u64 i61,.int .i64 i62,.int .i64 i63,.string s64,.int .i64 i65] /\ ∀(n66:Nat)(w67:World),n66=w59.heap.size->w67=w59.alloc (.cells #[.int .i64 0,.int .u64 0,.int .i64 0,.int .i64 0,.string (.mk #[]),.int .i64 0] 40)->WrC w67 (zA n66) 6 /\ ∀(w68:World),w68=wr w67 (zA n66) [.int .i64 i60,.int .u64 i61,.int .i64 i62,.int .i64 i63,.string s64,.int .i64 i65]->∃i69:Int,w68.cell? ((zA n66).add 0)=some (.int .i64 i69) /\ ifB (i69 != 0) (R (.bool false) w68) (∃i70:Int,w68.cell? ((zA n66).add 1)=some (.int .u64 i70) /\ ∀(n71:Nat)(w72:World),n71=w68.heap.size->w72=w68.alloc (.cells #[.int .u64 i70] 33)->∃(p73:Option Addr)(n74 n75:Nat)(w76:World),Sem.run prog (Builtin.append_ #[55,55] 55 #[.slice p53 n54 n55,.slice (some (zA n71)) 1 1]) w72=.ok (.slice p73 n74 n75) w76 /\ ∃n77:Nat,n77<n52 /\ x50 n77 p73 n74 n75 (IntKind.i64.wrap (i56+1)) w76)) (∃x78:World->Prop,(CS 14 #[.pointer p6,.agg #[.int .i64 4,.int .i64 (IntKind.i64.wrap ((IntKind.u64.wrap x2).tmod 8)),.int .i64 x3,.int .i64 0,.int .u64 0,.string (.mk #[])]] w57 fun v79 w80=>∃(i81 i82 i83 i84:Int)(s85:ByteArray)(i86:Int),v79=.agg #[.int .i64 i81,.int .u64 i82,.int .i64 i83,.int .i64 i84,.string s85,.int .i64 i86] /\ ∀(n87:Nat)(w88:World),n87=w80.heap.size->w88=w80.alloc (.cells #[.int .i64 0,.int .u64 0,.int .i64 0,.int .i64 0,.string (.mk #[]),.int .i64 0] 40)->WrC w88 (zA n87) 6 /\ ∀(w89:World),w89=wr w88 (zA n87) [.int .i64 i81,.int .u64 i82,.int .i64 i83,.int .i64 i84,.string s85,.int .i64 i86]->∃i90:Int,w89.cell? ((zA n87).add 0)=some (.int .i64 i90) /\ ifB (i90 != 3) (R (.bool false) w89) (CS 18 #[.pointer p6,.int .i64 (IntKind.i64.wrap ((IntKind.u64.wrap x2).tmod 8))] w89 fun v91 w92=>∃(p93:Option Addr)(n94 n95:Nat),v91=.slice p93 n94 n95 /\ CS 22 #[.slice p93 n94 n95] w92 fun v96 w97=>∃b98:Bool,v96=.bool b98 /\ ifB (!b98) (R (.bool false) w97) (x78 w97))) /\ ∀(jv:Nat->Value)(w99:World),x78 w99->∃x100:Nat->Int->World->Prop,(∃n101:Nat,x100 n101 0 w99) /\ ∀(n102:Nat)(jv:Nat->Value)(i103:Int)(w104:World),x100 n102 i103 w104->ifB (decide (i103<(↑n54:Int))) (0<=i103 /\ i103<(↑n54:Int) /\ someA p53 fun a105=>∃i106:Int,w104.cell? (a105.add i103.toNat)=some (.int .u64 i106) /\ CS 14 #[.pointer p6,.agg #[.int .i64 6,.int .i64 (IntKind.i64.wrap ((IntKind.u64.wrap x2).tmod 8)),.int .i64 0,.int .i64 0,.int .u64 i106,.string (.mk #[])]] w104 fun v107 w108=>∃(i109 i110 i111 i112:Int)(s113:ByteArray)(i114:Int),v107=.agg #[.int .i64 i109,.int .u64 i110,.int .i64 i111,.int .i64 i112,.string s113,.int .i64 i114] /\ ∀(n115:Nat)(w116:World),n115=w108.heap.size->w116=w108.alloc (.cells #[.int .i64 0,.int .u64 0,.int .i64 0,.int .i64 0,.string (.mk #[]),.int .i64 0] 40)->WrC w116 (zA n115) 6 /\ ∀(w117:World),w117=wr w116 (zA n115) [.int .i64 i109,.int .u64 i110,.int .i64 i111,.int .i64 i112,.string s113,.int .i64 i114]->∃i118:Int,w117.cell? ((zA n115).add 0)=some (.int .i64 i118) /\ ifB (i118 != 0) (R (.bool false) w117) (∃n119:Nat,n119<n102 /\ x100 n119 (IntKind.i64.wrap (i103+1)) w117)) (CS 15 #[.pointer p6,.int .i64 (IntKind.i64.wrap ((IntKind.u64.wrap x2).tmod 8))] w104 fun v120 w121=>∃(p122:Option Addr)(n123 n124:Nat),v120=.slice p122 n123 n124 /\ ifB ((↑n123:Int) == 0) (CS 23 #[.pointer p6,.int .i64 (IntKind.i64.wrap ((IntKind.u64.wrap x2).tmod 8))] w121 fun v125 w126=>∃i127:Int,v125=.int .i64 i127 /\ ifB (i127 == 0) (CS 11 #[] w126 fun v128 w129=>∃b130:Bool,v128=.bool b130 /\ R (.bool b130) w129) (R (.bool false) w126)) (R (.bool false) w121)))
theorem vc232.ok{x0_0 x0_1:Int}{x1:ByteArray}{x2 x3:Int}(h:vc232 x0_0 x0_1 x1 x2 x3 w R ):Calls prog 5 #[.agg #[.int .i64 x0_0,.int .i64 x0_1],.string x1,.int .i64 x2,.int .i64 x3] w (Ret R):=
 bodyE va232 Tryz.func5 (h:=h)
end
set_option maxRecDepth 20000
section
open Go.RowKit Go.Maps Thing
section
variable{w:World}{F:Nat->Prop}{X C:Thing}{R:VW}
theorem Q65{a:An}{K:Nat->World->Prop}(h:X.P w F)(k:∀n w' F',(bA n a*X).P w' F'->Step F w F' w'->K n w') :
  ∀(n:Nat)(w1:World),n=w.heap.size->w1=w.alloc (Obj.cells #[.int .i64 (0:Int),.int .u64 (0:Int),.int .i64 (0:Int),.int .i64 (0:Int),.string (ByteArray.mk #[]),.int .i64 (0:Int)] 40)->WrC w1 (zA n) 6 /\ ∀(w2:World),w2=wr w1 (zA n) (anL a)->K n w2:=by
 refine Q0m h fun n w1 F1 h1 s1 _=>?_;refine Q0K (b:=n) (o:=0) (arr:=(anL ⟨0,0,0,0,ByteArray.mk #[],0⟩).toArray) (T:=40) (C:=X) h1 rfl (by simp) fun w2 F2 h2 s2=>?_;rw[setAt6 _ rfl] at h2;exact k n w2 F2 h2 (s1.trans s2)
end
theorem walk_TopFull(P0 C0:Int)(_:-9223372036854775808<=P0 /\ P0<=9223372036854775807)(_:-9223372036854775808<=C0 /\ C0<=9223372036854775807)(str:ByteArray)(_:str.size<=maxLen)(_:str.size<=reachBytes)(x2:Int)(_:-9223372036854775808<=x2 /\ x2<=9223372036854775807)(x3:Int)(_:-9223372036854775808<=x3 /\ x3<=9223372036854775807)(W:World)(tab:Sf.Tab W) :
  Calls prog 5 #[.agg #[.int .i64 P0,.int .i64 C0],.string str,.int .i64 x2,.int .i64 x3] W (Ret (Yes W)):=by
 obtain⟨o,h0⟩:=Qb0 tab;obtain⟨id,hid,hlt⟩:=Qcf x2 8 (by decide) (by decide);have hid:IntKind.i64.wrap ((IntKind.u64.wrap x2).tmod 8)=(id:Int):=hid;refine vc232.ok ?_;unfold vc232;rw[hid];refine Q0m h0 fun n0 w1 F1 h1 s1 _=>⟨by decide,?_⟩;have h1:(blk n0 (cfO P0 C0)*tabT o).P w1 F1:=h1;refine⟨_,_,Q08 (vs:=[.int .i64 P0,.int .i64 C0]) (Q0b h1 rfl),?_⟩;refine Qcm (o:=o) (C:=blk n0 (cfO P0 C0)) P0 C0 str 120 (re h1 (zztmc _ _)) (fun _ w2 F2 h2 st2=>⟨_,_,_,_,_,_,_,rfl,fun _=>False,Q03 rfl (Qgj h0 h2 (s1.trans st2)),fun _ _ z=>z.elim⟩) fun hpl s sb y po co ps cs w2 F2 ho hs h2 st2=>?_;have s2:=s1.trans st2;obtain⟨_,_,h120,hcfg⟩:=hpl;have iv:=Qaj hs (Q7I str);have hd:=Qg3 hs (Q7I str);have up:=Qg4 hs (Q7I str) id;have hl:(rdL str).length<=120:=by omega
 generalize runL s (rdL str)=n at *
 generalize(rdL str).length=nl at *
 have g:=iv.ad;have dn:=iv.dn;refine⟨_,_,_,_,_,_,_,rfl,?_⟩
 let D:Thing:=dnT (.slice po n.ops.length co) n.ops*(saT (.slice ps n.said.length cs) n.said*blk n0 (cfO P0 C0))
 have h2:(svX s sb y n.x*D).P w2 F2:=h2;have fin:∀ {w':World} {F':Nat->Prop},(svX s sb y n.x*D).P w' F'->Step (· = 0) W F' w'->CS 11 #[] w' fun(v:Value) (w':World)=>∃(b:Bool),v=.bool b /\ Yes W (.bool b) w':=fun p st=>Qdg (C:=D) h0 ho p rfl st;refine⟨fun w'=>∃t,n.x.a.tn id=some t /\ (∀k,t.ob k=none) /\ (1<=x3 /\ x3<=8192) /\ t.q.lb<=4096 /\ ∃F',(svX s sb y n.x*D).P w' F' /\ Step (· = 0) W F' w',Q00 rfl ?_,?_⟩
 ·refine Qg7 (C:=D) h2 rfl hlt ⟨_,rfl,Q05 (fun _=>fin h2 s2) (fun q=>?_)⟩;obtain⟨t,ht⟩:∃t,n.x.a.tn id=some t:=by
   cases e:n.x.a.tn id with
   | none=>rw[e] at q;cases q
   | some t=>exact⟨t,rfl⟩
  refine Q7N (C:=D) g.ok h2 rfl hlt fun p c ss w3 F3 ik h3 st3=>⟨_,_,_,rfl,?_⟩;obtain⟨F4,h4,sub⟩:=Q07 h3;have s4:=s2.trans (st3.sub sub);refine Q05 (fun _=>fin h4 s4) (fun q2=>?_);have hss:ss=[]:=by
   have e:(blkO n.x.a id ss).length=0:=by simpa using q2
   rw[Q6S ik] at e;exact List.eq_nil_of_length_eq_zero e
  have em:∀k,t.ob k=none:=fun k=>by
   unfold obO at ik;rw[ht,hss] at ik;have ik:isKeys t.ob []:=ik;cases e:t.ob k with
   | none=>rfl
   | some v=>have:=(ik.2.2 k).2 (by rw[e];rfl);cases this
  refine ccls x3 ⟨_,rfl,Q05 (fun _=>fin h4 s4) (fun q3=>?_)⟩;have q3:=of_decide_eq_false q3;have hn:1<=x3 /\ x3<=8192:=by
   unfold clsI at q3;split at q3
   ·assumption
   ·omega
  refine Qak (C:=D) g.ok h4 rfl hlt ⟨_,rfl,Q05 (fun _=>fin h4 s4) (fun q4=>?_)⟩;have q4:=of_decide_eq_false q4;have e:quoO n.x.a id=(t.q.lb:Int):=by unfold quoO;rw[ht]
  exact⟨t,ht,em,hn,by omega,F4,h4,s4⟩
 rintro jv w3 ⟨t0,ht0,em,hn,hq,F3,h3,s3⟩;obtain⟨nn,rfl⟩:=zzeoz (show 0<=x3 by omega);have eq0:quoO n.x.a id=(t0.q.lb:Int):=by unfold quoO;rw[ht0]
 refine Qak (C:=D) g.ok h3 rfl hlt ⟨_,rfl,?_⟩;rw[eq0];refine r_chg (n:=nn) (by omega) fun w4 hE4=>⟨_,rfl,?_⟩;have h4:=Thing.grow h3 hE4;have s4:=s3.trans (Step.ext hE4);have c24:=Q15 (n:=nn) (by omega);have hu1:=(Q53 c24).1;have hu2:=(Q53 c24).2.1;have enn:((nn:Nat):Int).toNat=nn:=zztnc nn;generalize hu:untN (clsN nn)=u at *
 generalize hlb:t0.q.lb=lb at *
 have et:IntKind.i64.wrap (Int.tdiv (lb:Int) (u:Int))=((lb / u:Nat):Int):=by
  have hle:lb / u<=lb:=Nat.div_le_self _ _;have e:Int.tdiv (lb:Int) (u:Int)=((lb / u:Nat):Int):=(Int.ofNat_tdiv lb u).symm;rw[e];generalize lb / u=z at hle;rw[Q04 (by omega) (by omega)]
 rw[et];have hq1:lb / u<=4096:=by have:=Nat.div_le_self lb u;omega
 refine⟨by omega,?_⟩;obtain⟨f0,fr0,cb0⟩:=QbC g hlt ht0 em;have nx0:t0.nx<=121:=by
  rw[Q22 ht0] at up;have up:t0.nx<=1+(nl:Int):=up;omega
 refine⟨fun f p k c i w'=>∃j:Nat,i=(j:Int) /\ f+j=lb / u /\ ∃l:List (Int × Int),l.length=j /\ k=(l.map (·.1)).length /\ (∀z ∈ l,Hd.U64 z.1) /\ ∃y x t F',AdInv s x.a /\ CapA (fun _=>1) x.a /\ x.done.length<=120+j /\ FullS x id t l /\ FrH t.H /\ t.q.cb=j*u /\ t.q.lb=lb /\ t.nx<=121+(j:Int) /\ (rwT 33 1 u64F (.slice p (l.map (·.1)).length c) (l.map (·.1))*(svX s sb y x*D)).P w' F' /\ Step (· = 0) W F' w',
  ⟨lb / u,0,rfl,rfl,[],rfl,rfl,fun z hz=>(by cases hz),y,n.x,t0,F3,g,hd.cap,by omega,f0,fr0,by rw[cb0,Nat.zero_mul],hlb,by omega,re (Q2d (e:=33) (k:=1) (f:=u64F) h4) (zztmc _ _),s4⟩,?_⟩
 rintro f jv p k c i w5 ⟨j,rfl,hf,l,hl5,rfl,hu5,y5,x,t,F5,g5,c5,d5,f5,fr5,cb5,lb5,nx5,h5,s5⟩;have hml:(l.map (·.1)).length=j:=by rw[List.length_map,hl5]
 refine Q05 (fun q=>?pos) (fun q=>?neg)
 case pos=>
  have q:=zzodt q;have hj:j<lb / u:=by omega
  have hfit:j*u+u<=lb:=by
   have h1:(j+1)*u<=lb / u*u:=zzmlr _ hj;have h2:=Nat.div_mul_le_self lb u;rw[Nat.add_mul,Nat.one_mul] at h1;omega
  have hu0:Hd.U64 (malO id (nn:Int)).H:=by show Hd.U64 0;unfold Hd.U64;omega
  have hm:=QfD g5 c5 hlt f5 fr5 hn (by rw[enn,hu,cb5,lb5];exact hfit) (by omega) (by omega);have gi:=Q1N (x:=x) g5 (malO id (nn:Int));have dl:=Q1L (s:=s) (x:=x) (malO id (nn:Int));obtain⟨ci,_⟩:=Q97 g5 c5 (malO id (nn:Int));have hud:=(Q6Y (x:=x) g5 hu0).1;refine(QgF (o:=malO id (nn:Int)) g5 hu0 (by omega)).use (C:=rwT 33 1 u64F (.slice p (l.map (·.1)).length c) (l.map (·.1))*D) h5 (sw4 _ _ _) fun v w6 F6 p6 st6=>?_;obtain⟨y6,rfl,h6⟩:=Q0l p6;have s6:=s5.trans st6;generalize doM s x (malO id (nn:Int))=d at h6 hm gi dl ci hud ⊢;refine⟨_,_,_,_,_,_,rfl,?_⟩;refine Q65 h6 fun nb w7 F7 h7 s7=>?_;have s7:=s6.trans s7;obtain⟨hE,t',f7,fr7,cb7,lb7,nx7⟩:=hm;rw[enn,hu] at cb7;refine⟨d.a.E,by rw[Q02];exact Q01 (Q0b h7 rfl) rfl,Q00 (by rw[hE];rfl) ⟨d.a.Hd,by rw[Q02];exact Q01 (Q0b h7 rfl) rfl,?_⟩⟩;refine Q0m h7 fun n71 w8 F8 h8 s8 _=>?_
  let Q:Thing:=svX s sb y6 d.x*D
  have h8:(blk n71 (.cells #[.int .u64 d.a.Hd] 33 (0,0))*(bA nb d.a*(svX s sb y6 d.x*(rwT 33 1 u64F (.slice p (l.map (·.1)).length c) (l.map (·.1))*D)))).P w8 F8:=h8;obtain⟨p',c',w9,F9,hrun,h9,s9⟩:=Q1V elemU Q4Z Q7X (v:=.slice p (l.map (·.1)).length c) (l:=l.map (·.1)) (a:=⟨n71,0,none⟩) (c:=1) (x:=d.a.Hd) (Y:=blk n71 (.cells #[.int .u64 d.a.Hd] 33 (0,0))*(bA nb d.a*Q)) (re h8 (by show _=rwT 33 1 u64F (.slice p (l.map (·.1)).length c) (l.map (·.1))*(_*(_*(svX s sb y6 d.x*D)));ac_rfl)) (Q08 (vs:=[.int .u64 d.a.Hd]) (Q0b h8 rfl)) (by omega) (by omega);have em9:(l++[(d.a.Hd,d.a.Ad)]).map (·.1)=l.map (·.1)++[d.a.Hd]:=by rw[List.map_append];rfl
  have el9:(l.map (·.1)++[d.a.Hd]).length=(l.map (·.1)).length+1:=by rw[zzlna];rfl
  obtain⟨F10,h10,sub⟩:=Q07 (A:=blk n71 (.cells #[.int .u64 d.a.Hd] 33 (0,0))*bA nb d.a) (B:=rwT 33 1 u64F (.slice p' ((l.map (·.1)).length+1) c') (l.map (·.1)++[d.a.Hd])*Q) (re h9 (by ac_rfl));refine⟨p',_,c',w9,hrun,f-1,by omega,j+1,by rw[Q04 (by omega) (by omega)];omega,by omega,l++[(d.a.Hd,d.a.Ad)],by rw[zzlna,hl5];rfl,by rw[em9,el9],fun z hz=>?_,y6,d.x,t',F10,gi,ci,by omega,f7,fr7,by rw[cb7,cb5,Nat.add_mul,Nat.one_mul],by rw[lb7,lb5],by omega,by rw[em9,el9];exact h10,((s7.trans s8).trans s9).sub sub⟩;rcases zzmpd.1 hz with hz | hz
  ·exact hu5 z hz
  ·rw[List.mem_singleton.1 hz];exact hud
 have q:=of_decide_eq_false q;have hj:j=lb / u:=by omega
 have hful:¬j*u+u<=lb:=by
  have h1:lb<u*(lb / u+1):=Nat.lt_mul_div_succ lb (by omega);rw[Nat.mul_comm,<-hj,Nat.add_mul,Nat.one_mul] at h1;omega
 let V:Thing:=rwT 33 1 u64F (.slice p (l.map (·.1)).length c) (l.map (·.1))
 refine⟨fun w'=>∃y x F',AdInv s x.a /\ x.done.length<=121+j /\ FullS x id t l /\ (svX s sb y x*(V*D)).P w' F' /\ Step (· = 0) W F' w',?_,?_⟩
 ·have hu0:Hd.U64 (malO id (nn:Int)).H:=by show Hd.U64 0;unfold Hd.U64;omega
  have hm:=QfB g5 hlt f5.tn hn (by rw[enn,hu,cb5,lb5];exact hful);have gi:=Q1N (x:=x) g5 (malO id (nn:Int));have dl:=Q1L (s:=s) (x:=x) (malO id (nn:Int));refine(QgF (o:=malO id (nn:Int)) g5 hu0 (by omega)).use (C:=V*D) h5 (sw4 _ _ _) fun v w6 F6 p6 st6=>?_;obtain⟨y6,rfl,h6⟩:=Q0l p6;have s6:=s5.trans st6;generalize doM s x (malO id (nn:Int))=d at h6 hm gi dl ⊢;refine⟨_,_,_,_,_,_,rfl,?_⟩;refine Q65 h6 fun nb w7 F7 h7 s7=>?_;have s7:=s6.trans s7;obtain⟨hE,ht7⟩:=hm;refine⟨d.a.E,by rw[Q02];exact Q01 (Q0b h7 rfl) rfl,Q00 (by rw[hE];rfl) ?_⟩;obtain⟨F8,h8,sub⟩:=Q07 h7;have s8:=s7.sub sub;refine Q7N (C:=V*D) gi.ok h8 rfl hlt fun pb cb ss w9 F9 ik h9 st9=>⟨_,_,_,rfl,?_⟩;have s9:=s8.trans st9;have ik:isKeys t.ob ss:=by unfold obO at ik;rw[ht7] at ik;exact ik
  have eb:blkO d.x.a id ss=blkL t ss:=by unfold blkO;rw[ht7]
  rw[eb] at h9 ⊢;have hlen:ss.length=l.length:=by
   have hp:ss.Perm (l.map (·.2)):=(List.perm_ext_iff_of_nodup ik.1 f5.nd).2 fun k=>by rw[ik.2.2 k,f5.ob k]
   rw[hp.length_eq,List.length_map]
  have hbl:(blkL t ss).length=ss.length:=List.length_map _;have hmap:(blkL t ss).map (·.1)=ss:=by
   unfold blkL;rw[List.map_map];exact List.map_id' ss
  refine QeN (C:=svX s sb y6 d.x*(V*D)) h9 rfl (by omega) (Qfp (gi.tn id t hlt ht7).inv ik) (by rw[hmap];exact ik.1) fun w10 F10 h10 st10=>⟨_,rfl,Q00 rfl ?_⟩;obtain⟨F11,h11,sub2⟩:=Q07 h10;exact⟨y6,d.x,F11,gi,by omega,⟨ht7,f5.fd,f5.nd,f5.ob⟩,h11,(s9.trans st10).sub sub2⟩
 clear f5 h5 s5 g5 c5 d5;rintro jv6 w6 ⟨y6,x6,F6,g6,d6,f6,h6,s6⟩;refine⟨fun f i w'=>∃m:Nat,i=(m:Int) /\ f+m=l.length /\ ∃y x t F',AdInv s x.a /\ x.done.length<=121+j+m /\ FullS x id t (l.drop m) /\ (svX s sb y x*(V*D)).P w' F' /\ Step (· = 0) W F' w',⟨l.length,0,rfl,rfl,y6,x6,t,F6,g6,d6,f6,h6,s6⟩,?_⟩;clear h6 s6 f6 g6 d6;rintro f7 jv7 i7 w7 ⟨m,rfl,hf7,y7,x7,t7,F7,g7,d7,f7',h7,s7⟩;refine Q05 (fun q=>?pos2) (fun q=>?neg2)
 case pos2=>
  have q:=zzodt q;have hm:m<l.length:=by omega
  obtain⟨⟨hh,bb⟩,hz⟩:∃z,l[m]? = some z:=⟨_,zzgge hm⟩;have hz1:(l.map (·.1))[m]? = some hh:=by rw[List.getElem?_map,hz];rfl
  have hz2:l.drop m=(hh,bb) :: l.drop (m+1):=by
   have e:l[m]=(hh,bb):=by
    have:=zzgge hm;rw[this] at hz;exact Option.some.inj hz
   rw[List.drop_eq_getElem_cons hm,e]
  rw[hz2] at f7';have rowg:=Q8t (e:=33) (k:=1) (f:=u64F) (v:=.slice p (l.map (·.1)).length c) (l:=l.map (·.1)) (Y:=svX s sb y7 x7*D) h7 (sw4 _ _ _);obtain⟨a4,ha4,hc4⟩:=Q7Y rowg hz1;refine⟨by omega,by omega,?_⟩;rw[ha4,zztnc];refine⟨hh,hc4,?_⟩;have hfr:=QfC (s:=s) hlt f7';have gi:=Q1N (x:=x7) g7 (freO id hh);have dl:=Q1L (s:=s) (x:=x7) (freO id hh);refine(QgF (o:=freO id hh) g7 (hu5 (hh,bb) (zzmog hz)) (by omega)).use (C:=V*D) h7 rfl fun v w8 F8 p8 st8=>?_;obtain⟨y8,rfl,h8⟩:=Q0l p8;have s8:=s7.trans st8;generalize doM s x7 (freO id hh)=d at h8 hfr gi dl ⊢;refine⟨_,_,_,_,_,_,rfl,?_⟩;refine Q65 h8 fun nb w9 F9 h9 s9=>?_;have s9:=s8.trans s9;obtain⟨hE,t',f9⟩:=hfr;refine⟨d.a.E,by rw[Q02];exact Q01 (Q0b h9 rfl) rfl,Q00 (by rw[hE];rfl) ?_⟩;obtain⟨F10,h10,sub⟩:=Q07 h9;exact⟨f7-1,by omega,m+1,by rw[Q04 (by omega) (by omega)];omega,by omega,y8,d.x,t',F10,gi,by omega,f9,h10,s9.sub sub⟩
 have q:=of_decide_eq_false q;rw[List.drop_of_length_le (by omega)] at f7';obtain⟨e1,e2⟩:=Q9i g7 hlt f7';have e0:pagO []=[]:=List.eq_nil_of_length_eq_zero (Q7v []);refine QeA (C:=V*D) g7.ok h7 rfl hlt fun pp cp w8 F8 h8 st8=>⟨_,_,_,rfl,Q03 (by rw[e1,e0];rfl) ?_⟩;obtain⟨F9,h9,sub⟩:=Q07 h8;refine Q5H (C:=V*D) g7.ok h9 rfl hlt ⟨_,rfl,Q03 (by rw[e2];rfl) ?_⟩;exact Qdg h0 ho h9 rfl ((s7.trans st8).sub sub)
end
end Go.Proofs.YtpnbcakbefplpaaGreatDoor
