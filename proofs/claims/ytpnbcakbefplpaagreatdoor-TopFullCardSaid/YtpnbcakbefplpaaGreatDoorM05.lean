/- Texts merged: TH9 TH10 Hk1 Hk2 Hk3 Hk4 Hk5 Tn1 Tn2 Tn3 Tn4 Tn5 Tn6 Tn7 Ad1 Ad2 Ad3 Ad4 Ok1 Ok2 Ok3. Conditions: none. -/
import Derived.Test.YtpnbcakbefplpaaGreatDoorM04
set_option linter.unusedVariables false
set_option linter.unusedSimpArgs false
namespace Go.Proofs.YtpnbcakbefplpaaGreatDoor
open _root_.Go.Proofs.Tryz (prog)
section
open Go.RowKit Go.Maps Thing
theorem QfO(s:Sv)(x:Hl)(v:Value):updV (hvs s x) 2 v=hvs s {x with wv:=v}:=by
 funext i;unfold updV hvs;by_cases h0:i=0
 ·subst h0;rfl
 by_cases h1:i=1
 ·subst h1;rfl
 by_cases h2:i=2
 ·subst h2;rfl
 ·rw[if_neg h2,if_neg h0,if_neg h1,if_neg h2,if_neg h0,if_neg h1,if_neg h2]
theorem sw1(A B C:Thing):A*(B*C)=B*(A*C):=by ac_rfl
theorem QfT(s:Sv)(A:Ax)(H:Hp)(v:Int):(mvA s A H v).ts.length=A.ts.length+3:=by
 unfold mvA;rw[zzlna,zzlna,zzlna,List.length_singleton,List.length_singleton,List.length_singleton]
theorem Q9J(s:Sv):∀(l:List Int)(A:Ax)(H:Hp),(mvN s l A H).1.ts.length=A.ts.length+3*l.length
 | [],A,H=>rfl
 | v :: l,A,H=>by rw[mvN,Q9J s l,QfT,List.length_cons];omega
section
variable{s:Sv}{hb:Nat}{x:Hl}{H:Hp}{A:Ax}{w:World}{F:Nat->Prop}{X C:Thing}{R:VW}
def mStep(hb:Nat)(v:Int)(w24:World)(K:World->Prop):Prop:=
 ∃p26:Option Addr,w24.cell? ((zA hb).add 1)=some (.pointer p26) /\ ∃(p28:Option Addr)(n29 n30:Nat),w24.cell? ((zA hb).add 2)=some (.slice p28 n29 n30) /\ CS 168 #[.pointer p26,.slice p28 n29 n30] w24 fun v31 w32=>∃i33 i34:Int,v31=.tuple #[.int .i64 i33,.int .i64 i34] /\
  ∃p36:Option Addr,w32.cell? ((zA hb).add 3)=some (.pointer p36) /\ CS 169 #[.pointer p36,.int .i64 v,.int .i64 i33] w32 fun v37 w38=>∃i39 i40:Int,v37=.tuple #[.int .i64 i39,.int .i64 i40] /\
  ∃p42:Option Addr,w38.cell? ((zA hb).add 0)=some (.pointer p42) /\ CS 170 #[.pointer p42,.int .i64 (IntKind.i64.wrap (i33*512)),.int .i64 (IntKind.i64.wrap (i39*512)),.int .i64 512] w38 fun v43 w44=>∃i45:Int,v43=.int .i64 i45 /\
  ∃p47:Option Addr,w44.cell? ((zA hb).add 0)=some (.pointer p47) /\ CS 171 #[.pointer p47,.int .i64 (IntKind.i64.wrap (i39*512)),.int .i64 512] w44 fun v48 w49=>∃i50:Int,v48=.int .i64 i50 /\
  ∃p52:Option Addr,w49.cell? ((zA hb).add 1)=some (.pointer p52) /\ CS 172 #[.pointer p52,.int .i64 i39] w49 fun v53 w54=>∃i55:Int,v53=.int .i64 i55 /\
  ∃p57:Option Nat,w54.cell? ((zA hb).add 36)=some (.map p57) /\ ∃(p58:Option Addr)(w59:World),Sem.run prog (Instr.lookup 147 (.map p57) (.int .i64 v) false) w54=.ok (.pointer p58) w59 /\
  ifB (!p58.isNone) (CS 173 #[.pointer p58,.int .i64 (IntKind.i64.wrap (i33*512))] w59 fun v60 w61=>∃i62:Int,v60=.int .i64 i62 /\ K w61) (K w59)
theorem QbQ{v:Int}{l:List Int}{Y:Thing}{K:World->Prop}(g:MvI s A H (v :: l))(hts:A.ts.length<300000000000)(h:(hpX s hb x H*(axT s A*Y)).P w F)
  (r:∀w' F',(hpX s hb x (mvH s A H v)*(axT s (mvA s A H v)*Y)).P w' F'->Step F w F' w'->K w'):mStep hb v w K:=by
 obtain⟨p,o,e1,e2,fr,h1,ef,hh,hp,ho,hpo,how,hco,ec⟩:=Qej g;have hb1:=g.nb;have hb2:=g.nc;have hp4:=g.p4;have hwl:=g.win;have hTv:=g.tok.rng _ (Q0a h1).1;have hvr:256<=v /\ v<6400:=⟨hTv.1,hTv.2.1⟩;have hr:(0:Int)<=(p:Int) /\ (p:Int)<=1048576:=⟨by omega,by omega⟩;unfold mStep;obtain⟨p5,c5,ew5,hr5⟩:=Qe7 h rfl;refine⟨_,Q5o h rfl,p5,_,c5,by rw[<-ew5];exact Qe1 h rfl,?_⟩;refine(QaE (o:=s.o) (mb:=s.mb) (n:=s.nC) (C:=s.C) (hs:=A.cs) (p:=p5) (c:=c5) (l:=H.win) (by simp only[maxLen];omega)).use (C:=hpRow s hb x H*(arT s.ap A.bs A.ts*Y)) h (by rw[Q5q,ew5];unfold axT;ac_rfl) fun u w1 F1 h1' s1=>?_;rw[Q06] at h1';obtain⟨rfl,h2⟩:=h1';have h2:(hpX s hb x H*(axT s {A with cs:=A.cs.set p true}*Y)).P w1 F1:=re h2 (by rw[Q5q,ew5,e2];unfold axT;ac_rfl);rw[e1];refine⟨_,_,rfl,_,Q3L h2 rfl,(Qf8 (tb:=x.tb) h1 hh hr).use (C:=hpTb s hb x H*(axT s {A with cs:=A.cs.set p true}*Y)) h2 (by rw[Q1M];ac_rfl) fun u w2 F2 h3 s2=>?_⟩;rw[Q06] at h3;obtain⟨rfl,h3⟩:=h3;have h3:(hpX s hb x {H with T:=swpT H.T v (p:Int)}*(axT s {A with cs:=A.cs.set p true}*Y)).P w2 F2:=re h3 (by rw[Q4u];ac_rfl);refine⟨_,_,rfl,_,Q9q h3 rfl,?_⟩;rw[Q04 (n:=(p:Int)*512) (by omega) (by omega),Q04 (n:=(o:Int)*512) (by omega) (by omega),show(p:Int)*512=((p*512:Nat):Int) by omega,show(o:Int)*512=((o*512:Nat):Int) by omega]
 refine(QeL (ap:=s.ap) (bs:=A.bs) (ts:=A.ts) (by omega) (t:=p*512) (a:=o*512) (n:=512) (by omega) (by omega) (by decide)).use (C:=hpX s hb x {H with T:=swpT H.T v (p:Int)}*(tabT s.o*coT s.mb s.nC s.C (A.cs.set p true)*Y)) h3 (by unfold axT;ac_rfl) fun u w3 F3 h4 s3=>?_;rw[Q06] at h4;obtain⟨rfl,h4⟩:=h4;have hs:(seg A.bs (o*512) 512).length=512:=Q0J (by omega);have hl4:(putAt A.bs (p*512) (seg A.bs (o*512) 512)).length=A.bs.length:=Q0k (by rw[hs];omega);refine⟨_,rfl,_,Q9q h4 (sw1 _ _ _),?_⟩;refine(QaA (ap:=s.ap) (bs:=putAt A.bs (p*512) (seg A.bs (o*512) 512)) (by simp;omega) (a:=o*512) (n:=512) (by omega) (by decide)).use (C:=hpX s hb x {H with T:=swpT H.T v (p:Int)}*(tabT s.o*coT s.mb s.nC s.C (A.cs.set p true)*Y)) h4 rfl fun u w4 F4 h5 s4=>?_;rw[Q06] at h5;obtain⟨rfl,h5⟩:=h5;refine⟨_,rfl,_,Q5o h5 (sw1 _ _ _),?_⟩;refine(QaC (mb:=s.mb) (n:=s.nC) (C:=s.C) (hs:=A.cs.set p true) (o:Int)).use (C:=hpX s hb x {H with T:=swpT H.T v (p:Int)}*(tabT s.o*(arT s.ap (putAt (putAt A.bs (p*512) (seg A.bs (o*512) 512)) (o*512) (List.replicate 512 0)) (A.ts++[(((o*512:Nat):Int),((512:Nat):Int),false)]++[(((p*512:Nat):Int),((512:Nat):Int),true)]++[(((o*512:Nat):Int),((512:Nat):Int),true)])*Y))) h5 (by ac_rfl) fun u w5 F5 h6 s5=>?_;rw[Q06] at h6;obtain⟨rfl,h6⟩:=h6;have egv:Sf.giveH (A.cs.set p true) (o:Int)=Sf.giveH (Cl.mTakeH A.cs s.C H.win) (fnd H.T v):=by rw[e2,ef]
 have eA:mvA s A H v=⟨putAt (putAt A.bs (p*512) (seg A.bs (o*512) 512)) (o*512) (List.replicate 512 0),A.ts++[(((o*512:Nat):Int),((512:Nat):Int),false)]++[(((p*512:Nat):Int),((512:Nat):Int),true)]++[(((o*512:Nat):Int),((512:Nat):Int),true)],Sf.giveH (A.cs.set p true) (o:Int)⟩:=by
  rw[egv];unfold mvA;rw[e1,ef,zztnc,zztnc];rfl
 have h6:(hpX s hb x {H with T:=swpT H.T v (p:Int)}*(axT s (mvA s A H v)*Y)).P w5 F5:=re h6 (by rw[eA];unfold axT;ac_rfl);have hlA:(mvA s A H v).bs.length=s.n:=(Qek g).nb;refine⟨_,rfl,_,Q4r h6 rfl,?_⟩;have hlk:=Q4t h6 rfl (v:=v) (i64w (by omega) (by omega));have st:Step F w F5 w5:=(((s1.trans s2).trans s3).trans s4).trans s5;cases hS:H.S v with
 | none=>
  have hS':({H with T:=swpT H.T v (p:Int)}:Hp).S v=none:=hS;rw[hS'] at hlk;have eH:mvH s A H v={H with T:=swpT H.T v (p:Int)}:=by unfold mvH;rw[e1,hS]
  rw[eH] at r;exact⟨_,_,hlk,Q00 rfl (r w5 F5 h6 st)⟩
 | some gp=>
  have hS':({H with T:=swpT H.T v (p:Int)}:Hp).S v=some gp:=hS;rw[hS'] at hlk;have eH:mvH s A H v={H with T:=swpT H.T v (p:Int),S:=updI H.S v (some {gp with base:=p*512})}:=by unfold mvH;rw[e1,hS,zztnc]
  rw[eH] at r;refine⟨_,_,hlk,Q03 rfl ?_⟩;refine(QeX (ap:=s.ap) (pb:=x.pp v) (base:=gp.base) (kind:=gp.kind) (bs:=(mvA s A H v).bs) (ts:=(mvA s A H v).ts) (q:=gp.q) (nb:=p*512) (by rw[show(512:Int)=((512:Nat):Int)from rfl,<-Int.ofNat_tmod,Nat.mul_mod_left];rfl) (by omega)).use
   (C:=hpPg s hb x {H with T:=swpT H.T v (p:Int)} v*(tabT s.o*coT s.mb s.nC s.C (mvA s A H v).cs*Y)) h6 (by rw[Q2K hS',hlA];unfold axT;ac_rfl) fun u w6 F6 h7 s6=>?_
  rw[Q06] at h7;obtain⟨rfl,h7⟩:=h7;refine⟨_,rfl,r w6 F6 (re h7 ?_) (st.trans s6)⟩;have:=QbJ (s:=s) (hb:=hb) (x:=x) hS' {gp with base:=p*512};show _=hpX s hb x {({H with T:=swpT H.T v (p:Int)}:Hp)with S:=updI ({H with T:=swpT H.T v (p:Int)}:Hp).S v (some {gp with base:=p*512})}*_;rw[this,hlA];unfold axT;ac_rfl
theorem QeS(g:HOk s A H)(hts:A.ts.length<200000000000){p:Option Addr}{c:Nat}{win:List Int}(hw:win.length<=32):Tri 120 #[zP hb,.slice p win.length c] (axT s A*hpX s hb x H*rowT (.slice p win.length c) win)
  (fun v=>any fun x':Hl=>only (v=.int .i64 (movM s A H win).E) (axT s (movM s A H win).A*hpX s hb x' (movM s A H win).H*rowT (.slice p win.length c) win)):=by
 intro w F R h r;have r:∀x' w' F',(axT s (movM s A H win).A*hpX s hb x' (movM s A H win).H*rowT (.slice p win.length c) win).P w' F'->Step F w F' w'->R (.int .i64 (movM s A H win).E) w':=fun x' w' F' p st=>r _ w' F' ⟨x',rfl,p⟩ st;constructor;refine vc155.ok ?_;unfold vc155;refine Q00 rfl ((Q8B (s:=s) (hb:=hb) (x:=x) (H:=H) (A:=A) (p:=p) (c:=c) (win:=win) (by omega)).use (C:=emp) h (by rw[Q0c];ac_rfl) fun v w1 F1 h1 s1=>?_);rw[Q0c] at h1;obtain⟨⟨p2,c2⟩,rfl,h1⟩:=h1;refine⟨_,_,_,rfl,?_⟩;dsimp only at h1 ⊢;have ll:(outL s A.cs H.T win).length<=6400:=by
  have a:=List.length_filter_le (outF s A.cs H.T win) (allT H.T);have:=g.few;rw[Q63] at a;unfold outL;omega
 generalize eO:outL s A.cs H.T win=L at h1 ll ⊢;have hw1:=Q29 (v:=.slice p win.length c) (l:=win) (Y:=rowT (.slice p2 L.length c2) L*(hpX s hb x H*axT s A)) h1 (by ac_rfl);obtain⟨Fc,hc1,_⟩:=Q0f (A:=coT s.mb s.nC s.C A.cs) (Y:=rowT (.slice p2 L.length c2) L*(hpX s hb x H*(tabT s.o*arT s.ap A.bs A.ts*rowT (.slice p win.length c) win))) h1 (by unfold axT;ac_rfl);refine⟨_,Q5o h1 (C:=rowT (.slice p2 L.length c2) L*(axT s A*rowT (.slice p win.length c) win)) (by ac_rfl),QaB hc1 hw1 (by simp only[maxLen];omega) fun w2 hE2=>⟨_,rfl,?_⟩⟩;have h2:=Thing.grow h1 hE2;have hw2:=hw1.keep hE2.mod (F:=fun _=>False) (fun _ _ x=>x);refine ifD (fun q=>?_) (fun q=>?_)
 ·have e:movM s A H win=⟨0,13,A,H⟩:=by unfold movM;rw[eO];exact if_neg (by omega)
  rw[e] at r;obtain⟨F3,h3,sub⟩:=Q07 h2;exact r x w2 F3 (re h3 (by ac_rfl)) ((s1.trans (Step.ext hE2)).sub sub)
 ·have hcn:L.length<=Cl.cnt A.cs s.C win:=by omega
  have e:movM s A H win=⟨0,0,(mvN s L A {H with win:=win}).1,(mvN s L A {H with win:=win}).2⟩:=by unfold movM;rw[eO];exact if_pos hcn
  rw[e] at r;refine Q3D hw2 (by omega) fun p3 c3 w3 hr3 hE3 hn3=>⟨_,_,_,rfl,?_⟩;obtain⟨h3,s3⟩:=Q0j (B:=rowT (.slice p3 win.length c3) win) h2 hE3 ⟨hr3,rfl⟩ hn3;simp only[someA,Q02];refine Q1J (b:=hb) (n:=37) (i:=0+2) (vs:=hvs s x) (C:=rowT (.slice p3 win.length c3) win*(rowT (.slice p2 L.length c2) L*(hpBlk s x H*(axT s A*rowT (.slice p win.length c) win)))) h3 (by rw[QcT];ac_rfl) (by omega) fun w4 F4 h4 s4=>?_;have h4:(rowT x.wv H.win*(hpX s hb {x with wv:=.slice p3 win.length c3} {H with win:=win}*(axT s A*(rowT (.slice p2 L.length c2) L*rowT (.slice p win.length c) win)))).P w4 F4:=re h4 (by
   rw[QfO];unfold hpX hpBlk hpO;show _=rowT x.wv H.win*(blk hb (fO 37 _ (hvs s {x with wv:=.slice p3 win.length c3}))*(rowT (.slice p3 win.length c3) win*_)*_);ac_rfl)
  obtain⟨F5,h5,sub5⟩:=Q07 h4;have st:Step F w F5 w4:=(((s1.trans (Step.ext hE2)).trans s3).trans s4).sub sub5;have g0:MvI s A {H with win:=win} L:=by rw[<-eO];exact Q4D g hw (by rw[eO];exact hcn)
  refine⟨fun f i w'=>∃j:Nat,i=(j:Int) /\ f+j=L.length /\ MvI s (mvN s (L.take j) A {H with win:=win}).1 (mvN s (L.take j) A {H with win:=win}).2 (L.drop j) /\
   ∃F',(hpX s hb {x with wv:=.slice p3 win.length c3} (mvN s (L.take j) A {H with win:=win}).2*(axT s (mvN s (L.take j) A {H with win:=win}).1*(rowT (.slice p2 L.length c2) L*rowT (.slice p win.length c) win))).P w' F' /\ Step F w F' w',⟨L.length,0,rfl,rfl,g0,F5,h5,st⟩,?_⟩
  rintro f jv i w5 ⟨j,rfl,hf,gj,F6,h6,s6⟩;refine ifD (fun hj=>⟨by omega,by omega,?_⟩) (fun hj=>?_)
  ·have hj':j<L.length:=by omega
   have hv:L[j]? = some L[j]:=zzgge hj';generalize L[j]=v at hv;have edr:L.drop j=v :: L.drop (j+1):=by
    rw[List.drop_eq_getElem_cons hj'];rw[zzgge hj'] at hv;rw[Option.some.inj hv]
   have etk:L.take (j+1)=L.take j++[v]:=by rw[List.take_add_one,hv];rfl
   rw[edr] at gj;have hrL:=Q29 (v:=.slice p2 L.length c2) (l:=L) (Y:=hpX s hb {x with wv:=.slice p3 win.length c3} (mvN s (L.take j) A {H with win:=win}).2*(axT s (mvN s (L.take j) A {H with win:=win}).1*rowT (.slice p win.length c) win)) h6 (by ac_rfl);rw[zztnc];refine(ORow.rowAt Q0G hrL).int hv ?_;rintro w7 rfl;have hE7:=Ext.drew w5;have htj:=Q9J s (L.take j) A {H with win:=win};have hlt:(L.take j).length<=6400:=by rw[zzlnt];omega
   have fin:∀w' F',(hpX s hb {x with wv:=.slice p3 win.length c3} (mvH s (mvN s (L.take j) A {H with win:=win}).1 (mvN s (L.take j) A {H with win:=win}).2 v)*(axT s (mvA s (mvN s (L.take j) A {H with win:=win}).1 (mvN s (L.take j) A {H with win:=win}).2 v)*(rowT (.slice p2 L.length c2) L*rowT (.slice p win.length c) win))).P w' F'->Step F6 w5.drew F' w' →
    ∃n,n<f /\ ∃j':Nat,IntKind.i64.wrap ((j:Int)+1)=(j':Int) /\ n+j'=L.length /\ MvI s (mvN s (L.take j') A {H with win:=win}).1 (mvN s (L.take j') A {H with win:=win}).2 (L.drop j') /\
     ∃F',(hpX s hb {x with wv:=.slice p3 win.length c3} (mvN s (L.take j') A {H with win:=win}).2*(axT s (mvN s (L.take j') A {H with win:=win}).1*(rowT (.slice p2 L.length c2) L*rowT (.slice p win.length c) win))).P w' F' /\ Step F w F' w':=fun w' F' h' s'=>
    ⟨f-1,by omega,j+1,by rw[Q04 (by omega) (by omega)];omega,by omega,by rw[etk,Q4C];exact Qek gj,F',by rw[etk,Q4C];exact h',(s6.trans (Step.ext hE7)).trans s'⟩
   exact QbQ gj (by omega) (Thing.grow h6 hE7) fin
  ·have ej:L.take j=L:=List.take_of_length_le (by omega);rw[ej] at h6;have h7:(rowT (.slice p2 L.length c2) L*(axT s (mvN s L A {H with win:=win}).1*hpX s hb {x with wv:=.slice p3 win.length c3} (mvN s L A {H with win:=win}).2*rowT (.slice p win.length c) win)).P w5 F6:=re h6 (by ac_rfl);obtain⟨F8,h8,sub8⟩:=Q07 h7;exact r _ w5 F8 h8 (s6.sub sub8)
end
end
section
open Go.RowKit Go.Maps Thing
theorem Q3j{I:Type}:fam (fun _:I=>emp)=emp:=by
 ext w F;constructor
 ·rintro⟨f,h,d,rfl⟩;show _=_;funext k;refine propext ⟨fun⟨i,hi⟩=>?_,fun q=>q.elim⟩;have:=h i;rw[show f i=fun _=>False from this] at hi;exact hi
 ·rintro rfl;exact⟨fun _ _=>False,fun i=>rfl,fun i j k h=>h.elim,funext fun k=>propext ⟨fun q=>q.elim,fun⟨i,hi⟩=>hi⟩⟩
def emS(k:Nat):List Bool:=List.replicate (sltN k) false
def emL(_:Nat):List Int:=[]
def H0(win:List Int):Hp:=⟨win,[],emS,emL,fun _=>none⟩
def emV(vs:Nat->Value)(sp lp:Nat->Nat)(mp:Nat)(i:Nat):Value:=if i<4 then vs i else if i<28 then .pointer (some ⟨sp (i-4),0,none⟩)else if i<36 then .pointer (some ⟨lp (i-28),0,none⟩)else .map (some mp)
def slP(sp:Nat->Nat)(j:Nat):Fin 24->Thing:=fun k=>if k.val<j then shT (sp k.val) (emS k.val)else emp
def lnP(lp:Nat->Nat)(j:Nat):Fin 8->Thing:=fun k=>if k.val<j then liT (lp k.val) [] else emp
theorem Qcg(sp:Nat->Nat)(j:Fin 24)(p:Nat):slP (updF sp j.val p) (j.val+1)=Thing.upd (slP sp j.val) j (shT p (emS j.val)):=by
 funext k;unfold slP updF Thing.upd;by_cases e:k=j
 ·subst e;simp
 ·have:k.val ≠ j.val:=fun q=>e (Fin.ext q);rw[if_neg e,if_neg this];show(if k.val<j.val+1 then _ else _)=(if k.val<j.val then _ else _);by_cases q:k.val<j.val
  ·rw[if_pos q,if_pos (by omega)]
  ·rw[if_neg q,if_neg (by omega)]
theorem Qgc(sp:Nat->Nat)(j:Fin 24):Thing.upd (slP sp j.val) j emp=slP sp j.val:=by
 have:=Q2n (slP sp j.val) j;rw[show slP sp j.val j=emp from if_neg (by omega)] at this;exact this
theorem QbL(lp:Nat->Nat)(j:Fin 8)(p:Nat):lnP (updF lp j.val p) (j.val+1)=Thing.upd (lnP lp j.val) j (liT p []):=by
 funext k;unfold lnP updF Thing.upd;by_cases e:k=j
 ·subst e;simp
 ·have:k.val ≠ j.val:=fun q=>e (Fin.ext q);rw[if_neg e,if_neg this];show(if k.val<j.val+1 then _ else _)=(if k.val<j.val then _ else _);by_cases q:k.val<j.val
  ·rw[if_pos q,if_pos (by omega)]
  ·rw[if_neg q,if_neg (by omega)]
theorem QfQ(lp:Nat->Nat)(j:Fin 8):Thing.upd (lnP lp j.val) j emp=lnP lp j.val:=by
 have:=Q2n (lnP lp j.val) j;rw[show lnP lp j.val j=emp from if_neg (by omega)] at this;exact this
def stV(vs:Nat->Value)(sp lp:Nat->Nat)(mp a b:Nat)(i:Nat):Value:=if i<4 then vs i else if i<28 then(if i-4<a then .pointer (some ⟨sp (i-4),0,none⟩)else vs i)else if i<36 then(if i-28<b then .pointer (some ⟨lp (i-28),0,none⟩)else vs i)else if i=36 then .map (some mp)else vs i
theorem stV_0(vs:Nat->Value)(sp lp:Nat->Nat)(mp:Nat):updV vs 36 (.map (some mp))=stV vs sp lp mp 0 0:=by
 funext i;unfold updV stV;by_cases h:i=36
 ·subst h;rfl
 ·rw[if_neg h];split
  ·rfl
  split
  ·rw[if_neg (by omega)]
  split
  ·rw[if_neg (by omega)]
  rfl
theorem stV_a(vs:Nat->Value)(sp lp:Nat->Nat)(mp a p:Nat)(ha:a<24):updV (stV vs sp lp mp a 0) (0+4+a) ((zP p))=stV vs (updF sp a p) lp mp (a+1) 0:=by
 funext i;unfold updV stV updF;by_cases h:i=0+4+a
 ·subst h;rw[if_pos rfl,if_neg (by omega),if_pos (by omega),if_pos (by omega),if_pos (by omega)]
 ·rw[if_neg h];split
  ·rfl
  split
  ·by_cases q:i-4<a
   ·rw[if_pos q,if_pos (by omega),if_neg (by omega)]
   ·rw[if_neg q,if_neg (by omega)]
  split
  ·rfl
  rfl
theorem stV_b(vs:Nat->Value)(sp lp:Nat->Nat)(mp b p:Nat)(hb:b<8):updV (stV vs sp lp mp 24 b) (0+28+b) ((zP p))=stV vs sp (updF lp b p) mp 24 (b+1):=by
 funext i;unfold updV stV updF;by_cases h:i=0+28+b
 ·subst h;rw[if_pos rfl,if_neg (by omega),if_neg (by omega),if_pos (by omega),if_pos (by omega),if_pos (by omega)]
 ·rw[if_neg h];split
  ·rfl
  split
  ·rfl
  split
  ·by_cases q:i-28<b
   ·rw[if_pos q,if_pos (by omega),if_neg (by omega)]
   ·rw[if_neg q,if_neg (by omega)]
  rfl
theorem Q0V{n:Nat}{T:TypeId}{f g:Nat->Value}(h:∀i,i<n->f i=g i):fO n T f=fO n T g:=by
 unfold fO;congr 1;apply Array.ext
 ·simp
 ·intro i h1 h2;simp only[Array.getElem_ofFn];exact h i (by simpa using h1)
theorem QeG(vs:Nat->Value)(sp lp:Nat->Nat)(mp:Nat)(T:TypeId):fO 37 T (stV vs sp lp mp 24 8)=fO 37 T (emV vs sp lp mp):=by
 refine Q0V fun i hi=>?_;unfold stV emV;split
 ·rfl
 split
 ·rw[if_pos (by omega)]
 split
 ·rw[if_pos (by omega)]
 rw[if_pos (by omega)]
section
variable{s:Sv}{hb:Nat}{x:Hl}{H:Hp}{A:Ax}{w:World}{F:Nat->Prop}{X C:Thing}{R:VW}
theorem Q7U(vs:Nat->Value):Tri 165 #[zP hb] (blk hb (fO 37 149 vs))
  (fun v=>any fun y:(Nat->Nat) × (Nat->Nat) × Nat=>only (v=.tuple #[]) (blk hb (fO 37 149 (emV vs y.1 y.2.1 y.2.2))*(fam (slF y.1 emS)*(fam (lnF8 y.2.1 emL)*mpT 3 y.2.2 (fun _=>none))))):=by
 intro w F R h r;constructor;refine vc172.ok ?_;unfold vc172;obtain⟨h1,s1⟩:=Q4B (K:=3) h;refine⟨some w.heap.size,w.alloc (.map #[] 0),run_makeMap _ w,?_⟩;generalize w.heap.size=mp at h1 s1 ⊢;generalize w.alloc (.map #[] 0)=w1 at h1 s1 ⊢;show WrC w1 ((zA hb).add 36) 1 /\ _;rw[Q02];refine Q1J (b:=hb) (n:=37) (i:=0+36) (vs:=vs) (C:=mpT 3 mp (fun _=>none)) h1 (zztmc _ _) (by omega) fun w2 F2 h2 s2=>?_;have h2:(blk hb (fO 37 149 (stV vs (fun _=>0) (fun _=>0) mp 0 0))*(fam (slP (fun _=>0) 0)*mpT 3 mp (fun _=>none))).P w2 F2:=re h2 (by
  rw[show fam (slP (fun _=>0) 0)=emp from Q3j,Q6h,<-stV_0])
 refine⟨fun f i w'=>∃(j:Nat)(sp:Nat->Nat),i=(j:Int) /\ f+j=24 /\ ∃F',(blk hb (fO 37 149 (stV vs sp (fun _=>0) mp j 0))*(fam (slP sp j)*mpT 3 mp (fun _=>none))).P w' F' /\ Step F w F' w',⟨24,0,fun _=>0,rfl,rfl,F2,h2,s1.trans s2⟩,?_⟩;rintro f jv i w3 ⟨j,sp,rfl,hf,F3,h3,s3⟩;refine ifD (fun hj=>?_) (fun hj=>?_)
 ·rintro w4 rfl;have hE4:=Ext.drew w3;have h4:=Thing.grow h3 hE4;have hj24:j<24:=by omega
  have hs256:sltN j<=256:=Nat.div_le_self 256 (pagN j);refine cslots hj24 ⟨_,rfl,Qdn (by omega) fun p w5 F5 h5 hE5 hn5=>⟨_,_,rfl,by omega,by omega,rfl,?_⟩⟩;obtain⟨h6,s6⟩:=Q0j (B:=shT p (emS j)) h4 hE5 h5 hn5;rw[zztnc,Q02,Q02];refine Q1J (b:=hb) (n:=37) (i:=0+4+j) (vs:=stV vs sp (fun _=>0) mp j 0) (C:=shT p (emS j)*(fam (slP sp j)*mpT 3 mp (fun _=>none))) h6 (sw1 _ _ _) (by omega) fun w7 F7 h7 s7=>?_;refine⟨f-1,by omega,j+1,updF sp j p,by rw[Q04 (by omega) (by omega)];omega,by omega,F7,?_,((s3.trans (Step.ext hE4)).trans s6).trans s7⟩;rw[stV_a _ _ _ _ _ _ hj24] at h7;refine re h7 ?_;rw[Qcg sp ⟨j,hj24⟩,Q12 (slP sp j) ⟨j,hj24⟩,Qgc sp ⟨j,hj24⟩];ac_rfl
 ·have ej:j=24:=by omega
  subst ej;have h3:(blk hb (fO 37 149 (stV vs sp (fun _=>0) mp 24 0))*(fam (lnP (fun _=>0) 0)*(fam (slP sp 24)*mpT 3 mp (fun _=>none)))).P w3 F3:=re h3 (by
   rw[show fam (lnP (fun _=>0) 0)=emp from Q3j,Q6h])
  refine⟨fun f i w'=>∃(j:Nat)(lp:Nat->Nat),i=(j:Int) /\ f+j=8 /\ ∃F',(blk hb (fO 37 149 (stV vs sp lp mp 24 j))*(fam (lnP lp j)*(fam (slP sp 24)*mpT 3 mp (fun _=>none)))).P w' F' /\ Step F w F' w',⟨8,0,fun _=>0,rfl,rfl,F3,h3,s3⟩,?_⟩;rintro f jv i w8 ⟨j,lp,rfl,hf,F8,h8,s8⟩;refine ifD (fun hj=>?_) (fun hj=>?_)
  ·rintro w9 rfl;have hE9:=Ext.drew w8;have h9:=Thing.grow h8 hE9;have hj8:j<8:=by omega
   refine lnew fun p w10 F10 h10 hE10 hn10=>⟨_,rfl,by omega,by omega,rfl,?_⟩;obtain⟨h11,s11⟩:=Q0j (B:=liT p []) h9 hE10 ⟨_,LnRep.init,fun x hx=>(by cases hx),h10⟩ hn10;rw[zztnc,Q02,Q02];refine Q1J (b:=hb) (n:=37) (i:=0+28+j) (vs:=stV vs sp lp mp 24 j) (C:=liT p []*(fam (lnP lp j)*(fam (slP sp 24)*mpT 3 mp (fun _=>none)))) h11 (sw1 _ _ _) (by omega) fun w12 F12 h12 s12=>?_;refine⟨f-1,by omega,j+1,updF lp j p,by rw[Q04 (by omega) (by omega)];omega,by omega,F12,?_,((s8.trans (Step.ext hE9)).trans s11).trans s12⟩;rw[stV_b _ _ _ _ _ _ hj8] at h12;refine re h12 ?_;rw[QbL lp ⟨j,hj8⟩,Q12 (lnP lp j) ⟨j,hj8⟩,QfQ lp ⟨j,hj8⟩];ac_rfl
  ·have ej:j=8:=by omega
   subst ej;rw[QeG] at h8;refine r _ w8 F8 ⟨(sp,lp,mp),rfl,re h8 ?_⟩ s8;have e1:slP sp 24=slF sp emS:=funext fun k=>if_pos k.isLt;have e2:lnP lp 8=lnF8 lp emL:=funext fun k=>if_pos k.isLt;rw[e1,e2];show _=_*(fam (slF sp emS)*(fam (lnF8 lp emL)*mpT _ mp _));ac_rfl
theorem QcU(s:Sv)(x:Hl)(sp lp:Nat->Nat)(mp:Nat):fO 37 149 (emV (hvs s x) sp lp mp)=hpO s {x with sp:=sp,lp:=lp,mp:=mp}:=by
 refine Q0V fun i hi=>?_;unfold emV hvs;by_cases q:i<4
 ·rw[if_pos q];rcases(show i=0 \/ i=1 \/ i=2 \/ i=3 by omega)with rfl | rfl | rfl | rfl <;> rfl
 ·rw[if_neg q,if_neg (show ¬i=0 by omega),if_neg (show ¬i=1 by omega),if_neg (show ¬i=2 by omega),if_neg (show ¬i=3 by omega)]
theorem QfN(s:Sv)(hb:Nat)(x:Hl)(win:List Int)(T:Tb):hpX s hb x {H0 win with T:=T}=blk hb (hpO s x)*(rowT x.wv win*(tbT x.tb T*(fam (slF x.sp emS)*(fam (lnF8 x.lp emL)*mpT 3 x.mp (fun _=>none))))):=by
 unfold hpX H0;show _*(_*(_*(_*(_*(mpT _ x.mp (fun _=>none)*fam (fun _=>emp))))))=_;rw[Q3j,Q0c]
theorem Qgk{p:Option Addr}{c:Nat}{win:List Int}(hr:ORow w 3 1 intF (.slice p win.length c) win)(hw:win.length<=1000)
  (r:∀hb x w' F',(hpX s hb x (H0 win)).P w' F'->Ext w w'->(∀j,F' j->w.heap.size<=j)->R (.tuple #[zP hb,.int .i64 0]) w') :
  CS 116 #[.pointer (some ⟨s.ap,0,none⟩),.pointer (some ⟨s.mb,0,none⟩),.slice p win.length c] w R:=by
 constructor;refine vc153.ok ?_;unfold vc153;refine Q00 rfl (Q00 rfl (Q3D hr (by omega) fun p1 c1 w1 hr1 hE1 hn1=>⟨_,_,_,rfl,Qgs fun tb w2 F2 h2 hE2 hn2=>⟨_,rfl,?_⟩⟩));obtain⟨h3,s3⟩:=Q0j (X:=rowT (.slice p1 win.length c1) win) (B:=tbT tb []) (w:=w1) ⟨hr1,rfl⟩ hE2 h2 hn2;refine Q0m h3 fun b w4 F4 h4 s4 hbs=>?_;have e0:∀(x:Hl),x.wv=.slice p1 win.length c1->x.tb=tb->True:=fun _ _ _=>trivial
 let x0:Hl:=⟨.slice p1 win.length c1,tb,fun _=>0,fun _=>0,0,fun _=>0⟩
 let vs:Nat->Value:=fun i=>if i<4 then hvs s x0 i else if i<36 then .pointer none else .map none
 have eO:(Obj.cells #[.pointer (some ⟨s.ap,0,none⟩),.pointer (some ⟨s.mb,0,none⟩),.slice p1 win.length c1,zP tb,.pointer none,.pointer none,.pointer none,.pointer none,.pointer none,.pointer none,.pointer none,.pointer none,.pointer none,.pointer none,.pointer none,.pointer none,.pointer none,.pointer none,.pointer none,.pointer none,.pointer none,.pointer none,.pointer none,.pointer none,.pointer none,.pointer none,.pointer none,.pointer none,.pointer none,.pointer none,.pointer none,.pointer none,.pointer none,.pointer none,.pointer none,.pointer none,.map none] 149 (0,0))=fO 37 149 vs:=by kernel_rfl
 rw[eO] at h4;refine(Q7U (hb:=b) vs).use (C:=tbT tb []*rowT (.slice p1 win.length c1) win) h4 rfl fun v w5 F5 h5 s5=>?_;obtain⟨⟨sp,lp,mp⟩,rfl,h5b⟩:=Q0l h5;refine⟨rfl,r b {x0 with sp:=sp,lp:=lp,mp:=mp} w5 F5 (re h5b ?_) ?_ fun j hj=>?_⟩
 ·have e1:fO 37 149 (emV vs sp lp mp)=hpO s {x0 with sp:=sp,lp:=lp,mp:=mp}:=by
   rw[<-QcU];refine Q0V fun i hi=>?_;unfold emV;by_cases q:i<4
   ·rw[if_pos q,if_pos q];exact if_pos q
   ·rw[if_neg q,if_neg q]
  show blk b (fO 37 _ (emV vs sp lp mp))*(fam (slF sp emS)*(fam (lnF8 lp emL)*mpT _ mp _))*_=hpX s b {x0 with sp:=sp,lp:=lp,mp:=mp} {H0 win with T:=[]};rw[e1,QfN];show _=_*(rowT (.slice p1 win.length c1) win*(tbT tb []*(fam (slF sp emS)*(fam (lnF8 lp emL)*mpT _ mp _))));ac_rfl
 ·have hst:=(s3.trans s4).trans s5;exact hE1.new hst.1 fun k hk=>hn1 k hk
 ·have hst:=(s3.trans s4).trans s5;exact(hst.2 j hj).elim (fun q=>hn1 j q) (fun q=>Nat.le_trans hE1.size q)
def drN(s:Sv):List Int->Ax->Tb->Ax × Tb
 | [],A,T=>(A,T)
 | v :: l,A,T=>drN s l (leA A T v) (rmT T v)
theorem Q6Z(s:Sv)(v:Int):∀(l:List Int)(A:Ax)(T:Tb),drN s (l++[v]) A T=(leA (drN s l A T).1 (drN s l A T).2 v,rmT (drN s l A T).2 v)
 | [],A,T=>rfl
 | y :: l,A,T=>by rw[List.cons_append,drN,Q6Z s v l,drN]
theorem Q3i(s:Sv):∀(l:List Int)(A:Ax)(T:Tb),(∀y ∈ T,y.2.toNat*512+512<=A.bs.length)->(drN s l A T).1.bs.length=A.bs.length /\ (drN s l A T).1.ts.length<=A.ts.length+l.length /\ ∀y ∈ (drN s l A T).2,y ∈ T
 | [],A,T,_=>⟨rfl,Nat.le_refl _,fun y h=>h⟩
 | v :: l,A,T,h=>by
  have e:=Q9z A T v h;obtain⟨a,b,c⟩:=Q3i s l (leA A T v) (rmT T v) (fun y hy=>by rw[e];exact h y (List.mem_filter.1 hy).1);have:=QcV A T v;exact⟨by rw[drN,a,e],by rw[drN,List.length_cons];omega,fun y hy=>(List.mem_filter.1 (c y hy)).1⟩
def droA(s:Sv)(A:Ax)(H:Hp):Ax:=(drN s (allT H.T) A H.T).1
def droH(s:Sv)(A:Ax)(H:Hp):Hp:={H0 H.win with T:=(drN s (allT H.T) A H.T).2}
theorem QeQ(hT:∀y ∈ H.T,y.2.toNat*512+512<=A.bs.length)(hts:A.ts.length<200000000000):Tri 124 #[zP hb] (axT s A*hpX s hb x H)
  (fun v=>any fun x':Hl=>only (v=.tuple #[]) (axT s (droA s A H)*hpX s hb x' (droH s A H))):=by
 intro w F R h r;have r:∀x' w' F',(axT s (droA s A H)*hpX s hb x' (droH s A H)).P w' F'->Step F w F' w'->R (.tuple #[]) w':=fun x' w' F' p st=>r _ w' F' ⟨x',rfl,p⟩ st;have h:(hpX s hb x H*axT s A).P w F:=re h (zztmc _ _);obtain⟨tok,few⟩:=Q9v h rfl;have hal:(allT H.T).length<=1000000:=by rw[Q63];exact few
 constructor;refine vc157.ok ?_;unfold vc157;obtain⟨Ft,ht,_⟩:=Q0f (A:=tbT x.tb H.T) (Y:=hpTb s hb x H*axT s A) h (by rw[Q1M];ac_rfl);refine Q00 rfl ⟨_,Q3L h rfl,QaQ ht fun p4 c4 w1 hr1 hE1 hn1=>⟨_,_,_,rfl,?_⟩⟩;obtain⟨h1,s1⟩:=Q0j (B:=rowT (.slice p4 (allT H.T).length c4) (allT H.T)) h hE1 ⟨hr1,rfl⟩ hn1;refine⟨fun f i w'=>∃j:Nat,i=(j:Int) /\ f+j=(allT H.T).length /\ ∃F',(rowT (.slice p4 (allT H.T).length c4) (allT H.T)*(axT s (drN s ((allT H.T).take j) A H.T).1*hpX s hb x {H with T:=(drN s ((allT H.T).take j) A H.T).2})).P w' F' /\ Step F w F' w',
  ⟨(allT H.T).length,0,rfl,rfl,_,re h1 (by show _=_*(axT s A*hpX s hb x H);ac_rfl),s1⟩,?_⟩
 rintro f jv i w2 ⟨j,rfl,hf,F2,h2,s2⟩;refine ifD (fun hj=>⟨by omega,by omega,?_⟩) (fun hj=>?_)
 ·have hj':j<(allT H.T).length:=by omega
  obtain⟨v,hv⟩:∃v,(allT H.T)[j]? = some v:=⟨_,zzgge hj'⟩;have hrw:=Q29 h2 rfl;have hvr:256<=v /\ v<6400:=by
   have:=((Q14 tok).2.2 v).1 (zzmog hv);obtain⟨y,hy⟩:=zzise.1 this;have:=tok.rng y (Q0a hy).1;have:=(Q0a hy).2;omega
  rw[zztnc];obtain⟨d1,d2,d3⟩:=Q3i s ((allT H.T).take j) A H.T hT;have hlt:((allT H.T).take j).length<=1000000:=by rw[zzlnt];omega
  have etk:(allT H.T).take (j+1)=(allT H.T).take j++[v]:=by rw[List.take_add_one,hv];rfl
  refine(ORow.rowAt Q0G hrw).int hv ((Qdi (s:=s) (hb:=hb) (x:=x) (H:={H with T:=(drN s ((allT H.T).take j) A H.T).2}) (A:=(drN s ((allT H.T).take j) A H.T).1) (v:=v) (i64w (by omega) (by omega)) (fun y hy=>by rw[d1];exact hT y (d3 y hy)) (by omega)).use
   (C:=rowT (.slice p4 (allT H.T).length c4) (allT H.T)) h2 (zztmc _ _) fun u w3 F3 h3 s3=>?_)
  rw[Q06] at h3;obtain⟨rfl,h3⟩:=h3;refine⟨rfl,f-1,by omega,j+1,by rw[Q04 (by omega) (by omega)];omega,by omega,F3,?_,s2.trans s3⟩;rw[etk,Q6Z];exact re h3 (zztmc _ _)
 ·have ej:(allT H.T).take j=allT H.T:=List.take_of_length_le (by omega);rw[ej] at h2;generalize eT:(drN s (allT H.T) A H.T).2=T' at h2;generalize eA:(drN s (allT H.T) A H.T).1=A' at h2;have er:droA s A H=A':=eA;have eh:droH s A H={H0 H.win with T:=T'}:=by unfold droH;rw[eT]
  rw[er,eh] at r;refine(Q7U (hb:=hb) (hvs s x)).use (C:=rowT x.wv H.win*(tbT x.tb T'*(fam (slF x.sp H.sl)*(fam (lnF8 x.lp H.ln)*(mpT 3 x.mp (smM x.pp H.S)*fam (smF s x.pp H.S)))))*(rowT (.slice p4 (allT H.T).length c4) (allT H.T)*axT s A')) h2 (by unfold hpX;ac_rfl) fun v w5 F5 h5 s5=>?_;obtain⟨⟨sp,lp,mp⟩,rfl,h5b⟩:=Q0l h5;have h6:((fam (slF x.sp H.sl)*(fam (lnF8 x.lp H.ln)*(mpT 3 x.mp (smM x.pp H.S)*(fam (smF s x.pp H.S)*rowT (.slice p4 (allT H.T).length c4) (allT H.T)))))*(axT s A'*hpX s hb {x with sp:=sp,lp:=lp,mp:=mp} {H0 H.win with T:=T'})).P w5 F5:=re h5b (by
   rw[QfN,<-QcU];show blk hb (fO 37 _ (emV (hvs s x) sp lp mp))*(fam (slF sp emS)*(fam (lnF8 lp emL)*mpT _ mp _))*_=_*(_*(_*(rowT x.wv H.win*(tbT x.tb T'*(fam (slF sp emS)*(fam (lnF8 lp emL)*mpT _ mp _))))));ac_rfl)
  obtain⟨F7,h7,sub⟩:=Q07 h6;exact⟨rfl,r _ w5 F7 h7 ((s2.trans s5).sub sub)⟩
end
end
section
open Go.RowKit Go.Maps Thing
structure BFr (lo n:Nat) (bs:List UInt8) (ts:List Tch) (bs':List UInt8) (ts':List Tch):Prop where
 len:bs'.length=bs.length
 get:∀j,¬(lo<=j /\ j<lo+n)->bs'[j]? = bs[j]?
 ts:∃l,ts'=ts++l /\ ∀t ∈ l,(lo:Int)<=t.1 /\ 1<=t.2.1 /\ t.1+t.2.1<=((lo+n:Nat):Int)
theorem BFr.refl(lo n:Nat)(bs:List UInt8)(ts:List Tch):BFr lo n bs ts bs ts:=⟨rfl,fun j _=>rfl,[],by simp,fun t h=>(by cases h)⟩
theorem BFr.trans{lo n:Nat}{b1 b2 b3:List UInt8}{t1 t2 t3:List Tch}(h:BFr lo n b1 t1 b2 t2)(g:BFr lo n b2 t2 b3 t3):BFr lo n b1 t1 b3 t3:=by
 obtain⟨l1,e1,f1⟩:=h.ts;obtain⟨l2,e2,f2⟩:=g.ts;refine⟨g.len.trans h.len,fun j hj=>(g.get j hj).trans (h.get j hj),l1++l2,by rw[e2,e1,List.append_assoc],fun t ht=>?_⟩;rcases zzmpd.1 ht with ht | ht
 ·exact f1 t ht
 ·exact f2 t ht
theorem BFr.sub{lo n lo' n':Nat}{b1 b2:List UInt8}{t1 t2:List Tch}(h:BFr lo n b1 t1 b2 t2)(h1:lo'<=lo)(h2:lo+n<=lo'+n'):BFr lo' n' b1 t1 b2 t2:=by
 obtain⟨l1,e1,f1⟩:=h.ts;exact⟨h.len,fun j hj=>h.get j (by omega),l1,e1,fun t ht=>by have:=f1 t ht;omega⟩
theorem BFr.put{bs:List UInt8}{ts:List Tch}{a:Nat}{l:List UInt8}(h:a+l.length<=bs.length)(x:List Tch)(hx:∀t ∈ x,(a:Int)<=t.1 /\ 1<=t.2.1 /\ t.1+t.2.1<=((a+l.length:Nat):Int)):BFr a l.length bs ts (putAt bs a l) (ts++x):=
 ⟨Q0k h,fun j hj=>by rw[Q28 h,if_neg hj],x,rfl,hx⟩
theorem BFr.note{bs:List UInt8}{ts:List Tch}{a n:Nat}(x:List Tch)(hx:∀t ∈ x,(a:Int)<=t.1 /\ 1<=t.2.1 /\ t.1+t.2.1<=((a+n:Nat):Int)):BFr a n bs ts bs (ts++x):=⟨rfl,fun j _=>rfl,x,rfl,hx⟩
theorem Qfr{n base k:Nat}{h:Int}(hk:k<8)(hb:base+512<=n)(hn:n<=2097152)(h0:-1<=h)(h1:h<perN k):CfgC n base (unitN k) (perN k) h:=by
 obtain⟨c1,c2,c3,c4,c5⟩:=Q0h hk;exact⟨c1,c2,c3,by omega,by omega,hn,h0,h1⟩
theorem Q5R{hs:List Bool}{k:Int}(h:Sf.takeAtE hs k=0):∃b:Nat,k=(b:Int) /\ hs[b]? = some false /\ Sf.takeAtH hs k=hs.set b true:=by
 unfold Sf.takeAtE at h;split at h
 ·rename_i hin;split at h
  ·cases h
  ·rename_i hne;obtain⟨b,rfl⟩:=zzeoz hin.1;rw[zztnc] at hne;have hb:b<hs.length:=by have:=hin.2;omega
   refine⟨b,rfl,?_,?_⟩
   ·rw[zzgge hb] at hne ⊢;cases hv:hs[b]
    ·rfl
    ·rw[hv] at hne;exact absurd rfl hne
   ·unfold Sf.takeAtH;rw[if_pos hin,zztnc]
 ·cases h
theorem Q5Q{hs:List Bool}{k:Int}(h:Sf.takeAtE hs k ≠ 0):Sf.takeAtH hs k=hs:=by
 unfold Sf.takeAtE at h;unfold Sf.takeAtH;split at h
 ·rename_i hin;rw[if_pos hin];split at h
  ·rename_i he;exact Sf.set_same he
  ·exact absurd rfl h
 ·rename_i hin;rw[if_neg hin]
section
variable{n base k:Nat}{s:St}
theorem Qbl{h:Int}(g:CfgC n base (unitN k) (perN k) h)(h0:0<=h)(hk:k<8):base<=base+h.toNat*unitN k /\ base+h.toNat*unitN k+8<=base+512:=by
 obtain⟨c1,c2,c3,c4,c5⟩:=Q0h hk;have:=g.h1;have h1:(h.toNat+1)*unitN k<=perN k*unitN k:=zzmlr _ (by omega);rw[Nat.add_mul,Nat.one_mul,Nat.mul_comm (perN k)] at h1;omega
theorem QfW(hk:k<8)(g:CfgC s.bs.length base (unitN k) (perN k) s.hr):BFr base 512 s.bs s.ts (popB s.bs base (unitN k) (perN k) s.hr) (popT s.bs s.ts base (unitN k) (perN k) s.hr):=by
 unfold popB popT;by_cases h0:s.hr<0
 ·rw[if_pos h0,if_pos h0];exact BFr.refl _ _ _ _
 rw[if_neg h0,if_neg h0];obtain⟨a1,a2⟩:=Qbl g (by omega) hk;have fit:=(g.at (k:=s.hr.toNat) (by have:=g.h1;omega)).1;by_cases h1:perN k<lkA s.bs base (unitN k) s.hr.toNat
 ·rw[if_pos h1,if_pos h1];exact(BFr.note (a:=base+s.hr.toNat*unitN k) (n:=8) _ (fun t ht=>by simp at ht;subst ht;simp)).sub a1 a2
 ·rw[if_neg h1,if_neg h1,List.append_assoc];have:=BFr.put (bs:=s.bs) (ts:=s.ts) (a:=base+s.hr.toNat*unitN k) (l:=le8 0) (by rw[Q0x];exact fit) ([(((base+s.hr.toNat*unitN k:Nat):Int),8,false)]++[(((base+s.hr.toNat*unitN k:Nat):Int),8,true)]) (fun t ht=>by
   rw[Q0x];simp at ht;rcases ht with rfl | rfl <;> simp)
  rw[Q0x] at this;exact this.sub a1 a2
theorem Qd6(hk:k<8)(hb:base+512<=s.bs.length)(hn:s.bs.length<=2097152)(q:PqOk k s.pq):BFr base 512 s.bs s.ts (outS (unitN k) (perN k) base s).bs (outS (unitN k) (perN k) base s).ts /\ PqOk k (outS (unitN k) (perN k) base s).pq /\
  (outE (unitN k) (perN k) base s=0->∃b:Nat,outI (unitN k) (perN k) base s=(b:Int) /\ s.hs[b]? = some false /\ (outS (unitN k) (perN k) base s).hs=s.hs.set b true) /\ (outE (unitN k) (perN k) base s ≠ 0->(outS (unitN k) (perN k) base s).hs=s.hs):=by
 have g:CfgC s.bs.length base (unitN k) (perN k) s.hr:=Qfr hk hb hn q.r0 q.r1;have fr:=QfW hk g;obtain⟨p0,p1⟩:=Q4H g;unfold outS outE outI;by_cases he:popE s.bs base (unitN k) (perN k) s.hr=0
 ·rw[if_pos he,if_pos he,if_pos he];refine⟨fr,⟨?_,q.f,p0,p1,q.w0,q.w1⟩,fun h=>Q5R h,fun h=>Q5Q h⟩;show(Sf.takeAtH s.hs _).length=_;unfold Sf.takeAtH;split
  ·rw[List.length_set];exact q.hl
  ·exact q.hl
 ·rw[if_neg he,if_neg he,if_neg he];exact⟨fr,⟨q.hl,q.f,p0,p1,q.w0,q.w1⟩,fun h=>absurd h he,fun _=>rfl⟩
theorem Q8O(hk:k<8)(hb:base+512<=s.bs.length)(hn:s.bs.length<=2097152)(q:PqOk k s.pq):BFr base 512 s.bs s.ts (aloS (unitN k) (perN k) base s).bs (aloS (unitN k) (perN k) base s).ts /\ PqOk k (aloS (unitN k) (perN k) base s).pq /\
  (aloE (unitN k) (perN k) base s=0->∃b:Nat,aloI (unitN k) (perN k) base s=(b:Int) /\ s.hs[b]? = some false /\ (aloS (unitN k) (perN k) base s).hs=s.hs.set b true) /\ (aloE (unitN k) (perN k) base s ≠ 0->(aloS (unitN k) (perN k) base s).hs=s.hs):=by
 unfold aloS aloE aloI;by_cases h1:0<=s.hr
 ·rw[if_pos h1,if_pos h1,if_pos h1];exact Qd6 hk hb hn q
 rw[if_neg h1,if_neg h1,if_neg h1];by_cases h2:0<=s.hw
 ·rw[if_pos h2,if_pos h2,if_pos h2];exact Qd6 (s:=colS s) hk hb hn ⟨q.hl,q.f,q.w0,q.w1,by show(-1:Int) ≤ -1;omega,by show(-1:Int)<_;omega⟩
 rw[if_neg h2,if_neg h2,if_neg h2];by_cases h3:s.f=perN k
 ·rw[if_pos h3,if_pos h3,if_pos h3];exact⟨BFr.refl _ _ _ _,q,fun h=>(by cases h),fun _=>rfl⟩
 rw[if_neg h3,if_neg h3,if_neg h3];have hf:=q.f;have hf:s.f<=perN k:=hf;refine⟨BFr.refl _ _ _ _,⟨?_,by show s.f+1<=_;omega,q.r0,q.r1,q.w0,q.w1⟩,fun h=>Q5R h,fun h=>Q5Q h⟩;show(Sf.takeAtH s.hs _).length=_;unfold Sf.takeAtH;split
 ·rw[List.length_set];exact q.hl
 ·exact q.hl
theorem QcN(hk:k<8)(hb:base+512<=s.bs.length)(hn:s.bs.length<=2097152)(q:PqOk k s.pq){b:Nat}(hh:s.hs[b]? = some true):BFr base 512 s.bs s.ts (freS (unitN k) (perN k) base s (b:Int)).bs (freS (unitN k) (perN k) base s (b:Int)).ts /\
  PqOk k (freS (unitN k) (perN k) base s (b:Int)).pq /\ (freS (unitN k) (perN k) base s (b:Int)).hs=s.hs.set b false:=by
 have hbl:=(zzgsi.1 hh).1;have hl:s.hs.length=perN k:=q.hl;have hin:Sf.InS s.hs (b:Int):=⟨by omega,by omega⟩;have hE:Sf.giveE s.hs (b:Int)=0:=by unfold Sf.giveE;rw[if_pos hin,zztnc,if_pos hh]
 have hG:Sf.giveH s.hs (b:Int)=s.hs.set b false:=by unfold Sf.giveH;rw[if_pos hin,zztnc]
 obtain⟨c1,c2,c3,c4,c5⟩:=Q0h hk;have h1:(b+1)*unitN k<=perN k*unitN k:=zzmlr _ (by omega);rw[Nat.add_mul,Nat.one_mul,Nat.mul_comm (perN k)] at h1;unfold freS;rw[if_pos hE,zztnc];refine⟨?_,⟨?_,q.f,q.r0,q.r1,by show(-1:Int)<=(b:Int);omega,by show(b:Int)<_;omega⟩,hG⟩
 ·have f1:=BFr.put (bs:=s.bs) (ts:=s.ts) (a:=base+b*unitN k) (l:=List.replicate (unitN k) 0) (by rw[zzlrp];omega) [(((base+b*unitN k:Nat):Int),((unitN k:Nat):Int),true)] (fun t ht=>by simp at ht;subst ht;refine⟨by simp,by show(1:Int)<=(unitN k:Int);omega,by simp⟩);have e1:(putAt s.bs (base+b*unitN k) (List.replicate (unitN k) 0)).length=s.bs.length:=f1.len;have f2:=BFr.put (bs:=putAt s.bs (base+b*unitN k) (List.replicate (unitN k) 0)) (ts:=s.ts++[(((base+b*unitN k:Nat):Int),((unitN k:Nat):Int),true)]) (a:=base+b*unitN k) (l:=le8 (s.hw+1).toNat) (by rw[Q0x,e1];omega) [(((base+b*unitN k:Nat):Int),8,true)] (fun t ht=>by rw[Q0x];simp at ht;subst ht;simp);rw[zzlrp] at f1;rw[Q0x] at f2;exact(f1.sub (lo':=base) (n':=512) (by omega) (by omega)).trans (f2.sub (by omega) (by omega))
 ·show(Sf.giveH s.hs (b:Int)).length=_;rw[hG,List.length_set];exact hl
end
end
section
open Go.RowKit Go.Maps Thing
def inPg(T:Tb)(p:Nat):Prop:=∃y ∈ T,y.2=(p:Int)
structure HFr (A A':Ax) (P:Nat->Prop):Prop where
 bl:A'.bs.length=A.bs.length
 cl:A'.cs.length=A.cs.length
 get:∀j,¬P (j / 512)->A'.bs[j]? = A.bs[j]?
 cs:∀p,¬P p->A'.cs[p]? = A.cs[p]?
 ts:∃l,A'.ts=A.ts++l /\ ∀t ∈ l,∃p:Nat,P p /\ ((p*512:Nat):Int)<=t.1 /\ 1<=t.2.1 /\ t.1+t.2.1<=((p*512+512:Nat):Int)
theorem HFr.refl(A:Ax)(P:Nat->Prop):HFr A A P:=⟨rfl,rfl,fun _ _=>rfl,fun _ _=>rfl,[],by simp,fun t h=>(by cases h)⟩
theorem HFr.mono{A A':Ax}{P Q:Nat->Prop}(h:HFr A A' P)(hs:∀p,P p->Q p):HFr A A' Q:=by
 obtain⟨l,e,f⟩:=h.ts;exact⟨h.bl,h.cl,fun j hj=>h.get j fun q=>hj (hs _ q),fun p hp=>h.cs p fun q=>hp (hs _ q),l,e,fun t ht=>by obtain⟨p,a,b⟩:=f t ht;exact⟨p,hs p a,b⟩⟩
theorem HFr.trans{A B C:Ax}{P:Nat->Prop}(h:HFr A B P)(g:HFr B C P):HFr A C P:=by
 obtain⟨l,e,f⟩:=h.ts;obtain⟨l2,e2,f2⟩:=g.ts;refine⟨g.bl.trans h.bl,g.cl.trans h.cl,fun j hj=>(g.get j hj).trans (h.get j hj),fun p hp=>(g.cs p hp).trans (h.cs p hp),l++l2,by rw[e2,e,List.append_assoc],fun t ht=>?_⟩;rcases zzmpd.1 ht with ht | ht
 ·exact f t ht
 ·exact f2 t ht
theorem HFr.page{A:Ax}{p:Nat}{bs:List UInt8}{ts:List Tch}(h:BFr (p*512) 512 A.bs A.ts bs ts):HFr A {A with bs:=bs,ts:=ts} (· = p):=by
 obtain⟨l,e,f⟩:=h.ts;exact⟨h.len,rfl,fun j hj=>h.get j fun q=>hj (by omega),fun _ _=>rfl,l,e,fun t ht=>⟨p,rfl,by have:=f t ht;omega⟩⟩
structure HSt (s:Sv) (A:Ax) (H:Hp) (A':Ax) (H':Hp):Prop where
 ok:HOk s A' H'
 fr:HFr A A' fun p=>inPg H.T p \/ inPg H'.T p
 new:∀p,inPg H'.T p->inPg H.T p \/ A.cs[p]? = some false
 rest:∀p,A'.cs[p]? = some true->inPg H'.T p \/ (A.cs[p]? = some true /\ ¬inPg H.T p)
 win:H'.win=H.win \/ True
section
variable{s:Sv}{A:Ax}{H:Hp}
theorem HSt.refl(g:HOk s A H):HSt s A H A H:=
 ⟨g,HFr.refl _ _,fun p h=>.inl h,fun p h=>Classical.byCases (fun q:inPg H.T p=>.inl q) (fun q=>.inr ⟨h,q⟩),.inl rfl⟩
theorem Q0I{hs:List Bool}{m j:Nat}(hm:m<hs.length):(hs.set m true)[j]? = some true ↔ j=m \/ hs[j]? = some true:=by
 rw[zzgst];by_cases e:m=j
 ·subst e;rw[if_pos rfl,if_pos hm];simp
 ·rw[if_neg e];exact⟨.inr,fun q=>q.elim (fun z=>absurd z.symm e) id⟩
theorem Q0g{X:Type}(f:Nat->X)(i:Nat)(x:X):updF f i x i=x:=if_pos rfl
theorem Q0n{X:Type}{f:Nat->X}{i j:Nat}{x:X}(h:j ≠ i):updF f i x j=f j:=if_neg h
theorem Q0r{X:Type}(f:Int->X)(i:Int)(x:X):updI f i x i=x:=if_pos rfl
theorem Q0q{X:Type}{f:Int->X}{i j:Int}{x:X}(h:j ≠ i):updI f i x j=f j:=if_neg h
structure HdOk (s:Sv) (A:Ax) (H:Hp) (k m:Nat) (A':Ax) (H':Hp):Prop where
 eA:A'={A with cs:=A'.cs}
 eH:H'={H with sl:=updF H.sl k ((H.sl k).set m true),T:=H'.T}
 cl:A'.cs.length=A.cs.length
 tok:TOk H'.T
 few:H'.T.length<=6400
 own:∀y ∈ H'.T,A'.cs[y.2.toNat]? = some true /\ Cl.inW s.C H.win y.2.toNat=true
 old:∀v y,fndO H.T v=some y->fndO H'.T v=some y
 tab:∀v,(fndO H'.T v).isSome=true ↔ ∃k' m' i,k'<24 /\ (H'.sl k')[m']? = some true /\ i<pagN k' /\ v=(locN k' m':Int)+(i:Int)
 mem:∀y ∈ H.T,y ∈ H'.T
 fr:HFr A A' fun p=>inPg H'.T p
 new:∀p,inPg H'.T p->inPg H.T p \/ A.cs[p]? = some false
 rest:∀p,A'.cs[p]? = some true->inPg H'.T p \/ (A.cs[p]? = some true /\ ¬inPg H.T p)
theorem Q9c{T:Tb}(g:TOk T):T.length<=6400:=by
 have:=Q18 g.n1 (fun x hx=>by obtain⟨y,hy,rfl⟩:=List.mem_map.1 hx;have:=g.rng y hy;omega) (n:=6400) fun x hx=>by obtain⟨y,hy,rfl⟩:=List.mem_map.1 hx;have:=g.rng y hy;omega
 rwa [List.length_map] at this
theorem Q6n(g:HOk s A H){k:Nat}(hk:k<24)(hB:hoB s A H k=true):∃m:Nat,Sf.lowI (H.sl k)=(m:Int) /\ m<sltN k /\ (H.sl k)[m]? = some false /\ hoI s A H k=(m:Int) /\ HdOk s A H k m (hoA s A H k) (hoH s A H k):=by
 obtain⟨m,hm,hms,hf,tk,eI,eA,eH⟩:=Q9t g hk hB;refine⟨m,hm,hms,hf,eI,?_⟩;rw[eA,eH];have hml:m<(H.sl k).length:=by rw[g.sl k hk];exact hms
 have memT:∀y ∈ H.T,y ∈ tkT s.C H.win A.cs H.T (locN k m) (pagN k):=fun y hy=>(Q0a (tk.old y.1 y (Q0W g.tok hy))).1;have rst:∀p,(tkC s.C H.win A.cs (pagN k))[p]? = some true->inPg (tkT s.C H.win A.cs H.T (locN k m) (pagN k)) p \/ (A.cs[p]? = some true /\ ¬inPg H.T p):=fun p hp=>by
  rcases tk.rest p hp with q | ⟨y,a,b⟩
  ·by_cases z:inPg H.T p
   ·obtain⟨y,a,b⟩:=z;exact .inl ⟨y,memT y a,b⟩
   ·exact .inr ⟨q,z⟩
  ·exact .inl ⟨y,a,b⟩
 refine⟨rfl,rfl,tk.len,tk.tok,Q9c tk.tok,fun y hy=>⟨tk.own y hy,?_⟩,tk.old,fun v=>?_,memT,⟨rfl,tk.len,fun _ _=>rfl,fun p hp=>?_,[],by simp,fun t h=>(by cases h)⟩,fun p ⟨y,a,b⟩=>?_,rst⟩
 ·rcases tk.new y hy with q | ⟨fr,_⟩
  ·exact(g.own y q).2
  ·exact fr.2
 ·show(fndO (tkT s.C H.win A.cs H.T (locN k m) (pagN k)) v).isSome=true ↔ _;rw[tk.keys,g.tab];constructor
  ·rintro(⟨k',m',i,h1,h2,h3,h4⟩ | ⟨j,h1,h2⟩)
   ·refine⟨k',m',i,h1,?_,h3,h4⟩;show(updF H.sl k ((H.sl k).set m true) k')[m']? = some true;by_cases e:k'=k
    ·subst e;rw[Q0g];exact(Q0I hml).2 (.inr h2)
    ·rw[Q0n e];exact h2
   ·refine⟨k,m,j,hk,?_,h1,h2⟩;show(updF H.sl k ((H.sl k).set m true) k)[m]? = some true;rw[Q0g];exact(Q0I hml).2 (.inl rfl)
  ·rintro⟨k',m',i,h1,h2,h3,h4⟩;have h2:(updF H.sl k ((H.sl k).set m true) k')[m']? = some true:=h2;by_cases e:k'=k
   ·subst e;rw[Q0g] at h2;rcases(Q0I hml).1 h2 with rfl | q
    ·exact .inr ⟨i,h3,h4⟩
    ·exact .inl ⟨k',m',i,h1,q,h3,h4⟩
   ·rw[Q0n e] at h2;exact .inl ⟨k',m',i,h1,h2,h3,h4⟩
 ·show(tkC s.C H.win A.cs (pagN k))[p]? = A.cs[p]?;by_cases hpl:p<A.cs.length
  ·have hpl':p<(tkC s.C H.win A.cs (pagN k)).length:=by rw[tk.len];exact hpl
   rw[zzgge hpl,zzgge hpl'];congr 1;cases hv:A.cs[p]
   ·cases hv':(tkC s.C H.win A.cs (pagN k))[p]
    ·rfl
    ·rcases tk.rest p (by rw[zzgge hpl',hv'])with q | q
     ·rw[zzgge hpl,hv] at q;cases q
     ·exact absurd q hp
   ·have:=tk.mono p (by rw[zzgge hpl,hv]);rw[zzgge hpl'] at this;exact Option.some.inj this
  ·rw[List.getElem?_eq_none (by rw[tk.len];omega),List.getElem?_eq_none (by omega)]
 ·rcases tk.new y a with q | ⟨fr,_⟩
  ·exact .inl ⟨y,q,b⟩
  ·refine .inr ?_;have:=fr.1;rw[b,zztnc] at this;exact this
theorem QbI(g:HOk s A H){k:Nat}(hk:k<24)(h8:8<=k)(hB:hoB s A H k=true):HSt s A H (hoA s A H k) (hoH s A H k):=by
 obtain⟨m,hm,hms,hf,eI,h⟩:=Q6n g hk hB;generalize hoA s A H k=A' at h ⊢;generalize hoH s A H k=H' at h ⊢;have eA:=h.eA;have eH:=h.eH;have eS:H'.S=H.S:=by rw[eH]
 have eL:H'.ln=H.ln:=by rw[eH]
 have eW:H'.win=H.win:=by rw[eH]
 have esl:∀k',k'<8->H'.sl k'=H.sl k':=fun k' hk'=>by rw[eH];exact Q0n (by omega)
 have ebs:A'.bs=A.bs:=by rw[eA]
 refine⟨⟨by rw[ebs];exact g.nb,by rw[h.cl];exact g.nc,by rw[h.cl];exact g.p4,by rw[eW];exact g.win,h.tok,h.few,fun k' hk'=>?_,by rw[eW];exact h.own,fun v q hq=>?_,fun k' m' hk' ht=>?_,fun k' hk'=>?_,h.tab⟩,h.fr.mono fun p q=>.inr q,h.new,h.rest,.inr trivial⟩
 ·rw[eH];show(updF H.sl k ((H.sl k).set m true) k').length=_;by_cases e:k'=k
  ·subst e;rw[Q0g,List.length_set];exact g.sl k' hk'
  ·rw[Q0n e];exact g.sl k' hk'
 ·rw[eS] at hq;obtain⟨a1,a2,m',a3,a4,a5,p,a6,a7⟩:=g.pg v q hq;exact⟨a1,a2,m',a3,a4,by rw[esl _ a1];exact a5,p,h.old _ _ a6,a7⟩
 ·rw[esl _ hk'] at ht;rw[eS];exact g.sm k' m' hk' ht
 ·rw[eL,eS];exact g.ln k' hk'
theorem Q2v(g:HOk s A H){k:Nat}(h8:k<8)(hB:hoB s A H k=true):HSt s A H (hoA s A H k) (nwH s A H k) /\ (nwH s A H k).S (nwV H k)=some (nwG s A H k) /\ nwV H k ∈ (nwH s A H k).ln k:=by
 obtain⟨m,hm,hms,hf,eI,h⟩:=Q6n g (by omega) hB;have eV:nwV H k=(locN k m:Int):=by unfold nwV;rw[hm,zztnc]
 have eN:nwH s A H k={hoH s A H k with S:=updI H.S (locN k m) (some (nwG s A H k)),ln:=updF H.ln k (H.ln k++[(locN k m:Int)])}:=by unfold nwH;rw[eV]
 have hp1:pagN k=1:=if_pos h8;have hml:m<(H.sl k).length:=by rw[g.sl k (by omega)];exact hms
 have eH:=h.eH;have eA:=h.eA;have esl:∀k',(hoH s A H k).sl k'=updF H.sl k ((H.sl k).set m true) k':=fun k'=>by rw[eH]
 have eW:(hoH s A H k).win=H.win:=by rw[eH]
 have ebs:(hoA s A H k).bs=A.bs:=by rw[eA]
 have hSn:∀q,H.S (locN k m:Int) ≠ some q:=fun q hS=>by
  obtain⟨q8,_,m',hm',e',ht,_⟩:=g.pg _ q hS;obtain⟨rfl,rfl,_⟩:=Q1b (i:=0) (i':=0) (by omega) (by omega) hms hm' (Q0C _) (Q0C _) (by omega);rw[hf] at ht;cases ht
 have hsome:(fndO (hoH s A H k).T (locN k m:Int)).isSome=true:=(h.tab _).2 ⟨k,m,0,by omega,by rw[esl,Q0g];exact(Q0I hml).2 (.inl rfl),by omega,by omega⟩;obtain⟨y,hy⟩:=zzise.1 hsome;obtain⟨hyT,e1⟩:=Q0a hy;obtain⟨p,hp⟩:=zzeoz (h.tok.rng y hyT).2.2.1;have ey:y=((locN k m:Int),(p:Int)):=by rw[<-e1,<-hp]
 have efn:fnd (hoH s A H k).T (locN k m:Int)=(p:Int):=by unfold fnd;rw[hy];exact hp
 have eG:nwG s A H k=⟨p*512,k,newPq k⟩:=by unfold nwG;rw[eV,efn,zztnc]
 have pq:PqOk k (newPq k):=⟨zzlrp,Nat.zero_le _,by show(-1:Int) ≤ -1;omega,by show(-1:Int)<_;have:=(Q0h h8).2.2.1;omega,by show(-1:Int) ≤ -1;omega,by show(-1:Int)<_;have:=(Q0h h8).2.2.1;omega⟩;have hcnt:(newPq k).hs.count false ≠ 0:=by
  show(List.replicate (perN k) false).count false ≠ 0;rw[List.count_replicate_self];have:=(Q0h h8).2.2.1;omega
 rw[eV,eN,eG];refine⟨⟨⟨by rw[ebs];exact g.nb,by rw[h.cl];exact g.nc,by rw[h.cl];exact g.p4,by show(hoH s A H k).win.length<=32;rw[eW];exact g.win,h.tok,h.few,fun k' hk'=>?_,by show ∀y ∈ (hoH s A H k).T,_ /\ Cl.inW s.C (hoH s A H k).win _=true;rw[eW];exact h.own,fun v q hq=>?_,fun k' m' hk' ht=>?_,fun k' hk'=>?_,h.tab⟩,h.fr.mono fun p q=>.inr q,h.new,h.rest,.inr trivial⟩,Q0r _ _ _,?_⟩
 ·show((hoH s A H k).sl k').length=_;rw[esl];by_cases e:k'=k
  ·subst e;rw[Q0g,List.length_set];exact g.sl k' hk'
  ·rw[Q0n e];exact g.sl k' hk'
 ·have hq:updI H.S (locN k m) (some ⟨p*512,k,newPq k⟩) v=some q:=hq;by_cases e:v=(locN k m:Int)
  ·subst e;rw[Q0r] at hq;cases hq;refine⟨h8,pq,m,hms,rfl,?_,p,by rw[<-ey];exact hy,rfl⟩;show((hoH s A H k).sl k)[m]? = some true;rw[esl,Q0g];exact(Q0I hml).2 (.inl rfl)
  ·rw[Q0q e] at hq;obtain⟨a1,a2,m',a3,a4,a5,p',a6,a7⟩:=g.pg v q hq;refine⟨a1,a2,m',a3,a4,?_,p',h.old _ _ a6,a7⟩;show((hoH s A H k).sl q.kind)[m']? = some true;rw[esl];by_cases e2:q.kind=k
   ·rw[e2] at a5 ⊢;rw[Q0g];exact(Q0I hml).2 (.inr a5)
   ·rw[Q0n e2];exact a5
 ·have ht:((hoH s A H k).sl k')[m']? = some true:=ht;rw[esl] at ht;show ∃g,updI H.S (locN k m) (some ⟨p*512,k,newPq k⟩) (locN k' m')=some g /\ _;have key:(H.sl k')[m']? = some true->∃g,updI H.S (locN k m) (some ⟨p*512,k,newPq k⟩) (locN k' m')=some g /\ g.kind=k':=fun q=>by
   obtain⟨g',b1,b2⟩:=g.sm k' m' hk' q;rw[Q0q (fun z=>hSn g' (by rw[<-z];exact b1))];exact⟨g',b1,b2⟩
  by_cases e:k'=k
  ·subst e;rw[Q0g] at ht;rcases(Q0I hml).1 ht with rfl | q
   ·rw[Q0r];exact⟨_,rfl,rfl⟩
   ·exact key q
  ·rw[Q0n e] at ht;exact key ht
 ·have hg:=g.ln k' hk';show(updF H.ln k (H.ln k++[(locN k m:Int)]) k').Nodup /\ ∀v,v ∈ updF H.ln k (H.ln k++[(locN k m:Int)]) k' ↔ ∃g,updI H.S (locN k m) (some ⟨p*512,k,newPq k⟩) v=some g /\ _;have nl:∀k2,k2<8->(locN k m:Int) ∉ H.ln k2:=fun k2 hk2 z=>by
   obtain⟨q,a,_⟩:=((g.ln k2 hk2).2 _).1 z;exact hSn q a
  by_cases e:k'=k
  ·subst e;rw[Q0g];refine⟨List.nodup_append.2 ⟨hg.1,by simp,fun a ha b hb=>?_⟩,fun v=>?_⟩
   ·simp at hb;subst hb;rintro rfl;exact nl k' hk' ha
   ·rw[zzmpd,List.mem_singleton];by_cases e2:v=(locN k' m:Int)
    ·subst e2;rw[Q0r];exact⟨fun _=>⟨_,rfl,rfl,hcnt⟩,fun _=>.inr rfl⟩
    ·rw[Q0q e2,<-hg.2];exact⟨fun z=>z.elim id (fun y=>absurd y e2),.inl⟩
  ·rw[Q0n e];refine⟨hg.1,fun v=>?_⟩;by_cases e2:v=(locN k m:Int)
   ·subst e2;rw[Q0r];refine⟨fun z=>absurd z (nl k' hk'),fun⟨q,a,b,_⟩=>?_⟩;cases a;exact absurd b.symm e
   ·rw[Q0q e2];exact hg.2 v
 ·show(locN k m:Int) ∈ updF H.ln k (H.ln k++[(locN k m:Int)]) k;rw[Q0g];simp
end
end
section
open Go.RowKit Go.Maps Thing
section
variable{s:Sv}{A:Ax}{H:Hp}
theorem HOk.pgs(g:HOk s A H){v:Int}{q:Pg}(hS:H.S v=some q):∃p:Nat,q.base=p*512 /\ inPg H.T p /\ q.base+512<=A.bs.length /\ A.bs.length<=2097152:=by
 obtain⟨a1,a2,m',a3,a4,a5,p,a6,a7⟩:=g.pg v q hS;have hT:=(Q0a a6).1;have hc:=(zzgsi.1 (g.own _ hT).1).1;rw[zztnc] at hc;have:=g.nb;have:=g.nc;have:=g.p4;exact⟨p,a7,⟨_,hT,rfl⟩,by omega,by omega⟩
theorem Q26(g:HOk s A H){v:Int}{q:Pg}(hS:H.S v=some q){bs:List UInt8}{ts:List Tch}(fr:BFr q.base 512 A.bs A.ts bs ts){q':Pq}(hq:PqOk q.kind q'){ln:Nat->List Int}
  (hl:∀k,k<8->(ln k).Nodup /\ ∀u,u ∈ ln k ↔ if u=v then(k=q.kind /\ q'.hs.count false ≠ 0)else u ∈ H.ln k) :
  HSt s A H {A with bs:=bs,ts:=ts} {H with S:=updI H.S v (some {q with q:=q'}),ln:=ln}:=by
 obtain⟨p,e1,e2,e3,e4⟩:=g.pgs hS;rw[e1] at fr;have kind:∀u r,updI H.S v (some {q with q:=q'}) u=some r->∃r0,H.S u=some r0 /\ r.kind=r0.kind /\ r.base=r0.base /\ PqOk r.kind r.q:=fun u r hr=>by
  by_cases e:u=v
  ·subst e;rw[Q0r] at hr;cases hr;exact⟨q,hS,rfl,rfl,hq⟩
  ·rw[Q0q e] at hr;exact⟨r,hr,rfl,rfl,(g.pg u r hr).2.1⟩
 refine⟨⟨fr.len.trans g.nb,g.nc,g.p4,g.win,g.tok,g.few,g.sl,g.own,fun u r hr=>?_,fun k m hk ht=>?_,fun k hk=>⟨(hl k hk).1,fun u=>?_⟩,g.tab⟩,(HFr.page fr).mono fun p' hp=>by subst hp;exact .inl e2,fun p h=>.inl h,fun p h=>Classical.byCases (fun z:inPg H.T p=>.inl z) (fun z=>.inr ⟨h,z⟩),.inr trivial⟩
 ·obtain⟨r0,a,b,c,d⟩:=kind u r hr;obtain⟨b1,b2,b3⟩:=g.pg u r0 a;rw[<-b,<-c] at *
  exact⟨b1,d,b3⟩
 ·obtain⟨r,a,b⟩:=g.sm k m hk ht;show ∃g,updI H.S v (some {q with q:=q'}) (locN k m)=some g /\ _;by_cases e:(locN k m:Int)=v
  ·rw[e,Q0r];rw[e,hS] at a;cases a;exact⟨_,rfl,b⟩
  ·rw[Q0q e];exact⟨r,a,b⟩
 ·show u ∈ ln k ↔ ∃g,updI H.S v (some {q with q:=q'}) u=some g /\ _;rw[(hl k hk).2];by_cases e:u=v
  ·subst e;rw[if_pos rfl,Q0r];exact⟨fun⟨a,b⟩=>⟨_,rfl,a.symm,b⟩,fun⟨r,a,b,c⟩=>by cases a;exact⟨b.symm,c⟩⟩
  ·rw[if_neg e,Q0q e];exact(g.ln k hk).2 u
theorem HSt.page{A1 A2:Ax}{H1 H2:Hp}(h:HSt s A H A1 H1)(g:HSt s A1 H1 A2 H2)(e:H2.T=H1.T):HSt s A H A2 H2:=by
 refine⟨g.ok,by rw[e];exact h.fr.trans (g.fr.mono fun p q=>by rw[e] at q;exact .inr (q.elim id id)),fun p q=>h.new p (by rw[<-e];exact q),fun p q=>?_,.inr trivial⟩;rw[e];rcases g.rest p q with z | ⟨z1,z2⟩
 ·rw[e] at z;exact .inl z
 ·rcases h.rest p z1 with y | y
  ·exact absurd y z2
  ·exact .inr y
theorem Q21{hs:List Bool}{b:Nat}(h:hs[b]? = some false):hs.count false=(hs.set b true).count false+1:=by
 obtain⟨hb,e⟩:=zzgsi.1 h;have e1:hs=hs.take b++false :: hs.drop (b+1):=by rw[<-e,List.getElem_cons_drop,List.take_append_drop]
 have e2:hs.set b true=hs.take b++true :: hs.drop (b+1):=by rw[List.set_eq_take_append_cons_drop,if_pos hb]
 rw[e2]
 conv=>lhs;rw[e1]
 simp[List.count_append,List.count_cons];omega
theorem Q7j(g:HOk s A H){k:Nat}{v:Int}{q:Pg}(hS:H.S v=some q)(hk:q.kind=k)(hl:v ∈ H.ln k):HSt s A H (maF A H k v q).A (maF A H k v q).H /\ (maF A H k v q).H.T=H.T:=by
 subst hk;obtain⟨h8,pq,_⟩:=g.pg v q hS;obtain⟨p,e1,e2,e3,e4⟩:=g.pgs hS;obtain⟨fr,pq',a0,a1⟩:=Q8O (s:=q.q.st A.bs A.ts) h8 e3 e4 pq;have hl0:=g.ln q.kind h8;have oth:∀k,k<8->k ≠ q.kind->v ∉ H.ln k:=fun k hk hne z=>by
  obtain⟨r,a,b,_⟩:=((g.ln k hk).2 v).1 z;rw[hS] at a;cases a;exact hne b.symm
 have same:∀ {q':Pq},q'.hs.count false ≠ 0->∀k,k<8->(H.ln k).Nodup /\ ∀u,u ∈ H.ln k ↔ if u=v then(k=q.kind /\ q'.hs.count false ≠ 0)else u ∈ H.ln k:=fun hc k hk=>⟨(g.ln k hk).1,fun u=>by
  by_cases e:u=v
  ·subst e;rw[if_pos rfl];exact⟨fun z=>⟨Classical.byContradiction fun y=>oth k hk y z,hc⟩,fun z=>by rw[z.1];exact hl⟩
  ·rw[if_neg e]⟩
 unfold maF;generalize aloS (unitN q.kind) (perN q.kind) q.base (q.q.st A.bs A.ts)=st at fr pq' a0 a1 ⊢;generalize aloI (unitN q.kind) (perN q.kind) q.base (q.q.st A.bs A.ts)=I at a0 ⊢;have hc0:q.q.hs.count false ≠ 0:=by
  obtain⟨r,a,_,c⟩:=(hl0.2 v).1 hl;rw[hS] at a;cases a;exact c
 by_cases hE:aloE (unitN q.kind) (perN q.kind) q.base (q.q.st A.bs A.ts)=0
 ·rw[if_pos hE];by_cases hc:st.hs.count false=0
  ·show HSt s A H (A.put st) (if st.hs.count false=0 then _ else _) /\ (if st.hs.count false=0 then _ else _:Hp).T=H.T;rw[if_pos hc];refine⟨Q26 g hS fr pq' fun k hk=>?_,rfl⟩;show(updF H.ln q.kind ((H.ln q.kind).erase v) k).Nodup /\ ∀u,u ∈ updF H.ln q.kind ((H.ln q.kind).erase v) k ↔ _;by_cases e:k=q.kind
   ·rw[e,Q0g];refine⟨hl0.1.erase _,fun u=>?_⟩;rw[hl0.1.mem_erase_iff];by_cases e2:u=v
    ·rw[if_pos e2];exact⟨fun z=>absurd e2 z.1,fun z=>absurd hc z.2⟩
    ·rw[if_neg e2];exact⟨fun z=>z.2,fun z=>⟨e2,z⟩⟩
   ·rw[Q0n e];refine⟨(g.ln k hk).1,fun u=>?_⟩;by_cases e2:u=v
    ·subst e2;rw[if_pos rfl];exact⟨fun z=>absurd z (oth k hk e),fun z=>absurd z.1 e⟩
    ·rw[if_neg e2]
  ·show HSt s A H (A.put st) (if st.hs.count false=0 then _ else _) /\ (if st.hs.count false=0 then _ else _:Hp).T=H.T;rw[if_neg hc];exact⟨Q26 g hS fr pq' (same hc),rfl⟩
 ·rw[if_neg hE];refine⟨Q26 g hS fr pq' (same ?_),rfl⟩;show st.hs.count false ≠ 0;rw[a1 hE];exact hc0
theorem Q17(g:HOk s A H)(n:Int):HSt s A H (malM s A H n).A (malM s A H n).H:=by
 obtain⟨c24,cm1⟩:=Q2s n;unfold malM;by_cases h1:clsI n<0
 ·rw[if_pos h1];exact HSt.refl g
 rw[if_neg h1];obtain⟨k,hk⟩:=zzeoz (show 0<=clsI n by omega);have c24':k<24:=by omega
 rw[hk,zztnc];by_cases h2:(8:Int)<=(k:Int)
 ·rw[if_pos h2];by_cases hB:hoB s A H k=true
  ·rw[if_pos hB];exact QbI g (by omega) (by omega) hB
  ·rw[if_neg hB];exact HSt.refl g
 rw[if_neg h2];have k8:k<8:=by omega
 unfold malK;cases hL:H.ln k with
 | cons v rest=>
  have hv:v ∈ H.ln k:=by rw[hL];simp
  obtain⟨q,a,b,c⟩:=((g.ln k k8).2 v).1 hv;show HSt s A H (match H.S v with | some g=>maF A H k v g | none=>⟨0,11,A,H⟩:Mr).A (match H.S v with | some g=>maF A H k v g | none=>⟨0,11,A,H⟩:Mr).H;rw[a];exact(Q7j g a b hv).1
 | nil=>
  show HSt s A H (if hoB s A H k=true then _ else _:Mr).A (if hoB s A H k=true then _ else _:Mr).H;by_cases hB:hoB s A H k=true
  ·rw[if_pos hB];obtain⟨a,b,c⟩:=Q2v g k8 hB;obtain⟨d,e⟩:=Q7j a.ok b (show(nwG s A H k).kind=k from rfl) c;exact a.page d e
  ·rw[if_neg hB];exact HSt.refl g
structure RmI (A:Ax) (T:Tb) (A':Ax) (T':Tb):Prop where
 tok:TOk T'
 sub:∀y ∈ T',y ∈ T
 own:∀y ∈ T',A'.cs[y.2.toNat]? = some true
 rest:∀p,A'.cs[p]? = some true->A.cs[p]? = some true /\ (inPg T' p \/ ¬inPg T p)
 fr:HFr A A' (inPg T)
 zero:∀p,inPg T p->¬inPg T' p->∀j,p*512<=j->j<p*512+512->A'.bs[j]? = some 0
theorem RmI.refl{T:Tb}(tok:TOk T)(own:∀y ∈ T,A.cs[y.2.toNat]? = some true):RmI A T A T:=
 ⟨tok,fun y h=>h,own,fun p h=>⟨h,Classical.em _⟩,HFr.refl _ _,fun p a b=>absurd a b⟩
theorem RmI.step{T T':Tb}{A':Ax}(h:RmI A T A' T')(hT:∀y ∈ T,y.2.toNat*512+512<=A.bs.length)(v:Int):RmI A T (leA A' T' v) (rmT T' v):=by
 cases e:fndO T' v with
 | none=>
  rw[Qad e];unfold leA;rw[e];exact h
 | some y=>
  obtain⟨hy,ev⟩:=Q0a e;obtain⟨p,hp⟩:=zzeoz (h.tok.rng y hy).2.2.1;have hin:=hT y (h.sub y hy);rw[hp,zztnc] at hin;have hop:=h.own y hy;rw[hp,zztnc] at hop;have hpl:=(zzgsi.1 hop).1;have eA:leA A' T' v={bs:=putAt A'.bs (p*512) (List.replicate 512 0),ts:=A'.ts++[(((p*512:Nat):Int),512,true)],cs:=A'.cs.set p false}:=by
   unfold leA;rw[e];simp only[hp,zztnc];have:Sf.giveH A'.cs (p:Int)=A'.cs.set p false:=by unfold Sf.giveH;rw[if_pos ⟨by omega,by omega⟩,zztnc]
   rw[this]
  have hset:∀q:Nat,(A'.cs.set p false)[q]? = some true ↔ q ≠ p /\ A'.cs[q]? = some true:=fun q=>by
   rw[zzgst];by_cases z:p=q
   ·subst z;rw[if_pos rfl,if_pos hpl];simp
   ·rw[if_neg z];exact⟨fun a=>⟨fun b=>z b.symm,a⟩,fun a=>a.2⟩
  have hin':p*512+512<=A'.bs.length:=by rw[h.fr.bl];exact hin
  have hfit:p*512+(List.replicate 512 (0:UInt8)).length<=A'.bs.length:=by rw[zzlrp];exact hin'
  have hpT:inPg T p:=⟨y,h.sub y hy,hp⟩;rw[eA];refine⟨Qae h.tok,fun z hz=>h.sub z (List.mem_filter.1 hz).1,fun z hz=>?_,fun q hq=>?_,h.fr.trans ?_,fun q a b j h1 h2=>?_⟩
  ·obtain⟨z1,z2⟩:=List.mem_filter.1 hz;refine(hset _).2 ⟨fun q=>?_,h.own z z1⟩;have hz0:=(h.tok.rng z z1).2.2.1;have:=Q0z h.tok.n2 z1 hy (by show z.2=y.2;omega);rw[this,ev] at z2;simp at z2
  ·obtain⟨q1,q2⟩:=(hset q).1 hq;obtain⟨a,b⟩:=h.rest q q2;refine⟨a,b.imp (fun⟨z,z1,z2⟩=>⟨z,List.mem_filter.2 ⟨z1,?_⟩,z2⟩) id⟩;have:z.1 ≠ v:=fun w=>by
    have:=Q0z h.tok.n1 z1 hy (w.trans ev.symm);rw[this,hp] at z2;omega
   simpa using this
  ·have f1:=BFr.put (ts:=A'.ts) hfit [(((p*512:Nat):Int),512,true)] (fun t ht=>by rw[zzlrp];simp at ht;subst ht;simp);rw[zzlrp] at f1;have f2:=HFr.page f1;refine⟨f2.bl,List.length_set,fun j hj=>f2.get j fun z=>hj (by rw[z];exact hpT),fun q hq=>?_,?_⟩
   ·show(A'.cs.set p false)[q]? = A'.cs[q]?;rw[zzgsn];rintro rfl;exact hq hpT
   ·obtain⟨l,a,b⟩:=f2.ts;exact⟨l,a,fun t ht=>by obtain⟨q,c,d⟩:=b t ht;subst c;exact⟨q,hpT,d⟩⟩
  ·show(putAt A'.bs (p*512) (List.replicate 512 0))[j]? = some 0;rw[Q28 hfit,zzlrp];by_cases z:q=p
   ·subst z;rw[if_pos ⟨h1,h2⟩,List.getElem?_replicate,if_pos (by omega)]
   ·rw[if_neg (by omega)];refine h.zero q a (fun⟨z,z1,z2⟩=>b ⟨z,List.mem_filter.2 ⟨z1,?_⟩,z2⟩) j h1 h2;have:z.1 ≠ v:=fun w=>by
     have:=Q0z h.tok.n1 z1 hy (w.trans ev.symm);rw[this,hp] at z2;omega
    simpa using this
theorem Qdd{T:Tb}(tok:TOk T)(own:∀y ∈ T,A.cs[y.2.toNat]? = some true)(hT:∀y ∈ T,y.2.toNat*512+512<=A.bs.length)(v0:Int):∀i,RmI A T (reA A T v0 i) (rmN T v0 i)
 | 0=>RmI.refl tok own
 | i+1=>(Qdd tok own hT v0 i).step hT _
theorem Q4J{T:Tb}(tok:TOk T)(v0:Int):∀i,TOk (rmN T v0 i) /\ ∀v,fndO (rmN T v0 i) v=if ∃j:Nat,j<i /\ v=v0+j then none else fndO T v
 | 0=>⟨tok,fun v=>by rw[if_neg (by rintro⟨j,h,_⟩;omega)];rfl⟩
 | i+1=>by
  obtain⟨t,f⟩:=Q4J tok v0 i;refine⟨Qae t,fun v=>?_⟩;rw[rmN,Q6i t,f];by_cases e:v=v0+(i:Int)
  ·rw[if_pos e,if_pos ⟨i,by omega,e⟩]
  ·rw[if_neg e];by_cases q:∃j:Nat,j<i /\ v=v0+j
   ·obtain⟨j,a,b⟩:=q;rw[if_pos ⟨j,a,b⟩,if_pos ⟨j,by omega,b⟩]
   ·rw[if_neg q,if_neg];rintro⟨j,a,b⟩;rcases Nat.lt_or_ge j i with z | z
    ·exact q ⟨j,z,b⟩
    ·exact e (by rw[b,show j=i by omega])
end
end
section
open Go.RowKit Go.Maps Thing
section
variable{s:Sv}{A:Ax}{H:Hp}
theorem HOk.own'(g:HOk s A H):∀y ∈ H.T,A.cs[y.2.toNat]? = some true:=fun y hy=>(g.own y hy).1
theorem Qdc(g:HOk s A H){k m:Nat}(hk:k<24)(ht:(H.sl k)[m]? = some true){S':Int->Option Pg}{ln':Nat->List Int}(hS:∀v,S' v=if v=(locN k m:Int)then none else H.S v)
  (hl:∀k',k'<8->(ln' k').Nodup /\ ∀v,v ∈ ln' k' ↔ v ∈ H.ln k' /\ v ≠ (locN k m:Int)) :
  HSt s A H (reA A H.T (locN k m) (pagN k)) {H with S:=S',ln:=ln',sl:=updF H.sl k (Sf.giveH (H.sl k) (m:Int)),T:=rmN H.T (locN k m) (pagN k)}:=by
 have r:=Qdd g.tok g.own' g.tin (locN k m) (pagN k);obtain⟨_,keys⟩:=Q4J g.tok (locN k m) (pagN k);have hms:=g.slot hk ht;have hml:=(zzgsi.1 ht).1;have eG:Sf.giveH (H.sl k) (m:Int)=(H.sl k).set m false:=by unfold Sf.giveH;rw[if_pos ⟨by omega,by omega⟩,zztnc]
 rw[eG];have hset:∀k' m',(updF H.sl k ((H.sl k).set m false) k')[m']? = some true ↔ (H.sl k')[m']? = some true /\ ¬(k'=k /\ m'=m):=fun k' m'=>by
  by_cases e:k'=k
  ·subst e;rw[Q0g,zzgst];by_cases z:m=m'
   ·subst z;rw[if_pos rfl,if_pos hml];simp
   ·rw[if_neg z];exact⟨fun a=>⟨a,fun b=>z b.2.symm⟩,fun a=>a.1⟩
  ·rw[Q0n e];exact⟨fun a=>⟨a,fun b=>e b.1⟩,fun a=>a.1⟩
 refine⟨⟨by rw[r.fr.bl];exact g.nb,by rw[r.fr.cl];exact g.nc,by rw[r.fr.cl];exact g.p4,g.win,r.tok,Q9c r.tok,fun k' hk'=>?_,fun y hy=>⟨r.own y hy,(g.own y (r.sub y hy)).2⟩,fun v q hq=>?_,fun k' m' hk' h'=>?_,fun k' hk'=>⟨(hl k' hk').1,fun v=>?_⟩,fun v=>?_⟩,r.fr.mono fun p q=>.inl q,fun p ⟨y,a,b⟩=>.inl ⟨y,r.sub y a,b⟩,fun p hp=>?_,.inr trivial⟩
 ·show(updF H.sl k ((H.sl k).set m false) k').length=_;by_cases e:k'=k
  ·subst e;rw[Q0g,List.length_set];exact g.sl k' hk'
  ·rw[Q0n e];exact g.sl k' hk'
 ·have hq:S' v=some q:=hq;rw[hS] at hq;split at hq
  ·cases hq
  ·rename_i hv;obtain⟨a1,a2,m',a3,a4,a5,p,a6,a7⟩:=g.pg v q hq;refine⟨a1,a2,m',a3,a4,(hset _ _).2 ⟨a5,fun z=>hv (by rw[a4,z.1,z.2])⟩,p,?_,a7⟩;show fndO (rmN H.T (locN k m) (pagN k)) v=_;rw[keys,if_neg]
   ·exact a6
   ·rintro⟨j,b1,b2⟩;obtain⟨e1,e2,e3⟩:=Q1b (k:=q.kind) (m:=m') (i:=0) (k':=k) (m':=m) (i':=j) (by omega) hk a3 hms (Q0C _) b1 (by omega);exact hv (by rw[a4,e1,e2])
 ·obtain⟨b1,b2⟩:=(hset _ _).1 h';obtain⟨q,c1,c2⟩:=g.sm k' m' hk' b1;refine⟨q,?_,c2⟩;show S' (locN k' m')=some q;rw[hS,if_neg]
  ·exact c1
  ·intro z;obtain⟨e1,e2,_⟩:=Q1b (i:=0) (i':=0) (by omega) hk (g.slot (by omega) b1) hms (Q0C _) (Q0C _) (show locN k' m'+0=locN k m+0 by omega);exact b2 ⟨e1,e2⟩
 ·show v ∈ ln' k' ↔ ∃g,S' v=some g /\ _;rw[(hl k' hk').2,(g.ln k' hk').2,hS];by_cases e:v=(locN k m:Int)
  ·rw[if_pos e];simp[e]
  ·rw[if_neg e];exact⟨fun a=>a.1,fun a=>⟨a,e⟩⟩
 ·show(fndO (rmN H.T (locN k m) (pagN k)) v).isSome=true ↔ ∃k' m' i,k'<24 /\ (updF H.sl k ((H.sl k).set m false) k')[m']? = some true /\ _;rw[keys];constructor
  ·intro h;split at h
   ·cases h
   ·rename_i hv;obtain⟨k',m',i,c1,c2,c3,c4⟩:=(g.tab v).1 h;exact⟨k',m',i,c1,(hset _ _).2 ⟨c2,fun z=>hv ⟨i,by rw[<-z.1];exact c3,by rw[<-z.1,<-z.2];exact c4⟩⟩,c3,c4⟩
  ·rintro⟨k',m',i,c1,c2,c3,c4⟩;obtain⟨d1,d2⟩:=(hset _ _).1 c2;rw[if_neg]
   ·exact(g.tab v).2 ⟨k',m',i,c1,d1,c3,c4⟩
   ·rintro⟨j,e1,e2⟩;obtain⟨f1,f2,_⟩:=Q1b (k:=k') (m:=m') (i:=i) (k':=k) (m':=m) (i':=j) c1 hk (g.slot c1 d1) hms c3 e1 (by omega);exact d2 ⟨f1,f2⟩
 ·obtain⟨a,b⟩:=r.rest p hp;exact b.imp id fun z=>⟨a,z⟩
theorem HSt.pre{A1 A2:Ax}{H1 H2:Hp}(h:HSt s A H A1 H1)(g:HSt s A1 H1 A2 H2)(e:H1.T=H.T)(ec:A1.cs=A.cs):HSt s A H A2 H2:=by
 refine⟨g.ok,(h.fr.mono fun p q=>?_).trans (g.fr.mono fun p q=>?_),fun p q=>?_,fun p q=>?_,.inr trivial⟩
 ·rw[e] at q;exact .inl (q.elim id id)
 ·rw[e] at q;exact q
 ·rw[<-e,<-ec];exact g.new p q
 ·rw[<-e,<-ec];exact g.rest p q
theorem Q1v(g:HOk s A H)(addr:Int):HSt s A H (freM A H addr).A (freM A H addr).H:=by
 unfold freM;cases eb:blkM H addr with
 | none=>exact HSt.refl g
 | some y=>
  obtain⟨k,m,b⟩:=y;obtain⟨hk,hm,hbp,ea,ht,hS8⟩:=Q0Z eb;show HSt s A H (if 8<=k then _ else _:Mr).A (if 8<=k then _ else _:Mr).H;by_cases h8:8<=k
  ·rw[if_pos h8];have hno:∀q,H.S (locN k m:Int) ≠ some q:=fun q z=>by
    obtain⟨a1,a2,m',a3,a4,_⟩:=g.pg _ q z;obtain⟨e1,_⟩:=Q1b (i:=0) (i':=0) hk (by omega) hm a3 (Q0C _) (Q0C _) (show locN k m+0=locN q.kind m'+0 by omega);omega
   have hn:H.S (locN k m:Int)=none:=by
    cases z:H.S (locN k m:Int)with
    | none=>rfl
    | some q=>exact absurd z (hno q)
   exact Qdc g hk ht (fun v=>by
    by_cases e:v=(locN k m:Int)
    ·rw[if_pos e,e,hn]
    ·rw[if_neg e]) fun k' hk'=>⟨(g.ln k' hk').1,fun v=>⟨fun z=>⟨z,fun e=>by
     obtain⟨q,a,_⟩:=((g.ln k' hk').2 v).1 z;rw[e] at a;exact hno q a⟩,fun z=>z.1⟩⟩
  rw[if_neg h8];have k8:k<8:=by omega
  obtain⟨q,hS,hgb⟩:=hS8 k8;rw[hS];show HSt s A H (frP A (if q.q.hs.count false=0 then H.push k (locN k m)else H) k m b q).A (frP A (if q.q.hs.count false=0 then H.push k (locN k m)else H) k m b q).H;have hgk:q.kind=k:=by
   obtain⟨q',e1,e2⟩:=g.sm k m k8 ht;rw[hS] at e1;cases e1;exact e2
  obtain⟨_,pq,_⟩:=g.pg _ q hS;obtain⟨p,e1,e2,e3,e4⟩:=g.pgs hS;subst hgk;obtain⟨fr,pq',hhs⟩:=QcN (s:=q.q.st A.bs A.ts) k8 e3 e4 pq hgb;have hl0:=g.ln q.kind k8;have oth:∀k',k'<8->k' ≠ q.kind->(locN q.kind m:Int) ∉ H.ln k':=fun k' hk' hne z=>by
   obtain⟨r,a,b,_⟩:=((g.ln k' hk').2 _).1 z;rw[hS] at a;cases a;exact hne b.symm
  have hbl:=(zzgsi.1 hgb).1;have hcnt:((q.q.hs.set b false).count false) ≠ 0:=fun z=>by
   have:=List.count_eq_zero.1 z;exact this (List.mem_iff_getElem?.2 ⟨b,List.getElem?_set_self hbl⟩)
  generalize eHx:(if q.q.hs.count false=0 then H.push q.kind (locN q.kind m)else H)=Hx;have xS:Hx.S=H.S:=by rw[<-eHx];split <;> rfl
  have xT:Hx.T=H.T:=by rw[<-eHx];split <;> rfl
  have xsl:Hx.sl=H.sl:=by rw[<-eHx];split <;> rfl
  have xw:Hx.win=H.win:=by rw[<-eHx];split <;> rfl
  have xln:∀k',k'<8->(Hx.ln k').Nodup /\ ∀u,u ∈ Hx.ln k' ↔ if u=(locN q.kind m:Int)then k'=q.kind else u ∈ H.ln k':=fun k' hk'=>by
   rw[<-eHx];by_cases hf:q.q.hs.count false=0
   ·rw[if_pos hf];have hnl:(locN q.kind m:Int) ∉ H.ln q.kind:=fun z=>by
     obtain⟨r,a,_,c⟩:=(hl0.2 _).1 z;rw[hS] at a;cases a;exact c hf
    show(updF H.ln q.kind (H.ln q.kind++[(locN q.kind m:Int)]) k').Nodup /\ ∀u,u ∈ updF H.ln q.kind (H.ln q.kind++[(locN q.kind m:Int)]) k' ↔ _;by_cases e:k'=q.kind
    ·rw[e,Q0g];refine⟨List.nodup_append.2 ⟨hl0.1,by simp,fun a ha c hc=>?_⟩,fun u=>?_⟩
     ·simp at hc;subst hc;rintro rfl;exact hnl ha
     ·rw[zzmpd,List.mem_singleton];by_cases e2:u=(locN q.kind m:Int)
      ·rw[if_pos e2];exact⟨fun _=>rfl,fun _=>.inr e2⟩
      ·rw[if_neg e2];exact⟨fun z=>z.elim id fun y=>absurd y e2,.inl⟩
    ·rw[Q0n e];refine⟨(g.ln k' hk').1,fun u=>?_⟩;by_cases e2:u=(locN q.kind m:Int)
     ·rw[if_pos e2,e2];exact⟨fun z=>absurd z (oth k' hk' e),fun z=>absurd z e⟩
     ·rw[if_neg e2]
   ·rw[if_neg hf];have hin:(locN q.kind m:Int) ∈ H.ln q.kind:=(hl0.2 _).2 ⟨q,hS,rfl,hf⟩;refine⟨(g.ln k' hk').1,fun u=>?_⟩;by_cases e2:u=(locN q.kind m:Int)
    ·rw[if_pos e2,e2];exact⟨fun z=>Classical.byContradiction fun y=>oth k' hk' y z,fun z=>by rw[z];exact hin⟩
    ·rw[if_neg e2]
  unfold frP;generalize freS (unitN q.kind) (perN q.kind) q.base (q.q.st A.bs A.ts) (b:Int)=st at fr pq' hhs ⊢;have hst:st.hs.count false ≠ 0:=by rw[hhs];exact hcnt
  have h1:HSt s A H (A.put st) {H with S:=updI H.S (locN q.kind m) (some {q with q:=st.pq}),ln:=Hx.ln}:=Q26 g hS fr pq' fun k' hk'=>⟨(xln k' hk').1,fun u=>by
   rw[(xln k' hk').2];by_cases e:u=(locN q.kind m:Int)
   ·rw[if_pos e,if_pos e];exact⟨fun z=>⟨z,hst⟩,fun z=>z.1⟩
   ·rw[if_neg e,if_neg e]⟩
  have eP:Hx.page (locN q.kind m) q st={H with S:=updI H.S (locN q.kind m) (some {q with q:=st.pq}),ln:=Hx.ln}:=by
   unfold Hp.page;rw[xS,<-xT,<-xsl,<-xw]
  by_cases hz:st.hs.count true=0
  ·rw[if_pos hz];show HSt s A H (reA (A.put st) Hx.T (locN q.kind m) (pagN q.kind)) (reH (((Hx.page (locN q.kind m) q st).cut q.kind (locN q.kind m)).gone (locN q.kind m)) q.kind m);have h2:=Qdc h1.ok (k:=q.kind) (m:=m) hk ht (S':=updI (updI H.S (locN q.kind m) (some {q with q:=st.pq})) (locN q.kind m) none) (ln':=updF Hx.ln q.kind ((Hx.ln q.kind).erase (locN q.kind m))) (fun v=>by
    by_cases e:v=(locN q.kind m:Int)
    ·rw[if_pos e,e,Q0r]
    ·rw[if_neg e,Q0q e]) fun k' hk'=>by
     show _ /\ ∀v,_ ↔ v ∈ Hx.ln k' /\ _;by_cases e:k'=q.kind
     ·rw[e,Q0g];exact⟨(xln q.kind k8).1.erase _,fun v=>by rw[(xln q.kind k8).1.mem_erase_iff];exact and_comm⟩
     ·rw[Q0n e];refine⟨(xln k' hk').1,fun v=>⟨fun z=>⟨z,fun y=>?_⟩,fun z=>z.1⟩⟩;rw[(xln k' hk').2,if_pos y] at z;exact e z
   rw[eP,xT];exact h1.pre h2 rfl rfl
  ·rw[if_neg hz];show HSt s A H (A.put st) (Hx.page (locN q.kind m) q st);rw[eP];exact h1
theorem Q5p{A:Ax}{win:List Int}(nb:A.bs.length=s.n)(nc:A.cs.length*512=s.n)(p4:A.cs.length<=4096)(hw:win.length<=32):HOk s A (H0 win):=by
 have no:∀k m,(emS k)[m]? ≠ some true:=fun k m h=>by
  have:=zzmog h;exact absurd (List.eq_of_mem_replicate this) (by simp)
 exact⟨nb,nc,p4,hw,⟨fun x hx=>(by cases hx),List.nodup_nil,List.nodup_nil⟩,Nat.zero_le _,fun k _=>zzlrp,fun y hy=>(by cases hy),fun v q h=>(by cases h),fun k m _ h=>absurd h (no k m),fun k _=>⟨List.nodup_nil,fun v=>⟨fun h=>(by cases h),fun⟨q,h,_⟩=>(by cases h)⟩⟩,fun v=>⟨fun h=>(by cases h),fun⟨k,m,i,_,h,_⟩=>absurd h (no k m)⟩⟩
theorem QcI{T0:Tb}(hT:∀y ∈ T0,y.2.toNat*512+512<=A.bs.length):∀(l:List Int)(A':Ax)(T':Tb),RmI A T0 A' T'->RmI A T0 (drN s l A' T').1 (drN s l A' T').2 /\ ∀v,fndO (drN s l A' T').2 v=if v ∈ l then none else fndO T' v
 | [],A',T',h=>⟨h,fun v=>by simp[drN]⟩
 | u :: l,A',T',h=>by
  obtain⟨a,b⟩:=QcI hT l _ _ (h.step hT u);refine⟨a,fun v=>?_⟩;rw[drN,b,Q6i h.tok];by_cases e:v=u
  ·simp[e]
  ·by_cases e2:v ∈ l
   ·simp[e2]
   ·rw[if_neg e2,if_neg e,if_neg (by simp[e,e2])]
theorem Q4i(g:HOk s A H):HSt s A H (droA s A H) (droH s A H) /\ droH s A H=H0 H.win /\ ∀p,inPg H.T p->∀j,p*512<=j->j<p*512+512->(droA s A H).bs[j]? = some 0:=by
 obtain⟨r,keys⟩:=QcI (s:=s) g.tin (allT H.T) A H.T (RmI.refl g.tok g.own');have eT:(drN s (allT H.T) A H.T).2=[]:=by
  refine List.eq_nil_iff_forall_not_mem.2 fun y hy=>?_;have h1:=Q0W r.tok hy;rw[keys] at h1;split at h1
  ·cases h1
  ·rename_i hv;exact hv (((Q14 g.tok).2.2 y.1).2 (by rw[h1];rfl))
 have eH:droH s A H=H0 H.win:=by unfold droH;rw[eT];rfl
 rw[eT] at r;have r:RmI A H.T (droA s A H) []:=r;have no:∀p,¬inPg ([]:Tb) p:=fun p ⟨y,hy,_⟩=>by cases hy
 refine⟨⟨?_,r.fr.mono fun p q=>.inl q,fun p q=>?_,fun p q=>?_,.inr trivial⟩,eH,fun p hp j h1 h2=>r.zero p hp (no p) j h1 h2⟩
 ·rw[eH];exact Q5p (by rw[r.fr.bl];exact g.nb) (by rw[r.fr.cl];exact g.nc) (by rw[r.fr.cl];exact g.p4) g.win
 ·rw[eH] at q;exact absurd q (no p)
 ·obtain⟨a,b⟩:=r.rest p q;exact .inr ⟨a,b.elim (fun z=>absurd z (no p)) id⟩
end
end
section
open Go.RowKit Go.Maps Thing
structure MvK (s:Sv) (A0:Ax) (B:Hp) (A:Ax) (H:Hp) (l:List Int):Prop where
 sl:H.sl=B.sl
 ln:H.ln=B.ln
 keys:∀v,(fndO H.T v).isSome=(fndO B.T v).isSome
 pg:∀v q,H.S v=some q->∃q0,B.S v=some q0 /\ q.kind=q0.kind /\ q.q=q0.q /\ ∃p:Nat,fndO H.T v=some (v,(p:Int)) /\ q.base=p*512
 sm:∀v q0,B.S v=some q0->∃q,H.S v=some q /\ q.kind=q0.kind /\ q.q=q0.q
 home:∀y ∈ H.T,y.1 ∈ l \/ Cl.inW s.C H.win y.2.toNat=true
 fr:HFr A0 A fun p=>inPg B.T p \/ inPg H.T p
 was:∀y ∈ H.T,y.1 ∈ l->y ∈ B.T
 new:∀p,inPg H.T p->inPg B.T p \/ A0.cs[p]? = some false
 rest:∀p,A.cs[p]? = some true->inPg H.T p \/ (A0.cs[p]? = some true /\ ¬inPg B.T p)
 len:H.T.length=B.T.length
section
variable{s:Sv}{A0 A:Ax}{B H:Hp}
theorem QbX{v:Int}{l:List Int}(g:MvI s A H (v :: l))(h:MvK s A0 B A H (v :: l)):MvK s A0 B (mvA s A H v) (mvH s A H v) l:=by
 obtain⟨p,o,e1,e2,fr,h1,ef,hh,hp,ho,hpo,how,hco,ec⟩:=Qej g;have hb1:=g.nb;have hb2:=g.nc;have ecs:(mvA s A H v).cs=(A.cs.set p true).set o false:=ec;have eT:(mvH s A H v).T=swpT H.T v (p:Int):=by unfold mvH;rw[e1]
 have eS:(mvH s A H v).S=match H.S v with | some g=>updI H.S v (some {g with base:=p*512}) | none=>H.S:=by
  unfold mvH;rw[e1,zztnc] <;> rfl
 have hr:(0:Int)<=(p:Int) /\ (p:Int)<=1048576:=⟨by have:=g.p4;omega,by have:=g.p4;omega⟩;have nd:=List.nodup_cons.1 g.nd;have mem:∀y,y ∈ swpT H.T v (p:Int) ↔ y=(v,(p:Int)) \/ (y ∈ H.T /\ y.1 ≠ v):=fun y=>Q3C g.tok h1;have fnd':∀k,fndO (swpT H.T v (p:Int)) k=if k=v then some (v,(p:Int))else fndO H.T k:=fun k=>Q4n g.tok h1 hh hr
 have hoB:inPg B.T o:=⟨_,h.was _ (Q0a h1).1 (by show v ∈ v :: l;simp),rfl⟩;have hpT:inPg (swpT H.T v (p:Int)) p:=⟨_,(mem _).2 (.inl rfl),rfl⟩;have sub:∀q,inPg H.T q->inPg B.T q \/ inPg (swpT H.T v (p:Int)) q:=fun q ⟨y,a,b⟩=>by
  by_cases e:y.1=v
  ·have:y=(v,(o:Int)):=Q0z g.tok.n1 a (Q0a h1).1 e;rw[this] at b;have:o=q:=by have:(o:Int)=(q:Int):=b;omega
   subst this;exact .inl hoB
  ·exact .inr ⟨y,(mem y).2 (.inr ⟨a,e⟩),b⟩
 have pS:∀u q,(mvH s A H v).S u=some q->∃q1,H.S u=some q1 /\ q.kind=q1.kind /\ q.q=q1.q /\ (u=v->q.base=p*512) /\ (u ≠ v->q.base=q1.base):=fun u q hq=>by
  rw[eS] at hq;cases hS:H.S v with
  | none=>
   rw[hS] at hq;have hq:H.S u=some q:=hq;exact⟨q,hq,rfl,rfl,fun e=>(by rw[e,hS] at hq;cases hq),fun _=>rfl⟩
  | some q1=>
   rw[hS] at hq;by_cases e:u=v
   ·have hq:updI H.S v (some {q1 with base:=p*512}) u=some q:=hq;rw[e,Q0r] at hq;cases hq;exact⟨q1,by rw[e];exact hS,rfl,rfl,fun _=>rfl,fun z=>absurd e z⟩
   ·have hq:updI H.S v (some {q1 with base:=p*512}) u=some q:=hq;rw[Q0q e] at hq;exact⟨q,hq,rfl,rfl,fun z=>absurd z e,fun _=>rfl⟩
 refine⟨h.sl,h.ln,fun u=>?_,fun u q hq=>?_,fun u q0 hq0=>?_,fun y hy=>?_,?_,fun y hy hl=>?_,fun q hq=>?_,fun q hq=>?_,by rw[eT,Q4Q];exact h.len⟩
 ·rw[eT,fnd',<-h.keys];by_cases e:u=v
  ·rw[if_pos e,e,h1];rfl
  ·rw[if_neg e]
 ·obtain⟨q1,a,b,c,d1,d2⟩:=pS u q hq;obtain⟨q0,x1,x2,x3,p',x4,x5⟩:=h.pg u q1 a;refine⟨q0,x1,b.trans x2,c.trans x3,?_⟩;rw[eT,fnd'];by_cases e:u=v
  ·rw[if_pos e];exact⟨p,by rw[e],d1 e⟩
  ·rw[if_neg e];exact⟨p',x4,(d2 e).trans x5⟩
 ·obtain⟨q1,a,b,c⟩:=h.sm u q0 hq0;rw[eS];cases hS:H.S v with
  | none=>exact⟨q1,a,b,c⟩
  | some q2=>
   show ∃q,updI H.S v (some {q2 with base:=p*512}) u=some q /\ _;by_cases e:u=v
   ·rw[e] at a ⊢;rw[Q0r];rw[hS] at a;cases a;exact⟨_,rfl,b,c⟩
   ·rw[Q0q e];exact⟨q1,a,b,c⟩
 ·rw[eT] at hy;rcases(mem y).1 hy with rfl | ⟨a,b⟩
  ·exact .inr (by show Cl.inW s.C H.win ((p:Int)).toNat=true;rw[zztnc];exact fr.2)
  ·rcases h.home y a with z | z
   ·exact .inl ((List.mem_cons.1 z).resolve_left b)
   ·exact .inr z
 ·refine(h.fr.mono fun q z=>?_).trans ?_
  ·rw[eT];exact z.elim .inl fun z=>sub q z
  ·rw[eT];have hs:(seg A.bs (o*512) 512).length=512:=Q0J (by omega);have f1:=BFr.put (bs:=A.bs) (ts:=A.ts) (a:=p*512) (l:=seg A.bs (o*512) 512) (by rw[hs];omega) [] (fun t ht=>by cases ht);rw[hs] at f1;have l1:=f1.len;have f2:=BFr.put (bs:=putAt A.bs (p*512) (seg A.bs (o*512) 512)) (ts:=A.ts) (a:=o*512) (l:=List.replicate 512 0) (by rw[zzlrp,l1];omega) [] (fun t ht=>by cases ht);rw[zzlrp] at f2;have eA:mvA s A H v=⟨putAt (putAt A.bs (p*512) (seg A.bs (o*512) 512)) (o*512) (List.replicate 512 0),A.ts++[(((o*512:Nat):Int),512,false)]++[(((p*512:Nat):Int),512,true)]++[(((o*512:Nat):Int),512,true)],(A.cs.set p true).set o false⟩:=by
    rw[<-ec];unfold mvA;rw[e1,ef,zztnc,zztnc]
   rw[eA];refine⟨f2.len.trans f1.len,by rw[List.length_set,List.length_set],fun j hj=>?_,fun q hq=>?_,[(((o*512:Nat):Int),512,false),(((p*512:Nat):Int),512,true),(((o*512:Nat):Int),512,true)],by rw[List.append_assoc,List.append_assoc];rfl,fun t ht=>?_⟩
   ·have j1:j / 512 ≠ o:=fun z=>hj (.inl (by rw[z];exact hoB));have j2:j / 512 ≠ p:=fun z=>hj (.inr (by rw[z];exact hpT));exact(f2.get j (by omega)).trans (f1.get j (by omega))
   ·have j1:o ≠ q:=fun z=>hq (.inl (by rw[<-z];exact hoB));have j2:p ≠ q:=fun z=>hq (.inr (by rw[<-z];exact hpT));show((A.cs.set p true).set o false)[q]? = A.cs[q]?;rw[zzgsn j1,zzgsn j2]
   ·simp only[List.mem_cons,List.not_mem_nil,or_false] at ht;rcases ht with rfl | rfl | rfl
    ·exact⟨o,.inl hoB,by simp⟩
    ·exact⟨p,.inr hpT,by simp⟩
    ·exact⟨o,.inl hoB,by simp⟩
 ·rw[eT] at hy;rcases(mem y).1 hy with rfl | ⟨a,b⟩
  ·exact absurd hl nd.1
  ·exact h.was y a (zzmcm _ hl)
 ·rw[eT] at hq;obtain⟨y,a,b⟩:=hq;rcases(mem y).1 a with rfl | ⟨a,_⟩
  ·have:p=q:=by have:(p:Int)=(q:Int):=b;omega
   subst this;by_cases z:inPg B.T p \/ inPg H.T p
   ·rcases z with z | z
    ·exact .inl z
    ·exact h.new p z
   ·refine .inr ?_;rw[<-h.fr.cs p z];exact fr.1
  ·exact h.new q ⟨y,a,b⟩
 ·rw[ecs] at hq;by_cases z:q=o
  ·subst z;rw[List.getElem?_set_self (by rw[List.length_set];exact ho)] at hq;cases hq
  ·rw[zzgsn (fun w=>z w.symm)] at hq;rw[eT];rcases(Q0I hp).1 hq with w | w
   ·subst w;exact .inl hpT
   ·rcases h.rest q w with⟨y,a,b⟩ | w2
    ·refine .inl ⟨y,(mem y).2 (.inr ⟨a,fun e=>z ?_⟩),b⟩;have:y=(v,(o:Int)):=Q0z g.tok.n1 a (Q0a h1).1 e;rw[this] at b;have:(o:Int)=(q:Int):=b;omega
    ·exact .inr w2
theorem Q6p:∀(l:List Int)(A:Ax)(H:Hp),MvI s A H l->MvK s A0 B A H l->MvI s (mvN s l A H).1 (mvN s l A H).2 [] /\ MvK s A0 B (mvN s l A H).1 (mvN s l A H).2 [] /\ (mvN s l A H).2.win=H.win
 | [],A,H,g,h=>⟨g,h,rfl⟩
 | v :: l,A,H,g,h=>Q6p l _ _ (Qek g) (QbX g h)
theorem Q5t(g:HOk s A H)(win:List Int):MvK s A H A {H with win:=win} (outL s A.cs H.T win):=by
 refine⟨rfl,rfl,fun v=>rfl,fun v q hq=>?_,fun v q hq=>⟨q,hq,rfl,rfl⟩,fun y hy=>?_,HFr.refl _ _,fun y hy _=>hy,fun p h=>.inl h,fun p h=>Classical.byCases (fun z:inPg H.T p=>.inl z) (fun z=>.inr ⟨h,z⟩),rfl⟩
 ·obtain⟨a1,a2,m',a3,a4,a5,p,a6,a7⟩:=g.pg v q hq;exact⟨q,hq,rfl,rfl,p,a6,a7⟩
 ·obtain⟨o,ho⟩:=zzeoz (g.tok.rng y hy).2.2.1;have hcs:=(zzgsi.1 (g.own y hy).1).1;rw[ho,zztnc] at hcs;by_cases z:Cl.inW s.C win y.2.toNat=true
  ·exact .inr z
  ·refine .inl (List.mem_filter.2 ⟨((Q14 g.tok).2.2 y.1).2 (by rw[Q0W g.tok hy];rfl),?_⟩);unfold outF;have ef:fnd H.T y.1=(o:Int):=by unfold fnd;rw[Q0W g.tok hy];exact ho
   have em:Cl.mCol A.cs.length s.C (o:Int)=((o % s.C:Nat):Int):=by
    unfold Cl.mCol;rw[if_pos ⟨by omega,by omega⟩];exact(Int.ofNat_tmod o s.C).symm
   rw[ef,em];rw[ho,zztnc] at z;unfold Cl.inW at z;have:(win.any fun x=>x == ((o % s.C:Nat):Int))=win.contains ((o % s.C:Nat):Int):=by
    rw[List.contains_eq_any_beq];congr 1;funext z;exact Bool.beq_comm
   rw[this] at z;simpa using z
theorem Q7n(g:HOk s A H){win:List Int}(hw:win.length<=32):HSt s A H (movM s A H win).A (movM s A H win).H /\ ((movM s A H win).E=0->(movM s A H win).H.win=win /\ (movM s A H win).H.T.length=H.T.length) /\ ((movM s A H win).E ≠ 0->(movM s A H win).A=A /\ (movM s A H win).H=H):=by
 unfold movM;by_cases hc:(outL s A.cs H.T win).length<=Cl.cnt A.cs s.C win
 case neg=>
  rw[if_neg hc];exact⟨HSt.refl g,fun h=>(by cases h),fun _=>⟨rfl,rfl⟩⟩
 rw[if_pos hc];have g0:=Q4D g hw hc;have k0:=Q5t g win;obtain⟨a,b,c⟩:=Q6p (A0:=A) (B:=H) _ A {H with win:=win} g0 k0;generalize(mvN s (outL s A.cs H.T win) A {H with win:=win}).1=A' at a b c ⊢;generalize(mvN s (outL s A.cs H.T win) A {H with win:=win}).2=H' at a b c ⊢;refine⟨⟨⟨a.nb,a.nc,a.p4,a.win,a.tok,Q9c a.tok,fun k hk=>by rw[b.sl];exact g.sl k hk,fun y hy=>⟨a.own y hy,(b.home y hy).resolve_left (by simp)⟩,fun v q hq=>?_,fun k m hk ht=>?_,fun k hk=>?_,fun v=>?_⟩,b.fr,b.new,b.rest,.inr trivial⟩,fun _=>⟨c,b.len⟩,fun h=>absurd rfl h⟩
 ·obtain⟨q0,x1,x2,x3,p,x4,x5⟩:=b.pg v q hq;obtain⟨a1,a2,m',a3,a4,a5,_⟩:=g.pg v q0 x1;rw[<-x2,<-x3] at a2;rw[<-x2] at a1 a3 a4 a5;exact⟨a1,a2,m',a3,a4,by rw[b.sl];exact a5,p,x4,x5⟩
 ·rw[b.sl] at ht;obtain⟨q0,x1,x2⟩:=g.sm k m hk ht;obtain⟨q,y1,y2,y3⟩:=b.sm _ q0 x1;exact⟨q,y1,y2.trans x2⟩
 ·rw[b.ln];refine⟨(g.ln k hk).1,fun v=>?_⟩;rw[(g.ln k hk).2];constructor
  ·rintro⟨q0,x1,x2,x3⟩;obtain⟨q,y1,y2,y3⟩:=b.sm _ q0 x1;exact⟨q,y1,y2.trans x2,by rw[y3];exact x3⟩
  ·rintro⟨q,x1,x2,x3⟩;obtain⟨q0,y1,y2,y3,_⟩:=b.pg v q x1;exact⟨q0,y1,by rw[<-y2];exact x2,by rw[<-y3];exact x3⟩
 ·rw[b.keys,b.sl];exact g.tab v
end
end
section
open Go.RowKit Go.Maps Thing
structure An where
 E:Int
 Hd:Int
 Ad:Int
 N:Int
 D:ByteArray
 C:Int
abbrev anL(a:An):List Value:=[.int .i64 a.E,.int .u64 a.Hd,.int .i64 a.Ad,.int .i64 a.N,.string a.D,.int .i64 a.C]
abbrev anV(a:An):Value:=.agg #[.int .i64 a.E,.int .u64 a.Hd,.int .i64 a.Ad,.int .i64 a.N,.string a.D,.int .i64 a.C]
abbrev anE(e:Int):An:=⟨e,0,0,0,ByteArray.mk #[],0⟩
abbrev anO(arr:Array Value):Obj:=.cells arr 40 (0,0)
structure Tn where
 H:Hp
 nx:Int
 S:Int->Option Cp.Sl
 sz:Nat
 q:Qu
 id:Int
 peak:Int
 ob:Int->Option Int
structure Tl where
 hb:Nat
 x:Hl
 cb:Nat
 qb:Nat
 ob:Nat
def tvs(s:Sv)(y:Tl)(t:Tn)(i:Nat):Value:=
 if i=0 then .pointer (some ⟨s.ap,0,none⟩)else if i=1 then .pointer (some ⟨s.mb,0,none⟩)else if i=2 then .pointer (some ⟨y.hb,0,none⟩)else if i=3 then .pointer (some ⟨y.cb,0,none⟩)
 else if i=4 then .pointer (some ⟨y.qb,0,none⟩)else if i=5 then .int .i64 t.id else if i=6 then .int .i64 t.peak else .map (some y.ob)
abbrev tnO(s:Sv)(y:Tl)(t:Tn):Obj:=fO 8 142 (tvs s y t)
def obM(ob:Int->Option Int):Int->Option Value:=fun k=>(ob k).map (.int .i64)
def tnX(s:Sv)(tb:Nat)(y:Tl)(t:Tn):Thing:=blk tb (tnO s y t)*(hpX s y.hb y.x t.H*(kpT y.cb t.id t.nx t.S t.sz*(quT y.qb t.q*mpT 3 y.ob (obM t.ob))))
theorem setAt6(arr:Array Value)(hs:arr.size=6)(a b c d e f:Value):setAt arr 0 [a,b,c,d,e,f]=#[a,b,c,d,e,f]:=by
 obtain⟨l⟩:=arr;have hs:l.length=6:=hs
 match l,hs with
 | [_,_,_,_,_,_],_=>rfl
section
variable{s:Sv}{tb:Nat}{y:Tl}{t:Tn}
def tnHp(s:Sv)(tb:Nat)(y:Tl)(t:Tn):Thing:=blk tb (tnO s y t)*(kpT y.cb t.id t.nx t.S t.sz*(quT y.qb t.q*mpT 3 y.ob (obM t.ob)))
theorem Q8G(x:Hl)(H:Hp):tnX s tb {y with x:=x} {t with H:=H}=hpX s y.hb x H*tnHp s tb y t:=by
 unfold tnX tnHp;show blk tb (tnO s y t)*_=_;ac_rfl
theorem Q0S:tnX s tb y t=hpX s y.hb y.x t.H*tnHp s tb y t:=Q8G (y:=y) (t:=t) y.x t.H
def tnKp(s:Sv)(tb:Nat)(y:Tl)(t:Tn):Thing:=blk tb (tnO s y t)*(hpX s y.hb y.x t.H*(quT y.qb t.q*mpT 3 y.ob (obM t.ob)))
theorem Qb6(nx:Int)(S:Int->Option Cp.Sl)(sz:Nat):tnX s tb y {t with nx:=nx,S:=S,sz:=sz}=kpT y.cb t.id nx S sz*tnKp s tb y t:=by
 unfold tnX tnKp;show blk tb (tnO s y t)*_=_;ac_rfl
theorem Q2l:tnX s tb y t=kpT y.cb t.id t.nx t.S t.sz*tnKp s tb y t:=Qb6 t.nx t.S t.sz
def tnQu(s:Sv)(tb:Nat)(y:Tl)(t:Tn):Thing:=blk tb (tnO s y t)*(hpX s y.hb y.x t.H*(kpT y.cb t.id t.nx t.S t.sz*mpT 3 y.ob (obM t.ob)))
theorem Q4X(q:Qu):tnX s tb y {t with q:=q}=quT y.qb q*tnQu s tb y t:=by
 unfold tnX tnQu;show blk tb (tnO s y t)*_=_;ac_rfl
theorem Q1B:tnX s tb y t=quT y.qb t.q*tnQu s tb y t:=Q4X t.q
def tnOb(s:Sv)(tb:Nat)(y:Tl)(t:Tn):Thing:=blk tb (tnO s y t)*(hpX s y.hb y.x t.H*(kpT y.cb t.id t.nx t.S t.sz*quT y.qb t.q))
theorem Qcu(ob:Int->Option Int):tnX s tb y {t with ob:=ob}=mpT 3 y.ob (obM ob)*tnOb s tb y t:=by
 unfold tnX tnOb;show blk tb (tnO s y t)*_=_;ac_rfl
theorem Q2P:tnX s tb y t=mpT 3 y.ob (obM t.ob)*tnOb s tb y t:=Qcu t.ob
def tnBk(s:Sv)(y:Tl)(t:Tn):Thing:=hpX s y.hb y.x t.H*(kpT y.cb t.id t.nx t.S t.sz*(quT y.qb t.q*mpT 3 y.ob (obM t.ob)))
theorem Qb4:tnX s tb y t=blk tb (tnO s y t)*tnBk s y t:=rfl
variable{w:World}{F:Nat->Prop}{X C:Thing}{R:VW}
theorem tc(h:X.P w F)(e:X=tnX s tb y t*C){i:Nat}(hi:i<8):w.cell? ((zA tb).add i)=some (tvs s y t i):=by
 rw[Q02,Nat.zero_add];exact Q4j (Q0b h (show X=blk tb (tnO s y t)*(tnBk s y t*C) by rw[e,Qb4,Thing.mul_assoc])) hi
theorem Q5T(h:X.P w F)(e:X=tnX s tb y t*C):w.cell? ((zA tb).add 0)=some (.pointer (some ⟨s.ap,0,none⟩)):=tc h e (by omega)
theorem tc_mb(h:X.P w F)(e:X=tnX s tb y t*C):w.cell? ((zA tb).add 1)=some (.pointer (some ⟨s.mb,0,none⟩)):=tc h e (by omega)
theorem Q1r(h:X.P w F)(e:X=tnX s tb y t*C):w.cell? ((zA tb).add 2)=some (.pointer (some ⟨y.hb,0,none⟩)):=tc h e (by omega)
theorem Q5U(h:X.P w F)(e:X=tnX s tb y t*C):w.cell? ((zA tb).add 3)=some (.pointer (some ⟨y.cb,0,none⟩)):=tc h e (by omega)
theorem Q1X(h:X.P w F)(e:X=tnX s tb y t*C):w.cell? ((zA tb).add 4)=some (.pointer (some ⟨y.qb,0,none⟩)):=tc h e (by omega)
theorem Qgu(h:X.P w F)(e:X=tnX s tb y t*C):w.cell? ((zA tb).add 5)=some (.int .i64 t.id):=tc h e (by omega)
theorem tc_pk(h:X.P w F)(e:X=tnX s tb y t*C):w.cell? ((zA tb).add 6)=some (.int .i64 t.peak):=tc h e (by omega)
theorem Q4S(h:X.P w F)(e:X=tnX s tb y t*C):w.cell? ((zA tb).add 7)=some (.map (some y.ob)):=tc h e (by omega)
theorem tn_q(h:X.P w F)(e:X=tnX s tb y t*C):w.heap[y.qb]? = some (quO t.q):=Q0b h (show X=blk y.qb (quO t.q)*(tnQu s tb y t*C) by rw[e,Q1B,Thing.mul_assoc];rfl)
theorem climit{b p:Nat}(hb:b<9007199254740992)(hp:p<9007199254740992)(r:R (cx b p) w):CS 118 #[.int .i64 (b:Int),.int .i64 (p:Int)] w R:=by
 constructor;refine vc218.ok ?_;unfold vc218;exact⟨_,_,w,run_complex w _ _ _ _ _,r⟩
theorem Q2H(h:X.P w F)(e:X=tnX s tb y t*C)(g:t.q.Ok)(r:R (.int .i64 (t.q.cb:Int)) w):CS 58 #[zP tb] w R:=by
 obtain⟨g1,g2,g3⟩:=g;constructor;refine vc110.ok ?_;unfold vc110;exact Q00 rfl ⟨_,Q1X h e,qcharged (tn_q h e) ⟨_,_,rfl,sbytes ⟨by omega,by omega⟩ ⟨_,rfl,r⟩⟩⟩
theorem Qcp(h:X.P w F)(e:X=tnX s tb y t*C)(g:t.q.Ok)(r:R (.int .i64 (t.q.lb:Int)) w):CS 53 #[zP tb] w R:=by
 obtain⟨g1,g2,g3⟩:=g;constructor;refine vc105.ok ?_;unfold vc105;exact Q00 rfl ⟨_,Q1X h e,qlimit (tn_q h e) ⟨_,_,rfl,sbytes ⟨by omega,by omega⟩ ⟨_,rfl,r⟩⟩⟩
theorem QaX(h:X.P w F)(e:X=tnX s tb y t*C)(r:R (.int .i64 t.nx) w):CS 79 #[zP tb] w R:=by
 obtain⟨Fc,hc,_⟩:=Q0f (A:=kpT y.cb t.id t.nx t.S t.sz) (Y:=tnKp s tb y t*C) h (by rw[e,Q2l];ac_rfl);constructor;refine vc134.ok ?_;unfold vc134;exact Q00 rfl ⟨_,Q5U h e,Q3G hc ⟨_,rfl,r⟩⟩
theorem Qf5(h:X.P w F)(e:X=tnX s tb y t*C)(r:R (.pointer (some ⟨y.hb,0,none⟩)) w):CS 45 #[zP tb] w R:=by
 constructor;refine vc103.ok ?_;unfold vc103;exact Q00 rfl ⟨_,Q1r h e,r⟩
theorem Q3a(h:X.P w F)(e:X=tnX s tb y t*C){hh:Int}(hu:Hd.U64 hh)(x:Int)(r:∀w',Ext w w'->R (Cp.findR t.id t.S hh x) w'):CS 129 #[zP tb,.int .u64 hh,.int .i64 x] w R:=by
 obtain⟨Fc,hc,_⟩:=Q0f (A:=kpT y.cb t.id t.nx t.S t.sz) (Y:=tnKp s tb y t*C) h (by rw[e,Q2l];ac_rfl);constructor;refine vc161.ok ?_;unfold vc161;refine Q00 rfl ⟨_,Q5U h e,QeU hc hu x fun w' hE=>?_⟩;have:=r w' hE;unfold Cp.findR at this ⊢;split
 ·rename_i e1;rw[e1] at this;exact⟨_,_,rfl,this⟩
 ·rename_i s1 e1;rw[e1] at this;split
  ·rename_i e2;have this:R (if x<0 \/ x>7 \/ Cp.may s1 x=false then _ else _) w':=this;rw[if_pos e2] at this;exact⟨_,_,rfl,this⟩
  ·rename_i e2;have this:R (if x<0 \/ x>7 \/ Cp.may s1 x=false then _ else _) w':=this;rw[if_neg e2] at this;exact⟨_,_,rfl,this⟩
theorem Q1s{n0:Nat}{arr:Array Value}(a:An)(h:(blk n0 (anO arr)*C).P w F)(hs:arr.size=6)(r:∀w' F',C.P w' F'->Step F w F' w'->R (anV a) w') :
  WrC w (zA n0) 6 /\ ∀w14,w14=wr w (zA n0) (anL a)->∃(i15 i16 i17 i18:Int)(s19:ByteArray)(i20:Int),CellsAt w14 (zA n0) [.int .i64 i15,.int .u64 i16,.int .i64 i17,.int .i64 i18,.string s19,.int .i64 i20] /\
   R (.agg #[.int .i64 i15,.int .u64 i16,.int .i64 i17,.int .i64 i18,.string s19,.int .i64 i20]) w14:=by
 refine Q0K (C:=C) h rfl (by omega) fun w1 F1 h1 s1=>?_;have hb:=Q0b h1 rfl;have e:setAt arr 0 (anL a)=(anL a).toArray:=setAt6 arr hs _ _ _ _ _ _;rw[e] at hb;obtain⟨F2,h2,sub⟩:=Q07 h1;exact⟨_,_,_,_,_,_,Q08 hb,r w1 F2 h2 (s1.sub sub)⟩
abbrev zAn:Array Value:=#[.int .i64 0,.int .u64 0,.int .i64 0,.int .i64 0,.string (ByteArray.mk #[]),.int .i64 0]
theorem Qf0(g:t.q.Ok)(a:An):Tri 128 #[zP tb,anV a] (tnX s tb y t) (fun v=>only (v=anV {a with C:=(t.q.cb:Int)}) (tnX s tb y t)):=by
 intro w F R h r;constructor;refine vc160.ok ?_;unfold vc160;refine Q0m h fun n0 w1 F1 h1 s1 _=>Q0m h1 fun n2 w2 F2 h2 s2 _=>?_;refine Q2H (C:=blk n2 (anO zAn)*blk n0 (anO (anL a).toArray)) h2 (by show blk n2 (anO zAn)*(blk n0 (anO (anL a).toArray)*_)=_;ac_rfl) g ⟨_,rfl,?_⟩;rw[Q02,Nat.zero_add];refine Q0K (b:=n0) (o:=5) (arr:=(anL a).toArray) (T:=40) (C:=blk n2 (anO zAn)*tnX s tb y t) h2 (by show blk n2 (anO zAn)*(blk n0 (anO (anL a).toArray)*_)=_;ac_rfl) (by simp) fun w3 F3 h3 s3=>?_;have hb3:=Q0b h3 rfl;refine⟨_,_,_,_,_,_,Q08 (vs:=anL {a with C:=(t.q.cb:Int)}) hb3,?_⟩;have h4:(blk n2 (anO zAn)*(blk n0 (anO (setAt (anL a).toArray 5 [.int .i64 (t.q.cb:Int)]))*tnX s tb y t)).P w3 F3:=re h3 (by ac_rfl);refine Q1s {a with C:=(t.q.cb:Int)} h4 rfl fun w5 F5 h5 s5=>?_;obtain⟨F6,h6,sub⟩:=Q07 h5;exact r _ w5 F6 ⟨rfl,h6⟩ ((((s1.trans s2).trans s3).trans s5).sub sub)
theorem Qdh(g:t.q.Ok)(e:Int):Tri 126 #[zP tb,.int .i64 e] (tnX s tb y t) (fun v=>only (v=anV {anE e with C:=(t.q.cb:Int)}) (tnX s tb y t)):=by
 intro w F R h r;constructor;refine vc158.ok ?_;unfold vc158;refine Q0m h fun n0 w1 F1 h1 s1 _=>Q00 rfl ?_;refine(Qf0 (s:=s) (tb:=tb) (y:=y) (t:=t) g (anE e)).use (C:=blk n0 (anO zAn)) h1 (by show blk n0 (anO zAn)*_=_;ac_rfl) fun v w2 F2 h2 s2=>?_;rw[Q06] at h2;obtain⟨rfl,h2⟩:=h2;refine⟨_,_,_,_,_,_,rfl,?_⟩;exact Q1s {anE e with C:=(t.q.cb:Int)} (re h2 (zztmc _ _)) rfl fun w3 F3 h3 s3=>r _ w3 F3 ⟨rfl,h3⟩ ((s1.trans s2).trans s3)
end
end
section
open Go.RowKit Go.Maps Thing
structure TnOk (s:Sv) (A:Ax) (t:Tn):Prop where
 h:HOk s A t.H
 q:t.q.Ok
 ob:∀k v,t.ob k=some v->0<=k /\ k<3276800 /\ 0<=v /\ v<=8192
 al:∀k v,t.ob k=some v->k % 16=0
 cap:∀x z,t.S x=some z->0<=z.2.2 /\ z.2.2<3276800 /\ z.2.2 % 16=0
 nx:1<=t.nx /\ t.nx<=17592186044416
section
variable{s:Sv}{A:Ax}{H:Hp}
theorem Qeh(T:Tb)(v p:Int):T.length<=(mapT T v p).length:=by
 unfold mapT;split
 ·rw[Q2y];omega
 ·exact Nat.le_refl _
theorem Qdq(C:Nat)(win:List Int)(cs:List Bool)(T:Tb)(v0:Int):∀i,T.length<=(tkT C win cs T v0 i).length
 | 0=>Nat.le_refl _
 | i+1=>Nat.le_trans (Qdq C win cs T v0 i) (Qeh _ _ _)
theorem QcS(k:Nat):H.T.length<=(hoH s A H k).T.length:=by
 unfold hoH;split
 ·exact Qdq _ _ _ _ _ _
 ·exact Nat.le_refl _
theorem QbR(k:Nat)(v:Int)(g:Pg):(maF A H k v g).H.T=H.T:=by
 unfold maF;split
 ·show(if _ then _ else _:Hp).T=_;split <;> rfl
 ·rfl
theorem Qd1(k:Nat)(v:Int)(g:Pg):(maF A H k v g).A.ts.length<=A.ts.length+2:=by
 have:=QdB (unitN k) (perN k) g.base (g.q.st A.bs A.ts);unfold maF;split <;> exact this
theorem Q5y{k:Nat}(hk:k<24)(v b:Int):0<=placI k v b /\ placI k v b<3276800:=by
 unfold placI;split
 ·rename_i h;obtain⟨l1,l2⟩:=Q8N (k:=k) (s:=v.toNat) (b:=b.toNat) hk (by omega) (by omega);have ea:adrN k v.toNat b.toNat=131072*(k+1)+v.toNat*(pagN k*512)+b.toNat*untN k:=rfl;have:=(Q0D hk).2.2.1;omega
 ·omega
theorem Q3o(n:Int):H.T.length<=(malM s A H n).H.T.length /\ (malM s A H n).A.ts.length<=A.ts.length+2 /\ 0<=(malM s A H n).I /\ (malM s A H n).I<3276800:=by
 obtain⟨c24,cm1⟩:=Q2s n;have hA:∀k,(hoA s A H k).ts=A.ts:=fun k=>by unfold hoA;split <;> rfl
 have mI:∀(A:Ax)(H:Hp)(k:Nat) v g,k<24->0<=(maF A H k v g).I /\ (maF A H k v g).I<3276800:=fun A H k v g hk=>by
  unfold maF;split
  ·exact Q5y hk _ _
  ·show(0:Int)<=0 /\ (0:Int)<3276800;omega
 unfold malM;split
 ·exact⟨Nat.le_refl _,Nat.le_add_right _ _,by show(0:Int)<=0;omega,by show(0:Int)<_;omega⟩
 rename_i h1;split
 ·split
  ·exact⟨QcS _,by rw[hA];omega,Q5y (by omega) _ _⟩
  ·exact⟨Nat.le_refl _,Nat.le_add_right _ _,by show(0:Int)<=0;omega,by show(0:Int)<_;omega⟩
 ·unfold malK;split
  ·split
   ·exact⟨by rw[QbR];exact Nat.le_refl _,Qd1 _ _ _,mI _ _ _ _ _ (by omega)⟩
   ·exact⟨Nat.le_refl _,Nat.le_add_right _ _,by show(0:Int)<=0;omega,by show(0:Int)<_;omega⟩
  ·split
   ·refine⟨by rw[QbR];exact QcS _,?_,mI _ _ _ _ _ (by omega)⟩;have:=Qd1 (A:=hoA s A H (clsI n).toNat) (H:=nwH s A H (clsI n).toNat) (clsI n).toNat (nwV H (clsI n).toNat) (nwG s A H (clsI n).toNat);rw[hA] at this;exact this
   ·exact⟨Nat.le_refl _,Nat.le_add_right _ _,by show(0:Int)<=0;omega,by show(0:Int)<_;omega⟩
theorem Qbm(n:Int):0<=chgI n /\ chgI n<=8192:=by
 unfold chgI;split
 ·rename_i h;have hk:=Q15 (n:=n.toNat) (by omega);have:∀j:Fin 24,untN j.val<=8192:=by decide +kernel
  have:=this ⟨_,hk⟩;simp only at this;omega
 ·omega
end
def grE(S:Int->Option Cp.Sl)(nx a:Int):Int:=if a<0 then 12 else match Cp.putK S 0 4096 nx with | some _=>0 | none=>10
def grI(T:Int)(S:Int->Option Cp.Sl)(nx a:Int):Int:=if a<0 then 0 else match Cp.putK S 0 4096 nx with | some k=>Hd.packV T ((0+k:Nat):Int) 7 nx | none=>0
theorem QdY(T:Int)(S:Int->Option Cp.Sl)(nx a:Int):Cp.grantV T S nx a=.tuple #[.int .u64 (grI T S nx a),.int .i64 (grE S nx a)]:=by
 unfold Cp.grantV grI grE Cp.putV;split
 ·rfl
 ·cases Cp.putK S 0 4096 nx <;> rfl
structure Gr where
 h:Int
 ad:Int
 e:Int
 A:Ax
 t:Tn
def Tn.mal(s:Sv)(A:Ax)(t:Tn)(n:Int):Tn:={t with H:=(malM s A t.H n).H}
def Tn.res(t:Tn)(b p:Nat):Tn:={t with q:={t.q with rb:=t.q.rb+b,rp:=t.q.rp+p}}
def Tn.gra(t:Tn)(a:Int):Tn:={t with nx:=Cp.grantN t.S t.nx a,S:=Cp.grantS t.S t.nx a,sz:=Cp.grantZ t.S t.nx a t.sz}
def Tn.rev(t:Tn)(a:Int):Tn:={t with S:=Cp.revS t.S a 4160,sz:=t.sz-Cp.revC t.S a 4160}
def Tn.fre(t:Tn)(A:Ax)(a:Int):Tn:={t with H:=(freM A t.H a).H}
def Tn.can(t:Tn)(b:Nat):Tn:={t with q:={t.q with rb:=t.q.rb-b,rp:=t.q.rp-0}}
def Tn.com(t:Tn)(b p:Nat):Tn:={t with q:={t.q with rb:=t.q.rb-b,rp:=t.q.rp-p,cb:=t.q.cb+b,cp:=t.q.cp+p}}
def Tn.add(t:Tn)(a n:Int):Tn:={t with ob:=updI t.ob a (some n)}
def undM(A:Ax)(t:Tn)(a:Int)(c:Nat):Gr:=⟨0,0,10,(freM A t.H a).A,((t.rev a).fre A a).can c⟩
def getM(s:Sv)(A:Ax)(t:Tn)(n:Int):Gr:=
 if chgI n=0 then⟨0,0,2,A,t⟩
 else if ¬t.q.fits (chgI n).toNat 0 then⟨0,0,3,A,t⟩
 else if t.nx>=17592186044416 then⟨0,0,10,A,(t.res (chgI n).toNat 0).can (chgI n).toNat⟩
 else if (malM s A t.H n).E ≠ 0 then⟨0,0,10,(malM s A t.H n).A,((t.res (chgI n).toNat 0).mal s A n).can (chgI n).toNat⟩
 else if grE t.S t.nx (malM s A t.H n).I ≠ 0 then undM (malM s A t.H n).A (((t.res (chgI n).toNat 0).mal s A n).gra (malM s A t.H n).I) (malM s A t.H n).I (chgI n).toNat
 else if ¬(t.res (chgI n).toNat 0).q.fits 0 ((malM s A t.H n).H.T.length-t.H.T.length)then undM (malM s A t.H n).A (((t.res (chgI n).toNat 0).mal s A n).gra (malM s A t.H n).I) (malM s A t.H n).I (chgI n).toNat
 else⟨grI t.id t.S t.nx (malM s A t.H n).I,(malM s A t.H n).I,0,(malM s A t.H n).A,
  ((((((t.res (chgI n).toNat 0).mal s A n).gra (malM s A t.H n).I).res 0 ((malM s A t.H n).H.T.length-t.H.T.length)).com (chgI n).toNat ((malM s A t.H n).H.T.length-t.H.T.length)).add (malM s A t.H n).I n)⟩
def gUnd(tb:Nat)(c:Value)(i31:Int)(w50:World)(R:VW):Prop:=
 ∃p54:Option Addr,w50.cell? ((zA tb).add 3)=some (.pointer p54) /\ CS 185 #[.pointer p54,.int .i64 i31] w50 fun v55 w56=>∃i57:Int,v55=.int .i64 i57 /\ ∃p59:Option Addr,w56.cell? ((zA tb).add 2)=some (.pointer p59) /\
  CS 186 #[.pointer p59,.int .i64 i31] w56 fun v60 w61=>∃i62:Int,v60=.int .i64 i62 /\ ∃p64:Option Addr,w61.cell? ((zA tb).add 4)=some (.pointer p64) /\ CS 182 #[.pointer p64,c] w61 fun v65 w66=>∃i67:Int,v65=.int .i64 i67 /\ R (.tuple #[.int .u64 0,.int .i64 0,.int .i64 10]) w66
section
variable{s:Sv}{tb:Nat}{y:Tl}{t:Tn}{A:Ax}{w:World}{F:Nat->Prop}{X C:Thing}{R:VW}
theorem Q9j{a:Int}{c:Nat}(h:(axT s A*tnX s tb y t).P w F)(g:HOk s A t.H)(gq:t.q.Ok)(hc:c<=t.q.rb)(hts:A.ts.length<100000000000)
  (r:∀w' F',(axT s (undM A t a c).A*tnX s tb y (undM A t a c).t).P w' F'->Step F w F' w'->R (.tuple #[.int .u64 (0:Int),.int .i64 (0:Int),.int .i64 (10:Int)]) w'):gUnd tb (cx c 0) a w R:=by
 have h:(tnX s tb y t*axT s A).P w F:=re h (zztmc _ _);refine⟨_,Q5U h rfl,(Q5N (p:=y.cb) (T:=t.id) (nx:=t.nx) (S:=t.S) (sz:=t.sz) a).use (C:=tnKp s tb y t*axT s A) h (by rw[Q2l];ac_rfl) fun v w1 F1 h1 s1=>?_⟩;rw[Q06] at h1;obtain⟨rfl,h1⟩:=h1;have h1:(tnX s tb y (t.rev a)*axT s A).P w1 F1:=re h1 (by unfold Tn.rev;rw[Qb6];ac_rfl);refine⟨_,rfl,_,Q1r h1 rfl,(QaF (s:=s) (hb:=y.hb) (x:=y.x) (H:=t.H) (A:=A) g (by omega) a).use (C:=tnHp s tb y (t.rev a)) h1 (by rw[show tnX s tb y (t.rev a)=hpX s y.hb y.x t.H*tnHp s tb y (t.rev a)from Q0S];ac_rfl) fun v w2 F2 h2 s2=>?_⟩;rw[Q06] at h2;obtain⟨rfl,h2⟩:=h2;have h2:(tnX s tb y ((t.rev a).fre A a)*axT s (freM A t.H a).A).P w2 F2:=re h2 (by
  have:=Q8G (s:=s) (tb:=tb) (y:=y) (t:=t.rev a) y.x (freM A t.H a).H;show _=tnX s tb {y with x:=y.x} {t.rev a with H:=(freM A t.H a).H}*_;rw[this];ac_rfl)
 obtain⟨g1,g2,g3⟩:=gq;refine⟨_,rfl,_,Q1X h2 rfl,(Q5O (qb:=y.qb) (q:=t.q) ⟨g1,g2,g3⟩ (b:=c) (p:=0) ⟨by omega,by omega⟩ hc (Nat.zero_le _)).use (C:=tnQu s tb y ((t.rev a).fre A a)*axT s (freM A t.H a).A) h2 (by rw[show tnX s tb y ((t.rev a).fre A a)=quT y.qb t.q*tnQu s tb y ((t.rev a).fre A a)from Q1B];ac_rfl) fun v w3 F3 h3 s3=>?_⟩;rw[Q06] at h3;obtain⟨rfl,h3⟩:=h3;refine⟨_,rfl,r w3 F3 (re h3 ?_) ((s1.trans s2).trans s3)⟩;have:=Q4X (s:=s) (tb:=tb) (y:=y) (t:=(t.rev a).fre A a) {t.q with rb:=t.q.rb-c,rp:=t.q.rp-0};show _=axT s (freM A t.H a).A*tnX s tb y {(t.rev a).fre A a with q:={t.q with rb:=t.q.rb-c,rp:=t.q.rp-0}};rw[this];ac_rfl
theorem Q3s:Tryz.prog.underlying 48=some (.map 3 3):=by kernel_rfl
theorem ob_z(w:World):(zeroValue 3).run prog w=.ok (.int .i64 0) w:=by kernel_rfl
theorem Q6s(ob:Int->Option Int)(k:Int)(v:Option Int):upd (obM ob) k (v.map (.int .i64))=obM (updI ob k v):=funext fun x=>by
 unfold upd obM updI;split <;> rfl
theorem Qdo(g:TnOk s A t)(hts:A.ts.length<90000000000)(n:Int):Tri 127 #[zP tb,.int .i64 n] (axT s A*tnX s tb y t)
  (fun v=>any fun y':Tl=>only (v=.tuple #[.int .u64 (getM s A t n).h,.int .i64 (getM s A t n).ad,.int .i64 (getM s A t n).e]) (axT s (getM s A t n).A*tnX s tb y' (getM s A t n).t)):=by
 intro w F R h r;have r:∀y' w' F',(axT s (getM s A t n).A*tnX s tb y' (getM s A t n).t).P w' F'->Step F w F' w'->R (.tuple #[.int .u64 (getM s A t n).h,.int .i64 (getM s A t n).ad,.int .i64 (getM s A t n).e]) w':=fun y' w' F' p st=>r _ w' F' ⟨y',rfl,p⟩ st;have h:(tnX s tb y t*axT s A).P w F:=re h (zztmc _ _);obtain⟨c0,c1⟩:=Qbm n;obtain⟨c,hc⟩:=zzeoz c0;have gq:=g.q;obtain⟨g1,g2,g3⟩:=gq;constructor;refine vc159.ok ?_;unfold vc159;have hhp:tnX s tb y t*axT s A=hpX s y.hb y.x t.H*(tnHp s tb y t*axT s A):=by rw[Q0S];ac_rfl
 refine cchg n ⟨_,rfl,_,Q1r h rfl,Q39 h hhp ⟨_,rfl,?_⟩⟩;unfold getM at r;rw[hc] at r c1 ⊢;rw[zztnc] at r;refine climit (b:=c) (p:=0) (by omega) (by omega) ⟨_,_,rfl,Q05 (fun q=>?_) (fun q=>?_)⟩
 ·have q:(c:Int)=0:=by simpa using q
  rw[if_pos q] at r;exact r y w F (re h (zztmc _ _)) (Step.refl _ _)
 have q:¬(c:Int)=0:=by simpa using q
 rw[if_neg q] at r;refine⟨_,Q1X h rfl,(Qdl (qb:=y.qb) (q:=t.q) g.q (b:=c) (p:=0) ⟨by omega,by omega⟩).use (C:=tnQu s tb y t*axT s A) h (by rw[Q1B];ac_rfl) fun v w1 F1 h1 s1=>?_⟩;rw[Q06] at h1;obtain⟨rfl,h1⟩:=h1;by_cases hf:t.q.fits c 0
 case neg=>
  rw[if_neg hf] at h1;rw[if_neg hf];rw[if_pos hf] at r;refine⟨_,rfl,Q03 rfl (r y w1 F1 (re h1 ?_) s1)⟩;rw[show tnX s tb y t=quT y.qb t.q*tnQu s tb y t from Q1B];ac_rfl
 rw[if_neg (not_not_intro hf)] at r;rw[if_pos hf] at h1;rw[if_pos hf];have h1:(tnX s tb y (t.res c 0)*axT s A).P w1 F1:=re h1 (by
  unfold Tn.res;rw[Q4X (t:=t)];ac_rfl)
 refine⟨_,rfl,Q00 rfl ⟨_,Q5U h1 rfl,?_⟩⟩;obtain⟨Fk,hk,_⟩:=Q0f (A:=kpT y.cb t.id t.nx t.S t.sz) (Y:=tnKp s tb y (t.res c 0)*axT s A) h1 (by rw[show tnX s tb y (t.res c 0)=kpT y.cb t.id t.nx t.S t.sz*tnKp s tb y (t.res c 0)from Q2l];ac_rfl);have okR:(t.res c 0).q.Ok:=⟨g1,by have:=hf.1;show t.q.cb+(t.q.rb+c)<=t.q.lb;omega,by have:=hf.2;show t.q.cp+(t.q.rp+0)<=t.q.lp;omega⟩;have cancel:∀(y1:Tl)(t1:Tn)(A1:Ax)(w1:World)(F1:Nat->Prop)(K:Value->World->Prop),t1.q=(t.res c 0).q->(tnX s tb y1 t1*axT s A1).P w1 F1->(∀w' F',(axT s A1*tnX s tb y1 (t1.can c)).P w' F'->Step F1 w1 F' w'->K (.int .i64 0) w') →
   ∃(p23:Option Addr),w1.cell? ((zA tb).add (4:Nat))=some (.pointer p23) /\ CS 182 #[.pointer p23,cx c 0] w1 K:=fun y1 t1 A1 w1 F1 K e h1 k=>by
  refine⟨_,Q1X h1 rfl,(Q5O (qb:=y1.qb) (q:=t1.q) (by rw[e];exact okR) (b:=c) (p:=0) ⟨by omega,by omega⟩ (by rw[e];show c<=t.q.rb+c;omega) (Nat.zero_le _)).use (C:=tnQu s tb y1 t1*axT s A1) h1 (by rw[show tnX s tb y1 t1=quT y1.qb t1.q*tnQu s tb y1 t1 from Q1B];ac_rfl) fun v w3 F3 h3 s3=>?_⟩;rw[Q06] at h3;obtain⟨rfl,h3⟩:=h3;refine k w3 F3 (re h3 ?_) s3;unfold Tn.can;rw[Q4X (t:=t1)];ac_rfl
 refine Q3G hk ⟨_,rfl,ifD (fun qn=>?_) (fun qn=>?_)⟩
 ·rw[if_pos qn] at r;exact cancel y _ A w1 F1 _ rfl h1 fun w' F' p st=>⟨_,rfl,r y w' F' p (s1.trans st)⟩
 rw[if_neg (by omega)] at r;refine⟨_,Q1r h1 rfl,(QaG (s:=s) (hb:=y.hb) (x:=y.x) (H:=t.H) (A:=A) g.h (by omega) n).use (C:=tnHp s tb y (t.res c 0)) h1 (by rw[show tnX s tb y (t.res c 0)=hpX s y.hb y.x t.H*tnHp s tb y (t.res c 0)from Q0S];ac_rfl) fun v w2 F2 h2 s2=>?_⟩;obtain⟨x',rfl,h2b⟩:=Q0l h2;have keep:=Q17 g.h n;obtain⟨mle,mts,mI0,mI1⟩:=Q3o (s:=s) (A:=A) (H:=t.H) n;have h2:(tnX s tb {y with x:=x'} ((t.res c 0).mal s A n)*axT s (malM s A t.H n).A).P w2 F2:=re h2b (by
  have:=Q8G (s:=s) (tb:=tb) (y:=y) (t:=t.res c 0) x' (malM s A t.H n).H;show _=tnX s tb {y with x:=x'} {t.res c 0 with H:=(malM s A t.H n).H}*_;rw[this];ac_rfl)
 have s12:=s1.trans s2;refine⟨_,_,rfl,Q05 (fun qm=>?_) (fun qm=>?_)⟩
 ·have qm:(malM s A t.H n).E ≠ 0:=by simpa using qm
  rw[if_pos qm] at r;exact cancel {y with x:=x'} ((t.res c 0).mal s A n) (malM s A t.H n).A w2 F2 _ rfl h2 fun w' F' p st=>⟨_,rfl,r _ w' F' p (s12.trans st)⟩
 have qm:¬(malM s A t.H n).E ≠ 0:=by simpa using qm
 rw[if_neg qm] at r;generalize eM:(t.res c 0).mal s A n=tM at h2 r;have eMH:tM.H=(malM s A t.H n).H:=by rw[<-eM];rfl
 have eMq:tM.q=(t.res c 0).q:=by rw[<-eM];rfl
 have eMS:tM.S=t.S:=by rw[<-eM];rfl
 have eMn:tM.nx=t.nx:=by rw[<-eM];rfl
 have eMi:tM.id=t.id:=by rw[<-eM];rfl
 have eMo:tM.ob=t.ob:=by rw[<-eM];rfl
 generalize malM s A t.H n=M at *
 have fewT:=keep.ok.few;refine⟨_,Q1r h2 rfl,Q39 (C:=tnHp s tb {y with x:=x'} tM*axT s M.A) h2 (by rw[show tnX s tb {y with x:=x'} tM=hpX s y.hb x' tM.H*tnHp s tb {y with x:=x'} tM from Q0S];ac_rfl) ⟨_,rfl,?_⟩⟩;rw[eMH,Q04 (by omega) (by omega),show(M.H.T.length:Int)-(t.H.T.length:Int)=((M.H.T.length-t.H.T.length:Nat):Int) by omega];refine climit (b:=0) (p:=M.H.T.length-t.H.T.length) (by omega) (by omega) ⟨_,_,rfl,_,Q5U h2 rfl,?_⟩;refine(Qcl (o:=s.o) (p:=y.cb) (T:=tM.id) (nx:=tM.nx) (S:=tM.S) (sz:=tM.sz) M.I).use (C:=tnKp s tb {y with x:=x'} tM*(arT s.ap M.A.bs M.A.ts*coT s.mb s.nC s.C M.A.cs)) h2 (by rw[show tnX s tb {y with x:=x'} tM=kpT y.cb tM.id tM.nx tM.S tM.sz*tnKp s tb {y with x:=x'} tM from Q2l];unfold axT;ac_rfl) fun v w3 F3 h3 s3=>?_;rw[Q06] at h3;obtain⟨hv,h3⟩:=h3;have h3:(tnX s tb {y with x:=x'} (tM.gra M.I)*axT s M.A).P w3 F3:=re h3 (by
  unfold Tn.gra;rw[Qb6 (t:=tM)];unfold axT;ac_rfl)
 rw[QdY,eMi,eMS,eMn] at hv;subst hv;have s13:=s12.trans s3;have und:∀(K:Value->World->Prop),(∀w' F',(axT s (undM M.A (tM.gra M.I) M.I c).A*tnX s tb {y with x:=x'} (undM M.A (tM.gra M.I) M.I c).t).P w' F'->Step F w F' w'->K (.tuple #[.int .u64 (0:Int),.int .i64 (0:Int),.int .i64 (10:Int)]) w')->gUnd tb (cx c 0) M.I w3 K:=fun K k=>
  Q9j (t:=tM.gra M.I) (re h3 (zztmc _ _)) (by show HOk s M.A tM.H;rw[eMH];exact keep.ok) (by show tM.q.Ok;rw[eMq];exact okR) (by show c<=tM.q.rb;rw[eMq];show c<=t.q.rb+c;omega) (by omega) fun w' F' p st=>k w' F' p (s13.trans st)
 refine⟨_,_,rfl,Q05 (fun qg=>?_) (fun qg=>?_)⟩
 ·have qg:grE t.S t.nx M.I ≠ 0:=by simpa using qg
  rw[if_pos qg] at r;exact und _ fun w' F' p st=>r _ w' F' p st
 have qg:¬grE t.S t.nx M.I ≠ 0:=by simpa using qg
 rw[if_neg qg] at r;have dle:M.H.T.length-t.H.T.length<=6400:=by omega
 generalize M.H.T.length-t.H.T.length=d at r dle ⊢;refine⟨_,Q1X h3 rfl,(Qdl (qb:=y.qb) (q:=tM.q) (by rw[eMq];exact okR) (b:=0) (p:=d) ⟨by omega,by omega⟩).use (C:=tnQu s tb {y with x:=x'} (tM.gra M.I)*axT s M.A) h3 (by rw[show tnX s tb {y with x:=x'} (tM.gra M.I)=quT y.qb tM.q*tnQu s tb {y with x:=x'} (tM.gra M.I)from Q1B];ac_rfl) fun v w4 F4 h4 s4=>?_⟩;rw[Q06] at h4;obtain⟨rfl,h4⟩:=h4;rw[eMq] at h4 ⊢;by_cases hf2:(t.res c 0).q.fits 0 d
 case neg=>
  rw[if_neg hf2] at h4;rw[if_neg hf2];rw[if_pos hf2] at r;have h4:(tnX s tb {y with x:=x'} (tM.gra M.I)*axT s M.A).P w4 F4:=re h4 (by rw[<-eMq,show tnX s tb {y with x:=x'} (tM.gra M.I)=quT y.qb tM.q*tnQu s tb {y with x:=x'} (tM.gra M.I)from Q1B];ac_rfl);refine⟨_,rfl,Q03 rfl ?_⟩;exact Q9j (t:=tM.gra M.I) (re h4 (zztmc _ _)) (by show HOk s M.A tM.H;rw[eMH];exact keep.ok) (by show tM.q.Ok;rw[eMq];exact okR) (by show c<=tM.q.rb;rw[eMq];show c<=t.q.rb+c;omega) (by omega) fun w' F' p st=>r _ w' F' p ((s13.trans s4).trans st)
 rw[if_pos hf2] at h4;rw[if_pos hf2];rw[if_neg (not_not_intro hf2)] at r;have h4:(tnX s tb {y with x:=x'} ((tM.gra M.I).res 0 d)*axT s M.A).P w4 F4:=re h4 (by
  have:=Q4X (s:=s) (tb:=tb) (y:={y with x:=x'}) (t:=tM.gra M.I) ⟨tM.q.lb,tM.q.lp,tM.q.cb,tM.q.cp,tM.q.rb+0,tM.q.rp+d⟩;show _=tnX s tb {y with x:=x'} {tM.gra M.I with q:=⟨tM.q.lb,tM.q.lp,tM.q.cb,tM.q.cp,tM.q.rb+0,tM.q.rp+d⟩}*_;rw[this,<-eMq];show quT y.qb ⟨tM.q.lb,tM.q.lp,tM.q.cb,tM.q.cp,tM.q.rb+0,tM.q.rp+d⟩*_=quT y.qb ⟨tM.q.lb,tM.q.lp,tM.q.cb,tM.q.cp,tM.q.rb+0,tM.q.rp+d⟩*_*_;generalize quT y.qb ⟨tM.q.lb,tM.q.lp,tM.q.cb,tM.q.cp,tM.q.rb+0,tM.q.rp+d⟩=Z;ac_rfl)
 have hadd:=Q1m (w:=w4) 162 (a:=c) (b:=0) (c:=0) (d:=d) (by omega) (by omega);rw[Nat.add_zero,Nat.zero_add] at hadd;have okR2:((tM.gra M.I).res 0 d).q.Ok:=by
  obtain⟨k1,k2,k3⟩:=okR;have f1:=hf2.1;have f2:=hf2.2;show(Qu.Ok {tM.q with rb:=tM.q.rb+0,rp:=tM.q.rp+d});rw[eMq];exact⟨k1,by show(t.res c 0).q.cb+((t.res c 0).q.rb+0)<=(t.res c 0).q.lb;omega,by show(t.res c 0).q.cp+((t.res c 0).q.rp+d)<=(t.res c 0).q.lp;omega⟩
 refine⟨_,rfl,Q00 rfl ⟨_,Q1X h4 rfl,_,_,w4,hadd,?_⟩⟩;refine(QaK (qb:=y.qb) (q:=((tM.gra M.I).res 0 d).q) okR2 (b:=c) (p:=d) ⟨by omega,by omega⟩ (by show c<=tM.q.rb+0;rw[eMq];show c<=t.q.rb+c+0;omega) (by show d<=tM.q.rp+d;omega)).use (C:=tnQu s tb {y with x:=x'} ((tM.gra M.I).res 0 d)*axT s M.A) h4 (by rw[show tnX s tb {y with x:=x'} ((tM.gra M.I).res 0 d)=quT y.qb ((tM.gra M.I).res 0 d).q*tnQu s tb {y with x:=x'} ((tM.gra M.I).res 0 d)from Q1B];ac_rfl) fun v w5 F5 h5 s5=>?_;rw[Q06] at h5;obtain⟨rfl,h5⟩:=h5;have h5:(tnX s tb {y with x:=x'} (((tM.gra M.I).res 0 d).com c d)*axT s M.A).P w5 F5:=re h5 (by
  unfold Tn.com;rw[Q4X (t:=(tM.gra M.I).res 0 d)];ac_rfl)
 refine⟨_,rfl,_,Q4S h5 rfl,?_⟩;generalize eZ:((tM.gra M.I).res 0 d).com c d=tZ at h5 r;have eZo:tZ.ob=t.ob:=by rw[<-eZ,<-eMo];rfl
 obtain⟨w6,F6,r6,h6,s6⟩:=Q30 (K:=3) (mp:=y.ob) (m:=obM tZ.ob) (C:=tnOb s tb {y with x:=x'} tZ*axT s M.A) h5 (by rw[show tnX s tb {y with x:=x'} tZ=mpT 3 y.ob (obM tZ.ob)*tnOb s tb {y with x:=x'} tZ from Q2P];ac_rfl) Q0L Q3s (k:=M.I) (i64w (by omega) (by omega)) (.int .i64 n) (fun k hk=>by
  rw[eZo] at hk;unfold obM at hk;cases ho:t.ob k with
  | none=>rw[ho] at hk;cases hk
  | some v=>have:=g.ob k v ho;omega)
 refine⟨w6,r6,r {y with x:=x'} w6 F6 (re h6 ?_) (((s13.trans s4).trans s5).trans s6)⟩;have e1:=Q6s tZ.ob M.I (some n);simp only[Option.map_some] at e1;rw[e1];unfold Tn.add;rw[Qcu (t:=tZ)];ac_rfl
end
end
section
open Go.RowKit Go.Maps Thing
def qrefM(q:Qu)(b p:Nat):Qu:=if b<=q.cb /\ p<=q.cp then {q with cb:=q.cb-b,cp:=q.cp-p} else q
def qrefE(q:Qu)(b p:Nat):Int:=if b<=q.cb /\ p<=q.cp then 0 else 12
def qresM(q:Qu)(b p:Nat):Qu:=if q.cb+q.rb<=b /\ q.cp+q.rp<=p then {q with lb:=b,lp:=p} else q
def qresE(q:Qu)(b p:Nat):Int:=if q.cb+q.rb<=b /\ q.cp+q.rp<=p then 0 else 3
theorem Q7F{q:Qu}(g:q.Ok)(b p:Nat):(qrefM q b p).Ok:=by
 obtain⟨g1,g2,g3⟩:=g;unfold qrefM;split
 ·exact⟨g1,by show q.cb-b+q.rb<=q.lb;omega,by show q.cp-p+q.rp<=q.lp;omega⟩
 ·exact⟨g1,g2,g3⟩
section
variable{qb:Nat}{q:Qu}
theorem Q44(g:q.Ok){b p:Nat}(ho:Okay b p):Tri 125 #[zP qb,cx b p] (quT qb q)
  (fun v=>only (v=.int .i64 (qrefE q b p)) (quT qb (qrefM q b p))):=by
 by_cases hc:b<=q.cb /\ p<=q.cp
 ·have e1:qrefE q b p=0:=if_pos hc;have e2:qrefM q b p={q with cb:=q.cb-b,cp:=q.cp-p}:=if_pos hc;rw[e1,e2];exact QaL g ho hc.1 hc.2
 ·have e1:qrefE q b p=12:=if_neg hc;have e2:qrefM q b p=q:=if_neg hc;rw[e1,e2];intro w F R h r;have h0:w.heap[qb]? = some (quO q):=h.1;obtain⟨g1,g2,g3⟩:=g;constructor;refine vc220.ok ?_;unfold vc220;refine qready ho ⟨_,rfl,Q00 rfl ?_⟩;simp only[someA,Q02];refine⟨vc224.ok ?_⟩;unfold vc224;simp only[someA];refine⟨_,_,Q01 h0 rfl,sfits (by omega) (by omega) (by omega) (by omega) ⟨_,rfl,?_⟩⟩;rw[zzdcf (fun z=>hc z.2.2)];exact Q03 rfl ⟨_,rfl,r _ w F ⟨rfl,h⟩ (Step.refl _ _)⟩
theorem Q8C(g:q.Ok){b p:Nat}(ho:Okay b p):Tri 121 #[zP qb,cx b p] (quT qb q)
  (fun v=>only (v=.int .i64 (qresE q b p)) (quT qb (qresM q b p))):=by
 by_cases hc:q.cb+q.rb<=b /\ q.cp+q.rp<=p
 ·have e1:qresE q b p=0:=if_pos hc;have e2:qresM q b p={q with lb:=b,lp:=p}:=if_pos hc;rw[e1,e2];exact QaM g ho hc.1 hc.2
 ·have e1:qresE q b p=3:=if_neg hc;have e2:qresM q b p=q:=if_neg hc;rw[e1,e2];intro w F R h r;have h0:w.heap[qb]? = some (quO q):=h.1;obtain⟨g1,g2,g3⟩:=g;constructor;refine vc219.ok ?_;unfold vc219;refine qready ho ⟨_,rfl,Q00 rfl ?_⟩;rintro w3 rfl;have h3:=(Ext.drew w).keep h0;simp only[someA,Q02];refine⟨_,_,Q01 h3 rfl,_,_,Q01 h3 rfl,_,_,w.drew,Q1m _ (by omega) (by omega),rfl,sfits (by omega) (by omega) (by omega) (by omega) ⟨_,rfl,?_⟩⟩;rw[zzdcf (fun z=>hc z.2.2)];exact Q03 rfl (r _ _ F ⟨rfl,Thing.grow h (Ext.drew w)⟩ (Step.ext (Ext.drew w)))
end
theorem Qg0(T:Tb)(v:Int):(rmT T v).length<=T.length:=List.length_filter_le _ _
theorem Qac(T:Tb)(v0:Int):∀i,(rmN T v0 i).length<=T.length
 | 0=>Nat.le_refl _
 | i+1=>Nat.le_trans (Qg0 _ _) (Qac T v0 i)
theorem QdU(u p base:Nat)(s:St)(b:Int):(freS u p base s b).ts.length<=s.ts.length+2:=by
 unfold freS;split
 ·simp[pusS,zerS,givS]
 ·simp[givS]
theorem Q4o(A:Ax)(H:Hp)(a:Int):(freM A H a).H.T.length<=H.T.length /\ (freM A H a).A.ts.length<=A.ts.length+18:=by
 unfold freM;cases eb:blkM H a with
 | none=>exact⟨Nat.le_refl _,Nat.le_add_right _ _⟩
 | some y=>
  obtain⟨k,m,b⟩:=y;have hp:=Q1z (Q0Z eb).1;show(if 8<=k then _ else _:Mr).H.T.length<=_ /\ (if 8<=k then _ else _:Mr).A.ts.length<=_;by_cases h8:8<=k
  ·rw[if_pos h8];have:=Q7J A H.T (locN k m) (pagN k);exact⟨Qac _ _ _,by show(reA A H.T (locN k m) (pagN k)).ts.length<=_;omega⟩
  ·rw[if_neg h8];cases hS:H.S (locN k m)with
   | none=>exact⟨Nat.le_refl _,Nat.le_add_right _ _⟩
   | some g=>
    show(frP A (if _ then _ else _) k m b g).H.T.length<=_ /\ (frP A (if _ then _ else _) k m b g).A.ts.length<=_;generalize eHx:(if g.q.hs.count false=0 then H.push k (locN k m)else H)=Hx;have xT:Hx.T=H.T:=by rw[<-eHx];split <;> rfl
    have:=QdU (unitN k) (perN k) g.base (g.q.st A.bs A.ts) (b:Int);have e0:(g.q.st A.bs A.ts).ts=A.ts:=rfl;rw[e0] at this;unfold frP;split
    ·refine⟨by rw[<-xT];exact Qac _ _ _,?_⟩;have h2:=Q7J (A.put (freS (unitN k) (perN k) g.base (g.q.st A.bs A.ts) (b:Int))) Hx.T (locN k m) (pagN k);have e3:(A.put (freS (unitN k) (perN k) g.base (g.q.st A.bs A.ts) (b:Int))).ts=(freS (unitN k) (perN k) g.base (g.q.st A.bs A.ts) (b:Int)).ts:=rfl;rw[e3] at h2;exact Nat.le_trans h2 (by omega)
    ·exact⟨by rw[<-xT];exact Nat.le_refl _,Nat.le_trans this (by omega)⟩
theorem Qcz(H:Hp)(a:Int):0<=usbI H a /\ usbI H a<=8192:=by
 unfold usbI;cases eb:blkM H a with
 | none=>show(0:Int)<=0 /\ (0:Int)<=8192;omega
 | some y=>
  obtain⟨k,m,b⟩:=y;have:∀j:Fin 24,untN j.val<=8192:=by decide +kernel
  have:=this ⟨k,(Q0Z eb).1⟩;simp only at this;show(0:Int)<=(untN k:Int) /\ (untN k:Int)<=8192;omega
def Tn.gone(t:Tn)(a:Int):Tn:={t with ob:=updI t.ob a none}
def Tn.ref(t:Tn)(b p:Nat):Tn:={t with q:=qrefM t.q b p}
def putA(A:Ax)(t:Tn)(a:Int):Ax:=(freM A t.H a).A
def putM(A:Ax)(t:Tn)(a:Int):Tn:=(((t.fre A a).rev a).gone a).ref (usbI t.H a).toNat (t.H.T.length-(freM A t.H a).H.T.length)
section
variable{s:Sv}{tb:Nat}{y:Tl}{t:Tn}{A:Ax}{w:World}{F:Nat->Prop}{X C:Thing}{R:VW}
theorem Qdp(g:HOk s A t.H)(gq:t.q.Ok)(hts:A.ts.length<90000000000){a:Int}(ha:I64w a):Tri 130 #[zP tb,.int .i64 a] (axT s A*tnX s tb y t)
  (fun v=>only (v=.tuple #[]) (axT s (putA A t a)*tnX s tb y (putM A t a))):=by
 intro w F R h r;have h:(tnX s tb y t*axT s A).P w F:=re h (zztmc _ _);have hhp:tnX s tb y t*axT s A=hpX s y.hb y.x t.H*(axT s A*tnHp s tb y t):=by rw[Q0S];ac_rfl
 obtain⟨u0,u1⟩:=Qcz t.H a;obtain⟨u,hu⟩:=zzeoz u0;obtain⟨fle,fts⟩:=Q4o A t.H a;have few:=g.few;constructor;refine vc162.ok ?_;unfold vc162;refine⟨_,Q1r h rfl,Q2k h hhp g.nb a fun w1 hE1=>⟨_,_,rfl,?_⟩⟩;have h1:=Thing.grow h hE1;refine⟨_,Q1r h1 rfl,Q39 h1 hhp ⟨_,rfl,_,Q1r h1 rfl,?_⟩⟩;refine(QaF (s:=s) (hb:=y.hb) (x:=y.x) (H:=t.H) (A:=A) g (by omega) a).use (C:=tnHp s tb y t) h1 (by rw[Q0S];ac_rfl) fun v w2 F2 h2 s2=>?_;rw[Q06] at h2;obtain⟨rfl,h2⟩:=h2;have h2:(tnX s tb y (t.fre A a)*axT s (putA A t a)).P w2 F2:=re h2 (by
  have:=Q8G (s:=s) (tb:=tb) (y:=y) (t:=t) y.x (freM A t.H a).H;show _=tnX s tb {y with x:=y.x} {t with H:=(freM A t.H a).H}*axT s (freM A t.H a).A;rw[this];ac_rfl)
 refine⟨_,rfl,_,Q5U h2 rfl,(Q5N (p:=y.cb) (T:=t.id) (nx:=t.nx) (S:=t.S) (sz:=t.sz) a).use (C:=tnKp s tb y (t.fre A a)*axT s (putA A t a)) h2 (by rw[show tnX s tb y (t.fre A a)=kpT y.cb t.id t.nx t.S t.sz*tnKp s tb y (t.fre A a)from Q2l];ac_rfl) fun v w3 F3 h3 s3=>?_⟩;rw[Q06] at h3;obtain⟨rfl,h3⟩:=h3;have h3:(tnX s tb y ((t.fre A a).rev a)*axT s (putA A t a)).P w3 F3:=re h3 (by
  unfold Tn.rev;rw[Qb6 (t:=t.fre A a)];show _=kpT y.cb t.id t.nx (Cp.revS t.S a 4160) (t.sz-Cp.revC t.S a 4160)*tnKp s tb y (t.fre A a)*axT s (putA A t a);ac_rfl)
 refine⟨_,rfl,_,Q4S h3 rfl,?_⟩;obtain⟨w4,F4,r4,h4,s4⟩:=Q9I (K:=3) (mp:=y.ob) (m:=obM t.ob) (C:=tnOb s tb y ((t.fre A a).rev a)*axT s (putA A t a)) h3 (by rw[show tnX s tb y ((t.fre A a).rev a)=mpT 3 y.ob (obM t.ob)*tnOb s tb y ((t.fre A a).rev a)from Q2P];ac_rfl) Q0L Q3s ha 0;have e1:=Q6s t.ob a none;simp only[Option.map_none] at e1;rw[e1] at h4;have h4:(tnX s tb y (((t.fre A a).rev a).gone a)*axT s (putA A t a)).P w4 F4:=re h4 (by
  unfold Tn.gone;rw[Qcu (t:=(t.fre A a).rev a)];show _=mpT 3 y.ob (obM (updI t.ob a none))*_*_;ac_rfl)
 refine⟨w4,r4,?_⟩;rintro w5 rfl;have hE5:=Ext.drew w4;have h5:=Thing.grow h4 hE5;generalize eZ:(((t.fre A a).rev a).gone a)=tZ at h5;have eZH:tZ.H=(freM A t.H a).H:=by rw[<-eZ];rfl
 have eZq:tZ.q=t.q:=by rw[<-eZ];rfl
 have hhp5:tnX s tb y tZ*axT s (putA A t a)=hpX s y.hb y.x (freM A t.H a).H*(axT s (putA A t a)*tnHp s tb y tZ):=by rw[Q0S,eZH];ac_rfl
 refine⟨_,Q1X h5 rfl,_,Q1r h5 rfl,Q39 h5 hhp5 ⟨_,rfl,⟨_,Q1X h5 rfl,rfl⟩,?_⟩⟩;rw[hu,Q04 (by omega) (by omega),show(t.H.T.length:Int)-((freM A t.H a).H.T.length:Int)=((t.H.T.length-(freM A t.H a).H.T.length:Nat):Int) by omega];rw[hu] at u1;refine climit (by omega) (by omega) ⟨_,_,rfl,⟨_,Q1X h5 rfl,rfl⟩,?_⟩;refine(Q44 (qb:=y.qb) (q:=t.q) gq (b:=u) (p:=t.H.T.length-(freM A t.H a).H.T.length) ⟨by omega,by omega⟩).use (C:=tnQu s tb y tZ*axT s (putA A t a)) h5 (by rw[Q1B,eZq];ac_rfl) fun v w6 F6 h6 s6=>?_;rw[Q06] at h6;obtain⟨rfl,h6⟩:=h6;refine⟨_,rfl,r _ w6 F6 ⟨rfl,re h6 ?_⟩ ((((((Step.ext hE1).trans s2).trans s3).trans s4).trans (Step.ext hE5)).trans s6)⟩;have ep:putM A t a=tZ.ref u (t.H.T.length-(freM A t.H a).H.T.length):=by unfold putM;rw[eZ,hu,zztnc]
 rw[ep];unfold Tn.ref;rw[Q4X (t:=tZ),eZq];ac_rfl
def ansG(g:Gr):An:=⟨g.e,g.h,g.ad,0,ByteArray.mk #[],(g.t.q.cb:Int)⟩
theorem Qb8{a:Int}{c:Nat}(g:t.q.Ok):(undM A t a c).t.q.Ok:=by
 obtain⟨g1,g2,g3⟩:=g;exact⟨g1,by show t.q.cb+(t.q.rb-c)<=t.q.lb;omega,by show t.q.cp+(t.q.rp-0)<=t.q.lp;omega⟩
theorem Q9k(g:t.q.Ok)(n:Int):(getM s A t n).t.q.Ok:=by
 obtain⟨g1,g2,g3⟩:=g;unfold getM;split
 ·exact⟨g1,g2,g3⟩
 split
 ·exact⟨g1,g2,g3⟩
 rename_i hf;have hf:t.q.fits (chgI n).toNat 0:=Classical.not_not.1 hf;have k1:=hf.1;have k2:=hf.2;have okR:(t.res (chgI n).toNat 0).q.Ok:=⟨g1,by show t.q.cb+(t.q.rb+_)<=t.q.lb;omega,by show t.q.cp+(t.q.rp+0)<=t.q.lp;omega⟩;split
 ·exact⟨g1,by show t.q.cb+(t.q.rb+_-_)<=t.q.lb;omega,by show t.q.cp+(t.q.rp+0-0)<=t.q.lp;omega⟩
 split
 ·exact⟨g1,by show t.q.cb+(t.q.rb+_-_)<=t.q.lb;omega,by show t.q.cp+(t.q.rp+0-0)<=t.q.lp;omega⟩
 split
 ·exact Qb8 okR
 split
 ·exact Qb8 okR
 rename_i hf2;have hf2:=Classical.not_not.1 hf2;have k3:t.q.cb+(t.q.rb+(chgI n).toNat)+0<=t.q.lb:=hf2.1;have k4:t.q.cp+(t.q.rp+0)+((malM s A t.H n).H.T.length-t.H.T.length)<=t.q.lp:=hf2.2;refine⟨g1,?_,?_⟩
 ·show t.q.cb+(chgI n).toNat+(t.q.rb+(chgI n).toNat+0-(chgI n).toNat)<=t.q.lb;omega
 ·show t.q.cp+((malM s A t.H n).H.T.length-t.H.T.length)+(t.q.rp+0+((malM s A t.H n).H.T.length-t.H.T.length)-((malM s A t.H n).H.T.length-t.H.T.length))<=t.q.lp;omega
theorem Q5P(g:TnOk s A t)(hts:A.ts.length<80000000000)(n:Int):Tri 82 #[zP tb,.int .i64 n] (axT s A*tnX s tb y t)
  (fun v=>any fun y':Tl=>only (v=anV (ansG (getM s A t n))) (axT s (getM s A t n).A*tnX s tb y' (getM s A t n).t)):=by
 intro w F R h r;constructor;refine vc137.ok ?_;unfold vc137;refine Q0m h fun n0 w1 F1 h1 s1 _=>Q00 rfl ?_;refine(Qdo (s:=s) (tb:=tb) (y:=y) (t:=t) (A:=A) g (by omega) n).use (C:=blk n0 (anO zAn)) h1 (by show blk n0 (anO zAn)*_=_;ac_rfl) fun v w2 F2 h2 s2=>?_;obtain⟨y',rfl,h2b⟩:=Q0l h2;refine⟨_,_,_,rfl,?_⟩;have gq:=Q9k (s:=s) (A:=A) (t:=t) g.q n;refine(Qf0 (s:=s) (tb:=tb) (y:=y') (t:=(getM s A t n).t) gq ⟨(getM s A t n).e,(getM s A t n).h,(getM s A t n).ad,0,ByteArray.mk #[],0⟩).use (C:=blk n0 (anO zAn)*axT s (getM s A t n).A) h2b (by ac_rfl) fun v w3 F3 h3 s3=>?_;rw[Q06] at h3;obtain⟨rfl,h3⟩:=h3;refine⟨_,_,_,_,_,_,rfl,?_⟩;refine Q1s (ansG (getM s A t n)) (C:=axT s (getM s A t n).A*tnX s tb y' (getM s A t n).t) (re h3 (by ac_rfl)) rfl fun w4 F4 h4 s4=>?_;exact r _ w4 F4 ⟨y',rfl,h4⟩ (((s1.trans s2).trans s3).trans s4)
def calM(k n:Int):Option Int:=if k<1 \/ n<1 \/ k>(8192:Int).tdiv n then none else some (k*n)
def calR(s:Sv)(A:Ax)(t:Tn)(k n:Int):Gr:=match calM k n with | some m=>getM s A t m | none=>⟨0,0,2,A,t⟩
theorem QaS(g:TnOk s A t)(hts:A.ts.length<80000000000)(k n:Int):Tri 83 #[zP tb,.int .i64 k,.int .i64 n] (axT s A*tnX s tb y t)
  (fun v=>any fun y':Tl=>only (v=anV (ansG (calR s A t k n))) (axT s (calR s A t k n).A*tnX s tb y' (calR s A t k n).t)):=by
 intro w F R h r;constructor;refine vc138.ok ?_;unfold vc138;refine Q0m h fun n0 w1 F1 h1 s1 _=>?_;have no:calM k n=none->CS 126 #[zP tb,.int .i64 2] w1 fun v2 w3=>∃(i4 i5 i6 i7:Int)(s8:ByteArray)(i9:Int),v2=.agg #[.int .i64 i4,.int .u64 i5,.int .i64 i6,.int .i64 i7,.string s8,.int .i64 i9] /\ WrC w3 (zA n0) (6:Nat) /\ ∀(w10:World),w10=wr w3 (zA n0) [.int .i64 i4,.int .u64 i5,.int .i64 i6,.int .i64 i7,.string s8,.int .i64 i9]->∃(i11 i12 i13 i14:Int)(s15:ByteArray)(i16:Int),CellsAt w10 (zA n0) [.int .i64 i11,.int .u64 i12,.int .i64 i13,.int .i64 i14,.string s15,.int .i64 i16] /\ R (.agg #[.int .i64 i11,.int .u64 i12,.int .i64 i13,.int .i64 i14,.string s15,.int .i64 i16]) w10:=fun hc=>by
  have e:calR s A t k n=⟨0,0,2,A,t⟩:=by unfold calR;rw[hc]
  rw[e] at r;refine(Qdh (s:=s) (tb:=tb) (y:=y) (t:=t) g.q 2).use (C:=blk n0 (anO zAn)*axT s A) h1 (by show blk n0 (anO zAn)*_=_;ac_rfl) fun v w3 F3 h3 s3=>?_;rw[Q06] at h3;obtain⟨rfl,h3⟩:=h3;refine⟨_,_,_,_,_,_,rfl,?_⟩;refine Q1s {anE 2 with C:=(t.q.cb:Int)} (C:=axT s A*tnX s tb y t) (re h3 (by ac_rfl)) rfl fun w4 F4 h4 s4=>?_;exact r _ w4 F4 ⟨y,rfl,h4⟩ ((s1.trans s3).trans s4)
 refine ifD (fun q=>no (if_pos (.inl q))) (fun q1=>ifD (fun q=>no (if_pos (.inr (.inl q)))) (fun q2=>⟨by omega,?_⟩));have hd:(8192:Int).tdiv n<=8192 /\ 0<=(8192:Int).tdiv n:=by
  obtain⟨m,rfl⟩:=zzeoz (show 0<=n by omega);have:(8192:Int).tdiv (m:Int)=((8192 / m:Nat):Int):=(Int.ofNat_tdiv 8192 m).symm;rw[this];have:=Nat.div_le_self 8192 m;generalize 8192 / m=d at this ⊢;omega
 rw[Q04 (n:=(8192:Int).tdiv n) (by omega) (by omega)];refine ifD (fun q=>no (if_pos (.inr (.inr q)))) (fun q3=>?_);have hc:calM k n=some (k*n):=if_neg (by omega);have e:calR s A t k n=getM s A t (k*n):=by unfold calR;rw[hc]
 rw[e] at r;have hkn:0<=k*n /\ k*n<=8192:=by
  obtain⟨m,rfl⟩:=zzeoz (show 0<=n by omega);obtain⟨j,rfl⟩:=zzeoz (show 0<=k by omega);have e1:(8192:Int).tdiv (m:Int)=((8192 / m:Nat):Int):=(Int.ofNat_tdiv 8192 m).symm;rw[e1] at q3;have h1:j*m<=8192 / m*m:=zzmlr _ (Nat.le_of_not_lt fun z=>q3 (Int.ofNat_lt.2 z));have h2:8192 / m*m<=8192:=Nat.div_mul_le_self _ _;rw[<-Int.natCast_mul];omega
 rw[Q04 (by omega) (by omega)];refine(Q5P (s:=s) (tb:=tb) (y:=y) (t:=t) (A:=A) g hts (k*n)).use (C:=blk n0 (anO zAn)) h1 (by show blk n0 (anO zAn)*_=_;ac_rfl) fun v w3 F3 h3 s3=>?_;obtain⟨y',rfl,h3b⟩:=Q0l h3;refine⟨_,_,_,_,_,_,rfl,?_⟩;refine Q1s (ansG (getM s A t (k*n))) (C:=axT s (getM s A t (k*n)).A*tnX s tb y' (getM s A t (k*n)).t) (re h3b (by ac_rfl)) rfl fun w4 F4 h4 s4=>?_;exact r _ w4 F4 ⟨y',rfl,h4⟩ ((s1.trans s3).trans s4)
end
end
section
open Go.RowKit Go.Maps Thing
def fnO(T:Int)(S:Int->Option Cp.Sl)(h x:Int):Option Int:=match Cp.findS T S h with
 | none=>none
 | some z=>if x<0 \/ x>7 \/ Cp.may z x=false then none else some z.2.2
def fnV(o:Option Int):Value:=match o with | some a=>.tuple #[.int .i64 a,.int .i64 0] | none=>.tuple #[.int .i64 0,.int .i64 5]
theorem Q2U(T:Int)(S:Int->Option Cp.Sl)(h x:Int):Cp.findR T S h x=fnV (fnO T S h x):=by
 unfold Cp.findR fnO;cases Cp.findS T S h with
 | none=>rfl
 | some z=>
  show(if x<0 \/ x>7 \/ Cp.may z x=false then _ else _)=fnV (if x<0 \/ x>7 \/ Cp.may z x=false then _ else _);by_cases q:x<0 \/ x>7 \/ Cp.may z x=false
  ·rw[if_pos q,if_pos q];rfl
  ·rw[if_neg q,if_neg q];rfl
theorem Q74{T:Int}{S:Int->Option Cp.Sl}{h x a:Int}(e:fnO T S h x=some a):∃z,Cp.findS T S h=some z /\ z.2.2=a:=by
 unfold fnO at e;split at e
 ·cases e
 ·rename_i z e1;split at e
  ·cases e
  ·exact⟨z,e1,Option.some.inj e⟩
section
variable{s:Sv}{tb:Nat}{y:Tl}{t:Tn}{A:Ax}{w:World}{F:Nat->Prop}{X C:Thing}{R:VW}
theorem Q75(g:TnOk s A t){h x a:Int}(e:fnO t.id t.S h x=some a):0<=a /\ a<3276800:=by
 obtain⟨z,e1,rfl⟩:=Q74 e;have:=g.cap _ z (Cp.findS_in e1).2.2.1;omega
theorem fn_16(g:TnOk s A t){h x a:Int}(e:fnO t.id t.S h x=some a):a % 16=0:=by
 obtain⟨z,e1,rfl⟩:=Q74 e;exact(g.cap _ z (Cp.findS_in e1).2.2.1).2.2
theorem Q2D{n0:Nat}{arr:Array Value}(gq:t.q.Ok)(a:An)(h:(blk n0 (anO arr)*(axT s A*tnX s tb y t)).P w F)(hs:arr.size=6)(r:∀w' F',(axT s A*tnX s tb y t).P w' F'->Step F w F' w'->R (anV {a with C:=(t.q.cb:Int)}) w') :
  CS 128 #[zP tb,anV a] w fun v22 w23=>∃(i24 i25 i26 i27:Int)(s28:ByteArray)(i29:Int),v22=.agg #[.int .i64 i24,.int .u64 i25,.int .i64 i26,.int .i64 i27,.string s28,.int .i64 i29] /\ WrC w23 (zA n0) (6:Nat) /\ ∀(w30:World),w30=wr w23 (zA n0) [.int .i64 i24,.int .u64 i25,.int .i64 i26,.int .i64 i27,.string s28,.int .i64 i29] →
   ∃(i31 i32 i33 i34:Int)(s35:ByteArray)(i36:Int),CellsAt w30 (zA n0) [.int .i64 i31,.int .u64 i32,.int .i64 i33,.int .i64 i34,.string s35,.int .i64 i36] /\ R (.agg #[.int .i64 i31,.int .u64 i32,.int .i64 i33,.int .i64 i34,.string s35,.int .i64 i36]) w30:=by
 refine(Qf0 (s:=s) (tb:=tb) (y:=y) (t:=t) gq a).use (C:=blk n0 (anO arr)*axT s A) h (by ac_rfl) fun v w3 F3 h3 s3=>?_;rw[Q06] at h3;obtain⟨rfl,h3⟩:=h3;refine⟨_,_,_,_,_,_,rfl,?_⟩;exact Q1s {a with C:=(t.q.cb:Int)} (C:=axT s A*tnX s tb y t) (re h3 (by ac_rfl)) hs fun w4 F4 h4 s4=>r w4 F4 h4 (s3.trans s4)
theorem Q13{n0:Nat}{arr:Array Value}(gq:t.q.Ok)(e:Int)(h:(blk n0 (anO arr)*(axT s A*tnX s tb y t)).P w F)(hs:arr.size=6)(r:∀w' F',(axT s A*tnX s tb y t).P w' F'->Step F w F' w'->R (anV {anE e with C:=(t.q.cb:Int)}) w') :
  CS 126 #[zP tb,.int .i64 e] w fun v22 w23=>∃(i24 i25 i26 i27:Int)(s28:ByteArray)(i29:Int),v22=.agg #[.int .i64 i24,.int .u64 i25,.int .i64 i26,.int .i64 i27,.string s28,.int .i64 i29] /\ WrC w23 (zA n0) (6:Nat) /\ ∀(w30:World),w30=wr w23 (zA n0) [.int .i64 i24,.int .u64 i25,.int .i64 i26,.int .i64 i27,.string s28,.int .i64 i29] →
   ∃(i31 i32 i33 i34:Int)(s35:ByteArray)(i36:Int),CellsAt w30 (zA n0) [.int .i64 i31,.int .u64 i32,.int .i64 i33,.int .i64 i34,.string s35,.int .i64 i36] /\ R (.agg #[.int .i64 i31,.int .u64 i32,.int .i64 i33,.int .i64 i34,.string s35,.int .i64 i36]) w30:=by
 refine(Qdh (s:=s) (tb:=tb) (y:=y) (t:=t) gq e).use (C:=blk n0 (anO arr)*axT s A) h (by ac_rfl) fun v w3 F3 h3 s3=>?_;rw[Q06] at h3;obtain⟨rfl,h3⟩:=h3;refine⟨_,_,_,_,_,_,rfl,?_⟩;exact Q1s {anE e with C:=(t.q.cb:Int)} (C:=axT s A*tnX s tb y t) (re h3 (by ac_rfl)) hs fun w4 F4 h4 s4=>r w4 F4 h4 (s3.trans s4)
theorem bx(n0:Nat)(arr:Array Value):blk n0 (anO arr)*(axT s A*tnX s tb y t)=tnX s tb y t*(blk n0 (anO arr)*axT s A):=by ac_rfl
structure Rs where
 a:An
 A:Ax
 t:Tn
def freR(A:Ax)(t:Tn)(hh:Int):Rs:=match fnO t.id t.S hh 4 with
 | some a=>⟨{anE 0 with C:=((putM A t a).q.cb:Int)},putA A t a,putM A t a⟩
 | none=>⟨{anE 5 with C:=(t.q.cb:Int)},A,t⟩
theorem Qda(gq:t.q.Ok)(a:Int):(putM A t a).q.Ok:=Q7F gq _ _
theorem Qf4(g:TnOk s A t)(hts:A.ts.length<80000000000){hh:Int}(hu:Hd.U64 hh):Tri 84 #[zP tb,.int .u64 hh] (axT s A*tnX s tb y t)
  (fun v=>only (v=anV (freR A t hh).a) (axT s (freR A t hh).A*tnX s tb y (freR A t hh).t)):=by
 intro w F R h r;constructor;refine vc139.ok ?_;unfold vc139;refine Q0m h fun n0 w1 F1 h1 s1 _=>Q3a h1 (bx n0 zAn) hu 4 fun w2 hE2=>?_;have h2:=Thing.grow h1 hE2;rw[Q2U];cases e:fnO t.id t.S hh 4 with
 | none=>
  have er:freR A t hh=⟨{anE 5 with C:=(t.q.cb:Int)},A,t⟩:=by unfold freR;rw[e]
  rw[er] at r;exact⟨_,_,rfl,Q00 rfl (Q13 g.q 5 h2 rfl fun w' F' p st=>r _ w' F' ⟨rfl,p⟩ ((s1.trans (Step.ext hE2)).trans st))⟩
 | some a=>
  have er:freR A t hh=⟨{anE 0 with C:=((putM A t a).q.cb:Int)},putA A t a,putM A t a⟩:=by unfold freR;rw[e]
  rw[er] at r;have ha:=Q75 g e;refine⟨_,_,rfl,Q03 rfl ((Qdp (s:=s) (tb:=tb) (y:=y) (t:=t) (A:=A) g.h g.q (by omega) (a:=a) (i64w (by omega) (by omega))).use (C:=blk n0 (anO zAn)) h2 (zztmc _ _) fun v w3 F3 h3 s3=>?_)⟩;rw[Q06] at h3;obtain⟨rfl,h3⟩:=h3;exact⟨rfl,Q13 (Qda g.q a) 0 (re h3 (zztmc _ _)) rfl fun w' F' p st=>r _ w' F' ⟨rfl,p⟩ (((s1.trans (Step.ext hE2)).trans s3).trans st)⟩
def usbR(t:Tn)(hh:Int):An:=match fnO t.id t.S hh 0 with
 | some a=>⟨0,0,0,usbI t.H a,ByteArray.mk #[],(t.q.cb:Int)⟩
 | none=>{anE 5 with C:=(t.q.cb:Int)}
theorem QaZ(g:TnOk s A t){hh:Int}(hu:Hd.U64 hh):Tri 86 #[zP tb,.int .u64 hh] (axT s A*tnX s tb y t)
  (fun v=>only (v=anV (usbR t hh)) (axT s A*tnX s tb y t)):=by
 intro w F R h r;constructor;refine vc141.ok ?_;unfold vc141;refine Q0m h fun n0 w1 F1 h1 s1 _=>Q3a h1 (bx n0 zAn) hu 0 fun w2 hE2=>?_;have h2:=Thing.grow h1 hE2;rw[Q2U];unfold usbR at r;cases e:fnO t.id t.S hh 0 with
 | none=>
  rw[e] at r;exact⟨_,_,rfl,Q03 rfl (Q13 g.q 5 h2 rfl fun w' F' p st=>r _ w' F' ⟨rfl,p⟩ ((s1.trans (Step.ext hE2)).trans st))⟩
 | some a=>
  rw[e] at r;refine⟨_,_,rfl,Q00 rfl ⟨_,Q1r h2 (bx n0 zAn),Q2k (C:=blk n0 (anO zAn)*tnHp s tb y t) h2 (by rw[Q0S];show blk n0 (anO zAn)*_=_;ac_rfl) g.h.nb a fun w3 hE3=>⟨_,_,rfl,?_⟩⟩⟩;exact Q2D g.q ⟨0,0,0,usbI t.H a,ByteArray.mk #[],0⟩ (Thing.grow h2 hE3) rfl fun w' F' p st=>r _ w' F' ⟨rfl,p⟩ (((s1.trans (Step.ext hE2)).trans (Step.ext hE3)).trans st)
def spO(t:Tn)(hh right from_ n:Int):Option (Option Int):=match fnO t.id t.S hh right with
 | none=>none
 | some a=>if 0<=from_ /\ 0<=n /\ from_<=(t.ob a).getD 0 /\ n<=(t.ob a).getD 0-from_ then some (some (a+from_))else some none
def spI(t:Tn)(hh right from_ n:Int):Int:=match spO t hh right from_ n with | some (some x)=>x | _=>0
def spE(t:Tn)(hh right from_ n:Int):Int:=match spO t hh right from_ n with | some (some _)=>0 | some none=>4 | none=>5
theorem QaY(g:TnOk s A t)(h:X.P w F)(e:X=tnX s tb y t*C){hh:Int}(hu:Hd.U64 hh)(right from_ n:Int)(r:∀w',Ext w w'->R (.tuple #[.int .i64 (spI t hh right from_ n),.int .i64 (spE t hh right from_ n)]) w') :
  CS 134 #[zP tb,.int .u64 hh,.int .i64 right,.int .i64 from_,.int .i64 n] w R:=by
 constructor;refine vc164.ok ?_;unfold vc164;refine Q3a h e hu right fun w1 hE1=>?_;have h1:=Thing.grow h hE1;rw[Q2U];cases ef:fnO t.id t.S hh right with
 | none=>
  have e1:spO t hh right from_ n=none:=by unfold spO;rw[ef]
  have e2:spI t hh right from_ n=0:=by unfold spI;rw[e1]
  have e3:spE t hh right from_ n=5:=by unfold spE;rw[e1]
  rw[e2,e3] at r;exact⟨_,_,rfl,Q03 rfl (r _ hE1)⟩
 | some a=>
  have ha:=Q75 g ef;have hl:=Q3p (K:=3) (mp:=y.ob) (m:=obM t.ob) (C:=tnOb s tb y t*C) h1 (by rw[e,Q2P];ac_rfl) Q0L Q3s (ob_z w1) (k:=a) (i64w (by omega) (by omega));have el:(obM t.ob a).getD (.int .i64 0)=.int .i64 ((t.ob a).getD 0):=by unfold obM;cases t.ob a <;> rfl
  rw[el] at hl;have hsz:0<=(t.ob a).getD 0 /\ (t.ob a).getD 0<=8192:=by
   cases ho:t.ob a with
   | none=>show(0:Int)<=0 /\ (0:Int)<=8192;omega
   | some v=>have:=g.ob a v ho;exact⟨this.2.2.1,this.2.2.2⟩
  have bad:¬(0<=from_ /\ 0<=n /\ from_<=(t.ob a).getD 0 /\ n<=(t.ob a).getD 0-from_)->R (.tuple #[.int .i64 0,.int .i64 4]) w1:=fun q=>by
   have e1:spO t hh right from_ n=some none:=by unfold spO;rw[ef];exact if_neg q
   have e2:spI t hh right from_ n=0:=by unfold spI;rw[e1]
   have e3:spE t hh right from_ n=4:=by unfold spE;rw[e1]
   rw[e2,e3] at r;exact r _ hE1
  have good:(0<=from_ /\ 0<=n /\ from_<=(t.ob a).getD 0 /\ n<=(t.ob a).getD 0-from_)->R (.tuple #[.int .i64 (a+from_),.int .i64 0]) w1:=fun q=>by
   have e1:spO t hh right from_ n=some (some (a+from_)):=by unfold spO;rw[ef];exact if_pos q
   have e2:spI t hh right from_ n=a+from_:=by unfold spI;rw[e1]
   have e3:spE t hh right from_ n=0:=by unfold spE;rw[e1]
   rw[e2,e3] at r;exact r _ hE1
  refine⟨_,_,rfl,Q00 rfl ⟨_,Q4S h1 e,_,w1,hl,_,w1,run_min_int2 w1 _ _ _ _ _ _,?_⟩⟩;generalize(t.ob a).getD 0=sz at hsz bad good ⊢;refine ifD (fun q=>bad (by intro z;split at q <;> omega)) (fun q1=>?_);have q1:0<=from_ /\ 0<=n:=by split at q1 <;> omega
  refine ifD (fun q=>bad (by omega)) (fun q2=>?_);rw[Q04 (n:=sz-from_) (by omega) (by omega)];refine ifD (fun q=>bad (by omega)) (fun q3=>?_);rw[Q04 (by omega) (by omega)];exact good (by omega)
def reaR(A:Ax)(t:Tn)(hh from_ n:Int):Rs:=match spO t hh 1 from_ n with
 | some (some x)=>⟨⟨vE t.H.T A.bs.length x n,0,0,0,strOf (rdB A.bs (vL t.H.T A.bs.length x n)),(t.q.cb:Int)⟩,{A with ts:=A.ts++tchL (vL t.H.T A.bs.length x n) false},t⟩
 | _=>⟨{anE (spE t hh 1 from_ n)with C:=(t.q.cb:Int)},A,t⟩
theorem Q7Q(t:Tn)(hh x from_ n:Int):(∃a,spO t hh x from_ n=some (some a) /\ spI t hh x from_ n=a /\ spE t hh x from_ n=0) \/ ((∀a,spO t hh x from_ n ≠ some (some a)) /\ spE t hh x from_ n ≠ 0):=by
 unfold spI spE;cases spO t hh x from_ n with
 | none=>exact .inr ⟨fun a h=>(by cases h),by show(5:Int) ≠ 0;omega⟩
 | some o=>cases o with
  | none=>exact .inr ⟨fun a h=>(by cases h),by show(4:Int) ≠ 0;omega⟩
  | some a=>exact .inl ⟨a,rfl,rfl,rfl⟩
theorem Qf7(g:TnOk s A t)(hts:A.ts.length<80000000000){hh:Int}(hu:Hd.U64 hh)(from_ n:Int):Tri 87 #[zP tb,.int .u64 hh,.int .i64 from_,.int .i64 n] (axT s A*tnX s tb y t)
  (fun v=>only (v=anV (reaR A t hh from_ n).a) (axT s (reaR A t hh from_ n).A*tnX s tb y t)):=by
 intro w F R h r;constructor;refine vc142.ok ?_;unfold vc142;refine Q0m h fun n0 w1 F1 h1 s1 _=>QaY g h1 (bx n0 zAn) hu 1 from_ n fun w2 hE2=>⟨_,_,rfl,?_⟩;have h2:=Thing.grow h1 hE2;unfold reaR at r;rcases Q7Q t hh 1 from_ n with⟨x,e1,e2,e3⟩ | ⟨e1,e2⟩
 ·rw[e1] at r;rw[e2,e3];refine Q00 rfl ?_;rintro w3 rfl;have hE3:=hE2.trans (Ext.drew w2);have h3:=Thing.grow h2 (Ext.drew w2);have hx3:=bx (s:=s) (tb:=tb) (y:=y) (t:=t) (A:=A) n0 zAn;refine⟨_,Q5T h3 hx3,_,Q1r h3 hx3,Q2j (C:=blk n0 (anO zAn)*axT s A*tnHp s tb y t) h3 (by rw[Q0S];show blk n0 (anO zAn)*_=_;ac_rfl) ⟨_,rfl,⟨_,Q5T h3 hx3,rfl⟩,?_⟩⟩;refine(Qfa (ap:=s.ap) (tb:=y.x.tb) (bs:=A.bs) (ts:=A.ts) (T:=t.H.T) (by omega) x n).use (C:=blk n0 (anO zAn)*(tabT s.o*coT s.mb s.nC s.C A.cs)*(hpTb s y.hb y.x t.H*tnHp s tb y t)) h3 (by rw[Q0S,Q1M];unfold axT;show blk n0 (anO zAn)*_=_;ac_rfl) fun v w4 F4 h4 s4=>?_;rw[Q06] at h4;obtain⟨rfl,h4⟩:=h4;refine⟨_,_,rfl,?_⟩;refine Q2D (A:={A with ts:=A.ts++tchL (vL t.H.T A.bs.length x n) false}) g.q ⟨vE t.H.T A.bs.length x n,0,0,0,strOf (rdB A.bs (vL t.H.T A.bs.length x n)),0⟩ (arr:=zAn) (re h4 (by rw[Q0S,Q1M];unfold axT;show _=blk n0 (anO zAn)*_;ac_rfl)) rfl fun w' F' p st=>r _ w' F' ⟨rfl,p⟩ (((s1.trans (Step.ext hE3)).trans s4).trans st)
 ·have er:∀ {Z:Type} (f:Int->Z) (d:Z),(match spO t hh 1 from_ n with | some (some x)=>f x | _=>d)=d:=fun f d=>by
   cases q:spO t hh 1 from_ n with
   | none=>rfl
   | some o=>cases o with
    | none=>rfl
    | some a=>exact absurd q (e1 a)
  rw[er (fun x=>(⟨⟨vE t.H.T A.bs.length x n,0,0,0,strOf (rdB A.bs (vL t.H.T A.bs.length x n)),(t.q.cb:Int)⟩,{A with ts:=A.ts++tchL (vL t.H.T A.bs.length x n) false},t⟩:Rs))] at r;refine Q03 (by simpa using e2) (Q13 g.q _ h2 rfl fun w' F' p st=>r _ w' F' ⟨rfl,p⟩ ((s1.trans (Step.ext hE2)).trans st))
def wriR(A:Ax)(t:Tn)(hh from_:Int)(d:ByteArray):Rs:=match spO t hh 2 from_ d.size with
 | some (some x)=>⟨{anE (vE t.H.T A.bs.length x d.size)with C:=(t.q.cb:Int)},{A with bs:=wrB A.bs (vL t.H.T A.bs.length x d.size) (bytesOf d),ts:=A.ts++tchL (vL t.H.T A.bs.length x d.size) true},t⟩
 | _=>⟨{anE (spE t hh 2 from_ d.size)with C:=(t.q.cb:Int)},A,t⟩
theorem Qcr(g:TnOk s A t)(hts:A.ts.length<80000000000){hh:Int}(hu:Hd.U64 hh)(from_:Int)(d:ByteArray):Tri 88 #[zP tb,.int .u64 hh,.int .i64 from_,.string d] (axT s A*tnX s tb y t)
  (fun v=>only (v=anV (wriR A t hh from_ d).a) (axT s (wriR A t hh from_ d).A*tnX s tb y t)):=by
 intro w F R h r;constructor;refine vc143.ok ?_;unfold vc143;refine Q0m h fun n0 w1 F1 h1 s1 _=>QaY g h1 (bx n0 zAn) hu 2 from_ d.size fun w2 hE2=>⟨_,_,rfl,?_⟩;have h2:=Thing.grow h1 hE2;unfold wriR at r;rcases Q7Q t hh 2 from_ d.size with⟨x,e1,e2,e3⟩ | ⟨e1,e2⟩
 ·rw[e1] at r;rw[e2,e3];refine Q03 rfl ?_;rintro w3 rfl;have hE3:=hE2.trans (Ext.drew w2);have h3:=Thing.grow h2 (Ext.drew w2);have hx3:=bx (s:=s) (tb:=tb) (y:=y) (t:=t) (A:=A) n0 zAn;refine⟨_,Q5T h3 hx3,_,Q1r h3 hx3,Q2j (C:=blk n0 (anO zAn)*axT s A*tnHp s tb y t) h3 (by rw[Q0S];show blk n0 (anO zAn)*_=_;ac_rfl) ⟨_,rfl,⟨_,Q5T h3 hx3,rfl⟩,?_⟩⟩;refine(Qcs (ap:=s.ap) (tb:=y.x.tb) (bs:=A.bs) (ts:=A.ts) (T:=t.H.T) (by omega) x d).use (C:=blk n0 (anO zAn)*(tabT s.o*coT s.mb s.nC s.C A.cs)*(hpTb s y.hb y.x t.H*tnHp s tb y t)) h3 (by rw[Q0S,Q1M];unfold axT;show blk n0 (anO zAn)*_=_;ac_rfl) fun v w4 F4 h4 s4=>?_;rw[Q06] at h4;obtain⟨rfl,h4⟩:=h4;refine⟨_,rfl,?_⟩;refine Q13 (A:={A with bs:=wrB A.bs (vL t.H.T A.bs.length x d.size) (bytesOf d),ts:=A.ts++tchL (vL t.H.T A.bs.length x d.size) true}) g.q (vE t.H.T A.bs.length x d.size) (arr:=zAn) (re h4 (by rw[Q0S,Q1M];unfold axT;show _=blk n0 (anO zAn)*_;ac_rfl)) rfl fun w' F' p st=>r _ w' F' ⟨rfl,p⟩ (((s1.trans (Step.ext hE3)).trans s4).trans st)
 ·have er:∀ {Z:Type} (f:Int->Z) (d':Z),(match spO t hh 2 from_ d.size with | some (some x)=>f x | _=>d')=d':=fun f d'=>by
   cases q:spO t hh 2 from_ d.size with
   | none=>rfl
   | some o=>cases o with
    | none=>rfl
    | some a=>exact absurd q (e1 a)
  rw[er (fun x=>(⟨{anE (vE t.H.T A.bs.length x d.size)with C:=(t.q.cb:Int)},{A with bs:=wrB A.bs (vL t.H.T A.bs.length x d.size) (bytesOf d),ts:=A.ts++tchL (vL t.H.T A.bs.length x d.size) true},t⟩:Rs))] at r;refine Q00 (by simpa using e2) (Q13 g.q _ h2 rfl fun w' F' p st=>r _ w' F' ⟨rfl,p⟩ ((s1.trans (Step.ext hE2)).trans st))
def rstI(T:Int)(S:Int->Option Cp.Sl)(nx h r:Int):Int:=match Cp.restO T S h r with | some _=>(match Cp.putK S 4096 64 nx with | some k=>Hd.packV T ((4096+k:Nat):Int) r nx | none=>0) | none=>0
def rstE(T:Int)(S:Int->Option Cp.Sl)(nx h r:Int):Int:=match Cp.restO T S h r with | some _=>(match Cp.putK S 4096 64 nx with | some _=>0 | none=>10) | none=>Cp.restE T S h r
theorem QfZ(T:Int)(S:Int->Option Cp.Sl)(nx h r:Int):Cp.restV T S nx h r=.tuple #[.int .u64 (rstI T S nx h r),.int .i64 (rstE T S nx h r)]:=by
 unfold Cp.restV rstI rstE;cases Cp.restO T S h r with
 | none=>rfl
 | some z=>
  show Cp.putV T S 4096 64 nx r=_;unfold Cp.putV;cases Cp.putK S 4096 64 nx <;> rfl
def resR(A:Ax)(t:Tn)(hh x:Int):Rs:=⟨⟨rstE t.id t.S t.nx hh x,rstI t.id t.S t.nx hh x,0,0,ByteArray.mk #[],(t.q.cb:Int)⟩,A,{t with nx:=Cp.restN t.id t.S t.nx hh x,S:=Cp.restS t.id t.S t.nx hh x,sz:=Cp.restZ t.id t.S t.nx hh x t.sz}⟩
theorem Q6F(g:TnOk s A t){hh:Int}(hu:Hd.U64 hh)(x:Int):Tri 89 #[zP tb,.int .u64 hh,.int .i64 x] (axT s A*tnX s tb y t)
  (fun v=>only (v=anV (resR A t hh x).a) (axT s A*tnX s tb y (resR A t hh x).t)):=by
 intro w F R h r;constructor;refine vc144.ok ?_;unfold vc144;refine Q0m h fun n0 w1 F1 h1 s1 _=>Q00 rfl ⟨_,Q5U h1 (bx n0 zAn),?_⟩;refine(Q6D (o:=s.o) (p:=y.cb) (T:=t.id) (nx:=t.nx) (S:=t.S) (sz:=t.sz) hu x).use (C:=tnKp s tb y t*(arT s.ap A.bs A.ts*coT s.mb s.nC s.C A.cs)*blk n0 (anO zAn)) h1 (by rw[Q2l];unfold axT;show blk n0 (anO zAn)*_=_;ac_rfl) fun v w2 F2 h2 s2=>?_;rw[Q06] at h2;obtain⟨hv,h2⟩:=h2;rw[QfZ] at hv;subst hv;have h3:(blk n0 (anO zAn)*(axT s A*tnX s tb y (resR A t hh x).t)).P w2 F2:=re h2 (by
  unfold resR;show _=_*(_*tnX s tb y {t with nx:=Cp.restN t.id t.S t.nx hh x,S:=Cp.restS t.id t.S t.nx hh x,sz:=Cp.restZ t.id t.S t.nx hh x t.sz});rw[Qb6 (t:=t)];unfold axT;ac_rfl)
 exact⟨_,_,rfl,Q2D (t:=(resR A t hh x).t) g.q ⟨rstE t.id t.S t.nx hh x,rstI t.id t.S t.nx hh x,0,0,ByteArray.mk #[],0⟩ h3 rfl fun w' F' p st=>r _ w' F' ⟨rfl,p⟩ ((s1.trans s2).trans st)⟩
end
end
section
open Go.RowKit Go.Maps Thing
theorem Q3I(T:Tb)(size:Nat)(addr n:Int)(hs:size<=2097152):InP size (vL T size addr n) /\ (vL T size addr n).length<=3276800:=by
 rcases Q55 T size addr n with⟨_,e⟩ | ⟨_,l,e1,e2⟩
 ·rw[e];exact⟨fun s hs=>(by cases hs),by simp⟩
 ·rw[e2];exact⟨(Q1a e1 hs).1,(Q1a e1 hs).2.2.1⟩
theorem Q4g(T:Tb)(bs:List UInt8)(to from_ n:Int)(hs:bs.length<=2097152):(cpB T bs to from_ n).length=bs.length:=by
 unfold cpB;split
 ·exact Q6K _ (Q3I T bs.length to n hs).1
 ·rfl
theorem Q94(T:Tb)(size:Nat)(ts:List Tch)(to from_ n:Int)(hs:size<=2097152):(cpT T size ts to from_ n).length<=ts.length+6553600:=by
 have h1:=(Q3I T size to n hs).2;have h2:=(Q3I T size from_ n hs).2;unfold cpT;split
 ·rw[zzlna,zzlna,Q1o,Q1o];omega
 ·omega
theorem HOk.bytes{s:Sv}{A:Ax}{H:Hp}(g:HOk s A H){bs:List UInt8}(ts:List Tch)(hb:bs.length=A.bs.length):HOk s {A with bs:=bs,ts:=ts} H:=
 ⟨hb.trans g.nb,g.nc,g.p4,g.win,g.tok,g.few,g.sl,g.own,g.pg,g.sm,g.ln,g.tab⟩
theorem HOk.small{s:Sv}{A:Ax}{H:Hp}(g:HOk s A H):A.bs.length<=2097152:=by
 have:=g.nb;have:=g.nc;have:=g.p4;omega
theorem Q7Z{s:Sv}{A:Ax}{t:Tn}(g:HOk s A t.H)(a:Int)(c:Nat):HOk s (undM A t a c).A (undM A t a c).t.H:=(Q1v g a).ok
theorem Q78{s:Sv}{A:Ax}{t:Tn}(g:HOk s A t.H)(n:Int):HOk s (getM s A t n).A (getM s A t n).t.H:=by
 have k:=(Q17 g n).ok;unfold getM;split
 ·exact g
 split
 ·exact g
 split
 ·exact g
 split
 ·exact k
 split
 ·exact Q7Z (t:=((t.res (chgI n).toNat 0).mal s A n).gra (malM s A t.H n).I) k _ _
 split
 ·exact Q7Z (t:=((t.res (chgI n).toNat 0).mal s A n).gra (malM s A t.H n).I) k _ _
 exact k
theorem Q9l{s:Sv}{A:Ax}{t:Tn}(n:Int):(getM s A t n).A.ts.length<=A.ts.length+20:=by
 obtain⟨_,k,_,_⟩:=Q3o (s:=s) (A:=A) (H:=t.H) n;have u:∀(t':Tn) a c,(undM (malM s A t.H n).A t' a c).A.ts.length<=A.ts.length+20:=fun t' a c=>by
  have:=(Q4o (malM s A t.H n).A t'.H a).2;exact Nat.le_trans this (by omega)
 unfold getM;split
 ·exact Nat.le_add_right _ _
 split
 ·exact Nat.le_add_right _ _
 split
 ·exact Nat.le_add_right _ _
 split
 ·exact Nat.le_trans k (by omega)
 split
 ·exact u _ _ _
 split
 ·exact u _ _ _
 exact Nat.le_trans k (by omega)
def cpyA(A:Ax)(T:Tb)(to from_ n:Int):Ax:={A with bs:=cpB T A.bs to from_ n,ts:=cpT T A.bs.length A.ts to from_ n}
def zerA(A:Ax)(T:Tb)(at_ n:Int):Ax:={A with bs:=zrB A.bs (vL T A.bs.length at_ n),ts:=A.ts++tchL (vL T A.bs.length at_ n) true}
def rlcR(s:Sv)(A:Ax)(t:Tn)(hh n:Int):Rs:=match fnO t.id t.S hh 4 with
 | none=>⟨{anE 5 with C:=(t.q.cb:Int)},A,t⟩
 | some a=>if clsI n<0 then⟨{anE 2 with C:=(t.q.cb:Int)},A,t⟩
  else if chgI n>usbI t.H a then
   if (getM s A t n).e=0 then⟨⟨0,(getM s A t n).h,(getM s A t n).ad,0,ByteArray.mk #[],((putM (cpyA (getM s A t n).A (getM s A t n).t.H.T (getM s A t n).ad a ((t.ob a).getD 0)) (getM s A t n).t a).q.cb:Int)⟩,
     putA (cpyA (getM s A t n).A (getM s A t n).t.H.T (getM s A t n).ad a ((t.ob a).getD 0)) (getM s A t n).t a,putM (cpyA (getM s A t n).A (getM s A t n).t.H.T (getM s A t n).ad a ((t.ob a).getD 0)) (getM s A t n).t a⟩
   else⟨{anE (getM s A t n).e with C:=((getM s A t n).t.q.cb:Int)},(getM s A t n).A,(getM s A t n).t⟩
  else⟨⟨0,hh,a,0,ByteArray.mk #[],(t.q.cb:Int)⟩,if (t.ob a).getD 0>n then zerA A t.H.T (a+n) ((t.ob a).getD 0-n)else A,t.add a n⟩
section
variable{s:Sv}{tb:Nat}{y:Tl}{t:Tn}{A:Ax}{w:World}{F:Nat->Prop}{X C:Thing}{R:VW}
theorem Qb5{n0:Nat}{arr:Array Value}:blk n0 (anO arr)*(axT s A*tnX s tb y t)=hpX s y.hb y.x t.H*(blk n0 (anO arr)*axT s A*tnHp s tb y t):=by rw[Q0S];ac_rfl
theorem Qcv{n0:Nat}{arr:Array Value}:blk n0 (anO arr)*(axT s A*tnX s tb y t)=arT s.ap A.bs A.ts*tbT y.x.tb t.H.T*(blk n0 (anO arr)*(tabT s.o*coT s.mb s.nC s.C A.cs)*(hpTb s y.hb y.x t.H*tnHp s tb y t)):=by rw[Q0S,Q1M];unfold axT;ac_rfl
theorem Qd4{a n:Int}{Y:Thing}(h:(tnX s tb y t*Y).P w F)(hob:∀k v,t.ob k=some v->0<=k /\ k<3276800)(ha:0<=a /\ a<3276800):∃w' F',(Instr.mapUpdate 48 (.map (some y.ob)) (.int .i64 a) (.int .i64 n)).run prog w=.ok () w' /\ (tnX s tb y (t.add a n)*Y).P w' F' /\ Step F w F' w':=by
 obtain⟨w6,F6,r6,h6,s6⟩:=Q30 (K:=3) (mp:=y.ob) (m:=obM t.ob) (C:=tnOb s tb y t*Y) h (by rw[Q2P];ac_rfl) Q0L Q3s (k:=a) (i64w (by omega) (by omega)) (.int .i64 n) (fun k hk=>by
  unfold obM at hk;cases ho:t.ob k with
  | none=>rw[ho] at hk;cases hk
  | some v=>have:=hob k v ho;omega)
 refine⟨w6,F6,r6,re h6 ?_,s6⟩;have e1:=Q6s t.ob a (some n);simp only[Option.map_some] at e1;rw[e1];unfold Tn.add;rw[Qcu (t:=t)];ac_rfl
theorem Q8D(g:TnOk s A t)(hts:A.ts.length<70000000000){hh:Int}(hu:Hd.U64 hh)(n:Int):Tri 85 #[zP tb,.int .u64 hh,.int .i64 n] (axT s A*tnX s tb y t)
  (fun v=>any fun y':Tl=>only (v=anV (rlcR s A t hh n).a) (axT s (rlcR s A t hh n).A*tnX s tb y' (rlcR s A t hh n).t)):=by
 intro w F R h r;have r:∀y' w' F',(axT s (rlcR s A t hh n).A*tnX s tb y' (rlcR s A t hh n).t).P w' F'->Step F w F' w'->R (anV (rlcR s A t hh n).a) w':=fun y' w' F' p st=>r _ w' F' ⟨y',rfl,p⟩ st;constructor;refine vc140.ok ?_;unfold vc140;refine Q0m h fun n0 w1 F1 h1 s1 _=>Q3a h1 (bx n0 zAn) hu 4 fun w2 hE2=>?_;have h2:=Thing.grow h1 hE2;have s2:=s1.trans (Step.ext hE2);rw[Q2U];unfold rlcR at r;cases e:fnO t.id t.S hh 4 with
 | none=>
  rw[e] at r;exact⟨_,_,rfl,Q03 rfl (Q13 g.q 5 h2 rfl fun w' F' p st=>r y w' F' p (s2.trans st))⟩
 | some a=>
  rw[e] at r;have ha:=Q75 g e;dsimp only at r;refine⟨_,_,rfl,Q00 rfl (ccls n ⟨_,rfl,ifD (fun q=>?_) (fun q=>?_)⟩)⟩
  ·rw[if_pos q] at r;exact Q13 g.q 2 h2 rfl fun w' F' p st=>r y w' F' p (s2.trans st)
  rw[if_neg q] at r;have hn:1<=n /\ n<=8192:=by
   unfold clsI at q;split at q
   ·rename_i z;exact z
   ·omega
  have hl:=Q3p (K:=3) (mp:=y.ob) (m:=obM t.ob) (C:=tnOb s tb y t*(blk n0 (anO zAn)*axT s A)) h2 (by rw[show blk n0 (anO zAn)*(axT s A*tnX s tb y t)=tnX s tb y t*(blk n0 (anO zAn)*axT s A)from bx n0 zAn,Q2P];ac_rfl) Q0L Q3s (ob_z w2) (k:=a) (i64w (by omega) (by omega));have el:(obM t.ob a).getD (.int .i64 0)=.int .i64 ((t.ob a).getD 0):=by unfold obM;cases t.ob a <;> rfl
  rw[el] at hl;have hsz:0<=(t.ob a).getD 0 /\ (t.ob a).getD 0<=8192:=by
   cases ho:t.ob a with
   | none=>show(0:Int)<=0 /\ (0:Int)<=8192;omega
   | some v=>have:=g.ob a v ho;exact⟨this.2.2.1,this.2.2.2⟩
  generalize(t.ob a).getD 0=sz at r hl hsz ⊢;refine⟨_,Q4S h2 (bx n0 zAn),_,w2,hl,_,Q1r h2 (bx n0 zAn),Q2k h2 (C:=blk n0 (anO zAn)*tnHp s tb y t) (by rw[show blk n0 (anO zAn)*(axT s A*tnX s tb y t)=_ from Qb5];ac_rfl) g.h.nb a fun w3 hE3=>⟨_,_,rfl,cchg n ⟨_,rfl,?_⟩⟩⟩;have h3:=Thing.grow h2 hE3;have s3:=s2.trans (Step.ext hE3);have hob:∀k v,t.ob k=some v->0<=k /\ k<3276800:=fun k v hk=>by have:=g.ob k v hk;omega
  refine ifD (fun q2=>?_) (fun q2=>?_)
  ·rw[if_pos q2] at r;refine(Qdo (s:=s) (tb:=tb) (y:=y) (t:=t) (A:=A) g (by omega) n).use (C:=blk n0 (anO zAn)) h3 (by show blk n0 (anO zAn)*_=_;ac_rfl) fun v w4 F4 h4 s4=>?_;obtain⟨y',rfl,h4b⟩:=Q0l h4;have gh:=Q78 (s:=s) (A:=A) (t:=t) g.h n;have gq:=Q9k (s:=s) (A:=A) (t:=t) g.q n;have gts:=Q9l (s:=s) (A:=A) (t:=t) n;generalize getM s A t n=G at r h4b gh gq gts ⊢;have s14:=s3.trans s4;have h4c:(blk n0 (anO zAn)*(axT s G.A*tnX s tb y' G.t)).P w4 F4:=re h4b (zztmc _ _);refine⟨_,_,_,rfl,Q05 (fun q3=>?_) (fun q3=>?_)⟩
   ·have q3:G.e ≠ 0:=by simpa using q3
    rw[if_neg q3] at r;exact Q13 gq G.e h4c rfl fun w' F' p st=>r y' w' F' p (s14.trans st)
   ·have q3:G.e=0:=by simpa using q3
    rw[if_pos q3] at r;rintro w5 rfl;have hE5:=Ext.drew w4;have h5:=Thing.grow h4c hE5;have hx5:=bx (s:=s) (tb:=tb) (y:=y') (t:=G.t) (A:=G.A) n0 zAn;refine⟨_,Q5T h5 hx5,_,Q1r h5 hx5,Q2j h5 Qb5 ⟨_,rfl,⟨_,Q5T h5 hx5,rfl⟩,?_⟩⟩;refine(Qf9 (ap:=s.ap) (tb:=y'.x.tb) (bs:=G.A.bs) (ts:=G.A.ts) (T:=G.t.H.T) (by omega) G.ad a sz).use (C:=blk n0 (anO zAn)*(tabT s.o*coT s.mb s.nC s.C G.A.cs)*(hpTb s y'.hb y'.x G.t.H*tnHp s tb y' G.t)) h5 Qcv fun v w6 F6 h6 s6=>?_;rw[Q06] at h6;obtain⟨rfl,h6⟩:=h6;have h6:(blk n0 (anO zAn)*(axT s (cpyA G.A G.t.H.T G.ad a sz)*tnX s tb y' G.t)).P w6 F6:=re h6 (by rw[Qcv];rfl);have hok6:HOk s (cpyA G.A G.t.H.T G.ad a sz) G.t.H:=gh.bytes _ (Q4g _ _ _ _ _ gh.small);have ts6:(cpyA G.A G.t.H.T G.ad a sz).ts.length<=G.A.ts.length+6553600:=Q94 _ _ _ _ _ _ gh.small;refine⟨_,rfl,(Qdp (s:=s) (tb:=tb) (y:=y') (t:=G.t) (A:=cpyA G.A G.t.H.T G.ad a sz) hok6 gq (by omega) (a:=a) (i64w (by omega) (by omega))).use (C:=blk n0 (anO zAn)) h6 (by ac_rfl) fun v w7 F7 h7 s7=>?_⟩;rw[Q06] at h7;obtain⟨rfl,h7⟩:=h7;exact⟨rfl,Q2D (Qda gq a) ⟨0,G.h,G.ad,0,ByteArray.mk #[],0⟩ (arr:=zAn) (re h7 (zztmc _ _)) rfl fun w' F' p st=>r y' w' F' p ((((s14.trans (Step.ext hE5)).trans s6).trans s7).trans st)⟩
  ·rw[if_neg q2] at r;refine ifD (fun q3=>?_) (fun q3=>?_)
   ·rw[if_pos q3] at r;rintro w5 rfl;have hE5:=Ext.drew w3;have h5:=Thing.grow h3 hE5;have hx5:=bx (s:=s) (tb:=tb) (y:=y) (t:=t) (A:=A) n0 zAn;refine⟨_,Q5T h5 hx5,_,Q1r h5 hx5,Q2j h5 Qb5 ⟨_,rfl,rfl,rfl,⟨_,Q5T h5 hx5,rfl⟩,?_⟩⟩;rw[Q04 (n:=a+n) (by omega) (by omega),Q04 (n:=sz-n) (by omega) (by omega)];refine(Qfb (ap:=s.ap) (tb:=y.x.tb) (bs:=A.bs) (ts:=A.ts) (T:=t.H.T) (by omega) (a+n) (sz-n)).use (C:=blk n0 (anO zAn)*(tabT s.o*coT s.mb s.nC s.C A.cs)*(hpTb s y.hb y.x t.H*tnHp s tb y t)) h5 Qcv fun v w6 F6 h6 s6=>?_;rw[Q06] at h6;obtain⟨rfl,h6⟩:=h6;have h6:(tnX s tb y t*(blk n0 (anO zAn)*axT s (zerA A t.H.T (a+n) (sz-n)))).P w6 F6:=re h6 (by
     have:blk n0 (anO zAn)*(axT s (zerA A t.H.T (a+n) (sz-n))*tnX s tb y t)=tnX s tb y t*(blk n0 (anO zAn)*axT s (zerA A t.H.T (a+n) (sz-n))):=by ac_rfl
     rw[<-this,Qcv];rfl)
    obtain⟨w7,F7,r7,h7,s7⟩:=Qd4 (n:=n) h6 hob ha;exact⟨_,rfl,_,Q4S h6 rfl,w7,r7,Q2D (t:=t.add a n) g.q ⟨0,hh,a,0,ByteArray.mk #[],0⟩ (arr:=zAn) (re h7 (by ac_rfl)) rfl fun w' F' p st=>r y w' F' p ((((s3.trans (Step.ext hE5)).trans s6).trans s7).trans st)⟩
   ·rw[if_neg q3] at r;have h4:(tnX s tb y t*(blk n0 (anO zAn)*axT s A)).P w3 F1:=re h3 (bx n0 zAn);obtain⟨w7,F7,r7,h7,s7⟩:=Qd4 (n:=n) h4 hob ha;exact⟨_,Q4S h4 rfl,w7,r7,Q2D (t:=t.add a n) g.q ⟨0,hh,a,0,ByteArray.mk #[],0⟩ (arr:=zAn) (re h7 (by ac_rfl)) rfl fun w' F' p st=>r y w' F' p ((s3.trans s7).trans st)⟩
end
end
section
open Go.RowKit Go.Maps Thing
noncomputable def nxtM(t:Tn)(b:Int):Int:=@ite _ (∀k,t.ob k=none) (Classical.propDecidable _) b (max b t.peak)
noncomputable def fitE(t:Tn)(b p:Int):Int:=if ¬MayQ b then 2 else if (t.q.cb:Int)>b then 3 else if MayQ (nxtM t b) /\ (demN (nxtM t b).toNat:Int)<=p then 0 else 8
theorem Q7q{t:Tn}(h:∀k,t.ob k=none)(b:Int):nxtM t b=b:=by
 unfold nxtM;exact @if_pos _ (Classical.propDecidable _) h _ _ _
theorem Q7r{t:Tn}(h:¬ ∀k,t.ob k=none)(b:Int):nxtM t b=max b t.peak:=by
 unfold nxtM;exact @if_neg _ (Classical.propDecidable _) h _ _ _
section
variable{s:Sv}{tb:Nat}{y:Tl}{t:Tn}{A:Ax}{w:World}{F:Nat->Prop}{X C:Thing}{R:VW}
theorem QaV(h:X.P w F)(e:X=tnX s tb y t*C)(b:Int)(r:R (.int .i64 (nxtM t b)) w):CS 119 #[zP tb,.int .i64 b] w R:=by
 obtain⟨n,hl,l,hn,hnd,hm⟩:=QfS (K:=3) (mp:=y.ob) (m:=obM t.ob) (C:=tnOb s tb y t*C) h (by rw[e,Q2P];ac_rfl) Q3s 3;have key:n=0 ↔ ∀k,t.ob k=none:=by
  rw[<-hn];constructor
  ·intro z k;have l0:l=[]:=List.eq_nil_of_length_eq_zero z;cases ho:t.ob k with
   | none=>rfl
   | some v=>
    have:=(hm k).2 (by unfold obM;rw[ho];rfl);rw[l0] at this;cases this
  ·intro z;cases l with
   | nil=>rfl
   | cons a l=>
    have:=(hm a).1 (by simp);unfold obM at this;rw[z a] at this;cases this
 constructor;refine vc154.ok ?_;unfold vc154;refine⟨_,Q4S h e,_,w,hl,Q05 (fun q=>?_) (fun q=>?_)⟩
 ·have q:n=0:=by
   have:(n:Int)=0:=by simpa using q
   omega
  rw[Q7q (key.1 q)] at r;exact r
 ·have q:n ≠ 0:=fun z=>by simp[z] at q
  rw[Q7r (fun z=>q (key.2 z))] at r;refine⟨_,tc_pk h e,_,w,run_max_int2 w _ _ _ _ _ _,?_⟩;have e2:(if t.peak>b then t.peak else b)=max b t.peak:=by split <;> omega
  rw[e2];exact r
theorem QaT(h:X.P w F)(e:X=tnX s tb y t*C)(gq:t.q.Ok)(b p:Int)(r:R (.int .i64 (fitE t b p)) w):CS 76 #[zP tb,.int .i64 b,.int .i64 p] w R:=by
 unfold fitE at r;constructor;refine vc131.ok ?_;unfold vc131;refine Q00 rfl (dof b ?_);by_cases hq:MayQ b
 ·rw[if_neg (not_not_intro hq)] at r;rw[if_pos hq];refine⟨_,_,_,rfl,Q00 rfl (Q2H h e gq ⟨_,rfl,ifD (fun q=>?_) (fun q=>?_)⟩)⟩
  ·rw[if_pos q] at r;exact r
  ·rw[if_neg q] at r;refine QaV h e b ⟨_,rfl,dfits _ _ ⟨_,rfl,?_⟩⟩;by_cases hf:MayQ (nxtM t b) /\ (demN (nxtM t b).toNat:Int)<=p
   ·rw[if_pos hf] at r;rw[decide_eq_true hf];exact Q00 rfl r
   ·rw[if_neg hf] at r;rw[zzdcf hf];exact Q03 rfl r
 ·rw[if_pos hq] at r;rw[if_neg hq];exact⟨_,_,_,rfl,Q03 rfl r⟩
structure Rz where
 E:Int
 A:Ax
 t:Tn
noncomputable def rszR(s:Sv)(A:Ax)(t:Tn)(b:Int)(win:List Int):Rz:=
 if fitE t b (rooN s.nC s.C win) ≠ 0 then⟨fitE t b (rooN s.nC s.C win),A,t⟩
 else if (movM s A t.H win).E ≠ 0 then⟨(movM s A t.H win).E,(movM s A t.H win).A,{t with H:=(movM s A t.H win).H}⟩
 else⟨qresE t.q b.toNat (rooN s.nC s.C win),(movM s A t.H win).A,{t with H:=(movM s A t.H win).H,peak:=nxtM t b,q:=qresM t.q b.toNat (rooN s.nC s.C win)}⟩
theorem Q9d{b p:Int}(h:fitE t b p=0):MayQ b /\ (t.q.cb:Int)<=b /\ MayQ (nxtM t b) /\ (demN (nxtM t b).toNat:Int)<=p:=by
 unfold fitE at h;split at h
 ·cases h
 ·rename_i h1;split at h
  ·cases h
  ·rename_i h2;split at h
   ·rename_i h3;exact⟨Classical.not_not.1 h1,by omega,h3.1,h3.2⟩
   ·cases h
theorem QgB(s:Sv)(y:Tl)(t:Tn)(v:Int):updV (tvs s y t) 6 (.int .i64 v)=tvs s y {t with peak:=v}:=by
 funext i;unfold updV tvs;by_cases h:i=6
 ·subst h;rfl
 ·rw[if_neg h];by_cases h0:i=0
  ·subst h0;rfl
  by_cases h1:i=1
  ·subst h1;rfl
  by_cases h2:i=2
  ·subst h2;rfl
  by_cases h3:i=3
  ·subst h3;rfl
  by_cases h4:i=4
  ·subst h4;rfl
  by_cases h5:i=5
  ·subst h5;rfl
  rw[if_neg h0,if_neg h1,if_neg h2,if_neg h3,if_neg h4,if_neg h5,if_neg h,if_neg h0,if_neg h1,if_neg h2,if_neg h3,if_neg h4,if_neg h5,if_neg h]
theorem Qde(hc:(coT s.mb s.nC s.C A.cs).P w F)(win:List Int)(hw:win.length<=32):rooN s.nC s.C win<=131072:=by
 have g:Cl.MH w s.mb F s.nC s.C A.cs:=hc;have g1:=g.n1;have g2:=g.c1;have g4:=g.p4;unfold rooN;have h1:(Lib.compact (srtI win)).countP (isCol s.C)<=32:=Nat.le_trans List.countP_le_length (Nat.le_trans (Q1Q _) (by rw[Q0Y];exact hw));have h2:s.nC<=4096:=Nat.le_trans (Nat.le_mul_of_pos_right s.nC g2) g4;exact Nat.mul_le_mul h1 h2
theorem QaW(g:TnOk s A t)(hts:A.ts.length<70000000000){p:Option Addr}{c:Nat}{win:List Int}(hw:win.length<=32)(b:Int):Tri 77 #[zP tb,.int .i64 b,.slice p win.length c] (axT s A*tnX s tb y t*rowT (.slice p win.length c) win)
  (fun v=>any fun y':Tl=>only (v=.int .i64 (rszR s A t b win).E) (axT s (rszR s A t b win).A*tnX s tb y' (rszR s A t b win).t*rowT (.slice p win.length c) win)):=by
 intro w F R h r;have r:∀y' w' F',(axT s (rszR s A t b win).A*tnX s tb y' (rszR s A t b win).t*rowT (.slice p win.length c) win).P w' F'->Step F w F' w'->R (.int .i64 (rszR s A t b win).E) w':=fun y' w' F' p st=>r _ w' F' ⟨y',rfl,p⟩ st;have h:(tnX s tb y t*(axT s A*rowT (.slice p win.length c) win)).P w F:=re h (by ac_rfl);constructor;refine vc132.ok ?_;unfold vc132;obtain⟨Fc,hc,_⟩:=Q0f (A:=coT s.mb s.nC s.C A.cs) (Y:=tnX s tb y t*(tabT s.o*arT s.ap A.bs A.ts*rowT (.slice p win.length c) win)) h (by unfold axT;ac_rfl);have hr:=Q29 (v:=.slice p win.length c) (l:=win) (Y:=tnX s tb y t*axT s A) h (by ac_rfl);have hroo:=Qde hc win hw;refine Q00 rfl ⟨_,tc_mb h rfl,Qdm hc hr (by omega) fun w1 hE1=>⟨_,rfl,?_⟩⟩;have h1:=Thing.grow h hE1;unfold rszR at r;generalize rooN s.nC s.C win=n at r hroo ⊢;refine QaT h1 rfl g.q b n ⟨_,rfl,Q05 (fun q=>?_) (fun q=>?_)⟩
 ·have q:fitE t b n ≠ 0:=by simpa using q
  rw[if_pos q] at r;exact r y w1 F (re h1 (by ac_rfl)) (Step.ext hE1)
 have q:fitE t b n=0:=by simpa using q
 rw[if_neg (not_not_intro q)] at r;obtain⟨m1,m2,m3,m4⟩:=Q9d q;refine⟨_,Q1r h1 rfl,(QeS (s:=s) (hb:=y.hb) (x:=y.x) (H:=t.H) (A:=A) g.h (by omega) (p:=p) (c:=c) hw).use (C:=tnHp s tb y t) h1 (by rw[Q0S];ac_rfl) fun v w2 F2 h2 s2=>?_⟩;obtain⟨x',rfl,h2b⟩:=Q0l h2;generalize movM s A t.H win=M at r h2b ⊢;have h2:(tnX s tb {y with x:=x'} {t with H:=M.H}*(axT s M.A*rowT (.slice p win.length c) win)).P w2 F2:=re h2b (by rw[Q8G];ac_rfl);have s12:=(Step.ext hE1).trans s2;refine⟨_,rfl,Q05 (fun q2=>?_) (fun q2=>?_)⟩
 ·have q2:M.E ≠ 0:=by simpa using q2
  rw[if_pos q2] at r;exact r _ w2 F2 (re h2 (by ac_rfl)) s12
 have q2:M.E=0:=by simpa using q2
 rw[if_neg (not_not_intro q2)] at r;refine QaV h2 rfl b ⟨_,rfl,?_⟩;have en:nxtM {t with H:=M.H} b=nxtM t b:=rfl;rw[en];show WrC w2 ((zA tb).add 6) 1 /\ _;rw[Q02];refine Q1J (b:=tb) (n:=8) (i:=0+6) (vs:=tvs s {y with x:=x'} {t with H:=M.H}) (C:=tnBk s {y with x:=x'} {t with H:=M.H}*(axT s M.A*rowT (.slice p win.length c) win)) h2 (by rw[Qb4];ac_rfl) (by omega) fun w3 F3 h3 s3=>?_;have h3:(tnX s tb {y with x:=x'} {t with H:=M.H,peak:=nxtM t b}*(axT s M.A*rowT (.slice p win.length c) win)).P w3 F3:=re h3 (by
  rw[QgB,Qb4];show _=blk tb (fO 8 _ (tvs s {y with x:=x'} {t with H:=M.H,peak:=nxtM t b}))*tnBk s {y with x:=x'} {t with H:=M.H}*_;ac_rfl)
 rintro w4 rfl;have hE4:=Ext.drew w3;have h4:=Thing.grow h3 hE4;obtain⟨bn,hbn⟩:=zzeoz (show 0<=b by omega);subst hbn;rw[zztnc] at r;refine⟨_,Q1X h4 rfl,climit (b:=bn) (p:=n) (by omega) (by omega) ⟨_,_,rfl,⟨_,Q1X h4 rfl,rfl⟩,?_⟩⟩;refine(Q8C (qb:=y.qb) (q:=t.q) g.q (b:=bn) (p:=n) ⟨by omega,by omega⟩).use (C:=tnQu s tb {y with x:=x'} {t with H:=M.H,peak:=nxtM t bn}*(axT s M.A*rowT (.slice p win.length c) win)) h4 (by rw[Q1B];ac_rfl) fun v w5 F5 h5 s5=>?_;rw[Q06] at h5;obtain⟨rfl,h5⟩:=h5;refine⟨_,rfl,r {y with x:=x'} w5 F5 (re h5 ?_) (((s12.trans s3).trans (Step.ext hE4)).trans s5)⟩;have:=Q4X (s:=s) (tb:=tb) (y:={y with x:=x'}) (t:={t with H:=M.H,peak:=nxtM t bn}) (qresM t.q bn n);show _=axT s M.A*tnX s tb {y with x:=x'} {t with H:=M.H,peak:=nxtM t bn,q:=qresM t.q bn n}*_;rw[this];ac_rfl
def drpA(s:Sv)(A:Ax)(t:Tn):Ax:=droA s A t.H
def drpM(s:Sv)(A:Ax)(t:Tn):Tn:={t with H:=droH s A t.H,q:=qrefM t.q t.q.cb t.q.cp,S:=fun _=>none,sz:=0,ob:=fun _=>none}
theorem Qgz(s:Sv)(y:Tl)(t:Tn)(cb:Nat):updV (tvs s y t) 3 ((zP cb))=tvs s {y with cb:=cb} t:=by
 funext i;unfold updV tvs;by_cases h:i=3
 ·subst h;rfl
 ·rw[if_neg h];by_cases h0:i=0
  ·subst h0;rfl
  by_cases h1:i=1
  ·subst h1;rfl
  by_cases h2:i=2
  ·subst h2;rfl
  rw[if_neg h0,if_neg h1,if_neg h2,if_neg h,if_neg h0,if_neg h1,if_neg h2,if_neg h]
theorem QgA(s:Sv)(y:Tl)(t:Tn)(ob:Nat):fO 8 142 (updV (tvs s y t) 7 (.map (some ob)))=tnO s {y with ob:=ob} t:=by
 refine Q0V fun i hi=>?_;unfold updV tvs;by_cases h:i=7
 ·subst h;rfl
 ·rw[if_neg h];rcases(show i=0 \/ i=1 \/ i=2 \/ i=3 \/ i=4 \/ i=5 \/ i=6 by omega)with rfl | rfl | rfl | rfl | rfl | rfl | rfl <;> rfl
theorem Qf3(g:HOk s A t.H)(gq:t.q.Ok)(hts:A.ts.length<70000000000):Tri 80 #[zP tb] (axT s A*tnX s tb y t)
  (fun v=>any fun y':Tl=>only (v=.tuple #[]) (axT s (drpA s A t)*tnX s tb y' (drpM s A t))):=by
 intro w F R h r;have r:∀y' w' F',(axT s (drpA s A t)*tnX s tb y' (drpM s A t)).P w' F'->Step F w F' w'->R (.tuple #[]) w':=fun y' w' F' p st=>r _ w' F' ⟨y',rfl,p⟩ st;have h:(tnX s tb y t*axT s A).P w F:=re h (zztmc _ _);constructor;refine vc135.ok ?_;unfold vc135;refine Q00 rfl ⟨_,Q1r h rfl,(QeQ (s:=s) (hb:=y.hb) (x:=y.x) (H:=t.H) (A:=A) g.tin (by omega)).use (C:=tnHp s tb y t) h (by rw[Q0S];ac_rfl) fun v w1 F1 h1 s1=>?_⟩;obtain⟨x',rfl,h1b⟩:=Q0l h1;have h1:(tnX s tb {y with x:=x'} {t with H:=droH s A t.H}*axT s (drpA s A t)).P w1 F1:=re h1b (by rw[Q8G];show axT s (droA s A t.H)*_*_=_;unfold drpA;ac_rfl);refine⟨rfl,?_⟩;rintro w2 rfl;have hE2:=Ext.drew w1;have h2:=Thing.grow h1 hE2;refine⟨_,Q1X h2 rfl,_,Q1X h2 rfl,qcharged (tn_q h2 rfl) ⟨_,_,rfl,⟨_,Q1X h2 rfl,rfl⟩,?_⟩⟩;have g1:=gq.l;have g2:=gq.b;have g3:=gq.p;refine(Q44 (qb:=y.qb) (q:=t.q) gq (b:=t.q.cb) (p:=t.q.cp) ⟨by omega,by omega⟩).use (C:=tnQu s tb {y with x:=x'} {t with H:=droH s A t.H}*axT s (drpA s A t)) h2 (by rw[Q1B];ac_rfl) fun v w3 F3 h3 s3=>?_;rw[Q06] at h3;obtain⟨rfl,h3⟩:=h3;have h3:(tnX s tb {y with x:=x'} {t with H:=droH s A t.H,q:=qrefM t.q t.q.cb t.q.cp}*axT s (drpA s A t)).P w3 F3:=re h3 (by
  have:=Q4X (s:=s) (tb:=tb) (y:={y with x:=x'}) (t:={t with H:=droH s A t.H}) (qrefM t.q t.q.cb t.q.cp);show _=tnX s tb {y with x:=x'} {({t with H:=droH s A t.H}:Tn)with q:=qrefM t.q t.q.cb t.q.cp}*_;rw[this];ac_rfl)
 refine⟨_,rfl,?_⟩;rintro w4 rfl;have hE4:=Ext.drew w3;have h4:=Thing.grow h3 hE4;generalize eT1:({t with H:=droH s A t.H,q:=qrefM t.q t.q.cb t.q.cp}:Tn)=t1 at h4;generalize eY1:({y with x:=x'}:Tl)=y1 at h4;obtain⟨Fk,⟨B,ob,og,eb,eg,hk,_⟩,_⟩:=Q0f (A:=kpT y1.cb t1.id t1.nx t1.S t1.sz) (Y:=tnKp s tb y1 t1*axT s (drpA s A t)) h4 (by rw[Q2l];ac_rfl);have ht0:=hk.t0;have hn0:=hk.n0;obtain⟨Fk2,hk2,_⟩:=Q0f (A:=kpT y1.cb t1.id t1.nx t1.S t1.sz) (Y:=tnKp s tb y1 t1*axT s (drpA s A t)) h4 (by rw[Q2l];ac_rfl);refine⟨_,Qgu h4 rfl,_,Q5U h4 rfl,Q3G hk2 ⟨_,rfl,⟨_,Qgu h4 rfl,rfl⟩,Qdk t1.id t1.nx ht0 hn0 fun cb w5 F5 h5 hE5 hn5=>⟨_,_,rfl,?_⟩⟩⟩;obtain⟨h6,s6⟩:=Q0j h4 hE5 h5 hn5;show WrC w5 ((zA tb).add 3) 1 /\ _;rw[Q02];refine Q1J (b:=tb) (n:=8) (i:=0+3) (vs:=tvs s y1 t1) (C:=kpT cb t1.id t1.nx (fun _=>none) 0*(tnBk s y1 t1*axT s (drpA s A t))) h6 (by rw[Qb4];ac_rfl) (by omega) fun w7 F7 h7 s7=>?_;have h7:(kpT y1.cb t1.id t1.nx t1.S t1.sz*(tnX s tb {y1 with cb:=cb} {t1 with S:=fun _=>none,sz:=0}*axT s (drpA s A t))).P w7 F7:=re h7 (by
  rw[Qgz];unfold tnBk tnX;show _=_*(blk tb (fO 8 _ (tvs s {y1 with cb:=cb} t1))*(hpX s y1.hb y1.x t1.H*(kpT cb t1.id t1.nx (fun _=>none) 0*(quT y1.qb t1.q*mpT _ y1.ob (obM t1.ob))))*_);ac_rfl)
 obtain⟨F8,h8,sub8⟩:=Q07 h7;obtain⟨h9,s9⟩:=Q4B (K:=3) h8;refine⟨some w7.heap.size,w7.alloc (.map #[] 0),run_makeMap _ w7,?_⟩;generalize w7.heap.size=mp at h9 s9 ⊢;generalize w7.alloc (.map #[] 0)=w9 at h9 s9 ⊢;show WrC w9 ((zA tb).add 7) 1 /\ _;rw[Q02];refine Q1J (b:=tb) (n:=8) (i:=0+7) (vs:=tvs s {y1 with cb:=cb} {t1 with S:=fun _=>none,sz:=0}) (C:=mpT 3 mp (fun _=>none)*(tnBk s {y1 with cb:=cb} {t1 with S:=fun _=>none,sz:=0}*axT s (drpA s A t))) h9 (by rw[Qb4];ac_rfl) (by omega) fun w10 F10 h10 s10=>?_;have h10:(mpT 3 y1.ob (obM t1.ob)*(axT s (drpA s A t)*tnX s tb {y1 with cb:=cb,ob:=mp} {t1 with S:=fun _=>none,sz:=0,ob:=fun _=>none})).P w10 F10:=re h10 (by
  rw[show(0+7)=7 from rfl,QgA];unfold tnBk tnX;show _=mpT _ y1.ob (obM t1.ob)*(_*(blk tb (tnO s {y1 with cb:=cb,ob:=mp} t1)*(hpX s y1.hb y1.x t1.H*(kpT cb t1.id t1.nx (fun _=>none) 0*(quT y1.qb t1.q*mpT _ mp (fun _=>none))))));show blk tb (tnO s {y1 with cb:=cb,ob:=mp} t1)*(mpT _ mp (fun _=>none)*(hpX s y1.hb y1.x t1.H*(kpT cb t1.id t1.nx (fun _=>none) 0*(quT y1.qb t1.q*mpT _ y1.ob (obM t1.ob)))*axT s (drpA s A t)))=_;ac_rfl)
 obtain⟨F11,h11,sub11⟩:=Q07 h10;have eM:drpM s A t={t1 with S:=fun _=>none,sz:=0,ob:=fun _=>none}:=by rw[<-eT1];rfl
 rw[eM] at r;exact r _ w10 F11 h11 ((((((((s1.trans (Step.ext hE2)).trans s3).trans (Step.ext hE4)).trans s6).trans s7).sub sub8).trans s9).trans s10 |>.sub sub11)
end
end
section
open Go.RowKit Go.Maps Thing
def rwT{X:Type}(e:TypeId)(k:Nat)(f:X->List Value)(v:Value)(l:List X):Thing where
 P w F:=ORow w e k f v l /\ F=fun j=>v.ownBlock=some j
 keep:=by
  rintro w w' F G ⟨h,rfl⟩ hm hd;exact⟨h.keep hm hd,rfl⟩
 lt:=by
  rintro w F ⟨h,rfl⟩;exact h.lt
section
variable{X:Type}{e:TypeId}{k:Nat}{f:X->List Value}
theorem Q1V{t:TypeId}{bytes:Nat}(E:ElemOk prog t e k bytes)(hf:∀x,(f x).length=k)(h1:∀x u,u ∈ f x->u.oneCell'=true){w:World}{v:Value}{l:List X}{Y:Thing}{F:Nat->Prop}{a:Addr}{c:Nat}{x:X}(h:(rwT e k f v l*Y).P w F)(ha:CellsAt w a (f x))(hl:l.length+1<=1000000)(hb:(l.length+1)*bytes<=140737488355328) :
  ∃p' c' w' F',(Builtin.append_ #[t,t] t #[v,.slice (some a) 1 c]).run prog w=.ok (.slice p' (l.length+1) c') w' /\ (rwT e k f (.slice p' (l.length+1) c') (l++[x])*Y).P w' F' /\ Step F w F' w':=by
 obtain⟨F1,F2,⟨hr,rfl⟩,hy,d,rfl⟩:=h;obtain⟨p',c',w',hrun,hr',hm,hn⟩:=ORow.push E hf h1 hr t a c x ha (by simp only[maxLen];omega) hb;obtain⟨q,s⟩:=Q0O (B:=rwT e k f (.slice p' (l.length+1) c') (l++[x])) hy d ⟨hr',rfl⟩ ⟨hm,hn⟩;exact⟨p',c',w',_,hrun,q,s⟩
theorem Q2d{w:World}{A:Thing}{F:Nat->Prop}(h:A.P w F):(A*rwT e k f (.slice none 0 0) []).P w F:=
 ⟨F,_,h,⟨ORow.nil _ _,rfl⟩,fun j _ q=>by simp[Value.ownBlock] at q,funext fun j=>propext (by simp[Value.ownBlock])⟩
theorem Q8t{w:World}{F:Nat->Prop}{v:Value}{l:List X}{Z Y:Thing}(h:Z.P w F)(e0:Z=rwT e k f v l*Y):ORow w e k f v l:=by
 subst e0;obtain⟨F1,F2,⟨a,_⟩,_⟩:=h;exact a
end
abbrev Blk:=Int × Int × Int
def blF(x:Blk):List Value:=[.int .i64 x.1,.int .i64 x.2.1,.int .i64 x.2.2]
theorem elemBl:ElemOk prog 52 99 3 24:=.of (z:=.agg #[.int .i64 0,.int .i64 0,.int .i64 0]) (by kernel_rfl) (by kernel_rfl) rfl
theorem Q69(x:Blk):(blF x).length=3:=rfl
theorem QdL(x:Blk)(u:Value)(h:u ∈ blF x):u.oneCell'=true:=by
 simp only[blF,List.mem_cons,List.not_mem_nil,or_false] at h;rcases h with rfl | rfl | rfl <;> rfl
def isKeys(ob:Int->Option Int)(ss:List Int):Prop:=ss.Nodup /\ ss.Pairwise (·<=·) /\ ∀k,k ∈ ss ↔ (ob k).isSome=true
def blkL(t:Tn)(ss:List Int):List Blk:=ss.map fun a=>(a,(t.ob a).getD 0,usbI t.H a)
section
variable{s:Sv}{tb:Nat}{y:Tl}{t:Tn}{A:Ax}{w:World}{F:Nat->Prop}{X C:Thing}{R:VW}
theorem Q7e(g:TnOk s A t){l:List Int}(nd:l.Nodup)(mem:∀k,k ∈ l->(t.ob k).isSome=true):l.length<=204800:=by
 have fact:∀k,k ∈ l->0<=k /\ k<3276800 /\ k % 16=0:=fun k hk=>by
  obtain⟨v,hv⟩:=zzise.1 (mem k hk);have h1:=g.ob k v hv;have h2:=g.al k v hv;omega
 have hn:(l.map (· / 16)).Nodup:=by
  refine List.nodup_iff_pairwise_ne.2 (List.pairwise_map.2 ?_);refine(List.nodup_iff_pairwise_ne.1 nd).imp_of_mem fun {a b} ha hb hab e=>hab ?_;have h1:=fact a ha;have h2:=fact b hb;have e:a / 16=b / 16:=e;omega
 have:=Q18 hn (fun x hx=>by obtain⟨k,hk,rfl⟩:=List.mem_map.1 hx;have:=fact k hk;show 0<=k / 16;omega) (n:=204800) fun x hx=>by obtain⟨k,hk,rfl⟩:=List.mem_map.1 hx;have:=fact k hk;show k / 16<_;omega
 rwa [List.length_map] at this
theorem QaR(g:TnOk s A t)(h:X.P w F)(e:X=tnX s tb y t*(axT s A*C))
  (r:∀p c ss w' F',isKeys t.ob ss->(rwT 99 3 blF (.slice p ss.length c) (blkL t ss)*X).P w' F'->Step F w F' w'->R (.slice p ss.length c) w'):CS 51 #[zP tb] w R:=by
 constructor;refine vc79.ok ?_;unfold vc79;obtain⟨Fm,⟨l,hm,hnd,hmem,_⟩,_⟩:=Q0f (A:=mpT 3 y.ob (obM t.ob)) (Y:=tnOb s tb y t*(axT s A*C)) h (by rw[e,Q2P];ac_rfl);have hsome:∀k,(obM t.ob k).isSome=(t.ob k).isSome:=fun k=>by unfold obM;cases t.ob k <;> rfl
 have few:=Q7e g hnd (fun k hk=>by rw[<-hsome];exact(hmem k).1 hk);refine Q00 rfl ⟨_,Q4S h e,skeys hm (by omega) fun p7 c7 w1 ss nd pw mem hrow hE hnew=>⟨_,_,_,rfl,?_⟩⟩;have ik:isKeys t.ob ss:=⟨nd,pw,fun k=>by rw[mem,hsome]⟩;have sfew:=Q7e g nd (fun k hk=>(ik.2.2 k).1 hk);obtain⟨h1,s1⟩:=Q0j (B:=rowT (.slice p7 ss.length c7) ss) h hE ⟨hrow,rfl⟩ hnew;refine⟨fun f pl nl cl i w'=>∃j:Nat,i=(j:Int) /\ f+j=ss.length /\ nl=(blkL t (ss.take j)).length /\ ∃F',(rwT 99 3 blF (.slice pl (blkL t (ss.take j)).length cl) (blkL t (ss.take j))*(rowT (.slice p7 ss.length c7) ss*X)).P w' F' /\ Step F w F' w',⟨ss.length,0,rfl,rfl,rfl,_,re (Q2d h1) (zztmc _ _),s1⟩,?_⟩;rintro f jv pl nl cl i w2 ⟨j,rfl,hf,rfl,F2,h2,s2⟩;have ex:∀ {Z1 Z2:Thing},Z1*(Z2*X)=tnX s tb y t*(Z1*(Z2*(axT s A*C))):=fun {Z1 Z2}=>by rw[e];ac_rfl
 refine ifD (fun hj=>⟨by omega,by omega,?_⟩) (fun hj=>?_)
 ·have hj':j<ss.length:=by omega
  obtain⟨a,ha⟩:∃a,ss[j]? = some a:=⟨_,zzgge hj'⟩;have hr2:=Q29 (v:=.slice p7 ss.length c7) (l:=ss) (Y:=rwT 99 3 blF (.slice pl (blkL t (ss.take j)).length cl) (blkL t (ss.take j))*X) h2 (by ac_rfl);obtain⟨v,hv⟩:=zzise.1 ((ik.2.2 a).1 (zzmog ha));have hob:=g.ob a v hv;rw[zztnc];refine(ORow.rowAt Q0G hr2).int ha ⟨_,Q1r h2 ex,Q2k (s:=s) (hb:=y.hb) (x:=y.x) (H:=t.H) (A:=A) (C:=rwT 99 3 blF (.slice pl (blkL t (ss.take j)).length cl) (blkL t (ss.take j))*(rowT (.slice p7 ss.length c7) ss*(C*tnHp s tb y t))) h2 (by rw[ex,Q0S];ac_rfl) g.h.nb a fun w3 hE3=>⟨_,_,rfl,?_⟩⟩;have h3:=Thing.grow h2 hE3;have hl:=Q3p (K:=3) (mp:=y.ob) (m:=obM t.ob) (C:=tnOb s tb y t*(rwT 99 3 blF (.slice pl (blkL t (ss.take j)).length cl) (blkL t (ss.take j))*(rowT (.slice p7 ss.length c7) ss*(axT s A*C)))) h3 (by rw[ex,Q2P];ac_rfl) Q0L Q3s (ob_z w3) (k:=a) (i64w (by omega) (by omega));have el:(obM t.ob a).getD (.int .i64 0)=.int .i64 ((t.ob a).getD 0):=by unfold obM;cases t.ob a <;> rfl
  rw[el] at hl;refine⟨_,Q4S h3 ex,_,w3,hl,Q0m h3 fun b w4 F4 h4 s4 _=>?_⟩;have hb4:=Q0b h4 rfl;have hll:(blkL t (ss.take j)).length<=204800:=by
   have:(blkL t (ss.take j)).length=(ss.take j).length:=List.length_map _;rw[this,zzlnt];omega
  obtain⟨p',c',w5,F5,hrun,h5,s5⟩:=Q1V elemBl Q69 QdL (v:=.slice pl (blkL t (ss.take j)).length cl) (l:=blkL t (ss.take j)) (a:=⟨b,0,none⟩) (c:=1) (x:=((a,(t.ob a).getD 0,usbI t.H a):Blk)) (Y:=blk b (.cells #[.int .i64 a,.int .i64 ((t.ob a).getD 0),.int .i64 (usbI t.H a)] 99 (0,0))*(rowT (.slice p7 ss.length c7) ss*X)) (re h4 (by ac_rfl))
   (Q08 (vs:=blF ((a,(t.ob a).getD 0,usbI t.H a):Blk)) hb4) (by omega) (by omega)
  have h5':(blk b (.cells #[.int .i64 a,.int .i64 ((t.ob a).getD 0),.int .i64 (usbI t.H a)] 99 (0,0))*(rwT 99 3 blF (.slice p' ((blkL t (ss.take j)).length+1) c') (blkL t (ss.take j)++[((a,(t.ob a).getD 0,usbI t.H a):Blk)])*(rowT (.slice p7 ss.length c7) ss*X))).P w5 F5:=re h5 (by ac_rfl);obtain⟨F6,h6,sub⟩:=Q07 h5';have etk:blkL t (ss.take (j+1))=blkL t (ss.take j)++[((a,(t.ob a).getD 0,usbI t.H a):Blk)]:=by
   unfold blkL;rw[List.take_add_one,ha,List.map_append];rfl
  refine⟨p',_,c',w5,hrun,f-1,by omega,j+1,by rw[Q04 (by omega) (by omega)];omega,by omega,by rw[etk,zzlna];rfl,F6,?_,(((s2.trans (Step.ext hE3)).trans s4).trans s5).sub sub⟩;rw[etk,zzlna];exact h6
 ·have ej:ss.take j=ss:=List.take_of_length_le (by omega);rw[ej] at h2 ⊢;have eln:(blkL t ss).length=ss.length:=List.length_map _;rw[eln] at h2 ⊢;obtain⟨F3,h3,sub⟩:=Q07 (A:=rowT (.slice p7 ss.length c7) ss) (re h2 (sw1 _ _ _));exact r pl cl ss w2 F3 ik h3 (s2.sub sub)
def T0(n:Nat)(id serial b:Int)(win:List Int):Tn:=⟨H0 win,serial,fun _=>none,0,⟨b.toNat,n,0,0,0,0⟩,id,b,fun _=>none⟩
theorem Qf6(hc:(coT s.mb s.nC s.C A.cs).P w F){p:Option Addr}{c:Nat}{win:List Int}(hr:ORow w 3 1 intF (.slice p win.length c) win)(hw:win.length<=32){id serial b:Int}(hid:0<=id /\ id<=7)(hse:1<=serial /\ serial<=17592186044416)(hb:MayQ b)
  (r0:¬(demN b.toNat:Int)<=rooN s.nC s.C win->∀w',Ext w w'->R (.tuple #[.pointer none,.int .i64 8]) w')
  (r1:(demN b.toNat:Int)<=rooN s.nC s.C win->∀tb y w' F',(tnX s tb y (T0 (rooN s.nC s.C win) id serial b win)).P w' F'->Ext w w'->(∀j,F' j->w.heap.size<=j)->R (.tuple #[zP tb,.int .i64 0]) w') :
  CS 75 #[.pointer (some ⟨s.ap,0,none⟩),.pointer (some ⟨s.mb,0,none⟩),.int .i64 id,.int .i64 serial,.int .i64 b,.slice p win.length c] w R:=by
 constructor;refine vc130.ok ?_;unfold vc130;have hroo:=Qde hc win hw;generalize eroo:rooN s.nC s.C win=n at r0 r1 hroo;refine Q00 rfl (Q00 rfl (Qdk id serial hid hse fun cb w1 F1 h1 hE1 hn1=>⟨_,_,rfl,Q00 rfl (dof b ?_)⟩));rw[if_pos hb];have hc1:=Thing.grow hc hE1;have hr1:=hr.keep hE1.mod (F:=fun _=>False) (fun _ _ x=>x);refine⟨_,_,_,rfl,Q00 rfl (Qdm hc1 hr1 (by omega) fun w2 hE2=>⟨_,rfl,dfits _ _ ⟨_,rfl,?_⟩⟩)⟩;rw[eroo];have hE02:=hE1.trans hE2;by_cases hf:(demN b.toNat:Int)<=n
 case neg=>
  rw[zzdcf (fun z=>hf z.2)];exact Q03 rfl (r0 hf w2 hE02)
 rw[decide_eq_true ⟨hb,hf⟩];have h2:=Thing.grow h1 hE2;have hr2:=hr1.keep hE2.mod (F:=fun _=>False) (fun _ _ x=>x);refine Q00 rfl (Qgk (s:=s) hr2 (by omega) fun hb' x w3 F3 h3 hE3 hn3=>⟨_,_,rfl,?_⟩);obtain⟨h4,s4⟩:=Q0j h2 hE3 h3 hn3;obtain⟨bn,hbn⟩:=zzeoz (show 0<=b by omega);subst hbn;refine climit (b:=bn) (p:=n) (by omega) (by omega) ⟨_,_,rfl,qnew (b:=bn) (p:=n) ⟨by omega,by omega⟩ fun qb w5 h5 hE5 hq5=>⟨_,_,rfl,?_⟩⟩;obtain⟨h6,s6⟩:=Q0j (B:=quT qb ⟨bn,n,0,0,0,0⟩) (Fb:=(· = qb)) h4 hE5 ⟨h5,rfl⟩ (fun j hj=>by omega);obtain⟨h7,s7⟩:=Q4B (K:=3) h6;refine⟨some w5.heap.size,w5.alloc (.map #[] 0),run_makeMap _ w5,?_⟩;generalize w5.heap.size=mp at h7 s7 ⊢;generalize w5.alloc (.map #[] 0)=w7 at h7 s7 ⊢;refine Q0m h7 fun tb w8 F8 h8 s8 _=>?_
 let y:Tl:=⟨hb',x,cb,qb,mp⟩
 have eO:(Obj.cells #[.pointer (some ⟨s.ap,0,none⟩),.pointer (some ⟨s.mb,0,none⟩),.pointer (some ⟨hb',0,none⟩),zP cb,zP qb,.int .i64 id,.int .i64 (bn:Int),.map (some mp)] 142 (0,0))=tnO s y (T0 n id serial bn win):=by kernel_rfl
 rw[eO] at h8;have hst:=((s4.trans s6).trans s7).trans s8;have hnew:∀j,F1 j->w.heap.size<=j:=hn1;refine r1 hf tb y w8 F8 (re h8 ?_) (hE02.new hst.1 hnew) fun j hj=>(hst.2 j hj).elim (hnew j) (fun q=>Nat.le_trans hE02.size q);unfold tnX;show _=blk tb (tnO s y (T0 n id serial bn win))*(hpX s hb' x (H0 win)*(kpT cb id serial (fun _=>none) 0*(quT qb ⟨(bn:Int).toNat,n,0,0,0,0⟩*mpT 3 mp (fun _=>none))));rw[zztnc];ac_rfl
end
end
section
open Go.RowKit Go.Maps Thing
structure Ad where
 A:Ax
 hs:List Bool
 ws:Nat->List Int
 tn:Nat->Option Tn
 se:Nat->Int
structure Al where
 pb:Nat
 tp:Nat->Nat
 ty:Nat->Tl
def advs(s:Sv)(z:Al)(a:Ad)(i:Nat):Value:=
 if i=0 then .int .i64 ((s.nC*s.C:Nat):Int)else if i=1 then .int .i64 (s.C:Int)else if i=2 then .pointer (some ⟨s.ap,0,none⟩)else if i=3 then .pointer (some ⟨s.mb,0,none⟩)else if i=4 then .pointer (some ⟨z.pb,0,none⟩)
 else if i<13 then .pointer ((a.tn (i-5)).map fun _=>⟨z.tp (i-5),0,none⟩)else .int .i64 (a.se (i-13))
abbrev adO(s:Sv)(z:Al)(a:Ad):Obj:=fO 21 119 (advs s z a)
def tnF(s:Sv)(tp:Nat->Nat)(ty:Nat->Tl)(tn:Nat->Option Tn):Fin 8->Thing:=fun i=>match tn i.val with | some t=>tnX s (tp i.val) (ty i.val) t | none=>emp
def adX(s:Sv)(ab:Nat)(z:Al)(a:Ad):Thing:=blk ab (adO s z a)*(axT s a.A*(poT z.pb a.hs a.ws*fam (tnF s z.tp z.ty a.tn)))
section
variable{s:Sv}{ab:Nat}{z:Al}{a:Ad}{w:World}{F:Nat->Prop}{X C:Thing}{R:VW}
def adBk(s:Sv)(z:Al)(a:Ad):Thing:=axT s a.A*(poT z.pb a.hs a.ws*fam (tnF s z.tp z.ty a.tn))
theorem Q86:adX s ab z a=blk ab (adO s z a)*adBk s z a:=rfl
def adPo(s:Sv)(ab:Nat)(z:Al)(a:Ad):Thing:=blk ab (adO s z a)*(arT s.ap a.A.bs a.A.ts*(coT s.mb s.nC s.C a.A.cs*fam (tnF s z.tp z.ty a.tn)))
theorem Q8K(hs:List Bool)(ws:Nat->List Int):adX s ab z {a with hs:=hs,ws:=ws}=tabT s.o*poT z.pb hs ws*adPo s ab z a:=by
 unfold adX adPo axT;show blk ab (adO s z a)*_=_;ac_rfl
theorem Q2I:adX s ab z a=tabT s.o*poT z.pb a.hs a.ws*adPo s ab z a:=Q8K a.hs a.ws
def adAr(s:Sv)(ab:Nat)(z:Al)(a:Ad):Thing:=blk ab (adO s z a)*(tabT s.o*(coT s.mb s.nC s.C a.A.cs*(poT z.pb a.hs a.ws*fam (tnF s z.tp z.ty a.tn))))
theorem Qfi(bs:List UInt8)(ts:List Tch):adX s ab z {a with A:={a.A with bs:=bs,ts:=ts}}=arT s.ap bs ts*adAr s ab z a:=by
 unfold adX adAr axT;show blk ab (adO s z a)*_=_;ac_rfl
theorem QcE:adX s ab z a=arT s.ap a.A.bs a.A.ts*adAr s ab z a:=Qfi a.A.bs a.A.ts
def adTn(s:Sv)(ab:Nat)(z:Al)(a:Ad)(i:Fin 8):Thing:=fam (Thing.upd (tnF s z.tp z.ty a.tn) i emp)*(blk ab (adO s z a)*poT z.pb a.hs a.ws)
theorem Qb3(tp:Nat->Nat)(ty:Nat->Tl)(tn:Nat->Option Tn)(i:Fin 8)(p:Nat)(y:Tl)(t:Tn):tnF s (updF tp i.val p) (updF ty i.val y) (updF tn i.val (some t))=Thing.upd (tnF s tp ty tn) i (tnX s p y t):=by
 funext j;unfold tnF updF Thing.upd;by_cases e:j=i
 ·subst e;simp
 ·have:j.val ≠ i.val:=fun q=>e (Fin.ext q);simp[e,this]
theorem Qdz(z:Al)(a:Ad)(i:Fin 8)(y:Tl)(A:Ax){t0:Tn}(h:a.tn i.val=some t0)(t:Tn):advs s {z with ty:=updF z.ty i.val y} {a with A:=A,tn:=updF a.tn i.val (some t)}=advs s z a:=by
 funext j;unfold advs;have:∀j,(updF a.tn i.val (some t) j).map (fun _=>(⟨z.tp j,0,none⟩:Addr))=(a.tn j).map fun _=>⟨z.tp j,0,none⟩:=fun j=>by
  unfold updF;by_cases e:j=i.val
  ·rw[if_pos e,e,h];rfl
  ·rw[if_neg e]
 show(if j=0 then _ else if j=1 then _ else if j=2 then _ else if j=3 then _ else if j=4 then _ else if j<13 then Value.pointer ((updF a.tn i.val (some t) (j-5)).map fun _=>⟨z.tp (j-5),0,none⟩)else _)=_;rw[this]
theorem Qbe(i:Fin 8){t0:Tn}(h:a.tn i.val=some t0)(y:Tl)(A:Ax)(t:Tn):adX s ab {z with ty:=updF z.ty i.val y} {a with A:=A,tn:=updF a.tn i.val (some t)}=axT s A*tnX s (z.tp i.val) y t*adTn s ab z a i:=by
 unfold adX adTn;have e:=Qb3 (s:=s) z.tp z.ty a.tn i (z.tp i.val) y t;rw[Q0A] at e;show blk ab (fO 21 _ (advs s {z with ty:=updF z.ty i.val y} {a with A:=A,tn:=updF a.tn i.val (some t)}))*(axT s A*(poT z.pb a.hs a.ws*fam (tnF s z.tp (updF z.ty i.val y) (updF a.tn i.val (some t)))))=_;rw[Qdz z a i y A h t,e,Q12 (tnF s z.tp z.ty a.tn) i (tnX s (z.tp i.val) y t)];ac_rfl
theorem Q1K(i:Fin 8){t:Tn}(h:a.tn i.val=some t):adX s ab z a=axT s a.A*tnX s (z.tp i.val) (z.ty i.val) t*adTn s ab z a i:=by
 have:=Qbe (s:=s) (ab:=ab) (z:=z) i h (z.ty i.val) a.A t;rw[Q0A,<-h,Q0A] at this;exact this
theorem ac(h:X.P w F)(e:X=adX s ab z a*C){i:Nat}(hi:i<21):w.cell? ⟨ab,i,none⟩=some (advs s z a i):=
 Q4j (Q0b h (show X=blk ab (adO s z a)*(adBk s z a*C) by rw[e,Q86,Thing.mul_assoc])) hi
theorem ac_c(h:X.P w F)(e:X=adX s ab z a*C):w.cell? (((zA ab).add 0).add 1)=some (.int .i64 (s.C:Int)):=by rw[Q02,Q02];exact ac h e (by omega)
theorem Qfh(h:X.P w F)(e:X=adX s ab z a*C):w.cell? ((zA ab).add 2)=some (.pointer (some ⟨s.ap,0,none⟩)):=by rw[Q02];exact ac h e (by omega)
theorem Qdv(h:X.P w F)(e:X=adX s ab z a*C):w.cell? ((zA ab).add 3)=some (.pointer (some ⟨s.mb,0,none⟩)):=by rw[Q02];exact ac h e (by omega)
theorem Q85(h:X.P w F)(e:X=adX s ab z a*C):w.cell? ((zA ab).add 4)=some (.pointer (some ⟨z.pb,0,none⟩)):=by rw[Q02];exact ac h e (by omega)
theorem Q5b(h:X.P w F)(e:X=adX s ab z a*C){i:Nat}(hi:i<8):w.cell? (((zA ab).add 5).add i)=some (.pointer ((a.tn i).map fun _=>⟨z.tp i,0,none⟩)):=by
 rw[Q02,Q02,ac h e (by omega)];unfold advs;rw[if_neg (by omega),if_neg (by omega),if_neg (by omega),if_neg (by omega),if_neg (by omega),if_pos (by omega),show 0+5+i-5=i by omega]
theorem ac_se(h:X.P w F)(e:X=adX s ab z a*C){i:Nat}(hi:i<8):w.cell? (((zA ab).add 13).add i)=some (.int .i64 (a.se i)):=by
 rw[Q02,Q02,ac h e (by omega)];unfold advs;rw[if_neg (by omega),if_neg (by omega),if_neg (by omega),if_neg (by omega),if_neg (by omega),if_neg (by omega),show 0+13+i-13=i by omega]
theorem aready(i:Int)(r:R (.int .i64 (if 0<=i /\ i<8 then 0 else 12)) w):CS 70 #[zP ab,.int .i64 i] w R:=by
 constructor;refine vc117.ok ?_;unfold vc117;have no:¬(0<=i /\ i<8)->R (.int .i64 12) w:=fun q=>by rw[if_neg q] at r;exact r
 refine Q00 rfl (ifD (fun q=>no (by omega)) (fun q1=>ifD (fun q=>no (by omega)) (fun q2=>?_)));rw[if_pos ⟨by omega,by omega⟩] at r;exact r
def sizE(s:Sv)(k q:Int):Int:=if MayQ q /\ 1<=k /\ k<=s.C then 0 else 2
theorem asize(h:X.P w F)(e:X=adX s ab z a*C)(k q:Int)(r:R (.int .i64 (sizE s k q)) w):CS 71 #[zP ab,.int .i64 k,.int .i64 q] w R:=by
 constructor;refine vc118.ok ?_;unfold vc118;unfold sizE at r;refine dof q ?_;by_cases hq:MayQ q
 ·rw[if_pos hq];have no:¬(1<=k /\ k<=s.C)->R (.int .i64 2) w:=fun y=>by rw[if_neg (fun x=>y x.2)] at r;exact r
  refine⟨_,_,_,rfl,Q00 rfl (ifD (fun y=>no (by omega)) (fun y1=>⟨_,ac_c h e,ifD (fun y=>no (by omega)) (fun y2=>?_)⟩))⟩;rw[if_pos ⟨hq,by omega,by omega⟩] at r;exact r
 ·rw[if_neg hq];rw[if_neg (fun x=>hq x.1)] at r;exact⟨_,_,_,rfl,Q03 rfl r⟩
def tnP(z:Al)(a:Ad)(i:Int):Value:=.pointer (if 0<=i /\ i<8 then(a.tn i.toNat).map fun _=>⟨z.tp i.toNat,0,none⟩else none)
theorem atenant(h:X.P w F)(e:X=adX s ab z a*C)(i:Int)(r:R (tnP z a i) w):CS 41 #[zP ab,.int .i64 i] w R:=by
 constructor;refine vc100.ok ?_;unfold vc100;unfold tnP at r;refine aready i ⟨_,rfl,?_⟩;by_cases hi:0<=i /\ i<8
 ·rw[if_pos hi] at r ⊢;exact Q00 rfl ⟨by omega,by omega,_,Q5b h e (by omega),r⟩
 ·rw[if_neg hi] at r ⊢;exact Q03 rfl r
theorem aarena(h:X.P w F)(e:X=adX s ab z a*C)(r:R (.pointer (some ⟨s.ap,0,none⟩)) w):CS 35 #[zP ab] w R:=by
 constructor;refine vc97.ok ?_;unfold vc97;exact Q00 rfl ⟨_,Qfh h e,r⟩
theorem Qfj(i:Fin 8)(h:a.tn i.val=none)(p:Nat)(y:Tl)(t:Tn) :
  adX s ab {z with tp:=updF z.tp i.val p,ty:=updF z.ty i.val y} {a with tn:=updF a.tn i.val (some t)}=blk ab (fO 21 119 (updV (advs s z a) (0+5+i.val) ((zP p))))*(tnX s p y t*adBk s z a):=by
 have e1:fO 21 119 (updV (advs s z a) (0+5+i.val) ((zP p)))=adO s {z with tp:=updF z.tp i.val p,ty:=updF z.ty i.val y} {a with tn:=updF a.tn i.val (some t)}:=by
  refine Q0V fun j hj=>?_;unfold updV advs;by_cases e:j=0+5+i.val
  ·subst e;have:=i.isLt;rw[if_pos rfl,if_neg (by omega),if_neg (by omega),if_neg (by omega),if_neg (by omega),if_neg (by omega),if_pos (by omega),show 0+5+i.val-5=i.val by omega];show _=Value.pointer ((updF a.tn i.val (some t) i.val).map fun _=>⟨updF z.tp i.val p i.val,0,none⟩);rw[Q0g,Q0g];rfl
  ·rw[if_neg e];split;rfl;split;rfl;split;rfl;split;rfl;split;rfl;split
   ·show Value.pointer ((a.tn (j-5)).map fun _=>⟨z.tp (j-5),0,none⟩)=Value.pointer ((updF a.tn i.val (some t) (j-5)).map fun _=>⟨updF z.tp i.val p (j-5),0,none⟩);rw[Q0n (by omega),Q0n (by omega)]
   ·rfl
 have e2:Thing.upd (tnF s z.tp z.ty a.tn) i emp=tnF s z.tp z.ty a.tn:=by
  have:=Q2n (tnF s z.tp z.ty a.tn) i;rw[show tnF s z.tp z.ty a.tn i=emp by unfold tnF;rw[h]] at this;exact this
 rw[e1];unfold adX adBk;show _*(axT s a.A*(poT z.pb a.hs a.ws*fam (tnF s (updF z.tp i.val p) (updF z.ty i.val y) (updF a.tn i.val (some t)))))=_;rw[Qb3,Q12 (tnF s z.tp z.ty a.tn) i (tnX s p y t),e2];ac_rfl
theorem Qdw(i:Fin 8){t:Tn}(h:a.tn i.val=some t):blk ab (fO 21 119 (updV (advs s z a) (0+5+i.val) (.pointer none)))*adBk s z a=tnX s (z.tp i.val) (z.ty i.val) t*adX s ab z {a with tn:=updF a.tn i.val none}:=by
 have e1:fO 21 119 (updV (advs s z a) (0+5+i.val) (.pointer none))=adO s z {a with tn:=updF a.tn i.val none}:=by
  refine Q0V fun j hj=>?_;unfold updV advs;by_cases e:j=0+5+i.val
  ·subst e;have:=i.isLt;rw[if_pos rfl,if_neg (by omega),if_neg (by omega),if_neg (by omega),if_neg (by omega),if_neg (by omega),if_pos (by omega),show 0+5+i.val-5=i.val by omega];show _=Value.pointer ((updF a.tn i.val none i.val).map fun _=>⟨z.tp i.val,0,none⟩);rw[Q0g];rfl
  ·rw[if_neg e];split;rfl;split;rfl;split;rfl;split;rfl;split;rfl;split
   ·show Value.pointer ((a.tn (j-5)).map fun _=>⟨z.tp (j-5),0,none⟩)=Value.pointer ((updF a.tn i.val none (j-5)).map fun _=>⟨z.tp (j-5),0,none⟩);rw[Q0n (by omega)]
   ·rfl
 have e2:fam (tnF s z.tp z.ty a.tn)=tnX s (z.tp i.val) (z.ty i.val) t*fam (tnF s z.tp z.ty (updF a.tn i.val none)):=by
  have e3:tnF s z.tp z.ty (updF a.tn i.val none)=Thing.upd (tnF s z.tp z.ty a.tn) i emp:=by
   funext j;unfold tnF updF Thing.upd;by_cases e:j=i
   ·subst e;simp
   ·have:j.val ≠ i.val:=fun q=>e (Fin.ext q);simp[e,this]
  rw[e3,Q3Q (tnF s z.tp z.ty a.tn) i,show tnF s z.tp z.ty a.tn i=tnX s (z.tp i.val) (z.ty i.val) t by unfold tnF;rw[h]]
 rw[e1];unfold adBk adX;show _=_*(_*(axT s a.A*(poT z.pb a.hs a.ws*fam (tnF s z.tp z.ty (updF a.tn i.val none)))));rw[e2];ac_rfl
end
end
section
open Go.RowKit Go.Maps Thing
structure AdOk (s:Sv) (a:Ad):Prop where
 tn:∀i t,i<8->a.tn i=some t->TnOk s a.A t
 ws:∀i,i<8->(a.ws i).length<=32
 se:∀i,i<8->1<=a.se i /\ a.se i<=17592186044416
 hl:a.hs.length=s.C
 c:s.C<=32
 nc:s.nC<=4096
structure Ar' where
 E:Int
 a:Ad
def Ad.grant(a:Ad)(i k:Nat):Ad:={a with hs:=tkH a.hs k,ws:=updW a.ws i (srtI (a.ws i++tkL a.hs k))}
def creM(s:Sv)(a:Ad)(i k q:Int):Ar':=
 if ¬(0<=i /\ i<8)then⟨12,a⟩
 else if (a.tn i.toNat).isSome=true then⟨7,a⟩
 else if sizE s k q ≠ 0 then⟨2,a⟩
 else if ¬(demN q.toNat:Int)<=k*s.nC then⟨8,a⟩
 else if (a.hs.count false:Int)<k then⟨9,a⟩
 else if (demN q.toNat:Int)<=rooN s.nC s.C (tkL a.hs k.toNat)then
  ⟨0,{a.grant i.toNat k.toNat with tn:=updF a.tn i.toNat (some (T0 (rooN s.nC s.C (tkL a.hs k.toNat)) i (a.se i.toNat) q (tkL a.hs k.toNat)))}⟩
 else⟨8,a.grant i.toNat k.toNat⟩
theorem Q5I{s:Sv}{k q:Int}(h:sizE s k q=0):MayQ q /\ 1<=k /\ k<=s.C:=by
 unfold sizE at h;split at h
 ·assumption
 ·cases h
section
variable{s:Sv}{ab:Nat}{z:Al}{a:Ad}{w:World}{F:Nat->Prop}{X C:Thing}{R:VW}
theorem Qfk{i:Nat}(hi:i<8)(h:a.tn i=none):fO 21 119 (updV (advs s z a) (0+5+i) (.pointer none))=adO s z a:=by
 refine Q0V fun j hj=>?_;unfold updV;by_cases e:j=0+5+i
 ·subst e;rw[if_pos rfl];unfold advs;rw[if_neg (by omega),if_neg (by omega),if_neg (by omega),if_neg (by omega),if_neg (by omega),if_pos (by omega),show 0+5+i-5=i by omega,h];rfl
 ·rw[if_neg e]
theorem Qax(g:AdOk s a)(i k q:Int):Tri 38 #[zP ab,.int .i64 i,.int .i64 k,.int .i64 q] (adX s ab z a)
  (fun v=>any fun z':Al=>only (v=.int .i64 (creM s a i k q).E) (adX s ab z' (creM s a i k q).a)):=by
 intro w F R h r;have r:∀z' w' F',(adX s ab z' (creM s a i k q).a).P w' F'->Step F w F' w'->R (.int .i64 (creM s a i k q).E) w':=fun z' w' F' p st=>r _ w' F' ⟨z',rfl,p⟩ st;unfold creM at r;have h0:(adX s ab z a*emp).P w F:=by rw[Q0c];exact h
 constructor;refine vc125.ok ?_;unfold vc125;refine aready i ⟨_,rfl,?_⟩;by_cases hi:0<=i /\ i<8
 case neg=>
  rw[if_neg hi];rw[if_pos hi] at r;exact Q03 rfl (r z w F h (Step.refl _ _))
 rw[if_pos hi];rw[if_neg (not_not_intro hi)] at r;obtain⟨m,rfl⟩:=zzeoz hi.1;have hm:m<8:=by omega
 rw[zztnc] at r;refine Q00 rfl ⟨by omega,by omega,_,by rw[zztnc];exact Q5b h0 rfl hm,?_⟩;cases ht:a.tn m with
 | some t=>
  rw[ht] at r;exact Q03 rfl (r z w F h (Step.refl _ _))
 | none=>
  rw[ht,if_neg (by simp)] at r;refine Q00 rfl (asize h0 rfl k q ⟨_,rfl,Q05 (fun y=>?_) (fun y=>?_)⟩)
  ·have y:sizE s k q ≠ 0:=by simpa using y
   rw[if_pos y] at r;have e2:sizE s k q=2:=by unfold sizE at y ⊢;split <;> simp_all
   rw[e2];exact r z w F h (Step.refl _ _)
  have y:sizE s k q=0:=by simpa using y
  rw[if_neg (not_not_intro y)] at r;obtain⟨y1,y2,y3⟩:=Q5I y;have hc32:=g.c;have hn:=g.nc;obtain⟨kn,rfl⟩:=zzeoz (show 0<=k by omega);rw[zztnc] at r;obtain⟨Fc,hc,_⟩:=Q0f (A:=coT s.mb s.nC s.C a.A.cs) (Y:=blk ab (adO s z a)*(tabT s.o*arT s.ap a.A.bs a.A.ts*(poT z.pb a.hs a.ws*fam (tnF s z.tp z.ty a.tn)))*emp) h0 (by unfold adX axT;ac_rfl);have hkn:kn*s.nC<=32*4096:=Nat.mul_le_mul (by omega) hn;refine⟨_,Qdv h0 rfl,Q6C hc fun w1 hE1=>⟨_,rfl,?_⟩⟩;rw[<-Int.natCast_mul,Q04 (by omega) (by omega)];rw[<-Int.natCast_mul] at r;have h1:=Thing.grow h0 hE1;refine dfits _ _ ⟨_,rfl,?_⟩;by_cases hf:(demN q.toNat:Int)<=((kn*s.nC:Nat):Int)
  case neg=>
   rw[if_pos hf] at r;rw[zzdcf (fun x=>hf x.2)];exact Q03 rfl (r z w1 F (Thing.grow h hE1) (Step.ext hE1))
  rw[if_neg (not_not_intro hf)] at r;rw[decide_eq_true ⟨y1,hf⟩];refine Q00 rfl ⟨_,Q85 h1 rfl,?_⟩;have hpo1:adX s ab z a*emp=tabT s.o*poT z.pb a.hs a.ws*adPo s ab z a:=by rw[Q0c,Q2I]
  by_cases hcnt:(a.hs.count false:Int)<(kn:Int)
  ·rw[if_pos hcnt] at r;obtain⟨Fp,hp,_⟩:=Q0f (A:=poT z.pb a.hs a.ws) (Y:=tabT s.o*adPo s ab z a) h1 (by rw[hpo1];ac_rfl);exact Q3F hp hm (by omega) ⟨_,_,_,_,rfl,Q03 rfl (r z w1 F (Thing.grow h hE1) (Step.ext hE1))⟩
  rw[if_neg hcnt] at r;have hws:=g.ws m hm;refine(Q5M (o:=s.o) (pb:=z.pb) (hs:=a.hs) (ws:=a.ws) hm (k:=kn) (by omega) (by omega) (by omega)).use (C:=adPo s ab z a) h1 hpo1 fun v w2 F2 h2 s2=>?_;obtain⟨⟨p,c⟩,rfl,h2b⟩:=Q0l h2;dsimp only at h2b ⊢;have h2:(adX s ab z (a.grant m kn)*rowT (.slice p kn c) (tkL a.hs kn)).P w2 F2:=re h2b (by unfold Ad.grant;rw[Q8K];ac_rfl);refine⟨_,_,_,_,rfl,Q00 rfl ?_⟩;rintro w3 rfl;have hE3:=Ext.drew w2;have h3:=Thing.grow h2 hE3;have st3:Step F w F2 w2.drew:=((Step.ext hE1).trans s2).trans (Step.ext hE3);have hr3:=Q29 (v:=.slice p kn c) (l:=tkL a.hs kn) (Y:=adX s ab z (a.grant m kn)) h3 (zztmc _ _);have hlen:=Q1Y a.hs kn;obtain⟨Fc3,hc3,_⟩:=Q0f (A:=coT s.mb s.nC s.C a.A.cs) (Y:=blk ab (adO s z (a.grant m kn))*(tabT s.o*arT s.ap a.A.bs a.A.ts*(poT z.pb (a.grant m kn).hs (a.grant m kn).ws*fam (tnF s z.tp z.ty a.tn)))*rowT (.slice p kn c) (tkL a.hs kn)) h3 (by unfold adX axT;show _*(_*(arT s.ap a.A.bs a.A.ts*coT s.mb s.nC s.C a.A.cs)*(_*fam (tnF s z.tp z.ty a.tn)))*_=_;ac_rfl);have hse:=g.se m hm;have key:=Qf6 (s:=s) (A:=a.A) (w:=w2.drew) (F:=Fc3) hc3 (p:=p) (c:=c) (win:=tkL a.hs kn) (by rw[hlen];exact hr3) (by omega) (id:=(m:Int)) (serial:=a.se m) (b:=q) ⟨by omega,by omega⟩ hse y1
   (R:=fun(v32:Value) (w33:World)=>∃(p34:Option Addr),∃(i35:Int),v32=Value.tuple #[.pointer p34,.int .i64 i35] /\ (0:Int)<=(m:Int) /\ (m:Int)<(↑(8:Nat):Int) /\ w33=w33 /\ WrC w33 (((zA ab).add (5:Nat)).add ((m:Int)).toNat) [Value.pointer p34].length /\ ∀(w36:World),w36=wr w33 (((zA ab).add (5:Nat)).add ((m:Int)).toNat) [Value.pointer p34]->R (.int .i64 i35) w36)
  rw[hlen] at key;refine⟨_,Qfh h3 rfl,_,Qdv h3 rfl,by omega,by omega,rfl,_,by rw[zztnc];exact ac_se h3 rfl hm,?_⟩;refine key (fun hnf w4 hE4=>?_) (fun hfit tb y4 w4 F4 h4 hE4 hn4=>?_)
  ·rw[if_neg hnf] at r;have h4:=Thing.grow h3 hE4;refine⟨_,_,rfl,by omega,by omega,rfl,?_⟩;rw[zztnc,Q02,Q02];refine Q1J (b:=ab) (n:=21) (i:=0+5+m) (vs:=advs s z (a.grant m kn)) (C:=adBk s z (a.grant m kn)*rowT (.slice p kn c) (tkL a.hs kn)) h4 (by rw[Q86];ac_rfl) (by omega) fun w5 F5 h5 s5=>?_;rw[Qfk hm (show(a.grant m kn).tn m=none from ht)] at h5;have h5:(rowT (.slice p kn c) (tkL a.hs kn)*adX s ab z (a.grant m kn)).P w5 F5:=re h5 (by rw[Q86];ac_rfl);obtain⟨F6,h6,sub⟩:=Q07 h5;exact r z w5 F6 h6 (((st3.trans (Step.ext hE4)).trans s5).sub sub)
  ·rw[if_pos hfit] at r;obtain⟨h5,s5⟩:=Q0j h3 hE4 h4 hn4;refine⟨_,_,rfl,by omega,by omega,rfl,?_⟩;rw[zztnc,Q02,Q02];refine Q1J (b:=ab) (n:=21) (i:=0+5+m) (vs:=advs s z (a.grant m kn)) (C:=tnX s tb y4 (T0 (rooN s.nC s.C (tkL a.hs kn)) m (a.se m) q (tkL a.hs kn))*(adBk s z (a.grant m kn)*rowT (.slice p kn c) (tkL a.hs kn))) h5 (by rw[Q86];ac_rfl) (by omega) fun w6 F6 h6 s6=>?_;have en:=Qfj (s:=s) (ab:=ab) (z:=z) (a:=a.grant m kn) ⟨m,hm⟩ ht tb y4 (T0 (rooN s.nC s.C (tkL a.hs kn)) m (a.se m) q (tkL a.hs kn));have h6:(rowT (.slice p kn c) (tkL a.hs kn)*adX s ab {z with tp:=updF z.tp m tb,ty:=updF z.ty m y4} {a.grant m kn with tn:=updF a.tn m (some (T0 (rooN s.nC s.C (tkL a.hs kn)) m (a.se m) q (tkL a.hs kn)))}).P w6 F6:=re h6 (by
    have en:adX s ab {z with tp:=updF z.tp m tb,ty:=updF z.ty m y4} {a.grant m kn with tn:=updF a.tn m (some (T0 (rooN s.nC s.C (tkL a.hs kn)) m (a.se m) q (tkL a.hs kn)))}=_:=en;rw[en];ac_rfl)
   obtain⟨F7,h7,sub⟩:=Q07 h6;exact r _ w6 F7 h7 (((st3.trans s5).trans s6).sub sub)
def desM(s:Sv)(a:Ad)(i:Int):Ar':=
 if ¬(0<=i /\ i<8)then⟨12,a⟩
 else match a.tn i.toNat with
  | none=>⟨6,a⟩
  | some t=>⟨0,{A:=drpA s a.A t,hs:=gvH a.hs (a.ws i.toNat),ws:=updW a.ws i.toNat [],tn:=updF a.tn i.toNat none,se:=updF a.se i.toNat t.nx}⟩
theorem Qdy(z:Al)(a:Ad){i:Nat}(hi:i<8)(x:Int):fO 21 119 (updV (advs s z a) (0+13+i) (.int .i64 x))=adO s z {a with se:=updF a.se i x}:=by
 refine Q0V fun j hj=>?_;unfold updV advs;by_cases e:j=0+13+i
 ·subst e;rw[if_pos rfl,if_neg (by omega),if_neg (by omega),if_neg (by omega),if_neg (by omega),if_neg (by omega),if_neg (by omega),show 0+13+i-13=i by omega];show _=Value.int .i64 (updF a.se i x i);rw[Q0g]
 ·rw[if_neg e];split;rfl;split;rfl;split;rfl;split;rfl;split;rfl;split
  ·rfl
  ·show Value.int .i64 (a.se (j-13))=Value.int .i64 (updF a.se i x (j-13));rw[Q0n (by omega)]
theorem Q8y(g:AdOk s a)(hts:a.A.ts.length<60000000000)(i:Int):Tri 40 #[zP ab,.int .i64 i] (adX s ab z a)
  (fun v=>any fun z':Al=>only (v=.int .i64 (desM s a i).E) (adX s ab z' (desM s a i).a)):=by
 intro w F R h r;have r:∀z' w' F',(adX s ab z' (desM s a i).a).P w' F'->Step F w F' w'->R (.int .i64 (desM s a i).E) w':=fun z' w' F' p st=>r _ w' F' ⟨z',rfl,p⟩ st;unfold desM at r;have h0:(adX s ab z a*emp).P w F:=by rw[Q0c];exact h
 constructor;refine vc99.ok ?_;unfold vc99;refine aready i ⟨_,rfl,?_⟩;by_cases hi:0<=i /\ i<8
 case neg=>
  rw[if_neg hi];rw[if_pos hi] at r;exact Q03 rfl (r z w F h (Step.refl _ _))
 rw[if_pos hi];rw[if_neg (not_not_intro hi)] at r;obtain⟨m,rfl⟩:=zzeoz hi.1;have hm:m<8:=by omega
 rw[zztnc] at r;refine Q00 rfl ⟨by omega,by omega,_,by rw[zztnc];exact Q5b h0 rfl hm,?_⟩;cases ht:a.tn m with
 | none=>
  rw[ht] at r;exact Q03 rfl (r z w F h (Step.refl _ _))
 | some t=>
  rw[ht] at r;dsimp only at r;refine Q00 rfl ?_;rintro w1 rfl;have hE1:=Ext.drew w;have h1:=Thing.grow h0 hE1;have gt:=g.tn m t hm ht;have e1:adX s ab z a*emp=tnX s (z.tp m) (z.ty m) t*(axT s a.A*adTn s ab z a ⟨m,hm⟩):=by rw[Q0c,Q1K ⟨m,hm⟩ ht];ac_rfl
  refine QaX h1 e1 ⟨_,rfl,by omega,by omega,rfl,?_⟩;rw[zztnc,Q02,Q02];refine Q1J (b:=ab) (n:=21) (i:=0+13+m) (vs:=advs s z a) (C:=adBk s z a) h1 (by rw[Q0c,Q86]) (by omega) fun w2 F2 h2 s2=>?_;rw[Qdy z a hm] at h2;have h2:(adX s ab z {a with se:=updF a.se m t.nx}).P w2 F2:=h2;refine(Qf3 (s:=s) (tb:=z.tp m) (y:=z.ty m) (t:=t) (A:=a.A) gt.h gt.q (by omega)).use (C:=adTn s ab z {a with se:=updF a.se m t.nx} ⟨m,hm⟩) h2 (by rw[Q1K (a:={a with se:=updF a.se m t.nx}) ⟨m,hm⟩ ht]) fun v w3 F3 h3 s3=>?_;obtain⟨y',rfl,h3b⟩:=Q0l h3;have h3:(adX s ab {z with ty:=updF z.ty m y'} {a with se:=updF a.se m t.nx,A:=drpA s a.A t,tn:=updF a.tn m (some (drpM s a.A t))}).P w3 F3:=re h3b (by
   have:=Qbe (s:=s) (ab:=ab) (z:=z) (a:={a with se:=updF a.se m t.nx}) ⟨m,hm⟩ ht y' (drpA s a.A t) (drpM s a.A t);exact this.symm)
  have h3:(adX s ab {z with ty:=updF z.ty m y'} {a with se:=updF a.se m t.nx,A:=drpA s a.A t,tn:=updF a.tn m (some (drpM s a.A t))}*emp).P w3 F3:=by rw[Q0c];exact h3
  generalize eZ:({z with ty:=updF z.ty m y'}:Al)=z3 at h3;have hws:=g.ws m hm;refine⟨rfl,_,Q85 h3 rfl,(Qcn (pb:=z3.pb) (hs:=a.hs) (ws:=a.ws) hm (by omega)).use (C:=tabT s.o*adPo s ab z3 {a with se:=updF a.se m t.nx,A:=drpA s a.A t,tn:=updF a.tn m (some (drpM s a.A t))}) h3 (by rw[Q0c,Q2I];ac_rfl) fun v w4 F4 h4 s4=>?_⟩;obtain⟨⟨p,c⟩,rfl,h4b⟩:=Q0l h4;dsimp only;have h4:(adX s ab z3 {A:=drpA s a.A t,hs:=gvH a.hs (a.ws m),ws:=updW a.ws m [],tn:=updF a.tn m (some (drpM s a.A t)),se:=updF a.se m t.nx}).P w4 F4:=re h4b (by
   have:=Q8K (s:=s) (ab:=ab) (z:=z3) (a:={a with se:=updF a.se m t.nx,A:=drpA s a.A t,tn:=updF a.tn m (some (drpM s a.A t))}) (gvH a.hs (a.ws m)) (updW a.ws m []);show _=adX s ab z3 {({a with se:=updF a.se m t.nx,A:=drpA s a.A t,tn:=updF a.tn m (some (drpM s a.A t))}:Ad)with hs:=gvH a.hs (a.ws m),ws:=updW a.ws m []};rw[this];ac_rfl)
  generalize eA:({A:=drpA s a.A t,hs:=gvH a.hs (a.ws m),ws:=updW a.ws m [],tn:=updF a.tn m (some (drpM s a.A t)),se:=updF a.se m t.nx}:Ad)=a4 at h4;refine⟨_,_,_,_,rfl,by omega,by omega,?_⟩;rw[Q02,Q02];refine Q1J (b:=ab) (n:=21) (i:=0+5+m) (vs:=advs s z3 a4) (C:=adBk s z3 a4) h4 (by rw[Q86]) (by omega) fun w5 F5 h5 s5=>?_;have htn:a4.tn m=some (drpM s a.A t):=by rw[<-eA];exact Q0g _ _ _
  have h5:=re h5 (Qdw (s:=s) (ab:=ab) (z:=z3) (a:=a4) ⟨m,hm⟩ htn);obtain⟨F6,h6,sub⟩:=Q07 h5;have e5:({a4 with tn:=updF a4.tn m none}:Ad)={A:=drpA s a.A t,hs:=gvH a.hs (a.ws m),ws:=updW a.ws m [],tn:=updF a.tn m none,se:=updF a.se m t.nx}:=by
   rw[<-eA];have:updF (updF a.tn m (some (drpM s a.A t))) m none=updF a.tn m none:=by
    funext j;unfold updF;split <;> rfl
   rw[this]
  refine r z3 w5 F6 ?_ ((((((Step.ext hE1).trans s2).trans s3).trans s4).trans s5).sub sub);rw[<-e5];exact h6
end
end
section
open Go.RowKit Go.Maps Thing
theorem Qex{w:World}{F:Nat->Prop}{p:Option Addr}{c k:Nat}{l:List Int}(h:(rowT (.slice p l.length c) l).P w F)(hk:1<=k)(hl:k<=l.length):(rowT (.slice (subA p 0 c 1) (k-0) (c-0)) (l.take k)).P w F:=by
 obtain⟨h,rfl⟩:=h;have hlen:(l.take k).length=k:=by rw[zzlnt];omega
 rcases h.2 with⟨hv,hn⟩ | ⟨g,cap,cur,hv,hbb,hg,hnc,hcm,hcs,htake⟩
 ·omega
 ·cases hv;have e1:subA (some (⟨g,0,none⟩:Addr)) 0 c 1=some ⟨g,0,none⟩:=by
   unfold subA;rw[if_neg (by omega)];rfl
  rw[e1,Nat.sub_zero,Nat.sub_zero];refine⟨⟨Q2V Q0G _,.inr ⟨g,c,cur,by rw[hlen],hbb,hg,by rw[hlen];omega,hcm,hcs,?_⟩⟩,rfl⟩;rw[hlen];have e2:cur.toList.take (k*1)=(cur.toList.take (l.length*1)).take k:=by rw[List.take_take];congr 1;omega
  rw[e2,htake];rw[Q0H,Q0H,List.map_take]
noncomputable def resM(s:Sv)(a:Ad)(i k q:Int):Ar':=
 if ¬(0<=i /\ i<8)then⟨12,a⟩
 else match a.tn i.toNat with
  | none=>⟨6,a⟩
  | some t=>if sizE s k q ≠ 0 then⟨2,a⟩
   else if fitE t q (k*s.nC) ≠ 0 then⟨fitE t q (k*s.nC),a⟩
   else if a.hs.count false<k.toNat-(a.ws i.toNat).length then⟨9,a⟩
   else⟨(rszR s a.A t q (((a.grant i.toNat (k.toNat-(a.ws i.toNat).length)).ws i.toNat).take k.toNat)).E,
    {A:=(rszR s a.A t q (((a.grant i.toNat (k.toNat-(a.ws i.toNat).length)).ws i.toNat).take k.toNat)).A,
     hs:=gvH (a.grant i.toNat (k.toNat-(a.ws i.toNat).length)).hs (((a.grant i.toNat (k.toNat-(a.ws i.toNat).length)).ws i.toNat).drop k.toNat),
     ws:=updW (a.grant i.toNat (k.toNat-(a.ws i.toNat).length)).ws i.toNat (((a.grant i.toNat (k.toNat-(a.ws i.toNat).length)).ws i.toNat).take k.toNat),
     tn:=updF a.tn i.toNat (some (rszR s a.A t q (((a.grant i.toNat (k.toNat-(a.ws i.toNat).length)).ws i.toNat).take k.toNat)).t),se:=a.se}⟩
section
variable{s:Sv}{ab:Nat}{z:Al}{a:Ad}{w:World}{F:Nat->Prop}{X C:Thing}{R:VW}
theorem Qaz(g:AdOk s a)(hts:a.A.ts.length<60000000000)(i k q:Int):Tri 39 #[zP ab,.int .i64 i,.int .i64 k,.int .i64 q] (adX s ab z a)
  (fun v=>any fun z':Al=>only (v=.int .i64 (resM s a i k q).E) (adX s ab z' (resM s a i k q).a)):=by
 intro w F R h r;have r:∀z' w' F',(adX s ab z' (resM s a i k q).a).P w' F'->Step F w F' w'->R (.int .i64 (resM s a i k q).E) w':=fun z' w' F' p st=>r _ w' F' ⟨z',rfl,p⟩ st;unfold resM at r;have h0:(adX s ab z a*emp).P w F:=by rw[Q0c];exact h
 constructor;refine vc126.ok ?_;unfold vc126;refine aready i ⟨_,rfl,?_⟩;by_cases hi:0<=i /\ i<8
 case neg=>
  rw[if_neg hi];rw[if_pos hi] at r;exact Q03 rfl (r z w F h (Step.refl _ _))
 rw[if_pos hi];rw[if_neg (not_not_intro hi)] at r;obtain⟨m,rfl⟩:=zzeoz hi.1;have hm:m<8:=by omega
 rw[zztnc] at r;refine Q00 rfl ⟨by omega,by omega,_,by rw[zztnc];exact Q5b h0 rfl hm,?_⟩;cases ht:a.tn m with
 | none=>
  rw[ht] at r;exact Q03 rfl (r z w F h (Step.refl _ _))
 | some t=>
  rw[ht] at r;dsimp only at r;have gt:=g.tn m t hm ht;refine Q00 rfl (asize h0 rfl k q ⟨_,rfl,Q05 (fun y=>?_) (fun y=>?_)⟩)
  ·have y:sizE s k q ≠ 0:=by simpa using y
   rw[if_pos y] at r;have e2:sizE s k q=2:=by unfold sizE at y ⊢;split <;> simp_all
   rw[e2];exact r z w F h (Step.refl _ _)
  have y:sizE s k q=0:=by simpa using y
  rw[if_neg (not_not_intro y)] at r;obtain⟨y1,y2,y3⟩:=Q5I y;have hc32:=g.c;have hn:=g.nc;have hws:=g.ws m hm;obtain⟨kn,rfl⟩:=zzeoz (show 0<=k by omega);rw[zztnc] at r;rintro w1 rfl;have hE1:=Ext.drew w;have h1:=Thing.grow h0 hE1;obtain⟨Fc,hc,_⟩:=Q0f (A:=coT s.mb s.nC s.C a.A.cs) (Y:=blk ab (adO s z a)*(tabT s.o*arT s.ap a.A.bs a.A.ts*(poT z.pb a.hs a.ws*fam (tnF s z.tp z.ty a.tn)))*emp) h1 (by unfold adX axT;ac_rfl);have hkn:kn*s.nC<=32*4096:=Nat.mul_le_mul (by omega) hn;have hct1:=Q5b h1 rfl hm;rw[ht] at hct1;refine⟨by omega,by omega,rfl,_,by rw[zztnc];exact hct1,_,Qdv h1 rfl,Q6C hc fun w2 hE2=>⟨_,rfl,?_⟩⟩;have h2:=Thing.grow h1 hE2;have hE02:=hE1.trans hE2;have hct2:=Q5b h2 rfl hm;rw[ht] at hct2;rw[<-Int.natCast_mul,Q04 (by omega) (by omega)];rw[<-Int.natCast_mul] at r;have e1:adX s ab z a*emp=tnX s (z.tp m) (z.ty m) t*(axT s a.A*adTn s ab z a ⟨m,hm⟩):=by rw[Q0c,Q1K ⟨m,hm⟩ ht];ac_rfl
  refine⟨⟨_,by rw[zztnc];exact hct2,rfl⟩,⟨by omega,by omega,rfl,rfl⟩,?_⟩;refine QaT h2 e1 gt.q q ((kn*s.nC:Nat):Int) ⟨_,rfl,Q05 (fun y=>?_) (fun y=>?_)⟩
  ·have y:fitE t q ((kn*s.nC:Nat):Int) ≠ 0:=by simpa using y
   rw[if_pos y] at r;exact r z w2 F (Thing.grow h hE02) (Step.ext hE02)
  have yf:fitE t q ((kn*s.nC:Nat):Int)=0:=by simpa using y
  rw[if_neg (not_not_intro yf)] at r;obtain⟨Fp,hp,_⟩:=Q0f (A:=poT z.pb a.hs a.ws) (Y:=tabT s.o*adPo s ab z a) h2 (by rw[Q0c,Q2I];ac_rfl);refine⟨_,Q85 h2 rfl,Q43 hp hm (by omega) fun pw cw w3 hr3 hE3 hn3=>⟨_,_,_,rfl,?_⟩⟩;have h3:=Thing.grow h2 hE3;have hE03:=hE02.trans hE3;refine⟨_,Q85 h3 rfl,_,w3,run_max_int2 w3 _ _ _ _ _ _,?_⟩;rw[Q04 (n:=(kn:Int)-((a.ws m).length:Int)) (by omega) (by omega)];have emax:(if (kn:Int)-((a.ws m).length:Int)>0 then(kn:Int)-((a.ws m).length:Int)else 0)=((kn-(a.ws m).length:Nat):Int):=by split <;> omega
  rw[emax];by_cases hcnt:a.hs.count false<kn-(a.ws m).length
  ·rw[if_pos hcnt] at r;obtain⟨Fp,hp,_⟩:=Q0f (A:=poT z.pb a.hs a.ws) (Y:=tabT s.o*adPo s ab z a) h3 (by rw[Q0c,Q2I];ac_rfl);exact Q3F hp hm (by omega) ⟨_,_,_,_,rfl,Q03 rfl (r z w3 F (Thing.grow h hE03) (Step.ext hE03))⟩
  rw[if_neg hcnt] at r;generalize ed:kn-(a.ws m).length=d at r hcnt ⊢;refine(Q5M (o:=s.o) (pb:=z.pb) (hs:=a.hs) (ws:=a.ws) hm (k:=d) (by omega) (by omega) (by omega)).use (C:=adPo s ab z a) h3 (by rw[Q0c,Q2I]) fun v w4 F4 h4 s4=>?_;obtain⟨⟨p,c⟩,rfl,h4b⟩:=Q0l h4;dsimp only at h4b ⊢;have h4:(rowT (.slice p d c) (tkL a.hs d)*adX s ab z (a.grant m d)).P w4 F4:=re h4b (by unfold Ad.grant;rw[Q8K];ac_rfl);obtain⟨F4',h4,sub4⟩:=Q07 h4;have st4:Step F w F4' w4:=((Step.ext hE03).trans s4).sub sub4;refine⟨_,_,_,_,rfl,Q00 rfl ?_⟩;rintro w5 rfl;have hE5:=Ext.drew w4;have h5:(adX s ab z (a.grant m d)*emp).P w4.drew F4':=by rw[Q0c];exact Thing.grow h4 hE5
  have eW:(a.grant m d).ws m=srtI (a.ws m++tkL a.hs d):=if_pos rfl;have hWl:((a.grant m d).ws m).length=(a.ws m).length+d:=by rw[eW,Q0Y,zzlna,Q1Y]
  have hct5:=Q5b h5 rfl hm;rw[show(a.grant m d).tn m=some t from ht] at hct5;obtain⟨Fp5,hp5,_⟩:=Q0f (A:=poT z.pb (a.grant m d).hs (a.grant m d).ws) (Y:=tabT s.o*adPo s ab z (a.grant m d)) h5 (by rw[Q0c,Q2I];ac_rfl);refine⟨by omega,by omega,rfl,_,by rw[zztnc];exact hct5,_,Q85 h5 rfl,Q43 hp5 hm (by omega) fun p6 c6 w6 hr6 hE6 hn6=>⟨_,_,_,rfl,?_⟩⟩;obtain⟨h6,s6⟩:=Q0j (B:=rowT (.slice p6 ((a.grant m d).ws m).length c6) ((a.grant m d).ws m)) h5 hE6 ⟨hr6,rfl⟩ hn6;have hcap:=ORow.cap hr6;have hct6:=Q5b (C:=rowT (.slice p6 ((a.grant m d).ws m).length c6) ((a.grant m d).ws m)) h6 (by rw[Q0c];ac_rfl) hm;rw[show(a.grant m d).tn m=some t from ht] at hct6;refine⟨⟨_,by rw[zztnc];exact hct6,rfl⟩,⟨by omega,by omega,rfl,rfl⟩,by omega,by omega,by omega,rfl,?_⟩;rw[zztnc];obtain⟨Fa,Fb,hrow,hrest,hd,hF⟩:=h6;have hpre:=Qex hrow (k:=kn) (by omega) (by omega);generalize eW1:(a.grant m d).ws m=W at *
  have h7:(rowT (.slice (subA p6 0 c6 1) (kn-0) (c6-0)) (W.take kn)*(adX s ab z (a.grant m d)*emp)).P w6 (fun j=>Fa j \/ Fb j):=⟨Fa,Fb,hpre,hrest,hd,rfl⟩;rw[<-hF] at h7;have hWk:(W.take kn).length=kn:=by rw[zzlnt];omega
  have key:=QaW (s:=s) (tb:=z.tp m) (y:=z.ty m) (t:=t) (A:=a.A) gt (by omega) (p:=subA p6 0 c6 1) (c:=c6-0) (win:=W.take kn) (by omega) q;rw[hWk] at key;rw[Nat.sub_zero] at h7 ⊢;refine key.use (C:=adTn s ab z (a.grant m d) ⟨m,hm⟩) h7 (by rw[Q0c,Q1K (a:=a.grant m d) ⟨m,hm⟩ ht];show _*(axT s a.A*_*_)=_;ac_rfl) fun v w8 F8 h8 s8=>?_;obtain⟨y',rfl,h8b⟩:=Q0l h8;generalize rszR s a.A t q (W.take kn)=Z at r h8b ⊢;have h8:(rowT (.slice (subA p6 0 c6 1) kn (c6-0)) (W.take kn)*(adX s ab {z with ty:=updF z.ty m y'} {a.grant m d with A:=Z.A,tn:=updF a.tn m (some Z.t)}*emp)).P w8 F8:=re h8b (by
   have:=Qbe (s:=s) (ab:=ab) (z:=z) (a:=a.grant m d) ⟨m,hm⟩ ht y' Z.A Z.t;have this:adX s ab {z with ty:=updF z.ty m y'} {a.grant m d with A:=Z.A,tn:=updF a.tn m (some Z.t)}=_:=this;rw[this,Q0c];ac_rfl)
  obtain⟨F9,h9,sub9⟩:=Q07 h8;generalize eZ:({z with ty:=updF z.ty m y'}:Al)=z9 at h9;refine⟨_,rfl,_,Q85 h9 rfl,?_⟩;refine(Q42 (pb:=z9.pb) (hs:=(a.grant m d).hs) (ws:=(a.grant m d).ws) hm (k:=kn) (by rw[eW1];omega) (by rw[eW1];omega)).use (C:=tabT s.o*adPo s ab z9 {a.grant m d with A:=Z.A,tn:=updF a.tn m (some Z.t)}) h9 (by rw[Q0c,Q2I];ac_rfl) fun v w10 F10 h10 s10=>?_;obtain⟨⟨p10,c10⟩,rfl,h10b⟩:=Q0l h10;rw[eW1] at h10b;refine⟨_,_,_,_,rfl,r z9 w10 F10 (re h10b ?_) ((((((st4.trans (Step.ext hE5)).trans s6).trans s8).sub sub9).trans s10))⟩;have:=Q8K (s:=s) (ab:=ab) (z:=z9) (a:={a.grant m d with A:=Z.A,tn:=updF a.tn m (some Z.t)}) (gvH (a.grant m d).hs (W.drop kn)) (updW (a.grant m d).ws m (W.take kn));have this:adX s ab z9 {A:=Z.A,hs:=gvH (a.grant m d).hs (W.drop kn),ws:=updW (a.grant m d).ws m (W.take kn),tn:=updF a.tn m (some Z.t),se:=a.se}=_:=this;rw[this];ac_rfl
end
end
section
open Go.RowKit Go.Maps Thing
def A0(s:Sv):Ad:=⟨⟨List.replicate s.n 0,[],List.replicate (s.nC*s.C) false⟩,List.replicate s.C false,fun _=>[],fun _=>none,fun _=>1⟩
structure SvOk (s:Sv) (P0 C0:Int):Prop where
 p:P0=((s.nC*s.C:Nat):Int)
 c:C0=(s.C:Int)
 n:s.n=s.nC*s.C*512
 n1:1<=s.nC
 c1:1<=s.C
 c32:s.C<=32
 p4:s.nC*s.C<=4096
def sevs(vs:Nat->Value)(j:Nat):Nat->Value:=fun i=>if 13<=i /\ i<13+j then .int .i64 1 else vs i
theorem Qam(vs:Nat->Value)(j:Nat):updV (sevs vs j) (0+13+j) (.int .i64 1)=sevs vs (j+1):=by
 funext i;unfold updV sevs;by_cases e:i=0+13+j
 ·rw[if_pos e,if_pos (by omega)]
 ·rw[if_neg e];by_cases q:13<=i /\ i<13+j
  ·rw[if_pos q,if_pos (by omega)]
  ·rw[if_neg q,if_neg (by omega)]
section
variable{w:World}{F:Nat->Prop}{R:VW}{o:Obj}
theorem QeM(h:(tabT o).P w F)(P0 C0:Int)(r0:¬Cl.CfgOk P0 C0->∀w',Ext w w'->R (.tuple #[.pointer none,.int .i64 12]) w')
  (r1:∀s ab z w' F',Cl.CfgOk P0 C0->s.o=o->SvOk s P0 C0->(adX s ab z (A0 s)).P w' F'->Step F w F' w'->R (.tuple #[zP ab,.int .i64 0]) w') :
  CS 32 #[.agg #[.int .i64 P0,.int .i64 C0]] w R:=by
 constructor;refine vc124.ok ?_;unfold vc124;refine Q0m h fun n0 w1 F1 h1 s1 _=>?_;have hb1:=Q0b h1 rfl;have hE1:Ext w w1:=by
  have:=s1.1;exact⟨this.os,this.tape,this.output,this.size,fun k hk _=>by
   rcases Classical.em (F k)with hF | hF
   ·obtain⟨Fa,Fb,⟨_,ha⟩,hb,d,e⟩:=h1;have h2:w.heap[0]? = some o:=h.2.1;have e0:k=0:=by have:=h.2.2;rw[this] at hF;exact hF
    subst e0;rw[hb.2.1,h2]
   ·exact this.block k hk hF⟩
 refine⟨_,_,Q08 (vs:=[.int .i64 P0,.int .i64 C0]) hb1,Qgi P0 C0 (fun hno w2 hE2=>⟨_,_,rfl,Q03 rfl (r0 hno w2 (hE1.trans hE2))⟩) fun mb n c Fc w2 hok hP hC hc hE2 hn2=>⟨_,_,rfl,Q00 rfl ?_⟩⟩;subst hP hC;obtain⟨q1,q2,q3,q4,q5⟩:=hok;obtain⟨h2,s2⟩:=Q0j h1 hE2 hc hn2;have hb2:=Q0b (b:=n0) (o:=.cells #[.int .i64 ((n*c:Nat):Int),.int .i64 (c:Int)] 23 (0,0)) (C:=coT mb n c (List.replicate (n*c) false)*tabT o) h2 (by ac_rfl);refine⟨_,_,Q08 (vs:=[.int .i64 ((n*c:Nat):Int),.int .i64 (c:Int)]) hb2,Q0m h2 fun ab w3 F3 h3 s3 _=>?_⟩
 let vs0:Nat->Value:=fun i=>if i=0 then .int .i64 ((n*c:Nat):Int)else if i=1 then .int .i64 (c:Int)else if i=2 then .pointer none else if i=3 then(zP mb)else if i<13 then .pointer none else .int .i64 0
 have eO:(Obj.cells #[.int .i64 ((n*c:Nat):Int),.int .i64 (c:Int),.pointer none,zP mb,.pointer none,.pointer none,.pointer none,.pointer none,.pointer none,.pointer none,.pointer none,.pointer none,.pointer none,.int .i64 0,.int .i64 0,.int .i64 0,.int .i64 0,.int .i64 0,.int .i64 0,.int .i64 0,.int .i64 0] 119 (0,0))=fO 21 119 vs0:=by kernel_rfl
 rw[eO] at h3;have hb3:=Q0b (b:=n0) (o:=.cells #[.int .i64 ((n*c:Nat):Int),.int .i64 (c:Int)] 23 (0,0)) (C:=blk ab (fO 21 119 vs0)*(coT mb n c (List.replicate (n*c) false)*tabT o)) h3 (by ac_rfl);refine⟨_,by rw[Q02];exact Q01 hb3 rfl,.of (new_any _ w3) ?_⟩;rw[Q04 (by omega) (by omega)];rintro v w4 (⟨hno,_⟩ | ⟨_,_,ap,Fa,rfl,ha,hE4,hn4⟩)
 ·exact absurd ⟨by omega,by omega⟩ hno
 have ebs:(((n*c:Nat):Int)*512).toNat=n*c*512:=by omega
 rw[ebs] at ha;obtain⟨h4,s4⟩:=Q0j (B:=arT ap (List.replicate (n*c*512) 0) []) h3 hE4 ha hn4;refine⟨_,_,rfl,?_⟩;rw[Q02];refine Q1J (b:=ab) (n:=21) (i:=0+2) (vs:=vs0) (C:=arT ap (List.replicate (n*c*512) 0) []*(coT mb n c (List.replicate (n*c) false)*(blk n0 (.cells #[.int .i64 ((n*c:Nat):Int),.int .i64 (c:Int)] 23 (0,0))*tabT o))) h4 (by ac_rfl) (by omega) fun w5 F5 h5 s5=>?_;have hb5:=Q0b (b:=n0) (o:=.cells #[.int .i64 ((n*c:Nat):Int),.int .i64 (c:Int)] 23 (0,0)) (C:=blk ab (fO 21 119 (updV vs0 (0+2) ((zP ap))))*(arT ap (List.replicate (n*c*512) 0) []*(coT mb n c (List.replicate (n*c) false)*tabT o))) h5 (by ac_rfl);refine⟨_,by rw[Q02];exact Q01 hb5 rfl,QeY (n:=c) (by omega) (by omega) fun pb w6 F6 h6 hE6 hn6=>⟨_,_,rfl,?_⟩⟩;obtain⟨h7,s7⟩:=Q0j h5 hE6 h6 hn6;rw[Q02];refine Q1J (b:=ab) (n:=21) (i:=0+4) (vs:=updV vs0 (0+2) ((zP ap))) (C:=poT pb (List.replicate c false) (fun _=>[])*(arT ap (List.replicate (n*c*512) 0) []*(coT mb n c (List.replicate (n*c) false)*(blk n0 (.cells #[.int .i64 ((n*c:Nat):Int),.int .i64 (c:Int)] 23 (0,0))*tabT o)))) h7 (by ac_rfl) (by omega) fun w8 F8 h8 s8=>?_;generalize eV:updV (updV vs0 (0+2) ((zP ap))) (0+4) ((zP pb))=vs1 at h8;have h8:(blk n0 (.cells #[.int .i64 ((n*c:Nat):Int),.int .i64 (c:Int)] 23 (0,0))*(blk ab (fO 21 119 (sevs vs1 0))*(poT pb (List.replicate c false) (fun _=>[])*(arT ap (List.replicate (n*c*512) 0) []*(coT mb n c (List.replicate (n*c) false)*tabT o))))).P w8 F8:=re h8 (by
  have:sevs vs1 0=vs1:=funext fun i=>if_neg (by omega);rw[this];ac_rfl)
 obtain⟨F9,h9,sub9⟩:=Q07 h8;have st9:Step F w F9 w8:=((((((s1.trans s2).trans s3).trans s4).trans s5).trans s7).trans s8).sub sub9;refine⟨fun f i w'=>∃j:Nat,i=(j:Int) /\ f+j=8 /\ ∃F',(blk ab (fO 21 119 (sevs vs1 j))*(poT pb (List.replicate c false) (fun _=>[])*(arT ap (List.replicate (n*c*512) 0) []*(coT mb n c (List.replicate (n*c) false)*tabT o)))).P w' F' /\ Step F w F' w',⟨8,0,rfl,rfl,F9,h9,st9⟩,?_⟩;rintro f jv i w10 ⟨j,rfl,hf,F10,h10,s10⟩;refine ifD (fun hj=>⟨by omega,by omega,?_⟩) (fun hj=>?_)
 ·rw[zztnc,Q02,Q02];refine Q1J (b:=ab) (n:=21) (i:=0+13+j) (vs:=sevs vs1 j) (C:=poT pb (List.replicate c false) (fun _=>[])*(arT ap (List.replicate (n*c*512) 0) []*(coT mb n c (List.replicate (n*c) false)*tabT o))) h10 rfl (by omega) fun w11 F11 h11 s11=>?_;rw[Qam] at h11;exact⟨f-1,by omega,j+1,by rw[Q04 (by omega) (by omega)];omega,by omega,F11,h11,s10.trans s11⟩
 ·have ej:j=8:=by omega
  subst ej
  let s:Sv:=⟨o,ap,mb,n,c,n*c*512⟩
  let z:Al:=⟨pb,fun _=>0,fun _=>⟨0,⟨.pointer none,0,fun _=>0,fun _=>0,0,fun _=>0⟩,0,0,0⟩⟩
  have hn1:1<=n:=by
   rcases Nat.eq_zero_or_pos n with e | e
   ·subst e;simp at q3
   ·exact e
  refine r1 s ab z w10 F10 ⟨q1,q2,q3,q4,q5⟩ rfl ⟨rfl,rfl,rfl,hn1,by show 1<=c;omega,by show c<=32;omega,by show n*c<=4096;omega⟩ (re h10 ?_) s10;have eo:fO 21 119 (sevs vs1 8)=adO s z (A0 s):=by
   refine Q0V fun i hi=>?_;rw[<-eV];rcases(show i=0 \/ i=1 \/ i=2 \/ i=3 \/ i=4 \/ (5<=i /\ i<13) \/ (13<=i /\ i<21) by omega)with rfl | rfl | rfl | rfl | rfl | q | q
   ·rfl
   ·rfl
   ·rfl
   ·rfl
   ·rfl
   ·unfold sevs updV advs;rw[if_neg (by omega),if_neg (by omega),if_neg (by omega),if_neg (by omega),if_neg (by omega),if_neg (by omega),if_neg (by omega),if_neg (by omega),if_pos (by omega)];show vs0 i=.pointer none;show(if i=0 then _ else if i=1 then _ else if i=2 then _ else if i=3 then _ else if i<13 then _ else _:Value)=_;rw[if_neg (by omega),if_neg (by omega),if_neg (by omega),if_neg (by omega),if_pos (by omega)]
   ·unfold sevs advs;rw[if_pos (by omega),if_neg (by omega),if_neg (by omega),if_neg (by omega),if_neg (by omega),if_neg (by omega),if_neg (by omega)];rfl
  rw[eo];have ef:fam (tnF s z.tp z.ty (A0 s).tn)=emp:=Q3j;unfold adX axT;rw[ef,Q0c];show _=blk ab (adO s z (A0 s))*(tabT o*(arT ap (List.replicate (n*c*512) 0) []*coT mb n c (List.replicate (n*c) false))*poT pb (List.replicate c false) (fun _=>[]));ac_rfl
end
end
section
open Go.RowKit Go.Maps Thing
structure TSt (s:Sv) (win:List Int) (A:Ax) (T:Tb) (A':Ax) (T':Tb):Prop where
 bl:A'.bs.length=A.bs.length
 cl:A'.cs.length=A.cs.length
 cs:∀p,¬(Cl.inW s.C win p=true /\ (inPg T p \/ A.cs[p]? = some false))->A'.cs[p]? = A.cs[p]?
 new:∀p,inPg T' p->inPg T p \/ A.cs[p]? = some false
 rest:∀p,A'.cs[p]? = some true->inPg T' p \/ (A.cs[p]? = some true /\ ¬inPg T p)
section
variable{s:Sv}{A A' A'':Ax}{T T' T'':Tb}{win:List Int}{t t' t'':Tn}{H H':Hp}
theorem TSt.same(h:A'.bs.length=A.bs.length)(hc:A'.cs=A.cs):TSt s win A T A' T:=
 ⟨h,by rw[hc],fun p _=>by rw[hc],fun p q=>.inl q,fun p q=>Classical.byCases (fun z:inPg T p=>.inl z) (fun z=>.inr ⟨by rw[<-hc];exact q,z⟩)⟩
theorem TSt.trans(h:TSt s win A T A' T')(g:TSt s win A' T' A'' T''):TSt s win A T A'' T'':=by
 have key:∀p,Cl.inW s.C win p=true->(inPg T' p \/ A'.cs[p]? = some false)->inPg T p \/ A.cs[p]? = some false:=fun p w q=>by
  rcases q with q | q
  ·exact h.new p q
  ·by_cases z:inPg T p \/ A.cs[p]? = some false
   ·exact z
   ·rw[h.cs p (fun y=>z y.2)] at q;exact .inr q
 refine⟨g.bl.trans h.bl,g.cl.trans h.cl,fun p hp=>(g.cs p fun q=>hp ⟨q.1,key p q.1 q.2⟩).trans (h.cs p hp),fun p q=>?_,fun p q=>?_⟩
 ·rcases g.new p q with z | z
  ·exact h.new p z
  ·by_cases y:Cl.inW s.C win p=true /\ (inPg T p \/ A.cs[p]? = some false)
   ·exact y.2
   ·rw[h.cs p y] at z;exact .inr z
 ·rcases g.rest p q with z | ⟨z1,z2⟩
  ·exact .inl z
  ·rcases h.rest p z1 with y | y
   ·exact absurd y z2
   ·exact .inr y
theorem Q3X{A:Ax}{H:Hp}(g:HOk s A H){p:Nat}(h:inPg H.T p):Cl.inW s.C H.win p=true:=by
 obtain⟨y,hy,e⟩:=h;have:=(g.own y hy).2
 rwa [e,zztnc] at this
theorem HSt.tst(g:HOk s A H)(h:HSt s A H A' H')(hw:H'.win=H.win):TSt s H.win A H.T A' H'.T:=by
 refine⟨h.fr.bl,h.fr.cl,fun p hp=>h.fr.cs p fun q=>hp ?_,h.new,h.rest⟩;rcases q with q | q
 ·exact⟨Q3X g q,.inl q⟩
 ·exact⟨by rw[<-hw];exact Q3X h.ok q,h.new p q⟩
structure TGo (s:Sv) (A:Ax) (t:Tn) (A':Ax) (t':Tn):Prop where
 ok:TnOk s A' t'
 st:TSt s t.H.win A t.H.T A' t'.H.T
 win:t'.H.win=t.H.win
 id:t'.id=t.id
 lp:t'.q.lp=t.q.lp
theorem TGo.refl(g:TnOk s A t):TGo s A t A t:=⟨g,TSt.same rfl rfl,rfl,rfl,rfl⟩
theorem TGo.trans(h:TGo s A t A' t')(g:TGo s A' t' A'' t''):TGo s A t A'' t'':=⟨g.ok,h.st.trans (by have:=g.st;rw[h.win] at this;exact this),g.win.trans h.win,g.id.trans h.id,g.lp.trans h.lp⟩
theorem Q9F(A:Ax)(H:Hp)(k:Nat)(v:Int)(g:Pg):(maF A H k v g).H.win=H.win:=by
 unfold maF;split
 ·show(if _ then _ else _:Hp).win=_;split <;> rfl
 ·rfl
theorem Q9s(A:Ax)(H:Hp)(k:Nat):(hoH s A H k).win=H.win:=by unfold hoH;split <;> rfl
theorem Q7l(A:Ax)(H:Hp)(n:Int):(malM s A H n).H.win=H.win:=by
 unfold malM;split
 ·rfl
 split
 ·split
  ·exact Q9s A H _
  ·rfl
 ·unfold malK;split
  ·split
   ·exact Q9F _ _ _ _ _
   ·rfl
  ·split
   ·rw[Q9F];exact Q9s A H _
   ·rfl
theorem Q77(A:Ax)(H:Hp)(a:Int):(freM A H a).H.win=H.win:=by
 unfold freM;cases blkM H a with
 | none=>rfl
 | some y=>
  obtain⟨k,m,b⟩:=y;show(if 8<=k then _ else _:Mr).H.win=_;by_cases h8:8<=k
  ·rw[if_pos h8];rfl
  ·rw[if_neg h8];cases H.S (locN k m)with
   | none=>rfl
   | some g=>
    show(frP A (if _ then _ else _) k m b g).H.win=_;unfold frP;split
    ·show(if _ then _ else _:Hp).win=_;split <;> rfl
    ·show(if _ then _ else _:Hp).win=_;split <;> rfl
theorem Qfl{k:Nat}(hk:k<24)(m b:Nat):adrN k m b % 16=0:=by
 have h1:∀j:Fin 24,untN j.val % 16=0:=by decide +kernel
 have h1:=h1 ⟨k,hk⟩;have e:adrN k m b=131072*(k+1)+m*(pagN k*512)+b*untN k:=rfl;have h1:untN k % 16=0:=h1;have h2:b*untN k % 16=0:=by rw[Nat.mul_mod,h1,Nat.mul_zero,Nat.zero_mod]
 have h3:m*(pagN k*512) % 16=0:=by rw[<-Nat.mul_assoc,Nat.mul_mod,show(512:Nat) % 16=0 from rfl,Nat.mul_zero,Nat.zero_mod]
 omega
theorem Q7y{k:Nat}(hk:k<24)(v b:Int):placI k v b % 16=0:=by
 unfold placI;split
 ·have:=Qfl hk v.toNat b.toNat;omega
 ·rfl
theorem QcZ{k:Nat}(hk:k<24)(A:Ax)(H:Hp)(v:Int)(g:Pg):(maF A H k v g).I % 16=0:=by
 unfold maF;split
 ·exact Q7y hk _ _
 ·rfl
theorem Qeg(A:Ax)(H:Hp)(n:Int):(malM s A H n).I % 16=0:=by
 obtain⟨c24,cm1⟩:=Q2s n;unfold malM;split
 ·rfl
 split
 ·split
  ·exact Q7y (by omega) _ _
  ·rfl
 ·unfold malK;split
  ·split
   ·exact QcZ (by omega) _ _ _ _
   ·rfl
  ·split
   ·exact QcZ (by omega) _ _ _ _
   ·rfl
theorem QfH(g:TnOk s A t)(n:Int):TGo s A t (malM s A t.H n).A (t.mal s A n):=
 ⟨⟨(Q17 g.h n).ok,g.q,g.ob,g.al,g.cap,g.nx⟩,(Q17 g.h n).tst g.h (Q7l A t.H n),Q7l A t.H n,rfl,rfl⟩
theorem QcP(g:TnOk s A t)(a:Int):TGo s A t (freM A t.H a).A (t.fre A a):=
 ⟨⟨(Q1v g.h a).ok,g.q,g.ob,g.al,g.cap,g.nx⟩,(Q1v g.h a).tst g.h (Q77 A t.H a),Q77 A t.H a,rfl,rfl⟩
theorem Qff(g:TnOk s A t){q:Qu}(hq:q.Ok)(hl:q.lp=t.q.lp):TGo s A t A {t with q:=q}:=⟨⟨g.h,hq,g.ob,g.al,g.cap,g.nx⟩,TSt.same rfl rfl,rfl,rfl,hl⟩
theorem go_S(g:TnOk s A t){nx:Int}{S:Int->Option Cp.Sl}{sz:Nat}(hx:1<=nx /\ nx<=17592186044416)(hS:∀x z,S x=some z->0<=z.2.2 /\ z.2.2<3276800 /\ z.2.2 % 16=0):TGo s A t A {t with nx:=nx,S:=S,sz:=sz}:=⟨⟨g.h,g.q,g.ob,g.al,hS,hx⟩,TSt.same rfl rfl,rfl,rfl,rfl⟩
theorem QcQ(g:TnOk s A t)(a:Int):TGo s A t A (t.rev a):=go_S g g.nx fun x z h=>by
 unfold Cp.revS at h;split at h
 ·cases h
 ·exact g.cap x z h
theorem Q7B{S:Int->Option Cp.Sl}(base n:Nat){nx:Int}(h:1<=nx /\ nx<=17592186044416):1<=Cp.putN S base n nx /\ Cp.putN S base n nx<=17592186044416:=by
 unfold Cp.putN;cases e:Cp.putK S base n nx with
 | none=>exact h
 | some k=>
  have:¬nx>=17592186044416:=fun q=>by unfold Cp.putK at e;rw[if_pos q] at e;cases e
  show 1<=nx+1 /\ nx+1<=_;omega
theorem Q7C{S:Int->Option Cp.Sl}(hS:∀x z,S x=some z->0<=z.2.2 /\ z.2.2<3276800 /\ z.2.2 % 16=0)(base n:Nat)(nx r:Int){a:Int}(ha:0<=a /\ a<3276800 /\ a % 16=0):∀x z,Cp.putS S base n nx r a x=some z->0<=z.2.2 /\ z.2.2<3276800 /\ z.2.2 % 16=0:=fun x z h=>by
 unfold Cp.putS at h;cases e:Cp.putK S base n nx with
 | some k=>
  rw[e] at h;have h:Cp.updS S ((base+k:Nat):Int) (some (r,nx,a)) x=some z:=h;unfold Cp.updS at h;split at h
  ·cases h;exact ha
  ·exact hS x z h
 | none=>
  rw[e] at h;exact hS x z h
theorem QfG(g:TnOk s A t){a:Int}(ha:0<=a /\ a<3276800 /\ a % 16=0):TGo s A t A (t.gra a):=go_S g (by unfold Cp.grantN;split;exact g.nx;exact Q7B _ _ g.nx) fun x z h=>by
 unfold Cp.grantS at h;split at h
 ·exact g.cap x z h
 ·exact Q7C g.cap _ _ _ _ ha x z h
theorem Q9n(g:TnOk s A t){a n:Int}(ha:0<=a /\ a<3276800)(h16:a % 16=0)(hn:0<=n /\ n<=8192):TGo s A t A (t.add a n):=
 ⟨⟨g.h,g.q,fun k v h=>by
  have h:updI t.ob a (some n) k=some v:=h;unfold updI at h;split at h
  ·rename_i e;cases h;subst e;omega
  ·exact g.ob k v h,fun k v h=>by
  have h:updI t.ob a (some n) k=some v:=h;unfold updI at h;split at h
  ·rename_i e;subst e;exact h16
  ·exact g.al k v h,g.cap,g.nx⟩,TSt.same rfl rfl,rfl,rfl,rfl⟩
theorem QdV(g:TnOk s A t)(a:Int):TGo s A t A (t.gone a):=
 ⟨⟨g.h,g.q,fun k v h=>by
  have h:updI t.ob a none k=some v:=h;unfold updI at h;split at h
  ·cases h
  ·exact g.ob k v h,fun k v h=>by
  have h:updI t.ob a none k=some v:=h;unfold updI at h;split at h
  ·cases h
  ·exact g.al k v h,g.cap,g.nx⟩,TSt.same rfl rfl,rfl,rfl,rfl⟩
theorem Q1D(g:TnOk s A t){bs:List UInt8}(ts:List Tch)(h:bs.length=A.bs.length):TGo s A t {A with bs:=bs,ts:=ts} t:=
 ⟨⟨g.h.bytes ts h,g.q,g.ob,g.al,g.cap,g.nx⟩,TSt.same h rfl,rfl,rfl,rfl⟩
theorem Qet{q:Qu}(g:q.Ok){b p:Nat}(h:q.fits b p):Qu.Ok {q with rb:=q.rb+b,rp:=q.rp+p}:=by
 obtain⟨g1,g2,g3⟩:=g;obtain⟨h1,h2⟩:=h;exact⟨g1,by show q.cb+(q.rb+b)<=q.lb;omega,by show q.cp+(q.rp+p)<=q.lp;omega⟩
theorem Qes{q:Qu}(g:q.Ok)(b:Nat):Qu.Ok {q with rb:=q.rb-b,rp:=q.rp-0}:=by
 obtain⟨g1,g2,g3⟩:=g;exact⟨g1,by show q.cb+(q.rb-b)<=q.lb;omega,by show q.cp+(q.rp-0)<=q.lp;omega⟩
theorem QcR(g:TnOk s A t)(a:Int)(c:Nat):TGo s A t (undM A t a c).A (undM A t a c).t:=by
 have h1:=QcQ g a;have h2:=QcP h1.ok a;have h3:=Qff h2.ok (q:={t.q with rb:=t.q.rb-c,rp:=t.q.rp-0}) (Qes g.q c) rfl;exact(h1.trans h2).trans h3
theorem Q5n(g:TnOk s A t)(n:Int):TGo s A t (getM s A t n).A (getM s A t n).t:=by
 obtain⟨_,_,i0,i1⟩:=Q3o (s:=s) (A:=A) (H:=t.H) n;have i16:=Qeg (s:=s) A t.H n;have hq:=Q9k (s:=s) (A:=A) g.q n;unfold getM at hq ⊢;split at hq
 ·rename_i h0;rw[if_pos h0];exact TGo.refl g
 rename_i h0;rw[if_neg h0];have hn:0<=n /\ n<=8192:=by
  unfold chgI at h0;split at h0
  ·rename_i z;omega
  ·exact absurd rfl h0
 split at hq
 ·rename_i h1;rw[if_pos h1];exact TGo.refl g
 rename_i h1;rw[if_neg h1];have h1:=Classical.not_not.1 h1;have r1:TGo s A t A (t.res (chgI n).toNat 0):=Qff g (Qet g.q h1) rfl;split at hq
 ·rename_i h2;rw[if_pos h2];exact r1.trans (Qff r1.ok hq rfl)
 rename_i h2;rw[if_neg h2];have r2:TGo s A t (malM s A t.H n).A ((t.res (chgI n).toNat 0).mal s A n):=r1.trans (QfH r1.ok n);split at hq
 ·rename_i h3;rw[if_pos h3];exact r2.trans (Qff r2.ok hq rfl)
 rename_i h3;rw[if_neg h3];have r3:=r2.trans (QfG r2.ok (a:=(malM s A t.H n).I) ⟨i0,i1,i16⟩);split at hq
 ·rename_i h4;rw[if_pos h4];exact r3.trans (QcR r3.ok _ _)
 rename_i h4;rw[if_neg h4];split at hq
 ·rename_i h5;rw[if_pos h5];exact r3.trans (QcR r3.ok _ _)
 rename_i h5;rw[if_neg h5];have r4:=r3.trans (Q9n r3.ok (a:=(malM s A t.H n).I) (n:=n) ⟨i0,i1⟩ i16 hn);exact r4.trans (Qff r4.ok hq rfl)
theorem Q9o(g:TnOk s A t)(a:Int):TGo s A t (putA A t a) (putM A t a):=by
 have h1:=QcP g a;have h2:=h1.trans (QcQ h1.ok a);have h3:=h2.trans (QdV h2.ok a);exact h3.trans (Qff h3.ok (Q7F g.q _ _) (by unfold qrefM;split <;> rfl))
structure Op where
 K:Int
 T:Int
 N:Int
 M:Int
 H:Int
 D:ByteArray
def askM(s:Sv)(A:Ax)(t:Tn)(o:Op):Rs:=
 if o.K=4 then⟨ansG (getM s A t o.N),(getM s A t o.N).A,(getM s A t o.N).t⟩
 else if o.K=5 then⟨ansG (calR s A t o.N o.M),(calR s A t o.N o.M).A,(calR s A t o.N o.M).t⟩
 else if o.K=6 then freR A t o.H
 else if o.K=7 then rlcR s A t o.H o.N
 else if o.K=8 then⟨usbR t o.H,A,t⟩
 else if o.K=9 then reaR A t o.H o.N o.M
 else if o.K=10 then wriR A t o.H o.N o.D
 else resR A t o.H o.N
theorem Qa7(A:Ax)(t:Tn)(h f n:Int):(reaR A t h f n).t=t:=by unfold reaR;split <;> rfl
theorem Qbc(A:Ax)(t:Tn)(h f:Int)(d:ByteArray):(wriR A t h f d).t=t:=by unfold wriR;split <;> rfl
theorem QcO(g:TnOk s A t)(o:Op):TGo s A t (askM s A t o).A (askM s A t o).t:=by
 have sm:=g.h.small;unfold askM;split
 ·exact Q5n g _
 split
 ·unfold calR;split
  ·exact Q5n g _
  ·exact TGo.refl g
 split
 ·unfold freR;split
  ·exact Q9o g _
  ·exact TGo.refl g
 split
 ·unfold rlcR;split
  ·exact TGo.refl g
  ·rename_i a e;have ha:=Q75 g e;split
   ·exact TGo.refl g
   rename_i hc;have hn:1<=o.N /\ o.N<=8192:=by
    unfold clsI at hc;split at hc
    ·rename_i z;exact z
    ·omega
   split
   ·split
    ·have h1:=Q5n g o.N;have h2:=h1.trans (Q1D h1.ok (bs:=cpB (getM s A t o.N).t.H.T (getM s A t o.N).A.bs (getM s A t o.N).ad a ((t.ob a).getD 0)) (cpT (getM s A t o.N).t.H.T (getM s A t o.N).A.bs.length (getM s A t o.N).A.ts (getM s A t o.N).ad a ((t.ob a).getD 0)) (Q4g _ _ _ _ _ h1.ok.h.small));exact h2.trans (Q9o h2.ok a)
    ·exact Q5n g _
   ·have hob:=fn_16 g e;split
    ·have h1:=Q1D g (bs:=zrB A.bs (vL t.H.T A.bs.length (a+o.N) ((t.ob a).getD 0-o.N))) (A.ts++tchL (vL t.H.T A.bs.length (a+o.N) ((t.ob a).getD 0-o.N)) true) (Q6M _ (Q3I _ _ _ _ sm).1);exact h1.trans (Q9n h1.ok ha hob ⟨by omega,by omega⟩)
    ·exact Q9n g ha hob ⟨by omega,by omega⟩
 split
 ·exact TGo.refl g
 split
 ·have ht:=Qa7 A t o.H o.N o.M;rw[ht];unfold reaR;split
  ·exact Q1D g _ rfl
  ·exact TGo.refl g
 split
 ·have ht:=Qbc A t o.H o.N o.D;rw[ht];unfold wriR;split
  ·exact Q1D g _ (Q6K _ (Q3I _ _ _ _ sm).1)
  ·exact TGo.refl g
 ·exact go_S g (by unfold Cp.restN;split;exact Q7B _ _ g.nx;exact g.nx) fun x z h=>by
   unfold Cp.restS at h;cases e0:Cp.restO t.id t.S o.H o.N with
   | none=>rw[e0] at h;exact g.cap x z h
   | some z0=>
    rw[e0] at h;have hz:0<=z0.2.2 /\ z0.2.2<3276800 /\ z0.2.2 % 16=0:=by
     unfold Cp.restO at e0;cases e1:Cp.findS t.id t.S o.H with
     | none=>rw[e1] at e0;cases e0
     | some z1=>
      rw[e1] at e0;have e0:(if 1<=o.N /\ o.N<=7 /\ Cp.may z1 o.N=true then some z1 else none)=some z0:=e0;split at e0
      ·cases e0;exact g.cap _ _ (Cp.findS_in e1).2.2.1
      ·cases e0
    exact Q7C g.cap _ _ _ _ hz x z h
end
end
section
open Go.RowKit Go.Maps Thing
def sumR(n:Nat)(f:Nat->Nat):Nat:=((List.range n).map f).sum
theorem Q0E(n:Nat)(f:Nat->Nat):sumR (n+1) f=sumR n f+f n:=by
 unfold sumR;rw[List.range_succ,List.map_append,List.sum_append];simp
theorem Qav(f:Nat->Nat):sumR 0 f=0:=rfl
theorem Q0d{n:Nat}{f g:Nat->Nat}(h:∀i,i<n->f i=g i):sumR n f=sumR n g:=by
 induction n with
 | zero=>rfl
 | succ n ih=>rw[Q0E,Q0E,ih fun i hi=>h i (by omega),h n (by omega)]
theorem Q2G{n:Nat}{f g:Nat->Nat}(h:∀i,i<n->f i<=g i):sumR n f<=sumR n g:=by
 induction n with
 | zero=>exact Nat.le_refl _
 | succ n ih=>
  have:=ih fun i hi=>h i (by omega);have:=h n (by omega);rw[Q0E,Q0E];omega
theorem Q38{n m:Nat}{f g:Nat->Nat}(hm:m<n)(h:∀i,i<n->i ≠ m->f i=g i):sumR n f+g m=sumR n g+f m:=by
 induction n with
 | zero=>omega
 | succ n ih=>
  rw[Q0E,Q0E];by_cases e:m=n
  ·subst e;have:=Q0d (f:=f) (g:=g) (n:=m) fun i hi=>h i (by omega) (by omega);omega
  ·have:=ih (by omega) fun i hi he=>h i (by omega) he;have:=h n (by omega) (fun q=>e q.symm);omega
theorem Q37{n m:Nat}(f:Nat->Nat)(hm:m<n):f m<=sumR n f:=by
 induction n with
 | zero=>omega
 | succ n ih=>
  rw[Q0E];by_cases e:m=n
  ·subst e;omega
  ·have:=ih (by omega);omega
theorem Q0P(n c:Nat)(f:Nat->Nat):sumR n (fun i=>f i*c)=sumR n f*c:=by
 induction n with
 | zero=>simp[sumR]
 | succ n ih=>rw[Q0E,Q0E,ih,Nat.add_mul]
def usd(H:Hp)(k m:Nat):Nat:=if k<8 then(match H.S (locN k m)with | some g=>g.q.hs.count true | none=>0)else if (H.sl k)[m]? = some true then 1 else 0
def usdK(H:Hp)(k:Nat):Nat:=sumR (sltN k) (usd H k)
def chgH(H:Hp):Nat:=sumR 24 fun k=>usdK H k*untN k
def slK(H:Hp)(k:Nat):Nat:=sumR (sltN k) fun m=>if (H.sl k)[m]? = some true then 1 else 0
def pgsL(H:Hp):List Int:=(List.range 24).flatMap fun k=>(List.range (sltN k)).flatMap fun m=>if (H.sl k)[m]? = some true then(List.range (pagN k)).map fun i=>((locN k m+i:Nat):Int)else []
theorem Q2Z{X:Type}(f:Nat->List X)(n:Nat):((List.range n).flatMap f).length=sumR n fun i=>(f i).length:=by
 unfold sumR;rw[List.length_flatMap]
theorem Qc4(H:Hp):(pgsL H).length=sumR 24 fun k=>slK H k*pagN k:=by
 unfold pgsL;rw[Q2Z];refine Q0d fun k _=>?_;rw[Q2Z];unfold slK;rw[<-Q0P];refine Q0d fun m _=>?_;split
 ·simp
 ·simp
section
variable{s:Sv}{A:Ax}{H:Hp}
theorem Qc5(g:HOk s A H)(v:Int):v ∈ pgsL H ↔ (fndO H.T v).isSome=true:=by
 rw[g.tab];unfold pgsL;simp only[List.mem_flatMap,List.mem_range];constructor
 ·rintro⟨k,hk,m,hm,h⟩;split at h
  ·rename_i ht;obtain⟨i,hi,rfl⟩:=List.mem_map.1 h;exact⟨k,m,i,hk,ht,List.mem_range.1 hi,by omega⟩
  ·cases h
 ·rintro⟨k,m,i,hk,ht,hi,rfl⟩;refine⟨k,hk,m,g.slot hk ht,?_⟩;rw[if_pos ht];exact List.mem_map.2 ⟨i,List.mem_range.2 hi,by omega⟩
theorem Q2z{X:Type}(f:Nat->List X):∀n,(∀i,i<n->(f i).Nodup)->(∀i j x,i<n->j<n->x ∈ f i->x ∈ f j->i=j)->((List.range n).flatMap f).Nodup
 | 0,_,_=>List.nodup_nil
 | n+1,h1,h2=>by
  rw[List.range_succ,List.flatMap_append];refine List.nodup_append.2 ⟨Q2z f n (fun i hi=>h1 i (by omega)) (fun i j x hi hj=>h2 i j x (by omega) (by omega)),by simpa using h1 n (by omega),fun a ha b hb e=>?_⟩;obtain⟨i,hi,hx⟩:=List.mem_flatMap.1 ha;simp at hb;have:=h2 i n a (by have:=List.mem_range.1 hi;omega) (by omega) hx (by rw[e];exact hb);have:=List.mem_range.1 hi;omega
theorem Q8q(H:Hp):(pgsL H).Nodup:=by
 have mem:∀k m x,x ∈ (if (H.sl k)[m]? = some true then(List.range (pagN k)).map fun i=>((locN k m+i:Nat):Int)else [])->∃i,i<pagN k /\ x=((locN k m+i:Nat):Int):=fun k m x hx=>by
  split at hx
  ·obtain⟨i,hi,e⟩:=List.mem_map.1 hx;exact⟨i,List.mem_range.1 hi,e.symm⟩
  ·cases hx
 unfold pgsL;refine Q2z _ 24 (fun k hk=>Q2z _ _ (fun m hm=>?_) fun m m' x hm hm' hx hx'=>?_) fun k k' x hk hk' hx hx'=>?_
 ·split
  ·refine List.nodup_iff_pairwise_ne.2 (List.pairwise_map.2 ((List.nodup_iff_pairwise_ne.1 List.nodup_range).imp fun h e=>h (by omega)))
  ·exact List.nodup_nil
 ·obtain⟨i,hi,e⟩:=mem k m x hx;obtain⟨i',hi',e'⟩:=mem k m' x hx';exact(Q1b hk hk hm hm' hi hi' (by omega)).2.1
 ·obtain⟨m,hm,hx⟩:=List.mem_flatMap.1 hx;obtain⟨m',hm',hx'⟩:=List.mem_flatMap.1 hx';obtain⟨i,hi,e⟩:=mem k m x hx;obtain⟨i',hi',e'⟩:=mem k' m' x hx';exact(Q1b hk hk' (List.mem_range.1 hm) (List.mem_range.1 hm') hi hi' (by omega)).1
theorem Q1f(g:HOk s A H):H.T.length=sumR 24 fun k=>slK H k*pagN k:=by
 rw[<-Qc4];have h:List.Perm (H.T.map (·.1)) (pgsL H):=by
  refine(List.perm_ext_iff_of_nodup g.tok.n1 (Q8q H)).2 fun v=>?_;rw[Qc5 g,List.mem_map];constructor
  ·rintro⟨x,hx,rfl⟩;rw[Q0W g.tok hx];rfl
  ·intro h;obtain⟨x,hx⟩:=zzise.1 h;exact⟨x,(Q0a hx).1,(Q0a hx).2⟩
 rw[<-h.length_eq,List.length_map]
theorem Q1I(a b:Nat)(f:Nat->Nat):sumR (a+b) f=sumR a f+sumR b fun i=>f (a+i):=by
 induction b with
 | zero=>simp[Qav]
 | succ b ih=>rw[show a+(b+1)=a+b+1 by omega,Q0E,Q0E,ih];omega
theorem Q6I{k:Nat}(h8:8<=k):usdK H k=slK H k:=by
 unfold usdK slK;refine Q0d fun m _=>?_;unfold usd;rw[if_neg (by omega)]
theorem Q6b(q:Nat):∀j,bySum q j=sumR j fun k=>byN k q
 | 0=>rfl
 | j+1=>by rw[bySum,Q6b q j,Q0E]
theorem Qaf(g:HOk s A H){p:Nat}(hp:chgH H<=p)(hs:∀k,k<8->slK H k<=byN k p):H.T.length<=demN p:=by
 rw[Q1f g];unfold demN;rw[Q6b];rw[show(24:Nat)=8+16 from rfl,Q1I];have h1:sumR 8 (fun k=>slK H k*pagN k)<=sumR 8 fun k=>byN k p:=Q2G fun k hk=>by
  rw[show pagN k=1 from if_pos hk,Nat.mul_one];exact hs k hk
 have h2:sumR 16 (fun i=>slK H (8+i)*pagN (8+i))*512<=p:=by
  rw[<-Q0P];have e:sumR 16 (fun i=>slK H (8+i)*pagN (8+i)*512)=sumR 16 fun i=>usdK H (8+i)*untN (8+i):=Q0d fun i hi=>by
   rw[Q6I (by omega)];have:untN (8+i)=pagN (8+i)*512:=by unfold untN pagN;rw[if_neg (by omega),if_neg (by omega)]
   rw[this,Nat.mul_assoc]
  rw[e];have h3:chgH H=sumR 8 (fun k=>usdK H k*untN k)+sumR 16 fun i=>usdK H (8+i)*untN (8+i):=by
   unfold chgH;rw[show(24:Nat)=8+16 from rfl,Q1I]
  omega
 omega
end
end
section
open Go.RowKit Go.Maps Thing
def bk(H:Hp)(k m b:Nat):Prop:=(H.sl k)[m]? = some true /\ (k<8->∃g,H.S (locN k m)=some g /\ g.q.hs[b]? = some true)
theorem Q1i{H:Hp}{k m b:Nat}(hk:k<24)(hm:m<sltN k)(hb:b<perM k):blkM H (adrN k m b:Int)=some (k,m,b) ↔ bk H k m b:=by
 constructor
 ·intro h;obtain⟨_,_,_,_,a,c⟩:=Q0Z h;exact⟨a,c⟩
 ·rintro⟨h1,h2⟩;unfold blkM;rw[Q4l hk hm hb];have hl:=(zzgsi.1 h1).1;refine if_pos ⟨?_,fun k8=>?_⟩
  ·unfold Sf.isTaken;exact decide_eq_true ⟨⟨by omega,by omega⟩,by rw[zztnc];exact h1⟩
  ·obtain⟨g,e1,e2⟩:=h2 k8;unfold hasB;rw[e1];have hl2:=(zzgsi.1 e2).1;exact decide_eq_true ⟨⟨by omega,by omega⟩,by rw[zztnc];exact e2⟩
theorem Q0F{H:Hp}{a:Int}{k m b:Nat}(h:blkM H a=some (k,m,b)):k<24 /\ m<sltN k /\ b<perM k /\ a=(adrN k m b:Int) /\ bk H k m b:=by
 obtain⟨h1,h2,h3,h4,a,c⟩:=Q0Z h;exact⟨h1,h2,h3,h4,a,c⟩
theorem Q8M{k m b k' m' b':Nat}(hk:k<24)(hm:m<sltN k)(hb:b<perM k)(hk':k'<24)(hm':m'<sltN k')(hb':b'<perM k')(e:adrN k m b=adrN k' m' b'):k=k' /\ m=m' /\ b=b':=by
 have h1:=Q4l hk hm hb;have h2:=Q4l hk' hm' hb';rw[e,h2] at h1;simp only[Option.some.injEq,Prod.mk.injEq] at h1;exact⟨h1.1.symm,h1.2.1.symm,h1.2.2.symm⟩
theorem Q0Q{k m k' m':Nat}(hk:k<24)(hm:m<sltN k)(hk':k'<24)(hm':m'<sltN k')(e:(locN k m:Int)=(locN k' m':Int)):k=k' /\ m=m':=by
 obtain⟨a,b,_⟩:=Q1b (i:=0) (i':=0) hk hk' hm hm' (Q0C _) (Q0C _) (by omega);exact⟨a,b⟩
theorem Q3K{hs:List Bool}{b:Nat}(h:hs[b]? = some false):(hs.set b true).count true=hs.count true+1:=by
 obtain⟨hb,e⟩:=zzgsi.1 h;have e1:hs=hs.take b++false :: hs.drop (b+1):=by rw[<-e,List.getElem_cons_drop,List.take_append_drop]
 have e2:hs.set b true=hs.take b++true :: hs.drop (b+1):=by rw[List.set_eq_take_append_cons_drop,if_pos hb]
 rw[e2]
 conv=>rhs;rw[e1]
 simp[List.count_append,List.count_cons];omega
theorem Q3h{hs:List Bool}{b:Nat}(h:hs[b]? = some true):(hs.set b false).count true+1=hs.count true:=by
 obtain⟨hb,e⟩:=zzgsi.1 h;have e1:hs=hs.take b++true :: hs.drop (b+1):=by rw[<-e,List.getElem_cons_drop,List.take_append_drop]
 have e2:hs.set b false=hs.take b++false :: hs.drop (b+1):=by rw[List.set_eq_take_append_cons_drop,if_pos hb]
 rw[e2]
 conv=>rhs;rw[e1]
 simp[List.count_append,List.count_cons];omega
theorem Q8a(hs:List Bool):hs.count true+hs.count false=hs.length:=by
 induction hs with
 | nil=>rfl
 | cons b l ih=>cases b <;> simp[List.count_cons] <;> omega
section
variable{s:Sv}{A:Ax}{H H':Hp}
theorem Q3d{k m:Nat}(h8:k<8)(hm:m<sltN k){q:Pg}(hS:H'.S=updI H.S (locN k m) (some q))(hl:H'.sl=H.sl){k' m':Nat}(hk':k'<24)(hm':m'<sltN k') :
  usd H' k' m'=if k'=k /\ m'=m then q.q.hs.count true else usd H k' m':=by
 unfold usd;rw[hS,hl];by_cases h:k'<8
 ·rw[if_pos h,if_pos h];by_cases e:k'=k /\ m'=m
  ·rw[if_pos e,e.1,e.2,Q0r]
  ·rw[if_neg e,Q0q];intro q;obtain⟨a,b⟩:=Q0Q hk' hm' (by omega) hm q;exact e ⟨a,b⟩
 ·rw[if_neg h,if_neg h,if_neg (show ¬(k'=k /\ m'=m)from fun e=>h (by rw[e.1];exact h8))]
theorem Q68{k m:Nat}(h8:k<8)(hm:m<sltN k){q:Pg}(hS:H'.S=updI H.S (locN k m) (some q))(hl:H'.sl=H.sl){k' m':Nat}(b':Nat)(hk':k'<24)(hm':m'<sltN k') :
  bk H' k' m' b' ↔ if k'=k /\ m'=m then(H.sl k)[m]? = some true /\ q.q.hs[b']? = some true else bk H k' m' b':=by
 unfold bk;rw[hS,hl];by_cases e:k'=k /\ m'=m
 ·rw[if_pos e,e.1,e.2,Q0r];exact⟨fun⟨a,c⟩=>⟨a,by obtain⟨g,x,y⟩:=c h8;cases x;exact y⟩,fun⟨a,c⟩=>⟨a,fun _=>⟨_,rfl,c⟩⟩⟩
 ·rw[if_neg e];refine and_congr Iff.rfl (forall_congr' fun h=>?_);rw[Q0q];intro q;obtain⟨a,b⟩:=Q0Q hk' hm' (by omega) hm q;exact e ⟨a,b⟩
structure MalE (H H':Hp) (k m b:Nat):Prop where
 k24:k<24
 hm:m<sltN k
 hb:b<perM k
 no:¬bk H k m b
 bks:∀k' m' b',k'<24->m'<sltN k'->b'<perM k'->(bk H' k' m' b' ↔ bk H k' m' b' \/ (k'=k /\ m'=m /\ b'=b))
 us:∀k' m',k'<24->m'<sltN k'->usd H' k' m'=usd H k' m'+if k'=k /\ m'=m then 1 else 0
 sl:∀k',k'<24->slK H' k'=slK H k' \/ (k'=k /\ slK H' k'=slK H k'+1 /\ (k<8->usdK H k=slK H k*perN k))
 tk:∀k' m',k'<24->m'<sltN k'->(H'.sl k')[m']? = some true->(H.sl k')[m']? = some true \/ (k'=k /\ m'=m)
theorem Q2f(h:H'.sl=H.sl)(k:Nat):slK H' k=slK H k:=by unfold slK;rw[h]
theorem Qc3{k m b:Nat}{q:Pg}{q':Pq}(h8:k<8)(hm:m<sltN k)(ht:(H.sl k)[m]? = some true)(hS:H.S (locN k m)=some q)(hf:q.q.hs[b]? = some false)(hl:q.q.hs.length=perN k)(hq:q'.hs=q.q.hs.set b true)
  (eS:H'.S=updI H.S (locN k m) (some {q with q:=q'})) (el:H'.sl=H.sl):MalE H H' k m b:=by
 have hbl:=(zzgsi.1 hf).1;have hp:perM k=perN k:=if_pos h8;have old:∀b',bk H k m b' ↔ q.q.hs[b']? = some true:=fun b'=>by
  unfold bk;exact⟨fun⟨_,c⟩=>by obtain⟨g,x,y⟩:=c h8;rw[hS] at x;cases x;exact y,fun y=>⟨ht,fun _=>⟨q,hS,y⟩⟩⟩
 refine⟨by omega,hm,by omega,fun y=>(by rw[(old b).1 y] at hf;cases hf),fun k' m' b' hk' hm' hb'=>?_,fun k' m' hk' hm'=>?_,fun k' hk'=>.inl (Q2f el k'),fun k' m' _ _ y=>.inl (by rw[el] at y;exact y)⟩
 ·rw[Q68 h8 hm eS el b' hk' hm'];by_cases e:k'=k /\ m'=m
  ·rw[if_pos e,e.1,e.2,old];show _ /\ q'.hs[b']? = some true ↔ _;rw[hq,Q0I hbl];exact⟨fun⟨_,c⟩=>c.elim (fun z=>.inr ⟨rfl,rfl,z⟩) .inl,fun c=>⟨ht,c.elim .inr fun z=>.inl z.2.2⟩⟩
  ·rw[if_neg e];exact⟨.inl,fun c=>c.elim id fun z=>absurd ⟨z.1,z.2.1⟩ e⟩
 ·rw[Q3d h8 hm eS el hk' hm'];by_cases e:k'=k /\ m'=m
  ·rw[if_pos e,if_pos e,e.1,e.2];show q'.hs.count true=_;rw[hq,Q3K hf];unfold usd;rw[if_pos h8,hS]
  ·rw[if_neg e,if_neg e];rfl
theorem Qap{k m:Nat}(hm:m<sltN k)(hl:(H.sl k).length=sltN k)(hf:(H.sl k)[m]? ≠ some true)(el:H'.sl=updF H.sl k ((H.sl k).set m true))(k':Nat):slK H' k'=slK H k'+if k'=k then 1 else 0:=by
 unfold slK;rw[el];by_cases e:k'=k
 ·subst e;rw[if_pos rfl,Q0g];have:=Q38 (f:=fun i=>if ((H.sl k').set m true)[i]? = some true then 1 else 0) (g:=fun i=>if (H.sl k')[i]? = some true then 1 else 0) hm fun i hi he=>by
   have:((H.sl k').set m true)[i]? = (H.sl k')[i]?:=zzgsn fun q=>he q.symm;simp only[this]
  simp only[if_neg hf,List.getElem?_set_self (show m<(H.sl k').length by omega),if_pos] at this;omega
 ·rw[if_neg e,Q0n e];rfl
theorem Qez{k m:Nat}(hk:k<24)(h8:8<=k)(hm:m<sltN k)(hl:(H.sl k).length=sltN k)(hf:(H.sl k)[m]? = some false)(el:H'.sl=updF H.sl k ((H.sl k).set m true))(eS:H'.S=H.S):MalE H H' k m 0:=by
 have hml:m<(H.sl k).length:=by omega
 have hp:perM k=1:=if_neg (by omega);have tkn:∀k' m',(H'.sl k')[m']? = some true ↔ (H.sl k')[m']? = some true \/ (k'=k /\ m'=m):=fun k' m'=>by
  rw[el];by_cases e:k'=k
  ·subst e;rw[Q0g,Q0I hml];exact⟨fun c=>c.elim (fun z=>.inr ⟨rfl,z⟩) .inl,fun c=>c.elim .inr fun z=>.inl z.2⟩
  ·rw[Q0n e];exact⟨.inl,fun c=>c.elim id fun z=>absurd z.1 e⟩
 refine⟨hk,hm,by omega,fun y=>(by rw[y.1] at hf;cases hf),fun k' m' b' hk' hm' hb'=>?_,fun k' m' hk' hm'=>?_,fun k' hk'=>?_,fun k' m' _ _ y=>(tkn k' m').1 y⟩
 ·unfold bk;rw[tkn,eS];constructor
  ·rintro⟨a | a,c⟩
   ·exact .inl ⟨a,c⟩
   ·have:perM k'=1:=by rw[a.1];exact hp
    exact .inr ⟨a.1,a.2,by omega⟩
  ·rintro(⟨a,c⟩ | a)
   ·exact⟨.inl a,c⟩
   ·exact⟨.inr ⟨a.1,a.2.1⟩,fun z=>by omega⟩
 ·unfold usd;rw[eS];by_cases h:k'<8
  ·rw[if_pos h,if_pos h,if_neg (fun e=>by omega)];rfl
  ·rw[if_neg h,if_neg h];by_cases e:k'=k /\ m'=m
   ·rw[if_pos e,if_pos ((tkn k' m').2 (.inr e)),if_neg];rw[e.1,e.2,hf];simp
   ·rw[if_neg e];by_cases y:(H.sl k')[m']? = some true
    ·rw[if_pos y,if_pos ((tkn k' m').2 (.inl y))]
    ·rw[if_neg y,if_neg fun z=>((tkn k' m').1 z).elim y e]
 ·have:=Qap hm hl (by rw[hf];simp) el k';by_cases e:k'=k
  ·rw[if_pos e] at this;exact .inr ⟨e,this,fun z=>by omega⟩
  ·rw[if_neg e] at this;exact .inl this
theorem Q6P(g:HOk s A H){k:Nat}(h8:k<8)(hL:H.ln k=[]):usdK H k=slK H k*perN k:=by
 unfold usdK slK;rw[<-Q0P];refine Q0d fun m hm=>?_;unfold usd;rw[if_pos h8];by_cases ht:(H.sl k)[m]? = some true
 ·obtain⟨q,a,b⟩:=g.sm k m h8 ht;rw[if_pos ht,a,Nat.one_mul];obtain⟨_,pq,_⟩:=g.pg _ q a;have hc:q.q.hs.count false=0:=Classical.byContradiction fun z=>by
   have:=((g.ln k h8).2 (locN k m)).2 ⟨q,a,b,z⟩;rw[hL] at this;cases this
  have:=Q8a q.q.hs;have hl:=pq.hl;rw[b] at hl;show q.q.hs.count true=perN k;omega
 ·rw[if_neg ht];cases hS:H.S (locN k m)with
  | none=>simp
  | some q=>
   obtain⟨a1,a2,m',a3,a4,a5,_⟩:=g.pg _ q hS;obtain⟨e1,e2⟩:=Q0Q (by omega) hm (by omega) a3 a4;rw[<-e1,<-e2] at a5;exact absurd a5 ht
end
end
end Go.Proofs.YtpnbcakbefplpaaGreatDoor
