/- Texts merged: Ts1 VcL5 WTS. Conditions: none. -/
import Derived.Test.YtpnbcakbefplpaaGreatDoorProg
import Derived.KernelRfl
import Derived.Test.YtpnbcakbefplpaaGreatDoorM06
set_option linter.unusedVariables false
set_option linter.unusedSimpArgs false
namespace Go.Proofs.YtpnbcakbefplpaaGreatDoor
open _root_.Go.Proofs.Tryz (prog)
set_option maxRecDepth 20000
section
open Go.RowKit Go.Maps Thing
section
variable{s:Sv}{n:Rn}{k:Nat}{x:Se}
theorem QeP(g:AdInv s x.a)(o:Op):(doM s x o).x.a.A.ts.length<=10000000:=by
 unfold doM;split
 ·exact Nat.zero_le _
 ·rename_i hc;have:=Q8E (o:=o) g.fgt.ok (by simpa using hc);have e:(fgt x.a).A.ts.length=0:=rfl;show(doA s (fgt x.a) o).x.A.ts.length<=_;omega
theorem Q9L:∀(l:List Stp) {n:Rn} {k:Nat},RnInv s n k->n.x.a.A.ts.length<=10000000->(∀x ∈ l,StpOk x)->(l.foldl (runS s) n).x.a.A.ts.length<=10000000
 | [],n,k,_,h,_=>h
 | x :: l,n,k,g,_,h=>Q9L l (Q4G g (h x (by simp))) (QeP g.ad _) fun y hy=>h y (by simp[hy])
theorem Qby{P0 C0:Int}(g:SvOk s P0 C0){l:List Stp}(h:∀x ∈ l,StpOk x):(runL s l).x.a.A.ts.length<=10000000:=Q9L l (run0 g) (Nat.zero_le _) h
section
variable(o o':Obj)(ap ap' mb mb' nC C n:Nat)
theorem QeR(l:List Int):∀A T,drN ⟨o,ap,mb,nC,C,n⟩ l A T=drN ⟨o',ap',mb',nC,C,n⟩ l A T:=by
 induction l with
 | nil=>intro A T;rfl
 | cons v l ih=>intro A T;exact ih _ _
theorem Qfc(l:List Int):∀A H,mvN ⟨o,ap,mb,nC,C,n⟩ l A H=mvN ⟨o',ap',mb',nC,C,n⟩ l A H:=by
 induction l with
 | nil=>intro A H;rfl
 | cons v l ih=>intro A H;exact ih _ _
theorem QdA:movM ⟨o,ap,mb,nC,C,n⟩=movM ⟨o',ap',mb',nC,C,n⟩:=by
 funext A H win;unfold movM;rw[Qfc o o' ap ap' mb mb'];rfl
theorem QdR:rszR ⟨o,ap,mb,nC,C,n⟩=rszR ⟨o',ap',mb',nC,C,n⟩:=by
 funext A t b win;unfold rszR;rw[QdA o o' ap ap' mb mb']
theorem QdN:resM ⟨o,ap,mb,nC,C,n⟩=resM ⟨o',ap',mb',nC,C,n⟩:=by
 funext a i k q;unfold resM;rw[QdR o o' ap ap' mb mb'];rfl
theorem Qd9:drpA ⟨o,ap,mb,nC,C,n⟩=drpA ⟨o',ap',mb',nC,C,n⟩:=by
 funext A t;unfold drpA droA;rw[QeR o o' ap ap' mb mb']
theorem Qd8:desM ⟨o,ap,mb,nC,C,n⟩=desM ⟨o',ap',mb',nC,C,n⟩:=by
 funext a i;unfold desM;rw[Qd9 o o' ap ap' mb mb']
theorem QeN:doA ⟨o,ap,mb,nC,C,n⟩=doA ⟨o',ap',mb',nC,C,n⟩:=by
 funext a p;unfold doA;rw[Qd8 o o' ap ap' mb mb',QdN o o' ap ap' mb mb'];rfl
theorem QeO:doM ⟨o,ap,mb,nC,C,n⟩=doM ⟨o',ap',mb',nC,C,n⟩:=by
 funext a p;unfold doM;rw[QeN o o' ap ap' mb mb']
theorem Q9K(l:List Stp):runL ⟨o,ap,mb,nC,C,n⟩ l=runL ⟨o',ap',mb',nC,C,n⟩ l:=by
 have e:runS ⟨o,ap,mb,nC,C,n⟩=runS ⟨o',ap',mb',nC,C,n⟩:=by
  funext x y;unfold runS;rw[QeO o o' ap ap' mb mb']
 unfold runL;rw[e];rfl
end
theorem Qbz{s s':Sv}{P0 C0:Int}(h:SvOk s P0 C0)(h':SvOk s' P0 C0)(l:List Stp):runL s' l=runL s l:=by
 obtain⟨o,ap,mb,nC,C,n⟩:=s;obtain⟨o',ap',mb',nC',C',n'⟩:=s';have e1:C'=C:=by have a:=h.c;have b:=h'.c;simp only at a b;omega
 subst e1;have e2:nC'=nC:=by
  have a:=h.p;have b:=h'.p;have c:=h.c1;simp only at a b c;have:nC'*C'=nC*C':=by omega
  exact Nat.eq_of_mul_eq_mul_right (by omega) this
 subst e2;have e3:n'=n:=by have a:=h.n;have b:=h'.n;simp only at a b;omega
 subst e3;exact Q9K _ _ _ _ _ _ _ _ _ l
end
end
set_option maxRecDepth 100000
section
variable{w:World}{R:Value->World->Prop}
def va235:Ann:=⟨fun id=>cond (Nat.beq id 4) ⟨[(28,.int .i64 0)],([4,6]++rg 29 10)⟩ (cond (Nat.beq id 17) ⟨[(84,.int .i64 0)],([4,17]++rg 85 12)⟩ (LI.none)),fun l=>none,fun i=>cond (Nat.beq i 3) (some ⟨[],([4]++rg 18 8)⟩) (cond (Nat.beq i 12) (some ⟨[],([4]++rg 46 7)⟩) (cond (Nat.beq i 16) (some ⟨[],([4]++rg 72 10)⟩) (cond (Nat.beq i 22) (some ⟨[],([4,17]++rg 82 15)⟩) (none))))⟩
def vc235(x0_0 x0_1:Int)(x1a:Option Addr)(x1l x1c:Nat)(w:World)(R:VW):Prop:=
 ∀(n0:Nat)(w1:World),n0=w.heap.size->w1=w.alloc (.cells #[.int .i64 x0_0,.int .i64 x0_1] 23)->∃x2:World->Prop,ifB (decide ((↑x1l:Int)>150)) (CS 11 #[] w1 fun v3 w4=>∃b5:Bool,v3=.bool b5 /\ R (.bool b5) w4) (∃i6 i7:Int,CellsAt w1 (zA n0) [.int .i64 i6,.int .i64 i7] /\ CS 25 #[.agg #[.int .i64 i6,.int .i64 i7],.slice none 0 0,.int .i64 1] w1 fun v8 w9=>∃b10:Bool,v8=.bool b10 /\ ifB b10 (CS 11 #[] w9 fun v11 w12=>∃b13:Bool,v11=.bool b13 /\ R (.bool b13) w12) (x2 w9)) /\ ∀(jv:Nat->Value)(w14:World),x2 w14->∃x15:Nat->Int->World->Prop,(∃n16:Nat,x15 n16 0 w14) /\ ∀(n17:Nat)(jv:Nat->Value)(i18:Int)(w19:World),x15 n17 i18 w19->ifB (decide (i18<(↑x1l:Int))) (0<=i18 /\ i18<(↑x1l:Int) /\ someA x1a fun a20=>∃(i21 i22 i23 i24 i25:Int)(s26:ByteArray)(i27:Int),CellsAt w19 (a20.add (i18.toNat*7)) [.int .i64 i21,.int .i64 i22,.int .i64 i23,.int .i64 i24,.int .u64 i25,.string s26,.int .i64 i27] /\ ∀(n28:Nat)(w29:World),n28=w19.heap.size->w29=w19.alloc (.cells #[.int .i64 0,.int .i64 0,.int .i64 0,.int .i64 0,.int .u64 0,.string (.mk #[]),.int .i64 0] 62)->WrC w29 (zA n28) 7 /\ ∀(w30:World),w30=wr w29 (zA n28) [.int .i64 i21,.int .i64 i22,.int .i64 i23,.int .i64 i24,.int .u64 i25,.string s26,.int .i64 i27]->∃s31:ByteArray,w30.cell? (((zA n28).add 0).add 5)=some (.string s31) /\ ifB (decide ((↑s31.size:Int)>1024)) (CS 11 #[] w30 fun v32 w33=>∃b34:Bool,v32=.bool b34 /\ R (.bool b34) w33) (∃n35:Nat,n35<n17 /\ x15 n35 (IntKind.i64.wrap (i18+1)) w30)) (∀(n36:Nat)(w37:World),n36=w19.heap.size->w37=w19.alloc (.cells #[] 62)->∃(p38:Option Addr)(n39 n40:Nat)(w41:World),Sem.run prog (Builtin.append_ #[59,59] 59 #[.slice (some (zA n36)) 0 0,.slice x1a x1l x1c]) w37=.ok (.slice p38 n39 n40) w41 /\ CS 26 #[.slice p38 n39 n40] w41 fun v42 w43=>∃(s44:ByteArray)(i45:Int),v42=.tuple #[.string s44,.int .i64 i45] /\ ∃x46:World->Prop,ifB (i45 != 0) (ifB (decide (s44=ByteArray.mk #[])) (CS 11 #[] w43 fun v47 w48=>∃b49:Bool,v47=.bool b49 /\ R (.bool b49) w48) (R (.bool false) w43)) (x46 w43) /\ ∀(jv:Nat->Value)(w50:World),x46 w50->∀(w51:World),w51=w50.drew->∃i52 i53:Int,CellsAt w51 (zA n0) [.int .i64 i52,.int .i64 i53] /\ CS 28 #[.string s44] w51 fun v54 w55=>∃(p56:Option Addr)(n57 n58:Nat),v54=.slice p56 n57 n58 /\ (∃i59 i60:Int,CellsAt w55 (zA n0) [.int .i64 i59,.int .i64 i60] /\ Value.agg #[.int .i64 i59,.int .i64 i60]=.agg #[.int .i64 i52,.int .i64 i53]) /\ CS 27 #[.agg #[.int .i64 i52,.int .i64 i53],.slice p56 n57 n58] w55 fun v61 w62=>∃(p63 p64:Option Addr)(n65 n66:Nat)(p67:Option Addr)(n68 n69:Nat)(i70:Int),v61=.tuple #[.pointer p63,.slice p64 n65 n66,.slice p67 n68 n69,.int .i64 i70] /\ ∀(w71:World),w71=w62.drew->∃i72 i73:Int,CellsAt w71 (zA n0) [.int .i64 i72,.int .i64 i73] /\ ∀(n74:Nat)(w75:World),n74=w71.heap.size->w75=w71.alloc (.cells #[] 62)->(∃i76 i77:Int,CellsAt w75 (zA n0) [.int .i64 i76,.int .i64 i77] /\ Value.agg #[.int .i64 i76,.int .i64 i77]=.agg #[.int .i64 i72,.int .i64 i73]) /\ ∃(p78:Option Addr)(n79 n80:Nat)(w81:World),Sem.run prog (Builtin.append_ #[59,59] 59 #[.slice (some (zA n74)) 0 0,.slice x1a x1l x1c]) w75=.ok (.slice p78 n79 n80) w81 /\ (∃i82 i83:Int,CellsAt w81 (zA n0) [.int .i64 i82,.int .i64 i83] /\ Value.agg #[.int .i64 i82,.int .i64 i83]=.agg #[.int .i64 i72,.int .i64 i73]) /\ CS 27 #[.agg #[.int .i64 i72,.int .i64 i73],.slice p78 n79 n80] w81 fun v84 w85=>∃(p86 p87:Option Addr)(n88 n89:Nat)(p90:Option Addr)(n91 n92:Nat)(i93:Int),v84=.tuple #[.pointer p86,.slice p87 n88 n89,.slice p90 n91 n92,.int .i64 i93] /\ ∃x94:World->Prop,ifB (i70 != i93) (R (.bool false) w85) (ifB ((↑n68:Int) != (↑n91:Int)) (R (.bool false) w85) (x94 w85)) /\ ∀(jv:Nat->Value)(w95:World),x94 w95->∃x96:World->Prop,(∃x97:Nat->Int->World->Prop,(∃n98:Nat,x97 n98 0 w95) /\ ∀(n99:Nat)(jv:Nat->Value)(i100:Int)(w101:World),x97 n99 i100 w101->ifB (decide (i100<(↑n68:Int))) (∀(w102:World),w102=w101.drew->0<=i100 /\ i100<(↑n68:Int) /\ someA p67 fun a103=>w102=w102 /\ ∃(i104 i105 i106 i107:Int)(s108:ByteArray)(i109:Int),CellsAt w102 (a103.add (i100.toNat*6)) [.int .i64 i104,.int .u64 i105,.int .i64 i106,.int .i64 i107,.string s108,.int .i64 i109] /\ 0<=i100 /\ i100<(↑n91:Int) /\ someA p90 fun a110=>w102=w102 /\ ∃(i111 i112 i113 i114:Int)(s115:ByteArray)(i116:Int),CellsAt w102 (a110.add (i100.toNat*6)) [.int .i64 i111,.int .u64 i112,.int .i64 i113,.int .i64 i114,.string s115,.int .i64 i116] /\ ∃(b117:Bool)(w118:World),Sem.run prog (binOp BinOp.neq 40 (.agg #[.int .i64 i104,.int .u64 i105,.int .i64 i106,.int .i64 i107,.string s108,.int .i64 i109]) (.agg #[.int .i64 i111,.int .u64 i112,.int .i64 i113,.int .i64 i114,.string s115,.int .i64 i116])) w102=.ok (.bool b117) w118 /\ w118=w102 /\ ifB b117 (R (.bool false) w102) (∃n119:Nat,n119<n99 /\ x97 n119 (IntKind.i64.wrap (i100+1)) w102)) (x96 w101)) /\ ∀(jv:Nat->Value)(w120:World),x96 w120->∀(w121:World),w121=w120.drew->ifB (i70 != 0) (Value.tuple #[]=.tuple #[] /\ w121=w121 /\ R (.bool true) w121) (∃i122 i123:Int,CellsAt w121 (zA n0) [.int .i64 i122,.int .i64 i123] /\ ∃i124 i125:Int,CellsAt w121 (zA n0) [.int .i64 i124,.int .i64 i125] /\ CS 29 #[.agg #[.int .i64 i122,.int .i64 i123],.pointer p63] w121 fun v126 w127=>∃s128:ByteArray,v126=.string s128 /\ (∃i129 i130:Int,CellsAt w127 (zA n0) [.int .i64 i129,.int .i64 i130] /\ Value.agg #[.int .i64 i129,.int .i64 i130]=.agg #[.int .i64 i124,.int .i64 i125]) /\ CS 29 #[.agg #[.int .i64 i124,.int .i64 i125],.pointer p86] w127 fun v131 w132=>∃s133:ByteArray,v131=.string s133 /\ w132=w132 /\ ifB (decide (s128=s133)) (CS 11 #[] w132 fun v134 w135=>∃b136:Bool,v134=.bool b136 /\ w135=w135 /\ w135=w135 /\ R (.bool b136) w135) (w132=w132 /\ w132=w132 /\ R (.bool false) w132)))
theorem vc235.ok{x0_0 x0_1:Int}{x1a:Option Addr}{x1l x1c:Nat}(h:vc235 x0_0 x0_1 x1a x1l x1c w R ):Calls prog 7 #[.agg #[.int .i64 x0_0,.int .i64 x0_1],.slice x1a x1l x1c] w (Ret R):=
 bodyE va235 Tryz.func7 (h:=h)
end
set_option maxRecDepth 20000
section
open Go.RowKit Go.Maps Thing
abbrev StSh:Sh:=.row 7 64 (.pair (.pair (.int .i64) (.pair (.int .i64) (.pair (.int .i64) (.pair (.int .i64) (.pair (.int .u64) (.pair .str .unit)))))) (.pair (.int .i64) .unit))
abbrev CfSh:Sh:=.pair (.int .i64) (.pair (.int .i64) .unit)
abbrev stF(x:(Int × Int × Int × Int × Int × ByteArray × Unit) × Int × Unit):Stp:=⟨⟨x.1.1,x.1.2.1,x.1.2.2.1,x.1.2.2.2.1,x.1.2.2.2.2.1,x.1.2.2.2.2.2.1⟩,x.2.1⟩
section
variable{w W:World}{F:Nat->Prop}{X C:Thing}{R:VW}{o:Obj}
def stL(x:StSh.T):List Stp:=List.map (α:=(Int × Int × Int × Int × Int × ByteArray × Unit) × Int × Unit) stF x.2
theorem Qdz{A B:Type}{f:A->B}{l:List A}{i:Nat}{y:B}(hi:(l.map f)[i]? = some y):∃z,l[i]? = some z /\ y=f z:=by
 rw[List.getElem?_map] at hi;obtain⟨z,hz,e⟩:=Option.map_eq_some_iff.1 hi;exact⟨z,hz,e.symm⟩
theorem Q9U{x:StSh.T}{i:Nat}{y:Stp}(hi:(stL x)[i]? = some y):∃z,x.2[i]? = some z /\ y=stF z:=Qdz (f:=stF) hi
theorem Qe0{x:StSh.T}(h:StSh.Ok w x):RowAt w x.1.1 7 spL (stL x):=fun i y hi=>by
 obtain⟨z,hz,rfl⟩:=Q9U hi;exact(h.2.2.2 i z hz).1
theorem Qft{x:StSh.T}(h:StSh.Ok w x):∀y ∈ stL x,StpOk y:=fun y hy=>by
 obtain⟨i,hi⟩:=List.mem_iff_getElem?.1 hy;obtain⟨z,hz,rfl⟩:=Q9U hi;obtain⟨⟨_,h1,_,_,h2,_⟩,h3,_⟩:=(h.2.2.2 i z hz).2;exact⟨h1,by have:=QaA h2;exact⟨this.1,by have:=this.2;omega⟩,h3⟩
theorem Q6k{e:TypeId}{k bytes t:Nat}{Z:Type}{f:Z->List Value}(E:ElemOk prog t e k bytes){v:Value}{l:List Z}(hown:ORow w e k f v l)(c:Nat) :
  (Builtin.append_ #[t,t] t #[v,.slice none 0 c]).run prog w=.ok v w:=by
 obtain⟨i,z,hi,hz,hs,hby,hzs⟩:=E.info;rcases hown.2 with⟨rfl,h0⟩ | ⟨g,cap,cur,rfl,_,_,hnc,_⟩
 ·simp[Builtin.append_,run_underlying E.slice,sizeOf,typeInfo,hi,Builtin.lenOf,Builtin.firstCells]
 ·simp[Builtin.append_,run_underlying E.slice,sizeOf,typeInfo,hi,Builtin.lenOf,Builtin.firstCells,hnc,storeCells]
theorem Q3S{p:Option Addr}{c:Nat}{l:List Stp}(hr:RowAt w p 7 spL l)(hl:l.length<=1000) :
  ∃p' c' w',(Builtin.append_ #[59,59] 59 #[.slice (some ⟨w.heap.size,0,none⟩) 0 0,.slice p l.length c]).run prog (w.alloc (Obj.cells #[] 62))=.ok (.slice p' l.length c') w' /\
   ORow w' 62 7 spL (.slice p' l.length c') l /\ Ext w w' /\ ∀j,(Value.slice p' l.length c').ownBlock=some j->w.heap.size<=j:=by
 refine Q08 (K:=fun n w1=>∃p' c' w',(Builtin.append_ #[59,59] 59 #[.slice (some ⟨n,0,none⟩) 0 0,.slice p l.length c]).run prog w1=.ok (.slice p' l.length c') w' /\
   ORow w' 62 7 spL (.slice p' l.length c') l /\ Ext w w' /\ ∀j,(Value.slice p' l.length c').ownBlock=some j->w.heap.size<=j) (fun n w1 hb1 hE hs hs1=>?_) _ _ rfl rfl
 have hown:ORow w1 62 7 spL (.slice (some ⟨n,0,none⟩) 0 0) []:=⟨rfl,.inr ⟨n,0,#[],rfl,Nat.zero_le _,hb1,Nat.zero_le _,Nat.zero_le _,rfl,rfl⟩⟩;have hr1:=hr.ext hE;cases p with
 | none=>
  have hl0:l=[]:=by
   cases l with
   | nil=>rfl
   | cons x l=>obtain⟨a,ha,_⟩:=hr 0 x rfl;cases ha
  subst hl0;exact⟨_,_,w1,Q6k elemStp hown c,hown,hE,fun j hj=>by simp only[Value.ownBlock,Option.some.injEq] at hj;omega⟩
 | some a=>
  obtain⟨p',c',w',hrun,hr',hm,hn⟩:=ORow.append elemStp Q4I Q9S hown 59 a c l (fun j x hx=>by
   obtain⟨a',e,hc⟩:=hr1 j x hx;cases e;exact hc) (by simp only[maxLen,List.length_nil];omega) (by simp only[List.length_nil];omega)
  simp only[List.nil_append,List.length_nil,Nat.zero_add] at hrun hr' hn;refine⟨p',c',w',hrun,hr',hE.new hm (fun k hk=>?_),fun k hk=>?_⟩
  ·simp only[Value.ownBlock,Option.some.injEq] at hk;omega
  ·rcases hn k hk with hk | hk
   ·simp only[Value.ownBlock,Option.some.injEq] at hk;omega
   ·omega
theorem Q66{p:Option Addr}{k:Nat}{Z:Type}{f:Z->List Value}{l:List Z}(h0:(tabT o).P W (· = 0))(hr:RowAt W p k f l)(h:X.P w F)(e:X=tabT o*C)(st:Step (· = 0) W F w):RowAt w p k f l:=by
 obtain⟨F1,h1,sub⟩:=Q0e h e;exact hr.ext (Q2i h0 h1 (st.sub sub))
theorem Q5z(P0 C0:Int){n0:Nat}{p:Option Addr}{c:Nat}{l:List Stp}{K:Option Addr->Option Addr->Nat->Nat->Option Addr->Nat->Nat->Int->World->Prop}(h0:(tabT o).P W (· = 0))(hr:RowAt W p 7 spL l)(hl:l.length<=150)(hok:∀x ∈ l,StpOk x)
  (h:X.P w F) (e:X=tabT o*(blk n0 (cfO P0 C0)*C)) (st:Step (· = 0) W F w)
  (r0:¬Cl.CfgOk P0 C0->∀w' F',(tabT o*(blk n0 (cfO P0 C0)*C)).P w' F'->Step (· = 0) W F' w'->K none none 0 0 none 0 0 12 w')
  (r1:∀s sb y po no co ps cs w' F',Cl.CfgOk P0 C0->s.o=o->SvOk s P0 C0->(svX s sb y (runL s l).x*(saT (.slice ps (runL s l).said.length cs) (runL s l).said*(blk n0 (cfO P0 C0)*C))).P w' F'->Step (· = 0) W F' w'->K (some ⟨sb,0,none⟩) po no co ps (runL s l).said.length cs 0 w') :
  ∀(w71:World),w71=w.drew->∃i72 i73:Int,CellsAt w71 (zA n0) [.int .i64 i72,.int .i64 i73] /\ ∀(n74:Nat)(w75:World),n74=w71.heap.size->w75=w71.alloc (Obj.cells #[] 62)->(∃i76 i77:Int,CellsAt w75 (zA n0) [.int .i64 i76,.int .i64 i77] /\ Value.agg #[.int .i64 i76,.int .i64 i77]=.agg #[.int .i64 i72,.int .i64 i73]) /\ ∃(p78:Option Addr)(n79 n80:Nat)(w81:World),Sem.run prog (Builtin.append_ #[59,59] 59 #[.slice (some (zA n74)) (0:Nat) (0:Nat),.slice p l.length c]) w75=Result.ok (.slice p78 n79 n80) w81 /\ (∃i82 i83:Int,CellsAt w81 (zA n0) [.int .i64 i82,.int .i64 i83] /\ Value.agg #[.int .i64 i82,.int .i64 i83]=.agg #[.int .i64 i72,.int .i64 i73]) /\
   CS 27 #[.agg #[.int .i64 i72,.int .i64 i73],.slice p78 n79 n80] w81 fun v84 w85=>∃(p86 p87:Option Addr)(n88 n89:Nat)(p90:Option Addr)(n91 n92:Nat)(i93:Int),v84=.tuple #[.pointer p86,.slice p87 n88 n89,.slice p90 n91 n92,.int .i64 i93] /\ K p86 p87 n88 n89 p90 n91 n92 i93 w85:=by
 rintro w1 rfl;have h1:=Thing.grow h (Ext.drew w);have st1:=st.trans (Step.ext (Ext.drew w));generalize w.drew=w1 at h1 st1 ⊢;have rC:∀ {w':World} {F':Nat->Prop} {X Z:Thing},X.P w' F'->X=blk n0 (cfO P0 C0)*Z->w'.heap[n0]? = some (cfO P0 C0):=fun p e=>Q09 p e;have hb1:=rC (Z:=tabT o*C) h1 (by rw[e];exact sw4 _ _ _);refine⟨_,_,Q07 (vs:=[.int .i64 P0,.int .i64 C0]) hb1,?_⟩;rintro n w2 rfl rfl;refine⟨⟨_,_,Q07 (vs:=[.int .i64 P0,.int .i64 C0]) ((Ext.alloc w1 _).keep hb1),rfl⟩,?_⟩;obtain⟨p',c',w3,hrun,row,hE,hn⟩:=Q3S (c:=c) (Q66 (C:=blk n0 (cfO P0 C0)*C) h0 hr h1 e st1) (by omega);refine⟨p',_,c',w3,hrun,⟨_,_,Q07 (vs:=[.int .i64 P0,.int .i64 C0]) (hE.keep hb1),rfl⟩,?_⟩;obtain⟨h3,st3⟩:=Q0h (B:=stpsT (.slice p' l.length c') l) h1 hE ⟨row,rfl⟩ hn;have s3:=st1.trans st3;refine QfE (o:=o) (C:=blk n0 (cfO P0 C0)*C) P0 C0 (by omega) hok (re h3 (by rw[e];exact sw4 _ _ _)) (fun hno w4 p4 hE4=>?_) fun s sb y po co ps cs w4 F4 hcfg ho hs p4 st4=>?_
 ·obtain⟨F5,h5,sub⟩:=drop_left (re p4 (sw4 _ _ _));exact⟨_,_,_,_,_,_,_,_,rfl,r0 hno w4 F5 h5 ((s3.trans (Step.ext hE4)).sub sub)⟩
 ·obtain⟨F5,h5,sub⟩:=drop_left (A:=stpsT (.slice p' l.length c') l*dnT (.slice po (runL s l).ops.length co) (runL s l).ops) (B:=svX s sb y (runL s l).x*(saT (.slice ps (runL s l).said.length cs) (runL s l).said*(blk n0 (cfO P0 C0)*C))) (re p4 (by ac_rfl));exact⟨_,_,_,_,_,_,_,_,rfl,r1 s sb y po _ co ps cs w4 F5 hcfg ho hs h5 ((s3.trans st4).sub sub)⟩
theorem Q8i(P0 C0:Int){p:Option Addr}{c:Nat}{l:List Stp}(tab:Sf.Tab W)(hr:RowAt W p 7 spL l)(hok:∀x ∈ l,StpOk x) :
  Calls prog 7 #[.agg #[.int .i64 P0,.int .i64 C0],.slice p l.length c] W (Ret (Yes W)):=by
 obtain⟨o,h0⟩:=Qat tab;refine vc235.ok ?_;unfold vc235;refine Q0j h0 fun n0 w1 F1 h1 s1 _=>?_;have h1:(tabT o*blk n0 (cfO P0 C0)).P w1 F1:=re (X:=blk n0 (cfO P0 C0)*tabT o) h1 (zztmc _ _);have rC:∀ {w':World} {F':Nat->Prop} {X Z:Thing},X.P w' F'->X=blk n0 (cfO P0 C0)*Z->w'.heap[n0]? = some (cfO P0 C0):=fun p e=>Q09 p e;have tB:∀ {w':World} {F':Nat->Prop},(tabT o*blk n0 (cfO P0 C0)).P w' F'->CellsAt w' ⟨n0,0,none⟩ [.int .i64 P0,.int .i64 C0]:=fun p=>Q07 (rC p (zztmc _ _));refine⟨fun w'=>l.length<=150 /\ ∃F',(tabT o*blk n0 (cfO P0 C0)).P w' F' /\ Step (· = 0) W F' w',Q05 (fun q=>Qa7 h0 h1 s1) (fun q=>⟨_,_,tB h1,Qed P0 C0 fun w2 hE=>⟨_,rfl,Q05 (fun q2=>Qa7 h0 (Thing.grow h1 hE) (s1.trans (Step.ext hE))) (fun q2=>⟨by have:=of_decide_eq_false q;omega,F1,Thing.grow h1 hE,s1.trans (Step.ext hE)⟩)⟩⟩),?_⟩;rintro jv w3 ⟨hlen,F3,h3,s3⟩;refine⟨fun f i w'=>∃j:Nat,i=(j:Int) /\ f+j=l.length /\ (∀x ∈ l.take j,x.o.D.size<=1024) /\ ∃F',(tabT o*blk n0 (cfO P0 C0)).P w' F' /\ Step (· = 0) W F' w',⟨l.length,0,rfl,rfl,fun x hx=>(by cases hx),F3,h3,s3⟩,?_⟩;rintro f jv i w4 ⟨j,rfl,hf,hD,F4,h4,s4⟩;refine Q05 (fun q=>?_) (fun q=>?_)
 ·have q:=zzodt q;have hj:j<l.length:=by omega
  obtain⟨x,hx⟩:∃x,l[j]? = some x:=⟨_,zzgge hj⟩;obtain⟨a,ha,hc⟩:=Q66 h0 hr h4 rfl s4 j x hx;subst ha;refine⟨by omega,by omega,?_⟩;rw[zztnc];refine⟨_,_,_,_,_,_,_,hc,Q0j h4 fun n w5 F5 h5 s5 _=>?_⟩;refine Q0B (b:=n) (o:=0) (arr:=(spL zS).toArray) (T:=62) (C:=tabT o*blk n0 (cfO P0 C0)) h5 rfl (by simp) fun w6 F6 h6 s6=>?_;rw[setAt7 _ rfl] at h6;have h6:(skT n x*(tabT o*blk n0 (cfO P0 C0))).P w6 F6:=h6;refine⟨x.o.D,by rw[Q02,Q02];exact Q01 (Q09 h6 rfl) rfl,?_⟩;obtain⟨F7,h7,sub⟩:=drop_left h6;have s7:=((s4.trans s5).trans s6).sub sub;refine Q05 (fun q2=>Qa7 h0 h7 s7) (fun q2=>⟨f-1,by omega,j+1,by rw[Q04 (by omega) (by omega)];omega,by omega,fun y hy=>?_,F7,h7,s7⟩);have q2:=of_decide_eq_false q2;rw[List.take_add_one,hx] at hy;rcases zzmpd.1 hy with hy | hy
  ·exact hD y hy
  ·have:y=x:=by simpa using hy
   rw[this];omega
 have q:=of_decide_eq_false q;rw[List.take_of_length_le (by omega)] at hD;rintro n w5 rfl rfl;obtain⟨p',c',w6,hrun,row,hE,hn⟩:=Q3S (c:=c) (Q66 h0 hr h4 rfl s4) (by omega);obtain⟨h6,st6⟩:=Q0h (B:=stpsT (.slice p' l.length c') l) h4 hE ⟨row,rfl⟩ hn;have s6:=s4.trans st6;refine⟨p',_,c',w6,hrun,?_⟩;refine Qej (C:=tabT o*blk n0 (cfO P0 C0)) hlen (fun x hx=>⟨(hok x hx).h,hD x hx⟩) h6 (fun e w7 F7 he h7 s7=>?_) fun w7 F7 hgood hl16 h7 s7=>?_
 ·obtain⟨F8,h8,sub⟩:=drop_left h7;exact⟨_,_,rfl,fun _=>False,Q03 (by simpa using he) (Q03 (by simp) (Qa7 h0 h8 ((s6.trans s7).sub sub))),fun _ _ z=>z.elim⟩
 obtain⟨F8,h8,sub⟩:=drop_left h7;refine⟨_,_,rfl,fun w'=>∃F',(tabT o*blk n0 (cfO P0 C0)).P w' F' /\ Step (· = 0) W F' w',Q00 rfl ⟨F8,h8,(s6.trans s7).sub sub⟩,?_⟩;clear h7 h8 sub s7 h6 st6 s6 hrun row hE hn h4 s4;rintro jv w8 ⟨F9,h9,s9⟩;rintro w9 rfl;have h9:=Thing.grow h9 (Ext.drew w8);have s9:=s9.trans (Step.ext (Ext.drew w8));generalize w8.drew=w9 at h9 s9 ⊢;refine⟨_,_,tB h9,?_⟩;have hrd:rdL (strOf (l.flatMap stpW))=l:=QdL (by omega) (fun x hx=>⟨hgood x hx,(hok x hx).h⟩) hl16;refine QfD _ fun pl cl w10 F10=>?_;rw[hrd];intro hP hE hn;obtain⟨h10,st10⟩:=Q0h (B:=stpsT (.slice pl l.length cl) l) h9 hE hP hn;have s10:=s9.trans st10;refine⟨_,_,_,rfl,⟨_,_,tB (Thing.grow h9 hE),rfl⟩,?_⟩;refine QfE (o:=o) (C:=blk n0 (cfO P0 C0)) P0 C0 (by omega) hok (re h10 (sw4 _ _ _)) (fun hno w11 p11 hE11=>?_) fun s sb y po co ps cs w11 F11 hcfg ho hs p11 st11=>?_
 ·refine⟨_,_,_,_,_,_,_,_,rfl,?_⟩;obtain⟨F12,h12,sub⟩:=drop_left (re p11 (sw4 _ _ _));have s12:=(s10.trans (Step.ext hE11)).sub sub;refine Q5z (C:=emp) P0 C0 h0 hr hlen hok h12 (by rw[Q0b]) s12 (fun _ w13 F13 h13 s13=>?_) fun s sb y po no co ps cs w13 F13 hcfg _ _ _ _=>absurd hcfg hno;rw[Q0b] at h13
  let G:World->Prop:=fun w'=>∃F',(tabT o*blk n0 (cfO P0 C0)).P w' F' /\ Step (· = 0) W F' w'
  refine⟨G,Q00 rfl (Q00 rfl ⟨F13,h13,s13⟩),fun jv w14 g14=>⟨G,⟨fun f i w'=>i=0 /\ G w',⟨0,rfl,g14⟩,?_⟩,?_⟩⟩
  ·rintro f jv i w15 ⟨rfl,g15⟩;exact Q00 rfl g15
  ·rintro jv w15 ⟨F15,h15,s15⟩ w16 rfl;have h16:=Thing.grow h15 (Ext.drew w15);have s16:=s15.trans (Step.ext (Ext.drew w15));generalize w15.drew=w16 at h16 s16 ⊢;obtain⟨F17,h17,sub⟩:=Q0e h16 rfl;exact Q03 rfl ⟨rfl,rfl,rfl,Q2i h0 h17 (s16.sub sub)⟩
 refine⟨_,_,_,_,_,_,_,_,rfl,?_⟩;have hbl:=(Q6l hs hok).ad.bl;have hat:=Qby hs hok;have hsl:=(Q6l hs hok).sl;obtain⟨F12,h12,sub⟩:=drop_left (A:=stpsT (.slice pl l.length cl) l*dnT (.slice po (runL s l).ops.length co) (runL s l).ops) (B:=svX s sb y (runL s l).x*(saT (.slice ps (runL s l).said.length cs) (runL s l).said*blk n0 (cfO P0 C0))) (re p11 (by ac_rfl));have s12:=(s10.trans st11).sub sub;refine Q5z (C:=svTb s sb y (runL s l).x*saT (.slice ps (runL s l).said.length cs) (runL s l).said) P0 C0 h0 hr hlen hok h12 (by rw[Q3o,ho];show tabT o*svTb s sb y (runL s l).x*_=tabT o*(_*(svTb s sb y (runL s l).x*_));ac_rfl) s12 (fun hno _ _ _ _=>absurd hcfg hno) fun s2 sb2 y2 po2 no2 co2 ps2 cs2 w13 F13 _ ho2 hs2 h13 s13=>?_;rw[Qbz hs hs2 l] at h13 ⊢;have hsn:s2.n=s.n:=by
  have a:=hs.n;have b:=hs2.n;have c:=hs.p;have d:=hs2.p;omega
 have e0:tabT s2.o=tabT s.o:=by rw[ho,ho2]
 clear h12 s12 sub p11 st11 h10 st10 s10 hP hE hn h9 s9 h3 s3 h1 s1 hgood hl16 hrd hD;generalize runL s l=n at *
 let D:Thing:=svTb s2 sb2 y2 n.x*(saT (.slice ps2 n.said.length cs2) n.said*(saT (.slice ps n.said.length cs) n.said*blk n0 (cfO P0 C0)))
 have h13:(svX s sb y n.x*D).P w13 F13:=re h13 (by rw[Q3o,Q3o,e0];show _=tabT s.o*svTb s sb y n.x*(svTb s2 sb2 y2 n.x*(_*(_*_)));ac_rfl)
 let G:World->Prop:=fun w'=>∃F',(svX s sb y n.x*D).P w' F' /\ Step (· = 0) W F' w'
 refine⟨G,Q00 rfl (Q00 (by simp) ⟨F13,h13,s13⟩),?_⟩;rintro jv w14 ⟨F14,h14,s14⟩;refine⟨G,⟨fun f i w'=>∃j:Nat,i=(j:Int) /\ f+j=n.said.length /\ G w',⟨n.said.length,0,rfl,rfl,F14,h14,s14⟩,?_⟩,?_⟩
 ·rintro f jv i w15 ⟨j,rfl,hf,F15,h15,s15⟩;refine Q05 (fun q=>?_) (fun q=>⟨F15,h15,s15⟩);have q:=zzodt q;rintro w16 rfl;have h16:=Thing.grow h15 (Ext.drew w15);have s16:=s15.trans (Step.ext (Ext.drew w15));generalize w15.drew=w16 at h16 s16 ⊢;have hj:j<n.said.length:=by omega
  obtain⟨x,hx⟩:∃x,n.said[j]? = some x:=⟨_,zzgge hj⟩;have row1:=Q5C (e:=40) (k:=6) (f:=anL) (v:=.slice ps n.said.length cs) (l:=n.said) (Y:=svX s sb y n.x*(svTb s2 sb2 y2 n.x*(saT (.slice ps2 n.said.length cs2) n.said*blk n0 (cfO P0 C0)))) h16 (by show svX s sb y n.x*(svTb s2 sb2 y2 n.x*(_*(_*_)))=saT (.slice ps n.said.length cs) n.said*_;ac_rfl);have row2:=Q5C (e:=40) (k:=6) (f:=anL) (v:=.slice ps2 n.said.length cs2) (l:=n.said) (Y:=svX s sb y n.x*(svTb s2 sb2 y2 n.x*(saT (.slice ps n.said.length cs) n.said*blk n0 (cfO P0 C0)))) h16 (by show svX s sb y n.x*(svTb s2 sb2 y2 n.x*(_*(_*_)))=saT (.slice ps2 n.said.length cs2) n.said*_;ac_rfl);obtain⟨a1,hp1,hc1⟩:=ORow.cells Q5W row1 hx;obtain⟨a2,hp2,hc2⟩:=ORow.cells Q5W row2 hx;refine⟨by omega,by omega,?_⟩;rw[hp1];refine⟨rfl,?_⟩;rw[zztnc];refine⟨_,_,_,_,_,_,hc1,by omega,by omega,?_⟩;rw[hp2];refine⟨rfl,_,_,_,_,_,_,hc2,_,w16,(QcA w16 x x).2,rfl,Q00 (by rw[(QeG x x).2 rfl];rfl) ⟨f-1,by omega,j+1,by rw[Q04 (by omega) (by omega)];omega,by omega,F15,h16,s16⟩⟩
 rintro jv w15 ⟨F15,h15,s15⟩ w16 rfl;have h16:=Thing.grow h15 (Ext.drew w15);have s16:=s15.trans (Step.ext (Ext.drew w15));generalize w15.drew=w16 at h16 s16 ⊢;have tD:∀ {w':World} {F':Nat->Prop} {A B:Thing},(A*(B*(saT (.slice ps2 n.said.length cs2) n.said*(saT (.slice ps n.said.length cs) n.said*blk n0 (cfO P0 C0))))).P w' F'->CellsAt w' ⟨n0,0,none⟩ [.int .i64 P0,.int .i64 C0]:=fun {w' F' A B} p=>Q07 (rC (Z:=A*(B*(saT (.slice ps2 n.said.length cs2) n.said*saT (.slice ps n.said.length cs) n.said))) p (by ac_rfl));refine Q00 rfl ⟨_,_,tD h16,_,_,tD h16,?_⟩;refine(Qfy (s:=s) (sb:=sb) (y:=y) (x:=n.x) hs (by omega) hbl).use (C:=D) h16 rfl fun v w17 F17 p17 st17=>?_;rw[Q06] at p17;obtain⟨rfl,h17⟩:=p17;have s17:=s16.trans st17;refine⟨_,rfl,⟨_,_,tD h17,rfl⟩,?_⟩;generalize aTs n.x.a (noteA n.x.a.A.ts 0 s.n false)=a9 at h17;refine(Qfy (s:=s2) (sb:=sb2) (y:=y2) (x:=n.x) hs2 (by omega) (by rw[hsn];exact hbl)).use (C:=svTb s sb y {n.x with a:=a9}*(saT (.slice ps2 n.said.length cs2) n.said*(saT (.slice ps n.said.length cs) n.said*blk n0 (cfO P0 C0)))) h17 (by rw[Q3o,Q3o,e0];show tabT s.o*_*(svTb s2 sb2 y2 n.x*_)=_;ac_rfl) fun v w18 F18 p18 st18=>?_;rw[Q06] at p18;obtain⟨rfl,h18⟩:=p18;have s18:=s17.trans st18;refine⟨_,rfl,rfl,Q03 (by simp) ?_⟩;exact .of (QfA h0 ho2 h18 rfl s18).h fun v w' ⟨b,e,y⟩=>⟨b,e,rfl,rfl,y⟩
end
theorem walk_TopScript(W:World)(tab:Sf.Tab W)(x0:CfSh.T)(o0:CfSh.Ok W x0)(x1:StSh.T)(o1:StSh.Ok W x1) :
  Calls prog 7 #[CfSh.val x0,StSh.val x1] W (Ret (Yes W)):=by
 have h:=Q8i (W:=W) x0.1 x0.2.1 (p:=x1.1.1) (c:=x1.1.2) (l:=stL x1) tab (Qe0 o1) (Qft o1);have e:(stL x1).length=x1.2.length:=by unfold stL;exact List.length_map _
 rw[e] at h;exact h
end
end Go.Proofs.YtpnbcakbefplpaaGreatDoor
