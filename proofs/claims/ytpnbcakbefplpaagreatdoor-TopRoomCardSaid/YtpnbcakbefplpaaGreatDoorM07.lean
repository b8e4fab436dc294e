/- Texts merged: VcL4 WTR. Conditions: none. -/
import Derived.Test.YtpnbcakbefplpaaGreatDoorProg
import Derived.KernelRfl
import Derived.Test.YtpnbcakbefplpaaGreatDoorM06
set_option linter.unusedVariables false
set_option linter.unusedSimpArgs false
namespace Go.Proofs.YtpnbcakbefplpaaGreatDoor
set_option maxRecDepth 100000
section
variable{w:World}{R:Value->World->Prop}
def va232:Ann:=⟨fun id=>cond (Nat.beq id 7) ⟨[(32,.int .i64 0)],([4,12,13,14]++rg 33 76)⟩ (cond (Nat.beq id 11) ⟨[(39,.int .i64 0)],([4,13,14]++rg 40 68)⟩ (LI.none)),fun l=>none,fun i=>cond (Nat.beq i 17) (some ⟨[],(rg 48 26)⟩) (cond (Nat.beq i 18) (some ⟨[],(rg 74 9)⟩) (cond (Nat.beq i 21) (some ⟨[],([4,13,14]++rg 41 66)⟩) (none)))⟩
def vc232(x0_0 x0_1:Int)(x1:ByteArray)(w:World)(R:VW):Prop:=
 ∀(n0:Nat)(w1:World),n0=w.heap.size->w1=w.alloc (.cells #[.int .i64 x0_0,.int .i64 x0_1] 23)->∃i2 i3:Int,CellsAt w1 (zA n0) [.int .i64 i2,.int .i64 i3] /\ CS 9 #[.agg #[.int .i64 i2,.int .i64 i3],.string x1,.int .i64 150] w1 fun v4 w5=>∃(p6 p7:Option Addr)(n8 n9:Nat)(p10:Option Addr)(n11 n12:Nat),v4=.tuple #[.pointer p6,.slice p7 n8 n9,.slice p10 n11 n12] /\ ∃i13 i14:Int,CellsAt w5 (zA n0) [.int .i64 i13,.int .i64 i14] /\ CS 10 #[.agg #[.int .i64 i13,.int .i64 i14]] w5 fun v15 w16=>∃(p17:Option Addr)(i18:Int),v15=.tuple #[.pointer p17,.int .i64 i18] /\ ifB (i18 != 0) (CS 11 #[] w16 fun v19 w20=>∃b21:Bool,v19=.bool b21 /\ R (.bool b21) w20) (∀(n22:Nat)(w23:World),n22=w16.heap.size->w23=w16.alloc (.cells #[.int .i64 0,.int .i64 0,.int .i64 0,.int .i64 0,.int .i64 0,.int .i64 0,.int .i64 0,.int .i64 0] 58)->∃x24:Nat->Int->World->Prop,(∃n25:Nat,x24 n25 0 w23) /\ ∀(n26:Nat)(jv:Nat->Value)(i27:Int)(w28:World),x24 n26 i27 w28->ifB (decide (i27<(↑n8:Int))) (0<=i27 /\ i27<(↑n8:Int) /\ someA p7 fun a29=>∃(i30 i31 i32 i33 i34:Int)(s35:ByteArray),CellsAt w28 (a29.add (i27.toNat*6)) [.int .i64 i30,.int .i64 i31,.int .i64 i32,.int .i64 i33,.int .u64 i34,.string s35] /\ ∀(n36:Nat)(w37:World),n36=w28.heap.size->w37=w28.alloc (.cells #[.int .i64 0,.int .i64 0,.int .i64 0,.int .i64 0,.int .u64 0,.string (.mk #[])] 35)->WrC w37 (zA n36) 6 /\ ∀(w38:World),w38=wr w37 (zA n36) [.int .i64 i30,.int .i64 i31,.int .i64 i32,.int .i64 i33,.int .u64 i34,.string s35]->∃(i39 i40 i41 i42 i43:Int)(s44:ByteArray),CellsAt w38 (zA n36) [.int .i64 i39,.int .i64 i40,.int .i64 i41,.int .i64 i42,.int .u64 i43,.string s44] /\ CS 14 #[.pointer p17,.agg #[.int .i64 i39,.int .i64 i40,.int .i64 i41,.int .i64 i42,.int .u64 i43,.string s44]] w38 fun v45 w46=>∃(i47 i48 i49 i50:Int)(s51:ByteArray)(i52:Int),v45=.agg #[.int .i64 i47,.int .u64 i48,.int .i64 i49,.int .i64 i50,.string s51,.int .i64 i52] /\ ∃x53:Nat->Int->World->Prop,(∃n54:Nat,x53 n54 0 w46) /\ ∀(n55:Nat)(jv:Nat->Value)(i56:Int)(w57:World),x53 n55 i56 w57->ifB (decide (i56<8)) (∃x58:World->Prop,(CS 17 #[.pointer p17,.int .i64 i56] w57 fun v59 w60=>∃b61:Bool,v59=.bool b61 /\ ifB (!b61) (0<=i56 /\ i56<(↑(8:Nat):Int) /\ WrC w60 ((zA n22).add i56.toNat) 1 /\ ∀(w62:World),w62=wr w60 ((zA n22).add i56.toNat) [.int .i64 0]->x58 w62) (∃x63:World->Prop,(CS 18 #[.pointer p17,.int .i64 i56] w60 fun v64 w65=>∃(p66:Option Addr)(n67 n68:Nat),v64=.slice p66 n67 n68 /\ ifB ((↑n67:Int) == 0) (∃i69:Int,w65.cell? ((zA n36).add 1)=some (.int .i64 i69) /\ ifB (i69 == i56) (∃i70:Int,w65.cell? ((zA n36).add 0)=some (.int .i64 i70) /\ ifB (i70 == 2) (CS 20 #[.pointer p17,.int .i64 i56] w65 fun v71 w72=>∃i73:Int,v71=.int .i64 i73 /\ 0<=i56 /\ i56<(↑(8:Nat):Int) /\ WrC w72 ((zA n22).add i56.toNat) 1 /\ ∀(w74:World),w74=wr w72 ((zA n22).add i56.toNat) [.int .i64 i73]->x63 w74) (∃i75:Int,w65.cell? ((zA n36).add 0)=some (.int .i64 i75) /\ ifB (i75 == 1) (CS 20 #[.pointer p17,.int .i64 i56] w65 fun v76 w77=>∃i78:Int,v76=.int .i64 i78 /\ 0<=i56 /\ i56<(↑(8:Nat):Int) /\ WrC w77 ((zA n22).add i56.toNat) 1 /\ ∀(w79:World),w79=wr w77 ((zA n22).add i56.toNat) [.int .i64 i78]->x63 w79) (x63 w65))) (x63 w65)) (x63 w65)) /\ ∀(jv:Nat->Value)(w80:World),x63 w80->∃x81:World->Prop,(∀(w82:World),w82=w80.drew->0<=i56 /\ i56<(↑(8:Nat):Int) /\ w82=w82 /\ ∃i83:Int,w82.cell? ((zA n22).add i56.toNat)=some (.int .i64 i83) /\ CS 20 #[.pointer p17,.int .i64 i56] w82 fun v84 w85=>∃i86:Int,v84=.int .i64 i86 /\ (∃i87:Int,w85.cell? ((zA n22).add i56.toNat)=some (.int .i64 i87) /\ Value.int .i64 i87=.int .i64 i83) /\ (0<=i56 /\ i56<(↑(8:Nat):Int) /\ w85=w85 /\ Value.pointer (some ((zA n22).add i56.toNat))=.pointer (some ((zA n22).add i56.toNat))) /\ ∃(i88:Int)(w89:World),Sem.run Tryz.prog (Builtin.max_ #[3,3] 3 #[.int .i64 i83,.int .i64 i86]) w85=.ok (.int .i64 i88) w89 /\ w89=w85 /\ 0<=i56 /\ i56<(↑(8:Nat):Int) /\ w85=w85 /\ WrC w85 ((zA n22).add i56.toNat) 1 /\ ∀(w90:World),w90=wr w85 ((zA n22).add i56.toNat) [.int .i64 i88]->x81 w90) /\ ∀(jv:Nat->Value)(w91:World),x81 w91->CS 15 #[.pointer p17,.int .i64 i56] w91 fun v92 w93=>∃(p94:Option Addr)(n95 n96:Nat),v92=.slice p94 n95 n96 /\ ∀(w97:World),w97=w93.drew->0<=i56 /\ i56<(↑(8:Nat):Int) /\ w97=w97 /\ ∃i98:Int,w97.cell? ((zA n22).add i56.toNat)=some (.int .i64 i98) /\ CS 24 #[.int .i64 i98] w97 fun v99 w100=>∃i101:Int,v99=.int .i64 i101 /\ ifB (decide ((↑n95:Int)>i101)) (Value.tuple #[]=.tuple #[] /\ Value.tuple #[]=.tuple #[] /\ Value.tuple #[]=.tuple #[] /\ w100=w100 /\ R (.bool false) w100) (∃i102:Int,w100.cell? ((zA n0).add 0)=some (.int .i64 i102) /\ ∃i103:Int,w100.cell? ((zA n0).add 1)=some (.int .i64 i103) /\ i103 ≠ 0 /\ w100=w100 /\ CS 13 #[.pointer p17,.int .i64 i56] w100 fun v104 w105=>∃(p106:Option Addr)(n107 n108:Nat),v104=.slice p106 n107 n108 /\ (i103 ≠ 0 /\ w105=w105 /\ Value.int .i64 (IntKind.i64.wrap (i102.tdiv i103))=.int .i64 (IntKind.i64.wrap (i102.tdiv i103))) /\ (∃i109:Int,w105.cell? ((zA n0).add 1)=some (.int .i64 i109) /\ Value.int .i64 i109=.int .i64 i103) /\ (∃i110:Int,w105.cell? ((zA n0).add 0)=some (.int .i64 i110) /\ Value.int .i64 i110=.int .i64 i102) /\ w105=w105 /\ w105=w105 /\ ifB (decide ((↑n95:Int)>IntKind.i64.wrap ((↑n107:Int)*IntKind.i64.wrap (i102.tdiv i103)))) (R (.bool false) w105) (x58 w105)))) /\ ∀(jv:Nat->Value)(w111:World),x58 w111->∃n112:Nat,n112<n55 /\ x53 n112 (IntKind.i64.wrap (i56+1)) w111) (∃n113:Nat,n113<n26 /\ x24 n113 (IntKind.i64.wrap (i27+1)) w57)) (CS 11 #[] w28 fun v114 w115=>∃b116:Bool,v114=.bool b116 /\ R (.bool b116) w115))
theorem vc232.ok{x0_0 x0_1:Int}{x1:ByteArray}(h:vc232 x0_0 x0_1 x1 w R ):Calls Tryz.prog 6 #[.agg #[.int .i64 x0_0,.int .i64 x0_1],.string x1] w (Ret R):=
 bodyE va232 Tryz.func6 (h:=h)
end
set_option maxRecDepth 20000
section
open Go.RowKit Go.Maps Thing
abbrev pkO(P:Nat->Int):Obj:=fO 8 58 fun i=>.int .i64 (P i)
section
variable{s:Sv}{sb:Nat}{y:Sy}{x:Se}{w:World}{F:Nat->Prop}{X C:Thing}{R:VW}
theorem pk_wr{b:Nat}{P:Nat->Int}{i:Nat}{v:Int}{K:World->Prop}(h:X.P w F)(e:X=blk b (pkO P)*C)(hi:i<8)(k:∀w1 F',(blk b (pkO (updF P i v))*C).P w1 F'->Step F w F' w1->K w1) :
  (0:Int)<=(i:Int) /\ (i:Int)<(↑(8:Nat):Int) /\ WrC w ((zA b).add (i:Int).toNat) 1 /\ ∀w1,w1=wr w ((zA b).add (i:Int).toNat) [.int .i64 v]->K w1:=by
 rw[zztnc,Q02,Nat.zero_add];refine⟨by omega,by omega,Q1w h e hi fun w1 F' h1 s1=>k w1 F' ?_ s1⟩;have e:updV (fun i=>Value.int .i64 (P i)) i (.int .i64 v)=fun j=>.int .i64 (updF P i v j):=funext fun j=>by
  unfold updV updF;split <;> rfl
 rw[e] at h1;exact h1
theorem pk_cell{b:Nat}{P:Nat->Int}{i:Nat}(h:X.P w F)(e:X=blk b (pkO P)*C)(hi:i<8):w.cell? ((zA b).add (i:Int).toNat)=some (.int .i64 (P i)):=by
 rw[zztnc,Q02,Nat.zero_add];exact Q39 (Q0b h e) hi
theorem ss_empty{a:Ad}{i:Nat}{t:Tn}{ss:List Int}(ht:a.tn i=some t)(h:isKeys (obO a i) ss):ss.length=0 ↔ emptyB t:=by
 unfold obO at h;rw[ht] at h;constructor
 ·intro e k;have e:=List.eq_nil_of_length_eq_zero e;cases hk:t.ob k with
  | none=>rfl
  | some v=>
   have:=(h.2.2 k).2 (by show(t.ob k).isSome=true;rw[hk];rfl);rw[e] at this;cases this
 ·intro em
  match ss,h with
  | [],_=>rfl
  | k :: l,h=>
   have:=(h.2.2 k).1 (by simp);have this:(t.ob k).isSome=true:=this;rw[em k] at this;cases this
end
theorem walk_TopRoom(P0 C0:Int)(_:-9223372036854775808<=P0 /\ P0<=9223372036854775807)(_:-9223372036854775808<=C0 /\ C0<=9223372036854775807)(str:ByteArray)(_:str.size<=maxLen)(_:str.size<=reachBytes)(W:World)(tab:Sf.Tab W) :
  Calls Tryz.prog 6 #[.agg #[.int .i64 P0,.int .i64 C0],.string str] W (Ret (Yes W)):=by
 obtain⟨o,h0⟩:=tab_start tab;refine vc232.ok ?_;unfold vc232;refine Q0l h0 fun n0 w1 F1 h1 s1 _=>?_;have h1:(blk n0 (cfO P0 C0)*tabT o).P w1 F1:=h1;have rc:∀ {w':World} {F':Nat->Prop} {X Z:Thing},X.P w' F'->X=blk n0 (cfO P0 C0)*Z->w'.heap[n0]? = some (cfO P0 C0):=fun p e=>Q0b p e;refine⟨_,_,Q08 (vs:=[.int .i64 P0,.int .i64 C0]) (rc h1 rfl),?_⟩;refine t_playedOps (o:=o) (C:=blk n0 (cfO P0 C0)) P0 C0 str 150 (re h1 (zztmc _ _)) fun p0 po co ps ns cs ops w2 F2 hou hol h2 st2=>⟨_,_,_,_,_,_,_,rfl,?_⟩;have s2:=s1.trans st2;refine⟨_,_,Q08 (vs:=[.int .i64 P0,.int .i64 C0]) (rc (Z:=tabT o*dnT (.slice po ops.length co) ops) h2 (by show tabT o*(dnT (.slice po ops.length co) ops*blk n0 (cfO P0 C0))=_;ac_rfl)),?_⟩;refine s_newC (C:=dnT (.slice po ops.length co) ops*blk n0 (cfO P0 C0)) h2 P0 C0 (fun hno w3 h3 hE3=>⟨_,_,rfl,Q04 rfl (t_end h0 h3 (s2.trans (Step.ext hE3)))⟩) fun s sb y w3 F3 hcfg ho hs h3 st3=>⟨_,_,rfl,Q00 rfl ?_⟩;have s3:=s2.trans st3;have hP:P0=((s.nC*s.C:Nat):Int):=hs.p;have hC:C0=(s.C:Int):=hs.c;have c1:=hs.c1;have p4:=hs.p4
 let D:Thing:=dnT (.slice po ops.length co) ops*blk n0 (cfO P0 C0)
 have h3:(svX s sb y ⟨A0 s,[],[]⟩*D).P w3 F3:=h3;refine Q0l h3 fun np w4 F4 h4 s4 _=>?_;have h4:(blk np (pkO fun _=>0)*(svX s sb y ⟨A0 s,[],[]⟩*D)).P w4 F4:=h4;refine⟨fun f i w'=>∃j:Nat,i=(j:Int) /\ f+j=ops.length /\ ∃y x P F',AdInv s x.a /\ x.done.length<=j /\ PkA x.a P /\ (blk np (pkO P)*(svX s sb y x*D)).P w' F' /\ Step (· = 0) W F' w',⟨ops.length,0,rfl,rfl,y,_,_,F4,Q2k hs,Nat.le_refl _,fun i t _ h=>(by cases h),h4,s3.trans s4⟩,?_⟩;rintro f jv i w5 ⟨j,rfl,hf,y,x,P,F5,g,hd,hpk,h5,s5⟩;refine Q05 (fun q=>?pos) (fun q=>?neg)
 case neg=>exact t_endS (C:=blk np (pkO P)*D) h0 ho h5 (sw4 _ _ _) s5
 have q:=zzodt q;have hj:j<ops.length:=by omega
 obtain⟨op,hop⟩:∃op,ops[j]? = some op:=⟨_,zzgge hj⟩;have hrow:=rw_of (e:=35) (k:=6) (f:=opL) (v:=.slice po ops.length co) (l:=ops) (Y:=blk np (pkO P)*(svX s sb y x*blk n0 (cfO P0 C0))) h5 (by show blk np (pkO P)*(svX s sb y x*(dnT (.slice po ops.length co) ops*blk n0 (cfO P0 C0)))=dnT (.slice po ops.length co) ops*_;ac_rfl);obtain⟨ap,hp,hcells⟩:=ORow.cells opL_len hrow hop;refine⟨by omega,by omega,?_⟩;subst hp;rw[zztnc];have hou':=hou op (zzmog hop);refine⟨_,_,_,_,_,_,hcells,op_box h5 fun nb w6 F6 h6 s6=>?_⟩;have s6:=s5.trans s6;refine⟨_,_,_,_,_,_,Q08 (vs:=opL op) (Q0b h6 rfl),?_⟩;have gi:=Q26 g op;have gl:=Q2B (s:=s) (x:=x) op;have gp:=pk_do g hpk op
 let E:Thing:=blk nb (opB op)*D
 have e6:blk nb (opB op)*(blk np (pkO P)*(svX s sb y x*D))=svX s sb y x*(blk np (pkO P)*E):=by show _=svX s sb y x*(blk np (pkO P)*(blk nb (opB op)*D));ac_rfl
 refine(t_do g hou' (by omega)).use h6 e6 fun v w7 F7 p7 st7=>?_;obtain⟨y7,rfl,h7⟩:=Q0n p7;have s7:=s6.trans st7;generalize doM s x op=d at h7 gi gl gp ⊢;refine⟨_,_,_,_,_,_,rfl,?_⟩
 let Q:Nat->Nat->Int:=fun m i=>if i<m then pkN d.x.a op P i else P i
 have q0:Q 0=P:=funext fun i=>if_neg (Nat.not_lt_zero i);have qn:∀m v,v=pkN d.x.a op P m->updF (Q m) m v=Q (m+1):=fun m v e=>funext fun i=>by
  unfold updF;show(if i=m then v else if i<m then pkN d.x.a op P i else P i)=if i<m+1 then pkN d.x.a op P i else P i
  by_cases e1:i=m
  ·rw[if_pos e1,if_pos (by omega),e,e1]
  ·rw[if_neg e1];by_cases e2:i<m
   ·rw[if_pos e2,if_pos (by omega)]
   ·rw[if_neg e2,if_neg (by omega)]
 have h7:(blk np (pkO (Q 0))*(svX s sb y7 d.x*E)).P w7 F7:=re h7 (by rw[q0];exact sw4 _ _ _);refine⟨fun f' i' w'=>∃m:Nat,i'=(m:Int) /\ f'+m=8 /\ ∃F',(blk np (pkO (Q m))*(svX s sb y7 d.x*E)).P w' F' /\ Step (· = 0) W F' w',⟨8,0,rfl,rfl,F7,h7,s7⟩,?_⟩;rintro f' jv' i' w8 ⟨m,rfl,hf',F8,h8,s8⟩;refine Q05 (fun q=>?pos2) (fun q=>?neg2)
 case neg2=>
  have q:=of_decide_eq_false q;have em:m=8:=by omega
  subst em;obtain⟨F9,h9,sub⟩:=Q07 (A:=blk nb (opB op)) (B:=blk np (pkO (Q 8))*(svX s sb y7 d.x*D)) (re h8 (by show blk np (pkO (Q 8))*(svX s sb y7 d.x*(blk nb (opB op)*D))=_;ac_rfl));refine⟨f-1,by omega,j+1,by rw[Q03 (by omega) (by omega)];omega,by omega,y7,d.x,Q 8,F9,gi,by omega,fun i t hi ht=>?_,h9,s8.sub sub⟩;show PkOk t (if i<8 then pkN d.x.a op P i else P i);rw[if_pos hi];exact gp i t hi ht
 have q:=zzodt q;have hm:m<8:=by omega
 refine⟨fun w'=>∃F',(blk np (pkO (Q (m+1)))*(svX s sb y7 d.x*E)).P w' F' /\ Step (· = 0) W F' w',?_,fun _ w' ⟨F9,h9,s9⟩=>⟨f'-1,by omega,m+1,by rw[Q03 (by omega) (by omega)];omega,by omega,F9,h9,s9⟩⟩;have qm:Q m m=P m:=if_neg (Nat.lt_irrefl m);refine s_live (C:=blk np (pkO (Q m))*E) h8 (sw4 _ _ _) hm ⟨_,rfl,Q05 (fun hl=>?dead) (fun hl=>?alive)⟩
 case dead=>
  refine pk_wr h8 rfl hm fun w9 F9 h9 s9=>⟨F9,?_,s8.trans s9⟩;rw[qn m 0] at h9
  ·exact h9
  ·have hl:d.x.a.tn m=none:=by
    cases h:d.x.a.tn m with
    | none=>rfl
    | some t=>rw[h] at hl;cases hl
   unfold pkN;rw[hl]
 obtain⟨t,ht⟩:∃t,d.x.a.tn m=some t:=by
  cases h:d.x.a.tn m with
  | none=>rw[h] at hl;cases hl
  | some t=>exact⟨t,rfl⟩
 have hquo:quoO d.x.a m=(t.q.lb:Int):=by unfold quoO;rw[ht]
 have hok:=gp m t hm ht;have hrs:=room_said gi gp hm;have hT:(oT (d.x.a.tn m))=t.H.T:=by rw[ht];rfl
 have hpm:pkN d.x.a op P m=max (@ite _ (emptyB t /\ op.T=(m:Int) /\ (op.K=2 \/ op.K=1)) (Classical.propDecidable _) (t.q.lb:Int) (P m)) (t.q.lb:Int):=by unfold pkN;rw[ht]
 have hpkb:=(gi.tn m t hm ht).inv.pk.1.2
 let P1:Int:=@ite _ (emptyB t /\ op.T=(m:Int) /\ (op.K=2 \/ op.K=1)) (Classical.propDecidable _) (t.q.lb:Int) (P m)
 refine⟨fun w'=>∃F',(blk np (pkO (updF (Q m) m P1))*(svX s sb y7 d.x*E)).P w' F' /\ Step (· = 0) W F' w',?_,?_⟩
 ·refine s_blocks (C:=blk np (pkO (Q m))*E) gi.ok h8 (sw4 _ _ _) hm fun pb cb ss w9 F9 hik h9 s9=>⟨_,_,_,rfl,?_⟩;have hlen:=blkO_len hik;obtain⟨F10,h10,sub⟩:=Q07 h9;have s10:=s8.trans (s9.sub sub);have stay:¬(emptyB t /\ op.T=(m:Int) /\ (op.K=2 \/ op.K=1))->∃F',(blk np (pkO (updF (Q m) m P1))*(svX s sb y7 d.x*E)).P w9 F' /\ Step (· = 0) W F' w9:=fun no=>by
   have e1:P1=Q m m:=by rw[qm];exact if_neg no
   have e2:updF (Q m) m P1=Q m:=by rw[e1];exact Q0S (Q m) m
   rw[e2];exact⟨F10,h10,s10⟩
  have rO:w9.heap[nb]? = some (opB op):=Q0b (b:=nb) (o:=opB op) (C:=blk np (pkO (Q m))*(svX s sb y7 d.x*D)) h10 (by show blk np (pkO (Q m))*(svX s sb y7 d.x*(blk nb (opB op)*D))=_;ac_rfl);rw[hlen];refine Q05 (fun q1=>?_) (fun q1=>?_)
  case refine_2=>
   have q1:¬ss.length=0:=by simpa using q1
   exact stay fun z=>q1 ((ss_empty ht hik).2 z.1)
  have q1:ss.length=0:=by simpa using q1
  have em:=(ss_empty ht hik).1 q1;refine⟨_,by rw[Q02];exact Q01 rO rfl,Q05 (fun q2=>?_) (fun q2=>?_)⟩
  case refine_2=>
   have q2:¬op.T=(m:Int):=by simpa using q2
   exact stay fun z=>q2 z.2.1
  have q2:op.T=(m:Int):=by simpa using q2
  have anew:(op.K=2 \/ op.K=1)->CS 20 #[zP sb,.int .i64 (m:Int)] w9 fun(v71:Value) (w72:World)=>∃(i73:Int),v71=.int .i64 i73 /\ (0:Int)<=(m:Int) /\ (m:Int)<(↑(8:Nat):Int) /\ WrC w72 ((zA np).add (m:Int).toNat) 1 /\ ∀(w74:World),w74=wr w72 ((zA np).add (m:Int).toNat) [.int .i64 i73]->∃F',(blk np (pkO (updF (Q m) m P1))*(svX s sb y7 d.x*E)).P w74 F' /\ Step (· = 0) W F' w74:=fun hk=>by
   have e1:P1=(t.q.lb:Int):=if_pos ⟨em,q2,hk⟩;refine s_quota (C:=blk np (pkO (Q m))*E) gi.ok h10 (sw4 _ _ _) hm ⟨_,rfl,?_⟩;rw[hquo,e1];exact pk_wr h10 rfl hm fun w11 F11 h11 s11=>⟨F11,h11,s10.trans s11⟩
  refine⟨_,by rw[Q02];exact Q01 rO rfl,Q05 (fun q3=>?_) (fun q3=>?_)⟩
  ·have q3:op.K=2:=by simpa using q3
   exact anew (.inl q3)
  have q3:¬op.K=2:=by simpa using q3
  refine⟨_,by rw[Q02];exact Q01 rO rfl,Q05 (fun q4=>?_) (fun q4=>?_)⟩
  ·have q4:op.K=1:=by simpa using q4
   exact anew (.inr q4)
  ·have q4:¬op.K=1:=by simpa using q4
   exact stay fun z=>z.2.2.elim q3 q4
 rintro _ w9 ⟨F9,h9,s9⟩;refine⟨fun w'=>∃F',(blk np (pkO (Q (m+1)))*(svX s sb y7 d.x*E)).P w' F' /\ Step (· = 0) W F' w',?_,?_⟩
 ·rintro w10 rfl;have h10:=Thing.grow h9 (Ext.drew w9);have s10:=s9.trans (Step.ext (Ext.drew w9));generalize w9.drew=w10 at h10 s10 ⊢;have hc:=pk_cell h10 rfl hm;rw[Q0i] at hc;refine⟨by omega,by omega,rfl,_,hc,s_quota (C:=blk np (pkO (updF (Q m) m P1))*E) gi.ok h10 (sw4 _ _ _) hm ⟨_,rfl,⟨_,hc,rfl⟩,⟨by omega,by omega,rfl,rfl⟩,?_⟩⟩;rw[hquo];have em:(if (t.q.lb:Int)>P1 then(t.q.lb:Int)else P1)=pkN d.x.a op P m:=by
   rw[hpm];show _=max P1 (t.q.lb:Int);split <;> omega
  refine⟨_,w10,run_max_int2 w10 _ _ _ _ _ _,rfl,?_⟩;rw[em];obtain⟨a1,a2,a3⟩:=pk_wr (v:=pkN d.x.a op P m) (K:=fun w'=>∃F',(blk np (pkO (Q (m+1)))*(svX s sb y7 d.x*E)).P w' F' /\ Step (· = 0) W F' w') h10 rfl hm fun w11 F11 h11 s11=>⟨F11,by
   have e1:updF (updF (Q m) m P1) m (pkN d.x.a op P m)=Q (m+1):=by
    rw[<-qn m _ rfl];funext i;unfold updF;split <;> rfl
   rw[e1] at h11;exact h11,s10.trans s11⟩
  exact⟨a1,a2,rfl,a3⟩
 rintro _ w10 ⟨F10,h10,s10⟩;have hQ:Q (m+1) m=pkN d.x.a op P m:=if_pos (Nat.lt_succ_self m);refine s_pages (C:=blk np (pkO (Q (m+1)))*E) gi.ok h10 (sw4 _ _ _) hm fun pp cp w11 F11 h11 s11=>⟨_,_,_,rfl,?_⟩;rw[pagO_len,hT];obtain⟨F12,h12,sub⟩:=Q07 h11;have s12:=s10.trans (s11.sub sub);rintro w13 rfl;have h13:=Thing.grow h12 (Ext.drew w11);have s13:=s12.trans (Step.ext (Ext.drew w11));generalize w11.drew=w13 at h13 s13 ⊢;have hc:=pk_cell h13 rfl hm;rw[hQ] at hc;have hple:=hok.pk;refine⟨by omega,by omega,rfl,_,hc,r_pages _ (by omega) fun w14 hE14=>⟨_,rfl,Q00 (zzdcf ?_) ?_⟩⟩
 ·have:=hrs.1;rw[hT] at this;omega
 have h14:=Thing.grow h13 hE14;have s14:=s13.trans (Step.ext hE14);have rC:∀ {w':World} {F':Nat->Prop},(blk np (pkO (Q (m+1)))*(svX s sb y7 d.x*E)).P w' F'->w'.heap[n0]? = some (cfO P0 C0):=fun {w' F'} p=>rc (Z:=blk np (pkO (Q (m+1)))*(svX s sb y7 d.x*(blk nb (opB op)*dnT (.slice (some ap) ops.length co) ops))) p (by show blk np (pkO (Q (m+1)))*(svX s sb y7 d.x*(blk nb (opB op)*(dnT (.slice (some ap) ops.length co) ops*blk n0 (cfO P0 C0))))=_;ac_rfl);refine⟨_,by rw[Q02];exact Q01 (rC h14) rfl,_,by rw[Q02];exact Q01 (rC h14) rfl,by omega,rfl,?_⟩;refine s_window (C:=blk np (pkO (Q (m+1)))*E) h14 (sw4 _ _ _) hm (by have:=gi.wl hm;omega) fun pw cw w15 hr15 hE15 hn15=>⟨_,_,_,rfl,⟨by omega,rfl,rfl⟩,⟨_,by rw[Q02];exact Q01 (rC (Thing.grow h14 hE15)) rfl,rfl⟩,⟨_,by rw[Q02];exact Q01 (rC (Thing.grow h14 hE15)) rfl,rfl⟩,rfl,rfl,Q00 (zzdcf ?_) ⟨F12,Thing.grow h14 hE15,s14.trans (Step.ext hE15)⟩⟩;have h1:=hrs.2 (by rw[ht];simp);rw[hT] at h1;have nC:s.nC<=s.nC*s.C:=Nat.le_mul_of_pos_right _ c1;have e1:P0.tdiv C0=((s.nC:Nat):Int):=by
  rw[hP,hC,<-Int.ofNat_tdiv,Nat.mul_div_cancel _ c1]
 have hwl:=gi.wl hm;have hmul:(d.x.a.ws m).length*s.nC<=32*4096:=Nat.mul_le_mul hwl (by omega);rw[e1,Q03 (n:=((s.nC:Nat):Int)) (by omega) (by omega),<-Int.natCast_mul,Q03 (by omega) (by omega)];omega
end
end Go.Proofs.YtpnbcakbefplpaaGreatDoor
