/- Texts merged: VcC VcD VcE VcF VcH VcS TC TQ TU TL TM TN TV TLay TKeys. Conditions: none. -/
import Derived.Test.YtpnbcakbefplpaaGreatDoorProg
import Derived.KernelRfl
import Derived.Laws.ComplexArith
import Derived.Laws.Cover2
import Derived.Shelf.Sort.Plain
import Derived.Shelf.Slices.Clone
import Derived.Shelf.Slices.CompactI
import Derived.Shelf.Slices.Turned
import Derived.Shelf.Slices.In.SortNone
import Derived.Shelf.SlIterI.Nil
import Derived.Test.YtpnbcakbefplpaaGreatDoorM02
set_option linter.unusedVariables false
set_option linter.unusedSimpArgs false
namespace Go.Proofs.YtpnbcakbefplpaaGreatDoor
open _root_.Go.Proofs.Tryz (prog)
set_option maxRecDepth 100000
section
variable{w:World}{R:Value->World->Prop}
def vc121(x0_0 x0_1:Int)(w:World)(R:VW):Prop:=
 ∀(n0:Nat)(w1:World),n0=w.heap.size->w1=w.alloc (.cells #[.int .i64 x0_0,.int .i64 x0_1] 23)->∃i2 i3:Int,CellsAt w1 (zA n0) [.int .i64 i2,.int .i64 i3] /\ CS 32 #[.agg #[.int .i64 i2,.int .i64 i3]] w1 fun v4 w5=>∃(p6:Option Addr)(i7:Int),v4=.tuple #[.pointer p6,.int .i64 i7] /\ ifB (i7 != 0) (R (.tuple #[.pointer none,.int .i64 i7]) w5) (∃i8 i9:Int,CellsAt w5 (zA n0) [.int .i64 i8,.int .i64 i9] /\ ∀(n10:Nat)(w11:World),n10=w5.heap.size->w11=w5.alloc (.cells #[.pointer p6,.int .i64 i8,.int .i64 i9,.slice none 0 0,.slice none 0 0] 81)->R (.tuple #[zP n10,.int .i64 0]) w11)
theorem vc121.ok{x0_0 x0_1:Int}(h:vc121 x0_0 x0_1 w R ):Calls prog 10 #[.agg #[.int .i64 x0_0,.int .i64 x0_1]] w (Ret R):=
 bodyE zN Tryz.func10 (h:=h)
def vc122(x0:Option Addr)(x1_0 x1_1 x1_2 x1_3 x1_4:Int)(x1_5:ByteArray)(w:World)(R:VW):Prop:=
 ∀(n0:Nat)(w1:World),n0=w.heap.size->w1=w.alloc (.cells #[.int .i64 x1_0,.int .i64 x1_1,.int .i64 x1_2,.int .i64 x1_3,.int .u64 x1_4,.string x1_5] 35)->∀(n2:Nat)(w3:World),n2=w1.heap.size->w3=w1.alloc (.cells #[.int .i64 0,.int .u64 0,.int .i64 0,.int .i64 0,.string (.mk #[]),.int .i64 0] 40)->ifB x0.isNone (WrC w3 (zA n2) 6 /\ ∀(w4:World),w4=wr w3 (zA n2) [.int .i64 11,.int .u64 0,.int .i64 0,.int .i64 0,.string (.mk #[]),.int .i64 0]->∃(i5 i6 i7 i8:Int)(s9:ByteArray)(i10:Int),CellsAt w4 (zA n2) [.int .i64 i5,.int .u64 i6,.int .i64 i7,.int .i64 i8,.string s9,.int .i64 i10] /\ R (.agg #[.int .i64 i5,.int .u64 i6,.int .i64 i7,.int .i64 i8,.string s9,.int .i64 i10]) w4) (someA x0 fun a11=>∃p12:Option Addr,w3.cell? ((a11.add 0).add 0)=some (.pointer p12) /\ CS 35 #[.pointer p12] w3 fun v13 w14=>∃p15:Option Addr,v13=.pointer p15 /\ CS 36 #[.pointer p15] w14 fun v16 w17=>v16=.tuple #[] /\ someA x0 fun a18=>WrC w17 ((a18.add 0).add 4) 1 /\ ∀(w19:World),w19=wr w17 ((a18.add 0).add 4) [.slice none 0 0]->∃(i20 i21 i22 i23 i24:Int)(s25:ByteArray),CellsAt w19 (zA n0) [.int .i64 i20,.int .i64 i21,.int .i64 i22,.int .i64 i23,.int .u64 i24,.string s25] /\ CS 37 #[.agg #[.int .i64 i20,.int .i64 i21,.int .i64 i22,.int .i64 i23,.int .u64 i24,.string s25]] w19 fun v26 w27=>∃i28:Int,v26=.int .i64 i28 /\ WrC w27 ((zA n2).add 0) 1 /\ ∀(w29:World),w29=wr w27 ((zA n2).add 0) [.int .i64 i28]->∃i30:Int,w29.cell? ((zA n2).add 0)=some (.int .i64 i30) /\ ifB (i30 != 0) (∃(i31 i32 i33 i34:Int)(s35:ByteArray)(i36:Int),CellsAt w29 (zA n2) [.int .i64 i31,.int .u64 i32,.int .i64 i33,.int .i64 i34,.string s35,.int .i64 i36] /\ WrC w29 (zA n2) 6 /\ ∀(w37:World),w37=wr w29 (zA n2) [.int .i64 i31,.int .u64 i32,.int .i64 i33,.int .i64 i34,.string s35,.int .i64 i36]->∃(i38 i39 i40 i41:Int)(s42:ByteArray)(i43:Int),CellsAt w37 (zA n2) [.int .i64 i38,.int .u64 i39,.int .i64 i40,.int .i64 i41,.string s42,.int .i64 i43] /\ R (.agg #[.int .i64 i38,.int .u64 i39,.int .i64 i40,.int .i64 i41,.string s42,.int .i64 i43]) w37) (∀(w44:World),w44=w29.drew->someA x0 fun a45=>∃(p46:Option Addr)(n47 n48:Nat),w44.cell? ((a45.add 0).add 3)=some (.slice p46 n47 n48) /\ ∃(i49 i50 i51 i52 i53:Int)(s54:ByteArray),CellsAt w44 (zA n0) [.int .i64 i49,.int .i64 i50,.int .i64 i51,.int .i64 i52,.int .u64 i53,.string s54] /\ ∀(n55:Nat)(w56:World),n55=w44.heap.size->w56=w44.alloc (.cells #[.int .i64 i49,.int .i64 i50,.int .i64 i51,.int .i64 i52,.int .u64 i53,.string s54] 35)->(∃(p57:Option Addr)(n58 n59:Nat),w56.cell? ((a45.add 0).add 3)=some (.slice p57 n58 n59) /\ Value.slice p57 n58 n59=.slice p46 n47 n48) /\ ∃(p60:Option Addr)(n61 n62:Nat)(w63:World),Sem.run prog (Builtin.append_ #[25,25] 25 #[.slice p46 n47 n48,.slice (some (zA n55)) 1 1]) w56=.ok (.slice p60 n61 n62) w63 /\ someA x0 fun a64=>WrC w63 ((a64.add 0).add 3) 1 /\ ∀(w65:World),w65=wr w63 ((a64.add 0).add 3) [.slice p60 n61 n62]->∃i66:Int,w65.cell? ((zA n0).add 0)=some (.int .i64 i66) /\ ifB (i66 == 1) (∀(w67:World),w67=w65.drew->someA x0 fun a68=>∃p69:Option Addr,w67.cell? ((a68.add 0).add 0)=some (.pointer p69) /\ ∃i70:Int,w67.cell? ((zA n0).add 1)=some (.int .i64 i70) /\ ∃i71:Int,w67.cell? ((zA n0).add 3)=some (.int .i64 i71) /\ ∃i72:Int,w67.cell? ((zA n0).add 2)=some (.int .i64 i72) /\ CS 38 #[.pointer p69,.int .i64 i70,.int .i64 i71,.int .i64 i72] w67 fun v73 w74=>∃i75:Int,v73=.int .i64 i75 /\ WrC w74 ((zA n2).add 0) 1 /\ ∀(w76:World),w76=wr w74 ((zA n2).add 0) [.int .i64 i75]->∃i77:Int,w76.cell? ((zA n0).add 1)=some (.int .i64 i77) /\ CS 23 #[.pointer x0,.int .i64 i77] w76 fun v78 w79=>∃i80:Int,v78=.int .i64 i80 /\ WrC w79 ((zA n2).add 5) 1 /\ ∀(w81:World),w81=wr w79 ((zA n2).add 5) [.int .i64 i80]->someA x0 fun a82=>∃p83:Option Addr,w81.cell? ((a82.add 0).add 0)=some (.pointer p83) /\ CS 35 #[.pointer p83] w81 fun v84 w85=>∃p86:Option Addr,v84=.pointer p86 /\ CS 43 #[.pointer p86] w85 fun v87 w88=>∃(p89:Option Addr)(n90 n91:Nat),v87=.slice p89 n90 n91 /\ someA x0 fun a92=>WrC w88 ((a92.add 0).add 4) 1 /\ ∀(w93:World),w93=wr w88 ((a92.add 0).add 4) [.slice p89 n90 n91]->∃(i94 i95 i96 i97:Int)(s98:ByteArray)(i99:Int),CellsAt w93 (zA n2) [.int .i64 i94,.int .u64 i95,.int .i64 i96,.int .i64 i97,.string s98,.int .i64 i99] /\ WrC w93 (zA n2) 6 /\ ∀(w100:World),w100=wr w93 (zA n2) [.int .i64 i94,.int .u64 i95,.int .i64 i96,.int .i64 i97,.string s98,.int .i64 i99]->∃(i101 i102 i103 i104:Int)(s105:ByteArray)(i106:Int),CellsAt w100 (zA n2) [.int .i64 i101,.int .u64 i102,.int .i64 i103,.int .i64 i104,.string s105,.int .i64 i106] /\ R (.agg #[.int .i64 i101,.int .u64 i102,.int .i64 i103,.int .i64 i104,.string s105,.int .i64 i106]) w100) (ifB (i66 == 2) (∀(w107:World),w107=w65.drew->someA x0 fun a108=>∃p109:Option Addr,w107.cell? ((a108.add 0).add 0)=some (.pointer p109) /\ ∃i110:Int,w107.cell? ((zA n0).add 1)=some (.int .i64 i110) /\ ∃i111:Int,w107.cell? ((zA n0).add 3)=some (.int .i64 i111) /\ ∃i112:Int,w107.cell? ((zA n0).add 2)=some (.int .i64 i112) /\ CS 39 #[.pointer p109,.int .i64 i110,.int .i64 i111,.int .i64 i112] w107 fun v113 w114=>∃i115:Int,v113=.int .i64 i115 /\ WrC w114 ((zA n2).add 0) 1 /\ ∀(w116:World),w116=wr w114 ((zA n2).add 0) [.int .i64 i115]->∃i117:Int,w116.cell? ((zA n0).add 1)=some (.int .i64 i117) /\ CS 23 #[.pointer x0,.int .i64 i117] w116 fun v118 w119=>∃i120:Int,v118=.int .i64 i120 /\ WrC w119 ((zA n2).add 5) 1 /\ ∀(w121:World),w121=wr w119 ((zA n2).add 5) [.int .i64 i120]->someA x0 fun a122=>∃p123:Option Addr,w121.cell? ((a122.add 0).add 0)=some (.pointer p123) /\ CS 35 #[.pointer p123] w121 fun v124 w125=>∃p126:Option Addr,v124=.pointer p126 /\ CS 43 #[.pointer p126] w125 fun v127 w128=>∃(p129:Option Addr)(n130 n131:Nat),v127=.slice p129 n130 n131 /\ someA x0 fun a132=>WrC w128 ((a132.add 0).add 4) 1 /\ ∀(w133:World),w133=wr w128 ((a132.add 0).add 4) [.slice p129 n130 n131]->∃(i134 i135 i136 i137:Int)(s138:ByteArray)(i139:Int),CellsAt w133 (zA n2) [.int .i64 i134,.int .u64 i135,.int .i64 i136,.int .i64 i137,.string s138,.int .i64 i139] /\ WrC w133 (zA n2) 6 /\ ∀(w140:World),w140=wr w133 (zA n2) [.int .i64 i134,.int .u64 i135,.int .i64 i136,.int .i64 i137,.string s138,.int .i64 i139]->∃(i141 i142 i143 i144:Int)(s145:ByteArray)(i146:Int),CellsAt w140 (zA n2) [.int .i64 i141,.int .u64 i142,.int .i64 i143,.int .i64 i144,.string s145,.int .i64 i146] /\ R (.agg #[.int .i64 i141,.int .u64 i142,.int .i64 i143,.int .i64 i144,.string s145,.int .i64 i146]) w140) (ifB (i66 == 3) (∀(w147:World),w147=w65.drew->someA x0 fun a148=>∃p149:Option Addr,w147.cell? ((a148.add 0).add 0)=some (.pointer p149) /\ ∃i150:Int,w147.cell? ((zA n0).add 1)=some (.int .i64 i150) /\ CS 40 #[.pointer p149,.int .i64 i150] w147 fun v151 w152=>∃i153:Int,v151=.int .i64 i153 /\ WrC w152 ((zA n2).add 0) 1 /\ ∀(w154:World),w154=wr w152 ((zA n2).add 0) [.int .i64 i153]->∃i155:Int,w154.cell? ((zA n0).add 1)=some (.int .i64 i155) /\ CS 23 #[.pointer x0,.int .i64 i155] w154 fun v156 w157=>∃i158:Int,v156=.int .i64 i158 /\ WrC w157 ((zA n2).add 5) 1 /\ ∀(w159:World),w159=wr w157 ((zA n2).add 5) [.int .i64 i158]->someA x0 fun a160=>∃p161:Option Addr,w159.cell? ((a160.add 0).add 0)=some (.pointer p161) /\ CS 35 #[.pointer p161] w159 fun v162 w163=>∃p164:Option Addr,v162=.pointer p164 /\ CS 43 #[.pointer p164] w163 fun v165 w166=>∃(p167:Option Addr)(n168 n169:Nat),v165=.slice p167 n168 n169 /\ someA x0 fun a170=>WrC w166 ((a170.add 0).add 4) 1 /\ ∀(w171:World),w171=wr w166 ((a170.add 0).add 4) [.slice p167 n168 n169]->∃(i172 i173 i174 i175:Int)(s176:ByteArray)(i177:Int),CellsAt w171 (zA n2) [.int .i64 i172,.int .u64 i173,.int .i64 i174,.int .i64 i175,.string s176,.int .i64 i177] /\ WrC w171 (zA n2) 6 /\ ∀(w178:World),w178=wr w171 (zA n2) [.int .i64 i172,.int .u64 i173,.int .i64 i174,.int .i64 i175,.string s176,.int .i64 i177]->∃(i179 i180 i181 i182:Int)(s183:ByteArray)(i184:Int),CellsAt w178 (zA n2) [.int .i64 i179,.int .u64 i180,.int .i64 i181,.int .i64 i182,.string s183,.int .i64 i184] /\ R (.agg #[.int .i64 i179,.int .u64 i180,.int .i64 i181,.int .i64 i182,.string s183,.int .i64 i184]) w178) (∀(w185:World),w185=w65.drew->someA x0 fun a186=>∃p187:Option Addr,w185.cell? ((a186.add 0).add 0)=some (.pointer p187) /\ ∃i188:Int,w185.cell? ((zA n0).add 1)=some (.int .i64 i188) /\ CS 41 #[.pointer p187,.int .i64 i188] w185 fun v189 w190=>∃p191:Option Addr,v189=.pointer p191 /\ ifB p191.isNone (WrC w190 (zA n2) 6 /\ ∀(w192:World),w192=wr w190 (zA n2) [.int .i64 6,.int .u64 0,.int .i64 0,.int .i64 0,.string (.mk #[]),.int .i64 0]->∃(i193 i194 i195 i196:Int)(s197:ByteArray)(i198:Int),CellsAt w192 (zA n2) [.int .i64 i193,.int .u64 i194,.int .i64 i195,.int .i64 i196,.string s197,.int .i64 i198] /\ R (.agg #[.int .i64 i193,.int .u64 i194,.int .i64 i195,.int .i64 i196,.string s197,.int .i64 i198]) w192) (∃(i199 i200 i201 i202 i203:Int)(s204:ByteArray),CellsAt w190 (zA n0) [.int .i64 i199,.int .i64 i200,.int .i64 i201,.int .i64 i202,.int .u64 i203,.string s204] /\ CS 42 #[.pointer p191,.agg #[.int .i64 i199,.int .i64 i200,.int .i64 i201,.int .i64 i202,.int .u64 i203,.string s204]] w190 fun v205 w206=>∃(i207 i208 i209 i210:Int)(s211:ByteArray)(i212:Int),v205=.agg #[.int .i64 i207,.int .u64 i208,.int .i64 i209,.int .i64 i210,.string s211,.int .i64 i212] /\ WrC w206 (zA n2) 6 /\ ∀(w213:World),w213=wr w206 (zA n2) [.int .i64 i207,.int .u64 i208,.int .i64 i209,.int .i64 i210,.string s211,.int .i64 i212]->∃i214:Int,w213.cell? ((zA n0).add 1)=some (.int .i64 i214) /\ CS 23 #[.pointer x0,.int .i64 i214] w213 fun v215 w216=>∃i217:Int,v215=.int .i64 i217 /\ WrC w216 ((zA n2).add 5) 1 /\ ∀(w218:World),w218=wr w216 ((zA n2).add 5) [.int .i64 i217]->someA x0 fun a219=>∃p220:Option Addr,w218.cell? ((a219.add 0).add 0)=some (.pointer p220) /\ CS 35 #[.pointer p220] w218 fun v221 w222=>∃p223:Option Addr,v221=.pointer p223 /\ CS 43 #[.pointer p223] w222 fun v224 w225=>∃(p226:Option Addr)(n227 n228:Nat),v224=.slice p226 n227 n228 /\ someA x0 fun a229=>WrC w225 ((a229.add 0).add 4) 1 /\ ∀(w230:World),w230=wr w225 ((a229.add 0).add 4) [.slice p226 n227 n228]->∃(i231 i232 i233 i234:Int)(s235:ByteArray)(i236:Int),CellsAt w230 (zA n2) [.int .i64 i231,.int .u64 i232,.int .i64 i233,.int .i64 i234,.string s235,.int .i64 i236] /\ WrC w230 (zA n2) 6 /\ ∀(w237:World),w237=wr w230 (zA n2) [.int .i64 i231,.int .u64 i232,.int .i64 i233,.int .i64 i234,.string s235,.int .i64 i236]->∃(i238 i239 i240 i241:Int)(s242:ByteArray)(i243:Int),CellsAt w237 (zA n2) [.int .i64 i238,.int .u64 i239,.int .i64 i240,.int .i64 i241,.string s242,.int .i64 i243] /\ R (.agg #[.int .i64 i238,.int .u64 i239,.int .i64 i240,.int .i64 i241,.string s242,.int .i64 i243]) w237))))))
theorem vc122.ok{x0:Option Addr}{x1_0 x1_1 x1_2 x1_3 x1_4:Int}{x1_5:ByteArray}(h:vc122 x0 x1_0 x1_1 x1_2 x1_3 x1_4 x1_5 w R ):Calls prog 14 #[.pointer x0,.agg #[.int .i64 x1_0,.int .i64 x1_1,.int .i64 x1_2,.int .i64 x1_3,.int .u64 x1_4,.string x1_5]] w (Ret R):=
 bodyE zN Tryz.func14 (h:=h)
def vc123(x0:Option Addr)(x1:Int)(w:World)(R:VW):Prop:=
 CS 44 #[.pointer x0,.int .i64 x1] w fun v0 w1=>∃p2:Option Addr,v0=.pointer p2 /\ CS 51 #[.pointer p2] w1 fun v3 w4=>∃(p5:Option Addr)(n6 n7:Nat),v3=.slice p5 n6 n7 /\ R (.slice p5 n6 n7) w4
theorem vc123.ok{x0:Option Addr}{x1:Int}(h:vc123 x0 x1 w R ):Calls prog 18 #[.pointer x0,.int .i64 x1] w (Ret R):=
 bodyE zN Tryz.func18 (h:=h)
def va124:Ann:=⟨fun id=>cond (Nat.beq id 8) ⟨[(39,.int .i64 0)],([7]++rg 40 8)⟩ (LI.none),fun l=>none,fun i=>none⟩
def vc124(x0_0 x0_1:Int)(w:World)(R:VW):Prop:=
 ∀(n0:Nat)(w1:World),n0=w.heap.size->w1=w.alloc (.cells #[.int .i64 x0_0,.int .i64 x0_1] 23)->∃i2 i3:Int,CellsAt w1 (zA n0) [.int .i64 i2,.int .i64 i3] /\ CS 65 #[.agg #[.int .i64 i2,.int .i64 i3]] w1 fun v4 w5=>∃(p6:Option Addr)(i7:Int),v4=.tuple #[.pointer p6,.int .i64 i7] /\ ifB (i7 != 0) (R (.tuple #[.pointer none,.int .i64 i7]) w5) (∃i8 i9:Int,CellsAt w5 (zA n0) [.int .i64 i8,.int .i64 i9] /\ ∀(n10:Nat)(w11:World),n10=w5.heap.size->w11=w5.alloc (.cells #[.int .i64 i8,.int .i64 i9,.pointer none,.pointer p6,.pointer none,.pointer none,.pointer none,.pointer none,.pointer none,.pointer none,.pointer none,.pointer none,.pointer none,.int .i64 0,.int .i64 0,.int .i64 0,.int .i64 0,.int .i64 0,.int .i64 0,.int .i64 0,.int .i64 0] 119)->∃i12:Int,w11.cell? ((zA n0).add 0)=some (.int .i64 i12) /\ CS 66 #[.int .i64 (IntKind.i64.wrap (i12*512))] w11 fun v13 w14=>∃(p15:Option Addr)(i16:Int),v13=.tuple #[.pointer p15,.int .i64 i16] /\ WrC w14 ((zA n10).add 2) 1 /\ ∀(w17:World),w17=wr w14 ((zA n10).add 2) [.pointer p15]->∃i18:Int,w17.cell? ((zA n0).add 1)=some (.int .i64 i18) /\ CS 67 #[.int .i64 i18] w17 fun v19 w20=>∃(p21:Option Addr)(i22:Int),v19=.tuple #[.pointer p21,.int .i64 i22] /\ WrC w20 ((zA n10).add 4) 1 /\ ∀(w23:World),w23=wr w20 ((zA n10).add 4) [.pointer p21]->∃x24:Nat->Int->World->Prop,(∃n25:Nat,x24 n25 0 w23) /\ ∀(n26:Nat)(jv:Nat->Value)(i27:Int)(w28:World),x24 n26 i27 w28->ifB (decide (i27<8)) (0<=i27 /\ i27<(↑(8:Nat):Int) /\ WrC w28 (((zA n10).add 13).add i27.toNat) 1 /\ ∀(w29:World),w29=wr w28 (((zA n10).add 13).add i27.toNat) [.int .i64 1]->∃n30:Nat,n30<n26 /\ x24 n30 (IntKind.i64.wrap (i27+1)) w29) (R (.tuple #[zP n10,.int .i64 0]) w28))
theorem vc124.ok{x0_0 x0_1:Int}(h:vc124 x0_0 x0_1 w R ):Calls prog 32 #[.agg #[.int .i64 x0_0,.int .i64 x0_1]] w (Ret R):=
 bodyE va124 Tryz.func32 (h:=h)
def vc125(x0:Option Addr)(x1 x2 x3:Int)(w:World)(R:VW):Prop:=
 CS 70 #[.pointer x0,.int .i64 x1] w fun v0 w1=>∃i2:Int,v0=.int .i64 i2 /\ ifB (i2 != 0) (R (.int .i64 i2) w1) (someA x0 fun a3=>0<=x1 /\ x1<(↑(8:Nat):Int) /\ ∃p4:Option Addr,w1.cell? ((a3.add 5).add x1.toNat)=some (.pointer p4) /\ ifB (!p4.isNone) (R (.int .i64 7) w1) (CS 71 #[.pointer x0,.int .i64 x2,.int .i64 x3] w1 fun v5 w6=>∃i7:Int,v5=.int .i64 i7 /\ ifB (i7 != 0) (R (.int .i64 i7) w6) (someA x0 fun a8=>∃p9:Option Addr,w6.cell? (a8.add 3)=some (.pointer p9) /\ CS 73 #[.pointer p9] w6 fun v10 w11=>∃i12:Int,v10=.int .i64 i12 /\ CS 72 #[.int .i64 x3,.int .i64 (IntKind.i64.wrap (x2*i12))] w11 fun v13 w14=>∃b15:Bool,v13=.bool b15 /\ ifB (!b15) (R (.int .i64 8) w14) (someA x0 fun a16=>∃p17:Option Addr,w14.cell? (a16.add 4)=some (.pointer p17) /\ CS 74 #[.pointer p17,.int .i64 x1,.int .i64 x2] w14 fun v18 w19=>∃(p20:Option Addr)(n21 n22:Nat)(i23:Int),v18=.tuple #[.slice p20 n21 n22,.int .i64 i23] /\ ifB (i23 != 0) (R (.int .i64 i23) w19) (∀(w24:World),w24=w19.drew->someA x0 fun a25=>∃p26:Option Addr,w24.cell? (a25.add 2)=some (.pointer p26) /\ someA x0 fun a27=>∃p28:Option Addr,w24.cell? (a27.add 3)=some (.pointer p28) /\ someA x0 fun a29=>0<=x1 /\ x1<(↑(8:Nat):Int) /\ w24=w24 /\ ∃i30:Int,w24.cell? ((a29.add 13).add x1.toNat)=some (.int .i64 i30) /\ someA x0 fun a31=>CS 75 #[.pointer p26,.pointer p28,.int .i64 x1,.int .i64 i30,.int .i64 x3,.slice p20 n21 n22] w24 fun v32 w33=>∃(p34:Option Addr)(i35:Int),v32=.tuple #[.pointer p34,.int .i64 i35] /\ 0<=x1 /\ x1<(↑(8:Nat):Int) /\ w33=w33 /\ WrC w33 ((a31.add 5).add x1.toNat) 1 /\ ∀(w36:World),w36=wr w33 ((a31.add 5).add x1.toNat) [.pointer p34]->R (.int .i64 i35) w36)))))
theorem vc125.ok{x0:Option Addr}{x1 x2 x3:Int}(h:vc125 x0 x1 x2 x3 w R ):Calls prog 38 #[.pointer x0,.int .i64 x1,.int .i64 x2,.int .i64 x3] w (Ret R):=
 bodyE zN Tryz.func38 (h:=h)
def vc126(x0:Option Addr)(x1 x2 x3:Int)(w:World)(R:VW):Prop:=
 CS 70 #[.pointer x0,.int .i64 x1] w fun v0 w1=>∃i2:Int,v0=.int .i64 i2 /\ ifB (i2 != 0) (R (.int .i64 i2) w1) (someA x0 fun a3=>0<=x1 /\ x1<(↑(8:Nat):Int) /\ ∃p4:Option Addr,w1.cell? ((a3.add 5).add x1.toNat)=some (.pointer p4) /\ ifB p4.isNone (R (.int .i64 6) w1) (CS 71 #[.pointer x0,.int .i64 x2,.int .i64 x3] w1 fun v5 w6=>∃i7:Int,v5=.int .i64 i7 /\ ifB (i7 != 0) (R (.int .i64 i7) w6) (∀(w8:World),w8=w6.drew->someA x0 fun a9=>0<=x1 /\ x1<(↑(8:Nat):Int) /\ w8=w8 /\ ∃p10:Option Addr,w8.cell? ((a9.add 5).add x1.toNat)=some (.pointer p10) /\ someA x0 fun a11=>∃p12:Option Addr,w8.cell? (a11.add 3)=some (.pointer p12) /\ CS 73 #[.pointer p12] w8 fun v13 w14=>∃i15:Int,v13=.int .i64 i15 /\ (∃p16:Option Addr,w14.cell? ((a9.add 5).add x1.toNat)=some (.pointer p16) /\ Value.pointer p16=.pointer p10) /\ (0<=x1 /\ x1<(↑(8:Nat):Int) /\ w14=w14 /\ Value.pointer (some ((a9.add 5).add x1.toNat))=.pointer (some ((a9.add 5).add x1.toNat))) /\ CS 76 #[.pointer p10,.int .i64 x3,.int .i64 (IntKind.i64.wrap (x2*i15))] w14 fun v17 w18=>∃i19:Int,v17=.int .i64 i19 /\ ifB (i19 != 0) (R (.int .i64 i19) w18) (someA x0 fun a20=>∃p21:Option Addr,w18.cell? (a20.add 4)=some (.pointer p21) /\ CS 69 #[.pointer p21,.int .i64 x1] w18 fun v22 w23=>∃(p24:Option Addr)(n25 n26:Nat),v22=.slice p24 n25 n26 /\ someA x0 fun a27=>∃p28:Option Addr,w23.cell? (a27.add 4)=some (.pointer p28) /\ ∃(i29:Int)(w30:World),Sem.run prog (Builtin.max_ #[3,3] 3 #[.int .i64 0,.int .i64 (IntKind.i64.wrap (x2-(↑n25:Int)))]) w23=.ok (.int .i64 i29) w30 /\ CS 74 #[.pointer p28,.int .i64 x1,.int .i64 i29] w30 fun v31 w32=>∃(p33:Option Addr)(n34 n35:Nat)(i36:Int),v31=.tuple #[.slice p33 n34 n35,.int .i64 i36] /\ ifB (i36 != 0) (R (.int .i64 i36) w32) (∀(w37:World),w37=w32.drew->someA x0 fun a38=>0<=x1 /\ x1<(↑(8:Nat):Int) /\ w37=w37 /\ ∃p39:Option Addr,w37.cell? ((a38.add 5).add x1.toNat)=some (.pointer p39) /\ someA x0 fun a40=>∃p41:Option Addr,w37.cell? (a40.add 4)=some (.pointer p41) /\ CS 69 #[.pointer p41,.int .i64 x1] w37 fun v42 w43=>∃(p44:Option Addr)(n45 n46:Nat),v42=.slice p44 n45 n46 /\ (∃p47:Option Addr,w43.cell? ((a38.add 5).add x1.toNat)=some (.pointer p47) /\ Value.pointer p47=.pointer p39) /\ (0<=x1 /\ x1<(↑(8:Nat):Int) /\ w43=w43 /\ Value.pointer (some ((a38.add 5).add x1.toNat))=.pointer (some ((a38.add 5).add x1.toNat))) /\ (0:Int)<=0 /\ 0<=x2 /\ x2<=(↑n46:Int) /\ w43=w43 /\ CS 77 #[.pointer p39,.int .i64 x3,.slice (subA p44 0 n46 1) (x2.toNat-0) (n46-0)] w43 fun v48 w49=>∃i50:Int,v48=.int .i64 i50 /\ someA x0 fun a51=>∃p52:Option Addr,w49.cell? (a51.add 4)=some (.pointer p52) /\ CS 78 #[.pointer p52,.int .i64 x1,.int .i64 x2] w49 fun v53 w54=>∃(p55:Option Addr)(n56 n57:Nat)(i58:Int),v53=.tuple #[.slice p55 n56 n57,.int .i64 i58] /\ R (.int .i64 i50) w54)))))
theorem vc126.ok{x0:Option Addr}{x1 x2 x3:Int}(h:vc126 x0 x1 x2 x3 w R ):Calls prog 39 #[.pointer x0,.int .i64 x1,.int .i64 x2,.int .i64 x3] w (Ret R):=
 bodyE zN Tryz.func39 (h:=h)
def va127:Ann:=⟨fun id=>cond (Nat.beq id 6) ⟨[(18,.int .i64 0)],([6,7]++rg 19 21)⟩ (LI.none),fun l=>none,fun i=>none⟩
def vc127(x0_0 x0_1:Int)(w:World)(R:VW):Prop:=
 ∀(n0:Nat)(w1:World),n0=w.heap.size->w1=w.alloc (.cells #[.int .i64 x0_0,.int .i64 x0_1] 23)->∃i2 i3:Int,CellsAt w1 (zA n0) [.int .i64 i2,.int .i64 i3] /\ CS 64 #[.agg #[.int .i64 i2,.int .i64 i3]] w1 fun v4 w5=>∃i6:Int,v4=.int .i64 i6 /\ ifB (i6 != 0) (R (.tuple #[.pointer none,.int .i64 i6]) w5) (∃i7 i8:Int,CellsAt w5 (zA n0) [.int .i64 i7,.int .i64 i8] /\ ∀(n9:Nat)(w10:World),n9=w5.heap.size->w10=w5.alloc (.cells #[.int .i64 i7,.int .i64 i8,.slice none 0 0] 173)->∃i11:Int,w10.cell? ((zA n0).add 1)=some (.int .i64 i11) /\ ∃x12:Nat->Int->World->Prop,(∃n13:Nat,x12 n13 0 w10) /\ ∀(n14:Nat)(jv:Nat->Value)(i15:Int)(w16:World),x12 n14 i15 w16->ifB (decide (i15<i11)) (∃i17:Int,w16.cell? ((zA n0).add 0)=some (.int .i64 i17) /\ ∃i18:Int,w16.cell? ((zA n0).add 1)=some (.int .i64 i18) /\ i18 ≠ 0 /\ CS 107 #[.int .i64 (IntKind.i64.wrap (i17.tdiv i18))] w16 fun v19 w20=>∃(p21:Option Addr)(i22:Int),v19=.tuple #[.pointer p21,.int .i64 i22] /\ ∃(p23:Option Addr)(n24 n25:Nat),w20.cell? ((zA n9).add 2)=some (.slice p23 n24 n25) /\ ∀(n26:Nat)(w27:World),n26=w20.heap.size->w27=w20.alloc (.cells #[.pointer p21] 143)->∃(p28:Option Addr)(n29 n30:Nat)(w31:World),Sem.run prog (Builtin.append_ #[171,171] 171 #[.slice p23 n24 n25,.slice (some (zA n26)) 1 1]) w27=.ok (.slice p28 n29 n30) w31 /\ WrC w31 ((zA n9).add 2) 1 /\ ∀(w32:World),w32=wr w31 ((zA n9).add 2) [.slice p28 n29 n30]->∃n33:Nat,n33<n14 /\ x12 n33 (IntKind.i64.wrap (i15+1)) w32) (R (.tuple #[zP n9,.int .i64 0]) w16))
theorem vc127.ok{x0_0 x0_1:Int}(h:vc127 x0_0 x0_1 w R ):Calls prog 65 #[.agg #[.int .i64 x0_0,.int .i64 x0_1]] w (Ret R):=
 bodyE va127 Tryz.func65 (h:=h)
def vc128(x0:Int)(w:World)(R:VW):Prop:=
 ifB (decide (x0<1)) (R (.tuple #[.pointer none,.int .i64 12]) w) (ifB (decide (x0>32)) (R (.tuple #[.pointer none,.int .i64 12]) w) (CS 107 #[.int .i64 x0] w fun v0 w1=>∃(p2:Option Addr)(i3:Int),v0=.tuple #[.pointer p2,.int .i64 i3] /\ ∀(n4:Nat)(w5:World),n4=w1.heap.size->w5=w1.alloc (.cells #[.pointer p2,.slice none 0 0,.slice none 0 0,.slice none 0 0,.slice none 0 0,.slice none 0 0,.slice none 0 0,.slice none 0 0,.slice none 0 0] 178)->R (.tuple #[zP n4,.int .i64 i3]) w5))
theorem vc128.ok{x0:Int}(h:vc128 x0 w R ):Calls prog 67 #[.int .i64 x0] w (Ret R):=
 bodyE zN Tryz.func67 (h:=h)
def va129:Ann:=⟨fun id=>cond (Nat.beq id 8) ⟨[(9,.slice none 0 0),(27,.int .i64 0)],([10,11]++rg 28 14)⟩ (LI.none),fun l=>none,fun i=>none⟩
def vc129(x0:Option Addr)(x1 x2:Int)(w:World)(R:VW):Prop:=
 CS 109 #[.pointer x0,.int .i64 x1,.int .i64 x2] w fun v0 w1=>∃i2:Int,v0=.int .i64 i2 /\ ifB (i2 != 0) (R (.tuple #[.slice none 0 0,.int .i64 i2]) w1) (someA x0 fun a3=>∃p4:Option Addr,w1.cell? (a3.add 0)=some (.pointer p4) /\ CS 108 #[.pointer p4] w1 fun v5 w6=>∃i7:Int,v5=.int .i64 i7 /\ ifB (decide (x2>i7)) (R (.tuple #[.slice none 0 0,.int .i64 9]) w6) (∃x8:Nat->Option Addr->Nat->Nat->Int->World->Prop,(∃n9:Nat,x8 n9 none 0 0 0 w6) /\ ∀(n10:Nat)(jv:Nat->Value)(p11:Option Addr)(n12 n13:Nat)(i14:Int)(w15:World),x8 n10 p11 n12 n13 i14 w15->ifB (decide (i14<x2)) (someA x0 fun a16=>∃p17:Option Addr,w15.cell? (a16.add 0)=some (.pointer p17) /\ CS 113 #[.pointer p17] w15 fun v18 w19=>∃i20 i21:Int,v18=.tuple #[.int .i64 i20,.int .i64 i21] /\ ∀(n22:Nat)(w23:World),n22=w19.heap.size->w23=w19.alloc (.cells #[.int .i64 i20] 3)->∃(p24:Option Addr)(n25 n26:Nat)(w27:World),Sem.run prog (Builtin.append_ #[37,37] 37 #[.slice p11 n12 n13,.slice (some (zA n22)) 1 1]) w23=.ok (.slice p24 n25 n26) w27 /\ ∃n28:Nat,n28<n10 /\ x8 n28 p24 n25 n26 (IntKind.i64.wrap (i14+1)) w27) (∀(w29:World),w29=w15.drew->someA x0 fun a30=>0<=x1 /\ x1<(↑(8:Nat):Int) /\ w29=w29 /\ ∃(p31:Option Addr)(n32 n33:Nat),w29.cell? ((a30.add 1).add x1.toNat)=some (.slice p31 n32 n33) /\ someA x0 fun a34=>CS 110 #[.slice p31 n32 n33] w29 fun v35 w36=>∃(p37:Option Addr)(n38 n39:Nat),v35=.slice p37 n38 n39 /\ ∃(p40:Option Addr)(n41 n42:Nat)(w43:World),Sem.run prog (Builtin.append_ #[37,37] 37 #[.slice p37 n38 n39,.slice p11 n12 n13]) w36=.ok (.slice p40 n41 n42) w43 /\ 0<=x1 /\ x1<(↑(8:Nat):Int) /\ w43=w43 /\ WrC w43 ((a34.add 1).add x1.toNat) 1 /\ ∀(w44:World),w44=wr w43 ((a34.add 1).add x1.toNat) [.slice p40 n41 n42]->someA x0 fun a45=>0<=x1 /\ x1<(↑(8:Nat):Int) /\ ∃(p46:Option Addr)(n47 n48:Nat),w44.cell? ((a45.add 1).add x1.toNat)=some (.slice p46 n47 n48) /\ CS 49 #[.slice p46 n47 n48] w44 fun v49 w50=>v49=.tuple #[] /\ R (.tuple #[.slice p11 n12 n13,.int .i64 0]) w50)))
theorem vc129.ok{x0:Option Addr}{x1 x2:Int}(h:vc129 x0 x1 x2 w R ):Calls prog 74 #[.pointer x0,.int .i64 x1,.int .i64 x2] w (Ret R):=
 bodyE va129 Tryz.func74 (h:=h)
def vc130(x0 x1:Option Addr)(x2 x3 x4:Int)(x5a:Option Addr)(x5l x5c:Nat)(w:World)(R:VW):Prop:=
 ifB x0.isNone (R (.tuple #[.pointer none,.int .i64 11]) w) (ifB x1.isNone (R (.tuple #[.pointer none,.int .i64 11]) w) (CS 114 #[.int .i64 x2,.int .i64 x3] w fun v0 w1=>∃(p2:Option Addr)(i3:Int),v0=.tuple #[.pointer p2,.int .i64 i3] /\ ifB (i3 != 0) (R (.tuple #[.pointer none,.int .i64 i3]) w1) (CS 111 #[.int .i64 x4] w1 fun v4 w5=>∃(n6 n7:Nat)(i8:Int),v4=.tuple #[.complex FloatKind.f64 n6 n7,.int .i64 i8] /\ ifB (i8 != 0) (R (.tuple #[.pointer none,.int .i64 2]) w5) (CS 115 #[.pointer x1,.slice x5a x5l x5c] w5 fun v9 w10=>∃i11:Int,v9=.int .i64 i11 /\ CS 72 #[.int .i64 x4,.int .i64 i11] w10 fun v12 w13=>∃b14:Bool,v12=.bool b14 /\ ifB (!b14) (R (.tuple #[.pointer none,.int .i64 8]) w13) (CS 116 #[.pointer x0,.pointer x1,.slice x5a x5l x5c] w13 fun v15 w16=>∃(p17:Option Addr)(i18:Int),v15=.tuple #[.pointer p17,.int .i64 i18] /\ CS 118 #[.int .i64 x4,.int .i64 i11] w16 fun v19 w20=>∃n21 n22:Nat,v19=.complex FloatKind.f64 n21 n22 /\ CS 117 #[.complex FloatKind.f64 n21 n22] w20 fun v23 w24=>∃(p25:Option Addr)(i26:Int),v23=.tuple #[.pointer p25,.int .i64 i26] /\ ∃(p27:Option Nat)(w28:World),Sem.run prog (Instr.makeMap 48 none) w24=.ok (.map p27) w28 /\ ∀(n29:Nat)(w30:World),n29=w28.heap.size->w30=w28.alloc (.cells #[.pointer x0,.pointer x1,.pointer p17,.pointer p2,.pointer p25,.int .i64 x2,.int .i64 x4,.map p27] 142)->R (.tuple #[zP n29,.int .i64 i26]) w30)))))
theorem vc130.ok{x0 x1:Option Addr}{x2 x3 x4:Int}{x5a:Option Addr}{x5l x5c:Nat}(h:vc130 x0 x1 x2 x3 x4 x5a x5l x5c w R ):Calls prog 75 #[.pointer x0,.pointer x1,.int .i64 x2,.int .i64 x3,.int .i64 x4,.slice x5a x5l x5c] w (Ret R):=
 bodyE zN Tryz.func75 (h:=h)
def vc131(x0:Option Addr)(x1 x2:Int)(w:World)(R:VW):Prop:=
 ifB x0.isNone (R (.int .i64 11) w) (CS 111 #[.int .i64 x1] w fun v0 w1=>∃(n2 n3:Nat)(i4:Int),v0=.tuple #[.complex FloatKind.f64 n2 n3,.int .i64 i4] /\ ifB (i4 != 0) (R (.int .i64 2) w1) (CS 58 #[.pointer x0] w1 fun v5 w6=>∃i7:Int,v5=.int .i64 i7 /\ ifB (decide (i7>x1)) (R (.int .i64 3) w6) (CS 119 #[.pointer x0,.int .i64 x1] w6 fun v8 w9=>∃i10:Int,v8=.int .i64 i10 /\ CS 72 #[.int .i64 i10,.int .i64 x2] w9 fun v11 w12=>∃b13:Bool,v11=.bool b13 /\ ifB (!b13) (R (.int .i64 8) w12) (R (.int .i64 0) w12))))
theorem vc131.ok{x0:Option Addr}{x1 x2:Int}(h:vc131 x0 x1 x2 w R ):Calls prog 76 #[.pointer x0,.int .i64 x1,.int .i64 x2] w (Ret R):=
 bodyE zN Tryz.func76 (h:=h)
def vc132(x0:Option Addr)(x1:Int)(x2a:Option Addr)(x2l x2c:Nat)(w:World)(R:VW):Prop:=
 ifB x0.isNone (R (.int .i64 11) w) (someA x0 fun a0=>∃p1:Option Addr,w.cell? (a0.add 1)=some (.pointer p1) /\ CS 115 #[.pointer p1,.slice x2a x2l x2c] w fun v2 w3=>∃i4:Int,v2=.int .i64 i4 /\ CS 76 #[.pointer x0,.int .i64 x1,.int .i64 i4] w3 fun v5 w6=>∃i7:Int,v5=.int .i64 i7 /\ ifB (i7 != 0) (R (.int .i64 i7) w6) (someA x0 fun a8=>∃p9:Option Addr,w6.cell? (a8.add 2)=some (.pointer p9) /\ CS 120 #[.pointer p9,.slice x2a x2l x2c] w6 fun v10 w11=>∃i12:Int,v10=.int .i64 i12 /\ ifB (i12 != 0) (R (.int .i64 i12) w11) (CS 119 #[.pointer x0,.int .i64 x1] w11 fun v13 w14=>∃i15:Int,v13=.int .i64 i15 /\ someA x0 fun a16=>WrC w14 (a16.add 6) 1 /\ ∀(w17:World),w17=wr w14 (a16.add 6) [.int .i64 i15]->∀(w18:World),w18=w17.drew->someA x0 fun a19=>∃p20:Option Addr,w18.cell? (a19.add 4)=some (.pointer p20) /\ CS 118 #[.int .i64 x1,.int .i64 i4] w18 fun v21 w22=>∃n23 n24:Nat,v21=.complex FloatKind.f64 n23 n24 /\ (∃p25:Option Addr,w22.cell? (a19.add 4)=some (.pointer p25) /\ Value.pointer p25=.pointer p20) /\ CS 121 #[.pointer p20,.complex FloatKind.f64 n23 n24] w22 fun v26 w27=>∃i28:Int,v26=.int .i64 i28 /\ R (.int .i64 i28) w27)))
theorem vc132.ok{x0:Option Addr}{x1:Int}{x2a:Option Addr}{x2l x2c:Nat}(h:vc132 x0 x1 x2a x2l x2c w R ):Calls prog 77 #[.pointer x0,.int .i64 x1,.slice x2a x2l x2c] w (Ret R):=
 bodyE zN Tryz.func77 (h:=h)
def va133:Ann:=⟨fun id=>cond (Nat.beq id 9) ⟨[(36,.int .i64 0)],([12]++rg 37 10)⟩ (LI.none),fun l=>none,fun i=>none⟩
def vc133(x0:Option Addr)(x1 x2:Int)(w:World)(R:VW):Prop:=
 CS 109 #[.pointer x0,.int .i64 x1,.int .i64 x2] w fun v0 w1=>∃i2:Int,v0=.int .i64 i2 /\ ifB (i2 != 0) (R (.tuple #[.slice none 0 0,.int .i64 i2]) w1) (someA x0 fun a3=>0<=x1 /\ x1<(↑(8:Nat):Int) /\ ∃(p4:Option Addr)(n5 n6:Nat),w1.cell? ((a3.add 1).add x1.toNat)=some (.slice p4 n5 n6) /\ ifB (decide (x2>(↑n5:Int))) (R (.tuple #[.slice none 0 0,.int .i64 12]) w1) (0<=x2 /\ x2<=(↑n5:Int) /\ (↑n5:Int)<=(↑n6:Int) /\ CS 110 #[.slice (subA p4 x2.toNat n6 1) ((↑n5:Int).toNat-x2.toNat) (n6-x2.toNat)] w1 fun v7 w8=>∃(p9:Option Addr)(n10 n11:Nat),v7=.slice p9 n10 n11 /\ ∃x12:Nat->Int->World->Prop,(∃n13:Nat,x12 n13 0 w8) /\ ∀(n14:Nat)(jv:Nat->Value)(i15:Int)(w16:World),x12 n14 i15 w16->ifB (decide (i15<(↑n10:Int))) (0<=i15 /\ i15<(↑n10:Int) /\ someA p9 fun a17=>∃i18:Int,w16.cell? (a17.add i15.toNat)=some (.int .i64 i18) /\ someA x0 fun a19=>∃p20:Option Addr,w16.cell? (a19.add 0)=some (.pointer p20) /\ CS 122 #[.pointer p20,.int .i64 i18] w16 fun v21 w22=>∃i23:Int,v21=.int .i64 i23 /\ ∃n24:Nat,n24<n14 /\ x12 n24 (IntKind.i64.wrap (i15+1)) w22) (∀(w25:World),w25=w16.drew->(0:Int)<=0 /\ 0<=x2 /\ x2<=(↑n6:Int) /\ w25=w25 /\ someA x0 fun a26=>CS 110 #[.slice (subA p4 0 n6 1) (x2.toNat-0) (n6-0)] w25 fun v27 w28=>∃(p29:Option Addr)(n30 n31:Nat),v27=.slice p29 n30 n31 /\ 0<=x1 /\ x1<(↑(8:Nat):Int) /\ w28=w28 /\ WrC w28 ((a26.add 1).add x1.toNat) 1 /\ ∀(w32:World),w32=wr w28 ((a26.add 1).add x1.toNat) [.slice p29 n30 n31]->R (.tuple #[.slice p9 n10 n11,.int .i64 0]) w32)))
theorem vc133.ok{x0:Option Addr}{x1 x2:Int}(h:vc133 x0 x1 x2 w R ):Calls prog 78 #[.pointer x0,.int .i64 x1,.int .i64 x2] w (Ret R):=
 bodyE va133 Tryz.func78 (h:=h)
def vc134(x0:Option Addr)(w:World)(R:VW):Prop:=
 ifB x0.isNone (R (.int .i64 0) w) (someA x0 fun a0=>∃p1:Option Addr,w.cell? (a0.add 3)=some (.pointer p1) /\ CS 123 #[.pointer p1] w fun v2 w3=>∃i4:Int,v2=.int .i64 i4 /\ R (.int .i64 i4) w3)
theorem vc134.ok{x0:Option Addr}(h:vc134 x0 w R ):Calls prog 79 #[.pointer x0] w (Ret R):=
 bodyE zN Tryz.func79 (h:=h)
def vc135(x0:Option Addr)(w:World)(R:VW):Prop:=
 ifB x0.isNone (R (.tuple #[]) w) (someA x0 fun a0=>∃p1:Option Addr,w.cell? (a0.add 2)=some (.pointer p1) /\ CS 124 #[.pointer p1] w fun v2 w3=>v2=.tuple #[] /\ ∀(w4:World),w4=w3.drew->someA x0 fun a5=>∃p6:Option Addr,w4.cell? (a5.add 4)=some (.pointer p6) /\ someA x0 fun a7=>∃p8:Option Addr,w4.cell? (a7.add 4)=some (.pointer p8) /\ CS 98 #[.pointer p8] w4 fun v9 w10=>∃n11 n12:Nat,v9=.complex FloatKind.f64 n11 n12 /\ (∃p13:Option Addr,w10.cell? (a5.add 4)=some (.pointer p13) /\ Value.pointer p13=.pointer p6) /\ CS 125 #[.pointer p6,.complex FloatKind.f64 n11 n12] w10 fun v14 w15=>∃i16:Int,v14=.int .i64 i16 /\ ∀(w17:World),w17=w15.drew->someA x0 fun a18=>∃i19:Int,w17.cell? (a18.add 5)=some (.int .i64 i19) /\ someA x0 fun a20=>∃p21:Option Addr,w17.cell? (a20.add 3)=some (.pointer p21) /\ CS 123 #[.pointer p21] w17 fun v22 w23=>∃i24:Int,v22=.int .i64 i24 /\ (∃i25:Int,w23.cell? (a18.add 5)=some (.int .i64 i25) /\ Value.int .i64 i25=.int .i64 i19) /\ CS 114 #[.int .i64 i19,.int .i64 i24] w23 fun v26 w27=>∃(p28:Option Addr)(i29:Int),v26=.tuple #[.pointer p28,.int .i64 i29] /\ someA x0 fun a30=>WrC w27 (a30.add 3) 1 /\ ∀(w31:World),w31=wr w27 (a30.add 3) [.pointer p28]->∃(p32:Option Nat)(w33:World),Sem.run prog (Instr.makeMap 48 none) w31=.ok (.map p32) w33 /\ someA x0 fun a34=>WrC w33 (a34.add 7) 1 /\ ∀(w35:World),w35=wr w33 (a34.add 7) [.map p32]->R (.tuple #[]) w35)
theorem vc135.ok{x0:Option Addr}(h:vc135 x0 w R ):Calls prog 80 #[.pointer x0] w (Ret R):=
 bodyE zN Tryz.func80 (h:=h)
def vc136(x0:Option Addr)(x1:Int)(w:World)(R:VW):Prop:=
 CS 78 #[.pointer x0,.int .i64 x1,.int .i64 0] w fun v0 w1=>∃(p2:Option Addr)(n3 n4:Nat)(i5:Int),v0=.tuple #[.slice p2 n3 n4,.int .i64 i5] /\ R (.tuple #[.slice p2 n3 n4,.int .i64 i5]) w1
theorem vc136.ok{x0:Option Addr}{x1:Int}(h:vc136 x0 x1 w R ):Calls prog 81 #[.pointer x0,.int .i64 x1] w (Ret R):=
 bodyE zN Tryz.func81 (h:=h)
def vc137(x0:Option Addr)(x1:Int)(w:World)(R:VW):Prop:=
 ∀(n0:Nat)(w1:World),n0=w.heap.size->w1=w.alloc (.cells #[.int .i64 0,.int .u64 0,.int .i64 0,.int .i64 0,.string (.mk #[]),.int .i64 0] 40)->ifB x0.isNone (CS 126 #[.pointer x0,.int .i64 11] w1 fun v2 w3=>∃(i4 i5 i6 i7:Int)(s8:ByteArray)(i9:Int),v2=.agg #[.int .i64 i4,.int .u64 i5,.int .i64 i6,.int .i64 i7,.string s8,.int .i64 i9] /\ WrC w3 (zA n0) 6 /\ ∀(w10:World),w10=wr w3 (zA n0) [.int .i64 i4,.int .u64 i5,.int .i64 i6,.int .i64 i7,.string s8,.int .i64 i9]->∃(i11 i12 i13 i14:Int)(s15:ByteArray)(i16:Int),CellsAt w10 (zA n0) [.int .i64 i11,.int .u64 i12,.int .i64 i13,.int .i64 i14,.string s15,.int .i64 i16] /\ R (.agg #[.int .i64 i11,.int .u64 i12,.int .i64 i13,.int .i64 i14,.string s15,.int .i64 i16]) w10) (CS 127 #[.pointer x0,.int .i64 x1] w1 fun v17 w18=>∃i19 i20 i21:Int,v17=.tuple #[.int .u64 i19,.int .i64 i20,.int .i64 i21] /\ CS 128 #[.pointer x0,.agg #[.int .i64 i21,.int .u64 i19,.int .i64 i20,.int .i64 0,.string (.mk #[]),.int .i64 0]] w18 fun v22 w23=>∃(i24 i25 i26 i27:Int)(s28:ByteArray)(i29:Int),v22=.agg #[.int .i64 i24,.int .u64 i25,.int .i64 i26,.int .i64 i27,.string s28,.int .i64 i29] /\ WrC w23 (zA n0) 6 /\ ∀(w30:World),w30=wr w23 (zA n0) [.int .i64 i24,.int .u64 i25,.int .i64 i26,.int .i64 i27,.string s28,.int .i64 i29]->∃(i31 i32 i33 i34:Int)(s35:ByteArray)(i36:Int),CellsAt w30 (zA n0) [.int .i64 i31,.int .u64 i32,.int .i64 i33,.int .i64 i34,.string s35,.int .i64 i36] /\ R (.agg #[.int .i64 i31,.int .u64 i32,.int .i64 i33,.int .i64 i34,.string s35,.int .i64 i36]) w30)
theorem vc137.ok{x0:Option Addr}{x1:Int}(h:vc137 x0 x1 w R ):Calls prog 82 #[.pointer x0,.int .i64 x1] w (Ret R):=
 bodyE zN Tryz.func82 (h:=h)
def vc138(x0:Option Addr)(x1 x2:Int)(w:World)(R:VW):Prop:=
 ∀(n0:Nat)(w1:World),n0=w.heap.size->w1=w.alloc (.cells #[.int .i64 0,.int .u64 0,.int .i64 0,.int .i64 0,.string (.mk #[]),.int .i64 0] 40)->ifB (decide (x1<1)) (CS 126 #[.pointer x0,.int .i64 2] w1 fun v2 w3=>∃(i4 i5 i6 i7:Int)(s8:ByteArray)(i9:Int),v2=.agg #[.int .i64 i4,.int .u64 i5,.int .i64 i6,.int .i64 i7,.string s8,.int .i64 i9] /\ WrC w3 (zA n0) 6 /\ ∀(w10:World),w10=wr w3 (zA n0) [.int .i64 i4,.int .u64 i5,.int .i64 i6,.int .i64 i7,.string s8,.int .i64 i9]->∃(i11 i12 i13 i14:Int)(s15:ByteArray)(i16:Int),CellsAt w10 (zA n0) [.int .i64 i11,.int .u64 i12,.int .i64 i13,.int .i64 i14,.string s15,.int .i64 i16] /\ R (.agg #[.int .i64 i11,.int .u64 i12,.int .i64 i13,.int .i64 i14,.string s15,.int .i64 i16]) w10) (ifB (decide (x2<1)) (CS 126 #[.pointer x0,.int .i64 2] w1 fun v17 w18=>∃(i19 i20 i21 i22:Int)(s23:ByteArray)(i24:Int),v17=.agg #[.int .i64 i19,.int .u64 i20,.int .i64 i21,.int .i64 i22,.string s23,.int .i64 i24] /\ WrC w18 (zA n0) 6 /\ ∀(w25:World),w25=wr w18 (zA n0) [.int .i64 i19,.int .u64 i20,.int .i64 i21,.int .i64 i22,.string s23,.int .i64 i24]->∃(i26 i27 i28 i29:Int)(s30:ByteArray)(i31:Int),CellsAt w25 (zA n0) [.int .i64 i26,.int .u64 i27,.int .i64 i28,.int .i64 i29,.string s30,.int .i64 i31] /\ R (.agg #[.int .i64 i26,.int .u64 i27,.int .i64 i28,.int .i64 i29,.string s30,.int .i64 i31]) w25) (x2 ≠ 0 /\ ifB (decide (x1>IntKind.i64.wrap (Int.tdiv 8192 x2))) (CS 126 #[.pointer x0,.int .i64 2] w1 fun v32 w33=>∃(i34 i35 i36 i37:Int)(s38:ByteArray)(i39:Int),v32=.agg #[.int .i64 i34,.int .u64 i35,.int .i64 i36,.int .i64 i37,.string s38,.int .i64 i39] /\ WrC w33 (zA n0) 6 /\ ∀(w40:World),w40=wr w33 (zA n0) [.int .i64 i34,.int .u64 i35,.int .i64 i36,.int .i64 i37,.string s38,.int .i64 i39]->∃(i41 i42 i43 i44:Int)(s45:ByteArray)(i46:Int),CellsAt w40 (zA n0) [.int .i64 i41,.int .u64 i42,.int .i64 i43,.int .i64 i44,.string s45,.int .i64 i46] /\ R (.agg #[.int .i64 i41,.int .u64 i42,.int .i64 i43,.int .i64 i44,.string s45,.int .i64 i46]) w40) (CS 82 #[.pointer x0,.int .i64 (IntKind.i64.wrap (x1*x2))] w1 fun v47 w48=>∃(i49 i50 i51 i52:Int)(s53:ByteArray)(i54:Int),v47=.agg #[.int .i64 i49,.int .u64 i50,.int .i64 i51,.int .i64 i52,.string s53,.int .i64 i54] /\ WrC w48 (zA n0) 6 /\ ∀(w55:World),w55=wr w48 (zA n0) [.int .i64 i49,.int .u64 i50,.int .i64 i51,.int .i64 i52,.string s53,.int .i64 i54]->∃(i56 i57 i58 i59:Int)(s60:ByteArray)(i61:Int),CellsAt w55 (zA n0) [.int .i64 i56,.int .u64 i57,.int .i64 i58,.int .i64 i59,.string s60,.int .i64 i61] /\ R (.agg #[.int .i64 i56,.int .u64 i57,.int .i64 i58,.int .i64 i59,.string s60,.int .i64 i61]) w55)))
theorem vc138.ok{x0:Option Addr}{x1 x2:Int}(h:vc138 x0 x1 x2 w R ):Calls prog 83 #[.pointer x0,.int .i64 x1,.int .i64 x2] w (Ret R):=
 bodyE zN Tryz.func83 (h:=h)
def vc139(x0:Option Addr)(x1:Int)(w:World)(R:VW):Prop:=
 ∀(n0:Nat)(w1:World),n0=w.heap.size->w1=w.alloc (.cells #[.int .i64 0,.int .u64 0,.int .i64 0,.int .i64 0,.string (.mk #[]),.int .i64 0] 40)->CS 129 #[.pointer x0,.int .u64 x1,.int .i64 4] w1 fun v2 w3=>∃i4 i5:Int,v2=.tuple #[.int .i64 i4,.int .i64 i5] /\ ifB (i5 == 0) (CS 130 #[.pointer x0,.int .i64 i4] w3 fun v6 w7=>v6=.tuple #[] /\ CS 126 #[.pointer x0,.int .i64 i5] w7 fun v8 w9=>∃(i10 i11 i12 i13:Int)(s14:ByteArray)(i15:Int),v8=.agg #[.int .i64 i10,.int .u64 i11,.int .i64 i12,.int .i64 i13,.string s14,.int .i64 i15] /\ WrC w9 (zA n0) 6 /\ ∀(w16:World),w16=wr w9 (zA n0) [.int .i64 i10,.int .u64 i11,.int .i64 i12,.int .i64 i13,.string s14,.int .i64 i15]->∃(i17 i18 i19 i20:Int)(s21:ByteArray)(i22:Int),CellsAt w16 (zA n0) [.int .i64 i17,.int .u64 i18,.int .i64 i19,.int .i64 i20,.string s21,.int .i64 i22] /\ R (.agg #[.int .i64 i17,.int .u64 i18,.int .i64 i19,.int .i64 i20,.string s21,.int .i64 i22]) w16) (CS 126 #[.pointer x0,.int .i64 i5] w3 fun v23 w24=>∃(i25 i26 i27 i28:Int)(s29:ByteArray)(i30:Int),v23=.agg #[.int .i64 i25,.int .u64 i26,.int .i64 i27,.int .i64 i28,.string s29,.int .i64 i30] /\ WrC w24 (zA n0) 6 /\ ∀(w31:World),w31=wr w24 (zA n0) [.int .i64 i25,.int .u64 i26,.int .i64 i27,.int .i64 i28,.string s29,.int .i64 i30]->∃(i32 i33 i34 i35:Int)(s36:ByteArray)(i37:Int),CellsAt w31 (zA n0) [.int .i64 i32,.int .u64 i33,.int .i64 i34,.int .i64 i35,.string s36,.int .i64 i37] /\ R (.agg #[.int .i64 i32,.int .u64 i33,.int .i64 i34,.int .i64 i35,.string s36,.int .i64 i37]) w31)
theorem vc139.ok{x0:Option Addr}{x1:Int}(h:vc139 x0 x1 w R ):Calls prog 84 #[.pointer x0,.int .u64 x1] w (Ret R):=
 bodyE zN Tryz.func84 (h:=h)
def vc140(x0:Option Addr)(x1 x2:Int)(w:World)(R:VW):Prop:=
 ∀(n0:Nat)(w1:World),n0=w.heap.size->w1=w.alloc (.cells #[.int .i64 0,.int .u64 0,.int .i64 0,.int .i64 0,.string (.mk #[]),.int .i64 0] 40)->CS 129 #[.pointer x0,.int .u64 x1,.int .i64 4] w1 fun v2 w3=>∃i4 i5:Int,v2=.tuple #[.int .i64 i4,.int .i64 i5] /\ ifB (i5 != 0) (CS 126 #[.pointer x0,.int .i64 i5] w3 fun v6 w7=>∃(i8 i9 i10 i11:Int)(s12:ByteArray)(i13:Int),v6=.agg #[.int .i64 i8,.int .u64 i9,.int .i64 i10,.int .i64 i11,.string s12,.int .i64 i13] /\ WrC w7 (zA n0) 6 /\ ∀(w14:World),w14=wr w7 (zA n0) [.int .i64 i8,.int .u64 i9,.int .i64 i10,.int .i64 i11,.string s12,.int .i64 i13]->∃(i15 i16 i17 i18:Int)(s19:ByteArray)(i20:Int),CellsAt w14 (zA n0) [.int .i64 i15,.int .u64 i16,.int .i64 i17,.int .i64 i18,.string s19,.int .i64 i20] /\ R (.agg #[.int .i64 i15,.int .u64 i16,.int .i64 i17,.int .i64 i18,.string s19,.int .i64 i20]) w14) (CS 19 #[.int .i64 x2] w3 fun v21 w22=>∃i23:Int,v21=.int .i64 i23 /\ ifB (decide (i23<0)) (CS 126 #[.pointer x0,.int .i64 2] w22 fun v24 w25=>∃(i26 i27 i28 i29:Int)(s30:ByteArray)(i31:Int),v24=.agg #[.int .i64 i26,.int .u64 i27,.int .i64 i28,.int .i64 i29,.string s30,.int .i64 i31] /\ WrC w25 (zA n0) 6 /\ ∀(w32:World),w32=wr w25 (zA n0) [.int .i64 i26,.int .u64 i27,.int .i64 i28,.int .i64 i29,.string s30,.int .i64 i31]->∃(i33 i34 i35 i36:Int)(s37:ByteArray)(i38:Int),CellsAt w32 (zA n0) [.int .i64 i33,.int .u64 i34,.int .i64 i35,.int .i64 i36,.string s37,.int .i64 i38] /\ R (.agg #[.int .i64 i33,.int .u64 i34,.int .i64 i35,.int .i64 i36,.string s37,.int .i64 i38]) w32) (someA x0 fun a39=>∃p40:Option Nat,w22.cell? (a39.add 7)=some (.map p40) /\ ∃(i41:Int)(w42:World),Sem.run prog (Instr.lookup 48 (.map p40) (.int .i64 i4) false) w22=.ok (.int .i64 i41) w42 /\ someA x0 fun a43=>∃p44:Option Addr,w42.cell? (a43.add 2)=some (.pointer p44) /\ CS 95 #[.pointer p44,.int .i64 i4] w42 fun v45 w46=>∃i47 i48:Int,v45=.tuple #[.int .i64 i47,.int .i64 i48] /\ CS 131 #[.int .i64 x2] w46 fun v49 w50=>∃i51:Int,v49=.int .i64 i51 /\ ifB (decide (i51>i47)) (CS 127 #[.pointer x0,.int .i64 x2] w50 fun v52 w53=>∃i54 i55 i56:Int,v52=.tuple #[.int .u64 i54,.int .i64 i55,.int .i64 i56] /\ ifB (i56 != 0) (CS 126 #[.pointer x0,.int .i64 i56] w53 fun v57 w58=>∃(i59 i60 i61 i62:Int)(s63:ByteArray)(i64:Int),v57=.agg #[.int .i64 i59,.int .u64 i60,.int .i64 i61,.int .i64 i62,.string s63,.int .i64 i64] /\ WrC w58 (zA n0) 6 /\ ∀(w65:World),w65=wr w58 (zA n0) [.int .i64 i59,.int .u64 i60,.int .i64 i61,.int .i64 i62,.string s63,.int .i64 i64]->∃(i66 i67 i68 i69:Int)(s70:ByteArray)(i71:Int),CellsAt w65 (zA n0) [.int .i64 i66,.int .u64 i67,.int .i64 i68,.int .i64 i69,.string s70,.int .i64 i71] /\ R (.agg #[.int .i64 i66,.int .u64 i67,.int .i64 i68,.int .i64 i69,.string s70,.int .i64 i71]) w65) (∀(w72:World),w72=w53.drew->someA x0 fun a73=>∃p74:Option Addr,w72.cell? (a73.add 0)=some (.pointer p74) /\ someA x0 fun a75=>∃p76:Option Addr,w72.cell? (a75.add 2)=some (.pointer p76) /\ CS 46 #[.pointer p76] w72 fun v77 w78=>∃p79:Option Addr,v77=.pointer p79 /\ (∃p80:Option Addr,w78.cell? (a73.add 0)=some (.pointer p80) /\ Value.pointer p80=.pointer p74) /\ CS 133 #[.pointer p74,.pointer p79,.int .i64 i55,.int .i64 i4,.int .i64 i41] w78 fun v81 w82=>∃i83:Int,v81=.int .i64 i83 /\ CS 130 #[.pointer x0,.int .i64 i4] w82 fun v84 w85=>v84=.tuple #[] /\ CS 128 #[.pointer x0,.agg #[.int .i64 0,.int .u64 i54,.int .i64 i55,.int .i64 0,.string (.mk #[]),.int .i64 0]] w85 fun v86 w87=>∃(i88 i89 i90 i91:Int)(s92:ByteArray)(i93:Int),v86=.agg #[.int .i64 i88,.int .u64 i89,.int .i64 i90,.int .i64 i91,.string s92,.int .i64 i93] /\ WrC w87 (zA n0) 6 /\ ∀(w94:World),w94=wr w87 (zA n0) [.int .i64 i88,.int .u64 i89,.int .i64 i90,.int .i64 i91,.string s92,.int .i64 i93]->∃(i95 i96 i97 i98:Int)(s99:ByteArray)(i100:Int),CellsAt w94 (zA n0) [.int .i64 i95,.int .u64 i96,.int .i64 i97,.int .i64 i98,.string s99,.int .i64 i100] /\ R (.agg #[.int .i64 i95,.int .u64 i96,.int .i64 i97,.int .i64 i98,.string s99,.int .i64 i100]) w94)) (ifB (decide (i41>x2)) (∀(w101:World),w101=w50.drew->someA x0 fun a102=>∃p103:Option Addr,w101.cell? (a102.add 0)=some (.pointer p103) /\ someA x0 fun a104=>∃p105:Option Addr,w101.cell? (a104.add 2)=some (.pointer p105) /\ CS 46 #[.pointer p105] w101 fun v106 w107=>∃p108:Option Addr,v106=.pointer p108 /\ Value.int .i64 (IntKind.i64.wrap (i41-x2))=.int .i64 (IntKind.i64.wrap (i41-x2)) /\ Value.int .i64 (IntKind.i64.wrap (i4+x2))=.int .i64 (IntKind.i64.wrap (i4+x2)) /\ (∃p109:Option Addr,w107.cell? (a102.add 0)=some (.pointer p109) /\ Value.pointer p109=.pointer p103) /\ CS 132 #[.pointer p103,.pointer p108,.int .i64 (IntKind.i64.wrap (i4+x2)),.int .i64 (IntKind.i64.wrap (i41-x2))] w107 fun v110 w111=>∃i112:Int,v110=.int .i64 i112 /\ someA x0 fun a113=>∃p114:Option Nat,w111.cell? (a113.add 7)=some (.map p114) /\ ∃w115:World,Sem.run prog (Instr.mapUpdate 48 (.map p114) (.int .i64 i4) (.int .i64 x2)) w111=.ok () w115 /\ CS 128 #[.pointer x0,.agg #[.int .i64 0,.int .u64 x1,.int .i64 i4,.int .i64 0,.string (.mk #[]),.int .i64 0]] w115 fun v116 w117=>∃(i118 i119 i120 i121:Int)(s122:ByteArray)(i123:Int),v116=.agg #[.int .i64 i118,.int .u64 i119,.int .i64 i120,.int .i64 i121,.string s122,.int .i64 i123] /\ WrC w117 (zA n0) 6 /\ ∀(w124:World),w124=wr w117 (zA n0) [.int .i64 i118,.int .u64 i119,.int .i64 i120,.int .i64 i121,.string s122,.int .i64 i123]->∃(i125 i126 i127 i128:Int)(s129:ByteArray)(i130:Int),CellsAt w124 (zA n0) [.int .i64 i125,.int .u64 i126,.int .i64 i127,.int .i64 i128,.string s129,.int .i64 i130] /\ R (.agg #[.int .i64 i125,.int .u64 i126,.int .i64 i127,.int .i64 i128,.string s129,.int .i64 i130]) w124) (someA x0 fun a131=>∃p132:Option Nat,w50.cell? (a131.add 7)=some (.map p132) /\ ∃w133:World,Sem.run prog (Instr.mapUpdate 48 (.map p132) (.int .i64 i4) (.int .i64 x2)) w50=.ok () w133 /\ CS 128 #[.pointer x0,.agg #[.int .i64 0,.int .u64 x1,.int .i64 i4,.int .i64 0,.string (.mk #[]),.int .i64 0]] w133 fun v134 w135=>∃(i136 i137 i138 i139:Int)(s140:ByteArray)(i141:Int),v134=.agg #[.int .i64 i136,.int .u64 i137,.int .i64 i138,.int .i64 i139,.string s140,.int .i64 i141] /\ WrC w135 (zA n0) 6 /\ ∀(w142:World),w142=wr w135 (zA n0) [.int .i64 i136,.int .u64 i137,.int .i64 i138,.int .i64 i139,.string s140,.int .i64 i141]->∃(i143 i144 i145 i146:Int)(s147:ByteArray)(i148:Int),CellsAt w142 (zA n0) [.int .i64 i143,.int .u64 i144,.int .i64 i145,.int .i64 i146,.string s147,.int .i64 i148] /\ R (.agg #[.int .i64 i143,.int .u64 i144,.int .i64 i145,.int .i64 i146,.string s147,.int .i64 i148]) w142))))
theorem vc140.ok{x0:Option Addr}{x1 x2:Int}(h:vc140 x0 x1 x2 w R ):Calls prog 85 #[.pointer x0,.int .u64 x1,.int .i64 x2] w (Ret R):=
 bodyE zN Tryz.func85 (h:=h)
def vc141(x0:Option Addr)(x1:Int)(w:World)(R:VW):Prop:=
 ∀(n0:Nat)(w1:World),n0=w.heap.size->w1=w.alloc (.cells #[.int .i64 0,.int .u64 0,.int .i64 0,.int .i64 0,.string (.mk #[]),.int .i64 0] 40)->CS 129 #[.pointer x0,.int .u64 x1,.int .i64 0] w1 fun v2 w3=>∃i4 i5:Int,v2=.tuple #[.int .i64 i4,.int .i64 i5] /\ ifB (i5 != 0) (CS 126 #[.pointer x0,.int .i64 i5] w3 fun v6 w7=>∃(i8 i9 i10 i11:Int)(s12:ByteArray)(i13:Int),v6=.agg #[.int .i64 i8,.int .u64 i9,.int .i64 i10,.int .i64 i11,.string s12,.int .i64 i13] /\ WrC w7 (zA n0) 6 /\ ∀(w14:World),w14=wr w7 (zA n0) [.int .i64 i8,.int .u64 i9,.int .i64 i10,.int .i64 i11,.string s12,.int .i64 i13]->∃(i15 i16 i17 i18:Int)(s19:ByteArray)(i20:Int),CellsAt w14 (zA n0) [.int .i64 i15,.int .u64 i16,.int .i64 i17,.int .i64 i18,.string s19,.int .i64 i20] /\ R (.agg #[.int .i64 i15,.int .u64 i16,.int .i64 i17,.int .i64 i18,.string s19,.int .i64 i20]) w14) (someA x0 fun a21=>∃p22:Option Addr,w3.cell? (a21.add 2)=some (.pointer p22) /\ CS 95 #[.pointer p22,.int .i64 i4] w3 fun v23 w24=>∃i25 i26:Int,v23=.tuple #[.int .i64 i25,.int .i64 i26] /\ CS 128 #[.pointer x0,.agg #[.int .i64 0,.int .u64 0,.int .i64 0,.int .i64 i25,.string (.mk #[]),.int .i64 0]] w24 fun v27 w28=>∃(i29 i30 i31 i32:Int)(s33:ByteArray)(i34:Int),v27=.agg #[.int .i64 i29,.int .u64 i30,.int .i64 i31,.int .i64 i32,.string s33,.int .i64 i34] /\ WrC w28 (zA n0) 6 /\ ∀(w35:World),w35=wr w28 (zA n0) [.int .i64 i29,.int .u64 i30,.int .i64 i31,.int .i64 i32,.string s33,.int .i64 i34]->∃(i36 i37 i38 i39:Int)(s40:ByteArray)(i41:Int),CellsAt w35 (zA n0) [.int .i64 i36,.int .u64 i37,.int .i64 i38,.int .i64 i39,.string s40,.int .i64 i41] /\ R (.agg #[.int .i64 i36,.int .u64 i37,.int .i64 i38,.int .i64 i39,.string s40,.int .i64 i41]) w35)
theorem vc141.ok{x0:Option Addr}{x1:Int}(h:vc141 x0 x1 w R ):Calls prog 86 #[.pointer x0,.int .u64 x1] w (Ret R):=
 bodyE zN Tryz.func86 (h:=h)
def vc142(x0:Option Addr)(x1 x2 x3:Int)(w:World)(R:VW):Prop:=
 ∀(n0:Nat)(w1:World),n0=w.heap.size->w1=w.alloc (.cells #[.int .i64 0,.int .u64 0,.int .i64 0,.int .i64 0,.string (.mk #[]),.int .i64 0] 40)->CS 134 #[.pointer x0,.int .u64 x1,.int .i64 1,.int .i64 x2,.int .i64 x3] w1 fun v2 w3=>∃i4 i5:Int,v2=.tuple #[.int .i64 i4,.int .i64 i5] /\ ifB (i5 != 0) (CS 126 #[.pointer x0,.int .i64 i5] w3 fun v6 w7=>∃(i8 i9 i10 i11:Int)(s12:ByteArray)(i13:Int),v6=.agg #[.int .i64 i8,.int .u64 i9,.int .i64 i10,.int .i64 i11,.string s12,.int .i64 i13] /\ WrC w7 (zA n0) 6 /\ ∀(w14:World),w14=wr w7 (zA n0) [.int .i64 i8,.int .u64 i9,.int .i64 i10,.int .i64 i11,.string s12,.int .i64 i13]->∃(i15 i16 i17 i18:Int)(s19:ByteArray)(i20:Int),CellsAt w14 (zA n0) [.int .i64 i15,.int .u64 i16,.int .i64 i17,.int .i64 i18,.string s19,.int .i64 i20] /\ R (.agg #[.int .i64 i15,.int .u64 i16,.int .i64 i17,.int .i64 i18,.string s19,.int .i64 i20]) w14) (∀(w21:World),w21=w3.drew->someA x0 fun a22=>∃p23:Option Addr,w21.cell? (a22.add 0)=some (.pointer p23) /\ someA x0 fun a24=>∃p25:Option Addr,w21.cell? (a24.add 2)=some (.pointer p25) /\ CS 46 #[.pointer p25] w21 fun v26 w27=>∃p28:Option Addr,v26=.pointer p28 /\ (∃p29:Option Addr,w27.cell? (a22.add 0)=some (.pointer p29) /\ Value.pointer p29=.pointer p23) /\ CS 135 #[.pointer p23,.pointer p28,.int .i64 i4,.int .i64 x3] w27 fun v30 w31=>∃(s32:ByteArray)(i33:Int),v30=.tuple #[.string s32,.int .i64 i33] /\ CS 128 #[.pointer x0,.agg #[.int .i64 i33,.int .u64 0,.int .i64 0,.int .i64 0,.string s32,.int .i64 0]] w31 fun v34 w35=>∃(i36 i37 i38 i39:Int)(s40:ByteArray)(i41:Int),v34=.agg #[.int .i64 i36,.int .u64 i37,.int .i64 i38,.int .i64 i39,.string s40,.int .i64 i41] /\ WrC w35 (zA n0) 6 /\ ∀(w42:World),w42=wr w35 (zA n0) [.int .i64 i36,.int .u64 i37,.int .i64 i38,.int .i64 i39,.string s40,.int .i64 i41]->∃(i43 i44 i45 i46:Int)(s47:ByteArray)(i48:Int),CellsAt w42 (zA n0) [.int .i64 i43,.int .u64 i44,.int .i64 i45,.int .i64 i46,.string s47,.int .i64 i48] /\ R (.agg #[.int .i64 i43,.int .u64 i44,.int .i64 i45,.int .i64 i46,.string s47,.int .i64 i48]) w42)
theorem vc142.ok{x0:Option Addr}{x1 x2 x3:Int}(h:vc142 x0 x1 x2 x3 w R ):Calls prog 87 #[.pointer x0,.int .u64 x1,.int .i64 x2,.int .i64 x3] w (Ret R):=
 bodyE zN Tryz.func87 (h:=h)
def vc143(x0:Option Addr)(x1 x2:Int)(x3:ByteArray)(w:World)(R:VW):Prop:=
 ∀(n0:Nat)(w1:World),n0=w.heap.size->w1=w.alloc (.cells #[.int .i64 0,.int .u64 0,.int .i64 0,.int .i64 0,.string (.mk #[]),.int .i64 0] 40)->CS 134 #[.pointer x0,.int .u64 x1,.int .i64 2,.int .i64 x2,.int .i64 (↑x3.size:Int)] w1 fun v2 w3=>∃i4 i5:Int,v2=.tuple #[.int .i64 i4,.int .i64 i5] /\ ifB (i5 == 0) (∀(w6:World),w6=w3.drew->someA x0 fun a7=>∃p8:Option Addr,w6.cell? (a7.add 0)=some (.pointer p8) /\ someA x0 fun a9=>∃p10:Option Addr,w6.cell? (a9.add 2)=some (.pointer p10) /\ CS 46 #[.pointer p10] w6 fun v11 w12=>∃p13:Option Addr,v11=.pointer p13 /\ (∃p14:Option Addr,w12.cell? (a7.add 0)=some (.pointer p14) /\ Value.pointer p14=.pointer p8) /\ CS 136 #[.pointer p8,.pointer p13,.int .i64 i4,.string x3] w12 fun v15 w16=>∃i17:Int,v15=.int .i64 i17 /\ CS 126 #[.pointer x0,.int .i64 i17] w16 fun v18 w19=>∃(i20 i21 i22 i23:Int)(s24:ByteArray)(i25:Int),v18=.agg #[.int .i64 i20,.int .u64 i21,.int .i64 i22,.int .i64 i23,.string s24,.int .i64 i25] /\ WrC w19 (zA n0) 6 /\ ∀(w26:World),w26=wr w19 (zA n0) [.int .i64 i20,.int .u64 i21,.int .i64 i22,.int .i64 i23,.string s24,.int .i64 i25]->∃(i27 i28 i29 i30:Int)(s31:ByteArray)(i32:Int),CellsAt w26 (zA n0) [.int .i64 i27,.int .u64 i28,.int .i64 i29,.int .i64 i30,.string s31,.int .i64 i32] /\ R (.agg #[.int .i64 i27,.int .u64 i28,.int .i64 i29,.int .i64 i30,.string s31,.int .i64 i32]) w26) (CS 126 #[.pointer x0,.int .i64 i5] w3 fun v33 w34=>∃(i35 i36 i37 i38:Int)(s39:ByteArray)(i40:Int),v33=.agg #[.int .i64 i35,.int .u64 i36,.int .i64 i37,.int .i64 i38,.string s39,.int .i64 i40] /\ WrC w34 (zA n0) 6 /\ ∀(w41:World),w41=wr w34 (zA n0) [.int .i64 i35,.int .u64 i36,.int .i64 i37,.int .i64 i38,.string s39,.int .i64 i40]->∃(i42 i43 i44 i45:Int)(s46:ByteArray)(i47:Int),CellsAt w41 (zA n0) [.int .i64 i42,.int .u64 i43,.int .i64 i44,.int .i64 i45,.string s46,.int .i64 i47] /\ R (.agg #[.int .i64 i42,.int .u64 i43,.int .i64 i44,.int .i64 i45,.string s46,.int .i64 i47]) w41)
theorem vc143.ok{x0:Option Addr}{x1 x2:Int}{x3:ByteArray}(h:vc143 x0 x1 x2 x3 w R ):Calls prog 88 #[.pointer x0,.int .u64 x1,.int .i64 x2,.string x3] w (Ret R):=
 bodyE zN Tryz.func88 (h:=h)
def vc144(x0:Option Addr)(x1 x2:Int)(w:World)(R:VW):Prop:=
 ∀(n0:Nat)(w1:World),n0=w.heap.size->w1=w.alloc (.cells #[.int .i64 0,.int .u64 0,.int .i64 0,.int .i64 0,.string (.mk #[]),.int .i64 0] 40)->ifB x0.isNone (CS 126 #[.pointer x0,.int .i64 11] w1 fun v2 w3=>∃(i4 i5 i6 i7:Int)(s8:ByteArray)(i9:Int),v2=.agg #[.int .i64 i4,.int .u64 i5,.int .i64 i6,.int .i64 i7,.string s8,.int .i64 i9] /\ WrC w3 (zA n0) 6 /\ ∀(w10:World),w10=wr w3 (zA n0) [.int .i64 i4,.int .u64 i5,.int .i64 i6,.int .i64 i7,.string s8,.int .i64 i9]->∃(i11 i12 i13 i14:Int)(s15:ByteArray)(i16:Int),CellsAt w10 (zA n0) [.int .i64 i11,.int .u64 i12,.int .i64 i13,.int .i64 i14,.string s15,.int .i64 i16] /\ R (.agg #[.int .i64 i11,.int .u64 i12,.int .i64 i13,.int .i64 i14,.string s15,.int .i64 i16]) w10) (someA x0 fun a17=>∃p18:Option Addr,w1.cell? (a17.add 3)=some (.pointer p18) /\ CS 137 #[.pointer p18,.int .u64 x1,.int .i64 x2] w1 fun v19 w20=>∃i21 i22:Int,v19=.tuple #[.int .u64 i21,.int .i64 i22] /\ CS 128 #[.pointer x0,.agg #[.int .i64 i22,.int .u64 i21,.int .i64 0,.int .i64 0,.string (.mk #[]),.int .i64 0]] w20 fun v23 w24=>∃(i25 i26 i27 i28:Int)(s29:ByteArray)(i30:Int),v23=.agg #[.int .i64 i25,.int .u64 i26,.int .i64 i27,.int .i64 i28,.string s29,.int .i64 i30] /\ WrC w24 (zA n0) 6 /\ ∀(w31:World),w31=wr w24 (zA n0) [.int .i64 i25,.int .u64 i26,.int .i64 i27,.int .i64 i28,.string s29,.int .i64 i30]->∃(i32 i33 i34 i35:Int)(s36:ByteArray)(i37:Int),CellsAt w31 (zA n0) [.int .i64 i32,.int .u64 i33,.int .i64 i34,.int .i64 i35,.string s36,.int .i64 i37] /\ R (.agg #[.int .i64 i32,.int .u64 i33,.int .i64 i34,.int .i64 i35,.string s36,.int .i64 i37]) w31)
theorem vc144.ok{x0:Option Addr}{x1 x2:Int}(h:vc144 x0 x1 x2 w R ):Calls prog 89 #[.pointer x0,.int .u64 x1,.int .i64 x2] w (Ret R):=
 bodyE zN Tryz.func89 (h:=h)
def vc145(x0:Option Addr)(x1:Int)(w:World)(R:VW):Prop:=
 CS 151 #[.pointer x0,.int .i64 x1] w fun v0 w1=>∃i2 i3 i4 i5:Int,v0=.tuple #[.int .i64 i2,.int .i64 i3,.int .i64 i4,.int .i64 i5] /\ ifB (i5 != 0) (R (.tuple #[.int .i64 0,.int .i64 i5]) w1) (CS 152 #[.int .i64 i2] w1 fun v6 w7=>∃i8:Int,v6=.int .i64 i8 /\ R (.tuple #[.int .i64 i8,.int .i64 0]) w7)
theorem vc145.ok{x0:Option Addr}{x1:Int}(h:vc145 x0 x1 w R ):Calls prog 95 #[.pointer x0,.int .i64 x1] w (Ret R):=
 bodyE zN Tryz.func95 (h:=h)
end
set_option maxRecDepth 100000
section
variable{w:World}{R:Value->World->Prop}
def vc147(x0:Option Addr)(w:World)(R:VW):Prop:=
 CS 154 #[.pointer x0,.int .i64 1] w fun v0 w1=>∃s2:ByteArray,v0=.string s2 /\ (0:Int)<=0 /\ ∃u3:UInt8,s2[0]? = some u3 /\ R (.int .i64 (IntKind.i64.wrap (↑u3.toNat:Int))) w1
theorem vc147.ok{x0:Option Addr}(h:vc147 x0 w R ):Calls prog 102 #[.pointer x0] w (Ret R):=
 bodyE zN Tryz.func102 (h:=h)
def va148:Ann:=⟨fun id=>cond (Nat.beq id 4) ⟨[(23,.int .i64 0)],([4,5]++rg 24 19)⟩ (LI.none),fun l=>none,fun i=>none⟩
def vc148(x0 x1:Option Addr)(w:World)(R:VW):Prop:=
 CS 102 #[.pointer x0] w fun v0 w1=>∃i2:Int,v0=.int .i64 i2 /\ someA x1 fun a3=>WrC w1 (a3.add 6) 1 /\ ∀(w4:World),w4=wr w1 (a3.add 6) [.int .i64 i2]->someA x1 fun a5=>∃i6:Int,w4.cell? (a5.add 6)=some (.int .i64 i6) /\ ifB (decide (i6<255)) (R (.tuple #[]) w4) (someA x1 fun a7=>WrC w4 (a7.add 6) 1 /\ ∀(w8:World),w8=wr w4 (a7.add 6) [.int .i64 0]->CS 154 #[.pointer x0,.int .i64 8] w8 fun v9 w10=>∃s11:ByteArray,v9=.string s11 /\ ∃(p12:Option Addr)(n13 n14:Nat)(w15:World),Sem.run prog (convert 9 73 (.string s11)) w10=.ok (.slice p12 n13 n14) w15 /\ ∃x16:Nat->Int->World->Prop,(∃n17:Nat,x16 n17 0 w15) /\ ∀(n18:Nat)(jv:Nat->Value)(i19:Int)(w20:World),x16 n18 i19 w20->ifB (decide (i19<(↑n13:Int))) (0<=i19 /\ i19<(↑n13:Int) /\ someA p12 fun a21=>∃i22:Int,w20.cell? (a21.add i19.toNat)=some (.int .u8 i22) /\ ∀(w23:World),w23=w20.drew->someA x1 fun a24=>∃i25:Int,w23.cell? ((a24.add 0).add 4)=some (.int .u64 i25) /\ w23=w23 /\ 0<=IntKind.i64.wrap (8*i19) /\ w23=w23 /\ w23=w23 /\ someA x1 fun a26=>WrC w23 ((a26.add 0).add 4) 1 /\ ∀(w27:World),w27=wr w23 ((a26.add 0).add 4) [.int .u64 (bits BinOp.or IntKind.u64 i25 (shlV IntKind.u64 (IntKind.u64.wrap i22) (IntKind.i64.wrap (8*i19))))]->∃n28:Nat,n28<n18 /\ x16 n28 (IntKind.i64.wrap (i19+1)) w27) (R (.tuple #[]) w20))
theorem vc148.ok{x0 x1:Option Addr}(h:vc148 x0 x1 w R ):Calls prog 103 #[.pointer x0,.pointer x1] w (Ret R):=
 bodyE va148 Tryz.func103 (h:=h)
def vc149(x0:Option Addr)(w:World)(R:VW):Prop:=
 CS 154 #[.pointer x0,.int .i64 2] w fun v0 w1=>∃s2:ByteArray,v0=.string s2 /\ ∀(w3:World),w3=w1.drew->(0:Int)<=0 /\ ∃u4:UInt8,s2[0]? = some u4 /\ w3=w3 /\ w3=w3 /\ (0:Int)<=1 /\ ∃u5:UInt8,s2[1]? = some u5 /\ w3=w3 /\ w3=w3 /\ (0:Int)<=8 /\ w3=w3 /\ w3=w3 /\ w3=w3 /\ w3=w3 /\ R (.int .i64 (IntKind.i64.wrap (IntKind.i16.wrap (bits BinOp.or IntKind.u16 (IntKind.u16.wrap (↑u4.toNat:Int)) (shlV IntKind.u16 (IntKind.u16.wrap (↑u5.toNat:Int)) 8))))) w3
theorem vc149.ok{x0:Option Addr}(h:vc149 x0 w R ):Calls prog 104 #[.pointer x0] w (Ret R):=
 bodyE zN Tryz.func104 (h:=h)
def vc150(x0:Option Addr)(w:World)(R:VW):Prop:=
 CS 102 #[.pointer x0] w fun v0 w1=>∃i2:Int,v0=.int .i64 i2 /\ ifB (i2 == 0) (R (.string (.mk #[])) w1) (CS 154 #[.pointer x0,.int .i64 i2] w1 fun v3 w4=>∃s5:ByteArray,v3=.string s5 /\ R (.string s5) w4)
theorem vc150.ok{x0:Option Addr}(h:vc150 x0 w R ):Calls prog 105 #[.pointer x0] w (Ret R):=
 bodyE zN Tryz.func105 (h:=h)
def vc151(x0 x1:Int)(w:World)(R:VW):Prop:=
 ifB (decide (x0<0)) (R (.tuple #[.pointer none,.int .i64 12]) w) (ifB (decide (x0>=8)) (R (.tuple #[.pointer none,.int .i64 12]) w) (ifB (decide (x1<1)) (R (.tuple #[.pointer none,.int .i64 12]) w) (ifB (decide (x1>17592186044416)) (R (.tuple #[.pointer none,.int .i64 12]) w) (CS 107 #[.int .i64 4096] w fun v0 w1=>∃(p2:Option Addr)(i3:Int),v0=.tuple #[.pointer p2,.int .i64 i3] /\ CS 107 #[.int .i64 64] w1 fun v4 w5=>∃(p6:Option Addr)(i7:Int),v4=.tuple #[.pointer p6,.int .i64 i7] /\ ∃(p8:Option Nat)(w9:World),Sem.run prog (Instr.makeMap 228 none) w5=.ok (.map p8) w9 /\ ∀(n10:Nat)(w11:World),n10=w9.heap.size->w11=w9.alloc (.cells #[.int .i64 x0,.int .i64 x1,.map p8,.pointer p2,.pointer p6] 230)->R (.tuple #[zP n10,.int .i64 0]) w11))))
theorem vc151.ok{x0 x1:Int}(h:vc151 x0 x1 w R ):Calls prog 114 #[.int .i64 x0,.int .i64 x1] w (Ret R):=
 bodyE zN Tryz.func114 (h:=h)
def va152:Ann:=⟨fun id=>cond (Nat.beq id 5) ⟨[(6,.int .i64 0),(16,.int .i64 0)],([8]++rg 17 17)⟩ (LI.none),fun l=>none,fun i=>none⟩
def vc152(x0 x1a:Option Addr)(x1l x1c:Nat)(w:World)(R:VW):Prop:=
 CS 110 #[.slice x1a x1l x1c] w fun v0 w1=>∃(p2:Option Addr)(n3 n4:Nat),v0=.slice p2 n3 n4 /\ CS 49 #[.slice p2 n3 n4] w1 fun v5 w6=>v5=.tuple #[] /\ CS 162 #[.slice p2 n3 n4] w6 fun v7 w8=>∃(p9:Option Addr)(n10 n11:Nat),v7=.slice p9 n10 n11 /\ ∃x12:Nat->Int->Int->World->Prop,(∃n13:Nat,x12 n13 0 0 w8) /\ ∀(n14:Nat)(jv:Nat->Value)(i15 i16:Int)(w17:World),x12 n14 i15 i16 w17->ifB (decide (i16<(↑n10:Int))) (0<=i16 /\ i16<(↑n10:Int) /\ someA p9 fun a18=>∃i19:Int,w17.cell? (a18.add i16.toNat)=some (.int .i64 i19) /\ ifB (decide (i19>=0)) (CS 163 #[.pointer x0,.int .i64 i19] w17 fun v20 w21=>∃i22:Int,v20=.int .i64 i22 /\ ifB (i22 == i19) (CS 73 #[.pointer x0] w21 fun v23 w24=>∃i25:Int,v23=.int .i64 i25 /\ ∃n26:Nat,n26<n14 /\ x12 n26 (IntKind.i64.wrap (i15+i25)) (IntKind.i64.wrap (i16+1)) w24) (∃n27:Nat,n27<n14 /\ x12 n27 i15 (IntKind.i64.wrap (i16+1)) w21)) (∃n28:Nat,n28<n14 /\ x12 n28 i15 (IntKind.i64.wrap (i16+1)) w17)) (R (.int .i64 i15) w17)
theorem vc152.ok{x0 x1a:Option Addr}{x1l x1c:Nat}(h:vc152 x0 x1a x1l x1c w R ):Calls prog 115 #[.pointer x0,.slice x1a x1l x1c] w (Ret R):=
 bodyE va152 Tryz.func115 (h:=h)
def vc153(x0 x1 x2a:Option Addr)(x2l x2c:Nat)(w:World)(R:VW):Prop:=
 ifB x0.isNone (R (.tuple #[.pointer none,.int .i64 11]) w) (ifB x1.isNone (R (.tuple #[.pointer none,.int .i64 11]) w) (CS 110 #[.slice x2a x2l x2c] w fun v0 w1=>∃(p2:Option Addr)(n3 n4:Nat),v0=.slice p2 n3 n4 /\ CS 164 #[] w1 fun v5 w6=>∃p7:Option Addr,v5=.pointer p7 /\ ∀(n8:Nat)(w9:World),n8=w6.heap.size->w9=w6.alloc (.cells #[.pointer x0,.pointer x1,.slice p2 n3 n4,.pointer p7,.pointer none,.pointer none,.pointer none,.pointer none,.pointer none,.pointer none,.pointer none,.pointer none,.pointer none,.pointer none,.pointer none,.pointer none,.pointer none,.pointer none,.pointer none,.pointer none,.pointer none,.pointer none,.pointer none,.pointer none,.pointer none,.pointer none,.pointer none,.pointer none,.pointer none,.pointer none,.pointer none,.pointer none,.pointer none,.pointer none,.pointer none,.pointer none,.map none] 149)->CS 165 #[zP n8] w9 fun v10 w11=>v10=.tuple #[] /\ R (.tuple #[zP n8,.int .i64 0]) w11))
theorem vc153.ok{x0 x1 x2a:Option Addr}{x2l x2c:Nat}(h:vc153 x0 x1 x2a x2l x2c w R ):Calls prog 116 #[.pointer x0,.pointer x1,.slice x2a x2l x2c] w (Ret R):=
 bodyE zN Tryz.func116 (h:=h)
def vc154(x0:Option Addr)(x1:Int)(w:World)(R:VW):Prop:=
 someA x0 fun a0=>∃p1:Option Nat,w.cell? (a0.add 7)=some (.map p1) /\ ∃(i2:Int)(w3:World),Sem.run prog (Builtin.len_ #[48] 3 #[.map p1]) w=.ok (.int .i64 i2) w3 /\ ifB (i2 == 0) (R (.int .i64 x1) w3) (someA x0 fun a4=>∃i5:Int,w3.cell? (a4.add 6)=some (.int .i64 i5) /\ ∃(i6:Int)(w7:World),Sem.run prog (Builtin.max_ #[3,3] 3 #[.int .i64 x1,.int .i64 i5]) w3=.ok (.int .i64 i6) w7 /\ R (.int .i64 i6) w7)
theorem vc154.ok{x0:Option Addr}{x1:Int}(h:vc154 x0 x1 w R ):Calls prog 119 #[.pointer x0,.int .i64 x1] w (Ret R):=
 bodyE zN Tryz.func119 (h:=h)
def va155:Ann:=⟨fun id=>cond (Nat.beq id 8) ⟨[(34,.int .i64 0)],(rg 7 6++rg 35 60)⟩ (LI.none),fun l=>none,fun i=>none⟩
def vc155(x0 x1a:Option Addr)(x1l x1c:Nat)(w:World)(R:VW):Prop:=
 ifB x0.isNone (R (.int .i64 11) w) (CS 166 #[.pointer x0,.slice x1a x1l x1c] w fun v0 w1=>∃(p2:Option Addr)(n3 n4:Nat),v0=.slice p2 n3 n4 /\ someA x0 fun a5=>∃p6:Option Addr,w1.cell? (a5.add 1)=some (.pointer p6) /\ CS 167 #[.pointer p6,.slice x1a x1l x1c] w1 fun v7 w8=>∃i9:Int,v7=.int .i64 i9 /\ ifB (decide ((↑n3:Int)>i9)) (R (.int .i64 13) w8) (CS 110 #[.slice x1a x1l x1c] w8 fun v10 w11=>∃(p12:Option Addr)(n13 n14:Nat),v10=.slice p12 n13 n14 /\ someA x0 fun a15=>WrC w11 (a15.add 2) 1 /\ ∀(w16:World),w16=wr w11 (a15.add 2) [.slice p12 n13 n14]->∃x17:Nat->Int->World->Prop,(∃n18:Nat,x17 n18 0 w16) /\ ∀(n19:Nat)(jv:Nat->Value)(i20:Int)(w21:World),x17 n19 i20 w21->ifB (decide (i20<(↑n3:Int))) (0<=i20 /\ i20<(↑n3:Int) /\ someA p2 fun a22=>∃i23:Int,w21.cell? (a22.add i20.toNat)=some (.int .i64 i23) /\ ∀(w24:World),w24=w21.drew->someA x0 fun a25=>∃p26:Option Addr,w24.cell? (a25.add 1)=some (.pointer p26) /\ someA x0 fun a27=>∃(p28:Option Addr)(n29 n30:Nat),w24.cell? (a27.add 2)=some (.slice p28 n29 n30) /\ CS 168 #[.pointer p26,.slice p28 n29 n30] w24 fun v31 w32=>∃i33 i34:Int,v31=.tuple #[.int .i64 i33,.int .i64 i34] /\ someA x0 fun a35=>∃p36:Option Addr,w32.cell? (a35.add 3)=some (.pointer p36) /\ CS 169 #[.pointer p36,.int .i64 i23,.int .i64 i33] w32 fun v37 w38=>∃i39 i40:Int,v37=.tuple #[.int .i64 i39,.int .i64 i40] /\ someA x0 fun a41=>∃p42:Option Addr,w38.cell? (a41.add 0)=some (.pointer p42) /\ CS 170 #[.pointer p42,.int .i64 (IntKind.i64.wrap (i33*512)),.int .i64 (IntKind.i64.wrap (i39*512)),.int .i64 512] w38 fun v43 w44=>∃i45:Int,v43=.int .i64 i45 /\ someA x0 fun a46=>∃p47:Option Addr,w44.cell? (a46.add 0)=some (.pointer p47) /\ CS 171 #[.pointer p47,.int .i64 (IntKind.i64.wrap (i39*512)),.int .i64 512] w44 fun v48 w49=>∃i50:Int,v48=.int .i64 i50 /\ someA x0 fun a51=>∃p52:Option Addr,w49.cell? (a51.add 1)=some (.pointer p52) /\ CS 172 #[.pointer p52,.int .i64 i39] w49 fun v53 w54=>∃i55:Int,v53=.int .i64 i55 /\ someA x0 fun a56=>∃p57:Option Nat,w54.cell? (a56.add 36)=some (.map p57) /\ ∃(p58:Option Addr)(w59:World),Sem.run prog (Instr.lookup 147 (.map p57) (.int .i64 i23) false) w54=.ok (.pointer p58) w59 /\ ifB (!p58.isNone) (CS 173 #[.pointer p58,.int .i64 (IntKind.i64.wrap (i33*512))] w59 fun v60 w61=>∃i62:Int,v60=.int .i64 i62 /\ ∃n63:Nat,n63<n19 /\ x17 n63 (IntKind.i64.wrap (i20+1)) w61) (∃n64:Nat,n64<n19 /\ x17 n64 (IntKind.i64.wrap (i20+1)) w59)) (R (.int .i64 0) w21)))
theorem vc155.ok{x0 x1a:Option Addr}{x1l x1c:Nat}(h:vc155 x0 x1a x1l x1c w R ):Calls prog 120 #[.pointer x0,.slice x1a x1l x1c] w (Ret R):=
 bodyE va155 Tryz.func120 (h:=h)
def vc156(x0:Option Addr)(w:World)(R:VW):Prop:=
 ifB x0.isNone (R (.int .i64 0) w) (someA x0 fun a0=>∃i1:Int,w.cell? (a0.add 1)=some (.int .i64 i1) /\ R (.int .i64 i1) w)
theorem vc156.ok{x0:Option Addr}(h:vc156 x0 w R ):Calls prog 123 #[.pointer x0] w (Ret R):=
 bodyE zN Tryz.func123 (h:=h)
def va157:Ann:=⟨fun id=>cond (Nat.beq id 2) ⟨[(12,.int .i64 0)],([3]++rg 13 7)⟩ (LI.none),fun l=>none,fun i=>none⟩
def vc157(x0:Option Addr)(w:World)(R:VW):Prop:=
 ifB x0.isNone (R (.tuple #[]) w) (someA x0 fun a0=>∃p1:Option Addr,w.cell? (a0.add 3)=some (.pointer p1) /\ CS 47 #[.pointer p1] w fun v2 w3=>∃(p4:Option Addr)(n5 n6:Nat),v2=.slice p4 n5 n6 /\ ∃x7:Nat->Int->World->Prop,(∃n8:Nat,x7 n8 0 w3) /\ ∀(n9:Nat)(jv:Nat->Value)(i10:Int)(w11:World),x7 n9 i10 w11->ifB (decide (i10<(↑n5:Int))) (0<=i10 /\ i10<(↑n5:Int) /\ someA p4 fun a12=>∃i13:Int,w11.cell? (a12.add i10.toNat)=some (.int .i64 i13) /\ CS 178 #[.pointer x0,.int .i64 i13] w11 fun v14 w15=>v14=.tuple #[] /\ ∃n16:Nat,n16<n9 /\ x7 n16 (IntKind.i64.wrap (i10+1)) w15) (CS 165 #[.pointer x0] w11 fun v17 w18=>v17=.tuple #[] /\ R (.tuple #[]) w18))
theorem vc157.ok{x0:Option Addr}(h:vc157 x0 w R ):Calls prog 124 #[.pointer x0] w (Ret R):=
 bodyE va157 Tryz.func124 (h:=h)
def vc158(x0:Option Addr)(x1:Int)(w:World)(R:VW):Prop:=
 ∀(n0:Nat)(w1:World),n0=w.heap.size->w1=w.alloc (.cells #[.int .i64 0,.int .u64 0,.int .i64 0,.int .i64 0,.string (.mk #[]),.int .i64 0] 40)->ifB x0.isNone (WrC w1 (zA n0) 6 /\ ∀(w2:World),w2=wr w1 (zA n0) [.int .i64 11,.int .u64 0,.int .i64 0,.int .i64 0,.string (.mk #[]),.int .i64 0]->∃(i3 i4 i5 i6:Int)(s7:ByteArray)(i8:Int),CellsAt w2 (zA n0) [.int .i64 i3,.int .u64 i4,.int .i64 i5,.int .i64 i6,.string s7,.int .i64 i8] /\ R (.agg #[.int .i64 i3,.int .u64 i4,.int .i64 i5,.int .i64 i6,.string s7,.int .i64 i8]) w2) (CS 128 #[.pointer x0,.agg #[.int .i64 x1,.int .u64 0,.int .i64 0,.int .i64 0,.string (.mk #[]),.int .i64 0]] w1 fun v9 w10=>∃(i11 i12 i13 i14:Int)(s15:ByteArray)(i16:Int),v9=.agg #[.int .i64 i11,.int .u64 i12,.int .i64 i13,.int .i64 i14,.string s15,.int .i64 i16] /\ WrC w10 (zA n0) 6 /\ ∀(w17:World),w17=wr w10 (zA n0) [.int .i64 i11,.int .u64 i12,.int .i64 i13,.int .i64 i14,.string s15,.int .i64 i16]->∃(i18 i19 i20 i21:Int)(s22:ByteArray)(i23:Int),CellsAt w17 (zA n0) [.int .i64 i18,.int .u64 i19,.int .i64 i20,.int .i64 i21,.string s22,.int .i64 i23] /\ R (.agg #[.int .i64 i18,.int .u64 i19,.int .i64 i20,.int .i64 i21,.string s22,.int .i64 i23]) w17)
theorem vc158.ok{x0:Option Addr}{x1:Int}(h:vc158 x0 x1 w R ):Calls prog 126 #[.pointer x0,.int .i64 x1] w (Ret R):=
 bodyE zN Tryz.func126 (h:=h)
def vc159(x0:Option Addr)(x1:Int)(w:World)(R:VW):Prop:=
 CS 131 #[.int .i64 x1] w fun v0 w1=>∃i2:Int,v0=.int .i64 i2 /\ someA x0 fun a3=>∃p4:Option Addr,w1.cell? (a3.add 2)=some (.pointer p4) /\ CS 180 #[.pointer p4] w1 fun v5 w6=>∃i7:Int,v5=.int .i64 i7 /\ CS 118 #[.int .i64 i2,.int .i64 0] w6 fun v8 w9=>∃n10 n11:Nat,v8=.complex FloatKind.f64 n10 n11 /\ ifB (i2 == 0) (R (.tuple #[.int .u64 0,.int .i64 0,.int .i64 2]) w9) (someA x0 fun a12=>∃p13:Option Addr,w9.cell? (a12.add 4)=some (.pointer p13) /\ CS 181 #[.pointer p13,.complex FloatKind.f64 n10 n11] w9 fun v14 w15=>∃i16:Int,v14=.int .i64 i16 /\ ifB (i16 != 0) (R (.tuple #[.int .u64 0,.int .i64 0,.int .i64 3]) w15) (someA x0 fun a17=>∃p18:Option Addr,w15.cell? (a17.add 3)=some (.pointer p18) /\ CS 123 #[.pointer p18] w15 fun v19 w20=>∃i21:Int,v19=.int .i64 i21 /\ ifB (decide (i21>=17592186044416)) (someA x0 fun a22=>∃p23:Option Addr,w20.cell? (a22.add 4)=some (.pointer p23) /\ CS 182 #[.pointer p23,.complex FloatKind.f64 n10 n11] w20 fun v24 w25=>∃i26:Int,v24=.int .i64 i26 /\ R (.tuple #[.int .u64 0,.int .i64 0,.int .i64 10]) w25) (someA x0 fun a27=>∃p28:Option Addr,w20.cell? (a27.add 2)=some (.pointer p28) /\ CS 183 #[.pointer p28,.int .i64 x1] w20 fun v29 w30=>∃i31 i32:Int,v29=.tuple #[.int .i64 i31,.int .i64 i32] /\ ifB (i32 != 0) (someA x0 fun a33=>∃p34:Option Addr,w30.cell? (a33.add 4)=some (.pointer p34) /\ CS 182 #[.pointer p34,.complex FloatKind.f64 n10 n11] w30 fun v35 w36=>∃i37:Int,v35=.int .i64 i37 /\ R (.tuple #[.int .u64 0,.int .i64 0,.int .i64 10]) w36) (someA x0 fun a38=>∃p39:Option Addr,w30.cell? (a38.add 2)=some (.pointer p39) /\ CS 180 #[.pointer p39] w30 fun v40 w41=>∃i42:Int,v40=.int .i64 i42 /\ CS 118 #[.int .i64 0,.int .i64 (IntKind.i64.wrap (i42-i7))] w41 fun v43 w44=>∃n45 n46:Nat,v43=.complex FloatKind.f64 n45 n46 /\ someA x0 fun a47=>∃p48:Option Addr,w44.cell? (a47.add 3)=some (.pointer p48) /\ CS 184 #[.pointer p48,.int .i64 i31] w44 fun v49 w50=>∃i51 i52:Int,v49=.tuple #[.int .u64 i51,.int .i64 i52] /\ ifB (i52 != 0) (someA x0 fun a53=>∃p54:Option Addr,w50.cell? (a53.add 3)=some (.pointer p54) /\ CS 185 #[.pointer p54,.int .i64 i31] w50 fun v55 w56=>∃i57:Int,v55=.int .i64 i57 /\ someA x0 fun a58=>∃p59:Option Addr,w56.cell? (a58.add 2)=some (.pointer p59) /\ CS 186 #[.pointer p59,.int .i64 i31] w56 fun v60 w61=>∃i62:Int,v60=.int .i64 i62 /\ someA x0 fun a63=>∃p64:Option Addr,w61.cell? (a63.add 4)=some (.pointer p64) /\ CS 182 #[.pointer p64,.complex FloatKind.f64 n10 n11] w61 fun v65 w66=>∃i67:Int,v65=.int .i64 i67 /\ R (.tuple #[.int .u64 0,.int .i64 0,.int .i64 10]) w66) (someA x0 fun a68=>∃p69:Option Addr,w50.cell? (a68.add 4)=some (.pointer p69) /\ CS 181 #[.pointer p69,.complex FloatKind.f64 n45 n46] w50 fun v70 w71=>∃i72:Int,v70=.int .i64 i72 /\ ifB (i72 != 0) (someA x0 fun a73=>∃p74:Option Addr,w71.cell? (a73.add 3)=some (.pointer p74) /\ CS 185 #[.pointer p74,.int .i64 i31] w71 fun v75 w76=>∃i77:Int,v75=.int .i64 i77 /\ someA x0 fun a78=>∃p79:Option Addr,w76.cell? (a78.add 2)=some (.pointer p79) /\ CS 186 #[.pointer p79,.int .i64 i31] w76 fun v80 w81=>∃i82:Int,v80=.int .i64 i82 /\ someA x0 fun a83=>∃p84:Option Addr,w81.cell? (a83.add 4)=some (.pointer p84) /\ CS 182 #[.pointer p84,.complex FloatKind.f64 n10 n11] w81 fun v85 w86=>∃i87:Int,v85=.int .i64 i87 /\ R (.tuple #[.int .u64 0,.int .i64 0,.int .i64 10]) w86) (someA x0 fun a88=>∃p89:Option Addr,w71.cell? (a88.add 4)=some (.pointer p89) /\ ∃(n90 n91:Nat)(w92:World),Sem.run prog (binOp BinOp.add 162 (.complex FloatKind.f64 n10 n11) (.complex FloatKind.f64 n45 n46)) w71=.ok (.complex FloatKind.f64 n90 n91) w92 /\ CS 187 #[.pointer p89,.complex FloatKind.f64 n90 n91] w92 fun v93 w94=>∃i95:Int,v93=.int .i64 i95 /\ someA x0 fun a96=>∃p97:Option Nat,w94.cell? (a96.add 7)=some (.map p97) /\ ∃w98:World,Sem.run prog (Instr.mapUpdate 48 (.map p97) (.int .i64 i31) (.int .i64 x1)) w94=.ok () w98 /\ R (.tuple #[.int .u64 i51,.int .i64 i31,.int .i64 0]) w98))))))
theorem vc159.ok{x0:Option Addr}{x1:Int}(h:vc159 x0 x1 w R ):Calls prog 127 #[.pointer x0,.int .i64 x1] w (Ret R):=
 bodyE zN Tryz.func127 (h:=h)
def vc160(x0:Option Addr)(x1_0 x1_1 x1_2 x1_3:Int)(x1_4:ByteArray)(x1_5:Int)(w:World)(R:VW):Prop:=
 ∀(n0:Nat)(w1:World),n0=w.heap.size->w1=w.alloc (.cells #[.int .i64 x1_0,.int .u64 x1_1,.int .i64 x1_2,.int .i64 x1_3,.string x1_4,.int .i64 x1_5] 40)->∀(n2:Nat)(w3:World),n2=w1.heap.size->w3=w1.alloc (.cells #[.int .i64 0,.int .u64 0,.int .i64 0,.int .i64 0,.string (.mk #[]),.int .i64 0] 40)->CS 58 #[.pointer x0] w3 fun v4 w5=>∃i6:Int,v4=.int .i64 i6 /\ WrC w5 ((zA n0).add 5) 1 /\ ∀(w7:World),w7=wr w5 ((zA n0).add 5) [.int .i64 i6]->∃(i8 i9 i10 i11:Int)(s12:ByteArray)(i13:Int),CellsAt w7 (zA n0) [.int .i64 i8,.int .u64 i9,.int .i64 i10,.int .i64 i11,.string s12,.int .i64 i13] /\ WrC w7 (zA n2) 6 /\ ∀(w14:World),w14=wr w7 (zA n2) [.int .i64 i8,.int .u64 i9,.int .i64 i10,.int .i64 i11,.string s12,.int .i64 i13]->∃(i15 i16 i17 i18:Int)(s19:ByteArray)(i20:Int),CellsAt w14 (zA n2) [.int .i64 i15,.int .u64 i16,.int .i64 i17,.int .i64 i18,.string s19,.int .i64 i20] /\ R (.agg #[.int .i64 i15,.int .u64 i16,.int .i64 i17,.int .i64 i18,.string s19,.int .i64 i20]) w14
theorem vc160.ok{x0:Option Addr}{x1_0 x1_1 x1_2 x1_3:Int}{x1_4:ByteArray}{x1_5:Int}(h:vc160 x0 x1_0 x1_1 x1_2 x1_3 x1_4 x1_5 w R ):Calls prog 128 #[.pointer x0,.agg #[.int .i64 x1_0,.int .u64 x1_1,.int .i64 x1_2,.int .i64 x1_3,.string x1_4,.int .i64 x1_5]] w (Ret R):=
 bodyE zN Tryz.func128 (h:=h)
def vc161(x0:Option Addr)(x1 x2:Int)(w:World)(R:VW):Prop:=
 ifB x0.isNone (R (.tuple #[.int .i64 0,.int .i64 11]) w) (someA x0 fun a0=>∃p1:Option Addr,w.cell? (a0.add 3)=some (.pointer p1) /\ CS 188 #[.pointer p1,.int .u64 x1,.int .i64 x2] w fun v2 w3=>∃i4 i5:Int,v2=.tuple #[.int .i64 i4,.int .i64 i5] /\ R (.tuple #[.int .i64 i4,.int .i64 i5]) w3)
theorem vc161.ok{x0:Option Addr}{x1 x2:Int}(h:vc161 x0 x1 x2 w R ):Calls prog 129 #[.pointer x0,.int .u64 x1,.int .i64 x2] w (Ret R):=
 bodyE zN Tryz.func129 (h:=h)
def vc162(x0:Option Addr)(x1:Int)(w:World)(R:VW):Prop:=
 someA x0 fun a0=>∃p1:Option Addr,w.cell? (a0.add 2)=some (.pointer p1) /\ CS 95 #[.pointer p1,.int .i64 x1] w fun v2 w3=>∃i4 i5:Int,v2=.tuple #[.int .i64 i4,.int .i64 i5] /\ someA x0 fun a6=>∃p7:Option Addr,w3.cell? (a6.add 2)=some (.pointer p7) /\ CS 180 #[.pointer p7] w3 fun v8 w9=>∃i10:Int,v8=.int .i64 i10 /\ someA x0 fun a11=>∃p12:Option Addr,w9.cell? (a11.add 2)=some (.pointer p12) /\ CS 186 #[.pointer p12,.int .i64 x1] w9 fun v13 w14=>∃i15:Int,v13=.int .i64 i15 /\ someA x0 fun a16=>∃p17:Option Addr,w14.cell? (a16.add 3)=some (.pointer p17) /\ CS 185 #[.pointer p17,.int .i64 x1] w14 fun v18 w19=>∃i20:Int,v18=.int .i64 i20 /\ someA x0 fun a21=>∃p22:Option Nat,w19.cell? (a21.add 7)=some (.map p22) /\ ∃w23:World,Sem.run prog (Builtin.delete_ #[48,3] 0 #[.map p22,.int .i64 x1]) w19=.ok (.tuple #[]) w23 /\ ∀(w24:World),w24=w23.drew->someA x0 fun a25=>∃p26:Option Addr,w24.cell? (a25.add 4)=some (.pointer p26) /\ someA x0 fun a27=>∃p28:Option Addr,w24.cell? (a27.add 2)=some (.pointer p28) /\ CS 180 #[.pointer p28] w24 fun v29 w30=>∃i31:Int,v29=.int .i64 i31 /\ (∃p32:Option Addr,w30.cell? (a25.add 4)=some (.pointer p32) /\ Value.pointer p32=.pointer p26) /\ CS 118 #[.int .i64 i4,.int .i64 (IntKind.i64.wrap (i10-i31))] w30 fun v33 w34=>∃n35 n36:Nat,v33=.complex FloatKind.f64 n35 n36 /\ (∃p37:Option Addr,w34.cell? (a25.add 4)=some (.pointer p37) /\ Value.pointer p37=.pointer p26) /\ CS 125 #[.pointer p26,.complex FloatKind.f64 n35 n36] w34 fun v38 w39=>∃i40:Int,v38=.int .i64 i40 /\ R (.tuple #[]) w39
theorem vc162.ok{x0:Option Addr}{x1:Int}(h:vc162 x0 x1 w R ):Calls prog 130 #[.pointer x0,.int .i64 x1] w (Ret R):=
 bodyE zN Tryz.func130 (h:=h)
def vc163(x0:Int)(w:World)(R:VW):Prop:=
 CS 19 #[.int .i64 x0] w fun v0 w1=>∃i2:Int,v0=.int .i64 i2 /\ CS 152 #[.int .i64 i2] w1 fun v3 w4=>∃i5:Int,v3=.int .i64 i5 /\ R (.int .i64 i5) w4
theorem vc163.ok{x0:Int}(h:vc163 x0 w R ):Calls prog 131 #[.int .i64 x0] w (Ret R):=
 bodyE zN Tryz.func131 (h:=h)
def vc164(x0:Option Addr)(x1 x2 x3 x4:Int)(w:World)(R:VW):Prop:=
 CS 129 #[.pointer x0,.int .u64 x1,.int .i64 x2] w fun v0 w1=>∃i2 i3:Int,v0=.tuple #[.int .i64 i2,.int .i64 i3] /\ ifB (i3 != 0) (R (.tuple #[.int .i64 0,.int .i64 i3]) w1) (someA x0 fun a4=>∃p5:Option Nat,w1.cell? (a4.add 7)=some (.map p5) /\ ∃(i6:Int)(w7:World),Sem.run prog (Instr.lookup 48 (.map p5) (.int .i64 i2) false) w1=.ok (.int .i64 i6) w7 /\ ∃(i8:Int)(w9:World),Sem.run prog (Builtin.min_ #[3,3] 3 #[.int .i64 x3,.int .i64 x4]) w7=.ok (.int .i64 i8) w9 /\ ifB (decide (i8<0)) (R (.tuple #[.int .i64 0,.int .i64 4]) w9) (ifB (decide (x3>i6)) (R (.tuple #[.int .i64 0,.int .i64 4]) w9) (ifB (decide (x4>IntKind.i64.wrap (i6-x3))) (R (.tuple #[.int .i64 0,.int .i64 4]) w9) (R (.tuple #[.int .i64 (IntKind.i64.wrap (i2+x3)),.int .i64 0]) w9))))
theorem vc164.ok{x0:Option Addr}{x1 x2 x3 x4:Int}(h:vc164 x0 x1 x2 x3 x4 w R ):Calls prog 134 #[.pointer x0,.int .u64 x1,.int .i64 x2,.int .i64 x3,.int .i64 x4] w (Ret R):=
 bodyE zN Tryz.func134 (h:=h)
def vc165(x0:Option Addr)(x1 x2:Int)(w:World)(R:VW):Prop:=
 CS 197 #[.pointer x0,.int .u64 x1] w fun v0 w1=>∃i2 i3 i4 i5:Int,v0=.tuple #[.agg #[.int .i64 i2,.int .i64 i3,.int .i64 i4],.int .i64 i5] /\ ∀(n6:Nat)(w7:World),n6=w1.heap.size->w7=w1.alloc (.cells #[.int .i64 0,.int .i64 0,.int .i64 0] 254)->WrC w7 (zA n6) 3 /\ ∀(w8:World),w8=wr w7 (zA n6) [.int .i64 i2,.int .i64 i3,.int .i64 i4]->ifB (i5 != 0) (R (.tuple #[.int .u64 0,.int .i64 i5]) w8) (ifB (decide (x2<1)) (R (.tuple #[.int .u64 0,.int .i64 2]) w8) (ifB (decide (x2>7)) (R (.tuple #[.int .u64 0,.int .i64 2]) w8) (∃i9 i10:Int,CellsAt w8 ((zA n6).add 0) [.int .i64 i9,.int .i64 i10] /\ CS 198 #[.agg #[.int .i64 i9,.int .i64 i10],.int .i64 x2] w8 fun v11 w12=>∃b13:Bool,v11=.bool b13 /\ ifB (!b13) (R (.tuple #[.int .u64 0,.int .i64 5]) w12) (∀(w14:World),w14=w12.drew->someA x0 fun a15=>∃p16:Option Addr,w14.cell? (a15.add 4)=some (.pointer p16) /\ ∃i17:Int,w14.cell? ((zA n6).add 2)=some (.int .i64 i17) /\ CS 199 #[.pointer x0,.pointer p16,.int .i64 4096,.int .i64 i17,.int .i64 x2] w14 fun v18 w19=>∃i20 i21:Int,v18=.tuple #[.int .u64 i20,.int .i64 i21] /\ R (.tuple #[.int .u64 i20,.int .i64 i21]) w19))))
theorem vc165.ok{x0:Option Addr}{x1 x2:Int}(h:vc165 x0 x1 x2 w R ):Calls prog 137 #[.pointer x0,.int .u64 x1,.int .i64 x2] w (Ret R):=
 bodyE zN Tryz.func137 (h:=h)
end
set_option maxRecDepth 100000
section
variable{w:World}{R:Value->World->Prop}
def vc166(x0:Option Addr)(x1:Int)(w:World)(R:VW):Prop:=
 ifB x0.isNone (R (.tuple #[.int .i64 0,.int .i64 0,.int .i64 0,.int .i64 11]) w) (CS 207 #[.int .i64 x1] w fun v0 w1=>∃i2 i3 i4 i5:Int,v0=.tuple #[.int .i64 i2,.int .i64 i3,.int .i64 i4,.int .i64 i5] /\ ∀(w6:World),w6=w1.drew->ifB (i5 != 0) (w6=w6 /\ Value.tuple #[]=.tuple #[] /\ w6=w6 /\ R (.tuple #[.int .i64 0,.int .i64 0,.int .i64 0,.int .i64 13]) w6) (someA x0 fun a7=>0<=i2 /\ i2<(↑(24:Nat):Int) /\ w6=w6 /\ ∃p8:Option Addr,w6.cell? ((a7.add 4).add i2.toNat)=some (.pointer p8) /\ CS 177 #[.pointer p8,.int .i64 i3] w6 fun v9 w10=>∃b11:Bool,v9=.bool b11 /\ w10=w10 /\ w10=w10 /\ ifB (!b11) (Value.tuple #[]=.tuple #[] /\ w10=w10 /\ R (.tuple #[.int .i64 0,.int .i64 0,.int .i64 0,.int .i64 13]) w10) (ifB (decide (i2<8)) (someA x0 fun a12=>∃p13:Option Nat,w10.cell? (a12.add 36)=some (.map p13) /\ CS 208 #[.int .i64 i2,.int .i64 i3] w10 fun v14 w15=>∃i16:Int,v14=.int .i64 i16 /\ (∃p17:Option Nat,w15.cell? (a12.add 36)=some (.map p17) /\ Value.map p17=.map p13) /\ ∃(p18:Option Addr)(w19:World),Sem.run prog (Instr.lookup 147 (.map p13) (.int .i64 i16) false) w15=.ok (.pointer p18) w19 /\ w19=w15 /\ CS 209 #[.pointer p18,.int .i64 i4] w15 fun v20 w21=>∃b22:Bool,v20=.bool b22 /\ w21=w21 /\ w21=w21 /\ w21=w21 /\ ifB (!b22) (R (.tuple #[.int .i64 0,.int .i64 0,.int .i64 0,.int .i64 13]) w21) (R (.tuple #[.int .i64 i2,.int .i64 i3,.int .i64 i4,.int .i64 0]) w21)) (Value.tuple #[]=.tuple #[] /\ w10=w10 /\ w10=w10 /\ R (.tuple #[.int .i64 i2,.int .i64 i3,.int .i64 i4,.int .i64 0]) w10))))
theorem vc166.ok{x0:Option Addr}{x1:Int}(h:vc166 x0 x1 w R ):Calls prog 151 #[.pointer x0,.int .i64 x1] w (Ret R):=
 bodyE zN Tryz.func151 (h:=h)
def vc167(x0:Option Addr)(x1:Int)(w:World)(R:VW):Prop:=
 someA x0 fun a0=>∃s1:ByteArray,w.cell? (a0.add 0)=some (.string s1) /\ ifB (decide (x1>(↑s1.size:Int))) (someA x0 fun a2=>WrC w (a2.add 0) 1 /\ ∀(w3:World),w3=wr w (a2.add 0) [.string (.mk #[])]->someA x0 fun a4=>WrC w3 (a4.add 1) 1 /\ ∀(w5:World),w5=wr w3 (a4.add 1) [.bool true]->∃(i6:Int)(w7:World),Sem.run prog (Builtin.max_ #[3,3] 3 #[.int .i64 x1,.int .i64 1]) w5=.ok (.int .i64 i6) w7 /\ 0<=i6 /\ i6<=i6 /\ (↑(1:Nat):Int)*i6<=281474976710656 /\ i6<=9223372036854775807 /\ ∀(n8:Nat)(w9:World),n8=w7.heap.size->w9=w7.alloc (.cells (madeCells #[.int .u8 0] (i6.toNat*1)) 5)->∃x10:List UInt8,x10.length=i6.toNat /\ BytesAt w9 (some (zA n8)) x10 /\ R (.string (ByteArray.mk (Array.mk x10))) w9) (someA x0 fun a11=>∃s12:ByteArray,w.cell? (a11.add 0)=some (.string s12) /\ (0:Int)<=0 /\ 0<=x1 /\ x1<=(↑s12.size:Int) /\ someA x0 fun a13=>∃s14:ByteArray,w.cell? (a13.add 0)=some (.string s14) /\ 0<=x1 /\ x1<=(↑s14.size:Int) /\ (↑s14.size:Int)<=(↑s14.size:Int) /\ someA x0 fun a15=>WrC w (a15.add 0) 1 /\ ∀(w16:World),w16=wr w (a15.add 0) [.string (s14.extract x1.toNat (↑s14.size:Int).toNat)]->R (.string (s12.extract 0 x1.toNat)) w16)
theorem vc167.ok{x0:Option Addr}{x1:Int}(h:vc167 x0 x1 w R ):Calls prog 154 #[.pointer x0,.int .i64 x1] w (Ret R):=
 bodyE zN Tryz.func154 (h:=h)
def vc168(x0:Int)(w:World)(R:VW):Prop:=
 ifB (decide (x0>=1)) (R (.bool (decide (x0<=65536))) w) (R (.bool false) w)
theorem vc168.ok{x0:Int}(h:vc168 x0 w R ):Calls prog 157 #[.int .i64 x0] w (Ret R):=
 bodyE zN Tryz.func157 (h:=h)
def vc169(x0:Int)(w:World)(R:VW):Prop:=
 CS 157 #[.int .i64 x0] w fun v0 w1=>∃b2:Bool,v0=.bool b2 /\ ifB (!b2) (R (.int .i64 0) w1) ((512:Int) ≠ 0 /\ R (.int .i64 (IntKind.i64.wrap (x0.tdiv 512))) w1)
theorem vc169.ok{x0:Int}(h:vc169 x0 w R ):Calls prog 158 #[.int .i64 x0] w (Ret R):=
 bodyE zN Tryz.func158 (h:=h)
def vc170(x0 x1:Int)(w:World)(R:VW):Prop:=
 CS 213 #[.int .i64 x0] w fun v0 w1=>∃i2:Int,v0=.int .i64 i2 /\ ifB (i2 == 0) (R (.int .i64 0) w1) (CS 157 #[.int .i64 x1] w1 fun v3 w4=>∃b5:Bool,v3=.bool b5 /\ ifB (!b5) (R (.int .i64 0) w4) (CS 152 #[.int .i64 x0] w4 fun v6 w7=>∃i8:Int,v6=.int .i64 i8 /\ i8 ≠ 0 /\ i2 ≠ 0 /\ R (.int .i64 (IntKind.i64.wrap ((IntKind.i64.wrap (IntKind.i64.wrap (IntKind.i64.wrap (x1.tdiv i8)+i2)-1)).tdiv i2))) w7))
theorem vc170.ok{x0 x1:Int}(h:vc170 x0 x1 w R ):Calls prog 159 #[.int .i64 x0,.int .i64 x1] w (Ret R):=
 bodyE zN Tryz.func159 (h:=h)
def vc171(x0:Option Addr)(x1:Int)(w:World)(R:VW):Prop:=
 CS 215 #[.pointer x0,.int .i64 x1] w fun v0 w1=>∃b2:Bool,v0=.bool b2 /\ ifB (!b2) (R (.int .i64 (-1)) w1) (someA x0 fun a3=>∃i4:Int,w1.cell? ((a3.add 0).add 1)=some (.int .i64 i4) /\ i4 ≠ 0 /\ R (.int .i64 (x1.tmod i4)) w1)
theorem vc171.ok{x0:Option Addr}{x1:Int}(h:vc171 x0 x1 w R ):Calls prog 163 #[.pointer x0,.int .i64 x1] w (Ret R):=
 bodyE zN Tryz.func163 (h:=h)
def va172:Ann:=⟨fun id=>cond (Nat.beq id 2) ⟨[(8,.int .i64 0)],([2]++rg 9 14)⟩ (cond (Nat.beq id 7) ⟨[(23,.int .i64 0)],([3]++rg 24 9)⟩ (LI.none)),fun l=>none,fun i=>none⟩
def vc172(x0:Option Addr)(w:World)(R:VW):Prop:=
 ∃(p0:Option Nat)(w1:World),Sem.run prog (Instr.makeMap 147 none) w=.ok (.map p0) w1 /\ someA x0 fun a2=>WrC w1 (a2.add 36) 1 /\ ∀(w3:World),w3=wr w1 (a2.add 36) [.map p0]->∃x4:Nat->Int->World->Prop,(∃n5:Nat,x4 n5 0 w3) /\ ∀(n6:Nat)(jv:Nat->Value)(i7:Int)(w8:World),x4 n6 i7 w8->ifB (decide (i7<24)) (∀(w9:World),w9=w8.drew->someA x0 fun a10=>CS 216 #[.int .i64 i7] w9 fun v11 w12=>∃i13:Int,v11=.int .i64 i13 /\ CS 107 #[.int .i64 i13] w12 fun v14 w15=>∃(p16:Option Addr)(i17:Int),v14=.tuple #[.pointer p16,.int .i64 i17] /\ 0<=i7 /\ i7<(↑(24:Nat):Int) /\ w15=w15 /\ WrC w15 ((a10.add 4).add i7.toNat) 1 /\ ∀(w18:World),w18=wr w15 ((a10.add 4).add i7.toNat) [.pointer p16]->∃n19:Nat,n19<n6 /\ x4 n19 (IntKind.i64.wrap (i7+1)) w18) (∃x20:Nat->Int->World->Prop,(∃n21:Nat,x20 n21 0 w8) /\ ∀(n22:Nat)(jv:Nat->Value)(i23:Int)(w24:World),x20 n22 i23 w24->ifB (decide (i23<8)) (∀(w25:World),w25=w24.drew->someA x0 fun a26=>CS 217 #[] w25 fun v27 w28=>∃p29:Option Addr,v27=.pointer p29 /\ 0<=i23 /\ i23<(↑(8:Nat):Int) /\ w28=w28 /\ WrC w28 ((a26.add 28).add i23.toNat) 1 /\ ∀(w30:World),w30=wr w28 ((a26.add 28).add i23.toNat) [.pointer p29]->∃n31:Nat,n31<n22 /\ x20 n31 (IntKind.i64.wrap (i23+1)) w30) (R (.tuple #[]) w24))
theorem vc172.ok{x0:Option Addr}(h:vc172 x0 w R ):Calls prog 165 #[.pointer x0] w (Ret R):=
 bodyE va172 Tryz.func165 (h:=h)
def va173:Ann:=⟨fun id=>cond (Nat.beq id 2) ⟨[(4,.slice none 0 0),(13,.int .i64 0)],([6]++rg 14 22)⟩ (LI.none),fun l=>none,fun i=>none⟩
def vc173(x0 x1a:Option Addr)(x1l x1c:Nat)(w:World)(R:VW):Prop:=
 someA x0 fun a0=>∃p1:Option Addr,w.cell? (a0.add 3)=some (.pointer p1) /\ CS 47 #[.pointer p1] w fun v2 w3=>∃(p4:Option Addr)(n5 n6:Nat),v2=.slice p4 n5 n6 /\ ∃x7:Nat->Option Addr->Nat->Nat->Int->World->Prop,(∃n8:Nat,x7 n8 none 0 0 0 w3) /\ ∀(n9:Nat)(jv:Nat->Value)(p10:Option Addr)(n11 n12:Nat)(i13:Int)(w14:World),x7 n9 p10 n11 n12 i13 w14->ifB (decide (i13<(↑n5:Int))) (0<=i13 /\ i13<(↑n5:Int) /\ someA p4 fun a15=>∃i16:Int,w14.cell? (a15.add i13.toNat)=some (.int .i64 i16) /\ ∀(w17:World),w17=w14.drew->someA x0 fun a18=>∃p19:Option Addr,w17.cell? (a18.add 1)=some (.pointer p19) /\ someA x0 fun a20=>∃p21:Option Addr,w17.cell? (a20.add 3)=some (.pointer p21) /\ CS 48 #[.pointer p21,.int .i64 i16] w17 fun v22 w23=>∃i24:Int,v22=.int .i64 i24 /\ (∃p25:Option Addr,w23.cell? (a18.add 1)=some (.pointer p25) /\ Value.pointer p25=.pointer p19) /\ CS 163 #[.pointer p19,.int .i64 i24] w23 fun v26 w27=>∃i28:Int,v26=.int .i64 i28 /\ CS 218 #[.slice x1a x1l x1c,.int .i64 i28] w27 fun v29 w30=>∃b31:Bool,v29=.bool b31 /\ w30=w30 /\ ifB (!b31) (∀(n32:Nat)(w33:World),n32=w30.heap.size->w33=w30.alloc (.cells #[.int .i64 i16] 3)->∃(p34:Option Addr)(n35 n36:Nat)(w37:World),Sem.run prog (Builtin.append_ #[37,37] 37 #[.slice p10 n11 n12,.slice (some (zA n32)) 1 1]) w33=.ok (.slice p34 n35 n36) w37 /\ ∃n38:Nat,n38<n9 /\ x7 n38 p34 n35 n36 (IntKind.i64.wrap (i13+1)) w37) (∃n39:Nat,n39<n9 /\ x7 n39 p10 n11 n12 (IntKind.i64.wrap (i13+1)) w30)) (R (.slice p10 n11 n12) w14)
theorem vc173.ok{x0 x1a:Option Addr}{x1l x1c:Nat}(h:vc173 x0 x1a x1l x1c w R ):Calls prog 166 #[.pointer x0,.slice x1a x1l x1c] w (Ret R):=
 bodyE va173 Tryz.func166 (h:=h)
def va174:Ann:=⟨fun id=>cond (Nat.beq id 6) ⟨[(5,.int .i64 0),(14,.int .i64 0)],([8]++rg 15 25)⟩ (LI.none),fun l=>none,fun i=>none⟩
def vc174(x0 x1a:Option Addr)(x1l x1c:Nat)(w:World)(R:VW):Prop:=
 ifB x0.isNone (R (.int .i64 0) w) (∀(n0:Nat)(w1:World),n0=w.heap.size->w1=w.alloc (.cells #[.bool false,.bool false,.bool false,.bool false,.bool false,.bool false,.bool false,.bool false,.bool false,.bool false,.bool false,.bool false,.bool false,.bool false,.bool false,.bool false,.bool false,.bool false,.bool false,.bool false,.bool false,.bool false,.bool false,.bool false,.bool false,.bool false,.bool false,.bool false,.bool false,.bool false,.bool false,.bool false] 267)->∃x2:Nat->Int->Int->World->Prop,(∃n3:Nat,x2 n3 0 0 w1) /\ ∀(n4:Nat)(jv:Nat->Value)(i5 i6:Int)(w7:World),x2 n4 i5 i6 w7->ifB (decide (i6<(↑x1l:Int))) (0<=i6 /\ i6<(↑x1l:Int) /\ someA x1a fun a8=>∃i9:Int,w7.cell? (a8.add i6.toNat)=some (.int .i64 i9) /\ CS 219 #[.pointer x0,.int .i64 i9] w7 fun v10 w11=>∃b12:Bool,v10=.bool b12 /\ ifB b12 (0<=i9 /\ i9<(↑(32:Nat):Int) /\ ∃b13:Bool,w11.cell? ((zA n0).add i9.toNat)=some (.bool b13) /\ ifB (!b13) (0<=i9 /\ i9<(↑(32:Nat):Int) /\ WrC w11 ((zA n0).add i9.toNat) 1 /\ ∀(w14:World),w14=wr w11 ((zA n0).add i9.toNat) [.bool true]->someA x0 fun a15=>∃(p16:Option Addr)(n17 n18:Nat),w14.cell? (a15.add 2)=some (.slice p16 n17 n18) /\ 0<=i9 /\ i9<(↑n17:Int) /\ someA p16 fun a19=>∃p20:Option Addr,w14.cell? (a19.add i9.toNat)=some (.pointer p20) /\ CS 108 #[.pointer p20] w14 fun v21 w22=>∃i23:Int,v21=.int .i64 i23 /\ ∃n24:Nat,n24<n4 /\ x2 n24 (IntKind.i64.wrap (i5+i23)) (IntKind.i64.wrap (i6+1)) w22) (∃n25:Nat,n25<n4 /\ x2 n25 i5 (IntKind.i64.wrap (i6+1)) w11)) (∃n26:Nat,n26<n4 /\ x2 n26 i5 (IntKind.i64.wrap (i6+1)) w11)) (R (.int .i64 i5) w7))
theorem vc174.ok{x0 x1a:Option Addr}{x1l x1c:Nat}(h:vc174 x0 x1a x1l x1c w R ):Calls prog 167 #[.pointer x0,.slice x1a x1l x1c] w (Ret R):=
 bodyE va174 Tryz.func167 (h:=h)
def va175:Ann:=⟨fun id=>cond (Nat.beq id 5) ⟨[(6,.int .i64 0),(14,.int .i64 0)],([8,9]++rg 15 44)⟩ (LI.none),fun l=>none,fun i=>none⟩
def vc175(x0 x1a:Option Addr)(x1l x1c:Nat)(w:World)(R:VW):Prop:=
 ifB x0.isNone (R (.tuple #[.int .i64 0,.int .i64 11]) w) (∃x0_1:Nat->Int->Int->World->Prop,(∃n1:Nat,x0_1 n1 (-1) 0 w) /\ ∀(n2:Nat)(jv:Nat->Value)(i3 i4:Int)(w5:World),x0_1 n2 i3 i4 w5->ifB (decide (i4<(↑x1l:Int))) (0<=i4 /\ i4<(↑x1l:Int) /\ someA x1a fun a6=>∃i7:Int,w5.cell? (a6.add i4.toNat)=some (.int .i64 i7) /\ CS 219 #[.pointer x0,.int .i64 i7] w5 fun v8 w9=>∃b10:Bool,v8=.bool b10 /\ ifB (!b10) (∃n11:Nat,n11<n2 /\ x0_1 n11 i3 (IntKind.i64.wrap (i4+1)) w9) (someA x0 fun a12=>∃(p13:Option Addr)(n14 n15:Nat),w9.cell? (a12.add 2)=some (.slice p13 n14 n15) /\ 0<=i7 /\ i7<(↑n14:Int) /\ someA p13 fun a16=>∃p17:Option Addr,w9.cell? (a16.add i7.toNat)=some (.pointer p17) /\ CS 160 #[.pointer p17] w9 fun v18 w19=>∃i20:Int,v18=.int .i64 i20 /\ ifB (decide (i20>=0)) (ifB (decide (i3<0)) (someA x0 fun a21=>∃i22:Int,w19.cell? ((a21.add 0).add 1)=some (.int .i64 i22) /\ ∃n23:Nat,n23<n2 /\ x0_1 n23 (IntKind.i64.wrap (IntKind.i64.wrap (i20*i22)+i7)) (IntKind.i64.wrap (i4+1)) w19) (someA x0 fun a24=>∃i25:Int,w19.cell? ((a24.add 0).add 1)=some (.int .i64 i25) /\ ifB (decide (IntKind.i64.wrap (IntKind.i64.wrap (i20*i25)+i7)<i3)) (someA x0 fun a26=>∃i27:Int,w19.cell? ((a26.add 0).add 1)=some (.int .i64 i27) /\ ∃n28:Nat,n28<n2 /\ x0_1 n28 (IntKind.i64.wrap (IntKind.i64.wrap (i20*i27)+i7)) (IntKind.i64.wrap (i4+1)) w19) (∃n29:Nat,n29<n2 /\ x0_1 n29 i3 (IntKind.i64.wrap (i4+1)) w19))) (∃n30:Nat,n30<n2 /\ x0_1 n30 i3 (IntKind.i64.wrap (i4+1)) w19))) (ifB (decide (i3<0)) (R (.tuple #[.int .i64 0,.int .i64 13]) w5) (∀(w31:World),w31=w5.drew->someA x0 fun a32=>∃(p33:Option Addr)(n34 n35:Nat),w31.cell? (a32.add 2)=some (.slice p33 n34 n35) /\ someA x0 fun a36=>∃i37:Int,w31.cell? ((a36.add 0).add 1)=some (.int .i64 i37) /\ i37 ≠ 0 /\ w31=w31 /\ 0<=i3.tmod i37 /\ i3.tmod i37<(↑n34:Int) /\ someA p33 fun a38=>w31=w31 /\ ∃p39:Option Addr,w31.cell? (a38.add (i3.tmod i37).toNat)=some (.pointer p39) /\ someA x0 fun a40=>∃i41:Int,w31.cell? ((a40.add 0).add 1)=some (.int .i64 i41) /\ i41 ≠ 0 /\ w31=w31 /\ CS 220 #[.pointer p39,.int .i64 (IntKind.i64.wrap (i3.tdiv i41))] w31 fun v42 w43=>∃i44:Int,v42=.int .i64 i44 /\ R (.tuple #[.int .i64 i3,.int .i64 i44]) w43)))
theorem vc175.ok{x0 x1a:Option Addr}{x1l x1c:Nat}(h:vc175 x0 x1a x1l x1c w R ):Calls prog 168 #[.pointer x0,.slice x1a x1l x1c] w (Ret R):=
 bodyE va175 Tryz.func168 (h:=h)
def vc176(x0:Option Addr)(x1 x2:Int)(w:World)(R:VW):Prop:=
 CS 48 #[.pointer x0,.int .i64 x1] w fun v0 w1=>∃i2:Int,v0=.int .i64 i2 /\ ifB x0.isNone (R (.tuple #[.int .i64 0,.int .i64 11]) w1) (ifB (decide (x2<0)) (R (.tuple #[.int .i64 0,.int .i64 12]) w1) (ifB (decide (x2>1048576)) (R (.tuple #[.int .i64 0,.int .i64 12]) w1) (ifB (decide (i2<0)) (R (.tuple #[.int .i64 0,.int .i64 13]) w1) (CS 221 #[.pointer x0,.int .i64 x2] w1 fun v3 w4=>∃i5:Int,v3=.int .i64 i5 /\ ifB (decide (i5>=0)) (R (.tuple #[.int .i64 0,.int .i64 7]) w4) (someA x0 fun a6=>∃p7:Option Nat,w4.cell? (a6.add 1)=some (.map p7) /\ ∃w8:World,Sem.run prog (Builtin.delete_ #[48,3] 0 #[.map p7,.int .i64 i2]) w4=.ok (.tuple #[]) w8 /\ CS 222 #[.pointer x0,.int .i64 x1,.int .i64 x2] w8 fun v9 w10=>v9=.tuple #[] /\ R (.tuple #[.int .i64 i2,.int .i64 0]) w10)))))
theorem vc176.ok{x0:Option Addr}{x1 x2:Int}(h:vc176 x0 x1 x2 w R ):Calls prog 169 #[.pointer x0,.int .i64 x1,.int .i64 x2] w (Ret R):=
 bodyE zN Tryz.func169 (h:=h)
def vc177(x0:Option Addr)(x1:Int)(w:World)(R:VW):Prop:=
 ifB x0.isNone (R (.int .i64 11) w) (CS 215 #[.pointer x0,.int .i64 x1] w fun v0 w1=>∃b2:Bool,v0=.bool b2 /\ ifB (!b2) (R (.int .i64 12) w1) (∀(w3:World),w3=w1.drew->someA x0 fun a4=>∃(p5:Option Addr)(n6 n7:Nat),w3.cell? (a4.add 2)=some (.slice p5 n6 n7) /\ someA x0 fun a8=>∃i9:Int,w3.cell? ((a8.add 0).add 1)=some (.int .i64 i9) /\ i9 ≠ 0 /\ w3=w3 /\ 0<=x1.tmod i9 /\ x1.tmod i9<(↑n6:Int) /\ someA p5 fun a10=>w3=w3 /\ ∃p11:Option Addr,w3.cell? (a10.add (x1.tmod i9).toNat)=some (.pointer p11) /\ someA x0 fun a12=>∃i13:Int,w3.cell? ((a12.add 0).add 1)=some (.int .i64 i13) /\ i13 ≠ 0 /\ w3=w3 /\ CS 122 #[.pointer p11,.int .i64 (IntKind.i64.wrap (x1.tdiv i13))] w3 fun v14 w15=>∃i16:Int,v14=.int .i64 i16 /\ R (.int .i64 i16) w15))
theorem vc177.ok{x0:Option Addr}{x1:Int}(h:vc177 x0 x1 w R ):Calls prog 172 #[.pointer x0,.int .i64 x1] w (Ret R):=
 bodyE zN Tryz.func172 (h:=h)
def vc178(x0:Option Addr)(x1:Int)(w:World)(R:VW):Prop:=
 someA x0 fun a0=>∃p1:Option Addr,w.cell? (a0.add 3)=some (.pointer p1) /\ CS 225 #[.pointer p1,.int .i64 x1] w fun v2 w3=>∃i4 i5:Int,v2=.tuple #[.int .i64 i4,.int .i64 i5] /\ ifB (i5 == 0) (someA x0 fun a6=>∃p7:Option Addr,w3.cell? (a6.add 0)=some (.pointer p7) /\ CS 171 #[.pointer p7,.int .i64 (IntKind.i64.wrap (i4*512)),.int .i64 512] w3 fun v8 w9=>∃i10:Int,v8=.int .i64 i10 /\ someA x0 fun a11=>∃p12:Option Addr,w9.cell? (a11.add 1)=some (.pointer p12) /\ CS 172 #[.pointer p12,.int .i64 i4] w9 fun v13 w14=>∃i15:Int,v13=.int .i64 i15 /\ R (.tuple #[]) w14) (R (.tuple #[]) w3)
theorem vc178.ok{x0:Option Addr}{x1:Int}(h:vc178 x0 x1 w R ):Calls prog 178 #[.pointer x0,.int .i64 x1] w (Ret R):=
 bodyE zN Tryz.func178 (h:=h)
def vc179(x0:Option Addr)(w:World)(R:VW):Prop:=
 ifB x0.isNone (R (.int .i64 0) w) (someA x0 fun a0=>∃p1:Option Addr,w.cell? (a0.add 3)=some (.pointer p1) /\ CS 226 #[.pointer p1] w fun v2 w3=>∃i4:Int,v2=.int .i64 i4 /\ R (.int .i64 i4) w3)
theorem vc179.ok{x0:Option Addr}(h:vc179 x0 w R ):Calls prog 180 #[.pointer x0] w (Ret R):=
 bodyE zN Tryz.func180 (h:=h)
def va180:Ann:=⟨fun id=>LI.none,fun l=>cond (Nat.beq l 0) (some ⟨[],([4,5]++rg 10 7++rg 47 66)⟩) (none),fun i=>none⟩
def vc180(x0:Option Addr)(x1:Int)(w:World)(R:VW):Prop:=
 CS 19 #[.int .i64 x1] w fun v0 w1=>∃i2:Int,v0=.int .i64 i2 /\ ifB x0.isNone (R (.tuple #[.int .i64 0,.int .i64 11]) w1) (ifB (decide (i2<0)) (R (.tuple #[.int .i64 0,.int .i64 2]) w1) (ifB (decide (i2>=8)) (CS 228 #[.pointer x0,.int .i64 i2] w1 fun v3 w4=>∃(i5:Int)(b6:Bool),v3=.tuple #[.int .i64 i5,.bool b6] /\ ifB (!b6) (R (.tuple #[.int .i64 0,.int .i64 13]) w4) (CS 229 #[.int .i64 i2,.int .i64 i5,.int .i64 0] w4 fun v7 w8=>∃i9 i10:Int,v7=.tuple #[.int .i64 i9,.int .i64 i10] /\ R (.tuple #[.int .i64 i9,.int .i64 i10]) w8)) (someA x0 fun a11=>0<=i2 /\ i2<(↑(8:Nat):Int) /\ ∃p12:Option Addr,w1.cell? ((a11.add 28).add i2.toNat)=some (.pointer p12) /\ CS 230 #[.pointer p12] w1 fun v13 w14=>∃i15:Int,v13=.int .i64 i15 /\ ifB (decide (i15>=0)) (someA x0 fun a16=>∃p17:Option Nat,w14.cell? (a16.add 36)=some (.map p17) /\ ∃(p18:Option Addr)(w19:World),Sem.run prog (Instr.lookup 147 (.map p17) (.int .i64 i15) false) w14=.ok (.pointer p18) w19 /\ CS 231 #[.pointer p18] w19 fun v20 w21=>∃i22 i23:Int,v20=.tuple #[.int .i64 i22,.int .i64 i23] /\ ifB (i23 != 0) (R (.tuple #[.int .i64 0,.int .i64 i23]) w21) (CS 232 #[.pointer p18] w21 fun v24 w25=>∃b26:Bool,v24=.bool b26 /\ ifB b26 (CS 233 #[.pointer p12,.int .i64 i15] w25 fun v27 w28=>∃i29:Int,v27=.int .i64 i29 /\ CS 208 #[.int .i64 i2,.int .i64 0] w28 fun v30 w31=>∃i32:Int,v30=.int .i64 i32 /\ CS 229 #[.int .i64 i2,.int .i64 (IntKind.i64.wrap (i15-i32)),.int .i64 i22] w31 fun v33 w34=>∃i35 i36:Int,v33=.tuple #[.int .i64 i35,.int .i64 i36] /\ R (.tuple #[.int .i64 i35,.int .i64 i36]) w34) (CS 208 #[.int .i64 i2,.int .i64 0] w25 fun v37 w38=>∃i39:Int,v37=.int .i64 i39 /\ CS 229 #[.int .i64 i2,.int .i64 (IntKind.i64.wrap (i15-i39)),.int .i64 i22] w38 fun v40 w41=>∃i42 i43:Int,v40=.tuple #[.int .i64 i42,.int .i64 i43] /\ R (.tuple #[.int .i64 i42,.int .i64 i43]) w41))) (CS 228 #[.pointer x0,.int .i64 i2] w14 fun v44 w45=>∃(i46:Int)(b47:Bool),v44=.tuple #[.int .i64 i46,.bool b47] /\ ifB b47 (CS 208 #[.int .i64 i2,.int .i64 i46] w45 fun v48 w49=>∃i50:Int,v48=.int .i64 i50 /\ ∀(w51:World),w51=w49.drew->someA x0 fun a52=>∃p53:Option Nat,w51.cell? (a52.add 36)=some (.map p53) /\ someA x0 fun a54=>∃p55:Option Addr,w51.cell? (a54.add 0)=some (.pointer p55) /\ someA x0 fun a56=>∃p57:Option Addr,w51.cell? (a56.add 3)=some (.pointer p57) /\ CS 48 #[.pointer p57,.int .i64 i50] w51 fun v58 w59=>∃i60:Int,v58=.int .i64 i60 /\ (∃p61:Option Addr,w59.cell? (a54.add 0)=some (.pointer p61) /\ Value.pointer p61=.pointer p55) /\ (∃p62:Option Nat,w59.cell? (a52.add 36)=some (.map p62) /\ Value.map p62=.map p53) /\ CS 234 #[.pointer p55,.int .i64 (IntKind.i64.wrap (i60*512)),.int .i64 i2] w59 fun v63 w64=>∃(p65:Option Addr)(i66:Int),v63=.tuple #[.pointer p65,.int .i64 i66] /\ (∃p67:Option Nat,w64.cell? (a52.add 36)=some (.map p67) /\ Value.map p67=.map p53) /\ ∃w68:World,Sem.run prog (Instr.mapUpdate 147 (.map p53) (.int .i64 i50) (.pointer p65)) w64=.ok () w68 /\ CS 235 #[.pointer p12,.int .i64 i50] w68 fun v69 w70=>∃i71:Int,v69=.int .i64 i71 /\ ∃x72:Nat->World->Prop,(∃n73:Nat,x72 n73 w70) /\ ∀(n74:Nat)(jv:Nat->Value)(w75:World),x72 n74 w75->CS 230 #[.pointer p12] w75 fun v76 w77=>∃i78:Int,v76=.int .i64 i78 /\ ifB (decide (i78>=0)) (someA x0 fun a79=>∃p80:Option Nat,w77.cell? (a79.add 36)=some (.map p80) /\ ∃(p81:Option Addr)(w82:World),Sem.run prog (Instr.lookup 147 (.map p80) (.int .i64 i78) false) w77=.ok (.pointer p81) w82 /\ CS 231 #[.pointer p81] w82 fun v83 w84=>∃i85 i86:Int,v83=.tuple #[.int .i64 i85,.int .i64 i86] /\ ifB (i86 != 0) (R (.tuple #[.int .i64 0,.int .i64 i86]) w84) (CS 232 #[.pointer p81] w84 fun v87 w88=>∃b89:Bool,v87=.bool b89 /\ ifB b89 (CS 233 #[.pointer p12,.int .i64 i78] w88 fun v90 w91=>∃i92:Int,v90=.int .i64 i92 /\ CS 208 #[.int .i64 i2,.int .i64 0] w91 fun v93 w94=>∃i95:Int,v93=.int .i64 i95 /\ CS 229 #[.int .i64 i2,.int .i64 (IntKind.i64.wrap (i78-i95)),.int .i64 i85] w94 fun v96 w97=>∃i98 i99:Int,v96=.tuple #[.int .i64 i98,.int .i64 i99] /\ R (.tuple #[.int .i64 i98,.int .i64 i99]) w97) (CS 208 #[.int .i64 i2,.int .i64 0] w88 fun v100 w101=>∃i102:Int,v100=.int .i64 i102 /\ CS 229 #[.int .i64 i2,.int .i64 (IntKind.i64.wrap (i78-i102)),.int .i64 i85] w101 fun v103 w104=>∃i105 i106:Int,v103=.tuple #[.int .i64 i105,.int .i64 i106] /\ R (.tuple #[.int .i64 i105,.int .i64 i106]) w104))) (CS 228 #[.pointer x0,.int .i64 i2] w77 fun v107 w108=>∃(i109:Int)(b110:Bool),v107=.tuple #[.int .i64 i109,.bool b110] /\ ifB b110 (CS 208 #[.int .i64 i2,.int .i64 i109] w108 fun v111 w112=>∃i113:Int,v111=.int .i64 i113 /\ ∀(w114:World),w114=w112.drew->someA x0 fun a115=>∃p116:Option Nat,w114.cell? (a115.add 36)=some (.map p116) /\ someA x0 fun a117=>∃p118:Option Addr,w114.cell? (a117.add 0)=some (.pointer p118) /\ someA x0 fun a119=>∃p120:Option Addr,w114.cell? (a119.add 3)=some (.pointer p120) /\ CS 48 #[.pointer p120,.int .i64 i113] w114 fun v121 w122=>∃i123:Int,v121=.int .i64 i123 /\ (∃p124:Option Addr,w122.cell? (a117.add 0)=some (.pointer p124) /\ Value.pointer p124=.pointer p118) /\ (∃p125:Option Nat,w122.cell? (a115.add 36)=some (.map p125) /\ Value.map p125=.map p116) /\ CS 234 #[.pointer p118,.int .i64 (IntKind.i64.wrap (i123*512)),.int .i64 i2] w122 fun v126 w127=>∃(p128:Option Addr)(i129:Int),v126=.tuple #[.pointer p128,.int .i64 i129] /\ (∃p130:Option Nat,w127.cell? (a115.add 36)=some (.map p130) /\ Value.map p130=.map p116) /\ ∃w131:World,Sem.run prog (Instr.mapUpdate 147 (.map p116) (.int .i64 i113) (.pointer p128)) w127=.ok () w131 /\ CS 235 #[.pointer p12,.int .i64 i113] w131 fun v132 w133=>∃i134:Int,v132=.int .i64 i134 /\ ∃n135:Nat,n135<n74 /\ x72 n135 w133) (R (.tuple #[.int .i64 0,.int .i64 13]) w108))) (R (.tuple #[.int .i64 0,.int .i64 13]) w45)))))
theorem vc180.ok{x0:Option Addr}{x1:Int}(h:vc180 x0 x1 w R ):Calls prog 183 #[.pointer x0,.int .i64 x1] w (Ret R):=
 bodyE va180 Tryz.func183 (h:=h)
def vc181(x0:Option Addr)(x1:Int)(w:World)(R:VW):Prop:=
 ifB x0.isNone (R (.tuple #[.int .u64 0,.int .i64 11]) w) (ifB (decide (x1<0)) (R (.tuple #[.int .u64 0,.int .i64 12]) w) (someA x0 fun a0=>∃p1:Option Addr,w.cell? (a0.add 3)=some (.pointer p1) /\ CS 199 #[.pointer x0,.pointer p1,.int .i64 0,.int .i64 x1,.int .i64 7] w fun v2 w3=>∃i4 i5:Int,v2=.tuple #[.int .u64 i4,.int .i64 i5] /\ R (.tuple #[.int .u64 i4,.int .i64 i5]) w3))
theorem vc181.ok{x0:Option Addr}{x1:Int}(h:vc181 x0 x1 w R ):Calls prog 184 #[.pointer x0,.int .i64 x1] w (Ret R):=
 bodyE zN Tryz.func184 (h:=h)
def va182:Ann:=⟨fun id=>LI.none,fun l=>cond (Nat.beq l 0) (some ⟨[(5,.int .i64 0),(6,.int .i64 0)],([4,7,8]++rg 11 43)⟩) (none),fun i=>cond (Nat.beq i 13) (some ⟨[(5,.int .i64 0)],([7,8]++rg 14 38)⟩) (none)⟩
def vc182(x0:Option Addr)(x1:Int)(w:World)(R:VW):Prop:=
 ifB x0.isNone (R (.int .i64 0) w) (∃x0_1:Int->World->Prop,(someA x0 fun a1=>∃p2:Option Nat,w.cell? (a1.add 2)=some (.map p2) /\ ∃(i3 i4 i5:Int)(b6:Bool)(w7:World),Sem.run prog (Instr.lookup 228 (.map p2) (.int .i64 0) true) w=.ok (.tuple #[.agg #[.int .i64 i3,.int .i64 i4,.int .i64 i5],.bool b6]) w7 /\ ∀(n8:Nat)(w9:World),n8=w7.heap.size->w9=w7.alloc (.cells #[.int .i64 0,.int .i64 0,.int .i64 0] 254)->WrC w9 (zA n8) 3 /\ ∀(w10:World),w10=wr w9 (zA n8) [.int .i64 i3,.int .i64 i4,.int .i64 i5]->ifB b6 (∃i11:Int,w10.cell? ((zA n8).add 2)=some (.int .i64 i11) /\ ifB (i11 == x1) (someA x0 fun a12=>∃p13:Option Nat,w10.cell? (a12.add 2)=some (.map p13) /\ ∃w14:World,Sem.run prog (Builtin.delete_ #[228,3] 0 #[.map p13,.int .i64 0]) w10=.ok (.tuple #[]) w14 /\ someA x0 fun a15=>∃p16:Option Addr,w14.cell? (a15.add 3)=some (.pointer p16) /\ CS 122 #[.pointer p16,.int .i64 0] w14 fun v17 w18=>∃i19:Int,v17=.int .i64 i19 /\ x0_1 (IntKind.i64.wrap (0+1)) w18) (x0_1 0 w10)) (x0_1 0 w10)) /\ ∀(jv:Nat->Value)(i20:Int)(w21:World),x0_1 i20 w21->∃x22:Nat->Int->Int->World->Prop,(∃n23:Nat,x22 n23 i20 (IntKind.i64.wrap (0+1)) w21) /\ ∀(n24:Nat)(jv:Nat->Value)(i25 i26:Int)(w27:World),x22 n24 i25 i26 w27->ifB (decide (i26>=4160)) (R (.int .i64 i25) w27) (∃x28:Int->World->Prop,(someA x0 fun a29=>∃p30:Option Nat,w27.cell? (a29.add 2)=some (.map p30) /\ ∃(i31 i32 i33:Int)(b34:Bool)(w35:World),Sem.run prog (Instr.lookup 228 (.map p30) (.int .i64 i26) true) w27=.ok (.tuple #[.agg #[.int .i64 i31,.int .i64 i32,.int .i64 i33],.bool b34]) w35 /\ ∀(n36:Nat)(w37:World),n36=w35.heap.size->w37=w35.alloc (.cells #[.int .i64 0,.int .i64 0,.int .i64 0] 254)->WrC w37 (zA n36) 3 /\ ∀(w38:World),w38=wr w37 (zA n36) [.int .i64 i31,.int .i64 i32,.int .i64 i33]->ifB b34 (∃i39:Int,w38.cell? ((zA n36).add 2)=some (.int .i64 i39) /\ ifB (i39 == x1) (someA x0 fun a40=>∃p41:Option Nat,w38.cell? (a40.add 2)=some (.map p41) /\ ∃w42:World,Sem.run prog (Builtin.delete_ #[228,3] 0 #[.map p41,.int .i64 i26]) w38=.ok (.tuple #[]) w42 /\ ifB (decide (i26<4096)) (someA x0 fun a43=>∃p44:Option Addr,w42.cell? (a43.add 3)=some (.pointer p44) /\ CS 122 #[.pointer p44,.int .i64 i26] w42 fun v45 w46=>∃i47:Int,v45=.int .i64 i47 /\ x28 (IntKind.i64.wrap (i25+1)) w46) (someA x0 fun a48=>∃p49:Option Addr,w42.cell? (a48.add 4)=some (.pointer p49) /\ CS 122 #[.pointer p49,.int .i64 (IntKind.i64.wrap (i26-4096))] w42 fun v50 w51=>∃i52:Int,v50=.int .i64 i52 /\ x28 (IntKind.i64.wrap (i25+1)) w51)) (x28 i25 w38)) (x28 i25 w38)) /\ ∀(jv:Nat->Value)(i53:Int)(w54:World),x28 i53 w54->∃n55:Nat,n55<n24 /\ x22 n55 i53 (IntKind.i64.wrap (i26+1)) w54))
theorem vc182.ok{x0:Option Addr}{x1:Int}(h:vc182 x0 x1 w R ):Calls prog 185 #[.pointer x0,.int .i64 x1] w (Ret R):=
 bodyE va182 Tryz.func185 (h:=h)
def vc183(x0:Option Addr)(x1:Int)(w:World)(R:VW):Prop:=
 CS 151 #[.pointer x0,.int .i64 x1] w fun v0 w1=>∃i2 i3 i4 i5:Int,v0=.tuple #[.int .i64 i2,.int .i64 i3,.int .i64 i4,.int .i64 i5] /\ ifB (i5 != 0) (R (.int .i64 i5) w1) (ifB (decide (i2>=8)) (CS 236 #[.pointer x0,.int .i64 i2,.int .i64 i3] w1 fun v6 w7=>v6=.tuple #[] /\ R (.int .i64 0) w7) (CS 208 #[.int .i64 i2,.int .i64 i3] w1 fun v8 w9=>∃i10:Int,v8=.int .i64 i10 /\ someA x0 fun a11=>∃p12:Option Nat,w9.cell? (a11.add 36)=some (.map p12) /\ ∃(p13:Option Addr)(w14:World),Sem.run prog (Instr.lookup 147 (.map p12) (.int .i64 i10) false) w9=.ok (.pointer p13) w14 /\ CS 232 #[.pointer p13] w14 fun v15 w16=>∃b17:Bool,v15=.bool b17 /\ ifB b17 (someA x0 fun a18=>0<=i2 /\ i2<(↑(8:Nat):Int) /\ ∃p19:Option Addr,w16.cell? ((a18.add 28).add i2.toNat)=some (.pointer p19) /\ CS 235 #[.pointer p19,.int .i64 i10] w16 fun v20 w21=>∃i22:Int,v20=.int .i64 i22 /\ CS 237 #[.pointer p13,.int .i64 i4] w21 fun v23 w24=>∃i25:Int,v23=.int .i64 i25 /\ ifB (i25 == 0) (CS 238 #[.pointer p13] w24 fun v26 w27=>∃i28:Int,v26=.int .i64 i28 /\ ifB (i28 == 0) (someA x0 fun a29=>0<=i2 /\ i2<(↑(8:Nat):Int) /\ ∃p30:Option Addr,w27.cell? ((a29.add 28).add i2.toNat)=some (.pointer p30) /\ CS 233 #[.pointer p30,.int .i64 i10] w27 fun v31 w32=>∃i33:Int,v31=.int .i64 i33 /\ someA x0 fun a34=>∃p35:Option Nat,w32.cell? (a34.add 36)=some (.map p35) /\ ∃w36:World,Sem.run prog (Builtin.delete_ #[147,3] 0 #[.map p35,.int .i64 i10]) w32=.ok (.tuple #[]) w36 /\ CS 236 #[.pointer x0,.int .i64 i2,.int .i64 i3] w36 fun v37 w38=>v37=.tuple #[] /\ R (.int .i64 i25) w38) (R (.int .i64 i25) w27)) (R (.int .i64 i25) w24)) (CS 237 #[.pointer p13,.int .i64 i4] w16 fun v39 w40=>∃i41:Int,v39=.int .i64 i41 /\ ifB (i41 == 0) (CS 238 #[.pointer p13] w40 fun v42 w43=>∃i44:Int,v42=.int .i64 i44 /\ ifB (i44 == 0) (someA x0 fun a45=>0<=i2 /\ i2<(↑(8:Nat):Int) /\ ∃p46:Option Addr,w43.cell? ((a45.add 28).add i2.toNat)=some (.pointer p46) /\ CS 233 #[.pointer p46,.int .i64 i10] w43 fun v47 w48=>∃i49:Int,v47=.int .i64 i49 /\ someA x0 fun a50=>∃p51:Option Nat,w48.cell? (a50.add 36)=some (.map p51) /\ ∃w52:World,Sem.run prog (Builtin.delete_ #[147,3] 0 #[.map p51,.int .i64 i10]) w48=.ok (.tuple #[]) w52 /\ CS 236 #[.pointer x0,.int .i64 i2,.int .i64 i3] w52 fun v53 w54=>v53=.tuple #[] /\ R (.int .i64 i41) w54) (R (.int .i64 i41) w43)) (R (.int .i64 i41) w40))))
theorem vc183.ok{x0:Option Addr}{x1:Int}(h:vc183 x0 x1 w R ):Calls prog 186 #[.pointer x0,.int .i64 x1] w (Ret R):=
 bodyE zN Tryz.func186 (h:=h)
def vc184(x0:Option Addr)(x1 x2:Int)(w:World)(R:VW):Prop:=
 CS 197 #[.pointer x0,.int .u64 x1] w fun v0 w1=>∃i2 i3 i4 i5:Int,v0=.tuple #[.agg #[.int .i64 i2,.int .i64 i3,.int .i64 i4],.int .i64 i5] /\ ∀(n6:Nat)(w7:World),n6=w1.heap.size->w7=w1.alloc (.cells #[.int .i64 0,.int .i64 0,.int .i64 0] 254)->WrC w7 (zA n6) 3 /\ ∀(w8:World),w8=wr w7 (zA n6) [.int .i64 i2,.int .i64 i3,.int .i64 i4]->ifB (i5 != 0) (R (.tuple #[.int .i64 0,.int .i64 i5]) w8) (ifB (decide (x2<0)) (R (.tuple #[.int .i64 0,.int .i64 5]) w8) (ifB (decide (x2>7)) (R (.tuple #[.int .i64 0,.int .i64 5]) w8) (∃i9 i10:Int,CellsAt w8 ((zA n6).add 0) [.int .i64 i9,.int .i64 i10] /\ CS 198 #[.agg #[.int .i64 i9,.int .i64 i10],.int .i64 x2] w8 fun v11 w12=>∃b13:Bool,v11=.bool b13 /\ ifB (!b13) (R (.tuple #[.int .i64 0,.int .i64 5]) w12) (∃i14:Int,w12.cell? ((zA n6).add 2)=some (.int .i64 i14) /\ R (.tuple #[.int .i64 i14,.int .i64 0]) w12))))
theorem vc184.ok{x0:Option Addr}{x1 x2:Int}(h:vc184 x0 x1 x2 w R ):Calls prog 188 #[.pointer x0,.int .u64 x1,.int .i64 x2] w (Ret R):=
 bodyE zN Tryz.func188 (h:=h)
def vc185(x0:Option Addr)(x1:Int)(w:World)(R:VW):Prop:=
 ∀(n0:Nat)(w1:World),n0=w.heap.size->w1=w.alloc (.cells #[.int .i64 0,.int .i64 0,.int .i64 0] 254)->ifB x0.isNone (WrC w1 (zA n0) 3 /\ ∀(w2:World),w2=wr w1 (zA n0) [.int .i64 0,.int .i64 0,.int .i64 0]->∃i3 i4 i5:Int,CellsAt w2 (zA n0) [.int .i64 i3,.int .i64 i4,.int .i64 i5] /\ R (.tuple #[.agg #[.int .i64 i3,.int .i64 i4,.int .i64 i5],.int .i64 11]) w2) (CS 242 #[.int .u64 x1] w1 fun v6 w7=>∃i8 i9 i10 i11 i12:Int,v6=.tuple #[.agg #[.int .i64 i8,.int .i64 i9,.int .i64 i10,.int .i64 i11],.int .i64 i12] /\ ∀(n13:Nat)(w14:World),n13=w7.heap.size->w14=w7.alloc (.cells #[.int .i64 0,.int .i64 0,.int .i64 0,.int .i64 0] 283)->WrC w14 (zA n13) 4 /\ ∀(w15:World),w15=wr w14 (zA n13) [.int .i64 i8,.int .i64 i9,.int .i64 i10,.int .i64 i11]->∀(w16:World),w16=w15.drew->someA x0 fun a17=>∃p18:Option Nat,w16.cell? (a17.add 2)=some (.map p18) /\ ∃i19:Int,w16.cell? ((zA n13).add 1)=some (.int .i64 i19) /\ ∃(i20 i21 i22:Int)(b23:Bool)(w24:World),Sem.run prog (Instr.lookup 228 (.map p18) (.int .i64 i19) true) w16=.ok (.tuple #[.agg #[.int .i64 i20,.int .i64 i21,.int .i64 i22],.bool b23]) w24 /\ w24=w16 /\ ∀(n25:Nat)(w26:World),n25=w16.heap.size->w26=w16.alloc (.cells #[.int .i64 0,.int .i64 0,.int .i64 0] 254)->(∃(i27 i28 i29:Int)(b30:Bool)(w31:World),Sem.run prog (Instr.lookup 228 (.map p18) (.int .i64 i19) true) w26=.ok (.tuple #[.agg #[.int .i64 i27,.int .i64 i28,.int .i64 i29],.bool b30]) w31 /\ w31=w26 /\ Value.tuple #[.agg #[.int .i64 i27,.int .i64 i28,.int .i64 i29],.bool b30]=.tuple #[.agg #[.int .i64 i20,.int .i64 i21,.int .i64 i22],.bool b23]) /\ (∃i32:Int,w26.cell? ((zA n13).add 1)=some (.int .i64 i32) /\ Value.int .i64 i32=.int .i64 i19) /\ (∃p33:Option Nat,w26.cell? (a17.add 2)=some (.map p33) /\ Value.map p33=.map p18) /\ WrC w26 (zA n25) 3 /\ ∀(w34:World),w34=wr w26 (zA n25) [.int .i64 i20,.int .i64 i21,.int .i64 i22]->∀(w35:World),w35=w34.drew->ifB (i12 != 0) (w35=w35 /\ w35=w35 /\ w35=w35 /\ WrC w35 (zA n0) 3 /\ ∀(w36:World),w36=wr w35 (zA n0) [.int .i64 0,.int .i64 0,.int .i64 0]->∃i37 i38 i39:Int,CellsAt w36 (zA n0) [.int .i64 i37,.int .i64 i38,.int .i64 i39] /\ R (.tuple #[.agg #[.int .i64 i37,.int .i64 i38,.int .i64 i39],.int .i64 5]) w36) (w35=w35 /\ w35=w35 /\ ifB (!b23) (w35=w35 /\ w35=w35 /\ WrC w35 (zA n0) 3 /\ ∀(w40:World),w40=wr w35 (zA n0) [.int .i64 0,.int .i64 0,.int .i64 0]->∃i41 i42 i43:Int,CellsAt w40 (zA n0) [.int .i64 i41,.int .i64 i42,.int .i64 i43] /\ R (.tuple #[.agg #[.int .i64 i41,.int .i64 i42,.int .i64 i43],.int .i64 5]) w40) (∃i44:Int,w35.cell? ((zA n13).add 0)=some (.int .i64 i44) /\ someA x0 fun a45=>∃i46:Int,w35.cell? (a45.add 0)=some (.int .i64 i46) /\ w35=w35 /\ ifB (i44 != i46) (w35=w35 /\ WrC w35 (zA n0) 3 /\ ∀(w47:World),w47=wr w35 (zA n0) [.int .i64 0,.int .i64 0,.int .i64 0]->∃i48 i49 i50:Int,CellsAt w47 (zA n0) [.int .i64 i48,.int .i64 i49,.int .i64 i50] /\ R (.tuple #[.agg #[.int .i64 i48,.int .i64 i49,.int .i64 i50],.int .i64 5]) w47) (∃i51 i52:Int,CellsAt w35 ((zA n25).add 0) [.int .i64 i51,.int .i64 i52] /\ ∃i53:Int,w35.cell? ((zA n13).add 2)=some (.int .i64 i53) /\ ∃i54:Int,w35.cell? ((zA n13).add 3)=some (.int .i64 i54) /\ w35=w35 /\ ∃(b55:Bool)(w56:World),Sem.run prog (binOp BinOp.neq 252 (.agg #[.int .i64 i51,.int .i64 i52]) (.agg #[.int .i64 i53,.int .i64 i54])) w35=.ok (.bool b55) w56 /\ w56=w35 /\ w35=w35 /\ ifB b55 (WrC w35 (zA n0) 3 /\ ∀(w57:World),w57=wr w35 (zA n0) [.int .i64 0,.int .i64 0,.int .i64 0]->∃i58 i59 i60:Int,CellsAt w57 (zA n0) [.int .i64 i58,.int .i64 i59,.int .i64 i60] /\ R (.tuple #[.agg #[.int .i64 i58,.int .i64 i59,.int .i64 i60],.int .i64 5]) w57) (∃i61 i62 i63:Int,CellsAt w35 (zA n25) [.int .i64 i61,.int .i64 i62,.int .i64 i63] /\ WrC w35 (zA n0) 3 /\ ∀(w64:World),w64=wr w35 (zA n0) [.int .i64 i61,.int .i64 i62,.int .i64 i63]->∃i65 i66 i67:Int,CellsAt w64 (zA n0) [.int .i64 i65,.int .i64 i66,.int .i64 i67] /\ R (.tuple #[.agg #[.int .i64 i65,.int .i64 i66,.int .i64 i67],.int .i64 0]) w64)))))
theorem vc185.ok{x0:Option Addr}{x1:Int}(h:vc185 x0 x1 w R ):Calls prog 197 #[.pointer x0,.int .u64 x1] w (Ret R):=
 bodyE zN Tryz.func197 (h:=h)
def vc186(x0_0 x0_1 x1:Int)(w:World)(R:VW):Prop:=
 ∀(n0:Nat)(w1:World),n0=w.heap.size->w1=w.alloc (.cells #[.int .i64 x0_0,.int .i64 x0_1] 252)->∃i2:Int,w1.cell? ((zA n0).add 0)=some (.int .i64 i2) /\ R (.bool (bits BinOp.and IntKind.i64 i2 x1 == x1)) w1
theorem vc186.ok{x0_0 x0_1 x1:Int}(h:vc186 x0_0 x0_1 x1 w R ):Calls prog 198 #[.agg #[.int .i64 x0_0,.int .i64 x0_1],.int .i64 x1] w (Ret R):=
 bodyE zN Tryz.func198 (h:=h)
def vc187(x0 x1:Option Addr)(x2 x3 x4:Int)(w:World)(R:VW):Prop:=
 someA x0 fun a0=>∃i1:Int,w.cell? (a0.add 1)=some (.int .i64 i1) /\ ifB (decide (i1>=17592186044416)) (R (.tuple #[.int .u64 0,.int .i64 10]) w) (CS 113 #[.pointer x1] w fun v2 w3=>∃i4 i5:Int,v2=.tuple #[.int .i64 i4,.int .i64 i5] /\ ifB (i5 != 0) (R (.tuple #[.int .u64 0,.int .i64 10]) w3) (∀(w6:World),w6=w3.drew->someA x0 fun a7=>∃p8:Option Nat,w6.cell? (a7.add 2)=some (.map p8) /\ someA x0 fun a9=>∃i10:Int,w6.cell? (a9.add 1)=some (.int .i64 i10) /\ w6=w6 /\ w6=w6 /\ ∃w11:World,Sem.run prog (Instr.mapUpdate 228 (.map p8) (.int .i64 (IntKind.i64.wrap (x2+i4))) (.agg #[.int .i64 x4,.int .i64 i10,.int .i64 x3])) w6=.ok () w11 /\ ∀(w12:World),w12=w11.drew->someA x0 fun a13=>∃i14:Int,w12.cell? (a13.add 0)=some (.int .i64 i14) /\ someA x0 fun a15=>∃i16:Int,w12.cell? (a15.add 1)=some (.int .i64 i16) /\ w12=w12 /\ CS 243 #[.agg #[.int .i64 i14,.int .i64 (IntKind.i64.wrap (x2+i4)),.int .i64 x4,.int .i64 i16]] w12 fun v17 w18=>∃i19 i20:Int,v17=.tuple #[.int .u64 i19,.int .i64 i20] /\ someA x0 fun a21=>∃i22:Int,w18.cell? (a21.add 1)=some (.int .i64 i22) /\ someA x0 fun a23=>WrC w18 (a23.add 1) 1 /\ ∀(w24:World),w24=wr w18 (a23.add 1) [.int .i64 (IntKind.i64.wrap (i22+1))]->R (.tuple #[.int .u64 i19,.int .i64 i20]) w24))
theorem vc187.ok{x0 x1:Option Addr}{x2 x3 x4:Int}(h:vc187 x0 x1 x2 x3 x4 w R ):Calls prog 199 #[.pointer x0,.pointer x1,.int .i64 x2,.int .i64 x3,.int .i64 x4] w (Ret R):=
 bodyE zN Tryz.func199 (h:=h)
end
set_option maxRecDepth 100000
section
variable{w:World}{R:Value->World->Prop}
def vc188(x0:Int)(w:World)(R:VW):Prop:=
 ifB (decide (x0<131072)) (R (.tuple #[.int .i64 0,.int .i64 0,.int .i64 0,.int .i64 4]) w) (ifB (decide (x0>=3276800)) (R (.tuple #[.int .i64 0,.int .i64 0,.int .i64 0,.int .i64 4]) w) ((131072:Int) ≠ 0 /\ (131072:Int) ≠ 0 /\ CS 245 #[.int .i64 (IntKind.i64.wrap (IntKind.i64.wrap (x0.tdiv 131072)-1))] w fun v0 w1=>∃i2:Int,v0=.int .i64 i2 /\ i2 ≠ 0 /\ ∀(w3:World),w3=w1.drew->CS 245 #[.int .i64 (IntKind.i64.wrap (IntKind.i64.wrap (x0.tdiv 131072)-1))] w3 fun v4 w5=>∃i6:Int,v4=.int .i64 i6 /\ i6 ≠ 0 /\ w5=w5 /\ CS 152 #[.int .i64 (IntKind.i64.wrap (IntKind.i64.wrap (x0.tdiv 131072)-1))] w5 fun v7 w8=>∃i9:Int,v7=.int .i64 i9 /\ (i6 ≠ 0 /\ w8=w8 /\ Value.int .i64 ((x0.tmod 131072).tmod i6)=.int .i64 ((x0.tmod 131072).tmod i6)) /\ i9 ≠ 0 /\ w8=w8 /\ CS 229 #[.int .i64 (IntKind.i64.wrap (IntKind.i64.wrap (x0.tdiv 131072)-1)),.int .i64 (IntKind.i64.wrap ((x0.tmod 131072).tdiv i2)),.int .i64 (IntKind.i64.wrap (((x0.tmod 131072).tmod i6).tdiv i9))] w8 fun v10 w11=>∃i12 i13:Int,v10=.tuple #[.int .i64 i12,.int .i64 i13] /\ ifB (i13 != 0) (R (.tuple #[.int .i64 0,.int .i64 0,.int .i64 0,.int .i64 4]) w11) (ifB (i12 != x0) (R (.tuple #[.int .i64 0,.int .i64 0,.int .i64 0,.int .i64 4]) w11) (R (.tuple #[.int .i64 (IntKind.i64.wrap (IntKind.i64.wrap (x0.tdiv 131072)-1)),.int .i64 (IntKind.i64.wrap ((x0.tmod 131072).tdiv i2)),.int .i64 (IntKind.i64.wrap (((x0.tmod 131072).tmod i6).tdiv i9)),.int .i64 0]) w11))))
theorem vc188.ok{x0:Int}(h:vc188 x0 w R ):Calls prog 207 #[.int .i64 x0] w (Ret R):=
 bodyE zN Tryz.func207 (h:=h)
def vc189(x0 x1:Int)(w:World)(R:VW):Prop:=
 CS 229 #[.int .i64 x0,.int .i64 x1,.int .i64 0] w fun v0 w1=>∃i2 i3:Int,v0=.tuple #[.int .i64 i2,.int .i64 i3] /\ (512:Int) ≠ 0 /\ R (.int .i64 (IntKind.i64.wrap (i2.tdiv 512))) w1
theorem vc189.ok{x0 x1:Int}(h:vc189 x0 x1 w R ):Calls prog 208 #[.int .i64 x0,.int .i64 x1] w (Ret R):=
 bodyE zN Tryz.func208 (h:=h)
def vc190(x0:Option Addr)(x1:Int)(w:World)(R:VW):Prop:=
 ifB (!x0.isNone) (ifB (decide (x1>=0)) (someA x0 fun a0=>∃i1:Int,w.cell? ((a0.add 0).add 0)=some (.int .i64 i1) /\ R (.bool (decide (x1<i1))) w) (R (.bool false) w)) (R (.bool false) w)
theorem vc190.ok{x0:Option Addr}{x1:Int}(h:vc190 x0 x1 w R ):Calls prog 215 #[.pointer x0,.int .i64 x1] w (Ret R):=
 bodyE zN Tryz.func215 (h:=h)
def vc191(x0:Int)(w:World)(R:VW):Prop:=
 CS 211 #[.int .i64 x0] w fun v0 w1=>∃i2:Int,v0=.int .i64 i2 /\ ifB (i2 == 0) (R (.int .i64 0) w1) (i2 ≠ 0 /\ R (.int .i64 (IntKind.i64.wrap (Int.tdiv 256 i2))) w1)
theorem vc191.ok{x0:Int}(h:vc191 x0 w R ):Calls prog 216 #[.int .i64 x0] w (Ret R):=
 bodyE zN Tryz.func216 (h:=h)
def vc192(w:World)(R:VW):Prop:=
 ∃(p0:Option Nat)(w1:World),Sem.run prog (Instr.makeMap 291 none) w=.ok (.map p0) w1 /\ ∀(n2:Nat)(w3:World),n2=w1.heap.size->w3=w1.alloc (.cells #[.map p0,.int .i64 (-1),.int .i64 (-1)] 293)->R ((zP n2)) w3
theorem vc192.ok(h:vc192 w R ):Calls prog 217 #[] w (Ret R):=
 bodyE zN Tryz.func217 (h:=h)
def vc194(x0:Option Addr)(x1:Int)(w:World)(R:VW):Prop:=
 ifB (decide (x1>=0)) (someA x0 fun a0=>∃(p1:Option Addr)(n2 n3:Nat),w.cell? (a0.add 2)=some (.slice p1 n2 n3) /\ R (.bool (decide (x1<(↑n2:Int)))) w) (R (.bool false) w)
theorem vc194.ok{x0:Option Addr}{x1:Int}(h:vc194 x0 x1 w R ):Calls prog 219 #[.pointer x0,.int .i64 x1] w (Ret R):=
 bodyE zN Tryz.func219 (h:=h)
def vc195(x0:Option Addr)(x1:Int)(w:World)(R:VW):Prop:=
 CS 48 #[.pointer x0,.int .i64 x1] w fun v0 w1=>∃i2:Int,v0=.int .i64 i2 /\ ifB x0.isNone (R (.tuple #[.int .i64 0,.int .i64 11]) w1) (ifB (decide (i2<0)) (R (.tuple #[.int .i64 0,.int .i64 13]) w1) (someA x0 fun a3=>∃p4:Option Nat,w1.cell? (a3.add 0)=some (.map p4) /\ ∃w5:World,Sem.run prog (Builtin.delete_ #[48,3] 0 #[.map p4,.int .i64 x1]) w1=.ok (.tuple #[]) w5 /\ someA x0 fun a6=>∃p7:Option Nat,w5.cell? (a6.add 1)=some (.map p7) /\ ∃w8:World,Sem.run prog (Builtin.delete_ #[48,3] 0 #[.map p7,.int .i64 i2]) w5=.ok (.tuple #[]) w8 /\ R (.tuple #[.int .i64 i2,.int .i64 0]) w8))
theorem vc195.ok{x0:Option Addr}{x1:Int}(h:vc195 x0 x1 w R ):Calls prog 225 #[.pointer x0,.int .i64 x1] w (Ret R):=
 bodyE zN Tryz.func225 (h:=h)
def vc196(x0:Option Addr)(w:World)(R:VW):Prop:=
 ifB x0.isNone (R (.int .i64 0) w) (someA x0 fun a0=>∃p1:Option Nat,w.cell? (a0.add 0)=some (.map p1) /\ ∃(i2:Int)(w3:World),Sem.run prog (Builtin.len_ #[48] 3 #[.map p1]) w=.ok (.int .i64 i2) w3 /\ R (.int .i64 i2) w3)
theorem vc196.ok{x0:Option Addr}(h:vc196 x0 w R ):Calls prog 226 #[.pointer x0] w (Ret R):=
 bodyE zN Tryz.func226 (h:=h)
def va197:Ann:=⟨fun id=>cond (Nat.beq id 6) ⟨[(44,.int .i64 0)],([8,9,10]++rg 45 26)⟩ (LI.none),fun l=>none,fun i=>none⟩
def vc197(x0:Option Addr)(x1:Int)(w:World)(R:VW):Prop:=
 someA x0 fun a0=>0<=x1 /\ x1<(↑(24:Nat):Int) /\ ∃p1:Option Addr,w.cell? ((a0.add 4).add x1.toNat)=some (.pointer p1) /\ CS 160 #[.pointer p1] w fun v2 w3=>∃i4:Int,v2=.int .i64 i4 /\ CS 211 #[.int .i64 x1] w3 fun v5 w6=>∃i7:Int,v5=.int .i64 i7 /\ ∀(w8:World),w8=w6.drew->ifB (decide (i4<0)) (w8=w8 /\ R (.tuple #[.int .i64 0,.bool false]) w8) (someA x0 fun a9=>∃p10:Option Addr,w8.cell? (a9.add 1)=some (.pointer p10) /\ someA x0 fun a11=>∃(p12:Option Addr)(n13 n14:Nat),w8.cell? (a11.add 2)=some (.slice p12 n13 n14) /\ CS 167 #[.pointer p10,.slice p12 n13 n14] w8 fun v15 w16=>∃i17:Int,v15=.int .i64 i17 /\ w16=w16 /\ ifB (decide (i17<i7)) (R (.tuple #[.int .i64 0,.bool false]) w16) (someA x0 fun a18=>0<=x1 /\ x1<(↑(24:Nat):Int) /\ ∃p19:Option Addr,w16.cell? ((a18.add 4).add x1.toNat)=some (.pointer p19) /\ CS 220 #[.pointer p19,.int .i64 i4] w16 fun v20 w21=>∃i22:Int,v20=.int .i64 i22 /\ ∃x23:Nat->Int->World->Prop,(∃n24:Nat,x23 n24 0 w21) /\ ∀(n25:Nat)(jv:Nat->Value)(i26:Int)(w27:World),x23 n25 i26 w27->ifB (decide (i26<i7)) (∀(w28:World),w28=w27.drew->someA x0 fun a29=>∃p30:Option Addr,w28.cell? (a29.add 1)=some (.pointer p30) /\ someA x0 fun a31=>∃(p32:Option Addr)(n33 n34:Nat),w28.cell? (a31.add 2)=some (.slice p32 n33 n34) /\ CS 168 #[.pointer p30,.slice p32 n33 n34] w28 fun v35 w36=>∃i37 i38:Int,v35=.tuple #[.int .i64 i37,.int .i64 i38] /\ ∀(w39:World),w39=w36.drew->someA x0 fun a40=>∃p41:Option Addr,w39.cell? (a40.add 3)=some (.pointer p41) /\ CS 208 #[.int .i64 x1,.int .i64 i4] w39 fun v42 w43=>∃i44:Int,v42=.int .i64 i44 /\ (∃p45:Option Addr,w43.cell? (a40.add 3)=some (.pointer p45) /\ Value.pointer p45=.pointer p41) /\ CS 249 #[.pointer p41,.int .i64 (IntKind.i64.wrap (i44+i26)),.int .i64 i37] w43 fun v46 w47=>∃i48:Int,v46=.int .i64 i48 /\ ∃n49:Nat,n49<n25 /\ x23 n49 (IntKind.i64.wrap (i26+1)) w47) (R (.tuple #[.int .i64 i4,.bool true]) w27)))
theorem vc197.ok{x0:Option Addr}{x1:Int}(h:vc197 x0 x1 w R ):Calls prog 228 #[.pointer x0,.int .i64 x1] w (Ret R):=
 bodyE va197 Tryz.func228 (h:=h)
def vc198(x0 x1 x2:Int)(w:World)(R:VW):Prop:=
 ifB (decide (x1<0)) (R (.tuple #[.int .i64 0,.int .i64 12]) w) (CS 216 #[.int .i64 x0] w fun v0 w1=>∃i2:Int,v0=.int .i64 i2 /\ ifB (decide (x1>=i2)) (R (.tuple #[.int .i64 0,.int .i64 12]) w1) (ifB (decide (x2<0)) (R (.tuple #[.int .i64 0,.int .i64 12]) w1) (CS 213 #[.int .i64 x0] w1 fun v3 w4=>∃i5:Int,v3=.int .i64 i5 /\ ∃(i6:Int)(w7:World),Sem.run prog (Builtin.max_ #[3,3] 3 #[.int .i64 1,.int .i64 i5]) w4=.ok (.int .i64 i6) w7 /\ ifB (decide (x2>=i6)) (R (.tuple #[.int .i64 0,.int .i64 12]) w7) (CS 245 #[.int .i64 x0] w7 fun v8 w9=>∃i10:Int,v8=.int .i64 i10 /\ CS 152 #[.int .i64 x0] w9 fun v11 w12=>∃i13:Int,v11=.int .i64 i13 /\ R (.tuple #[.int .i64 (IntKind.i64.wrap (IntKind.i64.wrap (IntKind.i64.wrap (131072*IntKind.i64.wrap (x0+1))+IntKind.i64.wrap (x1*i10))+IntKind.i64.wrap (x2*i13))),.int .i64 0]) w12))))
theorem vc198.ok{x0 x1 x2:Int}(h:vc198 x0 x1 x2 w R ):Calls prog 229 #[.int .i64 x0,.int .i64 x1,.int .i64 x2] w (Ret R):=
 bodyE zN Tryz.func229 (h:=h)
def vc199(x0:Option Addr)(w:World)(R:VW):Prop:=
 ifB x0.isNone (R (.int .i64 (-1)) w) (someA x0 fun a0=>∃i1:Int,w.cell? (a0.add 1)=some (.int .i64 i1) /\ R (.int .i64 i1) w)
theorem vc199.ok{x0:Option Addr}(h:vc199 x0 w R ):Calls prog 230 #[.pointer x0] w (Ret R):=
 bodyE zN Tryz.func230 (h:=h)
def vc200(x0:Option Addr)(x1:Int)(w:World)(R:VW):Prop:=
 ifB x0.isNone (R (.int .i64 11) w) (CS 254 #[.pointer x0,.int .i64 x1] w fun v0 w1=>∃b2:Bool,v0=.bool b2 /\ ifB (!b2) (R (.int .i64 13) w1) (someA x0 fun a3=>∃p4:Option Nat,w1.cell? (a3.add 0)=some (.map p4) /\ ∃(i5 i6:Int)(w7:World),Sem.run prog (Instr.lookup 291 (.map p4) (.int .i64 x1) false) w1=.ok (.agg #[.int .i64 i5,.int .i64 i6]) w7 /\ ∀(n8:Nat)(w9:World),n8=w7.heap.size->w9=w7.alloc (.cells #[.int .i64 0,.int .i64 0] 299)->WrC w9 (zA n8) 2 /\ ∀(w10:World),w10=wr w9 (zA n8) [.int .i64 i5,.int .i64 i6]->someA x0 fun a11=>∃p12:Option Nat,w10.cell? (a11.add 0)=some (.map p12) /\ ∃w13:World,Sem.run prog (Builtin.delete_ #[291,3] 0 #[.map p12,.int .i64 x1]) w10=.ok (.tuple #[]) w13 /\ ∃i14:Int,w13.cell? ((zA n8).add 0)=some (.int .i64 i14) /\ ∃i15:Int,w13.cell? ((zA n8).add 1)=some (.int .i64 i15) /\ CS 255 #[.pointer x0,.int .i64 i14,.int .i64 i15] w13 fun v16 w17=>v16=.tuple #[] /\ R (.int .i64 0) w17))
theorem vc200.ok{x0:Option Addr}{x1:Int}(h:vc200 x0 x1 w R ):Calls prog 233 #[.pointer x0,.int .i64 x1] w (Ret R):=
 bodyE zN Tryz.func233 (h:=h)
def vc201(x0:Option Addr)(x1:Int)(w:World)(R:VW):Prop:=
 ifB x0.isNone (R (.int .i64 11) w) (ifB (decide (x1<0)) (R (.int .i64 12) w) (CS 254 #[.pointer x0,.int .i64 x1] w fun v0 w1=>∃b2:Bool,v0=.bool b2 /\ ifB b2 (R (.int .i64 7) w1) (someA x0 fun a3=>∃i4:Int,w1.cell? (a3.add 2)=some (.int .i64 i4) /\ someA x0 fun a5=>∃p6:Option Nat,w1.cell? (a5.add 0)=some (.map p6) /\ ∃w7:World,Sem.run prog (Instr.mapUpdate 291 (.map p6) (.int .i64 x1) (.agg #[.int .i64 (-1),.int .i64 (-1)])) w1=.ok () w7 /\ CS 255 #[.pointer x0,.int .i64 i4,.int .i64 x1] w7 fun v8 w9=>v8=.tuple #[] /\ CS 255 #[.pointer x0,.int .i64 x1,.int .i64 (-1)] w9 fun v10 w11=>v10=.tuple #[] /\ R (.int .i64 0) w11)))
theorem vc201.ok{x0:Option Addr}{x1:Int}(h:vc201 x0 x1 w R ):Calls prog 235 #[.pointer x0,.int .i64 x1] w (Ret R):=
 bodyE zN Tryz.func235 (h:=h)
def va202:Ann:=⟨fun id=>cond (Nat.beq id 1) ⟨[(9,.int .i64 0)],([6]++rg 10 10)⟩ (LI.none),fun l=>none,fun i=>none⟩
def vc202(x0:Option Addr)(x1 x2:Int)(w:World)(R:VW):Prop:=
 CS 211 #[.int .i64 x1] w fun v0 w1=>∃i2:Int,v0=.int .i64 i2 /\ ∃x3:Nat->Int->World->Prop,(∃n4:Nat,x3 n4 0 w1) /\ ∀(n5:Nat)(jv:Nat->Value)(i6:Int)(w7:World),x3 n5 i6 w7->ifB (decide (i6<i2)) (CS 208 #[.int .i64 x1,.int .i64 x2] w7 fun v8 w9=>∃i10:Int,v8=.int .i64 i10 /\ CS 178 #[.pointer x0,.int .i64 (IntKind.i64.wrap (i10+i6))] w9 fun v11 w12=>v11=.tuple #[] /\ ∃n13:Nat,n13<n5 /\ x3 n13 (IntKind.i64.wrap (i6+1)) w12) (someA x0 fun a14=>0<=x1 /\ x1<(↑(24:Nat):Int) /\ ∃p15:Option Addr,w7.cell? ((a14.add 4).add x1.toNat)=some (.pointer p15) /\ CS 122 #[.pointer p15,.int .i64 x2] w7 fun v16 w17=>∃i18:Int,v16=.int .i64 i18 /\ R (.tuple #[]) w17)
theorem vc202.ok{x0:Option Addr}{x1 x2:Int}(h:vc202 x0 x1 x2 w R ):Calls prog 236 #[.pointer x0,.int .i64 x1,.int .i64 x2] w (Ret R):=
 bodyE va202 Tryz.func236 (h:=h)
def vc203(x0:Int)(w:World)(R:VW):Prop:=
 ∀(n0:Nat)(w1:World),n0=w.heap.size->w1=w.alloc (.cells #[.int .i64 0,.int .i64 0,.int .i64 0,.int .i64 0] 283)->(0:Int)<=4 /\ (0:Int)<=7 /\ (0:Int)<=20 /\ ∀(n2:Nat)(w3:World),n2=w1.heap.size->w3=w1.alloc (.cells #[.int .i64 0,.int .i64 0,.int .i64 0,.int .i64 0] 283)->WrC w3 (zA n2) 4 /\ ∀(w4:World),w4=wr w3 (zA n2) [.int .i64 (IntKind.i64.wrap (bits BinOp.and IntKind.u64 x0 15)),.int .i64 (IntKind.i64.wrap (bits BinOp.and IntKind.u64 (shrV IntKind.u64 x0 7) 8191)),.int .i64 (IntKind.i64.wrap (bits BinOp.and IntKind.u64 (shrV IntKind.u64 x0 4) 7)),.int .i64 (IntKind.i64.wrap (shrV IntKind.u64 x0 20))]->∃i5 i6 i7 i8:Int,CellsAt w4 (zA n2) [.int .i64 i5,.int .i64 i6,.int .i64 i7,.int .i64 i8] /\ CS 261 #[.agg #[.int .i64 i5,.int .i64 i6,.int .i64 i7,.int .i64 i8]] w4 fun v9 w10=>∃i11:Int,v9=.int .i64 i11 /\ ifB (i11 != 0) (WrC w10 (zA n0) 4 /\ ∀(w12:World),w12=wr w10 (zA n0) [.int .i64 0,.int .i64 0,.int .i64 0,.int .i64 0]->∃i13 i14 i15 i16:Int,CellsAt w12 (zA n0) [.int .i64 i13,.int .i64 i14,.int .i64 i15,.int .i64 i16] /\ R (.tuple #[.agg #[.int .i64 i13,.int .i64 i14,.int .i64 i15,.int .i64 i16],.int .i64 5]) w12) (∃i17 i18 i19 i20:Int,CellsAt w10 (zA n2) [.int .i64 i17,.int .i64 i18,.int .i64 i19,.int .i64 i20] /\ WrC w10 (zA n0) 4 /\ ∀(w21:World),w21=wr w10 (zA n0) [.int .i64 i17,.int .i64 i18,.int .i64 i19,.int .i64 i20]->∃i22 i23 i24 i25:Int,CellsAt w21 (zA n0) [.int .i64 i22,.int .i64 i23,.int .i64 i24,.int .i64 i25] /\ R (.tuple #[.agg #[.int .i64 i22,.int .i64 i23,.int .i64 i24,.int .i64 i25],.int .i64 0]) w21)
theorem vc203.ok{x0:Int}(h:vc203 x0 w R ):Calls prog 242 #[.int .u64 x0] w (Ret R):=
 bodyE zN Tryz.func242 (h:=h)
def vc204(x0_0 x0_1 x0_2 x0_3:Int)(w:World)(R:VW):Prop:=
 ∀(n0:Nat)(w1:World),n0=w.heap.size->w1=w.alloc (.cells #[.int .i64 x0_0,.int .i64 x0_1,.int .i64 x0_2,.int .i64 x0_3] 283)->∃i2 i3 i4 i5:Int,CellsAt w1 (zA n0) [.int .i64 i2,.int .i64 i3,.int .i64 i4,.int .i64 i5] /\ CS 261 #[.agg #[.int .i64 i2,.int .i64 i3,.int .i64 i4,.int .i64 i5]] w1 fun v6 w7=>∃i8:Int,v6=.int .i64 i8 /\ ifB (i8 != 0) (R (.tuple #[.int .u64 0,.int .i64 i8]) w7) (∃i9:Int,w7.cell? ((zA n0).add 0)=some (.int .i64 i9) /\ ∃i10:Int,w7.cell? ((zA n0).add 2)=some (.int .i64 i10) /\ (0:Int)<=4 /\ ∃i11:Int,w7.cell? ((zA n0).add 1)=some (.int .i64 i11) /\ (0:Int)<=7 /\ ∃i12:Int,w7.cell? ((zA n0).add 3)=some (.int .i64 i12) /\ (0:Int)<=20 /\ R (.tuple #[.int .u64 (bits BinOp.or IntKind.u64 (bits BinOp.or IntKind.u64 (bits BinOp.or IntKind.u64 (IntKind.u64.wrap i9) (shlV IntKind.u64 (IntKind.u64.wrap i10) 4)) (shlV IntKind.u64 (IntKind.u64.wrap i11) 7)) (shlV IntKind.u64 (IntKind.u64.wrap i12) 20)),.int .i64 0]) w7)
theorem vc204.ok{x0_0 x0_1 x0_2 x0_3:Int}(h:vc204 x0_0 x0_1 x0_2 x0_3 w R ):Calls prog 243 #[.agg #[.int .i64 x0_0,.int .i64 x0_1,.int .i64 x0_2,.int .i64 x0_3]] w (Ret R):=
 bodyE zN Tryz.func243 (h:=h)
def vc205(x0:Int)(w:World)(R:VW):Prop:=
 CS 211 #[.int .i64 x0] w fun v0 w1=>∃i2:Int,v0=.int .i64 i2 /\ R (.int .i64 (IntKind.i64.wrap (i2*512))) w1
theorem vc205.ok{x0:Int}(h:vc205 x0 w R ):Calls prog 245 #[.int .i64 x0] w (Ret R):=
 bodyE zN Tryz.func245 (h:=h)
def vc207(x0:Option Addr)(x1:Int)(w:World)(R:VW):Prop:=
 ifB x0.isNone (R (.bool false) w) (someA x0 fun a0=>∃p1:Option Nat,w.cell? (a0.add 0)=some (.map p1) /\ ∃(i2 i3:Int)(b4:Bool)(w5:World),Sem.run prog (Instr.lookup 291 (.map p1) (.int .i64 x1) true) w=.ok (.tuple #[.agg #[.int .i64 i2,.int .i64 i3],.bool b4]) w5 /\ ∀(n6:Nat)(w7:World),n6=w5.heap.size->w7=w5.alloc (.cells #[.int .i64 0,.int .i64 0] 299)->WrC w7 (zA n6) 2 /\ ∀(w8:World),w8=wr w7 (zA n6) [.int .i64 i2,.int .i64 i3]->R (.bool b4) w8)
theorem vc207.ok{x0:Option Addr}{x1:Int}(h:vc207 x0 x1 w R ):Calls prog 254 #[.pointer x0,.int .i64 x1] w (Ret R):=
 bodyE zN Tryz.func254 (h:=h)
def vc208(x0:Option Addr)(x1 x2:Int)(w:World)(R:VW):Prop:=
 ifB (x1 == (-1)) (someA x0 fun a0=>WrC w (a0.add 1) 1 /\ ∀(w1:World),w1=wr w (a0.add 1) [.int .i64 x2]->ifB (x2 == (-1)) (someA x0 fun a2=>WrC w1 (a2.add 2) 1 /\ ∀(w3:World),w3=wr w1 (a2.add 2) [.int .i64 x1]->R (.tuple #[]) w3) (∀(w4:World),w4=w1.drew->someA x0 fun a5=>∃p6:Option Nat,w4.cell? (a5.add 0)=some (.map p6) /\ someA x0 fun a7=>∃p8:Option Nat,w4.cell? (a7.add 0)=some (.map p8) /\ ∃(i9 i10:Int)(w11:World),Sem.run prog (Instr.lookup 291 (.map p8) (.int .i64 x2) false) w4=.ok (.agg #[.int .i64 i9,.int .i64 i10]) w11 /\ w11=w4 /\ w4=w4 /\ w4=w4 /\ ∃w12:World,Sem.run prog (Instr.mapUpdate 291 (.map p6) (.int .i64 x2) (.agg #[.int .i64 x1,.int .i64 i10])) w4=.ok () w12 /\ R (.tuple #[]) w12)) (∀(w13:World),w13=w.drew->someA x0 fun a14=>∃p15:Option Nat,w13.cell? (a14.add 0)=some (.map p15) /\ someA x0 fun a16=>∃p17:Option Nat,w13.cell? (a16.add 0)=some (.map p17) /\ ∃(i18 i19:Int)(w20:World),Sem.run prog (Instr.lookup 291 (.map p17) (.int .i64 x1) false) w13=.ok (.agg #[.int .i64 i18,.int .i64 i19]) w20 /\ w20=w13 /\ w13=w13 /\ w13=w13 /\ ∃w21:World,Sem.run prog (Instr.mapUpdate 291 (.map p15) (.int .i64 x1) (.agg #[.int .i64 i18,.int .i64 x2])) w13=.ok () w21 /\ ifB (x2 == (-1)) (someA x0 fun a22=>WrC w21 (a22.add 2) 1 /\ ∀(w23:World),w23=wr w21 (a22.add 2) [.int .i64 x1]->R (.tuple #[]) w23) (∀(w24:World),w24=w21.drew->someA x0 fun a25=>∃p26:Option Nat,w24.cell? (a25.add 0)=some (.map p26) /\ someA x0 fun a27=>∃p28:Option Nat,w24.cell? (a27.add 0)=some (.map p28) /\ ∃(i29 i30:Int)(w31:World),Sem.run prog (Instr.lookup 291 (.map p28) (.int .i64 x2) false) w24=.ok (.agg #[.int .i64 i29,.int .i64 i30]) w31 /\ w31=w24 /\ w24=w24 /\ w24=w24 /\ ∃w32:World,Sem.run prog (Instr.mapUpdate 291 (.map p26) (.int .i64 x2) (.agg #[.int .i64 x1,.int .i64 i30])) w24=.ok () w32 /\ R (.tuple #[]) w32))
theorem vc208.ok{x0:Option Addr}{x1 x2:Int}(h:vc208 x0 x1 x2 w R ):Calls prog 255 #[.pointer x0,.int .i64 x1,.int .i64 x2] w (Ret R):=
 bodyE zN Tryz.func255 (h:=h)
def vc209(x0_0 x0_1 x0_2 x0_3:Int)(w:World)(R:VW):Prop:=
 ∀(n0:Nat)(w1:World),n0=w.heap.size->w1=w.alloc (.cells #[.int .i64 x0_0,.int .i64 x0_1,.int .i64 x0_2,.int .i64 x0_3] 283)->∃i2:Int,w1.cell? ((zA n0).add 0)=some (.int .i64 i2) /\ CS 268 #[.int .i64 i2,.int .i64 0,.int .i64 7] w1 fun v3 w4=>∃b5:Bool,v3=.bool b5 /\ ifB (!b5) (R (.int .i64 12) w4) (∃i6:Int,w4.cell? ((zA n0).add 1)=some (.int .i64 i6) /\ CS 268 #[.int .i64 i6,.int .i64 0,.int .i64 4159] w4 fun v7 w8=>∃b9:Bool,v7=.bool b9 /\ ifB (!b9) (R (.int .i64 12) w8) (∃i10:Int,w8.cell? ((zA n0).add 2)=some (.int .i64 i10) /\ CS 268 #[.int .i64 i10,.int .i64 1,.int .i64 7] w8 fun v11 w12=>∃b13:Bool,v11=.bool b13 /\ ifB b13 (∃i14:Int,w12.cell? ((zA n0).add 3)=some (.int .i64 i14) /\ CS 268 #[.int .i64 i14,.int .i64 1,.int .i64 17592186044415] w12 fun v15 w16=>∃b17:Bool,v15=.bool b17 /\ ifB b17 (R (.int .i64 0) w16) (R (.int .i64 12) w16)) (R (.int .i64 12) w12)))
theorem vc209.ok{x0_0 x0_1 x0_2 x0_3:Int}(h:vc209 x0_0 x0_1 x0_2 x0_3 w R ):Calls prog 261 #[.agg #[.int .i64 x0_0,.int .i64 x0_1,.int .i64 x0_2,.int .i64 x0_3]] w (Ret R):=
 bodyE zN Tryz.func261 (h:=h)
def vc210(x0 x1 x2:Int)(w:World)(R:VW):Prop:=
 ifB (decide (x0>=x1)) (R (.bool (decide (x0<=x2))) w) (R (.bool false) w)
theorem vc210.ok{x0 x1 x2:Int}(h:vc210 x0 x1 x2 w R ):Calls prog 268 #[.int .i64 x0,.int .i64 x1,.int .i64 x2] w (Ret R):=
 bodyE zN Tryz.func268 (h:=h)
end
set_option maxRecDepth 100000
section
variable{w:World}{R:Value->World->Prop}
def va211:Ann:=⟨fun id=>LI.none,fun l=>none,fun i=>cond (Nat.beq i 7) (some ⟨[],([4]++rg 19 11)⟩) (cond (Nat.beq i 12) (some ⟨[(33,.bool false)],[34,35,36,37]⟩) (cond (Nat.beq i 16) (some ⟨[(46,.bool false)],[47,48,49]⟩) (cond (Nat.beq i 20) (some ⟨[],(rg 30 34)⟩) (none))))⟩
def vc211(x0:Option Addr)(w:World)(R:VW):Prop:=
 ∀(n0:Nat)(w1:World),n0=w.heap.size->w1=w.alloc (.cells #[.int .i64 0,.int .i64 0,.int .i64 0,.int .i64 0,.int .u64 0,.string (.mk #[]),.int .i64 0] 62)->someA x0 fun a2=>∃s3:ByteArray,w1.cell? (a2.add 0)=some (.string s3) /\ ifB (decide (s3=ByteArray.mk #[])) (WrC w1 (zA n0) 7 /\ ∀(w4:World),w4=wr w1 (zA n0) [.int .i64 0,.int .i64 0,.int .i64 0,.int .i64 0,.int .u64 0,.string (.mk #[]),.int .i64 0]->∃(i5 i6 i7 i8 i9:Int)(s10:ByteArray)(i11:Int),CellsAt w4 (zA n0) [.int .i64 i5,.int .i64 i6,.int .i64 i7,.int .i64 i8,.int .u64 i9,.string s10,.int .i64 i11] /\ R (.tuple #[.agg #[.int .i64 i5,.int .i64 i6,.int .i64 i7,.int .i64 i8,.int .u64 i9,.string s10,.int .i64 i11],.bool false]) w4) (CS 102 #[.pointer x0] w1 fun v12 w13=>∃i14:Int,v12=.int .i64 i14 /\ (16:Int) ≠ 0 /\ WrC w13 (((zA n0).add 0).add 0) 1 /\ ∀(w15:World),w15=wr w13 (((zA n0).add 0).add 0) [.int .i64 (i14.tmod 16)]->CS 102 #[.pointer x0] w15 fun v16 w17=>∃i18:Int,v16=.int .i64 i18 /\ WrC w17 (((zA n0).add 0).add 1) 1 /\ ∀(w19:World),w19=wr w17 (((zA n0).add 0).add 1) [.int .i64 i18]->∃x20:World->Prop,(∃i21:Int,w19.cell? (((zA n0).add 0).add 0)=some (.int .i64 i21) /\ ifB (decide (i21>=6)) (ifB (decide (i21<=11)) (CS 103 #[.pointer x0,zP n0] w19 fun v22 w23=>v22=.tuple #[] /\ x20 w23) (x20 w19)) (x20 w19)) /\ ∀(jv:Nat->Value)(w24:World),x20 w24->∃x25:World->Prop,(∃i26:Int,w24.cell? (((zA n0).add 0).add 0)=some (.int .i64 i26) /\ ∃x27:Bool->World->Prop,ifB (i26 == 1) (x27 (i26 == 1) w24) (ifB (i26 == 2) (x27 (i26 == 2) w24) (ifB (i26 == 5) (x27 (i26 == 5) w24) (x27 (i26 == 9) w24))) /\ ∀(jv:Nat->Value)(b28:Bool)(w29:World),x27 b28 w29->ifB b28 (CS 104 #[.pointer x0] w29 fun v30 w31=>∃i32:Int,v30=.int .i64 i32 /\ CS 104 #[.pointer x0] w31 fun v33 w34=>∃i35:Int,v33=.int .i64 i35 /\ WrC w34 (((zA n0).add 0).add 2) 1 /\ ∀(w36:World),w36=wr w34 (((zA n0).add 0).add 2) [.int .i64 i32]->WrC w36 (((zA n0).add 0).add 3) 1 /\ ∀(w37:World),w37=wr w36 (((zA n0).add 0).add 3) [.int .i64 i35]->x25 w37) (∃x38:Bool->World->Prop,ifB (i26 == 4) (x38 (i26 == 4) w29) (ifB (i26 == 7) (x38 (i26 == 7) w29) (x38 (i26 == 11) w29)) /\ ∀(jv:Nat->Value)(b39:Bool)(w40:World),x38 b39 w40->ifB b39 (CS 104 #[.pointer x0] w40 fun v41 w42=>∃i43:Int,v41=.int .i64 i43 /\ WrC w42 (((zA n0).add 0).add 2) 1 /\ ∀(w44:World),w44=wr w42 (((zA n0).add 0).add 2) [.int .i64 i43]->x25 w44) (ifB (i26 == 10) (CS 104 #[.pointer x0] w40 fun v45 w46=>∃i47:Int,v45=.int .i64 i47 /\ WrC w46 (((zA n0).add 0).add 2) 1 /\ ∀(w48:World),w48=wr w46 (((zA n0).add 0).add 2) [.int .i64 i47]->CS 105 #[.pointer x0] w48 fun v49 w50=>∃s51:ByteArray,v49=.string s51 /\ WrC w50 (((zA n0).add 0).add 5) 1 /\ ∀(w52:World),w52=wr w50 (((zA n0).add 0).add 5) [.string s51]->x25 w52) (x25 w40)))) /\ ∀(jv:Nat->Value)(w53:World),x25 w53->someA x0 fun a54=>∃b55:Bool,w53.cell? (a54.add 1)=some (.bool b55) /\ ifB (!b55) (∃(i56 i57 i58 i59 i60:Int)(s61:ByteArray)(i62:Int),CellsAt w53 (zA n0) [.int .i64 i56,.int .i64 i57,.int .i64 i58,.int .i64 i59,.int .u64 i60,.string s61,.int .i64 i62] /\ WrC w53 (zA n0) 7 /\ ∀(w63:World),w63=wr w53 (zA n0) [.int .i64 i56,.int .i64 i57,.int .i64 i58,.int .i64 i59,.int .u64 i60,.string s61,.int .i64 i62]->∃(i64 i65 i66 i67 i68:Int)(s69:ByteArray)(i70:Int),CellsAt w63 (zA n0) [.int .i64 i64,.int .i64 i65,.int .i64 i66,.int .i64 i67,.int .u64 i68,.string s69,.int .i64 i70] /\ R (.tuple #[.agg #[.int .i64 i64,.int .i64 i65,.int .i64 i66,.int .i64 i67,.int .u64 i68,.string s69,.int .i64 i70],.bool true]) w63) (WrC w53 (zA n0) 7 /\ ∀(w71:World),w71=wr w53 (zA n0) [.int .i64 0,.int .i64 0,.int .i64 0,.int .i64 0,.int .u64 0,.string (.mk #[]),.int .i64 0]->∃(i72 i73 i74 i75 i76:Int)(s77:ByteArray)(i78:Int),CellsAt w71 (zA n0) [.int .i64 i72,.int .i64 i73,.int .i64 i74,.int .i64 i75,.int .u64 i76,.string s77,.int .i64 i78] /\ R (.tuple #[.agg #[.int .i64 i72,.int .i64 i73,.int .i64 i74,.int .i64 i75,.int .u64 i76,.string s77,.int .i64 i78],.bool false]) w71))
theorem vc211.ok{x0:Option Addr}(h:vc211 x0 w R ):Calls prog 62 #[.pointer x0] w (Ret R):=
 bodyE va211 Tryz.func62 (h:=h)
end
set_option maxRecDepth 100000
section
variable{w:World}{R:Value->World->Prop}
def vc212(x0:Option Addr)(w:World)(R:VW):Prop:=
 ifB x0.isNone (R (.complex FloatKind.f64 0 0) w) (someA x0 fun a0=>∃n1 n2:Nat,w.cell? (a0.add 0)=some (.complex FloatKind.f64 n1 n2) /\ R (.complex FloatKind.f64 n1 n2) w)
theorem vc212.ok{x0:Option Addr}(h:vc212 x0 w R ):Calls prog 96 #[.pointer x0] w (Ret R):=
 bodyE zN Tryz.func96 (h:=h)
def vc213(x0r x0i:Nat)(w:World)(R:VW):Prop:=
 CS 153 #[.complex FloatKind.f64 x0r x0i] w fun v0 w1=>∃b2:Bool,v0=.bool b2 /\ ifB (!b2) (R (.int .i64 0) w1) (∃(n3:Nat)(w4:World),Sem.run prog (Builtin.real_ #[162] 220 #[.complex FloatKind.f64 x0r x0i]) w1=.ok (.float FloatKind.f64 n3) w4 /\ ∃(i5:Int)(w6:World),Sem.run prog (convert 220 3 (.float FloatKind.f64 n3)) w4=.ok (.int .i64 i5) w6 /\ R (.int .i64 i5) w6)
theorem vc213.ok{x0r x0i:Nat}(h:vc213 x0r x0i w R ):Calls prog 97 #[.complex FloatKind.f64 x0r x0i] w (Ret R):=
 bodyE zN Tryz.func97 (h:=h)
def vc214(x0:Option Addr)(w:World)(R:VW):Prop:=
 ifB x0.isNone (R (.complex FloatKind.f64 0 0) w) (someA x0 fun a0=>∃n1 n2:Nat,w.cell? (a0.add 1)=some (.complex FloatKind.f64 n1 n2) /\ R (.complex FloatKind.f64 n1 n2) w)
theorem vc214.ok{x0:Option Addr}(h:vc214 x0 w R ):Calls prog 98 #[.pointer x0] w (Ret R):=
 bodyE zN Tryz.func98 (h:=h)
def va215:Ann:=⟨fun id=>cond (Nat.beq id 5) ⟨[(4,.complex .f64 0 0),(15,.int .i64 0)],([5]++rg 16 10)⟩ (LI.none),fun l=>none,fun i=>none⟩
def vc215(x0:Int)(w:World)(R:VW):Prop:=
 CS 157 #[.int .i64 x0] w fun v0 w1=>∃b2:Bool,v0=.bool b2 /\ ifB (!b2) (R (.tuple #[.complex FloatKind.f64 0 0,.int .i64 12]) w1) (CS 158 #[.int .i64 x0] w1 fun v3 w4=>∃i5:Int,v3=.int .i64 i5 /\ ∃(n6 n7:Nat)(w8:World),Sem.run prog (Builtin.complex_ #[220,220] 161 #[.float FloatKind.f64 (FloatKind.f64.nearest x0),.float FloatKind.f64 (FloatKind.f64.nearest i5)]) w4=.ok (.complex FloatKind.f64 n6 n7) w8 /\ ∃x9:Nat->Nat->Nat->Int->World->Prop,(∃n10:Nat,x9 n10 n6 n7 0 w8) /\ ∀(n11:Nat)(jv:Nat->Value)(n12 n13:Nat)(i14:Int)(w15:World),x9 n11 n12 n13 i14 w15->ifB (decide (i14<8)) (CS 159 #[.int .i64 i14,.int .i64 x0] w15 fun v16 w17=>∃i18:Int,v16=.int .i64 i18 /\ ∃(n19 n20:Nat)(w21:World),Sem.run prog (Builtin.complex_ #[220,220] 161 #[.float FloatKind.f64 0,.float FloatKind.f64 (FloatKind.f64.nearest i18)]) w17=.ok (.complex FloatKind.f64 n19 n20) w21 /\ ∃(n22 n23:Nat)(w24:World),Sem.run prog (binOp BinOp.add 161 (.complex FloatKind.f64 n12 n13) (.complex FloatKind.f64 n19 n20)) w21=.ok (.complex FloatKind.f64 n22 n23) w24 /\ ∃n25:Nat,n25<n11 /\ x9 n25 n22 n23 (IntKind.i64.wrap (i14+1)) w24) (R (.tuple #[.complex FloatKind.f64 n12 n13,.int .i64 0]) w15))
theorem vc215.ok{x0:Int}(h:vc215 x0 w R ):Calls prog 111 #[.int .i64 x0] w (Ret R):=
 bodyE va215 Tryz.func111 (h:=h)
def vc216(x0r x0i:Nat)(w:World)(R:VW):Prop:=
 CS 153 #[.complex FloatKind.f64 x0r x0i] w fun v0 w1=>∃b2:Bool,v0=.bool b2 /\ ifB (!b2) (R (.int .i64 0) w1) (∃(n3:Nat)(w4:World),Sem.run prog (Builtin.imag_ #[162] 220 #[.complex FloatKind.f64 x0r x0i]) w1=.ok (.float FloatKind.f64 n3) w4 /\ ∃(i5:Int)(w6:World),Sem.run prog (convert 220 3 (.float FloatKind.f64 n3)) w4=.ok (.int .i64 i5) w6 /\ R (.int .i64 i5) w6)
theorem vc216.ok{x0r x0i:Nat}(h:vc216 x0r x0i w R ):Calls prog 112 #[.complex FloatKind.f64 x0r x0i] w (Ret R):=
 bodyE zN Tryz.func112 (h:=h)
def vc217(x0r x0i:Nat)(w:World)(R:VW):Prop:=
 CS 153 #[.complex FloatKind.f64 x0r x0i] w fun v0 w1=>∃b2:Bool,v0=.bool b2 /\ ifB (!b2) (R (.tuple #[.pointer none,.int .i64 12]) w1) (∀(n3:Nat)(w4:World),n3=w1.heap.size->w4=w1.alloc (.cells #[.complex FloatKind.f64 x0r x0i,.complex FloatKind.f64 0 0,.complex FloatKind.f64 0 0] 219)->R (.tuple #[zP n3,.int .i64 0]) w4)
theorem vc217.ok{x0r x0i:Nat}(h:vc217 x0r x0i w R ):Calls prog 117 #[.complex FloatKind.f64 x0r x0i] w (Ret R):=
 bodyE zN Tryz.func117 (h:=h)
def vc218(x0 x1:Int)(w:World)(R:VW):Prop:=
 ∃(n0 n1:Nat)(w2:World),Sem.run prog (Builtin.complex_ #[220,220] 161 #[.float FloatKind.f64 (FloatKind.f64.nearest x0),.float FloatKind.f64 (FloatKind.f64.nearest x1)]) w=.ok (.complex FloatKind.f64 n0 n1) w2 /\ R (.complex FloatKind.f64 n0 n1) w2
theorem vc218.ok{x0 x1:Int}(h:vc218 x0 x1 w R ):Calls prog 118 #[.int .i64 x0,.int .i64 x1] w (Ret R):=
 bodyE zN Tryz.func118 (h:=h)
def vc219(x0:Option Addr)(x1r x1i:Nat)(w:World)(R:VW):Prop:=
 CS 174 #[.pointer x0,.complex FloatKind.f64 x1r x1i] w fun v0 w1=>∃i2:Int,v0=.int .i64 i2 /\ ifB (i2 != 0) (R (.int .i64 i2) w1) (∀(w3:World),w3=w1.drew->someA x0 fun a4=>∃n5 n6:Nat,w3.cell? (a4.add 1)=some (.complex FloatKind.f64 n5 n6) /\ someA x0 fun a7=>∃n8 n9:Nat,w3.cell? (a7.add 2)=some (.complex FloatKind.f64 n8 n9) /\ ∃(n10 n11:Nat)(w12:World),Sem.run prog (binOp BinOp.add 162 (.complex FloatKind.f64 n5 n6) (.complex FloatKind.f64 n8 n9)) w3=.ok (.complex FloatKind.f64 n10 n11) w12 /\ w12=w3 /\ CS 175 #[.complex FloatKind.f64 n10 n11,.complex FloatKind.f64 x1r x1i] w3 fun v13 w14=>∃b15:Bool,v13=.bool b15 /\ ifB (!b15) (R (.int .i64 3) w14) (someA x0 fun a16=>WrC w14 (a16.add 0) 1 /\ ∀(w17:World),w17=wr w14 (a16.add 0) [.complex FloatKind.f64 x1r x1i]->R (.int .i64 0) w17))
theorem vc219.ok{x0:Option Addr}{x1r x1i:Nat}(h:vc219 x0 x1r x1i w R ):Calls prog 121 #[.pointer x0,.complex FloatKind.f64 x1r x1i] w (Ret R):=
 bodyE zN Tryz.func121 (h:=h)
def vc220(x0:Option Addr)(x1r x1i:Nat)(w:World)(R:VW):Prop:=
 CS 174 #[.pointer x0,.complex FloatKind.f64 x1r x1i] w fun v0 w1=>∃i2:Int,v0=.int .i64 i2 /\ ifB (i2 != 0) (R (.int .i64 i2) w1) (someA x0 fun a3=>CS 179 #[.pointer x0,.complex FloatKind.f64 x1r x1i,.pointer (some (a3.add 1)),.pointer none] w1 fun v4 w5=>∃i6:Int,v4=.int .i64 i6 /\ R (.int .i64 i6) w5)
theorem vc220.ok{x0:Option Addr}{x1r x1i:Nat}(h:vc220 x0 x1r x1i w R ):Calls prog 125 #[.pointer x0,.complex FloatKind.f64 x1r x1i] w (Ret R):=
 bodyE zN Tryz.func125 (h:=h)
def vc221(x0r x0i:Nat)(w:World)(R:VW):Prop:=
 ∃(n0:Nat)(w1:World),Sem.run prog (Builtin.real_ #[162] 220 #[.complex FloatKind.f64 x0r x0i]) w=.ok (.float FloatKind.f64 n0) w1 /\ CS 212 #[.float FloatKind.f64 n0] w1 fun v2 w3=>∃b4:Bool,v2=.bool b4 /\ ifB b4 (∃(n5:Nat)(w6:World),Sem.run prog (Builtin.imag_ #[162] 220 #[.complex FloatKind.f64 x0r x0i]) w3=.ok (.float FloatKind.f64 n5) w6 /\ CS 212 #[.float FloatKind.f64 n5] w6 fun v7 w8=>∃b9:Bool,v7=.bool b9 /\ R (.bool b9) w8) (R (.bool false) w3)
theorem vc221.ok{x0r x0i:Nat}(h:vc221 x0r x0i w R ):Calls prog 153 #[.complex FloatKind.f64 x0r x0i] w (Ret R):=
 bodyE zN Tryz.func153 (h:=h)
def vc222(x0:Option Addr)(x1r x1i:Nat)(w:World)(R:VW):Prop:=
 ifB x0.isNone (R (.int .i64 11) w) (CS 153 #[.complex FloatKind.f64 x1r x1i] w fun v0 w1=>∃b2:Bool,v0=.bool b2 /\ ifB (!b2) (R (.int .i64 12) w1) (R (.int .i64 0) w1))
theorem vc222.ok{x0:Option Addr}{x1r x1i:Nat}(h:vc222 x0 x1r x1i w R ):Calls prog 174 #[.pointer x0,.complex FloatKind.f64 x1r x1i] w (Ret R):=
 bodyE zN Tryz.func174 (h:=h)
def vc223(x0r x0i x1r x1i:Nat)(w:World)(R:VW):Prop:=
 CS 153 #[.complex FloatKind.f64 x0r x0i] w fun v0 w1=>∃b2:Bool,v0=.bool b2 /\ ifB b2 (CS 153 #[.complex FloatKind.f64 x1r x1i] w1 fun v3 w4=>∃b5:Bool,v3=.bool b5 /\ ifB b5 (∃(n6:Nat)(w7:World),Sem.run prog (Builtin.real_ #[162] 220 #[.complex FloatKind.f64 x0r x0i]) w4=.ok (.float FloatKind.f64 n6) w7 /\ ∃(n8:Nat)(w9:World),Sem.run prog (Builtin.real_ #[162] 220 #[.complex FloatKind.f64 x1r x1i]) w7=.ok (.float FloatKind.f64 n8) w9 /\ ∃(b10:Bool)(w11:World),Sem.run prog (binOp BinOp.leq 220 (.float FloatKind.f64 n6) (.float FloatKind.f64 n8)) w9=.ok (.bool b10) w11 /\ ifB b10 (∃(n12:Nat)(w13:World),Sem.run prog (Builtin.imag_ #[162] 220 #[.complex FloatKind.f64 x0r x0i]) w11=.ok (.float FloatKind.f64 n12) w13 /\ ∃(n14:Nat)(w15:World),Sem.run prog (Builtin.imag_ #[162] 220 #[.complex FloatKind.f64 x1r x1i]) w13=.ok (.float FloatKind.f64 n14) w15 /\ ∃(b16:Bool)(w17:World),Sem.run prog (binOp BinOp.leq 220 (.float FloatKind.f64 n12) (.float FloatKind.f64 n14)) w15=.ok (.bool b16) w17 /\ R (.bool b16) w17) (R (.bool false) w11)) (R (.bool false) w4)) (R (.bool false) w1)
theorem vc223.ok{x0r x0i x1r x1i:Nat}(h:vc223 x0r x0i x1r x1i w R ):Calls prog 175 #[.complex FloatKind.f64 x0r x0i,.complex FloatKind.f64 x1r x1i] w (Ret R):=
 bodyE zN Tryz.func175 (h:=h)
def vc224(x0:Option Addr)(x1r x1i:Nat)(x2 x3:Option Addr)(w:World)(R:VW):Prop:=
 someA x2 fun a0=>∃n1 n2:Nat,w.cell? a0=some (.complex FloatKind.f64 n1 n2) /\ CS 175 #[.complex FloatKind.f64 x1r x1i,.complex FloatKind.f64 n1 n2] w fun v3 w4=>∃b5:Bool,v3=.bool b5 /\ ifB (!b5) (R (.int .i64 12) w4) (someA x2 fun a6=>∃n7 n8:Nat,w4.cell? a6=some (.complex FloatKind.f64 n7 n8) /\ ∃(n9 n10:Nat)(w11:World),Sem.run prog (binOp BinOp.sub 162 (.complex FloatKind.f64 n7 n8) (.complex FloatKind.f64 x1r x1i)) w4=.ok (.complex FloatKind.f64 n9 n10) w11 /\ someA x2 fun a12=>WrC w11 a12 1 /\ ∀(w13:World),w13=wr w11 a12 [.complex FloatKind.f64 n9 n10]->ifB (!x3.isNone) (someA x3 fun a14=>∃n15 n16:Nat,w13.cell? a14=some (.complex FloatKind.f64 n15 n16) /\ ∃(n17 n18:Nat)(w19:World),Sem.run prog (binOp BinOp.add 162 (.complex FloatKind.f64 n15 n16) (.complex FloatKind.f64 x1r x1i)) w13=.ok (.complex FloatKind.f64 n17 n18) w19 /\ someA x3 fun a20=>WrC w19 a20 1 /\ ∀(w21:World),w21=wr w19 a20 [.complex FloatKind.f64 n17 n18]->R (.int .i64 0) w21) (R (.int .i64 0) w13))
theorem vc224.ok{x0:Option Addr}{x1r x1i:Nat}{x2 x3:Option Addr}(h:vc224 x0 x1r x1i x2 x3 w R ):Calls prog 179 #[.pointer x0,.complex FloatKind.f64 x1r x1i,.pointer x2,.pointer x3] w (Ret R):=
 bodyE zN Tryz.func179 (h:=h)
def vc225(x0:Option Addr)(x1r x1i:Nat)(w:World)(R:VW):Prop:=
 CS 174 #[.pointer x0,.complex FloatKind.f64 x1r x1i] w fun v0 w1=>∃i2:Int,v0=.int .i64 i2 /\ ifB (i2 != 0) (R (.int .i64 i2) w1) (∀(w3:World),w3=w1.drew->someA x0 fun a4=>∃n5 n6:Nat,w3.cell? (a4.add 1)=some (.complex FloatKind.f64 n5 n6) /\ someA x0 fun a7=>∃n8 n9:Nat,w3.cell? (a7.add 2)=some (.complex FloatKind.f64 n8 n9) /\ ∀(n10:Nat)(w11:World),n10=w3.heap.size->w11=w3.alloc (.cells #[.complex FloatKind.f64 n5 n6,.complex FloatKind.f64 n8 n9,.complex FloatKind.f64 x1r x1i] 162)->CS 227 #[.slice (some (zA n10)) 3 3] w11 fun v12 w13=>∃(n14 n15:Nat)(i16:Int),v12=.tuple #[.complex FloatKind.f64 n14 n15,.int .i64 i16] /\ ifB (i16 != 0) (R (.int .i64 3) w13) (someA x0 fun a17=>∃n18 n19:Nat,w13.cell? (a17.add 0)=some (.complex FloatKind.f64 n18 n19) /\ CS 175 #[.complex FloatKind.f64 n14 n15,.complex FloatKind.f64 n18 n19] w13 fun v20 w21=>∃b22:Bool,v20=.bool b22 /\ ifB (!b22) (R (.int .i64 3) w21) (someA x0 fun a23=>∃n24 n25:Nat,w21.cell? (a23.add 2)=some (.complex FloatKind.f64 n24 n25) /\ ∃(n26 n27:Nat)(w28:World),Sem.run prog (binOp BinOp.add 162 (.complex FloatKind.f64 n24 n25) (.complex FloatKind.f64 x1r x1i)) w21=.ok (.complex FloatKind.f64 n26 n27) w28 /\ someA x0 fun a29=>WrC w28 (a29.add 2) 1 /\ ∀(w30:World),w30=wr w28 (a29.add 2) [.complex FloatKind.f64 n26 n27]->R (.int .i64 0) w30)))
theorem vc225.ok{x0:Option Addr}{x1r x1i:Nat}(h:vc225 x0 x1r x1i w R ):Calls prog 181 #[.pointer x0,.complex FloatKind.f64 x1r x1i] w (Ret R):=
 bodyE zN Tryz.func181 (h:=h)
def vc226(x0:Option Addr)(x1r x1i:Nat)(w:World)(R:VW):Prop:=
 CS 174 #[.pointer x0,.complex FloatKind.f64 x1r x1i] w fun v0 w1=>∃i2:Int,v0=.int .i64 i2 /\ ifB (i2 != 0) (R (.int .i64 i2) w1) (someA x0 fun a3=>CS 179 #[.pointer x0,.complex FloatKind.f64 x1r x1i,.pointer (some (a3.add 2)),.pointer none] w1 fun v4 w5=>∃i6:Int,v4=.int .i64 i6 /\ R (.int .i64 i6) w5)
theorem vc226.ok{x0:Option Addr}{x1r x1i:Nat}(h:vc226 x0 x1r x1i w R ):Calls prog 182 #[.pointer x0,.complex FloatKind.f64 x1r x1i] w (Ret R):=
 bodyE zN Tryz.func182 (h:=h)
def vc227(x0:Option Addr)(x1r x1i:Nat)(w:World)(R:VW):Prop:=
 CS 174 #[.pointer x0,.complex FloatKind.f64 x1r x1i] w fun v0 w1=>∃i2:Int,v0=.int .i64 i2 /\ ifB (i2 != 0) (R (.int .i64 i2) w1) (∀(w3:World),w3=w1.drew->someA x0 fun a4=>someA x0 fun a5=>CS 179 #[.pointer x0,.complex FloatKind.f64 x1r x1i,.pointer (some (a4.add 2)),.pointer (some (a5.add 1))] w3 fun v6 w7=>∃i8:Int,v6=.int .i64 i8 /\ R (.int .i64 i8) w7)
theorem vc227.ok{x0:Option Addr}{x1r x1i:Nat}(h:vc227 x0 x1r x1i w R ):Calls prog 187 #[.pointer x0,.complex FloatKind.f64 x1r x1i] w (Ret R):=
 bodyE zN Tryz.func187 (h:=h)
def vc228(x0:Nat)(w:World)(R:VW):Prop:=
 ∃(b0:Bool)(w1:World),Sem.run prog (binOp BinOp.geq 220 (.float FloatKind.f64 x0) (.float FloatKind.f64 0)) w=.ok (.bool b0) w1 /\ ifB b0 (∃(b2:Bool)(w3:World),Sem.run prog (binOp BinOp.leq 220 (.float FloatKind.f64 x0) (.float FloatKind.f64 4787326403894837248)) w1=.ok (.bool b2) w3 /\ ifB b2 (∃(i4:Int)(w5:World),Sem.run prog (convert 220 2 (.float FloatKind.f64 x0)) w3=.ok (.int .i64 i4) w5 /\ ∃(b6:Bool)(w7:World),Sem.run prog (binOp BinOp.eql 220 (.float FloatKind.f64 x0) (.float FloatKind.f64 (FloatKind.f64.nearest i4))) w5=.ok (.bool b6) w7 /\ R (.bool b6) w7) (R (.bool false) w3)) (R (.bool false) w1)
theorem vc228.ok{x0:Nat}(h:vc228 x0 w R ):Calls prog 212 #[.float FloatKind.f64 x0] w (Ret R):=
 bodyE zN Tryz.func212 (h:=h)
def va229:Ann:=⟨fun id=>cond (Nat.beq id 3) ⟨[(4,.complex .f64 0 0),(11,.int .i64 0)],([2,3,6,7,8]++rg 12 14)⟩ (LI.none),fun l=>none,fun i=>none⟩
def vc229(x0a:Option Addr)(x0l x0c:Nat)(w:World)(R:VW):Prop:=
 ∃x0:Nat->Nat->Nat->Int->World->Prop,(∃n1:Nat,x0 n1 0 0 0 w) /\ ∀(n2:Nat)(jv:Nat->Value)(n3 n4:Nat)(i5:Int)(w6:World),x0 n2 n3 n4 i5 w6->ifB (decide (i5<(↑x0l:Int))) (0<=i5 /\ i5<(↑x0l:Int) /\ someA x0a fun a7=>∃n8 n9:Nat,w6.cell? (a7.add i5.toNat)=some (.complex FloatKind.f64 n8 n9) /\ CS 248 #[.complex FloatKind.f64 n3 n4,.complex FloatKind.f64 n8 n9] w6 fun v10 w11=>∃(n12 n13:Nat)(i14:Int),v10=.tuple #[.complex FloatKind.f64 n12 n13,.int .i64 i14] /\ ifB (i14 != 0) (R (.tuple #[.complex FloatKind.f64 0 0,.int .i64 i14]) w11) (∃n15:Nat,n15<n2 /\ x0 n15 n12 n13 (IntKind.i64.wrap (i5+1)) w11)) (R (.tuple #[.complex FloatKind.f64 n3 n4,.int .i64 0]) w6)
theorem vc229.ok{x0a:Option Addr}{x0l x0c:Nat}(h:vc229 x0a x0l x0c w R ):Calls prog 227 #[.slice x0a x0l x0c] w (Ret R):=
 bodyE va229 Tryz.func227 (h:=h)
def vc230(x0r x0i x1r x1i:Nat)(w:World)(R:VW):Prop:=
 ∃(n0 n1:Nat)(w2:World),Sem.run prog (binOp BinOp.add 162 (.complex FloatKind.f64 x0r x0i) (.complex FloatKind.f64 x1r x1i)) w=.ok (.complex FloatKind.f64 n0 n1) w2 /\ CS 153 #[.complex FloatKind.f64 x0r x0i] w2 fun v3 w4=>∃b5:Bool,v3=.bool b5 /\ ifB b5 (CS 153 #[.complex FloatKind.f64 x1r x1i] w4 fun v6 w7=>∃b8:Bool,v6=.bool b8 /\ CS 263 #[.complex FloatKind.f64 n0 n1,.bool b8] w7 fun v9 w10=>∃(n11 n12:Nat)(i13:Int),v9=.tuple #[.complex FloatKind.f64 n11 n12,.int .i64 i13] /\ R (.tuple #[.complex FloatKind.f64 n11 n12,.int .i64 i13]) w10) (CS 263 #[.complex FloatKind.f64 n0 n1,.bool false] w4 fun v14 w15=>∃(n16 n17:Nat)(i18:Int),v14=.tuple #[.complex FloatKind.f64 n16 n17,.int .i64 i18] /\ R (.tuple #[.complex FloatKind.f64 n16 n17,.int .i64 i18]) w15)
theorem vc230.ok{x0r x0i x1r x1i:Nat}(h:vc230 x0r x0i x1r x1i w R ):Calls prog 248 #[.complex FloatKind.f64 x0r x0i,.complex FloatKind.f64 x1r x1i] w (Ret R):=
 bodyE zN Tryz.func248 (h:=h)
def vc231(x0r x0i:Nat)(x1:Bool)(w:World)(R:VW):Prop:=
 ifB (!x1) (R (.tuple #[.complex FloatKind.f64 0 0,.int .i64 12]) w) (CS 153 #[.complex FloatKind.f64 x0r x0i] w fun v0 w1=>∃b2:Bool,v0=.bool b2 /\ ifB (!b2) (R (.tuple #[.complex FloatKind.f64 0 0,.int .i64 12]) w1) (R (.tuple #[.complex FloatKind.f64 x0r x0i,.int .i64 0]) w1))
theorem vc231.ok{x0r x0i:Nat}{x1:Bool}(h:vc231 x0r x0i x1 w R ):Calls prog 263 #[.complex FloatKind.f64 x0r x0i,.bool x1] w (Ret R):=
 bodyE zN Tryz.func263 (h:=h)
end
section
open Go.RowKit
def pagN(k:Nat):Nat:=if k<8 then 1 else k-7
def untN(k:Nat):Nat:=if k<8 then unitN k else(k-7)*512
def perM(k:Nat):Nat:=if k<8 then perN k else 1
def sltN(k:Nat):Nat:=256 / pagN k
def adrN(k s b:Nat):Nat:=131072*(k+1)+s*(pagN k*512)+b*untN k
def clsN(n:Nat):Nat:=if 256<n then 8+(n-1) / 512 else if n<=16 then 0 else if n<=32 then 1 else if n<=48 then 2 else if n<=64 then 3 else if n<=96 then 4 else if n<=128 then 5 else if n<=192 then 6 else 7
def clsI(n:Int):Int:=if 1<=n /\ n<=8192 then(clsN n.toNat:Int)else -1
def chgI(n:Int):Int:=if 1<=n /\ n<=8192 then(untN (clsN n.toNat):Int)else 0
theorem Q15{n:Nat}(h:n<=8192):clsN n<24:=by
 unfold clsN
 repeat' split
 all_goals omega
theorem Q2t{n:Nat}(h:n<=256):clsN n<8 /\ n<=unitN (clsN n) /\ ∀j,j<clsN n->unitN j<n:=by
 unfold clsN;rw[if_neg (by omega)];have u:unitN 0=16 /\ unitN 1=32 /\ unitN 2=48 /\ unitN 3=64 /\ unitN 4=96 /\ unitN 5=128 /\ unitN 6=192 /\ unitN 7=256:=⟨rfl,rfl,rfl,rfl,rfl,rfl,rfl,rfl⟩;obtain⟨u0,u1,u2,u3,u4,u5,u6,u7⟩:=u
 repeat' split
 all_goals
  refine⟨by omega,by omega,fun j hj=>?_⟩;rcases(show j=0 \/ j=1 \/ j=2 \/ j=3 \/ j=4 \/ j=5 \/ j=6 by omega)with rfl | rfl | rfl | rfl | rfl | rfl | rfl <;> omega
section
variable{w:World}{R:VW}
theorem ccls(n:Int)(r:R (.int .i64 (clsI n)) w):CS 19 #[.int .i64 n] w R:=by
 constructor;refine vc88.ok ?_;unfold vc88;have no:¬(1<=n /\ n<=8192)->R (.int .i64 (-1)) w:=fun h=>by have e:clsI n = -1:=if_neg h;rw[e] at r;exact r
 refine ifD (fun h=>no (by omega)) (fun h1=>ifD (fun h=>no (by omega)) (fun h2=>?_));obtain⟨m,rfl⟩:=zzeoz (show 0<=n by omega);have e:clsI (m:Int)=(clsN m:Int):=by unfold clsI;rw[if_pos ⟨by omega,by omega⟩,zztnc]
 rw[e] at r;refine ifD (fun h3=>⟨by decide,?_⟩) (fun h3=>?_)
 ·have e2:IntKind.i64.wrap ((8:Int)+IntKind.i64.wrap ((IntKind.i64.wrap ((m:Int)-1)).tdiv 512))=(clsN m:Int):=by
   have:clsN m=8+(m-1) / 512:=by unfold clsN;rw[if_pos (by omega)]
   rw[Q04 (n:=(m:Int)-1) (by omega) (by omega),show(m:Int)-1=((m-1:Nat):Int) by omega,show(512:Int)=((512:Nat):Int)from rfl,<-Int.ofNat_tdiv,Q04 (n:=(((m-1) / 512:Nat):Int)) (by omega) (by omega),Q04 (by omega) (by omega),this];omega
  rw[e2];exact r
 ·obtain⟨c8,cu,cb⟩:=Q2t (n:=m) (by omega);refine .of (Q1A (k:=0) (by decide) w) ?_;rintro v w1 ⟨rfl,rfl⟩;refine⟨_,rfl,ifD (fun h4=>?_) (fun h4=>?_)⟩
  ·have c1:1<=clsN m:=by
    rcases Nat.eq_zero_or_pos (clsN m)with q | q
    ·rw[q] at cu;omega
    ·exact q
   refine⟨fun f i w2=>∃j:Nat,i=(j:Int) /\ f+j=8 /\ j<=clsN m /\ w2=w1,⟨7,1,rfl,rfl,c1,rfl⟩,?_⟩;rintro f jv i w2 ⟨j,rfl,hf,hj,rfl⟩;refine .of (Q1A (k:=j) (by omega) w2) ?_;rintro v w3 ⟨rfl,rfl⟩;refine⟨_,rfl,ifD (fun h5=>?_) (fun h5=>?_)⟩
   ·have hne:j ≠ clsN m:=fun q=>by rw[q] at h5;omega
    exact⟨f-1,by omega,j+1,by rw[Q04 (by omega) (by omega)];omega,by omega,by omega,rfl⟩
   ·have:j=clsN m:=by
     rcases Nat.lt_or_ge j (clsN m)with q | q
     ·have:=cb j q;omega
     ·omega
    rw[<-this] at r;exact r
  ·have c0:clsN m=0:=by
    rcases Nat.eq_zero_or_pos (clsN m)with q | q
    ·exact q
    ·have:=cb 0 q;omega
   rw[c0] at r;exact r
theorem cpag(x:Int)(r:R (.int .i64 (if 0<=x /\ x<24 then(pagN x.toNat:Int)else 0)) w):CS 211 #[.int .i64 x] w R:=by
 constructor;refine vc38.ok ?_;unfold vc38;refine .of (Q16 x w) ?_;rintro v w1 ⟨rfl,rfl⟩;by_cases h:0<=x /\ x<24
 ·rw[if_pos h] at r;rw[decide_eq_true h];obtain⟨k,rfl⟩:=zzeoz h.1;refine⟨_,rfl,Q00 rfl ⟨_,w1,run_max_int2 w1 _ _ _ _ _ _,?_⟩⟩;have e:(if IntKind.i64.wrap (IntKind.i64.wrap ((k:Int)-8)+1)>1 then IntKind.i64.wrap (IntKind.i64.wrap ((k:Int)-8)+1)else 1)=(pagN k:Int):=by
   rw[Q04 (n:=(k:Int)-8) (by omega) (by omega),Q04 (by omega) (by omega)];unfold pagN;split <;> split <;> omega
  rw[e];rw[zztnc] at r;exact r
 ·rw[if_neg h] at r;rw[zzdcf h];exact⟨_,rfl,Q03 rfl r⟩
theorem Q0C(k:Nat):1<=pagN k:=by unfold pagN;split <;> omega
theorem Q1z{k:Nat}(h:k<24):pagN k<=16:=by unfold pagN;split <;> omega
theorem cunt{k:Nat}(hk:k<24)(r:R (.int .i64 (untN k:Int)) w):CS 152 #[.int .i64 (k:Int)] w R:=by
 constructor;refine vc16.ok ?_;unfold vc16;refine .of (Q16 k w) ?_;rintro v w1 ⟨rfl,rfl⟩;rw[decide_eq_true (show 0<=(k:Int) /\ (k:Int)<24 by omega)];refine⟨_,rfl,Q00 rfl (ifD (fun h=>?_) (fun h=>?_))⟩
 ·refine .of (Q1A (k:=k) (by omega) w1) ?_;rintro v w2 ⟨rfl,rfl⟩;have e:untN k=unitN k:=if_pos (by omega);rw[e] at r;exact⟨_,rfl,r⟩
 ·refine cpag k ⟨_,rfl,?_⟩;rw[if_pos ⟨by omega,by omega⟩,zztnc];have e:untN k=pagN k*512:=by unfold untN pagN;rw[if_neg (by omega),if_neg (by omega)]
  have:=Q1z hk;rw[Q04 (by omega) (by omega),show(pagN k:Int)*512=(untN k:Int) by rw[e];omega];exact r
theorem Qbt(r:R (.int .i64 0) w):CS 152 #[.int .i64 (-1)] w R:=by
 constructor;refine vc16.ok ?_;unfold vc16;refine .of (Q16 (-1) w) ?_;rintro v w1 ⟨rfl,rfl⟩;exact⟨_,rfl,Q03 rfl r⟩
theorem cchg(n:Int)(r:R (.int .i64 (chgI n)) w):CS 131 #[.int .i64 n] w R:=by
 constructor;refine vc163.ok ?_;unfold vc163;refine ccls n ⟨_,rfl,?_⟩;by_cases h:1<=n /\ n<=8192
 ·have e1:clsI n=(clsN n.toNat:Int):=if_pos h;have e2:chgI n=(untN (clsN n.toNat):Int):=if_pos h;rw[e1];rw[e2] at r;exact cunt (Q15 (by omega)) ⟨_,rfl,r⟩
 ·have e1:clsI n = -1:=if_neg h;have e2:chgI n=0:=if_neg h;rw[e1];rw[e2] at r;exact Qbt ⟨_,rfl,r⟩
theorem cper{k:Nat}(hk:k<24)(r:R (.int .i64 (if k<8 then(perN k:Int)else 0)) w):CS 213 #[.int .i64 (k:Int)] w R:=by
 refine .of (Qa1 k w) ?_;rintro v w1 ⟨rfl,rfl⟩;have e:(if 0<=(k:Int) /\ (k:Int)<8 then(perN (k:Int).toNat:Int)else 0)=(if k<8 then(perN k:Int)else 0):=by
  rw[zztnc];by_cases h:k<8
  ·rw[if_pos h,if_pos ⟨by omega,by omega⟩]
  ·rw[if_neg h,if_neg (by omega)]
 rw[e];exact r
theorem cslots{k:Nat}(hk:k<24)(r:R (.int .i64 (sltN k:Int)) w):CS 216 #[.int .i64 (k:Int)] w R:=by
 constructor;refine vc191.ok ?_;unfold vc191;refine cpag k ⟨_,rfl,?_⟩;have:=Q0C k;have:=Q1z hk;rw[if_pos ⟨by omega,by omega⟩,zztnc];refine Q00 (by simp;omega) ⟨by omega,?_⟩;have hd:sltN k<=256:=Nat.div_le_self 256 (pagN k);have e:Int.tdiv (256:Int) (pagN k:Int)=(sltN k:Int):=(Int.ofNat_tdiv 256 (pagN k)).symm;rw[e,Q04 (by omega) (by omega)];exact r
theorem cstep{k:Nat}(hk:k<24)(r:R (.int .i64 ((pagN k*512:Nat):Int)) w):CS 245 #[.int .i64 (k:Int)] w R:=by
 constructor;refine vc205.ok ?_;unfold vc205;refine cpag k ⟨_,rfl,?_⟩;have:=Q1z hk;rw[if_pos ⟨by omega,by omega⟩,zztnc,Q04 (by omega) (by omega),show(pagN k:Int)*512=((pagN k*512:Nat):Int) by omega];exact r
abbrev InB(k:Nat)(s b:Int):Prop:=0<=s /\ s<(sltN k:Int) /\ 0<=b /\ b<(perM k:Int)
theorem Q0D{k:Nat}(hk:k<24):sltN k*pagN k<=256 /\ perM k*untN k<=pagN k*512 /\ 1<=untN k /\ 1<=perM k /\ 1<=sltN k:=by
 have:∀j:Fin 24,sltN j.val*pagN j.val<=256 /\ perM j.val*untN j.val<=pagN j.val*512 /\ 1<=untN j.val /\ 1<=perM j.val /\ 1<=sltN j.val:=by decide +kernel
 exact this ⟨k,hk⟩
theorem Q8N{k s b:Nat}(hk:k<24)(hs:s<sltN k)(hb:b<perM k):s*(pagN k*512)+b*untN k+untN k<=131072 /\ b*untN k+untN k<=pagN k*512:=by
 obtain⟨f1,f2,f3,f4,f5⟩:=Q0D hk;have a1:(b+1)*untN k<=perM k*untN k:=zzmlr _ hb;have a2:(s+1)*pagN k<=sltN k*pagN k:=zzmlr _ hs;rw[Nat.add_mul,Nat.one_mul] at a1 a2;have a3:s*(pagN k*512)=s*pagN k*512:=(Nat.mul_assoc _ _ _).symm;omega
theorem cplace{k:Nat}(hk:k<24)(s b:Int)(r:R (.tuple #[.int .i64 (if InB k s b then(adrN k s.toNat b.toNat:Int)else 0),.int .i64 (if InB k s b then 0 else 12)]) w) :
  CS 229 #[.int .i64 (k:Int),.int .i64 s,.int .i64 b] w R:=by
 constructor;refine vc198.ok ?_;unfold vc198;have no:¬InB k s b->R (.tuple #[.int .i64 0,.int .i64 12]) w:=fun h=>by rw[if_neg h,if_neg h] at r;exact r
 refine ifD (fun h=>no (by omega)) (fun h1=>cslots hk ⟨_,rfl,ifD (fun h=>no (by omega)) (fun h2=>ifD (fun h=>no (by omega)) (fun h3=>cper hk ⟨_,rfl,_,w,run_max_int2 w _ _ _ _ _ _,?_⟩))⟩);have e:(if (if k<8 then(perN k:Int)else 0)>1 then(if k<8 then(perN k:Int)else 0)else 1)=(perM k:Int):=by
  unfold perM;by_cases h:k<8
  ·have:=(Q0h h).2.2.1;rw[if_pos h,if_pos h];split <;> omega
  ·rw[if_neg h,if_neg h];rfl
 rw[e];refine ifD (fun h=>no (by omega)) (fun h4=>cstep hk ⟨_,rfl,cunt hk ⟨_,rfl,?_⟩⟩);obtain⟨s,rfl⟩:=zzeoz (show 0<=s by omega);obtain⟨b,rfl⟩:=zzeoz (show 0<=b by omega);have hi:InB k (s:Int) (b:Int):=⟨by omega,by omega,by omega,by omega⟩;rw[if_pos hi,if_pos hi,zztnc,zztnc] at r;obtain⟨l1,l2⟩:=Q8N (s:=s) (b:=b) hk (by omega) (by omega);have m1:(s:Int)*((pagN k*512:Nat):Int)=((s*(pagN k*512):Nat):Int):=(Int.natCast_mul s (pagN k*512)).symm;have m2:(b:Int)*(untN k:Int)=((b*untN k:Nat):Int):=(Int.natCast_mul b (untN k)).symm;rw[m1,m2,Q04 (n:=(k:Int)+1) (by omega) (by omega),Q04 (n:=(131072:Int)*((k:Int)+1)) (by omega) (by omega),Q04 (n:=((s*(pagN k*512):Nat):Int)) (by omega) (by omega),Q04 (n:=((b*untN k:Nat):Int)) (by omega) (by omega)];have ea:adrN k s b=131072*(k+1)+s*(pagN k*512)+b*untN k:=rfl;have e2:IntKind.i64.wrap (IntKind.i64.wrap ((131072:Int)*((k:Int)+1)+((s*(pagN k*512):Nat):Int))+((b*untN k:Nat):Int))=(adrN k s b:Int):=by
  generalize s*(pagN k*512)=X at *
  generalize b*untN k=Y at *
  rw[Q04 (n:=(131072:Int)*((k:Int)+1)+(X:Int)) (by omega) (by omega),Q04 (by omega) (by omega),ea];omega
 rw[e2];exact r
def kndA(a:Nat):Nat:=a / 131072-1
def sltA(a:Nat):Nat:=a % 131072 / (pagN (kndA a)*512)
def blkA(a:Nat):Nat:=a % 131072 % (pagN (kndA a)*512) / untN (kndA a)
def fndA(addr:Int):Option (Nat × Nat × Nat):=
 if 131072<=addr /\ addr<3276800 /\ sltA addr.toNat<sltN (kndA addr.toNat) /\ blkA addr.toNat<perM (kndA addr.toNat) /\ (adrN (kndA addr.toNat) (sltA addr.toNat) (blkA addr.toNat):Int)=addr
 then some (kndA addr.toNat,sltA addr.toNat,blkA addr.toNat)else none
def fndV(o:Option (Nat × Nat × Nat)):Value:=match o with
 | some (k,s,b)=>.tuple #[.int .i64 (k:Int),.int .i64 (s:Int),.int .i64 (b:Int),.int .i64 0]
 | none=>.tuple #[.int .i64 0,.int .i64 0,.int .i64 0,.int .i64 4]
theorem Q4l{k s b:Nat}(hk:k<24)(hs:s<sltN k)(hb:b<perM k):fndA (adrN k s b:Int)=some (k,s,b):=by
 obtain⟨l1,l2⟩:=Q8N hk hs hb;obtain⟨f1,f2,f3,f4,f5⟩:=Q0D hk;have ea:adrN k s b=131072*(k+1)+(s*(pagN k*512)+b*untN k):=by unfold adrN;omega
 have hp:0<pagN k*512:=by have:=Q0C k;omega
 have e1:kndA (adrN k s b)=k:=by unfold kndA;rw[ea];omega
 have e2:adrN k s b % 131072=s*(pagN k*512)+b*untN k:=by rw[ea];omega
 have e3:sltA (adrN k s b)=s:=by
  unfold sltA;rw[e1,e2,Nat.mul_comm,Nat.mul_add_div hp,Nat.div_eq_of_lt (by omega),Nat.add_zero]
 have e4:blkA (adrN k s b)=b:=by
  unfold blkA;rw[e1,e2,Nat.mul_comm s,Nat.mul_add_mod,Nat.mod_eq_of_lt (by omega),Nat.mul_div_cancel _ (by omega)]
 unfold fndA;rw[zztnc,e1,e3,e4,if_pos ⟨by omega,by omega,hs,hb,rfl⟩]
theorem Q5m{addr:Int}{k s b:Nat}(h:fndA addr=some (k,s,b)):k<24 /\ s<sltN k /\ b<perM k /\ addr=(adrN k s b:Int):=by
 unfold fndA at h;split at h
 ·rename_i q;cases h;exact⟨by unfold kndA;omega,q.2.2.1,q.2.2.2.1,q.2.2.2.2.symm⟩
 ·cases h
theorem cfind(addr:Int)(r:∀w',Ext w w'->R (fndV (fndA addr)) w'):CS 207 #[.int .i64 addr] w R:=by
 constructor;refine vc188.ok ?_;unfold vc188;have no:∀w',Ext w w'->fndA addr=none->R (.tuple #[.int .i64 0,.int .i64 0,.int .i64 0,.int .i64 4]) w':=fun w' hE h=>by have:=r w' hE;rw[h] at this;exact this
 refine ifD (fun h=>no w (Mod.refl _ _) (if_neg fun q=>by omega)) (fun h1=>ifD (fun h=>no w (Mod.refl _ _) (if_neg fun q=>by omega)) (fun h2=>?_));obtain⟨a,rfl⟩:=zzeoz (show 0<=addr by omega);have hk:kndA a<24:=by unfold kndA;omega
 obtain⟨f1,f2,f3,f4,f5⟩:=Q0D hk;have hp:=Q0C (kndA a);have hp16:=Q1z hk;have ek:IntKind.i64.wrap (IntKind.i64.wrap ((a:Int).tdiv 131072)-1)=(kndA a:Int):=by
  rw[show(a:Int).tdiv 131072=((a / 131072:Nat):Int)from(Int.ofNat_tdiv a 131072).symm,Q04 (n:=((a / 131072:Nat):Int)) (by omega) (by omega),Q04 (by omega) (by omega)];unfold kndA;omega
 have er:(a:Int).tmod 131072=((a % 131072:Nat):Int):=(Int.ofNat_tmod a 131072).symm;have es:IntKind.i64.wrap (((a % 131072:Nat):Int).tdiv ((pagN (kndA a)*512:Nat):Int))=(sltA a:Int):=by
  have e:((a % 131072:Nat):Int).tdiv ((pagN (kndA a)*512:Nat):Int)=(sltA a:Int):=(Int.ofNat_tdiv _ _).symm;have:sltA a<=a % 131072:=Nat.div_le_self _ _;rw[e,Q04 (by omega) (by omega)]
 have eb:IntKind.i64.wrap ((((a % 131072:Nat):Int).tmod ((pagN (kndA a)*512:Nat):Int)).tdiv (untN (kndA a):Int))=(blkA a:Int):=by
  have e0:((a % 131072:Nat):Int).tmod ((pagN (kndA a)*512:Nat):Int)=((a % 131072 % (pagN (kndA a)*512):Nat):Int):=(Int.ofNat_tmod _ _).symm;have e:((a % 131072 % (pagN (kndA a)*512):Nat):Int).tdiv (untN (kndA a):Int)=(blkA a:Int):=(Int.ofNat_tdiv _ _).symm;have:blkA a<=a % 131072 % (pagN (kndA a)*512):=Nat.div_le_self _ _;have:a % 131072 % (pagN (kndA a)*512)<=a % 131072:=Nat.mod_le _ _;rw[e0,e,Q04 (by omega) (by omega)]
 rw[ek,er];refine⟨by decide,by decide,cstep hk ⟨_,rfl,by omega,fun w3 e3=>?_⟩⟩;subst e3;have hE:=Ext.drew w;refine cstep hk ⟨_,rfl,by omega,rfl,cunt hk ⟨_,rfl,⟨by omega,rfl,rfl⟩,by omega,rfl,?_⟩⟩;rw[es,eb];refine cplace hk _ _ ⟨_,_,rfl,?_⟩;by_cases hi:InB (kndA a) (sltA a:Int) (blkA a:Int)
 ·rw[if_pos hi,if_pos hi,zztnc,zztnc];refine Q00 rfl (Q05 (fun q=>no _ hE (if_neg fun z=>?_)) (fun q=>?_))
  ·have z:=z.2.2.2.2;rw[zztnc] at z;rw[z] at q;simp at q
  ·have:=r _ hE;have e:fndA (a:Int)=some (kndA a,sltA a,blkA a):=by
    unfold fndA;rw[zztnc,if_pos ⟨by omega,by omega,by omega,by omega,by simpa using q⟩]
   rw[e] at this;exact this
 ·rw[if_neg hi,if_neg hi];refine Q03 rfl (no _ hE (if_neg fun z=>hi ?_));rw[zztnc] at z;exact⟨by omega,by omega,by omega,by omega⟩
end
end
section
open Go.RowKit Thing
abbrev cx(b p:Nat):Value:=.complex .f64 (flt b) (flt p)
theorem Q23:flt 0=0:=by rw[Q5k];rfl
theorem Qbx:flt 1099511627776=4787326403894837248:=by rw[Q5k];decide +kernel
theorem Q4h:Value.complex .f64 0 0=cx 0 0:=by rw[cx,Q23]
abbrev Okay(b p:Nat):Prop:=b<=1099511627776 /\ p<=1099511627776
section
variable{w:World}{R:VW}
theorem Q4p(t:TypeId){n m:Nat}(h:n<9007199254740992)(h':m<9007199254740992):(binOp .leq t (.float .f64 (flt n)) (.float .f64 (flt m))).run prog w=.ok (.bool (decide (n<=m))) w:=by
 rw[binOp_float_cmp_leq];show(pure (Value.bool (Ieee.double.order (flt n) (flt m) == some .lt || Ieee.double.order (flt n) (flt m) == some .eq)):Sem Value).run _ w=_;rw[Q3k h h'];have:((some (compare n m) == some Ordering.lt || some (compare n m) == some Ordering.eq):Bool)=decide (n<=m):=by
  rcases Nat.lt_trichotomy n m with q | q | q
  ·rw[Nat.compare_eq_lt.2 q,decide_eq_true (by omega)];rfl
  ·rw[Nat.compare_eq_eq.2 q,decide_eq_true (by omega)];rfl
  ·rw[Nat.compare_eq_gt.2 q,zzdcf (by omega)];rfl
 rw[this];rfl
theorem QbB(t:TypeId){n m:Nat}(h:n<9007199254740992)(h':m<9007199254740992):(binOp .geq t (.float .f64 (flt n)) (.float .f64 (flt m))).run prog w=.ok (.bool (decide (m<=n))) w:=by
 rw[binOp_float_cmp_geq];show(pure (Value.bool (Ieee.double.order (flt n) (flt m) == some .gt || Ieee.double.order (flt n) (flt m) == some .eq)):Sem Value).run _ w=_;rw[Q3k h h'];have:((some (compare n m) == some Ordering.gt || some (compare n m) == some Ordering.eq):Bool)=decide (m<=n):=by
  rcases Nat.lt_trichotomy n m with q | q | q
  ·rw[Nat.compare_eq_lt.2 q,zzdcf (by omega)];rfl
  ·rw[Nat.compare_eq_eq.2 q,decide_eq_true (by omega)];rfl
  ·rw[Nat.compare_eq_gt.2 q,decide_eq_true (by omega)];rfl
 rw[this];rfl
theorem QbA(t:TypeId){n:Nat}(h:n<9007199254740992):(binOp .eql t (.float .f64 (flt n)) (.float .f64 (flt n))).run prog w=.ok (.bool true) w:=by
 rw[binOp_float_cmp_eql];show(pure (Value.bool (Ieee.double.order (flt n) (flt n) == some .eq)):Sem Value).run _ w=_;rw[Q3k h h,Nat.compare_eq_eq.2 rfl];rfl
theorem Q1m(t:TypeId){a b c d:Nat}(h1:a+c<9007199254740992)(h2:b+d<9007199254740992):(binOp .add t (cx a b) (cx c d)).run prog w=.ok (cx (a+c) (b+d)) w:=by
 refine run_complex_sum w .add (.inl rfl) t .f64 _ _ _ _ _ _ ?_;have e1:floatBits .add .f64 (flt a) (flt c)=some (flt (a+c)):=Q9f h1;have e2:floatBits .add .f64 (flt b) (flt d)=some (flt (b+d)):=Q9f h2;unfold cSumBits;rw[e1,e2];rfl
theorem Q4M(t:TypeId){a b c d:Nat}(h1:a<9007199254740992)(h2:b<9007199254740992)(hc:c<=a)(hd:d<=b):(binOp .sub t (cx a b) (cx c d)).run prog w=.ok (cx (a-c) (b-d)) w:=by
 refine run_complex_sum w .sub (.inr rfl) t .f64 _ _ _ _ _ _ ?_;have e1:floatBits .sub .f64 (flt a) (flt c)=some (flt (a-c)):=Q9g h1 hc;have e2:floatBits .sub .f64 (flt b) (flt d)=some (flt (b-d)):=Q9g h2 hd;unfold cSumBits;rw[e1,e2];rfl
theorem Q89{n:Nat}(h:n<9007199254740992)(w:World):(convert 220 2 (.float .f64 (flt n))).run prog w=.ok (.int .i64 (n:Int)) w:=by
 refine run_convert_float_int w _ _ _ _ _ _ (by kernel_rfl) (by kernel_rfl) ?_;unfold floatToIntVal;rw[Q5l h];simp only;rw[if_pos];simp only[IntKind.min,IntKind.max,IntKind.signed,IntKind.bits];refine⟨?_,?_⟩ <;> simp <;> omega
theorem swhole{n:Nat}(h:n<9007199254740992)(r:R (.bool (decide (n<=1099511627776))) w):CS 212 #[.float .f64 (flt n)] w R:=by
 constructor;refine vc228.ok ?_;unfold vc228;refine⟨_,w,by rw[<-Q23];exact QbB _ h (by decide),?_⟩;rw[decide_eq_true (Nat.zero_le n)];refine Q03 rfl ⟨_,w,by rw[<-Qbx];exact Q4p _ h (by decide),?_⟩;refine Q05 (fun q=>?_) (fun q=>?_)
 ·have q:n<=1099511627776:=zzodt q;rw[decide_eq_true q] at r;exact⟨_,w,Q89 h w,_,w,QbA _ h,r⟩
 ·rw[q] at r;exact r
theorem sright{b p:Nat}(hb:b<9007199254740992)(hp:p<9007199254740992)(r:R (.bool (decide (Okay b p))) w):CS 153 #[cx b p] w R:=by
 constructor;refine vc221.ok ?_;unfold vc221;refine⟨_,w,run_real w _ _ _ _ _,swhole hb ⟨_,rfl,Q05 (fun q=>⟨_,w,run_imag w _ _ _ _ _,swhole hp ⟨_,rfl,?_⟩⟩) (fun q=>?_)⟩⟩
 ·have q:=zzodt q;have e:decide (p<=1099511627776)=decide (Okay b p):=decide_eq_decide.2 ⟨fun x=>⟨q,x⟩,fun x=>x.2⟩;rw[e];exact r
 ·have q:=of_decide_eq_false q;rw[zzdcf (fun x=>q x.1)] at r;exact r
theorem sfits{b p c d:Nat}(hb:b<9007199254740992)(hp:p<9007199254740992)(hc:c<9007199254740992)(hd:d<9007199254740992)(r:R (.bool (decide (Okay b p /\ Okay c d /\ b<=c /\ p<=d))) w) :
  CS 175 #[cx b p,cx c d] w R:=by
 constructor;refine vc223.ok ?_;unfold vc223;have no:¬(Okay b p /\ Okay c d /\ b<=c /\ p<=d)->R (.bool false) w:=fun q=>by rw[zzdcf q] at r;exact r
 refine sright hb hp ⟨_,rfl,Q05 (fun q1=>sright hc hd ⟨_,rfl,Q05 (fun q2=>?_) (fun q=>no fun x=>of_decide_eq_false q x.2.1)⟩) (fun q=>no fun x=>of_decide_eq_false q x.1)⟩;refine⟨_,w,run_real w _ _ _ _ _,_,w,run_real w _ _ _ _ _,_,w,Q4p _ hb hc,Q05 (fun q3=>⟨_,w,run_imag w _ _ _ _ _,_,w,run_imag w _ _ _ _ _,_,w,Q4p _ hp hd,?_⟩) (fun q=>no fun x=>of_decide_eq_false q x.2.2.1)⟩;have e:decide (p<=d)=decide (Okay b p /\ Okay c d /\ b<=c /\ p<=d):=decide_eq_decide.2 ⟨fun x=>⟨zzodt q1,zzodt q2,zzodt q3,x⟩,fun x=>x.2.2.2⟩;rw[e];exact r
theorem schecked{b p:Nat}(hb:b<9007199254740992)(hp:p<9007199254740992)(ok:Bool)(r:R (if ok=true /\ Okay b p then .tuple #[cx b p,.int .i64 0] else .tuple #[cx 0 0,.int .i64 12]) w) :
  CS 263 #[cx b p,.bool ok] w R:=by
 constructor;refine vc231.ok ?_;unfold vc231;rw[Q4h];cases ok with
 | false=>rw[if_neg (fun x=>by cases x.1)] at r;exact Q03 rfl r
 | true=>
  refine Q00 rfl (sright hb hp ⟨_,rfl,?_⟩);by_cases q:Okay b p
  ·rw[decide_eq_true q];rw[if_pos ⟨rfl,q⟩] at r;exact Q00 rfl r
  ·rw[zzdcf q];rw[if_neg (fun x=>q x.2)] at r;exact Q03 rfl r
theorem splus{b p c d:Nat}(h1:b+c<9007199254740992)(h2:p+d<9007199254740992)(r:R (if (Okay b p /\ Okay c d) /\ Okay (b+c) (p+d)then .tuple #[cx (b+c) (p+d),.int .i64 0] else .tuple #[cx 0 0,.int .i64 12]) w) :
  CS 248 #[cx b p,cx c d] w R:=by
 constructor;refine vc230.ok ?_;unfold vc230;have fin:∀ok:Bool,(ok=true ↔ (Okay b p /\ Okay c d))->CS 263 #[cx (b+c) (p+d),.bool ok] w fun v9 w10=>∃(n11 n12:Nat)(i13:Int),v9=Value.tuple #[Value.complex FloatKind.f64 n11 n12,Value.int IntKind.i64 i13] /\ R (Value.tuple #[Value.complex FloatKind.f64 n11 n12,Value.int IntKind.i64 i13]) w10:=fun ok hok=>by
  refine schecked (by omega) (by omega) ok ?_;by_cases q:(Okay b p /\ Okay c d) /\ Okay (b+c) (p+d)
  ·rw[if_pos q] at r;rw[if_pos ⟨hok.2 q.1,q.2⟩];exact⟨_,_,_,rfl,r⟩
  ·rw[if_neg q] at r;rw[if_neg (fun x=>q ⟨hok.1 x.1,x.2⟩)];exact⟨_,_,_,rfl,r⟩
 refine⟨_,_,w,Q1m _ h1 h2,sright (by omega) (by omega) ⟨_,rfl,Q05 (fun q=>sright (by omega) (by omega) ⟨_,rfl,fin _ ?_⟩) (fun q=>fin _ ?_)⟩⟩
 ·have q:=zzodt q;exact⟨fun x=>⟨q,zzodt x⟩,fun x=>decide_eq_true x.2⟩
 ·have q:=of_decide_eq_false q;exact⟨fun x=>(by cases x),fun x=>absurd x.1 q⟩
theorem sbytes{b p:Nat}(hb:Okay b p)(r:R (.int .i64 (b:Int)) w):CS 97 #[cx b p] w R:=by
 constructor;refine vc213.ok ?_;unfold vc213;refine sright (by omega) (by omega) ⟨_,rfl,?_⟩;rw[decide_eq_true hb];exact Q00 rfl ⟨_,w,run_real w _ _ _ _ _,_,w,Q2T (by omega) w,r⟩
theorem spages{b p:Nat}(hb:Okay b p)(r:R (.int .i64 (p:Int)) w):CS 112 #[cx b p] w R:=by
 constructor;refine vc216.ok ?_;unfold vc216;refine sright (by omega) (by omega) ⟨_,rfl,?_⟩;rw[decide_eq_true hb];exact Q00 rfl ⟨_,w,run_imag w _ _ _ _ _,_,w,Q2T (by omega) w,r⟩
abbrev MayQ(q:Int):Prop:=1<=q /\ q<=65536
def byN(k q:Nat):Nat:=(q / unitN k+perN k-1) / perN k
def bySum(q:Nat):Nat->Nat
 | 0=>0
 | j+1=>bySum q j+byN j q
def demN(q:Nat):Nat:=q / 512+bySum q 8
theorem Q8V{k q:Nat}(hk:k<8):byN k q<=q+32:=by
 obtain⟨c1,c2,c3,c4,c5⟩:=Q0h hk;unfold byN;have h1:=Nat.div_le_self q (unitN k);have h2:=Nat.div_le_self (q / unitN k+perN k-1) (perN k);omega
theorem Q4b{q:Nat}:∀ {j:Nat},j<=8->bySum q j<=j*(q+32)
 | 0,_=>by simp[bySum]
 | j+1,h=>by
  have h1:=Q4b (q:=q) (j:=j) (by omega);have h2:=Q8V (k:=j) (q:=q) (by omega);show bySum q j+byN j q<=_;rw[Nat.add_mul,Nat.one_mul];omega
theorem dmay(q:Int)(r:R (.bool (decide (MayQ q))) w):CS 157 #[.int .i64 q] w R:=by
 constructor;refine vc168.ok ?_;unfold vc168;refine ifD (fun h=>?_) (fun h=>?_)
 ·have e:decide (q<=65536)=decide (MayQ q):=decide_eq_decide.2 ⟨fun x=>⟨by omega,x⟩,fun x=>x.2⟩;rw[e];exact r
 ·rw[zzdcf (fun x=>by omega)] at r;exact r
theorem dby{k q:Nat}(hk:k<8)(hq:MayQ q)(r:R (.int .i64 (byN k q:Int)) w):CS 159 #[.int .i64 (k:Int),.int .i64 (q:Int)] w R:=by
 obtain⟨c1,c2,c3,c4,c5⟩:=Q0h hk;constructor;refine vc170.ok ?_;unfold vc170;refine cper (k:=k) (by omega) ⟨_,rfl,?_⟩;rw[if_pos hk];refine Q00 (by simp;omega) (dmay _ ⟨_,rfl,?_⟩);rw[decide_eq_true hq];refine Q00 rfl (cunt (k:=k) (by omega) ⟨_,rfl,?_⟩);have eu:untN k=unitN k:=if_pos hk;rw[eu];refine⟨by omega,by omega,?_⟩;have h1:=Nat.div_le_self q (unitN k);have e1:(q:Int).tdiv (unitN k:Int)=((q / unitN k:Nat):Int):=(Int.ofNat_tdiv _ _).symm;have e:IntKind.i64.wrap ((IntKind.i64.wrap (IntKind.i64.wrap (IntKind.i64.wrap ((q:Int).tdiv (unitN k:Int))+(perN k:Int))-1)).tdiv (perN k:Int))=(byN k q:Int):=by
  rw[e1];have hq2:=hq.2;generalize hd:q / unitN k=d at *
  rw[Q04 (n:=(d:Int)) (by omega) (by omega),Q04 (n:=(d:Int)+(perN k:Int)) (by omega) (by omega),Q04 (n:=(d:Int)+(perN k:Int)-1) (by omega) (by omega),show(d:Int)+(perN k:Int)-1=((d+perN k-1:Nat):Int) by omega];have e2:((d+perN k-1:Nat):Int).tdiv (perN k:Int)=((byN k q:Nat):Int):=by rw[show byN k q=(d+perN k-1) / perN k by unfold byN;rw[hd]];exact(Int.ofNat_tdiv _ _).symm
  have h2:=Q8V (k:=k) (q:=q) hk;rw[e2,Q04 (by omega) (by omega)]
 rw[e];exact r
theorem druns{q:Nat}(hq:MayQ q)(r:R (.int .i64 ((q / 512:Nat):Int)) w):CS 158 #[.int .i64 (q:Int)] w R:=by
 constructor;refine vc169.ok ?_;unfold vc169;refine dmay _ ⟨_,rfl,?_⟩;rw[decide_eq_true hq];refine Q00 rfl ⟨by decide,?_⟩;rw[show(q:Int).tdiv 512=((q / 512:Nat):Int)from(Int.ofNat_tdiv _ _).symm,Q04 (by omega) (by omega)];exact r
theorem dof(q:Int)(r:R (if MayQ q then .tuple #[cx q.toNat (demN q.toNat),.int .i64 0] else .tuple #[cx 0 0,.int .i64 12]) w):CS 111 #[.int .i64 q] w R:=by
 constructor;refine vc215.ok ?_;unfold vc215;rw[Q4h];refine dmay q ⟨_,rfl,?_⟩;by_cases hq:MayQ q
 ·rw[decide_eq_true hq];rw[if_pos hq] at r;obtain⟨n,rfl⟩:=zzeoz (show 0<=q by omega);rw[zztnc] at r;refine Q00 rfl (druns hq ⟨_,rfl,_,_,w,run_complex w _ _ _ _ _,fun f a b i w1=>∃j:Nat,i=(j:Int) /\ f+j=8 /\ a=flt n /\ b=flt (n / 512+bySum n j) /\ w1=w,⟨8,0,rfl,rfl,rfl,rfl,rfl⟩,?_⟩);rintro f jv a b i w1 ⟨j,rfl,hf,rfl,rfl,rfl⟩;refine ifD (fun h=>dby (k:=j) (by omega) hq ⟨_,rfl,_,_,w1,run_complex w1 _ _ _ _ _,?_⟩) (fun h=>?_)
  ·have h1:=Q4b (q:=n) (j:=j) (by omega);have h2:=Q8V (k:=j) (q:=n) (by omega);have h3:j*(n+32)<=8*(n+32):=zzmlr _ (by omega);have hadd:=Q1m (w:=w1) 161 (a:=n) (b:=n / 512+bySum n j) (c:=0) (d:=byN j n) (by omega) (by omega);rw[cx,cx,cx,Q23] at hadd;refine⟨_,_,w1,hadd,f-1,by omega,j+1,by rw[Q04 (by omega) (by omega)];omega,by omega,rfl,?_,rfl⟩;show flt _=flt (n / 512+(bySum n j+byN j n));rw[Nat.add_assoc]
  ·have:j=8:=by omega
   subst this;exact r
 ·rw[zzdcf hq];rw[if_neg hq] at r;exact Q03 rfl r
theorem QdR{q:Nat}(hq:q<=65536):demN q<=700000:=by
 have h1:=Q4b (q:=q) (j:=8) (Nat.le_refl _);unfold demN;omega
theorem dfits(q p:Int)(r:R (.bool (decide (MayQ q /\ (demN q.toNat:Int)<=p))) w):CS 72 #[.int .i64 q,.int .i64 p] w R:=by
 constructor;refine vc119.ok ?_;unfold vc119;refine dof q ?_;by_cases hq:MayQ q
 ·rw[if_pos hq];have:=QdR (q:=q.toNat) (by omega);refine⟨_,_,_,rfl,Q03 rfl (spages ⟨by omega,by omega⟩ ⟨_,rfl,?_⟩)⟩;have e:decide ((demN q.toNat:Int)<=p)=decide (MayQ q /\ (demN q.toNat:Int)<=p):=decide_eq_decide.2 ⟨fun x=>⟨hq,x⟩,fun x=>x.2⟩;rw[e];exact r
 ·rw[if_neg hq];rw[zzdcf (fun x=>hq x.1)] at r;exact⟨_,_,_,rfl,Q00 rfl r⟩
end
end
section
open Go.RowKit Thing
structure Qu where
 lb:Nat
 lp:Nat
 cb:Nat
 cp:Nat
 rb:Nat
 rp:Nat
structure Qu.Ok (q:Qu):Prop where
 l:Okay q.lb q.lp
 b:q.cb+q.rb<=q.lb
 p:q.cp+q.rp<=q.lp
abbrev quO(q:Qu):Obj:=.cells #[cx q.lb q.lp,cx q.cb q.cp,cx q.rb q.rp] 219 (0,0)
def quT(qb:Nat)(q:Qu):Thing:=blk qb (quO q)
def Qu.fits(q:Qu)(b p:Nat):Prop:=q.cb+q.rb+b<=q.lb /\ q.cp+q.rp+p<=q.lp
instance (q:Qu) (b p:Nat):Decidable (q.fits b p):=inferInstanceAs (Decidable (_ /\ _))
section
variable{w:World}{R:VW}{qb:Nat}{q:Qu}
theorem stotal3{b1 p1 b2 p2 b3 p3:Nat}{a:Nat}(hc:w.heap[a]? = some (.cells #[cx b1 p1,cx b2 p2,cx b3 p3] 162 (0,0)))(h1:Okay b1 p1)(h2:Okay b2 p2)(h3:Okay b3 p3)
  (r0:¬Okay (b1+b2+b3) (p1+p2+p3)->R (.tuple #[cx 0 0,.int .i64 12]) w) (r1:Okay (b1+b2+b3) (p1+p2+p3)->R (.tuple #[cx (b1+b2+b3) (p1+p2+p3),.int .i64 0]) w) :
  CS 227 #[.slice (some ⟨a,0,none⟩) 3 3] w R:=by
 constructor;refine vc229.ok ?_;unfold vc229;refine⟨fun f n m i w1=>∃(j b p:Nat),i=(j:Int) /\ f+j=3 /\ n=flt b /\ m=flt p /\ w1=w /\ ((j=0 /\ b=0 /\ p=0) \/ (j=1 /\ b=b1 /\ p=p1) \/ (j=2 /\ b=b1+b2 /\ p=p1+p2 /\ Okay b p) \/ (j=3 /\ b=b1+b2+b3 /\ p=p1+p2+p3 /\ Okay b p)),⟨3,0,0,0,rfl,rfl,Q23.symm,Q23.symm,rfl,.inl ⟨rfl,rfl,rfl⟩⟩,?_⟩;rintro f jv n m i w1 ⟨j,b,p,rfl,hf,rfl,rfl,rfl,hj⟩;have go:∀ {c d:Nat},Okay b p->Okay c d->(Okay (b+c) (p+d)->(j+1=1 /\ b+c=b1 /\ p+d=p1) \/ (j+1=2 /\ b+c=b1+b2 /\ p+d=p1+p2 /\ Okay (b+c) (p+d)) \/ (j+1=3 /\ b+c=b1+b2+b3 /\ p+d=p1+p2+p3 /\ Okay (b+c) (p+d))) →
   (¬Okay (b+c) (p+d)->¬Okay (b1+b2+b3) (p1+p2+p3))->j<3->w1.cell? ((zA a).add j)=some (cx c d) →
   (0:Int)<=(j:Int) /\ (j:Int)<((3:Nat):Int) /\ someA (some (zA a)) fun a7=>∃n8 n9,w1.cell? (a7.add (j:Int).toNat)=some (.complex .f64 n8 n9) /\ CS 248 #[.complex .f64 (flt b) (flt p),.complex .f64 n8 n9] w1 fun v10 w11=>∃n12 n13 i14,v10=.tuple #[.complex .f64 n12 n13,.int .i64 i14] /\
    ifB (i14 != 0) (R (.tuple #[.complex .f64 0 0,.int .i64 i14]) w11) (∃n15,n15<f /\ ∃(j' b' p':Nat),IntKind.i64.wrap ((j:Int)+1)=(j':Int) /\ n15+j'=3 /\ n12=flt b' /\ n13=flt p' /\ w11=w1 /\ ((j'=0 /\ b'=0 /\ p'=0) \/ (j'=1 /\ b'=b1 /\ p'=p1) \/ (j'=2 /\ b'=b1+b2 /\ p'=p1+p2 /\ Okay b' p') \/ (j'=3 /\ b'=b1+b2+b3 /\ p'=p1+p2+p3 /\ Okay b' p'))):=by
  intro c d o1 o2 hyes hno hj3 hcell;refine⟨by omega,by omega,_,_,by rw[zztnc];exact hcell,splus (by omega) (by omega) ?_⟩;by_cases ok:Okay (b+c) (p+d)
  ·rw[if_pos ⟨⟨o1,o2⟩,ok⟩];refine⟨_,_,_,rfl,Q00 rfl ⟨f-1,by omega,j+1,b+c,p+d,by rw[Q04 (by omega) (by omega)];omega,by omega,rfl,rfl,rfl,.inr (hyes ok)⟩⟩
  ·rw[if_neg (fun x=>ok x.2)];refine⟨_,_,_,rfl,Q03 rfl ?_⟩;rw[Q4h];exact r0 (hno ok)
 refine ifD (fun h=>?_) (fun h=>?_)
 ·rcases hj with⟨rfl,rfl,rfl⟩ | ⟨rfl,rfl,rfl⟩ | ⟨rfl,rfl,rfl,o⟩ | ⟨rfl,_⟩
  ·exact go (c:=b1) (d:=p1) ⟨by omega,by omega⟩ h1 (fun _=>.inl ⟨rfl,by omega,by omega⟩) (fun x=>by omega) (by omega) (by rw[Q02];exact Q01 hc rfl)
  ·exact go (c:=b2) (d:=p2) h1 h2 (fun x=>.inr (.inl ⟨rfl,rfl,rfl,x⟩)) (fun x=>by omega) (by omega) (by rw[Q02];exact Q01 hc rfl)
  ·exact go (c:=b3) (d:=p3) o h3 (fun x=>.inr (.inr ⟨rfl,rfl,rfl,x⟩)) (fun x=>by omega) (by omega) (by rw[Q02];exact Q01 hc rfl)
  ·omega
 ·rcases hj with⟨rfl,rfl,rfl⟩ | ⟨rfl,rfl,rfl⟩ | ⟨rfl,rfl,rfl,o⟩ | ⟨rfl,rfl,rfl,o⟩
  ·omega
  ·omega
  ·omega
  ·exact r1 o
theorem qready{b p:Nat}(ho:Okay b p)(r:R (.int .i64 0) w):CS 174 #[zP qb,cx b p] w R:=by
 constructor;refine vc222.ok ?_;unfold vc222;refine Q00 rfl (sright (by omega) (by omega) ⟨_,rfl,?_⟩);rw[decide_eq_true ho];exact Q00 rfl r
theorem Qdl(g:q.Ok){b p:Nat}(ho:Okay b p):Tri 181 #[zP qb,cx b p] (quT qb q)
  (fun v=>only (v=.int .i64 (if q.fits b p then 0 else 3)) (quT qb (if q.fits b p then {q with rb:=q.rb+b,rp:=q.rp+p} else q))):=by
 intro w F R h r;have h0:w.heap[qb]? = some (quO q):=h.1;obtain⟨g1,g2,g3⟩:=g;constructor;refine vc225.ok ?_;unfold vc225;refine qready ho ⟨_,rfl,Q00 rfl ?_⟩;rintro w3 rfl;have hE3:=Ext.drew w;have h3:=hE3.keep h0;refine⟨_,_,by rw[Q02];exact Q01 h3 rfl,_,_,by rw[Q02];exact Q01 h3 rfl,Q09 fun a w4 ha hE4 hs4 _=>?_⟩;have hE4':=hE3.trans hE4;have h4:=hE4'.keep h0;have h4T:(quT qb q).P w4 F:=(quT qb q).keep h hE4' (fun _ _ x=>x);have bad:¬q.fits b p->∀w',Ext w w'->R (.int .i64 3) w':=fun nf w' hE'=>by
  refine r _ w' F ⟨by rw[if_neg nf],?_⟩ (Step.ext hE');rw[if_neg nf];exact(quT qb q).keep h hE' (fun _ _ x=>x)
 refine stotal3 ha ⟨by omega,by omega⟩ ⟨by omega,by omega⟩ ho (fun no=>⟨_,_,_,rfl,Q03 rfl (bad (fun x=>no ⟨by have:=x.1;omega,by have:=x.2;omega⟩) w4 hE4')⟩) (fun ok=>⟨_,_,_,rfl,Q00 rfl ?_⟩);refine⟨_,_,by rw[Q02];exact Q01 h4 rfl,sfits (by omega) (by omega) (by omega) (by omega) ⟨_,rfl,Q05 (fun e=>?_) (fun e=>?_)⟩⟩
 ·refine bad (fun x=>?_) w4 hE4';rw[decide_eq_true ⟨ok,g1,x.1,x.2⟩] at e;cases e
 ·have hf:q.fits b p:=by
   have:decide (Okay (q.cb+q.rb+b) (q.cp+q.rp+p) /\ Okay q.lb q.lp /\ q.cb+q.rb+b<=q.lb /\ q.cp+q.rp+p<=q.lp)=true:=by
    cases hd:decide (Okay (q.cb+q.rb+b) (q.cp+q.rp+p) /\ Okay q.lb q.lp /\ q.cb+q.rb+b<=q.lb /\ q.cp+q.rp+p<=q.lp)with
    | true=>rfl
    | false=>rw[hd] at e;cases e
   have:=zzodt this;exact⟨this.2.2.1,this.2.2.2⟩
  refine⟨_,_,by rw[Q02];exact Q01 h4 rfl,_,_,w4,Q1m _ (by omega) (by omega),?_⟩;simp only[someA,Q02];refine Q0e (n:=1) h4 (by simp) fun w5 h5 hm5 _=>r _ w5 F ⟨by rw[if_pos hf],?_⟩ ⟨Mod.trans (hE4'.mod (F:=F)) hm5 (fun j _ hj=>by rw[h.2];exact hj),fun j hj=>.inl hj⟩;rw[if_pos hf];exact⟨h5,h.2⟩
theorem Q7G{w':World}{F:Nat->Prop}{q q':Qu}(h:(quT qb q).P w F)(h':w'.heap[qb]? = some (quO q'))(hm:Mod (· = qb) w w'):(quT qb q').P w' F /\ Step F w F w':=
 ⟨⟨h',h.2⟩,hm.mono (fun j hj=>by rw[h.2];exact hj),fun j hj=>.inl hj⟩
theorem QaK(g:q.Ok){b p:Nat}(ho:Okay b p)(hb:b<=q.rb)(hp:p<=q.rp):Tri 187 #[zP qb,cx b p] (quT qb q)
  (fun v=>only (v=.int .i64 0) (quT qb {q with rb:=q.rb-b,rp:=q.rp-p,cb:=q.cb+b,cp:=q.cp+p})):=by
 intro w F R h r;have h0:w.heap[qb]? = some (quO q):=h.1;obtain⟨g1,g2,g3⟩:=g;constructor;refine vc227.ok ?_;unfold vc227;refine qready ho ⟨_,rfl,Q00 rfl ?_⟩;rintro w3 rfl;have h3:=(Ext.drew w).keep h0;refine⟨vc224.ok ?_⟩;unfold vc224;simp only[someA,Q02];refine⟨_,_,Q01 h3 rfl,sfits (by omega) (by omega) (by omega) (by omega) ⟨_,rfl,?_⟩⟩;rw[decide_eq_true ⟨ho,⟨by omega,by omega⟩,hb,hp⟩];refine Q00 rfl ⟨_,_,Q01 h3 rfl,_,_,w.drew,Q4M _ (by omega) (by omega) hb hp,?_⟩;refine Q0e (n:=1) h3 (by simp) fun w5 h5 hm5 _=>Q03 rfl ⟨_,_,Q01 h5 rfl,_,_,w5,Q1m _ (by omega) (by omega),?_⟩;refine Q0e (n:=1) h5 (by simp[setAt]) fun w6 h6 hm6 _=>?_;obtain⟨a,c⟩:=Q7G (q':={q with rb:=q.rb-b,rp:=q.rp-p,cb:=q.cb+b,cp:=q.cp+p}) h h6 (Mod.trans (Mod.trans ((Ext.drew w).mod) hm5 (fun _ _ x=>x)) hm6 (fun _ _ x=>x));exact⟨_,rfl,r _ w6 F ⟨rfl,a⟩ c⟩
theorem Q5O(g:q.Ok){b p:Nat}(ho:Okay b p)(hb:b<=q.rb)(hp:p<=q.rp):Tri 182 #[zP qb,cx b p] (quT qb q)
  (fun v=>only (v=.int .i64 0) (quT qb {q with rb:=q.rb-b,rp:=q.rp-p})):=by
 intro w F R h r;have h0:w.heap[qb]? = some (quO q):=h.1;obtain⟨g1,g2,g3⟩:=g;constructor;refine vc226.ok ?_;unfold vc226;refine qready ho ⟨_,rfl,Q00 rfl ?_⟩;simp only[someA,Q02];refine⟨vc224.ok ?_⟩;unfold vc224;simp only[someA];refine⟨_,_,Q01 h0 rfl,sfits (by omega) (by omega) (by omega) (by omega) ⟨_,rfl,?_⟩⟩;rw[decide_eq_true ⟨ho,⟨by omega,by omega⟩,hb,hp⟩];refine Q00 rfl ⟨_,_,Q01 h0 rfl,_,_,w,Q4M _ (by omega) (by omega) hb hp,?_⟩;refine Q0e (n:=1) h0 (by simp) fun w5 h5 hm5 _=>Q00 rfl ?_;obtain⟨a,c⟩:=Q7G (q':={q with rb:=q.rb-b,rp:=q.rp-p}) h h5 hm5;exact⟨_,rfl,r _ w5 F ⟨rfl,a⟩ c⟩
theorem QaL(g:q.Ok){b p:Nat}(ho:Okay b p)(hb:b<=q.cb)(hp:p<=q.cp):Tri 125 #[zP qb,cx b p] (quT qb q)
  (fun v=>only (v=.int .i64 0) (quT qb {q with cb:=q.cb-b,cp:=q.cp-p})):=by
 intro w F R h r;have h0:w.heap[qb]? = some (quO q):=h.1;obtain⟨g1,g2,g3⟩:=g;constructor;refine vc220.ok ?_;unfold vc220;refine qready ho ⟨_,rfl,Q00 rfl ?_⟩;simp only[someA,Q02];refine⟨vc224.ok ?_⟩;unfold vc224;simp only[someA];refine⟨_,_,Q01 h0 rfl,sfits (by omega) (by omega) (by omega) (by omega) ⟨_,rfl,?_⟩⟩;rw[decide_eq_true ⟨ho,⟨by omega,by omega⟩,hb,hp⟩];refine Q00 rfl ⟨_,_,Q01 h0 rfl,_,_,w,Q4M _ (by omega) (by omega) hb hp,?_⟩;refine Q0e (n:=1) h0 (by simp) fun w5 h5 hm5 _=>Q00 rfl ?_;obtain⟨a,c⟩:=Q7G (q':={q with cb:=q.cb-b,cp:=q.cp-p}) h h5 hm5;exact⟨_,rfl,r _ w5 F ⟨rfl,a⟩ c⟩
theorem QaM(g:q.Ok){b p:Nat}(ho:Okay b p)(hb:q.cb+q.rb<=b)(hp:q.cp+q.rp<=p):Tri 121 #[zP qb,cx b p] (quT qb q)
  (fun v=>only (v=.int .i64 0) (quT qb {q with lb:=b,lp:=p})):=by
 intro w F R h r;have h0:w.heap[qb]? = some (quO q):=h.1;obtain⟨g1,g2,g3⟩:=g;constructor;refine vc219.ok ?_;unfold vc219;refine qready ho ⟨_,rfl,Q00 rfl ?_⟩;rintro w3 rfl;have h3:=(Ext.drew w).keep h0;simp only[someA,Q02];refine⟨_,_,Q01 h3 rfl,_,_,Q01 h3 rfl,_,_,w.drew,Q1m _ (by omega) (by omega),rfl,sfits (by omega) (by omega) (by omega) (by omega) ⟨_,rfl,?_⟩⟩;rw[decide_eq_true ⟨⟨by omega,by omega⟩,ho,hb,hp⟩];refine Q00 rfl ?_;refine Q0e (n:=1) h3 (by simp) fun w5 h5 hm5 _=>?_;obtain⟨a,c⟩:=Q7G (q':={q with lb:=b,lp:=p}) h h5 (Mod.trans ((Ext.drew w).mod) hm5 (fun _ _ x=>x));exact r _ w5 F ⟨rfl,a⟩ c
theorem qlimit{w:World}(h0:w.heap[qb]? = some (quO q)){R:VW}(r:R (cx q.lb q.lp) w):CS 96 #[zP qb] w R:=by
 constructor;refine vc212.ok ?_;unfold vc212;exact Q00 rfl ⟨_,_,by rw[Q02];exact Q01 h0 rfl,r⟩
theorem qcharged{w:World}(h0:w.heap[qb]? = some (quO q)){R:VW}(r:R (cx q.cb q.cp) w):CS 98 #[zP qb] w R:=by
 constructor;refine vc214.ok ?_;unfold vc214;exact Q00 rfl ⟨_,_,by rw[Q02];exact Q01 h0 rfl,r⟩
theorem qnew{w:World}{b p:Nat}(ho:Okay b p){R:VW}
  (r:∀qb w',w'.heap[qb]? = some (quO ⟨b,p,0,0,0,0⟩)->Ext w w'->qb=w.heap.size->R (.tuple #[zP qb,.int .i64 0]) w'):CS 117 #[cx b p] w R:=by
 constructor;refine vc217.ok ?_;unfold vc217;refine sright (by omega) (by omega) ⟨_,rfl,?_⟩;rw[decide_eq_true ho,Q4h];exact Q00 rfl (Q09 fun a w4 ha hE4 hs4 _=>r a w4 ha hE4 hs4.symm)
end
end
section
open Go.RowKit Thing
structure Ln where
 m:Int->Option (Int × Int)
 f:Int
 l:Int
 n:Nat
def nearV(p:Int × Int):Value:=.agg #[.int .i64 p.1,.int .i64 p.2]
def lnM(m:Int->Option (Int × Int))(k:Int):Option Value:=(m k).map nearV
def updL(m:Int->Option (Int × Int))(k:Int)(v:Option (Int × Int)):Int->Option (Int × Int):=fun x=>if x=k then v else m x
theorem Q9C(m:Int->Option (Int × Int))(k:Int)(v:Option (Int × Int)):upd (lnM m) k (v.map nearV)=lnM (updL m k v):=funext fun x=>by
 unfold upd lnM updL;split <;> rfl
theorem Q4y(m:Int->Option (Int × Int))(k:Int):(lnM m k).isSome=(m k).isSome:=by unfold lnM;cases m k <;> rfl
theorem Q9B(m:Int->Option (Int × Int))(k:Int):(lnM m k).getD (.agg #[.int .i64 0,.int .i64 0])=nearV ((m k).getD (0,0)):=by unfold lnM;cases m k <;> rfl
def Ln.put(s:Ln)(k:Int)(p:Int × Int):Ln:={s with m:=updL s.m k (some p),n:=if (s.m k).isSome then s.n else s.n+1}
def Ln.del(s:Ln)(k:Int):Ln:={s with m:=updL s.m k none,n:=if (s.m k).isSome then s.n-1 else s.n}
def Ln.tie(s:Ln)(a b:Int):Ln:=
 let s1:=if a = -1 then {s with f:=b} else s.put a (((s.m a).getD (0,0)).1,b)
 if b = -1 then {s1 with l:=a} else s1.put b (a,((s1.m b).getD (0,0)).2)
structure LP (w:World) (lb mb:Nat) (s:Ln):Prop where
 head:w.heap[lb]? = some (.cells #[.map (some mb),.int .i64 s.f,.int .i64 s.l] 293 (0,0))
 map:IMap w prog 3 .i64 mb (lnM s.m) s.n
 ne:lb ≠ mb
def lnT(lb:Nat)(s:Ln):Thing where
 P w F:=∃mb,LP w lb mb s /\ F=fun j=>j=lb \/ j=mb
 keep:=by
  rintro w w' F G ⟨mb,h,rfl⟩ hm hd;exact⟨mb,⟨hm.keep h.head (hd lb (.inl rfl)),h.map.keep hm (hd mb (.inr rfl)),h.ne⟩,rfl⟩
 lt:=by
  rintro w F ⟨mb,h,rfl⟩ j (rfl | rfl)
  ·exact Q0i h.head
  ·exact h.map.lt
section
variable{w w':World}{R:VW}{lb mb:Nat}{s:Ln}
theorem LP.keep{G:Nat->Prop}(h:LP w lb mb s)(hm:Mod G w w')(h1:¬G lb)(h2:¬G mb):LP w' lb mb s:=⟨hm.keep h.head h1,h.map.keep hm h2,h.ne⟩
theorem LP.ext(h:LP w lb mb s)(hE:Ext w w'):LP w' lb mb s:=h.keep hE (fun x=>x) (fun x=>x)
theorem Q31:Tryz.prog.underlying 291=some (.map 3 299):=by kernel_rfl
theorem Qd3(w:World):(zeroValue 299).run prog w=.ok (.agg #[.int .i64 0,.int .i64 0]) w:=by kernel_rfl
theorem Q0L:Tryz.prog.underlying 3=some (.int .i64):=by kernel_rfl
theorem LP.put(h:LP w lb mb s)(hn:s.n<1000000){k:Int}(hk:I64w k)(p:Int × Int) :
  ∃w',(Instr.mapUpdate 291 (.map (some mb)) (.int .i64 k) (nearV p)).run prog w=.ok () w' /\ LP w' lb mb (s.put k p) /\ Mod (· = mb) w w':=by
 obtain⟨w',hr,hi,hm,hs⟩:=h.map.store Q0L Q31 (by simp only[maxLen];omega) hk (nearV p);refine⟨w',hr,⟨hm.keep h.head h.ne,?_,h.ne⟩,hm⟩;have e:=Q9C s.m k (some p);simp only[Option.map_some] at e;rw[e,Q4y] at hi;exact hi
theorem LP.look(h:LP w lb mb s){k:Int}(hk:I64w k):(Instr.lookup 291 (.map (some mb)) (.int .i64 k) false).run prog w=.ok (.agg #[.int .i64 ((s.m k).getD (0,0)).1,.int .i64 ((s.m k).getD (0,0)).2]) w:=by
 rw[h.map.look Q0L Q31 (Qd3 w) hk,Q9B];rfl
theorem LP.lookOk(h:LP w lb mb s){k:Int}(hk:I64w k):(Instr.lookup 291 (.map (some mb)) (.int .i64 k) true).run prog w=.ok (.tuple #[.agg #[.int .i64 ((s.m k).getD (0,0)).1,.int .i64 ((s.m k).getD (0,0)).2],.bool (s.m k).isSome]) w:=by
 rw[h.map.look_ok Q0L Q31 (Qd3 w) hk,Q9B,Q4y];rfl
theorem LP.c0(h:LP w lb mb s):w.cell? ((zA lb).add 0)=some (.map (some mb)):=by rw[Q02];exact Q01 h.head rfl
theorem LP.c1(h:LP w lb mb s):w.cell? ((zA lb).add 1)=some (.int .i64 s.f):=by rw[Q02];exact Q01 h.head rfl
theorem LP.c2(h:LP w lb mb s):w.cell? ((zA lb).add 2)=some (.int .i64 s.l):=by rw[Q02];exact Q01 h.head rfl
theorem LP.setF(h:LP w lb mb s)(x:Int){K:World->Prop}(k:∀w1,LP w1 lb mb {s with f:=x}->Mod (· = lb) w w1->K w1):WrC w ((zA lb).add 1) 1 /\ ∀w1,w1=wr w ((zA lb).add 1) [.int .i64 x]->K w1:=by
 rw[Q02];exact Q0e (n:=1) h.head (by simp) fun w1 h1 hm _=>k w1 ⟨h1,h.map.keep hm (fun e=>h.ne e.symm),h.ne⟩ hm
theorem LP.setL(h:LP w lb mb s)(x:Int){K:World->Prop}(k:∀w1,LP w1 lb mb {s with l:=x}->Mod (· = lb) w w1->K w1):WrC w ((zA lb).add 2) 1 /\ ∀w1,w1=wr w ((zA lb).add 2) [.int .i64 x]->K w1:=by
 rw[Q02];exact Q0e (n:=1) h.head (by simp) fun w1 h1 hm _=>k w1 ⟨h1,h.map.keep hm (fun e=>h.ne e.symm),h.ne⟩ hm
def lnF(lb mb:Nat)(j:Nat):Prop:=j=lb \/ j=mb
theorem LP.tieC(h:LP w lb mb s)(hn:s.n<900000){a b:Int}(ha:I64w a)(hb:I64w b)(r:∀w',LP w' lb mb (s.tie a b)->Mod (lnF lb mb) w w'->R (.tuple #[]) w') :
  CS 255 #[zP lb,.int .i64 a,.int .i64 b] w R:=by
 constructor;refine vc208.ok ?_;unfold vc208;have m1:∀ {w w':World},Mod (· = lb) w w'->Mod (lnF lb mb) w w':=fun h=>h.mono fun j e=>.inl e;have m2:∀ {w w':World},Mod (· = mb) w w'->Mod (lnF lb mb) w w':=fun h=>h.mono fun j e=>.inr e;have half:∀(s1:Ln)(w1:World),LP w1 lb mb s1->s1.n<1000000->Mod (lnF lb mb) w w1->(if b = -1 then {s1 with l:=a} else s1.put b (a,((s1.m b).getD (0,0)).2))=s.tie a b →
   ifB (b == -1) (someA (some (zA lb)) fun a2=>WrC w1 (a2.add 2) 1 /\ ∀w3,w3=wr w1 (a2.add 2) [.int .i64 a]->R (.tuple #[]) w3)
    (∀w4,w4=w1.drew->someA (some (zA lb)) fun a5=>∃p6,w4.cell? (a5.add 0)=some (.map p6) /\ someA (some (zA lb)) fun a7=>∃p8,w4.cell? (a7.add 0)=some (.map p8) /\ ∃(i9 i10:Int)(w11:World),
     Sem.run prog (Instr.lookup 291 (.map p8) (.int .i64 b) false) w4=.ok (.agg #[.int .i64 i9,.int .i64 i10]) w11 /\ w11=w4 /\ w4=w4 /\ w4=w4 /\ ∃w12,Sem.run prog (Instr.mapUpdate 291 (.map p6) (.int .i64 b) (.agg #[.int .i64 a,.int .i64 i10])) w4=.ok () w12 /\ R (.tuple #[]) w12):=by
  intro s1 w1 h1 hn1 hm e;refine Q05 (fun q=>?_) (fun q=>?_)
  ·have q:b = -1:=by simpa using q
   rw[if_pos q] at e;exact h1.setL a fun w3 h3 hm3=>r w3 (by rw[<-e];exact h3) (Mod.trans hm (m1 hm3) (fun _ _ x=>x))
  ·have q:¬b = -1:=by simpa using q
   rw[if_neg q] at e;rintro w4 rfl;have h4:=h1.ext (Ext.drew w1);obtain⟨w12,hr,h12,hm12⟩:=h4.put hn1 hb (a,((s1.m b).getD (0,0)).2);exact⟨_,h4.c0,_,h4.c0,_,_,_,h4.look hb,rfl,rfl,rfl,w12,hr,r w12 (by rw[<-e];exact h12) (Mod.trans (Mod.trans hm ((Ext.drew w1).mod) (fun _ _ x=>x)) (m2 hm12) (fun _ _ x=>x))⟩
 refine Q05 (fun q=>?_) (fun q=>?_)
 ·have q:a = -1:=by simpa using q
  refine h.setF b fun w1 h1 hm1=>half _ w1 h1 (by show s.n<_;omega) (m1 hm1) ?_;unfold Ln.tie;rw[if_pos q]
 ·have q:¬a = -1:=by simpa using q
  rintro w13 rfl;have h4:=h.ext (Ext.drew w);obtain⟨w21,hr,h21,hm21⟩:=h4.put (by omega) ha (((s.m a).getD (0,0)).1,b);refine⟨_,h4.c0,_,h4.c0,_,_,_,h4.look ha,rfl,rfl,rfl,w21,hr,half _ w21 h21 ?_ (Mod.trans ((Ext.drew w).mod) (m2 hm21) (fun _ _ x=>x)) ?_⟩
  ·show(if (s.m a).isSome then s.n else s.n+1)<_;split <;> omega
  ·unfold Ln.tie;rw[if_neg q]
theorem LP.hasC(h:LP w lb mb s){k:Int}(hk:I64w k)(r:∀w',Ext w w'->R (.bool (s.m k).isSome) w'):CS 254 #[zP lb,.int .i64 k] w R:=by
 constructor;refine vc207.ok ?_;unfold vc207;refine Q00 rfl ⟨_,h.c0,_,_,_,w,h.lookOk hk,Q09 fun b w7 hb hE hs _=>?_⟩;refine Q0e (n:=2) hb (by simp) fun w8 hb8 hm8 _=>r w8 (hE.new hm8 (fun j hj=>by subst hj;omega))
def Ln.push(s:Ln)(k:Int):Ln:=((s.put k (-1,-1)).tie s.l k).tie k (-1)
def Ln.cut(s:Ln)(k:Int):Ln:=(s.del k).tie ((s.m k).getD (0,0)).1 ((s.m k).getD (0,0)).2
theorem Ln.put_n(s:Ln)(k:Int)(p:Int × Int):(s.put k p).n<=s.n+1:=by unfold Ln.put;simp only;split <;> omega
theorem Ln.tie_n(s:Ln)(a b:Int):(s.tie a b).n<=s.n+2:=by
 have h1:(if a = -1 then {s with f:=b} else s.put a (((s.m a).getD (0,0)).1,b)).n<=s.n+1:=by
  split
  ·exact Nat.le_succ _
  ·exact Ln.put_n _ _ _
 unfold Ln.tie;generalize(if a = -1 then {s with f:=b} else s.put a (((s.m a).getD (0,0)).1,b))=s1 at h1;simp only;split
 ·show s1.n<=_;omega
 ·exact Nat.le_trans (Ln.put_n _ _ _) (by omega)
theorem LP.pushC(h:LP w lb mb s)(hn:s.n<800000){k:Int}(hk:I64w k)(hk0:0<=k)(hl:I64w s.l)
  (r0:(s.m k).isSome=true->∀w',Ext w w'->R (.int .i64 7) w') (r1:(s.m k).isSome=false->∀w',LP w' lb mb (s.push k)->Mod (lnF lb mb) w w'->R (.int .i64 0) w') :
  CS 235 #[zP lb,.int .i64 k] w R:=by
 constructor;refine vc201.ok ?_;unfold vc201;have m1:I64w (-1):=by decide
 refine Q00 rfl (Q0y (by omega) (h.hasC hk fun w1 hE=>⟨_,rfl,Q05 (fun q=>r0 q w1 hE) (fun q=>?_)⟩));have h1:=h.ext hE;obtain⟨w7,hr,h7,hm7⟩:=h1.put (by omega) hk (-1,-1);have n7:=Ln.put_n s k (-1,-1);refine⟨_,h1.c2,_,h1.c0,w7,hr,h7.tieC (by omega) hl hk fun w9 h9 hm9=>⟨rfl,?_⟩⟩;have n9:=Ln.tie_n (s.put k (-1,-1)) s.l k;refine h9.tieC (by omega) hk m1 fun w11 h11 hm11=>⟨rfl,r1 q w11 h11 ?_⟩;have a:=Mod.trans (hE.mod (F:=lnF lb mb)) (hm7.mono fun j e=>Or.inr e) (fun _ _ x=>x);exact Mod.trans (Mod.trans a hm9 (fun _ _ x=>x)) hm11 (fun _ _ x=>x)
theorem LP.cutC(h:LP w lb mb s)(hn:s.n<800000){k:Int}(hk:I64w k)(ha:∀p,s.m k=some p->I64w p.1 /\ I64w p.2)
  (r0:(s.m k).isSome=false->∀w',Ext w w'->R (.int .i64 13) w') (r1:(s.m k).isSome=true->∀w',LP w' lb mb (s.cut k)->Mod (lnF lb mb) w w'->R (.int .i64 0) w') :
  CS 233 #[zP lb,.int .i64 k] w R:=by
 constructor;refine vc200.ok ?_;unfold vc200;refine Q00 rfl (h.hasC hk fun w1 hE=>⟨_,rfl,Q05 (fun q=>r0 (by simpa using q) w1 hE) (fun q=>?_)⟩);have q:(s.m k).isSome=true:=by simpa using q
 have h1:=h.ext hE;obtain⟨p,hp⟩:=zzise.1 q;obtain⟨p1,p2⟩:=ha p hp;have hlk:=h1.look hk;rw[hp] at hlk;refine⟨_,h1.c0,_,_,w1,hlk,Q09 fun b w9 hb9 hE9 hs9 _=>?_⟩;refine Q0e (n:=2) hb9 (by simp) fun w10 hb10 hm10 hs10=>?_;have hE10:Ext w1 w10:=hE9.new hm10 (fun j hj=>by subst hj;omega);have h10:=h1.ext hE10;obtain⟨w13,hr,hi,hm13,_⟩:=h10.map.drop Q0L Q31 hk 0;have hlt:=h1.map.lt;have hb13:=hm13.keep hb10 (fun e=>by omega);have h13:LP w13 lb mb (s.del k):=⟨hm13.keep h10.head h10.ne,by
  have e:=Q9C s.m k none;simp only[Option.map_none] at e;rw[e,Q4y] at hi;exact hi,h10.ne⟩
 refine⟨_,h10.c0,w13,hr,_,by rw[Q02];exact Q01 hb13 rfl,_,by rw[Q02];exact Q01 hb13 rfl,?_⟩;have nd:(s.del k).n<=s.n:=by unfold Ln.del;simp only;split <;> omega
 refine h13.tieC (by omega) p1 p2 fun w17 h17 hm17=>⟨rfl,r1 q w17 ?_ ?_⟩
 ·unfold Ln.cut;rw[hp];exact h17
 ·have a:=Mod.trans ((hE.trans hE10).mod (F:=lnF lb mb)) (hm13.mono fun j e=>Or.inr e) (fun _ _ x=>x);exact Mod.trans a hm17 (fun _ _ x=>x)
theorem LP.frontC(h:LP w lb mb s)(r:R (.int .i64 s.f) w):CS 230 #[zP lb] w R:=by
 constructor;refine vc199.ok ?_;unfold vc199;exact Q00 rfl ⟨_,h.c1,r⟩
def Ln.none:Ln:=⟨fun _=>Option.none,-1,-1,0⟩
theorem lnew(r:∀lb w' F,(lnT lb Ln.none).P w' F->Ext w w'->(∀j,F j->w.heap.size<=j)->R (.pointer (some ⟨lb,0,Option.none⟩)) w'):CS 217 #[] w R:=by
 constructor;refine vc192.ok ?_;unfold vc192;refine⟨some w.heap.size,w.alloc (.map #[] 0),run_makeMap _ w,?_⟩;have hE1:=Ext.alloc w (.map #[] 0);have hm1:IMap (w.alloc (.map #[] 0)) prog 3 .i64 w.heap.size (fun _=>Option.none) 0:=IMap.made w prog 3 .i64;have hs1:(w.alloc (.map #[] 0)).heap.size=w.heap.size+1:=by simp
 generalize w.alloc (.map #[] 0)=w1 at hE1 hm1 hs1;refine Q09 fun lb w3 hd hE3 hs3 _=>?_;refine r lb w3 _ ⟨w.heap.size,⟨hd,hm1.ext hE3,by omega⟩,rfl⟩ (hE1.trans hE3) ?_;rintro j (rfl | rfl) <;> omega
end
end
section
def ahd(l:List Int)(i:Nat):Int:=if i=0 then -1 else(l[i-1]?).getD (-1)
def bhd(l:List Int)(i:Nat):Int:=(l[i+1]?).getD (-1)
structure LnRep (s:Ln) (l:List Int):Prop where
 nd:l.Nodup
 pos:∀x ∈ l,0<=x
 hf:s.f=(l[0]?).getD (-1)
 hl:s.l=ahd l l.length
 n:s.n=l.length
 at_:∀(i:Nat)(x:Int),l[i]? = some x->s.m x=some (ahd l i,bhd l i)
 out:∀x,x ∉ l->s.m x=none
theorem LnRep.init:LnRep Ln.none []:=⟨List.nodup_nil,fun x hx=>(by cases hx),rfl,rfl,rfl,fun i x h=>by simp at h,fun x _=>rfl⟩
theorem Q9K{l:List Int}(h:l.Nodup){i j:Nat}{x:Int}(hi:l[i]? = some x)(hj:l[j]? = some x):i=j:=
 (List.getElem?_inj (zzgsi.1 hi).1 h).1 (hi.trans hj.symm)
section
variable{s:Ln}{l:List Int}{k:Int}
theorem LnRep.there(h:LnRep s l):(s.m k).isSome=decide (k ∈ l):=by
 by_cases q:k ∈ l
 ·obtain⟨i,hi⟩:=List.getElem?_of_mem q;rw[h.at_ i k hi,decide_eq_true q];rfl
 ·rw[h.out k q,zzdcf q];rfl
theorem LnRep.front(h:LnRep s l):s.f=(l.head?).getD (-1):=by rw[h.hf,List.head?_eq_getElem?]
theorem LnRep.push(h:LnRep s l)(hk:k ∉ l)(h0:0<=k):LnRep (s.push k) (l++[k]):=by
 have hk1:k ≠ -1:=by omega
 have key:(s.push k).m=(fun x=>if x=k then some (ahd l l.length,-1)else if l ≠ [] /\ x=ahd l l.length then some (ahd l (l.length-1),k)else s.m x) /\ (s.push k).f=(if l=[] then k else s.f) /\ (s.push k).l=k /\ (s.push k).n=s.n+1:=by
  have hm:=h.out k hk;by_cases e:l=[]
  ·subst e;have hl:s.l = -1:=h.hl;have e0:ahd ([]:List Int) ([]:List Int).length = -1:=rfl;refine⟨funext fun x=>?_,?_,?_,?_⟩ <;> simp only[Ln.push,Ln.tie,hl,if_true,if_neg hk1,Ln.put,updL,hm,e0]
   ·by_cases q:x=k <;> simp[q]
   ·simp
  ·have hlen:0<l.length:=List.length_pos_iff.2 e;obtain⟨y,hy⟩:∃y,l[l.length-1]? = some y:=⟨_,zzgge (by omega)⟩;have ey:ahd l l.length=y:=by unfold ahd;rw[if_neg (by omega),hy];rfl
   have hl:s.l=y:=by rw[h.hl,ey]
   have hyl:y ∈ l:=zzmog hy;have hy0:=h.pos y hyl;have hy1:y ≠ -1:=by omega
   have hyk:y ≠ k:=fun q=>hk (q ▸ hyl);have hky:k ≠ y:=fun q=>hyk q.symm;have hmy:=h.at_ _ _ hy;refine⟨funext fun x=>?_,?_,?_,?_⟩ <;> simp only[Ln.push,Ln.tie,hl,if_neg hy1,if_neg hk1,if_true,Ln.put,updL,if_neg hyk,if_neg hky,hm,hmy,ey,e]
   ·by_cases q:x=k
    ·simp[q]
    ·by_cases q2:x=y <;> simp[q,q2,hyk,e]
   ·simp
   ·simp[hyk,hky,hmy,hm]
 obtain⟨k1,k2,k3,k4⟩:=key;have hL:(l++[k]).length=l.length+1:=by simp
 have gl:∀i,i<l.length->(l++[k])[i]? = l[i]?:=fun i hi=>List.getElem?_append_left hi;have gk:(l++[k])[l.length]? = some k:=by simp
 refine⟨?_,?_,?_,?_,?_,?_,?_⟩
 ·exact List.nodup_append.2 ⟨h.nd,by simp,fun a ha b hb=>by simp at hb;subst hb;exact fun q=>hk (q ▸ ha)⟩
 ·intro x hx;rcases zzmpd.1 hx with hx | hx
  ·exact h.pos x hx
  ·simp at hx;omega
 ·rw[k2];by_cases e:l=[]
  ·subst e;rfl
  ·have hlen:0<l.length:=List.length_pos_iff.2 e;rw[if_neg e,gl 0 hlen,h.hf]
 ·rw[k3,hL];unfold ahd;rw[if_neg (by omega),Nat.add_sub_cancel,gk];rfl
 ·rw[k4,hL,h.n]
 ·intro i x hx;rw[k1];by_cases hi:i=l.length
  ·subst hi;rw[gk] at hx;cases hx;simp only[if_true];congr 2
   ·unfold ahd;by_cases e:l.length=0
    ·rw[if_pos e,if_pos e]
    ·rw[if_neg e,if_neg e,gl _ (by omega)]
   ·unfold bhd;rw[List.getElem?_eq_none (by rw[hL];omega)];rfl
  ·have hil:i<l.length:=by have:=(zzgsi.1 hx).1;omega
   rw[gl i hil] at hx;have hxl:=zzmog hx;have hxk:x ≠ k:=fun q=>hk (q ▸ hxl);have eahd:ahd (l++[k]) i=ahd l i:=by
    unfold ahd;by_cases e:i=0
    ·rw[if_pos e,if_pos e]
    ·rw[if_neg e,if_neg e,gl _ (by omega)]
   simp only[if_neg hxk];by_cases hlast:i+1=l.length
   ·have ex:x=ahd l l.length:=by
     unfold ahd;rw[if_neg (by omega),show l.length-1=i by omega,hx];rfl
    have hne:l ≠ []:=fun q=>by rw[q] at hil;simp at hil
    rw[if_pos ⟨hne,ex⟩,eahd,show l.length-1=i by omega];congr 2;unfold bhd;rw[hlast,gk];rfl
   ·have hnx:¬(l ≠ [] /\ x=ahd l l.length):=fun q=>by
     have:l[l.length-1]? = some x:=by
      have q2:=q.2;unfold ahd at q2;rw[if_neg (by omega)] at q2;obtain⟨y,hy⟩:∃y,l[l.length-1]? = some y:=⟨_,zzgge (by omega)⟩;rw[hy] at q2 ⊢;rw[q2];rfl
     have:=Q9K h.nd hx this;omega
    rw[if_neg hnx,h.at_ i x hx,eahd];congr 2;unfold bhd;rw[gl _ (by omega)]
 ·intro x hx;have h1:x ∉ l:=fun q=>hx (zzmal _ q);have h2:x ≠ k:=fun q=>hx (by rw[q];simp);rw[k1];simp only[if_neg h2];rw[if_neg,h.out x h1];rintro⟨e,q⟩;have hlen:0<l.length:=List.length_pos_iff.2 e;obtain⟨y,hy⟩:∃y,l[l.length-1]? = some y:=⟨_,zzgge (by omega)⟩;have ey:ahd l l.length=y:=by unfold ahd;rw[if_neg (by omega),hy];rfl
  rw[ey] at q;exact h1 (q ▸ zzmog hy)
theorem LnRep.cut{a b:List Int}(h:LnRep s (a++k :: b)):LnRep (s.cut k) (a++b):=by
 have hnd:=h.nd;obtain⟨na,nkb,dab⟩:=List.nodup_append.1 hnd;obtain⟨nk,nb⟩:=List.nodup_cons.1 nkb;have hka:k ∉ a:=fun q=>dab k q k (by simp) rfl;have g1:∀i,i<a.length->(a++k :: b)[i]? = a[i]?:=fun i hi=>List.getElem?_append_left hi;have g2:(a++k :: b)[a.length]? = some k:=by simp
 have g3:∀i,(a++k :: b)[a.length+1+i]? = b[i]?:=fun i=>by
  rw[List.getElem?_append_right (by omega),show a.length+1+i-a.length=i+1 by omega];rfl
 have e1:∀i,i<a.length->(a++b)[i]? = a[i]?:=fun i hi=>List.getElem?_append_left hi;have e2:∀i,(a++b)[a.length+i]? = b[i]?:=fun i=>by
  rw[List.getElem?_append_right (by omega),Nat.add_sub_cancel_left]
 have hk:=h.at_ _ _ g2;have hlen:(a++k :: b).length=a.length+b.length+1:=by simp;omega
 have hp:ahd (a++k :: b) a.length=ahd (a++b) a.length:=by
  unfold ahd;by_cases q:a.length=0
  ·rw[if_pos q,if_pos q]
  ·rw[if_neg q,if_neg q,g1 _ (by omega),e1 _ (by omega)]
 have hq:bhd (a++k :: b) a.length=(b[0]?).getD (-1):=by
  unfold bhd;have:=g3 0;rw[Nat.add_zero] at this;rw[this]
 have hP:(a=[] /\ ahd (a++b) a.length = -1) \/ ∃y,a ≠ [] /\ a[a.length-1]? = some y /\ ahd (a++b) a.length=y /\ y ≠ -1 /\ y ≠ k /\ y ∉ b:=by
  by_cases e:a=[]
  ·subst e;exact .inl ⟨rfl,rfl⟩
  ·have hl0:0<a.length:=List.length_pos_iff.2 e;obtain⟨y,hy⟩:∃y,a[a.length-1]? = some y:=⟨_,zzgge (by omega)⟩;have hya:=zzmog hy;have:=h.pos y (zzmal _ hya);refine .inr ⟨y,e,hy,?_,by omega,fun q=>hka (q ▸ hya),fun q=>dab y hya y (by simp[q]) rfl⟩;unfold ahd;rw[if_neg (by omega),e1 _ (by omega),hy];rfl
 have hQ:(b=[] /\ (b[0]?).getD (-1)=(-1:Int)) \/ ∃z,b ≠ [] /\ b[0]? = some z /\ (b[0]?).getD (-1)=z /\ z ≠ -1 /\ z ≠ k /\ z ∉ a:=by
  cases b with
  | nil=>exact .inl ⟨rfl,rfl⟩
  | cons z t=>
   have:=h.pos z (by simp);exact .inr ⟨z,by simp,rfl,rfl,by omega,fun q=>nk (by rw[<-q];simp),fun q=>dab z q z (by simp) rfl⟩
 have hn:=h.n;have key:(s.cut k).m=(fun x=>if x=k then none else if b[0]? = some x then some (ahd (a++b) a.length,bhd (a++k :: b) (a.length+1))else if a ≠ [] /\ a[a.length-1]? = some x then some (ahd (a++k :: b) (a.length-1),(b[0]?).getD (-1))else s.m x) /\
   (s.cut k).f=(if a=[] then(b[0]?).getD (-1)else s.f) /\ (s.cut k).l=(if b=[] then ahd (a++b) a.length else s.l) /\ (s.cut k).n=s.n-1:=by
  have cutE:s.cut k=(s.del k).tie (ahd (a++b) a.length) ((b[0]?).getD (-1)):=by unfold Ln.cut;rw[hk,hp,hq];rfl
  have mk:∀x,(s.del k).m x=if x=k then none else s.m x:=fun x=>rfl
  have nk':(s.del k).n=s.n-1:=by unfold Ln.del;simp[hk]
  rw[cutE];rcases hP with⟨ea,eP⟩ | ⟨y,ea,hy,eP,y1,yk,yb⟩ <;> rcases hQ with⟨eb,eQ⟩ | ⟨z,eb,hz,eQ,z1,zk,za⟩
  ·rw[eP,eQ];refine⟨funext fun x=>?_,?_,?_,?_⟩
   ·simp[Ln.tie,mk,ea,eb]
   ·simp[Ln.tie,ea]
   ·simp[Ln.tie,eb]
   ·simp[Ln.tie,nk']
  ·have gz:=h.at_ _ _ ((g3 0).trans hz);rw[Nat.add_zero] at gz;rw[eP,eQ];refine⟨funext fun x=>?_,?_,?_,?_⟩
   ·by_cases q:x=z
    ·subst q;simp[Ln.tie,Ln.put,updL,mk,z1,zk,hz,gz]
    ·have q':¬z=x:=fun e=>q e.symm;simp[Ln.tie,Ln.put,updL,mk,z1,hz,q,q',ea]
   ·simp[Ln.tie,Ln.put,z1,ea]
   ·simp[Ln.tie,Ln.put,z1,eb];rfl
   ·simp[Ln.tie,Ln.put,z1,mk,zk,gz,nk']
  ·have gy:=h.at_ _ _ ((g1 (a.length-1) (by have:=List.length_pos_iff.2 ea;omega)).trans hy);rw[eP,eQ];have hb0:b[0]? = none:=by rw[eb];rfl
   refine⟨funext fun x=>?_,?_,?_,?_⟩
   ·by_cases q:x=y
    ·subst q;simp[Ln.tie,Ln.put,updL,mk,y1,yk,hb0,ea,hy,gy]
    ·have q':¬y=x:=fun e=>q e.symm;simp[Ln.tie,Ln.put,updL,mk,y1,hb0,ea,hy,q,q']
   ·simp[Ln.tie,Ln.put,y1,ea];rfl
   ·simp[Ln.tie,Ln.put,y1,eb]
   ·simp[Ln.tie,Ln.put,y1,mk,yk,gy,nk']
  ·have gz:=h.at_ _ _ ((g3 0).trans hz);rw[Nat.add_zero] at gz;have gy:=h.at_ _ _ ((g1 (a.length-1) (by have:=List.length_pos_iff.2 ea;omega)).trans hy);rw[eP,eQ];have yz:y ≠ z:=fun q=>yb (by rw[q];exact zzmog hz);have zy:z ≠ y:=fun q=>yz q.symm;refine⟨funext fun x=>?_,?_,?_,?_⟩
   ·by_cases q:x=z
    ·subst q;simp[Ln.tie,Ln.put,updL,mk,y1,z1,zk,zy,hz,gz]
    ·have q':¬z=x:=fun e=>q e.symm;by_cases q2:x=y
     ·subst q2;simp[Ln.tie,Ln.put,updL,mk,y1,z1,yk,q,q',hz,ea,hy,gy]
     ·have q2':¬y=x:=fun e=>q2 e.symm;simp[Ln.tie,Ln.put,updL,mk,y1,z1,q,q',q2,q2',hz,ea,hy]
   ·simp[Ln.tie,Ln.put,y1,z1,ea];rfl
   ·simp[Ln.tie,Ln.put,y1,z1,eb];rfl
   ·simp[Ln.tie,Ln.put,updL,y1,z1,mk,yk,gy,zk,zy,gz,nk']
 obtain⟨k1,k2,k3,k4⟩:=key;have hL:(a++b).length=a.length+b.length:=zzlna;have ahd_lo:∀i,i<=a.length->ahd (a++b) i=ahd (a++k :: b) i:=fun i hi=>by
  unfold ahd;by_cases q:i=0
  ·rw[if_pos q,if_pos q]
  ·rw[if_neg q,if_neg q,g1 _ (by omega),e1 _ (by omega)]
 have ahd_hi:∀i,ahd (a++b) (a.length+1+i)=ahd (a++k :: b) (a.length+2+i):=fun i=>by
  unfold ahd;rw[if_neg (by omega),if_neg (by omega),show a.length+1+i-1=a.length+i by omega,show a.length+2+i-1=a.length+1+i by omega,e2,g3]
 have bhd_lo:∀i,i+1<a.length->bhd (a++b) i=bhd (a++k :: b) i:=fun i hi=>by
  unfold bhd;rw[g1 _ hi,e1 _ hi]
 have bhd_hi:∀i,bhd (a++b) (a.length+i)=bhd (a++k :: b) (a.length+1+i):=fun i=>by
  unfold bhd;rw[show a.length+i+1=a.length+(i+1) by omega,e2,show a.length+1+i+1=a.length+1+(i+1) by omega,g3]
 have mem:∀x,x ∈ a++k :: b ↔ x=k \/ x ∈ a++b:=fun x=>by simp only[zzmpd,List.mem_cons];constructor <;> (intro q;rcases q with q | q | q <;> simp[q])
 have hkab:k ∉ a++b:=fun q=>(zzmpd.1 q).elim hka nk;refine⟨?_,fun x hx=>h.pos x ((mem x).2 (.inr hx)),?_,?_,?_,?_,?_⟩
 ·exact List.nodup_append.2 ⟨na,nb,fun x hx y hy=>dab x hx y (by simp[hy])⟩
 ·rw[k2];by_cases e:a=[]
  ·subst e;rw[if_pos rfl];rfl
  ·have hl0:0<a.length:=List.length_pos_iff.2 e;rw[if_neg e,h.hf,g1 0 hl0,e1 0 hl0]
 ·rw[k3];by_cases e:b=[]
  ·subst e;rw[if_pos rfl,List.append_nil]
  ·have hl0:0<b.length:=List.length_pos_iff.2 e;rw[if_neg e,h.hl,hlen,hL,show a.length+b.length=a.length+1+(b.length-1) by omega,ahd_hi];congr 1;omega
 ·rw[k4,hn,hlen,hL];omega
 ·intro i x hx;have hxm:=zzmog hx;have hxk:x ≠ k:=fun q=>hkab (q ▸ hxm);rw[k1];simp only[if_neg hxk];by_cases hi:i<a.length
  ·rw[e1 i hi] at hx;have hxa:=zzmog hx;have nb0:¬b[0]? = some x:=fun q=>dab x hxa x (by simp[zzmog q]) rfl;rw[if_neg nb0];by_cases hlast:i+1=a.length
   ·have hne:a ≠ []:=fun q=>by rw[q] at hi;simp at hi
    rw[if_pos ⟨hne,by rw[show a.length-1=i by omega];exact hx⟩,show a.length-1=i by omega,ahd_lo i (by omega)];congr 2;unfold bhd;have:=e2 0;rw[Nat.add_zero] at this;rw[hlast,this]
   ·have hn2:¬(a ≠ [] /\ a[a.length-1]? = some x):=fun q=>by
     have:=Q9K na hx q.2;omega
    rw[if_neg hn2,h.at_ i x ((g1 i hi).trans hx),ahd_lo i (by omega),bhd_lo i (by omega)]
  ·obtain⟨j,rfl⟩:∃j,i=a.length+j:=⟨i-a.length,by omega⟩;rw[e2] at hx;have hxb:=zzmog hx;have hxa:x ∉ a:=fun q=>dab x q x (by simp[hxb]) rfl;by_cases hj:j=0
   ·subst hj;rw[if_pos hx,Nat.add_zero];congr 2;have:=bhd_hi 0;rw[Nat.add_zero,Nat.add_zero] at this;exact this.symm
   ·have nb0:¬b[0]? = some x:=fun q=>hj (Q9K nb hx q);have hn2:¬(a ≠ [] /\ a[a.length-1]? = some x):=fun q=>hxa (zzmog q.2);rw[if_neg nb0,if_neg hn2,h.at_ _ x ((g3 j).trans hx),bhd_hi];congr 2;obtain⟨j',rfl⟩:∃j',j=j'+1:=⟨j-1,by omega⟩;rw[show a.length+(j'+1)=a.length+1+j' by omega,ahd_hi];congr 1;omega
 ·intro x hx;rw[k1];by_cases hxk:x=k
  ·simp only[if_pos hxk]
  ·have hx1:x ∉ a++k :: b:=fun q=>((mem x).1 q).elim hxk hx;have nb0:¬b[0]? = some x:=fun q=>hx (List.mem_append_right _ (zzmog q));have hn2:¬(a ≠ [] /\ a[a.length-1]? = some x):=fun q=>hx (zzmal _ (zzmog q.2));simp only[if_neg hxk,if_neg nb0,if_neg hn2];exact h.out x hx1
end
end
section
open Go.RowKit Thing
def liT(lb:Nat)(l:List Int):Thing where
 P w F:=∃s,LnRep s l /\ (∀x ∈ l,x<1000000) /\ (lnT lb s).P w F
 keep:=by
  rintro w w' F G ⟨s,h,hb,p⟩ hm hd;exact⟨s,h,hb,(lnT lb s).keep p hm hd⟩
 lt:=by
  rintro w F ⟨s,h,hb,p⟩;exact(lnT lb s).lt p
theorem Q18{l:List Int}(nd:l.Nodup)(h0:∀x ∈ l,0<=x){n:Nat}(h1:∀x ∈ l,x<(n:Int)):l.length<=n:=by
 have hm:(l.map Int.toNat).Nodup:=by
  refine List.nodup_iff_pairwise_ne.2 (List.pairwise_map.2 ?_);refine(List.nodup_iff_pairwise_ne.1 nd).imp_of_mem fun {a b} ha hb hab e=>hab ?_;have:=h0 a ha;have:=h0 b hb;omega
 have hs:(l.map Int.toNat) ⊆ List.range n:=by
  intro y hy;obtain⟨x,hx,rfl⟩:=List.mem_map.1 hy;have:=h0 x hx;have:=h1 x hx;rw[List.mem_range];omega
 have:=hm.length_le_of_subset hs;simpa using this
section
variable{w:World}{lb:Nat}{l:List Int}{k:Int}
theorem QbK{F:Nat->Prop}(h:(liT lb l).P w F):l.Nodup /\ (∀x ∈ l,0<=x /\ x<1000000):=by
 obtain⟨s,g,hb,p⟩:=h;exact⟨g.nd,fun x hx=>⟨g.pos x hx,hb x hx⟩⟩
theorem Q7V{R:VW}{F:Nat->Prop}(h:(liT lb l).P w F)(r:R (.int .i64 (l.head?.getD (-1))) w):CS 230 #[zP lb] w R:=by
 obtain⟨s,g,hb,⟨mb,p,rfl⟩⟩:=h;rw[<-g.front] at r;exact p.frontC r
theorem QaH(hk:0<=k)(hk1:k<1000000)(hl:l.length<800000):Tri 235 #[zP lb,.int .i64 k] (liT lb l)
  (fun v=>if k ∈ l then only (v=.int .i64 7) (liT lb l)else only (v=.int .i64 0) (liT lb (l++[k]))):=by
 rintro w F R ⟨s,g,hb,⟨mb,p,rfl⟩⟩ r;have hsl:I64w s.l:=by
  rw[g.hl];unfold ahd;split
  ·exact(by decide)
  ·cases hx:l[l.length-1]? with
   | none=>exact(by decide)
   | some x=>
    have hm:=zzmog hx;have h1:=g.pos x hm;have h2:=hb x hm;exact i64w (by simp;omega) (by simp;omega)
 refine p.pushC (by rw[g.n];omega) (i64w (by omega) (by omega)) hk hsl (fun q w' hE=>?_) (fun q w' p' hm=>?_)
 ·have hkl:k ∈ l:=by rw[g.there] at q;exact zzodt q
  refine r _ w' _ ?_ (Step.ext hE);show Thing.P (if k ∈ l then _ else _) _ _;rw[if_pos hkl];exact⟨rfl,s,g,hb,mb,p.ext hE,rfl⟩
 ·have hkl:k ∉ l:=by rw[g.there] at q;exact of_decide_eq_false q
  refine r _ w' (fun j=>j=lb \/ j=mb) ?_ ⟨hm,fun j hj=>.inl hj⟩;show Thing.P (if k ∈ l then _ else _) _ _;rw[if_neg hkl];refine⟨rfl,_,g.push hkl hk,fun x hx=>?_,mb,p',rfl⟩;rcases zzmpd.1 hx with hx | hx
  ·exact hb x hx
  ·simp at hx;omega
theorem Qdj(hk:0<=k)(hk1:k<1000000)(hl:l.length<800000):Tri 233 #[zP lb,.int .i64 k] (liT lb l)
  (fun v=>if k ∈ l then only (v=.int .i64 0) (liT lb (l.erase k))else only (v=.int .i64 13) (liT lb l)):=by
 rintro w F R ⟨s,g,hb,⟨mb,p,rfl⟩⟩ r;have at_w:∀q:Int × Int,s.m k=some q->I64w q.1 /\ I64w q.2:=fun q hq=>by
  by_cases hkl:k ∈ l
  ·obtain⟨i,hi⟩:=List.getElem?_of_mem hkl;rw[g.at_ i k hi] at hq;cases hq;constructor
   ·show I64w (ahd l i);unfold ahd;split
    ·exact(by decide)
    ·cases hx:l[i-1]? with
     | none=>exact(by decide)
     | some x=>
      have hm:=zzmog hx;have h1:=g.pos x hm;have h2:=hb x hm;exact i64w (by simp;omega) (by simp;omega)
   ·show I64w (bhd l i);unfold bhd;cases hx:l[i+1]? with
    | none=>exact(by decide)
    | some x=>
     have hm:=zzmog hx;have h1:=g.pos x hm;have h2:=hb x hm;exact i64w (by simp;omega) (by simp;omega)
  ·rw[g.out k hkl] at hq;cases hq
 refine p.cutC (by rw[g.n];omega) (i64w (by omega) (by omega)) at_w (fun q w' hE=>?_) (fun q w' p' hm=>?_)
 ·have hkl:k ∉ l:=by rw[g.there] at q;exact of_decide_eq_false q
  refine r _ w' _ ?_ (Step.ext hE);show Thing.P (if k ∈ l then _ else _) _ _;rw[if_neg hkl];exact⟨rfl,s,g,hb,mb,p.ext hE,rfl⟩
 ·have hkl:k ∈ l:=by rw[g.there] at q;exact zzodt q
  refine r _ w' (fun j=>j=lb \/ j=mb) ?_ ⟨hm,fun j hj=>.inl hj⟩;show Thing.P (if k ∈ l then _ else _) _ _;rw[if_pos hkl];obtain⟨a,b,e,hka⟩:=List.append_of_mem hkl |> fun⟨a,b,e⟩=>(⟨a,b,e,by
   intro q;rw[e] at g;exact(List.nodup_append.1 g.nd).2.2 k q k (by simp) rfl⟩:∃a b,l=a++k :: b /\ k ∉ a)
  subst e;have ee:(a++k :: b).erase k=a++b:=by rw[List.erase_append_right _ hka,List.erase_cons_head]
  rw[ee];refine⟨rfl,_,g.cut,fun x hx=>hb x ?_,mb,p',rfl⟩;rcases zzmpd.1 hx with hx | hx
  ·exact zzmal _ hx
  ·exact List.mem_append_right _ (zzmcm _ hx)
end
end
section
open Go.RowKit Thing
section
variable{w w':World}{F1 F2:Nat->Prop}{C:Thing}{ap tb:Nat}{bs bs':List UInt8}{ts ts':List Tch}{T:Tb}
theorem Q4a(c:C.P w F2)(d:∀j,F1 j->¬F2 j)(hp:Post w 125 ap F1 bs' ts' w'):∃F',(arT ap bs' ts'*C).P w' F' /\ Step (fun j=>F1 j \/ F2 j) w F' w':=by
 obtain⟨F',a,m,f⟩:=hp;obtain⟨p,s⟩:=Q0O (B:=arT ap bs' ts') c d a ⟨m,f⟩;exact⟨_,p,s⟩
theorem Qfa(hl:ts.length<400000000000)(addr n:Int):Tri 135 #[zP ap,zP tb,.int .i64 addr,.int .i64 n] (arT ap bs ts*tbT tb T)
  (fun v=>only (v=.tuple #[.string (strOf (rdB bs (vL T bs.length addr n))),.int .i64 (vE T bs.length addr n)]) (arT ap bs (ts++tchL (vL T bs.length addr n) false)*tbT tb T)):=by
 rintro w F R ⟨F1,F2,a,⟨m1,m2,h,rfl⟩,d,rfl⟩ r;refine vread a h (by omega) addr n fun w' hp=>?_;obtain⟨F',p,s⟩:=Q4a (C:=tbT tb T) ⟨m1,m2,h,rfl⟩ d hp;exact r _ w' F' ⟨rfl,p⟩ s
theorem Qcs(hl:ts.length<400000000000)(addr:Int)(x:ByteArray):Tri 136 #[zP ap,zP tb,.int .i64 addr,.string x] (arT ap bs ts*tbT tb T)
  (fun v=>only (v=.int .i64 (vE T bs.length addr x.size)) (arT ap (wrB bs (vL T bs.length addr x.size) (bytesOf x)) (ts++tchL (vL T bs.length addr x.size) true)*tbT tb T)):=by
 rintro w F R ⟨F1,F2,a,⟨m1,m2,h,rfl⟩,d,rfl⟩ r;refine vwrite a h (by omega) addr x fun w' hp=>?_;obtain⟨F',p,s⟩:=Q4a (C:=tbT tb T) ⟨m1,m2,h,rfl⟩ d hp;exact r _ w' F' ⟨rfl,p⟩ s
theorem Qfb(hl:ts.length<400000000000)(addr n:Int):Tri 132 #[zP ap,zP tb,.int .i64 addr,.int .i64 n] (arT ap bs ts*tbT tb T)
  (fun v=>only (v=.int .i64 (vE T bs.length addr n)) (arT ap (zrB bs (vL T bs.length addr n)) (ts++tchL (vL T bs.length addr n) true)*tbT tb T)):=by
 rintro w F R ⟨F1,F2,a,⟨m1,m2,h,rfl⟩,d,rfl⟩ r;refine vzero a h (by omega) addr n fun w' hp=>?_;obtain⟨F',p,s⟩:=Q4a (C:=tbT tb T) ⟨m1,m2,h,rfl⟩ d hp;exact r _ w' F' ⟨rfl,p⟩ s
theorem Qf9(hl:ts.length<400000000000)(to from_ n:Int):Tri 133 #[zP ap,zP tb,.int .i64 to,.int .i64 from_,.int .i64 n] (arT ap bs ts*tbT tb T)
  (fun v=>only (v=.int .i64 (cpE T bs.length to from_ n)) (arT ap (cpB T bs to from_ n) (cpT T bs.length ts to from_ n)*tbT tb T)):=by
 rintro w F R ⟨F1,F2,a,⟨m1,m2,h,rfl⟩,d,rfl⟩ r;refine vcopy a h (fun j hj hk=>d j hk hj) (by omega) to from_ n fun w' hp=>?_;obtain⟨F',p,s⟩:=Q4a (C:=tbT tb T) ⟨m1,m2,h,rfl⟩ d hp;exact r _ w' F' ⟨rfl,p⟩ s
theorem QaA(hl:ts.length<400000000000){a n:Nat}(hn:a+n<=bs.length)(h0:0<n):Tri 171 #[zP ap,.int .i64 (a:Int),.int .i64 (n:Int)] (arT ap bs ts)
  (fun v=>only (v=.int .i64 0) (arT ap (putAt bs a (List.replicate n 0)) (ts++[((a:Int),(n:Int),true)]))):=by
 intro w F R h r;have ok:OkA bs.length (a:Int) (n:Int):=⟨by omega,by omega,by omega⟩;refine .of (Q5a h _ _ (by omega)) ?_;rintro v w1 ⟨rfl,hp⟩;rw[if_pos ok] at hp ⊢;rw[if_pos ok,noteA,if_pos (by omega),zztnc,zztnc] at hp;obtain⟨F',p,m,f⟩:=hp;exact r _ w1 F' ⟨rfl,p⟩ ⟨m,f⟩
theorem QeL(hl:ts.length<400000000000){t a n:Nat}(ht:t+n<=bs.length)(hn:a+n<=bs.length)(h0:0<n):Tri 170 #[zP ap,.int .i64 (t:Int),.int .i64 (a:Int),.int .i64 (n:Int)] (arT ap bs ts)
  (fun v=>only (v=.int .i64 0) (arT ap (putAt bs t (seg bs a n)) (ts++[((a:Int),(n:Int),false)]++[((t:Int),(n:Int),true)]))):=by
 intro w F R h r;have ok:OkA bs.length (t:Int) (n:Int) /\ OkA bs.length (a:Int) (n:Int):=⟨⟨by omega,by omega,by omega⟩,⟨by omega,by omega,by omega⟩⟩;refine .of (Qbs h _ _ _ (by omega)) ?_;rintro v w1 ⟨rfl,hp⟩;rw[if_pos ok] at hp ⊢;rw[if_pos ok,noteA,if_pos (by omega),noteA,if_pos (by omega),zztnc,zztnc,zztnc] at hp;obtain⟨F',p,m,f⟩:=hp;exact r _ w1 F' ⟨rfl,p⟩ ⟨m,f⟩
theorem Qgr(hl:T.length<1000000)(v p:Int):Tri 249 #[zP tb,.int .i64 v,.int .i64 p] (tbT tb T) (fun u=>only (u=.int .i64 (mapE T v p)) (tbT tb (mapT T v p))):=by
 rintro w F R ⟨m1,m2,h,rfl⟩ r;exact h.map hl v p fun w' h' m=>r _ w' _ ⟨rfl,m1,m2,h',rfl⟩ ⟨m,fun j hj=>.inl hj⟩
theorem Q6E{F:Nat->Prop}{v:Int}(h:(tbT tb T).P w F)(hv:I64w v){R:VW}(r:R (.int .i64 (fnd T v)) w):CS 48 #[zP tb,.int .i64 v] w R:=by
 obtain⟨m1,m2,h,_⟩:=h;exact h.find hv r
theorem Qgs{R:VW}(r:∀tb w' F,(tbT tb []).P w' F->Ext w w'->(∀j,F j->w.heap.size<=j)->R ((zP tb)) w'):CS 164 #[] w R:=
 Qcw w fun tb m1 m2 w' h hE hn=>r tb w' _ ⟨m1,m2,h,rfl⟩ hE hn
end
end
set_option maxRecDepth 100000
section
open Go.RowKit
def srtRen:Go.Shelf.Ren:=
 {f:=fun n=>cond (Nat.beq n 125) 94 (cond (Nat.beq n 128) 149 (cond (Nat.beq n 129) 150 (cond (Nat.beq n 189) 49 (cond (Nat.beq n 215) 206 (cond (Nat.beq n 216) 146 (cond (Nat.beq n 257) 93 (cond (Nat.beq n 294) 140 (cond (Nat.beq n 295) 141 (cond (Nat.beq n 296) 142 (cond (Nat.beq n 297) 143 (cond (Nat.beq n 298) 144 (cond (Nat.beq n 299) 145 (cond (Nat.beq n 300) 147 (cond (Nat.beq n 301) 148 (cond (Nat.beq n 328) 201 (cond (Nat.beq n 329) 202 (cond (Nat.beq n 330) 203 (cond (Nat.beq n 331) 204 (cond (Nat.beq n 332) 205 (cond (Nat.beq n 343) 244 (0))))))))))))))))))))),t:=fun n=>cond (Nat.beq n 0) 0 (cond (Nat.beq n 3) 3 (cond (Nat.beq n 4) 4 (cond (Nat.beq n 5) 5 (cond (Nat.beq n 9) 9 (cond (Nat.beq n 28) 37 (cond (Nat.beq n 46) 50 (cond (Nat.beq n 51) 214 (cond (Nat.beq n 53) 33 (cond (Nat.beq n 131) 49 (cond (Nat.beq n 182) 207 (cond (Nat.beq n 183) 208 (cond (Nat.beq n 218) 259 (cond (Nat.beq n 222) 169 (cond (Nat.beq n 228) 287 (cond (Nat.beq n 229) 288 (0)))))))))))))))),g:=fun _=>0}
theorem srtLays:Go.Proofs.Lays.n189 prog srtRen:=
 {mixed:=by kernel_rfl,f125:=by kernel_rfl,f128:=by kernel_rfl,f129:=by kernel_rfl,f189:=by kernel_rfl,f215:=by kernel_rfl,f216:=by kernel_rfl,f257:=by kernel_rfl,f294:=by kernel_rfl,f295:=by kernel_rfl,f296:=by kernel_rfl,f297:=by kernel_rfl,f298:=by kernel_rfl,f299:=by kernel_rfl,f300:=by kernel_rfl,f301:=by kernel_rfl,f328:=by kernel_rfl,f329:=by kernel_rfl,f330:=by kernel_rfl,f331:=by kernel_rfl,f332:=by kernel_rfl,f343:=by kernel_rfl,t0:=by kernel_rfl,a0:=fun _=>by kernel_rfl,z0:=fun _=>by kernel_rfl,v0:=fun _=>by kernel_rfl,t3:=by kernel_rfl,a3:=fun _=>by kernel_rfl,z3:=fun _=>by kernel_rfl,v3:=fun _=>by kernel_rfl,t4:=by kernel_rfl,a4:=fun _=>by kernel_rfl,z4:=fun _=>by kernel_rfl,v4:=fun _=>by kernel_rfl,t5:=by kernel_rfl,a5:=fun _=>by kernel_rfl,z5:=fun _=>by kernel_rfl,v5:=fun _=>by kernel_rfl,t9:=by kernel_rfl,a9:=fun _=>by kernel_rfl,z9:=fun _=>by kernel_rfl,v9:=fun _=>by kernel_rfl,t28:=by kernel_rfl,a28:=fun _=>by kernel_rfl,z28:=fun _=>by kernel_rfl,v28:=fun _=>by kernel_rfl,t46:=by kernel_rfl,a46:=fun _=>by kernel_rfl,z46:=fun _=>by kernel_rfl,v46:=fun _=>by kernel_rfl,t51:=by kernel_rfl,a51:=fun _=>by kernel_rfl,z51:=fun _=>by kernel_rfl,v51:=fun _=>by kernel_rfl,t53:=by kernel_rfl,a53:=fun _=>by kernel_rfl,z53:=fun _=>by kernel_rfl,v53:=fun _=>by kernel_rfl,t131:=by kernel_rfl,a131:=fun _=>by kernel_rfl,z131:=fun _=>by kernel_rfl,v131:=fun _=>by kernel_rfl,t182:=by kernel_rfl,a182:=fun _=>by kernel_rfl,z182:=fun _=>by kernel_rfl,v182:=fun _=>by kernel_rfl,t183:=by kernel_rfl,a183:=fun _=>by kernel_rfl,z183:=fun _=>by kernel_rfl,v183:=fun _=>by kernel_rfl,t218:=by kernel_rfl,a218:=fun _=>by kernel_rfl,z218:=fun _=>by kernel_rfl,v218:=fun _=>by kernel_rfl,t222:=by kernel_rfl,a222:=fun _=>by kernel_rfl,z222:=fun _=>by kernel_rfl,v222:=fun _=>by kernel_rfl,t228:=by kernel_rfl,a228:=fun _=>by kernel_rfl,z228:=fun _=>by kernel_rfl,v228:=fun _=>by kernel_rfl,t229:=by kernel_rfl,a229:=fun _=>by kernel_rfl,z229:=fun _=>by kernel_rfl,v229:=fun _=>by kernel_rfl}
def clnRen:Go.Shelf.Ren:=
 {f:=fun n=>cond (Nat.beq n 15) 110 (0),t:=fun n=>cond (Nat.beq n 3) 3 (cond (Nat.beq n 4) 4 (cond (Nat.beq n 22) 37 (0))),g:=fun _=>0}
theorem clnLays:Go.Proofs.Lays2.n15 prog clnRen:=
 {mixed:=by kernel_rfl,f15:=by kernel_rfl,t3:=by kernel_rfl,a3:=fun _=>by kernel_rfl,z3:=fun _=>by kernel_rfl,v3:=fun _=>by kernel_rfl,t4:=by kernel_rfl,a4:=fun _=>by kernel_rfl,z4:=fun _=>by kernel_rfl,v4:=fun _=>by kernel_rfl,t22:=by kernel_rfl,a22:=fun _=>by kernel_rfl,z22:=fun _=>by kernel_rfl,v22:=fun _=>by kernel_rfl,i3:=by kernel_rfl}
def cmpRen:Go.Shelf.Ren:=
 {f:=fun n=>cond (Nat.beq n 20) 162 (0),t:=fun n=>cond (Nat.beq n 0) 0 (cond (Nat.beq n 3) 3 (cond (Nat.beq n 4) 4 (cond (Nat.beq n 22) 37 (0)))),g:=fun _=>0}
theorem cmpLays:Go.Proofs.Lays2.n20 prog cmpRen:=
 {mixed:=by kernel_rfl,f20:=by kernel_rfl,t0:=by kernel_rfl,a0:=fun _=>by kernel_rfl,z0:=fun _=>by kernel_rfl,v0:=fun _=>by kernel_rfl,t3:=by kernel_rfl,a3:=fun _=>by kernel_rfl,z3:=fun _=>by kernel_rfl,v3:=fun _=>by kernel_rfl,t4:=by kernel_rfl,a4:=fun _=>by kernel_rfl,z4:=fun _=>by kernel_rfl,v4:=fun _=>by kernel_rfl,t22:=by kernel_rfl,a22:=fun _=>by kernel_rfl,z22:=fun _=>by kernel_rfl,v22:=fun _=>by kernel_rfl,i3:=by kernel_rfl}
def ctnRen:Go.Shelf.Ren:=
 {f:=fun n=>cond (Nat.beq n 107) 218 (cond (Nat.beq n 108) 246 (0)),t:=fun n=>cond (Nat.beq n 0) 0 (cond (Nat.beq n 3) 3 (cond (Nat.beq n 4) 4 (cond (Nat.beq n 28) 37 (0)))),g:=fun _=>0}
theorem ctnLays:Go.Proofs.Lays.n107 prog ctnRen:=
 {mixed:=by kernel_rfl,f107:=by kernel_rfl,f108:=by kernel_rfl,t0:=by kernel_rfl,a0:=fun _=>by kernel_rfl,z0:=fun _=>by kernel_rfl,v0:=fun _=>by kernel_rfl,t3:=by kernel_rfl,a3:=fun _=>by kernel_rfl,z3:=fun _=>by kernel_rfl,v3:=fun _=>by kernel_rfl,t4:=by kernel_rfl,a4:=fun _=>by kernel_rfl,z4:=fun _=>by kernel_rfl,v4:=fun _=>by kernel_rfl,t28:=by kernel_rfl,a28:=fun _=>by kernel_rfl,z28:=fun _=>by kernel_rfl,v28:=fun _=>by kernel_rfl}
end
set_option maxRecDepth 100000
section
open Go.RowKit Go.Maps Go.Sort Go.Shelf
def keyRen:Go.Shelf.Ren:=
 {f:=fun n=>cond (Nat.beq n 6) 90 (cond (Nat.beq n 7) 91 (cond (Nat.beq n 8) 138 (cond (Nat.beq n 9) 49 (cond (Nat.beq n 10) 139 (cond (Nat.beq n 11) 200 (cond (Nat.beq n 12) 93 (cond (Nat.beq n 13) 94 (cond (Nat.beq n 14) 140 (cond (Nat.beq n 15) 141 (cond (Nat.beq n 16) 142 (cond (Nat.beq n 17) 143 (cond (Nat.beq n 18) 144 (cond (Nat.beq n 19) 145 (cond (Nat.beq n 20) 146 (cond (Nat.beq n 21) 147 (cond (Nat.beq n 22) 148 (cond (Nat.beq n 23) 149 (cond (Nat.beq n 24) 150 (cond (Nat.beq n 25) 201 (cond (Nat.beq n 26) 202 (cond (Nat.beq n 27) 203 (cond (Nat.beq n 28) 204 (cond (Nat.beq n 29) 205 (cond (Nat.beq n 30) 206 (cond (Nat.beq n 31) 244 (cond (Nat.beq n 32) 270 (cond (Nat.beq n 33) 271 (cond (Nat.beq n 34) 272 (cond (Nat.beq n 35) 273 (cond (Nat.beq n 36) 274 (cond (Nat.beq n 37) 275 (cond (Nat.beq n 38) 276 (cond (Nat.beq n 39) 277 (cond (Nat.beq n 40) 278 (cond (Nat.beq n 41) 279 (cond (Nat.beq n 42) 280 (cond (Nat.beq n 43) 281 (cond (Nat.beq n 44) 282 (cond (Nat.beq n 45) 283 (cond (Nat.beq n 46) 284 (cond (Nat.beq n 47) 289 (0)))))))))))))))))))))))))))))))))))))))))),t:=fun n=>cond (Nat.beq n 0) 0 (cond (Nat.beq n 1) 1 (cond (Nat.beq n 2) 2 (cond (Nat.beq n 3) 3 (cond (Nat.beq n 4) 4 (cond (Nat.beq n 5) 5 (cond (Nat.beq n 8) 8 (cond (Nat.beq n 9) 9 (cond (Nat.beq n 10) 10 (cond (Nat.beq n 11) 11 (cond (Nat.beq n 12) 12 (cond (Nat.beq n 14) 14 (cond (Nat.beq n 15) 15 (cond (Nat.beq n 16) 16 (cond (Nat.beq n 17) 17 (cond (Nat.beq n 20) 20 (cond (Nat.beq n 21) 21 (cond (Nat.beq n 22) 48 (cond (Nat.beq n 23) 48 (cond (Nat.beq n 24) 37 (cond (Nat.beq n 25) 150 (cond (Nat.beq n 26) 3 (cond (Nat.beq n 27) 151 (cond (Nat.beq n 28) 152 (cond (Nat.beq n 29) 153 (cond (Nat.beq n 32) 95 (cond (Nat.beq n 33) 51 (cond (Nat.beq n 34) 258 (cond (Nat.beq n 35) 157 (cond (Nat.beq n 36) 158 (cond (Nat.beq n 37) 50 (cond (Nat.beq n 38) 206 (cond (Nat.beq n 39) 207 (cond (Nat.beq n 40) 208 (cond (Nat.beq n 41) 209 (cond (Nat.beq n 42) 210 (cond (Nat.beq n 43) 100 (cond (Nat.beq n 44) 211 (cond (Nat.beq n 45) 49 (cond (Nat.beq n 46) 212 (cond (Nat.beq n 47) 213 (cond (Nat.beq n 48) 214 (cond (Nat.beq n 49) 215 (cond (Nat.beq n 50) 33 (cond (Nat.beq n 51) 259 (cond (Nat.beq n 52) 260 (cond (Nat.beq n 53) 261 (cond (Nat.beq n 54) 262 (cond (Nat.beq n 55) 169 (cond (Nat.beq n 56) 263 (cond (Nat.beq n 57) 287 (cond (Nat.beq n 58) 288 (cond (Nat.beq n 59) 289 (cond (Nat.beq n 60) 170 (cond (Nat.beq n 62) 316 (cond (Nat.beq n 63) 317 (cond (Nat.beq n 65) 319 (cond (Nat.beq n 66) 36 (cond (Nat.beq n 69) 322 (cond (Nat.beq n 70) 281 (cond (Nat.beq n 75) 304 (0))))))))))))))))))))))))))))))))))))))))))))))))))))))))))))),g:=fun _=>0}
theorem keyLays:Go.Proofs.SlLaysZI.n7 prog keyRen:=
 { mixed := by kernel_rfl, f7 := ⟨ "maps.Keys[map[int]int,int,int]", by decide, by kernel_rfl⟩, f10 := ⟨ "maps.Keys[map[int]int,int,int]$1", by decide, by kernel_rfl⟩, t0 := by kernel_rfl, a0 := fun _ => by kernel_rfl, z0 := fun _ => by kernel_rfl, v0 := fun _ => by kernel_rfl, t4 := by kernel_rfl, a4 := fun _ => by kernel_rfl, z4 := fun _ => by kernel_rfl, v4 := fun _ => by kernel_rfl, t23 := by kernel_rfl, a23 := fun _ => by kernel_rfl, z23 := fun _ => by kernel_rfl, v23 := fun _ => by kernel_rfl, t26 := by kernel_rfl, a26 := fun _ => by kernel_rfl, z26 := fun _ => by kernel_rfl, v26 := fun _ => by kernel_rfl, t27 := by kernel_rfl, a27 := fun _ => by kernel_rfl, z27 := fun _ => by kernel_rfl, v27 := fun _ => by kernel_rfl, t28 := by kernel_rfl, a28 := fun _ => by kernel_rfl, z28 := fun _ => by kernel_rfl, v28 := fun _ => by kernel_rfl, t33 := by kernel_rfl, a33 := fun _ => by kernel_rfl, z33 := fun _ => by kernel_rfl, v33 := fun _ => by kernel_rfl }
def sedRen:Go.Shelf.Ren:=
 {f:=fun n=>cond (Nat.beq n 6) 90 (cond (Nat.beq n 7) 91 (cond (Nat.beq n 8) 138 (cond (Nat.beq n 9) 49 (cond (Nat.beq n 10) 139 (cond (Nat.beq n 11) 200 (cond (Nat.beq n 12) 93 (cond (Nat.beq n 13) 94 (cond (Nat.beq n 14) 140 (cond (Nat.beq n 15) 141 (cond (Nat.beq n 16) 142 (cond (Nat.beq n 17) 143 (cond (Nat.beq n 18) 144 (cond (Nat.beq n 19) 145 (cond (Nat.beq n 20) 146 (cond (Nat.beq n 21) 147 (cond (Nat.beq n 22) 148 (cond (Nat.beq n 23) 149 (cond (Nat.beq n 24) 150 (cond (Nat.beq n 25) 201 (cond (Nat.beq n 26) 202 (cond (Nat.beq n 27) 203 (cond (Nat.beq n 28) 204 (cond (Nat.beq n 29) 205 (cond (Nat.beq n 30) 206 (cond (Nat.beq n 31) 244 (cond (Nat.beq n 32) 270 (cond (Nat.beq n 33) 271 (cond (Nat.beq n 34) 272 (cond (Nat.beq n 35) 273 (cond (Nat.beq n 36) 274 (cond (Nat.beq n 37) 275 (cond (Nat.beq n 38) 276 (cond (Nat.beq n 39) 277 (cond (Nat.beq n 40) 278 (cond (Nat.beq n 41) 279 (cond (Nat.beq n 42) 280 (cond (Nat.beq n 43) 281 (cond (Nat.beq n 44) 282 (cond (Nat.beq n 45) 283 (cond (Nat.beq n 46) 284 (cond (Nat.beq n 47) 289 (0)))))))))))))))))))))))))))))))))))))))))),t:=fun n=>cond (Nat.beq n 0) 0 (cond (Nat.beq n 1) 1 (cond (Nat.beq n 2) 2 (cond (Nat.beq n 3) 3 (cond (Nat.beq n 4) 4 (cond (Nat.beq n 5) 5 (cond (Nat.beq n 8) 8 (cond (Nat.beq n 9) 9 (cond (Nat.beq n 10) 10 (cond (Nat.beq n 11) 11 (cond (Nat.beq n 12) 12 (cond (Nat.beq n 14) 14 (cond (Nat.beq n 15) 15 (cond (Nat.beq n 16) 16 (cond (Nat.beq n 17) 17 (cond (Nat.beq n 20) 20 (cond (Nat.beq n 21) 21 (cond (Nat.beq n 22) 48 (cond (Nat.beq n 23) 48 (cond (Nat.beq n 24) 37 (cond (Nat.beq n 25) 150 (cond (Nat.beq n 26) 3 (cond (Nat.beq n 27) 151 (cond (Nat.beq n 28) 152 (cond (Nat.beq n 29) 153 (cond (Nat.beq n 32) 95 (cond (Nat.beq n 33) 51 (cond (Nat.beq n 34) 258 (cond (Nat.beq n 35) 157 (cond (Nat.beq n 36) 158 (cond (Nat.beq n 37) 50 (cond (Nat.beq n 38) 206 (cond (Nat.beq n 39) 207 (cond (Nat.beq n 40) 208 (cond (Nat.beq n 41) 209 (cond (Nat.beq n 42) 210 (cond (Nat.beq n 43) 100 (cond (Nat.beq n 44) 211 (cond (Nat.beq n 45) 49 (cond (Nat.beq n 46) 212 (cond (Nat.beq n 47) 213 (cond (Nat.beq n 48) 214 (cond (Nat.beq n 49) 215 (cond (Nat.beq n 50) 33 (cond (Nat.beq n 51) 259 (cond (Nat.beq n 52) 260 (cond (Nat.beq n 53) 261 (cond (Nat.beq n 54) 262 (cond (Nat.beq n 55) 169 (cond (Nat.beq n 56) 263 (cond (Nat.beq n 57) 287 (cond (Nat.beq n 58) 288 (cond (Nat.beq n 59) 289 (cond (Nat.beq n 60) 170 (cond (Nat.beq n 62) 316 (cond (Nat.beq n 63) 317 (cond (Nat.beq n 65) 319 (cond (Nat.beq n 66) 36 (cond (Nat.beq n 69) 322 (cond (Nat.beq n 70) 281 (cond (Nat.beq n 75) 304 (0))))))))))))))))))))))))))))))))))))))))))))))))))))))))))))),g:=fun _=>0}
theorem sedLays:Go.Proofs.SlLaysZI.n6 prog sedRen:=
 { mixed := by kernel_rfl, f6 := ⟨ "slices.Sorted[int]", by decide, by kernel_rfl⟩, f8 := ⟨ "slices.Collect[int]", by decide, by kernel_rfl⟩, f11 := ⟨ "slices.AppendSeq[[]int,int]", by decide, by kernel_rfl⟩, t0 := by kernel_rfl, a0 := fun _ => by kernel_rfl, z0 := fun _ => by kernel_rfl, v0 := fun _ => by kernel_rfl, t24 := by kernel_rfl, a24 := fun _ => by kernel_rfl, z24 := fun _ => by kernel_rfl, v24 := fun _ => by kernel_rfl, t26 := by kernel_rfl, a26 := fun _ => by kernel_rfl, z26 := fun _ => by kernel_rfl, v26 := fun _ => by kernel_rfl, t28 := by kernel_rfl, a28 := fun _ => by kernel_rfl, z28 := fun _ => by kernel_rfl, v28 := fun _ => by kernel_rfl, i26 := by kernel_rfl }
theorem sortsT(m:Nat):AnyZI.SortsIn prog sedRen Fence.wide m:=
 ⟨fun blk off cap ss W hH hblk hsz=>callsIn_wide.2 (Any.slices_Sort_int srtLays blk off cap ss W hH hblk hsz),
  fun p cap W=>callsIn_wide.2 (Any.slices_Sort_int_none srtLays p cap W)⟩
theorem Q8g{D:DataW Value}{w:World}{b sz:Nat}{m:Int->Option Value}(hown:w.ownsMap prog 3 rdV b sz D)(hm:∀k z,D.atKey (.int .i64 k) z=match m k with | some v=>.held v | none=>z) :
  (intKeys D).Nodup /\ ∀k,k ∈ intKeys D ↔ (m k).isSome=true:=by
 obtain⟨es,hD,hpw,_⟩:=hown.entries (int_keyed Q0L);obtain⟨es',hD',hko⟩:=hown.keysOf;obtain rfl:es=es':=by rw[hD] at hD';simpa using hD'
 subst hD;have hk:∀p ∈ es,∃x,p.1=.int .i64 x:=fun p hp=>by
  obtain⟨v,hv⟩:=hko p hp;obtain⟨x,_,hx,_⟩:=Maps.keyOf_i64 Q0L hv;exact⟨x,hx⟩
 have hh:∀k,Maps.has (.map es) (.int .i64 k)=(m k).isSome:=fun k=>by
  cases hmk:m k with
  | none=>exact Maps.has_false_of_atKey fun z=>by rw[hm,hmk]
  | some v=>exact Maps.has_true_of_atKey (y:=.held v) fun z=>by rw[hm,hmk]
 refine⟨?_,fun x=>?_⟩
 ·show(es.map fun p=>Go.intOf p.1).Nodup;refine List.pairwise_map.2 (hpw.imp_of_mem fun {p q} hp' hq' hne e=>hne ?_);obtain⟨a,ha⟩:=hk p hp';obtain⟨b,hb⟩:=hk q hq';rw[ha,hb] at e ⊢;exact congrArg _ e
 ·rw[<-hh,has_eq,List.any_eq_true];show x ∈ es.map (fun p=>Go.intOf p.1) ↔ _;rw[List.mem_map];constructor
  ·rintro⟨p,hp',rfl⟩;obtain⟨a,ha⟩:=hk p hp';exact⟨p,hp',by rw[ha];simp[Lit.sameKey,Go.intOf]⟩
  ·rintro⟨p,hp',hs⟩;obtain⟨a,ha⟩:=hk p hp';rw[ha] at hs;exact⟨p,hp',by rw[ha];simpa [Lit.sameKey,Go.intOf] using hs⟩
theorem skeys{w:World}{b sz:Nat}{m:Int->Option Value}(h:IMap w prog 3 .i64 b m sz)(hsz:sz<=1000000){R:VW}
  (r:∀(p:Option Addr)(c:Nat)(w':World)(ss:List Int),ss.Nodup->ss.Pairwise (·<=·)->(∀k,k ∈ ss ↔ (m k).isSome=true)->ORow w' 3 1 intF (.slice p ss.length c) ss->Ext w w'->(∀j,(Value.slice p ss.length c).ownBlock=some j->w.heap.size<=j)->R (.slice p ss.length c) w') :
  CS 91 #[.map (some b)] w fun v2 w3=>∃v4,v2=v4 /\ CS 90 #[v4] w3 R:=by
 obtain⟨D0,hown,hm,hs⟩:=h.own;have hbl:=hown.lt;obtain⟨k1,k2⟩:=Q8g hown hm;have hseq:SeqGives Fence.wide 2 prog 139 #[.pointer (some ⟨w.heap.size,0,none⟩)] encZ (fun ss=>ss.Perm (intKeys D0)) (Maps.size D0) (w.alloc (.cells #[.map (some b)] 48)):=
  AnyZI.keys_gives (ρ:=keyRen) {keyLays with} Fence.wide _ trivial rfl (by omega) w.heap.size b sz D0 _ (by simp) (by simp) (by
   obtain⟨es,clock,hb,Ft,hs,hD⟩:=hown;exact⟨es,clock,(Below.heap_alloc _ _ b hbl).trans hb,Ft,hs,hD⟩)
 have cK:CallsIn Fence.wide 5 prog 91 #[.map (some b)] w fun e w'=>e=.returned (.func (.func 139) #[] #[.pointer (some ⟨w.heap.size,0,none⟩)]) /\ w'=w.alloc (.cells #[.map (some b)] 48):=AnyZI.keys_in keyLays Fence.wide 5 trivial rfl (some b) w;have cS:=AnyZI.sorted_in sedLays Fence.wide 5 trivial trivial trivial trivial rfl (by omega) (sortsT _) (enters_of Tryz.func49 (by kernel_rfl) rfl) 139 #[.pointer (some ⟨w.heap.size,0,none⟩)] trivial (enters_of Tryz.func139 (by kernel_rfl) rfl) _ _ (by simp only[maxLen];omega) (by omega) _ hseq
 change CallsIn _ _ prog 90 _ _ _ at cS
 refine⟨(callsIn_wide.1 cK).mono ?_⟩;rintro e w3 ⟨rfl,rfl⟩;refine⟨_,rfl,⟨(callsIn_wide.1 cS).mono ?_⟩⟩;rintro e w' ⟨v,ss,rfl,hp,hrow,hnil,hB⟩;have hE0:=Ext.alloc w (.cells #[.map (some b)] 48);have hs0:(w.alloc (.cells #[.map (some b)] 48)).heap.size=w.heap.size+1:=by simp
 have tr:∀a b c:Int,decide (a<=b)=true->decide (b<=c)=true->decide (a<=c)=true:=fun a b c h1 h2=>decide_eq_true (Int.le_trans (zzodt h1) (zzodt h2));have to:∀a b:Int,(decide (a<=b) || decide (b<=a))=true:=fun a b=>by rcases Int.le_total a b with h | h <;> simp[h]
 have hperm:=(List.mergeSort_perm ss fun x y=>decide (x<=y)).trans hp;have hlen:(ss.mergeSort fun x y=>decide (x<=y)).length=ss.length:=List.length_mergeSort _;generalize hzz:(ss.mergeSort fun x y=>decide (x<=y))=zz at hrow hperm hlen;have hpair:zz.Pairwise (·<=·):=by
  rw[<-hzz];exact(List.pairwise_mergeSort tr to ss).imp fun h=>zzodt h
 have hfl:zz.map encZ=zz.flatMap intF:=by
  clear hrow hperm hlen hpair hzz
  induction zz with
  | nil=>rfl
  | cons x l ih=>rw[List.map_cons,List.flatMap_cons,ih];rfl
 rw[hfl,<-hlen] at hrow;have hrow0:ORow w' 3 1 intF v zz:=⟨hrow.1,hrow.2.imp id fun⟨g,cap,cur,a,_,c⟩=>⟨g,cap,cur,a,Nat.zero_le _,c⟩⟩;obtain⟨p,c,rfl⟩:=hrow0.shape;refine r p c w' zz (hperm.nodup_iff.2 k1) hpair (fun k=>by rw[hperm.mem_iff];exact k2 k) hrow0 ?_ (fun j hj=>?_)
 ·exact hE0.trans ⟨hB.os,hB.tape,hB.output,hB.size,fun k hk _=>hB.block k hk⟩
 ·have:=(World.ownsRow.lt hrow j hj).1;omega
end
end Go.Proofs.YtpnbcakbefplpaaGreatDoor
