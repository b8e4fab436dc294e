/- Texts merged: Gw GwMem GwRow GwRead GwLaid GwRun VcA PShelfM GwTab GwLaw GwOwn Sep ArenaM Arena. Conditions: none. -/
import Derived.Lib.SliceRun
import Derived.WalkKit
import Derived.Laws.StructEq
import Derived.ProofKit
import Derived.OpenShut
import Derived.ShutString
import Derived.ChangeOld
import Derived.Below
import Derived.SizedLaws
import Derived.Lib.SmallJoins
import Derived.LaidMore
import Derived.FnData
import Derived.Laws.AppendOwn
import Derived.Laws.CopyRow
import Derived.Laws.IdiomCopy
import Derived.Lib.BufferWrite
import Derived.Test.YtpnbcakbefplpaaGreatDoorProg
import Derived.KernelRfl
import Derived.Lib.TrailingZeros
import Derived.Shelf.Spec.TrailingZeros
import Derived.Test.YtpnbcakbefplpaaGreatDoorRows
import Derived.Test.YtpnbcakbefplpaaGreatDoorTie
import Derived.Stop.Joined
set_option linter.unusedVariables false
set_option linter.unusedSimpArgs false
namespace Go.Proofs.YtpnbcakbefplpaaGreatDoor
open _root_.Go.Proofs.Tryz (prog)
section
abbrev zztnc:=@Int.toNat_natCast
abbrev zzeoz:=@Int.eq_ofNat_of_zero_le
abbrev zzgsi:=@List.getElem?_eq_some_iff
abbrev zzgge:=@List.getElem?_eq_getElem
abbrev zzmog:=@List.mem_of_getElem?
abbrev zzdcf:=@decide_eq_false
abbrev zzlna:=@List.length_append
abbrev zzodt:=@of_decide_eq_true
abbrev zzlrp:=@List.length_replicate
abbrev zzlnt:=@List.length_take
abbrev zzmal:=@List.mem_append_left
abbrev zzmpd:=@List.mem_append
abbrev zzmlr:=@Nat.mul_le_mul_right
abbrev zzise:=@Option.isSome_iff_exists
abbrev zzmcm:=@List.mem_cons_of_mem
abbrev zzgsn:=@List.getElem?_set_ne
abbrev zzgst:=@List.getElem?_set
abbrev zP(b:Nat):Value:=.pointer (some ⟨b,0,none⟩)
abbrev zA(b:Nat):Addr:=⟨b,0,none⟩
abbrev VW:=Value->World->Prop
def Ret(R:VW):Ending->World->Prop
 | .returned v,w=>R v w
 | _,_=>False
theorem Q1u{P:Program}{g:FuncId}{args:Array Value}{w:World}{R R':Value->World->Prop}
  (h:Calls P g args w (Ret R)) (k:∀v w',R v w'->R' v w'):Calls P g args w (Ret R'):=
 h.mono fun e w' hr=>by cases e <;> first | exact k _ _ hr | exact hr.elim
structure CallS (P:Program) (g:FuncId) (args:Array Value) (w:World) (R:VW):Prop where
 h:Calls P g args w (Ret R)
theorem CallS.of{P:Program}{g:FuncId}{args:Array Value}{w:World}{R R':Value->World->Prop}
  (h:Calls P g args w (Ret R)) (k:∀v w',R v w'->R' v w'):CallS P g args w R':=⟨Q1u h k⟩
abbrev Fr:=Nat->Value
def ev(f:Fr):Operand->Value
 | .tmp t=>f t
 | .const v=>v
 | .global g=>(zP g)
 | .func g=>.func (.func g) #[] #[]
def put(f:Fr)(d:Option Nat)(v:Value):Fr:=
 match d with
 | some d=>fun t=>cond (Nat.beq t d) v (f t)
 | none=>f
structure FR (N:Nat) (a:Act) (f:Fr):Prop where
 size:a.tmps.size=N
 defers:a.defers=[]
 get:∀t,a.tmps.getD t undef=f t
theorem FR.eval{N:Nat}{a:Act}{f:Fr}(h:FR N a f)(o:Operand):a.eval o=ev f o:=by
 cases o with
 | tmp t=>exact h.get t
 | _=>rfl
theorem FR.put{N:Nat}{a:Act}{f:Fr}(h:FR N a f)(d:Option Nat)(v:Value)(hd:∀k,d=some k->k<N):FR N (a.put d v) (put f d v):=by
 cases d with
 | none=>exact h
 | some d=>
  have hlt:=hd d rfl;refine⟨by simp[Act.put,h.size],by simp[Act.put,h.defers],fun t=>?_⟩;have hs:=h.size;have hg:=h.get t;simp only[Act.put,Go.Proofs.YtpnbcakbefplpaaGreatDoor.put];by_cases e:t=d
  ·subst e;simp[Array.getD,hs,hlt]
  ·have hb:Nat.beq t d=false:=by
    cases hq:Nat.beq t d with
    | false=>rfl
    | true=>exact absurd (Nat.eq_of_beq_eq_true hq) e
   rw[hb];simp only[cond_false];rw[<-hg];simp only[Array.getD_eq_getD_getElem?,Array.getElem?_setIfInBounds];rw[if_neg (fun q=>e q.symm)]
def ex1(z:Value)(K:Value->Prop):Prop:=
 match z with
 | .int k _=>∃n:Int,K (.int k n)
 | .bool _=>∃b:Bool,K (.bool b)
 | .string _=>∃s:ByteArray,K (.string s)
 | .pointer _=>∃p:Option Addr,K (.pointer p)
 | .slice _ _ _=>∃(a:Option Addr)(l c:Nat),K (.slice a l c)
 | .map _=>∃r:Option Nat,K (.map r)
 | .float k _=>∃n:Nat,K (.float k n)
 | .complex k _ _=>∃n m:Nat,K (.complex k n m)
 | _=>∃v:Value,K v
def exL:List Value->(List Value->Prop)->Prop
 | [],K=>K []
 | z :: zs,K=>ex1 z fun v=>exL zs fun vs=>K (v :: vs)
def exC(z:Value)(K:Value->Prop):Prop:=
 match z with
 | .agg zs=>exL zs.toList fun vs=>K (.agg vs.toArray)
 | z=>ex1 z K
def exT:List Value->(List Value->Prop)->Prop
 | [],K=>K []
 | z :: zs,K=>exC z fun v=>exT zs fun vs=>K (v :: vs)
def exV(z:Value)(K:Value->Prop):Prop:=
 match z with
 | .tuple zs=>exT zs.toList fun vs=>K (.tuple vs.toArray)
 | z=>exC z K
theorem QcJ{z:Value}{K:Value->Prop}(h:ex1 z K):∃v,K v:=by
 cases z <;> simp only[ex1] at h
 case slice=>obtain⟨a,l,c,h⟩:=h;exact⟨_,h⟩
 case complex=>obtain⟨n,m,h⟩:=h;exact⟨_,h⟩
 all_goals (obtain⟨x,h⟩:=h;exact⟨_,h⟩)
theorem Q9b:∀ {zs:List Value} {K:List Value->Prop},exL zs K->∃vs,vs.length=zs.length /\ K vs
 | [],_,h=>⟨[],rfl,h⟩
 | _ :: zs,K,h=>by
  obtain⟨v,h⟩:=QcJ h;obtain⟨vs,hl,h⟩:=Q9b h;exact⟨v :: vs,by simp[hl],h⟩
theorem QcK{z:Value}{K:Value->Prop}(h:exC z K):∃v,K v:=by
 unfold exC at h;split at h
 ·obtain⟨vs,_,h⟩:=Q9b h;exact⟨_,h⟩
 ·exact QcJ h
theorem QcL:∀ {zs:List Value} {K:List Value->Prop},exT zs K->∃vs,K vs
 | [],_,h=>⟨[],h⟩
 | _ :: zs,K,h=>by
  obtain⟨v,h⟩:=QcK h;obtain⟨vs,h⟩:=QcL h;exact⟨v :: vs,h⟩
theorem Q73{z:Value}{K:Value->Prop}(h:exV z K):∃v,K v:=by
 unfold exV at h;split at h
 ·obtain⟨vs,h⟩:=QcL h;exact⟨_,h⟩
 ·exact QcK h
def zeroOf(P:Program)(t:TypeId):Value:=
 match P.info? t with
 | some i=>(match i.zero with | some z=>z | none=>undef)
 | none=>undef
def ifB(b:Bool)(A B:Prop):Prop:=match b with | true=>A | false=>B
theorem Qe8{b:Bool}{A B:Prop}:ifB b A B ↔ (b=true->A) /\ (b=false->B):=by cases b <;> simp[ifB]
theorem Q05{b:Bool}{A B:Prop}(h1:b=true->A)(h2:b=false->B):ifB b A B:=Qe8.2 ⟨h1,h2⟩
theorem ifD{c:Prop}[Decidable c]{A B:Prop}(h1:c->A)(h2:¬c->B):ifB (decide c) A B:=
 Q05 (fun h=>h1 (zzodt h)) (fun h=>h2 (of_decide_eq_false h))
theorem Q03{b:Bool}{A B:Prop}(hb:b=true)(h:A):ifB b A B:=by subst hb;exact h
theorem Q00{b:Bool}{A B:Prop}(hb:b=false)(h:B):ifB b A B:=by subst hb;exact h
theorem Q7d{c:Prop}[Decidable c]{A B:Prop}(hc:c)(h:A):ifB (decide c) A B:=Q03 (decide_eq_true hc) h
theorem Q0y{c:Prop}[Decidable c]{A B:Prop}(hc:¬c)(h:B):ifB (decide c) A B:=Q00 (zzdcf hc) h
def someA(p:Option Addr)(K:Addr->Prop):Prop:=match p with | some a=>K a | none=>False
def RunE(P:Program)(s:Sem Value)(w:World)(z:Value)(K:Value->World->Prop):Prop:=
 exV z fun u=>∃w':World,s.run P w=.ok u w' /\ K u w'
def RunU(P:Program)(s:Sem Unit)(w:World)(K:World->Prop):Prop:=∃w':World,s.run P w=.ok () w' /\ K w'
def NextE(P:Program)(s:Sem Value)(w:World)(K:Value->World->Prop):Prop:=
 ∃(b:Bool)(k v:Value)(w':World),s.run P w=.ok (.tuple (cond b #[.bool true,k,v] #[.bool false])) w' /\ (b=false->K (.tuple #[.bool false]) w') /\ (b=true->K (.tuple #[.bool true,k,v]) w')
def got(r:Result Next)(K:Value->World->Prop):Prop:=
 match r with
 | .ok (.value v) w'=>K v w'
 | .ok .skip w'=>K undef w'
 | _=>False
def CellsAt(w:World)(a:Addr)(vs:List Value):Prop:=∀(j:Nat)(v:Value),vs[j]? = some v->w.cell? (a.add j)=some v
def isAggD:TypeDesc->Bool
 | .struct _=>true
 | .array _ _=>true
 | _=>false
def ldE(P:Program)(t:TypeId)(w:World)(a:Addr)(K:Value->Prop):Prop:=
 match P.underlying t,P.info? t with
 | some d,some i=>
  match isAggD d,i.zero with
  | true,some (.agg zs)=>cond (Nat.beq zs.toList.length i.size) (exL zs.toList fun vs=>CellsAt w a vs /\ K (.agg vs.toArray)) False
  | false,some z=>exV z fun u=>w.cell? a=some u /\ K u
  | _,_=>False
 | _,_=>False
def WrC(w:World)(a:Addr)(n:Nat):Prop:=∀j:Nat,j<n->(w.cell? (a.add j)).isSome=true /\ w.frozen? (a.add j)=false
def wrFrom(a:Addr):Nat->List Value->World->World
 | _,[],w=>w
 | i,v :: vs,w=>wrFrom a (i+1) vs (w.setCell (a.add i) v)
def wr(w:World)(a:Addr)(vs:List Value):World:=wrFrom a 0 vs w
def stE(P:Program)(t:TypeId)(w:World)(a:Addr)(v:Value)(K:World->Prop):Prop:=
 match P.info? t with
 | some i=>cond (Nat.beq v.cells.size i.size && v.cells.toList.all Value.oneCell') (WrC w a v.cells.toList.length /\ ∀w1:World,w1=wr w a v.cells.toList->K w1) False
 | none=>False
theorem Q0N{P:Program}{t:TypeId}{i:TypeInfo}(h:P.info? t=some i)(w:World):(sizeOf t).run P w=.ok i.size w:=by
 simp[sizeOf,typeInfo,h]
theorem Q2C{P:Program}{t:TypeId}{d:TypeDesc}(h:P.underlying t=some d)(w:World):(isAgg t).run P w=.ok (isAggD d) w:=by
 simp only[isAgg,Sem.run_bind,run_underlying h,Result.andThen_ok];cases d <;> rfl
theorem Q3m{P:Program}{t:TypeId}{w:World}{a:Addr}{K:Value->Prop}(h:ldE P t w a K) :
  ∃v,(loadVar t a).run P w=.ok v w /\ K v:=by
 unfold ldE at h;split at h
 case h_2=>exact h.elim
 case h_1 d i hd hi=>
  split at h
  case h_3=>exact h.elim
  case h_1 zs hda hz=>
   cases hb:Nat.beq zs.toList.length i.size with
   | false=>rw[hb] at h;exact h.elim
   | true=>
    rw[hb] at h;obtain⟨vs,hl,h⟩:=Q9b h;obtain⟨hc,hk⟩:=h;refine⟨_,?_,hk⟩;have hsz:i.size=vs.length:=by rw[hl];exact(Nat.eq_of_beq_eq_true hb).symm
    simp only[loadVar,Sem.run_bind,Q2C hd,hda,Result.andThen_ok,if_true,Q0N hi,hsz,
     run_loadCells_list (P:=P) w a vs (fun j v hv=>by simpa using hc j v hv),Sem.run_pure]
  case h_2 z hda hz=>
   obtain⟨v,hc,hk⟩:=Q73 h;refine⟨v,?_,hk⟩;simp only[loadVar,Sem.run_bind,Q2C hd,hda,Result.andThen_ok,Bool.false_eq_true,if_false,run_load,hc]
theorem Q1q{P:Program}(a:Addr):∀(vs:List Value)(i:Nat)(w:World),vs.all Value.oneCell'=true →
  (∀j:Nat,j<vs.length->(w.cell? (a.add (i+j))).isSome=true /\ w.frozen? (a.add (i+j))=false)->(storeCells a vs i).run P w=.ok () (wrFrom a i vs w)
 | [],i,w,_,_=>by simp[storeCells,wrFrom]
 | v :: vs,i,w,h1,h=>by
  simp only[List.all_cons,Bool.and_eq_true] at h1;have h0:=h 0 (by simp);simp only[Nat.add_zero] at h0;obtain⟨u,hu⟩:=zzise.1 h0.1;simp only[storeCells,Sem.run_bind,run_store P w (a.add i) v .plain h1.1,hu,h0.2,Bool.false_eq_true,if_false,Result.andThen_ok,wrFrom];refine Q1q a vs (i+1) _ h1.2 fun j hj=>?_;have hx:=h (j+1) (by simp;omega);rw[show i+1+j=i+(j+1) by omega];refine⟨?_,by rw[World.frozen?_setCell];exact hx.2⟩;by_cases e:a.add i=a.add (i+(j+1))
  ·rw[<-e];rw[World.cell?_setCell_same w (a.add i) v hu];rfl
  ·rw[World.cell?_setCell_other w (a.add i) (a.add (i+(j+1))) v e];exact hx.1
theorem Qas{P:Program}{t:TypeId}{w:World}{a:Addr}{v:Value}{K:World->Prop}(h:stE P t w a v K) :
  ∃w',(storeVar t a v).run P w=.ok () w' /\ K w':=by
 unfold stE at h;split at h
 case h_2=>exact h.elim
 case h_1 i hi=>
  cases hb:(Nat.beq v.cells.size i.size && v.cells.toList.all Value.oneCell')with
  | false=>rw[hb] at h;exact h.elim
  | true=>
   rw[hb] at h;simp only[Bool.and_eq_true] at hb;obtain⟨hw,hk⟩:=h;refine⟨_,?_,hk _ rfl⟩;have hsz:v.cells.size=i.size:=Nat.eq_of_beq_eq_true hb.1;simp only[storeVar,Sem.run_bind,Q0N hi,Result.andThen_ok,hsz,ne_eq,not_true_eq_false,if_false];exact Q1q a _ 0 w hb.2 (by intro j hj;simpa using hw j hj)
def callOk(P:Program)(g:FuncId):Bool:=
 match P.funcs[g]? with
 | some fn => fn.body.isSome && !(fn.name == "runtime.NumGoroutine")
 | none=>false
def alE(P:Program)(e:TypeId)(w:World)(c:Array Value)(K:Value->World->Prop):Prop:=
 ∀(b:Nat)(w1:World),b=w.heap.size->w1=w.alloc (.cells c e)->K ((zP b)) w1
def bndI(d:Int):Option Value->Option Int
 | none=>some d
 | some (.int _ n)=>some n
 | _=>none
def subA(a:Option Addr)(l c s:Nat):Option Addr:=if c=l then a else a.map (·.add (l*s))
def shlV(k:IntKind)(a b:Int):Int:=k.wrap (a*2 ^ min b.toNat k.bits)
def shrV(k:IntKind)(a b:Int):Int:=a.fdiv (2 ^ min b.toNat k.bits)
def BytesAt(w:World)(a:Option Addr)(bs:List UInt8):Prop:=∀(j:Nat)(b:UInt8),bs[j]? = some b->∃x:Addr,a=some x /\ w.cell? (x.add j)=some (.int .u8 (b.toNat:Int))
def ExtE(P:Program)(g:FuncId)(args:Array Value)(w:World)(z:Value)(K:Value->World->Prop):Prop:=
 exV z fun u=>∃w':World,(callFunc g args).run P w=.ok (.value u) w' /\ K u w'
def opE(P:Program)(o:Oper)(f:Fr)(w:World)(K:Value->World->Prop):Prop:=
 match o.op with
 | .move x=>K (ev f x) w
 | .assign x=>K (ev f x) w
 | .pick c a b=>match ev f c with | .bool q=>ifB q (K (ev f a) w) (K (ev f b) w) | _=>False
 | .alloc e=>match P.info? e with
  | some i=>(match i.zero with | some z=>alE P e w z.cells K | none=>False)
  | none=>False
 | .box e x=>alE P e w (ev f x).cells K
 | .load t x=>match ev f x with | .pointer p=>someA p fun a=>ldE P t w a fun v=>K v w | _=>False
 | .store t x y=>match ev f x with | .pointer p=>someA p fun a=>stE P t w a (ev f y) fun w'=>K undef w' | _=>False
 | .nilCheck x=>match ev f x with | .pointer p=>someA p fun a=>K (.pointer (some a)) w | _=>got ((execOp (ev f) o).run P w) K
 | .fieldAddr s x i=>match P.underlying s,ev f x with
  | some (.struct fs),.pointer p=>(match fs[i]? with
   | some fld=>(match P.info? fld.type with
    | some ti=>cond (Nat.beq ti.size 0) False (someA p fun a=>K (.pointer (some (a.add fld.offset))) w)
    | none=>False)
   | none=>False)
  | _,_=>False
 | .indexAddr t x ix=>match P.underlying t,ev f x,ev f ix with
  | some (.slice e),.slice base len _,.int _ i=>(match P.info? e with
   | some ti=>0<=i /\ i<(len:Int) /\ someA base fun a=>K (.pointer (some (a.add (cond (Nat.beq ti.size 1) i.toNat (i.toNat*ti.size))))) w
   | none=>False)
  | some (.array n e),.pointer p,.int _ i=>(match P.info? e with
   | some ti=>0<=i /\ i<(n:Int) /\ someA p fun a=>K (.pointer (some (a.add (cond (Nat.beq ti.size 1) i.toNat (i.toNat*ti.size))))) w
   | none=>False)
  | _,_,_=>False
 | .index t x ix=>match P.underlying t,ev f x,ev f ix with
  | some .string,.string s,.int _ i=>0<=i /\ ∃b:UInt8,s[i.toNat]? = some b /\ K (.int .u8 (b.toNat:Int)) w
  | _,_,_=>RunE P (Instr.index t (ev f x) (ev f ix)) w (zeroOf P o.type) K
 | .slice t x lo hi mx=>match mx,P.underlying t,ev f x,bndI 0 (lo.map (ev f))with
  | none,some .string,.string s,some l=>(match bndI (s.size:Int) (hi.map (ev f))with
   | some h=>0<=l /\ l<=h /\ h<=(s.size:Int) /\ K (.string (s.extract l.toNat h.toNat)) w
   | none=>False)
  | none,some (.slice e),.slice a n c,some l=>(match P.info? e,bndI (n:Int) (hi.map (ev f))with
   | some ti,some h=>0<=l /\ l<=h /\ h<=(c:Int) /\ K (.slice (subA a l.toNat c ti.size) (h.toNat-l.toNat) (c-l.toNat)) w
   | _,_=>False)
  | _,_,_,_=>RunE P (Instr.sliceAt t (ev f x) (lo.map (ev f)) (hi.map (ev f)) (mx.map (ev f))) w (zeroOf P o.type) K
 | .makeSlice t l c=>match P.underlying t,ev f l,ev f c with
  | some (.slice e),.int _ l,.int _ c=>(match P.info? e with
   | some ti=>(match ti.zero with
    | some z=>0<=l /\ l<=c /\ (ti.bytes:Int)*c<=281474976710656 /\ c<=9223372036854775807 /\
      ∀(b:Nat)(w1:World),b=w.heap.size->w1=w.alloc (.cells (madeCells z.cells (c.toNat*ti.size)) e)->K (.slice (some ⟨b,0,none⟩) l.toNat c.toNat) w1
    | none=>False)
   | none=>False)
  | _,_,_=>False
 | .buildSlice t n ps=>match P.underlying t with
  | some (.slice e)=>(match P.info? e with
   | some ti=>(match ti.zero with
    | some z=>(match Instr.fill (fun i=>some (i*ti.size,ti.size)) ((Array.range (n*ti.size)).map (z.cells[· % z.cells.size]!)) (ps.map fun(i,x)=>(i,ev f x)).toList with
     | some cells=>cond (Nat.ble (n*ti.size) 16777216) (∀(b:Nat)(w1:World),b=w.heap.size->w1=w.alloc (.cells cells e)->K (.slice (some ⟨b,0,none⟩) n n) w1) False
     | none=>False)
    | none=>False)
   | none=>False)
  | _=>False
 | .makeMap t r=>RunE P (Instr.makeMap t (r.map (ev f))) w (zeroOf P o.type) K
 | .lookup t x ix ok=>RunE P (Instr.lookup t (ev f x) (ev f ix) ok) w (zeroOf P o.type) K
 | .mapUpdate t m k x=>RunU P (Instr.mapUpdate t (ev f m) (ev f k) (ev f x)) w fun w'=>K undef w'
 | .insert t m k x=>RunU P (Instr.mapUpdate t (ev f m) (ev f k) (ev f x)) w fun w'=>K undef w'
 | .mapEntry t m k=>RunE P (Instr.mapEntry t (ev f m) (ev f k)) w (.tuple #[match P.underlying t with | some (.map _ e)=>zeroOf P e | _=>.nilIface,.int .i64 0]) K
 | .entryStore t m s x=>RunU P (Instr.entryStore t (ev f m) (ev f s) (ev f x)) w fun w'=>K undef w'
 | .range t x=>RunE P (Instr.range t (ev f x)) w (.pointer none) K
 | .next it b=>cond b (RunE P (Instr.next (ev f it) b o.type) w (zeroOf P o.type) K) (NextE P (Instr.next (ev f it) b o.type) w K)
 | .extract t ix=>match ev f t with
  | .tuple vs=>(match vs[ix]? with | some v=>K v w | none=>False)
  | _=>False
 | .convert src dst x=>match ev f x with
  | .int _ _=>got ((execOp (ev f) o).run P w) K
  | .slice a l c=>(match P.underlying src,P.underlying dst with
   | some (.slice e),some .string=>(match P.underlying e with
    | some (.int .u8)=>∃bs:List UInt8,bs.length=l /\ BytesAt w a bs /\ K (.string ⟨bs.toArray⟩) w
    | _=>False)
   | _,_=>RunE P (convert src dst (.slice a l c)) w (zeroOf P o.type) K)
  | x=>RunE P (convert src dst x) w (zeroOf P o.type) K
 | .binOp op t x y _=>match op,ev f x,ev f y with
  | .eql,.pointer p,.pointer none=>(match P.underlying t with | some (.pointer _)=>K (.bool p.isNone) w | _=>False)
  | .neq,.pointer p,.pointer none=>(match P.underlying t with | some (.pointer _)=>K (.bool (!p.isNone)) w | _=>False)
  | .eql,.slice p _ _,.slice none _ _=>(match P.underlying t with | some (.slice _)=>K (.bool p.isNone) w | _=>False)
  | .neq,.slice p _ _,.slice none _ _=>(match P.underlying t with | some (.slice _)=>K (.bool (!p.isNone)) w | _=>False)
  | .shl,.int k a,.int _ b=>0<=b /\ K (.int k (shlV k a b)) w
  | .shr,.int k a,.int _ b=>0<=b /\ K (.int k (shrV k a b)) w
  | .quo,.int k a,.int k' b=>cond (decide (k=k')) (b ≠ 0 /\ K (.int k (k.wrap (a.tdiv b))) w) False
  | .rem,.int k a,.int k' b=>cond (decide (k=k')) (b ≠ 0 /\ K (.int k (a.tmod b)) w) False
  | .and,.int k a,.int k' b=>cond (decide (k=k')) (K (.int k (bits .and k a b)) w) False
  | .or,.int k a,.int k' b=>cond (decide (k=k')) (K (.int k (bits .or k a b)) w) False
  | .xor,.int k a,.int k' b=>cond (decide (k=k')) (K (.int k (bits .xor k a b)) w) False
  | .andNot,.int k a,.int k' b=>cond (decide (k=k')) (K (.int k (bits .andNot k a b)) w) False
  | .eql,.string a,.string b=>K (.bool (decide (a=b))) w
  | .neq,.string a,.string b=>K (.bool (!decide (a=b))) w
  | .eql,.agg xs,.agg ys=>cond (P.eqGuardType P.depth t) False (RunE P (binOp .eql t (.agg xs) (.agg ys)) w (.bool false) K)
  | .neq,.agg xs,.agg ys=>cond (P.eqGuardType P.depth t) False (RunE P (binOp .neq t (.agg xs) (.agg ys)) w (.bool false) K)
  | .add,.string a,.string b=>(((a.size+b.size:Nat):Int)<=9223372036854775807 /\ K (.string (a++b)) w)
  | op,.float k a,.float k' b=>RunE P (binOp op t (.float k a) (.float k' b)) w (zeroOf P o.type) K
  | op,.complex k a b,.complex k' c d=>RunE P (binOp op t (.complex k a b) (.complex k' c d)) w (zeroOf P o.type) K
  | .eql,.pointer p,.pointer (some q)=>RunE P (binOp .eql t (.pointer p) (.pointer (some q))) w (.bool false) K
  | .neq,.pointer p,.pointer (some q)=>RunE P (binOp .neq t (.pointer p) (.pointer (some q))) w (.bool false) K
  | _,_,_=>got ((execOp (ev f) o).run P w) K
 | .call c=>match c.callee with
  | .value g=>(match ev f g with
   | .func (.func g) first captured=>cond (callOk P g) (CallS P g (first++c.args.map (ev f)++captured) w fun v w'=>exV (zeroOf P o.type) fun u=>v=u /\ K u w') (ExtE P g (first++c.args.map (ev f)++captured) w (zeroOf P o.type) K)
   | _=>False)
  | .builtin b=>(match b with
   | .append=>RunE P (Builtin.append_ c.argTypes o.type (c.args.map (ev f))) w (zeroOf P o.type) K
   | .copy=>RunE P (Builtin.copy_ c.argTypes o.type (c.args.map (ev f))) w (.int .i64 0) K
   | .clear=>RunE P (Builtin.clear_ c.argTypes o.type (c.args.map (ev f))) w (.tuple #[]) K
   | .delete=>RunE P (Builtin.delete_ c.argTypes o.type (c.args.map (ev f))) w (.tuple #[]) K
   | .len=>(match c.args.toList.map (ev f)with
    | [.slice base n c']=>(match c.argTypes.toList.map P.underlying with | [some (.slice _)]=>K (.int .i64 (n:Int)) w | _=>False)
    | [.string s]=>(match c.argTypes.toList.map P.underlying with | [some .string]=>K (.int .i64 (s.size:Int)) w | _=>False)
    | _=>RunE P (Builtin.len_ c.argTypes o.type (c.args.map (ev f))) w (.int .i64 0) K)
   | .min=>RunE P (Builtin.min_ c.argTypes o.type (c.args.map (ev f))) w (zeroOf P o.type) K
   | .max=>RunE P (Builtin.max_ c.argTypes o.type (c.args.map (ev f))) w (zeroOf P o.type) K
   | .complex=>RunE P (Builtin.complex_ c.argTypes o.type (c.args.map (ev f))) w (zeroOf P o.type) K
   | .real=>RunE P (Builtin.real_ c.argTypes o.type (c.args.map (ev f))) w (zeroOf P o.type) K
   | .imag=>RunE P (Builtin.imag_ c.argTypes o.type (c.args.map (ev f))) w (zeroOf P o.type) K
   | .unsafeSliceData=>RunE P (Builtin.unsafeSliceData_ c.argTypes o.type (c.args.map (ev f))) w (zeroOf P o.type) K
   | .unsafeString=>RunE P (Builtin.unsafeString_ c.argTypes o.type (c.args.map (ev f))) w (zeroOf P o.type) K
   | _=>False)
  | _=>False
 | _=>got ((execOp (ev f) o).run P w) K
section
variable{P:Program}{o:Oper}{a:Act}{next:Act->World->Prop}{Q:Exit->Act->World->Prop}{K:Value->World->Prop}{w:World}
def Res(P:Program)(r:Result Next)(K:Value->World->Prop):Prop:=
 match r with
 | .ok (.value v) w'=>K v w'
 | .ok .skip w'=>K undef w'
 | .ok (.enter g args) w'=>Calls P g args w' (Ret K)
 | _=>False
theorem Res.upon{r:Result Next}(h:Res P r K)(hK:∀v w',K v w'->next (a.put o.dst v) w'):o.upon P a next Q r:=by
 unfold Res at h;split at h
 ·exact hK _ _ h
 ·exact hK _ _ h
 ·refine Calls.mono h fun e w' hr=>?_;cases e with
  | returned v=>exact hK _ _ hr
  | panicked ch=>exact hr.elim
  | outgrown=>exact hr.elim
 ·exact h.elim
theorem Q3c{r:Result Next}(h:got r K):Res P r K:=by
 unfold got at h;split at h
 ·exact h
 ·exact h
 ·exact h.elim
theorem Q0p{s:Sem Value}{z:Value}(h:RunE P s w z K):Res P ((do pure (.value (← s)):Sem Next).run P w) K:=by
 obtain⟨v,w',hr,hk⟩:=Q73 h;simp only[Sem.run_bind,hr,Result.andThen_ok,Sem.run_pure];exact hk
theorem Q0o{s:Sem Value}{v:Value}{w':World}(hr:s.run P w=.ok v w')(h:K v w'):Res P ((do pure (.value (← s)):Sem Next).run P w) K:=by
 simp only[Sem.run_bind,hr,Result.andThen_ok,Sem.run_pure];exact h
theorem Q2o{s:Sem Unit}{K':World->Prop}(h:RunU P s w K')(hK:∀w',K' w'->K undef w'):Res P ((do s;pure .skip:Sem Next).run P w) K:=by
 obtain⟨w',hr,hx⟩:=h;simp only[Sem.run_bind,hr,Result.andThen_ok,Sem.run_pure];exact hK _ hx
theorem Q0X{p:Option Addr}{K:Addr->Prop}(h:someA p K):∃x,p=some x /\ K x:=by
 cases p with
 | none=>exact h.elim
 | some x=>exact⟨x,rfl,h⟩
theorem Q2O{s:TypeId}{fs:Array Field}{i:Nat}{fld:Field}{ti:TypeInfo}(hs:P.underlying s=some (.struct fs))(hf:fs[i]? = some fld)
  (hi:P.info? fld.type=some ti) (hz:ti.size ≠ 0) (x:Addr):(Instr.fieldAt s (.pointer (some x)) i).run P w=.ok (.pointer (some (x.add fld.offset))) w:=by
 simp only[Instr.fieldAt,Sem.run_bind,run_underlying hs,Result.andThen_ok,hf,Instr.sureAddr,Sem.run_pure,fieldPlace,Q0N hi,hz,if_false]
theorem Q2c{t e:TypeId}{ti:TypeInfo}(ht:P.underlying t=some (.slice e))(hi:P.info? e=some ti)(x:Addr)(len cap:Nat)(k:IntKind)(i:Int)(h0:0<=i)(h1:i<(len:Int)) :
  (Instr.indexAt t (.slice (some x) len cap) (.int k i)).run P w=.ok (.pointer (some (x.add (i.toNat*ti.size)))) w:=by
 have hp:P.elem t=e:=by simp[Program.elem,ht]
 rw[run_indexAt_slice w t x len cap k i (by rw[hp];exact ht),if_pos ⟨h0,h1⟩,hp,Q0N hi];rfl
theorem Q2b{t e:TypeId}{n:Nat}{ti:TypeInfo}(ht:P.underlying t=some (.array n e))(hi:P.info? e=some ti)(x:Addr)(k:IntKind)(i:Int)(h0:0<=i)(h1:i<(n:Int)) :
  (Instr.indexAt t (.pointer (some x)) (.int k i)).run P w=.ok (.pointer (some (x.add (i.toNat*ti.size)))) w:=by
 have hp:P.elem t=e:=by simp[Program.elem,ht]
 have hn:P.arrayLen t=n:=by simp[Program.arrayLen,ht]
 rw[run_indexAt_array w t x k i (by rw[hp,hn];exact ht),hn,if_pos ⟨h0,h1⟩,hp,Q0N hi];rfl
theorem Q7p{n m:Nat}:(cond (Nat.beq m 1) n (n*m))=n*m:=by
 cases h:Nat.beq m 1 with
 | false=>rfl
 | true=>have:=Nat.eq_of_beq_eq_true h;subst this;simp
theorem Q5E{g:FuncId}(h:callOk P g=true)(args:Array Value):(callFunc g args).run P w=.ok (.enter g args) w:=by
 unfold callOk at h;split at h
 case h_2=>cases h
 case h_1 fn hfn=>
  simp only[Bool.and_eq_true,Bool.not_eq_true'] at h;obtain⟨hb,hn⟩:=h;have hno:fn.body.isNone=false:=by cases hx:fn.body <;> simp_all
  simp only[callFunc,Sem.run_bind,run_program,Result.andThen_ok,hfn,hn,Bool.false_eq_true,if_false,hno,Sem.run_pure]
theorem Q40(w:World)(isSl:Bool)(n c:Nat){lo hi:Option Value}{l h:Int}(hl:bndI 0 lo=some l)(hh:bndI (n:Int) hi=some h)(h0:0<=l)(h1:l<=h)(h2:h<=(c:Int)) :
  (Instr.sliceBounds isSl n c lo hi none).run P w=.ok (l.toNat,h.toNat,c) w:=by
 have low:∀(v:Option Value),bndI 0 v=some l->((match v with | some v=>Instr.sliceBound v h.toNat .sliceB | none=>pure 0:Sem Nat).run P w=.ok l.toNat w):=by
  intro v hv;cases v with
  | none=>simp only[bndI,Option.some.injEq] at hv;subst hv;rfl
  | some v=>
   cases v <;> simp only[bndI] at hv <;> try cases hv
   rw[run_sliceBound w _ _ _ _ h0 (by omega)]
 cases hi with
 | none=>
  simp only[bndI,Option.some.injEq] at hh;subst hh;have hlow:=low lo hl;simp only[zztnc] at hlow;unfold Instr.sliceBounds;cases lo with
  | none=>simp only[bndI,Option.some.injEq] at hl;subst hl;simp[Sem.run_pure]
  | some v=>simp only at hlow;simp[hlow]
 | some v=>
  cases v <;> simp only[bndI] at hh <;> try cases hh
  rename_i k;have hlow:=low lo hl;have hhigh:=run_sliceBound (P:=P) w k h c (if isSl then BoundsCode.sliceAcap else BoundsCode.sliceAlen) (by omega) h2;unfold Instr.sliceBounds;cases lo with
  | none=>simp only[bndI,Option.some.injEq] at hl;subst hl;simp[hhigh]
  | some v=>simp only at hlow;simp[hhigh,hlow]
theorem Q8c(bs:List UInt8):∀acc:ByteArray,(bs.map fun b=>(b.toNat:Int)).foldl (fun r n=>r.push (UInt8.ofNat n.toNat)) acc=⟨acc.data++bs.toArray⟩:=by
 induction bs with
 | nil=>intro acc;simp
 | cons b bs ih=>
  intro acc;simp only[List.map_cons,List.foldl_cons,zztnc];rw[ih];have:UInt8.ofNat b.toNat=b:=by simp
  rw[this];apply congrArg;apply Array.ext';simp[ByteArray.push]
theorem Q5D(w:World)(a:Option Addr){l:Nat}(c:Nat){bs:List UInt8}(hl:bs.length=l)(hb:BytesAt w a bs) :
  (Conv.bytesToString (.slice a l c)).run P w=.ok (.string ⟨bs.toArray⟩) w:=by
 cases a with
 | none=>
  have:bs=[]:=by
   cases bs with
   | nil=>rfl
   | cons b bs=>obtain⟨x,hx,_⟩:=hb 0 b rfl;cases hx
  subst this;rfl
 | some x=>
  have hc:=run_loadCells_list (P:=P) w x ((bs.map fun b=>(b.toNat:Int)).map (Value.int .u8)) (by
   intro j v hv;simp only[List.map_map,List.getElem?_map,Option.map_eq_some_iff,Function.comp] at hv;obtain⟨b,hbj,rfl⟩:=hv;obtain⟨y,hy,hcell⟩:=hb j b hbj;cases hy;exact hcell)
  simp only[List.length_map,hl] at hc;rw[run_bytesToString w x l c _ hc,Q8c];simp
theorem Q1E{α β:Type}{g:α->β}{x:Array α}{y:β}(h:x.toList.map g=[y]):∃u,x=#[u]:=by
 obtain⟨l⟩:=x;cases l with
 | nil=>simp at h
 | cons u l=>
  cases l with
  | nil=>exact⟨u,rfl⟩
  | cons v l=>simp at h
theorem Qau(a b:ByteArray):(a.toList == b.toList)=decide (a=b):=by
 rw[<-beq_toListBytes];obtain⟨⟨x⟩⟩:=a;obtain⟨⟨y⟩⟩:=b;show((⟨x⟩:Array UInt8) == ⟨y⟩)=_;simp only[ByteArray.mk.injEq,Array.mk.injEq];by_cases e:x=y
 ·subst e;simp
 ·simp[e]
end
theorem Q3u{P:Program}{o:Oper}{f:Fr}{w:World}{K:Value->World->Prop}(h:opE P o f w K):Res P ((execOp (ev f) o).run P w) K:=by
 obtain⟨dst,op,ty,pos,after,guard⟩:=o;cases op <;> simp only[opE] at h
 case move x=>exact h
 case assign x=>exact h
 case pick c x y=>
  split at h
  ·rename_i q hq;simp only[execOp,hq,asBool,pure_bind,Sem.run_pure];cases q <;> exact h
  ·exact h.elim
 case alloc e=>
  split at h
  ·rename_i i hi;split at h
   ·rename_i z hz;have hr:(Instr.alloc e true (.tuple #[])).run P w=.ok (.pointer (some ⟨w.heap.size,0,none⟩)) (w.alloc (.cells z.cells e)):=by
     simp[Instr.alloc,zeroValue,typeInfo,hi,hz,newVar,newRow]
    exact Q0o hr (h _ _ rfl rfl)
   ·exact h.elim
  ·exact h.elim
 case box e x=>
  have hr:(Instr.box e (ev f x)).run P w=.ok (.pointer (some ⟨w.heap.size,0,none⟩)) (w.alloc (.cells (ev f x).cells e)):=by
   simp[Instr.box,newVar,newRow]
  exact Q0o hr (h _ _ rfl rfl)
 case load t x=>
  split at h
  ·rename_i p hp;obtain⟨x',rfl,h⟩:=Q0X h;obtain⟨v,hr,hk⟩:=Q3m (K:=fun v=>K v w) h;have hr':(Instr.loadAt t (ev f x)).run P w=.ok v w:=by rw[hp];simp only[Instr.loadAt,Instr.sureAddr,Sem.run_bind,Sem.run_pure,Result.andThen_ok];exact hr
   exact Q0o hr' hk
  ·exact h.elim
 case store t x y=>
  split at h
  ·rename_i p hp;obtain⟨x',rfl,h⟩:=Q0X h;obtain⟨w',hr,hk⟩:=Qas h;have hr':(Instr.storeAt t (ev f x) (ev f y)).run P w=.ok () w':=by rw[hp];simp only[Instr.storeAt,Instr.sureAddr,Sem.run_bind,Sem.run_pure,Result.andThen_ok];exact hr
   exact Q2o (K':=fun w'=>K undef w') ⟨_,hr',hk⟩ (fun w' hk=>hk)
  ·exact h.elim
 case nilCheck x=>
  split at h
  ·rename_i p hp;obtain⟨x',rfl,h⟩:=Q0X h;simp only[execOp,hp,Sem.run_pure];exact h
  ·exact Q3c h
 case fieldAddr s x i=>
  split at h
  ·rename_i fs p hs hp;split at h
   ·rename_i fld hf;split at h
    ·rename_i ti hi;cases hb:Nat.beq ti.size 0 with
     | true=>rw[hb] at h;exact h.elim
     | false=>
      rw[hb] at h;obtain⟨x',rfl,h⟩:=Q0X h;have hz:ti.size ≠ 0:=fun e=>by rw[e] at hb;cases hb
      have hr:(Instr.fieldAt s (ev f x) i).run P w=.ok (.pointer (some (x'.add fld.offset))) w:=by rw[hp];exact Q2O hs hf hi hz x'
      exact Q0o hr h
    ·exact h.elim
   ·exact h.elim
  ·exact h.elim
 case indexAddr t x ix=>
  split at h
  ·rename_i e base len cap k i ht hx hi;split at h
   ·rename_i ti hti;obtain⟨h0,h1,h⟩:=h;obtain⟨x',rfl,h⟩:=Q0X h;rw[Q7p] at h;have hr:(Instr.indexAt t (ev f x) (ev f ix)).run P w=.ok (.pointer (some (x'.add (i.toNat*ti.size)))) w:=by rw[hx,hi];exact Q2c ht hti x' len cap k i h0 h1
    exact Q0o hr h
   ·exact h.elim
  ·rename_i n e p k i ht hx hi;split at h
   ·rename_i ti hti;obtain⟨h0,h1,h⟩:=h;obtain⟨x',rfl,h⟩:=Q0X h;rw[Q7p] at h;have hr:(Instr.indexAt t (ev f x) (ev f ix)).run P w=.ok (.pointer (some (x'.add (i.toNat*ti.size)))) w:=by rw[hx,hi];exact Q2b ht hti x' k i h0 h1
    exact Q0o hr h
   ·exact h.elim
  ·exact h.elim
 case index t x ix=>
  split at h
  ·rename_i s k i ht hx hi;obtain⟨h0,b,hb,h⟩:=h;have hr:(Instr.index t (ev f x) (ev f ix)).run P w=.ok (.int .u8 (b.toNat:Int)) w:=by
    rw[hx,hi];simp only[Instr.index,asIntOf,pure_bind,Sem.run_bind,run_underlying ht,Result.andThen_ok,h0,if_true,hb,Sem.run_pure]
   exact Q0o hr h
  ·exact Q0p h
 case slice t x lo hi mx=>
  split at h
  ·rename_i s l ht hx hl;split at h
   ·rename_i hh hhi;obtain⟨h0,h1,h2,h⟩:=h;have hr:(Instr.sliceAt t (ev f x) (lo.map (ev f)) (hi.map (ev f)) none).run P w=.ok (.string (s.extract l.toNat hh.toNat)) w:=by
     rw[run_sliceAt_string w t _ _ _ _ ht,hx];simp only[Instr.slice,Sem.run_bind,run_underlying ht,Result.andThen_ok,Option.isSome_none,Bool.false_eq_true,if_false,Sem.run_pure,Q40 w false s.size s.size hl hhi h0 h1 h2]
    exact Q0o hr h
   ·exact h.elim
  ·rename_i e a n c l ht hx hl;split at h
   ·rename_i ti hh hti hhi;obtain⟨h0,h1,h2,h⟩:=h;have hp:P.elem t=e:=by simp[Program.elem,ht]
    have hr:(Instr.sliceAt t (ev f x) (lo.map (ev f)) (hi.map (ev f)) none).run P w=.ok (.slice (subA a l.toNat c ti.size) (hh.toNat-l.toNat) (c-l.toNat)) w:=by
     rw[run_sliceAt_slice w t _ _ _ _ (by rw[hp];exact ht),hx];simp only[Instr.slice,Sem.run_bind,run_underlying ht,Result.andThen_ok,Q0N hti,Sem.run_pure,Q40 w true n c hl hhi h0 h1 h2];rfl
    exact Q0o hr h
   ·exact h.elim
  ·exact Q0p h
 case makeSlice t l c=>
  split at h
  ·rename_i e kl l' kc c' ht hl hc;split at h
   ·rename_i ti hi;split at h
    ·rename_i z hz;obtain⟨h0,h1,h2,h3,h⟩:=h;have hr:=run_make (P:=P) w t e ti z ht hi hz kl kc l' c' h0 h1 h2 h3;have hr':(Instr.makeSlice t (ev f l) (ev f c)).run P w=.ok (.slice (some ⟨w.heap.size,0,none⟩) l'.toNat c'.toNat) (w.alloc (.cells (madeCells z.cells (c'.toNat*ti.size)) e)):=by rw[hl,hc];exact hr
     exact Q0o hr' (h _ _ rfl rfl)
    ·exact h.elim
   ·exact h.elim
  ·exact h.elim
 case buildSlice t n ps=>
  split at h
  ·rename_i e ht;split at h
   ·rename_i ti hi;split at h
    ·rename_i z hz;split at h
     ·rename_i cells hcells;cases hb:(Nat.ble (n*ti.size) 16777216)with
      | false=>rw[hb] at h;exact h.elim
      | true=>
       rw[hb] at h;have hle:¬(n*ti.size>2 ^ 24):=by have:=Nat.le_of_ble_eq_true hb;omega
       have hr:(Instr.buildSlice t n (ps.map fun(i,x)=>(i,ev f x))).run P w=.ok (.slice (some ⟨w.heap.size,0,none⟩) n n) (w.alloc (.cells cells e)):=by
        by_cases hne:n*ti.size=0
        ·rw[hne] at hcells;have e0:∀g:Nat->Value,(Array.range 0).map g=#[]:=fun g=>by simp
         rw[e0] at hcells;simp only[Instr.buildSlice,Sem.run_bind,run_underlying ht,Result.andThen_ok,Q0N hi,hle,hne,if_true,if_false,Sem.run_pure,e0,hcells,newRow,run_newObj];rfl
        ·simp only[Instr.buildSlice,Sem.run_bind,run_underlying ht,Result.andThen_ok,Q0N hi,hle,hne,if_false,Sem.run_pure,zeroValue,typeInfo,run_program,hi,hz,hcells,newRow,run_newObj];rfl
       exact Q0o hr (h _ _ rfl rfl)
     ·exact h.elim
    ·exact h.elim
   ·exact h.elim
  ·exact h.elim
 case makeMap=>exact Q0p h
 case lookup=>exact Q0p h
 case mapUpdate=>exact Q2o h fun w' hk=>hk
 case insert=>exact Q2o h fun w' hk=>hk
 case mapEntry=>exact Q0p h
 case entryStore=>exact Q2o h fun w' hk=>hk
 case range=>exact Q0p h
 case next it b=>
  cases b with
  | true=>exact Q0p h
  | false=>
   obtain⟨b,k,v,w',hr,h0,h1⟩:=h;cases b with
   | true=>exact Q0o hr (h1 rfl)
   | false=>exact Q0o hr (h0 rfl)
 case extract t ix=>
  split at h
  ·rename_i vs hv;split at h
   ·rename_i v hi;have hr:(Instr.extract (ev f t) ix).run P w=.ok v w:=by rw[hv];simp[Instr.extract,hi]
    exact Q0o hr h
   ·exact h.elim
  ·exact h.elim
 case convert src dst x=>
  split at h
  ·exact Q3c h
  ·rename_i a' l c hx;split at h
   ·rename_i e hs hd;split at h
    ·rename_i he;obtain⟨bs,hl,hb,h⟩:=h;have hr:(convert src dst (ev f x)).run P w=.ok (.string ⟨bs.toArray⟩) w:=by
      rw[hx,run_convert_bytes_string w src dst e a' l c hs he hd];exact Q5D w a' c hl hb
     exact Q0o hr h
    ·exact h.elim
   ·have h':RunE P (convert src dst (ev f x)) w (zeroOf P ty) K:=by rw[hx];exact h
    exact Q0p h'
  ·exact Q0p h
 case binOp op t x y yt=>
  split at h
  ·rename_i p hx hy;split at h
   ·rename_i e ht;have hp:P.underlying t=some (.pointer (P.pointee t)):=by simp[Program.pointee,ht]
    simp only[execOp,hx,hy,eqGuard_at_pointer,pure_bind,Sem.run_bind,run_eql_pointer_nil w t p hp,Result.andThen_ok,Sem.run_pure];exact h
   ·exact h.elim
  ·rename_i p hx hy;split at h
   ·rename_i e ht;have hp:P.underlying t=some (.pointer (P.pointee t)):=by simp[Program.pointee,ht]
    simp only[execOp,hx,hy,eqGuard_at_pointer,pure_bind,Sem.run_bind,run_neq_pointer_nil w t p hp,Result.andThen_ok,Sem.run_pure];exact h
   ·exact h.elim
  ·rename_i p n c n' c' hx hy;split at h
   ·rename_i e ht;simp only[execOp,hx,hy,eqGuard_at_slice,pure_bind,Sem.run_bind,Lib.run_eql_slice_nil w t e p n c n' c' ht,Result.andThen_ok,Sem.run_pure];exact h
   ·exact h.elim
  ·rename_i p n c n' c' hx hy;split at h
   ·rename_i e ht;have hr:(binOp .neq t (.slice p n c) (.slice none n' c')).run P w=.ok (.bool (!p.isNone)) w:=by
     simp only[binOp];simp[Op.equal,Op.maxDepth,Lib.run_equalIn_slice_nil w 9999 t e p n c n' c' ht]
    simp only[execOp,hx,hy,eqGuard_at_slice,pure_bind,Sem.run_bind,hr,Result.andThen_ok,Sem.run_pure];exact h
   ·exact h.elim
  ·rename_i k a' yk b hx hy;have hr:(do eqGuard .shl t x y (ev f x) (ev f y);binOp .shl t (ev f x) (ev f y):Sem Value).run P w=.ok (.int k (shlV k a' b)) w:=by
    rw[hx,hy,eqGuard_at_int,binOp_shl];simp only[pure_bind,Op.shift,show ¬b<0 from by omega,if_false,Sem.run_pure,shlV]
   exact Q0o hr h.2
  ·rename_i k a' yk b hx hy;have hr:(do eqGuard .shr t x y (ev f x) (ev f y);binOp .shr t (ev f x) (ev f y):Sem Value).run P w=.ok (.int k (shrV k a' b)) w:=by
    rw[hx,hy,eqGuard_at_int,binOp_shr];simp only[pure_bind,Op.shift,show ¬b<0 from by omega,if_false,Sem.run_pure,shrV]
   exact Q0o hr h.2
  ·rename_i k a' k' b hx hy;by_cases hk:k=k'
   ·subst hk;simp only[decide_true,cond_true] at h;have hr:(do eqGuard .quo t x y (ev f x) (ev f y);binOp .quo t (ev f x) (ev f y):Sem Value).run P w=.ok (.int k (k.wrap (a'.tdiv b))) w:=by
     rw[hx,hy,eqGuard_at_int,binOp_quo];simp only[pure_bind,Op.intDiv,h.1,if_false,Sem.run_pure]
    exact Q0o hr h.2
   ·simp only[hk,decide_false,cond_false] at h
  ·rename_i k a' k' b hx hy;by_cases hk:k=k'
   ·subst hk;simp only[decide_true,cond_true] at h;have hr:(do eqGuard .rem t x y (ev f x) (ev f y);binOp .rem t (ev f x) (ev f y):Sem Value).run P w=.ok (.int k (a'.tmod b)) w:=by
     rw[hx,hy,eqGuard_at_int,binOp_rem];simp only[pure_bind,Op.intDiv,h.1,if_false,Sem.run_pure]
    exact Q0o hr h.2
   ·simp only[hk,decide_false,cond_false] at h
  ·rename_i k a' k' b hx hy;by_cases hk:k=k'
   ·subst hk;simp only[decide_true,cond_true] at h;simp only[execOp,hx,hy,eqGuard_at_int,binOp_and,intBits_and,pure_bind,Sem.run_pure];exact h
   ·simp only[hk,decide_false,cond_false] at h
  ·rename_i k a' k' b hx hy;by_cases hk:k=k'
   ·subst hk;simp only[decide_true,cond_true] at h;simp only[execOp,hx,hy,eqGuard_at_int,binOp_or,intBits_or,pure_bind,Sem.run_pure];exact h
   ·simp only[hk,decide_false,cond_false] at h
  ·rename_i k a' k' b hx hy;by_cases hk:k=k'
   ·subst hk;simp only[decide_true,cond_true] at h;simp only[execOp,hx,hy,eqGuard_at_int,binOp_xor,intBits_xor,pure_bind,Sem.run_pure];exact h
   ·simp only[hk,decide_false,cond_false] at h
  ·rename_i k a' k' b hx hy;by_cases hk:k=k'
   ·subst hk;simp only[decide_true,cond_true] at h;simp only[execOp,hx,hy,eqGuard_at_int,binOp_andNot,intBits_andNot,pure_bind,Sem.run_pure];exact h
   ·simp only[hk,decide_false,cond_false] at h
  ·rename_i a' b hx hy;simp only[execOp,hx,hy,eqGuard_at_string,pure_bind,binOp,Op.stringOp,Sem.run_pure,Qau];exact h
  ·rename_i a' b hx hy;simp only[execOp,hx,hy,eqGuard_at_string,pure_bind,binOp,Op.stringOp,Sem.run_pure,Qau];exact h
  ·rename_i xs ys hx hy;cases hg:P.eqGuardType P.depth t with
   | true=>rw[hg] at h;exact h.elim
   | false=>
    rw[hg] at h;obtain⟨q,w',hr,hk⟩:=h;have hr':(do eqGuard .eql t x y (ev f x) (ev f y);binOp .eql t (ev f x) (ev f y):Sem Value).run P w=.ok (.bool q) w':=by
     rw[hx,hy,Sem.run_bind,run_eqGuard_agg w .eql t x y xs ys hg];exact hr
    exact Q0o hr' hk
  ·rename_i xs ys hx hy;cases hg:P.eqGuardType P.depth t with
   | true=>rw[hg] at h;exact h.elim
   | false=>
    rw[hg] at h;obtain⟨q,w',hr,hk⟩:=h;have hr':(do eqGuard .neq t x y (ev f x) (ev f y);binOp .neq t (ev f x) (ev f y):Sem Value).run P w=.ok (.bool q) w':=by
     rw[hx,hy,Sem.run_bind,run_eqGuard_agg w .neq t x y xs ys hg];exact hr
    exact Q0o hr' hk
  ·rename_i a' b hx hy;have h0:¬(((a'.size+b.size:Nat):Int)>IntKind.i64.max):=by rw[IntKind.max_i64];omega
   simp only[execOp,hx,hy,eqGuard_at_string,pure_bind,binOp,Op.stringOp,h0,if_false,Sem.run_pure];exact h.2
  ·rename_i hx hy;simp only[execOp,hx,hy,eqGuard_at_float,pure_bind];exact Q0p h
  ·rename_i hx hy;simp only[execOp,hx,hy,eqGuard_at_complex,pure_bind];exact Q0p h
  ·rename_i hx hy;obtain⟨u,w',hr,hk⟩:=h;simp only[execOp,hx,hy,eqGuard_at_pointer,pure_bind];exact Q0o hr hk
  ·rename_i hx hy;obtain⟨u,w',hr,hk⟩:=h;simp only[execOp,hx,hy,eqGuard_at_pointer,pure_bind];exact Q0o hr hk
  ·exact Q3c h
 case call c=>
  obtain⟨callee,args,argTypes⟩:=c;cases callee with
  | invoke r m=>exact h.elim
  | value g=>
   simp only at h;split at h
   ·rename_i g' first captured hg
    cases hc:callOk P g' with
    | false=>
     rw[hc] at h;simp only[cond_false] at h;obtain⟨u,w',hr,hk⟩:=Q73 h;have hr':(execOp (ev f) ⟨dst,.call ⟨.value g,args,argTypes⟩,ty,pos,after,guard⟩).run P w=.ok (.value u) w':=by
      simp only[execOp,resolve,Deferred.ofValue,hg,pure_bind,invoke];exact hr
     rw[hr'];exact hk
    | true=>
     rw[hc] at h;simp only[cond_true] at h;have hr:(execOp (ev f) ⟨dst,.call ⟨.value g,args,argTypes⟩,ty,pos,after,guard⟩).run P w=.ok (.enter g' (first++args.map (ev f)++captured)) w:=by
      simp only[execOp,resolve,Deferred.ofValue,hg,pure_bind,invoke];exact Q5E hc _
     rw[hr];refine Q1u h.h fun v w' hr=>?_;obtain⟨u,rfl,hk⟩:=Q73 (show exV (zeroOf P ty) (fun u=>v=u /\ K u w')from hr);exact hk
   ·exact h.elim
  | builtin b=>
   cases b <;> simp only[] at h
   case append=>exact Q0p h
   case copy=>exact Q0p h
   case clear=>exact Q0p h
   case delete=>exact Q0p h
   case min=>exact Q0p h
   case max=>exact Q0p h
   case complex=>exact Q0p h
   case real=>exact Q0p h
   case imag=>exact Q0p h
   case unsafeSliceData=>exact Q0p h
   case unsafeString=>exact Q0p h
   case len=>
    split at h
    ·rename_i base n c' hl;split at h
     ·rename_i e hty;obtain⟨x,rfl⟩:=Q1E hl;obtain⟨t,rfl⟩:=Q1E hty;have hx:ev f x=.slice base n c':=by simpa using hl
      have ht:P.underlying t=some (.slice e):=by simpa using hty
      have hr:(Builtin.len_ #[t] ty (#[x].map (ev f))).run P w=.ok (.int .i64 (n:Int)) w:=by
       simp only[List.map_toArray,List.map_cons,List.map_nil,hx];have hp:P.elem t=e:=by simp[Program.elem,ht]
       rw[run_len_slice w t ty base n c' (by rw[hp];exact ht)];rfl
      exact Q0o hr h
     ·exact h.elim
    ·rename_i s hl;split at h
     ·rename_i hty;obtain⟨x,rfl⟩:=Q1E hl;obtain⟨t,rfl⟩:=Q1E hty;have hx:ev f x=.string s:=by simpa using hl
      have ht:P.underlying t=some .string:=by simpa using hty
      have hr:(Builtin.len_ #[t] ty (#[x].map (ev f))).run P w=.ok (.int .i64 (s.size:Int)) w:=by
       simp only[List.map_toArray,List.map_cons,List.map_nil,hx];rw[run_len_string w t ty s ht];rfl
      exact Q0o hr h
     ·exact h.elim
    ·exact Q0p h
 all_goals exact Q3c h
theorem Q5w{P:Program}{o:Oper}{f:Fr}{a:Act}{N:Nat}{w:World}{K:Value->World->Prop}{next:Act->World->Prop}{Q:Exit->Act->World->Prop}
  (hF:FR N a f) (h:opE P o f w K) (hK:∀v w',K v w'->next (a.put o.dst v) w'):o.wp P a w next Q:=by
 have he:a.eval=ev f:=funext hF.eval;unfold Oper.wp;rw[he];exact(Q3u h).upon hK
def partT(all:List Oper)(d:Option Nat)(ix:Nat):TypeId:=
 match all with
 | []=>0
 | o :: rest=>(match o.op with
  | .extract (.tmp t) i=>cond (match d with | some d=>Nat.beq t d && Nat.beq i ix | none=>false) o.type (partT rest d ix)
  | _=>partT rest d ix)
def partZ(P:Program)(t:TypeId):Value:=cond (Nat.beq t 0) .nilIface (zeroOf P t)
def opX(P:Program)(all:List Oper)(o:Oper)(f:Fr)(w:World)(K:Value->World->Prop):Prop:=
 match o.op with
 | .entry it=>RunE P (Instr.entry (ev f it)) w (.tuple #[partZ P (partT all o.dst 0),partZ P (partT all o.dst 1)]) K
 | _=>opE P o f w K
theorem Q9T{P:Program}{all:List Oper}{o:Oper}{f:Fr}{a:Act}{N:Nat}{w:World}{K:Value->World->Prop}{next:Act->World->Prop}{Q:Exit->Act->World->Prop}
  (hF:FR N a f) (h:opX P all o f w K) (hK:∀v w',K v w'->next (a.put o.dst v) w'):o.wp P a w next Q:=by
 unfold opX at h;split at h
 ·rename_i it hop;have he:a.eval=ev f:=funext hF.eval;unfold Oper.wp;rw[he];refine Res.upon (K:=K) ?_ hK;have hx:execOp (ev f) o=(do pure (.value (← Instr.entry (ev f it))):Sem Next):=by
   unfold execOp;rw[hop]
  rw[hx];exact Q0p h
 ·exact Q5w hF h hK
def opsE(P:Program)(all:List Oper)(next:Fr->World->Prop):List Oper->Fr->World->Prop
 | [],f,w=>next f w
 | o :: rest,f,w=>
  match o.guard with
  | none=>opX P all o f w fun v w'=>opsE P all next rest (put f o.dst v) w'
  | some (j,want)=>
   match (all[j]?).bind (·.dst)with
   | none=>opsE P all next rest (put f o.dst undef) w
   | some d=>
    match f d with
    | .bool q=>
     match want with
     | true=>ifB q (opE P o (put f (some d) (.bool true)) w fun v w'=>opsE P all next rest (put (put f (some d) (.bool true)) o.dst v) w')
       (opsE P all next rest (put (put f (some d) (.bool false)) o.dst undef) w)
     | false=>ifB q (opsE P all next rest (put (put f (some d) (.bool true)) o.dst undef) w)
       (opE P o (put f (some d) (.bool false)) w fun v w'=>opsE P all next rest (put (put f (some d) (.bool false)) o.dst v) w')
    | _=>opsE P all next rest (put f o.dst undef) w
def Pres(M:Nat->Bool)(f f':Fr):Prop:=∀t,M t=false->f' t=f t
theorem Pres.refl(M:Nat->Bool)(f:Fr):Pres M f f:=fun _ _=>rfl
theorem Pres.trans{M:Nat->Bool}{f g h:Fr}(a:Pres M f g)(b:Pres M g h):Pres M f h:=fun t ht=>(b t ht).trans (a t ht)
def dstOk(M:Nat->Bool)(N:Nat)(o:Oper):Bool:=match o.dst with | some d=>M d && Nat.blt d N | none=>true
theorem Q6Q(d:Nat):Nat.beq d d=true:=by simp
theorem Q1Z{t d:Nat}(h:t ≠ d):Nat.beq t d=false:=by
 cases hq:Nat.beq t d with
 | false=>rfl
 | true=>exact absurd (Nat.eq_of_beq_eq_true hq) h
theorem Pres.put{M:Nat->Bool}{N:Nat}{f f':Fr}(h:Pres M f f'){o:Oper}(ho:dstOk M N o=true)(v:Value):Pres M f (put f' o.dst v):=by
 intro t ht;unfold dstOk at ho;cases hd:o.dst with
 | none=>exact h t ht
 | some d=>
  rw[hd] at ho;simp only[Bool.and_eq_true] at ho;have hne:t ≠ d:=fun e=>by subst e;rw[ho.1] at ht;cases ht
  simp only[Go.Proofs.YtpnbcakbefplpaaGreatDoor.put,Q1Z hne,cond_false];exact h t ht
theorem Q70{M:Nat->Bool}{N:Nat}{o:Oper}(ho:dstOk M N o=true):∀k,o.dst=some k->k<N:=by
 intro k hk;unfold dstOk at ho;rw[hk] at ho;simp only[Bool.and_eq_true] at ho;exact Nat.le_of_ble_eq_true ho.2
theorem Q4I{f:Fr}{d:Nat}{v:Value}(h:f d=v):put f (some d) v=f:=by
 funext t;by_cases e:t=d
 ·subst e;simp[put,h]
 ·simp[put,Q1Z e]
theorem FR.at?{N:Nat}{a:Act}{f:Fr}(h:FR N a f){d:Nat}{q:Bool}(hd:f d=.bool q):a.tmps[d]? = some (.bool q):=by
 have hg:=h.get d;rw[hd] at hg;by_cases hlt:d<a.tmps.size
 ·simp[Array.getD,hlt] at hg;simp[hlt,hg]
 ·simp[Array.getD,hlt,undef] at hg
theorem FR.at?'{N:Nat}{a:Act}{f:Fr}(h:FR N a f)(d:Nat):a.tmps[d]? = some (f d) \/ a.tmps[d]? = none:=by
 have hg:=h.get d;by_cases hlt:d<a.tmps.size
 ·left;simp[Array.getD,hlt] at hg;simp[hlt,hg]
 ·right;simp[Nat.le_of_not_lt hlt]
def boolOf(v:Option Value):Option Bool:=match v with | some (.bool b)=>some b | _=>none
theorem Q60{all:List Oper}{tmps:Array Value}{j:Nat}(h:(all[j]?).bind (·.dst)=none):yielded all.toArray tmps j=none:=by
 simp only[yielded,List.getElem?_toArray];rw[h];rfl
theorem Q61{all:List Oper}{tmps:Array Value}{j d:Nat}(h:(all[j]?).bind (·.dst)=some d):yielded all.toArray tmps j=boolOf (tmps[d]?):=by
 simp only[yielded,List.getElem?_toArray];rw[h];rfl
theorem Q1F{P:Program}{all:List Oper}{next:Fr->World->Prop}{N:Nat}{M:Nat->Bool}{Q:Exit->Act->World->Prop}{f0:Fr}
  (hQ:∀a' f' w',FR N a' f'->Pres M f0 f'->next f' w'->Q .normal a' w') :
  ∀(ops:List Oper)(f:Fr)(w:World)(a:Act),(∀o ∈ ops,dstOk M N o=true)->FR N a f->Pres M f0 f->opsE P all next ops f w->wpList P all.toArray Q ops a w
 | [],f,w,a,_,hF,hP,h=>hQ a f w hF hP h
 | o :: rest,f,w,a,hin,hF,hP,h=>by
  have ho:=hin o (by simp);have hrest:∀o ∈ rest,dstOk M N o=true:=fun x hx=>hin x (by simp[hx]);have run:∀(f:Fr),FR N a f->Pres M f0 f->(opE P o f w fun v w'=>opsE P all next rest (put f o.dst v) w')->o.wp P a w (wpList P all.toArray Q rest) Q:=by
   intro f hF hP h;exact Q5w hF h fun v w' hk=>Q1F hQ rest _ _ _ hrest (hF.put _ _ (Q70 ho)) (hP.put ho v) hk
  have runX:∀(f:Fr),FR N a f->Pres M f0 f->(opX P all o f w fun v w'=>opsE P all next rest (put f o.dst v) w')->o.wp P a w (wpList P all.toArray Q rest) Q:=by
   intro f hF hP h;exact Q9T hF h fun v w' hk=>Q1F hQ rest _ _ _ hrest (hF.put _ _ (Q70 ho)) (hP.put ho v) hk
  have skip:∀(f:Fr),FR N a f->Pres M f0 f->opsE P all next rest (put f o.dst undef) w->wpList P all.toArray Q rest (a.put o.dst undef) w:=
   fun f hF hP h=>Q1F hQ rest _ _ _ hrest (hF.put _ _ (Q70 ho)) (hP.put ho _) h
  unfold wpList;unfold opsE at h;split at h
  ·rename_i hg;rw[if_pos (by simp[Region.wanted,hg])];exact .inl (runX f hF hP h)
  ·rename_i j want hg;have hy:Region.wanted o (yielded all.toArray a.tmps)=(yielded all.toArray a.tmps j == some want):=by
    simp only[Region.wanted,hg]
   rw[hy];split at h
   ·rename_i hd;rw[Q60 hd];exact skip f hF hP h
   ·rename_i d hd;rw[Q61 hd];split at h
    ·rename_i q hq;rw[hF.at? hq];cases want <;> cases q <;> simp only[ifB] at h <;> rw[Q4I hq] at h
     ·exact .inl (run f hF hP h)
     ·exact skip f hF hP h
     ·exact skip f hF hP h
     ·exact .inl (run f hF hP h)
    ·rename_i hq;rcases hF.at?' d with e | e
     ·rw[e];have:boolOf (some (f d))=none:=by
       unfold boolOf;split
       ·rename_i b hb;exact(hq b (by simpa using hb)).elim
       ·rfl
      rw[this];exact skip f hF hP h
     ·rw[e];exact skip f hF hP h
def loudB(o:Oper):Bool:=
 match o.op with
 | .call c=>(match c.callee with
  | .builtin .len=>false
  | .builtin .min=>false
  | .builtin .max=>false
  | _=>true)
 | .move _=>false
 | .assign _=>false
 | .pick ..=>false
 | .load ..=>false
 | .nilCheck _=>false
 | .binOp ..=>false
 | .unOp ..=>false
 | .convert ..=>false
 | .slice ..=>false
 | .fieldAddr ..=>false
 | .field ..=>false
 | .indexAddr ..=>false
 | .index ..=>false
 | .lookup ..=>false
 | .extract ..=>false
 | .build ..=>false
 | _=>true
def intOp(op:BinOp)(k:IntKind)(a b:Int):Option Value:=
 match op with
 | .add=>some (.int k (k.wrap (a+b)))
 | .sub=>some (.int k (k.wrap (a-b)))
 | .mul=>some (.int k (k.wrap (a*b)))
 | .eql=>some (.bool (a == b))
 | .neq=>some (.bool (a != b))
 | .lss=>some (.bool (a<b))
 | .leq=>some (.bool (a<=b))
 | .gtr=>some (.bool (a>b))
 | .geq=>some (.bool (a>=b))
 | _=>none
def opS(P:Program)(o:Oper)(f:Fr)(w:World)(K:Value->Prop):Prop:=
 match o.op with
 | .move x=>K (ev f x)
 | .assign x=>K (ev f x)
 | .load t x=>match ev f x with | .pointer p=>someA p fun a=>ldE P t w a K | _=>False
 | .nilCheck x=>match ev f x with | .pointer p=>someA p fun a=>K (.pointer (some a)) | _=>False
 | .fieldAddr s x i=>match P.underlying s,ev f x with
  | some (.struct fs),.pointer p=>(match fs[i]? with
   | some fld=>(match P.info? fld.type with
    | some ti=>cond (Nat.beq ti.size 0) False (someA p fun a=>K (.pointer (some (a.add fld.offset))))
    | none=>False)
   | none=>False)
  | _,_=>False
 | .extract t ix=>match ev f t with
  | .tuple vs=>(match vs[ix]? with | some v=>K v | none=>False)
  | _=>False
 | .binOp op t x y yt=>match ev f x,ev f y with
  | .int k a,.int k' b=>(match decide (k=k'),intOp op k a b with
   | true,some v=>K v
   | _,_=>opE P o f w fun v w'=>w'=w /\ K v)
  | _,_=>opE P o f w fun v w'=>w'=w /\ K v
 | _=>opE P o f w fun v w'=>w'=w /\ K v
def persB(o:Oper):Bool:=
 match o.op with
 | .move _=>true
 | .assign _=>true
 | .nilCheck _=>true
 | .fieldAddr ..=>true
 | .extract ..=>true
 | _=>false
def Sil(P:Program)(o:Oper)(f:Fr)(w:World)(v:Value):Prop:=
 (execOp (ev f) o).run P w=.ok (.value v) w /\ (persB o=true->∀w',(execOp (ev f) o).run P w'=.ok (.value v) w')
theorem Sil.all{P:Program}{o:Oper}{f:Fr}{w:World}{v:Value}(h:∀w',(execOp (ev f) o).run P w'=.ok (.value v) w'):Sil P o f w v:=⟨h w,fun _=>h⟩
theorem Sil.one{P:Program}{o:Oper}{f:Fr}{w:World}{v:Value}(hp:persB o=false)(h:(execOp (ev f) o).run P w=.ok (.value v) w):Sil P o f w v:=⟨h,fun e=>by rw[hp] at e;cases e⟩
theorem res_v{P:Program}{s:Sem Value}{w:World}{K:Value->World->Prop}(h:Res P ((do pure (.value (← s)):Sem Next).run P w) K) :
  ∃v w',(do pure (.value (← s)):Sem Next).run P w=.ok (.value v) w' /\ K v w':=by
 simp only[Sem.run_bind,Sem.run_pure] at h ⊢;cases hr:s.run P w with
 | ok v w'=>rw[hr] at h;exact⟨v,w',rfl,h⟩
 | halt x w'=>rw[hr] at h;exact h.elim
theorem Q8v{P:Program}{o:Oper}{f:Fr}{w:World}{K:Value->Prop}{s:Sem Value}(hp:persB o=false)(he:execOp (ev f) o=(do pure (.value (← s)):Sem Next))
  (h:opE P o f w fun v w'=>w'=w /\ K v):∃v,Sil P o f w v /\ K v:=by
 have hr:=Q3u h;rw[he] at hr;obtain⟨v,w',hv,rfl,hk⟩:=res_v hr;exact⟨v,.one hp (by rw[he];exact hv),hk⟩
theorem Q9w{P:Program}{op:BinOp}{k:IntKind}{a b:Int}{v:Value}{t:TypeId}{w:World}(h:intOp op k a b=some v):(binOp op t (.int k a) (.int k b)).run P w=.ok v w:=by
 cases op <;> simp only[intOp,reduceCtorEq,Option.some.injEq] at h <;> subst h <;>
  first
   | (rw[binOp_add];rfl) | (rw[binOp_sub];rfl) | (rw[binOp_mul];rfl) | (rw[binOp_eql];rfl) | (rw[binOp_neq];rfl)
   | (rw[binOp_lss];rfl) | (rw[binOp_leq];rfl) | (rw[binOp_gtr];rfl) | (rw[binOp_geq];rfl)
theorem Q6u{P:Program}{o:Oper}{f:Fr}{w:World}{K:Value->Prop}(hl:loudB o=false)(h:opS P o f w K):∃v,Sil P o f w v /\ K v:=by
 obtain⟨dst,op,ty,pos,after,guard⟩:=o;cases op <;> simp only[loudB,Bool.true_eq_false] at hl <;> simp only[opS] at h
 case move x=>exact⟨_,.all fun _=>rfl,h⟩
 case assign x=>exact⟨_,.all fun _=>rfl,h⟩
 case pick c x y=>
  simp only[opE] at h;split at h
  ·rename_i q hq;cases q with
   | true=>exact⟨ev f x,.one rfl (by simp[execOp,hq,asBool]),h.2⟩
   | false=>exact⟨ev f y,.one rfl (by simp[execOp,hq,asBool]),h.2⟩
  ·exact h.elim
 case load t x=>
  split at h
  ·rename_i p hp;obtain⟨x',rfl,h⟩:=Q0X h;obtain⟨v,hr,hk⟩:=Q3m h;refine⟨v,.one rfl ?_,hk⟩;have hr':(Instr.loadAt t (ev f x)).run P w=.ok v w:=by rw[hp];simp only[Instr.loadAt,Instr.sureAddr,Sem.run_bind,Sem.run_pure,Result.andThen_ok];exact hr
   simp only[execOp,Sem.run_bind,hr',Result.andThen_ok,Sem.run_pure]
  ·exact h.elim
 case nilCheck x=>
  split at h
  ·rename_i p hp;obtain⟨x',rfl,h⟩:=Q0X h;exact⟨_,.all fun w'=>by simp only[execOp,hp,Sem.run_pure],h⟩
  ·exact h.elim
 case fieldAddr s x i=>
  split at h
  ·rename_i fs p hs hp;split at h
   ·rename_i fld hf;split at h
    ·rename_i ti hi;cases hb:Nat.beq ti.size 0 with
     | true=>rw[hb] at h;exact h.elim
     | false=>
      rw[hb] at h;obtain⟨x',rfl,h⟩:=Q0X h;have hz:ti.size ≠ 0:=fun e=>by rw[e] at hb;cases hb
      refine⟨_,.all fun w'=>?_,h⟩;simp only[execOp,hp,Sem.run_bind,Q2O hs hf hi hz x',Result.andThen_ok,Sem.run_pure]
    ·exact h.elim
   ·exact h.elim
  ·exact h.elim
 case extract t ix=>
  split at h
  ·rename_i vs hv;split at h
   ·rename_i v hi;exact⟨v,.all fun w'=>by simp[execOp,hv,Instr.extract,hi],h⟩
   ·exact h.elim
  ·exact h.elim
 case binOp op t x y yt=>
  split at h
  ·rename_i k a k' b hx hy;split at h
   ·rename_i v hk hv;have hk':k=k':=zzodt hk;subst hk';refine⟨v,.one rfl ?_,h⟩;have hr:=Q9w (P:=P) (t:=t) (w:=w) hv;simp only[execOp,hx,hy,eqGuard_at_int,pure_bind,Sem.run_bind,hr,Result.andThen_ok,Sem.run_pure]
   ·exact Q8v rfl rfl h
  ·exact Q8v rfl rfl h
 case call c=>
  obtain⟨callee,args,argTypes⟩:=c;cases callee with
  | invoke r m=>simp at hl
  | value g=>simp at hl
  | builtin b=>
   cases b <;> simp only[Bool.true_eq_false] at hl
   case len=>exact Q8v rfl rfl h
   case min=>exact Q8v rfl rfl h
   case max=>exact Q8v rfl rfl h
 all_goals exact Q8v rfl rfl h
def wantF(ops:List Oper)(f:Fr)(o:Oper):Bool:=
 match o.guard with
 | none=>true
 | some (j,want)=>
  match (ops[j]?).bind (·.dst)with
  | none=>false
  | some d=>boolOf (some (f d)) == some want
def gS(P:Program)(ops:List Oper)(o:Oper)(f:Fr)(w:World)(K:Fr->Prop):Prop:=
 match o.guard with
 | none=>opS P o f w fun v=>K (put f o.dst v)
 | some (j,want)=>
  match (ops[j]?).bind (·.dst)with
  | none=>K (put f o.dst undef)
  | some d=>
   match f d with
   | .bool q=>
    match want with
    | true=>ifB q (opS P o (put f (some d) (.bool true)) w fun v=>K (put (put f (some d) (.bool true)) o.dst v)) (K (put (put f (some d) (.bool false)) o.dst undef))
    | false=>ifB q (K (put (put f (some d) (.bool true)) o.dst undef)) (opS P o (put f (some d) (.bool false)) w fun v=>K (put (put f (some d) (.bool false)) o.dst v))
   | _=>K (put f o.dst undef)
def gL(P:Program)(ops:List Oper)(o:Oper)(f:Fr)(w:World)(K:Fr->World->Prop):Prop:=
 match o.guard with
 | none=>opE P o f w fun v w'=>K (put f o.dst v) w'
 | some (j,want)=>
  match (ops[j]?).bind (·.dst)with
  | none=>K (put f o.dst undef) w
  | some d=>
   match f d with
   | .bool q=>
    match want with
    | true=>ifB q (opE P o (put f (some d) (.bool true)) w fun v w'=>K (put (put f (some d) (.bool true)) o.dst v) w') (K (put (put f (some d) (.bool false)) o.dst undef) w)
    | false=>ifB q (K (put (put f (some d) (.bool true)) o.dst undef) w) (opE P o (put f (some d) (.bool false)) w fun v w'=>K (put (put f (some d) (.bool false)) o.dst v) w')
   | _=>K (put f o.dst undef) w
def OKv(P:Program)(ops:List Oper)(o:Oper)(f:Fr)(w:World)(v:Value):Prop:=
 (wantF ops f o=true /\ Sil P o f w v) \/ (wantF ops f o=false /\ v=undef)
theorem QfE{P:Program}{ops:List Oper}{o:Oper}{f:Fr}{w:World}{K:Fr->Prop}(hl:loudB o=false)(h:gS P ops o f w K) :
  ∃v,OKv P ops o f w v /\ K (put f o.dst v):=by
 unfold gS at h;unfold OKv wantF;split at h
 ·rename_i hg;obtain⟨v,hs,hk⟩:=Q6u hl h;exact⟨v,.inl ⟨rfl,hs⟩,hk⟩
 ·rename_i j want hg;split at h
  ·rename_i hd
   try simp only[hd]
   exact⟨undef,.inr ⟨by trivial,rfl⟩,h⟩
  ·rename_i d hd
   try simp only[hd]
   split at h
   ·rename_i q hq;rw[hq];cases want <;> cases q <;> simp only[ifB] at h <;> rw[Q4I hq] at h
    ·obtain⟨v,hs,hk⟩:=Q6u hl h;exact⟨v,.inl ⟨rfl,hs⟩,hk⟩
    ·exact⟨undef,.inr ⟨rfl,rfl⟩,h⟩
    ·exact⟨undef,.inr ⟨rfl,rfl⟩,h⟩
    ·obtain⟨v,hs,hk⟩:=Q6u hl h;exact⟨v,.inl ⟨rfl,hs⟩,hk⟩
   ·rename_i hq;have:boolOf (some (f d))=none:=by
     unfold boolOf;split
     ·rename_i b hb;exact(hq b (by simpa using hb)).elim
     ·rfl
    rw[this];exact⟨undef,.inr ⟨rfl,rfl⟩,h⟩
theorem gL_of{P:Program}{ops:List Oper}{o:Oper}{f:Fr}{w:World}{K:Fr->World->Prop}(h:gL P ops o f w K) :
  (wantF ops f o=true /\ Res P ((execOp (ev f) o).run P w) fun v w'=>K (put f o.dst v) w') \/ (wantF ops f o=false /\ K (put f o.dst undef) w):=by
 unfold gL at h;unfold wantF;split at h
 ·rename_i hg;exact .inl ⟨rfl,Q3u h⟩
 ·rename_i j want hg;split at h
  ·rename_i hd
   try simp only[hd]
   exact .inr ⟨by trivial,h⟩
  ·rename_i d hd
   try simp only[hd]
   split at h
   ·rename_i q hq;rw[hq];cases want <;> cases q <;> simp only[ifB] at h <;> rw[Q4I hq] at h
    ·exact .inl ⟨rfl,Q3u h⟩
    ·exact .inr ⟨rfl,h⟩
    ·exact .inr ⟨rfl,h⟩
    ·exact .inl ⟨rfl,Q3u h⟩
   ·rename_i hq;have:boolOf (some (f d))=none:=by
     unfold boolOf;split
     ·rename_i b hb;exact(hq b (by simpa using hb)).elim
     ·rfl
    rw[this];exact .inr ⟨rfl,h⟩
def isLoud(ops:List Oper)(o:Oper):Bool:=
 loudB o || (match o.op with
  | .assign _=>(match o.dst with | some d=>ops.any (fun p=>(Oper.looksAt ops.toArray p).contains d) | none=>false)
  | _=>false)
def clos:List Oper->List (List Nat)->List (List Nat)
 | [],acc=>acc
 | o :: os,acc=>clos os (acc++[((o.after.toList.filter (Region.binds .any)).flatMap fun e=>e.on :: acc.getD e.on []).eraseDups])
def stabs(P:Program)(ops:List Oper)(skip:Nat->Bool)(f:Fr)(w:World):List Nat->Prop->Prop
 | [],K=>K
 | i :: is,K=>match ops[i]? with
  | some o=>cond (isLoud ops o || persB o || skip i) (stabs P ops skip f w is K)
    (gS P ops o f w (fun f'=>match o.dst with | some d=>f' d=f d | none=>True) /\ stabs P ops skip f w is K)
  | none=>False
def silPass(P:Program)(ops:List Oper)(w:World):Nat->List Oper->List Nat->Fr->(List Nat->Fr->Prop)->Prop
 | _,[],D,f,K=>K D f
 | i,o :: rest,D,f,K=>
  cond (!isLoud ops o && !D.contains i && o.after.toList.all (fun e=>!Region.binds .any e || D.contains e.on))
   (gS P ops o f w fun f'=>silPass P ops w (i+1) rest (i :: D) f' K)
   (silPass P ops w (i+1) rest D f K)
def allP:List Nat->(Nat->Prop)->Prop
 | [],_=>True
 | [x],K=>K x
 | x :: y :: l,K=>K x /\ allP (y :: l) K
theorem Q6O{K:Nat->Prop}:∀ {l:List Nat} {i:Nat},i ∈ l->allP l K->K i
 | [x],i,h,k=>by
  have:=List.mem_singleton.1 h;subst this;exact k
 | x :: y :: l,i,h,k=>by
  rcases List.mem_cons.1 h with rfl | h
  ·exact k.1
  ·exact Q6O h k.2
def readyL(cl:List (List Nat))(ls:List Nat):List Nat:=ls.filter fun i=>ls.all fun j=>!(cl.getD i []).contains j
def drawGo(P:Program)(ops:List Oper)(cl:List (List Nat))(next:Fr->World->Prop):Nat->List Nat->List Nat->Fr->World->Prop
 | _,[],_,f,w=>next f w
 | 0,_ :: _,_,_,_=>False
 | n+1,l :: ls,D,f,w=>allP (readyL cl (l :: ls)) fun i=>match ops[i]? with
  | none=>False
  | some o=>gL P ops o f w fun f1 w1=>stabs P ops (fun k=>(cl.getD i []).contains k) f1 w1 D (silPass P ops w1 0 ops (i :: D) f1 fun D2 f2=>drawGo P ops cl next n ((l :: ls).erase i) D2 f2 w1)
def louds(ops:List Oper):List Nat:=(List.range ops.length).filter fun i=>match ops[i]? with | some o=>isLoud ops o | none=>false
def pairOk(ops:List Oper)(cl:List (List Nat))(i:Nat)(oi:Oper)(j:Nat)(oj:Oper):Bool:=
 Nat.beq i j ||
 ((match oj.dst with
  | some t=>(!(Oper.looksAt ops.toArray oi).contains t || ((cl.getD i []).contains j || ((cl.getD j []).contains i && (isLoud ops oi || isLoud ops oj)))) &&
    (!(oi.dst == some t) || (((cl.getD j []).contains i || (cl.getD i []).contains j) && (isLoud ops oi || isLoud ops oj)))
  | none=>true))
def drawOk(ops:List Oper):Bool:=
 Region.noSelect ops.toArray &&
 (ops.zipIdx.all fun p=>
  p.1.after.toList.all (fun e=>!Region.binds .any e || Nat.blt e.on p.2) &&
  (isLoud ops p.1 || (match p.1.dst with | some t=>!(Oper.looksAt ops.toArray p.1).contains t | none=>true)) &&
  ops.zipIdx.all fun q=>pairOk ops (clos ops []) p.2 p.1 q.2 q.1)
def drawE(P:Program)(ops:List Oper)(next:Fr->World->Prop)(f:Fr)(w:World):Prop:=
 cond (P.follows .mixedOrders && drawOk ops)
  (∀w1:World,w1=w.drew->silPass P ops w1 0 ops [] f fun D f1=>drawGo P ops (clos ops []) next (louds ops).length (louds ops) D f1 w1) False
section draws
variable{P:Program}{ops:List Oper}
abbrev looks(ops:List Oper)(o:Oper):List Nat:=Oper.looksAt ops.toArray o
theorem Q71{o:Oper}{f g:Nat->Value}(h:∀t,t ∈ looks ops o->f t=g t):∀x ∈ o.op.operands,ev f x=ev g x:=by
 intro x hx;cases x with
 | tmp t=>exact h t (zzmal _ (List.mem_filterMap.2 ⟨.tmp t,by simpa using hx,rfl⟩))
 | _=>rfl
theorem Q6J{o:Oper}{f g:Nat->Value}(h:∀t,t ∈ looks ops o->f t=g t):wantF ops f o=wantF ops g o:=by
 unfold wantF;split
 ·rfl
 ·rename_i j want hg;split
  ·rfl
  ·rename_i d hd;rw[h d (by simp[looks,Oper.looksAt,hg,hd])]
theorem Q3t{o:Oper}{f g:Fr}{w:World}{v:Value}(hs:∀cs b,o.op ≠ .select cs b)(h:∀t,t ∈ looks ops o->f t=g t)(k:OKv P ops o f w v):OKv P ops o g w v:=by
 unfold OKv Sil at *
 rw[<-Q6J h,<-execOp_congr o hs (Q71 h)];exact k
theorem Q47{o:Oper}{a:Act}{f:Fr}(h:∀t,t ∈ looks ops o->a.tmps.getD t undef=f t):Region.wanted o (yielded ops.toArray a.tmps)=wantF ops f o:=by
 unfold wantF Region.wanted;cases hg:o.guard with
 | none=>rfl
 | some gw=>
  obtain⟨j,want⟩:=gw;cases hd:(ops[j]?).bind (·.dst)with
  | none=>
   have hy:yielded ops.toArray a.tmps j=none:=by unfold yielded;simp[hd]
   simp only[hy,hd];rfl
  | some d=>
   have hfd:=h d (by simp[looks,Oper.looksAt,hg,hd]);have hy:yielded ops.toArray a.tmps j=boolOf (some (f d)):=by
    rw[<-hfd];unfold yielded;by_cases hlt:d<a.tmps.size
    ·simp[hd,Array.getD,hlt,boolOf];rfl
    ·simp[hd,Array.getD,hlt,boolOf,undef]
   simp only[hy,hd]
theorem Q72{o:Oper}{a:Act}{f:Fr}(hs:∀cs b,o.op ≠ .select cs b)(h:∀t,t ∈ looks ops o->a.tmps.getD t undef=f t):execOp a.eval o=execOp (ev f) o:=
 execOp_congr o hs fun x hx=>by
  have hx':=Q71 (f:=fun t=>a.tmps.getD t undef) (g:=f) h x hx;cases x with
  | tmp t=>exact hx'
  | _=>rfl
theorem Q5h:∀(os:List Oper) (acc:List (List Nat)) (i:Nat) (j:Nat),j ∈ (clos os acc).getD i [] →
  j ∈ acc.getD i [] \/ ∃o,acc.length<=i /\ os[i-acc.length]? = some o /\ ∃e ∈ o.after,Region.binds .any e=true /\ (j=e.on \/ j ∈ (clos os acc).getD e.on [])
 | [],acc,i,j,h=>.inl h
 | o :: os,acc,i,j,h=>by
  unfold clos at h;have mono:∀(os:List Oper) (acc:List (List Nat)) (k x:Nat),x ∈ acc.getD k []->x ∈ (clos os acc).getD k []:=by
   intro os
   induction os with
   | nil=>intro acc k x hx;exact hx
   | cons o os ih=>
    intro acc k x hx;unfold clos;refine ih _ k x ?_;by_cases hk:k<acc.length
    ·simp only[List.getD_eq_getElem?_getD,List.getElem?_append_left hk] at hx ⊢;exact hx
    ·rw[List.getD_eq_getElem?_getD,List.getElem?_eq_none (Nat.le_of_not_lt hk)] at hx;simp at hx
  rcases Q5h os _ i j h with h1 | ⟨o',hle,ho',e,he,hb,hj⟩
  ·by_cases hi:i<acc.length
   ·left;simp only[List.getD_eq_getElem?_getD,List.getElem?_append_left hi] at h1 ⊢;exact h1
   ·right;by_cases hi':i=acc.length
    ·subst hi';refine⟨o,Nat.le_refl _,by simp,?_⟩;simp only[List.getD_eq_getElem?_getD,List.getElem?_append_right (Nat.le_refl _),Nat.sub_self,List.getElem?_cons_zero,Option.getD_some,List.mem_eraseDups,List.mem_flatMap,List.mem_filter,Array.mem_toList_iff] at h1;obtain⟨e,⟨he,hb⟩,hj⟩:=h1;refine⟨e,he,hb,?_⟩;rcases List.mem_cons.1 hj with hj | hj
     ·exact .inl hj
     ·right;refine mono (o :: os) acc e.on j ?_;simpa [List.getD_eq_getElem?_getD] using hj
    ·have:(acc++[((o.after.toList.filter (Region.binds .any)).flatMap fun e=>e.on :: acc.getD e.on []).eraseDups])[i]? = none:=by
      apply List.getElem?_eq_none;simp;omega
     rw[List.getD_eq_getElem?_getD,this] at h1;simp at h1
  ·right;simp only[zzlna,List.length_cons,List.length_nil] at hle ho';refine⟨o',by omega,?_,e,he,hb,?_⟩
   ·rw[show i-acc.length=(i-(acc.length+1))+1 by omega,List.getElem?_cons_succ];exact ho'
   ·rcases hj with hj | hj
    ·exact .inl hj
    ·right;unfold clos;exact hj
abbrev CL(ops:List Oper)(i:Nat):List Nat:=(clos ops []).getD i []
structure DOk (ops:List Oper):Prop where
 edge:∀(i:Nat)(o:Oper),ops[i]? = some o->∀e ∈ o.after,Region.binds .any e=true->e.on<i
 sel:∀(i:Nat)(o:Oper),ops[i]? = some o->∀cs b,o.op ≠ .select cs b
 own:∀(i:Nat)(o:Oper),ops[i]? = some o->isLoud ops o=false->∀t,o.dst=some t->t ∉ looks ops o
 read:∀(i:Nat)(oi:Oper)(j:Nat)(oj:Oper)(t:Nat),ops[i]? = some oi->ops[j]? = some oj->i ≠ j->oj.dst=some t->t ∈ looks ops oi →
  j ∈ CL ops i \/ (i ∈ CL ops j /\ (isLoud ops oi=true \/ isLoud ops oj=true))
 write:∀(i:Nat)(oi:Oper)(j:Nat)(oj:Oper)(t:Nat),ops[i]? = some oi->ops[j]? = some oj->i ≠ j->oj.dst=some t->oi.dst=some t →
  (i ∈ CL ops j \/ j ∈ CL ops i) /\ (isLoud ops oi=true \/ isLoud ops oj=true)
theorem Q6g(h:drawOk ops=true):DOk ops:=by
 unfold drawOk at h;simp only[Bool.and_eq_true,List.all_eq_true] at h;obtain⟨hsel,hall⟩:=h;have at':∀i o,ops[i]? = some o->(o,i) ∈ ops.zipIdx:=fun i o ho=>by
  rw[List.mem_zipIdx_iff_getElem?];exact ho
 have pair:∀i oi j oj,ops[i]? = some oi->ops[j]? = some oj->i ≠ j->pairOk ops (clos ops []) i oi j oj=true:=fun i oi j oj hi hj _=>(hall _ (at' i oi hi)).2 _ (at' j oj hj);refine⟨?_,?_,?_,?_,?_⟩
 ·intro i o ho e he hb;have:=(hall _ (at' i o ho)).1.1 e (by simpa using he);simp only[hb,Bool.not_true,Bool.false_or] at this;exact Nat.le_of_ble_eq_true this
 ·intro i o ho cs b;exact Region.noSelect_spec hsel i o cs b (by simpa using ho)
 ·intro i o ho hl t ht;have:=(hall _ (at' i o ho)).1.2;simp only[hl,Bool.false_or,ht,Bool.not_eq_true',List.contains_eq_mem,decide_eq_false_iff_not] at this;exact this
 ·intro i oi j oj t hi hj hne ht hin;have:=pair i oi j oj hi hj hne;unfold pairOk at this;rw[Q1Z hne,ht] at this;simp only[Bool.false_or,Bool.and_eq_true,Bool.or_eq_true,Bool.not_eq_true',List.contains_eq_mem,decide_eq_true_eq,decide_eq_false_iff_not] at this;exact(this.1).resolve_left (fun q=>q hin)
 ·intro i oi j oj t hi hj hne ht ht';have:=pair i oi j oj hi hj hne;unfold pairOk at this;rw[Q1Z hne,ht] at this;simp only[Bool.false_or,Bool.and_eq_true,Bool.or_eq_true,Bool.not_eq_true',List.contains_eq_mem,decide_eq_true_eq,decide_eq_false_iff_not] at this;exact(this.2).resolve_left (fun q=>by rw[ht'] at q;simp at q)
def Down(ops:List Oper)(S:Nat->Prop):Prop:=∀i,S i->∀o,ops[i]? = some o->∀e ∈ o.after,Region.binds .any e=true->S e.on
theorem Down.cl(hd:DOk ops){S:Nat->Prop}(h:Down ops S):∀i,(∀o,ops[i]? = some o->∀e ∈ o.after,Region.binds .any e=true->S e.on)->∀j ∈ CL ops i,S j:=by
 intro i
 induction i using Nat.strongRecOn with
 | _ i ih=>
  intro hi j hj;rcases Q5h ops [] i j hj with h0 | ⟨o,_,ho,e,he,hb,hje⟩
  ·simp at h0
  ·simp only[List.length_nil,Nat.sub_zero] at ho;rcases hje with rfl | hje
   ·exact hi o ho e he hb
   ·exact ih e.on (hd.edge i o ho e he hb) (fun o' ho' e' he' hb'=>h e.on (hi o ho e he hb) o' ho' e' he' hb') j hje
structure DInv (P:Program) (ops:List Oper) (N:Nat) (M:Nat->Bool) (f0:Fr) (Li:Nat->Prop) (D:List Nat) (f:Fr) (a:Act) (w:World):Prop where
 ld:∀i,Li i->i ∈ D
 dl:∀i ∈ D,i<ops.length
 dd:Down ops (fun i=>i ∈ D)
 lw:Down ops Li
 ll:∀i ∈ D,∀o,ops[i]? = some o->isLoud ops o=true->Li i
 at':∀t,(∀i ∈ D,∀o,ops[i]? = some o->o.dst=some t->Li i)->a.tmps.getD t undef=f t
 ok:∀i ∈ D,¬Li i->∀o,ops[i]? = some o->∃v,OKv P ops o f w v /\ (∀d,o.dst=some d->f d=v)
 size:a.tmps.size=N
 defers:a.defers=[]
 pres:Pres M f0 f
theorem DInv.take(hd:DOk ops){N:Nat}{M:Nat->Bool}(hin:∀o ∈ ops,dstOk M N o=true){f0 f:Fr}{Li:Nat->Prop}{D:List Nat}{a:Act}{w:World}(I:DInv P ops N M f0 Li D f a w)
  {k:Nat} {o:Oper} (hk:ops[k]? = some o) (hl:isLoud ops o=false) (hn:k ∉ D) (hw:∀e ∈ o.after,Region.binds .any e=true->e.on ∈ D) {v:Value} (hv:OKv P ops o f w v) :
  DInv P ops N M f0 Li (k :: D) (put f o.dst v) a w:=by
 have hlt:k<ops.length:=(zzgsi.1 hk).1;have ho:=hin o (zzmog hk);have far:∀i ∈ D,¬Li i->∀o',ops[i]? = some o'->∀d,o.dst=some d->d ∉ looks ops o' /\ o'.dst ≠ some d:=by
  intro i hi hni o' ho' d hdst;have hl':isLoud ops o'=false:=by
   cases hq:isLoud ops o' with
   | false=>rfl
   | true=>exact absurd (I.ll i hi o' ho' hq) hni
  have hne:i ≠ k:=fun e=>hn (e ▸ hi);constructor
  ·intro hin';rcases hd.read i o' k o d ho' hk hne hdst hin' with hc | ⟨_,hc | hc⟩
   ·exact hn (Down.cl hd I.dd i (fun o'' ho'' e he hb=>I.dd i hi o'' ho'' e he hb) k hc)
   ·rw[hl'] at hc;cases hc
   ·rw[hl] at hc;cases hc
  ·intro hsame;rcases(hd.write i o' k o d ho' hk hne hdst hsame).2 with hc | hc
   ·rw[hl'] at hc;cases hc
   ·rw[hl] at hc;cases hc
 have putne:∀t,o.dst ≠ some t->put f o.dst v t=f t:=by
  intro t ht;cases hdst:o.dst with
  | none=>rfl
  | some d=>
   have:t ≠ d:=fun e=>ht (by rw[hdst,e]);simp[put,Q1Z this]
 refine⟨fun i hi=>zzmcm _ (I.ld i hi),?_,?_,I.lw,?_,?_,?_,I.size,I.defers,I.pres.put ho v⟩
 ·intro i hi;rcases List.mem_cons.1 hi with rfl | hi
  ·exact hlt
  ·exact I.dl i hi
 ·intro i hi o' ho' e he hb;rcases List.mem_cons.1 hi with rfl | hi
  ·rw[hk] at ho';cases ho';exact zzmcm _ (hw e he hb)
  ·exact zzmcm _ (I.dd i hi o' ho' e he hb)
 ·intro i hi o' ho' hl';rcases List.mem_cons.1 hi with rfl | hi
  ·rw[hk] at ho';cases ho';rw[hl] at hl';cases hl'
  ·exact I.ll i hi o' ho' hl'
 ·intro t ht;have hnl:¬Li k:=fun q=>hn (I.ld k q);have hne:o.dst ≠ some t:=fun e=>hnl (ht k (by simp) o hk e);rw[putne t hne];exact I.at' t fun i hi o' ho' he=>ht i (zzmcm _ hi) o' ho' he
 ·intro i hi hni o' ho';rcases List.mem_cons.1 hi with rfl | hi
  ·rw[hk] at ho';cases ho';refine⟨v,Q3t (hd.sel i o hk) (fun t ht=>?_) hv,fun d hdst=>by rw[hdst];simp[put]⟩;exact(putne t (fun e=>hd.own i o hk hl t e ht)).symm
  ·obtain⟨u,hu,hfd⟩:=I.ok i hi hni o' ho';refine⟨u,Q3t (hd.sel i o' ho') (fun t ht=>?_) hu,fun d hdst=>?_⟩
   ·exact(putne t (fun e=>(far i hi hni o' ho' t e).1 ht)).symm
   ·rw[putne d (fun e=>(far i hi hni o' ho' d e).2 hdst)];exact hfd d hdst
theorem Q9D{o:Oper}(h:isLoud ops o=false):loudB o=false:=by
 unfold isLoud at h;simp only[Bool.or_eq_false_iff] at h;exact h.1
theorem Q1n(hd:DOk ops){N:Nat}{M:Nat->Bool}(hin:∀o ∈ ops,dstOk M N o=true){f0:Fr}{Li:Nat->Prop}{a:Act}{w:World}{K:List Nat->Fr->Prop} :
  ∀(rest:List Oper)(k:Nat)(D:List Nat)(f:Fr),ops.drop k=rest->DInv P ops N M f0 Li D f a w →
   (∀i o,i<k->ops[i]? = some o->isLoud ops o=false->(∀e ∈ o.after,Region.binds .any e=true->e.on ∈ D)->i ∈ D) →
   silPass P ops w k rest D f K →
   ∃D' f',DInv P ops N M f0 Li D' f' a w /\ (∀i o,ops[i]? = some o->isLoud ops o=false->(∀e ∈ o.after,Region.binds .any e=true->e.on ∈ D')->i ∈ D') /\
    (∀i ∈ D',i ∈ D \/ ∃o,ops[i]? = some o /\ isLoud ops o=false) /\ (∀i ∈ D,i ∈ D') /\ K D' f'
 | [],k,D,f,hr,I,hdone,h=>by
  refine⟨D,f,I,fun i o ho hl hw=>hdone i o ?_ ho hl hw,fun i hi=>.inl hi,fun i hi=>hi,h⟩;have hlt:=(zzgsi.1 ho).1;have hle:ops.length<=k:=by simpa using hr
  omega
 | o :: rest,k,D,f,hr,I,hdone,h=>by
  have hk:ops[k]? = some o:=by
   have:=congrArg (fun l=>l[0]?) hr;simpa using this
  have hr':ops.drop (k+1)=rest:=by
   have:=congrArg List.tail hr;simpa using this
  unfold silPass at h;cases hc:(!isLoud ops o && !D.contains k && o.after.toList.all (fun e=>!Region.binds .any e || D.contains e.on))with
  | false=>
   rw[hc] at h;refine Q1n hd hin rest (k+1) D f hr' I ?_ h;intro i oi hi hoi hl hw;by_cases hik:i=k
   ·subst hik;rw[hk] at hoi;cases hoi;have hall:o.after.toList.all (fun e=>!Region.binds .any e || D.contains e.on)=true:=by
     simp only[List.all_eq_true,Bool.or_eq_true,Bool.not_eq_true',List.contains_eq_mem,decide_eq_true_eq];intro e he;cases hb:Region.binds .any e with
     | false=>exact .inl rfl
     | true=>exact .inr (hw e (by simpa using he) hb)
    rw[hl,hall] at hc;simpa using hc
   ·exact hdone i oi (by omega) hoi hl hw
  | true=>
   rw[hc] at h;simp only[Bool.and_eq_true,Bool.not_eq_true',List.contains_eq_mem,decide_eq_false_iff_not,List.all_eq_true,Bool.or_eq_true,decide_eq_true_eq] at hc;obtain⟨⟨hl,hn⟩,hw⟩:=hc;have hw':∀e ∈ o.after,Region.binds .any e=true->e.on ∈ D:=fun e he hb=>(hw e (by simpa using he)).resolve_left (by rw[hb];simp);obtain⟨v,hv,hk'⟩:=QfE (P:=P) (ops:=ops) (o:=o) (f:=f) (w:=w) (K:=fun f'=>silPass P ops w (k+1) rest (k :: D) f' K) (Q9D hl) h;obtain⟨D',f',I',h1,h2,h3,h4⟩:=Q1n hd hin rest (k+1) (k :: D) (put f o.dst v) hr' (I.take hd hin hk hl hn hw' hv) (by
    intro i oi hi hoi hli hwi;by_cases hik:i=k
    ·subst hik;simp
    ·refine zzmcm _ (hdone i oi (by omega) hoi hli fun e he hb=>?_);rcases List.mem_cons.1 (hwi e he hb)with he' | he'
     ·have:=hd.edge i oi hoi e he hb;omega
     ·exact he') hk'
   refine⟨D',f',I',h1,fun i hi=>?_,fun i hi=>h3 i (zzmcm _ hi),h4⟩;rcases h2 i hi with hq | hq
   ·rcases List.mem_cons.1 hq with rfl | hq
    ·exact .inr ⟨o,hk,hl⟩
    ·exact .inl hq
   ·exact .inr hq
theorem Q4P{skip:Nat->Bool}{f:Fr}{w:World}{K:Prop}:∀(D:List Nat),stabs P ops skip f w D K →
  K /\ ∀i ∈ D,∀o,ops[i]? = some o->isLoud ops o=false->persB o=false->skip i=false->∃v,OKv P ops o f w v /\ ∀d,o.dst=some d->f d=v
 | [],h=>⟨h,fun i hi=>by cases hi⟩
 | i :: is,h=>by
  unfold stabs at h;split at h
  ·rename_i o ho;cases hc:(isLoud ops o || persB o || skip i)with
   | true=>
    rw[hc] at h;obtain⟨hk,hr⟩:=Q4P is h;refine⟨hk,fun j hj oj hoj hl hp hs=>?_⟩;rcases List.mem_cons.1 hj with rfl | hj
    ·rw[ho] at hoj;cases hoj;rw[hl,hp,hs] at hc;cases hc
    ·exact hr j hj oj hoj hl hp hs
   | false=>
    rw[hc] at h;obtain⟨h0,h⟩:=h;obtain⟨hk,hr⟩:=Q4P is h;refine⟨hk,fun j hj oj hoj hl hp hs=>?_⟩;rcases List.mem_cons.1 hj with rfl | hj
    ·rw[ho] at hoj;cases hoj;obtain⟨v,hv,hd⟩:=QfE (Q9D hl) h0;refine⟨v,hv,fun d hdst=>?_⟩;rw[hdst] at hd;simp only[put,Q6Q,cond_true] at hd;exact hd.symm
    ·exact hr j hj oj hoj hl hp hs
  ·exact h.elim
theorem Qc2{o:Oper}{f:Fr}{w w':World}{v:Value}(hp:persB o=true)(h:OKv P ops o f w v):OKv P ops o f w' v:=by
 rcases h with⟨h1,_,h2⟩ | h
 ·exact .inl ⟨h1,h2 hp w',h2⟩
 ·exact .inr h
theorem Q2X{a:Act}{f:Fr}{N:Nat}{o:Oper}{M:Nat->Bool}(hs:a.tmps.size=N)(ho:dstOk M N o=true)(v:Value)(t:Nat) :
  (o.dst=some t->(a.put o.dst v).tmps.getD t undef=v) /\ (o.dst ≠ some t->(a.put o.dst v).tmps.getD t undef=a.tmps.getD t undef):=by
 have hlt:=Q70 ho;cases hd:o.dst with
 | none=>exact⟨(fun e=>by cases e),fun _=>rfl⟩
 | some d=>
  have hd':d<a.tmps.size:=by rw[hs];exact hlt d hd
  refine⟨fun e=>?_,fun e=>?_⟩
  ·cases e;simp[Act.put,Array.getD,hd']
  ·have hne:d ≠ t:=fun e'=>e (by rw[e']);by_cases ht:t<a.tmps.size
   ·simp[Act.put,Array.getD,ht,hne]
   ·simp[Act.put,Array.getD,ht]
theorem Q7D{f:Fr}{o:Oper}(v:Value)(t:Nat):(o.dst=some t->put f o.dst v t=v) /\ (o.dst ≠ some t->put f o.dst v t=f t):=by
 cases hd:o.dst with
 | none=>exact⟨(fun e=>by cases e),fun _=>rfl⟩
 | some d=>
  refine⟨fun e=>?_,fun e=>?_⟩
  ·cases e;simp[put]
  ·have hne:t ≠ d:=fun e'=>e (by rw[e']);simp[put,Q1Z hne]
theorem Q6N(a:Act)(d:Option Nat)(v:Value):(a.put d v).tmps.size=a.tmps.size:=by cases d <;> simp[Act.put]
theorem Q3M(a:Act)(d:Option Nat)(v:Value):(a.put d v).defers=a.defers:=by cases d <;> simp[Act.put]
abbrev Lst(listed:Array Bool)(i:Nat):Prop:=listed.getD i false=true
theorem QfP{listed:Array Bool}{i:Nat}(hi:i<listed.size)(j:Nat):Lst (listed.setIfInBounds i true) j ↔ Lst listed j \/ j=i:=by
 unfold Lst;by_cases h:j=i
 ·subst h;simp[hi]
 ·rw[getD_set_ne false (Ne.symm h)];simp[h]
theorem Q9a(hd:DOk ops){N:Nat}{M:Nat->Bool}(hin:∀o ∈ ops,dstOk M N o=true){f0:Fr}{next:Fr->World->Prop}{Q:Exit->Act->World->Prop}
  (hQ:∀a' f' w',FR N a' f'->Pres M f0 f'->next f' w'->Q .normal a' w') :
  ∀(fuel:Nat)(listed:Array Bool)(U D ls:List Nat)(f:Fr)(a:Act)(w:World),listed.size=ops.length->U.length=fuel->U.Nodup->(∀i,i ∈ U ↔ i<ops.length /\ ¬Lst listed i) →
   DInv P ops N M f0 (Lst listed) D f a w →
   (∀i o,ops[i]? = some o->isLoud ops o=false->(∀e ∈ o.after,Region.binds .any e=true->e.on ∈ D)->i ∈ D) →
   ls.Nodup->(∀i ∈ ls,∃o,ops[i]? = some o /\ isLoud ops o=true)->(∀i o,ops[i]? = some o->isLoud ops o=true->(i ∈ ls ↔ ¬Lst listed i)) →
   drawGo P ops (clos ops []) next ls.length ls D f w->wpAny P .any ops.toArray Q fuel listed a w:=by
 intro fuel
 induction fuel with
 | zero=>
  intro listed U D ls f a w hsz hU _ hUm I _ _ hl1 hl2 h;have hU':U=[]:=List.eq_nil_of_length_eq_zero hU;subst hU';have hall:∀i,i<ops.length->Lst listed i:=fun i hi=>Classical.byContradiction fun q=>by have:=(hUm i).2 ⟨hi,q⟩;cases this
  have hls:ls=[]:=by
   cases ls with
   | nil=>rfl
   | cons l ls=>
    obtain⟨o,ho,hlo⟩:=hl1 l (by simp);exact absurd (hall l (zzgsi.1 ho).1) ((hl2 l o ho hlo).1 (by simp))
  subst hls;refine⟨?_,hQ a f w ⟨I.size,I.defers,fun t=>I.at' t fun i hi _ _ _=>hall i (I.dl i hi)⟩ I.pres h⟩;cases hr:Region.ready .any ops.toArray listed with
  | nil=>rfl
  | cons x xs=>
   have hx:x ∈ Region.ready .any ops.toArray listed:=by rw[hr];simp
   obtain⟨hx0,o,ho,_⟩:=mem_ready.1 hx;have hlt:x<ops.length:=by
    have:=(Array.getElem?_eq_some_iff.1 ho).1;simpa using this
   have h1:=hall x hlt;have hlt':x<listed.size:=by rw[hsz];exact hlt
   unfold Lst at h1;simp[Array.getD,hlt'] at h1 hx0;rw[h1] at hx0;cases hx0
 | succ fuel ih=>
  intro listed U D ls f a w hsz hU hUn hUm I hdone hls hl1 hl2 h;refine⟨fun hr=>?_,fun i hi=>?_⟩
  ·have hall:∀i,i<ops.length->Lst listed i:=by
    intro i
    induction i using Nat.strongRecOn with
    | _ i ihi=>
     intro hi;refine Classical.byContradiction fun q=>?_;have hmem:i ∈ Region.ready .any ops.toArray listed:=by
      refine mem_ready.2 ⟨?_,ops[i],by simp[hi],fun e he hb=>?_⟩
      ·have hlt':i<listed.size:=by rw[hsz];exact hi
       unfold Lst at q;simpa [Array.getD,hlt'] using q
      ·have:=hd.edge i ops[i] (by simp[hi]) e he hb;exact ihi e.on this (by omega)
     rw[hr] at hmem;cases hmem
   have hls0:ls=[]:=by
    cases ls with
    | nil=>rfl
    | cons l ls=>
     obtain⟨o,ho,hlo⟩:=hl1 l (by simp);exact absurd (hall l (zzgsi.1 ho).1) ((hl2 l o ho hlo).1 (by simp))
   subst hls0;exact hQ a f w ⟨I.size,I.defers,fun t=>I.at' t fun i hi _ _ _=>hall i (I.dl i hi)⟩ I.pres h
  ·obtain⟨hi0,o,ho,hwait⟩:=mem_ready.1 hi;have ho:ops[i]? = some o:=by simpa using ho
   have hlt:i<ops.length:=(zzgsi.1 ho).1;have hlt':i<listed.size:=by rw[hsz];exact hlt
   have hnl:¬Lst listed i:=by
    unfold Lst;simp[Array.getD,hlt'] at hi0 ⊢;exact hi0
   have hom:=hin o (zzmog ho);have set:=QfP (listed:=listed) hlt';have hw':∀o',ops[i]? = some o'->∀e ∈ o'.after,Region.binds .any e=true->Lst listed e.on:=fun o' ho'=>by rw[ho] at ho';cases ho';exact hwait
   have cli:∀j ∈ CL ops i,Lst listed j:=Down.cl hd I.lw i hw';have U':(U.erase i).length=fuel /\ (U.erase i).Nodup /\ ∀j,j ∈ U.erase i ↔ j<ops.length /\ ¬Lst (listed.setIfInBounds i true) j:=by
    refine⟨?_,hUn.erase i,fun j=>?_⟩
    ·rw[List.length_erase_of_mem ((hUm i).2 ⟨hlt,hnl⟩),hU];rfl
    ·rw[hUn.mem_erase_iff,hUm,set];constructor
     ·rintro⟨h1,h2,h3⟩;exact⟨h2,fun q=>q.elim h3 h1⟩
     ·rintro⟨h1,h2⟩;exact⟨fun q=>h2 (.inr q),h1,fun q=>h2 (.inl q)⟩
   have hsz':(listed.setIfInBounds i true).size=ops.length:=by simpa using hsz
   have lw':Down ops (Lst (listed.setIfInBounds i true)):=by
    intro j hj oj hoj e he hb;rw[set];left;rcases(set j).1 hj with hj | rfl
    ·exact I.lw j hj oj hoj e he hb
    ·exact hw' oj hoj e he hb
   cases hlo:isLoud ops o with
   | false=>
    have hiD:i ∈ D:=hdone i o ho hlo fun e he hb=>I.ld _ (hwait e he hb);obtain⟨v,hv,hfv⟩:=I.ok i hiD hnl o ho;have agree:∀t,t ∈ looks ops o->a.tmps.getD t undef=f t:=by
     intro t ht;refine I.at' t fun j hj oj hoj hdst=>?_;by_cases hji:j=i
     ·subst hji;rw[ho] at hoj;cases hoj;exact absurd ht (hd.own j o ho hlo t hdst)
     ·rcases hd.read i o j oj t ho hoj (Ne.symm hji) hdst ht with hc | ⟨_,hc | hc⟩
      ·exact cli j hc
      ·rw[hlo] at hc;cases hc
      ·exact I.ll j hj oj hoj hc
    have next':wpAny P .any ops.toArray Q fuel (listed.setIfInBounds i true) (a.put o.dst v) w:=by
     refine ih _ (U.erase i) D ls f _ w hsz' U'.1 U'.2.1 U'.2.2 ?_ hdone hls hl1 (fun j oj hoj hloj=>?_) h
     ·refine⟨fun j hj=>?_,I.dl,I.dd,lw',fun j hj oj hoj hq=>(set j).2 (.inl (I.ll j hj oj hoj hq)),fun t ht=>?_,fun j hj hq=>I.ok j hj fun q=>hq ((set j).2 (.inl q)),?_,?_,I.pres⟩
      ·rcases(set j).1 hj with hj | rfl
       ·exact I.ld j hj
       ·exact hiD
      ·by_cases hdt:o.dst=some t
       ·rw[(Q2X (f:=f) I.size hom v t).1 hdt,hfv t hdt]
       ·rw[(Q2X (f:=f) I.size hom v t).2 hdt];refine I.at' t fun j hj oj hoj hq=>?_;rcases(set j).1 (ht j hj oj hoj hq)with h' | rfl
        ·exact h'
        ·rw[ho] at hoj;cases hoj;exact absurd hq hdt
      ·rw[Q6N];exact I.size
      ·rw[Q3M];exact I.defers
     ·rw[hl2 j oj hoj hloj,set];constructor
      ·intro q q';rcases q' with q' | rfl
       ·exact q q'
       ·rw[ho] at hoj;cases hoj;rw[hlo] at hloj;cases hloj
      ·exact fun q q'=>q (.inl q')
    unfold wpOp;have ho':ops.toArray[i]? = some o:=by simpa using ho
    simp only[ho'];rw[Q47 agree];rcases hv with⟨hw1,hs,_⟩ | ⟨hw1,rfl⟩
    ·rw[hw1,if_pos rfl];refine .inl ?_;unfold Oper.wp;rw[Q72 (hd.sel i o ho) agree,hs];exact next'
    ·rw[hw1,if_neg (by simp)];exact next'
   | true=>
    have hiD:i ∉ D:=fun q=>hnl (I.ll i q o ho hlo);have himem:i ∈ ls:=(hl2 i o ho hlo).2 hnl;have agree:∀t,t ∈ looks ops o->a.tmps.getD t undef=f t:=by
     intro t ht;refine I.at' t fun j hj oj hoj hdst=>?_;have hji:j ≠ i:=fun e=>hiD (e ▸ hj);rcases hd.read i o j oj t ho hoj (Ne.symm hji) hdst ht with hc | ⟨hc,_⟩
     ·exact cli j hc
     ·exact absurd (Down.cl hd I.dd j (fun o' ho' e he hb=>I.dd j hj o' ho' e he hb) i hc) hiD
    have hrd:i ∈ readyL (clos ops []) ls:=by
     unfold readyL;refine List.mem_filter.2 ⟨himem,?_⟩;rw[List.all_eq_true];intro l hl;cases hc:((clos ops []).getD i []).contains l with
     | false=>rfl
     | true=>
      obtain⟨ol,hol,hll⟩:=hl1 l hl;exact absurd (cli l (by simpa using hc)) ((hl2 l ol hol hll).1 hl)
    cases ls with
    | nil=>cases himem
    | cons l0 ls'=>
     rw[List.length_cons] at h;unfold drawGo at h;have h:=Q6O hrd h;rw[ho] at h;have go:∀(v:Value)(w1:World),stabs P ops (fun j=>((clos ops []).getD i []).contains j) (put f o.dst v) w1 D
       (silPass P ops w1 0 ops (i :: D) (put f o.dst v) fun D2 f2=>drawGo P ops (clos ops []) next ls'.length ((l0 :: ls').erase i) D2 f2 w1) →
       wpAny P .any ops.toArray Q fuel (listed.setIfInBounds i true) (a.put o.dst v) w1:=by
      intro v w1 hst;obtain⟨hsil,hst⟩:=Q4P D hst;have I':DInv P ops N M f0 (Lst (listed.setIfInBounds i true)) (i :: D) (put f o.dst v) (a.put o.dst v) w1:=by
       refine⟨fun j hj=>?_,fun j hj=>?_,fun j hj oj hoj e he hb=>?_,lw',fun j hj oj hoj hq=>?_,fun t ht=>?_,fun j hj hq oj hoj=>?_,?_,?_,I.pres.put hom v⟩
       ·rcases(set j).1 hj with hj | rfl
        ·exact zzmcm _ (I.ld j hj)
        ·simp
       ·rcases List.mem_cons.1 hj with rfl | hj
        ·exact hlt
        ·exact I.dl j hj
       ·refine zzmcm _ ?_;rcases List.mem_cons.1 hj with rfl | hj
        ·exact I.ld _ (hw' oj hoj e he hb)
        ·exact I.dd j hj oj hoj e he hb
       ·rw[set];rcases List.mem_cons.1 hj with rfl | hj
        ·exact .inr rfl
        ·exact .inl (I.ll j hj oj hoj hq)
       ·by_cases hdt:o.dst=some t
        ·rw[(Q2X (f:=f) I.size hom v t).1 hdt,(Q7D v t).1 hdt]
        ·rw[(Q2X (f:=f) I.size hom v t).2 hdt,(Q7D v t).2 hdt];refine I.at' t fun j hj oj hoj hq=>?_;rcases(set j).1 (ht j (zzmcm _ hj) oj hoj hq)with h' | rfl
         ·exact h'
         ·exact absurd hj hiD
       ·have hnj:¬Lst listed j:=fun q=>hq ((set j).2 (.inl q));have hjl:j ≠ i:=fun q=>hq ((set j).2 (.inr q));have hjD:j ∈ D:=(List.mem_cons.1 hj).resolve_left hjl;have hsj:isLoud ops oj=false:=by
         cases hq':isLoud ops oj with
         | false=>rfl
         | true=>exact absurd (I.ll j hjD oj hoj hq') hnj
        have hskip:((clos ops []).getD i []).contains j=false:=by
         cases hc:((clos ops []).getD i []).contains j with
         | false=>rfl
         | true=>exact absurd (cli j (by simpa using hc)) hnj
        cases hp:persB oj with
        | false=>exact hst j hjD oj hoj hsj hp hskip
        | true=>
         obtain⟨u,hu,hfu⟩:=I.ok j hjD hnj oj hoj;have hlj:i ∉ CL ops j:=fun hc=>hiD (Down.cl hd I.dd j (fun o' ho' e he hb=>I.dd j hjD o' ho' e he hb) i hc);have hjl':j ∉ CL ops i:=fun hc=>hnj (cli j hc);refine⟨u,Qc2 hp (Q3t (hd.sel j oj hoj) (fun t ht=>?_) hu),fun d hdst=>?_⟩
         ·refine((Q7D v t).2 fun e=>?_).symm;rcases hd.read j oj i o t hoj ho hjl e ht with hc | ⟨hc,_⟩
          ·exact hlj hc
          ·exact hjl' hc
         ·rw[(Q7D v d).2 fun e=>?_]
          ·exact hfu d hdst
          ·rcases(hd.write j oj i o d hoj ho hjl e hdst).1 with hc | hc
           ·exact hjl' hc
           ·exact hlj hc
       ·rw[Q6N];exact I.size
       ·rw[Q3M];exact I.defers
      obtain⟨D',f',I'',h1,_,_,h4⟩:=Q1n hd hin ops 0 (i :: D) (put f o.dst v) rfl I' (fun j _ hj=>absurd hj (Nat.not_lt_zero j)) hsil;have hle:((l0 :: ls').erase i).length=ls'.length:=by rw[List.length_erase_of_mem himem];rfl
      refine ih _ (U.erase i) D' ((l0 :: ls').erase i) f' _ w1 hsz' U'.1 U'.2.1 U'.2.2 I'' h1 (hls.erase i) (fun j hj=>hl1 j (List.mem_of_mem_erase hj)) (fun j oj hoj hloj=>?_) (by rw[hle];exact h4);have hb:=hl2 j oj hoj hloj;rw[set,hls.mem_erase_iff];constructor
      ·rintro⟨hne,hj⟩ q;rcases q with q | rfl
       ·exact hb.1 hj q
       ·exact hne rfl
      ·intro q;exact⟨fun e=>q (.inr e),hb.2 fun q'=>q (.inl q')⟩
     unfold wpOp;have ho':ops.toArray[i]? = some o:=by simpa using ho
     simp only[ho'];rw[Q47 agree];rcases gL_of h with⟨hw1,hr⟩ | ⟨hw1,hr⟩
     ·rw[hw1,if_pos rfl];refine .inl ?_;unfold Oper.wp;rw[Q72 (hd.sel i o ho) agree];exact hr.upon go
     ·rw[hw1,if_neg (by simp)];exact go _ _ hr
theorem Q6f{next:Fr->World->Prop}{N:Nat}{M:Nat->Bool}{Q:Exit->Act->World->Prop}{f:Fr}{a:Act}{w:World}{id:Nat}
  (hQ:∀a' f' w',FR N a' f'->Pres M f f'->next f' w'->Q .normal a' w') (hin:∀o ∈ ops,dstOk M N o=true) (hF:FR N a f) (h:drawE P ops next f w) :
  (Code.region id ops.toArray true).wp P Q a w:=by
 unfold drawE at h;cases hc:(P.follows .mixedOrders && drawOk ops)with
 | false=>rw[hc] at h;exact h.elim
 | true=>
  rw[hc] at h;simp only[Bool.and_eq_true] at hc;have hd:=Q6g hc.2;refine wp_region_any hc.1 ?_;have hli:∀i,¬Lst (Array.replicate ops.length false) i:=fun i=>by
   unfold Lst;by_cases hi:i<ops.length <;> simp[Array.getD,hi]
  have h':=h w.drew rfl;have I:DInv P ops N M f (Lst (Array.replicate ops.length false)) [] f a w.drew:=
   ⟨fun i hi=>absurd hi (hli i),(fun i hi=>by cases hi),(fun i hi=>by cases hi),fun i hi=>absurd hi (hli i),(fun i hi=>by cases hi),fun t _=>hF.get t,(fun i hi=>by cases hi),hF.size,hF.defers,Pres.refl _ _⟩
  obtain⟨D',f',I',h1,_,_,h4⟩:=Q1n hd hin ops 0 [] f rfl I (fun j _ hj=>absurd hj (Nat.not_lt_zero j)) h';refine Q9a hd hin hQ ops.length (Array.replicate ops.length false) (List.range ops.length) D' (louds ops) f' a w.drew (by simp) (by simp) List.nodup_range (fun i=>?_) I' h1 ?_ (fun i hi=>?_) (fun i o ho hlo=>?_) h4
  ·rw[List.mem_range];exact⟨fun q=>⟨q,hli i⟩,fun q=>q.1⟩
  ·exact List.Nodup.sublist List.filter_sublist List.nodup_range
  ·unfold louds at hi;have hi':=List.mem_filter.1 hi;have hlt:=List.mem_range.1 hi'.1;refine⟨ops[i],by simp[hlt],?_⟩;simpa [hlt] using hi'.2
  ·refine⟨fun _=>hli i,fun _=>?_⟩;unfold louds;rw[List.mem_filter,List.mem_range];exact⟨(zzgsi.1 ho).1,by rw[ho];exact hlo⟩
end draws
structure Ks where
 next:Fr->World->Prop
 ret:Fr->World->Prop
 exit:Nat->Fr->World->Prop
 goto:Nat->Fr->World->Prop
def Ks.of(K:Ks):Exit->Fr->World->Prop
 | .normal=>K.next
 | .ret=>K.ret
 | .exit i=>K.exit i
 | .goto l=>K.goto l
 | _=>fun _ _=>False
structure LI where
 live:List (Nat × Value)
 junk:List Nat
def LI.has(li:LI)(t:Nat):Bool:=li.live.any (fun p=>Nat.beq t p.1) || li.junk.any (Nat.beq t)
structure Ann where
 loop:Nat->LI
 lab:Nat->Option LI
 cut:Nat->Option LI
def PredTy:List (Nat × Value)->Type
 | []=>World->Prop
 | (_,.int _ _) :: r=>Int->PredTy r
 | (_,.bool _) :: r=>Bool->PredTy r
 | (_,.string _) :: r=>ByteArray->PredTy r
 | (_,.pointer _) :: r=>Option Addr->PredTy r
 | (_,.slice _ _ _) :: r=>Option Addr->Nat->Nat->PredTy r
 | (_,.map _) :: r=>Option Nat->PredTy r
 | (_,.float _ _) :: r=>Nat->PredTy r
 | (_,.complex _ _ _) :: r=>Nat->Nat->PredTy r
 | (_,.chan _) :: r=>Value->PredTy r
 | (_,.func _ _ _) :: r=>Value->PredTy r
 | (_,.nilFunc) :: r=>Value->PredTy r
 | (_,.iface _ _) :: r=>Value->PredTy r
 | (_,.nilIface) :: r=>Value->PredTy r
 | (_,.agg _) :: r=>Value->PredTy r
 | (_,.tuple _) :: r=>Value->PredTy r
def applyI:(L:List (Nat × Value))->PredTy L->Fr->World->Prop
 | [],I,_,w=>I w
 | (t,.int k _) :: r,I,f,w=>match f t with | .int k' n=>cond (decide (k'=k)) (applyI r (I n) f w) False | _=>False
 | (t,.bool _) :: r,I,f,w=>match f t with | .bool n=>applyI r (I n) f w | _=>False
 | (t,.string _) :: r,I,f,w=>match f t with | .string n=>applyI r (I n) f w | _=>False
 | (t,.pointer _) :: r,I,f,w=>match f t with | .pointer n=>applyI r (I n) f w | _=>False
 | (t,.slice _ _ _) :: r,I,f,w=>match f t with | .slice a l c=>applyI r (I a l c) f w | _=>False
 | (t,.map _) :: r,I,f,w=>match f t with | .map n=>applyI r (I n) f w | _=>False
 | (t,.float k _) :: r,I,f,w=>match f t with | .float k' n=>cond (decide (k'=k)) (applyI r (I n) f w) False | _=>False
 | (t,.complex k _ _) :: r,I,f,w=>match f t with | .complex k' n m=>cond (decide (k'=k)) (applyI r (I n m) f w) False | _=>False
 | (t,.chan _) :: r,I,f,w=>applyI r (I (f t)) f w
 | (t,.func _ _ _) :: r,I,f,w=>applyI r (I (f t)) f w
 | (t,.nilFunc) :: r,I,f,w=>applyI r (I (f t)) f w
 | (t,.iface _ _) :: r,I,f,w=>applyI r (I (f t)) f w
 | (t,.nilIface) :: r,I,f,w=>applyI r (I (f t)) f w
 | (t,.agg _) :: r,I,f,w=>applyI r (I (f t)) f w
 | (t,.tuple _) :: r,I,f,w=>applyI r (I (f t)) f w
def roundI:(L:List (Nat × Value))->PredTy L->Fr->(Fr->(World->Prop)->Prop)->Prop
 | [],I,f,K=>K f I
 | (t,.int k _) :: r,I,f,K=>∀x:Int,roundI r (I x) (put f (some t) (.int k x)) K
 | (t,.bool _) :: r,I,f,K=>∀x:Bool,roundI r (I x) (put f (some t) (.bool x)) K
 | (t,.string _) :: r,I,f,K=>∀x:ByteArray,roundI r (I x) (put f (some t) (.string x)) K
 | (t,.pointer _) :: r,I,f,K=>∀x:Option Addr,roundI r (I x) (put f (some t) (.pointer x)) K
 | (t,.slice _ _ _) :: r,I,f,K=>∀(x:Option Addr)(l c:Nat),roundI r (I x l c) (put f (some t) (.slice x l c)) K
 | (t,.map _) :: r,I,f,K=>∀x:Option Nat,roundI r (I x) (put f (some t) (.map x)) K
 | (t,.float k _) :: r,I,f,K=>∀x:Nat,roundI r (I x) (put f (some t) (.float k x)) K
 | (t,.complex k _ _) :: r,I,f,K=>∀x y:Nat,roundI r (I x y) (put f (some t) (.complex k x y)) K
 | (t,.chan _) :: r,I,f,K=>∀x:Value,roundI r (I x) (put f (some t) x) K
 | (t,.func _ _ _) :: r,I,f,K=>∀x:Value,roundI r (I x) (put f (some t) x) K
 | (t,.nilFunc) :: r,I,f,K=>∀x:Value,roundI r (I x) (put f (some t) x) K
 | (t,.iface _ _) :: r,I,f,K=>∀x:Value,roundI r (I x) (put f (some t) x) K
 | (t,.nilIface) :: r,I,f,K=>∀x:Value,roundI r (I x) (put f (some t) x) K
 | (t,.agg _) :: r,I,f,K=>∀x:Value,roundI r (I x) (put f (some t) x) K
 | (t,.tuple _) :: r,I,f,K=>∀x:Value,roundI r (I x) (put f (some t) x) K
theorem Q0M:∀(L:List (Nat × Value)) (I:PredTy L) (f g:Fr) (w:World) (K:Fr->(World->Prop)->Prop),applyI L I f w->roundI L I g K →
  (∀t,L.any (fun p=>Nat.beq t p.1)=false->g t=f t)->∃Iw:World->Prop,Iw w /\ K f Iw
 | [],I,f,g,w,K,ha,hr,hg=>by
  have:g=f:=funext fun t=>hg t rfl;subst this;exact⟨I,ha,hr⟩
 | (t,z) :: r,I,f,g,w,K,ha,hr,hg=>by
  have step:∀v,f t=v->∀t',r.any (fun p=>Nat.beq t' p.1)=false->put g (some t) v t'=f t':=by
   intro v hv t' ht';by_cases e:t'=t
   ·subst e;simp[put,hv]
   ·simp only[put,Q1Z e,cond_false];exact hg t' (by simp only[List.any_cons,Q1Z e,Bool.false_or];exact ht')
  cases z <;> simp only[applyI] at ha <;> simp only[roundI] at hr
  case int k n=>
   split at ha
   ·rename_i k' m hf;by_cases hk:k'=k
    ·subst hk;simp only[decide_true,cond_true] at ha;exact Q0M r _ f _ w K ha (hr m) (step _ hf)
    ·simp only[hk,decide_false,cond_false] at ha
   ·exact ha.elim
  case bool=>
   split at ha
   ·rename_i m hf;exact Q0M r _ f _ w K ha (hr m) (step _ hf)
   ·exact ha.elim
  case string=>
   split at ha
   ·rename_i m hf;exact Q0M r _ f _ w K ha (hr m) (step _ hf)
   ·exact ha.elim
  case pointer=>
   split at ha
   ·rename_i m hf;exact Q0M r _ f _ w K ha (hr m) (step _ hf)
   ·exact ha.elim
  case slice=>
   split at ha
   ·rename_i m l c hf;exact Q0M r _ f _ w K ha (hr m l c) (step _ hf)
   ·exact ha.elim
  case map=>
   split at ha
   ·rename_i m hf;exact Q0M r _ f _ w K ha (hr m) (step _ hf)
   ·exact ha.elim
  case float k n=>
   split at ha
   ·rename_i k' m hf;by_cases hk:k'=k
    ·subst hk;simp only[decide_true,cond_true] at ha;exact Q0M r _ f _ w K ha (hr m) (step _ hf)
    ·simp only[hk,decide_false,cond_false] at ha
   ·exact ha.elim
  case complex k n n2=>
   split at ha
   ·rename_i k' m m2 hf;by_cases hk:k'=k
    ·subst hk;simp only[decide_true,cond_true] at ha;exact Q0M r _ f _ w K ha (hr m m2) (step _ hf)
    ·simp only[hk,decide_false,cond_false] at ha
   ·exact ha.elim
  all_goals exact Q0M r _ f _ w K ha (hr (f t)) (step _ rfl)
def junked(J:List Nat)(jv:Nat->Value)(f:Fr):Fr:=fun t=>cond (J.any (Nat.beq t)) (jv t) (f t)
def LoopE(li:LI)(B:(Fr->World->Prop)->Fr->World->Prop)(f:Fr)(w:World):Prop:=
 ∃I:Nat->PredTy li.live,(∃n,applyI li.live (I n) f w) /\
  ∀(n:Nat)(jv:Nat->Value),roundI li.live (I n) (junked li.junk jv f) fun f' Iw=>∀w',Iw w'->B (fun f'' w''=>∃m,m<n /\ applyI li.live (I m) f'' w'') f' w'
def CutE(li:LI)(X:(Fr->World->Prop)->Prop)(Y:Fr->World->Prop)(f:Fr):Prop:=
 ∃J:PredTy li.live,X (fun f' w'=>applyI li.live J f' w') /\
  ∀jv:Nat->Value,roundI li.live J (junked li.junk jv f) fun f' Jw=>∀w',Jw w'->Y f' w'
def writesOk(M:Nat->Bool)(N:Nat):Code->Bool
 | .region _ ops _=>ops.toList.all (dstOk M N)
 | .seq a b=>writesOk M N a && writesOk M N b
 | .cond _ a b=>writesOk M N a && writesOk M N b
 | .block _ c=>writesOk M N c
 | .loop c=>writesOk M N c
 | .scope c=>writesOk M N c
 | .rangeFunc ..=>false
 | _=>true
def reg1:Code->Option Nat
 | .region id _ _=>some id
 | .seq a b=>match reg1 a with | some i=>some i | none=>reg1 b
 | .cond _ a b=>match reg1 a with | some i=>some i | none=>reg1 b
 | .block _ c=>reg1 c
 | .loop c=>reg1 c
 | .scope c=>reg1 c
 | _=>none
def gotoE(W:Code->Ks->Fr->World->Prop)(A:Ann)(N:Nat)(c:Code)(K:Ks):Nat->Nat->Fr->World->Prop
 | 0,_,_,_=>False
 | m+1,l,f,w=>
  match findLabel c l with
  | none=>K.goto l f w
  | some rest=>
   match A.lab l with
   | none=>W rest ⟨K.next,K.ret,K.exit,gotoE W A N c K m⟩ f w
   | some li=>cond (writesOk li.has N rest)
     (LoopE li (fun next f w=>W rest ⟨K.next,K.ret,K.exit,fun l' f' w'=>cond (Nat.beq l' l) (next f' w') (gotoE W A N c K m l' f' w')⟩ f w) f w) False
def wpE(P:Program)(A:Ann)(N:Nat):Nat->Code->Ks->Fr->World->Prop
 | 0,_,_,_,_=>False
 | n+1,c,K,f,w=>
  match c with
  | .skip=>K.next f w
  | .label _=>K.next f w
  | .ret=>K.ret f w
  | .exit i=>K.exit i f w
  | .goto l=>K.goto l f w
  | .seq x y=>match (match reg1 y with | some i=>A.cut i | none=>none)with
   | none=>wpE P A N n x ⟨fun f w=>wpE P A N n y K f w,K.ret,K.exit,K.goto⟩ f w
   | some li=>cond (writesOk li.has N x) (CutE li (fun nx=>wpE P A N n x ⟨nx,K.ret,K.exit,K.goto⟩ f w) (fun f w=>wpE P A N n y K f w) f) False
  | .cond c x y=>match ev f c with | .bool q=>ifB q (wpE P A N n x K f w) (wpE P A N n y K f w) | _=>False
  | .block i c=>wpE P A N n c ⟨K.next,K.ret,fun j f w=>cond (Nat.beq j i) (K.next f w) (K.exit j f w),K.goto⟩ f w
  | .loop c=>match reg1 c with
   | some id=>cond (writesOk (A.loop id).has N c) (LoopE (A.loop id) (fun next f w=>wpE P A N n c ⟨next,K.ret,K.exit,K.goto⟩ f w) f w) False
   | none=>False
  | .scope c=>wpE P A N n c ⟨K.next,K.ret,K.exit,gotoE (wpE P A N n) A N c K 6⟩ f w
  | .region _ ops false=>opsE P ops.toList K.next ops.toList f w
  | .region _ ops true=>drawE P ops.toList K.next f w
  | .rangeFunc ..=>False
  | .refuse _=>False
section
variable{P:Program}{Q:Exit->Act->World->Prop}{a:Act}{w:World}
theorem Qba{c:Code}(J:Nat->Act->World->Prop)(h0:∃n,J n a w)
  (round:∀n a w,J n a w->c.wp P (Exit.then (fun a' w'=>∃m,m<n /\ J m a' w') Q) a w):(Code.loop c).wp P Q a w:=by
 intro b k cs;have key:∀n a w,J n a w->∃e a' w',Q e a' w' /\ Arrives P (lone (b.at a (.code c :: .inLoop c :: k)) cs w) b k cs e a' w':=by
  intro n
  induction n using Nat.strongRecOn with
  | _ n ih=>
   intro a w hJ;obtain⟨e,a₁,w₁,hq,harr⟩:=round n a w hJ b (.inLoop c :: k) cs;cases e with
   | normal=>
    obtain⟨m,hlt,hJ₁⟩:=hq;obtain⟨e₂,a₂,w₂,hq₂,harr₂⟩:=ih m hlt a₁ w₁ hJ₁;exact⟨e₂,a₂,w₂,hq₂,.of_steps (Steps.trans harr (.one step_inLoop)) harr₂⟩
   | exit id=>exact⟨_,a₁,w₁,hq,.pass (x:=.inLoop c) rfl (fun _ _=>.inl (by simp)) harr⟩
   | goto l=>exact⟨_,a₁,w₁,hq,.pass (x:=.inLoop c) rfl (fun _ _=>.inl (by simp)) harr⟩
   | ret=>exact⟨_,a₁,w₁,hq,.pass (x:=.inLoop c) rfl (fun _ _=>.inl (by simp)) harr⟩
   | panic ch=>exact⟨_,a₁,w₁,hq,.pass (x:=.inLoop c) rfl (fun _ _=>.inl (by simp)) harr⟩
   | outgrown=>exact⟨_,a₁,w₁,hq,.pass (x:=.inLoop c) rfl (fun _ _=>.inl (by simp)) harr⟩
 obtain⟨n,hn⟩:=h0;obtain⟨e,a',w',hq,harr⟩:=key n a w hn;exact⟨e,a',w',hq,.of_steps (.one step_loop) harr⟩
def From(P:Program)(code c:Code)(Q:Exit->Act->World->Prop)(a:Act)(w:World):Prop:=
 ∀(b:Frame)(k:List Item)(cs:List Frame),∃e a' w',Q e a' w' /\ Arrives P (lone (b.at a (.code code :: .inScope c :: k)) cs w) b k cs e a' w'
def afterE(P:Program)(c:Code)(Q:Exit->Act->World->Prop)(e:Exit)(a:Act)(w:World):Prop:=
 match e with
 | .goto l=>(match findLabel c l with | some rest=>From P rest c Q a w | none=>Q (.goto l) a w)
 | e=>Q e a w
theorem Q2u{code c:Code}{Qj:Exit->Act->World->Prop}(h:code.wp P Qj a w)(hq:∀e a' w',Qj e a' w'->afterE P c Q e a' w'):From P code c Q a w:=by
 intro b k cs;obtain⟨e,a₁,w₁,hj,harr⟩:=h b (.inScope c :: k) cs;have hx:=hq _ _ _ hj;cases e with
 | normal=>exact⟨.normal,a₁,w₁,hx,Steps.trans harr (.one step_inScope)⟩
 | exit id=>exact⟨.exit id,a₁,w₁,hx,fun k' hk=>harr k' (by simp[exitTo,hk])⟩
 | goto l=>
  simp only[afterE] at hx;split at hx
  ·rename_i rest hf;obtain⟨e₂,a₂,w₂,hq₂,harr₂⟩:=hx b k cs;exact⟨e₂,a₂,w₂,hq₂,.of_steps (harr _ (by simp[gotoIn,hf])) harr₂⟩
  ·rename_i hf;exact⟨.goto l,a₁,w₁,hx,fun k' hk=>harr k' (by simp[gotoIn,hf,hk])⟩
 | ret=>exact⟨_,a₁,w₁,hx,harr⟩
 | panic ch=>exact⟨_,a₁,w₁,hx,harr⟩
 | outgrown=>exact⟨_,a₁,w₁,hx,harr⟩
theorem Q59{c:Code}(h:From P c c Q a w):(Code.scope c).wp P Q a w:=by
 intro b k cs;obtain⟨e,a₁,w₁,hq,harr⟩:=h b k cs;exact⟨e,a₁,w₁,hq,.of_steps (.one step_scope) harr⟩
end
theorem Q1c{M:Nat->Bool}{N:Nat}:∀ {c:Code} {l:Nat} {rest:Code},findLabel c l=some rest->writesOk M N c=true->writesOk M N rest=true
 | .seq x y,l,rest,h,hw=>by
  simp only[writesOk,Bool.and_eq_true] at hw;simp only[findLabel] at h;split at h
  ·rename_i r hr;simp only[Option.some.injEq] at h;subst h;simp only[writesOk,Bool.and_eq_true];exact⟨Q1c hr hw.1,hw.2⟩
  ·exact Q1c h hw.2
 | .label l',l,rest,h,_=>by
  simp only[findLabel] at h;split at h
  ·simp only[Option.some.injEq] at h;subst h;rfl
  ·cases h
 | .skip,_,_,h,_=>by simp[findLabel] at h
 | .region ..,_,_,h,_=>by simp[findLabel] at h
 | .cond ..,_,_,h,_=>by simp[findLabel] at h
 | .block ..,_,_,h,_=>by simp[findLabel] at h
 | .loop _,_,_,h,_=>by simp[findLabel] at h
 | .rangeFunc ..,_,_,h,_=>by simp[findLabel] at h
 | .exit _,_,_,h,_=>by simp[findLabel] at h
 | .scope _,_,_,h,_=>by simp[findLabel] at h
 | .goto _,_,_,h,_=>by simp[findLabel] at h
 | .ret,_,_,h,_=>by simp[findLabel] at h
 | .refuse _,_,_,h,_=>by simp[findLabel] at h
theorem Q0w{M M':Nat->Bool}{N:Nat}:∀ {c:Code},writesOk M N c=true->writesOk M' N c=true->writesOk (fun t=>M t && M' t) N c=true
 | .region _ ops _,h,h'=>by
  simp only[writesOk,List.all_eq_true] at *
  intro o ho;have h1:=h o ho;have h2:=h' o ho;unfold dstOk at *
  cases hd:o.dst with
  | none=>rfl
  | some d=>
   rw[hd] at h1 h2;simp only[Bool.and_eq_true] at h1 h2 ⊢;exact⟨⟨h1.1,h2.1⟩,h1.2⟩
 | .seq x y,h,h'=>by
  simp only[writesOk,Bool.and_eq_true] at *
  exact⟨Q0w h.1 h'.1,Q0w h.2 h'.2⟩
 | .cond _ x y,h,h'=>by
  simp only[writesOk,Bool.and_eq_true] at *
  exact⟨Q0w h.1 h'.1,Q0w h.2 h'.2⟩
 | .block _ c,h,h'=>by simp only[writesOk] at *;exact Q0w h h'
 | .loop c,h,h'=>by simp only[writesOk] at *;exact Q0w h h'
 | .scope c,h,h'=>by simp only[writesOk] at *;exact Q0w h h'
 | .rangeFunc ..,h,_=>by simp[writesOk] at h
 | .skip,_,_=>rfl
 | .exit _,_,_=>rfl
 | .label _,_,_=>rfl
 | .goto _,_,_=>rfl
 | .ret,_,_=>rfl
 | .refuse _,_,_=>rfl
def QK(N:Nat)(M:Nat->Bool)(f0:Fr)(K:Ks):Exit->Act->World->Prop:=
 fun e a' w'=>∃f',FR N a' f' /\ Pres M f0 f' /\ K.of e f' w'
def Sound(P:Program)(N:Nat)(W:Code->Ks->Fr->World->Prop):Prop:=
 ∀(c:Code)(K:Ks)(f:Fr)(w:World)(a:Act)(M:Nat->Bool),writesOk M N c=true->FR N a f->W c K f w->c.wp P (QK N M f K) a w
theorem Pres.and{M M':Nat->Bool}{f f':Fr}(h:Pres (fun t=>M t && M' t) f f'):Pres M f f':=fun t ht=>h t (by simp[ht])
theorem LoopE.elim{li:LI}{B:(Fr->World->Prop)->Fr->World->Prop}{f:Fr}{w:World}(h:LoopE li B f w) :
  ∃I:Nat->PredTy li.live,(∃n,applyI li.live (I n) f w) /\
   ∀n f' w' (M:Nat->Bool),Pres (fun t=>M t && li.has t) f f'->applyI li.live (I n) f' w'->B (fun f'' w''=>∃m,m<n /\ applyI li.live (I m) f'' w'') f' w':=by
 obtain⟨I,h0,hr⟩:=h;refine⟨I,h0,fun n f' w' M hP ha=>?_⟩;obtain⟨Iw,hIw,hk⟩:=Q0M li.live (I n) f' (junked li.junk f' f) w' _ ha (hr n f') (by
  intro t ht;unfold junked;cases hj:li.junk.any (Nat.beq t)with
  | true=>rfl
  | false=>exact(hP t (by simp only[LI.has,ht,hj,Bool.or_self,Bool.and_false])).symm)
 exact hk w' hIw
theorem CutE.elim{li:LI}{X:(Fr->World->Prop)->Prop}{Y:Fr->World->Prop}{f:Fr}(h:CutE li X Y f) :
  ∃J:PredTy li.live,X (fun f' w'=>applyI li.live J f' w') /\
   ∀f' w' (M:Nat->Bool),Pres (fun t=>M t && li.has t) f f'->applyI li.live J f' w'->Y f' w':=by
 obtain⟨J,h0,hr⟩:=h;refine⟨J,h0,fun f' w' M hP ha=>?_⟩;obtain⟨Iw,hIw,hk⟩:=Q0M li.live J f' (junked li.junk f' f) w' _ ha (hr f') (by
  intro t ht;unfold junked;cases hj:li.junk.any (Nat.beq t)with
  | true=>rfl
  | false=>exact(hP t (by simp only[LI.has,ht,hj,Bool.or_self,Bool.and_false])).symm)
 exact hk w' hIw
theorem Q1S{P:Program}{A:Ann}{N:Nat}{W:Code->Ks->Fr->World->Prop}(hW:Sound P N W){c:Code}{K:Ks}{M:Nat->Bool}(hc:writesOk M N c=true){f0:Fr} :
  ∀(m l:Nat)(f:Fr)(w:World)(a:Act),FR N a f->Pres M f0 f->gotoE W A N c K m l f w->afterE P c (QK N M f0 K) (.goto l) a w
 | 0,_,_,_,_,_,_,h=>h.elim
 | m+1,l,f,w,a,hF,hP,h=>by
  simp only[afterE];unfold gotoE at h;split at h
  ·rename_i hf;rw[hf];exact⟨f,hF,hP,h⟩
  ·rename_i rest hf;rw[hf];have hwr:=Q1c hf hc;simp only at h ⊢;split at h
   ·refine Q2u (hW rest _ f w a M hwr hF h) ?_;rintro e a' w' ⟨f',hF',hP',hk⟩;cases e with
    | goto l'=>exact Q1S hW hc m l' f' w' a' hF' (hP.trans hP') hk
    | normal=>exact⟨f',hF',hP.trans hP',hk⟩
    | ret=>exact⟨f',hF',hP.trans hP',hk⟩
    | exit i=>exact⟨f',hF',hP.trans hP',hk⟩
    | panic ch=>exact hk.elim
    | outgrown=>exact hk.elim
   ·rename_i li hl;cases hwo:writesOk li.has N rest with
    | false=>rw[hwo] at h;exact h.elim
    | true=>
     rw[hwo] at h;simp only[cond_true] at h;obtain⟨I,⟨n0,h0⟩,hr⟩:=LoopE.elim h;have key:∀n a' w' f',FR N a' f'->Pres (fun t=>M t && li.has t) f f'->applyI li.live (I n) f' w'->From P rest c (QK N M f0 K) a' w':=by
      intro n
      induction n using Nat.strongRecOn with
      | _ n ih=>
       intro a' w' f' hF' hP' ha;have hb:=hr _ _ _ _ hP' ha;refine Q2u (hW rest _ f' w' a' _ (Q0w hwr hwo) hF' hb) ?_;rintro e a'' w'' ⟨f'',hF'',hP'',hk⟩;have hP3:Pres M f0 f'':=hP.trans (Pres.and (hP'.trans hP''));cases e with
       | goto l'=>
        simp only[Ks.of] at hk;cases hl':Nat.beq l' l with
        | true=>
         rw[hl'] at hk;have:=Nat.eq_of_beq_eq_true hl';subst this;simp only[afterE,hf];obtain⟨m',hm',ha'⟩:=hk;exact ih m' hm' a'' w'' f'' hF'' (hP'.trans hP'') ha'
        | false=>
         rw[hl'] at hk;exact Q1S hW hc m l' f'' w'' a'' hF'' hP3 hk
       | normal=>exact⟨f'',hF'',hP3,hk⟩
       | ret=>exact⟨f'',hF'',hP3,hk⟩
       | exit i=>exact⟨f'',hF'',hP3,hk⟩
       | panic ch=>exact hk.elim
       | outgrown=>exact hk.elim
     exact key n0 a w f hF (Pres.refl _ _) h0
theorem Q5Y(P:Program)(A:Ann)(N:Nat):∀n,Sound P N (wpE P A N n)
 | 0=>fun _ _ _ _ _ _ _ _ h=>h.elim
 | n+1=>by
  have ih:=Q5Y P A N n;intro c K f w a M hM hF h;unfold wpE at h;cases c with
  | skip=>exact wp_skip ⟨f,hF,Pres.refl _ _,h⟩
  | label l=>exact wp_label ⟨f,hF,Pres.refl _ _,h⟩
  | ret=>exact wp_ret ⟨f,hF,Pres.refl _ _,h⟩
  | exit i=>exact wp_exit ⟨f,hF,Pres.refl _ _,h⟩
  | goto l=>exact wp_goto ⟨f,hF,Pres.refl _ _,h⟩
  | seq x y=>
   simp only[writesOk,Bool.and_eq_true] at hM;simp only at h;split at h
   ·refine wp_seq (Code.wp_mono ?_ (ih x _ f w a M hM.1 hF h));rintro e a' w' ⟨f',hF',hP',hk⟩;cases e with
    | normal=>
     refine Code.wp_mono ?_ (ih y K f' w' a' M hM.2 hF' hk);rintro e a'' w'' ⟨f'',hF'',hP'',hk'⟩;exact⟨f'',hF'',hP'.trans hP'',hk'⟩
    | ret=>exact⟨f',hF',hP',hk⟩
    | exit i=>exact⟨f',hF',hP',hk⟩
    | goto l=>exact⟨f',hF',hP',hk⟩
    | panic ch=>exact hk.elim
    | outgrown=>exact hk.elim
   ·rename_i li hli;cases hwo:writesOk li.has N x with
    | false=>rw[hwo] at h;exact h.elim
    | true=>
     rw[hwo] at h;simp only[cond_true] at h;obtain⟨J,hX,hY⟩:=CutE.elim h;refine wp_seq (Code.wp_mono ?_ (ih x _ f w a _ (Q0w hM.1 hwo) hF hX));rintro e a' w' ⟨f',hF',hP',hk⟩;cases e with
     | normal=>
      refine Code.wp_mono ?_ (ih y K f' w' a' M hM.2 hF' (hY _ _ _ hP' hk));rintro e a'' w'' ⟨f'',hF'',hP'',hk'⟩;exact⟨f'',hF'',(Pres.and hP').trans hP'',hk'⟩
     | ret=>exact⟨f',hF',Pres.and hP',hk⟩
     | exit i=>exact⟨f',hF',Pres.and hP',hk⟩
     | goto l=>exact⟨f',hF',Pres.and hP',hk⟩
     | panic ch=>exact hk.elim
     | outgrown=>exact hk.elim
  | cond o x y=>
   simp only[writesOk,Bool.and_eq_true] at hM;simp only at h;split at h
   ·rename_i q hq;have he:a.eval o=.bool q:=(hF.eval o).trans hq;cases q with
    | true=>exact wp_cond_true he (ih x K f w a M hM.1 hF h)
    | false=>exact wp_cond_false he (ih y K f w a M hM.2 hF h)
   ·exact h.elim
  | block i c=>
   refine wp_block (Code.wp_mono ?_ (ih c _ f w a M hM hF h));rintro e a' w' ⟨f',hF',hP',hk⟩;cases e with
   | exit j=>
    simp only[Ks.of] at hk;simp only[Exit.inBlock];by_cases hj:j=i
    ·subst hj;rw[if_pos rfl];rw[Q6Q] at hk;exact⟨f',hF',hP',hk⟩
    ·rw[if_neg hj];rw[Q1Z hj] at hk;exact⟨f',hF',hP',hk⟩
   | normal=>exact⟨f',hF',hP',hk⟩
   | ret=>exact⟨f',hF',hP',hk⟩
   | goto l=>exact⟨f',hF',hP',hk⟩
   | panic ch=>exact hk.elim
   | outgrown=>exact hk.elim
  | loop c=>
   simp only at h;split at h
   ·rename_i id hid;cases hwo:writesOk (A.loop id).has N c with
    | false=>rw[hwo] at h;exact h.elim
    | true=>
     rw[hwo] at h;simp only[cond_true] at h;obtain⟨I,⟨n0,h0⟩,hr⟩:=LoopE.elim h;simp only[writesOk] at hM;refine Qba (fun m a' w'=>∃f',FR N a' f' /\ Pres (fun t=>M t && (A.loop id).has t) f f' /\ applyI (A.loop id).live (I m) f' w') ⟨n0,f,hF,Pres.refl _ _,h0⟩ ?_;rintro m a' w' ⟨f',hF',hP',ha⟩;have hb:=hr _ _ _ _ hP' ha;refine Code.wp_mono ?_ (ih c _ f' w' a' _ (Q0w hM hwo) hF' hb);rintro e a'' w'' ⟨f'',hF'',hP'',hk⟩;have hP3:Pres M f f'':=Pres.and (hP'.trans hP'');cases e with
     | normal=>
      obtain⟨m',hm',ha'⟩:=hk;exact⟨m',hm',f'',hF'',hP'.trans hP'',ha'⟩
     | ret=>exact⟨f'',hF'',hP3,hk⟩
     | exit i=>exact⟨f'',hF'',hP3,hk⟩
     | goto l=>exact⟨f'',hF'',hP3,hk⟩
     | panic ch=>exact hk.elim
     | outgrown=>exact hk.elim
   ·exact h.elim
  | scope c=>
   simp only[writesOk] at hM;refine Q59 (Q2u (ih c _ f w a M hM hF h) ?_);rintro e a' w' ⟨f',hF',hP',hk⟩;cases e with
   | goto l=>exact Q1S ih hM _ l f' w' a' hF' hP' hk
   | normal=>exact⟨f',hF',hP',hk⟩
   | ret=>exact⟨f',hF',hP',hk⟩
   | exit i=>exact⟨f',hF',hP',hk⟩
   | panic ch=>exact hk.elim
   | outgrown=>exact hk.elim
  | region id ops draw=>
   simp only[writesOk,List.all_eq_true] at hM;cases draw with
   | false=>
    refine wp_region_list ?_;have:=Q1F (P:=P) (all:=ops.toList) (next:=K.next) (N:=N) (M:=M) (Q:=QK N M f K) (f0:=f)
     (fun a' f' w' hF' hP' hk=>⟨f',hF',hP',hk⟩) ops.toList f w a hM hF (Pres.refl _ _) h
    simpa using this
   | true=>
    have:=Q6f (P:=P) (ops:=ops.toList) (next:=K.next) (N:=N) (M:=M) (Q:=QK N M f K) (f:=f) (a:=a) (w:=w) (id:=id)
     (fun a' f' w' hF' hP' hk=>⟨f',hF',hP',hk⟩) hM hF h
    simpa using this
  | rangeFunc x y z u=>exact h.elim
  | refuse s=>exact h.elim
def resL(P:Program):List ResultVar->Fr->World->(List Value->Prop)->Prop
 | [],_,_,K=>K []
 | .tmp t :: rs,f,w,K=>resL P rs f w fun vs=>K (f t :: vs)
 | .cell d t :: rs,f,w,K=>match f d with
  | .pointer p=>someA p fun a=>ldE P t w a fun v=>resL P rs f w fun vs=>K (v :: vs)
  | _=>False
def resE(P:Program)(rs:List ResultVar)(f:Fr)(w:World)(K:Value->Prop):Prop:=
 resL P rs f w fun vs=>K (match vs with | [v]=>v | vs=>.tuple vs.toArray)
def resOne(tmps:Array Value):ResultVar->Sem Value
 | .tmp t=>pure (tmps.getD t undef)
 | .cell d t=>do loadVar t (← asAddr (tmps.getD d undef))
theorem Q8s(fn:Func)(tmps:Array Value):results fn tmps=(do
  let vs ← fn.results.mapM (resOne tmps)
  pure (if h:vs.size=1 then vs[0] else .tuple vs)):=by
 unfold results;congr 1
theorem Q2B{P:Program}{N:Nat}{a:Act}{f:Fr}{w:World}(hF:FR N a f):∀(rs:List ResultVar)(K:List Value->Prop),resL P rs f w K →
  ∃vs:List Value,(rs.mapM (resOne a.tmps)).run P w=.ok vs w /\ K vs
 | [],K,h=>⟨[],by simp,h⟩
 | .tmp t :: rs,K,h=>by
  obtain⟨vs,hr,hk⟩:=Q2B hF rs _ h;refine⟨f t :: vs,?_,hk⟩;simp only[List.mapM_cons,resOne,Sem.run_bind,Sem.run_pure,Result.andThen_ok,hr,hF.get]
 | .cell d t :: rs,K,h=>by
  simp only[resL] at h;split at h
  ·rename_i p hp;obtain⟨x,rfl,h⟩:=Q0X h;obtain⟨v,hv,h⟩:=Q3m (K:=fun v=>resL P rs f w fun vs=>K (v :: vs)) h;obtain⟨vs,hr,hk⟩:=Q2B hF rs _ h;refine⟨v :: vs,?_,hk⟩;simp only[List.mapM_cons,resOne,Sem.run_bind,hF.get,hp,asAddr,Sem.run_pure,Result.andThen_ok,hv,hr]
  ·exact h.elim
theorem Q3Z{P:Program}{fn:Func}{N:Nat}{a:Act}{f:Fr}{w:World}{K:Value->Prop}(hF:FR N a f)(h:resE P fn.results.toList f w K) :
  ∃v,(results fn a.tmps).run P w=.ok v w /\ K v:=by
 obtain⟨vs,hr,hk⟩:=Q2B hF _ _ h;refine⟨_,?_,hk⟩;have hm:(fn.results.mapM (resOne a.tmps)).run P w=.ok vs.toArray w:=by
  rw[Array.mapM_eq_mapM_toList];simp only[Sem.run_map,hr,Result.andThen_ok]
 rw[Q8s];simp only[Sem.run_bind,hm,Result.andThen_ok,Sem.run_pure]
 match vs with
 | []=>rfl
 | [v]=>rfl
 | v :: u :: vs=>simp
def frame0(args:Array Value):Fr:=fun t=>args.toList.getD t undef
def K0(P:Program)(fn:Func)(R:VW):Ks:=
 ⟨fun f w=>resE P fn.results.toList f w fun v=>R v w,fun f w=>resE P fn.results.toList f w fun v=>R v w,fun _ _ _=>False,fun _ _ _=>False⟩
theorem Q5f{P:Program}{A:Ann}{g:FuncId}{fn:Func}{c:Code}{args:Array Value}{w:World}{R:VW}
  (hf:P.funcs[g]? = some fn) (hb:fn.body=some c) (hw:writesOk (fun _=>true) fn.ntmps c=true) (hn:Nat.ble args.size fn.ntmps=true)
  (h:wpE P A fn.ntmps 1000 c (K0 P fn R) (frame0 args) w):Calls P g args w (Ret R):=by
 refine calls_of_wp hf hb ?_;have hle:args.size<=fn.ntmps:=Nat.le_of_ble_eq_true hn;have hF:FR fn.ntmps {tmps:=args++Array.replicate (fn.ntmps-args.size) undef,defers:=[]} (frame0 args):=by
  refine⟨by simp;omega,rfl,fun t=>?_⟩;simp only[frame0,Array.getD_eq_getD_getElem?,Array.getElem?_append,List.getD_eq_getElem?_getD,Array.getElem?_toList];split
  ·rfl
  ·rename_i hlt;rw[Array.getElem?_eq_none (Nat.le_of_not_lt hlt),Array.getElem?_replicate];split <;> rfl
 refine Code.wp_mono ?_ (Q5Y P A fn.ntmps 1000 c _ _ w _ (fun _=>true) hw hF h);rintro e a' w' ⟨f',hF',_,hk⟩;cases e with
 | normal=>obtain⟨v,hr,hR⟩:=Q3Z (fn:=fn) (K:=fun v=>R v w') hF' hk;exact⟨hF'.defers,v,hr,hR⟩
 | ret=>obtain⟨v,hr,hR⟩:=Q3Z (fn:=fn) (K:=fun v=>R v w') hF' hk;exact⟨hF'.defers,v,hr,hR⟩
 | exit i=>exact hk.elim
 | goto l=>exact hk.elim
 | panic ch=>exact hk.elim
 | outgrown=>exact hk.elim
def bodyOf(fn:Func):Code:=match fn.body with | some c=>c | none=>.skip
def LI.none:LI:=⟨[],[]⟩
theorem Q4c{P:Program}{A:Ann}{g:FuncId}{fn:Func}{args:Array Value}{w:World}{R:VW}
  (hf:P.funcs[g]? = some fn) (hb:fn.body.isSome=true) (hw:writesOk (fun _=>true) fn.ntmps (bodyOf fn)=true) (hn:Nat.ble args.size fn.ntmps=true)
  (h:wpE P A fn.ntmps 1000 (bodyOf fn) (K0 P fn R) (frame0 args) w):Calls P g args w (Ret R):=by
 obtain⟨c,hc⟩:=zzise.1 hb;have:bodyOf fn=c:=by simp[bodyOf,hc]
 rw[this] at hw h;exact Q5f hf hc hw hn h
def zN : Ann := ⟨fun _ => LI.none, fun _ => none, fun _ => none⟩
def rg (a n : Nat) : List Nat := List.range' a n
theorem bodyE {P : Program} (A : Ann) {g : FuncId} {fn : Func} {args : Array Value} {w : World} {R : Value → World → Prop} {V : Prop} (hf : P.funcs[g]? = some fn) (hk : (fn.body.isSome && writesOk (fun _ => true) fn.ntmps (bodyOf fn) && Nat.ble args.size fn.ntmps) = true := by kernel_rfl)
    (e : V = wpE P A fn.ntmps 1000 (bodyOf fn) (K0 P fn R) (frame0 args) w := by kernel_rfl) (h : V) : Calls P g args w (Ret R) := by
  rw [Bool.and_eq_true, Bool.and_eq_true] at hk
  exact Q4c hf hk.1.1 hk.1.2 hk.2 (e ▸ h)
end
section
open Go.RowKit
structure Mod (F:Nat->Prop) (w w':World):Prop where
 os:w'.os=w.os
 tape:w'.tape=w.tape
 output:w'.output=w.output
 size:w.heap.size<=w'.heap.size
 block:∀k,k<w.heap.size->¬F k->w'.heap[k]? = w.heap[k]?
abbrev Ext(w w':World):Prop:=Mod (fun _=>False) w w'
theorem Mod.refl(F:Nat->Prop)(w:World):Mod F w w:=⟨rfl,rfl,rfl,Nat.le_refl _,fun _ _ _=>rfl⟩
theorem Mod.trans{F G:Nat->Prop}{w w' w'':World}(h:Mod F w w')(g:Mod G w' w'')(hs:∀k,k<w.heap.size->G k->F k):Mod F w w'':=
 ⟨g.os.trans h.os,g.tape.trans h.tape,g.output.trans h.output,Nat.le_trans h.size g.size,
  fun k hk hF=>(g.block k (Nat.lt_of_lt_of_le hk h.size) (fun hG=>hF (hs k hk hG))).trans (h.block k hk hF)⟩
theorem Mod.mono{F G:Nat->Prop}{w w':World}(h:Mod F w w')(hs:∀k,F k->G k):Mod G w w':=
 ⟨h.os,h.tape,h.output,h.size,fun k hk hG=>h.block k hk (fun hF=>hG (hs k hF))⟩
theorem Ext.trans{w w' w'':World}(h:Ext w w')(g:Ext w' w''):Ext w w'':=Mod.trans h g (fun _ _ x=>x)
theorem Ext.mod{F:Nat->Prop}{w w':World}(h:Ext w w'):Mod F w w':=Mod.mono h (fun _ x=>x.elim)
theorem Ext.below{w w':World}(h:Ext w w'):Below w.heap.size w w':=⟨h.os,h.tape,h.output,h.size,fun k hk=>h.block k hk (fun x=>x)⟩
theorem Ext.new{F:Nat->Prop}{w w' w'':World}(h:Ext w w')(g:Mod F w' w'')(hF:∀k,F k->w.heap.size<=k):Ext w w'':=
 Mod.trans h g (fun k hk hG=>by have:=hF k hG;omega)
theorem Q0i{w:World}{b:Nat}{o:Obj}(h:w.heap[b]? = some o):b<w.heap.size:=(Array.getElem?_eq_some_iff.1 h).1
theorem Mod.keep{F:Nat->Prop}{w w':World}(h:Mod F w w'){b:Nat}{o:Obj}(hb:w.heap[b]? = some o)(hF:¬F b):w'.heap[b]? = some o:=
 (h.block b (Q0i hb) hF).trans hb
theorem Ext.keep{w w':World}(h:Ext w w'){b:Nat}{o:Obj}(hb:w.heap[b]? = some o):w'.heap[b]? = some o:=Mod.keep h hb (fun x=>x)
theorem Ext.drew(w:World):Ext w w.drew:=⟨rfl,rfl,rfl,Nat.le_refl _,fun _ _ _=>rfl⟩
theorem Ext.alloc(w:World)(o:Obj):Ext w (w.alloc o):=⟨rfl,rfl,rfl,by simp,fun k hk _=>Below.heap_alloc w o k hk⟩
theorem Q02(b o n:Nat):(Addr.mk b o none).add n=Addr.mk b (o+n) none:=Addr.add_lit b o n
theorem Q09{w:World}{c:Array Value}{e:TypeId}{K:Nat->World->Prop}
  (h:∀b w1,w1.heap[b]? = some (.cells c e (0,0))->Ext w w1->w.heap.size=b->w1.heap.size=b+1->K b w1) :
  ∀(b:Nat)(w1:World),b=w.heap.size->w1=w.alloc (.cells c e)->K b w1:=by
 rintro b w1 rfl rfl;exact h _ _ (heap_alloc_new w _) (Ext.alloc w _) rfl (by simp)
theorem Q01{w:World}{b o:Nat}{arr:Array Value}{T:TypeId}{fz:Nat × Nat}{v:Value}(h:w.heap[b]? = some (.cells arr T fz))(hv:arr[o]? = some v) :
  w.cell? (Addr.mk b o none)=some v:=by rw[cell_of_row w b o arr T fz h];exact hv
theorem Q8W{w:World}{b o:Nat}{arr:Array Value}{T:TypeId}{fz:Nat × Nat}{vs:List Value}(h:w.heap[b]? = some (.cells arr T fz))
  (hv:∀j v,vs[j]? = some v->arr[o+j]? = some v):CellsAt w (Addr.mk b o none) vs:=by
 intro j v hj;rw[Q02,cell_of_row w b (o+j) arr T fz h];exact hv j v hj
theorem Q08{w:World}{b:Nat}{T:TypeId}{fz:Nat × Nat}{vs:List Value}(h:w.heap[b]? = some (.cells vs.toArray T fz)):CellsAt w (zA b) vs:=
 Q8W h fun j v hj=>by simpa using hj
def setAt(arr:Array Value):Nat->List Value->Array Value
 | _,[]=>arr
 | o,v :: vs=>setAt (arr.setIfInBounds o v) (o+1) vs
theorem Q48{b T:Nat}:∀(vs:List Value)(w:World)(arr:Array Value)(o i:Nat),w.heap[b]? = some (.cells arr T (0,0)) →
  (wrFrom (Addr.mk b o none) i vs w).heap[b]? = some (.cells (setAt arr (o+i) vs) T (0,0)) /\ Mod (· = b) w (wrFrom (Addr.mk b o none) i vs w) /\
   (wrFrom (Addr.mk b o none) i vs w).heap.size=w.heap.size
 | [],w,arr,o,i,h=>⟨h,Mod.refl _ _,rfl⟩
 | v :: vs,w,arr,o,i,h=>by
  have h1:=heap_setCell_same w b (o+i) arr T v h;obtain⟨g1,g2,g3⟩:=Q48 vs (w.setCell (Addr.mk b (o+i) none) v) _ o (i+1) h1;simp only[wrFrom,Q02];have hm:Mod (· = b) w (w.setCell (Addr.mk b (o+i) none) v):=⟨rfl,rfl,rfl,by simp,fun k _ hk=>Below.heap_setCell w _ v k hk⟩;exact⟨g1,Mod.trans hm g2 (fun _ _ x=>x),by rw[g3];simp⟩
theorem Qdt{w:World}{b T o:Nat}{arr:Array Value}(vs:List Value)(h:w.heap[b]? = some (.cells arr T (0,0))) :
  (wr w (Addr.mk b o none) vs).heap[b]? = some (.cells (setAt arr o vs) T (0,0)) /\ Mod (· = b) w (wr w (Addr.mk b o none) vs) /\ (wr w (Addr.mk b o none) vs).heap.size=w.heap.size:=by
 have:=Q48 vs w arr o 0 h;simpa [wr] using this
theorem Qbb{w:World}{b T o n:Nat}{arr:Array Value}(h:w.heap[b]? = some (.cells arr T (0,0)))(hl:o+n<=arr.size):WrC w (Addr.mk b o none) n:=by
 intro j hj;rw[Q02,cell_of_row w b (o+j) arr T (0,0) h,frozen_of_row w b (o+j) arr T h];refine⟨?_,rfl⟩;rw[Array.getElem?_eq_getElem (by omega)];rfl
theorem Q0e{w:World}{b T o n:Nat}{arr:Array Value}{vs:List Value}{K:World->Prop}(h:w.heap[b]? = some (.cells arr T (0,0)))(hl:o+n<=arr.size)
  (k:∀w1,w1.heap[b]? = some (.cells (setAt arr o vs) T (0,0))->Mod (· = b) w w1->w1.heap.size=w.heap.size->K w1) :
  WrC w (Addr.mk b o none) n /\ ∀w1,w1=wr w (Addr.mk b o none) vs->K w1:=by
 refine⟨Qbb h hl,?_⟩;rintro w1 rfl;obtain⟨h1,h2,h3⟩:=Qdt (o:=o) vs h;exact k _ h1 h2 h3
theorem Q04{n:Int}(h0:-9223372036854775808<=n)(h1:n<=9223372036854775807):IntKind.i64.wrap n=n:=by
 simp only[IntKind.wrap,IntKind.bits,IntKind.signed,Bool.true_and,Nat.reduceSub,ge_iff_le,decide_eq_true_eq];split <;> omega
theorem Q0B{n:Int}(h0:0<=n)(h1:n<=18446744073709551615):IntKind.u64.wrap n=n:=by
 simp only[IntKind.wrap,IntKind.bits,IntKind.signed,Bool.false_and,Bool.false_eq_true,if_false];omega
theorem Q6L(n:Int):IntKind.u8.wrap n=n % 256:=by
 simp only[IntKind.wrap,IntKind.bits,IntKind.signed,Bool.false_and,Bool.false_eq_true,if_false];omega
theorem Q5Z(n:Int):IntKind.u64.wrap n=n % 18446744073709551616:=by
 simp only[IntKind.wrap,IntKind.bits,IntKind.signed,Bool.false_and,Bool.false_eq_true,if_false];omega
theorem Q10(k n:Nat):BitVec.ofInt k (n:Int)=BitVec.ofNat k n:=by simp
theorem Q2q{a b:Nat}(ha:a<18446744073709551616)(hb:b<18446744073709551616):bits .or .u64 (a:Int) (b:Int)=((a ||| b:Nat):Int):=by
 have hab:(a ||| b)<2 ^ 64:=Nat.or_lt_two_pow (n:=64) (by omega) (by omega);have e:bits .or .u64 (a:Int) (b:Int)=IntKind.u64.wrap ((BitVec.ofInt 64 (a:Int) ||| BitVec.ofInt 64 (b:Int)).toNat:Int):=rfl;rw[e,Q10,Q10,BitVec.toNat_or,BitVec.toNat_ofNat,BitVec.toNat_ofNat,Nat.mod_eq_of_lt (by omega:a<2 ^ 64),Nat.mod_eq_of_lt (by omega:b<2 ^ 64)];exact Q0B (by omega) (by omega)
theorem Q6R{a b:Nat}(ha:a<18446744073709551616)(hb:b<18446744073709551616):bits .and .u64 (a:Int) (b:Int)=((a &&& b:Nat):Int):=by
 have hab:(a &&& b)<2 ^ 64:=Nat.and_lt_two_pow (n:=64) a (by omega);have e:bits .and .u64 (a:Int) (b:Int)=IntKind.u64.wrap ((BitVec.ofInt 64 (a:Int) &&& BitVec.ofInt 64 (b:Int)).toNat:Int):=rfl;rw[e,Q10,Q10,BitVec.toNat_and,BitVec.toNat_ofNat,BitVec.toNat_ofNat,Nat.mod_eq_of_lt (by omega:a<2 ^ 64),Nat.mod_eq_of_lt (by omega:b<2 ^ 64)];exact Q0B (by omega) (by omega)
theorem Qbj{a b:Nat}(ha:a<18446744073709551616)(hb:b<18446744073709551616):bits .xor .u64 (a:Int) (b:Int)=((a ^^^ b:Nat):Int):=by
 have hab:(a ^^^ b)<2 ^ 64:=Nat.xor_lt_two_pow (n:=64) (by omega) (by omega);have e:bits .xor .u64 (a:Int) (b:Int)=IntKind.u64.wrap ((BitVec.ofInt 64 (a:Int) ^^^ BitVec.ofInt 64 (b:Int)).toNat:Int):=rfl;rw[e,Q10,Q10,BitVec.toNat_xor,BitVec.toNat_ofNat,BitVec.toNat_ofNat,Nat.mod_eq_of_lt (by omega:a<2 ^ 64),Nat.mod_eq_of_lt (by omega:b<2 ^ 64)];exact Q0B (by omega) (by omega)
theorem Q1H(a:Int){n:Nat}(hn:n<=64):shlV .u64 a (n:Int)=IntKind.u64.wrap (a*2 ^ n):=by
 simp only[shlV,IntKind.bits,zztnc,Nat.min_eq_left hn]
theorem Q2e{a:Int}(ha:0<=a){n:Nat}(hn:n<=64):shrV .u64 a (n:Int)=a / 2 ^ n:=by
 simp only[shrV,IntKind.bits,zztnc,Nat.min_eq_left hn];rw[Int.fdiv_eq_ediv_of_nonneg _ (by exact Int.pow_nonneg (by decide))]
theorem Q2N{P:Program}{w:World}{d:Nat}{xs ys:Array Value}:∀(l:List (Field × Bool)),
  (∀ p ∈ l, p.1.name ≠ "_" ∧ ∃ x y, (part p.1.type xs p.1.offset).run P w = .ok x w ∧ (part p.1.type ys p.1.offset).run P w = .ok y w ∧ (Op.equalIn d p.1.type x y).run P w = .ok p.2 w) →
  (Op.eqFields d xs ys (l.map (·.1))).run P w=.ok (l.all (·.2)) w
 | [],_=>by simp[Op.eqFields]
 | p :: l,h=>by
  obtain⟨hn,x,y,hx,hy,he⟩:=h p (by simp);have ih:=Q2N l (fun q hq=>h q (by simp[hq]));simp only[List.map_cons,Op.eqFields,ne_eq,hn,not_false_eq_true,if_true,Sem.run_bind,hx,Result.andThen_ok,hy,he,List.all_cons];cases hb:p.2 with
  | true=>simp only[Bool.not_true,Bool.false_eq_true,if_false,Bool.true_and];exact ih
  | false=>simp only[Bool.not_false,if_true,Sem.run_pure,Bool.false_and]
theorem Q0t{P:Program}{t:TypeId}{dd:TypeDesc}(hu:P.underlying t=some dd)(ha:isAggD dd=false){cs:Array Value}{i:Nat}{v:Value}(hv:cs[i]? = some v)(w:World) :
  (part t cs i).run P w=.ok v w:=by
 simp only[part,Sem.run_bind,Q2C hu,ha,Result.andThen_ok,Bool.false_eq_true,if_false,hv,Sem.run_pure]
theorem Q2a{P:Program}{w:World}{t:TypeId}{xs ys:Array Value}{l:List (Field × Bool)}(hf:P.underlying t=some (.struct (P.fieldsOf t)))(hp:P.stoodInHeld t=false)
  (hl:(P.fieldsOf t).toList=l.map (·.1))
  (h : ∀ p ∈ l, p.1.name ≠ "_" ∧ ∃ x y, (part p.1.type xs p.1.offset).run P w = .ok x w ∧ (part p.1.type ys p.1.offset).run P w = .ok y w ∧ (Op.equalIn 9999 p.1.type x y).run P w = .ok p.2 w) :
  (binOp .eql t (.agg xs) (.agg ys)).run P w=.ok (.bool (l.all (·.2))) w /\ (binOp .neq t (.agg xs) (.agg ys)).run P w=.ok (.bool (!l.all (·.2))) w:=by
 rw[run_eql_struct,run_neq_struct,run_equalIn_agg w 9999 _ _ _ hf hp,hl,Q2N l h];exact⟨rfl,rfl⟩
end
section
open Go.ChangeShapes Go.WideShapes Go.ChangeAt Go.RowKit
section
variable{H:Type}{enc:TypeId × Value->H}
theorem Q2m{P:Program}(hl:laidOutB P=true){W W':World}(hb:Below W.heap.size W W') :
  ∀(ts:List TypeId)(vs:List Value) (ds:List (DataW H)) (ps:List MemPlace),ts.all (fun t=>P.readableRec t && Nat.blt t P.types.size)=true →
   DataW.TrodAll enc P W 0 (fun _=>true) true ts vs ds ps->∃ps',DataW.TrodAll enc P W' 0 (fun b=>decide (b<W.heap.size)) true ts vs ds ps'
 | [],[],[],ps,_,h=>⟨ps,h⟩
 | [],[],_ :: _,_,_,h=>h.elim
 | [],_ :: _,_,_,_,h=>h.elim
 | _ :: _,[],_,_,_,h=>h.elim
 | _ :: _,_ :: _,[],_,_,h=>h.elim
 | t :: ts,v :: vs,d :: ds,ps,ha,h=>by
  simp only[List.all_cons,Bool.and_eq_true] at ha;obtain⟨p,q,h0,hr,rfl⟩:=h;obtain⟨q',hq⟩:=Q2m hl hb ts vs ds q ha.2 hr;have lt:∀x ∈ p,x.block<W.heap.size:=by obtain⟨m,hm⟩:=h0;exact DataW.trod_lt m _ _ _ hm
  exact⟨p++q',p,q',Below.trod hl ha.1.1 (Nat.le_of_ble_eq_true ha.1.2) h0 hb lt,hq,rfl⟩
theorem Q1O{P:Program}{W:World}{base:Nat}{sp:Nat->Bool}{held:Bool}:∀(ts:List TypeId)(vs:List Value) (ds:List (DataW H)) (ps:List MemPlace),
  DataW.TrodAll enc P W base sp held ts vs ds ps->ds.length=ts.length /\ vs.length=ts.length
 | [],[],[],_,_=>⟨rfl,rfl⟩
 | [],[],_ :: _,_,h=>h.elim
 | [],_ :: _,_,_,h=>h.elim
 | _ :: _,[],_,_,h=>h.elim
 | _ :: _,_ :: _,[],_,h=>h.elim
 | t :: ts,v :: vs,d :: ds,ps,h=>by
  obtain⟨p,q,_,hr,_⟩:=h;have:=Q1O ts vs ds q hr;simp[this.1,this.2]
end
theorem i64_of_wf{n:Int}(h:(Lit.int .i64 n).wf=true):-9223372036854775808<=n /\ n<=9223372036854775807:=by
 simp[Lit.wf,IntKind.min,IntKind.max,IntKind.signed,IntKind.bits] at h;omega
end
section
open Go.ChangeShapes Go.WideShapes Go.ChangeAt Go.RowKit
inductive Sh where
 | bool
 | int (k:IntKind)
 | str
 | row (k b:Nat) (e:Sh)
 | unit
 | pair (a b:Sh)
namespace Sh
def size:Sh->Nat
 | .unit=>0
 | .pair a b=>a.size+b.size
 | _=>1
def agg:Sh->Bool
 | .unit=>true
 | .pair _ _=>true
 | _=>false
mutual
/-- Is s the shape of type t? -/
def of(P:Program):Nat->TypeId->Sh->Bool
 | 0,_,_=>false
 | n+1,t,s=>match P.underlying t with
  | some .bool=>(match s with | .bool=>true | _=>false)
  | some (.int k)=>(match s with | .int k'=>decide (k=k') | _=>false)
  | some .string=>(match s with | .str=>true | _=>false)
  | some (.slice e)=>(match s with | .row k b s'=>Nat.beq (P.cellsOf e) k && Nat.beq (P.bytesOf e) b && of P n e s' | _=>false)
  | some (.struct fs)=>s.agg && Nat.beq (P.cellsOf t) s.size && ofF P n 0 (fs.toList.map fun f=>(f.type,f.offset)) s
  | some (.array m e)=>s.agg && Nat.beq (P.cellsOf t) s.size && ofF P n 0 ((List.range m).map fun i=>(e,i*P.cellsOf e)) s
  | _=>false
def ofF(P:Program):Nat->Nat->List (TypeId × Nat)->Sh->Bool
 | 0,_,_,_=>false
 | n+1,o,[],.unit=>true
 | n+1,o,f :: fs,.pair a b=>Nat.beq f.2 o && Nat.beq (P.cellsOf f.1) a.size && of P n f.1 a && ofF P n (o+a.size) fs b
 | _+1,_,_,_=>false
end
section
variable{H:Type}{enc:TypeId × Value->H}{P:Program}{w:World}{sp:Nat->Bool}{held:Bool}
end
end Sh
end
section
open Go.ChangeShapes Go.WideShapes Go.ChangeAt Go.RowKit
section
variable{H:Type}{enc:TypeId × Value->H}
def WalksX(X:World->Prop)(enc:TypeId × Value->H)(P:Program)(g:FuncId)(fn:Func):Prop:=
 ∀(W:World)(base:Nat)(args:Array Value) (ds:List (DataW H)) (ps:List MemPlace),
  (∀(j:Nat) t v,fn.params[j]? = some t->args[j]? = some v->Value.okWide P W .any base t v) →
  DataW.TrodAll enc P W 0 (fun _=>true) true fn.params.toList args.toList ds ps →
  (DataW.weightsEach P fn.params.toList ds).all (·<=reachBytes)=true->X W →
  Calls P g args W (Ret fun v w'=>v=.bool true /\ Ext W w')
theorem law_liftX{X:World->Prop}{C:Checked}{g:FuncId}{fn:Func}{s:ChangeSpec}{os:Os}{tb:TypeId}(hX:∀w w':World,w.heap=w'.heap->X w->X w')
  (own:ownKnob C.prog.godebug=none) (started:os.Started)
  (noInit:C.prog.inits.idxOf? g=none) (hfn:C.prog.funcs[g]? = some fn)
  (witness:∃(w:World)(tape:Tape)(i:Input),w.os=os /\ (w.forCall tape i).Shaped C.prog /\ i.vars=[] /\ Input.okWide C.prog (w.forCall tape i) .any w.heap.size g i /\
   ((s.pre enc C.prog fn [] false (w.forCall tape i).memory i.args /\ X (w.forCall tape i).memory) /\ sizedMet enc C.prog fn (OpenSpec.ofChange s) false (w.forCall tape i).memory i.args) /\ ({}:Assume).holds C.prog (lone (Frame.enter C.prog g i.args .normal) [] (w.forCall tape i)))
  (hrt:fn.resultTypes=#[tb]) (hb:C.prog.underlying tb=some .bool) (laid:laidOutB C.prog=true)
  (hpar:fn.params.toList.all (fun t=>C.prog.readableRec t && Nat.blt t C.prog.types.size)=true) (hvars:s.vars=[])
  (hspec:∀ds:List (DataW H),ds.length=fn.params.toList.length->(s.fn H ds).results=[.lit (.bool true)] /\ (s.fn H ds).args=ds /\ (s.fn H ds).vars=[])
  (walk:WalksX X enc C.prog g fn) :
  ReturnsInHanded {} C os g .any (fun w args=>(s.pre enc C.prog fn [] false w args /\ X w) /\ sizedMet enc C.prog fn (OpenSpec.ofChange s) false w args) (s.post enc C.prog fn false true false false):=by
 refine returnsInHanded_of_change_and (X:=fun w _=>X w) (fun w w' _ hh h=>hX w w' hh h) own started noInit hfn witness ?_;intro W base args ds gs before hval hW hcnd hsz hx _;have hW':=hW;obtain⟨p,q,hA,hV,hbef,hfz,hnd⟩:=hW;rw[hvars] at hV;have hgs:gs=[]:=by cases gs with | nil=>rfl | cons g gs=>exact hV.elim
 subst hgs;have hlen:=(Q1O _ _ _ _ hA).1;have hvt:s.plain.varTypes C.prog=[]:=by
  have:s.plain.vars=[]:=hvars;simp[DataSpec.varTypes,this]
 rw[hvt,List.append_nil,List.append_nil] at hsz;refine(walk W base args ds p hval hA hsz hx).mono fun e W' hR=>?_;cases e with
 | panicked c=>exact hR.elim
 | outgrown=>exact hR.elim
 | returned v=>
  obtain⟨rfl,hE⟩:=hR;obtain⟨pa,hpa⟩:=Q2m laid hE.below _ _ _ _ hpar hA;obtain⟨h1,h2,h3⟩:=hspec ds hlen;refine⟨_,rfl,ds,[],before,[],pa,[],hW',?_,?_,?_,hE.below.frame _,fun h=>by cases h⟩
  ·rw[List.append_nil,h1,hrt];exact trodAll_mk1 (shut_bool hb _)
  ·rw[List.append_nil,h2];exact hpa
  ·rw[hvars,List.append_nil,h3];rfl
theorem Q8l{P:Program}{W:World}{name:String}{g:Nat}{t e:TypeId}{n:Nat}{k:IntKind}{l:List Int}(hg:P.globalNamed name=some g)(ht:(P.globals[g]?).map (·.type)=some t)
  (hu:P.underlying t=some (.array n e)) (he:P.underlying e=some (.int k)) (hc:P.cellsOf e=1)
  (h:laidMet P [(name,.agg (l.map fun m=>.lit (.int k m)))] W):∀(j:Nat)(m:Int),l[j]? = some m->W.cell? ⟨g,j,none⟩=some (.int k m):=by
 obtain⟨ps,⟨g0,t0,cs,f0,p,q,hg0,ht0,hv,hd,_,_⟩,_,_⟩:=h;obtain rfl:=Option.some.inj (hg.symm.trans hg0);obtain rfl:=Option.some.inj (ht.symm.trans ht0);intro j m hj;rw[World.var?_cell hg hv j];obtain⟨xs,m1,_,hx,hlen,hxl,hel⟩:=DataW.trod_array hu hd;simp only[Prod.mk.injEq,DataW.agg.injEq] at hx;have hxj:(xs.map (·.1))[j]? = some (.lit (.int k m)):=by rw[<-hx.1,List.getElem?_map,hj];rfl
 rw[List.getElem?_map] at hxj;cases hq:xs[j]? with
 | none=>rw[hq] at hxj;cases hxj
 | some x=>
  rw[hq] at hxj;simp only[Option.map_some,Option.some.injEq] at hxj;have hjn:j<n:=by have:=(zzgsi.1 hq).1;omega
  have h1:=hel j hjn;rw[hq,hc,Nat.mul_one] at h1;obtain⟨m',e1,e2,_⟩:=DataW.trod_int he h1;rw[e2] at hxj;simp only[DataW.lit.injEq,Lit.int.injEq,true_and] at hxj;subst hxj;have h2:((cs.toList.drop j).take 1)[0]? = some (.int k m'):=by rw[e1];rfl
  rw[List.getElem?_take,if_pos (by omega),List.getElem?_drop,Nat.add_zero] at h2;simpa using h2
end
end
section
open Go.RowKit
theorem Q4v{P:Program}{t:TypeId}{s b:Nat}{z:Value}(h:(P.info? t).map (fun i=>(i.size,i.bytes,i.zero))=some (s,b,some z)):∃i,P.info? t=some i /\ i.size=s /\ i.bytes=b /\ i.zero=some z:=by
 obtain⟨i,hi,hq⟩:=Option.map_eq_some_iff.1 h;simp only[Prod.mk.injEq] at hq;exact⟨i,hi,hq.1,hq.2.1,hq.2.2⟩
theorem Qag{n m bytes:Nat}(hb:(n+m)*bytes<=140737488355328):∀cap:Nat,n<=cap->cap<n+m->Builtin.nextslicecap (n+m) cap*bytes<=281474976710656:=fun cap h1 h2=>growslice_fits (by omega) hb
theorem Q2p{P:Program}(w:World)(t ty e:TypeId)(i:TypeInfo)(z:Value)(size bytes:Nat)(ht:P.underlying t=some (.slice e))(hi:P.info? e=some i)(hz:i.zero=some z)
  (hsize:i.size=size) (hby:i.bytes=bytes) (hzs:z.cells.size=size) (v:Value) (n:Nat) (xs:List Value) (hown:w.ownsRow 0 e size v n xs)
  (a:Addr) (m c:Nat) (news:List Value) (hl:news.length=m*size) (hnews:∀j u,news[j]? = some u->w.cell? (a.add j)=some u) (h1:∀u ∈ news,u.oneCell'=true)
  (h63:n+m<=maxLen) (hbytes:(n+m)*bytes<=140737488355328) :
  ∃v' w',(Builtin.append_ #[t,t] ty #[v,.slice (some a) m c]).run P w=.ok v' w' /\ w'.ownsRow 0 e size v' (n+m) (xs++news) /\ Mod (fun k=>v.ownBlock=some k) w w' /\
   (∀k,v'.ownBlock=some k->v.ownBlock=some k \/ w.heap.size<=k):=by
 subst hsize;subst hby
 have hsm:n+m<=9223372036854775807:=by simp only[maxLen] at h63;omega
 have hall:(xs++news).length=(n+m)*i.size:=by rw[zzlna,hown.1,hl,Nat.add_mul]
 have fresh:∀(old:Nat)(G:Nat->Prop),old<n+m →
   (w.drew.alloc (.cells (xs.toArray++news.toArray++Builtin.zeroCells z.cells (grownCap w (n+m) old e-(n+m))) e)).ownsRow 0 e i.size
    (.slice (some ⟨w.heap.size,0,none⟩) (n+m) (grownCap w (n+m) old e)) (n+m) (xs++news) /\
   Mod G w (w.drew.alloc (.cells (xs.toArray++news.toArray++Builtin.zeroCells z.cells (grownCap w (n+m) old e-(n+m))) e)):=by
  intro old G ho;have hge:=grownCap_ge w (n+m) old e;refine⟨⟨hall,.inr ⟨w.heap.size,_,_,rfl,Nat.zero_le _,heap_alloc_new w.drew _,hge,grownCap_le_maxLen w (n+m) old e h63,?_,?_⟩⟩,Ext.mod ((Ext.drew w).trans (Ext.alloc w.drew _))⟩
  ·have hxs:=hown.1;simp only[Array.size_append,List.size_toArray,size_zeroCells,hzs,hxs,hl,<-Nat.add_mul];congr 1;omega
  ·rw[Array.toList_append,Array.toList_append,<-hall];exact List.take_left
 rcases hown.2 with⟨rfl,rfl⟩ | ⟨g,cap,cur,rfl,hbg,hg,hnc,hcm,hcs,htake⟩
 ·have hx:xs=[]:=List.eq_nil_of_length_eq_zero (by simpa using hown.1);subst hx;by_cases hm:m=0
  ·subst hm;have hn:news=[]:=List.eq_nil_of_length_eq_zero (by simpa using hl);subst hn;refine⟨.slice none 0 0,w,?_,World.ownsRow_nil w 0 e i.size,Mod.refl _ _,fun k hk=>by simp[Value.ownBlock] at hk⟩;simp[Builtin.append_,run_underlying ht,sizeOf,typeInfo,hi,Builtin.lenOf,Builtin.firstCells,loadCells,loadCellsFrom]
  ·have hr:=run_append_nil (P:=P) w t ty e i z ht hi hz a m c news hl hnews (by omega) (by omega) (by have hb:=hbytes;simp only[Nat.zero_add] at hb;omega);have hgr:=fresh 0 (fun k=>Value.ownBlock (.slice none 0 0)=some k) (by omega);simp only[Nat.zero_add,List.nil_append,Array.empty_append] at hgr ⊢;refine⟨_,_,hr,hgr.1,hgr.2,fun k hk=>?_⟩;simp[Value.ownBlock] at hk;exact .inr (by omega)
 ·by_cases hroom:n+m<=cap
  ·have hfit:n*i.size+news.length<=cur.size:=by rw[hl,hcs,<-Nat.add_mul];exact zzmlr _ hroom
   have hr:=run_append_room (P:=P) w t ty e i ht hi g n cap cur hg a m c news hl hnews h1 hroom hfit;refine⟨_,_,hr,⟨hall,.inr ⟨g,cap,_,rfl,hbg,setRow_heap w g cur _ e _ hg,hroom,hcm,?_,?_⟩⟩,⟨rfl,rfl,rfl,by simp,fun k _ hk=>setRow_other w g k _ (fun e=>hk (by simp[Value.ownBlock,e]))⟩,fun k hk=>?_⟩
   ·simp only[List.size_toArray,zzlna,zzlnt,List.length_drop,Array.length_toList];omega
   ·rw[htake,<-hall];exact List.take_left
   ·exact .inl (by simpa [Value.ownBlock] using hk)
  ·have holds:∀j u,xs[j]? = some u->w.cell? ((⟨g,0,none⟩:Addr).add j)=some u:=hown.cells (g:=g) rfl;have hr:=run_append_grow (P:=P) w t ty e i z ht hi hz ⟨g,0,none⟩ n cap xs hown.1 holds a m c news hl hnews (by omega) (by omega) (Qag hbytes cap hnc (by omega));have hgr:=fresh cap (fun k=>Value.ownBlock (.slice (some ⟨g,0,none⟩) n cap)=some k) (by omega);refine⟨_,_,hr,hgr.1,hgr.2,fun k hk=>?_⟩;simp[Value.ownBlock] at hk;exact .inr (by omega)
theorem Q66{P:Program}(w:World)(t ty e:TypeId)(i:TypeInfo)(ht:P.underlying t=some (.slice e))(hi:P.info? e=some i)(p:Option Addr)(n cap:Nat)(h:n<=cap) :
  (Builtin.append_ #[t,t] ty #[.slice p n cap,.slice none 0 0]).run P w=.ok (.slice p n cap) w:=by
 cases p <;> simp[Builtin.append_,run_underlying ht,sizeOf,typeInfo,hi,Builtin.lenOf,Builtin.firstCells,loadCells,loadCellsFrom,h,storeCells]
end
set_option maxRecDepth 100000
section
abbrev CS:=@CallS prog
variable{w:World}{R:Value->World->Prop}
def vc0(x0:Option Addr)(w:World)(R:VW):Prop:=
 ifB (!x0.isNone) (someA x0 fun a0=>WrC w (a0.add 1) 1 /\ ∀(w1:World),w1=wr w (a0.add 1) [.slice none 0 0]->R (.tuple #[]) w1) (R (.tuple #[]) w)
theorem vc0.ok{x0:Option Addr}(h:vc0 x0 w R ):Calls prog 36 #[.pointer x0] w (Ret R):=
 bodyE zN Tryz.func36 (h:=h)
def vc1(x0:Option Addr)(w:World)(R:VW):Prop:=
 ifB x0.isNone (R (.slice none 0 0) w) (∀(n0:Nat)(w1:World),n0=w.heap.size->w1=w.alloc (.cells #[] 47)->someA x0 fun a2=>∃(p3:Option Addr)(n4 n5:Nat),w1.cell? (a2.add 1)=some (.slice p3 n4 n5) /\ ∃(p6:Option Addr)(n7 n8:Nat)(w9:World),Sem.run prog (Builtin.append_ #[44,44] 44 #[.slice (some (zA n0)) 0 0,.slice p3 n4 n5]) w1=.ok (.slice p6 n7 n8) w9 /\ R (.slice p6 n7 n8) w9)
theorem vc1.ok{x0:Option Addr}(h:vc1 x0 w R ):Calls prog 43 #[.pointer x0] w (Ret R):=
 bodyE zN Tryz.func43 (h:=h)
def vc2(x0:Option Addr)(w:World)(R:VW):Prop:=
 ifB x0.isNone (R (.tuple #[.int .i64 0,.int .i64 11]) w) (CS 160 #[.pointer x0] w fun v0 w1=>∃i2:Int,v0=.int .i64 i2 /\ ifB (decide (i2<0)) (R (.tuple #[.int .i64 0,.int .i64 13]) w1) (CS 161 #[.pointer x0,.int .i64 i2,.int .i64 (-1)] w1 fun v3 w4=>v3=.tuple #[] /\ R (.tuple #[.int .i64 i2,.int .i64 0]) w4))
theorem vc2.ok{x0:Option Addr}(h:vc2 x0 w R ):Calls prog 113 #[.pointer x0] w (Ret R):=
 bodyE zN Tryz.func113 (h:=h)
def va3:Ann:=⟨fun id=>LI.none,fun l=>cond (Nat.beq l 0) (some ⟨[(3,.int .i64 0)],([2]++rg 6 28)⟩) (none),fun i=>none⟩
def vc3(x0:Option Addr)(w:World)(R:VW):Prop:=
 ifB x0.isNone (R (.int .i64 (-1)) w) (someA x0 fun a0=>∃(p1:Option Addr)(n2 n3:Nat),w.cell? (a0.add 0)=some (.slice p1 n2 n3) /\ ifB (decide (0>=(↑n2:Int))) (R (.int .i64 (-1)) w) (someA x0 fun a4=>∃(p5:Option Addr)(n6 n7:Nat),w.cell? (a4.add 0)=some (.slice p5 n6 n7) /\ (0:Int)<=0 /\ 0<(↑n6:Int) /\ someA p5 fun a8=>∃i9:Int,w.cell? (a8.add 0)=some (.int .u64 i9) /\ ifB (i9 == 0) (∃x10:Nat->Int->World->Prop,(∃n11:Nat,x10 n11 (IntKind.i64.wrap (0+1)) w) /\ ∀(n12:Nat)(jv:Nat->Value)(i13:Int)(w14:World),x10 n12 i13 w14->someA x0 fun a15=>∃(p16:Option Addr)(n17 n18:Nat),w14.cell? (a15.add 0)=some (.slice p16 n17 n18) /\ ifB (decide (i13>=(↑n17:Int))) (R (.int .i64 (-1)) w14) (someA x0 fun a19=>∃(p20:Option Addr)(n21 n22:Nat),w14.cell? (a19.add 0)=some (.slice p20 n21 n22) /\ 0<=i13 /\ i13<(↑n21:Int) /\ someA p20 fun a23=>∃i24:Int,w14.cell? (a23.add i13.toNat)=some (.int .u64 i24) /\ ifB (i24 == 0) (∃n25:Nat,n25<n12 /\ x10 n25 (IntKind.i64.wrap (i13+1)) w14) (someA x0 fun a26=>∃(p27:Option Addr)(n28 n29:Nat),w14.cell? (a26.add 0)=some (.slice p27 n28 n29) /\ 0<=i13 /\ i13<(↑n28:Int) /\ someA p27 fun a30=>∃i31:Int,w14.cell? (a30.add i13.toNat)=some (.int .u64 i31) /\ CS 214 #[.int .u64 i31] w14 fun v32 w33=>∃i34:Int,v32=.int .i64 i34 /\ R (.int .i64 (IntKind.i64.wrap (IntKind.i64.wrap (64*i13)+i34))) w33))) (someA x0 fun a35=>∃(p36:Option Addr)(n37 n38:Nat),w.cell? (a35.add 0)=some (.slice p36 n37 n38) /\ (0:Int)<=0 /\ 0<(↑n37:Int) /\ someA p36 fun a39=>∃i40:Int,w.cell? (a39.add 0)=some (.int .u64 i40) /\ CS 214 #[.int .u64 i40] w fun v41 w42=>∃i43:Int,v41=.int .i64 i43 /\ R (.int .i64 (IntKind.i64.wrap (IntKind.i64.wrap (64*0)+i43))) w42)))
theorem vc3.ok{x0:Option Addr}(h:vc3 x0 w R ):Calls prog 160 #[.pointer x0] w (Ret R):=
 bodyE va3 Tryz.func160 (h:=h)
def vc4(x0:Option Addr)(x1:Int)(w:World)(R:VW):Prop:=
 ifB x0.isNone (R (.int .i64 (-1)) w) (someA x0 fun a0=>∃p1:Option Nat,w.cell? (a0.add 0)=some (.map p1) /\ CS 92 #[.map p1,.int .i64 x1] w fun v2 w3=>∃i4:Int,v2=.int .i64 i4 /\ R (.int .i64 i4) w3)
theorem vc4.ok{x0:Option Addr}{x1:Int}(h:vc4 x0 x1 w R ):Calls prog 48 #[.pointer x0,.int .i64 x1] w (Ret R):=
 bodyE zN Tryz.func48 (h:=h)
def va5:Ann:=⟨fun id=>LI.none,fun l=>none,fun i=>cond (Nat.beq i 6) (some ⟨[(3,.int .i64 0)],(rg 13 6)⟩) (none)⟩
def vc5(x0:Int)(w:World)(R:VW):Prop:=
 ifB (decide (x0<4)) (R (.int .i64 (IntKind.i64.wrap (16*IntKind.i64.wrap (x0+1)))) w) ((2:Int) ≠ 0 /\ 0<=IntKind.i64.wrap (IntKind.i64.wrap (x0.tdiv 2)-1) /\ ∃x0_1:Int->World->Prop,((2:Int) ≠ 0 /\ ifB (x0.tmod (2:Int) == 0) ((4:Int) ≠ 0 /\ x0_1 (IntKind.i64.wrap (IntKind.i64.wrap ((shlV IntKind.i64 64 (IntKind.i64.wrap (IntKind.i64.wrap (x0.tdiv 2)-1))).tdiv 4)*3)) w) (x0_1 (shlV IntKind.i64 64 (IntKind.i64.wrap (IntKind.i64.wrap (x0.tdiv 2)-1))) w)) /\ ∀(jv:Nat->Value)(i1:Int)(w2:World),x0_1 i1 w2->R (.int .i64 i1) w2)
theorem vc5.ok{x0:Int}(h:vc5 x0 w R ):Calls prog 52 #[.int .i64 x0] w (Ret R):=
 bodyE va5 Tryz.func52 (h:=h)
def vc6(x0:Int)(w:World)(R:VW):Prop:=
 ifB (decide (x0<0)) (R (.tuple #[.pointer none,.int .i64 12]) w) (ifB (decide (x0>2097152)) (R (.tuple #[.pointer none,.int .i64 12]) w) (0<=x0 /\ x0<=x0 /\ (↑(1:Nat):Int)*x0<=281474976710656 /\ x0<=9223372036854775807 /\ ∀(n0:Nat)(w1:World),n0=w.heap.size->w1=w.alloc (.cells (madeCells #[.int .u8 0] (x0.toNat*1)) 5)->∀(n2:Nat)(w3:World),n2=w1.heap.size->w3=w1.alloc (.cells #[.slice (some (zA n0)) x0.toNat x0.toNat,.slice none 0 0] 125)->R (.tuple #[zP n2,.int .i64 0]) w3))
theorem vc6.ok{x0:Int}(h:vc6 x0 w R ):Calls prog 66 #[.int .i64 x0] w (Ret R):=
 bodyE zN Tryz.func66 (h:=h)
def vc7(x0:Option Nat)(x1:Int)(w:World)(R:VW):Prop:=
 ∃(i0:Int)(b1:Bool)(w2:World),Sem.run prog (Instr.lookup 48 (.map x0) (.int .i64 x1) true) w=.ok (.tuple #[.int .i64 i0,.bool b1]) w2 /\ ifB b1 (R (.int .i64 i0) w2) (R (.int .i64 (-1)) w2)
theorem vc7.ok{x0:Option Nat}{x1:Int}(h:vc7 x0 x1 w R ):Calls prog 92 #[.map x0,.int .i64 x1] w (Ret R):=
 bodyE zN Tryz.func92 (h:=h)
def vc8(x0:Option Addr)(x1 x2:Int)(w:World)(R:VW):Prop:=
 CS 155 #[.pointer x0,.int .i64 x1,.int .i64 x2] w fun v0 w1=>∃i2:Int,v0=.int .i64 i2 /\ ifB (i2 != 0) (R (.tuple #[.string (.mk #[]),.int .i64 i2]) w1) (CS 156 #[.pointer x0,.int .i64 x1,.int .i64 x2,.bool false] w1 fun v3 w4=>∃(p5:Option Addr)(n6 n7:Nat),v3=.slice p5 n6 n7 /\ ∃x8:List UInt8,x8.length=n6 /\ BytesAt w4 p5 x8 /\ R (.tuple #[.string (ByteArray.mk (Array.mk x8)),.int .i64 0]) w4)
theorem vc8.ok{x0:Option Addr}{x1 x2:Int}(h:vc8 x0 x1 x2 w R ):Calls prog 106 #[.pointer x0,.int .i64 x1,.int .i64 x2] w (Ret R):=
 bodyE zN Tryz.func106 (h:=h)
def va9:Ann:=⟨fun id=>cond (Nat.beq id 5) ⟨[(21,.int .i64 0)],([5]++rg 22 16)⟩ (LI.none),fun l=>none,fun i=>none⟩
def vc9(x0:Int)(w:World)(R:VW):Prop:=
 ifB (decide (x0<0)) (R (.tuple #[.pointer none,.int .i64 12]) w) (ifB (decide (x0>65536)) (R (.tuple #[.pointer none,.int .i64 12]) w) ((64:Int) ≠ 0 /\ 0<=IntKind.i64.wrap ((IntKind.i64.wrap (x0+63)).tdiv 64) /\ IntKind.i64.wrap ((IntKind.i64.wrap (x0+63)).tdiv 64)<=IntKind.i64.wrap ((IntKind.i64.wrap (x0+63)).tdiv 64) /\ (↑(8:Nat):Int)*IntKind.i64.wrap ((IntKind.i64.wrap (x0+63)).tdiv 64)<=281474976710656 /\ IntKind.i64.wrap ((IntKind.i64.wrap (x0+63)).tdiv 64)<=9223372036854775807 /\ ∀(n0:Nat)(w1:World),n0=w.heap.size->w1=w.alloc (.cells (madeCells #[.int .u64 0] ((IntKind.i64.wrap ((IntKind.i64.wrap (x0+63)).tdiv 64)).toNat*1)) 33)->∀(n2:Nat)(w3:World),n2=w1.heap.size->w3=w1.alloc (.cells #[.slice (some (zA n0)) (IntKind.i64.wrap ((IntKind.i64.wrap (x0+63)).tdiv 64)).toNat (IntKind.i64.wrap ((IntKind.i64.wrap (x0+63)).tdiv 64)).toNat,.int .i64 x0,.int .i64 x0] 226)->∃x4:Nat->Int->World->Prop,(∃n5:Nat,x4 n5 0 w3) /\ ∀(n6:Nat)(jv:Nat->Value)(i7:Int)(w8:World),x4 n6 i7 w8->ifB (decide (i7<x0)) (∀(w9:World),w9=w8.drew->∃(p10:Option Addr)(n11 n12:Nat),w9.cell? ((zA n2).add 0)=some (.slice p10 n11 n12) /\ (64:Int) ≠ 0 /\ w9=w9 /\ 0<=IntKind.i64.wrap (i7.tdiv 64) /\ IntKind.i64.wrap (i7.tdiv 64)<(↑n11:Int) /\ someA p10 fun a13=>w9=w9 /\ ∃i14:Int,w9.cell? (a13.add (IntKind.i64.wrap (i7.tdiv 64)).toNat)=some (.int .u64 i14) /\ (64:Int) ≠ 0 /\ w9=w9 /\ 0<=i7.tmod 64 /\ w9=w9 /\ w9=w9 /\ 0<=IntKind.i64.wrap (i7.tdiv 64) /\ IntKind.i64.wrap (i7.tdiv 64)<(↑n11:Int) /\ someA p10 fun a15=>w9=w9 /\ WrC w9 (a15.add (IntKind.i64.wrap (i7.tdiv 64)).toNat) 1 /\ ∀(w16:World),w16=wr w9 (a15.add (IntKind.i64.wrap (i7.tdiv 64)).toNat) [.int .u64 (bits BinOp.or IntKind.u64 i14 (shlV IntKind.u64 1 (i7.tmod 64)))]->∃n17:Nat,n17<n6 /\ x4 n17 (IntKind.i64.wrap (i7+1)) w16) (R (.tuple #[zP n2,.int .i64 0]) w8)))
theorem vc9.ok{x0:Int}(h:vc9 x0 w R ):Calls prog 107 #[.int .i64 x0] w (Ret R):=
 bodyE va9 Tryz.func107 (h:=h)
def vc10(x0:Option Addr)(w:World)(R:VW):Prop:=
 ifB x0.isNone (R (.int .i64 0) w) (someA x0 fun a0=>∃i1:Int,w.cell? (a0.add 2)=some (.int .i64 i1) /\ R (.int .i64 i1) w)
theorem vc10.ok{x0:Option Addr}(h:vc10 x0 w R ):Calls prog 108 #[.pointer x0] w (Ret R):=
 bodyE zN Tryz.func108 (h:=h)
def vc11(x0:Option Addr)(x1:Int)(w:World)(R:VW):Prop:=
 CS 176 #[.pointer x0,.int .i64 x1] w fun v0 w1=>∃i2:Int,v0=.int .i64 i2 /\ ifB (i2 == 0) (CS 177 #[.pointer x0,.int .i64 x1] w1 fun v3 w4=>∃b5:Bool,v3=.bool b5 /\ ifB (!b5) (R (.int .i64 13) w4) (ifB (i2 == 0) (CS 161 #[.pointer x0,.int .i64 x1,.int .i64 1] w4 fun v6 w7=>v6=.tuple #[] /\ R (.int .i64 i2) w7) (R (.int .i64 i2) w4))) (ifB (i2 == 0) (CS 161 #[.pointer x0,.int .i64 x1,.int .i64 1] w1 fun v8 w9=>v8=.tuple #[] /\ R (.int .i64 i2) w9) (R (.int .i64 i2) w1))
theorem vc11.ok{x0:Option Addr}{x1:Int}(h:vc11 x0 x1 w R ):Calls prog 122 #[.pointer x0,.int .i64 x1] w (Ret R):=
 bodyE zN Tryz.func122 (h:=h)
def vc12(x0 x1:Option Addr)(x2 x3:Int)(w:World)(R:VW):Prop:=
 ∀(n0:Nat)(w1:World),n0=w.heap.size->w1=w.alloc (.cells #[.pointer x0] 83)->∃p2:Option Addr,w1.cell? (zA n0)=some (.pointer p2) /\ CS 189 #[.pointer p2,.pointer x1,.int .i64 x2,.int .i64 x3] w1 fun v3 w4=>∃(p5:Option Addr)(n6 n7:Nat)(i8:Int),v3=.tuple #[.slice p5 n6 n7,.int .i64 i8] /\ ifB (i8 == 0) (CS 190 #[.slice p5 n6 n7,.func (Fn.func 191) #[] #[zP n0]] w4 fun v9 w10=>v9=.tuple #[] /\ R (.int .i64 i8) w10) (R (.int .i64 i8) w4)
theorem vc12.ok{x0 x1:Option Addr}{x2 x3:Int}(h:vc12 x0 x1 x2 x3 w R ):Calls prog 132 #[.pointer x0,.pointer x1,.int .i64 x2,.int .i64 x3] w (Ret R):=
 bodyE zN Tryz.func132 (h:=h)
def vc13(x0 x1:Option Addr)(x2 x3 x4:Int)(w:World)(R:VW):Prop:=
 CS 189 #[.pointer x0,.pointer x1,.int .i64 x2,.int .i64 x4] w fun v0 w1=>∃(p2:Option Addr)(n3 n4:Nat)(i5:Int),v0=.tuple #[.slice p2 n3 n4,.int .i64 i5] /\ ifB (i5 != 0) (R (.int .i64 i5) w1) (CS 135 #[.pointer x0,.pointer x1,.int .i64 x3,.int .i64 x4] w1 fun v6 w7=>∃(s8:ByteArray)(i9:Int),v6=.tuple #[.string s8,.int .i64 i9] /\ ifB (i9 != 0) (R (.int .i64 i9) w7) (CS 136 #[.pointer x0,.pointer x1,.int .i64 x2,.string s8] w7 fun v10 w11=>∃i12:Int,v10=.int .i64 i12 /\ R (.int .i64 i12) w11))
theorem vc13.ok{x0 x1:Option Addr}{x2 x3 x4:Int}(h:vc13 x0 x1 x2 x3 x4 w R ):Calls prog 133 #[.pointer x0,.pointer x1,.int .i64 x2,.int .i64 x3,.int .i64 x4] w (Ret R):=
 bodyE zN Tryz.func133 (h:=h)
def vc14(x0 x1:Option Addr)(x2 x3:Int)(w:World)(R:VW):Prop:=
 ∀(n0:Nat)(w1:World),n0=w.heap.size->w1=w.alloc (.cells #[.pointer x0] 83)->∃p2:Option Addr,w1.cell? (zA n0)=some (.pointer p2) /\ CS 189 #[.pointer p2,.pointer x1,.int .i64 x2,.int .i64 x3] w1 fun v3 w4=>∃(p5:Option Addr)(n6 n7:Nat)(i8:Int),v3=.tuple #[.slice p5 n6 n7,.int .i64 i8] /\ ifB (i8 != 0) (R (.tuple #[.string (.mk #[]),.int .i64 i8]) w4) (∀(n9:Nat)(w10:World),n9=w4.heap.size->w10=w4.alloc (.cells #[.pointer none,.slice none 0 0] 245)->CS 190 #[.slice p5 n6 n7,.func (Fn.func 192) #[] #[zP n0,zP n9]] w10 fun v11 w12=>v11=.tuple #[] /\ CS 194 #[zP n9] w12 fun v13 w14=>∃s15:ByteArray,v13=.string s15 /\ R (.tuple #[.string s15,.int .i64 0]) w14)
theorem vc14.ok{x0 x1:Option Addr}{x2 x3:Int}(h:vc14 x0 x1 x2 x3 w R ):Calls prog 135 #[.pointer x0,.pointer x1,.int .i64 x2,.int .i64 x3] w (Ret R):=
 bodyE zN Tryz.func135 (h:=h)
def vc15(x0 x1:Option Addr)(x2:Int)(x3:ByteArray)(w:World)(R:VW):Prop:=
 ∀(n0:Nat)(w1:World),n0=w.heap.size->w1=w.alloc (.cells #[.pointer x0] 83)->∀(n2:Nat)(w3:World),n2=w1.heap.size->w3=w1.alloc (.cells #[.string x3] 9)->∃p4:Option Addr,w3.cell? (zA n0)=some (.pointer p4) /\ ∃s5:ByteArray,w3.cell? (zA n2)=some (.string s5) /\ CS 189 #[.pointer p4,.pointer x1,.int .i64 x2,.int .i64 (↑s5.size:Int)] w3 fun v6 w7=>∃(p8:Option Addr)(n9 n10:Nat)(i11:Int),v6=.tuple #[.slice p8 n9 n10,.int .i64 i11] /\ ifB (i11 == 0) (CS 190 #[.slice p8 n9 n10,.func (Fn.func 195) #[] #[zP n0,zP n2]] w7 fun v12 w13=>v12=.tuple #[] /\ R (.int .i64 i11) w13) (R (.int .i64 i11) w7)
theorem vc15.ok{x0 x1:Option Addr}{x2:Int}{x3:ByteArray}(h:vc15 x0 x1 x2 x3 w R ):Calls prog 136 #[.pointer x0,.pointer x1,.int .i64 x2,.string x3] w (Ret R):=
 bodyE zN Tryz.func136 (h:=h)
def vc16(x0:Int)(w:World)(R:VW):Prop:=
 CS 210 #[.int .i64 x0] w fun v0 w1=>∃b2:Bool,v0=.bool b2 /\ ifB (!b2) (R (.int .i64 0) w1) (ifB (decide (x0<8)) (CS 52 #[.int .i64 x0] w1 fun v3 w4=>∃i5:Int,v3=.int .i64 i5 /\ R (.int .i64 i5) w4) (CS 211 #[.int .i64 x0] w1 fun v6 w7=>∃i8:Int,v6=.int .i64 i8 /\ R (.int .i64 (IntKind.i64.wrap (i8*512))) w7))
theorem vc16.ok{x0:Int}(h:vc16 x0 w R ):Calls prog 152 #[.int .i64 x0] w (Ret R):=
 bodyE zN Tryz.func152 (h:=h)
def vc17(x0:Option Addr)(x1 x2:Int)(w:World)(R:VW):Prop:=
 ifB x0.isNone (R (.int .i64 11) w) (ifB (decide (x1<0)) (R (.int .i64 4) w) (ifB (decide (x2<0)) (R (.int .i64 4) w) (someA x0 fun a0=>∃(p1:Option Addr)(n2 n3:Nat),w.cell? (a0.add 0)=some (.slice p1 n2 n3) /\ ifB (decide (x1>(↑n2:Int))) (R (.int .i64 4) w) (someA x0 fun a4=>∃(p5:Option Addr)(n6 n7:Nat),w.cell? (a4.add 0)=some (.slice p5 n6 n7) /\ ifB (decide (x2<=IntKind.i64.wrap ((↑n6:Int)-x1))) (R (.int .i64 0) w) (R (.int .i64 4) w)))))
theorem vc17.ok{x0:Option Addr}{x1 x2:Int}(h:vc17 x0 x1 x2 w R ):Calls prog 155 #[.pointer x0,.int .i64 x1,.int .i64 x2] w (Ret R):=
 bodyE zN Tryz.func155 (h:=h)
def vc18(x0:Option Addr)(x1 x2:Int)(x3:Bool)(w:World)(R:VW):Prop:=
 ifB (decide (x2>0)) (someA x0 fun a0=>∃(p1:Option Addr)(n2 n3:Nat),w.cell? (a0.add 1)=some (.slice p1 n2 n3) /\ ∀(n4:Nat)(w5:World),n4=w.heap.size->w5=w.alloc (.cells #[.int .i64 x1,.int .i64 x2,.bool x3] 47)->∃(p6:Option Addr)(n7 n8:Nat)(w9:World),Sem.run prog (Builtin.append_ #[44,44] 44 #[.slice p1 n2 n3,.slice (some (zA n4)) 1 1]) w5=.ok (.slice p6 n7 n8) w9 /\ someA x0 fun a10=>WrC w9 (a10.add 1) 1 /\ ∀(w11:World),w11=wr w9 (a10.add 1) [.slice p6 n7 n8]->someA x0 fun a12=>∃(p13:Option Addr)(n14 n15:Nat),w11.cell? (a12.add 0)=some (.slice p13 n14 n15) /\ 0<=x1 /\ x1<=IntKind.i64.wrap (x1+x2) /\ IntKind.i64.wrap (x1+x2)<=(↑n15:Int) /\ R (.slice (subA p13 x1.toNat n15 1) ((IntKind.i64.wrap (x1+x2)).toNat-x1.toNat) (n15-x1.toNat)) w11) (someA x0 fun a16=>∃(p17:Option Addr)(n18 n19:Nat),w.cell? (a16.add 0)=some (.slice p17 n18 n19) /\ 0<=x1 /\ x1<=IntKind.i64.wrap (x1+x2) /\ IntKind.i64.wrap (x1+x2)<=(↑n19:Int) /\ R (.slice (subA p17 x1.toNat n19 1) ((IntKind.i64.wrap (x1+x2)).toNat-x1.toNat) (n19-x1.toNat)) w)
theorem vc18.ok{x0:Option Addr}{x1 x2:Int}{x3:Bool}(h:vc18 x0 x1 x2 x3 w R ):Calls prog 156 #[.pointer x0,.int .i64 x1,.int .i64 x2,.bool x3] w (Ret R):=
 bodyE zN Tryz.func156 (h:=h)
def vc19(x0:Option Addr)(x1 x2:Int)(w:World)(R:VW):Prop:=
 ∀(w0:World),w0=w.drew->someA x0 fun a1=>∃(p2:Option Addr)(n3 n4:Nat),w0.cell? (a1.add 0)=some (.slice p2 n3 n4) /\ (64:Int) ≠ 0 /\ w0=w0 /\ 0<=IntKind.i64.wrap (x1.tdiv 64) /\ IntKind.i64.wrap (x1.tdiv 64)<(↑n3:Int) /\ someA p2 fun a5=>w0=w0 /\ ∃i6:Int,w0.cell? (a5.add (IntKind.i64.wrap (x1.tdiv 64)).toNat)=some (.int .u64 i6) /\ (64:Int) ≠ 0 /\ w0=w0 /\ 0<=x1.tmod 64 /\ w0=w0 /\ w0=w0 /\ 0<=IntKind.i64.wrap (x1.tdiv 64) /\ IntKind.i64.wrap (x1.tdiv 64)<(↑n3:Int) /\ someA p2 fun a7=>w0=w0 /\ WrC w0 (a7.add (IntKind.i64.wrap (x1.tdiv 64)).toNat) 1 /\ ∀(w8:World),w8=wr w0 (a7.add (IntKind.i64.wrap (x1.tdiv 64)).toNat) [.int .u64 (bits BinOp.xor IntKind.u64 i6 (shlV IntKind.u64 1 (x1.tmod 64)))]->someA x0 fun a9=>∃i10:Int,w8.cell? (a9.add 2)=some (.int .i64 i10) /\ someA x0 fun a11=>WrC w8 (a11.add 2) 1 /\ ∀(w12:World),w12=wr w8 (a11.add 2) [.int .i64 (IntKind.i64.wrap (i10+x2))]->R (.tuple #[]) w12
theorem vc19.ok{x0:Option Addr}{x1 x2:Int}(h:vc19 x0 x1 x2 w R ):Calls prog 161 #[.pointer x0,.int .i64 x1,.int .i64 x2] w (Ret R):=
 bodyE zN Tryz.func161 (h:=h)
def vc20(w:World)(R:VW):Prop:=
 ∃(p0:Option Nat)(w1:World),Sem.run prog (Instr.makeMap 48 none) w=.ok (.map p0) w1 /\ ∃(p2:Option Nat)(w3:World),Sem.run prog (Instr.makeMap 48 none) w1=.ok (.map p2) w3 /\ ∀(n4:Nat)(w5:World),n4=w3.heap.size->w5=w3.alloc (.cells #[.map p0,.map p2] 155)->R ((zP n4)) w5
theorem vc20.ok(h:vc20 w R ):Calls prog 164 #[] w (Ret R):=
 bodyE zN Tryz.func164 (h:=h)
def vc21(x0:Option Addr)(x1 x2 x3:Int)(w:World)(R:VW):Prop:=
 CS 155 #[.pointer x0,.int .i64 x1,.int .i64 x3] w fun v0 w1=>∃i2:Int,v0=.int .i64 i2 /\ ifB (i2 != 0) (R (.int .i64 i2) w1) (CS 155 #[.pointer x0,.int .i64 x2,.int .i64 x3] w1 fun v3 w4=>∃i5:Int,v3=.int .i64 i5 /\ ifB (i5 != 0) (R (.int .i64 i5) w4) (CS 156 #[.pointer x0,.int .i64 x2,.int .i64 x3,.bool false] w4 fun v6 w7=>∃(p8:Option Addr)(n9 n10:Nat),v6=.slice p8 n9 n10 /\ CS 156 #[.pointer x0,.int .i64 x1,.int .i64 x3,.bool true] w7 fun v11 w12=>∃(p13:Option Addr)(n14 n15:Nat),v11=.slice p13 n14 n15 /\ ∃(i16:Int)(w17:World),Sem.run prog (Builtin.copy_ #[73,73] 3 #[.slice p13 n14 n15,.slice p8 n9 n10]) w12=.ok (.int .i64 i16) w17 /\ R (.int .i64 i5) w17))
theorem vc21.ok{x0:Option Addr}{x1 x2 x3:Int}(h:vc21 x0 x1 x2 x3 w R ):Calls prog 170 #[.pointer x0,.int .i64 x1,.int .i64 x2,.int .i64 x3] w (Ret R):=
 bodyE zN Tryz.func170 (h:=h)
def vc22(x0:Option Addr)(x1 x2:Int)(w:World)(R:VW):Prop:=
 CS 155 #[.pointer x0,.int .i64 x1,.int .i64 x2] w fun v0 w1=>∃i2:Int,v0=.int .i64 i2 /\ ifB (i2 == 0) (CS 156 #[.pointer x0,.int .i64 x1,.int .i64 x2,.bool true] w1 fun v3 w4=>∃(p5:Option Addr)(n6 n7:Nat),v3=.slice p5 n6 n7 /\ ∃w8:World,Sem.run prog (Builtin.clear_ #[73] 0 #[.slice p5 n6 n7]) w4=.ok (.tuple #[]) w8 /\ R (.int .i64 i2) w8) (R (.int .i64 i2) w1)
theorem vc22.ok{x0:Option Addr}{x1 x2:Int}(h:vc22 x0 x1 x2 w R ):Calls prog 171 #[.pointer x0,.int .i64 x1,.int .i64 x2] w (Ret R):=
 bodyE zN Tryz.func171 (h:=h)
def vc23(x0:Option Addr)(x1:Int)(w:World)(R:VW):Prop:=
 ifB x0.isNone (R (.int .i64 11) w) (someA x0 fun a0=>∃p1:Option Addr,w.cell? (a0.add 2)=some (.pointer p1) /\ CS 223 #[.pointer p1,.int .i64 x1] w fun v2 w3=>∃b4:Bool,v2=.bool b4 /\ ifB (!b4) (R (.int .i64 12) w3) (someA x0 fun a5=>WrC w3 (a5.add 3) 1 /\ ∀(w6:World),w6=wr w3 (a5.add 3) [.int .i64 x1]->someA x0 fun a7=>CS 224 #[.pointer (some (a7.add 0)),.int .i64 x1] w6 fun v8 w9=>v8=.tuple #[] /\ R (.int .i64 0) w9))
theorem vc23.ok{x0:Option Addr}{x1:Int}(h:vc23 x0 x1 w R ):Calls prog 173 #[.pointer x0,.int .i64 x1] w (Ret R):=
 bodyE zN Tryz.func173 (h:=h)
def vc24(x0:Option Addr)(x1:Int)(w:World)(R:VW):Prop:=
 ifB x0.isNone (R (.int .i64 11) w) (ifB (decide (x1<0)) (R (.int .i64 12) w) (someA x0 fun a0=>∃i1:Int,w.cell? (a0.add 1)=some (.int .i64 i1) /\ ifB (decide (x1>=i1)) (R (.int .i64 12) w) (R (.int .i64 0) w)))
theorem vc24.ok{x0:Option Addr}{x1:Int}(h:vc24 x0 x1 w R ):Calls prog 176 #[.pointer x0,.int .i64 x1] w (Ret R):=
 bodyE zN Tryz.func176 (h:=h)
def vc25(x0:Option Addr)(x1:Int)(w:World)(R:VW):Prop:=
 CS 176 #[.pointer x0,.int .i64 x1] w fun v0 w1=>∃i2:Int,v0=.int .i64 i2 /\ ifB (i2 == 0) (someA x0 fun a3=>∃(p4:Option Addr)(n5 n6:Nat),w1.cell? (a3.add 0)=some (.slice p4 n5 n6) /\ (64:Int) ≠ 0 /\ 0<=IntKind.i64.wrap (x1.tdiv 64) /\ IntKind.i64.wrap (x1.tdiv 64)<(↑n5:Int) /\ someA p4 fun a7=>∃i8:Int,w1.cell? (a7.add (IntKind.i64.wrap (x1.tdiv 64)).toNat)=some (.int .u64 i8) /\ (64:Int) ≠ 0 /\ 0<=x1.tmod 64 /\ R (.bool (bits BinOp.and IntKind.u64 (shrV IntKind.u64 i8 (x1.tmod 64)) (1:Int) == 0)) w1) (R (.bool false) w1)
theorem vc25.ok{x0:Option Addr}{x1:Int}(h:vc25 x0 x1 w R ):Calls prog 177 #[.pointer x0,.int .i64 x1] w (Ret R):=
 bodyE zN Tryz.func177 (h:=h)
def va26:Ann:=⟨fun id=>cond (Nat.beq id 5) ⟨[(29,.int .i64 0)],([8,9,13]++rg 30 19)⟩ (LI.none),fun l=>none,fun i=>none⟩
def vc26(x0 x1:Option Addr)(x2 x3:Int)(w:World)(R:VW):Prop:=
 ifB x0.isNone (R (.tuple #[.slice none 0 0,.int .i64 11]) w) (ifB x1.isNone (R (.tuple #[.slice none 0 0,.int .i64 11]) w) (CS 239 #[.pointer x1,.int .i64 x2,.int .i64 x3] w fun v0 w1=>∃(p2:Option Addr)(n3 n4:Nat)(i5:Int),v0=.tuple #[.slice p2 n3 n4,.int .i64 i5] /\ ∃x6:Nat->Int->World->Prop,(∃n7:Nat,x6 n7 0 w1) /\ ∀(n8:Nat)(jv:Nat->Value)(i9:Int)(w10:World),x6 n8 i9 w10->ifB (decide (i9<(↑n3:Int))) (0<=i9 /\ i9<(↑n3:Int) /\ someA p2 fun a11=>∃(i12 i13:Int)(b14:Bool),CellsAt w10 (a11.add (i9.toNat*3)) [.int .i64 i12,.int .i64 i13,.bool b14] /\ ∀(n15:Nat)(w16:World),n15=w10.heap.size->w16=w10.alloc (.cells #[.int .i64 0,.int .i64 0,.bool false] 47)->WrC w16 (zA n15) 3 /\ ∀(w17:World),w17=wr w16 (zA n15) [.int .i64 i12,.int .i64 i13,.bool b14]->∀(w18:World),w18=w17.drew->∃i19:Int,w18.cell? ((zA n15).add 0)=some (.int .i64 i19) /\ CS 240 #[.pointer x0] w18 fun v20 w21=>∃i22:Int,v20=.int .i64 i22 /\ (∃i23:Int,w21.cell? ((zA n15).add 0)=some (.int .i64 i23) /\ Value.int .i64 i23=.int .i64 i19) /\ ifB (decide (i19>i22)) (Value.tuple #[]=.tuple #[] /\ Value.tuple #[]=.tuple #[] /\ w21=w21 /\ R (.tuple #[.slice none 0 0,.int .i64 4]) w21) (∃i24:Int,w21.cell? ((zA n15).add 1)=some (.int .i64 i24) /\ ∃i25:Int,w21.cell? ((zA n15).add 0)=some (.int .i64 i25) /\ CS 240 #[.pointer x0] w21 fun v26 w27=>∃i28:Int,v26=.int .i64 i28 /\ (∃i29:Int,w27.cell? ((zA n15).add 0)=some (.int .i64 i29) /\ Value.int .i64 i29=.int .i64 i25) /\ (∃i30:Int,w27.cell? ((zA n15).add 1)=some (.int .i64 i30) /\ Value.int .i64 i30=.int .i64 i24) /\ w27=w27 /\ ifB (decide (i24>IntKind.i64.wrap (i28-i25))) (R (.tuple #[.slice none 0 0,.int .i64 4]) w27) (∃n31:Nat,n31<n8 /\ x6 n31 (IntKind.i64.wrap (i9+1)) w27))) (R (.tuple #[.slice p2 n3 n4,.int .i64 i5]) w10)))
theorem vc26.ok{x0 x1:Option Addr}{x2 x3:Int}(h:vc26 x0 x1 x2 x3 w R ):Calls prog 189 #[.pointer x0,.pointer x1,.int .i64 x2,.int .i64 x3] w (Ret R):=
 bodyE va26 Tryz.func189 (h:=h)
def va27:Ann:=⟨fun id=>LI.none,fun l=>cond (Nat.beq l 0) (some ⟨[(4,.int .i64 0),(5,.int .i64 0)],(rg 6 20)⟩) (none),fun i=>none⟩
def vc27(x0a:Option Addr)(x0l x0c:Nat)(k0:Option Addr)(w:World)(R:VW):Prop:=
 ifB (decide (0<(↑x0l:Int))) ((0:Int)<=0 /\ 0<(↑x0l:Int) /\ someA x0a fun a0=>∃(i1 i2:Int)(b3:Bool),CellsAt w (a0.add 0) [.int .i64 i1,.int .i64 i2,.bool b3] /\ CS 191 #[.agg #[.int .i64 i1,.int .i64 i2,.bool b3],.int .i64 0,.pointer k0] w fun v4 w5=>v4=.tuple #[] /\ (0:Int)<=0 /\ 0<(↑x0l:Int) /\ someA x0a fun a6=>∃i7:Int,w5.cell? ((a6.add 0).add 1)=some (.int .i64 i7) /\ ∃x8:Nat->Int->Int->World->Prop,(∃n9:Nat,x8 n9 (IntKind.i64.wrap (0+1)) (IntKind.i64.wrap (0+i7)) w5) /\ ∀(n10:Nat)(jv:Nat->Value)(i11 i12:Int)(w13:World),x8 n10 i11 i12 w13->ifB (decide (i11<(↑x0l:Int))) (0<=i11 /\ i11<(↑x0l:Int) /\ someA x0a fun a14=>∃(i15 i16:Int)(b17:Bool),CellsAt w13 (a14.add (i11.toNat*3)) [.int .i64 i15,.int .i64 i16,.bool b17] /\ CS 191 #[.agg #[.int .i64 i15,.int .i64 i16,.bool b17],.int .i64 i12,.pointer k0] w13 fun v18 w19=>v18=.tuple #[] /\ 0<=i11 /\ i11<(↑x0l:Int) /\ someA x0a fun a20=>∃i21:Int,w19.cell? ((a20.add (i11.toNat*3)).add 1)=some (.int .i64 i21) /\ ∃n22:Nat,n22<n10 /\ x8 n22 (IntKind.i64.wrap (i11+1)) (IntKind.i64.wrap (i12+i21)) w19) (R (.tuple #[]) w13)) (R (.tuple #[]) w)
theorem vc27.ok{x0a:Option Addr}{x0l x0c:Nat}{k0:Option Addr}(h:vc27 x0a x0l x0c k0 w R ):Calls prog 190 #[.slice x0a x0l x0c,.func (Fn.func 191) #[] #[.pointer k0]] w (Ret R):=
 bodyE va27 Tryz.func190 (h:=h)
def va28:Ann:=⟨fun id=>LI.none,fun l=>cond (Nat.beq l 0) (some ⟨[(4,.int .i64 0),(5,.int .i64 0)],(rg 6 20)⟩) (none),fun i=>none⟩
def vc28(x0a:Option Addr)(x0l x0c:Nat)(k0 k1:Option Addr)(w:World)(R:VW):Prop:=
 ifB (decide (0<(↑x0l:Int))) ((0:Int)<=0 /\ 0<(↑x0l:Int) /\ someA x0a fun a0=>∃(i1 i2:Int)(b3:Bool),CellsAt w (a0.add 0) [.int .i64 i1,.int .i64 i2,.bool b3] /\ CS 192 #[.agg #[.int .i64 i1,.int .i64 i2,.bool b3],.int .i64 0,.pointer k0,.pointer k1] w fun v4 w5=>v4=.tuple #[] /\ (0:Int)<=0 /\ 0<(↑x0l:Int) /\ someA x0a fun a6=>∃i7:Int,w5.cell? ((a6.add 0).add 1)=some (.int .i64 i7) /\ ∃x8:Nat->Int->Int->World->Prop,(∃n9:Nat,x8 n9 (IntKind.i64.wrap (0+1)) (IntKind.i64.wrap (0+i7)) w5) /\ ∀(n10:Nat)(jv:Nat->Value)(i11 i12:Int)(w13:World),x8 n10 i11 i12 w13->ifB (decide (i11<(↑x0l:Int))) (0<=i11 /\ i11<(↑x0l:Int) /\ someA x0a fun a14=>∃(i15 i16:Int)(b17:Bool),CellsAt w13 (a14.add (i11.toNat*3)) [.int .i64 i15,.int .i64 i16,.bool b17] /\ CS 192 #[.agg #[.int .i64 i15,.int .i64 i16,.bool b17],.int .i64 i12,.pointer k0,.pointer k1] w13 fun v18 w19=>v18=.tuple #[] /\ 0<=i11 /\ i11<(↑x0l:Int) /\ someA x0a fun a20=>∃i21:Int,w19.cell? ((a20.add (i11.toNat*3)).add 1)=some (.int .i64 i21) /\ ∃n22:Nat,n22<n10 /\ x8 n22 (IntKind.i64.wrap (i11+1)) (IntKind.i64.wrap (i12+i21)) w19) (R (.tuple #[]) w13)) (R (.tuple #[]) w)
theorem vc28.ok{x0a:Option Addr}{x0l x0c:Nat}{k0 k1:Option Addr}(h:vc28 x0a x0l x0c k0 k1 w R ):Calls prog 190 #[.slice x0a x0l x0c,.func (Fn.func 192) #[] #[.pointer k0,.pointer k1]] w (Ret R):=
 bodyE va28 Tryz.func190 (h:=h)
def va29:Ann:=⟨fun id=>LI.none,fun l=>cond (Nat.beq l 0) (some ⟨[(4,.int .i64 0),(5,.int .i64 0)],(rg 6 20)⟩) (none),fun i=>none⟩
def vc29(x0a:Option Addr)(x0l x0c:Nat)(k0 k1:Option Addr)(w:World)(R:VW):Prop:=
 ifB (decide (0<(↑x0l:Int))) ((0:Int)<=0 /\ 0<(↑x0l:Int) /\ someA x0a fun a0=>∃(i1 i2:Int)(b3:Bool),CellsAt w (a0.add 0) [.int .i64 i1,.int .i64 i2,.bool b3] /\ CS 195 #[.agg #[.int .i64 i1,.int .i64 i2,.bool b3],.int .i64 0,.pointer k0,.pointer k1] w fun v4 w5=>v4=.tuple #[] /\ (0:Int)<=0 /\ 0<(↑x0l:Int) /\ someA x0a fun a6=>∃i7:Int,w5.cell? ((a6.add 0).add 1)=some (.int .i64 i7) /\ ∃x8:Nat->Int->Int->World->Prop,(∃n9:Nat,x8 n9 (IntKind.i64.wrap (0+1)) (IntKind.i64.wrap (0+i7)) w5) /\ ∀(n10:Nat)(jv:Nat->Value)(i11 i12:Int)(w13:World),x8 n10 i11 i12 w13->ifB (decide (i11<(↑x0l:Int))) (0<=i11 /\ i11<(↑x0l:Int) /\ someA x0a fun a14=>∃(i15 i16:Int)(b17:Bool),CellsAt w13 (a14.add (i11.toNat*3)) [.int .i64 i15,.int .i64 i16,.bool b17] /\ CS 195 #[.agg #[.int .i64 i15,.int .i64 i16,.bool b17],.int .i64 i12,.pointer k0,.pointer k1] w13 fun v18 w19=>v18=.tuple #[] /\ 0<=i11 /\ i11<(↑x0l:Int) /\ someA x0a fun a20=>∃i21:Int,w19.cell? ((a20.add (i11.toNat*3)).add 1)=some (.int .i64 i21) /\ ∃n22:Nat,n22<n10 /\ x8 n22 (IntKind.i64.wrap (i11+1)) (IntKind.i64.wrap (i12+i21)) w19) (R (.tuple #[]) w13)) (R (.tuple #[]) w)
theorem vc29.ok{x0a:Option Addr}{x0l x0c:Nat}{k0 k1:Option Addr}(h:vc29 x0a x0l x0c k0 k1 w R ):Calls prog 190 #[.slice x0a x0l x0c,.func (Fn.func 195) #[] #[.pointer k0,.pointer k1]] w (Ret R):=
 bodyE va29 Tryz.func190 (h:=h)
def vc30(x0_0 x0_1:Int)(x0_2:Bool)(x1:Int)(c0:Option Addr)(w:World)(R:VW):Prop:=
 ∀(n0:Nat)(w1:World),n0=w.heap.size->w1=w.alloc (.cells #[.int .i64 x0_0,.int .i64 x0_1,.bool x0_2] 47)->someA c0 fun a2=>∃p3:Option Addr,w1.cell? a2=some (.pointer p3) /\ ∃i4:Int,w1.cell? ((zA n0).add 0)=some (.int .i64 i4) /\ ∃i5:Int,w1.cell? ((zA n0).add 1)=some (.int .i64 i5) /\ CS 171 #[.pointer p3,.int .i64 i4,.int .i64 i5] w1 fun v6 w7=>∃i8:Int,v6=.int .i64 i8 /\ R (.tuple #[]) w7
theorem vc30.ok{x0_0 x0_1:Int}{x0_2:Bool}{x1:Int}{c0:Option Addr}(h:vc30 x0_0 x0_1 x0_2 x1 c0 w R ):Calls prog 191 #[.agg #[.int .i64 x0_0,.int .i64 x0_1,.bool x0_2],.int .i64 x1,.pointer c0] w (Ret R):=
 bodyE zN Tryz.func191 (h:=h)
def vc31(x0_0 x0_1:Int)(x0_2:Bool)(x1:Int)(c0 c1:Option Addr)(w:World)(R:VW):Prop:=
 ∀(n0:Nat)(w1:World),n0=w.heap.size->w1=w.alloc (.cells #[.int .i64 x0_0,.int .i64 x0_1,.bool x0_2] 47)->someA c0 fun a2=>∃p3:Option Addr,w1.cell? a2=some (.pointer p3) /\ ∃i4:Int,w1.cell? ((zA n0).add 0)=some (.int .i64 i4) /\ ∃i5:Int,w1.cell? ((zA n0).add 1)=some (.int .i64 i5) /\ CS 106 #[.pointer p3,.int .i64 i4,.int .i64 i5] w1 fun v6 w7=>∃(s8:ByteArray)(i9:Int),v6=.tuple #[.string s8,.int .i64 i9] /\ CS 193 #[.pointer c1,.string s8] w7 fun v10 w11=>∃(i12:Int)(v13:Value),v10=.tuple #[.int .i64 i12,v13] /\ R (.tuple #[]) w11
theorem vc31.ok{x0_0 x0_1:Int}{x0_2:Bool}{x1:Int}{c0 c1:Option Addr}(h:vc31 x0_0 x0_1 x0_2 x1 c0 c1 w R ):Calls prog 192 #[.agg #[.int .i64 x0_0,.int .i64 x0_1,.bool x0_2],.int .i64 x1,.pointer c0,.pointer c1] w (Ret R):=
 bodyE zN Tryz.func192 (h:=h)
def vc32(x0:Option Addr)(x1:ByteArray)(w:World)(R:VW):Prop:=
 CS 241 #[.pointer x0] w fun v0 w1=>v0=.tuple #[] /\ someA x0 fun a2=>∃(p3:Option Addr)(n4 n5:Nat),w1.cell? (a2.add 1)=some (.slice p3 n4 n5) /\ ∃(p6:Option Addr)(n7 n8:Nat)(w9:World),Sem.run prog (Builtin.append_ #[73,9] 73 #[.slice p3 n4 n5,.string x1]) w1=.ok (.slice p6 n7 n8) w9 /\ someA x0 fun a10=>WrC w9 (a10.add 1) 1 /\ ∀(w11:World),w11=wr w9 (a10.add 1) [.slice p6 n7 n8]->R (.tuple #[.int .i64 (↑x1.size:Int),.nilIface]) w11
theorem vc32.ok{x0:Option Addr}{x1:ByteArray}(h:vc32 x0 x1 w R ):Calls prog 193 #[.pointer x0,.string x1] w (Ret R):=
 bodyE zN Tryz.func193 (h:=h)
def vc33(x0:Option Addr)(w:World)(R:VW):Prop:=
 ∀(w0:World),w0=w.drew->someA x0 fun a1=>∃(p2:Option Addr)(n3 n4:Nat),w0.cell? (a1.add 1)=some (.slice p2 n3 n4) /\ someA x0 fun a5=>∃(p6:Option Addr)(n7 n8:Nat),w0.cell? (a5.add 1)=some (.slice p6 n7 n8) /\ w0=w0 /\ ∃(p9:Option Addr)(w10:World),Sem.run prog (Builtin.unsafeSliceData_ #[73] 281 #[.slice p2 n3 n4]) w0=.ok (.pointer p9) w10 /\ (w10=w10 /\ Value.int .i64 (↑n7:Int)=.int .i64 (↑n7:Int)) /\ (∃(p11:Option Addr)(n12 n13:Nat),w10.cell? (a5.add 1)=some (.slice p11 n12 n13) /\ Value.slice p11 n12 n13=.slice p6 n7 n8) /\ ∃(s14:ByteArray)(w15:World),Sem.run prog (Builtin.unsafeString_ #[281,3] 9 #[.pointer p9,.int .i64 (↑n7:Int)]) w10=.ok (.string s14) w15 /\ R (.string s14) w15
theorem vc33.ok{x0:Option Addr}(h:vc33 x0 w R ):Calls prog 194 #[.pointer x0] w (Ret R):=
 bodyE zN Tryz.func194 (h:=h)
def vc34(x0_0 x0_1:Int)(x0_2:Bool)(x1:Int)(c0 c1:Option Addr)(w:World)(R:VW):Prop:=
 ∀(n0:Nat)(w1:World),n0=w.heap.size->w1=w.alloc (.cells #[.int .i64 x0_0,.int .i64 x0_1,.bool x0_2] 47)->∀(w2:World),w2=w1.drew->someA c0 fun a3=>∃p4:Option Addr,w2.cell? a3=some (.pointer p4) /\ ∃i5:Int,w2.cell? ((zA n0).add 0)=some (.int .i64 i5) /\ someA c1 fun a6=>∃s7:ByteArray,w2.cell? a6=some (.string s7) /\ ∃i8:Int,w2.cell? ((zA n0).add 1)=some (.int .i64 i8) /\ 0<=x1 /\ x1<=IntKind.i64.wrap (x1+i8) /\ IntKind.i64.wrap (x1+i8)<=(↑s7.size:Int) /\ w2=w2 /\ CS 196 #[.pointer p4,.int .i64 i5,.string (s7.extract x1.toNat (IntKind.i64.wrap (x1+i8)).toNat)] w2 fun v9 w10=>∃i11:Int,v9=.int .i64 i11 /\ R (.tuple #[]) w10
theorem vc34.ok{x0_0 x0_1:Int}{x0_2:Bool}{x1:Int}{c0 c1:Option Addr}(h:vc34 x0_0 x0_1 x0_2 x1 c0 c1 w R ):Calls prog 195 #[.agg #[.int .i64 x0_0,.int .i64 x0_1,.bool x0_2],.int .i64 x1,.pointer c0,.pointer c1] w (Ret R):=
 bodyE zN Tryz.func195 (h:=h)
def vc35(x0:Option Addr)(x1:Int)(x2:ByteArray)(w:World)(R:VW):Prop:=
 CS 155 #[.pointer x0,.int .i64 x1,.int .i64 (↑x2.size:Int)] w fun v0 w1=>∃i2:Int,v0=.int .i64 i2 /\ ifB (i2 == 0) (CS 156 #[.pointer x0,.int .i64 x1,.int .i64 (↑x2.size:Int),.bool true] w1 fun v3 w4=>∃(p5:Option Addr)(n6 n7:Nat),v3=.slice p5 n6 n7 /\ ∃(i8:Int)(w9:World),Sem.run prog (Builtin.copy_ #[73,9] 3 #[.slice p5 n6 n7,.string x2]) w4=.ok (.int .i64 i8) w9 /\ R (.int .i64 i2) w9) (R (.int .i64 i2) w1)
theorem vc35.ok{x0:Option Addr}{x1:Int}{x2:ByteArray}(h:vc35 x0 x1 x2 w R ):Calls prog 196 #[.pointer x0,.int .i64 x1,.string x2] w (Ret R):=
 bodyE zN Tryz.func196 (h:=h)
def vc36(x0:Option Addr)(x1:Int)(w:World)(R:VW):Prop:=
 ifB (!x0.isNone) (someA x0 fun a0=>∃p1:Option Addr,w.cell? (a0.add 6)=some (.pointer p1) /\ CS 177 #[.pointer p1,.int .i64 x1] w fun v2 w3=>∃b4:Bool,v2=.bool b4 /\ R (.bool b4) w3) (R (.bool false) w)
theorem vc36.ok{x0:Option Addr}{x1:Int}(h:vc36 x0 x1 w R ):Calls prog 209 #[.pointer x0,.int .i64 x1] w (Ret R):=
 bodyE zN Tryz.func209 (h:=h)
def vc37(x0:Int)(w:World)(R:VW):Prop:=
 ifB (decide (x0>=0)) (R (.bool (decide (x0<24))) w) (R (.bool false) w)
theorem vc37.ok{x0:Int}(h:vc37 x0 w R ):Calls prog 210 #[.int .i64 x0] w (Ret R):=
 bodyE zN Tryz.func210 (h:=h)
def vc38(x0:Int)(w:World)(R:VW):Prop:=
 CS 210 #[.int .i64 x0] w fun v0 w1=>∃b2:Bool,v0=.bool b2 /\ ifB (!b2) (R (.int .i64 0) w1) (∃(i3:Int)(w4:World),Sem.run prog (Builtin.max_ #[3,3] 3 #[.int .i64 1,.int .i64 (IntKind.i64.wrap (IntKind.i64.wrap (x0-8)+1))]) w1=.ok (.int .i64 i3) w4 /\ R (.int .i64 i3) w4)
theorem vc38.ok{x0:Int}(h:vc38 x0 w R ):Calls prog 211 #[.int .i64 x0] w (Ret R):=
 bodyE zN Tryz.func211 (h:=h)
def vc39(x0:Int)(w:World)(R:VW):Prop:=
 CS 210 #[.int .i64 x0] w fun v0 w1=>∃b2:Bool,v0=.bool b2 /\ ifB (!b2) (R (.int .i64 0) w1) (ifB (decide (x0>=8)) (R (.int .i64 0) w1) (CS 52 #[.int .i64 x0] w1 fun v3 w4=>∃i5:Int,v3=.int .i64 i5 /\ i5 ≠ 0 /\ R (.int .i64 (IntKind.i64.wrap (Int.tdiv 512 i5))) w4))
theorem vc39.ok{x0:Int}(h:vc39 x0 w R ):Calls prog 213 #[.int .i64 x0] w (Ret R):=
 bodyE zN Tryz.func213 (h:=h)
def vc40(x0:Option Addr)(x1:Int)(w:World)(R:VW):Prop:=
 CS 176 #[.pointer x0,.int .i64 x1] w fun v0 w1=>∃i2:Int,v0=.int .i64 i2 /\ ifB (i2 == 0) (CS 177 #[.pointer x0,.int .i64 x1] w1 fun v3 w4=>∃b5:Bool,v3=.bool b5 /\ ifB b5 (R (.int .i64 7) w4) (ifB (i2 == 0) (CS 161 #[.pointer x0,.int .i64 x1,.int .i64 (-1)] w4 fun v6 w7=>v6=.tuple #[] /\ R (.int .i64 i2) w7) (R (.int .i64 i2) w4))) (ifB (i2 == 0) (CS 161 #[.pointer x0,.int .i64 x1,.int .i64 (-1)] w1 fun v8 w9=>v8=.tuple #[] /\ R (.int .i64 i2) w9) (R (.int .i64 i2) w1))
theorem vc40.ok{x0:Option Addr}{x1:Int}(h:vc40 x0 x1 w R ):Calls prog 220 #[.pointer x0,.int .i64 x1] w (Ret R):=
 bodyE zN Tryz.func220 (h:=h)
def vc41(x0:Option Addr)(x1:Int)(w:World)(R:VW):Prop:=
 ifB x0.isNone (R (.int .i64 (-1)) w) (someA x0 fun a0=>∃p1:Option Nat,w.cell? (a0.add 1)=some (.map p1) /\ CS 92 #[.map p1,.int .i64 x1] w fun v2 w3=>∃i4:Int,v2=.int .i64 i4 /\ R (.int .i64 i4) w3)
theorem vc41.ok{x0:Option Addr}{x1:Int}(h:vc41 x0 x1 w R ):Calls prog 221 #[.pointer x0,.int .i64 x1] w (Ret R):=
 bodyE zN Tryz.func221 (h:=h)
def vc42(x0:Option Addr)(x1 x2:Int)(w:World)(R:VW):Prop:=
 ∀(w0:World),w0=w.drew->someA x0 fun a1=>∃p2:Option Nat,w0.cell? (a1.add 0)=some (.map p2) /\ someA x0 fun a3=>∃p4:Option Nat,w0.cell? (a3.add 1)=some (.map p4) /\ ∃(i5 i6:Int)(w7:World),Sem.run prog (Instr.mapEntry 48 (.map p2) (.int .i64 x1)) w0=.ok (.tuple #[.int .i64 i5,.int .i64 i6]) w7 /\ ∃w8:World,Sem.run prog (Instr.entryStore 48 (.map p2) (.int .i64 i6) (.int .i64 x2)) w7=.ok () w8 /\ ∃(i9 i10:Int)(w11:World),Sem.run prog (Instr.mapEntry 48 (.map p4) (.int .i64 x2)) w8=.ok (.tuple #[.int .i64 i9,.int .i64 i10]) w11 /\ ∃w12:World,Sem.run prog (Instr.entryStore 48 (.map p4) (.int .i64 i10) (.int .i64 x1)) w11=.ok () w12 /\ R (.tuple #[]) w12
theorem vc42.ok{x0:Option Addr}{x1 x2:Int}(h:vc42 x0 x1 x2 w R ):Calls prog 222 #[.pointer x0,.int .i64 x1,.int .i64 x2] w (Ret R):=
 bodyE zN Tryz.func222 (h:=h)
def vc43(x0:Option Addr)(x1:Int)(w:World)(R:VW):Prop:=
 ifB (decide (x1>=0)) ((512:Int) ≠ 0 /\ ifB (x1.tmod (512:Int) == 0) (CS 240 #[.pointer x0] w fun v0 w1=>∃i2:Int,v0=.int .i64 i2 /\ R (.bool (decide (x1<=IntKind.i64.wrap (i2-512)))) w1) (R (.bool false) w)) (R (.bool false) w)
theorem vc43.ok{x0:Option Addr}{x1:Int}(h:vc43 x0 x1 w R ):Calls prog 223 #[.pointer x0,.int .i64 x1] w (Ret R):=
 bodyE zN Tryz.func223 (h:=h)
def vc44(x0:Option Addr)(x1:Int)(w:World)(R:VW):Prop:=
 someA x0 fun a0=>∃p1:Option Addr,w.cell? (a0.add 0)=some (.pointer p1) /\ CS 247 #[.pointer p1,.int .i64 x1] w fun v2 w3=>∃i4:Int,v2=.int .i64 i4 /\ someA x0 fun a5=>∃p6:Option Addr,w3.cell? (a5.add 1)=some (.pointer p6) /\ CS 247 #[.pointer p6,.int .i64 x1] w3 fun v7 w8=>∃i9:Int,v7=.int .i64 i9 /\ R (.tuple #[]) w8
theorem vc44.ok{x0:Option Addr}{x1:Int}(h:vc44 x0 x1 w R ):Calls prog 224 #[.pointer x0,.int .i64 x1] w (Ret R):=
 bodyE zN Tryz.func224 (h:=h)
def va45:Ann:=⟨fun id=>LI.none,fun l=>cond (Nat.beq l 0) (some ⟨[],([2,3,4,5]++rg 8 62)⟩) (none),fun i=>none⟩
def vc45(x0:Option Addr)(w:World)(R:VW):Prop:=
 ifB x0.isNone (R (.tuple #[.int .i64 0,.int .i64 11]) w) (someA x0 fun a0=>∃p1:Option Addr,w.cell? ((a0.add 0).add 0)=some (.pointer p1) /\ CS 250 #[.pointer p1] w fun v2 w3=>∃b4:Bool,v2=.bool b4 /\ ifB (!b4) (someA x0 fun a5=>∃p6:Option Addr,w3.cell? ((a5.add 0).add 0)=some (.pointer p6) /\ CS 251 #[.pointer p6] w3 fun v7 w8=>∃i9 i10:Int,v7=.tuple #[.int .i64 i9,.int .i64 i10] /\ ifB (i10 != 0) (R (.tuple #[.int .i64 0,.int .i64 i10]) w8) (someA x0 fun a11=>∃p12:Option Addr,w8.cell? (a11.add 6)=some (.pointer p12) /\ CS 220 #[.pointer p12,.int .i64 i9] w8 fun v13 w14=>∃i15:Int,v13=.int .i64 i15 /\ R (.tuple #[.int .i64 i9,.int .i64 i15]) w14)) (someA x0 fun a16=>CS 252 #[.pointer (some (a16.add 0))] w3 fun v17 w18=>∃b19:Bool,v17=.bool b19 /\ ifB b19 (∃x20:Nat->World->Prop,(∃n21:Nat,x20 n21 w18) /\ ∀(n22:Nat)(jv:Nat->Value)(w23:World),x20 n22 w23->someA x0 fun a24=>∃p25:Option Addr,w23.cell? ((a24.add 0).add 0)=some (.pointer p25) /\ CS 250 #[.pointer p25] w23 fun v26 w27=>∃b28:Bool,v26=.bool b28 /\ ifB (!b28) (someA x0 fun a29=>∃p30:Option Addr,w27.cell? ((a29.add 0).add 0)=some (.pointer p30) /\ CS 251 #[.pointer p30] w27 fun v31 w32=>∃i33 i34:Int,v31=.tuple #[.int .i64 i33,.int .i64 i34] /\ ifB (i34 != 0) (R (.tuple #[.int .i64 0,.int .i64 i34]) w32) (someA x0 fun a35=>∃p36:Option Addr,w32.cell? (a35.add 6)=some (.pointer p36) /\ CS 220 #[.pointer p36,.int .i64 i33] w32 fun v37 w38=>∃i39:Int,v37=.int .i64 i39 /\ R (.tuple #[.int .i64 i33,.int .i64 i39]) w38)) (someA x0 fun a40=>CS 252 #[.pointer (some (a40.add 0))] w27 fun v41 w42=>∃b43:Bool,v41=.bool b43 /\ ifB b43 (∃n44:Nat,n44<n22 /\ x20 n44 w42) (∀(w45:World),w45=w42.drew->someA x0 fun a46=>∃i47:Int,w45.cell? (a46.add 5)=some (.int .i64 i47) /\ someA x0 fun a48=>∃p49:Option Addr,w45.cell? (a48.add 6)=some (.pointer p49) /\ CS 253 #[.pointer p49] w45 fun v50 w51=>∃i52:Int,v50=.int .i64 i52 /\ (∃i53:Int,w51.cell? (a46.add 5)=some (.int .i64 i53) /\ Value.int .i64 i53=.int .i64 i47) /\ ifB (i47 == i52) (R (.tuple #[.int .i64 0,.int .i64 10]) w51) (someA x0 fun a54=>∃i55:Int,w51.cell? (a54.add 5)=some (.int .i64 i55) /\ someA x0 fun a56=>WrC w51 (a56.add 5) 1 /\ ∀(w57:World),w57=wr w51 (a56.add 5) [.int .i64 (IntKind.i64.wrap (i55+1))]->∀(w58:World),w58=w57.drew->someA x0 fun a59=>∃i60:Int,w58.cell? (a59.add 5)=some (.int .i64 i60) /\ someA x0 fun a61=>∃p62:Option Addr,w58.cell? (a61.add 6)=some (.pointer p62) /\ someA x0 fun a63=>∃i64:Int,w58.cell? (a63.add 5)=some (.int .i64 i64) /\ CS 220 #[.pointer p62,.int .i64 (IntKind.i64.wrap (i64-1))] w58 fun v65 w66=>∃i67:Int,v65=.int .i64 i67 /\ Value.int .i64 (IntKind.i64.wrap (i60-1))=.int .i64 (IntKind.i64.wrap (i60-1)) /\ (∃i68:Int,w66.cell? (a59.add 5)=some (.int .i64 i68) /\ Value.int .i64 i68=.int .i64 i60) /\ R (.tuple #[.int .i64 (IntKind.i64.wrap (i60-1)),.int .i64 i67]) w66)))) (∀(w69:World),w69=w18.drew->someA x0 fun a70=>∃i71:Int,w69.cell? (a70.add 5)=some (.int .i64 i71) /\ someA x0 fun a72=>∃p73:Option Addr,w69.cell? (a72.add 6)=some (.pointer p73) /\ CS 253 #[.pointer p73] w69 fun v74 w75=>∃i76:Int,v74=.int .i64 i76 /\ (∃i77:Int,w75.cell? (a70.add 5)=some (.int .i64 i77) /\ Value.int .i64 i77=.int .i64 i71) /\ ifB (i71 == i76) (R (.tuple #[.int .i64 0,.int .i64 10]) w75) (someA x0 fun a78=>∃i79:Int,w75.cell? (a78.add 5)=some (.int .i64 i79) /\ someA x0 fun a80=>WrC w75 (a80.add 5) 1 /\ ∀(w81:World),w81=wr w75 (a80.add 5) [.int .i64 (IntKind.i64.wrap (i79+1))]->∀(w82:World),w82=w81.drew->someA x0 fun a83=>∃i84:Int,w82.cell? (a83.add 5)=some (.int .i64 i84) /\ someA x0 fun a85=>∃p86:Option Addr,w82.cell? (a85.add 6)=some (.pointer p86) /\ someA x0 fun a87=>∃i88:Int,w82.cell? (a87.add 5)=some (.int .i64 i88) /\ CS 220 #[.pointer p86,.int .i64 (IntKind.i64.wrap (i88-1))] w82 fun v89 w90=>∃i91:Int,v89=.int .i64 i91 /\ Value.int .i64 (IntKind.i64.wrap (i84-1))=.int .i64 (IntKind.i64.wrap (i84-1)) /\ (∃i92:Int,w90.cell? (a83.add 5)=some (.int .i64 i92) /\ Value.int .i64 i92=.int .i64 i84) /\ R (.tuple #[.int .i64 (IntKind.i64.wrap (i84-1)),.int .i64 i91]) w90))))
theorem vc45.ok{x0:Option Addr}(h:vc45 x0 w R ):Calls prog 231 #[.pointer x0] w (Ret R):=
 bodyE va45 Tryz.func231 (h:=h)
def vc46(x0:Option Addr)(w:World)(R:VW):Prop:=
 ifB (!x0.isNone) (someA x0 fun a0=>∃p1:Option Addr,w.cell? (a0.add 6)=some (.pointer p1) /\ CS 108 #[.pointer p1] w fun v2 w3=>∃i4:Int,v2=.int .i64 i4 /\ R (.bool (i4 == 0)) w3) (R (.bool false) w)
theorem vc46.ok{x0:Option Addr}(h:vc46 x0 w R ):Calls prog 232 #[.pointer x0] w (Ret R):=
 bodyE zN Tryz.func232 (h:=h)
def vc47(x0:Option Addr)(x1 x2:Int)(w:World)(R:VW):Prop:=
 CS 213 #[.int .i64 x2] w fun v0 w1=>∃i2:Int,v0=.int .i64 i2 /\ ifB x0.isNone (R (.tuple #[.pointer none,.int .i64 11]) w1) (ifB (i2 == 0) (R (.tuple #[.pointer none,.int .i64 12]) w1) (CS 223 #[.pointer x0,.int .i64 x1] w1 fun v3 w4=>∃b5:Bool,v3=.bool b5 /\ ifB (!b5) (R (.tuple #[.pointer none,.int .i64 12]) w4) (CS 152 #[.int .i64 x2] w4 fun v6 w7=>∃i8:Int,v6=.int .i64 i8 /\ CS 256 #[.pointer x0,.int .i64 x1,.int .i64 i8,.int .i64 i2] w7 fun v9 w10=>∃(p11:Option Addr)(i12:Int),v9=.tuple #[.pointer p11,.int .i64 i12] /\ CS 152 #[.int .i64 x2] w10 fun v13 w14=>∃i15:Int,v13=.int .i64 i15 /\ CS 256 #[.pointer x0,.int .i64 x1,.int .i64 i15,.int .i64 i2] w14 fun v16 w17=>∃(p18:Option Addr)(i19:Int),v16=.tuple #[.pointer p18,.int .i64 i19] /\ CS 107 #[.int .i64 i2] w17 fun v20 w21=>∃(p22:Option Addr)(i23:Int),v20=.tuple #[.pointer p22,.int .i64 i23] /\ ∀(n24:Nat)(w25:World),n24=w21.heap.size->w25=w21.alloc (.cells #[.pointer p11,.pointer p18,.pointer x0,.int .i64 x1,.int .i64 x2,.int .i64 0,.pointer p22] 273)->R (.tuple #[zP n24,.int .i64 i23]) w25)))
theorem vc47.ok{x0:Option Addr}{x1 x2:Int}(h:vc47 x0 x1 x2 w R ):Calls prog 234 #[.pointer x0,.int .i64 x1,.int .i64 x2] w (Ret R):=
 bodyE zN Tryz.func234 (h:=h)
def vc48(x0:Option Addr)(x1:Int)(w:World)(R:VW):Prop:=
 ifB x0.isNone (R (.int .i64 11) w) (someA x0 fun a0=>∃p1:Option Addr,w.cell? (a0.add 6)=some (.pointer p1) /\ CS 122 #[.pointer p1,.int .i64 x1] w fun v2 w3=>∃i4:Int,v2=.int .i64 i4 /\ ifB (i4 != 0) (R (.int .i64 i4) w3) (someA x0 fun a5=>∃i6:Int,w3.cell? (a5.add 4)=some (.int .i64 i6) /\ CS 152 #[.int .i64 i6] w3 fun v7 w8=>∃i9:Int,v7=.int .i64 i9 /\ ∀(w10:World),w10=w8.drew->someA x0 fun a11=>∃p12:Option Addr,w10.cell? (a11.add 2)=some (.pointer p12) /\ someA x0 fun a13=>∃i14:Int,w10.cell? (a13.add 3)=some (.int .i64 i14) /\ CS 171 #[.pointer p12,.int .i64 (IntKind.i64.wrap (i14+IntKind.i64.wrap (x1*i9))),.int .i64 i9] w10 fun v15 w16=>∃i17:Int,v15=.int .i64 i17 /\ ifB (i17 != 0) (R (.int .i64 i17) w16) (someA x0 fun a18=>∃p19:Option Addr,w16.cell? ((a18.add 0).add 1)=some (.pointer p19) /\ CS 257 #[.pointer p19,.int .i64 x1] w16 fun v20 w21=>∃i22:Int,v20=.int .i64 i22 /\ R (.int .i64 i22) w21)))
theorem vc48.ok{x0:Option Addr}{x1:Int}(h:vc48 x0 x1 w R ):Calls prog 237 #[.pointer x0,.int .i64 x1] w (Ret R):=
 bodyE zN Tryz.func237 (h:=h)
def vc49(x0:Option Addr)(w:World)(R:VW):Prop:=
 ifB x0.isNone (R (.int .i64 0) w) (∀(w0:World),w0=w.drew->someA x0 fun a1=>∃p2:Option Addr,w0.cell? (a1.add 6)=some (.pointer p2) /\ someA x0 fun a3=>∃p4:Option Addr,w0.cell? (a3.add 6)=some (.pointer p4) /\ CS 253 #[.pointer p2] w0 fun v5 w6=>∃i7:Int,v5=.int .i64 i7 /\ (∃p8:Option Addr,w6.cell? (a3.add 6)=some (.pointer p8) /\ Value.pointer p8=.pointer p4) /\ CS 108 #[.pointer p4] w6 fun v9 w10=>∃i11:Int,v9=.int .i64 i11 /\ R (.int .i64 (IntKind.i64.wrap (i7-i11))) w10)
theorem vc49.ok{x0:Option Addr}(h:vc49 x0 w R ):Calls prog 238 #[.pointer x0] w (Ret R):=
 bodyE zN Tryz.func238 (h:=h)
def va50:Ann:=⟨fun id=>cond (Nat.beq id 5) ⟨[(1,.int .i64 0),(2,.int .i64 0),(6,.slice none 0 0)],(rg 7 6++rg 21 36)⟩ (LI.none),fun l=>none,fun i=>none⟩
def vc50(x0:Option Addr)(x1 x2:Int)(w:World)(R:VW):Prop:=
 ifB x0.isNone (R (.tuple #[.slice none 0 0,.int .i64 11]) w) (CS 258 #[.int .i64 x1,.int .i64 x2] w fun v0 w1=>∃b2:Bool,v0=.bool b2 /\ ifB (!b2) (R (.tuple #[.slice none 0 0,.int .i64 4]) w1) (∃x3:Nat->Int->Int->Option Addr->Nat->Nat->World->Prop,(∃n4:Nat,x3 n4 x1 x2 none 0 0 w1) /\ ∀(n5:Nat)(jv:Nat->Value)(i6 i7:Int)(p8:Option Addr)(n9 n10:Nat)(w11:World),x3 n5 i6 i7 p8 n9 n10 w11->ifB (decide (i7>0)) (CS 259 #[.int .i64 i6] w11 fun v12 w13=>∃(n14 n15:Nat)(i16:Int),v12=.tuple #[.complex FloatKind.f64 n14 n15,.int .i64 i16] /\ ∃(n17:Nat)(w18:World),Sem.run prog (Builtin.real_ #[161] 220 #[.complex FloatKind.f64 n14 n15]) w13=.ok (.float FloatKind.f64 n17) w18 /\ ∃(i19:Int)(w20:World),Sem.run prog (convert 220 3 (.float FloatKind.f64 n17)) w18=.ok (.int .i64 i19) w20 /\ CS 48 #[.pointer x0,.int .i64 i19] w20 fun v21 w22=>∃i23:Int,v21=.int .i64 i23 /\ ifB (decide (i23<0)) (R (.tuple #[.slice none 0 0,.int .i64 4]) w22) (∃(n24:Nat)(w25:World),Sem.run prog (Builtin.imag_ #[161] 220 #[.complex FloatKind.f64 n14 n15]) w22=.ok (.float FloatKind.f64 n24) w25 /\ ∃(i26:Int)(w27:World),Sem.run prog (convert 220 3 (.float FloatKind.f64 n24)) w25=.ok (.int .i64 i26) w27 /\ ∃(i28:Int)(w29:World),Sem.run prog (Builtin.min_ #[3,3] 3 #[.int .i64 i7,.int .i64 (IntKind.i64.wrap (512-i26))]) w27=.ok (.int .i64 i28) w29 /\ ∀(n30:Nat)(w31:World),n30=w29.heap.size->w31=w29.alloc (.cells #[.int .i64 (IntKind.i64.wrap (IntKind.i64.wrap (i23*512)+i26)),.int .i64 i28,.bool false] 47)->∃(p32:Option Addr)(n33 n34:Nat)(w35:World),Sem.run prog (Builtin.append_ #[44,44] 44 #[.slice p8 n9 n10,.slice (some (zA n30)) 1 1]) w31=.ok (.slice p32 n33 n34) w35 /\ ∃n36:Nat,n36<n5 /\ x3 n36 (IntKind.i64.wrap (i6+i28)) (IntKind.i64.wrap (i7-i28)) p32 n33 n34 w35)) (R (.tuple #[.slice p8 n9 n10,.int .i64 0]) w11)))
theorem vc50.ok{x0:Option Addr}{x1 x2:Int}(h:vc50 x0 x1 x2 w R ):Calls prog 239 #[.pointer x0,.int .i64 x1,.int .i64 x2] w (Ret R):=
 bodyE va50 Tryz.func239 (h:=h)
def vc51(x0:Option Addr)(w:World)(R:VW):Prop:=
 ifB x0.isNone (R (.int .i64 0) w) (someA x0 fun a0=>∃(p1:Option Addr)(n2 n3:Nat),w.cell? (a0.add 0)=some (.slice p1 n2 n3) /\ R (.int .i64 (↑n2:Int)) w)
theorem vc51.ok{x0:Option Addr}(h:vc51 x0 w R ):Calls prog 240 #[.pointer x0] w (Ret R):=
 bodyE zN Tryz.func240 (h:=h)
def vc52(x0:Addr)(w:World)(R:VW):Prop:=
 ∃p0:Option Addr,w.cell? (x0.add 0)=some (.pointer p0) /\ ifB p0.isNone (∃(p1:Option Addr)(w2:World),Sem.run prog (convert 243 304 (.pointer (some x0))) w=.ok (.pointer p1) w2 /\ ∃(p3:Option Addr)(w4:World),Sem.run prog (callFunc 260 #[.pointer p1]) w2=.ok (Next.value (.pointer p3)) w4 /\ ∃(p5:Option Addr)(w6:World),Sem.run prog (convert 304 243 (.pointer p3)) w4=.ok (.pointer p5) w6 /\ WrC w6 (x0.add 0) 1 /\ ∀(w7:World),w7=wr w6 (x0.add 0) [.pointer p5]->R (.tuple #[]) w7) (∃p8:Option Addr,w.cell? (x0.add 0)=some (.pointer p8) /\ ∃(b9:Bool)(w10:World),Sem.run prog (binOp BinOp.neq 243 (.pointer p8) (.pointer (some x0))) w=.ok (.bool b9) w10 /\ ifB b9 False (R (.tuple #[]) w10))
theorem vc52.ok{x0:Addr}(h:vc52 x0 w R ):Calls prog 241 #[.pointer (some x0)] w (Ret R):=
 bodyE zN Tryz.func241 (h:=h)
def vc53(x0:Option Addr)(x1:Int)(w:World)(R:VW):Prop:=
 ifB x0.isNone (R (.int .i64 11) w) (∀(w0:World),w0=w.drew->someA x0 fun a1=>∃p2:Option Addr,w0.cell? (a1.add 0)=some (.pointer p2) /\ someA x0 fun a3=>∃i4:Int,w0.cell? (a3.add 2)=some (.int .i64 i4) /\ someA x0 fun a5=>∃i6:Int,w0.cell? (a5.add 3)=some (.int .i64 i6) /\ CS 262 #[.pointer p2,.int .i64 x1,.int .i64 i4,.int .i64 i6] w0 fun v7 w8=>∃b9:Bool,v7=.bool b9 /\ w8=w8 /\ ifB (!b9) (R (.int .i64 12) w8) (someA x0 fun a10=>WrC w8 (a10.add 1) 1 /\ ∀(w11:World),w11=wr w8 (a10.add 1) [.int .i64 x1]->R (.int .i64 0) w11))
theorem vc53.ok{x0:Option Addr}{x1:Int}(h:vc53 x0 x1 w R ):Calls prog 247 #[.pointer x0,.int .i64 x1] w (Ret R):=
 bodyE zN Tryz.func247 (h:=h)
def vc54(x0:Option Addr)(x1 x2:Int)(w:World)(R:VW):Prop:=
 ifB x0.isNone (R (.int .i64 11) w) (ifB (decide (x1<256)) (R (.int .i64 12) w) (ifB (decide (x1>=6400)) (R (.int .i64 12) w) (ifB (decide (x2<0)) (R (.int .i64 12) w) (ifB (decide (x2>1048576)) (R (.int .i64 12) w) (CS 48 #[.pointer x0,.int .i64 x1] w fun v0 w1=>∃i2:Int,v0=.int .i64 i2 /\ ifB (decide (i2>=0)) (R (.int .i64 7) w1) (CS 221 #[.pointer x0,.int .i64 x2] w1 fun v3 w4=>∃i5:Int,v3=.int .i64 i5 /\ ifB (decide (i5>=0)) (R (.int .i64 7) w4) (CS 222 #[.pointer x0,.int .i64 x1,.int .i64 x2] w4 fun v6 w7=>v6=.tuple #[] /\ R (.int .i64 0) w7)))))))
theorem vc54.ok{x0:Option Addr}{x1 x2:Int}(h:vc54 x0 x1 x2 w R ):Calls prog 249 #[.pointer x0,.int .i64 x1,.int .i64 x2] w (Ret R):=
 bodyE zN Tryz.func249 (h:=h)
def vc55(x0:Option Addr)(w:World)(R:VW):Prop:=
 ifB x0.isNone (R (.bool true) w) (someA x0 fun a0=>∃i1:Int,w.cell? (a0.add 4)=some (.int .i64 i1) /\ R (.bool (decide (i1<0))) w)
theorem vc55.ok{x0:Option Addr}(h:vc55 x0 w R ):Calls prog 250 #[.pointer x0] w (Ret R):=
 bodyE zN Tryz.func250 (h:=h)
def vc56(x0:Option Addr)(w:World)(R:VW):Prop:=
 ifB x0.isNone (R (.tuple #[.int .i64 0,.int .i64 11]) w) (someA x0 fun a0=>∃i1:Int,w.cell? (a0.add 4)=some (.int .i64 i1) /\ ifB (decide (i1<0)) (R (.tuple #[.int .i64 0,.int .i64 13]) w) (someA x0 fun a2=>∃i3:Int,w.cell? (a2.add 4)=some (.int .i64 i3) /\ CS 264 #[.pointer x0,.int .i64 i3] w fun v4 w5=>∃i6 i7:Int,v4=.tuple #[.int .i64 i6,.int .i64 i7] /\ ifB (i7 != 0) (R (.tuple #[.int .i64 0,.int .i64 i7]) w5) (someA x0 fun a8=>WrC w5 (a8.add 4) 1 /\ ∀(w9:World),w9=wr w5 (a8.add 4) [.int .i64 i6]->∀(w10:World),w10=w9.drew->someA x0 fun a11=>∃p12:Option Addr,w10.cell? (a11.add 0)=some (.pointer p12) /\ CS 266 #[.pointer x0,.int .i64 i3] w10 fun v13 w14=>∃i15:Int,v13=.int .i64 i15 /\ (∃p16:Option Addr,w14.cell? (a11.add 0)=some (.pointer p16) /\ Value.pointer p16=.pointer p12) /\ CS 265 #[.pointer p12,.int .i64 i15,.int .u64 0] w14 fun v17 w18=>∃i19:Int,v17=.int .i64 i19 /\ R (.tuple #[.int .i64 i3,.int .i64 i19]) w18)))
theorem vc56.ok{x0:Option Addr}(h:vc56 x0 w R ):Calls prog 251 #[.pointer x0] w (Ret R):=
 bodyE zN Tryz.func251 (h:=h)
def vc57(x0:Option Addr)(w:World)(R:VW):Prop:=
 ∀(w0:World),w0=w.drew->someA x0 fun a1=>∃p2:Option Addr,w0.cell? (a1.add 1)=some (.pointer p2) /\ CS 250 #[.pointer p2] w0 fun v3 w4=>∃b5:Bool,v3=.bool b5 /\ w4=w4 /\ ifB (!b5) (someA x0 fun a6=>∃p7:Option Addr,w4.cell? (a6.add 0)=some (.pointer p7) /\ someA x0 fun a8=>∃p9:Option Addr,w4.cell? (a8.add 1)=some (.pointer p9) /\ CS 267 #[.pointer p7,.pointer p9] w4 fun v10 w11=>∃i12:Int,v10=.int .i64 i12 /\ w11=w11 /\ R (.bool (i12 == 0)) w11) (w4=w4 /\ R (.bool false) w4)
theorem vc57.ok{x0:Option Addr}(h:vc57 x0 w R ):Calls prog 252 #[.pointer x0] w (Ret R):=
 bodyE zN Tryz.func252 (h:=h)
def vc58(x0:Option Addr)(w:World)(R:VW):Prop:=
 ifB x0.isNone (R (.int .i64 0) w) (someA x0 fun a0=>∃i1:Int,w.cell? (a0.add 1)=some (.int .i64 i1) /\ R (.int .i64 i1) w)
theorem vc58.ok{x0:Option Addr}(h:vc58 x0 w R ):Calls prog 253 #[.pointer x0] w (Ret R):=
 bodyE zN Tryz.func253 (h:=h)
def va59:Ann:=⟨fun id=>LI.none,fun l=>none,fun i=>cond (Nat.beq i 5) (some ⟨[],(rg 8 28)⟩) (none)⟩
def vc59(x0:Option Addr)(x1 x2 x3:Int)(w:World)(R:VW):Prop:=
 ∃x0_1:World->Prop,ifB x0.isNone (R (.tuple #[.pointer none,.int .i64 11]) w) (ifB (decide (x2<8)) (R (.tuple #[.pointer none,.int .i64 12]) w) (ifB (decide (x2>512)) (R (.tuple #[.pointer none,.int .i64 12]) w) (ifB (decide (x3<1)) (R (.tuple #[.pointer none,.int .i64 12]) w) (ifB (decide (x3>64)) (R (.tuple #[.pointer none,.int .i64 12]) w) (CS 262 #[.pointer x0,.int .i64 x1,.int .i64 x2,.int .i64 x3] w fun v1 w2=>∃b3:Bool,v1=.bool b3 /\ ifB (!b3) (R (.tuple #[.pointer none,.int .i64 12]) w2) (x0_1 w2)))))) /\ ∀(jv:Nat->Value)(w4:World),x0_1 w4->∀(n5:Nat)(w6:World),n5=w4.heap.size->w6=w4.alloc (.cells #[.pointer x0,.int .i64 x1,.int .i64 x2,.int .i64 x3,.int .i64 (-1)] 309)->R (.tuple #[zP n5,.int .i64 0]) w6
theorem vc59.ok{x0:Option Addr}{x1 x2 x3:Int}(h:vc59 x0 x1 x2 x3 w R ):Calls prog 256 #[.pointer x0,.int .i64 x1,.int .i64 x2,.int .i64 x3] w (Ret R):=
 bodyE va59 Tryz.func256 (h:=h)
def va60:Ann:=⟨fun id=>LI.none,fun l=>none,fun i=>cond (Nat.beq i 5) (some ⟨[],([4]++rg 6 14)⟩) (none)⟩
def vc60(x0:Option Addr)(x1:Int)(w:World)(R:VW):Prop:=
 ∃x0_1:World->Prop,ifB x0.isNone (R (.int .i64 11) w) (ifB (decide (x1<0)) (R (.int .i64 12) w) (someA x0 fun a1=>∃i2:Int,w.cell? (a1.add 3)=some (.int .i64 i2) /\ ifB (decide (x1>=i2)) (R (.int .i64 12) w) (x0_1 w))) /\ ∀(jv:Nat->Value)(w3:World),x0_1 w3->∀(w4:World),w4=w3.drew->someA x0 fun a5=>∃p6:Option Addr,w4.cell? (a5.add 0)=some (.pointer p6) /\ someA x0 fun a7=>∃i8:Int,w4.cell? (a7.add 4)=some (.int .i64 i8) /\ w4=w4 /\ CS 266 #[.pointer x0,.int .i64 x1] w4 fun v9 w10=>∃i11:Int,v9=.int .i64 i11 /\ (w10=w10 /\ Value.int .u64 (IntKind.u64.wrap (IntKind.i64.wrap (i8+1)))=.int .u64 (IntKind.u64.wrap (IntKind.i64.wrap (i8+1)))) /\ Value.int .i64 (IntKind.i64.wrap (i8+1))=.int .i64 (IntKind.i64.wrap (i8+1)) /\ (∃i12:Int,w10.cell? (a7.add 4)=some (.int .i64 i12) /\ Value.int .i64 i12=.int .i64 i8) /\ (∃p13:Option Addr,w10.cell? (a5.add 0)=some (.pointer p13) /\ Value.pointer p13=.pointer p6) /\ CS 265 #[.pointer p6,.int .i64 i11,.int .u64 (IntKind.u64.wrap (IntKind.i64.wrap (i8+1)))] w10 fun v14 w15=>∃i16:Int,v14=.int .i64 i16 /\ someA x0 fun a17=>WrC w15 (a17.add 4) 1 /\ ∀(w18:World),w18=wr w15 (a17.add 4) [.int .i64 x1]->R (.int .i64 i16) w18
theorem vc60.ok{x0:Option Addr}{x1:Int}(h:vc60 x0 x1 w R ):Calls prog 257 #[.pointer x0,.int .i64 x1] w (Ret R):=
 bodyE va60 Tryz.func257 (h:=h)
def vc61(x0 x1:Int)(w:World)(R:VW):Prop:=
 ifB (decide (x1>=0)) (ifB (decide (x0>=131072)) (ifB (decide (x0<=3276800)) (R (.bool (decide (x1<=IntKind.i64.wrap (3276800-x0)))) w) (R (.bool false) w)) (R (.bool false) w)) (R (.bool false) w)
theorem vc61.ok{x0 x1:Int}(h:vc61 x0 x1 w R ):Calls prog 258 #[.int .i64 x0,.int .i64 x1] w (Ret R):=
 bodyE zN Tryz.func258 (h:=h)
def vc62(x0:Int)(w:World)(R:VW):Prop:=
 ifB (decide (x0<131072)) (R (.tuple #[.complex FloatKind.f64 0 0,.int .i64 4]) w) (ifB (decide (x0>=3276800)) (R (.tuple #[.complex FloatKind.f64 0 0,.int .i64 4]) w) ((512:Int) ≠ 0 /\ (512:Int) ≠ 0 /\ ∃(n0 n1:Nat)(w2:World),Sem.run prog (Builtin.complex_ #[220,220] 161 #[.float FloatKind.f64 (FloatKind.f64.nearest (IntKind.i64.wrap (x0.tdiv 512))),.float FloatKind.f64 (FloatKind.f64.nearest (x0.tmod 512))]) w=.ok (.complex FloatKind.f64 n0 n1) w2 /\ R (.tuple #[.complex FloatKind.f64 n0 n1,.int .i64 0]) w2))
theorem vc62.ok{x0:Int}(h:vc62 x0 w R ):Calls prog 259 #[.int .i64 x0] w (Ret R):=
 bodyE zN Tryz.func259 (h:=h)
def vc63(x0:Option Addr)(x1 x2 x3:Int)(w:World)(R:VW):Prop:=
 ifB (decide (x1>=0)) (CS 240 #[.pointer x0] w fun v0 w1=>∃i2:Int,v0=.int .i64 i2 /\ ifB (decide (x1<=i2)) (CS 240 #[.pointer x0] w1 fun v3 w4=>∃i5:Int,v3=.int .i64 i5 /\ R (.bool (decide (IntKind.i64.wrap (x2*x3)<=IntKind.i64.wrap (i5-x1)))) w4) (R (.bool false) w1)) (R (.bool false) w)
theorem vc63.ok{x0:Option Addr}{x1 x2 x3:Int}(h:vc63 x0 x1 x2 x3 w R ):Calls prog 262 #[.pointer x0,.int .i64 x1,.int .i64 x2,.int .i64 x3] w (Ret R):=
 bodyE zN Tryz.func262 (h:=h)
def vc64(x0:Option Addr)(x1:Int)(w:World)(R:VW):Prop:=
 ∀(w0:World),w0=w.drew->someA x0 fun a1=>∃p2:Option Addr,w0.cell? (a1.add 0)=some (.pointer p2) /\ CS 266 #[.pointer x0,.int .i64 x1] w0 fun v3 w4=>∃i5:Int,v3=.int .i64 i5 /\ (∃p6:Option Addr,w4.cell? (a1.add 0)=some (.pointer p6) /\ Value.pointer p6=.pointer p2) /\ CS 269 #[.pointer p2,.int .i64 i5] w4 fun v7 w8=>∃i9 i10:Int,v7=.tuple #[.int .u64 i9,.int .i64 i10] /\ ifB (i10 == 0) (someA x0 fun a11=>∃i12:Int,w8.cell? (a11.add 3)=some (.int .i64 i12) /\ ifB (decide (i9>IntKind.u64.wrap i12)) (R (.tuple #[.int .i64 (IntKind.i64.wrap (IntKind.i64.wrap i9-1)),.int .i64 14]) w8) (R (.tuple #[.int .i64 (IntKind.i64.wrap (IntKind.i64.wrap i9-1)),.int .i64 i10]) w8)) (R (.tuple #[.int .i64 (IntKind.i64.wrap (IntKind.i64.wrap i9-1)),.int .i64 i10]) w8)
theorem vc64.ok{x0:Option Addr}{x1:Int}(h:vc64 x0 x1 w R ):Calls prog 264 #[.pointer x0,.int .i64 x1] w (Ret R):=
 bodyE zN Tryz.func264 (h:=h)
def va65:Ann:=⟨fun id=>cond (Nat.beq id 6) ⟨[(20,.int .i64 0)],([9]++rg 21 11)⟩ (LI.none),fun l=>none,fun i=>none⟩
def vc65(x0:Option Addr)(x1 x2:Int)(w:World)(R:VW):Prop:=
 CS 155 #[.pointer x0,.int .i64 x1,.int .i64 8] w fun v0 w1=>∃i2:Int,v0=.int .i64 i2 /\ ifB (i2 != 0) (R (.int .i64 i2) w1) (CS 156 #[.pointer x0,.int .i64 x1,.int .i64 8,.bool true] w1 fun v3 w4=>∃(p5:Option Addr)(n6 n7:Nat),v3=.slice p5 n6 n7 /\ ∃x8:Nat->Int->World->Prop,(∃n9:Nat,x8 n9 0 w4) /\ ∀(n10:Nat)(jv:Nat->Value)(i11:Int)(w12:World),x8 n10 i11 w12->ifB (decide (i11<(↑n6:Int))) (0<=IntKind.i64.wrap (8*i11) /\ 0<=i11 /\ i11<(↑n6:Int) /\ someA p5 fun a13=>WrC w12 (a13.add i11.toNat) 1 /\ ∀(w14:World),w14=wr w12 (a13.add i11.toNat) [.int .u8 (IntKind.u8.wrap (shrV IntKind.u64 x2 (IntKind.i64.wrap (8*i11))))]->∃n15:Nat,n15<n10 /\ x8 n15 (IntKind.i64.wrap (i11+1)) w14) (R (.int .i64 i2) w12))
theorem vc65.ok{x0:Option Addr}{x1 x2:Int}(h:vc65 x0 x1 x2 w R ):Calls prog 265 #[.pointer x0,.int .i64 x1,.int .u64 x2] w (Ret R):=
 bodyE va65 Tryz.func265 (h:=h)
def vc66(x0:Option Addr)(x1:Int)(w:World)(R:VW):Prop:=
 ∀(w0:World),w0=w.drew->someA x0 fun a1=>∃i2:Int,w0.cell? (a1.add 1)=some (.int .i64 i2) /\ someA x0 fun a3=>∃i4:Int,w0.cell? (a3.add 2)=some (.int .i64 i4) /\ R (.int .i64 (IntKind.i64.wrap (i2+IntKind.i64.wrap (x1*i4)))) w0
theorem vc66.ok{x0:Option Addr}{x1:Int}(h:vc66 x0 x1 w R ):Calls prog 266 #[.pointer x0,.int .i64 x1] w (Ret R):=
 bodyE zN Tryz.func266 (h:=h)
def vc67(x0 x1:Option Addr)(w:World)(R:VW):Prop:=
 ifB x0.isNone (R (.int .i64 11) w) (ifB x1.isNone (R (.int .i64 11) w) (someA x0 fun a0=>∃i1:Int,w.cell? (a0.add 4)=some (.int .i64 i1) /\ ifB (decide (i1>=0)) (R (.int .i64 7) w) (someA x1 fun a2=>∃i3:Int,w.cell? (a2.add 4)=some (.int .i64 i3) /\ someA x0 fun a4=>WrC w (a4.add 4) 1 /\ ∀(w5:World),w5=wr w (a4.add 4) [.int .i64 i3]->someA x1 fun a6=>WrC w5 (a6.add 4) 1 /\ ∀(w7:World),w7=wr w5 (a6.add 4) [.int .i64 (-1)]->R (.int .i64 0) w7)))
theorem vc67.ok{x0 x1:Option Addr}(h:vc67 x0 x1 w R ):Calls prog 267 #[.pointer x0,.pointer x1] w (Ret R):=
 bodyE zN Tryz.func267 (h:=h)
def va68:Ann:=⟨fun id=>cond (Nat.beq id 6) ⟨[(4,.int .u64 0),(18,.int .i64 0)],([7]++rg 19 13)⟩ (LI.none),fun l=>none,fun i=>none⟩
def vc68(x0:Option Addr)(x1:Int)(w:World)(R:VW):Prop:=
 CS 155 #[.pointer x0,.int .i64 x1,.int .i64 8] w fun v0 w1=>∃i2:Int,v0=.int .i64 i2 /\ ifB (i2 != 0) (R (.tuple #[.int .u64 0,.int .i64 i2]) w1) (CS 156 #[.pointer x0,.int .i64 x1,.int .i64 8,.bool false] w1 fun v3 w4=>∃(p5:Option Addr)(n6 n7:Nat),v3=.slice p5 n6 n7 /\ ∃x8:Nat->Int->Int->World->Prop,(∃n9:Nat,x8 n9 0 0 w4) /\ ∀(n10:Nat)(jv:Nat->Value)(i11 i12:Int)(w13:World),x8 n10 i11 i12 w13->ifB (decide (i12<(↑n6:Int))) (0<=i12 /\ i12<(↑n6:Int) /\ someA p5 fun a14=>∃i15:Int,w13.cell? (a14.add i12.toNat)=some (.int .u8 i15) /\ 0<=IntKind.i64.wrap (8*i12) /\ ∃n16:Nat,n16<n10 /\ x8 n16 (bits BinOp.or IntKind.u64 i11 (shlV IntKind.u64 (IntKind.u64.wrap i15) (IntKind.i64.wrap (8*i12)))) (IntKind.i64.wrap (i12+1)) w13) (R (.tuple #[.int .u64 i11,.int .i64 i2]) w13))
theorem vc68.ok{x0:Option Addr}{x1:Int}(h:vc68 x0 x1 w R ):Calls prog 269 #[.pointer x0,.int .i64 x1] w (Ret R):=
 bodyE va68 Tryz.func269 (h:=h)
end
section
namespace Sf
open Go.RowKit
def Tab(w:World):Prop:=∀(j:Nat)(m:Nat),Lib.deBruijn64tab[j]? = some m->w.cell? ⟨0,j,none⟩=some (.int .u8 (m:Int))
theorem Tab.ext{w w':World}(h:Tab w)(hE:Ext w w'):Tab w':=by
 intro j m hj;have hc:=h j m hj;rw[World.cell?_of_block (hE.block _ (World.block_lt_of_cell? w _ hc) (fun x=>x))];exact hc
theorem Q6X{x:Nat}(h0:x ≠ 0)(hx:x<18446744073709551616):Lib.ctz 64 x<64 /\ x &&& (18446744073709551616-x)=2 ^ Lib.ctz 64 x /\ x.testBit (Lib.ctz 64 x)=true /\ ∀b,b<Lib.ctz 64 x->x.testBit b=false:=by
 have e:Lib.ctz 64 x=Lib.ctzFrom 64 x:=by simp[Lib.ctz,h0]
 obtain⟨m,hm,hk⟩:=Lib.ctzFrom_spec 64 x (by omega) (by simpa using hx);rw[e];generalize Lib.ctzFrom 64 x=k at hm hk;subst hm;have ha:=Lib.and_neg 64 k m (by simpa using hx);refine⟨hk,by simpa using ha,?_,fun b hb=>?_⟩
 ·rw[Nat.mul_comm,Nat.testBit_mul_two_pow];simp[Nat.testBit_zero]
 ·rw[Nat.mul_comm,Nat.testBit_mul_two_pow];simp;omega
def tzRen:Go.Shelf.Ren:=
 {f:=fun _=>214,t:=fun n=>cond (Nat.beq n 0) 0 (cond (Nat.beq n 3) 3 (cond (Nat.beq n 4) 4 (cond (Nat.beq n 5) 5 (cond (Nat.beq n 22) 33 (cond (Nat.beq n 25) 50 290))))),g:=fun _=>0}
theorem tzLays:Go.Proofs.Lays7.n29 prog tzRen:=
 {mixed:=by kernel_rfl,f29:=by kernel_rfl,t0:=by kernel_rfl,a0:=fun _=>by kernel_rfl,z0:=fun _=>by kernel_rfl,v0:=fun _=>by kernel_rfl,i0:=by kernel_rfl,t3:=by kernel_rfl,a3:=fun _=>by kernel_rfl,z3:=fun _=>by kernel_rfl,v3:=fun _=>by kernel_rfl,i3:=by kernel_rfl,t4:=by kernel_rfl,a4:=fun _=>by kernel_rfl,z4:=fun _=>by kernel_rfl,v4:=fun _=>by kernel_rfl,i4:=by kernel_rfl,t5:=by kernel_rfl,a5:=fun _=>by kernel_rfl,z5:=fun _=>by kernel_rfl,v5:=fun _=>by kernel_rfl,i5:=by kernel_rfl,t22:=by kernel_rfl,a22:=fun _=>by kernel_rfl,z22:=fun _=>by kernel_rfl,v22:=fun _=>by kernel_rfl,i22:=by kernel_rfl,t25:=by kernel_rfl,a25:=fun _=>by kernel_rfl,z25:=fun _=>by kernel_rfl,v25:=fun _=>by kernel_rfl,i25:=by kernel_rfl,t54:=by kernel_rfl,a54:=fun _=>by kernel_rfl,z54:=fun _=>by kernel_rfl,g1:=by kernel_rfl}
theorem QgC{w:World}(tab:Tab w){x:Nat}(h0:x ≠ 0)(hx:x<18446744073709551616) :
  Calls prog 214 #[.int .u64 (x:Int)] w (Ret fun r w'=>r=.int .i64 (Lib.ctz 64 x:Int) /\ w'=w):=by
 refine(Any7.bits_TrailingZeros64 tzLays x hx w fun _ j hj=>tab j _ ?_).mono ?_
 ·rw[List.getD_eq_getElem?_getD,zzgge hj];rfl
 ·rintro e w' ⟨rfl,rfl⟩;exact⟨rfl,rfl⟩
def wC(ws:List Nat):List Value:=ws.map fun x:Nat=>Value.int .u64 (x:Int)
structure WRel (ws:List Nat) (hs:List Bool):Prop where
 len:ws.length=(hs.length+63) / 64
 word:∀(i x:Nat),ws[i]? = some x->x<18446744073709551616 /\ ∀b,b<64->x.testBit b=decide (hs[64*i+b]? = some false)
theorem WRel.at{ws:List Nat}{hs:List Bool}(h:WRel ws hs){k:Nat}{c:Bool}(hk:hs[k]? = some c):∃x,ws[k / 64]? = some x /\ x<18446744073709551616 /\ x.testBit (k % 64) = !c:=by
 have hlt:k<hs.length:=(zzgsi.1 hk).1;have hl:=h.len;obtain⟨x,hx⟩:∃x,ws[k / 64]? = some x:=⟨_,zzgge (by omega)⟩;obtain⟨h1,h2⟩:=h.word _ x hx;refine⟨x,hx,h1,?_⟩;rw[h2 (k % 64) (Nat.mod_lt _ (by decide)),show 64*(k / 64)+k % 64=k by omega,hk];cases c <;> rfl
theorem WRel.turn{ws:List Nat}{hs:List Bool}(h:WRel ws hs){k x:Nat}{c:Bool}(hk:hs[k]? = some c)(hx:ws[k / 64]? = some x):WRel (ws.set (k / 64) (x ^^^ 2 ^ (k % 64))) (hs.set k (!c)):=by
 have hlt:k<hs.length:=(zzgsi.1 hk).1;have hm:k % 64<64:=Nat.mod_lt _ (by decide);have hp:2 ^ (k % 64)<2 ^ 64:=Nat.pow_lt_pow_right (by decide) hm;have hxl:=(zzgsi.1 hx).1;refine⟨by simp[h.len],fun i y hy=>?_⟩;rw[zzgst] at hy;by_cases hi:k / 64=i
 ·rw[if_pos hi,if_pos (by omega)] at hy;cases hy;obtain⟨h1,h2⟩:=h.word _ x hx;refine⟨Nat.xor_lt_two_pow (n:=64) h1 hp,fun b hb=>?_⟩;rw[Nat.testBit_xor,Nat.testBit_two_pow,h2 b hb,zzgst];by_cases hb':k % 64=b
  ·have e:k=64*i+b:=by omega
   rw[if_pos e,if_pos (by omega)];rw[show 64*(k / 64)+b=k by omega,hk];simp only[hb',decide_true];cases c <;> rfl
  ·rw[if_neg (by omega),hi];simp[hb']
 ·rw[if_neg hi] at hy;obtain⟨h1,h2⟩:=h.word i y hy;refine⟨h1,fun b hb=>?_⟩;rw[h2 b hb,zzgst,if_neg (by omega)]
structure SH (w:World) (p gb:Nat) (hs:List Bool):Prop where
 ok:∃(ws:List Nat)(rest:List Value)(c:Nat),WRel ws hs /\ ws.length<=c /\ c<=maxLen /\ rest.length=c-ws.length /\
  w.heap[p]? = some (.cells #[.slice (some ⟨gb,0,none⟩) ws.length c,.int .i64 (hs.length:Int),.int .i64 ((hs.count false:Nat):Int)] 226 (0,0)) /\
  w.heap[gb]? = some (.cells (wC ws++rest).toArray 33 (0,0))
 ne:p ≠ gb
 small:hs.length<=65536
end Sf
end
section
namespace Sf
open Go.ChangeShapes Go.WideShapes Go.ChangeAt Go.RowKit
theorem tab_of_laid {W : World} (h : laidMetH prog [("math/bits.deBruijn64tab", Rows.laid_math_bits_deBruijn64tab)] W) : Tab W := by
 rw[MakeChecks.laidMetH_plain _ _ _ (by kernel_rfl)] at h;have e:(Rows.laid_math_bits_deBruijn64tab:DataW Unit)=.agg ((Lib.deBruijn64tab.map fun x:Nat=>(x:Int)).map fun m=>.lit (.int .u8 m)):=rfl;rw[e] at h;intro j m hj
 exact Q8l (P := prog) (name := "math/bits.deBruijn64tab") (g := 0) (t := 290) (e := 5) (n := 64) (k := .u8) (by kernel_rfl) (by kernel_rfl) Tryz.underlying290 Tryz.underlying5 (by kernel_rfl) h j m (by rw [List.getElem?_map, hj]; rfl)
theorem door_met (os : Os) (args : Array Value) : laidMetH prog [("math/bits.deBruijn64tab", Rows.laid_math_bits_deBruijn64tab)] ((World.doorLaid prog 400 os).forCall (fun _ _ => 0) ⟨#[], args, []⟩).memory :=
 laidMetH_of_parts3 (fuel:=8) (laidMet_of_run' 8 (by kernel_rfl) (by kernel_rfl)) (by kernel_rfl) (by kernel_rfl)
end Sf
end
section
open Go.RowKit
abbrev Yes(w:World)(v:Value)(w':World):Prop:=v=.bool true /\ Ext w w'
theorem Qcf(x:Int)(m:Nat)(h0:0<m)(h1:m<=1048576):∃n:Nat,IntKind.i64.wrap ((IntKind.u64.wrap x).tmod (m:Int))=(n:Int) /\ n<m:=by
 obtain⟨y,hy⟩:∃y:Nat,IntKind.u64.wrap x=(y:Int):=zzeoz (by rw[Q5Z];omega);rw[hy,<-Int.ofNat_tmod];have:=Nat.mod_lt y h0;exact⟨y % m,Q04 (by omega) (by omega),this⟩
theorem CellsAt.ext{w w':World}{a:Addr}{vs:List Value}(h:CellsAt w a vs)(hE:Ext w w'):CellsAt w' a vs:=by
 intro j v hj;have hc:=h j v hj;rw[World.cell?_of_block (hE.block _ (World.block_lt_of_cell? w _ hc) (fun x=>x))];exact hc
def RowAt(w:World)(p:Option Addr)(k:Nat){X:Type}(f:X->List Value)(l:List X):Prop:=∀(i:Nat)(x:X),l[i]? = some x->∃a,p=some a /\ CellsAt w (a.add (i*k)) (f x)
theorem RowAt.ext{w w':World}{p:Option Addr}{k:Nat}{X:Type}{f:X->List Value}{l:List X}(h:RowAt w p k f l)(hE:Ext w w'):RowAt w' p k f l:=fun i x hi=>by
 obtain⟨a,ha,hc⟩:=h i x hi;exact⟨a,ha,hc.ext hE⟩
abbrev intF(x:Int):List Value:=[.int .i64 x]
theorem RowAt.int{w:World}{p:Option Addr}{l:List Int}(h:RowAt w p 1 intF l){i:Nat}{x:Int}(hi:l[i]? = some x){K:Int->Prop}(k:K x) :
  someA p fun a=>∃y:Int,w.cell? (a.add i)=some (.int .i64 y) /\ K y:=by
 obtain⟨a,rfl,hc⟩:=h i x hi;have:=hc 0 _ rfl;rw[Nat.mul_one,Addr.add_add] at this;exact⟨x,this,k⟩
end
section
open Go.RowKit
section
variable{X:Type}{f:X->List Value}{k:Nat}
theorem Q2V(hf:∀x,(f x).length=k):∀l:List X,(l.flatMap f).length=l.length*k
 | []=>by simp
 | x :: l=>by simp only[List.flatMap_cons,zzlna,hf,Q2V hf l,List.length_cons,Nat.add_mul];omega
theorem Q4k(hf:∀x,(f x).length=k):∀(l:List X)(i:Nat)(x:X),l[i]? = some x->∀(j:Nat)(v:Value),(f x)[j]? = some v->(l.flatMap f)[i*k+j]? = some v
 | [],i,x,h,_,_,_=>by simp at h
 | y :: l,0,x,h,j,v,hv=>by
  simp only[List.getElem?_cons_zero,Option.some.injEq] at h;subst h;have hj:=(zzgsi.1 hv).1;rw[List.flatMap_cons,List.getElem?_append_left (by omega)];simpa using hv
 | y :: l,i+1,x,h,j,v,hv=>by
  have hl:=hf y;rw[List.flatMap_cons,List.getElem?_append_right (by rw[hl,Nat.add_mul];omega),hl,show(i+1)*k+j-k=i*k+j by rw[Nat.add_mul];omega];exact Q4k hf l i x (by simpa using h) j v hv
abbrev ORow(w:World)(e:TypeId)(k:Nat){X:Type}(f:X->List Value)(v:Value)(l:List X):Prop:=w.ownsRow 0 e k v l.length (l.flatMap f)
structure ElemOk (P:Program) (t e:TypeId) (k bytes:Nat):Prop where
 slice:P.underlying t=some (.slice e)
 info:∃(i:TypeInfo)(z:Value),P.info? e=some i /\ i.zero=some z /\ i.size=k /\ i.bytes=bytes /\ z.cells.size=k
theorem ElemOk.of{P:Program}{t e:TypeId}{k bytes:Nat}{z:Value}(h1:P.underlying t=some (.slice e))(h2:(P.info? e).map (fun i=>(i.size,i.bytes,i.zero))=some (k,bytes,some z))(hz:z.cells.size=k):ElemOk P t e k bytes:=by
 obtain⟨i,hi,hs,hb,hq⟩:=Q4v h2;exact⟨h1,i,z,hi,hq,hs,hb,hz⟩
variable{w:World}{e:TypeId}{v:Value}{l:List X}
theorem ORow.keep{F:Nat->Prop}{w':World}(h:ORow w e k f v l)(hm:Mod F w w')(hF:∀b,v.ownBlock=some b->¬F b):ORow w' e k f v l:=by
 refine⟨h.1,?_⟩;rcases h.2 with hn | ⟨g,cap,cur,rfl,hb,hgg,rest⟩
 ·exact .inl hn
 ·exact .inr ⟨g,cap,cur,rfl,hb,hm.keep hgg (hF g rfl),rest⟩
theorem ORow.nil(w:World)(e:TypeId):ORow w e k f (.slice none 0 0) []:=w.ownsRow_nil 0 _ k
theorem ORow.shape(h:ORow w e k f v l):∃p c,v=.slice p l.length c:=by
 rcases h.2 with⟨rfl,hn⟩ | ⟨g,cap,cur,rfl,_⟩
 ·exact⟨none,0,by rw[hn]⟩
 ·exact⟨_,_,rfl⟩
theorem ORow.lt(h:ORow w e k f v l):∀b,v.ownBlock=some b->b<w.heap.size:=by
 intro b hb;rcases h.2 with⟨rfl,hn⟩ | ⟨g,cap,cur,rfl,_,hgg,_⟩
 ·simp[Value.ownBlock] at hb
 ·simp only[Value.ownBlock,Option.some.injEq] at hb;subst hb;exact Q0i hgg
theorem ORow.cells(hf:∀x,(f x).length=k){p:Option Addr}{n c:Nat}(h:ORow w e k f (.slice p n c) l){i:Nat}{x:X}(hi:l[i]? = some x):∃a,p=some a /\ CellsAt w (a.add (i*k)) (f x):=by
 rcases h.2 with⟨q,hn⟩ | ⟨g,cap,cur,q,_⟩
 ·have:=List.eq_nil_of_length_eq_zero hn;subst this;simp at hi
 ·cases q;refine⟨⟨g,0,none⟩,rfl,fun j u hu=>?_⟩;have:=World.ownsRow.cells h (g:=g) rfl (i*k+j) u (Q4k hf l i x hi j u hu);rw[Q02,Q02];rw[Q02] at this;rw[show 0+i*k+j=0+(i*k+j) by omega];exact this
theorem ORow.append{P:Program}{t bytes:Nat}(E:ElemOk P t e k bytes)(hf:∀x,(f x).length=k)(h1:∀x u,u ∈ f x->u.oneCell'=true)(h:ORow w e k f v l)(ty:TypeId)(a:Addr)(c:Nat)(news:List X)
  (ha:∀(j:Nat)(x:X),news[j]? = some x->CellsAt w (a.add (j*k)) (f x)) (h63:l.length+news.length<=maxLen) (hb:(l.length+news.length)*bytes<=140737488355328) :
  ∃(p:Option Addr)(c':Nat)(w':World),(Builtin.append_ #[t,t] ty #[v,.slice (some a) news.length c]).run P w=.ok (.slice p (l.length+news.length) c') w' /\ ORow w' e k f (.slice p (l.length+news.length) c') (l++news) /\
   Mod (fun b=>v.ownBlock=some b) w w' /\ (∀b,(Value.slice p (l.length+news.length) c').ownBlock=some b->v.ownBlock=some b \/ w.heap.size<=b):=by
 obtain⟨i,z,hi,hz,hs,hby,hzs⟩:=E.info;obtain⟨v',w',hr,ho,hg,hne⟩:=Q2p (P:=P) w t ty e i z k bytes E.slice hi hz hs hby hzs v l.length (l.flatMap f) h a news.length c (news.flatMap f) (Q2V hf news) (fun j u hu=>by
   have hlen:=(zzgsi.1 hu).1;rw[Q2V hf] at hlen;have hk:0<k:=Nat.pos_of_ne_zero fun q=>by subst q;omega
   have hj:j / k<news.length:=(Nat.div_lt_iff_lt_mul hk).2 hlen;have hx:news[j / k]? = some news[j / k]:=zzgge hj;have hm:j % k<(f news[j / k]).length:=by rw[hf];exact Nat.mod_lt _ hk
   have hu':=Q4k hf news (j / k) _ hx (j % k) _ (zzgge hm);have hd:=Nat.div_add_mod' j k;rw[show j / k*k+j % k=j from hd,hu] at hu';have hc:=ha _ _ hx (j % k) u (by rw[hu'];exact zzgge hm);rw[Addr.add_add,hd] at hc;exact hc) (fun u hu=>by
   obtain⟨x,_,hx⟩:=List.mem_flatMap.1 hu;exact h1 x u hx) h63 hb
 have ho':ORow w' e k f v' (l++news):=by
  show w'.ownsRow 0 e k v' (l++news).length ((l++news).flatMap f);rw[zzlna,List.flatMap_append];exact ho
 obtain⟨p,c',rfl⟩:=ho'.shape;rw[zzlna] at hr ho' hne;exact⟨p,c',w',hr,ho',hg,hne⟩
theorem ORow.push{P:Program}{t bytes:Nat}(E:ElemOk P t e k bytes)(hf:∀x,(f x).length=k)(h1:∀x u,u ∈ f x->u.oneCell'=true)(h:ORow w e k f v l)(ty:TypeId)(a:Addr)(c:Nat)(x:X)(ha:CellsAt w a (f x))
  (h63:l.length+1<=maxLen) (hb:(l.length+1)*bytes<=140737488355328) :
  ∃(p:Option Addr)(c':Nat)(w':World),(Builtin.append_ #[t,t] ty #[v,.slice (some a) 1 c]).run P w=.ok (.slice p (l.length+1) c') w' /\ ORow w' e k f (.slice p (l.length+1) c') (l++[x]) /\
   Mod (fun b=>v.ownBlock=some b) w w' /\ (∀b,(Value.slice p (l.length+1) c').ownBlock=some b->v.ownBlock=some b \/ w.heap.size<=b):=
 ORow.append E hf h1 h ty a c [x] (fun j y hy=>by
  cases j with
  | zero=>
   simp only[List.getElem?_cons_zero,Option.some.injEq] at hy;subst hy;intro i u hu;have:=ha i u hu;rw[Addr.add_add,Nat.zero_mul,Nat.zero_add];exact this
  | succ j=>simp at hy) h63 hb
end
end
section
open Go.RowKit
@[ext] structure Thing where
 P:World->(Nat->Prop)->Prop
 keep:∀ {w w':World} {F G:Nat->Prop},P w F->Mod G w w'->(∀j,F j->¬G j)->P w' F
 lt:∀ {w:World} {F:Nat->Prop},P w F->∀j,F j->j<w.heap.size
namespace Thing
def sep(A B:Thing):Thing where
 P w F:=∃F1 F2,A.P w F1 /\ B.P w F2 /\ (∀j,F1 j->¬F2 j) /\ F=fun j=>F1 j \/ F2 j
 keep:=by
  rintro w w' F G ⟨F1,F2,a,b,d,rfl⟩ hm hd;exact⟨F1,F2,A.keep a hm (fun j hj=>hd j (.inl hj)),B.keep b hm (fun j hj=>hd j (.inr hj)),d,rfl⟩
 lt:=by
  rintro w F ⟨F1,F2,a,b,d,rfl⟩ j (hj | hj)
  ·exact A.lt a j hj
  ·exact B.lt b j hj
instance:Mul Thing:=⟨sep⟩
theorem mul_comm(A B:Thing):A*B=B*A:=by
 ext w F;constructor
 all_goals
  rintro⟨F1,F2,a,b,d,rfl⟩;exact⟨F2,F1,b,a,fun j h1 h2=>d j h2 h1,funext fun j=>propext or_comm⟩
abbrev zztmc := @Thing.mul_comm
theorem mul_assoc(A B C:Thing):A*B*C=A*(B*C):=by
 ext w F;constructor
 ·rintro⟨F12,F3,⟨F1,F2,a,b,d,rfl⟩,c,d2,rfl⟩;exact⟨F1,fun j=>F2 j \/ F3 j,a,⟨F2,F3,b,c,fun j h1 h2=>d2 j (.inr h1) h2,rfl⟩,fun j h1 h2=>h2.elim (d j h1) (d2 j (.inl h1)),funext fun j=>propext or_assoc⟩
 ·rintro⟨F1,F23,a,⟨F2,F3,b,c,d,rfl⟩,d2,rfl⟩;exact⟨fun j=>F1 j \/ F2 j,F3,⟨F1,F2,a,b,fun j h1 h2=>d2 j h1 (.inl h2),rfl⟩,c,fun j h1 h2=>h1.elim (fun q=>d2 j q (.inr h2)) (fun q=>d j q h2),funext fun j=>propext or_assoc.symm⟩
instance:Std.Commutative (α:=Thing) (· * ·):=⟨mul_comm⟩
instance:Std.Associative (α:=Thing) (· * ·):=⟨mul_assoc⟩
def emp:Thing where
 P _ F:=F=fun _=>False
 keep:=fun h _ _=>h
 lt:=by rintro w F rfl j hj;exact hj.elim
theorem Q6h(A:Thing):emp*A=A:=by
 ext w F;constructor
 ·rintro⟨F1,F2,rfl,b,d,rfl⟩;have:(fun j=>False \/ F2 j)=F2:=funext fun j=>propext (by simp);rw[this];exact b
 ·intro h;exact⟨_,F,rfl,h,fun _ x=>x.elim,funext fun j=>propext (by simp)⟩
theorem Q0c(A:Thing):A*emp=A:=by rw[mul_comm,Q6h]
def blk(b:Nat)(o:Obj):Thing where
 P w F:=w.heap[b]? = some o /\ F=(· = b)
 keep:=by
  rintro w w' F G ⟨h,rfl⟩ hm hd;exact⟨hm.keep h (hd b rfl),rfl⟩
 lt:=by
  rintro w F ⟨h,rfl⟩ j rfl;exact Q0i h
def only(p:Prop)(A:Thing):Thing where
 P w F:=p /\ A.P w F
 keep:=fun h hm hd=>⟨h.1,A.keep h.2 hm hd⟩
 lt:=fun h=>A.lt h.2
def any{X:Type}(A:X->Thing):Thing where
 P w F:=∃x,(A x).P w F
 keep:=by
  rintro w w' F G ⟨x,h⟩ hm hd;exact⟨x,(A x).keep h hm hd⟩
 lt:=by
  rintro w F ⟨x,h⟩;exact(A x).lt h
theorem Q06{p:Prop}{A B:Thing}:only p A*B=only p (A*B):=by
 ext w F;constructor
 ·rintro⟨F1,F2,⟨hp,a⟩,b,d,rfl⟩;exact⟨hp,F1,F2,a,b,d,rfl⟩
 ·rintro⟨hp,F1,F2,a,b,d,rfl⟩;exact⟨F1,F2,⟨hp,a⟩,b,d,rfl⟩
def fam{I:Type}(A:I->Thing):Thing where
 P w F:=∃f:I->Nat->Prop,(∀i,(A i).P w (f i)) /\ (∀i j k,f i k->f j k->i=j) /\ F=fun k=>∃i,f i k
 keep:=by
  rintro w w' F G ⟨f,h,d,rfl⟩ hm hd;exact⟨f,fun i=>(A i).keep (h i) hm (fun k hk=>hd k ⟨i,hk⟩),d,rfl⟩
 lt:=by
  rintro w F ⟨f,h,d,rfl⟩ k ⟨i,hk⟩;exact(A i).lt (h i) k hk
def upd{I:Type}[DecidableEq I](A:I->Thing)(i:I)(B:Thing):I->Thing:=fun j=>if j=i then B else A j
theorem Q12{I:Type}[DecidableEq I](A:I->Thing)(i:I)(B:Thing):fam (upd A i B)=B*fam (upd A i emp):=by
 ext w F;constructor
 ·rintro⟨f,h,d,rfl⟩;have hi:=h i;simp only[upd,if_pos] at hi;refine⟨f i,_,hi,⟨fun j=>if j=i then fun _=>False else f j,fun j=>?_,fun a b k ha hb=>?_,rfl⟩,fun k hk ⟨j,hj⟩=>?_,funext fun k=>propext ⟨fun⟨j,hj⟩=>?_,fun hk=>?_⟩⟩
  ·by_cases e:j=i
   ·simp[upd,e,emp]
   ·have:=h j;simpa [upd,e] using this
  ·by_cases ea:a=i
   ·simp[ea] at ha
   ·by_cases eb:b=i
    ·simp[eb] at hb
    ·simp[ea] at ha;simp[eb] at hb;exact d a b k ha hb
  ·by_cases e:j=i
   ·simp[e] at hj
   ·simp[e] at hj;exact e (d j i k hj hk)
  ·by_cases e:j=i
   ·subst e;exact .inl hj
   ·exact .inr ⟨j,by simpa [e] using hj⟩
  ·rcases hk with hk | ⟨j,hk⟩
   ·exact⟨i,hk⟩
   ·by_cases e:j=i
    ·simp[e] at hk
    ·exact⟨j,by simpa [e] using hk⟩
 ·rintro⟨F1,F2,b,⟨f,h,d,rfl⟩,dj,rfl⟩;have fi:∀k,¬f i k:=fun k hk=>by
   have:=h i;simp only[upd,if_pos,emp] at this;rw[this] at hk;exact hk
  refine⟨fun j=>if j=i then F1 else f j,fun j=>?_,fun a c k ha hc=>?_,funext fun k=>propext ⟨fun hk=>?_,fun⟨j,hj⟩=>?_⟩⟩
  ·by_cases e:j=i
   ·simpa [upd,e] using b
   ·have:=h j;simpa [upd,e] using this
  ·by_cases ea:a=i <;> by_cases ec:c=i
   ·rw[ea,ec]
   ·simp[ea] at ha;simp[ec] at hc;exact absurd ⟨c,hc⟩ (dj k ha)
   ·simp[ea] at ha;simp[ec] at hc;exact absurd ⟨a,ha⟩ (dj k hc)
   ·simp[ea] at ha;simp[ec] at hc;exact d a c k ha hc
  ·rcases hk with hk | ⟨j,hk⟩
   ·exact⟨i,by simpa using hk⟩
   ·by_cases e:j=i
    ·subst e;exact absurd hk (fi k)
    ·exact⟨j,by simpa [e] using hk⟩
  ·by_cases e:j=i
   ·simp[e] at hj;exact .inl hj
   ·simp[e] at hj;exact .inr ⟨j,hj⟩
theorem Q2n{I:Type}[DecidableEq I](A:I->Thing)(i:I):upd A i (A i)=A:=funext fun j=>by
 unfold upd;split
 ·rename_i e;rw[e]
 ·rfl
theorem Q3Q{I:Type}[DecidableEq I](A:I->Thing)(i:I):fam A=A i*fam (upd A i emp):=by
 have:=Q12 A i (A i);rw[Q2n] at this;exact this
end Thing
open Thing
def Step(F:Nat->Prop)(w:World)(F':Nat->Prop)(w':World):Prop:=Mod F w w' /\ ∀j,F' j->F j \/ w.heap.size<=j
theorem Step.refl(F:Nat->Prop)(w:World):Step F w F w:=⟨Mod.refl _ _,fun j hj=>.inl hj⟩
theorem Step.trans{F F' F'':Nat->Prop}{w w' w'':World}(h:Step F w F' w')(g:Step F' w' F'' w''):Step F w F'' w'':=
 ⟨Mod.trans h.1 g.1 (fun k hk x=>(h.2 k x).elim id (fun y=>by omega)),fun j hj=>(g.2 j hj).elim (h.2 j) (fun y=>.inr (Nat.le_trans h.1.size y))⟩
theorem Step.sub{F F' F'':Nat->Prop}{w w':World}(h:Step F w F' w')(hs:∀j,F'' j->F' j):Step F w F'' w':=⟨h.1,fun j hj=>h.2 j (hs j hj)⟩
theorem Step.ext{F:Nat->Prop}{w w':World}(h:Ext w w'):Step F w F w':=⟨h.mod,fun j hj=>.inl hj⟩
def Tri(g:FuncId)(args:Array Value)(A:Thing)(B:Value->Thing):Prop:=
 ∀(w:World)(F:Nat->Prop)(R:VW),A.P w F->(∀v w' F',(B v).P w' F'->Step F w F' w'->R v w')->CS g args w R
theorem Q0O{B C:Thing}{w w':World}{F1 F2 F':Nat->Prop}(c:C.P w F2)(d:∀j,F1 j->¬F2 j)(b:B.P w' F')(s:Step F1 w F' w') :
  (B*C).P w' (fun j=>F' j \/ F2 j) /\ Step (fun j=>F1 j \/ F2 j) w (fun j=>F' j \/ F2 j) w':=by
 refine⟨⟨F',F2,b,C.keep c s.1 (fun j hj hk=>d j hk hj),fun j hj hk=>(s.2 j hj).elim (fun q=>d j q hk) (fun q=>by have:=C.lt c j hk;omega),rfl⟩,s.1.mono fun j hj=>.inl hj,fun j hj=>?_⟩;rcases hj with hj | hj
 ·exact(s.2 j hj).imp .inl id
 ·exact .inl (.inr hj)
theorem Tri.use{g:FuncId}{args:Array Value}{A X C:Thing}{B:Value->Thing}(t:Tri g args A B){w:World}{F:Nat->Prop}{R:VW}(h:X.P w F)(e:X=A*C)
  (r:∀v w' F',(B v*C).P w' F'->Step F w F' w'->R v w'):CS g args w R:=by
 subst e;obtain⟨F1,F2,a,c,d,rfl⟩:=h;refine t w F1 R a fun v w' F' b s=>?_;obtain⟨p,q⟩:=Q0O c d b s;exact r v w' _ p q
section
variable{w w':World}{F:Nat->Prop}{X C:Thing}
theorem Thing.grow(h:X.P w F)(hE:Ext w w'):X.P w' F:=X.keep h hE (fun _ _ x=>x)
theorem Q0b{b:Nat}{o:Obj}(h:X.P w F)(e:X=blk b o*C):w.heap[b]? = some o:=by
 subst e;obtain⟨F1,F2,a,c,d,rfl⟩:=h;exact a.1
theorem Q0K{b o n:Nat}{T:TypeId}{arr:Array Value}{vs:List Value}{K:World->Prop}(h:X.P w F)(e:X=blk b (.cells arr T (0,0))*C)(hl:o+n<=arr.size)
  (k:∀w1 F',(blk b (.cells (setAt arr o vs) T (0,0))*C).P w1 F'->Step F w F' w1->K w1):WrC w (Addr.mk b o none) n /\ ∀w1,w1=wr w (Addr.mk b o none) vs->K w1:=by
 subst e;obtain⟨F1,F2,⟨a,rfl⟩,c,d,rfl⟩:=h;refine Q0e a hl fun w1 h1 hm hs=>?_;obtain⟨p,q⟩:=Q0O (B:=blk b (.cells (setAt arr o vs) T (0,0))) c d ⟨h1,rfl⟩ ⟨hm,fun j hj=>.inl hj⟩;exact k w1 _ p q
theorem Q0m{c:Array Value}{e:TypeId}{K:Nat->World->Prop}(h:X.P w F)
  (k:∀b w1 F',(blk b (.cells c e (0,0))*X).P w1 F'->Step F w F' w1->b=w.heap.size->K b w1) :
  ∀(n:Nat)(w1:World),n=w.heap.size->w1=w.alloc (.cells c e)->K n w1:=by
 refine Q09 fun b w1 hb hE h1 h2=>k b w1 (fun j=>j=b \/ F j) ⟨_,F,⟨hb,rfl⟩,Thing.grow h hE,fun j hj hk=>?_,rfl⟩ ⟨hE.mod,fun j hj=>?_⟩ h1.symm
 ·have:=X.lt h j hk;omega
 ·rcases hj with hj | hj
  ·exact .inr (by omega)
  ·exact .inl hj
end
end
section
open Go.RowKit
def bC(bs:List UInt8):List Value:=bs.map fun b=>Value.int .u8 (b.toNat:Int)
theorem Q3e(bs:List UInt8):(bC bs).length=bs.length:=by simp[bC]
theorem Q3N(bs:List UInt8)(j:Nat):(bC bs)[j]? = (bs[j]?).map fun b=>Value.int .u8 (b.toNat:Int):=by simp[bC]
theorem QcF(bs:List UInt8):∀v ∈ bC bs,v.oneCell'=true:=by
 intro v hv;obtain⟨b,_,rfl⟩:=List.mem_map.1 hv;rfl
theorem Q2L(n:Nat):madeCells #[Value.int .u8 0] (n*1)=(bC (List.replicate n 0)).toArray:=by
 have h:(madeCells #[Value.int .u8 0] (n*1)).toList=bC (List.replicate n 0):=by
  apply List.ext_getElem?;intro j;rw[Q3N];by_cases hj:j<n
  ·simp[madeCells,hj,Nat.mod_one]
  ·simp[madeCells,hj]
 rw[<-h]
def putAt(bs:List UInt8)(a:Nat)(l:List UInt8):List UInt8:=bs.take a++l++bs.drop (a+l.length)
theorem Q0k{bs:List UInt8}{a:Nat}{l:List UInt8}(h:a+l.length<=bs.length):(putAt bs a l).length=bs.length:=by
 simp only[putAt,zzlna,zzlnt,List.length_drop];omega
theorem Q11(bs:List UInt8)(a:Nat):putAt bs a []=bs:=by simp[putAt]
theorem Q28{bs:List UInt8}{a:Nat}{l:List UInt8}(h:a+l.length<=bs.length)(j:Nat) :
  (putAt bs a l)[j]? = if a<=j /\ j<a+l.length then l[j-a]? else bs[j]?:=by
 unfold putAt;have hta:(bs.take a).length=a:=by rw[zzlnt];omega
 by_cases h1:j<a
 ·rw[if_neg (by omega),List.append_assoc,List.getElem?_append_left (by rw[hta];exact h1),List.getElem?_take,if_pos h1]
 ·by_cases h2:j<a+l.length
  ·rw[if_pos ⟨by omega,h2⟩,List.append_assoc,List.getElem?_append_right (by rw[hta];omega),hta,List.getElem?_append_left (by omega)]
  ·rw[if_neg (by omega),List.getElem?_append_right (by rw[zzlna,hta];omega),zzlna,hta,List.getElem?_drop];congr 1;omega
theorem Q8r{bs:List UInt8}{a i:Nat}{l:List UInt8}{b:UInt8}(h:a+l.length<=bs.length)(hb:l[i]? = some b) :
  (putAt bs a (l.take i)).set (a+i) b=putAt bs a (l.take (i+1)):=by
 have hi:i<l.length:=(zzgsi.1 hb).1;have h1:(l.take i).length=i:=by rw[zzlnt];omega
 have h2:(l.take (i+1)).length=i+1:=by rw[zzlnt];omega
 apply List.ext_getElem?;intro j;rw[zzgst,Q28 (by omega),Q28 (by omega),h1,h2,Q0k (by omega)];by_cases hj:a+i=j
 ·subst hj;rw[if_pos rfl,if_pos (by omega),if_pos (by omega),Nat.add_sub_cancel_left,List.getElem?_take,if_pos (by omega),hb]
 ·rw[if_neg hj];by_cases hk:a<=j /\ j<a+i
  ·rw[if_pos hk,if_pos (by omega),List.getElem?_take,List.getElem?_take,if_pos (by omega),if_pos (by omega)]
  ·rw[if_neg hk,if_neg (by omega)]
def seg(bs:List UInt8)(a k:Nat):List UInt8:=(bs.drop a).take k
theorem Q0J{bs:List UInt8}{a k:Nat}(h:a+k<=bs.length):(seg bs a k).length=k:=by simp[seg];omega
theorem Qal{bs:List UInt8}{a k j:Nat}(hj:j<k):(seg bs a k)[j]? = bs[a+j]?:=by
 simp[seg,List.getElem?_take,List.getElem?_drop,hj]
abbrev Tch:=Int × Int × Bool
def tcell(t:Tch):List Value:=[.int .i64 t.1,.int .i64 t.2.1,.bool t.2.2]
def tcells(ts:List Tch):List Value:=ts.flatMap tcell
theorem Q4T(a b:List Tch):tcells (a++b)=tcells a++tcells b:=by simp[tcells]
theorem Q4U(ts:List Tch):(tcells ts).length=ts.length*3:=by
 induction ts with
 | nil=>rfl
 | cons t ts ih=>simp only[tcells,List.flatMap_cons,zzlna,List.length_cons] at ih ⊢;rw[ih];simp[tcell];omega
theorem Q45(ts:List Tch):∀v ∈ tcells ts,v.oneCell'=true:=by
 intro v hv;obtain⟨t,_,ht⟩:=List.mem_flatMap.1 hv;simp only[tcell,List.mem_cons,List.not_mem_nil,or_false] at ht;rcases ht with rfl | rfl | rfl <;> rfl
theorem Q8F(ts:List Tch)(i:Nat)(t:Tch)(h:ts[i]? = some t)(j:Nat)(v:Value)(hv:(tcell t)[j]? = some v):(tcells ts)[i*3+j]? = some v:=by
 induction ts generalizing i with
 | nil=>simp at h
 | cons t' ts ih=>
  have hj:j<3:=by have:=(zzgsi.1 hv).1;simpa [tcell] using this
  have hc:tcells (t' :: ts)=tcell t'++tcells ts:=by simp[tcells]
  have hl:(tcell t').length=3:=rfl;rw[hc];cases i with
  | zero=>
   simp only[List.getElem?_cons_zero,Option.some.injEq] at h;subst h;rw[List.getElem?_append_left (by omega)];simpa using hv
  | succ i=>
   rw[List.getElem?_append_right (by omega),hl,show(i+1)*3+j-3=i*3+j by omega];exact ih i (by simpa using h)
abbrev TRow(w:World)(v:Value)(ts:List Tch):Prop:=w.ownsRow 0 47 3 v ts.length (tcells ts)
theorem Q9p{w w':World}{row:Option Nat}(h:w.grownBy w' row):Mod (fun k=>row=some k) w w':=
 ⟨h.os,h.tape,h.output,h.size,fun k hk hF=>h.block k hk (fun e=>hF e.symm)⟩
theorem TRow.keep{F:Nat->Prop}{w w':World}{v:Value}{ts:List Tch}(h:TRow w v ts)(hm:Mod F w w')(hF:∀k,v.ownBlock=some k->¬F k):TRow w' v ts:=by
 refine⟨h.1,?_⟩;rcases h.2 with hn | ⟨g,cap,cur,rfl,hb,hgg,rest⟩
 ·exact .inl hn
 ·exact .inr ⟨g,cap,cur,rfl,hb,hm.keep hgg (hF g rfl),rest⟩
theorem TRow.nil(w:World):TRow w (.slice none 0 0) []:=w.ownsRow_nil 0 _ 3
theorem TRow.shape{w:World}{v:Value}{ts:List Tch}(h:TRow w v ts):∃p c,v=.slice p ts.length c:=by
 rcases h.2 with⟨rfl,hn⟩ | ⟨g,cap,cur,rfl,_⟩
 ·exact⟨none,0,by rw[hn]⟩
 ·exact⟨_,_,rfl⟩
theorem TRow.cells{w:World}{p:Option Addr}{n c:Nat}{ts:List Tch}(h:TRow w (.slice p n c) ts){i:Nat}{t:Tch}(hi:ts[i]? = some t) :
  ∃a,p=some a /\ CellsAt w (a.add (i*3)) (tcell t):=by
 rcases h.2 with⟨e,hn⟩ | ⟨g,cap,cur,e,_⟩
 ·have:=List.eq_nil_of_length_eq_zero hn;subst this;simp at hi
 ·cases e;refine⟨⟨g,0,none⟩,rfl,fun j v hv=>?_⟩;have:=World.ownsRow.cells h (g:=g) rfl (i*3+j) v (Q8F ts i t hi j v hv);rw[Q02,Q02];rw[Q02] at this;rw[show 0+i*3+j=0+(i*3+j) by omega];exact this
theorem Q5G{w:World}{v:Value}{ts:List Tch}{t:Tch}{a:Addr}{c:Nat}(h:TRow w v ts)(ha:CellsAt w a (tcell t))(hl:ts.length<1099511627776) :
  ∃v' w',(Builtin.append_ #[44,44] 44 #[v,.slice (some a) 1 c]).run prog w=.ok v' w' /\ TRow w' v' (ts++[t]) /\ Mod (fun k=>v.ownBlock=some k) w w' /\
   (∀k,v'.ownBlock=some k->v.ownBlock=some k \/ w.heap.size<=k):=by
 obtain⟨i,hi,hs,hby,hz⟩:∃i,Tryz.prog.info? 47=some i /\ i.size=3 /\ i.bytes=24 /\ i.zero=some (.agg #[.int .i64 0,.int .i64 0,.bool false]):=Q4v (by kernel_rfl);obtain⟨v',w',hr,ho,hg,hne⟩:=Q2p (P:=prog) w 44 44 47 i _ 3 24 (by kernel_rfl) hi hz hs hby rfl v ts.length (tcells ts) h a 1 c (tcell t) rfl ha
  (fun u hu=>Q45 [t] u (by simpa [tcells] using hu)) (by simp only[maxLen];omega) (by omega)
 refine⟨v',w',hr,?_,hg,hne⟩;have e:tcells (ts++[t])=tcells ts++tcell t:=by rw[Q4T];simp[tcells]
 unfold TRow;rw[e,zzlna];exact ho
structure AR (w:World) (T:TypeId) (p gb:Nat) (v:Value) (bs:List UInt8) (ts:List Tch):Prop where
 head:w.heap[p]? = some (.cells #[.slice (some ⟨gb,0,none⟩) bs.length bs.length,v] T (0,0))
 data:w.heap[gb]? = some (.cells (bC bs).toArray 5 (0,0))
 row:TRow w v ts
 ne:p ≠ gb
 vp:v.ownBlock ≠ some p
 vg:v.ownBlock ≠ some gb
 small:bs.length<=2097152
def fpA(p gb:Nat)(v:Value)(k:Nat):Prop:=k=p \/ k=gb \/ v.ownBlock=some k
theorem AR.keep{F:Nat->Prop}{w w':World}{T:TypeId}{p gb:Nat}{v:Value}{bs:List UInt8}{ts:List Tch}(h:AR w T p gb v bs ts)(hm:Mod F w w')(hF:∀k,fpA p gb v k->¬F k):AR w' T p gb v bs ts:=
 ⟨hm.keep h.head (hF p (.inl rfl)),hm.keep h.data (hF gb (.inr (.inl rfl))),h.row.keep hm (fun k hk=>hF k (.inr (.inr hk))),h.ne,h.vp,h.vg,h.small⟩
theorem AR.ext{w w':World}{T:TypeId}{p gb:Nat}{v:Value}{bs:List UInt8}{ts:List Tch}(h:AR w T p gb v bs ts)(hm:Ext w w'):AR w' T p gb v bs ts:=h.keep hm (fun _ _ x=>x)
theorem AR.lt{w:World}{T:TypeId}{p gb:Nat}{v:Value}{bs:List UInt8}{ts:List Tch}(h:AR w T p gb v bs ts):∀k,fpA p gb v k->k<w.heap.size:=by
 intro k hk;rcases hk with rfl | rfl | hk
 ·exact Q0i h.head
 ·exact Q0i h.data
 ·exact(World.ownsRow.lt h.row k hk).2
theorem AR.bytes{w w':World}{T:TypeId}{p gb:Nat}{v:Value}{bs bs':List UInt8}{ts:List Tch}(h:AR w T p gb v bs ts)(hd:w'.heap[gb]? = some (.cells (bC bs').toArray 5 (0,0)))
  (hm:Mod (· = gb) w w') (hl:bs'.length=bs.length):AR w' T p gb v bs' ts:=
 ⟨by rw[hl];exact hm.keep h.head h.ne,hd,h.row.keep hm (fun k hk e=>h.vg (by rw[hk,e])),h.ne,h.vp,h.vg,by rw[hl];exact h.small⟩
theorem AR.turn{w w':World}{T:TypeId}{p gb:Nat}{v v':Value}{bs:List UInt8}{ts ts':List Tch}(h:AR w T p gb v bs ts)(hm:Mod (· = p) w w')
  (hd:w'.heap[p]? = some (.cells #[.slice (some ⟨gb,0,none⟩) bs.length bs.length,v'] T (0,0))) (hr:TRow w' v' ts') (hp:v'.ownBlock ≠ some p) (hg:v'.ownBlock ≠ some gb):AR w' T p gb v' bs ts':=
 ⟨hd,hm.keep h.data (fun e=>h.ne e.symm),hr,h.ne,hp,hg,h.small⟩
theorem AR.set{w:World}{T:TypeId}{p gb:Nat}{v:Value}{bs:List UInt8}{ts:List Tch}{K:World->Prop}(h:AR w T p gb v bs ts){o:Nat}(ho:o<bs.length)(b:UInt8)
  (k:∀w1,AR w1 T p gb v (bs.set o b) ts->Mod (· = gb) w w1->w1.heap.size=w.heap.size->K w1) :
  WrC w (Addr.mk gb o none) 1 /\ ∀w1,w1=wr w (Addr.mk gb o none) [.int .u8 (b.toNat:Int)]->K w1:=by
 refine Q0e h.data (by simp[bC];omega) fun w1 h1 hm hs=>k w1 (h.bytes ?_ hm (by simp)) hm hs;rw[h1];congr 2;simp only[setAt];apply Array.ext';simp[bC,List.map_set]
theorem AR.byteAt{w:World}{T:TypeId}{p gb:Nat}{v:Value}{bs:List UInt8}{ts:List Tch}(h:AR w T p gb v bs ts){o:Nat}{b:UInt8}(hb:bs[o]? = some b):w.cell? (Addr.mk gb o none)=some (.int .u8 (b.toNat:Int)):=by
 refine Q01 h.data ?_;rw[List.getElem?_toArray,Q3N,hb];rfl
theorem AR.slot0{w:World}{T:TypeId}{p gb:Nat}{v:Value}{bs:List UInt8}{ts:List Tch}(h:AR w T p gb v bs ts):w.cell? ((zA p).add 0)=some (.slice (some ⟨gb,0,none⟩) bs.length bs.length):=by
 rw[Q02];exact Q01 h.head rfl
theorem AR.slot1{w:World}{T:TypeId}{p gb:Nat}{v:Value}{bs:List UInt8}{ts:List Tch}(h:AR w T p gb v bs ts):w.cell? ((zA p).add 1)=some v:=by
 rw[Q02];exact Q01 h.head rfl
theorem Q3B{gb:Nat}{a n:Nat}(h:a<n):subA (some (zA gb)) a n 1=some (Addr.mk gb a none):=by
 simp only[subA];rw[if_neg (by omega)];simp[Q02]
theorem AR.part{w:World}{T:TypeId}{p gb:Nat}{v:Value}{bs:List UInt8}{ts:List Tch}(h:AR w T p gb v bs ts){a k:Nat}(hk:a+k<=bs.length) :
  BytesAt w (subA (some (zA gb)) a bs.length 1) (seg bs a k):=by
 intro j b hj;have hjk:j<k:=by have:=(zzgsi.1 hj).1;rw[Q0J hk] at this;exact this
 rw[Q3B (by omega)];refine⟨_,rfl,?_⟩;rw[Q02];refine h.byteAt ?_;rw[<-hj,Qal hjk]
end
section
open Go.RowKit
abbrev OkA(n:Nat)(a k:Int):Prop:=0<=a /\ 0<=k /\ a+k<=n
def noteA(ts:List Tch)(a k:Int)(wr:Bool):List Tch:=if 0<k then ts++[(a,k,wr)] else ts
def Ar(w:World)(T:TypeId)(p:Nat)(F:Nat->Prop)(bs:List UInt8)(ts:List Tch):Prop:=∃gb v,AR w T p gb v bs ts /\ F=fpA p gb v
def Post(w:World)(T:TypeId)(p:Nat)(F:Nat->Prop)(bs:List UInt8)(ts:List Tch)(w':World):Prop:=∃F',Ar w' T p F' bs ts /\ Mod F w w' /\ ∀k,F' k->F k \/ w.heap.size<=k
theorem Ar.keep{F G:Nat->Prop}{w w':World}{T:TypeId}{p:Nat}{bs:List UInt8}{ts:List Tch}(h:Ar w T p F bs ts)(hm:Mod G w w')(hF:∀k,F k->¬G k):Ar w' T p F bs ts:=by
 obtain⟨gb,v,h,rfl⟩:=h;exact⟨gb,v,h.keep hm hF,rfl⟩
theorem Ar.lt{F:Nat->Prop}{w:World}{T:TypeId}{p:Nat}{bs:List UInt8}{ts:List Tch}(h:Ar w T p F bs ts):∀k,F k->k<w.heap.size:=by
 obtain⟨gb,v,h,rfl⟩:=h;exact h.lt
theorem Ar.same{F:Nat->Prop}{w:World}{T:TypeId}{p:Nat}{bs:List UInt8}{ts:List Tch}(h:Ar w T p F bs ts):Post w T p F bs ts w:=⟨F,h,Mod.refl _ _,fun k hk=>.inl hk⟩
theorem Ar.small{F:Nat->Prop}{w:World}{T:TypeId}{p:Nat}{bs:List UInt8}{ts:List Tch}(h:Ar w T p F bs ts):bs.length<=2097152:=by
 obtain⟨gb,v,h,rfl⟩:=h;exact h.small
theorem new_any(n:Int)(w:World):Calls prog 66 #[.int .i64 n] w (Ret fun v w'=>
  (¬(0<=n /\ n<=2097152) /\ v=.tuple #[.pointer none,.int .i64 12] /\ w'=w) \/
  (0<=n /\ n<=2097152 /\ ∃p F,v=.tuple #[zP p,.int .i64 0] /\ Ar w' 125 p F (List.replicate n.toNat 0) [] /\ Ext w w' /\ ∀k,F k->w.heap.size<=k)):=by
 refine vc6.ok ?_;unfold vc6;refine ifD (fun h=>.inl ⟨by omega,rfl,rfl⟩) (fun h=>?_);refine ifD (fun h=>.inl ⟨by omega,rfl,rfl⟩) (fun h'=>?_);refine⟨by omega,by omega,by omega,by omega,Q09 fun b w1 hb hE hs hs1=>Q09 fun p w2 hp hE2 hs2 hs3=>.inr ⟨by omega,by omega,p,_,rfl,⟨b,.slice none 0 0,⟨?_,?_,TRow.nil _,by omega,by simp[Value.ownBlock],by simp[Value.ownBlock],?_⟩,rfl⟩,hE.trans hE2,?_⟩⟩
 ·rw[zzlrp];exact hp
 ·rw[Q2L] at hb;exact hE2.keep hb
 ·rw[zzlrp];omega
 ·intro k hk;rcases hk with rfl | rfl | hk
  ·omega
  ·omega
  ·simp[Value.ownBlock] at hk
section
variable{w:World}{T:TypeId}{p gb:Nat}{v:Value}{bs:List UInt8}{ts:List Tch}
theorem Q1T(h:AR w T p gb v bs ts)(a k:Int) :
  Calls prog 155 #[zP p,.int .i64 a,.int .i64 k] w (Ret fun r w'=>r=.int .i64 (if OkA bs.length a k then 0 else 4) /\ w'=w):=by
 refine vc17.ok ?_;unfold vc17;have hsm:=h.small;refine Q00 rfl ?_;refine ifD (fun h1=>⟨by rw[if_neg (by omega)],rfl⟩) (fun h1=>?_);refine ifD (fun h2=>⟨by rw[if_neg (by omega)],rfl⟩) (fun h2=>?_);refine⟨_,_,_,h.slot0,?_⟩;refine ifD (fun h3=>⟨by rw[if_neg (by omega)],rfl⟩) (fun h3=>?_);refine⟨_,_,_,h.slot0,?_⟩;rw[Q04 (n:=(bs.length:Int)-a) (by omega) (by omega)];exact ifD (fun h4=>⟨by rw[if_pos (by omega)],rfl⟩) (fun h4=>⟨by rw[if_neg (by omega)],rfl⟩)
theorem Q9P{K:World->Prop}(h:AR w T p gb v bs ts)(a k:Int)(b:Bool)(hl:ts.length<1099511627776)
  (hK:∀v' w',AR w' T p gb v' bs (ts++[(a,k,b)])->Mod (fpA p gb v) w w'->(∀j,fpA p gb v' j->fpA p gb v j \/ w.heap.size<=j)->K w') :
  ∃(p1:Option Addr)(n2:Nat)(n3:Nat),w.cell? ((zA p).add 1)=some (Value.slice p1 n2 n3) /\
   ∀(n4:Nat)(w5:World),n4=w.heap.size->w5=w.alloc (Obj.cells #[Value.int IntKind.i64 a,Value.int IntKind.i64 k,Value.bool b] 47) →
    ∃(p6:Option Addr)(n7:Nat)(n8:Nat)(w9:World),
     Sem.run prog (Builtin.append_ #[44,44] 44 #[Value.slice p1 n2 n3,Value.slice (some (zA n4)) (1:Nat) (1:Nat)]) w5=Result.ok (Value.slice p6 n7 n8) w9 /\
     someA (some (zA p)) fun(a10:Addr)=>WrC w9 (a10.add (1:Nat)) (1:Nat) /\ ∀(w11:World),w11=wr w9 (a10.add (1:Nat)) [Value.slice p6 n7 n8]->K w11:=by
 obtain⟨p1,c,rfl⟩:=h.row.shape;refine⟨p1,_,c,h.slot1,Q09 fun n4 w5 hb hE hs hs5=>?_⟩;have h5:=h.ext hE;obtain⟨v',w9,hr,hrow,hm,hv⟩:=Q5G (t:=(a,k,b)) (a:=⟨n4,0,none⟩) (c:=1) h5.row (Q08 hb) hl;obtain⟨p6,c6,rfl⟩:=hrow.shape;refine⟨p6,_,c6,w9,hr,?_⟩;have hlt:=h.lt;have nep:∀j,(Value.slice p6 (ts++[(a,k,b)]).length c6).ownBlock=some j->j ≠ p /\ j ≠ gb:=by
  intro j hj;rcases hv j hj with e | e
  ·exact⟨fun q=>h.vp (by rw[e,q]),fun q=>h.vg (by rw[e,q])⟩
  ·have h1:=hlt p (.inl rfl);have h2:=hlt gb (.inr (.inl rfl));have:=hE.size;exact⟨by omega,by omega⟩
 have hp9:w9.heap[p]? = some (.cells #[.slice (some ⟨gb,0,none⟩) bs.length bs.length,Value.slice p1 ts.length c] T (0,0)):=hm.keep h5.head (fun e=>h.vp e);have hg9:=hm.keep h5.data (fun e=>h.vg e);simp only[someA,Q02];refine Q0e (n:=1) hp9 (by simp) fun w11 h11 hm11 hs11=>?_;have hmod:Mod (fpA p gb (Value.slice p1 ts.length c)) w w11:=by
  refine Mod.trans (Mod.trans (hE.mod (F:=fpA p gb (Value.slice p1 ts.length c))) hm (fun j _ hj=>.inr (.inr hj))) hm11 (fun j _ hj=>.inl hj)
 refine hK _ w11 ⟨?_,hm11.keep hg9 (fun e=>h.ne e.symm),hrow.keep hm11 (fun j hj=>(nep j hj).1),h.ne,fun e=>(nep p e).1 rfl,fun e=>(nep gb e).2 rfl,h.small⟩ hmod (fun j hj=>?_)
 ·simpa [setAt] using h11
 ·rcases hj with rfl | rfl | hj
  ·exact .inl (.inl rfl)
  ·exact .inl (.inr (.inl rfl))
  ·rcases hv j hj with e | e
   ·exact .inl (.inr (.inr e))
   ·exact .inr (by have:=hE.size;omega)
theorem Q19(h:AR w T p gb v bs ts)(a k:Int)(b:Bool)(hok:OkA bs.length a k)(hl:ts.length<1099511627776) :
  Calls prog 156 #[zP p,.int .i64 a,.int .i64 k,.bool b] w
   (Ret fun r w'=>r=.slice (subA (some ⟨gb,0,none⟩) a.toNat bs.length 1) k.toNat (bs.length-a.toNat) /\
    ∃v',AR w' T p gb v' bs (noteA ts a k b) /\ Mod (fpA p gb v) w w' /\ ∀j,fpA p gb v' j->fpA p gb v j \/ w.heap.size<=j):=by
 refine vc18.ok ?_;unfold vc18;have hsm:=h.small;have hwr:IntKind.i64.wrap (a+k)=a+k:=Q04 (by omega) (by omega);refine ifD (fun h1=>?_) (fun h1=>?_)
 ·refine Q9P h a k b hl fun v' w' h' hm hf=>?_;refine⟨_,_,_,h'.slot0,?_⟩;rw[hwr];refine⟨by omega,by omega,by omega,?_,v',?_,hm,hf⟩
  ·rw[show(a+k).toNat-a.toNat=k.toNat by omega]
  ·rw[noteA,if_pos h1];exact h'
 ·refine⟨_,_,_,h.slot0,?_⟩;rw[hwr];refine⟨by omega,by omega,by omega,?_,v,?_,Mod.refl _ _,fun j hj=>.inl hj⟩
  ·rw[show(a+k).toNat-a.toNat=k.toNat by omega]
  ·rw[noteA,if_neg h1];exact h
end
end
end Go.Proofs.YtpnbcakbefplpaaGreatDoor
