/- Texts merged: Arena2 Bytes Chain Chain2 PShelf PShelf2 PShelf3 VcG PageM PageC PageD PageE PageF PageG Flt GwMap VcB Tab Pcs VwA Bld VwB VwC VwD TA. Conditions: none. -/
import Derived.Lib.SliceRun
import Derived.Test.YtpnbcakbefplpaaGreatDoorProg
import Derived.KernelRfl
import Derived.Laws.FloatArith
import Derived.Maps.OwnSet
import Derived.Laws.Small
import Derived.Lib.AppendStr
import Derived.Lib.UnsafeStr
import Derived.Lib.Builder
import Derived.Laws.Externs
import Derived.Test.YtpnbcakbefplpaaGreatDoorM01
set_option linter.unusedVariables false
set_option linter.unusedSimpArgs false
namespace Go.Proofs.YtpnbcakbefplpaaGreatDoor
open _root_.Go.Proofs.Tryz (prog)
section
open Go.RowKit
def le8(x:Nat):List UInt8:=(List.range 8).map fun i=>UInt8.ofNat (x / 256 ^ i)
def leV:List UInt8->Nat
 | []=>0
 | b :: l=>b.toNat+256*leV l
theorem Q0x(x:Nat):(le8 x).length=8:=by simp[le8]
theorem Qec(x:Nat){j:Nat}(hj:j<8):(le8 x)[j]? = some (UInt8.ofNat (x / 256 ^ j)):=by simp[le8,hj]
theorem Qcy(n:Nat):(UInt8.ofNat n).toNat=n % 256:=by simp
theorem QdM(x j:Nat):(x:Int) / 2 ^ (8*j) % 256=((x / 256 ^ j % 256:Nat):Int):=by
 have h:(256:Nat) ^ j=2 ^ (8*j):=by rw[Nat.pow_mul]
 rw[h,Int.natCast_emod,Int.natCast_ediv,Int.natCast_pow];rfl
theorem Q9A:∀l:List UInt8,leV l<256 ^ l.length
 | []=>by simp[leV]
 | b :: l=>by
  have:=Q9A l;have hb:=b.toNat_lt;simp only[leV,List.length_cons,Nat.pow_succ];omega
theorem Q7f:∀(l:List UInt8)(j:Nat)(b:UInt8),l[j]? = some b->leV (l.take (j+1))=leV (l.take j)+b.toNat*256 ^ j
 | [],j,b,h=>by simp at h
 | c :: l,0,b,h=>by
  simp at h;subst h;simp[leV]
 | c :: l,j+1,b,h=>by
  have ih:=Q7f l j b (by simpa using h);simp only[List.take_succ_cons,leV,ih,Nat.pow_succ,Nat.mul_add];have:256*(b.toNat*256 ^ j)=b.toNat*(256 ^ j*256):=by rw[<-Nat.mul_assoc,Nat.mul_comm 256,Nat.mul_assoc,Nat.mul_comm 256]
  omega
def strOf(l:List UInt8):ByteArray:=ByteArray.mk l.toArray
def bytesOf(s:ByteArray):List UInt8:=s.data.toList
theorem Q0v(s:ByteArray):(bytesOf s).length=s.size:=by
 show s.data.toList.length=s.data.size;exact Array.length_toList
section
variable{w w4 w':World}{T:TypeId}{p gb:Nat}{v v':Value}{bs bs':List UInt8}{ts ts':List Tch}{F:Nat->Prop}
theorem Q2A(hm:Mod (fpA p gb v) w w4)(hf:∀j,fpA p gb v' j->fpA p gb v j \/ w.heap.size<=j)(h:AR w' T p gb v' bs ts)(hm':Mod (· = gb) w4 w'):Post w T p (fpA p gb v) bs ts w':=
 ⟨_,⟨gb,v',h,rfl⟩,Mod.trans hm hm' (fun k _ hk=>.inr (.inl hk)),hf⟩
theorem AR.setRow(h:AR w T p gb v bs ts)(o:Nat)(l:List UInt8)(ho:o+l.length<=bs.length) :
  AR (w.setRow gb ((bC bs).take o++bC l++(bC bs).drop (o+l.length)).toArray) T p gb v (putAt bs o l) ts /\
  Mod (· = gb) w (w.setRow gb ((bC bs).take o++bC l++(bC bs).drop (o+l.length)).toArray):=by
 have hm:Mod (· = gb) w (w.setRow gb ((bC bs).take o++bC l++(bC bs).drop (o+l.length)).toArray):=⟨rfl,rfl,rfl,by simp,fun k _ hk=>setRow_other w gb k _ hk⟩;refine⟨h.bytes ?_ hm (Q0k ho),hm⟩;rw[setRow_heap w gb _ _ _ _ h.data];simp[putAt,bC]
theorem Q2h(gb a n:Nat):∃o,subA (some (zA gb)) a n 1=some (Addr.mk gb o none) /\ (o=a \/ (a=n /\ o=0)):=by
 by_cases h:n=a
 ·subst h;refine⟨0,by simp[subA],.inr ⟨rfl,rfl⟩⟩
 ·refine⟨a,by simp[subA,h,Q02],.inl rfl⟩
theorem Qat(h:Ar w T p F bs ts)(a x:Int)(hx0:0<=x)(hx:x<18446744073709551616)(hl:ts.length<1099511627776) :
  Calls prog 265 #[zP p,.int .i64 a,.int .u64 x] w (Ret fun r w'=>r=.int .i64 (if OkA bs.length a 8 then 0 else 4) /\
   Post w T p F (if OkA bs.length a 8 then putAt bs a.toNat (le8 x.toNat)else bs) (if OkA bs.length a 8 then noteA ts a 8 true else ts) w'):=by
 obtain⟨gb,v,h,rfl⟩:=h;have hsm:=h.small;obtain⟨xn,rfl⟩:=zzeoz hx0;simp only[zztnc];refine vc65.ok ?_;unfold vc65;refine .of (Q1T h a 8) ?_;rintro r w1 ⟨rfl,rfl⟩;refine⟨_,rfl,?_⟩;by_cases hok:OkA bs.length a 8
 case neg=>
  simp only[if_neg hok];exact Q03 rfl ⟨by trivial,Ar.same ⟨gb,v,h,rfl⟩⟩
 simp only[if_pos hok];refine Q00 rfl ?_;refine .of (Q19 h a 8 true hok hl) ?_;rintro r w4 ⟨rfl,v',h4,hm4,hf4⟩;refine⟨_,_,_,rfl,?_⟩;rw[Q3B (by omega:a.toNat<bs.length)];refine⟨fun n i w12=>∃j:Nat,i=j /\ n+j=8 /\ AR w12 T p gb v' (putAt bs a.toNat ((le8 xn).take j)) (noteA ts a 8 true) /\ Mod (· = gb) w4 w12,⟨8,0,rfl,rfl,by simpa [Q11] using h4,Mod.refl _ _⟩,?_⟩;rintro n jv _ w12 ⟨j,rfl,hn,h12,hm12⟩;refine ifD (fun hj=>?_) (fun hj=>?_)
 ·have hj8:j<8:=by omega
  have hlen:(putAt bs a.toNat ((le8 xn).take j)).length=bs.length:=Q0k (by rw[zzlnt,Q0x];omega);rw[Q04 (n:=8*(j:Int)) (by omega) (by omega)];refine⟨by omega,by omega,hj,?_⟩;simp only[someA,Q02,zztnc];have hb:IntKind.u8.wrap (shrV .u64 (xn:Int) (8*(j:Int)))=((UInt8.ofNat (xn / 256 ^ j)).toNat:Int):=by
   rw[show(8:Int)*(j:Int)=((8*j:Nat):Int) by omega,Q2e (by omega) (by omega),Q6L,Qcy,QdM]
  rw[hb];refine h12.set (by rw[hlen];omega) _ fun w1 h1 hm1 _=>?_;refine⟨n-1,by omega,j+1,?_,by omega,?_,Mod.trans hm12 hm1 (fun _ _ x=>x)⟩
  ·rw[Q04 (by omega) (by omega)];omega
  ·rw[Q8r (by rw[Q0x];omega) (Qec _ hj8)] at h1;exact h1
 ·have hj8:j=8:=by omega
  subst hj8;rw[List.take_of_length_le (by rw[Q0x];omega)] at h12;exact⟨by trivial,Q2A hm4 hf4 h12 hm12⟩
theorem Qen{acc b j:Nat}(hj:j<8)(hacc:acc<256 ^ j)(hb:b<256) :
  bits .or .u64 (acc:Int) (shlV .u64 (IntKind.u64.wrap (b:Int)) ((8*j:Nat):Int))=((acc+b*256 ^ j:Nat):Int):=by
 have h256:256 ^ j=2 ^ (8*j):=by rw[Nat.pow_mul]
 have hp:(256:Nat) ^ j<=256 ^ 7:=Nat.pow_le_pow_right (by decide) (by omega);have h7:(256:Nat) ^ 7=72057594037927936:=by decide
 have hbm:b*256 ^ j<=255*256 ^ 7:=Nat.mul_le_mul (by omega) hp;rw[Q0B (by omega) (by omega),Q1H _ (by omega),show(b:Int)*2 ^ (8*j)=((b*256 ^ j:Nat):Int) by rw[h256];norm_cast,Q0B (by omega) (by omega),Q2q (by omega) (by omega)];congr 1;rw[Nat.or_comm,h256,Nat.mul_comm];rw[h256] at hacc;rw[<-Nat.two_pow_add_eq_or_of_lt hacc];omega
theorem QbM(h:Ar w T p F bs ts)(a:Int)(hl:ts.length<1099511627776) :
  Calls prog 269 #[zP p,.int .i64 a] w (Ret fun r w'=>
   r=.tuple #[.int .u64 ((if OkA bs.length a 8 then leV (seg bs a.toNat 8)else 0:Nat):Int),.int .i64 (if OkA bs.length a 8 then 0 else 4)] /\
   Post w T p F bs (if OkA bs.length a 8 then noteA ts a 8 false else ts) w'):=by
 obtain⟨gb,v,h,rfl⟩:=h;have hsm:=h.small;refine vc68.ok ?_;unfold vc68;refine .of (Q1T h a 8) ?_;rintro r w1 ⟨rfl,rfl⟩;refine⟨_,rfl,?_⟩;by_cases hok:OkA bs.length a 8
 case neg=>
  simp only[if_neg hok];exact Q03 rfl ⟨by trivial,Ar.same ⟨gb,v,h,rfl⟩⟩
 simp only[if_pos hok];refine Q00 rfl ?_;refine .of (Q19 h a 8 false hok hl) ?_;rintro r w4 ⟨rfl,v',h4,hm4,hf4⟩;refine⟨_,_,_,rfl,?_⟩;rw[Q3B (by omega:a.toNat<bs.length)];have hsl:(seg bs a.toNat 8).length=8:=Q0J (by omega);refine⟨fun n acc i w12=>∃j:Nat,i=j /\ n+j=8 /\ acc=(leV ((seg bs a.toNat 8).take j):Int) /\ w12=w4,⟨8,0,rfl,rfl,by simp[leV],by trivial⟩,?_⟩;rintro n jv _ _ w12 ⟨j,rfl,hn,rfl,rfl⟩;refine ifD (fun hj=>?_) (fun hj=>?_)
 ·have hj8:j<8:=by omega
  obtain⟨b,hb⟩:∃b,(seg bs a.toNat 8)[j]? = some b:=⟨_,zzgge (by omega)⟩;have hb':bs[a.toNat+j]? = some b:=by rw[<-hb,Qal hj8]
  refine⟨by omega,hj,?_⟩;simp only[someA,Q02,zztnc];refine⟨_,h4.byteAt hb',?_⟩;rw[Q04 (n:=8*(j:Int)) (by omega) (by omega)];refine⟨by omega,n-1,by omega,j+1,?_,by omega,?_,by trivial⟩
  ·rw[Q04 (by omega) (by omega)];omega
  ·have hlt:leV ((seg bs a.toNat 8).take j)<256 ^ j:=by
    have:=Q9A ((seg bs a.toNat 8).take j)
    rwa [zzlnt,hsl,Nat.min_eq_left (by omega)] at this
   rw[Q7f _ _ _ hb,show(8:Int)*(j:Int)=((8*j:Nat):Int) by omega];exact Qen hj8 hlt b.toNat_lt
 ·have hj8:j=8:=by omega
  subst hj8;rw[List.take_of_length_le (by omega)];exact⟨by trivial,Q2A hm4 hf4 h4 (Mod.refl _ _)⟩
theorem Qcb(h:Ar w T p F bs ts)(a k:Int)(hl:ts.length<1099511627776) :
  Calls prog 106 #[zP p,.int .i64 a,.int .i64 k] w (Ret fun r w'=>
   r=.tuple #[.string (if OkA bs.length a k then strOf (seg bs a.toNat k.toNat)else ByteArray.mk #[]),.int .i64 (if OkA bs.length a k then 0 else 4)] /\
   Post w T p F bs (if OkA bs.length a k then noteA ts a k false else ts) w'):=by
 obtain⟨gb,v,h,rfl⟩:=h;have hsm:=h.small;refine vc8.ok ?_;unfold vc8;refine .of (Q1T h a k) ?_;rintro r w1 ⟨rfl,rfl⟩;refine⟨_,rfl,?_⟩;by_cases hok:OkA bs.length a k
 case neg=>
  simp only[if_neg hok];exact Q03 rfl ⟨by trivial,Ar.same ⟨gb,v,h,rfl⟩⟩
 simp only[if_pos hok];refine Q00 rfl ?_;refine .of (Q19 h a k false hok hl) ?_;rintro r w4 ⟨rfl,v',h4,hm4,hf4⟩;exact⟨_,_,_,rfl,seg bs a.toNat k.toNat,Q0J (by omega),h4.part (by omega),by trivial,Q2A hm4 hf4 h4 (Mod.refl _ _)⟩
theorem Qbd(h:Ar w T p F bs ts)(a:Int)(s:ByteArray)(hl:ts.length<1099511627776) :
  Calls prog 196 #[zP p,.int .i64 a,.string s] w (Ret fun r w'=>r=.int .i64 (if OkA bs.length a s.size then 0 else 4) /\
   Post w T p F (if OkA bs.length a s.size then putAt bs a.toNat (bytesOf s)else bs) (if OkA bs.length a s.size then noteA ts a s.size true else ts) w'):=by
 obtain⟨gb,v,h,rfl⟩:=h;have hsm:=h.small;refine vc35.ok ?_;unfold vc35;refine .of (Q1T h a s.size) ?_;rintro r w1 ⟨rfl,rfl⟩;refine⟨_,rfl,?_⟩;by_cases hok:OkA bs.length a s.size
 case neg=>
  simp only[if_neg hok];exact Q00 rfl ⟨by trivial,Ar.same ⟨gb,v,h,rfl⟩⟩
 simp only[if_pos hok];refine Q03 rfl ?_;refine .of (Q19 h a s.size true hok hl) ?_;rintro r w4 ⟨rfl,v',h4,hm4,hf4⟩;refine⟨_,_,_,rfl,?_⟩;obtain⟨o,ho,ho'⟩:=Q2h gb a.toNat bs.length;rw[ho];have hbl:=Q0v s;have hfit:o+s.size<=bs.length:=by omega
 have hrun:=Lib.run_copy_row_string (P:=prog) w4 73 9 3 5 gb o (s.size:Int).toNat (bs.length-a.toNat) s (bC bs).toArray 5 (by kernel_rfl) (by kernel_rfl) h4.data (by omega) (by simp[bC];omega);have hp:=h4.setRow o (bytesOf s) (by omega);refine⟨_,_,hrun,by trivial,?_⟩;have e:putAt bs a.toNat (bytesOf s)=putAt bs o (bytesOf s):=by
  rcases ho' with rfl | ⟨h1,h2⟩
  ·rfl
  ·have:bytesOf s=[]:=List.eq_nil_of_length_eq_zero (by omega);rw[this,Q11,Q11]
 rw[e];have hp1:=hp.1;have hp2:=hp.2;rw[hbl] at hp1 hp2;exact Q2A hm4 hf4 hp1 hp2
theorem Q88{P:Program}(w:World)(t e ty:TypeId)(ht:P.underlying t=some (.slice e))(q:Option Addr)(c:Nat):(Builtin.clear_ #[t] ty #[.slice q 0 c]).run P w=.ok (.tuple #[]) w:=by
 cases q <;> simp[Builtin.clear_,run_underlying ht]
theorem Q3x(h:AR w T p gb v bs ts)(o n c:Nat)(hn:o+n<=bs.length) :
  ∃w1,(Builtin.clear_ #[73] 0 #[.slice (some ⟨gb,o,none⟩) n c]).run prog w=.ok (.tuple #[]) w1 /\ AR w1 T p gb v (putAt bs o (List.replicate n 0)) ts /\ Mod (· = gb) w w1:=by
 by_cases hn0:n=0
 ·subst hn0;refine⟨w,Q88 w 73 5 0 (by kernel_rfl) _ c,?_,Mod.refl _ _⟩;simpa [Q11] using h
 ·have hz:∀w,(zeroValue 5).run prog w=.ok (.int .u8 0) w:=fun _=>by kernel_rfl
  have hp:=h.setRow o (List.replicate n 0) (by simpa using hn);have hzc:(Builtin.zeroCells (Value.int .u8 0).cells n).toList=bC (List.replicate n 0):=by
   apply List.ext_getElem?;intro j;rw[Q3N];by_cases hj:j<n
   ·simp[Builtin.zeroCells,Value.cells,hj,Nat.mod_one]
   ·simp[Builtin.zeroCells,Value.cells,hj]
  have hst:=run_storeCells_at prog gb o 5 (bC (List.replicate n 0)) 0 (bC bs).toArray w h.data (by simp[bC];omega) (QcF _);have hlen:(bC (List.replicate n 0)).length=n:=by simp[bC]
  simp only[Nat.add_zero,hlen] at hst;have hlen2:(List.replicate n (0:UInt8)).length=n:=by simp
  rw[hlen2] at hp;refine⟨_,?_,hp.1,hp.2⟩;obtain⟨m,rfl⟩:∃m,n=m+1:=⟨n-1,by omega⟩;simp[Builtin.clear_,run_underlying (P:=prog) (t:=73) (d:=.slice 5) (by kernel_rfl),hz,hzc,hst]
theorem Q5a(h:Ar w T p F bs ts)(a k:Int)(hl:ts.length<1099511627776) :
  Calls prog 171 #[zP p,.int .i64 a,.int .i64 k] w (Ret fun r w'=>r=.int .i64 (if OkA bs.length a k then 0 else 4) /\
   Post w T p F (if OkA bs.length a k then putAt bs a.toNat (List.replicate k.toNat 0)else bs) (if OkA bs.length a k then noteA ts a k true else ts) w'):=by
 obtain⟨gb,v,h,rfl⟩:=h;have hsm:=h.small;refine vc22.ok ?_;unfold vc22;refine .of (Q1T h a k) ?_;rintro r w1 ⟨rfl,rfl⟩;refine⟨_,rfl,?_⟩;by_cases hok:OkA bs.length a k
 case neg=>
  simp only[if_neg hok];exact Q00 rfl ⟨by trivial,Ar.same ⟨gb,v,h,rfl⟩⟩
 simp only[if_pos hok];refine Q03 rfl ?_;refine .of (Q19 h a k true hok hl) ?_;rintro r w4 ⟨rfl,v',h4,hm4,hf4⟩;refine⟨_,_,_,rfl,?_⟩;obtain⟨o,ho,ho'⟩:=Q2h gb a.toNat bs.length;rw[ho];obtain⟨w5,hr,h5,hm5⟩:=Q3x h4 o k.toNat (bs.length-a.toNat) (by omega);refine⟨w5,hr,by trivial,?_⟩;have e:putAt bs a.toNat (List.replicate k.toNat 0)=putAt bs o (List.replicate k.toNat 0):=by
  rcases ho' with rfl | ⟨h1,h2⟩
  ·rfl
  ·rw[show k.toNat=0 by omega,List.replicate_zero,Q11,Q11]
 rw[e];exact Q2A hm4 hf4 h5 hm5
theorem Q9O(ts:List Tch)(a k:Int)(b:Bool):(noteA ts a k b).length<=ts.length+1:=by
 unfold noteA;split
 ·simp
 ·omega
set_option maxRecDepth 20000 in
theorem Qbs(h:Ar w T p F bs ts)(t a k:Int)(hl:ts.length<1099511627770) :
  Calls prog 170 #[zP p,.int .i64 t,.int .i64 a,.int .i64 k] w (Ret fun r w'=>r=.int .i64 (if OkA bs.length t k /\ OkA bs.length a k then 0 else 4) /\
   Post w T p F (if OkA bs.length t k /\ OkA bs.length a k then putAt bs t.toNat (seg bs a.toNat k.toNat)else bs) (if OkA bs.length t k /\ OkA bs.length a k then noteA (noteA ts a k false) t k true else ts) w'):=by
 obtain⟨gb,v,h,rfl⟩:=h;have hsm:=h.small;refine vc21.ok ?_;unfold vc21;refine .of (Q1T h t k) ?_;rintro r w1 ⟨rfl,rfl⟩;refine⟨_,rfl,?_⟩;by_cases hok:OkA bs.length t k
 case neg=>
  rw[if_neg hok,if_neg (fun q=>hok q.1),if_neg (fun q=>hok q.1),if_neg (fun q=>hok q.1)];exact Q03 rfl ⟨by trivial,Ar.same ⟨gb,v,h,rfl⟩⟩
 rw[if_pos hok];refine Q00 rfl ?_;refine .of (Q1T h a k) ?_;rintro r w1 ⟨rfl,rfl⟩;refine⟨_,rfl,?_⟩;by_cases hok2:OkA bs.length a k
 case neg=>
  rw[if_neg hok2,if_neg (fun q=>hok2 q.2),if_neg (fun q=>hok2 q.2),if_neg (fun q=>hok2 q.2)];exact Q03 rfl ⟨by trivial,Ar.same ⟨gb,v,h,rfl⟩⟩
 rw[if_pos hok2,if_pos ⟨hok,hok2⟩,if_pos ⟨hok,hok2⟩,if_pos ⟨hok,hok2⟩];refine Q00 rfl ?_;refine .of (Q19 h a k false hok2 (by omega)) ?_;rintro r w4 ⟨rfl,v',h4,hm4,hf4⟩;refine⟨_,_,_,rfl,?_⟩;have hln:(noteA ts a k false).length<1099511627776:=Nat.lt_of_le_of_lt (Q9O ts a k false) (by omega);refine .of (Q19 h4 t k true hok hln) ?_;rintro r w5 ⟨rfl,v'',h5,hm5,hf5⟩;refine⟨_,_,_,rfl,?_⟩;obtain⟨o,ho,ho'⟩:=Q2h gb t.toNat bs.length;obtain⟨oa,hoa,hoa'⟩:=Q2h gb a.toNat bs.length;have hpart:=h5.part (a:=a.toNat) (k:=k.toNat) (by omega);rw[hoa] at hpart;rw[ho,hoa];have hsl:(seg bs a.toNat k.toNat).length=k.toNat:=Q0J (by omega);have hsrc:∀j u,(bC (seg bs a.toNat k.toNat))[j]? = some u->w5.cell? ((Addr.mk gb oa none).add j)=some u:=by
  intro j u hu;rw[Q3N] at hu;cases hb:(seg bs a.toNat k.toNat)[j]? with
  | none=>rw[hb] at hu;cases hu
  | some b=>
   rw[hb] at hu;cases hu;obtain⟨x,hx,hc⟩:=hpart j b hb;cases hx;exact hc
 have hrun:=run_copy_row (P:=prog) w5 73 73 3 5 gb o k.toNat (bs.length-t.toNat) ⟨gb,oa,none⟩ k.toNat (bs.length-a.toNat) (bC bs).toArray 5 (bC (seg bs a.toNat k.toNat)) (by kernel_rfl) (by kernel_rfl) h5.data
  (by rw[Q3e,hsl];simp) hsrc (by rw[Q3e,hsl];simp[bC];omega) (QcF _)
 have hp:=h5.setRow o (seg bs a.toNat k.toNat) (by omega);rw[Q3e] at hrun;refine⟨_,_,hrun,by trivial,?_⟩;have e:putAt bs t.toNat (seg bs a.toNat k.toNat)=putAt bs o (seg bs a.toNat k.toNat):=by
  rcases ho' with rfl | ⟨h1,h2⟩
  ·rfl
  ·have:seg bs a.toNat k.toNat=[]:=List.eq_nil_of_length_eq_zero (by omega);rw[this,Q11,Q11]
 rw[e];refine Q2A (Mod.trans hm4 hm5 (fun j hj hk=>?_)) (fun j hj=>?_) hp.1 hp.2
 ·rcases hf4 j hk with q | q
  ·exact q
  ·omega
 ·rcases hf5 j hj with q | q
  ·exact hf4 j q
  ·exact .inr (Nat.le_trans hm4.size q)
theorem size_any(h:Ar w T p F bs ts):Calls prog 240 #[zP p] w (Ret fun r w'=>r=.int .i64 bs.length /\ w'=w):=by
 obtain⟨gb,v,h,rfl⟩:=h;refine vc51.ok ?_;unfold vc51;exact Q00 rfl ⟨_,_,_,h.slot0,rfl,rfl⟩
theorem Q6k{K:World->Prop}(h:Ar w T p F bs ts)(hK:∀w',Post w T p F bs [] w'->K w') :
  WrC w ((zA p).add 1) 1 /\ ∀w1,w1=wr w ((zA p).add 1) [Value.slice none 0 0]->K w1:=by
 obtain⟨gb,v,h,rfl⟩:=h;rw[Q02];refine Q0e (n:=1) h.head (by simp) fun w1 h1 hm hs=>hK w1 ⟨_,⟨gb,.slice none 0 0,h.turn hm (by simpa [setAt] using h1) (TRow.nil _) (by simp[Value.ownBlock]) (by simp[Value.ownBlock]),rfl⟩,hm.mono (fun _ q=>.inl q),fun k hk=>.inl ?_⟩;rcases hk with q | q | q
 ·exact .inl q
 ·exact .inr (.inl q)
 ·simp[Value.ownBlock] at q
theorem Q8d(h:Ar w T p F bs ts):Calls prog 36 #[zP p] w (Ret fun r w'=>r=.tuple #[] /\ Post w T p F bs [] w'):=by
 refine vc0.ok ?_;unfold vc0;refine Q03 rfl ?_;exact Q6k h fun w' hw=>⟨by trivial,hw⟩
theorem Q6G(h:Ar w T p F bs ts)(hl:ts.length<1099511627776) :
  Calls prog 43 #[zP p] w (Ret fun r w'=>TRow w' r ts /\ Ext w w' /\ ∀k,r.ownBlock=some k->w.heap.size<=k):=by
 obtain⟨gb,v,h,rfl⟩:=h;refine vc1.ok ?_;unfold vc1;refine Q00 rfl (Q09 fun n w1 hb hE hs hs1=>?_);have h1:=h.ext hE;obtain⟨q,c,rfl⟩:=h1.row.shape;refine⟨q,_,c,h1.slot1,?_⟩;have hown:w1.ownsRow 0 47 3 (.slice (some ⟨n,0,none⟩) 0 0) 0 []:=⟨rfl,.inr ⟨n,0,#[],rfl,Nat.zero_le _,hb,Nat.zero_le _,Nat.zero_le _,rfl,rfl⟩⟩;obtain⟨i,hi,hsz,hby,hz⟩:∃i,Tryz.prog.info? 47=some i /\ i.size=3 /\ i.bytes=24 /\ i.zero=some (.agg #[.int .i64 0,.int .i64 0,.bool false]):=Q4v (by kernel_rfl);rcases h1.row.2 with⟨e,h0⟩ | ⟨g,cap,cur,e,_⟩
 ·obtain⟨rfl,_,rfl⟩:=Value.slice.inj e;have hts:ts=[]:=List.eq_nil_of_length_eq_zero h0;subst hts;refine⟨_,_,_,w1,Q66 w1 44 44 47 i (by kernel_rfl) hi _ 0 0 (Nat.le_refl _),hown,hE,fun k hk=>?_⟩;simp[Value.ownBlock] at hk;omega
 ·obtain⟨rfl,_,rfl⟩:=Value.slice.inj e;obtain⟨v',w',hr,ho,hg,hne⟩:=Q2p (P:=prog) w1 44 44 47 i _ 3 24 (by kernel_rfl) hi hz hsz hby rfl _ 0 [] hown ⟨g,0,none⟩ ts.length c (tcells ts) (by rw[Q4U]) (World.ownsRow.cells h1.row (g:=g) rfl)
   (Q45 ts) (by simp only[maxLen];omega) (by omega)
  simp only[List.nil_append,Nat.zero_add] at ho;obtain⟨q',c',rfl⟩:=TRow.shape (w:=w') (v:=v') (ts:=ts) ho;refine⟨q',_,c',w',hr,ho,Ext.new hE hg (fun k hk=>?_),fun k hk=>?_⟩
  ·simp[Value.ownBlock] at hk;omega
  ·rcases hne k hk with q | q
   ·simp[Value.ownBlock] at q;omega
   ·have:=hE.size;omega
end
end
section
open Go.RowKit
theorem Q1P{s t:ByteArray}(h:bytesOf s=bytesOf t):s=t:=by
 apply ByteArray.ext;exact Array.ext' h
theorem Q0s(l:List UInt8):bytesOf (strOf l)=l:=rfl
theorem Q0U(s:ByteArray)(a b:Nat):bytesOf (s.extract a b)=seg (bytesOf s) a (b-a):=by
 simp only[bytesOf,ByteArray.data_extract,Array.toList_extract,seg,List.extract_eq_take_drop]
theorem QbS{w:World}{K:Nat->World->Prop}(n:Nat)(h:∀b w1,BytesAt w1 (some (zA b)) (List.replicate n 0)->Ext w w1->K b w1) :
  ∀(b:Nat)(w1:World),b=w.heap.size->w1=w.alloc (.cells (madeCells #[Value.int .u8 0] (n*1)) 5)->K b w1:=by
 refine Q09 fun b w1 hb hE _ _=>h b w1 (fun j u hu=>⟨_,rfl,?_⟩) hE;rw[Q2L] at hb;rw[Q02];refine Q01 hb ?_;rw[Nat.zero_add,List.getElem?_toArray,Q3N,hu];rfl
theorem QbT{w:World}{K:List UInt8->World->Prop}(n:Nat)(h:∀w1,Ext w w1->K (List.replicate n 0) w1) :
  ∀(b:Nat)(w1:World),b=w.heap.size->w1=w.alloc (.cells (madeCells #[Value.int .u8 0] (n*1)) 5)->∃x:List UInt8,x.length=n /\ BytesAt w1 (some (zA b)) x /\ K x w1:=
 QbS n fun b w1 hb hE=>⟨List.replicate n 0,by simp,hb,h w1 hE⟩
end
section
open Go.RowKit
section
variable{w:World}{T:TypeId}{p:Nat}{F:Nat->Prop}{bs:List UInt8}{ts:List Tch}
theorem Ar.ext{w':World}(h:Ar w T p F bs ts)(hE:Ext w w'):Ar w' T p F bs ts:=h.keep hE (fun _ _ x=>x)
theorem Q7R(h:Ar w T p F bs ts){a x:Nat}(hx:x<18446744073709551616)(ha:a+8<=bs.length)(hl:ts.length<549755813888) :
  Calls prog 265 #[zP p,.int .i64 (a:Int),.int .u64 (x:Int)] w (Ret fun r w'=>r=.int .i64 0 /\ Post w T p F (putAt bs a (le8 x)) (ts++[((a:Int),8,true)]) w'):=by
 have hok:OkA bs.length (a:Int) 8:=⟨by omega,by omega,by omega⟩;refine Q1u (Qat h (a:Int) (x:Int) (by omega) (by omega) (by omega)) ?_;rintro r w' ⟨rfl,hp⟩;rw[if_pos hok,if_pos hok,zztnc,zztnc] at hp;exact⟨by rw[if_pos hok],hp⟩
theorem Qef(h:Ar w T p F bs ts){a:Nat}(ha:a+8<=bs.length)(hl:ts.length<549755813888) :
  Calls prog 269 #[zP p,.int .i64 (a:Int)] w (Ret fun r w'=>r=.tuple #[.int .u64 ((leV (seg bs a 8):Nat):Int),.int .i64 0] /\ Post w T p F bs (ts++[((a:Int),8,false)]) w'):=by
 have hok:OkA bs.length (a:Int) 8:=⟨by omega,by omega,by omega⟩;refine Q1u (QbM h (a:Int) (by omega)) ?_;rintro r w' ⟨rfl,hp⟩;rw[if_pos hok] at hp;exact⟨by rw[if_pos hok,if_pos hok,zztnc],hp⟩
theorem Qed(bs:List UInt8)(a:Nat):leV (seg bs a 8)<18446744073709551616:=by
 have h:=Q9A (seg bs a 8);have hl:(seg bs a 8).length<=8:=by simp[seg,zzlnt];omega
 exact Nat.lt_of_lt_of_le h (by calc 256 ^ (seg bs a 8).length<=256 ^ 8:=Nat.pow_le_pow_right (by decide) hl
  _=18446744073709551616:=by decide)
end
def CH(w:World)(T:TypeId)(cb p base unit per:Nat)(head:Int):Prop:=
 w.heap[cb]? = some (.cells #[zP p,.int .i64 (base:Int),.int .i64 (unit:Int),.int .i64 (per:Int),.int .i64 head] T (0,0))
theorem CH.keep{F:Nat->Prop}{w w':World}{T:TypeId}{cb p base unit per:Nat}{head:Int}(h:CH w T cb p base unit per head)(hm:Mod F w w')(hF:¬F cb):CH w' T cb p base unit per head:=hm.keep (show w.heap[cb]? = _ from h) hF
structure CfgC (n base unit per:Nat) (head:Int):Prop where
 u8:8<=unit
 u512:unit<=512
 p1:1<=per
 p64:per<=64
 fit:base+unit*per<=n
 n21:n<=2097152
 h0:-1<=head
 h1:head<per
theorem CfgC.at{n base unit per:Nat}{head:Int}(g:CfgC n base unit per head){k:Nat}(hk:k<per):base+k*unit+8<=n /\ k*unit<=n:=by
 have h1:(k+1)*unit<=per*unit:=zzmlr _ hk;rw[Nat.add_mul,Nat.one_mul,Nat.mul_comm per] at h1;have:=g.fit;have:=g.u8;omega
theorem CfgC.head{n base unit per:Nat}{head head':Int}(g:CfgC n base unit per head)(h0:-1<=head')(h1:head'<per):CfgC n base unit per head':=⟨g.u8,g.u512,g.p1,g.p64,g.fit,g.n21,h0,h1⟩
def CPost(w:World)(TA TC:TypeId)(p cb:Nat)(F:Nat->Prop)(bs:List UInt8)(ts:List Tch)(base unit per:Nat)(head:Int)(w':World):Prop:=
 ∃F',Ar w' TA p F' bs ts /\ CH w' TC cb p base unit per head /\ Mod (fun j=>F j \/ j=cb) w w' /\ ∀j,F' j->F j \/ w.heap.size<=j
abbrev lkA(bs:List UInt8)(base unit k:Nat):Nat:=leV (seg bs (base+k*unit) 8)
def InC(per:Nat)(k:Int):Prop:=0<=k /\ k<per
instance (per:Nat) (k:Int):Decidable (InC per k):=inferInstanceAs (Decidable (_ /\ _))
def pushB(bs:List UInt8)(base unit per:Nat)(head k:Int):List UInt8:=if InC per k then putAt bs (base+k.toNat*unit) (le8 (head+1).toNat)else bs
def pushT(ts:List Tch)(base unit per:Nat)(k:Int):List Tch:=if InC per k then ts++[(((base+k.toNat*unit:Nat):Int),8,true)] else ts
def pushH(per:Nat)(head k:Int):Int:=if InC per k then k else head
def pushE(per:Nat)(k:Int):Int:=if InC per k then 0 else 12
def popI(bs:List UInt8)(base unit per:Nat)(head:Int):Int:=if head<0 then 0 else if per<lkA bs base unit head.toNat then 0 else head
def popE(bs:List UInt8)(base unit per:Nat)(head:Int):Int:=if head<0 then 13 else if per<lkA bs base unit head.toNat then 14 else 0
def popB(bs:List UInt8)(base unit per:Nat)(head:Int):List UInt8:=if head<0 then bs else if per<lkA bs base unit head.toNat then bs else putAt bs (base+head.toNat*unit) (le8 0)
def popT(bs:List UInt8)(ts:List Tch)(base unit per:Nat)(head:Int):List Tch:=
 if head<0 then ts else if per<lkA bs base unit head.toNat then ts++[(((base+head.toNat*unit:Nat):Int),8,false)] else ts++[(((base+head.toNat*unit:Nat):Int),8,false)]++[(((base+head.toNat*unit:Nat):Int),8,true)]
def popH(bs:List UInt8)(base unit per:Nat)(head:Int):Int:=if head<0 then head else if per<lkA bs base unit head.toNat then head else(lkA bs base unit head.toNat:Int)-1
def moveE(n unit per:Nat)(b:Int):Int:=if 0<=b /\ b+(unit*per:Nat)<=n then 0 else 12
section
variable{w:World}{TA TC:TypeId}{p cb:Nat}{F:Nat->Prop}{bs:List UInt8}{ts:List Tch}{base unit per:Nat}{head:Int}
theorem Q8Q(c:CH w TC cb p base unit per head)(g:CfgC bs.length base unit per head){k:Nat}(hk:k<per) :
  Calls prog 266 #[zP cb,.int .i64 (k:Int)] w (Ret fun r w'=>r=.int .i64 ((base+k*unit:Nat):Int) /\ Ext w w'):=by
 refine vc66.ok ?_;unfold vc66;rintro w0 rfl;have hE:=Ext.drew w;have c':CH w.drew TC cb p base unit per head:=c.keep hE (fun x=>x);obtain⟨h1,h2⟩:=g.at hk;have hn:=g.n21;simp only[someA,Q02,Nat.zero_add];refine⟨_,Q01 c' rfl,_,Q01 c' rfl,?_,hE⟩;rw[<-Int.natCast_mul,Q04 (n:=((k*unit:Nat):Int)) (by omega) (by omega),<-Int.natCast_add,Q04 (by omega) (by omega)]
theorem QbY(h:Ar w TA p F bs ts)(c:CH w TC cb p base unit per head)(g:CfgC bs.length base unit per head)(nF:¬F cb)(hl:ts.length<549755813888){k:Nat}(hk:k<per) :
  Calls prog 264 #[zP cb,.int .i64 (k:Int)] w (Ret fun r w'=>∃x:Int,r=.tuple #[.int .i64 x,.int .i64 (if per<lkA bs base unit k then 14 else 0)] /\
   (lkA bs base unit k<=per->x=(lkA bs base unit k:Int)-1) /\ Post w TA p F bs (ts++[(((base+k*unit:Nat):Int),8,false)]) w'):=by
 refine vc64.ok ?_;unfold vc64;rintro w0 rfl;have hE:=Ext.drew w;have c0:CH w.drew TC cb p base unit per head:=c.keep hE (fun x=>x);simp only[someA,Q02,Nat.zero_add];refine⟨_,Q01 c0 rfl,.of (Q8Q (bs:=bs) c0 g hk) ?_⟩;rintro r w1 ⟨rfl,hE1⟩;have hE01:=hE.trans hE1;have c1:CH w1 TC cb p base unit per head:=c0.keep hE1 (fun x=>x);refine⟨_,rfl,⟨_,Q01 c1 rfl,by trivial⟩,.of (Qef (h.ext hE01) (g.at hk).1 hl) ?_⟩;rintro r w2 ⟨rfl,F',h2,hm2,hF'⟩;have c2:CH w2 TC cb p base unit per head:=c1.keep hm2 nF;have hlt:=Qed bs (base+k*unit);have hp64:=g.p64;have post:Post w TA p F bs (ts++[(((base+k*unit:Nat):Int),8,false)]) w2:=⟨F',h2,Mod.trans (hE01.mod (F:=F)) hm2 (fun _ _ x=>x),fun j hj=>(hF' j hj).imp id (fun x=>Nat.le_trans hE01.size x)⟩;refine⟨_,_,rfl,Q03 rfl ⟨_,Q01 c2 rfl,?_⟩⟩;rw[Q0B (n:=(per:Int)) (by omega) (by omega)];refine ifD (fun hgt=>⟨_,by rw[if_pos (show per<lkA bs base unit k by have hgt:(lkA bs base unit k:Int)>per:=hgt;omega)],fun hle=>?_,post⟩) (fun hgt=>⟨_,by rw[if_neg (show ¬per<lkA bs base unit k by have hgt:¬(lkA bs base unit k:Int)>per:=hgt;omega)],fun hle=>?_,post⟩)
 ·have hgt:(lkA bs base unit k:Int)>per:=hgt;omega
 ·rw[Q04 (n:=(leV (seg bs (base+k*unit) 8):Int)) (by omega) (by omega),Q04 (by omega) (by omega)]
theorem Qc8(h:Ar w TA p F bs ts)(c:CH w TC cb p base unit per head)(g:CfgC bs.length base unit per head)(nF:¬F cb)(hl:ts.length<549755813888)(k:Int) :
  Calls prog 257 #[zP cb,.int .i64 k] w (Ret fun r w'=>r=.int .i64 (pushE per k) /\
   CPost w TA TC p cb F (pushB bs base unit per head k) (pushT ts base unit per k) base unit per (pushH per head k) w'):=by
 have hp64:=g.p64;have hh0:=g.h0;have hh1:=g.h1;refine vc60.ok ?_;unfold vc60;have out:¬InC per k->(Value.int .i64 12=.int .i64 (pushE per k) /\ CPost w TA TC p cb F (pushB bs base unit per head k) (pushT ts base unit per k) base unit per (pushH per head k) w):=fun q=>by
  rw[pushE,pushB,pushT,pushH,if_neg q,if_neg q,if_neg q,if_neg q];exact⟨rfl,F,h,c,Mod.refl _ _,fun j hj=>.inl hj⟩
 simp only[someA,Q02,Nat.zero_add];refine⟨fun w1=>w1=w /\ InC per k,Q00 rfl (ifD (fun q=>out fun x=>by have:=x.1;omega) (fun h0=>⟨_,Q01 c rfl,ifD (fun q=>out fun x=>by have:=x.2;omega) (fun h1=>⟨rfl,⟨by omega,by omega⟩⟩)⟩)),?_⟩;rintro jv w1 ⟨rfl,hin⟩;obtain⟨kn,rfl⟩:=zzeoz hin.1;have hkn:kn<per:=by have:=hin.2;omega
 rintro w2 rfl;have hE:=Ext.drew w1;have c2:CH w1.drew TC cb p base unit per head:=c.keep hE (fun x=>x);refine⟨_,Q01 c2 rfl,_,Q01 c2 rfl,by trivial,.of (Q8Q (bs:=bs) c2 g hkn) ?_⟩;rintro r w3 ⟨rfl,hE3⟩;have c3:CH w3 TC cb p base unit per head:=c2.keep hE3 (fun x=>x);obtain⟨hd,hhd⟩:=zzeoz (show 0<=head+1 by omega);have ew:IntKind.u64.wrap (IntKind.i64.wrap (head+1))=(hd:Int):=by rw[hhd,Q04 (by omega) (by omega),Q0B (by omega) (by omega)]
 have hE13:=hE.trans hE3;rw[ew];refine⟨_,rfl,⟨by trivial,by trivial⟩,by trivial,⟨_,Q01 c3 rfl,by trivial⟩,⟨_,Q01 c3 rfl,by trivial⟩,.of (Q7R (h.ext hE13) (by omega) (g.at hkn).1 hl) ?_⟩;rintro r w4 ⟨rfl,F',h4,hm4,hF'⟩;have c4:CH w4 TC cb p base unit per head:=c3.keep hm4 nF;have hlt:=Q0i c;have nF':¬F' cb:=fun q=>(hF' cb q).elim nF (fun x=>by have:=hE13.size;omega);refine⟨_,rfl,?_⟩;refine Q0e (n:=1) c4 (by simp) fun w5 hc5 hm5 _=>⟨by rw[pushE,if_pos hin],F',?_,?_,?_,?_⟩
 ·rw[pushB,pushT,if_pos hin,if_pos hin,hhd,zztnc,zztnc];exact h4.keep hm5 (fun j hj e=>nF' (by rw[<-e];exact hj))
 ·rw[pushH,if_pos hin];exact hc5
 ·exact Mod.trans (Mod.trans (hE13.mod (F:=fun j=>F j \/ j=cb)) hm4 (fun j _ hj=>.inl hj)) hm5 (fun j _ hj=>.inr hj)
 ·exact fun j hj=>(hF' j hj).imp id (fun x=>Nat.le_trans hE13.size x)
theorem Qer(h:Ar w TA p F bs ts)(c:CH w TC cb p base unit per head)(g:CfgC bs.length base unit per head)(nF:¬F cb)(hl:ts.length<549755813800) :
  Calls prog 251 #[zP cb] w (Ret fun r w'=>r=.tuple #[.int .i64 (popI bs base unit per head),.int .i64 (popE bs base unit per head)] /\
   CPost w TA TC p cb F (popB bs base unit per head) (popT bs ts base unit per head) base unit per (popH bs base unit per head) w'):=by
 have hp64:=g.p64;have hh0:=g.h0;have hh1:=g.h1;refine vc56.ok ?_;unfold vc56;simp only[someA,Q02,Nat.zero_add];refine Q00 rfl ⟨_,Q01 c rfl,ifD (fun hneg=>?_) (fun hpos=>⟨_,Q01 c rfl,?_⟩)⟩
 ·simp only[popI,popE,popB,popT,popH,if_pos hneg];exact⟨by trivial,F,h,c,Mod.refl _ _,fun j hj=>.inl hj⟩
 obtain⟨k,rfl⟩:=zzeoz (show 0<=head by omega);have hk:k<per:=by omega
 simp only[popI,popE,popB,popT,popH,if_neg hpos,zztnc];refine .of (QbY h c g nF (by omega) hk) ?_;rintro r w1 ⟨x,rfl,hx,F1,h1,hm1,hF1⟩;have c1:CH w1 TC cb p base unit per k:=c.keep hm1 nF;have hlt:=Q0i c;have nF1:¬F1 cb:=fun q=>(hF1 cb q).elim nF (fun y=>by omega);refine⟨_,_,rfl,?_⟩;by_cases hbad:per<lkA bs base unit k
 ·simp only[if_pos hbad];exact Q03 rfl ⟨by trivial,F1,h1,c1,hm1.mono (fun j hj=>.inl hj),hF1⟩
 simp only[if_neg hbad];have hx:=hx (by omega);refine Q00 rfl ?_;refine Q0e (n:=1) c1 (by simp) fun w2 hc2 hm2 _=>?_;have c2:CH w2 TC cb p base unit per x:=hc2;have h2:=h1.keep hm2 (fun j hj e=>nF1 (by rw[<-e];exact hj));rintro w3 rfl;have hE3:=Ext.drew w2;have c3:CH w2.drew TC cb p base unit per x:=c2.keep hE3 (fun y=>y);have gx:CfgC bs.length base unit per x:=g.head (by omega) (by omega);refine⟨_,Q01 c3 rfl,.of (Q8Q (bs:=bs) c3 gx hk) ?_⟩;rintro r w4 ⟨rfl,hE4⟩;have hE24:=hE3.trans hE4;have c4:CH w4 TC cb p base unit per x:=c3.keep hE4 (fun y=>y);refine⟨_,rfl,⟨_,Q01 c4 rfl,by trivial⟩,.of (Q7R (x:=0) (h2.ext hE24) (by omega) (g.at hk).1 (by simp;omega)) ?_⟩;rintro r w5 ⟨rfl,F5,h5,hm5,hF5⟩;refine⟨_,rfl,rfl,F5,h5,?_,?_,?_⟩
 ·rw[<-hx];exact c4.keep hm5 nF1
 ·have m1:Mod (fun j=>F j \/ j=cb) w w2:=Mod.trans (hm1.mono (G:=fun j=>F j \/ j=cb) (fun j hj=>.inl hj)) hm2 (fun j _ hj=>.inr hj);have m2:Mod (fun j=>F j \/ j=cb) w w4:=Mod.trans m1 hE24 (fun j _ hj=>hj.elim);exact Mod.trans m2 hm5 (fun j hj hj'=>(hF1 j hj').imp id (fun y=>by omega))
 ·intro j hj;rcases hF5 j hj with q | q
  ·exact hF1 j q
  ·have a1:=hm1.size;have a2:=hm2.size;have a3:=hE24.size;exact .inr (by omega)
theorem Q5i(c:CH w TC cb p base unit per head):Calls prog 250 #[zP cb] w (Ret fun r w'=>r=.bool (decide (head<0)) /\ w'=w):=by
 refine vc55.ok ?_;unfold vc55;simp only[someA,Q02,Nat.zero_add];exact Q00 rfl ⟨_,Q01 c rfl,by trivial,by trivial⟩
theorem Q7g(h:Ar w TA p F bs ts)(b:Int)(hu:unit<=512)(hp:per<=64):Calls prog 262 #[zP p,.int .i64 b,.int .i64 (unit:Int),.int .i64 (per:Int)] w
  (Ret fun r w'=>r=.bool (decide (0<=b /\ b+(unit*per:Nat)<=bs.length)) /\ w'=w):=by
 have hsm:=h.small;have hmul:unit*per<=512*64:=Nat.mul_le_mul hu hp;refine vc63.ok ?_;unfold vc63;refine ifD (fun h0=>.of (size_any h) ?_) (fun h0=>⟨by rw[zzdcf (by omega)],rfl⟩);rintro r w1 ⟨rfl,rfl⟩;refine⟨_,rfl,ifD (fun h1=>.of (size_any h) ?_) (fun h1=>⟨by rw[zzdcf (by omega)],rfl⟩)⟩;rintro r w2 ⟨rfl,rfl⟩;refine⟨_,rfl,?_,rfl⟩;rw[<-Int.natCast_mul,Q04 (n:=((unit*per:Nat):Int)) (by omega) (by omega),Q04 (by omega) (by omega)];exact congrArg Value.bool (decide_eq_decide.2 (by omega))
theorem Q7o(h:Ar w TA p F bs ts)(c:CH w TC cb p base unit per head)(g:CfgC bs.length base unit per head)(nF:¬F cb)(b:Int) :
  Calls prog 247 #[zP cb,.int .i64 b] w (Ret fun r w'=>r=.int .i64 (moveE bs.length unit per b) /\ CPost w TA TC p cb F bs ts (if moveE bs.length unit per b=0 then b.toNat else base) unit per head w'):=by
 refine vc53.ok ?_;unfold vc53;refine Q00 rfl ?_;rintro w0 rfl;have hE:=Ext.drew w;have c0:CH w.drew TC cb p base unit per head:=c.keep hE (fun x=>x);simp only[someA,Q02,Nat.zero_add];refine⟨_,Q01 c0 rfl,_,Q01 c0 rfl,_,Q01 c0 rfl,.of (Q7g (h.ext hE) b g.u512 g.p64) ?_⟩;rintro r w1 ⟨rfl,rfl⟩;refine⟨_,rfl,by trivial,?_⟩;by_cases hok:0<=b /\ b+(unit*per:Nat)<=bs.length
 ·have e:moveE bs.length unit per b=0:=if_pos hok;rw[decide_eq_true hok,e,if_pos rfl];refine Q00 rfl ?_;refine Q0e (n:=1) c0 (by simp) fun w2 hc2 hm2 _=>⟨rfl,F,(h.ext hE).keep hm2 (fun j hj e=>nF (by rw[<-e];exact hj)),?_,?_,fun j hj=>.inl hj⟩
  ·obtain⟨bn,rfl⟩:=zzeoz hok.1;exact hc2
  ·exact Mod.trans (hE.mod (F:=fun j=>F j \/ j=cb)) hm2 (fun j _ hj=>.inr hj)
 ·have e:moveE bs.length unit per b=12:=if_neg hok;rw[zzdcf hok,e,if_neg (by decide)];exact Q03 rfl ⟨rfl,F,h.ext hE,c0,hE.mod,fun j hj=>.inl hj⟩
theorem Q95{db:Nat}{base' unit' per':Nat}{head':Int}(c:CH w TC cb p base unit per head)(d:CH w TC db p base' unit' per' head')(hne:cb ≠ db) :
  Calls prog 267 #[zP cb,zP db] w (Ret fun r w'=>r=.int .i64 (if 0<=head then 7 else 0) /\
   CH w' TC cb p base unit per (if 0<=head then head else head') /\ CH w' TC db p base' unit' per' (if 0<=head then head' else -1) /\ Mod (fun j=>j=cb \/ j=db) w w'):=by
 refine vc67.ok ?_;unfold vc67;simp only[someA,Q02,Nat.zero_add];refine Q00 rfl (Q00 rfl ⟨_,Q01 c rfl,ifD (fun h0=>?_) (fun h0=>⟨_,Q01 d rfl,?_⟩)⟩)
 ·rw[if_pos h0,if_pos h0,if_pos h0];exact⟨rfl,c,d,Mod.refl _ _⟩
 ·have h0:¬0<=head:=h0;rw[if_neg h0,if_neg h0,if_neg h0];refine Q0e (n:=1) c (by simp) fun w1 hc1 hm1 _=>?_;have d1:CH w1 TC db p base' unit' per' head':=d.keep hm1 (fun e=>hne e.symm);refine Q0e (n:=1) d1 (by simp) fun w2 hd2 hm2 _=>⟨rfl,?_,hd2,Mod.trans (hm1.mono fun j hj=>.inl hj) hm2 (fun j _ hj=>.inr hj)⟩;exact hm2.keep hc1 hne
def NewC(w:World)(TA TC:TypeId)(p:Nat)(F:Nat->Prop)(n:Nat)(b u r:Int)(v:Value)(w':World):Prop:=
 (¬(8<=u /\ u<=512 /\ 1<=r /\ r<=64 /\ 0<=b /\ b+u*r<=n) /\ v=.tuple #[.pointer none,.int .i64 12] /\ w'=w) \/
 (∃(cb base unit per:Nat),b=base /\ u=unit /\ r=per /\ v=.tuple #[zP cb,.int .i64 0] /\ CH w' TC cb p base unit per (-1) /\ CfgC n base unit per (-1) /\ Ext w w' /\ w.heap.size<=cb)
theorem Qbp(h:Ar w TA p F bs ts)(b u r:Int):Calls prog 256 #[zP p,.int .i64 b,.int .i64 u,.int .i64 r] w (Ret (NewC w TA 309 p F bs.length b u r)):=by
 have hsm:=h.small;refine vc59.ok ?_;unfold vc59;refine⟨fun w1=>w1=w /\ (8<=u /\ u<=512 /\ 1<=r /\ r<=64 /\ 0<=b /\ b+u*r<=bs.length),Q00 rfl (ifD (fun q=>.inl ⟨by omega,rfl,rfl⟩) (fun h1=>ifD (fun q=>.inl ⟨by omega,rfl,rfl⟩) (fun h2=>ifD (fun q=>.inl ⟨by omega,rfl,rfl⟩) (fun h3=>ifD (fun q=>.inl ⟨by omega,rfl,rfl⟩) (fun h4=>?_))))),?_⟩
 ·obtain⟨un,rfl⟩:=zzeoz (show 0<=u by omega);obtain⟨rn,rfl⟩:=zzeoz (show 0<=r by omega);refine .of (Q7g h b (by omega) (by omega)) ?_;rintro v w1 ⟨rfl,rfl⟩;refine⟨_,rfl,?_⟩;rw[Int.natCast_mul];by_cases hok:0<=b /\ b+(un:Int)*(rn:Int)<=bs.length
  ·rw[decide_eq_true hok];exact Q00 rfl ⟨rfl,by omega,by omega,by omega,by omega,hok⟩
  ·rw[zzdcf hok];exact Q03 rfl (.inl ⟨fun q=>hok q.2.2.2.2,rfl,rfl⟩)
 ·rintro jv w1 ⟨rfl,q1,q2,q3,q4,q5,q6⟩;obtain⟨un,rfl⟩:=zzeoz (show 0<=u by omega);obtain⟨rn,rfl⟩:=zzeoz (show 0<=r by omega);obtain⟨bn,rfl⟩:=zzeoz q5;rw[<-Int.natCast_mul] at q6;exact Q09 fun cb w2 hcb hE _ _=>.inr ⟨cb,bn,un,rn,rfl,rfl,rfl,rfl,hcb,⟨by omega,by omega,by omega,by omega,by omega,hsm,by omega,by omega⟩,hE,by omega⟩
end
end
section
open Go.RowKit
theorem elemI:ElemOk prog 37 3 1 8:=.of (z:=.int .i64 0) (by kernel_rfl) (by kernel_rfl) rfl
theorem Q0G(x:Int):(intF x).length=1:=rfl
theorem Q4w(x:Int)(u:Value)(h:u ∈ intF x):u.oneCell'=true:=by
 simp only[intF,List.mem_singleton] at h;subst h;rfl
theorem ORow.rowAt{w:World}{e:TypeId}{k:Nat}{X:Type}{f:X->List Value}(hf:∀x,(f x).length=k){p:Option Addr}{n c:Nat}{l:List X}(h:ORow w e k f (.slice p n c) l):RowAt w p k f l:=
 fun i x hi=>h.cells hf hi
section
variable{w:World}{TA TC:TypeId}{p cb:Nat}{F:Nat->Prop}{bs:List UInt8}{ts:List Tch}{base unit per:Nat}{head:Int}
end
end
section
namespace Sf
open Go.RowKit
def fpS(p gb:Nat)(k:Nat):Prop:=k=p \/ k=gb
theorem SH.keep{F:Nat->Prop}{w w':World}{p gb:Nat}{hs:List Bool}(h:SH w p gb hs)(hm:Mod F w w')(hF:∀k,fpS p gb k->¬F k):SH w' p gb hs:=by
 obtain⟨⟨ws,rest,c,h1,h2,h3,h4,h5,h6⟩,hne,hsm⟩:=h;exact⟨⟨ws,rest,c,h1,h2,h3,h4,hm.keep h5 (hF p (.inl rfl)),hm.keep h6 (hF gb (.inr rfl))⟩,hne,hsm⟩
theorem SH.ext{w w':World}{p gb:Nat}{hs:List Bool}(h:SH w p gb hs)(hm:Ext w w'):SH w' p gb hs:=h.keep hm (fun _ _ x=>x)
theorem SH.lt{w:World}{p gb:Nat}{hs:List Bool}(h:SH w p gb hs):∀k,fpS p gb k->k<w.heap.size:=by
 obtain⟨⟨ws,rest,c,h1,h2,h3,h4,h5,h6⟩,hne,hsm⟩:=h;rintro k (rfl | rfl)
 ·exact Q0i h5
 ·exact Q0i h6
theorem Q3J(ws:List Nat)(rest:List Value){i x:Nat}(h:ws[i]? = some x):(wC ws++rest).toArray[i]? = some (.int .u64 (x:Int)):=by
 have hl:=(zzgsi.1 h).1;rw[List.getElem?_toArray,List.getElem?_append_left (by simpa [wC] using hl)];simp[wC,h]
def lowI(hs:List Bool):Int:=match hs.findIdx? (fun b=>!b)with | some k=>(k:Int) | none=>-1
theorem QbP{hs:List Bool}{k:Nat}(h:hs[k]? = some false)(hb:∀j,j<k->hs[j]? ≠ some false):hs.findIdx? (fun b=>!b)=some k:=by
 obtain⟨hk,hv⟩:=zzgsi.1 h;rw[List.findIdx?_eq_some_iff_getElem];refine⟨hk,by simp[hv],fun j hj=>?_⟩;have hq:=hb j hj;rw[zzgge (by omega)] at hq;cases hc:hs[j] with
 | true=>simp
 | false=>exact absurd (by rw[hc]) hq
theorem QbO{hs:List Bool}(h:∀j:Nat,hs[j]? ≠ some false):hs.findIdx? (fun b=>!b)=none:=by
 rw[List.findIdx?_eq_none_iff];intro b hb;obtain⟨j,hj⟩:=List.mem_iff_getElem?.1 hb;cases b with
 | true=>rfl
 | false=>exact absurd hj (h j)
theorem Q7i{hs:List Bool}{k:Nat}(h:hs.findIdx? (fun b=>!b)=some k):hs[k]? = some false /\ ∀j,j<k->hs[j]? = some true:=by
 rw[List.findIdx?_eq_some_iff_getElem] at h;obtain⟨hk,hv,hb⟩:=h;refine⟨by rw[zzgge hk];simpa using hv,fun j hj=>?_⟩;rw[zzgge (by omega)];have:=hb j hj;simpa using this
section
variable{w:World}{p gb:Nat}{hs:List Bool}
theorem free_any(h:SH w p gb hs):Calls prog 108 #[zP p] w (Ret fun r w'=>r=.int .i64 (hs.count false:Nat) /\ w'=w):=by
 obtain⟨⟨ws,rest,c,h1,h2,h3,h4,h5,h6⟩,hne,hsm⟩:=h;refine vc10.ok ?_;unfold vc10;refine Q00 rfl ?_;simp only[someA,Q02,Nat.zero_add];exact⟨_,Q01 h5 rfl,by trivial,by trivial⟩
theorem size_any(h:SH w p gb hs):Calls prog 253 #[zP p] w (Ret fun r w'=>r=.int .i64 (hs.length:Nat) /\ w'=w):=by
 obtain⟨⟨ws,rest,c,h1,h2,h3,h4,h5,h6⟩,hne,hsm⟩:=h;refine vc58.ok ?_;unfold vc58;refine Q00 rfl ?_;simp only[someA,Q02,Nat.zero_add];exact⟨_,Q01 h5 rfl,by trivial,by trivial⟩
abbrev InS(hs:List Bool)(k:Int):Prop:=0<=k /\ k<hs.length
theorem Q0T(h:SH w p gb hs)(k:Int):Calls prog 176 #[zP p,.int .i64 k] w (Ret fun r w'=>r=.int .i64 (if InS hs k then 0 else 12) /\ w'=w):=by
 obtain⟨⟨ws,rest,c,h1,h2,h3,h4,h5,h6⟩,hne,hsm⟩:=h;refine vc24.ok ?_;unfold vc24;refine Q00 rfl (ifD (fun hk=>⟨by rw[if_neg (by omega)],rfl⟩) (fun hk=>?_));simp only[someA,Q02,Nat.zero_add];exact⟨_,Q01 h5 rfl,ifD (fun hk2=>⟨by rw[if_neg (by omega)],by trivial⟩) (fun hk2=>⟨by rw[if_pos (by omega)],by trivial⟩)⟩
theorem Q58(k:Nat)(hk:k<65536):IntKind.i64.wrap ((k:Int).tdiv 64)=((k / 64:Nat):Int) /\ (k:Int).tmod 64=((k % 64:Nat):Int):=by
 refine⟨?_,?_⟩
 ·rw[show(64:Int)=((64:Nat):Int)from rfl,<-Int.ofNat_tdiv,Q04 (by omega) (by omega)]
 ·rw[show(64:Int)=((64:Nat):Int)from rfl,<-Int.ofNat_tmod]
theorem Qbi{x b:Nat}(hx:x<18446744073709551616)(hb:b<64):(bits .and .u64 (shrV .u64 (x:Int) (b:Int)) 1 == (0:Int)) = !x.testBit b:=by
 have hs:shrV .u64 (x:Int) (b:Int)=((x / 2 ^ b:Nat):Int):=by
  rw[Q2e (by omega) (by omega),Int.natCast_ediv,Int.natCast_pow];rfl
 have hle:x / 2 ^ b<=x:=Nat.div_le_self _ _;rw[hs,show(1:Int)=((1:Nat):Int)from rfl,Q6R (by omega) (by omega),Nat.testBit,Nat.shiftRight_eq_div_pow,Nat.and_comm 1];generalize x / 2 ^ b &&& 1=y;cases y with
 | zero=>rfl
 | succ y=>simp;omega
theorem taken_any(h:SH w p gb hs)(k:Int):Calls prog 177 #[zP p,.int .i64 k] w
  (Ret fun r w'=>r=.bool (decide (InS hs k /\ hs[k.toNat]? = some true)) /\ w'=w):=by
 refine vc25.ok ?_;unfold vc25;refine .of (Q0T h k) ?_;rintro r w1 ⟨rfl,rfl⟩;refine⟨_,rfl,?_⟩;by_cases hin:InS hs k
 case neg=>
  rw[if_neg hin];exact Q00 rfl ⟨by rw[zzdcf (fun q=>hin q.1)],rfl⟩
 rw[if_pos hin];obtain⟨kn,rfl⟩:=zzeoz hin.1;obtain⟨⟨ws,rest,c,h1,h2,h3,h4,h5,h6⟩,hne,hsm⟩:=h;have hkn:kn<hs.length:=by omega
 obtain⟨b,hb⟩:∃b,hs[kn]? = some b:=⟨_,zzgge hkn⟩;obtain⟨x,hx,hxl,hbit⟩:=h1.at hb;have hlen:=h1.len;obtain⟨e1,e2⟩:=Q58 kn (by omega);rw[e1,e2];refine Q03 rfl ?_;simp only[someA,Q02,Nat.zero_add,zztnc];refine⟨_,_,_,Q01 h5 rfl,by decide,by omega,by omega,?_⟩;simp only[someA,Q02,Nat.zero_add];refine⟨_,Q01 h6 (Q3J ws rest hx),by decide,by omega,?_,by trivial⟩;rw[Qbi hxl (Nat.mod_lt _ (by decide)),hbit,Bool.not_not];cases b with
 | true=>rw[decide_eq_true ⟨hin,hb⟩]
 | false=>rw[zzdcf fun q=>by rw[hb] at q;exact absurd q.2 (by simp)]
end
end Sf
end
section
namespace Sf
open Go.RowKit
def takeI(hs:List Bool):Int:=match hs.findIdx? (fun b=>!b)with | some k=>(k:Int) | none=>0
def takeE(hs:List Bool):Int:=match hs.findIdx? (fun b=>!b)with | some _=>0 | none=>13
def takeH(hs:List Bool):List Bool:=match hs.findIdx? (fun b=>!b)with | some k=>hs.set k true | none=>hs
def takeAtE(hs:List Bool)(k:Int):Int:=if InS hs k then(if hs[k.toNat]? = some true then 7 else 0)else 12
def takeAtH(hs:List Bool)(k:Int):List Bool:=if InS hs k then hs.set k.toNat true else hs
def giveE(hs:List Bool)(k:Int):Int:=if InS hs k then(if hs[k.toNat]? = some true then 0 else 13)else 12
def giveH(hs:List Bool)(k:Int):List Bool:=if InS hs k then hs.set k.toNat false else hs
def isTaken(hs:List Bool)(k:Int):Bool:=decide (InS hs k /\ hs[k.toNat]? = some true)
theorem set_same{hs:List Bool}{k:Nat}{c:Bool}(h:hs[k]? = some c):hs.set k c=hs:=by
 apply List.ext_getElem?;intro i;rw[zzgst];split
 ·rename_i e;subst e;have hl:=(zzgsi.1 h).1;rw[if_pos hl,h]
 ·rfl
theorem len_takeAtH(hs:List Bool)(k:Int):(takeAtH hs k).length=hs.length:=by unfold takeAtH;split <;> simp
theorem len_giveH(hs:List Bool)(k:Int):(giveH hs k).length=hs.length:=by unfold giveH;split <;> simp
theorem Q21:∀ {hs:List Bool} {k:Nat} {c:Bool},hs[k]? = some c->(((hs.set k (!c)).count false:Nat):Int)=((hs.count false:Nat):Int)+(if c=true then 1 else -1)
 | [],k,c,h=>by simp at h
 | b :: hs,0,c,h=>by
  simp only[List.getElem?_cons_zero,Option.some.injEq] at h;subst h;simp only[List.set_cons_zero,List.count_cons];cases b <;> simp <;> omega
 | b :: hs,k+1,c,h=>by
  have:=Q21 (hs:=hs) (k:=k) (c:=c) (by simpa using h);simp only[List.set_cons_succ,List.count_cons];omega
theorem Q5X{ws:List Nat}{hs:List Bool}(h:WRel ws hs){n:Nat}(hz:∀i,i<n->ws[i]? = some 0):∀k,k<64*n->hs[k]? ≠ some false:=by
 intro k hk e;obtain⟨x,hx,hxl,hb⟩:=h.at e;have h0:=hz (k / 64) (by omega);rw[h0] at hx;cases hx;simp at hb
theorem QcC{ws:List Nat}{hs:List Bool}(h:WRel ws hs){j x:Nat}(hz:∀i,i<j->ws[i]? = some 0)(hx:ws[j]? = some x)(h0:x ≠ 0) :
  hs.findIdx? (fun b=>!b)=some (64*j+Lib.ctz 64 x):=by
 obtain⟨hxl,hbits⟩:=h.word j x hx;obtain⟨hk,_,ht,hl⟩:=Q6X h0 hxl;refine QbP ?_ (fun q hq e=>?_)
 ·have:=hbits _ hk;rw[ht] at this;exact zzodt this.symm
 ·by_cases hqj:q<64*j
  ·exact Q5X h hz q hqj e
  ·have hb:q-64*j<Lib.ctz 64 x:=by omega
   have h1:=hl _ hb;have h2:=hbits (q-64*j) (by omega);rw[show 64*j+(q-64*j)=q by omega,e,h1] at h2;simp at h2
theorem Q5W{ws:List Nat}{hs:List Bool}(h:WRel ws hs)(hz:∀i,i<ws.length->ws[i]? = some 0):hs.findIdx? (fun b=>!b)=none:=by
 refine QbO fun k e=>?_;have hlt:=(zzgsi.1 e).1;have:=h.len;exact Q5X h hz k (by omega) e
theorem Qds(ws:List Nat)(rest:List Value){i y:Nat}(hi:i<ws.length):setAt (wC ws++rest).toArray i [.int .u64 (y:Int)]=(wC (ws.set i y)++rest).toArray:=by
 simp only[setAt,List.setIfInBounds_toArray];congr 1;rw[List.set_append_left _ _ (by simpa [wC] using hi)];congr 1;simp[wC,List.map_set]
section
variable{w:World}{p gb:Nat}{hs:List Bool}
theorem Q5s{k:Nat}(h:hs.findIdx? (fun b=>!b)=some k):lowI hs=(k:Int):=by simp[lowI,h]
theorem Q3n(h:hs.findIdx? (fun b=>!b)=none):lowI hs = -1:=by simp[lowI,h]
theorem lowest_any(tab:Tab w)(h:SH w p gb hs):Calls prog 160 #[zP p] w (Ret fun r w'=>r=.int .i64 (lowI hs) /\ w'=w):=by
 obtain⟨⟨ws,rest,c,h1,h2,h3,h4,h5,h6⟩,hne,hsm⟩:=h;have hlen:=h1.len;refine vc3.ok ?_;unfold vc3;refine Q00 rfl ?_;simp only[someA,Q02,Nat.zero_add];have c5:w.cell? (zA p)=some (.slice (some ⟨gb,0,none⟩) ws.length c):=Q01 h5 rfl;have tz:∀(j x:Nat),(∀i,i<j->ws[i]? = some 0)->ws[j]? = some x->x ≠ 0->CS 214 #[.int .u64 (x:Int)] w fun(v32:Value) (w33:World)=>∃(i34:Int),v32=Value.int IntKind.i64 i34 /\ Value.int IntKind.i64 (IntKind.i64.wrap (IntKind.i64.wrap ((64:Int)*(j:Int))+i34))=.int .i64 (lowI hs) /\ w33=w:=by
  intro j x hz hx h0;obtain⟨hxl,_⟩:=h1.word j x hx;have hj:=(zzgsi.1 hx).1;refine .of (QgC tab h0 hxl) ?_;rintro r w1 ⟨rfl,rfl⟩;have hc:=(Q6X h0 hxl).1;refine⟨_,rfl,?_,rfl⟩;rw[Q5s (QcC h1 hz hx h0),Q04 (n:=64*(j:Int)) (by omega) (by omega),Q04 (by omega) (by omega)];congr 1
 refine⟨_,_,_,c5,ifD (fun h0=>⟨?_,by trivial⟩) (fun h0=>?_)⟩
 ·rw[Q3n (Q5W h1 (fun i hi=>by omega))]
 obtain⟨x,hx⟩:∃x,ws[0]? = some x:=⟨_,zzgge (by omega)⟩;refine⟨_,_,_,c5,by decide,by omega,?_⟩;simp only[someA,Q02,Nat.zero_add];refine⟨_,Q01 h6 (Q3J ws rest hx),Q05 (fun hx0=>?_) (fun hx0=>⟨_,_,_,c5,by decide,by omega,?_⟩)⟩
 ·have hx0:x=0:=by have:=eq_of_beq hx0;omega
  subst hx0;refine⟨fun m i w1=>∃j:Nat,i=(j:Int) /\ j<=ws.length /\ m+j=ws.length /\ w1=w /\ ∀q,q<j->ws[q]? = some 0,⟨ws.length-1,1,by decide,by omega,by omega,rfl,fun q hq=>by rw[show q=0 by omega];exact hx⟩,?_⟩;rintro m jv i w1 ⟨j,rfl,hj,hm,rfl,hz⟩;simp only[someA,Q02,Nat.zero_add,zztnc];refine⟨_,_,_,c5,ifD (fun hjl=>⟨?_,by trivial⟩) (fun hjl=>?_)⟩
  ·rw[Q3n (Q5W h1 (fun q hq=>hz q (by omega)))]
  obtain⟨y,hy⟩:∃y,ws[j]? = some y:=⟨_,zzgge (by omega)⟩;refine⟨_,_,_,c5,by omega,by omega,?_⟩;simp only[someA,Q02,Nat.zero_add];refine⟨_,Q01 h6 (Q3J ws rest hy),Q05 (fun hy0=>⟨m-1,by omega,j+1,?_,by omega,by omega,by trivial,fun q hq=>?_⟩) (fun hy0=>⟨_,_,_,c5,by omega,by omega,?_⟩)⟩
  ·rw[Q04 (by omega) (by omega)];rfl
  ·have hy0:y=0:=by have:=eq_of_beq hy0;omega
   by_cases hqj:q<j
   ·exact hz q hqj
   ·rw[show q=j by omega,hy,hy0]
  ·simp only[someA,Q02,Nat.zero_add];refine⟨_,Q01 h6 (Q3J ws rest hy),?_⟩;exact tz j y hz hy (fun e=>by subst e;simp at hy0)
 ·simp only[someA,Q02,Nat.zero_add];refine⟨_,Q01 h6 (Q3J ws rest hx),?_⟩;exact tz 0 x (fun i hi=>absurd hi (Nat.not_lt_zero i)) hx (fun e=>by subst e;simp at hx0)
theorem Qan{b:Nat}(hb:b<64):shlV .u64 (1:Int) (b:Int)=((2 ^ b:Nat):Int):=by
 have hp:2 ^ b<2 ^ 64:=Nat.pow_lt_pow_right (by decide) hb;have e:((2 ^ b:Nat):Int)=(2:Int) ^ b:=by rw[Int.natCast_pow];rfl
 rw[Q1H 1 (by omega),Int.one_mul,<-e];clear e;generalize 2 ^ b=y at hp ⊢;exact Q0B (by omega) (by omega)
theorem Q4Y(h:SH w p gb hs){k:Nat}{c:Bool}(hk:hs[k]? = some c){d:Int}(hd:d=if c=true then 1 else -1):Calls prog 161 #[zP p,.int .i64 (k:Int),.int .i64 d] w
  (Ret fun r w'=>r=.tuple #[] /\ SH w' p gb (hs.set k (!c)) /\ Mod (fpS p gb) w w'):=by
 obtain⟨⟨ws,rest,cap,h1,h2,h3,h4,h5,h6⟩,hne,hsm⟩:=h;subst hd;have hlen:=h1.len;have hkl:k<hs.length:=(zzgsi.1 hk).1;obtain⟨x,hx,hxl,hbit⟩:=h1.at hk;have hki:k / 64<ws.length:=by omega
 have hp:2 ^ (k % 64)<2 ^ 64:=Nat.pow_lt_pow_right (by decide) (Nat.mod_lt _ (by decide));obtain⟨e1,e2⟩:=Q58 k (by omega);refine vc19.ok ?_;unfold vc19;rintro w0 rfl;rw[e1,e2];have hE:=Ext.drew w;have c5:w.drew.cell? (zA p)=some (.slice (some ⟨gb,0,none⟩) ws.length cap):=Q01 (hE.keep h5) rfl;simp only[someA,Q02,Nat.zero_add,zztnc];refine⟨_,_,_,c5,by decide,by trivial,by omega,by omega,?_⟩;simp only[someA,Q02,Nat.zero_add];refine⟨by trivial,_,Q01 (hE.keep h6) (Q3J ws rest hx),by decide,by trivial,by omega,by trivial,by trivial,by omega,by omega,by trivial,?_⟩;rw[Qan (Nat.mod_lt _ (by decide)),Qbj hxl hp];refine Q0e (n:=1) (hE.keep h6) (by simp[wC];omega) fun w8 hg8 hm8 hs8=>?_;rw[Qds ws rest hki] at hg8;have hp8:=hm8.keep (hE.keep h5) hne;refine⟨_,Q01 hp8 rfl,?_⟩;refine Q0e (n:=1) hp8 (by simp) fun w12 hp12 hm12 hs12=>⟨by trivial,⟨⟨ws.set (k / 64) (x ^^^ 2 ^ (k % 64)),rest,cap,h1.turn hk hx,by simpa using h2,h3,by simpa using h4,?_,hm12.keep hg8 (fun e=>hne e.symm)⟩,hne,by simpa using hsm⟩,?_⟩
 ·rw[hp12,List.length_set,List.length_set,Q21 hk];have hc:=List.count_le_length (a:=false) (l:=hs);rw[Q04 (n:=((hs.count false:Nat):Int)+_) (by split <;> omega) (by split <;> omega)];simp[setAt]
 ·exact Mod.trans (Mod.trans (hE.mod (F:=fpS p gb)) hm8 (fun j _ hj=>.inr hj)) hm12 (fun j _ hj=>.inl hj)
theorem take_any(tab:Tab w)(h:SH w p gb hs):Calls prog 113 #[zP p] w
  (Ret fun r w'=>r=.tuple #[.int .i64 (takeI hs),.int .i64 (takeE hs)] /\ SH w' p gb (takeH hs) /\ Mod (fpS p gb) w w'):=by
 refine vc2.ok ?_;unfold vc2;refine Q00 rfl (.of (lowest_any tab h) ?_);rintro r w1 ⟨rfl,rfl⟩;refine⟨_,rfl,?_⟩;cases hlow:hs.findIdx? (fun b=>!b)with
 | none=>
  rw[Q3n hlow];refine Q03 rfl ⟨?_,?_,Mod.refl _ _⟩
  ·simp[takeI,takeE,hlow]
  ·simpa [takeH,hlow] using h
 | some k=>
  rw[Q5s hlow];refine ifD (fun q=>absurd q (by omega)) (fun _=>.of (Q4Y h (Q7i hlow).1 (d:=-1) (by decide)) ?_);rintro r w2 ⟨rfl,h2,hm⟩;refine⟨rfl,?_,?_,hm⟩
  ·simp[takeI,takeE,hlow]
  ·simpa [takeH,hlow] using h2
theorem Q3W{k:Nat}{c:Bool}(h:hs[k]? = some c):isTaken hs (k:Int)=c:=by
 have hl:=(zzgsi.1 h).1;have hin:InS hs (k:Int):=⟨by omega,by omega⟩;cases c
 ·exact zzdcf fun q=>by rw[zztnc,h] at q;exact absurd q.2 (by simp)
 ·exact decide_eq_true ⟨hin,by rw[zztnc,h]⟩
theorem takeAt_any(h:SH w p gb hs)(k:Int):Calls prog 220 #[zP p,.int .i64 k] w
  (Ret fun r w'=>r=.int .i64 (takeAtE hs k) /\ SH w' p gb (takeAtH hs k) /\ Mod (fpS p gb) w w'):=by
 refine vc40.ok ?_;unfold vc40;refine .of (Q0T h k) ?_;rintro r w1 ⟨rfl,rfl⟩;refine⟨_,rfl,?_⟩;by_cases hin:InS hs k
 case neg=>
  rw[if_neg hin];exact Q00 rfl (Q00 rfl ⟨by simp only[takeAtE,if_neg hin],by simpa only [takeAtH,if_neg hin] using h,Mod.refl _ _⟩)
 rw[if_pos hin];refine Q03 rfl (.of (taken_any h k) ?_);rintro r w1 ⟨rfl,rfl⟩;obtain⟨kn,rfl⟩:=zzeoz hin.1;obtain⟨c,hc⟩:∃c,hs[kn]? = some c:=⟨_,zzgge (by omega)⟩;refine⟨_,rfl,?_⟩;have hT:decide (InS hs (kn:Int) /\ hs[((kn:Int)).toNat]? = some true)=c:=Q3W hc;rw[hT];cases c with
 | true=>exact Q03 rfl ⟨by simp only[takeAtE,if_pos hin,zztnc,hc,if_true],by simpa only [takeAtH,if_pos hin,zztnc,set_same hc] using h,Mod.refl _ _⟩
 | false=>
  refine Q00 rfl (Q03 rfl (.of (Q4Y h hc (d:=-1) (by decide)) ?_));rintro r w2 ⟨rfl,h2,hm⟩;exact⟨rfl,by simp[takeAtE,if_pos hin,hc],by simpa only [takeAtH,if_pos hin,zztnc,Bool.not_false] using h2,hm⟩
theorem give_any(h:SH w p gb hs)(k:Int):Calls prog 122 #[zP p,.int .i64 k] w
  (Ret fun r w'=>r=.int .i64 (giveE hs k) /\ SH w' p gb (giveH hs k) /\ Mod (fpS p gb) w w'):=by
 refine vc11.ok ?_;unfold vc11;refine .of (Q0T h k) ?_;rintro r w1 ⟨rfl,rfl⟩;refine⟨_,rfl,?_⟩;by_cases hin:InS hs k
 case neg=>
  rw[if_neg hin];exact Q00 rfl (Q00 rfl ⟨by simp only[giveE,if_neg hin],by simpa only [giveH,if_neg hin] using h,Mod.refl _ _⟩)
 rw[if_pos hin];refine Q03 rfl (.of (taken_any h k) ?_);rintro r w1 ⟨rfl,rfl⟩;obtain⟨kn,rfl⟩:=zzeoz hin.1;obtain⟨c,hc⟩:∃c,hs[kn]? = some c:=⟨_,zzgge (by omega)⟩;refine⟨_,rfl,?_⟩;have hT:decide (InS hs (kn:Int) /\ hs[((kn:Int)).toNat]? = some true)=c:=Q3W hc;rw[hT];cases c with
 | false=>exact Q03 rfl ⟨by simp[giveE,if_pos hin,hc],by simpa only [giveH,if_pos hin,zztnc,set_same hc] using h,Mod.refl _ _⟩
 | true=>
  refine Q00 rfl (Q03 rfl (.of (Q4Y h hc (d:=1) (by decide)) ?_));rintro r w2 ⟨rfl,h2,hm⟩;exact⟨rfl,by simp[giveE,if_pos hin,hc],by simpa only [giveH,if_pos hin,zztnc,Bool.not_true] using h2,hm⟩
end
end Sf
end
section
namespace Sf
open Go.RowKit
theorem Q4A(n:Nat):madeCells #[Value.int .u64 0] (n*1)=(wC (List.replicate n 0)++[]).toArray:=by
 have h:(madeCells #[Value.int .u64 0] (n*1)).toList=wC (List.replicate n 0):=by
  apply List.ext_getElem?;intro j;simp only[wC,Array.getElem?_toList,List.getElem?_map,List.getElem?_replicate];by_cases hj:j<n
  ·simp[madeCells,hj,Nat.mod_one]
  ·simp[madeCells,hj]
 rw[<-h,List.append_nil,Array.toArray_toList]
def Fill(ws:List Nat)(j:Nat):Prop:=∀(i x:Nat),ws[i]? = some x->x<18446744073709551616 /\ ∀b,b<64->x.testBit b=decide (64*i+b<j)
theorem Fill.step{ws:List Nat}{j x:Nat}(h:Fill ws j)(hx:ws[j / 64]? = some x):Fill (ws.set (j / 64) (x ||| 2 ^ (j % 64))) (j+1):=by
 have hp:2 ^ (j % 64)<2 ^ 64:=Nat.pow_lt_pow_right (by decide) (Nat.mod_lt _ (by decide));have hxl:=(zzgsi.1 hx).1;intro i y hy;rw[zzgst] at hy;by_cases hi:j / 64=i
 ·rw[if_pos hi,if_pos (by omega)] at hy;cases hy;obtain⟨h1,h2⟩:=h _ x hx;refine⟨Nat.or_lt_two_pow (n:=64) h1 hp,fun b hb=>?_⟩;rw[Nat.testBit_or,Nat.testBit_two_pow,h2 b hb,hi];by_cases e:j % 64=b
  ·rw[decide_eq_true e,Bool.or_true,decide_eq_true (by omega)]
  ·rw[zzdcf e,Bool.or_false];exact decide_eq_decide.2 (by omega)
 ·rw[if_neg hi] at hy;obtain⟨h1,h2⟩:=h i y hy;refine⟨h1,fun b hb=>?_⟩;rw[h2 b hb];exact decide_eq_decide.2 (by omega)
theorem Fill.done{ws:List Nat}{n:Nat}(h:Fill ws n)(hl:ws.length=(n+63) / 64):WRel ws (List.replicate n false):=by
 refine⟨by simpa using hl,fun i x hx=>⟨(h i x hx).1,fun b hb=>?_⟩⟩;rw[(h i x hx).2 b hb,List.getElem?_replicate];exact decide_eq_decide.2 ⟨fun q=>by rw[if_pos q],fun q=>by
  by_cases e:64*i+b<n
  ·exact e
  ·rw[if_neg e] at q;cases q⟩
def NewS(w:World)(n:Int)(r:Value)(w':World):Prop:=
 (¬(0<=n /\ n<=65536) /\ r=.tuple #[.pointer none,.int .i64 12] /\ w'=w) \/
 (0<=n /\ n<=65536 /\ ∃p gb,r=.tuple #[zP p,.int .i64 0] /\ SH w' p gb (List.replicate n.toNat false) /\ Ext w w' /\ ∀k,fpS p gb k->w.heap.size<=k)
theorem new_any(w:World)(n:Int):Calls prog 107 #[.int .i64 n] w (Ret (NewS w n)):=by
 refine vc9.ok ?_;unfold vc9;refine ifD (fun h=>.inl ⟨by omega,rfl,rfl⟩) (fun h0=>ifD (fun h=>.inl ⟨by omega,rfl,rfl⟩) (fun h1=>?_));obtain⟨m,rfl⟩:=zzeoz (show 0<=n by omega);have e1:IntKind.i64.wrap ((IntKind.i64.wrap ((m:Int)+63)).tdiv 64)=(((m+63) / 64:Nat):Int):=by
  rw[Q04 (n:=(m:Int)+63) (by omega) (by omega)];rw[show(m:Int)+63=((m+63:Nat):Int) by omega,show(64:Int)=((64:Nat):Int)from rfl,<-Int.ofNat_tdiv];exact Q04 (by omega) (by omega)
 simp only[e1,zztnc];refine⟨by decide,by omega,by omega,by omega,by omega,Q09 fun gb w1 hgb hE1 hs1 hs1'=>Q09 fun p w2 hp hE2 hs2 hs2'=>?_⟩;rw[Q4A] at hgb;have hgb2:=hE2.keep hgb;refine⟨fun k i w3=>∃(j:Nat)(ws:List Nat),i=(j:Int) /\ k+j=m /\ ws.length=(m+63) / 64 /\ Fill ws j /\
   w3.heap[p]? = some (.cells #[.slice (some ⟨gb,0,none⟩) ((m+63) / 64) ((m+63) / 64),.int .i64 (m:Int),.int .i64 (m:Int)] 226 (0,0)) /\
   w3.heap[gb]? = some (.cells (wC ws++[]).toArray 33 (0,0)) /\ Ext w w3,
  ⟨m,0,List.replicate ((m+63) / 64) 0,rfl,rfl,by simp,fun i x hx=>?_,hp,hgb2,hE1.trans hE2⟩,?_⟩
 ·rw[List.getElem?_replicate] at hx;split at hx
  ·cases hx;exact⟨by decide,fun b _=>by simp⟩
  ·cases hx
 rintro k jv i w3 ⟨j,ws,rfl,hk,hl,hF,hp3,hg3,hE3⟩;refine ifD (fun hj=>?_) (fun hj=>.inr ⟨by omega,by omega,p,gb,rfl,⟨⟨ws,[],(m+63) / 64,?_,by omega,by simp only[maxLen];omega,by simp[hl],?_,hg3⟩,by omega,by simp;omega⟩,hE3,?_⟩)
 ·rintro w4 rfl;have hE4:=Ext.drew w3;obtain⟨x,hx⟩:∃x,ws[j / 64]? = some x:=⟨_,zzgge (by omega)⟩;obtain⟨q1,q2⟩:=Q58 j (by omega);have hxl:=(hF _ x hx).1;have hp2:2 ^ (j % 64)<2 ^ 64:=Nat.pow_lt_pow_right (by decide) (Nat.mod_lt _ (by decide));rw[q1,q2];simp only[someA,Q02,Nat.zero_add,zztnc];refine⟨_,_,_,Q01 (hE4.keep hp3) rfl,by decide,by trivial,by omega,by omega,?_⟩;simp only[someA,Q02,Nat.zero_add];refine⟨by trivial,_,Q01 (hE4.keep hg3) (Q3J ws [] hx),by decide,by trivial,by omega,by trivial,by trivial,by omega,by omega,by trivial,?_⟩;rw[Qan (Nat.mod_lt _ (by decide)),Q2q hxl hp2];refine Q0e (n:=1) (hE4.keep hg3) (by simp[wC];omega) fun w5 hg5 hm5 hs5=>⟨k-1,by omega,j+1,ws.set (j / 64) (x ||| 2 ^ (j % 64)),?_,by omega,by simpa using hl,hF.step hx,hm5.keep (hE4.keep hp3) (by omega),?_,?_⟩
  ·rw[Q04 (by omega) (by omega)];rfl
  ·rw[hg5,Qds ws [] (by omega)]
  ·exact(hE3.trans hE4).new hm5 (fun k hk=>by subst hk;omega)
 ·have:j=m:=by omega
  subst this;rw[zztnc];exact hF.done hl
 ·have:j=m:=by omega
  subst this;rw[zztnc,hp3,zzlrp,List.count_replicate,hl];simp
 ·rintro k (rfl | rfl) <;> omega
section
variable(w:World)
end
end Sf
end
set_option maxRecDepth 100000
section
variable{w:World}{R:Value->World->Prop}
def vc69(x0_0 x0_1:Int)(x1:ByteArray)(x2:Int)(w:World)(R:VW):Prop:=
 ∀(n0:Nat)(w1:World),n0=w.heap.size->w1=w.alloc (.cells #[.int .i64 x0_0,.int .i64 x0_1] 23)->∃i2 i3:Int,CellsAt w1 (zA n0) [.int .i64 i2,.int .i64 i3] /\ CS 30 #[.agg #[.int .i64 i2,.int .i64 i3],.string x1,.int .i64 x2] w1 fun v4 w5=>∃(p6:Option Addr)(n7 n8:Nat)(b9:Bool),v4=.tuple #[.slice p6 n7 n8,.bool b9] /\ ifB (!b9) (R (.tuple #[.pointer none,.slice none 0 0,.slice none 0 0]) w5) (∃i10 i11:Int,CellsAt w5 (zA n0) [.int .i64 i10,.int .i64 i11] /\ CS 27 #[.agg #[.int .i64 i10,.int .i64 i11],.slice p6 n7 n8] w5 fun v12 w13=>∃(p14 p15:Option Addr)(n16 n17:Nat)(p18:Option Addr)(n19 n20:Nat)(i21:Int),v12=.tuple #[.pointer p14,.slice p15 n16 n17,.slice p18 n19 n20,.int .i64 i21] /\ ifB (i21 != 0) (R (.tuple #[.pointer none,.slice none 0 0,.slice none 0 0]) w13) (R (.tuple #[.pointer p14,.slice p15 n16 n17,.slice p18 n19 n20]) w13))
theorem vc69.ok{x0_0 x0_1:Int}{x1:ByteArray}{x2:Int}(h:vc69 x0_0 x0_1 x1 x2 w R ):Calls prog 9 #[.agg #[.int .i64 x0_0,.int .i64 x0_1],.string x1,.int .i64 x2] w (Ret R):=
 bodyE zN Tryz.func9 (h:=h)
def va71:Ann:=⟨fun id=>cond (Nat.beq id 8) ⟨[(11,.slice none 0 0),(12,.slice none 0 0),(29,.int .i64 0)],([14,15,16,17]++rg 30 53)⟩ (LI.none),fun l=>none,fun i=>cond (Nat.beq i 16) (some ⟨[],([16]++rg 35 22)⟩) (cond (Nat.beq i 19) (some ⟨[],(rg 60 14)⟩) (none))⟩
def vc71(x0_0 x0_1:Int)(x1a:Option Addr)(x1l x1c:Nat)(w:World)(R:VW):Prop:=
 ∀(n0:Nat)(w1:World),n0=w.heap.size->w1=w.alloc (.cells #[.int .i64 x0_0,.int .i64 x0_1] 23)->∃i2 i3:Int,CellsAt w1 (zA n0) [.int .i64 i2,.int .i64 i3] /\ CS 10 #[.agg #[.int .i64 i2,.int .i64 i3]] w1 fun v4 w5=>∃(p6:Option Addr)(i7:Int),v4=.tuple #[.pointer p6,.int .i64 i7] /\ ifB (i7 != 0) (R (.tuple #[.pointer none,.slice none 0 0,.slice none 0 0,.int .i64 i7]) w5) (∃(p8:Option Nat)(w9:World),Sem.run prog (Instr.makeMap 105 none) w5=.ok (.map p8) w9 /\ ∃x10:Nat->Option Addr->Nat->Nat->Option Addr->Nat->Nat->Int->World->Prop,(∃n11:Nat,x10 n11 none 0 0 none 0 0 0 w9) /\ ∀(n12:Nat)(jv:Nat->Value)(p13:Option Addr)(n14 n15:Nat)(p16:Option Addr)(n17 n18:Nat)(i19:Int)(w20:World),x10 n12 p13 n14 n15 p16 n17 n18 i19 w20->ifB (decide (i19<(↑x1l:Int))) (0<=i19 /\ i19<(↑x1l:Int) /\ someA x1a fun a21=>∃(i22 i23 i24 i25 i26:Int)(s27:ByteArray)(i28:Int),CellsAt w20 (a21.add (i19.toNat*7)) [.int .i64 i22,.int .i64 i23,.int .i64 i24,.int .i64 i25,.int .u64 i26,.string s27,.int .i64 i28] /\ ∀(n29:Nat)(w30:World),n29=w20.heap.size->w30=w20.alloc (.cells #[.int .i64 0,.int .i64 0,.int .i64 0,.int .i64 0,.int .u64 0,.string (.mk #[]),.int .i64 0] 62)->WrC w30 (zA n29) 7 /\ ∀(w31:World),w31=wr w30 (zA n29) [.int .i64 i22,.int .i64 i23,.int .i64 i24,.int .i64 i25,.int .u64 i26,.string s27,.int .i64 i28]->∃(i32 i33 i34 i35 i36:Int)(s37:ByteArray),CellsAt w31 ((zA n29).add 0) [.int .i64 i32,.int .i64 i33,.int .i64 i34,.int .i64 i35,.int .u64 i36,.string s37] /\ ∀(n38:Nat)(w39:World),n38=w31.heap.size->w39=w31.alloc (.cells #[.int .i64 0,.int .i64 0,.int .i64 0,.int .i64 0,.int .u64 0,.string (.mk #[])] 35)->WrC w39 (zA n38) 6 /\ ∀(w40:World),w40=wr w39 (zA n38) [.int .i64 i32,.int .i64 i33,.int .i64 i34,.int .i64 i35,.int .u64 i36,.string s37]->∃x41:World->Prop,(∃i42:Int,w40.cell? ((zA n29).add 6)=some (.int .i64 i42) /\ ifB (decide (i42>0)) (∃i43:Int,w40.cell? ((zA n38).add 1)=some (.int .i64 i43) /\ ∃(p44:Option Addr)(n45 n46:Nat)(w47:World),Sem.run prog (Instr.lookup 105 (.map p8) (.int .i64 i43) false) w40=.ok (.slice p44 n45 n46) w47 /\ WrC w47 ((zA n38).add 4) 1 /\ ∀(w48:World),w48=wr w47 ((zA n38).add 4) [.int .u64 0]->∃i49:Int,w48.cell? ((zA n29).add 6)=some (.int .i64 i49) /\ ifB (decide (i49<=(↑n45:Int))) (∃i50:Int,w48.cell? ((zA n29).add 6)=some (.int .i64 i50) /\ 0<=IntKind.i64.wrap ((↑n45:Int)-i50) /\ IntKind.i64.wrap ((↑n45:Int)-i50)<(↑n45:Int) /\ someA p44 fun a51=>∃i52:Int,w48.cell? (a51.add (IntKind.i64.wrap ((↑n45:Int)-i50)).toNat)=some (.int .u64 i52) /\ WrC w48 ((zA n38).add 4) 1 /\ ∀(w53:World),w53=wr w48 ((zA n38).add 4) [.int .u64 i52]->x41 w53) (x41 w48)) (x41 w40)) /\ ∀(jv:Nat->Value)(w54:World),x41 w54->∃(i55 i56 i57 i58 i59:Int)(s60:ByteArray),CellsAt w54 (zA n38) [.int .i64 i55,.int .i64 i56,.int .i64 i57,.int .i64 i58,.int .u64 i59,.string s60] /\ CS 14 #[.pointer p6,.agg #[.int .i64 i55,.int .i64 i56,.int .i64 i57,.int .i64 i58,.int .u64 i59,.string s60]] w54 fun v61 w62=>∃(i63 i64 i65 i66:Int)(s67:ByteArray)(i68:Int),v61=.agg #[.int .i64 i63,.int .u64 i64,.int .i64 i65,.int .i64 i66,.string s67,.int .i64 i68] /\ ∀(n69:Nat)(w70:World),n69=w62.heap.size->w70=w62.alloc (.cells #[.int .i64 0,.int .u64 0,.int .i64 0,.int .i64 0,.string (.mk #[]),.int .i64 0] 40)->WrC w70 (zA n69) 6 /\ ∀(w71:World),w71=wr w70 (zA n69) [.int .i64 i63,.int .u64 i64,.int .i64 i65,.int .i64 i66,.string s67,.int .i64 i68]->∃x72:World->Prop,(∃i73:Int,w71.cell? ((zA n69).add 1)=some (.int .u64 i73) /\ ifB (i73 != 0) (∀(w74:World),w74=w71.drew->∃i75:Int,w74.cell? ((zA n38).add 1)=some (.int .i64 i75) /\ ∃i76:Int,w74.cell? ((zA n38).add 1)=some (.int .i64 i76) /\ ∃(p77:Option Addr)(n78 n79:Nat)(w80:World),Sem.run prog (Instr.lookup 105 (.map p8) (.int .i64 i76) false) w74=.ok (.slice p77 n78 n79) w80 /\ w80=w74 /\ ∃i81:Int,w74.cell? ((zA n69).add 1)=some (.int .u64 i81) /\ ∀(n82:Nat)(w83:World),n82=w74.heap.size->w83=w74.alloc (.cells #[.int .u64 i81] 33)->(∃(p84:Option Addr)(n85 n86:Nat)(w87:World),Sem.run prog (Instr.lookup 105 (.map p8) (.int .i64 i76) false) w83=.ok (.slice p84 n85 n86) w87 /\ w87=w83 /\ Value.slice p84 n85 n86=.slice p77 n78 n79) /\ (∃i88:Int,w83.cell? ((zA n38).add 1)=some (.int .i64 i88) /\ Value.int .i64 i88=.int .i64 i76) /\ (∃i89:Int,w83.cell? ((zA n38).add 1)=some (.int .i64 i89) /\ Value.int .i64 i89=.int .i64 i75) /\ ∃(p90:Option Addr)(n91 n92:Nat)(w93:World),Sem.run prog (Builtin.append_ #[55,55] 55 #[.slice p77 n78 n79,.slice (some (zA n82)) 1 1]) w83=.ok (.slice p90 n91 n92) w93 /\ (∃i94:Int,w93.cell? ((zA n38).add 1)=some (.int .i64 i94) /\ Value.int .i64 i94=.int .i64 i75) /\ ∃w95:World,Sem.run prog (Instr.mapUpdate 105 (.map p8) (.int .i64 i75) (.slice p90 n91 n92)) w93=.ok () w95 /\ x72 w95) (x72 w71)) /\ ∀(jv:Nat->Value)(w96:World),x72 w96->∀(w97:World),w97=w96.drew->∃(i98 i99 i100 i101 i102:Int)(s103:ByteArray),CellsAt w97 (zA n38) [.int .i64 i98,.int .i64 i99,.int .i64 i100,.int .i64 i101,.int .u64 i102,.string s103] /\ ∃(i104 i105 i106 i107:Int)(s108:ByteArray)(i109:Int),CellsAt w97 (zA n69) [.int .i64 i104,.int .u64 i105,.int .i64 i106,.int .i64 i107,.string s108,.int .i64 i109] /\ (∀(n110:Nat)(w111:World),n110=w97.heap.size->w111=w97.alloc (.cells #[.int .i64 i98,.int .i64 i99,.int .i64 i100,.int .i64 i101,.int .u64 i102,.string s103] 35)->(∃(i112 i113 i114 i115:Int)(s116:ByteArray)(i117:Int),CellsAt w111 (zA n69) [.int .i64 i112,.int .u64 i113,.int .i64 i114,.int .i64 i115,.string s116,.int .i64 i117] /\ Value.agg #[.int .i64 i112,.int .u64 i113,.int .i64 i114,.int .i64 i115,.string s116,.int .i64 i117]=.agg #[.int .i64 i104,.int .u64 i105,.int .i64 i106,.int .i64 i107,.string s108,.int .i64 i109]) /\ (∃(p118:Option Addr)(n119 n120:Nat)(w121:World),Sem.run prog (Builtin.append_ #[25,25] 25 #[.slice p13 n14 n15,.slice (some (zA n110)) 1 1]) w111=.ok (.slice p118 n119 n120) w121 /\ (∃(i122 i123 i124 i125:Int)(s126:ByteArray)(i127:Int),CellsAt w121 (zA n69) [.int .i64 i122,.int .u64 i123,.int .i64 i124,.int .i64 i125,.string s126,.int .i64 i127] /\ Value.agg #[.int .i64 i122,.int .u64 i123,.int .i64 i124,.int .i64 i125,.string s126,.int .i64 i127]=.agg #[.int .i64 i104,.int .u64 i105,.int .i64 i106,.int .i64 i107,.string s108,.int .i64 i109]) /\ ∀(n128:Nat)(w129:World),n128=w121.heap.size->w129=w121.alloc (.cells #[.int .i64 i104,.int .u64 i105,.int .i64 i106,.int .i64 i107,.string s108,.int .i64 i109] 40)->(∃(i130 i131 i132 i133 i134:Int)(s135:ByteArray),CellsAt w129 (zA n38) [.int .i64 i130,.int .i64 i131,.int .i64 i132,.int .i64 i133,.int .u64 i134,.string s135] /\ Value.agg #[.int .i64 i130,.int .i64 i131,.int .i64 i132,.int .i64 i133,.int .u64 i134,.string s135]=.agg #[.int .i64 i98,.int .i64 i99,.int .i64 i100,.int .i64 i101,.int .u64 i102,.string s103]) /\ ∃(p136:Option Addr)(n137 n138:Nat)(w139:World),Sem.run prog (Builtin.append_ #[26,26] 26 #[.slice p16 n17 n18,.slice (some (zA n128)) 1 1]) w129=.ok (.slice p136 n137 n138) w139 /\ ∃n140:Nat,n140<n12 /\ x10 n140 p118 n119 n120 p136 n137 n138 (IntKind.i64.wrap (i19+1)) w139) /\ ∀(n141:Nat)(w142:World),n141=w111.heap.size->w142=w111.alloc (.cells #[.int .i64 i104,.int .u64 i105,.int .i64 i106,.int .i64 i107,.string s108,.int .i64 i109] 40)->(∃(i143 i144 i145 i146 i147:Int)(s148:ByteArray),CellsAt w142 (zA n38) [.int .i64 i143,.int .i64 i144,.int .i64 i145,.int .i64 i146,.int .u64 i147,.string s148] /\ Value.agg #[.int .i64 i143,.int .i64 i144,.int .i64 i145,.int .i64 i146,.int .u64 i147,.string s148]=.agg #[.int .i64 i98,.int .i64 i99,.int .i64 i100,.int .i64 i101,.int .u64 i102,.string s103]) /\ ∃(p149:Option Addr)(n150 n151:Nat)(w152:World),Sem.run prog (Builtin.append_ #[25,25] 25 #[.slice p13 n14 n15,.slice (some (zA n110)) 1 1]) w142=.ok (.slice p149 n150 n151) w152 /\ (∃(i153 i154 i155 i156:Int)(s157:ByteArray)(i158:Int),CellsAt w152 (zA n69) [.int .i64 i153,.int .u64 i154,.int .i64 i155,.int .i64 i156,.string s157,.int .i64 i158] /\ Value.agg #[.int .i64 i153,.int .u64 i154,.int .i64 i155,.int .i64 i156,.string s157,.int .i64 i158]=.agg #[.int .i64 i104,.int .u64 i105,.int .i64 i106,.int .i64 i107,.string s108,.int .i64 i109]) /\ ∃(p159:Option Addr)(n160 n161:Nat)(w162:World),Sem.run prog (Builtin.append_ #[26,26] 26 #[.slice p16 n17 n18,.slice (some (zA n141)) 1 1]) w152=.ok (.slice p159 n160 n161) w162 /\ ∃n163:Nat,n163<n12 /\ x10 n163 p149 n150 n151 p159 n160 n161 (IntKind.i64.wrap (i19+1)) w162) /\ ∀(n164:Nat)(w165:World),n164=w97.heap.size->w165=w97.alloc (.cells #[.int .i64 i104,.int .u64 i105,.int .i64 i106,.int .i64 i107,.string s108,.int .i64 i109] 40)->(∃(i166 i167 i168 i169 i170:Int)(s171:ByteArray),CellsAt w165 (zA n38) [.int .i64 i166,.int .i64 i167,.int .i64 i168,.int .i64 i169,.int .u64 i170,.string s171] /\ Value.agg #[.int .i64 i166,.int .i64 i167,.int .i64 i168,.int .i64 i169,.int .u64 i170,.string s171]=.agg #[.int .i64 i98,.int .i64 i99,.int .i64 i100,.int .i64 i101,.int .u64 i102,.string s103]) /\ ∀(n172:Nat)(w173:World),n172=w165.heap.size->w173=w165.alloc (.cells #[.int .i64 i98,.int .i64 i99,.int .i64 i100,.int .i64 i101,.int .u64 i102,.string s103] 35)->(∃(i174 i175 i176 i177:Int)(s178:ByteArray)(i179:Int),CellsAt w173 (zA n69) [.int .i64 i174,.int .u64 i175,.int .i64 i176,.int .i64 i177,.string s178,.int .i64 i179] /\ Value.agg #[.int .i64 i174,.int .u64 i175,.int .i64 i176,.int .i64 i177,.string s178,.int .i64 i179]=.agg #[.int .i64 i104,.int .u64 i105,.int .i64 i106,.int .i64 i107,.string s108,.int .i64 i109]) /\ ∃(p180:Option Addr)(n181 n182:Nat)(w183:World),Sem.run prog (Builtin.append_ #[25,25] 25 #[.slice p13 n14 n15,.slice (some (zA n172)) 1 1]) w173=.ok (.slice p180 n181 n182) w183 /\ (∃(i184 i185 i186 i187:Int)(s188:ByteArray)(i189:Int),CellsAt w183 (zA n69) [.int .i64 i184,.int .u64 i185,.int .i64 i186,.int .i64 i187,.string s188,.int .i64 i189] /\ Value.agg #[.int .i64 i184,.int .u64 i185,.int .i64 i186,.int .i64 i187,.string s188,.int .i64 i189]=.agg #[.int .i64 i104,.int .u64 i105,.int .i64 i106,.int .i64 i107,.string s108,.int .i64 i109]) /\ ∃(p190:Option Addr)(n191 n192:Nat)(w193:World),Sem.run prog (Builtin.append_ #[26,26] 26 #[.slice p16 n17 n18,.slice (some (zA n164)) 1 1]) w183=.ok (.slice p190 n191 n192) w193 /\ ∃n194:Nat,n194<n12 /\ x10 n194 p180 n181 n182 p190 n191 n192 (IntKind.i64.wrap (i19+1)) w193) (R (.tuple #[.pointer p6,.slice p13 n14 n15,.slice p16 n17 n18,.int .i64 0]) w20))
theorem vc71.ok{x0_0 x0_1:Int}{x1a:Option Addr}{x1l x1c:Nat}(h:vc71 x0_0 x0_1 x1a x1l x1c w R ):Calls prog 27 #[.agg #[.int .i64 x0_0,.int .i64 x0_1],.slice x1a x1l x1c] w (Ret R):=
 bodyE va71 Tryz.func27 (h:=h)
def va72:Ann:=⟨fun id=>cond (Nat.beq id 2) ⟨[(2,.slice none 0 0)],([4,5]++rg 13 14)⟩ (LI.none),fun l=>none,fun i=>none⟩
def vc72(x0:ByteArray)(w:World)(R:VW):Prop:=
 ∃(i0:Int)(w1:World),Sem.run prog (Builtin.min_ #[3,3] 3 #[.int .i64 (↑x0.size:Int),.int .i64 16384]) w=.ok (.int .i64 i0) w1 /\ (0:Int)<=0 /\ 0<=i0 /\ i0<=(↑x0.size:Int) /\ ∀(n2:Nat)(w3:World),n2=w1.heap.size->w3=w1.alloc (.cells #[.string (x0.extract 0 i0.toNat),.bool false] 108)->∃x4:Nat->Option Addr->Nat->Nat->World->Prop,(∃n5:Nat,x4 n5 none 0 0 w3) /\ ∀(n6:Nat)(jv:Nat->Value)(p7:Option Addr)(n8 n9:Nat)(w10:World),x4 n6 p7 n8 n9 w10->ifB (decide ((↑n8:Int)<4000)) (CS 62 #[zP n2] w10 fun v11 w12=>∃(i13 i14 i15 i16 i17:Int)(s18:ByteArray)(i19:Int)(b20:Bool),v11=.tuple #[.agg #[.int .i64 i13,.int .i64 i14,.int .i64 i15,.int .i64 i16,.int .u64 i17,.string s18,.int .i64 i19],.bool b20] /\ ∀(n21:Nat)(w22:World),n21=w12.heap.size->w22=w12.alloc (.cells #[.int .i64 0,.int .i64 0,.int .i64 0,.int .i64 0,.int .u64 0,.string (.mk #[]),.int .i64 0] 62)->WrC w22 (zA n21) 7 /\ ∀(w23:World),w23=wr w22 (zA n21) [.int .i64 i13,.int .i64 i14,.int .i64 i15,.int .i64 i16,.int .u64 i17,.string s18,.int .i64 i19]->ifB (!b20) (R (.slice p7 n8 n9) w23) (∃(i24 i25 i26 i27 i28:Int)(s29:ByteArray)(i30:Int),CellsAt w23 (zA n21) [.int .i64 i24,.int .i64 i25,.int .i64 i26,.int .i64 i27,.int .u64 i28,.string s29,.int .i64 i30] /\ ∀(n31:Nat)(w32:World),n31=w23.heap.size->w32=w23.alloc (.cells #[.int .i64 i24,.int .i64 i25,.int .i64 i26,.int .i64 i27,.int .u64 i28,.string s29,.int .i64 i30] 62)->∃(p33:Option Addr)(n34 n35:Nat)(w36:World),Sem.run prog (Builtin.append_ #[59,59] 59 #[.slice p7 n8 n9,.slice (some (zA n31)) 1 1]) w32=.ok (.slice p33 n34 n35) w36 /\ ∃n37:Nat,n37<n6 /\ x4 n37 p33 n34 n35 w36)) (R (.slice p7 n8 n9) w10)
theorem vc72.ok{x0:ByteArray}(h:vc72 x0 w R ):Calls prog 28 #[.string x0] w (Ret R):=
 bodyE va72 Tryz.func28 (h:=h)
def vc73(x0_0 x0_1:Int)(x1:ByteArray)(x2:Int)(w:World)(R:VW):Prop:=
 ∀(n0:Nat)(w1:World),n0=w.heap.size->w1=w.alloc (.cells #[.int .i64 x0_0,.int .i64 x0_1] 23)->ifB (decide ((↑x1.size:Int)>8192)) (R (.tuple #[.slice none 0 0,.bool false]) w1) (∃i2 i3:Int,CellsAt w1 (zA n0) [.int .i64 i2,.int .i64 i3] /\ CS 25 #[.agg #[.int .i64 i2,.int .i64 i3],.slice none 0 0,.int .i64 1] w1 fun v4 w5=>∃b6:Bool,v4=.bool b6 /\ ifB b6 (R (.tuple #[.slice none 0 0,.bool false]) w5) (CS 28 #[.string x1] w5 fun v7 w8=>∃(p9:Option Addr)(n10 n11:Nat),v7=.slice p9 n10 n11 /\ R (.tuple #[.slice p9 n10 n11,.bool (decide ((↑n10:Int)<=x2))]) w8))
theorem vc73.ok{x0_0 x0_1:Int}{x1:ByteArray}{x2:Int}(h:vc73 x0_0 x0_1 x1 x2 w R ):Calls prog 30 #[.agg #[.int .i64 x0_0,.int .i64 x0_1],.string x1,.int .i64 x2] w (Ret R):=
 bodyE zN Tryz.func30 (h:=h)
def va75:Ann:=⟨fun id=>cond (Nat.beq id 3) ⟨[(4,.slice none 0 0),(16,.int .i64 0)],([7]++rg 17 10)⟩ (LI.none),fun l=>none,fun i=>none⟩
def vc75(x0:Option Addr)(x1:Int)(w:World)(R:VW):Prop:=
 CS 44 #[.pointer x0,.int .i64 x1] w fun v0 w1=>∃p2:Option Addr,v0=.pointer p2 /\ CS 45 #[.pointer p2] w1 fun v3 w4=>∃p5:Option Addr,v3=.pointer p5 /\ CS 46 #[.pointer p5] w4 fun v6 w7=>∃p8:Option Addr,v6=.pointer p8 /\ CS 47 #[.pointer p8] w7 fun v9 w10=>∃(p11:Option Addr)(n12 n13:Nat),v9=.slice p11 n12 n13 /\ ∃x14:Nat->Option Addr->Nat->Nat->Int->World->Prop,(∃n15:Nat,x14 n15 none 0 0 0 w10) /\ ∀(n16:Nat)(jv:Nat->Value)(p17:Option Addr)(n18 n19:Nat)(i20:Int)(w21:World),x14 n16 p17 n18 n19 i20 w21->ifB (decide (i20<(↑n12:Int))) (0<=i20 /\ i20<(↑n12:Int) /\ someA p11 fun a22=>∃i23:Int,w21.cell? (a22.add i20.toNat)=some (.int .i64 i23) /\ CS 48 #[.pointer p8,.int .i64 i23] w21 fun v24 w25=>∃i26:Int,v24=.int .i64 i26 /\ ∀(n27:Nat)(w28:World),n27=w25.heap.size->w28=w25.alloc (.cells #[.int .i64 i26] 3)->∃(p29:Option Addr)(n30 n31:Nat)(w32:World),Sem.run prog (Builtin.append_ #[37,37] 37 #[.slice p17 n18 n19,.slice (some (zA n27)) 1 1]) w28=.ok (.slice p29 n30 n31) w32 /\ ∃n33:Nat,n33<n16 /\ x14 n33 p29 n30 n31 (IntKind.i64.wrap (i20+1)) w32) (CS 49 #[.slice p17 n18 n19] w21 fun v34 w35=>v34=.tuple #[] /\ R (.slice p17 n18 n19) w35)
theorem vc75.ok{x0:Option Addr}{x1:Int}(h:vc75 x0 x1 w R ):Calls prog 15 #[.pointer x0,.int .i64 x1] w (Ret R):=
 bodyE va75 Tryz.func15 (h:=h)
def vc78(x0:Option Addr)(w:World)(R:VW):Prop:=
 ifB x0.isNone (R (.slice none 0 0) w) (someA x0 fun a0=>∃p1:Option Nat,w.cell? (a0.add 0)=some (.map p1) /\ CS 91 #[.map p1] w fun v2 w3=>∃v4:Value,v2=v4 /\ CS 90 #[v4] w3 fun v5 w6=>∃(p7:Option Addr)(n8 n9:Nat),v5=.slice p7 n8 n9 /\ R (.slice p7 n8 n9) w6)
theorem vc78.ok{x0:Option Addr}(h:vc78 x0 w R ):Calls prog 47 #[.pointer x0] w (Ret R):=
 bodyE zN Tryz.func47 (h:=h)
def va79:Ann:=⟨fun id=>cond (Nat.beq id 4) ⟨[(2,.slice none 0 0),(16,.int .i64 0)],([4,5,6]++rg 17 25)⟩ (LI.none),fun l=>none,fun i=>none⟩
def vc79(x0:Option Addr)(w:World)(R:VW):Prop:=
 ifB x0.isNone (R (.slice none 0 0) w) (someA x0 fun a0=>∃p1:Option Nat,w.cell? (a0.add 7)=some (.map p1) /\ CS 91 #[.map p1] w fun v2 w3=>∃v4:Value,v2=v4 /\ CS 90 #[v4] w3 fun v5 w6=>∃(p7:Option Addr)(n8 n9:Nat),v5=.slice p7 n8 n9 /\ ∃x10:Nat->Option Addr->Nat->Nat->Int->World->Prop,(∃n11:Nat,x10 n11 none 0 0 0 w6) /\ ∀(n12:Nat)(jv:Nat->Value)(p13:Option Addr)(n14 n15:Nat)(i16:Int)(w17:World),x10 n12 p13 n14 n15 i16 w17->ifB (decide (i16<(↑n8:Int))) (0<=i16 /\ i16<(↑n8:Int) /\ someA p7 fun a18=>∃i19:Int,w17.cell? (a18.add i16.toNat)=some (.int .i64 i19) /\ someA x0 fun a20=>∃p21:Option Addr,w17.cell? (a20.add 2)=some (.pointer p21) /\ CS 95 #[.pointer p21,.int .i64 i19] w17 fun v22 w23=>∃i24 i25:Int,v22=.tuple #[.int .i64 i24,.int .i64 i25] /\ someA x0 fun a26=>∃p27:Option Nat,w23.cell? (a26.add 7)=some (.map p27) /\ ∃(i28:Int)(w29:World),Sem.run prog (Instr.lookup 48 (.map p27) (.int .i64 i19) false) w23=.ok (.int .i64 i28) w29 /\ ∀(n30:Nat)(w31:World),n30=w29.heap.size->w31=w29.alloc (.cells #[.int .i64 i19,.int .i64 i28,.int .i64 i24] 99)->∃(p32:Option Addr)(n33 n34:Nat)(w35:World),Sem.run prog (Builtin.append_ #[52,52] 52 #[.slice p13 n14 n15,.slice (some (zA n30)) 1 1]) w31=.ok (.slice p32 n33 n34) w35 /\ ∃n36:Nat,n36<n12 /\ x10 n36 p32 n33 n34 (IntKind.i64.wrap (i16+1)) w35) (R (.slice p13 n14 n15) w17))
theorem vc79.ok{x0:Option Addr}(h:vc79 x0 w R ):Calls prog 51 #[.pointer x0] w (Ret R):=
 bodyE va79 Tryz.func51 (h:=h)
def vc81(w:World)(R:VW):Prop:=
 CS 10 #[.agg #[.int .i64 64,.int .i64 4]] w fun v0 w1=>∃(p2:Option Addr)(i3:Int),v0=.tuple #[.pointer p2,.int .i64 i3] /\ ifB (i3 != 0) (R (.bool false) w1) (ifB p2.isNone (R (.bool false) w1) (CS 14 #[.pointer p2,.agg #[.int .i64 1,.int .i64 0,.int .i64 100,.int .i64 1,.int .u64 0,.string (.mk #[])]] w1 fun v4 w5=>∃(i6 i7 i8 i9:Int)(s10:ByteArray)(i11:Int),v4=.agg #[.int .i64 i6,.int .u64 i7,.int .i64 i8,.int .i64 i9,.string s10,.int .i64 i11] /\ ∀(n12:Nat)(w13:World),n12=w5.heap.size->w13=w5.alloc (.cells #[.int .i64 0,.int .u64 0,.int .i64 0,.int .i64 0,.string (.mk #[]),.int .i64 0] 40)->WrC w13 (zA n12) 6 /\ ∀(w14:World),w14=wr w13 (zA n12) [.int .i64 i6,.int .u64 i7,.int .i64 i8,.int .i64 i9,.string s10,.int .i64 i11]->CS 14 #[.pointer p2,.agg #[.int .i64 4,.int .i64 0,.int .i64 40,.int .i64 0,.int .u64 0,.string (.mk #[])]] w14 fun v15 w16=>∃(i17 i18 i19 i20:Int)(s21:ByteArray)(i22:Int),v15=.agg #[.int .i64 i17,.int .u64 i18,.int .i64 i19,.int .i64 i20,.string s21,.int .i64 i22] /\ ∀(n23:Nat)(w24:World),n23=w16.heap.size->w24=w16.alloc (.cells #[.int .i64 0,.int .u64 0,.int .i64 0,.int .i64 0,.string (.mk #[]),.int .i64 0] 40)->WrC w24 (zA n23) 6 /\ ∀(w25:World),w25=wr w24 (zA n23) [.int .i64 i17,.int .u64 i18,.int .i64 i19,.int .i64 i20,.string s21,.int .i64 i22]->CS 14 #[.pointer p2,.agg #[.int .i64 4,.int .i64 1,.int .i64 40,.int .i64 0,.int .u64 0,.string (.mk #[])]] w25 fun v26 w27=>∃(i28 i29 i30 i31:Int)(s32:ByteArray)(i33:Int),v26=.agg #[.int .i64 i28,.int .u64 i29,.int .i64 i30,.int .i64 i31,.string s32,.int .i64 i33] /\ ∀(n34:Nat)(w35:World),n34=w27.heap.size->w35=w27.alloc (.cells #[.int .i64 0,.int .u64 0,.int .i64 0,.int .i64 0,.string (.mk #[]),.int .i64 0] 40)->WrC w35 (zA n34) 6 /\ ∀(w36:World),w36=wr w35 (zA n34) [.int .i64 i28,.int .u64 i29,.int .i64 i30,.int .i64 i31,.string s32,.int .i64 i33]->CS 14 #[.pointer p2,.agg #[.int .i64 12,.int .i64 0,.int .i64 0,.int .i64 0,.int .u64 0,.string (.mk #[])]] w36 fun v37 w38=>∃(i39 i40 i41 i42:Int)(s43:ByteArray)(i44:Int),v37=.agg #[.int .i64 i39,.int .u64 i40,.int .i64 i41,.int .i64 i42,.string s43,.int .i64 i44] /\ ∀(n45:Nat)(w46:World),n45=w38.heap.size->w46=w38.alloc (.cells #[.int .i64 0,.int .u64 0,.int .i64 0,.int .i64 0,.string (.mk #[]),.int .i64 0] 40)->WrC w46 (zA n45) 6 /\ ∀(w47:World),w47=wr w46 (zA n45) [.int .i64 i39,.int .u64 i40,.int .i64 i41,.int .i64 i42,.string s43,.int .i64 i44]->∃i48:Int,w47.cell? ((zA n23).add 1)=some (.int .u64 i48) /\ CS 14 #[.pointer p2,.agg #[.int .i64 10,.int .i64 0,.int .i64 38,.int .i64 0,.int .u64 i48,.string (ByteArray.mk #[(120:UInt8),(121:UInt8)])]] w47 fun v49 w50=>∃(i51 i52 i53 i54:Int)(s55:ByteArray)(i56:Int),v49=.agg #[.int .i64 i51,.int .u64 i52,.int .i64 i53,.int .i64 i54,.string s55,.int .i64 i56] /\ ∀(n57:Nat)(w58:World),n57=w50.heap.size->w58=w50.alloc (.cells #[.int .i64 0,.int .u64 0,.int .i64 0,.int .i64 0,.string (.mk #[]),.int .i64 0] 40)->WrC w58 (zA n57) 6 /\ ∀(w59:World),w59=wr w58 (zA n57) [.int .i64 i51,.int .u64 i52,.int .i64 i53,.int .i64 i54,.string s55,.int .i64 i56]->∃i60:Int,w59.cell? ((zA n23).add 1)=some (.int .u64 i60) /\ CS 14 #[.pointer p2,.agg #[.int .i64 9,.int .i64 0,.int .i64 37,.int .i64 3,.int .u64 i60,.string (.mk #[])]] w59 fun v61 w62=>∃(i63 i64 i65 i66:Int)(s67:ByteArray)(i68:Int),v61=.agg #[.int .i64 i63,.int .u64 i64,.int .i64 i65,.int .i64 i66,.string s67,.int .i64 i68] /\ ∀(n69:Nat)(w70:World),n69=w62.heap.size->w70=w62.alloc (.cells #[.int .i64 0,.int .u64 0,.int .i64 0,.int .i64 0,.string (.mk #[]),.int .i64 0] 40)->WrC w70 (zA n69) 6 /\ ∀(w71:World),w71=wr w70 (zA n69) [.int .i64 i63,.int .u64 i64,.int .i64 i65,.int .i64 i66,.string s67,.int .i64 i68]->∃i72:Int,w71.cell? ((zA n23).add 1)=some (.int .u64 i72) /\ CS 14 #[.pointer p2,.agg #[.int .i64 6,.int .i64 0,.int .i64 0,.int .i64 0,.int .u64 i72,.string (.mk #[])]] w71 fun v73 w74=>∃(i75 i76 i77 i78:Int)(s79:ByteArray)(i80:Int),v73=.agg #[.int .i64 i75,.int .u64 i76,.int .i64 i77,.int .i64 i78,.string s79,.int .i64 i80] /\ ∀(n81:Nat)(w82:World),n81=w74.heap.size->w82=w74.alloc (.cells #[.int .i64 0,.int .u64 0,.int .i64 0,.int .i64 0,.string (.mk #[]),.int .i64 0] 40)->WrC w82 (zA n81) 6 /\ ∀(w83:World),w83=wr w82 (zA n81) [.int .i64 i75,.int .u64 i76,.int .i64 i77,.int .i64 i78,.string s79,.int .i64 i80]->∃(i84 i85 i86 i87:Int)(s88:ByteArray)(i89:Int),CellsAt w83 (zA n12) [.int .i64 i84,.int .u64 i85,.int .i64 i86,.int .i64 i87,.string s88,.int .i64 i89] /\ ∃(b90:Bool)(w91:World),Sem.run prog (binOp BinOp.eql 40 (.agg #[.int .i64 i84,.int .u64 i85,.int .i64 i86,.int .i64 i87,.string s88,.int .i64 i89]) (.agg #[.int .i64 0,.int .u64 0,.int .i64 0,.int .i64 0,.string (.mk #[]),.int .i64 0])) w83=.ok (.bool b90) w91 /\ ifB b90 (∃(i92 i93 i94 i95:Int)(s96:ByteArray)(i97:Int),CellsAt w91 (zA n23) [.int .i64 i92,.int .u64 i93,.int .i64 i94,.int .i64 i95,.string s96,.int .i64 i97] /\ ∃(b98:Bool)(w99:World),Sem.run prog (binOp BinOp.eql 40 (.agg #[.int .i64 i92,.int .u64 i93,.int .i64 i94,.int .i64 i95,.string s96,.int .i64 i97]) (.agg #[.int .i64 0,.int .u64 1048688,.int .i64 393216,.int .i64 0,.string (.mk #[]),.int .i64 48])) w91=.ok (.bool b98) w99 /\ ifB b98 (∃(i100 i101 i102 i103:Int)(s104:ByteArray)(i105:Int),CellsAt w99 (zA n34) [.int .i64 i100,.int .u64 i101,.int .i64 i102,.int .i64 i103,.string s104,.int .i64 i105] /\ ∃(b106:Bool)(w107:World),Sem.run prog (binOp BinOp.eql 40 (.agg #[.int .i64 i100,.int .u64 i101,.int .i64 i102,.int .i64 i103,.string s104,.int .i64 i105]) (.agg #[.int .i64 6,.int .u64 0,.int .i64 0,.int .i64 0,.string (.mk #[]),.int .i64 0])) w99=.ok (.bool b106) w107 /\ ifB b106 (∃(i108 i109 i110 i111:Int)(s112:ByteArray)(i113:Int),CellsAt w107 (zA n45) [.int .i64 i108,.int .u64 i109,.int .i64 i110,.int .i64 i111,.string s112,.int .i64 i113] /\ ∃(b114:Bool)(w115:World),Sem.run prog (binOp BinOp.eql 40 (.agg #[.int .i64 i108,.int .u64 i109,.int .i64 i110,.int .i64 i111,.string s112,.int .i64 i113]) (.agg #[.int .i64 1,.int .u64 0,.int .i64 0,.int .i64 0,.string (.mk #[]),.int .i64 0])) w107=.ok (.bool b114) w115 /\ ifB b114 (∃i116:Int,w115.cell? ((zA n57).add 0)=some (.int .i64 i116) /\ ifB (i116 == 0) (∃(i117 i118 i119 i120:Int)(s121:ByteArray)(i122:Int),CellsAt w115 (zA n69) [.int .i64 i117,.int .u64 i118,.int .i64 i119,.int .i64 i120,.string s121,.int .i64 i122] /\ ∃(b123:Bool)(w124:World),Sem.run prog (binOp BinOp.eql 40 (.agg #[.int .i64 i117,.int .u64 i118,.int .i64 i119,.int .i64 i120,.string s121,.int .i64 i122]) (.agg #[.int .i64 0,.int .u64 0,.int .i64 0,.int .i64 0,.string (ByteArray.mk #[(0:UInt8),(120:UInt8),(121:UInt8)]),.int .i64 48])) w115=.ok (.bool b123) w124 /\ ifB b123 (∃(i125 i126 i127 i128:Int)(s129:ByteArray)(i130:Int),CellsAt w124 (zA n81) [.int .i64 i125,.int .u64 i126,.int .i64 i127,.int .i64 i128,.string s129,.int .i64 i130] /\ ∃(b131:Bool)(w132:World),Sem.run prog (binOp BinOp.eql 40 (.agg #[.int .i64 i125,.int .u64 i126,.int .i64 i127,.int .i64 i128,.string s129,.int .i64 i130]) (.agg #[.int .i64 0,.int .u64 0,.int .i64 0,.int .i64 0,.string (.mk #[]),.int .i64 0])) w124=.ok (.bool b131) w132 /\ R (.bool b131) w132) (R (.bool false) w124)) (R (.bool false) w115)) (R (.bool false) w115)) (R (.bool false) w107)) (R (.bool false) w99)) (R (.bool false) w91)))
theorem vc81.ok(h:vc81 w R ):Calls prog 11 #[] w (Ret R):=
 bodyE zN Tryz.func11 (h:=h)
def va82:Ann:=⟨fun id=>cond (Nat.beq id 2) ⟨[(9,.int .i64 0)],(rg 2 5++rg 10 70)⟩ (cond (Nat.beq id 7) ⟨[(50,.int .i64 0)],([2,5,6]++rg 51 28)⟩ (LI.none)),fun l=>none,fun i=>none⟩
def vc82(x0a:Option Addr)(x0l x0c:Nat)(w:World)(R:VW):Prop:=
 ∃x0:Nat->Int->World->Prop,(∃n1:Nat,x0 n1 0 w) /\ ∀(n2:Nat)(jv:Nat->Value)(i3:Int)(w4:World),x0 n2 i3 w4->ifB (decide (i3<(↑x0l:Int))) (0<=i3 /\ i3<(↑x0l:Int) /\ someA x0a fun a5=>∃i6 i7 i8:Int,CellsAt w4 (a5.add (i3.toNat*3)) [.int .i64 i6,.int .i64 i7,.int .i64 i8] /\ ∀(n9:Nat)(w10:World),n9=w4.heap.size->w10=w4.alloc (.cells #[.int .i64 0,.int .i64 0,.int .i64 0] 99)->WrC w10 (zA n9) 3 /\ ∀(w11:World),w11=wr w10 (zA n9) [.int .i64 i6,.int .i64 i7,.int .i64 i8]->∀(w12:World),w12=w11.drew->∃i13:Int,w12.cell? ((zA n9).add 1)=some (.int .i64 i13) /\ ifB (decide (i13<1)) (w12=w12 /\ w12=w12 /\ Value.tuple #[]=.tuple #[] /\ Value.tuple #[]=.tuple #[] /\ w12=w12 /\ w12=w12 /\ R (.bool false) w12) (∃i14:Int,w12.cell? ((zA n9).add 1)=some (.int .i64 i14) /\ ∃i15:Int,w12.cell? ((zA n9).add 2)=some (.int .i64 i15) /\ w12=w12 /\ ifB (decide (i14>i15)) (w12=w12 /\ Value.tuple #[]=.tuple #[] /\ Value.tuple #[]=.tuple #[] /\ w12=w12 /\ w12=w12 /\ R (.bool false) w12) (∃i16:Int,w12.cell? ((zA n9).add 0)=some (.int .i64 i16) /\ ∃i17:Int,w12.cell? ((zA n9).add 2)=some (.int .i64 i17) /\ CS 56 #[.int .i64 i16,.int .i64 i17] w12 fun v18 w19=>∃b20:Bool,v18=.bool b20 /\ w19=w19 /\ w19=w19 /\ ifB (!b20) (Value.tuple #[]=.tuple #[] /\ Value.tuple #[]=.tuple #[] /\ w19=w19 /\ w19=w19 /\ R (.bool false) w19) (∃i21:Int,w19.cell? ((zA n9).add 0)=some (.int .i64 i21) /\ ∃i22:Int,w19.cell? ((zA n9).add 2)=some (.int .i64 i22) /\ CS 54 #[.int .i64 i22] w19 fun v23 w24=>∃i25:Int,v23=.int .i64 i25 /\ (∃i26:Int,w24.cell? ((zA n9).add 0)=some (.int .i64 i26) /\ Value.int .i64 i26=.int .i64 i21) /\ CS 57 #[.int .i64 i25] w24 fun v27 w28=>∃i29:Int,v27=.int .i64 i29 /\ (∃i30:Int,w28.cell? ((zA n9).add 0)=some (.int .i64 i30) /\ Value.int .i64 i30=.int .i64 i21) /\ i29 ≠ 0 /\ w28=w28 /\ w28=w28 /\ ifB (i21.tmod i29 != 0) (w28=w28 /\ R (.bool false) w28) (∃i31:Int,w28.cell? ((zA n9).add 0)=some (.int .i64 i31) /\ (8:Int) ≠ 0 /\ w28=w28 /\ w28=w28 /\ ifB (i31.tmod (8:Int) != 0) (R (.bool false) w28) (∃x32:Nat->Int->World->Prop,(∃n33:Nat,x32 n33 0 w28) /\ ∀(n34:Nat)(jv:Nat->Value)(i35:Int)(w36:World),x32 n34 i35 w36->ifB (decide (i35<(↑x0l:Int))) (0<=i35 /\ i35<(↑x0l:Int) /\ someA x0a fun a37=>∃i38 i39 i40:Int,CellsAt w36 (a37.add (i35.toNat*3)) [.int .i64 i38,.int .i64 i39,.int .i64 i40] /\ ∀(n41:Nat)(w42:World),n41=w36.heap.size->w42=w36.alloc (.cells #[.int .i64 0,.int .i64 0,.int .i64 0] 99)->WrC w42 (zA n41) 3 /\ ∀(w43:World),w43=wr w42 (zA n41) [.int .i64 i38,.int .i64 i39,.int .i64 i40]->ifB (i3 != i35) (∃i44:Int,w43.cell? ((zA n9).add 0)=some (.int .i64 i44) /\ ∃i45:Int,w43.cell? ((zA n41).add 0)=some (.int .i64 i45) /\ ∃i46:Int,w43.cell? ((zA n41).add 2)=some (.int .i64 i46) /\ ifB (decide (i44<IntKind.i64.wrap (i45+i46))) (∃i47:Int,w43.cell? ((zA n41).add 0)=some (.int .i64 i47) /\ ∃i48:Int,w43.cell? ((zA n9).add 0)=some (.int .i64 i48) /\ ∃i49:Int,w43.cell? ((zA n9).add 2)=some (.int .i64 i49) /\ ifB (decide (i47<IntKind.i64.wrap (i48+i49))) (R (.bool false) w43) (∃n50:Nat,n50<n34 /\ x32 n50 (IntKind.i64.wrap (i35+1)) w43)) (∃n51:Nat,n51<n34 /\ x32 n51 (IntKind.i64.wrap (i35+1)) w43)) (∃n52:Nat,n52<n34 /\ x32 n52 (IntKind.i64.wrap (i35+1)) w43)) (∃n53:Nat,n53<n2 /\ x0 n53 (IntKind.i64.wrap (i3+1)) w36))))))) (R (.bool true) w4)
theorem vc82.ok{x0a:Option Addr}{x0l x0c:Nat}(h:vc82 x0a x0l x0c w R ):Calls prog 22 #[.slice x0a x0l x0c] w (Ret R):=
 bodyE va82 Tryz.func22 (h:=h)
def vc83(x0:Option Addr)(x1 x2:Int)(w:World)(R:VW):Prop:=
 ifB x0.isNone (R (.int .i64 11) w) (ifB (decide (x1<0)) (R (.int .i64 12) w) (ifB (decide (x1>=8)) (R (.int .i64 12) w) (ifB (decide (x2<0)) (R (.int .i64 12) w) (R (.int .i64 0) w))))
theorem vc83.ok{x0:Option Addr}{x1 x2:Int}(h:vc83 x0 x1 x2 w R ):Calls prog 109 #[.pointer x0,.int .i64 x1,.int .i64 x2] w (Ret R):=
 bodyE zN Tryz.func109 (h:=h)
end
section
open Go.RowKit
def unitN:Nat->Nat
 | 0=>16
 | 1=>32
 | 2=>48
 | 3=>64
 | 4=>96
 | 5=>128
 | 6=>192
 | _=>256
def perN(k:Nat):Nat:=512 / unitN k
theorem Q0h{k:Nat}(hk:k<8):8<=unitN k /\ unitN k<=512 /\ 1<=perN k /\ perN k<=32 /\ unitN k*perN k<=512:=by
 have:∀j:Fin 8,8<=unitN j.val /\ unitN j.val<=512 /\ 1<=perN j.val /\ perN j.val<=32 /\ unitN j.val*perN j.val<=512:=by decide +kernel
 exact this ⟨k,hk⟩
theorem Q16(x:Int)(w:World):Calls prog 210 #[.int .i64 x] w (Ret fun v w'=>v=.bool (decide (0<=x /\ x<24)) /\ w'=w):=by
 refine vc37.ok ?_;unfold vc37;refine ifD (fun h=>⟨?_,rfl⟩) (fun h=>⟨?_,rfl⟩)
 ·exact congrArg Value.bool (decide_eq_decide.2 (by omega))
 ·rw[zzdcf (by omega)]
theorem Q1A{k:Nat}(hk:k<8)(w:World):Calls prog 52 #[.int .i64 (k:Int)] w (Ret fun v w'=>v=.int .i64 (unitN k:Int) /\ w'=w):=by
 refine vc5.ok ?_;unfold vc5
 match k,hk with
 | 0,_=>exact Q03 rfl ⟨by kernel_rfl,rfl⟩
 | 1,_=>exact Q03 rfl ⟨by kernel_rfl,rfl⟩
 | 2,_=>exact Q03 rfl ⟨by kernel_rfl,rfl⟩
 | 3,_=>exact Q03 rfl ⟨by kernel_rfl,rfl⟩
 | 4,_=>exact Q00 rfl ⟨by decide,by decide +kernel,fun i w1=>i=96 /\ w1=w,⟨by decide,Q03 (by decide +kernel) ⟨by decide,by decide +kernel,rfl⟩⟩,by rintro jv i w1 ⟨rfl,rfl⟩;exact⟨rfl,rfl⟩⟩
 | 5,_=>exact Q00 rfl ⟨by decide,by decide +kernel,fun i w1=>i=128 /\ w1=w,⟨by decide,Q00 (by decide +kernel) ⟨by decide +kernel,rfl⟩⟩,by rintro jv i w1 ⟨rfl,rfl⟩;exact⟨rfl,rfl⟩⟩
 | 6,_=>exact Q00 rfl ⟨by decide,by decide +kernel,fun i w1=>i=192 /\ w1=w,⟨by decide,Q03 (by decide +kernel) ⟨by decide,by decide +kernel,rfl⟩⟩,by rintro jv i w1 ⟨rfl,rfl⟩;exact⟨rfl,rfl⟩⟩
 | 7,_=>exact Q00 rfl ⟨by decide,by decide +kernel,fun i w1=>i=256 /\ w1=w,⟨by decide,Q00 (by decide +kernel) ⟨by decide +kernel,rfl⟩⟩,by rintro jv i w1 ⟨rfl,rfl⟩;exact⟨rfl,rfl⟩⟩
theorem Qct{k:Nat}(hk:k<8):(unitN k:Int) ≠ 0 /\ IntKind.i64.wrap (Int.tdiv (512:Int) (unitN k:Int))=(perN k:Int):=by
 have:∀j:Fin 8,(unitN j.val:Int) ≠ 0 /\ IntKind.i64.wrap (Int.tdiv (512:Int) (unitN j.val:Int))=(perN j.val:Int):=by decide +kernel
 exact this ⟨k,hk⟩
theorem Qa1(x:Int)(w:World):Calls prog 213 #[.int .i64 x] w (Ret fun v w'=>v=.int .i64 (if 0<=x /\ x<8 then(perN x.toNat:Int)else 0) /\ w'=w):=by
 refine vc39.ok ?_;unfold vc39;refine .of (Q16 x w) ?_;rintro v w1 ⟨rfl,rfl⟩;refine⟨_,rfl,Q05 (fun h=>⟨?_,rfl⟩) (fun h=>?_)⟩
 ·have h:¬(0<=x /\ x<24):=fun q=>by rw[decide_eq_true q] at h;cases h
  rw[if_neg (by omega)]
 have h:0<=x /\ x<24:=Decidable.byContradiction fun q=>by rw[zzdcf q] at h;cases h
 refine ifD (fun h8=>⟨by rw[if_neg (by omega)],rfl⟩) (fun h8=>?_);obtain⟨k,rfl⟩:=zzeoz h.1;have hk:k<8:=by omega
 refine .of (Q1A hk w1) ?_;rintro v w2 ⟨rfl,rfl⟩;obtain⟨d1,d2⟩:=Qct hk;exact⟨_,rfl,d1,by rw[d2,if_pos ⟨by omega,by omega⟩,zztnc],rfl⟩
theorem Q51{k:Nat}(hk:k<8)(w:World):Calls prog 152 #[.int .i64 (k:Int)] w (Ret fun v w'=>v=.int .i64 (unitN k:Int) /\ w'=w):=by
 refine vc16.ok ?_;unfold vc16;refine .of (Q16 k w) ?_;rintro v w1 ⟨rfl,rfl⟩;refine⟨_,rfl,Q00 (by simp;omega) (Q03 (decide_eq_true (by omega)) (.of (Q1A hk w1) ?_))⟩;rintro v w2 ⟨rfl,rfl⟩;exact⟨_,rfl,rfl,rfl⟩
end
section
open Go.RowKit
theorem dcell{w:World}{b:Nat}{arr:Array Value}{T:TypeId}{v:Value}{i:Nat}(h:w.heap[b]? = some (.cells arr T (0,0)))(hv:arr[0+i]? = some v):w.cell? ((zA b).add i)=some v:=by
 rw[Q02];exact Q01 h hv
theorem dcell2{w:World}{b:Nat}{arr:Array Value}{T:TypeId}{v:Value}{i j:Nat}(h:w.heap[b]? = some (.cells arr T (0,0)))(hv:arr[0+i+j]? = some v):w.cell? (((zA b).add i).add j)=some v:=by
 rw[Q02,Q02];exact Q01 h hv
structure St where
 bs:List UInt8
 ts:List Tch
 f:Nat
 hr:Int
 hw:Int
 hs:List Bool
def ownP(pb rc wc sb sg j:Nat):Prop:=j=pb \/ j=rc \/ j=wc \/ j=sb \/ j=sg
structure PGw (w:World) (pb rc wc ap sb sg:Nat) (FA:Nat->Prop) (base kind:Nat) (s:St):Prop where
 head:w.heap[pb]? = some (.cells #[zP rc,zP wc,zP ap,.int .i64 (base:Int),.int .i64 (kind:Int),.int .i64 (s.f:Int),zP sb] 273 (0,0))
 ar:Ar w 125 ap FA s.bs s.ts
 cr:CH w 309 rc ap base (unitN kind) (perN kind) s.hr
 cw:CH w 309 wc ap base (unitN kind) (perN kind) s.hw
 sh:Sf.SH w sb sg s.hs
 gr:CfgC s.bs.length base (unitN kind) (perN kind) s.hr
 gw:CfgC s.bs.length base (unitN kind) (perN kind) s.hw
 k8:kind<8
 hl:s.hs.length=perN kind
 fl:s.f<=perN kind
 d:pb ≠ rc /\ pb ≠ wc /\ pb ≠ sb /\ pb ≠ sg /\ rc ≠ wc /\ rc ≠ sb /\ rc ≠ sg /\ wc ≠ sb /\ wc ≠ sg
 nF:∀j,ownP pb rc wc sb sg j->¬FA j
def PGs(w0:World)(K:Nat->Prop)(pb ap base kind:Nat)(s:St)(w:World):Prop:=
 ∃rc wc sb sg FA,PGw w pb rc wc ap sb sg FA base kind s /\ (∀j,ownP pb rc wc sb sg j \/ FA j->w0.heap.size<=j /\ ¬K j) /\ (∀j,K j->w0.heap.size<=j /\ j<w.heap.size) /\ Ext w0 w
section
variable{w0 w w':World}{K:Nat->Prop}{pb rc wc ap sb sg base kind:Nat}{FA FA':Nat->Prop}{s s':St}
theorem PGw.lt(h:PGw w pb rc wc ap sb sg FA base kind s):∀j,ownP pb rc wc sb sg j \/ FA j->j<w.heap.size:=by
 rintro j ((rfl | rfl | rfl | rfl | rfl) | hj)
 ·exact Q0i h.head
 ·exact Q0i h.cr
 ·exact Q0i h.cw
 ·exact h.sh.lt _ (.inl rfl)
 ·exact h.sh.lt _ (.inr rfl)
 ·exact h.ar.lt j hj
theorem PGw.keep{G:Nat->Prop}(h:PGw w pb rc wc ap sb sg FA base kind s)(hm:Mod G w w')(hG:∀j,ownP pb rc wc sb sg j \/ FA j->¬G j):PGw w' pb rc wc ap sb sg FA base kind s:=
 ⟨hm.keep h.head (hG _ (.inl (.inl rfl))),h.ar.keep hm (fun j hj=>hG j (.inr hj)),h.cr.keep hm (hG _ (.inl (.inr (.inl rfl)))),h.cw.keep hm (hG _ (.inl (.inr (.inr (.inl rfl))))),
  h.sh.keep hm (fun j hj=>hG j (.inl (by rcases hj with e | e;exact .inr (.inr (.inr (.inl e)));exact .inr (.inr (.inr (.inr e)))))),h.gr,h.gw,h.k8,h.hl,h.fl,h.d,h.nF⟩
theorem PGs.keep(h:PGs w0 K pb ap base kind s w)(hm:Mod K w w'):PGs w0 K pb ap base kind s w':=by
 obtain⟨rc,wc,sb,sg,FA,h,hn,hk,hE⟩:=h;exact⟨rc,wc,sb,sg,FA,h.keep hm (fun j hj=>(hn j hj).2),hn,fun j hj=>⟨(hk j hj).1,Nat.lt_of_lt_of_le (hk j hj).2 hm.size⟩,hE.new hm (fun j hj=>(hk j hj).1)⟩
theorem PGs.step(h:PGw w pb rc wc ap sb sg FA base kind s)(hn:∀j,ownP pb rc wc sb sg j \/ FA j->w0.heap.size<=j /\ ¬K j)(hk:∀j,K j->w0.heap.size<=j /\ j<w.heap.size)(hE:Ext w0 w)
  (h':PGw w' pb rc wc ap sb sg FA' base kind s') (hm:Mod (fun j=>ownP pb rc wc sb sg j \/ FA j) w w') (hF:∀j,FA' j->FA j \/ w.heap.size<=j):PGs w0 K pb ap base kind s' w' /\ Mod (fun j=>¬K j) w w':=by
 refine⟨⟨rc,wc,sb,sg,FA',h',fun j hj=>?_,fun j hj=>⟨(hk j hj).1,Nat.lt_of_lt_of_le (hk j hj).2 hm.size⟩,hE.new hm (fun j hj=>(hn j hj).1)⟩,hm.mono fun j hj=>(hn j hj).2⟩;rcases hj with hj | hj
 ·exact hn j (.inl hj)
 ·rcases hF j hj with z | z
  ·exact hn j (.inr z)
  ·exact⟨Nat.le_trans hE.size z,fun q=>by have:=(hk j q).2;omega⟩
theorem PGw.chR(h:PGw w pb rc wc ap sb sg FA base kind s){bs':List UInt8}{ts':List Tch}{h':Int}(hp:CPost w 125 309 ap rc FA bs' ts' base (unitN kind) (perN kind) h' w')(g:CfgC bs'.length base (unitN kind) (perN kind) h')(hl:bs'.length=s.bs.length) :
  ∃FA',PGw w' pb rc wc ap sb sg FA' base kind {s with bs:=bs',ts:=ts',hr:=h'} /\ Mod (fun j=>ownP pb rc wc sb sg j \/ FA j) w w' /\ ∀j,FA' j->FA j \/ w.heap.size<=j:=by
 obtain⟨FA',a,c,hm,hF⟩:=hp;obtain⟨d1,d2,d3,d4,d5,d6,d7,d8,d9⟩:=h.d;have k:∀j,ownP pb rc wc sb sg j->j ≠ rc->¬(FA j \/ j=rc):=fun j hj hne x=>x.elim (h.nF j hj) hne;refine⟨FA',⟨hm.keep h.head (k _ (.inl rfl) d1),a,c,h.cw.keep hm (k _ (.inr (.inr (.inl rfl))) d5.symm),h.sh.keep hm (fun j hj=>?_),g,?_,h.k8,h.hl,h.fl,h.d,fun j hj x=>?_⟩,hm.mono fun j hj=>hj.elim .inr (fun e=>.inl (.inr (.inl e))),hF⟩
 ·rcases hj with rfl | rfl
  ·exact k _ (.inr (.inr (.inr (.inl rfl)))) d6.symm
  ·exact k _ (.inr (.inr (.inr (.inr rfl)))) d7.symm
 ·show CfgC bs'.length base (unitN kind) (perN kind) s.hw;rw[hl];exact h.gw
 ·have:=h.lt j (.inl hj);exact(hF j x).elim (h.nF j hj) (fun y=>by omega)
theorem PGw.chW(h:PGw w pb rc wc ap sb sg FA base kind s){bs':List UInt8}{ts':List Tch}{h':Int}(hp:CPost w 125 309 ap wc FA bs' ts' base (unitN kind) (perN kind) h' w')(g:CfgC bs'.length base (unitN kind) (perN kind) h')(hl:bs'.length=s.bs.length) :
  ∃FA',PGw w' pb rc wc ap sb sg FA' base kind {s with bs:=bs',ts:=ts',hw:=h'} /\ Mod (fun j=>ownP pb rc wc sb sg j \/ FA j) w w' /\ ∀j,FA' j->FA j \/ w.heap.size<=j:=by
 obtain⟨FA',a,c,hm,hF⟩:=hp;obtain⟨d1,d2,d3,d4,d5,d6,d7,d8,d9⟩:=h.d;have k:∀j,ownP pb rc wc sb sg j->j ≠ wc->¬(FA j \/ j=wc):=fun j hj hne x=>x.elim (h.nF j hj) hne;refine⟨FA',⟨hm.keep h.head (k _ (.inl rfl) d2),a,h.cr.keep hm (k _ (.inr (.inl rfl)) d5),c,h.sh.keep hm (fun j hj=>?_),?_,g,h.k8,h.hl,h.fl,h.d,fun j hj x=>?_⟩,hm.mono fun j hj=>hj.elim .inr (fun e=>.inl (.inr (.inr (.inl e)))),hF⟩
 ·rcases hj with rfl | rfl
  ·exact k _ (.inr (.inr (.inr (.inl rfl)))) d8.symm
  ·exact k _ (.inr (.inr (.inr (.inr rfl)))) d9.symm
 ·show CfgC bs'.length base (unitN kind) (perN kind) s.hr;rw[hl];exact h.gr
 ·have:=h.lt j (.inl hj);exact(hF j x).elim (h.nF j hj) (fun y=>by omega)
theorem PGw.arp(h:PGw w pb rc wc ap sb sg FA base kind s){bs':List UInt8}{ts':List Tch}(hp:Post w 125 ap FA bs' ts' w')(hl:bs'.length=s.bs.length) :
  ∃FA',PGw w' pb rc wc ap sb sg FA' base kind {s with bs:=bs',ts:=ts'} /\ Mod (fun j=>ownP pb rc wc sb sg j \/ FA j) w w' /\ ∀j,FA' j->FA j \/ w.heap.size<=j:=by
 obtain⟨FA',a,hm,hF⟩:=hp;have g:=h.gr;rw[<-hl] at g;exact h.chR ⟨FA',a,h.cr.keep hm (h.nF _ (.inr (.inl rfl))),hm.mono fun j hj=>.inl hj,hF⟩ g hl
theorem PGw.shp(h:PGw w pb rc wc ap sb sg FA base kind s){hs':List Bool}(hp:Sf.SH w' sb sg hs')(hm:Mod (Sf.fpS sb sg) w w')(hl:hs'.length=s.hs.length) :
  PGw w' pb rc wc ap sb sg FA base kind {s with hs:=hs'} /\ Mod (fun j=>ownP pb rc wc sb sg j \/ FA j) w w':=by
 obtain⟨d1,d2,d3,d4,d5,d6,d7,d8,d9⟩:=h.d;refine⟨⟨hm.keep h.head (fun x=>x.elim d3 d4),h.ar.keep hm (fun j hj x=>h.nF j (x.elim (fun e=>.inr (.inr (.inr (.inl e)))) (fun e=>.inr (.inr (.inr (.inr e))))) hj),h.cr.keep hm (fun x=>x.elim d6 d7),h.cw.keep hm (fun x=>x.elim d8 d9),hp,h.gr,h.gw,h.k8,by rw[<-h.hl];exact hl,h.fl,h.d,h.nF⟩,
  hm.mono fun j hj=>.inl (hj.elim (fun e=>.inr (.inr (.inr (.inl e)))) (fun e=>.inr (.inr (.inr (.inr e)))))⟩
end
def popS(u p base:Nat)(s:St):St:={s with bs:=popB s.bs base u p s.hr,ts:=popT s.bs s.ts base u p s.hr,hr:=popH s.bs base u p s.hr}
def takS(s:St)(k:Int):St:={s with hs:=Sf.takeAtH s.hs k}
def outS(u p base:Nat)(s:St):St:=if popE s.bs base u p s.hr=0 then takS (popS u p base s) (popI s.bs base u p s.hr)else popS u p base s
def outI(u p base:Nat)(s:St):Int:=if popE s.bs base u p s.hr=0 then popI s.bs base u p s.hr else 0
def outE(u p base:Nat)(s:St):Int:=if popE s.bs base u p s.hr=0 then Sf.takeAtE s.hs (popI s.bs base u p s.hr)else popE s.bs base u p s.hr
def colS(s:St):St:={s with hr:=s.hw,hw:=-1}
def aloS(u p base:Nat)(s:St):St:=if 0<=s.hr then outS u p base s else if 0<=s.hw then outS u p base (colS s)else if s.f=p then s else takS {s with f:=s.f+1} (s.f:Int)
def aloI(u p base:Nat)(s:St):Int:=if 0<=s.hr then outI u p base s else if 0<=s.hw then outI u p base (colS s)else if s.f=p then 0 else(s.f:Int)
def aloE(u p base:Nat)(s:St):Int:=if 0<=s.hr then outE u p base s else if 0<=s.hw then outE u p base (colS s)else if s.f=p then 10 else Sf.takeAtE s.hs (s.f:Int)
end
section
open Go.RowKit
section
variable{w0 w w':World}{K:Nat->Prop}{pb ap base kind:Nat}{s s':St}
theorem Q27{bs:List UInt8}{base unit per:Nat}{head:Int}(g:CfgC bs.length base unit per head):(popB bs base unit per head).length=bs.length:=by
 have:=g.h1;unfold popB;split
 ·rfl
 split
 ·rfl
 ·exact Q0k (by rw[Q0x];exact(g.at (by omega)).1)
theorem Q4H{bs:List UInt8}{base unit per:Nat}{head:Int}(g:CfgC bs.length base unit per head):-1<=popH bs base unit per head /\ popH bs base unit per head<per:=by
 have:=g.h0;have:=g.h1;unfold popH;split
 ·omega
 split
 ·omega
 ·omega
theorem PGs.pop(h:PGs w0 K pb ap base kind s w)(hl:s.ts.length<549755813000) :
  ∃rc,w.cell? (((zA pb).add 0).add 0)=some ((zP rc)) /\ (∀ {R:VW},(∀w',PGs w0 K pb ap base kind (popS (unitN kind) (perN kind) base s) w'->Mod (fun j=>¬K j) w w'->R (.tuple #[.int .i64 (popI s.bs base (unitN kind) (perN kind) s.hr),.int .i64 (popE s.bs base (unitN kind) (perN kind) s.hr)]) w') →
   CS 251 #[zP rc] w R):=by
 obtain⟨rc,wc,sb,sg,FA,h,hn,hk,hE⟩:=h;refine⟨rc,dcell2 h.head rfl,fun {R} r=>?_⟩;refine .of (Qer h.ar h.cr h.gr (h.nF _ (.inr (.inl rfl))) (by omega)) ?_;rintro v w1 ⟨rfl,hp⟩;obtain⟨FA',h1,hm1,hF1⟩:=h.chR hp ((show CfgC _ base _ _ s.hr by rw[Q27 h.gr];exact h.gr).head (Q4H h.gr).1 (Q4H h.gr).2) (Q27 h.gr);obtain⟨a,b⟩:=PGs.step h hn hk hE h1 hm1 hF1;exact r w1 a b
theorem PGs.takeAt(h:PGs w0 K pb ap base kind s w)(k:Int) :
  ∃sb,w.cell? ((zA pb).add 6)=some ((zP sb)) /\ (∀ {R:VW},(∀w',PGs w0 K pb ap base kind (takS s k) w'->Mod (fun j=>¬K j) w w'->R (.int .i64 (Sf.takeAtE s.hs k)) w') →
   CS 220 #[zP sb,.int .i64 k] w R):=by
 obtain⟨rc,wc,sb,sg,FA,h,hn,hk,hE⟩:=h;refine⟨sb,dcell h.head rfl,fun {R} r=>?_⟩;refine .of (Sf.takeAt_any h.sh k) ?_;rintro v w1 ⟨rfl,hs,hm⟩;obtain⟨h1,hm1⟩:=h.shp hs hm (Sf.len_takeAtH _ _);obtain⟨a,b⟩:=PGs.step h hn hk hE h1 hm1 (fun j hj=>.inl hj);exact r w1 a b
theorem PGs.fresh(h:PGs w0 K pb ap base kind s w):w.cell? ((zA pb).add 5)=some (.int .i64 (s.f:Int)) /\ s.f<=perN kind /\ kind<8:=by
 obtain⟨rc,wc,sb,sg,FA,h,hn,hk,hE⟩:=h;exact⟨dcell h.head rfl,h.fl,h.k8⟩
theorem PGs.readyE(h:PGs w0 K pb ap base kind s w):∃rc,w.cell? (((zA pb).add 0).add 0)=some ((zP rc)) /\ ∀ {R:VW},R (.bool (decide (s.hr<0))) w->CS 250 #[zP rc] w R:=by
 obtain⟨rc,wc,sb,sg,FA,h,hn,hk,hE⟩:=h;refine⟨rc,dcell2 h.head rfl,fun {R} r=>.of (Q5i h.cr) ?_⟩;rintro v w1 ⟨rfl,rfl⟩;exact r
theorem PGs.sizeC(h:PGs w0 K pb ap base kind s w):∃sb,w.cell? ((zA pb).add 6)=some ((zP sb)) /\ ∀ {R:VW},R (.int .i64 (perN kind:Int)) w->CS 253 #[zP sb] w R:=by
 obtain⟨rc,wc,sb,sg,FA,h,hn,hk,hE⟩:=h;refine⟨sb,dcell h.head rfl,fun {R} r=>.of (Sf.size_any h.sh) ?_⟩;rintro v w1 ⟨rfl,rfl⟩;rw[h.hl];exact r
theorem PGs.freeC(h:PGs w0 K pb ap base kind s w):∃sb,w.cell? ((zA pb).add 6)=some ((zP sb)) /\ ∀ {R:VW},R (.int .i64 ((s.hs.count false:Nat):Int)) w->CS 108 #[zP sb] w R:=by
 obtain⟨rc,wc,sb,sg,FA,h,hn,hk,hE⟩:=h;refine⟨sb,dcell h.head rfl,fun {R} r=>.of (Sf.free_any h.sh) ?_⟩;rintro v w1 ⟨rfl,rfl⟩;exact r
theorem PGs.collect(h:PGs w0 K pb ap base kind s w)(hr:s.hr<0){Q:Value->World->Prop}
  (q:∀w',PGs w0 K pb ap base kind (if 0<=s.hw then colS s else s) w'->Mod (fun j=>¬K j) w w'->Q (.bool (decide (0<=s.hw))) w') :
  CS 252 #[.pointer (some ((zA pb).add 0))] w Q:=by
 have e0:(zA pb).add 0=Addr.mk pb 0 none:=by rw[Q02]
 rw[e0];obtain⟨rc,wc,sb,sg,FA,h,hn,hk,hE⟩:=h;constructor;refine vc57.ok ?_;unfold vc57;rintro w1 rfl;have hE1:=Ext.drew w;have h1:=h.keep hE1 (fun _ _ x=>x);have hk1:∀j,K j->w0.heap.size<=j /\ j<w.drew.heap.size:=fun j hj=>⟨(hk j hj).1,Nat.lt_of_lt_of_le (hk j hj).2 hE1.size⟩;simp only[someA];refine⟨_,dcell h1.head rfl,.of (Q5i h1.cw) ?_⟩;rintro v w2 ⟨rfl,rfl⟩;refine⟨_,rfl,by trivial,?_⟩;by_cases hw:0<=s.hw
 ·rw[zzdcf (by omega)];refine Q03 rfl ⟨_,dcell h1.head rfl,_,dcell h1.head rfl,.of (Q95 h1.cr h1.cw h1.d.2.2.2.2.1) ?_⟩;rintro v w3 ⟨rfl,c3,d3,hm3⟩;rw[if_neg (by omega)] at c3 d3 ⊢;rw[if_pos hw,decide_eq_true hw] at q;obtain⟨x1,x2,x3,x4,x5,x6,x7,x8,x9⟩:=h1.d;have h3:PGw w3 pb rc wc ap sb sg FA base kind (colS s):=⟨hm3.keep h1.head (fun x=>x.elim x1 x2),h1.ar.keep hm3 (fun j hj x=>h1.nF j (x.elim (fun e=>.inr (.inl e)) (fun e=>.inr (.inr (.inl e)))) hj),c3,d3,h1.sh.keep hm3 (fun j hj x=>by
   rcases hj with rfl | rfl
   ·exact x.elim (fun e=>x6 e.symm) (fun e=>x8 e.symm)
   ·exact x.elim (fun e=>x7 e.symm) (fun e=>x9 e.symm)),h1.gw,h1.gw.head (head':=-1) (by decide) (by have:=h1.gw.p1;omega),h1.k8,h1.hl,h1.fl,h1.d,h1.nF⟩
  obtain⟨a,b⟩:=PGs.step h1 hn hk1 (hE.trans hE1) h3 (hm3.mono fun j hj=>.inl (hj.elim (fun e=>.inr (.inl e)) (fun e=>.inr (.inr (.inl e))))) (fun j hj=>.inl hj);exact⟨_,rfl,by trivial,q w3 a (Mod.trans (hE1.mod (F:=fun j=>¬K j)) b (fun _ _ x=>x))⟩
 ·rw[decide_eq_true (by omega)];rw[if_neg hw,zzdcf hw] at q;exact Q00 rfl ⟨by trivial,q _ ⟨rc,wc,sb,sg,FA,h1,hn,hk1,hE.trans hE1⟩ hE1.mod⟩
theorem PGs.up(h:PGs w0 K pb ap base kind s w)(hf:s.f<perN kind){Q:World->Prop}(q:∀w',PGs w0 K pb ap base kind {s with f:=s.f+1} w'->Mod (fun j=>¬K j) w w'->Q w') :
  WrC w ((zA pb).add 5) 1 /\ ∀w',w'=wr w ((zA pb).add 5) [.int .i64 (IntKind.i64.wrap ((s.f:Int)+1))]->Q w':=by
 obtain⟨rc,wc,sb,sg,FA,h,hn,hk,hE⟩:=h;have hp:=(Q0h h.k8).2.2.2.1;rw[Q02,Q04 (n:=(s.f:Int)+1) (by omega) (by omega)];refine Q0e (b:=pb) (n:=1) h.head (by simp) fun w1 hd1 hm1 _=>?_;obtain⟨x1,x2,x3,x4,x5,x6,x7,x8,x9⟩:=h.d;have h1:PGw w1 pb rc wc ap sb sg FA base kind {s with f:=s.f+1}:=⟨hd1,h.ar.keep hm1 (fun j hj e=>h.nF j (.inl e) hj),h.cr.keep hm1 x1.symm,h.cw.keep hm1 x2.symm,h.sh.keep hm1 (fun j hj e=>by
  rcases hj with rfl | rfl
  ·exact x3 e.symm
  ·exact x4 e.symm),h.gr,h.gw,h.k8,h.hl,hf,h.d,h.nF⟩
 obtain⟨a,b⟩:=PGs.step h hn hk hE h1 (hm1.mono fun j hj=>.inl (.inl hj)) (fun j hj=>.inl hj);exact q w1 a b
end
end
section
open Go.RowKit
section
variable{w0 w w':World}{K:Nat->Prop}{pb ap base kind:Nat}{s s':St}
theorem Q7t(h:PGs w0 K pb ap base kind s w)(hl:s.ts.length<549755813000){R:VW}
  (r:∀w',PGs w0 K pb ap base kind (outS (unitN kind) (perN kind) base s) w'->Mod (fun j=>¬K j) w w'->R (.tuple #[.int .i64 (outI (unitN kind) (perN kind) base s),.int .i64 (outE (unitN kind) (perN kind) base s)]) w') :
  ∃p6:Option Addr,w.cell? (((zA pb).add 0).add 0)=some (.pointer p6) /\ CS 251 #[.pointer p6] w fun v7 w8=>∃i9 i10:Int,v7=.tuple #[.int .i64 i9,.int .i64 i10] /\
   ifB (i10 != 0) (R (.tuple #[.int .i64 0,.int .i64 i10]) w8) (∃p12:Option Addr,w8.cell? ((zA pb).add 6)=some (.pointer p12) /\ CS 220 #[.pointer p12,.int .i64 i9] w8 fun v13 w14=>∃i15:Int,v13=.int .i64 i15 /\ R (.tuple #[.int .i64 i9,.int .i64 i15]) w14):=by
 obtain⟨rc,hc,call⟩:=h.pop hl;refine⟨_,hc,call fun w1 h1 hm1=>⟨_,_,rfl,?_⟩⟩;by_cases he:popE s.bs base (unitN kind) (perN kind) s.hr=0
 ·have e1:outS (unitN kind) (perN kind) base s=takS (popS (unitN kind) (perN kind) base s) (popI s.bs base (unitN kind) (perN kind) s.hr):=if_pos he;have e2:outI (unitN kind) (perN kind) base s=popI s.bs base (unitN kind) (perN kind) s.hr:=if_pos he;have e3:outE (unitN kind) (perN kind) base s=Sf.takeAtE s.hs (popI s.bs base (unitN kind) (perN kind) s.hr):=if_pos he;rw[e1,e2,e3] at r;refine Q00 (by rw[he];rfl) ?_;obtain⟨sb,hc2,call2⟩:=h1.takeAt (popI s.bs base (unitN kind) (perN kind) s.hr);exact⟨_,hc2,call2 fun w2 h2 hm2=>⟨_,rfl,r w2 h2 (Mod.trans hm1 hm2 (fun _ _ x=>x))⟩⟩
 ·have e1:outS (unitN kind) (perN kind) base s=popS (unitN kind) (perN kind) base s:=if_neg he;have e2:outI (unitN kind) (perN kind) base s=0:=if_neg he;have e3:outE (unitN kind) (perN kind) base s=popE s.bs base (unitN kind) (perN kind) s.hr:=if_neg he;rw[e1,e2,e3] at r;exact Q03 (by simpa using he) (r w1 h1 hm1)
theorem PGs.fr(h:PGs w0 K pb ap base kind s w)(hr:s.hr<0)(hw:¬0<=s.hw){R:VW}
  (r:∀w',PGs w0 K pb ap base kind (if s.f=perN kind then s else takS {s with f:=s.f+1} (s.f:Int)) w'->Mod (fun j=>¬K j) w w'->R (.tuple #[.int .i64 (if s.f=perN kind then 0 else(s.f:Int)),.int .i64 (if s.f=perN kind then 10 else Sf.takeAtE s.hs (s.f:Int))]) w') :
  ∀w45:World,w45=w.drew->∃i47:Int,w45.cell? ((zA pb).add 5)=some (.int .i64 i47) /\ ∃p49:Option Addr,w45.cell? ((zA pb).add 6)=some (.pointer p49) /\
   CS 253 #[.pointer p49] w45 fun v50 w51=>∃i52:Int,v50=.int .i64 i52 /\ (∃i53:Int,w51.cell? ((zA pb).add 5)=some (.int .i64 i53) /\ Value.int .i64 i53=Value.int .i64 i47) /\
    ifB (i47 == i52) (R (.tuple #[.int .i64 0,.int .i64 10]) w51) (∃i55:Int,w51.cell? ((zA pb).add 5)=some (.int .i64 i55) /\ WrC w51 ((zA pb).add 5) 1 /\ ∀w57:World,w57=wr w51 ((zA pb).add 5) [.int .i64 (IntKind.i64.wrap (i55+1))] →
     ∀w58:World,w58=w57.drew->∃i60:Int,w58.cell? ((zA pb).add 5)=some (.int .i64 i60) /\ ∃p62:Option Addr,w58.cell? ((zA pb).add 6)=some (.pointer p62) /\ ∃i64:Int,w58.cell? ((zA pb).add 5)=some (.int .i64 i64) /\
      CS 220 #[.pointer p62,.int .i64 (IntKind.i64.wrap (i64-1))] w58 fun v65 w66=>∃i67:Int,v65=.int .i64 i67 /\ Value.int .i64 (IntKind.i64.wrap (i60-1))=Value.int .i64 (IntKind.i64.wrap (i60-1)) /\ (∃i68:Int,w66.cell? ((zA pb).add 5)=some (.int .i64 i68) /\ Value.int .i64 i68=Value.int .i64 i60) /\ R (.tuple #[.int .i64 (IntKind.i64.wrap (i60-1)),.int .i64 i67]) w66):=by
 rintro w1 rfl;have hE:=Ext.drew w;have h1:=h.keep hE.mod;obtain⟨hf,hfl,hk8⟩:=h1.fresh;have hp:=(Q0h hk8).2.2.2.1;obtain⟨sb,hc,size⟩:=h1.sizeC;refine⟨_,hf,_,hc,size ⟨_,rfl,⟨_,hf,rfl⟩,?_⟩⟩;by_cases e:s.f=perN kind
 ·rw[if_pos e,if_pos e,if_pos e] at r;exact Q03 (by simp[e]) (r _ h1 hE.mod)
 ·rw[if_neg e,if_neg e,if_neg e] at r;refine Q00 (by simp;omega) ⟨_,hf,?_⟩;refine h1.up (by omega) fun w2 h2 hm2=>?_;rintro w3 rfl;have hE3:=Ext.drew w2;have h3:=h2.keep hE3.mod;have hf3:=h3.fresh.1;have e1:IntKind.i64.wrap (((s.f+1:Nat):Int)-1)=(s.f:Int):=by rw[Q04 (by omega) (by omega)];omega
  obtain⟨sb3,hc3,call⟩:=h3.takeAt (s.f:Int);refine⟨_,hf3,_,hc3,_,hf3,?_⟩;rw[e1];refine call fun w4 h4 hm4=>⟨_,rfl,rfl,⟨_,h4.fresh.1,rfl⟩,?_⟩;exact r w4 h4 (Mod.trans (Mod.trans (Mod.trans (hE.mod (F:=fun j=>¬K j)) hm2 (fun _ _ x=>x)) hE3 (fun _ _ x=>x.elim)) hm4 (fun _ _ x=>x))
theorem Q9U(u p base:Nat)(s:St):(outS u p base s).ts.length<=s.ts.length+2:=by
 have h:(popT s.bs s.ts base u p s.hr).length<=s.ts.length+2:=by
  unfold popT;split
  ·omega
  split
  ·simp
  ·simp
 unfold outS;split <;> exact h
theorem QdB(u p base:Nat)(s:St):(aloS u p base s).ts.length<=s.ts.length+2:=by
 unfold aloS;split
 ·exact Q9U _ _ _ _
 split
 ·exact Q9U u p base (colS s)
 split
 ·omega
 ·show s.ts.length<=_;omega
theorem PGs.alloc(h:PGs w0 K pb ap base kind s w)(hl:s.ts.length<549755813000){R:VW}
  (r:∀w',PGs w0 K pb ap base kind (aloS (unitN kind) (perN kind) base s) w'->Mod (fun j=>¬K j) w w'->R (.tuple #[.int .i64 (aloI (unitN kind) (perN kind) base s),.int .i64 (aloE (unitN kind) (perN kind) base s)]) w') :
  CS 231 #[zP pb] w R:=by
 constructor;refine vc45.ok ?_;unfold vc45;refine Q00 rfl ?_;obtain⟨rc,hc,emp⟩:=h.readyE;refine⟨_,hc,emp ⟨_,rfl,?_⟩⟩;by_cases hr:0<=s.hr
 ·rw[zzdcf (by omega)];have e1:aloS (unitN kind) (perN kind) base s=outS (unitN kind) (perN kind) base s:=if_pos hr;have e2:aloI (unitN kind) (perN kind) base s=outI (unitN kind) (perN kind) base s:=if_pos hr;have e3:aloE (unitN kind) (perN kind) base s=outE (unitN kind) (perN kind) base s:=if_pos hr;rw[e1,e2,e3] at r;exact Q03 rfl (Q7t h hl r)
 rw[decide_eq_true (by omega)];refine Q00 rfl ?_;refine h.collect (by omega) fun w1 h1 hm1=>⟨_,rfl,?_⟩;by_cases hw:0<=s.hw
 ·rw[decide_eq_true hw];rw[if_pos hw] at h1;have e1:aloS (unitN kind) (perN kind) base s=outS (unitN kind) (perN kind) base (colS s):=by rw[aloS,if_neg hr,if_pos hw]
  have e2:aloI (unitN kind) (perN kind) base s=outI (unitN kind) (perN kind) base (colS s):=by rw[aloI,if_neg hr,if_pos hw]
  have e3:aloE (unitN kind) (perN kind) base s=outE (unitN kind) (perN kind) base (colS s):=by rw[aloE,if_neg hr,if_pos hw]
  rw[e1,e2,e3] at r;refine Q03 rfl ⟨fun m w2=>w2=w1,⟨0,rfl⟩,?_⟩;rintro m jv w2 rfl;obtain⟨rc,hc,emp⟩:=h1.readyE;refine⟨_,hc,emp ⟨_,rfl,?_⟩⟩;rw[zzdcf (show ¬(colS s).hr<0 by show ¬s.hw<0;omega)];exact Q03 rfl (Q7t h1 hl fun w' a b=>r w' a (Mod.trans hm1 b (fun _ _ x=>x)))
 ·rw[zzdcf hw];rw[if_neg hw] at h1;have e1:aloS (unitN kind) (perN kind) base s=(if s.f=perN kind then s else takS {s with f:=s.f+1} (s.f:Int)):=by rw[aloS,if_neg hr,if_neg hw]
  have e2:aloI (unitN kind) (perN kind) base s=(if s.f=perN kind then 0 else(s.f:Int)):=by rw[aloI,if_neg hr,if_neg hw]
  have e3:aloE (unitN kind) (perN kind) base s=(if s.f=perN kind then 10 else Sf.takeAtE s.hs (s.f:Int)):=by rw[aloE,if_neg hr,if_neg hw]
  rw[e1,e2,e3] at r;exact Q00 rfl (h1.fr (by omega) hw fun w' a b=>r w' a (Mod.trans hm1 b (fun _ _ x=>x)))
end
end
section
open Go.RowKit
def zerS(u base:Nat)(s:St)(k:Nat):St:={s with bs:=putAt s.bs (base+k*u) (List.replicate u 0),ts:=s.ts++[(((base+k*u:Nat):Int),(u:Int),true)]}
def givS(s:St)(k:Int):St:={s with hs:=Sf.giveH s.hs k}
def pusS(u p base:Nat)(s:St)(k:Nat):St:={s with bs:=putAt s.bs (base+k*u) (le8 (s.hw+1).toNat),ts:=s.ts++[(((base+k*u:Nat):Int),8,true)],hw:=(k:Int)}
def freS(u p base:Nat)(s:St)(k:Int):St:=if Sf.giveE s.hs k=0 then pusS u p base (zerS u base (givS s k) k.toNat) k.toNat else givS s k
section
variable{w0 w w':World}{K:Nat->Prop}{pb ap base kind:Nat}{s s':St}
theorem Q52{n base unit per k:Nat}{head:Int}(g:CfgC n base unit per head)(hk:k<per):base+k*unit+unit<=n:=by
 have h1:(k+1)*unit<=per*unit:=zzmlr _ hk;rw[Nat.add_mul,Nat.one_mul,Nat.mul_comm per] at h1;have:=g.fit;omega
theorem PGs.give(h:PGs w0 K pb ap base kind s w)(k:Int) :
  ∃sb,w.cell? ((zA pb).add 6)=some ((zP sb)) /\ (∀ {R:VW},(∀w',PGs w0 K pb ap base kind (givS s k) w'->Mod (fun j=>¬K j) w w'->R (.int .i64 (Sf.giveE s.hs k)) w') →
   CS 122 #[zP sb,.int .i64 k] w R):=by
 obtain⟨rc,wc,sb,sg,FA,h,hn,hk,hE⟩:=h;refine⟨sb,dcell h.head rfl,fun {R} r=>?_⟩;refine .of (Sf.give_any h.sh k) ?_;rintro v w1 ⟨rfl,hs,hm⟩;obtain⟨h1,hm1⟩:=h.shp hs hm (Sf.len_giveH _ _);obtain⟨a,b⟩:=PGs.step h hn hk hE h1 hm1 (fun j hj=>.inl hj);exact r w1 a b
theorem PGs.kindC(h:PGs w0 K pb ap base kind s w):w.cell? ((zA pb).add 4)=some (.int .i64 (kind:Int)):=by
 obtain⟨rc,wc,sb,sg,FA,h,hn,hk,hE⟩:=h;exact dcell h.head rfl
theorem PGs.baseC(h:PGs w0 K pb ap base kind s w):w.cell? ((zA pb).add 3)=some (.int .i64 (base:Int)):=by
 obtain⟨rc,wc,sb,sg,FA,h,hn,hk,hE⟩:=h;exact dcell h.head rfl
theorem PGs.hsl(h:PGs w0 K pb ap base kind s w):s.hs.length=perN kind:=by
 obtain⟨rc,wc,sb,sg,FA,h,hn,hk,hE⟩:=h;exact h.hl
theorem PGs.cfg(h:PGs w0 K pb ap base kind s w):CfgC s.bs.length base (unitN kind) (perN kind) s.hw:=by
 obtain⟨rc,wc,sb,sg,FA,h,hn,hk,hE⟩:=h;exact h.gw
theorem PGs.cfr(h:PGs w0 K pb ap base kind s w):CfgC s.bs.length base (unitN kind) (perN kind) s.hr:=by
 obtain⟨rc,wc,sb,sg,FA,h,hn,hk,hE⟩:=h;exact h.gr
theorem PGs.zero(h:PGs w0 K pb ap base kind s w){k:Nat}(hkp:k<perN kind)(hl:s.ts.length<549755813000) :
  w.cell? ((zA pb).add 2)=some ((zP ap)) /\ (∀ {R:VW},(∀w',PGs w0 K pb ap base kind (zerS (unitN kind) base s k) w'->Mod (fun j=>¬K j) w w'->R (.int .i64 0) w') →
   CS 171 #[zP ap,.int .i64 ((base+k*unitN kind:Nat):Int),.int .i64 (unitN kind:Int)] w R):=by
 obtain⟨rc,wc,sb,sg,FA,h,hn,hk,hE⟩:=h;refine⟨dcell h.head rfl,fun {R} r=>?_⟩;have hfit:=Q52 h.gw hkp;have hu:=h.gw.u8;refine .of (Q5a h.ar _ _ (by omega)) ?_;rintro v w1 ⟨rfl,hp⟩;have hok:OkA s.bs.length ((base+k*unitN kind:Nat):Int) (unitN kind:Int):=⟨by omega,by omega,by omega⟩;rw[if_pos hok,if_pos hok,noteA,if_pos (by omega),zztnc,zztnc] at hp;rw[if_pos hok];obtain⟨FA',h1,hm1,hF1⟩:=h.arp hp (Q0k (by simp;omega));obtain⟨a,b⟩:=PGs.step h hn hk hE h1 hm1 hF1;exact r w1 a b
theorem PGs.push(h:PGs w0 K pb ap base kind s w){k:Nat}(hkp:k<perN kind)(hl:s.ts.length<549755813000) :
  ∃wc,w.cell? (((zA pb).add 0).add 1)=some ((zP wc)) /\ (∀ {R:VW},(∀w',PGs w0 K pb ap base kind (pusS (unitN kind) (perN kind) base s k) w'->Mod (fun j=>¬K j) w w'->R (.int .i64 0) w') →
   CS 257 #[zP wc,.int .i64 (k:Int)] w R):=by
 obtain⟨rc,wc,sb,sg,FA,h,hn,hk,hE⟩:=h;refine⟨wc,dcell2 h.head rfl,fun {R} r=>?_⟩;have hat:=h.gw.at hkp;have hin:InC (perN kind) (k:Int):=⟨by omega,by omega⟩;refine .of (Qc8 h.ar h.cw h.gw (h.nF _ (.inr (.inr (.inl rfl)))) (by omega) (k:Int)) ?_;rintro v w1 ⟨rfl,hp⟩;rw[pushB,if_pos hin,pushT,if_pos hin,pushH,if_pos hin,zztnc] at hp;rw[pushE,if_pos hin];have hlen:(putAt s.bs (base+k*unitN kind) (le8 (s.hw+1).toNat)).length=s.bs.length:=Q0k (by rw[Q0x];omega);obtain⟨FA',h1,hm1,hF1⟩:=h.chW hp (by rw[hlen];exact h.gw.head (by omega) (by omega)) hlen;obtain⟨a,b⟩:=PGs.step h hn hk hE h1 hm1 hF1;exact r w1 a b
theorem PGs.free(h:PGs w0 K pb ap base kind s w)(hl:s.ts.length<549755812000)(k:Int){R:VW}
  (r:∀w',PGs w0 K pb ap base kind (freS (unitN kind) (perN kind) base s k) w'->Mod (fun j=>¬K j) w w'->R (.int .i64 (Sf.giveE s.hs k)) w') :
  CS 237 #[zP pb,.int .i64 k] w R:=by
 constructor;refine vc48.ok ?_;unfold vc48;refine Q00 rfl ?_;obtain⟨sb,hc,call⟩:=h.give k;refine⟨_,hc,call fun w1 h1 hm1=>⟨_,rfl,?_⟩⟩;by_cases he:Sf.giveE s.hs k=0
 ·have e1:freS (unitN kind) (perN kind) base s k=pusS (unitN kind) (perN kind) base (zerS (unitN kind) base (givS s k) k.toNat) k.toNat:=if_pos he;rw[e1] at r;have hin:Sf.InS s.hs k:=by
   by_cases q:Sf.InS s.hs k
   ·exact q
   ·rw[Sf.giveE,if_neg q] at he;omega
  obtain⟨n,rfl⟩:=zzeoz hin.1;have hn:n<perN kind:=by have:=hin.2;rw[h.hsl] at this;omega
  rw[zztnc] at r;refine Q00 (by rw[he];rfl) ⟨_,h1.kindC,.of (Q51 h1.fresh.2.2 w1) ?_⟩;rintro v w2 ⟨rfl,rfl⟩;refine⟨_,rfl,?_⟩;rintro w3 rfl;have hE3:=Ext.drew w2;have h3:=h1.keep hE3.mod;have hfit:=Q52 h3.cfg hn;have hn21:=h3.cfg.n21;have e2:IntKind.i64.wrap ((base:Int)+IntKind.i64.wrap ((n:Int)*(unitN kind:Int)))=((base+n*unitN kind:Nat):Int):=by
   rw[<-Int.natCast_mul,Q04 (n:=((n*unitN kind:Nat):Int)) (by omega) (by omega),Q04 (by omega) (by omega)];omega
  obtain⟨hca,callz⟩:=h3.zero hn (show s.ts.length<_ by omega);refine⟨_,hca,_,h3.baseC,?_⟩;rw[e2];refine callz fun w4 h4 hm4=>⟨_,rfl,Q00 rfl ?_⟩;obtain⟨wc,hcw,callp⟩:=h4.push hn (by show(s.ts++[_]).length<_;simp;omega);refine⟨_,hcw,callp fun w5 h5 hm5=>⟨_,rfl,?_⟩⟩;rw[he] at r;exact r w5 h5 (Mod.trans (Mod.trans (Mod.trans hm1 hE3 (fun _ _ x=>x.elim)) hm4 (fun _ _ x=>x)) hm5 (fun _ _ x=>x))
 ·have e1:freS (unitN kind) (perN kind) base s k=givS s k:=if_neg he;rw[e1] at r;exact Q03 (by simpa using he) (r w1 h1 hm1)
theorem PGs.used(h:PGs w0 K pb ap base kind s w){R:VW}
  (r:∀w',PGs w0 K pb ap base kind s w'->Mod (fun j=>¬K j) w w'->R (.int .i64 ((s.hs.count true:Nat):Int)) w') :
  CS 238 #[zP pb] w R:=by
 constructor;refine vc49.ok ?_;unfold vc49;refine Q00 rfl ?_;rintro w1 rfl;have hE1:=Ext.drew w;have h1:=h.keep hE1.mod;have hp:=(Q0h h1.fresh.2.2).2.2.2.1;have hsl:=h1.hsl;obtain⟨sb,hc,size⟩:=h1.sizeC;obtain⟨sb2,hc2,free⟩:=h1.freeC;have e:(s.hs.count true)+(s.hs.count false)=s.hs.length:=by
  have:=List.length_eq_countP_add_countP (p:=fun b=>b == true) (l:=s.hs);have e2:s.hs.countP (fun b=>decide ¬(b == true)=true)=s.hs.count false:=by
   rw[List.count];congr 1;funext b;cases b <;> rfl
  rw[e2] at this;rw[this];rfl
 refine⟨_,hc,_,hc2,size ⟨_,rfl,⟨_,hc2,rfl⟩,free ⟨_,rfl,?_⟩⟩⟩;have e3:IntKind.i64.wrap ((perN kind:Int)-((s.hs.count false:Nat):Int))=((s.hs.count true:Nat):Int):=by
  rw[Q04 (by omega) (by omega)];omega
 rw[e3];exact r _ h1 hE1.mod
theorem PGs.full(h:PGs w0 K pb ap base kind s w){R:VW}(r:R (.bool (((s.hs.count false:Nat):Int) == 0)) w) :
  CS 232 #[zP pb] w R:=by
 constructor;refine vc46.ok ?_;unfold vc46;obtain⟨sb2,hc2,free⟩:=h.freeC;exact Q03 rfl ⟨_,hc2,free ⟨_,rfl,r⟩⟩
theorem PGs.has(h:PGs w0 K pb ap base kind s w)(k:Int){R:VW}(r:R (.bool (Sf.isTaken s.hs k)) w) :
  CS 209 #[zP pb,.int .i64 k] w R:=by
 constructor;refine vc36.ok ?_;unfold vc36;obtain⟨rc,wc,sb,sg,FA,h,hn,hk,hE⟩:=h;refine Q03 rfl ⟨_,dcell h.head rfl,.of (Sf.taken_any h.sh k) ?_⟩;rintro v w1 ⟨rfl,rfl⟩;exact⟨_,rfl,r⟩
end
end
section
open Go.RowKit
section
variable{w0 w w':World}{K F:Nat->Prop}{p:Nat}{bs:List UInt8}{ts:List Tch}
theorem Q5z(h:Ar w 125 p F bs ts)(b:Int):Calls prog 223 #[zP p,.int .i64 b] w
  (Ret fun r w'=>r=.bool (decide (0<=b /\ b.tmod 512=0 /\ b<=(bs.length:Int)-512)) /\ w'=w):=by
 have hsm:=h.small;refine vc43.ok ?_;unfold vc43;refine ifD (fun h0=>⟨by decide,Q05 (fun h1=>?_) (fun h1=>?_)⟩) (fun h0=>⟨by rw[zzdcf (fun x=>h0 x.1)],rfl⟩)
 ·refine .of (size_any h) ?_;rintro v w1 ⟨rfl,rfl⟩;have h1':b.tmod 512=0:=by simpa using h1
  refine⟨_,rfl,congrArg Value.bool (decide_eq_decide.2 ?_),rfl⟩;rw[Q04 (by omega) (by omega)];exact⟨fun x=>⟨h0,h1',x⟩,fun x=>x.2.2⟩
 ·have h1':¬b.tmod 512=0:=by simpa using h1
  exact⟨by rw[zzdcf (fun x=>h1' x.2.1)],rfl⟩
theorem Q90(h:Ar w 125 p F bs ts){kind base:Nat}(hk:kind<8)(hb:base+512<=bs.length){R:VW}
  (r:∀cb w',CH w' 309 cb p base (unitN kind) (perN kind) (-1)->CfgC bs.length base (unitN kind) (perN kind) (-1)->Ext w w'->w.heap.size<=cb->cb<w'.heap.size->R (.tuple #[zP cb,.int .i64 0]) w') :
  CS 256 #[zP p,.int .i64 (base:Int),.int .i64 (unitN kind:Int),.int .i64 (perN kind:Int)] w R:=by
 obtain⟨c1,c2,c3,c4,c5⟩:=Q0h hk;refine .of (Qbp h _ _ _) ?_;rintro v w1 (⟨q,_,_⟩ | ⟨cb,base',unit,per,e1,e2,e3,rfl,c,g,hE,hs⟩)
 ·rw[<-Int.natCast_mul] at q;exact absurd ⟨by omega,by omega,by omega,by omega,by omega,by omega⟩ q
 ·have e1:base'=base:=by omega
  have e2:unit=unitN kind:=by omega
  have e3:per=perN kind:=by omega
  subst e1 e2 e3;exact r cb w1 c g hE hs (Q0i c)
def newSt(kind:Nat)(bs:List UInt8)(ts:List Tch):St:=⟨bs,ts,0,-1,-1,List.replicate (perN kind) false⟩
theorem Qc7(h:Ar w 125 p F bs ts)(hn:∀j,F j->w0.heap.size<=j /\ ¬K j)(hK:∀j,K j->w0.heap.size<=j /\ j<w.heap.size)(hE:Ext w0 w)(b kd:Int){R:VW}
  (r0:¬((0<=kd /\ kd<8) /\ 0<=b /\ b.tmod 512=0 /\ b<=(bs.length:Int)-512)->R (.tuple #[.pointer none,.int .i64 12]) w)
  (r1:∀(base kind pb:Nat) w',kd=kind->kind<8->b=base->base+512<=bs.length->b.tmod 512=0->PGs w0 K pb p base kind (newSt kind bs ts) w'->Ext w w'->R (.tuple #[zP pb,.int .i64 0]) w') :
  CS 234 #[zP p,.int .i64 b,.int .i64 kd] w R:=by
 constructor;refine vc47.ok ?_;unfold vc47;refine .of (Qa1 kd w) ?_;rintro v w1 ⟨rfl,rfl⟩;by_cases hkd:0<=kd /\ kd<8
 case neg=>
  rw[if_neg hkd];exact⟨_,rfl,Q00 rfl (Q03 rfl (r0 fun x=>hkd x.1))⟩
 rw[if_pos hkd];obtain⟨kind,rfl⟩:=zzeoz hkd.1;have hk8:kind<8:=by omega
 obtain⟨c1,c2,c3,c4,c5⟩:=Q0h hk8;rw[zztnc];refine⟨_,rfl,Q00 rfl (Q00 (by simp;omega) (.of (Q5z h b) ?_))⟩;rintro v w2 ⟨rfl,rfl⟩;by_cases hl:0<=b /\ b.tmod 512=0 /\ b<=(bs.length:Int)-512
 case neg=>
  rw[zzdcf hl];exact⟨_,rfl,Q03 rfl (r0 fun x=>hl x.2)⟩
 rw[decide_eq_true hl];refine⟨_,rfl,Q00 rfl (.of (Q51 hk8 w2) ?_)⟩;rintro v w3 ⟨rfl,rfl⟩;obtain⟨base,rfl⟩:=zzeoz hl.1;refine⟨_,rfl,Q90 h hk8 (by omega) fun rc w4 cr gr hE4 hs4 hs4'=>⟨_,_,rfl,.of (Q51 hk8 w4) ?_⟩⟩;rintro v w5 ⟨rfl,rfl⟩;refine⟨_,rfl,Q90 (h.ext hE4) hk8 (by omega) fun wc w6 cw gw hE6 hs6 hs6'=>⟨_,_,rfl,.of (Sf.new_any w6 _) ?_⟩⟩;rintro v w7 (⟨q,_,_⟩ | ⟨_,_,sb,sg,rfl,sh,hE7,hs7⟩)
 ·exact absurd ⟨by omega,by omega⟩ q
 rw[zztnc] at sh;refine⟨_,_,rfl,Q09 fun pb w8 hd hE8 hs8 _=>?_⟩;have cr8:CH w8 309 rc p base (unitN kind) (perN kind) (-1):=hE8.keep (hE7.keep (hE6.keep cr));have cw8:CH w8 309 wc p base (unitN kind) (perN kind) (-1):=hE8.keep (hE7.keep cw);have hb:=hs7 sb (.inl rfl);have hg:=hs7 sg (.inr rfl);have hb':=sh.lt sb (.inl rfl);have hg':=sh.lt sg (.inr rfl);have z4:=hE4.size;have z6:=hE6.size;have z0:=hE.size;have hA:=((hE4.trans hE6).trans hE7).trans hE8;have hown:∀j,ownP pb rc wc sb sg j->w3.heap.size<=j:=by
  rintro j (rfl | rfl | rfl | rfl | rfl)
  ·have:=hE7.size;omega
  all_goals omega
 refine r1 base kind pb w8 rfl hk8 rfl (by omega) hl.2.1 ⟨rc,wc,sb,sg,F,⟨hd,h.ext hA,cr8,cw8,sh.ext hE8,gr,gw,hk8,zzlrp,Nat.zero_le _,⟨?_,?_,?_,?_,?_,?_,?_,?_,?_⟩,fun j hj x=>?_⟩,fun j hj=>?_,fun j hj=>⟨(hK j hj).1,Nat.lt_of_lt_of_le (hK j hj).2 hA.size⟩,hE.trans hA⟩ hA
 all_goals try (have:=hE7.size;omega)
 ·have:=hown j hj;have:=h.lt j x;omega
 ·rcases hj with hj | hj
  ·have:=hown j hj;exact⟨by omega,fun q=>by have:=(hK j q).2;omega⟩
  ·exact hn j hj
end
end
section
open Ieee
def flt(n:Nat):Nat:=FloatKind.f64.nearest (n:Int)
theorem Q5k(n:Nat):flt n=double.nearest false n 0:=by
 show double.nearest (decide ((n:Int)<0)) (n:Int).natAbs 0=_;rw[zzdcf (by omega)];rfl
theorem Q7O(a b:Nat):a <<< b=a*2 ^ b:=Nat.shiftLeft_eq a b
theorem Qbu(way:Toward)(neg:Bool)(n:Nat):way.cut neg n 0=n:=by
 unfold Toward.cut;rw[show min 0 (n.log2+2)=0 from Nat.zero_min _];simp only[Nat.shiftLeft_zero,Nat.div_one,Nat.mod_one];cases way <;> simp
theorem Q96(way:Toward)(n d:Nat)(hd:d<=(n*2 ^ d).log2+2):way.cut false (n*2 ^ d) d=n:=by
 unfold Toward.cut;rw[Nat.min_eq_left hd,Q7O,Nat.one_mul];have hp:0<2 ^ d:=Nat.two_pow_pos d;simp only[Nat.mul_div_cancel _ hp,Nat.mul_mod_left];cases way <;> simp <;> omega
theorem Q4z(n k:Nat)(hn:n ≠ 0):(n*2 ^ k).log2=n.log2+k:=by
 induction k with
 | zero=>simp
 | succ k ih=>
  have h0:n*2 ^ k ≠ 0:=Nat.mul_ne_zero hn (Nat.ne_of_gt (Nat.two_pow_pos k));rw[Nat.pow_succ,<-Nat.mul_assoc,Nat.mul_comm (n*2 ^ k) 2,Nat.log2_two_mul h0,ih];omega
theorem Q5r{n:Nat}(h0:n ≠ 0)(h:n<9007199254740992):n.log2<=52:=by
 have:=(Nat.log2_lt h0 (k:=53)).2 (by omega);omega
theorem Q1U{n:Nat}(h0:n ≠ 0)(h:n<9007199254740992)(k:Nat)(hk:k<=1074):double.nearest false (n*2 ^ k) (-(k:Int))=(n.log2+1022)*4503599627370496+n*2 ^ (52-n.log2):=by
 have hL:=Q5r h0 h;have hm0:n*2 ^ k ≠ 0:=Nat.mul_ne_zero h0 (Nat.ne_of_gt (Nat.two_pow_pos k));have hlp:double.leastPlace = -1074:=by decide
 have hbin:double.binade=4503599627370496:=by decide
 have hinf:double.infRung=2047*4503599627370496:=by decide
 unfold Format.nearest;rw[if_neg hm0,Q4z n k h0];simp only[show double.fractionBits=52 from rfl,hlp,hbin,hinf];have elast:max (-(k:Int)+((n.log2+k:Nat):Int)-((52:Nat):Int)) (-1074:Int)=(n.log2:Int)-52:=by omega
 rw[elast];have hkept:Toward.even.cut false ((n*2 ^ k) <<< (-(k:Int)-((n.log2:Int)-52)).toNat) ((n.log2:Int)-52 - -(k:Int)).toNat=n*2 ^ (52-n.log2):=by
  by_cases hc:k<=52-n.log2
  ·rw[show((n.log2:Int)-52 - -(k:Int)).toNat=0 by omega,Qbu,Q7O,Nat.mul_assoc,<-Nat.pow_add];congr 2;omega
  ·rw[show(-(k:Int)-((n.log2:Int)-52)).toNat=0 by omega,Nat.shiftLeft_zero];have e:n*2 ^ k=n*2 ^ (52-n.log2)*2 ^ ((n.log2:Int)-52 - -(k:Int)).toNat:=by
    rw[Nat.mul_assoc,<-Nat.pow_add];congr 2;omega
   rw[e];refine Q96 _ _ _ ?_;rw[<-e,Q4z n k h0];omega
 rw[hkept];have hlt:n*2 ^ (52-n.log2)<2*4503599627370496:=by
  have h1:n<2 ^ (n.log2+1):=Nat.lt_log2_self;have h2:n*2 ^ (52-n.log2)<2 ^ (n.log2+1)*2 ^ (52-n.log2):=Nat.mul_lt_mul_of_pos_right h1 (Nat.two_pow_pos _);rw[<-Nat.pow_add,show n.log2+1+(52-n.log2)=53 by omega] at h2;omega
 unfold Format.word;rw[if_neg (by decide),show((n.log2:Int)-52 - -1074).toNat=n.log2+1022 by omega];exact Nat.min_eq_left (by omega)
theorem Q3r(s:Int):double.nearest false 0 s=0:=rfl
theorem Q3R{n:Nat}(h:n<9007199254740992)(k:Nat)(hk:k<=1074):double.nearest false (n*2 ^ k) (-(k:Int))=flt n:=by
 rw[Q5k];by_cases h0:n=0
 ·subst h0;rw[Nat.zero_mul,Q3r,Q3r]
 ·have:=Q1U h0 h 0 (by omega);rw[Nat.pow_zero,Nat.mul_one] at this;rw[Q1U h0 h k hk];exact this.symm
theorem Q1l{n:Nat}(h:n<9007199254740992):∃k:Nat,k<=1074 /\ (n ≠ 0->k<=52) /\ double.read (flt n)=.number false (n*2 ^ k) (-(k:Int)):=by
 by_cases h0:n=0
 ·subst h0;obtain⟨K,hK⟩:∃K:Nat,K=1074:=⟨_,rfl⟩;refine⟨K,by omega,fun x=>absurd rfl x,?_⟩;rw[Nat.zero_mul,Q5k,Q3r,hK];decide
 have hL:=Q5r h0 h;refine⟨52-n.log2,by omega,fun _=>by omega,?_⟩;have e:=Q1U h0 h 0 (by omega);rw[Nat.pow_zero,Nat.mul_one] at e;have e:flt n=(n.log2+1022)*4503599627370496+n*2 ^ (52-n.log2):=by rw[Q5k];exact e
 have hsw:double.signWeight=9223372036854775808:=by decide
 have hlp:double.leastPlace = -1074:=by decide
 have hbin:double.binade=4503599627370496:=by decide
 have hinf:double.infRung=2047*4503599627370496:=by decide
 have hlt:n*2 ^ (52-n.log2)<2*4503599627370496:=by
  have h1:n<2 ^ (n.log2+1):=Nat.lt_log2_self;have h2:n*2 ^ (52-n.log2)<2 ^ (n.log2+1)*2 ^ (52-n.log2):=Nat.mul_lt_mul_of_pos_right h1 (Nat.two_pow_pos _);rw[<-Nat.pow_add,show n.log2+1+(52-n.log2)=53 by omega] at h2;omega
 have hge:4503599627370496<=n*2 ^ (52-n.log2):=by
  have h1:2 ^ n.log2<=n:=Nat.log2_self_le h0;have h2:2 ^ n.log2*2 ^ (52-n.log2)<=n*2 ^ (52-n.log2):=zzmlr _ h1;rw[<-Nat.pow_add,show n.log2+(52-n.log2)=52 by omega] at h2;omega
 generalize n*2 ^ (52-n.log2)=m at *
 unfold Format.read;rw[e,hsw,hlp,hbin,hinf];have hr:(n.log2+1022)*4503599627370496+m<9223372036854775808:=by omega
 rw[Nat.mod_eq_of_lt hr,Nat.div_eq_of_lt hr];simp only[Nat.zero_mod];rw[if_neg (by omega),if_pos (by omega)];have e1:((n.log2+1022)*4503599627370496+m) % 4503599627370496=m-4503599627370496:=by omega
 have e2:((n.log2+1022)*4503599627370496+m) / 4503599627370496=n.log2+1023:=by omega
 rw[e1,e2];have e3:4503599627370496+(m-4503599627370496)=m:=by omega
 have e4:(-1074:Int)+((n.log2+1023-1:Nat):Int) = -((52-n.log2:Nat):Int):=by omega
 rw[e3,e4];rfl
theorem Q5l{n:Nat}(h:n<9007199254740992):(FloatKind.f64.decode (flt n)).toInt .zero=some (n:Int):=by
 obtain⟨k,hk,h52,e⟩:=Q1l h;show(double.read (flt n)).toInt .zero=_;rw[e];show some (signed false (Toward.zero.cut false ((n*2 ^ k) <<< (-(k:Int)).toNat) (- -(k:Int)).toNat) 0)=_;rw[show(-(k:Int)).toNat=0 by omega,show(- -(k:Int)).toNat=k by omega,Nat.shiftLeft_zero];have hc:Toward.zero.cut false (n*2 ^ k) k=n:=by
  by_cases h0:n=0
  ·subst h0;rw[Nat.zero_mul];unfold Toward.cut;simp
  ·refine Q96 _ _ _ ?_;rw[Q4z n k h0];omega
 rw[hc];simp[signed]
theorem Q2F(m up:Nat):signed false m up=((m*2 ^ up:Nat):Int):=by
 unfold signed;rw[if_neg (by decide),Q7O]
theorem Q8u(m up:Nat):signed true m up = -((m*2 ^ up:Nat):Int):=by
 unfold signed;rw[if_pos rfl,Q7O]
theorem Q3y(n k l:Nat):n*2 ^ k*2 ^ (-(k:Int)-min (-(k:Int)) (-(l:Int))).toNat=n*2 ^ max k l:=by
 rw[Nat.mul_assoc,<-Nat.pow_add];congr 2;omega
theorem Q2E(n k l:Nat):n*2 ^ l*2 ^ (-(l:Int)-min (-(k:Int)) (-(l:Int))).toNat=n*2 ^ max k l:=by
 rw[Nat.mul_assoc,<-Nat.pow_add];congr 2;omega
theorem Q9f{n m:Nat}(h:n+m<9007199254740992):double.add (flt n) (flt m)=some (flt (n+m)):=by
 obtain⟨k,hk,_,e⟩:=Q1l (n:=n) (by omega);obtain⟨l,hl,_,e'⟩:=Q1l (n:=m) (by omega);unfold Format.add;rw[e,e'];simp only[Datum.sum,Q2F,Q3y,Q2E];have e1:((n*2 ^ max k l:Nat):Int)+((m*2 ^ max k l:Nat):Int)=(((n+m)*2 ^ max k l:Nat):Int):=by rw[Nat.add_mul];omega
 rw[e1,Int.natAbs_natCast];have e2:(if (((n+m)*2 ^ max k l:Nat):Int)=0 then false && false else decide ((((n+m)*2 ^ max k l:Nat):Int)<0))=false:=by
  split
  ·rfl
  ·exact zzdcf (by omega)
 rw[e2,show min (-(k:Int)) (-(l:Int)) = -((max k l:Nat):Int) by omega];simp only[Option.map_some,Format.write];rw[Q3R h _ (by omega)]
theorem Q9g{n m:Nat}(h:n<9007199254740992)(hm:m<=n):double.sub (flt n) (flt m)=some (flt (n-m)):=by
 obtain⟨k,hk,_,e⟩:=Q1l h;obtain⟨l,hl,_,e'⟩:=Q1l (n:=m) (by omega);unfold Format.sub;rw[e,e'];simp only[Datum.opposite,Datum.sum,Bool.not_false,Q2F,Q8u,Q3y,Q2E];have hle:m*2 ^ max k l<=n*2 ^ max k l:=zzmlr _ hm;have e1:((n*2 ^ max k l:Nat):Int) + -((m*2 ^ max k l:Nat):Int)=(((n-m)*2 ^ max k l:Nat):Int):=by rw[Nat.sub_mul];omega
 rw[e1,Int.natAbs_natCast];have e2:(if (((n-m)*2 ^ max k l:Nat):Int)=0 then false && true else decide ((((n-m)*2 ^ max k l:Nat):Int)<0))=false:=by
  split
  ·rfl
  ·exact zzdcf (by omega)
 rw[e2,show min (-(k:Int)) (-(l:Int)) = -((max k l:Nat):Int) by omega];simp only[Option.map_some,Format.write];rw[Q3R (by omega) _ (by omega)]
theorem Q3k{n m:Nat}(h:n<9007199254740992)(h':m<9007199254740992):double.order (flt n) (flt m)=some (compare n m):=by
 obtain⟨k,hk,_,e⟩:=Q1l h;obtain⟨l,hl,_,e'⟩:=Q1l h';unfold Format.order;rw[e,e'];simp only[Datum.order,Q2F,Q3y,Q2E];have hp:0<2 ^ max k l:=Nat.two_pow_pos _;have:compare (((n*2 ^ max k l:Nat):Int)) (((m*2 ^ max k l:Nat):Int))=compare n m:=by
  rcases Nat.lt_trichotomy n m with q | q | q
  ·have:=Nat.mul_lt_mul_of_pos_right q hp;rw[Nat.compare_eq_lt.2 q,Int.compare_eq_lt.2 (by omega)]
  ·subst q;rw[Nat.compare_eq_eq.2 rfl,Int.compare_eq_eq.2 rfl]
  ·have:=Nat.mul_lt_mul_of_pos_right q hp;rw[Nat.compare_eq_gt.2 q,Int.compare_eq_gt.2 (by omega)]
 rw[this]
end
section
open Go.RowKit Go.Maps
def rdV(v:Value):Option (DataW Value × List MemPlace):=some (.held v,[])
structure IMap (w:World) (P:Program) (K:TypeId) (q:IntKind) (b:Nat) (m:Int->Option Value) (sz:Nat):Prop where
 own:∃D:DataW Value,w.ownsMap P K rdV b sz D /\ (∀k z,D.atKey (.int q k) z=match m k with | some v=>.held v | none=>z) /\ Maps.size D=sz
def upd(m:Int->Option Value)(k:Int)(v:Option Value):Int->Option Value:=fun x=>if x=k then v else m x
theorem Mod.of_grown{w w':World}{row:Option Nat}(h:w.grownBy w' row):Mod (fun k=>row=some k) w w':=
 ⟨h.os,h.tape,h.output,h.size,fun k hk hF=>h.block k hk (fun e=>hF e.symm)⟩
theorem Q3Y{P:Program}{K:TypeId}{w:World}{b n:Nat}{D:DataW Value}(h:w.ownsMap P K rdV b n D):w.ownsMap P K rdV b (Maps.size D) D:=by
 obtain⟨es,clock,hb,F,hs,rfl⟩:=h;exact⟨es,clock,hb,F,by simp[Maps.size,length_sorted],rfl⟩
section
variable{P:Program}{K t e:TypeId}{q:IntKind}{w:World}{b sz:Nat}{m:Int->Option Value}
theorem IMap.keep{F:Nat->Prop}{w':World}(h:IMap w P K q b m sz)(hm:Mod F w w')(hF:¬F b):IMap w' P K q b m sz:=by
 obtain⟨D,⟨es,clock,hb,rest⟩,h2,h3⟩:=h.own;exact⟨D,⟨es,clock,hm.keep hb hF,rest⟩,h2,h3⟩
theorem IMap.ext{w':World}(h:IMap w P K q b m sz)(hm:Ext w w'):IMap w' P K q b m sz:=h.keep hm (fun x=>x)
theorem IMap.lt(h:IMap w P K q b m sz):b<w.heap.size:=by
 obtain⟨D,h1,_⟩:=h.own;exact h1.lt
theorem IMap.made(w:World)(P:Program)(K:TypeId)(q:IntKind):IMap (w.alloc (.map #[] 0)) P K q w.heap.size (fun _=>none) 0:=
 ⟨.map [],World.ownsMap_made w P K rdV,fun k z=>rfl,rfl⟩
theorem IMap.has(h:IMap w P K q b m sz):∃D:DataW Value,w.ownsMap P K rdV b sz D /\ (∀k z,D.atKey (.int q k) z=match m k with | some v=>.held v | none=>z) /\ Maps.size D=sz /\ ∀k,Maps.has D (.int q k)=(m k).isSome:=by
 obtain⟨D,h1,h2,h3⟩:=h.own;refine⟨D,h1,h2,h3,fun k=>?_⟩;cases hk:m k with
 | none=>exact Maps.has_false_of_atKey fun z=>by rw[h2,hk]
 | some v=>exact Maps.has_true_of_atKey (y:=.held v) fun z=>by rw[h2,hk]
theorem isKey(q:IntKind)(k:Int):WideAt.IsKeyLit (.int q k):=by trivial
theorem QcW{k k':Int}(h:k' ≠ k):(Lit.int q k') ≠ (Lit.int q k):=fun e=>h (by injection e)
theorem IMap.store(h:IMap w P K q b m sz)(hK:P.underlying K=some (.int q))(ht:P.underlying t=some (.map K e))(hn:sz<maxLen){k:Int}(hk:(Lit.int q k).wf=true)(v:Value) :
  ∃w',(Instr.mapUpdate t (.map (some b)) (.int q k) v).run P w=.ok () w' /\ IMap w' P K q b (upd m k (some v)) (if (m k).isSome then sz else sz+1) /\ Mod (· = b) w w' /\ w'.heap.size=w.heap.size:=by
 obtain⟨D,h1,h2,h3,hh⟩:=h.has;obtain⟨w',hr,ho,ht'⟩:=h1.store (int_keyed hK) ht hn (keyOf_int_mk hK hk) (val:=v) (d:=.held v) (ps:=[]) rfl;have htidy:=h1.tidy (int_keyed hK);have hsz:Maps.size (D.put (.int q k) (.held v))=if (m k).isSome then sz else sz+1:=by rw[Maps.size_put htidy,hh,h3]
 refine⟨w',hr,⟨D.put (.int q k) (.held v),by rw[<-hsz];exact Q3Y ho,fun k' z=>?_,hsz⟩,?_,?_⟩
 ·unfold upd;by_cases e:k'=k
  ·subst e;rw[if_pos rfl];exact Maps.atKey_put_same h1.isMap (isKey q k') _ _
  ·rw[if_neg e,Maps.atKey_put_other (QcW e),h2]
 ·exact(Mod.of_grown ht'.grown).mono fun x hx=>(Option.some.inj hx).symm
 ·obtain⟨es,clock,es',clock',_,rfl⟩:=ht';simp[ChangeMaps.setBlock]
theorem IMap.look(h:IMap w P K q b m sz)(hK:P.underlying K=some (.int q))(ht:P.underlying t=some (.map K e)){z:Value}(hz:(zeroValue e).run P w=.ok z w){k:Int}(hk:(Lit.int q k).wf=true) :
  (Instr.lookup t (.map (some b)) (.int q k) false).run P w=.ok ((m k).getD z) w:=by
 obtain⟨D,h1,h2,h3⟩:=h.own;obtain⟨v,ps,hr,hv⟩:=h1.lookup (int_keyed hK) ht hz (zd:=.held z) (zp:=[]) rfl (keyOf_int_mk hK hk);rw[hr];rw[h2] at hv;unfold rdV at hv;cases hm:m k with
 | none=>rw[hm] at hv;cases hv;rfl
 | some u=>rw[hm] at hv;cases hv;rfl
theorem IMap.look_ok(h:IMap w P K q b m sz)(hK:P.underlying K=some (.int q))(ht:P.underlying t=some (.map K e)){z:Value}(hz:(zeroValue e).run P w=.ok z w){k:Int}(hk:(Lit.int q k).wf=true) :
  (Instr.lookup t (.map (some b)) (.int q k) true).run P w=.ok (.tuple #[(m k).getD z,.bool (m k).isSome]) w:=by
 obtain⟨D,h1,h2,h3,hh⟩:=h.has;obtain⟨v,ps,hr,hv⟩:=h1.look_ok (int_keyed hK) ht hz (zd:=.held z) (zp:=[]) rfl (keyOf_int_mk hK hk);rw[hr,hh];rw[h2] at hv;unfold rdV at hv;cases hm:m k with
 | none=>rw[hm] at hv;cases hv;rfl
 | some u=>rw[hm] at hv;cases hv;rfl
theorem IMap.drop(h:IMap w P K q b m sz)(hK:P.underlying K=some (.int q))(ht:P.underlying t=some (.map K e)){k:Int}(hk:(Lit.int q k).wf=true)(ty:TypeId) :
  ∃w',(Builtin.delete_ #[t,K] ty #[.map (some b),.int q k]).run P w=.ok (.tuple #[]) w' /\ IMap w' P K q b (upd m k none) (if (m k).isSome then sz-1 else sz) /\ Mod (· = b) w w' /\ w'.heap.size=w.heap.size:=by
 obtain⟨D,h1,h2,h3,hh⟩:=h.has;obtain⟨w',hr,ho,ht'⟩:=h1.drop (int_keyed hK) ht (keyOf_int_mk hK hk) ty;have htidy:=h1.tidy (int_keyed hK);have hsz:Maps.size (D.del (.int q k))=if (m k).isSome then sz-1 else sz:=by
  have:=Maps.size_del (k:=.int q k) htidy;rw[hh,h3] at this;cases hm:(m k).isSome with
  | true=>rw[hm,if_pos rfl] at this;rw[if_pos rfl];omega
  | false=>rw[hm,if_neg (by simp)] at this;rw[if_neg (by simp)];omega
 refine⟨w',hr,⟨D.del (.int q k),by rw[<-hsz];exact Q3Y ho,fun k' z=>?_,hsz⟩,?_,?_⟩
 ·unfold upd;by_cases e:k'=k
  ·subst e;rw[if_pos rfl];exact Maps.atKey_del_same _
  ·rw[if_neg e,Maps.atKey_del_other (QcW e),h2]
 ·exact(Mod.of_grown ht'.grown).mono fun x hx=>(Option.some.inj hx).symm
 ·obtain⟨es,clock,es',clock',_,rfl⟩:=ht';simp[ChangeMaps.setBlock]
theorem IMap.len(h:IMap w P K q b m sz)(ht:P.underlying t=some (.map K e))(ty:TypeId):(Builtin.len_ #[t] ty #[.map (some b)]).run P w=.ok (.int .i64 (sz:Int)) w:=by
 obtain⟨D,h1,h2,h3⟩:=h.own;rw[h1.len ht ty,h3]
theorem IMap.entry_new(h:IMap w P K q b m sz)(hK:P.underlying K=some (.int q))(ht:P.underlying t=some (.map K e))(hn:sz<maxLen){z:Value}(hz:∀w,(zeroValue e).run P w=.ok z w){k:Int}(hk:(Lit.int q k).wf=true)(hm:m k=none)(v:Value) :
  ∃(w1:World)(st:Int),(Instr.mapEntry t (.map (some b)) (.int q k)).run P w=.ok (.tuple #[z,.int .i64 st]) w1 /\ Mod (· = b) w w1 /\ w1.heap.size=w.heap.size /\
   ∃w',(Instr.entryStore t (.map (some b)) (.int .i64 st) v).run P w1=.ok () w' /\ IMap w' P K q b (upd m k (some v)) (sz+1) /\ Mod (· = b) w1 w' /\ w'.heap.size=w1.heap.size:=by
 obtain⟨w3,hr3,h3,m3,s3⟩:=h.store hK ht hn hk v;rw[hm] at h3;have hlook:=h.look_ok hK ht (hz w) hk;rw[hm] at hlook;obtain⟨D,⟨es,clock,hb,F,hs,_⟩,_⟩:=h.own;have KK:=int_keyed hK;have hkey:=keyOf_int_mk hK hk;rcases KK.find w hkey es.toList F.keys with⟨h1,h2⟩ | ⟨j,e0,h1,h2,h3'⟩
 case inr=>
  exfalso;simp[Instr.lookup,run_underlying ht,MapKept.run_getObj_map hb,KK.check w es.isEmpty hkey,h1,Result.andThen,hz w] at hlook
 have hx:∀x ∈ es.toList,x.born<clock:=F.stamped.1
 let w1:=ChangeMaps.setBlock w b (.map (es.push ⟨.int q k,z,clock⟩) (clock+1))
 have e1:(Instr.mapEntry t (.map (some b)) (.int q k)).run P w=.ok (.tuple #[z,.int .i64 (clock:Int)]) w1:=by
  simp[Instr.mapEntry,run_underlying ht,MapKept.run_getObj_map hb,KK.check w false hkey,h1,MapKept.run_setObj_map _ hb,Result.andThen,hz w,w1,ChangeMaps.setBlock,goInt]
 have hb1:w1.heap[b]? = some (.map (es.push ⟨.int q k,z,clock⟩) (clock+1)):=(MapKept.heap_set hb).1;have hfind:(es.push ⟨.int q k,z,clock⟩).findIdx? (fun e=>(e.born:Int) == (clock:Int))=some es.size:=by
  rw[Array.findIdx?_push,Array.findIdx?_eq_none_iff.2]
  ·simp
  ·intro x hxm;have:=hx x (by simpa using hxm);simp;omega
 have e2:(Instr.entryStore t (.map (some b)) (.int .i64 (clock:Int)) v).run P w1=.ok () (ChangeMaps.setBlock w1 b (.map (es.push ⟨.int q k,v,clock⟩) (clock+1))):=by
  have hmod:(es.push ⟨.int q k,z,clock⟩).modify es.size (fun e=>{e with val:=v})=es.push ⟨.int q k,v,clock⟩:=by
   apply Array.ext
   ·simp
   ·intro i h1 h2;rw[Array.getElem_modify];by_cases hi:i<es.size
    ·rw[if_neg (by omega),Array.getElem_push_lt hi,Array.getElem_push_lt hi]
    ·have:i=es.size:=by simp at h1;omega
     subst this;simp
  simp[Instr.entryStore,MapKept.run_getObj_map hb1,MapKept.run_setObj_map _ hb1,Result.andThen,asInt,asIntOf,hfind,hmod,ChangeMaps.setBlock]
 have e3:(Instr.mapUpdate t (.map (some b)) (.int q k) v).run P w=.ok () (ChangeMaps.setBlock w b (.map (es.push ⟨.int q k,v,clock⟩) (clock+1))):=by
  simp[Instr.mapUpdate,run_underlying ht,MapKept.run_getObj_map hb,KK.check w false hkey,h1,MapKept.run_setObj_map _ hb,Result.andThen,ChangeMaps.setBlock]
 rw[hr3] at e3
 injection e3 with _ e3
 have hm1:Mod (· = b) w w1:=⟨rfl,rfl,rfl,by simp[w1,ChangeMaps.setBlock],fun i _ hi=>(MapKept.heap_set hb).2 i hi⟩;have hm2:Mod (· = b) w1 (ChangeMaps.setBlock w1 b (.map (es.push ⟨.int q k,v,clock⟩) (clock+1))):=⟨rfl,rfl,rfl,by simp[ChangeMaps.setBlock],fun i _ hi=>(MapKept.heap_set hb1).2 i hi⟩;have hb3:w3.heap[b]? = some (.map (es.push ⟨.int q k,v,clock⟩) (clock+1)):=by rw[e3];exact(MapKept.heap_set hb).1
 have hb4:(ChangeMaps.setBlock w1 b (.map (es.push ⟨.int q k,v,clock⟩) (clock+1))).heap[b]? = some (.map (es.push ⟨.int q k,v,clock⟩) (clock+1)):=(MapKept.heap_set hb1).1;refine⟨w1,clock,e1,hm1,by simp[w1,ChangeMaps.setBlock],_,e2,?_,hm2,by simp[ChangeMaps.setBlock]⟩;obtain⟨D',⟨es',clock',hb',rest⟩,h2',h3'⟩:=h3.own;rw[hb3] at hb'
 injection hb' with hb'
 injection hb' with p1 p2
 subst p1 p2;exact⟨D',⟨_,_,hb4,rest⟩,h2',h3'⟩
end
end
set_option maxRecDepth 100000
section
variable{w:World}{R:Value->World->Prop}
def vc87(x0:Option Addr)(x1:Int)(w:World)(R:VW):Prop:=
 CS 44 #[.pointer x0,.int .i64 x1] w fun v0 w1=>∃p2:Option Addr,v0=.pointer p2 /\ R (.bool !p2.isNone) w1
theorem vc87.ok{x0:Option Addr}{x1:Int}(h:vc87 x0 x1 w R ):Calls prog 17 #[.pointer x0,.int .i64 x1] w (Ret R):=
 bodyE zN Tryz.func17 (h:=h)
def va88:Ann:=⟨fun id=>LI.none,fun l=>cond (Nat.beq l 1) (some ⟨[(3,.int .i64 0)],([2]++rg 12 11)⟩) (none),fun i=>none⟩
def vc88(x0:Int)(w:World)(R:VW):Prop:=
 ifB (decide (x0<1)) (R (.int .i64 (-1)) w) (ifB (decide (x0>8192)) (R (.int .i64 (-1)) w) (ifB (decide (x0>256)) ((512:Int) ≠ 0 /\ R (.int .i64 (IntKind.i64.wrap (8+IntKind.i64.wrap ((IntKind.i64.wrap (x0-1)).tdiv 512)))) w) (CS 52 #[.int .i64 0] w fun v0 w1=>∃i2:Int,v0=.int .i64 i2 /\ ifB (decide (i2<x0)) (∃x3:Nat->Int->World->Prop,(∃n4:Nat,x3 n4 (IntKind.i64.wrap (0+1)) w1) /\ ∀(n5:Nat)(jv:Nat->Value)(i6:Int)(w7:World),x3 n5 i6 w7->CS 52 #[.int .i64 i6] w7 fun v8 w9=>∃i10:Int,v8=.int .i64 i10 /\ ifB (decide (i10<x0)) (∃n11:Nat,n11<n5 /\ x3 n11 (IntKind.i64.wrap (i6+1)) w9) (R (.int .i64 i6) w9)) (R (.int .i64 0) w1))))
theorem vc88.ok{x0:Int}(h:vc88 x0 w R ):Calls prog 19 #[.int .i64 x0] w (Ret R):=
 bodyE va88 Tryz.func19 (h:=h)
def vc89(x0:Option Addr)(x1:Int)(w:World)(R:VW):Prop:=
 CS 44 #[.pointer x0,.int .i64 x1] w fun v0 w1=>∃p2:Option Addr,v0=.pointer p2 /\ CS 53 #[.pointer p2] w1 fun v3 w4=>∃i5:Int,v3=.int .i64 i5 /\ R (.int .i64 i5) w4
theorem vc89.ok{x0:Option Addr}{x1:Int}(h:vc89 x0 x1 w R ):Calls prog 20 #[.pointer x0,.int .i64 x1] w (Ret R):=
 bodyE zN Tryz.func20 (h:=h)
def vc90(x0:Int)(w:World)(R:VW):Prop:=
 CS 54 #[.int .i64 x0] w fun v0 w1=>∃i2:Int,v0=.int .i64 i2 /\ ifB (decide (i2<0)) (R (.int .i64 0) w1) (CS 54 #[.int .i64 x0] w1 fun v3 w4=>∃i5:Int,v3=.int .i64 i5 /\ CS 55 #[.int .i64 i5] w4 fun v6 w7=>∃i8:Int,v6=.int .i64 i8 /\ R (.int .i64 i8) w7)
theorem vc90.ok{x0:Int}(h:vc90 x0 w R ):Calls prog 21 #[.int .i64 x0] w (Ret R):=
 bodyE zN Tryz.func21 (h:=h)
def vc91(x0:Option Addr)(x1:Int)(w:World)(R:VW):Prop:=
 CS 44 #[.pointer x0,.int .i64 x1] w fun v0 w1=>∃p2:Option Addr,v0=.pointer p2 /\ CS 58 #[.pointer p2] w1 fun v3 w4=>∃i5:Int,v3=.int .i64 i5 /\ R (.int .i64 i5) w4
theorem vc91.ok{x0:Option Addr}{x1:Int}(h:vc91 x0 x1 w R ):Calls prog 23 #[.pointer x0,.int .i64 x1] w (Ret R):=
 bodyE zN Tryz.func23 (h:=h)
def va93:Ann:=⟨fun id=>cond (Nat.beq id 3) ⟨[(7,.int .i64 0),(12,.int .i64 0)],([6,9]++rg 13 16)⟩ (LI.none),fun l=>none,fun i=>none⟩
def vc93(x0_0 x0_1:Int)(x1a:Option Addr)(x1l x1c:Nat)(x2:Int)(w:World)(R:VW):Prop:=
 ∀(n0:Nat)(w1:World),n0=w.heap.size->w1=w.alloc (.cells #[.int .i64 x0_0,.int .i64 x0_1] 23)->∃x2_1:Nat->Int->Int->World->Prop,(∃n3:Nat,x2_1 n3 0 0 w1) /\ ∀(n4:Nat)(jv:Nat->Value)(i5 i6:Int)(w7:World),x2_1 n4 i5 i6 w7->ifB (decide (i6<(↑x1l:Int))) (0<=i6 /\ i6<(↑x1l:Int) /\ someA x1a fun a8=>∃(i9 i10 i11 i12 i13:Int)(s14:ByteArray),CellsAt w7 (a8.add (i6.toNat*6)) [.int .i64 i9,.int .i64 i10,.int .i64 i11,.int .i64 i12,.int .u64 i13,.string s14] /\ ∀(n15:Nat)(w16:World),n15=w7.heap.size->w16=w7.alloc (.cells #[.int .i64 0,.int .i64 0,.int .i64 0,.int .i64 0,.int .u64 0,.string (.mk #[])] 35)->WrC w16 (zA n15) 6 /\ ∀(w17:World),w17=wr w16 (zA n15) [.int .i64 i9,.int .i64 i10,.int .i64 i11,.int .i64 i12,.int .u64 i13,.string s14]->∃s18:ByteArray,w17.cell? ((zA n15).add 5)=some (.string s18) /\ (16:Int) ≠ 0 /\ ∃(i19:Int)(w20:World),Sem.run prog (Builtin.min_ #[3,3] 3 #[.int .i64 (IntKind.i64.wrap ((↑s18.size:Int).tdiv 16)),.int .i64 1048576]) w17=.ok (.int .i64 i19) w20 /\ ifB (decide (IntKind.i64.wrap (i5+IntKind.i64.wrap (4+i19))>IntKind.i64.wrap (8*x2))) (R (.bool true) w20) (∃n21:Nat,n21<n4 /\ x2_1 n21 (IntKind.i64.wrap (i5+IntKind.i64.wrap (4+i19))) (IntKind.i64.wrap (i6+1)) w20)) (ifB (decide ((↑x1l:Int)>x2)) (R (.bool true) w7) (∃i22:Int,w7.cell? ((zA n0).add 0)=some (.int .i64 i22) /\ R (.bool (decide (i22>512))) w7))
theorem vc93.ok{x0_0 x0_1:Int}{x1a:Option Addr}{x1l x1c:Nat}{x2:Int}(h:vc93 x0_0 x0_1 x1a x1l x1c x2 w R ):Calls prog 25 #[.agg #[.int .i64 x0_0,.int .i64 x0_1],.slice x1a x1l x1c,.int .i64 x2] w (Ret R):=
 bodyE va93 Tryz.func25 (h:=h)
def vc97(x0:Option Addr)(w:World)(R:VW):Prop:=
 ifB x0.isNone (R (.pointer none) w) (someA x0 fun a0=>∃p1:Option Addr,w.cell? (a0.add 2)=some (.pointer p1) /\ R (.pointer p1) w)
theorem vc97.ok{x0:Option Addr}(h:vc97 x0 w R ):Calls prog 35 #[.pointer x0] w (Ret R):=
 bodyE zN Tryz.func35 (h:=h)
def vc98(x0_0 x0_1 x0_2 x0_3 x0_4:Int)(x0_5:ByteArray)(w:World)(R:VW):Prop:=
 ∀(n0:Nat)(w1:World),n0=w.heap.size->w1=w.alloc (.cells #[.int .i64 x0_0,.int .i64 x0_1,.int .i64 x0_2,.int .i64 x0_3,.int .u64 x0_4,.string x0_5] 35)->∃i2:Int,w1.cell? ((zA n0).add 0)=some (.int .i64 i2) /\ ifB (decide (i2<1)) (R (.int .i64 1) w1) (∃i3:Int,w1.cell? ((zA n0).add 0)=some (.int .i64 i3) /\ ifB (decide (i3>11)) (R (.int .i64 1) w1) (∃i4:Int,w1.cell? ((zA n0).add 1)=some (.int .i64 i4) /\ ifB (decide (i4<0)) (R (.int .i64 1) w1) (∃i5:Int,w1.cell? ((zA n0).add 1)=some (.int .i64 i5) /\ ifB (decide (i5>=8)) (R (.int .i64 1) w1) (∃s6:ByteArray,w1.cell? ((zA n0).add 5)=some (.string s6) /\ ifB (decide ((↑s6.size:Int)>8192)) (R (.int .i64 1) w1) (ifB (decide ((↑s6.size:Int)>0)) (∃i7:Int,w1.cell? ((zA n0).add 0)=some (.int .i64 i7) /\ ifB (i7 != 10) (R (.int .i64 1) w1) (R (.int .i64 0) w1)) (R (.int .i64 0) w1))))))
theorem vc98.ok{x0_0 x0_1 x0_2 x0_3 x0_4:Int}{x0_5:ByteArray}(h:vc98 x0_0 x0_1 x0_2 x0_3 x0_4 x0_5 w R ):Calls prog 37 #[.agg #[.int .i64 x0_0,.int .i64 x0_1,.int .i64 x0_2,.int .i64 x0_3,.int .u64 x0_4,.string x0_5]] w (Ret R):=
 bodyE zN Tryz.func37 (h:=h)
def vc99(x0:Option Addr)(x1:Int)(w:World)(R:VW):Prop:=
 CS 70 #[.pointer x0,.int .i64 x1] w fun v0 w1=>∃i2:Int,v0=.int .i64 i2 /\ ifB (i2 != 0) (R (.int .i64 i2) w1) (someA x0 fun a3=>0<=x1 /\ x1<(↑(8:Nat):Int) /\ ∃p4:Option Addr,w1.cell? ((a3.add 5).add x1.toNat)=some (.pointer p4) /\ ifB p4.isNone (R (.int .i64 6) w1) (∀(w5:World),w5=w1.drew->someA x0 fun a6=>CS 79 #[.pointer p4] w5 fun v7 w8=>∃i9:Int,v7=.int .i64 i9 /\ 0<=x1 /\ x1<(↑(8:Nat):Int) /\ w8=w8 /\ WrC w8 ((a6.add 13).add x1.toNat) 1 /\ ∀(w10:World),w10=wr w8 ((a6.add 13).add x1.toNat) [.int .i64 i9]->CS 80 #[.pointer p4] w10 fun v11 w12=>v11=.tuple #[] /\ someA x0 fun a13=>∃p14:Option Addr,w12.cell? (a13.add 4)=some (.pointer p14) /\ CS 81 #[.pointer p14,.int .i64 x1] w12 fun v15 w16=>∃(p17:Option Addr)(n18 n19:Nat)(i20:Int),v15=.tuple #[.slice p17 n18 n19,.int .i64 i20] /\ someA x0 fun a21=>0<=x1 /\ x1<(↑(8:Nat):Int) /\ WrC w16 ((a21.add 5).add x1.toNat) 1 /\ ∀(w22:World),w22=wr w16 ((a21.add 5).add x1.toNat) [.pointer none]->R (.int .i64 0) w22))
theorem vc99.ok{x0:Option Addr}{x1:Int}(h:vc99 x0 x1 w R ):Calls prog 40 #[.pointer x0,.int .i64 x1] w (Ret R):=
 bodyE zN Tryz.func40 (h:=h)
def vc100(x0:Option Addr)(x1:Int)(w:World)(R:VW):Prop:=
 CS 70 #[.pointer x0,.int .i64 x1] w fun v0 w1=>∃i2:Int,v0=.int .i64 i2 /\ ifB (i2 != 0) (R (.pointer none) w1) (someA x0 fun a3=>0<=x1 /\ x1<(↑(8:Nat):Int) /\ ∃p4:Option Addr,w1.cell? ((a3.add 5).add x1.toNat)=some (.pointer p4) /\ R (.pointer p4) w1)
theorem vc100.ok{x0:Option Addr}{x1:Int}(h:vc100 x0 x1 w R ):Calls prog 41 #[.pointer x0,.int .i64 x1] w (Ret R):=
 bodyE zN Tryz.func41 (h:=h)
def vc101(x0:Option Addr)(x1_0 x1_1 x1_2 x1_3 x1_4:Int)(x1_5:ByteArray)(w:World)(R:VW):Prop:=
 ∀(n0:Nat)(w1:World),n0=w.heap.size->w1=w.alloc (.cells #[.int .i64 x1_0,.int .i64 x1_1,.int .i64 x1_2,.int .i64 x1_3,.int .u64 x1_4,.string x1_5] 35)->∀(n2:Nat)(w3:World),n2=w1.heap.size->w3=w1.alloc (.cells #[.int .i64 0,.int .u64 0,.int .i64 0,.int .i64 0,.string (.mk #[]),.int .i64 0] 40)->∃i4:Int,w3.cell? ((zA n0).add 0)=some (.int .i64 i4) /\ ifB (i4 == 4) (∃i5:Int,w3.cell? ((zA n0).add 2)=some (.int .i64 i5) /\ CS 82 #[.pointer x0,.int .i64 i5] w3 fun v6 w7=>∃(i8 i9 i10 i11:Int)(s12:ByteArray)(i13:Int),v6=.agg #[.int .i64 i8,.int .u64 i9,.int .i64 i10,.int .i64 i11,.string s12,.int .i64 i13] /\ WrC w7 (zA n2) 6 /\ ∀(w14:World),w14=wr w7 (zA n2) [.int .i64 i8,.int .u64 i9,.int .i64 i10,.int .i64 i11,.string s12,.int .i64 i13]->∃(i15 i16 i17 i18:Int)(s19:ByteArray)(i20:Int),CellsAt w14 (zA n2) [.int .i64 i15,.int .u64 i16,.int .i64 i17,.int .i64 i18,.string s19,.int .i64 i20] /\ R (.agg #[.int .i64 i15,.int .u64 i16,.int .i64 i17,.int .i64 i18,.string s19,.int .i64 i20]) w14) (ifB (i4 == 5) (∃i21:Int,w3.cell? ((zA n0).add 2)=some (.int .i64 i21) /\ ∃i22:Int,w3.cell? ((zA n0).add 3)=some (.int .i64 i22) /\ CS 83 #[.pointer x0,.int .i64 i21,.int .i64 i22] w3 fun v23 w24=>∃(i25 i26 i27 i28:Int)(s29:ByteArray)(i30:Int),v23=.agg #[.int .i64 i25,.int .u64 i26,.int .i64 i27,.int .i64 i28,.string s29,.int .i64 i30] /\ WrC w24 (zA n2) 6 /\ ∀(w31:World),w31=wr w24 (zA n2) [.int .i64 i25,.int .u64 i26,.int .i64 i27,.int .i64 i28,.string s29,.int .i64 i30]->∃(i32 i33 i34 i35:Int)(s36:ByteArray)(i37:Int),CellsAt w31 (zA n2) [.int .i64 i32,.int .u64 i33,.int .i64 i34,.int .i64 i35,.string s36,.int .i64 i37] /\ R (.agg #[.int .i64 i32,.int .u64 i33,.int .i64 i34,.int .i64 i35,.string s36,.int .i64 i37]) w31) (ifB (i4 == 6) (∃i38:Int,w3.cell? ((zA n0).add 4)=some (.int .u64 i38) /\ CS 84 #[.pointer x0,.int .u64 i38] w3 fun v39 w40=>∃(i41 i42 i43 i44:Int)(s45:ByteArray)(i46:Int),v39=.agg #[.int .i64 i41,.int .u64 i42,.int .i64 i43,.int .i64 i44,.string s45,.int .i64 i46] /\ WrC w40 (zA n2) 6 /\ ∀(w47:World),w47=wr w40 (zA n2) [.int .i64 i41,.int .u64 i42,.int .i64 i43,.int .i64 i44,.string s45,.int .i64 i46]->∃(i48 i49 i50 i51:Int)(s52:ByteArray)(i53:Int),CellsAt w47 (zA n2) [.int .i64 i48,.int .u64 i49,.int .i64 i50,.int .i64 i51,.string s52,.int .i64 i53] /\ R (.agg #[.int .i64 i48,.int .u64 i49,.int .i64 i50,.int .i64 i51,.string s52,.int .i64 i53]) w47) (ifB (i4 == 7) (∃i54:Int,w3.cell? ((zA n0).add 4)=some (.int .u64 i54) /\ ∃i55:Int,w3.cell? ((zA n0).add 2)=some (.int .i64 i55) /\ CS 85 #[.pointer x0,.int .u64 i54,.int .i64 i55] w3 fun v56 w57=>∃(i58 i59 i60 i61:Int)(s62:ByteArray)(i63:Int),v56=.agg #[.int .i64 i58,.int .u64 i59,.int .i64 i60,.int .i64 i61,.string s62,.int .i64 i63] /\ WrC w57 (zA n2) 6 /\ ∀(w64:World),w64=wr w57 (zA n2) [.int .i64 i58,.int .u64 i59,.int .i64 i60,.int .i64 i61,.string s62,.int .i64 i63]->∃(i65 i66 i67 i68:Int)(s69:ByteArray)(i70:Int),CellsAt w64 (zA n2) [.int .i64 i65,.int .u64 i66,.int .i64 i67,.int .i64 i68,.string s69,.int .i64 i70] /\ R (.agg #[.int .i64 i65,.int .u64 i66,.int .i64 i67,.int .i64 i68,.string s69,.int .i64 i70]) w64) (ifB (i4 == 8) (∃i71:Int,w3.cell? ((zA n0).add 4)=some (.int .u64 i71) /\ CS 86 #[.pointer x0,.int .u64 i71] w3 fun v72 w73=>∃(i74 i75 i76 i77:Int)(s78:ByteArray)(i79:Int),v72=.agg #[.int .i64 i74,.int .u64 i75,.int .i64 i76,.int .i64 i77,.string s78,.int .i64 i79] /\ WrC w73 (zA n2) 6 /\ ∀(w80:World),w80=wr w73 (zA n2) [.int .i64 i74,.int .u64 i75,.int .i64 i76,.int .i64 i77,.string s78,.int .i64 i79]->∃(i81 i82 i83 i84:Int)(s85:ByteArray)(i86:Int),CellsAt w80 (zA n2) [.int .i64 i81,.int .u64 i82,.int .i64 i83,.int .i64 i84,.string s85,.int .i64 i86] /\ R (.agg #[.int .i64 i81,.int .u64 i82,.int .i64 i83,.int .i64 i84,.string s85,.int .i64 i86]) w80) (ifB (i4 == 9) (∃i87:Int,w3.cell? ((zA n0).add 4)=some (.int .u64 i87) /\ ∃i88:Int,w3.cell? ((zA n0).add 2)=some (.int .i64 i88) /\ ∃i89:Int,w3.cell? ((zA n0).add 3)=some (.int .i64 i89) /\ CS 87 #[.pointer x0,.int .u64 i87,.int .i64 i88,.int .i64 i89] w3 fun v90 w91=>∃(i92 i93 i94 i95:Int)(s96:ByteArray)(i97:Int),v90=.agg #[.int .i64 i92,.int .u64 i93,.int .i64 i94,.int .i64 i95,.string s96,.int .i64 i97] /\ WrC w91 (zA n2) 6 /\ ∀(w98:World),w98=wr w91 (zA n2) [.int .i64 i92,.int .u64 i93,.int .i64 i94,.int .i64 i95,.string s96,.int .i64 i97]->∃(i99 i100 i101 i102:Int)(s103:ByteArray)(i104:Int),CellsAt w98 (zA n2) [.int .i64 i99,.int .u64 i100,.int .i64 i101,.int .i64 i102,.string s103,.int .i64 i104] /\ R (.agg #[.int .i64 i99,.int .u64 i100,.int .i64 i101,.int .i64 i102,.string s103,.int .i64 i104]) w98) (ifB (i4 == 10) (∃i105:Int,w3.cell? ((zA n0).add 4)=some (.int .u64 i105) /\ ∃i106:Int,w3.cell? ((zA n0).add 2)=some (.int .i64 i106) /\ ∃s107:ByteArray,w3.cell? ((zA n0).add 5)=some (.string s107) /\ CS 88 #[.pointer x0,.int .u64 i105,.int .i64 i106,.string s107] w3 fun v108 w109=>∃(i110 i111 i112 i113:Int)(s114:ByteArray)(i115:Int),v108=.agg #[.int .i64 i110,.int .u64 i111,.int .i64 i112,.int .i64 i113,.string s114,.int .i64 i115] /\ WrC w109 (zA n2) 6 /\ ∀(w116:World),w116=wr w109 (zA n2) [.int .i64 i110,.int .u64 i111,.int .i64 i112,.int .i64 i113,.string s114,.int .i64 i115]->∃(i117 i118 i119 i120:Int)(s121:ByteArray)(i122:Int),CellsAt w116 (zA n2) [.int .i64 i117,.int .u64 i118,.int .i64 i119,.int .i64 i120,.string s121,.int .i64 i122] /\ R (.agg #[.int .i64 i117,.int .u64 i118,.int .i64 i119,.int .i64 i120,.string s121,.int .i64 i122]) w116) (∃i123:Int,w3.cell? ((zA n0).add 4)=some (.int .u64 i123) /\ ∃i124:Int,w3.cell? ((zA n0).add 2)=some (.int .i64 i124) /\ CS 89 #[.pointer x0,.int .u64 i123,.int .i64 i124] w3 fun v125 w126=>∃(i127 i128 i129 i130:Int)(s131:ByteArray)(i132:Int),v125=.agg #[.int .i64 i127,.int .u64 i128,.int .i64 i129,.int .i64 i130,.string s131,.int .i64 i132] /\ WrC w126 (zA n2) 6 /\ ∀(w133:World),w133=wr w126 (zA n2) [.int .i64 i127,.int .u64 i128,.int .i64 i129,.int .i64 i130,.string s131,.int .i64 i132]->∃(i134 i135 i136 i137:Int)(s138:ByteArray)(i139:Int),CellsAt w133 (zA n2) [.int .i64 i134,.int .u64 i135,.int .i64 i136,.int .i64 i137,.string s138,.int .i64 i139] /\ R (.agg #[.int .i64 i134,.int .u64 i135,.int .i64 i136,.int .i64 i137,.string s138,.int .i64 i139]) w133)))))))
theorem vc101.ok{x0:Option Addr}{x1_0 x1_1 x1_2 x1_3 x1_4:Int}{x1_5:ByteArray}(h:vc101 x0 x1_0 x1_1 x1_2 x1_3 x1_4 x1_5 w R ):Calls prog 42 #[.pointer x0,.agg #[.int .i64 x1_0,.int .i64 x1_1,.int .i64 x1_2,.int .i64 x1_3,.int .u64 x1_4,.string x1_5]] w (Ret R):=
 bodyE zN Tryz.func42 (h:=h)
def vc102(x0:Option Addr)(x1:Int)(w:World)(R:VW):Prop:=
 ifB x0.isNone (R (.pointer none) w) (someA x0 fun a0=>∃p1:Option Addr,w.cell? ((a0.add 0).add 0)=some (.pointer p1) /\ CS 41 #[.pointer p1,.int .i64 x1] w fun v2 w3=>∃p4:Option Addr,v2=.pointer p4 /\ R (.pointer p4) w3)
theorem vc102.ok{x0:Option Addr}{x1:Int}(h:vc102 x0 x1 w R ):Calls prog 44 #[.pointer x0,.int .i64 x1] w (Ret R):=
 bodyE zN Tryz.func44 (h:=h)
def vc103(x0:Option Addr)(w:World)(R:VW):Prop:=
 ifB x0.isNone (R (.pointer none) w) (someA x0 fun a0=>∃p1:Option Addr,w.cell? (a0.add 2)=some (.pointer p1) /\ R (.pointer p1) w)
theorem vc103.ok{x0:Option Addr}(h:vc103 x0 w R ):Calls prog 45 #[.pointer x0] w (Ret R):=
 bodyE zN Tryz.func45 (h:=h)
def vc104(x0:Option Addr)(w:World)(R:VW):Prop:=
 ifB x0.isNone (R (.pointer none) w) (someA x0 fun a0=>∃p1:Option Addr,w.cell? (a0.add 3)=some (.pointer p1) /\ R (.pointer p1) w)
theorem vc104.ok{x0:Option Addr}(h:vc104 x0 w R ):Calls prog 46 #[.pointer x0] w (Ret R):=
 bodyE zN Tryz.func46 (h:=h)
def vc105(x0:Option Addr)(w:World)(R:VW):Prop:=
 ifB x0.isNone (R (.int .i64 0) w) (someA x0 fun a0=>∃p1:Option Addr,w.cell? (a0.add 4)=some (.pointer p1) /\ CS 96 #[.pointer p1] w fun v2 w3=>∃n4 n5:Nat,v2=.complex FloatKind.f64 n4 n5 /\ CS 97 #[.complex FloatKind.f64 n4 n5] w3 fun v6 w7=>∃i8:Int,v6=.int .i64 i8 /\ R (.int .i64 i8) w7)
theorem vc105.ok{x0:Option Addr}(h:vc105 x0 w R ):Calls prog 53 #[.pointer x0] w (Ret R):=
 bodyE zN Tryz.func53 (h:=h)
def va106:Ann:=⟨fun id=>cond (Nat.beq id 4) ⟨[(3,.int .i64 0)],([2]++rg 6 9)⟩ (LI.none),fun l=>none,fun i=>none⟩
def vc106(x0:Int)(w:World)(R:VW):Prop:=
 ifB (decide (x0<1)) (R (.int .i64 (-1)) w) (∃x0_1:Nat->Int->World->Prop,(∃n1:Nat,x0_1 n1 0 w) /\ ∀(n2:Nat)(jv:Nat->Value)(i3:Int)(w4:World),x0_1 n2 i3 w4->ifB (decide (i3<24)) (CS 55 #[.int .i64 i3] w4 fun v5 w6=>∃i7:Int,v5=.int .i64 i7 /\ ifB (decide (i7>=x0)) (R (.int .i64 i3) w6) (∃n8:Nat,n8<n2 /\ x0_1 n8 (IntKind.i64.wrap (i3+1)) w6)) (R (.int .i64 (-1)) w4))
theorem vc106.ok{x0:Int}(h:vc106 x0 w R ):Calls prog 54 #[.int .i64 x0] w (Ret R):=
 bodyE va106 Tryz.func54 (h:=h)
def vc107(x0:Int)(w:World)(R:VW):Prop:=
 ∀(n0:Nat)(w1:World),n0=w.heap.size->w1=w.alloc (.cells #[.int .i64 16,.int .i64 32,.int .i64 48,.int .i64 64,.int .i64 96,.int .i64 128,.int .i64 192,.int .i64 256] 3)->ifB (decide (x0<0)) (R (.int .i64 0) w1) (ifB (decide (x0>23)) (R (.int .i64 0) w1) (ifB (decide (x0<8)) (0<=x0 /\ x0<(↑(8:Nat):Int) /\ ∃i2:Int,w1.cell? ((zA n0).add x0.toNat)=some (.int .i64 i2) /\ R (.int .i64 i2) w1) (R (.int .i64 (IntKind.i64.wrap (IntKind.i64.wrap (x0-7)*512))) w1)))
theorem vc107.ok{x0:Int}(h:vc107 x0 w R ):Calls prog 55 #[.int .i64 x0] w (Ret R):=
 bodyE zN Tryz.func55 (h:=h)
def vc108(x0 x1:Int)(w:World)(R:VW):Prop:=
 ifB (decide (x1>=0)) (ifB (decide (x0>=131072)) (ifB (decide (x0<=3276800)) (R (.bool (decide (x1<=IntKind.i64.wrap (3276800-x0)))) w) (R (.bool false) w)) (R (.bool false) w)) (R (.bool false) w)
theorem vc108.ok{x0 x1:Int}(h:vc108 x0 x1 w R ):Calls prog 56 #[.int .i64 x0,.int .i64 x1] w (Ret R):=
 bodyE zN Tryz.func56 (h:=h)
def va109:Ann:=⟨fun id=>cond (Nat.beq id 4) ⟨[(3,.int .i64 0)],(rg 10 12)⟩ (LI.none),fun l=>none,fun i=>none⟩
def vc109(x0:Int)(w:World)(R:VW):Prop:=
 ifB (decide (x0<0)) (R (.int .i64 0) w) (ifB (decide (x0>23)) (R (.int .i64 0) w) (∃x0_1:Nat->Int->World->Prop,(∃n1:Nat,x0_1 n1 1 w) /\ ∀(n2:Nat)(jv:Nat->Value)(i3:Int)(w4:World),x0_1 n2 i3 w4->ifB (decide (i3<512)) (CS 55 #[.int .i64 x0] w4 fun v5 w6=>∃i7:Int,v5=.int .i64 i7 /\ IntKind.i64.wrap (2*i3) ≠ 0 /\ ifB (i7.tmod (IntKind.i64.wrap (2*i3)) == 0) (∃n8:Nat,n8<n2 /\ x0_1 n8 (IntKind.i64.wrap (2*i3)) w6) (R (.int .i64 i3) w6)) (R (.int .i64 i3) w4)))
theorem vc109.ok{x0:Int}(h:vc109 x0 w R ):Calls prog 57 #[.int .i64 x0] w (Ret R):=
 bodyE va109 Tryz.func57 (h:=h)
def vc110(x0:Option Addr)(w:World)(R:VW):Prop:=
 ifB x0.isNone (R (.int .i64 0) w) (someA x0 fun a0=>∃p1:Option Addr,w.cell? (a0.add 4)=some (.pointer p1) /\ CS 98 #[.pointer p1] w fun v2 w3=>∃n4 n5:Nat,v2=.complex FloatKind.f64 n4 n5 /\ CS 97 #[.complex FloatKind.f64 n4 n5] w3 fun v6 w7=>∃i8:Int,v6=.int .i64 i8 /\ R (.int .i64 i8) w7)
theorem vc110.ok{x0:Option Addr}(h:vc110 x0 w R ):Calls prog 58 #[.pointer x0] w (Ret R):=
 bodyE zN Tryz.func58 (h:=h)
def vc114(x0_0 x0_1:Int)(w:World)(R:VW):Prop:=
 ∀(n0:Nat)(w1:World),n0=w.heap.size->w1=w.alloc (.cells #[.int .i64 x0_0,.int .i64 x0_1] 23)->∃i2:Int,w1.cell? ((zA n0).add 1)=some (.int .i64 i2) /\ ifB (decide (i2<1)) (R (.int .i64 12) w1) (∃i3:Int,w1.cell? ((zA n0).add 1)=some (.int .i64 i3) /\ ifB (decide (i3>32)) (R (.int .i64 12) w1) (∃i4:Int,w1.cell? ((zA n0).add 0)=some (.int .i64 i4) /\ ifB (decide (i4<1)) (R (.int .i64 12) w1) (∃i5:Int,w1.cell? ((zA n0).add 0)=some (.int .i64 i5) /\ ifB (decide (i5>4096)) (R (.int .i64 12) w1) (∃i6:Int,w1.cell? ((zA n0).add 0)=some (.int .i64 i6) /\ ∃i7:Int,w1.cell? ((zA n0).add 1)=some (.int .i64 i7) /\ i7 ≠ 0 /\ ifB (i6.tmod i7 != 0) (R (.int .i64 12) w1) (R (.int .i64 0) w1)))))
theorem vc114.ok{x0_0 x0_1:Int}(h:vc114 x0_0 x0_1 w R ):Calls prog 64 #[.agg #[.int .i64 x0_0,.int .i64 x0_1]] w (Ret R):=
 bodyE zN Tryz.func64 (h:=h)
def vc116(x0:Option Addr)(x1:Int)(w:World)(R:VW):Prop:=
 CS 109 #[.pointer x0,.int .i64 x1,.int .i64 0] w fun v0 w1=>∃i2:Int,v0=.int .i64 i2 /\ ifB (i2 != 0) (R (.slice none 0 0) w1) (someA x0 fun a3=>0<=x1 /\ x1<(↑(8:Nat):Int) /\ ∃(p4:Option Addr)(n5 n6:Nat),w1.cell? ((a3.add 1).add x1.toNat)=some (.slice p4 n5 n6) /\ CS 110 #[.slice p4 n5 n6] w1 fun v7 w8=>∃(p9:Option Addr)(n10 n11:Nat),v7=.slice p9 n10 n11 /\ R (.slice p9 n10 n11) w8)
theorem vc116.ok{x0:Option Addr}{x1:Int}(h:vc116 x0 x1 w R ):Calls prog 69 #[.pointer x0,.int .i64 x1] w (Ret R):=
 bodyE zN Tryz.func69 (h:=h)
def vc117(x0:Option Addr)(x1:Int)(w:World)(R:VW):Prop:=
 ifB x0.isNone (R (.int .i64 11) w) (ifB (decide (x1<0)) (R (.int .i64 12) w) (ifB (decide (x1>=8)) (R (.int .i64 12) w) (R (.int .i64 0) w)))
theorem vc117.ok{x0:Option Addr}{x1:Int}(h:vc117 x0 x1 w R ):Calls prog 70 #[.pointer x0,.int .i64 x1] w (Ret R):=
 bodyE zN Tryz.func70 (h:=h)
def vc118(x0:Option Addr)(x1 x2:Int)(w:World)(R:VW):Prop:=
 CS 111 #[.int .i64 x2] w fun v0 w1=>∃(n2 n3:Nat)(i4:Int),v0=.tuple #[.complex FloatKind.f64 n2 n3,.int .i64 i4] /\ ifB (i4 != 0) (R (.int .i64 2) w1) (ifB (decide (x1<1)) (R (.int .i64 2) w1) (someA x0 fun a5=>∃i6:Int,w1.cell? ((a5.add 0).add 1)=some (.int .i64 i6) /\ ifB (decide (x1>i6)) (R (.int .i64 2) w1) (R (.int .i64 0) w1)))
theorem vc118.ok{x0:Option Addr}{x1 x2:Int}(h:vc118 x0 x1 x2 w R ):Calls prog 71 #[.pointer x0,.int .i64 x1,.int .i64 x2] w (Ret R):=
 bodyE zN Tryz.func71 (h:=h)
def vc119(x0 x1:Int)(w:World)(R:VW):Prop:=
 CS 111 #[.int .i64 x0] w fun v0 w1=>∃(n2 n3:Nat)(i4:Int),v0=.tuple #[.complex FloatKind.f64 n2 n3,.int .i64 i4] /\ ifB (i4 == 0) (CS 112 #[.complex FloatKind.f64 n2 n3] w1 fun v5 w6=>∃i7:Int,v5=.int .i64 i7 /\ R (.bool (decide (i7<=x1))) w6) (R (.bool false) w1)
theorem vc119.ok{x0 x1:Int}(h:vc119 x0 x1 w R ):Calls prog 72 #[.int .i64 x0,.int .i64 x1] w (Ret R):=
 bodyE zN Tryz.func72 (h:=h)
def vc120(x0:Option Addr)(w:World)(R:VW):Prop:=
 ifB x0.isNone (R (.int .i64 0) w) (∀(w0:World),w0=w.drew->someA x0 fun a1=>∃i2:Int,w0.cell? ((a1.add 0).add 0)=some (.int .i64 i2) /\ someA x0 fun a3=>∃i4:Int,w0.cell? ((a3.add 0).add 1)=some (.int .i64 i4) /\ i4 ≠ 0 /\ w0=w0 /\ R (.int .i64 (IntKind.i64.wrap (i2.tdiv i4))) w0)
theorem vc120.ok{x0:Option Addr}(h:vc120 x0 w R ):Calls prog 73 #[.pointer x0] w (Ret R):=
 bodyE zN Tryz.func73 (h:=h)
end
section
open Go.RowKit Go.Maps
abbrev Tb:=List (Int × Int)
def fndO(T:Tb)(v:Int):Option (Int × Int):=T.find? fun x=>decide (x.1=v)
def hldO(T:Tb)(p:Int):Option (Int × Int):=T.find? fun x=>decide (x.2=p)
def fnd(T:Tb)(v:Int):Int:=match fndO T v with | some x=>x.2 | none=>-1
def hld(T:Tb)(p:Int):Int:=match hldO T p with | some x=>x.1 | none=>-1
def insT(T:Tb)(v p:Int):Tb:=T.takeWhile (fun x=>decide (x.1<v))++(v,p) :: T.dropWhile (fun x=>decide (x.1<v))
structure TOk (T:Tb):Prop where
 rng:∀x ∈ T,256<=x.1 /\ x.1<6400 /\ 0<=x.2 /\ x.2<=1048576
 n1:(T.map (·.1)).Nodup
 n2:(T.map (·.2)).Nodup
section
variable{T:Tb}{v p k:Int}
theorem Q0a{x:Int × Int}(h:fndO T v=some x):x ∈ T /\ x.1=v:=⟨List.mem_of_find?_eq_some h,by simpa using List.find?_some h⟩
theorem Q1w{x:Int × Int}(h:hldO T p=some x):x ∈ T /\ x.2=p:=⟨List.mem_of_find?_eq_some h,by simpa using List.find?_some h⟩
theorem Q24(h:fndO T v=none):∀x ∈ T,x.1 ≠ v:=fun x hx e=>by simpa [e] using List.find?_eq_none.1 h x hx
theorem Q1d(h:hldO T p=none):∀x ∈ T,x.2 ≠ p:=fun x hx e=>by simpa [e] using List.find?_eq_none.1 h x hx
theorem Q6j(g:TOk T):0<=fnd T v ↔ (fndO T v).isSome=true:=by
 unfold fnd;cases h:fndO T v with
 | none=>simp
 | some x=>have:=(g.rng x (Q0a h).1);simp;omega
theorem Qe4(g:TOk T):0<=hld T p ↔ (hldO T p).isSome=true:=by
 unfold hld;cases h:hldO T p with
 | none=>simp
 | some x=>have:=(g.rng x (Q1w h).1);simp;omega
theorem Q1x(T:Tb)(v:Int):T=T.takeWhile (fun x=>decide (x.1<v))++T.dropWhile (fun x=>decide (x.1<v)):=(List.takeWhile_append_dropWhile ..).symm
theorem Q4m(h:fndO T v=none):fndO (insT T v p) k=if k=v then some (v,p)else fndO T k:=by
 have hn:=Q24 h;have e:fndO T k=fndO (T.takeWhile (fun x=>decide (x.1<v))++T.dropWhile (fun x=>decide (x.1<v))) k:=by rw[<-Q1x]
 have hm:∀x ∈ T.takeWhile (fun x=>decide (x.1<v)),x.1 ≠ v:=fun x hx=>hn x (List.takeWhile_subset _ hx);rw[e];unfold fndO insT;rw[List.find?_append,List.find?_append,List.find?_cons];by_cases hk:k=v
 ·subst hk;rw[if_pos rfl,List.find?_eq_none.2 (fun x hx=>by simpa using hm x hx)];simp
 ·rw[if_neg hk];have:decide ((v,p).1=k)=false:=zzdcf (fun q=>hk q.symm);rw[this]
theorem QbG(h:hldO T p=none):hldO (insT T v p) k=if k=p then some (v,p)else hldO T k:=by
 have hn:=Q1d h;have e:hldO T k=hldO (T.takeWhile (fun x=>decide (x.1<v))++T.dropWhile (fun x=>decide (x.1<v))) k:=by rw[<-Q1x]
 have hm:∀x ∈ T.takeWhile (fun x=>decide (x.1<v)),x.2 ≠ p:=fun x hx=>hn x (List.takeWhile_subset _ hx);rw[e];unfold hldO insT;rw[List.find?_append,List.find?_append,List.find?_cons];by_cases hk:k=p
 ·subst hk;rw[if_pos rfl,List.find?_eq_none.2 (fun x hx=>by simpa using hm x hx)];simp
 ·rw[if_neg hk];have:decide ((v,p).2=k)=false:=zzdcf (fun q=>hk q.symm);rw[this]
theorem Q2y:(insT T v p).length=T.length+1:=by
 have:=congrArg List.length (Q1x T v);unfold insT;rw[zzlna] at this ⊢;rw[List.length_cons];omega
theorem TOk.ins(g:TOk T)(h1:fndO T v=none)(h2:hldO T p=none)(hr:256<=v /\ v<6400 /\ 0<=p /\ p<=1048576):TOk (insT T v p):=by
 have hp:List.Perm (insT T v p) ((v,p) :: T):=by
  unfold insT;refine List.perm_middle.trans ?_;rw[<-Q1x]
 refine⟨fun x hx=>?_,?_,?_⟩
 ·rcases List.mem_cons.1 (hp.mem_iff.1 hx)with rfl | q
  ·exact hr
  ·exact g.rng x q
 ·rw[(hp.map _).nodup_iff,List.map_cons,List.nodup_cons];refine⟨fun q=>?_,g.n1⟩;obtain⟨x,hx,e⟩:=List.mem_map.1 q;exact Q24 h1 x hx e
 ·rw[(hp.map _).nodup_iff,List.map_cons,List.nodup_cons];refine⟨fun q=>?_,g.n2⟩;obtain⟨x,hx,e⟩:=List.mem_map.1 q;exact Q1d h2 x hx e
end
def pgM(T:Tb):Int->Option Value:=fun k=>(fndO T k).map fun x=>.int .i64 x.2
def lcM(T:Tb):Int->Option Value:=fun k=>(hldO T k).map fun x=>.int .i64 x.1
theorem Qeq{T:Tb}{v p:Int}(h:fndO T v=none):upd (pgM T) v (some (.int .i64 p))=pgM (insT T v p):=by
 funext k;unfold upd pgM;rw[Q4m h];by_cases e:k=v
 ·rw[if_pos e,if_pos e];rfl
 ·rw[if_neg e,if_neg e]
theorem Qeb{T:Tb}{v p:Int}(h:hldO T p=none):upd (lcM T) p (some (.int .i64 v))=lcM (insT T v p):=by
 funext k;unfold upd lcM;rw[QbG h];by_cases e:k=p
 ·rw[if_pos e,if_pos e];rfl
 ·rw[if_neg e,if_neg e]
theorem uTM:Tryz.prog.underlying 48=some (.map 3 3):=by kernel_rfl
theorem uTI:Tryz.prog.underlying 3=some (.int .i64):=by kernel_rfl
theorem zTI(w:World):(zeroValue 3).run prog w=.ok (.int .i64 0) w:=by kernel_rfl
abbrev I64w(x:Int):Prop:=(Lit.int .i64 x).wf=true
theorem i64w{x:Int}(h0:-9223372036854775808<=x)(h1:x<=9223372036854775807):I64w x:=by
 show(Lit.int .i64 x).wf=true;simp[Lit.wf,IntKind.min,IntKind.max,IntKind.signed,IntKind.bits];omega
def ownT(tb m1 m2 j:Nat):Prop:=j=tb \/ j=m1 \/ j=m2
structure PT (w:World) (tb m1 m2:Nat) (T:Tb):Prop where
 head:w.heap[tb]? = some (.cells #[.map (some m1),.map (some m2)] 155 (0,0))
 pg:IMap w prog 3 .i64 m1 (pgM T) T.length
 lc:IMap w prog 3 .i64 m2 (lcM T) T.length
 d:tb ≠ m1 /\ tb ≠ m2 /\ m1 ≠ m2
 ok:TOk T
 few:T.length<=1000000
theorem PT.keep{F:Nat->Prop}{w w':World}{tb m1 m2:Nat}{T:Tb}(h:PT w tb m1 m2 T)(hm:Mod F w w')(hF:∀j,ownT tb m1 m2 j->¬F j):PT w' tb m1 m2 T:=
 ⟨hm.keep h.head (hF _ (.inl rfl)),h.pg.keep hm (hF _ (.inr (.inl rfl))),h.lc.keep hm (hF _ (.inr (.inr rfl))),h.d,h.ok,h.few⟩
theorem PT.ext{w w':World}{tb m1 m2:Nat}{T:Tb}(h:PT w tb m1 m2 T)(hm:Ext w w'):PT w' tb m1 m2 T:=h.keep hm (fun _ _ x=>x)
theorem PT.lt{w:World}{tb m1 m2:Nat}{T:Tb}(h:PT w tb m1 m2 T):∀j,ownT tb m1 m2 j->j<w.heap.size:=by
 rintro j (rfl | rfl | rfl)
 ·exact Q0i h.head
 ·exact h.pg.lt
 ·exact h.lc.lt
section
variable{w:World}{tb m1 m2:Nat}{T:Tb}
theorem Qcw(w:World){R:VW}(r:∀tb m1 m2 w',PT w' tb m1 m2 []->Ext w w'->(∀j,ownT tb m1 m2 j->w.heap.size<=j)->R ((zP tb)) w') :
  CS 164 #[] w R:=by
 constructor;refine vc20.ok ?_;unfold vc20;refine⟨some w.heap.size,w.alloc (.map #[] 0),run_makeMap _ w,?_⟩;have hE1:=Ext.alloc w (.map #[] 0);have hm1:IMap (w.alloc (.map #[] 0)) prog 3 .i64 w.heap.size (fun _=>none) 0:=IMap.made w prog 3 .i64;have hs1:(w.alloc (.map #[] 0)).heap.size=w.heap.size+1:=by simp
 generalize w.alloc (.map #[] 0)=w1 at hE1 hm1 hs1;refine⟨some w1.heap.size,w1.alloc (.map #[] 0),run_makeMap _ w1,?_⟩;have hE2:=Ext.alloc w1 (.map #[] 0);have hm2:IMap (w1.alloc (.map #[] 0)) prog 3 .i64 w1.heap.size (fun _=>none) 0:=IMap.made w1 prog 3 .i64;have hs2:(w1.alloc (.map #[] 0)).heap.size=w1.heap.size+1:=by simp
 generalize w1.alloc (.map #[] 0)=w2 at hE2 hm2 hs2;refine Q09 fun tb w3 hd hE3 hs3 _=>?_;have e1:pgM []=fun _=>none:=rfl;have e2:lcM []=fun _=>none:=rfl;refine r tb w.heap.size w1.heap.size w3 ⟨hd,?_,?_,⟨by omega,by omega,by omega⟩,⟨fun x hx=>(by cases hx),List.nodup_nil,List.nodup_nil⟩,Nat.zero_le _⟩ ((hE1.trans hE2).trans hE3) ?_
 ·rw[e1];exact(hm1.ext hE2).ext hE3
 ·rw[e2];exact hm2.ext hE3
 ·rintro j (rfl | rfl | rfl) <;> omega
theorem Q7h{b:Nat}{f:Int->Option Value}{sz:Nat}(h:IMap w prog 3 .i64 b f sz){k:Int}(hk:I64w k){x:Option Int}(hf:f k=x.map fun y=>.int .i64 y){R:VW}
  (r:R (.int .i64 (x.getD (-1))) w):CS 92 #[.map (some b),.int .i64 k] w R:=by
 constructor;refine vc7.ok ?_;unfold vc7;have lk:=h.look_ok uTI uTM (zTI w) hk;rw[hf] at lk;cases x with
 | none=>exact⟨_,_,_,lk,Q00 rfl r⟩
 | some y=>exact⟨_,_,_,lk,Q03 rfl r⟩
theorem PT.find(h:PT w tb m1 m2 T){v:Int}(hv:I64w v){R:VW}(r:R (.int .i64 (fnd T v)) w):CS 48 #[zP tb,.int .i64 v] w R:=by
 constructor;refine vc4.ok ?_;unfold vc4;refine Q00 rfl ⟨_,by rw[Q02];exact Q01 h.head rfl,Q7h h.pg hv (x:=(fndO T v).map (·.2)) (by unfold pgM;cases fndO T v <;> rfl) ⟨_,rfl,?_⟩⟩;have e:((fndO T v).map (·.2)).getD (-1)=fnd T v:=by unfold fnd;cases fndO T v <;> rfl
 rw[e];exact r
theorem PT.holder(h:PT w tb m1 m2 T){v:Int}(hv:I64w v){R:VW}(r:R (.int .i64 (hld T v)) w):CS 221 #[zP tb,.int .i64 v] w R:=by
 constructor;refine vc41.ok ?_;unfold vc41;refine Q00 rfl ⟨_,by rw[Q02];exact Q01 h.head rfl,Q7h h.lc hv (x:=(hldO T v).map (·.1)) (by unfold lcM;cases hldO T v <;> rfl) ⟨_,rfl,?_⟩⟩;have e:((hldO T v).map (·.1)).getD (-1)=hld T v:=by unfold hld;cases hldO T v <;> rfl
 rw[e];exact r
abbrev mayM(v p:Int):Prop:=256<=v /\ v<6400 /\ 0<=p /\ p<=1048576
def mapE(T:Tb)(v p:Int):Int:=if mayM v p then(if 0<=fnd T v \/ 0<=hld T p then 7 else 0)else 12
def mapT(T:Tb)(v p:Int):Tb:=if mapE T v p=0 then insT T v p else T
theorem QbV(T:Tb)(v p:Int):(mapT T v p).length<=T.length+1:=by
 unfold mapT;split
 ·rw[Q2y];exact Nat.le_refl _
 ·omega
theorem PT.map(h:PT w tb m1 m2 T)(hl:T.length<1000000)(v p:Int){R:VW}
  (r:∀w',PT w' tb m1 m2 (mapT T v p)->Mod (ownT tb m1 m2) w w'->R (.int .i64 (mapE T v p)) w') :
  CS 249 #[zP tb,.int .i64 v,.int .i64 p] w R:=by
 constructor;refine vc54.ok ?_;unfold vc54;have out:¬mayM v p->R (.int .i64 12) w:=fun q=>by
  have e:mapE T v p=12:=if_neg q;have e2:mapT T v p=T:=by unfold mapT;rw[e];rfl
  have:=r w (by rw[e2];exact h) (Mod.refl _ _);rw[e] at this;exact this
 have bad:mayM v p->0<=fnd T v \/ 0<=hld T p->R (.int .i64 7) w:=fun q1 q2=>by
  have e:mapE T v p=7:=by unfold mapE;rw[if_pos q1,if_pos q2]
  have e2:mapT T v p=T:=by unfold mapT;rw[e];rfl
  have:=r w (by rw[e2];exact h) (Mod.refl _ _);rw[e] at this;exact this
 refine Q00 rfl (ifD (fun q=>out fun x=>by omega) (fun q1=>ifD (fun q=>out fun x=>by omega) (fun q2=>ifD (fun q=>out fun x=>by omega) (fun q3=>ifD (fun q=>out fun x=>by omega) (fun q4=>?_)))));have may:mayM v p:=⟨by omega,by omega,by omega,by omega⟩;refine h.find (i64w (by omega) (by omega)) ⟨_,rfl,ifD (fun q=>bad may (.inl q)) (fun q5=>h.holder (i64w (by omega) (by omega)) ⟨_,rfl,ifD (fun q=>bad may (.inr q)) (fun q6=>?_)⟩)⟩;have hf:fndO T v=none:=by
  cases hx:fndO T v with
  | none=>rfl
  | some x=>exact absurd ((Q6j h.ok).2 (by rw[hx];rfl)) q5
 have hh:hldO T p=none:=by
  cases hx:hldO T p with
  | none=>rfl
  | some x=>exact absurd ((Qe4 h.ok).2 (by rw[hx];rfl)) q6
 have e:mapE T v p=0:=by unfold mapE;rw[if_pos may,if_neg (fun x=>x.elim q5 q6)]
 have e2:mapT T v p=insT T v p:=by unfold mapT;rw[if_pos e]
 rw[e,e2] at r;refine⟨vc42.ok ?_⟩;unfold vc42;rintro w0 rfl;have hE0:=Ext.drew w;have h0:=h.ext hE0;obtain⟨d1,d2,d3⟩:=h.d;have hv:I64w v:=i64w (by omega) (by omega);have hp:I64w p:=i64w (by omega) (by omega);obtain⟨w1,st1,r1,m1',s1,w2,r2,i2,mm2,s2⟩:=h0.pg.entry_new uTI uTM (by simp only[maxLen];omega) zTI hv (by unfold pgM;rw[hf];rfl) (.int .i64 p);have lc2:=(h0.lc.keep m1' (fun e=>d3 e.symm)).keep mm2 (fun e=>d3 e.symm);obtain⟨w3,st3,r3,m3',s3,w4,r4,i4,mm4,s4⟩:=lc2.entry_new uTI uTM (by simp only[maxLen];omega) zTI hp (by unfold lcM;rw[hh];rfl) (.int .i64 v);rw[Qeq hf] at i2;rw[Qeb hh] at i4;have hd4:=mm4.keep (m3'.keep (mm2.keep (m1'.keep h0.head d1) d1) d2) d2;refine⟨_,by rw[Q02];exact Q01 h0.head rfl,_,by rw[Q02];exact Q01 h0.head rfl,_,_,w1,r1,w2,r2,_,_,w3,r3,w4,r4,rfl,?_⟩;have hm:Mod (ownT tb m1 m2) w w4:=by
  have a1:=Mod.trans (hE0.mod (F:=ownT tb m1 m2)) m1' (fun j _ e=>.inr (.inl e));have a2:=Mod.trans a1 mm2 (fun j _ e=>.inr (.inl e));have a3:=Mod.trans a2 m3' (fun j _ e=>.inr (.inr e));exact Mod.trans a3 mm4 (fun j _ e=>.inr (.inr e))
 exact r w4 ⟨hd4,by rw[Q2y];exact(i2.keep m3' d3).keep mm4 d3,by rw[Q2y];exact i4,h.d,h.ok.ins hf hh may,by rw[Q2y];omega⟩ hm
abbrev Win(addr n:Int):Prop:=0<=n /\ 131072<=addr /\ addr<=3276800 /\ n<=3276800-addr
theorem Q8H(addr n:Int)(w:World){R:VW}(r:R (.bool (decide (Win addr n))) w):CS 258 #[.int .i64 addr,.int .i64 n] w R:=by
 constructor;refine vc61.ok ?_;unfold vc61;have no:¬Win addr n->R (.bool false) w:=fun q=>by rw[zzdcf q] at r;exact r
 refine ifD (fun h1=>ifD (fun h2=>ifD (fun h3=>?_) (fun q=>no fun x=>q x.2.2.1)) (fun q=>no fun x=>q x.2.1)) (fun q=>no fun x=>q x.1);rw[Q04 (by omega) (by omega)];have e:decide (n<=3276800-addr)=decide (Win addr n):=decide_eq_decide.2 ⟨fun x=>⟨by omega,by omega,by omega,by omega⟩,fun x=>x.2.2.2⟩;rw[e];exact r
theorem Qep{a:Nat}(h0:131072<=a)(h1:a<3276800)(w:World){R:VW}(r:R (.tuple #[.complex .f64 (flt (a / 512)) (flt (a % 512)),.int .i64 0]) w) :
  CS 259 #[.int .i64 (a:Int)] w R:=by
 have e1:IntKind.i64.wrap ((a:Int).tdiv 512)=((a / 512:Nat):Int):=by
  rw[show((a:Int).tdiv 512)=((a / 512:Nat):Int)from(Int.ofNat_tdiv a 512).symm,Q04 (by omega) (by omega)]
 have e2:(a:Int).tmod 512=((a % 512:Nat):Int):=(Int.ofNat_tmod a 512).symm;have q1:¬((a:Int)<131072):=by omega
 have q2:¬((a:Int)>=3276800):=by omega
 generalize(a:Int)=x at *
 constructor;refine vc62.ok ?_;unfold vc62;refine Q0y q1 (Q0y q2 ⟨by decide,by decide,?_⟩);rw[e1,e2];exact⟨_,_,w,rfl,r⟩
theorem Q2T{n:Nat}(h:n<9007199254740992)(w:World):(convert 220 3 (.float .f64 (flt n))).run prog w=.ok (.int .i64 (n:Int)) w:=by
 refine run_convert_float_int w _ _ _ _ _ _ (by kernel_rfl) (by kernel_rfl) ?_;unfold floatToIntVal;rw[Q5l h];simp only;rw[if_pos];simp only[IntKind.min,IntKind.max,IntKind.signed,IntKind.bits];omega
end
end
section
open Go.RowKit
theorem Q0z{X Y:Type}{f:X->Y}:∀ {l:List X} {x y:X},(l.map f).Nodup->x ∈ l->y ∈ l->f x=f y->x=y
 | [],_,_,_,h,_,_=>by cases h
 | z :: l,x,y,hn,hx,hy,e=>by
  rw[List.map_cons,List.nodup_cons] at hn;by_cases h1:x=z
  ·by_cases h2:y=z
   ·rw[h1,h2]
   ·have hy:y ∈ l:=(List.mem_cons.1 hy).resolve_left h2;exact absurd (List.mem_map.2 ⟨y,hy,by rw[<-e,h1]⟩) hn.1
  ·have hx:x ∈ l:=(List.mem_cons.1 hx).resolve_left h1;by_cases h2:y=z
   ·exact absurd (List.mem_map.2 ⟨x,hx,by rw[e,h2]⟩) hn.1
   ·exact Q0z hn.2 hx ((List.mem_cons.1 hy).resolve_left h2) e
abbrev Pc:=Nat × Nat
def bump:List Pc->List Pc
 | []=>[]
 | [x]=>[(x.1,x.2+1)]
 | x :: y :: l=>x :: bump (y :: l)
theorem Q1t:∀(l:List Pc)(x:Pc),bump (l++[x])=l++[(x.1,x.2+1)]
 | [],x=>rfl
 | [y],x=>rfl
 | y :: z :: l,x=>by
  have:=Q1t (z :: l) x;simp only[List.cons_append] at this ⊢;simp only[bump,this]
def pcs(T:Tb)(a:Nat):Nat->Option (List Pc)
 | 0=>some []
 | k+1=>match pcs T a k with
  | none=>none
  | some l=>if fnd T (((a+k) / 512:Nat):Int)<0 then none else
    if k=0 \/ (a+k) % 512=0 then some (l++[((fnd T (((a+k) / 512:Nat):Int)).toNat*512+(a+k) % 512,1)])else some (bump l)
section
variable{T:Tb}{a k m:Nat}{l:List Pc}
theorem Q9Z(h:pcs T a k=some l)(hf:fnd T (((a+k) / 512:Nat):Int)<0):pcs T a (k+1)=none:=by
 simp only[pcs,h];rw[if_pos hf]
theorem Qa0(h:pcs T a k=some l)(hf:0<=fnd T (((a+k) / 512:Nat):Int))(hk:k=0 \/ (a+k) % 512=0):pcs T a (k+1)=some (l++[((fnd T (((a+k) / 512:Nat):Int)).toNat*512+(a+k) % 512,1)]):=by
 simp only[pcs,h];rw[if_neg (by omega),if_pos hk]
theorem Qd8(h:pcs T a k=some l)(hf:0<=fnd T (((a+k) / 512:Nat):Int))(hk:¬(k=0 \/ (a+k) % 512=0)):pcs T a (k+1)=some (bump l):=by
 simp only[pcs,h];rw[if_neg (by omega),if_neg hk]
theorem Q7w(h:pcs T a k=none):∀m,pcs T a (k+m)=none
 | 0=>h
 | m+1=>by
  show pcs T a ((k+m)+1)=none;simp only[pcs,Q7w h m]
theorem Q5x(h:pcs T a k=some l)(hf:0<=fnd T (((a+k) / 512:Nat):Int))(hk:k=0 \/ (a+k) % 512=0):∀m,m+1<=512-(a+k) % 512 →
  pcs T a (k+(m+1))=some (l++[((fnd T (((a+k) / 512:Nat):Int)).toNat*512+(a+k) % 512,m+1)])
 | 0,_=>Qa0 h hf hk
 | m+1,hm=>by
  have ih:=Q5x h hf hk m (by omega);have e1:(a+(k+(m+1))) / 512=(a+k) / 512:=by omega
  have:=Qd8 ih (by rw[e1];exact hf) (by omega);rw[Q1t] at this;exact this
theorem Q6T:∀l:List Pc,(bump l).length=l.length
 | []=>rfl
 | [x]=>rfl
 | x :: y :: l=>by simp only[bump,List.length_cons,Q6T (y :: l)]
theorem Q4F:∀ {k:Nat} {l:List Pc},pcs T a k=some l->l.length<=k
 | 0,l,h=>by simp only[pcs,Option.some.injEq] at h;subst h;simp
 | k+1,l,h=>by
  simp only[pcs] at h;split at h
  ·cases h
  ·rename_i l' hl;have:=Q4F hl;split at h
   ·cases h
   split at h
   ·cases h;simp;omega
   ·cases h;rw[Q6T];omega
def phys(T:Tb)(x:Nat):Nat:=(fnd T ((x / 512:Nat):Int)).toNat*512+x % 512
def flat(l:List Pc):List Nat:=l.flatMap fun s=>List.range' s.1 s.2
theorem Q1R(l m:List Pc):flat (l++m)=flat l++flat m:=by simp[flat]
theorem Q9e(l:List Pc)(x:Pc):flat (bump (l++[x]))=flat (l++[x])++[x.1+x.2]:=by
 rw[Q1t,Q1R,Q1R,List.append_assoc];congr 1;simp only[flat,List.flatMap_cons,List.flatMap_nil,List.append_nil];rw[List.range'_1_concat]
structure PcsOk (T:Tb) (a k:Nat) (l:List Pc):Prop where
 flat:flat l=(List.range k).map fun j=>phys T (a+j)
 pos:∀s ∈ l,1<=s.2 /\ s.1 % 512+s.2<=512 /\ ∃j,j<k /\ 0<=fnd T (((a+j) / 512:Nat):Int) /\ s.1 / 512=(fnd T (((a+j) / 512:Nat):Int)).toNat
 last:k ≠ 0->∃l' x,l=l'++[x] /\ x.1+x.2=phys T (a+(k-1))+1
 all:∀j,j<k->0<=fnd T (((a+j) / 512:Nat):Int)
theorem Q7x:∀ {k:Nat} {l:List Pc},pcs T a k=some l->PcsOk T a k l
 | 0,l,h=>by
  simp only[pcs,Option.some.injEq] at h;subst h;exact⟨rfl,fun s hs=>(by cases hs),fun x=>absurd rfl x,fun j hj=>absurd hj (Nat.not_lt_zero _)⟩
 | k+1,l,h=>by
  cases hl:pcs T a k with
  | none=>simp only[pcs,hl] at h;cases h
  | some l'=>
   have ih:=Q7x hl;by_cases hf:fnd T (((a+k) / 512:Nat):Int)<0
   ·rw[Q9Z hl hf] at h;cases h
   have hf:0<=fnd T (((a+k) / 512:Nat):Int):=by omega
   have all:∀j,j<k+1->0<=fnd T (((a+j) / 512:Nat):Int):=fun j hj=>by
    by_cases e:j=k
    ·subst e;exact hf
    ·exact ih.all j (by omega)
   by_cases hk:k=0 \/ (a+k) % 512=0
   ·rw[Qa0 hl hf hk,Option.some.injEq] at h;subst h;refine⟨?_,fun s hs=>?_,fun _=>⟨l',_,rfl,?_⟩,all⟩
    ·rw[Q1R,ih.flat,List.range_succ,List.map_append];rfl
    ·rcases zzmpd.1 hs with hs | hs
     ·obtain⟨p1,p2,j,p3,p4⟩:=ih.pos s hs;exact⟨p1,p2,j,by omega,p4⟩
     ·rw[List.mem_singleton] at hs;subst hs;refine⟨Nat.le_refl _,by show(_*512+(a+k) % 512) % 512+1<=512;omega,k,by omega,hf,by show(_*512+(a+k) % 512) / 512=_;omega⟩
    ·show(_*512+(a+k) % 512)+1=phys T (a+(k+1-1))+1;rw[Nat.add_sub_cancel];rfl
   ·rw[Qd8 hl hf hk,Option.some.injEq] at h;subst h;obtain⟨l0,x,e,hx⟩:=ih.last (fun e=>hk (.inl e));have hk0:k ≠ 0:=fun e=>hk (.inl e);have hm:(a+k) % 512 ≠ 0:=fun e=>hk (.inr e);have e1:(a+(k-1)) / 512=(a+k) / 512:=by omega
    have e2:phys T (a+(k-1))+1=phys T (a+k):=by
     unfold phys;rw[e1];omega
    subst e;refine⟨?_,fun s hs=>?_,fun _=>?_,all⟩
    ·rw[Q9e,ih.flat,List.range_succ,List.map_append,hx,e2];rfl
    ·rw[Q1t] at hs;rcases zzmpd.1 hs with hs | hs
     ·obtain⟨p1,p2,j,p3,p4⟩:=ih.pos s (zzmal _ hs);exact⟨p1,p2,j,by omega,p4⟩
     ·rw[List.mem_singleton] at hs;subst hs;obtain⟨p1,p2,j,p3,p4,p5⟩:=ih.pos x (by simp);refine⟨by show 1<=x.2+1;omega,?_,j,by omega,p4,p5⟩;show x.1 % 512+(x.2+1)<=512;unfold phys at hx;omega
    ·refine⟨l0,(x.1,x.2+1),Q1t _ _,?_⟩;rw[Nat.add_sub_cancel,<-e2,<-hx];show x.1+(x.2+1)=_;omega
theorem Q5j:∀(l:List Pc),(flat l).length=(l.map (·.2)).sum
 | []=>rfl
 | s :: l=>by
  have:=Q5j l;simp only[flat,List.flatMap_cons,zzlna,List.length_range',List.map_cons,List.sum_cons] at this ⊢;rw[this]
end
end
section
open Go.RowKit Go.Maps
def spT(l:List Pc):List Tch:=l.map fun s=>((s.1:Int),(s.2:Int),false)
theorem Q1W(l:List Pc):(spT l).length=l.length:=by simp[spT]
theorem Q4O{l:List Pc}{i:Nat}{s:Pc}(h:l[i]? = some s):(spT l)[i]? = some ((s.1:Int),(s.2:Int),false):=by simp[spT,h]
def pcsE(T:Tb)(addr n:Int):Option (List Pc):=if Win addr n then pcs T addr.toNat n.toNat else none
def inA(size:Nat)(l:List Pc):Bool:=l.all fun s=>decide (s.1<=size /\ s.2<=size-s.1)
def vpc(T:Tb)(size:Nat)(addr n:Int):Option (List Pc):=match pcsE T addr n with | none=>none | some l=>cond (inA size l) (some l) none
theorem Q3w{T:Tb}{addr n:Int}{l:List Pc}(h:pcsE T addr n=some l):∃a k:Nat,addr=a /\ n=k /\ 131072<=a /\ a+k<=3276800 /\ pcs T a k=some l:=by
 unfold pcsE at h;split at h
 ·rename_i q;exact⟨addr.toNat,n.toNat,by omega,by omega,by omega,by omega,h⟩
 ·cases h
theorem Q82{T:Tb}{size:Nat}{addr n:Int}{l:List Pc}(h:vpc T size addr n=some l):pcsE T addr n=some l /\ ∀s ∈ l,s.1<=size /\ s.2<=size-s.1:=by
 unfold vpc at h;split at h
 ·cases h
 ·rename_i l' e;cases hi:inA size l' with
  | false=>rw[hi] at h;cases h
  | true=>
   rw[hi] at h;obtain rfl:l'=l:=Option.some.inj h;refine⟨e,fun s hs=>?_⟩;have:=List.all_eq_true.1 hi s hs;simpa using this
section
variable{w w':World}{tb m1 m2:Nat}{T:Tb}
theorem PT.pieces(h:PT w tb m1 m2 T)(addr n:Int){R:VW}
  (r0:pcsE T addr n=none->∀w',Ext w w'->R (.tuple #[.slice none 0 0,.int .i64 4]) w')
  (r1:∀l q c w',pcsE T addr n=some l->TRow w' (.slice q l.length c) (spT l)->Ext w w'->(∀j,(Value.slice q l.length c).ownBlock=some j->w.heap.size<=j)->R (.tuple #[.slice q l.length c,.int .i64 0]) w') :
  CS 239 #[zP tb,.int .i64 addr,.int .i64 n] w R:=by
 constructor;refine vc50.ok ?_;unfold vc50;refine Q00 rfl (Q8H addr n w ⟨_,rfl,?_⟩);by_cases hW:Win addr n
 case neg=>
  rw[zzdcf hW];exact Q03 rfl (r0 (if_neg hW) w (Mod.refl _ _))
 rw[decide_eq_true hW];refine Q00 rfl ?_;have eP:pcsE T addr n=pcs T addr.toNat n.toNat:=if_pos hW;rw[eP] at r0 r1;obtain⟨a,rfl⟩:=zzeoz (show 0<=addr by omega);obtain⟨N,rfl⟩:=zzeoz hW.1;rw[zztnc,zztnc] at r0 r1;refine⟨fun f i6 i7 q c1 c2 w1=>∃(k:Nat)(l:List Pc),i6=((a+k:Nat):Int) /\ i7=((N-k:Nat):Int) /\ f+k=N /\ pcs T a k=some l /\ (k=0 \/ (a+k) % 512=0 \/ k=N) /\ c1=l.length /\ TRow w1 (.slice q l.length c2) (spT l) /\ Ext w w1 /\
  ∀j,(Value.slice q l.length c2).ownBlock=some j->w.heap.size<=j,⟨N,0,[],by omega,by omega,by omega,rfl,.inl rfl,rfl,TRow.nil _,Mod.refl _ _,fun j hj=>by simp[Value.ownBlock] at hj⟩,?_⟩
 rintro f jv i6 i7 q c1 c2 w1 ⟨k,l,rfl,rfl,hf,hp,hk,rfl,row,hE,hown⟩;refine ifD (fun hgt=>?_) (fun hle=>?_)
 ·have hkN:k<N:=by omega
  have hk':k=0 \/ (a+k) % 512=0:=by omega
  have hq:(a+k) / 512<6400:=by omega
  refine Qep (by omega) (by omega) w1 ⟨_,_,_,rfl,_,w1,rfl,_,w1,Q2T (by omega) w1,?_⟩;have h1:=h.ext hE;refine h1.find (i64w (by omega) (by omega)) ⟨_,rfl,?_⟩;refine ifD (fun hneg=>?_) (fun hpos=>?_)
  ·have:=Q7w (Q9Z hp hneg) (N-(k+1));rw[show k+1+(N-(k+1))=N by omega] at this;exact r0 this w1 hE
  ·have hpos:0<=fnd T (((a+k) / 512:Nat):Int):=by omega
   obtain⟨x,hx⟩:=zzise.1 ((Q6j h.ok).1 hpos);have efx:fnd T (((a+k) / 512:Nat):Int)=x.2:=by unfold fnd;rw[hx]
   have rx:=h.ok.rng x (Q0a hx).1;obtain⟨p,hpn⟩:=zzeoz hpos;have hp20:p<=1048576:=by omega
   obtain⟨m,hm⟩:∃m:Nat,m+1=min (N-k) (512-(a+k) % 512):=⟨min (N-k) (512-(a+k) % 512)-1,by omega⟩;have emin:(if IntKind.i64.wrap (512-(((a+k) % 512:Nat):Int))<((N-k:Nat):Int)then IntKind.i64.wrap (512-(((a+k) % 512:Nat):Int))else((N-k:Nat):Int))=((m+1:Nat):Int):=by
    rw[Q04 (by omega) (by omega)];split <;> omega
   have eat:IntKind.i64.wrap (IntKind.i64.wrap (fnd T (((a+k) / 512:Nat):Int)*512)+(((a+k) % 512:Nat):Int))=((p*512+(a+k) % 512:Nat):Int):=by
    rw[hpn,Q04 (n:=(p:Int)*512) (by omega) (by omega),Q04 (by omega) (by omega)];omega
   refine⟨_,w1,rfl,_,w1,Q2T (by omega) w1,_,w1,run_min_int2 w1 _ _ _ _ _ _,?_⟩;rw[emin,eat];refine Q09 fun b w2 hb hE2 hs2 _=>?_;have row2:=row.keep hE2 (fun _ _ x=>x);obtain⟨v',w3,hr,row3,hm3,hown3⟩:=Q5G (t:=(((p*512+(a+k) % 512:Nat):Int),((m+1:Nat):Int),false)) (a:=⟨b,0,none⟩) (c:=1) row2 (Q08 hb) (by rw[Q1W];have:=Q4F hp;omega);have hch:=Q5x hp hpos hk' m (by omega);rw[hpn,zztnc] at hch;have esp:spT l++[(((p*512+(a+k) % 512:Nat):Int),((m+1:Nat):Int),false)]=spT (l++[(p*512+(a+k) % 512,m+1)]):=by simp[spT]
   rw[esp] at row3;obtain⟨q3,c3,rfl⟩:=row3.shape;rw[Q1W] at row3 hown3;rw[Q1W] at hr;refine⟨q3,_,c3,w3,hr,N-(k+(m+1)),by omega,k+(m+1),_,?_,?_,by omega,hch,by omega,rfl,row3,(hE.trans hE2).new hm3 (fun j hj=>hown j hj),fun j hj=>?_⟩
   ·rw[Q04 (by omega) (by omega)];omega
   ·rw[Q04 (by omega) (by omega)];omega
   ·rcases hown3 j hj with z | z
    ·exact hown j z
    ·have:=hE.size;have:=hE2.size;omega
 ·have hkN:k=N:=by omega
  subst hkN;exact r1 l q c2 w1 hp row hE hown
theorem Ar.sizeC{F:Nat->Prop}{p:Nat}{bs:List UInt8}{ts:List Tch}(h:Ar w 125 p F bs ts){R:VW}(r:R (.int .i64 (bs.length:Int)) w):CS 240 #[zP p] w R:=by
 refine .of (size_any h) ?_;rintro v w1 ⟨rfl,rfl⟩;exact r
theorem Q1p{ap:Nat}{F:Nat->Prop}{bs:List UInt8}{ts:List Tch}(ha:Ar w 125 ap F bs ts)(h:PT w tb m1 m2 T)(addr n:Int){R:VW}
  (r0:vpc T bs.length addr n=none->∀w',Ext w w'->R (.tuple #[.slice none 0 0,.int .i64 4]) w')
  (r1:∀l q c w',vpc T bs.length addr n=some l->TRow w' (.slice q l.length c) (spT l)->Ext w w'->(∀j,(Value.slice q l.length c).ownBlock=some j->w.heap.size<=j)->R (.tuple #[.slice q l.length c,.int .i64 0]) w') :
  CS 189 #[zP ap,zP tb,.int .i64 addr,.int .i64 n] w R:=by
 have hsm:=ha.small;constructor;refine vc26.ok ?_;unfold vc26;refine Q00 rfl (Q00 rfl (h.pieces addr n (fun e w1 hE1=>?_) (fun l q c w1 e row hE1 hown=>?_)))
 ·refine⟨_,_,_,_,rfl,fun _ i w2=>i=0 /\ Ext w w2,⟨0,rfl,hE1⟩,?_⟩;rintro _ _ _ w2 ⟨rfl,hE2⟩;exact Q0y (by decide) (r0 (by unfold vpc;rw[e]) w2 hE2)
 ·obtain⟨a,k,ea,ek,ha0,hak,hpc⟩:=Q3w e;have hlen:=Q4F hpc;have hok:=Q7x hpc;have sml:∀s ∈ l,s.1<=1048577*512 /\ s.2<=512:=fun s hs=>by
   obtain⟨p1,p2,j,p3,p4,p5⟩:=hok.pos s hs;obtain⟨x,hx⟩:=zzise.1 ((Q6j h.ok).1 p4);have efx:fnd T (((a+j) / 512:Nat):Int)=x.2:=by unfold fnd;rw[hx]
   have rx:=h.ok.rng x (Q0a hx).1;rw[efx] at p5;omega
  refine⟨_,_,_,_,rfl,fun f i w2=>∃j:Nat,i=(j:Int) /\ f+j=l.length /\ Ext w1 w2 /\ ∀s ∈ l.take j,s.1<=bs.length /\ s.2<=bs.length-s.1,⟨l.length,0,rfl,by omega,Mod.refl _ _,fun s hs=>by simp at hs⟩,?_⟩;rintro f jv i w2 ⟨j,rfl,hf,hE2,hall⟩;have bad:∀ {s:Pc} {w3:World},l[j]? = some s->¬(s.1<=bs.length /\ s.2<=bs.length-s.1)->Ext w1 w3->R (.tuple #[.slice none 0 0,.int .i64 4]) w3:=fun {s w3} hs hb hE3=>by
   refine r0 ?_ w3 (hE1.trans hE3);unfold vpc;rw[e];have:inA bs.length l=false:=by
    cases hi:inA bs.length l with
    | false=>rfl
    | true=>
     have:=List.all_eq_true.1 hi s (zzmog hs);exact absurd (by simpa using this) hb
   simp only[this,cond_false]
  refine ifD (fun hj=>⟨by omega,by omega,?_⟩) (fun hj=>?_)
  ·have hj:j<l.length:=by omega
   obtain⟨s,hs⟩:∃s,l[j]? = some s:=⟨_,zzgge hj⟩;have hs20:=sml s (zzmog hs);have row2:=row.keep hE2 (fun _ _ x=>x);rw[<-Q1W l] at row2;obtain⟨x,rfl,hc⟩:=row2.cells (Q4O hs);rw[zztnc];refine⟨_,_,_,hc,Q09 fun b w3 hb hE3 hs3 _=>?_⟩;refine Q0e (n:=3) hb (by simp) fun w4 hb4 hm4 hs4=>?_;have hE4:Ext w2 w4:=hE3.new hm4 (fun k hk=>by subst hk;omega);rintro w5 rfl;have hE5:=hE4.trans (Ext.drew w4);have hb5:w4.drew.heap[b]? = some (.cells #[.int .i64 (s.1:Int),.int .i64 (s.2:Int),.bool false] 47 (0,0)):=hb4;have c0:w4.drew.cell? ((zA b).add 0)=some (.int .i64 (s.1:Int)):=by rw[Q02];exact Q01 hb5 rfl
   have c1:w4.drew.cell? ((zA b).add 1)=some (.int .i64 (s.2:Int)):=by rw[Q02];exact Q01 hb5 rfl
   have ha5:=ha.keep ((hE1.trans hE2).trans hE5) (fun _ _ x=>x);refine⟨_,c0,ha5.sizeC ⟨_,rfl,⟨_,c0,rfl⟩,?_⟩⟩;refine ifD (fun hgt=>⟨rfl,rfl,rfl,bad hs (fun q=>by omega) (hE2.trans hE5)⟩) (fun hle=>⟨_,c1,_,c0,ha5.sizeC ⟨_,rfl,⟨_,c0,rfl⟩,⟨_,c1,rfl⟩,rfl,?_⟩⟩);rw[Q04 (n:=(bs.length:Int)-(s.1:Int)) (by omega) (by omega)];refine ifD (fun hgt=>bad hs (fun q=>by omega) (hE2.trans hE5)) (fun hle2=>⟨f-1,by omega,j+1,?_,by omega,hE2.trans hE5,fun u hu=>?_⟩)
   ·rw[Q04 (by omega) (by omega)];omega
   ·rw[List.take_add_one,hs] at hu;rcases zzmpd.1 hu with hu | hu
    ·exact hall u hu
    ·simp at hu;subst hu;omega
  ·have hjl:j=l.length:=by omega
   subst hjl;rw[List.take_length] at hall;refine r1 l q c w2 ?_ (row.keep hE2 (fun _ _ x=>x)) (hE1.trans hE2) hown;unfold vpc;rw[e];have:inA bs.length l=true:=List.all_eq_true.2 fun s hs=>by simpa using hall s hs
   simp only[this,cond_true]
end
end
section
open Go.RowKit Go.Lib
theorem Q8n(w:World)(g n:Nat):Mod (· = g) w (w.freeze ⟨g,0,none⟩ n):=by
 unfold World.freeze;split
 ·exact Mod.refl _ _
 ·refine⟨rfl,rfl,rfl,by simp,fun k _ hk=>?_⟩;simp only[Array.getElem?_modify];rw[if_neg (fun e=>hk e.symm)]
theorem Q87{P:Program}{w w':World}{t u ty e:TypeId}{i:TypeInfo}{v v':Value}{n:Nat}{xs:List Value}{s:ByteArray}(hown:w.ownsRow 0 e 1 v n xs)(hi:P.info? e=some i)(hz:i.zero=some (.int .u8 0))
  (hsize:i.size=1) (hby:i.bytes=1) (ht:P.underlying t=some (.slice e)) (hu:P.underlying u=some .string) (hbytes:n+s.size<=140737488355328)
  (hr:(Builtin.append_ #[t,u] ty #[v,.string s]).run P w=.ok v' w'):∀k,v'.ownBlock=some k->v.ownBlock=some k \/ w.heap.size<=k:=by
 intro k hk;rcases hown.2 with⟨rfl,rfl⟩ | ⟨g,cap,cur,rfl,hbg,hg,hnc,hcm,hcs,htake⟩
 ·by_cases hm:s.size=0
  ·have hf:=run_firstCells_string (P:=P) w 1 s;rw[hm] at hf;have:(Builtin.append_ #[t,u] ty #[.slice none 0 0,.string s]).run P w=.ok (.slice none 0 0) w:=by
    simp[Builtin.append_,run_underlying ht,run_underlying hu,sizeOf,typeInfo,hi,hsize,Builtin.lenOf,hm,hf]
   rw[this] at hr
   injection hr with hr
   subst hr;simp[Value.ownBlock] at hk
  ·rw[run_append_nil_string (P:=P) w t u ty e i (.int .u8 0) ht hu hi hz s (by omega) (by omega) (by rw[hby];omega)] at hr
   injection hr with hr
   subst hr;simp[Value.ownBlock] at hk;exact .inr (by omega)
 ·have hxl:xs.length=n:=by simpa using hown.1
  by_cases hroom:n+s.size<=cap
  ·have hcs':cur.size=cap:=by simpa using hcs
   rw[run_append_room_string (P:=P) w t u ty e i ht hu hi hsize g n cap cur hg s hroom (by omega)] at hr
   injection hr with hr
   subst hr;exact .inl (by simpa [Value.ownBlock] using hk)
  ·have holds:∀j u,xs[j]? = some u->w.cell? ((⟨g,0,none⟩:Addr).add j)=some u:=hown.cells (g:=g) rfl;rw[run_append_grow_string (P:=P) w t u ty e i (.int .u8 0) ht hu hi hz ⟨g,0,none⟩ n cap xs (by rw[hsize];simpa using hxl) holds s (by omega) (by omega) (by rw[hby];exact growslice_fits (by omega) (by omega))] at hr
   injection hr with hr
   subst hr;simp[Value.ownBlock] at hk;exact .inr (by omega)
def BB(w:World)(bb:Nat)(v:Value)(bs:List UInt8):Prop:=
 ∃p:Option Addr,w.heap[bb]? = some (.cells #[.pointer p,v] 245 (0,0)) /\ (p=none \/ p=some ⟨bb,0,none⟩) /\ w.ownsRow 0 5 1 v bs.length (bC bs) /\ v.ownBlock ≠ some bb
def fpB(bb:Nat)(v:Value)(k:Nat):Prop:=k=bb \/ v.ownBlock=some k
theorem Q1y{F:Nat->Prop}{w w':World}{e:TypeId}{k n:Nat}{v:Value}{xs:List Value}(h:w.ownsRow 0 e k v n xs)(hm:Mod F w w')(hF:∀k,v.ownBlock=some k->¬F k):w'.ownsRow 0 e k v n xs:=by
 refine⟨h.1,?_⟩;rcases h.2 with hn | ⟨g,cap,cur,rfl,hb,hgg,rest⟩
 ·exact .inl hn
 ·exact .inr ⟨g,cap,cur,rfl,hb,hm.keep hgg (hF g rfl),rest⟩
section
variable{w w':World}{bb:Nat}{v:Value}{bs:List UInt8}
theorem BB.keep{F:Nat->Prop}(h:BB w bb v bs)(hm:Mod F w w')(hF:∀k,fpB bb v k->¬F k):BB w' bb v bs:=by
 obtain⟨p,hd,hp,row,hne⟩:=h;exact⟨p,hm.keep hd (hF bb (.inl rfl)),hp,Q1y row hm (fun k hk=>hF k (.inr hk)),hne⟩
theorem BB.lt(h:BB w bb v bs):∀k,fpB bb v k->k<w.heap.size:=by
 obtain⟨p,hd,hp,row,hne⟩:=h;rintro k (rfl | hk)
 ·exact Q0i hd
 ·exact(World.ownsRow.lt row k hk).2
theorem BB.shape(h:BB w bb v bs):∃p n c,v=.slice p n c:=by
 obtain⟨p,hd,hp,row,hne⟩:=h;rcases row.2 with⟨rfl,hn⟩ | ⟨g,cap,cur,rfl,_⟩
 ·exact⟨_,_,_,rfl⟩
 ·exact⟨_,_,_,rfl⟩
theorem Q5e:∃i,Tryz.prog.info? 245=some i /\ i.size=2:=by
 obtain⟨i,hi,hq⟩:=Option.map_eq_some_iff.1 (show(Tryz.prog.info? 245).map (·.size)=some 2 by kernel_rfl);exact⟨i,hi,hq⟩
theorem Q4f(h:BB w bb v bs){R:VW}(r:∀w',BB w' bb v bs->Mod (· = bb) w w'->R (.tuple #[]) w') :
  CS 241 #[zP bb] w R:=by
 have h0:=h;obtain⟨p,hd,hp,row,hne⟩:=h;obtain⟨i,hi,hsz⟩:=Q5e;constructor;refine vc52.ok ?_;unfold vc52;rcases hp with rfl | rfl
 ·have hsh:w.shape? bb=some (245,2):=by simp[World.shape?,hd]
  refine⟨_,by rw[Q02];exact Q01 hd rfl,Q03 rfl ⟨_,w,run_to_unsafe w ⟨bb,0,none⟩ (by kernel_rfl) (by kernel_rfl) hi (by omega) hsh (Nat.zero_lt_succ 1),?_⟩⟩;refine⟨_,w,by rw[run_callFunc_extern (f:=260) Tryz.func260 (by kernel_rfl) (by kernel_rfl) (by kernel_rfl) (e:=Extern.AbiNoEscape.same) (by kernel_rfl),run_noEscape];rfl,?_⟩;refine⟨_,w,run_from_unsafe w ⟨bb,0,none⟩ (by kernel_rfl) (by kernel_rfl) hi hsh (by kernel_rfl),?_⟩;rw[Q02];refine Q0e (n:=1) hd (by simp) fun w1 hd1 hm1 _=>r w1 ⟨_,hd1,.inr rfl,Q1y row hm1 (fun k hk e=>hne (by rw[<-e];exact hk)),hne⟩ hm1
 ·refine⟨_,by rw[Q02];exact Q01 hd rfl,Q00 rfl ⟨_,by rw[Q02];exact Q01 hd rfl,_,w,run_neq_ptr_same w _ (by kernel_rfl) hi,Q00 rfl (r w h0 (Mod.refl _ _))⟩⟩
theorem Q8R(a b:List UInt8):bC (a++b)=bC a++bC b:=by simp[bC]
theorem Q6B(s:ByteArray):strCells s=bC (bytesOf s):=rfl
theorem QcD(h:BB w bb v bs)(s:ByteArray)(hl:bs.length+s.size<=70368744177664){R:VW}
  (r:∀v' w',BB w' bb v' (bs++bytesOf s)->Mod (fpB bb v) w w'->(∀k,fpB bb v' k->fpB bb v k \/ w.heap.size<=k)->R (.tuple #[.int .i64 (s.size:Int),.nilIface]) w') :
  CS 193 #[zP bb,.string s] w R:=by
 have hlt:=h.lt;constructor;refine vc32.ok ?_;unfold vc32;refine Q4f h fun w1 h1 m1=>⟨rfl,?_⟩;obtain⟨q,n,c,rfl⟩:=h1.shape;obtain⟨p,hd,hp,row,hne⟩:=h1;obtain⟨i,hi,hs,hby,hz⟩:∃i,Tryz.prog.info? 5=some i /\ i.size=1 /\ i.bytes=1 /\ i.zero=some (.int .u8 0):=Q4v (by kernel_rfl);obtain⟨v',w2,hr,row2,hg,_⟩:=run_append_own_string (P:=prog) w1 0 73 9 73 5 i (by kernel_rfl) (by kernel_rfl) hi hz hs hby _ _ _ row s (by simp only[maxLen];omega) (by omega) (Nat.zero_le _);have m2:=Q9p hg;have hd2:=m2.keep hd (fun e=>hne e);have hshape:∃q' n' c',v'=.slice q' n' c':=by
  rcases row2.2 with⟨rfl,hn⟩ | ⟨g,cap,cur,rfl,_⟩
  ·exact⟨_,_,_,rfl⟩
  ·exact⟨_,_,_,rfl⟩
 have hnew:∀k,v'.ownBlock=some k->(Value.slice q n c).ownBlock=some k \/ w1.heap.size<=k:=Q87 row hi hz hs hby (by kernel_rfl) (by kernel_rfl) (by omega) hr;obtain⟨q',n',c',rfl⟩:=hshape;have hbb:=hlt bb (.inl rfl);have z1:=m1.size;have hne':(Value.slice q' n' c').ownBlock ≠ some bb:=fun e=>(hnew bb e).elim hne (fun x=>by omega);refine⟨_,_,_,by rw[Q02];exact Q01 hd rfl,_,_,_,w2,hr,?_⟩;simp only[someA,Q02];refine Q0e (n:=1) hd2 (by simp) fun w3 hd3 m3 _=>r _ w3 ⟨p,hd3,hp,?_,hne'⟩ ?_ ?_
 ·have:=Q1y row2 m3 (fun k hk e=>hne' (by rw[<-e];exact hk));rw[Q6B,<-Q8R] at this;rw[zzlna,Q0v];exact this
 ·have a1:Mod (fpB bb (Value.slice q n c)) w w1:=m1.mono fun k hk=>.inl hk;have a2:=Mod.trans a1 m2 (fun k _ hk=>.inr hk);exact Mod.trans a2 m3 (fun k _ hk=>.inl hk)
 ·rintro k (rfl | hk)
  ·exact .inl (.inl rfl)
  ·rcases hnew k hk with x | x
   ·exact .inl (.inr x)
   ·exact .inr (by omega)
theorem Q6a(h:BB w bb v bs)(hl:bs.length<=70368744177664){R:VW}(r:∀w',Mod (fpB bb v) w w'->R (.string (strOf bs)) w') :
  CS 194 #[zP bb] w R:=by
 constructor;refine vc33.ok ?_;unfold vc33;rintro w1 rfl;have hE:=Ext.drew w;have h1:=h.keep hE (fun _ _ x=>x);obtain⟨p,hd,hp,row,hne⟩:=h1;have hlen:=row.1;rcases row.2 with⟨rfl,hn⟩ | ⟨g,cap,cur,rfl,hb,hg,hnc,hcm,hcs,htake⟩
 ·have hb0:bs=[]:=List.eq_nil_of_length_eq_zero hn;subst hb0;refine⟨_,_,_,by rw[Q02];exact Q01 hd rfl,_,_,_,by rw[Q02];exact Q01 hd rfl,rfl,_,_,run_unsafeSliceData_nil w.drew _ _ _ _,⟨rfl,rfl⟩,⟨_,_,_,by rw[Q02];exact Q01 hd rfl,rfl⟩,_,_,run_unsafeString_none w.drew _ _ _ _,?_⟩;exact r _ hE.mod
 ·by_cases h0:bs=[]
  ·subst h0;by_cases hc0:cap=0
   ·subst hc0;have hsh:w.drew.shape? g=some (5,cur.size):=by simp[World.shape?,hg]
    refine⟨_,_,_,by rw[Q02];exact Q01 hd rfl,_,_,_,by rw[Q02];exact Q01 hd rfl,rfl,_,_,run_unsafeSliceData_zero w.drew _ _ 5 (by kernel_rfl) ⟨g,0,none⟩ _ _ hsh,⟨rfl,rfl⟩,?_⟩;have hE2:=Ext.alloc w.drew (.view ⟨g,0,none⟩ 5);refine⟨⟨_,_,_,by rw[Q02];exact Q01 (hE2.keep hd) rfl,rfl⟩,_,_,run_unsafeString_none _ _ _ _ _,?_⟩;exact r _ (hE.trans hE2).mod
   ·refine⟨_,_,_,by rw[Q02];exact Q01 hd rfl,_,_,_,by rw[Q02];exact Q01 hd rfl,rfl,_,_,run_unsafeSliceData_row w.drew _ _ ⟨g,0,none⟩ _ _ hc0,⟨rfl,rfl⟩,⟨_,_,_,by rw[Q02];exact Q01 hd rfl,rfl⟩,_,_,run_unsafeString_none w.drew _ _ _ _,?_⟩;exact r _ hE.mod
  ·have hpos:0<bs.length:=List.length_pos_iff.2 h0;have hsh:w.drew.shape? g=some (5,cur.size):=by simp[World.shape?,hg]
   have hrow:=run_unsafeString_row (P:=prog) w.drew 281 3 9 5 (by kernel_rfl) (by kernel_rfl) g cur.size hsh bs h0 (by omega) (by omega) (fun j x hj=>by
    have:=World.ownsRow.cells row (g:=g) rfl j (.int .u8 (x.toNat:Int)) (by rw[Q3N,hj];rfl);exact this)
   refine⟨_,_,_,by rw[Q02];exact Q01 hd rfl,_,_,_,by rw[Q02];exact Q01 hd rfl,rfl,_,_,run_unsafeSliceData_row w.drew _ _ ⟨g,0,none⟩ _ _ (by omega),⟨rfl,rfl⟩,⟨_,_,_,by rw[Q02];exact Q01 hd rfl,rfl⟩,_,_,hrow,?_⟩;refine r _ ?_;have hfz:Mod (· = g) w.drew (w.drew.freeze ⟨g,0,none⟩ bs.length):=Q8n _ _ _;exact Mod.trans (hE.mod (F:=fpB bb _)) hfz (fun k _ e=>.inr (by rw[e];rfl))
end
end
section
open Go.RowKit Go.Maps
theorem TRow.lt'{w:World}{v:Value}{ts:List Tch}(h:TRow w v ts):∀k,v.ownBlock=some k->k<w.heap.size:=fun k hk=>(World.ownsRow.lt h k hk).2
def sumN(l:List Pc):Nat:=(l.map (·.2)).sum
def tchL(l:List Pc)(b:Bool):List Tch:=l.map fun s=>((s.1:Int),(s.2:Int),b)
def zrB(bs:List UInt8)(l:List Pc):List UInt8:=l.foldl (fun b s=>putAt b s.1 (List.replicate s.2 0)) bs
def wrB(bs:List UInt8)(l:List Pc)(d:List UInt8):List UInt8:=(l.foldl (fun(x:List UInt8 × Nat) s=>(putAt x.1 s.1 (seg d x.2 s.2),x.2+s.2)) (bs,0)).1
def rdB(bs:List UInt8)(l:List Pc):List UInt8:=l.flatMap fun s=>seg bs s.1 s.2
theorem Q2i(l:List Pc)(s:Pc):sumN (l++[s])=sumN l+s.2:=by simp[sumN]
theorem Q3H(l:List Pc)(s:Pc)(b:Bool):tchL (l++[s]) b=tchL l b++[((s.1:Int),(s.2:Int),b)]:=by simp[tchL]
theorem Q1o(l:List Pc)(b:Bool):(tchL l b).length=l.length:=by simp[tchL]
theorem Q84(bs:List UInt8)(l:List Pc)(s:Pc):zrB bs (l++[s])=putAt (zrB bs l) s.1 (List.replicate s.2 0):=by simp[zrB]
theorem Q7H(bs:List UInt8)(l:List Pc)(s:Pc):rdB bs (l++[s])=rdB bs l++seg bs s.1 s.2:=by simp[rdB]
theorem Qdu(d:List UInt8):∀(l:List Pc)(x:List UInt8 × Nat),(l.foldl (fun(x:List UInt8 × Nat) s=>(putAt x.1 s.1 (seg d x.2 s.2),x.2+s.2)) x).2=x.2+sumN l
 | [],x=>by simp[sumN]
 | s :: l,x=>by
  rw[List.foldl_cons,Qdu d l];simp only[sumN,List.map_cons,List.sum_cons];omega
theorem Q83(bs:List UInt8)(l:List Pc)(s:Pc)(d:List UInt8):wrB bs (l++[s]) d=putAt (wrB bs l d) s.1 (seg d (sumN l) s.2):=by
 unfold wrB;rw[List.foldl_append];simp only[List.foldl_cons,List.foldl_nil];rw[Qdu,Nat.zero_add]
abbrev InP(n:Nat)(l:List Pc):Prop:=∀s ∈ l,s.1+s.2<=n
theorem Q36{X:Type}{P:List X->Prop}(h0:P [])(h1:∀l x,P l->P (l++[x]))(l:List X):P l:=by
 have:∀m:List X,P m.reverse:=fun m=>by
  induction m with
  | nil=>exact h0
  | cons x m ih=>rw[List.reverse_cons];exact h1 _ _ ih
 simpa using this l.reverse
theorem InP.front{n:Nat}{l:List Pc}{s:Pc}(h:InP n (l++[s])):InP n l /\ s.1+s.2<=n:=⟨fun u hu=>h u (zzmal _ hu),h s (by simp)⟩
theorem Q6M{bs:List UInt8}(l:List Pc):InP bs.length l->(zrB bs l).length=bs.length:=by
 induction l using Q36 with
 | h0=>intro _;rfl
 | h1 l s ih=>
  intro h;have hf:=h.front;rw[Q84,Q0k (by rw[ih hf.1,zzlrp];exact hf.2),ih hf.1]
theorem Qgb(d:List UInt8)(a n:Nat):(seg d a n).length<=n:=by
 unfold seg;rw[zzlnt];omega
theorem Q6K{bs d:List UInt8}(l:List Pc):InP bs.length l->(wrB bs l d).length=bs.length:=by
 induction l using Q36 with
 | h0=>intro _;rfl
 | h1 l s ih=>
  intro h;have hf:=h.front;have hs:=hf.2;have:=Qgb d (sumN l) s.2;rw[Q83,Q0k (by rw[ih hf.1];omega),ih hf.1]
theorem Q6v{bs:List UInt8}(l:List Pc):InP bs.length l->(rdB bs l).length=sumN l:=by
 induction l using Q36 with
 | h0=>intro _;rfl
 | h1 l s ih=>
  intro h;have hf:=h.front;rw[Q7H,zzlna,ih hf.1,Q0J hf.2,Q2i]
theorem Q0u{X:Type}{l:List X}{i:Nat}{x:X}(h:l[i]? = some x):l.take (i+1)=l.take i++[x]:=by rw[List.take_add_one,h];rfl
theorem Q1a{T:Tb}{size:Nat}{addr n:Int}{l:List Pc}(h:vpc T size addr n=some l)(hs:size<=2097152) :
  InP size l /\ (∀s ∈ l,1<=s.2 /\ s.2<=512) /\ l.length<=3276800 /\ sumN l<=3276800 /\ (sumN l:Int)=n:=by
 obtain⟨h1,h2⟩:=Q82 h;obtain⟨a,k,ea,ek,ha0,hak,hp⟩:=Q3w h1;have ok:=Q7x hp;have hl:=Q4F hp;have hsum:sumN l=k:=by
  have:=congrArg List.length ok.flat
  rw[Q5j,List.length_map,List.length_range] at this;exact this
 refine⟨fun s hs=>?_,fun s hs=>?_,by omega,by omega,by omega⟩
 ·have:=h2 s hs;omega
 ·obtain⟨p1,p2,_⟩:=ok.pos s hs;omega
def EachP(g:FuncId)(mk:Value->Value->Array Value)(x0a:Option Addr)(x0l x0c:Nat)(w:World)(R:VW):Prop:=
 ifB (decide ((0:Int)<(↑x0l:Int))) ((0:Int)<=(0:Int) /\ (0:Int)<(↑x0l:Int) /\ someA x0a fun a0=>∃(i1 i2:Int)(b3:Bool),CellsAt w (a0.add (0:Nat)) [Value.int IntKind.i64 i1,Value.int IntKind.i64 i2,Value.bool b3] /\ CS g (mk (Value.agg #[Value.int IntKind.i64 i1,Value.int IntKind.i64 i2,Value.bool b3]) (Value.int IntKind.i64 (0:Int))) w fun v4 w5=>v4=Value.tuple #[] /\ (0:Int)<=(0:Int) /\ (0:Int)<(↑x0l:Int) /\ someA x0a fun a6=>∃i7:Int,w5.cell? ((a6.add (0:Nat)).add (1:Nat))=some (Value.int IntKind.i64 i7) /\ ∃x8:Nat->Int->Int->World->Prop,(∃n9:Nat,x8 n9 (IntKind.i64.wrap ((0:Int)+(1:Int))) (IntKind.i64.wrap ((0:Int)+i7)) w5) /\ ∀(n10:Nat)(jv:Nat->Value)(i11 i12:Int)(w13:World),x8 n10 i11 i12 w13->ifB (decide (i11<(↑x0l:Int))) ((0:Int)<=i11 /\ i11<(↑x0l:Int) /\ someA x0a fun a14=>∃(i15 i16:Int)(b17:Bool),CellsAt w13 (a14.add (i11.toNat*(3:Nat))) [Value.int IntKind.i64 i15,Value.int IntKind.i64 i16,Value.bool b17] /\ CS g (mk (Value.agg #[Value.int IntKind.i64 i15,Value.int IntKind.i64 i16,Value.bool b17]) (Value.int IntKind.i64 i12)) w13 fun v18 w19=>v18=Value.tuple #[] /\ (0:Int)<=i11 /\ i11<(↑x0l:Int) /\ someA x0a fun a20=>∃i21:Int,w19.cell? ((a20.add (i11.toNat*(3:Nat))).add (1:Nat))=some (Value.int IntKind.i64 i21) /\ ∃n22:Nat,n22<n10 /\ x8 n22 (IntKind.i64.wrap (i11+(1:Int))) (IntKind.i64.wrap (i12+i21)) w19) (R (Value.tuple #[]) w13)) (R (Value.tuple #[]) w)
theorem each_any{g:FuncId}{mk:Value->Value->Array Value}{q:Option Addr}{c:Nat}{l:List Pc}{w:World}{J:Nat->World->Prop}{R:VW}(hsum:sumN l<=3276800)(hlen:l.length<=3276800)
  (row:∀i w1,J i w1->TRow w1 (.slice q l.length c) (spT l)) (h0:J 0 w)
  (step:∀i s w1,l[i]? = some s->J i w1->CS g (mk (Value.agg #[.int .i64 (s.1:Int),.int .i64 (s.2:Int),.bool false]) (.int .i64 (sumN (l.take i):Int))) w1 fun v w2=>v=.tuple #[] /\ J (i+1) w2)
  (r:∀w',J l.length w'->R (.tuple #[]) w'):EachP g mk q l.length c w R:=by
 have cells:∀ {i s w1},l[i]? = some s->J i w1->∃a,q=some a /\ CellsAt w1 (a.add (i*3)) [.int .i64 (s.1:Int),.int .i64 (s.2:Int),.bool false]:=fun {i s w1} hs hj=>by
  have hr:=row i w1 hj;rw[<-Q1W l] at hr;exact hr.cells (Q4O hs)
 have cell1:∀ {a:Addr} {i:Nat} {s:Pc} {w1:World},CellsAt w1 (a.add (i*3)) [.int .i64 (s.1:Int),.int .i64 (s.2:Int),.bool false]->w1.cell? ((a.add (i*3)).add 1)=some (.int .i64 (s.2:Int)):=fun h=>h 1 _ rfl;have sumle:∀ {i:Nat} {s:Pc},l[i]? = some s->sumN (l.take (i+1))=sumN (l.take i)+s.2 /\ sumN (l.take (i+1))<=3276800:=fun {i s} hs=>by
  refine⟨by rw[Q0u hs,Q2i],?_⟩;refine Nat.le_trans ?_ hsum;have e:sumN l=sumN (l.take (i+1))+sumN (l.drop (i+1)):=by
   unfold sumN;rw[<-List.sum_append,<-List.map_append,List.take_append_drop]
  omega
 unfold EachP;refine Q05 (fun h=>?_) (fun h=>?_)
 ·have hl:0<l.length:=by have:=zzodt h;omega
  obtain⟨s,hs⟩:∃s,l[0]? = some s:=⟨_,zzgge hl⟩;obtain⟨a,rfl,hc⟩:=cells hs h0;have sl:=sumle hs;rw[Nat.zero_mul] at hc;have st:=step 0 s w hs h0;rw[show sumN (l.take 0)=0 from rfl] at st;refine⟨by omega,by omega,_,_,_,hc,.of st.h ?_⟩;rintro v w1 ⟨rfl,h1⟩;have hx:w1.cell? ((a.add 0).add 1)=some (.int .i64 (s.2:Int)):=by
   have hr:=row 1 w1 h1;rw[<-Q1W l] at hr;obtain⟨a',e,hc'⟩:=hr.cells (Q4O hs);cases e;rw[Nat.zero_mul] at hc';exact hc' 1 _ rfl
  refine⟨rfl,by omega,by omega,_,hx,fun f i d w2=>∃j:Nat,i=(j:Int) /\ f+j=l.length /\ d=(sumN (l.take j):Int) /\ J j w2,⟨l.length-1,1,?_,by omega,?_,h1⟩,?_⟩
  ·rw[Q04 (by decide) (by decide)];rfl
  ·rw[sl.1,show sumN (l.take 0)=0 from rfl,Nat.zero_add,Int.zero_add];rw[show sumN (l.take 0)=0 from rfl] at sl;exact Q04 (by omega) (by omega)
  ·rintro f jv i d w2 ⟨j,rfl,hf,rfl,hj⟩;refine Q05 (fun hlt=>?_) (fun hge=>?_)
   ·have hlt:j<l.length:=by have:=zzodt hlt;omega
    obtain⟨s',hs'⟩:∃s,l[j]? = some s:=⟨_,zzgge hlt⟩;obtain⟨a',e,hc'⟩:=cells hs' hj;cases e;rw[zztnc];refine⟨by omega,by omega,_,_,_,hc',.of (step j s' w2 hs' hj).h ?_⟩;rintro v w3 ⟨rfl,h3⟩;have hx':w3.cell? ((a.add (j*3)).add 1)=some (.int .i64 (s'.2:Int)):=by
     have hr:=row (j+1) w3 h3;rw[<-Q1W l] at hr;obtain⟨a'',e,hc''⟩:=hr.cells (Q4O hs');cases e;exact hc'' 1 _ rfl
    have sl':=sumle hs';refine⟨rfl,by omega,by omega,_,hx',f-1,by omega,j+1,?_,by omega,?_,h3⟩
    ·rw[Q04 (by omega) (by omega)];omega
    ·rw[Q04 (by omega) (by omega),sl'.1];omega
   ·have:j=l.length:=by have:=of_decide_eq_false hge;omega
    subst this;exact r w2 hj
 ·have:l.length=0:=by have:=of_decide_eq_false h;omega
  have e:l=[]:=List.eq_nil_of_length_eq_zero this;subst e;exact r w h0
end
section
open Go.RowKit Go.Maps
def vE(T:Tb)(size:Nat)(addr n:Int):Int:=match vpc T size addr n with | none=>4 | some _=>0
def vL(T:Tb)(size:Nat)(addr n:Int):List Pc:=match vpc T size addr n with | none=>[] | some l=>l
section
variable{w w':World}{tb m1 m2 ap:Nat}{T:Tb}{F:Nat->Prop}{bs:List UInt8}{ts:List Tch}{R:VW}
theorem Q34{TA:TypeId}(ha:Ar w TA ap F bs ts)(hE:Ext w w'):Post w TA ap F bs ts w':=⟨F,ha.keep hE (fun _ _ x=>x),hE.mod,fun k hk=>.inl hk⟩
theorem Q56{addr n:Int}(e:vpc T bs.length addr n=none):vE T bs.length addr n=4 /\ vL T bs.length addr n=[]:=by
 unfold vE vL;rw[e];exact⟨rfl,rfl⟩
theorem Q57{addr n:Int}{l:List Pc}(e:vpc T bs.length addr n=some l):vE T bs.length addr n=0 /\ vL T bs.length addr n=l:=by
 unfold vE vL;rw[e];exact⟨rfl,rfl⟩
theorem each67{a:Option Addr}{l c:Nat}{k:Option Addr}(h:EachP 191 (fun s d=>#[s,d,.pointer k]) a l c w R):vc27 a l c k w R:=by
 have e:vc27 a l c k w R=EachP 191 (fun s d=>#[s,d,.pointer k]) a l c w R:=by
  unfold vc27 EachP;congr 2
 rw[e];exact h
theorem each61{a:Option Addr}{l c:Nat}{k k':Option Addr}(h:EachP 195 (fun s d=>#[s,d,.pointer k,.pointer k']) a l c w R):vc29 a l c k k' w R:=by
 have e:vc29 a l c k k' w R=EachP 195 (fun s d=>#[s,d,.pointer k,.pointer k']) a l c w R:=by
  unfold vc29 EachP;congr 2
 rw[e];exact h
theorem each62{a:Option Addr}{l c:Nat}{k k':Option Addr}(h:EachP 192 (fun s d=>#[s,d,.pointer k,.pointer k']) a l c w R):vc28 a l c k k' w R:=by
 have e:vc28 a l c k k' w R=EachP 192 (fun s d=>#[s,d,.pointer k,.pointer k']) a l c w R:=by
  unfold vc28 EachP;congr 2
 rw[e];exact h
def Jz(w0:World)(ap:Nat)(F:Nat->Prop)(b:Nat->List UInt8)(t:Nat->List Tch)(i:Nat)(w:World):Prop:=
 ∃F',Ar w 125 ap F' (b i) (t i) /\ Mod F w0 w /\ ∀k,F' k->F k \/ w0.heap.size<=k
theorem Jz.post{w0:World}{b:Nat->List UInt8}{t:Nat->List Tch}{i:Nat}(h:Jz w0 ap F b t i w')(hE:Ext w w0):Post w 125 ap F (b i) (t i) w':=by
 obtain⟨F',a,m,f⟩:=h;exact⟨F',a,Mod.trans hE.mod m (fun _ _ x=>x),fun k hk=>(f k hk).imp id (fun x=>Nat.le_trans hE.size x)⟩
theorem Jz.next{w0 w1 w2:World}{b:Nat->List UInt8}{t:Nat->List Tch}{i:Nat}{F':Nat->Prop}(hm:Mod F w0 w1)(hf:∀k,F' k->F k \/ w0.heap.size<=k)
  (hp:Post w1 125 ap F' (b (i+1)) (t (i+1)) w2):Jz w0 ap F b t (i+1) w2:=by
 obtain⟨F2,a,m,f⟩:=hp;refine⟨F2,a,Mod.trans hm m (fun k hk x=>(hf k x).elim id (fun y=>by omega)),fun k hk=>?_⟩;rcases f k hk with x | x
 ·exact hf k x
 ·exact .inr (Nat.le_trans hm.size x)
theorem vzero(ha:Ar w 125 ap F bs ts)(h:PT w tb m1 m2 T)(hl:ts.length<500000000000)(addr n:Int)
  (r:∀w',Post w 125 ap F (zrB bs (vL T bs.length addr n)) (ts++tchL (vL T bs.length addr n) true) w'->R (.int .i64 (vE T bs.length addr n)) w') :
  CS 132 #[zP ap,zP tb,.int .i64 addr,.int .i64 n] w R:=by
 have hsm:=ha.small;have hlt:=ha.lt;constructor;refine vc12.ok ?_;unfold vc12;refine Q09 fun b0 w1 hb0 hE1 hs1 _=>⟨_,Q01 hb0 rfl,Q1p (ha.keep hE1 (fun _ _ x=>x)) (h.ext hE1) addr n (fun e w2 hE2=>?_) (fun l q c w2 e row hE2 hown=>?_)⟩
 ·obtain⟨e1,e2⟩:=Q56 e;rw[e1,e2] at r;exact⟨_,_,_,_,rfl,Q00 rfl (r w2 (by simpa [zrB,tchL] using Q34 ha (hE1.trans hE2)))⟩
 ·obtain⟨e1,e2⟩:=Q57 e;rw[e1,e2] at r;obtain⟨inp,pos,len,sum,_⟩:=Q1a e hsm;have hE12:=hE1.trans hE2;have hb2:=hE2.keep hb0;have z1:=hE1.size;refine⟨_,_,_,_,rfl,Q03 rfl ⟨vc27.ok (each67 ?_)⟩⟩;refine each_any (J:=Jz w2 ap F (fun i=>zrB bs (l.take i)) (fun i=>ts++tchL (l.take i) true)) sum len (fun i w3 hj=>?_) ⟨F,by simpa [zrB,tchL] using ha.keep hE12 (fun _ _ x=>x),Mod.refl _ _,fun k hk=>.inl hk⟩ (fun i s w3 hs hj=>?_) (fun w3 hj=>⟨rfl,r w3 ?_⟩)
  ·obtain⟨F',_,m,_⟩:=hj;exact row.keep m (fun k hk x=>by have:=hown k hk;have:=hlt k x;omega)
  ·obtain⟨F',a,m,f⟩:=hj;have hb3:=m.keep hb2 (fun x=>by have:=hlt b0 x;omega);have hsl:=inp s (zzmog hs);have hps:=pos s (zzmog hs);have inpt:InP bs.length (l.take i):=fun u hu=>inp u (List.mem_of_mem_take hu);have hzl:=Q6M (l.take i) inpt;constructor;refine vc30.ok ?_;unfold vc30;refine Q09 fun b4 w4 hb4 hE4 _ _=>?_;have hb44:=hE4.keep hb3;refine⟨_,Q01 hb44 rfl,_,by rw[Q02];exact Q01 hb4 rfl,_,by rw[Q02];exact Q01 hb4 rfl,.of (Q5a (a.keep hE4 (fun _ _ x=>x)) _ _ (by rw[zzlna,Q1o,zzlnt];omega)) ?_⟩;rintro v w5 ⟨rfl,hp⟩;have ok:OkA (zrB bs (l.take i)).length (s.1:Int) (s.2:Int):=⟨by omega,by omega,by rw[hzl];omega⟩;rw[if_pos ok,if_pos ok,noteA,if_pos (by omega),zztnc,zztnc,<-Q84,List.append_assoc,<-Q3H,<-Q0u hs] at hp;refine⟨_,rfl,rfl,Jz.next (w1:=w4) (i:=i) (F':=F') (Mod.trans m hE4 (fun _ _ x=>x.elim)) f hp⟩
  ·have:=hj.post hE12;rw[List.take_length] at this;exact this
theorem vwrite(ha:Ar w 125 ap F bs ts)(h:PT w tb m1 m2 T)(hl:ts.length<500000000000)(addr:Int)(d:ByteArray)
  (r:∀w',Post w 125 ap F (wrB bs (vL T bs.length addr d.size) (bytesOf d)) (ts++tchL (vL T bs.length addr d.size) true) w'->R (.int .i64 (vE T bs.length addr d.size)) w') :
  CS 136 #[zP ap,zP tb,.int .i64 addr,.string d] w R:=by
 have hsm:=ha.small;have hlt:=ha.lt;constructor;refine vc15.ok ?_;unfold vc15;refine Q09 fun b0 w1 hb0 hE1 hs1 _=>Q09 fun bd w1' hbd hE1' hs1' _=>?_;have hE11:=hE1.trans hE1';have hb01:=hE1'.keep hb0;refine⟨_,Q01 hb01 rfl,_,Q01 hbd rfl,Q1p (ha.keep hE11 (fun _ _ x=>x)) (h.ext hE11) addr d.size (fun e w2 hE2=>?_) (fun l q c w2 e row hE2 hown=>?_)⟩
 ·obtain⟨e1,e2⟩:=Q56 e;rw[e1,e2] at r;exact⟨_,_,_,_,rfl,Q00 rfl (r w2 (by simpa [wrB,tchL] using Q34 ha (hE11.trans hE2)))⟩
 ·obtain⟨e1,e2⟩:=Q57 e;rw[e1,e2] at r;obtain⟨inp,pos,len,sum,esum⟩:=Q1a e hsm;have hE12:=hE11.trans hE2;have hb2:=hE2.keep hb01;have hbd2:=hE2.keep hbd;have z1:=hE1.size;have z11:=hE11.size;refine⟨_,_,_,_,rfl,Q03 rfl ⟨vc29.ok (each61 ?_)⟩⟩;refine each_any (J:=Jz w2 ap F (fun i=>wrB bs (l.take i) (bytesOf d)) (fun i=>ts++tchL (l.take i) true)) sum len (fun i w3 hj=>?_) ⟨F,by simpa [wrB,tchL] using ha.keep hE12 (fun _ _ x=>x),Mod.refl _ _,fun k hk=>.inl hk⟩ (fun i s w3 hs hj=>?_) (fun w3 hj=>⟨rfl,r w3 ?_⟩)
  ·obtain⟨F',_,m,_⟩:=hj;exact row.keep m (fun k hk x=>by have:=hown k hk;have:=hlt k x;omega)
  ·obtain⟨F',a,m,f⟩:=hj;have hb3:=m.keep hb2 (fun x=>by have:=hlt b0 x;omega);have hbd3:=m.keep hbd2 (fun x=>by have:=hlt bd x;omega);have hsl:=inp s (zzmog hs);have hps:=pos s (zzmog hs);have inpt:InP bs.length (l.take i):=fun u hu=>inp u (List.mem_of_mem_take hu);have hzl:=Q6K (d:=bytesOf d) (l.take i) inpt;have hsum1:sumN (l.take (i+1))=sumN (l.take i)+s.2:=by rw[Q0u hs,Q2i]
   have hsum2:sumN (l.take (i+1))<=sumN l:=by
    have e:sumN l=sumN (l.take (i+1))+sumN (l.drop (i+1)):=by
     unfold sumN;rw[<-List.sum_append,<-List.map_append,List.take_append_drop]
    omega
   constructor;refine vc34.ok ?_;unfold vc34;refine Q09 fun b4 w4 hb4 hE4 _ _=>?_;rintro w4' rfl;have hE44:=hE4.trans (Ext.drew w4);have hb44:=hE44.keep hb3;have hbd44:=hE44.keep hbd3;have hb4':w4.drew.heap[b4]? = _:=hb4;have ew:IntKind.i64.wrap ((sumN (l.take i):Int)+(s.2:Int))=((sumN (l.take i)+s.2:Nat):Int):=by rw[Q04 (by omega) (by omega)];omega
   refine⟨_,Q01 hb44 rfl,_,by rw[Q02];exact Q01 hb4' rfl,_,Q01 hbd44 rfl,_,by rw[Q02];exact Q01 hb4' rfl,by omega,by rw[ew];omega,by rw[ew];omega,rfl,?_⟩;rw[ew,zztnc,zztnc];refine .of (Qbd (a.keep hE44 (fun _ _ x=>x)) _ _ (by rw[zzlna,Q1o,zzlnt];omega)) ?_;rintro v w5 ⟨rfl,hp⟩;have hex:bytesOf (d.extract (sumN (l.take i)) (sumN (l.take i)+s.2))=seg (bytesOf d) (sumN (l.take i)) s.2:=by rw[Q0U,Nat.add_sub_cancel_left]
   have hsz:(d.extract (sumN (l.take i)) (sumN (l.take i)+s.2)).size=s.2:=by
    rw[<-Q0v,hex,Q0J (by rw[Q0v];omega)]
   have ok:OkA (wrB bs (l.take i) (bytesOf d)).length (s.1:Int) ((d.extract (sumN (l.take i)) (sumN (l.take i)+s.2)).size:Int):=⟨by omega,by omega,by rw[hzl,hsz];omega⟩;rw[if_pos ok,if_pos ok,hsz,noteA,if_pos (by omega),zztnc,hex,<-Q83,List.append_assoc,<-Q3H,<-Q0u hs] at hp;refine⟨_,rfl,rfl,Jz.next (w1:=w4.drew) (i:=i) (F':=F') (Mod.trans m hE44 (fun _ _ x=>x.elim)) f hp⟩
  ·have:=hj.post hE12;rw[List.take_length] at this;exact this
end
end
section
open Go.RowKit Go.Maps
section
variable{w w':World}{tb m1 m2 ap:Nat}{T:Tb}{F:Nat->Prop}{bs:List UInt8}{ts:List Tch}{R:VW}
def Jr(w0:World)(ap bb:Nat)(F:Nat->Prop)(bs:List UInt8)(t:Nat->List Tch)(o:Nat->List UInt8)(i:Nat)(w:World):Prop:=
 ∃F' v,Ar w 125 ap F' bs (t i) /\ BB w bb v (o i) /\ Mod (fun k=>F k \/ k=bb) w0 w /\ (∀k,F' k->F k \/ w0.heap.size<=k) /\ (∀k,fpB bb v k->k=bb \/ w0.heap.size<=k) /\ ∀k,fpB bb v k->¬F' k
theorem vread(ha:Ar w 125 ap F bs ts)(h:PT w tb m1 m2 T)(hl:ts.length<500000000000)(addr n:Int)
  (r:∀w',Post w 125 ap F bs (ts++tchL (vL T bs.length addr n) false) w'->R (.tuple #[.string (strOf (rdB bs (vL T bs.length addr n))),.int .i64 (vE T bs.length addr n)]) w') :
  CS 135 #[zP ap,zP tb,.int .i64 addr,.int .i64 n] w R:=by
 have hsm:=ha.small;have hlt:=ha.lt;constructor;refine vc14.ok ?_;unfold vc14;refine Q09 fun b0 w1 hb0 hE1 hs1 _=>⟨_,Q01 hb0 rfl,Q1p (ha.keep hE1 (fun _ _ x=>x)) (h.ext hE1) addr n (fun e w2 hE2=>?_) (fun l q c w2 e row hE2 hown=>?_)⟩
 ·obtain⟨e1,e2⟩:=Q56 e;rw[e1,e2] at r;exact⟨_,_,_,_,rfl,Q03 rfl (r w2 (by simpa [tchL] using Q34 ha (hE1.trans hE2)))⟩
 ·obtain⟨e1,e2⟩:=Q57 e;rw[e1,e2] at r;obtain⟨inp,pos,len,sum,_⟩:=Q1a e hsm;have hE12:=hE1.trans hE2;have hb2:=hE2.keep hb0;have z1:=hE1.size;have z2:=hE2.size;refine⟨_,_,_,_,rfl,Q00 rfl (Q09 fun bb w3 hbb hE3 hs3 hs3'=>⟨vc28.ok (each62 ?_)⟩)⟩;have hE13:=hE12.trans hE3;have hb3':=hE3.keep hb2;have row3:=row.keep hE3 (fun _ _ x=>x);have rowlt:=row.lt';have nF:∀k,w.heap.size<=k->¬F k:=fun k hk x=>by have:=hlt k x;omega
  refine each_any (J:=Jr w3 ap bb F bs (fun i=>ts++tchL (l.take i) false) (fun i=>rdB bs (l.take i))) sum len (fun i w4 hj=>?_) ?_ (fun i s w4 hs hj=>?_) (fun w4 hj=>⟨rfl,?_⟩)
  ·obtain⟨F',v,_,_,m,_⟩:=hj;refine row3.keep m (fun k hk x=>?_);have h1:=hown k hk;have h2:=rowlt k hk;rcases x with x | x
   ·exact nF k (by omega) x
   ·omega
  ·refine⟨F,.slice none 0 0,by simpa [tchL] using ha.keep hE13 (fun _ _ x=>x),⟨none,hbb,.inl rfl,World.ownsRow_nil _ 0 _ 1,by simp[Value.ownBlock]⟩,Mod.refl _ _,fun k hk=>.inl hk,fun k hk=>?_,fun k hk x=>?_⟩
   ·rcases hk with rfl | hk
    ·exact .inl rfl
    ·simp[Value.ownBlock] at hk
   ·rcases hk with rfl | hk
    ·exact nF k (by omega) x
    ·simp[Value.ownBlock] at hk
  ·obtain⟨F',v,a,b,m,f,g,d⟩:=hj;have hb4:=m.keep hb3' (fun x=>by rcases x with x | x;exact nF b0 (by omega) x;omega);have hsl:=inp s (zzmog hs);have hps:=pos s (zzmog hs);have inpt:InP bs.length (l.take i):=fun u hu=>inp u (List.mem_of_mem_take hu);have hrl:=Q6v (l.take i) inpt;have hsum2:sumN (l.take i)+s.2<=sumN l:=by
    have e3:sumN (l.take (i+1))=sumN (l.take i)+s.2:=by rw[Q0u hs,Q2i]
    have e:sumN l=sumN (l.take (i+1))+sumN (l.drop (i+1)):=by
     unfold sumN;rw[<-List.sum_append,<-List.map_append,List.take_append_drop]
    omega
   constructor;refine vc31.ok ?_;unfold vc31;refine Q09 fun b5 w5 hb5 hE5 hs5 _=>?_;have hb45:=hE5.keep hb4;have a5:=a.keep hE5 (fun _ _ x=>x);have bb5:=b.keep hE5 (fun _ _ x=>x);refine⟨_,Q01 hb45 rfl,_,by rw[Q02];exact Q01 hb5 rfl,_,by rw[Q02];exact Q01 hb5 rfl,.of (Qcb a5 _ _ (by rw[zzlna,Q1o,zzlnt];omega)) ?_⟩;rintro x w6 ⟨rfl,F6,a6,m6,f6⟩;have ok:OkA bs.length (s.1:Int) (s.2:Int):=⟨by omega,by omega,by omega⟩;rw[if_pos ok,noteA,if_pos (by omega),List.append_assoc,<-Q3H,<-Q0u hs] at a6;rw[if_pos ok,if_pos ok,zztnc,zztnc];have b6:=bb5.keep m6 d;have blt5:=bb5.lt;have z5:=hE5.size;have z6:=m6.size;have zm:=m.size;have d6:∀k,fpB bb v k->¬F6 k:=fun k hk x=>(f6 k x).elim (d k hk) (fun y=>by have:=blt5 k hk;omega);have hss:(strOf (seg bs s.1 s.2)).size=s.2:=by rw[<-Q0v,Q0s,Q0J hsl]
   refine⟨_,_,rfl,QcD b6 _ (by rw[hrl,hss];omega) fun v7 w7 b7 m7 f7=>⟨_,_,rfl,rfl,?_⟩⟩;rw[Q0s,<-Q7H,<-Q0u hs] at b7;have a6lt:=a6.lt;have b6lt:=b6.lt;refine⟨F6,v7,a6.keep m7 (fun k hk x=>d6 k x hk),b7,?_,fun k hk=>?_,fun k hk=>?_,fun k hk x=>?_⟩
   ·have n1:=Mod.trans m hE5 (fun _ _ x=>x.elim);have n2:=Mod.trans n1 m6 (fun k hk x=>(f k x).elim .inl (fun y=>by omega));exact Mod.trans n2 m7 (fun k hk x=>(g k x).elim .inr (fun y=>by omega))
   ·exact(f6 k hk).elim (f k) (fun y=>.inr (by omega))
   ·exact(f7 k hk).elim (g k) (fun y=>.inr (by omega))
   ·exact(f7 k hk).elim (fun y=>d6 k y x) (fun y=>by have:=a6lt k x;omega)
  ·obtain⟨F',v,a,b,m,f,g,d⟩:=hj;simp only[List.take_length] at a b;have hrl:=Q6v l inp;refine Q6a b (by omega) fun w5 m5=>⟨_,rfl,r w5 ⟨F',a.keep m5 (fun k hk x=>d k x hk),?_,fun k hk=>?_⟩⟩
   ·have zm:=m.size;have z13:=hE13.size;have n1:Mod F w w4:=Mod.trans hE13.mod m (fun k hk x=>x.elim id (fun e=>by omega));exact Mod.trans n1 m5 (fun k hk x=>(g k x).elim (fun e=>by omega) (fun y=>by omega))
   ·exact(f k hk).imp id (fun x=>Nat.le_trans hE13.size x)
def cpE(T:Tb)(size:Nat)(to from_ n:Int):Int:=if vE T size to n=0 then vE T size from_ n else vE T size to n
def cpB(T:Tb)(bs:List UInt8)(to from_ n:Int):List UInt8:=if cpE T bs.length to from_ n=0 then wrB bs (vL T bs.length to n) (rdB bs (vL T bs.length from_ n))else bs
def cpT(T:Tb)(size:Nat)(ts:List Tch)(to from_ n:Int):List Tch:=if cpE T size to from_ n=0 then ts++tchL (vL T size from_ n) false++tchL (vL T size to n) true else ts
theorem Q55(T:Tb)(size:Nat)(addr n:Int):(vE T size addr n=4 /\ vL T size addr n=[]) \/ (vE T size addr n=0 /\ ∃l,vpc T size addr n=some l /\ vL T size addr n=l):=by
 unfold vE vL;cases h:vpc T size addr n with
 | none=>exact .inl ⟨rfl,rfl⟩
 | some l=>exact .inr ⟨rfl,l,rfl,rfl⟩
theorem vcopy(ha:Ar w 125 ap F bs ts)(h:PT w tb m1 m2 T)(hd:∀j,ownT tb m1 m2 j->¬F j)(hl:ts.length<400000000000)(to from_ n:Int)
  (r:∀w',Post w 125 ap F (cpB T bs to from_ n) (cpT T bs.length ts to from_ n) w'->R (.int .i64 (cpE T bs.length to from_ n)) w') :
  CS 133 #[zP ap,zP tb,.int .i64 to,.int .i64 from_,.int .i64 n] w R:=by
 have hsm:=ha.small;have hlt:=ha.lt;constructor;refine vc13.ok ?_;unfold vc13;refine Q1p ha h to n (fun e w1 hE1=>?_) (fun l q c w1 e row hE1 hown=>?_)
 ·obtain⟨e1,e2⟩:=Q56 e;have ec:cpE T bs.length to from_ n=4:=by unfold cpE;rw[e1];rfl
  rw[cpB,cpT,ec,if_neg (by decide),if_neg (by decide)] at r;exact⟨_,_,_,_,rfl,Q03 rfl (r w1 (Q34 ha hE1))⟩
 ·obtain⟨e1,e2⟩:=Q57 e;obtain⟨inp,pos,len,sum,esum⟩:=Q1a e hsm;refine⟨_,_,_,_,rfl,Q00 rfl ?_⟩;refine vread (ha.keep hE1 (fun _ _ x=>x)) (h.ext hE1) (by omega) from_ n fun w2 hp2=>⟨_,_,rfl,?_⟩;obtain⟨F2,a2,m2',f2⟩:=hp2;have ec:cpE T bs.length to from_ n=vE T bs.length from_ n:=by unfold cpE;rw[e1];rfl
  rcases Q55 T bs.length from_ n with⟨c1,c2⟩ | ⟨c1,lf,c2,c3⟩
  ·rw[c2] at a2;rw[c1] at ec ⊢;rw[cpB,cpT,ec,if_neg (by decide),if_neg (by decide)] at r;refine Q03 rfl (r w2 ⟨F2,by simpa [tchL] using a2,Mod.trans hE1.mod m2' (fun _ _ x=>x),fun k hk=>(f2 k hk).imp id (fun x=>Nat.le_trans hE1.size x)⟩)
  ·obtain⟨inpf,posf,lenf,sumf,esumf⟩:=Q1a c2 hsm;rw[c1] at ec ⊢;rw[cpB,cpT,ec,if_pos rfl,if_pos rfl] at r;have hsz:((strOf (rdB bs (vL T bs.length from_ n))).size:Int)=n:=by
    rw[c3,<-Q0v,Q0s,Q6v lf inpf];exact esumf
   refine Q00 rfl ?_;have h2:=(h.ext hE1).keep m2' (fun j hj x=>hd j hj x);refine vwrite a2 h2 (by rw[zzlna,Q1o,c3];omega) to (strOf (rdB bs (vL T bs.length from_ n))) fun w3 hp3=>?_;rw[hsz,Q0s] at hp3;rw[hsz,e1];obtain⟨F3,a3,m3,f3⟩:=hp3;refine⟨_,rfl,r w3 ⟨F3,a3,?_,fun k hk=>?_⟩⟩
   ·have n1:Mod F w w2:=Mod.trans hE1.mod m2' (fun _ _ x=>x);exact Mod.trans n1 m3 (fun k hk x=>(f2 k x).elim id (fun y=>by have:=hE1.size;omega))
   ·rcases f3 k hk with x | x
    ·exact(f2 k x).imp id (fun y=>Nat.le_trans hE1.size y)
    ·exact .inr (by have:=hE1.size;have:=m2'.size;omega)
end
end
section
open Go.RowKit Thing
def ow(w:World):World:={w with heap:=#[]}
theorem Qd7(w:World):Ext (ow w) w:=⟨rfl,rfl,rfl,Nat.zero_le _,fun k hk=>absurd hk (by simp[ow])⟩
def oth(w:World)(F:Nat->Prop)(j:Nat):Prop:=j<w.heap.size /\ ¬F j
theorem QeH{w w':World}{F F':Nat->Prop}(hm:Mod (fun j=>¬oth w F j) w w')(hf:∀j,F' j->¬oth w F j):Step F w F' w':=by
 have key:∀j,¬oth w F j->F j \/ w.heap.size<=j:=fun j hj=>by
  by_cases h:F j
  ·exact .inl h
  ·exact .inr (Nat.le_of_not_lt fun q=>hj ⟨q,h⟩)
 exact⟨⟨hm.os,hm.tape,hm.output,hm.size,fun k hk hF=>hm.block k hk (fun q=>(key k q).elim hF (fun z=>by omega))⟩,fun j hj=>key j (hf j hj)⟩
def arT(ap:Nat)(bs:List UInt8)(ts:List Tch):Thing where
 P w F:=Ar w 125 ap F bs ts
 keep:=fun h hm hd=>h.keep hm hd
 lt:=fun h=>h.lt
def tbT(tb:Nat)(T:Tb):Thing where
 P w F:=∃m1 m2,PT w tb m1 m2 T /\ F=ownT tb m1 m2
 keep:=by
  rintro w w' F G ⟨m1,m2,h,rfl⟩ hm hd;exact⟨m1,m2,h.keep hm hd,rfl⟩
 lt:=by
  rintro w F ⟨m1,m2,h,rfl⟩;exact h.lt
def shT(p:Nat)(hs:List Bool):Thing where
 P w F:=∃gb,Sf.SH w p gb hs /\ F=Sf.fpS p gb
 keep:=by
  rintro w w' F G ⟨gb,h,rfl⟩ hm hd;exact⟨gb,h.keep hm hd,rfl⟩
 lt:=by
  rintro w F ⟨gb,h,rfl⟩;exact h.lt
structure Pq where
 f:Nat
 hr:Int
 hw:Int
 hs:List Bool
def Pq.st(q:Pq)(bs:List UInt8)(ts:List Tch):St:=⟨bs,ts,q.f,q.hr,q.hw,q.hs⟩
def St.pq(s:St):Pq:=⟨s.f,s.hr,s.hw,s.hs⟩
structure PGo (w:World) (pb rc wc ap sb sg n base kind:Nat) (s:Pq):Prop where
 head:w.heap[pb]? = some (.cells #[zP rc,zP wc,zP ap,.int .i64 (base:Int),.int .i64 (kind:Int),.int .i64 (s.f:Int),zP sb] 273 (0,0))
 cr:CH w 309 rc ap base (unitN kind) (perN kind) s.hr
 cw:CH w 309 wc ap base (unitN kind) (perN kind) s.hw
 sh:Sf.SH w sb sg s.hs
 gr:CfgC n base (unitN kind) (perN kind) s.hr
 gw:CfgC n base (unitN kind) (perN kind) s.hw
 k8:kind<8
 hl:s.hs.length=perN kind
 fl:s.f<=perN kind
 d:pb ≠ rc /\ pb ≠ wc /\ pb ≠ sb /\ pb ≠ sg /\ rc ≠ wc /\ rc ≠ sb /\ rc ≠ sg /\ wc ≠ sb /\ wc ≠ sg
def pgT(n pb ap base kind:Nat)(q:Pq):Thing where
 P w F:=∃rc wc sb sg,PGo w pb rc wc ap sb sg n base kind q /\ F=ownP pb rc wc sb sg
 keep:=by
  rintro w w' F G ⟨rc,wc,sb,sg,h,rfl⟩ hm hG;exact⟨rc,wc,sb,sg,⟨hm.keep h.head (hG _ (.inl rfl)),h.cr.keep hm (hG _ (.inr (.inl rfl))),h.cw.keep hm (hG _ (.inr (.inr (.inl rfl)))),
   h.sh.keep hm (fun j hj=>hG j (by rcases hj with e | e;exact .inr (.inr (.inr (.inl e)));exact .inr (.inr (.inr (.inr e))))),h.gr,h.gw,h.k8,h.hl,h.fl,h.d⟩,rfl⟩
 lt:=by
  rintro w F ⟨rc,wc,sb,sg,h,rfl⟩;rintro j (rfl | rfl | rfl | rfl | rfl)
  ·exact Q0i h.head
  ·exact Q0i h.cr
  ·exact Q0i h.cw
  ·exact h.sh.lt _ (.inl rfl)
  ·exact h.sh.lt _ (.inr rfl)
section
variable{w w':World}{F:Nat->Prop}{ap pb base kind:Nat}{bs:List UInt8}{ts:List Tch}{q:Pq}
theorem Q2M(h:(arT ap bs ts*pgT bs.length pb ap base kind q).P w F):PGs (ow w) (oth w F) pb ap base kind (q.st bs ts) w:=by
 obtain⟨F1,F2,a,⟨rc,wc,sb,sg,g,rfl⟩,d,rfl⟩:=h;exact⟨rc,wc,sb,sg,F1,⟨g.head,a,g.cr,g.cw,g.sh,g.gr,g.gw,g.k8,g.hl,g.fl,g.d,fun j hj hk=>d j hk hj⟩,fun j hj=>⟨Nat.zero_le _,fun x=>x.2 (hj.elim .inr .inl)⟩,fun j hj=>⟨Nat.zero_le _,hj.1⟩,Qd7 w⟩
theorem Q5v{s:St}(h:PGs (ow w) (oth w F) pb ap base kind s w')(hm:Mod (fun j=>¬oth w F j) w w'):∃F',(arT ap s.bs s.ts*pgT s.bs.length pb ap base kind s.pq).P w' F' /\ Step F w F' w':=by
 obtain⟨rc,wc,sb,sg,FA,g,hn,hk,hE⟩:=h;exact⟨fun j=>FA j \/ ownP pb rc wc sb sg j,⟨FA,ownP pb rc wc sb sg,g.ar,⟨rc,wc,sb,sg,⟨g.head,g.cr,g.cw,g.sh,g.gr,g.gw,g.k8,g.hl,g.fl,g.d⟩,rfl⟩,fun j hj hk=>g.nF j hk hj,rfl⟩,QeH hm fun j hj=>(hn j (hj.elim .inr .inl)).2⟩
def pgA(pb ap base kind:Nat)(s:St):Thing:=arT ap s.bs s.ts*pgT s.bs.length pb ap base kind s.pq
theorem Qcj(hl:ts.length<549755813000):Tri 231 #[zP pb] (arT ap bs ts*pgT bs.length pb ap base kind q)
  (fun v=>only (v=.tuple #[.int .i64 (aloI (unitN kind) (perN kind) base (q.st bs ts)),.int .i64 (aloE (unitN kind) (perN kind) base (q.st bs ts))]) (pgA pb ap base kind (aloS (unitN kind) (perN kind) base (q.st bs ts)))):=by
 intro w F R h r;refine(Q2M h).alloc hl fun w' g m=>?_;obtain⟨F',p,s⟩:=Q5v g m;exact r _ w' F' ⟨rfl,p⟩ s
theorem QeV(hl:ts.length<549755812000)(k:Int):Tri 237 #[zP pb,.int .i64 k] (arT ap bs ts*pgT bs.length pb ap base kind q)
  (fun v=>only (v=.int .i64 (Sf.giveE q.hs k)) (pgA pb ap base kind (freS (unitN kind) (perN kind) base (q.st bs ts) k))):=by
 intro w F R h r;refine(Q2M h).free hl k fun w' g m=>?_;obtain⟨F',p,s⟩:=Q5v g m;exact r _ w' F' ⟨rfl,p⟩ s
theorem Qgl{g:FuncId}{args:Array Value}{X:Value}(c:∀ {w0 w:World} {K:Nat->Prop} {R:VW},PGs w0 K pb ap base kind (q.st bs ts) w->R X w->CS g args w R) :
  Tri g args (arT ap bs ts*pgT bs.length pb ap base kind q) (fun v=>only (v=X) (arT ap bs ts*pgT bs.length pb ap base kind q)):=by
 intro w F R h r;exact c (Q2M h) (r _ w F ⟨rfl,h⟩ (Step.refl _ _))
end
end
end Go.Proofs.YtpnbcakbefplpaaGreatDoor
