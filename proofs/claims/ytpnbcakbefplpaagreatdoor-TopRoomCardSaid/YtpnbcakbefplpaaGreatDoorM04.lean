/- Texts merged: TKeys TT TW ColourP ColourM Colour2 TX TY Hd CapsM Caps Caps2 Caps3 TZ TI TJ TR TP TPo TPp TPq TPr GwOwn2 TPs TPt TG TH TH2 TPg TH3 TH4 TH5 TH6. Conditions: none. -/
import Derived.Shelf.SlIterI.Nil
import Derived.Sort.OwnSortedInts
import Derived.Test.YtpnbcakbefplpaaGreatDoorM03
set_option linter.unusedVariables false
set_option linter.unusedSimpArgs false
namespace Go.Proofs.YtpnbcakbefplpaaGreatDoor
set_option maxRecDepth 100000
section
open Go.RowKit Go.Maps Go.Sort Go.Shelf
def keyRen:Go.Shelf.Ren:=
 {f:=fun n=>cond (Nat.beq n 6) 90 (cond (Nat.beq n 7) 91 (cond (Nat.beq n 8) 138 (cond (Nat.beq n 9) 49 (cond (Nat.beq n 10) 139 (cond (Nat.beq n 11) 200 (cond (Nat.beq n 12) 93 (cond (Nat.beq n 13) 94 (cond (Nat.beq n 14) 140 (cond (Nat.beq n 15) 141 (cond (Nat.beq n 16) 142 (cond (Nat.beq n 17) 143 (cond (Nat.beq n 18) 144 (cond (Nat.beq n 19) 145 (cond (Nat.beq n 20) 146 (cond (Nat.beq n 21) 147 (cond (Nat.beq n 22) 148 (cond (Nat.beq n 23) 149 (cond (Nat.beq n 24) 150 (cond (Nat.beq n 25) 201 (cond (Nat.beq n 26) 202 (cond (Nat.beq n 27) 203 (cond (Nat.beq n 28) 204 (cond (Nat.beq n 29) 205 (cond (Nat.beq n 30) 206 (cond (Nat.beq n 31) 244 (cond (Nat.beq n 32) 270 (cond (Nat.beq n 33) 271 (cond (Nat.beq n 34) 272 (cond (Nat.beq n 35) 273 (cond (Nat.beq n 36) 274 (cond (Nat.beq n 37) 275 (cond (Nat.beq n 38) 276 (cond (Nat.beq n 39) 277 (cond (Nat.beq n 40) 278 (cond (Nat.beq n 41) 279 (cond (Nat.beq n 42) 280 (cond (Nat.beq n 43) 281 (cond (Nat.beq n 44) 282 (cond (Nat.beq n 45) 283 (cond (Nat.beq n 46) 284 (cond (Nat.beq n 47) 289 (0)))))))))))))))))))))))))))))))))))))))))),t:=fun n=>cond (Nat.beq n 0) 0 (cond (Nat.beq n 1) 1 (cond (Nat.beq n 2) 2 (cond (Nat.beq n 3) 3 (cond (Nat.beq n 4) 4 (cond (Nat.beq n 5) 5 (cond (Nat.beq n 8) 8 (cond (Nat.beq n 9) 9 (cond (Nat.beq n 10) 10 (cond (Nat.beq n 11) 11 (cond (Nat.beq n 12) 12 (cond (Nat.beq n 14) 14 (cond (Nat.beq n 15) 15 (cond (Nat.beq n 16) 16 (cond (Nat.beq n 17) 17 (cond (Nat.beq n 20) 20 (cond (Nat.beq n 21) 21 (cond (Nat.beq n 22) 48 (cond (Nat.beq n 23) 48 (cond (Nat.beq n 24) 37 (cond (Nat.beq n 25) 150 (cond (Nat.beq n 26) 3 (cond (Nat.beq n 27) 151 (cond (Nat.beq n 28) 152 (cond (Nat.beq n 29) 153 (cond (Nat.beq n 32) 95 (cond (Nat.beq n 33) 51 (cond (Nat.beq n 34) 258 (cond (Nat.beq n 35) 157 (cond (Nat.beq n 36) 158 (cond (Nat.beq n 37) 50 (cond (Nat.beq n 38) 206 (cond (Nat.beq n 39) 207 (cond (Nat.beq n 40) 208 (cond (Nat.beq n 41) 209 (cond (Nat.beq n 42) 210 (cond (Nat.beq n 43) 100 (cond (Nat.beq n 44) 211 (cond (Nat.beq n 45) 49 (cond (Nat.beq n 46) 212 (cond (Nat.beq n 47) 213 (cond (Nat.beq n 48) 214 (cond (Nat.beq n 49) 215 (cond (Nat.beq n 50) 33 (cond (Nat.beq n 51) 259 (cond (Nat.beq n 52) 260 (cond (Nat.beq n 53) 261 (cond (Nat.beq n 54) 262 (cond (Nat.beq n 55) 169 (cond (Nat.beq n 56) 263 (cond (Nat.beq n 57) 287 (cond (Nat.beq n 58) 288 (cond (Nat.beq n 59) 289 (cond (Nat.beq n 60) 170 (cond (Nat.beq n 62) 316 (cond (Nat.beq n 63) 317 (cond (Nat.beq n 65) 319 (cond (Nat.beq n 66) 36 (cond (Nat.beq n 69) 322 (cond (Nat.beq n 70) 281 (cond (Nat.beq n 75) 304 (0))))))))))))))))))))))))))))))))))))))))))))))))))))))))))))),g:=fun _=>0}
theorem keyLays:Go.Proofs.SlLaysZI.n7 Tryz.prog keyRen:=
 { mixed := by kernel_rfl, f7 := ⟨ "maps.Keys[map[int]int,int,int]", by decide, by kernel_rfl⟩, f10 := ⟨ "maps.Keys[map[int]int,int,int]$1", by decide, by kernel_rfl⟩, t0 := by kernel_rfl, a0 := fun _ => by kernel_rfl, z0 := fun _ => by kernel_rfl, v0 := fun _ => by kernel_rfl, t4 := by kernel_rfl, a4 := fun _ => by kernel_rfl, z4 := fun _ => by kernel_rfl, v4 := fun _ => by kernel_rfl, t23 := by kernel_rfl, a23 := fun _ => by kernel_rfl, z23 := fun _ => by kernel_rfl, v23 := fun _ => by kernel_rfl, t26 := by kernel_rfl, a26 := fun _ => by kernel_rfl, z26 := fun _ => by kernel_rfl, v26 := fun _ => by kernel_rfl, t27 := by kernel_rfl, a27 := fun _ => by kernel_rfl, z27 := fun _ => by kernel_rfl, v27 := fun _ => by kernel_rfl, t28 := by kernel_rfl, a28 := fun _ => by kernel_rfl, z28 := fun _ => by kernel_rfl, v28 := fun _ => by kernel_rfl, t33 := by kernel_rfl, a33 := fun _ => by kernel_rfl, z33 := fun _ => by kernel_rfl, v33 := fun _ => by kernel_rfl }
def sedRen:Go.Shelf.Ren:=
 {f:=fun n=>cond (Nat.beq n 6) 90 (cond (Nat.beq n 7) 91 (cond (Nat.beq n 8) 138 (cond (Nat.beq n 9) 49 (cond (Nat.beq n 10) 139 (cond (Nat.beq n 11) 200 (cond (Nat.beq n 12) 93 (cond (Nat.beq n 13) 94 (cond (Nat.beq n 14) 140 (cond (Nat.beq n 15) 141 (cond (Nat.beq n 16) 142 (cond (Nat.beq n 17) 143 (cond (Nat.beq n 18) 144 (cond (Nat.beq n 19) 145 (cond (Nat.beq n 20) 146 (cond (Nat.beq n 21) 147 (cond (Nat.beq n 22) 148 (cond (Nat.beq n 23) 149 (cond (Nat.beq n 24) 150 (cond (Nat.beq n 25) 201 (cond (Nat.beq n 26) 202 (cond (Nat.beq n 27) 203 (cond (Nat.beq n 28) 204 (cond (Nat.beq n 29) 205 (cond (Nat.beq n 30) 206 (cond (Nat.beq n 31) 244 (cond (Nat.beq n 32) 270 (cond (Nat.beq n 33) 271 (cond (Nat.beq n 34) 272 (cond (Nat.beq n 35) 273 (cond (Nat.beq n 36) 274 (cond (Nat.beq n 37) 275 (cond (Nat.beq n 38) 276 (cond (Nat.beq n 39) 277 (cond (Nat.beq n 40) 278 (cond (Nat.beq n 41) 279 (cond (Nat.beq n 42) 280 (cond (Nat.beq n 43) 281 (cond (Nat.beq n 44) 282 (cond (Nat.beq n 45) 283 (cond (Nat.beq n 46) 284 (cond (Nat.beq n 47) 289 (0)))))))))))))))))))))))))))))))))))))))))),t:=fun n=>cond (Nat.beq n 0) 0 (cond (Nat.beq n 1) 1 (cond (Nat.beq n 2) 2 (cond (Nat.beq n 3) 3 (cond (Nat.beq n 4) 4 (cond (Nat.beq n 5) 5 (cond (Nat.beq n 8) 8 (cond (Nat.beq n 9) 9 (cond (Nat.beq n 10) 10 (cond (Nat.beq n 11) 11 (cond (Nat.beq n 12) 12 (cond (Nat.beq n 14) 14 (cond (Nat.beq n 15) 15 (cond (Nat.beq n 16) 16 (cond (Nat.beq n 17) 17 (cond (Nat.beq n 20) 20 (cond (Nat.beq n 21) 21 (cond (Nat.beq n 22) 48 (cond (Nat.beq n 23) 48 (cond (Nat.beq n 24) 37 (cond (Nat.beq n 25) 150 (cond (Nat.beq n 26) 3 (cond (Nat.beq n 27) 151 (cond (Nat.beq n 28) 152 (cond (Nat.beq n 29) 153 (cond (Nat.beq n 32) 95 (cond (Nat.beq n 33) 51 (cond (Nat.beq n 34) 258 (cond (Nat.beq n 35) 157 (cond (Nat.beq n 36) 158 (cond (Nat.beq n 37) 50 (cond (Nat.beq n 38) 206 (cond (Nat.beq n 39) 207 (cond (Nat.beq n 40) 208 (cond (Nat.beq n 41) 209 (cond (Nat.beq n 42) 210 (cond (Nat.beq n 43) 100 (cond (Nat.beq n 44) 211 (cond (Nat.beq n 45) 49 (cond (Nat.beq n 46) 212 (cond (Nat.beq n 47) 213 (cond (Nat.beq n 48) 214 (cond (Nat.beq n 49) 215 (cond (Nat.beq n 50) 33 (cond (Nat.beq n 51) 259 (cond (Nat.beq n 52) 260 (cond (Nat.beq n 53) 261 (cond (Nat.beq n 54) 262 (cond (Nat.beq n 55) 169 (cond (Nat.beq n 56) 263 (cond (Nat.beq n 57) 287 (cond (Nat.beq n 58) 288 (cond (Nat.beq n 59) 289 (cond (Nat.beq n 60) 170 (cond (Nat.beq n 62) 316 (cond (Nat.beq n 63) 317 (cond (Nat.beq n 65) 319 (cond (Nat.beq n 66) 36 (cond (Nat.beq n 69) 322 (cond (Nat.beq n 70) 281 (cond (Nat.beq n 75) 304 (0))))))))))))))))))))))))))))))))))))))))))))))))))))))))))))),g:=fun _=>0}
theorem sedLays:Go.Proofs.SlLaysZI.n6 Tryz.prog sedRen:=
 { mixed := by kernel_rfl, f6 := ⟨ "slices.Sorted[int]", by decide, by kernel_rfl⟩, f8 := ⟨ "slices.Collect[int]", by decide, by kernel_rfl⟩, f11 := ⟨ "slices.AppendSeq[[]int,int]", by decide, by kernel_rfl⟩, t0 := by kernel_rfl, a0 := fun _ => by kernel_rfl, z0 := fun _ => by kernel_rfl, v0 := fun _ => by kernel_rfl, t24 := by kernel_rfl, a24 := fun _ => by kernel_rfl, z24 := fun _ => by kernel_rfl, v24 := fun _ => by kernel_rfl, t26 := by kernel_rfl, a26 := fun _ => by kernel_rfl, z26 := fun _ => by kernel_rfl, v26 := fun _ => by kernel_rfl, t28 := by kernel_rfl, a28 := fun _ => by kernel_rfl, z28 := fun _ => by kernel_rfl, v28 := fun _ => by kernel_rfl, i26 := by kernel_rfl }
theorem sortsT(m:Nat):AnyZI.SortsIn Tryz.prog sedRen Fence.wide m:=
 ⟨fun blk off cap ss W hH hblk hsz=>callsIn_wide.2 (Any.slices_Sort_int srtLays blk off cap ss W hH hblk hsz),
  fun p cap W=>callsIn_wide.2 (Any.slices_Sort_int_none srtLays p cap W)⟩
theorem intKeys_of{D:DataW Value}{w:World}{b sz:Nat}{m:Int->Option Value}(hown:w.ownsMap Tryz.prog 3 rdV b sz D)(hm:∀k z,D.atKey (.int .i64 k) z=match m k with | some v=>.held v | none=>z) :
  (intKeys D).Nodup /\ ∀k,k ∈ intKeys D ↔ (m k).isSome=true:=by
 obtain⟨es,hD,hpw,_⟩:=hown.entries (int_keyed Q0K);obtain⟨es',hD',hko⟩:=hown.keysOf;obtain rfl:es=es':=by rw[hD] at hD';simpa using hD'
 subst hD;have hk:∀p ∈ es,∃x,p.1=.int .i64 x:=fun p hp=>by
  obtain⟨v,hv⟩:=hko p hp;obtain⟨x,_,hx,_⟩:=Maps.keyOf_i64 Q0K hv;exact⟨x,hx⟩
 have hh:∀k,Maps.has (.map es) (.int .i64 k)=(m k).isSome:=fun k=>by
  cases hmk:m k with
  | none=>exact Maps.has_false_of_atKey fun z=>by rw[hm,hmk]
  | some v=>exact Maps.has_true_of_atKey (y:=.held v) fun z=>by rw[hm,hmk]
 refine⟨?_,fun x=>?_⟩
 ·show(es.map fun p=>Go.intOf p.1).Nodup;refine List.pairwise_map.2 (hpw.imp_of_mem fun {p q} hp' hq' hne e=>hne ?_);obtain⟨a,ha⟩:=hk p hp';obtain⟨b,hb⟩:=hk q hq';rw[ha,hb] at e ⊢;exact congrArg _ e
 ·rw[<-hh,has_eq,List.any_eq_true];show x ∈ es.map (fun p=>Go.intOf p.1) ↔ _;rw[List.mem_map];constructor
  ·rintro⟨p,hp',rfl⟩;obtain⟨a,ha⟩:=hk p hp';exact⟨p,hp',by rw[ha];simp[Lit.sameKey,Go.intOf]⟩
  ·rintro⟨p,hp',hs⟩;obtain⟨a,ha⟩:=hk p hp';rw[ha] at hs;exact⟨p,hp',by rw[ha];simpa [Lit.sameKey,Go.intOf] using hs⟩
theorem skeys{w:World}{b sz:Nat}{m:Int->Option Value}(h:IMap w Tryz.prog 3 .i64 b m sz)(hsz:sz<=1000000){R:VW}
  (r:∀(p:Option Addr)(c:Nat)(w':World)(ss:List Int),ss.Nodup->ss.Pairwise (·<=·)->(∀k,k ∈ ss ↔ (m k).isSome=true)->ORow w' 3 1 intF (.slice p ss.length c) ss->Ext w w'->(∀j,(Value.slice p ss.length c).ownBlock=some j->w.heap.size<=j)->R (.slice p ss.length c) w') :
  CS 91 #[.map (some b)] w fun v2 w3=>∃v4,v2=v4 /\ CS 90 #[v4] w3 R:=by
 obtain⟨D0,hown,hm,hs⟩:=h.own;have hbl:=hown.lt;obtain⟨k1,k2⟩:=intKeys_of hown hm;have hseq:SeqGives Fence.wide 2 Tryz.prog 139 #[.pointer (some ⟨w.heap.size,0,none⟩)] encZ (fun ss=>ss.Perm (intKeys D0)) (Maps.size D0) (w.alloc (.cells #[.map (some b)] 48)):=
  AnyZI.keys_gives (ρ:=keyRen) {keyLays with} Fence.wide _ trivial rfl (by omega) w.heap.size b sz D0 _ (by simp) (by simp) (by
   obtain⟨es,clock,hb,Ft,hs,hD⟩:=hown;exact⟨es,clock,(Below.heap_alloc _ _ b hbl).trans hb,Ft,hs,hD⟩)
 have cK:CallsIn Fence.wide 5 Tryz.prog 91 #[.map (some b)] w fun e w'=>e=.returned (.func (.func 139) #[] #[.pointer (some ⟨w.heap.size,0,none⟩)]) /\ w'=w.alloc (.cells #[.map (some b)] 48):=AnyZI.keys_in keyLays Fence.wide 5 trivial rfl (some b) w;have cS:=AnyZI.sorted_in sedLays Fence.wide 5 trivial trivial trivial trivial rfl (by omega) (sortsT _) (enters_of Tryz.func49 (by kernel_rfl) rfl) 139 #[.pointer (some ⟨w.heap.size,0,none⟩)] trivial (enters_of Tryz.func139 (by kernel_rfl) rfl) _ _ (by simp only[maxLen];omega) (by omega) _ hseq
 change CallsIn _ _ Tryz.prog 90 _ _ _ at cS
 refine⟨(callsIn_wide.1 cK).mono ?_⟩;rintro e w3 ⟨rfl,rfl⟩;refine⟨_,rfl,⟨(callsIn_wide.1 cS).mono ?_⟩⟩;rintro e w' ⟨v,ss,rfl,hp,hrow,hnil,hB⟩;have hE0:=Ext.alloc w (.cells #[.map (some b)] 48);have hs0:(w.alloc (.cells #[.map (some b)] 48)).heap.size=w.heap.size+1:=by simp
 have tr:∀a b c:Int,decide (a<=b)=true->decide (b<=c)=true->decide (a<=c)=true:=fun a b c h1 h2=>decide_eq_true (Int.le_trans (zzodt h1) (zzodt h2));have to:∀a b:Int,(decide (a<=b) || decide (b<=a))=true:=fun a b=>by rcases Int.le_total a b with h | h <;> simp[h]
 have hperm:=(List.mergeSort_perm ss fun x y=>decide (x<=y)).trans hp;have hlen:(ss.mergeSort fun x y=>decide (x<=y)).length=ss.length:=List.length_mergeSort _;generalize hzz:(ss.mergeSort fun x y=>decide (x<=y))=zz at hrow hperm hlen;have hpair:zz.Pairwise (·<=·):=by
  rw[<-hzz];exact(List.pairwise_mergeSort tr to ss).imp fun h=>zzodt h
 have hfl:zz.map encZ=zz.flatMap intF:=by
  clear hrow hperm hlen hpair hzz
  induction zz with
  | nil=>rfl
  | cons x l ih=>rw[List.map_cons,List.flatMap_cons,ih];rfl
 rw[hfl,<-hlen] at hrow;have hrow0:ORow w' 3 1 intF v zz:=⟨hrow.1,hrow.2.imp id fun⟨g,cap,cur,a,_,c⟩=>⟨g,cap,cur,a,Nat.zero_le _,c⟩⟩;obtain⟨p,c,rfl⟩:=hrow0.shape;refine r p c w' zz (hperm.nodup_iff.2 k1) hpair (fun k=>by rw[hperm.mem_iff];exact k2 k) hrow0 ?_ (fun j hj=>?_)
 ·exact hE0.trans ⟨hB.os,hB.tape,hB.output,hB.size,fun k hk _=>hB.block k hk⟩
 ·have:=(World.ownsRow.lt hrow j hj).1;omega
end
section
open Go.RowKit Go.Maps Thing
def rmT(T:Tb)(v:Int):Tb:=T.filter fun x=>!decide (x.1=v)
def allT(T:Tb):List Int:=(T.map (·.1)).mergeSort fun x y=>decide (x<=y)
section
variable{T:Tb}{v p k:Int}{x:Int × Int}
theorem Q17(g:TOk T)(h:x ∈ T):fndO T x.1=some x:=by
 cases hf:fndO T x.1 with
 | none=>exact absurd rfl (Q1Z hf x h)
 | some y=>
  obtain⟨hy,e⟩:=Q0a hf;rw[Q0x g.n1 hy h e]
theorem hldO_mem(g:TOk T)(h:x ∈ T):hldO T x.2=some x:=by
 cases hf:hldO T x.2 with
 | none=>exact absurd rfl (Q1d hf x h)
 | some y=>
  obtain⟨hy,e⟩:=Q1p hf;rw[Q0x g.n2 hy h e]
theorem Q2R(g:TOk T):fndO T k=some x ↔ x ∈ T /\ x.1=k:=
 ⟨Q0a,fun⟨h,e⟩=>by rw[<-e];exact Q17 g h⟩
theorem Q2K(g:TOk T):hldO T k=some x ↔ x ∈ T /\ x.2=k:=
 ⟨Q1p,fun⟨h,e⟩=>by rw[<-e];exact hldO_mem g h⟩
theorem Q35{X:Type}{a b:Option X}(h:∀x,a=some x ↔ b=some x):a=b:=by
 cases a with
 | none=>cases b with
  | none=>rfl
  | some y=>exact absurd ((h y).2 rfl) (by simp)
 | some y=>exact((h y).1 rfl).symm
theorem rm_ok(g:TOk T):TOk (rmT T v):=
 ⟨fun x hx=>g.rng x ((List.mem_filter.1 hx).1),g.n1.sublist (List.filter_sublist.map _),g.n2.sublist (List.filter_sublist.map _)⟩
theorem fndO_rm(g:TOk T):fndO (rmT T v) k=if k=v then none else fndO T k:=by
 refine Q35 fun x=>?_;rw[Q2R (rm_ok g)];by_cases e:k=v
 ·rw[if_pos e];simp only[rmT,List.mem_filter,Bool.not_eq_true',decide_eq_false_iff_not,reduceCtorEq,iff_false];rintro⟨⟨_,h1⟩,h2⟩;exact h1 (h2.trans e)
 ·rw[if_neg e,Q2R g];simp only[rmT,List.mem_filter,Bool.not_eq_true',decide_eq_false_iff_not];exact⟨fun h=>⟨h.1.1,h.2⟩,fun h=>⟨⟨h.1,fun q=>e (h.2.symm.trans q)⟩,h.2⟩⟩
theorem hldO_rm(g:TOk T)(h:fndO T v=some x):hldO (rmT T v) k=if k=x.2 then none else hldO T k:=by
 obtain⟨hx,hv⟩:=Q0a h;refine Q35 fun y=>?_;rw[Q2K (rm_ok g)];by_cases e:k=x.2
 ·rw[if_pos e];simp only[rmT,List.mem_filter,Bool.not_eq_true',decide_eq_false_iff_not,reduceCtorEq,iff_false];rintro⟨⟨h0,h1⟩,h2⟩;have:=Q0x g.n2 h0 hx (h2.trans e);exact h1 (by rw[this];exact hv)
 ·rw[if_neg e,Q2K g];simp only[rmT,List.mem_filter,Bool.not_eq_true',decide_eq_false_iff_not];refine⟨fun h=>⟨h.1.1,h.2⟩,fun h=>⟨⟨h.1,fun q=>e ?_⟩,h.2⟩⟩;have:=Q0x g.n1 h.1 hx (q.trans hv.symm);rw[<-h.2,this]
theorem rm_none(h:fndO T v=none):rmT T v=T:=List.filter_eq_self.2 fun x hx=>by simpa using Q1Z h x hx
theorem rm_len(g:TOk T)(h:fndO T v=some x):(rmT T v).length+1=T.length:=by
 obtain⟨hx,hv⟩:=Q0a h;obtain⟨a,b,rfl⟩:=List.append_of_mem hx;have n1:=g.n1;rw[List.map_append,List.map_cons] at n1;obtain⟨na,nb,dab⟩:=List.nodup_append.1 n1;have ha:∀y ∈ a,y.1 ≠ v:=fun y hy e=>dab y.1 (List.mem_map.2 ⟨y,hy,rfl⟩) x.1 (by simp) (e.trans hv.symm);have hb:∀y ∈ b,y.1 ≠ v:=fun y hy e=>(List.nodup_cons.1 nb).1 (List.mem_map.2 ⟨y,hy,e.trans hv.symm⟩);unfold rmT;rw[List.filter_append,List.filter_cons,List.filter_eq_self.2 (fun y hy=>by simpa using ha y hy),List.filter_eq_self.2 (fun y hy=>by simpa using hb y hy)];simp[hv];omega
theorem Q13(g:TOk T):(allT T).Nodup /\ (allT T).Pairwise (·<=·) /\ ∀k,k ∈ allT T ↔ (fndO T k).isSome=true:=by
 have tr:∀a b c:Int,decide (a<=b)=true->decide (b<=c)=true->decide (a<=c)=true:=fun a b c h1 h2=>decide_eq_true (Int.le_trans (zzodt h1) (zzodt h2));have to:∀a b:Int,(decide (a<=b) || decide (b<=a))=true:=fun a b=>by rcases Int.le_total a b with h | h <;> simp[h]
 have hp:=List.mergeSort_perm (T.map (·.1)) fun x y=>decide (x<=y);refine⟨hp.nodup_iff.2 g.n1,(List.pairwise_mergeSort tr to _).imp fun h=>zzodt h,fun k=>?_⟩;unfold allT;rw[hp.mem_iff,List.mem_map];constructor
 ·rintro⟨x,hx,rfl⟩;rw[Q17 g hx];rfl
 ·intro h;obtain⟨x,hx⟩:=zzise.1 h;exact⟨x,(Q0a hx).1,(Q0a hx).2⟩
theorem sorted_unique{l m:List Int}(n1:l.Nodup)(n2:m.Nodup)(p1:l.Pairwise (·<=·))(p2:m.Pairwise (·<=·))(h:∀k,k ∈ l ↔ k ∈ m):l=m:=
 List.Perm.eq_of_pairwise (le:=fun a b=>a<=b) (fun a b _ _ h1 h2=>Int.le_antisymm h1 h2) p1 p2 ((List.perm_ext_iff_of_nodup n1 n2).2 h)
theorem all_len(T:Tb):(allT T).length=T.length:=by unfold allT;rw[List.length_mergeSort,List.length_map]
variable{w:World}{tb:Nat}{F:Nat->Prop}{R:VW}
theorem t_tlen(h:(tbT tb T).P w F)(r:R (.int .i64 (T.length:Int)) w):CS 226 #[zP tb] w R:=by
 obtain⟨m1,m2,h,_⟩:=h;constructor;refine vc196.ok ?_;unfold vc196;exact Q00 rfl ⟨_,by rw[Q02];exact Q01 h.head rfl,_,w,h.pg.len uTM _,r⟩
theorem t_tall(h:(tbT tb T).P w F)(r:∀p c w',ORow w' 3 1 intF (.slice p (allT T).length c) (allT T)->Ext w w'->(∀j,(Value.slice p (allT T).length c).ownBlock=some j->w.heap.size<=j)->R (.slice p (allT T).length c) w') :
  CS 47 #[zP tb] w R:=by
 obtain⟨m1,m2,h,_⟩:=h;constructor;refine vc78.ok ?_;unfold vc78;refine Q00 rfl ⟨_,by rw[Q02];exact Q01 h.head rfl,skeys h.pg h.few fun p c w' ss nd pw mem hrow hE hnew=>?_⟩;obtain⟨a1,a2,a3⟩:=Q13 h.ok;have e:ss=allT T:=sorted_unique nd a1 pw a2 fun k=>by
  rw[mem,a3];unfold pgM;cases fndO T k <;> simp
 subst e;exact⟨_,_,_,rfl,r p c w' hrow hE hnew⟩
theorem t_tunmap(hv:I64w v):Tri 225 #[zP tb,.int .i64 v] (tbT tb T)
  (fun u=>only (u=match fndO T v with | some x=>.tuple #[.int .i64 x.2,.int .i64 0] | none=>.tuple #[.int .i64 0,.int .i64 13]) (tbT tb (rmT T v))):=by
 rintro w F R ⟨m1,m2,h,rfl⟩ r;constructor;refine vc195.ok ?_;unfold vc195;refine h.find hv ⟨_,rfl,Q00 rfl ?_⟩;cases hf:fndO T v with
 | none=>
  have e:fnd T v = -1:=by unfold fnd;rw[hf]
  rw[e];refine Q04 rfl (r _ w _ ⟨by rw[hf],?_⟩ (Step.refl _ _));rw[rm_none hf];exact⟨m1,m2,h,rfl⟩
 | some x=>
  have e:fnd T v=x.2:=by unfold fnd;rw[hf]
  have g:=h.ok;have rx:=g.rng x (Q0a hf).1;rw[e];obtain⟨d1,d2,d3⟩:=h.d;obtain⟨w5,r5,i5,m5,_⟩:=h.pg.drop uTI uTM hv 0;have hd5:=m5.keep h.head d1;have lc5:=h.lc.keep m5 (fun e=>d3 e.symm);obtain⟨w8,r8,i8,m8,_⟩:=lc5.drop uTI uTM (i64w (x:=x.2) (by omega) (by omega)) 0;have hd8:=m8.keep hd5 d2;have e1:upd (pgM T) v none=pgM (rmT T v):=by
   funext k;unfold upd pgM;rw[fndO_rm g];by_cases q:k=v
   ·rw[if_pos q,if_pos q];rfl
   ·rw[if_neg q,if_neg q]
  have e2:upd (lcM T) x.2 none=lcM (rmT T v):=by
   funext k;unfold upd lcM;rw[hldO_rm g hf];by_cases q:k=x.2
   ·rw[if_pos q,if_pos q];rfl
   ·rw[if_neg q,if_neg q]
  have p1:(pgM T v).isSome=true:=by unfold pgM;rw[hf];rfl
  have p2:(lcM T x.2).isSome=true:=by unfold lcM;rw[hldO_mem g (Q0a hf).1];rfl
  have hl:=rm_len g hf;rw[e1,if_pos p1,show T.length-1=(rmT T v).length by omega] at i5;rw[e2,if_pos p2,show T.length-1=(rmT T v).length by omega] at i8;refine Q0y (by omega) ⟨_,by rw[Q02];exact Q01 h.head rfl,w5,r5,_,by rw[Q02];exact Q01 hd5 rfl,w8,r8,r _ w8 (ownT tb m1 m2) ⟨by rw[hf],m1,m2,⟨hd8,i5.keep m8 d3,i8,h.d,rm_ok g,by have:=h.few;omega⟩,rfl⟩ ⟨?_,fun j hj=>.inl hj⟩⟩;exact Mod.trans (m5.mono fun j e=>Or.inr (Or.inl e)) m8 (fun j _ e=>.inr (.inr e))
end
end
section
open Go.RowKit Go.Maps Thing
section
variable{P:Program}{K t e:TypeId}{q:IntKind}{w:World}{b sz:Nat}{m:Int->Option Value}
theorem IMap.entry_old(h:IMap w P K q b m sz)(hK:P.underlying K=some (.int q))(ht:P.underlying t=some (.map K e))(hn:sz<maxLen){k:Int}(hk:(Lit.int q k).wf=true){u:Value}(hm:m k=some u)(v:Value)(hz:∀w,∃z,(zeroValue e).run P w=.ok z w) :
  ∃(w1:World)(st:Int),(Instr.mapEntry t (.map (some b)) (.int q k)).run P w=.ok (.tuple #[u,.int .i64 st]) w1 /\ Mod (· = b) w w1 /\ w1.heap.size=w.heap.size /\
   ∃w',(Instr.entryStore t (.map (some b)) (.int .i64 st) v).run P w1=.ok () w' /\ IMap w' P K q b (upd m k (some v)) sz /\ Mod (· = b) w1 w' /\ w'.heap.size=w1.heap.size:=by
 obtain⟨w3,hr3,h3,m3,s3⟩:=h.store hK ht hn hk v;rw[hm] at h3;obtain⟨z,hz⟩:=hz w;have hlook:=h.look hK ht hz hk;rw[hm] at hlook;have hlook2:=h.look_ok hK ht hz hk;rw[hm] at hlook2;obtain⟨D,⟨es,clock,hb,F,hs,_⟩,_⟩:=h.own;have KK:=int_keyed hK;have hkey:=keyOf_int_mk hK hk;rcases KK.find w hkey es.toList F.keys with⟨h1,h2⟩ | ⟨j,e0,h1,h2,h4⟩
 ·exfalso;simp[Instr.lookup,run_underlying ht,MapKept.run_getObj_map hb,KK.check w es.isEmpty hkey,h1,Result.andThen,hz] at hlook2
 have hj:es[j]? = some e0:=by simpa using h2
 have hjl:j<es.size:=(Array.getElem?_eq_some_iff.1 hj).1;have hu:e0.val=u:=by
  simp[Instr.lookup,run_underlying ht,MapKept.run_getObj_map hb,KK.check w es.isEmpty hkey,h1,Result.andThen,hz] at hlook;exact hlook
 have hst:=KK.stays w hkey
 let es1:=es.modify j fun x=>{x with key:=.int q k}
 let w1:=ChangeMaps.setBlock w b (.map es1 clock)
 have e1:(Instr.mapEntry t (.map (some b)) (.int q k)).run P w=.ok (.tuple #[u,.int .i64 (e0.born:Int)]) w1:=by
  simp[Instr.mapEntry,run_underlying ht,MapKept.run_getObj_map hb,KK.check w false hkey,h1,hj,h4,hst,MapKept.run_setObj_map _ hb,Result.andThen,w1,es1,ChangeMaps.setBlock,goInt,hu]
 have hb1:w1.heap[b]? = some (.map es1 clock):=(MapKept.heap_set hb).1;have hes1:es1=es:=by
  apply Array.ext
  ·simp[es1]
  ·intro i h1 h2;simp only[es1,Array.getElem_modify];split
   ·rename_i hij;subst hij;have:es[j]=e0:=by rw[Array.getElem?_eq_getElem hjl] at hj;exact Option.some.inj hj
    rw[this,<-h4]
   ·rfl
 have hnd:=F.stamped.2.1;have hfind:es1.findIdx? (fun e=>(e.born:Int) == (e0.born:Int))=some j:=by
  rw[hes1,Array.findIdx?_eq_some_iff_getElem];refine⟨hjl,?_,fun i hi=>?_⟩
  ·have:es[j]=e0:=by rw[Array.getElem?_eq_getElem hjl] at hj;exact Option.some.inj hj
   simp[this]
  ·have hij:es[i]=es.toList[i]'(by simpa using Nat.lt_trans hi hjl):=by simp
   intro heq;have e0j:es[j]=e0:=by rw[Array.getElem?_eq_getElem hjl] at hj;exact Option.some.inj hj
   have hq:((es[i]'(Nat.lt_trans hi hjl)).born:Int)=(e0.born:Int):=by simpa using heq
   have hborn:(es[i]'(Nat.lt_trans hi hjl)).born=es[j].born:=by rw[e0j];exact Int.ofNat.inj hq
   have:=(List.getElem?_inj (i:=i) (j:=j) (l:=es.toList.map (·.born)) (by simpa using Nat.lt_trans hi hjl) hnd).1 (by simp[hborn,hjl,Nat.lt_trans hi hjl]);omega
 have e2:(Instr.entryStore t (.map (some b)) (.int .i64 (e0.born:Int)) v).run P w1=.ok () (ChangeMaps.setBlock w1 b (.map (es1.modify j fun x=>{x with val:=v}) clock)):=by
  simp[Instr.entryStore,MapKept.run_getObj_map hb1,MapKept.run_setObj_map _ hb1,Result.andThen,asInt,asIntOf,hfind,ChangeMaps.setBlock]
 have e3:(Instr.mapUpdate t (.map (some b)) (.int q k) v).run P w=.ok () (ChangeMaps.setBlock w b (.map (es.modify j fun x=>{x with key:=.int q k,val:=v}) clock)):=by
  simp[Instr.mapUpdate,run_underlying ht,MapKept.run_getObj_map hb,KK.check w false hkey,h1,hj,h4,hst,MapKept.run_setObj_map _ hb,Result.andThen,ChangeMaps.setBlock]
 have emod:es1.modify j (fun x=>{x with val:=v})=es.modify j fun x=>{x with key:=.int q k,val:=v}:=by
  apply Array.ext
  ·simp[es1]
  ·intro i h1 h2;simp only[es1,Array.getElem_modify];split <;> rfl
 rw[hr3] at e3
 injection e3 with _ e3
 have hm1:Mod (· = b) w w1:=⟨rfl,rfl,rfl,by simp[w1,ChangeMaps.setBlock],fun i _ hi=>(MapKept.heap_set hb).2 i hi⟩;have hm2:Mod (· = b) w1 (ChangeMaps.setBlock w1 b (.map (es1.modify j fun x=>{x with val:=v}) clock)):=⟨rfl,rfl,rfl,by simp[ChangeMaps.setBlock],fun i _ hi=>(MapKept.heap_set hb1).2 i hi⟩;have hb3:w3.heap[b]? = some (.map (es.modify j fun x=>{x with key:=.int q k,val:=v}) clock):=by rw[e3];exact(MapKept.heap_set hb).1
 have hb4:(ChangeMaps.setBlock w1 b (.map (es1.modify j fun x=>{x with val:=v}) clock)).heap[b]? = some (.map (es.modify j fun x=>{x with key:=.int q k,val:=v}) clock):=by rw[<-emod];exact(MapKept.heap_set hb1).1
 refine⟨w1,e0.born,e1,hm1,by simp[w1,ChangeMaps.setBlock],_,e2,?_,hm2,by simp[ChangeMaps.setBlock]⟩;obtain⟨D',⟨es',clock',hb',rest⟩,h2',h3'⟩:=h3.own;rw[hb3] at hb'
 injection hb' with hb'
 injection hb' with p1 p2
 subst p1 p2;exact⟨D',⟨_,_,hb4,rest⟩,h2',h3'⟩
end
def swpT(T:Tb)(v p:Int):Tb:=T.map fun x=>if x.1=v then(v,p)else x
section
variable{T:Tb}{v p k:Int}{x:Int × Int}
theorem swp_fst(T:Tb)(v p:Int):(swpT T v p).map (·.1)=T.map (·.1):=by
 unfold swpT;rw[List.map_map];refine List.map_congr_left fun y _=>?_;show(if y.1=v then(v,p)else y).1=y.1;split
 ·rename_i h;exact h.symm
 ·rfl
theorem Q3l{y:Int × Int}(g:TOk T)(h:fndO T v=some x):y ∈ swpT T v p ↔ y=(v,p) \/ (y ∈ T /\ y.1 ≠ v):=by
 obtain⟨hx,hv⟩:=Q0a h;unfold swpT;rw[List.mem_map];constructor
 ·rintro⟨z,hz,rfl⟩;by_cases e:z.1=v
  ·rw[if_pos e];exact .inl rfl
  ·rw[if_neg e];exact .inr ⟨hz,e⟩
 ·rintro(rfl | ⟨hy,e⟩)
  ·exact⟨x,hx,if_pos hv⟩
  ·exact⟨y,hy,if_neg e⟩
theorem swp_ok(g:TOk T)(h:fndO T v=some x)(hp:hldO T p=none)(h0:0<=p /\ p<=1048576):TOk (swpT T v p):=by
 obtain⟨hx,hv⟩:=Q0a h;refine⟨fun y hy=>?_,by rw[swp_fst];exact g.n1,?_⟩
 ·rcases(Q3l g h).1 hy with rfl | ⟨hy,_⟩
  ·have:=g.rng x hx;rw[hv] at this;exact⟨this.1,this.2.1,h0.1,h0.2⟩
  ·exact g.rng y hy
 ·obtain⟨a,b,rfl⟩:=List.append_of_mem hx;have n1:=g.n1;have n2:=g.n2;rw[List.map_append,List.map_cons] at n1 n2;obtain⟨na,nb,dab⟩:=List.nodup_append.1 n1;have ha:∀y ∈ a,y.1 ≠ v:=fun y hy e=>dab y.1 (List.mem_map.2 ⟨y,hy,rfl⟩) x.1 (by simp) (e.trans hv.symm);have hb:∀y ∈ b,y.1 ≠ v:=fun y hy e=>(List.nodup_cons.1 nb).1 (List.mem_map.2 ⟨y,hy,e.trans hv.symm⟩);have e:swpT (a++x :: b) v p=a++(v,p) :: b:=by
   unfold swpT;rw[List.map_append,List.map_cons,if_pos hv];congr 1
   ·exact(List.map_congr_left fun y hy=>if_neg (ha y hy)).trans (List.map_id _)
   ·congr 1;exact(List.map_congr_left fun y hy=>if_neg (hb y hy)).trans (List.map_id _)
  rw[e,List.map_append,List.map_cons];have hnone:=Q1d hp;obtain⟨ma,mb,dab2⟩:=List.nodup_append.1 n2;obtain⟨mb1,mb2⟩:=List.nodup_cons.1 mb;refine List.nodup_append.2 ⟨ma,List.nodup_cons.2 ⟨fun q=>?_,mb2⟩,fun s hs t ht=>?_⟩
  ·obtain⟨y,hy,e⟩:=List.mem_map.1 q;exact hnone y (by simp[hy]) e
  ·rcases List.mem_cons.1 ht with rfl | ht
   ·obtain⟨y,hy,rfl⟩:=List.mem_map.1 hs;exact hnone y (by simp[hy])
   ·exact dab2 s hs t (zzmcm _ ht)
theorem fndO_swp(g:TOk T)(h:fndO T v=some x)(hp:hldO T p=none)(h0:0<=p /\ p<=1048576):fndO (swpT T v p) k=if k=v then some (v,p)else fndO T k:=by
 refine Q35 fun y=>?_;rw[Q2R (swp_ok g h hp h0),Q3l g h];by_cases e:k=v
 ·rw[if_pos e];constructor
  ·rintro⟨rfl | ⟨_,h1⟩,h2⟩
   ·rfl
   ·exact absurd (h2.trans e) h1
  ·intro q;cases q;exact⟨.inl rfl,e.symm⟩
 ·rw[if_neg e,Q2R g];constructor
  ·rintro⟨rfl | ⟨h1,_⟩,h2⟩
   ·exact absurd h2.symm e
   ·exact⟨h1,h2⟩
  ·rintro⟨h1,h2⟩;exact⟨.inr ⟨h1,fun q=>e (h2.symm.trans q)⟩,h2⟩
theorem hldO_swp(g:TOk T)(h:fndO T v=some x)(hp:hldO T p=none)(h0:0<=p /\ p<=1048576):hldO (swpT T v p) k=if k=p then some (v,p)else if k=x.2 then none else hldO T k:=by
 obtain⟨hx,hv⟩:=Q0a h;refine Q35 fun y=>?_;rw[Q2K (swp_ok g h hp h0),Q3l g h];by_cases e:k=p
 ·rw[if_pos e];constructor
  ·rintro⟨rfl | ⟨h1,_⟩,h2⟩
   ·rfl
   ·exact absurd (h2.trans e) (Q1d hp y h1)
  ·intro q;cases q;exact⟨.inl rfl,e.symm⟩
 ·rw[if_neg e];by_cases e2:k=x.2
  ·rw[if_pos e2];constructor
   ·rintro⟨rfl | ⟨h1,h3⟩,h2⟩
    ·exact absurd h2.symm e
    ·have:=Q0x g.n2 h1 hx (h2.trans e2);exact absurd (by rw[this];exact hv) h3
   ·intro q;cases q
  ·rw[if_neg e2,Q2K g];constructor
   ·rintro⟨rfl | ⟨h1,_⟩,h2⟩
    ·exact absurd h2.symm e
    ·exact⟨h1,h2⟩
   ·rintro⟨h1,h2⟩;refine⟨.inr ⟨h1,fun q=>e2 ?_⟩,h2⟩;have:=Q0x g.n1 h1 hx (q.trans hv.symm);rw[<-h2,this]
theorem swp_len(T:Tb)(v p:Int):(swpT T v p).length=T.length:=List.length_map _
variable{tb:Nat}
theorem t_tswap(hf:fndO T v=some x)(hp:hldO T p=none)(h0:0<=p /\ p<=1048576):Tri 169 #[zP tb,.int .i64 v,.int .i64 p] (tbT tb T)
  (fun u=>only (u=.tuple #[.int .i64 x.2,.int .i64 0]) (tbT tb (swpT T v p))):=by
 rintro w F R ⟨m1,m2,h,rfl⟩ r;have g:=h.ok;obtain⟨hx,hxv⟩:=Q0a hf;have rx:=g.rng x hx;have hv:I64w v:=i64w (by omega) (by omega);have hpw:I64w p:=i64w (by omega) (by omega);have few:=h.few;obtain⟨d1,d2,d3⟩:=h.d;have ef:fnd T v=x.2:=by unfold fnd;rw[hf]
 have eh:hld T p = -1:=by unfold hld;rw[hp]
 constructor;refine vc176.ok ?_;unfold vc176;refine h.find hv ⟨_,rfl,Q00 rfl (Q0y (by omega) (Q0y (by omega) ?_))⟩;rw[ef];refine Q0y (by omega) (h.holder hpw ⟨_,rfl,?_⟩);rw[eh];obtain⟨w5,r5,i5,m5,_⟩:=h.lc.drop uTI uTM (i64w (x:=x.2) (by omega) (by omega)) 0;have p2:(lcM T x.2).isSome=true:=by unfold lcM;rw[hldO_mem g hx];rfl
 rw[if_pos p2] at i5;have hd5:=m5.keep h.head d2;have pg5:=h.pg.keep m5 (fun e=>d3 e);have hlen:0<T.length:=List.length_pos_iff.2 (fun q=>by rw[q] at hx;cases hx);refine Q0y (by decide) ⟨_,by rw[Q02];exact Q01 h.head rfl,w5,r5,⟨vc42.ok ?_⟩⟩;unfold vc42;rintro w0 rfl;have hE0:=Ext.drew w5;have hd0:=hE0.keep hd5;obtain⟨w1,st1,r1,m1',s1,w2,r2,i2,mm2,s2⟩:=(pg5.ext hE0).entry_old uTI uTM (by simp only[maxLen];omega) hv (u:=.int .i64 x.2) (by unfold pgM;rw[hf];rfl) (.int .i64 p) (fun w=>⟨_,zTI w⟩);have lc2:=((i5.ext hE0).keep m1' (fun e=>d3 e.symm)).keep mm2 (fun e=>d3 e.symm);have hpx:p ≠ x.2:=fun q=>Q1d hp x hx q.symm;obtain⟨w3,st3,r3,m3',s3,w4,r4,i4,mm4,s4⟩:=lc2.entry_new uTI uTM (by simp only[maxLen];omega) zTI hpw (by unfold upd;rw[if_neg hpx];unfold lcM;rw[hp];rfl) (.int .i64 v);have e1:upd (pgM T) v (some (.int .i64 p))=pgM (swpT T v p):=by
  funext k;unfold upd pgM;rw[fndO_swp g hf hp h0];by_cases q:k=v
  ·rw[if_pos q,if_pos q];rfl
  ·rw[if_neg q,if_neg q]
 have e2:upd (upd (lcM T) x.2 none) p (some (.int .i64 v))=lcM (swpT T v p):=by
  funext k;unfold upd lcM;rw[hldO_swp g hf hp h0];by_cases q:k=p
  ·rw[if_pos q,if_pos q];rfl
  ·rw[if_neg q,if_neg q];by_cases q2:k=x.2
   ·rw[if_pos q2,if_pos q2];rfl
   ·rw[if_neg q2,if_neg q2]
 rw[e1] at i2;rw[e2,show T.length-1+1=T.length by omega] at i4;have hd4:=mm4.keep (m3'.keep (mm2.keep (m1'.keep hd0 d1) d1) d2) d2;refine⟨_,by rw[Q02];exact Q01 hd0 rfl,_,by rw[Q02];exact Q01 hd0 rfl,_,_,w1,r1,w2,r2,_,_,w3,r3,w4,r4,rfl,?_⟩;have hm:Mod (ownT tb m1 m2) w w4:=by
  have a0:=m5.mono (G:=ownT tb m1 m2) fun j e=>Or.inr (Or.inr e);have a1:=Mod.trans (Mod.trans a0 hE0 (fun _ _ x=>x.elim)) m1' (fun j _ e=>.inr (.inl e));have a2:=Mod.trans a1 mm2 (fun j _ e=>.inr (.inl e));have a3:=Mod.trans a2 m3' (fun j _ e=>.inr (.inr e));exact Mod.trans a3 mm4 (fun j _ e=>.inr (.inr e))
 exact r _ w4 _ ⟨rfl,m1,m2,⟨hd4,by rw[swp_len];exact(i2.keep m3' d3).keep mm4 d3,by rw[swp_len];exact i4,h.d,swp_ok g hf hp h0,by rw[swp_len];omega⟩,rfl⟩ ⟨hm,fun j hj=>.inl hj⟩
end
end
section
namespace Cl
open Go.Proofs.YtpnbcakbefplpaaGreatDoor.Sf
def inW(C:Nat)(l:List Int)(p:Nat):Bool:=l.any fun x=>x == ((p % C:Nat):Int)
def FrP(hs:List Bool)(C:Nat)(l:List Int)(p:Nat):Prop:=hs[p]? = some false /\ inW C l p=true
instance (hs:List Bool) (C:Nat) (l:List Int):DecidablePred (FrP hs C l):=fun p=>inferInstanceAs (Decidable (_ /\ _))
def IsLow(Q:Nat->Prop):Option Nat->Prop
 | some p=>Q p /\ ∀q,q<p->¬Q q
 | none=>∀q,¬Q q
theorem IsLow.unique{Q:Nat->Prop}{a b:Option Nat}(ha:IsLow Q a)(hb:IsLow Q b):a=b:=by
 cases a with
 | none=>cases b with
  | none=>rfl
  | some y=>exact absurd hb.1 (ha y)
 | some x=>cases b with
  | none=>exact absurd ha.1 (hb x)
  | some y=>
   congr 1;rcases Nat.lt_trichotomy x y with h | h | h
   ·exact absurd ha.1 (hb.2 x h)
   ·exact h
   ·exact absurd hb.1 (ha.2 y h)
theorem IsLow.congr{Q Q':Nat->Prop}{a:Option Nat}(h:∀p,Q p ↔ Q' p)(ha:IsLow Q a):IsLow Q' a:=by
 cases a with
 | none=>exact fun q hq=>ha q ((h q).2 hq)
 | some x=>exact⟨(h x).1 ha.1,fun q hq hq'=>ha.2 q hq ((h q).2 hq')⟩
def lesser:Option Nat->Option Nat->Option Nat
 | some x,some y=>some (if y<x then y else x)
 | some x,none=>some x
 | none,b=>b
theorem IsLow.or{Q Q':Nat->Prop}{a b:Option Nat}(ha:IsLow Q a)(hb:IsLow Q' b):IsLow (fun p=>Q p \/ Q' p) (lesser a b):=by
 cases a with
 | none=>cases b with
  | none=>exact fun q hq=>hq.elim (ha q) (hb q)
  | some y=>exact⟨.inr hb.1,fun q hq hq'=>hq'.elim (ha q) (hb.2 q hq)⟩
 | some x=>cases b with
  | none=>exact⟨.inl ha.1,fun q hq hq'=>hq'.elim (ha.2 q hq) (hb q)⟩
  | some y=>
   simp only[lesser];by_cases h:y<x
   ·rw[if_pos h];exact⟨.inr hb.1,fun q hq hq'=>hq'.elim (ha.2 q (Nat.lt_trans hq h)) (hb.2 q hq)⟩
   ·rw[if_neg h];exact⟨.inl ha.1,fun q hq hq'=>hq'.elim (ha.2 q hq) (hb.2 q (by omega))⟩
def pg(hs:List Bool)(C:Nat)(l:List Int):Option Nat:=(List.range hs.length).find? fun p=>decide (FrP hs C l p)
theorem pg_low(hs:List Bool)(C:Nat)(l:List Int):IsLow (FrP hs C l) (pg hs C l):=by
 unfold pg;cases h:(List.range hs.length).find? (fun p=>decide (FrP hs C l p))with
 | none=>
  intro q hq;rw[List.find?_eq_none] at h;have hlt:=(zzgsi.1 hq.1).1;exact h q (List.mem_range.2 hlt) (decide_eq_true hq)
 | some p=>
  obtain⟨hp,xs,ys,hab,hall⟩:=List.find?_eq_some_iff_append.1 h;refine⟨zzodt hp,fun q hq hq'=>?_⟩;have hlt:=(zzgsi.1 hq'.1).1;have hq2:(List.range hs.length)[q]? = some q:=List.getElem?_range hlt;have hal:xs.length=p:=by
   have h1:(List.range hs.length)[xs.length]? = some p:=by rw[hab,List.getElem?_append_right (Nat.le_refl _)];simp
   have hl:=(zzgsi.1 h1).1;rw[List.length_range] at hl;rw[List.getElem?_range hl] at h1;exact Option.some.inj h1
  rw[hab,List.getElem?_append_left (by omega)] at hq2;have:=hall q (zzmog hq2);simp[hq'] at this
theorem inW_append(C:Nat)(l m:List Int)(p:Nat):inW C (l++m) p=(inW C l p || inW C m p):=by simp[inW,List.any_append]
theorem Q1D(hs:List Bool)(C:Nat)(l m:List Int)(p:Nat):FrP hs C (l++m) p ↔ (FrP hs C l p \/ FrP hs C m p):=by
 unfold FrP;rw[inW_append,Bool.or_eq_true];constructor
 ·rintro⟨a,b | b⟩
  ·exact .inl ⟨a,b⟩
  ·exact .inr ⟨a,b⟩
 ·rintro(⟨a,b⟩ | ⟨a,b⟩)
  ·exact⟨a,.inl b⟩
  ·exact⟨a,.inr b⟩
theorem Q34(C:Nat)(c:Int)(p:Nat):inW C [c] p=(c == ((p % C:Nat):Int)):=by simp[inW]
theorem FrP_out{hs:List Bool}{C:Nat}(hC:0<C){c:Int}(h:¬(0<=c /\ c<C))(p:Nat):¬FrP hs C [c] p:=by
 rintro⟨_,hw⟩;rw[Q34] at hw;have:=eq_of_beq hw;have:=Nat.mod_lt p hC;omega
def col(hs:List Bool)(C n c:Nat):List Bool:=(List.range n).map fun k=>hs.getD (k*C+c) true
theorem col_len(hs:List Bool)(C n c:Nat):(col hs C n c).length=n:=by simp[col]
theorem col_get{hs:List Bool}{C n c k:Nat}(hk:k<n):(col hs C n c)[k]? = some (hs.getD (k*C+c) true):=by
 simp[col,hk]
theorem col_get'{hs:List Bool}{C n c k:Nat}{b:Bool}(hl:hs.length=n*C)(hc:c<C)(hk:k<n):(col hs C n c)[k]? = some b ↔ hs[k*C+c]? = some b:=by
 have hlt:k*C+c<hs.length:=by
  have:(k+1)*C<=n*C:=zzmlr _ hk;rw[Nat.add_mul] at this;omega
 rw[col_get hk,List.getD_eq_getElem?_getD,zzgge hlt];rfl
theorem Q2L{C k c:Nat}(hc:c<C):(k*C+c) % C=c /\ (k*C+c) / C=k:=by
 rw[Nat.mul_comm];exact⟨by rw[Nat.mul_add_mod,Nat.mod_eq_of_lt hc],by rw[Nat.mul_add_div (by omega),Nat.div_eq_of_lt hc,Nat.add_zero]⟩
theorem Q1A(C p:Nat):p / C*C+p % C=p:=Nat.div_add_mod' p C
theorem col_low{hs:List Bool}{C n c:Nat}(hl:hs.length=n*C)(hc:c<C):IsLow (FrP hs C [(c:Int)]) (((col hs C n c).findIdx? fun b=>!b).map fun k=>k*C+c):=by
 have hC:0<C:=by omega
 have key:∀q,FrP hs C [(c:Int)] q->q % C=c /\ q / C<n /\ (col hs C n c)[q / C]? = some false:=by
  rintro q ⟨h1,h2⟩;rw[Q34] at h2;have h2:=eq_of_beq h2;have hq:=(zzgsi.1 h1).1;have hm:q % C=c:=by omega
  have hd:q / C<n:=(Nat.div_lt_iff_lt_mul hC).2 (by omega);refine⟨hm,hd,(col_get' hl hc hd).2 ?_⟩;rw[<-hm,Q1A];exact h1
 cases h:(col hs C n c).findIdx? (fun b=>!b)with
 | none=>
  intro q hq;obtain⟨_,_,h3⟩:=key q hq;rw[List.findIdx?_eq_none_iff] at h;have:=h false (zzmog h3);simp at this
 | some k=>
  obtain⟨h1,h2⟩:=low_at h;have hk:k<n:=by have:=(zzgsi.1 h1).1;rwa [col_len] at this
  refine⟨⟨(col_get' hl hc hk).1 h1,?_⟩,fun q hq hf=>?_⟩
  ·rw[Q34,(Q2L hc).1];simp
  ·obtain⟨g1,g2,g3⟩:=key q hf;have:q / C<k:=by
    rcases Nat.lt_or_ge (q / C) k with hlt | hge
    ·exact hlt
    ·have h4:=Q1A C q;have h5:k*C<=q / C*C:=zzmlr _ hge;simp only at hq;omega
   rw[h2 _ this] at g3;cases g3
def cols(hs:List Bool)(C n:Nat):List (List Bool):=(List.range C).map fun c=>col hs C n c
theorem Q2H(hs:List Bool)(C n:Nat):(cols hs C n).length=C:=by simp[cols]
theorem Q1g{hs:List Bool}{C n c:Nat}(hc:c<C):(cols hs C n)[c]? = some (col hs C n c):=by simp[cols,hc]
theorem cols_set{hs:List Bool}{C n p:Nat}{b:Bool}(hl:hs.length=n*C)(hp:p<hs.length):(cols hs C n).set (p % C) ((col hs C n (p % C)).set (p / C) b)=cols (hs.set p b) C n:=by
 have hC:0<C:=Nat.pos_of_ne_zero fun e=>by subst e;omega
 apply List.ext_getElem?;intro c;rw[zzgst,Q2H];by_cases hc:c<C
 ·rw[Q1g hc,Q1g hc];by_cases e:p % C=c
  ·rw[if_pos e,if_pos (by omega)];congr 1;apply List.ext_getElem?;intro k;rw[zzgst,col_len];by_cases hk:k<n
   ·rw[e,col_get hk,col_get hk];by_cases ek:p / C=k
    ·have hpe:k*C+c=p:=by rw[<-ek,<-e];exact Q1A C p
     rw[if_pos ek,if_pos (by omega),hpe,List.getD_eq_getElem?_getD,zzgst,if_pos rfl,if_pos hp];rfl
    ·have hpe:p ≠ k*C+c:=fun q=>ek (by rw[q];exact(Q2L hc).2);rw[if_neg ek,List.getD_eq_getElem?_getD,List.getD_eq_getElem?_getD,zzgst,if_neg hpe]
   ·rw[List.getElem?_eq_none (by rw[col_len];omega),List.getElem?_eq_none (by rw[col_len];omega)];split
    ·rw[if_neg (by omega)]
    ·rfl
  ·rw[if_neg e];congr 1;unfold col;apply List.map_congr_left;intro k _;have hpe:p ≠ k*C+c:=fun q=>e (by rw[q];exact(Q2L hc).1);rw[List.getD_eq_getElem?_getD,List.getD_eq_getElem?_getD,zzgst,if_neg hpe]
 ·rw[if_neg (fun e=>hc (by rw[<-e];exact Nat.mod_lt _ hC)),List.getElem?_eq_none (by rw[Q2H];omega),List.getElem?_eq_none (by rw[Q2H];omega)]
def cnt(hs:List Bool)(C:Nat)(l:List Int):Nat:=(List.range hs.length).countP fun p=>decide (FrP hs C l p)
theorem cnt_le(hs:List Bool)(C:Nat)(l:List Int):cnt hs C l<=hs.length:=by
 have:=List.countP_le_length (p:=fun p=>decide (FrP hs C l p)) (l:=List.range hs.length);simpa [cnt] using this
theorem Q3w{Q Q' R:Nat->Bool}:∀(l:List Nat),(∀x ∈ l,R x=(Q x || Q' x))->(∀x ∈ l,¬(Q x=true /\ Q' x=true))->l.countP R=l.countP Q+l.countP Q'
 | [],_,_=>by simp
 | x :: l,h,hd=>by
  have ih:=Q3w l (fun y hy=>h y (by simp[hy])) (fun y hy=>hd y (by simp[hy]));have h0:=h x (by simp);have d0:=hd x (by simp);rw[List.countP_cons,List.countP_cons,List.countP_cons,ih,h0];cases hq:Q x <;> cases hq':Q' x <;> simp[hq,hq'] at d0 ⊢ <;> omega
theorem Q30(hs:List Bool)(C c:Nat)(hc:c<C):∀n:Nat,(List.range (n*C)).countP (fun p=>decide (hs.getD p true=false) && decide (p % C=c))=(col hs C n c).count false
 | 0=>by simp[col]
 | n+1=>by
  have ih:=Q30 hs C c hc n;have e1:List.range ((n+1)*C)=List.range (n*C)++(List.range C).map (fun x=>n*C+x):=by rw[Nat.add_mul,Nat.one_mul,List.range_add]
  have e2:col hs C (n+1) c=col hs C n c++[hs.getD (n*C+c) true]:=by simp[col,List.range_succ]
  rw[e1,e2,List.countP_append,ih,List.count_append,List.countP_map];congr 1;have e3:(List.range C).countP ((fun p=>decide (hs.getD p true=false) && decide (p % C=c)) ∘ fun x=>n*C+x)=(List.range C).countP (fun x=>decide (hs.getD (n*C+c) true=false) && decide (x=c)):=by
   refine List.countP_congr fun x hx=>?_;have hx:=List.mem_range.1 hx;simp only[Function.comp,(Q2L hx).1,Bool.and_eq_true,decide_eq_true_eq];constructor
   ·rintro⟨a,rfl⟩;exact⟨a,rfl⟩
   ·rintro⟨a,rfl⟩;exact⟨a,rfl⟩
  rw[e3];cases hb:hs.getD (n*C+c) true with
  | true=>simp
  | false=>
   have e4:(List.range C).countP (fun x=>decide (false=false) && decide (x=c))=(List.range C).count c:=by
    rw[List.count_eq_countP];exact List.countP_congr fun x _=>by simp
   rw[e4,(List.nodup_range).count,if_pos (List.mem_range.2 hc)];simp
theorem getD_false{hs:List Bool}{p:Nat}:hs.getD p true=false ↔ hs[p]? = some false:=by
 rw[List.getD_eq_getElem?_getD];cases h:hs[p]? with
 | none=>simp
 | some b=>cases b <;> simp
theorem cnt_more{hs:List Bool}{C n c:Nat}(hl:hs.length=n*C)(hc:c<C){l:List Int}(hn:l.any (fun x=>x == (c:Int))=false):cnt hs C (l++[(c:Int)])=cnt hs C l+(col hs C n c).count false:=by
 rw[<-Q30 hs C c hc n,<-hl];unfold cnt;refine Q3w _ (fun p hp=>?_) (fun p hp=>?_)
 ·have e:decide (FrP hs C (l++[(c:Int)]) p)=(decide (FrP hs C l p) || decide (FrP hs C [(c:Int)] p)):=by
   rw[<-Bool.decide_or];exact decide_eq_decide.2 (Q1D hs C l [(c:Int)] p)
  rw[e];congr 1;rw[<-Bool.decide_and];refine decide_eq_decide.2 ?_;unfold FrP;rw[getD_false,Q34];constructor
  ·rintro⟨a,b⟩;exact⟨a,by have:=eq_of_beq b;omega⟩
  ·rintro⟨a,b⟩;exact⟨a,by rw[b];simp⟩
 ·rintro⟨h1,h2⟩;simp only[Bool.and_eq_true,decide_eq_true_eq] at h1 h2;have h3:=h1.2;unfold inW at h3;rw[h2.2] at h3;rw[hn] at h3;cases h3
theorem cnt_same{hs:List Bool}{C:Nat}(hC:0<C){c:Int}{l:List Int}(h:¬(0<=c /\ c<C) \/ l.any (fun x=>x == c)=true):cnt hs C (l++[c])=cnt hs C l:=by
 unfold cnt;refine List.countP_congr fun p hp=>?_;simp only[decide_eq_true_eq];rw[Q1D];constructor
 ·rintro(a | a)
  ·exact a
  ·rcases h with h | h
   ·exact absurd a (FrP_out hC h p)
   ·refine⟨a.1,?_⟩;have hw:=a.2;rw[Q34] at hw;have hw:=eq_of_beq hw;unfold inW;rw[<-hw];exact h
 ·exact .inl
theorem cnt_zero{hs:List Bool}{C:Nat}{l:List Int}:cnt hs C l=0 ↔ pg hs C l=none:=by
 unfold cnt pg;rw[List.countP_eq_zero,List.find?_eq_none]
theorem FrP_set{hs:List Bool}{C:Nat}{l:List Int}{p:Nat}(hp:p<hs.length)(q:Nat):FrP (hs.set p true) C l q ↔ (FrP hs C l q /\ q ≠ p):=by
 unfold FrP;rw[zzgst];by_cases e:p=q
 ·subst e;rw[if_pos rfl,if_pos hp];simp
 ·rw[if_neg e];have:q ≠ p:=fun x=>e x.symm;simp[this]
theorem cnt_take{hs:List Bool}{C:Nat}{l:List Int}{p:Nat}(h:FrP hs C l p):cnt hs C l=cnt (hs.set p true) C l+1:=by
 have hp:=(zzgsi.1 h.1).1;have e:(List.range hs.length).countP (fun q=>decide (q=p))=1:=by
  have:(List.range hs.length).countP (fun q=>decide (q=p))=(List.range hs.length).count p:=by
   rw[List.count_eq_countP];exact List.countP_congr fun x _=>by simp
  rw[this,(List.nodup_range).count,if_pos (List.mem_range.2 hp)]
 unfold cnt;rw[List.length_set,<-e];refine Q3w _ (fun q hq=>?_) (fun q hq=>?_)
 ·rw[<-Bool.decide_or];refine decide_eq_decide.2 ?_;rw[FrP_set hp];constructor
  ·intro a;by_cases e:q=p
   ·exact .inr e
   ·exact .inl ⟨a,e⟩
  ·rintro(a | rfl)
   ·exact a.1
   ·exact h
 ·rintro⟨a,b⟩;simp only[decide_eq_true_eq] at a b;exact((FrP_set hp q).1 a).2 b
def mTakeI(hs:List Bool)(C:Nat)(l:List Int):Int:=match pg hs C l with | some p=>(p:Int) | none=>0
def mTakeE(hs:List Bool)(C:Nat)(l:List Int):Int:=match pg hs C l with | some _=>0 | none=>13
def mTakeH(hs:List Bool)(C:Nat)(l:List Int):List Bool:=match pg hs C l with | some p=>hs.set p true | none=>hs
def mCol(P C:Nat)(k:Int):Int:=if 0<=k /\ k<P then k.tmod C else -1
theorem len_mTakeH(hs:List Bool)(C:Nat)(l:List Int):(mTakeH hs C l).length=hs.length:=by unfold mTakeH;split <;> simp
end Cl
end
section
namespace Cl
open Go.Proofs.YtpnbcakbefplpaaGreatDoor.Sf
open Go.RowKit
abbrev ptF(q:Nat × Nat):List Value:=[.pointer (some ⟨q.1,0,none⟩)]
theorem pt_len(q:Nat × Nat):(ptF q).length=1:=rfl
theorem pt_one(q:Nat × Nat)(u:Value)(h:u ∈ ptF q):u.oneCell'=true:=by
 simp only[ptF,List.mem_singleton] at h;subst h;rfl
theorem elemPt:ElemOk Tryz.prog 171 143 1 8:=.of (z:=.pointer none) (by kernel_rfl) (by kernel_rfl) rfl
def fpM(mb:Nat)(v:Value)(L:List (Nat × Nat))(k:Nat):Prop:=k=mb \/ v.ownBlock=some k \/ ∃q ∈ L,fpS q.1 q.2 k
structure MP (w:World) (mb:Nat) (P C:Int) (v:Value) (L:List (Nat × Nat)) (fs:List (List Bool)):Prop where
 head:w.heap[mb]? = some (.cells #[.int .i64 P,.int .i64 C,v] 173 (0,0))
 row:ORow w 143 1 ptF v L
 len:fs.length=L.length
 sh:∀(c p gb:Nat)(fl:List Bool),L[c]? = some (p,gb)->fs[c]? = some fl->SH w p gb fl
 own:∀k,v.ownBlock=some k->k ≠ mb /\ ∀q ∈ L,¬fpS q.1 q.2 k
 hd:∀q ∈ L,¬fpS q.1 q.2 mb
 dis:∀(c c':Nat)(q q':Nat × Nat),L[c]? = some q->L[c']? = some q'->c ≠ c'->∀k,fpS q.1 q.2 k->¬fpS q'.1 q'.2 k
section
variable{w:World}{mb:Nat}{P C:Int}{v:Value}{L:List (Nat × Nat)}{fs:List (List Bool)}
theorem MP.keep{F:Nat->Prop}{w':World}(h:MP w mb P C v L fs)(hm:Mod F w w')(hF:∀k,fpM mb v L k->¬F k):MP w' mb P C v L fs:=
 ⟨hm.keep h.head (hF mb (.inl rfl)),h.row.keep hm (fun b hb=>hF b (.inr (.inl hb))),h.len,
  fun c p gb fl hc hf=>(h.sh c p gb fl hc hf).keep hm (fun k hk=>hF k (.inr (.inr ⟨(p,gb),zzmog hc,hk⟩))),h.own,h.hd,h.dis⟩
theorem MP.ext{w':World}(h:MP w mb P C v L fs)(hm:Ext w w'):MP w' mb P C v L fs:=h.keep hm (fun _ _ x=>x)
theorem MP.lt(h:MP w mb P C v L fs):∀k,fpM mb v L k->k<w.heap.size:=by
 rintro k (rfl | hk | ⟨q,hq,hk⟩)
 ·exact Q0g h.head
 ·exact h.row.lt k hk
 ·obtain⟨c,hc⟩:=List.mem_iff_getElem?.1 hq;obtain⟨fl,hf⟩:∃fl,fs[c]? = some fl:=⟨_,zzgge (by have:=(zzgsi.1 hc).1;have:=h.len;omega)⟩;exact(h.sh c q.1 q.2 fl hc hf).lt k hk
theorem MP.c0(h:MP w mb P C v L fs):w.cell? (zA mb)=some (.int .i64 P):=Q01 h.head rfl
theorem MP.c1(h:MP w mb P C v L fs):w.cell? (Addr.mk mb 1 none)=some (.int .i64 C):=Q01 h.head rfl
theorem MP.c2(h:MP w mb P C v L fs):w.cell? (Addr.mk mb 2 none)=some v:=Q01 h.head rfl
theorem MP.at{p:Option Addr}{n cc:Nat}(h:MP w mb P C (.slice p n cc) L fs){c:Nat}(hc:c<L.length) :
  ∃(a:Addr)(q:Nat × Nat)(fl:List Bool),p=some a /\ L[c]? = some q /\ fs[c]? = some fl /\ w.cell? (a.add c)=some (.pointer (some ⟨q.1,0,none⟩)) /\ SH w q.1 q.2 fl:=by
 have hq:L[c]? = some L[c]:=zzgge hc;have hf:fs[c]? = some (fs[c]'(by have:=h.len;omega)):=zzgge (by have:=h.len;omega);obtain⟨a,rfl,hcell⟩:=ORow.cells pt_len h.row hq;have h0:=hcell 0 _ rfl;rw[Nat.mul_one,Addr.add_add] at h0;exact⟨a,_,_,rfl,hq,hf,h0,h.sh c _ _ _ hq hf⟩
theorem MP.turn{w':World}(h:MP w mb P C v L fs){c:Nat}{q:Nat × Nat}{fl:List Bool}(hq:L[c]? = some q)(h':SH w' q.1 q.2 fl)(hm:Mod (fpS q.1 q.2) w w'):MP w' mb P C v L (fs.set c fl) /\ Mod (fpM mb v L) w w':=by
 have hmem:=zzmog hq;refine⟨⟨hm.keep h.head (h.hd q hmem),h.row.keep hm (fun b hb=>(h.own b hb).2 q hmem),by simpa using h.len,fun c' p gb fl' hc hf=>?_,h.own,h.hd,h.dis⟩,hm.mono fun k hk=>.inr (.inr ⟨q,hmem,hk⟩)⟩;rw[zzgst] at hf;by_cases e:c=c'
 ·subst e;rw[if_pos rfl] at hf;split at hf
  ·cases hf;rw[hq] at hc;cases hc;exact h'
  ·cases hf
 ·rw[if_neg e] at hf;exact(h.sh c' p gb fl' hc hf).keep hm (fun k hk=>h.dis c' c _ _ hc hq (fun x=>e x.symm) k hk)
theorem MP.push(h:MP w mb P C v L fs){p gb:Nat}{fl:List Bool}(hs:SH w p gb fl)(hn:∀k,fpS p gb k->¬fpM mb v L k)(hl:L.length<1048576){p1:Option Addr}{n1 c1:Nat}(hv:v=.slice p1 n1 c1)
  {b:Nat} {w1:World} (hb:w1.heap[b]? = some (.cells #[zP p] 143 (0,0))) (hE:Ext w w1) (hsz:w.heap.size=b) {K:Option Addr->Nat->Nat->World->Prop}
  (k:∀(p2:Option Addr)(n2 c2:Nat)(w2:World),WrC w2 (Addr.mk mb 2 none) 1->(∀w3:World,w3=wr w2 (Addr.mk mb 2 none) [.slice p2 n2 c2]->MP w3 mb P C (.slice p2 n2 c2) (L++[(p,gb)]) (fs++[fl]) /\ Mod (fpM mb v L) w w3 /\
   ∀j,fpM mb (.slice p2 n2 c2) (L++[(p,gb)]) j->fpM mb v L j \/ fpS p gb j \/ w.heap.size<=j)->K p2 n2 c2 w2) :
  ∃(p2:Option Addr)(n2 c2:Nat)(w2:World),(Builtin.append_ #[171,171] 171 #[.slice p1 n1 c1,.slice (some ⟨b,0,none⟩) 1 1]).run Tryz.prog w1=.ok (.slice p2 n2 c2) w2 /\ K p2 n2 c2 w2:=by
 subst hv;have h1:=h.ext hE;obtain⟨p2,c2,w2,hr,hrow,hm,hne⟩:=ORow.push elemPt pt_len pt_one h1.row 171 ⟨b,0,none⟩ 1 (p,gb) (Q08 (vs:=[_]) hb) (by simp only[maxLen];omega) (by omega);have hlt:=h.lt;have hh2:=hm.keep h1.head (fun e=>(h.own mb e).1 rfl);refine⟨p2,_,c2,w2,hr,k p2 _ c2 w2 (wrC_blk hh2 (by simp)) ?_⟩;rintro w3 rfl;obtain⟨g1,g2,g3⟩:=wr_blk (o:=2) [.slice p2 (L.length+1) c2] hh2;have hslt:=hs.lt;have ob:∀j,(Value.slice p2 (L.length+1) c2).ownBlock=some j->j ≠ mb /\ (∀q ∈ L,¬fpS q.1 q.2 j) /\ ¬fpS p gb j:=by
  intro j hj;rcases hne j hj with e | e
  ·exact⟨(h.own j e).1,(h.own j e).2,fun hk=>hn j hk (.inr (.inl e))⟩
  ·have:=hE.size;refine⟨fun q=>?_,fun q hq hk=>?_,fun hk=>?_⟩
   ·have:=hlt mb (.inl rfl);omega
   ·have:=hlt j (.inr (.inr ⟨q,hq,hk⟩));omega
   ·have:=hslt j hk;omega
 have hmod:Mod (fpM mb (.slice p1 n1 c1) L) w (wr w2 (Addr.mk mb 2 none) [.slice p2 (L.length+1) c2]):=
  Mod.trans (Mod.trans (hE.mod (F:=fpM mb (.slice p1 n1 c1) L)) hm (fun j _ hj=>.inr (.inl hj))) g2 (fun j _ hj=>.inl hj)
 refine⟨⟨g1,hrow.keep g2 (fun j hj=>(ob j hj).1),by simp[h.len],fun c p' gb' fl' hc hf=>?_,fun j hj=>⟨(ob j hj).1,fun q hq=>?_⟩,fun q hq=>?_,fun c c' q q' hq hq' hcc=>?_⟩,hmod,fun j hj=>?_⟩
 ·by_cases e:c<L.length
  ·rw[List.getElem?_append_left e] at hc;rw[List.getElem?_append_left (by have:=h.len;omega)] at hf;have hm':Mod (fun j=>j=mb \/ (Value.slice p1 n1 c1).ownBlock=some j) w (wr w2 (Addr.mk mb 2 none) [.slice p2 (L.length+1) c2]):=
    Mod.trans (Mod.trans (hE.mod (F:=fun j=>j=mb \/ (Value.slice p1 n1 c1).ownBlock=some j)) hm (fun j _ hj=>.inr hj)) g2 (fun j _ hj=>.inl hj)
   refine(h.sh c p' gb' fl' hc hf).keep hm' fun j hj hF=>?_;rcases hF with rfl | hF
   ·exact h.hd _ (zzmog hc) hj
   ·exact(h.own j hF).2 _ (zzmog hc) hj
  ·have hcl:=(zzgsi.1 hc).1;rw[zzlna,List.length_singleton] at hcl;have e2:c=L.length:=by omega
   subst e2;rw[List.getElem?_append_right (Nat.le_refl _),Nat.sub_self] at hc;rw[List.getElem?_append_right (by have:=h.len;omega),show L.length-fs.length=0 by have:=h.len;omega] at hf;simp only[List.getElem?_cons_zero,Option.some.injEq,Prod.mk.injEq] at hc hf;obtain⟨rfl,rfl⟩:=hc;subst hf;exact hs.keep hmod (fun j hj=>hn j hj)
 ·rcases zzmpd.1 hq with hq | hq
  ·exact(ob j hj).2.1 q hq
  ·rw[List.mem_singleton.1 hq];exact(ob j hj).2.2
 ·rcases zzmpd.1 hq with hq | hq
  ·exact h.hd q hq
  ·rw[List.mem_singleton.1 hq];exact fun hk=>hn mb hk (.inl rfl)
 ·have two:∀ {c:Nat} {q:Nat × Nat},(L++[(p,gb)])[c]? = some q->(c<L.length /\ L[c]? = some q) \/ (c=L.length /\ q=(p,gb)):=by
   intro c q hq;by_cases e:c<L.length
   ·rw[List.getElem?_append_left e] at hq;exact .inl ⟨e,hq⟩
   ·have hcl:=(zzgsi.1 hq).1;rw[zzlna,List.length_singleton] at hcl;have e2:c=L.length:=by omega
    subst e2;rw[List.getElem?_append_right (Nat.le_refl _),Nat.sub_self] at hq;simp only[List.getElem?_cons_zero,Option.some.injEq] at hq;exact .inr ⟨rfl,hq.symm⟩
  intro j hj hj';rcases two hq with⟨e,hq⟩ | ⟨e,rfl⟩ <;> rcases two hq' with⟨e',hq'⟩ | ⟨e',rfl⟩
  ·exact h.dis c c' q q' hq hq' hcc j hj hj'
  ·exact hn j hj' (.inr (.inr ⟨q,zzmog hq,hj⟩))
  ·exact hn j hj (.inr (.inr ⟨q',zzmog hq',hj'⟩))
  ·exact hcc (by omega)
 ·rcases hj with rfl | hj | ⟨q,hq,hk⟩
  ·exact .inl (.inl rfl)
  ·rcases hne j hj with e | e
   ·exact .inl (.inr (.inl e))
   ·have:=hE.size;exact .inr (.inr (by omega))
  ·rcases zzmpd.1 hq with hq | hq
   ·exact .inl (.inr (.inr ⟨q,hq,hk⟩))
   ·rw[List.mem_singleton.1 hq] at hk;exact .inr (.inl hk)
end
def CfgOk(P C:Int):Prop:=1<=C /\ C<=32 /\ 1<=P /\ P<=4096 /\ P.tmod C=0
instance (P C:Int):Decidable (CfgOk P C):=inferInstanceAs (Decidable (_ /\ _))
structure MH (w:World) (mb:Nat) (F:Nat->Prop) (n C:Nat) (hs:List Bool):Prop where
 n1:1<=n
 c1:1<=C
 c32:C<=32
 p4:n*C<=4096
 len:hs.length=n*C
 ok:∃v L,MP w mb ((n*C:Nat):Int) (C:Int) v L (cols hs C n) /\ L.length=C /\ ∀k,fpM mb v L k->F k
 lt:∀k,F k->k<w.heap.size
section
variable{w:World}{mb n C:Nat}{F:Nat->Prop}{hs:List Bool}
theorem MH.keep{G:Nat->Prop}{w':World}(h:MH w mb F n C hs)(hm:Mod G w w')(hF:∀k,F k->¬G k):MH w' mb F n C hs:=by
 obtain⟨v,L,h1,h2,h3⟩:=h.ok;exact⟨h.n1,h.c1,h.c32,h.p4,h.len,⟨v,L,h1.keep hm (fun k hk=>hF k (h3 k hk)),h2,h3⟩,fun k hk=>Nat.lt_of_lt_of_le (h.lt k hk) hm.size⟩
theorem MH.ext{w':World}(h:MH w mb F n C hs)(hm:Ext w w'):MH w' mb F n C hs:=h.keep hm (fun _ _ x=>x)
theorem Q3R(h:MH w mb F n C hs)(c:Int):Calls Tryz.prog 219 #[zP mb,.int .i64 c] w (Ret fun r w'=>r=.bool (decide (0<=c /\ c<C)) /\ w'=w):=by
 obtain⟨v,L,h1,h2,h3⟩:=h.ok;obtain⟨p,cc,rfl⟩:=h1.row.shape;refine vc194.ok ?_;unfold vc194;simp only[someA,Q02,Nat.zero_add];refine ifD (fun h0=>⟨_,_,_,h1.c2,?_,by trivial⟩) (fun h0=>⟨by rw[zzdcf (by omega)],by trivial⟩);rw[h2];exact congrArg Value.bool (decide_eq_decide.2 (by omega))
theorem Q3o(h:MH w mb F n C hs)(k:Int):Calls Tryz.prog 215 #[zP mb,.int .i64 k] w (Ret fun r w'=>r=.bool (decide (InS hs k)) /\ w'=w):=by
 obtain⟨v,L,h1,h2,h3⟩:=h.ok;have hlen:=h.len;refine vc190.ok ?_;unfold vc190;simp only[someA,Q02,Nat.zero_add];refine Q04 rfl (ifD (fun h0=>⟨_,h1.c0,?_,by trivial⟩) (fun h0=>⟨by rw[zzdcf (by omega)],by trivial⟩));exact congrArg Value.bool (decide_eq_decide.2 (by omega))
theorem tmod_nat(a b:Nat):((a:Nat):Int).tmod (b:Int)=((a % b:Nat):Int):=(Int.ofNat_tmod a b).symm
theorem Q2J(a b:Nat):((a:Nat):Int).tdiv (b:Int)=((a / b:Nat):Int):=(Int.ofNat_tdiv a b).symm
theorem mcolour_any(h:MH w mb F n C hs)(k:Int):Calls Tryz.prog 163 #[zP mb,.int .i64 k] w (Ret fun r w'=>r=.int .i64 (mCol hs.length C k) /\ w'=w):=by
 obtain⟨v,L,h1,h2,h3⟩:=h.ok;have hc1:=h.c1;refine vc171.ok ?_;unfold vc171;refine .of (Q3o h k) ?_;rintro r w1 ⟨rfl,rfl⟩;refine⟨_,rfl,?_⟩;by_cases hin:InS hs k
 ·rw[decide_eq_true hin];simp only[someA,Q02,Nat.zero_add];exact Q00 rfl ⟨_,h1.c1,by omega,by rw[mCol,if_pos hin],by trivial⟩
 ·rw[zzdcf hin];exact Q04 rfl ⟨by rw[mCol,if_neg hin],rfl⟩
theorem each_any(h:MH w mb F n C hs):Calls Tryz.prog 73 #[zP mb] w (Ret fun r w'=>r=.int .i64 (n:Int) /\ Ext w w'):=by
 have hc1:=h.c1;have hp4:=h.p4;refine vc120.ok ?_;unfold vc120;refine Q00 rfl ?_;rintro w0 rfl;obtain⟨v,L,h1,h2,h3⟩:=(h.ext (Ext.drew w)).ok;simp only[someA,Q02,Nat.zero_add];refine⟨_,h1.c0,_,h1.c1,by omega,by trivial,?_,Ext.drew w⟩;have hle:n<=n*C:=Nat.le_mul_of_pos_right n (by omega);rw[Q2J,Nat.mul_div_cancel _ (by omega),Q03 (by omega) (by omega)]
theorem lowest_col(h:MH w mb F n C hs){c:Nat}(hc:c<C):∃o:Option Nat,IsLow (FrP hs C [(c:Int)]) (o.map fun k=>k*C+c) /\ lowI (col hs C n c)=(match o with | some k=>(k:Int) | none=>-1) /\ (∀k,o=some k->k<n):=by
 have hl:=col_low h.len hc;refine⟨_,hl,rfl,fun k hk=>?_⟩;have:=(zzgsi.1 (low_at hk).1).1
 rwa [col_len] at this
theorem MH.page(h:MH w mb F n C hs){p:Nat}(hp:p<hs.length):p % C<C /\ p / C<n /\ (∀b,(col hs C n (p % C))[p / C]? = some b ↔ hs[p]? = some b):=by
 have hc1:=h.c1;have hc:p % C<C:=Nat.mod_lt _ (by omega);have hd:p / C<n:=(Nat.div_lt_iff_lt_mul (by omega)).2 (by rw[<-h.len];exact hp);exact⟨hc,hd,fun b=>by rw[col_get' h.len hc hd,Q1A]⟩
theorem MH.turn{w':World}(h:MH w mb F n C hs){v:Value}{L:List (Nat × Nat)}(h1:MP w mb ((n*C:Nat):Int) (C:Int) v L (cols hs C n))(h2:L.length=C)(h3:∀k,fpM mb v L k->F k){p:Nat}(hp:p<hs.length){q:Nat × Nat}{b:Bool}
  (hq:L[p % C]? = some q) (h':SH w' q.1 q.2 ((col hs C n (p % C)).set (p / C) b)) (hm:Mod (fpS q.1 q.2) w w'):MH w' mb F n C (hs.set p b) /\ Mod F w w':=by
 obtain⟨g1,g2⟩:=h1.turn hq h' hm;rw[cols_set h.len hp] at g1;exact⟨⟨h.n1,h.c1,h.c32,h.p4,by simpa using h.len,⟨v,L,g1,h2,h3⟩,fun k hk=>Nat.lt_of_lt_of_le (h.lt k hk) hm.size⟩,g2.mono h3⟩
theorem mgive_any(h:MH w mb F n C hs)(k:Int):Calls Tryz.prog 172 #[zP mb,.int .i64 k] w (Ret fun r w'=>r=.int .i64 (giveE hs k) /\ MH w' mb F n C (giveH hs k) /\ Mod F w w'):=by
 have hc1:=h.c1;refine vc177.ok ?_;unfold vc177;refine Q00 rfl (.of (Q3o h k) ?_);rintro r w1 ⟨rfl,rfl⟩;refine⟨_,rfl,?_⟩;by_cases hin:InS hs k
 case neg=>
  rw[zzdcf hin];exact Q04 rfl ⟨by simp only[giveE,if_neg hin],by simpa only [giveH,if_neg hin] using h,Mod.refl _ _⟩
 rw[decide_eq_true hin];refine Q00 rfl ?_;rintro w2 rfl;have hE:=Ext.drew w1;have h0:=h.ext hE;obtain⟨p,rfl⟩:=zzeoz hin.1;have hp:p<hs.length:=by omega
 obtain⟨hc,hd,hbit⟩:=h0.page hp;obtain⟨v,L,h1,h2,h3⟩:=h0.ok;obtain⟨pv,cc,rfl⟩:=h1.row.shape;obtain⟨a,q,fl,rfl,hq,hf,hcell,hsh⟩:=h1.at (c:=p % C) (by omega);rw[Q1g hc] at hf;cases hf;have hp4:=h.p4;have hle:p / C<=p:=Nat.div_le_self _ _;have hlen:=h.len;have em:=tmod_nat p C;have hd0:=Int.natCast_nonneg (p / C);simp only[someA,Q02,Nat.zero_add];refine⟨_,_,_,h1.c2,_,h1.c1,by omega,by trivial,by omega,by omega,?_⟩;rw[em,zztnc];refine⟨by trivial,_,hcell,_,h1.c1,by omega,by trivial,?_⟩;rw[Q2J,Q03 (n:=((p / C:Nat):Int)) (by omega) (by omega)];refine .of (give_any hsh _) ?_;rintro r w3 ⟨rfl,h4,hm⟩;have hin':InS (col hs C n (p % C)) ((p / C:Nat):Int):=by rw[InS,col_len];omega
 have e1:giveH (col hs C n (p % C)) ((p / C:Nat):Int)=(col hs C n (p % C)).set (p / C) false:=by simp only[giveH,if_pos hin',zztnc]
 rw[e1] at h4;obtain⟨g1,g2⟩:=h0.turn h1 h2 h3 hp hq h4 hm;refine⟨_,rfl,?_,by simpa only [giveH,if_pos hin,zztnc] using g1,Mod.trans (hE.mod (F:=F)) g2 (fun _ _ x=>x)⟩;simp only[giveE,if_pos hin',if_pos hin,zztnc,hbit]
end
end Cl
end
section
namespace Cl
open Go.Proofs.YtpnbcakbefplpaaGreatDoor.Sf
open Go.RowKit
def fC(hs:List Bool):List Value:=hs.map Value.bool
theorem fC_get(hs:List Bool){i:Nat}{c:Bool}(h:hs[i]? = some c):(fC hs).toArray[i]? = some (.bool c):=by
 rw[List.getElem?_toArray];simp[fC,h]
theorem fC_set(hs:List Bool){i:Nat}{c:Bool}(hi:i<hs.length):setAt (fC hs).toArray i [.bool c]=(fC (hs.set i c)).toArray:=by
 simp only[setAt,List.setIfInBounds_toArray];congr 1;simp[fC,List.map_set]
def oI:Option Nat->Int
 | some p=>(p:Int)
 | none=>-1
section
variable{w:World}{mb n C:Nat}{F:Nat->Prop}{hs:List Bool}
theorem Q0r{l:List Int}{j:Nat}{c:Int}(h:l[j]? = some c):l.take (j+1)=l.take j++[c]:=by
 rw[List.take_add_one,h];rfl
theorem page_lt{k c:Nat}(hk:k<n)(hc:c<C):k*C+c<n*C:=by
 have:(k+1)*C<=n*C:=zzmlr _ hk;rw[Nat.add_mul] at this;omega
theorem mtake_any(tab:Tab w)(h:MH w mb F n C hs){pa:Option Addr}{cc:Nat}{l:List Int}(hrow:RowAt w pa 1 intF l)(hl63:l.length<=maxLen) :
  Calls Tryz.prog 168 #[zP mb,.slice pa l.length cc] w
   (Ret fun r w'=>r=.tuple #[.int .i64 (mTakeI hs C l),.int .i64 (mTakeE hs C l)] /\ MH w' mb F n C (mTakeH hs C l) /\ Mod F w w'):=by
 have hc1:=h.c1;have hp4:=h.p4;have hlen:=h.len;simp only[maxLen] at hl63;refine vc175.ok ?_;unfold vc175;refine Q00 rfl ⟨fun m best i w1=>∃(j:Nat)(o:Option Nat),i=(j:Int) /\ m+j=l.length /\ IsLow (FrP hs C (l.take j)) o /\ best=oI o /\ w1=w,
  ⟨l.length,0,none,rfl,rfl,(fun q hq=>by simp[FrP,inW] at hq),rfl,rfl⟩,?_⟩
 rintro m jv best i w1 ⟨j,o,rfl,hm,hlow,rfl,rfl⟩;obtain⟨v,L,h1,h2,h3⟩:=h.ok;obtain⟨pv,vc,rfl⟩:=h1.row.shape;refine ifD (fun hj=>⟨by omega,hj,?_⟩) (fun hj=>?_)
 ·obtain⟨c,hc⟩:∃c,l[j]? = some c:=⟨_,zzgge (by omega)⟩;have ej:IntKind.i64.wrap ((j:Int)+1)=((j+1:Nat):Int):=by rw[Q03 (by omega) (by omega)];rfl
  rw[zztnc];refine hrow.int hc (.of (Q3R h c) ?_);rintro r w2 ⟨rfl,rfl⟩;refine⟨_,rfl,?_⟩;by_cases hin:0<=c /\ c<C
  case neg=>
   rw[zzdcf hin];refine Q04 rfl ⟨m-1,by omega,j+1,o,ej,by omega,?_,rfl,rfl⟩;rw[Q0r hc];refine hlow.congr fun p=>?_;rw[Q1D];exact⟨.inl,fun q=>q.elim id (fun a=>absurd a (FrP_out (by omega) hin p))⟩
  rw[decide_eq_true hin];obtain⟨cn,rfl⟩:=zzeoz hin.1;have hcn:cn<C:=by omega
  refine Q00 rfl ?_;obtain⟨a,q,fl,rfl,hq,hf,hcell,hsh⟩:=h1.at (c:=cn) (by omega);rw[Q1g hcn] at hf;cases hf;simp only[someA,Q02,Nat.zero_add,zztnc];refine⟨_,_,_,h1.c2,by omega,by omega,?_⟩;refine⟨_,hcell,.of (lowest_any tab hsh) ?_⟩;rintro r w3 ⟨rfl,rfl⟩;obtain⟨o',hlow',e',hk'⟩:=lowest_col h hcn;rw[e'];have hlow2:IsLow (FrP hs C (l.take (j+1))) (lesser o (o'.map fun k=>k*C+cn)):=by
   rw[Q0r hc];exact(hlow.or hlow').congr fun p=>(Q1D hs C _ _ p).symm
  refine⟨_,rfl,?_⟩;cases o' with
  | none=>
   refine Q00 rfl ⟨m-1,by omega,j+1,_,ej,by omega,hlow2,?_,rfl⟩;cases o <;> rfl
  | some k=>
   have hk:=hk' k rfl;have hpl:=page_lt (C:=C) hk hcn;have hkC:k*C<=k*C+cn:=by omega
   have ek:IntKind.i64.wrap (IntKind.i64.wrap ((k:Int)*(C:Int))+(cn:Int))=((k*C+cn:Nat):Int):=by
    rw[<-Int.natCast_mul,Q03 (n:=((k*C:Nat):Int)) (by omega) (by omega),<-Int.natCast_add,Q03 (by omega) (by omega)]
   refine Q04 (decide_eq_true (Int.natCast_nonneg k)) ?_;cases o with
   | none=>
    refine Q04 rfl ?_;refine⟨_,h1.c1,m-1,by omega,j+1,_,ej,by omega,hlow2,?_,rfl⟩;rw[ek];rfl
   | some x=>
    refine Q00 (zzdcf (by show ¬((x:Int)<0);omega)) ?_;refine⟨_,h1.c1,?_⟩;rw[ek];refine ifD (fun hlt=>?_) (fun hlt=>?_)
    ·have hlt:k*C+cn<x:=by have:((k*C+cn:Nat):Int)<(x:Int):=hlt;omega
     refine⟨_,h1.c1,m-1,by omega,j+1,_,ej,by omega,hlow2,?_,rfl⟩;rw[ek];simp only[lesser,Option.map_some,oI,if_pos hlt]
    ·have hlt:¬k*C+cn<x:=by have:¬((k*C+cn:Nat):Int)<(x:Int):=hlt;omega
     refine⟨m-1,by omega,j+1,_,ej,by omega,hlow2,?_,rfl⟩;simp only[lesser,Option.map_some,oI,if_neg hlt]
 ·rw[List.take_of_length_le (by omega)] at hlow;have e:=hlow.unique (pg_low hs C l);cases o with
  | none=>exact Q04 rfl ⟨by simp only[mTakeI,mTakeE,<-e],by simpa only [mTakeH,<-e] using h,Mod.refl _ _⟩
  | some p=>
   refine Q00 (zzdcf (by show ¬((p:Int)<0);omega)) ?_;rintro w2 rfl;have hE:=Ext.drew w1;have h0:=h.ext hE;have h1:=h1.ext hE;have hp:=(zzgsi.1 hlow.1.1).1;obtain⟨hc,hd,hbit⟩:=h0.page hp;obtain⟨a,q,fl,rfl,hq,hf,hcell,hsh⟩:=h1.at (c:=p % C) (by omega);rw[Q1g hc] at hf;cases hf;have hle:p / C<=p:=Nat.div_le_self _ _;have em:=tmod_nat p C;have hd0:=Int.natCast_nonneg (p / C);simp only[someA,Q02,Nat.zero_add,oI];refine⟨_,_,_,h1.c2,_,h1.c1,by omega,by trivial,by omega,by omega,?_⟩;rw[em,zztnc];refine⟨by trivial,_,hcell,_,h1.c1,by omega,by trivial,?_⟩;rw[Q2J,Q03 (n:=((p / C:Nat):Int)) (by omega) (by omega)];refine .of (takeAt_any hsh _) ?_;rintro r w3 ⟨rfl,h4,hm4⟩;have hin':InS (col hs C n (p % C)) ((p / C:Nat):Int):=by rw[InS,col_len];omega
   have hfree:(col hs C n (p % C))[p / C]? = some false:=(hbit false).2 hlow.1.1;have e1:takeAtH (col hs C n (p % C)) ((p / C:Nat):Int)=(col hs C n (p % C)).set (p / C) true:=by simp only[takeAtH,if_pos hin',zztnc]
   have e2:takeAtE (col hs C n (p % C)) ((p / C:Nat):Int)=0:=by
    rw[takeAtE,if_pos hin',zztnc,hfree];rfl
   rw[e1] at h4;obtain⟨g1,g2⟩:=h0.turn h1 h2 h3 hp hq h4 hm4;rw[e2];exact⟨_,rfl,by simp only[mTakeI,mTakeE,<-e],by simpa only [mTakeH,<-e] using g1,Mod.trans (hE.mod (F:=F)) g2 (fun _ _ x=>x)⟩
theorem any_snoc{l:List Int}{c x:Int}:(l++[c]).any (fun y=>y == x)=(l.any (fun y=>y == x) || (c == x)):=by simp[List.any_append]
theorem mfree_any(h:MH w mb F n C hs){pa:Option Addr}{cc:Nat}{l:List Int}(hrow:RowAt w pa 1 intF l)(hl63:l.length<=maxLen) :
  Calls Tryz.prog 167 #[zP mb,.slice pa l.length cc] w (Ret fun r w'=>r=.int .i64 (cnt hs C l:Nat) /\ Ext w w'):=by
 have hc1:=h.c1;have hc32:=h.c32;have hp4:=h.p4;have hlen:=h.len;simp only[maxLen] at hl63;refine vc174.ok ?_;unfold vc174;refine Q00 rfl (Q09 fun b w1 hb hE1 hs1 hs1'=>?_);refine⟨fun m nf i w2=>∃(j:Nat)(seen:List Bool),i=(j:Int) /\ m+j=l.length /\ seen.length=32 /\ (∀c,c<C->seen[c]? = some ((l.take j).any fun x=>x == (c:Int))) /\ nf=(cnt hs C (l.take j):Nat) /\
   w2.heap[b]? = some (.cells (fC seen).toArray 267 (0,0)) /\ Ext w w2,
  ⟨l.length,0,List.replicate 32 false,rfl,rfl,rfl,fun c hc=>?_,?_,hb,hE1⟩,?_⟩
 ·rw[List.getElem?_replicate,if_pos (by omega)];rfl
 ·have:cnt hs C (l.take 0)=0:=by rw[cnt_zero];exact IsLow.unique (pg_low hs C _) (fun q hq=>by simp[FrP,inW] at hq)
  rw[this];rfl
 rintro m jv nf i w2 ⟨j,seen,rfl,hm,hsl,hseen,rfl,hb2,hE2⟩;refine ifD (fun hj=>⟨by omega,hj,?_⟩) (fun hj=>⟨by rw[List.take_of_length_le (by omega)],hE2⟩);obtain⟨c,hc⟩:∃c,l[j]? = some c:=⟨_,zzgge (by omega)⟩;have ej:IntKind.i64.wrap ((j:Int)+1)=((j+1:Nat):Int):=by rw[Q03 (by omega) (by omega)];rfl
 rw[zztnc];refine(hrow.ext hE2).int hc (.of (Q3R (h.ext hE2) c) ?_);rintro r w3 ⟨rfl,rfl⟩;refine⟨_,rfl,?_⟩;by_cases hin:0<=c /\ c<C
 case neg=>
  rw[zzdcf hin];refine Q00 rfl ⟨m-1,by omega,j+1,seen,ej,by omega,hsl,fun c' hc'=>?_,?_,hb2,hE2⟩
  ·rw[Q0r hc,any_snoc,hseen c' hc'];have:(c == (c':Int))=false:=by simp;omega
   rw[this,Bool.or_false]
  ·rw[Q0r hc,cnt_same (by omega) (.inl hin)]
 rw[decide_eq_true hin];obtain⟨cn,rfl⟩:=zzeoz hin.1;have hcn:cn<C:=by omega
 simp only[Q02,Nat.zero_add,zztnc];refine Q04 rfl ⟨by omega,by omega,_,Q01 hb2 (fC_get seen (hseen cn hcn)),?_⟩;cases hany:(l.take j).any (fun x=>x == (cn:Int))with
 | true=>
  refine Q00 rfl ⟨m-1,by omega,j+1,seen,ej,by omega,hsl,fun c' hc'=>?_,?_,hb2,hE2⟩
  ·rw[Q0r hc,any_snoc,hseen c' hc'];by_cases e:c'=cn
   ·subst e;rw[hany];rfl
   ·have:((cn:Int) == (c':Int))=false:=by simp;omega
    rw[this,Bool.or_false]
  ·rw[Q0r hc,cnt_same (by omega) (.inr hany)]
 | false=>
  refine Q04 rfl ⟨by omega,by omega,?_⟩;refine Q0d (n:=1) hb2 (by simp[fC];omega) fun w4 hb4 hm4 hs4=>?_;rw[fC_set seen (by omega)] at hb4;have hE4:Ext w w4:=hE2.new hm4 (fun k hk=>by subst hk;omega);obtain⟨v,L,h1,h2,h3⟩:=(h.ext hE4).ok;obtain⟨pv,vc,rfl⟩:=h1.row.shape;obtain⟨a,q,fl,rfl,hq,hf,hcell,hsh⟩:=h1.at (c:=cn) (by omega);rw[Q1g hcn] at hf;cases hf;simp only[someA,Q02,Nat.zero_add];refine⟨_,_,_,h1.c2,by omega,by omega,?_⟩;refine⟨_,hcell,.of (free_any hsh) ?_⟩;rintro r w5 ⟨rfl,rfl⟩;have e:=cnt_more hlen hcn hany;have hle:=cnt_le hs C (l.take j++[(cn:Int)]);refine⟨_,rfl,m-1,by omega,j+1,seen.set cn true,ej,by omega,by simpa using hsl,fun c' hc'=>?_,?_,hb4,hE4⟩
  ·rw[Q0r hc,any_snoc,zzgst];by_cases e:cn=c'
   ·subst e;rw[if_pos rfl,if_pos (by omega)];simp
   ·rw[if_neg e,hseen c' hc'];have:((cn:Int) == (c':Int))=false:=by simp;omega
    rw[this,Bool.or_false]
  ·rw[Q0r hc,Q03 (by omega) (by omega),e];omega
end
theorem Q27(w:World)(P C:Int):Calls Tryz.prog 64 #[.agg #[.int .i64 P,.int .i64 C]] w (Ret fun r w'=>r=.int .i64 (if CfgOk P C then 0 else 12) /\ Ext w w'):=by
 refine vc114.ok ?_;unfold vc114;refine Q09 fun b w1 hb hE hs hs'=>?_;have c0:w1.cell? ((zA b).add 0)=some (.int .i64 P):=by rw[Q02];exact Q01 hb rfl
 have c1:w1.cell? ((zA b).add 1)=some (.int .i64 C):=by rw[Q02];exact Q01 hb rfl
 have no:¬CfgOk P C->(Value.int .i64 12=.int .i64 (if CfgOk P C then 0 else 12) /\ Ext w w1):=fun q=>⟨by rw[if_neg q],hE⟩;refine⟨_,c1,ifD (fun h=>no fun q=>by have:=q.1;omega) (fun h1=>⟨_,c1,ifD (fun h=>no fun q=>by have:=q.2.1;omega) (fun h2=>⟨_,c0,ifD (fun h=>no fun q=>by have:=q.2.2.1;omega) (fun h3=>⟨_,c0,ifD (fun h=>no fun q=>by have:=q.2.2.2.1;omega) (fun h4=>⟨_,c0,_,c1,by omega,?_⟩)⟩)⟩)⟩)⟩;refine Q05 (fun h=>no fun q=>?_) (fun h=>⟨?_,hE⟩)
 ·have:=q.2.2.2.2;rw[this] at h;cases h
 ·rw[if_pos];exact⟨by omega,by omega,by omega,by omega,by simpa using h⟩
theorem cols_none(n C:Nat):cols (List.replicate (n*C) false) C n=List.replicate C (List.replicate n false):=by
 apply List.ext_getElem?;intro c;by_cases hc:c<C
 ·rw[Q1g hc,List.getElem?_replicate,if_pos hc];congr 1;apply List.ext_getElem?;intro k;by_cases hk:k<n
  ·have hp:=page_lt (C:=C) hk hc;rw[col_get hk,List.getElem?_replicate,if_pos hk,List.getD_eq_getElem?_getD,List.getElem?_replicate,if_pos hp];rfl
  ·rw[List.getElem?_eq_none (by rw[col_len];omega),List.getElem?_replicate,if_neg hk]
 ·rw[List.getElem?_eq_none (by rw[Q2H];omega),List.getElem?_replicate,if_neg hc]
def NewM(w:World)(P C:Int)(r:Value)(w':World):Prop:=
 (¬CfgOk P C /\ r=.tuple #[.pointer none,.int .i64 12] /\ Ext w w') \/
 (CfgOk P C /\ ∃(mb n c:Nat)(F:Nat->Prop),P=((n*c:Nat):Int) /\ C=(c:Int) /\ r=.tuple #[zP mb,.int .i64 0] /\ MH w' mb F n c (List.replicate (n*c) false) /\ Ext w w' /\ (∀k,F k->w.heap.size<=k) /\ F mb)
theorem cfg_nat{P C:Int}(h:CfgOk P C):∃n c:Nat,P=((n*c:Nat):Int) /\ C=(c:Int) /\ 1<=n /\ 1<=c /\ c<=32 /\ n*c<=4096:=by
 obtain⟨h1,h2,h3,h4,h5⟩:=h;obtain⟨c,rfl⟩:=zzeoz (show 0<=C by omega);obtain⟨p,rfl⟩:=zzeoz (show 0<=P by omega);rw[tmod_nat] at h5;have h5:p % c=0:=by omega
 have hp:p / c*c=p:=Nat.div_mul_cancel (Nat.dvd_of_mod_eq_zero h5);refine⟨p / c,c,by rw[hp],rfl,?_,by omega,by omega,by rw[hp];omega⟩;rcases Nat.eq_zero_or_pos (p / c)with e | e
 ·rw[e] at hp;omega
 ·exact e
theorem mnew_any(w:World)(P C:Int):Calls Tryz.prog 65 #[.agg #[.int .i64 P,.int .i64 C]] w (Ret (NewM w P C)):=by
 refine vc127.ok ?_;unfold vc127;refine Q09 fun b0 w1 hb0 hE1 hs1 hs1'=>⟨_,_,Q08 (vs:=[.int .i64 P,.int .i64 C]) hb0,.of (Q27 w1 P C) ?_⟩;rintro r w2 ⟨rfl,hE2⟩;have hE12:=hE1.trans hE2;refine⟨_,rfl,?_⟩;by_cases hcfg:CfgOk P C
 case neg=>
  rw[if_neg hcfg];exact Q04 rfl (.inl ⟨hcfg,rfl,hE12⟩)
 rw[if_pos hcfg];obtain⟨n,c,rfl,rfl,hn,hc1,hc32,hp4⟩:=cfg_nat hcfg;refine Q00 rfl ⟨_,_,Q08 (vs:=[_,_]) (hE2.keep hb0),Q09 fun mb w3 hmb hE3 hs3 hs3'=>?_⟩;have hb3:=hE3.keep (hE2.keep hb0);have hE13:=hE12.trans hE3;refine⟨_,by rw[Q02];exact Q01 hb3 rfl,fun m i w4=>∃(j:Nat)(v:Value) (L:List (Nat × Nat)),i=(j:Int) /\ m+j=c /\ MP w4 mb ((n*c:Nat):Int) (c:Int) v L (List.replicate j (List.replicate n false)) /\ L.length=j /\
   Ext w2 w4 /\ (∀k,fpM mb v L k->w2.heap.size<=k) /\ w4.heap[b0]? = some (.cells #[.int .i64 ((n*c:Nat):Int),.int .i64 (c:Int)] 23 (0,0)),
  ⟨c,0,.slice none 0 0,[],rfl,rfl,⟨hmb,ORow.nil _ _,rfl,fun c p gb fl hq=>by simp at hq,fun k hk=>by simp[Value.ownBlock] at hk,fun q hq=>by simp at hq,fun c c' q q' hq=>by simp at hq⟩,rfl,hE3,fun k hk=>?_,hb3⟩,?_⟩
 ·rcases hk with rfl | hk | ⟨q,hq,_⟩
  ·omega
  ·simp[Value.ownBlock] at hk
  ·simp at hq
 rintro m jv i w4 ⟨j,v,L,rfl,hm,hMP,hL,hE4,hnew,hb4⟩;refine ifD (fun hj=>?_) (fun hj=>.inr ⟨hcfg,mb,n,c,fpM mb v L,rfl,rfl,rfl,⟨hn,hc1,hc32,hp4,by simp,⟨v,L,?_,?_,fun k hk=>hk⟩,hMP.lt⟩,hE12.trans hE4,fun k hk=>Nat.le_trans hE12.size (hnew k hk),.inl rfl⟩)
 ·have c0:w4.cell? ((zA b0).add 0)=some (.int .i64 ((n*c:Nat):Int)):=by rw[Q02];exact Q01 hb4 rfl
  have c1:w4.cell? ((zA b0).add 1)=some (.int .i64 (c:Int)):=by rw[Q02];exact Q01 hb4 rfl
  have hle:n<=n*c:=Nat.le_mul_of_pos_right n (by omega);have hdiv:IntKind.i64.wrap (((n*c:Nat):Int).tdiv (c:Int))=(n:Int):=by rw[Q2J,Nat.mul_div_cancel _ (by omega),Q03 (by omega) (by omega)]
  refine⟨_,c0,_,c1,by omega,?_⟩;rw[hdiv];refine .of (Sf.new_any w4 (n:Int)) ?_;rintro r w5 (⟨hno,_⟩ | ⟨_,_,p,gb,rfl,h5,hE5,hnew5⟩)
  ·exact absurd ⟨by omega,by omega⟩ hno
  rw[zztnc] at h5;have hMP5:=hMP.ext hE5;have hlt4:=hMP.lt;obtain⟨pv,vc,rfl⟩:=hMP5.row.shape;refine⟨_,_,rfl,_,_,_,by rw[Q02];exact hMP5.c2,Q09 fun b w6 hb hE6 hs6 hs6'=>?_⟩;simp only[Q02,Nat.zero_add];refine hMP5.push h5 (fun k hk hk'=>by have a1:=hnew5 k hk;have a2:=hlt4 k hk';omega) (by omega) rfl hb hE6 hs6 (fun p2 n2 c2 w7 hwr hk=>?_);refine⟨hwr,?_⟩;rintro w8 rfl;obtain⟨g1,g2,g3⟩:=hk _ rfl;refine⟨m-1,by omega,j+1,.slice p2 n2 c2,L++[(p,gb)],?_,by omega,?_,by simp[hL],(hE4.trans hE5).new g2 hnew,fun k hk'=>?_,?_⟩
  ·rw[Q03 (by omega) (by omega)];rfl
  ·rw[List.replicate_succ'];exact g1
  ·have a1:=hE4.size;have a2:=hE5.size;rcases g3 k hk' with e | e | e
   ·exact hnew k e
   ·have:=hnew5 k e;omega
   ·omega
  ·refine g2.keep (hE5.keep hb4) (fun hk=>?_);have:=hnew _ hk;have:=Q0g (hE2.keep hb0);omega
 ·have:j=c:=by omega
  subst this;rw[cols_none];exact hMP
 ·omega
section
variable(w:World)
end
end Cl
end
section
open Go.RowKit Go.Maps Thing
def tabT(o:Obj):Thing where
 P w F:=Sf.Tab w /\ w.heap[0]? = some o /\ F=(· = 0)
 keep:=by
  rintro w w' F G ⟨h1,h2,rfl⟩ hm hd;have hb:=hm.keep h2 (hd 0 rfl);refine⟨fun j m hj=>?_,hb,rfl⟩;have hc:=h1 j m hj;rw[World.cell?_of_block (w:=w') (w':=w) (by show w.heap[0]? = w'.heap[0]?;rw[hb,h2])] at hc;exact hc
 lt:=by
  rintro w F ⟨h1,h2,rfl⟩ j rfl;exact Q0g h2
def rowT(v:Value)(l:List Int):Thing where
 P w F:=ORow w 3 1 intF v l /\ F=fun k=>v.ownBlock=some k
 keep:=by
  rintro w w' F G ⟨h,rfl⟩ hm hd;exact⟨h.keep hm hd,rfl⟩
 lt:=by
  rintro w F ⟨h,rfl⟩;exact h.lt
def coT(mb n C:Nat)(hs:List Bool):Thing where
 P w F:=Cl.MH w mb F n C hs
 keep:=fun h hm hd=>h.keep hm hd
 lt:=fun h=>h.lt
section
variable{w:World}{mb n C:Nat}{hs:List Bool}{v:Value}{l:List Int}{o:Obj}{F:Nat->Prop}{X Y:Thing}{R:VW}
theorem Q2h(h:X.P w F)(e:X=rowT v l*Y):ORow w 3 1 intF v l:=by
 subst e;obtain⟨F1,F2,⟨a,_⟩,_⟩:=h;exact a
theorem t_ctake{p:Option Addr}{c:Nat}(hl:l.length<=maxLen):Tri 168 #[zP mb,.slice p l.length c] (tabT o*rowT (.slice p l.length c) l*coT mb n C hs)
  (fun u=>only (u=.tuple #[.int .i64 (Cl.mTakeI hs C l),.int .i64 (Cl.mTakeE hs C l)]) (tabT o*rowT (.slice p l.length c) l*coT mb n C (Cl.mTakeH hs C l))):=by
 rintro w F R ⟨F12,F3,⟨F1,F2,ht,hr,d1,rfl⟩,hc,d2,rfl⟩ r;refine .of (Cl.mtake_any ht.1 hc (ORow.rowAt Q0C hr.1) hl) ?_;rintro u w' ⟨rfl,hc',hm⟩;refine r _ w' (fun j=>(F1 j \/ F2 j) \/ F3 j) ⟨rfl,_,F3,?_,hc',d2,rfl⟩ ⟨hm.mono fun j hj=>.inr hj,fun j hj=>.inl hj⟩;exact(tabT o*rowT (.slice p l.length c) l).keep ⟨F1,F2,ht,hr,d1,rfl⟩ hm d2
theorem t_cgive(k:Int):Tri 172 #[zP mb,.int .i64 k] (coT mb n C hs) (fun u=>only (u=.int .i64 (Sf.giveE hs k)) (coT mb n C (Sf.giveH hs k))):=by
 intro w F R h r;refine .of (Cl.mgive_any h k) ?_;rintro u w' ⟨rfl,h',hm⟩;exact r _ w' F ⟨rfl,h'⟩ ⟨hm,fun j hj=>.inl hj⟩
theorem t_cfree{p:Option Addr}{c:Nat}(hc:(coT mb n C hs).P w F)(hr:ORow w 3 1 intF (.slice p l.length c) l)(hl:l.length<=maxLen)(r:∀w',Ext w w'->R (.int .i64 (Cl.cnt hs C l:Nat)) w') :
  CS 167 #[zP mb,.slice p l.length c] w R:=by
 refine .of (Cl.mfree_any hc (ORow.rowAt Q0C hr) hl) ?_;rintro u w' ⟨rfl,hE⟩;exact r w' hE
theorem t_ccolour(hc:(coT mb n C hs).P w F)(k:Int)(r:R (.int .i64 (Cl.mCol hs.length C k)) w):CS 163 #[zP mb,.int .i64 k] w R:=by
 refine .of (Cl.mcolour_any hc k) ?_;rintro u w' ⟨rfl,rfl⟩;exact r
theorem t_ceach(hc:(coT mb n C hs).P w F)(r:∀w',Ext w w'->R (.int .i64 (n:Int)) w'):CS 73 #[zP mb] w R:=by
 refine .of (Cl.each_any hc) ?_;rintro u w' ⟨rfl,hE⟩;exact r w' hE
theorem t_cnew(P0 C0:Int)(r0:¬Cl.CfgOk P0 C0->∀w',Ext w w'->R (.tuple #[.pointer none,.int .i64 12]) w')
  (r1:∀(mb n c:Nat) F w',Cl.CfgOk P0 C0->P0=((n*c:Nat):Int)->C0=(c:Int)->(coT mb n c (List.replicate (n*c) false)).P w' F->Ext w w'->(∀k,F k->w.heap.size<=k)->R (.tuple #[zP mb,.int .i64 0]) w') :
  CS 65 #[.agg #[.int .i64 P0,.int .i64 C0]] w R:=by
 refine .of (Cl.mnew_any w P0 C0) ?_;rintro u w' (⟨hno,rfl,hE⟩ | ⟨hok,mb,n,c,F,h1,h2,rfl,h,hE,hn,_⟩)
 ·exact r0 hno w' hE
 ·exact r1 mb n c F w' hok h1 h2 h hE hn
variable{sb:Nat}
end
end
section
open Go.RowKit Go.Maps Thing
section
variable{w:World}{hs:List Bool}{o:Obj}{F:Nat->Prop}{X Y:Thing}{R:VW}{sb:Nat}
theorem tab_of(h:X.P w F)(e:X=tabT o*Y):Sf.Tab w:=by
 subst e;obtain⟨F1,F2,⟨a,_⟩,_⟩:=h;exact a
theorem t_slow(ht:Sf.Tab w)(h:(shT sb hs).P w F)(r:R (.int .i64 (Sf.lowI hs)) w):CS 160 #[zP sb] w R:=by
 obtain⟨gb,h,_⟩:=h;refine .of (Sf.lowest_any ht h) ?_;rintro u w' ⟨rfl,rfl⟩;exact r
theorem t_sfree(h:(shT sb hs).P w F)(r:R (.int .i64 (hs.count false:Nat)) w):CS 108 #[zP sb] w R:=by
 obtain⟨gb,h,_⟩:=h;refine .of (Sf.free_any h) ?_;rintro u w' ⟨rfl,rfl⟩;exact r
theorem t_staken(h:(shT sb hs).P w F)(k:Int)(r:∀w',Ext w w'->R (.bool (Sf.isTaken hs k)) w'):CS 177 #[zP sb,.int .i64 k] w R:=by
 obtain⟨gb,h,_⟩:=h;refine .of (Sf.taken_any h k) ?_;rintro u w' ⟨rfl,rfl⟩;exact r _ (Mod.refl _ _)
theorem t_stake:Tri 113 #[zP sb] (tabT o*shT sb hs) (fun u=>only (u=.tuple #[.int .i64 (Sf.takeI hs),.int .i64 (Sf.takeE hs)]) (tabT o*shT sb (Sf.takeH hs))):=by
 rintro w F R ⟨F1,F2,ht,⟨gb,h,rfl⟩,d,rfl⟩ r;refine .of (Sf.take_any ht.1 h) ?_;rintro u w' ⟨rfl,h',hm⟩;exact r _ w' (fun j=>F1 j \/ Sf.fpS sb gb j) ⟨rfl,F1,_,(tabT o).keep ht hm d,⟨gb,h',rfl⟩,d,rfl⟩ ⟨hm.mono fun j hj=>.inr hj,fun j hj=>.inl hj⟩
theorem t_stakeAt(k:Int):Tri 220 #[zP sb,.int .i64 k] (shT sb hs) (fun u=>only (u=.int .i64 (Sf.takeAtE hs k)) (shT sb (Sf.takeAtH hs k))):=by
 rintro w F R ⟨gb,h,rfl⟩ r;refine .of (Sf.takeAt_any h k) ?_;rintro u w' ⟨rfl,h',hm⟩;exact r _ w' _ ⟨rfl,gb,h',rfl⟩ ⟨hm,fun j hj=>.inl hj⟩
theorem t_sgive(k:Int):Tri 122 #[zP sb,.int .i64 k] (shT sb hs) (fun u=>only (u=.int .i64 (Sf.giveE hs k)) (shT sb (Sf.giveH hs k))):=by
 rintro w F R ⟨gb,h,rfl⟩ r;refine .of (Sf.give_any h k) ?_;rintro u w' ⟨rfl,h',hm⟩;exact r _ w' _ ⟨rfl,gb,h',rfl⟩ ⟨hm,fun j hj=>.inl hj⟩
end
end
section
namespace Hd
open Go.RowKit
abbrev KeyOk(t s r n:Int):Prop:=0<=t /\ t<=7 /\ 0<=s /\ s<=4159 /\ 1<=r /\ r<=7 /\ 1<=n /\ n<=17592186044415
def packV(t s r n:Int):Int:=t+16*r+128*s+1048576*n
theorem Q0O(x a b:Int)(w:World):Calls Tryz.prog 268 #[.int .i64 x,.int .i64 a,.int .i64 b] w (Ret fun v w'=>v=.bool (decide (a<=x /\ x<=b)) /\ w'=w):=by
 refine vc210.ok ?_;unfold vc210;refine ifD (fun h=>?_) (fun h=>?_)
 ·exact⟨by congr 1;simp;omega,rfl⟩
 ·exact⟨by congr 1;simp;omega,rfl⟩
theorem Q27(t s r n:Int)(w:World):Calls Tryz.prog 261 #[.agg #[.int .i64 t,.int .i64 s,.int .i64 r,.int .i64 n]] w
  (Ret fun v w'=>v=.int .i64 (if KeyOk t s r n then 0 else 12) /\ Ext w w'):=by
 refine vc209.ok ?_;simp only[vc209,Q02,Nat.zero_add,Nat.add_zero];refine Q09 fun b w1 hb hE _ hs=>?_;refine⟨t,Q01 hb rfl,.of (Q0O _ _ _ _) ?_⟩;rintro v w2 ⟨rfl,rfl⟩;refine⟨_,rfl,?_⟩;refine Q05 (fun h=>?_) (fun h=>?_)
 ·simp at h;exact⟨by rw[if_neg (by omega)],hE⟩
 simp at h;refine⟨s,Q01 hb rfl,.of (Q0O _ _ _ _) ?_⟩;rintro v w2 ⟨rfl,rfl⟩;refine⟨_,rfl,?_⟩;refine Q05 (fun h=>?_) (fun h=>?_)
 ·simp at h;exact⟨by rw[if_neg (by omega)],hE⟩
 simp at h;refine⟨r,Q01 hb rfl,.of (Q0O _ _ _ _) ?_⟩;rintro v w2 ⟨rfl,rfl⟩;refine⟨_,rfl,?_⟩;refine Q05 (fun h=>?_) (fun h=>?_)
 case refine_2=>simp at h;exact⟨by rw[if_neg (by omega)],hE⟩
 simp at h;refine⟨n,Q01 hb rfl,.of (Q0O _ _ _ _) ?_⟩;rintro v w2 ⟨rfl,rfl⟩;refine⟨_,rfl,?_⟩;refine Q05 (fun h=>?_) (fun h=>?_)
 ·simp at h;exact⟨by rw[if_pos (by omega)],hE⟩
 ·simp at h;exact⟨by rw[if_neg (by omega)],hE⟩
theorem pack_bits{t s r n:Nat}(ht:t<=7)(hs:s<=4159)(hr:r<=7)(hn:n<=17592186044415) :
  ((t ||| (r*2 ^ 4)) ||| (s*2 ^ 7)) ||| (n*2 ^ 20)=t+16*r+128*s+1048576*n:=by
 have e1:t ||| (r*2 ^ 4)=r*2 ^ 4+t:=by
  rw[Nat.or_comm,Nat.mul_comm];exact(Nat.two_pow_add_eq_or_of_lt (i:=4) (by omega) r).symm
 rw[e1];have e2:(r*2 ^ 4+t) ||| (s*2 ^ 7)=s*2 ^ 7+(r*2 ^ 4+t):=by
  rw[Nat.or_comm,Nat.mul_comm s];exact(Nat.two_pow_add_eq_or_of_lt (i:=7) (by omega) s).symm
 rw[e2];have e3:(s*2 ^ 7+(r*2 ^ 4+t)) ||| (n*2 ^ 20)=n*2 ^ 20+(s*2 ^ 7+(r*2 ^ 4+t)):=by
  rw[Nat.or_comm,Nat.mul_comm n];exact(Nat.two_pow_add_eq_or_of_lt (i:=20) (by omega) n).symm
 rw[e3];omega
theorem pack_word{t s r n:Int}(h:KeyOk t s r n) :
  bits .or .u64 (bits .or .u64 (bits .or .u64 (IntKind.u64.wrap t) (shlV .u64 (IntKind.u64.wrap r) 4)) (shlV .u64 (IntKind.u64.wrap s) 7)) (shlV .u64 (IntKind.u64.wrap n) 20)=packV t s r n:=by
 obtain⟨h0,h1,h2,h3,h4,h5,h6,h7⟩:=h;obtain⟨t,rfl⟩:=zzeoz h0;obtain⟨s,rfl⟩:=zzeoz h2;obtain⟨r,rfl⟩:=zzeoz (show(0:Int)<=r by omega);obtain⟨n,rfl⟩:=zzeoz (show(0:Int)<=n by omega);rw[Q0z (n:=(t:Int)) (by omega) (by omega),Q0z (n:=(r:Int)) (by omega) (by omega),Q0z (n:=(s:Int)) (by omega) (by omega),Q0z (n:=(n:Int)) (by omega) (by omega)];have e1:=Q1E (r:Int) (n:=4) (by omega);have e2:=Q1E (s:Int) (n:=7) (by omega);have e3:=Q1E (n:Int) (n:=20) (by omega);rw[show((4:Nat):Int)=4 from rfl,Q0z (by omega) (by omega),show(r:Int)*2 ^ 4=((r*2 ^ 4:Nat):Int) by omega] at e1;rw[show((7:Nat):Int)=7 from rfl,Q0z (by omega) (by omega),show(s:Int)*2 ^ 7=((s*2 ^ 7:Nat):Int) by omega] at e2;rw[show((20:Nat):Int)=20 from rfl,Q0z (by omega) (by omega),show(n:Int)*2 ^ 20=((n*2 ^ 20:Nat):Int) by omega] at e3;have hb:=pack_bits (t:=t) (s:=s) (r:=r) (n:=n) (by omega) (by omega) (by omega) (by omega);have l1:t ||| (r*2 ^ 4)<2 ^ 64:=Nat.or_lt_two_pow (n:=64) (by omega) (by omega);have l2:(t ||| (r*2 ^ 4)) ||| (s*2 ^ 7)<2 ^ 64:=Nat.or_lt_two_pow (n:=64) l1 (by omega);rw[e1,e2,e3,Q2x (by omega) (by omega),Q2x (by omega) (by omega),Q2x (by omega) (by omega),hb];simp only[packV];omega
theorem pack_any(t s r n:Int)(w:World):Calls Tryz.prog 243 #[.agg #[.int .i64 t,.int .i64 s,.int .i64 r,.int .i64 n]] w
  (Ret fun v w'=>v=.tuple #[.int .u64 (if KeyOk t s r n then packV t s r n else 0),.int .i64 (if KeyOk t s r n then 0 else 12)] /\ Ext w w'):=by
 refine vc204.ok ?_;simp only[vc204,Q02,Nat.zero_add,Nat.add_zero];refine Q09 fun b w1 hb hE _ hs=>?_;refine⟨t,s,r,n,Q08 hb,.of (Q27 _ _ _ _ _) ?_⟩;rintro v w2 ⟨rfl,hE2⟩;have hb2:=hE2.keep hb;refine⟨_,rfl,?_⟩;by_cases hk:KeyOk t s r n
 ·rw[if_pos hk,if_pos hk];refine Q00 rfl ?_;refine⟨t,Q01 hb2 rfl,r,Q01 hb2 rfl,by decide,s,Q01 hb2 rfl,by decide,n,Q01 hb2 rfl,by decide,?_,hE.trans hE2⟩;rw[pack_word hk]
 ·rw[if_neg hk,if_neg hk];refine Q04 rfl ⟨rfl,hE.trans hE2⟩
def uT(h:Int):Int:=h % 16
def uR(h:Int):Int:=h / 16 % 8
def uS(h:Int):Int:=h / 128 % 8192
def uN(h:Int):Int:=h / 1048576
abbrev HOk(h:Int):Prop:=KeyOk (uT h) (uS h) (uR h) (uN h)
abbrev U64(x:Int):Prop:=0<=x /\ x<=18446744073709551615
def unpackV(h:Int):Value:=if HOk h then .tuple #[.agg #[.int .i64 (uT h),.int .i64 (uS h),.int .i64 (uR h),.int .i64 (uN h)],.int .i64 0]
 else .tuple #[.agg #[.int .i64 0,.int .i64 0,.int .i64 0,.int .i64 0],.int .i64 5]
theorem and_low{a:Nat}(k:Nat)(m:Nat)(hm:m=2 ^ k-1)(h:a<18446744073709551616)(hk:m<18446744073709551616) :
  bits .and .u64 (a:Int) (m:Int)=((a % 2 ^ k:Nat):Int):=by
 rw[bits_and h hk,hm,Nat.and_two_pow_sub_one_eq_mod]
set_option maxHeartbeats 1000000 in
theorem unpack_any(h:Int)(hu:U64 h)(w:World):Calls Tryz.prog 242 #[.int .u64 h] w (Ret fun v w'=>v=unpackV h /\ Ext w w'):=by
 refine vc203.ok ?_;simp only[vc203,Q02,Nat.zero_add,Nat.add_zero];obtain⟨m,rfl⟩:=zzeoz hu.1;have hm:m<18446744073709551616:=by have:=hu.2;omega
 have s4:shrV .u64 (m:Int) 4=(m:Int) / 2 ^ 4:=Q25 (a:=(m:Int)) (by omega) (n:=4) (by omega);have s7:shrV .u64 (m:Int) 7=(m:Int) / 2 ^ 7:=Q25 (a:=(m:Int)) (by omega) (n:=7) (by omega);have s20:shrV .u64 (m:Int) 20=(m:Int) / 2 ^ 20:=Q25 (a:=(m:Int)) (by omega) (n:=20) (by omega);rw[s4,s7,s20];have q4:(m:Int) / 2 ^ 4=((m / 16:Nat):Int):=by omega
 have q7:(m:Int) / 2 ^ 7=((m / 128:Nat):Int):=by omega
 have q20:(m:Int) / 2 ^ 20=((m / 1048576:Nat):Int):=by omega
 rw[q4,q7,q20];have a1:bits .and .u64 (m:Int) 15=((m % 2 ^ 4:Nat):Int):=and_low (a:=m) 4 15 (by decide) hm (by omega);have a2:bits .and .u64 ((m / 128:Nat):Int) 8191=((m / 128 % 2 ^ 13:Nat):Int):=and_low (a:=m / 128) 13 8191 (by decide) (by omega) (by omega);have a3:bits .and .u64 ((m / 16:Nat):Int) 7=((m / 16 % 2 ^ 3:Nat):Int):=and_low (a:=m / 16) 3 7 (by decide) (by omega) (by omega);rw[a1,a2,a3,Q03 (by omega) (by omega),Q03 (by omega) (by omega),Q03 (by omega) (by omega),Q03 (by omega) (by omega)];have e1:((m % 2 ^ 4:Nat):Int)=uT m:=by simp only[uT];omega
 have e2:((m / 128 % 2 ^ 13:Nat):Int)=uS m:=by simp only[uS];omega
 have e3:((m / 16 % 2 ^ 3:Nat):Int)=uR m:=by simp only[uR];omega
 have e4:((m / 1048576:Nat):Int)=uN m:=by simp only[uN];omega
 rw[e1,e2,e3,e4];refine Q09 fun b w1 hb hE hs1 hs=>?_;refine⟨by decide,by decide,by decide,?_⟩;refine Q09 fun c w2 hc hE2 hs2 hs'=>?_;refine Q0d hc (by simp) fun w3 hc3 hM3 hs3=>?_;have hb3:=hM3.keep (hE2.keep hb) (by omega);refine⟨_,_,_,_,Q08 hc3,.of (Q27 _ _ _ _ _) ?_⟩;rintro v w4 ⟨rfl,hE4⟩;have hc4:=hE4.keep hc3;have hb4:=hE4.keep hb3;have hE3:Ext w w3:=Ext.new (hE.trans hE2) hM3 (by intro k hk;omega);have hE4':Ext w w4:=hE3.trans hE4;refine⟨_,rfl,?_⟩;by_cases hk:HOk (m:Int)
 ·rw[if_pos hk];refine Q00 rfl ?_;refine⟨_,_,_,_,Q08 hc4,?_⟩;refine Q0d hb4 (by simp) fun w5 hb5 hM5 hs5=>?_;refine⟨_,_,_,_,Q08 hb5,?_,Ext.new hE4' hM5 (by intro k hk;omega)⟩;rw[unpackV,if_pos hk]
 ·rw[if_neg hk];refine Q04 rfl ?_;refine Q0d hb4 (by simp) fun w5 hb5 hM5 hs5=>?_;refine⟨_,_,_,_,Q08 hb5,?_,Ext.new hE4' hM5 (by intro k hk;omega)⟩;rw[unpackV,if_neg hk]
end Hd
end
section
namespace Cp
open Go.Proofs.YtpnbcakbefplpaaGreatDoor.Sf
open Go.RowKit
theorem run_good_neq(w:World)(a b a' b':Int) :
  (binOp .neq 252 (.agg #[.int .i64 a,.int .i64 b]) (.agg #[.int .i64 a',.int .i64 b'])).run Tryz.prog w=.ok (.bool (!(a == a' && (b == b' && true)))) w:=by
 have hu:Tryz.prog.underlying 3=some (.int .i64):=by kernel_rfl
 exact(Q22 (P:=Tryz.prog) (w:=w) (t:=252) (xs:=#[.int .i64 a,.int .i64 b]) (ys:=#[.int .i64 a',.int .i64 b'])
  (l := [(⟨ "rights", 3, 0, false, "", "garth/caps", 0⟩, a == a'), (⟨ "serial", 3, 1, false, "", "garth/caps", 8⟩, b == b')])
  (by kernel_rfl) (by kernel_rfl) (by kernel_rfl) (by
   intro p hp;simp only[List.mem_cons,List.mem_nil_iff,or_false] at hp;rcases hp with rfl | rfl
   ·exact⟨by simp,_,_,Q0s hu rfl rfl w,Q0s hu rfl rfl w,run_equalIn_int w 9998 3 .i64 .i64 _ _ hu⟩
   ·exact⟨by simp,_,_,Q0s hu rfl rfl w,Q0s hu rfl rfl w,run_equalIn_int w 9998 3 .i64 .i64 _ _ hu⟩)).2
abbrev Sl:=Int × Int × Int
def slotV(s:Sl):Value:=.agg #[.int .i64 s.1,.int .i64 s.2.1,.int .i64 s.2.2]
def mapS(S:Int->Option Sl):Int->Option Value:=fun x=>(S x).map slotV
def updS(S:Int->Option Sl)(k:Int)(v:Option Sl):Int->Option Sl:=fun x=>if x=k then v else S x
theorem mapS_upd(S:Int->Option Sl)(k:Int)(v:Option Sl):upd (mapS S) k (v.map slotV)=mapS (updS S k v):=by
 funext x;unfold upd mapS updS;split <;> rfl
def occ(S:Int->Option Sl)(base n:Nat):List Bool:=(List.range n).map fun k=>(S ((base+k:Nat):Int)).isSome
theorem occ_len(S:Int->Option Sl)(base n:Nat):(occ S base n).length=n:=by simp[occ]
theorem Q2n(S:Int->Option Sl){base n k:Nat}(hk:k<n):(occ S base n)[k]? = some (S ((base+k:Nat):Int)).isSome:=by simp[occ,hk]
theorem occ_set(S:Int->Option Sl){base n k:Nat}(hk:k<n)(v:Option Sl):(occ S base n).set k v.isSome=occ (updS S ((base+k:Nat):Int) v) base n:=by
 apply List.ext_getElem?;intro j;rw[zzgst,occ_len];by_cases hj:j<n
 ·rw[Q2n _ hj,Q2n _ hj];unfold updS;by_cases e:k=j
  ·subst e;simp[hk]
  ·rw[if_neg e,if_neg (by omega)]
 ·rw[List.getElem?_eq_none (by rw[occ_len];omega),List.getElem?_eq_none (by rw[occ_len];omega)];split
  ·omega
  ·rfl
theorem occ_out(S:Int->Option Sl){base n:Nat}{x:Int}(h:∀k:Nat,k<n->x ≠ ((base+k:Nat):Int))(v:Option Sl):occ (updS S x v) base n=occ S base n:=by
 apply List.ext_getElem?;intro j;by_cases hj:j<n
 ·rw[Q2n _ hj,Q2n _ hj];unfold updS;rw[if_neg (fun e=>h j hj e.symm)]
 ·rw[List.getElem?_eq_none (by rw[occ_len];omega),List.getElem?_eq_none (by rw[occ_len];omega)]
structure CPw (w:World) (p B ob og eb eg:Nat) (T nx:Int) (S:Int->Option Sl) (sz:Nat):Prop where
 head:w.heap[p]? = some (.cells #[.int .i64 T,.int .i64 nx,.map (some B),zP ob,zP eb] 230 (0,0))
 slots:IMap w Tryz.prog 3 .i64 B (mapS S) sz
 objs:SH w ob og (occ S 0 4096)
 extra:SH w eb eg (occ S 4096 64)
 t0:0<=T /\ T<=7
 n0:1<=nx /\ nx<=17592186044416
 rng:∀x s,S x=some s->0<=x /\ x<4160
 ok:∀x s,S x=some s->1<=s.1 /\ s.1<=7 /\ 1<=s.2.1 /\ s.2.1<nx /\ 0<=s.2.2
 szn:(sz:Int)<nx
 d:p ≠ B /\ p ≠ ob /\ p ≠ og /\ p ≠ eb /\ p ≠ eg /\ B ≠ ob /\ B ≠ og /\ B ≠ eb /\ B ≠ eg /\ ob ≠ eb /\ ob ≠ eg /\ og ≠ eb /\ og ≠ eg
def fpC(p B ob og eb eg:Nat)(k:Nat):Prop:=k=p \/ k=B \/ k=ob \/ k=og \/ k=eb \/ k=eg
def CP(w:World)(p:Nat)(F:Nat->Prop)(T nx:Int)(S:Int->Option Sl)(sz:Nat):Prop:=∃B ob og eb eg,CPw w p B ob og eb eg T nx S sz /\ F=fpC p B ob og eb eg
section
variable{w w':World}{p B ob og eb eg:Nat}{F G:Nat->Prop}{T nx:Int}{S:Int->Option Sl}{sz:Nat}
theorem CPw.keep(h:CPw w p B ob og eb eg T nx S sz)(hm:Mod G w w')(hG:∀k,fpC p B ob og eb eg k->¬G k):CPw w' p B ob og eb eg T nx S sz:=
 ⟨hm.keep h.head (hG p (.inl rfl)),h.slots.keep hm (hG B (.inr (.inl rfl))),h.objs.keep hm (fun k hk=>hG k (by unfold fpC;unfold fpS at hk;omega)),h.extra.keep hm (fun k hk=>hG k (by unfold fpC;unfold fpS at hk;omega)),h.t0,h.n0,h.rng,h.ok,h.szn,h.d⟩
theorem CP.keep(h:CP w p F T nx S sz)(hm:Mod G w w')(hG:∀k,F k->¬G k):CP w' p F T nx S sz:=by
 obtain⟨B,ob,og,eb,eg,h,rfl⟩:=h;exact⟨B,ob,og,eb,eg,h.keep hm hG,rfl⟩
theorem CP.ext(h:CP w p F T nx S sz)(hE:Ext w w'):CP w' p F T nx S sz:=h.keep hE fun _ _ x=>x
theorem CPw.lt(h:CPw w p B ob og eb eg T nx S sz):∀k,fpC p B ob og eb eg k->k<w.heap.size:=by
 rintro k (rfl | rfl | rfl | rfl | rfl | rfl)
 ·exact Q0g h.head
 ·exact h.slots.lt
 ·exact h.objs.lt _ (.inl rfl)
 ·exact h.objs.lt _ (.inr rfl)
 ·exact h.extra.lt _ (.inl rfl)
 ·exact h.extra.lt _ (.inr rfl)
theorem CP.lt(h:CP w p F T nx S sz):∀k,F k->k<w.heap.size:=by
 obtain⟨B,ob,og,eb,eg,h,rfl⟩:=h;exact h.lt
end
def putK(S:Int->Option Sl)(base n:Nat)(nx:Int):Option Nat:=if nx>=17592186044416 then none else(occ S base n).findIdx? fun b=>!b
def putV(T:Int)(S:Int->Option Sl)(base n:Nat)(nx r:Int):Value:=match putK S base n nx with
 | some k=>.tuple #[.int .u64 (Hd.packV T ((base+k:Nat):Int) r nx),.int .i64 0]
 | none=>.tuple #[.int .u64 0,.int .i64 10]
def putS(S:Int->Option Sl)(base n:Nat)(nx r a:Int):Int->Option Sl:=match putK S base n nx with
 | some k=>updS S ((base+k:Nat):Int) (some (r,nx,a))
 | none=>S
def putN(S:Int->Option Sl)(base n:Nat)(nx:Int):Int:=match putK S base n nx with
 | some _=>nx+1
 | none=>nx
def putZ(S:Int->Option Sl)(base n:Nat)(nx:Int)(sz:Nat):Nat:=match putK S base n nx with
 | some _=>sz+1
 | none=>sz
def findS(T:Int)(S:Int->Option Sl)(h:Int):Option Sl:=
 if Hd.HOk h /\ Hd.uT h=T then(match S (Hd.uS h)with | some s=>if s.1=Hd.uR h /\ s.2.1=Hd.uN h then some s else none | none=>none)else none
def findV(o:Option Sl):Value:=match o with
 | some s=>.tuple #[slotV s,.int .i64 0]
 | none=>.tuple #[.agg #[.int .i64 0,.int .i64 0,.int .i64 0],.int .i64 5]
def may(s:Sl)(r:Int):Bool:=bits .and .i64 s.1 r == r
end Cp
end
section
namespace Cp
open Go.Proofs.YtpnbcakbefplpaaGreatDoor.Sf
open Go.RowKit
theorem uCM:Tryz.prog.underlying 228=some (.map 3 254):=by kernel_rfl
theorem uCI:Tryz.prog.underlying 3=some (.int .i64):=by kernel_rfl
theorem zCS(w:World):(zeroValue 254).run Tryz.prog w=.ok (slotV (0,0,0)) w:=by kernel_rfl
theorem Q3V{n:Int}(h0:-9223372036854775808<=n)(h1:n<=9223372036854775807):(Lit.int .i64 n).wf=true:=by
 simp[Lit.wf,IntKind.min,IntKind.max,IntKind.signed,IntKind.bits];omega
theorem dcell{w:World}{b:Nat}{arr:Array Value}{T:TypeId}{v:Value}{i:Nat}(h:w.heap[b]? = some (.cells arr T (0,0)))(hv:arr[0+i]? = some v):w.cell? ((zA b).add i)=some v:=by
 rw[Q02];exact Q01 h hv
theorem cells3{w:World}{b:Nat}{x y z:Value}{T:TypeId}(h:w.heap[b]? = some (.cells #[x,y,z] T (0,0))):CellsAt w (zA b) [x,y,z]:=Q08 (vs:=[x,y,z]) h
theorem cells2{w:World}{b:Nat}{x y z:Value}{T:TypeId}(h:w.heap[b]? = some (.cells #[x,y,z] T (0,0))):CellsAt w ((zA b).add 0) [x,y]:=by
 intro j v hv;rw[Q02,Q02];refine Q01 h ?_
 match j,hv with
 | 0,hv=>simpa using hv
 | 1,hv=>simpa using hv
theorem give3{w:World}{b:Nat}{T:TypeId}{x y z:Value}{u v t:Value}{Q:World->Prop}(h:w.heap[b]? = some (.cells #[x,y,z] T (0,0)))(q:∀w1,w1.heap[b]? = some (.cells #[u,v,t] T (0,0))->Mod (· = b) w w1->w1.heap.size=w.heap.size->Q w1) :
  WrC w (zA b) 3 /\ ∀w1,w1=wr w (zA b) [u,v,t]->Q w1:=
 Q0d (b:=b) (n:=3) h (by simp) fun w1 h1 hm hs=>q w1 (by simpa [setAt] using h1) hm hs
section
variable{w:World}{p:Nat}{F:Nat->Prop}{T nx:Int}{S:Int->Option Sl}{sz:Nat}
theorem uparts(h:Int):∃t s r n e:Int,Hd.unpackV h=.tuple #[.agg #[.int .i64 t,.int .i64 s,.int .i64 r,.int .i64 n],.int .i64 e] /\ (Lit.int .i64 s).wf=true /\
  ((Hd.HOk h /\ t=Hd.uT h /\ s=Hd.uS h /\ r=Hd.uR h /\ n=Hd.uN h /\ e=0) \/ (¬Hd.HOk h /\ e=5)):=by
 unfold Hd.unpackV;by_cases hk:Hd.HOk h
 ·rw[if_pos hk];exact⟨_,_,_,_,_,rfl,Q3V (by have:=hk.2.2.1;omega) (by have:=hk.2.2.2.1;omega),.inl ⟨hk,rfl,rfl,rfl,rfl,rfl⟩⟩
 ·rw[if_neg hk];exact⟨_,_,_,_,_,rfl,Q3V (by decide) (by decide),.inr ⟨hk,rfl⟩⟩
theorem Q28{b:Nat}(h:IMap w Tryz.prog 3 .i64 b (mapS S) sz){k:Int}(hk:(Lit.int .i64 k).wf=true) :
  (Instr.lookup 228 (.map (some b)) (.int .i64 k) true).run Tryz.prog w=.ok (.tuple #[slotV ((S k).getD (0,0,0)),.bool (S k).isSome]) w:=by
 rw[h.look_ok uCI uCM (zCS w) hk];unfold mapS;cases S k <;> rfl
set_option maxHeartbeats 1000000 in
theorem cfind_any(h:CP w p F T nx S sz){hh:Int}(hu:Hd.U64 hh):Calls Tryz.prog 197 #[zP p,.int .u64 hh] w (Ret fun r w'=>r=findV (findS T S hh) /\ Ext w w'):=by
 refine vc185.ok ?_;unfold vc185;refine Q09 fun b0 w1 hb0 hE1 hs1 hs1'=>Q00 rfl (.of (Hd.unpack_any hh hu w1) ?_);rintro r w7 ⟨rfl,hE7⟩;obtain⟨t,s,r,n,e,hv,hswf,hcase⟩:=uparts hh;rw[hv];have hb7:=hE7.keep hb0;refine⟨_,_,_,_,_,rfl,Q09 fun b13 w14 hb13 hE14 hs14 hs14'=>?_⟩;refine Q0d (b:=b13) (n:=4) hb13 (by simp) fun w15 hb15 hm15 hs15=>?_;have hb15:w15.heap[b13]? = some (.cells #[.int .i64 t,.int .i64 s,.int .i64 r,.int .i64 n] 283 (0,0)):=hb15;rintro w16 rfl;have s7:=hE7.size;have hE715:Ext w7 w15:=hE14.new hm15 (fun k hk=>by omega);have hE116:Ext w1 w15.drew:=(hE7.trans hE715).trans (Ext.drew w15);have hE16:=hE1.trans hE116;have hb16:=(Ext.drew w15).keep hb15;have hb0':=hE116.keep hb0;have h16:=h.ext hE16;have hltb0:b0<w15.drew.heap.size:=Q0g hb0';generalize w15.drew=w16 at hE16 hE116 hb16 hb0' h16 hltb0;obtain⟨B,ob,og,eb,eg,h16,rfl⟩:=h16;simp only[someA];refine⟨_,dcell h16.head rfl,_,dcell hb16 rfl,_,_,_,_,w16,Q28 h16.slots hswf,rfl,Q09 fun b25 w26 hb25 hE26 hs26 hs26'=>?_⟩;have hm26:=h16.slots.ext hE26;refine⟨⟨_,_,_,_,w26,Q28 hm26 hswf,rfl,rfl⟩,⟨_,dcell (hE26.keep hb16) rfl,rfl⟩,⟨_,dcell (hE26.keep h16.head) rfl,rfl⟩,?_⟩;refine give3 hb25 fun w34 hb34 hm34 hs34=>?_;rintro w35 rfl;have hE1634:Ext w16 w34:=hE26.new hm34 (fun k hk=>by omega);have hE1635:Ext w16 w34.drew:=hE1634.trans (Ext.drew w34);have hb35:=(Ext.drew w34).keep hb34;have hb0'':=hE1635.keep hb0';have h35:=h16.keep hE1635 (fun _ _ x=>x);have hk35:=hE1635.keep hb16
 have hE35:Ext w w34.drew:=hE16.trans hE1635;generalize w34.drew=w35 at hE1635 hb35 hb0'' h35 hk35 hE35;have lt0:w.heap.size<=b0:=by omega
 have bad:findS T S hh=none->WrC w35 (zA b0) 3 /\ ∀(w36:World),w36=wr w35 (zA b0) [Value.int .i64 0,.int .i64 0,.int .i64 0] →
   ∃i37 i38 i39:Int,CellsAt w36 (zA b0) [.int .i64 i37,.int .i64 i38,.int .i64 i39] /\ (Value.tuple #[.agg #[.int .i64 i37,.int .i64 i38,.int .i64 i39],.int .i64 5]=findV (findS T S hh) /\ Ext w w36):=fun hn=>by
  refine give3 hb0'' fun w36 hb36 hm36 _=>⟨_,_,_,cells3 hb36,?_,hE35.new hm36 (fun k hk=>by omega)⟩;rw[hn];rfl
 rcases hcase with⟨hk,rfl,rfl,rfl,rfl,rfl⟩ | ⟨hk,rfl⟩
 case inr=>
  refine Q04 rfl ⟨by trivial,by trivial,by trivial,bad ?_⟩;rw[findS,if_neg (fun x=>hk x.1)]
 refine Q00 rfl ⟨by trivial,by trivial,?_⟩;cases hS:S (Hd.uS hh)with
 | none=>
  refine Q04 rfl ⟨by trivial,by trivial,bad ?_⟩;rw[findS,hS];split <;> rfl
 | some sl=>
  refine Q00 rfl ⟨_,dcell hk35 rfl,_,dcell h35.head rfl,by trivial,?_⟩;by_cases hT:Hd.uT hh=T
  case neg=>
   refine Q04 (by simpa using hT) ⟨by trivial,bad ?_⟩;rw[findS,if_neg (fun x=>hT x.2)]
  refine Q00 (by simpa using hT) ?_;rw[hS] at hb35;refine⟨_,_,cells2 hb35,_,dcell hk35 rfl,_,dcell hk35 rfl,by trivial,_,w35,run_good_neq w35 _ _ _ _,by trivial,by trivial,?_⟩;by_cases hg:sl.1=Hd.uR hh /\ sl.2.1=Hd.uN hh
  ·refine Q00 ?_ ⟨_,_,_,cells3 hb35,?_⟩
   ·show(!(sl.1 == Hd.uR hh && (sl.2.1 == Hd.uN hh && true)))=false;rw[hg.1,hg.2];simp
   ·refine give3 hb0'' fun w36 hb36 hm36 _=>⟨_,_,_,cells3 hb36,?_,hE35.new hm36 (fun k hk=>by omega)⟩;rw[findS,if_pos ⟨hk,hT⟩,hS];simp only[if_pos hg];rfl
  ·refine Q04 ?_ (bad ?_)
   ·show(!(sl.1 == Hd.uR hh && (sl.2.1 == Hd.uN hh && true)))=true;rw[Bool.not_eq_true',Bool.eq_false_iff];intro q;simp at q;exact hg q
   ·rw[findS,if_pos ⟨hk,hT⟩,hS];simp only[if_neg hg]
end
end Cp
end
section
namespace Cp
open Go.Proofs.YtpnbcakbefplpaaGreatDoor.Sf
open Go.RowKit
def findR(T:Int)(S:Int->Option Sl)(h r:Int):Value:=match findS T S h with
 | none=>.tuple #[.int .i64 0,.int .i64 5]
 | some s=>if r<0 \/ r>7 \/ may s r=false then .tuple #[.int .i64 0,.int .i64 5] else .tuple #[.int .i64 s.2.2,.int .i64 0]
theorem may_any(a b x:Int)(w:World):Calls Tryz.prog 198 #[.agg #[.int .i64 a,.int .i64 b],.int .i64 x] w (Ret fun r w'=>r=.bool (bits .and .i64 a x == x) /\ Ext w w'):=by
 refine vc186.ok ?_;unfold vc186;exact Q09 fun b0 w1 hb0 hE1 _ _=>⟨_,dcell hb0 rfl,rfl,hE1⟩
section
variable{w:World}{p:Nat}{F:Nat->Prop}{T nx:Int}{S:Int->Option Sl}{sz:Nat}
theorem cFind_any(h:CP w p F T nx S sz){hh:Int}(hu:Hd.U64 hh)(r:Int):Calls Tryz.prog 188 #[zP p,.int .u64 hh,.int .i64 r] w (Ret fun v w'=>v=findR T S hh r /\ Ext w w'):=by
 refine vc184.ok ?_;unfold vc184;refine .of (cfind_any h hu) ?_;rintro v w1 ⟨rfl,hE1⟩;cases hf:findS T S hh with
 | none=>
  refine⟨0,0,0,5,rfl,Q09 fun b w7 hb hE7 hs7 hs7'=>give3 hb fun w8 hb8 hm8 hs8=>Q04 rfl ⟨by rw[findR,hf],(hE1.trans hE7).new hm8 fun k hk=>?_⟩⟩;have:=hE1.size;omega
 | some s=>
  refine⟨_,_,_,_,rfl,Q09 fun b w7 hb hE7 hs7 hs7'=>give3 hb fun w8 hb8 hm8 hs8=>Q00 rfl ?_⟩;have hE8:Ext w w8:=(hE1.trans hE7).new hm8 fun k hk=>by
   have:=hE1.size;omega
  refine ifD (fun h1=>⟨by rw[findR,hf];simp only;rw[if_pos (.inl h1)],hE8⟩) (fun h1=>ifD (fun h2=>⟨by rw[findR,hf];simp only;rw[if_pos (.inr (.inl h2))],hE8⟩) (fun h2=>⟨_,_,cells2 hb8,.of (may_any _ _ r w8) ?_⟩));rintro v w9 ⟨rfl,hE9⟩;have hE89:=hE8.trans hE9;refine⟨_,rfl,Q05 (fun h3=>⟨?_,hE89⟩) (fun h3=>⟨_,dcell (hE9.keep hb8) rfl,?_,hE89⟩)⟩
  ·rw[findR,hf];simp only;rw[if_pos (.inr (.inr (by simpa [may] using h3)))]
  ·rw[findR,hf];simp only;rw[if_neg];rintro(q | q | q)
   ·exact h1 q
   ·exact h2 q
   ·have h3:(bits .and .i64 s.1 r == r)=true:=by simpa using h3
    rw[may,h3] at q;cases q
theorem serial_any(h:CP w p F T nx S sz):Calls Tryz.prog 123 #[zP p] w (Ret fun v w'=>v=.int .i64 nx /\ w'=w):=by
 obtain⟨B,ob,og,eb,eg,h,rfl⟩:=h;refine vc156.ok ?_;unfold vc156;exact Q00 rfl ⟨_,dcell h.head rfl,by trivial,by trivial⟩
end
section
variable{w:World}{p B ob og eb eg:Nat}{T nx:Int}{S:Int->Option Sl}{sz:Nat}
def Side(ob og eb eg sb sg base n:Nat):Prop:=(sb=ob /\ sg=og /\ base=0 /\ n=4096) \/ (sb=eb /\ sg=eg /\ base=4096 /\ n=64)
theorem CPw.side(h:CPw w p B ob og eb eg T nx S sz){sb sg base n:Nat}(hs:Side ob og eb eg sb sg base n):SH w sb sg (occ S base n) /\ sb ≠ p /\ sb ≠ B /\ sg ≠ p /\ sg ≠ B /\ base+n<=4160:=by
 have d:=h.d;rcases hs with⟨rfl,rfl,rfl,rfl⟩ | ⟨rfl,rfl,rfl,rfl⟩
 ·exact⟨h.objs,d.2.1.symm,d.2.2.2.2.2.1.symm,d.2.2.1.symm,d.2.2.2.2.2.2.1.symm,by decide⟩
 ·exact⟨h.extra,d.2.2.2.1.symm,d.2.2.2.2.2.2.2.1.symm,d.2.2.2.2.1.symm,d.2.2.2.2.2.2.2.2.1.symm,by decide⟩
set_option maxHeartbeats 1000000 in
theorem put_core(h:CPw w p B ob og eb eg T nx S sz)(tab:Tab w){sb sg base n:Nat}(hs:Side ob og eb eg sb sg base n){a r:Int}(ha:0<=a)(hr:1<=r /\ r<=7) :
  Calls Tryz.prog 199 #[zP p,zP sb,.int .i64 (base:Int),.int .i64 a,.int .i64 r] w
   (Ret fun v w'=>v=putV T S base n nx r /\ CPw w' p B ob og eb eg T (putN S base n nx) (putS S base n nx r a) (putZ S base n nx sz) /\ Mod (fpC p B ob og eb eg) w w'):=by
 refine vc187.ok ?_;unfold vc187;have n0:=h.n0;have t0:=h.t0;obtain⟨hsh,q1,q2,q3,q4,hbn⟩:=h.side hs;simp only[someA];refine⟨_,dcell h.head rfl,ifD (fun hmax=>?_) (fun hmax=>?_)⟩
 ·have e:putK S base n nx=none:=if_pos hmax;refine⟨by rw[putV,e],?_,Mod.refl _ _⟩;rw[putN,putS,putZ,e];exact h
 have eK:putK S base n nx=(occ S base n).findIdx? fun b=>!b:=if_neg hmax;refine .of (take_any tab hsh) ?_;rintro v w3 ⟨rfl,hsh3,hm3⟩;have hsub:∀k,fpS sb sg k->fpC p B ob og eb eg k:=fun k hk=>by
  unfold fpS at hk;unfold fpC;unfold Side at hs;omega
 have hd3:=hm3.keep h.head (fun x=>by unfold fpS at x;omega);have hi3:=h.slots.keep hm3 (fun x=>by unfold fpS at x;omega);refine⟨_,_,rfl,?_⟩;cases hf:(occ S base n).findIdx? (fun b=>!b)with
 | none=>
  have e1:takeE (occ S base n)=13:=by rw[takeE,hf]
  have e2:takeH (occ S base n)=occ S base n:=by rw[takeH,hf]
  rw[e2] at hsh3;rw[e1];rw[hf] at eK;refine Q04 rfl ⟨by rw[putV,eK],?_,hm3.mono hsub⟩;rw[putN,putS,putZ,eK];obtain⟨_,_,_,_,_,_,_,_,_,d10,d11,d12,d13⟩:=h.d;rcases hs with⟨rfl,rfl,rfl,rfl⟩ | ⟨rfl,rfl,rfl,rfl⟩
  ·exact⟨hd3,hi3,hsh3,h.extra.keep hm3 (fun k hk x=>by unfold fpS at hk x;omega),t0,n0,h.rng,h.ok,h.szn,h.d⟩
  ·exact⟨hd3,hi3,h.objs.keep hm3 (fun k hk x=>by unfold fpS at hk x;omega),hsh3,t0,n0,h.rng,h.ok,h.szn,h.d⟩
 | some k=>
  have e0:takeI (occ S base n)=(k:Int):=by rw[takeI,hf]
  have e1:takeE (occ S base n)=0:=by rw[takeE,hf]
  have e2:takeH (occ S base n)=(occ S base n).set k true:=by rw[takeH,hf]
  have hlow:=(low_at hf).1;have hk:k<n:=by
   have:=(zzgsi.1 hlow).1
   rwa [occ_len] at this
  rw[Q2n _ hk] at hlow;have hSn:(S ((base+k:Nat):Int)).isSome=false:=Option.some.inj hlow;rw[e2,show true=(some (r,nx,a):Option Sl).isSome from rfl,occ_set S hk] at hsh3;rw[e0,e1];rw[hf] at eK;have ex:IntKind.i64.wrap ((base:Int)+(k:Int))=((base+k:Nat):Int):=by rw[Q03 (by omega) (by omega)];rfl
  rw[ex];refine Q00 rfl ?_;rintro w6 rfl;have hE6:=Ext.drew w3;have hd6:=hE6.keep hd3;obtain⟨w11,hr11,hi11,hm11,hs11⟩:=(hi3.ext hE6).store uCI uCM (k:=((base+k:Nat):Int)) (by have:=h.szn;simp only[maxLen];omega) (Q3V (by omega) (by omega)) (slotV (r,nx,a));have emap:upd (mapS S) ((base+k:Nat):Int) (some (slotV (r,nx,a)))=mapS (updS S ((base+k:Nat):Int) (some (r,nx,a))):=mapS_upd S _ (some (r,nx,a));have esz:(mapS S ((base+k:Nat):Int)).isSome=false:=by
   unfold mapS;rw[Option.isSome_map];exact hSn
  rw[emap,esz] at hi11;refine⟨_,dcell hd6 rfl,_,dcell hd6 rfl,by trivial,by trivial,w11,hr11,?_⟩;rintro w12 rfl;have hE12:=Ext.drew w11;have hd12:=hE12.keep (hm11.keep hd6 h.d.1);refine⟨_,dcell hd12 rfl,_,dcell hd12 rfl,by trivial,.of (Hd.pack_any T ((base+k:Nat):Int) r nx w11.drew) ?_⟩;have hok:Hd.KeyOk T ((base+k:Nat):Int) r nx:=⟨by omega,by omega,by omega,by omega,by omega,by omega,by omega,by omega⟩;rw[if_pos hok,if_pos hok];rintro v w18 ⟨rfl,hE18⟩;have hd18:=hE18.keep hd12;refine⟨_,_,rfl,_,dcell hd18 rfl,?_⟩;have hi18:=hi11.ext (hE12.trans hE18);have hm318:Mod (fun j=>j=B) w3 w18:=Mod.trans (Mod.trans (hE6.mod (F:=fun j=>j=B)) hm11 (fun _ _ x=>x)) (hE12.trans hE18) (fun _ _ x=>x.elim);refine Q0d (b:=p) (n:=1) hd18 (by simp) fun w24 hd24 hm24 hs24=>⟨by rw[putV,eK],?_,?_⟩
  ·rw[putN,putS,putZ,eK];have enx:IntKind.i64.wrap (nx+1)=nx+1:=Q03 (by omega) (by omega);have hd24':w24.heap[p]? = some (.cells #[.int .i64 T,.int .i64 (nx+1),.map (some B),zP ob,zP eb] 230 (0,0)):=by
    rw[<-enx];exact hd24
   have hi24:=hi18.keep hm24 h.d.1.symm;have hsh24:=(hsh3.keep hm318 (fun j hj x=>by unfold fpS at hj;omega)).keep hm24 (fun j hj x=>by unfold fpS at hj;omega);have rng:∀x s,updS S ((base+k:Nat):Int) (some (r,nx,a)) x=some s->0<=x /\ x<4160:=fun x s hx=>by
    unfold updS at hx;split at hx
    ·omega
    ·exact h.rng x s hx
   have ok:∀x s,updS S ((base+k:Nat):Int) (some (r,nx,a)) x=some s->1<=s.1 /\ s.1<=7 /\ 1<=s.2.1 /\ s.2.1<nx+1 /\ 0<=s.2.2:=fun x s hx=>by
    unfold updS at hx;split at hx
    ·cases hx;exact⟨hr.1,hr.2,n0.1,Int.lt_succ nx,ha⟩
    ·have q:=h.ok x s hx;exact⟨q.1,q.2.1,q.2.2.1,Int.lt_trans q.2.2.2.1 (Int.lt_succ nx),q.2.2.2.2⟩
   have hoth:∀ {pb gb:Nat} {hs:List Bool},SH w pb gb hs->pb ≠ sb->pb ≠ sg->gb ≠ sb->gb ≠ sg->pb ≠ B->gb ≠ B->pb ≠ p->gb ≠ p->SH w24 pb gb hs:=fun hS a1 a2 a3 a4 a5 a6 a7 a8=>
    ((hS.keep hm3 (fun j hj x=>by unfold fpS at hj x;omega)).keep hm318 (fun j hj x=>by unfold fpS at hj;omega)).keep hm24 (fun j hj x=>by unfold fpS at hj;omega)
   have szn:=h.szn;obtain⟨d1,d2,d3,d4,d5,d6,d7,d8,d9,d10,d11,d12,d13⟩:=h.d;have szn':(((if false=true then sz else sz+1:Nat)):Int)<nx+1:=by
    rw[if_neg (by decide)];omega
   rcases hs with⟨rfl,rfl,rfl,rfl⟩ | ⟨rfl,rfl,rfl,rfl⟩
   ·refine⟨hd24',hi24,hsh24,?_,t0,⟨Int.le_trans n0.1 (Int.le_of_lt (Int.lt_succ nx)),Int.lt_of_not_ge hmax⟩,rng,ok,szn',h.d⟩;rw[occ_out _ (fun j hj=>by omega)];exact hoth h.extra d10.symm d12.symm d11.symm d13.symm d8.symm d9.symm d4.symm d5.symm
   ·refine⟨hd24',hi24,?_,hsh24,t0,⟨Int.le_trans n0.1 (Int.le_of_lt (Int.lt_succ nx)),Int.lt_of_not_ge hmax⟩,rng,ok,szn',h.d⟩;rw[occ_out _ (fun j hj=>by omega)];exact hoth h.objs d10 d11 d12 d13 d6.symm d7.symm d2.symm d3.symm
  ·exact Mod.trans (Mod.trans (hm3.mono hsub) hm318 (fun j _ hj=>by unfold fpC;omega)) hm24 (fun j _ hj=>by unfold fpC;omega)
end
end Cp
end
section
namespace Cp
open Go.Proofs.YtpnbcakbefplpaaGreatDoor.Sf
open Go.RowKit
def grantV(T:Int)(S:Int->Option Sl)(nx a:Int):Value:=if a<0 then .tuple #[.int .u64 0,.int .i64 12] else putV T S 0 4096 nx 7
def grantN(S:Int->Option Sl)(nx a:Int):Int:=if a<0 then nx else putN S 0 4096 nx
def grantS(S:Int->Option Sl)(nx a:Int):Int->Option Sl:=if a<0 then S else putS S 0 4096 nx 7 a
def grantZ(S:Int->Option Sl)(nx a:Int)(sz:Nat):Nat:=if a<0 then sz else putZ S 0 4096 nx sz
def restO(T:Int)(S:Int->Option Sl)(h r:Int):Option Sl:=match findS T S h with
 | some s=>if 1<=r /\ r<=7 /\ may s r=true then some s else none
 | none=>none
def restE(T:Int)(S:Int->Option Sl)(h r:Int):Int:=match findS T S h with
 | some _=>if r<1 \/ r>7 then 2 else 5
 | none=>5
def restV(T:Int)(S:Int->Option Sl)(nx h r:Int):Value:=match restO T S h r with
 | some _=>putV T S 4096 64 nx r
 | none=>.tuple #[.int .u64 0,.int .i64 (restE T S h r)]
def restN(T:Int)(S:Int->Option Sl)(nx h r:Int):Int:=match restO T S h r with
 | some _=>putN S 4096 64 nx
 | none=>nx
def restS(T:Int)(S:Int->Option Sl)(nx h r:Int):Int->Option Sl:=match restO T S h r with
 | some s=>putS S 4096 64 nx r s.2.2
 | none=>S
def restZ(T:Int)(S:Int->Option Sl)(nx h r:Int)(sz:Nat):Nat:=match restO T S h r with
 | some _=>putZ S 4096 64 nx sz
 | none=>sz
theorem findS_in{T:Int}{S:Int->Option Sl}{h:Int}{s:Sl}(e:findS T S h=some s):Hd.HOk h /\ Hd.uT h=T /\ S (Hd.uS h)=some s /\ s.1=Hd.uR h /\ s.2.1=Hd.uN h:=by
 unfold findS at e;split at e
 ·rename_i hk;cases hS:S (Hd.uS h)with
  | none=>rw[hS] at e;cases e
  | some s'=>
   rw[hS] at e;simp only at e;split at e
   ·rename_i hg;obtain rfl:=Option.some.inj e;exact⟨hk.1,hk.2,rfl,hg.1,hg.2⟩
   ·cases e
 ·cases e
section
variable{w:World}{p:Nat}{F:Nat->Prop}{T nx:Int}{S:Int->Option Sl}{sz:Nat}
theorem grant_any(h:CP w p F T nx S sz)(tab:Tab w)(a:Int):Calls Tryz.prog 184 #[zP p,.int .i64 a] w
  (Ret fun v w'=>v=grantV T S nx a /\ CP w' p F T (grantN S nx a) (grantS S nx a) (grantZ S nx a sz) /\ Mod F w w'):=by
 obtain⟨B,ob,og,eb,eg,h,rfl⟩:=h;refine vc181.ok ?_;unfold vc181;refine Q00 rfl (ifD (fun ha=>?_) (fun ha=>?_))
 ·rw[grantV,grantN,grantS,grantZ,if_pos ha,if_pos ha,if_pos ha,if_pos ha];exact⟨rfl,⟨B,ob,og,eb,eg,h,rfl⟩,Mod.refl _ _⟩
 ·rw[grantV,grantN,grantS,grantZ,if_neg ha,if_neg ha,if_neg ha,if_neg ha];simp only[someA];refine⟨_,dcell h.head rfl,.of (put_core h tab (sb:=ob) (sg:=og) (base:=0) (n:=4096) (.inl ⟨rfl,rfl,rfl,rfl⟩) (by omega) (by decide)) ?_⟩;rintro v w3 ⟨rfl,h3,hm3⟩;have hv:∃i4 i5:Int,putV T S 0 4096 nx 7=.tuple #[.int .u64 i4,.int .i64 i5]:=by
   unfold putV;split <;> exact⟨_,_,rfl⟩
  obtain⟨i4,i5,e⟩:=hv;rw[e];exact⟨_,_,rfl,rfl,⟨B,ob,og,eb,eg,h3,rfl⟩,hm3⟩
theorem restrict_any(h:CP w p F T nx S sz)(tab:Tab w){hh:Int}(hu:Hd.U64 hh)(r:Int):Calls Tryz.prog 137 #[zP p,.int .u64 hh,.int .i64 r] w
  (Ret fun v w'=>v=restV T S nx hh r /\ CP w' p F T (restN T S nx hh r) (restS T S nx hh r) (restZ T S nx hh r sz) /\ Mod F w w'):=by
 refine vc165.ok ?_;unfold vc165;refine .of (cfind_any h hu) ?_;rintro v w1 ⟨rfl,hE1⟩;have hs1:=hE1.size;cases hf:findS T S hh with
 | none=>
  refine⟨0,0,0,5,rfl,Q09 fun b w7 hb hE7 hs7 hs7'=>give3 hb fun w8 hb8 hm8 hs8=>Q04 rfl ?_⟩;have hE8:Ext w w8:=(hE1.trans hE7).new hm8 fun k hk=>by omega
  have e:restO T S hh r=none:=by rw[restO,hf]
  rw[restV,restN,restS,restZ,e,restE,hf];exact⟨rfl,h.ext hE8,hE8.mod⟩
 | some s=>
  refine⟨_,_,_,_,rfl,Q09 fun b w7 hb hE7 hs7 hs7'=>give3 hb fun w8 hb8 hm8 hs8=>Q00 rfl ?_⟩;have hE8:Ext w w8:=(hE1.trans hE7).new hm8 fun k hk=>by omega
  have bad:∀(w':World),Ext w w'->¬(1<=r /\ r<=7 /\ may s r=true)->∀e,restE T S hh r=e->Value.tuple #[.int .u64 0,.int .i64 e]=restV T S nx hh r /\ CP w' p F T (restN T S nx hh r) (restS T S nx hh r) (restZ T S nx hh r sz) /\ Mod F w w':=fun w' hE' hno e he=>by
   have e:restO T S hh r=none:=by rw[restO,hf];simp only;rw[if_neg hno]
   rw[restV,restN,restS,restZ,e,he];exact⟨rfl,h.ext hE',hE'.mod⟩
  refine ifD (fun h1=>bad w8 hE8 (fun q=>by omega) 2 (by rw[restE,hf];simp only;rw[if_pos (.inl h1)])) (fun h1=>ifD (fun h2=>bad w8 hE8 (fun q=>by omega) 2 (by rw[restE,hf];simp only;rw[if_pos (.inr h2)])) (fun h2=>⟨_,_,cells2 hb8,.of (may_any _ _ r w8) ?_⟩));rintro v w9 ⟨rfl,hE9⟩;have hE89:=hE8.trans hE9;refine⟨_,rfl,Q05 (fun h3=>bad w9 hE89 (fun q=>?_) 5 (by rw[restE,hf];simp only;rw[if_neg (by omega)])) (fun h3=>?_)⟩
  ·have h3':may s r=false:=by simpa [may] using h3
   rw[h3'] at q;exact absurd q.2.2 (by decide)
  rintro w14 rfl;have hE14:=hE89.trans (Ext.drew w9);have hb14:=(Ext.drew w9).keep (hE9.keep hb8);have h14:=h.ext hE14;have tab14:=tab.ext hE14;have hadr:0<=s.2.2:=by
   obtain⟨_,_,_,_,_,h,_⟩:=h;exact(h.ok _ s (findS_in hf).2.2.1).2.2.2.2
  have e:restO T S hh r=some s:=by
   have h3':may s r=true:=by simpa [may] using h3
   rw[restO,hf];simp only;rw[if_pos ⟨by omega,by omega,h3'⟩]
  rw[restV,restN,restS,restZ,e];obtain⟨B,ob,og,eb,eg,h14,rfl⟩:=h14;simp only[someA];refine⟨_,dcell h14.head rfl,_,dcell hb14 rfl,.of (put_core h14 tab14 (sb:=eb) (sg:=eg) (base:=4096) (n:=64) (.inr ⟨rfl,rfl,rfl,rfl⟩) hadr (by omega)) ?_⟩;rintro v w15 ⟨rfl,h15,hm15⟩;have hv:∃i4 i5:Int,putV T S 4096 64 nx r=.tuple #[.int .u64 i4,.int .i64 i5]:=by
   unfold putV;split <;> exact⟨_,_,rfl⟩
  obtain⟨i4,i5,e⟩:=hv;rw[e];exact⟨_,_,rfl,rfl,⟨B,ob,og,eb,eg,h15,rfl⟩,Mod.trans hE14.mod hm15 (fun _ _ x=>x)⟩
end
def revS(S:Int->Option Sl)(a:Int)(k:Nat):Int->Option Sl:=fun x=>if (S x).any (fun s=>s.2.2 == a)=true /\ 0<=x /\ x<k then none else S x
def revC(S:Int->Option Sl)(a:Int)(k:Nat):Nat:=(List.range k).countP fun j:Nat=>(S (j:Int)).any fun s=>s.2.2 == a
theorem revC_succ(S:Int->Option Sl)(a:Int)(k:Nat):revC S a (k+1)=revC S a k+(if (S (k:Int)).any (fun s=>s.2.2 == a)=true then 1 else 0):=by
 unfold revC;rw[List.range_succ,List.countP_append];simp[List.countP_cons]
theorem revS_at(S:Int->Option Sl)(a:Int)(k:Nat):revS S a k (k:Int)=S (k:Int):=by
 unfold revS;rw[if_neg (by omega)]
theorem revS_hit{S:Int->Option Sl}{a:Int}{k:Nat}(h:(S (k:Int)).any (fun s=>s.2.2 == a)=true):updS (revS S a k) (k:Int) none=revS S a (k+1):=by
 funext x;unfold updS revS;by_cases e:x=(k:Int)
 ·subst e;rw[if_pos rfl,if_pos ⟨h,by omega,by omega⟩]
 ·rw[if_neg e];by_cases q:(S x).any (fun s=>s.2.2 == a)=true /\ 0<=x /\ x<k
  ·rw[if_pos q,if_pos ⟨q.1,q.2.1,by omega⟩]
  ·rw[if_neg q,if_neg (fun y=>q ⟨y.1,y.2.1,by omega⟩)]
theorem revS_miss{S:Int->Option Sl}{a:Int}{k:Nat}(h:(S (k:Int)).any (fun s=>s.2.2 == a)=false):revS S a k=revS S a (k+1):=by
 funext x;unfold revS;by_cases e:x=(k:Int)
 ·subst e;rw[if_neg (by omega),if_neg (by rw[h];simp)]
 ·by_cases q:(S x).any (fun s=>s.2.2 == a)=true /\ 0<=x /\ x<k
  ·rw[if_pos q,if_pos ⟨q.1,q.2.1,by omega⟩]
  ·rw[if_neg q,if_neg (fun y=>q ⟨y.1,y.2.1,by omega⟩)]
theorem revS_zero(S:Int->Option Sl)(a:Int):revS S a 0=S:=by
 funext x;unfold revS;rw[if_neg (by omega)]
section
variable{w:World}{p B ob og eb eg:Nat}{T nx:Int}{S:Int->Option Sl}{sz:Nat}
theorem rev_del(h:CPw w p B ob og eb eg T nx S sz){k:Nat}(hk:k<4160)(hS:(S (k:Int)).isSome=true) :
  ∃w',(Builtin.delete_ #[228,3] 0 #[.map (some B),.int .i64 (k:Int)]).run Tryz.prog w=.ok (.tuple #[]) w' /\
   w'.heap[p]? = some (.cells #[.int .i64 T,.int .i64 nx,.map (some B),zP ob,zP eb] 230 (0,0)) /\
   ∀ {Q:Value->World->Prop},(∀(v:Int) w'',CPw w'' p B ob og eb eg T nx (updS S (k:Int) none) (sz-1)->Mod (fpC p B ob og eb eg) w w''->Q (.int .i64 v) w'') →
    CS 122 #[.pointer (some ⟨if k<4096 then ob else eb,0,none⟩),.int .i64 (if k<4096 then(k:Int)else(k:Int)-4096)] w' Q:=by
 obtain⟨w',hr,hi,hm,hs⟩:=h.slots.drop uCI uCM (k:=(k:Int)) (Q3V (by omega) (by omega)) 0;have esz:(mapS S (k:Int)).isSome=true:=by
  unfold mapS;rw[Option.isSome_map];exact hS
 have emap:upd (mapS S) (k:Int) none=mapS (updS S (k:Int) none):=mapS_upd S _ none;rw[esz,if_pos rfl,emap] at hi;obtain⟨d1,d2,d3,d4,d5,d6,d7,d8,d9,d10,d11,d12,d13⟩:=h.d;have hd:=hm.keep h.head d1;have h1:=h.objs.keep hm (fun j hj x=>by rcases hj with e | e;exact d6 (by rw[<-x,e]);exact d7 (by rw[<-x,e]));have h2:=h.extra.keep hm (fun j hj x=>by rcases hj with e | e;exact d8 (by rw[<-x,e]);exact d9 (by rw[<-x,e]));refine⟨w',hr,hd,fun {Q} q=>?_⟩;have rng:∀x s,updS S (k:Int) none x=some s->0<=x /\ x<4160:=fun x s hx=>by
  unfold updS at hx;split at hx
  ·cases hx
  ·exact h.rng x s hx
 have ok:∀x s,updS S (k:Int) none x=some s->1<=s.1 /\ s.1<=7 /\ 1<=s.2.1 /\ s.2.1<nx /\ 0<=s.2.2:=fun x s hx=>by
  unfold updS at hx;split at hx
  ·cases hx
  ·exact h.ok x s hx
 have hz:((sz-1:Nat):Int)<nx:=by have:=h.szn;omega
 have hBm:Mod (fpC p B ob og eb eg) w w':=hm.mono fun j hj=>.inr (.inl hj);by_cases hlt:k<4096
 ·rw[if_pos hlt,if_pos hlt];refine .of (give_any h1 (k:Int)) ?_;rintro v w'' ⟨rfl,h1',hm'⟩;have eg':giveH (occ S 0 4096) (k:Int)=occ (updS S (k:Int) none) 0 4096:=by
   have hin:InS (occ S 0 4096) (k:Int):=⟨by omega,by rw[occ_len];omega⟩;rw[giveH,if_pos hin,zztnc,show false=(none:Option Sl).isSome from rfl,occ_set S hlt];simp only[Nat.zero_add]
  rw[eg'] at h1';refine q _ w'' ⟨hm'.keep hd (fun x=>x.elim d2 d3),hi.keep hm' (fun x=>x.elim d6 d7),h1',?_,h.t0,h.n0,rng,ok,hz,h.d⟩ (Mod.trans hBm hm' (fun j _ hj=>hj.elim (fun e=>.inr (.inr (.inl e))) (fun e=>.inr (.inr (.inr (.inl e))))));rw[occ_out _ (fun j hj=>by omega)];exact h2.keep hm' (fun j hj x=>by
   rcases hj with e | e <;> rcases x with f | f
   ·exact d10 (by rw[<-f,e])
   ·exact d12 (by rw[<-f,e])
   ·exact d11 (by rw[<-f,e])
   ·exact d13 (by rw[<-f,e]))
 ·rw[if_neg hlt,if_neg hlt];refine .of (give_any h2 ((k:Int)-4096)) ?_;rintro v w'' ⟨rfl,h2',hm'⟩;have eg':giveH (occ S 4096 64) ((k:Int)-4096)=occ (updS S (k:Int) none) 4096 64:=by
   have hin:InS (occ S 4096 64) ((k:Int)-4096):=⟨by omega,by rw[occ_len];omega⟩;have e:((k:Int)-4096).toNat=k-4096:=by omega
   rw[giveH,if_pos hin,e,show false=(none:Option Sl).isSome from rfl,occ_set S (by omega)];rw[show((4096+(k-4096):Nat):Int)=(k:Int) by omega]
  rw[eg'] at h2';refine q _ w'' ⟨hm'.keep hd (fun x=>x.elim d4 d5),hi.keep hm' (fun x=>x.elim d8 d9),?_,h2',h.t0,h.n0,rng,ok,hz,h.d⟩ (Mod.trans hBm hm' (fun j _ hj=>hj.elim (fun e=>.inr (.inr (.inr (.inr (.inl e))))) (fun e=>.inr (.inr (.inr (.inr (.inr e)))))));rw[occ_out _ (fun j hj=>by omega)];exact h1.keep hm' (fun j hj x=>by
   rcases hj with e | e <;> rcases x with f | f
   ·exact d10 (by rw[<-e,f])
   ·exact d11 (by rw[<-e,f])
   ·exact d12 (by rw[<-e,f])
   ·exact d13 (by rw[<-e,f]))
set_option maxRecDepth 20000 in
set_option maxHeartbeats 1000000 in
theorem revoke_core(h:CPw w p B ob og eb eg T nx S sz)(a:Int):Calls Tryz.prog 185 #[zP p,.int .i64 a] w
  (Ret fun v w'=>v=.int .i64 (revC S a 4160:Int) /\ CPw w' p B ob og eb eg T nx (revS S a 4160) (sz-revC S a 4160) /\ Mod (fpC p B ob og eb eg) w w'):=by
 refine vc182.ok ?_;unfold vc182;have next:∀ {k:Nat} {w8:World} {n:Int},k<4160->CPw w8 p B ob og eb eg T nx (revS S a k) (sz-revC S a k)->(S (k:Int)).any (fun s=>s.2.2 == a)=false->n=(revC S a k:Int)->n=(revC S a (k+1):Int) /\ CPw w8 p B ob og eb eg T nx (revS S a (k+1)) (sz-revC S a (k+1)):=fun {k w8 n} hk h8 hm hn=>by
  have e:=revC_succ S a k;rw[hm,if_neg (by decide),Nat.add_zero] at e;rw[e,<-revS_miss hm];exact⟨hn,h8⟩
 have hit:∀ {k:Nat} {w8:World} {n:Int},k<4160->CPw w8 p B ob og eb eg T nx (updS (revS S a k) (k:Int) none) (sz-revC S a k-1)->(S (k:Int)).any (fun s=>s.2.2 == a)=true->n=(revC S a k:Int)->IntKind.i64.wrap (n+1)=(revC S a (k+1):Int) /\ CPw w8 p B ob og eb eg T nx (revS S a (k+1)) (sz-revC S a (k+1)):=fun {k w8 n} hk h8 hm hn=>by
  have hle:revC S a k<=k:=by
   unfold revC;exact Nat.le_trans List.countP_le_length (by simp)
  have e:=revC_succ S a k;rw[hm,if_pos rfl] at e;rw[e,<-revS_hit hm];refine⟨by rw[hn,Q03 (by omega) (by omega)];rfl,?_⟩;rw[<-Nat.sub_sub];exact h8
 have hbase:CPw w p B ob og eb eg T nx (revS S a 0) (sz-revC S a 0):=by
  rw[revS_zero];exact h
 refine Q00 rfl ⟨fun n w1=>n=(revC S a 1:Int) /\ CPw w1 p B ob og eb eg T nx (revS S a 1) (sz-revC S a 1) /\ Mod (fpC p B ob og eb eg) w w1,?_,?_⟩
 ·simp only[someA];refine⟨_,dcell hbase.head rfl,_,_,_,_,w,Q28 hbase.slots (Q3V (by decide) (by decide)),Q09 fun b w9 hb hE9 hs9 hs9'=>give3 hb fun w10 hb10 hm10 hs10=>?_⟩;have hE10:Ext w w10:=hE9.new hm10 fun k hk=>by omega
  have h10:=hbase.keep hE10 (fun _ _ x=>x);have e0:=revS_at S a 0;cases hS:S ((0:Nat):Int)with
  | none=>
   have hS':revS S a 0 0=none:=by rw[show(0:Int)=((0:Nat):Int)from rfl,e0,hS]
   rw[hS'];obtain⟨q1,q2⟩:=next (k:=0) (n:=0) (by decide) h10 (by rw[hS];rfl) rfl
   exact Q00 rfl ⟨q1,q2,hE10.mod⟩
  | some s=>
   have hS':revS S a 0 0=some s:=by rw[show(0:Int)=((0:Nat):Int)from rfl,e0,hS]
   rw[hS'] at hb10 ⊢;refine Q04 rfl ⟨_,dcell hb10 rfl,Q05 (fun ha=>?_) (fun ha=>?_)⟩
   ·obtain⟨w14,hr,hd,hq⟩:=rev_del h10 (k:=0) (by decide) (by rw[e0,hS];rfl);refine⟨_,dcell h10.head rfl,w14,hr,_,dcell hd rfl,hq fun v w18 h18 hm18=>⟨_,rfl,?_⟩⟩;obtain⟨q1,q2⟩:=hit (k:=0) (n:=0) (by decide) h18 (by rw[hS];exact ha) rfl;exact⟨q1,q2,Mod.trans hE10.mod hm18 (fun _ _ x=>x)⟩
   ·obtain⟨q1,q2⟩:=next (k:=0) (n:=0) (by decide) h10 (by rw[hS];exact ha) rfl
    exact⟨q1,q2,hE10.mod⟩
 rintro jv n w21 ⟨rfl,h21,hm21⟩;refine⟨fun m n i w22=>∃k:Nat,i=(k:Int) /\ 1<=k /\ m+k=4160 /\ n=(revC S a k:Int) /\ CPw w22 p B ob og eb eg T nx (revS S a k) (sz-revC S a k) /\ Mod (fpC p B ob og eb eg) w w22,⟨4159,1,rfl,Nat.le_refl _,rfl,rfl,h21,hm21⟩,?_⟩;rintro m jv n i w22 ⟨k,rfl,hk1,hmk,rfl,h22,hm22⟩;refine ifD (fun hge=>?_) (fun hge=>?_)
 ·have e:k=4160:=by omega
  rw[e] at h22;rw[e];exact⟨by trivial,h22,hm22⟩
 have hk:k<4160:=by omega
 refine⟨fun n w1=>n=(revC S a (k+1):Int) /\ CPw w1 p B ob og eb eg T nx (revS S a (k+1)) (sz-revC S a (k+1)) /\ Mod (fpC p B ob og eb eg) w w1,?_,?_⟩
 ·simp only[someA];refine⟨_,dcell h22.head rfl,_,_,_,_,w22,Q28 h22.slots (Q3V (by omega) (by omega)),Q09 fun b w9 hb hE9 hs9 hs9'=>give3 hb fun w10 hb10 hm10 hs10=>?_⟩;have hE10:Ext w22 w10:=hE9.new hm10 fun k hk=>by omega
  have h10:=h22.keep hE10 (fun _ _ x=>x);have hm10:Mod (fpC p B ob og eb eg) w w10:=Mod.trans hm22 hE10 (fun _ _ x=>x.elim);have e0:=revS_at S a k;cases hS:S (k:Int)with
  | none=>
   rw[hS] at e0;rw[e0];obtain⟨q1,q2⟩:=next (k:=k) hk h10 (by rw[hS];rfl) rfl
   exact Q00 rfl ⟨q1,q2,hm10⟩
  | some s=>
   rw[hS] at e0;rw[e0] at hb10 ⊢;refine Q04 rfl ⟨_,dcell hb10 rfl,Q05 (fun ha=>?_) (fun ha=>?_)⟩
   ·obtain⟨w14,hr,hd,hq⟩:=rev_del h10 (k:=k) hk (by rw[e0];rfl);have fin:∀(v:Int)(w18:World),CPw w18 p B ob og eb eg T nx (updS (revS S a k) (k:Int) none) (sz-revC S a k-1)->Mod (fpC p B ob og eb eg) w10 w18->IntKind.i64.wrap ((revC S a k:Int)+1)=(revC S a (k+1):Int) /\ CPw w18 p B ob og eb eg T nx (revS S a (k+1)) (sz-revC S a (k+1)) /\ Mod (fpC p B ob og eb eg) w w18:=fun v w18 h18 hm18=>by
     obtain⟨q1,q2⟩:=hit (k:=k) hk h18 (by rw[hS];exact ha) rfl;exact⟨q1,q2,Mod.trans hm10 hm18 (fun _ _ x=>x)⟩
    refine⟨_,dcell h10.head rfl,w14,hr,?_⟩;rcases Nat.lt_or_ge k 4096 with hlt | hlt
    ·rw[show decide ((k:Int)<4096)=true from decide_eq_true (by omega)];refine Q04 rfl ?_;refine⟨_,dcell hd rfl,?_⟩;have:=hq (Q:=fun v45 w46=>∃i47:Int,v45=.int .i64 i47 /\ (IntKind.i64.wrap ((revC S a k:Int)+1)=(revC S a (k+1):Int) /\ CPw w46 p B ob og eb eg T nx (revS S a (k+1)) (sz-revC S a (k+1)) /\ Mod (fpC p B ob og eb eg) w w46)) fun v w18 h18 hm18=>⟨_,rfl,fin v w18 h18 hm18⟩;have e1:(if k<4096 then ob else eb)=ob:=if_pos hlt;have e2:(if k<4096 then(k:Int)else(k:Int)-4096)=(k:Int):=if_pos hlt;rw[e1,e2] at this;exact this
    ·rw[show decide ((k:Int)<4096)=false from zzdcf (by omega)];refine Q00 rfl ?_;refine⟨_,dcell hd rfl,?_⟩;have:=hq (Q:=fun v45 w46=>∃i47:Int,v45=.int .i64 i47 /\ (IntKind.i64.wrap ((revC S a k:Int)+1)=(revC S a (k+1):Int) /\ CPw w46 p B ob og eb eg T nx (revS S a (k+1)) (sz-revC S a (k+1)) /\ Mod (fpC p B ob og eb eg) w w46)) fun v w18 h18 hm18=>⟨_,rfl,fin v w18 h18 hm18⟩;have e1:(if k<4096 then ob else eb)=eb:=if_neg (Nat.not_lt.2 hlt);have e2:(if k<4096 then(k:Int)else(k:Int)-4096)=(k:Int)-4096:=if_neg (Nat.not_lt.2 hlt);rw[e1,e2] at this;rw[Q03 (n:=(k:Int)-4096) (by omega) (by omega)];exact this
   ·obtain⟨q1,q2⟩:=next (k:=k) hk h10 (by rw[hS];exact ha) rfl
    exact⟨q1,q2,hm10⟩
 ·rintro jv n' w54 ⟨rfl,h54,hm54⟩;refine⟨m-1,by omega,k+1,?_,by omega,by omega,rfl,h54,hm54⟩;rw[Q03 (by omega) (by omega)];rfl
end
theorem revoke_any{w:World}{p:Nat}{F:Nat->Prop}{T nx:Int}{S:Int->Option Sl}{sz:Nat}(h:CP w p F T nx S sz)(a:Int):Calls Tryz.prog 185 #[zP p,.int .i64 a] w
  (Ret fun v w'=>v=.int .i64 (revC S a 4160:Int) /\ CP w' p F T nx (revS S a 4160) (sz-revC S a 4160) /\ Mod F w w'):=by
 obtain⟨B,ob,og,eb,eg,h,rfl⟩:=h;refine Q1s (revoke_core h a) ?_;rintro v w' ⟨rfl,h',hm⟩;exact⟨rfl,⟨B,ob,og,eb,eg,h',rfl⟩,hm⟩
end Cp
end
section
namespace Cp
open Go.Proofs.YtpnbcakbefplpaaGreatDoor.Sf
open Go.RowKit Go.Maps
structure COf (w0 w:World) (K:Nat->Prop) (p:Nat) (F:Nat->Prop) (T nx:Int) (S:Int->Option Sl) (sz:Nat):Prop where
 c:CP w p F T nx S sz
 new:∀j,F j->w0.heap.size<=j /\ ¬K j
 knew:∀j,K j->w0.heap.size<=j /\ j<w.heap.size
 ext:Ext w0 w
def CO(w0 w:World)(K:Nat->Prop)(p:Nat)(T nx:Int)(S:Int->Option Sl)(sz:Nat):Prop:=∃F,COf w0 w K p F T nx S sz
theorem occ_none(base n:Nat):occ (fun _=>none) base n=List.replicate n false:=by
 apply List.ext_getElem?;intro j;by_cases hj:j<n
 ·rw[Q2n _ hj];simp[hj]
 ·rw[List.getElem?_eq_none (by rw[occ_len];omega),List.getElem?_eq_none (by simp;omega)]
def NewC(w:World)(t s:Int)(v:Value)(w':World):Prop:=
 (¬(0<=t /\ t<=7 /\ 1<=s /\ s<=17592186044416) /\ v=.tuple #[.pointer none,.int .i64 12] /\ w'=w) \/
 (0<=t /\ t<=7 /\ 1<=s /\ s<=17592186044416 /\ ∃p,v=.tuple #[zP p,.int .i64 0] /\ CO w w' (fun _=>False) p t s (fun _=>none) 0)
theorem capnew_any(t s:Int)(w:World):Calls Tryz.prog 114 #[.int .i64 t,.int .i64 s] w (Ret (NewC w t s)):=by
 refine vc151.ok ?_;unfold vc151;refine ifD (fun q=>.inl ⟨by omega,rfl,rfl⟩) (fun h1=>ifD (fun q=>.inl ⟨by omega,rfl,rfl⟩) (fun h2=>ifD (fun q=>.inl ⟨by omega,rfl,rfl⟩) (fun h3=>ifD (fun q=>.inl ⟨by omega,rfl,rfl⟩) (fun h4=>?_))));refine .of (Sf.new_any w 4096) ?_;rintro v w1 (⟨hno,_⟩ | ⟨_,_,ob,og,rfl,ho,hE1,hon⟩)
 ·exact absurd ⟨by decide,by decide⟩ hno
 refine⟨_,_,rfl,.of (Sf.new_any w1 64) ?_⟩;rintro v w2 (⟨hno,_⟩ | ⟨_,_,eb,eg,rfl,he,hE2,hen⟩)
 ·exact absurd ⟨by decide,by decide⟩ hno
 refine⟨_,_,rfl,some w2.heap.size,w2.alloc (.map #[] 0),run_makeMap _ w2,?_⟩;have hE3:=Ext.alloc w2 (.map #[] 0);obtain⟨B,hB⟩:∃B,B=w2.heap.size:=⟨_,rfl⟩;have hmap:IMap (w2.alloc (.map #[] 0)) Tryz.prog 3 .i64 B (fun _=>none) 0:=by
  rw[hB];exact IMap.made w2 Tryz.prog 3 .i64
 have hs3:(w2.alloc (.map #[] 0)).heap.size=B+1:=by rw[hB];simp
 rw[<-hB];have ho3:=(ho.ext hE2).ext hE3;have he3:=he.ext hE3;have lo:=ho.lt;have le:=he.lt;generalize w2.alloc (.map #[] 0)=w3 at hE3 hmap ho3 he3 hs3;refine Q09 fun p w4 hp hE4 hs4 hs4'=>.inr ⟨by omega,by omega,by omega,by omega,p,rfl,fpC p B ob og eb eg,⟨B,ob,og,eb,eg,⟨hp,?_,?_,?_,by omega,by omega,fun x s hx=>(nomatch hx),fun x s hx=>(nomatch hx),by omega,?_⟩,rfl⟩,?_,fun j hj=>hj.elim,((hE1.trans hE2).trans hE3).trans hE4⟩
 ·have e:mapS (fun _=>none)=fun _=>none:=rfl;rw[e];exact hmap.ext hE4
 ·rw[occ_none];exact ho3.ext hE4
 ·rw[occ_none];exact he3.ext hE4
 ·have a1:=lo ob (.inl rfl);have a2:=lo og (.inr rfl);have a3:=le eb (.inl rfl);have a4:=le eg (.inr rfl);have b1:=hen eb (.inl rfl);have b2:=hen eg (.inr rfl);have s2:=hE2.size;refine⟨?_,?_,?_,?_,?_,?_,?_,?_,?_,?_,?_,?_,?_⟩ <;> omega
 ·have a1:=hon ob (.inl rfl);have a2:=hon og (.inr rfl);have b1:=hen eb (.inl rfl);have b2:=hen eg (.inr rfl);have s1:=hE1.size;have s2:=hE2.size;rintro j (rfl | rfl | rfl | rfl | rfl | rfl) <;> exact⟨by omega,fun x=>x⟩
end Cp
end
section
open Go.RowKit Go.Maps Thing
def kpT(p:Nat)(T nx:Int)(S:Int->Option Cp.Sl)(sz:Nat):Thing where
 P w F:=Cp.CP w p F T nx S sz
 keep:=fun h hm hd=>h.keep hm hd
 lt:=fun h=>h.lt
section
variable{w:World}{p:Nat}{T nx:Int}{S:Int->Option Cp.Sl}{sz:Nat}{o:Obj}{F:Nat->Prop}{R:VW}
theorem t_pgrant(a:Int):Tri 184 #[zP p,.int .i64 a] (tabT o*kpT p T nx S sz)
  (fun v=>only (v=Cp.grantV T S nx a) (tabT o*kpT p T (Cp.grantN S nx a) (Cp.grantS S nx a) (Cp.grantZ S nx a sz))):=by
 rintro w F R ⟨F1,F2,ht,h,d,rfl⟩ r;refine .of (Cp.grant_any h ht.1 a) ?_;rintro u w' ⟨rfl,h',hm⟩;exact r _ w' (fun j=>F1 j \/ F2 j) ⟨rfl,F1,F2,(tabT o).keep ht hm d,h',d,rfl⟩ ⟨hm.mono fun j hj=>.inr hj,fun j hj=>.inl hj⟩
theorem t_prestrict{hh:Int}(hu:Hd.U64 hh)(x:Int):Tri 137 #[zP p,.int .u64 hh,.int .i64 x] (tabT o*kpT p T nx S sz)
  (fun v=>only (v=Cp.restV T S nx hh x) (tabT o*kpT p T (Cp.restN T S nx hh x) (Cp.restS T S nx hh x) (Cp.restZ T S nx hh x sz))):=by
 rintro w F R ⟨F1,F2,ht,h,d,rfl⟩ r;refine .of (Cp.restrict_any h ht.1 hu x) ?_;rintro u w' ⟨rfl,h',hm⟩;exact r _ w' (fun j=>F1 j \/ F2 j) ⟨rfl,F1,F2,(tabT o).keep ht hm d,h',d,rfl⟩ ⟨hm.mono fun j hj=>.inr hj,fun j hj=>.inl hj⟩
theorem t_prevoke(a:Int):Tri 185 #[zP p,.int .i64 a] (kpT p T nx S sz)
  (fun v=>only (v=.int .i64 (Cp.revC S a 4160:Int)) (kpT p T nx (Cp.revS S a 4160) (sz-Cp.revC S a 4160))):=by
 intro w F R h r;refine .of (Cp.revoke_any h a) ?_;rintro u w' ⟨rfl,h',hm⟩;exact r _ w' F ⟨rfl,h'⟩ ⟨hm,fun j hj=>.inl hj⟩
theorem t_pfind(h:(kpT p T nx S sz).P w F){hh:Int}(hu:Hd.U64 hh)(x:Int)(r:∀w',Ext w w'->R (Cp.findR T S hh x) w'):CS 188 #[zP p,.int .u64 hh,.int .i64 x] w R:=by
 refine .of (Cp.cFind_any h hu x) ?_;rintro u w' ⟨rfl,hE⟩;exact r w' hE
theorem Q3h(h:(kpT p T nx S sz).P w F)(r:R (.int .i64 nx) w):CS 123 #[zP p] w R:=by
 refine .of (Cp.serial_any h) ?_;rintro u w' ⟨rfl,rfl⟩;exact r
theorem t_pnew(t s:Int)(ht:0<=t /\ t<=7)(hs:1<=s /\ s<=17592186044416)(r:∀p w' F,(kpT p t s (fun _=>none) 0).P w' F->Ext w w'->(∀j,F j->w.heap.size<=j)->R (.tuple #[zP p,.int .i64 0]) w') :
  CS 114 #[.int .i64 t,.int .i64 s] w R:=by
 refine .of (Cp.capnew_any t s w) ?_;rintro v w' (⟨no,_,_⟩ | ⟨_,_,_,_,p,rfl,F,g⟩)
 ·exact absurd ⟨ht.1,ht.2,hs.1,hs.2⟩ no
 ·exact r p w' F g.c g.ext fun j hj=>(g.new j hj).1
end
end
section
open Go.RowKit Go.Maps Go.Sort Thing
theorem Q0F(l:List Int):l.flatMap intF=l.map (Value.int .i64):=by
 induction l with
 | nil=>rfl
 | cons x l ih=>rw[List.flatMap_cons,List.map_cons,ih];rfl
def srtI(l:List Int):List Int:=l.mergeSort fun x y=>decide (x<=y)
theorem Q0V(l:List Int):(srtI l).length=l.length:=List.length_mergeSort _
theorem srtI_perm(l:List Int):(srtI l).Perm l:=List.mergeSort_perm _ _
section
variable{w:World}{p:Option Addr}{c:Nat}{l:List Int}{R:VW}{F:Nat->Prop}
theorem t_sort(hl:l.length<=1000000):Tri 49 #[.slice p l.length c] (rowT (.slice p l.length c) l) (fun v=>only (v=.tuple #[]) (rowT (.slice p l.length c) (srtI l))):=by
 rintro w F R ⟨h,rfl⟩ r;rcases h.2 with⟨hv,hn⟩ | ⟨g,cap,cur,hv,hb,hg,hnc,hcm,hcs,htake⟩
 ·have hl0:l=[]:=List.eq_nil_of_length_eq_zero hn;subst hl0;cases hv;refine⟨(Any.slices_Sort_int_none srtLays none 0 w).mono ?_⟩;rintro e w' ⟨rfl,rfl⟩;have e0:srtI []=[]:=List.mergeSort_nil;exact r _ w' _ ⟨rfl,by rw[e0];exact ORow.nil _ _,rfl⟩ (Step.refl _ _)
 ·cases hv;have ht:cur.toList.take l.length=l.map (Value.int .i64):=by rw[<-Q0F,<-htake,Nat.mul_one]
  refine⟨(Any.slices_Sort_int srtLays g 0 c l w (holds_of_blockI hg ht) (Q0g hg) (by omega)).mono ?_⟩;rintro e w' ⟨rfl,n,os,rfl⟩;have hrow:=ownsRow_sortedI (n:=n) (os:=os) (ss:=l) (ts:=srtI l) (Q0V l) hb hg hnc hcm hcs;refine r _ _ (fun k=>(Value.slice (some ⟨g,0,none⟩) l.length c).ownBlock=some k) ⟨rfl,?_,rfl⟩ ⟨?_,fun j hj=>.inl hj⟩
  ·show World.ownsRow _ 0 _ 1 _ (srtI l).length ((srtI l).flatMap intF);rw[Q0F,Q0V];exact hrow
  ·exact(Mod.of_grown (grownBy_sortedI (srtI l).toArray)).mono fun j hj=>hj
theorem Q3c(h:ORow w 3 1 intF (.slice p l.length c) l)(hl:l.length<=1000000)
  (r:∀p' c' w',ORow w' 3 1 intF (.slice p' l.length c') l->Ext w w'->(∀j,(Value.slice p' l.length c').ownBlock=some j->w.heap.size<=j)->R (.slice p' l.length c') w') :
  CS 110 #[.slice p l.length c] w R:=by
 rcases h.2 with⟨hv,hn⟩ | ⟨g,cap,cur,hv,hb,hg,hnc,hcm,hcs,htake⟩
 ·have hl0:l=[]:=List.eq_nil_of_length_eq_zero hn;subst hl0;cases hv;refine⟨(Any.slices_Clone_int_nil clnLays 0 0 w).mono ?_⟩;rintro e w' ⟨rfl,rfl⟩;exact r none 0 _ (ORow.nil _ _) (Mod.refl _ _) (fun j hj=>by simp[Value.ownBlock] at hj)
 ·cases hv;have ht:cur.toList.take l.length=l.map (Value.int .i64):=by rw[<-Q0F,<-htake,Nat.mul_one]
  have hcell:∀j,j<l.length->w.cell? ⟨g,0+j,none⟩=some (.int .i64 (l.getD j 0)):=fun j hj=>by
   have:=(holds_of_blockI hg ht j (by simpa using hj)).1;rw[this];simp[List.getD,hj]
  refine⟨(Any.slices_Clone_int clnLays g 0 l.length c l w (Nat.le_refl _) (by omega) hcell).mono ?_⟩;rintro e w' ⟨v',rfl,hrow,hne,hB⟩;rw[List.take_length,<-Q0F] at hrow;have hrow0:ORow w' 3 1 intF v' l:=⟨hrow.1,hrow.2.imp id fun⟨g,cap,cur,a,_,c⟩=>⟨g,cap,cur,a,Nat.zero_le _,c⟩⟩;obtain⟨p',c',rfl⟩:=hrow0.shape;exact r p' c' w' hrow0 ⟨hB.os,hB.tape,hB.output,hB.size,fun k hk _=>hB.block k hk⟩ fun j hj=>(World.ownsRow.lt hrow j hj).1
theorem t_contains(h:ORow w 3 1 intF (.slice p l.length c) l)(hl:l.length<=1000000)(x:Int)(r:R (.bool (l.contains x)) w) :
  CS 218 #[.slice p l.length c,.int .i64 x] w R:=by
 rcases h.2 with⟨hv,hn⟩ | ⟨g,cap,cur,hv,hb,hg,hnc,hcm,hcs,htake⟩
 ·have hl0:l=[]:=List.eq_nil_of_length_eq_zero hn;subst hl0;cases hv;refine⟨(Any.slices_Contains_int_empty ctnLays none 0 x w).mono ?_⟩;rintro e w' ⟨rfl,rfl⟩;exact r
 ·cases hv;have ht:cur.toList.take l.length=l.map (Value.int .i64):=by rw[<-Q0F,<-htake,Nat.mul_one]
  have hcell:∀j,j<l.length->w.cell? ⟨g,0+j,none⟩=some (.int .i64 (l.getD j 0)):=fun j hj=>by
   have:=(holds_of_blockI hg ht j (by simpa using hj)).1;rw[this];simp[List.getD,hj]
  refine⟨(Any.slices_Contains_int ctnLays g 0 l.length c l x w (Nat.le_refl _) (by omega) hcell).mono ?_⟩;rintro e w' ⟨rfl,rfl⟩;rw[List.take_length];exact r
end
end
section
open Go.RowKit Go.Maps Go.Sort Thing
theorem Q1K(l:List Int):(Lib.compact l).length<=l.length:=by
 unfold Lib.compact Lib.compactUpTo;rw[List.length_map];exact Nat.le_trans (List.length_filter_le _ _) (by simp)
section
variable{w:World}{p:Option Addr}{c:Nat}{l:List Int}{R:VW}{F:Nat->Prop}
theorem t_compact(hl:l.length<=1000000):Tri 162 #[.slice p l.length c] (rowT (.slice p l.length c) l)
  (fun v=>only (v=.slice p (Lib.compact l).length c) (rowT (.slice p (Lib.compact l).length c) (Lib.compact l))):=by
 rintro w F R ⟨h,rfl⟩ r;rcases h.2 with⟨hv,hn⟩ | ⟨g,cap,cur,hv,hb,hg,hnc,hcm,hcs,htake⟩
 ·have hl0:l=[]:=List.eq_nil_of_length_eq_zero hn;subst hl0;cases hv;refine⟨(Any.slices_Compact_int_empty cmpLays none 0 w).mono ?_⟩;rintro e w' ⟨rfl,rfl⟩;exact r _ w' _ ⟨rfl,ORow.nil _ _,rfl⟩ (Step.refl _ _)
 ·cases hv;have ht:cur.toList.take l.length=l.map (Value.int .i64):=by rw[<-Q0F,<-htake,Nat.mul_one]
  refine⟨(Any.slices_Compact_int cmpLays g 0 c l w (holds_of_blockI hg ht) (by omega) hnc).mono ?_⟩;rintro e w' ⟨rfl,q,rfl⟩;have hcl:=Q1K l;have htl:(Lib.compact l++List.replicate (l.length-(Lib.compact l).length) 0).length=l.length:=by simp;omega
  have e3:((Lib.compact l++List.replicate (l.length-(Lib.compact l).length) 0).map (Value.int .i64)).take (Lib.compact l).length=(Lib.compact l).map (Value.int .i64):=by
   rw[List.map_append];have:=List.take_left (l₁:=(Lib.compact l).map (Value.int .i64)) (l₂:=(List.replicate (l.length-(Lib.compact l).length) (0:Int)).map (Value.int .i64));rw[List.length_map] at this;exact this
  generalize(Lib.compact l++List.replicate (l.length-(Lib.compact l).length) 0)=tt at htl e3 ⊢;have e0:putRow (Value.int .i64) (Sort.ahead w q) g 0 tt.toArray=grow (putRow (Value.int .i64) (Sort.ahead w q) g 0 tt.toArray) #[]:=(grow_empty _).symm;rw[e0];have hrow:=ownsRow_sortedI (n:=q) (os:=#[]) (ss:=l) (ts:=tt) htl hb hg hnc hcm hcs;have hmod:Mod (fun k=>some g=some k) w (grow (putRow (Value.int .i64) (Sort.ahead w q) g 0 tt.toArray) #[]):=Mod.of_grown (grownBy_sortedI tt.toArray);generalize grow (putRow (Value.int .i64) (Sort.ahead w q) g 0 tt.toArray) #[]=w1 at hrow hmod;rcases hrow.2 with⟨hv,_⟩ | ⟨g',cap',cur',hv,hb',hg',hnc',hcm',hcs',htake'⟩
  ·cases hv
  ·cases hv;refine r _ w1 (fun k=>(Value.slice (some ⟨g,0,none⟩) l.length c).ownBlock=some k) ⟨rfl,⟨by rw[Q0F];simp,.inr ⟨g,c,cur',rfl,Nat.zero_le _,hg',by omega,hcm,hcs',?_⟩⟩,rfl⟩ ⟨hmod,fun j hj=>.inl hj⟩;rw[Nat.mul_one] at htake' ⊢;have e4:=congrArg (List.take (Lib.compact l).length) htake';rw[List.take_take,Nat.min_eq_left hcl,e3] at e4;rw[e4,Q0F]
end
end
section
open Go.RowKit Go.Maps Go.Sort Thing
def isCol(C:Nat)(c:Int):Bool:=decide (0<=c /\ c<(C:Int))
def rooN(n C:Nat)(l:List Int):Nat:=(Lib.compact (srtI l)).countP (isCol C)*n
section
variable{w:World}{mb n C:Nat}{hs:List Bool}{p:Option Addr}{c:Nat}{l:List Int}{R:VW}{F:Nat->Prop}
theorem t_room(hc:(coT mb n C hs).P w F)(hr:ORow w 3 1 intF (.slice p l.length c) l)(hl:l.length<=100000)(r:∀w',Ext w w'->R (.int .i64 (rooN n C l:Int)) w') :
  CS 115 #[zP mb,.slice p l.length c] w R:=by
 have g:Cl.MH w mb F n C hs:=hc;have g1:=g.n1;have g2:=g.c1;have g3:=g.c32;have g4:=g.p4;have g5:=g.len;constructor;refine vc152.ok ?_;unfold vc152;refine Q3c hr (by omega) fun p1 c1 w1 hr1 hE1 hn1=>⟨_,_,_,rfl,?_⟩;have row1:(rowT (.slice p1 l.length c1) l).P w1 (fun k=>(Value.slice p1 l.length c1).ownBlock=some k):=⟨hr1,rfl⟩;refine t_sort (by omega) w1 _ _ row1 fun v w2 F2 h2 s2=>?_;obtain⟨rfl,h2⟩:=h2;have hE2:Ext w w2:=hE1.new s2.1 (fun j hj=>hn1 j hj);refine⟨rfl,?_⟩;have hlen:=Q0V l;rw[<-hlen] at h2 ⊢;refine t_compact (by omega) w2 _ _ h2 fun v w3 F3 h3 s3=>?_;obtain⟨rfl,h3⟩:=h3;have hF2:∀j,F2 j->w.heap.size<=j:=fun j hj=>(s2.2 j hj).elim (fun q=>hn1 j q) (fun q=>Nat.le_trans hE1.size q);have hE3:Ext w w3:=hE2.new s3.1 hF2;have hcl:=Q1K (srtI l);unfold rooN at r;generalize Lib.compact (srtI l)=z at h3 hcl r ⊢;have hz:z.length<=100000:=by omega
 have hrow:ORow w3 3 1 intF (.slice p1 z.length c1) z:=h3.1;have hF3:∀j,(Value.slice p1 z.length c1).ownBlock=some j->w.heap.size<=j:=fun j hj=>by
  have hF:F3 j:=by rw[h3.2];exact hj
  exact(s3.2 j hF).elim (hF2 j) (fun q=>Nat.le_trans hE2.size q)
 have nC:C<=n*C:=Nat.le_mul_of_pos_left C g1;refine⟨_,_,_,rfl,fun f i15 i16 w4=>∃j:Nat,i16=(j:Int) /\ f+j=z.length /\ i15=(((z.take j).countP (isCol C)*n:Nat):Int) /\ Ext w3 w4,⟨z.length,0,rfl,rfl,by simp,Mod.refl _ _⟩,?_⟩;rintro f jv i15 i16 w4 ⟨j,rfl,hf,rfl,hE4⟩;have hE04:=hE3.trans hE4;refine ifD (fun hj=>⟨by omega,by omega,?_⟩) (fun hj=>?_)
 ·have hj:j<z.length:=by omega
  obtain⟨x,hx⟩:∃x,z[j]? = some x:=⟨_,zzgge hj⟩;obtain⟨a,rfl,hcell⟩:=(hrow.keep hE4 (fun _ _ q=>q)).cells Q0C hx;have h0:=hcell 0 _ rfl;have ea:(a.add (j*1)).add 0=a.add j:=by rw[Nat.mul_one];cases a;simp[Addr.add]
  rw[ea] at h0;have hcnt:(z.take j).countP (isCol C)<=100000:=Nat.le_trans List.countP_le_length (by rw[zzlnt];omega);have hcn:(z.take j).countP (isCol C)*n<=100000*4096:=Nat.mul_le_mul hcnt (Nat.le_trans (Nat.le_mul_of_pos_right n g2) g4);have hn4:n<=4096:=Nat.le_trans (Nat.le_mul_of_pos_right n g2) g4;have ew:IntKind.i64.wrap ((j:Int)+1)=((j+1:Nat):Int):=by rw[Q03 (by omega) (by omega)];omega
  have etake:z.take (j+1)=z.take j++[x]:=by rw[List.take_add_one,hx];rfl
  rw[ew,zztnc];have no:isCol C x=false->∀w5,Ext w3 w5->∃n28:Nat,n28<f /\ ∃j_1:Nat,((j+1:Nat):Int)=(j_1:Int) /\ n28+j_1=z.length /\ (((z.take j).countP (isCol C)*n:Nat):Int)=(((z.take j_1).countP (isCol C)*n:Nat):Int) /\ Ext w3 w5:=fun q w5 hE5=>
   ⟨f-1,by omega,j+1,rfl,by omega,by rw[etake,List.countP_append,List.countP_singleton,q];simp,hE5⟩
  refine⟨x,h0,ifD (fun hx0=>t_ccolour ((coT mb n C hs).keep hc hE04 (fun _ _ q=>q)) x ⟨_,rfl,Q05 (fun q=>?_) (fun q=>?_)⟩) (fun hx0=>no (zzdcf fun q=>by omega) w4 hE4)⟩
  ·have q:Cl.mCol hs.length C x=x:=by simpa using q
   have hxc:isCol C x=true:=by
    unfold Cl.mCol at q;split at q
    ·rename_i hp;refine decide_eq_true ⟨hp.1,?_⟩;have:=Int.tmod_lt_of_pos x (show(0:Int)<(C:Int) by omega);omega
    ·omega
   refine t_ceach ((coT mb n C hs).keep hc hE04 (fun _ _ q=>q)) fun w5 hE5=>⟨_,rfl,f-1,by omega,j+1,rfl,by omega,?_,hE4.trans hE5⟩;rw[etake,List.countP_append,List.countP_singleton,hxc,if_pos rfl,Nat.add_mul,Nat.one_mul,Q03 (by omega) (by omega)];omega
  ·have q:¬Cl.mCol hs.length C x=x:=by simpa using q
   refine no (zzdcf fun hb=>q ?_) w4 hE4;unfold Cl.mCol;rw[if_pos ⟨hb.1,by omega⟩];exact Int.tmod_eq_of_lt hb.1 hb.2
 ·have:j=z.length:=by omega
  subst this;rw[List.take_length];exact r w4 hE04
end
end
section
open Go.RowKit Go.Maps Go.Sort Thing
theorem row_app{w:World}{v:Value}{l m:List Int}{p:Option Addr}{c:Nat}(h:ORow w 3 1 intF v l)(g:ORow w 3 1 intF (.slice p m.length c) m)(hl:l.length+m.length<=1000000) :
  ∃(p':Option Addr)(c':Nat)(w':World),(Builtin.append_ #[37,37] 37 #[v,.slice p m.length c]).run Tryz.prog w=.ok (.slice p' (l.length+m.length) c') w' /\ ORow w' 3 1 intF (.slice p' (l.length+m.length) c') (l++m) /\
   Mod (fun b=>v.ownBlock=some b) w w' /\ (∀b,(Value.slice p' (l.length+m.length) c').ownBlock=some b->v.ownBlock=some b \/ w.heap.size<=b):=by
 by_cases hm:m=[]
 ·subst hm;have hg:Value.slice p ([]:List Int).length c=.slice none 0 0 \/ ∃a,p=some a:=by
   rcases g.2 with⟨hv,_⟩ | ⟨b,cap,cur,hv,_⟩
   ·exact .inl hv
   ·cases hv;exact .inr ⟨_,rfl⟩
  rcases hg with e | ⟨a,rfl⟩
  ·rw[e];obtain⟨i,z,hi,hz,hs,hby,hzs⟩:=elemI.info;have hr:=run_append_owned_none (P:=Tryz.prog) (w:=w) (base:=0) (t:=37) (ty:=37) (e:=3) (i:=i) (size:=1) (v:=v) (n:=l.length) (xs:=l.flatMap intF) (ht:=elemI.slice) (hi:=hi) (hown:=h);obtain⟨p',c',rfl⟩:=h.shape;exact⟨p',c',w,hr,by simpa using h,Mod.refl _ _,fun b hb=>.inl hb⟩
  ·exact ORow.append elemI Q0C intF_one h _ a c [] (fun j x hx=>by simp at hx) (by simp only[maxLen,List.length_nil];simp only[List.length_nil] at hl;omega) (by simp only[List.length_nil] at hl ⊢;omega)
 ·have hpos:0<m.length:=List.length_pos_iff.2 hm;obtain⟨x0,hx0⟩:∃x,m[0]? = some x:=⟨_,zzgge hpos⟩;obtain⟨a,rfl,_⟩:=g.cells Q0C hx0;refine ORow.append elemI Q0C intF_one h _ a c m (fun j x hx=>?_) (by simp only[maxLen];omega) (by omega);obtain⟨a',e,hc⟩:=g.cells Q0C hx;cases e;exact hc
end
section
open Go.RowKit Go.Maps Go.Sort Thing
abbrev poO(sb:Nat)(vs:Nat->Value):Obj:=.cells #[zP sb,vs 0,vs 1,vs 2,vs 3,vs 4,vs 5,vs 6,vs 7] 178 (0,0)
def poF(vs:Nat->Value)(ws:Nat->List Int):Fin 8->Thing:=fun i=>rowT (vs i.val) (ws i.val)
def poT(pb:Nat)(hs:List Bool)(ws:Nat->List Int):Thing:=any fun x:Nat × (Nat->Value)=>blk pb (poO x.1 x.2)*(shT x.1 hs*fam (poF x.2 ws))
section
variable{w:World}{pb:Nat}{hs:List Bool}{ws:Nat->List Int}{R:VW}{F:Nat->Prop}
theorem po_parts(h:(poT pb hs ws).P w F):∃sb vs,w.heap[pb]? = some (poO sb vs) /\ (∃F2,(shT sb hs).P w F2) /\ ∀i,i<8->ORow w 3 1 intF (vs i) (ws i):=by
 obtain⟨⟨sb,vs⟩,F1,F23,⟨h1,_⟩,⟨F2,F3,h2,⟨f,h3,_⟩,_⟩,_⟩:=h;exact⟨sb,vs,h1,⟨F2,h2⟩,fun i hi=>(h3 ⟨i,hi⟩).1⟩
theorem poready(o k:Int)(r:R (.int .i64 (if 0<=o /\ o<8 /\ 0<=k then 0 else 12)) w):CS 109 #[zP pb,.int .i64 o,.int .i64 k] w R:=by
 constructor;refine vc83.ok ?_;unfold vc83;have no:¬(0<=o /\ o<8 /\ 0<=k)->R (.int .i64 12) w:=fun q=>by rw[if_neg q] at r;exact r
 refine Q00 rfl (ifD (fun q=>no (by omega)) (fun q1=>ifD (fun q=>no (by omega)) (fun q2=>ifD (fun q=>no (by omega)) (fun q3=>?_))));rw[if_pos ⟨by omega,by omega,by omega⟩] at r;exact r
theorem po_cell{sb:Nat}{vs:Nat->Value}(hb:w.heap[pb]? = some (poO sb vs)){i:Nat}(hi:i<8):w.cell? (((zA pb).add 1).add i)=some (vs i):=by
 rw[Q02,Q02];rcases(show i=0 \/ i=1 \/ i=2 \/ i=3 \/ i=4 \/ i=5 \/ i=6 \/ i=7 by omega)with rfl | rfl | rfl | rfl | rfl | rfl | rfl | rfl <;> exact Q01 hb rfl
theorem Q2r(h:(poT pb hs ws).P w F){i:Nat}(hi:i<8)(hl:(ws i).length<=1000000)
  (r:∀p c w',ORow w' 3 1 intF (.slice p (ws i).length c) (ws i)->Ext w w'->(∀j,(Value.slice p (ws i).length c).ownBlock=some j->w.heap.size<=j)->R (.slice p (ws i).length c) w') :
  CS 69 #[zP pb,.int .i64 (i:Int)] w R:=by
 obtain⟨sb,vs,hb,_,hrows⟩:=po_parts h;have hrow:=hrows i hi;obtain⟨p,c,e⟩:=hrow.shape;constructor;refine vc116.ok ?_;unfold vc116;refine poready _ _ ⟨_,rfl,?_⟩;rw[if_pos ⟨by omega,by omega,by omega⟩];have hc:=po_cell hb hi;rw[e] at hc hrow;refine Q00 rfl ⟨by omega,by omega,_,_,_,by rw[zztnc];exact hc,Q3c hrow hl fun p' c' w' hr' hE hn=>⟨_,_,_,rfl,r p' c' w' hr' hE hn⟩⟩
end
end
section
open Go.RowKit Go.Maps Go.Sort Thing
def tkH(hs:List Bool):Nat->List Bool
 | 0=>hs
 | k+1=>Sf.takeH (tkH hs k)
def tkL(hs:List Bool):Nat->List Int
 | 0=>[]
 | k+1=>tkL hs k++[Sf.takeI (tkH hs k)]
theorem Q1O(hs:List Bool):∀k,(tkL hs k).length=k
 | 0=>rfl
 | k+1=>by simp[tkL,Q1O hs k]
def updW(ws:Nat->List Int)(i:Nat)(l:List Int):Nat->List Int:=fun j=>if j=i then l else ws j
def updV(vs:Nat->Value)(i:Nat)(v:Value):Nat->Value:=fun j=>if j=i then v else vs j
theorem poF_upd(vs:Nat->Value)(ws:Nat->List Int)(i:Fin 8)(v:Value)(l:List Int):poF (updV vs i.val v) (updW ws i.val l)=Thing.upd (poF vs ws) i (rowT v l):=by
 funext j;unfold poF updV updW Thing.upd;by_cases e:j=i
 ·subst e;simp
 ·have:j.val ≠ i.val:=fun q=>e (Fin.ext q);simp[e,this]
theorem poO_set(sb:Nat)(vs:Nat->Value)(i:Nat)(hi:i<8)(v:Value):setAt #[zP sb,vs 0,vs 1,vs 2,vs 3,vs 4,vs 5,vs 6,vs 7] (1+i) [v] =
  #[zP sb,updV vs i v 0,updV vs i v 1,updV vs i v 2,updV vs i v 3,updV vs i v 4,updV vs i v 5,updV vs i v 6,updV vs i v 7]:=by
 rcases(show i=0 \/ i=1 \/ i=2 \/ i=3 \/ i=4 \/ i=5 \/ i=6 \/ i=7 by omega)with rfl | rfl | rfl | rfl | rfl | rfl | rfl | rfl <;> rfl
theorem row_push{w:World}{v:Value}{l:List Int}{Y:Thing}{F:Nat->Prop}{a:Addr}{c:Nat}{x:Int}(h:(rowT v l*Y).P w F)(ha:w.cell? a=some (.int .i64 x))(hl:l.length<=1000000) :
  ∃p' c' w' F',(Builtin.append_ #[37,37] 37 #[v,.slice (some a) 1 c]).run Tryz.prog w=.ok (.slice p' (l.length+1) c') w' /\ (rowT (.slice p' (l.length+1) c') (l++[x])*Y).P w' F' /\ Step F w F' w':=by
 obtain⟨F1,F2,⟨hr,rfl⟩,hy,d,rfl⟩:=h;have hc:CellsAt w a (intF x):=fun j u hu=>by
  cases j with
  | zero=>
   simp only[intF,List.getElem?_cons_zero,Option.some.injEq] at hu;subst hu;have:a.add 0=a:=by cases a;simp[Addr.add]
   rw[this];exact ha
  | succ j=>simp[intF] at hu
 obtain⟨p',c',w',hrun,hr',hm,hn⟩:=ORow.push elemI Q0C intF_one hr 37 a c x hc (by simp only[maxLen];omega) (by omega);obtain⟨q,s⟩:=Q0M (B:=rowT (.slice p' (l.length+1) c') (l++[x])) hy d ⟨hr',rfl⟩ ⟨hm,hn⟩;exact⟨p',c',w',_,hrun,q,s⟩
theorem row_nil{w:World}{A:Thing}{F:Nat->Prop}(h:A.P w F):(A*rowT (.slice none 0 0) []).P w F:=
 ⟨F,_,h,⟨ORow.nil _ _,rfl⟩,fun j _ q=>by simp[Value.ownBlock] at q,funext fun j=>propext (by simp[Value.ownBlock])⟩
theorem any_elim{X:Type}{A:X->Thing}{Y:Thing}{w:World}{F:Nat->Prop}(h:(any A*Y).P w F):∃x,(A x*Y).P w F:=by
 obtain⟨F1,F2,⟨x,a⟩,b,d,rfl⟩:=h;exact⟨x,F1,F2,a,b,d,rfl⟩
theorem Q0e{A X Y:Thing}{w:World}{F:Nat->Prop}(h:X.P w F)(e:X=A*Y):∃F1,A.P w F1 /\ ∀j,F1 j->F j:=by
 subst e;obtain⟨F1,F2,a,b,d,rfl⟩:=h;exact⟨F1,a,fun j hj=>.inl hj⟩
theorem re{X Y:Thing}{w:World}{F:Nat->Prop}(h:X.P w F)(e:X=Y):Y.P w F:=e ▸ h
theorem Q0h{w w':World}{X B:Thing}{F Fb:Nat->Prop}(h:X.P w F)(hE:Ext w w')(b:B.P w' Fb)(hn:∀j,Fb j->w.heap.size<=j):(B*X).P w' (fun j=>Fb j \/ F j) /\ Step F w (fun j=>Fb j \/ F j) w':=
 ⟨⟨Fb,F,b,Thing.grow h hE,fun j hj hk=>by have:=hn j hj;have:=X.lt h j hk;omega,rfl⟩,hE.mod,fun j hj=>hj.elim (fun q=>.inr (hn j q)) .inl⟩
theorem Q07{w:World}{A B:Thing}{F:Nat->Prop}(h:(A*B).P w F):∃F1,B.P w F1 /\ ∀j,F1 j->F j:=by
 obtain⟨F1,F2,a,b,d,rfl⟩:=h;exact⟨F2,b,fun j hj=>.inr hj⟩
theorem row_both{w:World}{v:Value}{l m:List Int}{p:Option Addr}{c:Nat}{Y:Thing}{F:Nat->Prop}(h:(rowT v l*(rowT (.slice p m.length c) m*Y)).P w F)(hl:l.length+m.length<=1000000) :
  ∃p' c' w' F',(Builtin.append_ #[37,37] 37 #[v,.slice p m.length c]).run Tryz.prog w=.ok (.slice p' (l.length+m.length) c') w' /\ (rowT (.slice p' (l.length+m.length) c') (l++m)*(rowT (.slice p m.length c) m*Y)).P w' F' /\ Step F w F' w':=by
 obtain⟨F1,F2,⟨hr,rfl⟩,hy,d,rfl⟩:=h;have hm:ORow w 3 1 intF (.slice p m.length c) m:=by
  obtain⟨_,_,⟨hm,_⟩,_⟩:=hy;exact hm
 obtain⟨p',c',w',hrun,hr',hmod,hn⟩:=row_app hr hm hl;obtain⟨q,s⟩:=Q0M (B:=rowT (.slice p' (l.length+m.length) c') (l++m)) hy d ⟨hr',rfl⟩ ⟨hmod,hn⟩;exact⟨p',c',w',_,hrun,q,s⟩
end
section
open Go.RowKit Go.Maps Go.Sort Thing
section
variable{pb:Nat}{hs:List Bool}{ws:Nat->List Int}{o:Obj}
theorem Q3r{w:World}{F:Nat->Prop}{R:VW}(h:(poT pb hs ws).P w F){i k:Nat}(hi:i<8)(hk:hs.count false<k)(r:R (.tuple #[.slice none 0 0,.int .i64 9]) w) :
  CS 74 #[zP pb,.int .i64 (i:Int),.int .i64 (k:Int)] w R:=by
 obtain⟨sb,vs,hb,⟨F2,hs2⟩,_⟩:=po_parts h;constructor;refine vc129.ok ?_;unfold vc129;refine poready _ _ ⟨_,rfl,?_⟩;rw[if_pos ⟨by omega,by omega,by omega⟩];exact Q00 rfl ⟨_,by rw[Q02];exact Q01 hb rfl,t_sfree hs2 ⟨_,rfl,Q04 (decide_eq_true (by omega)) r⟩⟩
theorem t_pogrant{i k:Nat}(hi:i<8)(hk:k<=hs.count false)(hl:(ws i).length<=1000)(hk2:k<=1000):Tri 74 #[zP pb,.int .i64 (i:Int),.int .i64 (k:Int)] (tabT o*poT pb hs ws)
  (fun v=>any fun pc:Option Addr × Nat=>only (v=.tuple #[.slice pc.1 k pc.2,.int .i64 0]) (tabT o*poT pb (tkH hs k) (updW ws i (srtI (ws i++tkL hs k)))*rowT (.slice pc.1 k pc.2) (tkL hs k))):=by
 intro w F R h r;obtain⟨⟨sb,vs⟩,h⟩:=any_elim (re h (zztmc _ _));have h:(tabT o*(blk pb (poO sb vs)*(shT sb hs*fam (poF vs ws)))).P w F:=re h (by ac_rfl);constructor;refine vc129.ok ?_;unfold vc129;refine poready _ _ ⟨_,rfl,?_⟩;rw[if_pos ⟨by omega,by omega,by omega⟩];have hb:=Q0b (b:=pb) (o:=poO sb vs) (C:=tabT o*(shT sb hs*fam (poF vs ws))) h (by ac_rfl);obtain⟨F2,hs2,_⟩:=Q0e (A:=shT sb hs) (Y:=tabT o*(blk pb (poO sb vs)*fam (poF vs ws))) h (by ac_rfl);refine Q00 rfl ⟨_,by rw[Q02];exact Q01 hb rfl,t_sfree hs2 ⟨_,rfl,Q0y (by omega) ?_⟩⟩;refine⟨fun f p n c i14 w1=>∃j:Nat,i14=(j:Int) /\ f+j=k /\ n=j /\ ∃F1,(tabT o*(blk pb (poO sb vs)*(shT sb (tkH hs j)*fam (poF vs ws)))*rowT (.slice p j c) (tkL hs j)).P w1 F1 /\ Step F w F1 w1,⟨k,0,rfl,by omega,rfl,F,row_nil h,Step.refl _ _⟩,?_⟩;rintro f jv p n c i14 w1 ⟨j,rfl,hf,rfl,F1,h1,s1⟩;have hb1:=Q0b (b:=pb) (o:=poO sb vs) (C:=tabT o*(shT sb (tkH hs n)*fam (poF vs ws))*rowT (.slice p n c) (tkL hs n)) h1 (by ac_rfl);refine ifD (fun hj=>?_) (fun hj=>?_)
 ·refine⟨_,by rw[Q02];exact Q01 hb1 rfl,?_⟩;refine(t_stake (o:=o) (sb:=sb) (hs:=tkH hs n)).use (C:=blk pb (poO sb vs)*fam (poF vs ws)*rowT (.slice p n c) (tkL hs n)) h1 (by ac_rfl) fun v w2 F2 h2 s2=>?_;rw[Q06] at h2;obtain⟨rfl,h2⟩:=h2;refine⟨_,_,rfl,Q0l h2 fun b w3 F3 h3 s3 hbs=>?_⟩;have hb3:=Q0b h3 rfl;have hrow3:(rowT (.slice p n c) (tkL hs n)*(blk b (.cells #[.int .i64 (Sf.takeI (tkH hs n))] 3 (0,0))*(tabT o*shT sb (Sf.takeH (tkH hs n)))*(blk pb (poO sb vs)*fam (poF vs ws)))).P w3 F3:=re h3 (by ac_rfl);have hlen:=Q1O hs n;obtain⟨p',c',w4,F4,hrun,h4,s4⟩:=row_push (a:=⟨b,0,none⟩) (c:=1) (x:=Sf.takeI (tkH hs n)) hrow3 (Q01 hb3 rfl) (by omega);rw[hlen] at hrun h4;refine⟨p',n+1,c',w4,hrun,f-1,by omega,n+1,by rw[Q03 (by omega) (by omega)];omega,by omega,rfl,?_⟩;have h5:(blk b (.cells #[.int .i64 (Sf.takeI (tkH hs n))] 3 (0,0))*(tabT o*(blk pb (poO sb vs)*(shT sb (tkH hs (n+1))*fam (poF vs ws)))*rowT (.slice p' (n+1) c') (tkL hs (n+1)))).P w4 F4:=re h4 (by show rowT _ (tkL hs n++[Sf.takeI (tkH hs n)])*(_*(_*shT sb (Sf.takeH (tkH hs n)))*_)=blk b _*(_*(_*(shT sb (Sf.takeH (tkH hs n))*_))*rowT _ (tkL hs n++[Sf.takeI (tkH hs n)]));ac_rfl);obtain⟨Fa,Fb,_,hB,d,rfl⟩:=h5;exact⟨Fb,hB,(((s1.trans s2).trans s3).trans s4).sub fun j hj=>.inr hj⟩
 ·have ek:n=k:=by omega
  subst ek;rintro w2 rfl;have hE2:=Ext.drew w1;have h2:=Thing.grow h1 hE2;have hb2:w1.drew.heap[pb]? = some (poO sb vs):=hb1;have hfam:=Q3J (poF vs ws) ⟨i,hi⟩;obtain⟨Fw,hw,_⟩:=Q0e (A:=rowT (vs i) (ws i)) (Y:=tabT o*(blk pb (poO sb vs)*(shT sb (tkH hs n)*fam (Thing.upd (poF vs ws) ⟨i,hi⟩ emp)))*rowT (.slice p n c) (tkL hs n)) h2 (by rw[hfam];show _*(_*(_*(rowT (vs i) (ws i)*_)))*_=_;ac_rfl);obtain⟨pw,cw,ew⟩:=hw.1.shape;have hcell:=po_cell hb2 hi;have hwr:=hw.1;rw[ew] at hcell hwr;refine⟨by omega,by omega,rfl,pw,_,cw,by rw[zztnc];exact hcell,Q3c hwr (by omega) fun p3 c3 w3 hr3 hE3 hn3=>⟨_,_,_,rfl,?_⟩⟩;obtain⟨h3,s3⟩:=Q0h (B:=rowT (.slice p3 (ws i).length c3) (ws i)) h2 hE3 ⟨hr3,rfl⟩ hn3;have hlen:=Q1O hs n;have h3':(rowT (.slice p3 (ws i).length c3) (ws i)*(rowT (.slice p (tkL hs n).length c) (tkL hs n)*(tabT o*(blk pb (poO sb vs)*(shT sb (tkH hs n)*fam (poF vs ws)))))).P w3 _:=re h3 (by rw[hlen];ac_rfl);obtain⟨p4,c4,w4,F4,hrun,h4,s4⟩:=row_both h3' (by omega);rw[hlen] at hrun h4;refine⟨p4,_,c4,w4,hrun,by omega,by omega,rfl,?_⟩;rw[Q02,Q02,Nat.zero_add,zztnc];refine Q0J (C:=rowT (.slice p4 ((ws i).length+n) c4) (ws i++tkL hs n)*(rowT (.slice p n c) (tkL hs n)*(tabT o*(shT sb (tkH hs n)*fam (poF vs ws))))) h4 (by ac_rfl) (by simp;omega) fun w5 F5 h5 s5=>?_;rw[poO_set sb vs i hi] at h5;have hb5:w5.heap[pb]? = some (poO sb (updV vs i (.slice p4 ((ws i).length+n) c4))):=Q0b h5 rfl;have hcell5:=po_cell hb5 hi
  have ev:updV vs i (.slice p4 ((ws i).length+n) c4) i=.slice p4 ((ws i).length+n) c4:=if_pos rfl;rw[ev] at hcell5;have hll:(ws i++tkL hs n).length=(ws i).length+n:=by rw[zzlna,hlen]
  have hsort:=t_sort (p:=p4) (c:=c4) (l:=ws i++tkL hs n) (by omega);rw[hll] at hsort;refine⟨by omega,by omega,_,_,_,hcell5,hsort.use (C:=blk pb (poO sb (updV vs i (.slice p4 ((ws i).length+n) c4)))*(rowT (.slice p n c) (tkL hs n)*(tabT o*(shT sb (tkH hs n)*fam (poF vs ws))))) h5 (by ac_rfl) fun v w6 F6 h6 s6=>?_⟩;rw[Q06] at h6;obtain⟨rfl,h6⟩:=h6;rw[hfam] at h6;have h7:(rowT (vs i) (ws i)*(tabT o*(blk pb (poO sb (updV vs i (.slice p4 ((ws i).length+n) c4)))*(shT sb (tkH hs n)*fam (poF (updV vs i (.slice p4 ((ws i).length+n) c4)) (updW ws i (srtI (ws i++tkL hs n))))))*rowT (.slice p n c) (tkL hs n))).P w6 F6:=re h6 (by
   rw[poF_upd vs ws ⟨i,hi⟩,Q0Z (poF vs ws) ⟨i,hi⟩ (rowT (.slice p4 ((ws i).length+n) c4) (srtI (ws i++tkL hs n)))];show _*(_*(_*(_*(_*(rowT (vs i) (ws i)*_)))))=_;ac_rfl)
  obtain⟨F7,h8,hs8⟩:=Q07 h7;refine⟨rfl,r _ w6 F7 ⟨(p,c),rfl,?_⟩ ?_⟩
  ·obtain⟨Fx,Fy,⟨Fz,Fu,a1,a2,d1,rfl⟩,b1,d2,rfl⟩:=h8;exact⟨_,Fy,⟨Fz,Fu,a1,⟨(sb,_),a2⟩,d1,rfl⟩,b1,d2,rfl⟩
  ·exact(((((s1.trans (Step.ext hE2)).trans s3).trans s4).trans s5).trans s6).sub hs8
end
end
section
open Go.RowKit Go.Maps Go.Sort Thing
section
variable{w:World}{p:Option Addr}{c:Nat}{l:List Int}{R:VW}
theorem Q3v(h:ORow w 3 1 intF (.slice p l.length c) l)(hl:l.length<=1000000){a b:Nat}(hab:a<=b)(hb:b<=l.length)
  (r:∀p' c' w',ORow w' 3 1 intF (.slice p' (b-a) c') ((l.drop a).take (b-a))->Ext w w'->(∀j,(Value.slice p' (b-a) c').ownBlock=some j->w.heap.size<=j)->R (.slice p' (b-a) c') w') :
  CS 110 #[.slice (subA p a c 1) (b-a) (c-a)] w R:=by
 have hlen:((l.drop a).take (b-a)).length=b-a:=by rw[zzlnt,List.length_drop];omega
 have fin:∀(o:Nat)(cc:Nat)(g:Nat),(∀j,j<((l.drop a).take (b-a)).length->w.cell? ⟨g,o+j,none⟩=some (.int .i64 (((l.drop a).take (b-a)).getD j 0)))->CS 110 #[.slice (some ⟨g,o,none⟩) (b-a) cc] w R:=fun o cc g hc=>by
  refine⟨(Any.slices_Clone_int clnLays g o (b-a) cc ((l.drop a).take (b-a)) w (by omega) (by omega) hc).mono ?_⟩;rintro e w' ⟨v',rfl,hrow,hne,hB⟩;rw[List.take_of_length_le (by omega),<-Q0F] at hrow;have hrow0:ORow w' 3 1 intF v' ((l.drop a).take (b-a)):=⟨by rw[hlen];exact hrow.1,by rw[hlen];exact hrow.2.imp id fun⟨g,cap,cur,a,_,c⟩=>⟨g,cap,cur,a,Nat.zero_le _,c⟩⟩;obtain⟨p',c',rfl⟩:=hrow0.shape;rw[hlen] at hrow0 hrow ⊢;exact r p' c' w' hrow0 ⟨hB.os,hB.tape,hB.output,hB.size,fun k hk _=>hB.block k hk⟩ fun j hj=>(World.ownsRow.lt hrow j hj).1
 rcases h.2 with⟨hv,hn⟩ | ⟨g,cap,cur,hv,hbb,hg,hnc,hcm,hcs,htake⟩
 ·have hl0:l=[]:=List.eq_nil_of_length_eq_zero hn;subst hl0;cases hv;have ea:a=0:=by simp at hb;omega
  have eb:b=0:=by simpa using hb
  subst ea eb;refine⟨(Any.slices_Clone_int_nil clnLays 0 0 w).mono ?_⟩;rintro e w' ⟨rfl,rfl⟩;exact r none 0 _ (ORow.nil _ _) (Mod.refl _ _) (fun j hj=>by simp[Value.ownBlock] at hj)
 ·cases hv;have ht:cur.toList.take l.length=l.map (Value.int .i64):=by rw[<-Q0F,<-htake,Nat.mul_one]
  unfold subA;by_cases e:c=a
  ·rw[if_pos e];refine fin 0 (c-a) g fun j hj=>?_;rw[hlen] at hj;omega
  ·rw[if_neg e,Nat.mul_one];show CS _ #[.slice (some ((zA g).add a)) (b-a) (c-a)] w R;rw[Q02,Nat.zero_add];refine fin a (c-a) g fun j hj=>?_;rw[hlen] at hj;have:=(holds_of_blockI hg ht (a+j) (by simp;omega)).1;rw[Nat.zero_add] at this;rw[this];have e1:((l.drop a).take (b-a))[j]? = l[a+j]?:=by rw[List.getElem?_take_of_lt hj,List.getElem?_drop]
   have e2:l[a+j]? = some (l[a+j]'(by omega)):=zzgge _;simp[List.getD,e1,e2]
end
end
section
open Go.RowKit
section
variable{X:Type}{f:X->List Value}{k:Nat}{w:World}{e:TypeId}{l:List X}
theorem ORow.cap{p:Option Addr}{n c:Nat}(h:ORow w e k f (.slice p n c) l):l.length<=c:=by
 rcases h.2 with⟨hv0,hn0⟩ | ⟨_,_,_,hv0,_,_,hnc0,_⟩
 ·omega
 ·have:=(Value.slice.inj hv0).2.2;omega
end
end
section
open Go.RowKit Go.Maps Go.Sort Thing
def gvH(hs:List Bool)(l:List Int):List Bool:=l.foldl Sf.giveH hs
section
variable{pb:Nat}{hs:List Bool}{ws:Nat->List Int}{o:Obj}
theorem Q3P{i k:Nat}(hi:i<8)(hk:k<=(ws i).length)(hl:(ws i).length<=1000):Tri 78 #[zP pb,.int .i64 (i:Int),.int .i64 (k:Int)] (poT pb hs ws)
  (fun v=>any fun pc:Option Addr × Nat=>only (v=.tuple #[.slice pc.1 ((ws i).length-k) pc.2,.int .i64 0]) (poT pb (gvH hs ((ws i).drop k)) (updW ws i ((ws i).take k)))):=by
 rintro w F R ⟨⟨sb,vs⟩,h⟩ r;have h:(blk pb (poO sb vs)*(shT sb hs*fam (poF vs ws))).P w F:=h;constructor;refine vc133.ok ?_;unfold vc133;refine poready _ _ ⟨_,rfl,?_⟩;rw[if_pos ⟨by omega,by omega,by omega⟩];have hb:=Q0b h rfl;have hfam:=Q3J (poF vs ws) ⟨i,hi⟩;obtain⟨Fw,hw,_⟩:=Q0e (A:=rowT (vs i) (ws i)) (Y:=blk pb (poO sb vs)*(shT sb hs*fam (Thing.upd (poF vs ws) ⟨i,hi⟩ emp))) h (by rw[hfam];show _*(_*(rowT (vs i) (ws i)*_))=_;ac_rfl);obtain⟨pw,cw,ew⟩:=hw.1.shape;have hcell:=po_cell hb hi;have hwr:=hw.1;rw[ew] at hcell hwr;have hcap:=ORow.cap hwr;refine Q00 rfl ⟨by omega,by omega,pw,_,cw,by rw[zztnc];exact hcell,Q0y (by omega) ⟨by omega,by omega,by omega,?_⟩⟩;rw[zztnc,zztnc];refine Q3v hwr (by omega) hk (Nat.le_refl _) fun p3 c3 w3 hr3 hE3 hn3=>⟨_,_,_,rfl,?_⟩;have ez:((ws i).drop k).take ((ws i).length-k)=(ws i).drop k:=List.take_of_length_le (by rw[List.length_drop];omega);rw[ez] at hr3;have hzl:((ws i).drop k).length=(ws i).length-k:=List.length_drop;obtain⟨h3,s3⟩:=Q0h (B:=rowT (.slice p3 ((ws i).length-k) c3) ((ws i).drop k)) h hE3 ⟨hr3,rfl⟩ hn3;refine⟨fun f i15 w4=>∃j:Nat,i15=(j:Int) /\ f+j=(ws i).length-k /\ ∃F4,(rowT (.slice p3 ((ws i).length-k) c3) ((ws i).drop k)*(blk pb (poO sb vs)*(shT sb (gvH hs (((ws i).drop k).take j))*fam (poF vs ws)))).P w4 F4 /\ Step F w F4 w4,⟨(ws i).length-k,0,rfl,rfl,_,h3,s3⟩,?_⟩;rintro f jv i15 w4 ⟨j,rfl,hf,F4,h4,s4⟩
 have hb4:=Q0b (b:=pb) (o:=poO sb vs) (C:=rowT (.slice p3 ((ws i).length-k) c3) ((ws i).drop k)*(shT sb (gvH hs (((ws i).drop k).take j))*fam (poF vs ws))) h4 (by ac_rfl);refine ifD (fun hj=>⟨by omega,by omega,?_⟩) (fun hj=>?_)
 ·have hj:j<((ws i).drop k).length:=by omega
  obtain⟨x,hx⟩:∃x,((ws i).drop k)[j]? = some x:=⟨_,zzgge hj⟩;obtain⟨Fr,hr4,_⟩:=Q0e h4 rfl;rw[zztnc];refine(ORow.rowAt Q0C hr4.1).int hx ⟨_,by rw[Q02];exact Q01 hb4 rfl,?_⟩;refine(t_sgive (sb:=sb) (hs:=gvH hs (((ws i).drop k).take j)) x).use (C:=rowT (.slice p3 ((ws i).length-k) c3) ((ws i).drop k)*(blk pb (poO sb vs)*fam (poF vs ws))) h4 (by ac_rfl) fun v w5 F5 h5 s5=>?_;rw[Q06] at h5;obtain⟨rfl,h5⟩:=h5;have etk:gvH hs (((ws i).drop k).take (j+1))=Sf.giveH (gvH hs (((ws i).drop k).take j)) x:=by
   unfold gvH;rw[List.take_add_one,hx,List.foldl_append];rfl
  refine⟨_,rfl,f-1,by omega,j+1,by rw[Q03 (by omega) (by omega)];omega,by omega,F5,?_,s4.trans s5⟩;rw[etk];exact re h5 (by ac_rfl)
 ·have ej:((ws i).drop k).take j=(ws i).drop k:=List.take_of_length_le (by omega);rw[ej] at h4;rintro w5 rfl;have hE5:=Ext.drew w4;have h5:=Thing.grow h4 hE5;obtain⟨Fv,hv5,_⟩:=Q0e (A:=rowT (vs i) (ws i)) (Y:=rowT (.slice p3 ((ws i).length-k) c3) ((ws i).drop k)*(blk pb (poO sb vs)*(shT sb (gvH hs ((ws i).drop k))*fam (Thing.upd (poF vs ws) ⟨i,hi⟩ emp)))) h5 (by rw[hfam];show _*(_*(_*(rowT (vs i) (ws i)*_)))=_;ac_rfl);have hwr5:=hv5.1;rw[ew] at hwr5;refine⟨by omega,by omega,by omega,rfl,?_⟩;refine Q3v hwr5 (by omega) (Nat.zero_le k) hk fun p6 c6 w6 hr6 hE6 hn6=>⟨_,_,_,rfl,by omega,by omega,rfl,?_⟩;rw[Nat.sub_zero] at hr6 hn6 ⊢;rw[List.drop_zero] at hr6;obtain⟨h6,s6⟩:=Q0h (B:=rowT (.slice p6 k c6) ((ws i).take k)) h5 hE6 ⟨by
   have e:((ws i).take k).length=k:=by rw[zzlnt];omega
   exact hr6,rfl⟩ hn6
  rw[Q02,Q02,Nat.zero_add,zztnc];refine Q0J (C:=rowT (.slice p6 k c6) ((ws i).take k)*(rowT (.slice p3 ((ws i).length-k) c3) ((ws i).drop k)*(shT sb (gvH hs ((ws i).drop k))*fam (poF vs ws)))) h6 (by ac_rfl) (by simp;omega) fun w7 F7 h7 s7=>?_;rw[poO_set sb vs i hi,hfam] at h7;have h8:((rowT (vs i) (ws i)*rowT (.slice p3 ((ws i).length-k) c3) ((ws i).drop k))*(blk pb (poO sb (updV vs i (.slice p6 k c6)))*(shT sb (gvH hs ((ws i).drop k))*fam (poF (updV vs i (.slice p6 k c6)) (updW ws i ((ws i).take k)))))).P w7 F7:=re h7 (by
   rw[poF_upd vs ws ⟨i,hi⟩,Q0Z (poF vs ws) ⟨i,hi⟩ (rowT (.slice p6 k c6) ((ws i).take k))];show _*(_*(_*(_*(rowT (vs i) (ws i)*_))))=_;ac_rfl)
  obtain⟨F8,h9,hs9⟩:=Q07 h8;exact r _ w7 F8 ⟨(p3,c3),rfl,(sb,_),h9⟩ ((((s4.trans (Step.ext hE5)).trans s6).trans s7).sub hs9)
end
end
section
open Go.RowKit Go.Maps Go.Sort Thing
section
variable{w:World}{R:VW}
theorem t_snew{n:Nat}(hn:n<=65536)(r:∀p w' F,(shT p (List.replicate n false)).P w' F->Ext w w'->(∀j,F j->w.heap.size<=j)->R (.tuple #[zP p,.int .i64 0]) w') :
  CS 107 #[.int .i64 (n:Int)] w R:=by
 refine .of (Sf.new_any w n) ?_;rintro v w' (⟨no,_⟩ | ⟨_,_,p,gb,rfl,h,hE,hf⟩)
 ·exact absurd ⟨by omega,by omega⟩ no
 ·rw[zztnc] at h;exact r p w' _ ⟨gb,h,rfl⟩ hE hf
theorem fam_nil(w:World):(fam (poF (fun _=>.slice none 0 0) (fun _=>[]))).P w (fun _=>False):=
 ⟨fun _ _=>False,fun i=>⟨ORow.nil _ _,funext fun k=>propext (by simp[Value.ownBlock])⟩,fun i j k h=>h.elim,funext fun k=>propext (by simp)⟩
theorem t_ponew{n:Nat}(h1:1<=n)(h2:n<=32)(r:∀p w' F,(poT p (List.replicate n false) (fun _=>[])).P w' F->Ext w w'->(∀j,F j->w.heap.size<=j)->R (.tuple #[zP p,.int .i64 0]) w') :
  CS 67 #[.int .i64 (n:Int)] w R:=by
 constructor;refine vc128.ok ?_;unfold vc128;refine Q0y (by omega) (Q0y (by omega) (t_snew (by omega) fun sb w1 F1 hs hE1 hn1=>⟨_,_,rfl,?_⟩));refine Q0l (X:=shT sb (List.replicate n false)*fam (poF (fun _=>.slice none 0 0) (fun _=>[]))) (F:=F1) ⟨F1,_,hs,fam_nil w1,fun j _ q=>q,funext fun j=>propext (by simp)⟩ fun b w2 F2 h3 s3 hb=>?_;refine r b w2 F2 ⟨(sb,fun _=>.slice none 0 0),h3⟩ (hE1.new s3.1 hn1) fun j hj=>(s3.2 j hj).elim (hn1 j) (fun q=>Nat.le_trans hE1.size q)
theorem t_podrop{pb:Nat}{hs:List Bool}{ws:Nat->List Int}{i:Nat}(hi:i<8)(hl:(ws i).length<=1000):Tri 81 #[zP pb,.int .i64 (i:Int)] (poT pb hs ws)
  (fun v=>any fun pc:Option Addr × Nat=>only (v=.tuple #[.slice pc.1 (ws i).length pc.2,.int .i64 0]) (poT pb (gvH hs (ws i)) (updW ws i []))):=by
 intro w F R h r;constructor;refine vc136.ok ?_;unfold vc136;refine Q3P (k:=0) hi (Nat.zero_le _) hl w F _ h fun v w' F' h' s=>?_;obtain⟨⟨p,c⟩,rfl,h'⟩:=h';rw[Nat.sub_zero];exact⟨_,_,_,_,rfl,r _ w' F' ⟨(p,c),rfl,h'⟩ s⟩
end
end
section
open Go.RowKit Go.Maps Go.Sort Thing
def fO(n:Nat)(T:TypeId)(vs:Nat->Value):Obj:=.cells (Array.ofFn (n:=n) fun i=>vs i.val) T (0,0)
theorem Q39{w:World}{b n:Nat}{T:TypeId}{vs:Nat->Value}(h:w.heap[b]? = some (fO n T vs)){i:Nat}(hi:i<n):w.cell? ⟨b,i,none⟩=some (vs i):=
 Q01 h (by simp[hi])
theorem fO_set(n:Nat)(vs:Nat->Value)(i:Nat)(hi:i<n)(v:Value):setAt (Array.ofFn (n:=n) fun j=>vs j.val) i [v]=Array.ofFn (n:=n) fun j=>updV vs i v j.val:=by
 simp only[setAt];apply Array.ext
 ·simp
 ·intro j h1 h2;rw[Array.getElem_setIfInBounds (by simpa using h1),Array.getElem_ofFn,Array.getElem_ofFn];unfold updV;by_cases e:i=j
  ·subst e;simp
  ·rw[if_neg e,if_neg (fun q=>e q.symm)]
theorem Q1w{w:World}{F:Nat->Prop}{X C:Thing}{b n i:Nat}{T:TypeId}{vs:Nat->Value}{v:Value}{K:World->Prop}(h:X.P w F)(e:X=blk b (fO n T vs)*C)(hi:i<n)
  (k:∀w1 F',(blk b (fO n T (updV vs i v))*C).P w1 F'->Step F w F' w1->K w1):WrC w (Addr.mk b i none) 1 /\ ∀w1,w1=wr w (Addr.mk b i none) [v]->K w1:=by
 refine Q0J (C:=C) h e (by simp;omega) fun w1 F' h1 s1=>k w1 F' ?_ s1;rw[fO_set n vs i hi v] at h1;exact h1
structure Sv where
 o:Obj
 ap:Nat
 mb:Nat
 nC:Nat
 C:Nat
 n:Nat
structure Ax where
 bs:List UInt8
 ts:List Tch
 cs:List Bool
def axT(s:Sv)(A:Ax):Thing:=tabT s.o*(arT s.ap A.bs A.ts*coT s.mb s.nC s.C A.cs)
structure Pg where
 base:Nat
 kind:Nat
 q:Pq
structure Hp where
 win:List Int
 T:Tb
 sl:Nat->List Bool
 ln:Nat->List Int
 S:Int->Option Pg
structure Hl where
 wv:Value
 tb:Nat
 sp:Nat->Nat
 lp:Nat->Nat
 mp:Nat
 pp:Int->Nat
def updF{X:Type}(f:Nat->X)(i:Nat)(x:X):Nat->X:=fun j=>if j=i then x else f j
def updI{X:Type}(f:Int->X)(i:Int)(x:X):Int->X:=fun j=>if j=i then x else f j
theorem Q0S{X:Type}(f:Nat->X)(i:Nat):updF f i (f i)=f:=by
 funext j;unfold updF;split
 ·rename_i e;rw[e]
 ·rfl
theorem updI_self{X:Type}(f:Int->X)(i:Int):updI f i (f i)=f:=by
 funext j;unfold updI;split
 ·rename_i e;rw[e]
 ·rfl
def hvs(s:Sv)(x:Hl)(i:Nat):Value:=
 if i=0 then .pointer (some ⟨s.ap,0,none⟩)else if i=1 then .pointer (some ⟨s.mb,0,none⟩)else if i=2 then x.wv else if i=3 then .pointer (some ⟨x.tb,0,none⟩)
 else if i<28 then .pointer (some ⟨x.sp (i-4),0,none⟩)else if i<36 then .pointer (some ⟨x.lp (i-28),0,none⟩)else .map (some x.mp)
abbrev hpO(s:Sv)(x:Hl):Obj:=fO 37 149 (hvs s x)
def slF(sp:Nat->Nat)(sl:Nat->List Bool):Fin 24->Thing:=fun k=>shT (sp k.val) (sl k.val)
def lnF8(lp:Nat->Nat)(ln:Nat->List Int):Fin 8->Thing:=fun k=>liT (lp k.val) (ln k.val)
def smF(s:Sv)(pp:Int->Nat)(S:Int->Option Pg):Int->Thing:=fun v=>match S v with | some g=>pgT s.n (pp v) s.ap g.base g.kind g.q | none=>emp
def smM(pp:Int->Nat)(S:Int->Option Pg):Int->Option Value:=fun v=>(S v).map fun _=>.pointer (some ⟨pp v,0,none⟩)
def mpT(K:TypeId)(mp:Nat)(m:Int->Option Value):Thing where
 P w F:=∃l:List Int,IMap w Tryz.prog K .i64 mp m l.length /\ l.Nodup /\ (∀k,k ∈ l ↔ (m k).isSome=true) /\ F=(· = mp)
 keep:=by
  rintro w w' F G ⟨l,h,a,b,rfl⟩ hm hd;exact⟨l,h.keep hm (hd mp rfl),a,b,rfl⟩
 lt:=by
  rintro w F ⟨l,h,a,b,rfl⟩ j rfl;exact h.lt
def hpX(s:Sv)(hb:Nat)(x:Hl)(H:Hp):Thing:=
 blk hb (hpO s x)*(rowT x.wv H.win*(tbT x.tb H.T*(fam (slF x.sp H.sl)*(fam (lnF8 x.lp H.ln)*(mpT 3 x.mp (smM x.pp H.S)*fam (smF s x.pp H.S))))))
section
variable{s:Sv}{hb:Nat}{x:Hl}{H:Hp}
def hpBlk(s:Sv)(x:Hl)(H:Hp):Thing:=rowT x.wv H.win*(tbT x.tb H.T*(fam (slF x.sp H.sl)*(fam (lnF8 x.lp H.ln)*(mpT 3 x.mp (smM x.pp H.S)*fam (smF s x.pp H.S)))))
theorem hp_blk:hpX s hb x H=blk hb (hpO s x)*hpBlk s x H:=rfl
def hpRow(s:Sv)(hb:Nat)(x:Hl)(H:Hp):Thing:=blk hb (hpO s x)*(tbT x.tb H.T*(fam (slF x.sp H.sl)*(fam (lnF8 x.lp H.ln)*(mpT 3 x.mp (smM x.pp H.S)*fam (smF s x.pp H.S)))))
theorem hp_row:hpX s hb x H=rowT x.wv H.win*hpRow s hb x H:=by unfold hpX hpRow;ac_rfl
def hpTb(s:Sv)(hb:Nat)(x:Hl)(H:Hp):Thing:=blk hb (hpO s x)*(rowT x.wv H.win*(fam (slF x.sp H.sl)*(fam (lnF8 x.lp H.ln)*(mpT 3 x.mp (smM x.pp H.S)*fam (smF s x.pp H.S)))))
theorem hp_tb(T:Tb):hpX s hb x {H with T:=T}=tbT x.tb T*hpTb s hb x H:=by unfold hpX hpTb;ac_rfl
def hpSl(s:Sv)(hb:Nat)(x:Hl)(H:Hp)(k:Fin 24):Thing:=fam (Thing.upd (slF x.sp H.sl) k emp)*(blk hb (hpO s x)*(rowT x.wv H.win*(tbT x.tb H.T*(fam (lnF8 x.lp H.ln)*(mpT 3 x.mp (smM x.pp H.S)*fam (smF s x.pp H.S))))))
theorem slF_upd(sp:Nat->Nat)(sl:Nat->List Bool)(k:Fin 24)(hs:List Bool):slF sp (updF sl k.val hs)=Thing.upd (slF sp sl) k (shT (sp k.val) hs):=by
 funext j;unfold slF updF Thing.upd;by_cases e:j=k
 ·subst e;simp
 ·have:j.val ≠ k.val:=fun q=>e (Fin.ext q);simp[e,this]
theorem hp_sl(k:Fin 24)(hs:List Bool):hpX s hb x {H with sl:=updF H.sl k.val hs}=shT (x.sp k.val) hs*hpSl s hb x H k:=by
 unfold hpX hpSl;show _*(_*(_*(fam (slF x.sp (updF H.sl k.val hs))*_)))=_;rw[slF_upd,Q0Z (slF x.sp H.sl) k (shT (x.sp k.val) hs)];ac_rfl
theorem hp_sl0(k:Fin 24):hpX s hb x H=shT (x.sp k.val) (H.sl k.val)*hpSl s hb x H k:=by
 have:=hp_sl (s:=s) (hb:=hb) (x:=x) (H:=H) k (H.sl k.val);rw[Q0S] at this;exact this
def hpLn(s:Sv)(hb:Nat)(x:Hl)(H:Hp)(k:Fin 8):Thing:=fam (Thing.upd (lnF8 x.lp H.ln) k emp)*(blk hb (hpO s x)*(rowT x.wv H.win*(tbT x.tb H.T*(fam (slF x.sp H.sl)*(mpT 3 x.mp (smM x.pp H.S)*fam (smF s x.pp H.S))))))
theorem lnF_upd(lp:Nat->Nat)(ln:Nat->List Int)(k:Fin 8)(l:List Int):lnF8 lp (updF ln k.val l)=Thing.upd (lnF8 lp ln) k (liT (lp k.val) l):=by
 funext j;unfold lnF8 updF Thing.upd;by_cases e:j=k
 ·subst e;simp
 ·have:j.val ≠ k.val:=fun q=>e (Fin.ext q);simp[e,this]
theorem hp_ln(k:Fin 8)(l:List Int):hpX s hb x {H with ln:=updF H.ln k.val l}=liT (x.lp k.val) l*hpLn s hb x H k:=by
 unfold hpX hpLn;show _*(_*(_*(_*(fam (lnF8 x.lp (updF H.ln k.val l))*_))))=_;rw[lnF_upd,Q0Z (lnF8 x.lp H.ln) k (liT (x.lp k.val) l)];ac_rfl
theorem Q3N(k:Fin 8):hpX s hb x H=liT (x.lp k.val) (H.ln k.val)*hpLn s hb x H k:=by
 have:=hp_ln (s:=s) (hb:=hb) (x:=x) (H:=H) k (H.ln k.val);rw[Q0S] at this;exact this
def hpPg(s:Sv)(hb:Nat)(x:Hl)(H:Hp)(v:Int):Thing:=fam (Thing.upd (smF s x.pp H.S) v emp)*(blk hb (hpO s x)*(rowT x.wv H.win*(tbT x.tb H.T*(fam (slF x.sp H.sl)*(fam (lnF8 x.lp H.ln)*mpT 3 x.mp (smM x.pp H.S))))))
theorem smF_upd(pp:Int->Nat)(S:Int->Option Pg)(v:Int)(g:Pg):smF s pp (updI S v (some g))=Thing.upd (smF s pp S) v (pgT s.n (pp v) s.ap g.base g.kind g.q):=by
 funext j;unfold smF updI Thing.upd;by_cases e:j=v
 ·subst e;simp
 ·simp[e]
theorem smM_upd(pp:Int->Nat)(S:Int->Option Pg)(v:Int)(g g':Pg)(h:S v=some g):smM pp (updI S v (some g'))=smM pp S:=by
 funext j;unfold smM updI;by_cases e:j=v
 ·subst e;simp[h]
 ·simp[e]
theorem hp_pg{v:Int}{g:Pg}(h:H.S v=some g)(g':Pg):hpX s hb x {H with S:=updI H.S v (some g')}=pgT s.n (x.pp v) s.ap g'.base g'.kind g'.q*hpPg s hb x H v:=by
 unfold hpX hpPg;show _*(_*(_*(_*(_*(mpT _ x.mp (smM x.pp (updI H.S v (some g')))*fam (smF s x.pp (updI H.S v (some g'))))))))=_;rw[smM_upd _ _ _ g g' h,smF_upd,Q0Z (smF s x.pp H.S) v (pgT s.n (x.pp v) s.ap g'.base g'.kind g'.q)];ac_rfl
theorem Q2A{v:Int}{g:Pg}(h:H.S v=some g):hpX s hb x H=pgT s.n (x.pp v) s.ap g.base g.kind g.q*hpPg s hb x H v:=by
 have:=hp_pg (s:=s) (hb:=hb) (x:=x) (H:=H) h g;rw[<-h,updI_self] at this;exact this
variable{w:World}{F:Nat->Prop}{X C:Thing}
theorem hc(h:X.P w F)(e:X=hpX s hb x H*C){i:Nat}(hi:i<37):w.cell? ⟨hb,i,none⟩=some (hvs s x i):=
 Q39 (Q0b h (show X=blk hb (hpO s x)*(hpBlk s x H*C) by rw[e,hp_blk,Thing.mul_assoc])) hi
theorem hc_ar(h:X.P w F)(e:X=hpX s hb x H*C):w.cell? ((zA hb).add 0)=some (.pointer (some ⟨s.ap,0,none⟩)):=by rw[Q02];exact hc h e (by omega)
theorem hc_mb(h:X.P w F)(e:X=hpX s hb x H*C):w.cell? ((zA hb).add 1)=some (.pointer (some ⟨s.mb,0,none⟩)):=by rw[Q02];exact hc h e (by omega)
theorem hc_wv(h:X.P w F)(e:X=hpX s hb x H*C):w.cell? ((zA hb).add 2)=some x.wv:=by rw[Q02];exact hc h e (by omega)
theorem Q3y(h:X.P w F)(e:X=hpX s hb x H*C):w.cell? ((zA hb).add 3)=some (.pointer (some ⟨x.tb,0,none⟩)):=by rw[Q02];exact hc h e (by omega)
theorem hc_mp(h:X.P w F)(e:X=hpX s hb x H*C):w.cell? ((zA hb).add 36)=some (.map (some x.mp)):=by rw[Q02];exact hc h e (by omega)
theorem hc_sl(h:X.P w F)(e:X=hpX s hb x H*C){k:Nat}(hk:k<24):w.cell? (((zA hb).add 4).add k)=some (.pointer (some ⟨x.sp k,0,none⟩)):=by
 rw[Q02,Q02,hc h e (by omega)];unfold hvs;rw[if_neg (by omega),if_neg (by omega),if_neg (by omega),if_neg (by omega),if_pos (by omega),show 0+4+k-4=k by omega]
theorem hc_ln(h:X.P w F)(e:X=hpX s hb x H*C){k:Nat}(hk:k<8):w.cell? (((zA hb).add 28).add k)=some (.pointer (some ⟨x.lp k,0,none⟩)):=by
 rw[Q02,Q02,hc h e (by omega)];unfold hvs;rw[if_neg (by omega),if_neg (by omega),if_neg (by omega),if_neg (by omega),if_neg (by omega),if_pos (by omega),show 0+28+k-28=k by omega]
end
end
section
open Go.RowKit Go.Maps Go.Sort Thing
def locN(k s:Nat):Nat:=256*(k+1)+s*pagN k
theorem Q1c{k s:Nat}(hk:k<24)(hs:s<sltN k):locN k s+pagN k<=256*(k+1)+256 /\ 256*(k+1)<=locN k s:=by
 obtain⟨f1,f2,f3,f4,f5⟩:=Q0H hk;have a2:(s+1)*pagN k<=sltN k*pagN k:=zzmlr _ hs;rw[Nat.add_mul,Nat.one_mul] at a2;unfold locN;omega
theorem adr_loc(k s:Nat):adrN k s 0 / 512=locN k s:=by
 unfold adrN locN;rw[Nat.zero_mul,Nat.add_zero,<-Nat.mul_assoc];omega
section
variable{w:World}{R:VW}
theorem clocal{k sn:Nat}(hk:k<24)(hs:sn<sltN k)(r:R (.int .i64 (locN k sn:Int)) w):CS 208 #[.int .i64 (k:Int),.int .i64 (sn:Int)] w R:=by
 constructor;refine vc189.ok ?_;unfold vc189;refine cplace hk _ _ ⟨_,_,rfl,by decide,?_⟩;obtain⟨f1,f2,f3,f4,f5⟩:=Q0H hk;rw[if_pos (show InB k (sn:Int) 0 from⟨by omega,by omega,by omega,by omega⟩),zztnc,show(0:Int).toNat=0 from rfl];have e:(adrN k sn 0:Int).tdiv 512=(locN k sn:Int):=by
  rw[show(512:Int)=((512:Nat):Int)from rfl,<-Int.ofNat_tdiv,adr_loc]
 obtain⟨l1,l2⟩:=Q1c hk hs;rw[e,Q03 (by omega) (by omega)];exact r
end
def tkC(C:Nat)(win:List Int)(cs:List Bool):Nat->List Bool
 | 0=>cs
 | i+1=>Cl.mTakeH (tkC C win cs i) C win
def tkT(C:Nat)(win:List Int)(cs:List Bool)(T:Tb)(v0:Int):Nat->Tb
 | 0=>T
 | i+1=>mapT (tkT C win cs T v0 i) (v0+i) (Cl.mTakeI (tkC C win cs i) C win)
theorem tkT_len(C:Nat)(win:List Int)(cs:List Bool)(T:Tb)(v0:Int):∀i,(tkT C win cs T v0 i).length<=T.length+i
 | 0=>Nat.le_refl _
 | i+1=>by
  have:=mapT_len (tkT C win cs T v0 i) (v0+i) (Cl.mTakeI (tkC C win cs i) C win);have:=tkT_len C win cs T v0 i;rw[tkT];omega
def hoB(s:Sv)(A:Ax)(H:Hp)(k:Nat):Bool:=decide (0<=Sf.lowI (H.sl k)) && decide (pagN k<=Cl.cnt A.cs s.C H.win)
def hoI(s:Sv)(A:Ax)(H:Hp)(k:Nat):Int:=if hoB s A H k=true then Sf.lowI (H.sl k)else 0
def hoA(s:Sv)(A:Ax)(H:Hp)(k:Nat):Ax:=if hoB s A H k=true then {A with cs:=tkC s.C H.win A.cs (pagN k)} else A
def hoH(s:Sv)(A:Ax)(H:Hp)(k:Nat):Hp:=
 if hoB s A H k=true then {H with sl:=updF H.sl k (Sf.takeAtH (H.sl k) (Sf.lowI (H.sl k))),T:=tkT s.C H.win A.cs H.T (locN k (Sf.lowI (H.sl k)).toNat) (pagN k)} else H
theorem low_lt{hs:List Bool}(h:0<=Sf.lowI hs):(Sf.lowI hs).toNat<hs.length:=by
 unfold Sf.lowI at h ⊢;cases e:hs.findIdx? (fun b=>!b)with
 | none=>rw[e] at h;simp at h
 | some j=>exact(List.findIdx?_eq_some_iff_getElem.1 e).1
section
variable{s:Sv}{hb:Nat}{x:Hl}{H:Hp}{A:Ax}{w:World}{F:Nat->Prop}{X C:Thing}
theorem hp_wv(h:X.P w F)(e:X=hpX s hb x H*C):∃p c,x.wv=.slice p H.win.length c /\ ORow w 3 1 intF (.slice p H.win.length c) H.win:=by
 obtain⟨F1,h1,_⟩:=Q0e (A:=rowT x.wv H.win) (Y:=hpRow s hb x H*C) h (by rw[e,hp_row];ac_rfl);obtain⟨p,c,ew⟩:=h1.1.shape;exact⟨p,c,ew,by rw[<-ew];exact h1.1⟩
theorem ax_tab(h:X.P w F)(e:X=axT s A*C):Sf.Tab w:=tab_of (Y:=(arT s.ap A.bs A.ts*coT s.mb s.nC s.C A.cs)*C) h (by rw[e];unfold axT;ac_rfl)
theorem t_hhold{k:Nat}(hk:k<24)(hsl:(H.sl k).length=sltN k)(hT:H.T.length<900000)(hwl:H.win.length<=100000) :
  Tri 228 #[zP hb,.int .i64 (k:Int)] (axT s A*hpX s hb x H)
   (fun v=>only (v=.tuple #[.int .i64 (hoI s A H k),.bool (hoB s A H k)]) (axT s (hoA s A H k)*hpX s hb x (hoH s A H k))):=by
 intro w F R h r;have h:(hpX s hb x H*axT s A).P w F:=re h (zztmc _ _);constructor;refine vc197.ok ?_;unfold vc197;have hp16:=Q1n hk;have no:hoB s A H k=false->∀w',Ext w w'->R (.tuple #[.int .i64 0,.bool false]) w':=fun q w' hE=>by
  have:=r (.tuple #[.int .i64 0,.bool false]) w' F ⟨by rw[hoI,q];rfl,by
   have e1:hoA s A H k=A:=by unfold hoA;rw[q];rfl
   have e2:hoH s A H k=H:=by unfold hoH;rw[q];rfl
   rw[e1,e2];exact Thing.grow (re h (zztmc _ _)) hE⟩ (Step.ext hE)
  exact this
 obtain⟨F1,hs1,_⟩:=Q0e (A:=shT (x.sp k) (H.sl k)) (Y:=hpSl s hb x H ⟨k,hk⟩*axT s A) h (by rw[hp_sl0 (k:=⟨k,hk⟩)];ac_rfl);refine⟨by omega,by omega,_,by rw[zztnc];exact hc_sl h rfl hk,t_slow (ax_tab h (zztmc _ _)) hs1 ⟨_,rfl,cpag k ⟨_,rfl,?_⟩⟩⟩;rw[if_pos ⟨by omega,by omega⟩,zztnc];rintro w1 rfl;have hE1:=Ext.drew w;have h1:=Thing.grow h hE1;refine ifD (fun q=>⟨rfl,no (by unfold hoB;rw[zzdcf (by omega)];rfl) _ hE1⟩) (fun q=>?_);obtain⟨p,c,ew,hr1⟩:=hp_wv h1 rfl;obtain⟨F2,hc1,_⟩:=Q0e (A:=coT s.mb s.nC s.C A.cs) (Y:=hpX s hb x H*(tabT s.o*arT s.ap A.bs A.ts)) h1 (by unfold axT;ac_rfl);refine⟨_,hc_mb h1 rfl,p,_,c,by rw[<-ew];exact hc_wv h1 rfl,t_cfree hc1 hr1 (by simp only[maxLen];omega) fun w2 hE2=>⟨_,rfl,rfl,ifD (fun q2=>no (by unfold hoB;rw[zzdcf (by omega:¬pagN k<=_),Bool.and_false]) _ (hE1.trans hE2)) (fun q2=>?_)⟩⟩;have h2:=Thing.grow h1 hE2;have hB:hoB s A H k=true:=by unfold hoB;rw[decide_eq_true (by omega),decide_eq_true (by omega)];rfl
 have hlow:=low_lt (hs:=H.sl k) (by omega);rw[hsl] at hlow;obtain⟨m,hm⟩:=zzeoz (show 0<=Sf.lowI (H.sl k) by omega);have hms:m<sltN k:=by rw[hm] at hlow;simpa using hlow
 obtain⟨l1,l2⟩:=Q1c hk hms;have eI:hoI s A H k=(m:Int):=by unfold hoI;rw[hB,if_pos rfl,hm]
 have eA:hoA s A H k={A with cs:=tkC s.C H.win A.cs (pagN k)}:=by unfold hoA;rw[hB,if_pos rfl]
 have eH:hoH s A H k={H with sl:=updF H.sl k (Sf.takeAtH (H.sl k) (m:Int)),T:=tkT s.C H.win A.cs H.T (locN k m) (pagN k)}:=by unfold hoH;rw[hB,if_pos rfl,hm,zztnc]
 rw[eI,eA,eH,hB] at r;rw[hm];refine⟨by omega,by omega,_,hc_sl h2 rfl hk,(t_stakeAt (m:Int)).use (C:=hpSl s hb x H ⟨k,hk⟩*axT s A) h2 (by rw[hp_sl0 (k:=⟨k,hk⟩)];ac_rfl) fun v w3 F3 h3 s3=>?_⟩;rw[Q06] at h3;obtain⟨rfl,h3⟩:=h3;refine⟨_,rfl,?_⟩;have h3:(hpX s hb x {H with sl:=updF H.sl k (Sf.takeAtH (H.sl k) (m:Int))}*axT s A).P w3 F3:=re h3 (by rw[hp_sl (k:=⟨k,hk⟩)];ac_rfl);have s3:Step F w F3 w3:=((Step.ext hE1).trans (Step.ext hE2)).trans s3;generalize eH1:{H with sl:=updF H.sl k (Sf.takeAtH (H.sl k) (m:Int))}=H1 at h3;have eT:H1.T=H.T:=by subst eH1;rfl
 have eW:H1.win=H.win:=by subst eH1;rfl
 have r:∀v w' F',v=.tuple #[.int .i64 (m:Int),.bool true]->(axT s {A with cs:=tkC s.C H.win A.cs (pagN k)}*hpX s hb x {H1 with T:=tkT s.C H.win A.cs H.T (locN k m) (pagN k)}).P w' F'->Step F w F' w'->R v w':=fun v w' F' e p st=>r v w' F' ⟨e,by subst eH1;exact p⟩ st;refine⟨fun f i w4=>∃j:Nat,i=(j:Int) /\ f+j=pagN k /\ ∃F4,(axT s {A with cs:=tkC s.C H.win A.cs j}*hpX s hb x {H1 with T:=tkT s.C H.win A.cs H.T (locN k m) j}).P w4 F4 /\ Step F w F4 w4,⟨pagN k,0,rfl,rfl,F3,?_,s3⟩,?_⟩
 ·have:({H1 with T:=tkT s.C H.win A.cs H.T (locN k m) 0}:Hp)=H1:=by rw[tkT,<-eT]
  rw[this];exact re h3 (zztmc _ _)
 rintro f jv i w4 ⟨j,rfl,hf,F4,h4,s4⟩;refine ifD (fun hj=>?_) (fun hj=>?_)
 ·rintro w5 rfl;have hE5:=Ext.drew w4;have h5:=Thing.grow h4 hE5;generalize eHj:({H1 with T:=tkT s.C H.win A.cs H.T (locN k m) j}:Hp)=Hj at h5;have eWj:Hj.win=H.win:=by rw[<-eHj];exact eW
  have h5:(hpX s hb x Hj*axT s {A with cs:=tkC s.C H.win A.cs j}).P w4.drew F4:=re h5 (zztmc _ _);obtain⟨p5,c5,ew5,hr5⟩:=hp_wv h5 rfl;refine⟨_,hc_mb h5 rfl,p5,_,c5,by rw[<-ew5];exact hc_wv h5 rfl,?_⟩;refine(t_ctake (o:=s.o) (mb:=s.mb) (n:=s.nC) (C:=s.C) (hs:=tkC s.C H.win A.cs j) (p:=p5) (c:=c5) (l:=Hj.win) (by rw[eWj];simp only[maxLen];omega)).use (C:=hpRow s hb x Hj*arT s.ap A.bs A.ts) h5 (by rw[hp_row,ew5];unfold axT;ac_rfl) fun v w6 F6 h6 s6=>?_;rw[Q06] at h6;obtain⟨rfl,h6⟩:=h6;refine⟨_,_,rfl,?_⟩;rintro w7 rfl;have hE7:=Ext.drew w6;have h7:=Thing.grow h6 hE7;rw[eWj] at h7;have h7:(hpX s hb x Hj*axT s {A with cs:=tkC s.C H.win A.cs (j+1)}).P w6.drew F6:=re h7 (by rw[hp_row,ew5,eWj];unfold axT;show _*coT s.mb s.nC s.C (Cl.mTakeH (tkC s.C H.win A.cs j) s.C H.win)*_=_*(_*(_*coT s.mb s.nC s.C (Cl.mTakeH (tkC s.C H.win A.cs j) s.C H.win)));ac_rfl);refine⟨_,Q3y h7 rfl,clocal hk hms ⟨_,rfl,⟨_,Q3y h7 rfl,rfl⟩,?_⟩⟩;rw[Q03 (n:=(locN k m:Int)+(j:Int)) (by omega) (by omega),eWj];have hTl:=tkT_len s.C H.win A.cs H.T (locN k m) j;refine(t_tmap (tb:=x.tb) (T:=tkT s.C H.win A.cs H.T (locN k m) j) (by omega) ((locN k m:Int)+(j:Int)) (Cl.mTakeI (tkC s.C H.win A.cs j) s.C H.win)).use (C:=hpTb s hb x H1*axT s {A with cs:=tkC s.C H.win A.cs (j+1)}) h7 (by rw[<-eHj,hp_tb];ac_rfl) fun v w8 F8 h8 s8=>?_;rw[Q06] at h8;obtain⟨rfl,h8⟩:=h8
  refine⟨_,rfl,f-1,by omega,j+1,by rw[Q03 (by omega) (by omega)];omega,by omega,F8,?_,(((s4.trans (Step.ext hE5)).trans s6).trans (Step.ext hE7)).trans s8⟩;rw[hp_tb (H:=H1) (T:=tkT s.C H.win A.cs H.T (locN k m) (j+1))];exact re h8 (by show tbT x.tb (mapT _ _ _)*_=_*(tbT x.tb (mapT _ _ _)*_);ac_rfl)
 ·have ej:j=pagN k:=by omega
  subst ej;exact r _ w4 F4 rfl h4 s4
end
end
section
open Go.RowKit Go.Maps Go.Sort Thing
def leA(A:Ax)(T:Tb)(v:Int):Ax:=match fndO T v with
 | some y=>{bs:=putAt A.bs (y.2.toNat*512) (List.replicate 512 0),ts:=A.ts++[(((y.2.toNat*512:Nat):Int),512,true)],cs:=Sf.giveH A.cs y.2}
 | none=>A
theorem leA_len(A:Ax)(T:Tb)(v:Int)(hT:∀y ∈ T,y.2.toNat*512+512<=A.bs.length):(leA A T v).bs.length=A.bs.length:=by
 unfold leA;cases e:fndO T v with
 | none=>rfl
 | some y=>exact Q0j (by rw[zzlrp];exact hT y (Q0a e).1)
theorem leA_ts(A:Ax)(T:Tb)(v:Int):(leA A T v).ts.length<=A.ts.length+1:=by
 unfold leA;cases e:fndO T v with
 | none=>simp
 | some y=>simp
def rmN(T:Tb)(v0:Int):Nat->Tb
 | 0=>T
 | i+1=>rmT (rmN T v0 i) (v0+i)
def reA(A:Ax)(T:Tb)(v0:Int):Nat->Ax
 | 0=>A
 | i+1=>leA (reA A T v0 i) (rmN T v0 i) (v0+i)
theorem rmN_sub(T:Tb)(v0:Int):∀i,∀y ∈ rmN T v0 i,y ∈ T
 | 0,y,h=>h
 | i+1,y,h=>rmN_sub T v0 i y (List.mem_filter.1 h).1
theorem reA_len(A:Ax)(T:Tb)(v0:Int)(hT:∀y ∈ T,y.2.toNat*512+512<=A.bs.length):∀i,(reA A T v0 i).bs.length=A.bs.length
 | 0=>rfl
 | i+1=>by
  have:=reA_len A T v0 hT i;rw[reA,leA_len _ _ _ (fun y hy=>by rw[this];exact hT y (rmN_sub T v0 i y hy)),this]
theorem reA_ts(A:Ax)(T:Tb)(v0:Int):∀i,(reA A T v0 i).ts.length<=A.ts.length+i
 | 0=>Nat.le_refl _
 | i+1=>by
  have:=leA_ts (reA A T v0 i) (rmN T v0 i) (v0+i);have:=reA_ts A T v0 i;rw[reA];omega
section
variable{s:Sv}{hb:Nat}{x:Hl}{H:Hp}{A:Ax}{w:World}{F:Nat->Prop}{X C:Thing}
theorem hp_tok(h:X.P w F)(e:X=hpX s hb x H*C):TOk H.T /\ H.T.length<=1000000:=by
 obtain⟨F1,⟨m1,m2,h1,_⟩,_⟩:=Q0e (A:=tbT x.tb H.T) (Y:=hpTb s hb x H*C) h (by rw[e,show hpX s hb x H=tbT x.tb H.T*hpTb s hb x H from hp_tb H.T];ac_rfl);exact⟨h1.ok,h1.few⟩
theorem t_hlet{v:Int}(hv:I64w v)(hT:∀y ∈ H.T,y.2.toNat*512+512<=A.bs.length)(hts:A.ts.length<400000000000) :
  Tri 178 #[zP hb,.int .i64 v] (axT s A*hpX s hb x H)
   (fun u=>only (u=.tuple #[]) (axT s (leA A H.T v)*hpX s hb x {H with T:=rmT H.T v})):=by
 intro w F R h r;have h:(hpX s hb x H*axT s A).P w F:=re h (zztmc _ _);obtain⟨tok,_⟩:=hp_tok h rfl;constructor;refine vc178.ok ?_;unfold vc178;refine⟨_,Q3y h rfl,(t_tunmap (tb:=x.tb) (T:=H.T) hv).use (C:=hpTb s hb x H*axT s A) h (by rw[show hpX s hb x H=tbT x.tb H.T*hpTb s hb x H from hp_tb H.T];ac_rfl) fun u w1 F1 h1 s1=>?_⟩;rw[Q06] at h1;obtain⟨rfl,h1⟩:=h1;have h1:(hpX s hb x {H with T:=rmT H.T v}*axT s A).P w1 F1:=re h1 (by rw[hp_tb];ac_rfl);cases e:fndO H.T v with
 | none=>
  refine⟨_,_,rfl,Q00 rfl ?_⟩;have eA:leA A H.T v=A:=by unfold leA;rw[e]
  rw[eA] at r;exact r _ w1 F1 ⟨rfl,re h1 (zztmc _ _)⟩ s1
 | some y=>
  have hy:=(Q0a e).1;obtain⟨p,hp⟩:=zzeoz (tok.rng y hy).2.2.1;have hin:=hT y hy;have hp6:=(tok.rng y hy).2.2.2;have eA:leA A H.T v={bs:=putAt A.bs (p*512) (List.replicate 512 0),ts:=A.ts++[(((p*512:Nat):Int),512,true)],cs:=Sf.giveH A.cs (p:Int)}:=by
   unfold leA;rw[e];simp only[hp,zztnc]
  rw[eA] at r;rw[hp,zztnc] at hin;refine⟨_,_,rfl,Q04 rfl ⟨_,hc_ar h1 rfl,?_⟩⟩;rw[hp] at hp6 ⊢;rw[Q03 (by omega) (by omega),show(p:Int)*512=((p*512:Nat):Int) by omega];refine(t_azero (ap:=s.ap) (bs:=A.bs) (ts:=A.ts) hts (a:=p*512) (n:=512) hin (by decide)).use (C:=hpX s hb x {H with T:=rmT H.T v}*(tabT s.o*coT s.mb s.nC s.C A.cs)) h1 (by unfold axT;ac_rfl) fun u w2 F2 h2 s2=>?_;rw[Q06] at h2;obtain⟨rfl,h2⟩:=h2;refine⟨_,rfl,_,hc_mb (C:=arT s.ap (putAt A.bs (p*512) (List.replicate 512 0)) (A.ts++[(((p*512:Nat):Int),((512:Nat):Int),true)])*(tabT s.o*coT s.mb s.nC s.C A.cs)) h2 (by ac_rfl),?_⟩;refine(t_cgive (mb:=s.mb) (n:=s.nC) (C:=s.C) (hs:=A.cs) (p:Int)).use (C:=hpX s hb x {H with T:=rmT H.T v}*(arT s.ap (putAt A.bs (p*512) (List.replicate 512 0)) (A.ts++[(((p*512:Nat):Int),((512:Nat):Int),true)])*tabT s.o)) h2 (by ac_rfl) fun u w3 F3 h3 s3=>?_;rw[Q06] at h3;obtain⟨rfl,h3⟩:=h3;refine⟨_,rfl,r _ w3 F3 ⟨rfl,re h3 ?_⟩ ((s1.trans s2).trans s3)⟩;unfold axT;show _=tabT s.o*(arT s.ap _ (A.ts++[(((p*512:Nat):Int),((512:Nat):Int),true)])*_)*_;ac_rfl
def reH(H:Hp)(k m:Nat):Hp:={H with sl:=updF H.sl k (Sf.giveH (H.sl k) (m:Int)),T:=rmN H.T (locN k m) (pagN k)}
theorem Q3Q{k m:Nat}(hk:k<24)(hm:m<sltN k)(hT:∀y ∈ H.T,y.2.toNat*512+512<=A.bs.length)(hts:A.ts.length<300000000000) :
  Tri 236 #[zP hb,.int .i64 (k:Int),.int .i64 (m:Int)] (axT s A*hpX s hb x H)
   (fun u=>only (u=.tuple #[]) (axT s (reA A H.T (locN k m) (pagN k))*hpX s hb x (reH H k m))):=by
 intro w F R h r;constructor;refine vc202.ok ?_;unfold vc202;have hp16:=Q1n hk;obtain⟨l1,l2⟩:=Q1c hk hm;refine cpag k ⟨_,rfl,?_⟩;rw[if_pos ⟨by omega,by omega⟩,zztnc];refine⟨fun f i w4=>∃j:Nat,i=(j:Int) /\ f+j=pagN k /\ ∃F4,(axT s (reA A H.T (locN k m) j)*hpX s hb x {H with T:=rmN H.T (locN k m) j}).P w4 F4 /\ Step F w F4 w4,⟨pagN k,0,rfl,rfl,F,h,Step.refl _ _⟩,?_⟩;rintro f jv i w4 ⟨j,rfl,hf,F4,h4,s4⟩;have hl4:=reA_len A H.T (locN k m) hT j;have ht4:=reA_ts A H.T (locN k m) j;refine ifD (fun hj=>clocal hk hm ⟨_,rfl,?_⟩) (fun hj=>?_)
 ·rw[Q03 (by omega) (by omega)];refine(t_hlet (s:=s) (hb:=hb) (x:=x) (H:={H with T:=rmN H.T (locN k m) j}) (A:=reA A H.T (locN k m) j) (v:=(locN k m:Int)+(j:Int)) (i64w (by omega) (by omega)) (fun y hy=>by rw[hl4];exact hT y (rmN_sub _ _ _ y hy)) (by omega)).use (C:=emp) h4 (by rw[Q0c]) fun v w5 F5 h5 s5=>?_;rw[Q0c] at h5;obtain⟨rfl,h5⟩:=h5;exact⟨rfl,f-1,by omega,j+1,by rw[Q03 (by omega) (by omega)];omega,by omega,F5,h5,s4.trans s5⟩
 ·have ej:j=pagN k:=by omega
  subst ej;have h5:(hpX s hb x {H with T:=rmN H.T (locN k m) (pagN k)}*axT s (reA A H.T (locN k m) (pagN k))).P w4 F4:=re h4 (zztmc _ _);refine⟨by omega,by omega,_,hc_sl h5 rfl hk,?_⟩;refine(t_sgive (sb:=x.sp k) (hs:=H.sl k) (m:Int)).use (C:=hpSl s hb x {H with T:=rmN H.T (locN k m) (pagN k)} ⟨k,hk⟩*axT s (reA A H.T (locN k m) (pagN k))) h5 (by rw[hp_sl0 (k:=⟨k,hk⟩)];ac_rfl) fun v w6 F6 h6 s6=>?_;rw[Q06] at h6;obtain⟨rfl,h6⟩:=h6;refine⟨_,rfl,r _ w6 F6 ⟨rfl,re h6 ?_⟩ (s4.trans s6)⟩;have:=hp_sl (s:=s) (hb:=hb) (x:=x) (H:={H with T:=rmN H.T (locN k m) (pagN k)}) ⟨k,hk⟩ (Sf.giveH (H.sl k) (m:Int));show _=_*hpX s hb x {H with T:=rmN H.T (locN k m) (pagN k),sl:=updF H.sl k (Sf.giveH (H.sl k) (m:Int))};rw[this];ac_rfl
end
end
section
open Go.RowKit Go.Maps Thing
section
variable{w0 w w':World}{K K':Nat->Prop}{kind pb ap base:Nat}{s t:St}
theorem PGs.stepB{rc wc sb sg base1:Nat}{FA FA':Nat->Prop}{s':St}(hn:∀j,ownP pb rc wc sb sg j \/ FA j->w0.heap.size<=j /\ ¬K j)(hk:∀j,K j->w0.heap.size<=j /\ j<w.heap.size)(hE:Ext w0 w)
  (h':PGw w' pb rc wc ap sb sg FA' base1 kind s') (hm:Mod (fun j=>ownP pb rc wc sb sg j \/ FA j) w w') (hF:∀j,FA' j->FA j \/ w.heap.size<=j):PGs w0 K pb ap base1 kind s' w' /\ Mod (fun j=>¬K j) w w':=by
 refine⟨⟨rc,wc,sb,sg,FA',h',fun j hj=>?_,fun j hj=>⟨(hk j hj).1,Nat.lt_of_lt_of_le (hk j hj).2 hm.size⟩,hE.new hm (fun j hj=>(hn j hj).1)⟩,hm.mono fun j hj=>(hn j hj).2⟩;rcases hj with hj | hj
 ·exact hn j (.inl hj)
 ·rcases hF j hj with z | z
  ·exact hn j (.inr z)
  ·exact⟨Nat.le_trans hE.size z,fun q=>by have:=(hk j q).2;omega⟩
theorem PGs.moveC(h:PGs w0 K pb ap base kind s w)(nb:Nat)(hm512:(nb:Int).tmod 512=0)(hb:nb+512<=s.bs.length){R:VW}
  (r:∀w',PGs w0 K pb ap nb kind s w'->Mod (fun j=>¬K j) w w'->R (.int .i64 0) w'):CS 173 #[zP pb,.int .i64 (nb:Int)] w R:=by
 obtain⟨rc,wc,sb,sg,FA,h,hn,hk,hE⟩:=h;obtain⟨c1,c2,c3,c4,c5⟩:=Q0f h.k8;constructor;refine vc23.ok ?_;unfold vc23;refine Q00 rfl ⟨_,dcell h.head rfl,.of (plies_any h.ar _) ?_⟩;rintro v w1 ⟨rfl,rfl⟩;rw[decide_eq_true ⟨by omega,hm512,by omega⟩];refine⟨_,rfl,Q00 rfl ?_⟩;simp only[someA,Q02];refine Q0d (b:=pb) (n:=1) h.head (by simp) fun w2 hd2 hm2 _=>⟨vc44.ok ?_⟩;unfold vc44;obtain⟨x1,x2,x3,x4,x5,x6,x7,x8,x9⟩:=h.d;have nFp:∀j,FA j->j ≠ pb:=fun j hj e=>h.nF j (.inl e) hj;have a2:=h.ar.keep hm2 (fun j hj e=>nFp j hj e);have r2:=h.cr.keep hm2 (fun e=>x1 e.symm);have v2:=h.cw.keep hm2 (fun e=>x2 e.symm);have s2:=h.sh.keep hm2 (fun j hj e=>by
  rcases hj with rfl | rfl
  ·exact x3 e.symm
  ·exact x4 e.symm)
 have he:moveE s.bs.length (unitN kind) (perN kind) (nb:Int)=0:=if_pos ⟨by omega,by omega⟩;refine⟨_,dcell hd2 rfl,.of (move_any a2 r2 h.gr (h.nF _ (.inr (.inl rfl))) _) ?_⟩;rintro v w3 ⟨rfl,FA3,a3,r3,m3,f3⟩;rw[if_pos he,zztnc] at r3;have lt2:∀j,j<w1.heap.size->j<w2.heap.size:=fun j hj=>Nat.lt_of_lt_of_le hj hm2.size;have nF3:∀j,ownP pb rc wc sb sg j->¬FA3 j:=fun j hj x=>(f3 j x).elim (h.nF j hj) (fun y=>by have:=lt2 j (h.lt j (.inl hj));omega);have k3:∀j,ownP pb rc wc sb sg j->j ≠ rc->¬(FA j \/ j=rc):=fun j hj hne x=>x.elim (h.nF j hj) hne;have hd3:=m3.keep hd2 (k3 _ (.inl rfl) x1);have v3:=v2.keep m3 (k3 _ (.inr (.inr (.inl rfl))) x5.symm);have s3:=s2.keep m3 (fun j hj=>by
  rcases hj with rfl | rfl
  ·exact k3 _ (.inr (.inr (.inr (.inl rfl)))) x6.symm
  ·exact k3 _ (.inr (.inr (.inr (.inr rfl)))) x7.symm)
 refine⟨_,rfl,_,dcell hd3 rfl,.of (move_any a3 v3 h.gw (nF3 _ (.inr (.inr (.inl rfl)))) _) ?_⟩;rintro v w4 ⟨rfl,FA4,a4,v4,m4,f4⟩;rw[if_pos he,zztnc] at v4;have lt3:∀j,j<w1.heap.size->j<w3.heap.size:=fun j hj=>Nat.lt_of_lt_of_le (lt2 j hj) m3.size;have k4:∀j,ownP pb rc wc sb sg j->j ≠ wc->¬(FA3 j \/ j=wc):=fun j hj hne x=>x.elim (nF3 j hj) hne;have g1:CfgC s.bs.length nb (unitN kind) (perN kind) s.hr:=⟨c1,c2,c3,by omega,by omega,h.gr.n21,h.gr.h0,h.gr.h1⟩;have g2:CfgC s.bs.length nb (unitN kind) (perN kind) s.hw:=⟨c1,c2,c3,by omega,by omega,h.gw.n21,h.gw.h0,h.gw.h1⟩;have h4:PGw w4 pb rc wc ap sb sg FA4 nb kind s:=⟨m4.keep hd3 (k4 _ (.inl rfl) x2),a4,r3.keep m4 (k4 _ (.inr (.inl rfl)) x5),v4,s3.keep m4 (fun j hj=>by
  rcases hj with rfl | rfl
  ·exact k4 _ (.inr (.inr (.inr (.inl rfl)))) x8.symm
  ·exact k4 _ (.inr (.inr (.inr (.inr rfl)))) x9.symm),g1,g2,h.k8,h.hl,h.fl,⟨x1,x2,x3,x4,x5,x6,x7,x8,x9⟩,
  fun j hj x=>(f4 j x).elim (nF3 j hj) (fun y=>by have:=lt3 j (h.lt j (.inl hj));omega)⟩
 have hmod:Mod (fun j=>ownP pb rc wc sb sg j \/ FA j) w1 w4:=by
  refine Mod.trans (Mod.trans (hm2.mono fun j e=>.inl (.inl e)) m3 (fun j hj x=>?_)) m4 (fun j hj x=>?_)
  ·exact x.elim .inr (fun e=>.inl (.inr (.inl e)))
  ·rcases x with x | e
   ·exact(f3 j x).elim .inr (fun y=>by have:=lt2 j hj;omega)
   ·exact .inl (.inr (.inr (.inl e)))
 have hF:∀j,FA4 j->FA j \/ w1.heap.size<=j:=fun j x=>(f4 j x).elim (fun y=>(f3 j y).elim .inl (fun z=>.inr (Nat.le_trans hm2.size z))) (fun z=>.inr (Nat.le_trans hm2.size (Nat.le_trans m3.size z)));refine⟨_,rfl,rfl,?_⟩;obtain⟨a,b⟩:=PGs.stepB hn hk hE h4 hmod hF;exact r w4 a b
end
section
variable{w:World}{F:Nat->Prop}{ap pb base kind:Nat}{bs:List UInt8}{ts:List Tch}{q:Pq}
theorem t_pmove{nb:Nat}(h5:(nb:Int).tmod 512=0)(hb:nb+512<=bs.length):Tri 173 #[zP pb,.int .i64 (nb:Int)] (arT ap bs ts*pgT bs.length pb ap base kind q)
  (fun v=>only (v=.int .i64 0) (arT ap bs ts*pgT bs.length pb ap nb kind q)):=by
 intro w F R h r;refine(Q2C h).moveC nb h5 hb fun w' g m=>?_;obtain⟨F',p,s⟩:=of_pgs g m;exact r _ w' F' ⟨rfl,p⟩ s
theorem t_pused:Tri 238 #[zP pb] (arT ap bs ts*pgT bs.length pb ap base kind q)
  (fun v=>only (v=.int .i64 ((q.hs.count true:Nat):Int)) (arT ap bs ts*pgT bs.length pb ap base kind q)):=by
 intro w F R h r;refine(Q2C h).used fun w' g m=>?_;obtain⟨F',p,s⟩:=of_pgs g m;exact r _ w' F' ⟨rfl,p⟩ s
theorem t_pfull:Tri 232 #[zP pb] (arT ap bs ts*pgT bs.length pb ap base kind q)
  (fun v=>only (v=.bool (((q.hs.count false:Nat):Int) == 0)) (arT ap bs ts*pgT bs.length pb ap base kind q)):=t_pask fun h r=>h.full r
def newPq(kind:Nat):Pq:=⟨0,-1,-1,List.replicate (perN kind) false⟩
theorem t_pgnew(hk:kind<8)(h5:(base:Int).tmod 512=0)(hb:base+512<=bs.length):Tri 234 #[zP ap,.int .i64 (base:Int),.int .i64 (kind:Int)] (arT ap bs ts)
  (fun v=>any fun pb:Nat=>only (v=.tuple #[zP pb,.int .i64 0]) (arT ap bs ts*pgT bs.length pb ap base kind (newPq kind))):=by
 intro w F R h r;refine pnew_any (w0:=ow w) (K:=oth w F) h (fun j hj=>⟨Nat.zero_le _,fun x=>x.2 hj⟩) (fun j hj=>⟨Nat.zero_le _,hj.1⟩) (ow_ext w) _ _ (fun no=>absurd ⟨⟨by omega,by omega⟩,by omega,h5,by omega⟩ no) fun base' kind' pb w' e1 _ e2 _ _ g hE=>?_;have e1:kind'=kind:=by omega
 have e2:base'=base:=by omega
 subst e1 e2;obtain⟨F',p,s⟩:=of_pgs g hE.mod;exact r _ w' F' ⟨pb,rfl,p⟩ s
end
section
variable{w:World}{F:Nat->Prop}{K t e:TypeId}{mp:Nat}{m:Int->Option Value}{X C:Thing}
theorem Q3t(h:X.P w F)(e0:X=mpT K mp m*C)(hK:Tryz.prog.underlying K=some (.int .i64))(ht:Tryz.prog.underlying t=some (.map K e)){z:Value}(hz:(zeroValue e).run Tryz.prog w=.ok z w){k:Int}(hk:I64w k) :
  (Instr.lookup t (.map (some mp)) (.int .i64 k) false).run Tryz.prog w=.ok ((m k).getD z) w:=by
 obtain⟨F1,⟨l,h1,_⟩,_⟩:=Q0e h e0;exact h1.look hK ht hz hk
theorem mp_len(h:X.P w F)(e0:X=mpT K mp m*C)(ht:Tryz.prog.underlying t=some (.map K e))(ty:TypeId):∃n:Nat,(Builtin.len_ #[t] ty #[.map (some mp)]).run Tryz.prog w=.ok (.int .i64 (n:Int)) w /\ ∃l:List Int,l.length=n /\ l.Nodup /\ ∀k,k ∈ l ↔ (m k).isSome=true:=by
 obtain⟨F1,⟨l,h1,h2,h3,_⟩,_⟩:=Q0e h e0;exact⟨_,h1.len ht ty,l,rfl,h2,h3⟩
theorem Q2N(h:X.P w F)(e0:X=mpT K mp m*C)(hK:Tryz.prog.underlying K=some (.int .i64))(ht:Tryz.prog.underlying t=some (.map K e)){k:Int}(hk:I64w k)(v:Value)
  (few:∀k,(m k).isSome=true->0<=k /\ k<10000000):∃w' F',(Instr.mapUpdate t (.map (some mp)) (.int .i64 k) v).run Tryz.prog w=.ok () w' /\ (mpT K mp (upd m k (some v))*C).P w' F' /\ Step F w F' w':=by
 subst e0;obtain⟨F1,F2,⟨l,h1,nd,mem,rfl⟩,c,d,rfl⟩:=h;have hlen:l.length<=10000000:=Q16 nd (fun x hx=>(few x ((mem x).1 hx)).1) (n:=10000000) fun x hx=>by have:=(few x ((mem x).1 hx)).2;omega
 obtain⟨w',hr,h2,hm,hs⟩:=h1.store hK ht (by simp only[maxLen];omega) hk v;have b:(mpT K mp (upd m k (some v))).P w' (· = mp):=by
  by_cases q:(m k).isSome=true
  ·rw[if_pos q] at h2;refine⟨l,h2,nd,fun j=>?_,rfl⟩;unfold upd;by_cases e:j=k
   ·rw[if_pos e,e,mem,q];simp
   ·rw[if_neg e,mem]
  ·rw[if_neg q] at h2;refine⟨k :: l,h2,List.nodup_cons.2 ⟨fun x=>q ((mem k).1 x),nd⟩,fun j=>?_,rfl⟩;unfold upd;rw[List.mem_cons];by_cases e:j=k
   ·rw[if_pos e];simp[e]
   ·rw[if_neg e,mem];simp[e]
 obtain⟨p,s⟩:=Q0M c d b ⟨hm,fun j hj=>.inl hj⟩;exact⟨w',_,hr,p,s⟩
theorem mp_drop(h:X.P w F)(e0:X=mpT K mp m*C)(hK:Tryz.prog.underlying K=some (.int .i64))(ht:Tryz.prog.underlying t=some (.map K e)){k:Int}(hk:I64w k)(ty:TypeId) :
  ∃w' F',(Builtin.delete_ #[t,K] ty #[.map (some mp),.int .i64 k]).run Tryz.prog w=.ok (.tuple #[]) w' /\ (mpT K mp (upd m k none)*C).P w' F' /\ Step F w F' w':=by
 subst e0;obtain⟨F1,F2,⟨l,h1,nd,mem,rfl⟩,c,d,rfl⟩:=h;obtain⟨w',hr,h2,hm,hs⟩:=h1.drop hK ht hk ty;have b:(mpT K mp (upd m k none)).P w' (· = mp):=by
  by_cases q:(m k).isSome=true
  ·rw[if_pos q] at h2;have hk:k ∈ l:=(mem k).2 q;refine⟨l.erase k,by rw[List.length_erase_of_mem hk];exact h2,nd.erase _,fun j=>?_,rfl⟩;rw[nd.mem_erase_iff];unfold upd;by_cases e:j=k
   ·rw[if_pos e];simp[e]
   ·rw[if_neg e,mem];simp[e]
  ·rw[if_neg q] at h2;refine⟨l,h2,nd,fun j=>?_,rfl⟩;unfold upd;by_cases e:j=k
   ·rw[if_pos e,e,mem];simp[q]
   ·rw[if_neg e,mem]
 obtain⟨p,s⟩:=Q0M c d b ⟨hm,fun j hj=>.inl hj⟩;exact⟨w',_,hr,p,s⟩
theorem mp_made(h:X.P w F):(mpT K w.heap.size (fun _=>none)*X).P (w.alloc (.map #[] 0)) (fun j=>j=w.heap.size \/ F j) /\ Step F w (fun j=>j=w.heap.size \/ F j) (w.alloc (.map #[] 0)):=by
 have hE:=Ext.alloc w (.map #[] 0);exact Q0h h hE (b:=(⟨[],IMap.made w _ K .i64,List.nodup_nil,fun k=>by simp,rfl⟩:(mpT K w.heap.size (fun _=>none)).P (w.alloc (.map #[] 0)) (· = w.heap.size))) (fun j hj=>by omega)
end
end
section
open Go.RowKit Go.Maps Thing
theorem aloS_len{u p base:Nat}{s:St}(g1:CfgC s.bs.length base u p s.hr)(g2:CfgC s.bs.length base u p s.hw):(aloS u p base s).bs.length=s.bs.length:=by
 have out:∀t:St,CfgC t.bs.length base u p t.hr->(outS u p base t).bs.length=t.bs.length:=fun t g=>by
  unfold outS;split
  ·exact Q29 g
  ·exact Q29 g
 unfold aloS;split
 ·exact out s g1
 split
 ·exact out (colS s) g2
 split <;> rfl
theorem freS_len{u p base:Nat}{s:St}(g:CfgC s.bs.length base u p s.hw)(hl:s.hs.length=p)(k:Int):(freS u p base s k).bs.length=s.bs.length:=by
 unfold freS;split
 ·rename_i e;have hin:Sf.InS s.hs k:=by
   unfold Sf.giveE at e;split at e
   ·assumption
   ·omega
  have hk:k.toNat<p:=by have:=hin.1;have:=hin.2;omega
  have fit:=unit_fit g hk;have u8:=g.u8;show(putAt (putAt s.bs (base+k.toNat*u) (List.replicate u 0)) (base+k.toNat*u) (le8 _)).length=_;have e1:(putAt s.bs (base+k.toNat*u) (List.replicate u 0)).length=s.bs.length:=Q0j (by rw[zzlrp];exact fit);rw[Q0j (by rw[Q0w,e1];omega),e1]
 ·rfl
section
variable{w:World}{F:Nat->Prop}{ap pb base kind:Nat}{bs:List UInt8}{ts:List Tch}{q:Pq}
theorem t_palloc2(hl:ts.length<549755813000):Tri 231 #[zP pb] (arT ap bs ts*pgT bs.length pb ap base kind q)
  (fun v=>only (v=.tuple #[.int .i64 (aloI (unitN kind) (perN kind) base (q.st bs ts)),.int .i64 (aloE (unitN kind) (perN kind) base (q.st bs ts))] /\ (aloS (unitN kind) (perN kind) base (q.st bs ts)).bs.length=bs.length)
   (arT ap (aloS (unitN kind) (perN kind) base (q.st bs ts)).bs (aloS (unitN kind) (perN kind) base (q.st bs ts)).ts*pgT bs.length pb ap base kind (aloS (unitN kind) (perN kind) base (q.st bs ts)).pq)):=by
 intro w F R h r;have g:=Q2C h;have e:=aloS_len g.cfr g.cfg;refine t_palloc hl w F _ h fun v w' F' h' s=>r v w' F' ?_ s;obtain⟨hv,h'⟩:=h';unfold pgA at h';rw[e] at h';exact⟨⟨hv,e⟩,h'⟩
theorem t_pfree2(hl:ts.length<549755812000)(k:Int):Tri 237 #[zP pb,.int .i64 k] (arT ap bs ts*pgT bs.length pb ap base kind q)
  (fun v=>only (v=.int .i64 (Sf.giveE q.hs k) /\ (freS (unitN kind) (perN kind) base (q.st bs ts) k).bs.length=bs.length)
   (arT ap (freS (unitN kind) (perN kind) base (q.st bs ts) k).bs (freS (unitN kind) (perN kind) base (q.st bs ts) k).ts*pgT bs.length pb ap base kind (freS (unitN kind) (perN kind) base (q.st bs ts) k).pq)):=by
 intro w F R h r;have g:=Q2C h;have e:=freS_len g.cfg g.hsl k;refine t_pfree hl k w F _ h fun v w' F' h' s=>r v w' F' ?_ s;obtain⟨hv,h'⟩:=h';unfold pgA at h';rw[e] at h';exact⟨⟨hv,e⟩,h'⟩
end
structure PqOk (k:Nat) (q:Pq):Prop where
 hl:q.hs.length=perN k
 f:q.f<=perN k
 r0:-1<=q.hr
 r1:q.hr<perN k
 w0:-1<=q.hw
 w1:q.hw<perN k
structure HOk (s:Sv) (A:Ax) (H:Hp):Prop where
 nb:A.bs.length=s.n
 nc:A.cs.length*512=s.n
 p4:A.cs.length<=4096
 win:H.win.length<=32
 tok:TOk H.T
 few:H.T.length<=6400
 sl:∀k,k<24->(H.sl k).length=sltN k
 own:∀y ∈ H.T,A.cs[y.2.toNat]? = some true /\ Cl.inW s.C H.win y.2.toNat=true
 pg:∀v g,H.S v=some g->g.kind<8 /\ PqOk g.kind g.q /\ ∃m,m<sltN g.kind /\ v=(locN g.kind m:Int) /\ (H.sl g.kind)[m]? = some true /\ ∃p:Nat,fndO H.T v=some (v,(p:Int)) /\ g.base=p*512
 sm:∀k m,k<8->(H.sl k)[m]? = some true->∃g,H.S (locN k m)=some g /\ g.kind=k
 ln:∀k,k<8->(H.ln k).Nodup /\ ∀v,v ∈ H.ln k ↔ ∃g,H.S v=some g /\ g.kind=k /\ g.q.hs.count false ≠ 0
 tab:∀v,(fndO H.T v).isSome=true ↔ ∃k m i,k<24 /\ (H.sl k)[m]? = some true /\ i<pagN k /\ v=(locN k m:Int)+(i:Int)
theorem Q1a{k m i k' m' i':Nat}(hk:k<24)(hk':k'<24)(hm:m<sltN k)(hm':m'<sltN k')(hi:i<pagN k)(hi':i'<pagN k')(e:locN k m+i=locN k' m'+i'):k=k' /\ m=m' /\ i=i':=by
 obtain⟨l1,l2⟩:=Q1c hk hm;obtain⟨l3,l4⟩:=Q1c hk' hm';have e1:k=k':=by omega
 subst e1;unfold locN at e;have hp:=Q0B k;have e2:m*pagN k+i=m'*pagN k+i':=by omega
 have e3:m=m':=by
  have a:(m*pagN k+i) / pagN k=m:=by rw[Nat.mul_comm,Nat.mul_add_div hp,Nat.div_eq_of_lt hi,Nat.add_zero]
  have b:(m'*pagN k+i') / pagN k=m':=by rw[Nat.mul_comm,Nat.mul_add_div hp,Nat.div_eq_of_lt hi',Nat.add_zero]
  rw[<-a,<-b,e2]
 subst e3;exact⟨rfl,rfl,by omega⟩
section
variable{s:Sv}{A:Ax}{H:Hp}
theorem HOk.tin(g:HOk s A H):∀y ∈ H.T,y.2.toNat*512+512<=A.bs.length:=fun y hy=>by
 have h1:=(zzgsi.1 (g.own y hy).1).1;have:=g.nb;have:=g.nc;omega
theorem HOk.slot(g:HOk s A H){k m:Nat}(hk:k<24)(h:(H.sl k)[m]? = some true):m<sltN k:=by
 have:=(zzgsi.1 h).1;rw[g.sl k hk] at this;exact this
theorem HOk.keys(g:HOk s A H){v:Int}{q:Pg}(h:H.S v=some q):256<=v /\ v<2400:=by
 obtain⟨h8,_,m,hm,rfl,_⟩:=g.pg v q h;obtain⟨l1,l2⟩:=Q1c (k:=q.kind) (by omega) hm;have:=Q0B q.kind;omega
theorem HOk.lnlt(g:HOk s A H){k:Nat}(hk:k<8):(H.ln k).length<=2400:=
 Q16 (g.ln k hk).1 (fun x hx=>by obtain⟨q,h,_⟩:=((g.ln k hk).2 x).1 hx;have:=g.keys h;omega) (n:=2400) fun x hx=>by obtain⟨q,h,_⟩:=((g.ln k hk).2 x).1 hx;have:=g.keys h;omega
theorem HOk.free(g:HOk s A H){k m i:Nat}(hk:k<24)(hm:m<sltN k)(hi:i<pagN k)(h:(H.sl k)[m]? ≠ some true):fndO H.T ((locN k m:Int)+(i:Int))=none:=by
 cases e:fndO H.T ((locN k m:Int)+(i:Int))with
 | none=>rfl
 | some y=>
  obtain⟨k',m',i',hk',ht,hi',e'⟩:=(g.tab _).1 (by rw[e];rfl);obtain⟨rfl,rfl,_⟩:=Q1a hk hk' hm (g.slot hk' ht) hi hi' (by omega);exact absurd ht h
theorem low_free{hs:List Bool}{m:Nat}(h:Sf.lowI hs=(m:Int)):hs[m]? = some false:=by
 unfold Sf.lowI at h;cases e:hs.findIdx? (fun b=>!b)with
 | none=>rw[e] at h;simp at h
 | some j=>
  rw[e] at h;obtain⟨hj,hv,_⟩:=List.findIdx?_eq_some_iff_getElem.1 e;have:j=m:=by simp at h;omega
  subst this;rw[zzgge hj];simpa using hv
theorem take_free{cs:List Bool}{C:Nat}{win:List Int}(h:1<=Cl.cnt cs C win):∃p:Nat,Cl.mTakeI cs C win=(p:Int) /\ Cl.mTakeH cs C win=cs.set p true /\ Cl.FrP cs C win p:=by
 cases e:Cl.pg cs C win with
 | none=>have:=Cl.cnt_zero.2 e;omega
 | some p=>
  have h1:=Cl.pg_low cs C win;rw[e] at h1;exact⟨p,by unfold Cl.mTakeI;rw[e],by unfold Cl.mTakeH;rw[e],h1.1⟩
structure TkOk (C:Nat) (win:List Int) (cs:List Bool) (T:Tb) (v0:Int) (cs':List Bool) (T':Tb) (i:Nat):Prop where
 tok:TOk T'
 keys:∀v,(fndO T' v).isSome=true ↔ ((fndO T v).isSome=true \/ ∃j:Nat,j<i /\ v=v0+j)
 old:∀v y,fndO T v=some y->fndO T' v=some y
 own:∀y ∈ T',cs'[y.2.toNat]? = some true
 mono:∀p:Nat,cs[p]? = some true->cs'[p]? = some true
 len:cs'.length=cs.length
 cnt:Cl.cnt cs' C win+i=Cl.cnt cs C win
 tl:T'.length=T.length+i
 new:∀y ∈ T',y ∈ T \/ (Cl.FrP cs C win y.2.toNat /\ ∃j:Nat,j<i /\ y.1=v0+j)
 rest:∀p:Nat,cs'[p]? = some true->cs[p]? = some true \/ ∃y ∈ T',y.2=(p:Int)
theorem tk_ok{C:Nat}{win:List Int}{cs:List Bool}{T:Tb}{v0:Int}{n:Nat}(tok:TOk T)(own:∀y ∈ T,cs[y.2.toNat]? = some true)(hc:cs.length<=4096)(hv:256<=v0 /\ v0+n<=6400)
  (free:∀j:Nat,j<n->fndO T (v0+j)=none) (hn:n<=Cl.cnt cs C win):∀i,i<=n->TkOk C win cs T v0 (tkC C win cs i) (tkT C win cs T v0 i) i
 | 0,_=>⟨tok,fun v=>by simp[tkT],fun v y h=>h,own,fun p h=>h,rfl,rfl,rfl,fun y h=>.inl h,fun p h=>.inl h⟩
 | i+1,hi=>by
  have g:=tk_ok tok own hc hv free hn i (by omega);have hcnt:=g.cnt;obtain⟨p,e1,e2,fr⟩:=take_free (cs:=tkC C win cs i) (C:=C) (win:=win) (by omega);have hp:=(zzgsi.1 fr.1).1;have hlen:=g.len;have hk:fndO (tkT C win cs T v0 i) (v0+(i:Int))=none:=by
   cases e:fndO (tkT C win cs T v0 i) (v0+(i:Int))with
   | none=>rfl
   | some y=>
    rcases(g.keys (v0+(i:Int))).1 (by rw[e];rfl)with q | ⟨j,hj,q⟩
    ·rw[free i (by omega)] at q;cases q
    ·omega
  have hh:hldO (tkT C win cs T v0 i) (p:Int)=none:=by
   cases e:hldO (tkT C win cs T v0 i) (p:Int)with
   | none=>rfl
   | some y=>
    obtain⟨hy,ey⟩:=Q1p e;have:=g.own y hy;rw[ey,zztnc,fr.1] at this;cases this
  have em:mapT (tkT C win cs T v0 i) (v0+(i:Int)) (p:Int)=insT (tkT C win cs T v0 i) (v0+(i:Int)) (p:Int):=by
   have:mapE (tkT C win cs T v0 i) (v0+(i:Int)) (p:Int)=0:=by
    unfold mapE;rw[if_pos ⟨by omega,by omega,by omega,by omega⟩,if_neg];unfold fnd hld;rw[hk,hh];simp
   unfold mapT;rw[if_pos this]
  have eT:tkT C win cs T v0 (i+1)=insT (tkT C win cs T v0 i) (v0+(i:Int)) (p:Int):=by rw[tkT,e1,em]
  have eC:tkC C win cs (i+1)=(tkC C win cs i).set p true:=by rw[tkC,e2]
  rw[eT,eC];have hmem:∀y,y ∈ insT (tkT C win cs T v0 i) (v0+(i:Int)) (p:Int) ↔ y=(v0+(i:Int),(p:Int)) \/ y ∈ tkT C win cs T v0 i:=fun y=>by
   have hperm:List.Perm (insT (tkT C win cs T v0 i) (v0+(i:Int)) (p:Int)) ((v0+(i:Int),(p:Int)) :: tkT C win cs T v0 i):=by
    have:=Q1v (tkT C win cs T v0 i) (v0+(i:Int));unfold insT;refine List.perm_middle.trans ?_;rw[<-this]
   rw[hperm.mem_iff,List.mem_cons]
  have hset:∀q:Nat,((tkC C win cs i).set p true)[q]? = some true ↔ q=p \/ (tkC C win cs i)[q]? = some true:=fun q=>by
   rw[zzgst];by_cases e:p=q
   ·subst e;rw[if_pos rfl,if_pos hp];simp
   ·rw[if_neg e];constructor
    ·exact .inr
    ·rintro(x | x)
     ·exact absurd x.symm e
     ·exact x
  refine⟨g.tok.ins hk hh ⟨by omega,by omega,by omega,by omega⟩,fun v=>?_,fun v y h=>?_,fun y hy=>?_,fun q hq=>?_,?_,?_,?_,fun y hy=>?_,fun q hq=>?_⟩
  ·rw[fndO_ins hk];by_cases e:v=v0+(i:Int)
   ·rw[if_pos e];exact⟨fun _=>.inr ⟨i,by omega,e⟩,fun _=>rfl⟩
   ·rw[if_neg e,g.keys];refine or_congr Iff.rfl ⟨fun⟨j,a,b⟩=>⟨j,by omega,b⟩,fun⟨j,a,b⟩=>⟨j,?_,b⟩⟩;rcases Nat.lt_or_ge j i with q | q
    ·exact q
    ·exact absurd (by rw[b,show j=i by omega]) e
  ·rw[fndO_ins hk];by_cases e:v=v0+(i:Int)
   ·have:=g.old v y h;rw[e,hk] at this;cases this
   ·rw[if_neg e];exact g.old v y h
  ·rcases(hmem y).1 hy with rfl | q
   ·exact(hset _).2 (.inl (by simp))
   ·exact(hset _).2 (.inr (g.own y q))
  ·exact(hset q).2 (.inr (g.mono q hq))
  ·rw[List.length_set];exact g.len
  ·have:=Cl.cnt_take fr;omega
  ·rw[Q2l,g.tl];omega
  ·rcases(hmem y).1 hy with rfl | q
   ·refine .inr ⟨?_,i,by omega,rfl⟩;refine⟨?_,?_⟩
    ·show cs[((p:Int)).toNat]? = some false;rw[zztnc];have hp':p<cs.length:=by omega
     rw[zzgge hp'];cases hb:cs[p]
     ·rfl
     ·have:=g.mono p (by rw[zzgge hp',hb]);rw[fr.1] at this;cases this
    ·show Cl.inW C win ((p:Int)).toNat=true;rw[zztnc];exact fr.2
   ·exact(g.new y q).imp id fun⟨a,j,b,c⟩=>⟨a,j,by omega,c⟩
  ·rcases(hset q).1 hq with rfl | x
   ·exact .inr ⟨_,(hmem _).2 (.inl rfl),rfl⟩
   ·exact(g.rest q x).imp id fun⟨y,a,b⟩=>⟨y,(hmem y).2 (.inr a),b⟩
end
end
section
open Go.RowKit Go.Maps Thing
structure Mr where
 I:Int
 E:Int
 A:Ax
 H:Hp
def Ax.put(A:Ax)(st:St):Ax:={A with bs:=st.bs,ts:=st.ts}
def Hp.page(H:Hp)(v:Int)(g:Pg)(st:St):Hp:={H with S:=updI H.S v (some {g with q:=st.pq})}
def Hp.cut(H:Hp)(k:Nat)(v:Int):Hp:={H with ln:=updF H.ln k ((H.ln k).erase v)}
def placI(k:Nat)(v b:Int):Int:=if InB k v b then(adrN k v.toNat b.toNat:Int)else 0
def placE(k:Nat)(v b:Int):Int:=if InB k v b then 0 else 12
def maF(A:Ax)(H:Hp)(k:Nat)(v:Int)(g:Pg):Mr:=
 if aloE (unitN k) (perN k) g.base (g.q.st A.bs A.ts)=0 then
  ⟨placI k (v-(locN k 0:Int)) (aloI (unitN k) (perN k) g.base (g.q.st A.bs A.ts)),placE k (v-(locN k 0:Int)) (aloI (unitN k) (perN k) g.base (g.q.st A.bs A.ts)),
   A.put (aloS (unitN k) (perN k) g.base (g.q.st A.bs A.ts)),
   if (aloS (unitN k) (perN k) g.base (g.q.st A.bs A.ts)).hs.count false=0 then(H.page v g (aloS (unitN k) (perN k) g.base (g.q.st A.bs A.ts))).cut k v else H.page v g (aloS (unitN k) (perN k) g.base (g.q.st A.bs A.ts))⟩
 else⟨0,aloE (unitN k) (perN k) g.base (g.q.st A.bs A.ts),A.put (aloS (unitN k) (perN k) g.base (g.q.st A.bs A.ts)),H.page v g (aloS (unitN k) (perN k) g.base (g.q.st A.bs A.ts))⟩
def mFr(hb lp:Nat)(i2 i15:Int)(w14:World)(R:VW):Prop:=
 ∃p17:Option Nat,w14.cell? ((zA hb).add 36)=some (.map p17) /\ ∃(p18:Option Addr)(w19:World),Sem.run Tryz.prog (Instr.lookup 147 (.map p17) (.int .i64 i15) false) w14=.ok (.pointer p18) w19 /\
  CS 231 #[.pointer p18] w19 fun v20 w21=>∃i22 i23:Int,v20=.tuple #[.int .i64 i22,.int .i64 i23] /\ ifB (i23 != 0) (R (.tuple #[.int .i64 0,.int .i64 i23]) w21)
   (CS 232 #[.pointer p18] w21 fun v24 w25=>∃b26:Bool,v24=.bool b26 /\ ifB b26
    (CS 233 #[zP lp,.int .i64 i15] w25 fun v27 w28=>∃i29:Int,v27=.int .i64 i29 /\ CS 208 #[.int .i64 i2,.int .i64 0] w28 fun v30 w31=>∃i32:Int,v30=.int .i64 i32 /\
     CS 229 #[.int .i64 i2,.int .i64 (IntKind.i64.wrap (i15-i32)),.int .i64 i22] w31 fun v33 w34=>∃i35 i36:Int,v33=.tuple #[.int .i64 i35,.int .i64 i36] /\ R (.tuple #[.int .i64 i35,.int .i64 i36]) w34)
    (CS 208 #[.int .i64 i2,.int .i64 0] w25 fun v37 w38=>∃i39:Int,v37=.int .i64 i39 /\
     CS 229 #[.int .i64 i2,.int .i64 (IntKind.i64.wrap (i15-i39)),.int .i64 i22] w38 fun v40 w41=>∃i42 i43:Int,v40=.tuple #[.int .i64 i42,.int .i64 i43] /\ R (.tuple #[.int .i64 i42,.int .i64 i43]) w41))
theorem pg_map:Tryz.prog.underlying 147=some (.map 3 234):=by kernel_rfl
theorem pg_z(w:World):(zeroValue 234).run Tryz.prog w=.ok (.pointer none) w:=by kernel_rfl
section
variable{s:Sv}{hb:Nat}{x:Hl}{H:Hp}{A:Ax}{w:World}{F:Nat->Prop}{X C:Thing}
theorem hp_mp:hpX s hb x H=mpT 3 x.mp (smM x.pp H.S)*(fam (smF s x.pp H.S)*(blk hb (hpO s x)*(rowT x.wv H.win*(tbT x.tb H.T*(fam (slF x.sp H.sl)*fam (lnF8 x.lp H.ln)))))):=by unfold hpX;ac_rfl
theorem hp_look(h:X.P w F)(e:X=hpX s hb x H*C){v:Int}(hv:I64w v) :
  (Instr.lookup 147 (.map (some x.mp)) (.int .i64 v) false).run Tryz.prog w=.ok (match H.S v with | some _=>.pointer (some ⟨x.pp v,0,none⟩) | none=>.pointer none) w:=by
 have:=Q3t (C:=(fam (smF s x.pp H.S)*(blk hb (hpO s x)*(rowT x.wv H.win*(tbT x.tb H.T*(fam (slF x.sp H.sl)*fam (lnF8 x.lp H.ln))))))*C) h (by rw[e,hp_mp];ac_rfl) Q0K pg_map (pg_z w) hv;rw[this];unfold smM;cases H.S v <;> rfl
theorem mFr_ok{k:Nat}{v:Int}{g:Pg}{R:VW}(h:(axT s A*hpX s hb x H).P w F)(hn:A.bs.length=s.n)(hk:k<8)(hS:H.S v=some g)(hgk:g.kind=k)(hv:0<=v /\ v<1000000)(hl:v ∈ H.ln k)(hll:(H.ln k).length<800000)(hts:A.ts.length<400000000000)
  (r:∀w' F',(axT s (maF A H k v g).A*hpX s hb x (maF A H k v g).H).P w' F'->Step F w F' w'->R (.tuple #[.int .i64 (maF A H k v g).I,.int .i64 (maF A H k v g).E]) w') :
  mFr hb (x.lp k) (k:Int) v w R:=by
 subst hgk;have h:(hpX s hb x H*axT s A).P w F:=re h (zztmc _ _);obtain⟨c1,c2,c3,c4,c5⟩:=Q0f hk;obtain⟨l1,l2⟩:=Q1c (k:=g.kind) (s:=0) (by omega) (by have:=(Q0H (k:=g.kind) (by omega)).2.2.2.2;omega);refine⟨_,hc_mp h rfl,_,w,by rw[hp_look h rfl (i64w (by omega) (by omega)),hS],?_⟩;refine(t_palloc2 (ap:=s.ap) (pb:=x.pp v) (base:=g.base) (kind:=g.kind) (bs:=A.bs) (ts:=A.ts) (q:=g.q) (by omega)).use (C:=hpPg s hb x H v*(tabT s.o*coT s.mb s.nC s.C A.cs)) h (by rw[Q2A hS,hn];unfold axT;ac_rfl) fun u w1 F1 h1 s1=>?_;rw[Q06] at h1;obtain⟨⟨rfl,hlen⟩,h1⟩:=h1;unfold maF at r;generalize aloS (unitN g.kind) (perN g.kind) g.base (g.q.st A.bs A.ts)=st at h1 hlen r;generalize aloI (unitN g.kind) (perN g.kind) g.base (g.q.st A.bs A.ts)=I at h1 r ⊢;generalize aloE (unitN g.kind) (perN g.kind) g.base (g.q.st A.bs A.ts)=E at h1 r ⊢;have h1:(hpX s hb x (H.page v g st)*axT s (A.put st)).P w1 F1:=re h1 (by
  have:=hp_pg (s:=s) (hb:=hb) (x:=x) hS {g with q:=st.pq};unfold Hp.page axT;rw[this,hn];show _=_*(tabT s.o*(arT s.ap st.bs st.ts*coT s.mb s.nC s.C A.cs));ac_rfl)
 have hS1:(H.page v g st).S v=some {g with q:=st.pq}:=if_pos rfl;refine⟨_,_,rfl,Q05 (fun q=>?_) (fun q=>?_)⟩
 ·have q:E ≠ 0:=by simpa using q
  rw[if_neg q] at r;exact r w1 F1 (re h1 (zztmc _ _)) s1
 ·have q:E=0:=by simpa using q
  rw[if_pos q] at r;refine(t_pfull (ap:=s.ap) (pb:=x.pp v) (base:=g.base) (kind:=g.kind) (bs:=st.bs) (ts:=st.ts) (q:=st.pq)).use (C:=hpPg s hb x (H.page v g st) v*(tabT s.o*coT s.mb s.nC s.C A.cs)) h1 (by
   rw[Q2A hS1,hlen,hn];show _*(tabT s.o*(arT s.ap st.bs st.ts*coT s.mb s.nC s.C A.cs))=_;ac_rfl) fun u w2 F2 h2 s2=>?_
  rw[Q06] at h2;obtain⟨rfl,h2⟩:=h2;have h2:(hpX s hb x (H.page v g st)*axT s (A.put st)).P w2 F2:=re h2 (by
   rw[Q2A hS1,hlen,hn];show _=_*(tabT s.o*(arT s.ap st.bs st.ts*coT s.mb s.nC s.C A.cs));ac_rfl)
  have hlv:0<sltN g.kind:=by have:=(Q0H (k:=g.kind) (by omega)).2.2.2.2;omega
  refine⟨_,rfl,Q05 (fun q2=>?_) (fun q2=>?_)⟩
  ·have q2:st.hs.count false=0:=by
    have:st.pq.hs.count false=0:=by simpa using q2
    exact this
   rw[if_pos q2] at r;have hl2:v ∈ (H.page v g st).ln g.kind:=hl;refine(t_lcut (lb:=x.lp g.kind) (l:=H.ln g.kind) hv.1 hv.2 hll).use (C:=hpLn s hb x (H.page v g st) ⟨g.kind,hk⟩*axT s (A.put st)) h2 (by rw[Q3N (k:=⟨g.kind,hk⟩)];show liT _ (H.ln g.kind)*_*_=_;ac_rfl) fun u w3 F3 h3 s3=>?_;rw[if_pos hl,Q06] at h3;obtain⟨rfl,h3⟩:=h3;have h3:(hpX s hb x ((H.page v g st).cut g.kind v)*axT s (A.put st)).P w3 F3:=re h3 (by
    have:=hp_ln (s:=s) (hb:=hb) (x:=x) (H:=H.page v g st) ⟨g.kind,hk⟩ ((H.ln g.kind).erase v);unfold Hp.cut;show _=hpX s hb x {H.page v g st with ln:=updF (H.page v g st).ln g.kind ((H.ln g.kind).erase v)}*_;rw[this];ac_rfl)
   refine⟨_,rfl,clocal (k:=g.kind) (sn:=0) (by omega) hlv ⟨_,rfl,cplace (by omega) _ _ ⟨_,_,rfl,?_⟩⟩⟩;rw[Q03 (by omega) (by omega)];exact r w3 F3 (re h3 (zztmc _ _)) ((s1.trans s2).trans s3)
  ·have q2:st.hs.count false ≠ 0:=by
    have:¬st.pq.hs.count false=0:=by
     intro z;have z2:((st.pq.hs.count false:Nat):Int)=0:=by omega
     simp[z2] at q2
    exact this
   rw[if_neg q2] at r;refine clocal (k:=g.kind) (sn:=0) (by omega) hlv ⟨_,rfl,cplace (by omega) _ _ ⟨_,_,rfl,?_⟩⟩;rw[Q03 (by omega) (by omega)];exact r w2 F2 (re h2 (zztmc _ _)) (s1.trans s2)
end
end
section
open Go.RowKit Go.Maps Thing
theorem Q0n{X:Type}{p:X->Prop}{A:X->Thing}{Y:Thing}{w:World}{F:Nat->Prop}(h:((any fun x=>only (p x) (A x))*Y).P w F):∃x,p x /\ (A x*Y).P w F:=by
 obtain⟨F1,F2,⟨x,hp,a⟩,b,d,rfl⟩:=h;exact⟨x,hp,F1,F2,a,b,d,rfl⟩
section
variable{s:Sv}{A:Ax}{H:Hp}
theorem hold_at(g:HOk s A H){k:Nat}(hk:k<24)(hB:hoB s A H k=true):∃m:Nat,Sf.lowI (H.sl k)=(m:Int) /\ m<sltN k /\ (H.sl k)[m]? = some false /\
  TkOk s.C H.win A.cs H.T (locN k m) (tkC s.C H.win A.cs (pagN k)) (tkT s.C H.win A.cs H.T (locN k m) (pagN k)) (pagN k) /\ hoI s A H k=(m:Int) /\ hoA s A H k={A with cs:=tkC s.C H.win A.cs (pagN k)} /\
  hoH s A H k={H with sl:=updF H.sl k ((H.sl k).set m true),T:=tkT s.C H.win A.cs H.T (locN k m) (pagN k)}:=by
 have hB2:=hB;unfold hoB at hB2;rw[Bool.and_eq_true] at hB2;have h1:=zzodt hB2.1;have h2:=zzodt hB2.2;obtain⟨m,hm⟩:=zzeoz h1;have hl:=low_lt h1;rw[hm,zztnc,g.sl k hk] at hl;have hf:=low_free hm;obtain⟨l1,l2⟩:=Q1c hk hl;have:=Q1n hk;have hfree:∀j:Nat,j<pagN k->fndO H.T ((locN k m:Int)+(j:Int))=none:=fun j hj=>g.free hk hl hj (by rw[hf];simp);refine⟨m,hm,hl,hf,tk_ok g.tok (fun y hy=>(g.own y hy).1) g.p4 ⟨by omega,by omega⟩ hfree h2 _ (Nat.le_refl _),by unfold hoI;rw[if_pos hB,hm],by unfold hoA;rw[if_pos hB],?_⟩;unfold hoH;rw[if_pos hB,hm,zztnc];have:Sf.takeAtH (H.sl k) (m:Int)=(H.sl k).set m true:=by
  unfold Sf.takeAtH;rw[if_pos ⟨by omega,by rw[g.sl k hk];omega⟩,zztnc]
 rw[this]
end
def nwV(H:Hp)(k:Nat):Int:=(locN k (Sf.lowI (H.sl k)).toNat:Int)
def nwG(s:Sv)(A:Ax)(H:Hp)(k:Nat):Pg:=⟨(fnd (hoH s A H k).T (nwV H k)).toNat*512,k,newPq k⟩
def nwH(s:Sv)(A:Ax)(H:Hp)(k:Nat):Hp:={hoH s A H k with S:=updI H.S (nwV H k) (some (nwG s A H k)),ln:=updF H.ln k (H.ln k++[nwV H k])}
def malK(s:Sv)(A:Ax)(H:Hp)(k:Nat):Mr:=match H.ln k with
 | v :: _=>(match H.S v with | some g=>maF A H k v g | none=>⟨0,11,A,H⟩)
 | []=>if hoB s A H k=true then maF (hoA s A H k) (nwH s A H k) k (nwV H k) (nwG s A H k)else⟨0,13,A,H⟩
def malM(s:Sv)(A:Ax)(H:Hp)(n:Int):Mr:=
 if clsI n<0 then⟨0,2,A,H⟩
 else if 8<=clsI n then(if hoB s A H (clsI n).toNat=true then⟨placI (clsI n).toNat (hoI s A H (clsI n).toNat) 0,placE (clsI n).toNat (hoI s A H (clsI n).toNat) 0,hoA s A H (clsI n).toNat,hoH s A H (clsI n).toNat⟩else⟨0,13,A,H⟩)
 else malK s A H (clsI n).toNat
theorem Q3p(n:Int):clsI n<24 /\ -1<=clsI n:=by
 unfold clsI;split
 ·rename_i h;have:=clsN_lt (n:=n.toNat) (by omega);omega
 ·omega
section
variable{s:Sv}{hb:Nat}{x:Hl}{H:Hp}{A:Ax}{w:World}{F:Nat->Prop}{X C:Thing}
theorem hp_add{v:Int}{g:Pg}{pb:Nat}(h:H.S v=none):hpX s hb {x with pp:=updI x.pp v pb} {H with S:=updI H.S v (some g)} =
  pgT s.n pb s.ap g.base g.kind g.q*(mpT 3 x.mp (upd (smM x.pp H.S) v (some ((zP pb))))*(fam (smF s x.pp H.S)*(blk hb (hpO s x)*(rowT x.wv H.win*(tbT x.tb H.T*(fam (slF x.sp H.sl)*fam (lnF8 x.lp H.ln))))))):=by
 have e1:smM (updI x.pp v pb) (updI H.S v (some g))=upd (smM x.pp H.S) v (some ((zP pb))):=by
  funext j;unfold smM updI upd;by_cases e:j=v
  ·subst e;simp
  ·simp[e]
 have e2:smF s (updI x.pp v pb) (updI H.S v (some g))=Thing.upd (smF s x.pp H.S) v (pgT s.n pb s.ap g.base g.kind g.q):=by
  funext j;unfold smF updI Thing.upd;by_cases e:j=v
  ·subst e;simp
  ·simp[e]
 have e3:Thing.upd (smF s x.pp H.S) v emp=smF s x.pp H.S:=by
  have:=Q2b (smF s x.pp H.S) v;rw[show smF s x.pp H.S v=emp by unfold smF;rw[h]] at this;exact this
 unfold hpX;show blk hb (hpO s x)*(rowT x.wv H.win*(tbT x.tb H.T*(fam (slF x.sp H.sl)*(fam (lnF8 x.lp H.ln)*(mpT _ x.mp (smM (updI x.pp v pb) (updI H.S v (some g)))*fam (smF s (updI x.pp v pb) (updI H.S v (some g))))))))=_;rw[e1,e2,Q0Z (smF s x.pp H.S) v (pgT s.n pb s.ap g.base g.kind g.q),e3];ac_rfl
theorem t_hmalloc(g:HOk s A H)(hts:A.ts.length<400000000000)(n:Int):Tri 183 #[zP hb,.int .i64 n] (axT s A*hpX s hb x H)
  (fun v=>any fun x':Hl=>only (v=.tuple #[.int .i64 (malM s A H n).I,.int .i64 (malM s A H n).E]) (axT s (malM s A H n).A*hpX s hb x' (malM s A H n).H)):=by
 intro w F R h r;constructor;refine vc180.ok ?_;unfold vc180;refine ccls n ⟨_,rfl,Q00 rfl ?_⟩;obtain⟨c24,cm1⟩:=Q3p n;have r:∀w' F' x',(axT s (malM s A H n).A*hpX s hb x' (malM s A H n).H).P w' F'->Step F w F' w'->R (.tuple #[.int .i64 (malM s A H n).I,.int .i64 (malM s A H n).E]) w':=fun w' F' x' p st=>r _ w' F' ⟨x',rfl,p⟩ st;unfold malM at r;refine ifD (fun q=>?_) (fun q=>?_)
 ·rw[if_pos q] at r;exact r w F x h (Step.refl _ _)
 rw[if_neg q] at r;obtain⟨k,hk⟩:=zzeoz (show 0<=clsI n by omega);rw[hk] at r c24 ⊢;rw[zztnc] at r;have hk24:k<24:=by omega
 have hT:H.T.length<900000:=by have:=g.few;omega
 have hw:H.win.length<=100000:=by have:=g.win;omega
 have hold:=t_hhold (s:=s) (hb:=hb) (x:=x) (A:=A) hk24 (g.sl k hk24) hT hw;refine ifD (fun q=>?_) (fun q=>?_)
 ·rw[if_pos (by omega)] at r;refine hold.use (C:=emp) h (by rw[Q0c]) fun v w1 F1 h1 s1=>?_;rw[Q0c] at h1;obtain⟨rfl,h1⟩:=h1;refine⟨_,_,rfl,?_⟩;cases hB:hoB s A H k with
  | false=>
   have eA:hoA s A H k=A:=by unfold hoA;rw[hB];rfl
   have eH:hoH s A H k=H:=by unfold hoH;rw[hB];rfl
   rw[hB] at r;rw[eA,eH] at h1;exact Q04 rfl (r w1 F1 x h1 s1)
  | true=>
   rw[hB] at r;exact Q00 rfl (cplace hk24 _ _ ⟨_,_,rfl,r w1 F1 x h1 s1⟩)
 rw[if_neg (by omega)] at r;have hk8:k<8:=by omega
 have h0:(hpX s hb x H*axT s A).P w F:=re h (zztmc _ _);obtain⟨Fl,hl,_⟩:=Q0e (A:=liT (x.lp k) (H.ln k)) (Y:=hpLn s hb x H ⟨k,hk8⟩*axT s A) h0 (by rw[Q3N (k:=⟨k,hk8⟩)];ac_rfl);refine⟨by omega,by omega,_,by rw[zztnc];exact hc_ln h0 rfl hk8,t_lfront hl ⟨_,rfl,?_⟩⟩;have hlb:=(li_facts hl).2;cases hL:H.ln k with
 | cons v rest=>
  have hv:=hlb v (by rw[hL];simp);obtain⟨gp,hS,hgk,_⟩:=((g.ln k hk8).2 v).1 (by rw[hL];simp);have e:malK s A H k=maF A H k v gp:=by unfold malK;rw[hL];show(match H.S v with | some g=>_ | none=>_)=_;rw[hS]
  rw[e] at r;have:=mFr_ok (R:=R) h g.nb hk8 hS hgk hv (by rw[hL];simp) (by have:=g.lnlt hk8;omega) hts (fun w' F' p st=>r w' F' x p st);exact ifD_true (show v>=0 by omega) this
 | nil=>
  refine Q0y (by decide) (hold.use (C:=emp) h (by rw[Q0c]) fun v w1 F1 h1 s1=>?_);rw[Q0c] at h1;obtain⟨rfl,h1⟩:=h1;refine⟨_,_,rfl,?_⟩;cases hB:hoB s A H k with
  | false=>
   have eA:hoA s A H k=A:=by unfold hoA;rw[hB];rfl
   have eH:hoH s A H k=H:=by unfold hoH;rw[hB];rfl
   have e:malK s A H k=⟨0,13,A,H⟩:=by unfold malK;rw[hL,hB];rfl
   rw[e] at r;rw[eA,eH] at h1;exact Q00 rfl (r w1 F1 x h1 s1)
  | true=>
   have e:malK s A H k=maF (hoA s A H k) (nwH s A H k) k (nwV H k) (nwG s A H k):=by unfold malK;rw[hL,hB];rfl
   rw[e] at r;obtain⟨m,hm,hms,hf,tk,eI,eA,eH⟩:=hold_at g hk24 hB;have eV:nwV H k=(locN k m:Int):=by unfold nwV;rw[hm,zztnc]
   obtain⟨l1,l2⟩:=Q1c hk24 hms;have hp1:pagN k=1:=if_pos hk8;have hsome:(fndO (hoH s A H k).T (locN k m:Int)).isSome=true:=by rw[eH];exact(tk.keys _).2 (.inr ⟨0,by omega,by simp⟩)
   obtain⟨y,hy⟩:=zzise.1 hsome;have hyT:=(Q0a hy).1;have hyT2:y ∈ tkT s.C H.win A.cs H.T (locN k m) (pagN k):=by rw[eH] at hyT;exact hyT
   obtain⟨p,hp⟩:=zzeoz (tk.tok.rng y hyT2).2.2.1;have hpc:=(zzgsi.1 (tk.own y hyT2)).1;rw[tk.len,hp,zztnc] at hpc;have efn:fnd (hoH s A H k).T (locN k m:Int)=(p:Int):=by unfold fnd;rw[hy];exact hp
   have eG:nwG s A H k=⟨p*512,k,newPq k⟩:=by unfold nwG;rw[eV,efn,zztnc]
   have hSn:H.S (locN k m:Int)=none:=by
    cases hS:H.S (locN k m:Int)with
    | none=>rfl
    | some q=>
     obtain⟨q8,_,m',hm',e',ht,_⟩:=g.pg _ q hS;obtain⟨rfl,rfl,_⟩:=Q1a (i:=0) (i':=0) hk24 (by omega) hms hm' (Q0B _) (Q0B _) (by omega);rw[hf] at ht;cases ht
   have e512:=g.nc;have enb:=g.nb;have ep4:=g.p4;rw[eI];refine Q04 rfl (clocal hk24 hms ⟨_,rfl,?_⟩);rintro w2 rfl;have hE2:=Ext.drew w1;have h2:(hpX s hb x (hoH s A H k)*axT s (hoA s A H k)).P w1.drew F1:=re (Thing.grow h1 hE2) (zztmc _ _);obtain⟨Ft,ht,_⟩:=Q0e (A:=tbT x.tb (hoH s A H k).T) (Y:=hpTb s hb x (hoH s A H k)*axT s (hoA s A H k)) h2 (by rw[show hpX s hb x (hoH s A H k)=_ from hp_tb (H:=hoH s A H k) (hoH s A H k).T];ac_rfl);refine⟨_,hc_mp h2 rfl,_,hc_ar h2 rfl,_,Q3y h2 rfl,t_tfind ht (i64w (by omega) (by omega)) ⟨_,rfl,⟨_,hc_ar h2 rfl,rfl⟩,⟨_,hc_mp h2 rfl,rfl⟩,?_⟩⟩;rw[efn,Q03 (by omega) (by omega),show(p:Int)*512=((p*512:Nat):Int) by omega];have ebs:(hoA s A H k).bs=A.bs:=by rw[eA]
   refine(t_pgnew (ap:=s.ap) (bs:=A.bs) (ts:=(hoA s A H k).ts) (base:=p*512) (kind:=k) hk8 (by rw[show(512:Int)=((512:Nat):Int)from rfl,<-Int.ofNat_tmod,Nat.mul_mod_left];rfl) (by omega)).use (C:=hpX s hb x (hoH s A H k)*(tabT s.o*coT s.mb s.nC s.C (hoA s A H k).cs)) h2 (by unfold axT;rw[ebs];ac_rfl) fun u w3 F3 h3 s3=>?_;obtain⟨pb,rfl,h3b⟩:=Q0n h3;have h3:(hpX s hb x (hoH s A H k)*(axT s (hoA s A H k)*pgT s.n pb s.ap (p*512) k (newPq k))).P w3 F3:=re h3b (by unfold axT;rw[ebs,enb];ac_rfl);refine⟨_,_,rfl,⟨_,hc_mp h3 rfl,rfl⟩,?_⟩;have eS:(hoH s A H k).S=H.S:=by rw[eH]
   have few:∀j,(smM x.pp (hoH s A H k).S j).isSome=true->0<=j /\ j<10000000:=fun j hj=>by
    rw[eS] at hj;unfold smM at hj;cases hS:H.S j with
    | none=>rw[hS] at hj;cases hj
    | some q=>have:=g.keys hS;omega
   obtain⟨w4,F4,r4,h4,s4⟩:=Q2N (C:=(fam (smF s x.pp (hoH s A H k).S)*(blk hb (hpO s x)*(rowT x.wv (hoH s A H k).win*(tbT x.tb (hoH s A H k).T*(fam (slF x.sp (hoH s A H k).sl)*fam (lnF8 x.lp (hoH s A H k).ln))))))*(axT s (hoA s A H k)*pgT s.n pb s.ap (p*512) k (newPq k))) h3 (by rw[hp_mp];ac_rfl)
    Q0K pg_map (k:=(locN k m:Int)) (i64w (by omega) (by omega)) ((zP pb)) few
   refine⟨w4,r4,?_⟩;have h4:(hpX s hb {x with pp:=updI x.pp (locN k m) pb} {hoH s A H k with S:=updI (hoH s A H k).S (locN k m) (some ⟨p*512,k,newPq k⟩)}*axT s (hoA s A H k)).P w4 F4:=re h4 (by rw[hp_add (H:=hoH s A H k) (by rw[eS];exact hSn)];ac_rfl);have eL:(hoH s A H k).ln k=[]:=by rw[eH];exact hL
   refine(t_lpush (lb:=x.lp k) (l:=[]) (k:=(locN k m:Int)) (by omega) (by omega) (by simp)).use (C:=hpLn s hb {x with pp:=updI x.pp (locN k m) pb} {hoH s A H k with S:=updI (hoH s A H k).S (locN k m) (some ⟨p*512,k,newPq k⟩)} ⟨k,hk8⟩*axT s (hoA s A H k)) h4 (by
    rw[Q3N (k:=⟨k,hk8⟩)];show liT (x.lp k) ((hoH s A H k).ln k)*_*_=_;rw[eL];ac_rfl) fun u w5 F5 h5 s5=>?_
   rw[if_neg (by simp),Q06] at h5;obtain⟨rfl,h5⟩:=h5;have eN:nwH s A H k={hoH s A H k with S:=updI (hoH s A H k).S (locN k m) (some ⟨p*512,k,newPq k⟩),ln:=updF (hoH s A H k).ln k ([]++[(locN k m:Int)])}:=by
    unfold nwH;rw[eV,eG,eS,hL];have:(hoH s A H k).ln=H.ln:=by rw[eH]
    rw[this]
   have h5:(axT s (hoA s A H k)*hpX s hb {x with pp:=updI x.pp (locN k m) pb} (nwH s A H k)).P w5 F5:=re h5 (by
    have:=hp_ln (s:=s) (hb:=hb) (x:={x with pp:=updI x.pp (locN k m) pb}) (H:={hoH s A H k with S:=updI (hoH s A H k).S (locN k m) (some ⟨p*512,k,newPq k⟩)}) ⟨k,hk8⟩ ([]++[(locN k m:Int)]);rw[eN];show _=_*hpX s hb _ {hoH s A H k with S:=updI (hoH s A H k).S (locN k m) (some ⟨p*512,k,newPq k⟩),ln:=updF (hoH s A H k).ln k ([]++[(locN k m:Int)])};rw[this];ac_rfl)
   have st:Step F w F5 w5:=(((s1.trans (Step.ext hE2)).trans s3).trans s4).trans s5;refine⟨_,rfl,fun f w6=>w6=w5,⟨0,rfl⟩,?_⟩;rintro f jv w6 rfl;have h6:(hpX s hb {x with pp:=updI x.pp (locN k m) pb} (nwH s A H k)*axT s (hoA s A H k)).P w6 F5:=re h5 (zztmc _ _);have eLn:(nwH s A H k).ln k=[(locN k m:Int)]:=by rw[eN];show updF _ k _ k=_;exact if_pos rfl
   obtain⟨Fl6,hl6,_⟩:=Q0e (A:=liT (x.lp k) [(locN k m:Int)]) (Y:=hpLn s hb {x with pp:=updI x.pp (locN k m) pb} (nwH s A H k) ⟨k,hk8⟩*axT s (hoA s A H k)) h6 (by
    rw[Q3N (k:=⟨k,hk8⟩)];show liT (x.lp k) ((nwH s A H k).ln k)*_*_=_;rw[eLn];ac_rfl)
   refine t_lfront hl6 ⟨_,rfl,ifD_true (show(locN k m:Int)>=0 by omega) ?_⟩;rw[eV,eG] at r;exact mFr_ok (R:=R) (x:={x with pp:=updI x.pp (locN k m) pb}) (v:=(locN k m:Int)) h5 (by rw[ebs,enb]) hk8 (show(nwH s A H k).S (locN k m)=some ⟨p*512,k,newPq k⟩ by rw[eN];exact if_pos rfl) rfl ⟨by omega,by omega⟩ (by rw[eLn];simp) (by rw[eLn];simp) (by rw[eA];exact hts)
    (fun w' F' p st2=>r w' F' _ p (st.trans st2))
end
end
section
open Go.RowKit Go.Maps Thing
def hasB(H:Hp)(v b:Int):Bool:=match H.S v with | some g=>Sf.isTaken g.q.hs b | none=>false
def blkM(H:Hp)(addr:Int):Option (Nat × Nat × Nat):=match fndA addr with
 | some (k,m,b)=>if Sf.isTaken (H.sl k) (m:Int)=true /\ (k<8->hasB H (locN k m) (b:Int)=true)then some (k,m,b)else none
 | none=>none
def blkV(o:Option (Nat × Nat × Nat)):Value:=match o with
 | some (k,m,b)=>.tuple #[.int .i64 (k:Int),.int .i64 (m:Int),.int .i64 (b:Int),.int .i64 0]
 | none=>.tuple #[.int .i64 0,.int .i64 0,.int .i64 0,.int .i64 13]
theorem Q0Y{H:Hp}{addr:Int}{k m b:Nat}(h:blkM H addr=some (k,m,b)):k<24 /\ m<sltN k /\ b<perM k /\ addr=(adrN k m b:Int) /\ (H.sl k)[m]? = some true /\ (k<8->∃g,H.S (locN k m)=some g /\ g.q.hs[b]? = some true):=by
 unfold blkM at h;split at h
 ·rename_i k' m' b' e;split at h
  ·rename_i q;cases h;obtain⟨a1,a2,a3,a4⟩:=fndA_some e;refine⟨a1,a2,a3,a4,?_,fun k8=>?_⟩
   ·have:=zzodt q.1;have:=this.2
    rwa [zztnc] at this
   ·have:=q.2 k8;unfold hasB at this;cases hS:H.S (locN k m)with
    | none=>rw[hS] at this;cases this
    | some g=>
     rw[hS] at this;have:=(zzodt this).2;rw[zztnc] at this;exact⟨g,rfl,this⟩
  ·cases h
 ·cases h
theorem phas_nil(w:World)(k:Int){R:VW}(r:R (.bool false) w):CS 209 #[.pointer none,.int .i64 k] w R:=⟨vc36.ok (Q00 rfl r)⟩
section
variable{s:Sv}{hb:Nat}{x:Hl}{H:Hp}{A:Ax}{w:World}{F:Nat->Prop}{X C:Thing}{R:VW}
theorem t_hblock(h:X.P w F)(e:X=hpX s hb x H*(axT s A*C))(hn:A.bs.length=s.n)(addr:Int)(r:∀w',Ext w w'->R (blkV (blkM H addr)) w') :
  CS 151 #[zP hb,.int .i64 addr] w R:=by
 constructor;refine vc166.ok ?_;unfold vc166;refine Q00 rfl (cfind addr fun w1 hE1=>?_);cases ef:fndA addr with
 | none=>
  have eB:blkM H addr=none:=by unfold blkM;rw[ef]
  rw[eB] at r;refine⟨_,_,_,_,rfl,?_⟩;rintro w2 rfl;exact Q04 rfl ⟨rfl,rfl,rfl,r _ (hE1.trans (Ext.drew w1))⟩
 | some y=>
  obtain⟨k,m,b⟩:=y;obtain⟨hk,hm,hb',ea⟩:=fndA_some ef;refine⟨_,_,_,_,rfl,?_⟩;rintro w2 rfl;have hE2:=hE1.trans (Ext.drew w1);have h2:=Thing.grow h hE2;obtain⟨Fs,hs,_⟩:=Q0e (A:=shT (x.sp k) (H.sl k)) (Y:=hpSl s hb x H ⟨k,hk⟩*(axT s A*C)) h2 (by rw[e,hp_sl0 (k:=⟨k,hk⟩)];ac_rfl);refine Q00 rfl ⟨by omega,by omega,rfl,_,by rw[zztnc];exact hc_sl h2 e hk,t_staken hs (m:Int) fun w3 hE3=>⟨_,rfl,rfl,rfl,?_⟩⟩;have hE4:=hE2.trans hE3;have h3:=Thing.grow h2 hE3;cases ht:Sf.isTaken (H.sl k) (m:Int)with
  | false=>
   have eB:blkM H addr=none:=by unfold blkM;rw[ef];exact if_neg fun q=>by rw[ht] at q;cases q.1
   rw[eB] at r;exact Q04 rfl ⟨rfl,rfl,r _ hE4⟩
  | true=>
   refine Q00 rfl (ifD (fun q8=>?_) (fun q8=>?_))
   ·have k8:k<8:=by omega
    obtain⟨l1,l2⟩:=Q1c hk hm;refine⟨_,hc_mp h3 e,clocal hk hm ⟨_,rfl,⟨_,hc_mp h3 e,rfl⟩,?_⟩⟩;have hl:=hp_look h3 e (v:=(locN k m:Int)) (i64w (by omega) (by omega));cases hS:H.S (locN k m:Int)with
    | none=>
     rw[hS] at hl;have eB:blkM H addr=none:=by unfold blkM;rw[ef];exact if_neg fun q=>by have:=q.2 k8;unfold hasB at this;rw[hS] at this;cases this
     rw[eB] at r;exact⟨_,_,hl,rfl,phas_nil _ _ ⟨_,rfl,rfl,rfl,rfl,Q04 rfl (r _ hE4)⟩⟩
    | some g=>
     rw[hS] at hl;obtain⟨Fp,hp,_⟩:=Q0e (A:=arT s.ap A.bs A.ts*pgT A.bs.length (x.pp (locN k m)) s.ap g.base g.kind g.q) (Y:=hpPg s hb x H (locN k m)*(tabT s.o*coT s.mb s.nC s.C A.cs)*C) h3 (by rw[e,Q2A hS,hn];unfold axT;ac_rfl);refine⟨_,_,hl,rfl,(Q2C hp).has (b:Int) ⟨_,rfl,rfl,rfl,rfl,?_⟩⟩;have eq0:(g.q.st A.bs A.ts).hs=g.q.hs:=rfl;rw[eq0];cases hh:Sf.isTaken g.q.hs (b:Int)with
     | false=>
      have eB:blkM H addr=none:=by unfold blkM;rw[ef];exact if_neg fun q=>by have:=q.2 k8;unfold hasB at this;rw[hS] at this;rw[show(match some g with | some g=>Sf.isTaken g.q.hs (b:Int) | none=>false)=Sf.isTaken g.q.hs (b:Int)from rfl,hh] at this;cases this
      rw[eB] at r;exact Q04 rfl (r _ hE4)
     | true=>
      have eB:blkM H addr=some (k,m,b):=by unfold blkM;rw[ef];exact if_pos ⟨ht,fun _=>by unfold hasB;rw[hS];exact hh⟩
      rw[eB] at r;exact Q00 rfl (r _ hE4)
   ·have eB:blkM H addr=some (k,m,b):=by unfold blkM;rw[ef];exact if_pos ⟨ht,fun z=>absurd z (by omega)⟩
    rw[eB] at r;exact⟨rfl,rfl,rfl,r _ hE4⟩
def usbI(H:Hp)(addr:Int):Int:=match blkM H addr with | some (k,_,_)=>(untN k:Int) | none=>0
def usbE(H:Hp)(addr:Int):Int:=match blkM H addr with | some _=>0 | none=>13
theorem Q21(h:X.P w F)(e:X=hpX s hb x H*(axT s A*C))(hn:A.bs.length=s.n)(addr:Int)(r:∀w',Ext w w'->R (.tuple #[.int .i64 (usbI H addr),.int .i64 (usbE H addr)]) w') :
  CS 95 #[zP hb,.int .i64 addr] w R:=by
 constructor;refine vc145.ok ?_;unfold vc145;refine t_hblock h e hn addr fun w1 hE1=>?_;cases eb:blkM H addr with
 | none=>
  have e1:usbI H addr=0:=by unfold usbI;rw[eb]
  have e2:usbE H addr=13:=by unfold usbE;rw[eb]
  rw[e1,e2] at r;exact⟨_,_,_,_,rfl,Q04 rfl (r _ hE1)⟩
 | some y=>
  obtain⟨k,m,b⟩:=y;have e1:usbI H addr=(untN k:Int):=by unfold usbI;rw[eb]
  have e2:usbE H addr=0:=by unfold usbE;rw[eb]
  rw[e1,e2] at r;exact⟨_,_,_,_,rfl,Q00 rfl (cunt (Q0Y eb).1 ⟨_,rfl,r _ hE1⟩)⟩
end
def Hp.push(H:Hp)(k:Nat)(v:Int):Hp:={H with ln:=updF H.ln k (H.ln k++[v])}
def Hp.gone(H:Hp)(v:Int):Hp:={H with S:=updI H.S v none}
def frP(A:Ax)(H:Hp)(k m b:Nat)(g:Pg):Mr:=
 if (freS (unitN k) (perN k) g.base (g.q.st A.bs A.ts) (b:Int)).hs.count true=0 then
  ⟨0,0,reA (A.put (freS (unitN k) (perN k) g.base (g.q.st A.bs A.ts) (b:Int))) H.T (locN k m) (pagN k),reH (((H.page (locN k m) g (freS (unitN k) (perN k) g.base (g.q.st A.bs A.ts) (b:Int))).cut k (locN k m)).gone (locN k m)) k m⟩
 else⟨0,0,A.put (freS (unitN k) (perN k) g.base (g.q.st A.bs A.ts) (b:Int)),H.page (locN k m) g (freS (unitN k) (perN k) g.base (g.q.st A.bs A.ts) (b:Int))⟩
def freM(A:Ax)(H:Hp)(addr:Int):Mr:=match blkM H addr with
 | none=>⟨0,13,A,H⟩
 | some (k,m,b)=>if 8<=k then⟨0,0,reA A H.T (locN k m) (pagN k),reH H k m⟩else match H.S (locN k m)with
  | none=>⟨0,0,A,H⟩
  | some g=>frP A (if g.q.hs.count false=0 then H.push k (locN k m)else H) k m b g
def fTl(hb:Nat)(p13:Option Addr)(i2 i3 i4 i10:Int)(w16:World)(R:VW):Prop:=
 CS 237 #[.pointer p13,.int .i64 i4] w16 fun v39 w40=>∃i41:Int,v39=.int .i64 i41 /\ ifB (i41 == 0) (CS 238 #[.pointer p13] w40 fun v42 w43=>∃i44:Int,v42=.int .i64 i44 /\ ifB (i44 == 0)
  (0<=i2 /\ i2<(↑(8:Nat):Int) /\ ∃p46:Option Addr,w43.cell? (((zA hb).add 28).add i2.toNat)=some (.pointer p46) /\ CS 233 #[.pointer p46,.int .i64 i10] w43 fun v47 w48=>∃i49:Int,v47=.int .i64 i49 /\
   ∃p51:Option Nat,w48.cell? ((zA hb).add 36)=some (.map p51) /\ ∃w52:World,Sem.run Tryz.prog (Builtin.delete_ #[147,3] 0 #[.map p51,.int .i64 i10]) w48=.ok (.tuple #[]) w52 /\
    CS 236 #[zP hb,.int .i64 i2,.int .i64 i3] w52 fun v53 w54=>v53=.tuple #[] /\ R (.int .i64 i41) w54) (R (.int .i64 i41) w43)) (R (.int .i64 i41) w40)
section
variable{s:Sv}{hb:Nat}{x:Hl}{H:Hp}{A:Ax}{w:World}{F:Nat->Prop}{X C:Thing}{R:VW}
theorem hp_del{v:Int}{g:Pg}(h:H.S v=some g)(Y:Thing):mpT 3 x.mp (upd (smM x.pp H.S) v none)*((fam (smF s x.pp H.S)*(blk hb (hpO s x)*(rowT x.wv H.win*(tbT x.tb H.T*(fam (slF x.sp H.sl)*fam (lnF8 x.lp H.ln))))))*Y) =
  pgT s.n (x.pp v) s.ap g.base g.kind g.q*(hpX s hb x (H.gone v)*Y):=by
 have e1:upd (smM x.pp H.S) v none=smM x.pp (updI H.S v none):=by
  funext j;unfold upd smM updI;by_cases e:j=v
  ·subst e;simp
  ·simp[e]
 have e2:smF s x.pp (updI H.S v none)=Thing.upd (smF s x.pp H.S) v emp:=by
  funext j;unfold smF updI Thing.upd;by_cases e:j=v
  ·subst e;simp
  ·simp[e]
 have e3:fam (smF s x.pp H.S)=pgT s.n (x.pp v) s.ap g.base g.kind g.q*fam (Thing.upd (smF s x.pp H.S) v emp):=by
  have:=Q3J (smF s x.pp H.S) v;rw[show smF s x.pp H.S v=pgT s.n (x.pp v) s.ap g.base g.kind g.q by unfold smF;rw[h]] at this;exact this
 unfold hpX Hp.gone;show _=_*((_*(_*(_*(_*(_*(mpT _ x.mp (smM x.pp (updI H.S v none))*fam (smF s x.pp (updI H.S v none))))))))*Y);rw[e1,e2,e3];ac_rfl
theorem fTl_ok{k m b:Nat}{g:Pg}(h:(axT s A*hpX s hb x H).P w F)(hn:A.bs.length=s.n)(hk:k<8)(hm:m<sltN k)(hS:H.S (locN k m)=some g)(hgk:g.kind=k)(hgb:g.q.hs[b]? = some true)(hl:(locN k m:Int) ∈ H.ln k)(hll:(H.ln k).length<800000)
  (hT:∀y ∈ H.T,y.2.toNat*512+512<=A.bs.length) (hts:A.ts.length<200000000000)
  (r:∀w' F',(axT s (frP A H k m b g).A*hpX s hb x (frP A H k m b g).H).P w' F'->Step F w F' w'->R (.int .i64 0) w'):fTl hb (some ⟨x.pp (locN k m),0,none⟩) (k:Int) (m:Int) (b:Int) (locN k m:Int) w R:=by
 subst hgk;have h:(hpX s hb x H*axT s A).P w F:=re h (zztmc _ _);obtain⟨l1,l2⟩:=Q1c (k:=g.kind) (by omega) hm;have hE0:Sf.giveE g.q.hs (b:Int)=0:=by
  unfold Sf.giveE;rw[if_pos ⟨by omega,by have:=(zzgsi.1 hgb).1;omega⟩,zztnc,if_pos hgb]
 refine(t_pfree2 (ap:=s.ap) (pb:=x.pp (locN g.kind m)) (base:=g.base) (kind:=g.kind) (bs:=A.bs) (ts:=A.ts) (q:=g.q) (by omega) (b:Int)).use (C:=hpPg s hb x H (locN g.kind m)*(tabT s.o*coT s.mb s.nC s.C A.cs)) h (by rw[Q2A hS,hn];unfold axT;ac_rfl) fun u w1 F1 h1 s1=>?_;rw[Q06] at h1;obtain⟨⟨rfl,hlen⟩,h1⟩:=h1;rw[hE0];have hts1:(freS (unitN g.kind) (perN g.kind) g.base (g.q.st A.bs A.ts) (b:Int)).ts.length<=A.ts.length+2:=by
  unfold freS;split
  ·simp[pusS,zerS,givS,Pq.st]
  ·simp[givS,Pq.st]
 unfold frP at r;generalize freS (unitN g.kind) (perN g.kind) g.base (g.q.st A.bs A.ts) (b:Int)=st at h1 hlen hts1 r;have hS1:(H.page (locN g.kind m) g st).S (locN g.kind m)=some {g with q:=st.pq}:=if_pos rfl;have e1:hpX s hb x (H.page (locN g.kind m) g st)*axT s (A.put st)=arT s.ap st.bs st.ts*pgT A.bs.length (x.pp (locN g.kind m)) s.ap g.base g.kind st.pq*(hpPg s hb x H (locN g.kind m)*(tabT s.o*coT s.mb s.nC s.C A.cs)):=by
  have:=hp_pg (s:=s) (hb:=hb) (x:=x) hS {g with q:=st.pq};unfold Hp.page axT;rw[this,hn];show _*(tabT s.o*(arT s.ap st.bs st.ts*coT s.mb s.nC s.C A.cs))=_;ac_rfl
 have h1:(hpX s hb x (H.page (locN g.kind m) g st)*axT s (A.put st)).P w1 F1:=re h1 e1.symm;refine⟨_,rfl,Q04 rfl ?_⟩;refine(t_pused (ap:=s.ap) (pb:=x.pp (locN g.kind m)) (base:=g.base) (kind:=g.kind) (bs:=st.bs) (ts:=st.ts) (q:=st.pq)).use (C:=hpPg s hb x H (locN g.kind m)*(tabT s.o*coT s.mb s.nC s.C A.cs)) h1 (by rw[e1,hlen]) fun u w2 F2 h2 s2=>?_;rw[Q06] at h2;obtain⟨rfl,h2⟩:=h2;have h2:(hpX s hb x (H.page (locN g.kind m) g st)*axT s (A.put st)).P w2 F2:=re h2 (by rw[e1,hlen]);refine⟨_,rfl,Q05 (fun q=>?_) (fun q=>?_)⟩
 ·have q:st.hs.count true=0:=by
   have:st.pq.hs.count true=0:=by simpa using q
   exact this
  rw[if_pos q] at r;refine⟨by omega,by omega,_,by rw[zztnc];exact hc_ln h2 rfl hk,?_⟩;refine(t_lcut (lb:=x.lp g.kind) (l:=H.ln g.kind) (k:=(locN g.kind m:Int)) (by omega) (by omega) hll).use (C:=hpLn s hb x (H.page (locN g.kind m) g st) ⟨g.kind,hk⟩*axT s (A.put st)) h2 (by rw[Q3N (k:=⟨g.kind,hk⟩)];show liT _ (H.ln g.kind)*_*_=_;ac_rfl) fun u w3 F3 h3 s3=>?_;rw[if_pos hl,Q06] at h3;obtain⟨rfl,h3⟩:=h3;have h3:(hpX s hb x ((H.page (locN g.kind m) g st).cut g.kind (locN g.kind m))*axT s (A.put st)).P w3 F3:=re h3 (by
   have:=hp_ln (s:=s) (hb:=hb) (x:=x) (H:=H.page (locN g.kind m) g st) ⟨g.kind,hk⟩ ((H.ln g.kind).erase (locN g.kind m));unfold Hp.cut;show _=hpX s hb x {H.page (locN g.kind m) g st with ln:=updF (H.page (locN g.kind m) g st).ln g.kind ((H.ln g.kind).erase (locN g.kind m))}*_;rw[this];ac_rfl)
  refine⟨_,rfl,_,hc_mp h3 rfl,?_⟩;obtain⟨w4,F4,r4,h4,s4⟩:=mp_drop (C:=(fam (smF s x.pp (H.page (locN g.kind m) g st).S)*(blk hb (hpO s x)*(rowT x.wv H.win*(tbT x.tb H.T*(fam (slF x.sp H.sl)*fam (lnF8 x.lp ((H.page (locN g.kind m) g st).cut g.kind (locN g.kind m)).ln))))))*axT s (A.put st)) h3 (by rw[hp_mp];show _=_*_;ac_rfl)
   Q0K pg_map (k:=(locN g.kind m:Int)) (i64w (by omega) (by omega)) 0
  refine⟨w4,r4,?_⟩;have h4:=re h4 (hp_del (s:=s) (hb:=hb) (x:=x) (H:=(H.page (locN g.kind m) g st).cut g.kind (locN g.kind m)) hS1 (axT s (A.put st)));obtain⟨F5,h5,sub5⟩:=Q07 h4;refine(Q3Q (s:=s) (hb:=hb) (x:=x) (H:=((H.page (locN g.kind m) g st).cut g.kind (locN g.kind m)).gone (locN g.kind m)) (A:=A.put st) (k:=g.kind) (m:=m) (by omega) hm (fun y hy=>by show _<=st.bs.length;rw[hlen];exact hT y hy) (by show st.ts.length<_;omega)).use (C:=emp) h5 (by rw[Q0c,zztmc]) fun u w6 F6 h6 s6=>?_;rw[Q0c] at h6;obtain⟨rfl,h6⟩:=h6;exact⟨rfl,r w6 F6 h6 ((((s1.trans s2).trans s3).trans (s4.sub sub5)).trans s6)⟩
 ·have q:st.hs.count true ≠ 0:=by
   intro z;have z2:((st.pq.hs.count true:Nat):Int)=0:=by
    show((st.hs.count true:Nat):Int)=0;omega
   simp[z2] at q
  rw[if_neg q] at r;exact r w2 F2 (re h2 (zztmc _ _)) (s1.trans s2)
theorem t_hfree(g:HOk s A H)(hts:A.ts.length<200000000000)(addr:Int):Tri 186 #[zP hb,.int .i64 addr] (axT s A*hpX s hb x H)
  (fun v=>only (v=.int .i64 (freM A H addr).E) (axT s (freM A H addr).A*hpX s hb x (freM A H addr).H)):=by
 intro w F R h r;have r:∀w' F',(axT s (freM A H addr).A*hpX s hb x (freM A H addr).H).P w' F'->Step F w F' w'->R (.int .i64 (freM A H addr).E) w':=fun w' F' p st=>r _ w' F' ⟨rfl,p⟩ st;constructor;refine vc183.ok ?_;unfold vc183;have h:(hpX s hb x H*axT s A).P w F:=re h (zztmc _ _);refine t_hblock (A:=A) (C:=emp) h (by rw[Q0c]) g.nb addr fun w1 hE1=>?_;have h1:=Thing.grow h hE1;cases eb:blkM H addr with
 | none=>
  have e:freM A H addr=⟨0,13,A,H⟩:=by unfold freM;rw[eb]
  rw[e] at r;exact⟨_,_,_,_,rfl,Q04 rfl (r w1 F (re h1 (zztmc _ _)) (Step.ext hE1))⟩
 | some y=>
  obtain⟨k,m,b⟩:=y;obtain⟨hk,hm,hbp,ea,ht,hS8⟩:=Q0Y eb;refine⟨_,_,_,_,rfl,Q00 rfl (ifD (fun q=>?_) (fun q=>?_))⟩
  ·have e:freM A H addr=⟨0,0,reA A H.T (locN k m) (pagN k),reH H k m⟩:=by unfold freM;rw[eb];exact if_pos (by omega)
   rw[e] at r;refine(Q3Q (s:=s) (hb:=hb) (x:=x) (H:=H) (A:=A) hk hm g.tin (by omega)).use (C:=emp) h1 (by rw[Q0c,zztmc]) fun u w2 F2 h2 s2=>?_;rw[Q0c] at h2;obtain⟨rfl,h2⟩:=h2;exact⟨rfl,r w2 F2 h2 ((Step.ext hE1).trans s2)⟩
  ·have k8:k<8:=by omega
   obtain⟨gp,hS,hgb⟩:=hS8 k8;obtain⟨l1,l2⟩:=Q1c hk hm;have hgk:gp.kind=k:=by
    obtain⟨gp',e1,e2⟩:=g.sm k m k8 ht;rw[hS] at e1;cases e1;exact e2
   have e:freM A H addr=frP A (if gp.q.hs.count false=0 then H.push k (locN k m)else H) k m b gp:=by
    unfold freM;rw[eb];show(if 8<=k then _ else _)=_;rw[if_neg (by omega),hS]
   rw[e] at r;have hE:∀H',(frP A H' k m b gp).E=0:=fun H'=>by unfold frP;split <;> rfl
   rw[hE] at r;refine clocal hk hm ⟨_,rfl,_,hc_mp h1 rfl,_,w1,by rw[hp_look h1 rfl (i64w (by omega) (by omega)),hS],?_⟩;have hn:=g.nb;refine(t_pfull (ap:=s.ap) (pb:=x.pp (locN k m)) (base:=gp.base) (kind:=gp.kind) (bs:=A.bs) (ts:=A.ts) (q:=gp.q)).use (C:=hpPg s hb x H (locN k m)*(tabT s.o*coT s.mb s.nC s.C A.cs)) h1 (by rw[Q2A hS,hn];unfold axT;ac_rfl) fun u w2 F2 h2 s2=>?_;rw[Q06] at h2;obtain⟨rfl,h2⟩:=h2;have h2:(hpX s hb x H*axT s A).P w2 F2:=re h2 (by rw[Q2A hS,hn];unfold axT;ac_rfl);have hll:=g.lnlt k8;refine⟨_,rfl,Q05 (fun q2=>?_) (fun q2=>?_)⟩
   ·have q2:gp.q.hs.count false=0:=by simpa using q2
    rw[if_pos q2] at r;have hnl:(locN k m:Int) ∉ H.ln k:=fun z=>by
     obtain⟨g',a1,a2,a3⟩:=((g.ln k k8).2 _).1 z;rw[hS] at a1;cases a1;exact a3 q2
    refine⟨by omega,by omega,_,by rw[zztnc];exact hc_ln h2 rfl k8,?_⟩;refine(t_lpush (lb:=x.lp k) (l:=H.ln k) (k:=(locN k m:Int)) (by omega) (by omega) (by omega)).use (C:=hpLn s hb x H ⟨k,k8⟩*axT s A) h2 (by rw[Q3N (k:=⟨k,k8⟩)];ac_rfl) fun u w3 F3 h3 s3=>?_;rw[if_neg hnl,Q06] at h3;obtain⟨rfl,h3⟩:=h3;have h3:(axT s A*hpX s hb x (H.push k (locN k m))).P w3 F3:=re h3 (by
     have:=hp_ln (s:=s) (hb:=hb) (x:=x) (H:=H) ⟨k,k8⟩ (H.ln k++[(locN k m:Int)]);unfold Hp.push;rw[this];ac_rfl)
    have eln:(H.push k (locN k m)).ln k=H.ln k++[(locN k m:Int)]:=if_pos rfl;refine⟨_,rfl,?_⟩;exact fTl_ok (R:=R) (H:=H.push k (locN k m)) (g:=gp) h3 hn k8 hm hS hgk hgb (by rw[eln];simp) (by rw[eln,zzlna,List.length_singleton];omega) g.tin hts
     (fun w' F' p st=>r w' F' p ((((Step.ext hE1).trans s2).trans s3).trans st))
   ·have q2:gp.q.hs.count false ≠ 0:=by
     intro z;simp[z] at q2
    rw[if_neg q2] at r;exact fTl_ok (R:=R) (H:=H) (g:=gp) (re h2 (zztmc _ _)) hn k8 hm hS hgk hgb (((g.ln k k8).2 _).2 ⟨gp,hS,hgk,q2⟩) (by omega) g.tin hts
     (fun w' F' p st=>r w' F' p (((Step.ext hE1).trans s2).trans st))
end
end
end Go.Proofs.YtpnbcakbefplpaaGreatDoor
