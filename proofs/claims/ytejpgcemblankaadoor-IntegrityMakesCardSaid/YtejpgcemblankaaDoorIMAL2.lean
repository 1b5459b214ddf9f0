/- The abstract machine, printed functions of the program, and what they are shown to be. -/
import Derived.Test.YtejpgcemblankaaDoorIMAL1
set_option linter.unusedSimpArgs false
set_option linter.unusedVariables false
set_option linter.unusedSectionVars false
set_option maxRecDepth 100000
namespace Go.Am.X
theorem i_shl {k':IntKind}{x n:Nat}(h:x*2 ^ (min n 64)<=9223372036854775807)(c:V->Ans):binK .shl (.int .i64 (x:Int)) (.int k' (n:Int)) c=c (.int .i64 ((x*2 ^ (min n 64):Nat):Int)):=by
 show zCX .shl .i64 x k' n c=_
 simp only[zCX,zRJ]
 simp only[zAP,zHR]
 refine congrArg (fun z=>c (.int .i64 z)) ?_
 have e:wr .i64 ((x*2 ^ (min n 64):Nat):Int)=((x*2 ^ (min n 64):Nat):Int):=zAZ (by omega) (by omega)
 rw[<- e,Int.natCast_mul];rfl
theorem i_and {x y:Nat}(hx:x<=9223372036854775807)(hy:y<=9223372036854775807)(c:V->Ans):binK .and (.int .i64 (x:Int)) (.int .i64 (y:Int)) c=c (.int .i64 ((x &&& y:Nat):Int)):=by
 have e0:pow2 .i64=18446744073709551616:=rfl
 simp only[binK,zCX,intK,zQK,if_true,zHR,zOY]
 rw[e0,Nat.mod_eq_of_lt (by omega),Nat.mod_eq_of_lt (by omega)]
 have hle:x &&& y<=x:=Nat.and_le_left
 exact congrArg (fun z=>c (.int .i64 z)) (zAZ (n:=((x &&& y:Nat):Int)) (by omega) (by omega))
theorem i_or {x y:Nat}(hx:x<9223372036854775808)(hy:y<9223372036854775808)(c:V->Ans):binK .or (.int .i64 (x:Int)) (.int .i64 (y:Int)) c=c (.int .i64 ((x ||| y:Nat):Int)):=by
 have e0:pow2 .i64=18446744073709551616:=rfl
 simp only[binK,zCX,intK,zQK,if_true,zHR,zOY]
 rw[e0,Nat.mod_eq_of_lt (by omega),Nat.mod_eq_of_lt (by omega)]
 have hle:x ||| y<2 ^ 63:=Nat.or_lt_two_pow (by omega) (by omega)
 have e63:(2:Nat) ^ 63=9223372036854775808:=rfl
 exact congrArg (fun z=>c (.int .i64 z)) (zAZ (n:=((x ||| y:Nat):Int)) (by omega) (by omega))
def sixty:Bs:=[65,66,67,68,69,70,71,72,73,74,75,76,77,78,79,80,81,82,83,84,85,86,87,88,89,90,97,98,99,100,101,102,103,104,105,106,107,108,109,110,111,112,113,114,115,116,117,118,119,120,121,122,48,49,50,51,52,53,54,55,56,57,43,47]
theorem zST (x:Nat):∀ (l:Bs) (i:Nat),idxB x l i=-1∨∃ j:Nat,j<l.length/\idxB x l i=((i+j:Nat):Int):=by
 intro l
 induction l with
 | nil=>intro i;exact .inl rfl
 | cons y l ih =>
  intro i
  rw[idxB]
  cases h:Nat.beq y.toNat x with
  | true=>exact .inr ⟨0,by simp,by simp[zAP]⟩
  | false =>
   rcases ih (i+1)with h | ⟨j,h1,h2⟩
   ·exact .inl h
   ·exact .inr ⟨j+1,by simp;omega,by simp only[cond_false];rw[h2];congr 1;omega⟩
def v64 (x:UInt8):Option Nat:=if sixty.contains x=true then some (idxB x.toNat sixty 0).toNat else none
theorem v64_none {x:UInt8}(h:v64 x=none):decide (idxB x.toNat sixty 0<Int.ofNat 0)=true:=by
 unfold v64 at h
 split at h
 ·cases h
 ·rename_i hc;rw[zPB];simpa using hc
theorem v64_some {x:UInt8}{v:Nat}(h:v64 x=some v):decide (idxB x.toNat sixty 0<Int.ofNat 0)=false/\idxB x.toNat sixty 0=(v:Int)/\v<64:=by
 unfold v64 at h
 split at h
 ·rename_i hc
  have h0:decide (idxB x.toNat sixty 0<Int.ofNat 0)=false:=by rw[zPB,hc];rfl
  have hn:=of_decide_eq_false h0
  rcases zST x.toNat sixty 0 with e | ⟨j,h1,h2⟩
  ·rw[e]at hn;exact absurd (by decide) hn
  ·cases h
   refine⟨h0,?_,?_⟩
   ·rw[h2];rfl
   ·rw[h2];simpa [sixty] using h1
 ·cases h
def nbB (s:Bs):Bs:=s.filter fun x=>!zBW.contains x
def zBY:Nat->Bs->Bs
 | 0,b=>b
 | n+1,b=>if b.getLast?=some 61 then zBY n b.dropLast else b
def decG:Nat->Nat->Bs->Option (List Nat)
 | _,_,[]=>some []
 | w,h,x::l=>match v64 x with
  | none=>none
  | some v=>if 8<=h+6 then(decG ((w*64+v) % 65536) (h+6-8) l).map fun r=>(w*64+v) % 65536 / 2 ^ (h+6-8) % 256::r else decG ((w*64+v) % 65536) (h+6) l
def zG6 (s:Bs):Option (List Nat) :=
 let b:=if(nbB s).length % 4=0 then zBY 2 (nbB s)else nbB s
 if b.length % 4=1 then none else decG 0 0 b
theorem zQ1 (a b:Bs):bv (a++b)=bv a++bv b:=List.map_append ..
theorem l_b64f (c:zD)(N:Nat)(hI:Idx70 c)(s:Bs)(hs:s.length<=1000000000)(B:Nat) :
  ∀ (l pre acc:Bs) (v4:V) (M:Nat) (H:Heap) (Z:Tape),s=pre++l->l.length<M->WF H->B<=H.size->Own H B 1 v4 acc.length (bv acc)->acc.length<=pre.length ->
  ∃ v4' H' Z',Own H' B 1 v4' (acc++nbB l).length (bv (acc++nbB l))/\Gr B H H' /\
   ∀ (fr:T V) k,fr.get 0=some (.str s)->fr.get 4=some v4->fr.get 15=some (.int .i64 (s.length:Int))->fr.get 16=some (.int .i64 (pre.length:Int)) ->
    zW (zEU c N) M ⟨fr,H⟩ Z k=k (.exit 0) ⟨(T.s .leaf 4 v4'),H'⟩ Z':=by
 intro l
 induction l with
 | nil =>
  intro pre acc v4 M H Z he hM hw hB ho hal
  obtain⟨M,rfl⟩:∃ j,M=j+1:=⟨M-1,by omega⟩
  have e1:decide ((pre.length:Int)<(s.length:Int))=false:=decide_eq_false (by rw[he];simp)
  refine⟨v4,H,Z,by simpa [nbB] using ho,Gr.refl hw,fun fr k f0 f4 f15 f16=>?_⟩
  rw[zC]
  simp only[zEU,zA f0,zA f4,zA f15,zA f16,zI,e1,zM]
  rfl
 | cons x l ih =>
  intro pre acc v4 M H Z he hM hw hB ho hal
  obtain⟨M,rfl⟩:∃ j,M=j+1:=⟨M-1,by omega⟩
  have hlt:pre.length<s.length:=by rw[he];simp
  have e1:decide ((pre.length:Int)<(s.length:Int))=true:=decide_eq_true (by omega)
  have e2:zAE [.str s,.int .i64 (pre.length:Int)]=some (.int .u8 (x.toNat:Int)):=zFg (by rw[he];simp)
  have e6:wr .i64 ((pre.length:Int)+Int.ofNat 1)=((pre++[x]).length:Int):=by rw[adI (by omega)];simp
  have bb:bs [9,10,12,13,32]=zBW:=rfl
  have hi:=fun H Z q=>hI zBW x H Z q
  cases hx:zBW.contains x with
  | true =>
   have e3:decide (idxB x.toNat zBW 0<Int.ofNat 0)=false:=by rw[zPB,hx];rfl
   have hnb:nbB (x::l)=nbB l:=by unfold nbB;rw[List.filter_cons,hx];rfl
   obtain⟨v4',H',Z',s1,s2,s3⟩:=ih (pre++[x]) acc v4 M H Z (by rw[he];simp) (by simp at hM;omega) hw hB ho (by simp;omega)
   refine⟨v4',H',Z',by rw[hnb];exact s1,s2,fun fr k f0 f4 f15 f16=>?_⟩
   rw[zC]
   simp only[zEU,zA f0,zA f4,zA f15,zA f16,zI,e1,zO,e2,zK,bb,hi,e3,zM,zF5,zJ,↓reduceIte,Nat.reduceEqDiff,zQ,e6]
   exact s3 _ _ (by rfl) (by rfl) (by rfl) (by rfl)
  | false =>
   have e3:decide (idxB x.toNat zBW 0<Int.ofNat 0)=true:=by rw[zPB,hx];rfl
   have hnb:nbB (x::l)=x::nbB l:=by unfold nbB;rw[List.filter_cons,hx];rfl
   obtain⟨w,H1,v',H2,r1,r2,r3,r4,_⟩:=ho.push (bytes:=1) hw hB (.int .u8 (x.toNat:Int)) (.int .u8 (.ofNat 0)) rfl rfl (by omega) (by omega) Z
   have hcs:bv acc++[V.int .u8 (x.toNat:Int)]=bv (acc++[x]):=by rw[zQ1];rfl
   rw[hcs]at r3
   obtain⟨v4',H',Z',s1,s2,s3⟩:=ih (pre++[x]) (acc++[x]) v' M H2 Z.tail (by rw[he];simp) (by simp at hM;omega) r4.wf (Nat.le_trans hB r4.size) (by simpa using r3) (by simp;omega)
   refine⟨v4',H',Z',by rw[hnb,show acc++x::nbB l=(acc++[x])++nbB l by simp];exact s1,r4.trans s2 nl,fun fr k f0 f4 f15 f16=>?_⟩
   rw[zC]
   simp only[zEU,zA f0,zA f4,zA f15,zA f16,zI,e1,zO,e2,zK,bb,hi,e3,r1,r2,za,zF5,zJ,↓reduceIte,Nat.reduceEqDiff,zQ,e6]
   exact s3 _ _ (by rfl) (by rfl) (by rfl) (by rfl)
theorem bv_take (b:Bs)(n:Nat):(bv b).take n=bv (b.take n):=List.map_take.symm
theorem last_at {b:Bs}{y:UInt8}(h:b.getLast?=some y):(bv b)[b.length-1]?=some (.int .u8 (y.toNat:Int)):=by
 rw[List.getLast?_eq_getElem?]at h
 unfold bv
 rw[List.getElem?_map,h];rfl
theorem l_b64d (c:zD)(N:Nat)(H:Heap):∀ (j k:Nat) (b:Bs) (v4:V) (M:Nat) (Z:Tape),k+j=2->j<M->j<=b.length->b.length<=1000000000->Rd H 1 v4 b.length (bv b)->Roomy v4 ->
  ∃ v4',Rd H 1 v4' (zBY j b).length (bv (zBY j b))/\Roomy v4'/\∀ (fr:T V) kk,fr.get 4=some v4->fr.get 7=some (.int .i64 (k:Int)) ->
   zW (zEg c N) M ⟨fr,H⟩ Z kk=kk (.exit 2) ⟨(T.s .leaf 4 v4'),H⟩ Z:=by
 intro j
 induction j with
 | zero =>
  intro k b v4 M Z hk hM hl hl2 hr hro
  obtain⟨M,rfl⟩:∃ j,M=j+1:=⟨M-1,by omega⟩
  have e1:decide ((k:Int)<Int.ofNat 2)=false:=decide_eq_false (by have:Int.ofNat 2=2:=rfl;omega)
  refine⟨v4,hr,hro,fun fr kk f4 f7=>?_⟩
  rw[zC]
  simp only[zEg,zA f4,zA f7,zI,e1,zCo,zBw,zi,cond_false,zK,zM]
  rfl
 | succ j ih =>
  intro k b v4 M Z hk hM hl hl2 hr hro
  obtain⟨M,rfl⟩:∃ j,M=j+1:=⟨M-1,by omega⟩
  have e1:decide ((k:Int)<Int.ofNat 2)=true:=decide_eq_true (by have:Int.ofNat 2=2:=rfl;omega)
  have e2:wr .i64 ((b.length:Int)-Int.ofNat 1)=((b.length-1:Nat):Int):=sbI (by omega) (by omega)
  have hne:b≠[]:=fun h=>by rw[h]at hl;simp at hl
  have hgl:b.getLast?=some (b.getLast hne):=List.getLast?_eq_some_getLast hne
  obtain⟨p,p1,p2⟩:=hr.elem1 (last_at hgl)
  by_cases h61:b.getLast hne=61
  ·have hd:zBY (j+1) b=zBY j b.dropLast:=by rw[zBY,if_pos (by rw[hgl,h61])]
   obtain⟨v',c1,c3,_,c2⟩:=hr.upto hro (i:=b.length-1) (by omega)
   have c2:=c2 H _ hr
   have hdl:b.dropLast.length=b.length-1:=List.length_dropLast
   have c2':Rd H 1 v' b.dropLast.length (bv b.dropLast):=by
    rw[Nat.mul_one,bv_take,<- List.dropLast_eq_take]at c2
    rw[hdl];exact c2
   have e3:(((b.getLast hne).toNat:Int) == Int.ofNat 61)=true:=by rw[h61];rfl
   have e4:wr .i64 ((k:Int)+Int.ofNat 1)=((k+1:Nat):Int):=adI (by omega)
   obtain⟨v4',q1,q2,q3⟩:=ih (k+1) b.dropLast v' M Z (by omega) (by omega) (by omega) (by omega) c2' c3
   refine⟨v4',by rw[hd];exact q1,q2,fun fr kk f4 f7=>?_⟩
   rw[zC]
   simp only[zEg,zA f4,zA f7,zI,e1,zFR,retK,za,hr.pLen,zK,zAC,e2,p1,p2,zZ,e3,zi,cond_true,zO,c1,zQ,e4]
   exact q3 _ _ (by rfl) (by rfl)
  ·have hd:zBY (j+1) b=b:=by rw[zBY,if_neg (by rw[hgl];intro h;exact h61 (Option.some.inj h))]
   have e3:(((b.getLast hne).toNat:Int) == Int.ofNat 61)=false:=by
    rw[beq_eq_false_iff_ne];intro h
    apply h61
    have:(b.getLast hne).toNat=61:=by have h':Int.ofNat 61=61:=rfl;omega
    exact UInt8.toNat_inj.1 this
   refine⟨v4,by rw[hd];exact hr,hro,fun fr kk f4 f7=>?_⟩
   rw[zC]
   simp only[zEg,zA f4,zA f7,zI,e1,zFR,retK,za,hr.pLen,zK,zAC,e2,p1,p2,zZ,e3,zi,cond_true,zM]
   rfl
theorem word_step {w v:Nat}(hv:v<64):((w*2 ^ (min 6 64)) &&& 65535) ||| v=(w*64+v) % 65536:=by
 have e1:w*2 ^ (min 6 64)=w*64:=rfl
 have e2:(w*64) &&& 65535=(w*64) % 65536:=Nat.and_two_pow_sub_one_eq_mod (w*64) 16
 have e3:(w*64) % 65536=2 ^ 6*(w % 1024):=by omega
 rw[e1,e2,e3,<- Nat.two_pow_add_eq_or_of_lt (by simpa using hv)]
 omega
theorem zQy (k:IntKind)(a b:List Nat):ws k (a++b)=ws k a++ws k b:=List.map_append ..
theorem wr_byte (m:Nat):wr .u8 (m:Int)=((m % 256:Nat):Int):=wr_u8 m
theorem l_b64g (c:zD)(N:Nat)(hI:Idx70 c)(b:Bs)(hs:b.length<=1000000000)(v67:V)(B:Nat)(H0:Heap)(hw0:WF H0)(hB0:H0.size<=B)(hr:Rd H0 1 v67 b.length (bv b)) :
  ∀ (l pre:Bs) (acc:List Nat) (w h:Nat) (v8:V) (M:Nat) (H:Heap) (Z:Tape),b=pre++l->l.length<M->WF H->B<=H.size->Gr H0.size H0 H->CapP (fun i=>B<=i) H 1 v8 acc.length (ws .u8 acc)->acc.length<=pre.length->w<65536->h<8 ->
  ∃ v8' H' Z',(∀ r,decG w h l=some r->CapP (fun i=>B<=i) H' 1 v8' (acc++r).length (ws .u8 (acc++r)))/\Gr B H H' /\
   ∀ (fr:T V) k,fr.get 8=some v8->fr.get 9=some (.int .i64 (w:Int))->fr.get 10=some (.int .i64 (h:Int))->fr.get 67=some v67->fr.get 68=some (.int .i64 (b.length:Int))->fr.get 69=some (.int .i64 (pre.length:Int)) ->
    zW (zC1 c N) M ⟨fr,H⟩ Z k=if(decG w h l).isSome=true then k (.exit 4) ⟨(T.s .leaf 8 v8'),H'⟩ Z' else k .ret ⟨(T.s (T.s .leaf 2 .nils) 3 (.bool false)),H'⟩ Z':=by
 intro l
 induction l with
 | nil =>
  intro pre acc w h v8 M H Z he hM hw hB hg ho hal hw6 hh
  obtain⟨M,rfl⟩:∃ j,M=j+1:=⟨M-1,by omega⟩
  have e1:decide ((pre.length:Int)<(b.length:Int))=false:=decide_eq_false (by rw[he];simp)
  refine⟨v8,H,Z,(fun r hr=>by rw[decG]at hr;cases hr;simpa using ho),Gr.refl hw,fun fr k f8 f9 f10 f67 f68 f69=>?_⟩
  rw[zC,if_pos (by rw[decG];rfl)]
  simp only[zC1,zA f8,zA f9,zA f10,zA f67,zA f68,zA f69,zI,e1,zM]
  rfl
 | cons x l ih =>
  intro pre acc w h v8 M H Z he hM hw hB hg ho hal hw6 hh
  obtain⟨M,rfl⟩:∃ j,M=j+1:=⟨M-1,by omega⟩
  have hlt:pre.length<b.length:=by rw[he];simp
  have e1:decide ((pre.length:Int)<(b.length:Int))=true:=decide_eq_true (by omega)
  have hxi:(bv b)[pre.length]?=some (.int .u8 (x.toNat:Int)):=by rw[he];simp[bv]
  obtain⟨p,p1,p2⟩:=(hr.gr hg hw0 nl).elem1 hxi
  have hi:=fun H Z q=>hI sixty x H Z q
  have bb:bs [65,66,67,68,69,70,71,72,73,74,75,76,77,78,79,80,81,82,83,84,85,86,87,88,89,90,97,98,99,100,101,102,103,104,105,106,107,108,109,110,111,112,113,114,115,116,117,118,119,120,121,122,48,49,50,51,52,53,54,55,56,57,43,47]=sixty:=rfl
  have e6:wr .i64 ((pre.length:Int)+Int.ofNat 1)=((pre++[x]).length:Int):=by rw[adI (by omega)];simp
  cases hv:v64 x with
  | none =>
   have hd:decG w h (x::l)=none:=by rw[decG,hv]
   refine⟨v8,H,Z,(fun r hr=>by rw[hd]at hr;cases hr),Gr.refl hw,fun fr k f8 f9 f10 f67 f68 f69=>?_⟩
   rw[zC,hd,if_neg (by simp)]
   simp only[zC1,zA f8,zA f9,zA f10,zA f67,zA f68,zA f69,zI,e1,zO,p1,p2,zK,bb,hi,v64_none hv]
   rfl
  | some v =>
   obtain⟨hv1,hv2,hv3⟩:=v64_some hv
   have hw2:(w*64+v) % 65536<65536:=Nat.mod_lt _ (by omega)
   have a1:∀ q,binK .shl (.int .i64 (w:Int)) (.int .u64 (.ofNat 6)) q=q (.int .i64 ((w*2 ^ (min 6 64):Nat):Int)):=fun q=>i_shl (n:=6) (show w*64<=9223372036854775807 by omega) q
   have a2:∀ q,binK .and (.int .i64 ((w*2 ^ (min 6 64):Nat):Int)) (.int .i64 (.ofNat 65535)) q=q (.int .i64 ((w*2 ^ (min 6 64) &&& 65535:Nat):Int)):=fun q=>i_and (y:=65535) (show w*64<=9223372036854775807 by omega) (by omega) q
   have hand:w*2 ^ (min 6 64) &&& 65535<=65535:=Nat.and_le_right
   have a3:∀ q,binK .or (.int .i64 ((w*2 ^ (min 6 64) &&& 65535:Nat):Int)) (.int .i64 (v:Int)) q=q (.int .i64 (((w*64+v) % 65536:Nat):Int)):=fun q=>by rw[i_or (by omega) (by omega),word_step hv3]
   have a4:wr .i64 ((h:Int)+Int.ofNat 6)=((h+6:Nat):Int):=adI (by omega)
   by_cases h8:8<=h+6
   ·have a5:decide (Int.ofNat 8<=((h+6:Nat):Int))=true:=decide_eq_true (by have:Int.ofNat 8=8:=rfl;omega)
    have a6:wr .i64 (((h+6:Nat):Int)-Int.ofNat 8)=((h+6-8:Nat):Int):=sbI (by omega) (by omega)
    have a7:∀ q,binK .shr (.int .i64 (((w*64+v) % 65536:Nat):Int)) (.int .i64 ((h+6-8:Nat):Int)) q=q (.int .i64 (((w*64+v) % 65536 / 2 ^ (h+6-8):Nat):Int)):=fun q=>by
     rw[zLr,Nat.min_eq_left (show h+6-8<=IntKind.i64.bits from Nat.le_trans (by omega:h+6-8<=6) (by decide))]
    generalize hw':(w*64+v) % 65536=w' at hw2 a3 a7
    have hd:decG w h (x::l)=(decG w' (h+6-8) l).map fun r=>w' / 2 ^ (h+6-8) % 256::r:=by rw[decG,hv];simp only[if_pos h8,hw']
    have b0:zL 1 1 [(.int .u8 (.ofNat 0))] [(0,1)] [.int .u8 ((w' / 2 ^ (h+6-8) % 256:Nat):Int)] H Z=some (.sl H.size 0 1 1 none 1,H.new [.int .u8 ((w' / 2 ^ (h+6-8) % 256:Nat):Int)] 1 false,Z):=rfl
    obtain⟨v',H1,Z1,r1,r2,r3⟩:=ho.put (bytes:=1) hw (fun i hi=>by omega) [.int .u8 ((w' / 2 ^ (h+6-8) % 256:Nat):Int)] (by omega) rfl rfl (by omega) (by omega) Z false
    have hcs:ws .u8 acc++[V.int .u8 ((w' / 2 ^ (h+6-8) % 256:Nat):Int)]=ws .u8 (acc++[w' / 2 ^ (h+6-8) % 256]):=by rw[zQy];rfl
    rw[hcs]at r2
    have g1:Gr B H H1:=r3.gr hB (fun i hi hp=>by omega)
    obtain⟨v8',H',Z',s1,s2,s3⟩:=ih (pre++[x]) (acc++[w' / 2 ^ (h+6-8) % 256]) w' (h+6-8) v' M H1 Z1 (by rw[he];simp) (by simp at hM;omega) g1.wf (Nat.le_trans hB g1.size) (hg.trans g1 hB0) (by simpa using r2) (by simp;omega) hw2 (by omega)
    refine⟨v8',H',Z',fun r hr=>?_,g1.trans s2 nl,fun fr k f8 f9 f10 f67 f68 f69=>?_⟩
    ·rw[hd]at hr
     cases hdd:decG w' (h+6-8) l with
     | none=>rw[hdd]at hr;cases hr
     | some r' =>
      rw[hdd]at hr;cases hr
      have:=s1 r' hdd
      simpa using this
    ·rw[zC,hd,Option.isSome_map]
     simp only[zC1,zA f8,zA f9,zA f10,zA f67,zA f68,zA f69,zI,e1,zO,p1,p2,zK,bb,hi,hv1,zM,hv2,a1,a2,a3,zQ,a4,zt,a5,zAC,a6,a7,zB7,wr_byte,b0,r1,za,zF0,zJ,↓reduceIte,Nat.reduceEqDiff,e6]
     exact s3 _ _ (by rfl) (by rfl) (by rfl) (by rfl) (by rfl) (by rfl)
   ·have a5:decide (Int.ofNat 8<=((h+6:Nat):Int))=false:=decide_eq_false (by have:Int.ofNat 8=8:=rfl;omega)
    have hd:decG w h (x::l)=decG ((w*64+v) % 65536) (h+6) l:=by rw[decG,hv];simp only[if_neg h8]
    obtain⟨v8',H',Z',s1,s2,s3⟩:=ih (pre++[x]) acc ((w*64+v) % 65536) (h+6) v8 M H Z (by rw[he];simp) (by simp at hM;omega) hw hB hg ho (by simp;omega) hw2 (by omega)
    refine⟨v8',H',Z',(fun r hr=>s1 r (by rw[hd]at hr;exact hr)),s2,fun fr k f8 f9 f10 f67 f68 f69=>?_⟩
    rw[zC,hd]
    simp only[zC1,zA f8,zA f9,zA f10,zA f67,zA f68,zA f69,zI,e1,zO,p1,p2,zK,bb,hi,hv1,zM,hv2,a1,a2,a3,zQ,a4,zt,a5,zF0,zJ,↓reduceIte,Nat.reduceEqDiff,e6]
    exact s3 _ _ (by rfl) (by rfl) (by rfl) (by rfl) (by rfl) (by rfl)
def B64V (H:Heap)(v:V):Option (List Nat)->Prop
 | none=>v=.nils
 | some r=>Rd H 1 v r.length (ws .u8 r)/\Src H v
theorem zPh:∀ (j:Nat) (b:Bs),(zBY j b).length<=b.length:=by
 intro j
 induction j with
 | zero=>intro b;exact Nat.le_refl _
 | succ j ih =>
  intro b;rw[zBY];split
  ·have:=ih b.dropLast;rw[List.length_dropLast]at this;omega
  ·exact Nat.le_refl _
theorem zPZ (c:zD){N:Nat}(hN:9223372036854775807<=N)(hI:Idx70 c)(s:Bs)(hs:s.length<=1000000000)(H:Heap)(hw:WF H)(Z:Tape) :
  ∃ v H' Z',Gr H.size H H'/\B64V H' v (zG6 s)/\∀ q,zGc c N (.str s) H Z q=q (.tup [v,.bool (zG6 s).isSome]) H' Z':=by
 obtain⟨v4,H1,Z1,a1,a2,a3⟩:=l_b64f c N hI s hs H.size s [] [] .nils N H Z rfl (by omega) hw nl (Own.nil _ _ _) nl
 rw[List.nil_append]at a1
 have hnl:(nbB s).length<=s.length:=List.length_filter_le _ _
 obtain⟨v5,b1,b2,b3⟩:∃ v5,Rd H1 1 v5 (if(nbB s).length % 4=0 then zBY 2 (nbB s)else nbB s).length (bv (if(nbB s).length % 4=0 then zBY 2 (nbB s)else nbB s))/\Roomy v5/\∀ (fr:T V) q,fr.get 4=some v4 ->
   ∃ fr',fr'.get 4=some v5/\zEW c N q ⟨fr,H1⟩ Z1=zB4 c N q ⟨fr',H1⟩ Z1:=by
  have hrem:∀ q,binK .rem (.int .i64 ((nbB s).length:Int)) (.int .i64 (.ofNat 4)) q=q (.int .i64 (((nbB s).length % 4:Nat):Int)):=fun q=>by rw[zFh _ _ _ (by decide)];rfl
  by_cases h0:(nbB s).length=0
  ·have hb:nbB s=[]:=List.length_eq_zero_iff.1 h0
   have hd:(if(nbB s).length % 4=0 then zBY 2 (nbB s)else nbB s)=nbB s:=by rw[hb];rfl
   rw[hd]
   refine⟨v4,a1.rd,a1.roomy,fun fr q f4=>⟨(T.s (T.s .leaf 4 v4) 39 (.bool false)),by simp[T.get_set],?_⟩⟩
   have e1:decide (Int.ofNat 0<((nbB s).length:Int))=false:=decide_eq_false (by rw[h0];decide)
   simp only[zEW,zA f4,a1.pLen,zK,zAs,e1,zCo,zBw,zi,cond_false,zM]
  ·have e1:decide (Int.ofNat 0<((nbB s).length:Int))=true:=decide_eq_true (by have:Int.ofNat 0=0:=rfl;omega)
   by_cases h4:(nbB s).length % 4=0
   ·rw[if_pos h4]
    obtain⟨v5,q1,q2,q3⟩:=l_b64d c N H1 2 0 (nbB s) v4 N Z1 rfl (by omega) (by omega) (by omega) a1.rd a1.roomy
    refine⟨v5,q1,q2,fun fr q f4=>⟨(T.s .leaf 4 v5),by simp[T.get_set],?_⟩⟩
    have e2:((((nbB s).length % 4:Nat):Int) == Int.ofNat 0)=true:=by rw[h4];rfl
    simp only[zEW,zA f4,a1.pLen,zK,zAs,e1,zFR,retK,za,hrem,zZ,e2,zi,cond_true,zO]
    rw[q3 _ _ (by rfl) (by rfl)]
    simp only[zP,Nat.beq_refl,cond_true,seqK]
   ·rw[if_neg h4]
    refine⟨v4,a1.rd,a1.roomy,fun fr q f4=>⟨(T.s (T.s .leaf 4 v4) 39 (.bool false)),by simp[T.get_set],?_⟩⟩
    have e2:((((nbB s).length % 4:Nat):Int) == Int.ofNat 0)=false:=by rw[beq_eq_false_iff_ne];have:Int.ofNat 0=0:=rfl;omega
    simp only[zEW,zA f4,a1.pLen,zK,zAs,e1,zFR,retK,za,hrem,zZ,e2,zi,cond_true,zM]
 have hB:zG6 s=if(if(nbB s).length % 4=0 then zBY 2 (nbB s)else nbB s).length % 4=1 then none else decG 0 0 (if(nbB s).length % 4=0 then zBY 2 (nbB s)else nbB s):=rfl
 have hbl:(if(nbB s).length % 4=0 then zBY 2 (nbB s)else nbB s).length<=1000000000:=by
  split
  ·have:=zPh 2 (nbB s);omega
  ·omega
 generalize (if(nbB s).length % 4=0 then zBY 2 (nbB s)else nbB s)=b at b1 hB hbl
 have hrem:∀ q,binK .rem (.int .i64 (b.length:Int)) (.int .i64 (.ofNat 4)) q=q (.int .i64 ((b.length % 4:Nat):Int)):=fun q=>by rw[zFh _ _ _ (by decide)];rfl
 have start:∀ q,∃ fr',fr'.get 4=some v5/\zGc c N (.str s) H Z q=zB4 c N q ⟨fr',H1⟩ Z1:=fun q=>by
  obtain⟨fr',f4,k4⟩:=b3 (T.s .leaf 4 v4) q (by rfl)
  refine⟨fr',f4,?_⟩
  simp only[zGc,zBu,zK]
  rw[a3 _ _ (by rfl) (by rfl) (by rfl) (by rfl)]
  simp only[zP,Nat.beq_refl,cond_true,seqK,k4]
 by_cases h1:b.length % 4=1
 ·rw[hB,if_pos h1]
  refine⟨.nils,H1,Z1,a2,rfl,fun q=>?_⟩
  obtain⟨fr',f4,k⟩:=start q
  have e1:(((b.length % 4:Nat):Int) == Int.ofNat 1)=true:=by rw[h1];rfl
  rw[k]
  simp only[zB4,zA f4,b1.pLen,zK,hrem,zZ,e1,zO]
  rfl
 ·rw[hB,if_neg h1]
  have e1:(((b.length % 4:Nat):Int) == Int.ofNat 1)=false:=by rw[beq_eq_false_iff_ne];have:Int.ofNat 1=1:=rfl;omega
  have e2:wr .i64 ((b.length:Int)*Int.ofNat 3)=((b.length*3:Nat):Int):=by
   have e:(b.length:Int)*Int.ofNat 3=((b.length*3:Nat):Int):=by rw[Int.natCast_mul];rfl
   rw[e,zAZ (by omega) (by omega)]
  have e3:∀ q,binK .quo (.int .i64 ((b.length*3:Nat):Int)) (.int .i64 (.ofNat 4)) q=q (.int .i64 ((b.length*3 / 4:Nat):Int)):=fun q=>by
   rw[zI5 _ _ _ (by decide)]
   have:((b.length*3:Nat):Int).tdiv (Int.ofNat 4)=((b.length*3 / 4:Nat):Int):=rfl
   rw[this,zAZ (by omega) (by omega)]
  have m1:zBg 1 1 [(.int .u8 (.ofNat 0))] [(.int .i64 (.ofNat 0)),.int .i64 ((b.length*3 / 4:Nat):Int)] H1 Z1=some (.sl H1.size 0 0 (b.length*3 / 4) none 1,H1.new (List.replicate (b.length*3 / 4) (.int .u8 (.ofNat 0))) (b.length*3 / 4*1) false,Z1):=by
   have n0:zMq (Int.ofNat 0)=some 0:=rfl
   simp only[zBg,zC6,n0,Nat.ble_eq_true_of_le (Nat.zero_le _),Nat.ble_eq_true_of_le (show b.length*3 / 4*1<=140737488355328 by omega),Nat.ble_eq_true_of_le (show b.length*3 / 4<=140737488355328 by omega),Bool.and_self,cond_true,repl_one]
  have g2:=Gr.new a2.wf (List.replicate (b.length*3 / 4) (V.int .u8 (.ofNat 0))) (b.length*3 / 4*1) false
  have c2:=CapP.new (fun i=>H1.size<=i) H1 1 (b.length*3 / 4) (List.replicate (b.length*3 / 4) (V.int .u8 (.ofNat 0))) (by simp) nl
  generalize H1.new (List.replicate (b.length*3 / 4) (V.int .u8 (.ofNat 0))) (b.length*3 / 4*1) false=H2 at m1 g2 c2
  obtain⟨v8,H3,Z3,r1,r2,r3⟩:=l_b64g c N hI b hbl v5 H1.size H1 a2.wf nl b1 b [] [] 0 0 (.sl H1.size 0 0 (b.length*3 / 4) none 1) N H2 Z1 rfl (by omega) g2.wf g2.size g2 c2 nl (by omega) (by omega)
  have G:Gr H.size H H3:=a2.trans (g2.trans r2 nl) a2.size
  cases hd:decG 0 0 b with
  | none =>
   refine⟨.nils,H3,Z3,G,rfl,fun q=>?_⟩
   obtain⟨fr',f4,k⟩:=start q
   rw[k]
   simp only[zB4,zA f4,b1.pLen,zK,hrem,zZ,e1,zM,zIB,e2,e3,m1,za]
   rw[r3 _ _ (by rfl) (by rfl) (by rfl) (by rfl) (by rfl) (by rfl),hd,if_neg (by simp)]
   simp only[zP,seqK,endK]
   rfl
  | some r =>
   have c3:=r1 r hd
   rw[List.nil_append]at c3
   refine⟨v8,H3,Z3,G,⟨c3.rd,c3.src⟩,fun q=>?_⟩
   obtain⟨fr',f4,k⟩:=start q
   rw[k]
   simp only[zB4,zA f4,b1.pLen,zK,hrem,zZ,e1,zM,zIB,e2,e3,m1,za]
   rw[r3 _ _ (by rfl) (by rfl) (by rfl) (by rfl) (by rfl) (by rfl),hd,if_pos (by simp)]
   simp only[zP,Nat.beq_refl,cond_true,seqK,zLY,zJ,↓reduceIte]
   rfl
abbrev B64Ok (c:zD)(f:Nat):Prop:=∀ (s:Bs),s.length<=1000000000->∀ (H:Heap),WF H->∀ Z,∃ v H' Z',Gr H.size H H'/\B64V H' v (zG6 s)/\∀ q,c f [.str s] H Z q=q (.tup [v,.bool (zG6 s).isSome]) H' Z'
end Go.Am.X

namespace Go.Am.X
theorem l_value64 (c:zD)(N:Nat)(x:UInt8)(H:Heap):∀ (l pre:Bs) (M:Nat) (Z:Tape),sixty=pre++l->l.length<M ->
  ∀ (fr:T V) k,fr.get 0=some (.int .u8 (x.toNat:Int))->fr.get 3=some (.int .i64 (pre.length:Int)) ->
   zW (zEn c N) M ⟨fr,H⟩ Z k=if 0<=idxB x.toNat l pre.length then k .ret ⟨(T.s .leaf 2 (.int .i64 (idxB x.toNat l pre.length))),H⟩ Z else k (.exit 0) ⟨.leaf,H⟩ Z:=by
 intro l
 have b0:bs [65,66,67,68,69,70,71,72,73,74,75,76,77,78,79,80,81,82,83,84,85,86,87,88,89,90,97,98,99,100,101,102,103,104,105,106,107,108,109,110,111,112,113,114,115,116,117,118,119,120,121,122,48,49,50,51,52,53,54,55,56,57,43,47]=sixty:=rfl
 have hl:sixty.length=64:=rfl
 induction l with
 | nil =>
  intro pre M Z he hM fr k f0 f3
  obtain⟨M,rfl⟩:∃ j,M=j+1:=⟨M-1,by omega⟩
  have hp:pre.length=64:=by rw[<- hl,he];simp
  have e1:decide ((pre.length:Int)<Int.ofNat 64)=false:=decide_eq_false (by rw[hp];decide)
  rw[zC,if_neg (by rw[idxB];decide)]
  simp only[zEn,zA f0,zA f3,zI,e1,zM]
  rfl
 | cons y l ih =>
  intro pre M Z he hM fr k f0 f3
  obtain⟨M,rfl⟩:∃ j,M=j+1:=⟨M-1,by omega⟩
  have hp:pre.length<64:=by rw[<- hl,he];simp
  have e1:decide ((pre.length:Int)<Int.ofNat 64)=true:=decide_eq_true (by have:Int.ofNat 64=64:=rfl;omega)
  have e2:zAE [.str sixty,.int .i64 (pre.length:Int)]=some (.int .u8 (y.toNat:Int)):=zFg (by rw[he];simp)
  have e6:wr .i64 ((pre.length:Int)+Int.ofNat 1)=((pre++[y]).length:Int):=by rw[adI (by omega)];simp
  rw[zC,idxB]
  by_cases h:y.toNat=x.toNat
  ·have e3:((y.toNat:Int) ==(x.toNat:Int))=true:=by rw[h];simp
   have e4:Nat.beq y.toNat x.toNat=true:=by rw[h];exact Nat.beq_refl _
   simp only[e4,cond_true,zAP]
   rw[if_pos (show(0:Int)<=Int.ofNat pre.length from Int.natCast_nonneg _)]
   simp only[zEn,zA f0,zA f3,zI,e1,zO,b0,e2,zK,zZ,e3]
   rfl
  ·have e3:((y.toNat:Int) ==(x.toNat:Int))=false:=by rw[beq_eq_false_iff_ne];omega
   have e4:Nat.beq y.toNat x.toNat=false:=by
    cases hb:Nat.beq y.toNat x.toNat with
    | false=>rfl
    | true=>exact absurd (Nat.eq_of_beq_eq_true hb) h
   simp only[e4,cond_false]
   simp only[zEn,zA f0,zA f3,zI,e1,zO,b0,e2,zK,zZ,e3,zM,zQ,e6]
   have:=ih (pre++[y]) M Z (by rw[he];simp) (by simp at hM;omega) (T.s (T.s (T.s (T.s (T.s .leaf 0 (.int .u8 (x.toNat:Int))) 3 (.int .i64 (pre.length:Int))) 6 (.int .i64 (pre.length:Int))) 7 (.int .i64 ((pre++[y]).length:Int))) 3 (.int .i64 ((pre++[y]).length:Int))) k (by rfl) (by rfl)
   rw[show pre.length+1=(pre++[y]).length by simp]
   exact this
theorem zPN (c:zD){N:Nat}(hN:1000<=N)(x:UInt8)(H:Heap)(Z:Tape)(q:KV):zJB c N (.int .u8 (x.toNat:Int)) H Z q=q (.int .i64 (idxB x.toNat sixty 0)) H Z:=by
 simp only[zJB]
 rw[l_value64 c N x H sixty [] N Z rfl (by show 64<N;omega) _ _ (by rfl) (by rfl)]
 rcases zST x.toNat sixty 0 with h | ⟨j,h1,h2⟩
 ·have h':idxB x.toNat sixty ([]:Bs).length=-1:=h
  rw[h',if_neg (by decide),h]
  simp only[zP,Nat.beq_refl,cond_true,seqK,zLe]
  rfl
 ·have h':idxB x.toNat sixty ([]:Bs).length=((0+j:Nat):Int):=h2
  rw[h',if_pos (Int.natCast_nonneg _),h2]
  rfl
abbrev Val64Ok (c:zD):Prop:=∀ (x:UInt8) (H:Heap) (Z:Tape) (q:KV),c zI9 [.int .u8 (x.toNat:Int)] H Z q=q (.int .i64 (idxB x.toNat sixty 0)) H Z
theorem zS1 (x:UInt8):zSD x.toNat=zBW.contains x:=by
 unfold zSD zBW
 simp only[List.contains_cons,List.contains_nil,Bool.or_false,u8beq]
 have e:∀ n:Nat,n<256->decide (x.toNat=n)=decide (x.toNat=(UInt8.ofNat n).toNat):=fun n hn=>by rw[UInt8.toNat_ofNat'];congr 2;omega
 rw[e 9 (by omega),e 10 (by omega),e 12 (by omega),e 13 (by omega),e 32 (by omega)]
 simp only[Bool.or_assoc]
 rfl
theorem l_rb64f (c:zD)(N:Nat)(hI:zS3 c)(s:Bs)(hs:s.length<=1000000000)(B:Nat) :
  ∀ (l pre acc:Bs) (v4:V) (M:Nat) (H:Heap) (Z:Tape),s=pre++l->l.length<M->WF H->B<=H.size->Own H B 1 v4 acc.length (bv acc)->acc.length<=pre.length ->
  ∃ v4' H' Z',Own H' B 1 v4' (acc++nbB l).length (bv (acc++nbB l))/\Gr B H H' /\
   ∀ (fr:T V) k,fr.get 0=some (.str s)->fr.get 4=some v4->fr.get 5=some (.int .i64 (pre.length:Int)) ->
    zW (zFO c N) M ⟨fr,H⟩ Z k=k (.exit 0) ⟨(T.s .leaf 4 v4'),H'⟩ Z':=by
 intro l
 induction l with
 | nil =>
  intro pre acc v4 M H Z he hM hw hB ho hal
  obtain⟨M,rfl⟩:∃ j,M=j+1:=⟨M-1,by omega⟩
  have e1:decide ((pre.length:Int)<(s.length:Int))=false:=decide_eq_false (by rw[he];simp)
  refine⟨v4,H,Z,by simpa [nbB] using ho,Gr.refl hw,fun fr k f0 f4 f5=>?_⟩
  rw[zC]
  simp only[zFO,zA f0,zA f4,zA f5,zBu,zK,zI,e1,zM]
  rfl
 | cons x l ih =>
  intro pre acc v4 M H Z he hM hw hB ho hal
  obtain⟨M,rfl⟩:∃ j,M=j+1:=⟨M-1,by omega⟩
  have hlt:pre.length<s.length:=by rw[he];simp
  have e1:decide ((pre.length:Int)<(s.length:Int))=true:=decide_eq_true (by omega)
  have e2:zAE [.str s,.int .i64 (pre.length:Int)]=some (.int .u8 (x.toNat:Int)):=zFg (by rw[he];simp)
  have e6:wr .i64 ((pre.length:Int)+Int.ofNat 1)=((pre++[x]).length:Int):=by rw[adI (by omega)];simp
  have hi:=fun H Z q=>hI x.toNat H Z q
  rw[zS1]at hi
  cases hx:zBW.contains x with
  | true =>
   have hnb:nbB (x::l)=nbB l:=by unfold nbB;rw[List.filter_cons,hx];rfl
   obtain⟨v4',H',Z',s1,s2,s3⟩:=ih (pre++[x]) acc v4 M H Z (by rw[he];simp) (by simp at hM;omega) hw hB ho (by simp;omega)
   refine⟨v4',H',Z',by rw[hnb];exact s1,s2,fun fr k f0 f4 f5=>?_⟩
   rw[zC]
   simp only[zFO,zA f0,zA f4,zA f5,zBu,zI,e1,zO,e2,zK,hi,hx,zKK,Bool.not_true,zM,zGv,zJ,↓reduceIte,Nat.reduceEqDiff,zQ,e6]
   exact s3 _ _ (by rfl) (by rfl) (by rfl)
  | false =>
   have hnb:nbB (x::l)=x::nbB l:=by unfold nbB;rw[List.filter_cons,hx];rfl
   obtain⟨w,H1,v',H2,r1,r2,r3,r4,_⟩:=ho.push (bytes:=1) hw hB (.int .u8 (x.toNat:Int)) (.int .u8 (.ofNat 0)) rfl rfl (by omega) (by omega) Z
   have hcs:bv acc++[V.int .u8 (x.toNat:Int)]=bv (acc++[x]):=by rw[zQ1];rfl
   rw[hcs]at r3
   obtain⟨v4',H',Z',s1,s2,s3⟩:=ih (pre++[x]) (acc++[x]) v' M H2 Z.tail (by rw[he];simp) (by simp at hM;omega) r4.wf (Nat.le_trans hB r4.size) (by simpa using r3) (by simp;omega)
   refine⟨v4',H',Z',by rw[hnb,show acc++x::nbB l=(acc++[x])++nbB l by simp];exact s1,r4.trans s2 nl,fun fr k f0 f4 f5=>?_⟩
   rw[zC]
   simp only[zFO,zA f0,zA f4,zA f5,zBu,zI,e1,zO,e2,zK,hi,hx,zKK,Bool.not_false,r1,r2,za,zGv,zJ,↓reduceIte,Nat.reduceEqDiff,zQ,e6]
   exact s3 _ _ (by rfl) (by rfl) (by rfl)
theorem l_rb64d (c:zD)(N:Nat)(H:Heap):∀ (j k:Nat) (b:Bs) (v4:V) (M:Nat) (Z:Tape),k+j=2->j<M->b.length<=1000000000->Rd H 1 v4 b.length (bv b)->Roomy v4 ->
  ∃ v4',Rd H 1 v4' (zBY j b).length (bv (zBY j b))/\Roomy v4'/\∀ (fr:T V) kk,fr.get 4=some v4->fr.get 6=some (.int .i64 (k:Int)) ->
   zW (zDr c N) M ⟨fr,H⟩ Z kk=kk (.exit 2) ⟨(T.s .leaf 4 v4'),H⟩ Z:=by
 intro j
 induction j with
 | zero =>
  intro k b v4 M Z hk hM hl2 hr hro
  obtain⟨M,rfl⟩:∃ j,M=j+1:=⟨M-1,by omega⟩
  have e1:decide ((k:Int)<Int.ofNat 2)=false:=decide_eq_false (by have:Int.ofNat 2=2:=rfl;omega)
  refine⟨v4,hr,hro,fun fr kk f4 f7=>?_⟩
  rw[zC]
  simp only[zDr,zA f4,zA f7,zI,e1,zCo,zBw,zi,cond_false,zK,zM]
  rfl
 | succ j ih =>
  intro k b v4 M Z hk hM hl2 hr hro
  obtain⟨M,rfl⟩:∃ j,M=j+1:=⟨M-1,by omega⟩
  have e1:decide ((k:Int)<Int.ofNat 2)=true:=decide_eq_true (by have:Int.ofNat 2=2:=rfl;omega)
  by_cases hb0:b=[]
  ·have hd:zBY (j+1) b=b:=by rw[zBY,if_neg (by rw[hb0];simp)]
   have e0:decide (Int.ofNat 0<(b.length:Int))=false:=by rw[hb0];rfl
   refine⟨v4,by rw[hd];exact hr,hro,fun fr kk f4 f7=>?_⟩
   rw[zC]
   simp only[zDr,zA f4,zA f7,zI,e1,zFR,retK,za,hr.pLen,zK,zAs,e0,zi,cond_true,cond_false,zCo,zBw,zM]
   rfl
  have hl:0<b.length:=List.length_pos_iff.2 hb0
  have e0:decide (Int.ofNat 0<(b.length:Int))=true:=decide_eq_true (by have:Int.ofNat 0=0:=rfl;omega)
  have e2:wr .i64 ((b.length:Int)-Int.ofNat 1)=((b.length-1:Nat):Int):=sbI (by omega) (by omega)
  have hne:b≠[]:=hb0
  have hgl:b.getLast?=some (b.getLast hne):=List.getLast?_eq_some_getLast hne
  obtain⟨p,p1,p2⟩:=hr.elem1 (last_at hgl)
  by_cases h61:b.getLast hne=61
  ·have hd:zBY (j+1) b=zBY j b.dropLast:=by rw[zBY,if_pos (by rw[hgl,h61])]
   obtain⟨v',c1,c3,_,c2⟩:=hr.upto hro (i:=b.length-1) (by omega)
   have c2:=c2 H _ hr
   have hdl:b.dropLast.length=b.length-1:=List.length_dropLast
   have c2':Rd H 1 v' b.dropLast.length (bv b.dropLast):=by
    rw[Nat.mul_one,bv_take,<- List.dropLast_eq_take]at c2
    rw[hdl];exact c2
   have e3:(((b.getLast hne).toNat:Int) == Int.ofNat 61)=true:=by rw[h61];rfl
   have e4:wr .i64 ((k:Int)+Int.ofNat 1)=((k+1:Nat):Int):=adI (by omega)
   obtain⟨v4',q1,q2,q3⟩:=ih (k+1) b.dropLast v' M Z (by omega) (by omega) (by omega) c2' c3
   refine⟨v4',by rw[hd];exact q1,q2,fun fr kk f4 f7=>?_⟩
   rw[zC]
   simp only[zDr,zA f4,zA f7,zI,e1,zFR,retK,za,hr.pLen,zK,zAs,e0,zAC,e2,p1,p2,zZ,e3,zi,cond_true,zO,c1,zQ,e4]
   exact q3 _ _ (by rfl) (by rfl)
  ·have hd:zBY (j+1) b=b:=by rw[zBY,if_neg (by rw[hgl];intro h;exact h61 (Option.some.inj h))]
   have e3:(((b.getLast hne).toNat:Int) == Int.ofNat 61)=false:=by
    rw[beq_eq_false_iff_ne];intro h
    apply h61
    have:(b.getLast hne).toNat=61:=by have h':Int.ofNat 61=61:=rfl;omega
    exact UInt8.toNat_inj.1 this
   refine⟨v4,by rw[hd];exact hr,hro,fun fr kk f4 f7=>?_⟩
   rw[zC]
   simp only[zDr,zA f4,zA f7,zI,e1,zFR,retK,za,hr.pLen,zK,zAs,e0,zAC,e2,p1,p2,zZ,e3,zi,cond_true,zM]
   rfl
theorem l_rb64g (c:zD)(N:Nat)(hI:Val64Ok c)(b:Bs)(hs:b.length<=1000000000)(v4:V)(H0:Heap)(hw0:WF H0)(hr:Rd H0 1 v4 b.length (bv b)) :
  ∀ (l pre:Bs) (acc:List Nat) (w h:Nat) (v7:V) (M:Nat) (H:Heap) (Z:Tape),b=pre++l->l.length<M->Gr H0.size H0 H->Own H H0.size 1 v7 acc.length (ws .u8 acc)->acc.length<=pre.length->w<65536->h<8 ->
  ∃ v7' H' Z',(∀ r,decG w h l=some r->Own H' H0.size 1 v7' (acc++r).length (ws .u8 (acc++r)))/\Gr H0.size H H' /\
   ∀ (fr:T V) k,fr.get 4=some v4->fr.get 7=some v7->fr.get 8=some (.int .i64 (w:Int))->fr.get 9=some (.int .i64 (h:Int))->fr.get 10=some (.int .i64 (pre.length:Int)) ->
    zW (zDn c N) M ⟨fr,H⟩ Z k=if(decG w h l).isSome=true then k (.exit 4) ⟨(T.s .leaf 7 v7'),H'⟩ Z' else k .ret ⟨(T.s (T.s .leaf 2 .nils) 3 (.bool false)),H'⟩ Z':=by
 intro l
 induction l with
 | nil =>
  intro pre acc w h v7 M H Z he hM hg ho hal hw6 hh
  obtain⟨M,rfl⟩:∃ j,M=j+1:=⟨M-1,by omega⟩
  have e1:decide ((pre.length:Int)<(b.length:Int))=false:=decide_eq_false (by rw[he];simp)
  refine⟨v7,H,Z,(fun r hr=>by rw[decG]at hr;cases hr;simpa using ho),Gr.refl hg.wf,fun fr k f4 f7 f8 f9 f10=>?_⟩
  rw[zC,if_pos (by rw[decG];rfl)]
  simp only[zDn,zA f4,zA f7,zA f8,zA f9,zA f10,(hr.gr hg hw0 nl).pLen,zK,zI,e1,zM]
  rfl
 | cons x l ih =>
  intro pre acc w h v7 M H Z he hM hg ho hal hw6 hh
  obtain⟨M,rfl⟩:∃ j,M=j+1:=⟨M-1,by omega⟩
  have hw:=hg.wf
  have hlt:pre.length<b.length:=by rw[he];simp
  have e1:decide ((pre.length:Int)<(b.length:Int))=true:=decide_eq_true (by omega)
  have hxi:(bv b)[pre.length]?=some (.int .u8 (x.toNat:Int)):=by rw[he];simp[bv]
  have hrH:=hr.gr hg hw0 nl
  obtain⟨p,p1,p2⟩:=hrH.elem1 hxi
  have hi:=fun H Z q=>hI x H Z q
  have e6:wr .i64 ((pre.length:Int)+Int.ofNat 1)=((pre++[x]).length:Int):=by rw[adI (by omega)];simp
  cases hv:v64 x with
  | none =>
   have hd:decG w h (x::l)=none:=by rw[decG,hv]
   refine⟨v7,H,Z,(fun r hr=>by rw[hd]at hr;cases hr),Gr.refl hw,fun fr k f4 f7 f8 f9 f10=>?_⟩
   rw[zC,hd,if_neg (by simp)]
   simp only[zDn,zA f4,zA f7,zA f8,zA f9,zA f10,hrH.pLen,zI,e1,zO,p1,p2,zK,hi,v64_none hv]
   rfl
  | some v =>
   obtain⟨hv1,hv2,hv3⟩:=v64_some hv
   have hw2:(w*64+v) % 65536<65536:=Nat.mod_lt _ (by omega)
   have a1:wr .i64 ((w:Int)*Int.ofNat 64)=((w*64:Nat):Int):=by
    have e:(w:Int)*Int.ofNat 64=((w*64:Nat):Int):=by rw[Int.natCast_mul];rfl
    rw[e,zAZ (by omega) (by omega)]
   have a2:wr .i64 (((w*64:Nat):Int)+(v:Int))=((w*64+v:Nat):Int):=adN2 (by omega)
   have a3:∀ q,binK .rem (.int .i64 ((w*64+v:Nat):Int)) (.int .i64 (.ofNat 65536)) q=q (.int .i64 (((w*64+v) % 65536:Nat):Int)):=fun q=>by rw[zFh _ _ _ (by decide)];rfl
   have a4:wr .i64 ((h:Int)+Int.ofNat 6)=((h+6:Nat):Int):=adI (by omega)
   by_cases h8:8<=h+6
   ·have a5:decide (Int.ofNat 8<=((h+6:Nat):Int))=true:=decide_eq_true (by have:Int.ofNat 8=8:=rfl;omega)
    have a6:wr .i64 (((h+6:Nat):Int)-Int.ofNat 8)=((h+6-8:Nat):Int):=sbI (by omega) (by omega)
    have a66:wr .u64 ((h+6-8:Nat):Int)=((h+6-8:Nat):Int):=by rw[wr_u64,Nat.mod_eq_of_lt (by omega)]
    have a7:∀ q,binK .shr (.int .i64 (((w*64+v) % 65536:Nat):Int)) (.int .u64 ((h+6-8:Nat):Int)) q=q (.int .i64 (((w*64+v) % 65536 / 2 ^ (h+6-8):Nat):Int)):=fun q=>by
     rw[zLr,Nat.min_eq_left (show h+6-8<=IntKind.i64.bits from Nat.le_trans (by omega:h+6-8<=6) (by decide))]
    generalize hw':(w*64+v) % 65536=w' at hw2 a3 a7
    have hd:decG w h (x::l)=(decG w' (h+6-8) l).map fun r=>w' / 2 ^ (h+6-8) % 256::r:=by rw[decG,hv];simp only[if_pos h8,hw']
    obtain⟨wv,H1,v',H2,r1,r2,r3,r4,_⟩:=ho.push (bytes:=1) hw hg.size (.int .u8 ((w' / 2 ^ (h+6-8) % 256:Nat):Int)) (.int .u8 (.ofNat 0)) rfl rfl (by omega) (by omega) Z
    have hcs:ws .u8 acc++[V.int .u8 ((w' / 2 ^ (h+6-8) % 256:Nat):Int)]=ws .u8 (acc++[w' / 2 ^ (h+6-8) % 256]):=by rw[zQy];rfl
    rw[hcs]at r3
    obtain⟨v7',H',Z',s1,s2,s3⟩:=ih (pre++[x]) (acc++[w' / 2 ^ (h+6-8) % 256]) w' (h+6-8) v' M H2 Z.tail (by rw[he];simp) (by simp at hM;omega) (hg.trans r4 nl) (by simpa using r3) (by simp;omega) hw2 (by omega)
    refine⟨v7',H',Z',fun r hr=>?_,r4.trans s2 nl,fun fr k f4 f7 f8 f9 f10=>?_⟩
    ·rw[hd]at hr
     cases hdd:decG w' (h+6-8) l with
     | none=>rw[hdd]at hr;cases hr
     | some r' =>
      rw[hdd]at hr;cases hr
      have:=s1 r' hdd
      simpa using this
    ·rw[zC,hd,Option.isSome_map]
     simp only[zDn,zA f4,zA f7,zA f8,zA f9,zA f10,hrH.pLen,zI,e1,zO,p1,p2,zK,hi,hv1,zM,hv2,zIB,a1,a2,a3,zQ,a4,zt,a5,zAC,a6,zB7,a66,a7,wr_byte,r1,r2,za,zGs,zJ,↓reduceIte,Nat.reduceEqDiff,e6]
     exact s3 _ _ (by rfl) (by rfl) (by rfl) (by rfl) (by rfl)
   ·have a5:decide (Int.ofNat 8<=((h+6:Nat):Int))=false:=decide_eq_false (by have:Int.ofNat 8=8:=rfl;omega)
    have hd:decG w h (x::l)=decG ((w*64+v) % 65536) (h+6) l:=by rw[decG,hv];simp only[if_neg h8]
    obtain⟨v7',H',Z',s1,s2,s3⟩:=ih (pre++[x]) acc ((w*64+v) % 65536) (h+6) v7 M H Z (by rw[he];simp) (by simp at hM;omega) hg ho (by simp;omega) hw2 (by omega)
    refine⟨v7',H',Z',(fun r hr=>s1 r (by rw[hd]at hr;exact hr)),s2,fun fr k f4 f7 f8 f9 f10=>?_⟩
    rw[zC,hd]
    simp only[zDn,zA f4,zA f7,zA f8,zA f9,zA f10,hrH.pLen,zI,e1,zO,p1,p2,zK,hi,hv1,zM,hv2,zIB,a1,a2,a3,zQ,a4,zt,a5,zGs,zJ,↓reduceIte,Nat.reduceEqDiff,e6]
    exact s3 _ _ (by rfl) (by rfl) (by rfl) (by rfl) (by rfl)
theorem Own.rdsrc {H:Heap}{B:Nat}{v:V}{n:Nat}{cs:List V}(h:Own H B 1 v n cs):Rd H 1 v n cs/\Src H v:=by
 refine⟨h.rd,?_⟩
 rcases h with⟨rfl,_⟩ | ⟨id,e,room,fam,ver,pl,st,fr,rfl,h2,h3,h4,_⟩
 ·trivial
 ·refine⟨cs,?_⟩
  simp only[Heap.cells?,h2,h3]
  rw[show Nat.ble fr ver=true from Nat.ble_eq_true_of_le h4]
  rfl
theorem zPt (c:zD){N:Nat}(hN:9223372036854775807<=N)(hI:zS3 c)(hV:Val64Ok c)(s:Bs)(hs:s.length<=1000000000)(H:Heap)(hw:WF H)(Z:Tape) :
  ∃ v H' Z',Gr H.size H H'/\B64V H' v (zG6 s)/\∀ q,zIR c N (.str s) H Z q=q (.tup [v,.bool (zG6 s).isSome]) H' Z':=by
 obtain⟨v4,H1,Z1,a1,a2,a3⟩:=l_rb64f c N hI s hs H.size s [] [] .nils N H Z rfl (by omega) hw nl (Own.nil _ _ _) nl
 rw[List.nil_append]at a1
 have hnl:(nbB s).length<=s.length:=List.length_filter_le _ _
 obtain⟨v5,b1,b2,b3⟩:∃ v5,Rd H1 1 v5 (if(nbB s).length % 4=0 then zBY 2 (nbB s)else nbB s).length (bv (if(nbB s).length % 4=0 then zBY 2 (nbB s)else nbB s))/\Roomy v5/\∀ (fr:T V) q,fr.get 4=some v4 ->
   ∃ fr',fr'.get 4=some v5/\zGt c N q ⟨fr,H1⟩ Z1=zCU c N q ⟨fr',H1⟩ Z1:=by
  have hrem:∀ q,binK .rem (.int .i64 ((nbB s).length:Int)) (.int .i64 (.ofNat 4)) q=q (.int .i64 (((nbB s).length % 4:Nat):Int)):=fun q=>by rw[zFh _ _ _ (by decide)];rfl
  by_cases h4:(nbB s).length % 4=0
  ·rw[if_pos h4]
   obtain⟨v5,q1,q2,q3⟩:=l_rb64d c N H1 2 0 (nbB s) v4 N Z1 rfl (by omega) (by omega) a1.rd a1.roomy
   refine⟨v5,q1,q2,fun fr q f4=>⟨(T.s .leaf 4 v5),by simp[T.get_set],?_⟩⟩
   have e2:((((nbB s).length % 4:Nat):Int) == Int.ofNat 0)=true:=by rw[h4];rfl
   simp only[zGt,zA f4,a1.pLen,zK,hrem,zZ,e2,zO]
   rw[q3 _ _ (by rfl) (by rfl)]
   simp only[zP,Nat.beq_refl,cond_true,seqK]
  ·rw[if_neg h4]
   refine⟨v4,a1.rd,a1.roomy,fun fr q f4=>⟨(T.s (T.s .leaf 4 v4) 32 (.bool false)),by simp[T.get_set],?_⟩⟩
   have e2:((((nbB s).length % 4:Nat):Int) == Int.ofNat 0)=false:=by rw[beq_eq_false_iff_ne];have:Int.ofNat 0=0:=rfl;omega
   simp only[zGt,zA f4,a1.pLen,zK,hrem,zZ,e2,zM]
 have hB:zG6 s=if(if(nbB s).length % 4=0 then zBY 2 (nbB s)else nbB s).length % 4=1 then none else decG 0 0 (if(nbB s).length % 4=0 then zBY 2 (nbB s)else nbB s):=rfl
 have hbl:(if(nbB s).length % 4=0 then zBY 2 (nbB s)else nbB s).length<=1000000000:=by
  split
  ·have:=zPh 2 (nbB s);omega
  ·omega
 generalize (if(nbB s).length % 4=0 then zBY 2 (nbB s)else nbB s)=b at b1 hB hbl
 have hrem:∀ q,binK .rem (.int .i64 (b.length:Int)) (.int .i64 (.ofNat 4)) q=q (.int .i64 ((b.length % 4:Nat):Int)):=fun q=>by rw[zFh _ _ _ (by decide)];rfl
 have start:∀ q,∃ fr',fr'.get 4=some v5/\zIR c N (.str s) H Z q=zCU c N q ⟨fr',H1⟩ Z1:=fun q=>by
  obtain⟨fr',f4,k4⟩:=b3 (T.s .leaf 4 v4) q (by rfl)
  refine⟨fr',f4,?_⟩
  simp only[zIR]
  rw[a3 _ _ (by rfl) (by rfl) (by rfl)]
  simp only[zP,Nat.beq_refl,cond_true,seqK,k4]
 by_cases h1:b.length % 4=1
 ·rw[hB,if_pos h1]
  refine⟨.nils,H1,Z1,a2,rfl,fun q=>?_⟩
  obtain⟨fr',f4,k⟩:=start q
  have e1:(((b.length % 4:Nat):Int) == Int.ofNat 1)=true:=by rw[h1];rfl
  rw[k]
  simp only[zCU,zA f4,b1.pLen,zK,hrem,zZ,e1,zO]
  rfl
 ·rw[hB,if_neg h1]
  have e1:(((b.length % 4:Nat):Int) == Int.ofNat 1)=false:=by rw[beq_eq_false_iff_ne];have:Int.ofNat 1=1:=rfl;omega
  obtain⟨v8,H3,Z3,r1,r2,r3⟩:=l_rb64g c N hV b hbl v5 H1 a2.wf b1 b [] [] 0 0 .nils N H1 Z1 rfl (by omega) (Gr.refl a2.wf) (Own.nil _ _ _) nl (by omega) (by omega)
  have G:Gr H.size H H3:=a2.trans r2 a2.size
  cases hd:decG 0 0 b with
  | none =>
   refine⟨.nils,H3,Z3,G,rfl,fun q=>?_⟩
   obtain⟨fr',f4,k⟩:=start q
   rw[k]
   simp only[zCU,zA f4,b1.pLen,zK,hrem,zZ,e1,zM]
   rw[r3 _ _ (by rfl) (by rfl) (by rfl) (by rfl) (by rfl),hd,if_neg (by simp)]
   simp only[zP,seqK,endK]
   rfl
  | some r =>
   have c3:=r1 r hd
   rw[List.nil_append]at c3
   refine⟨v8,H3,Z3,G,Own.rdsrc c3,fun q=>?_⟩
   obtain⟨fr',f4,k⟩:=start q
   rw[k]
   simp only[zCU,zA f4,b1.pLen,zK,hrem,zZ,e1,zM]
   rw[r3 _ _ (by rfl) (by rfl) (by rfl) (by rfl) (by rfl),hd,if_pos (by simp)]
   simp only[zP,Nat.beq_refl,cond_true,seqK,zMc,zJ,↓reduceIte]
   rfl
end Go.Am.X

