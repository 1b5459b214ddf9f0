/- The abstract machine, printed functions of the program, and what they are shown to be. -/
import Derived.Test.YtnijdmamheiebaaDoorCLSL8
import Derived.Test.YtnijdmamheiebaaDoorCLSL3
import Derived.Test.YtnijdmamheiebaaDoorCLSM4
import Derived.Test.YtnijdmamheiebaaDoorCLSL1
import Derived.Test.YtnijdmamheiebaaDoorCLSL0
set_option linter.unusedSimpArgs false
set_option linter.unusedVariables false
set_option linter.unusedSectionVars false
set_option maxRecDepth 100000
namespace Go.Am.X
theorem b_shr64 (x s:Nat)(hs:s<=64)(c:V->Ans):binK .shr (.int .u64 (x:Int)) (.int .u64 (.ofNat s)) c=c (.int .u64 ((x / 2 ^ s:Nat):Int)):=by
 have:=u_shr (k:=.u64) (k':=.u64) x s c
 rw[show min s (IntKind.u64).bits=s from Nat.min_eq_left hs]at this
 exact this
theorem b_shr18 (x:Nat)(c:V->Ans):binK .shr (.int .i64 (x:Int)) (.int .u64 (.ofNat 18)) c=c (.int .i64 ((x / 262144:Nat):Int)):=u_shr (k:=.i64) (k':=.u64) x 18 c
theorem lenB_eq:bs [0,1,2,2,3,3,3,3,4,4,4,4,4,4,4,4,5,5,5,5,5,5,5,5,5,5,5,5,5,5,5,5,6,6,6,6,6,6,6,6,6,6,6,6,6,6,6,6,6,6,6,6,6,6,6,6,6,6,6,6,6,6,6,6,7,7,7,7,7,7,7,7,7,7,7,7,7,7,7,7,7,7,7,7,7,7,7,7,7,7,7,7,7,7,7,7,7,7,7,7,7,7,7,7,7,7,7,7,7,7,7,7,7,7,7,7,7,7,7,7,7,7,7,7,7,7,7,7,8,8,8,8,8,8,8,8,8,8,8,8,8,8,8,8,8,8,8,8,8,8,8,8,8,8,8,8,8,8,8,8,8,8,8,8,8,8,8,8,8,8,8,8,8,8,8,8,8,8,8,8,8,8,8,8,8,8,8,8,8,8,8,8,8,8,8,8,8,8,8,8,8,8,8,8,8,8,8,8,8,8,8,8,8,8,8,8,8,8,8,8,8,8,8,8,8,8,8,8,8,8,8,8,8,8,8,8,8,8,8,8,8,8,8,8,8,8,8,8,8,8,8,8,8,8,8,8]=lenB:=rfl
def LenP (n L:Nat):Prop:=1<=L/\2 ^ (L-1)<=n/\n<2 ^ L
theorem len_j2 (c:zG)(N:Nat){n s x:Nat}(hx:x=n / 2 ^ s)(h0:0<x)(h1:x<256)(hs:s<=56):∃ L,LenP n L/\L<=s+8/\∀ (fr:T V) H Z q,fr.get 0=some (.int .u64 (x:Int))->fr.get 2=some (.int .i64 (s:Int))->zFv c N q ⟨fr,H⟩ Z=q (.int .i64 (L:Int)) H Z:=by
 obtain⟨t,t1,t2,t3,t4⟩:=lenB_at x h1
 obtain⟨t5,t6⟩:=t4 h0
 obtain⟨l1,l2⟩:=len_part hx t3 t5 t6
 refine⟨s+t,⟨by omega,l1,l2⟩,by omega,fun fr H Z q f0 f2=>?_⟩
 have e1:wr .u8 (x:Int)=(x:Int):=by rw[wr_u8,Nat.mod_eq_of_lt h1]
 have e2:wr .i64 ((UInt8.ofNat t).toNat:Int)=(t:Int):=by
  rw[show(UInt8.ofNat t).toNat=t by simp;omega,zES (by omega) (by omega)]
 have e3:wr .i64 ((s:Int)+(t:Int))=((s+t:Nat):Int):=adN2 (by omega)
 simp only[zFv,zA f0,zA f2,zBB,e1]
 rw[lenB_eq,strIdxK t1]
 simp only[zB,zBB,e2,zS .i64,e3]
theorem len_j1 (c:zG)(N:Nat){n s x:Nat}(hx:x=n / 2 ^ s)(h0:0<x)(h1:x<65536)(hs:s<=48):∃ L,LenP n L/\L<=s+16/\∀ (fr:T V) H Z q,fr.get 0=some (.int .u64 (x:Int))->fr.get 2=some (.int .i64 (s:Int))->zDj c N q ⟨fr,H⟩ Z=q (.int .i64 (L:Int)) H Z:=by
 by_cases d:256<=x
 ·have e1:decide (Int.ofNat 256<=(x:Int))=true:=decide_eq_true (by have:Int.ofNat 256=256:=rfl;omega)
  have e3:wr .i64 ((s:Int)+Int.ofNat 8)=((s+8:Nat):Int):=adI (by omega)
  obtain⟨L,a1,a2,a3⟩:=len_j2 c N (n:=n) (s:=s+8) (x:=x / 2 ^ 8) (by rw[hx,Nat.div_div_eq_div_mul,<- Nat.pow_add]) (by omega) (by omega) (by omega)
  refine⟨L,a1,by omega,fun fr H Z q f0 f2=>?_⟩
  simp only[zDj,zA f0,zA f2,zi,e1,zF]
  rw[b_shr64 x 8 (by omega)]
  simp only[zS .i64,e3]
  exact a3 _ H Z q (by simp[T.get_set]) (by simp[T.get_set])
 ·have e1:decide (Int.ofNat 256<=(x:Int))=false:=decide_eq_false (by have:Int.ofNat 256=256:=rfl;omega)
  obtain⟨L,a1,a2,a3⟩:=len_j2 c N (n:=n) (s:=s) hx h0 (by omega) (by omega)
  refine⟨L,a1,by omega,fun fr H Z q f0 f2=>?_⟩
  simp only[zDj,zA f0,zA f2,zi,e1,zD]
  exact a3 _ H Z q (by simp[T.get_set]) (by simp[T.get_set])
theorem len_j0 (c:zG)(N:Nat){n s x:Nat}(hx:x=n / 2 ^ s)(h0:0<x)(h1:x<4294967296)(hs:s<=32):∃ L,LenP n L/\L<=s+32/\∀ (fr:T V) H Z q,fr.get 0=some (.int .u64 (x:Int))->fr.get 2=some (.int .i64 (s:Int))->zEB c N q ⟨fr,H⟩ Z=q (.int .i64 (L:Int)) H Z:=by
 by_cases d:65536<=x
 ·have e1:decide (Int.ofNat 65536<=(x:Int))=true:=decide_eq_true (by have:Int.ofNat 65536=65536:=rfl;omega)
  have e3:wr .i64 ((s:Int)+Int.ofNat 16)=((s+16:Nat):Int):=adI (by omega)
  obtain⟨L,a1,a2,a3⟩:=len_j1 c N (n:=n) (s:=s+16) (x:=x / 2 ^ 16) (by rw[hx,Nat.div_div_eq_div_mul,<- Nat.pow_add]) (by omega) (by omega) (by omega)
  refine⟨L,a1,by omega,fun fr H Z q f0 f2=>?_⟩
  simp only[zEB,zA f0,zA f2,zi,e1,zF]
  rw[b_shr64 x 16 (by omega)]
  simp only[zS .i64,e3]
  exact a3 _ H Z q (by simp[T.get_set]) (by simp[T.get_set])
 ·have e1:decide (Int.ofNat 65536<=(x:Int))=false:=decide_eq_false (by have:Int.ofNat 65536=65536:=rfl;omega)
  obtain⟨L,a1,a2,a3⟩:=len_j1 c N (n:=n) (s:=s) hx h0 (by omega) (by omega)
  refine⟨L,a1,by omega,fun fr H Z q f0 f2=>?_⟩
  simp only[zEB,zA f0,zA f2,zi,e1,zD]
  exact a3 _ H Z q (by simp[T.get_set]) (by simp[T.get_set])
abbrev LenOk (c:zG):Prop:=∀ (n:Nat),0<n->n<18446744073709551616->∃ L,LenP n L/\L<=64/\∀ H Z q,c zJD [.int .u64 (n:Int)] H Z q=q (.int .i64 (L:Int)) H Z
theorem zP5 (c:zG)(N:Nat)(n:Nat)(h0:0<n)(hn:n<18446744073709551616):∃ L,LenP n L/\L<=64/\∀ H Z q,zG5 c N (.int .u64 (n:Int)) H Z q=q (.int .i64 (L:Int)) H Z:=by
 by_cases d:4294967296<=n
 ·have e1:decide (Int.ofNat 4294967296<=(n:Int))=true:=decide_eq_true (by have:Int.ofNat 4294967296=4294967296:=rfl;omega)
  obtain⟨L,a1,a2,a3⟩:=len_j0 c N (n:=n) (s:=32) (x:=n / 2 ^ 32) rfl (by omega) (by omega) (by omega)
  refine⟨L,a1,by omega,fun H Z q=>?_⟩
  simp only[zG5,zi,e1,zF]
  rw[b_shr64 n 32 (by omega)]
  exact a3 _ H Z q (by simp[T.get_set]) (by rfl)
 ·have e1:decide (Int.ofNat 4294967296<=(n:Int))=false:=decide_eq_false (by have:Int.ofNat 4294967296=4294967296:=rfl;omega)
  obtain⟨L,a1,a2,a3⟩:=len_j0 c N (n:=n) (s:=0) (x:=n) (by simp) h0 (by omega) (by omega)
  refine⟨L,a1,by omega,fun H Z q=>?_⟩
  simp only[zG5,zi,e1,zD]
  exact a3 _ H Z q (by simp[T.get_set]) (by rfl)
def pow10L:List V:=[.int .u64 1,.int .u64 10,.int .u64 100,.int .u64 1000,.int .u64 10000,.int .u64 100000,.int .u64 1000000,.int .u64 10000000,.int .u64 100000000,.int .u64 1000000000,.int .u64 10000000000,.int .u64 100000000000,.int .u64 1000000000000,.int .u64 10000000000000,.int .u64 100000000000000,.int .u64 1000000000000000,.int .u64 10000000000000000,.int .u64 100000000000000000,.int .u64 1000000000000000000,.int .u64 10000000000000000000]
theorem pow10L_at:∀ t,t<20->pow10L[t]?=some (.int .u64 ((10 ^ t:Nat):Int)):=by
 intro t ht
 match t,ht with
 | 0,_=>rfl
 | 1,_=>rfl
 | 2,_=>rfl
 | 3,_=>rfl
 | 4,_=>rfl
 | 5,_=>rfl
 | 6,_=>rfl
 | 7,_=>rfl
 | 8,_=>rfl
 | 9,_=>rfl
 | 10,_=>rfl
 | 11,_=>rfl
 | 12,_=>rfl
 | 13,_=>rfl
 | 14,_=>rfl
 | 15,_=>rfl
 | 16,_=>rfl
 | 17,_=>rfl
 | 18,_=>rfl
 | 19,_=>rfl
 | n+20,h=>exact absurd h (by omega)
def PowH (H:Heap):Prop:=H.cells? 1=some pow10L
theorem zKr (c:zG)(N:Nat)(L:Nat)(hL:L<=64)(H:Heap)(Z:Tape)(q:KV):zC5 c N (.int .i64 (L:Int)) H Z q=q (.int .i64 ((L*78913 / 262144:Nat):Int)) H Z:=by
 simp only[zC5]
 rw[zJT,show(L:Int)*Int.ofNat 78913=((L*78913:Nat):Int)by simp,zES (by omega) (by omega),b_shr18]
abbrev LogOk (c:zG):Prop:=∀ (L:Nat),L<=64->∀ H Z q,c zDA [.int .i64 (L:Int)] H Z q=q (.int .i64 ((L*78913 / 262144:Nat):Int)) H Z
abbrev B2iOk (c:zG):Prop:=∀ (b:Bool) H Z q,c zC7 [.bool b] H Z q=q (.int .i64 (.ofNat (if b=true then 1 else 0))) H Z
theorem zK4 (c:zG)(N:Nat)(b:Bool)(H:Heap)(Z:Tape)(q:KV):zB0 c N (.bool b) H Z q=q (.int .i64 (.ofNat (if b=true then 1 else 0))) H Z:=by
 cases b
 ·simp only[zB0,zD];rfl
 ·simp only[zB0,zF];rfl
abbrev NdgOk (c:zG):Prop:=∀ (n:Nat),0<n->n<9223372036854775808->∃ d,d<=18/\10 ^ d<=n/\n<10 ^ (d+1)/\∀ {H:Heap},PowH H->∀ Z q,c zDN [.int .u64 (n:Int)] H Z q=q (.int .i64 ((d+1:Nat):Int)) H Z
theorem zKq (c:zG)(N:Nat)(hLn:LenOk c)(hLg:LogOk c)(hB:B2iOk c)(n:Nat)(h0:0<n)(hn:n<9223372036854775808) :
  ∃ d,d<=18/\10 ^ d<=n/\n<10 ^ (d+1)/\∀ {H:Heap},PowH H->∀ Z q,zDJ c N (.int .u64 (n:Int)) H Z q=q (.int .i64 ((d+1:Nat):Int)) H Z:=by
 obtain⟨L,⟨l1,l2,l3⟩,l4,kl⟩:=hLn n h0 (by omega)
 have hL:L<64:=by
  rcases Nat.lt_or_ge L 64 with h | h
  ·exact h
  ·have:2 ^ 63<=2 ^ (L-1):=Nat.pow_le_pow_right (by omega) (by omega)
   omega
 obtain⟨d,d1,d2,d3,d4⟩:=lg_len hL l1 l2 l3
 have ht:=(lg_tab L hL l1).2.2
 refine⟨d,d1,d2,d3,fun {H} hH Z q=>?_⟩
 have p:=pow10L_at (L*78913 / 262144) (by omega)
 have kg:=hLg L l4 H Z
 generalize L*78913 / 262144=t at d4 ht p kg
 have ai:zJW 20 1 [.ptr 1 0,.int .i64 (t:Int)]=some (.ptr 1 (0+t*1)):=by
  have:Nat.blt t 20=true:=by simp[Nat.blt];omega
  simp only[zJW,zBK,this,cond_true]
 have al:zf [.ptr 1 (0+t*1)] H=some (.int .u64 ((10 ^ t:Nat):Int)):=by
  rw[show 0+t*1=t by omega];exact zDQ hH p
 simp only[zDJ,kl H Z,kg,ai,zB,al,zi]
 rw[hB]
 by_cases h:10 ^ t<=n
 ·have e:decide (((10 ^ t:Nat):Int)<=(n:Int))=true:=decide_eq_true (by omega)
  rw[if_pos h]at d4
  rw[e,if_pos rfl,zS,adI (by omega),d4]
 ·have e:decide (((10 ^ t:Nat):Int)<=(n:Int))=false:=decide_eq_false (by omega)
  rw[if_neg h]at d4
  rw[e,if_neg (by decide),zS,adI (by omega),d4]
abbrev SmlOk (c:zG):Prop:=∀ (n:Nat),n<100->∀ H Z q,c zF6 [.int .i64 (n:Int)] H Z q=q (.str (digF 20 n [])) H Z
theorem zNy (c:zG)(N:Nat)(n:Nat)(hn:n<100)(H:Heap)(Z:Tape)(q:KV):zD0 c N (.int .i64 (n:Int)) H Z q=q (.str (digF 20 n [])) H Z:=by
 by_cases d:n<10
 ·have e1:decide ((n:Int)<Int.ofNat 10)=true:=decide_eq_true (by have:Int.ofNat 10=10:=rfl;omega)
  have e2:wr .i64 ((n:Int)+Int.ofNat 1)=((n+1:Nat):Int):=adI (by omega)
  simp only[zD0,zL,e1,zF,zS .i64,e2]
  rw[zAp (by omega) (by show n+1<=36;omega),tens_at n d]
  simp only[zB]
 ·have e1:decide ((n:Int)<Int.ofNat 10)=false:=decide_eq_false (by have:Int.ofNat 10=10:=rfl;omega)
  have e3:wr .i64 ((n:Int)*Int.ofNat 2)=((2*n:Nat):Int):=by rw[show(n:Int)*Int.ofNat 2=((2*n:Nat):Int)by simp;omega,zES (by omega) (by omega)]
  have e2:wr .i64 (((2*n:Nat):Int)+Int.ofNat 2)=((2*n+2:Nat):Int):=adI (by omega)
  simp only[zD0,zL,e1,zD,zJT,e3,zS .i64,e2]
  rw[zOX,zAp (by omega) (by show 2*n+2<=200;omega),smalls_cut n hn (by omega)]
  simp only[zB]
abbrev B10Ok (c:zG):Prop:=∀ {id d n lo:Nat} {ex:Option Nat} {cells:List V} {H:Heap},WF H->Bx H id cells->cells.length=24->d<=20->n<10 ^ d->n<18446744073709551616->∀ Z,FBR (c zCB [.sl id 1 d lo ex 1,.int .u64 (n:Int)]) id d n H Z
theorem repl24:(repl 24 [(V.int .u8 (.ofNat 0))]).length=24:=rfl
theorem zK1 (c:zG)(N:Nat)(hS:SmlOk c)(hD:NdgOk c)(hB:B10Ok c)(n:Nat)(hn:n<9223372036854775808){H:Heap}(hw:WF H)(hp:PowH H)(Z:Tape) :
  ∃ H',Gr H.size H H'/\∀ q,zBu c N (.int .i64 (n:Int)) (.int .i64 (.ofNat 10)) H Z q=q (.str (digF 20 n [])) H' Z:=by
 have e0:(Int.ofNat 10 == Int.ofNat 10)=true:=rfl
 have e1:decide (Int.ofNat 0<=(n:Int))=true:=decide_eq_true (by have:Int.ofNat 0=0:=rfl;omega)
 by_cases d:n<100
 ·have e2:decide ((n:Int)<Int.ofNat 100)=true:=decide_eq_true (by have:Int.ofNat 100=100:=rfl;omega)
  refine⟨H,Gr.refl hw,fun q=>?_⟩
  simp only[zBu,zU,e0,zF,zAY,e1,zAB,retK,zN,zL,e2,zJ,cond_true,zB,hS n d H Z]
 ·have e2:decide ((n:Int)<Int.ofNat 100)=false:=decide_eq_false (by have:Int.ofNat 100=100:=rfl;omega)
  obtain⟨k,d1,d2,d3,d4⟩:=hD n (by omega) hn
  have a1:zBV (repl 24 [(.int .u8 (.ofNat 0))]) [] H Z=some (.ptr H.size 0,H.new (repl 24 [(.int .u8 (.ofNat 0))]) 24 true,Z):=rfl
  have g1:=Gr.new hw (repl 24 [(.int .u8 (.ofNat 0))]) 24 true
  have x1:Bx (H.new (repl 24 [(.int .u8 (.ofNat 0))]) 24 true) H.size (repl 24 [(.int .u8 (.ofNat 0))]):=Bx.new H _ _ _ (by rw[repl24];omega)
  generalize H.new (repl 24 [(.int .u8 (.ofNat 0))]) 24 true=H1 at a1 g1 x1
  have hp1:PowH H1:=g1.cells hw nl hp
  have e3:wr .u64 (n:Int)=(n:Int):=by rw[zPq,Nat.mod_eq_of_lt (by omega)]
  have e4:decide ((n:Int)<Int.ofNat 0)=false:=decide_eq_false (by have:Int.ofNat 0=0:=rfl;omega)
  have e5:wr .i64 (Int.ofNat 1+((k+1:Nat):Int))=((k+2:Nat):Int):=by rw[show Int.ofNat 1+((k+1:Nat):Int)=((k+2:Nat):Int)by simp;omega,zES (by omega) (by omega)]
  have ac:zCH 24 1 true true false [.ptr H.size 0,.int .i64 (.ofNat 1),.int .i64 ((k+2:Nat):Int)]=some (.sl H.size 1 (k+1) 23 none 1):=by
   have b3:zE8 true true false [V.int .i64 (.ofNat 1),.int .i64 ((k+2:Nat):Int)]=some (some 1,some (k+2),none):=by simp only[zE8,optN,zBK];rfl
   have w1:Nat.ble (k+2) 24=true:=Nat.ble_eq_true_of_le (by omega)
   have w2:Nat.ble 1 (k+2)=true:=Nat.ble_eq_true_of_le (by omega)
   simp only[zCH,b3,zSR,Option.getD_some,within,w1,w2,cond_true,Bool.true_and]
   rfl
  obtain⟨H2,b1,b2,b3⟩:=hB (lo:=23) (ex:=none) g1.wf x1 repl24 (by omega) d3 (by omega) Z
  obtain⟨cells,f1,f2,f3,f4⟩:=b1.done
  have hl:zA6 [.sl H.size 1 (k+1) 23 none 1] H2=some (.str (padD (k+1) n)):=by
   simp only[zA6,zCj f1.cells (show 1+(k+1)<=_ by omega)]
   rw[f4]
   simp[zJ3]
  have hz:=b2.size
  refine⟨H2,g1.trans (b2.gr (B:=H.size) g1.size fun i hi e=>by omega) nl,fun q=>?_⟩
  simp only[zBu,zU,e0,zF,zAY,e1,zAB,retK,zN,zL,e2,zJ,cond_true,zB,zD,a1,zBB,e3,e4,zDZ,zK,↓reduceIte,Nat.reduceEqDiff,d4 hp1 Z,zS .i64,e5,ac,b3,hl]
  rw[zSJ k 20 n [] (by omega) d2 d3,List.append_nil]
abbrev FmtIOk (c:zG)(f:Nat):Prop:=∀ (n:Nat),n<9223372036854775808->∀ {H:Heap},WF H->PowH H->∀ Z,∃ H',Gr H.size H H'/\∀ q,c f [.int .i64 (n:Int),.int .i64 (.ofNat 10)] H Z q=q (.str (digF 20 n [])) H' Z
theorem dig_L {n:Nat}(hn:n<100000000):dig n=digF 20 n []:=by
 unfold dig
 by_cases h0:n=0
 ·subst h0;rfl
 ·have key:∀ d,d<8->10 ^ d<=n->n<10 ^ (d+1)->digF 8 n []=digF 20 n []:=fun d hd h1 h2=>by
   rw[zSJ d 8 n [] (by omega) h1 h2,zSJ d 20 n [] (by omega) h1 h2]
  by_cases h1:n<10
  ·exact key 0 (by omega) (by omega) (by omega)
  ·by_cases h2:n<100
   ·exact key 1 (by omega) (by omega) (by omega)
   ·by_cases h3:n<1000
    ·exact key 2 (by omega) (by omega) (by omega)
    ·by_cases h4:n<10000
     ·exact key 3 (by omega) (by omega) (by omega)
     ·by_cases h5:n<100000
      ·exact key 4 (by omega) (by omega) (by omega)
      ·by_cases h6:n<1000000
       ·exact key 5 (by omega) (by omega) (by omega)
       ·by_cases h7:n<10000000
        ·exact key 6 (by omega) (by omega) (by omega)
        ·exact key 7 (by omega) (by omega) (by omega)
end Go.Am.X

namespace Go.Am.X
theorem zOv {H H':Heap}{B:Nat}(h:PowH H)(hw:WF H)(hg:Gr B H H')(hB:H.size<=B):PowH H':=hg.cells hw hB h
theorem pow_start {l:List (Option (List V))}(h:l[1]?=some (some pow10L)):PowH (start l):=zQA h
abbrev UOwnOk (c:zG):Prop:=∀ (s:Bs) H Z q,c zOf [.str s] H Z q=q (.int .i64 (ownT s)) H Z
theorem zSY (c:zG)(N:Nat)(s:Bs)(H:Heap)(Z:Tape)(q:KV):zFj c N (.str s) H Z q=q (.int .i64 (ownT s)) H Z:=by
 unfold ownT
 by_cases h1:s=bs [104,116,116,112]
 ·rw[if_pos (.inl h1)]
  simp only[zFj,zP,streq,decide_eq_true h1,zB,zF,zCu,zK,↓reduceIte,Nat.reduceEqDiff]
  rfl
 ·by_cases h2:s=bs [119,115]
  ·rw[if_pos (.inr h2)]
   simp only[zFj,zP,streq,decide_eq_false h1,decide_eq_true h2,zB,zF,zD,zCu,zK,↓reduceIte,Nat.reduceEqDiff]
   rfl
  ·rw[if_neg (fun h=>h.elim h1 h2)]
   by_cases h3:s=bs [104,116,116,112,115]
   ·rw[if_pos (.inl h3)]
    simp only[zFj,zP,streq,decide_eq_false h1,decide_eq_false h2,decide_eq_true h3,zB,zF,zD,zCu,zFT,zK,↓reduceIte,Nat.reduceEqDiff]
    rfl
   ·by_cases h4:s=bs [119,115,115]
    ·rw[if_pos (.inr h4)]
     simp only[zFj,zP,streq,decide_eq_false h1,decide_eq_false h2,decide_eq_false h3,decide_eq_true h4,zB,zF,zD,zCu,zFT,zK,↓reduceIte,Nat.reduceEqDiff]
     rfl
    ·rw[if_neg (fun h=>h.elim h3 h4)]
     by_cases h5:s=bs [102,116,112]
     ·rw[if_pos h5]
      simp only[zFj,zP,streq,decide_eq_false h1,decide_eq_false h2,decide_eq_false h3,decide_eq_false h4,decide_eq_true h5,zB,zF,zD,zCu,zFT,zK,↓reduceIte,Nat.reduceEqDiff]
      rfl
     ·rw[if_neg h5]
      simp only[zFj,zP,streq,decide_eq_false h1,decide_eq_false h2,decide_eq_false h3,decide_eq_false h4,decide_eq_false h5,zB,zF,zD,zCu,zFT,zPl,zK,↓reduceIte,Nat.reduceEqDiff]
      rfl
abbrev ItoOk (c:zG)(f:Nat):Prop:=∀ (n:Nat),n<9223372036854775808->∀ {H:Heap},WF H->PowH H->∀ Z,∃ H',Gr H.size H H'/\∀ q,c f [.int .i64 (n:Int)] H Z q=q (.str (digF 20 n [])) H' Z
theorem zLq (c:zG)(N:Nat)(hF:FmtIOk c zB8)(n:Nat)(hn:n<9223372036854775808){H:Heap}(hw:WF H)(hp:PowH H)(Z:Tape) :
  ∃ H',Gr H.size H H'/\∀ q,zDh c N (.int .i64 (n:Int)) H Z q=q (.str (digF 20 n [])) H' Z:=by
 obtain⟨H',h1,h2⟩:=hF n hn hw hp Z
 exact⟨H',h1,fun q=>by simp only[zDh,h2]⟩
theorem zOr (c:zG)(N:Nat)(hF:ItoOk c zCP)(n:Nat)(hn:n<9223372036854775808){H:Heap}(hw:WF H)(hp:PowH H)(Z:Tape) :
  ∃ H',Gr H.size H H'/\∀ q,zGo c N (.int .i64 (n:Int)) H Z q=q (.str (digF 20 n [])) H' Z:=by
 obtain⟨H',h1,h2⟩:=hF n hn hw hp Z
 exact⟨H',h1,fun q=>by simp only[zGo,h2]⟩
theorem or_box {H:Heap}(hw:WF H)(o:OR)(Z:Tape):∃ H',eBox [.agg o.cs] H Z=some (.ptr H.size 0,H',Z)/\Bx H' H.size o.cs/\Gr H.size H H'/\H'.size=H.size+1 :=
 ⟨H.new o.cs 4 true,rfl,Bx.new H _ _ _ nl,Gr.new hw _ _ _,rfl⟩
theorem zPe {H:Heap}{i:Nat}{o:OR}(h:Bx H i o.cs)(k:Nat){v:V}(hv:o.cs[k]?=some v):zf [.ptr i (0+k)] H=some v:=by
 rw[Nat.zero_add];exact zDQ h.cells hv
abbrev TxtOk (c:zG)(f:Nat):Prop:=∀ (o:OR),OGd o->∀ {H:Heap},WF H->PowH H->∀ Z,∃ H',Gr H.size H H'/\∀ q,c f [.agg o.cs] H Z q=q (.str (orgT o)) H' Z
theorem adS {a b:Bs}(h:a.length+b.length<=140737488355328):zAL .add a b=some (.str (a++b)):=zD7 (by omega)
theorem zPC (c:zG)(N:Nat)(hO:UOwnOk c)(hI:ItoOk c zEt)(o:OR)(ho:OGd o){H:Heap}(hw:WF H)(hp:PowH H)(Z:Tape) :
  ∃ H',Gr H.size H H'/\∀ q,zEQ c N (.agg o.cs) H Z q=q (.str (orgT o)) H' Z:=by
 obtain⟨H1,a1,a2,a3,a4⟩:=or_box hw o Z
 have l0:=zPe a2 0 rfl
 have l1:=zPe a2 1 rfl
 have l2:=zPe a2 2 rfl
 have l3:=zPe a2 3 rfl
 have h1:=ho.sch
 have h2:=ho.ho
 have h3:=ho.p0
 have h4:=ho.p1
 have n3:(bs [58,47,47]).length=3:=rfl
 have n1:(bs [58]).length=1:=rfl
 have hb:(orgB o).length<=2000013:=by unfold orgB;simp only[List.length_append];omega
 have e1:zAL .add o.sch (bs [58,47,47])=some (.str (o.sch++bs [58,47,47])):=adS (by omega)
 have e2:zAL .add (o.sch++bs [58,47,47]) o.ho=some (.str (orgB o)):=adS (by rw[List.length_append];omega)
 have ck:=chk_two l2 l2 (show same (V.int .i64 o.po) (V.int .i64 o.po)=true by simp[same,zRJ,zOy])
 unfold orgT
 cases hop:o.op with
 | true =>
  rw[hop]at l3
  refine⟨H1,a3,fun q=>?_⟩
  simp only[zEQ,a1,zN,faO,zB,l3,zF,if_true]
 | false =>
  rw[hop]at l3
  rw[if_neg (by decide)]
  by_cases d:o.po=ownT o.sch
  ·have e3:(o.po != ownT o.sch)=false:=by rw[d];simp
   refine⟨H1,a3,fun q=>?_⟩
   simp only[zEQ,a1,zN,faO,zB,l3,zD,l0,zP,e1,l1,e2,l2,hO o.sch H1 Z,zAM,e3,ck,cond_true,zE2,zK,↓reduceIte,Nat.reduceEqDiff,if_pos d]
  ·have e3:(o.po != ownT o.sch)=true:=by rw[bne_iff_ne];exact d
   obtain⟨H2,b1,b2⟩:=hI o.po.toNat (by omega) a3.wf (zOv hp hw a3 nl) Z
   rw[<- dig_L (show o.po.toNat<100000000 by omega),show((o.po.toNat:Nat):Int)=o.po by omega]at b2
   have hd:=dig_small o.po.toNat
   have e4:zAL .add (bs [58]) (dig o.po.toNat)=some (.str (bs [58]++dig o.po.toNat)):=adS (by omega)
   have e5:zAL .add (orgB o) (bs [58]++dig o.po.toNat)=some (.str (orgB o++bs [58]++dig o.po.toNat)):=by rw[adS (by rw[List.length_append];omega),List.append_assoc]
   refine⟨H2,a3.trans b1 (by omega),fun q=>?_⟩
   simp only[zEQ,a1,zN,faO,zB,l3,zD,zF,l0,zP,e1,l1,e2,l2,hO o.sch H1 Z,zAM,e3,ck,cond_true,b2,e4,e5,zE2,zK,↓reduceIte,Nat.reduceEqDiff,if_neg d]
theorem zQF (c:zG)(N:Nat)(hO:zQK c)(hI:NmlXOk c)(o:OR)(ho:OGd o){H:Heap}(hw:WF H)(Z:Tape) :
  ∃ H',Gr H.size H H'/\∀ q,zGg c N (.agg o.cs) H Z q=q (.str (orgT o)) H' Z:=by
 obtain⟨H1,a1,a2,a3,a4⟩:=or_box hw o Z
 have l0:=zPe a2 0 rfl
 have l1:=zPe a2 1 rfl
 have l2:=zPe a2 2 rfl
 have l3:=zPe a2 3 rfl
 have h1:=ho.sch
 have h2:=ho.ho
 have h3:=ho.p0
 have h4:=ho.p1
 have n3:(bs [58,47,47]).length=3:=rfl
 have n1:(bs [58]).length=1:=rfl
 have hb:(orgB o).length<=2000013:=by unfold orgB;simp only[List.length_append];omega
 have e1:zAL .add o.sch (bs [58,47,47])=some (.str (o.sch++bs [58,47,47])):=adS (by omega)
 have e2:zAL .add (o.sch++bs [58,47,47]) o.ho=some (.str (orgB o)):=adS (by rw[List.length_append];omega)
 have ck:=chk_two l2 l2 (show same (V.int .i64 o.po) (V.int .i64 o.po)=true by simp[same,zRJ,zOy])
 refine⟨H1,a3,fun q=>?_⟩
 unfold orgT
 cases hop:o.op with
 | true =>
  rw[hop]at l3
  simp only[zGg,a1,zN,faO,zB,l3,zF,if_true]
 | false =>
  rw[hop]at l3
  rw[if_neg (by decide)]
  by_cases d:o.po=ownT o.sch
  ·have e3:(o.po != ownT o.sch)=false:=by rw[d];simp
   simp only[zGg,a1,zN,faO,zB,l3,zD,l0,zP,e1,l1,e2,l2,hO o.sch H1 Z,zAM,e3,ck,cond_true,zGl,zK,↓reduceIte,Nat.reduceEqDiff,if_pos d]
  ·have e3:(o.po != ownT o.sch)=true:=by rw[bne_iff_ne];exact d
   have b2:=hI o.po.toNat (by omega) H1 Z
   rw[show((o.po.toNat:Nat):Int)=o.po by omega]at b2
   have hd:=dig_small o.po.toNat
   have e4:zAL .add (orgB o) (bs [58])=some (.str (orgB o++bs [58])):=adS (by omega)
   have e5:zAL .add (orgB o++bs [58]) (dig o.po.toNat)=some (.str (orgB o++bs [58]++dig o.po.toNat)):=adS (by rw[List.length_append];omega)
   simp only[zGg,a1,zN,faO,zB,l3,zD,zF,l0,zP,e1,l1,e2,l2,hO o.sch H1 Z,zAM,e3,ck,cond_true,b2,e4,e5,zGl,zK,↓reduceIte,Nat.reduceEqDiff,if_neg d]
abbrev acoN:Bs:=bs [97,99,99,101,115,115,45,99,111,110,116,114,111,108,45,97,108,108,111,119,45,111,114,105,103,105,110]
abbrev accN:Bs:=bs [97,99,99,101,115,115,45,99,111,110,116,114,111,108,45,97,108,108,111,119,45,99,114,101,100,101,110,116,105,97,108,115]
def chkT (o:OR)(cred:Bool)(hs:List Hd):Bool:=decide (0<(sel acoN hs).length) && ((decide (getT acoN hs=bs [42]) && !cred) || (decide (getT acoN hs=orgT o) && (!cred || decide (getT accN hs=bs [116,114,117,101]))))
abbrev ChkOk (c:zG)(f:Nat):Prop:=∀ (o:OR),OGd o->∀ (cred:Bool) {hs:List Hd},Small hs->∀ {lv:V} {H:Heap},WF H->PowH H->RdH H lv hs->∀ Z,∃ H',Gr H.size H H'/\∀ q,c f [.agg o.cs,.bool cred,lv] H Z q=q (.bool (chkT o cred hs)) H' Z
theorem zP1 (c:zG)(N:Nat)(hG:IsP c zAx (RH GetPre GetG))(hT:TxtOk c zEL)(o:OR)(ho:OGd o)(cred:Bool){hs:List Hd}(hsm:Small hs){lv:V}{H:Heap}(hw:WF H)(hp:PowH H)(hr:RdH H lv hs)(Z:Tape) :
  ∃ H',Gr H.size H H'/\∀ q,zCY c N (.agg o.cs) (.bool cred) lv H Z q=q (.bool (chkT o cred hs)) H' Z:=by
 obtain⟨H1,a1,a2,a3,a4⟩:=or_box hw o Z
 have hr1:=hr.gr a3 hw nl
 have k1:∀ q,c zAx [lv,.str acoN] H1 Z q=q (.tup [.str (getT acoN hs),.bool (decide (0<(sel acoN hs).length))]) H1 Z:=fun q=>k_Get hG hsm (name:=acoN) (by decide) hr1 Z q
 have gall:=zJ4 a2
 unfold chkT
 cases hd:decide (0<(sel acoN hs).length)with
 | false =>
  rw[hd]at k1
  refine⟨H1,a3,fun q=>?_⟩
  simp only[zCY,a1,zN,k1,ext0,ext1,zB,zg,Bool.not_false,zF,Bool.false_and]
 | true =>
  rw[hd]at k1
  obtain⟨H2,b1,b2⟩:=hT o ho a3.wf (zOv hp hw a3 nl) Z
  have hr2:=hr1.gr b1 a3.wf nl
  have k2:∀ q,c zAx [lv,.str accN] H2 Z q=q (.tup [.str (getT accN hs),.bool (decide (0<(sel accN hs).length))]) H2 Z:=fun q=>k_Get hG hsm (name:=accN) (by decide) hr2 Z q
  generalize decide (0<(sel accN hs).length)=bb at k2
  generalize getT acoN hs=s at k1
  generalize getT accN hs=s2 at k2
  have step:∀ (f:KV->Ans),(∀ q,f q=(c zEL [.agg o.cs] H1 Z fun v18 H19 Z20=>binK .neq (.str s) v18 fun v21 =>
    zV v21 (q (.bool false) H19 Z20) (c zAx [lv,.str accN] H19 Z20 fun v22 H23 Z24=>zC (zT 0 [v22]) fun v25=>zC (zT 1 [v22]) fun v26=>unK .not (.bool cred) fun v27 =>
     gK v27 false (fun q'=>q' v25 H23 Z24) H23 Z24 fun v28 H29 Z30=>gK v27 false (fun q'=>binK .eql v28 (.str (bs [116,114,117,101])) fun v=>q' v H29 Z30) H29 Z30 fun v31 H32 Z33=>zC (zAE [v27,(.bool true),v31]) fun v34=>q v34 H32 Z33))) ->
    ∃ H',Gr H.size H H'/\∀ q,f q=q (.bool (decide (s=orgT o) && (!cred || decide (s2=bs [116,114,117,101])))) H' Z:=fun f hf=>by
   by_cases e:s=orgT o
   ·have e':decide (s=orgT o)=true:=decide_eq_true e
    refine⟨H2,a3.trans b1 (by omega),fun q=>?_⟩
    rw[hf]
    cases cred with
    | true=>simp only[b2,zP,strne,e',Bool.not_true,zB,zD,k2,ext0,ext1,zg,zu,retK,zN,streq,zJ,cond_false,Bool.true_and,Bool.false_or]
    | false=>simp only[b2,zP,strne,e',Bool.not_true,Bool.not_false,zB,zD,k2,ext0,ext1,zg,zh,zX,zJ,cond_true,Bool.true_and,Bool.true_or]
   ·have e':decide (s=orgT o)=false:=decide_eq_false e
    refine⟨H2,a3.trans b1 (by omega),fun q=>?_⟩
    rw[hf]
    simp only[b2,zP,strne,e',Bool.not_false,zB,zF,Bool.false_and]
  by_cases e0:s=bs [42]
  ·have e0':decide (s=bs [42])=true:=decide_eq_true e0
   cases hcr:cred with
   | false =>
    refine⟨H1,a3,fun q=>?_⟩
    simp only[zCY,a1,zN,k1,ext0,ext1,zB,zg,Bool.not_true,Bool.not_false,zD,zP,streq,e0',zAB,retK,zJ,cond_true,zF,Bool.true_and,Bool.true_or]
   | true =>
    rw[hcr]at step
    obtain⟨H',r1,r2⟩:=step (zCY c N (.agg o.cs) (.bool true) lv H Z) (fun q=>by
     simp only[zCY,a1,zN,k1,ext0,ext1,zB,zg,Bool.not_true,zD,zP,streq,e0',zAB,retK,zJ,cond_true,gall])
    refine⟨H',r1,fun q=>?_⟩
    rw[r2]
    simp only[Bool.not_true,Bool.and_false,Bool.false_or,Bool.true_and]
  ·have e0':decide (s=bs [42])=false:=decide_eq_false e0
   obtain⟨H',r1,r2⟩:=step (zCY c N (.agg o.cs) (.bool cred) lv H Z) (fun q=>by
    simp only[zCY,a1,zN,k1,ext0,ext1,zB,zg,Bool.not_true,zD,zP,streq,e0',ze,zX,retK,zJ,cond_false,gall])
   refine⟨H',r1,fun q=>?_⟩
   rw[r2,e0']
   simp only[Bool.false_and,Bool.false_or,Bool.true_and]
end Go.Am.X

namespace Go.Am.X
end Go.Am.X

namespace Go.Am.X
end Go.Am.X

namespace Go.Am.X
end Go.Am.X

namespace Go.Am.X
end Go.Am.X

namespace Go.Am.X
theorem k_idx {c:zG}(h:∀ vs H Z q,c zAy vs H Z q=effK (idxP vs H Z) q)(s:Bs)(x:UInt8)(H:Heap)(Z:Tape)(q:KV):c zAy [.str s,.int .u8 (x.toNat:Int)] H Z q=q (.int .i64 (idxB x.toNat s 0)) H Z:=by
 have e4:x.toNat % 256=x.toNat:=Nat.mod_eq_of_lt (u8_lt x)
 rw[h]
 show effK (idxP [.str s,.int .u8 (.ofNat x.toNat)] H Z) q=_
 simp only[idxP,e4,zN]
end Go.Am.X

namespace Go.Am.X
end Go.Am.X

namespace Go.Am.X
end Go.Am.X

namespace Go.Am.X
end Go.Am.X

namespace Go.Am.X
end Go.Am.X

namespace Go.Am.X
end Go.Am.X

namespace Go.Am.X
end Go.Am.X

namespace Go.Am.X
end Go.Am.X

namespace Go.Am.X
abbrev TokOk (c:zG):Prop:=∀ (s:Bs),s.length<=9223372036854775806->∀ H Z q,c zDI [.str s] H Z q=q (.bool (tokT s)) H Z
noncomputable abbrev rw_Tok:List Row:=[Row.fn zDI zBk zFw,Row.fn zBy zAU zB6,Row.prim zAy idxP]
theorem zR8:∀ base w0,zDf PG base w0 zDI (outP TokR):=by
 obtain⟨N,hN⟩:=someN
 refine primRV (N:=N) (l:=rw_Tok) (.fn zJP zHX (.fn zEd zDa (.prim idxP_ok (.nil _)))) 3 _ (fun vs H h=>?_) (fun vs h H hw Z=>?_)
 ·unfold strP at h;split at h
  ·trivial
  ·exact h.elim
 ·unfold strP at h;split at h
  ·exact⟨H,Z,Gr.refl hw,fun q=>zPb (CR rw_Tok N 2) N (Nat.le_of_lt hN) (fun s x H Z q=>zKt (CR rw_Tok N 1) N (k_idx fun _ _ _ _=>rfl) s x H Z q) _ (by omega) H Z q⟩
  ·exact h.elim
theorem zRs {c:zG}(h:IsP c zDI TokR):TokOk c:=fun s hs H Z q=>callS h s hs H Z q
end Go.Am.X

namespace Go.Am.X
theorem small_fewH (nn mm:Nat)(hn:nn<=900)(hm:mm<=1000)(hs:List Hd):(fewH nn mm hs).length<=900/\∀ h ∈ fewH nn mm hs,h.1.length<=1000/\h.2.length<=1000:=by
 refine⟨by unfold fewH;rw[List.length_map,List.length_take];omega,fun h hh=>?_⟩
 unfold fewH at hh
 obtain⟨x,_,rfl⟩:=List.mem_map.1 hh
 unfold fewh
 simp only[List.length_take]
 omega
end Go.Am.X

namespace Go.Am.X
end Go.Am.X

namespace Go.Am.X
theorem small_of {hs:List Hd}(h1:hs.length<=900)(h2:∀ h ∈ hs,h.1.length<=1000/\h.2.length<=1000):Small hs:=⟨by omega,fun h hh=>by have:=h2 h hh;omega⟩
theorem eqbb (b:Bool):pEq false .bool [.bool b,.bool b]=some (.bool true):=by cases b <;> rfl
theorem Own.rdH' {H:Heap}{B:Nat}{v:V}{hs:List Hd}(h:Own H B 2 v hs.length (hcells hs)):RdH H v hs:=⟨h.rd,h.src⟩
end Go.Am.X

namespace Go.Am.X
abbrev m1B:Bs:=bs [100,101,108,101,116,101]
abbrev m2B:Bs:=bs [103,101,116]
abbrev m3B:Bs:=bs [104,101,97,100]
abbrev m4B:Bs:=bs [111,112,116,105,111,110,115]
abbrev m5B:Bs:=bs [112,111,115,116]
abbrev m6B:Bs:=bs [112,117,116]
abbrev barB (x:Bs):Bool:=decide (x=bs [99,111,110,110,101,99,116]) || (decide (x=bs [116,114,97,99,101]) || decide (x=bs [116,114,97,99,107]))
def metW (s x:Bs):Bs:=if x=m1B then bs [68,69,76,69,84,69]else if x=m2B then bs [71,69,84]else if x=m3B then bs [72,69,65,68]else if x=m4B then bs [79,80,84,73,79,78,83]else if x=m5B then bs [80,79,83,84]else if x=m6B then bs [80,85,84]else s
def zGE (s:Bs):Bs × Bool:=if tokT s=true/\barB (lower s)=false then(metW s (lower s),true)else([],false)
abbrev MetOk (c:zG)(f:Nat):Prop:=∀ (s:Bs),s.length<=140737488355328->∀ H Z q,c f [.str s] H Z q=q (.tup [.str (zGE s).1,.bool (zGE s).2]) H Z
theorem met_j1 (c:zG)(N:Nat)(s x:Bs)(b:Bool)(fr:T V)(H:Heap)(Z:Tape)(q:KV)(f0:fr.get 0=some (.str s))(f8:fr.get 8=some (.str x))(f9:fr.get 9=some (.bool b)) :
  zAJ c N q ⟨fr,H⟩ Z=q (if b=true then .tup [.str [],.bool false]else .tup [.str (metW s x),.bool true]) H Z:=by
 cases b with
 | true=>simp only[zAJ,zA f0,zA f8,zA f9,zF,if_true]
 | false =>
  rw[if_neg (by decide)]
  unfold metW
  by_cases h1:x=m1B
  ·simp only[zAJ,zA f0,zA f8,zA f9,zD,zF,zP,streq,decide_eq_true h1,zB,if_pos h1]
  ·by_cases h2:x=m2B
   ·simp only[zAJ,zA f0,zA f8,zA f9,zD,zF,zP,streq,decide_eq_false h1,decide_eq_true h2,zB,if_neg h1,if_pos h2]
   ·by_cases h3:x=m3B
    ·simp only[zAJ,zA f0,zA f8,zA f9,zD,zF,zP,streq,decide_eq_false h1,decide_eq_false h2,decide_eq_true h3,zB,if_neg h1,if_neg h2,if_pos h3]
    ·by_cases h4:x=m4B
     ·simp only[zAJ,zA f0,zA f8,zA f9,zD,zF,zP,streq,decide_eq_false h1,decide_eq_false h2,decide_eq_false h3,decide_eq_true h4,zB,if_neg h1,if_neg h2,if_neg h3,if_pos h4]
     ·by_cases h5:x=m5B
      ·simp only[zAJ,zA f0,zA f8,zA f9,zD,zF,zP,streq,decide_eq_false h1,decide_eq_false h2,decide_eq_false h3,decide_eq_false h4,decide_eq_true h5,zB,if_neg h1,if_neg h2,if_neg h3,if_neg h4,if_pos h5]
      ·by_cases h6:x=m6B
       ·simp only[zAJ,zA f0,zA f8,zA f9,zD,zF,zP,streq,decide_eq_false h1,decide_eq_false h2,decide_eq_false h3,decide_eq_false h4,decide_eq_false h5,decide_eq_true h6,zB,if_neg h1,if_neg h2,if_neg h3,if_neg h4,if_neg h5,if_pos h6]
       ·simp only[zAJ,zLW,zA f0,zA f8,zA f9,zK,↓reduceIte,Nat.reduceEqDiff,zD,zF,zP,streq,decide_eq_false h1,decide_eq_false h2,decide_eq_false h3,decide_eq_false h4,decide_eq_false h5,decide_eq_false h6,zB,if_neg h1,if_neg h2,if_neg h3,if_neg h4,if_neg h5,if_neg h6]
theorem zPW (c:zG)(N:Nat)(hT:TokOk c)(hL:NLowOk c)(s:Bs)(hs:s.length<=140737488355328)(H:Heap)(Z:Tape)(q:KV):zDF c N (.str s) H Z q=q (.tup [.str (zGE s).1,.bool (zGE s).2]) H Z:=by
 cases ht:tokT s with
 | false =>
  rw[show zGE s=([],false)from if_neg (fun h=>by rw[ht]at h;exact absurd h.1 (by decide))]
  simp only[zDF,hT s (by omega) H Z,ht,zg,Bool.not_false,zF]
 | true =>
  have fin:∀ b:Bool,barB (lower s)=b->(if b=true then V.tup [.str [],.bool false]else .tup [.str (metW s (lower s)),.bool true])=.tup [.str (zGE s).1,.bool (zGE s).2]:=fun b hb=>by
   cases b with
   | true=>rw[show zGE s=([],false)from if_neg (fun h=>by rw[hb]at h;exact absurd h.2 (by decide))];rfl
   | false=>rw[show zGE s=(metW s (lower s),true)from if_pos ⟨ht,hb⟩];rfl
  by_cases h1:lower s=bs [99,111,110,110,101,99,116]
  ·simp only[zDF,hT s (by omega) H Z,ht,zg,Bool.not_true,zD,hL s hs H Z,zP,streq,decide_eq_true h1,zB,zF]
   rw[met_j1 c N s (lower s) true _ H Z q (by simp[T.get_set]) (by simp[T.get_set]) (by simp[T.get_set]),fin true (by unfold barB;rw[decide_eq_true h1];rfl)]
  ·by_cases h2:lower s=bs [116,114,97,99,101]
   ·simp only[zDF,hT s (by omega) H Z,ht,zg,Bool.not_true,zD,hL s hs H Z,zP,streq,decide_eq_false h1,decide_eq_true h2,zB,zF]
    rw[met_j1 c N s (lower s) true _ H Z q (by simp[T.get_set]) (by simp[T.get_set]) (by simp[T.get_set]),fin true (by unfold barB;rw[decide_eq_false h1,decide_eq_true h2];rfl)]
   ·simp only[zDF,hT s (by omega) H Z,ht,zg,Bool.not_true,zD,hL s hs H Z,zP,streq,decide_eq_false h1,decide_eq_false h2,zB,zF]
    rw[met_j1 c N s (lower s) (decide (lower s=bs [116,114,97,99,107])) _ H Z q (by simp[T.get_set]) (by simp[T.get_set]) (by simp[T.get_set]),fin _ (by unfold barB;rw[decide_eq_false h1,decide_eq_false h2,Bool.false_or,Bool.false_or])]
theorem metW_len (s x:Bs):(metW s x).length<=s.length+10:=by
 unfold metW
 split
 ·exact Nat.le_trans (show 6<=10 by omega) (by omega)
 ·split
  ·exact Nat.le_trans (show 3<=10 by omega) (by omega)
  ·split
   ·exact Nat.le_trans (show 4<=10 by omega) (by omega)
   ·split
    ·exact Nat.le_trans (show 7<=10 by omega) (by omega)
    ·split
     ·exact Nat.le_trans (show 4<=10 by omega) (by omega)
     ·split
      ·exact Nat.le_trans (show 3<=10 by omega) (by omega)
      ·omega
theorem methT_len (s:Bs):(zGE s).1.length<=s.length+10:=by
 unfold zGE
 split
 ·exact metW_len _ _
 ·simp
theorem methT_idem (s:Bs):zGE (zGE s).1=zGE s:=by
 have w1:zGE (bs [68,69,76,69,84,69])=(bs [68,69,76,69,84,69],true):=by decide
 have w2:zGE (bs [71,69,84])=(bs [71,69,84],true):=by decide
 have w3:zGE (bs [72,69,65,68])=(bs [72,69,65,68],true):=by decide
 have w4:zGE (bs [79,80,84,73,79,78,83])=(bs [79,80,84,73,79,78,83],true):=by decide
 have w5:zGE (bs [80,79,83,84])=(bs [80,79,83,84],true):=by decide
 have w6:zGE (bs [80,85,84])=(bs [80,85,84],true):=by decide
 have w0:zGE []=([],false):=by decide
 by_cases h:tokT s=true/\barB (lower s)=false
 ·have e:zGE s=(metW s (lower s),true):=if_pos h
  rw[e]
  show zGE (metW s (lower s))=_
  by_cases h1:lower s=m1B
  ·rw[show metW s (lower s)=bs [68,69,76,69,84,69]from if_pos h1];exact w1
  ·by_cases h2:lower s=m2B
   ·rw[show metW s (lower s)=bs [71,69,84]by unfold metW;rw[if_neg h1,if_pos h2]];exact w2
   ·by_cases h3:lower s=m3B
    ·rw[show metW s (lower s)=bs [72,69,65,68]by unfold metW;rw[if_neg h1,if_neg h2,if_pos h3]];exact w3
    ·by_cases h4:lower s=m4B
     ·rw[show metW s (lower s)=bs [79,80,84,73,79,78,83]by unfold metW;rw[if_neg h1,if_neg h2,if_neg h3,if_pos h4]];exact w4
     ·by_cases h5:lower s=m5B
      ·rw[show metW s (lower s)=bs [80,79,83,84]by unfold metW;rw[if_neg h1,if_neg h2,if_neg h3,if_neg h4,if_pos h5]];exact w5
      ·by_cases h6:lower s=m6B
       ·rw[show metW s (lower s)=bs [80,85,84]by unfold metW;rw[if_neg h1,if_neg h2,if_neg h3,if_neg h4,if_neg h5,if_pos h6]];exact w6
       ·have em:metW s (lower s)=s:=by unfold metW;rw[if_neg h1,if_neg h2,if_neg h3,if_neg h4,if_neg h5,if_neg h6]
        rw[em,e,em]
 ·have e:zGE s=([],false):=if_neg h
  rw[e];exact w0
theorem chk_less {o:OR}{hs:List Hd}(h:chkT o true hs=true):chkT o false hs=true:=by
 unfold chkT at h ⊢
 simp only[Bool.and_eq_true,Bool.or_eq_true,Bool.not_true,Bool.not_false,Bool.and_true,Bool.and_false,Bool.false_eq_true,and_false,false_or,Bool.true_or]at h ⊢
 exact⟨h.1,.inr h.2.1⟩
theorem chk_one {a b:OR}{hs:List Hd}(h:chkT a true hs=true)(hne:orgT a≠orgT b):chkT b true hs=false:=by
 cases hb:chkT b true hs with
 | false=>rfl
 | true =>
  unfold chkT at h hb
  simp only[Bool.and_eq_true,Bool.or_eq_true,Bool.not_true,Bool.and_false,Bool.false_eq_true,and_false,false_or,decide_eq_true_eq]at h hb
  exact absurd (h.2.1.symm.trans hb.2.1) hne
theorem or_new {H:Heap}(hw:WF H)(o:OR)(Z:Tape):∃ H1 H',zBV [(.str []),(.str []),(.int .i64 (.ofNat 0)),(.bool false)] [] H Z=some (.ptr H.size 0,H1,Z)/\eStore 4 [.ptr H.size 0,.agg o.cs] H1 Z=some (.tup [],H',Z)/\Bx H' H.size o.cs/\Gr H.size H H'/\H'.size=H.size+1:=by
 have g1:=Gr.new hw (OR.mk [] [] 0 false).cs 4 true
 have x1:Bx (H.new (OR.mk [] [] 0 false).cs 4 true) H.size (OR.mk [] [] 0 false).cs:=Bx.new H _ _ _ nl
 obtain⟨H',s1,s2,s3⟩:=x1.eStore g1.wf 0 (.agg o.cs) 4 rfl nl (by omega) rfl Z
 exact⟨_,H',rfl,s1,s2,g1.trans (s3.gr nl) nl,s3.size⟩
theorem chk_or {H H':Heap}{l:List Heap}{i:Nat}{o:OR}(h1:zA7 4 [.ptr i 0] H=some (.agg o.cs))(h2:zA7 4 [.ptr i 0] H'=some (.agg o.cs)):zAZ (H::H' :: l) (((.load (some 4)),[.ptr i 0],0,1)::[])=true:=by
 simp[zAZ,zGU,zRB,h1,h2,chk1]
 simp[OR.cs,same,zRJ,zOy,zSL]
set_option maxHeartbeats 1000000 in
theorem zM8 (c:zG)(N:Nat)(hFew:IsP c zAv (RH zQb FewHG))(hF1:FewOk c)(hOf:LofOk c zH1)(hCk:ChkOk c zBl)(hTx:TxtOk c zD6)(hM:MetOk c zEW)(hKn:∀ H Z q,c zFh [] H Z q=q (.bool true) H Z)
  (self other method:Bs) {hs:List Hd} (hl:hs.length<=9223372036854775807) {lv:V} {H:Heap} (hw:WF H) (hp:PowH H) (hr:RdH H lv hs) (Z:Tape) :
  ∃ H' Z',Gr H.size H H'/\∀ q,zBS c N (.str self) (.str other) lv (.str method) H Z q=q (.bool true) H' Z':=by
 obtain⟨v0,H1,Z1,o1,g1,k1⟩:=zPc hFew hl 10 100 (by omega) (by omega) hw hr Z
 obtain⟨sm1,sm2⟩:=small_fewH 10 100 (by omega) (by omega) hs
 generalize fewH 10 100 hs=l at o1 sm1 sm2
 have sm:=small_of sm1 sm2
 have r1:RdH H1 v0 l:=Own.rdH' o1
 have p1:=zOv hp hw g1 nl
 obtain⟨a,H2,Z2,ga,g2,k2⟩:=hOf self g1.wf Z1
 obtain⟨Ha,H3,a1,a2,x3,g3,z3⟩:=or_new g2.wf a Z2
 obtain⟨b,H4,Z4,gb,g4,k4⟩:=hOf other g3.wf Z2
 obtain⟨Hb,H5,b1,b2,y5,g5,z5⟩:=or_new g4.wf b Z4
 have z4:=g4.size
 have z2:=g2.size
 have z1:=g1.size
 have x5:=(x3.gr g4 (by omega)).gr g5 (by omega)
 have g15:Gr H1.size H1 H5:=((g2.trans g3 (by omega)).trans g4 (by omega)).trans g5 (by omega)
 have r5:=r1.gr g15 g1.wf nl
 have p5:=zOv p1 g1.wf g15 nl
 obtain⟨H6,g6,k6⟩:=hCk a ga true sm g5.wf p5 r5 Z4
 have z6:=g6.size
 have x6:=x5.gr g6 (by omega)
 have y6:=y5.gr g6 (by omega)
 have r6:=r5.gr g6 g5.wf nl
 have p6:=zOv p5 g5.wf g6 nl
 have la5:=zJ4 x5
 have la6:=zJ4 x6
 have hm60:(method.take 60).length<=60:=by rw[List.length_take];omega
 have kf:∀ H Z q,c zDV [.str method,.int .i64 (.ofNat 60)] H Z q=q (.str (method.take 60)) H Z:=fun H Z q=>hF1 method 60 H Z q
 generalize method.take 60=m at kf hm60
 have km:=hM m (by omega)
 have hml:=methT_len m
 have km2:=hM (zGE m).1 (by omega)
 rw[methT_idem m]at km2
 have eb:=eqbb (zGE m).2
 have es:decide ((zGE m).1=(zGE m).1)=true:=decide_eq_true rfl
 have g05:Gr H.size H H5:=g1.trans g15 (by omega)
 have rest:∀ (H7:Heap),WF H7->Gr H6.size H6 H7->∃ H8 H9,Gr H7.size H7 H9/\zA7 4 [.ptr H2.size 0] H7=some (.agg a.cs)/\zA7 4 [.ptr H4.size 0] H8=some (.agg b.cs)/\zA7 4 [.ptr H2.size 0] H9=some (.agg a.cs)/\(∀ l,zAZ (H7::H8::l) (((.load (some 4)),[.ptr H4.size 0],0,1)::[])=true)/\(∀ q,c zD6 [.agg a.cs] H7 Z4 q=q (.str (orgT a)) H8 Z4)/\(∀ q,c zD6 [.agg b.cs] H8 Z4 q=q (.str (orgT b)) H9 Z4) /\
   ∃ H10,Gr H9.size H9 H10/\(∀ q,c zBl [.agg a.cs,.bool true,v0] H9 Z4 q=q (.bool (chkT a true l)) H10 Z4)/\zA7 4 [.ptr H4.size 0] H10=some (.agg b.cs)/\∃ H11,Gr H10.size H10 H11/\(∀ q,c zBl [.agg b.cs,.bool true,v0] H10 Z4 q=q (.bool (chkT b true l)) H11 Z4):=fun H7 w7 g7=>by
  have z7:=g7.size
  have x7:=x6.gr g7 (by omega)
  have y7:=y6.gr g7 (by omega)
  have r7:=r6.gr g7 g6.wf nl
  have p7:=zOv p6 g6.wf g7 nl
  obtain⟨H8,g8,k8⟩:=hTx a ga w7 p7 Z4
  have z8:=g8.size
  have y8:=y7.gr g8 (by omega)
  have p8:=zOv p7 w7 g8 nl
  obtain⟨H9,g9,k9⟩:=hTx b gb g8.wf p8 Z4
  have z9:=g9.size
  have g79:=g8.trans g9 (by omega)
  have x9:=x7.gr g79 (by omega)
  have y9:=y7.gr g79 (by omega)
  have r9:=r7.gr g79 w7 nl
  have p9:=zOv p7 w7 g79 nl
  obtain⟨H10,g10,k10⟩:=hCk a ga true sm g9.wf p9 r9 Z4
  have y10:=y9.gr g10 (by omega)
  have r10:=r9.gr g10 g9.wf nl
  have p10:=zOv p9 g9.wf g10 nl
  obtain⟨H11,g11,k11⟩:=hCk b gb true sm g10.wf p10 r10 Z4
  exact⟨H8,H9,g79,zJ4 x7,zJ4 y8,zJ4 x9,fun l=>chk_or (zJ4 y7) (zJ4 y8),k8,k9,H10,g10,k10,zJ4 y10,H11,g11,k11⟩
 have g06:Gr H.size H H6:=g05.trans g6 (by have:=g05.size;omega)
 cases e1:chkT a true l with
 | false =>
  rw[e1]at k6
  obtain⟨H8,H9,q1,q2,q3,q4,q5,q6,q7,H10,q8,q9,q10,H11,q11,q12⟩:=rest H6 g6.wf (Gr.refl' g6.wf)
  rw[e1]at q9
  by_cases d:orgT a=orgT b
  ·refine⟨H9,Z4,g06.trans q1 (by have:=g06.size;omega),fun q=>?_⟩
   simp only[zBS,k1,k2,a1,zN,a2,k4,b1,b2,la5,zB,k6,ze,zX,zJ,cond_false,zD,q2,q6,q3,q7,zP,strne,decide_eq_true d,Bool.not_true,q5,cond_true,kf,km,ext0,ext1,km2,eb,zAB,retK,streq,decide_true,hKn]
  ·refine⟨H10,Z4,(g06.trans q1 (by have:=g06.size;omega)).trans q8 (by have:=g06.size;have:=q1.size;omega),fun q=>?_⟩
   simp only[zBS,k1,k2,a1,zN,a2,k4,b1,b2,la5,zB,k6,ze,zX,zJ,cond_false,zD,q2,q6,q3,q7,zP,strne,decide_eq_false d,Bool.not_false,zAB,retK,q4,q9,q5,cond_true,kf,km,ext0,ext1,km2,eb,streq,decide_true,hKn]
 | true =>
  rw[e1]at k6
  obtain⟨H7,g7,k7⟩:=hCk a ga false sm g6.wf p6 r6 Z4
  rw[chk_less e1]at k7
  obtain⟨H8,H9,q1,q2,q3,q4,q5,q6,q7,H10,q8,q9,q10,H11,q11,q12⟩:=rest H7 g7.wf g7
  rw[e1]at q9
  have g07:=g06.trans g7 (by have:=g06.size;omega)
  by_cases d:orgT a=orgT b
  ·refine⟨H9,Z4,g07.trans q1 (by have:=g07.size;omega),fun q=>?_⟩
   simp only[zBS,k1,k2,a1,zN,a2,k4,b1,b2,la5,la6,zB,k6,zAB,retK,k7,zg,Bool.not_true,ze,zX,zJ,cond_false,cond_true,zD,q2,q6,q3,q7,zP,strne,decide_eq_true d,q5,kf,km,ext0,ext1,km2,eb,streq,decide_true,hKn]
  ·rw[chk_one e1 d]at q12
   refine⟨H11,Z4,((g07.trans q1 (by have:=g07.size;omega)).trans q8 (by have:=g07.size;have:=q1.size;omega)).trans q11 (by have:=g07.size;have:=q1.size;have:=q8.size;omega),fun q=>?_⟩
   simp only[zBS,k1,k2,a1,zN,a2,k4,b1,b2,la5,la6,zB,k6,zAB,retK,k7,zg,Bool.not_true,Bool.not_false,ze,zX,zJ,cond_false,cond_true,zD,q2,q6,q3,q7,zP,strne,decide_eq_false d,q4,q9,q10,q12,q5,kf,km,ext0,ext1,km2,eb,streq,decide_true,hKn]
end Go.Am.X

