/- The abstract machine, printed functions of the program, and what they are shown to be. -/
import Derived.Test.YtnijdmamheiebaaDoorCLSL2
import Derived.Test.YtnijdmamheiebaaDoorCLSL1
import Derived.Test.YtnijdmamheiebaaDoorCLSL0
set_option linter.unusedSimpArgs false
set_option linter.unusedVariables false
set_option linter.unusedSectionVars false
set_option maxRecDepth 100000
namespace Go.Am.X
theorem l_number2 (c:zG)(N:Nat)(hX:zQX c)(x:Bs)(hx:x.length<=1000000)(b:Nat):∀ (l pre:Bs) (v:Nat),x=pre++l->∃ r:Option Nat,∀ (fr:T V) (H:Heap) (Z:Tape) (m:Nat) k,l.length<m->fr.get 0=some (.str x)->fr.get 4=some (.int .u64 (b:Int))->fr.get 5=some (.int .u64 (v:Int))->fr.get 6=some (.int .i64 (pre.length:Int)) ->
  zq (zBR c N) m ⟨fr,H⟩ Z k=match r with
   | none=>k .ret ⟨(T.s (T.s .leaf 2 (.int .u64 (.ofNat 0))) 3 (.bool false)),H⟩ Z
   | some w=>k (.exit 0) ⟨(T.s (T.s .leaf 0 (.str x)) 5 (.int .u64 (w:Int))),H⟩ Z:=by
 intro l
 induction l with
 | nil =>
  intro pre v he
  refine⟨some v,fun fr H Z m k hm f0 f4 f5 f6=>?_⟩
  obtain⟨m,rfl⟩:∃ j,m=j+1:=⟨m-1,by omega⟩
  have e1:decide ((pre.length:Int)<(x.length:Int))=false:=decide_eq_false (by rw[he];simp)
  rw[zI]
  simp only[zBR,zA f0,zA f4,zA f5,zA f6,zO,zB,zL,e1,zD]
  rfl
 | cons y l ih =>
  intro pre v he
  have hl:pre.length<x.length:=by rw[he];simp
  have e1:decide ((pre.length:Int)<(x.length:Int))=true:=decide_eq_true (by omega)
  have e2:zM [.str x,.int .i64 (pre.length:Int)]=some (.int .u8 (y.toNat:Int)):=zk (by rw[he];simp)
  have e3:wr .i64 ((pre.length:Int)+Int.ofNat 1)=((pre++[y]).length:Int):=by rw[adI (by omega)];simp
  have kx:=fun H Z q=>hX y.toNat y.toNat_lt H Z q
  by_cases h0:hexT y.toNat<0
  ·have e4:decide (hexT y.toNat<Int.ofNat 0)=true:=decide_eq_true h0
   refine⟨none,fun fr H Z m k hm f0 f4 f5 f6=>?_⟩
   obtain⟨m,rfl⟩:∃ j,m=j+1:=⟨m-1,by omega⟩
   rw[zI]
   simp only[zBR,zA f0,zA f4,zA f5,zA f6,zO,zB,zL,e1,zF,e2,kx,e4,zh,zX,zJ,cond_true]
   rfl
  ·have e4:decide (hexT y.toNat<Int.ofNat 0)=false:=decide_eq_false h0
   obtain⟨d,hd⟩:∃ d:Nat,hexT y.toNat=(d:Int):=⟨(hexT y.toNat).toNat,by omega⟩
   rw[hd]at kx e4
   have e5:wr .u64 (d:Int)=((d % 18446744073709551616:Nat):Int):=zPq d
   by_cases h1:b<=d % 18446744073709551616
   ·have e6:decide ((b:Int)<=((d % 18446744073709551616:Nat):Int))=true:=decide_eq_true (by omega)
    refine⟨none,fun fr H Z m k hm f0 f4 f5 f6=>?_⟩
    obtain⟨m,rfl⟩:∃ j,m=j+1:=⟨m-1,by omega⟩
    rw[zI]
    simp only[zBR,zA f0,zA f4,zA f5,zA f6,zO,zB,zL,e1,zF,e2,kx,e4,zu,retK,zN,zBB,e5,zi,e6,zJ,cond_false]
    rfl
   ·have e6:decide ((b:Int)<=((d % 18446744073709551616:Nat):Int))=false:=decide_eq_false (by omega)
    by_cases h2:1099511627776<((v*b) % pow2 .u64+d % 18446744073709551616) % pow2 .u64
    ·have e7:decide (Int.ofNat 1099511627776<((((v*b) % pow2 .u64+d % 18446744073709551616) % pow2 .u64:Nat):Int))=true:=decide_eq_true (by have:Int.ofNat 1099511627776=((1099511627776:Nat):Int):=rfl;omega)
     obtain⟨r,hr⟩:=ih (pre++[y]) 1099511627776 (by rw[he];simp)
     refine⟨r,fun fr H Z m k hm f0 f4 f5 f6=>?_⟩
     obtain⟨m,rfl⟩:∃ j,m=j+1:=⟨m-1,by omega⟩
     rw[zI]
     simp only[zBR,zA f0,zA f4,zA f5,zA f6,zO,zB,zL,e1,zF,e2,kx,e4,zu,retK,zN,zBB,e5,zi,e6,zJ,cond_false,zD,u_mul uk64,u_add uk64,zY,e7,zE1,zK,↓reduceIte,Nat.reduceEqDiff,zS .i64,e3]
     exact hr _ H Z m k (by simp at hm;omega) (by simp[T.get_set]) (by simp[T.get_set]) (by simp[T.get_set]) (by simp[T.get_set])
    ·have e7:decide (Int.ofNat 1099511627776<((((v*b) % pow2 .u64+d % 18446744073709551616) % pow2 .u64:Nat):Int))=false:=decide_eq_false (by have:Int.ofNat 1099511627776=((1099511627776:Nat):Int):=rfl;omega)
     obtain⟨r,hr⟩:=ih (pre++[y]) (((v*b) % pow2 .u64+d % 18446744073709551616) % pow2 .u64) (by rw[he];simp)
     refine⟨r,fun fr H Z m k hm f0 f4 f5 f6=>?_⟩
     obtain⟨m,rfl⟩:∃ j,m=j+1:=⟨m-1,by omega⟩
     rw[zI]
     simp only[zBR,zA f0,zA f4,zA f5,zA f6,zO,zB,zL,e1,zF,e2,kx,e4,zu,retK,zN,zBB,e5,zi,e6,zJ,cond_false,zD,u_mul uk64,u_add uk64,zY,e7,zE1,zK,↓reduceIte,Nat.reduceEqDiff,zS .i64,e3]
     exact hr _ H Z m k (by simp at hm;omega) (by simp[T.get_set]) (by simp[T.get_set]) (by simp[T.get_set]) (by simp[T.get_set])
abbrev NumOk2 (c:zG):Prop:=∀ (s:Bs),s.length<=1000000->∃ (n:Nat) (b:Bool),∀ H Z q,c zHl [.str s] H Z q=q (.tup [.int .u64 (n:Int),.bool b]) H Z
theorem zOM (c:zG){N:Nat}(hN:9223372036854775807<=N)(hX:zQX c)(x:Bs)(hx:x.length<=1000000)(b:Nat):∃ (n:Nat) (t:Bool),∀ (fr:T V) H Z q,fr.get 0=some (.str x)->fr.get 4=some (.int .u64 (b:Int))->zBT c N q ⟨fr,H⟩ Z=q (.tup [.int .u64 (n:Int),.bool t]) H Z:=by
 obtain⟨r,hr⟩:=l_number2 c N hX x hx b x [] 0 rfl
 cases r with
 | none =>
  refine⟨0,false,fun fr H Z q f0 f4=>?_⟩
  simp only[zBT,zA f0,zA f4]
  rw[hr _ H Z N _ (by omega) (by simp[T.get_set]) (by simp[T.get_set]) (by simp[T.get_set]) (by simp[T.get_set])]
  rfl
 | some w =>
  refine⟨w,decide (Int.ofNat 0<(x.length:Int)),fun fr H Z q f0 f4=>?_⟩
  simp only[zBT,zA f0,zA f4]
  rw[hr _ H Z N _ (by omega) (by simp[T.get_set]) (by simp[T.get_set]) (by simp[T.get_set]) (by simp[T.get_set])]
  simp only[zW,Nat.beq_refl,cond_true,seqK,zLV,zK,↓reduceIte,Nat.reduceEqDiff,zO,zB,zY]
theorem zPL (c:zG){N:Nat}(hN:9223372036854775807<=N)(hB:zPr c)(hX:zQX c)(s:Bs)(hs:s.length<=1000000):∃ (n:Nat) (b:Bool),∀ H Z q,zCL c N (.str s) H Z q=q (.tup [.int .u64 (n:Int),.bool b]) H Z:=by
 have hex:(begB s (bs [48,120])=true∨begB s (bs [48,88])=true)->∃ (n:Nat) (b:Bool),∀ (H:Heap) Z q,(zC (zR true false [.str s,(.int .i64 (.ofNat 2))]) fun v37=>binK .eql v37 (.str []) fun v38=>zV v38 (q (.tup [(.int .u64 (.ofNat 0)),(.bool true)]) H Z) (zBT c N q ⟨(T.s (T.s (T.s .leaf 0 v37) 4 (.int .u64 (.ofNat 16))) 17 v38),H⟩ Z))=q (.tup [.int .u64 (n:Int),.bool b]) H Z:=by
  intro h
  have h2:2<=s.length:=by rcases h with h | h <;> exact zMv h
  have e1:zR true false [.str s,(.int .i64 (.ofNat 2))]=some (.str (s.drop 2)):=zAt h2
  obtain⟨n,t,hj⟩:=zOM c hN hX (s.drop 2) (by rw[List.length_drop];omega) 16
  by_cases h3:s.drop 2=[]
  ·refine⟨0,true,fun H Z q=>?_⟩
   simp only[e1,zB,zP,streq,decide_eq_true h3,zF]
   rfl
  ·refine⟨n,t,fun H Z q=>?_⟩
   simp only[e1,zB,zP,streq,decide_eq_false h3,zD]
   exact hj _ H Z q (by simp[T.get_set]) (by simp[T.get_set])
 by_cases h1:begB s (bs [48,120])=true
 ·obtain⟨n,b,h⟩:=hex (.inl h1)
  refine⟨n,b,fun H Z q=>?_⟩
  simp only[zCL,hB,h1,zh,zX,zJ,cond_true,zB,zF]
  have:=h H Z q
  exact this
 ·have h1':begB s (bs [48,120])=false:=by simpa using h1
  by_cases h2:begB s (bs [48,88])=true
  ·obtain⟨n,b,h⟩:=hex (.inr h2)
   refine⟨n,b,fun H Z q=>?_⟩
   simp only[zCL,hB,h1',h2,zu,retK,zN,zJ,cond_false,zB,zF]
   have:=h H Z q
   exact this
  ·have h2':begB s (bs [48,88])=false:=by simpa using h2
   by_cases h3:1<s.length
   ·have e1:decide (Int.ofNat 1<(s.length:Int))=true:=decide_eq_true (by have:Int.ofNat 1=1:=rfl;omega)
    obtain⟨y,hy⟩:∃ y,s[0]?=some y:=⟨s[0],List.getElem?_eq_getElem (by omega)⟩
    have e2:zM [.str s,(.int .i64 (.ofNat 0))]=some (.int .u8 (y.toNat:Int)):=zk (i:=0) hy
    by_cases h4:((y.toNat:Int) == Int.ofNat 48)=true
    ·have e3:zR true false [.str s,(.int .i64 (.ofNat 1))]=some (.str (s.drop 1)):=zAt (by omega)
     obtain⟨n,t,hj⟩:=zOM c hN hX (s.drop 1) (by rw[List.length_drop];omega) 8
     refine⟨n,t,fun H Z q=>?_⟩
     simp only[zCL,hB,h1',h2',zu,retK,zN,zJ,cond_false,zB,zD,zO,zY,e1,zAB,e2,zU,h4,cond_true,zF,e3]
     exact hj _ H Z q (by simp[T.get_set]) (by simp[T.get_set])
    ·have h4':((y.toNat:Int) == Int.ofNat 48)=false:=by simpa using h4
     obtain⟨n,t,hj⟩:=zOM c hN hX s hs 10
     refine⟨n,t,fun H Z q=>?_⟩
     simp only[zCL,hB,h1',h2',zu,retK,zN,zJ,cond_false,zB,zD,zO,zY,e1,zAB,e2,zU,h4',cond_true]
     exact hj _ H Z q (by simp[T.get_set]) (by simp[T.get_set])
   ·have e1:decide (Int.ofNat 1<(s.length:Int))=false:=decide_eq_false (by have:Int.ofNat 1=1:=rfl;omega)
    obtain⟨n,t,hj⟩:=zOM c hN hX s hs 10
    refine⟨n,t,fun H Z q=>?_⟩
    simp only[zCL,hB,h1',h2',zu,retK,zN,zJ,cond_false,zB,zD,zO,zY,e1,ze,zX]
    exact hj _ H Z q (by simp[T.get_set]) (by simp[T.get_set])
def wsN (l:List Nat):List V:=l.map fun(n:Nat)=>V.int .u64 (n:Int)
theorem wsN_snoc (l:List Nat)(n:Nat):wsN l++[V.int .u64 (n:Int)]=wsN (l++[n]):=by simp[wsN]
theorem l_four3 (c:zG)(N:Nat)(hM:NumOk2 c){v4:V}{ls:List Bs}(h4:ls.length<=4)(hl:∀ x ∈ ls,x.length<=1000000){H0:Heap}(hw0:WF H0)(hr:Rd H0 1 v4 ls.length (ls.map V.str)):∀ (r i:Nat) (ns:List Nat) (v5:V) (H:Heap) (Z:Tape) (M:Nat),i+r=ls.length->r<M->Gr H0.size H0 H->Own H H0.size 1 v5 ns.length (wsN ns)->ns.length=i ->
  ∃ (ok:Bool) (ns':List Nat) (v5':V) (H':Heap) (Z':Tape),Gr H0.size H0 H'/\(ok=true->Own H' H0.size 1 v5' ns'.length (wsN ns')/\ns'.length=ls.length)/\∀ (fr:T V) k,fr.get 4=some v4->fr.get 5=some v5->fr.get 6=some (.int .i64 (i:Int)) ->
   zq (zEs c N) M ⟨fr,H⟩ Z k=if ok=true then k (.exit 0) ⟨(T.s .leaf 5 v5'),H'⟩ Z' else k .ret ⟨(T.s (T.s .leaf 2 (.int .u32 (.ofNat 0))) 3 (.bool false)),H'⟩ Z':=by
 intro r
 induction r with
 | zero =>
  intro i ns v5 H Z M hi hM' hg ho hn
  obtain⟨M,rfl⟩:∃ j,M=j+1:=⟨M-1,by omega⟩
  have pl:=hr.pLen
  have e1:decide ((i:Int)<(ls.length:Int))=false:=decide_eq_false (by omega)
  refine⟨true,ns,v5,H,Z,hg,fun _=>⟨ho,by omega⟩,fun fr k f4 f5 f6=>?_⟩
  rw[zI]
  simp only[zEs,zA f4,zA f5,zA f6,pl,zB,zL,e1,zD]
  rfl
 | succ r ih =>
  intro i ns v5 H Z M hi hM' hg ho hn
  obtain⟨M,rfl⟩:∃ j,M=j+1:=⟨M-1,by omega⟩
  have pl:=hr.pLen
  have e1:decide ((i:Int)<(ls.length:Int))=true:=decide_eq_true (by omega)
  have hrH:=hr.gr hg hw0 nl
  obtain⟨p,p1,p2⟩:=zLb hrH (i:=i) (by omega)
  obtain⟨n,b,hk⟩:=hM ls[i] (hl _ (List.getElem_mem _))
  have ex0:zT 0 [.tup [.int .u64 (n:Int),.bool b]]=some (.int .u64 (n:Int)):=rfl
  have ex1:zT 1 [.tup [.int .u64 (n:Int),.bool b]]=some (.bool b):=rfl
  cases b with
  | false =>
   refine⟨false,ns,v5,H,Z,hg,(fun h=>by cases h),fun fr k f4 f5 f6=>?_⟩
   rw[zI]
   simp only[zEs,zA f4,zA f5,zA f6,pl,zB,zL,e1,zF,p1,p2,hk,ex0,ex1,zg,Bool.not_false]
   rfl
  | true =>
   obtain⟨w,H1,v',H2,r1,r2,r3,r4,_⟩:=ho.push (bytes:=8) hg.wf hg.size (.int .u64 (n:Int)) (.int .u64 0) rfl rfl (by omega) (by omega) Z
   rw[wsN_snoc]at r3
   have r1':zZ 1 1 [(.int .u64 (.ofNat 0))] [(0,1)] [.int .u64 (n:Int)] H Z=some (w,H1,Z):=r1
   have e3:wr .i64 ((i:Int)+Int.ofNat 1)=((i+1:Nat):Int):=adI (by omega)
   obtain⟨ok,ns',v5',H',Z',s1,s2,s3⟩:=ih (i+1) (ns++[n]) v' H2 Z.tail M (by omega) (by omega) (hg.trans r4 nl) (by simpa using r3) (by simp;omega)
   refine⟨ok,ns',v5',H',Z',s1,s2,fun fr k f4 f5 f6=>?_⟩
   rw[zI]
   simp only[zEs,zA f4,zA f5,zA f6,pl,zB,zL,e1,zF,p1,p2,hk,ex0,ex1,zg,Bool.not_true,zD,r1',r2,zN,zS .i64,e3]
   exact s3 _ k (by simp[T.get_set]) (by simp[T.get_set]) (by simp[T.get_set])
theorem rd_wsN {H:Heap}{v:V}{l:List Nat}(h:Rd H 1 v l.length (wsN l)){i:Nat}(hi:i<l.length):∃ p,zn 1 [v,.int .i64 (i:Int)]=some p/\zf [p] H=some (.int .u64 (l[i]:Int)):=h.elem1 (by unfold wsN;rw[List.getElem?_map,List.getElem?_eq_getElem hi];rfl)
theorem l_four2 (c:zG)(N:Nat){v5:V}{ns:List Nat}(h1:1<=ns.length)(h4:ns.length<=4){H:Heap}(hr:Rd H 1 v5 ns.length (wsN ns)):∀ (r i all:Nat),i+r=ns.length-1->∃ (ok:Bool) (all':Nat),∀ (fr:T V) (Z:Tape) (M:Nat) k,r<M->fr.get 5=some v5->fr.get 9=some (.int .u64 (all:Int))->fr.get 10=some (.int .i64 (i:Int)) ->
   zq (zEl c N) M ⟨fr,H⟩ Z k=if ok=true then k (.exit 2) ⟨(T.s (T.s .leaf 5 v5) 9 (.int .u64 (all':Int))),H⟩ Z else k .ret ⟨(T.s (T.s .leaf 2 (.int .u32 (.ofNat 0))) 3 (.bool false)),H⟩ Z:=by
 have pl:=hr.pLen
 have e2:wr .i64 ((ns.length:Int)-Int.ofNat 1)=((ns.length-1:Nat):Int):=sbI (by omega) (by omega)
 intro r
 induction r with
 | zero =>
  intro i all hi
  have e1:decide ((i:Int)<((ns.length-1:Nat):Int))=false:=decide_eq_false (by omega)
  refine⟨true,all,fun fr Z M k hM f5 f9 f10=>?_⟩
  obtain⟨M,rfl⟩:∃ j,M=j+1:=⟨M-1,by omega⟩
  rw[zI]
  simp only[zEl,zA f5,zA f9,zA f10,pl,zB,zAA,e2,zL,e1,zD]
  rfl
 | succ r ih =>
  intro i all hi
  have e1:decide ((i:Int)<((ns.length-1:Nat):Int))=true:=decide_eq_true (by omega)
  obtain⟨p,p1,p2⟩:=rd_wsN hr (i:=i) (by omega)
  generalize ns[i]=n at p2
  by_cases h:255<n
  ·have e3:decide (Int.ofNat 255<(n:Int))=true:=decide_eq_true (by have:Int.ofNat 255=255:=rfl;omega)
   refine⟨false,all,fun fr Z M k hM f5 f9 f10=>?_⟩
   obtain⟨M,rfl⟩:∃ j,M=j+1:=⟨M-1,by omega⟩
   rw[zI]
   simp only[zEl,zA f5,zA f9,zA f10,pl,zB,zAA,e2,zL,e1,zF,p1,p2,zY,e3]
   rfl
  ·have e3:decide (Int.ofNat 255<(n:Int))=false:=decide_eq_false (by have:Int.ofNat 255=255:=rfl;omega)
   have e4:wr .i64 (Int.ofNat 8*(i:Int))=((8*i:Nat):Int):=by rw[show Int.ofNat 8=(8:Int)from rfl,zES (by omega) (by omega)];omega
   have e5:wr .i64 (Int.ofNat 24-((8*i:Nat):Int))=((24-8*i:Nat):Int):=by
    have:Int.ofNat 24=24:=rfl
    rw[show Int.ofNat 24-((8*i:Nat):Int)=((24-8*i:Nat):Int)by omega,zES (by omega) (by omega)]
   have e6:wr .i64 ((i:Int)+Int.ofNat 1)=((i+1:Nat):Int):=adI (by omega)
   obtain⟨ok,all',hh⟩:=ih (i+1) _ (by omega)
   refine⟨ok,all',fun fr Z M k hM f5 f9 f10=>?_⟩
   obtain⟨M,rfl⟩:∃ j,M=j+1:=⟨M-1,by omega⟩
   rw[zI]
   simp only[zEl,zA f5,zA f9,zA f10,pl,zB,zAA,e2,zL,e1,zF,p1,p2,zY,e3,zD,zJT,e4,e5,zBB,zPq,u_shl uk64,u_or uk64,zS .i64,e6]
   exact hh _ Z M k (by omega) (by simp[T.get_set]) (by simp[T.get_set];rfl) (by simp[T.get_set])
abbrev FourOk (c:zG):Prop:=∀ (s:Bs),s.length<=1000000->∀ {H:Heap},WF H->∀ Z,∃ (n:Nat) (b:Bool) (H':Heap) (Z':Tape),Gr H.size H H'/\∀ q,c zIe [.str s] H Z q=q (.tup [.int .u32 (n:Int),.bool b]) H' Z'
theorem zQZ (c:zG){N:Nat}(hN:9223372036854775807<=N)(hL:LblOk c)(hM:NumOk2 c)(s:Bs)(hs:s.length<=1000000){H:Heap}(hw:WF H)(Z:Tape) :
  ∃ (n:Nat) (b:Bool) (H':Heap) (Z':Tape),Gr H.size H H'/\∀ q,zDq c N (.str s) H Z q=q (.tup [.int .u32 (n:Int),.bool b]) H' Z':=by
 obtain⟨l,v,H1,Z1,⟨r1,c1,c2,c3⟩,g1,k1⟩:=hL s hs hw Z
 have pl:=r1.pLen
 by_cases h4:4<l.length
 ·have e1:decide (Int.ofNat 4<(l.length:Int))=true:=decide_eq_true (by have:Int.ofNat 4=4:=rfl;omega)
  refine⟨0,false,H1,Z1,g1,fun q=>?_⟩
  simp only[zDq,k1,pl,zB,zY,e1,zF]
  rfl
 ·have e1:decide (Int.ofNat 4<(l.length:Int))=false:=decide_eq_false (by have:Int.ofNat 4=4:=rfl;omega)
  obtain⟨ok,ns,v5,H2,Z2,g2,o2,k2⟩:=l_four3 c N hM (by omega) (fun x hx=>by have:=c3 x hx;omega) g1.wf r1 l.length 0 [] .nils H1 Z1 N (by omega) (by omega) (Gr.refl g1.wf) (Own.nil _ _ _) rfl
  have g12:=g1.trans g2 g1.size
  cases ok with
  | false =>
   refine⟨0,false,H2,Z2,g12,fun q=>?_⟩
   simp only[zDq,k1,pl,zB,zY,e1,zD]
   rw[k2 _ _ (by simp[T.get_set]) (by simp[T.get_set]) (by simp[T.get_set]),if_neg (by decide)]
   rfl
  | true =>
   obtain⟨o3,hl⟩:=o2 rfl
   have r3:=zQT o3
   have pl3:=r3.pLen
   obtain⟨ok,all,k3⟩:=l_four2 c N (by omega) (by omega) r3 (ns.length-1) 0 0 (by omega)
   cases ok with
   | false =>
    refine⟨0,false,H2,Z2,g12,fun q=>?_⟩
    simp only[zDq,k1,pl,zB,zY,e1,zD]
    rw[k2 _ _ (by simp[T.get_set]) (by simp[T.get_set]) (by simp[T.get_set]),if_pos rfl]
    simp only[zW,Nat.beq_refl,cond_true,seqK,zGv,zK,↓reduceIte]
    rw[k3 _ _ _ _ (by omega) (by simp[T.get_set]) (by simp[T.get_set]) (by simp[T.get_set]),if_neg (by decide)]
    rfl
   | true =>
    have e2:wr .i64 ((ns.length:Int)-Int.ofNat 1)=((ns.length-1:Nat):Int):=sbI (by omega) (by omega)
    obtain⟨p,p1,p2⟩:=rd_wsN r3 (i:=ns.length-1) (by omega)
    generalize ns[ns.length-1]=n at p2
    have e3:wr .i64 (Int.ofNat 5-(ns.length:Int))=((5-ns.length:Nat):Int):=by
     have:Int.ofNat 5=5:=rfl
     rw[show Int.ofNat 5-(ns.length:Int)=((5-ns.length:Nat):Int)by omega,zES (by omega) (by omega)]
    have e4:wr .i64 (Int.ofNat 8*((5-ns.length:Nat):Int))=((8*(5-ns.length):Nat):Int):=by
     rw[show Int.ofNat 8=(8:Int)from rfl,zES (by omega) (by omega)];omega
    have one:(V.int .u64 (.ofNat 1))=.int .u64 ((1:Nat):Int):=rfl
    by_cases h:(1*2 ^ (min (8*(5-ns.length) % 18446744073709551616) IntKind.u64.bits)) % pow2 .u64<=n
    ·have e5:decide ((((1*2 ^ (min (8*(5-ns.length) % 18446744073709551616) IntKind.u64.bits)) % pow2 .u64:Nat):Int)<=(n:Int))=true:=decide_eq_true (by omega)
     refine⟨0,false,H2,Z2,g12,fun q=>?_⟩
     simp only[zDq,k1,pl,zB,zY,e1,zD]
     rw[k2 _ _ (by simp[T.get_set]) (by simp[T.get_set]) (by simp[T.get_set]),if_pos rfl]
     simp only[zW,Nat.beq_refl,cond_true,seqK,zGv,zK,↓reduceIte]
     rw[k3 _ _ _ _ (by omega) (by simp[T.get_set]) (by simp[T.get_set]) (by simp[T.get_set]),if_pos rfl]
     simp only[zW,Nat.beq_refl,cond_true,seqK,zJZ,zK,↓reduceIte,Nat.reduceEqDiff,pl3,zB,zAA,e2,p1,p2,e3,zJT,e4,zBB,zPq,one,u_shl uk64,zi,e5,zF]
     rfl
    ·have e5:decide ((((1*2 ^ (min (8*(5-ns.length) % 18446744073709551616) IntKind.u64.bits)) % pow2 .u64:Nat):Int)<=(n:Int))=false:=decide_eq_false (by omega)
     refine⟨(Nat.lor (all % pow2 .u64) (n % pow2 .u64) % pow2 .u64) % 4294967296,true,H2,Z2,g12,fun q=>?_⟩
     simp only[zDq,k1,pl,zB,zY,e1,zD]
     rw[k2 _ _ (by simp[T.get_set]) (by simp[T.get_set]) (by simp[T.get_set]),if_pos rfl]
     simp only[zW,Nat.beq_refl,cond_true,seqK,zGv,zK,↓reduceIte]
     rw[k3 _ _ _ _ (by omega) (by simp[T.get_set]) (by simp[T.get_set]) (by simp[T.get_set]),if_pos rfl]
     simp only[zW,Nat.beq_refl,cond_true,seqK,zJZ,zK,↓reduceIte,Nat.reduceEqDiff,pl3,zB,zAA,e2,p1,p2,e3,zJT,e4,zBB,zPq,one,u_shl uk64,zi,e5,zD,u_or uk64,zQe]
end Go.Am.X

namespace Go.Am.X
theorem tens_cut {d:Nat}(hd:d<10):∃ x:Bs,x.length=1/\zR true true [.str (bs [48,49,50,51,52,53,54,55,56,57]),.int .i64 (d:Int),.int .i64 ((d+1:Nat):Int)]=some (.str x):=by
 have hl:(bs [48,49,50,51,52,53,54,55,56,57]).length=10:=rfl
 refine⟨((bs [48,49,50,51,52,53,54,55,56,57]).take (d+1)).drop d,?_,zAp (by omega) (by omega)⟩
 rw[List.length_drop,List.length_take];omega
theorem l_numeral (c:zG)(N:Nat):∀ (b n:Nat) (s:Bs),n<b->n<4000000000000000000->s.length+n<=4000000000000000000->∃ s':Bs,s'.length<=s.length+n+1/\∀ (fr:T V) (H:Heap) (Z:Tape) (m:Nat) k,n+1<m->fr.get 0=some (.int .i64 (n:Int))->fr.get 3=some (.str s) ->
  zq (zAG c N) m ⟨fr,H⟩ Z k=k (.exit 0) ⟨(T.s .leaf 3 (.str s')),H⟩ Z:=by
 intro b
 induction b with
 | zero=>intro n s h;omega
 | succ b ih =>
  intro n s hb hn hs
  have rem:∀ c:V->Ans,binK .rem (.int .i64 (n:Int)) (.int .i64 (.ofNat 10)) c=c (.int .i64 ((n % 10:Nat):Int)):=fun c=>by
   rw[zSQ _ _ _ (by decide)];congr 1
  have quo:∀ c:V->Ans,binK .quo (.int .i64 (n:Int)) (.int .i64 (.ofNat 10)) c=c (.int .i64 ((n / 10:Nat):Int)):=fun c=>by
   rw[zPU _ _ _ (by decide)]
   have:((n:Int).tdiv (Int.ofNat 10))=((n / 10:Nat):Int):=rfl
   rw[this,zES (by omega) (by omega)]
  obtain⟨x,hx1,hx2⟩:=tens_cut (show n % 10<10 from Nat.mod_lt _ (by omega))
  have e3:wr .i64 (((n % 10:Nat):Int)+Int.ofNat 1)=((n % 10+1:Nat):Int):=adI (by omega)
  have e4:zAL .add x s=some (.str (x++s)):=zD7 (by omega)
  by_cases h0:0<n
  ·have e1:decide (Int.ofNat 0<(n:Int))=true:=decide_eq_true (by have:Int.ofNat 0=0:=rfl;omega)
   obtain⟨s',h1,h2⟩:=ih (n / 10) (x++s) (by omega) (by omega) (by rw[List.length_append];omega)
   rw[List.length_append]at h1
   refine⟨s',by omega,fun fr H Z m k hm f0 f3=>?_⟩
   obtain⟨m,rfl⟩:∃ j,m=j+1:=⟨m-1,by omega⟩
   rw[zI]
   simp only[zAG,zA f0,zA f3,zY,e1,zh,zX,zJ,cond_true,zB,zF,rem,zS .i64,e3,hx2,zP,e4,quo]
   exact h2 _ H Z m k (by omega) (by simp[T.get_set]) (by simp[T.get_set])
  ·have e1:decide (Int.ofNat 0<(n:Int))=false:=decide_eq_false (by have:Int.ofNat 0=0:=rfl;omega)
   obtain rfl:n=0:=by omega
   by_cases hs0:s=[]
   ·have e2:zAL .eql s []=some (.bool true):=by rw[streq,decide_eq_true hs0]
    have hx0:x++s≠[]:=fun h=>by rw[(List.append_eq_nil_iff.1 h).1]at hx1;simp at hx1
    have e5:zAL .eql (x++s) []=some (.bool false):=by rw[streq,decide_eq_false hx0]
    refine⟨x++s,by rw[List.length_append];omega,fun fr H Z m k hm f0 f3=>?_⟩
    obtain⟨m,rfl⟩:∃ j,m=j+1+1:=⟨m-2,by omega⟩
    have e1':decide (Int.ofNat 0<((0 / 10:Nat):Int))=false:=rfl
    rw[zI]
    simp only[zAG,zA f0,zA f3,zY,e1,zu,retK,zN,zP,e2,zJ,cond_false,zB,zF,rem,zS .i64,e3,hx2,e4,quo,seqK]
    rw[zI]
    simp only[zAG,zK,↓reduceIte,Nat.reduceEqDiff,zY,e1',zu,retK,zN,zP,e5,zJ,cond_false,zB,zD]
    rfl
   ·have e2:zAL .eql s []=some (.bool false):=by rw[streq,decide_eq_false hs0]
    refine⟨s,by omega,fun fr H Z m k hm f0 f3=>?_⟩
    obtain⟨m,rfl⟩:∃ j,m=j+1:=⟨m-1,by omega⟩
    rw[zI]
    simp only[zAG,zA f0,zA f3,zY,e1,zu,retK,zN,zP,e2,zJ,cond_false,zB,zD]
    rfl
abbrev NmlOk (c:zG):Prop:=∀ n:Nat,n<100000->∃ s:Bs,s.length<=n+1/\∀ H Z q,c zCk [.int .i64 (n:Int)] H Z q=q (.str s) H Z
theorem zOu (c:zG){N:Nat}(hN:9223372036854775807<=N)(n:Nat)(hn:n<100000):∃ s:Bs,s.length<=n+1/\∀ H Z q,zDU c N (.int .i64 (n:Int)) H Z q=q (.str s) H Z:=by
 obtain⟨s,h1,h2⟩:=l_numeral c N (n+1) n [] (by omega) (by omega) (by simp;omega)
 refine⟨s,by simpa using h1,fun H Z q=>?_⟩
 have e1:((n:Int) == Int.negSucc 9223372036854775807)=false:=by rw[beq_eq_false_iff_ne];intro h;omega
 have e2:decide ((n:Int)<Int.ofNat 0)=false:=decide_eq_false (by have:Int.ofNat 0=0:=rfl;omega)
 simp only[zDU,zU,e1,zD,zL,e2]
 rw[h2 _ H Z N _ (by omega) (by simp[T.get_set]) (by simp[T.get_set])]
 simp only[zW,Nat.beq_refl,cond_true,seqK,zGi,zK,↓reduceIte]
theorem l_text4 (c:zG)(N:Nat)(hM:NmlOk c)(n:Nat):∀ (r:Nat) (s:Bs),r<=4->s.length<=(4-r)*300->∃ s':Bs,s'.length<=1200/\∀ (fr:T V) (H:Heap) (Z:Tape) (m:Nat) k,r<m->fr.get 0=some (.int .u32 (n:Int))->fr.get 3=some (.str s)->fr.get 4=some (.int .i64 (8*(r:Int)-8)) ->
  zq (zDn c N) m ⟨fr,H⟩ Z k=k (.exit 0) ⟨(T.s .leaf 3 (.str s')),H⟩ Z:=by
 intro r
 induction r with
 | zero =>
  intro s hr hs
  refine⟨s,by omega,fun fr H Z m k hm f0 f3 f4=>?_⟩
  obtain⟨m,rfl⟩:∃ j,m=j+1:=⟨m-1,by omega⟩
  have e1:decide (Int.ofNat 0<=8*((0:Nat):Int)-8)=false:=by decide
  rw[zI]
  simp only[zDn,zA f0,zA f3,zA f4,zi,e1,zD]
  rfl
 | succ r ih =>
  intro s hr hs
  have e1:decide (Int.ofNat 0<=8*((r+1:Nat):Int)-8)=true:=decide_eq_true (by have:Int.ofNat 0=0:=rfl;omega)
  have e2:wr .u64 (8*((r+1:Nat):Int)-8)=((8*r:Nat):Int):=by
   rw[show 8*((r+1:Nat):Int)-8=((8*r:Nat):Int)by omega,zPq,Nat.mod_eq_of_lt (by omega)]
  have e3:wr .i64 (8*((r+1:Nat):Int)-8-Int.ofNat 8)=8*(r:Int)-8:=by have:Int.ofNat 8=8:=rfl;rw[zES (by omega) (by omega)];omega
  let y:Nat:=Nat.land ((n / 2 ^ (min (8*r) IntKind.u32.bits)) % pow2 .u32) (255 % pow2 .u32) % pow2 .u32
  have hy:y<256:=by
   have h1:Nat.land ((n / 2 ^ (min (8*r) IntKind.u32.bits)) % pow2 .u32) (255 % pow2 .u32)<=255 % pow2 .u32:=Nat.and_le_right
   have h2:(255 % pow2 .u32)=255:=by decide
   have h3:y<=Nat.land ((n / 2 ^ (min (8*r) IntKind.u32.bits)) % pow2 .u32) (255 % pow2 .u32):=Nat.mod_le _ _
   omega
  have e4:wr .i64 (y:Int)=(y:Int):=zES (by omega) (by omega)
  obtain⟨w,w1,w2⟩:=hM y (by omega)
  have and':∀ cc:V->Ans,binK .and (.int .u32 ((n / 2 ^ (min (8*r) IntKind.u32.bits):Nat):Int)) (.int .u32 (.ofNat 255)) cc=cc (.int .u32 (y:Int)):=fun cc=>u_and uk32 _ 255 cc
  have mul:(4-(r+1))*300+300=(4-r)*300:=by omega
  by_cases hs0:s=[]
  ·have e5:zAL .neq s []=some (.bool false):=by rw[strne,decide_eq_true hs0];rfl
   have e6:zAL .add s w=some (.str (s++w)):=zD7 (by omega)
   obtain⟨s',h1,h2⟩:=ih (s++w) (by omega) (by rw[List.length_append];omega)
   refine⟨s',h1,fun fr H Z m k hm f0 f3 f4=>?_⟩
   obtain⟨m,rfl⟩:∃ j,m=j+1:=⟨m-1,by omega⟩
   rw[zI]
   simp only[zDn,zA f0,zA f3,zA f4,zi,e1,zF,zP,e5,zB,zD,zFs,zK,↓reduceIte,Nat.reduceEqDiff,zBB,e2,u_shr,and',e4,w2,e6,zIY,zAA,e3]
   exact h2 _ H Z m k (by omega) (by simp[T.get_set]) (by simp[T.get_set]) (by simp[T.get_set])
  ·have e5:zAL .neq s []=some (.bool true):=by rw[strne,decide_eq_false hs0];rfl
   have e7:zAL .add s (bs [46])=some (.str (s++bs [46])):=zD7 (by rw[show(bs [46]).length=1 from rfl];omega)
   have hl:(s++bs [46]).length=s.length+1:=by rw[List.length_append];rfl
   have e6:zAL .add (s++bs [46]) w=some (.str (s++bs [46]++w)):=zD7 (by omega)
   obtain⟨s',h1,h2⟩:=ih (s++bs [46]++w) (by omega) (by rw[List.length_append,hl];omega)
   refine⟨s',h1,fun fr H Z m k hm f0 f3 f4=>?_⟩
   obtain⟨m,rfl⟩:∃ j,m=j+1:=⟨m-1,by omega⟩
   rw[zI]
   simp only[zDn,zA f0,zA f3,zA f4,zi,e1,zF,zP,e5,zB,e7,zFs,zK,↓reduceIte,Nat.reduceEqDiff,zBB,e2,u_shr,and',e4,w2,e6,zIY,zAA,e3]
   exact h2 _ H Z m k (by omega) (by simp[T.get_set]) (by simp[T.get_set]) (by simp[T.get_set])
abbrev Tx4Ok (c:zG):Prop:=∀ n:Nat,∃ s:Bs,s.length<=1200/\∀ H Z q,c zHE [.int .u32 (n:Int)] H Z q=q (.str s) H Z
theorem zPv (c:zG){N:Nat}(hN:100<=N)(hM:NmlOk c)(n:Nat):∃ s:Bs,s.length<=1200/\∀ H Z q,zIx c N (.int .u32 (n:Int)) H Z q=q (.str s) H Z:=by
 obtain⟨s,h1,h2⟩:=l_text4 c N hM n 4 [] nl (by simp)
 refine⟨s,h1,fun H Z q=>?_⟩
 simp only[zIx]
 rw[h2 _ H Z N _ (by omega) (by simp[T.get_set]) (by simp[T.get_set]) (by simp[T.get_set])]
 simp only[zW,Nat.beq_refl,cond_true,seqK,zL7,zK,↓reduceIte]
theorem wr_u16 (z:Int):∃ m:Nat,m<65536/\wr .u16 z=(m:Int):=by
 refine⟨(z % 65536).toNat,by omega,?_⟩
 rw[zPZ];simp only[IntKind.wrap,IntKind.signed,IntKind.bits];simp;omega
theorem wr_u16n {n:Nat}(h:n<65536):wr .u16 (n:Int)=(n:Int):=by
 rw[zPZ];simp only[IntKind.wrap,IntKind.signed,IntKind.bits];simp;omega
theorem l_digits16 (c:zG)(N:Nat):∀ (b n:Nat) (s:Bs),n<b->n<65536->s.length<=100000-n->∃ s':Bs,s'.length<=100001/\∀ (fr:T V) (H:Heap) (Z:Tape) (m:Nat) k,n+1<m->fr.get 0=some (.int .u16 (n:Int))->fr.get 3=some (.str s) ->
  zq (zCG c N) m ⟨fr,H⟩ Z k=k (.exit 0) ⟨(T.s .leaf 3 (.str s')),H⟩ Z:=by
 intro b
 induction b with
 | zero=>intro n s h;omega
 | succ b ih =>
  intro n s hb hn hs
  have rem:∀ c:V->Ans,binK .rem (.int .u16 (n:Int)) (.int .u16 (.ofNat 16)) c=c (.int .u16 ((n % 16:Nat):Int)):=fun c=>by
   rw[zSQ _ _ _ (by decide)];congr 1
  have quo:∀ c:V->Ans,binK .quo (.int .u16 (n:Int)) (.int .u16 (.ofNat 16)) c=c (.int .u16 ((n / 16:Nat):Int)):=fun c=>by
   rw[zPU _ _ _ (by decide)]
   have:((n:Int).tdiv (Int.ofNat 16))=((n / 16:Nat):Int):=rfl
   rw[this,wr_u16n (by omega)]
  have hl:(bs [48,49,50,51,52,53,54,55,56,57,97,98,99,100,101,102]).length=16:=rfl
  obtain⟨x,hx1,hx2⟩:∃ x:Bs,x.length=1/\zR true true [.str (bs [48,49,50,51,52,53,54,55,56,57,97,98,99,100,101,102]),.int .u16 ((n % 16:Nat):Int),.int .u16 ((n % 16+1:Nat):Int)]=some (.str x) :=
   ⟨((bs [48,49,50,51,52,53,54,55,56,57,97,98,99,100,101,102]).take (n % 16+1)).drop (n % 16),by rw[List.length_drop,List.length_take];omega,zAp (by omega) (by omega)⟩
  have e3:wr .u16 (((n % 16:Nat):Int)+Int.ofNat 1)=((n % 16+1:Nat):Int):=wr_u16n (n:=n % 16+1) (by omega)
  have e4:zAL .add x s=some (.str (x++s)):=zD7 (by omega)
  by_cases h0:0<n
  ·have e1:decide (Int.ofNat 0<(n:Int))=true:=decide_eq_true (by have:Int.ofNat 0=0:=rfl;omega)
   obtain⟨s',h1,h2⟩:=ih (n / 16) (x++s) (by omega) (by omega) (by rw[List.length_append];omega)
   refine⟨s',h1,fun fr H Z m k hm f0 f3=>?_⟩
   obtain⟨m,rfl⟩:∃ j,m=j+1:=⟨m-1,by omega⟩
   rw[zI]
   simp only[zCG,zA f0,zA f3,zY,e1,zh,zX,zJ,cond_true,zB,zF,rem,zS .u16,e3,hx2,zP,e4,quo]
   exact h2 _ H Z m k (by omega) (by simp[T.get_set]) (by simp[T.get_set])
  ·have e1:decide (Int.ofNat 0<(n:Int))=false:=decide_eq_false (by have:Int.ofNat 0=0:=rfl;omega)
   obtain rfl:n=0:=by omega
   by_cases hs0:s=[]
   ·have e2:zAL .eql s []=some (.bool true):=by rw[streq,decide_eq_true hs0]
    have hx0:x++s≠[]:=fun h=>by rw[(List.append_eq_nil_iff.1 h).1]at hx1;simp at hx1
    have e5:zAL .eql (x++s) []=some (.bool false):=by rw[streq,decide_eq_false hx0]
    refine⟨x++s,by rw[List.length_append];omega,fun fr H Z m k hm f0 f3=>?_⟩
    obtain⟨m,rfl⟩:∃ j,m=j+1+1:=⟨m-2,by omega⟩
    have e1':decide (Int.ofNat 0<((0 / 16:Nat):Int))=false:=rfl
    rw[zI]
    simp only[zCG,zA f0,zA f3,zY,e1,zu,retK,zN,zP,e2,zJ,cond_false,zB,zF,rem,zS .u16,e3,hx2,e4,quo,seqK]
    rw[zI]
    simp only[zCG,zK,↓reduceIte,Nat.reduceEqDiff,zY,e1',zu,retK,zN,zP,e5,zJ,cond_false,zB,zD]
    rfl
   ·have e2:zAL .eql s []=some (.bool false):=by rw[streq,decide_eq_false hs0]
    refine⟨s,by omega,fun fr H Z m k hm f0 f3=>?_⟩
    obtain⟨m,rfl⟩:∃ j,m=j+1:=⟨m-1,by omega⟩
    rw[zI]
    simp only[zCG,zA f0,zA f3,zY,e1,zu,retK,zN,zP,e2,zJ,cond_false,zB,zD]
    rfl
abbrev D16Ok (c:zG):Prop:=∀ n:Nat,n<65536->∃ s:Bs,s.length<=100001/\∀ H Z q,c zHu [.int .u16 (n:Int)] H Z q=q (.str s) H Z
theorem zPO (c:zG){N:Nat}(hN:9223372036854775807<=N)(n:Nat)(hn:n<65536):∃ s:Bs,s.length<=100001/\∀ H Z q,zHi c N (.int .u16 (n:Int)) H Z q=q (.str s) H Z:=by
 obtain⟨s,h1,h2⟩:=l_digits16 c N (n+1) n [] (by omega) (by omega) (by simp)
 refine⟨s,h1,fun H Z q=>?_⟩
 simp only[zHi]
 rw[h2 _ H Z N _ (by omega) (by simp[T.get_set]) (by simp[T.get_set])]
 simp only[zW,Nat.beq_refl,cond_true,seqK,zLc,zK,↓reduceIte]
end Go.Am.X

namespace Go.Am.X
abbrev getV (name:Bs)(hs:List Hd):V:=.tup [.str (getT name hs),.bool (decide (0<(sel name hs).length))]
theorem k_Get {c:zG}{f:Nat}(h:IsP c f (RH GetPre GetG)){hs:List Hd}(hS:Small hs){name:Bs}(hm:name.length<=140737488355328){lv:V}{H:Heap}(hr:RdH H lv hs)(Z:Tape)(q:KV):c f [lv,.str name] H Z q=q (getV name hs) H Z :=
 RH_val (l:=[.str name]) h hr ⟨hS,hm⟩ rfl Z q
end Go.Am.X

namespace Go.Am.X
def digF:Nat->Nat->Bs->Bs
 | 0,_,acc=>acc
 | f+1,n,acc=>bif Nat.blt 0 n || acc.isEmpty then digF f (n / 10) (UInt8.ofNat (48+n % 10)::acc)else acc
def dig (n:Nat):Bs:=digF 8 n []
def Dgs (s:Bs):Prop:=∀ x ∈ s,48<=x.toNat/\x.toNat<=57
theorem dgt (r:Nat)(h:r<10):(UInt8.ofNat (48+r)).toNat=48+r:=by
 rw[UInt8.toNat_ofNat'];omega
theorem digF_ok:∀ (f n:Nat) (acc:Bs),Dgs acc->(acc≠[]∨0<f)->Dgs (digF f n acc)/\digF f n acc≠[]/\(digF f n acc).length<=acc.length+f:=by
 intro f
 induction f with
 | zero=>intro n acc h1 h2;exact⟨h1,by rcases h2 with h | h;exact h;omega,by simp[digF]⟩
 | succ f ih =>
  intro n acc h1 h2
  rw[digF]
  cases hb:(Nat.blt 0 n || acc.isEmpty)with
  | true =>
   rw[cond_true]
   have hr:=dgt (n % 10) (Nat.mod_lt _ (by omega))
   obtain⟨a,b,c⟩:=ih (n / 10) (UInt8.ofNat (48+n % 10)::acc) (fun x hx=>by
    rcases List.mem_cons.1 hx with rfl | hx
    ·rw[hr];omega
    ·exact h1 x hx) (.inl (by simp))
   exact⟨a,b,by simp only[List.length_cons]at c;omega⟩
  | false =>
   rw[cond_false]
   exact⟨h1,fun e=>by rw[e]at hb;simp at hb,by omega⟩
theorem dig_slice:∀ r,r<10->zR true true [.str (bs [48,49,50,51,52,53,54,55,56,57]),.int .i64 ((r:Nat):Int),.int .i64 ((r+1:Nat):Int)]=some (.str [UInt8.ofNat (48+r)]):=by
 intro r hr
 rw[zAp (by omega) (by simp[bs];omega)]
 match r,hr with
 | 0,_ | 1,_ | 2,_ | 3,_ | 4,_ | 5,_ | 6,_ | 7,_ | 8,_ | 9,_=>rfl
end Go.Am.X

namespace Go.Am.X
theorem intL_nonneg:∀ (l:Bs) (v m:Int),0<=v->v<=zGy->intL l v=some m->0<=m:=by
 intro l
 induction l with
 | nil=>intro v m h0 _ h;cases h;exact h0
 | cons x l ih =>
  intro v m h0 h1 h
  rw[intL]at h
  split at h
  ·rename_i hx
   have:=zKU h0 h1 (d:=(x.toNat:Int)-48) (by omega) (by omega)
   exact ih _ _ this.1 this.2 h
  ·cases h
theorem intB_nonneg (s:Bs):0<=(intB s).1:=by
 unfold intB
 cases h:intL s 0 with
 | none=>exact Int.le_refl _
 | some m=>exact intL_nonneg s 0 m (Int.le_refl _) (by unfold zGy;omega) h
abbrev NLowOk (c:zG):Prop:=∀ (s:Bs),s.length<=140737488355328->∀ H Z q,c zBA [.str s] H Z q=q (.str (lower s)) H Z
theorem zSK {c:zG}(h:IsP c zBA LowR):NLowOk c:=fun s hs H Z q=>callS h s hs H Z q
end Go.Am.X

