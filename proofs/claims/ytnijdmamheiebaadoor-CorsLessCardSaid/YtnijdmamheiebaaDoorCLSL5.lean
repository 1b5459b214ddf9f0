/- The abstract machine, printed functions of the program, and what they are shown to be. -/
import Derived.Test.YtnijdmamheiebaaDoorCLSL4
import Derived.Test.YtnijdmamheiebaaDoorCLSL1
set_option linter.unusedSimpArgs false
set_option linter.unusedVariables false
set_option linter.unusedSectionVars false
set_option maxRecDepth 100000
namespace Go.Am.X
theorem bx_at {H:Heap}{id:Nat}{l:List Nat}(h:Bx H id (ws16 l))(h8:A8 l){i:Nat}(hi:i<8):∃ n:Nat,n<65536/\zJW 8 1 [.ptr id 0,.int .i64 (i:Int)]=some (.ptr id i)/\zf [.ptr id i] H=some (.int .u16 (n:Int)):=by
 have e8:=h8.1
 refine⟨l[i],h8.2 _ (List.getElem_mem _),?_,zDQ h.cells (by unfold ws16;rw[List.getElem?_map,List.getElem?_eq_getElem (by omega)];rfl)⟩
 have hb:Nat.blt i 8=true:=blt_yes hi
 simp only[zJW,zBK,hb,cond_true,Nat.zero_add,Nat.mul_one]
theorem l_t6n (c:zG)(N:Nat){id:Nat}{l:List Nat}{H:Heap}(hx:Bx H id (ws16 l))(h8:A8 l)(t3 t4:V){i:Nat}:∀ (r n:Nat),i+n+r=8->∃ n':Nat,n'<=8/\∀ (fr:T V) (Z:Tape) (m:Nat) k,r<m->fr.get 1=some (.ptr id 0)->fr.get 3=some t3->fr.get 4=some t4->fr.get 5=some (.int .i64 (i:Int))->fr.get 6=some (.int .i64 (n:Int)) ->
  zq (zDx c N) m ⟨fr,H⟩ Z k=k (.exit 2) ⟨(T.s (T.s (T.s (T.s (T.s .leaf 1 (.ptr id 0)) 3 t3) 4 t4) 5 (.int .i64 (i:Int))) 6 (.int .i64 (n':Int))),H⟩ Z:=by
 intro r
 induction r with
 | zero =>
  intro n hn
  refine⟨n,by omega,fun fr Z m k hm f1 f3 f4 f5 f6=>?_⟩
  obtain⟨m,rfl⟩:∃ j,m=j+1:=⟨m-1,by omega⟩
  have e3:wr .i64 ((i:Int)+(n:Int))=((i+n:Nat):Int):=by rw[zES (by omega) (by omega)];omega
  have e1:decide (((i+n:Nat):Int)<Int.ofNat 8)=false:=decide_eq_false (by have:Int.ofNat 8=8:=rfl;omega)
  rw[zI]
  simp only[zDx,zA f1,zA f3,zA f4,zA f5,zA f6,zS .i64,e3,zL,e1,ze,zX,zJ,cond_false,zB,zD]
  rfl
 | succ r ih =>
  intro n hn
  have e3:wr .i64 ((i:Int)+(n:Int))=((i+n:Nat):Int):=by rw[zES (by omega) (by omega)];omega
  have e1:decide (((i+n:Nat):Int)<Int.ofNat 8)=true:=decide_eq_true (by have:Int.ofNat 8=8:=rfl;omega)
  have e4:wr .i64 ((n:Int)+Int.ofNat 1)=((n+1:Nat):Int):=adI (by omega)
  obtain⟨x,hx1,p1,p2⟩:=bx_at hx h8 (i:=i+n) (by omega)
  cases d:((x:Int) == Int.ofNat 0)with
  | false =>
   refine⟨n,by omega,fun fr Z m k hm f1 f3 f4 f5 f6=>?_⟩
   obtain⟨m,rfl⟩:∃ j,m=j+1:=⟨m-1,by omega⟩
   rw[zI]
   simp only[zDx,zA f1,zA f3,zA f4,zA f5,zA f6,zS .i64,e3,zL,e1,zAB,retK,zN,p1,p2,zB,zU,d,zJ,cond_true,zD]
   rfl
  | true =>
   obtain⟨n',h1,h2⟩:=ih (n+1) (by omega)
   refine⟨n',h1,fun fr Z m k hm f1 f3 f4 f5 f6=>?_⟩
   obtain⟨m,rfl⟩:∃ j,m=j+1:=⟨m-1,by omega⟩
   rw[zI]
   simp only[zDx,zA f1,zA f3,zA f4,zA f5,zA f6,zS .i64,e3,zL,e1,zAB,retK,zN,p1,p2,zB,zU,d,zJ,cond_true,zF,e4]
   exact h2 _ Z m k (by omega) (by simp[T.get_set]) (by simp[T.get_set]) (by simp[T.get_set]) (by simp[T.get_set]) (by simp[T.get_set])
theorem l_t6a (c:zG){N:Nat}(hN:100<=N){id:Nat}{l:List Nat}{H:Heap}(hx:Bx H id (ws16 l))(h8:A8 l):∀ (r i:Nat) (f:Int) (ln:Nat),i+r=8->1<=ln->ln<=8->∃ (f':Int) (ln':Nat),1<=ln'/\ln'<=8/\∀ (fr:T V) (Z:Tape) (m:Nat) k,r<m->fr.get 1=some (.ptr id 0)->fr.get 3=some (.int .i64 f)->fr.get 4=some (.int .i64 (ln:Int))->fr.get 5=some (.int .i64 (i:Int)) ->
  zq (zD4 c N) m ⟨fr,H⟩ Z k=k (.exit 0) ⟨(T.s (T.s (T.s .leaf 1 (.ptr id 0)) 3 (.int .i64 f')) 4 (.int .i64 (ln':Int))),H⟩ Z:=by
 intro r
 induction r with
 | zero =>
  intro i f ln hi h1 h2
  refine⟨f,ln,h1,h2,fun fr Z m k hm f1 f3 f4 f5=>?_⟩
  obtain⟨m,rfl⟩:∃ j,m=j+1:=⟨m-1,by omega⟩
  have e1:decide ((i:Int)<Int.ofNat 8)=false:=decide_eq_false (by have:Int.ofNat 8=8:=rfl;omega)
  rw[zI]
  simp only[zD4,zA f1,zA f3,zA f4,zA f5,zL,e1,zD]
  rfl
 | succ r ih =>
  intro i f ln hi h1 h2
  have e1:decide ((i:Int)<Int.ofNat 8)=true:=decide_eq_true (by have:Int.ofNat 8=8:=rfl;omega)
  have e3:wr .i64 ((i:Int)+Int.ofNat 1)=((i+1:Nat):Int):=adI (by omega)
  obtain⟨n,hn,hk⟩:=l_t6n c N hx h8 (.int .i64 f) (.int .i64 (ln:Int)) (i:=i) (8-i) 0 (by omega)
  by_cases hgt:ln<n
  ·have d:decide ((ln:Int)<(n:Int))=true:=decide_eq_true (by omega)
   obtain⟨f',ln',g1,g2,g3⟩:=ih (i+1) (i:Int) n (by omega) (by omega) hn
   refine⟨f',ln',g1,g2,fun fr Z m k hm f1 f3 f4 f5=>?_⟩
   obtain⟨m,rfl⟩:∃ j,m=j+1:=⟨m-1,by omega⟩
   rw[zI]
   simp only[zD4,zA f1,zA f3,zA f4,zA f5,zL,e1,zF]
   rw[hk _ _ _ _ (by omega) (by simp[T.get_set]) (by simp[T.get_set]) (by simp[T.get_set]) (by simp[T.get_set]) (by simp[T.get_set])]
   simp only[zW,Nat.beq_refl,cond_true,seqK,zIn,zK,↓reduceIte,Nat.reduceEqDiff,zY,d,zF,zEF,zS .i64,e3]
   exact g3 _ Z m k (by omega) (by simp[T.get_set]) (by simp[T.get_set]) (by simp[T.get_set]) (by simp[T.get_set])
  ·have d:decide ((ln:Int)<(n:Int))=false:=decide_eq_false (by omega)
   obtain⟨f',ln',g1,g2,g3⟩:=ih (i+1) f ln (by omega) h1 h2
   refine⟨f',ln',g1,g2,fun fr Z m k hm f1 f3 f4 f5=>?_⟩
   obtain⟨m,rfl⟩:∃ j,m=j+1:=⟨m-1,by omega⟩
   rw[zI]
   simp only[zD4,zA f1,zA f3,zA f4,zA f5,zL,e1,zF]
   rw[hk _ _ _ _ (by omega) (by simp[T.get_set]) (by simp[T.get_set]) (by simp[T.get_set]) (by simp[T.get_set]) (by simp[T.get_set])]
   simp only[zW,Nat.beq_refl,cond_true,seqK,zIn,zK,↓reduceIte,Nat.reduceEqDiff,zY,d,zD,zEF,zS .i64,e3]
   exact g3 _ Z m k (by omega) (by simp[T.get_set]) (by simp[T.get_set]) (by simp[T.get_set]) (by simp[T.get_set])
theorem l_t6b (c:zG)(N:Nat)(hD:D16Ok c){id:Nat}{l:List Nat}{H:Heap}(hx:Bx H id (ws16 l))(h8:A8 l)(f:Int){ln:Nat}(h1:1<=ln)(h2:ln<=8):∀ (r i:Nat) (s:Bs),8<=i+r->i<=100->s.length+r*100010<=1000000->∃ s':Bs,s'.length<=1000000/\∀ (fr:T V) (Z:Tape) (m:Nat) k,r<m->fr.get 1=some (.ptr id 0)->fr.get 3=some (.int .i64 f)->fr.get 4=some (.int .i64 (ln:Int))->fr.get 7=some (.str s)->fr.get 8=some (.int .i64 (i:Int)) ->
  zq (zA0 c N) m ⟨fr,H⟩ Z k=k (.exit 4) ⟨(T.s .leaf 7 (.str s')),H⟩ Z:=by
 intro r
 induction r with
 | zero =>
  intro i s hi hi2 hs
  refine⟨s,by omega,fun fr Z m k hm f1 f3 f4 f7 f8=>?_⟩
  obtain⟨m,rfl⟩:∃ j,m=j+1:=⟨m-1,by omega⟩
  have e1:decide ((i:Int)<Int.ofNat 8)=false:=decide_eq_false (by have:Int.ofNat 8=8:=rfl;omega)
  rw[zI]
  simp only[zA0,zA f1,zA f3,zA f4,zA f7,zA f8,zL,e1,zD]
  rfl
 | succ r ih =>
  intro i s hi hi2 hs
  by_cases hi8:i<8
  ·have e1:decide ((i:Int)<Int.ofNat 8)=true:=decide_eq_true (by have:Int.ofNat 8=8:=rfl;omega)
   cases d:((i:Int) == f)with
   | true =>
    have a1:zAL .add s (bs [58,58])=some (.str (s++bs [58,58])):=zD7 (by rw[show(bs [58,58]).length=2 from rfl];omega)
    have e2:wr .i64 ((i:Int)+(ln:Int))=((i+ln:Nat):Int):=by rw[zES (by omega) (by omega)];omega
    have e3:wr .i64 (((i+ln:Nat):Int)-Int.ofNat 1)=((i+ln-1:Nat):Int):=sbI (by omega) (by omega)
    have e4:wr .i64 (((i+ln-1:Nat):Int)+Int.ofNat 1)=((i+ln-1+1:Nat):Int):=adI (by omega)
    obtain⟨s',g1,g2⟩:=ih (i+ln-1+1) (s++bs [58,58]) (by omega) (by omega) (by rw[List.length_append,show(bs [58,58]).length=2 from rfl];omega)
    refine⟨s',g1,fun fr Z m k hm f1 f3 f4 f7 f8=>?_⟩
    obtain⟨m,rfl⟩:∃ j,m=j+1:=⟨m-1,by omega⟩
    rw[zI]
    simp only[zA0,zA f1,zA f3,zA f4,zA f7,zA f8,zL,e1,zF,zU,d,zP,a1,zB,zS .i64,e2,zAA,e3,zFt,zK,↓reduceIte,Nat.reduceEqDiff,e4]
    exact g2 _ Z m k (by omega) (by simp[T.get_set]) (by simp[T.get_set]) (by simp[T.get_set]) (by simp[T.get_set]) (by simp[T.get_set])
   | false =>
    obtain⟨x,hx1,p1,p2⟩:=bx_at hx h8 hi8
    obtain⟨w,w1,w2⟩:=hD x hx1
    have e4:wr .i64 ((i:Int)+Int.ofNat 1)=((i+1:Nat):Int):=adI (by omega)
    have fin:∀ t:Bs,t.length<=s.length+1->∃ s':Bs,s'.length<=1000000/\∀ (fr:T V) (Z:Tape) (m:Nat) k,r<m->fr.get 1=some (.ptr id 0)->fr.get 3=some (.int .i64 f)->fr.get 4=some (.int .i64 (ln:Int))->fr.get 7=some (.str t)->fr.get 8=some (.int .i64 (i:Int)) ->
      zFm c N (seqK (fun st Z=>zq (zA0 c N) m st Z k) k) ⟨fr,H⟩ Z=k (.exit 4) ⟨(T.s .leaf 7 (.str s')),H⟩ Z:=by
     intro t ht
     have a2:zAL .add t w=some (.str (t++w)):=zD7 (by omega)
     obtain⟨s',g1,g2⟩:=ih (i+1) (t++w) (by omega) (by omega) (by rw[List.length_append];omega)
     refine⟨s',g1,fun fr Z m k hm f1 f3 f4 f7 f8=>?_⟩
     simp only[zFm,zA f1,zA f3,zA f4,zA f7,zA f8,p1,p2,zB,w2,zP,a2,zFt,zK,↓reduceIte,Nat.reduceEqDiff,zS .i64,e4,seqK]
     exact g2 _ Z m k (by omega) (by simp[T.get_set]) (by simp[T.get_set]) (by simp[T.get_set]) (by simp[T.get_set]) (by simp[T.get_set])
    by_cases hs0:s=[]
    ·have d1:zAL .neq s []=some (.bool false):=by rw[strne,decide_eq_true hs0];rfl
     obtain⟨s',g1,g2⟩:=fin s (by omega)
     refine⟨s',g1,fun fr Z m k hm f1 f3 f4 f7 f8=>?_⟩
     obtain⟨m,rfl⟩:∃ j,m=j+1:=⟨m-1,by omega⟩
     rw[zI]
     simp only[zA0,zA f1,zA f3,zA f4,zA f7,zA f8,zL,e1,zF,zU,d,zD,zP,d1,zB,ze,zX,zJ,cond_false]
     exact g2 _ Z m k (by omega) (by simp[T.get_set]) (by simp[T.get_set]) (by simp[T.get_set]) (by simp[T.get_set]) (by simp[T.get_set])
    ·have d1:zAL .neq s []=some (.bool true):=by rw[strne,decide_eq_false hs0];rfl
     have hl:0<s.length:=List.length_pos_iff.2 hs0
     have e5:wr .i64 ((s.length:Int)-Int.ofNat 1)=((s.length-1:Nat):Int):=sbI (by omega) (by omega)
     obtain⟨y,hy⟩:∃ y,s[s.length-1]?=some y:=⟨s[s.length-1],List.getElem?_eq_getElem (by omega)⟩
     have e6:zM [.str s,.int .i64 ((s.length-1:Nat):Int)]=some (.int .u8 (y.toNat:Int)):=zk hy
     cases d2:((y.toNat:Int) != Int.ofNat 58)with
     | false =>
      obtain⟨s',g1,g2⟩:=fin s (by omega)
      refine⟨s',g1,fun fr Z m k hm f1 f3 f4 f7 f8=>?_⟩
      obtain⟨m,rfl⟩:∃ j,m=j+1:=⟨m-1,by omega⟩
      rw[zI]
      simp only[zA0,zA f1,zA f3,zA f4,zA f7,zA f8,zL,e1,zF,zU,d,zD,zP,d1,zB,zAB,retK,zN,zO,zAA,e5,e6,zAM,d2,zJ,cond_true]
      exact g2 _ Z m k (by omega) (by simp[T.get_set]) (by simp[T.get_set]) (by simp[T.get_set]) (by simp[T.get_set]) (by simp[T.get_set])
     | true =>
      have a3:zAL .add s (bs [58])=some (.str (s++bs [58])):=zD7 (by rw[show(bs [58]).length=1 from rfl];omega)
      obtain⟨s',g1,g2⟩:=fin (s++bs [58]) (by rw[List.length_append];exact Nat.le_refl _)
      refine⟨s',g1,fun fr Z m k hm f1 f3 f4 f7 f8=>?_⟩
      obtain⟨m,rfl⟩:∃ j,m=j+1:=⟨m-1,by omega⟩
      rw[zI]
      simp only[zA0,zA f1,zA f3,zA f4,zA f7,zA f8,zL,e1,zF,zU,d,zD,zP,d1,zB,zAB,retK,zN,zO,zAA,e5,e6,zAM,d2,zJ,cond_true,a3]
      exact g2 _ Z m k (by omega) (by simp[T.get_set]) (by simp[T.get_set]) (by simp[T.get_set]) (by simp[T.get_set]) (by simp[T.get_set])
  ·have e1:decide ((i:Int)<Int.ofNat 8)=false:=decide_eq_false (by have:Int.ofNat 8=8:=rfl;omega)
   refine⟨s,by omega,fun fr Z m k hm f1 f3 f4 f7 f8=>?_⟩
   obtain⟨m,rfl⟩:∃ j,m=j+1:=⟨m-1,by omega⟩
   rw[zI]
   simp only[zA0,zA f1,zA f3,zA f4,zA f7,zA f8,zL,e1,zD]
   rfl
abbrev Tx6Ok (c:zG):Prop:=∀ (l:List Nat),A8 l->∀ {H:Heap},WF H->∀ Z,∃ (s:Bs) (H':Heap) (Z':Tape),s.length<=1000000/\Gr H.size H H'/\∀ q,c zJB [.agg (ws16 l)] H Z q=q (.str s) H' Z'
theorem zPx (c:zG){N:Nat}(hN:9223372036854775807<=N)(hD:D16Ok c)(l:List Nat)(h8:A8 l){H:Heap}(hw:WF H)(Z:Tape) :
  ∃ (s:Bs) (H':Heap) (Z':Tape),s.length<=1000000/\Gr H.size H H'/\∀ q,zI0 c N (.agg (ws16 l)) H Z q=q (.str s) H' Z':=by
 have a1:eBox [.agg (ws16 l)] H Z=some (.ptr H.size 0,H.new (ws16 l) (ws16 l).length true,Z):=rfl
 have g1:=Gr.new hw (ws16 l) (ws16 l).length true
 have b1:Bx (H.new (ws16 l) (ws16 l).length true) H.size (ws16 l):=Bx.new H _ _ true nl
 generalize H.new (ws16 l) (ws16 l).length true=H1 at a1 g1 b1
 obtain⟨f,ln,h1,h2,k1⟩:=l_t6a c (N:=N) (by omega) b1 h8 8 0 (-1) 1 (by omega) nl (by omega)
 obtain⟨s,s1,k2⟩:=l_t6b c N hD b1 h8 f h1 h2 8 0 [] (by omega) (by omega) (by simp)
 refine⟨s,H1,Z,s1,g1,fun q=>?_⟩
 simp only[zI0,a1,zN]
 rw[k1 _ _ _ _ (by omega) (by simp[T.get_set]) (by simp[T.get_set]) (by simp[T.get_set]) (by simp[T.get_set])]
 simp only[zW,Nat.beq_refl,cond_true,seqK,zMs,zK,↓reduceIte,Nat.reduceEqDiff]
 rw[k2 _ _ _ _ (by omega) (by simp[T.get_set]) (by simp[T.get_set]) (by simp[T.get_set]) (by simp[T.get_set]) (by simp[T.get_set])]
 simp only[zW,Nat.beq_refl,cond_true,seqK,zMJ,zK,↓reduceIte]
end Go.Am.X

namespace Go.Am.X
theorem l_hp6 (c:zG)(N:Nat)(hB:BadOk c)(s:Bs)(hs:s.length<=1000000)(H:Heap):∀ (l pre:Bs),s=pre++l->∃ ok:Bool,∀ (fr:T V) (Z:Tape) (m:Nat) k,l.length<m->fr.get 0=some (.str s)->fr.get 8=some (.int .i64 (pre.length:Int)) ->
  zq (zDw c N) m ⟨fr,H⟩ Z k=if ok=true then k (.exit 0) ⟨(T.s .leaf 0 (.str s)),H⟩ Z else k .ret ⟨(T.s (T.s .leaf 4 (.str [])) 5 (.bool false)),H⟩ Z:=by
 intro l
 induction l with
 | nil =>
  intro pre he
  refine⟨true,fun fr Z m k hm f0 f8=>?_⟩
  obtain⟨m,rfl⟩:∃ j,m=j+1:=⟨m-1,by omega⟩
  have e1:decide ((pre.length:Int)<(s.length:Int))=false:=decide_eq_false (by rw[he];simp)
  rw[zI]
  simp only[zDw,zA f0,zA f8,zO,zB,zL,e1,zD]
  rfl
 | cons y l ih =>
  intro pre he
  have hl:pre.length<s.length:=by rw[he];simp
  have e1:decide ((pre.length:Int)<(s.length:Int))=true:=decide_eq_true (by omega)
  have e2:zM [.str s,.int .i64 (pre.length:Int)]=some (.int .u8 (y.toNat:Int)):=zk (by rw[he];simp)
  have e3:wr .i64 ((pre.length:Int)+Int.ofNat 1)=((pre++[y]).length:Int):=by rw[adI (by omega)];simp
  cases d:badT y.toNat with
  | true =>
   refine⟨false,fun fr Z m k hm f0 f8=>?_⟩
   obtain⟨m,rfl⟩:∃ j,m=j+1:=⟨m-1,by omega⟩
   rw[zI]
   simp only[zDw,zA f0,zA f8,zO,zB,zL,e1,zF,e2,hB y.toNat,d]
   rfl
  | false =>
   obtain⟨ok,h⟩:=ih (pre++[y]) (by rw[he];simp)
   refine⟨ok,fun fr Z m k hm f0 f8=>?_⟩
   obtain⟨m,rfl⟩:∃ j,m=j+1:=⟨m-1,by omega⟩
   rw[zI]
   simp only[zDw,zA f0,zA f8,zO,zB,zL,e1,zF,e2,hB y.toNat,d,zD,zS .i64,e3]
   exact h _ Z m k (by simp at hm;omega) (by simp[T.get_set]) (by simp[T.get_set])
theorem l_hp10 (c:zG)(N:Nat)(hB:BadOk c)(s:Bs)(hs:s.length<=1000000)(H:Heap):∀ (l pre:Bs),s=pre++l->∃ ok:Bool,∀ (fr:T V) (Z:Tape) (m:Nat) k,l.length<m->fr.get 0=some (.str s)->fr.get 9=some (.int .i64 (pre.length:Int)) ->
  zq (zAf c N) m ⟨fr,H⟩ Z k=if ok=true then k (.exit 2) ⟨(T.s .leaf 0 (.str s)),H⟩ Z else k .ret ⟨(T.s (T.s .leaf 4 (.str [])) 5 (.bool false)),H⟩ Z:=by
 intro l
 induction l with
 | nil =>
  intro pre he
  refine⟨true,fun fr Z m k hm f0 f9=>?_⟩
  obtain⟨m,rfl⟩:∃ j,m=j+1:=⟨m-1,by omega⟩
  have e1:decide ((pre.length:Int)<(s.length:Int))=false:=decide_eq_false (by rw[he];simp)
  rw[zI]
  simp only[zAf,zA f0,zA f9,zO,zB,zL,e1,zD]
  rfl
 | cons y l ih =>
  intro pre he
  have hl:pre.length<s.length:=by rw[he];simp
  have e1:decide ((pre.length:Int)<(s.length:Int))=true:=decide_eq_true (by omega)
  have e2:zM [.str s,.int .i64 (pre.length:Int)]=some (.int .u8 (y.toNat:Int)):=zk (by rw[he];simp)
  have e3:wr .i64 ((pre.length:Int)+Int.ofNat 1)=((pre++[y]).length:Int):=by rw[adI (by omega)];simp
  obtain⟨ok,h⟩:=ih (pre++[y]) (by rw[he];simp)
  have stop:(∀ (fr:T V) (Z:Tape) (k:KC),fr.get 0=some (.str s)->fr.get 9=some (.int .i64 (pre.length:Int))->zAf c N ⟨fr,H⟩ Z k=k .ret ⟨(T.s (T.s .leaf 4 (.str [])) 5 (.bool false)),H⟩ Z) ->
    ∃ ok:Bool,∀ (fr:T V) (Z:Tape) (m:Nat) k,(y::l).length<m->fr.get 0=some (.str s)->fr.get 9=some (.int .i64 (pre.length:Int)) ->
     zq (zAf c N) m ⟨fr,H⟩ Z k=if ok=true then k (.exit 2) ⟨(T.s .leaf 0 (.str s)),H⟩ Z else k .ret ⟨(T.s (T.s .leaf 4 (.str [])) 5 (.bool false)),H⟩ Z:=fun hs =>
   ⟨false,fun fr Z m k hm f0 f9=>by
    obtain⟨m,rfl⟩:∃ j,m=j+1:=⟨m-1,by omega⟩
    rw[zI,hs _ _ _ f0 f9];rfl⟩
  cases d1:decide (Int.ofNat 126<(y.toNat:Int))with
  | true=>exact stop fun fr Z k f0 f9=>by simp only[zAf,zA f0,zA f9,zO,zB,zL,e1,zF,e2,zY,d1,zh,zX,zJ,cond_true]
  | false =>
   cases d2:decide ((y.toNat:Int)<Int.ofNat 33)with
   | true=>exact stop fun fr Z k f0 f9=>by simp only[zAf,zA f0,zA f9,zO,zB,zL,e1,zF,e2,zY,d1,zu,retK,zN,d2,zJ,cond_false,zh,zX,cond_true]
   | false =>
    cases d3:((y.toNat:Int) == Int.ofNat 37)with
    | true=>exact stop fun fr Z k f0 f9=>by simp only[zAf,zA f0,zA f9,zO,zB,zL,e1,zF,e2,zY,d1,zu,retK,zN,d2,zJ,cond_false,zU,d3,zh,zX,cond_true]
    | false =>
     cases d4:badT y.toNat with
     | true=>exact stop fun fr Z k f0 f9=>by simp only[zAf,zA f0,zA f9,zO,zB,zL,e1,zF,e2,zY,d1,zu,retK,zN,d2,zJ,cond_false,zU,d3,hB y.toNat,d4]
     | false =>
      refine⟨ok,fun fr Z m k hm f0 f9=>?_⟩
      obtain⟨m,rfl⟩:∃ j,m=j+1:=⟨m-1,by omega⟩
      rw[zI]
      simp only[zAf,zA f0,zA f9,zO,zB,zL,e1,zF,e2,zY,d1,zu,retK,zN,d2,zJ,cond_false,zU,d3,hB y.toNat,d4,zD,zS .i64,e3]
      exact h _ Z m k (by simp at hm;omega) (by simp[T.get_set]) (by simp[T.get_set])
theorem l_hp9 (c:zG)(N:Nat)(hB:zPr c)(t0:V){v:V}{ls:List Bs}(hls:ls.length<=100000){H:Heap}(hr:Rd H 1 v ls.length (ls.map V.str)):∀ (r i:Nat),i+r=ls.length->∃ ok:Bool,∀ (fr:T V) (Z:Tape) (m:Nat) k,r<m->fr.get 0=some t0->fr.get 10=some v->fr.get 11=some (.int .i64 (i:Int)) ->
  zq (zDp c N) m ⟨fr,H⟩ Z k=if ok=true then k (.exit 4) ⟨(T.s .leaf 0 t0),H⟩ Z else k .ret ⟨(T.s (T.s .leaf 4 (.str [])) 5 (.bool false)),H⟩ Z:=by
 have pl:=hr.pLen
 intro r
 induction r with
 | zero =>
  intro i hi
  refine⟨true,fun fr Z m k hm f0 f10 f11=>?_⟩
  obtain⟨m,rfl⟩:∃ j,m=j+1:=⟨m-1,by omega⟩
  have e1:decide ((i:Int)<(ls.length:Int))=false:=decide_eq_false (by omega)
  rw[zI]
  simp only[zDp,zA f0,zA f10,zA f11,pl,zB,zL,e1,zD]
  rfl
 | succ r ih =>
  intro i hi
  have e1:decide ((i:Int)<(ls.length:Int))=true:=decide_eq_true (by omega)
  have e3:wr .i64 ((i:Int)+Int.ofNat 1)=((i+1:Nat):Int):=adI (by omega)
  obtain⟨p,p1,p2⟩:=zLb hr (i:=i) (by omega)
  cases d:begB ls[i] (bs [120,110,45,45])with
  | true =>
   refine⟨false,fun fr Z m k hm f0 f10 f11=>?_⟩
   obtain⟨m,rfl⟩:∃ j,m=j+1:=⟨m-1,by omega⟩
   rw[zI]
   simp only[zDp,zA f0,zA f10,zA f11,pl,zB,zL,e1,zF,p1,p2,hB,d]
   rfl
  | false =>
   obtain⟨ok,h⟩:=ih (i+1) (by omega)
   refine⟨ok,fun fr Z m k hm f0 f10 f11=>?_⟩
   obtain⟨m,rfl⟩:∃ j,m=j+1:=⟨m-1,by omega⟩
   rw[zI]
   simp only[zDp,zA f0,zA f10,zA f11,pl,zB,zL,e1,zF,p1,p2,hB,d,zD,zS .i64,e3]
   exact h _ Z m k (by omega) (by simp[T.get_set]) (by simp[T.get_set]) (by simp[T.get_set])
abbrev EndOk1 (c:zG):Prop:=∀ (s p:Bs),s.length<=9223372036854775807->∀ H Z q,c zK9 [.str s,.str p] H Z q=q (.bool (endsP s p)) H Z
theorem zRe (s:Bs):(lower s).length=s.length:=by simp[lower]
abbrev HostOk (c:zG):Prop:=∀ (s:Bs),s.length<=1000->∀ (sp:Bool) {H:Heap},WF H->∀ Z,∃ (h:Bs) (ok:Bool) (H':Heap) (Z':Tape),h.length<=2000000/\Gr H.size H H'/\∀ q,c zI8 [.str s,.bool sp] H Z q=q (.tup [.str h,.bool ok]) H' Z'
theorem zPz (c:zG){N:Nat}(hN:9223372036854775807<=N)(hBg:zPr c)(hEn:EndOk1 c)(hSx:SixOk c)(hT6:Tx6Ok c)(hBd:BadOk c)(hPc:zSH c)(hUn:UnpOk c)(hLo:zQg c)(hCu:zQC c)(hNb:NumbOk c)(hFo:FourOk c)(hT4:Tx4Ok c)(s:Bs)(hs:s.length<=1000)(sp:Bool){H:Heap}(hw:WF H)(Z:Tape) :
  ∃ (h:Bs) (ok:Bool) (H':Heap) (Z':Tape),h.length<=2000000/\Gr H.size H H'/\∀ q,zAk c N (.str s) (.bool sp) H Z q=q (.tup [.str h,.bool ok]) H' Z':=by
 cases d1:begB s (bs [91])with
 | true =>
  have h1:1<=s.length:=zMv d1
  cases d2:endsP s (bs [93])with
  | false =>
   refine⟨[],false,H,Z,by simp,Gr.refl hw,fun q=>?_⟩
   simp only[zAk,hBg,d1,zF,hEn s _ (by omega),d2,zg,Bool.not_false]
  | true =>
   have h2:2<=s.length:=by
    rcases(by omega:s.length=1∨2<=s.length)with h | h
    ·exfalso
     match s,h with
     | [x],_ =>
      have a:x=91:=by
       have:=List.isPrefixOf_iff_prefix.1 d1
       obtain⟨t,ht⟩:=this
       have:=(List.cons.inj ht).1
       exact this.symm
      subst a
      exact absurd d2 (by decide)
    ·exact h
   have e1:wr .i64 ((s.length:Int)-Int.ofNat 1)=((s.length-1:Nat):Int):=sbI (by omega) (by omega)
   have e2:zR true true [.str s,(.int .i64 (.ofNat 1)),.int .i64 ((s.length-1:Nat):Int)]=some (.str ((s.take (s.length-1)).drop 1)):=zAp (by omega) (by omega)
   obtain⟨ok,l,H1,Z1,h8,g1,k1⟩:=hSx ((s.take (s.length-1)).drop 1) (by rw[List.length_drop,List.length_take];omega) hw Z
   have ex0:zT 0 [.tup [.agg (ws16 l),.bool ok]]=some (.agg (ws16 l)):=rfl
   have ex1:zT 1 [.tup [.agg (ws16 l),.bool ok]]=some (.bool ok):=rfl
   let z:List Nat:=[0,0,0,0,0,0,0,0]
   have a1:zBV (repl 8 [(.int .u16 (.ofNat 0))]) [] H1 Z1=some (.ptr H1.size 0,H1.new (ws16 z) 8 true,Z1):=rfl
   have g2:=Gr.new g1.wf (ws16 z) 8 true
   have b2:Bx (H1.new (ws16 z) 8 true) H1.size (ws16 z):=Bx.new H1 _ 8 true (by decide)
   generalize H1.new (ws16 z) 8 true=H2 at a1 g2 b2
   obtain⟨H3,s1,s2,s3⟩:=b2.eStore g2.wf 0 (.agg (ws16 l)) 8 (by show(ws16 l).length=8;rw[zIz];exact h8.1) (by simp[z,ws16]) (by omega) (zQf l) Z1
   have s2':Bx H3 H1.size (ws16 l):=by
    have e:(ws16 z).take 0++(V.agg (ws16 l)).cells++(ws16 z).drop (0+8)=ws16 l:=by
     rw[List.take_zero,List.nil_append,show(ws16 z).drop (0+8)=[]from rfl,List.append_nil];rfl
    rw[e]at s2;exact s2
   have g12:=g1.trans g2 g1.size
   have g13:Gr H.size H H3:=g12.trans (s3.gr (B:=H.size) g1.size) nl
   cases ok with
   | false =>
    refine⟨[],false,H3,Z1,by simp,g13,fun q=>?_⟩
    simp only[zAk,hBg,d1,zF,hEn s _ (by omega),d2,zg,Bool.not_true,zD,zO,zB,zAA,e1,e2,k1,ex0,ex1,a1,zN,s1,Bool.not_false]
   | true =>
    obtain⟨t,H4,Z4,t1,g4,k4⟩:=hT6 l h8 s3.wf Z1
    have l3:=zMn s2' h8
    have hb1:(bs [91]).length=1:=rfl
    have hb2:(bs [93]).length=1:=rfl
    have c1:zAL .add (bs [91]) t=some (.str (bs [91]++t)):=zD7 (by omega)
    have c2:zAL .add (bs [91]++t) (bs [93])=some (.str (bs [91]++t++bs [93])):=zD7 (by rw[List.length_append];omega)
    refine⟨bs [91]++t++bs [93],true,H4,Z4,by rw[List.length_append,List.length_append];omega,g13.trans g4 g13.size,fun q=>?_⟩
    simp only[zAk,hBg,d1,zF,hEn s _ (by omega),d2,zg,Bool.not_true,zD,zO,zB,zAA,e1,e2,k1,ex0,ex1,a1,zN,s1,l3,k4,zP,c1,c2]
 | false =>
  cases sp with
  | false =>
   obtain⟨ok,h6⟩:=l_hp6 c N hBd s (by omega) H s [] rfl
   cases ok with
   | false =>
    refine⟨[],false,H,Z,by simp,Gr.refl hw,fun q=>?_⟩
    simp only[zAk,hBg,d1,zD,zg,Bool.not_false,zF]
    rw[h6 _ _ _ _ (by omega) (by simp[T.get_set]) (by simp[T.get_set]),if_neg (by decide)]
    rfl
   | true =>
    have pl:=zST 1 s
    have hp:=fun H Z q=>hPc s (by omega) 1 (by omega) (by omega) H Z q
    have hp':∀ H Z q,c zz [.str s,.int .i64 (.ofNat 1)] H Z q=q (.str (pctT 1 s)) H Z:=hp
    refine⟨pctT 1 s,true,H,Z,by omega,Gr.refl hw,fun q=>?_⟩
    simp only[zAk,hBg,d1,zD,zg,Bool.not_false,zF]
    rw[h6 _ _ _ _ (by omega) (by simp[T.get_set]) (by simp[T.get_set]),if_pos rfl]
    simp only[zW,Nat.beq_refl,cond_true,seqK,zMa,zK,↓reduceIte,hp']
  | true =>
   obtain⟨H1,Z1,g1,k1⟩:=hUn s (by omega) hw Z
   have hul:=unpT_len s.length s nl
   have kl:=hLo (unpT s) (by omega)
   have hll:=zRe (unpT s)
   generalize lower (unpT s)=u at kl hll
   obtain⟨ok,h10⟩:=l_hp10 c N hBd u (by omega) H1 u [] rfl
   cases ok with
   | false =>
    refine⟨[],false,H1,Z1,by simp,g1,fun q=>?_⟩
    simp only[zAk,hBg,d1,zD,zg,Bool.not_true,k1,kl]
    rw[h10 _ _ _ _ (by omega) (by simp[T.get_set]) (by simp[T.get_set]),if_neg (by decide)]
    rfl
   | true =>
    obtain⟨v,H2,Z2,o2,g2,k2⟩:=hCu u (by omega) 46 g1.wf Z1
    obtain⟨c1,c2,c3⟩:=zOK 46 u []
    have k2':∀ q,c zA2 [.str u,.int .u8 (.ofNat 46)] H1 Z1 q=q v H2 Z2:=k2
    obtain⟨ok,h9⟩:=l_hp9 c N hBg (.str u) (by omega) (zQT o2) _ 0 (Nat.zero_add _)
    have g12:=g1.trans g2 g1.size
    cases ok with
    | false =>
     refine⟨[],false,H2,Z2,by simp,g12,fun q=>?_⟩
     simp only[zAk,hBg,d1,zD,zg,Bool.not_true,k1,kl]
     rw[h10 _ _ _ _ (by omega) (by simp[T.get_set]) (by simp[T.get_set]),if_pos rfl]
     simp only[zW,Nat.beq_refl,cond_true,seqK,zCs,zK,↓reduceIte,k2']
     rw[h9 _ _ _ _ (by omega) (by simp[T.get_set]) (by simp[T.get_set]) (by simp[T.get_set]),if_neg (by decide)]
     rfl
    | true =>
     by_cases hu:u=[]
     ·refine⟨[],false,H2,Z2,by simp,g12,fun q=>?_⟩
      simp only[zAk,hBg,d1,zD,zg,Bool.not_true,k1,kl]
      rw[h10 _ _ _ _ (by omega) (by simp[T.get_set]) (by simp[T.get_set]),if_pos rfl]
      simp only[zW,Nat.beq_refl,cond_true,seqK,zCs,zK,↓reduceIte,k2']
      rw[h9 _ _ _ _ (by omega) (by simp[T.get_set]) (by simp[T.get_set]) (by simp[T.get_set]),if_pos rfl]
      simp only[zW,Nat.beq_refl,cond_true,seqK,zD2,zK,↓reduceIte,zP,streq,decide_eq_true hu,zB,zF]
     ·obtain⟨b,H3,Z3,g3,k3⟩:=hNb u (by omega) g2.wf Z2
      have g13:=g12.trans g3 g12.size
      cases b with
      | false =>
       refine⟨u,true,H3,Z3,by omega,g13,fun q=>?_⟩
       simp only[zAk,hBg,d1,zD,zg,Bool.not_true,k1,kl]
       rw[h10 _ _ _ _ (by omega) (by simp[T.get_set]) (by simp[T.get_set]),if_pos rfl]
       simp only[zW,Nat.beq_refl,cond_true,seqK,zCs,zK,↓reduceIte,k2']
       rw[h9 _ _ _ _ (by omega) (by simp[T.get_set]) (by simp[T.get_set]) (by simp[T.get_set]),if_pos rfl]
       simp only[zW,Nat.beq_refl,cond_true,seqK,zD2,zK,↓reduceIte,zP,streq,decide_eq_false hu,zB,zD,k3,zg,Bool.not_false,zF]
      | true =>
       obtain⟨n,b,H4,Z4,g4,k4⟩:=hFo u (by omega) g3.wf Z3
       have g14:=g13.trans g4 g13.size
       have ex0:zT 0 [.tup [.int .u32 (n:Int),.bool b]]=some (.int .u32 (n:Int)):=rfl
       have ex1:zT 1 [.tup [.int .u32 (n:Int),.bool b]]=some (.bool b):=rfl
       cases b with
       | false =>
        refine⟨[],false,H4,Z4,by simp,g14,fun q=>?_⟩
        simp only[zAk,hBg,d1,zD,zg,Bool.not_true,k1,kl]
        rw[h10 _ _ _ _ (by omega) (by simp[T.get_set]) (by simp[T.get_set]),if_pos rfl]
        simp only[zW,Nat.beq_refl,cond_true,seqK,zCs,zK,↓reduceIte,k2']
        rw[h9 _ _ _ _ (by omega) (by simp[T.get_set]) (by simp[T.get_set]) (by simp[T.get_set]),if_pos rfl]
        simp only[zW,Nat.beq_refl,cond_true,seqK,zD2,zK,↓reduceIte,zP,streq,decide_eq_false hu,zB,zD,k3,zg,Bool.not_true,k4,ex0,ex1,Bool.not_false,zF]
       | true =>
        obtain⟨t,t1,k5⟩:=hT4 n
        refine⟨t,true,H4,Z4,by omega,g14,fun q=>?_⟩
        simp only[zAk,hBg,d1,zD,zg,Bool.not_true,k1,kl]
        rw[h10 _ _ _ _ (by omega) (by simp[T.get_set]) (by simp[T.get_set]),if_pos rfl]
        simp only[zW,Nat.beq_refl,cond_true,seqK,zCs,zK,↓reduceIte,k2']
        rw[h9 _ _ _ _ (by omega) (by simp[T.get_set]) (by simp[T.get_set]) (by simp[T.get_set]),if_pos rfl]
        simp only[zW,Nat.beq_refl,cond_true,seqK,zD2,zK,↓reduceIte,zP,streq,decide_eq_false hu,zB,zD,k3,zg,Bool.not_true,k4,ex0,ex1,k5]
end Go.Am.X

namespace Go.Am.X
def ownT (s:Bs):Int:=if s=bs [104,116,116,112]∨s=bs [119,115]then 80 else if s=bs [104,116,116,112,115]∨s=bs [119,115,115]then 443 else if s=bs [102,116,112]then 21 else -1
theorem ownT_rng (s:Bs):-1<=ownT s/\ownT s<=65535:=by unfold ownT;split <;>(try split) <;>(try split) <;> omega
abbrev zQK (c:zG):Prop:=∀ (s:Bs) H Z q,c zGd [.str s] H Z q=q (.int .i64 (ownT s)) H Z
theorem zRA (c:zG)(N:Nat)(s:Bs)(H:Heap)(Z:Tape)(q:KV):zEJ c N (.str s) H Z q=q (.int .i64 (ownT s)) H Z:=by
 unfold ownT
 by_cases h1:s=bs [104,116,116,112]
 ·rw[if_pos (.inl h1)]
  simp only[zEJ,zP,streq,decide_eq_true h1,zB,zF,zCK,zK,↓reduceIte,Nat.reduceEqDiff]
  rfl
 ·by_cases h2:s=bs [119,115]
  ·rw[if_pos (.inr h2)]
   simp only[zEJ,zP,streq,decide_eq_false h1,decide_eq_true h2,zB,zF,zD,zCK,zK,↓reduceIte,Nat.reduceEqDiff]
   rfl
  ·rw[if_neg (fun h=>h.elim h1 h2)]
   by_cases h3:s=bs [104,116,116,112,115]
   ·rw[if_pos (.inl h3)]
    simp only[zEJ,zP,streq,decide_eq_false h1,decide_eq_false h2,decide_eq_true h3,zB,zF,zD,zCK,zET,zK,↓reduceIte,Nat.reduceEqDiff]
    rfl
   ·by_cases h4:s=bs [119,115,115]
    ·rw[if_pos (.inr h4)]
     simp only[zEJ,zP,streq,decide_eq_false h1,decide_eq_false h2,decide_eq_false h3,decide_eq_true h4,zB,zF,zD,zCK,zET,zK,↓reduceIte,Nat.reduceEqDiff]
     rfl
    ·rw[if_neg (fun h=>h.elim h3 h4)]
     by_cases h5:s=bs [102,116,112]
     ·rw[if_pos h5]
      simp only[zEJ,zP,streq,decide_eq_false h1,decide_eq_false h2,decide_eq_false h3,decide_eq_false h4,decide_eq_true h5,zB,zF,zD,zCK,zET,zK,↓reduceIte,Nat.reduceEqDiff]
      rfl
     ·rw[if_neg h5]
      simp only[zEJ,zP,streq,decide_eq_false h1,decide_eq_false h2,decide_eq_false h3,decide_eq_false h4,decide_eq_false h5,zB,zF,zD,zCK,zET,zOQ,zK,↓reduceIte,Nat.reduceEqDiff]
      rfl
def speT (s:Bs):Bool:=decide (0<=ownT s)
abbrev zRP (c:zG):Prop:=∀ (s:Bs) H Z q,c zBg [.str s] H Z q=q (.bool (speT s)) H Z
theorem zOh (c:zG)(N:Nat)(hO:zQK c)(s:Bs)(H:Heap)(Z:Tape)(q:KV):zGt c N (.str s) H Z q=q (.bool (speT s)) H Z:=by
 simp only[zGt,hO,zi]
 rfl
def lo32 (x:UInt8):Bool:=decide (x.toNat<=32)
theorem l_clean6 (c:zG)(N:Nat)(H:Heap):∀ (s:Bs) (fr:T V) (Z:Tape) (m:Nat) k,s.length<=1000000->s.length<m->fr.get 0=some (.str s)->zq (zD1 c N) m ⟨fr,H⟩ Z k=k (.exit 0) ⟨(T.s .leaf 0 (.str (s.dropWhile lo32))),H⟩ Z:=by
 intro s
 induction s with
 | nil =>
  intro fr Z m k hs hm f0
  obtain⟨m,rfl⟩:∃ j,m=j+1:=⟨m-1,by omega⟩
  rw[zI]
  have e1:decide (Int.ofNat 0<((([]:Bs).length:Nat):Int))=false:=rfl
  simp only[zD1,zA f0,zO,zB,zY,e1,ze,zX,zJ,cond_false,zD]
  rfl
 | cons x s ih =>
  intro fr Z m k hs hm f0
  obtain⟨m,rfl⟩:∃ j,m=j+1:=⟨m-1,by omega⟩
  have e1:decide (Int.ofNat 0<(((x::s).length:Nat):Int))=true:=decide_eq_true (by have:Int.ofNat 0=0:=rfl;simp only[List.length_cons];omega)
  have e2:zM [.str (x::s),(.int .i64 (.ofNat 0))]=some (.int .u8 (x.toNat:Int)):=zk (i:=0) rfl
  have e3:decide ((x.toNat:Int)<=Int.ofNat 32)=lo32 x:=by unfold lo32;rw[Bool.eq_iff_iff,decide_eq_true_eq,decide_eq_true_eq];have:Int.ofNat 32=32:=rfl;omega
  have e4:zR true false [.str (x::s),(.int .i64 (.ofNat 1))]=some (.str s):=zAt (i:=1) (by simp)
  rw[zI]
  cases d:lo32 x with
  | true =>
   rw[d]at e3
   simp only[zD1,zA f0,zO,zB,zY,e1,zAB,retK,zN,e2,zAY,e3,zJ,cond_true,zF,e4]
   rw[List.dropWhile_cons_of_pos d]
   exact ih _ Z m k (by simp at hs;omega) (by simp at hm;omega) (by simp[T.get_set])
  | false =>
   rw[d]at e3
   simp only[zD1,zA f0,zO,zB,zY,e1,zAB,retK,zN,e2,zAY,e3,zJ,cond_true,zD]
   rw[List.dropWhile_cons_of_neg (by simp[d])]
   rfl
def zQ4 (s:Bs):Bs:=(s.reverse.dropWhile lo32).reverse
theorem cutR_snoc (s:Bs)(x:UInt8):zQ4 (s++[x])=if lo32 x=true then zQ4 s else s++[x]:=by
 unfold zQ4
 rw[List.reverse_append,List.reverse_singleton,List.singleton_append]
 cases d:lo32 x with
 | true=>rw[List.dropWhile_cons_of_pos d,if_pos rfl]
 | false=>rw[List.dropWhile_cons_of_neg (by simp[d]),if_neg (by decide)];simp
theorem l_clean5 (c:zG)(N:Nat)(H:Heap):∀ (n:Nat) (s:Bs) (fr:T V) (Z:Tape) (m:Nat) k,s.length=n->n<=1000000->n<m->fr.get 0=some (.str s)->zq (zD3 c N) m ⟨fr,H⟩ Z k=k (.exit 2) ⟨(T.s .leaf 0 (.str (zQ4 s))),H⟩ Z:=by
 intro n
 induction n with
 | zero =>
  intro s fr Z m k hn hs hm f0
  obtain rfl:=List.length_eq_zero_iff.1 hn
  obtain⟨m,rfl⟩:∃ j,m=j+1:=⟨m-1,by omega⟩
  have e1:decide (Int.ofNat 0<((([]:Bs).length:Nat):Int))=false:=rfl
  rw[zI]
  simp only[zD3,zA f0,zO,zB,zY,e1,ze,zX,zJ,cond_false,zD]
  rfl
 | succ n ih =>
  intro s fr Z m k hn hs hm f0
  obtain⟨m,rfl⟩:∃ j,m=j+1:=⟨m-1,by omega⟩
  obtain⟨t,x,rfl⟩:∃ t x,s=t++[x]:=by
   have hne:s≠[]:=fun h=>by rw[h]at hn;simp at hn
   exact⟨s.dropLast,s.getLast hne,(List.dropLast_concat_getLast hne).symm⟩
  have hl:(t++[x]).length=t.length+1:=by simp
  have e1:decide (Int.ofNat 0<(((t++[x]).length:Nat):Int))=true:=decide_eq_true (by have:Int.ofNat 0=0:=rfl;omega)
  have e5:wr .i64 (((t++[x]).length:Int)-Int.ofNat 1)=(t.length:Int):=by rw[sbI (by omega) (by omega)];simp
  have e2:zM [.str (t++[x]),.int .i64 (t.length:Int)]=some (.int .u8 (x.toNat:Int)):=zk (by simp)
  have e3:decide ((x.toNat:Int)<=Int.ofNat 32)=lo32 x:=by unfold lo32;rw[Bool.eq_iff_iff,decide_eq_true_eq,decide_eq_true_eq];have:Int.ofNat 32=32:=rfl;omega
  have e4:zR false true [.str (t++[x]),.int .i64 (t.length:Int)]=some (.str t):=by rw[zDB (by simp)];simp
  rw[zI,cutR_snoc]
  cases d:lo32 x with
  | true =>
   rw[d]at e3
   simp only[zD3,zA f0,zO,zB,zY,e1,zAB,retK,zN,zAA,e5,e2,zAY,e3,zJ,cond_true,zF,e4,if_true]
   exact ih t _ Z m k (by omega) (by omega) (by omega) (by simp[T.get_set])
  | false =>
   rw[d]at e3
   simp only[zD3,zA f0,zO,zB,zY,e1,zAB,retK,zN,zAA,e5,e2,zAY,e3,zJ,cond_true,zD]
   rfl
def keptC (x:UInt8):Bool:=!decide (x.toNat=9) && !decide (x.toNat=10) && !decide (x.toNat=13)
theorem l_clean3 (c:zG)(N:Nat)(s:Bs)(hs:s.length<=1000000)(H:Heap):∀ (l pre out:Bs) (fr:T V) (Z:Tape) (m:Nat) k,s=pre++l->l.length<m->out.length<=pre.length->fr.get 0=some (.str s)->fr.get 3=some (.str out)->fr.get 4=some (.int .i64 (pre.length:Int)) ->
  zq (zBH c N) m ⟨fr,H⟩ Z k=k (.exit 4) ⟨(T.s .leaf 3 (.str (out++l.filter keptC))),H⟩ Z:=by
 intro l
 induction l with
 | nil =>
  intro pre out fr Z m k he hm ho f0 f3 f4
  obtain⟨m,rfl⟩:∃ j,m=j+1:=⟨m-1,by omega⟩
  have e1:decide ((pre.length:Int)<(s.length:Int))=false:=decide_eq_false (by rw[he];simp)
  rw[zI]
  simp only[zBH,zA f0,zA f3,zA f4,zO,zB,zL,e1,zD,List.filter_nil,List.append_nil]
  rfl
 | cons y l ih =>
  intro pre out fr Z m k he hm ho f0 f3 f4
  obtain⟨m,rfl⟩:∃ j,m=j+1:=⟨m-1,by omega⟩
  have hl:pre.length<s.length:=by rw[he];simp
  have e1:decide ((pre.length:Int)<(s.length:Int))=true:=decide_eq_true (by omega)
  have e2:zM [.str s,.int .i64 (pre.length:Int)]=some (.int .u8 (y.toNat:Int)):=zk (by rw[he];simp)
  have e3:wr .i64 ((pre.length:Int)+Int.ofNat 1)=((pre++[y]).length:Int):=by rw[adI (by omega)];simp
  have lp:(pre++[y]).length=pre.length+1:=by simp
  have ne:∀ k:Nat,((y.toNat:Int) != Int.ofNat k)=!decide (y.toNat=k):=fun k=>by rw[Bool.eq_iff_iff];simp;omega
  have hcut:zR true true [.str s,.int .i64 (pre.length:Int),.int .i64 ((pre++[y]).length:Int)]=some (.str [y]):=by
   rw[zAp (by simp) (by rw[he];simp)]
   congr 2
   rw[he,List.length_append,show pre++y::l=(pre++[y])++l by simp,List.take_left' (by simp)]
   simp
  have ea:zAL .add out [y]=some (.str (out++[y])):=zD7 (by simp;omega)
  have skip:∀ (fr':T V),fr'.get 0=some (.str s)->fr'.get 3=some (.str out)->fr'.get 4=some (.int .i64 (pre.length:Int)) ->
    zD5 c N (seqK (fun st Z=>zq (zBH c N) m st Z k) k) ⟨fr',H⟩ Z=k (.exit 4) ⟨(T.s .leaf 3 (.str (out++l.filter keptC))),H⟩ Z:=fun fr' g0 g3 g4=>by
   simp only[zD5,zA g0,zA g3,zA g4,zS .i64,e3,seqK]
   exact ih (pre++[y]) out _ Z m k (by rw[he];simp) (by simp at hm;omega) (by omega) (by simp[T.get_set]) (by simp[T.get_set]) (by simp[T.get_set])
  rw[zI]
  cases d1:decide (y.toNat=9)with
  | true =>
   rw[List.filter_cons_of_neg (by unfold keptC;rw[d1];simp)]
   simp only[zBH,zA f0,zA f3,zA f4,zO,zB,zL,e1,zF,e2,zAM,ne,d1,Bool.not_true,ze,zX,zJ,cond_false,zD]
   exact skip _ (by simp[T.get_set]) (by simp[T.get_set]) (by simp[T.get_set])
  | false =>
   cases d2:decide (y.toNat=10)with
   | true =>
    rw[List.filter_cons_of_neg (by unfold keptC;rw[d1,d2];simp)]
    simp only[zBH,zA f0,zA f3,zA f4,zO,zB,zL,e1,zF,e2,zAM,ne,d1,d2,Bool.not_false,Bool.not_true,zAB,retK,zN,ze,zX,zJ,cond_true,cond_false,zD]
    exact skip _ (by simp[T.get_set]) (by simp[T.get_set]) (by simp[T.get_set])
   | false =>
    cases d3:decide (y.toNat=13)with
    | true =>
     rw[List.filter_cons_of_neg (by unfold keptC;rw[d1,d2,d3];simp)]
     simp only[zBH,zA f0,zA f3,zA f4,zO,zB,zL,e1,zF,e2,zAM,ne,d1,d2,d3,Bool.not_false,Bool.not_true,zAB,retK,zN,zJ,cond_true,zD]
     exact skip _ (by simp[T.get_set]) (by simp[T.get_set]) (by simp[T.get_set])
    | false =>
     rw[List.filter_cons_of_pos (by unfold keptC;rw[d1,d2,d3];rfl)]
     simp only[zBH,zA f0,zA f3,zA f4,zO,zB,zL,e1,zF,e2,zAM,ne,d1,d2,d3,Bool.not_false,zAB,retK,zN,zJ,cond_true,zS .i64,e3,hcut,zP,ea,zD5,zK,↓reduceIte,Nat.reduceEqDiff,seqK]
     rw[ih (pre++[y]) (out++[y]) _ Z m k (by rw[he];simp) (by simp at hm;omega) (by simp;omega) (by simp[T.get_set]) (by simp[T.get_set]) (by simp[T.get_set]),List.append_assoc]
     rfl
def zFG (s:Bs):Bs:=(zQ4 (s.dropWhile lo32)).filter keptC
theorem zHn (p:UInt8->Bool)(s:Bs):(s.dropWhile p).length<=s.length:=(List.dropWhile_sublist p).length_le
theorem cutR_len (s:Bs):(zQ4 s).length<=s.length:=by unfold zQ4;rw[List.length_reverse];have:=zHn lo32 s.reverse;rwa [List.length_reverse]at this
theorem cleanT_len (s:Bs):(zFG s).length<=s.length:=by
 unfold zFG
 have h1:=List.length_filter_le keptC (zQ4 (s.dropWhile lo32))
 have h2:=cutR_len (s.dropWhile lo32)
 have h3:=zHn lo32 s
 omega
abbrev CleanOk (c:zG):Prop:=∀ (s:Bs),s.length<=1000000->∀ H Z q,c zJH [.str s] H Z q=q (.str (zFG s)) H Z
theorem zP2 (c:zG){N:Nat}(hN:9223372036854775807<=N)(s:Bs)(hs:s.length<=1000000)(H:Heap)(Z:Tape)(q:KV):zIt c N (.str s) H Z q=q (.str (zFG s)) H Z:=by
 have h3:=zHn lo32 s
 have h2:=cutR_len (s.dropWhile lo32)
 simp only[zIt]
 rw[l_clean6 c N H s _ Z N _ hs (by omega) (by simp[T.get_set])]
 simp only[zW,Nat.beq_refl,cond_true,seqK,zMq,zK,↓reduceIte]
 rw[l_clean5 c N H _ (s.dropWhile lo32) _ Z N _ rfl (by omega) (by omega) (by simp[T.get_set])]
 simp only[zW,Nat.beq_refl,cond_true,seqK,zL5,zK,↓reduceIte]
 rw[l_clean3 c N (zQ4 (s.dropWhile lo32)) (by omega) H (zQ4 (s.dropWhile lo32)) [] [] _ Z N _ rfl (by omega) (by simp) (by simp[T.get_set]) (by simp[T.get_set]) (by simp[T.get_set])]
 simp only[zW,Nat.beq_refl,cond_true,seqK,zMD,zK,↓reduceIte,List.nil_append]
 rfl
def ahdT (a b:Nat):Bs->Bs->Bs × Bs
 | pre,[]=>(pre,[])
 | pre,x::l=>if x.toNat=a∨x.toNat=b then(pre,x::l)else ahdT a b (pre++[x]) l
theorem zSO (a b:Nat):∀ (l pre:Bs),(ahdT a b pre l).1.length<=pre.length+l.length/\(ahdT a b pre l).2.length<=l.length:=by
 intro l
 induction l with
 | nil=>intro pre;simp[ahdT]
 | cons x l ih =>
  intro pre
  rw[ahdT]
  split
  ·simp
  ·obtain⟨h1,h2⟩:=ih (pre++[x])
   rw[List.length_append,List.length_singleton]at h1
   rw[List.length_cons]
   omega
theorem l_ahead (c:zG)(N:Nat)(a b:Nat)(s:Bs)(hs:s.length<=1000000)(H:Heap):∀ (l pre:Bs) (fr:T V) (Z:Tape) (m:Nat) k,s=pre++l->l.length<m->fr.get 0=some (.str s)->fr.get 1=some (.int .u8 (a:Int))->fr.get 2=some (.int .u8 (b:Int))->fr.get 8=some (.int .i64 (pre.length:Int)) ->
  zq (zCr c N) m ⟨fr,H⟩ Z (zW 0 (seqK (zIl c N k) (endK [(.t 6),(.t 7)] k)))=k (.tup [.str (ahdT a b pre l).1,.str (ahdT a b pre l).2]) H Z:=by
 intro l
 induction l with
 | nil =>
  intro pre fr Z m k he hm f0 f1 f2 f8
  obtain⟨m,rfl⟩:∃ j,m=j+1:=⟨m-1,by omega⟩
  rw[List.append_nil]at he
  subst he
  have e1:decide ((s.length:Int)<(s.length:Int))=false:=decide_eq_false (by omega)
  rw[zI]
  simp only[zCr,zA f0,zA f1,zA f2,zA f8,zO,zB,zL,e1,zD,ahdT,seqK,zW,Nat.beq_refl,cond_true,zIl,zK,↓reduceIte]
 | cons x l ih =>
  intro pre fr Z m k he hm f0 f1 f2 f8
  obtain⟨m,rfl⟩:∃ j,m=j+1:=⟨m-1,by omega⟩
  have hl:pre.length<s.length:=by rw[he];simp
  have e1:decide ((pre.length:Int)<(s.length:Int))=true:=decide_eq_true (by omega)
  have e2:zM [.str s,.int .i64 (pre.length:Int)]=some (.int .u8 (x.toNat:Int)):=zk (by rw[he];simp)
  have e3:wr .i64 ((pre.length:Int)+Int.ofNat 1)=((pre++[x]).length:Int):=by rw[adI (by omega)];simp
  have eq:∀ k:Nat,((x.toNat:Int) ==(k:Int))=decide (x.toNat=k):=fun k=>by rw[Bool.eq_iff_iff];simp;omega
  have s1:zR false true [.str s,.int .i64 (pre.length:Int)]=some (.str pre):=by rw[zDB (by omega),he,List.take_left]
  have s2:zR true false [.str s,.int .i64 (pre.length:Int)]=some (.str (x::l)):=by rw[zAt (by omega),he,List.drop_left]
  rw[zI,ahdT]
  cases d1:decide (x.toNat=a)with
  | true =>
   rw[if_pos (.inl (of_decide_eq_true d1))]
   simp only[zCr,zA f0,zA f1,zA f2,zA f8,zO,zB,zL,e1,zF,e2,zU,eq,d1,zh,zX,zJ,cond_true,s1,s2]
   rfl
  | false =>
   cases d2:decide (x.toNat=b)with
   | true =>
    rw[if_pos (.inr (of_decide_eq_true d2))]
    simp only[zCr,zA f0,zA f1,zA f2,zA f8,zO,zB,zL,e1,zF,e2,zU,eq,d1,zu,retK,zN,d2,zJ,cond_false,s1,s2]
    rfl
   | false =>
    rw[if_neg (fun h=>h.elim (of_decide_eq_false d1) (of_decide_eq_false d2))]
    simp only[zCr,zA f0,zA f1,zA f2,zA f8,zO,zB,zL,e1,zF,e2,zU,eq,d1,zu,retK,zN,d2,zJ,cond_false,zD,zS .i64,e3]
    exact ih (pre++[x]) _ Z m k (by rw[he];simp) (by simp at hm;omega) (by simp[T.get_set]) (by simp[T.get_set]) (by simp[T.get_set]) (by simp[T.get_set])
abbrev AhdOk (c:zG):Prop:=∀ (s:Bs),s.length<=1000000->∀ (a b:Nat) H Z q,c zCW [.str s,.int .u8 (a:Int),.int .u8 (b:Int)] H Z q=q (.tup [.str (ahdT a b [] s).1,.str (ahdT a b [] s).2]) H Z
theorem zPw (c:zG){N:Nat}(hN:9223372036854775807<=N)(s:Bs)(hs:s.length<=1000000)(a b:Nat)(H:Heap)(Z:Tape)(q:KV):zIw c N (.str s) (.int .u8 (a:Int)) (.int .u8 (b:Int)) H Z q=q (.tup [.str (ahdT a b [] s).1,.str (ahdT a b [] s).2]) H Z:=by
 simp only[zIw]
 exact l_ahead c N a b s hs H s [] _ Z N q rfl (by omega) (by simp[T.get_set]) (by simp[T.get_set]) (by simp[T.get_set]) (by simp[T.get_set])
def isSl (x:UInt8):Bool:=decide (x.toNat=47)
theorem l_over (c:zG)(N:Nat)(H:Heap):∀ (s:Bs) (fr:T V) (Z:Tape) (m:Nat) k,s.length<=1000000->s.length<m->fr.get 0=some (.str s)->zq (zEv c N) m ⟨fr,H⟩ Z k=k (.exit 0) ⟨(T.s .leaf 0 (.str (s.dropWhile isSl))),H⟩ Z:=by
 intro s
 induction s with
 | nil =>
  intro fr Z m k hs hm f0
  obtain⟨m,rfl⟩:∃ j,m=j+1:=⟨m-1,by omega⟩
  rw[zI]
  have e1:decide (Int.ofNat 0<((([]:Bs).length:Nat):Int))=false:=rfl
  simp only[zEv,zA f0,zO,zB,zY,e1,ze,zX,zJ,cond_false,zD]
  rfl
 | cons x s ih =>
  intro fr Z m k hs hm f0
  obtain⟨m,rfl⟩:∃ j,m=j+1:=⟨m-1,by omega⟩
  have e1:decide (Int.ofNat 0<(((x::s).length:Nat):Int))=true:=decide_eq_true (by have:Int.ofNat 0=0:=rfl;simp only[List.length_cons];omega)
  have e2:zM [.str (x::s),(.int .i64 (.ofNat 0))]=some (.int .u8 (x.toNat:Int)):=zk (i:=0) rfl
  have e3:((x.toNat:Int) == Int.ofNat 47)=isSl x:=by unfold isSl;rw[Bool.eq_iff_iff,decide_eq_true_eq,beq_iff_eq];have:Int.ofNat 47=47:=rfl;omega
  have e4:zR true false [.str (x::s),(.int .i64 (.ofNat 1))]=some (.str s):=zAt (i:=1) (by simp)
  rw[zI]
  cases d:isSl x with
  | true =>
   rw[d]at e3
   simp only[zEv,zA f0,zO,zB,zY,e1,zAB,retK,zN,e2,zU,e3,zJ,cond_true,zF,e4]
   rw[List.dropWhile_cons_of_pos d]
   exact ih _ Z m k (by simp at hs;omega) (by simp at hm;omega) (by simp[T.get_set])
  | false =>
   rw[d]at e3
   simp only[zEv,zA f0,zO,zB,zY,e1,zAB,retK,zN,e2,zU,e3,zJ,cond_true,zD]
   rw[List.dropWhile_cons_of_neg (by simp[d])]
   rfl
abbrev OverOk (c:zG):Prop:=∀ (s:Bs),s.length<=1000000->∀ H Z q,c zKo [.str s] H Z q=q (.str (s.dropWhile isSl)) H Z
theorem zQw (c:zG){N:Nat}(hN:9223372036854775807<=N)(s:Bs)(hs:s.length<=1000000)(H:Heap)(Z:Tape)(q:KV):zK3 c N (.str s) H Z q=q (.str (s.dropWhile isSl)) H Z:=by
 simp only[zK3]
 rw[l_over c N H s _ Z N _ hs (by omega) (by simp[T.get_set])]
 simp only[zW,Nat.beq_refl,cond_true,seqK,zNO,zK,↓reduceIte]
end Go.Am.X

