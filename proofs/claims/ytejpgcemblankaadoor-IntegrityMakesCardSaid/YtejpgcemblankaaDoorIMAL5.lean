/- The abstract machine, printed functions of the program, and what they are shown to be. -/
import Derived.Test.YtejpgcemblankaaDoorIMAL4
import Derived.Test.YtejpgcemblankaaDoorIMAM4
set_option linter.unusedSimpArgs false
set_option linter.unusedVariables false
namespace Go.Am.X
abbrev Mix29 (c:zD)(C:List Nat):Prop:=∀ (S K:Nat) (v:V) (bs st:List Nat),K≠S->bs.length<100000->128<=bs.length->Roomy v->st.length=8->∀ H,WF H->Bx H K (ws .i64 zBI)->Bx H S (ws .u64 st)->zGR S H.size H 6 (ws .u64 C)->RdS S H.size 1 H v bs.length (ws .u8 bs)->∀ Z,
 ∃ H',Bx H' S (ws .u64 (zS4 C bs st))/\Gx S H.size H H'/\∀ q,c zB5 [.ptr K 0,.ptr S 0,v] H Z q=q (.tup []) H' Z
def zEy (C:List Nat)(bs:List Nat):Nat->Nat->List Nat->List Nat
 | 0,_,st=>st
 | n+1,i,st=>zEy C bs n (i+128) (zS4 C (bs.drop i) st)
theorem zRT (C bs st:List Nat)(h:st.length=8):(zS4 C bs st).length=8:=by unfold zS4;rw[zSW,h]
theorem zKw (C bs:List Nat):∀ n i st,st.length=8->(zEy C bs n i st).length=8:=by
 intro n;induction n with
 | zero=>intro i st h;exact h
 | succ n ih=>intro i st h;exact ih _ _ (zRT _ _ _ h)
theorem fa0 (i o:Nat):zH o [.ptr i 0]=some (.ptr i o):=by simp[zH]
theorem lk64 {H:Heap}{K:Nat}(h:Bx H K (ws .i64 zBI)){i:Nat}(hi:i<17):zF [.ptr K i] H=some (.int .i64 ((zBI.getD i 0:Nat):Int)):=zAN h (by simpa [zBI] using hi)
theorem l13_64 (c:zD)(N:Nat)(S K B L:Nat)(hKS:K≠S)(v:V)(bs C:List Nat)(hlen:bs.length<90000)(hL:L<=bs.length)(hR:Roomy v)(h29:Mix29 c C) :
  ∀ (n i:Nat) (st:List Nat) (H:Heap) (fr:T V) (Z:Tape) (m:Nat),i+n*128=L->n<m->st.length=8->WF H->B<=H.size->Bx H K (ws .i64 zBI)->Bx H S (ws .u64 st)->zGR S B H 6 (ws .u64 C)->RdS S B 1 H v bs.length (ws .u8 bs) ->
  fr.get 2=some v->fr.get 3=some (.ptr K 0)->fr.get 4=some (.ptr S 0)->fr.get 7=some (.int .i64 (L:Int))->fr.get 8=some (.int .i64 (i:Int)) ->
  ∃ H',Bx H' S (ws .u64 (zEy C bs n i st))/\Gx S H.size H H'/\∀ k,zW (zCH c N) m ⟨fr,H⟩ Z k=k (.exit 0) ⟨(T.s (T.s (T.s (T.s .leaf 2 v) 3 (.ptr K 0)) 4 (.ptr S 0)) 7 (.int .i64 (L:Int))),H'⟩ Z:=by
 intro n
 induction n with
 | zero =>
  intro i st H fr Z m ht hm hst hw hB hK hS hC hRd f2 f3 f4 f7 f8
  obtain⟨m,rfl⟩:∃ j,m=j+1:=⟨m-1,by omega⟩
  refine⟨H,hS,Gx.refl hw,fun k=>?_⟩
  have e1:decide ((i:Int)<(L:Int))=false:=decide_eq_false (by omega)
  rw[zC]
  simp only[zCH,zA f2,zA f3,zA f4,zA f7,zA f8,zI,e1,zq]
  rfl
 | succ n ih =>
  intro i st H fr Z m ht hm hst hw hB hK hS hC hRd f2 f3 f4 f7 f8
  obtain⟨m,rfl⟩:∃ j,m=j+1:=⟨m-1,by omega⟩
  have e1:decide ((i:Int)<(L:Int))=true:=decide_eq_true (by omega)
  obtain⟨v',c1,c2,_,c3⟩:=(hRd.rd hw).from hR (l:=i) (by omega)
  have hw8:(ws .u8 bs).drop (i*1)=ws .u8 (bs.drop i):=by simp[ws,List.map_drop]
  have c4:RdS S B 1 H v' (bs.drop i).length (ws .u8 (bs.drop i)):=fun H' hg=>by
   have:=c3 H' _ (hRd H' hg)
   rw[hw8]at this
   simpa using this
  obtain⟨H1,b1,g1,k1⟩:=h29 S K v' (bs.drop i) st hKS (by simp;omega) (by simp;omega) c2 hst H hw hK hS (fun H' hg=>hC H' (hg.weaken hB)) (fun H' hg=>c4 H' (hg.weaken hB)) Z
  have K1:=hK.gx g1 (hK.lt hw) hKS
  have e4:wr .i64 ((i:Int)+((128:Nat):Int))=((i+128:Nat):Int):=by rw[zAZ (by omega) (by omega)];simp
  obtain⟨H',r1,r2,r3⟩:=ih (i+128) (zS4 C (bs.drop i) st) H1 (Z:=Z) (m:=m) (by omega) (by omega) (zRT _ _ _ hst) g1.wf (Nat.le_trans hB g1.size) K1 b1 (hC.gx (g1.weaken hB)) (hRd.gx (g1.weaken hB))
   (fr:=(T.s (T.s (T.s (T.s (T.s (T.s (T.s (T.s (T.s (T.s .leaf 2 v) 3 (.ptr K 0)) 4 (.ptr S 0)) 7 (.int .i64 (L:Int))) 8 (.int .i64 (i:Int))) 28 (.int .i64 (i:Int))) 29 (.ptr K 14)) 30 (.int .i64 ((128:Nat):Int))) 31 (.int .i64 ((i+128:Nat):Int))) 8 (.int .i64 ((i+128:Nat):Int))))
   (by rfl) (by rfl) (by rfl) (by rfl) (by rfl)
  refine⟨H',r1,g1.trans r2 g1.size,fun k=>?_⟩
  rw[zC]
  have l14:=lk64 K1 (i:=14) (by omega)
  simp only[zBI,List.getD_cons_succ,List.getD_cons_zero]at l14
  simp only[zCH,zA f2,zA f3,zA f4,zA f7,zA f8,zI,e1,zn,c1,zN,k1,fa0,l14,zQ,e4]
  exact r3 k
theorem l8_64 (c:zD)(N:Nat)(S K B:Nat)(hKS:K≠S)(v:V)(bs C:List Nat)(hlen:bs.length<90000)(hR:Roomy v)(h29:Mix29 c C) :
  ∀ (n i:Nat) (st:List Nat) (H:Heap) (fr:T V) (Z:Tape) (m:Nat),i+n*128=bs.length->n<m->st.length=8->WF H->B<=H.size->Bx H K (ws .i64 zBI)->Bx H S (ws .u64 st)->zGR S B H 6 (ws .u64 C)->RdS S B 1 H v bs.length (ws .u8 bs) ->
  fr.get 3=some (.ptr K 0)->fr.get 4=some (.ptr S 0)->fr.get 9=some v->fr.get 12=some (.int .i64 (i:Int)) ->
  ∃ H',Bx H' S (ws .u64 (zEy C bs n i st))/\Gx S H.size H H'/\∀ k,zW (zCr c N) m ⟨fr,H⟩ Z k=k (.exit 6) ⟨(T.s (T.s .leaf 3 (.ptr K 0)) 4 (.ptr S 0)),H'⟩ Z:=by
 intro n
 induction n with
 | zero =>
  intro i st H fr Z m ht hm hst hw hB hK hS hC hRd f3 f4 f9 f12
  obtain⟨m,rfl⟩:∃ j,m=j+1:=⟨m-1,by omega⟩
  refine⟨H,hS,Gx.refl hw,fun k=>?_⟩
  have e1:decide ((i:Int)<(bs.length:Int))=false:=decide_eq_false (by omega)
  rw[zC]
  simp only[zCr,zA f3,zA f4,zA f9,zA f12,(hRd.rd hw).pLen,zN,zI,e1,zq]
  rfl
 | succ n ih =>
  intro i st H fr Z m ht hm hst hw hB hK hS hC hRd f3 f4 f9 f12
  obtain⟨m,rfl⟩:∃ j,m=j+1:=⟨m-1,by omega⟩
  have e1:decide ((i:Int)<(bs.length:Int))=true:=decide_eq_true (by omega)
  obtain⟨v',c1,c2,_,c3⟩:=(hRd.rd hw).from hR (l:=i) (by omega)
  have hw8:(ws .u8 bs).drop (i*1)=ws .u8 (bs.drop i):=by simp[ws,List.map_drop]
  have c4:RdS S B 1 H v' (bs.drop i).length (ws .u8 (bs.drop i)):=fun H' hg=>by
   have:=c3 H' _ (hRd H' hg)
   rw[hw8]at this
   simpa using this
  obtain⟨H1,b1,g1,k1⟩:=h29 S K v' (bs.drop i) st hKS (by simp;omega) (by simp;omega) c2 hst H hw hK hS (fun H' hg=>hC H' (hg.weaken hB)) (fun H' hg=>c4 H' (hg.weaken hB)) Z
  have K1:=hK.gx g1 (hK.lt hw) hKS
  have e4:wr .i64 ((i:Int)+((128:Nat):Int))=((i+128:Nat):Int):=by rw[zAZ (by omega) (by omega)];simp
  obtain⟨H',r1,r2,r3⟩:=ih (i+128) (zS4 C (bs.drop i) st) H1 (Z:=Z) (m:=m) (by omega) (by omega) (zRT _ _ _ hst) g1.wf (Nat.le_trans hB g1.size) K1 b1 (hC.gx (g1.weaken hB)) (hRd.gx (g1.weaken hB))
   (fr:=(T.s (T.s (T.s (T.s (T.s (T.s (T.s (T.s (T.s .leaf 3 (.ptr K 0)) 4 (.ptr S 0)) 9 v) 12 (.int .i64 (i:Int))) 80 (.int .i64 (i:Int))) 81 (.ptr K 14)) 82 (.int .i64 ((128:Nat):Int))) 83 (.int .i64 ((i+128:Nat):Int))) 12 (.int .i64 ((i+128:Nat):Int))))
   (by rfl) (by rfl) (by rfl) (by rfl)
  refine⟨H',r1,g1.trans r2 g1.size,fun k=>?_⟩
  rw[zC]
  have l14:=lk64 K1 (i:=14) (by omega)
  simp only[zBI,List.getD_cons_succ,List.getD_cons_zero]at l14
  simp only[zCr,zA f3,zA f4,zA f9,zA f12,(hRd.rd hw).pLen,zI,e1,zn,c1,zN,k1,fa0,l14,zQ,e4]
  exact r3 k
end Go.Am.X

namespace Go.Am.X
theorem zIz (k:IntKind)(l:List Nat)(n:Nat):ws k l++[V.int k (n:Int)]=ws k (l++[n]):=by simp[ws]
theorem l12_64 (c:zD)(N:Nat)(S K B:Nat)(hKB:K<B)(v:V) :
  ∀ (n:Nat) (tl:List Nat) (t:V) (H:Heap) (fr:T V) (Z:Tape) (m:Nat),(tl.length+16+n) % 128=0->n<128->tl.length+n<100000->n<m->WF H->B<=H.size->Own H B 1 t tl.length (ws .u8 tl)->Bx H K (ws .i64 zBI) ->
  fr.get 2=some v->fr.get 3=some (.ptr K 0)->fr.get 4=some (.ptr S 0)->fr.get 9=some t ->
  ∃ t' H' Z',Own H' B 1 t' (tl++List.replicate n 0).length (ws .u8 (tl++List.replicate n 0))/\Gr B H H'/\∀ k,zW (zCP c N) m ⟨fr,H⟩ Z k=k (.exit 2) ⟨(T.s (T.s (T.s (T.s .leaf 2 v) 3 (.ptr K 0)) 4 (.ptr S 0)) 9 t'),H'⟩ Z':=by
 intro n
 induction n with
 | zero =>
  intro tl t H fr Z m ht hn hlen hm hw hB hO hK f2 f3 f4 f9
  obtain⟨m,rfl⟩:∃ j,m=j+1:=⟨m-1,by omega⟩
  refine⟨t,H,Z,by simpa using hO,Gr.refl hw,fun k=>?_⟩
  have l15:=lk64 hK (i:=15) (by omega)
  have l14:=lk64 hK (i:=14) (by omega)
  simp only[zBI,List.getD_cons_succ,List.getD_cons_zero]at l14 l15
  have e4:wr .i64 ((tl.length:Int)+((16:Nat):Int))=((tl.length+16:Nat):Int):=by rw[zAZ (by omega) (by omega)];simp
  have e5:((tl.length+16:Nat):Int).tmod ((128:Nat):Int)=0:=by
   rw[<- Int.ofNat_tmod];rw[show(tl.length+16) % 128=0 by omega];rfl
  have e6:((0:Int) != Int.ofNat 0)=false:=rfl
  rw[zC]
  simp only[zCP,zA f2,zA f3,zA f4,zA f9,hO.pLen,zN,fa0,l15,l14,zQ,e4,zFh _ _ ((128:Nat):Int) (by decide),e5,zCV,e6,zq]
  rfl
 | succ n ih =>
  intro tl t H fr Z m ht hn hlen hm hw hB hO hK f2 f3 f4 f9
  obtain⟨m,rfl⟩:∃ j,m=j+1:=⟨m-1,by omega⟩
  have l15:=lk64 hK (i:=15) (by omega)
  have l14:=lk64 hK (i:=14) (by omega)
  simp only[zBI,List.getD_cons_succ,List.getD_cons_zero]at l14 l15
  have e4:wr .i64 ((tl.length:Int)+((16:Nat):Int))=((tl.length+16:Nat):Int):=by rw[zAZ (by omega) (by omega)];simp
  have e5:((tl.length+16:Nat):Int).tmod ((128:Nat):Int)=(((tl.length+16) % 128:Nat):Int):=by
   rw[<- Int.ofNat_tmod]
  have e6:((((tl.length+16) % 128:Nat):Int) != Int.ofNat 0)=true:=by
   simp only[bne_iff_ne,ne_eq]
   intro h
   have:(tl.length+16) % 128=0:=Int.ofNat.inj h
   omega
  obtain⟨w,H1,t',H2,p1,p2,p3,p4,p5⟩:=hO.push (bytes:=1) hw hB (.int .u8 ((0:Nat):Int)) (.int .u8 (.ofNat 0)) rfl rfl (by omega) (by omega) Z
  rw[zIz]at p3
  have q0:Own H2 B 1 t' (tl++[0]).length (ws .u8 (tl++[0])):=by simpa using p3
  obtain⟨t2,H',Z',r1,r2,r3⟩:=ih (tl++[0]) t' H2 (Z:=Z.tail) (m:=m) (by simp;omega) (by omega) (by simp;omega) (by omega) p4.wf (Nat.le_trans hB p4.size) q0 (hK.gr p4 hKB)
   (fr:=(T.s (T.s (T.s (T.s (T.s (T.s (T.s (T.s .leaf 2 v) 3 (.ptr K 0)) 4 (.ptr S 0)) 9 t) 52 t) 53 w) 54 t') 9 t'))
   (by rfl) (by rfl) (by rfl) (by rfl)
  have ea:tl++[0]++List.replicate n 0=tl++List.replicate (n+1) 0:=by simp[List.replicate_succ]
  rw[ea]at r1
  refine⟨t2,H',Z',r1,p4.trans r2 nl,fun k=>?_⟩
  rw[zC]
  have p1':zL 1 1 [(V.int .u8 (.ofNat 0))] [(0,1)] [(V.int .u8 (.ofNat 0))] H Z=some (w,H1,Z):=p1
  simp only[zCP,zA f2,zA f3,zA f4,zA f9,hO.pLen,zN,fa0,l15,l14,zQ,e4,zFh _ _ ((128:Nat):Int) (by decide),e5,zCV,e6,zn,p1',p2,zf]
  exact r3 k
def lenW (L i:Nat):Nat:=if i<8 then(L % pow2 .u64*8 % pow2 .u64 / 2 ^ min (8*i) IntKind.u64.bits) % pow2 .u8 else 0
def lens (L:Nat):Nat->List Nat
 | 0=>[]
 | n+1=>lenW L n::lens L n
theorem zPH (L:Nat):∀ n,(lens L n).length=n:=by
 intro n;induction n with
 | zero=>rfl
 | succ n ih=>simp[lens,ih]
theorem l9_64 (c:zD)(N:Nat)(S K B L:Nat)(v:V)(hL:pLen [v]=some (.int .i64 (L:Int))) :
  ∀ (n:Nat) (tl:List Nat) (t:V) (H:Heap) (fr:T V) (Z:Tape) (m:Nat),n<20->tl.length+n<200000->n<m->WF H->B<=H.size->Own H B 1 t tl.length (ws .u8 tl) ->
  fr.get 2=some v->fr.get 3=some (.ptr K 0)->fr.get 4=some (.ptr S 0)->fr.get 9=some t->fr.get 10=some (.int .i64 ((n:Int)-1)) ->
  ∃ t' H' Z',Own H' B 1 t' (tl++lens L n).length (ws .u8 (tl++lens L n))/\Gr B H H'/\∀ k,zW (zBd c N) m ⟨fr,H⟩ Z k=k (.exit 4) ⟨(T.s (T.s (T.s .leaf 3 (.ptr K 0)) 4 (.ptr S 0)) 9 t'),H'⟩ Z':=by
 intro n
 induction n with
 | zero =>
  intro tl t H fr Z m hn hlen hm hw hB hO f2 f3 f4 f9 f10
  obtain⟨m,rfl⟩:∃ j,m=j+1:=⟨m-1,by omega⟩
  refine⟨t,H,Z,by simpa [lens] using hO,Gr.refl hw,fun k=>?_⟩
  have e1:decide (Int.ofNat 0<=(((0:Nat):Int)-1))=false:=by decide
  rw[zC]
  simp only[zBd,zA f2,zA f3,zA f4,zA f9,zA f10,zt,e1,zq]
  rfl
 | succ n ih =>
  intro tl t H fr Z m hn hlen hm hw hB hO f2 f3 f4 f9 f10
  obtain⟨m,rfl⟩:∃ j,m=j+1:=⟨m-1,by omega⟩
  have en:(((n+1:Nat):Int)-1)=(n:Int):=by omega
  rw[en]at f10
  have e1:decide (Int.ofNat 0<=(n:Int))=true:=decide_eq_true (by simp)
  obtain⟨w,H1,t',H2,p1,p2,p3,p4,p5⟩:=hO.push (bytes:=1) hw hB (.int .u8 ((lenW L n:Nat):Int)) (.int .u8 (.ofNat 0)) rfl rfl (by omega) (by omega) Z
  rw[zIz]at p3
  have q0:Own H2 B 1 t' (tl++[lenW L n]).length (ws .u8 (tl++[lenW L n])):=by simpa using p3
  have e7:wr .i64 ((n:Int)-Int.ofNat 1)=(n:Int)-1:=by rw[zAZ (by simp;omega) (by simp;omega)];rfl
  obtain⟨t2,H',Z',r1,r2,r3⟩:=ih (tl++[lenW L n]) t' H2 (Z:=Z.tail) (m:=m) (by omega) (by simp;omega) (by omega) p4.wf (Nat.le_trans hB p4.size) q0
   (fr:=(T.s (T.s (T.s (T.s (T.s (T.s (T.s (T.s .leaf 2 v) 3 (.ptr K 0)) 4 (.ptr S 0)) 9 t') 10 (.int .i64 (n:Int))) 60 (.int .i64 (n:Int))) 61 (.int .i64 ((n:Int)-1))) 10 (.int .i64 ((n:Int)-1))))
   (by rfl) (by rfl) (by rfl) (by rfl) (by rfl)
  have ea:tl++[lenW L n]++lens L n=tl++lens L (n+1):=by simp[lens]
  rw[ea]at r1
  refine⟨t2,H',Z',r1,p4.trans r2 nl,fun k=>?_⟩
  rw[zC]
  by_cases h8:n<8
  ·have e2:decide ((n:Int)<Int.ofNat 8)=true:=decide_eq_true (by simp;omega)
   have e3:wr .i64 (Int.ofNat 8*(n:Int))=((8*n:Nat):Int):=by rw[zAZ (by simp;omega) (by simp;omega)];simp
   have eW:lenW L n=(L % pow2 .u64*8 % pow2 .u64 / 2 ^ min (8*n) IntKind.u64.bits) % pow2 .u8:=by unfold lenW;rw[if_pos h8]
   rw[eW]at p1
   have e6:∀ (q:V->Ans),binK .mul (.int .u64 ((L % pow2 .u64:Nat):Int)) (.int .u64 (.ofNat 8)) q=q (.int .u64 ((L % pow2 .u64*8 % pow2 .u64:Nat):Int)):=fun q=>u_mul uk64 _ 8 q
   simp only[zBd,zA f2,zA f3,zA f4,zA f9,zA f10,zt,e1,zn,zI,e2,hL,zN,zB7,uk64 L,e6,zIB,e3,zLr,uk8 _,zCQ,zJ,↓reduceIte,Nat.reduceEqDiff,p1,p2,zf,zEe,zAC,e7]
   exact r3 k
  ·have e2:decide ((n:Int)<Int.ofNat 8)=false:=decide_eq_false (by simp;omega)
   have eW:lenW L n=0:=by unfold lenW;rw[if_neg h8]
   rw[eW]at p1
   have p1':zL 1 1 [(V.int .u8 (.ofNat 0))] [(0,1)] [(V.int .u8 (.ofNat 0))] H Z=some (w,H1,Z):=p1
   simp only[zBd,zA f2,zA f3,zA f4,zA f9,zA f10,zt,e1,zn,zI,e2,zq,zCQ,zJ,↓reduceIte,Nat.reduceEqDiff,p1',p2,zf,zEe,zAC,e7]
   exact r3 k
def zFT (k:IntKind)(x:Nat):Nat->List Nat
 | 0=>[]
 | n+1=>(x / 2 ^ min (8*n) k.bits % pow2 .u8)::zFT k x n
theorem zPS (k:IntKind)(x:Nat):∀ n,(zFT k x n).length=n:=by
 intro n;induction n with
 | zero=>rfl
 | succ n ih=>simp[zFT,ih]
theorem l7_64 (c:zD)(N:Nat)(K B x:Nat)(a88 a89:V) :
  ∀ (n:Nat) (tl:List Nat) (t:V) (H:Heap) (fr:T V) (Z:Tape) (m:Nat),n<20->tl.length+n<200000->n<m->WF H->B<=H.size->Own H B 1 t tl.length (ws .u8 tl) ->
  fr.get 3=some (.ptr K 0)->fr.get 13=some t->fr.get 15=some (.int .u64 (x:Int))->fr.get 16=some (.int .i64 (8*(n:Int)-8))->fr.get 88=some a88->fr.get 89=some a89 ->
  ∃ t' H' Z',Own H' B 1 t' (tl++zFT .u64 x n).length (ws .u8 (tl++zFT .u64 x n))/\Gr B H H'/\∀ k,zW (zCu c N) m ⟨fr,H⟩ Z k=k (.exit 10) ⟨(T.s (T.s (T.s (T.s .leaf 3 (.ptr K 0)) 13 t') 88 a88) 89 a89),H'⟩ Z':=by
 intro n
 induction n with
 | zero =>
  intro tl t H fr Z m hn hlen hm hw hB hO f3 f13 f15 f16 f88 f89
  obtain⟨m,rfl⟩:∃ j,m=j+1:=⟨m-1,by omega⟩
  refine⟨t,H,Z,by simpa [zFT] using hO,Gr.refl hw,fun k=>?_⟩
  have e1:decide (Int.ofNat 0<=(8*((0:Nat):Int)-8))=false:=by decide
  rw[zC]
  simp only[zCu,zA f3,zA f13,zA f15,zA f16,zA f88,zA f89,zt,e1,zq]
  rfl
 | succ n ih =>
  intro tl t H fr Z m hn hlen hm hw hB hO f3 f13 f15 f16 f88 f89
  obtain⟨m,rfl⟩:∃ j,m=j+1:=⟨m-1,by omega⟩
  have en:(8*((n+1:Nat):Int)-8)=((8*n:Nat):Int):=by omega
  rw[en]at f16
  have e1:decide (Int.ofNat 0<=((8*n:Nat):Int))=true:=decide_eq_true (by simp;omega)
  obtain⟨w,H1,t',H2,p1,p2,p3,p4,p5⟩:=hO.push (bytes:=1) hw hB (.int .u8 ((x / 2 ^ min (8*n) IntKind.u64.bits % pow2 .u8:Nat):Int)) (.int .u8 (.ofNat 0)) rfl rfl (by omega) (by omega) Z
  rw[zIz]at p3
  have q0:Own H2 B 1 t' (tl++[x / 2 ^ min (8*n) IntKind.u64.bits % pow2 .u8]).length (ws .u8 (tl++[x / 2 ^ min (8*n) IntKind.u64.bits % pow2 .u8])):=by simpa using p3
  have e7:wr .i64 (((8*n:Nat):Int)-Int.ofNat 8)=8*(n:Int)-8:=by rw[zAZ (by simp;omega) (by simp;omega)];simp
  obtain⟨t2,H',Z',r1,r2,r3⟩:=ih (tl++[x / 2 ^ min (8*n) IntKind.u64.bits % pow2 .u8]) t' H2 (Z:=Z.tail) (m:=m) (by omega) (by simp;omega) (by omega) p4.wf (Nat.le_trans hB p4.size) q0
   (fr:=(T.s (T.s (T.s (T.s (T.s (T.s (T.s (T.s (T.s .leaf 3 (.ptr K 0)) 13 t') 15 (.int .u64 (x:Int))) 16 (.int .i64 ((8*n:Nat):Int))) 88 a88) 89 a89) 97 (.int .i64 ((8*n:Nat):Int))) 98 (.int .i64 (8*(n:Int)-8))) 16 (.int .i64 (8*(n:Int)-8))))
   (by rfl) (by rfl) (by rfl) (by rfl) (by rfl) (by rfl)
  have ea:tl++[x / 2 ^ min (8*n) IntKind.u64.bits % pow2 .u8]++zFT .u64 x n=tl++zFT .u64 x (n+1):=by simp[zFT]
  rw[ea]at r1
  refine⟨t2,H',Z',r1,p4.trans r2 nl,fun k=>?_⟩
  rw[zC]
  simp only[zCu,zA f3,zA f13,zA f15,zA f16,zA f88,zA f89,zt,e1,zn,zLr,zB7,uk8 _,p1,p2,zf,zAC,e7]
  exact r3 k
def outB (k:IntKind)(n:Nat)(st:List Nat):List Nat:=st.flatMap fun x=>zFT k x n
theorem zTK (k:IntKind)(n:Nat):∀ st,(outB k n st).length=st.length*n:=by
 intro st;induction st with
 | nil=>simp[outB]
 | cons x st ih=>simp only[outB,List.flatMap_cons,List.length_append,zPS,List.length_cons]at ih ⊢;rw[ih];rw[Nat.add_mul];omega
theorem l5_64 (c:zD)(N:Nat)(hN:20<N)(K B:Nat)(hKB:K<B)(st:List Nat)(hst:st.length=8) :
  ∀ (l:List Nat) (i:Nat) (tl:List Nat) (t:V) (H:Heap) (fr:T V) (Z:Tape) (m:Nat),st.drop i=l->i<=8->tl.length+8*l.length<150000->l.length<m->WF H->B<=H.size->Own H B 1 t tl.length (ws .u8 tl)->Bx H K (ws .i64 zBI) ->
  fr.get 3=some (.ptr K 0)->fr.get 13=some t->fr.get 88=some (.agg (ws .u64 st))->fr.get 89=some (.int .i64 (i:Int)) ->
  ∃ t' H' Z',Own H' B 1 t' (tl++outB .u64 8 l).length (ws .u8 (tl++outB .u64 8 l))/\Gr B H H'/\∀ k,zW (zCl c N) m ⟨fr,H⟩ Z k=k (.exit 8) ⟨(T.s .leaf 13 t'),H'⟩ Z':=by
 intro l
 induction l with
 | nil =>
  intro i tl t H fr Z m hd hi hlen hm hw hB hO hK f3 f13 f88 f89
  obtain⟨m,rfl⟩:∃ j,m=j+1:=⟨m-1,by omega⟩
  have:i=8:=by have:=congrArg List.length hd;simp at this;omega
  subst this
  refine⟨t,H,Z,by simpa [outB] using hO,Gr.refl hw,fun k=>?_⟩
  have e1:decide (((8:Nat):Int)<Int.ofNat 8)=false:=by decide
  rw[zC]
  simp only[zCl,zA f3,zA f13,zA f88,zA f89,zI,e1,zq]
  rfl
 | cons x l ih =>
  intro i tl t H fr Z m hd hi hlen hm hw hB hO hK f3 f13 f88 f89
  obtain⟨m,rfl⟩:∃ j,m=j+1:=⟨m-1,by omega⟩
  have hlt:i<8:=by have:=congrArg List.length hd;simp at this;omega
  have hx:st[i]?=some x:=by have:=congrArg (·[0]?) hd;simpa using this
  have hd':st.drop (i+1)=l:=by have:=congrArg (List.drop 1) hd;simpa [List.drop_drop,Nat.add_comm] using this
  have e1:decide ((i:Int)<Int.ofNat 8)=true:=decide_eq_true (by simp;omega)
  have eI:zJc 8 1 false [.agg (ws .u64 st),.int .i64 (i:Int)]=some (.int .u64 (x:Int)):=by
   have hb:Nat.blt i 8=true:=by simp[Nat.blt];omega
   simp only[zJc,zC6,hb,cond_true,partOf,Nat.mul_one]
   simp[ws,hx]
  have l0:=lk64 hK (i:=0) (by omega)
  simp only[zBI,List.getD_cons_succ,List.getD_cons_zero]at l0
  have e8:wr .i64 (((64:Nat):Int)-Int.ofNat 8)=8*((8:Nat):Int)-8:=rfl
  obtain⟨t',H1,Z1,p1,p2,p3⟩:=l7_64 c N K B x (.agg (ws .u64 st)) (.int .i64 (i:Int)) 8 tl t H (Z:=Z) (m:=N) (by omega) (by simp at hlen;omega) (by omega) hw hB hO
   (fr:=(T.s (T.s (T.s (T.s (T.s (T.s .leaf 3 (.ptr K 0)) 13 t) 15 (.int .u64 (x:Int))) 16 (.int .i64 (8*((8:Nat):Int)-8))) 88 (.agg (ws .u64 st))) 89 (.int .i64 (i:Int))))
   (by rfl) (by rfl) (by rfl) (by rfl) (by rfl) (by rfl)
  have e4:wr .i64 ((i:Int)+Int.ofNat 1)=((i+1:Nat):Int):=by rw[zAZ (by simp;omega) (by simp;omega)];simp
  obtain⟨t2,H',Z',r1,r2,r3⟩:=ih (i+1) (tl++zFT .u64 x 8) t' H1 (Z:=Z1) (m:=m) hd' (by omega) (by simp[zPS]at hlen ⊢;omega) (by simp at hm;omega) p2.wf (Nat.le_trans hB p2.size) p1 (hK.gr p2 hKB)
   (fr:=(T.s (T.s (T.s (T.s (T.s (T.s .leaf 3 (.ptr K 0)) 13 t') 88 (.agg (ws .u64 st))) 89 (.int .i64 (i:Int))) 106 (.int .i64 ((i+1:Nat):Int))) 89 (.int .i64 ((i+1:Nat):Int))))
   (by rfl) (by rfl) (by rfl) (by rfl)
  have ea:tl++zFT .u64 x 8++outB .u64 8 l=tl++outB .u64 8 (x::l):=by simp[outB]
  rw[ea]at r1
  refine⟨t2,H',Z',r1,p2.trans r2 nl,fun k=>?_⟩
  rw[zC]
  simp only[zCl,zA f3,zA f13,zA f88,zA f89,zI,e1,zn,eI,zN,fa0,l0,zAC,e8]
  rw[p3]
  simp only[zP,Nat.beq_refl,cond_true,cond_false,seqK,zH9,zJ,↓reduceIte,Nat.reduceEqDiff,zQ,e4]
  exact r3 k
end Go.Am.X

namespace Go.Am.X
def zIn (bs:List Nat):List Nat :=
 (bs.drop (bs.length / 128*128)++[128])++List.replicate ((128-((bs.drop (bs.length / 128*128)++[128]).length+16) % 128) % 128) 0++lens bs.length 16
def zLp (C st bs:List Nat):List Nat :=
 outB .u64 8 (zEy C (zIn bs) ((zIn bs).length / 128) 0 (zEy C bs (bs.length / 128) 0 st))
theorem zNp (C st bs:List Nat)(h:st.length=8):(zLp C st bs).length=64:=by
 unfold zLp;rw[zTK,zKw _ _ _ _ _ (zKw _ _ _ _ _ h)]
theorem Own.rdS {S B z:Nat}{H:Heap}{v:V}{n:Nat}{cs:List V}(h:Own H B z v n cs)(hw:WF H)(hS:S<B):RdS S H.size z H v n cs:=by
 intro H' hg
 rcases h with h | ⟨id,e,room,fam,ver,pl,st,fr,h1,h2,h3,h4,h5,h6,h7⟩
 ·exact .inl ⟨.inl h.1,h.2⟩
 ·have:=hw.blk _ _ h2
  have:=hw.fams _ _ h3
  exact Own.rd (B:=B) (.inr ⟨id,e,room,fam,ver,pl,st,fr,h1,by rw[hg.blk id (by omega) (by omega)];exact h2,by rw[hg.fams fam (by omega) (by omega)];exact h3,h4,h5,h6,h7⟩)
theorem Own.weaken {H:Heap}{B C z:Nat}{v:V}{n:Nat}{cs:List V}(h:Own H C z v n cs)(hBC:B<=C):Own H B z v n cs:=by
 rcases h with h | ⟨id,e,room,fam,ver,pl,st,fr,h1,h2,h3,h4,h5,h6,h7⟩
 ·exact .inl h
 ·exact .inr ⟨id,e,room,fam,ver,pl,st,fr,h1,h2,h3,h4,by omega,by omega,h7⟩
theorem zHO (c:zD)(N:Nat)(hN:9223372036854775807<=N)(v:V)(bs st C:List Nat)(hlen:bs.length<80000)(hR:Roomy v)(hst:st.length=8)(h29:Mix29 c C)
  (H:Heap) (hw:WF H) (hC:H.cells? 6=some (ws .u64 C)) (hRd:Rd H 1 v bs.length (ws .u8 bs)) (hsr:Src H v) (Z:Tape) :
  ∃ v' H' Z',Own H' H.size 1 v' 64 (ws .u8 (zLp C st bs))/\Gr H.size H H'/\∀ q,zEN c N (.agg (ws .i64 zBI)) (.agg (ws .u64 st)) v H Z q=q v' H' Z':=by
 have a1:eBox [.agg (ws .i64 zBI)] H Z=some (.ptr H.size 0,H.new (ws .i64 zBI) 17 true,Z):=rfl
 have g1:=Gr.new hw (ws .i64 zBI) 17 true
 have K1:=Bx.new H (ws .i64 zBI) 17 true (by decide)
 have z1:(H.new (ws .i64 zBI) 17 true).size=H.size+1:=rfl
 generalize H.new (ws .i64 zBI) 17 true=H1 at a1 g1 K1 z1
 have a2:eBox [.agg (ws .u64 st)] H1 Z=some (.ptr H1.size 0,H1.new (ws .u64 st) (ws .u64 st).length true,Z):=rfl
 have g2:=Gr.new g1.wf (ws .u64 st) (ws .u64 st).length true
 have S2:=Bx.new H1 (ws .u64 st) (ws .u64 st).length true nl
 have z2:(H1.new (ws .u64 st) (ws .u64 st).length true).size=H1.size+1:=rfl
 generalize H1.new (ws .u64 st) (ws .u64 st).length true=H2 at a2 g2 S2 z2
 have K2:=K1.gr g2 (by omega)
 have g12:=g1.trans g2 (by omega)
 have hKS:H.size≠H1.size:=by omega
 have rdS:RdS H1.size H.size 1 H2 v bs.length (ws .u8 bs):=fun H' h=>hRd.gr (g12.trans (h.gr (by omega)) nl) hw nl
 have cS:zGR H1.size H.size H2 6 (ws .u64 C):=fun H' h=>(g12.trans (h.gr (by omega)) nl).cells hw nl hC
 have hdiv:bs.length / 128*128<=bs.length:=Nat.div_mul_le_self _ _
 obtain⟨H3,S3,g3',k3⟩:=l13_64 c N H1.size H.size H.size (bs.length / 128*128) hKS v bs C (by omega) hdiv hR h29 (bs.length / 128) 0 st H2 (Z:=Z) (m:=N) (by omega) (by omega) hst g12.wf g12.size K2 S2 cS rdS
  (fr:=(T.s (T.s (T.s (T.s (T.s .leaf 2 v) 3 (.ptr H.size 0)) 4 (.ptr H1.size 0)) 7 (.int .i64 ((bs.length / 128*128:Nat):Int))) 8 (.int .i64 (.ofNat 0))))
  (by rfl) (by rfl) (by rfl) (by rfl) (by rfl)
 have g3:Gx H1.size H.size H2 H3:=g3'.weaken g12.size
 have g13:=g12.trans (g3.gr (by omega)) nl
 have K3:=K2.gx g3' (by omega) hKS
 have st3:(zEy C bs (bs.length / 128) 0 st).length=8:=zKw _ _ _ _ _ hst
 have hsz3:H1.size+1<=H3.size:=by have:=g3'.size;omega
 obtain⟨f1,b1⟩:∃ H4,zL 0 1 [] [] [] H3 Z=some (.sl H3.size 0 0 0 none 1,H4,Z)/\Gr H3.size H3 H4/\H4.cells? H3.size=some []:=⟨_,rfl,Gr.new g13.wf _ _ _,zBp _ _ _ _⟩
 obtain⟨b1,g4,e4⟩:=b1
 rename Heap=>H4
 have hs4:H1.size+1<=H4.size:=by have:=g4.size;omega
 have E4:Emp H4 (H1.size+1) (.sl H3.size 0 0 0 none 1):=⟨_,rfl,e4,by omega⟩
 have g14:=g13.trans (g4.weaken g13.size) nl
 have K4:=K3.gr g4 (by omega)
 have S4:=S3.gr g4 (by omega)
 have Rd4:Rd H4 1 v bs.length (ws .u8 bs):=hRd.gr g14 hw nl
 have Sr4:Src H4 v:=hsr.gr g14 hw nl
 obtain⟨v',c1,c2,c2',c3⟩:=Rd4.from hR (l:=bs.length / 128*128) hdiv
 have c3:=c3 H4 _ Rd4
 have hw8:(ws .u8 bs).drop (bs.length / 128*128*1)=ws .u8 (bs.drop (bs.length / 128*128)):=by simp[ws,List.map_drop]
 rw[hw8]at c3
 obtain⟨t5,H5,Z5,b5,o5,g5⟩:=E4.append (bytes:=1) g14.wf (by omega) c3 (c2' _ Sr4) (by omega) (by omega) Z
 have hs5:H1.size+1<=H5.size:=by have:=g5.size;omega
 have g15:=g14.trans (g5.weaken g14.size) nl
 have K5:=K4.gr g5 (by omega)
 have S5:=S4.gr g5 (by omega)
 obtain⟨w6,H6',t6,H6,Z6,b6,b6',o6,g6⟩:∃ w H1' v' H' Z',zL 1 1 [(V.int .u8 (.ofNat 0))] [(0,1)] [(V.int .u8 (.ofNat 128))] H5 Z5=some (w,H1',Z5)/\zAD 1 1 [t5,w] H1' Z5=some (v',H',Z') /\
   Own H' (H1.size+1) 1 v' (bs.drop (bs.length / 128*128)++[128]).length (ws .u8 (bs.drop (bs.length / 128*128)++[128]))/\Gr (H1.size+1) H5 H':=by
  rcases o5 with⟨o5,hpos⟩ | ⟨hz,rfl,rfl,hz2⟩
  ·obtain⟨w,Hq,v2,H',p1,p2,p3,p4,p5⟩:=o5.push (bytes:=1) g15.wf (by omega) (.int .u8 ((128:Nat):Int)) (.int .u8 (.ofNat 0)) rfl rfl (by omega) (by omega) Z5
   rw[zIz]at p3
   exact⟨w,Hq,v2,H',_,p1,p2,by simpa using p3,p4⟩
  ·obtain⟨w,Hq,v2,H',Z',p1,p2,p3,p4⟩:=E4.push (bytes:=1) g15.wf (by omega) (.int .u8 ((128:Nat):Int)) (.int .u8 (.ofNat 0)) rfl (by omega) Z5
   have:bs.drop (bs.length / 128*128)=[]:=by
    have:=congrArg List.length hz2
    rw[zAv]at this
    exact List.eq_nil_of_length_eq_zero this
   rw[this]
   exact⟨w,Hq,v2,H',Z',p1,p2,p3,p4.weaken hs4⟩
 have g16:=g15.trans (g6.weaken (show H.size<=H1.size+1 by omega)) nl
 have K6:=K5.gr g6 (by omega)
 have S6:=S5.gr g6 (by omega)
 have htl:(bs.drop (bs.length / 128*128)++[128]).length<=128:=by simp;omega
 generalize htd:bs.drop (bs.length / 128*128)++[128]=t0 at o6 htl
 have hs6:H1.size+1<=H6.size:=by have:=g6.size;omega
 obtain⟨t7,H7,Z7,o7,g7,k7⟩:=l12_64 c N H1.size H.size (H1.size+1) (by omega) v ((128-(t0.length+16) % 128) % 128) t0 t6 H6 (Z:=Z6) (m:=N) (by omega) (by omega) (by omega) (by omega) g16.wf hs6 o6 K6
  (fr:=(T.s (T.s (T.s (T.s .leaf 2 v) 3 (.ptr H.size 0)) 4 (.ptr H1.size 0)) 9 t6))
  (by rfl) (by rfl) (by rfl) (by rfl)
 have g17:=g16.trans (g7.weaken (show H.size<=H1.size+1 by omega)) nl
 have K7:=K6.gr g7 (by omega)
 have S7:=S6.gr g7 (by omega)
 have hs7:H1.size+1<=H7.size:=by have:=g7.size;omega
 have hl7:(t0++List.replicate ((128-(t0.length+16) % 128) % 128) 0).length<=256:=by simp;omega
 obtain⟨t8,H8,Z8,o8,g8,k8⟩:=l9_64 c N H1.size H.size (H1.size+1) bs.length v hRd.pLen 16 _ t7 H7 (Z:=Z7) (m:=N) (by omega) (by omega) (by omega) g17.wf hs7 o7
  (fr:=(T.s (T.s (T.s (T.s (T.s .leaf 2 v) 3 (.ptr H.size 0)) 4 (.ptr H1.size 0)) 9 t7) 10 (.int .i64 (((16:Nat):Int)-1))))
  (by rfl) (by rfl) (by rfl) (by rfl) (by rfl)
 have g18:=g17.trans (g8.weaken (show H.size<=H1.size+1 by omega)) nl
 have K8:=K7.gr g8 (by omega)
 have S8:=S7.gr g8 (by omega)
 have hs8:H1.size+1<=H8.size:=by have:=g8.size;omega
 have etail:t0++List.replicate ((128-(t0.length+16) % 128) % 128) 0++lens bs.length 16=zIn bs:=by rw[<- htd];rfl
 rw[etail]at o8
 have hmod:(zIn bs).length % 128=0:=by
  rw[<- etail];simp[zPH];omega
 have hle:(zIn bs).length<=300:=by
  rw[<- etail];simp[zPH]at hl7 ⊢;omega
 have rd8:=Own.rdS o8 g18.wf (show H1.size<H1.size+1 by omega)
 have c8:zGR H1.size H8.size H8 6 (ws .u64 C):=fun H' h=>(g18.trans ((h.weaken g18.size).gr (by omega)) nl).cells hw nl hC
 obtain⟨H9,S9,g9',k9⟩:=l8_64 c N H1.size H.size H8.size hKS t8 (zIn bs) C (by omega) o8.roomy h29 ((zIn bs).length / 128) 0 _ H8 (Z:=Z8) (m:=N) (by omega) (by omega) st3 g18.wf nl K8 S8 c8 rd8
  (fr:=(T.s (T.s (T.s (T.s .leaf 3 (.ptr H.size 0)) 4 (.ptr H1.size 0)) 9 t8) 12 (.int .i64 (.ofNat 0))))
  (by rfl) (by rfl) (by rfl) (by rfl)
 have g19:=g18.trans ((g9'.weaken g18.size).gr (by omega)) nl
 have K9:=K8.gx g9' (by have:=K8.lt g18.wf;omega) hKS
 have hs9:H1.size+1<=H9.size:=by have:=g9'.size;omega
 have st9:=zKw C (zIn bs) ((zIn bs).length / 128) 0 _ st3
 have ld:zV 8 [.ptr H1.size 0] H9=some (.agg (ws .u64 (zEy C (zIn bs) ((zIn bs).length / 128) 0 (zEy C bs (bs.length / 128) 0 st)))):=by
  rw[zA1 (off:=0) (n:=8) S9.cells (by rw[zAv,st9];omega),List.drop_zero,List.take_of_length_le (by rw[zAv,st9];omega)]
 obtain⟨vA,HA,τA,oA,gA,kA⟩:=l5_64 c N (by omega) H.size (H1.size+1) (by omega) _ st9 _ 0 [] .nils H9 (Z:=Z8) (m:=N) (List.drop_zero ..) (by omega) (by rw[st9];simp) (by rw[st9];omega) g19.wf hs9 (Own.nil _ _ _) K9
  (fr:=(T.s (T.s (T.s (T.s .leaf 3 (.ptr H.size 0)) 13 .nils) 88 (.agg (ws .u64 (zEy C (zIn bs) ((zIn bs).length / 128) 0 (zEy C bs (bs.length / 128) 0 st))))) 89 (.int .i64 (.ofNat 0))))
  (by rfl) (by rfl) (by rfl) (by rfl)
 have gf:=g19.trans (gA.weaken (show H.size<=H1.size+1 by omega)) nl
 refine⟨vA,HA,τA,?_,gf,fun q=>?_⟩
 ·have e64:([]++outB .u64 8 (zEy C (zIn bs) ((zIn bs).length / 128) 0 (zEy C bs (bs.length / 128) 0 st)))=zLp C st bs:=rfl
  rw[e64,zNp _ _ _ hst]at oA
  exact Own.weaken oA (show H.size<=H1.size+1 by omega)
 ·have l14:=lk64 K2 (i:=14) (by omega)
  have l15:=lk64 K7 (i:=15) (by omega)
  simp only[zBI,List.getD_cons_succ,List.getD_cons_zero]at l14 l15
  have eq1:wr .i64 (((bs.length:Nat):Int).tdiv ((128:Nat):Int))=((bs.length / 128:Nat):Int):=by
   rw[<- Int.ofNat_tdiv,zAZ (by omega) (by omega)]
  have eq2:wr .i64 (((bs.length / 128:Nat):Int)*((128:Nat):Int))=((bs.length / 128*128:Nat):Int):=by
   rw[zAZ (by omega) (by omega)];simp
  have eq3:wr .i64 (((16:Nat):Int)-Int.ofNat 1)=(((16:Nat):Int)-1):=rfl
  simp only[zEN,a1,a2,zf,hRd.pLen,zN,fa0,l14,zI5 _ _ ((128:Nat):Int) (by decide),eq1,zIB,eq2]
  rw[k3]
  simp only[zP,Nat.beq_refl,cond_true,seqK,zHf,zJ,↓reduceIte,Nat.reduceEqDiff,b1,zf,c1,zN,b5,b6,b6']
  rw[k7]
  simp only[zP,Nat.beq_refl,cond_true,seqK,zHW,zJ,↓reduceIte,Nat.reduceEqDiff,fa0,zN,l15,zAC,eq3]
  rw[k8]
  simp only[zP,Nat.beq_refl,cond_true,seqK,zHm,zJ,↓reduceIte,Nat.reduceEqDiff]
  rw[k9]
  simp only[zP,Nat.beq_refl,cond_true,seqK,zIA,zJ,↓reduceIte,Nat.reduceEqDiff,ld,zN]
  rw[kA]
  simp only[zP,Nat.beq_refl,cond_true,seqK,zIP,zJ,↓reduceIte,Nat.reduceEqDiff]
end Go.Am.X

namespace Go.Am.X
abbrev Mix28 (c:zD)(C:List Nat):Prop:=∀ (S K:Nat) (v:V) (bs st:List Nat),K≠S->bs.length<100000->64<=bs.length->Roomy v->st.length=8->∀ H,WF H->Bx H K (ws .i64 zBJ)->Bx H S (ws .u32 st)->zGR S H.size H 6 (ws .u64 C)->RdS S H.size 1 H v bs.length (ws .u8 bs)->∀ Z,
 ∃ H',Bx H' S (ws .u32 (zSj C bs st))/\Gx S H.size H H'/\∀ q,c zBx [.ptr K 0,.ptr S 0,v] H Z q=q (.tup []) H' Z
def zEx (C:List Nat)(bs:List Nat):Nat->Nat->List Nat->List Nat
 | 0,_,st=>st
 | n+1,i,st=>zEx C bs n (i+64) (zSj C (bs.drop i) st)
theorem zQz (C bs st:List Nat)(h:st.length=8):(zSj C bs st).length=8:=by unfold zSj;rw[zSW,h]
theorem zK0 (C bs:List Nat):∀ n i st,st.length=8->(zEx C bs n i st).length=8:=by
 intro n;induction n with
 | zero=>intro i st h;exact h
 | succ n ih=>intro i st h;exact ih _ _ (zQz _ _ _ h)
theorem lk32 {H:Heap}{K:Nat}(h:Bx H K (ws .i64 zBJ)){i:Nat}(hi:i<17):zF [.ptr K i] H=some (.int .i64 ((zBJ.getD i 0:Nat):Int)):=zAN h (by simpa [zBJ] using hi)
theorem l13_32 (c:zD)(N:Nat)(S K B L:Nat)(hKS:K≠S)(v:V)(bs C:List Nat)(hlen:bs.length<90000)(hL:L<=bs.length)(hR:Roomy v)(h28:Mix28 c C) :
  ∀ (n i:Nat) (st:List Nat) (H:Heap) (fr:T V) (Z:Tape) (m:Nat),i+n*64=L->n<m->st.length=8->WF H->B<=H.size->Bx H K (ws .i64 zBJ)->Bx H S (ws .u32 st)->zGR S B H 6 (ws .u64 C)->RdS S B 1 H v bs.length (ws .u8 bs) ->
  fr.get 2=some v->fr.get 3=some (.ptr K 0)->fr.get 4=some (.ptr S 0)->fr.get 7=some (.int .i64 (L:Int))->fr.get 8=some (.int .i64 (i:Int)) ->
  ∃ H',Bx H' S (ws .u32 (zEx C bs n i st))/\Gx S H.size H H'/\∀ k,zW (zCN c N) m ⟨fr,H⟩ Z k=k (.exit 0) ⟨(T.s (T.s (T.s (T.s .leaf 2 v) 3 (.ptr K 0)) 4 (.ptr S 0)) 7 (.int .i64 (L:Int))),H'⟩ Z:=by
 intro n
 induction n with
 | zero =>
  intro i st H fr Z m ht hm hst hw hB hK hS hC hRd f2 f3 f4 f7 f8
  obtain⟨m,rfl⟩:∃ j,m=j+1:=⟨m-1,by omega⟩
  refine⟨H,hS,Gx.refl hw,fun k=>?_⟩
  have e1:decide ((i:Int)<(L:Int))=false:=decide_eq_false (by omega)
  rw[zC]
  simp only[zCN,zA f2,zA f3,zA f4,zA f7,zA f8,zI,e1,zq]
  rfl
 | succ n ih =>
  intro i st H fr Z m ht hm hst hw hB hK hS hC hRd f2 f3 f4 f7 f8
  obtain⟨m,rfl⟩:∃ j,m=j+1:=⟨m-1,by omega⟩
  have e1:decide ((i:Int)<(L:Int))=true:=decide_eq_true (by omega)
  obtain⟨v',c1,c2,_,c3⟩:=(hRd.rd hw).from hR (l:=i) (by omega)
  have hw8:(ws .u8 bs).drop (i*1)=ws .u8 (bs.drop i):=by simp[ws,List.map_drop]
  have c4:RdS S B 1 H v' (bs.drop i).length (ws .u8 (bs.drop i)):=fun H' hg=>by
   have:=c3 H' _ (hRd H' hg)
   rw[hw8]at this
   simpa using this
  obtain⟨H1,b1,g1,k1⟩:=h28 S K v' (bs.drop i) st hKS (by simp;omega) (by simp;omega) c2 hst H hw hK hS (fun H' hg=>hC H' (hg.weaken hB)) (fun H' hg=>c4 H' (hg.weaken hB)) Z
  have K1:=hK.gx g1 (hK.lt hw) hKS
  have e4:wr .i64 ((i:Int)+((64:Nat):Int))=((i+64:Nat):Int):=by rw[zAZ (by omega) (by omega)];simp
  obtain⟨H',r1,r2,r3⟩:=ih (i+64) (zSj C (bs.drop i) st) H1 (Z:=Z) (m:=m) (by omega) (by omega) (zQz _ _ _ hst) g1.wf (Nat.le_trans hB g1.size) K1 b1 (hC.gx (g1.weaken hB)) (hRd.gx (g1.weaken hB))
   (fr:=(T.s (T.s (T.s (T.s (T.s (T.s (T.s (T.s (T.s (T.s .leaf 2 v) 3 (.ptr K 0)) 4 (.ptr S 0)) 7 (.int .i64 (L:Int))) 8 (.int .i64 (i:Int))) 28 (.int .i64 (i:Int))) 29 (.ptr K 14)) 30 (.int .i64 ((64:Nat):Int))) 31 (.int .i64 ((i+64:Nat):Int))) 8 (.int .i64 ((i+64:Nat):Int))))
   (by rfl) (by rfl) (by rfl) (by rfl) (by rfl)
  refine⟨H',r1,g1.trans r2 g1.size,fun k=>?_⟩
  rw[zC]
  have l14:=lk32 K1 (i:=14) (by omega)
  simp only[zBJ,List.getD_cons_succ,List.getD_cons_zero]at l14
  simp only[zCN,zA f2,zA f3,zA f4,zA f7,zA f8,zI,e1,zn,c1,zN,k1,fa0,l14,zQ,e4]
  exact r3 k
theorem l8_32 (c:zD)(N:Nat)(S K B:Nat)(hKS:K≠S)(v:V)(bs C:List Nat)(hlen:bs.length<90000)(hR:Roomy v)(h28:Mix28 c C) :
  ∀ (n i:Nat) (st:List Nat) (H:Heap) (fr:T V) (Z:Tape) (m:Nat),i+n*64=bs.length->n<m->st.length=8->WF H->B<=H.size->Bx H K (ws .i64 zBJ)->Bx H S (ws .u32 st)->zGR S B H 6 (ws .u64 C)->RdS S B 1 H v bs.length (ws .u8 bs) ->
  fr.get 3=some (.ptr K 0)->fr.get 4=some (.ptr S 0)->fr.get 9=some v->fr.get 12=some (.int .i64 (i:Int)) ->
  ∃ H',Bx H' S (ws .u32 (zEx C bs n i st))/\Gx S H.size H H'/\∀ k,zW (zCj c N) m ⟨fr,H⟩ Z k=k (.exit 6) ⟨(T.s (T.s .leaf 3 (.ptr K 0)) 4 (.ptr S 0)),H'⟩ Z:=by
 intro n
 induction n with
 | zero =>
  intro i st H fr Z m ht hm hst hw hB hK hS hC hRd f3 f4 f9 f12
  obtain⟨m,rfl⟩:∃ j,m=j+1:=⟨m-1,by omega⟩
  refine⟨H,hS,Gx.refl hw,fun k=>?_⟩
  have e1:decide ((i:Int)<(bs.length:Int))=false:=decide_eq_false (by omega)
  rw[zC]
  simp only[zCj,zA f3,zA f4,zA f9,zA f12,(hRd.rd hw).pLen,zN,zI,e1,zq]
  rfl
 | succ n ih =>
  intro i st H fr Z m ht hm hst hw hB hK hS hC hRd f3 f4 f9 f12
  obtain⟨m,rfl⟩:∃ j,m=j+1:=⟨m-1,by omega⟩
  have e1:decide ((i:Int)<(bs.length:Int))=true:=decide_eq_true (by omega)
  obtain⟨v',c1,c2,_,c3⟩:=(hRd.rd hw).from hR (l:=i) (by omega)
  have hw8:(ws .u8 bs).drop (i*1)=ws .u8 (bs.drop i):=by simp[ws,List.map_drop]
  have c4:RdS S B 1 H v' (bs.drop i).length (ws .u8 (bs.drop i)):=fun H' hg=>by
   have:=c3 H' _ (hRd H' hg)
   rw[hw8]at this
   simpa using this
  obtain⟨H1,b1,g1,k1⟩:=h28 S K v' (bs.drop i) st hKS (by simp;omega) (by simp;omega) c2 hst H hw hK hS (fun H' hg=>hC H' (hg.weaken hB)) (fun H' hg=>c4 H' (hg.weaken hB)) Z
  have K1:=hK.gx g1 (hK.lt hw) hKS
  have e4:wr .i64 ((i:Int)+((64:Nat):Int))=((i+64:Nat):Int):=by rw[zAZ (by omega) (by omega)];simp
  obtain⟨H',r1,r2,r3⟩:=ih (i+64) (zSj C (bs.drop i) st) H1 (Z:=Z) (m:=m) (by omega) (by omega) (zQz _ _ _ hst) g1.wf (Nat.le_trans hB g1.size) K1 b1 (hC.gx (g1.weaken hB)) (hRd.gx (g1.weaken hB))
   (fr:=(T.s (T.s (T.s (T.s (T.s (T.s (T.s (T.s (T.s .leaf 3 (.ptr K 0)) 4 (.ptr S 0)) 9 v) 12 (.int .i64 (i:Int))) 80 (.int .i64 (i:Int))) 81 (.ptr K 14)) 82 (.int .i64 ((64:Nat):Int))) 83 (.int .i64 ((i+64:Nat):Int))) 12 (.int .i64 ((i+64:Nat):Int))))
   (by rfl) (by rfl) (by rfl) (by rfl)
  refine⟨H',r1,g1.trans r2 g1.size,fun k=>?_⟩
  rw[zC]
  have l14:=lk32 K1 (i:=14) (by omega)
  simp only[zBJ,List.getD_cons_succ,List.getD_cons_zero]at l14
  simp only[zCj,zA f3,zA f4,zA f9,zA f12,(hRd.rd hw).pLen,zI,e1,zn,c1,zN,k1,fa0,l14,zQ,e4]
  exact r3 k
end Go.Am.X

namespace Go.Am.X
theorem l12_32 (c:zD)(N:Nat)(S K B:Nat)(hKB:K<B)(v:V) :
  ∀ (n:Nat) (tl:List Nat) (t:V) (H:Heap) (fr:T V) (Z:Tape) (m:Nat),(tl.length+8+n) % 64=0->n<64->tl.length+n<100000->n<m->WF H->B<=H.size->Own H B 1 t tl.length (ws .u8 tl)->Bx H K (ws .i64 zBJ) ->
  fr.get 2=some v->fr.get 3=some (.ptr K 0)->fr.get 4=some (.ptr S 0)->fr.get 9=some t ->
  ∃ t' H' Z',Own H' B 1 t' (tl++List.replicate n 0).length (ws .u8 (tl++List.replicate n 0))/\Gr B H H'/\∀ k,zW (zCG c N) m ⟨fr,H⟩ Z k=k (.exit 2) ⟨(T.s (T.s (T.s (T.s .leaf 2 v) 3 (.ptr K 0)) 4 (.ptr S 0)) 9 t'),H'⟩ Z':=by
 intro n
 induction n with
 | zero =>
  intro tl t H fr Z m ht hn hlen hm hw hB hO hK f2 f3 f4 f9
  obtain⟨m,rfl⟩:∃ j,m=j+1:=⟨m-1,by omega⟩
  refine⟨t,H,Z,by simpa using hO,Gr.refl hw,fun k=>?_⟩
  have l15:=lk32 hK (i:=15) (by omega)
  have l14:=lk32 hK (i:=14) (by omega)
  simp only[zBJ,List.getD_cons_succ,List.getD_cons_zero]at l14 l15
  have e4:wr .i64 ((tl.length:Int)+((8:Nat):Int))=((tl.length+8:Nat):Int):=by rw[zAZ (by omega) (by omega)];simp
  have e5:((tl.length+8:Nat):Int).tmod ((64:Nat):Int)=0:=by
   rw[<- Int.ofNat_tmod];rw[show(tl.length+8) % 64=0 by omega];rfl
  have e6:((0:Int) != Int.ofNat 0)=false:=rfl
  rw[zC]
  simp only[zCG,zA f2,zA f3,zA f4,zA f9,hO.pLen,zN,fa0,l15,l14,zQ,e4,zFh _ _ ((64:Nat):Int) (by decide),e5,zCV,e6,zq]
  rfl
 | succ n ih =>
  intro tl t H fr Z m ht hn hlen hm hw hB hO hK f2 f3 f4 f9
  obtain⟨m,rfl⟩:∃ j,m=j+1:=⟨m-1,by omega⟩
  have l15:=lk32 hK (i:=15) (by omega)
  have l14:=lk32 hK (i:=14) (by omega)
  simp only[zBJ,List.getD_cons_succ,List.getD_cons_zero]at l14 l15
  have e4:wr .i64 ((tl.length:Int)+((8:Nat):Int))=((tl.length+8:Nat):Int):=by rw[zAZ (by omega) (by omega)];simp
  have e5:((tl.length+8:Nat):Int).tmod ((64:Nat):Int)=(((tl.length+8) % 64:Nat):Int):=by
   rw[<- Int.ofNat_tmod]
  have e6:((((tl.length+8) % 64:Nat):Int) != Int.ofNat 0)=true:=by
   simp only[bne_iff_ne,ne_eq]
   intro h
   have:(tl.length+8) % 64=0:=Int.ofNat.inj h
   omega
  obtain⟨w,H1,t',H2,p1,p2,p3,p4,p5⟩:=hO.push (bytes:=1) hw hB (.int .u8 ((0:Nat):Int)) (.int .u8 (.ofNat 0)) rfl rfl (by omega) (by omega) Z
  rw[zIz]at p3
  have q0:Own H2 B 1 t' (tl++[0]).length (ws .u8 (tl++[0])):=by simpa using p3
  obtain⟨t2,H',Z',r1,r2,r3⟩:=ih (tl++[0]) t' H2 (Z:=Z.tail) (m:=m) (by simp;omega) (by omega) (by simp;omega) (by omega) p4.wf (Nat.le_trans hB p4.size) q0 (hK.gr p4 hKB)
   (fr:=(T.s (T.s (T.s (T.s (T.s (T.s (T.s (T.s .leaf 2 v) 3 (.ptr K 0)) 4 (.ptr S 0)) 9 t) 52 t) 53 w) 54 t') 9 t'))
   (by rfl) (by rfl) (by rfl) (by rfl)
  have ea:tl++[0]++List.replicate n 0=tl++List.replicate (n+1) 0:=by simp[List.replicate_succ]
  rw[ea]at r1
  refine⟨t2,H',Z',r1,p4.trans r2 nl,fun k=>?_⟩
  rw[zC]
  have p1':zL 1 1 [(V.int .u8 (.ofNat 0))] [(0,1)] [(V.int .u8 (.ofNat 0))] H Z=some (w,H1,Z):=p1
  simp only[zCG,zA f2,zA f3,zA f4,zA f9,hO.pLen,zN,fa0,l15,l14,zQ,e4,zFh _ _ ((64:Nat):Int) (by decide),e5,zCV,e6,zn,p1',p2,zf]
  exact r3 k
theorem l9_32 (c:zD)(N:Nat)(S K B L:Nat)(v:V)(hL:pLen [v]=some (.int .i64 (L:Int))) :
  ∀ (n:Nat) (tl:List Nat) (t:V) (H:Heap) (fr:T V) (Z:Tape) (m:Nat),n<20->tl.length+n<200000->n<m->WF H->B<=H.size->Own H B 1 t tl.length (ws .u8 tl) ->
  fr.get 2=some v->fr.get 3=some (.ptr K 0)->fr.get 4=some (.ptr S 0)->fr.get 9=some t->fr.get 10=some (.int .i64 ((n:Int)-1)) ->
  ∃ t' H' Z',Own H' B 1 t' (tl++lens L n).length (ws .u8 (tl++lens L n))/\Gr B H H'/\∀ k,zW (zBe c N) m ⟨fr,H⟩ Z k=k (.exit 4) ⟨(T.s (T.s (T.s .leaf 3 (.ptr K 0)) 4 (.ptr S 0)) 9 t'),H'⟩ Z':=by
 intro n
 induction n with
 | zero =>
  intro tl t H fr Z m hn hlen hm hw hB hO f2 f3 f4 f9 f10
  obtain⟨m,rfl⟩:∃ j,m=j+1:=⟨m-1,by omega⟩
  refine⟨t,H,Z,by simpa [lens] using hO,Gr.refl hw,fun k=>?_⟩
  have e1:decide (Int.ofNat 0<=(((0:Nat):Int)-1))=false:=by decide
  rw[zC]
  simp only[zBe,zA f2,zA f3,zA f4,zA f9,zA f10,zt,e1,zq]
  rfl
 | succ n ih =>
  intro tl t H fr Z m hn hlen hm hw hB hO f2 f3 f4 f9 f10
  obtain⟨m,rfl⟩:∃ j,m=j+1:=⟨m-1,by omega⟩
  have en:(((n+1:Nat):Int)-1)=(n:Int):=by omega
  rw[en]at f10
  have e1:decide (Int.ofNat 0<=(n:Int))=true:=decide_eq_true (by simp)
  obtain⟨w,H1,t',H2,p1,p2,p3,p4,p5⟩:=hO.push (bytes:=1) hw hB (.int .u8 ((lenW L n:Nat):Int)) (.int .u8 (.ofNat 0)) rfl rfl (by omega) (by omega) Z
  rw[zIz]at p3
  have q0:Own H2 B 1 t' (tl++[lenW L n]).length (ws .u8 (tl++[lenW L n])):=by simpa using p3
  have e7:wr .i64 ((n:Int)-Int.ofNat 1)=(n:Int)-1:=by rw[zAZ (by simp;omega) (by simp;omega)];rfl
  obtain⟨t2,H',Z',r1,r2,r3⟩:=ih (tl++[lenW L n]) t' H2 (Z:=Z.tail) (m:=m) (by omega) (by simp;omega) (by omega) p4.wf (Nat.le_trans hB p4.size) q0
   (fr:=(T.s (T.s (T.s (T.s (T.s (T.s (T.s (T.s .leaf 2 v) 3 (.ptr K 0)) 4 (.ptr S 0)) 9 t') 10 (.int .i64 (n:Int))) 60 (.int .i64 (n:Int))) 61 (.int .i64 ((n:Int)-1))) 10 (.int .i64 ((n:Int)-1))))
   (by rfl) (by rfl) (by rfl) (by rfl) (by rfl)
  have ea:tl++[lenW L n]++lens L n=tl++lens L (n+1):=by simp[lens]
  rw[ea]at r1
  refine⟨t2,H',Z',r1,p4.trans r2 nl,fun k=>?_⟩
  rw[zC]
  by_cases h8:n<8
  ·have e2:decide ((n:Int)<Int.ofNat 8)=true:=decide_eq_true (by simp;omega)
   have e3:wr .i64 (Int.ofNat 8*(n:Int))=((8*n:Nat):Int):=by rw[zAZ (by simp;omega) (by simp;omega)];simp
   have eW:lenW L n=(L % pow2 .u64*8 % pow2 .u64 / 2 ^ min (8*n) IntKind.u64.bits) % pow2 .u8:=by unfold lenW;rw[if_pos h8]
   rw[eW]at p1
   have e6:∀ (q:V->Ans),binK .mul (.int .u64 ((L % pow2 .u64:Nat):Int)) (.int .u64 (.ofNat 8)) q=q (.int .u64 ((L % pow2 .u64*8 % pow2 .u64:Nat):Int)):=fun q=>u_mul uk64 _ 8 q
   simp only[zBe,zA f2,zA f3,zA f4,zA f9,zA f10,zt,e1,zn,zI,e2,hL,zN,zB7,uk64 L,e6,zIB,e3,zLr,uk8 _,zCM,zJ,↓reduceIte,Nat.reduceEqDiff,p1,p2,zf,zEh,zAC,e7]
   exact r3 k
  ·have e2:decide ((n:Int)<Int.ofNat 8)=false:=decide_eq_false (by simp;omega)
   have eW:lenW L n=0:=by unfold lenW;rw[if_neg h8]
   rw[eW]at p1
   have p1':zL 1 1 [(V.int .u8 (.ofNat 0))] [(0,1)] [(V.int .u8 (.ofNat 0))] H Z=some (w,H1,Z):=p1
   simp only[zBe,zA f2,zA f3,zA f4,zA f9,zA f10,zt,e1,zn,zI,e2,zq,zCM,zJ,↓reduceIte,Nat.reduceEqDiff,p1',p2,zf,zEh,zAC,e7]
   exact r3 k
theorem l7_32 (c:zD)(N:Nat)(K B x:Nat)(a88 a89:V) :
  ∀ (n:Nat) (tl:List Nat) (t:V) (H:Heap) (fr:T V) (Z:Tape) (m:Nat),n<20->tl.length+n<200000->n<m->WF H->B<=H.size->Own H B 1 t tl.length (ws .u8 tl) ->
  fr.get 3=some (.ptr K 0)->fr.get 13=some t->fr.get 15=some (.int .u32 (x:Int))->fr.get 16=some (.int .i64 (8*(n:Int)-8))->fr.get 88=some a88->fr.get 89=some a89 ->
  ∃ t' H' Z',Own H' B 1 t' (tl++zFT .u32 x n).length (ws .u8 (tl++zFT .u32 x n))/\Gr B H H'/\∀ k,zW (zCi c N) m ⟨fr,H⟩ Z k=k (.exit 10) ⟨(T.s (T.s (T.s (T.s .leaf 3 (.ptr K 0)) 13 t') 88 a88) 89 a89),H'⟩ Z':=by
 intro n
 induction n with
 | zero =>
  intro tl t H fr Z m hn hlen hm hw hB hO f3 f13 f15 f16 f88 f89
  obtain⟨m,rfl⟩:∃ j,m=j+1:=⟨m-1,by omega⟩
  refine⟨t,H,Z,by simpa [zFT] using hO,Gr.refl hw,fun k=>?_⟩
  have e1:decide (Int.ofNat 0<=(8*((0:Nat):Int)-8))=false:=by decide
  rw[zC]
  simp only[zCi,zA f3,zA f13,zA f15,zA f16,zA f88,zA f89,zt,e1,zq]
  rfl
 | succ n ih =>
  intro tl t H fr Z m hn hlen hm hw hB hO f3 f13 f15 f16 f88 f89
  obtain⟨m,rfl⟩:∃ j,m=j+1:=⟨m-1,by omega⟩
  have en:(8*((n+1:Nat):Int)-8)=((8*n:Nat):Int):=by omega
  rw[en]at f16
  have e1:decide (Int.ofNat 0<=((8*n:Nat):Int))=true:=decide_eq_true (by simp;omega)
  obtain⟨w,H1,t',H2,p1,p2,p3,p4,p5⟩:=hO.push (bytes:=1) hw hB (.int .u8 ((x / 2 ^ min (8*n) IntKind.u32.bits % pow2 .u8:Nat):Int)) (.int .u8 (.ofNat 0)) rfl rfl (by omega) (by omega) Z
  rw[zIz]at p3
  have q0:Own H2 B 1 t' (tl++[x / 2 ^ min (8*n) IntKind.u32.bits % pow2 .u8]).length (ws .u8 (tl++[x / 2 ^ min (8*n) IntKind.u32.bits % pow2 .u8])):=by simpa using p3
  have e7:wr .i64 (((8*n:Nat):Int)-Int.ofNat 8)=8*(n:Int)-8:=by rw[zAZ (by simp;omega) (by simp;omega)];simp
  obtain⟨t2,H',Z',r1,r2,r3⟩:=ih (tl++[x / 2 ^ min (8*n) IntKind.u32.bits % pow2 .u8]) t' H2 (Z:=Z.tail) (m:=m) (by omega) (by simp;omega) (by omega) p4.wf (Nat.le_trans hB p4.size) q0
   (fr:=(T.s (T.s (T.s (T.s (T.s (T.s (T.s (T.s (T.s .leaf 3 (.ptr K 0)) 13 t') 15 (.int .u32 (x:Int))) 16 (.int .i64 ((8*n:Nat):Int))) 88 a88) 89 a89) 97 (.int .i64 ((8*n:Nat):Int))) 98 (.int .i64 (8*(n:Int)-8))) 16 (.int .i64 (8*(n:Int)-8))))
   (by rfl) (by rfl) (by rfl) (by rfl) (by rfl) (by rfl)
  have ea:tl++[x / 2 ^ min (8*n) IntKind.u32.bits % pow2 .u8]++zFT .u32 x n=tl++zFT .u32 x (n+1):=by simp[zFT]
  rw[ea]at r1
  refine⟨t2,H',Z',r1,p4.trans r2 nl,fun k=>?_⟩
  rw[zC]
  simp only[zCi,zA f3,zA f13,zA f15,zA f16,zA f88,zA f89,zt,e1,zn,zLr,zB7,uk8 _,p1,p2,zf,zAC,e7]
  exact r3 k
theorem l5_32 (c:zD)(N:Nat)(hN:20<N)(K B:Nat)(hKB:K<B)(st:List Nat)(hst:st.length=8) :
  ∀ (l:List Nat) (i:Nat) (tl:List Nat) (t:V) (H:Heap) (fr:T V) (Z:Tape) (m:Nat),st.drop i=l->i<=8->tl.length+8*l.length<150000->l.length<m->WF H->B<=H.size->Own H B 1 t tl.length (ws .u8 tl)->Bx H K (ws .i64 zBJ) ->
  fr.get 3=some (.ptr K 0)->fr.get 13=some t->fr.get 88=some (.agg (ws .u32 st))->fr.get 89=some (.int .i64 (i:Int)) ->
  ∃ t' H' Z',Own H' B 1 t' (tl++outB .u32 4 l).length (ws .u8 (tl++outB .u32 4 l))/\Gr B H H'/\∀ k,zW (zCc c N) m ⟨fr,H⟩ Z k=k (.exit 8) ⟨(T.s .leaf 13 t'),H'⟩ Z':=by
 intro l
 induction l with
 | nil =>
  intro i tl t H fr Z m hd hi hlen hm hw hB hO hK f3 f13 f88 f89
  obtain⟨m,rfl⟩:∃ j,m=j+1:=⟨m-1,by omega⟩
  have:i=8:=by have:=congrArg List.length hd;simp at this;omega
  subst this
  refine⟨t,H,Z,by simpa [outB] using hO,Gr.refl hw,fun k=>?_⟩
  have e1:decide (((8:Nat):Int)<Int.ofNat 8)=false:=by decide
  rw[zC]
  simp only[zCc,zA f3,zA f13,zA f88,zA f89,zI,e1,zq]
  rfl
 | cons x l ih =>
  intro i tl t H fr Z m hd hi hlen hm hw hB hO hK f3 f13 f88 f89
  obtain⟨m,rfl⟩:∃ j,m=j+1:=⟨m-1,by omega⟩
  have hlt:i<8:=by have:=congrArg List.length hd;simp at this;omega
  have hx:st[i]?=some x:=by have:=congrArg (·[0]?) hd;simpa using this
  have hd':st.drop (i+1)=l:=by have:=congrArg (List.drop 1) hd;simpa [List.drop_drop,Nat.add_comm] using this
  have e1:decide ((i:Int)<Int.ofNat 8)=true:=decide_eq_true (by simp;omega)
  have eI:zJc 8 1 false [.agg (ws .u32 st),.int .i64 (i:Int)]=some (.int .u32 (x:Int)):=by
   have hb:Nat.blt i 8=true:=by simp[Nat.blt];omega
   simp only[zJc,zC6,hb,cond_true,partOf,Nat.mul_one]
   simp[ws,hx]
  have l0:=lk32 hK (i:=0) (by omega)
  simp only[zBJ,List.getD_cons_succ,List.getD_cons_zero]at l0
  have e8:wr .i64 (((32:Nat):Int)-Int.ofNat 8)=8*((4:Nat):Int)-8:=rfl
  obtain⟨t',H1,Z1,p1,p2,p3⟩:=l7_32 c N K B x (.agg (ws .u32 st)) (.int .i64 (i:Int)) 4 tl t H (Z:=Z) (m:=N) (by omega) (by simp at hlen;omega) (by omega) hw hB hO
   (fr:=(T.s (T.s (T.s (T.s (T.s (T.s .leaf 3 (.ptr K 0)) 13 t) 15 (.int .u32 (x:Int))) 16 (.int .i64 (8*((4:Nat):Int)-8))) 88 (.agg (ws .u32 st))) 89 (.int .i64 (i:Int))))
   (by rfl) (by rfl) (by rfl) (by rfl) (by rfl) (by rfl)
  have e4:wr .i64 ((i:Int)+Int.ofNat 1)=((i+1:Nat):Int):=by rw[zAZ (by simp;omega) (by simp;omega)];simp
  obtain⟨t2,H',Z',r1,r2,r3⟩:=ih (i+1) (tl++zFT .u32 x 4) t' H1 (Z:=Z1) (m:=m) hd' (by omega) (by simp[zPS]at hlen ⊢;omega) (by simp at hm;omega) p2.wf (Nat.le_trans hB p2.size) p1 (hK.gr p2 hKB)
   (fr:=(T.s (T.s (T.s (T.s (T.s (T.s .leaf 3 (.ptr K 0)) 13 t') 88 (.agg (ws .u32 st))) 89 (.int .i64 (i:Int))) 106 (.int .i64 ((i+1:Nat):Int))) 89 (.int .i64 ((i+1:Nat):Int))))
   (by rfl) (by rfl) (by rfl) (by rfl)
  have ea:tl++zFT .u32 x 4++outB .u32 4 l=tl++outB .u32 4 (x::l):=by simp[outB]
  rw[ea]at r1
  refine⟨t2,H',Z',r1,p2.trans r2 nl,fun k=>?_⟩
  rw[zC]
  simp only[zCc,zA f3,zA f13,zA f88,zA f89,zI,e1,zn,eI,zN,fa0,l0,zAC,e8]
  rw[p3]
  simp only[zP,Nat.beq_refl,cond_true,cond_false,seqK,zIQ,zJ,↓reduceIte,Nat.reduceEqDiff,zQ,e4]
  exact r3 k
end Go.Am.X

