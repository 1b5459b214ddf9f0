/- The abstract machine, printed functions of the program, and what they are shown to be. -/
import Derived.Test.YtejpgcemblankaaDoorIMAL3
import Derived.Test.YtejpgcemblankaaDoorIMAM4
set_option linter.unusedSimpArgs false
set_option linter.unusedVariables false
namespace Go.Am.X
theorem build8 (x0 x1 x2 x3 x4 x5 x6 x7:Int):zDw (repl 8 [(.int .u32 (.ofNat 0))]) [(0,1),(1,1),(2,1),(3,1),(4,1),(5,1),(6,1),(7,1)] [.int .u32 x0,.int .u32 x1,.int .u32 x2,.int .u32 x3,.int .u32 x4,.int .u32 x5,.int .u32 x6,.int .u32 x7]=some (.agg [.int .u32 x0,.int .u32 x1,.int .u32 x2,.int .u32 x3,.int .u32 x4,.int .u32 x5,.int .u32 x6,.int .u32 x7]):=by
 simp[zDw,zLv,repl,V.cells,List.replicate]
 rfl
theorem round32_step (c:zD)(N:Nat)(S B w K X t:Nat)(hBw:B<=w)(hBX:B<=X)(hKX:K≠X)(hwX:w≠X)(ht:t<64)(a1:V)(C W s:List Nat)(hC:C.length=80)(hW:W.length=80)(hs:s.length=8)(H:Heap)(hw:WF H)
  (hBx:Bx H w (ws .u32 W)) (hX:Bx H X (ws .u32 s)) (hK:Bx H K (ws .i64 zBJ)) (hC5:zGR S B H 6 (ws .u64 C))
  (h34:∀ (x a b d:Nat),a<=32->b<=32->d<=32->∀ H,WF H->∀ Z,∃ H',Gr H.size H H'/\∀ q,c zBM [.int .u32 (x:Int),.agg (by3 a b d),.int .i64 ((32:Nat):Int)] H Z q=q (.int .u32 (bigT .u32 x a b d 32:Nat)) H' Z)
  (fr:T V) (Z:Tape) (hBH:B<=H.size)
  (f0:fr.get 0=some (.ptr K 0)) (f1:fr.get 1=some a1) (f6:fr.get 6=some (.ptr w 0)) (f11:fr.get 11=some (.ptr X 0)) (f102:fr.get 102=some (.int .i64 (64:Nat))) (f103:fr.get 103=some (.int .i64 (t:Int))) :
  ∃ H',Bx H' X (ws .u32 (zME C W t s))/\Bx H' w (ws .u32 W)/\Bx H' K (ws .i64 zBJ)/\Gx S B H H'/\∀ k,zBo c N ⟨fr,H⟩ Z k=k .normal ⟨(T.s (T.s (T.s (T.s (T.s (T.s (T.s (T.s .leaf 0 (.ptr K 0)) 1 a1) 6 (.ptr w 0)) 11 (.ptr X 0)) 102 (.int .i64 (64:Nat))) 103 (.int .i64 (t:Int))) 199 (.int .i64 ((t+1:Nat):Int))) 103 (.int .i64 ((t+1:Nat):Int))),H'⟩ Z:=by
 obtain⟨H1,g1,k1⟩:=h34 (s.getD 4 0) 6 11 25 (by omega) (by omega) (by omega) H hw Z
 have w1:=hBx.gr g1 (hBx.lt hw)
 have X1:=hX.gr g1 (hX.lt hw)
 have K1:=hK.gr g1 (hK.lt hw)
 obtain⟨H2,g2,k2⟩:=h34 (s.getD 0 0) 2 13 22 (by omega) (by omega) (by omega) H1 g1.wf Z
 have w2:=w1.gr g2 (w1.lt g1.wf)
 have X2:=X1.gr g2 (X1.lt g1.wf)
 have K2:=K1.gr g2 (K1.lt g1.wf)
 have C0:=hC5 H (Gx.refl hw)
 have C1:=(hC5.gx (g1.weaken hBH).gx) H1 (Gx.refl g1.wf)
 obtain⟨H3,s1,s2,s3⟩:=X2.eStore g2.wf 0 (.agg (ws .u32 (zME C W t s))) 8 rfl (by rw[zAv];omega) (by omega) rfl Z
 have g3:=s3.gx' (S:=S) (B:=B) hBX
 have e8:(ws .u32 s).take 0++(V.agg (ws .u32 (zME C W t s))).cells++(ws .u32 s).drop (0+8)=ws .u32 (zME C W t s):=by
  rw[List.drop_eq_nil_of_le (by rw[zAv];omega)];simp[V.cells]
 rw[e8]at s2
 refine⟨H3,s2,w2.only s3 hwX,K2.only s3 hKX,((g1.weaken hBH).gx.trans (g2.weaken (Nat.le_trans hBH g1.size)).gx nl).trans g3 nl,fun k=>?_⟩
 have ea:∀ i:Nat,i<80->zG 80 1 [.ptr w 0,.int .i64 (i:Int)]=some (.ptr w i):=fun i hi=>by
  have:=z8 (z:=1) (id:=w) (off:=0) hi
  simpa using this
 have e5:∀ i:Nat,i<80->zG 80 1 [.ptr 6 0,.int .i64 (i:Int)]=some (.ptr 6 i):=fun i hi=>by
  have:=z8 (z:=1) (id:=6) (off:=0) hi
  simpa using this
 have e8:∀ i:Nat,i<8->zG 8 1 [.ptr X 0,.int .i64 (.ofNat i)]=some (.ptr X i):=fun i hi=>by
  have:=z8 (z:=1) (id:=X) (off:=0) hi
  simpa using this
 have e1:decide ((t:Int)<((64:Nat):Int))=true:=decide_eq_true (by omega)
 have e4:wr .i64 ((t:Int)+Int.ofNat 1)=((t+1:Nat):Int):=by rw[zAZ (by simp;omega) (by simp;omega)];simp
 have lx:∀ {H:Heap},Bx H X (ws .u32 s)->∀ j,j<8->zF [.ptr X j] H=some (.int .u32 ((s.getD j 0:Nat):Int)):=fun h j hj=>zAN h (by omega)
 have lw:∀ {H:Heap},Bx H w (ws .u32 W)->zF [.ptr w t] H=some (.int .u32 ((W.getD t 0:Nat):Int)):=fun h=>zAN h (by omega)
 have lc:∀ {H:Heap},H.cells? 6=some (ws .u64 C)->zF [.ptr 6 t] H=some (.int .u64 ((C.getD t 0:Nat):Int)):=fun h=>zg h (zQG (by omega))
 have lb:∀ {H:Heap},Bx H K (ws .i64 zBJ)->zF [.ptr K 0] H=some (.int .i64 ((32:Nat):Int)):=fun h=>zAN h (by decide)
 have l11:∀ {H:Heap},Bx H K (ws .i64 zBJ)->zV 3 [.ptr K 11] H=some (.agg (by3 6 11 25)):=fun h=>by
  simp only[zV,zAr h.cells (show 11+3<=(ws .i64 zBJ).length by decide)];rfl
 have l8:∀ {H:Heap},Bx H K (ws .i64 zBJ)->zV 3 [.ptr K 8] H=some (.agg (by3 2 13 22)):=fun h=>by
  simp only[zV,zAr h.cells (show 8+3<=(ws .i64 zBJ).length by decide)];rfl
 have nk:∀ (i o:Nat),zAn [.ptr i o]=some (.ptr i o):=fun _ _=>rfl
 have fa:∀ (i o:Nat),zH o [.ptr i 0]=some (.ptr i o):=fun _ _=>by simp[zH]
 have sh:∀ (x:Nat) q,binK .shr (.int .u64 (x:Int)) (.int .i64 (wr .i64 (Int.ofNat 64-((32:Nat):Int)))) q=q (.int .u64 ((x / 2 ^ 32:Nat):Int)):=fun x q=>zLr (k:=.u64) (k':=.i64) x 32 q
 simp only[zBo,zA f0,zA f1,zA f6,zA f11,zA f102,zA f103,zI,e1,zn,e8 0 (by omega),e8 1 (by omega),e8 2 (by omega),e8 3 (by omega),e8 4 (by omega),e8 5 (by omega),e8 6 (by omega),e8 7 (by omega),
  lx hX 0 (by omega),lx hX 1 (by omega),lx hX 2 (by omega),lx hX 4 (by omega),lx hX 5 (by omega),lx hX 6 (by omega),lx hX 7 (by omega),zN,u_and uk32,u_not uk32,zR6 uk32,nk,fa,l11 hK,lb hK,k1,zPx uk32,e5 t (by omega),lc C1,lb K1,zAC,sh,zB7,uk32 _,ea t (by omega),lw w1]
 have hc:zY [H,H1] (((.load none),[.ptr w t],0,1)::(((.load none),[.ptr K 0],0,1)::(((.load none),[.ptr 6 t],0,1)::(((.load none),[.ptr X 7],0,1)::[]))))=true:=by
  simp[zY,zFd,zLT,lw hBx,lw w1,lb hK,lb K1,lc C0,lc C1,lx hX 7,lx X1 7,chk1,same,zIV,zMo,zG3]
 rw[hc]
 simp only[cond_true,lx X1 0 (by omega),zN,l8 K1,lb K1,k2,zPx uk32,lx X2 0 (by omega),lx X2 1 (by omega),lx X2 2 (by omega),lx X2 3 (by omega),lx X2 4 (by omega),lx X2 5 (by omega),lx X2 6 (by omega)]
 simp only[zME,ws,List.map,oneT32,twoT32,addT,zNH,mostT,xorT,zKS,notT]at s1
 simp only[build8,zN,s1,zf,zQ,e4]
end Go.Am.X

namespace Go.Am.X
abbrev Big34 (c:zD):Prop:=∀ (x a b d:Nat),a<=32->b<=32->d<=32->∀ H,WF H->∀ Z,∃ H',Gr H.size H H'/\∀ q,c zBM [.int .u32 (x:Int),.agg (by3 a b d),.int .i64 ((32:Nat):Int)] H Z q=q (.int .u32 (bigT .u32 x a b d 32:Nat)) H' Z
theorem rloop32 (c:zD)(N:Nat)(S B w K X:Nat)(hBw:B<=w)(hBX:B<=X)(hKX:K≠X)(hwX:w≠X)(a1:V)(C W:List Nat)(hC:C.length=80)(hW:W.length=80)(h34:Big34 c) :
  ∀ (n t:Nat) (s:List Nat) (H:Heap) (fr:T V) (Z:Tape) (m:Nat),t+n=64->n<m->s.length=8->WF H->B<=H.size->Bx H w (ws .u32 W)->Bx H X (ws .u32 s)->Bx H K (ws .i64 zBJ)->zGR S B H 6 (ws .u64 C) ->
  fr.get 0=some (.ptr K 0)->fr.get 1=some a1->fr.get 6=some (.ptr w 0)->fr.get 11=some (.ptr X 0)->fr.get 102=some (.int .i64 (64:Nat))->fr.get 103=some (.int .i64 (t:Int)) ->
  ∃ H',Bx H' X (ws .u32 (zL9 C W n t s))/\Gx S B H H'/\∀ k,zW (zBo c N) m ⟨fr,H⟩ Z k=k (.exit 4) ⟨(T.s (T.s .leaf 1 a1) 11 (.ptr X 0)),H'⟩ Z:=by
 intro n
 induction n with
 | zero =>
  intro t s H fr Z m ht hm hs hw hBH hBx hX hK hC5 f0 f1 f6 f11 f102 f103
  obtain⟨m,rfl⟩:∃ j,m=j+1:=⟨m-1,by omega⟩
  refine⟨H,hX,Gx.refl hw,fun k=>?_⟩
  have e1:decide ((t:Int)<((64:Nat):Int))=false:=decide_eq_false (by omega)
  rw[zC]
  simp only[zBo,zA f0,zA f1,zA f6,zA f11,zA f102,zA f103,zI,e1,zq]
  rfl
 | succ n ih =>
  intro t s H fr Z m ht hm hs hw hBH hBx hX hK hC5 f0 f1 f6 f11 f102 f103
  obtain⟨m,rfl⟩:∃ j,m=j+1:=⟨m-1,by omega⟩
  obtain⟨H1,b1,b2,b3,g1,k1⟩:=round32_step c N S B w K X t hBw hBX hKX hwX (by omega) a1 C W s hC hW hs H hw hBx hX hK hC5 h34 fr Z hBH f0 f1 f6 f11 f102 f103
  obtain⟨H',r1,r2,r3⟩:=ih (t+1) (zME C W t s) H1 (Z:=Z) (m:=m) (by omega) (by omega) rfl g1.wf (Nat.le_trans hBH g1.size) b2 b1 b3 (hC5.gx g1)
   (fr:=(T.s (T.s (T.s (T.s (T.s (T.s (T.s (T.s .leaf 0 (.ptr K 0)) 1 a1) 6 (.ptr w 0)) 11 (.ptr X 0)) 102 (.int .i64 (64:Nat))) 103 (.int .i64 (t:Int))) 199 (.int .i64 ((t+1:Nat):Int))) 103 (.int .i64 ((t+1:Nat):Int))))
   (by rfl) (by rfl) (by rfl) (by rfl) (by rfl) (by rfl)
  refine⟨H',r1,g1.trans r2 nl,fun k=>?_⟩
  rw[zC,k1]
  exact r3 k
end Go.Am.X

namespace Go.Am.X
def zNU (k:IntKind)(s:List Nat):Nat->Nat->List Nat->List Nat
 | 0,_,st=>st
 | n+1,i,st=>zNU k s n (i+1) (st.set i (addT k (st.getD i 0) (s.getD i 0)))
theorem aloop32 (c:zD)(N:Nat)(S B X:Nat)(hXS:X≠S)(s:List Nat)(hs:s.length=8) :
  ∀ (n i:Nat) (st:List Nat) (H:Heap) (fr:T V) (Z:Tape) (m:Nat),i+n=8->n<m->st.length=8->WF H->Bx H S (ws .u32 st)->Bx H X (ws .u32 s) ->
  fr.get 1=some (.ptr S 0)->fr.get 11=some (.ptr X 0)->fr.get 200=some (.int .i64 (i:Int)) ->
  ∃ H',Bx H' S (ws .u32 (zNU .u32 s n i st))/\Gx S B H H'/\∀ k,zW (zDb c N) m ⟨fr,H⟩ Z k=k (.exit 6) ⟨.leaf,H'⟩ Z:=by
 intro n
 induction n with
 | zero =>
  intro i st H fr Z m ht hm hst hw hS hX f1 f11 f200
  obtain⟨m,rfl⟩:∃ j,m=j+1:=⟨m-1,by omega⟩
  refine⟨H,hS,Gx.refl hw,fun k=>?_⟩
  have e1:decide ((i:Int)<Int.ofNat 8)=false:=decide_eq_false (by simp;omega)
  rw[zC]
  simp only[zDb,zA f1,zA f11,zA f200,zI,e1,zq]
  rfl
 | succ n ih =>
  intro i st H fr Z m ht hm hst hw hS hX f1 f11 f200
  obtain⟨m,rfl⟩:∃ j,m=j+1:=⟨m-1,by omega⟩
  have e1:decide ((i:Int)<Int.ofNat 8)=true:=decide_eq_true (by simp;omega)
  have e8:∀ (Y:Nat),zG 8 1 [.ptr Y 0,.int .i64 (i:Int)]=some (.ptr Y i):=fun Y=>by
   have:=z8 (z:=1) (id:=Y) (off:=0) (show i<8 by omega)
   simpa using this
  have nk:∀ (i o:Nat),zAn [.ptr i o]=some (.ptr i o):=fun _ _=>rfl
  have e4:wr .i64 ((i:Int)+Int.ofNat 1)=((i+1:Nat):Int):=by rw[zAZ (by simp;omega) (by simp;omega)];simp
  obtain⟨H1,s1,s2,s3⟩:=hS.word hw (i:=i) (by omega) (addT .u32 (st.getD i 0) (s.getD i 0)) Z
  have g1:=s3.gx (B:=B)
  obtain⟨H',r1,r2,r3⟩:=ih (i+1) (st.set i (addT .u32 (st.getD i 0) (s.getD i 0))) H1 (Z:=Z) (m:=m) (by omega) (by omega) (by simp[hst]) s3.wf s2 (hX.only s3 hXS)
   (fr:=(T.s (T.s (T.s (T.s (T.s .leaf 1 (.ptr S 0)) 11 (.ptr X 0)) 200 (.int .i64 (i:Int))) 214 (.int .i64 ((i+1:Nat):Int))) 200 (.int .i64 ((i+1:Nat):Int))))
   (by rfl) (by rfl) (by rfl)
  refine⟨H',r1,g1.trans r2 nl,fun k=>?_⟩
  rw[zC]
  simp only[addT]at s1
  simp only[zDb,zA f1,zA f11,zA f200,zI,e1,zn,nk,e8,zN,zAN hS (show i<st.length by omega),zAN hX (show i<s.length by omega),zPx uk32,s1,zf,zQ,e4]
  exact r3 k
end Go.Am.X

namespace Go.Am.X
def zSj (C bs st:List Nat):List Nat:=zNU .u32 (zL9 C (zGN bs 64 0 (List.replicate 80 0)) 64 0 st) 8 0 st
theorem zSW (k:IntKind)(s:List Nat):∀ n i st,(zNU k s n i st).length=st.length:=by
 intro n;induction n with
 | zero=>intros;rfl
 | succ n ih=>intro i st;simp[zNU,ih]
theorem rounds32_len (C W:List Nat):∀ n t s,s.length=8->(zL9 C W n t s).length=8:=by
 intro n;induction n with
 | zero=>intro t s h;exact h
 | succ n ih=>intro t s h;exact ih _ _ rfl
theorem sched32_len (bs:List Nat):∀ n t W,(zGN bs n t W).length=W.length:=by
 intro n;induction n with
 | zero=>intros;rfl
 | succ n ih=>intro t W;rw[zGN,ih,zSV]
theorem zHZ (c:zD)(N:Nat)(hN:9223372036854775807<=N)(S K:Nat)(hKS:K≠S)(v:V)(bs st C:List Nat)(hlen:bs.length<100000)(h64:64<=bs.length)(hR:Roomy v)(hst:st.length=8)(hC:C.length=80)(h33:Lit33 c)(h34:Big34 c)
  (H:Heap) (hw:WF H) (hK:Bx H K (ws .i64 zBJ)) (hS:Bx H S (ws .u32 st)) (hC5:zGR S H.size H 6 (ws .u64 C)) (hRd:RdS S H.size 1 H v bs.length (ws .u8 bs)) (Z:Tape) :
  ∃ H',Bx H' S (ws .u32 (zSj C bs st))/\Gx S H.size H H'/\∀ q,zE8 c N (.ptr K 0) (.ptr S 0) v H Z q=q (.tup []) H' Z:=by
 have hKl:=hK.lt hw
 have hSl:=hS.lt hw
 have a1:zBK (repl 80 [(.int .u32 (.ofNat 0))]) [] H Z=some (.ptr H.size 0,H.new (ws .u32 (List.replicate 80 0)) 80 true,Z):=rfl
 have g1:=Gr.new hw (ws .u32 (List.replicate 80 0)) 80 true
 have w1:=Bx.new H (ws .u32 (List.replicate 80 0)) 80 true nl
 generalize H.new (ws .u32 (List.replicate 80 0)) 80 true=H1 at a1 g1 w1
 have K1:=hK.gr g1 hKl
 have S1:=hS.gr g1 hSl
 have hRw:RdS H.size H.size 1 H1 v bs.length (ws .u8 bs):=fun H' h=>hRd H' (g1.gx.trans (h.gr nl).gx nl)
 obtain⟨H2,w2,g2',k2⟩:=loop32 c N hN H.size H.size H.size K nl hKl (by omega) v (.ptr S 0) bs hlen h64 hR h33 64 0 (List.replicate 80 0) H1 (Z:=Z) (m:=N) (by omega) (by omega) (by simp) g1.wf g1.size w1 K1 hRw
  (fr:=(T.s (T.s (T.s (T.s (T.s (T.s (T.s .leaf 0 (.ptr K 0)) 1 (.ptr S 0)) 2 v) 6 (.ptr H.size 0)) 7 (.int .i64 (4:Nat))) 26 (.int .i64 (64:Nat))) 27 (.int .i64 (.ofNat 0))))
  (by rfl) (by rfl) (by rfl) (by rfl) (by rfl) (by rfl) (by rfl)
 have g2:=g2'.gr nl
 have g12:=g1.trans g2 nl
 have K2:=hK.gr g12 hKl
 have S2:=hS.gr g12 hSl
 have ld:zV 8 [.ptr S 0] H2=some (.agg (ws .u32 st)):=by
  simp only[zV,zAr S2.cells (show 0+8<=(ws .u32 st).length by rw[zAv];omega)]
  rw[List.drop_zero,List.take_of_length_le (by rw[zAv];omega)]
 have a2:zBK (repl 8 [(.int .u32 (.ofNat 0))]) [] H2 Z=some (.ptr H2.size 0,H2.new (ws .u32 (List.replicate 8 0)) 8 true,Z):=rfl
 have g3:=Gr.new g12.wf (ws .u32 (List.replicate 8 0)) 8 true
 have x3:=Bx.new H2 (ws .u32 (List.replicate 8 0)) 8 true nl
 generalize H2.new (ws .u32 (List.replicate 8 0)) 8 true=H3 at a2 g3 x3
 have w3:=w2.gr g3 (w2.lt g12.wf)
 have g13:=g12.trans g3 g12.size
 obtain⟨H4,s1,s2,s3⟩:=x3.eStore g3.wf 0 (.agg (ws .u32 st)) 8 (by simp only[V.cells];rw[zAv];exact hst) (by simp[zAv]) (by omega) (by simp[V.cells,ws,V.scal]) Z
 have e8:(ws .u32 (List.replicate 8 0)).take 0++(V.agg (ws .u32 st)).cells++(ws .u32 (List.replicate 8 0)).drop (0+8)=ws .u32 st:=by
  rw[List.drop_eq_nil_of_le (by simp[zAv])];simp[V.cells]
 rw[e8]at s2
 have hX:H.size<=H2.size:=g12.size
 have hwX:H.size≠H2.size:=by have:=w2.lt g12.wf;omega
 have g14:=g13.trans (s3.gr nl) hX
 have K4:=hK.gr g14 hKl
 have S4:=hS.gr g14 hSl
 have w4:=w3.only s3 hwX
 have C4:zGR H.size H.size H4 6 (ws .u64 C):=fun H' h=>hC5 H' (g14.gx.trans (h.gr nl).gx nl)
 obtain⟨H5,x5,g5',k5⟩:=rloop32 c N H.size H.size H.size K H2.size nl hX (by omega) hwX (.ptr S 0) C (zGN bs 64 0 (List.replicate 80 0)) hC (by rw[sched32_len];simp) h34 64 0 st H4 (Z:=Z) (m:=N) (by omega) (by omega) hst g14.wf g14.size w4 s2 K4 C4
  (fr:=(T.s (T.s (T.s (T.s (T.s (T.s .leaf 0 (.ptr K 0)) 1 (.ptr S 0)) 6 (.ptr H.size 0)) 11 (.ptr H2.size 0)) 102 (.int .i64 (64:Nat))) 103 (.int .i64 (.ofNat 0))))
  (by rfl) (by rfl) (by rfl) (by rfl) (by rfl) (by rfl)
 have g15:=g14.trans (g5'.gr nl) nl
 have S5:=hS.gr g15 hSl
 obtain⟨H6,r1,r2,r3⟩:=aloop32 c N S H.size H2.size (by omega) (zL9 C (zGN bs 64 0 (List.replicate 80 0)) 64 0 st) (rounds32_len _ _ _ _ _ hst) 8 0 st H5 (Z:=Z) (m:=N) (by omega) (by omega) hst g15.wf S5 x5
  (fr:=(T.s (T.s (T.s .leaf 1 (.ptr S 0)) 11 (.ptr H2.size 0)) 200 (.int .i64 (.ofNat 0))))
  (by rfl) (by rfl) (by rfl)
 refine⟨H6,r1,g15.gx.trans r2 nl,fun q=>?_⟩
 have nk:∀ (i o:Nat),zAn [.ptr i o]=some (.ptr i o):=fun _ _=>rfl
 have fa:∀ (i o:Nat),zH o [.ptr i 0]=some (.ptr i o):=fun _ _=>by simp[zH]
 have lb:∀ {H:Heap},Bx H K (ws .i64 zBJ)->zF [.ptr K 0] H=some (.int .i64 ((32:Nat):Int)):=fun h=>zAN h (by decide)
 have lr:∀ {H:Heap},Bx H K (ws .i64 zBJ)->zF [.ptr K 1] H=some (.int .i64 ((64:Nat):Int)):=fun h=>zAN h (by decide)
 have eq:wr .i64 (((32:Nat):Int).tdiv (Int.ofNat 8))=((4:Nat):Int):=rfl
 simp only[zE8,a1,zf,nk,zN,fa,lb K1,lr K1]
 rw[zI5 _ _ _ (by decide),eq,k2]
 simp only[zP,Nat.beq_refl,cond_true,seqK,zIj,zJ,↓reduceIte,Nat.reduceEqDiff,nk,zN,ld,a2,zf,s1,fa,lr K4]
 rw[k5]
 simp only[zP,Nat.beq_refl,cond_true,seqK,zIk,zJ,↓reduceIte,Nat.reduceEqDiff]
 rw[r3]
 rfl
end Go.Am.X

namespace Go.Am.X
theorem in64 (c:zD)(N:Nat)(S B w t:Nat)(hBw:B<=w)(ht:t<80)(v a0 a1 a2 a7 a26 a27:V)(bs:List Nat):∀ (l pre:List Nat) (W:List Nat) (H:Heap) (fr:T V) (Z:Tape) (m:Nat),
  bs=pre++l->bs.length<1000->W.length=80->WF H->Bx H w (ws .u64 W)->RdS S B 1 H v bs.length (ws .u8 bs)->l.length<m ->
  fr.get 0=some a0->fr.get 1=some a1->fr.get 2=some a2->fr.get 6=some (.ptr w 0)->fr.get 7=some a7->fr.get 8=some (.int .i64 (t:Int))->fr.get 26=some a26->fr.get 27=some a27 ->
  fr.get 79=some v->fr.get 80=some (.int .i64 (bs.length:Int))->fr.get 81=some (.int .i64 (pre.length:Int)) ->
  ∃ H',Bx H' w (ws .u64 (W.set t (accT .u64 (W.getD t 0) l)))/\Gx S B H H' /\
   ∀ k,zW (zDa c N) m ⟨fr,H⟩ Z k=k (.exit 2) ⟨(T.s (T.s (T.s (T.s (T.s (T.s (T.s .leaf 0 a0) 1 a1) 2 a2) 6 (.ptr w 0)) 7 a7) 26 a26) 27 a27),H'⟩ Z:=by
 intro l
 induction l with
 | nil =>
  intro pre W H fr Z m hbs hlen hW hw hBx hRd hm f0 f1 f2 f6 f7 f8 f26 f27 f79 f80 f81
  obtain⟨m,rfl⟩:∃ j,m=j+1:=⟨m-1,by omega⟩
  have e:bs.length=pre.length:=by rw[hbs];simp
  refine⟨H,?_,Gx.refl hw,fun k=>?_⟩
  ·have:W.set t (accT .u64 (W.getD t 0) [])=W:=by
    apply List.ext_getElem (by simp)
    intro i h1 h2
    rw[List.getElem_set]
    split
    ·subst_vars;simp[accT,List.getD_eq_getElem?_getD,h2]
    ·rfl
   rw[this];exact hBx
  ·rw[zC]
   have e1:decide ((pre.length:Int)<(bs.length:Int))=false:=decide_eq_false (by omega)
   simp only[zDa,zA f0,zA f1,zA f2,zA f6,zA f7,zA f8,zA f26,zA f27,zA f79,zA f80,zA f81,zI,e1,zq]
   rfl
 | cons b l ih =>
  intro pre W H fr Z m hbs hlen hW hw hBx hRd hm f0 f1 f2 f6 f7 f8 f26 f27 f79 f80 f81
  obtain⟨m,rfl⟩:∃ j,m=j+1:=⟨m-1,by omega⟩
  have e:bs.length=pre.length+(l.length+1):=by rw[hbs];simp
  have e1:decide ((pre.length:Int)<(bs.length:Int))=true:=decide_eq_true (by omega)
  obtain⟨p,p1,p2⟩:=(hRd.rd hw).elem1 (i:=pre.length) (x:=.int .u8 (b:Int)) (by rw[hbs];simp[ws])
  have l1:=zg hBx.cells (zQG (k:=.u64) (l:=W) (i:=t) (by omega))
  obtain⟨H1,s1,s2,s3⟩:=hBx.word hw (i:=t) (by omega) (lorT .u64 ((W.getD t 0*2 ^ min 8 IntKind.u64.bits) % pow2 .u64) (b % pow2 .u64)) Z
  have e3:wr .i64 ((pre.length:Int)+Int.ofNat 1)=((pre++[b]).length:Int):=by
   rw[zAZ (by first | (simp;done) | (simp;omega) | omega) (by first | (simp;done) | (simp;omega) | omega)];simp
  have hg:=s3.gx' (S:=S) (B:=B) hBw
  obtain⟨H',r1,r2,r3⟩:=ih (pre++[b]) (W.set t (lorT .u64 ((W.getD t 0*2 ^ min 8 IntKind.u64.bits) % pow2 .u64) (b % pow2 .u64))) H1
   (T.s (T.s (T.s (T.s (T.s (T.s (T.s (T.s (T.s (T.s (T.s (T.s (T.s .leaf 0 a0) 1 a1) 2 a2) 6 (.ptr w 0)) 7 a7) 8 (.int .i64 (t:Int))) 26 a26) 27 a27) 79 v) 80 (.int .i64 (bs.length:Int))) 81 (.int .i64 (pre.length:Int))) 94 (.int .i64 ((pre++[b]).length:Int))) 81 (.int .i64 ((pre++[b]).length:Int)))
   Z m (by rw[hbs];simp) hlen (by simp[hW]) s3.wf s2 (hRd.gx hg) (by simp at hm;omega)
   (by rfl) (by rfl) (by rfl) (by rfl) (by rfl) (by rfl) (by rfl) (by rfl) (by rfl) (by rfl) (by rfl)
  refine⟨H',?_,hg.trans r2 nl,fun k=>?_⟩
  ·have hq:t<W.length:=by omega
   have:(W.set t (lorT .u64 ((W.getD t 0*2 ^ min 8 IntKind.u64.bits) % pow2 .u64) (b % pow2 .u64))).getD t 0=lorT .u64 ((W.getD t 0*2 ^ min 8 IntKind.u64.bits) % pow2 .u64) (b % pow2 .u64):=by
    simp[List.getD_eq_getElem?_getD,hq]
   rw[this,List.set_set]at r1
   exact r1
  ·rw[zC]
   have ea:∀ i:Nat,i<80->zG 80 1 [.ptr w 0,.int .i64 (i:Int)]=some (.ptr w i):=fun i hi=>by
    have:=z8 (z:=1) (id:=w) (off:=0) hi
    simpa using this
   have e8:∀ (x:Nat) q,binK .shl (.int .u64 (x:Int)) (.int .u64 (.ofNat 8)) q=q (.int .u64 (((x*2 ^ (min 8 IntKind.u64.bits)) % pow2 .u64:Nat):Int)):=fun x q=>u_shl (k':=.u64) uk64 x 8 q
   simp only[zDa,zA f0,zA f1,zA f2,zA f6,zA f7,zA f8,zA f26,zA f27,zA f79,zA f80,zA f81,zI,e1,zn,p1,p2,zN,ea t ht,l1,e8,zB7,uk64 b,u_or uk64]
   simp only[<- lorT.eq_1,s1,zf,zQ,e3]
   exact r3 k
end Go.Am.X

namespace Go.Am.X
def zLk (bs:List Nat)(t:Nat)(W:List Nat):List Nat :=
 if 16<=t then W.set t (addT .u64 (addT .u64 (addT .u64 (zDl .u64 (W.getD (t-2) 0) 19 61 6 64) (W.getD (t-7) 0)) (zDl .u64 (W.getD (t-15) 0) 1 8 7 64)) (W.getD (t-16) 0))
 else W.set t (accT .u64 (W.getD t 0) ((bs.drop (t*8)).take 8))
theorem zSR (bs:List Nat)(t:Nat)(W:List Nat):(zLk bs t W).length=W.length:=by unfold zLk;split <;> simp
theorem step64a (c:zD)(N:Nat)(hN:9223372036854775807<=N)(S B w K t:Nat)(hBw:B<=w)(ht:t<16)(v a1:V)(bs:List Nat)(hlen:bs.length<100000)(h64:128<=bs.length)(W:List Nat)(hW:W.length=80)(H:Heap)(hw:WF H)
  (hBx:Bx H w (ws .u64 W)) (hR:Roomy v) (hRd:RdS S B 1 H v bs.length (ws .u8 bs)) (fr:T V) (Z:Tape)
  (f0:fr.get 0=some (.ptr K 0)) (f1:fr.get 1=some a1) (f2:fr.get 2=some v) (f6:fr.get 6=some (.ptr w 0)) (f7:fr.get 7=some (.int .i64 (8:Nat))) (f26:fr.get 26=some (.int .i64 (80:Nat))) (f27:fr.get 27=some (.int .i64 (t:Int))) :
  ∃ H',Bx H' w (ws .u64 (zLk bs t W))/\Gx S B H H'/\∀ k,zAQ c N ⟨fr,H⟩ Z k=k .normal ⟨(T.s (T.s (T.s (T.s (T.s (T.s (T.s (T.s (T.s .leaf 0 (.ptr K 0)) 1 a1) 2 v) 6 (.ptr w 0)) 7 (.int .i64 (8:Nat))) 26 (.int .i64 (80:Nat))) 27 (.int .i64 (t:Int))) 95 (.int .i64 ((t+1:Nat):Int))) 27 (.int .i64 ((t+1:Nat):Int))),H'⟩ Z:=by
 obtain⟨v',c1,c2,c3,c4⟩:=hRd.cut hw hR (l:=t*8) (m:=(t+1)*8) (by omega) (by omega)
 have e0:(t+1)*8-t*8=8:=by omega
 rw[e0]at c2 c4
 have c4':RdS S B 1 H v' ((bs.drop (t*8)).take 8).length (ws .u8 ((bs.drop (t*8)).take 8)):=by
  have:((bs.drop (t*8)).take 8).length=8:=by simp;omega
  rw[this]
  simpa [ws,List.map_take,List.map_drop] using c4
 have c5:((bs.drop (t*8)).take 8).length=8:=by simp;omega
 obtain⟨H',r1,r2,r3⟩:=in64 c N S B w t hBw (by omega) v' (.ptr K 0) a1 v (.int .i64 (8:Nat)) (.int .i64 (80:Nat)) (.int .i64 (t:Int)) ((bs.drop (t*8)).take 8) ((bs.drop (t*8)).take 8) [] W H
  (T.s (T.s (T.s (T.s (T.s (T.s (T.s (T.s (T.s (T.s (T.s .leaf 0 (.ptr K 0)) 1 a1) 2 v) 6 (.ptr w 0)) 7 (.int .i64 (8:Nat))) 8 (.int .i64 (t:Int))) 26 (.int .i64 (80:Nat))) 27 (.int .i64 (t:Int))) 79 v') 80 (.int .i64 ((8:Nat):Int))) 81 (.int .i64 (.ofNat 0)))
  Z N (by simp) (by omega) hW hw hBx c4' (by omega)
  (by rfl) (by rfl) (by rfl) (by rfl) (by rfl) (by rfl) (by rfl) (by rfl) (by rfl) (by rw[c5];simp[T.get_set]) (by rfl)
 refine⟨H',?_,r2,fun k=>?_⟩
 ·unfold zLk;rw[if_neg (by omega)];exact r1
 ·have e1:decide ((t:Int)<((80:Nat):Int))=true:=decide_eq_true (by omega)
  have e2:decide (Int.ofNat 16<=(t:Int))=false:=decide_eq_false (by simp;omega)
  have e3:wr .i64 ((t:Int)*((8:Nat):Int))=((t*8:Nat):Int):=by rw[zAZ (by omega) (by omega)];simp
  have e4:wr .i64 ((t:Int)+Int.ofNat 1)=((t+1:Nat):Int):=by rw[zAZ (by simp;omega) (by simp;omega)];simp
  have e5:wr .i64 (((t+1:Nat):Int)*((8:Nat):Int))=(((t+1)*8:Nat):Int):=by rw[zAZ (by omega) (by omega)];simp
  simp only[zAQ,zA f0,zA f1,zA f2,zA f6,zA f7,zA f26,zA f27,zI,e1,zn,zt,e2,zq,zIB,e3,zQ,e4,e5,c1,c2,zN]
  rw[r3]
  simp only[zP,Nat.beq_refl,cond_true,cond_false,seqK,zDT,zJ,↓reduceIte,Nat.reduceEqDiff,zQ,e4]
theorem step64b (c:zD)(N:Nat)(S B w K t:Nat)(hBw:B<=w)(ht:16<=t)(ht':t<80)(v a1:V)(bs:List Nat)(W:List Nat)(hW:W.length=80)(H:Heap)(hw:WF H)
  (hBx:Bx H w (ws .u64 W)) (hK:Bx H K (ws .i64 zBI)) (hKS:K≠S) (hKw:K≠w)
  (h35:∀ (x a b d:Nat),a<=64->b<=64->d<=64->∀ H,WF H->∀ Z,∃ H',Gr H.size H H'/\∀ q,c zAq [.int .u64 (x:Int),.agg (by3 a b d),.int .i64 ((64:Nat):Int)] H Z q=q (.int .u64 (zDl .u64 x a b d 64:Nat)) H' Z)
  (fr:T V) (Z:Tape) (hBH:B<=H.size)
  (f0:fr.get 0=some (.ptr K 0)) (f1:fr.get 1=some a1) (f2:fr.get 2=some v) (f6:fr.get 6=some (.ptr w 0)) (f7:fr.get 7=some (.int .i64 (8:Nat))) (f26:fr.get 26=some (.int .i64 (80:Nat))) (f27:fr.get 27=some (.int .i64 (t:Int))) :
  ∃ H',Bx H' w (ws .u64 (zLk bs t W))/\Gx S B H H'/\∀ k,zAQ c N ⟨fr,H⟩ Z k=k .normal ⟨(T.s (T.s (T.s (T.s (T.s (T.s (T.s (T.s (T.s .leaf 0 (.ptr K 0)) 1 a1) 2 v) 6 (.ptr w 0)) 7 (.int .i64 (8:Nat))) 26 (.int .i64 (80:Nat))) 27 (.int .i64 (t:Int))) 95 (.int .i64 ((t+1:Nat):Int))) 27 (.int .i64 ((t+1:Nat):Int))),H'⟩ Z:=by
 obtain⟨H1,g1,k1⟩:=h35 (W.getD (t-2) 0) 19 61 6 (by omega) (by omega) (by omega) H hw Z
 have w1:=hBx.gr g1 (hBx.lt hw)
 have K1:=hK.gr g1 (hK.lt hw)
 obtain⟨H2,g2,k2⟩:=h35 (W.getD (t-15) 0) 1 8 7 (by omega) (by omega) (by omega) H1 g1.wf Z
 have w2:=w1.gr g2 (w1.lt g1.wf)
 have K2:=K1.gr g2 (K1.lt g1.wf)
 obtain⟨H3,s1,s2,s3⟩:=w2.word g2.wf (i:=t) (by omega) (addT .u64 (addT .u64 (addT .u64 (zDl .u64 (W.getD (t-2) 0) 19 61 6 64) (W.getD (t-7) 0)) (zDl .u64 (W.getD (t-15) 0) 1 8 7 64)) (W.getD (t-16) 0)) Z
 have g3:=s3.gx' (S:=S) (B:=B) hBw
 have K3:=K2.only s3 hKw
 refine⟨H3,?_,((g1.weaken hBH).gx.trans (g2.weaken (Nat.le_trans hBH g1.size)).gx nl).trans g3 nl,fun k=>?_⟩
 ·unfold zLk;rw[if_pos ht];exact s2
 ·have ea:∀ i:Nat,i<80->zG 80 1 [.ptr w 0,.int .i64 (i:Int)]=some (.ptr w i):=fun i hi=>by
   have:=z8 (z:=1) (id:=w) (off:=0) hi
   simpa using this
  have e1:decide ((t:Int)<((80:Nat):Int))=true:=decide_eq_true (by omega)
  have e2:decide (Int.ofNat 16<=(t:Int))=true:=decide_eq_true (by simp;omega)
  have sb:∀ j:Nat,j<=16->wr .i64 ((t:Int)-Int.ofNat j)=((t-j:Nat):Int):=fun j hj=>by
   rw[zAZ (by simp;omega) (by simp;omega)];simp;omega
  have e4:wr .i64 ((t:Int)+Int.ofNat 1)=((t+1:Nat):Int):=by rw[zAZ (by simp;omega) (by simp;omega)];simp
  have lw:∀ {H:Heap},Bx H w (ws .u64 W)->∀ j,j<=16->zF [.ptr w (t-j)] H=some (.int .u64 ((W.getD (t-j) 0:Nat):Int)):=fun h j hj=>zAN h (by omega)
  have lb:∀ {H:Heap},Bx H K (ws .i64 zBI)->zF [.ptr K 0] H=some (.int .i64 ((64:Nat):Int)):=fun h=>zAN h (by decide)
  have l5:∀ {H:Heap},Bx H K (ws .i64 zBI)->zV 3 [.ptr K 5] H=some (.agg (by3 19 61 6)):=fun h=>by
   simp only[zV,zAr h.cells (show 5+3<=(ws .i64 zBI).length by decide)];rfl
  have l2:∀ {H:Heap},Bx H K (ws .i64 zBI)->zV 3 [.ptr K 2] H=some (.agg (by3 1 8 7)):=fun h=>by
   simp only[zV,zAr h.cells (show 2+3<=(ws .i64 zBI).length by decide)];rfl
  have nk:∀ (i o:Nat),zAn [.ptr i o]=some (.ptr i o):=fun _ _=>rfl
  have fa:∀ (i o:Nat),zH o [.ptr i 0]=some (.ptr i o):=fun _ _=>by simp[zH]
  simp only[addT]at s1
  simp only[zAQ,zA f0,zA f1,zA f2,zA f6,zA f7,zA f26,zA f27,zI,e1,zn,zt,e2,zAC,sb 2 (by omega),sb 7 (by omega),sb 15 (by omega),sb 16 (by omega),ea (t-2) (by omega),ea (t-7) (by omega),ea (t-15) (by omega),ea (t-16) (by omega),ea t (by omega),
   zN,lw hBx 2 (by omega),nk,fa,l5 hK,lb hK,k1,lw w1 7 (by omega),lw w1 15 (by omega),zPx uk64,l2 K1,lb K1,k2,lw w2 16 (by omega),s1,zf]
  have w3:Bx H3 w (ws .u64 (W.set t (addT .u64 (addT .u64 (addT .u64 (zDl .u64 (W.getD (t-2) 0) 19 61 6 64) (W.getD (t-7) 0)) (zDl .u64 (W.getD (t-15) 0) 1 8 7 64)) (W.getD (t-16) 0)))):=s2
  have hc:zY [H,H1,H2,H3] (((.load none),[.ptr w (t-16)],0,2)::(((.load none),[.ptr K 0],0,1)::(((.load (some 3)),[.ptr K 2],0,1)::(((.load none),[.ptr w (t-15)],0,1)::(((.load none),[.ptr w (t-7)],0,2)::[])))))=true:=by
   simp[zY,zFd,zLT,lw hBx 16,lw w1 16,lw w2 16,lw hBx 15,lw w1 15,lw hBx 7,lw w1 7,lw w2 7,lb hK,lb K1,l2 hK,l2 K1,chk1,same,zIV,zMo,zG3,by3]
  rw[hc]
  simp only[cond_true,zDT,zJ,↓reduceIte,Nat.reduceEqDiff,zQ,e4]
end Go.Am.X

namespace Go.Am.X
def zGG (bs:List Nat):Nat->Nat->List Nat->List Nat
 | 0,_,W=>W
 | n+1,t,W=>zGG bs n (t+1) (zLk bs t W)
abbrev Lit35 (c:zD):Prop:=∀ (x a b d:Nat),a<=64->b<=64->d<=64->∀ H,WF H->∀ Z,∃ H',Gr H.size H H'/\∀ q,c zAq [.int .u64 (x:Int),.agg (by3 a b d),.int .i64 ((64:Nat):Int)] H Z q=q (.int .u64 (zDl .u64 x a b d 64:Nat)) H' Z
theorem loop64 (c:zD)(N:Nat)(hN:9223372036854775807<=N)(S B w K:Nat)(hBw:B<=w)(hKB:K<B)(hKS:K≠S)(v a1:V)(bs:List Nat)(hlen:bs.length<100000)(h64:128<=bs.length)(hR:Roomy v)(h35:Lit35 c) :
  ∀ (n t:Nat) (W:List Nat) (H:Heap) (fr:T V) (Z:Tape) (m:Nat),t+n=80->n<m->W.length=80->WF H->B<=H.size->Bx H w (ws .u64 W)->Bx H K (ws .i64 zBI)->RdS S B 1 H v bs.length (ws .u8 bs) ->
  fr.get 0=some (.ptr K 0)->fr.get 1=some a1->fr.get 2=some v->fr.get 6=some (.ptr w 0)->fr.get 7=some (.int .i64 (8:Nat))->fr.get 26=some (.int .i64 (80:Nat))->fr.get 27=some (.int .i64 (t:Int)) ->
  ∃ H',Bx H' w (ws .u64 (zGG bs n t W))/\Gx S B H H'/\∀ k,zW (zAQ c N) m ⟨fr,H⟩ Z k=k (.exit 0) ⟨(T.s (T.s (T.s .leaf 0 (.ptr K 0)) 1 a1) 6 (.ptr w 0)),H'⟩ Z:=by
 intro n
 induction n with
 | zero =>
  intro t W H fr Z m ht hm hW hw hBH hBx hK hRd f0 f1 f2 f6 f7 f26 f27
  obtain⟨m,rfl⟩:∃ j,m=j+1:=⟨m-1,by omega⟩
  refine⟨H,hBx,Gx.refl hw,fun k=>?_⟩
  have e1:decide ((t:Int)<((80:Nat):Int))=false:=decide_eq_false (by omega)
  rw[zC]
  simp only[zAQ,zA f0,zA f1,zA f2,zA f6,zA f7,zA f26,zA f27,zI,e1,zq]
  rfl
 | succ n ih =>
  intro t W H fr Z m ht hm hW hw hBH hBx hK hRd f0 f1 f2 f6 f7 f26 f27
  obtain⟨m,rfl⟩:∃ j,m=j+1:=⟨m-1,by omega⟩
  obtain⟨H1,b1,g1,k1⟩:∃ H',Bx H' w (ws .u64 (zLk bs t W))/\Gx S B H H'/\∀ k,zAQ c N ⟨fr,H⟩ Z k=k .normal ⟨(T.s (T.s (T.s (T.s (T.s (T.s (T.s (T.s (T.s .leaf 0 (.ptr K 0)) 1 a1) 2 v) 6 (.ptr w 0)) 7 (.int .i64 (8:Nat))) 26 (.int .i64 (80:Nat))) 27 (.int .i64 (t:Int))) 95 (.int .i64 ((t+1:Nat):Int))) 27 (.int .i64 ((t+1:Nat):Int))),H'⟩ Z:=by
   by_cases h16:t<16
   ·exact step64a c N hN S B w K t hBw h16 v a1 bs hlen h64 W hW H hw hBx hR hRd fr Z f0 f1 f2 f6 f7 f26 f27
   ·exact step64b c N S B w K t hBw (by omega) (by omega) v a1 bs W hW H hw hBx hK hKS (by omega) h35 fr Z hBH f0 f1 f2 f6 f7 f26 f27
  obtain⟨H',r1,r2,r3⟩:=ih (t+1) (zLk bs t W) H1 (Z:=Z) (m:=m) (by omega) (by omega) (by rw[zSR,hW]) g1.wf (Nat.le_trans hBH g1.size) b1 (hK.gx g1 hKB hKS) (hRd.gx g1)
   (fr:=(T.s (T.s (T.s (T.s (T.s (T.s (T.s (T.s (T.s .leaf 0 (.ptr K 0)) 1 a1) 2 v) 6 (.ptr w 0)) 7 (.int .i64 (8:Nat))) 26 (.int .i64 (80:Nat))) 27 (.int .i64 (t:Int))) 95 (.int .i64 ((t+1:Nat):Int))) 27 (.int .i64 ((t+1:Nat):Int))))
   (by rfl) (by rfl) (by rfl) (by rfl) (by rfl) (by rfl) (by rfl)
  refine⟨H',r1,g1.trans r2 nl,fun k=>?_⟩
  rw[zC,k1]
  exact r3 k
end Go.Am.X

namespace Go.Am.X
def oneT64 (C W:List Nat)(t:Nat)(s:List Nat):Nat:=addT .u64 (addT .u64 (addT .u64 (addT .u64 (s.getD 7 0) (bigT .u64 (s.getD 4 0) 14 18 41 64)) (zNH .u64 s)) (C.getD t 0 / 2 ^ 0)) (W.getD t 0)
def twoT64 (s:List Nat):Nat:=addT .u64 (bigT .u64 (s.getD 0 0) 28 34 39 64) (mostT .u64 s)
def zL4 (C W:List Nat)(t:Nat)(s:List Nat):List Nat :=
 [addT .u64 (oneT64 C W t s) (twoT64 s),s.getD 0 0,s.getD 1 0,s.getD 2 0,addT .u64 (s.getD 3 0) (oneT64 C W t s),s.getD 4 0,s.getD 5 0,s.getD 6 0]
def zL5 (C W:List Nat):Nat->Nat->List Nat->List Nat
 | 0,_,s=>s
 | n+1,t,s=>zL5 C W n (t+1) (zL4 C W t s)
end Go.Am.X

namespace Go.Am.X
theorem build8q (x0 x1 x2 x3 x4 x5 x6 x7:Int):zDw (repl 8 [(.int .u64 (.ofNat 0))]) [(0,1),(1,1),(2,1),(3,1),(4,1),(5,1),(6,1),(7,1)] [.int .u64 x0,.int .u64 x1,.int .u64 x2,.int .u64 x3,.int .u64 x4,.int .u64 x5,.int .u64 x6,.int .u64 x7]=some (.agg [.int .u64 x0,.int .u64 x1,.int .u64 x2,.int .u64 x3,.int .u64 x4,.int .u64 x5,.int .u64 x6,.int .u64 x7]):=by
 simp[zDw,zLv,repl,V.cells,List.replicate]
 rfl
theorem round64_step (c:zD)(N:Nat)(S B w K X t:Nat)(hBw:B<=w)(hBX:B<=X)(hKX:K≠X)(hwX:w≠X)(ht:t<80)(a1:V)(C W s:List Nat)(hC:C.length=80)(hW:W.length=80)(hs:s.length=8)(H:Heap)(hw:WF H)
  (hBx:Bx H w (ws .u64 W)) (hX:Bx H X (ws .u64 s)) (hK:Bx H K (ws .i64 zBI)) (hC5:zGR S B H 6 (ws .u64 C))
  (h36:∀ (x a b d:Nat),a<=64->b<=64->d<=64->∀ H,WF H->∀ Z,∃ H',Gr H.size H H'/\∀ q,c zBO [.int .u64 (x:Int),.agg (by3 a b d),.int .i64 ((64:Nat):Int)] H Z q=q (.int .u64 (bigT .u64 x a b d 64:Nat)) H' Z)
  (fr:T V) (Z:Tape) (hBH:B<=H.size)
  (f0:fr.get 0=some (.ptr K 0)) (f1:fr.get 1=some a1) (f6:fr.get 6=some (.ptr w 0)) (f11:fr.get 11=some (.ptr X 0)) (f102:fr.get 102=some (.int .i64 (80:Nat))) (f103:fr.get 103=some (.int .i64 (t:Int))) :
  ∃ H',Bx H' X (ws .u64 (zL4 C W t s))/\Bx H' w (ws .u64 W)/\Bx H' K (ws .i64 zBI)/\Gx S B H H'/\∀ k,zBq c N ⟨fr,H⟩ Z k=k .normal ⟨(T.s (T.s (T.s (T.s (T.s (T.s (T.s (T.s .leaf 0 (.ptr K 0)) 1 a1) 6 (.ptr w 0)) 11 (.ptr X 0)) 102 (.int .i64 (80:Nat))) 103 (.int .i64 (t:Int))) 198 (.int .i64 ((t+1:Nat):Int))) 103 (.int .i64 ((t+1:Nat):Int))),H'⟩ Z:=by
 obtain⟨H1,g1,k1⟩:=h36 (s.getD 4 0) 14 18 41 (by omega) (by omega) (by omega) H hw Z
 have w1:=hBx.gr g1 (hBx.lt hw)
 have X1:=hX.gr g1 (hX.lt hw)
 have K1:=hK.gr g1 (hK.lt hw)
 obtain⟨H2,g2,k2⟩:=h36 (s.getD 0 0) 28 34 39 (by omega) (by omega) (by omega) H1 g1.wf Z
 have w2:=w1.gr g2 (w1.lt g1.wf)
 have X2:=X1.gr g2 (X1.lt g1.wf)
 have K2:=K1.gr g2 (K1.lt g1.wf)
 have C0:=hC5 H (Gx.refl hw)
 have C1:=(hC5.gx (g1.weaken hBH).gx) H1 (Gx.refl g1.wf)
 obtain⟨H3,s1,s2,s3⟩:=X2.eStore g2.wf 0 (.agg (ws .u64 (zL4 C W t s))) 8 rfl (by rw[zAv];omega) (by omega) rfl Z
 have g3:=s3.gx' (S:=S) (B:=B) hBX
 have e8:(ws .u64 s).take 0++(V.agg (ws .u64 (zL4 C W t s))).cells++(ws .u64 s).drop (0+8)=ws .u64 (zL4 C W t s):=by
  rw[List.drop_eq_nil_of_le (by rw[zAv];omega)];simp[V.cells]
 rw[e8]at s2
 refine⟨H3,s2,w2.only s3 hwX,K2.only s3 hKX,((g1.weaken hBH).gx.trans (g2.weaken (Nat.le_trans hBH g1.size)).gx nl).trans g3 nl,fun k=>?_⟩
 have ea:∀ i:Nat,i<80->zG 80 1 [.ptr w 0,.int .i64 (i:Int)]=some (.ptr w i):=fun i hi=>by
  have:=z8 (z:=1) (id:=w) (off:=0) hi
  simpa using this
 have e5:∀ i:Nat,i<80->zG 80 1 [.ptr 6 0,.int .i64 (i:Int)]=some (.ptr 6 i):=fun i hi=>by
  have:=z8 (z:=1) (id:=6) (off:=0) hi
  simpa using this
 have e8:∀ i:Nat,i<8->zG 8 1 [.ptr X 0,.int .i64 (.ofNat i)]=some (.ptr X i):=fun i hi=>by
  have:=z8 (z:=1) (id:=X) (off:=0) hi
  simpa using this
 have e1:decide ((t:Int)<((80:Nat):Int))=true:=decide_eq_true (by omega)
 have e4:wr .i64 ((t:Int)+Int.ofNat 1)=((t+1:Nat):Int):=by rw[zAZ (by simp;omega) (by simp;omega)];simp
 have lx:∀ {H:Heap},Bx H X (ws .u64 s)->∀ j,j<8->zF [.ptr X j] H=some (.int .u64 ((s.getD j 0:Nat):Int)):=fun h j hj=>zAN h (by omega)
 have lw:∀ {H:Heap},Bx H w (ws .u64 W)->zF [.ptr w t] H=some (.int .u64 ((W.getD t 0:Nat):Int)):=fun h=>zAN h (by omega)
 have lc:∀ {H:Heap},H.cells? 6=some (ws .u64 C)->zF [.ptr 6 t] H=some (.int .u64 ((C.getD t 0:Nat):Int)):=fun h=>zg h (zQG (by omega))
 have lb:∀ {H:Heap},Bx H K (ws .i64 zBI)->zF [.ptr K 0] H=some (.int .i64 ((64:Nat):Int)):=fun h=>zAN h (by decide)
 have l11:∀ {H:Heap},Bx H K (ws .i64 zBI)->zV 3 [.ptr K 11] H=some (.agg (by3 14 18 41)):=fun h=>by
  simp only[zV,zAr h.cells (show 11+3<=(ws .i64 zBI).length by decide)];rfl
 have l8:∀ {H:Heap},Bx H K (ws .i64 zBI)->zV 3 [.ptr K 8] H=some (.agg (by3 28 34 39)):=fun h=>by
  simp only[zV,zAr h.cells (show 8+3<=(ws .i64 zBI).length by decide)];rfl
 have nk:∀ (i o:Nat),zAn [.ptr i o]=some (.ptr i o):=fun _ _=>rfl
 have fa:∀ (i o:Nat),zH o [.ptr i 0]=some (.ptr i o):=fun _ _=>by simp[zH]
 have sh:∀ (x:Nat) q,binK .shr (.int .u64 (x:Int)) (.int .i64 (wr .i64 (Int.ofNat 64-((64:Nat):Int)))) q=q (.int .u64 ((x / 2 ^ 0:Nat):Int)):=fun x q=>zLr (k:=.u64) (k':=.i64) x 0 q
 simp only[zBq,zA f0,zA f1,zA f6,zA f11,zA f102,zA f103,zI,e1,zn,e8 0 (by omega),e8 1 (by omega),e8 2 (by omega),e8 3 (by omega),e8 4 (by omega),e8 5 (by omega),e8 6 (by omega),e8 7 (by omega),
  lx hX 0 (by omega),lx hX 1 (by omega),lx hX 2 (by omega),lx hX 4 (by omega),lx hX 5 (by omega),lx hX 6 (by omega),lx hX 7 (by omega),zN,u_and uk64,u_not uk64,zR6 uk64,nk,fa,l11 hK,lb hK,k1,zPx uk64,e5 t (by omega),lc C1,lb K1,zAC,sh,zB7,uk64 _,ea t (by omega),lw w1]
 have hc:zY [H,H1] (((.load none),[.ptr w t],0,1)::(((.load none),[.ptr K 0],0,1)::(((.load none),[.ptr 6 t],0,1)::(((.load none),[.ptr X 7],0,1)::[]))))=true:=by
  simp[zY,zFd,zLT,lw hBx,lw w1,lb hK,lb K1,lc C0,lc C1,lx hX 7,lx X1 7,chk1,same,zIV,zMo,zG3]
 rw[hc]
 simp only[cond_true,lx X1 0 (by omega),zN,l8 K1,lb K1,k2,zPx uk64,lx X2 0 (by omega),lx X2 1 (by omega),lx X2 2 (by omega),lx X2 3 (by omega),lx X2 4 (by omega),lx X2 5 (by omega),lx X2 6 (by omega)]
 simp only[zL4,ws,List.map,oneT64,twoT64,addT,zNH,mostT,xorT,zKS,notT]at s1
 simp only[build8q,zN,s1,zf,zQ,e4]
end Go.Am.X

namespace Go.Am.X
abbrev Big36 (c:zD):Prop:=∀ (x a b d:Nat),a<=64->b<=64->d<=64->∀ H,WF H->∀ Z,∃ H',Gr H.size H H'/\∀ q,c zBO [.int .u64 (x:Int),.agg (by3 a b d),.int .i64 ((64:Nat):Int)] H Z q=q (.int .u64 (bigT .u64 x a b d 64:Nat)) H' Z
theorem rloop64 (c:zD)(N:Nat)(S B w K X:Nat)(hBw:B<=w)(hBX:B<=X)(hKX:K≠X)(hwX:w≠X)(a1:V)(C W:List Nat)(hC:C.length=80)(hW:W.length=80)(h36:Big36 c) :
  ∀ (n t:Nat) (s:List Nat) (H:Heap) (fr:T V) (Z:Tape) (m:Nat),t+n=80->n<m->s.length=8->WF H->B<=H.size->Bx H w (ws .u64 W)->Bx H X (ws .u64 s)->Bx H K (ws .i64 zBI)->zGR S B H 6 (ws .u64 C) ->
  fr.get 0=some (.ptr K 0)->fr.get 1=some a1->fr.get 6=some (.ptr w 0)->fr.get 11=some (.ptr X 0)->fr.get 102=some (.int .i64 (80:Nat))->fr.get 103=some (.int .i64 (t:Int)) ->
  ∃ H',Bx H' X (ws .u64 (zL5 C W n t s))/\Gx S B H H'/\∀ k,zW (zBq c N) m ⟨fr,H⟩ Z k=k (.exit 4) ⟨(T.s (T.s .leaf 1 a1) 11 (.ptr X 0)),H'⟩ Z:=by
 intro n
 induction n with
 | zero =>
  intro t s H fr Z m ht hm hs hw hBH hBx hX hK hC5 f0 f1 f6 f11 f102 f103
  obtain⟨m,rfl⟩:∃ j,m=j+1:=⟨m-1,by omega⟩
  refine⟨H,hX,Gx.refl hw,fun k=>?_⟩
  have e1:decide ((t:Int)<((80:Nat):Int))=false:=decide_eq_false (by omega)
  rw[zC]
  simp only[zBq,zA f0,zA f1,zA f6,zA f11,zA f102,zA f103,zI,e1,zq]
  rfl
 | succ n ih =>
  intro t s H fr Z m ht hm hs hw hBH hBx hX hK hC5 f0 f1 f6 f11 f102 f103
  obtain⟨m,rfl⟩:∃ j,m=j+1:=⟨m-1,by omega⟩
  obtain⟨H1,b1,b2,b3,g1,k1⟩:=round64_step c N S B w K X t hBw hBX hKX hwX (by omega) a1 C W s hC hW hs H hw hBx hX hK hC5 h36 fr Z hBH f0 f1 f6 f11 f102 f103
  obtain⟨H',r1,r2,r3⟩:=ih (t+1) (zL4 C W t s) H1 (Z:=Z) (m:=m) (by omega) (by omega) rfl g1.wf (Nat.le_trans hBH g1.size) b2 b1 b3 (hC5.gx g1)
   (fr:=(T.s (T.s (T.s (T.s (T.s (T.s (T.s (T.s .leaf 0 (.ptr K 0)) 1 a1) 6 (.ptr w 0)) 11 (.ptr X 0)) 102 (.int .i64 (80:Nat))) 103 (.int .i64 (t:Int))) 198 (.int .i64 ((t+1:Nat):Int))) 103 (.int .i64 ((t+1:Nat):Int))))
   (by rfl) (by rfl) (by rfl) (by rfl) (by rfl) (by rfl)
  refine⟨H',r1,g1.trans r2 nl,fun k=>?_⟩
  rw[zC,k1]
  exact r3 k
end Go.Am.X

namespace Go.Am.X
theorem aloop64 (c:zD)(N:Nat)(S B X:Nat)(hXS:X≠S)(s:List Nat)(hs:s.length=8) :
  ∀ (n i:Nat) (st:List Nat) (H:Heap) (fr:T V) (Z:Tape) (m:Nat),i+n=8->n<m->st.length=8->WF H->Bx H S (ws .u64 st)->Bx H X (ws .u64 s) ->
  fr.get 1=some (.ptr S 0)->fr.get 11=some (.ptr X 0)->fr.get 199=some (.int .i64 (i:Int)) ->
  ∃ H',Bx H' S (ws .u64 (zNU .u64 s n i st))/\Gx S B H H'/\∀ k,zW (zDN c N) m ⟨fr,H⟩ Z k=k (.exit 6) ⟨.leaf,H'⟩ Z:=by
 intro n
 induction n with
 | zero =>
  intro i st H fr Z m ht hm hst hw hS hX f1 f11 f199
  obtain⟨m,rfl⟩:∃ j,m=j+1:=⟨m-1,by omega⟩
  refine⟨H,hS,Gx.refl hw,fun k=>?_⟩
  have e1:decide ((i:Int)<Int.ofNat 8)=false:=decide_eq_false (by simp;omega)
  rw[zC]
  simp only[zDN,zA f1,zA f11,zA f199,zI,e1,zq]
  rfl
 | succ n ih =>
  intro i st H fr Z m ht hm hst hw hS hX f1 f11 f199
  obtain⟨m,rfl⟩:∃ j,m=j+1:=⟨m-1,by omega⟩
  have e1:decide ((i:Int)<Int.ofNat 8)=true:=decide_eq_true (by simp;omega)
  have e8:∀ (Y:Nat),zG 8 1 [.ptr Y 0,.int .i64 (i:Int)]=some (.ptr Y i):=fun Y=>by
   have:=z8 (z:=1) (id:=Y) (off:=0) (show i<8 by omega)
   simpa using this
  have nk:∀ (i o:Nat),zAn [.ptr i o]=some (.ptr i o):=fun _ _=>rfl
  have e4:wr .i64 ((i:Int)+Int.ofNat 1)=((i+1:Nat):Int):=by rw[zAZ (by simp;omega) (by simp;omega)];simp
  obtain⟨H1,s1,s2,s3⟩:=hS.word hw (i:=i) (by omega) (addT .u64 (st.getD i 0) (s.getD i 0)) Z
  have g1:=s3.gx (B:=B)
  obtain⟨H',r1,r2,r3⟩:=ih (i+1) (st.set i (addT .u64 (st.getD i 0) (s.getD i 0))) H1 (Z:=Z) (m:=m) (by omega) (by omega) (by simp[hst]) s3.wf s2 (hX.only s3 hXS)
   (fr:=(T.s (T.s (T.s (T.s (T.s .leaf 1 (.ptr S 0)) 11 (.ptr X 0)) 199 (.int .i64 (i:Int))) 213 (.int .i64 ((i+1:Nat):Int))) 199 (.int .i64 ((i+1:Nat):Int))))
   (by rfl) (by rfl) (by rfl)
  refine⟨H',r1,g1.trans r2 nl,fun k=>?_⟩
  rw[zC]
  simp only[addT]at s1
  simp only[zDN,zA f1,zA f11,zA f199,zI,e1,zn,nk,e8,zN,zAN hS (show i<st.length by omega),zAN hX (show i<s.length by omega),zPx uk64,s1,zf,zQ,e4]
  exact r3 k
end Go.Am.X

namespace Go.Am.X
def zS4 (C bs st:List Nat):List Nat:=zNU .u64 (zL5 C (zGG bs 80 0 (List.replicate 80 0)) 80 0 st) 8 0 st
theorem rounds64_len (C W:List Nat):∀ n t s,s.length=8->(zL5 C W n t s).length=8:=by
 intro n;induction n with
 | zero=>intro t s h;exact h
 | succ n ih=>intro t s h;exact ih _ _ rfl
theorem sched64_len (bs:List Nat):∀ n t W,(zGG bs n t W).length=W.length:=by
 intro n;induction n with
 | zero=>intros;rfl
 | succ n ih=>intro t W;rw[zGG,ih,zSR]
theorem zHp (c:zD)(N:Nat)(hN:9223372036854775807<=N)(S K:Nat)(hKS:K≠S)(v:V)(bs st C:List Nat)(hlen:bs.length<100000)(h64:128<=bs.length)(hR:Roomy v)(hst:st.length=8)(hC:C.length=80)(h35:Lit35 c)(h36:Big36 c)
  (H:Heap) (hw:WF H) (hK:Bx H K (ws .i64 zBI)) (hS:Bx H S (ws .u64 st)) (hC5:zGR S H.size H 6 (ws .u64 C)) (hRd:RdS S H.size 1 H v bs.length (ws .u8 bs)) (Z:Tape) :
  ∃ H',Bx H' S (ws .u64 (zS4 C bs st))/\Gx S H.size H H'/\∀ q,zEs c N (.ptr K 0) (.ptr S 0) v H Z q=q (.tup []) H' Z:=by
 have hKl:=hK.lt hw
 have hSl:=hS.lt hw
 have a1:zBK (repl 80 [(.int .u64 (.ofNat 0))]) [] H Z=some (.ptr H.size 0,H.new (ws .u64 (List.replicate 80 0)) 80 true,Z):=rfl
 have g1:=Gr.new hw (ws .u64 (List.replicate 80 0)) 80 true
 have w1:=Bx.new H (ws .u64 (List.replicate 80 0)) 80 true nl
 generalize H.new (ws .u64 (List.replicate 80 0)) 80 true=H1 at a1 g1 w1
 have K1:=hK.gr g1 hKl
 have S1:=hS.gr g1 hSl
 have hRw:RdS H.size H.size 1 H1 v bs.length (ws .u8 bs):=fun H' h=>hRd H' (g1.gx.trans (h.gr nl).gx nl)
 obtain⟨H2,w2,g2',k2⟩:=loop64 c N hN H.size H.size H.size K nl hKl (by omega) v (.ptr S 0) bs hlen h64 hR h35 80 0 (List.replicate 80 0) H1 (Z:=Z) (m:=N) (by omega) (by omega) (by simp) g1.wf g1.size w1 K1 hRw
  (fr:=(T.s (T.s (T.s (T.s (T.s (T.s (T.s .leaf 0 (.ptr K 0)) 1 (.ptr S 0)) 2 v) 6 (.ptr H.size 0)) 7 (.int .i64 (8:Nat))) 26 (.int .i64 (80:Nat))) 27 (.int .i64 (.ofNat 0))))
  (by rfl) (by rfl) (by rfl) (by rfl) (by rfl) (by rfl) (by rfl)
 have g2:=g2'.gr nl
 have g12:=g1.trans g2 nl
 have K2:=hK.gr g12 hKl
 have S2:=hS.gr g12 hSl
 have ld:zV 8 [.ptr S 0] H2=some (.agg (ws .u64 st)):=by
  simp only[zV,zAr S2.cells (show 0+8<=(ws .u64 st).length by rw[zAv];omega)]
  rw[List.drop_zero,List.take_of_length_le (by rw[zAv];omega)]
 have a2:zBK (repl 8 [(.int .u64 (.ofNat 0))]) [] H2 Z=some (.ptr H2.size 0,H2.new (ws .u64 (List.replicate 8 0)) 8 true,Z):=rfl
 have g3:=Gr.new g12.wf (ws .u64 (List.replicate 8 0)) 8 true
 have x3:=Bx.new H2 (ws .u64 (List.replicate 8 0)) 8 true nl
 generalize H2.new (ws .u64 (List.replicate 8 0)) 8 true=H3 at a2 g3 x3
 have w3:=w2.gr g3 (w2.lt g12.wf)
 have g13:=g12.trans g3 g12.size
 obtain⟨H4,s1,s2,s3⟩:=x3.eStore g3.wf 0 (.agg (ws .u64 st)) 8 (by simp only[V.cells];rw[zAv];exact hst) (by simp[zAv]) (by omega) (by simp[V.cells,ws,V.scal]) Z
 have e8:(ws .u64 (List.replicate 8 0)).take 0++(V.agg (ws .u64 st)).cells++(ws .u64 (List.replicate 8 0)).drop (0+8)=ws .u64 st:=by
  rw[List.drop_eq_nil_of_le (by simp[zAv])];simp[V.cells]
 rw[e8]at s2
 have hX:H.size<=H2.size:=g12.size
 have hwX:H.size≠H2.size:=by have:=w2.lt g12.wf;omega
 have g14:=g13.trans (s3.gr nl) hX
 have K4:=hK.gr g14 hKl
 have S4:=hS.gr g14 hSl
 have w4:=w3.only s3 hwX
 have C4:zGR H.size H.size H4 6 (ws .u64 C):=fun H' h=>hC5 H' (g14.gx.trans (h.gr nl).gx nl)
 obtain⟨H5,x5,g5',k5⟩:=rloop64 c N H.size H.size H.size K H2.size nl hX (by omega) hwX (.ptr S 0) C (zGG bs 80 0 (List.replicate 80 0)) hC (by rw[sched64_len];simp) h36 80 0 st H4 (Z:=Z) (m:=N) (by omega) (by omega) hst g14.wf g14.size w4 s2 K4 C4
  (fr:=(T.s (T.s (T.s (T.s (T.s (T.s .leaf 0 (.ptr K 0)) 1 (.ptr S 0)) 6 (.ptr H.size 0)) 11 (.ptr H2.size 0)) 102 (.int .i64 (80:Nat))) 103 (.int .i64 (.ofNat 0))))
  (by rfl) (by rfl) (by rfl) (by rfl) (by rfl) (by rfl)
 have g15:=g14.trans (g5'.gr nl) nl
 have S5:=hS.gr g15 hSl
 obtain⟨H6,r1,r2,r3⟩:=aloop64 c N S H.size H2.size (by omega) (zL5 C (zGG bs 80 0 (List.replicate 80 0)) 80 0 st) (rounds64_len _ _ _ _ _ hst) 8 0 st H5 (Z:=Z) (m:=N) (by omega) (by omega) hst g15.wf S5 x5
  (fr:=(T.s (T.s (T.s .leaf 1 (.ptr S 0)) 11 (.ptr H2.size 0)) 199 (.int .i64 (.ofNat 0))))
  (by rfl) (by rfl) (by rfl)
 refine⟨H6,r1,g15.gx.trans r2 nl,fun q=>?_⟩
 have nk:∀ (i o:Nat),zAn [.ptr i o]=some (.ptr i o):=fun _ _=>rfl
 have fa:∀ (i o:Nat),zH o [.ptr i 0]=some (.ptr i o):=fun _ _=>by simp[zH]
 have lb:∀ {H:Heap},Bx H K (ws .i64 zBI)->zF [.ptr K 0] H=some (.int .i64 ((64:Nat):Int)):=fun h=>zAN h (by decide)
 have lr:∀ {H:Heap},Bx H K (ws .i64 zBI)->zF [.ptr K 1] H=some (.int .i64 ((80:Nat):Int)):=fun h=>zAN h (by decide)
 have eq:wr .i64 (((64:Nat):Int).tdiv (Int.ofNat 8))=((8:Nat):Int):=rfl
 simp only[zEs,a1,zf,nk,zN,fa,lb K1,lr K1]
 rw[zI5 _ _ _ (by decide),eq,k2]
 simp only[zP,Nat.beq_refl,cond_true,seqK,zIZ,zJ,↓reduceIte,Nat.reduceEqDiff,nk,zN,ld,a2,zf,s1,fa,lr K4]
 rw[k5]
 simp only[zP,Nat.beq_refl,cond_true,seqK,zIb,zJ,↓reduceIte,Nat.reduceEqDiff]
 rw[r3]
 rfl
end Go.Am.X

