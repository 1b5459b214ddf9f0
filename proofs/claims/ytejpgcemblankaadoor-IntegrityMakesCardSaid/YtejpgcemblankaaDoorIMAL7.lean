/- The abstract machine, printed functions of the program, and what they are shown to be. -/
import Derived.Test.YtejpgcemblankaaDoorIMAL6
import Derived.Test.YtejpgcemblankaaDoorIMAM4
set_option linter.unusedSimpArgs false
set_option linter.unusedVariables false
namespace Go.Am.X
def zA0 (bits:Nat):List Nat:=if bits=32 then [7,18,3,17,19,10,2,13,22,6,11,25]else [1,8,7,19,61,6,28,34,39,14,18,41]
def zC8 (bits:Nat):Nat:=if bits=32 then 64 else 80
theorem zLu (bits:Nat):(zA0 bits).length=12:=by unfold zA0;split <;> rfl
theorem turnsR_le {bits:Nat}(hb:bits=32∨bits=64):∀ i,i<12->(zA0 bits).getD i 0<=bits:=by
 rcases hb with rfl | rfl <;>(intro i hi;match i,hi with
  | 0,_=>decide | 1,_=>decide | 2,_=>decide | 3,_=>decide | 4,_=>decide | 5,_=>decide | 6,_=>decide | 7,_=>decide | 8,_=>decide | 9,_=>decide | 10,_=>decide | 11,_=>decide)
theorem ai80 (X:Nat){i:Nat}(h:i<80):zG 80 1 [.ptr X 0,.int .i64 (i:Int)]=some (.ptr X i):=by
 have:=z8 (z:=1) (id:=X) (off:=0) h
 simpa using this
theorem ai12 (X:Nat){i:Nat}(h:i<12):zG 12 1 [.ptr X 0,.int .i64 (.ofNat i)]=some (.ptr X i):=by
 have:=z8 (z:=1) (id:=X) (off:=0) h
 simpa using this
theorem ai8 (X:Nat){i:Nat}(h:i<8):zG 8 1 [.ptr X 0,.int .i64 (.ofNat i)]=some (.ptr X i):=by
 have:=z8 (z:=1) (id:=X) (off:=0) h
 simpa using this
theorem ai8' (X:Nat){i:Nat}(h:i<8):zG 8 1 [.ptr X 0,.int .i64 (i:Int)]=some (.ptr X i):=ai8 X h
theorem l_ref8_Newb (c:zD)(N:Nat)(x size t:Nat)(hsz:size<=8)(ht:t<16)(v a0 a5 a6 a8 a10 a11:V)(bs:List Nat)(hlen:bs.length<100000)(chunk:List Nat)(hch:chunk=(bs.drop (t*size)).take size)(hcl:chunk.length=size) :
  ∀ (l pre X:List Nat) (H:Heap) (fr:T V) (Z:Tape) (m:Nat),chunk=pre++l->l.length<m->X.length=80->WF H->Bx H x (ws .u64 X)->(∀ H',Chg (fun i=>i=x) H H'->Rd H' 1 v bs.length (ws .u8 bs)) ->
  fr.get 0=some a0->fr.get 3=some v->fr.get 5=some a5->fr.get 6=some a6->fr.get 8=some a8->fr.get 9=some (.int .i64 (size:Int))->fr.get 10=some a10->fr.get 11=some a11->fr.get 12=some (.ptr x 0)->fr.get 13=some (.int .i64 (t:Int))->fr.get 14=some (.int .i64 (pre.length:Int)) ->
  ∃ H',Bx H' x (ws .u64 (X.set t (accT .u64 (X.getD t 0) l)))/\Chg (fun i=>i=x) H H' /\
   ∀ k,zW (zDQ c N) m ⟨fr,H⟩ Z k=k (.exit 2) ⟨(T.s (T.s (T.s (T.s (T.s (T.s (T.s (T.s (T.s (T.s .leaf 0 a0) 3 v) 5 a5) 6 a6) 8 a8) 9 (.int .i64 (size:Int))) 10 a10) 11 a11) 12 (.ptr x 0)) 13 (.int .i64 (t:Int))),H'⟩ Z:=by
 intro l
 induction l with
 | nil =>
  intro pre X H fr Z m hc hm hX hw hb hR f0 f3 f5 f6 f8 f9 f10 f11 f12 f13 f14
  obtain⟨m,rfl⟩:∃ j,m=j+1:=⟨m-1,by omega⟩
  refine⟨H,?_,Chg.refl hw,fun k=>?_⟩
  ·have:X.set t (accT .u64 (X.getD t 0) [])=X:=by
    apply List.ext_getElem (by simp)
    intro i h1 h2
    rw[List.getElem_set]
    split
    ·subst_vars;simp[accT,List.getD_eq_getElem?_getD,h2]
    ·rfl
   rw[this];exact hb
  ·have hp:pre.length=size:=by rw[<- hcl,hc];simp
   have e1:decide ((pre.length:Int)<(size:Int))=false:=decide_eq_false (by omega)
   rw[zC]
   simp only[zDQ,zA f0,zA f3,zA f5,zA f6,zA f8,zA f9,zA f10,zA f11,zA f12,zA f13,zA f14,zI,e1,zq]
   rfl
 | cons b l ih =>
  intro pre X H fr Z m hc hm hX hw hb hR f0 f3 f5 f6 f8 f9 f10 f11 f12 f13 f14
  obtain⟨m,rfl⟩:∃ j,m=j+1:=⟨m-1,by omega⟩
  have hp:pre.length+(l.length+1)=size:=by rw[<- hcl,hc];simp
  have e1:decide ((pre.length:Int)<(size:Int))=true:=decide_eq_true (by omega)
  have hts:t*size<=128:=Nat.le_trans (Nat.mul_le_mul (by omega:t<=16) hsz) (by omega)
  have hbx:bs[t*size+pre.length]?=some b:=by
   have h1:chunk[pre.length]?=some b:=by rw[hc];simp
   rw[hch,List.getElem?_take_of_lt (by omega),List.getElem?_drop]at h1
   exact h1
  obtain⟨p,p1,p2⟩:=(hR H (Chg.refl hw)).elem1 (i:=t*size+pre.length) (x:=.int .u8 (b:Int)) (by simp[ws,hbx])
  obtain⟨H1,s1,s2,s3⟩:=hb.word hw (i:=t) (by omega) (lorT .u64 ((X.getD t 0*2 ^ min 8 IntKind.u64.bits) % pow2 .u64) (b % pow2 .u64)) Z
  have g1:Chg (fun i=>i=x) H H1:=s3.chg rfl
  have e3:wr .i64 ((pre.length:Int)+Int.ofNat 1)=((pre++[b]).length:Int):=by
   rw[zAZ (by simp;omega) (by simp;omega)];simp
  have em:wr .i64 ((t:Int)*(size:Int))=((t*size:Nat):Int):=by
   rw[<- Int.natCast_mul,zAZ (by omega) (by omega)]
  obtain⟨H',r1,r2,r3⟩:=ih (pre++[b]) (X.set t (lorT .u64 ((X.getD t 0*2 ^ min 8 IntKind.u64.bits) % pow2 .u64) (b % pow2 .u64))) H1
   (T.s (T.s (T.s (T.s (T.s (T.s (T.s (T.s (T.s (T.s (T.s (T.s (T.s (T.s .leaf 0 a0) 3 v) 5 a5) 6 a6) 8 a8) 9 (.int .i64 (size:Int))) 10 a10) 11 a11) 12 (.ptr x 0)) 13 (.int .i64 (t:Int))) 14 (.int .i64 (pre.length:Int))) 37 (.int .i64 (pre.length:Int))) 38 (.int .i64 ((pre++[b]).length:Int))) 14 (.int .i64 ((pre++[b]).length:Int)))
   Z m (by rw[hc];simp) (by simp at hm;omega) (by simp[hX]) s3.wf s2 (fun H' h=>hR H' (g1.trans h fun _ _ q=>q))
   (by rfl) (by rfl) (by rfl) (by rfl) (by rfl) (by rfl) (by rfl) (by rfl) (by rfl) (by rfl) (by rfl)
  refine⟨H',?_,g1.trans r2 fun _ _ q=>q,fun k=>?_⟩
  ·have hq:t<X.length:=by omega
   have:(X.set t (lorT .u64 ((X.getD t 0*2 ^ min 8 IntKind.u64.bits) % pow2 .u64) (b % pow2 .u64))).getD t 0=lorT .u64 ((X.getD t 0*2 ^ min 8 IntKind.u64.bits) % pow2 .u64) (b % pow2 .u64):=by
    simp[List.getD_eq_getElem?_getD,hq]
   rw[this,List.set_set]at r1
   exact r1
  ·have e8:∀ (x:Nat) q,binK .shl (.int .u64 (x:Int)) (.int .u64 (.ofNat 8)) q=q (.int .u64 (((x*2 ^ (min 8 IntKind.u64.bits)) % pow2 .u64:Nat):Int)):=fun x q=>u_shl (k':=.u64) uk64 x 8 q
   have lorE:∀ (q:V->Ans) (x y:Nat),binK .or (.int .u64 (x:Int)) (.int .u64 (y:Int)) q=q (.int .u64 ((lorT .u64 x y:Nat):Int)):=fun q x y=>u_or uk64 x y q
   rw[zC]
   simp only[zDQ,zA f0,zA f3,zA f5,zA f6,zA f8,zA f9,zA f10,zA f11,zA f12,zA f13,zA f14,zI,e1,zn,ai80 _ (show t<80 by omega),zN,zAN hb (show t<X.length by omega),e8,zIB,em,zQ,adN (show t*size+pre.length<1000000 by omega),p1,p2,zB7,uk64 b,lorE,s1,zf,e3]
   exact r3 k
def zTF (size:Nat)(bs:List Nat):Nat->Nat->List Nat->List Nat
 | 0,_,X=>X
 | n+1,t,X=>zTF size bs n (t+1) (X.set t (accT .u64 (X.getD t 0) ((bs.drop (t*size)).take size)))
theorem initR_len (size:Nat)(bs:List Nat):∀ n t X,(zTF size bs n t X).length=X.length:=by
 intro n;induction n with
 | zero=>intros;rfl
 | succ n ih=>intro t X;rw[zTF,ih];simp
theorem zTG (c:zD)(N:Nat)(hN:1000<N)(x size:Nat)(hsz:size<=8)(v a0 a5 a6 a8 a10 a11:V)(bs:List Nat)(hlen:bs.length<100000)(h16:16*size<=bs.length) :
  ∀ (n t:Nat) (X:List Nat) (H:Heap) (fr:T V) (Z:Tape) (m:Nat),t+n=16->n<m->X.length=80->WF H->Bx H x (ws .u64 X)->(∀ H',Chg (fun i=>i=x) H H'->Rd H' 1 v bs.length (ws .u8 bs)) ->
  fr.get 0=some a0->fr.get 3=some v->fr.get 5=some a5->fr.get 6=some a6->fr.get 8=some a8->fr.get 9=some (.int .i64 (size:Int))->fr.get 10=some a10->fr.get 11=some a11->fr.get 12=some (.ptr x 0)->fr.get 13=some (.int .i64 (t:Int)) ->
  ∃ H',Bx H' x (ws .u64 (zTF size bs n t X))/\Chg (fun i=>i=x) H H' /\
   ∀ k,zW (zDU c N) m ⟨fr,H⟩ Z k=k (.exit 0) ⟨(T.s (T.s (T.s (T.s (T.s (T.s (T.s (T.s .leaf 0 a0) 5 a5) 6 a6) 8 a8) 9 (.int .i64 (size:Int))) 10 a10) 11 a11) 12 (.ptr x 0)),H'⟩ Z:=by
 intro n
 induction n with
 | zero =>
  intro t X H fr Z m hn hm hX hw hb hR f0 f3 f5 f6 f8 f9 f10 f11 f12 f13
  obtain⟨m,rfl⟩:∃ j,m=j+1:=⟨m-1,by omega⟩
  refine⟨H,hb,Chg.refl hw,fun k=>?_⟩
  have e1:decide ((t:Int)<Int.ofNat 16)=false:=decide_eq_false (by simp;omega)
  rw[zC]
  simp only[zDU,zA f0,zA f3,zA f5,zA f6,zA f8,zA f9,zA f10,zA f11,zA f12,zA f13,zI,e1,zq]
  rfl
 | succ n ih =>
  intro t X H fr Z m hn hm hX hw hb hR f0 f3 f5 f6 f8 f9 f10 f11 f12 f13
  obtain⟨m,rfl⟩:∃ j,m=j+1:=⟨m-1,by omega⟩
  have e1:decide ((t:Int)<Int.ofNat 16)=true:=decide_eq_true (by simp;omega)
  have hcl:((bs.drop (t*size)).take size).length=size:=by
   have:(t+1)*size<=16*size:=Nat.mul_le_mul_right _ (by omega)
   rw[Nat.add_mul,Nat.one_mul]at this
   rw[List.length_take,List.length_drop];omega
  obtain⟨H1,b1,g1,k1⟩:=l_ref8_Newb c N x size t hsz (by omega) v a0 a5 a6 a8 a10 a11 bs hlen _ rfl hcl ((bs.drop (t*size)).take size) [] X H
   (T.s (T.s (T.s (T.s (T.s (T.s (T.s (T.s (T.s (T.s (T.s .leaf 0 a0) 3 v) 5 a5) 6 a6) 8 a8) 9 (.int .i64 (size:Int))) 10 a10) 11 a11) 12 (.ptr x 0)) 13 (.int .i64 (t:Int))) 14 (.int .i64 (.ofNat 0)))
   Z N rfl (by omega) hX hw hb hR
   (by rfl) (by rfl) (by rfl) (by rfl) (by rfl) (by rfl) (by rfl) (by rfl) (by rfl) (by rfl) (by rfl)
  have e4:wr .i64 ((t:Int)+Int.ofNat 1)=((t+1:Nat):Int):=adN (k:=1) (by omega)
  obtain⟨H',r1,r2,r3⟩:=ih (t+1) _ H1
   (T.s (T.s (T.s (T.s (T.s (T.s (T.s (T.s (T.s (T.s (T.s (T.s (T.s .leaf 0 a0) 3 v) 5 a5) 6 a6) 8 a8) 9 (.int .i64 (size:Int))) 10 a10) 11 a11) 12 (.ptr x 0)) 13 (.int .i64 (t:Int))) 32 (.int .i64 (t:Int))) 33 (.int .i64 ((t+1:Nat):Int))) 13 (.int .i64 ((t+1:Nat):Int)))
   Z m (by omega) (by omega) (by simp[hX]) g1.wf b1 (fun H' h=>hR H' (g1.trans h fun _ _ q=>q))
   (by rfl) (by rfl) (by rfl) (by rfl) (by rfl) (by rfl) (by rfl) (by rfl) (by rfl) (by rfl)
  refine⟨H',r1,g1.trans r2 fun _ _ q=>q,fun k=>?_⟩
  rw[zC]
  simp only[zDU,zA f0,zA f3,zA f5,zA f6,zA f8,zA f9,zA f10,zA f11,zA f12,zA f13,zI,e1,zn]
  rw[k1]
  simp only[zP,Nat.beq_refl,cond_true,cond_false,seqK,zIg,zJ,↓reduceIte,Nat.reduceEqDiff,zQ,e4]
  exact r3 k
abbrev Mix32 (c:zD):Prop:=∀ (bits x a b d:Nat) (shift:Bool),a<=bits->b<=bits->d<=bits->bits<=64->∀ (H:Heap),WF H->∀ Z,∃ H',Gr H.size H H'/\∀ q,c zDF [.agg [.int .u64 (bits:Int)],.int .u64 (x:Int),.int .u64 (a:Int),.int .u64 (b:Int),.int .u64 (d:Int),.bool shift] H Z q=q (.int .u64 (mixW bits x a b d shift:Nat)) H' Z
def expR1 (bits:Nat)(X:List Nat)(t:Nat):Nat :=
 cutT bits (addT .u64 (addT .u64 (addT .u64 (mixW bits (X.getD (t-2) 0) ((zA0 bits).getD 3 0) ((zA0 bits).getD 4 0) ((zA0 bits).getD 5 0) true) (X.getD (t-7) 0)) (mixW bits (X.getD (t-15) 0) ((zA0 bits).getD 0 0) ((zA0 bits).getD 1 0) ((zA0 bits).getD 2 0) true)) (X.getD (t-16) 0))
def expR (bits:Nat):Nat->Nat->List Nat->List Nat
 | 0,_,X=>X
 | n+1,t,X=>expR bits n (t+1) (X.set t (expR1 bits X t))
theorem expR_len (bits:Nat):∀ n t X,(expR bits n t X).length=X.length:=by
 intro n;induction n with
 | zero=>intros;rfl
 | succ n ih=>intro t X;rw[expR,ih];simp
theorem zRg (c:zD)(N:Nat)(h32:Mix32 c)(h31:Cut31 c)(bits:Nat)(hbits:bits=32∨bits=64)(x w s rounds:Nat)(hr:rounds<=80)(hws:w≠x)(hsx:s≠x)(a0 a6 a8 a9:V) :
  ∀ (n t:Nat) (X:List Nat) (H:Heap) (fr:T V) (Z:Tape) (m:Nat),16<=t->t+n=rounds->n<m->X.length=80->WF H->Bx H x (ws .u64 X)->Bx H w [.int .u64 (bits:Int)]->Bx H s (ws .u64 (zA0 bits)) ->
  fr.get 0=some a0->fr.get 5=some (.ptr w 0)->fr.get 6=some a6->fr.get 8=some a8->fr.get 9=some a9->fr.get 10=some (.int .i64 (rounds:Int))->fr.get 11=some (.ptr s 0)->fr.get 12=some (.ptr x 0)->fr.get 15=some (.int .i64 (t:Int)) ->
  ∃ H',Bx H' x (ws .u64 (expR bits n t X))/\Chg (fun i=>i=x) H H' /\
   ∀ k,zW (zD4 c N) m ⟨fr,H⟩ Z k=k (.exit 4) ⟨(T.s (T.s (T.s (T.s (T.s (T.s (T.s (T.s .leaf 0 a0) 5 (.ptr w 0)) 6 a6) 8 a8) 9 a9) 10 (.int .i64 (rounds:Int))) 11 (.ptr s 0)) 12 (.ptr x 0)),H'⟩ Z:=by
 intro n
 induction n with
 | zero =>
  intro t X H fr Z m h16 hn hm hX hw hb hbw hbs f0 f5 f6 f8 f9 f10 f11 f12 f15
  obtain⟨m,rfl⟩:∃ j,m=j+1:=⟨m-1,by omega⟩
  refine⟨H,hb,Chg.refl hw,fun k=>?_⟩
  have e1:decide ((t:Int)<(rounds:Int))=false:=decide_eq_false (by omega)
  rw[zC]
  simp only[zD4,zA f0,zA f5,zA f6,zA f8,zA f9,zA f10,zA f11,zA f12,zA f15,zI,e1,zq]
  rfl
 | succ n ih =>
  intro t X H fr Z m h16 hn hm hX hw hb hbw hbs f0 f5 f6 f8 f9 f10 f11 f12 f15
  obtain⟨m,rfl⟩:∃ j,m=j+1:=⟨m-1,by omega⟩
  have e1:decide ((t:Int)<(rounds:Int))=true:=decide_eq_true (by omega)
  have h64:bits<=64:=by omega
  have tl:=turnsR_le hbits
  obtain⟨H1,g1,k1⟩:=h32 bits (X.getD (t-2) 0) ((zA0 bits).getD 3 0) ((zA0 bits).getD 4 0) ((zA0 bits).getD 5 0) true (tl 3 (by omega)) (tl 4 (by omega)) (tl 5 (by omega)) h64 H hw Z
  obtain⟨H2,g2,k2⟩:=h32 bits (X.getD (t-15) 0) ((zA0 bits).getD 0 0) ((zA0 bits).getD 1 0) ((zA0 bits).getD 2 0) true (tl 0 (by omega)) (tl 1 (by omega)) (tl 2 (by omega)) h64 H1 g1.wf Z
  obtain⟨H3,g3,k3⟩:=h31 bits (addT .u64 (addT .u64 (addT .u64 (mixW bits (X.getD (t-2) 0) ((zA0 bits).getD 3 0) ((zA0 bits).getD 4 0) ((zA0 bits).getD 5 0) true) (X.getD (t-7) 0)) (mixW bits (X.getD (t-15) 0) ((zA0 bits).getD 0 0) ((zA0 bits).getD 1 0) ((zA0 bits).getD 2 0) true)) (X.getD (t-16) 0)) H2 g2.wf Z
  have x1:=hb.gr g1 (hb.lt hw)
  have x2:=x1.gr g2 (x1.lt g1.wf)
  have x3:=x2.gr g3 (x2.lt g2.wf)
  have w1:=hbw.gr g1 (hbw.lt hw)
  have w2:=w1.gr g2 (w1.lt g1.wf)
  have w3:=w2.gr g3 (w2.lt g2.wf)
  have s1:=hbs.gr g1 (hbs.lt hw)
  have s2:=s1.gr g2 (s1.lt g1.wf)
  have s3:=s2.gr g3 (s2.lt g2.wf)
  obtain⟨H4,u1,u2,u3⟩:=x3.word g3.wf (i:=t) (by omega) (expR1 bits X t) Z
  have w4:=w3.only u3 hws
  have s4:=s3.only u3 hsx
  have g4:Chg (fun i=>i=x) H H4:=(((g1.chg (P:=fun i=>i=x)).trans (g2.chg (P:=fun i=>i=x)) fun _ _ q=>q).trans (g3.chg (P:=fun i=>i=x)) fun _ _ q=>q).trans (u3.chg (P:=fun i=>i=x) rfl) fun _ _ q=>q
  have e4:wr .i64 ((t:Int)+Int.ofNat 1)=((t+1:Nat):Int):=adN (k:=1) (by omega)
  have sb:∀ j:Nat,j<=16->wr .i64 ((t:Int)-Int.ofNat j)=((t-j:Nat):Int):=fun j hj=>by
   rw[zAZ (by simp;omega) (by simp;omega)];simp;omega
  obtain⟨H',r1,r2,r3⟩:=ih (t+1) _ H4
   (T.s (T.s (T.s (T.s (T.s (T.s (T.s (T.s (T.s (T.s (T.s (T.s .leaf 0 a0) 5 (.ptr w 0)) 6 a6) 8 a8) 9 a9) 10 (.int .i64 (rounds:Int))) 11 (.ptr s 0)) 12 (.ptr x 0)) 15 (.int .i64 (t:Int))) 58 (.int .i64 (t:Int))) 59 (.int .i64 ((t+1:Nat):Int))) 15 (.int .i64 ((t+1:Nat):Int)))
   Z m (by omega) (by omega) (by omega) (by simp[hX]) u3.wf u2 w4 s4
   (by rfl) (by rfl) (by rfl) (by rfl) (by rfl) (by rfl) (by rfl) (by rfl) (by rfl)
  refine⟨H',r1,g4.trans r2 fun _ _ q=>q,fun k=>?_⟩
  have lw:∀ {K:Heap},Bx K w [.int .u64 (bits:Int)]->zV 1 [.ptr w 0] K=some (.agg [.int .u64 (bits:Int)]):=fun h=>zA1 (off:=0) (n:=1) h.cells (by simp)
  have lx:∀ {K:Heap},Bx K x (ws .u64 X)->∀ j,j<=16->zF [.ptr x (t-j)] K=some (.int .u64 ((X.getD (t-j) 0:Nat):Int)):=fun h j hj=>zAN h (by omega)
  have ls:∀ {K:Heap},Bx K s (ws .u64 (zA0 bits))->∀ j,j<12->zF [.ptr s j] K=some (.int .u64 (((zA0 bits).getD j 0:Nat):Int)):=fun h j hj=>zAN h (by rw[zLu];exact hj)
  have addE:∀ (q:V->Ans) (x y:Nat),binK .add (.int .u64 (x:Int)) (.int .u64 (y:Int)) q=q (.int .u64 ((addT .u64 x y:Nat):Int)):=fun q x y=>zPx uk64 x y q
  have x4:∀ j,0<j->j<=16->zF [.ptr x (t-j)] H4=some (.int .u64 ((X.getD (t-j) 0:Nat):Int)):=fun j hj hj'=>by
   have:=zAN u2 (i:=t-j) (by simp;omega)
   rw[this]
   simp[List.getD_eq_getElem?_getD,List.getElem?_set_ne (show t≠t-j by omega)]
  have hc:zY [H,H1,H2,H3,H4] (((.load none),[.ptr x (t-16)],0,2)::(((.load none),[.ptr s 2],0,1)::(((.load none),[.ptr s 1],0,1)::(((.load none),[.ptr s 0],0,1)::(((.load none),[.ptr x (t-15)],0,1)::(((.load (some 1)),[.ptr w 0],0,1)::(((.load none),[.ptr x (t-7)],0,2)::(((.load (some 1)),[.ptr w 0],0,2)::[]))))))))=true:=by
   simp[zY,zFd,zLT,lx hb,lx x1,lx x2,lw hbw,lw w1,lw w2,ls hbs,ls s1,ls s2,chk1,same,zIV,zMo,zG3]
  unfold expR1 at u1
  rw[zC]
  simp only[zD4,zA f0,zA f5,zA f6,zA f8,zA f9,zA f10,zA f11,zA f12,zA f15,zI,e1,zn,lw hbw,zN,zAC,sb 2 (by omega),sb 7 (by omega),sb 15 (by omega),sb 16 (by omega),ai80 _ (show t-2<80 by omega),ai80 _ (show t-7<80 by omega),ai80 _ (show t-15<80 by omega),ai80 _ (show t-16<80 by omega),ai80 _ (show t<80 by omega),
   ai12 _ (show 0<12 by omega),ai12 _ (show 1<12 by omega),ai12 _ (show 2<12 by omega),ai12 _ (show 3<12 by omega),ai12 _ (show 4<12 by omega),ai12 _ (show 5<12 by omega),
   lx hb 2 (by omega),ls hbs 3 (by omega),ls hbs 4 (by omega),ls hbs 5 (by omega),k1,lx x1 7 (by omega),addE,lw w1,lx x1 15 (by omega),ls s1 0 (by omega),ls s1 1 (by omega),ls s1 2 (by omega),k2,lx x2 16 (by omega),k3,u1,zf,hc,cond_true,zQ .i64,e4]
  exact r3 k
end Go.Am.X

namespace Go.Am.X
def zMS (bits k:Nat):Nat:=if bits=32 then shrT .u64 k 32 else k
def t1R (bits:Nat)(K X:List Nat)(i:Nat)(v:List Nat):Nat :=
 addT .u64 (addT .u64 (addT .u64 (addT .u64 (v.getD 7 0) (mixW bits (v.getD 4 0) ((zA0 bits).getD 9 0) ((zA0 bits).getD 10 0) ((zA0 bits).getD 11 0) false)) (zNH .u64 v)) (zMS bits (K.getD i 0))) (X.getD i 0)
def t2R (bits:Nat)(v:List Nat):Nat:=addT .u64 (mixW bits (v.getD 0 0) ((zA0 bits).getD 6 0) ((zA0 bits).getD 7 0) ((zA0 bits).getD 8 0) false) (mostT .u64 v)
def zPD (bits:Nat)(K X:List Nat)(i:Nat)(v:List Nat):List Nat :=
 [cutT bits (addT .u64 (t1R bits K X i v) (t2R bits v)),v.getD 0 0,v.getD 1 0,v.getD 2 0,cutT bits (addT .u64 (v.getD 3 0) (t1R bits K X i v)),v.getD 4 0,v.getD 5 0,v.getD 6 0]
def rsR (bits:Nat)(K X:List Nat):Nat->Nat->List Nat->List Nat
 | 0,_,v=>v
 | n+1,i,v=>rsR bits K X n (i+1) (zPD bits K X i v)
theorem rsR_len (bits:Nat)(K X:List Nat):∀ n i v,v.length=8->(rsR bits K X n i v).length=8:=by
 intro n;induction n with
 | zero=>intro i v h;exact h
 | succ n ih=>intro i v h;exact ih _ _ rfl
theorem j8b (c:zD)(N:Nat)(h32:Mix32 c)(h31:Cut31 c)(bits:Nat)(hbits:bits=32∨bits=64)(x w s y i:Nat)(hi:i<80)(hxy:x≠y)(a0 a6 a8 a9 a10:V)(K X v:List Nat)(hX:X.length=80)(hv:v.length=8)(H:Heap)(hw:WF H)
  (hbx:Bx H x (ws .u64 X)) (hbw:Bx H w [.int .u64 (bits:Int)]) (hbs:Bx H s (ws .u64 (zA0 bits))) (hby:Bx H y (ws .u64 v)) (Z:Tape) (fr:T V)
  (f0:fr.get 0=some a0) (f5:fr.get 5=some (.ptr w 0)) (f6:fr.get 6=some a6) (f8:fr.get 8=some a8) (f9:fr.get 9=some a9) (f10:fr.get 10=some a10) (f11:fr.get 11=some (.ptr s 0)) (f12:fr.get 12=some (.ptr x 0)) (f16:fr.get 16=some (.ptr y 0)) (f17:fr.get 17=some (.int .i64 (i:Int))) (f18:fr.get 18=some (.int .u64 ((zMS bits (K.getD i 0):Nat):Int))) :
  ∃ H',Bx H' y (ws .u64 (zPD bits K X i v))/\Chg (fun i=>i=y) H H' /\
   ∀ k,zAz c N k ⟨fr,H⟩ Z=k .normal ⟨(T.s (T.s (T.s (T.s (T.s (T.s (T.s (T.s (T.s (T.s (T.s (T.s (T.s .leaf 0 a0) 5 (.ptr w 0)) 6 a6) 8 a8) 9 a9) 10 a10) 11 (.ptr s 0)) 12 (.ptr x 0)) 16 (.ptr y 0)) 17 (.int .i64 (i:Int))) 103 (.int .i64 (i:Int))) 104 (.int .i64 ((i+1:Nat):Int))) 17 (.int .i64 ((i+1:Nat):Int))),H'⟩ Z:=by
 have h64:bits<=64:=by omega
 have tl:=turnsR_le hbits
 obtain⟨H1,g1,k1⟩:=h32 bits (v.getD 4 0) ((zA0 bits).getD 9 0) ((zA0 bits).getD 10 0) ((zA0 bits).getD 11 0) false (tl 9 (by omega)) (tl 10 (by omega)) (tl 11 (by omega)) h64 H hw Z
 obtain⟨H2,g2,k2⟩:=h32 bits (v.getD 0 0) ((zA0 bits).getD 6 0) ((zA0 bits).getD 7 0) ((zA0 bits).getD 8 0) false (tl 6 (by omega)) (tl 7 (by omega)) (tl 8 (by omega)) h64 H1 g1.wf Z
 obtain⟨H3,g3,k3⟩:=h31 bits (addT .u64 (t1R bits K X i v) (t2R bits v)) H2 g2.wf Z
 obtain⟨H4,g4,k4⟩:=h31 bits (addT .u64 (v.getD 3 0) (t1R bits K X i v)) H3 g3.wf Z
 have x1:=hbx.gr g1 (hbx.lt hw)
 have w1:=hbw.gr g1 (hbw.lt hw)
 have w2:=w1.gr g2 (w1.lt g1.wf)
 have w3:=w2.gr g3 (w2.lt g2.wf)
 have s1:=hbs.gr g1 (hbs.lt hw)
 have y1:=hby.gr g1 (hby.lt hw)
 have y2:=y1.gr g2 (y1.lt g1.wf)
 have y3:=y2.gr g3 (y2.lt g2.wf)
 have y4:=y3.gr g4 (y3.lt g3.wf)
 obtain⟨H5,u1,u2,u3⟩:=Bx.words y4 g4.wf (zPD bits K X i v) (n:=8) hv rfl (by omega) Z
 have gg:Chg (fun i=>i=y) H H5:=((((g1.chg (P:=fun i=>i=y)).trans (g2.chg (P:=fun i=>i=y)) fun _ _ q=>q).trans (g3.chg (P:=fun i=>i=y)) fun _ _ q=>q).trans (g4.chg (P:=fun i=>i=y)) fun _ _ q=>q).trans (u3.chg (P:=fun i=>i=y) rfl) fun _ _ q=>q
 refine⟨H5,u2,gg,fun k=>?_⟩
 have lw:∀ {K:Heap},Bx K w [.int .u64 (bits:Int)]->zV 1 [.ptr w 0] K=some (.agg [.int .u64 (bits:Int)]):=fun h=>zA1 (off:=0) (n:=1) h.cells (by simp)
 have lx:∀ {K:Heap},Bx K x (ws .u64 X)->zF [.ptr x i] K=some (.int .u64 ((X.getD i 0:Nat):Int)):=fun h=>zAN h (by omega)
 have ls:∀ {K:Heap},Bx K s (ws .u64 (zA0 bits))->∀ j,j<12->zF [.ptr s j] K=some (.int .u64 (((zA0 bits).getD j 0:Nat):Int)):=fun h j hj=>zAN h (by rw[zLu];exact hj)
 have ly:∀ {K:Heap},Bx K y (ws .u64 v)->∀ j,j<8->zF [.ptr y j] K=some (.int .u64 ((v.getD j 0:Nat):Int)):=fun h j hj=>zAN h (by omega)
 have addE:∀ (q:V->Ans) (x y:Nat),binK .add (.int .u64 (x:Int)) (.int .u64 (y:Int)) q=q (.int .u64 ((addT .u64 x y:Nat):Int)):=fun q x y=>zPx uk64 x y q
 have andE:∀ (q:V->Ans) (x y:Nat),binK .and (.int .u64 (x:Int)) (.int .u64 (y:Int)) q=q (.int .u64 ((zKS .u64 x y:Nat):Int)):=fun q x y=>u_and uk64 x y q
 have xorE:∀ (q:V->Ans) (x y:Nat),binK .xor (.int .u64 (x:Int)) (.int .u64 (y:Int)) q=q (.int .u64 ((xorT .u64 x y:Nat):Int)):=fun q x y=>zR6 uk64 x y q
 have notE:∀ (q:V->Ans) (x:Nat),unK .xor (.int .u64 (x:Int)) q=q (.int .u64 ((notT .u64 x:Nat):Int)):=fun q x=>u_not uk64 x q
 have e4:wr .i64 ((i:Int)+Int.ofNat 1)=((i+1:Nat):Int):=adN (k:=1) (by omega)
 have hc1:zY [H,H1] (((.load none),[.ptr x i],0,1)::(((.load none),[.ptr y 6],0,1)::(((.load none),[.ptr y 4],0,1)::(((.load none),[.ptr y 5],0,1)::(((.load none),[.ptr y 4],0,1)::(((.load none),[.ptr y 7],0,1)::[]))))))=true:=by
  simp[zY,zFd,zLT,lx hbx,lx x1,ly hby,ly y1,chk1,same,zIV,zMo,zG3]
 have hc2:zY [H1,H2] (((.load none),[.ptr y 2],0,1)::(((.load none),[.ptr y 1],0,1)::(((.load none),[.ptr y 2],0,1)::(((.load none),[.ptr y 0],0,1)::(((.load none),[.ptr y 1],0,1)::(((.load none),[.ptr y 0],0,1)::[]))))))=true:=by
  simp[zY,zFd,zLT,ly y1,ly y2,chk1,same,zIV,zMo,zG3]
 have hc3:zY [H2,H3,H4,H5] (((.load none),[.ptr y 6],0,2)::(((.load none),[.ptr y 5],0,2)::(((.load none),[.ptr y 4],0,2)::(((.load none),[.ptr y 3],0,1)::(((.load (some 1)),[.ptr w 0],0,1)::(((.load none),[.ptr y 2],0,2)::(((.load none),[.ptr y 1],0,2)::(((.load none),[.ptr y 0],0,2)::[]))))))))=true:=by
  simp[zY,zFd,zLT,ly y2,ly y3,ly y4,lw w2,lw w3,chk1,same,zIV,zMo,zG3]
 simp only[zPD,ws,List.map]at u1
 have k3':∀ q,c zBH [.agg [.int .u64 (bits:Int)],.int .u64 ((addT .u64 (t1R bits K X i v) (t2R bits v):Nat):Int)] H2 Z q=q (.int .u64 ((cutT bits (addT .u64 (t1R bits K X i v) (t2R bits v)):Nat):Int)) H3 Z:=k3
 have k4':∀ q,c zBH [.agg [.int .u64 (bits:Int)],.int .u64 ((addT .u64 (v.getD 3 0) (t1R bits K X i v):Nat):Int)] H3 Z q=q (.int .u64 ((cutT bits (addT .u64 (v.getD 3 0) (t1R bits K X i v)):Nat):Int)) H4 Z:=k4
 simp only[zAz,zA f0,zA f5,zA f6,zA f8,zA f9,zA f10,zA f11,zA f12,zA f16,zA f17,zA f18,lw hbw,zN,ai8 _ (show 0<8 by omega),ai8 _ (show 1<8 by omega),ai8 _ (show 2<8 by omega),ai8 _ (show 3<8 by omega),ai8 _ (show 4<8 by omega),ai8 _ (show 5<8 by omega),ai8 _ (show 6<8 by omega),ai8 _ (show 7<8 by omega),
  ai12 _ (show 6<12 by omega),ai12 _ (show 7<12 by omega),ai12 _ (show 8<12 by omega),ai12 _ (show 9<12 by omega),ai12 _ (show 10<12 by omega),ai12 _ (show 11<12 by omega),ai80 _ hi,
  ly hby 7 (by omega),ly hby 4 (by omega),ls hbs 9 (by omega),ls hbs 10 (by omega),ls hbs 11 (by omega),k1,addE,ly y1 4 (by omega),ly y1 5 (by omega),ly y1 6 (by omega),andE,notE,xorE,lx x1,hc1,cond_true,lw w1,ly y1 0 (by omega),ls s1 6 (by omega),ls s1 7 (by omega),ls s1 8 (by omega),k2,
  ly y2 0 (by omega),ly y2 1 (by omega),ly y2 2 (by omega),hc2,lw w2]
 simp only[<- zNH.eq_1,<- mostT.eq_1,<- t1R.eq_1,<- t2R.eq_1,k3',ly y3 0 (by omega),ly y3 1 (by omega),ly y3 2 (by omega),ly y3 3 (by omega),lw w3,zN,addE,k4',ly y4 4 (by omega),ly y4 5 (by omega),ly y4 6 (by omega),build8q,u1,zf,hc3,cond_true,zJY,zJ,↓reduceIte,Nat.reduceEqDiff,zQ .i64,e4]
end Go.Am.X

namespace Go.Am.X
theorem es32 (q:V->Ans)(x:Nat):binK .shr (.int .u64 (x:Int)) (.int .u64 (.ofNat 32)) q=q (.int .u64 ((shrT .u64 x 32:Nat):Int)):=zLr (k:=.u64) (k':=.u64) x 32 q
theorem cr32 (x:Nat):zMS 32 x=shrT .u64 x 32:=if_pos rfl
theorem cr64 (x:Nat):zMS 64 x=x:=if_neg (by decide)
theorem hd32 (c:zD)(N:Nat)(t w s x y rounds i sz:Nat)(hi:i<rounds)(hr:rounds<=80)(a6 a8:V)(kk:Nat)(H:Heap)(lt:zF [.ptr t i] H=some (.int .u64 (kk:Int)))(fr:T V)(Z:Tape)(k:KC)(e3:((sz:Int) == Int.ofNat 4)=true)
  (f0:fr.get 0=some (.ptr t 0)) (f5:fr.get 5=some (.ptr w 0)) (f6:fr.get 6=some a6) (f8:fr.get 8=some a8) (f9:fr.get 9=some (.int .i64 (sz:Int))) (f10:fr.get 10=some (.int .i64 (rounds:Int))) (f11:fr.get 11=some (.ptr s 0)) (f12:fr.get 12=some (.ptr x 0)) (f16:fr.get 16=some (.ptr y 0)) (f17:fr.get 17=some (.int .i64 (i:Int))) :
  zAa c N ⟨fr,H⟩ Z k=zAz c N k ⟨(T.s (T.s (T.s (T.s (T.s (T.s (T.s (T.s (T.s (T.s (T.s (T.s (T.s (T.s (T.s .leaf 0 (.ptr t 0)) 5 (.ptr w 0)) 6 a6) 8 a8) 9 (.int .i64 (sz:Int))) 10 (.int .i64 (rounds:Int))) 11 (.ptr s 0)) 12 (.ptr x 0)) 16 (.ptr y 0)) 17 (.int .i64 (i:Int))) 18 (.int .u64 (kk:Int))) 112 (.bool true)) 113 (.int .u64 (kk:Int))) 114 (.int .u64 ((shrT .u64 kk 32:Nat):Int))) 18 (.int .u64 ((shrT .u64 kk 32:Nat):Int))),H⟩ Z:=by
 have nk:∀ (i o:Nat),zAn [.ptr i o]=some (.ptr i o):=fun _ _=>rfl
 have e1:decide ((i:Int)<(rounds:Int))=true:=decide_eq_true (by omega)
 simp only[zAa,zA f0,zA f5,zA f6,zA f8,zA f9,zA f10,zA f11,zA f12,zA f16,zA f17,zI,e1,zO,nk,zK,fa0,ai80 _ (show i<80 by omega),lt,zZ,e3,es32]
theorem hd64 (c:zD)(N:Nat)(t w s x y rounds i sz:Nat)(hi:i<rounds)(hr:rounds<=80)(a6 a8:V)(kk:Nat)(H:Heap)(lt:zF [.ptr t i] H=some (.int .u64 (kk:Int)))(fr:T V)(Z:Tape)(k:KC)(e3:((sz:Int) == Int.ofNat 4)=false)
  (f0:fr.get 0=some (.ptr t 0)) (f5:fr.get 5=some (.ptr w 0)) (f6:fr.get 6=some a6) (f8:fr.get 8=some a8) (f9:fr.get 9=some (.int .i64 (sz:Int))) (f10:fr.get 10=some (.int .i64 (rounds:Int))) (f11:fr.get 11=some (.ptr s 0)) (f12:fr.get 12=some (.ptr x 0)) (f16:fr.get 16=some (.ptr y 0)) (f17:fr.get 17=some (.int .i64 (i:Int))) :
  zAa c N ⟨fr,H⟩ Z k=zAz c N k ⟨(T.s (T.s (T.s (T.s (T.s (T.s (T.s (T.s (T.s (T.s (T.s (T.s .leaf 0 (.ptr t 0)) 5 (.ptr w 0)) 6 a6) 8 a8) 9 (.int .i64 (sz:Int))) 10 (.int .i64 (rounds:Int))) 11 (.ptr s 0)) 12 (.ptr x 0)) 16 (.ptr y 0)) 17 (.int .i64 (i:Int))) 18 (.int .u64 (kk:Int))) 112 (.bool false)),H⟩ Z:=by
 have nk:∀ (i o:Nat),zAn [.ptr i o]=some (.ptr i o):=fun _ _=>rfl
 have e1:decide ((i:Int)<(rounds:Int))=true:=decide_eq_true (by omega)
 simp only[zAa,zA f0,zA f5,zA f6,zA f8,zA f9,zA f10,zA f11,zA f12,zA f16,zA f17,zI,e1,zO,nk,zK,fa0,ai80 _ (show i<80 by omega),lt,zZ,e3,zM]
theorem zO8 (c:zD)(N:Nat)(h32:Mix32 c)(h31:Cut31 c)(bits:Nat)(hbits:bits=32∨bits=64)(x w s y t rounds:Nat)(hr:rounds<=80)(hxy:x≠y)(hwy:w≠y)(hsy:s≠y)(hty:t≠y)(a6 a8:V)(K X:List Nat)(hK:K.length=96)(hX:X.length=80) :
  ∀ (n i:Nat) (v:List Nat) (H:Heap) (fr:T V) (Z:Tape) (m:Nat),i+n=rounds->n<m->v.length=8->WF H->Bx H x (ws .u64 X)->Bx H w [.int .u64 (bits:Int)]->Bx H s (ws .u64 (zA0 bits))->Bx H y (ws .u64 v)->Bx H t (ws .u64 K) ->
  fr.get 0=some (.ptr t 0)->fr.get 5=some (.ptr w 0)->fr.get 6=some a6->fr.get 8=some a8->fr.get 9=some (.int .i64 ((bits / 8:Nat):Int))->fr.get 10=some (.int .i64 (rounds:Int))->fr.get 11=some (.ptr s 0)->fr.get 12=some (.ptr x 0)->fr.get 16=some (.ptr y 0)->fr.get 17=some (.int .i64 (i:Int)) ->
  ∃ H',Bx H' y (ws .u64 (rsR bits K X n i v))/\Chg (fun i=>i=y) H H' /\
   ∀ k,zW (zAa c N) m ⟨fr,H⟩ Z k=k (.exit 6) ⟨(T.s (T.s (T.s (T.s .leaf 5 (.ptr w 0)) 6 a6) 8 a8) 16 (.ptr y 0)),H'⟩ Z:=by
 intro n
 induction n with
 | zero =>
  intro i v H fr Z m hn hm hv hw hbx hbw hbs hby hbt f0 f5 f6 f8 f9 f10 f11 f12 f16 f17
  obtain⟨m,rfl⟩:∃ j,m=j+1:=⟨m-1,by omega⟩
  refine⟨H,hby,Chg.refl hw,fun k=>?_⟩
  have e1:decide ((i:Int)<(rounds:Int))=false:=decide_eq_false (by omega)
  rw[zC]
  simp only[zAa,zA f0,zA f5,zA f6,zA f8,zA f9,zA f10,zA f11,zA f12,zA f16,zA f17,zI,e1,zq]
  rfl
 | succ n ih =>
  intro i v H fr Z m hn hm hv hw hbx hbw hbs hby hbt f0 f5 f6 f8 f9 f10 f11 f12 f16 f17
  obtain⟨m,rfl⟩:∃ j,m=j+1:=⟨m-1,by omega⟩
  have e1:decide ((i:Int)<(rounds:Int))=true:=decide_eq_true (by omega)
  have nk:∀ (i o:Nat),zAn [.ptr i o]=some (.ptr i o):=fun _ _=>rfl
  have lt:=zAN hbt (show i<K.length by omega)
  have fin:∀ fr':T V,fr'.get 0=some (.ptr t 0)->fr'.get 5=some (.ptr w 0)->fr'.get 6=some a6->fr'.get 8=some a8->fr'.get 9=some (.int .i64 ((bits / 8:Nat):Int))->fr'.get 10=some (.int .i64 (rounds:Int))->fr'.get 11=some (.ptr s 0)->fr'.get 12=some (.ptr x 0)->fr'.get 16=some (.ptr y 0)->fr'.get 17=some (.int .i64 (i:Int))->fr'.get 18=some (.int .u64 ((zMS bits (K.getD i 0):Nat):Int)) ->
    ∃ H',Bx H' y (ws .u64 (rsR bits K X (n+1) i v))/\Chg (fun i=>i=y) H H'/\∀ k,zAz c N (seqK (fun st Z=>zW (zAa c N) m st Z k) k) ⟨fr',H⟩ Z=k (.exit 6) ⟨(T.s (T.s (T.s (T.s .leaf 5 (.ptr w 0)) 6 a6) 8 a8) 16 (.ptr y 0)),H'⟩ Z:=by
   intro fr' g0 g5 g6 g8 g9 g10 g11 g12 g16 g17 g18
   obtain⟨H1,b1,c1,k1⟩:=j8b c N h32 h31 bits hbits x w s y i (by omega) hxy (.ptr t 0) a6 a8 (.int .i64 ((bits / 8:Nat):Int)) (.int .i64 (rounds:Int)) K X v hX hv H hw hbx hbw hbs hby Z fr' g0 g5 g6 g8 g9 g10 g11 g12 g16 g17 g18
   obtain⟨H',r1,r2,r3⟩:=ih (i+1) (zPD bits K X i v) H1 (Z:=Z) (m:=m) (by omega) (by omega) rfl c1.wf (hbx.chg hw c1 hxy) (hbw.chg hw c1 hwy) (hbs.chg hw c1 hsy) b1 (hbt.chg hw c1 hty)
    (fr:=(T.s (T.s (T.s (T.s (T.s (T.s (T.s (T.s (T.s (T.s (T.s (T.s (T.s .leaf 0 (.ptr t 0)) 5 (.ptr w 0)) 6 a6) 8 a8) 9 (.int .i64 ((bits / 8:Nat):Int))) 10 (.int .i64 (rounds:Int))) 11 (.ptr s 0)) 12 (.ptr x 0)) 16 (.ptr y 0)) 17 (.int .i64 (i:Int))) 103 (.int .i64 (i:Int))) 104 (.int .i64 ((i+1:Nat):Int))) 17 (.int .i64 ((i+1:Nat):Int))))
    (by rfl) (by rfl) (by rfl) (by rfl) (by rfl) (by rfl) (by rfl) (by rfl) (by rfl) (by rfl)
   refine⟨H',r1,c1.trans r2 fun _ _ q=>q,fun k=>?_⟩
   rw[k1]
   exact r3 k
  rcases hbits with rfl | rfl
  ·have e3:((((32 / 8:Nat)):Int) == Int.ofNat 4)=true:=rfl
   obtain⟨H',r1,r2,r3⟩:=fin (T.s (T.s (T.s (T.s (T.s (T.s (T.s (T.s (T.s (T.s (T.s (T.s (T.s (T.s (T.s .leaf 0 (.ptr t 0)) 5 (.ptr w 0)) 6 a6) 8 a8) 9 (.int .i64 ((32 / 8:Nat):Int))) 10 (.int .i64 (rounds:Int))) 11 (.ptr s 0)) 12 (.ptr x 0)) 16 (.ptr y 0)) 17 (.int .i64 (i:Int))) 18 (.int .u64 ((K.getD i 0:Nat):Int))) 112 (.bool true)) 113 (.int .u64 ((K.getD i 0:Nat):Int))) 114 (.int .u64 ((shrT .u64 (K.getD i 0) 32:Nat):Int))) 18 (.int .u64 ((shrT .u64 (K.getD i 0) 32:Nat):Int)))
    (by rfl) (by rfl) (by rfl) (by rfl) (by rfl) (by rfl) (by rfl) (by rfl) (by rfl) (by rfl) (by rw[cr32];exact T.get_set_same _ _ _)
   refine⟨H',r1,r2,fun k=>?_⟩
   rw[zC,hd32 c N t w s x y rounds i (32 / 8) (by omega) hr a6 a8 (K.getD i 0) H lt fr Z _ e3 f0 f5 f6 f8 f9 f10 f11 f12 f16 f17]
   exact r3 k
  ·have e3:((((64 / 8:Nat)):Int) == Int.ofNat 4)=false:=rfl
   obtain⟨H',r1,r2,r3⟩:=fin (T.s (T.s (T.s (T.s (T.s (T.s (T.s (T.s (T.s (T.s (T.s (T.s .leaf 0 (.ptr t 0)) 5 (.ptr w 0)) 6 a6) 8 a8) 9 (.int .i64 ((64 / 8:Nat):Int))) 10 (.int .i64 (rounds:Int))) 11 (.ptr s 0)) 12 (.ptr x 0)) 16 (.ptr y 0)) 17 (.int .i64 (i:Int))) 18 (.int .u64 ((K.getD i 0:Nat):Int))) 112 (.bool false))
    (by rfl) (by rfl) (by rfl) (by rfl) (by rfl) (by rfl) (by rfl) (by rfl) (by rfl) (by rfl) (by rw[cr64];simp[T.get_set])
   refine⟨H',r1,r2,fun k=>?_⟩
   rw[zC,hd64 c N t w s x y rounds i (64 / 8) (by omega) hr a6 a8 (K.getD i 0) H lt fr Z _ e3 f0 f5 f6 f8 f9 f10 f11 f12 f16 f17]
   exact r3 k
def addR (bits:Nat)(v:List Nat):Nat->Nat->List Nat->List Nat
 | 0,_,h=>h
 | n+1,i,h=>addR bits v n (i+1) (h.set i (cutT bits (addT .u64 (h.getD i 0) (v.getD i 0))))
theorem addR_len (bits:Nat)(v:List Nat):∀ n i h,(addR bits v n i h).length=h.length:=by
 intro n;induction n with
 | zero=>intros;rfl
 | succ n ih=>intro i h;rw[addR,ih];simp
theorem zOa (c:zD)(N:Nat)(h31:Cut31 c)(bits w h y:Nat)(hwh:w≠h)(hyh:y≠h)(a8:V)(v:List Nat)(hv:v.length=8) :
  ∀ (n i:Nat) (L:List Nat) (H:Heap) (fr:T V) (Z:Tape) (m:Nat),i+n=8->n<m->L.length=8->WF H->Bx H h (ws .u64 L)->Bx H y (ws .u64 v)->Bx H w [.int .u64 (bits:Int)] ->
  fr.get 5=some (.ptr w 0)->fr.get 6=some (.ptr h 0)->fr.get 8=some a8->fr.get 16=some (.ptr y 0)->fr.get 21=some (.int .i64 (i:Int)) ->
  ∃ H',Bx H' h (ws .u64 (addR bits v n i L))/\Chg (fun i=>i=h) H H'/\∀ k,zW (zD3 c N) m ⟨fr,H⟩ Z k=k (.exit 8) ⟨(T.s (T.s .leaf 6 (.ptr h 0)) 8 a8),H'⟩ Z:=by
 intro n
 induction n with
 | zero =>
  intro i L H fr Z m hn hm hL hw hbh hby hbw f5 f6 f8 f16 f21
  obtain⟨m,rfl⟩:∃ j,m=j+1:=⟨m-1,by omega⟩
  refine⟨H,hbh,Chg.refl hw,fun k=>?_⟩
  have e1:decide ((i:Int)<Int.ofNat 8)=false:=decide_eq_false (by simp;omega)
  rw[zC]
  simp only[zD3,zA f5,zA f6,zA f8,zA f16,zA f21,zI,e1,zq]
  rfl
 | succ n ih =>
  intro i L H fr Z m hn hm hL hw hbh hby hbw f5 f6 f8 f16 f21
  obtain⟨m,rfl⟩:∃ j,m=j+1:=⟨m-1,by omega⟩
  have e1:decide ((i:Int)<Int.ofNat 8)=true:=decide_eq_true (by simp;omega)
  have lw:zV 1 [.ptr w 0] H=some (.agg [.int .u64 (bits:Int)]):=zA1 (off:=0) (n:=1) hbw.cells (by simp)
  obtain⟨H1,g1,k1⟩:=h31 bits (addT .u64 (L.getD i 0) (v.getD i 0)) H hw Z
  have h1:=hbh.gr g1 (hbh.lt hw)
  obtain⟨H2,s1,s2,s3⟩:=h1.word g1.wf (i:=i) (by omega) (cutT bits (addT .u64 (L.getD i 0) (v.getD i 0))) Z
  have g2:Chg (fun i=>i=h) H H2:=(g1.chg (P:=fun i=>i=h)).trans (s3.chg (P:=fun i=>i=h) rfl) fun _ _ q=>q
  have e4:wr .i64 ((i:Int)+Int.ofNat 1)=((i+1:Nat):Int):=adN (k:=1) (by omega)
  obtain⟨H',r1,r2,r3⟩:=ih (i+1) _ H2 (T.s (T.s (T.s (T.s (T.s (T.s (T.s (T.s .leaf 5 (.ptr w 0)) 6 (.ptr h 0)) 8 a8) 16 (.ptr y 0)) 21 (.int .i64 (i:Int))) 201 (.int .i64 (i:Int))) 202 (.int .i64 ((i+1:Nat):Int))) 21 (.int .i64 ((i+1:Nat):Int)))
   Z m (by omega) (by omega) (by simp[hL]) s3.wf s2 (hby.chg hw g2 hyh) (hbw.chg hw g2 hwh) (by rfl) (by rfl) (by rfl) (by rfl) (by rfl)
  refine⟨H',r1,g2.trans r2 fun _ _ q=>q,fun k=>?_⟩
  have addE:∀ (q:V->Ans) (x y:Nat),binK .add (.int .u64 (x:Int)) (.int .u64 (y:Int)) q=q (.int .u64 ((addT .u64 x y:Nat):Int)):=fun q x y=>zPx uk64 x y q
  rw[zC]
  simp only[zD3,zA f5,zA f6,zA f8,zA f16,zA f21,zI,e1,zn,lw,zN,ai8' _ (show i<8 by omega),zAN hbh (show i<L.length by omega),zAN hby (show i<v.length by omega),addE,k1,s1,zf,zQ .i64,e4]
  exact r3 k
def zNd (bits:Nat)(bs:List Nat):List Nat:=expR bits (zC8 bits-16) 16 (zTF (bits / 8) bs 16 0 (List.replicate 80 0))
def zJk (bits:Nat)(K bs h:List Nat):List Nat:=addR bits (rsR bits K (zNd bits bs) (zC8 bits) 0 h) 8 0 h
theorem blockX_len (bits:Nat)(bs:List Nat):(zNd bits bs).length=80:=by unfold zNd;rw[expR_len,initR_len];simp
theorem zNq (bits:Nat)(K bs h:List Nat):(zJk bits K bs h).length=h.length:=by unfold zJk;rw[addR_len]
theorem build12 (x0 x1 x2 x3 x4 x5 x6 x7 x8 x9 x10 x11:Int):zDw (repl 12 [(.int .u64 (.ofNat 0))]) [(0,1),(1,1),(2,1),(3,1),(4,1),(5,1),(6,1),(7,1),(8,1),(9,1),(10,1),(11,1)] [.int .u64 x0,.int .u64 x1,.int .u64 x2,.int .u64 x3,.int .u64 x4,.int .u64 x5,.int .u64 x6,.int .u64 x7,.int .u64 x8,.int .u64 x9,.int .u64 x10,.int .u64 x11]=some (.agg [.int .u64 x0,.int .u64 x1,.int .u64 x2,.int .u64 x3,.int .u64 x4,.int .u64 x5,.int .u64 x6,.int .u64 x7,.int .u64 x8,.int .u64 x9,.int .u64 x10,.int .u64 x11]):=by
 simp[zDw,zLv,repl,V.cells,List.replicate]
 rfl
theorem j0b (c:zD)(N:Nat)(hN:1000<N)(h32:Mix32 c)(h31:Cut31 c)(bits:Nat)(hbits:bits=32∨bits=64)(t w h r s:Nat)(K L:List Nat)(hK:K.length=96)(hL:L.length=8)(v:V)(bs:List Nat)(hlen:bs.length<100000)(h16:16*(bits / 8)<=bs.length)(B:Nat)
  (H:Heap) (hw:WF H) (hB:B<=H.size) (hwB:B<=w) (hhB:B<=h) (hrB:B<=r) (hwh:w≠h) (hwr:w≠r) (hhr:h≠r) (hbt:Bx H t (ws .u64 K)) (hbw:Bx H w [.int .u64 (bits:Int)]) (hbh:Bx H h (ws .u64 L)) (hbr:Bx H r (ws .u64 (List.replicate 8 0))) (hbs:Bx H s (ws .u64 (zA0 bits))) (hth:t≠h) (hsh:s≠h)
  (hRd:∀ H',Gr B H H'->Rd H' 1 v bs.length (ws .u8 bs)) (Z:Tape) (fr:T V)
  (f0:fr.get 0=some (.ptr t 0)) (f3:fr.get 3=some v) (f5:fr.get 5=some (.ptr w 0)) (f6:fr.get 6=some (.ptr h 0)) (f8:fr.get 8=some (.ptr r 0)) (f9:fr.get 9=some (.int .i64 ((bits / 8:Nat):Int))) (f10:fr.get 10=some (.int .i64 ((zC8 bits:Nat):Int))) (f11:fr.get 11=some (.ptr s 0)) :
  ∃ H',Gr B H H'/\∀ q,zEB c N q ⟨fr,H⟩ Z=q (.agg (ws .u64 (zJk bits K bs L))) H' Z:=by
 have hsz:bits / 8<=8:=by omega
 have hr16:16+(zC8 bits-16)=zC8 bits:=by unfold zC8;split <;> rfl
 have hr80:zC8 bits<=80:=by unfold zC8;split <;> omega
 have lt:=hbt.lt hw
 have lw:=hbw.lt hw
 have lh:=hbh.lt hw
 have lr:=hbr.lt hw
 have ls:=hbs.lt hw
 have a1:zBK (repl 80 [(.int .u64 (.ofNat 0))]) [] H Z=some (.ptr H.size 0,H.new (ws .u64 (List.replicate 80 0)) 80 true,Z):=rfl
 have g1:=Gr.new hw (ws .u64 (List.replicate 80 0)) 80 true
 have x1:=Bx.new H (ws .u64 (List.replicate 80 0)) 80 true nl
 have z1:(H.new (ws .u64 (List.replicate 80 0)) 80 true).size=H.size+1:=rfl
 generalize H.new (ws .u64 (List.replicate 80 0)) 80 true=H1 at a1 g1 x1 z1
 obtain⟨H2,x2,g2,k2⟩:=zTG c N hN H.size (bits / 8) hsz v (.ptr t 0) (.ptr w 0) (.ptr h 0) (.ptr r 0) (.int .i64 ((zC8 bits:Nat):Int)) (.ptr s 0) bs hlen h16 16 0 (List.replicate 80 0) H1
  (T.s (T.s (T.s (T.s (T.s (T.s (T.s (T.s (T.s (T.s .leaf 0 (.ptr t 0)) 3 v) 5 (.ptr w 0)) 6 (.ptr h 0)) 8 (.ptr r 0)) 9 (.int .i64 ((bits / 8:Nat):Int))) 10 (.int .i64 ((zC8 bits:Nat):Int))) 11 (.ptr s 0)) 12 (.ptr H.size 0)) 13 (.int .i64 (.ofNat 0)))
  Z N (by omega) (by omega) (by simp) g1.wf x1 (fun H' hh=>hRd H' ((g1.weaken hB).trans (hh.gr (B:=B) (by omega) fun i hi e=>by omega) nl))
  (by rfl) (by rfl) (by rfl) (by rfl) (by rfl) (by rfl) (by rfl) (by rfl) (by rfl) (by rfl)
 have g12:Gr H.size H H2:=g1.trans (g2.gr (B:=H.size) (by omega) fun i hi e=>by omega) nl
 have w2:=hbw.gr g12 lw
 have s2:=hbs.gr g12 ls
 obtain⟨H3,x3,g3,k3⟩:=zRg c N h32 h31 bits hbits H.size w s (zC8 bits) hr80 (by omega) (by omega) (.ptr t 0) (.ptr h 0) (.ptr r 0) (.int .i64 ((bits / 8:Nat):Int)) (zC8 bits-16) 16 _ H2
  (T.s (T.s (T.s (T.s (T.s (T.s (T.s (T.s (T.s .leaf 0 (.ptr t 0)) 5 (.ptr w 0)) 6 (.ptr h 0)) 8 (.ptr r 0)) 9 (.int .i64 ((bits / 8:Nat):Int))) 10 (.int .i64 ((zC8 bits:Nat):Int))) 11 (.ptr s 0)) 12 (.ptr H.size 0)) 15 (.int .i64 (.ofNat 16)))
  Z N (by omega) hr16 (by omega) (by rw[initR_len];simp) g2.wf x2 w2 s2
  (by rfl) (by rfl) (by rfl) (by rfl) (by rfl) (by rfl) (by rfl) (by rfl) (by rfl)
 have x3':Bx H3 H.size (ws .u64 (zNd bits bs)):=x3
 have g13:Gr H.size H H3:=g12.trans (g3.gr (B:=H.size) g12.size fun i hi e=>by omega) nl
 have h3:=hbh.gr g13 lh
 have ldh:zV 8 [.ptr h 0] H3=some (.agg (ws .u64 L)):=zGu h3 hL
 have a4:zBK (repl 8 [(.int .u64 (.ofNat 0))]) [] H3 Z=some (.ptr H3.size 0,H3.new (ws .u64 (List.replicate 8 0)) 8 true,Z):=rfl
 have g4:=Gr.new g13.wf (ws .u64 (List.replicate 8 0)) 8 true
 have y4:=Bx.new H3 (ws .u64 (List.replicate 8 0)) 8 true nl
 have z4:(H3.new (ws .u64 (List.replicate 8 0)) 8 true).size=H3.size+1:=rfl
 generalize H3.new (ws .u64 (List.replicate 8 0)) 8 true=H4 at a4 g4 y4 z4
 obtain⟨H5,s5,y5,o5⟩:=Bx.words y4 g4.wf L (n:=8) (by simp) hL (by omega) Z
 have hs3:H.size<H3.size:=x3.lt g13.wf
 have g15:Gr H.size H H5:=(g13.trans g4 g13.size).trans (o5.gr (B:=H.size) g13.size) nl
 have x5:Bx H5 H.size (ws .u64 (zNd bits bs)):=(x3'.gr g4 hs3).only o5 (by omega)
 have w5:=hbw.gr g15 lw
 have s5':=hbs.gr g15 ls
 have t5:=hbt.gr g15 lt
 obtain⟨H6,y6,g6,k6⟩:=zO8 c N h32 h31 bits hbits H.size w s H3.size t (zC8 bits) hr80 (by omega) (by omega) (by omega) (by omega) (.ptr h 0) (.ptr r 0) K (zNd bits bs) hK (blockX_len _ _) (zC8 bits) 0 L H5
  (T.s (T.s (T.s (T.s (T.s (T.s (T.s (T.s (T.s (T.s .leaf 0 (.ptr t 0)) 5 (.ptr w 0)) 6 (.ptr h 0)) 8 (.ptr r 0)) 9 (.int .i64 ((bits / 8:Nat):Int))) 10 (.int .i64 ((zC8 bits:Nat):Int))) 11 (.ptr s 0)) 12 (.ptr H.size 0)) 16 (.ptr H3.size 0)) 17 (.int .i64 (.ofNat 0)))
  Z N (by omega) (by omega) hL o5.wf x5 w5 s5' y5 t5
  (by rfl) (by rfl) (by rfl) (by rfl) (by rfl) (by rfl) (by rfl) (by rfl) (by rfl) (by rfl)
 have g16:Gr H.size H H6:=g15.trans (g6.gr (B:=H.size) g15.size fun i hi e=>by omega) nl
 have h6:=hbh.gr g16 lh
 have w6:=hbw.gr g16 lw
 have ly6:H3.size<H6.size:=y6.lt g16.wf
 obtain⟨H7,h7,g7,k7⟩:=zOa c N h31 bits w h H3.size hwh (by omega) (.ptr r 0) (rsR bits K (zNd bits bs) (zC8 bits) 0 L) (rsR_len _ _ _ _ _ _ hL) 8 0 L H6
  (T.s (T.s (T.s (T.s (T.s .leaf 5 (.ptr w 0)) 6 (.ptr h 0)) 8 (.ptr r 0)) 16 (.ptr H3.size 0)) 21 (.int .i64 (.ofNat 0)))
  Z N (by omega) (by omega) hL g16.wf h6 y6 w6 (by rfl) (by rfl) (by rfl) (by rfl) (by rfl)
 have h7':Bx H7 h (ws .u64 (zJk bits K bs L)):=h7
 have g17:Gr B H H7:=(g16.weaken hB).trans (g7.gr (B:=B) (Nat.le_trans hB g16.size) fun i hi e=>by omega) nl
 have r7:Bx H7 r (ws .u64 (List.replicate 8 0)):=(hbr.gr g16 lr).chg g16.wf g7 (by omega)
 have hbl:(zJk bits K bs L).length=8:=by rw[zNq,hL]
 obtain⟨H8,s8,r8,o8⟩:=Bx.words r7 g7.wf (zJk bits K bs L) (n:=8) (by simp) hbl (by omega) Z
 refine⟨H8,g17.trans (o8.gr (B:=B) hrB) nl,fun q=>?_⟩
 have hres:results ⟨(T.s .leaf 8 (.ptr r 0)),H8⟩ [(.cell 8 (some 8))]=some (.agg (ws .u64 (zJk bits K bs L))):=by
  have hl:H8.loads r 0 8=some (ws .u64 (zJk bits K bs L)):=by
   rw[zAr r8.cells (by rw[zAv,hbl];omega),List.drop_zero,List.take_of_length_le (by rw[zAv,hbl];omega)]
  simp[results,zPV,resOf,T.get_set,zFd,zLT,zV,hl]
 simp only[zEB,zA f0,zA f3,zA f5,zA f6,zA f8,zA f9,zA f10,zA f11,a1,zf]
 rw[k2]
 simp only[zP,Nat.beq_refl,cond_true,seqK,zJM,zJ,↓reduceIte,Nat.reduceEqDiff]
 rw[k3]
 simp only[zP,Nat.beq_refl,cond_true,seqK,zJX,zJ,↓reduceIte,Nat.reduceEqDiff,ldh,zN,a4,zf,s5]
 rw[k6]
 simp only[zP,Nat.beq_refl,cond_true,seqK,zJT,zJ,↓reduceIte,Nat.reduceEqDiff]
 rw[k7]
 simp only[zP,Nat.beq_refl,cond_true,seqK,zJa,zJ,↓reduceIte,Nat.reduceEqDiff,zGu h7' hbl,zN,s8,zf,hres]
end Go.Am.X

