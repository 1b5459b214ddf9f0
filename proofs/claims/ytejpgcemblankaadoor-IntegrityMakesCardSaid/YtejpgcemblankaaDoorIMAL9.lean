/- The abstract machine, printed functions of the program, and what they are shown to be. -/
import Derived.Test.YtejpgcemblankaaDoorIMAL6
import Derived.KernelRfl
import Derived.Test.YtejpgcemblankaaDoorIMAL5
import Derived.Test.YtejpgcemblankaaDoorIMAM4
import Derived.Test.YtejpgcemblankaaDoorIMAL8
set_option linter.unusedSimpArgs false
set_option linter.unusedVariables false
set_option linter.unusedSectionVars false
namespace Go.Am.X
def zSq (b:Bool)(p:Nat)(l:List Nat):Bool:=l.foldl (fun b x=>b && (p % x != 0)) b
def zBA:Nat->List Nat
 | 0=>[]
 | n+1=>if zSq true (n+2) (zBA n)then zBA n++[n+2]else zBA n
def zRR:Nat->Nat->List Nat->List Nat
 | 0,_,l=>l
 | k+1,n,l=>zRR k (n+1) (if zSq true (n+2) l then l++[n+2]else l)
theorem zSP:∀ k n,zRR k n (zBA n)=zBA (n+k):=by
 intro k;induction k with
 | zero=>intro n;rfl
 | succ k ih=>intro n;rw[zRR,show n+(k+1)=(n+1)+k by omega,<- ih (n+1)];rfl
theorem primesN_mono:∀ n,(zBA n).length<=(zBA (n+1)).length:=by
 intro n;rw[zBA];split <;> simp
theorem zSf:∀ k n,(zBA n).length<=(zBA (n+k)).length:=by
 intro k;induction k with
 | zero=>intro n;exact Nat.le_refl _
 | succ k ih=>intro n;exact Nat.le_trans (ih n) (primesN_mono _)
theorem primesN_pos:∀ n x,x ∈ zBA n->0<x:=by
 intro n;induction n with
 | zero=>intro x h;simp[zBA]at h
 | succ n ih =>
  intro x h
  rw[zBA]at h
  split at h
  ·simp at h;rcases h with h | h
   ·exact ih x h
   ·omega
  ·exact ih x h
def zDS:List Nat:=[2,3,5,7,11,13,17,19,23,29,31,37,41,43,47,53,59,61,67,71,73,79,83,89,97,101,103,107,109,113,127,131,137,139,149,151,157,163,167,173,179,181,191,193,197,199,211,223,227,229,233,239,241,251,257,263,269,271,277,281,283,293,307,311,313,317,331,337,347,349,353,359,367,373,379,383,389,397,401,409]
theorem primesA_408:zRR 408 0 []=zDS:=by kernel_rfl
theorem primesA_407:(zRR 407 0 []).length=79:=by kernel_rfl
theorem zSF:zBA 408=zDS:=by
 have h:=zSP 408 0
 rw[Nat.zero_add]at h
 exact h.symm.trans primesA_408
theorem primes_407:(zBA 407).length=79:=by
 have h:=zSP 407 0
 rw[Nat.zero_add]at h
 exact(congrArg List.length h.symm).trans primesA_407
theorem primes_lt {n:Nat}(h:n<408):(zBA n).length<80:=by
 have:=zSf (407-n) n
 rw[show n+(407-n)=407 by omega,primes_407]at this
 omega
theorem rem_u64 (x y:Nat)(hy:0<y)(c:V->Ans):binK .rem (.int .u64 (x:Int)) (.int .u64 (y:Int)) c=c (.int .u64 ((x % y:Nat):Int)):=by
 rw[zFh _ _ _ (by omega),<- Int.ofNat_tmod]
theorem l_law8_sumn (c:zD)(N:Nat)(t:V)(v:V)(p:Nat)(H:Heap)(l0:List Nat)(hlen:l0.length<1000)(hRd:Rd H 1 v l0.length (ws .u64 l0))(hpos:∀ x ∈ l0,0<x) :
  ∀ (l pre:List Nat) (b:Bool) (fr:T V) (Z:Tape) (m:Nat),l0=pre++l->l.length<m ->
  fr.get 1=some t->fr.get 2=some v->fr.get 3=some (.int .u64 (p:Int))->fr.get 4=some (.bool b)->fr.get 5=some (.int .i64 (pre.length:Int)) ->
  ∀ k,zW (zHw c N) m ⟨fr,H⟩ Z k=k (.exit 2) ⟨(T.s (T.s (T.s (T.s .leaf 1 t) 2 v) 3 (.int .u64 (p:Int))) 4 (.bool (zSq b p l))),H⟩ Z:=by
 intro l
 induction l with
 | nil =>
  intro pre b fr Z m he hm f1 f2 f3 f4 f5 k
  obtain⟨m,rfl⟩:∃ j,m=j+1:=⟨m-1,by omega⟩
  have e1:decide ((pre.length:Int)<(l0.length:Int))=false:=decide_eq_false (by rw[he];simp)
  rw[zC]
  simp only[zHw,zA f1,zA f2,zA f3,zA f4,zA f5,hRd.pLen,zN,zI,e1,zq]
  rfl
 | cons x l ih =>
  intro pre b fr Z m he hm f1 f2 f3 f4 f5 k
  obtain⟨m,rfl⟩:∃ j,m=j+1:=⟨m-1,by omega⟩
  have e1:decide ((pre.length:Int)<(l0.length:Int))=true:=decide_eq_true (by rw[he];simp;omega)
  have hx:0<x:=hpos x (by rw[he];simp)
  obtain⟨q,q1,q2⟩:=hRd.elem1 (i:=pre.length) (x:=.int .u64 (x:Int)) (by rw[he];simp[ws])
  have hl:pre.length<l0.length:=by rw[he];simp
  have e3:wr .i64 ((pre.length:Int)+Int.ofNat 1)=((pre++[x]).length:Int):=by
   rw[zAZ (by simp;omega) (by simp;omega)];simp
  have e4:(((p % x:Nat):Int) != Int.ofNat 0)=(p % x != 0):=by
   by_cases h:p % x=0
   ·rw[h];rfl
   ·have h1:(p % x != 0)=true:=by simpa using h
    rw[h1]
    simp only[bne_iff_ne,ne_eq]
    intro e;exact h (Int.ofNat.inj e)
  have ih':=fun b' fr'=>ih (pre++[x]) b' fr' Z m (by rw[he];simp) (by simp at hm;omega)
  rw[zC]
  cases b with
  | true =>
   simp only[zHw,zA f1,zA f2,zA f3,zA f4,zA f5,hRd.pLen,zN,zI,e1,zn,zFR,retK,zf,q1,q2,rem_u64 _ _ hx,zCV,e4,zi,cond_true,zQ,e3]
   exact ih' (p % x != 0) _ (by rfl) (by rfl) (by rfl) (by rfl) (by rfl) k
  | false =>
   simp only[zHw,zA f1,zA f2,zA f3,zA f4,zA f5,hRd.pLen,zN,zI,e1,zn,zCo,zBw,zi,cond_false,zQ,e3]
   have:=ih' false ((T.s (T.s (T.s (T.s (T.s (T.s (T.s (T.s .leaf 1 t) 2 v) 3 (.int .u64 (p:Int))) 4 (.bool false)) 5 (.int .i64 (pre.length:Int))) 19 (.int .i64 (pre.length:Int))) 20 (.int .i64 ((pre++[x]).length:Int))) 5 (.int .i64 ((pre++[x]).length:Int)))) (by rfl) (by rfl) (by rfl) (by rfl) (by rfl) k
   exact this
theorem l5n (c:zD)(N:Nat)(hN:1000<N)(t B:Nat) :
  ∀ (j n:Nat) (v:V) (H:Heap) (fr:T V) (Z:Tape) (m:Nat),n+j=408->j<m->WF H->B<=H.size->Own H B 1 v (zBA n).length (ws .u64 (zBA n)) ->
  fr.get 1=some (.ptr t 0)->fr.get 2=some v->fr.get 3=some (.int .u64 ((n+2:Nat):Int)) ->
  ∃ v' H' Z',Own H' B 1 v' (zBA 408).length (ws .u64 (zBA 408))/\Gr B H H'/\∀ k,zW (zHx c N) m ⟨fr,H⟩ Z k=k (.exit 0) ⟨(T.s (T.s .leaf 1 (.ptr t 0)) 2 v'),H'⟩ Z':=by
 intro j
 induction j with
 | zero =>
  intro n v H fr Z m hn hm hw hB hO f1 f2 f3
  obtain⟨m,rfl⟩:∃ j,m=j+1:=⟨m-1,by omega⟩
  obtain rfl:n=408:=by omega
  refine⟨v,H,Z,hO,Gr.refl hw,fun k=>?_⟩
  have e1:decide (((zBA 408).length:Int)<Int.ofNat 80)=false:=by rw[zSF];rfl
  rw[zC]
  simp only[zHx,zA f1,zA f2,zA f3,Own.pLen hO,zN,zI,e1,zq]
  rfl
 | succ j ih =>
  intro n v H fr Z m hn hm hw hB hO f1 f2 f3
  obtain⟨m,rfl⟩:∃ j,m=j+1:=⟨m-1,by omega⟩
  have hlt:=primes_lt (n:=n) (by omega)
  have e1:decide (((zBA n).length:Int)<Int.ofNat 80)=true:=decide_eq_true (by simp;omega)
  have hin:=l_law8_sumn c N (.ptr t 0) v (n+2) H (zBA n) (by omega) (Own.rd hO) (primesN_pos n) (zBA n) [] true
   (T.s (T.s (T.s (T.s (T.s .leaf 1 (.ptr t 0)) 2 v) 3 (.int .u64 ((n+2:Nat):Int))) 4 (.bool true)) 5 (.int .i64 (.ofNat 0))) Z N rfl (by omega)
   (by rfl) (by rfl) (by rfl) (by rfl) (by rfl)
  have e2:wr .u64 (((n+2:Nat):Int)+Int.ofNat 1)=((n+1+2:Nat):Int):=by
   rw[show((n+2:Nat):Int)+Int.ofNat 1=((n+3:Nat):Int)from rfl,uk64]
   congr 1;apply Nat.mod_eq_of_lt
   have:pow2 .u64=18446744073709551616:=by decide
   omega
  cases hp:zSq true (n+2) (zBA n)with
  | true =>
   obtain⟨w,H1,v',H2,p1,p2,p3,p4,_⟩:=hO.push (bytes:=8) hw hB (.int .u64 ((n+2:Nat):Int)) (.int .u64 (.ofNat 0)) rfl rfl (by omega) (by omega) Z
   rw[zIz]at p3
   have ep:zBA (n+1)=zBA n++[n+2]:=by rw[zBA,if_pos hp]
   have p3':Own H2 B 1 v' (zBA (n+1)).length (ws .u64 (zBA (n+1))):=by rw[ep];simpa using p3
   obtain⟨v2,H',Z',r1,r2,r3⟩:=ih (n+1) v' H2
    (T.s (T.s (T.s (T.s (T.s (T.s .leaf 1 (.ptr t 0)) 2 v') 3 (.int .u64 ((n+2:Nat):Int))) 13 (.int .u64 ((n+2:Nat):Int))) 14 (.int .u64 ((n+1+2:Nat):Int))) 3 (.int .u64 ((n+1+2:Nat):Int)))
    Z.tail m (by omega) (by omega) p4.wf (Nat.le_trans hB p4.size) p3' (by rfl) (by rfl) (by rfl)
   refine⟨v2,H',Z',r1,p4.trans r2 nl,fun k=>?_⟩
   rw[zC]
   simp only[zHx,zA f1,zA f2,zA f3,Own.pLen hO,zN,zI,e1,zn]
   rw[hin]
   simp only[hp,zP,Nat.beq_refl,cond_true,cond_false,seqK,zL6,zJ,↓reduceIte,Nat.reduceEqDiff,zn,p1,p2,zf,zIH,zQ,e2]
   exact r3 k
  | false =>
   have ep:zBA (n+1)=zBA n:=by rw[zBA,if_neg (by rw[hp];simp)]
   obtain⟨v2,H',Z',r1,r2,r3⟩:=ih (n+1) v H
    (T.s (T.s (T.s (T.s (T.s (T.s .leaf 1 (.ptr t 0)) 2 v) 3 (.int .u64 ((n+2:Nat):Int))) 13 (.int .u64 ((n+2:Nat):Int))) 14 (.int .u64 ((n+1+2:Nat):Int))) 3 (.int .u64 ((n+1+2:Nat):Int)))
    Z m (by omega) (by omega) hw hB (by rw[ep];exact hO) (by rfl) (by rfl) (by rfl)
   refine⟨v2,H',Z',r1,r2,fun k=>?_⟩
   rw[zC]
   simp only[zHx,zA f1,zA f2,zA f3,Own.pLen hO,zN,zI,e1,zn]
   rw[hin]
   simp only[hp,zP,Nat.beq_refl,cond_true,cond_false,seqK,zL6,zJ,↓reduceIte,Nat.reduceEqDiff,zq,zIH,zQ,e2]
   exact r3 k
abbrev Root23 (c:zD):Prop:=∀ (p:Nat) (cube:Bool) (H:Heap),WF H->∀ Z,∃ H',Gr H.size H H'/\∀ q,c zKH [.int .u64 (p:Int),.bool cube] H Z q=q (.int .u64 (zNB p cube:Nat)) H' Z
def zRj (l:List Nat)(cube:Bool)(base:Nat):Nat->Nat->List Nat->List Nat
 | 0,_,Lx=>Lx
 | j+1,i,Lx=>zRj l cube base j (i+1) (Lx.set (base+i) (zNB (l.getD i 0) cube))
theorem fillT_len (l:List Nat)(cube:Bool)(base:Nat):∀ j i Lx,(zRj l cube base j i Lx).length=Lx.length:=by
 intro j;induction j with
 | zero=>intros;rfl
 | succ j ih=>intro i Lx;rw[zRj,ih];simp
theorem l4n (c:zD)(N:Nat)(h23:Root23 c)(t:Nat)(v:V)(l:List Nat)(hl:l.length=80) :
  ∀ (j i:Nat) (T0:List Nat) (H:Heap) (fr:T V) (Z:Tape) (m:Nat),i+j=80->j<m->T0.length=96->WF H->Bx H t (ws .u64 T0)->(∀ H',Chg (fun x=>x=t) H H'->Rd H' 1 v l.length (ws .u64 l)) ->
  fr.get 1=some (.ptr t 0)->fr.get 2=some v->fr.get 6=some (.int .i64 (i:Int)) ->
  ∃ H',Bx H' t (ws .u64 (zRj l true 0 j i T0))/\Chg (fun x=>x=t) H H'/\∀ k,zW (zKD c N) m ⟨fr,H⟩ Z k=k (.exit 4) ⟨(T.s (T.s .leaf 1 (.ptr t 0)) 2 v),H'⟩ Z:=by
 intro j
 induction j with
 | zero =>
  intro i T0 H fr Z m hi hm hT hw hb hR f1 f2 f6
  obtain⟨m,rfl⟩:∃ j,m=j+1:=⟨m-1,by omega⟩
  refine⟨H,hb,Chg.refl hw,fun k=>?_⟩
  have e1:decide ((i:Int)<Int.ofNat 80)=false:=decide_eq_false (by simp;omega)
  rw[zC]
  simp only[zKD,zA f1,zA f2,zA f6,zI,e1,zq]
  rfl
 | succ j ih =>
  intro i T0 H fr Z m hi hm hT hw hb hR f1 f2 f6
  obtain⟨m,rfl⟩:∃ j,m=j+1:=⟨m-1,by omega⟩
  have e1:decide ((i:Int)<Int.ofNat 80)=true:=decide_eq_true (by simp;omega)
  obtain⟨q,q1,q2⟩:=(hR H (Chg.refl hw)).elem1 (i:=i) (zQG (k:=.u64) (l:=l) (i:=i) (by omega))
  obtain⟨H1,g1,k1⟩:=h23 (l.getD i 0) true H hw Z
  have b1:=hb.gr g1 (hb.lt hw)
  obtain⟨H2,s1,s2,s3⟩:=b1.word g1.wf (i:=0+i) (by omega) (zNB (l.getD i 0) true) Z
  have g2:Chg (fun x=>x=t) H H2:=(g1.chg (P:=fun x=>x=t)).trans (s3.chg (P:=fun x=>x=t) rfl) fun _ _ q=>q
  have e4:wr .i64 ((i:Int)+Int.ofNat 1)=((i+1:Nat):Int):=adN (k:=1) (by omega)
  obtain⟨H',r1,r2,r3⟩:=ih (i+1) _ H2 (T.s (T.s (T.s (T.s (T.s (T.s .leaf 1 (.ptr t 0)) 2 v) 6 (.int .i64 (i:Int))) 38 (.int .i64 (i:Int))) 39 (.int .i64 ((i+1:Nat):Int))) 6 (.int .i64 ((i+1:Nat):Int)))
   Z m (by omega) (by omega) (by simp[hT]) s3.wf s2 (fun H' h=>hR H' (g2.trans h fun _ _ q=>q)) (by rfl) (by rfl) (by rfl)
  refine⟨H',r1,g2.trans r2 fun _ _ q=>q,fun k=>?_⟩
  have nk:∀ (i o:Nat),zAn [.ptr i o]=some (.ptr i o):=fun _ _=>rfl
  have ea:zG 80 1 [.ptr t 0,.int .i64 (i:Int)]=some (.ptr t (0+i)):=by
   have:=z8 (z:=1) (id:=t) (off:=0) (show i<80 by omega)
   simpa using this
  rw[zC]
  simp only[zKD,zA f1,zA f2,zA f6,zI,e1,zn,q1,q2,zN,k1,nk,fa0,ea,s1,zf,zQ,e4]
  exact r3 k
theorem l3n (c:zD)(N:Nat)(h23:Root23 c)(t:Nat)(v:V)(l:List Nat)(hl:l.length=80) :
  ∀ (j i:Nat) (T0:List Nat) (H:Heap) (fr:T V) (Z:Tape) (m:Nat),i+j=16->j<m->T0.length=96->WF H->Bx H t (ws .u64 T0)->(∀ H',Chg (fun x=>x=t) H H'->Rd H' 1 v l.length (ws .u64 l)) ->
  fr.get 1=some (.ptr t 0)->fr.get 2=some v->fr.get 7=some (.int .i64 (i:Int)) ->
  ∃ H',Bx H' t (ws .u64 (zRj l false 80 j i T0))/\Chg (fun x=>x=t) H H'/\∀ k,zW (zKA c N) m ⟨fr,H⟩ Z k=k (.exit 6) ⟨(T.s .leaf 1 (.ptr t 0)),H'⟩ Z:=by
 intro j
 induction j with
 | zero =>
  intro i T0 H fr Z m hi hm hT hw hb hR f1 f2 f7
  obtain⟨m,rfl⟩:∃ j,m=j+1:=⟨m-1,by omega⟩
  refine⟨H,hb,Chg.refl hw,fun k=>?_⟩
  have e1:decide ((i:Int)<Int.ofNat 16)=false:=decide_eq_false (by simp;omega)
  rw[zC]
  simp only[zKA,zA f1,zA f2,zA f7,zI,e1,zq]
  rfl
 | succ j ih =>
  intro i T0 H fr Z m hi hm hT hw hb hR f1 f2 f7
  obtain⟨m,rfl⟩:∃ j,m=j+1:=⟨m-1,by omega⟩
  have e1:decide ((i:Int)<Int.ofNat 16)=true:=decide_eq_true (by simp;omega)
  obtain⟨q,q1,q2⟩:=(hR H (Chg.refl hw)).elem1 (i:=i) (zQG (k:=.u64) (l:=l) (i:=i) (by omega))
  obtain⟨H1,g1,k1⟩:=h23 (l.getD i 0) false H hw Z
  have b1:=hb.gr g1 (hb.lt hw)
  obtain⟨H2,s1,s2,s3⟩:=b1.word g1.wf (i:=80+i) (by omega) (zNB (l.getD i 0) false) Z
  have g2:Chg (fun x=>x=t) H H2:=(g1.chg (P:=fun x=>x=t)).trans (s3.chg (P:=fun x=>x=t) rfl) fun _ _ q=>q
  have e4:wr .i64 ((i:Int)+Int.ofNat 1)=((i+1:Nat):Int):=adN (k:=1) (by omega)
  obtain⟨H',r1,r2,r3⟩:=ih (i+1) _ H2 (T.s (T.s (T.s (T.s (T.s (T.s .leaf 1 (.ptr t 0)) 2 v) 7 (.int .i64 (i:Int))) 52 (.int .i64 (i:Int))) 53 (.int .i64 ((i+1:Nat):Int))) 7 (.int .i64 ((i+1:Nat):Int)))
   Z m (by omega) (by omega) (by simp[hT]) s3.wf s2 (fun H' h=>hR H' (g2.trans h fun _ _ q=>q)) (by rfl) (by rfl) (by rfl)
  refine⟨H',r1,g2.trans r2 fun _ _ q=>q,fun k=>?_⟩
  have nk:∀ (i o:Nat),zAn [.ptr i o]=some (.ptr i o):=fun _ _=>rfl
  have fa:zH 80 [.ptr t 0]=some (.ptr t 80):=by simp[zH]
  have ea:zG 16 1 [.ptr t 80,.int .i64 (i:Int)]=some (.ptr t (80+i)):=by
   have:=z8 (z:=1) (id:=t) (off:=80) (show i<16 by omega)
   simpa using this
  rw[zC]
  simp only[zKA,zA f1,zA f2,zA f7,zI,e1,zn,q1,q2,zN,k1,nk,fa,ea,s1,zf,zQ,e4]
  exact r3 k
def zBr:List Nat:=zRj zDS false 80 16 0 (zRj zDS true 0 80 0 (List.replicate 96 0))
theorem zR3 (c:zD)(N:Nat)(hN:1000<N)(h23:Root23 c)(H:Heap)(hw:WF H)(Z:Tape) :
  ∃ H' Z',Bx H' H.size (ws .u64 zBr)/\Gr H.size H H'/\∀ q,zNh c N H Z q=q (.ptr H.size 0) H' Z':=by
 have a0:zDw (repl 96 [(.int .u64 (.ofNat 0))]) [] []=some (.agg (ws .u64 (List.replicate 96 0))):=rfl
 have a1:eBox [.agg (ws .u64 (List.replicate 96 0))] H Z=some (.ptr H.size 0,H.new (ws .u64 (List.replicate 96 0)) (ws .u64 (List.replicate 96 0)).length true,Z):=rfl
 have g1:=Gr.new hw (ws .u64 (List.replicate 96 0)) (ws .u64 (List.replicate 96 0)).length true
 have b1:=Bx.new H (ws .u64 (List.replicate 96 0)) (ws .u64 (List.replicate 96 0)).length true nl
 have z1:(H.new (ws .u64 (List.replicate 96 0)) (ws .u64 (List.replicate 96 0)).length true).size=H.size+1:=rfl
 generalize H.new (ws .u64 (List.replicate 96 0)) (ws .u64 (List.replicate 96 0)).length true=H1 at a1 g1 b1 z1
 obtain⟨v,H2,Z2,o2,g2,k2⟩:=l5n c N hN H.size (H.size+1) 408 0 .nils H1
  (T.s (T.s (T.s .leaf 1 (.ptr H.size 0)) 2 .nils) 3 (.int .u64 (.ofNat 2))) Z N (by omega) (by omega) g1.wf (by omega) (Own.nil _ _ _) (by rfl) (by rfl) (by rfl)
 rw[zSF]at o2
 have b2:=b1.gr g2 (by omega)
 have hp:zDS.length=80:=rfl
 have rd2:∀ H',Chg (fun x=>x=H.size) H2 H'->Rd H' 1 v zDS.length (ws .u64 zDS):=by
  intro H' h
  have:=Own.rdS o2 g2.wf (show H.size<H.size+1 by omega)
  exact this H' (h.gx nl fun i _ e=>e)
 obtain⟨H3,b3,g3,k3⟩:=l4n c N h23 H.size v zDS hp 80 0 (List.replicate 96 0) H2 (T.s (T.s (T.s .leaf 1 (.ptr H.size 0)) 2 v) 6 (.int .i64 (.ofNat 0))) Z2 N (by omega) (by omega) (by simp) g2.wf b2 rd2 (by rfl) (by rfl) (by rfl)
 obtain⟨H4,b4,g4,k4⟩:=l3n c N h23 H.size v zDS hp 16 0 _ H3 (T.s (T.s (T.s .leaf 1 (.ptr H.size 0)) 2 v) 7 (.int .i64 (.ofNat 0))) Z2 N (by omega) (by omega) (by rw[fillT_len];simp) g3.wf b3 (fun H' h=>rd2 H' (g3.trans h fun _ _ q=>q)) (by rfl) (by rfl) (by rfl)
 have z2:=g2.size
 have z3:=g3.size
 refine⟨H4,Z2,b4,((g1.trans (g2.weaken (show H.size<=H.size+1 by omega)) nl).trans (g3.gr (B:=H.size) (by omega) fun i hi e=>by omega) nl).trans (g4.gr (B:=H.size) (by omega) fun i hi e=>by omega) nl,fun q=>?_⟩
 simp only[zNh,a0,zN,a1,zf]
 rw[k2]
 simp only[zP,Nat.beq_refl,cond_true,seqK,zPG,zJ,↓reduceIte,Nat.reduceEqDiff]
 rw[k3]
 simp only[zP,Nat.beq_refl,cond_true,seqK,zPP,zJ,↓reduceIte,Nat.reduceEqDiff]
 rw[k4]
 simp only[zP,Nat.beq_refl,cond_true,seqK,zOz,zJ,↓reduceIte,Nat.reduceEqDiff]
end Go.Am.X

namespace Go.Am.X
def setK {β:Type}:List Nat->Nat->Nat->(List Nat->β)->β
 | [],_,_,c=>c []
 | _::l,0,v,c=>c (v::l)
 | a::l,n+1,v,c=>setK l n v fun l=>c (a::l)
theorem setK_eq {β:Type}:∀ (l:List Nat) (n v:Nat) (c:List Nat->β),setK l n v c=c (l.set n v):=by
 intro l;induction l with
 | nil=>intro n v c;rfl
 | cons a l ih=>intro n v c;cases n with
  | zero=>rfl
  | succ n=>simp only[setK,ih,List.set_cons_succ]
def tInK (A B:List Nat)(i:Nat):Nat->Nat->List Nat->Nat->(List Nat->Nat->Option Nat)->Option Nat
 | 0,_,O,c,q=>q O c
 | n+1,k,O,c,q=>zJV (sumX O A B i k c) fun x=>zJV (zKS .u64 x 65535) fun y=>zJV (shrT .u64 x 16) fun z=>setK O (i+k) y fun O=>tInK A B i n (k+1) O z q
theorem tInK_eq (A B:List Nat)(i:Nat):∀ n k O c q,tInK A B i n k O c q=q (tInP A B i n k O c).1 (tInP A B i n k O c).2:=by
 intro n;induction n with
 | zero=>intros;rfl
 | succ n ih=>intro k O c q;simp only[tInK,zAP,setK_eq,ih,tInP]
def tOutK (A B:List Nat)(n:Nat):Nat->Nat->List Nat->(List Nat->Option Nat)->Option Nat
 | 0,_,O,q=>q O
 | m+1,i,O,q=>tInK A B i n 0 O 0 fun O c=>zJV ((O.getD (i+n) 0+c) % pow2 .u64) fun y=>setK O (i+n) y fun O=>tOutK A B n m (i+1) O q
theorem tOutK_eq (A B:List Nat)(n:Nat):∀ m i O q,tOutK A B n m i O q=q (tOutP A B n m i O):=by
 intro m;induction m with
 | zero=>intros;rfl
 | succ m ih=>intro i O q;simp only[tOutK,tInK_eq,zAP,setK_eq,ih,tOutP]
def timesK (A:List Nat)(m:Nat)(B:List Nat)(n:Nat)(q:List Nat->Option Nat):Option Nat:=tOutK A B n m 0 [0,0,0,0,0,0,0,0,0,0,0,0,0,0,0,0] q
theorem timesK_eq (A:List Nat)(m:Nat)(B:List Nat)(n:Nat)(q:List Nat->Option Nat):timesK A m B n q=q (zCZ A m B n):=by
 unfold timesK zCZ;rw[tOutK_eq];rfl
def cmpK (L:List Nat)(p at':Nat):Nat->Bool
 | 0=>true
 | i+1=>bif Nat.beq (L.getD i 0) (bif Nat.beq i at' then p else 0)then cmpK L p at' i else Nat.blt (L.getD i 0) (bif Nat.beq i at' then p else 0)
theorem cmpK_eq (L:List Nat)(p at':Nat):∀ n,cmpK L p at' n=cmpP L p at' n:=by
 intro n;induction n with
 | zero=>rfl
 | succ i ih =>
  have hw:(bif Nat.beq i at' then p else 0)=(if i=at' then p else 0):=by
   by_cases h:i=at'
   ·rw[if_pos h,h,Nat.beq_refl];rfl
   ·have:Nat.beq i at'=false:=by
     cases hb:Nat.beq i at' with
     | false=>rfl
     | true=>exact absurd (Nat.eq_of_beq_eq_true hb) h
    rw[if_neg h,this];rfl
  simp only[cmpK,cmpP,hw,ih]
  generalize (if i=at' then p else 0)=w
  by_cases h:L.getD i 0=w
  ·rw[if_pos h,h,Nat.beq_refl];rfl
  ·have:Nat.beq (L.getD i 0) w=false:=by
    cases hb:Nat.beq (L.getD i 0) w with
    | false=>rfl
    | true=>exact absurd (Nat.eq_of_beq_eq_true hb) h
   rw[if_neg h,this,cond_false]
   simp[Nat.blt,Nat.ble_eq,Nat.lt_iff_add_one_le]
   rw[Bool.eq_iff_iff];simp
def belowK (x:List Nat)(p:Nat)(cube:Bool)(q:Bool->Option Nat):Option Nat :=
 timesK x 5 x 5 fun b=>match cube with
  | true=>timesK b 10 x 5 fun b=>match cmpK b p 12 16 with | true=>q true | false=>q false
  | false=>match cmpK b p 8 16 with | true=>q true | false=>q false
theorem belowK_eq (x:List Nat)(p:Nat)(cube:Bool)(q:Bool->Option Nat):belowK x p cube q=q (zM6 x p cube):=by
 unfold belowK zM6
 cases cube
 ·simp only[timesK_eq,cmpK_eq]
  cases cmpP (zCZ x 5 x 5) p 8 16 <;> rfl
 ·simp only[timesK_eq,cmpK_eq,if_true]
  cases cmpP (zCZ (zCZ x 5 x 5) 10 x 5) p 12 16 <;> rfl
def rootLK (p:Nat)(cube:Bool):Nat->List Nat->(List Nat->Option Nat)->Option Nat
 | 0,lo,q=>q lo
 | k+1,lo,q=>zJV (lorT .u64 (lo.getD (k / 16) 0) ((1*2 ^ min (k % 16) IntKind.u64.bits) % pow2 .u64)) fun y=>setK lo (k / 16) y fun x=>belowK x p cube fun b=>match b with | true=>rootLK p cube k x q | false=>rootLK p cube k lo q
theorem rootLK_eq (p:Nat)(cube:Bool):∀ k lo q,rootLK p cube k lo q=q (zMv p cube k lo):=by
 intro k;induction k with
 | zero=>intros;rfl
 | succ k ih =>
  intro lo q
  simp only[rootLK,zAP,setK_eq,belowK_eq,zMv,<- bitP.eq_1]
  cases zM6 (bitP lo k) p cube <;> simp[ih]
def rootK (p:Nat)(cube:Bool):Option Nat:=rootLK p cube 72 [0,0,0,0,0,0,0,0,0,0,0,0,0,0,0,0] fun lo=>zJV (joinP4 lo) some
theorem rootK_eq (p:Nat)(cube:Bool):rootK p cube=some (zNB p cube):=by
 unfold rootK zNB
 rw[rootLK_eq,zAP];rfl
def zK8 (cube:Bool):List Nat->List (Option Nat)
 | []=>[]
 | p::l=>rootK p cube::zK8 cube l
theorem zIL (cube:Bool)(rs:List Nat):∀ ps,zK8 cube ps=rs.map some->ps.map (zNB · cube)=rs:=by
 induction rs with
 | nil=>intro ps h;cases ps with
  | nil=>rfl
  | cons p l=>simp[zK8]at h
 | cons r rs ih=>intro ps h;cases ps with
  | nil=>simp[zK8]at h
  | cons p l =>
   simp only[zK8,List.map_cons,List.cons.injEq,rootK_eq,Option.some.injEq]at h
   simp only[List.map_cons,h.1,ih l h.2]
end Go.Am.X

namespace Go.Am.X
theorem roots0:zK8 true [2,3,5,7,11,13,17,19,23,29]=([4794697086780616226,8158064640168781261,13096744586834688815,16840607885511220156,4131703408338449720,6480981068601479193,10538285296894168987,12329834152419229976,15566598209576043074,1334009975649890238]:List Nat).map some:=by kernel_rfl
end Go.Am.X

namespace Go.Am.X
theorem roots1:zK8 true [31,37,41,43,47,53,59,61,67,71]=([2608012711638119052,6128411473006802146,8268148722764581231,9286055187155687089,11230858885718282805,13951009754708518548,16472876342353939154,17275323862435702243,1135362057144423861,2597628984639134821]:List Nat).map some:=by kernel_rfl
end Go.Am.X

namespace Go.Am.X
theorem roots2:zK8 true [73,79,83,89,97,101,103,107,109,113]=([3308224258029322869,5365058923640841347,6679025012923562964,8573033837759648693,10970295158949994411,12119686244451234320,12683024718118986047,13788192230050041572,14330467153632333762,15395433587784984357]:List Nat).map some:=by kernel_rfl
end Go.Am.X

namespace Go.Am.X
theorem roots3:zK8 true [127,131,137,139,149,151,157,163,167,173]=([489312712824947311,1452737877330783856,2861767655752347644,3322285676063803686,5560940570517711597,5996557281743188959,7280758554555802590,8532644243296465576,9350256976987008742,10552545826968843579]:List Nat).map some:=by kernel_rfl
end Go.Am.X

namespace Go.Am.X
theorem roots4:zK8 true [179,181,191,193,197,199,211,223,227,229]=([11727347734174303076,12113106623233404929,14000437183269869457,14369950271660146224,15101387698204529176,15463397548674623760,17586052441742319658,1182934255886127544,1847814050463011016,2177327727835720531]:List Nat).map some:=by kernel_rfl
end Go.Am.X

namespace Go.Am.X
theorem roots5:zK8 true [233,239,241,251,257,263,269,271,277,281]=([2830643537854262169,3796741975233480872,4115178125766777443,5681478168544905931,6601373596472566643,7507060721942968483,8399075790359081724,8693463985226723168,9568029438360202098,10144078919501101548]:List Nat).map some:=by kernel_rfl
end Go.Am.X

namespace Go.Am.X
theorem roots6:zK8 true [283,293,307,311,313,317,331,337,347,349]=([10430055236837252648,11840083180663258601,13761210420658862357,14299343276471374635,14566680578165727644,15097957966210449927,16922976911328602910,17689382322260857208,500013540394364858,748580250866718886]:List Nat).map some:=by kernel_rfl
end Go.Am.X

namespace Go.Am.X
theorem roots7:zK8 true [353,359,367,373,379,383,389,397,401,409]=([1242879168328830382,1977374033974150939,2944078676154940804,3659926193048069267,4368137639120453308,4836135668995329356,5532061633213252278,6448918945643986474,6902733635092675308,7801388544844847127]:List Nat).map some:=by kernel_rfl
end Go.Am.X

namespace Go.Am.X
theorem roots8:zK8 false [2,3,5,7,11,13,17,19,23,29,31,37,41,43,47,53]=([7640891576956012808,13503953896175478587,4354685564936845355,11912009170470909681,5840696475078001361,11170449401992604703,2270897969802886507,6620516959819538809,14680500436340154072,7105036623409894663,10473403895298186519,1526699215303891257,7436329637833083697,10282925794625328401,15784041429090275239,5167115440072839076]:List Nat).map some:=by kernel_rfl
end Go.Am.X

namespace Go.Am.X
theorem ws_scal (k:IntKind)(l:List Nat):(ws k l).all V.scal=true:=by
 rw[List.all_eq_true]
 intro x hx
 obtain⟨n,_,rfl⟩:=List.mem_map.1 hx
 rfl
def natsOf:Option (Option (List V))->List Nat
 | some (some cs)=>cs.map fun | .int _ n=>n.toNat | _=>0
 | _=>[]
def zFa:List Nat:=natsOf zDG[1]?
def zB6:List Nat:=natsOf zDG[3]?
def zCk:List Nat:=natsOf zDG[4]?
def consts:List Nat:=natsOf zDG[6]?
theorem st0_0:zDG[0]?=some (some (ws .i64 zBJ)):=by kernel_rfl
theorem st0_1:zDG[1]?=some (some (ws .u32 zFa)):=by kernel_rfl
theorem st0_2:zDG[2]?=some (some (ws .i64 zBI)):=by kernel_rfl
theorem st0_3:zDG[3]?=some (some (ws .u64 zB6)):=by kernel_rfl
theorem st0_4:zDG[4]?=some (some (ws .u64 zCk)):=by kernel_rfl
theorem st0_5:zDG[6]?=some (some (ws .u64 consts)):=by kernel_rfl
theorem zF2:consts.length=80:=by kernel_rfl
theorem zHG:zFa.length=8:=by kernel_rfl
theorem zJZ:zB6.length=8:=by kernel_rfl
theorem zHD:zCk.length=8:=by kernel_rfl
theorem zOl:zND zDG=true:=by kernel_rfl
theorem zOD {H:Heap}(h:inH H 0 zDG=true){j:Nat}{cs:List V}(hj:zDG[j]?=some (some cs)):H.cells? j=some cs:=by
 have:=zSp zDG 0 h j cs hj
 rwa [Nat.zero_add]at this
end Go.Am.X

namespace Go.Am.X
theorem fillT_eq (l:List Nat)(cube:Bool)(base:Nat):∀ (j i:Nat) (T0:List Nat),i+j<=l.length->base+i+j<=T0.length ->
  zRj l cube base j i T0=T0.take (base+i)++((l.drop i).take j).map (zNB · cube)++T0.drop (base+i+j):=by
 intro j
 induction j with
 | zero=>intro i T0 _ h;simp[zRj]
 | succ j ih =>
  intro i T0 h1 h2
  rw[zRj,ih (i+1) _ (by omega) (by simp;omega)]
  have hl:l.drop i=l.getD i 0::l.drop (i+1):=by
   rw[List.drop_eq_getElem_cons (show i<l.length by omega)]
   simp[List.getD_eq_getElem?_getD,List.getElem?_eq_getElem (show i<l.length by omega)]
  have ht:(T0.set (base+i) (zNB (l.getD i 0) cube)).take (base+(i+1))=T0.take (base+i)++[zNB (l.getD i 0) cube]:=by
   rw[show base+(i+1)=base+i+1 by omega,List.take_add_one,List.take_set_of_le nl,List.getElem?_set_self (by omega)]
   rfl
  have hd:(T0.set (base+i) (zNB (l.getD i 0) cube)).drop (base+(i+1)+j)=T0.drop (base+i+(j+1)):=by
   rw[List.drop_set_of_lt (by omega)]
   congr 1;omega
  rw[ht,hd,hl,List.take_succ_cons,List.map_cons]
  simp
theorem cubes_lit:(([4794697086780616226,8158064640168781261,13096744586834688815,16840607885511220156,4131703408338449720,6480981068601479193,10538285296894168987,12329834152419229976,15566598209576043074,1334009975649890238]++([2608012711638119052,6128411473006802146,8268148722764581231,9286055187155687089,11230858885718282805,13951009754708518548,16472876342353939154,17275323862435702243,1135362057144423861,2597628984639134821]++([3308224258029322869,5365058923640841347,6679025012923562964,8573033837759648693,10970295158949994411,12119686244451234320,12683024718118986047,13788192230050041572,14330467153632333762,15395433587784984357]++([489312712824947311,1452737877330783856,2861767655752347644,3322285676063803686,5560940570517711597,5996557281743188959,7280758554555802590,8532644243296465576,9350256976987008742,10552545826968843579]++([11727347734174303076,12113106623233404929,14000437183269869457,14369950271660146224,15101387698204529176,15463397548674623760,17586052441742319658,1182934255886127544,1847814050463011016,2177327727835720531]++([2830643537854262169,3796741975233480872,4115178125766777443,5681478168544905931,6601373596472566643,7507060721942968483,8399075790359081724,8693463985226723168,9568029438360202098,10144078919501101548]++([10430055236837252648,11840083180663258601,13761210420658862357,14299343276471374635,14566680578165727644,15097957966210449927,16922976911328602910,17689382322260857208,500013540394364858,748580250866718886]++[1242879168328830382,1977374033974150939,2944078676154940804,3659926193048069267,4368137639120453308,4836135668995329356,5532061633213252278,6448918945643986474,6902733635092675308,7801388544844847127]))))))):List Nat)=consts:=by kernel_rfl
theorem squares_lit:([7640891576956012808,13503953896175478587,4354685564936845355,11912009170470909681,5840696475078001361,11170449401992604703,2270897969802886507,6620516959819538809,14680500436340154072,7105036623409894663,10473403895298186519,1526699215303891257,7436329637833083697,10282925794625328401,15784041429090275239,5167115440072839076]:List Nat)=zCk++zB6:=by kernel_rfl
theorem cubes_eq:zDS.map (zNB · true)=consts:=by
 have e:zDS=[2,3,5,7,11,13,17,19,23,29]++([31,37,41,43,47,53,59,61,67,71]++([73,79,83,89,97,101,103,107,109,113]++([127,131,137,139,149,151,157,163,167,173]++([179,181,191,193,197,199,211,223,227,229]++([233,239,241,251,257,263,269,271,277,281]++([283,293,307,311,313,317,331,337,347,349]++[353,359,367,373,379,383,389,397,401,409])))))):=rfl
 rw[e,List.map_append,List.map_append,List.map_append,List.map_append,List.map_append,List.map_append,List.map_append,zIL _ _ _ roots0,zIL _ _ _ roots1,zIL _ _ _ roots2,zIL _ _ _ roots3,zIL _ _ _ roots4,zIL _ _ _ roots5,zIL _ _ _ roots6,zIL _ _ _ roots7]
 exact cubes_lit
theorem squares_eq:(zDS.take 16).map (zNB · false)=zCk++zB6:=by
 have e:zDS.take 16=[2,3,5,7,11,13,17,19,23,29,31,37,41,43,47,53]:=rfl
 rw[e,zIL _ _ _ roots8]
 exact squares_lit
theorem zRa:zBr=consts++(zCk++zB6):=by
 have hp:zDS.length=80:=rfl
 unfold zBr
 rw[fillT_eq zDS true 0 80 0 _ (by omega) (by simp),fillT_eq zDS false 80 16 0 _ (by omega) (by simp[hp])]
 have h1:((zDS.drop 0).take 80).map (zNB · true)=consts:=by
  rw[List.drop_zero,List.take_of_length_le (by omega)];exact cubes_eq
 have h2:((zDS.drop 0).take 16).map (zNB · false)=zCk++zB6:=by
  rw[List.drop_zero];exact squares_eq
 rw[h1,h2]
 have hc:=zF2
 simp[hc]
theorem tableP_len:zBr.length=96:=by
 rw[zRa,List.length_append,List.length_append,zF2,zHD,zJZ]
theorem tableP_K {i:Nat}(h:i<80):zBr.getD i 0=consts.getD i 0:=by
 rw[zRa]
 simp[List.getD_eq_getElem?_getD,List.getElem?_append_left (show i<consts.length by rw[zF2];exact h)]
theorem tableP_H {i:Nat}(h:i<16):zBr.getD (80+i) 0=(zCk++zB6).getD i 0:=by
 rw[zRa]
 simp[List.getD_eq_getElem?_getD,List.getElem?_append_right (show consts.length<=80+i by rw[zF2];omega),zF2]
theorem hR_mk (wb fr:Nat)(hf:fr<=8)(l:List Nat)(h:((List.range 8).map fun i=>zMS wb ((zCk++zB6).getD (fr+i) 0))=l):hR zBr wb fr 8 0 (List.replicate 8 0)=l:=by
 have e:∀ i,i<8->zMS wb (zBr.getD (80+(fr+i)) 0)=zMS wb ((zCk++zB6).getD (fr+i) 0):=fun i hi=>by rw[tableP_H (by omega)]
 simp only[hR,Nat.zero_add,Nat.reduceAdd,e 0 (by omega),e 1 (by omega),e 2 (by omega),e 3 (by omega),e 4 (by omega),e 5 (by omega),e 6 (by omega),e 7 (by omega)]
 rw[<- h]
 rfl
theorem h256:((List.range 8).map fun i=>zMS 32 ((zCk++zB6).getD (0+i) 0))=zFa:=by kernel_rfl
theorem h384:((List.range 8).map fun i=>zMS 64 ((zCk++zB6).getD (8+i) 0))=zB6:=by kernel_rfl
theorem h512:((List.range 8).map fun i=>zMS 64 ((zCk++zB6).getD (0+i) 0))=zCk:=by kernel_rfl
theorem hR_256:hR zBr 32 0 8 0 (List.replicate 8 0)=zFa:=hR_mk 32 0 (by omega) _ h256
theorem hR_384:hR zBr 64 8 8 0 (List.replicate 8 0)=zB6:=hR_mk 64 8 (by omega) _ h384
theorem hR_512:hR zBr 64 0 8 0 (List.replicate 8 0)=zCk:=hR_mk 64 0 (by omega) _ h512
end Go.Am.X

namespace Go.Am.X
theorem zQ6 (x n:Nat):zTH 64 x n=zJm .u64 x n 64:=by
 unfold zTH cutT;rw[if_neg (by decide)];rfl
theorem mixW_64t (x a b d:Nat):mixW 64 x a b d true=zDl .u64 x a b d 64:=by
 unfold mixW zDl;rw[zQ6,zQ6,if_pos rfl]
theorem mixW_64f (x a b d:Nat):mixW 64 x a b d false=bigT .u64 x a b d 64:=by
 unfold mixW bigT;rw[zQ6,zQ6,zQ6];rfl
theorem zJE {α:Type}(b:List α)(m i k:Nat)(h:i+k<=m):((b.take m).drop i).take k=(b.drop i).take k:=by
 rw[List.drop_take,List.take_take];congr 1;omega
theorem sched64_add (bs:List Nat):∀ n m t W,zGG bs (n+m) t W=zGG bs m (t+n) (zGG bs n t W):=by
 intro n;induction n with
 | zero=>intro m t W;rw[Nat.zero_add];rfl
 | succ n ih=>intro m t W;rw[Nat.succ_add];show zGG bs (n+m) (t+1) _=_;rw[ih];rw[show t+1+n=t+(n+1)by omega];rfl
theorem init_64 (b:List Nat):∀ n t X,t+n<=16->zTF 8 (b.take 128) n t X=zGG b n t X:=by
 intro n;induction n with
 | zero=>intros;rfl
 | succ n ih =>
  intro t X h
  have hw:zLk b t X=X.set t (accT .u64 (X.getD t 0) ((b.drop (t*8)).take 8)):=by unfold zLk;rw[if_neg (by omega)]
  rw[zTF,zGG,ih (t+1) _ (by omega),hw,zJE _ _ _ _ (by omega)]
theorem exp_64 (b:List Nat):∀ n t X,16<=t->expR 64 n t X=zGG b n t X:=by
 intro n;induction n with
 | zero=>intros;rfl
 | succ n ih =>
  intro t X h
  have hw:zLk b t X=X.set t (expR1 64 X t):=by
   unfold zLk expR1 cutT
   rw[if_pos h,if_neg (by decide),mixW_64t,mixW_64t]
   rfl
  rw[expR,zGG,ih (t+1) _ (by omega),hw]
theorem blockX_64 (b:List Nat):zNd 64 (b.take 128)=zGG b 80 0 (List.replicate 80 0):=by
 unfold zNd
 rw[show zC8 64-16=64 by rfl,show(64 / 8:Nat)=8 by rfl,init_64 b 16 0 _ (by omega),exp_64 b 64 16 _ (by omega)]
 exact(sched64_add b 16 64 0 _).symm
theorem round_64 (X v:List Nat)(i:Nat)(hi:i<80):zPD 64 zBr X i v=zL4 consts X i v:=by
 have h1:t1R 64 zBr X i v=oneT64 consts X i v:=by
  unfold t1R oneT64
  rw[mixW_64f,cr64,tableP_K hi,Nat.pow_zero,Nat.div_one]
  rfl
 have h2:t2R 64 v=twoT64 v:=by unfold t2R twoT64;rw[mixW_64f];rfl
 unfold zPD zL4 cutT
 rw[if_neg (by decide),if_neg (by decide),h1,h2]
theorem rs_64 (X:List Nat):∀ n i v,i+n<=80->rsR 64 zBr X n i v=zL5 consts X n i v:=by
 intro n;induction n with
 | zero=>intros;rfl
 | succ n ih=>intro i v h;rw[rsR,zL5,round_64 _ _ _ (by omega),ih (i+1) _ (by omega)]
theorem add_64 (v:List Nat):∀ n i h,addR 64 v n i h=zNU .u64 v n i h:=by
 intro n;induction n with
 | zero=>intros;rfl
 | succ n ih=>intro i h;rw[addR,zNU,ih];unfold cutT;rw[if_neg (by decide)]
theorem block_64 (b h:List Nat):zJk 64 zBr (b.take 128) h=zS4 consts b h:=by
 unfold zJk zS4
 rw[blockX_64,show zC8 64=80 by rfl,rs_64 _ 80 0 _ (by omega),add_64]
theorem blocks_64 (x:List Nat):∀ n i h,zBc 64 128 zBr x n i h=zEy consts x n i h:=by
 intro n;induction n with
 | zero=>intros;rfl
 | succ n ih=>intro i h;rw[zBc,zEy,block_64,ih]
theorem blocksR_add (wb size:Nat)(K x:List Nat):∀ n m i h,zBc wb size K x (n+m) i h=zBc wb size K x m (i+n*size) (zBc wb size K x n i h):=by
 intro n;induction n with
 | zero=>intro m i h;rw[Nat.zero_add,Nat.zero_mul];rfl
 | succ n ih =>
  intro m i h
  rw[Nat.succ_add]
  show zBc wb size K x (n+m) (i+size) _=_
  rw[ih,show i+size+n*size=i+(n+1)*size by rw[Nat.add_mul,Nat.one_mul];omega]
  rfl
theorem zJ2 (wb size:Nat)(K x y:List Nat):∀ n i j h,(∀ k,k<n->(x.drop (i+k*size)).take size=(y.drop (j+k*size)).take size)->zBc wb size K x n i h=zBc wb size K y n j h:=by
 intro n;induction n with
 | zero=>intros;rfl
 | succ n ih =>
  intro i j h hk
  have h0:=hk 0 (by omega)
  rw[Nat.zero_mul,Nat.add_zero,Nat.add_zero]at h0
  rw[zBc,zBc,h0]
  refine ih (i+size) (j+size) _ fun k hkn=>?_
  have:=hk (k+1) (by omega)
  rw[show i+size+k*size=i+(k+1)*size by rw[Nat.add_mul,Nat.one_mul];omega,show j+size+k*size=j+(k+1)*size by rw[Nat.add_mul,Nat.one_mul];omega]
  exact this
theorem zRG (wb size:Nat)(K p q:List Nat)(n m:Nat)(hs:0<size)(hp:p.length=n*size)(h:List Nat):zBc wb size K (p++q) (n+m) 0 h=zBc wb size K q m 0 (zBc wb size K p n 0 h):=by
 rw[blocksR_add,Nat.zero_add]
 have e1:zBc wb size K (p++q) n 0 h=zBc wb size K p n 0 h:=by
  refine zJ2 _ _ _ _ _ _ _ _ _ fun k hk=>?_
  have hk1:0+k*size+size<=p.length:=by
   rw[hp]
   have:(k+1)*size<=n*size:=Nat.mul_le_mul_right _ (by omega)
   rw[Nat.add_mul,Nat.one_mul]at this;omega
  rw[List.drop_append_of_le_length (by omega),List.take_append_of_le_length (by rw[List.length_drop];omega)]
 have e2:∀ h',zBc wb size K (p++q) m (n*size) h'=zBc wb size K q m 0 h':=fun h'=>by
  refine zJ2 _ _ _ _ _ _ _ _ _ fun k hk=>?_
  rw[<- hp,Nat.zero_add,List.drop_append,List.drop_eq_nil_of_le (by omega),List.nil_append,Nat.add_sub_cancel_left]
 rw[e1,e2]
theorem pad_128 (bs:List Nat):padR 128 bs=bs.take (bs.length / 128*128)++zIn bs:=by
 unfold padR zIn
 have hL:bs.length / 128*128<=bs.length:=Nat.div_mul_le_self _ _
 have hz:(2*128-128 / 8-(bs.length+1) % 128) % 128=(128-((bs.drop (bs.length / 128*128)++[128]).length+16) % 128) % 128:=by
  rw[List.length_append,List.length_drop];simp only[List.length_singleton];omega
 rw[hz]
 have:bs=bs.take (bs.length / 128*128)++bs.drop (bs.length / 128*128):=(List.take_append_drop _ _).symm
 conv=>lhs;rw[show bs++[128]=bs.take (bs.length / 128*128)++(bs.drop (bs.length / 128*128)++[128])by rw[<- List.append_assoc,List.take_append_drop]]
 simp only[List.append_assoc]
theorem sum_64 (st bs:List Nat)(fr:Nat)(hst:hR zBr 64 fr 8 0 (List.replicate 8 0)=st):zPT zBr 64 128 fr bs=zLp consts st bs:=by
 have hL:bs.length / 128*128<=bs.length:=Nat.div_mul_le_self _ _
 have hp:(bs.take (bs.length / 128*128)).length=bs.length / 128*128:=by rw[List.length_take];omega
 have hn:(padR 128 bs).length / 128=bs.length / 128+(zIn bs).length / 128:=by
  rw[pad_128,List.length_append,hp,Nat.add_comm,Nat.add_mul_div_right _ _ (by omega),Nat.add_comm]
 unfold zPT zLp
 rw[hst,hn,pad_128,zRG 64 128 zBr _ _ _ _ (by omega) hp,<- blocks_64,<- blocks_64]
 have:zBc 64 128 zBr (bs.take (bs.length / 128*128)) (bs.length / 128) 0 st=zBc 64 128 zBr bs (bs.length / 128) 0 st:=by
  refine zJ2 _ _ _ _ _ _ _ _ _ fun k hk=>?_
  refine zJE _ _ _ _ ?_
  have:(k+1)*128<=bs.length / 128*128:=Nat.mul_le_mul_right _ (by omega)
  omega
 rw[this]
end Go.Am.X

namespace Go.Am.X
theorem p64:pow2 .u64=2 ^ 64:=by decide
theorem p32:pow2 .u32=2 ^ 32:=by decide
theorem mm (x:Nat):x % 2 ^ 64 % 2 ^ 32=x % 2 ^ 32:=Nat.mod_mod_of_dvd _ (Nat.pow_dvd_pow 2 (by omega))
theorem cut_32 (x:Nat):cutT 32 x=x % 2 ^ 32:=by
 unfold cutT zKS
 rw[if_pos rfl,p64]
 have h1:(4294967295:Nat) % 2 ^ 64=2 ^ 32-1:=by decide
 rw[h1]
 show(x % 2 ^ 64 &&& (2 ^ 32-1)) % 2 ^ 64=_
 rw[Nat.and_two_pow_sub_one_eq_mod,mm]
 apply Nat.mod_eq_of_lt
 exact Nat.lt_of_lt_of_le (Nat.mod_lt _ (by decide)) (by decide)
theorem lor64 (a b:Nat):lorT .u64 a b % 2 ^ 32=a % 2 ^ 32 ||| b % 2 ^ 32:=by
 unfold lorT
 rw[p64]
 show(a % 2 ^ 64 ||| b % 2 ^ 64) % 2 ^ 64 % 2 ^ 32=_
 rw[mm,Nat.or_mod_two_pow,mm,mm]
theorem lor32 (a b:Nat):lorT .u32 a b=a % 2 ^ 32 ||| b % 2 ^ 32:=by
 unfold lorT
 rw[p32]
 show(a % 2 ^ 32 ||| b % 2 ^ 32) % 2 ^ 32=_
 rw[Nat.or_mod_two_pow,Nat.mod_mod,Nat.mod_mod]
theorem xor64 (a b:Nat):xorT .u64 a b % 2 ^ 32=a % 2 ^ 32 ^^^ b % 2 ^ 32:=by
 unfold xorT
 rw[p64]
 show(a % 2 ^ 64 ^^^ b % 2 ^ 64) % 2 ^ 64 % 2 ^ 32=_
 rw[mm,Nat.xor_mod_two_pow,mm,mm]
theorem xor32 (a b:Nat):xorT .u32 a b=a % 2 ^ 32 ^^^ b % 2 ^ 32:=by
 unfold xorT
 rw[p32]
 show(a % 2 ^ 32 ^^^ b % 2 ^ 32) % 2 ^ 32=_
 rw[Nat.xor_mod_two_pow,Nat.mod_mod,Nat.mod_mod]
theorem and64 (a b:Nat):zKS .u64 a b % 2 ^ 32=a % 2 ^ 32 &&& b % 2 ^ 32:=by
 unfold zKS
 rw[p64]
 show(a % 2 ^ 64 &&& b % 2 ^ 64) % 2 ^ 64 % 2 ^ 32=_
 rw[mm,Nat.and_mod_two_pow,mm,mm]
theorem and32 (a b:Nat):zKS .u32 a b=a % 2 ^ 32 &&& b % 2 ^ 32:=by
 unfold zKS
 rw[p32]
 show(a % 2 ^ 32 &&& b % 2 ^ 32) % 2 ^ 32=_
 rw[Nat.and_mod_two_pow,Nat.mod_mod,Nat.mod_mod]
def Eq32 (a b:Nat):Prop:=a % 2 ^ 32=b % 2 ^ 32
theorem e_lor {a b c d:Nat}(h1:Eq32 a c)(h2:Eq32 b d):Eq32 (lorT .u64 a b) (lorT .u32 c d):=by
 unfold Eq32 at *;rw[lor64,lor32,h1,h2,Nat.or_mod_two_pow,Nat.mod_mod,Nat.mod_mod]
theorem e_xor {a b c d:Nat}(h1:Eq32 a c)(h2:Eq32 b d):Eq32 (xorT .u64 a b) (xorT .u32 c d):=by
 unfold Eq32 at *;rw[xor64,xor32,h1,h2,Nat.xor_mod_two_pow,Nat.mod_mod,Nat.mod_mod]
theorem e_and {a b c d:Nat}(h1:Eq32 a c)(h2:Eq32 b d):Eq32 (zKS .u64 a b) (zKS .u32 c d):=by
 unfold Eq32 at *;rw[and64,and32,h1,h2,Nat.and_mod_two_pow,Nat.mod_mod,Nat.mod_mod]
theorem zRX {a b c d:Nat}(h1:Eq32 a c)(h2:Eq32 b d):Eq32 (addT .u64 a b) (addT .u32 c d):=by
 unfold Eq32 addT at *;rw[p64,p32,mm,Nat.mod_mod,Nat.add_mod,h1,h2,<- Nat.add_mod]
theorem e_not (a:Nat):Eq32 (notT .u64 a) (notT .u32 a):=by
 unfold Eq32 notT
 have h1:pow2 .u64=18446744073709551616:=by decide
 have h2:pow2 .u32=4294967296:=by decide
 rw[h1,h2,show(2:Nat) ^ 32=4294967296 by decide]
 omega
theorem zIq (a:Nat):Eq32 a a:=rfl
theorem e_mod {a b:Nat}(h:Eq32 a b)(hb:b<2 ^ 32):a % 2 ^ 32=b:=by
 unfold Eq32 at h;rw[h];exact Nat.mod_eq_of_lt hb
theorem lt_add (a b:Nat):addT .u32 a b<2 ^ 32:=by unfold addT;rw[p32];exact Nat.mod_lt _ (by decide)
theorem zRM (x n:Nat)(hn:n<=32):Eq32 (zTH 32 x n) (zJm .u32 x n 32):=by
 unfold Eq32 zTH zJm
 rw[cut_32,Nat.mod_mod]
 have h1:shrT .u64 x n=shrT .u32 x n:=by
  unfold shrT;rw[show min n IntKind.u64.bits=n by show min n 64=n;omega,show min n IntKind.u32.bits=n by show min n 32=n;omega]
 rw[h1]
 refine e_lor (zIq _) ?_
 unfold Eq32
 rw[show min (32-n) IntKind.u64.bits=32-n by show min (32-n) 64=32-n;omega,show min (32-n) IntKind.u32.bits=32-n by show min (32-n) 32=32-n;omega,p64,p32,mm,Nat.mod_mod]
theorem e_little (x a b d:Nat)(ha:a<=32)(hb:b<=32)(hd:d<=32):Eq32 (mixW 32 x a b d true) (zDl .u32 x a b d 32):=by
 unfold mixW zDl
 rw[if_pos rfl]
 refine e_xor (e_xor (zRM x a ha) (zRM x b hb)) ?_
 have h1:shrT .u64 x d=shrT .u32 x d:=by
  unfold shrT;rw[show min d IntKind.u64.bits=d by show min d 64=d;omega,show min d IntKind.u32.bits=d by show min d 32=d;omega]
 rw[h1];exact zIq _
theorem e_big (x a b d:Nat)(ha:a<=32)(hb:b<=32)(hd:d<=32):Eq32 (mixW 32 x a b d false) (bigT .u32 x a b d 32):=by
 unfold mixW bigT
 exact e_xor (e_xor (zRM x a ha) (zRM x b hb)) (zRM x d hd)
theorem e_choice (v:List Nat):Eq32 (zNH .u64 v) (zNH .u32 v):=e_xor (e_and (zIq _) (zIq _)) (e_and (e_not _) (zIq _))
theorem e_most (v:List Nat):Eq32 (mostT .u64 v) (mostT .u32 v):=e_xor (e_xor (e_and (zIq _) (zIq _)) (e_and (zIq _) (zIq _))) (e_and (zIq _) (zIq _))
theorem sched32_add (bs:List Nat):∀ n m t W,zGN bs (n+m) t W=zGN bs m (t+n) (zGN bs n t W):=by
 intro n;induction n with
 | zero=>intro m t W;rw[Nat.zero_add];rfl
 | succ n ih=>intro m t W;rw[Nat.succ_add];show zGN bs (n+m) (t+1) _=_;rw[ih];rw[show t+1+n=t+(n+1)by omega];rfl
theorem acc_32:∀ (l:List Nat) (x j:Nat),(∀ b ∈ l,b<256)->x<2 ^ (8*j)->j+l.length<=4->accT .u64 x l=accT .u32 x l/\accT .u64 x l<2 ^ (8*(j+l.length)):=by
 intro l
 induction l with
 | nil=>intro x j _ hx _;exact⟨rfl,hx⟩
 | cons b l ih =>
  intro x j hb hx hj
  have hb0:=hb b (by simp)
  simp only[List.length_cons]at hj
  have hx4:x*2 ^ 8<2 ^ (8*(j+1)):=by
   rw[show 8*(j+1)=8*j+8 by omega,Nat.pow_add];exact(Nat.mul_lt_mul_right (by decide)).mpr hx
  have hle:2 ^ (8*(j+1))<=2 ^ 32:=Nat.pow_le_pow_right (by decide) (by omega)
  have hbj:b<2 ^ (8*(j+1)):=Nat.lt_of_lt_of_le hb0 (by rw[show(256:Nat)=2 ^ 8 by decide];exact Nat.pow_le_pow_right (by decide) (by omega))
  have e64:lorT .u64 ((x*2 ^ min 8 IntKind.u64.bits) % pow2 .u64) (b % pow2 .u64)=x*2 ^ 8 ||| b:=by
   have h1:(x*2 ^ min 8 IntKind.u64.bits) % pow2 .u64=x*2 ^ 8:=by
    rw[show min 8 IntKind.u64.bits=8 by rfl,p64];exact Nat.mod_eq_of_lt (by omega)
   have h2:b % pow2 .u64=b:=by rw[p64];exact Nat.mod_eq_of_lt (by omega)
   unfold lorT
   rw[h1,h2,p64,Nat.mod_eq_of_lt (show x*2 ^ 8<2 ^ 64 by omega),Nat.mod_eq_of_lt (show b<2 ^ 64 by omega)]
   show(x*2 ^ 8 ||| b) % 2 ^ 64=_
   refine Nat.mod_eq_of_lt (Nat.lt_of_lt_of_le (Nat.or_lt_two_pow hx4 hbj) (by omega))
  have e32:lorT .u32 ((x*2 ^ min 8 IntKind.u32.bits) % pow2 .u32) (b % pow2 .u32)=x*2 ^ 8 ||| b:=by
   have h1:(x*2 ^ min 8 IntKind.u32.bits) % pow2 .u32=x*2 ^ 8:=by
    rw[show min 8 IntKind.u32.bits=8 by rfl,p32];exact Nat.mod_eq_of_lt (by omega)
   have h2:b % pow2 .u32=b:=by rw[p32];exact Nat.mod_eq_of_lt (by omega)
   rw[h1,h2,lor32,Nat.mod_eq_of_lt (show x*2 ^ 8<2 ^ 32 by omega),Nat.mod_eq_of_lt (show b<2 ^ 32 by omega)]
  have:=ih (x*2 ^ 8 ||| b) (j+1) (fun c hc=>hb c (by simp[hc])) (Nat.or_lt_two_pow hx4 hbj) (by omega)
  unfold accT at this ⊢
  simp only[List.foldl_cons,e64,e32,List.length_cons]
  rw[show j+(l.length+1)=j+1+l.length by omega]
  exact this
theorem init_32 (b:List Nat)(hb:∀ x ∈ b,x<256):∀ n t X,t+n<=16->(∀ i,t<=i->X.getD i 0=0)->zTF 4 (b.take 64) n t X=zGN b n t X:=by
 intro n;induction n with
 | zero=>intros;rfl
 | succ n ih =>
  intro t X h hX
  have hw:zLt b t X=X.set t (accT .u32 (X.getD t 0) ((b.drop (t*4)).take 4)):=by unfold zLt;rw[if_neg (by omega)]
  have ha:=(acc_32 ((b.drop (t*4)).take 4) 0 0 (fun x hx=>hb x (List.mem_of_mem_drop (List.mem_of_mem_take hx))) (by decide) (by rw[List.length_take];omega)).1
  rw[zTF,zGN,ih (t+1) _ (by omega) (fun i hi=>by
   rw[List.getD_eq_getElem?_getD,List.getElem?_set_ne (by omega),<- List.getD_eq_getElem?_getD];exact hX i (by omega)),hw,zJE _ _ _ _ (by omega),hX t nl,ha]
theorem exp_32 (b:List Nat):∀ n t X,16<=t->expR 32 n t X=zGN b n t X:=by
 intro n;induction n with
 | zero=>intros;rfl
 | succ n ih =>
  intro t X h
  have hw:zLt b t X=X.set t (expR1 32 X t):=by
   unfold zLt expR1
   rw[if_pos h,cut_32]
   congr 1
   symm
   refine e_mod (zRX (zRX (zRX (e_little _ 17 19 10 (by omega) (by omega) (by omega)) (zIq _)) (e_little _ 7 18 3 (by omega) (by omega) (by omega))) (zIq _)) (lt_add _ _)
  rw[expR,zGN,ih (t+1) _ (by omega),hw]
theorem blockX_32 (b:List Nat)(hb:∀ x ∈ b,x<256):zNd 32 (b.take 64)=zGN b 64 0 (List.replicate 80 0):=by
 unfold zNd
 rw[show zC8 32-16=48 by rfl,show(32 / 8:Nat)=4 by rfl,init_32 b hb 16 0 _ (by omega) (fun i _=>by
  rw[List.getD_eq_getElem?_getD,List.getElem?_replicate];split <;> rfl),exp_32 b 48 16 _ (by omega)]
 exact(sched32_add b 16 48 0 _).symm
theorem round_32 (X v:List Nat)(i:Nat)(hi:i<80):zPD 32 zBr X i v=zME consts X i v:=by
 have h1:Eq32 (t1R 32 zBr X i v) (oneT32 consts X i v):=by
  unfold t1R oneT32
  refine zRX (zRX (zRX (zRX (zIq _) (e_big _ 6 11 25 (by omega) (by omega) (by omega))) (e_choice v)) ?_) (zIq _)
  unfold Eq32
  rw[cr32,tableP_K hi,p32,Nat.mod_mod]
  rfl
 have h2:Eq32 (t2R 32 v) (twoT32 v):=zRX (e_big _ 2 13 22 (by omega) (by omega) (by omega)) (e_most v)
 unfold zPD zME
 rw[cut_32,cut_32,e_mod (zRX h1 h2) (lt_add _ _),e_mod (zRX (zIq _) h1) (lt_add _ _)]
theorem rs_32 (X:List Nat):∀ n i v,i+n<=80->rsR 32 zBr X n i v=zL9 consts X n i v:=by
 intro n;induction n with
 | zero=>intros;rfl
 | succ n ih=>intro i v h;rw[rsR,zL9,round_32 _ _ _ (by omega),ih (i+1) _ (by omega)]
theorem add_32 (v:List Nat):∀ n i h,addR 32 v n i h=zNU .u32 v n i h:=by
 intro n;induction n with
 | zero=>intros;rfl
 | succ n ih=>intro i h;rw[addR,zNU,ih,cut_32,e_mod (zRX (zIq _) (zIq _)) (lt_add _ _)]
theorem block_32 (b h:List Nat)(hb:∀ x ∈ b,x<256):zJk 32 zBr (b.take 64) h=zSj consts b h:=by
 unfold zJk zSj
 rw[blockX_32 b hb,show zC8 32=64 by rfl,rs_32 _ 64 0 _ (by omega),add_32]
theorem blocks_32 (x:List Nat)(hb:∀ b ∈ x,b<256):∀ n i h,zBc 32 64 zBr x n i h=zEx consts x n i h:=by
 intro n;induction n with
 | zero=>intros;rfl
 | succ n ih=>intro i h;rw[zBc,zEx,block_32 _ _ (fun y hy=>hb y (List.mem_of_mem_drop hy)),ih]
theorem pad_64 (bs:List Nat):padR 64 bs=bs.take (bs.length / 64*64)++zHP bs:=by
 unfold padR zHP
 have hL:bs.length / 64*64<=bs.length:=Nat.div_mul_le_self _ _
 have hz:(2*64-64 / 8-(bs.length+1) % 64) % 64=(64-((bs.drop (bs.length / 64*64)++[128]).length+8) % 64) % 64:=by
  rw[List.length_append,List.length_drop];simp only[List.length_singleton];omega
 rw[hz]
 conv=>lhs;rw[show bs++[128]=bs.take (bs.length / 64*64)++(bs.drop (bs.length / 64*64)++[128])by rw[<- List.append_assoc,List.take_append_drop]]
 simp only[List.append_assoc]
theorem lens_lt (L:Nat):∀ n x,x ∈ lens L n->x<256:=by
 intro n;induction n with
 | zero=>intro x h;simp[lens]at h
 | succ n ih =>
  intro x h
  simp only[lens,List.mem_cons]at h
  rcases h with rfl | h
  ·unfold lenW;split
   ·exact Nat.mod_lt _ (by decide)
   ·decide
  ·exact ih x h
theorem tail32_lt (bs:List Nat)(hb:∀ b ∈ bs,b<256):∀ b ∈ zHP bs,b<256:=by
 intro b h
 unfold zHP at h
 simp only[List.mem_append,List.mem_singleton,List.mem_replicate]at h
 rcases h with((h | h) | h) | h
 ·exact hb b (List.mem_of_mem_drop h)
 ·omega
 ·omega
 ·exact lens_lt _ _ _ h
theorem word_32 (x:Nat):∀ n,n<=4->zFT .u64 x n=zFT .u32 x n:=by
 intro n;induction n with
 | zero=>intro _;rfl
 | succ n ih =>
  intro h
  rw[zFT,zFT,ih (by omega),show min (8*n) IntKind.u64.bits=8*n by show min (8*n) 64=8*n;omega,show min (8*n) IntKind.u32.bits=8*n by show min (8*n) 32=8*n;omega]
theorem out_32 (st:List Nat):outB .u64 (32 / 8) st=outB .u32 4 st:=by
 have e:(fun x=>zFT .u64 x (32 / 8))=fun x=>zFT .u32 x 4:=funext fun x=>word_32 x 4 (by omega)
 unfold outB
 rw[e]
theorem sum_32 (bs:List Nat)(hb:∀ b ∈ bs,b<256):zPT zBr 32 64 0 bs=zPb consts zFa bs:=by
 have hL:bs.length / 64*64<=bs.length:=Nat.div_mul_le_self _ _
 have hp:(bs.take (bs.length / 64*64)).length=bs.length / 64*64:=by rw[List.length_take];omega
 have hn:(padR 64 bs).length / 64=bs.length / 64+(zHP bs).length / 64:=by
  rw[pad_64,List.length_append,hp,Nat.add_comm,Nat.add_mul_div_right _ _ (by omega),Nat.add_comm]
 unfold zPT zPb
 rw[hR_256,hn,pad_64,zRG 32 64 zBr _ _ _ _ (by omega) hp,<- blocks_32 _ (tail32_lt bs hb),<- blocks_32 _ hb,out_32]
 have:zBc 32 64 zBr (bs.take (bs.length / 64*64)) (bs.length / 64) 0 zFa=zBc 32 64 zBr bs (bs.length / 64) 0 zFa:=by
  refine zJ2 _ _ _ _ _ _ _ _ _ fun k hk=>?_
  refine zJE _ _ _ _ ?_
  have:(k+1)*64<=bs.length / 64*64:=Nat.mul_le_mul_right _ (by omega)
  omega
 rw[this]
def sumT (bits:Nat)(bs:List Nat):List Nat:=if bits=256 then zPb consts zFa bs else if bits=384 then(zLp consts zB6 bs).take 48 else zLp consts zCk bs
theorem zQv {bits:Nat}(h:bits=256∨bits=384∨bits=512)(bs:List Nat):(sumT bits bs).length=bits / 8:=by
 rcases h with rfl | rfl | rfl
 ·unfold sumT;rw[if_pos rfl,zPl _ _ _ zHG]
 ·unfold sumT;rw[if_neg (by decide),if_pos rfl,List.length_take,zNp _ _ _ zJZ];rfl
 ·unfold sumT;rw[if_neg (by decide),if_neg (by decide),zNp _ _ _ zHD]
theorem sums_eq {bits:Nat}(h:bits=256∨bits=384∨bits=512)(bs:List Nat)(hb:∀ b ∈ bs,b<256):sumR zBr bits bs=sumT bits bs:=by
 rcases h with rfl | rfl | rfl
 ·unfold sumR sumT;rw[if_pos rfl,if_pos rfl,sum_32 bs hb,List.take_of_length_le (by rw[zPl _ _ _ zHG];omega)]
 ·unfold sumR sumT;rw[if_neg (by decide),if_pos rfl,if_neg (by decide),if_pos rfl,sum_64 zB6 bs 8 hR_384]
 ·unfold sumR sumT;rw[if_neg (by decide),if_neg (by decide),if_neg (by decide),if_neg (by decide),sum_64 zCk bs 0 hR_512,List.take_of_length_le (by rw[zNp _ _ _ zHD];omega)]
end Go.Am.X

