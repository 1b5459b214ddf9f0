/- The abstract machine, printed functions of the program, and what they are shown to be. -/
import Derived.Test.YtnijdmamheiebaaDoorCLSL6
import Derived.Test.YtnijdmamheiebaaDoorCLSM4
import Derived.Test.YtnijdmamheiebaaDoorCLSL1
set_option linter.unusedSimpArgs false
set_option linter.unusedVariables false
set_option linter.unusedSectionVars false
set_option maxRecDepth 100000
namespace Go.Am.X
theorem genl_new (H:Heap)(x:V)(pl:Bool){P:Nat->Prop}(hP:P H.size):GenL P (H.new [x] 1 pl) 1 (.sl H.size 0 1 1 none 1) 1 [x]:=by
 obtain⟨room,ver,p,st,fr,h1,h2,h3,h4⟩:=Bx.new H [x] 1 pl nl
 exact .inr ⟨H.size,1,none,[x],rfl,⟨room,H.size,ver,p,st,fr,h1,h2,h3,hP,hP⟩,Nat.le_refl _,rfl,rfl,rfl⟩
theorem genl_empty (H:Heap)(pl:Bool){P:Nat->Prop}(hP:P H.size):GenL P (H.new [] 0 pl) 1 (.sl H.size 0 0 0 none 1) 0 []:=by
 obtain⟨room,ver,p,st,fr,h1,h2,h3,h4⟩:=Bx.new H [] 0 pl nl
 exact .inr ⟨H.size,0,none,[],rfl,⟨room,H.size,ver,p,st,fr,h1,h2,h3,hP,hP⟩,Nat.le_refl _,rfl,rfl,rfl⟩
theorem genl_ne {P:Nat->Prop}{H:Heap}{z:Nat}{v:V}{m:Nat}{cs:List V}(h:GenL P H z v (m+1) cs):v≠.nils:=by
 rcases h with⟨_,h0,_⟩ | ⟨id,lo,ex,all,rfl,_⟩
 ·omega
 ·exact fun h=>by cases h
theorem nil_apd (id:Nat)(H:Heap)(Z:Tape):zAj 1 16 [.sl id 0 0 0 none 1,.nils] H Z=some (.sl id 0 0 0 none 1,H,Z):=rfl
theorem genl_str {P:Nat->Prop}{H:Heap}{v:V}{l:List Bs}(h:GenL P H 1 v l.length (l.map V.str))(hw:WF H)(hP:NewIn P H)(x:Bs)(hl:l.length<=1000000)(Z:Tape) :
  ∃ w H1 v' H' Z',zZ 1 1 [(.str [])] [(0,1)] [(.str x)] H Z=some (w,H1,Z)/\zAj 1 16 [v,w] H1 Z=some (v',H',Z')/\GenL P H' 1 v' (l++[x]).length ((l++[x]).map V.str)/\v'≠.nils/\Chg P H H':=by
 obtain⟨v',H',Z',r1,r2,r3,r4⟩:=h.put (bytes:=16) hw hP [.str x] (by omega) rfl rfl (by omega) (by omega) Z false
 refine⟨.sl H.size 0 1 1 none 1,H.new [.str x] 1 false,v',H',Z',rfl,r1,?_,genl_ne r2,r3⟩
 rw[List.length_append,List.map_append]
 exact r2
structure PthS (P D:Nat->Prop) (ps:List Bs) (pv:V) (M:Nat) (H:Heap) (v:V) (l:List Bs):Prop where
 wf:WF H
 nw:NewIn P H
 out:GenL P H 1 v l.length (l.map V.str)
 ne:v≠.nils
 pt:DatP D H 1 pv ps.length (ps.map V.str)
 dj:∀ i,D i->¬ P i
 sz:∀ x ∈ l,x.length<=3*M
 psz:∀ x ∈ ps,x.length<=M
 pl:ps.length<=100000
 hM:M<=100000
theorem PthS.put {P D:Nat->Prop}{ps:List Bs}{pv:V}{M:Nat}{H:Heap}{v:V}{l:List Bs}(h:PthS P D ps pv M H v l)(x:Bs)(hx:x.length<=3*M)(hl:l.length<=1000000)(Z:Tape) :
  ∃ w H1 v' H' Z',zZ 1 1 [(.str [])] [(0,1)] [(.str x)] H Z=some (w,H1,Z)/\zAj 1 16 [v,w] H1 Z=some (v',H',Z')/\PthS P D ps pv M H' v' (l++[x])/\Chg P H H':=by
 obtain⟨w,H1,v',H',Z',r1,r2,r3,r4,r5⟩:=genl_str h.out h.wf h.nw x hl Z
 refine⟨w,H1,v',H',Z',r1,r2,⟨r5.wf,fun i hi=>h.nw i (Nat.le_trans r5.size hi),r3,r4,h.pt.chg h.wf r5 fun i _ hd=>h.dj i hd,h.dj,fun y hy=>?_,h.psz,h.pl,h.hM⟩,r5⟩
 rcases List.mem_append.1 hy with h1 | h1
 ·exact h.sz y h1
 ·rw[List.mem_singleton.1 h1];exact hx
theorem PthS.pop {P D:Nat->Prop}{ps:List Bs}{pv:V}{M:Nat}{H:Heap}{v:V}{l:List Bs}(h:PthS P D ps pv M H v l){k:Nat}(hk:k<=l.length) :
  ∃ v',zHq 1 false true false [v,.int .i64 (k:Int)]=some v'/\PthS P D ps pv M H v' (l.take k):=by
 obtain⟨v',r1,r2,r3⟩:=h.out.upto hk h.ne
 refine⟨v',r1,⟨h.wf,h.nw,?_,r2,h.pt,h.dj,fun y hy=>h.sz y (List.mem_of_mem_take hy),h.psz,h.pl,h.hM⟩⟩
 rw[Nat.mul_one]at r3
 rw[List.length_take,Nat.min_eq_left hk,List.map_take]
 exact r3
theorem pth_j3 (c:zG)(N:Nat)(hQ:zSH c){P D:Nat->Prop}{ps:List Bs}{pv:V}{M:Nat}{H:Heap}{v:V}{l:List Bs}(h:PthS P D ps pv M H v l){j:Nat}(hj:j<ps.length)(hl:l.length<=j)(n:Int)(Z:Tape) :
  ∃ v' l' H' Z',PthS P D ps pv M H' v' l'/\l'.length<=j+1/\Chg P H H'/\∀ k fr,fr.get 5=some v->fr.get 6=some pv->fr.get 7=some (.int .i64 (j:Int))->fr.get 8=some (.int .i64 n) ->
   zCi c N k ⟨fr,H⟩ Z=k .normal ⟨(T.s (T.s (T.s (T.s (T.s (T.s .leaf 5 v') 6 pv) 7 (.int .i64 (j:Int))) 18 (.int .i64 (j:Int))) 19 (.int .i64 ((j+1:Nat):Int))) 7 (.int .i64 ((j+1:Nat):Int))),H'⟩ Z':=by
 have hpl:=h.pl
 have e3:wr .i64 ((j:Int)+Int.ofNat 1)=((j+1:Nat):Int):=by rw[adI (by omega)]
 have pl:pLen [pv]=some (.int .i64 (ps.length:Int)):=h.pt.rd.pLen
 have es:wr .i64 ((ps.length:Int)-Int.ofNat 1)=((ps.length-1:Nat):Int):=by rw[sbI (by omega) (by omega)]
 by_cases d:n=1∨n=2
 ·have dd:∀ (f:V->Heap->Tape->Ans),gK (.bool (n == Int.ofNat 1)) false (fun q'=>q' (.int .i64 n) H Z) H Z (fun v29 H30 Z31=>gK (.bool (n == Int.ofNat 1)) false (fun q'=>binK .eql v29 (.int .i64 (.ofNat 2)) fun v=>q' v H30 Z31) H30 Z31 fun v32 H33 Z34=>zC (zAE [.bool (n == Int.ofNat 1),(.bool true),v32]) fun v=>f v H33 Z34)=f (.bool true) H Z:=fun f=>by
   rcases d with rfl | rfl
   ·have e:((1:Int) == Int.ofNat 1)=true:=rfl
    simp only[e,zh,zX,zJ,cond_true,zB]
   ·have e:((2:Int) == Int.ofNat 1)=false:=rfl
    have e':((2:Int) == Int.ofNat 2)=true:=rfl
    simp only[e,zu,retK,zN,zU,e',zJ,cond_false,zB]
  by_cases d2:j=ps.length-1
  ·have e4:((j:Int) ==((ps.length-1:Nat):Int))=true:=by rw[beq_iff_eq];omega
   obtain⟨w,H1,v',H',Z',r1,r2,r3,r4⟩:=h.put [] (by simp) (by omega) Z
   refine⟨v',_,H',Z',r3,by simp;omega,r4,fun k fr f5 f6 f7 f8=>?_⟩
   simp only[zCi,zA f5,zA f6,zA f7,zA f8,zU]
   rw[dd]
   simp only[zF,pl,zB,zAA,es,zU,e4,r1,r2,zN,zGu,zDX,zK,↓reduceIte,Nat.reduceEqDiff,zS .i64,e3]
  ·have e4:((j:Int) ==((ps.length-1:Nat):Int))=false:=by rw[beq_eq_false_iff_ne];omega
   refine⟨v,l,H,Z,h,by omega,Chg.refl h.wf,fun k fr f5 f6 f7 f8=>?_⟩
   simp only[zCi,zA f5,zA f6,zA f7,zA f8,zU]
   rw[dd]
   simp only[zF,zD,pl,zB,zAA,es,zU,e4,zGu,zDX,zK,↓reduceIte,Nat.reduceEqDiff,zS .i64,e3]
 ·have e1:(n == Int.ofNat 1)=false:=by rw[beq_eq_false_iff_ne];exact fun h=>d (.inl h)
  have e2:(n == Int.ofNat 2)=false:=by rw[beq_eq_false_iff_ne];exact fun h=>d (.inr h)
  obtain⟨p,q1,q2⟩:=zLb h.pt.rd hj
  have hp:=h.psz _ (List.getElem_mem hj)
  have hM:=h.hM
  generalize ps[j]=y at q2 hp
  have ky:=hQ y (by omega) 5 (by omega) (by omega)
  have ky':∀ H Z q,c zz [.str y,.int .i64 (.ofNat 5)] H Z q=q (.str (pctT 5 y)) H Z:=ky
  have hy:=zST 5 y
  obtain⟨w,H1,v',H',Z',r1,r2,r3,r4⟩:=h.put (pctT 5 y) (by omega) (by omega) Z
  refine⟨v',_,H',Z',r3,by simp;omega,r4,fun k fr f5 f6 f7 f8=>?_⟩
  simp only[zCi,zA f5,zA f6,zA f7,zA f8,zU,e1,e2,zu,retK,zN,zJ,cond_false,zB,zD,q1,q2,ky' H Z,r1,r2,zDX,zK,↓reduceIte,Nat.reduceEqDiff,zS .i64,e3]
theorem l_path (c:zG)(N:Nat)(hQ:zSH c)(hDt:DotOk c){P D:Nat->Prop}{ps:List Bs}{pv:V}{M:Nat}:∀ (z j:Nat) (H:Heap) (v:V) (l:List Bs) (fr:T V) (Z:Tape) (m:Nat),PthS P D ps pv M H v l->j+z=ps.length->z<m->l.length<=j->fr.get 5=some v->fr.get 6=some pv->fr.get 7=some (.int .i64 (j:Int)) ->
  ∃ v' l' H' Z',PthS P D ps pv M H' v' l'/\l'.length<=ps.length/\Chg P H H'/\∀ k,zq (zCm c N) m ⟨fr,H⟩ Z k=k (.exit 0) ⟨(T.s .leaf 5 v'),H'⟩ Z':=by
 intro z
 induction z with
 | zero =>
  intro j H v l fr Z m h hj hm hl f5 f6 f7
  obtain⟨m,rfl⟩:∃ j,m=j+1:=⟨m-1,by omega⟩
  have pl:pLen [pv]=some (.int .i64 (ps.length:Int)):=h.pt.rd.pLen
  have e1:decide ((j:Int)<(ps.length:Int))=false:=decide_eq_false (by omega)
  refine⟨v,l,H,Z,h,by omega,Chg.refl h.wf,fun k=>?_⟩
  rw[zI]
  simp only[zCm,zA f5,zA f6,zA f7,pl,zB,zL,e1,zD]
  rfl
 | succ z ih =>
  intro j H v l fr Z m h hj hm hl f5 f6 f7
  obtain⟨m,rfl⟩:∃ j,m=j+1:=⟨m-1,by omega⟩
  have pl:pLen [pv]=some (.int .i64 (ps.length:Int)):=h.pt.rd.pLen
  have hpl:=h.pl
  have hM:=h.hM
  have hj':j<ps.length:=by omega
  have e1:decide ((j:Int)<(ps.length:Int))=true:=decide_eq_true (by omega)
  obtain⟨p,q1,q2⟩:=zLb h.pt.rd hj'
  have hp:=h.psz _ (List.getElem_mem hj')
  generalize ps[j]=y at q2 hp
  obtain⟨n,hn⟩:=hDt y (by omega)
  have lv:pLen [v]=some (.int .i64 (l.length:Int)):=h.out.pLen
  have go:∀ (v2:V) (l2:List Bs),PthS P D ps pv M H v2 l2->l2.length<=j->∃ v' l' H' Z',PthS P D ps pv M H' v' l'/\l'.length<=ps.length/\Chg P H H'/\∀ k fr2,fr2.get 5=some v2->fr2.get 6=some pv->fr2.get 7=some (.int .i64 (j:Int))->fr2.get 8=some (.int .i64 n) ->
    zCi c N (seqK (fun st Z=>zq (zCm c N) m st Z k) k) ⟨fr2,H⟩ Z=k (.exit 0) ⟨(T.s .leaf 5 v'),H'⟩ Z':=fun v2 l2 h2 hl2=>by
   obtain⟨v3,l3,H3,Z3,a1,a2,a3,a4⟩:=pth_j3 c N hQ h2 hj' hl2 n Z
   obtain⟨v',l',H',Z',b1,b2,b3,b4⟩:=ih (j+1) H3 v3 l3 (T.s (T.s (T.s (T.s (T.s (T.s .leaf 5 v3) 6 pv) 7 (.int .i64 (j:Int))) 18 (.int .i64 (j:Int))) 19 (.int .i64 ((j+1:Nat):Int))) 7 (.int .i64 ((j+1:Nat):Int))) Z3 m a1 (by omega) (by omega) a2 (by simp[T.get_set]) (by simp[T.get_set]) (by simp[T.get_set])
   refine⟨v',l',H',Z',b1,b2,a3.trans b3 fun _ _ h=>h,fun k fr2 g5 g6 g7 g8=>?_⟩
   rw[a4 _ fr2 g5 g6 g7 g8]
   simp only[seqK]
   exact b4 k
  by_cases d:n=2
  ·by_cases d2:l.length=0
   ·obtain⟨v',l',H',Z',b1,b2,b3,b4⟩:=go v l h hl
    refine⟨v',l',H',Z',b1,b2,b3,fun k=>?_⟩
    have e2:(n == Int.ofNat 2)=true:=by rw[d];rfl
    have e5:decide (Int.ofNat 0<(l.length:Int))=false:=by rw[d2];rfl
    rw[zI]
    simp only[zCm,zA f5,zA f6,zA f7,pl,zB,zL,e1,zF,q1,q2,hn H Z,zU,e2,zAB,retK,zN,lv,zY,e5,zJ,cond_true,zD]
    exact b4 k _ (by simp[T.get_set]) (by simp[T.get_set]) (by simp[T.get_set]) (by simp[T.get_set])
   ·obtain⟨v2,r1,r2⟩:=h.pop (k:=l.length-1) (by omega)
    obtain⟨v',l',H',Z',b1,b2,b3,b4⟩:=go v2 (l.take (l.length-1)) r2 (by rw[List.length_take];omega)
    refine⟨v',l',H',Z',b1,b2,b3,fun k=>?_⟩
    have e2:(n == Int.ofNat 2)=true:=by rw[d];rfl
    have e5:decide (Int.ofNat 0<(l.length:Int))=true:=decide_eq_true (by have:Int.ofNat 0=0:=rfl;omega)
    have es:wr .i64 ((l.length:Int)-Int.ofNat 1)=((l.length-1:Nat):Int):=by rw[sbI (by omega) (by omega)]
    rw[zI]
    simp only[zCm,zA f5,zA f6,zA f7,pl,zB,zL,e1,zF,q1,q2,hn H Z,zU,e2,zAB,retK,zN,lv,zY,e5,zJ,cond_true,zAA,es,r1]
    exact b4 k _ (by simp[T.get_set]) (by simp[T.get_set]) (by simp[T.get_set]) (by simp[T.get_set])
  ·obtain⟨v',l',H',Z',b1,b2,b3,b4⟩:=go v l h hl
   refine⟨v',l',H',Z',b1,b2,b3,fun k=>?_⟩
   have e2:(n == Int.ofNat 2)=false:=by rw[beq_eq_false_iff_ne];exact d
   rw[zI]
   simp only[zCm,zA f5,zA f6,zA f7,pl,zB,zL,e1,zF,q1,q2,hn H Z,zU,e2,ze,zX,zJ,cond_false,zD]
   exact b4 k _ (by simp[T.get_set]) (by simp[T.get_set]) (by simp[T.get_set]) (by simp[T.get_set])
def TxL (D:Nat->Prop)(M:Nat)(H:Heap)(v:V):Prop:=∃ l:List Bs,DatP D H 1 v l.length (l.map V.str)/\l.length<=1000000/\∀ x ∈ l,x.length<=M
theorem TxL.nil (D:Nat->Prop)(M:Nat)(H:Heap):TxL D M H .nils:=⟨[],DatP.nil _ _ _,by simp,by simp⟩
theorem TxL.chg {D Q:Nat->Prop}{M:Nat}{H H':Heap}{v:V}(h:TxL D M H v)(hw:WF H)(hg:Chg Q H H')(hDQ:∀ i,i<H.size->D i->¬ Q i):TxL D M H' v:=by
 obtain⟨l,h1,h2⟩:=h;exact⟨l,h1.chg hw hg hDQ,h2⟩
theorem TxL.weaken {D Q:Nat->Prop}{M M':Nat}{H:Heap}{v:V}(h:TxL D M H v)(hw:WF H)(hDQ:∀ i,i<H.size->D i->Q i)(hM:M<=M'):TxL Q M' H v:=by
 obtain⟨l,h1,h2,h3⟩:=h;exact⟨l,h1.weaken hw hDQ,h2,fun x hx=>Nat.le_trans (h3 x hx) hM⟩
theorem TxL.scal {D:Nat->Prop}{M:Nat}{H:Heap}{v:V}(h:TxL D M H v):v.cells=[v]/\v.scal=true:=by
 obtain⟨l,h1,_⟩:=h;exact h1.scal
abbrev PthOk (c:zG):Prop:=∀ (s:Bs),s.length<=1000->∀ {H:Heap},WF H->∀ Z,∃ v H' Z',TxL (fun i=>H.size<=i) (3*s.length) H' v/\Gr H.size H H'/\∀ q,c zGP [.nils,.str s] H Z q=q v H' Z'
theorem zQW (c:zG){N:Nat}(hN:9223372036854775807<=N)(hQ:zSH c)(hDt:DotOk c)(hC:zQC c)(s:Bs)(hs:s.length<=1000){H:Heap}(hw:WF H)(Z:Tape) :
  ∃ v H' Z',TxL (fun i=>H.size<=i) (3*s.length) H' v/\Gr H.size H H'/\∀ q,zKg c N .nils (.str s) H Z q=q v H' Z':=by
 have g1:=Gr.new hw [] 0 false
 have o1:=genl_empty H false (P:=fun i=>i=H.size) rfl
 have z1:(H.new [] 0 false).size=H.size+1:=rfl
 have a1:zZ 0 1 [] [] [] H Z=some (.sl H.size 0 0 0 none 1,H.new [] 0 false,Z):=rfl
 generalize H.new [] 0 false=H1 at g1 o1 z1 a1
 obtain⟨pv,H2,Z2,p1,g2,k2⟩:=hC s (by omega) 47 g1.wf Z
 obtain⟨c1,c2,c3⟩:=zOK 47 s []
 generalize zGG 47 [] s=ps at p1 c1 c2 c3
 have z2:=g2.size
 have h0:PthS (fun i=>i=H.size∨H2.size<=i) (fun i=>H1.size<=i/\i<H2.size) ps pv s.length H2 (.sl H.size 0 0 0 none 1) [] :=
  ⟨g2.wf,fun i hi=>.inr hi,(o1.gr g1.wf g2).weaken g2.wf fun i _ h=>.inl h,fun h=>(by cases h),(DatP.own p1).weaken g2.wf fun i hi h=>⟨h,hi⟩,fun i h k=>(by omega),by simp,fun x hx=>(by have:=c3 x hx;simpa using this),by omega,by omega⟩
 obtain⟨v,l,H3,Z3,b1,b2,b3,b4⟩:=l_path c N hQ hDt ps.length 0 H2 _ [] (T.s (T.s (T.s .leaf 5 (.sl H.size 0 0 0 none 1)) 6 pv) 7 (.int .i64 (.ofNat 0))) Z2 N h0 (by omega) (by omega) (by simp) (by simp[T.get_set]) (by simp[T.get_set]) (by rfl)
 refine⟨v,H3,Z3,⟨l,(DatP.gen b1.out).weaken b1.wf fun i _ h=>by omega,by omega,b1.sz⟩,(g1.trans g2 (by omega)).trans (b3.gr (B:=H.size) (by omega) fun i hi h=>by omega) nl,fun q=>?_⟩
 have k2':∀ q,c zA2 [.str s,.int .u8 (.ofNat 47)] H1 Z q=q pv H2 Z2:=k2
 simp only[zKg,a1,zN,nil_apd,k2']
 rw[b4]
 simp only[zW,Nat.beq_refl,cond_true,seqK,zNN,zK,↓reduceIte]
end Go.Am.X

namespace Go.Am.X
def queU (u:UR)(s:Bs):UR:=match cutB 63 s with
 | some p=>{ u with hq:=true,qu:=pctT (if speT u.sch=true then 4 else 3) p.2 }
 | none=>u
abbrev QueOk (c:zG):Prop:=∀ (s:Bs),s.length<=1000000->∀ (i:Nat) (u:UR) {H:Heap},WF H->Bx H i u.cs->∀ Z,∃ H',Bx H' i (queU u s).cs/\Chg (fun j=>j=i) H H'/\∀ q,c zG3 [.ptr i 0,.str s] H Z q=q (.tup []) H' Z
theorem zP6 (c:zG)(N:Nat)(hP:PartOk c)(hS:zRP c)(hQ:zSH c)(s:Bs)(hs:s.length<=1000000)(i:Nat)(u:UR){H:Heap}(hw:WF H)(hB:Bx H i u.cs)(Z:Tape) :
  ∃ H',Bx H' i (queU u s).cs/\Chg (fun j=>j=i) H H'/\∀ q,zFO c N (.ptr i 0) (.str s) H Z q=q (.tup []) H' Z:=by
 have kp:=hP s 63 (by omega) (by omega)
 rw[show UInt8.ofNat 63=(63:UInt8)from rfl]at kp
 unfold queU
 cases hc:cutB 63 s with
 | none =>
  have e:zNB 63 s=.tup [.str s,.str [],.bool false]:=by unfold zNB;rw[hc]
  rw[e]at kp
  refine⟨H,hB,Chg.refl hw,fun q=>?_⟩
  simp only[zFO,kp H Z,zGZ,zGW,zGa,zB,zg,Bool.not_false,zF]
 | some p =>
  obtain⟨a,b⟩:=p
  have e:zNB 63 s=.tup [.str a,.str b,.bool true]:=by unfold zNB;rw[hc]
  rw[e]at kp
  have hb:=(zOE 63 s a b hc).2
  obtain⟨H1,a1,a2,a3⟩:=zF5 (u':={ u with hq:=true }) hB hw 10 (.bool true) rfl rfl (by omega) rfl Z
  have l0:=zGK a2 0 rfl
  cases hsp:speT u.sch with
  | true =>
   have ky:∀ H Z q,c zz [.str b,.int .i64 (.ofNat 4)] H Z q=q (.str (pctT 4 b)) H Z:=hQ b (by omega) 4 (by omega) (by omega)
   obtain⟨H2,b1,b2,b3⟩:=zF5 (u':={ u with hq:=true,qu:=pctT 4 b }) a2 a3.wf 8 (.str (pctT 4 b)) rfl rfl (by omega) rfl Z
   refine⟨H2,b2,zAz a3 b3,fun q=>?_⟩
   simp only[zFO,kp H Z,zGZ,zGW,zGa,zB,zg,Bool.not_true,zD,nkO,faO,a1,zN,l0,hS u.sch H1 Z,hsp,zF,zF1,zK,↓reduceIte,Nat.reduceEqDiff,ky H1 Z,b1]
  | false =>
   have ky:∀ H Z q,c zz [.str b,.int .i64 (.ofNat 3)] H Z q=q (.str (pctT 3 b)) H Z:=hQ b (by omega) 3 (by omega) (by omega)
   obtain⟨H2,b1,b2,b3⟩:=zF5 (u':={ u with hq:=true,qu:=pctT 3 b }) a2 a3.wf 8 (.str (pctT 3 b)) rfl rfl (by omega) rfl Z
   refine⟨H2,b2,zAz a3 b3,fun q=>?_⟩
   simp only[zFO,kp H Z,zGZ,zGW,zGa,zB,zg,Bool.not_true,zD,nkO,faO,a1,zN,l0,hS u.sch H1 Z,hsp,zF1,zK,↓reduceIte,Nat.reduceEqDiff,ky H1 Z,b1]
theorem queU_eq (u:UR)(s:Bs):∃ qu hq,queU u s={ u with qu:=qu,hq:=hq }:=by
 unfold queU;split
 ·exact⟨_,_,rfl⟩
 ·exact⟨u.qu,u.hq,rfl⟩
structure UGd (D:Nat->Prop) (M:Nat) (H:Heap) (u:UR):Prop where
 ho:u.ho.length<=2000000
 p0:-1<=u.po
 p1:u.po<=65535
 pv:TxL D M H u.pv
theorem UGd.chg {D Q:Nat->Prop}{M:Nat}{H H':Heap}{u:UR}(h:UGd D M H u)(hw:WF H)(hg:Chg Q H H')(hDQ:∀ i,i<H.size->D i->¬ Q i):UGd D M H' u:=⟨h.ho,h.p0,h.p1,h.pv.chg hw hg hDQ⟩
theorem UGd.aut {D:Nat->Prop}{M:Nat}{H:Heap}{u u':UR}(h:UGd D M H u)(k:AutU u u'):UGd D M H u'/\u'.sch=u.sch:=by
 obtain⟨us,pa,ho,hh,po,rfl,h1,h2⟩:=k
 have a:=h.ho
 have b:=h.p0
 have d:=h.p1
 refine⟨⟨?_,?_,?_,h.pv⟩,rfl⟩
 ·rcases h1 with h1 | h1
  ·show ho.length<=_;rw[h1];exact a
  ·exact h1
 ·show -1<=po;rcases h2 with h2 | h2 <;> omega
 ·show po<=65535;rcases h2 with h2 | h2 <;> omega
abbrev Aft (i:Nat):Nat->Prop:=fun j=>i<j
abbrev RstOk (c:zG):Prop:=∀ (s:Bs),s.length<=1000->∀ (i:Nat) (u:UR) {H:Heap},WF H->Bx H i u.cs->∀ Z,∃ pv H' Z',TxL (Aft i) (3*s.length) H' pv/\Bx H' i ({ queU u s with pv:=pv }:UR).cs/\Chg (fun j=>j=i) H H'/\∀ q,c zIo [.ptr i 0,.str s] H Z q=q (.tup []) H' Z'
theorem zQz (c:zG)(N:Nat)(hA:AhdOk c)(hQ:QueOk c)(hS:zRP c)(hP:PthOk c)(s:Bs)(hs:s.length<=1000)(i:Nat)(u:UR){H:Heap}(hw:WF H)(hB:Bx H i u.cs)(Z:Tape) :
  ∃ pv H' Z',TxL (Aft i) (3*s.length) H' pv/\Bx H' i ({ queU u s with pv:=pv }:UR).cs/\Chg (fun j=>j=i) H H'/\∀ q,zFC c N (.ptr i 0) (.str s) H Z q=q (.tup []) H' Z':=by
 have ka:∀ H Z q,c zCW [.str s,.int .u8 (.ofNat 63),.int .u8 (.ofNat 63)] H Z q=q (.tup [.str (ahdT 63 63 [] s).1,.str (ahdT 63 63 [] s).2]) H Z:=hA s (by omega) 63 63
 have hp:=(zSO 63 63 s []).1
 rw[List.length_nil,Nat.zero_add]at hp
 generalize (ahdT 63 63 [] s).1=p at ka hp
 generalize (ahdT 63 63 [] s).2=p2 at ka
 obtain⟨H1,a1,a2,a3⟩:=hQ s (by omega) i u hw hB Z
 generalize queU u s=u1 at a1
 have l0:=zGK a1 0 rfl
 have hi:=a1.lt a2.wf
 by_cases e0:p=[]
 ·have e0':decide (p=[])=true:=decide_eq_true e0
  cases hsp:speT u1.sch with
  | true =>
   have b1:zZ 1 1 [(.str [])] [(0,1)] [(.str [])] H1 Z=some (.sl H1.size 0 1 1 none 1,H1.new [.str []] 1 false,Z):=rfl
   have g1:=Gr.new a2.wf [.str []] 1 false
   have o1:=genl_new H1 (.str []) false (P:=Aft i) hi
   generalize H1.new [.str []] 1 false=H2 at b1 g1 o1
   have hB2:=a1.gr g1 hi
   obtain⟨H3,c1,c2,c3⟩:=zF5 (u':={ u1 with pv:=.sl H1.size 0 1 1 none 1 }) hB2 g1.wf 7 (.sl H1.size 0 1 1 none 1) rfl rfl (by omega) rfl Z
   refine⟨_,H3,Z,⟨[[]],(DatP.gen o1).chg g1.wf c3 fun j _ h1 h2=>?_,by simp,by simp⟩,c2,zAz a2 (zAz (zQn g1) c3),fun q=>?_⟩
   ·rw[h2]at h1;exact Nat.lt_irrefl _ h1
   ·simp only[zFC,ka H Z,ext0,ext1,zB,a3,zP,streq,e0',zAB,retK,zN,nkO,faO,l0,hS u1.sch H1 Z,hsp,zJ,cond_true,zF,b1,c1]
  | false =>
   obtain⟨H3,c1,c2,c3⟩:=zF5 (u':={ u1 with pv:=.nils }) a1 a2.wf 7 .nils rfl rfl (by omega) rfl Z
   refine⟨_,H3,Z,TxL.nil _ _ _,c2,zAz a2 c3,fun q=>?_⟩
   simp only[zFC,ka H Z,ext0,ext1,zB,a3,zP,streq,e0',zAB,retK,zN,nkO,faO,l0,hS u1.sch H1 Z,hsp,zJ,cond_true,zF,zD,c1]
 ·have e0':decide (p=[])=false:=decide_eq_false e0
  obtain⟨x,t,rfl⟩:∃ x t,p=x::t:=by cases p with
   | nil=>exact absurd rfl e0
   | cons x t=>exact⟨x,t,rfl⟩
  have e2:zM [.str (x::t),(.int .i64 (.ofNat 0))]=some (.int .u8 (x.toNat:Int)):=zk (i:=0) rfl
  have eq:∀ k:Nat,((x.toNat:Int) == Int.ofNat k)=decide (x.toNat=k):=fun k=>by rw[Bool.eq_iff_iff];simp;omega
  have e4:zR true false [.str (x::t),(.int .i64 (.ofNat 1))]=some (.str t):=zAt (i:=1) (by simp)
  rw[List.length_cons]at hp
  have fin:∀ (y:Bs),y.length<=s.length->∃ pv H' Z',TxL (Aft i) (3*s.length) H' pv/\Bx H' i ({ u1 with pv:=pv }:UR).cs/\Chg (fun j=>j=i) H1 H'/\∀ q:KV,(c zGP [.nils,.str y] H1 Z fun v42 H43 Z44=>zC (zB2 [.ptr i 0]) fun v45=>zC (zQ 7 [v45]) fun v46=>effK (eStore 1 [v46,v42] H43 Z44) fun v47 H48 Z49=>q (.tup []) H48 Z49)=q (.tup []) H' Z':=fun y hy=>by
   obtain⟨v,H2,Z2,b1,b2,b3⟩:=hP y (by omega) a2.wf Z
   have hv:=b1.scal
   obtain⟨H3,c1,c2,c3⟩:=zF5 (u':={ u1 with pv:=v }) (a1.gr b2 hi) b2.wf 7 v hv.1 hv.2 (by omega) rfl Z2
   refine⟨v,H3,Z2,?_,c2,zAz (zQn b2) c3,fun q=>?_⟩
   ·exact(b1.weaken (Q:=Aft i) b2.wf (fun j _ h=>Nat.lt_of_lt_of_le hi h) (by omega)).chg b2.wf c3 fun j _ h1 h2=>by rw[h2]at h1;exact Nat.lt_irrefl _ h1
   ·simp only[b3,nkO,zB,faO,c1,zN]
  by_cases d:x.toNat=47
  ·obtain⟨pv,H',Z',r1,r2,r3,r4⟩:=fin t (by omega)
   refine⟨pv,H',Z',r1,r2,zAz a2 r3,fun q=>?_⟩
   simp only[zFC,ka H Z,ext0,ext1,zB,a3,zP,streq,e0',ze,zX,zJ,cond_false,zD,e2,zU,eq,decide_eq_true d,zF,e4]
   exact r4 q
  ·obtain⟨pv,H',Z',r1,r2,r3,r4⟩:=fin (x::t) (by simp;omega)
   refine⟨pv,H',Z',r1,r2,zAz a2 r3,fun q=>?_⟩
   simp only[zFC,ka H Z,ext0,ext1,zB,a3,zP,streq,e0',ze,zX,zJ,cond_false,zD,e2,zU,eq,decide_eq_false d]
   exact r4 q
def UStep (f:Heap->Tape->KV->Ans)(i M:Nat)(u:UR)(H:Heap)(Z:Tape):Prop:=∃ (e:Int) (u':UR) (H':Heap) (Z':Tape),UGd (Aft i) M H' u'/\u'.sch=u.sch/\Bx H' i u'.cs/\Chg (fun j=>j=i) H H'/\∀ q,f H Z q=q (.int .i64 e) H' Z'
theorem UGd.one {i M:Nat}{H H':Heap}{u:UR}(h:UGd (Aft i) M H u)(hw:WF H)(hg:Chg (fun j=>j=i) H H'):UGd (Aft i) M H' u:=h.chg hw hg fun j _ h1 h2=>by rw[h2]at h1;exact Nat.lt_irrefl _ h1
theorem UGd.rest {i M M':Nat}{H H':Heap}{u:UR}{pv:V}(h:UGd (Aft i) M H u)(hw:WF H')(s:Bs)(hp:TxL (Aft i) M' H' pv)(hM:M'<=M):UGd (Aft i) M H' { queU u s with pv:=pv }/\({ queU u s with pv:=pv }:UR).sch=u.sch:=by
 obtain⟨qu,hq,e⟩:=queU_eq u s
 rw[e]
 exact⟨⟨h.ho,h.p0,h.p1,hp.weaken hw (fun _ _ h=>h) hM⟩,rfl⟩
abbrev FarOk (c:zG):Prop:=∀ (s:Bs),s.length<=1000->∀ (i M:Nat) (u:UR) {H:Heap},WF H->Bx H i u.cs->UGd (Aft i) M H u->3*s.length<=M->∀ Z,UStep (c zJ6 [.ptr i 0,.str s]) i M u H Z
theorem zQ9 (c:zG)(N:Nat)(hA:AhdOk c)(hAu:AutOk c)(hR:RstOk c)(s:Bs)(hs:s.length<=1000)(i M:Nat)(u:UR){H:Heap}(hw:WF H)(hB:Bx H i u.cs)(hU:UGd (Aft i) M H u)(hM:3*s.length<=M)(Z:Tape) :
  UStep (zKF c N (.ptr i 0) (.str s)) i M u H Z:=by
 have ka:∀ H Z q,c zCW [.str s,.int .u8 (.ofNat 47),.int .u8 (.ofNat 63)] H Z q=q (.tup [.str (ahdT 47 63 [] s).1,.str (ahdT 47 63 [] s).2]) H Z:=hA s (by omega) 47 63
 obtain⟨hp,hp2⟩:=zSO 47 63 s []
 rw[List.length_nil,Nat.zero_add]at hp
 generalize (ahdT 47 63 [] s).1=p at ka hp
 generalize (ahdT 47 63 [] s).2=p2 at ka hp2
 obtain⟨e,u1,H1,Z1,a1,a2,a3,a4⟩:=hAu p (by omega) i u hw hB Z
 obtain⟨b1,b2⟩:=(hU.one hw a3).aut a1
 by_cases d:e=0
 ·have d':(e != Int.ofNat 0)=false:=by rw[d];rfl
  obtain⟨pv,H2,Z2,c1,c2,c3,c4⟩:=hR p2 (by omega) i u1 a3.wf a2 Z1
  obtain⟨d1,d2⟩:=b1.rest c3.wf p2 c1 (by omega)
  refine⟨.ofNat 0,_,H2,Z2,d1,d2.trans b2,c2,zAz a3 c3,fun q=>?_⟩
  simp only[zKF,ka H Z,ext0,ext1,zB,a4,zAM,d',zD,c4]
 ·have d':(e != Int.ofNat 0)=true:=by rw[bne_iff_ne];exact d
  refine⟨e,u1,H1,Z1,b1,b2,a2,a3,fun q=>?_⟩
  simp only[zKF,ka H Z,ext0,ext1,zB,a4,zAM,d',zF]
theorem begB_47 {s:Bs}(h:begB s (bs [47])=false):begB s (bs [47,47])=false:=by
 cases s with
 | nil=>rfl
 | cons x t =>
  have h1:(bs [47])=[47]:=rfl
  have h2:(bs [47,47])=[47,47]:=rfl
  rw[h1]at h
  rw[h2]
  unfold begB at h ⊢
  rw[List.isPrefixOf_cons_cons]at h ⊢
  cases hx:(47:UInt8) == x with
  | false=>rfl
  | true=>rw[hx]at h;simp at h
def opqU (u:UR)(s:Bs)(pv:V):UR:={ queU { u with po:=-1,op:=true } s with pv:=pv }
abbrev FulOk (c:zG):Prop:=∀ (s:Bs),s.length<=1000->∀ (i M:Nat) (u:UR) {H:Heap},WF H->Bx H i u.cs->UGd (Aft i) M H u->3*s.length<=M->∀ Z,∃ (e:Int) (u':UR) (H':Heap) (Z':Tape),UGd (Aft i) M H' u'/\u'.sch=u.sch/\Bx H' i u'.cs/\Chg (fun j=>j=i) H H' /\
 (speT u.sch=false->begB s (bs [47])=false->e=0/\∃ pv,u'=opqU u s pv/\DatP (Aft i) H' 1 pv 1 [.str (pctT 1 (ahdT 63 63 [] s).1)])/\∀ q,c zKv [.ptr i 0,.str s] H Z q=q (.int .i64 e) H' Z'
theorem zQR (c:zG)(N:Nat)(hS:zRP c)(hSl:SlaOk c)(hO:OverOk c)(hF:FarOk c)(hBg:zPr c)(hR:RstOk c)(hA:AhdOk c)(hQ:zSH c)(hQu:QueOk c)(s:Bs)(hs:s.length<=1000)(i M:Nat)(u:UR){H:Heap}(hw:WF H)(hB:Bx H i u.cs)(hU:UGd (Aft i) M H u)(hM:3*s.length<=M)(Z:Tape) :
  ∃ (e:Int) (u':UR) (H':Heap) (Z':Tape),UGd (Aft i) M H' u'/\u'.sch=u.sch/\Bx H' i u'.cs/\Chg (fun j=>j=i) H H' /\
   (speT u.sch=false->begB s (bs [47])=false->e=0/\∃ pv,u'=opqU u s pv/\DatP (Aft i) H' 1 pv 1 [.str (pctT 1 (ahdT 63 63 [] s).1)])/\∀ q,zE5 c N (.ptr i 0) (.str s) H Z q=q (.int .i64 e) H' Z':=by
 have neg1:(Int.negSucc 0)=-1:=rfl
 obtain⟨H1,a1,a2,a3⟩:=zF5 (u':={ u with po:=-1 }) hB hw 5 (.int .i64 (-1)) rfl rfl (by omega) rfl Z
 have hU1:UGd (Aft i) M H1 { u with po:=-1 }:=by
  have:=hU.one hw a3
  exact⟨this.ho,by show(-1:Int)<=-1;omega,by show(-1:Int)<=65535;omega,this.pv⟩
 have l0:=zGK a2 0 rfl
 cases hsp:speT u.sch with
 | true =>
  obtain⟨s',H2,Z2,b0,b1,b2⟩:=hSl s (by omega) a3.wf Z
  have hov:=(zHn isSl s')
  obtain⟨e,u',H',Z',c1,c2,c3,c4,c5⟩:=hF (s'.dropWhile isSl) (by omega) i M { u with po:=-1 } b1.wf (a2.gr b1 (a2.lt a3.wf)) (hU1.one a3.wf (zQn b1)) (by omega) Z2
  refine⟨e,u',H',Z',c1,c2,c3,zAz a3 (zAz (zQn b1) c4),fun h=>absurd h (by decide),fun q=>?_⟩
  simp only[zE5,nkO,faO,zB,neg1,a1,zN,l0,hS u.sch H1 Z,hsp,zF,b2,hO s' (by omega) H2 Z2,c5]
 | false =>
  cases hb2:begB s (bs [47,47])with
  | true =>
   have h2:2<=s.length:=zMv hb2
   have e5:zR true false [.str s,(.int .i64 (.ofNat 2))]=some (.str (s.drop 2)):=zAt (i:=2) h2
   have hd:(s.drop 2).length<=s.length:=by rw[List.length_drop];omega
   generalize s.drop 2=s' at e5 hd
   obtain⟨e,u',H',Z',c1,c2,c3,c4,c5⟩:=hF s' (by omega) i M { u with po:=-1 } a3.wf a2 hU1 (by omega) Z
   refine⟨e,u',H',Z',c1,c2,c3,zAz a3 c4,fun _ h=>?_,fun q=>?_⟩
   ·rw[begB_47 h]at hb2;exact absurd hb2 (by decide)
   ·simp only[zE5,nkO,faO,zB,neg1,a1,zN,l0,hS u.sch H1 Z,hsp,zF,zD,hBg _ _ H1 Z,hb2,e5,c5]
  | false =>
   cases hb1:begB s (bs [47])with
   | true =>
    obtain⟨pv,H2,Z2,c1,c2,c3,c4⟩:=hR s hs i { u with po:=-1 } a3.wf a2 Z
    obtain⟨d1,d2⟩:=hU1.rest c3.wf s c1 hM
    refine⟨.ofNat 0,_,H2,Z2,d1,d2,c2,zAz a3 c3,fun _ h=>absurd h (by decide),fun q=>?_⟩
    simp only[zE5,nkO,faO,zB,neg1,a1,zN,l0,hS u.sch H1 Z,hsp,zF,zD,hBg _ _ H1 Z,hb2,hb1,c4]
   | false =>
    have ka:∀ H Z q,c zCW [.str s,.int .u8 (.ofNat 63),.int .u8 (.ofNat 63)] H Z q=q (.tup [.str (ahdT 63 63 [] s).1,.str (ahdT 63 63 [] s).2]) H Z:=hA s (by omega) 63 63
    have hp:=(zSO 63 63 s []).1
    rw[List.length_nil,Nat.zero_add]at hp
    generalize (ahdT 63 63 [] s).1=p at ka hp
    generalize (ahdT 63 63 [] s).2=p2 at ka
    have ky:∀ H Z q,c zz [.str p,.int .i64 (.ofNat 1)] H Z q=q (.str (pctT 1 p)) H Z:=hQ p (by omega) 1 (by omega) (by omega)
    have hy:=zST 1 p
    obtain⟨H2,b1,b2,b3⟩:=zF5 (u':={ u with po:=-1,op:=true }) a2 a3.wf 6 (.bool true) rfl rfl (by omega) rfl Z
    have hi:=b2.lt b3.wf
    have d1:zZ 1 1 [(.str [])] [(0,1)] [(.str (pctT 1 p))] H2 Z=some (.sl H2.size 0 1 1 none 1,H2.new [.str (pctT 1 p)] 1 false,Z):=rfl
    have g3:=Gr.new b3.wf [.str (pctT 1 p)] 1 false
    have o3:=genl_new H2 (.str (pctT 1 p)) false (P:=Aft i) hi
    generalize H2.new [.str (pctT 1 p)] 1 false=H3 at d1 g3 o3
    obtain⟨H4,f1,f2,f3⟩:=zF5 (u':={ u with po:=-1,op:=true,pv:=.sl H2.size 0 1 1 none 1 }) (b2.gr g3 hi) g3.wf 7 (.sl H2.size 0 1 1 none 1) rfl rfl (by omega) rfl Z
    obtain⟨H5,k1,k2,k3⟩:=hQu s (by omega) i _ f3.wf f2 Z
    have hd:DatP (Aft i) H5 1 (.sl H2.size 0 1 1 none 1) 1 [.str (pctT 1 p)]:=(DatP.gen o3).chg g3.wf (zAz f3 k2) fun j _ h1 h2=>by rw[h2]at h1;exact Nat.lt_irrefl _ h1
    have hc5:Chg (fun j=>j=i) H1 H5:=zAz b3 (zAz (zQn g3) (zAz f3 k2))
    have hU5:=hU1.one a3.wf hc5
    have eu:queU { u with po:=-1,op:=true,pv:=.sl H2.size 0 1 1 none 1 } s=opqU u s (.sl H2.size 0 1 1 none 1):=by
     unfold opqU queU;cases cutB 63 s <;> rfl
    rw[eu]at k1
    refine⟨0,_,H5,Z,?_,?_,k1,zAz a3 hc5,fun _ _=>⟨rfl,_,rfl,hd⟩,fun q=>?_⟩
    ·unfold opqU
     obtain⟨qu,hq,e⟩:=queU_eq { u with po:=-1,op:=true } s
     rw[e]
     exact⟨hU5.ho,hU5.p0,hU5.p1,⟨[pctT 1 p],hd,by simp,fun x hx=>by rw[List.mem_singleton.1 hx];omega⟩⟩
    ·unfold opqU
     obtain⟨qu,hq,e⟩:=queU_eq { u with po:=-1,op:=true } s
     rw[e]
    ·simp only[zE5,nkO,faO,zB,neg1,a1,zN,l0,hS u.sch H1 Z,hsp,zF,zD,hBg _ _ H1 Z,hb2,hb1,ka H1 Z,ext0,ext1,b1,ky H2 Z,d1,f1,k3]
     rfl
end Go.Am.X

namespace Go.Am.X
def splT (s:Bs):Bs:=match cutB 35 s with | some p=>p.1 | none=>s
def splU (u:UR)(s:Bs):UR:=match cutB 35 s with | some p=>{ u with hf:=true,fg:=pctT 2 p.2 } | none=>u
abbrev SplOk (c:zG):Prop:=∀ (s:Bs),s.length<=1000000->∀ (i:Nat) (u:UR) {H:Heap},WF H->Bx H i u.cs->∀ Z,∃ H',Bx H' i (splU u s).cs/\Chg (fun j=>j=i) H H'/\∀ q,c zJA [.ptr i 0,.str s] H Z q=q (.str (splT s)) H' Z
theorem zP0 (c:zG)(N:Nat)(hP:PartOk c)(hQ:zSH c)(s:Bs)(hs:s.length<=1000000)(i:Nat)(u:UR){H:Heap}(hw:WF H)(hB:Bx H i u.cs)(Z:Tape) :
  ∃ H',Bx H' i (splU u s).cs/\Chg (fun j=>j=i) H H'/\∀ q,zGx c N (.ptr i 0) (.str s) H Z q=q (.str (splT s)) H' Z:=by
 have kp:=hP s 35 (by omega) (by omega)
 rw[show UInt8.ofNat 35=(35:UInt8)from rfl]at kp
 unfold splU splT
 cases hc:cutB 35 s with
 | none =>
  have e:zNB 35 s=.tup [.str s,.str [],.bool false]:=by unfold zNB;rw[hc]
  rw[e]at kp
  refine⟨H,hB,Chg.refl hw,fun q=>?_⟩
  simp only[zGx,kp H Z,zGZ,zGW,zGa,zB,zD,zFu,zK,↓reduceIte,Nat.reduceEqDiff]
 | some p =>
  obtain⟨a,b⟩:=p
  have e:zNB 35 s=.tup [.str a,.str b,.bool true]:=by unfold zNB;rw[hc]
  rw[e]at kp
  have hb:=(zOE 35 s a b hc).2
  obtain⟨H1,a1,a2,a3⟩:=zF5 (u':={ u with hf:=true }) hB hw 11 (.bool true) rfl rfl (by omega) rfl Z
  have ky:∀ H Z q,c zz [.str b,.int .i64 (.ofNat 2)] H Z q=q (.str (pctT 2 b)) H Z:=hQ b (by omega) 2 (by omega) (by omega)
  obtain⟨H2,b1,b2,b3⟩:=zF5 (u':={ u with hf:=true,fg:=pctT 2 b }) a2 a3.wf 9 (.str (pctT 2 b)) rfl rfl (by omega) rfl Z
  refine⟨H2,b2,zAz a3 b3,fun q=>?_⟩
  simp only[zGx,kp H Z,zGZ,zGW,zGa,zB,zF,nkO,faO,a1,zN,ky H1 Z,b1,zFu,zK,↓reduceIte,Nat.reduceEqDiff]
theorem splT_len (s:Bs):(splT s).length<=s.length:=by
 unfold splT
 cases hc:cutB 35 s with
 | none=>exact Nat.le_refl _
 | some p=>obtain⟨a,b⟩:=p;exact(zOE 35 s a b hc).1
theorem splU_eq (u:UR)(s:Bs):∃ hf fg,splU u s={ u with hf:=hf,fg:=fg }:=by
 unfold splU;split
 ·exact⟨_,_,rfl⟩
 ·exact⟨u.hf,u.fg,rfl⟩
def u00:UR:=⟨[],[],[],[],false,0,false,.nils,[],[],false,false⟩
theorem res_ctO {fr:T V}{H:Heap}{a n b:Nat}{p u w:V}(h:fr.get a=some p)(hl:zA7 n [p] H=some u)(hb:fr.get b=some w):results ⟨fr,H⟩ [.cell a (some n),.t b]=some (.tup [u,w]):=by
 have e:zGU (.load (some n)) [p] H=some u:=hl
 simp only[results,zOa,resOf,h,e,hb]
theorem res_cO {fr:T V}{H:Heap}{a n:Nat}{p u:V}(h:fr.get a=some p)(hl:zA7 n [p] H=some u):results ⟨fr,H⟩ [.cell a (some n)]=some u:=by
 have e:zGU (.load (some n)) [p] H=some u:=hl
 simp only[results,zOa,resOf,h,e]
theorem zOz {H:Heap}{i:Nat}{u:UR}(h:Bx H i u.cs):zA7 12 [.ptr i 0] H=some (.agg u.cs):=by
 have:=zJm (off:=0) (n:=12) h.cells (by rw[ur_len];omega)
 exact this
theorem ur_scal (u:UR)(h:u.pv.cells=[u.pv]/\u.pv.scal=true):(V.agg u.cs).cells=u.cs/\u.cs.all V.scal=true:=by
 refine⟨?_,?_⟩
 ·simp only[V.cells,UR.cs]
 ·simp only[UR.cs,List.all_cons,h.2]
  rfl
theorem ur_st {H:Heap}{j:Nat}{u0 u:UR}(h:Bx H j u0.cs)(hw:WF H)(hu:u.pv.cells=[u.pv]/\u.pv.scal=true)(Z:Tape):∃ H',eStore 12 [.ptr j 0,.agg u.cs] H Z=some (.tup [],H',Z)/\Bx H' j u.cs/\Chg (fun i=>i=j) H H':=by
 obtain⟨s1,s2⟩:=ur_scal u hu
 obtain⟨H',k1,k2,k3⟩:=h.eStore hw 0 (.agg u.cs) 12 (by rw[s1];rfl) (by rw[ur_len];omega) (by omega) (by rw[s1];exact s2) Z
 refine⟨H',k1,?_,k3.chg rfl⟩
 rw[s1]at k2
 exact k2
theorem u00_scal:u00.pv.cells=[u00.pv]/\u00.pv.scal=true:=⟨rfl,rfl⟩
theorem u00_gd (D:Nat->Prop)(M:Nat)(H:Heap):UGd D M H u00:=⟨by decide,by decide,by decide,TxL.nil _ _ _⟩
theorem UGd.weaken {D Q:Nat->Prop}{M M':Nat}{H:Heap}{u:UR}(h:UGd D M H u)(hw:WF H)(hDQ:∀ i,i<H.size->D i->Q i)(hM:M<=M'):UGd Q M' H u:=⟨h.ho,h.p0,h.p1,h.pv.weaken hw hDQ hM⟩
def opqX (s:Bs)(name behind:Bs)(pv:V):UR:=opqU { splU u00 (zFG s)with sch:=name } behind pv
abbrev ParOk (c:zG):Prop:=∀ (s:Bs),s.length<=1000->∀ {H:Heap},WF H->∀ Z,∃ (e:Int) (u:UR) (H':Heap) (Z':Tape),UGd (fun i=>H.size<=i) (3*s.length) H' u/\Gr H.size H H' /\
 (∀ name behind,schT [] (splT (zFG s))=some (name,behind)->speT name=false->begB behind (bs [47])=false->e=0/\∃ pv,u=opqX s name behind pv/\DatP (fun i=>H.size<=i) H' 1 pv 1 [.str (pctT 1 (ahdT 63 63 [] behind).1)]) /\
 ∀ q,c zHC [.str s] H Z q=q (.tup [.agg u.cs,.int .i64 e]) H' Z'
theorem zPu (c:zG)(N:Nat)(hCl:CleanOk c)(hSp:SplOk c)(hSc:SchOk c)(hFu:FulOk c)(s:Bs)(hs:s.length<=1000){H:Heap}(hw:WF H)(Z:Tape) :
  ∃ (e:Int) (u:UR) (H':Heap) (Z':Tape),UGd (fun i=>H.size<=i) (3*s.length) H' u/\Gr H.size H H' /\
   (∀ name behind,schT [] (splT (zFG s))=some (name,behind)->speT name=false->begB behind (bs [47])=false->e=0/\∃ pv,u=opqX s name behind pv/\DatP (fun i=>H.size<=i) H' 1 pv 1 [.str (pctT 1 (ahdT 63 63 [] behind).1)]) /\
   ∀ q,zCx c N (.str s) H Z q=q (.tup [.agg u.cs,.int .i64 e]) H' Z':=by
 have a1:zBV [(.str []),(.str []),(.str []),(.str []),(.bool false),(.int .i64 (.ofNat 0)),(.bool false),.nils,(.str []),(.str []),(.bool false),(.bool false)] [] H Z=some (.ptr H.size 0,H.new u00.cs 12 true,Z):=rfl
 have g1:=Gr.new hw u00.cs 12 true
 have x1:Bx (H.new u00.cs 12 true) H.size u00.cs:=Bx.new H _ _ _ nl
 have z1:(H.new u00.cs 12 true).size=H.size+1:=rfl
 generalize H.new u00.cs 12 true=H1 at a1 g1 x1 z1
 have a2:zBV [(.str []),(.str []),(.str []),(.str []),(.bool false),(.int .i64 (.ofNat 0)),(.bool false),.nils,(.str []),(.str []),(.bool false),(.bool false)] [] H1 Z=some (.ptr H1.size 0,H1.new u00.cs 12 true,Z):=rfl
 have g2:=Gr.new g1.wf u00.cs 12 true
 have y2:Bx (H1.new u00.cs 12 true) H1.size u00.cs:=Bx.new H1 _ _ _ nl
 have z2:(H1.new u00.cs 12 true).size=H1.size+1:=rfl
 generalize H1.new u00.cs 12 true=H2 at a2 g2 y2 z2
 have x2:=x1.gr g2 (by omega)
 have hcl:=cleanT_len s
 have hsl:=splT_len (zFG s)
 have e0:decide (Int.ofNat 4096<(s.length:Int))=false:=decide_eq_false (by have:Int.ofNat 4096=4096:=rfl;omega)
 obtain⟨H3,b1,b2,b3⟩:=hSp (zFG s) (by omega) H1.size u00 g2.wf y2 Z
 obtain⟨hf,fg,eu⟩:=splU_eq u00 (zFG s)
 have x3:Bx H3 H.size u00.cs:=x2.chg g2.wf b2 (by omega)
 have ksc:=hSc (splT (zFG s)) (by omega)
 have g12:Gr H.size H H2:=g1.trans g2 (by omega)
 have gof:∀ {H':Heap},Chg (fun j=>j=H1.size) H2 H'->Gr H.size H H':=fun h=>g12.trans (h.gr (B:=H.size) (by omega) fun i hi e=>by omega) nl
 have bad:∀ (f:Heap->Tape->KV->Ans) (e:Int) (H':Heap) (Z':Tape),Bx H' H.size u00.cs->Chg (fun j=>j=H1.size) H2 H'->(¬ e=0∨∀ name behind,schT [] (splT (zFG s))≠some (name,behind))->(∀ q,f H Z q=effK (eStore 12 [.ptr H.size 0,.agg u00.cs] H' Z') fun v26 H27 Z28=>zC (results ⟨(T.s (T.s .leaf 2 (.ptr H.size 0)) 3 (.int .i64 e)),H27⟩ [(.cell 2 (some 12)),(.t 3)]) fun v=>q v H27 Z28) ->
   (∀ name behind,schT [] (splT (zFG s))=some (name,behind)->speT name=false->begB behind (bs [47])=false->e=0) ->
   ∃ (e:Int) (u:UR) (H':Heap) (Z':Tape),UGd (fun i=>H.size<=i) (3*s.length) H' u/\Gr H.size H H'/\(∀ name behind,schT [] (splT (zFG s))=some (name,behind)->speT name=false->begB behind (bs [47])=false->e=0/\∃ pv,u=opqX s name behind pv/\DatP (fun i=>H.size<=i) H' 1 pv 1 [.str (pctT 1 (ahdT 63 63 [] behind).1)])/\∀ q,f H Z q=q (.tup [.agg u.cs,.int .i64 e]) H' Z':=fun f e H' Z' hx hc hne hf hee=>by
  obtain⟨H4,k1,k2,k3⟩:=ur_st (u:=u00) hx hc.wf u00_scal Z'
  have z:=hc.size
  refine⟨e,u00,H4,Z',u00_gd _ _ _,(gof hc).trans (k3.gr (B:=H.size) (by have:=(gof hc).size;omega) fun i hi e=>by omega) nl,fun name behind h1 h2 h3=>?_,fun q=>?_⟩
  ·exact absurd (hee name behind h1 h2 h3) (hne.elim (fun h=>h) fun h=>absurd h1 (h name behind))
  ·rw[hf,k1]
   simp only[zN]
   rw[res_ctO (w:=.int .i64 e) (by simp[T.get_set]) (zOz k2) (by simp[T.get_set])]
   simp only[zB]
 cases hsc:schT [] (splT (zFG s))with
 | none =>
  rw[hsc]at ksc
  have:=bad (zCx c N (.str s)) 12 H3 Z x3 b2 (.inr fun _ _ h=>by rw[hsc]at h;cases h) (fun q=>by
   have ep:zIf [(.str []),(.str []),(.str []),(.str []),(.bool false),(.int .i64 (.ofNat 0)),(.bool false),.nils,(.str []),(.str []),(.bool false),(.bool false)] [] []=some (.agg u00.cs):=rfl
   simp only[zCx,a1,zN,zO,zB,zY,e0,zD,a2,hCl s (by omega) H2 Z,b3,ksc H3 Z,schV,zGZ,zGW,zGa,zg,Bool.not_false,zF,ep]
   rfl) (fun _ _ h=>by rw[hsc]at h;cases h)
  rw[hsc]at this
  exact this
 | some p =>
  obtain⟨name,behind⟩:=p
  rw[hsc]at ksc
  obtain⟨hl1,hl2⟩:=schT_len _ _ hsc
  have hl2':behind.length<=(splT (zFG s)).length:=hl2
  obtain⟨H4,c1,c2,c3⟩:=zF5 (u':={ splU u00 (zFG s)with sch:=name }) b1 b2.wf 0 (.str name) rfl rfl (by omega) rfl Z
  have hU4:UGd (Aft H1.size) (3*s.length) H4 { splU u00 (zFG s)with sch:=name }:=by
   rw[eu]
   exact⟨by show(0:Nat)<=_;omega,by show(-1:Int)<=0;omega,by show(0:Int)<=_;omega,TxL.nil _ _ _⟩
  obtain⟨e,u',H5,Z5,d1,d2,d3,d4,d5,d6⟩:=hFu behind (by omega) H1.size (3*s.length) _ c3.wf c2 hU4 (by omega) Z
  have hc5:Chg (fun j=>j=H1.size) H2 H5:=zAz b2 (zAz c3 d4)
  have x5:Bx H5 H.size u00.cs:=x2.chg g2.wf hc5 (by omega)
  by_cases d:e=0
  ·have e7:(e != Int.ofNat 0)=false:=by rw[d];rfl
   obtain⟨H6,k1,k2,k3⟩:=ur_st (u:=u') x5 d4.wf d1.pv.scal Z5
   have hz:=hc5.size
   have hg6:Gr H.size H H6:=(gof hc5).trans (k3.gr (B:=H.size) (by have:=(gof hc5).size;omega) fun i hi e=>by omega) nl
   have dj:∀ i,i<H5.size->Aft H1.size i->¬ i=H.size:=fun i _ h=>by unfold Aft at h;omega
   refine⟨e,u',H6,Z5,(d1.chg d4.wf k3 dj).weaken k3.wf (fun i _ h=>by unfold Aft at h;omega) nl,hg6,fun name' behind' h1 h2 h3=>?_,fun q=>?_⟩
   ·cases h1
    obtain⟨f1,pv,f2,f3⟩:=d5 h2 h3
    exact⟨f1,pv,f2,(f3.chg d4.wf k3 dj).weaken k3.wf fun i _ h=>by unfold Aft at h;omega⟩
   ·have e3:zQ 0 [.ptr H1.size 0]=some (.ptr H1.size (0+0)):=rfl
    simp only[zCx,a1,zN,zO,zB,zY,e0,zD,a2,hCl s (by omega) H2 Z,b3,ksc H3 Z,schV,zGZ,zGW,zGa,zg,Bool.not_true,e3,c1,d6,zAM,e7,zOz d3,k1]
    rw[res_ctO (w:=.int .i64 (.ofNat 0)) (by simp[T.get_set]) (zOz k2) (by simp[T.get_set])]
    simp only[zB]
    rw[d]
    rfl
  ·have e7:(e != Int.ofNat 0)=true:=by rw[bne_iff_ne];exact d
   have:=bad (zCx c N (.str s)) e H5 Z5 x5 hc5 (.inl d) (fun q=>by
    have e3:zQ 0 [.ptr H1.size 0]=some (.ptr H1.size (0+0)):=rfl
    have ep:zIf [(.str []),(.str []),(.str []),(.str []),(.bool false),(.int .i64 (.ofNat 0)),(.bool false),.nils,(.str []),(.str []),(.bool false),(.bool false)] [] []=some (.agg u00.cs):=rfl
    simp only[zCx,a1,zN,zO,zB,zY,e0,zD,zF,a2,hCl s (by omega) H2 Z,b3,ksc H3 Z,schV,zGZ,zGW,zGa,zg,Bool.not_true,e3,c1,d6,zAM,e7,ep]) (fun name' behind' h1 h2 h3=>by rw[hsc]at h1;cases h1;exact(d5 h2 h3).1)
   rw[hsc]at this
   exact this
abbrev UrlOk (c:zG):Prop:=∀ (s:Bs) {H:Heap},WF H->∀ Z,∃ (e:Int) (u:UR) (H':Heap) (Z':Tape),UGd (fun i=>H.size<=i) 900 H' u/\Gr H.size H H' /\
 (∀ name behind,schT [] (splT (zFG (s.take 300)))=some (name,behind)->speT name=false->begB behind (bs [47])=false->e=0/\∃ pv,u=opqX (s.take 300) name behind pv/\DatP (fun i=>H.size<=i) H' 1 pv 1 [.str (pctT 1 (ahdT 63 63 [] behind).1)]) /\
 ∀ q,c zM6 [.str s] H Z q=q (.tup [.agg u.cs,.bool (decide (e=0))]) H' Z'
theorem zRF (c:zG)(N:Nat)(hF:FewOk c)(hP:ParOk c)(s:Bs){H:Heap}(hw:WF H)(Z:Tape) :
  ∃ (e:Int) (u:UR) (H':Heap) (Z':Tape),UGd (fun i=>H.size<=i) 900 H' u/\Gr H.size H H' /\
   (∀ name behind,schT [] (splT (zFG (s.take 300)))=some (name,behind)->speT name=false->begB behind (bs [47])=false->e=0/\∃ pv,u=opqX (s.take 300) name behind pv/\DatP (fun i=>H.size<=i) H' 1 pv 1 [.str (pctT 1 (ahdT 63 63 [] behind).1)]) /\
   ∀ q,zM5 c N (.str s) H Z q=q (.tup [.agg u.cs,.bool (decide (e=0))]) H' Z':=by
 have a1:zBV [(.str []),(.str []),(.str []),(.str []),(.bool false),(.int .i64 (.ofNat 0)),(.bool false),.nils,(.str []),(.str []),(.bool false),(.bool false)] [] H Z=some (.ptr H.size 0,H.new u00.cs 12 true,Z):=rfl
 have g1:=Gr.new hw u00.cs 12 true
 have x1:Bx (H.new u00.cs 12 true) H.size u00.cs:=Bx.new H _ _ _ nl
 have z1:(H.new u00.cs 12 true).size=H.size+1:=rfl
 generalize H.new u00.cs 12 true=H1 at a1 g1 x1 z1
 have ht:(s.take 300).length<=300:=by rw[List.length_take];omega
 have kf:∀ H Z q,c zDV [.str s,.int .i64 (.ofNat 300)] H Z q=q (.str (s.take 300)) H Z:=hF s 300
 generalize s.take 300=t at ht kf
 obtain⟨e,u,H2,Z2,b1,b2,b3,b4⟩:=hP t (by omega) g1.wf Z
 have z2:=b2.size
 have a2:zBV [(.str []),(.str []),(.str []),(.str []),(.bool false),(.int .i64 (.ofNat 0)),(.bool false),.nils,(.str []),(.str []),(.bool false),(.bool false)] [] H2 Z2=some (.ptr H2.size 0,H2.new u00.cs 12 true,Z2):=rfl
 have g3:=Gr.new b2.wf u00.cs 12 true
 have y3:Bx (H2.new u00.cs 12 true) H2.size u00.cs:=Bx.new H2 _ _ _ nl
 have z3:(H2.new u00.cs 12 true).size=H2.size+1:=rfl
 generalize H2.new u00.cs 12 true=H3 at a2 g3 y3 z3
 have x3:=(x1.gr b2 (by omega)).gr g3 (by omega)
 obtain⟨H4,c1,c2,c3⟩:=ur_st (u:=u) y3 g3.wf b1.pv.scal Z2
 have x4:=x3.chg g3.wf c3 (by omega)
 obtain⟨H5,d1,d2,d3⟩:=ur_st (u:=u) x4 c3.wf b1.pv.scal Z2
 have z4:=c3.size
 have hq:Chg (fun j=>j=H.size∨j=H2.size) H2 H5:=(g3.chg.trans (c3.weaken (Q:=fun j=>j=H.size∨j=H2.size) fun _ _ h=>.inr h) fun _ _ h=>h).trans d3 fun _ _ h=>.inl h
 have dj:∀ i,i<H2.size->H1.size<=i->¬(i=H.size∨i=H2.size):=fun i _ h=>by omega
 have eqb:((e:Int) == Int.ofNat 0)=decide (e=0):=by rw[Bool.eq_iff_iff,beq_iff_eq,decide_eq_true_eq];rfl
 refine⟨e,u,H5,Z2,(b1.chg b2.wf hq dj).weaken hq.wf (fun i _ h=>by omega) (by omega),(g1.trans b2 (by omega)).trans (hq.gr (B:=H.size) (by omega) fun i hi h=>by omega) nl,fun name behind h1 h2 h3=>?_,fun q=>?_⟩
 ·obtain⟨f1,pv,f2,f3⟩:=b3 name behind h1 h2 h3
  exact⟨f1,pv,f2,(f3.chg b2.wf hq dj).weaken hq.wf fun i _ h=>by omega⟩
 ·simp only[zM5,a1,zN,kf H1 Z,b4,ext0,ext1,zB,a2,c1,zOz c2,zU,eqb,d1]
  rw[res_ctO (w:=.bool (decide (e=0))) (by simp[T.get_set]) (zOz d2) (by simp[T.get_set])]
  simp only[zB]
end Go.Am.X

