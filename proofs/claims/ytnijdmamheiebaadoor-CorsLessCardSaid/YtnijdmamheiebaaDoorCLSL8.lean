/- The abstract machine, printed functions of the program, and what they are shown to be. -/
import Derived.Test.YtnijdmamheiebaaDoorCLSL7
import Derived.Test.YtnijdmamheiebaaDoorCLSL3
import Derived.Test.YtnijdmamheiebaaDoorCLSM4
set_option linter.unusedSimpArgs false
set_option linter.unusedVariables false
set_option linter.unusedSectionVars false
set_option maxRecDepth 100000
namespace Go.Am.X
structure OR where
 sch:Bs
 ho:Bs
 po:Int
 op:Bool
def OR.cs (o:OR):List V:=[.str o.sch,.str o.ho,.int .i64 o.po,.bool o.op]
structure OGd (o:OR):Prop where
 sch:o.sch.length<=10
 ho:o.ho.length<=2000000
 p0:0<=o.po
 p1:o.po<=65535
def zQ2 (u:UR):Int:=if u.po=-1 then ownT u.sch else u.po
abbrev PrtOk (c:zG):Prop:=∀ (u:UR),u.pv.cells=[u.pv]->∀ {H:Heap},WF H->∀ Z,∃ H' Z',Gr H.size H H'/\∀ q,c zKh [.agg u.cs] H Z q=q (.int .i64 (zQ2 u)) H' Z'
theorem ur_box {H:Heap}(hw:WF H)(u:UR)(hu:u.pv.cells=[u.pv])(Z:Tape):∃ H',eBox [.agg u.cs] H Z=some (.ptr H.size 0,H',Z)/\Bx H' H.size u.cs/\Gr H.size H H'/\H'.size=H.size+1:=by
 have e:(V.agg u.cs).cells=u.cs:=by simp only[V.cells,UR.cs]
 refine⟨H.new u.cs 12 true,?_,Bx.new H _ _ _ (by rw[ur_len];omega),Gr.new hw _ _ _,rfl⟩
 show some (V.ptr H.size 0,H.new (V.agg u.cs).cells (V.agg u.cs).cells.length true,Z)=_
 rw[e]
 rfl
theorem zQI (c:zG)(N:Nat)(hO:zQK c)(u:UR)(hu:u.pv.cells=[u.pv]){H:Heap}(hw:WF H)(Z:Tape):∃ H' Z',Gr H.size H H'/\∀ q,zIk c N (.agg u.cs) H Z q=q (.int .i64 (zQ2 u)) H' Z':=by
 obtain⟨H1,a1,a2,a3,a4⟩:=ur_box hw u hu Z
 have l0:=zGK a2 0 rfl
 have l5:=zGK a2 5 rfl
 refine⟨H1,Z,a3,fun q=>?_⟩
 unfold zQ2
 by_cases d:u.po=-1
 ·have e:(u.po == Int.negSucc 0)=true:=by rw[d];rfl
  simp only[zIk,a1,zN,faO,zB,l5,zU,e,zF,l0,hO u.sch H1 Z,if_pos d]
 ·have e:(u.po == Int.negSucc 0)=false:=by rw[beq_eq_false_iff_ne];exact d
  simp only[zIk,a1,zN,faO,zB,l5,zU,e,zD,if_neg d]
theorem speT_len {s:Bs}(h:speT s=true):s.length<=10/\0<=ownT s:=by
 have h1:0<=ownT s:=of_decide_eq_true h
 refine⟨?_,h1⟩
 unfold ownT at h1
 split at h1
 ·rename_i h;rcases h with rfl | rfl <;> decide
 ·split at h1
  ·rename_i h;rcases h with rfl | rfl <;> decide
  ·split at h1
   ·rename_i h;rw[h];decide
   ·omega
def orgU (u:UR):OR:=if speT u.sch=true then⟨u.sch,u.ho,zQ2 u,false⟩else⟨[],[],0,true⟩
theorem orgU_gd {D:Nat->Prop}{M:Nat}{H:Heap}{u:UR}(h:UGd D M H u):OGd (orgU u):=by
 unfold orgU
 split
 ·rename_i hs
  obtain⟨h1,h2⟩:=speT_len hs
  have:=h.p0
  have:=h.p1
  have:=ownT_rng u.sch
  refine⟨h1,h.ho,?_,?_⟩
  ·show 0<=zQ2 u;unfold zQ2;split <;> omega
  ·show zQ2 u<=65535;unfold zQ2;split <;> omega
 ·exact⟨by decide,by decide,by decide,by decide⟩
theorem or_st {H:Heap}{j:Nat}{cs:List V}(h:Bx H j cs)(hl:cs.length=4)(hw:WF H)(o:OR)(Z:Tape):∃ H',eStore 4 [.ptr j 0,.agg o.cs] H Z=some (.tup [],H',Z)/\Bx H' j o.cs/\Chg (fun i=>i=j) H H':=by
 obtain⟨H',k1,k2,k3⟩:=h.eStore hw 0 (.agg o.cs) 4 rfl (by omega) (by omega) rfl Z
 refine⟨H',k1,?_,k3.chg rfl⟩
 have e:cs.take 0++(V.agg o.cs).cells++cs.drop (0+4)=o.cs:=by
  rw[List.take_zero,List.nil_append,List.drop_eq_nil_of_le (by omega),List.append_nil]
  rfl
 rw[e]at k2
 exact k2
theorem zJ4 {H:Heap}{i:Nat}{o:OR}(h:Bx H i o.cs):zA7 4 [.ptr i 0] H=some (.agg o.cs):=by
 have:=zJm (off:=0) (n:=4) h.cells nl
 exact this
def OfR (f:Heap->Tape->KV->Ans)(H:Heap)(Z:Tape):Prop:=∃ (o:OR) (H':Heap) (Z':Tape),OGd o/\Gr H.size H H'/\∀ q,f H Z q=q (.agg o.cs) H' Z'
theorem of_j0 (c:zG)(N:Nat)(hS:zRP c)(hP:PrtOk c){D:Nat->Prop}{M i j:Nat}{u:UR}(hu:u.pv.cells=[u.pv]){cs:List V}(hl:cs.length=4){H:Heap}(hw:WF H)(hB:Bx H i u.cs)(hJ:Bx H j cs)(hij:i≠j)(Z:Tape)(fr:T V)(f1:fr.get 1=some (.ptr i 0))(f2:fr.get 2=some (.ptr j 0)) :
  ∃ H' Z',Chg (fun k=>k=j) H H'/\∀ q,zFM c N q ⟨fr,H⟩ Z=q (.agg (orgU u).cs) H' Z':=by
 have l0:=zGK hB 0 rfl
 have l3:=zGK hB 3 rfl
 unfold orgU
 cases hsp:speT u.sch with
 | true =>
  obtain⟨H1,Z1,a1,a2⟩:=hP u hu hw Z
  have hB1:=hB.gr a1 (hB.lt hw)
  have hJ1:=hJ.gr a1 (hJ.lt hw)
  have l0':=zGK hB1 0 rfl
  have l3':=zGK hB1 3 rfl
  obtain⟨H2,b1,b2,b3⟩:=or_st hJ1 hl a1.wf ⟨u.sch,u.ho,zQ2 u,false⟩ Z1
  have ck:zAZ [H,H1,H2] (((.load none),[.ptr i (0+3)],0,1)::(((.load none),[.ptr i (0+0)],0,1)::[]))=true:=by
   simp only[Nat.zero_add]at l0 l3 l0' l3'
   simp[zAZ,zGU,zRB,l3,l3',l0,l0',chk1]
   simp[same,zRJ,zOy]
  have pb:zIf [(.str []),(.str []),(.int .i64 (.ofNat 0)),(.bool false)] [(0,1),(1,1),(2,1)] [.str u.sch,.str u.ho,.int .i64 (zQ2 u)]=some (.agg (OR.mk u.sch u.ho (zQ2 u) false).cs):=rfl
  have ga:=zOz hB
  refine⟨H2,Z1,zAz (zQn a1) b3,fun q=>?_⟩
  simp only[zFM,zA f1,zA f2,faO,zB,l0,hS u.sch H Z,hsp,zg,Bool.not_true,zD,l3,ga,a2,pb,b1,zN,ck,cond_true]
  rw[res_cO (by simp[T.get_set]) (zJ4 b2)]
  simp only[zB,if_true]
 | false =>
  obtain⟨H2,b1,b2,b3⟩:=or_st hJ hl hw ⟨[],[],0,true⟩ Z
  have pb:zIf [(.str []),(.str []),(.int .i64 (.ofNat 0)),(.bool false)] [(3,1)] [(.bool true)]=some (.agg (OR.mk [] [] 0 true).cs):=rfl
  refine⟨H2,Z,b3,fun q=>?_⟩
  simp only[zFM,zA f1,zA f2,faO,zB,l0,hS u.sch H Z,hsp,zg,Bool.not_false,zF,pb,b1,zN]
  rw[res_cO (by simp[T.get_set]) (zJ4 b2)]
  simp only[zB]
  rfl
abbrev blobB:Bs:=bs [98,108,111,98]
abbrev OfOk0 (c:zG):Prop:=∀ (u:UR) {D:Nat->Prop} {M:Nat} {H:Heap},WF H->UGd D M H u->u.sch≠blobB->∀ Z,OfR (c zIG [.agg u.cs]) H Z
abbrev OfOk (c:zG):Prop:=∀ (u:UR) {D:Nat->Prop} {M:Nat} {H:Heap},WF H->UGd D M H u->M<=1000->∀ Z,OfR (c zIG [.agg u.cs]) H Z
theorem zOx (c:zG)(N:Nat)(hS:zRP c)(hP:PrtOk c)(u:UR){D:Nat->Prop}{M:Nat}{H:Heap}(hw:WF H)(hU:UGd D M H u)(hX:u.sch=blobB->M<=1000/\ParOk c/\OfOk0 c)(Z:Tape) :
  OfR (zEn c N (.agg u.cs)) H Z:=by
 obtain⟨H1,a1,a2,a3,a4⟩:=ur_box hw u hU.pv.scal.1 Z
 have b1:zBV [(.str []),(.str []),(.int .i64 (.ofNat 0)),(.bool false)] [] H1 Z=some (.ptr H1.size 0,H1.new (OR.mk [] [] 0 false).cs 4 true,Z):=rfl
 have b2:=Gr.new a3.wf (OR.mk [] [] 0 false).cs 4 true
 have b3:Bx (H1.new (OR.mk [] [] 0 false).cs 4 true) H1.size (OR.mk [] [] 0 false).cs:=Bx.new H1 _ _ _ nl
 have b4:(H1.new (OR.mk [] [] 0 false).cs 4 true).size=H1.size+1:=rfl
 generalize H1.new (OR.mk [] [] 0 false).cs 4 true=H2 at b1 b2 b3 b4
 have x2:=a2.gr b2 (by omega)
 have l0:=zGK x2 0 rfl
 have l6:=zGK x2 6 rfl
 have l7:=zGK x2 7 rfl
 have g2:Gr H.size H H2:=a3.trans b2 (by omega)
 have fin:∀ (f:Heap->Tape->KV->Ans) (H3:Heap) (Z3:Tape) (fr:T V),Gr H2.size H2 H3->fr.get 1=some (.ptr H.size 0)->fr.get 2=some (.ptr H1.size 0)->(∀ q,f H Z q=zFM c N q ⟨fr,H3⟩ Z3)->OfR f H Z:=fun f H3 Z3 fr g3 f1 f2 e=>by
  have z3:=g3.size
  obtain⟨H4,Z4,c1,c2⟩:=of_j0 (D:=D) (M:=M) c N hS hP hU.pv.scal.1 rfl g3.wf (x2.gr g3 (by omega)) (b3.gr g3 (by omega)) (by omega) Z3 fr f1 f2
  exact⟨orgU u,H4,Z4,orgU_gd hU,(g2.trans g3 (by omega)).trans (c1.gr (B:=H.size) (by omega) fun i hi h=>by omega) nl,fun q=>(e q).trans (c2 q)⟩
 have n47:(bs [98,108,111,98])=blobB:=rfl
 by_cases h0:u.sch=blobB
 ·obtain⟨hM,hPa,hO0⟩:=hX h0
  have d0:decide (u.sch=bs [98,108,111,98])=true:=decide_eq_true h0
  cases hop:u.op with
  | false =>
   rw[hop]at l6
   refine fin _ H2 Z (T.s (T.s (T.s .leaf 1 (.ptr H.size 0)) 2 (.ptr H1.size 0)) 17 (.bool false)) (Gr.refl' b2.wf) (by simp[T.get_set]) (by simp[T.get_set]) fun q=>?_
   simp only[zEn,a1,zN,b1,faO,zB,l0,l6,zP,streq,d0,zAB,retK,ze,zX,zJ,cond_true,cond_false,zD]
  | true =>
   rw[hop]at l6
   obtain⟨l,p1,p2,p3⟩:=(hU.pv.chg hw (a3.chg.trans (b2.chg (P:=fun _=>False)) fun _ _ h=>h) fun i _ _ h=>h)
   have lv:pLen [u.pv]=some (.int .i64 (l.length:Int)):=p1.rd.pLen
   by_cases h1:l.length=1
   ·have d1:((l.length:Int) == Int.ofNat 1)=true:=by rw[h1];rfl
    obtain⟨x,rfl⟩:∃ x,l=[x]:=List.length_eq_one_iff.1 h1
    obtain⟨p,q1,q2⟩:=zLb p1.rd (i:=0) (by simp)
    have hx:=p3 x (by simp)
    have q1':zn 1 [u.pv,.int .i64 (.ofNat 0)]=some p:=q1
    have q2':zf [p] H2=some (.str x):=q2
    obtain⟨e,v,H3,Z3,c1,c2,c3,c4⟩:=hPa x (by omega) b2.wf Z
    have z3:=c2.size
    have e1:zBV [(.str []),(.str []),(.str []),(.str []),(.bool false),(.int .i64 (.ofNat 0)),(.bool false),.nils,(.str []),(.str []),(.bool false),(.bool false)] [] H3 Z3=some (.ptr H3.size 0,H3.new u00.cs 12 true,Z3):=rfl
    have g4:=Gr.new c2.wf u00.cs 12 true
    have y4:Bx (H3.new u00.cs 12 true) H3.size u00.cs:=Bx.new H3 _ _ _ nl
    have z4:(H3.new u00.cs 12 true).size=H3.size+1:=rfl
    generalize H3.new u00.cs 12 true=H4 at e1 g4 y4 z4
    obtain⟨H5,k1,k2,k3⟩:=ur_st (u:=v) y4 g4.wf c1.pv.scal Z3
    have g5:Gr H2.size H2 H5:=(c2.trans g4 (by omega)).trans (k3.gr (B:=H2.size) (by omega) fun i hi h=>by omega) nl
    have m0:=zGK k2 0 rfl
    by_cases he:e=0
    ·have d2:(e == Int.ofNat 0)=true:=by rw[he];rfl
     have inner:∀ (f:Heap->Tape->KV->Ans),v.sch≠blobB->(∀ q,f H Z q=c zIG [.agg v.cs] H5 Z3 fun v93 H94 Z95=>effK (eStore 4 [.ptr H1.size 0,v93] H94 Z95) fun v96 H97 Z98=>zC (results ⟨(T.s .leaf 2 (.ptr H1.size 0)),H97⟩ [(.cell 2 (some 4))]) fun v=>q v H97 Z98)->OfR f H Z:=fun f hne hf=>by
      have hv5:UGd (fun i=>H2.size<=i) (3*x.length) H5 v:=c1.chg c2.wf (g4.chg.trans (k3.weaken (Q:=fun i=>i=H3.size) fun _ _ h=>h) fun _ _ h=>h) fun i hi _ h=>by omega
      obtain⟨o,H6,Z6,o1,o2,o3⟩:=hO0 v g5.wf hv5 hne Z3
      have z5:=g5.size
      obtain⟨H7,n1,n2,n3⟩:=or_st ((b3.gr g5 (by omega)).gr o2 (by omega)) rfl o2.wf o Z6
      have z6:=o2.size
      refine⟨o,H7,Z6,o1,((g2.trans g5 (by omega)).trans o2 (by omega)).trans (n3.gr (B:=H.size) (by omega) fun i hi h=>by omega) nl,fun q=>?_⟩
      rw[hf,o3,n1]
      simp only[zN]
      rw[res_cO (by simp[T.get_set]) (zJ4 n2)]
      simp only[zB]
     by_cases t1:v.sch=bs [104,116,116,112]
     ·refine inner _ (by rw[t1];decide) fun q=>?_
      simp only[zEn,a1,zN,b1,faO,zB,l0,l6,l7,lv,zP,streq,zU,d0,d1,zAB,retK,ze,zh,zX,zJ,cond_true,cond_false,zF,q1',q2',c4,ext0,ext1,e1,k1,d2,m0,decide_eq_true t1,zOz k2]
     ·by_cases t2:v.sch=bs [104,116,116,112,115]
      ·refine inner _ (by rw[t2];decide) fun q=>?_
       simp only[zEn,a1,zN,b1,faO,zB,l0,l6,l7,lv,zP,streq,zU,d0,d1,zAB,zu,retK,ze,zh,zX,zJ,cond_true,cond_false,zF,q1',q2',c4,ext0,ext1,e1,k1,d2,m0,decide_eq_false t1,decide_eq_true t2,zOz k2]
      ·refine fin _ H5 Z3 (T.s (T.s (T.s (T.s .leaf 1 (.ptr H.size 0)) 2 (.ptr H1.size 0)) 3 (.ptr H3.size 0)) 37 (.bool false)) g5 (by simp[T.get_set]) (by simp[T.get_set]) fun q=>?_
       simp only[zEn,a1,zN,b1,faO,zB,l0,l6,l7,lv,zP,streq,zU,d0,d1,zAB,zu,retK,ze,zh,zX,zJ,cond_true,cond_false,zF,zD,q1',q2',c4,ext0,ext1,e1,k1,d2,m0,decide_eq_false t1,decide_eq_false t2]
    ·have d2:(e == Int.ofNat 0)=false:=by rw[beq_eq_false_iff_ne];exact he
     refine fin _ H5 Z3 (T.s (T.s (T.s (T.s .leaf 1 (.ptr H.size 0)) 2 (.ptr H1.size 0)) 3 (.ptr H3.size 0)) 37 (.bool false)) g5 (by simp[T.get_set]) (by simp[T.get_set]) fun q=>?_
     simp only[zEn,a1,zN,b1,faO,zB,l0,l6,l7,lv,zP,streq,zU,d0,d1,zAB,zu,retK,ze,zh,zX,zJ,cond_true,cond_false,zF,zD,q1',q2',c4,ext0,ext1,e1,k1,d2]
   ·have d1:((l.length:Int) == Int.ofNat 1)=false:=by rw[beq_eq_false_iff_ne];intro h;exact h1 (by have:Int.ofNat 1=1:=rfl;omega)
    refine fin _ H2 Z (T.s (T.s (T.s .leaf 1 (.ptr H.size 0)) 2 (.ptr H1.size 0)) 17 (.bool false)) (Gr.refl' b2.wf) (by simp[T.get_set]) (by simp[T.get_set]) fun q=>?_
    simp only[zEn,a1,zN,b1,faO,zB,l0,l6,l7,lv,zP,streq,zU,d0,d1,zAB,retK,ze,zX,zJ,cond_true,cond_false,zD]
 ·have d0:decide (u.sch=bs [98,108,111,98])=false:=decide_eq_false h0
  refine fin _ H2 Z (T.s (T.s (T.s .leaf 1 (.ptr H.size 0)) 2 (.ptr H1.size 0)) 17 (.bool false)) (Gr.refl' b2.wf) (by simp[T.get_set]) (by simp[T.get_set]) fun q=>?_
  simp only[zEn,a1,zN,b1,faO,zB,l0,zP,streq,d0,ze,zX,zJ,cond_false,zD]
end Go.Am.X

namespace Go.Am.X
theorem l_numeralX (c:zG)(N:Nat)(H:Heap)(k:KC):∀ (f n:Nat) (acc:Bs) (m:Nat) (fr:T V) (Z:Tape),n<10 ^ f->n<4611686018427387904->(acc≠[]∨0<f)->acc.length<1000-f->f<100->f<m ->
  fr.get 0=some (.int .i64 (n:Int))->fr.get 3=some (.str acc)->zq (zAG c N) m ⟨fr,H⟩ Z k=k (.exit 0) ⟨T.s .leaf 3 (.str (digF f n acc)),H⟩ Z:=by
 intro f
 induction f with
 | zero =>
  intro n acc m fr Z hn hb ha hl hf hm f0 f3
  obtain⟨m,rfl⟩:∃ j,m=j+1:=⟨m-1,by omega⟩
  have hn0:n=0:=by simpa using hn
  subst hn0
  have hac:acc≠[]:=by rcases ha with h | h;exact h;omega
  have e1:decide (Int.ofNat 0<((0:Nat):Int))=false:=rfl
  have e2:zAL .eql acc []=some (.bool false):=by rw[streq,decide_eq_false hac]
  rw[zI]
  simp only[zAG,zA f0,zA f3,zY,e1,zu,retK,zN,zP,e2,zB,zJ,cond_false,zD,digF]
  rfl
 | succ f ih =>
  intro n acc m fr Z hn hb ha hl hf hm f0 f3
  obtain⟨m,rfl⟩:∃ j,m=j+1:=⟨m-1,by omega⟩
  rw[zI]
  have step:∀ fr':T V,(0<n∨acc=[])->fr'.get 0=some (.int .i64 ((n / 10:Nat):Int))->fr'.get 3=some (.str (UInt8.ofNat (48+n % 10)::acc))->zq (zAG c N) m ⟨fr',H⟩ Z k=k (.exit 0) ⟨T.s .leaf 3 (.str (digF (f+1) n acc)),H⟩ Z:=by
   intro fr' h g0 g3
   rw[ih (n / 10) (UInt8.ofNat (48+n % 10)::acc) m fr' Z (by rw[Nat.pow_succ]at hn;omega) (by omega) (.inl (by simp)) (by simp;omega) (by omega) (by omega) g0 g3]
   have:(Nat.blt 0 n || acc.isEmpty)=true:=by
    rcases h with h | h
    ·have:Nat.blt 0 n=true:=by simp[Nat.blt];omega
     rw[this];rfl
    ·rw[h];simp
   simp only[digF,this,cond_true]
  have rem:∀ c:V->Ans,binK .rem (.int .i64 (n:Int)) (.int .i64 (.ofNat 10)) c=c (.int .i64 ((n % 10:Nat):Int)):=fun c=>by
   rw[zSQ _ _ _ (by decide)];congr 1
  have quo:∀ c:V->Ans,binK .quo (.int .i64 (n:Int)) (.int .i64 (.ofNat 10)) c=c (.int .i64 ((n / 10:Nat):Int)):=fun c=>by
   rw[zPU _ _ _ (by decide)]
   have:((n:Int).tdiv (Int.ofNat 10))=((n / 10:Nat):Int):=rfl
   rw[this,zES (by omega) (by omega)]
  have e3:wr .i64 (((n % 10:Nat):Int)+Int.ofNat 1)=((n % 10+1:Nat):Int):=adI (by omega)
  have e5:zAL .add [UInt8.ofNat (48+n % 10)] acc=some (.str (UInt8.ofNat (48+n % 10)::acc)):=zD7 (by simp;omega)
  by_cases h0:0<n
  ·have e1:decide (Int.ofNat 0<(n:Int))=true:=decide_eq_true (by have:Int.ofNat 0=0:=rfl;omega)
   simp only[zAG,zA f0,zA f3,zY,e1,zh,zX,zB,zJ,cond_true,zF,rem,zS .i64,e3]
   rw[dig_slice _ (Nat.mod_lt _ (by omega))]
   simp only[zB,zP,e5,quo]
   exact step _ (.inl h0) (by simp[T.get_set]) (by simp[T.get_set])
  ·have hn0:n=0:=by omega
   subst hn0
   have e1:decide (Int.ofNat 0<((0:Nat):Int))=false:=rfl
   by_cases hac:acc=[]
   ·have e2:zAL .eql acc []=some (.bool true):=by rw[streq,decide_eq_true hac]
    simp only[zAG,zA f0,zA f3,zY,e1,zu,retK,zN,zP,e2,zB,zJ,cond_false,zF,rem,zS .i64,e3]
    rw[dig_slice _ (Nat.mod_lt _ (by omega))]
    simp only[zB,zP,e5,quo]
    exact step _ (.inr hac) (by simp[T.get_set]) (by simp[T.get_set])
   ·have e2:zAL .eql acc []=some (.bool false):=by rw[streq,decide_eq_false hac]
    have:(Nat.blt 0 0 || acc.isEmpty)=false:=by
     cases acc with
     | nil=>exact absurd rfl hac
     | cons x l=>rfl
    simp only[zAG,zA f0,zA f3,zY,e1,zu,retK,zN,zP,e2,zB,zJ,cond_false,zD,digF,this]
    rfl
abbrev NmlXOk (c:zG):Prop:=∀ n:Nat,n<100000000->∀ H Z q,c zCk [.int .i64 (n:Int)] H Z q=q (.str (dig n)) H Z
theorem zNH (c:zG){N:Nat}(hN:9223372036854775807<=N)(n:Nat)(hn:n<100000000)(H:Heap)(Z:Tape)(q:KV):zDU c N (.int .i64 (n:Int)) H Z q=q (.str (dig n)) H Z:=by
 simp only[zDU]
 rw[l_numeralX c N H _ 8 n [] N _ Z (by omega) (by omega) (.inr (by omega)) (by simp) (by omega) (by omega) (by simp[T.get_set]) (by simp[T.get_set])]
 simp only[zW,Nat.beq_refl,cond_true,seqK,zGi,zK,↓reduceIte]
 rfl
abbrev LofOk (c:zG)(f:Nat):Prop:=∀ (s:Bs) {H:Heap},WF H->∀ Z,∃ (o:OR) (H':Heap) (Z':Tape),OGd o/\Gr H.size H H'/\∀ q,c f [.str s] H Z q=q (.agg o.cs) H' Z'
def orgB (o:OR):Bs:=o.sch++bs [58,47,47]++o.ho
def orgT (o:OR):Bs:=if o.op=true then bs [110,117,108,108]else if o.po=ownT o.sch then orgB o else orgB o++bs [58]++dig o.po.toNat
theorem dig_small (n:Nat):(dig n).length<=8:=by
 have:=(digF_ok 8 n [] (by intro x hx;cases hx) (.inr (by omega))).2.2
 simpa [dig] using this
end Go.Am.X

namespace Go.Am.X
def padD:Nat->Nat->Bs
 | 0,_=>[]
 | d+1,n=>padD d (n / 10)++[UInt8.ofNat (48+n % 10)]
theorem padD_two (d n:Nat):padD (d+2) n=padD d (n / 100)++[UInt8.ofNat (48+n % 100 / 10),UInt8.ofNat (48+n % 100 % 10)]:=by
 have e1:n / 10 / 10=n / 100:=Nat.div_div_eq_div_mul n 10 10
 have e2:n / 10 % 10=n % 100 / 10:=by omega
 have e3:n % 100 % 10=n % 10:=by omega
 rw[padD,padD,e1,e2,e3,List.append_assoc]
 rfl
theorem digF_zero (f:Nat)(x:UInt8)(acc:Bs):digF f 0 (x::acc)=x::acc:=by
 cases f with
 | zero=>rfl
 | succ f=>rfl
theorem zSJ:∀ (d f n:Nat) (acc:Bs),d+1<=f->10 ^ d<=n->n<10 ^ (d+1)->digF f n acc=padD (d+1) n++acc:=by
 intro d
 induction d with
 | zero =>
  intro f n acc hf h1 h2
  obtain⟨f,rfl⟩:∃ j,f=j+1:=⟨f-1,by omega⟩
  have hb:Nat.blt 0 n=true:=by simp[Nat.blt];omega
  rw[digF,hb,Bool.true_or,cond_true,show n / 10=0 by omega,digF_zero]
  simp only[padD,List.nil_append,List.singleton_append]
 | succ d ih =>
  intro f n acc hf h1 h2
  obtain⟨f,rfl⟩:∃ j,f=j+1:=⟨f-1,by omega⟩
  have hp:0<10 ^ (d+1):=Nat.pow_pos (by omega)
  have hb:Nat.blt 0 n=true:=by simp[Nat.blt];omega
  rw[Nat.pow_succ]at h1 h2
  rw[digF,hb,Bool.true_or,cond_true,ih f (n / 10) _ (by omega) (by rw[Nat.le_div_iff_mul_le (by omega)];omega) (by rw[Nat.div_lt_iff_lt_mul (by omega)];omega)]
  rw[show padD (d+1+1) n=padD (d+1) (n / 10)++[UInt8.ofNat (48+n % 10)]from rfl,List.append_assoc]
  rfl
def smalls:Bs:=bs [48,48,48,49,48,50,48,51,48,52,48,53,48,54,48,55,48,56,48,57,49,48,49,49,49,50,49,51,49,52,49,53,49,54,49,55,49,56,49,57,50,48,50,49,50,50,50,51,50,52,50,53,50,54,50,55,50,56,50,57,51,48,51,49,51,50,51,51,51,52,51,53,51,54,51,55,51,56,51,57,52,48,52,49,52,50,52,51,52,52,52,53,52,54,52,55,52,56,52,57,53,48,53,49,53,50,53,51,53,52,53,53,53,54,53,55,53,56,53,57,54,48,54,49,54,50,54,51,54,52,54,53,54,54,54,55,54,56,54,57,55,48,55,49,55,50,55,51,55,52,55,53,55,54,55,55,55,56,55,57,56,48,56,49,56,50,56,51,56,52,56,53,56,54,56,55,56,56,56,57,57,48,57,49,57,50,57,51,57,52,57,53,57,54,57,55,57,56,57,57]
theorem smalls_at:∀ r,r<100->smalls[2*r]?=some (UInt8.ofNat (48+r / 10))/\smalls[2*r+1]?=some (UInt8.ofNat (48+r % 10)):=by decide
theorem smalls_cut:∀ r,r<100->10<=r->(smalls.take (2*r+2)).drop (2*r)=digF 20 r []:=by decide
theorem tens_at:∀ r,r<10->((bs [48,49,50,51,52,53,54,55,56,57,97,98,99,100,101,102,103,104,105,106,107,108,109,110,111,112,113,114,115,116,117,118,119,120,121,122]).take (r+1)).drop r=digF 20 r []:=by decide
theorem lg_tab:∀ L,L<64->1<=L->10 ^ (L*78913 / 262144)<=2 ^ (L-1)*10/\2 ^ L<=10 ^ (L*78913 / 262144+1)/\L*78913 / 262144<=18:=by decide
theorem lg_len {n L:Nat}(hL:L<64)(h1:1<=L)(hlo:2 ^ (L-1)<=n)(hhi:n<2 ^ L) :
  ∃ d,d<=18/\10 ^ d<=n/\n<10 ^ (d+1)/\(L*78913 / 262144+(if 10 ^ (L*78913 / 262144)<=n then 1 else 0))=d+1:=by
 obtain⟨a,b,e⟩:=lg_tab L hL h1
 generalize L*78913 / 262144=t at a b e
 by_cases h:10 ^ t<=n
 ·exact⟨t,e,h,Nat.lt_of_lt_of_le hhi b,by rw[if_pos h]⟩
 ·cases t with
  | zero=>have:=Nat.pow_pos (n:=L-1) (show 0<2 by omega);omega
  | succ t =>
   refine⟨t,by omega,?_,by omega,by rw[if_neg h]⟩
   rw[Nat.pow_succ]at a
   omega
def lenB:Bs:=bs [0,1,2,2,3,3,3,3,4,4,4,4,4,4,4,4,5,5,5,5,5,5,5,5,5,5,5,5,5,5,5,5,6,6,6,6,6,6,6,6,6,6,6,6,6,6,6,6,6,6,6,6,6,6,6,6,6,6,6,6,6,6,6,6,7,7,7,7,7,7,7,7,7,7,7,7,7,7,7,7,7,7,7,7,7,7,7,7,7,7,7,7,7,7,7,7,7,7,7,7,7,7,7,7,7,7,7,7,7,7,7,7,7,7,7,7,7,7,7,7,7,7,7,7,7,7,7,7,8,8,8,8,8,8,8,8,8,8,8,8,8,8,8,8,8,8,8,8,8,8,8,8,8,8,8,8,8,8,8,8,8,8,8,8,8,8,8,8,8,8,8,8,8,8,8,8,8,8,8,8,8,8,8,8,8,8,8,8,8,8,8,8,8,8,8,8,8,8,8,8,8,8,8,8,8,8,8,8,8,8,8,8,8,8,8,8,8,8,8,8,8,8,8,8,8,8,8,8,8,8,8,8,8,8,8,8,8,8,8,8,8,8,8,8,8,8,8,8,8,8,8,8,8,8,8,8]
theorem lenB_at:∀ x,x<256->∃ t,lenB[x]?=some (UInt8.ofNat t)/\t<=8/\x<2 ^ t/\(0<x->1<=t/\2 ^ (t-1)<=x):=by
 intro x hx
 refine⟨(lenB[x]?.getD 0).toNat,?_⟩
 have key:∀ x,x<256->lenB[x]?=some (UInt8.ofNat (lenB[x]?.getD 0).toNat)/\(lenB[x]?.getD 0).toNat<=8/\x<2 ^ (lenB[x]?.getD 0).toNat/\(0<x->1<=(lenB[x]?.getD 0).toNat/\2 ^ ((lenB[x]?.getD 0).toNat-1)<=x):=by decide
 exact key x hx
theorem len_part {n s x t:Nat}(hx:x=n / 2 ^ s)(h1:x<2 ^ t)(h0:1<=t)(h2:2 ^ (t-1)<=x):2 ^ (s+t-1)<=n/\n<2 ^ (s+t):=by
 subst hx
 constructor
 ·rw[show s+t-1=(t-1)+s by omega,Nat.pow_add]
  exact(Nat.le_div_iff_mul_le (Nat.pow_pos (by omega))).1 h2
 ·rw[show s+t=t+s by omega,Nat.pow_add]
  exact(Nat.div_lt_iff_lt_mul (Nat.pow_pos (by omega))).1 h1
theorem b_rem {k:IntKind}(x y:Nat)(hy:y≠0)(c:V->Ans):binK .rem (.int k (x:Int)) (.int k (.ofNat y)) c=c (.int k ((x % y:Nat):Int)):=by
 rw[zSQ _ _ _ (by intro h;exact hy (Int.ofNat.inj h))];rfl
theorem b_quo64 (x y:Nat)(hy:y≠0)(hx:x<18446744073709551616)(c:V->Ans):binK .quo (.int .u64 (x:Int)) (.int .u64 (.ofNat y)) c=c (.int .u64 ((x / y:Nat):Int)):=by
 rw[zPU _ _ _ (by intro h;exact hy (Int.ofNat.inj h)),show((x:Int).tdiv (Int.ofNat y))=((x / y:Nat):Int)from rfl,zPq,Nat.mod_eq_of_lt (Nat.lt_of_le_of_lt (Nat.div_le_self _ _) hx)]
theorem zPV (x y:Nat)(hy:y≠0)(hx:x<4294967296)(c:V->Ans):binK .quo (.int .u32 (x:Int)) (.int .u32 (.ofNat y)) c=c (.int .u32 ((x / y:Nat):Int)):=by
 rw[zPU _ _ _ (by intro h;exact hy (Int.ofNat.inj h)),show((x:Int).tdiv (Int.ofNat y))=((x / y:Nat):Int)from rfl,zQe,Nat.mod_eq_of_lt (Nat.lt_of_le_of_lt (Nat.div_le_self _ _) hx)]
theorem zN4 (x:Nat)(hx:x<100)(c:V->Ans):binK .mul (.int .u32 (x:Int)) (.int .u32 (.ofNat 2)) c=c (.int .u32 ((2*x:Nat):Int)):=by
 rw[zJT,show(x:Int)*Int.ofNat 2=((2*x:Nat):Int)by simp;omega,zQe,Nat.mod_eq_of_lt (by omega)]
theorem zNw (x:Nat)(hx:x<1000)(c:V->Ans):binK .add (.int .u32 (x:Int)) (.int .u32 (.ofNat 1)) c=c (.int .u32 ((x+1:Nat):Int)):=by
 rw[zS,show(x:Int)+Int.ofNat 1=((x+1:Nat):Int)by simp,zQe,Nat.mod_eq_of_lt (by omega)]
theorem t_u32 {k:IntKind}(x:Nat)(hx:x<4294967296)(c:V->Ans):zCS .u32 (.int k (x:Int)) c=c (.int .u32 (x:Int)):=by
 rw[zBB,zQe,Nat.mod_eq_of_lt hx]
theorem strIdxK {s:Bs}{k:IntKind}{i:Nat}{c:UInt8}(h:s[i]?=some c):zM [.str s,.int k (i:Int)]=some (.int .u8 (c.toNat:Int)):=by
 simp[zM,zBK,h]
end Go.Am.X

namespace Go.Am.X
def FB (H:Heap)(id d n e u:Nat):Prop:=∃ cells done,Bx H id cells/\cells.length=24/\e<=d/\d<=20/\padD d n=padD e u++done/\(cells.drop (1+e)).take (d-e)=bv done
theorem drop_put {l:List V}{k:Nat}(hk:k<l.length)(x:V):(l.take k++[x]++l.drop (k+1)).drop k=x::l.drop (k+1):=by
 rw[List.append_assoc,List.drop_append,List.drop_take,Nat.sub_self,List.take_zero,List.nil_append,List.length_take,Nat.min_eq_left (by omega),Nat.sub_self,List.drop_zero]
 rfl
theorem len_put {l:List V}{k:Nat}(hk:k<l.length)(x:V):(l.take k++[x]++l.drop (k+1)).length=l.length:=by
 rw[List.length_append,List.length_append,List.length_take,List.length_drop,List.length_singleton];omega
theorem bx_byte {H:Heap}{id:Nat}{cs:List V}(h:Bx H id cs)(hw:WF H)(k:Nat)(hk:k<cs.length)(x:V)(hx:x.cells=[x])(hs:x.scal=true)(Z:Tape) :
  ∃ H' cs',eStore 1 [.ptr id k,x] H Z=some (.tup [],H',Z)/\Bx H' id cs'/\cs'.length=cs.length/\cs'.drop k=x::cs.drop (k+1)/\Chg (fun i=>i=id) H H':=by
 obtain⟨H',k1,k2,k3⟩:=h.eStore hw k x 1 (by rw[hx];rfl) (by omega) (by omega) (by rw[hx];simp[hs]) Z
 rw[hx]at k2
 exact⟨H',_,k1,k2,len_put hk x,drop_put hk x,k3.chg rfl⟩
def chI (n:Nat):V:=.int .u8 ((UInt8.ofNat (48+n)).toNat:Int)
theorem chg1 {i:Nat}{H H' H2:Heap}(h:Chg (fun j=>j=i) H H')(k:Chg (fun j=>j=i) H' H2):Chg (fun j=>j=i) H H2:=h.trans k fun _ _ h=>h
theorem FB.pair {H:Heap}{id d n e u:Nat}(h:FB H id d n (e+2) u)(hw:WF H)(Z:Tape) :
  ∃ H1 H2,eStore 1 [.ptr id (1+(e+1)),chI (u % 100 % 10)] H Z=some (.tup [],H1,Z)/\eStore 1 [.ptr id (1+e),chI (u % 100 / 10)] H1 Z=some (.tup [],H2,Z)/\FB H2 id d n e (u / 100)/\Chg (fun i=>i=id) H H2:=by
 obtain⟨cells,done,h1,h2,h3,h4,h5,h6⟩:=h
 obtain⟨H1,c1,a1,a2,a3,a4,a5⟩:=bx_byte h1 hw (1+(e+1)) (by omega) (chI (u % 100 % 10)) rfl rfl Z
 obtain⟨H2,c2,b1,b2,b3,b4,b5⟩:=bx_byte a2 a5.wf (1+e) (by omega) (chI (u % 100 / 10)) rfl rfl Z
 refine⟨H1,H2,a1,b1,⟨c2,UInt8.ofNat (48+u % 100 / 10)::UInt8.ofNat (48+u % 100 % 10)::done,b2,by omega,by omega,h4,?_,?_⟩,chg1 a5 b5⟩
 ·rw[h5,padD_two,List.append_assoc];rfl
 ·rw[b4,show 1+e+1=1+(e+1)by omega,a4,show d-e=d-(e+2)+1+1 by omega,List.take_succ_cons,List.take_succ_cons,show 1+(e+1)+1=1+(e+2)by omega,h6]
  rfl
theorem FB.one {H:Heap}{id d n u:Nat}(h:FB H id d n 1 u)(hw:WF H)(hu:u<10)(Z:Tape) :
  ∃ H1,eStore 1 [.ptr id (1+0),chI u] H Z=some (.tup [],H1,Z)/\FB H1 id d n 0 0/\Chg (fun i=>i=id) H H1:=by
 obtain⟨cells,done,h1,h2,h3,h4,h5,h6⟩:=h
 obtain⟨H1,c1,a1,a2,a3,a4,a5⟩:=bx_byte h1 hw (1+0) (by omega) (chI u) rfl rfl Z
 refine⟨H1,a1,⟨c1,UInt8.ofNat (48+u)::done,a2,by omega,by omega,h4,?_,?_⟩,a5⟩
 ·rw[h5]
  simp only[padD,Nat.mod_eq_of_lt hu,List.nil_append,List.singleton_append]
 ·rw[a4,show d-0=d-1+1 by omega,List.take_succ_cons,show 1+0+1=1+1 by omega,h6]
  rfl
theorem FB.done {H:Heap}{id d n u:Nat}(h:FB H id d n 0 u):∃ cells,Bx H id cells/\cells.length=24/\d<=20/\(cells.drop 1).take d=bv (padD d n):=by
 obtain⟨cells,done,h1,h2,h3,h4,h5,h6⟩:=h
 refine⟨cells,h1,h2,h4,?_⟩
 rw[h5]
 simpa [padD] using h6
theorem zOB (id d lo:Nat)(ex:Option Nat){i:Nat}(h:i<d):zn 1 [.sl id 1 d lo ex 1,.int .i64 (i:Int)]=some (.ptr id (1+i)):=by
 have:Nat.blt i d=true:=by simp[Nat.blt];omega
 simp[zn,zBK,this]
theorem pr_lo (r:Nat)(hr:r<100):zM [.str smalls,.int .u32 ((2*r+1:Nat):Int)]=some (chI (r % 10)):=strIdxK (smalls_at r hr).2
theorem pr_hi (r:Nat)(hr:r<100):zM [.str smalls,.int .u32 ((2*r:Nat):Int)]=some (chI (r / 10)):=strIdxK (smalls_at r hr).1
theorem zOX:bs [48,48,48,49,48,50,48,51,48,52,48,53,48,54,48,55,48,56,48,57,49,48,49,49,49,50,49,51,49,52,49,53,49,54,49,55,49,56,49,57,50,48,50,49,50,50,50,51,50,52,50,53,50,54,50,55,50,56,50,57,51,48,51,49,51,50,51,51,51,52,51,53,51,54,51,55,51,56,51,57,52,48,52,49,52,50,52,51,52,52,52,53,52,54,52,55,52,56,52,57,53,48,53,49,53,50,53,51,53,52,53,53,53,54,53,55,53,56,53,57,54,48,54,49,54,50,54,51,54,52,54,53,54,54,54,55,54,56,54,57,55,48,55,49,55,50,55,51,55,52,55,53,55,54,55,55,55,56,55,57,56,48,56,49,56,50,56,51,56,52,56,53,56,54,56,55,56,56,56,57,57,48,57,49,57,50,57,51,57,52,57,53,57,54,57,55,57,56,57,57]=smalls:=rfl
def FBR (f:Heap->Tape->KV->Ans)(id d n:Nat)(H:Heap)(Z:Tape):Prop:=∃ H',FB H' id d n 0 0/\Chg (fun i=>i=id) H H'/\∀ q,f H Z q=q (.tup []) H' Z
theorem FBR.step {f g:Heap->Tape->KV->Ans}{id d n:Nat}{H H1:Heap}{Z:Tape}(hC:Chg (fun j=>j=id) H H1)(h:FBR g id d n H1 Z)(e:∀ q,f H Z q=g H1 Z q):FBR f id d n H Z:=by
 obtain⟨H',h1,h2,h3⟩:=h
 exact⟨H',h1,chg1 hC h2,fun q=>(e q).trans (h3 q)⟩
theorem fb_j2 (c:zG)(N:Nat){id d n e u lo:Nat}{ex:Option Nat}{H:Heap}(h:FB H id d n e u)(hw:WF H)(he:e<2)(hu:u<10 ^ e)(Z:Tape)(fr:T V)(f0:fr.get 0=some (.sl id 1 d lo ex 1))(f4:fr.get 4=some (.int .i64 (e:Int)))(f12:fr.get 12=some (.int .u32 (u:Int))) :
  FBR (fun H Z q=>zAn c N q ⟨fr,H⟩ Z) id d n H Z:=by
 have hd:e<=d:=by obtain⟨_,_,_,_,h3,_⟩:=h;exact h3
 by_cases h0:e=0
 ·subst h0
  obtain rfl:u=0:=by simpa using hu
  have e1:decide (Int.ofNat 0<((0:Nat):Int))=false:=rfl
  refine⟨H,h,Chg.refl hw,fun q=>?_⟩
  simp only[zAn,zA f0,zA f4,zA f12,zY,e1,zD]
 ·obtain rfl:e=1:=by omega
  have hu':u<10:=by simpa using hu
  obtain⟨H1,a1,a2,a3⟩:=h.one hw hu' Z
  have e1:decide (Int.ofNat 0<((1:Nat):Int))=true:=rfl
  have e2:wr .u32 (Int.ofNat 48+(u:Int))=((48+u:Nat):Int):=by
   rw[show Int.ofNat 48+(u:Int)=((48+u:Nat):Int)by simp,zQe,Nat.mod_eq_of_lt (by omega)]
  have e3:wr .u8 ((48+u:Nat):Int)=((UInt8.ofNat (48+u)).toNat:Int):=by
   rw[wr_u8];simp
  have e4:zn 1 [.sl id 1 d lo ex 1,.int .i64 (.ofNat 0)]=some (.ptr id (1+0)):=zOB id d lo ex (i:=0) (by omega)
  refine⟨H1,a2,a3,fun q=>?_⟩
  simp only[zAn,zA f0,zA f4,zA f12,zY,e1,zF,zS .u32,e2,zBB,e3,e4,zB]
  rw[show(V.int .u8 ((UInt8.ofNat (48+u)).toNat:Int))=chI u from rfl,a1]
  rfl
theorem fb_j1 (c:zG)(N:Nat){id d n e u lo:Nat}{ex:Option Nat}{H:Heap}(h:FB H id d n e u)(hw:WF H)(he:e<4)(hu:u<10 ^ e)(Z:Tape)(fr:T V)(f0:fr.get 0=some (.sl id 1 d lo ex 1))(f4:fr.get 4=some (.int .i64 (e:Int)))(f12:fr.get 12=some (.int .u32 (u:Int))) :
  FBR (fun H Z q=>zAl c N q ⟨fr,H⟩ Z) id d n H Z:=by
 have hd:e<=d:=by obtain⟨_,_,_,_,h3,_⟩:=h;exact h3
 by_cases h0:e<2
 ·have e1:decide (Int.ofNat 2<=(e:Int))=false:=decide_eq_false (by have:Int.ofNat 2=2:=rfl;omega)
  refine FBR.step (Chg.refl hw) (fb_j2 c N (lo:=lo) (ex:=ex) h hw h0 hu Z (T.s (T.s (T.s (T.s .leaf 0 (.sl id 1 d lo ex 1)) 4 (.int .i64 (e:Int))) 12 (.int .u32 (u:Int))) 139 (.bool false)) (by simp[T.get_set]) (by simp[T.get_set]) (by simp[T.get_set])) fun q=>?_
  simp only[zAl,zA f0,zA f4,zA f12,zi,e1,zD]
 ·obtain⟨e,rfl⟩:∃ j,e=j+2:=⟨e-2,by omega⟩
  have hu2:u<10000:=Nat.lt_of_lt_of_le hu (Nat.pow_le_pow_right (n:=10) (by omega) (show e+2<=4 by omega))
  have hu3:u / 100<10 ^ e:=by rw[Nat.div_lt_iff_lt_mul (by omega)];rw[Nat.pow_add]at hu;exact hu
  obtain⟨H1,H2,a1,a2,a3,a4⟩:=h.pair hw Z
  have hr:u % 100<100:=Nat.mod_lt _ (by omega)
  have e1:decide (Int.ofNat 2<=((e+2:Nat):Int))=true:=decide_eq_true (by have:Int.ofNat 2=2:=rfl;omega)
  have i1:wr .i64 (((e+2:Nat):Int)-Int.ofNat 1)=((e+1:Nat):Int):=by rw[sbI (by omega) (by omega)];rfl
  have i2:wr .i64 (((e+2:Nat):Int)-Int.ofNat 2)=(e:Int):=by rw[sbI (by omega) (by omega)];rfl
  have p1:=zOB id d lo ex (i:=e+1) (by omega)
  have p2:=zOB id d lo ex (i:=e) (by omega)
  refine FBR.step a4 (fb_j2 c N (lo:=lo) (ex:=ex) a3 a4.wf (by omega) hu3 Z (T.s (T.s (T.s (T.s (T.s (T.s .leaf 0 (.sl id 1 d lo ex 1)) 4 (.int .i64 ((e+2:Nat):Int))) 12 (.int .u32 ((u / 100:Nat):Int))) 158 (.int .i64 ((e+2:Nat):Int))) 159 (.int .i64 (e:Int))) 4 (.int .i64 (e:Int))) (by simp[T.get_set]) (by simp[T.get_set]) (by simp[T.get_set])) fun q=>?_
  simp only[zAl,zA f0,zA f4,zA f12,zi,e1,zF]
  rw[b_rem u 100 (by omega),zN4 _ hr,zPV u 100 (by omega) (by omega)]
  simp only[zAA .i64,i1,i2]
  rw[zNw _ (by omega),zOX,pr_lo _ hr,pr_hi _ hr]
  simp only[zB,p1,p2,a1,a2,zN]
theorem fb_j0 (c:zG)(N:Nat){id d n e u lo:Nat}{ex:Option Nat}{H:Heap}(h:FB H id d n e u)(hw:WF H)(he:e<8)(hu:u<10 ^ e)(Z:Tape)(fr:T V)(f0:fr.get 0=some (.sl id 1 d lo ex 1))(f4:fr.get 4=some (.int .i64 (e:Int)))(f1:fr.get 1=some (.int .u64 (u:Int))) :
  FBR (fun H Z q=>zA9 c N q ⟨fr,H⟩ Z) id d n H Z:=by
 have hd:e<=d:=by obtain⟨_,_,_,_,h3,_⟩:=h;exact h3
 have hu2:u<100000000:=Nat.lt_of_lt_of_le hu (Nat.pow_le_pow_right (n:=10) (by omega) (show e<=8 by omega))
 by_cases h0:e<4
 ·have e1:decide (Int.ofNat 4<=(e:Int))=false:=decide_eq_false (by have:Int.ofNat 4=4:=rfl;omega)
  refine FBR.step (Chg.refl hw) (fb_j1 c N (lo:=lo) (ex:=ex) h hw h0 hu Z (T.s (T.s (T.s (T.s .leaf 0 (.sl id 1 d lo ex 1)) 4 (.int .i64 (e:Int))) 12 (.int .u32 (u:Int))) 99 (.bool false)) (by simp[T.get_set]) (by simp[T.get_set]) (by simp[T.get_set])) fun q=>?_
  simp only[zA9,zA f0,zA f1,zA f4]
  rw[t_u32 u (by omega)]
  simp only[zi,e1,zD]
 ·obtain⟨e,rfl⟩:∃ j,e=j+4:=⟨e-4,by omega⟩
  have hu3:u / 10000<10 ^ e:=by rw[Nat.div_lt_iff_lt_mul (by omega)];rw[Nat.pow_add]at hu;exact hu
  obtain⟨H1,H2,a1,a2,a3,a4⟩:=FB.pair (e:=e+2) h hw Z
  obtain⟨H3,H4,b1,b2,b3,b4⟩:=a3.pair a4.wf Z
  rw[Nat.div_div_eq_div_mul]at b3
  have w1:u % 10000 % 100=u % 100:=by omega
  have w2:u % 10000 / 100=u / 100 % 100:=by omega
  have r1:u % 100<100:=Nat.mod_lt _ (by omega)
  have r2:u / 100 % 100<100:=Nat.mod_lt _ (by omega)
  have e1:decide (Int.ofNat 4<=((e+4:Nat):Int))=true:=decide_eq_true (by have:Int.ofNat 4=4:=rfl;omega)
  have i1:wr .i64 (((e+4:Nat):Int)-Int.ofNat 1)=((e+2+1:Nat):Int):=by rw[sbI (by omega) (by omega)];rfl
  have i2:wr .i64 (((e+4:Nat):Int)-Int.ofNat 2)=((e+2:Nat):Int):=by rw[sbI (by omega) (by omega)];rfl
  have i3:wr .i64 (((e+4:Nat):Int)-Int.ofNat 3)=((e+1:Nat):Int):=by rw[sbI (by omega) (by omega)];rfl
  have i4:wr .i64 (((e+4:Nat):Int)-Int.ofNat 4)=(e:Int):=by rw[sbI (by omega) (by omega)];rfl
  have p1:=zOB id d lo ex (i:=e+2+1) (by omega)
  have p2:=zOB id d lo ex (i:=e+2) (by omega)
  have p3:=zOB id d lo ex (i:=e+1) (by omega)
  have p4:=zOB id d lo ex (i:=e) (by omega)
  refine FBR.step (chg1 a4 b4) (fb_j1 c N (lo:=lo) (ex:=ex) b3 b4.wf (by omega) hu3 Z (T.s (T.s (T.s (T.s (T.s (T.s .leaf 0 (.sl id 1 d lo ex 1)) 4 (.int .i64 ((e+4:Nat):Int))) 12 (.int .u32 ((u / 10000:Nat):Int))) 136 (.int .i64 ((e+4:Nat):Int))) 137 (.int .i64 (e:Int))) 4 (.int .i64 (e:Int))) (by simp[T.get_set]) (by simp[T.get_set]) (by simp[T.get_set])) fun q=>?_
  simp only[zA9,zA f0,zA f1,zA f4]
  rw[t_u32 u (by omega)]
  simp only[zi,e1,zF]
  rw[b_rem u 10000 (by omega),zPV u 10000 (by omega) (by omega),zPV (u % 10000) 100 (by omega) (by omega),w2,zN4 _ r2,b_rem (u % 10000) 100 (by omega),w1,zN4 _ r1]
  simp only[zAA .i64,i1,i2,i3,i4]
  rw[zNw _ (by omega),zOX,pr_lo _ r1,pr_hi _ r1]
  simp only[zB,p1,p2,a1,a2,zN]
  rw[zNw _ (by omega),pr_lo _ r2,pr_hi _ r2]
  simp only[zB,p3,p4,b1,b2,zN]
theorem fb_l3 (c:zG)(N:Nat){id d n lo:Nat}{ex:Option Nat}:∀ (z e u:Nat) (H:Heap) (Z:Tape) (fr:T V) (m:Nat),e<=z->FB H id d n e u->WF H->u<10 ^ e->u<18446744073709551616->z<m->fr.get 0=some (.sl id 1 d lo ex 1)->fr.get 4=some (.int .i64 (e:Int))->fr.get 1=some (.int .u64 (u:Int)) ->
  ∃ e' u' H',FB H' id d n e' u'/\e' < 8/\u' < 10 ^ e'/\Chg (fun i=>i=id) H H'/\∀ k,zq (zAm c N) m ⟨fr,H⟩ Z k=k (.exit 0) ⟨(T.s (T.s (T.s .leaf 0 (.sl id 1 d lo ex 1)) 1 (.int .u64 (u':Int))) 4 (.int .i64 (e':Int))),H'⟩ Z:=by
 intro z
 induction z with
 | zero =>
  intro e u H Z fr m he h hw hu hb hm f0 f4 f1
  obtain rfl:e=0:=by omega
  obtain⟨m,rfl⟩:∃ j,m=j+1:=⟨m-1,by omega⟩
  have e1:decide (Int.ofNat 8<=((0:Nat):Int))=false:=rfl
  refine⟨0,u,H,h,by omega,hu,Chg.refl hw,fun k=>?_⟩
  rw[zI]
  simp only[zAm,zA f0,zA f1,zA f4,zi,e1,zD]
  rfl
 | succ z ih =>
  intro e u H Z fr m he h hw hu hb hm f0 f4 f1
  obtain⟨m,rfl⟩:∃ j,m=j+1:=⟨m-1,by omega⟩
  have hd:e<=d/\d<=20:=by obtain⟨_,_,_,_,h3,h4,_⟩:=h;exact⟨h3,h4⟩
  by_cases h0:e<8
  ·have e1:decide (Int.ofNat 8<=(e:Int))=false:=decide_eq_false (by have:Int.ofNat 8=8:=rfl;omega)
   refine⟨e,u,H,h,h0,hu,Chg.refl hw,fun k=>?_⟩
   rw[zI]
   simp only[zAm,zA f0,zA f1,zA f4,zi,e1,zD]
   rfl
  ·obtain⟨e,rfl⟩:∃ j,e=j+8:=⟨e-8,by omega⟩
   have hu3:u / 100000000<10 ^ e:=by rw[Nat.div_lt_iff_lt_mul (by omega)];rw[Nat.pow_add]at hu;exact hu
   obtain⟨H1,H2,a1,a2,a3,a4⟩:=FB.pair (e:=e+6) h hw Z
   obtain⟨H3,H4,b1,b2,b3,b4⟩:=FB.pair (e:=e+4) a3 a4.wf Z
   obtain⟨H5,H6,c1,c2,c3,c4⟩:=FB.pair (e:=e+2) b3 b4.wf Z
   obtain⟨H7,H8,d1,d2,d3,d4⟩:=FB.pair (e:=e) c3 c4.wf Z
   have x3:u / 100 / 100=u / 10000:=Nat.div_div_eq_div_mul u 100 100
   have x4:u / 10000 / 100=u / 1000000:=Nat.div_div_eq_div_mul u 10000 100
   have x5:u / 1000000 / 100=u / 100000000:=Nat.div_div_eq_div_mul u 1000000 100
   rw[x3]at c1 c2 d1 d2 d3
   rw[x4]at d1 d2 d3
   rw[x5]at d3
   have w1:u % 100000000 % 10000 % 100=u % 100:=by omega
   have w2:u % 100000000 % 10000 / 100=u / 100 % 100:=by omega
   have w3:u % 100000000 / 10000 % 100=u / 10000 % 100:=by omega
   have w4:u % 100000000 / 10000 / 100=u / 1000000 % 100:=by omega
   have r1:u % 100<100:=Nat.mod_lt _ (by omega)
   have r2:u / 100 % 100<100:=Nat.mod_lt _ (by omega)
   have r3:u / 10000 % 100<100:=Nat.mod_lt _ (by omega)
   have r4:u / 1000000 % 100<100:=Nat.mod_lt _ (by omega)
   have e1:decide (Int.ofNat 8<=((e+8:Nat):Int))=true:=decide_eq_true (by have:Int.ofNat 8=8:=rfl;omega)
   have i1:wr .i64 (((e+8:Nat):Int)-Int.ofNat 1)=((e+6+1:Nat):Int):=by rw[sbI (by omega) (by omega)];rfl
   have i2:wr .i64 (((e+8:Nat):Int)-Int.ofNat 2)=((e+6:Nat):Int):=by rw[sbI (by omega) (by omega)];rfl
   have i3:wr .i64 (((e+8:Nat):Int)-Int.ofNat 3)=((e+4+1:Nat):Int):=by rw[sbI (by omega) (by omega)];rfl
   have i4:wr .i64 (((e+8:Nat):Int)-Int.ofNat 4)=((e+4:Nat):Int):=by rw[sbI (by omega) (by omega)];rfl
   have i5:wr .i64 (((e+8:Nat):Int)-Int.ofNat 5)=((e+2+1:Nat):Int):=by rw[sbI (by omega) (by omega)];rfl
   have i6:wr .i64 (((e+8:Nat):Int)-Int.ofNat 6)=((e+2:Nat):Int):=by rw[sbI (by omega) (by omega)];rfl
   have i7:wr .i64 (((e+8:Nat):Int)-Int.ofNat 7)=((e+1:Nat):Int):=by rw[sbI (by omega) (by omega)];rfl
   have i8:wr .i64 (((e+8:Nat):Int)-Int.ofNat 8)=(e:Int):=by rw[sbI (by omega) (by omega)];rfl
   have p1:=zOB id d lo ex (i:=e+6+1) (by omega)
   have p2:=zOB id d lo ex (i:=e+6) (by omega)
   have p3:=zOB id d lo ex (i:=e+4+1) (by omega)
   have p4:=zOB id d lo ex (i:=e+4) (by omega)
   have p5:=zOB id d lo ex (i:=e+2+1) (by omega)
   have p6:=zOB id d lo ex (i:=e+2) (by omega)
   have p7:=zOB id d lo ex (i:=e+1) (by omega)
   have p8:=zOB id d lo ex (i:=e) (by omega)
   have hm8:u % 100000000<100000000:=Nat.mod_lt _ (by omega)
   obtain⟨e',u',H',k1,k2,k3,k4,k5⟩:=ih e (u / 100000000) H8 Z (T.s (T.s (T.s (T.s (T.s (T.s .leaf 0 (.sl id 1 d lo ex 1)) 1 (.int .u64 ((u / 100000000:Nat):Int))) 4 (.int .i64 ((e+8:Nat):Int))) 94 (.int .i64 ((e+8:Nat):Int))) 95 (.int .i64 (e:Int))) 4 (.int .i64 (e:Int))) m (by omega) d3 d4.wf hu3 (by omega) (by omega) (by simp[T.get_set]) (by simp[T.get_set]) (by simp[T.get_set])
   refine⟨e',u',H',k1,k2,k3,chg1 a4 (chg1 b4 (chg1 c4 (chg1 d4 k4))),fun k=>?_⟩
   rw[zI]
   simp only[zAm,zA f0,zA f1,zA f4,zi,e1,zF]
   rw[b_rem u 100000000 (by omega),t_u32 _ (by omega),b_quo64 u 100000000 (by omega) hb,zPV _ 10000 (by omega) (by omega),b_rem _ 10000 (by omega),zPV _ 100 (by omega) (by omega),w2,zN4 _ r2,b_rem _ 100 (by omega),w1,zN4 _ r1,zPV _ 100 (by omega) (by omega),w4,zN4 _ r4,b_rem _ 100 (by omega),w3,zN4 _ r3]
   simp only[zAA .i64,i1,i2,i3,i4,i5,i6,i7,i8]
   rw[zNw _ (by omega),zOX,pr_lo _ r1,pr_hi _ r1]
   simp only[zB,p1,p2,a1,a2,zN]
   rw[zNw _ (by omega),pr_lo _ r2,pr_hi _ r2]
   simp only[zB,p3,p4,b1,b2,zN]
   rw[zNw _ (by omega),pr_lo _ r3,pr_hi _ r3]
   simp only[zB,p5,p6,c1,c2,zN]
   rw[zNw _ (by omega),pr_lo _ r4,pr_hi _ r4]
   simp only[zB,p7,p8,d1,d2,zN,seqK]
   exact k5 k
theorem zIq (c:zG){N:Nat}(hN:100<=N){id d n lo:Nat}{ex:Option Nat}{cells:List V}{H:Heap}(hw:WF H)(hB:Bx H id cells)(hl:cells.length=24)(hd:d<=20)(hn:n<10 ^ d)(hb:n<18446744073709551616)(Z:Tape) :
  FBR (zCA c N (.sl id 1 d lo ex 1) (.int .u64 (n:Int))) id d n H Z:=by
 have h:FB H id d n d n:=⟨cells,[],hB,hl,Nat.le_refl _,hd,by simp,by simp[bv]⟩
 have pl:pLen [.sl id 1 d lo ex 1]=some (.int .i64 (d:Int)):=rfl
 obtain⟨e',u',H',k1,k2,k3,k4,k5⟩:=fb_l3 c N (lo:=lo) (ex:=ex) d d n H Z (T.s (T.s (T.s .leaf 0 (.sl id 1 d lo ex 1)) 1 (.int .u64 (n:Int))) 4 (.int .i64 (d:Int))) N nl h hw hn hb (by omega) (by simp[T.get_set]) (by simp[T.get_set]) (by simp[T.get_set])
 refine FBR.step k4 (fb_j0 c N (lo:=lo) (ex:=ex) k1 k4.wf k2 k3 Z (T.s (T.s (T.s .leaf 0 (.sl id 1 d lo ex 1)) 1 (.int .u64 (u':Int))) 4 (.int .i64 (e':Int))) (by simp[T.get_set]) (by simp[T.get_set]) (by simp[T.get_set])) fun q=>?_
 simp only[zCA,pl,zB]
 rw[k5]
 simp only[zW,Nat.beq_refl,cond_true,seqK]
end Go.Am.X

