/- The abstract machine, printed functions of the program, and what they are shown to be. -/
import Derived.Test.YtejpgcemblankaaGreatDoorCFRL7
import Derived.Test.YtejpgcemblankaaGreatDoorCFRL4
import Derived.Test.YtejpgcemblankaaGreatDoorCFRL1
import Derived.Test.YtejpgcemblankaaGreatDoorCFRL3
import Derived.Test.YtejpgcemblankaaGreatDoorCFRM4
set_option linter.unusedSimpArgs false
set_option linter.unusedVariables false
set_option linter.unusedSectionVars false
set_option maxRecDepth 100000
namespace Go.Am.X
def ageN:Bs:=[97,103,101]
def etagN:Bs:=[101,116,97,103]
def lastN:Bs:=[108,97,115,116,45,109,111,100,105,102,105,101,100]
def zPt (ask:List Hd)(x:CRow)(now:Int):Bool:=zM1 x.hs x.sto now && !(zA8 ask).2.1
theorem zMS (cc:zC)(N:Nat)(hFi:FiOk cc)(hU:UseOk cc)(hCp:CopOk cc)(hAg:AgeOkC cc)(hFr:FrsOkC cc)(hSe:SetOkC cc)(hG:zSZ cc)(hP:ParsOk cc){P D E:Nat->Prop}{H:Heap}{c:Nat}{rows:List CRow}{puts:Int}(hc:CacM P D H c rows puts)(hw:WF H)(hl:rows.length<=1000)(hok:∀ r ∈ rows,OkVs r)(url:Bs){ask:List Hd}(ham:Small ask){av:V}
  (hE:∀ i,E i->i<H.size/\¬ P i/\i≠c) (ha:DatP E H 2 av ask.length (hcells ask)) {x:CRow} (hn:zNU url ask rows=some x) (hxs:Small x.hs) (hxl:x.hs.length<1000000) (hxn:∀ h ∈ x.hs,h.1.length<=140737488355328) (hxb:x.bd.length<=100000000) (he:(sel etagN x.hs).length=0) (hm:(sel lastN x.hs).length=0)
  {now:Int} (hin:InI now) (his:InI x.sto) {s:Bs} (hsl:s.length<=100) (hF:∀ H',Chg (fun i=>P i∨i=c) H H'->∀ Z q,cc zD [.int .i64 (ageT x.hs x.sto now),.int .i64 (.ofNat 10)] H' Z q=q (.str s) H' Z) (Z:Tape) :
  ∃ P' H' Z' hvF bvF nh ch,CacM P' D H' c (useT x rows) puts/\(∀ i,i<H.size->P' i->P i)/\BodP (fun i=>H.size<=i/\¬ P' i/\i<H'.size) H' bvF x.bd.length x.bd/\HvBv P' D H H' hvF nh ch bvF x.bd.length x.bd/\Chg (fun i=>P i∨i=c) H H' /\
   ∀ q,zBr cc N (.ptr c 0) (.str url) av (.int .i64 now) H Z q=q (.agg [.int .i64 (if zPt ask x now=true then 2 else 1),.int .i64 x.st,hvF,bvF,.nils]) H' Z':=by
 have hcl:c<H.size:=by obtain⟨v,h1,_⟩:=hc.bx;exact h1.lt hw
 have e0:zB2 [(.int .i64 (.ofNat 0)),(.int .i64 (.ofNat 0)),.nils,.nils,.nils] [] H Z=some (.ptr H.size 0,H.new [(.int .i64 (.ofNat 0)),(.int .i64 (.ofNat 0)),.nils,.nils,.nils] 5 true,Z):=rfl
 have g1:=Gr.new hw [(.int .i64 (.ofNat 0)),(.int .i64 (.ofNat 0)),.nils,.nils,.nils] 5 true
 have b1:Bx (H.new [(.int .i64 (.ofNat 0)),(.int .i64 (.ofNat 0)),.nils,.nils,.nils] 5 true) H.size [(.int .i64 (.ofNat 0)),(.int .i64 (.ofNat 0)),.nils,.nils,.nils]:=Bx.new H _ 5 true (by simp)
 have z1:(H.new [(.int .i64 (.ofNat 0)),(.int .i64 (.ofNat 0)),.nils,.nils,.nils] 5 true).size=H.size+1:=rfl
 generalize H.new [(.int .i64 (.ofNat 0)),(.int .i64 (.ofNat 0)),.nils,.nils,.nils] 5 true=H1 at e0 g1 b1 z1
 obtain⟨H2,Z2,g2,mm,k2⟩:=hFi (hc.gr hw g1) g1.wf hl hok url ham ⟨(ha.gr hw g1).rd,(ha.gr hw g1).src⟩ Z
 have hxm:=mm x hn
 rw[hn]at k2
 have g12:=g1.trans g2 g1.size
 have s12:=g12.size
 have s2a:=g2.size
 have c2:=hc.gr hw g12
 obtain⟨P',H3,Z3,c3,hPs,q3,k3⟩:=hU c2 g12.wf hl x (c2.mem x hxm) (c2.pr x hxm).1 (c2.pr x hxm).2.1 (c2.pr x hxm).2.2 Z2
 have s3:=q3.size
 have x3:=c3.mem x (List.mem_append.2 (.inr (List.mem_singleton.2 rfl)))
 have nQ:∀ j,H.size<=j->¬(P j∨j=c):=fun j h1 h=>h.elim (fun h=>by have:=hc.pl j h;omega) (fun h=>by omega)
 have b3:Bx H3 H.size _:=(zE6 b1 g1.wf g2).chg g12.wf q3 (nQ _ nl)
 have lr:zBA 3 [.ptr x.id (0+2)] H3=some (.agg [.int .i64 x.st,x.hv,x.bv]):=zAw x3.bx.bx.cells (by simp[CRow.cells])
 obtain⟨hv',bv',H4,Z4,m,m1,m2,y1,y2,g4,k4⟩:=hCp x.st x.hs (by omega) x.bd hxb q3.wf ⟨x3.hs.rd,x3.hs.src⟩ x3.bd.rd x3.bd.src Z3
 have s4:=g4.size
 obtain⟨sv1,sv2⟩:=y1.scal
 obtain⟨sw1,sw2⟩:=y2.scal
 have pb:zC7 [(.int .i64 (.ofNat 0)),(.int .i64 (.ofNat 0)),.nils,.nils,.nils] [(0,1),(1,3)] [(.int .i64 (.ofNat 2)),.agg [.int .i64 x.st,hv',bv']]=some (.agg [.int .i64 (.ofNat 2),.int .i64 x.st,hv',bv',.nils]):=rfl
 obtain⟨H5,H6,a1,a2,b6,g6,lt6⟩:=boxN g4.wf 5 [(.int .i64 (.ofNat 0)),(.int .i64 (.ofNat 0)),.nils,.nils,.nils] [.int .i64 (.ofNat 2),.int .i64 x.st,hv',bv',.nils] rfl rfl (by omega) (by show(true && (true && (hv'.scal && (bv'.scal && (true && true)))))=true;rw[sv2,sw2];rfl) Z4
 have s6:=g6.size
 have q03:Chg (fun i=>P i∨i=c) H H3:=(g12.chg (P:=fun i=>P i∨i=c)).trans q3 fun _ _ h=>h
 have q06:Chg (fun i=>P i∨i=c) H H6:=(q03.trans (g4.chg (P:=fun _=>False)) fun _ _ h=>h.elim).trans (g6.chg (P:=fun _=>False)) fun _ _ h=>h.elim
 have g36:=g4.trans g6 g4.size
 have x6:=x3.chg q3.wf (g36.chg (P:=fun _=>False)) (fun _ _ _=>not_false) not_false
 have c6:=c3.gr q3.wf g36
 have l6h:zM [.ptr x.id (0+2+1)] H6=some x.hv:=zR x6.bx.bx.cells rfl
 have l6s:zM [.ptr x.id (0+5)] H6=some (.int .i64 x.sto):=zR x6.bx.bx.cells rfl
 have kA:=hAg hxs his hin (lv:=x.hv) (H:=H6) ⟨x6.hs.rd,x6.hs.src⟩ Z4
 have kF:=hF H6 q06 Z4
 obtain⟨r,H7,Z7,o7,g7,k7⟩:=hSe (n:=ageN) (v:=s) hxl hxn (by decide) (by omega) (lv:=x.hv) g6.wf ⟨x6.hs.rd,x6.hs.src⟩ Z4
 have s7:=g7.size
 have b0_7:Bx H7 H.size [(.int .i64 (.ofNat 0)),(.int .i64 (.ofNat 0)),.nils,.nils,.nils]:=zE6 (zE6 (zE6 b3 q3.wf g4) g4.wf g6) g6.wf g7
 have b1_7:=zE6 b6 g6.wf g7
 have x7:=x6.chg g6.wf (g7.chg (P:=fun _=>False)) (fun _ _ _=>not_false) not_false
 have c7:=c6.gr g6.wf g7
 have q07:Chg (fun i=>P i∨i=c) H H7:=q06.trans (g7.chg (P:=fun _=>False)) fun _ _ h=>h.elim
 have y1_7:=((y1.gr g4.wf g6).gr g6.wf g7)
 have y2_7:BodP (fun i=>m<=i/\i<H4.size) H7 bv' x.bd.length x.bd:=(y2.chg g4.wf (g6.chg (P:=fun _=>False)) (fun _ _ _=>not_false)).chg g6.wf (g7.chg (P:=fun _=>False)) (fun _ _ _=>not_false)
 have hP3:∀ i,P' i->i<H3.size:=c3.pl
 have hb1:H.size≠H4.size:=by omega
 have nx0:∀ {j},H.size<=j->x.id≠j:=fun h e=>by have:=(hc.mem x hxm).bx.bx.lt hw;omega
 have tail:∀ (H8:Heap) (hvF:V) (nh:Nat) (ch:List V) (W:Nat->Prop),nh<=2000000->WF H8->hvF.cells=[hvF]/\hvF.scal=true->Bx H8 H.size [(.int .i64 (.ofNat 0)),(.int .i64 (.ofNat 0)),.nils,.nils,.nils]->Bx H8 H4.size [.int .i64 (.ofNat 2),.int .i64 x.st,hvF,bv',.nils]->RowM D H8 x->CacM P' D H8 c (useT x rows) puts->GenL W H8 2 hvF nh ch->(∀ i,W i->H3.size<=i/\i≠H4.size/\i<H8.size/\¬(m<=i/\i<H4.size))->BodP (fun i=>m<=i/\i<H4.size) H8 bv' x.bd.length x.bd->Chg (fun i=>P i∨i=c) H H8 ->
   ∃ H' Z',CacM P' D H' c (useT x rows) puts/\BodP (fun i=>H.size<=i/\¬ P' i/\i<H'.size) H' bv' x.bd.length x.bd/\HvBv P' D H H' hvF nh ch bv' x.bd.length x.bd/\Chg (fun i=>P i∨i=c) H H' /\
    ∀ (fr:T V) q,fr.get 2=some av->fr.get 3=some (.int .i64 now)->fr.get 8=some (.ptr H.size 0)->fr.get 9=some (rpV x)->fr.get 10=some (.ptr H4.size 0)->fr.get 11=some x.hv ->
     zBh cc N q ⟨fr,H8⟩ Z7=q (.agg [.int .i64 (if zPt ask x now=true then 2 else 1),.int .i64 x.st,hvF,bv',.nils]) H' Z':=by
  intro H8 hvF nh ch W hnh w8 fsc t0 t1 x8 c8 y8 hW z8 q08
  have s8:=q08.size
  let Q:Nat->Prop:=fun i=>i=H.size∨i=H4.size
  have h38:H4.size<H8.size:=t1.lt w8
  have fin:∀ (H9:Heap),Chg Q H8 H9->H9.size=H8.size->CacM P' D H9 c (useT x rows) puts/\BodP (fun i=>H.size<=i/\¬ P' i/\i<H9.size) H9 bv' x.bd.length x.bd/\HvBv P' D H H9 hvF nh ch bv' x.bd.length x.bd/\Chg (fun i=>P i∨i=c) H H9:=by
   intro H9 hq hs9
   refine⟨?_,?_,?_,?_⟩
   ·obtain⟨v,h1,h2⟩:=c8.bx
    have nP:∀ i,i<H8.size->P' i->¬ Q i:=by
     intro i _ h k
     have h3:=hP3 i h
     rcases k with e | e
     ·have:=hPs i (by omega) h
      have:=hc.pl i this
      omega
     ·omega
    have nD:∀ i,i<H8.size->D i->¬ Q i:=fun i _ h k=>by have:=hc.dl i h;exact k.elim (fun e=>by omega) (fun e=>by omega)
    refine⟨⟨v,h1.chg w8 hq (fun k=>k.elim (fun e=>by omega) (fun e=>by omega)),GenL.chg h2 w8 hq nP⟩,fun r hr=>(c8.mem r hr).chg w8 hq nD ?_,c8.sep,fun i h=>by rw[hs9];exact c8.pl i h,fun i h=>by rw[hs9];exact c8.dl i h,c8.pc,c8.dc,c8.pr⟩
    have hrr:r ∈ rows:=by
     rcases List.mem_append.1 hr with h | h
     ·exact(List.mem_filter.1 h).1
     ·rw[List.mem_singleton.1 h];exact hxm
    have:=(hc.mem r hrr).bx.bx.lt hw
    exact fun k=>k.elim (fun e=>by omega) (fun e=>by omega)
   ·exact(z8.chg w8 hq (fun i _ h k=>k.elim (fun e=>by omega) (fun e=>by omega))).weaken hq.wf (fun i hi h=>⟨by omega,fun hp=>by have:=hP3 i hp;omega,hi⟩)
   ·refine⟨m,H4.size,hnh,by omega,by omega,fun i h1 h2=>⟨fun hp=>by have:=hP3 i hp;omega,fun hd=>by have:=hc.dl i hd;omega⟩,z8.chg w8 hq (fun i _ h k=>k.elim (fun e=>by omega) (fun e=>by omega)),?_⟩
    exact(GenL.chg y8 w8 hq (fun i _ h k=>k.elim (fun e=>by have:=(hW i h).1;omega) (fun e=>(hW i h).2.1 e))).weaken hq.wf (fun i hi h=>⟨by have:=(hW i h).1;omega,hi,fun hp=>by have:=hP3 i hp;have:=(hW i h).1;omega,fun hd=>by have:=hc.dl i hd;have:=(hW i h).1;omega,(hW i h).2.2.2⟩)
   ·exact q08.trans hq fun i hi k=>k.elim (fun e=>by omega) (fun e=>by omega)
  have l8s:zM [.ptr x.id (0+5)] H8=some (.int .i64 x.sto):=zR x8.bx.bx.cells rfl
  have nckx:zBB [rpV x]=some (.ptr x.id 0):=rfl
  have kFr:=hFr hxs his hin (lv:=x.hv) (H:=H8) ⟨x8.hs.rd,x8.hs.src⟩ Z7
  have ha8:=ha.chg hw q08 (fun i _ h k=>k.elim (hE i h).2.1 (hE i h).2.2)
  have kP:=hP ham (lv:=av) (H:=H8) ⟨ha8.rd,ha8.src⟩ Z7
  have pf1:zKk 1 1 false [.agg (ctlC (zA8 ask))]=some (.bool (zA8 ask).2.1):=rfl
  by_cases hfc:zPt ask x now=true
  ·obtain⟨H9,u1,u2,u3⟩:=t0.eStore w8 0 (.agg [.int .i64 (.ofNat 2),.int .i64 x.st,hvF,bv',.nils]) 5 rfl (by simp) (by omega) (by show(true && (true && (hvF.scal && (bv'.scal && (true && true)))))=true;rw[fsc.2,sw2];rfl) Z7
   have u2':Bx H9 H.size [.int .i64 (.ofNat 2),.int .i64 x.st,hvF,bv',.nils]:=u2
   have l8:zBA 5 [.ptr H4.size 0] H8=some (.agg [.int .i64 (.ofNat 2),.int .i64 x.st,hvF,bv',.nils]):=zAw t1.cells (by simp)
   have l9:zBA 5 [.ptr H.size 0] H9=some (.agg [.int .i64 2,.int .i64 x.st,hvF,bv',.nils]):=zAw u2'.cells (by simp)
   have hres:results ⟨(T.s .leaf 8 (.ptr H.size 0)),H9⟩ [(.cell 8 (some 5))]=some (.agg [.int .i64 2,.int .i64 x.st,hvF,bv',.nils]):=by
    simp only[results,zMG,zRY,T.get_set_same,zHL,zPE,l9]
   obtain⟨f1,f2,f3,f4⟩:=fin H9 (u3.chg (P:=Q) (.inl rfl)) u3.size
   refine⟨H9,Z7,f1,f2,f3,f4,fun fr q g2' g3' g8' g9' g10' g11'=>?_⟩
   rw[if_pos hfc]
   unfold zPt at hfc
   rw[Bool.and_eq_true]at hfc
   simp only[zBh,zA g2',zA g3',zA g8',zA g9',zA g10',zA g11',nckx,zF,zJ,l8s,kFr,hfc.1,zCs,retK,zh,kP,pf1,zCQ,hfc.2,zS,cond_true,zQ,l8,u1,hres]
  ·have hfc':zPt ask x now=false:=by simpa using hfc
   rw[if_neg hfc]
   obtain⟨H9,u1,u2,u3⟩:=t1.eStore w8 0 (.int .i64 (.ofNat 1)) 1 rfl (by simp) (by omega) rfl Z7
   have u2':Bx H9 H4.size [.int .i64 (.ofNat 1),.int .i64 x.st,hvF,bv',.nils]:=u2
   have t0':=t0.only u3 hb1
   have x9:RdH H9 x.hv x.hs:=by
    have:=x8.hs.chg w8 (u3.chg (P:=Q) (.inr rfl)) (fun i _ h k=>by have:=hc.dl i h;exact k.elim (fun e=>by omega) (fun e=>by omega))
    exact⟨this.rd,this.src⟩
   have kG1:=hG hxs (name:=etagN) (by decide) x9 Z7
   have kG2:=hG hxs (name:=lastN) (by decide) x9 Z7
   rw[he]at kG1
   rw[hm]at kG2
   have d0:decide (0<0)=false:=rfl
   rw[d0]at kG1 kG2
   obtain⟨H10,v1,v2,v3⟩:=t0'.eStore u3.wf 0 (.agg [.int .i64 (.ofNat 1),.int .i64 x.st,hvF,bv',.nils]) 5 rfl (by simp) (by omega) (by show(true && (true && (hvF.scal && (bv'.scal && (true && true)))))=true;rw[fsc.2,sw2];rfl) Z7
   have v2':Bx H10 H.size [.int .i64 (.ofNat 1),.int .i64 x.st,hvF,bv',.nils]:=v2
   have l9:zBA 5 [.ptr H4.size 0] H9=some (.agg [.int .i64 (.ofNat 1),.int .i64 x.st,hvF,bv',.nils]):=zAw u2'.cells (by simp)
   have l10:zBA 5 [.ptr H.size 0] H10=some (.agg [.int .i64 1,.int .i64 x.st,hvF,bv',.nils]):=zAw v2'.cells (by simp)
   have hres:results ⟨(T.s .leaf 8 (.ptr H.size 0)),H10⟩ [(.cell 8 (some 5))]=some (.agg [.int .i64 1,.int .i64 x.st,hvF,bv',.nils]):=by
    simp only[results,zMG,zRY,T.get_set_same,zHL,zPE,l10]
   obtain⟨f1,f2,f3,f4⟩:=fin H10 ((u3.chg (P:=Q) (.inr rfl)).trans (v3.chg (P:=Q) (.inl rfl)) fun _ _ h=>h) (by rw[v3.size,u3.size])
   refine⟨H10,Z7,f1,f2,f3,f4,fun fr q g2' g3' g8' g9' g10' g11'=>?_⟩
   have x0:∀ a b:V,zH 0 [.tup [a,b]]=some a:=fun _ _=>rfl
   have x1:∀ a b:V,zH 1 [.tup [a,b]]=some b:=fun _ _=>rfl
   have be:bs [101,116,97,103]=etagN:=rfl
   have bl:bs [108,97,115,116,45,109,111,100,105,102,105,101,100]=lastN:=rfl
   cases hf:zM1 x.hs x.sto now with
   | false =>
    rw[hf]at kFr
    simp only[zBh,zA g2',zA g3',zA g8',zA g9',zA g10',zA g11',nckx,zF,Nat.add_zero,Nat.zero_add,zJ,show zM [.ptr x.id 5] H8=some (.int .i64 x.sto)from l8s,kFr,zBP,zCo,zS,cond_false,zO,u1,zh,be,kG1,x0,x1,zDl,zV,↓reduceIte,Nat.reduceEqDiff,bl,kG2,zDc,l9,v1,hres]
   | true =>
    rw[hf]at kFr
    have hnc:(!(zA8 ask).2.1)=false:=by unfold zPt at hfc';rw[hf,Bool.true_and]at hfc';exact hfc'
    simp only[zBh,zA g2',zA g3',zA g8',zA g9',zA g10',zA g11',nckx,zF,Nat.add_zero,Nat.zero_add,zJ,show zM [.ptr x.id 5] H8=some (.int .i64 x.sto)from l8s,kFr,zCs,retK,kP,pf1,zCQ,hnc,zS,cond_true,zO,u1,zh,be,kG1,x0,x1,zDl,zV,↓reduceIte,Nat.reduceEqDiff,bl,kG2,zDc,l9,v1,hres]
 have x0:∀ a b:V,zH 0 [.tup [a,b]]=some a:=fun _ _=>rfl
 have x1:∀ a b:V,zH 1 [.tup [a,b]]=some b:=fun _ _=>rfl
 have en:lPeq false [rpV x,.nilp] H2=some (.bool false):=rfl
 have eo:outV (some x)=rpV x:=rfl
 have nckx:zBB [rpV x]=some (.ptr x.id 0):=rfl
 have ba:bs [97,103,101]=ageN:=rfl
 by_cases hse:setE ageN s x.hs=0
 ·have ow:=o7 hse
  obtain⟨os1,os2⟩:r.cells=[r]/\r.scal=true:=by
   rcases ow with⟨rfl,_⟩ | ⟨_,_,_,_,_,_,_,_,rfl,_⟩ <;> exact⟨rfl,rfl⟩
  obtain⟨H8,v1,v2,v3⟩:=b1_7.eStore g7.wf 2 r 1 (by rw[os1];rfl) (by simp) (by omega) (by rw[os1];simp[os2]) Z7
  have v2':Bx H8 H4.size [.int .i64 (.ofNat 2),.int .i64 x.st,r,bv',.nils]:=by rw[os1]at v2;exact v2
  have ov:Chg (fun i=>i=H4.size) H7 H8:=v3.chg (P:=fun i=>i=H4.size) rfl
  have gr:GenL (fun i=>H6.size<=i/\i<H7.size) H8 2 r (setT ageN s x.hs).length (hcells (setT ageN s x.hs)):=(GenL.chg ((GenL.apd ow.apd).weaken g7.wf (Q:=fun i=>H6.size<=i/\i<H7.size) fun i hi h=>⟨h,hi⟩) g7.wf ov (fun i _ h e=>by omega))
  have c8:CacM P' D H8 c (useT x rows) puts:=by
   obtain⟨v,h1,h2⟩:=c7.bx
   refine⟨⟨v,h1.only v3 (by omega),GenL.chg h2 g7.wf ov (fun i _ h e=>by have:=hP3 i h;omega)⟩,fun r' hr=>(c7.mem r' hr).chg g7.wf ov (fun i _ h e=>by have:=hc.dl i h;omega) ?_,c7.sep,fun i h=>by rw[v3.size];exact c7.pl i h,fun i h=>by rw[v3.size];exact c7.dl i h,c7.pc,c7.dc,c7.pr⟩
   have hrr:r' ∈ rows:=by
    rcases List.mem_append.1 hr with h | h
    ·exact(List.mem_filter.1 h).1
    ·rw[List.mem_singleton.1 h];exact hxm
   have:=(hc.mem r' hrr).bx.bx.lt hw
   intro e;omega
  obtain⟨H',Z',f1,f2,f3,f4,f5⟩:=tail H8 r _ _ _ (by have:=setT_len ageN s x.hs;omega) v3.wf ⟨os1,os2⟩ (b0_7.only v3 hb1) v2' (x7.chg g7.wf ov (fun i _ h e=>by have:=hc.dl i h;omega) (nx0 (by omega))) c8 gr (fun i h=>⟨by omega,by omega,by rw[v3.size];exact h.2,fun k=>by omega⟩) (y2_7.chg g7.wf ov (fun i _ h e=>by omega)) (q07.trans ov fun i hi e=>by omega)
  refine⟨P',H',Z',r,bv',_,_,f1,fun i hi h=>hPs i (by omega) h,f2,f3,f4,fun q=>?_⟩
  have ee:((setE ageN s x.hs) == Int.ofNat 0)=true:=by rw[hse];rfl
  simp only[zBr,e0,zh,k2,en,eo,zJ,zO,k3,nckx,zF,lr,k4,pb,a1,a2,l6h,l6s,kA,kF,ba,k7,x0,x1,zAv,ee,zQ]
  have v1':eStore 1 [.ptr H4.size (0+1+1),r] H7 Z7=some (.tup [],H8,Z7):=v1
  simp only[v1',zh]
  exact f5 _ q (by simp[T.get_set]) (by simp[T.get_set]) (by simp[T.get_set]) (by simp[T.get_set]) (by simp[T.get_set]) (by simp[T.get_set])
 ·obtain⟨H',Z',f1,f2,f3,f4,f5⟩:=tail H7 hv' _ _ _ (by omega) g7.wf ⟨sv1,sv2⟩ b0_7 b1_7 x7 c7 y1_7 (fun i h=>⟨h.1,by omega,by omega,fun k=>by omega⟩) y2_7 q07
  refine⟨P',H',Z',hv',bv',_,_,f1,fun i hi h=>hPs i (by omega) h,f2,f3,f4,fun q=>?_⟩
  have ee:((setE ageN s x.hs) == Int.ofNat 0)=false:=by rw[beq_eq_false_iff_ne];exact hse
  simp only[zBr,e0,zh,k2,en,eo,zJ,zO,k3,nckx,zF,lr,k4,pb,a1,a2,l6h,l6s,kA,kF,ba,k7,x0,x1,zAv,ee]
  exact f5 _ q (by simp[T.get_set]) (by simp[T.get_set]) (by simp[T.get_set]) (by simp[T.get_set]) (by simp[T.get_set]) (by simp[T.get_set])
end Go.Am.X

namespace Go.Am.X
end Go.Am.X

namespace Go.Am.X
end Go.Am.X

namespace Go.Am.X
theorem dig_loop17 (c:zC)(N:Nat)(H:Heap)(k:KC):∀ (f n:Nat) (acc:Bs) (m:Nat) (fr:T V) (Z:Tape),n<10 ^ f->n<4611686018427387904->(acc≠[]∨0<f)->acc.length<1000-f->f<100->f<m ->
  fr.get 0=some (.int .i64 (n:Int))->fr.get 3=some (.str acc)->zAZ (zB7 c N) m ⟨fr,H⟩ Z k=k (.exit 0) ⟨T.s .leaf 3 (.str (digF f n acc)),H⟩ Z:=by
 intro f
 induction f with
 | zero =>
  intro n acc m fr Z hn hb ha hl hf hm f0 f3
  obtain⟨m,rfl⟩:∃ j,m=j+1:=⟨m-1,by omega⟩
  have hn0:n=0:=by simpa using hn
  subst hn0
  have hac:acc≠[]:=by rcases ha with h | h;exact h;omega
  have e1:decide (Int.ofNat 0<((0:Nat):Int))=false:=rfl
  have e2:(acc ==([]:Bs))=false:=beq_eq_false_iff_ne.2 hac
  rw[zI]
  simp only[zB7,zA f0,zA f3,zAV,e1,zD5,retK,zAU,zAs,zFU,e2,zK,zS,cond_false,zAN,seqK,digF]
 | succ f ih =>
  intro n acc m fr Z hn hb ha hl hf hm f0 f3
  obtain⟨m,rfl⟩:∃ j,m=j+1:=⟨m-1,by omega⟩
  rw[zI]
  have step:(0<n∨acc=[])->zAZ (zB7 c N) m ⟨(T.s (T.s (T.s (T.s (T.s .leaf 0 (.int .i64 (n:Int))) 3 (.str (UInt8.ofNat (48+n % 10)::acc))) 19 (.int .i64 (n:Int))) 20 (.int .i64 ((n / 10:Nat):Int))) 0 (.int .i64 ((n / 10:Nat):Int))),H⟩ Z k=k (.exit 0) ⟨T.s .leaf 3 (.str (digF (f+1) n acc)),H⟩ Z:=by
   intro h
   rw[ih (n / 10) (UInt8.ofNat (48+n % 10)::acc) m _ Z (by rw[Nat.pow_succ]at hn;omega) (by omega) (.inl (by simp)) (by simp;omega) (by omega) (by omega) (by simp[T.get_set]) (by simp[T.get_set])]
   have:(Nat.blt 0 n || acc.isEmpty)=true:=by
    rcases h with h | h
    ·have:Nat.blt 0 n=true:=by simp[Nat.blt];omega
     rw[this];rfl
    ·rw[h];simp
   simp only[digF,this,cond_true]
  have hr:(n:Int).tmod (Int.ofNat 10)=((n % 10:Nat):Int):=rfl
  have hq:(n:Int).tdiv (Int.ofNat 10)=((n / 10:Nat):Int):=rfl
  have e3:wr .i64 (((n % 10:Nat):Int)+Int.ofNat 1)=((n % 10+1:Nat):Int):=by
   rw[zEE (by simp;omega) (by simp;omega)];rfl
  have e4:wr .i64 ((n / 10:Nat):Int)=((n / 10:Nat):Int):=zEE (by omega) (by omega)
  have e5:zHf .add [UInt8.ofNat (48+n % 10)] acc=some (.str (UInt8.ofNat (48+n % 10)::acc)):=str_add (by simp;omega)
  by_cases h0:0<n
  ·have e1:decide (Int.ofNat 0<(n:Int))=true:=decide_eq_true (by simp;omega)
   simp only[zB7,zA f0,zA f3,zAV,e1,zCa,zK,zS,cond_true,zBC]
   rw[zPO _ _ _ (by decide),hr,ze,e3,dig_slice _ (Nat.mod_lt _ (by omega)),zK,zAs,e5,zK,bin_quo _ _ _ (by decide),hq,e4]
   exact step (.inl h0)
  ·have hn0:n=0:=by omega
   subst hn0
   have e1:decide (Int.ofNat 0<((0:Nat):Int))=false:=rfl
   by_cases hac:acc=[]
   ·have e2:(acc ==([]:Bs))=true:=beq_iff_eq.2 hac
    simp only[zB7,zA f0,zA f3,zAV,e1,zD5,retK,zAU,zAs,zFU,e2,zK,zS,cond_false,zBC]
    rw[zPO _ _ _ (by decide),hr,ze,e3,dig_slice _ (Nat.mod_lt _ (by omega)),zK,zAs,e5,zK,bin_quo _ _ _ (by decide),hq,e4]
    exact step (.inr hac)
   ·have e2:(acc ==([]:Bs))=false:=beq_eq_false_iff_ne.2 hac
    have:(Nat.blt 0 0 || acc.isEmpty)=false:=by
     cases acc with
     | nil=>exact absurd rfl hac
     | cons x l=>rfl
    simp only[zB7,zA f0,zA f3,zAV,e1,zD5,retK,zAU,zAs,zFU,e2,zK,zS,cond_false,zAN,seqK,digF,this]
theorem zPY (c:zC)(N:Nat)(hN:9223372036854775807<=N)(n:Nat)(hn:n<100000000)(H:Heap)(Z:Tape)(q:KV):zI4 c N (.int .i64 (n:Int)) H Z q=q (.str (dig n)) H Z:=by
 simp only[zI4]
 rw[dig_loop17 c N H _ 8 n [] N _ Z (by omega) (by omega) (.inr (by omega)) (by simp) (by omega) (by omega) (by simp[T.get_set]) (by simp[T.get_set])]
 simp only[zX,Nat.beq_refl,cond_true,seqK,zLy,zV,↓reduceIte]
 rfl
end Go.Am.X

namespace Go.Am.X
def pow10V:List V:=[.int .u64 1,.int .u64 10,.int .u64 100,.int .u64 1000,.int .u64 10000,.int .u64 100000,.int .u64 1000000,.int .u64 10000000,.int .u64 100000000,.int .u64 1000000000,.int .u64 10000000000,.int .u64 100000000000,.int .u64 1000000000000,.int .u64 10000000000000,.int .u64 100000000000000,.int .u64 1000000000000000,.int .u64 10000000000000000,.int .u64 100000000000000000,.int .u64 1000000000000000000,.int .u64 10000000000000000000]
def tabs:List (Option (List V)):=List.replicate 0 none++some pow10V::List.replicate (6-1-0) none
theorem zQK:zOd tabs=true:=by kernel_rfl
theorem tabs_len:tabs.length=6:=by kernel_rfl
theorem tabs_at {j:Nat}{cs:List V}(h:tabs[j]?=some (some cs)):j=0/\cs=pow10V:=by
 unfold tabs at h
 rw[List.getElem?_append]at h
 split at h
 ·rw[List.getElem?_replicate]at h;split at h <;> simp at h
 ·rename_i hj
  rw[List.length_replicate]at h hj
  cases hk:j-0 with
  | zero=>rw[hk]at h;simp at h;exact⟨by omega,h.symm⟩
  | succ k=>rw[hk]at h;rw[List.getElem?_cons_succ,List.getElem?_replicate]at h;split at h <;> simp at h
def FmtPre:List V->Prop
 | [.int .i64 n,.int .i64 b]=>0<=n/\n<1600/\b=10
 | _=>False
abbrev FmtG:List V->V
 | [.int .i64 n,_]=>.str (dig n.toNat)
 | _=>.tup []
theorem fmt_run0:(fun Z=>allA (List.range 50) fun n=>zCt (zCV zEG 100000) 40 zD [.int .i64 (Int.ofNat (0+n)),.int .i64 (.ofNat 10)] (start tabs) Z (isK (.str (dig (0+n)))))=fun _=>zEV:=by kernel_rfl
theorem fmt_run1:(fun Z=>allA (List.range 50) fun n=>zCt (zCV zEG 100000) 40 zD [.int .i64 (Int.ofNat (50+n)),.int .i64 (.ofNat 10)] (start tabs) Z (isK (.str (dig (50+n)))))=fun _=>zEV:=by kernel_rfl
theorem fmt_run2:(fun Z=>allA (List.range 50) fun n=>zCt (zCV zEG 100000) 40 zD [.int .i64 (Int.ofNat (100+n)),.int .i64 (.ofNat 10)] (start tabs) Z (isK (.str (dig (100+n)))))=fun _=>zEV:=by kernel_rfl
theorem fmt_run3:(fun Z=>allA (List.range 50) fun n=>zCt (zCV zEG 100000) 40 zD [.int .i64 (Int.ofNat (150+n)),.int .i64 (.ofNat 10)] (start tabs) Z (isK (.str (dig (150+n)))))=fun _=>zEV:=by kernel_rfl
theorem fmt_run4:(fun Z=>allA (List.range 50) fun n=>zCt (zCV zEG 100000) 40 zD [.int .i64 (Int.ofNat (200+n)),.int .i64 (.ofNat 10)] (start tabs) Z (isK (.str (dig (200+n)))))=fun _=>zEV:=by kernel_rfl
theorem fmt_run5:(fun Z=>allA (List.range 50) fun n=>zCt (zCV zEG 100000) 40 zD [.int .i64 (Int.ofNat (250+n)),.int .i64 (.ofNat 10)] (start tabs) Z (isK (.str (dig (250+n)))))=fun _=>zEV:=by kernel_rfl
theorem fmt_run6:(fun Z=>allA (List.range 50) fun n=>zCt (zCV zEG 100000) 40 zD [.int .i64 (Int.ofNat (300+n)),.int .i64 (.ofNat 10)] (start tabs) Z (isK (.str (dig (300+n)))))=fun _=>zEV:=by kernel_rfl
theorem fmt_run7:(fun Z=>allA (List.range 50) fun n=>zCt (zCV zEG 100000) 40 zD [.int .i64 (Int.ofNat (350+n)),.int .i64 (.ofNat 10)] (start tabs) Z (isK (.str (dig (350+n)))))=fun _=>zEV:=by kernel_rfl
theorem fmt_run8:(fun Z=>allA (List.range 50) fun n=>zCt (zCV zEG 100000) 40 zD [.int .i64 (Int.ofNat (400+n)),.int .i64 (.ofNat 10)] (start tabs) Z (isK (.str (dig (400+n)))))=fun _=>zEV:=by kernel_rfl
theorem fmt_run9:(fun Z=>allA (List.range 50) fun n=>zCt (zCV zEG 100000) 40 zD [.int .i64 (Int.ofNat (450+n)),.int .i64 (.ofNat 10)] (start tabs) Z (isK (.str (dig (450+n)))))=fun _=>zEV:=by kernel_rfl
theorem fmt_run10:(fun Z=>allA (List.range 50) fun n=>zCt (zCV zEG 100000) 40 zD [.int .i64 (Int.ofNat (500+n)),.int .i64 (.ofNat 10)] (start tabs) Z (isK (.str (dig (500+n)))))=fun _=>zEV:=by kernel_rfl
theorem fmt_run11:(fun Z=>allA (List.range 50) fun n=>zCt (zCV zEG 100000) 40 zD [.int .i64 (Int.ofNat (550+n)),.int .i64 (.ofNat 10)] (start tabs) Z (isK (.str (dig (550+n)))))=fun _=>zEV:=by kernel_rfl
theorem fmt_run12:(fun Z=>allA (List.range 50) fun n=>zCt (zCV zEG 100000) 40 zD [.int .i64 (Int.ofNat (600+n)),.int .i64 (.ofNat 10)] (start tabs) Z (isK (.str (dig (600+n)))))=fun _=>zEV:=by kernel_rfl
theorem fmt_run13:(fun Z=>allA (List.range 50) fun n=>zCt (zCV zEG 100000) 40 zD [.int .i64 (Int.ofNat (650+n)),.int .i64 (.ofNat 10)] (start tabs) Z (isK (.str (dig (650+n)))))=fun _=>zEV:=by kernel_rfl
theorem fmt_run14:(fun Z=>allA (List.range 50) fun n=>zCt (zCV zEG 100000) 40 zD [.int .i64 (Int.ofNat (700+n)),.int .i64 (.ofNat 10)] (start tabs) Z (isK (.str (dig (700+n)))))=fun _=>zEV:=by kernel_rfl
theorem fmt_run15:(fun Z=>allA (List.range 50) fun n=>zCt (zCV zEG 100000) 40 zD [.int .i64 (Int.ofNat (750+n)),.int .i64 (.ofNat 10)] (start tabs) Z (isK (.str (dig (750+n)))))=fun _=>zEV:=by kernel_rfl
theorem fmt_run16:(fun Z=>allA (List.range 50) fun n=>zCt (zCV zEG 100000) 40 zD [.int .i64 (Int.ofNat (800+n)),.int .i64 (.ofNat 10)] (start tabs) Z (isK (.str (dig (800+n)))))=fun _=>zEV:=by kernel_rfl
theorem fmt_run17:(fun Z=>allA (List.range 50) fun n=>zCt (zCV zEG 100000) 40 zD [.int .i64 (Int.ofNat (850+n)),.int .i64 (.ofNat 10)] (start tabs) Z (isK (.str (dig (850+n)))))=fun _=>zEV:=by kernel_rfl
theorem fmt_run18:(fun Z=>allA (List.range 50) fun n=>zCt (zCV zEG 100000) 40 zD [.int .i64 (Int.ofNat (900+n)),.int .i64 (.ofNat 10)] (start tabs) Z (isK (.str (dig (900+n)))))=fun _=>zEV:=by kernel_rfl
theorem fmt_run19:(fun Z=>allA (List.range 50) fun n=>zCt (zCV zEG 100000) 40 zD [.int .i64 (Int.ofNat (950+n)),.int .i64 (.ofNat 10)] (start tabs) Z (isK (.str (dig (950+n)))))=fun _=>zEV:=by kernel_rfl
theorem fmt_run20:(fun Z=>allA (List.range 50) fun n=>zCt (zCV zEG 100000) 40 zD [.int .i64 (Int.ofNat (1000+n)),.int .i64 (.ofNat 10)] (start tabs) Z (isK (.str (dig (1000+n)))))=fun _=>zEV:=by kernel_rfl
theorem fmt_run21:(fun Z=>allA (List.range 50) fun n=>zCt (zCV zEG 100000) 40 zD [.int .i64 (Int.ofNat (1050+n)),.int .i64 (.ofNat 10)] (start tabs) Z (isK (.str (dig (1050+n)))))=fun _=>zEV:=by kernel_rfl
theorem fmt_run22:(fun Z=>allA (List.range 50) fun n=>zCt (zCV zEG 100000) 40 zD [.int .i64 (Int.ofNat (1100+n)),.int .i64 (.ofNat 10)] (start tabs) Z (isK (.str (dig (1100+n)))))=fun _=>zEV:=by kernel_rfl
theorem fmt_run23:(fun Z=>allA (List.range 50) fun n=>zCt (zCV zEG 100000) 40 zD [.int .i64 (Int.ofNat (1150+n)),.int .i64 (.ofNat 10)] (start tabs) Z (isK (.str (dig (1150+n)))))=fun _=>zEV:=by kernel_rfl
theorem fmt_run24:(fun Z=>allA (List.range 50) fun n=>zCt (zCV zEG 100000) 40 zD [.int .i64 (Int.ofNat (1200+n)),.int .i64 (.ofNat 10)] (start tabs) Z (isK (.str (dig (1200+n)))))=fun _=>zEV:=by kernel_rfl
theorem fmt_run25:(fun Z=>allA (List.range 50) fun n=>zCt (zCV zEG 100000) 40 zD [.int .i64 (Int.ofNat (1250+n)),.int .i64 (.ofNat 10)] (start tabs) Z (isK (.str (dig (1250+n)))))=fun _=>zEV:=by kernel_rfl
theorem fmt_run26:(fun Z=>allA (List.range 50) fun n=>zCt (zCV zEG 100000) 40 zD [.int .i64 (Int.ofNat (1300+n)),.int .i64 (.ofNat 10)] (start tabs) Z (isK (.str (dig (1300+n)))))=fun _=>zEV:=by kernel_rfl
theorem fmt_run27:(fun Z=>allA (List.range 50) fun n=>zCt (zCV zEG 100000) 40 zD [.int .i64 (Int.ofNat (1350+n)),.int .i64 (.ofNat 10)] (start tabs) Z (isK (.str (dig (1350+n)))))=fun _=>zEV:=by kernel_rfl
theorem fmt_run28:(fun Z=>allA (List.range 50) fun n=>zCt (zCV zEG 100000) 40 zD [.int .i64 (Int.ofNat (1400+n)),.int .i64 (.ofNat 10)] (start tabs) Z (isK (.str (dig (1400+n)))))=fun _=>zEV:=by kernel_rfl
theorem fmt_run29:(fun Z=>allA (List.range 50) fun n=>zCt (zCV zEG 100000) 40 zD [.int .i64 (Int.ofNat (1450+n)),.int .i64 (.ofNat 10)] (start tabs) Z (isK (.str (dig (1450+n)))))=fun _=>zEV:=by kernel_rfl
theorem fmt_run30:(fun Z=>allA (List.range 50) fun n=>zCt (zCV zEG 100000) 40 zD [.int .i64 (Int.ofNat (1500+n)),.int .i64 (.ofNat 10)] (start tabs) Z (isK (.str (dig (1500+n)))))=fun _=>zEV:=by kernel_rfl
theorem fmt_run31:(fun Z=>allA (List.range 50) fun n=>zCt (zCV zEG 100000) 40 zD [.int .i64 (Int.ofNat (1550+n)),.int .i64 (.ofNat 10)] (start tabs) Z (isK (.str (dig (1550+n)))))=fun _=>zEV:=by kernel_rfl
theorem fmt_run {k:Nat}(hk:k<1600)(Z:Tape):∃ r,zCt (zCV zEG 100000) 40 zD [.int .i64 (Int.ofNat (k)),.int .i64 (.ofNat 10)] (start tabs) Z (isK (.str (dig (k))))=some r:=by
 have step:∀ (a:Nat),((fun Z=>allA (List.range 50) fun n=>zCt (zCV zEG 100000) 40 zD [.int .i64 (Int.ofNat (a+n)),.int .i64 (.ofNat 10)] (start tabs) Z (isK (.str (dig (a+n)))))=fun _=>zEV)->a<=k->k<a+50 ->
   ∃ r,zCt (zCV zEG 100000) 40 zD [.int .i64 (Int.ofNat (k)),.int .i64 (.ofNat 10)] (start tabs) Z (isK (.str (dig (k))))=some r:=by
  intro a h h1 h2
  have:=allA_run h (x:=k-a) (List.mem_range.2 (by omega)) Z
  rwa [show a+(k-a)=k by omega]at this
 by_cases h0:k<50
 ·exact step 0 fmt_run0 (by omega) (by omega)
 by_cases h1:k<100
 ·exact step 50 fmt_run1 (by omega) (by omega)
 by_cases h2:k<150
 ·exact step 100 fmt_run2 (by omega) (by omega)
 by_cases h3:k<200
 ·exact step 150 fmt_run3 (by omega) (by omega)
 by_cases h4:k<250
 ·exact step 200 fmt_run4 (by omega) (by omega)
 by_cases h5:k<300
 ·exact step 250 fmt_run5 (by omega) (by omega)
 by_cases h6:k<350
 ·exact step 300 fmt_run6 (by omega) (by omega)
 by_cases h7:k<400
 ·exact step 350 fmt_run7 (by omega) (by omega)
 by_cases h8:k<450
 ·exact step 400 fmt_run8 (by omega) (by omega)
 by_cases h9:k<500
 ·exact step 450 fmt_run9 (by omega) (by omega)
 by_cases h10:k<550
 ·exact step 500 fmt_run10 (by omega) (by omega)
 by_cases h11:k<600
 ·exact step 550 fmt_run11 (by omega) (by omega)
 by_cases h12:k<650
 ·exact step 600 fmt_run12 (by omega) (by omega)
 by_cases h13:k<700
 ·exact step 650 fmt_run13 (by omega) (by omega)
 by_cases h14:k<750
 ·exact step 700 fmt_run14 (by omega) (by omega)
 by_cases h15:k<800
 ·exact step 750 fmt_run15 (by omega) (by omega)
 by_cases h16:k<850
 ·exact step 800 fmt_run16 (by omega) (by omega)
 by_cases h17:k<900
 ·exact step 850 fmt_run17 (by omega) (by omega)
 by_cases h18:k<950
 ·exact step 900 fmt_run18 (by omega) (by omega)
 by_cases h19:k<1000
 ·exact step 950 fmt_run19 (by omega) (by omega)
 by_cases h20:k<1050
 ·exact step 1000 fmt_run20 (by omega) (by omega)
 by_cases h21:k<1100
 ·exact step 1050 fmt_run21 (by omega) (by omega)
 by_cases h22:k<1150
 ·exact step 1100 fmt_run22 (by omega) (by omega)
 by_cases h23:k<1200
 ·exact step 1150 fmt_run23 (by omega) (by omega)
 by_cases h24:k<1250
 ·exact step 1200 fmt_run24 (by omega) (by omega)
 by_cases h25:k<1300
 ·exact step 1250 fmt_run25 (by omega) (by omega)
 by_cases h26:k<1350
 ·exact step 1300 fmt_run26 (by omega) (by omega)
 by_cases h27:k<1400
 ·exact step 1350 fmt_run27 (by omega) (by omega)
 by_cases h28:k<1450
 ·exact step 1400 fmt_run28 (by omega) (by omega)
 by_cases h29:k<1500
 ·exact step 1450 fmt_run29 (by omega) (by omega)
 by_cases h30:k<1550
 ·exact step 1500 fmt_run30 (by omega) (by omega)
 exact step 1550 fmt_run31 (by omega) (by omega)
theorem p_fmt:∀ base w0,zCA PG base w0 zD (outP (RG tabs FmtPre FmtG)):=by
 refine zSl zMi allk_ok (tabk_ok 100000) (by kernel_rfl) (N:=100000) (d:=40) tabs (by rw[tabs_len];kernel_rfl) zQK ?_
 intro vs hp
 unfold FmtPre at hp
 split at hp
 ·rename_i n b
  obtain⟨h1,h2,rfl⟩:=hp
  obtain⟨k,rfl⟩:=Int.eq_ofNat_of_zero_le h1
  exact⟨rfl,fun Z=>fmt_run (k:=k) (by omega) Z⟩
 ·exact hp.elim
end Go.Am.X

namespace Go.Am.X
theorem zQQ (c:zC)(N:Nat)(n:Int){h:Nat}(hh:h<4611686018427387903)(H:Heap)(Z:Tape):∃ m:Nat,m<=h/\∀ q,zHj c N (.int .i64 n) (.int .i64 (.ofNat 0)) (.int .i64 (h:Int)) H Z q=q (.int .i64 (m:Int)) H Z:=by
 have h1:=Int.tmod_lt_of_pos n (b:=(h:Int)+1) (by omega)
 have h2:=Int.lt_tmod_of_pos n (b:=(h:Int)+1) (by omega)
 have e1:wr .i64 ((h:Int)-Int.ofNat 0)=h:=by rw[zEE (by simp <;> omega) (by simp <;> omega)];simp
 have e2:wr .i64 ((h:Int)+Int.ofNat 1)=(h:Int)+1:=by rw[zEE (by simp <;> omega) (by simp <;> omega)];simp
 have er:=zPO (k:=.i64) n ((h:Int)+1)
 generalize hr:n.tmod ((h:Int)+1)=r at h1 h2
 by_cases hneg:r<0
 ·refine⟨(r+(h+1)).toNat,by omega,fun q=>?_⟩
  have e3:decide (r<Int.ofNat 0)=true:=decide_eq_true hneg
  have e4:wr .i64 (r+(h:Int))=r+h:=by rw[zEE (by omega) (by omega)]
  have e5:wr .i64 (r+h-Int.ofNat 0)=r+h:=by rw[zEE (by simp <;> omega) (by simp <;> omega)];simp
  have e6:wr .i64 (r+h+Int.ofNat 1)=r+(h+1):=by rw[zEE (by simp <;> omega) (by simp <;> omega)];simp;try omega
  have e7:wr .i64 (Int.ofNat 0+(r+(h+1)))=(((r+(h+1)).toNat:Nat):Int):=by rw[zEE (by simp <;> omega) (by simp <;> omega)];simp;try omega
  simp only[zHj,zCn,e1,ze,e2,zPO _ _ ((h:Int)+1) (by omega),hr,zN,e3,zQ,e4,e5,e6,zGo,zV,↓reduceIte,Nat.reduceEqDiff,e7]
 ·refine⟨r.toNat,by omega,fun q=>?_⟩
  have e3:decide (r<Int.ofNat 0)=false:=decide_eq_false hneg
  have e7:wr .i64 (Int.ofNat 0+r)=((r.toNat:Nat):Int):=by rw[zEE (by simp <;> omega) (by simp <;> omega)];simp;omega
  simp only[zHj,zCn,e1,ze,e2,zPO _ _ ((h:Int)+1) (by omega),hr,zN,e3,zO,zGo,zV,↓reduceIte,Nat.reduceEqDiff,e7]
end Go.Am.X

namespace Go.Am.X
noncomputable abbrev zG:List Row:=[Row.fn zHd zB3 zFP,Row.fn zMX zEb zKM,Row.fn zEN zBT zEJ,Row.fn zAG zA1 zDZ,Row.fn zFH zAz zDf,Row.fn zCz zBU zEK,Row.fn zAy zAn zDC,Row.fn zC4 zAo zC1,Row.fn zE7 zCR zGj,Row.fn zH2 zCx zHe,Row.fn zFn zBx zFm,Row.fn zo zZ zAk,Row.fn zBj zf zAt,Row.fn zBV zu zBW,Row.fn zA3 zAQ zCP,Row.fn zEk zAp zDH,Row.fn zOO zFW zL0,Row.prim zAS (outP (RH zNf GetG)),Row.prim zE0 (outP (RH SetPre SetG)),Row.prim zBn (outP (RH zQo CtlG)),Row.prim zIu (outP (RH zQo VaryG)),Row.prim zFk (outP (RH zRp AgeG)),Row.prim zGv (outP (RH zRp FreshG)),Row.prim zD (outP (RG tabs FmtPre FmtG)),Row.prim zH4 zLe,Row.fn zF5 zCd zF0,Row.fn zEw zE8 zJv,Row.fn zIz zEI zI2,Row.fn zJA zF3 zK4,Row.fn zFi zDV zHw,Row.fn zDa zA6 zDb,Row.fn zAq zAb zCp]
theorem zRS:zMr PG zG :=
 .fn zKc zJL (.fn zNh zLW (.fn zHy zGR (.fn zGu zFh (.fn zGz zFj (.fn zHq zGL (.fn zGO zFC (.fn zGS zFE (.fn zKs zIs (.fn zLa zJS (.fn zJV zH8 (.fn zCJ zBz (.fn zCh zB9 (.fn zDQ zCv (.fn zFA zED (.fn zGN zE9 (.fn zPI zMU (.prim zPi (.prim zTC (.prim zRL (.prim p_age_Vary (.prim p_age_Age (.prim p_age_Fresh (.prim p_fmt (.prim zJH (.fn zLC zJg (.fn zOu zM4 (.fn zOM zL9 (.fn zP0 zNs (.fn zNG zK6 (.fn zGy zFv (.fn zFg zEl (.nil _))))))))))))))))))))))))))))))))
section
variable {N:Nat} (hN:9223372036854775808<N)
include hN
theorem cg_get (d:Nat):zSZ (CR zG N (d+1)):=fun hs _ hn _ _ hr Z q=>k_Get (c:=CR zG N (d+1)) (f:=zAS) (fun _ _ _ _=>rfl) hs hn hr Z q
theorem cg_par (d:Nat):ParsOk (CR zG N (d+1)):=fun hs _ _ hr Z q=>k_Ctl (c:=CR zG N (d+1)) (f:=zBn) (fun _ _ _ _=>rfl) hs hr Z q
theorem cg_age (d:Nat):AgeOkC (CR zG N (d+1)):=fun hs _ _ ha hb _ _ hr Z q=>k_Age (c:=CR zG N (d+1)) (f:=zFk) (fun _ _ _ _=>rfl) hs ha hb hr Z q
theorem cg_frs (d:Nat):FrsOkC (CR zG N (d+1)):=fun hs _ _ ha hb _ _ hr Z q=>k_Fresh (c:=CR zG N (d+1)) (f:=zGv) (fun _ _ _ _=>rfl) hs ha hb hr Z q
theorem cg_set (d:Nat):SetOkC (CR zG N (d+1)):=fun h1 h2 h3 h4 _ _ hw hr Z=>by
 obtain⟨r,H',Z',g,a,_,k⟩:=k_Set (c:=CR zG N (d+1)) (f:=zE0) (fun _ _ _ _=>rfl) (Pre:=SetPre) ⟨h1,h2,h3,h4⟩ hw hr Z
 exact⟨r,H',Z',fun h=>(a h).1,g,k⟩
theorem cg_vary (d:Nat):VaryOkC (CR zG N (d+1)):=fun {hs} hsm h3 {lv} {H} hw hr Z=>by
 have hg:VaryG (isNil lv) hs []=lstO 1 (zHJ hs).length ((zHJ hs).map V.str) (fun v=>.tup [v,.bool true]):=by
  show varyO hs=_
  unfold varyO
  rw[if_neg (by rw[h3];decide)]
  rfl
 obtain⟨v',H',Z',r1,r2,r3⟩:=RH_lstO (c:=CR zG N (d+1)) (f:=zIu) (l:=[]) (fun _ _ _ _=>rfl) hr hsm hg hw (by simp) Z
 exact⟨v',H',Z',r1,r2,r3⟩
theorem cg_mt (d:Nat):MeantOk (CR zG N (d+1)):=fun url _ ha _ hw Z=>zQZ (CR zG N d) N url ha hw Z
theorem cg_m1 (d:Nat):zOR (CR zG N (d+2)):=fun hsm _ _ _ _ _ _ hw hr h1 h2 hu hb ha Z=>by
 obtain⟨H',Z',g,k⟩:=zO6 (CR zG N (d+1)) (N:=N) (by omega) (cg_get hN d) hsm hw hr h1 h2 hu hb ha Z
 exact⟨H',Z',g,fun q=>k q⟩
theorem cg_idx (d:Nat):zPb (CR zG N (d+1)) (CR zG N d):=fun f fv _ _ hw hs hl v hr hf hP Z=>zIF (CR zG N d) (N:=N) (by omega) f fv hw hs hl v hr hf hP Z
theorem cg_del (d:Nat):DelC (CR zG N (d+2)) (CR zG N d) (CR zG N (d+1)):=fun f fv _ _ hw hs hl v hg hf' hf hP Z=>zHT (CR zG N (d+1)) (CR zG N d) (N:=N) (by omega) (cg_idx hN d) f fv hw hs hl v hg hf' hf hP Z
theorem cg_del0 (d:Nat):Del0C (CR zG N (d+1)):=fun hg hw hl hl' Z=>zJR (CR zG N d) N hg hw hl hl' Z
theorem cg_u1 (d:Nat):Use1Ok (CR zG N (d+1)):=fun ha hx hr Z q=>zQN (CR zG N d) N ha hx hr Z q
theorem cg_use (d:Nat):UseOk (CR zG N (d+4)):=fun hc hw hl x hx h1 h2 h3 Z=>zNp (CR zG N (d+3)) (CR zG N (d+1)) (CR zG N (d+2)) N (cg_del hN (d+1)) (cg_u1 hN d) (cg_u1 hN (d+1)) hc hw hl x hx h1 h2 h3 Z
theorem cg_sto (d:Nat):StoOk (CR zG N (d+5)):=fun hc hw hl h0 h1 x hx h2 h3 h4 now Z=>zMM (CR zG N (d+4)) N (cg_use hN d) hc hw hl h0 h1 x hx h2 h3 h4 now Z
theorem cg_cop (d:Nat):CopOk (CR zG N (d+2)):=fun st hs hl bd hbl _ _ _ hw hr br bsr Z=>zP2 (CR zG N (d+1)) N (fun hs hl v H hw hr hsr Z=>zGX (CR zG N d) N hs hl v H hw hr hsr Z) (fun hw hr hs hn Z=>zMd (CR zG N d) N hw hr hs hn Z) st hs hl bd hbl hw hr br bsr Z
theorem cg_fi (d:Nat):FiOk (CR zG N (d+3)):=fun hc hw hl hok url _ hsm _ ha Z=>zNX (CR zG N (d+2)) (N:=N) (by omega) (cg_mt hN (d+1)) (cg_m1 hN d) (cg_par hN (d+1)) hc hw hl hok url hsm ha Z
end
end Go.Am.X

namespace Go.Am.X
abbrev PutOkR (cc:zC):Prop:=∀ {P D E:Nat->Prop} {H:Heap} {c:Nat} {rows:List CRow} {puts:Int} (hc:CacM P D H c rows puts) (hw:WF H) (hl:rows.length<=100) (hok:∀ r ∈ rows,OkVs r) (hp0:0<=puts) (hp1:puts<4611686018427387904) (url:Bs) {ask hs:List Hd} (ham:Small ask) (hsm:Small hs) (hhl:hs.length<=1000000) (bd:List V) (hbl:bd.length<=100000000) {av hv bv:V} (hE:∀ i,E i->i<H.size/\¬ P i/\i≠c) (ha:DatP E H 2 av ask.length (hcells ask)) (hh:DatP E H 2 hv hs.length (hcells hs)) (hb:DatP E H 1 bv bd.length bd) (n1:(zA8 hs).1=false) (n2:(zA8 ask).1=false) (n3:(zBw zQI hs).contains [42]=false) (hnl:(zHJ hs).length<=1000000) (hns:∀ n ∈ zHJ hs,n.length<=140737488355328) (now:Int) (Z:Tape),∃ P' D' H' Z' x,CacM P' D' H' c (cutC (rows.filter fun r=>!zJe url ask r)++[x]) (puts+1)/\(x.url=url/\x.vs=(zHJ hs).map (vryT ask)/\x.st=200/\x.hs=hs/\x.bd=bd/\x.sto=now/\x.ord=puts+1/\H.size<=x.id)/\(∀ i,i<H.size->P' i->P i)/\(∀ i,i<H.size->D' i->D i)/\Chg (fun i=>P i∨i=c) H H'/\∀ q,cc zEN [(.ptr c 0),(.str url),av,(.agg [.int .i64 (.ofNat 200),hv,bv]),(.int .i64 now)] H Z q=q (.bool true) H' Z'
abbrev FndOkR (cc:zC):Prop:=∀ {P D E:Nat->Prop} {H:Heap} {c:Nat} {rows:List CRow} {puts:Int} (hc:CacM P D H c rows puts) (hw:WF H) (hl:rows.length<=1000) (hok:∀ r ∈ rows,OkVs r) (url:Bs) {ask:List Hd} (ham:Small ask) {av:V} (hE:∀ i,E i->i<H.size/\¬ P i/\i≠c) (ha:DatP E H 2 av ask.length (hcells ask)) {x:CRow} (hn:zNU url ask rows=some x) (hxs:Small x.hs) (hxl:x.hs.length<1000000) (hxn:∀ h ∈ x.hs,h.1.length<=140737488355328) (hxb:x.bd.length<=100000000) (he:(sel etagN x.hs).length=0) (hm:(sel lastN x.hs).length=0) {now:Int} (hin:InI now) (his:InI x.sto) {s:Bs} (hsl:s.length<=100) (hF:∀ H',Chg (fun i=>P i∨i=c) H H'->∀ Z q,cc zD [.int .i64 (ageT x.hs x.sto now),.int .i64 (.ofNat 10)] H' Z q=q (.str s) H' Z) (Z:Tape),∃ P' H' Z' hvF bvF nh ch,CacM P' D H' c (useT x rows) puts/\(∀ i,i<H.size->P' i->P i)/\BodP (fun i=>H.size<=i/\¬ P' i/\i<H'.size) H' bvF x.bd.length x.bd/\HvBv P' D H H' hvF nh ch bvF x.bd.length x.bd/\Chg (fun i=>P i∨i=c) H H'/\∀ q,cc zAG [(.ptr c 0),(.str url),av,(.int .i64 now)] H Z q=q (.agg [.int .i64 (if zPt ask x now=true then 2 else 1),.int .i64 x.st,hvF,bvF,.nils]) H' Z'
abbrev Fnd0OkR (cc:zC):Prop:=∀ {P D:Nat->Prop} {H:Heap} {c:Nat} {rows:List CRow} {puts:Int} (hc:CacM P D H c rows puts) (hw:WF H) (hl:rows.length<=1000) (hok:∀ r ∈ rows,OkVs r) (url:Bs) {ask:List Hd} (ham:Small ask) {av:V} (ha:RdH H av ask) (hn:zNU url ask rows=none) (now:V) (Z:Tape),∃ H' Z',Gr H.size H H'/\∀ q,cc zAG [(.ptr c 0),(.str url),av,now] H Z q=q (.agg [.int .i64 0,.int .i64 0,.nils,.nils,.nils]) H' Z'
end Go.Am.X

namespace Go.Am.X
section
variable {N:Nat} (hN:9223372036854775808<N)
include hN
end
end Go.Am.X

namespace Go.Am.X
end Go.Am.X

namespace Go.Am.X
end Go.Am.X

namespace Go.Am.X
section
variable {N:Nat} (hN:9223372036854775808<N)
include hN
end
end Go.Am.X

namespace Go.Am.X
end Go.Am.X

namespace Go.Am.X
abbrev WithinOkU (c:zC):Prop:=∀ (n:Int) {h:Nat},h<4611686018427387903->∀ (H:Heap) (Z:Tape),∃ m:Nat,m<=h/\∀ q,c zEw [.int .i64 n,.int .i64 (.ofNat 0),.int .i64 (h:Int)] H Z q=q (.int .i64 (m:Int)) H Z
abbrev NewOkU (c:zC):Prop:=∀ {H:Heap},WF H->∀ Z,∃ H',CacM (fun _=>False) (fun _=>False) H' H.size [] 0/\Gr H.size H H'/\H'.size=H.size+1/\∀ q,c zMX [] H Z q=q (.ptr H.size 0) H' Z
theorem zSF (c:zC)(N:Nat)(s:Bs)(H:Heap)(Z:Tape)(q:KV):zOS c N (.str s) H Z q=q (.sl H.size 0 1 1 none 2) (H.new [.str [67,97,99,104,101,45,67,111,110,116,114,111,108],.str s] 2 false) Z:=by
 have pb:zC7 [(.str []),(.str [])] [(0,1),(1,1)] [.str (bs [67,97,99,104,101,45,67,111,110,116,114,111,108]),.str s]=some (.agg [.str [67,97,99,104,101,45,67,111,110,116,114,111,108],.str s]):=rfl
 have e0:zP 1 2 [(.str []),(.str [])] [(0,2)] [.agg [.str [67,97,99,104,101,45,67,111,110,116,114,111,108],.str s]] H Z=some (.sl H.size 0 1 1 none 2,H.new [.str [67,97,99,104,101,45,67,111,110,116,114,111,108],.str s] 2 false,Z):=rfl
 simp only[zOS,pb,zJ,e0,zh]
theorem zTU {c:zC}{f:Nat}(h:∀ vs H Z q,c f vs H Z q=effK (zLe vs H Z) q):∀ H Z q,c f [] H Z q=q (.bool true) H Z:=fun H Z q=>by rw[h];rfl
end Go.Am.X

namespace Go.Am.X
section
variable {N:Nat} (hN:9223372036854775808<N)
include hN
end
end Go.Am.X

namespace Go.Am.X
theorem cells_key {H:Heap}{id:Nat}{all:List V}(h:H.cells? id=some all):∃ room fam ver wr pl st fr la,H.blk.get id=some (.mem all room fam ver wr pl st)/\H.fams.get fam=some (fr,la)/\fr<=ver:=by
 unfold Heap.cells? at h
 split at h
 ·rename_i cs room fam ver wr pl st hb
  split at h
  ·rename_i fr la hf
   cases hb2:Nat.ble fr ver with
   | true =>
    rw[hb2]at h
    have h':cs=all:=by simpa using h
    subst h'
    exact⟨room,fam,ver,wr,pl,st,fr,la,hb,hf,Nat.le_of_ble_eq_true hb2⟩
   | false=>rw[hb2]at h;simp at h
  ·cases h
 ·cases h
theorem DatP.any {H:Heap}(hw:WF H){z n:Nat}{v:V}{cs:List V}(h:Rd H z v n cs)(hs:Src H v):DatP (fun i=>i<H.size) H z v n cs:=by
 rcases h with⟨h | ⟨id,off,lo,ex,rfl⟩,rfl,rfl⟩ | ⟨id,off,lo,ex,all,rfl,h1,h2,h3⟩
 ·exact .inl ⟨h,rfl,rfl⟩
 ·obtain⟨all,ha⟩:=hs
  obtain⟨room,fam,ver,wr,pl,st,fr,la,hb,hf,hv⟩:=cells_key ha
  exact .inr ⟨id,off,lo,ex,all,room,fam,ver,wr,pl,st,fr,la,rfl,hb,hf,hv,hw.blk _ _ hb,hw.fam _ _ _ _ _ _ _ _ hb,by simp,by simp⟩
 ·obtain⟨room,fam,ver,wr,pl,st,fr,la,hb,hf,hv⟩:=cells_key h1
  exact .inr ⟨id,off,lo,ex,all,room,fam,ver,wr,pl,st,fr,la,rfl,hb,hf,hv,hw.blk _ _ hb,hw.fam _ _ _ _ _ _ _ _ hb,h2.symm,h3⟩
end Go.Am.X

namespace Go.Am.X
def toB (l:List Nat):Bs:=l.map UInt8.ofNat
theorem zSJ:∀ l:List Nat,bytesOf (ws .u8 l)=some (toB l):=by
 intro l;induction l with
 | nil=>rfl
 | cons x l ih =>
  show(match bytesOf (ws .u8 l)with | some r=>some (UInt8.ofNat (x:Int).toNat::r) | none=>none)=_
  rw[ih];rfl
theorem str_rd {H:Heap}{v:V}{n:Nat}{l:List Nat}(h:Rd H 1 v n (ws .u8 l))(hs:Src H v):zER [v] H=some (.str (toB l)):=by
 obtain⟨h1,h2⟩:=h.loads hs
 rcases h with⟨rfl | ⟨id,off,lo,ex,rfl⟩,rfl,h0⟩ | ⟨id,off,lo,ex,all,rfl,_⟩
 ·cases l with
  | nil=>rfl
  | cons a l=>simp[ws]at h0
 ·simp only[zB1,Nat.beq_refl,cond_true]at h2
  rw[Nat.zero_mul]at h2
  simp only[zER,Nat.beq_refl,cond_true,h2,zSJ]
 ·simp only[zB1,Nat.beq_refl,cond_true]at h2
  rw[Nat.mul_one]at h2
  simp only[zER,Nat.beq_refl,cond_true,h2,zSJ]
end Go.Am.X

namespace Go.Am.X
end Go.Am.X

namespace Go.Am.X
theorem fewC_ret (c:zC)(N:Nat)(v:V)(n k:Nat)(cs:List V)(hk:0<k)(hkk:k<1000000)(H:Heap)(hR:Roomy v)(hRd:Rd H 1 v n cs) :
  ∃ v',Roomy v'/\(∀ H',Src H' v->Src H' v')/\(∀ H',Rd H' 1 v n cs->Rd H' 1 v' (min n k) (cs.take k))/\∀ H Z q,zEM c N v (.int .i64 (k:Int)) H Z q=q v' H Z:=by
 by_cases h:k<n
 ·rcases hRd with⟨_,h0,_⟩ | ⟨id,off,lo,ex,all,rfl,q1,q2,q3⟩
  ·omega
  ·have hb:zC0 false true false [V.int .i64 (k:Int)]=some (none,some k,none):=by simp only[zC0,optN,natOf_mk]
   have hwi:within k lo ex=true:=by have hR:within n lo ex=true:=hR;rw[within_iff]at hR ⊢;omega
   have h0:Nat.ble 0 k=true:=Nat.ble_eq_true_of_le (Nat.zero_le _)
   have h1:Nat.ble 0 lo=true:=Nat.ble_eq_true_of_le (Nat.zero_le _)
   have e1:decide ((k:Int)<(n:Int))=true:=decide_eq_true (by omega)
   refine⟨.sl id off k lo ex 1,hwi,fun _ h=>h,fun H' hd=>?_,fun H Z q=>?_⟩
   ·rcases hd with⟨_,h0,_⟩ | ⟨id',off',lo',ex',all',e,q1,q2,q3⟩
    ·omega
    ·cases e
     rw[Nat.min_eq_right (by omega)]
     refine .inr ⟨id,off,lo,ex,all',rfl,q1,?_,?_⟩
     ·rw[q2,List.take_take];congr 1;omega
     ·rw[List.length_take];omega
   ·have hp:pLen [V.sl id off n lo ex 1]=some (.int .i64 (n:Int)):=rfl
    have hs:zAL 1 false true false [V.sl id off n lo ex 1,V.int .i64 (k:Int)]=some (.sl id off k lo ex 1):=by
     simp only[zAL,Nat.beq_refl,cond_true,hb,zPg,Option.getD_some,Option.getD_none,hwi,h0,Bool.and_self,h1,zQs,Nat.sub_zero]
    simp only[zEM,hp,zK,zAV,e1,zBC,hs]
 ·have e1:decide ((k:Int)<(n:Int))=false:=decide_eq_false (by omega)
  refine⟨v,hR,fun _ h=>h,fun H' hd=>?_,fun H Z q=>?_⟩
  ·rw[Nat.min_eq_left (by omega),List.take_of_length_le (by have:=hd.len;omega)]
   exact hd
  ·simp only[zEM,hRd.pLen,zK,zAV,e1,zAN]
theorem ws_takeC (la:List Nat)(k:Nat):(ws .u8 la).take k=ws .u8 (la.take k):=by simp[ws,List.map_take]
theorem zTH (n:Nat):(dig n).length<=8:=by
 have:=(digF_ok 8 n [] (fun x hx=>by simp at hx) (.inr (by omega))).2.2
 simpa [dig] using this
end Go.Am.X

namespace Go.Am.X
section
variable {N:Nat} (hN:9223372036854775808<N)
include hN
theorem cg_PutOkR:PutOkR (CR zG N 7):=fun {P D E} {H} {c} {rows} {puts} hc hw hl hok hp0 hp1 url {ask hs} ham hsm hhl bd hbl {av hv bv} hE ha hh hb n1 n2 n3 hnl hns now Z=>zN1 (CR zG N 6) (CR zG N 4) (CR zG N 5) (N:=N) (by omega) (cg_vary hN 5) (cg_par hN 5) (cg_mt hN 5) (cg_m1 hN 2) (cg_m1 hN 3) (cg_del hN 4) (cg_del0 hN 5) (cg_cop hN 4) (cg_get hN 5) (cg_sto hN 1) hc hw hl hok hp0 hp1 url ham hsm hhl bd hbl hE ha hh hb n1 n2 n3 hnl hns now Z
theorem cg_FndOkR:FndOkR (CR zG N 7):=fun {P D E} {H} {c} {rows} {puts} hc hw hl hok url {ask} ham {av} hE ha {x} hn hxs hxl hxn hxb he hm {now} hin his {s} hsl hF Z=>zMS (CR zG N 6) N (cg_fi hN 3) (cg_use hN 2) (cg_cop hN 4) (cg_age hN 5) (cg_frs hN 5) (cg_set hN 5) (cg_get hN 5) (cg_par hN 5) hc hw hl hok url ham hE ha hn hxs hxl hxn hxb he hm hin his hsl hF Z
theorem cg_Fnd0OkR:Fnd0OkR (CR zG N 7):=fun {P D} {H} {c} {rows} {puts} hc hw hl hok url {ask} ham {av} ha hn now Z=>zMl (CR zG N 6) N (cg_fi hN 3) hc hw hl hok url ham ha hn now Z
end
end Go.Am.X

