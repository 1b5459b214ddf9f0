/- The abstract machine, printed functions of the program, and what they are shown to be. -/
import Derived.Test.YtejpgcemblankaaGreatDoorCKPL7
import Derived.Test.YtejpgcemblankaaGreatDoorCKPL1
import Derived.Test.YtejpgcemblankaaGreatDoorCKPL4
import Derived.Test.YtejpgcemblankaaGreatDoorCKPL3
import Derived.Test.YtejpgcemblankaaGreatDoorCKPM4
set_option linter.unusedSimpArgs false
set_option linter.unusedVariables false
set_option linter.unusedSectionVars false
set_option maxRecDepth 100000
namespace Go.Am.X
def nm4:List Bs:=[[99,111,110,116,101,110,116,45,108,101,110,103,116,104],[99,111,110,116,101,110,116,45,101,110,99,111,100,105,110,103],[99,111,110,116,101,110,116,45,116,121,112,101],[99,111,110,116,101,110,116,45,114,97,110,103,101]]
def renT (hs2 hs:List Hd):List Hd:=zJZ (zNw nm4 hs2) (zBy ageN hs)
theorem dropsT_sub:∀ (ns:List Bs) (hs:List Hd),(zNw ns hs).length<=hs.length/\∀ h ∈ zNw ns hs,h ∈ hs:=by
 intro ns
 induction ns with
 | nil=>intro hs;exact⟨Nat.le_refl _,fun h hh=>hh⟩
 | cons n ns ih =>
  intro hs
  obtain⟨a,b⟩:=ih (zBy n hs)
  obtain⟨c,d⟩:=dropT_sub n hs
  exact⟨Nat.le_trans a c,fun h hh=>d h (b h hh)⟩
theorem upd_sto (x:CRow)(now ord:Int)(rows:List CRow):storeT x now ord (rows.map (updR x))=(rows.filter fun r=>!decide (x.id=r.id))++[x.put now ord]:=by
 unfold storeT
 congr 1
 induction rows with
 | nil=>rfl
 | cons r l ih =>
  rw[List.map_cons,List.filter_cons,List.filter_cons,ih]
  by_cases h:x.id=r.id
  ·have e:(updR x r).id=x.id:=by unfold updR;rw[if_pos h.symm]
   rw[if_neg (by rw[e];simp),if_neg (by simp[h])]
  ·have e:updR x r=r:=by unfold updR;rw[if_neg (fun e=>h e.symm)]
   rw[e]
theorem zMG (cc:zD){N:Nat}(hN:9223372036854775807<=N)(hFi:FiOk cc)(hDr:DrpOkC cc)(hCl:ClnHOk cc)(hSe:SetOkC cc)(hSt:StoOk cc)(hCp:CopOk cc){P D E:Nat->Prop}{H:Heap}{c:Nat}{rows:List CRow}{puts:Int}(hc:CacM P D H c rows puts)(hw:WF H)(hl:rows.length<=900)(hok:∀ r ∈ rows,OkVs r)(hp0:0<=puts)(hp1:puts<4611686018427387904)(url:Bs){ask hs2:List Hd}(ham:Small ask)(hs2m:Small hs2){av hv2 bv2:V}(ha:RdH H av ask)(st2:Int)
  (hE:∀ i,E i->i<H.size/\¬ P i/\i≠c/\∀ r ∈ rows,i≠r.id) (hh:DatP E H 2 hv2 hs2.length (hcells hs2)) {x:CRow} (hn:zPz url ask rows=some x) (hxl:x.hs.length<=1000000) (hxn:∀ h ∈ x.hs,h.1.length<=140737488355328) (hxb:x.bd.length<=100000000)
  (hB:∀ pre l,zNw nm4 hs2=pre++l->(zJZ pre (zBy ageN x.hs)).length<1000000/\∀ h ∈ zJZ pre (zBy ageN x.hs),h.1.length<=140737488355328) (now:Int) (Z:Tape) :
  ∃ P' D' H' Z' hvR bvR y,CacM P' D' H' c ((rows.filter fun r=>!decide (x.id=r.id))++[y]) (puts+1)/\(y.url=x.url/\y.vs=x.vs/\y.st=x.st/\y.hs=renT hs2 x.hs/\y.bd=x.bd/\y.sto=now/\y.ord=puts+1/\y.id=x.id)/\(∀ i,i<H.size->P' i->P i)/\(∀ i,i<H.size->D' i->D i) /\
   BodP (fun i=>H.size<=i/\¬ P' i/\¬ D' i/\i<H'.size) H' bvR x.bd.length x.bd/\HvBv P' D' H H' hvR (renT hs2 x.hs).length (hcells (renT hs2 x.hs)) bvR x.bd.length x.bd/\Chg (fun i=>P i∨i=c∨i=x.id) H H' /\
   ∀ q,zFT cc N (.ptr c 0) (.str url) av (.agg [.int .i64 st2,hv2,bv2]) (.int .i64 now) H Z q=q (.tup [.agg [.int .i64 x.st,hvR,bvR],.bool true]) H' Z':=by
 have hcl:c<H.size:=by obtain⟨v,h1,_⟩:=hc.bx;exact h1.lt hw
 have e0:eBox [.agg [.int .i64 st2,hv2,bv2]] H Z=some (.ptr H.size 0,H.new [.int .i64 st2,hv2,bv2] 3 true,Z):=rfl
 have g1:=Gr.new hw [.int .i64 st2,hv2,bv2] 3 true
 have b1:Bx (H.new [.int .i64 st2,hv2,bv2] 3 true) H.size [.int .i64 st2,hv2,bv2]:=Bx.new H _ 3 true (by simp)
 have z1:(H.new [.int .i64 st2,hv2,bv2] 3 true).size=H.size+1:=rfl
 generalize H.new [.int .i64 st2,hv2,bv2] 3 true=H1 at e0 g1 b1 z1
 have e1:zB6 [(.int .i64 (.ofNat 0)),.nils,.nils] [] H1 Z=some (.ptr H1.size 0,H1.new [(.int .i64 (.ofNat 0)),.nils,.nils] 3 true,Z):=rfl
 have g2:=Gr.new g1.wf [(.int .i64 (.ofNat 0)),.nils,.nils] 3 true
 have b2:Bx (H1.new [(.int .i64 (.ofNat 0)),.nils,.nils] 3 true) H1.size [(.int .i64 (.ofNat 0)),.nils,.nils]:=Bx.new H1 _ 3 true (by simp)
 have z2:(H1.new [(.int .i64 (.ofNat 0)),.nils,.nils] 3 true).size=H1.size+1:=rfl
 generalize H1.new [(.int .i64 (.ofNat 0)),.nils,.nils] 3 true=H2 at e1 g2 b2 z2
 have g12:=g1.trans g2 g1.size
 obtain⟨H3,Z3,g3,mm,k3⟩:=hFi (hc.gr hw g12) g2.wf (by omega) hok url ham (ha.gr g12 hw nl) Z
 have hxm:=mm x hn
 rw[hn]at k3
 have g13:=g12.trans g3 g12.size
 have s13:=g13.size
 have s23:=g3.size
 have b3:=zEn (zEn b1 g1.wf g2) g2.wf g3
 have r3:=zEn b2 g2.wf g3
 have hx:=hc.mem x hxm
 have hxi:=hx.bx.bx.lt hw
 obtain⟨xp,xd,xc⟩:=hc.pr x hxm
 have x3:=hx.chg hw (g13.chg (P:=fun _=>False)) (fun _ _ _=>not_false) not_false
 have l3:zH [.ptr x.id (0+2+1)] H3=some x.hv:=zN x3.bx.bx.cells rfl
 obtain⟨w1,H4,Z4,o4,g4,k4⟩:=hDr (n:=ageN) hxl hxn (by decide) (lv:=x.hv) g3.wf ⟨x3.hs.rd,x3.hs.src⟩ Z3
 have s34:=g4.size
 have x4:=x3.chg g3.wf (g4.chg (P:=fun _=>False)) (fun _ _ _=>not_false) not_false
 obtain⟨os1,os2⟩:w1.cells=[w1]/\w1.scal=true:=by
  rcases o4 with⟨rfl,_⟩ | ⟨_,_,_,_,_,_,_,_,rfl,_⟩ <;> exact⟨rfl,rfl⟩
 obtain⟨H5,a1,a2,a3⟩:=x4.bx.eStore g4.wf 3 w1 1 (by rw[os1];rfl) (by simp[CRow.cells]) (by omega) (by rw[os1];simp[os2]) Z4
 have a2':BxT H5 x.id { x with hv:=w1 }.cells:=by rw[os1]at a2;exact a2
 have a1':eStore 1 [.ptr x.id (0+2+1),w1] H4 Z4=some (.tup [],H5,Z4):=a1
 have s45:H5.size=H4.size:=a3.size
 have oX:∀ {Ha Hb:Heap},Only x.id Ha Hb->Chg (fun i=>i=x.id) Ha Hb:=fun h=>h.chg (P:=fun i=>i=x.id) rfl
 have q05:Chg (fun i=>i=x.id) H H5:=((g13.chg (P:=fun i=>i=x.id)).trans (g4.chg (P:=fun _=>False)) fun _ _ h=>h.elim).trans (oX a3) fun _ _ h=>h
 have hh5:=hh.chg hw q05 (fun i hi h e=>(hE i h).2.2.2 x hxm e)
 have b5:Bx H5 H.size [.int .i64 st2,hv2,bv2]:=(zEn b3 g3.wf g4).only a3 (by omega)
 have lh2:zH [.ptr H.size (0+1)] H5=some hv2:=zN b5.cells rfl
 obtain⟨w2,H6,Z6,o6,_,g6,k6⟩:=hCl hs2 (by have:=hs2m.len;omega) hv2 H5 a3.wf hh5.rd hh5.src Z4
 have s56:=g6.size
 have e7:zR 4 1 [(.str []),(.str []),(.str []),(.str [])] [(0,1),(1,1),(2,1),(3,1)] [(.str (bs [99,111,110,116,101,110,116,45,108,101,110,103,116,104])),(.str (bs [99,111,110,116,101,110,116,45,101,110,99,111,100,105,110,103])),(.str (bs [99,111,110,116,101,110,116,45,116,121,112,101])),(.str (bs [99,111,110,116,101,110,116,45,114,97,110,103,101]))] H6 Z6=some (.sl H6.size 0 4 4 none 1,H6.new (nm4.map V.str) 4 false,Z6):=rfl
 have g7:=Gr.new g6.wf (nm4.map V.str) 4 false
 have b7:Bx (H6.new (nm4.map V.str) 4 false) H6.size (nm4.map V.str):=Bx.new H6 _ 4 false (by decide)
 have z7:(H6.new (nm4.map V.str) 4 false).size=H6.size+1:=rfl
 generalize H6.new (nm4.map V.str) 4 false=H7 at e7 g7 b7 z7
 have rn:Rd H7 1 (.sl H6.size 0 4 4 none 1) nm4.length (nm4.map V.str):=.inr ⟨H6.size,0,4,none,nm4.map V.str,rfl,b7.cells,rfl,rfl⟩
 have d6:DatP (fun i=>H5.size<=i) H7 2 w2 hs2.length (hcells hs2):=(DatP.gen (GenL.apd o6)).gr g6.wf g7
 obtain⟨w3,H8,Z8,g8,d8,k8⟩:=l_rdrop cc N hDr nm4 (by decide) (by decide) (.sl H6.size 0 4 4 none 1) (.ptr c 0) (.int .i64 now) (.ptr H1.size 0) (.ptr x.id 0) g7.wf rn (B:=H5.size) (by omega) nm4 [] hs2 w2 H7 Z6 N rfl (by have:nm4.length=4:=rfl;omega) (Gr.refl g7.wf) (by have:=hs2m.len;omega) (fun h hh=>by have:=(hs2m.all h hh).1;omega) d6
 have s78:=g8.size
 have g58:Gr H5.size H5 H8:=(g6.trans g7 g6.size).trans g8 (by omega)
 have x8:BxT H8 x.id { x with hv:=w1 }.cells:=a2'.chg a3.wf (g58.chg (P:=fun _=>False)) not_false
 let D0:Nat->Prop:=fun i=>H3.size<=i/\i<H4.size
 let Q:Nat->Prop:=fun i=>i=x.id∨H8.size<=i
 have d0:DatP (fun i=>D0 i∨H8.size<=i) H8 2 w1 (zJZ [] (zBy ageN x.hs)).length (hcells (zJZ [] (zBy ageN x.hs))):=by
  have h4:DatP D0 H4 2 w1 (zBy ageN x.hs).length (hcells (zBy ageN x.hs)):=(DatP.own o4).weaken g4.wf fun i hi h=>⟨h,hi⟩
  exact((h4.chg g4.wf (oX a3) (fun i _ h e=>by have:=h.1;omega)).gr a3.wf g58).weaken g58.wf fun i _ h=>.inl h
 obtain⟨ds1,ds2⟩:=dropsT_sub nm4 hs2
 obtain⟨cv,H9,Z9,q9,x9,d9,k9⟩:=l_rset cc N hSe (zNw nm4 hs2) (by have:=hs2m.len;omega) (fun h hh=>by have:=hs2m.all h (ds2 h hh);exact⟨by omega,by omega⟩) w3 (.ptr c 0) (.int .i64 now) (.ptr H1.size 0) x g8.wf (by omega) (Q:=Q) (fun i hi=>⟨fun h=>h.elim id (fun h=>by omega),.inl⟩) (fun i hi=>.inr hi)
  (fun Hx hx=>by have:=(d8.chg g8.wf hx (fun i hi h k=>k.elim (fun e=>by omega) (fun e=>by omega)));exact⟨this.rd,this.src⟩) (zBy ageN x.hs) hB (D0:=D0) (fun i h=>⟨by have:=h.2;omega,by have:=h.1;omega⟩) (zNw nm4 hs2) [] w1 H8 Z8 N rfl (by have:=hs2m.len;omega) (Chg.refl g8.wf) x8 d0
 have s89:=q9.size
 have q09:Chg (fun i=>i=x.id) H H9:=(q05.trans (g58.chg (P:=fun _=>False)) fun _ _ h=>h.elim).trans q9 fun i hi h=>h.elim id (fun h=>by omega)
 let D2:Nat->Prop:=fun i=>D i∨D0 i∨(H8.size<=i/\i<H9.size)
 have hx2:RowM D2 H9 { x with hs:=renT hs2 x.hs,hv:=cv }:=by
  have nDx:∀ i,i<H.size->D i->¬(i=x.id):=fun i _ h e=>xd (e ▸ h)
  exact⟨x9,(hx.vs.chg hw q09 nDx).weaken q9.wf (fun i _ h=>.inl h),d9.weaken q9.wf (fun i hi h=>h.elim (fun h=>.inr (.inl h)) (fun h=>.inr (.inr ⟨h,hi⟩))),(hx.bd.chg hw q09 nDx).weaken q9.wf (fun i _ h=>.inl h)⟩
 have cm:CacM P D2 H9 c (rows.map (updR { x with hs:=renT hs2 x.hs,hv:=cv })) puts:=by
  obtain⟨v,h1,h2⟩:=hc.bx
  refine⟨⟨v,h1.chg hw q09 (fun e=>xc e.symm),?_⟩,fun r hr=>?_,fun i hp h=>h.elim (hc.sep i hp) (fun h=>by have:=hc.pl i hp;exact h.elim (fun h=>by have:=h.1;omega) (fun h=>by omega)),fun i h=>by have:=hc.pl i h;omega,fun i h=>h.elim (fun h=>by have:=hc.dl i h;omega) (fun h=>h.elim (fun h=>by have:=h.2;omega) (fun h=>h.2)),hc.pc,fun h=>h.elim hc.dc (fun h=>h.elim (fun h=>by have:=h.1;omega) (fun h=>by omega)),fun r hr=>?_⟩
  ·unfold GenE
   rw[List.length_map,upd_cells];exact GenL.chg h2 hw q09 (fun i _ hp e=>xp (e ▸ hp))
  ·obtain⟨r0,h0,rfl⟩:=List.mem_map.1 hr
   unfold updR
   split
   ·exact hx2
   ·rename_i hne
    exact((hc.mem r0 h0).chg hw q09 (fun i _ hd e=>xd (e ▸ hd)) hne).weaken q9.wf fun i _ h=>.inl h
  ·obtain⟨r0,h0,rfl⟩:=List.mem_map.1 hr
   have nD2:∀ r ∈ rows,¬ D2 r.id:=fun r hr h=>h.elim (hc.pr r hr).2.1 (fun h=>by have:=(hc.mem r hr).bx.bx.lt hw;exact h.elim (fun h=>by have:=h.1;omega) (fun h=>by omega))
   unfold updR
   split
   ·exact⟨xp,nD2 x hxm,xc⟩
   ·exact⟨(hc.pr r0 h0).1,nD2 r0 h0,(hc.pr r0 h0).2.2⟩
 obtain⟨P',H10,Z10,u1,u2,u3,u4⟩:=hSt cm q9.wf (by rw[List.length_map];omega) hp0 hp1 { x with hs:=renT hs2 x.hs,hv:=cv } hx2 xp (fun h=>h.elim xd (fun h=>h.elim (fun h=>by have:=h.1;simp only at this;omega) (fun h=>by have:=h.1;simp only at this;omega))) xc now Z9
 rw[upd_sto]at u1
 have u1':CacM P' D2 H10 c ((rows.filter fun r=>!decide (x.id=r.id))++[{ x with hs:=renT hs2 x.hs,hv:=cv,sto:=now,ord:=puts+1 }]) (puts+1):=u1
 have y10:=u1'.mem _ (List.mem_append.2 (.inr (List.mem_singleton.2 rfl)))
 have s910:=u3.size
 have lr:zAp 3 [.ptr x.id (0+2)] H10=some (.agg [.int .i64 x.st,cv,x.bv]):=zAm y10.bx.bx.cells (by simp[CRow.cells])
 have hrl:(renT hs2 x.hs).length<=1000000:=by have:=(hB (zNw nm4 hs2) [] (by simp)).1;unfold renT;omega
 obtain⟨hvR,bvR,H11,Z11,m,m1,m2,y1,y2,g11,k11⟩:=hCp x.st (renT hs2 x.hs) hrl x.bd hxb u3.wf ⟨y10.hs.rd,y10.hs.src⟩ y10.bd.rd y10.bd.src Z10
 have s1011:=g11.size
 have nq:∀ {j},H.size<=j->j<H3.size->¬((fun i=>P i∨i=c∨i=x.id) j):=fun {j} h1 _ h=>h.elim (fun h=>by have:=hc.pl j h;omega) (fun h=>h.elim (fun h=>by omega) (fun h=>by omega))
 have r9:Bx H9 H1.size [(.int .i64 (.ofNat 0)),.nils,.nils]:=(((zEn r3 g3.wf g4).only a3 (by omega)).chg a3.wf (g58.chg (P:=fun _=>False)) not_false).chg g8.wf q9 (fun h=>h.elim (fun h=>by omega) (fun h=>by omega))
 have r10:Bx H10 H1.size [(.int .i64 (.ofNat 0)),.nils,.nils]:=r9.chg q9.wf u3 (nq (by omega) (by omega))
 have r11:=zEn r10 u3.wf g11
 obtain⟨sv1,sv2⟩:=y1.scal
 obtain⟨sw1,sw2⟩:=y2.scal
 obtain⟨H12,t1,t2,t3⟩:=r11.eStore g11.wf 0 (.agg [.int .i64 x.st,hvR,bvR]) 3 rfl (by simp) (by omega) (by show(true && (hvR.scal && (bvR.scal && true)))=true;rw[sv2,sw2];rfl) Z11
 have t2':Bx H12 H1.size [.int .i64 x.st,hvR,bvR]:=t2
 have l12:zAp 3 [.ptr H1.size 0] H12=some (.agg [.int .i64 x.st,hvR,bvR]):=zAm t2'.cells (by simp)
 have hres:results ⟨(T.s (T.s .leaf 10 (.ptr H1.size 0)) 11 (.bool true)),H12⟩ [(.cell 10 (some 3)),(.t 11)]=some (.tup [.agg [.int .i64 x.st,hvR,bvR],.bool true]):=by
  simp only[results,zLs,zRU,T.get_set,↓reduceIte,Nat.reduceEqDiff,zG5,zOK,l12]
 have oB:Chg (fun i=>i=H1.size) H11 H12:=t3.chg (P:=fun i=>i=H1.size) rfl
 have hP10:∀ i,P' i->i<H10.size/\i≠H1.size:=fun i h=>⟨u1'.pl i h,fun e=>by
  have:=u2 i (by omega) h
  have:=hc.pl i this
  omega⟩
 have hD10:∀ i,D2 i->i<H10.size/\i≠H1.size:=fun i h=>⟨u1'.dl i h,fun e=>h.elim (fun h=>by have:=hc.dl i h;omega) (fun h=>h.elim (fun h=>by have:=h.1;omega) (fun h=>by omega))⟩
 refine⟨P',D2,H12,Z11,hvR,bvR,{ x with hs:=renT hs2 x.hs,hv:=cv,sto:=now,ord:=puts+1 },?_,⟨rfl,rfl,rfl,rfl,rfl,rfl,rfl,rfl⟩,fun i hi h=>u2 i (by omega) h,fun i hi h=>h.elim id (fun h=>h.elim (fun h=>by have:=h.1;omega) (fun h=>by omega)),?_,?_,?_,fun q=>?_⟩
 ·have c11:=u1'.gr u3.wf g11
  obtain⟨v,h1,h2⟩:=c11.bx
  refine⟨⟨v,h1.only t3 (by omega),GenL.chg h2 g11.wf oB (fun i _ h e=>(hP10 i h).2 e)⟩,fun r hr=>(c11.mem r hr).chg g11.wf oB (fun i _ h e=>(hD10 i h).2 e) ?_,c11.sep,fun i h=>by rw[t3.size];exact c11.pl i h,fun i h=>by rw[t3.size];exact c11.dl i h,c11.pc,c11.dc,c11.pr⟩
  have:r.id<H.size:=by
   rcases List.mem_append.1 hr with h | h
   ·exact(hc.mem r (List.mem_filter.1 h).1).bx.bx.lt hw
   ·rw[List.mem_singleton.1 h];exact hxi
  intro e;omega
 ·exact(y2.chg g11.wf oB (fun i _ h e=>by omega)).weaken t3.wf (fun i hi h=>⟨by omega,fun hp=>by have:=(hP10 i hp).1;omega,fun hd=>by have:=(hD10 i hd).1;omega,hi⟩)
 ·refine⟨m,H11.size,by omega,by omega,by rw[t3.size];exact Nat.le_refl _,fun i h1 h2=>⟨fun hp=>by have:=(hP10 i hp).1;omega,fun hd=>by have:=(hD10 i hd).1;omega⟩,y2.chg g11.wf oB (fun i _ h e=>by omega),?_⟩
  exact(GenL.chg y1 g11.wf oB (fun i _ h e=>by omega)).weaken t3.wf (fun i hi h=>⟨by omega,hi,fun hp=>by have:=(hP10 i hp).1;omega,fun hd=>by have:=(hD10 i hd).1;omega,fun k=>by omega⟩)
 ·have w1':Chg (fun i=>P i∨i=c∨i=x.id) H H9:=q09.weaken fun i _ h=>.inr (.inr h)
  exact((w1'.trans u3 fun i _ h=>h).trans (g11.chg (P:=fun _=>False)) fun _ _ h=>h.elim).trans oB fun i hi e=>by omega
 ·have en:lPeq false [rpV x,.nilp] H3=some (.bool false):=rfl
  have eo:outV (some x)=rpV x:=rfl
  have nckx:zf [rpV x]=some (.ptr x.id 0):=rfl
  have nckp:zf [.ptr x.id 0]=some (.ptr x.id 0):=rfl
  have ba:bs [97,103,101]=ageN:=rfl
  have pl4:pLen [.sl H6.size 0 4 4 none 1]=some (.int .i64 (nm4.length:Int)):=rfl
  have pl8:=d8.rd.pLen
  have u4':∀ q,cc zBu [.ptr c 0,.ptr x.id 0,.int .i64 now] H9 Z9 q=q (.tup []) H10 Z10:=u4
  simp only[zFT,e0,e1,zT,k3,eo,en,zI,zK,nckx,zC,l3,ba,k4,a1',lh2,k6,e7,pl4]
  rw[k8 _ _ (by simp[T.get_set]) (by simp[T.get_set]) (by simp[T.get_set]) (by simp[T.get_set];rfl) (by simp[T.get_set]) (by simp[T.get_set]) (by simp[T.get_set]) (by simp[T.get_set])]
  simp only[zU,Nat.beq_refl,cond_true,seqK,zIj,zO,↓reduceIte,Nat.reduceEqDiff,pl8,zI]
  rw[k9 _ _ (by simp[T.get_set]) (by simp[T.get_set]) (by simp[T.get_set]) (by simp[T.get_set]) (by simp[T.get_set]) (by simp[T.get_set]) (by simp[T.get_set])]
  simp only[zU,Nat.beq_refl,cond_true,seqK,zIc,zO,↓reduceIte,Nat.reduceEqDiff,u4',nckp,zC,zI,lr,k11,t1,zT,hres]
end Go.Am.X

namespace Go.Am.X
abbrev Fm0Pre:List V->Prop
 | [.int .i64 n,.int .i64 b]=>n=0/\b=10
 | _=>False
abbrev Fm0G:List V->V
 | [.int .i64 n,.int .i64 b]=>.str [48]
 | _=>.tup []
theorem fm0_run:(fun Z=>allA [0] fun n=>zPH (zNZ tabEk 100000) 40 zAc [.int .i64 (Int.ofNat n),.int .i64 (.ofNat 10)] (start (List.replicate 6 none)) Z (isK (.str [48])))=fun _=>doneA:=by kernel_rfl
theorem p_fm0:∀ base w0,zCP PG base w0 zAc (outP (RV Fm0Pre Fm0G)):=by
 refine primOk_const zMT allk_ok (tabk_ok 100000) (by kernel_rfl) (N:=100000) (d:=40) 6 (Nat.le_of_eq (by kernel_rfl)) ?_
 intro vs hp
 unfold Fm0Pre at hp
 split at hp
 ·obtain⟨rfl,rfl⟩:=hp
  exact⟨rfl,fun Z=>allA_run fm0_run (x:=0) (by simp) Z⟩
 ·exact hp.elim
end Go.Am.X

namespace Go.Am.X
end Go.Am.X

namespace Go.Am.X
noncomputable abbrev zJ:List Row:=[Row.fn zIv zC5 zGW,Row.fn zMe zFB zKS,Row.fn zEl zBj zEj,Row.fn zB7 zBR zEE,Row.fn zEA zBK zD0,Row.fn zDM zBk zEt,Row.fn zBM zA8 zDQ,Row.fn zBu zA7 zDV,Row.fn zEH zCv zHF,Row.fn zII zDJ zH4,Row.fn zF4 zCK zGF,Row.fn zAW zk zA3,Row.fn zB4 zu zBC,Row.fn zBp zAJ zBo,Row.fn zAM zAf zCq,Row.fn zFX zA9 zDO,Row.fn zOX zGC zMC,Row.prim zAh (outP (RH zOE GetG)),Row.prim zDu (outP (RH SetPre SetG)),Row.prim zCD (outP (RH zQr CtlG)),Row.prim zIu (outP (RH zQr VaryG)),Row.prim zGE (outP (RH zRG AgeG)),Row.prim zHV (outP (RH zRG FreshG)),Row.prim zAc (outP (RV Fm0Pre Fm0G)),Row.prim zHz zLU,Row.fn zAq zBm zEC,Row.fn zBn zBT zDd,Row.fn zCR zBW zDf,Row.fn zDo zDN zHM,Row.fn zF8 zGX zLN,Row.fn zDT zCI zFY,Row.fn zF5 zDq zIS,Row.prim zDK (outP (RH zRP DropG))]
theorem zSK:zNK PG zJ :=
 .fn zLQ zJq (.fn zNt zLY (.fn zIK zGn (.fn zHO zFz (.fn zHT zF2 (.fn zHx zGk (.fn zGo zFj (.fn zGm zFh (.fn zKY zIy (.fn zLX zJh (.fn zJb zHr (.fn zCs zCM (.fn zC9 zCa (.fn zDm zDH (.fn zFk zEu (.fn zGp zFi (.fn zPd zMp (.prim zPj (.prim zS6 (.prim zRI (.prim p_age_Vary (.prim p_age_Age (.prim p_age_Fresh (.prim p_fm0 (.prim zJT (.fn zIf zHl (.fn zH0 zG6 (.fn zH6 zG3 (.fn zME zKl (.fn zPh zOI (.fn zJo zIs (.fn zM2 zLP (.prim zR5 (.nil _)))))))))))))))))))))))))))))))))
section
variable {N:Nat} (hN:9223372036854775808<N)
include hN
theorem ck_get (d:Nat):zSc (CR zJ N (d+1)):=fun hs _ hn _ _ hr Z q=>k_Get (c:=CR zJ N (d+1)) (f:=zAh) (fun _ _ _ _=>rfl) hs hn hr Z q
theorem ck_par (d:Nat):ParsOk (CR zJ N (d+1)):=fun hs _ _ hr Z q=>k_Ctl (c:=CR zJ N (d+1)) (f:=zCD) (fun _ _ _ _=>rfl) hs hr Z q
theorem ck_age (d:Nat):AgeOkC (CR zJ N (d+1)):=fun hs _ _ ha hb _ _ hr Z q=>k_Age (c:=CR zJ N (d+1)) (f:=zGE) (fun _ _ _ _=>rfl) hs ha hb hr Z q
theorem ck_frs (d:Nat):FrsOkC (CR zJ N (d+1)):=fun hs _ _ ha hb _ _ hr Z q=>k_Fresh (c:=CR zJ N (d+1)) (f:=zHV) (fun _ _ _ _=>rfl) hs ha hb hr Z q
theorem ck_set (d:Nat):SetOkC (CR zJ N (d+1)):=fun h1 h2 h3 h4 _ _ hw hr Z=>by
 obtain⟨r,H',Z',g,a,_,k⟩:=k_Set (c:=CR zJ N (d+1)) (f:=zDu) (fun _ _ _ _=>rfl) (Pre:=SetPre) ⟨h1,h2,h3,h4⟩ hw hr Z
 exact⟨r,H',Z',fun h=>(a h).1,g,k⟩
theorem ck_vary (d:Nat):VaryOkC (CR zJ N (d+1)):=fun {hs} hsm h3 {lv} {H} hw hr Z=>by
 have hg:VaryG (isNil lv) hs []=lstO 1 (zGL hs).length ((zGL hs).map V.str) (fun v=>.tup [v,.bool true]):=by
  show varyO hs=_
  unfold varyO
  rw[if_neg (by rw[h3];decide)]
  rfl
 obtain⟨v',H',Z',r1,r2,r3⟩:=RH_lstO (c:=CR zJ N (d+1)) (f:=zIu) (l:=[]) (fun _ _ _ _=>rfl) hr hsm hg hw (by simp) Z
 exact⟨v',H',Z',r1,r2,r3⟩
theorem ck_mt (d:Nat):MeantOk (CR zJ N (d+1)):=fun url _ ha _ hw Z=>zQK (CR zJ N d) N url ha hw Z
theorem ck_m1 (d:Nat):zOb (CR zJ N (d+2)):=fun hsm _ _ _ _ _ _ hw hr h1 h2 hu hb ha Z=>by
 obtain⟨H',Z',g,k⟩:=zPN (CR zJ N (d+1)) (N:=N) (by omega) (ck_get hN d) hsm hw hr h1 h2 hu hb ha Z
 exact⟨H',Z',g,fun q=>k q⟩
theorem ck_idx (d:Nat):zP8 (CR zJ N (d+1)) (CR zJ N d):=fun f fv _ _ hw hs hl v hr hf hP Z=>zIU (CR zJ N d) (N:=N) (by omega) f fv hw hs hl v hr hf hP Z
theorem ck_del (d:Nat):DelC (CR zJ N (d+2)) (CR zJ N d) (CR zJ N (d+1)):=fun f fv _ _ hw hs hl v hg hf' hf hP Z=>zHs (CR zJ N (d+1)) (CR zJ N d) (N:=N) (by omega) (ck_idx hN d) f fv hw hs hl v hg hf' hf hP Z
theorem ck_del0 (d:Nat):Del0C (CR zJ N (d+1)):=fun hg hw hl hl' Z=>zJY (CR zJ N d) N hg hw hl hl' Z
theorem ck_u1 (d:Nat):Use1Ok (CR zJ N (d+1)):=fun ha hx hr Z q=>zQd (CR zJ N d) N ha hx hr Z q
theorem ck_use (d:Nat):UseOk (CR zJ N (d+4)):=fun hc hw hl x hx h1 h2 h3 Z=>zNd (CR zJ N (d+3)) (CR zJ N (d+1)) (CR zJ N (d+2)) N (ck_del hN (d+1)) (ck_u1 hN d) (ck_u1 hN (d+1)) hc hw hl x hx h1 h2 h3 Z
theorem ck_sto (d:Nat):StoOk (CR zJ N (d+5)):=fun hc hw hl h0 h1 x hx h2 h3 h4 now Z=>zMb (CR zJ N (d+4)) N (ck_use hN d) hc hw hl h0 h1 x hx h2 h3 h4 now Z
theorem ck_cop (d:Nat):CopOk (CR zJ N (d+2)):=fun st hs hl bd hbl _ _ _ hw hr br bsr Z=>zPy (CR zJ N (d+1)) N (fun hs hl v H hw hr hsr Z=>zET (CR zJ N d) N hs hl v H hw hr hsr Z) (fun hw hr hs hn Z=>zMk (CR zJ N d) N hw hr hs hn Z) st hs hl bd hbl hw hr br bsr Z
theorem ck_fi (d:Nat):FiOk (CR zJ N (d+3)):=fun hc hw hl hok url _ hsm _ ha Z=>zNO (CR zJ N (d+2)) (N:=N) (by omega) (ck_mt hN (d+1)) (ck_m1 hN d) (ck_par hN (d+1)) hc hw hl hok url hsm ha Z
theorem ck_drp (d:Nat):DrpOkC (CR zJ N (d+1)):=drpOkC_of (c:=CR zJ N (d+1)) (fun _ _ _ _=>rfl)
theorem ck_cln (d:Nat):ClnHOk (CR zJ N (d+1)):=fun hs hl v H hw hr hsr Z=>zET (CR zJ N d) N hs hl v H hw hr hsr Z
end
end Go.Am.X

namespace Go.Am.X
abbrev PutOkR (cc:zD):Prop:=∀ {P D E:Nat->Prop} {H:Heap} {c:Nat} {rows:List CRow} {puts:Int} (hc:CacM P D H c rows puts) (hw:WF H) (hl:rows.length<=100) (hok:∀ r ∈ rows,OkVs r) (hp0:0<=puts) (hp1:puts<4611686018427387904) (url:Bs) {ask hs:List Hd} (ham:Small ask) (hsm:Small hs) (hhl:hs.length<=1000000) (bd:List V) (hbl:bd.length<=100000000) {av hv bv:V} (hE:∀ i,E i->i<H.size/\¬ P i/\i≠c) (ha:DatP E H 2 av ask.length (hcells ask)) (hh:DatP E H 2 hv hs.length (hcells hs)) (hb:DatP E H 1 bv bd.length bd) (n1:(zCH hs).1=false) (n2:(zCH ask).1=false) (n3:(zB8 zQi hs).contains [42]=false) (hnl:(zGL hs).length<=1000000) (hns:∀ n ∈ zGL hs,n.length<=140737488355328) (now:Int) (Z:Tape),∃ P' D' H' Z' x,CacM P' D' H' c (cutC (rows.filter fun r=>!zM6 url ask r)++[x]) (puts+1)/\(x.url=url/\x.vs=(zGL hs).map (vryT ask)/\x.st=200/\x.hs=hs/\x.bd=bd/\x.sto=now/\x.ord=puts+1/\H.size<=x.id)/\(∀ i,i<H.size->P' i->P i)/\(∀ i,i<H.size->D' i->D i)/\Chg (fun i=>P i∨i=c) H H'/\∀ q,cc zEl [(.ptr c 0),(.str url),av,(.agg [.int .i64 (.ofNat 200),hv,bv]),(.int .i64 now)] H Z q=q (.bool true) H' Z'
abbrev FndOkR (cc:zD):Prop:=∀ {P D E:Nat->Prop} {H:Heap} {c:Nat} {rows:List CRow} {puts:Int} (hc:CacM P D H c rows puts) (hw:WF H) (hl:rows.length<=1000) (hok:∀ r ∈ rows,OkVs r) (url:Bs) {ask:List Hd} (ham:Small ask) {av:V} (hE:∀ i,E i->i<H.size/\¬ P i/\i≠c) (ha:DatP E H 2 av ask.length (hcells ask)) {x:CRow} (hn:zPz url ask rows=some x) (hxs:Small x.hs) (hxl:x.hs.length<1000000) (hxn:∀ h ∈ x.hs,h.1.length<=140737488355328) (hxb:x.bd.length<=100000000) (he:(sel etagN x.hs).length=0) (hm:(sel lastN x.hs).length=0) {now:Int} (hin:InI now) (his:InI x.sto) {s:Bs} (hsl:s.length<=100) (hF:∀ H',Chg (fun i=>P i∨i=c) H H'->∀ Z q,cc zAc [.int .i64 (ageT x.hs x.sto now),.int .i64 (.ofNat 10)] H' Z q=q (.str s) H' Z) (Z:Tape),∃ P' H' Z' hvF bvF nh ch,CacM P' D H' c (useT x rows) puts/\(∀ i,i<H.size->P' i->P i)/\BodP (fun i=>H.size<=i/\¬ P' i/\i<H'.size) H' bvF x.bd.length x.bd/\HvBv P' D H H' hvF nh ch bvF x.bd.length x.bd/\Chg (fun i=>P i∨i=c) H H'/\∀ q,cc zB7 [(.ptr c 0),(.str url),av,(.int .i64 now)] H Z q=q (.agg [.int .i64 (if zOJ ask x now=true then 2 else 1),.int .i64 x.st,hvF,bvF,.nils]) H' Z'
abbrev RenOkR (cc:zD):Prop:=∀ {P D E:Nat->Prop} {H:Heap} {c:Nat} {rows:List CRow} {puts:Int} (hc:CacM P D H c rows puts) (hw:WF H) (hl:rows.length<=900) (hok:∀ r ∈ rows,OkVs r) (hp0:0<=puts) (hp1:puts<4611686018427387904) (url:Bs) {ask hs2:List Hd} (ham:Small ask) (hs2m:Small hs2) {av hv2 bv2:V} (ha:RdH H av ask) (st2:Int) (hE:∀ i,E i->i<H.size/\¬ P i/\i≠c/\∀ r ∈ rows,i≠r.id) (hh:DatP E H 2 hv2 hs2.length (hcells hs2)) {x:CRow} (hn:zPz url ask rows=some x) (hxl:x.hs.length<=1000000) (hxn:∀ h ∈ x.hs,h.1.length<=140737488355328) (hxb:x.bd.length<=100000000) (hB:∀ pre l,zNw nm4 hs2=pre++l->(zJZ pre (zBy ageN x.hs)).length<1000000/\∀ h ∈ zJZ pre (zBy ageN x.hs),h.1.length<=140737488355328) (now:Int) (Z:Tape),∃ P' D' H' Z' hvR bvR y,CacM P' D' H' c ((rows.filter fun r=>!decide (x.id=r.id))++[y]) (puts+1)/\(y.url=x.url/\y.vs=x.vs/\y.st=x.st/\y.hs=renT hs2 x.hs/\y.bd=x.bd/\y.sto=now/\y.ord=puts+1/\y.id=x.id)/\(∀ i,i<H.size->P' i->P i)/\(∀ i,i<H.size->D' i->D i)/\BodP (fun i=>H.size<=i/\¬ P' i/\¬ D' i/\i<H'.size) H' bvR x.bd.length x.bd/\HvBv P' D' H H' hvR (renT hs2 x.hs).length (hcells (renT hs2 x.hs)) bvR x.bd.length x.bd/\Chg (fun i=>P i∨i=c∨i=x.id) H H'/\∀ q,cc zDT [(.ptr c 0),(.str url),av,(.agg [.int .i64 st2,hv2,bv2]),(.int .i64 now)] H Z q=q (.tup [.agg [.int .i64 x.st,hvR,bvR],.bool true]) H' Z'
end Go.Am.X

namespace Go.Am.X
end Go.Am.X

namespace Go.Am.X
end Go.Am.X

namespace Go.Am.X
section
variable {N:Nat} (hN:9223372036854775808<N)
include hN
end
end Go.Am.X

namespace Go.Am.X
def hsM (l:Bs):List Hd:=[([67,97,99,104,101,45,67,111,110,116,114,111,108],[109,97,120,45,97,103,101,61]++l)]
theorem selM (l:Bs):(sel etagN (hsM l)).length=0/\(sel lastN (hsM l)).length=0:=by constructor <;> kernel_rfl
theorem varyM (l:Bs):(zB8 zQi (hsM l)).contains [42]=false/\zGL (hsM l)=[]:=by constructor <;> kernel_rfl
end Go.Am.X

namespace Go.Am.X
section
variable {N:Nat} (hN:9223372036854775808<N)
include hN
end
end Go.Am.X

namespace Go.Am.X
theorem parse0:(zCH []).1=false/\(zCH []).2.1=false:=by constructor <;> kernel_rfl
theorem small0:Small []:=⟨by decide,fun h hh=>by simp at hh⟩
end Go.Am.X

namespace Go.Am.X
abbrev NewOkU (c:zD):Prop:=∀ {H:Heap},WF H->∀ Z,∃ H',CacM (fun _=>False) (fun _=>False) H' H.size [] 0/\Gr H.size H H'/\H'.size=H.size+1/\∀ q,c zMe [] H Z q=q (.ptr H.size 0) H' Z
theorem zSA (c:zD)(N:Nat)(s:Bs)(H:Heap)(Z:Tape)(q:KV):zOZ c N (.str s) H Z q=q (.sl H.size 0 1 1 none 2) (H.new [.str [67,97,99,104,101,45,67,111,110,116,114,111,108],.str s] 2 false) Z:=by
 have pb:zFA [(.str []),(.str [])] [(0,1),(1,1)] [.str (bs [67,97,99,104,101,45,67,111,110,116,114,111,108]),.str s]=some (.agg [.str [67,97,99,104,101,45,67,111,110,116,114,111,108],.str s]):=rfl
 have e0:zR 1 2 [(.str []),(.str [])] [(0,2)] [.agg [.str [67,97,99,104,101,45,67,111,110,116,114,111,108],.str s]] H Z=some (.sl H.size 0 1 1 none 2,H.new [.str [67,97,99,104,101,45,67,111,110,116,114,111,108],.str s] 2 false,Z):=rfl
 simp only[zOZ,pb,zI,e0,zT]
theorem zSj {c:zD}{f:Nat}(h:∀ vs H Z q,c f vs H Z q=effK (zLU vs H Z) q):∀ H Z q,c f [] H Z q=q (.bool true) H Z:=fun H Z q=>by rw[h];rfl
end Go.Am.X

namespace Go.Am.X
section
variable {N:Nat} (hN:9223372036854775808<N)
include hN
end
end Go.Am.X

namespace Go.Am.X
theorem cells_key {H:Heap}{id:Nat}{all:List V}(h:H.cells? id=some all):∃ room fam ver wr pl st fr la,H.blk.get id=some (.mem all room fam ver wr pl st)/\H.fams.get fam=some (fr,la)/\fr<=ver:=by
 unfold Heap.cells? at h
 split at h
 ·rename_i cs room fam ver wr pl st hb
  split at h
  ·rename_i fr la hf
   cases hb2:Nat.ble fr ver with
   | true =>
    rw[hb2]at h
    have h':cs=all:=by simpa using h
    subst h'
    exact⟨room,fam,ver,wr,pl,st,fr,la,hb,hf,Nat.le_of_ble_eq_true hb2⟩
   | false=>rw[hb2]at h;simp at h
  ·cases h
 ·cases h
theorem DatP.any {H:Heap}(hw:WF H){z n:Nat}{v:V}{cs:List V}(h:Rd H z v n cs)(hs:Src H v):DatP (fun i=>i<H.size) H z v n cs:=by
 rcases h with⟨h | ⟨id,off,lo,ex,rfl⟩,rfl,rfl⟩ | ⟨id,off,lo,ex,all,rfl,h1,h2,h3⟩
 ·exact .inl ⟨h,rfl,rfl⟩
 ·obtain⟨all,ha⟩:=hs
  obtain⟨room,fam,ver,wr,pl,st,fr,la,hb,hf,hv⟩:=cells_key ha
  exact .inr ⟨id,off,lo,ex,all,room,fam,ver,wr,pl,st,fr,la,rfl,hb,hf,hv,hw.blk _ _ hb,hw.fam _ _ _ _ _ _ _ _ hb,by simp,by simp⟩
 ·obtain⟨room,fam,ver,wr,pl,st,fr,la,hb,hf,hv⟩:=cells_key h1
  exact .inr ⟨id,off,lo,ex,all,room,fam,ver,wr,pl,st,fr,la,rfl,hb,hf,hv,hw.blk _ _ hb,hw.fam _ _ _ _ _ _ _ _ hb,h2.symm,h3⟩
end Go.Am.X

namespace Go.Am.X
end Go.Am.X

namespace Go.Am.X
theorem zQ7 (c:zD)(N:Nat)(a b:V)(la lb:List Nat)(hlen:la.length<1000000000000)(H:Heap)(ha:Rd H 1 a la.length (ws .u8 la))(hb:Rd H 1 b lb.length (ws .u8 lb))(heq:la.length=lb.length) :
  ∀ (l1 l2 pre:List Nat) (fr:T V) (Z:Tape) (m:Nat),la=pre++l1->lb=pre++l2->l1.length<m->fr.get 0=some a->fr.get 1=some b->fr.get 5=some (.int .i64 (pre.length:Int)) ->
  ∀ k,zAP (zDU c N) m ⟨fr,H⟩ Z k=if l1=l2 then k (.exit 0) ⟨.leaf,H⟩ Z else k .ret ⟨(T.s .leaf 4 (.bool false)),H⟩ Z:=by
 intro l1
 induction l1 with
 | nil =>
  intro l2 pre fr Z m h1 h2 hm f0 f1 f5 k
  obtain⟨m,rfl⟩:∃ j,m=j+1:=⟨m-1,by omega⟩
  have e:l2=[]:=by
   have h3:=congrArg List.length h1
   have h4:=congrArg List.length h2
   rw[List.length_append]at h3 h4
   have:l2.length=0:=by simp only[List.length_nil]at h3;omega
   exact List.eq_nil_of_length_eq_zero this
  subst e
  have e1:decide ((pre.length:Int)<(la.length:Int))=false:=decide_eq_false (by rw[h1];simp)
  rw[zF,if_pos rfl]
  simp only[zDU,zA f0,zA f1,zA f5,ha.pLen,zP,zL,e1,zAb]
  rfl
 | cons x l1 ih =>
  intro l2 pre fr Z m h1 h2 hm f0 f1 f5 k
  obtain⟨m,rfl⟩:∃ j,m=j+1:=⟨m-1,by omega⟩
  cases l2 with
  | nil=>exfalso;rw[h1,h2]at heq;simp at heq
  | cons y l2 =>
   have e1:decide ((pre.length:Int)<(la.length:Int))=true:=decide_eq_true (by rw[h1];simp;omega)
   obtain⟨p,p1,p2⟩:=ha.elem1 (i:=pre.length) (x:=.int .u8 (x:Int)) (by rw[h1];simp[ws])
   obtain⟨p',p3,p4⟩:=hb.elem1 (i:=pre.length) (x:=.int .u8 (y:Int)) (by rw[h2];simp[ws])
   rw[zF]
   by_cases hxy:x=y
   ·subst hxy
    have e2:((x:Int) !=(x:Int))=false:=by simp
    have hl:pre.length<la.length:=by rw[h1];simp
    have e3:wr .i64 ((pre.length:Int)+Int.ofNat 1)=((pre++[x]).length:Int):=by
     rw[zGB (by simp;omega) (by simp;omega)];simp
    simp only[zDU,zA f0,zA f1,zA f5,ha.pLen,zP,zL,e1,zBQ,p1,p2,p3,p4,zAE,e2,zAb,zS,e3]
    have:=ih l2 (pre++[x]) ((T.s (T.s (T.s (T.s (T.s (T.s .leaf 0 a) 1 b) 5 (.int .i64 (pre.length:Int))) 15 (.int .i64 (pre.length:Int))) 16 (.int .i64 ((pre++[x]).length:Int))) 5 (.int .i64 ((pre++[x]).length:Int))))
     Z m (by rw[h1];simp) (by rw[h2];simp) (by simp at hm;omega) (by simp[T.get_set]) (by simp[T.get_set]) (by simp[T.get_set]) k
    have hif:(x::l1=x::l2)=(l1=l2):=by simp
    simp only[hif]
    exact this
   ·have e2:((x:Int) !=(y:Int))=true:=by simp;omega
    have hif:¬(x::l1=y::l2):=by simp[hxy]
    rw[if_neg hif]
    simp only[zDU,zA f0,zA f1,zA f5,ha.pLen,zP,zL,e1,zBQ,p1,p2,p3,p4,zAE,e2]
    rfl
theorem zOk (c:zD)(N:Nat)(hN:9223372036854775807<=N)(a b:V)(la lb:List Nat)(hlen:la.length<1000000000000)(H:Heap)(ha:Rd H 1 a la.length (ws .u8 la))(hb:Rd H 1 b lb.length (ws .u8 lb))(Z:Tape)(q:KV) :
  zDt c N a b H Z q=q (.bool (decide (la=lb))) H Z:=by
 by_cases heq:la.length=lb.length
 ·have e2:((la.length:Int) !=(lb.length:Int))=false:=by simp;omega
  simp only[zDt,ha.pLen,hb.pLen,zP,zAE,e2,zAb]
  rw[zQ7 c N a b la lb hlen H ha hb heq la lb [] _ Z N rfl rfl (by omega) (by simp[T.get_set]) (by simp[T.get_set]) (by simp[T.get_set])]
  by_cases h:la=lb
  ·rw[if_pos h,decide_eq_true h];rfl
  ·rw[if_neg h,decide_eq_false h];rfl
 ·have e2:((la.length:Int) !=(lb.length:Int))=true:=by simp;omega
  have h:¬ la=lb:=fun h=>heq (by rw[h])
  simp only[zDt,ha.pLen,hb.pLen,zP,zAE,e2,zBQ]
  rw[decide_eq_false h]
def markB (i j:Nat):Nat:=(i+1) / 2 ^ (min (8*(j % 3)) 64) % 256
theorem zQx (c:zD)(N:Nat)(i j:Nat)(hi:i<1000000)(hj:j<9223372036854775808)(H:Heap)(Z:Tape)(q:KV) :
  zJP c N (.int .i64 (i:Int)) (.int .i64 (j:Int)) H Z q=q (.int .u8 (markB i j:Nat)) H Z:=by
 have e1:wr .i64 ((i:Int)+Int.ofNat 1)=((i+1:Nat):Int):=by rw[zGB (by simp;omega) (by simp;omega)];simp
 have e2:(j:Int).tmod (Int.ofNat 3)=((j % 3:Nat):Int):=by rw[show Int.ofNat 3=((3:Nat):Int)from rfl,<- Int.ofNat_tmod]
 have e3:wr .i64 (Int.ofNat 8*((j % 3:Nat):Int))=((8*(j % 3):Nat):Int):=by rw[zGB (by simp;omega) (by simp;omega)];simp
 have e4:(8*(j % 3)) % pow2 .u64=8*(j % 3):=by
  apply Nat.mod_eq_of_lt
  have:pow2 .u64=18446744073709551616:=by decide
  omega
 simp only[zJP,zS,e1,bin_rem _ _ (Int.ofNat 3) (by decide),e2,bin_mul,e3,zTR,uk64 _,e4,u_shr,uk8 _]
 rfl
end Go.Am.X

namespace Go.Am.X
theorem fewC_ret (c:zD)(N:Nat)(v:V)(n k:Nat)(cs:List V)(hk:0<k)(hkk:k<1000000)(H:Heap)(hR:Roomy v)(hRd:Rd H 1 v n cs) :
  ∃ v',Roomy v'/\(∀ H',Src H' v->Src H' v')/\(∀ H',Rd H' 1 v n cs->Rd H' 1 v' (min n k) (cs.take k))/\∀ H Z q,zEm c N v (.int .i64 (k:Int)) H Z q=q v' H Z:=by
 by_cases h:k<n
 ·rcases hRd with⟨_,h0,_⟩ | ⟨id,off,lo,ex,all,rfl,q1,q2,q3⟩
  ·omega
  ·have hb:zCL false true false [V.int .i64 (k:Int)]=some (none,some k,none):=by simp only[zCL,optN,zSq]
   have hwi:within k lo ex=true:=by have hR:within n lo ex=true:=hR;rw[within_iff]at hR ⊢;omega
   have h0:Nat.ble 0 k=true:=Nat.ble_eq_true_of_le (Nat.zero_le _)
   have h1:Nat.ble 0 lo=true:=Nat.ble_eq_true_of_le (Nat.zero_le _)
   have e1:decide ((k:Int)<(n:Int))=true:=decide_eq_true (by omega)
   refine⟨.sl id off k lo ex 1,hwi,fun _ h=>h,fun H' hd=>?_,fun H Z q=>?_⟩
   ·rcases hd with⟨_,h0,_⟩ | ⟨id',off',lo',ex',all',e,q1,q2,q3⟩
    ·omega
    ·cases e
     rw[Nat.min_eq_right (by omega)]
     refine .inr ⟨id,off,lo,ex,all',rfl,q1,?_,?_⟩
     ·rw[q2,List.take_take];congr 1;omega
     ·rw[List.length_take];omega
   ·have hp:pLen [V.sl id off n lo ex 1]=some (.int .i64 (n:Int)):=rfl
    have hs:zt 1 false true false [V.sl id off n lo ex 1,V.int .i64 (k:Int)]=some (.sl id off k lo ex 1):=by
     simp only[zt,Nat.beq_refl,cond_true,hb,zNc,Option.getD_some,Option.getD_none,hwi,h0,Bool.and_self,h1,zOm,Nat.sub_zero]
    simp only[zEm,hp,zP,ze,e1,zBQ,hs]
 ·have e1:decide ((k:Int)<(n:Int))=false:=decide_eq_false (by omega)
  refine⟨v,hR,fun _ h=>h,fun H' hd=>?_,fun H Z q=>?_⟩
  ·rw[Nat.min_eq_left (by omega),List.take_of_length_le (by have:=hd.len;omega)]
   exact hd
  ·simp only[zEm,hRd.pLen,zP,ze,e1,zAb]
theorem ws_takeC (la:List Nat)(k:Nat):(ws .u8 la).take k=ws .u8 (la.take k):=by simp[ws,List.map_take]
theorem find1 {x:CRow}(hv:x.vs=[]):zPz x.url [] [x]=some x:=by
 unfold zPz
 rw[parse0.1,if_neg (by decide)]
 simp[zRM,zM6,hv]
end Go.Am.X

namespace Go.Am.X
section
variable {N:Nat} (hN:9223372036854775808<N)
include hN
theorem ck_PutOkR:PutOkR (CR zJ N 7):=fun {P D E} {H} {c} {rows} {puts} hc hw hl hok hp0 hp1 url {ask hs} ham hsm hhl bd hbl {av hv bv} hE ha hh hb n1 n2 n3 hnl hns now Z=>zOF (CR zJ N 6) (CR zJ N 4) (CR zJ N 5) (N:=N) (by omega) (ck_vary hN 5) (ck_par hN 5) (ck_mt hN 5) (ck_m1 hN 2) (ck_m1 hN 3) (ck_del hN 4) (ck_del0 hN 5) (ck_cop hN 4) (ck_get hN 5) (ck_sto hN 1) hc hw hl hok hp0 hp1 url ham hsm hhl bd hbl hE ha hh hb n1 n2 n3 hnl hns now Z
theorem ck_FndOkR:FndOkR (CR zJ N 7):=fun {P D E} {H} {c} {rows} {puts} hc hw hl hok url {ask} ham {av} hE ha {x} hn hxs hxl hxn hxb he hm {now} hin his {s} hsl hF Z=>zMd (CR zJ N 6) N (ck_fi hN 3) (ck_use hN 2) (ck_cop hN 4) (ck_age hN 5) (ck_frs hN 5) (ck_set hN 5) (ck_get hN 5) (ck_par hN 5) hc hw hl hok url ham hE ha hn hxs hxl hxn hxb he hm hin his hsl hF Z
theorem ck_RenOkR:RenOkR (CR zJ N 7):=fun {P D E} {H} {c} {rows} {puts} hc hw hl hok hp0 hp1 url {ask hs2} ham hs2m {av hv2 bv2} ha st2 hE hh {x} hn hxl hxn hxb hB now Z=>zMG (CR zJ N 6) (N:=N) (by omega) (ck_fi hN 3) (ck_drp hN 5) (ck_cln hN 5) (ck_set hN 5) (ck_sto hN 1) (ck_cop hN 4) hc hw hl hok hp0 hp1 url ham hs2m ha st2 hE hh hn hxl hxn hxb hB now Z
end
end Go.Am.X

namespace Go.Am.X
abbrev ccN:Bs:=[67,97,99,104,101,45,67,111,110,116,114,111,108]
abbrev CcOkU (cc:zD):Prop:=∀ (s:Bs) (H:Heap) (Z:Tape) (q:KV),cc zOX [.str s] H Z q=q (.sl H.size 0 1 1 none 2) (H.new [.str ccN,.str s] 2 false) Z
theorem datM {H:Heap}(w:Bs){s:Bs}(e:s=[109,97,120,45,97,103,101,61]++w):DatP (fun i=>i=H.size) (H.new [.str ccN,.str s] 2 false) 2 (.sl H.size 0 1 1 none 2) (hsM w).length (hcells (hsM w)):=by
 subst e
 obtain⟨room,ver,pl,st,fr,h1,h2,h3,_⟩:=Bx.new H [.str ccN,.str ([109,97,120,45,97,103,101,61]++w)] 2 false (by simp)
 exact .inr ⟨H.size,0,1,none,_,room,H.size,ver,true,pl,st,fr,ver,rfl,h1,h2,h3,rfl,rfl,rfl,rfl⟩
theorem body_cells {H:Heap}{v:V}{n:Nat}{cs:List V}(h:Rd H 1 v n cs):v=.nils∨∃ id off lo ex,v=.sl id off n lo ex 1:=by
 rcases h with⟨rfl | ⟨id,off,lo,ex,rfl⟩,rfl,_⟩ | ⟨id,off,lo,ex,all,rfl,_⟩
 ·exact .inl rfl
 ·exact .inr ⟨id,off,lo,ex,rfl⟩
 ·exact .inr ⟨id,off,lo,ex,rfl⟩
end Go.Am.X

namespace Go.Am.X
end Go.Am.X

namespace Go.Am.X
end Go.Am.X

namespace Go.Am.X
set_option maxHeartbeats 1000000
theorem newvC {H:Heap}(hw:WF H)(zs:List V)(u:V)(n:Nat)(hz:zs.length=n)(hn:u.cells.length=n)(hn0:0<n)(hs:u.cells.all V.scal=true)(Z:Tape) :
  ∃ H1 H',zB6 zs [] H Z=some (.ptr H.size 0,H1,Z)/\eStore n [.ptr H.size 0,u] H1 Z=some (.tup [],H',Z)/\Bx H' H.size u.cells/\Gr H.size H H'/\H'.size=H.size+1:=by
 have g1:=Gr.new hw zs zs.length true
 have x1:Bx (H.new zs zs.length true) H.size zs:=Bx.new H _ _ _ nl
 obtain⟨H',s1,s2,s3⟩:=x1.eStore g1.wf 0 u n hn (by omega) hn0 hs Z
 refine⟨_,H',rfl,s1,?_,g1.trans (s3.gr nl) nl,s3.size⟩
 have:zs.drop (0+n)=[]:=List.drop_eq_nil_of_le (by omega)
 rw[this]at s2
 simpa using s2
end Go.Am.X

