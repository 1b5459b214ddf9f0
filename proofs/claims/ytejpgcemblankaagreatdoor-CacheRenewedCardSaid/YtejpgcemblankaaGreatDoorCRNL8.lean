/- The abstract machine, printed functions of the program, and what they are shown to be. -/
import Derived.Test.YtejpgcemblankaaGreatDoorCRNL7
import Derived.Test.YtejpgcemblankaaGreatDoorCRNL4
import Derived.Test.YtejpgcemblankaaGreatDoorCRNL1
set_option linter.unusedSimpArgs false
set_option linter.unusedVariables false
set_option linter.unusedSectionVars false
set_option maxRecDepth 100000
namespace Go.Am.X
def nm4:List Bs:=[[99,111,110,116,101,110,116,45,108,101,110,103,116,104],[99,111,110,116,101,110,116,45,101,110,99,111,100,105,110,103],[99,111,110,116,101,110,116,45,116,121,112,101],[99,111,110,116,101,110,116,45,114,97,110,103,101]]
def renT (hs2 hs:List Hd):List Hd:=zJG (zNr nm4 hs2) (zBg ageN hs)
theorem dropsT_sub:∀ (ns:List Bs) (hs:List Hd),(zNr ns hs).length<=hs.length/\∀ h ∈ zNr ns hs,h ∈ hs:=by
 intro ns
 induction ns with
 | nil=>intro hs;exact⟨Nat.le_refl _,fun h hh=>hh⟩
 | cons n ns ih =>
  intro hs
  obtain⟨a,b⟩:=ih (zBg n hs)
  obtain⟨c,d⟩:=dropT_sub n hs
  exact⟨Nat.le_trans a c,fun h hh=>d h (b h hh)⟩
theorem upd_sto (x:CRow)(now ord:Int)(rows:List CRow):storeT x now ord (rows.map (updR x))=(rows.filter fun r=>!decide (x.id=r.id))++[x.put now ord]:=by
 unfold storeT
 congr 1
 induction rows with
 | nil=>rfl
 | cons r l ih =>
  rw[List.map_cons,List.filter_cons,List.filter_cons,ih]
  by_cases h:x.id=r.id
  ·have e:(updR x r).id=x.id:=by unfold updR;rw[if_pos h.symm]
   rw[if_neg (by rw[e];simp),if_neg (by simp[h])]
  ·have e:updR x r=r:=by unfold updR;rw[if_neg (fun e=>h e.symm)]
   rw[e]
theorem zLp (cc:zC)(N:Nat)(hFi:FiOk cc){P D:Nat->Prop}{H:Heap}{c:Nat}{rows:List CRow}{puts:Int}(hc:CacM P D H c rows puts)(hw:WF H)(hl:rows.length<=1000)(hok:∀ r ∈ rows,OkVs r)(url:Bs){ask:List Hd}(ham:Small ask){av:V}(ha:RdH H av ask)(hn:zMQ url ask rows=none)(st2:Int)(hv2 bv2 now:V)(Z:Tape) :
  ∃ H' Z',Gr H.size H H'/\∀ q,zCI cc N (.ptr c 0) (.str url) av (.agg [.int .i64 st2,hv2,bv2]) now H Z q=q (.tup [.agg [.int .i64 0,.nils,.nils],.bool false]) H' Z':=by
 have e0:eBox [.agg [.int .i64 st2,hv2,bv2]] H Z=some (.ptr H.size 0,H.new [.int .i64 st2,hv2,bv2] 3 true,Z):=rfl
 have g1:=Gr.new hw [.int .i64 st2,hv2,bv2] 3 true
 have z1:(H.new [.int .i64 st2,hv2,bv2] 3 true).size=H.size+1:=rfl
 generalize H.new [.int .i64 st2,hv2,bv2] 3 true=H1 at e0 g1 z1
 have e1:zBl [(.int .i64 (.ofNat 0)),.nils,.nils] [] H1 Z=some (.ptr H1.size 0,H1.new [(.int .i64 (.ofNat 0)),.nils,.nils] 3 true,Z):=rfl
 have g2:=Gr.new g1.wf [(.int .i64 (.ofNat 0)),.nils,.nils] 3 true
 have b2:Bx (H1.new [(.int .i64 (.ofNat 0)),.nils,.nils] 3 true) H1.size [(.int .i64 (.ofNat 0)),.nils,.nils]:=Bx.new H1 _ 3 true (by simp)
 have z2:(H1.new [(.int .i64 (.ofNat 0)),.nils,.nils] 3 true).size=H1.size+1:=rfl
 generalize H1.new [(.int .i64 (.ofNat 0)),.nils,.nils] 3 true=H2 at e1 g2 b2 z2
 have g12:=g1.trans g2 g1.size
 obtain⟨H3,Z3,g3,_,k3⟩:=hFi (hc.gr hw g12) g2.wf hl hok url ham (ha.gr g12 hw nl) Z
 rw[hn]at k3
 have b3:=zDk b2 g2.wf g3
 obtain⟨H4,s1,s2,s3⟩:=b3.eStore g3.wf 0 (.agg [.int .i64 0,.nils,.nils]) 3 rfl (by simp) (by omega) rfl Z3
 have s2':Bx H4 H1.size [.int .i64 0,.nils,.nils]:=s2
 have s1':eStore 3 [.ptr H1.size 0,.agg [(.int .i64 (.ofNat 0)),.nils,.nils]] H3 Z3=some (.tup [],H4,Z3):=s1
 have l4:zAc 3 [.ptr H1.size 0] H4=some (.agg [.int .i64 0,.nils,.nils]):=zAU s2'.cells (by simp)
 have pb:zDm [(.int .i64 (.ofNat 0)),.nils,.nils] [] []=some (.agg [(.int .i64 (.ofNat 0)),.nils,.nils]):=rfl
 have en:lPeq false [outV none,.nilp] H3=some (.bool true):=rfl
 have hres:results ⟨(T.s (T.s .leaf 10 (.ptr H1.size 0)) 11 (.bool false)),H4⟩ [(.cell 10 (some 3)),(.t 11)]=some (.tup [.agg [.int .i64 0,.nils,.nils],.bool false]):=by
  simp only[results,zLO,zQs,T.get_set,↓reduceIte,Nat.reduceEqDiff,zG4,zOV,l4]
 have g13:=g12.trans g3 g12.size
 have s12:=g1.size
 refine⟨H4,Z3,g13.trans (s3.gr (by omega)) nl,fun q=>?_⟩
 simp only[zCI,e0,e1,zf,k3,en,zJ,zP,pb,s1',hres]
theorem zMD (cc:zC){N:Nat}(hN:9223372036854775807<=N)(hFi:FiOk cc)(hDr:DrpOkC cc)(hCl:ClnHOk cc)(hSe:SetOkC cc)(hSt:StoOk cc)(hCp:CopOk cc){P D E:Nat->Prop}{H:Heap}{c:Nat}{rows:List CRow}{puts:Int}(hc:CacM P D H c rows puts)(hw:WF H)(hl:rows.length<=900)(hok:∀ r ∈ rows,OkVs r)(hp0:0<=puts)(hp1:puts<4611686018427387904)(url:Bs){ask hs2:List Hd}(ham:Small ask)(hs2m:Small hs2){av hv2 bv2:V}(ha:RdH H av ask)(st2:Int)
  (hE:∀ i,E i->i<H.size/\¬ P i/\i≠c/\∀ r ∈ rows,i≠r.id) (hh:DatP E H 2 hv2 hs2.length (hcells hs2)) {x:CRow} (hn:zMQ url ask rows=some x) (hxl:x.hs.length<=1000000) (hxn:∀ h ∈ x.hs,h.1.length<=140737488355328) (hxb:x.bd.length<=100000000)
  (hB:∀ pre l,zNr nm4 hs2=pre++l->(zJG pre (zBg ageN x.hs)).length<1000000/\∀ h ∈ zJG pre (zBg ageN x.hs),h.1.length<=140737488355328) (now:Int) (Z:Tape) :
  ∃ P' D' H' Z' hvR bvR y,CacM P' D' H' c ((rows.filter fun r=>!decide (x.id=r.id))++[y]) (puts+1)/\(y.url=x.url/\y.vs=x.vs/\y.st=x.st/\y.hs=renT hs2 x.hs/\y.bd=x.bd/\y.sto=now/\y.ord=puts+1/\y.id=x.id)/\(∀ i,i<H.size->P' i->P i)/\(∀ i,i<H.size->D' i->D i) /\
   BodP (fun i=>H.size<=i/\¬ P' i/\¬ D' i/\i<H'.size) H' bvR x.bd.length x.bd/\HvBv P' D' H H' hvR (renT hs2 x.hs).length (hcells (renT hs2 x.hs)) bvR x.bd.length x.bd/\Chg (fun i=>P i∨i=c∨i=x.id) H H' /\
   ∀ q,zCI cc N (.ptr c 0) (.str url) av (.agg [.int .i64 st2,hv2,bv2]) (.int .i64 now) H Z q=q (.tup [.agg [.int .i64 x.st,hvR,bvR],.bool true]) H' Z':=by
 have hcl:c<H.size:=by obtain⟨v,h1,_⟩:=hc.bx;exact h1.lt hw
 have e0:eBox [.agg [.int .i64 st2,hv2,bv2]] H Z=some (.ptr H.size 0,H.new [.int .i64 st2,hv2,bv2] 3 true,Z):=rfl
 have g1:=Gr.new hw [.int .i64 st2,hv2,bv2] 3 true
 have b1:Bx (H.new [.int .i64 st2,hv2,bv2] 3 true) H.size [.int .i64 st2,hv2,bv2]:=Bx.new H _ 3 true (by simp)
 have z1:(H.new [.int .i64 st2,hv2,bv2] 3 true).size=H.size+1:=rfl
 generalize H.new [.int .i64 st2,hv2,bv2] 3 true=H1 at e0 g1 b1 z1
 have e1:zBl [(.int .i64 (.ofNat 0)),.nils,.nils] [] H1 Z=some (.ptr H1.size 0,H1.new [(.int .i64 (.ofNat 0)),.nils,.nils] 3 true,Z):=rfl
 have g2:=Gr.new g1.wf [(.int .i64 (.ofNat 0)),.nils,.nils] 3 true
 have b2:Bx (H1.new [(.int .i64 (.ofNat 0)),.nils,.nils] 3 true) H1.size [(.int .i64 (.ofNat 0)),.nils,.nils]:=Bx.new H1 _ 3 true (by simp)
 have z2:(H1.new [(.int .i64 (.ofNat 0)),.nils,.nils] 3 true).size=H1.size+1:=rfl
 generalize H1.new [(.int .i64 (.ofNat 0)),.nils,.nils] 3 true=H2 at e1 g2 b2 z2
 have g12:=g1.trans g2 g1.size
 obtain⟨H3,Z3,g3,mm,k3⟩:=hFi (hc.gr hw g12) g2.wf (by omega) hok url ham (ha.gr g12 hw nl) Z
 have hxm:=mm x hn
 rw[hn]at k3
 have g13:=g12.trans g3 g12.size
 have s13:=g13.size
 have s23:=g3.size
 have b3:=zDk (zDk b1 g1.wf g2) g2.wf g3
 have r3:=zDk b2 g2.wf g3
 have hx:=hc.mem x hxm
 have hxi:=hx.bx.bx.lt hw
 obtain⟨xp,xd,xc⟩:=hc.pr x hxm
 have x3:=hx.chg hw (g13.chg (P:=fun _=>False)) (fun _ _ _=>not_false) not_false
 have l3:zL [.ptr x.id (0+2+1)] H3=some x.hv:=zR x3.bx.bx.cells rfl
 obtain⟨w1,H4,Z4,o4,g4,k4⟩:=hDr (n:=ageN) hxl hxn (by decide) (lv:=x.hv) g3.wf ⟨x3.hs.rd,x3.hs.src⟩ Z3
 have s34:=g4.size
 have x4:=x3.chg g3.wf (g4.chg (P:=fun _=>False)) (fun _ _ _=>not_false) not_false
 obtain⟨os1,os2⟩:w1.cells=[w1]/\w1.scal=true:=by
  rcases o4 with⟨rfl,_⟩ | ⟨_,_,_,_,_,_,_,_,rfl,_⟩ <;> exact⟨rfl,rfl⟩
 obtain⟨H5,a1,a2,a3⟩:=x4.bx.eStore g4.wf 3 w1 1 (by rw[os1];rfl) (by simp[CRow.cells]) (by omega) (by rw[os1];simp[os2]) Z4
 have a2':BxT H5 x.id { x with hv:=w1 }.cells:=by rw[os1]at a2;exact a2
 have a1':eStore 1 [.ptr x.id (0+2+1),w1] H4 Z4=some (.tup [],H5,Z4):=a1
 have s45:H5.size=H4.size:=a3.size
 have oX:∀ {Ha Hb:Heap},Only x.id Ha Hb->Chg (fun i=>i=x.id) Ha Hb:=fun h=>h.chg (P:=fun i=>i=x.id) rfl
 have q05:Chg (fun i=>i=x.id) H H5:=((g13.chg (P:=fun i=>i=x.id)).trans (g4.chg (P:=fun _=>False)) fun _ _ h=>h.elim).trans (oX a3) fun _ _ h=>h
 have hh5:=hh.chg hw q05 (fun i hi h e=>(hE i h).2.2.2 x hxm e)
 have b5:Bx H5 H.size [.int .i64 st2,hv2,bv2]:=(zDk b3 g3.wf g4).only a3 (by omega)
 have lh2:zL [.ptr H.size (0+1)] H5=some hv2:=zR b5.cells rfl
 obtain⟨w2,H6,Z6,o6,_,g6,k6⟩:=hCl hs2 (by have:=hs2m.len;omega) hv2 H5 a3.wf hh5.rd hh5.src Z4
 have s56:=g6.size
 have e7:zS 4 1 [(.str []),(.str []),(.str []),(.str [])] [(0,1),(1,1),(2,1),(3,1)] [(.str (bs [99,111,110,116,101,110,116,45,108,101,110,103,116,104])),(.str (bs [99,111,110,116,101,110,116,45,101,110,99,111,100,105,110,103])),(.str (bs [99,111,110,116,101,110,116,45,116,121,112,101])),(.str (bs [99,111,110,116,101,110,116,45,114,97,110,103,101]))] H6 Z6=some (.sl H6.size 0 4 4 none 1,H6.new (nm4.map V.str) 4 false,Z6):=rfl
 have g7:=Gr.new g6.wf (nm4.map V.str) 4 false
 have b7:Bx (H6.new (nm4.map V.str) 4 false) H6.size (nm4.map V.str):=Bx.new H6 _ 4 false (by decide)
 have z7:(H6.new (nm4.map V.str) 4 false).size=H6.size+1:=rfl
 generalize H6.new (nm4.map V.str) 4 false=H7 at e7 g7 b7 z7
 have rn:Rd H7 1 (.sl H6.size 0 4 4 none 1) nm4.length (nm4.map V.str):=.inr ⟨H6.size,0,4,none,nm4.map V.str,rfl,b7.cells,rfl,rfl⟩
 have d6:DatP (fun i=>H5.size<=i) H7 2 w2 hs2.length (hcells hs2):=(DatP.gen (GenL.apd o6)).gr g6.wf g7
 obtain⟨w3,H8,Z8,g8,d8,k8⟩:=l_rdrop cc N hDr nm4 (by decide) (by decide) (.sl H6.size 0 4 4 none 1) (.ptr c 0) (.int .i64 now) (.ptr H1.size 0) (.ptr x.id 0) g7.wf rn (B:=H5.size) (by omega) nm4 [] hs2 w2 H7 Z6 N rfl (by have:nm4.length=4:=rfl;omega) (Gr.refl g7.wf) (by have:=hs2m.len;omega) (fun h hh=>by have:=(hs2m.all h hh).1;omega) d6
 have s78:=g8.size
 have g58:Gr H5.size H5 H8:=(g6.trans g7 g6.size).trans g8 (by omega)
 have x8:BxT H8 x.id { x with hv:=w1 }.cells:=a2'.chg a3.wf (g58.chg (P:=fun _=>False)) not_false
 let D0:Nat->Prop:=fun i=>H3.size<=i/\i<H4.size
 let Q:Nat->Prop:=fun i=>i=x.id∨H8.size<=i
 have d0:DatP (fun i=>D0 i∨H8.size<=i) H8 2 w1 (zJG [] (zBg ageN x.hs)).length (hcells (zJG [] (zBg ageN x.hs))):=by
  have h4:DatP D0 H4 2 w1 (zBg ageN x.hs).length (hcells (zBg ageN x.hs)):=(DatP.own o4).weaken g4.wf fun i hi h=>⟨h,hi⟩
  exact((h4.chg g4.wf (oX a3) (fun i _ h e=>by have:=h.1;omega)).gr a3.wf g58).weaken g58.wf fun i _ h=>.inl h
 obtain⟨ds1,ds2⟩:=dropsT_sub nm4 hs2
 obtain⟨cv,H9,Z9,q9,x9,d9,k9⟩:=l_rset cc N hSe (zNr nm4 hs2) (by have:=hs2m.len;omega) (fun h hh=>by have:=hs2m.all h (ds2 h hh);exact⟨by omega,by omega⟩) w3 (.ptr c 0) (.int .i64 now) (.ptr H1.size 0) x g8.wf (by omega) (Q:=Q) (fun i hi=>⟨fun h=>h.elim id (fun h=>by omega),.inl⟩) (fun i hi=>.inr hi)
  (fun Hx hx=>by have:=(d8.chg g8.wf hx (fun i hi h k=>k.elim (fun e=>by omega) (fun e=>by omega)));exact⟨this.rd,this.src⟩) (zBg ageN x.hs) hB (D0:=D0) (fun i h=>⟨by have:=h.2;omega,by have:=h.1;omega⟩) (zNr nm4 hs2) [] w1 H8 Z8 N rfl (by have:=hs2m.len;omega) (Chg.refl g8.wf) x8 d0
 have s89:=q9.size
 have q09:Chg (fun i=>i=x.id) H H9:=(q05.trans (g58.chg (P:=fun _=>False)) fun _ _ h=>h.elim).trans q9 fun i hi h=>h.elim id (fun h=>by omega)
 let D2:Nat->Prop:=fun i=>D i∨D0 i∨(H8.size<=i/\i<H9.size)
 have hx2:RowM D2 H9 { x with hs:=renT hs2 x.hs,hv:=cv }:=by
  have nDx:∀ i,i<H.size->D i->¬(i=x.id):=fun i _ h e=>xd (e ▸ h)
  exact⟨x9,(hx.vs.chg hw q09 nDx).weaken q9.wf (fun i _ h=>.inl h),d9.weaken q9.wf (fun i hi h=>h.elim (fun h=>.inr (.inl h)) (fun h=>.inr (.inr ⟨h,hi⟩))),(hx.bd.chg hw q09 nDx).weaken q9.wf (fun i _ h=>.inl h)⟩
 have cm:CacM P D2 H9 c (rows.map (updR { x with hs:=renT hs2 x.hs,hv:=cv })) puts:=by
  obtain⟨v,h1,h2⟩:=hc.bx
  refine⟨⟨v,h1.chg hw q09 (fun e=>xc e.symm),?_⟩,fun r hr=>?_,fun i hp h=>h.elim (hc.sep i hp) (fun h=>by have:=hc.pl i hp;exact h.elim (fun h=>by have:=h.1;omega) (fun h=>by omega)),fun i h=>by have:=hc.pl i h;omega,fun i h=>h.elim (fun h=>by have:=hc.dl i h;omega) (fun h=>h.elim (fun h=>by have:=h.2;omega) (fun h=>h.2)),hc.pc,fun h=>h.elim hc.dc (fun h=>h.elim (fun h=>by have:=h.1;omega) (fun h=>by omega)),fun r hr=>?_⟩
  ·unfold GenE
   rw[List.length_map,upd_cells];exact GenL.chg h2 hw q09 (fun i _ hp e=>xp (e ▸ hp))
  ·obtain⟨r0,h0,rfl⟩:=List.mem_map.1 hr
   unfold updR
   split
   ·exact hx2
   ·rename_i hne
    exact((hc.mem r0 h0).chg hw q09 (fun i _ hd e=>xd (e ▸ hd)) hne).weaken q9.wf fun i _ h=>.inl h
  ·obtain⟨r0,h0,rfl⟩:=List.mem_map.1 hr
   have nD2:∀ r ∈ rows,¬ D2 r.id:=fun r hr h=>h.elim (hc.pr r hr).2.1 (fun h=>by have:=(hc.mem r hr).bx.bx.lt hw;exact h.elim (fun h=>by have:=h.1;omega) (fun h=>by omega))
   unfold updR
   split
   ·exact⟨xp,nD2 x hxm,xc⟩
   ·exact⟨(hc.pr r0 h0).1,nD2 r0 h0,(hc.pr r0 h0).2.2⟩
 obtain⟨P',H10,Z10,u1,u2,u3,u4⟩:=hSt cm q9.wf (by rw[List.length_map];omega) hp0 hp1 { x with hs:=renT hs2 x.hs,hv:=cv } hx2 xp (fun h=>h.elim xd (fun h=>h.elim (fun h=>by have:=h.1;simp only at this;omega) (fun h=>by have:=h.1;simp only at this;omega))) xc now Z9
 rw[upd_sto]at u1
 have u1':CacM P' D2 H10 c ((rows.filter fun r=>!decide (x.id=r.id))++[{ x with hs:=renT hs2 x.hs,hv:=cv,sto:=now,ord:=puts+1 }]) (puts+1):=u1
 have y10:=u1'.mem _ (List.mem_append.2 (.inr (List.mem_singleton.2 rfl)))
 have s910:=u3.size
 have lr:zAc 3 [.ptr x.id (0+2)] H10=some (.agg [.int .i64 x.st,cv,x.bv]):=zAU y10.bx.bx.cells (by simp[CRow.cells])
 have hrl:(renT hs2 x.hs).length<=1000000:=by have:=(hB (zNr nm4 hs2) [] (by simp)).1;unfold renT;omega
 obtain⟨hvR,bvR,H11,Z11,m,m1,m2,y1,y2,g11,k11⟩:=hCp x.st (renT hs2 x.hs) hrl x.bd hxb u3.wf ⟨y10.hs.rd,y10.hs.src⟩ y10.bd.rd y10.bd.src Z10
 have s1011:=g11.size
 have nq:∀ {j},H.size<=j->j<H3.size->¬((fun i=>P i∨i=c∨i=x.id) j):=fun {j} h1 _ h=>h.elim (fun h=>by have:=hc.pl j h;omega) (fun h=>h.elim (fun h=>by omega) (fun h=>by omega))
 have r9:Bx H9 H1.size [(.int .i64 (.ofNat 0)),.nils,.nils]:=(((zDk r3 g3.wf g4).only a3 (by omega)).chg a3.wf (g58.chg (P:=fun _=>False)) not_false).chg g8.wf q9 (fun h=>h.elim (fun h=>by omega) (fun h=>by omega))
 have r10:Bx H10 H1.size [(.int .i64 (.ofNat 0)),.nils,.nils]:=r9.chg q9.wf u3 (nq (by omega) (by omega))
 have r11:=zDk r10 u3.wf g11
 obtain⟨sv1,sv2⟩:=y1.scal
 obtain⟨sw1,sw2⟩:=y2.scal
 obtain⟨H12,t1,t2,t3⟩:=r11.eStore g11.wf 0 (.agg [.int .i64 x.st,hvR,bvR]) 3 rfl (by simp) (by omega) (by show(true && (hvR.scal && (bvR.scal && true)))=true;rw[sv2,sw2];rfl) Z11
 have t2':Bx H12 H1.size [.int .i64 x.st,hvR,bvR]:=t2
 have l12:zAc 3 [.ptr H1.size 0] H12=some (.agg [.int .i64 x.st,hvR,bvR]):=zAU t2'.cells (by simp)
 have hres:results ⟨(T.s (T.s .leaf 10 (.ptr H1.size 0)) 11 (.bool true)),H12⟩ [(.cell 10 (some 3)),(.t 11)]=some (.tup [.agg [.int .i64 x.st,hvR,bvR],.bool true]):=by
  simp only[results,zLO,zQs,T.get_set,↓reduceIte,Nat.reduceEqDiff,zG4,zOV,l12]
 have oB:Chg (fun i=>i=H1.size) H11 H12:=t3.chg (P:=fun i=>i=H1.size) rfl
 have hP10:∀ i,P' i->i<H10.size/\i≠H1.size:=fun i h=>⟨u1'.pl i h,fun e=>by
  have:=u2 i (by omega) h
  have:=hc.pl i this
  omega⟩
 have hD10:∀ i,D2 i->i<H10.size/\i≠H1.size:=fun i h=>⟨u1'.dl i h,fun e=>h.elim (fun h=>by have:=hc.dl i h;omega) (fun h=>h.elim (fun h=>by have:=h.1;omega) (fun h=>by omega))⟩
 refine⟨P',D2,H12,Z11,hvR,bvR,{ x with hs:=renT hs2 x.hs,hv:=cv,sto:=now,ord:=puts+1 },?_,⟨rfl,rfl,rfl,rfl,rfl,rfl,rfl,rfl⟩,fun i hi h=>u2 i (by omega) h,fun i hi h=>h.elim id (fun h=>h.elim (fun h=>by have:=h.1;omega) (fun h=>by omega)),?_,?_,?_,fun q=>?_⟩
 ·have c11:=u1'.gr u3.wf g11
  obtain⟨v,h1,h2⟩:=c11.bx
  refine⟨⟨v,h1.only t3 (by omega),GenL.chg h2 g11.wf oB (fun i _ h e=>(hP10 i h).2 e)⟩,fun r hr=>(c11.mem r hr).chg g11.wf oB (fun i _ h e=>(hD10 i h).2 e) ?_,c11.sep,fun i h=>by rw[t3.size];exact c11.pl i h,fun i h=>by rw[t3.size];exact c11.dl i h,c11.pc,c11.dc,c11.pr⟩
  have:r.id<H.size:=by
   rcases List.mem_append.1 hr with h | h
   ·exact(hc.mem r (List.mem_filter.1 h).1).bx.bx.lt hw
   ·rw[List.mem_singleton.1 h];exact hxi
  intro e;omega
 ·exact(y2.chg g11.wf oB (fun i _ h e=>by omega)).weaken t3.wf (fun i hi h=>⟨by omega,fun hp=>by have:=(hP10 i hp).1;omega,fun hd=>by have:=(hD10 i hd).1;omega,hi⟩)
 ·refine⟨m,H11.size,by omega,by omega,by rw[t3.size];exact Nat.le_refl _,fun i h1 h2=>⟨fun hp=>by have:=(hP10 i hp).1;omega,fun hd=>by have:=(hD10 i hd).1;omega⟩,y2.chg g11.wf oB (fun i _ h e=>by omega),?_⟩
  exact(GenL.chg y1 g11.wf oB (fun i _ h e=>by omega)).weaken t3.wf (fun i hi h=>⟨by omega,hi,fun hp=>by have:=(hP10 i hp).1;omega,fun hd=>by have:=(hD10 i hd).1;omega,fun k=>by omega⟩)
 ·have w1':Chg (fun i=>P i∨i=c∨i=x.id) H H9:=q09.weaken fun i _ h=>.inr (.inr h)
  exact((w1'.trans u3 fun i _ h=>h).trans (g11.chg (P:=fun _=>False)) fun _ _ h=>h.elim).trans oB fun i hi e=>by omega
 ·have en:lPeq false [rpV x,.nilp] H3=some (.bool false):=rfl
  have eo:outV (some x)=rpV x:=rfl
  have nckx:zBH [rpV x]=some (.ptr x.id 0):=rfl
  have nckp:zBH [.ptr x.id 0]=some (.ptr x.id 0):=rfl
  have ba:bs [97,103,101]=ageN:=rfl
  have pl4:pLen [.sl H6.size 0 4 4 none 1]=some (.int .i64 (nm4.length:Int)):=rfl
  have pl8:=d8.rd.pLen
  have u4':∀ q,cc zBd [.ptr c 0,.ptr x.id 0,.int .i64 now] H9 Z9 q=q (.tup []) H10 Z10:=u4
  simp only[zCI,e0,e1,zf,k3,eo,en,zJ,zO,nckx,zF,l3,ba,k4,a1',lh2,k6,e7,pl4]
  rw[k8 _ _ (by simp[T.get_set]) (by simp[T.get_set]) (by simp[T.get_set]) (by simp[T.get_set];rfl) (by simp[T.get_set]) (by simp[T.get_set]) (by simp[T.get_set]) (by simp[T.get_set])]
  simp only[zX,Nat.beq_refl,cond_true,seqK,zII,zQ,↓reduceIte,Nat.reduceEqDiff,pl8,zJ]
  rw[k9 _ _ (by simp[T.get_set]) (by simp[T.get_set]) (by simp[T.get_set]) (by simp[T.get_set]) (by simp[T.get_set]) (by simp[T.get_set]) (by simp[T.get_set])]
  simp only[zX,Nat.beq_refl,cond_true,seqK,zIo,zQ,↓reduceIte,Nat.reduceEqDiff,u4',nckp,zF,zJ,lr,k11,t1,zf,hres]
end Go.Am.X

namespace Go.Am.X
theorem dig_loop17 (c:zC)(N:Nat)(H:Heap)(k:KC):∀ (f n:Nat) (acc:Bs) (m:Nat) (fr:T V) (Z:Tape),n<10 ^ f->n<4611686018427387904->(acc≠[]∨0<f)->acc.length<1000-f->f<100->f<m ->
  fr.get 0=some (.int .i64 (n:Int))->fr.get 3=some (.str acc)->zAN (zCK c N) m ⟨fr,H⟩ Z k=k (.exit 0) ⟨T.s .leaf 3 (.str (digF f n acc)),H⟩ Z:=by
 intro f
 induction f with
 | zero =>
  intro n acc m fr Z hn hb ha hl hf hm f0 f3
  obtain⟨m,rfl⟩:∃ j,m=j+1:=⟨m-1,by omega⟩
  have hn0:n=0:=by simpa using hn
  subst hn0
  have hac:acc≠[]:=by rcases ha with h | h;exact h;omega
  have e1:decide (Int.ofNat 0<((0:Nat):Int))=false:=rfl
  have e2:(acc ==([]:Bs))=false:=beq_eq_false_iff_ne.2 hac
  rw[zI]
  simp only[zCK,zA f0,zA f3,zAW,e1,zEK,retK,zAX,zA1,zFe,e2,zK,zW,cond_false,zAM,seqK,digF]
 | succ f ih =>
  intro n acc m fr Z hn hb ha hl hf hm f0 f3
  obtain⟨m,rfl⟩:∃ j,m=j+1:=⟨m-1,by omega⟩
  rw[zI]
  have step:(0<n∨acc=[])->zAN (zCK c N) m ⟨(T.s (T.s (T.s (T.s (T.s .leaf 0 (.int .i64 (n:Int))) 3 (.str (UInt8.ofNat (48+n % 10)::acc))) 19 (.int .i64 (n:Int))) 20 (.int .i64 ((n / 10:Nat):Int))) 0 (.int .i64 ((n / 10:Nat):Int))),H⟩ Z k=k (.exit 0) ⟨T.s .leaf 3 (.str (digF (f+1) n acc)),H⟩ Z:=by
   intro h
   rw[ih (n / 10) (UInt8.ofNat (48+n % 10)::acc) m _ Z (by rw[Nat.pow_succ]at hn;omega) (by omega) (.inl (by simp)) (by simp;omega) (by omega) (by omega) (by simp[T.get_set]) (by simp[T.get_set])]
   have:(Nat.blt 0 n || acc.isEmpty)=true:=by
    rcases h with h | h
    ·have:Nat.blt 0 n=true:=by simp[Nat.blt];omega
     rw[this];rfl
    ·rw[h];simp
   simp only[digF,this,cond_true]
  have hr:(n:Int).tmod (Int.ofNat 10)=((n % 10:Nat):Int):=rfl
  have hq:(n:Int).tdiv (Int.ofNat 10)=((n / 10:Nat):Int):=rfl
  have e3:wr .i64 (((n % 10:Nat):Int)+Int.ofNat 1)=((n % 10+1:Nat):Int):=by
   rw[zEM (by simp;omega) (by simp;omega)];rfl
  have e4:wr .i64 ((n / 10:Nat):Int)=((n / 10:Nat):Int):=zEM (by omega) (by omega)
  have e5:zJn .add [UInt8.ofNat (48+n % 10)] acc=some (.str (UInt8.ofNat (48+n % 10)::acc)):=str_add (by simp;omega)
  by_cases h0:0<n
  ·have e1:decide (Int.ofNat 0<(n:Int))=true:=decide_eq_true (by simp;omega)
   simp only[zCK,zA f0,zA f3,zAW,e1,zCd,zK,zW,cond_true,zBE]
   rw[zPL _ _ _ (by decide),hr,zY,e3,dig_slice _ (Nat.mod_lt _ (by omega)),zK,zA1,e5,zK,bin_quo _ _ _ (by decide),hq,e4]
   exact step (.inl h0)
  ·have hn0:n=0:=by omega
   subst hn0
   have e1:decide (Int.ofNat 0<((0:Nat):Int))=false:=rfl
   by_cases hac:acc=[]
   ·have e2:(acc ==([]:Bs))=true:=beq_iff_eq.2 hac
    simp only[zCK,zA f0,zA f3,zAW,e1,zEK,retK,zAX,zA1,zFe,e2,zK,zW,cond_false,zBE]
    rw[zPL _ _ _ (by decide),hr,zY,e3,dig_slice _ (Nat.mod_lt _ (by omega)),zK,zA1,e5,zK,bin_quo _ _ _ (by decide),hq,e4]
    exact step (.inr hac)
   ·have e2:(acc ==([]:Bs))=false:=beq_eq_false_iff_ne.2 hac
    have:(Nat.blt 0 0 || acc.isEmpty)=false:=by
     cases acc with
     | nil=>exact absurd rfl hac
     | cons x l=>rfl
    simp only[zCK,zA f0,zA f3,zAW,e1,zEK,retK,zAX,zA1,zFe,e2,zK,zW,cond_false,zAM,seqK,digF,this]
theorem zPm (c:zC)(N:Nat)(hN:9223372036854775807<=N)(n:Nat)(hn:n<100000000)(H:Heap)(Z:Tape)(q:KV):zI6 c N (.int .i64 (n:Int)) H Z q=q (.str (dig n)) H Z:=by
 simp only[zI6]
 rw[dig_loop17 c N H _ 8 n [] N _ Z (by omega) (by omega) (.inr (by omega)) (by simp) (by omega) (by omega) (by simp[T.get_set]) (by simp[T.get_set])]
 simp only[zX,Nat.beq_refl,cond_true,seqK,zLu,zQ,↓reduceIte]
 rfl
end Go.Am.X

namespace Go.Am.X
def pow10V:List V:=[.int .u64 1,.int .u64 10,.int .u64 100,.int .u64 1000,.int .u64 10000,.int .u64 100000,.int .u64 1000000,.int .u64 10000000,.int .u64 100000000,.int .u64 1000000000,.int .u64 10000000000,.int .u64 100000000000,.int .u64 1000000000000,.int .u64 10000000000000,.int .u64 100000000000000,.int .u64 1000000000000000,.int .u64 10000000000000000,.int .u64 100000000000000000,.int .u64 1000000000000000000,.int .u64 10000000000000000000]
def tabs:List (Option (List V)):=List.replicate 0 none++some pow10V::List.replicate (6-1-0) none
theorem zOM:zO0 tabs=true:=by kernel_rfl
theorem tabs_len:tabs.length=6:=by kernel_rfl
theorem tabs_at {j:Nat}{cs:List V}(h:tabs[j]?=some (some cs)):j=0/\cs=pow10V:=by
 unfold tabs at h
 rw[List.getElem?_append]at h
 split at h
 ·rw[List.getElem?_replicate]at h;split at h <;> simp at h
 ·rename_i hj
  rw[List.length_replicate]at h hj
  cases hk:j-0 with
  | zero=>rw[hk]at h;simp at h;exact⟨by omega,h.symm⟩
  | succ k=>rw[hk]at h;rw[List.getElem?_cons_succ,List.getElem?_replicate]at h;split at h <;> simp at h
def FmtPre:List V->Prop
 | [.int .i64 n,.int .i64 b]=>0<=n/\n<1600/\b=10
 | _=>False
abbrev FmtG:List V->V
 | [.int .i64 n,_]=>.str (dig n.toNat)
 | _=>.tup []
theorem fmt_run0:(fun Z=>allA (List.range 50) fun n=>zCx (zCc zEU 100000) 40 zG [.int .i64 (Int.ofNat (0+n)),.int .i64 (.ofNat 10)] (start tabs) Z (isK (.str (dig (0+n)))))=fun _=>zEi:=by kernel_rfl
theorem fmt_run1:(fun Z=>allA (List.range 50) fun n=>zCx (zCc zEU 100000) 40 zG [.int .i64 (Int.ofNat (50+n)),.int .i64 (.ofNat 10)] (start tabs) Z (isK (.str (dig (50+n)))))=fun _=>zEi:=by kernel_rfl
theorem fmt_run2:(fun Z=>allA (List.range 50) fun n=>zCx (zCc zEU 100000) 40 zG [.int .i64 (Int.ofNat (100+n)),.int .i64 (.ofNat 10)] (start tabs) Z (isK (.str (dig (100+n)))))=fun _=>zEi:=by kernel_rfl
theorem fmt_run3:(fun Z=>allA (List.range 50) fun n=>zCx (zCc zEU 100000) 40 zG [.int .i64 (Int.ofNat (150+n)),.int .i64 (.ofNat 10)] (start tabs) Z (isK (.str (dig (150+n)))))=fun _=>zEi:=by kernel_rfl
theorem fmt_run4:(fun Z=>allA (List.range 50) fun n=>zCx (zCc zEU 100000) 40 zG [.int .i64 (Int.ofNat (200+n)),.int .i64 (.ofNat 10)] (start tabs) Z (isK (.str (dig (200+n)))))=fun _=>zEi:=by kernel_rfl
theorem fmt_run5:(fun Z=>allA (List.range 50) fun n=>zCx (zCc zEU 100000) 40 zG [.int .i64 (Int.ofNat (250+n)),.int .i64 (.ofNat 10)] (start tabs) Z (isK (.str (dig (250+n)))))=fun _=>zEi:=by kernel_rfl
theorem fmt_run6:(fun Z=>allA (List.range 50) fun n=>zCx (zCc zEU 100000) 40 zG [.int .i64 (Int.ofNat (300+n)),.int .i64 (.ofNat 10)] (start tabs) Z (isK (.str (dig (300+n)))))=fun _=>zEi:=by kernel_rfl
theorem fmt_run7:(fun Z=>allA (List.range 50) fun n=>zCx (zCc zEU 100000) 40 zG [.int .i64 (Int.ofNat (350+n)),.int .i64 (.ofNat 10)] (start tabs) Z (isK (.str (dig (350+n)))))=fun _=>zEi:=by kernel_rfl
theorem fmt_run8:(fun Z=>allA (List.range 50) fun n=>zCx (zCc zEU 100000) 40 zG [.int .i64 (Int.ofNat (400+n)),.int .i64 (.ofNat 10)] (start tabs) Z (isK (.str (dig (400+n)))))=fun _=>zEi:=by kernel_rfl
theorem fmt_run9:(fun Z=>allA (List.range 50) fun n=>zCx (zCc zEU 100000) 40 zG [.int .i64 (Int.ofNat (450+n)),.int .i64 (.ofNat 10)] (start tabs) Z (isK (.str (dig (450+n)))))=fun _=>zEi:=by kernel_rfl
theorem fmt_run10:(fun Z=>allA (List.range 50) fun n=>zCx (zCc zEU 100000) 40 zG [.int .i64 (Int.ofNat (500+n)),.int .i64 (.ofNat 10)] (start tabs) Z (isK (.str (dig (500+n)))))=fun _=>zEi:=by kernel_rfl
theorem fmt_run11:(fun Z=>allA (List.range 50) fun n=>zCx (zCc zEU 100000) 40 zG [.int .i64 (Int.ofNat (550+n)),.int .i64 (.ofNat 10)] (start tabs) Z (isK (.str (dig (550+n)))))=fun _=>zEi:=by kernel_rfl
theorem fmt_run12:(fun Z=>allA (List.range 50) fun n=>zCx (zCc zEU 100000) 40 zG [.int .i64 (Int.ofNat (600+n)),.int .i64 (.ofNat 10)] (start tabs) Z (isK (.str (dig (600+n)))))=fun _=>zEi:=by kernel_rfl
theorem fmt_run13:(fun Z=>allA (List.range 50) fun n=>zCx (zCc zEU 100000) 40 zG [.int .i64 (Int.ofNat (650+n)),.int .i64 (.ofNat 10)] (start tabs) Z (isK (.str (dig (650+n)))))=fun _=>zEi:=by kernel_rfl
theorem fmt_run14:(fun Z=>allA (List.range 50) fun n=>zCx (zCc zEU 100000) 40 zG [.int .i64 (Int.ofNat (700+n)),.int .i64 (.ofNat 10)] (start tabs) Z (isK (.str (dig (700+n)))))=fun _=>zEi:=by kernel_rfl
theorem fmt_run15:(fun Z=>allA (List.range 50) fun n=>zCx (zCc zEU 100000) 40 zG [.int .i64 (Int.ofNat (750+n)),.int .i64 (.ofNat 10)] (start tabs) Z (isK (.str (dig (750+n)))))=fun _=>zEi:=by kernel_rfl
theorem fmt_run16:(fun Z=>allA (List.range 50) fun n=>zCx (zCc zEU 100000) 40 zG [.int .i64 (Int.ofNat (800+n)),.int .i64 (.ofNat 10)] (start tabs) Z (isK (.str (dig (800+n)))))=fun _=>zEi:=by kernel_rfl
theorem fmt_run17:(fun Z=>allA (List.range 50) fun n=>zCx (zCc zEU 100000) 40 zG [.int .i64 (Int.ofNat (850+n)),.int .i64 (.ofNat 10)] (start tabs) Z (isK (.str (dig (850+n)))))=fun _=>zEi:=by kernel_rfl
theorem fmt_run18:(fun Z=>allA (List.range 50) fun n=>zCx (zCc zEU 100000) 40 zG [.int .i64 (Int.ofNat (900+n)),.int .i64 (.ofNat 10)] (start tabs) Z (isK (.str (dig (900+n)))))=fun _=>zEi:=by kernel_rfl
theorem fmt_run19:(fun Z=>allA (List.range 50) fun n=>zCx (zCc zEU 100000) 40 zG [.int .i64 (Int.ofNat (950+n)),.int .i64 (.ofNat 10)] (start tabs) Z (isK (.str (dig (950+n)))))=fun _=>zEi:=by kernel_rfl
theorem fmt_run20:(fun Z=>allA (List.range 50) fun n=>zCx (zCc zEU 100000) 40 zG [.int .i64 (Int.ofNat (1000+n)),.int .i64 (.ofNat 10)] (start tabs) Z (isK (.str (dig (1000+n)))))=fun _=>zEi:=by kernel_rfl
theorem fmt_run21:(fun Z=>allA (List.range 50) fun n=>zCx (zCc zEU 100000) 40 zG [.int .i64 (Int.ofNat (1050+n)),.int .i64 (.ofNat 10)] (start tabs) Z (isK (.str (dig (1050+n)))))=fun _=>zEi:=by kernel_rfl
theorem fmt_run22:(fun Z=>allA (List.range 50) fun n=>zCx (zCc zEU 100000) 40 zG [.int .i64 (Int.ofNat (1100+n)),.int .i64 (.ofNat 10)] (start tabs) Z (isK (.str (dig (1100+n)))))=fun _=>zEi:=by kernel_rfl
theorem fmt_run23:(fun Z=>allA (List.range 50) fun n=>zCx (zCc zEU 100000) 40 zG [.int .i64 (Int.ofNat (1150+n)),.int .i64 (.ofNat 10)] (start tabs) Z (isK (.str (dig (1150+n)))))=fun _=>zEi:=by kernel_rfl
theorem fmt_run24:(fun Z=>allA (List.range 50) fun n=>zCx (zCc zEU 100000) 40 zG [.int .i64 (Int.ofNat (1200+n)),.int .i64 (.ofNat 10)] (start tabs) Z (isK (.str (dig (1200+n)))))=fun _=>zEi:=by kernel_rfl
theorem fmt_run25:(fun Z=>allA (List.range 50) fun n=>zCx (zCc zEU 100000) 40 zG [.int .i64 (Int.ofNat (1250+n)),.int .i64 (.ofNat 10)] (start tabs) Z (isK (.str (dig (1250+n)))))=fun _=>zEi:=by kernel_rfl
theorem fmt_run26:(fun Z=>allA (List.range 50) fun n=>zCx (zCc zEU 100000) 40 zG [.int .i64 (Int.ofNat (1300+n)),.int .i64 (.ofNat 10)] (start tabs) Z (isK (.str (dig (1300+n)))))=fun _=>zEi:=by kernel_rfl
theorem fmt_run27:(fun Z=>allA (List.range 50) fun n=>zCx (zCc zEU 100000) 40 zG [.int .i64 (Int.ofNat (1350+n)),.int .i64 (.ofNat 10)] (start tabs) Z (isK (.str (dig (1350+n)))))=fun _=>zEi:=by kernel_rfl
theorem fmt_run28:(fun Z=>allA (List.range 50) fun n=>zCx (zCc zEU 100000) 40 zG [.int .i64 (Int.ofNat (1400+n)),.int .i64 (.ofNat 10)] (start tabs) Z (isK (.str (dig (1400+n)))))=fun _=>zEi:=by kernel_rfl
theorem fmt_run29:(fun Z=>allA (List.range 50) fun n=>zCx (zCc zEU 100000) 40 zG [.int .i64 (Int.ofNat (1450+n)),.int .i64 (.ofNat 10)] (start tabs) Z (isK (.str (dig (1450+n)))))=fun _=>zEi:=by kernel_rfl
theorem fmt_run30:(fun Z=>allA (List.range 50) fun n=>zCx (zCc zEU 100000) 40 zG [.int .i64 (Int.ofNat (1500+n)),.int .i64 (.ofNat 10)] (start tabs) Z (isK (.str (dig (1500+n)))))=fun _=>zEi:=by kernel_rfl
theorem fmt_run31:(fun Z=>allA (List.range 50) fun n=>zCx (zCc zEU 100000) 40 zG [.int .i64 (Int.ofNat (1550+n)),.int .i64 (.ofNat 10)] (start tabs) Z (isK (.str (dig (1550+n)))))=fun _=>zEi:=by kernel_rfl
theorem fmt_run {k:Nat}(hk:k<1600)(Z:Tape):∃ r,zCx (zCc zEU 100000) 40 zG [.int .i64 (Int.ofNat (k)),.int .i64 (.ofNat 10)] (start tabs) Z (isK (.str (dig (k))))=some r:=by
 have step:∀ (a:Nat),((fun Z=>allA (List.range 50) fun n=>zCx (zCc zEU 100000) 40 zG [.int .i64 (Int.ofNat (a+n)),.int .i64 (.ofNat 10)] (start tabs) Z (isK (.str (dig (a+n)))))=fun _=>zEi)->a<=k->k<a+50 ->
   ∃ r,zCx (zCc zEU 100000) 40 zG [.int .i64 (Int.ofNat (k)),.int .i64 (.ofNat 10)] (start tabs) Z (isK (.str (dig (k))))=some r:=by
  intro a h h1 h2
  have:=allA_run h (x:=k-a) (List.mem_range.2 (by omega)) Z
  rwa [show a+(k-a)=k by omega]at this
 by_cases h0:k<50
 ·exact step 0 fmt_run0 (by omega) (by omega)
 by_cases h1:k<100
 ·exact step 50 fmt_run1 (by omega) (by omega)
 by_cases h2:k<150
 ·exact step 100 fmt_run2 (by omega) (by omega)
 by_cases h3:k<200
 ·exact step 150 fmt_run3 (by omega) (by omega)
 by_cases h4:k<250
 ·exact step 200 fmt_run4 (by omega) (by omega)
 by_cases h5:k<300
 ·exact step 250 fmt_run5 (by omega) (by omega)
 by_cases h6:k<350
 ·exact step 300 fmt_run6 (by omega) (by omega)
 by_cases h7:k<400
 ·exact step 350 fmt_run7 (by omega) (by omega)
 by_cases h8:k<450
 ·exact step 400 fmt_run8 (by omega) (by omega)
 by_cases h9:k<500
 ·exact step 450 fmt_run9 (by omega) (by omega)
 by_cases h10:k<550
 ·exact step 500 fmt_run10 (by omega) (by omega)
 by_cases h11:k<600
 ·exact step 550 fmt_run11 (by omega) (by omega)
 by_cases h12:k<650
 ·exact step 600 fmt_run12 (by omega) (by omega)
 by_cases h13:k<700
 ·exact step 650 fmt_run13 (by omega) (by omega)
 by_cases h14:k<750
 ·exact step 700 fmt_run14 (by omega) (by omega)
 by_cases h15:k<800
 ·exact step 750 fmt_run15 (by omega) (by omega)
 by_cases h16:k<850
 ·exact step 800 fmt_run16 (by omega) (by omega)
 by_cases h17:k<900
 ·exact step 850 fmt_run17 (by omega) (by omega)
 by_cases h18:k<950
 ·exact step 900 fmt_run18 (by omega) (by omega)
 by_cases h19:k<1000
 ·exact step 950 fmt_run19 (by omega) (by omega)
 by_cases h20:k<1050
 ·exact step 1000 fmt_run20 (by omega) (by omega)
 by_cases h21:k<1100
 ·exact step 1050 fmt_run21 (by omega) (by omega)
 by_cases h22:k<1150
 ·exact step 1100 fmt_run22 (by omega) (by omega)
 by_cases h23:k<1200
 ·exact step 1150 fmt_run23 (by omega) (by omega)
 by_cases h24:k<1250
 ·exact step 1200 fmt_run24 (by omega) (by omega)
 by_cases h25:k<1300
 ·exact step 1250 fmt_run25 (by omega) (by omega)
 by_cases h26:k<1350
 ·exact step 1300 fmt_run26 (by omega) (by omega)
 by_cases h27:k<1400
 ·exact step 1350 fmt_run27 (by omega) (by omega)
 by_cases h28:k<1450
 ·exact step 1400 fmt_run28 (by omega) (by omega)
 by_cases h29:k<1500
 ·exact step 1450 fmt_run29 (by omega) (by omega)
 by_cases h30:k<1550
 ·exact step 1500 fmt_run30 (by omega) (by omega)
 exact step 1550 fmt_run31 (by omega) (by omega)
theorem p_fmt:∀ base w0,zCC PG base w0 zG (outP (RG tabs FmtPre FmtG)):=by
 refine zSy zMg allk_ok (tabk_ok 100000) (by kernel_rfl) (N:=100000) (d:=40) tabs (by rw[tabs_len];kernel_rfl) zOM ?_
 intro vs hp
 unfold FmtPre at hp
 split at hp
 ·rename_i n b
  obtain⟨h1,h2,rfl⟩:=hp
  obtain⟨k,rfl⟩:=Int.eq_ofNat_of_zero_le h1
  exact⟨rfl,fun Z=>fmt_run (k:=k) (by omega) Z⟩
 ·exact hp.elim
end Go.Am.X

namespace Go.Am.X
theorem zQb (c:zC)(N:Nat)(n:Int){h:Nat}(hh:h<4611686018427387903)(H:Heap)(Z:Tape):∃ m:Nat,m<=h/\∀ q,zH1 c N (.int .i64 n) (.int .i64 (.ofNat 0)) (.int .i64 (h:Int)) H Z q=q (.int .i64 (m:Int)) H Z:=by
 have h1:=Int.tmod_lt_of_pos n (b:=(h:Int)+1) (by omega)
 have h2:=Int.lt_tmod_of_pos n (b:=(h:Int)+1) (by omega)
 have e1:wr .i64 ((h:Int)-Int.ofNat 0)=h:=by rw[zEM (by simp <;> omega) (by simp <;> omega)];simp
 have e2:wr .i64 ((h:Int)+Int.ofNat 1)=(h:Int)+1:=by rw[zEM (by simp <;> omega) (by simp <;> omega)];simp
 have er:=zPL (k:=.i64) n ((h:Int)+1)
 generalize hr:n.tmod ((h:Int)+1)=r at h1 h2
 by_cases hneg:r<0
 ·refine⟨(r+(h+1)).toNat,by omega,fun q=>?_⟩
  have e3:decide (r<Int.ofNat 0)=true:=decide_eq_true hneg
  have e4:wr .i64 (r+(h:Int))=r+h:=by rw[zEM (by omega) (by omega)]
  have e5:wr .i64 (r+h-Int.ofNat 0)=r+h:=by rw[zEM (by simp <;> omega) (by simp <;> omega)];simp
  have e6:wr .i64 (r+h+Int.ofNat 1)=r+(h+1):=by rw[zEM (by simp <;> omega) (by simp <;> omega)];simp;try omega
  have e7:wr .i64 (Int.ofNat 0+(r+(h+1)))=(((r+(h+1)).toNat:Nat):Int):=by rw[zEM (by simp <;> omega) (by simp <;> omega)];simp;try omega
  simp only[zH1,zCv,e1,zY,e2,zPL _ _ ((h:Int)+1) (by omega),hr,zM,e3,zP,e4,e5,e6,zGu,zQ,↓reduceIte,Nat.reduceEqDiff,e7]
 ·refine⟨r.toNat,by omega,fun q=>?_⟩
  have e3:decide (r<Int.ofNat 0)=false:=decide_eq_false hneg
  have e7:wr .i64 (Int.ofNat 0+r)=((r.toNat:Nat):Int):=by rw[zEM (by simp <;> omega) (by simp <;> omega)];simp;omega
  simp only[zH1,zCv,e1,zY,e2,zPL _ _ ((h:Int)+1) (by omega),hr,zM,e3,zO,zGu,zQ,↓reduceIte,Nat.reduceEqDiff,e7]
end Go.Am.X

namespace Go.Am.X
noncomputable abbrev zD:List Row:=[Row.fn zGQ zBo zER,Row.fn zMZ zEq zKa,Row.fn zC5 zBV zEZ,Row.fn zDs zA8 zDe,Row.fn zDj zA6 zDu,Row.fn zC6 zBU zES,Row.fn zA5 zAv zC8,Row.fn zBd zAs zDE,Row.fn zEC zCX zGa,Row.fn zHk zC3 zHr,Row.fn zFh zB3 zFs,Row.fn zAG za zAn,Row.fn zBr zg zAy,Row.fn zBW zo zBX,Row.fn zy zAO zCb,Row.fn zEw zAt zDH,Row.fn zGB zF0 zML,Row.prim zAR (outP (RH zNp GetG)),Row.prim zDd (outP (RH SetPre SetG)),Row.prim zBw (outP (RH zQi CtlG)),Row.prim zIr (outP (RH zQi VaryG)),Row.prim zFx (outP (RH zR1 AgeG)),Row.prim zG7 (outP (RH zR1 FreshG)),Row.prim zG (outP (RG tabs FmtPre FmtG)),Row.prim zHT zLY,Row.fn zFE zFK zJ9,Row.fn zI8 zEc zI9,Row.fn zFn zDb zHe,Row.fn zAd zB2 zE0,Row.prim zC4 (outP (RH zRY DropG))]
theorem zQP:zMx PG zD :=
 .fn zJP zH5 (.fn zNv zLk (.fn zH8 zGP (.fn zG3 zFu (.fn zG0 zFk (.fn zH9 zGR (.fn zGW zFO (.fn zGO zFM (.fn zKr zIy (.fn zLa zJf (.fn zJe zHn (.fn zCU zB7 (.fn zCp zCE (.fn zDW zC0 (.fn zFN zET (.fn zGT zFL (.fn zPP zMX (.prim zPx (.prim zS3 (.prim zRo (.prim p_age_Vary (.prim p_age_Age (.prim p_age_Fresh (.prim p_fmt (.prim zJR (.fn zO2 zNM (.fn zNw zLn (.fn zM4 zLC (.fn zJu zIj (.prim zSO (.nil _))))))))))))))))))))))))))))))
section
variable {N:Nat} (hN:9223372036854775808<N)
include hN
theorem cr_get (d:Nat):zSj (CR zD N (d+1)):=fun hs _ hn _ _ hr Z q=>k_Get (c:=CR zD N (d+1)) (f:=zAR) (fun _ _ _ _=>rfl) hs hn hr Z q
theorem cr_par (d:Nat):ParsOk (CR zD N (d+1)):=fun hs _ _ hr Z q=>k_Ctl (c:=CR zD N (d+1)) (f:=zBw) (fun _ _ _ _=>rfl) hs hr Z q
theorem cr_age (d:Nat):AgeOkC (CR zD N (d+1)):=fun hs _ _ ha hb _ _ hr Z q=>k_Age (c:=CR zD N (d+1)) (f:=zFx) (fun _ _ _ _=>rfl) hs ha hb hr Z q
theorem cr_frs (d:Nat):FrsOkC (CR zD N (d+1)):=fun hs _ _ ha hb _ _ hr Z q=>k_Fresh (c:=CR zD N (d+1)) (f:=zG7) (fun _ _ _ _=>rfl) hs ha hb hr Z q
theorem cr_set (d:Nat):SetOkC (CR zD N (d+1)):=fun h1 h2 h3 h4 _ _ hw hr Z=>by
 obtain⟨r,H',Z',g,a,_,k⟩:=k_Set (c:=CR zD N (d+1)) (f:=zDd) (fun _ _ _ _=>rfl) (Pre:=SetPre) ⟨h1,h2,h3,h4⟩ hw hr Z
 exact⟨r,H',Z',fun h=>(a h).1,g,k⟩
theorem cr_vary (d:Nat):VaryOkC (CR zD N (d+1)):=fun {hs} hsm h3 {lv} {H} hw hr Z=>by
 have hg:VaryG (isNil lv) hs []=lstO 1 (zHG hs).length ((zHG hs).map V.str) (fun v=>.tup [v,.bool true]):=by
  show varyO hs=_
  unfold varyO
  rw[if_neg (by rw[h3];decide)]
  rfl
 obtain⟨v',H',Z',r1,r2,r3⟩:=RH_lstO (c:=CR zD N (d+1)) (f:=zIr) (l:=[]) (fun _ _ _ _=>rfl) hr hsm hg hw (by simp) Z
 exact⟨v',H',Z',r1,r2,r3⟩
theorem cr_mt (d:Nat):MeantOk (CR zD N (d+1)):=fun url _ ha _ hw Z=>zQE (CR zD N d) N url ha hw Z
theorem cr_m1 (d:Nat):zOR (CR zD N (d+2)):=fun hsm _ _ _ _ _ _ hw hr h1 h2 hu hb ha Z=>by
 obtain⟨H',Z',g,k⟩:=zPA (CR zD N (d+1)) (N:=N) (by omega) (cr_get hN d) hsm hw hr h1 h2 hu hb ha Z
 exact⟨H',Z',g,fun q=>k q⟩
theorem cr_idx (d:Nat):zP0 (CR zD N (d+1)) (CR zD N d):=fun f fv _ _ hw hs hl v hr hf hP Z=>zIG (CR zD N d) (N:=N) (by omega) f fv hw hs hl v hr hf hP Z
theorem cr_del (d:Nat):DelC (CR zD N (d+2)) (CR zD N d) (CR zD N (d+1)):=fun f fv _ _ hw hs hl v hg hf' hf hP Z=>zHY (CR zD N (d+1)) (CR zD N d) (N:=N) (by omega) (cr_idx hN d) f fv hw hs hl v hg hf' hf hP Z
theorem cr_del0 (d:Nat):Del0C (CR zD N (d+1)):=fun hg hw hl hl' Z=>zJh (CR zD N d) N hg hw hl hl' Z
theorem cr_u1 (d:Nat):Use1Ok (CR zD N (d+1)):=fun ha hx hr Z q=>zQV (CR zD N d) N ha hx hr Z q
theorem cr_use (d:Nat):UseOk (CR zD N (d+4)):=fun hc hw hl x hx h1 h2 h3 Z=>zNi (CR zD N (d+3)) (CR zD N (d+1)) (CR zD N (d+2)) N (cr_del hN (d+1)) (cr_u1 hN d) (cr_u1 hN (d+1)) hc hw hl x hx h1 h2 h3 Z
theorem cr_sto (d:Nat):StoOk (CR zD N (d+5)):=fun hc hw hl h0 h1 x hx h2 h3 h4 now Z=>zMh (CR zD N (d+4)) N (cr_use hN d) hc hw hl h0 h1 x hx h2 h3 h4 now Z
theorem cr_cop (d:Nat):CopOk (CR zD N (d+2)):=fun st hs hl bd hbl _ _ _ hw hr br bsr Z=>zPi (CR zD N (d+1)) N (fun hs hl v H hw hr hsr Z=>zD6 (CR zD N d) N hs hl v H hw hr hsr Z) (fun hw hr hs hn Z=>zMr (CR zD N d) N hw hr hs hn Z) st hs hl bd hbl hw hr br bsr Z
theorem cr_fi (d:Nat):FiOk (CR zD N (d+3)):=fun hc hw hl hok url _ hsm _ ha Z=>zNY (CR zD N (d+2)) (N:=N) (by omega) (cr_mt hN (d+1)) (cr_m1 hN d) (cr_par hN (d+1)) hc hw hl hok url hsm ha Z
theorem cr_drp (d:Nat):DrpOkC (CR zD N (d+1)):=drpOkC_of (c:=CR zD N (d+1)) (fun _ _ _ _=>rfl)
theorem cr_cln (d:Nat):ClnHOk (CR zD N (d+1)):=fun hs hl v H hw hr hsr Z=>zD6 (CR zD N d) N hs hl v H hw hr hsr Z
end
end Go.Am.X

namespace Go.Am.X
def hsM (l:Bs):List Hd:=[([67,97,99,104,101,45,67,111,110,116,114,111,108],[109,97,120,45,97,103,101,61]++l)]
def okM (n:Nat):Bool :=
 (renT (hsM (dig n)) (hsM [49]) == hsM (dig n)) && !(zBG (hsM (dig n))).1 && !(zBG (hsM (dig n))).2.1 && decide ((zBG (hsM (dig n))).2.2=Int.ofNat n)
theorem okM_run:(List.range 901).all okM=true:=by kernel_rfl
theorem okM_at {n:Nat}(hn:n<=900):renT (hsM (dig n)) (hsM [49])=hsM (dig n)/\(zBG (hsM (dig n))).1=false/\(zBG (hsM (dig n))).2.1=false/\(zBG (hsM (dig n))).2.2=n:=by
 have h:=List.all_eq_true.1 okM_run n (List.mem_range.2 (by omega))
 unfold okM at h
 rw[Bool.and_eq_true,Bool.and_eq_true,Bool.and_eq_true]at h
 obtain⟨⟨⟨h1,h2⟩,h3⟩,h4⟩:=h
 exact⟨eq_of_beq h1,by simpa using h2,by simpa using h3,by simpa using h4⟩
theorem ageM (l:Bs)(t:Nat)(ht:t<=1500):ageT (hsM l) 50 (50+(t:Int))=t:=by
 have e:(intB (strip (getT zKh (hsM l)))).1=0:=by kernel_rfl
 unfold ageT
 rw[e]
 unfold zOC addT zL4 zD3
 by_cases h:t=0
 ·subst h;rfl
 ·rw[if_neg (by omega),if_neg (by omega),if_neg (by omega),if_neg (by omega),if_neg (by omega)];omega
theorem freshM {n:Nat}(hn:n<=900){t:Nat}(ht:t<=1500):zM3 (hsM (dig n)) 50 (50+(t:Int))=decide (t<n):=by
 obtain⟨_,_,h3,h4⟩:=okM_at hn
 unfold zM3
 rw[ageM _ t ht,h3,h4]
 simp
theorem selM (l:Bs):(sel etagN (hsM l)).length=0/\(sel lastN (hsM l)).length=0:=by constructor <;> kernel_rfl
theorem varyM (l:Bs):(zBs zP4 (hsM l)).contains [42]=false/\zHG (hsM l)=[]:=by constructor <;> kernel_rfl
theorem parse1:(zBG (hsM [49])).1=false:=by kernel_rfl
end Go.Am.X

namespace Go.Am.X
end Go.Am.X

namespace Go.Am.X
section
variable {N:Nat} (hN:9223372036854775808<N)
include hN
end
end Go.Am.X

namespace Go.Am.X
theorem parse0:(zBG []).1=false/\(zBG []).2.1=false:=by constructor <;> kernel_rfl
theorem small0:Small []:=⟨by decide,fun h hh=>by simp at hh⟩
end Go.Am.X

namespace Go.Am.X
abbrev WithinOkU (c:zC):Prop:=∀ (n:Int) {h:Nat},h<4611686018427387903->∀ (H:Heap) (Z:Tape),∃ m:Nat,m<=h/\∀ q,c zFE [.int .i64 n,.int .i64 (.ofNat 0),.int .i64 (h:Int)] H Z q=q (.int .i64 (m:Int)) H Z
abbrev NewOkU (c:zC):Prop:=∀ {H:Heap},WF H->∀ Z,∃ H',CacM (fun _=>False) (fun _=>False) H' H.size [] 0/\Gr H.size H H'/\H'.size=H.size+1/\∀ q,c zMZ [] H Z q=q (.ptr H.size 0) H' Z
theorem zSE (c:zC)(N:Nat)(s:Bs)(H:Heap)(Z:Tape)(q:KV):zOP c N (.str s) H Z q=q (.sl H.size 0 1 1 none 2) (H.new [.str [67,97,99,104,101,45,67,111,110,116,114,111,108],.str s] 2 false) Z:=by
 have pb:zDm [(.str []),(.str [])] [(0,1),(1,1)] [.str (bs [67,97,99,104,101,45,67,111,110,116,114,111,108]),.str s]=some (.agg [.str [67,97,99,104,101,45,67,111,110,116,114,111,108],.str s]):=rfl
 have e0:zS 1 2 [(.str []),(.str [])] [(0,2)] [.agg [.str [67,97,99,104,101,45,67,111,110,116,114,111,108],.str s]] H Z=some (.sl H.size 0 1 1 none 2,H.new [.str [67,97,99,104,101,45,67,111,110,116,114,111,108],.str s] 2 false,Z):=rfl
 simp only[zOP,pb,zJ,e0,zf]
theorem zS0 {c:zC}{f:Nat}(h:∀ vs H Z q,c f vs H Z q=effK (zLY vs H Z) q):∀ H Z q,c f [] H Z q=q (.bool true) H Z:=fun H Z q=>by rw[h];rfl
end Go.Am.X

namespace Go.Am.X
abbrev PutOkR (cc:zC):Prop:=∀ {P D E:Nat->Prop} {H:Heap} {c:Nat} {rows:List CRow} {puts:Int} (hc:CacM P D H c rows puts) (hw:WF H) (hl:rows.length<=100) (hok:∀ r ∈ rows,OkVs r) (hp0:0<=puts) (hp1:puts<4611686018427387904) (url:Bs) {ask hs:List Hd} (ham:Small ask) (hsm:Small hs) (hhl:hs.length<=1000000) (bd:List V) (hbl:bd.length<=100000000) {av hv bv:V} (hE:∀ i,E i->i<H.size/\¬ P i/\i≠c) (ha:DatP E H 2 av ask.length (hcells ask)) (hh:DatP E H 2 hv hs.length (hcells hs)) (hb:DatP E H 1 bv bd.length bd) (n1:(zBG hs).1=false) (n2:(zBG ask).1=false) (n3:(zBs zP4 hs).contains [42]=false) (hnl:(zHG hs).length<=1000000) (hns:∀ n ∈ zHG hs,n.length<=140737488355328) (now:Int) (Z:Tape),∃ P' D' H' Z' x,CacM P' D' H' c (cutC (rows.filter fun r=>!zNC url ask r)++[x]) (puts+1)/\(x.url=url/\x.vs=(zHG hs).map (vryT ask)/\x.st=200/\x.hs=hs/\x.bd=bd/\x.sto=now/\x.ord=puts+1/\H.size<=x.id)/\(∀ i,i<H.size->P' i->P i)/\(∀ i,i<H.size->D' i->D i)/\Chg (fun i=>P i∨i=c) H H'/\∀ q,cc zC5 [(.ptr c 0),(.str url),av,(.agg [.int .i64 (.ofNat 200),hv,bv]),(.int .i64 now)] H Z q=q (.bool true) H' Z'
abbrev FndOkR (cc:zC):Prop:=∀ {P D E:Nat->Prop} {H:Heap} {c:Nat} {rows:List CRow} {puts:Int} (hc:CacM P D H c rows puts) (hw:WF H) (hl:rows.length<=1000) (hok:∀ r ∈ rows,OkVs r) (url:Bs) {ask:List Hd} (ham:Small ask) {av:V} (hE:∀ i,E i->i<H.size/\¬ P i/\i≠c) (ha:DatP E H 2 av ask.length (hcells ask)) {x:CRow} (hn:zMQ url ask rows=some x) (hxs:Small x.hs) (hxl:x.hs.length<1000000) (hxn:∀ h ∈ x.hs,h.1.length<=140737488355328) (hxb:x.bd.length<=100000000) (he:(sel etagN x.hs).length=0) (hm:(sel lastN x.hs).length=0) {now:Int} (hin:InI now) (his:InI x.sto) {s:Bs} (hsl:s.length<=100) (hF:∀ H',Chg (fun i=>P i∨i=c) H H'->∀ Z q,cc zG [.int .i64 (ageT x.hs x.sto now),.int .i64 (.ofNat 10)] H' Z q=q (.str s) H' Z) (Z:Tape),∃ P' H' Z' hvF bvF nh ch,CacM P' D H' c (useT x rows) puts/\(∀ i,i<H.size->P' i->P i)/\BodP (fun i=>H.size<=i/\¬ P' i/\i<H'.size) H' bvF x.bd.length x.bd/\HvBv P' D H H' hvF nh ch bvF x.bd.length x.bd/\Chg (fun i=>P i∨i=c) H H'/\∀ q,cc zDs [(.ptr c 0),(.str url),av,(.int .i64 now)] H Z q=q (.agg [.int .i64 (if zPk ask x now=true then 2 else 1),.int .i64 x.st,hvF,bvF,.nils]) H' Z'
abbrev Ren0OkR (cc:zC):Prop:=∀ {P D:Nat->Prop} {H:Heap} {c:Nat} {rows:List CRow} {puts:Int} (hc:CacM P D H c rows puts) (hw:WF H) (hl:rows.length<=1000) (hok:∀ r ∈ rows,OkVs r) (url:Bs) {ask:List Hd} (ham:Small ask) {av:V} (ha:RdH H av ask) (hn:zMQ url ask rows=none) (st2:Int) (hv2 bv2 now:V) (Z:Tape),∃ H' Z',Gr H.size H H'/\∀ q,cc zAd [(.ptr c 0),(.str url),av,(.agg [.int .i64 st2,hv2,bv2]),now] H Z q=q (.tup [.agg [.int .i64 0,.nils,.nils],.bool false]) H' Z'
abbrev RenOkR (cc:zC):Prop:=∀ {P D E:Nat->Prop} {H:Heap} {c:Nat} {rows:List CRow} {puts:Int} (hc:CacM P D H c rows puts) (hw:WF H) (hl:rows.length<=900) (hok:∀ r ∈ rows,OkVs r) (hp0:0<=puts) (hp1:puts<4611686018427387904) (url:Bs) {ask hs2:List Hd} (ham:Small ask) (hs2m:Small hs2) {av hv2 bv2:V} (ha:RdH H av ask) (st2:Int) (hE:∀ i,E i->i<H.size/\¬ P i/\i≠c/\∀ r ∈ rows,i≠r.id) (hh:DatP E H 2 hv2 hs2.length (hcells hs2)) {x:CRow} (hn:zMQ url ask rows=some x) (hxl:x.hs.length<=1000000) (hxn:∀ h ∈ x.hs,h.1.length<=140737488355328) (hxb:x.bd.length<=100000000) (hB:∀ pre l,zNr nm4 hs2=pre++l->(zJG pre (zBg ageN x.hs)).length<1000000/\∀ h ∈ zJG pre (zBg ageN x.hs),h.1.length<=140737488355328) (now:Int) (Z:Tape),∃ P' D' H' Z' hvR bvR y,CacM P' D' H' c ((rows.filter fun r=>!decide (x.id=r.id))++[y]) (puts+1)/\(y.url=x.url/\y.vs=x.vs/\y.st=x.st/\y.hs=renT hs2 x.hs/\y.bd=x.bd/\y.sto=now/\y.ord=puts+1/\y.id=x.id)/\(∀ i,i<H.size->P' i->P i)/\(∀ i,i<H.size->D' i->D i)/\BodP (fun i=>H.size<=i/\¬ P' i/\¬ D' i/\i<H'.size) H' bvR x.bd.length x.bd/\HvBv P' D' H H' hvR (renT hs2 x.hs).length (hcells (renT hs2 x.hs)) bvR x.bd.length x.bd/\Chg (fun i=>P i∨i=c∨i=x.id) H H'/\∀ q,cc zAd [(.ptr c 0),(.str url),av,(.agg [.int .i64 st2,hv2,bv2]),(.int .i64 now)] H Z q=q (.tup [.agg [.int .i64 x.st,hvR,bvR],.bool true]) H' Z'
end Go.Am.X

namespace Go.Am.X
section
variable {N:Nat} (hN:9223372036854775808<N)
include hN
theorem cr_PutOkR:PutOkR (CR zD N 7):=fun {P D E} {H} {c} {rows} {puts} hc hw hl hok hp0 hp1 url {ask hs} ham hsm hhl bd hbl {av hv bv} hE ha hh hb n1 n2 n3 hnl hns now Z=>zOJ (CR zD N 6) (CR zD N 4) (CR zD N 5) (N:=N) (by omega) (cr_vary hN 5) (cr_par hN 5) (cr_mt hN 5) (cr_m1 hN 2) (cr_m1 hN 3) (cr_del hN 4) (cr_del0 hN 5) (cr_cop hN 4) (cr_get hN 5) (cr_sto hN 1) hc hw hl hok hp0 hp1 url ham hsm hhl bd hbl hE ha hh hb n1 n2 n3 hnl hns now Z
theorem cr_FndOkR:FndOkR (CR zD N 7):=fun {P D E} {H} {c} {rows} {puts} hc hw hl hok url {ask} ham {av} hE ha {x} hn hxs hxl hxn hxb he hm {now} hin his {s} hsl hF Z=>zMc (CR zD N 6) N (cr_fi hN 3) (cr_use hN 2) (cr_cop hN 4) (cr_age hN 5) (cr_frs hN 5) (cr_set hN 5) (cr_get hN 5) (cr_par hN 5) hc hw hl hok url ham hE ha hn hxs hxl hxn hxb he hm hin his hsl hF Z
theorem cr_Ren0OkR:Ren0OkR (CR zD N 7):=fun {P D} {H} {c} {rows} {puts} hc hw hl hok url {ask} ham {av} ha hn st2 hv2 bv2 now Z=>zLp (CR zD N 6) N (cr_fi hN 3) hc hw hl hok url ham ha hn st2 hv2 bv2 now Z
theorem cr_RenOkR:RenOkR (CR zD N 7):=fun {P D E} {H} {c} {rows} {puts} hc hw hl hok hp0 hp1 url {ask hs2} ham hs2m {av hv2 bv2} ha st2 hE hh {x} hn hxl hxn hxb hB now Z=>zMD (CR zD N 6) (N:=N) (by omega) (cr_fi hN 3) (cr_drp hN 5) (cr_cln hN 5) (cr_set hN 5) (cr_sto hN 1) (cr_cop hN 4) hc hw hl hok hp0 hp1 url ham hs2m ha st2 hE hh hn hxl hxn hxb hB now Z
end
end Go.Am.X

