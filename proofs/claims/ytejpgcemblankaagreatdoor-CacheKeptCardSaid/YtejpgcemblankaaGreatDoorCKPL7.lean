/- The abstract machine, printed functions of the program, and what they are shown to be. -/
import Derived.Test.YtejpgcemblankaaGreatDoorCKPL6
import Derived.Test.YtejpgcemblankaaGreatDoorCKPL4
set_option linter.unusedSimpArgs false
set_option linter.unusedVariables false
set_option linter.unusedSectionVars false
set_option maxRecDepth 100000
namespace Go.Am.X
theorem CacM.gr {P D:Nat->Prop}{H H':Heap}{c:Nat}{rows:List CRow}{puts:Int}(h:CacM P D H c rows puts)(hw:WF H)(hg:Gr H.size H H'):CacM P D H' c rows puts:=by
 obtain⟨v,h1,h2⟩:=h.bx
 exact⟨⟨v,zEn h1 hw hg,GenL.gr h2 hw hg⟩,fun r hr=>(h.mem r hr).chg hw (hg.chg (P:=fun _=>False)) (fun _ _ _=>not_false) not_false,h.sep,fun i hi=>Nat.lt_of_lt_of_le (h.pl i hi) hg.size,fun i hi=>Nat.lt_of_lt_of_le (h.dl i hi) hg.size,h.pc,h.dc,h.pr⟩
theorem CacM.weakenD {P D E:Nat->Prop}{H:Heap}{c:Nat}{rows:List CRow}{puts:Int}(h:CacM P D H c rows puts)(hw:WF H)(hDE:∀ i,D i->E i)(hs:∀ i,P i->¬ E i)(hl:∀ i,E i->i<H.size)(hc:¬ E c)(hr:∀ r ∈ rows,¬ E r.id):CacM P E H c rows puts :=
 ⟨h.bx,fun r m=>(h.mem r m).weaken hw (fun i _ hi=>hDE i hi),hs,h.pl,hl,h.pc,hc,fun r m=>⟨(h.pr r m).1,hr r m,(h.pr r m).2.2⟩⟩
def zGL (hs:List Hd):List Bs:=srtT (varL (zB8 zQi hs))
abbrev VaryOkC (c:zD):Prop:=∀ {hs:List Hd},Small hs->(zB8 zQi hs).contains [42]=false->∀ {lv:V} {H:Heap},WF H->RdH H lv hs->∀ Z,∃ nv H' Z',Own H' H.size 1 nv (zGL hs).length ((zGL hs).map V.str)/\Gr H.size H H'/\∀ q,c zIu [lv] H Z q=q (.tup [nv,.bool true]) H' Z'
abbrev CopOk (c:zD):Prop:=∀ (st:Int) (hs:List Hd),hs.length<=1000000->∀ (bd:List V),bd.length<=100000000->∀ {hv bv:V} {H:Heap},WF H->RdH H hv hs->Rd H 1 bv bd.length bd->Src H bv->∀ Z,
  ∃ hv' bv' H' Z' m,H.size<=m/\m<=H'.size/\GenL (fun i=>H.size<=i/\i<m) H' 2 hv' hs.length (hcells hs)/\BodP (fun i=>m<=i/\i<H'.size) H' bv' bd.length bd/\Gr H.size H H'/\∀ q,c zEH [.agg [.int .i64 st,hv,bv]] H Z q=q (.agg [.int .i64 st,hv',bv']) H' Z'
abbrev StoOk (cc:zD):Prop:=∀ {P D:Nat->Prop} {H:Heap} {c:Nat} {rows:List CRow} {puts:Int},CacM P D H c rows puts->WF H->rows.length<=1000->0<=puts->puts<4611686018427387904->∀ (x:CRow),RowM D H x->¬ P x.id->¬ D x.id->x.id≠c->∀ (now:Int) Z,
  ∃ P' H' Z',CacM P' D H' c (storeT x now (puts+1) rows) (puts+1)/\(∀ i,i<H.size->P' i->P i)/\Chg (fun i=>P i∨i=c∨i=x.id) H H'/\∀ q,cc zBu [.ptr c 0,rpV x,.int .i64 now] H Z q=q (.tup []) H' Z'
def cutC (l:List CRow):List CRow:=if 16<=l.length then l.drop 1 else l
theorem zOF (cc c' c'':zD){N:Nat}(hN:9223372036854775807<=N)(hV:VaryOkC cc)(hP:ParsOk cc)(hMt:MeantOk cc)(hM':zOb c')(hM'':zOb c'')(hD:DelC cc c' c'')(hD0:Del0C cc)(hCp:CopOk cc)(hG:zSc cc)(hSt:StoOk cc)
  {P D E:Nat->Prop} {H:Heap} {c:Nat} {rows:List CRow} {puts:Int} (hc:CacM P D H c rows puts) (hw:WF H) (hl:rows.length<=100) (hok:∀ r ∈ rows,OkVs r) (hp0:0<=puts) (hp1:puts<4611686018427387904) (url:Bs) {ask hs:List Hd} (ham:Small ask) (hsm:Small hs) (hhl:hs.length<=1000000) (bd:List V) (hbl:bd.length<=100000000) {av hv bv:V}
  (hE:∀ i,E i->i<H.size/\¬ P i/\i≠c) (ha:DatP E H 2 av ask.length (hcells ask)) (hh:DatP E H 2 hv hs.length (hcells hs)) (hb:DatP E H 1 bv bd.length bd) (n1:(zCH hs).1=false) (n2:(zCH ask).1=false) (n3:(zB8 zQi hs).contains [42]=false) (hnl:(zGL hs).length<=1000000) (hns:∀ n ∈ zGL hs,n.length<=140737488355328) (now:Int) (Z:Tape) :
  ∃ P' D' H' Z' x,CacM P' D' H' c (cutC (rows.filter fun r=>!zM6 url ask r)++[x]) (puts+1)/\(x.url=url/\x.vs=(zGL hs).map (vryT ask)/\x.st=200/\x.hs=hs/\x.bd=bd/\x.sto=now/\x.ord=puts+1/\H.size<=x.id)/\(∀ i,i<H.size->P' i->P i)/\(∀ i,i<H.size->D' i->D i)/\Chg (fun i=>P i∨i=c) H H' /\
   ∀ q,zEi cc N (.ptr c 0) (.str url) av (.agg [.int .i64 (.ofNat 200),hv,bv]) (.int .i64 now) H Z q=q (.bool true) H' Z':=by
 have hcl:c<H.size:=by obtain⟨v,h1,_⟩:=hc.bx;exact h1.lt hw
 have e0:eBox [.agg [.int .i64 (.ofNat 200),hv,bv]] H Z=some (.ptr H.size 0,H.new [.int .i64 (.ofNat 200),hv,bv] 3 true,Z):=rfl
 have g1:=Gr.new hw [.int .i64 (.ofNat 200),hv,bv] 3 true
 have b1:Bx (H.new [.int .i64 (.ofNat 200),hv,bv] 3 true) H.size [.int .i64 (.ofNat 200),hv,bv]:=Bx.new H _ 3 true (by simp)
 have z1:(H.new [.int .i64 (.ofNat 200),hv,bv] 3 true).size=H.size+1:=rfl
 generalize H.new [.int .i64 (.ofNat 200),hv,bv] 3 true=H1 at e0 g1 b1 z1
 have l1:zH [.ptr H.size (0+1)] H1=some hv:=zN b1.cells rfl
 have hh1:=hh.gr hw g1
 obtain⟨nv,H2,Z2,o2,g2,k2⟩:=hV hsm n3 g1.wf ⟨hh1.rd,hh1.src⟩ Z
 have g12:=g1.trans g2 g1.size
 have s12:=g12.size
 have b2:=zEn b1 g1.wf g2
 have l2s:zH [.ptr H.size (0+0)] H2=some (.int .i64 (.ofNat 200)):=zN b2.cells rfl
 have l2h:zH [.ptr H.size (0+1)] H2=some hv:=zN b2.cells rfl
 have hh2:=hh.gr hw g12
 have ha2:=ha.gr hw g12
 have kPh:=hP hsm (lv:=hv) (H:=H2) ⟨hh2.rd,hh2.src⟩ Z2
 have kPa:=hP ham (lv:=av) (H:=H2) ⟨ha2.rd,ha2.src⟩ Z2
 have pfh:zM7 0 1 false [.agg (ctlC (zCH hs))]=some (.bool false):=by
  have:zM7 0 1 false [.agg (ctlC (zCH hs))]=some (.bool (zCH hs).1):=rfl
  rw[this,n1]
 have pfa:zM7 0 1 false [.agg (ctlC (zCH ask))]=some (.bool false):=by
  have:zM7 0 1 false [.agg (ctlC (zCH ask))]=some (.bool (zCH ask).1):=rfl
  rw[this,n2]
 obtain⟨H3,g3,z3,a3,a3b,k3⟩:=hMt url ha.scal.1 g2.wf Z2
 have g13:=g12.trans g3 g12.size
 have c3:=hc.gr hw g13
 have s13:=g13.size
 have hE3:∀ i,E i->¬ P1of P H3 i/\i≠c:=fun i h=>⟨fun k=>k.elim (hE i h).2.1 (fun k=>by have:=(hE i h).1;omega),(hE i h).2.2⟩
 have ha3:=ha.gr hw g13
 have tst:∀ {c':zD},zOb c'->TstV c' (fvM H2.size) rpV (zM6 url ask) (P1of P H3) H3 rows:=fun hM r hr Ha hh τa=>by
  have na:∀ j,H2.size<=j->j<H3.size->¬ P1of P H3 j:=fun j h1 h2 h=>h.elim (fun h=>by have:=hc.pl j h;have:=g12.size;omega) (fun h=>by omega)
  exact hM ham hh.wf ((c3.mem r hr).chg g3.wf hh (fun i _ hd h=>h.elim (fun h=>hc.sep i h hd) (fun h=>by have:=hc.dl i hd;omega)) (fun h=>h.elim (hc.pr r hr).1 (fun h=>by have:=(hc.mem r hr).bx.bx.lt hw;omega))) (hok r hr).1 (hok r hr).2
   (a3.chg g3.wf hh (na _ nl (by omega))).cells (a3b.chg g3.wf hh (na _ (by omega) (by omega))).cells ⟨(ha3.chg g3.wf hh (fun i _ h=>(hE3 i h).1)).rd,(ha3.chg g3.wf hh (fun i _ h=>(hE3 i h).1)).src⟩ τa
 obtain⟨v,w,H5,Z5,H6,d1,d2,d3,d4,d5,d6,d7,c6,q6⟩:=CacM.delete hD c3 g3.wf (by omega) (tst hM') (tst hM'') Z2
 have lv2:zH [.ptr c 0] H2=some v:=by
  obtain⟨v0,h1,_⟩:=hc.bx
  have e2:zH [.ptr c 0] H2=some v0:=zN (zEn h1 hw g12).cells rfl
  have e3:zH [.ptr c 0] H3=some v0:=zN (zEn h1 hw g13).cells rfl
  rw[d1]at e3;cases e3;exact e2
 have hck:zAs [H2,H3,H5,H6] (((.load none),[.ptr c 0],0,1)::[])=true:=by
  simp[zAs,zG5,zOK,lv2,d1,chk1,d4]
 generalize hrows1:(rows.filter fun r=>!zM6 url ask r)=rows1 at d7 c6 ⊢
 have hr1l:rows1.length<=rows.length:=by rw[<- hrows1];exact List.length_filter_le _ _
 have s36:=q6.size
 have rest:∀ (H7:Heap) (Z7:Tape) (rows2:List CRow) (P7:Nat->Prop),CacM P7 D H7 c rows2 puts->WF H7->rows2.length<=100->(∀ i,i<H.size->P7 i->P i)->(∀ i,P7 i->i<H.size->P i)->(∀ i,P7 i->P i∨H3.size<=i)->Chg (fun i=>P i∨i=c) H3 H7 ->
   ∃ P' D' H' Z' x,CacM P' D' H' c (rows2++[x]) (puts+1)/\(x.url=url/\x.vs=(zGL hs).map (vryT ask)/\x.st=200/\x.hs=hs/\x.bd=bd/\x.sto=now/\x.ord=puts+1/\H.size<=x.id)/\(∀ i,i<H.size->P' i->P i)/\(∀ i,i<H.size->D' i->D i)/\Chg (fun i=>P i∨i=c) H H' /\
    ∀ (fr:T V) q,fr.get 0=some (.ptr c 0)->fr.get 1=some (.str url)->fr.get 2=some av->fr.get 4=some (.int .i64 now)->fr.get 8=some (.ptr H.size 0)->fr.get 11=some nv->zEb cc N q ⟨fr,H7⟩ Z7=q (.bool true) H' Z':=by
  intro H7 Z7 rows2 P7 c7 w7 h27 hP7 hP7' hP7n q37
  have s37:=q37.size
  have nQ:∀ j,H.size<=j->j<H3.size->¬(P j∨j=c):=fun j h1 _ h=>h.elim (fun h=>by have:=hc.pl j h;omega) (fun h=>by omega)
  have b7:Bx H7 H.size [.int .i64 (.ofNat 200),hv,bv]:=(zEn b2 g2.wf g3).chg g3.wf q37 (nQ _ nl (by omega))
  have hh7:=(hh.gr hw g13).chg g3.wf q37 (fun i _ h k=>k.elim (hE i h).2.1 (hE i h).2.2)
  have ha7:=ha3.chg g3.wf q37 (fun i _ h k=>k.elim (hE i h).2.1 (hE i h).2.2)
  have hb7:=(hb.gr hw g13).chg g3.wf q37 (fun i _ h k=>k.elim (hE i h).2.1 (hE i h).2.2)
  have nv2:DatP (fun i=>H1.size<=i/\i<H2.size) H2 1 nv (zGL hs).length ((zGL hs).map V.str):=(DatP.own o2).weaken g2.wf fun i hi h=>⟨h,hi⟩
  have nv7:=(nv2.gr g2.wf g3).chg g3.wf q37 (fun i hi h k=>nQ i (by omega) hi k)
  have lr7:zAp 3 [.ptr H.size 0] H7=some (.agg [.int .i64 (.ofNat 200),hv,bv]):=zAm b7.cells (by simp)
  obtain⟨hv',bv',H8,Z8,m,m1,m2,y1,y2,g8,k8⟩:=hCp 200 hs hhl bd hbl w7 ⟨hh7.rd,hh7.src⟩ hb7.rd hb7.src Z7
  have pb:zFA [(.str []),.nils,(.int .i64 (.ofNat 0)),.nils,.nils,(.int .i64 (.ofNat 0)),(.int .i64 (.ofNat 0))] [(0,1),(2,3)] [.str url,.agg [.int .i64 200,hv',bv']]=some (.agg (rowV url .nils 200 hv' bv')):=rfl
  have e9:eBox [.agg (rowV url .nils 200 hv' bv')] H8 Z8=some (.ptr H8.size 0,H8.new (rowV url .nils 200 hv' bv') 7 true,Z8):=rfl
  have g9:=Gr.new g8.wf (rowV url .nils 200 hv' bv') 7 true
  have b9:BxT (H8.new (rowV url .nils 200 hv' bv') 7 true) H8.size (rowV url .nils 200 hv' bv'):=BxT.new H8 _ 7 (by simp)
  have z9:(H8.new (rowV url .nils 200 hv' bv') 7 true).size=H8.size+1:=rfl
  generalize H8.new (rowV url .nils 200 hv' bv') 7 true=H9 at e9 g9 b9 z9
  have s78:=g8.size
  let Q:Nat->Prop:=fun i=>i=H8.size∨H9.size<=i
  have g79:=g8.trans g9 g8.size
  obtain⟨vv,H10,Z10,t1,t2,t3,t4⟩:=l_cput cc N hG ham (av:=av) (zGL hs) hnl hns nv (.ptr c 0) (.int .i64 now) url 200 hv' bv' H8.size g9.wf (by omega) (Q:=Q) (fun i hi=>⟨fun h=>h.elim id (fun h=>by omega),.inl⟩) (fun i hi=>.inr hi)
   (fun Hx hx=>((nv7.gr w7 g79).chg g9.wf hx (fun i _ h k=>k.elim (fun e=>by omega) (fun e=>by omega))).rd) (fun Hx hx=>⟨((ha7.gr w7 g79).chg g9.wf hx (fun i _ h k=>by have:=(hE i h).1;exact k.elim (fun e=>by omega) (fun e=>by omega))).rd,((ha7.gr w7 g79).chg g9.wf hx (fun i _ h k=>by have:=(hE i h).1;exact k.elim (fun e=>by omega) (fun e=>by omega))).src⟩)
   (zGL hs) [] .nils H9 Z8 N rfl (by omega) (Chg.refl g9.wf) b9 (GenL.nil _ _ _)
  have s910:=t1.size
  have g7t:Gr H7.size H7 H10:=g79.trans (t1.gr (B:=H7.size) (by omega) (fun i hi h=>h.elim (fun e=>by omega) (fun e=>by omega))) nl
  let D2:Nat->Prop:=fun i=>D i∨(H7.size<=i/\i<H8.size)∨(H9.size<=i/\i<H10.size)
  have hrow:RowM D2 H10 ⟨H8.size,url,(zGL hs).map (vryT ask),200,hs,bd,0,0,vv,hv',bv'⟩:=by
   refine⟨t2,?_,?_,?_⟩
   ·have:=(DatP.gen t3).weaken t1.wf (Q:=D2) (fun i hi h=>.inr (.inr ⟨h,hi⟩))
    exact this
   ·exact((DatP.gen (y1.gr g8.wf g9)).chg g9.wf t1 (fun i _ h k=>k.elim (fun e=>by omega) (fun e=>by omega))).weaken t1.wf (fun i _ h=>.inr (.inl ⟨h.1,by omega⟩))
   ·have y2':DatP (fun i=>m<=i/\i<H8.size) H8 1 bv' bd.length bd:=DatP.bod y2
    exact((y2'.gr g8.wf g9).chg g9.wf t1 (fun i _ h k=>k.elim (fun e=>by omega) (fun e=>by omega))).weaken t1.wf (fun i _ h=>.inr (.inl ⟨by omega,h.2⟩))
  have c10:=(c7.gr w7 g7t).weakenD g7t.wf (E:=D2) (fun i h=>.inl h) (fun i hp h=>h.elim (fun h=>c7.sep i hp h) (fun h=>by have:=c7.pl i hp;exact h.elim (fun h=>by omega) (fun h=>by omega))) (fun i h=>h.elim (fun h=>by have:=hc.dl i h;omega) (fun h=>h.elim (fun h=>by omega) (fun h=>h.2)))
   (fun h=>h.elim hc.dc (fun h=>h.elim (fun h=>by omega) (fun h=>by omega))) (fun r hr h=>h.elim (c7.pr r hr).2.1 (fun h=>by have:=(c7.mem r hr).bx.bx.lt w7;exact h.elim (fun h=>by omega) (fun h=>by omega)))
  obtain⟨P',H',Z',u1,u2,u3,u4⟩:=hSt c10 g7t.wf (by omega) hp0 hp1 ⟨H8.size,url,(zGL hs).map (vryT ask),200,hs,bd,0,0,vv,hv',bv'⟩ hrow (fun h=>by have:=c7.pl _ h;simp only at this;omega) (fun h=>h.elim (fun h=>by have:=hc.dl _ h;simp only at this;omega) (fun h=>h.elim (fun h=>by simp only at h;omega) (fun h=>by simp only at h;omega))) (by simp only;omega) now Z10
  have hst:storeT ⟨H8.size,url,(zGL hs).map (vryT ask),200,hs,bd,0,0,vv,hv',bv'⟩ now (puts+1) rows2=rows2++[⟨H8.size,url,(zGL hs).map (vryT ask),200,hs,bd,now,puts+1,vv,hv',bv'⟩]:=by
   unfold storeT
   congr 1
   rw[List.filter_eq_self]
   intro r hr
   have:=(c7.mem r hr).bx.bx.lt w7
   have hne:H8.size≠r.id:=by omega
   simp[hne]
  rw[hst]at u1
  refine⟨P',D2,H',Z',_,u1,⟨rfl,rfl,rfl,rfl,rfl,rfl,rfl,by simp only;omega⟩,fun i hi h=>hP7 i hi (u2 i (by omega) h),fun i hi h=>h.elim id (fun h=>h.elim (fun h=>by omega) (fun h=>by omega)),?_,fun fr q f0 f1 f2 f4 f8 f11=>?_⟩
  ·have q3:Chg (fun i=>P i∨i=c) H H3:=g13.chg
   have q7:Chg (fun i=>P i∨i=c) H H7:=q3.trans q37 fun _ _ h=>h
   have q10:Chg (fun i=>P i∨i=c) H H10:=q7.trans (g7t.chg (P:=fun _=>False)) fun _ _ h=>h.elim
   exact q10.trans u3 fun i hi h=>h.elim (fun h=>.inl (hP7 i hi h)) (fun h=>h.elim .inr (fun h=>by simp only at h;omega))
  ·have pl:=nv7.rd.pLen
   have k8':∀ q,cc zEH [.agg [.int .i64 (.ofNat 200),hv,bv]] H7 Z7 q=q (.agg [.int .i64 200,hv',bv']) H8 Z8:=k8
   have u4':∀ q,cc zBu [.ptr c 0,.ptr H8.size 0,.int .i64 now] H10 Z10 q=q (.tup []) H' Z':=u4
   simp only[zEb,zA f0,zA f1,zA f2,zA f4,zA f8,zA f11,lr7,zI,k8',pb,e9,zT,pl]
   rw[t4 _ _ (by simp[T.get_set]) (by simp[T.get_set]) (by simp[T.get_set]) (by simp[T.get_set]) (by simp[T.get_set]) (by simp[T.get_set]) (by simp[T.get_set])]
   simp only[zU,Nat.beq_refl,cond_true,seqK,zJm,zO,↓reduceIte,Nat.reduceEqDiff,u4']
 have x0:∀ a b:V,zG 0 [.tup [a,b]]=some a:=fun _ _=>rfl
 have x1:∀ a b:V,zG 1 [.tup [a,b]]=some b:=fun _ _=>rfl
 have ez:(Int.ofNat 200 != Int.ofNat 200)=false:=rfl
 have nck:zf [.ptr c 0]=some (.ptr c 0):=rfl
 by_cases h16:16<=rows1.length
 ·obtain⟨r0,l,rfl⟩:=List.exists_cons_of_ne_nil (l:=rows1) (by intro h;rw[h]at h16;simp at h16)
  have hll:l.length<=100:=by simp at hr1l;omega
  obtain⟨v',w',H6a,H7,p1,p2,p3,c7,q7⟩:=CacM.delete0 hD0 c6 q6.wf (by simp at h16;omega) (by omega) Z5
  have hww:v'=w:=by rw[d6]at p1;exact(Option.some.inj p1).symm
  subst hww
  have q37:Chg (fun i=>P i∨i=c) H3 H7:=q6.trans q7 fun i hi h=>h.elim (fun h=>h.1.elim .inl (fun h=>by omega)) .inr
  obtain⟨P',D',H',Z',x,r1,r2,r3,r4,r5,r6⟩:=rest H7 Z5 l _ c7 q7.wf hll (fun i hi h=>h.1.1.elim id (fun h=>by omega)) (fun i h hi=>h.1.1.elim id (fun h=>by omega)) (fun i h=>h.1.1) q37
  have ec:cutC (r0::l)=l:=by unfold cutC;rw[if_pos h16];rfl
  rw[ec]
  refine⟨P',D',H',Z',x,r1,r2,r3,r4,r5,fun q=>?_⟩
  have e16:decide (Int.ofNat 16<=(((r0::l).length:Nat):Int))=true:=decide_eq_true (by have:Int.ofNat 16=16:=rfl;omega)
  simp only[zEi,e0,zT,zC,Nat.add_zero,zI,l1,k2,x0,x1,l2s,zAE,ez,zAr,retK,l2h,kPh,pfh,zQ,cond_false,zAN,Bool.not_true,kPa,pfa,zK,nck,lv2,k3,d2,d5,hck,cond_true,d6,d7,zAC,e16,zM,p2,p3]
  exact r6 _ q (by simp[T.get_set]) (by simp[T.get_set]) (by simp[T.get_set]) (by simp[T.get_set]) (by simp[T.get_set]) (by simp[T.get_set])
 ·obtain⟨P',D',H',Z',x,r1,r2,r3,r4,r5,r6⟩:=rest H6 Z5 rows1 _ c6 q6.wf (by omega) (fun i hi h=>h.1.elim id (fun h=>by omega)) (fun i h hi=>h.1.elim id (fun h=>by omega)) (fun i h=>h.1) q6
  have ec:cutC rows1=rows1:=by unfold cutC;rw[if_neg h16]
  rw[ec]
  refine⟨P',D',H',Z',x,r1,r2,r3,r4,r5,fun q=>?_⟩
  have e16:decide (Int.ofNat 16<=((rows1.length:Nat):Int))=false:=decide_eq_false (by have:Int.ofNat 16=16:=rfl;omega)
  simp only[zEi,e0,zT,zC,Nat.add_zero,zI,l1,k2,x0,x1,l2s,zAE,ez,zAr,retK,l2h,kPh,pfh,zQ,cond_false,zAN,Bool.not_true,kPa,pfa,zK,nck,lv2,k3,d2,d5,hck,cond_true,d6,d7,zAC,e16]
  exact r6 _ q (by simp[T.get_set]) (by simp[T.get_set]) (by simp[T.get_set]) (by simp[T.get_set]) (by simp[T.get_set]) (by simp[T.get_set])
end Go.Am.X

namespace Go.Am.X
abbrev FiOk (cc:zD):Prop:=∀ {P D:Nat->Prop} {H:Heap} {c:Nat} {rows:List CRow} {puts:Int},CacM P D H c rows puts->WF H->rows.length<=1000->(∀ r ∈ rows,OkVs r)->∀ (url:Bs) {ask:List Hd},Small ask->∀ {av:V},RdH H av ask->∀ Z,
  ∃ H' Z',Gr H.size H H'/\(∀ b,zPz url ask rows=some b->b ∈ rows)/\∀ q,cc zEA [.ptr c 0,.str url,av] H Z q=q (outV (zPz url ask rows)) H' Z'
abbrev AgeOkC (c:zD):Prop:=∀ {hs:List Hd},Small hs->∀ {a b:Int},InI a->InI b->∀ {lv:V} {H:Heap},RdH H lv hs->∀ Z q,c zGE [lv,.int .i64 a,.int .i64 b] H Z q=q (.int .i64 (ageT hs a b)) H Z
abbrev FrsOkC (c:zD):Prop:=∀ {hs:List Hd},Small hs->∀ {a b:Int},InI a->InI b->∀ {lv:V} {H:Heap},RdH H lv hs->∀ Z q,c zHV [lv,.int .i64 a,.int .i64 b] H Z q=q (.bool (zOM hs a b)) H Z
abbrev SetOkC (c:zD):Prop:=∀ {hs:List Hd} {n v:Bs},hs.length<1000000->(∀ h ∈ hs,h.1.length<=140737488355328)->n.length<=140737488355328->v.length<9223372036854775807->∀ {lv:V} {H:Heap},WF H->RdH H lv hs->∀ Z,
  ∃ r H' Z',(setE n v hs=0->Own H' H.size 2 r (setT n v hs).length (hcells (setT n v hs)))/\Gr H.size H H'/\∀ q,c zDu [lv,.str n,.str v] H Z q=q (.tup [r,.int .i64 (setE n v hs)]) H' Z'
def HvBv (P D:Nat->Prop)(H H':Heap)(hv:V)(nh:Nat)(ch:List V)(bv:V)(n:Nat)(cs:List V):Prop :=
 ∃ m1 m2,nh<=2000000/\H.size<=m1/\m2<=H'.size/\(∀ i,m1<=i->i<m2->¬ P i/\¬ D i)/\BodP (fun i=>m1<=i/\i<m2) H' bv n cs/\GenL (fun i=>H.size<=i/\i<H'.size/\¬ P i/\¬ D i/\¬(m1<=i/\i<m2)) H' 2 hv nh ch
theorem HvBv.scal {P D:Nat->Prop}{H H':Heap}{hv:V}{nh:Nat}{ch:List V}{bv:V}{n:Nat}{cs:List V}(h:HvBv P D H H' hv nh ch bv n cs):hv.cells=[hv]/\hv.scal=true:=by
 obtain⟨_,_,_,_,_,_,_,h⟩:=h
 exact(DatP.gen h).scal
theorem setT_len (n v:Bs)(hs:List Hd):(setT n v hs).length<=hs.length+1:=by
 unfold setT
 split
 ·simp
 ·have:=setF_len n (valT v) (zKD n hs 0).toNat hs 0;omega
end Go.Am.X

namespace Go.Am.X
def ageN:Bs:=[97,103,101]
def etagN:Bs:=[101,116,97,103]
def lastN:Bs:=[108,97,115,116,45,109,111,100,105,102,105,101,100]
def zOJ (ask:List Hd)(x:CRow)(now:Int):Bool:=zOM x.hs x.sto now && !(zCH ask).2.1
theorem zMd (cc:zD)(N:Nat)(hFi:FiOk cc)(hU:UseOk cc)(hCp:CopOk cc)(hAg:AgeOkC cc)(hFr:FrsOkC cc)(hSe:SetOkC cc)(hG:zSc cc)(hP:ParsOk cc){P D E:Nat->Prop}{H:Heap}{c:Nat}{rows:List CRow}{puts:Int}(hc:CacM P D H c rows puts)(hw:WF H)(hl:rows.length<=1000)(hok:∀ r ∈ rows,OkVs r)(url:Bs){ask:List Hd}(ham:Small ask){av:V}
  (hE:∀ i,E i->i<H.size/\¬ P i/\i≠c) (ha:DatP E H 2 av ask.length (hcells ask)) {x:CRow} (hn:zPz url ask rows=some x) (hxs:Small x.hs) (hxl:x.hs.length<1000000) (hxn:∀ h ∈ x.hs,h.1.length<=140737488355328) (hxb:x.bd.length<=100000000) (he:(sel etagN x.hs).length=0) (hm:(sel lastN x.hs).length=0)
  {now:Int} (hin:InI now) (his:InI x.sto) {s:Bs} (hsl:s.length<=100) (hF:∀ H',Chg (fun i=>P i∨i=c) H H'->∀ Z q,cc zAc [.int .i64 (ageT x.hs x.sto now),.int .i64 (.ofNat 10)] H' Z q=q (.str s) H' Z) (Z:Tape) :
  ∃ P' H' Z' hvF bvF nh ch,CacM P' D H' c (useT x rows) puts/\(∀ i,i<H.size->P' i->P i)/\BodP (fun i=>H.size<=i/\¬ P' i/\i<H'.size) H' bvF x.bd.length x.bd/\HvBv P' D H H' hvF nh ch bvF x.bd.length x.bd/\Chg (fun i=>P i∨i=c) H H' /\
   ∀ q,zDy cc N (.ptr c 0) (.str url) av (.int .i64 now) H Z q=q (.agg [.int .i64 (if zOJ ask x now=true then 2 else 1),.int .i64 x.st,hvF,bvF,.nils]) H' Z':=by
 have hcl:c<H.size:=by obtain⟨v,h1,_⟩:=hc.bx;exact h1.lt hw
 have e0:zB6 [(.int .i64 (.ofNat 0)),(.int .i64 (.ofNat 0)),.nils,.nils,.nils] [] H Z=some (.ptr H.size 0,H.new [(.int .i64 (.ofNat 0)),(.int .i64 (.ofNat 0)),.nils,.nils,.nils] 5 true,Z):=rfl
 have g1:=Gr.new hw [(.int .i64 (.ofNat 0)),(.int .i64 (.ofNat 0)),.nils,.nils,.nils] 5 true
 have b1:Bx (H.new [(.int .i64 (.ofNat 0)),(.int .i64 (.ofNat 0)),.nils,.nils,.nils] 5 true) H.size [(.int .i64 (.ofNat 0)),(.int .i64 (.ofNat 0)),.nils,.nils,.nils]:=Bx.new H _ 5 true (by simp)
 have z1:(H.new [(.int .i64 (.ofNat 0)),(.int .i64 (.ofNat 0)),.nils,.nils,.nils] 5 true).size=H.size+1:=rfl
 generalize H.new [(.int .i64 (.ofNat 0)),(.int .i64 (.ofNat 0)),.nils,.nils,.nils] 5 true=H1 at e0 g1 b1 z1
 obtain⟨H2,Z2,g2,mm,k2⟩:=hFi (hc.gr hw g1) g1.wf hl hok url ham ⟨(ha.gr hw g1).rd,(ha.gr hw g1).src⟩ Z
 have hxm:=mm x hn
 rw[hn]at k2
 have g12:=g1.trans g2 g1.size
 have s12:=g12.size
 have s2a:=g2.size
 have c2:=hc.gr hw g12
 obtain⟨P',H3,Z3,c3,hPs,q3,k3⟩:=hU c2 g12.wf hl x (c2.mem x hxm) (c2.pr x hxm).1 (c2.pr x hxm).2.1 (c2.pr x hxm).2.2 Z2
 have s3:=q3.size
 have x3:=c3.mem x (List.mem_append.2 (.inr (List.mem_singleton.2 rfl)))
 have nQ:∀ j,H.size<=j->¬(P j∨j=c):=fun j h1 h=>h.elim (fun h=>by have:=hc.pl j h;omega) (fun h=>by omega)
 have b3:Bx H3 H.size _:=(zEn b1 g1.wf g2).chg g12.wf q3 (nQ _ nl)
 have lr:zAp 3 [.ptr x.id (0+2)] H3=some (.agg [.int .i64 x.st,x.hv,x.bv]):=zAm x3.bx.bx.cells (by simp[CRow.cells])
 obtain⟨hv',bv',H4,Z4,m,m1,m2,y1,y2,g4,k4⟩:=hCp x.st x.hs (by omega) x.bd hxb q3.wf ⟨x3.hs.rd,x3.hs.src⟩ x3.bd.rd x3.bd.src Z3
 have s4:=g4.size
 obtain⟨sv1,sv2⟩:=y1.scal
 obtain⟨sw1,sw2⟩:=y2.scal
 have pb:zFA [(.int .i64 (.ofNat 0)),(.int .i64 (.ofNat 0)),.nils,.nils,.nils] [(0,1),(1,3)] [(.int .i64 (.ofNat 2)),.agg [.int .i64 x.st,hv',bv']]=some (.agg [.int .i64 (.ofNat 2),.int .i64 x.st,hv',bv',.nils]):=rfl
 obtain⟨H5,H6,a1,a2,b6,g6,lt6⟩:=boxN g4.wf 5 [(.int .i64 (.ofNat 0)),(.int .i64 (.ofNat 0)),.nils,.nils,.nils] [.int .i64 (.ofNat 2),.int .i64 x.st,hv',bv',.nils] rfl rfl (by omega) (by show(true && (true && (hv'.scal && (bv'.scal && (true && true)))))=true;rw[sv2,sw2];rfl) Z4
 have s6:=g6.size
 have q03:Chg (fun i=>P i∨i=c) H H3:=(g12.chg (P:=fun i=>P i∨i=c)).trans q3 fun _ _ h=>h
 have q06:Chg (fun i=>P i∨i=c) H H6:=(q03.trans (g4.chg (P:=fun _=>False)) fun _ _ h=>h.elim).trans (g6.chg (P:=fun _=>False)) fun _ _ h=>h.elim
 have g36:=g4.trans g6 g4.size
 have x6:=x3.chg q3.wf (g36.chg (P:=fun _=>False)) (fun _ _ _=>not_false) not_false
 have c6:=c3.gr q3.wf g36
 have l6h:zH [.ptr x.id (0+2+1)] H6=some x.hv:=zN x6.bx.bx.cells rfl
 have l6s:zH [.ptr x.id (0+5)] H6=some (.int .i64 x.sto):=zN x6.bx.bx.cells rfl
 have kA:=hAg hxs his hin (lv:=x.hv) (H:=H6) ⟨x6.hs.rd,x6.hs.src⟩ Z4
 have kF:=hF H6 q06 Z4
 obtain⟨r,H7,Z7,o7,g7,k7⟩:=hSe (n:=ageN) (v:=s) hxl hxn (by decide) (by omega) (lv:=x.hv) g6.wf ⟨x6.hs.rd,x6.hs.src⟩ Z4
 have s7:=g7.size
 have b0_7:Bx H7 H.size [(.int .i64 (.ofNat 0)),(.int .i64 (.ofNat 0)),.nils,.nils,.nils]:=zEn (zEn (zEn b3 q3.wf g4) g4.wf g6) g6.wf g7
 have b1_7:=zEn b6 g6.wf g7
 have x7:=x6.chg g6.wf (g7.chg (P:=fun _=>False)) (fun _ _ _=>not_false) not_false
 have c7:=c6.gr g6.wf g7
 have q07:Chg (fun i=>P i∨i=c) H H7:=q06.trans (g7.chg (P:=fun _=>False)) fun _ _ h=>h.elim
 have y1_7:=((y1.gr g4.wf g6).gr g6.wf g7)
 have y2_7:BodP (fun i=>m<=i/\i<H4.size) H7 bv' x.bd.length x.bd:=(y2.chg g4.wf (g6.chg (P:=fun _=>False)) (fun _ _ _=>not_false)).chg g6.wf (g7.chg (P:=fun _=>False)) (fun _ _ _=>not_false)
 have hP3:∀ i,P' i->i<H3.size:=c3.pl
 have hb1:H.size≠H4.size:=by omega
 have nx0:∀ {j},H.size<=j->x.id≠j:=fun h e=>by have:=(hc.mem x hxm).bx.bx.lt hw;omega
 have tail:∀ (H8:Heap) (hvF:V) (nh:Nat) (ch:List V) (W:Nat->Prop),nh<=2000000->WF H8->hvF.cells=[hvF]/\hvF.scal=true->Bx H8 H.size [(.int .i64 (.ofNat 0)),(.int .i64 (.ofNat 0)),.nils,.nils,.nils]->Bx H8 H4.size [.int .i64 (.ofNat 2),.int .i64 x.st,hvF,bv',.nils]->RowM D H8 x->CacM P' D H8 c (useT x rows) puts->GenL W H8 2 hvF nh ch->(∀ i,W i->H3.size<=i/\i≠H4.size/\i<H8.size/\¬(m<=i/\i<H4.size))->BodP (fun i=>m<=i/\i<H4.size) H8 bv' x.bd.length x.bd->Chg (fun i=>P i∨i=c) H H8 ->
   ∃ H' Z',CacM P' D H' c (useT x rows) puts/\BodP (fun i=>H.size<=i/\¬ P' i/\i<H'.size) H' bv' x.bd.length x.bd/\HvBv P' D H H' hvF nh ch bv' x.bd.length x.bd/\Chg (fun i=>P i∨i=c) H H' /\
    ∀ (fr:T V) q,fr.get 2=some av->fr.get 3=some (.int .i64 now)->fr.get 8=some (.ptr H.size 0)->fr.get 9=some (rpV x)->fr.get 10=some (.ptr H4.size 0)->fr.get 11=some x.hv ->
     zBz cc N q ⟨fr,H8⟩ Z7=q (.agg [.int .i64 (if zOJ ask x now=true then 2 else 1),.int .i64 x.st,hvF,bv',.nils]) H' Z':=by
  intro H8 hvF nh ch W hnh w8 fsc t0 t1 x8 c8 y8 hW z8 q08
  have s8:=q08.size
  let Q:Nat->Prop:=fun i=>i=H.size∨i=H4.size
  have h38:H4.size<H8.size:=t1.lt w8
  have fin:∀ (H9:Heap),Chg Q H8 H9->H9.size=H8.size->CacM P' D H9 c (useT x rows) puts/\BodP (fun i=>H.size<=i/\¬ P' i/\i<H9.size) H9 bv' x.bd.length x.bd/\HvBv P' D H H9 hvF nh ch bv' x.bd.length x.bd/\Chg (fun i=>P i∨i=c) H H9:=by
   intro H9 hq hs9
   refine⟨?_,?_,?_,?_⟩
   ·obtain⟨v,h1,h2⟩:=c8.bx
    have nP:∀ i,i<H8.size->P' i->¬ Q i:=by
     intro i _ h k
     have h3:=hP3 i h
     rcases k with e | e
     ·have:=hPs i (by omega) h
      have:=hc.pl i this
      omega
     ·omega
    have nD:∀ i,i<H8.size->D i->¬ Q i:=fun i _ h k=>by have:=hc.dl i h;exact k.elim (fun e=>by omega) (fun e=>by omega)
    refine⟨⟨v,h1.chg w8 hq (fun k=>k.elim (fun e=>by omega) (fun e=>by omega)),GenL.chg h2 w8 hq nP⟩,fun r hr=>(c8.mem r hr).chg w8 hq nD ?_,c8.sep,fun i h=>by rw[hs9];exact c8.pl i h,fun i h=>by rw[hs9];exact c8.dl i h,c8.pc,c8.dc,c8.pr⟩
    have hrr:r ∈ rows:=by
     rcases List.mem_append.1 hr with h | h
     ·exact(List.mem_filter.1 h).1
     ·rw[List.mem_singleton.1 h];exact hxm
    have:=(hc.mem r hrr).bx.bx.lt hw
    exact fun k=>k.elim (fun e=>by omega) (fun e=>by omega)
   ·exact(z8.chg w8 hq (fun i _ h k=>k.elim (fun e=>by omega) (fun e=>by omega))).weaken hq.wf (fun i hi h=>⟨by omega,fun hp=>by have:=hP3 i hp;omega,hi⟩)
   ·refine⟨m,H4.size,hnh,by omega,by omega,fun i h1 h2=>⟨fun hp=>by have:=hP3 i hp;omega,fun hd=>by have:=hc.dl i hd;omega⟩,z8.chg w8 hq (fun i _ h k=>k.elim (fun e=>by omega) (fun e=>by omega)),?_⟩
    exact(GenL.chg y8 w8 hq (fun i _ h k=>k.elim (fun e=>by have:=(hW i h).1;omega) (fun e=>(hW i h).2.1 e))).weaken hq.wf (fun i hi h=>⟨by have:=(hW i h).1;omega,hi,fun hp=>by have:=hP3 i hp;have:=(hW i h).1;omega,fun hd=>by have:=hc.dl i hd;have:=(hW i h).1;omega,(hW i h).2.2.2⟩)
   ·exact q08.trans hq fun i hi k=>k.elim (fun e=>by omega) (fun e=>by omega)
  have l8s:zH [.ptr x.id (0+5)] H8=some (.int .i64 x.sto):=zN x8.bx.bx.cells rfl
  have nckx:zf [rpV x]=some (.ptr x.id 0):=rfl
  have kFr:=hFr hxs his hin (lv:=x.hv) (H:=H8) ⟨x8.hs.rd,x8.hs.src⟩ Z7
  have ha8:=ha.chg hw q08 (fun i _ h k=>k.elim (hE i h).2.1 (hE i h).2.2)
  have kP:=hP ham (lv:=av) (H:=H8) ⟨ha8.rd,ha8.src⟩ Z7
  have pf1:zM7 1 1 false [.agg (ctlC (zCH ask))]=some (.bool (zCH ask).2.1):=rfl
  by_cases hfc:zOJ ask x now=true
  ·obtain⟨H9,u1,u2,u3⟩:=t0.eStore w8 0 (.agg [.int .i64 (.ofNat 2),.int .i64 x.st,hvF,bv',.nils]) 5 rfl (by simp) (by omega) (by show(true && (true && (hvF.scal && (bv'.scal && (true && true)))))=true;rw[fsc.2,sw2];rfl) Z7
   have u2':Bx H9 H.size [.int .i64 (.ofNat 2),.int .i64 x.st,hvF,bv',.nils]:=u2
   have l8:zAp 5 [.ptr H4.size 0] H8=some (.agg [.int .i64 (.ofNat 2),.int .i64 x.st,hvF,bv',.nils]):=zAm t1.cells (by simp)
   have l9:zAp 5 [.ptr H.size 0] H9=some (.agg [.int .i64 2,.int .i64 x.st,hvF,bv',.nils]):=zAm u2'.cells (by simp)
   have hres:results ⟨(T.s .leaf 8 (.ptr H.size 0)),H9⟩ [(.cell 8 (some 5))]=some (.agg [.int .i64 2,.int .i64 x.st,hvF,bv',.nils]):=by
    simp only[results,zLs,zRU,T.get_set_same,zG5,zOK,l9]
   obtain⟨f1,f2,f3,f4⟩:=fin H9 (u3.chg (P:=Q) (.inl rfl)) u3.size
   refine⟨H9,Z7,f1,f2,f3,f4,fun fr q g2' g3' g8' g9' g10' g11'=>?_⟩
   rw[if_pos hfc]
   unfold zOJ at hfc
   rw[Bool.and_eq_true]at hfc
   simp only[zBz,zA g2',zA g3',zA g8',zA g9',zA g10',zA g11',nckx,zC,zI,l8s,kFr,hfc.1,zBE,retK,zT,kP,pf1,zAN,hfc.2,zQ,cond_true,zM,l8,u1,hres]
  ·have hfc':zOJ ask x now=false:=by simpa using hfc
   rw[if_neg hfc]
   obtain⟨H9,u1,u2,u3⟩:=t1.eStore w8 0 (.int .i64 (.ofNat 1)) 1 rfl (by simp) (by omega) rfl Z7
   have u2':Bx H9 H4.size [.int .i64 (.ofNat 1),.int .i64 x.st,hvF,bv',.nils]:=u2
   have t0':=t0.only u3 hb1
   have x9:RdH H9 x.hv x.hs:=by
    have:=x8.hs.chg w8 (u3.chg (P:=Q) (.inr rfl)) (fun i _ h k=>by have:=hc.dl i h;exact k.elim (fun e=>by omega) (fun e=>by omega))
    exact⟨this.rd,this.src⟩
   have kG1:=hG hxs (name:=etagN) (by decide) x9 Z7
   have kG2:=hG hxs (name:=lastN) (by decide) x9 Z7
   rw[he]at kG1
   rw[hm]at kG2
   have d0:decide (0<0)=false:=rfl
   rw[d0]at kG1 kG2
   obtain⟨H10,v1,v2,v3⟩:=t0'.eStore u3.wf 0 (.agg [.int .i64 (.ofNat 1),.int .i64 x.st,hvF,bv',.nils]) 5 rfl (by simp) (by omega) (by show(true && (true && (hvF.scal && (bv'.scal && (true && true)))))=true;rw[fsc.2,sw2];rfl) Z7
   have v2':Bx H10 H.size [.int .i64 (.ofNat 1),.int .i64 x.st,hvF,bv',.nils]:=v2
   have l9:zAp 5 [.ptr H4.size 0] H9=some (.agg [.int .i64 (.ofNat 1),.int .i64 x.st,hvF,bv',.nils]):=zAm u2'.cells (by simp)
   have l10:zAp 5 [.ptr H.size 0] H10=some (.agg [.int .i64 1,.int .i64 x.st,hvF,bv',.nils]):=zAm v2'.cells (by simp)
   have hres:results ⟨(T.s .leaf 8 (.ptr H.size 0)),H10⟩ [(.cell 8 (some 5))]=some (.agg [.int .i64 1,.int .i64 x.st,hvF,bv',.nils]):=by
    simp only[results,zLs,zRU,T.get_set_same,zG5,zOK,l10]
   obtain⟨f1,f2,f3,f4⟩:=fin H10 ((u3.chg (P:=Q) (.inr rfl)).trans (v3.chg (P:=Q) (.inl rfl)) fun _ _ h=>h) (by rw[v3.size,u3.size])
   refine⟨H10,Z7,f1,f2,f3,f4,fun fr q g2' g3' g8' g9' g10' g11'=>?_⟩
   have x0:∀ a b:V,zG 0 [.tup [a,b]]=some a:=fun _ _=>rfl
   have x1:∀ a b:V,zG 1 [.tup [a,b]]=some b:=fun _ _=>rfl
   have be:bs [101,116,97,103]=etagN:=rfl
   have bl:bs [108,97,115,116,45,109,111,100,105,102,105,101,100]=lastN:=rfl
   cases hf:zOM x.hs x.sto now with
   | false =>
    rw[hf]at kFr
    simp only[zBz,zA g2',zA g3',zA g8',zA g9',zA g10',zA g11',nckx,zC,Nat.add_zero,Nat.zero_add,zI,show zH [.ptr x.id 5] H8=some (.int .i64 x.sto)from l8s,kFr,zq,zAH,zQ,cond_false,zK,u1,zT,be,kG1,x0,x1,zD9,zO,↓reduceIte,Nat.reduceEqDiff,bl,kG2,zD2,l9,v1,hres]
   | true =>
    rw[hf]at kFr
    have hnc:(!(zCH ask).2.1)=false:=by unfold zOJ at hfc';rw[hf,Bool.true_and]at hfc';exact hfc'
    simp only[zBz,zA g2',zA g3',zA g8',zA g9',zA g10',zA g11',nckx,zC,Nat.add_zero,Nat.zero_add,zI,show zH [.ptr x.id 5] H8=some (.int .i64 x.sto)from l8s,kFr,zBE,retK,kP,pf1,zAN,hnc,zQ,cond_true,zK,u1,zT,be,kG1,x0,x1,zD9,zO,↓reduceIte,Nat.reduceEqDiff,bl,kG2,zD2,l9,v1,hres]
 have x0:∀ a b:V,zG 0 [.tup [a,b]]=some a:=fun _ _=>rfl
 have x1:∀ a b:V,zG 1 [.tup [a,b]]=some b:=fun _ _=>rfl
 have en:lPeq false [rpV x,.nilp] H2=some (.bool false):=rfl
 have eo:outV (some x)=rpV x:=rfl
 have nckx:zf [rpV x]=some (.ptr x.id 0):=rfl
 have ba:bs [97,103,101]=ageN:=rfl
 by_cases hse:setE ageN s x.hs=0
 ·have ow:=o7 hse
  obtain⟨os1,os2⟩:r.cells=[r]/\r.scal=true:=by
   rcases ow with⟨rfl,_⟩ | ⟨_,_,_,_,_,_,_,_,rfl,_⟩ <;> exact⟨rfl,rfl⟩
  obtain⟨H8,v1,v2,v3⟩:=b1_7.eStore g7.wf 2 r 1 (by rw[os1];rfl) (by simp) (by omega) (by rw[os1];simp[os2]) Z7
  have v2':Bx H8 H4.size [.int .i64 (.ofNat 2),.int .i64 x.st,r,bv',.nils]:=by rw[os1]at v2;exact v2
  have ov:Chg (fun i=>i=H4.size) H7 H8:=v3.chg (P:=fun i=>i=H4.size) rfl
  have gr:GenL (fun i=>H6.size<=i/\i<H7.size) H8 2 r (setT ageN s x.hs).length (hcells (setT ageN s x.hs)):=(GenL.chg ((GenL.apd ow.apd).weaken g7.wf (Q:=fun i=>H6.size<=i/\i<H7.size) fun i hi h=>⟨h,hi⟩) g7.wf ov (fun i _ h e=>by omega))
  have c8:CacM P' D H8 c (useT x rows) puts:=by
   obtain⟨v,h1,h2⟩:=c7.bx
   refine⟨⟨v,h1.only v3 (by omega),GenL.chg h2 g7.wf ov (fun i _ h e=>by have:=hP3 i h;omega)⟩,fun r' hr=>(c7.mem r' hr).chg g7.wf ov (fun i _ h e=>by have:=hc.dl i h;omega) ?_,c7.sep,fun i h=>by rw[v3.size];exact c7.pl i h,fun i h=>by rw[v3.size];exact c7.dl i h,c7.pc,c7.dc,c7.pr⟩
   have hrr:r' ∈ rows:=by
    rcases List.mem_append.1 hr with h | h
    ·exact(List.mem_filter.1 h).1
    ·rw[List.mem_singleton.1 h];exact hxm
   have:=(hc.mem r' hrr).bx.bx.lt hw
   intro e;omega
  obtain⟨H',Z',f1,f2,f3,f4,f5⟩:=tail H8 r _ _ _ (by have:=setT_len ageN s x.hs;omega) v3.wf ⟨os1,os2⟩ (b0_7.only v3 hb1) v2' (x7.chg g7.wf ov (fun i _ h e=>by have:=hc.dl i h;omega) (nx0 (by omega))) c8 gr (fun i h=>⟨by omega,by omega,by rw[v3.size];exact h.2,fun k=>by omega⟩) (y2_7.chg g7.wf ov (fun i _ h e=>by omega)) (q07.trans ov fun i hi e=>by omega)
  refine⟨P',H',Z',r,bv',_,_,f1,fun i hi h=>hPs i (by omega) h,f2,f3,f4,fun q=>?_⟩
  have ee:((setE ageN s x.hs) == Int.ofNat 0)=true:=by rw[hse];rfl
  simp only[zDy,e0,zT,k2,en,eo,zI,zK,k3,nckx,zC,lr,k4,pb,a1,a2,l6h,l6s,kA,kF,ba,k7,x0,x1,zZ,ee,zM]
  have v1':eStore 1 [.ptr H4.size (0+1+1),r] H7 Z7=some (.tup [],H8,Z7):=v1
  simp only[v1',zT]
  exact f5 _ q (by simp[T.get_set]) (by simp[T.get_set]) (by simp[T.get_set]) (by simp[T.get_set]) (by simp[T.get_set]) (by simp[T.get_set])
 ·obtain⟨H',Z',f1,f2,f3,f4,f5⟩:=tail H7 hv' _ _ _ (by omega) g7.wf ⟨sv1,sv2⟩ b0_7 b1_7 x7 c7 y1_7 (fun i h=>⟨h.1,by omega,by omega,fun k=>by omega⟩) y2_7 q07
  refine⟨P',H',Z',hv',bv',_,_,f1,fun i hi h=>hPs i (by omega) h,f2,f3,f4,fun q=>?_⟩
  have ee:((setE ageN s x.hs) == Int.ofNat 0)=false:=by rw[beq_eq_false_iff_ne];exact hse
  simp only[zDy,e0,zT,k2,en,eo,zI,zK,k3,nckx,zC,lr,k4,pb,a1,a2,l6h,l6s,kA,kF,ba,k7,x0,x1,zZ,ee]
  exact f5 _ q (by simp[T.get_set]) (by simp[T.get_set]) (by simp[T.get_set]) (by simp[T.get_set]) (by simp[T.get_set]) (by simp[T.get_set])
end Go.Am.X

namespace Go.Am.X
abbrev DrpOkC (c:zD):Prop:=∀ {hs:List Hd} {n:Bs},hs.length<=1000000->(∀ h ∈ hs,h.1.length<=140737488355328)->n.length<=140737488355328->∀ {lv:V} {H:Heap},WF H->RdH H lv hs->∀ Z,∃ v' H' Z',Own H' H.size 2 v' (zBy n hs).length (hcells (zBy n hs))/\Gr H.size H H'/\∀ q,c zDK [lv,.str n] H Z q=q v' H' Z'
theorem drpOkC_of {c:zD}(h:IsP c zDK (RH zRP DropG)):DrpOkC c:=fun {hs n} h1 h2 h3 {lv H} hw hr Z=>by
 have hp:zRP hs [.str n]:=⟨h1,h2,h3⟩
 by_cases hn:isNil lv=true
 ·have e:lv=.nils:=(zRQ _).1 hn
  subst e
  have e2:=hr.nils
  subst e2
  have h4:=fun q=>zSM (v:=.nils) (l:=[.str n]) h hr hp (u:=.nils) (by rfl) Z q
  exact⟨.nils,H,Z,Own.nil _ _ _,Gr.refl hw,h4⟩
 ·obtain⟨v',H',Z',h1,_,h2,h3⟩:=RH_lst (v:=lv) (l:=[.str n]) h hr hp (z:=2) (n:=(zBy n hs).length) (cs:=hcells (zBy n hs)) (mk:=fun v=>v) (if_neg hn) hw (by rw[zEB]) Z
  exact⟨v',H',Z',h1,h2,h3⟩
def zNw (ns:List Bs)(hs:List Hd):List Hd:=ns.foldl (fun h n=>zBy n h) hs
theorem dropT_sub (n:Bs)(hs:List Hd):(zBy n hs).length<=hs.length/\∀ h ∈ zBy n hs,h ∈ hs:=⟨List.length_filter_le _ _,fun h hh=>(List.mem_filter.1 hh).1⟩
theorem l_rdrop (cc:zD)(N:Nat)(hDr:DrpOkC cc)(names:List Bs)(hnl:names.length<=1000)(hns:∀ n ∈ names,n.length<=140737488355328)(nv:V)(t0 t4 t10 t12:V){H0:Heap}(hw0:WF H0)(hr:Rd H0 1 nv names.length (names.map V.str)){B:Nat}(hB:B<=H0.size) :
  ∀ (l pre:List Bs) (hs:List Hd) (v13:V) (H:Heap) (Z:Tape) (m:Nat),names=pre++l->l.length<m->Gr H0.size H0 H->hs.length<=1000000->(∀ h ∈ hs,h.1.length<=140737488355328)->DatP (fun i=>B<=i) H 2 v13 hs.length (hcells hs) ->
  ∃ v' H' Z',Gr H0.size H0 H'/\DatP (fun i=>B<=i) H' 2 v' (zNw l hs).length (hcells (zNw l hs))/\∀ (fr:T V) k,fr.get 0=some t0->fr.get 4=some t4->fr.get 10=some t10->fr.get 12=some t12->fr.get 13=some v13->fr.get 40=some nv->fr.get 41=some (.int .i64 (names.length:Int))->fr.get 42=some (.int .i64 (pre.length:Int)) ->
   zAP (zDe cc N) m ⟨fr,H⟩ Z k=k (.exit 0) ⟨(T.s (T.s (T.s (T.s (T.s .leaf 0 t0) 4 t4) 10 t10) 12 t12) 13 v'),H'⟩ Z':=by
 intro l
 induction l with
 | nil =>
  intro pre hs v13 H Z m he hm hg hl hn hv
  obtain⟨m,rfl⟩:∃ j,m=j+1:=⟨m-1,by omega⟩
  have e1:decide ((pre.length:Int)<(names.length:Int))=false:=decide_eq_false (by rw[he];simp)
  refine⟨v13,H,Z,hg,hv,fun fr k f0 f4 f10 f12 f13 f40 f41 f42=>?_⟩
  rw[zF]
  simp only[zDe,zA f0,zA f4,zA f10,zA f12,zA f13,zA f40,zA f41,zA f42,zL,e1,zK]
  rfl
 | cons n l ih =>
  intro pre hs v13 H Z m he hm hg hl hn hv
  obtain⟨m,rfl⟩:∃ j,m=j+1:=⟨m-1,by omega⟩
  have hlt:pre.length<names.length:=by rw[he];simp
  have e1:decide ((pre.length:Int)<(names.length:Int))=true:=decide_eq_true (by omega)
  have e3:wr .i64 ((pre.length:Int)+Int.ofNat 1)=((pre++[n]).length:Int):=by rw[adI (by omega)];simp
  obtain⟨p,p1,p2⟩:=(hr.gr hg hw0 nl).elem1 (i:=pre.length) (x:=.str n) (by rw[he];simp)
  obtain⟨v1,H1,Z1,o1,g1,k1⟩:=hDr hl hn (hns n (by rw[he];simp)) hg.wf ⟨hv.rd,hv.src⟩ Z
  obtain⟨d1,d2⟩:=dropT_sub n hs
  obtain⟨v',H',Z',i1,i2,i3⟩:=ih (pre++[n]) (zBy n hs) v1 H1 Z1 m (by rw[he];simp) (by simp at hm;omega) (hg.trans g1 hg.size) (by omega) (fun h hh=>hn h (d2 h hh)) ((DatP.own o1).weaken g1.wf fun i _ hi=>Nat.le_trans (Nat.le_trans hB hg.size) hi)
  refine⟨v',H',Z',i1,i2,fun fr k f0 f4 f10 f12 f13 f40 f41 f42=>?_⟩
  rw[zF]
  simp only[zDe,zA f0,zA f4,zA f10,zA f12,zA f13,zA f40,zA f41,zA f42,zL,e1,zM,p1,p2,zI,k1,zS,e3]
  exact i3 _ k (by simp[T.get_set]) (by simp[T.get_set]) (by simp[T.get_set]) (by simp[T.get_set]) (by simp[T.get_set]) (by simp[T.get_set]) (by simp[T.get_set]) (by simp[T.get_set])
def zJZ (l:List Hd)(hs:List Hd):List Hd:=l.foldl (fun cur h=>if setE h.1 h.2 cur=0 then setT h.1 h.2 cur else cur) hs
theorem l_rset (cc:zD)(N:Nat)(hSe:SetOkC cc)(kept:List Hd)(hkl:kept.length<=1000000)(hkn:∀ h ∈ kept,h.1.length<=140737488355328/\h.2.length<9223372036854775807)(kv:V)(t0 t4 t10:V)(x:CRow){H0:Heap}(hw0:WF H0)(hxl:x.id<H0.size){Q:Nat->Prop}(hQ:∀ i,i<H0.size->(Q i ↔ i=x.id))(hQn:∀ i,H0.size<=i->Q i)(hr:∀ H,Chg Q H0 H->RdH H kv kept)
  (hs0:List Hd) (hB:∀ pre l,kept=pre++l->(zJZ pre hs0).length<1000000/\∀ h ∈ zJZ pre hs0,h.1.length<=140737488355328) {D0:Nat->Prop} (hD0:∀ i,D0 i->i<H0.size/\i≠x.id) :
  ∀ (l pre:List Hd) (cv:V) (H:Heap) (Z:Tape) (m:Nat),kept=pre++l->l.length<m->Chg Q H0 H->BxT H x.id { x with hv:=cv }.cells->DatP (fun i=>D0 i∨H0.size<=i) H 2 cv (zJZ pre hs0).length (hcells (zJZ pre hs0)) ->
  ∃ cv' H' Z',Chg Q H0 H'/\BxT H' x.id { x with hv:=cv' }.cells/\DatP (fun i=>D0 i∨H0.size<=i) H' 2 cv' (zJZ kept hs0).length (hcells (zJZ kept hs0)) /\
   ∀ (fr:T V) k,fr.get 0=some t0->fr.get 4=some t4->fr.get 10=some t10->fr.get 12=some (.ptr x.id 0)->fr.get 50=some kv->fr.get 51=some (.int .i64 (kept.length:Int))->fr.get 52=some (.int .i64 (pre.length:Int)) ->
    zAP (zCS cc N) m ⟨fr,H⟩ Z k=k (.exit 2) ⟨(T.s (T.s (T.s (T.s .leaf 0 t0) 4 t4) 10 t10) 12 (.ptr x.id 0)),H'⟩ Z':=by
 intro l
 induction l with
 | nil =>
  intro pre cv H Z m he hm hg hb hdv
  obtain⟨m,rfl⟩:∃ j,m=j+1:=⟨m-1,by omega⟩
  have e1:decide ((pre.length:Int)<(kept.length:Int))=false:=decide_eq_false (by rw[he];simp)
  rw[List.append_nil]at he
  refine⟨cv,H,Z,hg,hb,by rw[he];exact hdv,fun fr k f0 f4 f10 f12 f50 f51 f52=>?_⟩
  rw[zF]
  simp only[zCS,zA f0,zA f4,zA f10,zA f12,zA f50,zA f51,zA f52,zL,e1,zK]
  rfl
 | cons h l ih =>
  intro pre cv H Z m he hm hg hb hdv
  obtain⟨m,rfl⟩:∃ j,m=j+1:=⟨m-1,by omega⟩
  have hw:=hg.wf
  have hlt:pre.length<kept.length:=by rw[he];simp
  have e1:decide ((pre.length:Int)<(kept.length:Int))=true:=decide_eq_true (by omega)
  have e3:wr .i64 ((pre.length:Int)+Int.ofNat 1)=((pre++[h]).length:Int):=by rw[adI (by omega)];simp
  obtain⟨id,o,p1,p2⟩:=hd_at (v:=kv) pre h l (H:=H) (by rw[<- he];exact(hr H hg).1)
  obtain⟨q1,_,_⟩:=p2 H (by rw[<- he];exact(hr H hg).1)
  obtain⟨H1,H2,a1,s1,b2,g2,lt2⟩:=box2 hw (.str h.1) (.str h.2) (.str []) (.str []) rfl rfl Z
  have s1':eStore 2 [.ptr H.size 0,hv h] H1 Z=some (.tup [],H2,Z):=s1
  have hq2:Chg Q H0 H2:=hg.trans (g2.chg (P:=fun _=>False)) fun _ _ h=>h.elim
  have hb2:=hb.chg hw (g2.chg (P:=fun _=>False)) not_false
  have hv2:=hdv.gr hw g2
  have lh:zH [.ptr x.id (0+2+1)] H2=some cv:=zN hb2.bx.cells rfl
  have ln:zH [.ptr H.size (0+0)] H2=some (.str h.1):=zN b2.cells rfl
  have lv:zH [.ptr H.size (0+1)] H2=some (.str h.2):=zN b2.cells rfl
  obtain⟨hB1,hB2⟩:=hB pre (h::l) he
  have hkh:=hkn h (by rw[he];simp)
  obtain⟨r,H3,Z3,o3,g3,k3⟩:=hSe (n:=h.1) (v:=h.2) hB1 hB2 hkh.1 hkh.2 (lv:=cv) g2.wf ⟨hv2.rd,hv2.src⟩ Z
  have hq3:Chg Q H0 H3:=hq2.trans (g3.chg (P:=fun _=>False)) fun _ _ h=>h.elim
  have hb3:=hb2.chg g2.wf (g3.chg (P:=fun _=>False)) not_false
  have x0:∀ a b:V,zG 0 [.tup [a,b]]=some a:=fun _ _=>rfl
  have x1:∀ a b:V,zG 1 [.tup [a,b]]=some b:=fun _ _=>rfl
  have nck:zf [.ptr x.id 0]=some (.ptr x.id 0):=rfl
  have hsn:zJZ (pre++[h]) hs0=if setE h.1 h.2 (zJZ pre hs0)=0 then setT h.1 h.2 (zJZ pre hs0)else zJZ pre hs0:=by unfold zJZ;rw[List.foldl_append];rfl
  have hs03:H0.size<=H2.size:=hq2.size
  by_cases hse:setE h.1 h.2 (zJZ pre hs0)=0
  ·have ow:=o3 hse
   obtain⟨os1,os2⟩:r.cells=[r]/\r.scal=true:=by
    rcases ow with⟨rfl,_⟩ | ⟨_,_,_,_,_,_,_,_,rfl,_⟩ <;> exact⟨rfl,rfl⟩
   obtain⟨H4,v1,v2,v3⟩:=hb3.eStore g3.wf 3 r 1 (by rw[os1];rfl) (by simp[CRow.cells]) (by omega) (by rw[os1];simp[os2]) Z3
   have v2':BxT H4 x.id { x with hv:=r }.cells:=by rw[os1]at v2;exact v2
   have ov:Chg (fun i=>i=x.id) H3 H4:=v3.chg (P:=fun i=>i=x.id) rfl
   have hq4:Chg Q H0 H4:=hq3.trans ov fun i hi e=>(hQ i hi).2 e
   have hv4:DatP (fun i=>D0 i∨H0.size<=i) H4 2 r (zJZ (pre++[h]) hs0).length (hcells (zJZ (pre++[h]) hs0)):=by
    rw[hsn,if_pos hse]
    exact((DatP.own ow).chg g3.wf ov (fun i _ hi e=>by omega)).weaken v3.wf fun i _ hi=>.inr (Nat.le_trans hs03 hi)
   obtain⟨cv',H',Z',i1,i2,i3,i4⟩:=ih (pre++[h]) r H4 Z3 m (by rw[he];simp) (by simp at hm;omega) hq4 v2' hv4
   refine⟨cv',H',Z',i1,i2,i3,fun fr k f0 f4 f10 f12 f50 f51 f52=>?_⟩
   have ee:((setE h.1 h.2 (zJZ pre hs0)) == Int.ofNat 0)=true:=by rw[hse];rfl
   have v1':eStore 1 [.ptr x.id (0+2+1),r] H3 Z3=some (.tup [],H4,Z3):=v1
   rw[zF]
   simp only[zCS,zA f0,zA f4,zA f10,zA f12,zA f50,zA f51,zA f52,zL,e1,zM,p1,q1,zI,a1,zT,s1',nck,zC,lh,ln,lv,k3,x0,x1,zZ,ee,v1',zDc,zO,↓reduceIte,Nat.reduceEqDiff,zS,e3]
   exact i4 _ k (by simp[T.get_set]) (by simp[T.get_set]) (by simp[T.get_set]) (by simp[T.get_set]) (by simp[T.get_set]) (by simp[T.get_set]) (by simp[T.get_set])
  ·obtain⟨cv',H',Z',i1,i2,i3,i4⟩:=ih (pre++[h]) cv H3 Z3 m (by rw[he];simp) (by simp at hm;omega) hq3 hb3 (by rw[hsn,if_neg hse];exact hv2.gr g2.wf g3)
   refine⟨cv',H',Z',i1,i2,i3,fun fr k f0 f4 f10 f12 f50 f51 f52=>?_⟩
   have ee:((setE h.1 h.2 (zJZ pre hs0)) == Int.ofNat 0)=false:=by rw[beq_eq_false_iff_ne];exact hse
   rw[zF]
   simp only[zCS,zA f0,zA f4,zA f10,zA f12,zA f50,zA f51,zA f52,zL,e1,zM,p1,q1,zI,a1,zT,s1',nck,zC,lh,ln,lv,k3,x0,x1,zZ,ee,zK,zDc,zO,↓reduceIte,Nat.reduceEqDiff,zS,e3]
   exact i4 _ k (by simp[T.get_set]) (by simp[T.get_set]) (by simp[T.get_set]) (by simp[T.get_set]) (by simp[T.get_set]) (by simp[T.get_set]) (by simp[T.get_set])
end Go.Am.X

