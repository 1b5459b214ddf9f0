/- The abstract machine, printed functions of the program, and what they are shown to be. -/
import Derived.Test.YtejpgcemblankaaGreatDoorCUSL6
import Derived.Test.YtejpgcemblankaaGreatDoorCUSL4
import Derived.Test.YtejpgcemblankaaGreatDoorCUSL1
set_option linter.unusedSimpArgs false
set_option linter.unusedVariables false
set_option linter.unusedSectionVars false
set_option maxRecDepth 100000
namespace Go.Am.X
theorem CacM.gr {P D:Nat→Prop}{H H':Heap}{c:Nat}{rows:List CRow}{puts:Int}(h:CacM P D H c rows puts)(hw:WF H)(hg:Gr H.size H H'):CacM P D H' c rows puts:=by
 obtain⟨v,h1,h2⟩:=h.bx
 exact⟨⟨v,zGb h1 hw hg,GenL.gr h2 hw hg⟩,fun r hr=>(h.mem r hr).chg hw (hg.chg (P:=fun _=>False)) (fun _ _ _=>not_false) not_false,h.sep,fun i hi=>Nat.lt_of_lt_of_le (h.pl i hi) hg.size,fun i hi=>Nat.lt_of_lt_of_le (h.dl i hi) hg.size,h.pc,h.dc,h.pr⟩
theorem CacM.weakenD {P D E:Nat→Prop}{H:Heap}{c:Nat}{rows:List CRow}{puts:Int}(h:CacM P D H c rows puts)(hw:WF H)(hDE:∀ i,D i→E i)(hs:∀ i,P i→¬ E i)(hl:∀ i,E i→i<H.size)(hc:¬ E c)(hr:∀ r ∈ rows,¬ E r.id):CacM P E H c rows puts :=
 ⟨h.bx,fun r m=>(h.mem r m).weaken hw (fun i _ hi=>hDE i hi),hs,h.pl,hl,h.pc,hc,fun r m=>⟨(h.pr r m).1,hr r m,(h.pr r m).2.2⟩⟩
def zGP (hs:List Hd):List Bs:=srtT (varL (zBZ zNb hs))
abbrev VaryOkC (c:zC):Prop:=∀ {hs:List Hd},Small hs→(zBZ zNb hs).contains [42]=false→∀ {lv:V} {H:Heap},WF H→RdH H lv hs→∀ τ,∃ nv H' τ',Own H' H.size 1 nv (zGP hs).length ((zGP hs).map V.str)∧Gr H.size H H'∧∀ q,c zHi [lv] H τ q=q (.tup [nv,.bool true]) H' τ'
abbrev CopOk (c:zC):Prop:=∀ (st:Int) (hs:List Hd),hs.length≤1000000→∀ (bd:List V),bd.length≤100000000→∀ {hv bv:V} {H:Heap},WF H→RdH H hv hs→Rd H 1 bv bd.length bd→Src H bv→∀ τ,
  ∃ hv' bv' H' τ' m,H.size≤m∧m≤H'.size∧GenL (fun i=>H.size≤i∧i<m) H' 2 hv' hs.length (hcells hs)∧BodP (fun i=>m≤i∧i<H'.size) H' bv' bd.length bd∧Gr H.size H H'∧∀ q,c zEm [.agg [.int .i64 st,hv,bv]] H τ q=q (.agg [.int .i64 st,hv',bv']) H' τ'
abbrev StoOk (cc:zC):Prop:=∀ {P D:Nat→Prop} {H:Heap} {c:Nat} {rows:List CRow} {puts:Int},CacM P D H c rows puts→WF H→rows.length≤1000→0≤puts→puts<4611686018427387904→∀ (x:CRow),RowM D H x→¬ P x.id→¬ D x.id→x.id≠c→∀ (now:Int) τ,
  ∃ P' H' τ',CacM P' D H' c (storeT x now (puts+1) rows) (puts+1)∧(∀ i,i<H.size→P' i→P i)∧Chg (fun i=>P i∨i=c∨i=x.id) H H'∧∀ q,cc zCp [.ptr c 0,rpV x,.int .i64 now] H τ q=q (.tup []) H' τ'
def cutC (l:List CRow):List CRow:=if 16≤l.length then l.drop 1 else l
theorem zMa (cc c' c'':zC){N:Nat}(hN:9223372036854775807≤N)(hV:VaryOkC cc)(hP:ParsOk cc)(hMt:MeantOk cc)(hM':zMn c')(hM'':zMn c'')(hD:DelC cc c' c'')(hD0:Del0C cc)(hCp:CopOk cc)(hG:zQt cc)(hSt:StoOk cc)
  {P D E:Nat→Prop} {H:Heap} {c:Nat} {rows:List CRow} {puts:Int} (hc:CacM P D H c rows puts) (hw:WF H) (hl:rows.length≤100) (hok:∀ r ∈ rows,OkVs r) (hp0:0≤puts) (hp1:puts<4611686018427387904) (url:Bs) {ask hs:List Hd} (ham:Small ask) (hsm:Small hs) (hhl:hs.length≤1000000) (bd:List V) (hbl:bd.length≤100000000) {av hv bv:V}
  (hE:∀ i,E i→i<H.size∧¬ P i∧i≠c) (ha:DatP E H 2 av ask.length (hcells ask)) (hh:DatP E H 2 hv hs.length (hcells hs)) (hb:DatP E H 1 bv bd.length bd) (n1:(zBk hs).1=false) (n2:(zBk ask).1=false) (n3:(zBZ zNb hs).contains [42]=false) (hnl:(zGP hs).length≤1000000) (hns:∀ n ∈ zGP hs,n.length≤140737488355328) (now:Int) (τ:Tape) :
  ∃ P' D' H' τ' x,CacM P' D' H' c (cutC (rows.filter fun r=>!zI2 url ask r)++[x]) (puts+1)∧(x.url=url∧x.vs=(zGP hs).map (vryT ask)∧x.st=200∧x.hs=hs∧x.bd=bd∧x.sto=now∧x.ord=puts+1∧H.size≤x.id)∧(∀ i,i<H.size→P' i→P i)∧(∀ i,i<H.size→D' i→D i)∧Chg (fun i=>P i∨i=c) H H' ∧
   ∀ q,zD2 cc N (.ptr c 0) (.str url) av (.agg [.int .i64 (.ofNat 200),hv,bv]) (.int .i64 now) H τ q=q (.bool true) H' τ':=by
 have hcl:c<H.size:=by obtain⟨v,h1,_⟩:=hc.bx;exact h1.lt hw
 have e0:eBox [.agg [.int .i64 (.ofNat 200),hv,bv]] H τ=some (.ptr H.size 0,H.new [.int .i64 (.ofNat 200),hv,bv] 3 true,τ):=rfl
 have g1:=Gr.new hw [.int .i64 (.ofNat 200),hv,bv] 3 true
 have b1:Bx (H.new [.int .i64 (.ofNat 200),hv,bv] 3 true) H.size [.int .i64 (.ofNat 200),hv,bv]:=Bx.new H _ 3 true (by simp)
 have z1:(H.new [.int .i64 (.ofNat 200),hv,bv] 3 true).size=H.size+1:=rfl
 generalize H.new [.int .i64 (.ofNat 200),hv,bv] 3 true=H1 at e0 g1 b1 z1
 have l1:zM [.ptr H.size (0+1)] H1=some hv:=zU b1.cells rfl
 have hh1:=hh.gr hw g1
 obtain⟨nv,H2,τ2,o2,g2,k2⟩:=hV hsm n3 g1.wf ⟨hh1.rd,hh1.src⟩ τ
 have g12:=g1.trans g2 g1.size
 have s12:=g12.size
 have b2:=zGb b1 g1.wf g2
 have l2s:zM [.ptr H.size (0+0)] H2=some (.int .i64 (.ofNat 200)):=zU b2.cells rfl
 have l2h:zM [.ptr H.size (0+1)] H2=some hv:=zU b2.cells rfl
 have hh2:=hh.gr hw g12
 have ha2:=ha.gr hw g12
 have kPh:=hP hsm (lv:=hv) (H:=H2) ⟨hh2.rd,hh2.src⟩ τ2
 have kPa:=hP ham (lv:=av) (H:=H2) ⟨ha2.rd,ha2.src⟩ τ2
 have pfh:zHv 0 1 false [.agg (ctlC (zBk hs))]=some (.bool false):=by
  have:zHv 0 1 false [.agg (ctlC (zBk hs))]=some (.bool (zBk hs).1):=rfl
  rw[this,n1]
 have pfa:zHv 0 1 false [.agg (ctlC (zBk ask))]=some (.bool false):=by
  have:zHv 0 1 false [.agg (ctlC (zBk ask))]=some (.bool (zBk ask).1):=rfl
  rw[this,n2]
 obtain⟨H3,g3,z3,a3,a3b,k3⟩:=hMt url ha.scal.1 g2.wf τ2
 have g13:=g12.trans g3 g12.size
 have c3:=hc.gr hw g13
 have s13:=g13.size
 have hE3:∀ i,E i→¬ P1of P H3 i∧i≠c:=fun i h=>⟨fun k=>k.elim (hE i h).2.1 (fun k=>by have:=(hE i h).1;omega),(hE i h).2.2⟩
 have ha3:=ha.gr hw g13
 have tst:∀ {c':zC},zMn c'→TstV c' (fvM H2.size) rpV (zI2 url ask) (P1of P H3) H3 rows:=fun hM r hr Ha hh τa=>by
  have na:∀ j,H2.size≤j→j<H3.size→¬ P1of P H3 j:=fun j h1 h2 h=>h.elim (fun h=>by have:=hc.pl j h;have:=g12.size;omega) (fun h=>by omega)
  exact hM ham hh.wf ((c3.mem r hr).chg g3.wf hh (fun i _ hd h=>h.elim (fun h=>hc.sep i h hd) (fun h=>by have:=hc.dl i hd;omega)) (fun h=>h.elim (hc.pr r hr).1 (fun h=>by have:=(hc.mem r hr).bx.bx.lt hw;omega))) (hok r hr).1 (hok r hr).2
   (a3.chg g3.wf hh (na _ (Nat.le_refl _) (by omega))).cells (a3b.chg g3.wf hh (na _ (by omega) (by omega))).cells ⟨(ha3.chg g3.wf hh (fun i _ h=>(hE3 i h).1)).rd,(ha3.chg g3.wf hh (fun i _ h=>(hE3 i h).1)).src⟩ τa
 obtain⟨v,w,H5,τ5,H6,d1,d2,d3,d4,d5,d6,d7,c6,q6⟩:=CacM.delete hD c3 g3.wf (by omega) (tst hM') (tst hM'') τ2
 have lv2:zM [.ptr c 0] H2=some v:=by
  obtain⟨v0,h1,_⟩:=hc.bx
  have e2:zM [.ptr c 0] H2=some v0:=zU (zGb h1 hw g12).cells rfl
  have e3:zM [.ptr c 0] H3=some v0:=zU (zGb h1 hw g13).cells rfl
  rw[d1]at e3;cases e3;exact e2
 have hck:zBP [H2,H3,H5,H6] (((.load none),[.ptr c 0],0,1)::[])=true:=by
  simp[zBP,zHE,zOC,lv2,d1,chk1,d4]
 generalize hrows1:(rows.filter fun r=>!zI2 url ask r)=rows1 at d7 c6 ⊢
 have hr1l:rows1.length≤rows.length:=by rw[← hrows1];exact List.length_filter_le _ _
 have s36:=q6.size
 have rest:∀ (H7:Heap) (τ7:Tape) (rows2:List CRow) (P7:Nat→Prop),CacM P7 D H7 c rows2 puts→WF H7→rows2.length≤100→(∀ i,i<H.size→P7 i→P i)→(∀ i,P7 i→i<H.size→P i)→(∀ i,P7 i→P i∨H3.size≤i)→Chg (fun i=>P i∨i=c) H3 H7 →
   ∃ P' D' H' τ' x,CacM P' D' H' c (rows2++[x]) (puts+1)∧(x.url=url∧x.vs=(zGP hs).map (vryT ask)∧x.st=200∧x.hs=hs∧x.bd=bd∧x.sto=now∧x.ord=puts+1∧H.size≤x.id)∧(∀ i,i<H.size→P' i→P i)∧(∀ i,i<H.size→D' i→D i)∧Chg (fun i=>P i∨i=c) H H' ∧
    ∀ (fr:T V) q,fr.get 0=some (.ptr c 0)→fr.get 1=some (.str url)→fr.get 2=some av→fr.get 4=some (.int .i64 now)→fr.get 8=some (.ptr H.size 0)→fr.get 11=some nv→zDx cc N q ⟨fr,H7⟩ τ7=q (.bool true) H' τ':=by
  intro H7 τ7 rows2 P7 c7 w7 h27 hP7 hP7' hP7n q37
  have s37:=q37.size
  have nQ:∀ j,H.size≤j→j<H3.size→¬(P j∨j=c):=fun j h1 _ h=>h.elim (fun h=>by have:=hc.pl j h;omega) (fun h=>by omega)
  have b7:Bx H7 H.size [.int .i64 (.ofNat 200),hv,bv]:=(zGb b2 g2.wf g3).chg g3.wf q37 (nQ _ (Nat.le_refl _) (by omega))
  have hh7:=(hh.gr hw g13).chg g3.wf q37 (fun i _ h k=>k.elim (hE i h).2.1 (hE i h).2.2)
  have ha7:=ha3.chg g3.wf q37 (fun i _ h k=>k.elim (hE i h).2.1 (hE i h).2.2)
  have hb7:=(hb.gr hw g13).chg g3.wf q37 (fun i _ h k=>k.elim (hE i h).2.1 (hE i h).2.2)
  have nv2:DatP (fun i=>H1.size≤i∧i<H2.size) H2 1 nv (zGP hs).length ((zGP hs).map V.str):=(DatP.own o2).weaken g2.wf fun i hi h=>⟨h,hi⟩
  have nv7:=(nv2.gr g2.wf g3).chg g3.wf q37 (fun i hi h k=>nQ i (by omega) hi k)
  have lr7:zBL 3 [.ptr H.size 0] H7=some (.agg [.int .i64 (.ofNat 200),hv,bv]):=zBK b7.cells (by simp)
  obtain⟨hv',bv',H8,τ8,m,m1,m2,y1,y2,g8,k8⟩:=hCp 200 hs hhl bd hbl w7 ⟨hh7.rd,hh7.src⟩ hb7.rd hb7.src τ7
  have pb:zEh [(.str []),.nils,(.int .i64 (.ofNat 0)),.nils,.nils,(.int .i64 (.ofNat 0)),(.int .i64 (.ofNat 0))] [(0,1),(2,3)] [.str url,.agg [.int .i64 200,hv',bv']]=some (.agg (rowV url .nils 200 hv' bv')):=rfl
  have e9:eBox [.agg (rowV url .nils 200 hv' bv')] H8 τ8=some (.ptr H8.size 0,H8.new (rowV url .nils 200 hv' bv') 7 true,τ8):=rfl
  have g9:=Gr.new g8.wf (rowV url .nils 200 hv' bv') 7 true
  have b9:BxT (H8.new (rowV url .nils 200 hv' bv') 7 true) H8.size (rowV url .nils 200 hv' bv'):=BxT.new H8 _ 7 (by simp)
  have z9:(H8.new (rowV url .nils 200 hv' bv') 7 true).size=H8.size+1:=rfl
  generalize H8.new (rowV url .nils 200 hv' bv') 7 true=H9 at e9 g9 b9 z9
  have s78:=g8.size
  let Q:Nat→Prop:=fun i=>i=H8.size∨H9.size≤i
  have g79:=g8.trans g9 g8.size
  obtain⟨vv,H10,τ10,t1,t2,t3,t4⟩:=l_cput cc N hG ham (av:=av) (zGP hs) hnl hns nv (.ptr c 0) (.int .i64 now) url 200 hv' bv' H8.size g9.wf (by omega) (Q:=Q) (fun i hi=>⟨fun h=>h.elim id (fun h=>by omega),.inl⟩) (fun i hi=>.inr hi)
   (fun Hx hx=>((nv7.gr w7 g79).chg g9.wf hx (fun i _ h k=>k.elim (fun e=>by omega) (fun e=>by omega))).rd) (fun Hx hx=>⟨((ha7.gr w7 g79).chg g9.wf hx (fun i _ h k=>by have:=(hE i h).1;exact k.elim (fun e=>by omega) (fun e=>by omega))).rd,((ha7.gr w7 g79).chg g9.wf hx (fun i _ h k=>by have:=(hE i h).1;exact k.elim (fun e=>by omega) (fun e=>by omega))).src⟩)
   (zGP hs) [] .nils H9 τ8 N rfl (by omega) (Chg.refl g9.wf) b9 (GenL.nil _ _ _)
  have s910:=t1.size
  have g7t:Gr H7.size H7 H10:=g79.trans (t1.gr (B:=H7.size) (by omega) (fun i hi h=>h.elim (fun e=>by omega) (fun e=>by omega))) (Nat.le_refl _)
  let D2:Nat→Prop:=fun i=>D i∨(H7.size≤i∧i<H8.size)∨(H9.size≤i∧i<H10.size)
  have hrow:RowM D2 H10 ⟨H8.size,url,(zGP hs).map (vryT ask),200,hs,bd,0,0,vv,hv',bv'⟩:=by
   refine⟨t2,?_,?_,?_⟩
   ·have:=(DatP.gen t3).weaken t1.wf (Q:=D2) (fun i hi h=>.inr (.inr ⟨h,hi⟩))
    exact this
   ·exact((DatP.gen (y1.gr g8.wf g9)).chg g9.wf t1 (fun i _ h k=>k.elim (fun e=>by omega) (fun e=>by omega))).weaken t1.wf (fun i _ h=>.inr (.inl ⟨h.1,by omega⟩))
   ·have y2':DatP (fun i=>m≤i∧i<H8.size) H8 1 bv' bd.length bd:=DatP.bod y2
    exact((y2'.gr g8.wf g9).chg g9.wf t1 (fun i _ h k=>k.elim (fun e=>by omega) (fun e=>by omega))).weaken t1.wf (fun i _ h=>.inr (.inl ⟨by omega,h.2⟩))
  have c10:=(c7.gr w7 g7t).weakenD g7t.wf (E:=D2) (fun i h=>.inl h) (fun i hp h=>h.elim (fun h=>c7.sep i hp h) (fun h=>by have:=c7.pl i hp;exact h.elim (fun h=>by omega) (fun h=>by omega))) (fun i h=>h.elim (fun h=>by have:=hc.dl i h;omega) (fun h=>h.elim (fun h=>by omega) (fun h=>h.2)))
   (fun h=>h.elim hc.dc (fun h=>h.elim (fun h=>by omega) (fun h=>by omega))) (fun r hr h=>h.elim (c7.pr r hr).2.1 (fun h=>by have:=(c7.mem r hr).bx.bx.lt w7;exact h.elim (fun h=>by omega) (fun h=>by omega)))
  obtain⟨P',H',τ',u1,u2,u3,u4⟩:=hSt c10 g7t.wf (by omega) hp0 hp1 ⟨H8.size,url,(zGP hs).map (vryT ask),200,hs,bd,0,0,vv,hv',bv'⟩ hrow (fun h=>by have:=c7.pl _ h;simp only at this;omega) (fun h=>h.elim (fun h=>by have:=hc.dl _ h;simp only at this;omega) (fun h=>h.elim (fun h=>by simp only at h;omega) (fun h=>by simp only at h;omega))) (by simp only;omega) now τ10
  have hst:storeT ⟨H8.size,url,(zGP hs).map (vryT ask),200,hs,bd,0,0,vv,hv',bv'⟩ now (puts+1) rows2=rows2++[⟨H8.size,url,(zGP hs).map (vryT ask),200,hs,bd,now,puts+1,vv,hv',bv'⟩]:=by
   unfold storeT
   congr 1
   rw[List.filter_eq_self]
   intro r hr
   have:=(c7.mem r hr).bx.bx.lt w7
   have hne:H8.size≠r.id:=by omega
   simp[hne]
  rw[hst]at u1
  refine⟨P',D2,H',τ',_,u1,⟨rfl,rfl,rfl,rfl,rfl,rfl,rfl,by simp only;omega⟩,fun i hi h=>hP7 i hi (u2 i (by omega) h),fun i hi h=>h.elim id (fun h=>h.elim (fun h=>by omega) (fun h=>by omega)),?_,fun fr q f0 f1 f2 f4 f8 f11=>?_⟩
  ·have q3:Chg (fun i=>P i∨i=c) H H3:=g13.chg
   have q7:Chg (fun i=>P i∨i=c) H H7:=q3.trans q37 fun _ _ h=>h
   have q10:Chg (fun i=>P i∨i=c) H H10:=q7.trans (g7t.chg (P:=fun _=>False)) fun _ _ h=>h.elim
   exact q10.trans u3 fun i hi h=>h.elim (fun h=>.inl (hP7 i hi h)) (fun h=>h.elim .inr (fun h=>by simp only at h;omega))
  ·have pl:=nv7.rd.pLen
   have k8':∀ q,cc zEm [.agg [.int .i64 (.ofNat 200),hv,bv]] H7 τ7 q=q (.agg [.int .i64 200,hv',bv']) H8 τ8:=k8
   have u4':∀ q,cc zCp [.ptr c 0,.ptr H8.size 0,.int .i64 now] H10 τ10 q=q (.tup []) H' τ':=u4
   simp only[zDx,zA f0,zA f1,zA f2,zA f4,zA f8,zA f11,lr7,zI,k8',pb,e9,zk,pl]
   rw[t4 _ _ (by simp[T.get_set]) (by simp[T.get_set]) (by simp[T.get_set]) (by simp[T.get_set]) (by simp[T.get_set]) (by simp[T.get_set]) (by simp[T.get_set])]
   simp only[zY,Nat.beq_refl,cond_true,seqK,zIR,zT,↓reduceIte,Nat.reduceEqDiff,u4']
 have x0:∀ a b:V,zF 0 [.tup [a,b]]=some a:=fun _ _=>rfl
 have x1:∀ a b:V,zF 1 [.tup [a,b]]=some b:=fun _ _=>rfl
 have ez:(Int.ofNat 200 != Int.ofNat 200)=false:=rfl
 have nck:zBg [.ptr c 0]=some (.ptr c 0):=rfl
 by_cases h16:16≤rows1.length
 ·obtain⟨r0,l,rfl⟩:=List.exists_cons_of_ne_nil (l:=rows1) (by intro h;rw[h]at h16;simp at h16)
  have hll:l.length≤100:=by simp at hr1l;omega
  obtain⟨v',w',H6a,H7,p1,p2,p3,c7,q7⟩:=CacM.delete0 hD0 c6 q6.wf (by simp at h16;omega) (by omega) τ5
  have hww:v'=w:=by rw[d6]at p1;exact(Option.some.inj p1).symm
  subst hww
  have q37:Chg (fun i=>P i∨i=c) H3 H7:=q6.trans q7 fun i hi h=>h.elim (fun h=>h.1.elim .inl (fun h=>by omega)) .inr
  obtain⟨P',D',H',τ',x,r1,r2,r3,r4,r5,r6⟩:=rest H7 τ5 l _ c7 q7.wf hll (fun i hi h=>h.1.1.elim id (fun h=>by omega)) (fun i h hi=>h.1.1.elim id (fun h=>by omega)) (fun i h=>h.1.1) q37
  have ec:cutC (r0::l)=l:=by unfold cutC;rw[if_pos h16];rfl
  rw[ec]
  refine⟨P',D',H',τ',x,r1,r2,r3,r4,r5,fun q=>?_⟩
  have e16:decide (Int.ofNat 16≤(((r0::l).length:Nat):Int))=true:=decide_eq_true (by have:Int.ofNat 16=16:=rfl;omega)
  simp only[zD2,e0,zk,zD,Nat.add_zero,zI,l1,k2,x0,x1,l2s,zDB,ez,zC9,retK,l2h,kPh,pfh,zP,cond_false,zBx,Bool.not_true,kPa,pfa,zL,nck,lv2,k3,d2,d5,hck,cond_true,d6,d7,zBv,e16,zN,p2,p3]
  exact r6 _ q (by simp[T.get_set]) (by simp[T.get_set]) (by simp[T.get_set]) (by simp[T.get_set]) (by simp[T.get_set]) (by simp[T.get_set])
 ·obtain⟨P',D',H',τ',x,r1,r2,r3,r4,r5,r6⟩:=rest H6 τ5 rows1 _ c6 q6.wf (by omega) (fun i hi h=>h.1.elim id (fun h=>by omega)) (fun i h hi=>h.1.elim id (fun h=>by omega)) (fun i h=>h.1) q6
  have ec:cutC rows1=rows1:=by unfold cutC;rw[if_neg h16]
  rw[ec]
  refine⟨P',D',H',τ',x,r1,r2,r3,r4,r5,fun q=>?_⟩
  have e16:decide (Int.ofNat 16≤((rows1.length:Nat):Int))=false:=decide_eq_false (by have:Int.ofNat 16=16:=rfl;omega)
  simp only[zD2,e0,zk,zD,Nat.add_zero,zI,l1,k2,x0,x1,l2s,zDB,ez,zC9,retK,l2h,kPh,pfh,zP,cond_false,zBx,Bool.not_true,kPa,pfa,zL,nck,lv2,k3,d2,d5,hck,cond_true,d6,d7,zBv,e16]
  exact r6 _ q (by simp[T.get_set]) (by simp[T.get_set]) (by simp[T.get_set]) (by simp[T.get_set]) (by simp[T.get_set]) (by simp[T.get_set])
end Go.Am.X

namespace Go.Am.X
abbrev FiOk (cc:zC):Prop:=∀ {P D:Nat→Prop} {H:Heap} {c:Nat} {rows:List CRow} {puts:Int},CacM P D H c rows puts→WF H→rows.length≤1000→(∀ r ∈ rows,OkVs r)→∀ (url:Bs) {ask:List Hd},Small ask→∀ {av:V},RdH H av ask→∀ τ,
  ∃ H' τ',Gr H.size H H'∧(∀ b,zQV url ask rows=some b→b ∈ rows)∧∀ q,cc zEv [.ptr c 0,.str url,av] H τ q=q (outV (zQV url ask rows)) H' τ'
abbrev AgeOkC (c:zC):Prop:=∀ {hs:List Hd},Small hs→∀ {a b:Int},InI a→InI b→∀ {lv:V} {H:Heap},RdH H lv hs→∀ τ q,c zE4 [lv,.int .i64 a,.int .i64 b] H τ q=q (.int .i64 (ageT hs a b)) H τ
abbrev FrsOkC (c:zC):Prop:=∀ {hs:List Hd},Small hs→∀ {a b:Int},InI a→InI b→∀ {lv:V} {H:Heap},RdH H lv hs→∀ τ q,c zGI [lv,.int .i64 a,.int .i64 b] H τ q=q (.bool (zLJ hs a b)) H τ
abbrev SetOkC (c:zC):Prop:=∀ {hs:List Hd} {n v:Bs},hs.length<1000000→(∀ h ∈ hs,h.1.length≤140737488355328)→n.length≤140737488355328→v.length<9223372036854775807→∀ {lv:V} {H:Heap},WF H→RdH H lv hs→∀ τ,
  ∃ r H' τ',(setE n v hs=0→Own H' H.size 2 r (setT n v hs).length (hcells (setT n v hs)))∧Gr H.size H H'∧∀ q,c zES [lv,.str n,.str v] H τ q=q (.tup [r,.int .i64 (setE n v hs)]) H' τ'
end Go.Am.X

namespace Go.Am.X
def ageN:Bs:=[97,103,101]
def etagN:Bs:=[101,116,97,103]
def lastN:Bs:=[108,97,115,116,45,109,111,100,105,102,105,101,100]
def zJm (ask:List Hd)(x:CRow)(now:Int):Bool:=zLJ x.hs x.sto now && !(zBk ask).2.1
theorem zLB (cc:zC)(N:Nat)(hFi:FiOk cc)(hU:UseOk cc)(hCp:CopOk cc)(hAg:AgeOkC cc)(hFr:FrsOkC cc)(hSe:SetOkC cc)(hG:zQt cc)(hP:ParsOk cc){P D E:Nat→Prop}{H:Heap}{c:Nat}{rows:List CRow}{puts:Int}(hc:CacM P D H c rows puts)(hw:WF H)(hl:rows.length≤1000)(hok:∀ r ∈ rows,OkVs r)(url:Bs){ask:List Hd}(ham:Small ask){av:V}
  (hE:∀ i,E i→i<H.size∧¬ P i∧i≠c) (ha:DatP E H 2 av ask.length (hcells ask)) {x:CRow} (hn:zQV url ask rows=some x) (hxs:Small x.hs) (hxl:x.hs.length<1000000) (hxn:∀ h ∈ x.hs,h.1.length≤140737488355328) (hxb:x.bd.length≤100000000) (he:(sel etagN x.hs).length=0) (hm:(sel lastN x.hs).length=0)
  {now:Int} (hin:InI now) (his:InI x.sto) {s:Bs} (hsl:s.length≤100) (hF:∀ H',Chg (fun i=>P i∨i=c) H H'→∀ τ q,cc zBU [.int .i64 (ageT x.hs x.sto now),.int .i64 (.ofNat 10)] H' τ q=q (.str s) H' τ) (τ:Tape) :
  ∃ P' H' τ' hvF bvF nh ch,CacM P' D H' c (useT x rows) puts∧(∀ i,i<H.size→P' i→P i)∧BodP (fun i=>H.size≤i∧¬ P' i∧i<H'.size) H' bvF x.bd.length x.bd∧GenL (fun i=>H.size≤i∧¬ P' i∧i<H'.size) H' 2 hvF nh ch∧Chg (fun i=>P i∨i=c) H H' ∧
   ∀ q,zDN cc N (.ptr c 0) (.str url) av (.int .i64 now) H τ q=q (.agg [.int .i64 (if zJm ask x now=true then 2 else 1),.int .i64 x.st,hvF,bvF,.nils]) H' τ':=by
 have hcl:c<H.size:=by obtain⟨v,h1,_⟩:=hc.bx;exact h1.lt hw
 have e0:zDA [(.int .i64 (.ofNat 0)),(.int .i64 (.ofNat 0)),.nils,.nils,.nils] [] H τ=some (.ptr H.size 0,H.new [(.int .i64 (.ofNat 0)),(.int .i64 (.ofNat 0)),.nils,.nils,.nils] 5 true,τ):=rfl
 have g1:=Gr.new hw [(.int .i64 (.ofNat 0)),(.int .i64 (.ofNat 0)),.nils,.nils,.nils] 5 true
 have b1:Bx (H.new [(.int .i64 (.ofNat 0)),(.int .i64 (.ofNat 0)),.nils,.nils,.nils] 5 true) H.size [(.int .i64 (.ofNat 0)),(.int .i64 (.ofNat 0)),.nils,.nils,.nils]:=Bx.new H _ 5 true (by simp)
 have z1:(H.new [(.int .i64 (.ofNat 0)),(.int .i64 (.ofNat 0)),.nils,.nils,.nils] 5 true).size=H.size+1:=rfl
 generalize H.new [(.int .i64 (.ofNat 0)),(.int .i64 (.ofNat 0)),.nils,.nils,.nils] 5 true=H1 at e0 g1 b1 z1
 obtain⟨H2,τ2,g2,mm,k2⟩:=hFi (hc.gr hw g1) g1.wf hl hok url ham ⟨(ha.gr hw g1).rd,(ha.gr hw g1).src⟩ τ
 have hxm:=mm x hn
 rw[hn]at k2
 have g12:=g1.trans g2 g1.size
 have s12:=g12.size
 have s2a:=g2.size
 have c2:=hc.gr hw g12
 obtain⟨P',H3,τ3,c3,hPs,q3,k3⟩:=hU c2 g12.wf hl x (c2.mem x hxm) (c2.pr x hxm).1 (c2.pr x hxm).2.1 (c2.pr x hxm).2.2 τ2
 have s3:=q3.size
 have x3:=c3.mem x (List.mem_append.2 (.inr (List.mem_singleton.2 rfl)))
 have nQ:∀ j,H.size≤j→¬(P j∨j=c):=fun j h1 h=>h.elim (fun h=>by have:=hc.pl j h;omega) (fun h=>by omega)
 have b3:Bx H3 H.size _:=(zGb b1 g1.wf g2).chg g12.wf q3 (nQ _ (Nat.le_refl _))
 have lr:zBL 3 [.ptr x.id (0+2)] H3=some (.agg [.int .i64 x.st,x.hv,x.bv]):=zBK x3.bx.bx.cells (by simp[CRow.cells])
 obtain⟨hv',bv',H4,τ4,m,m1,m2,y1,y2,g4,k4⟩:=hCp x.st x.hs (by omega) x.bd hxb q3.wf ⟨x3.hs.rd,x3.hs.src⟩ x3.bd.rd x3.bd.src τ3
 have s4:=g4.size
 obtain⟨sv1,sv2⟩:=y1.scal
 obtain⟨sw1,sw2⟩:=y2.scal
 have pb:zEh [(.int .i64 (.ofNat 0)),(.int .i64 (.ofNat 0)),.nils,.nils,.nils] [(0,1),(1,3)] [(.int .i64 (.ofNat 2)),.agg [.int .i64 x.st,hv',bv']]=some (.agg [.int .i64 (.ofNat 2),.int .i64 x.st,hv',bv',.nils]):=rfl
 obtain⟨H5,H6,a1,a2,b6,g6,lt6⟩:=boxN g4.wf 5 [(.int .i64 (.ofNat 0)),(.int .i64 (.ofNat 0)),.nils,.nils,.nils] [.int .i64 (.ofNat 2),.int .i64 x.st,hv',bv',.nils] rfl rfl (by omega) (by show(true && (true && (hv'.scal && (bv'.scal && (true && true)))))=true;rw[sv2,sw2];rfl) τ4
 have s6:=g6.size
 have q03:Chg (fun i=>P i∨i=c) H H3:=(g12.chg (P:=fun i=>P i∨i=c)).trans q3 fun _ _ h=>h
 have q06:Chg (fun i=>P i∨i=c) H H6:=(q03.trans (g4.chg (P:=fun _=>False)) fun _ _ h=>h.elim).trans (g6.chg (P:=fun _=>False)) fun _ _ h=>h.elim
 have g36:=g4.trans g6 g4.size
 have x6:=x3.chg q3.wf (g36.chg (P:=fun _=>False)) (fun _ _ _=>not_false) not_false
 have c6:=c3.gr q3.wf g36
 have l6h:zM [.ptr x.id (0+2+1)] H6=some x.hv:=zU x6.bx.bx.cells rfl
 have l6s:zM [.ptr x.id (0+5)] H6=some (.int .i64 x.sto):=zU x6.bx.bx.cells rfl
 have kA:=hAg hxs his hin (lv:=x.hv) (H:=H6) ⟨x6.hs.rd,x6.hs.src⟩ τ4
 have kF:=hF H6 q06 τ4
 obtain⟨r,H7,τ7,o7,g7,k7⟩:=hSe (n:=ageN) (v:=s) hxl hxn (by decide) (by omega) (lv:=x.hv) g6.wf ⟨x6.hs.rd,x6.hs.src⟩ τ4
 have s7:=g7.size
 have b0_7:Bx H7 H.size [(.int .i64 (.ofNat 0)),(.int .i64 (.ofNat 0)),.nils,.nils,.nils]:=zGb (zGb (zGb b3 q3.wf g4) g4.wf g6) g6.wf g7
 have b1_7:=zGb b6 g6.wf g7
 have x7:=x6.chg g6.wf (g7.chg (P:=fun _=>False)) (fun _ _ _=>not_false) not_false
 have c7:=c6.gr g6.wf g7
 have q07:Chg (fun i=>P i∨i=c) H H7:=q06.trans (g7.chg (P:=fun _=>False)) fun _ _ h=>h.elim
 have y1_7:=((y1.gr g4.wf g6).gr g6.wf g7)
 have y2_7:BodP (fun i=>m≤i∧i<H4.size) H7 bv' x.bd.length x.bd:=(y2.chg g4.wf (g6.chg (P:=fun _=>False)) (fun _ _ _=>not_false)).chg g6.wf (g7.chg (P:=fun _=>False)) (fun _ _ _=>not_false)
 have hP3:∀ i,P' i→i<H3.size:=c3.pl
 have hb1:H.size≠H4.size:=by omega
 have nx0:∀ {j},H.size≤j→x.id≠j:=fun h e=>by have:=(hc.mem x hxm).bx.bx.lt hw;omega
 have tail:∀ (H8:Heap) (hvF:V) (nh:Nat) (ch:List V) (W:Nat→Prop),WF H8→hvF.cells=[hvF]∧hvF.scal=true→Bx H8 H.size [(.int .i64 (.ofNat 0)),(.int .i64 (.ofNat 0)),.nils,.nils,.nils]→Bx H8 H4.size [.int .i64 (.ofNat 2),.int .i64 x.st,hvF,bv',.nils]→RowM D H8 x→CacM P' D H8 c (useT x rows) puts→GenL W H8 2 hvF nh ch→(∀ i,W i→H3.size≤i∧i≠H4.size∧i<H8.size)→BodP (fun i=>m≤i∧i<H4.size) H8 bv' x.bd.length x.bd→Chg (fun i=>P i∨i=c) H H8 →
   ∃ H' τ',CacM P' D H' c (useT x rows) puts∧BodP (fun i=>H.size≤i∧¬ P' i∧i<H'.size) H' bv' x.bd.length x.bd∧GenL (fun i=>H.size≤i∧¬ P' i∧i<H'.size) H' 2 hvF nh ch∧Chg (fun i=>P i∨i=c) H H' ∧
    ∀ (fr:T V) q,fr.get 2=some av→fr.get 3=some (.int .i64 now)→fr.get 8=some (.ptr H.size 0)→fr.get 9=some (rpV x)→fr.get 10=some (.ptr H4.size 0)→fr.get 11=some x.hv →
     zBa cc N q ⟨fr,H8⟩ τ7=q (.agg [.int .i64 (if zJm ask x now=true then 2 else 1),.int .i64 x.st,hvF,bv',.nils]) H' τ':=by
  intro H8 hvF nh ch W w8 fsc t0 t1 x8 c8 y8 hW z8 q08
  have s8:=q08.size
  let Q:Nat→Prop:=fun i=>i=H.size∨i=H4.size
  have h38:H4.size<H8.size:=t1.lt w8
  have fin:∀ (H9:Heap),Chg Q H8 H9→H9.size=H8.size→CacM P' D H9 c (useT x rows) puts∧BodP (fun i=>H.size≤i∧¬ P' i∧i<H9.size) H9 bv' x.bd.length x.bd∧GenL (fun i=>H.size≤i∧¬ P' i∧i<H9.size) H9 2 hvF nh ch∧Chg (fun i=>P i∨i=c) H H9:=by
   intro H9 hq hs9
   refine⟨?_,?_,?_,?_⟩
   ·obtain⟨v,h1,h2⟩:=c8.bx
    have nP:∀ i,i<H8.size→P' i→¬ Q i:=by
     intro i _ h k
     have h3:=hP3 i h
     rcases k with e | e
     ·have:=hPs i (by omega) h
      have:=hc.pl i this
      omega
     ·omega
    have nD:∀ i,i<H8.size→D i→¬ Q i:=fun i _ h k=>by have:=hc.dl i h;exact k.elim (fun e=>by omega) (fun e=>by omega)
    refine⟨⟨v,h1.chg w8 hq (fun k=>k.elim (fun e=>by omega) (fun e=>by omega)),GenL.chg h2 w8 hq nP⟩,fun r hr=>(c8.mem r hr).chg w8 hq nD ?_,c8.sep,fun i h=>by rw[hs9];exact c8.pl i h,fun i h=>by rw[hs9];exact c8.dl i h,c8.pc,c8.dc,c8.pr⟩
    have hrr:r ∈ rows:=by
     rcases List.mem_append.1 hr with h | h
     ·exact(List.mem_filter.1 h).1
     ·rw[List.mem_singleton.1 h];exact hxm
    have:=(hc.mem r hrr).bx.bx.lt hw
    exact fun k=>k.elim (fun e=>by omega) (fun e=>by omega)
   ·exact(z8.chg w8 hq (fun i _ h k=>k.elim (fun e=>by omega) (fun e=>by omega))).weaken hq.wf (fun i hi h=>⟨by omega,fun hp=>by have:=hP3 i hp;omega,hi⟩)
   ·exact(GenL.chg y8 w8 hq (fun i _ h k=>k.elim (fun e=>by have:=hW i h;omega) (fun e=>(hW i h).2.1 e))).weaken hq.wf (fun i hi h=>⟨by have:=hW i h;omega,fun hp=>by have:=hP3 i hp;have:=hW i h;omega,hi⟩)
   ·exact q08.trans hq fun i hi k=>k.elim (fun e=>by omega) (fun e=>by omega)
  have l8s:zM [.ptr x.id (0+5)] H8=some (.int .i64 x.sto):=zU x8.bx.bx.cells rfl
  have nckx:zBg [rpV x]=some (.ptr x.id 0):=rfl
  have kFr:=hFr hxs his hin (lv:=x.hv) (H:=H8) ⟨x8.hs.rd,x8.hs.src⟩ τ7
  have ha8:=ha.chg hw q08 (fun i _ h k=>k.elim (hE i h).2.1 (hE i h).2.2)
  have kP:=hP ham (lv:=av) (H:=H8) ⟨ha8.rd,ha8.src⟩ τ7
  have pf1:zHv 1 1 false [.agg (ctlC (zBk ask))]=some (.bool (zBk ask).2.1):=rfl
  by_cases hfc:zJm ask x now=true
  ·obtain⟨H9,u1,u2,u3⟩:=t0.eStore w8 0 (.agg [.int .i64 (.ofNat 2),.int .i64 x.st,hvF,bv',.nils]) 5 rfl (by simp) (by omega) (by show(true && (true && (hvF.scal && (bv'.scal && (true && true)))))=true;rw[fsc.2,sw2];rfl) τ7
   have u2':Bx H9 H.size [.int .i64 (.ofNat 2),.int .i64 x.st,hvF,bv',.nils]:=u2
   have l8:zBL 5 [.ptr H4.size 0] H8=some (.agg [.int .i64 (.ofNat 2),.int .i64 x.st,hvF,bv',.nils]):=zBK t1.cells (by simp)
   have l9:zBL 5 [.ptr H.size 0] H9=some (.agg [.int .i64 2,.int .i64 x.st,hvF,bv',.nils]):=zBK u2'.cells (by simp)
   have hres:results ⟨(T.set .leaf 8 (.ptr H.size 0)),H9⟩ [(.cell 8 (some 5))]=some (.agg [.int .i64 2,.int .i64 x.st,hvF,bv',.nils]):=by
    simp only[results,zLX,zQQ,T.get_set_same,zHE,zOC,l9]
   obtain⟨f1,f2,f3,f4⟩:=fin H9 (u3.chg (P:=Q) (.inl rfl)) u3.size
   refine⟨H9,τ7,f1,f2,f3,f4,fun fr q g2' g3' g8' g9' g10' g11'=>?_⟩
   rw[if_pos hfc]
   unfold zJm at hfc
   rw[Bool.and_eq_true]at hfc
   simp only[zBa,zA g2',zA g3',zA g8',zA g9',zA g10',zA g11',nckx,zD,zI,l8s,kFr,hfc.1,zC8,retK,zk,kP,pf1,zBx,hfc.2,zP,cond_true,zN,l8,u1,hres]
  ·have hfc':zJm ask x now=false:=by simpa using hfc
   rw[if_neg hfc]
   obtain⟨H9,u1,u2,u3⟩:=t1.eStore w8 0 (.int .i64 (.ofNat 1)) 1 rfl (by simp) (by omega) rfl τ7
   have u2':Bx H9 H4.size [.int .i64 (.ofNat 1),.int .i64 x.st,hvF,bv',.nils]:=u2
   have t0':=t0.only u3 hb1
   have x9:RdH H9 x.hv x.hs:=by
    have:=x8.hs.chg w8 (u3.chg (P:=Q) (.inr rfl)) (fun i _ h k=>by have:=hc.dl i h;exact k.elim (fun e=>by omega) (fun e=>by omega))
    exact⟨this.rd,this.src⟩
   have kG1:=hG hxs (name:=etagN) (by decide) x9 τ7
   have kG2:=hG hxs (name:=lastN) (by decide) x9 τ7
   rw[he]at kG1
   rw[hm]at kG2
   have d0:decide (0<0)=false:=rfl
   rw[d0]at kG1 kG2
   obtain⟨H10,v1,v2,v3⟩:=t0'.eStore u3.wf 0 (.agg [.int .i64 (.ofNat 1),.int .i64 x.st,hvF,bv',.nils]) 5 rfl (by simp) (by omega) (by show(true && (true && (hvF.scal && (bv'.scal && (true && true)))))=true;rw[fsc.2,sw2];rfl) τ7
   have v2':Bx H10 H.size [.int .i64 (.ofNat 1),.int .i64 x.st,hvF,bv',.nils]:=v2
   have l9:zBL 5 [.ptr H4.size 0] H9=some (.agg [.int .i64 (.ofNat 1),.int .i64 x.st,hvF,bv',.nils]):=zBK u2'.cells (by simp)
   have l10:zBL 5 [.ptr H.size 0] H10=some (.agg [.int .i64 1,.int .i64 x.st,hvF,bv',.nils]):=zBK v2'.cells (by simp)
   have hres:results ⟨(T.set .leaf 8 (.ptr H.size 0)),H10⟩ [(.cell 8 (some 5))]=some (.agg [.int .i64 1,.int .i64 x.st,hvF,bv',.nils]):=by
    simp only[results,zLX,zQQ,T.get_set_same,zHE,zOC,l10]
   obtain⟨f1,f2,f3,f4⟩:=fin H10 ((u3.chg (P:=Q) (.inr rfl)).trans (v3.chg (P:=Q) (.inl rfl)) fun _ _ h=>h) (by rw[v3.size,u3.size])
   refine⟨H10,τ7,f1,f2,f3,f4,fun fr q g2' g3' g8' g9' g10' g11'=>?_⟩
   have x0:∀ a b:V,zF 0 [.tup [a,b]]=some a:=fun _ _=>rfl
   have x1:∀ a b:V,zF 1 [.tup [a,b]]=some b:=fun _ _=>rfl
   have be:bs [101,116,97,103]=etagN:=rfl
   have bl:bs [108,97,115,116,45,109,111,100,105,102,105,101,100]=lastN:=rfl
   cases hf:zLJ x.hs x.sto now with
   | false =>
    rw[hf]at kFr
    simp only[zBa,zA g2',zA g3',zA g8',zA g9',zA g10',zA g11',nckx,zD,Nat.add_zero,Nat.zero_add,zI,show zM [.ptr x.id 5] H8=some (.int .i64 x.sto)from l8s,kFr,zBM,zCg,zP,cond_false,zL,u1,zk,be,kG1,x0,x1,zDZ,zT,↓reduceIte,Nat.reduceEqDiff,bl,kG2,zDV,l9,v1,hres]
   | true =>
    rw[hf]at kFr
    have hnc:(!(zBk ask).2.1)=false:=by unfold zJm at hfc';rw[hf,Bool.true_and]at hfc';exact hfc'
    simp only[zBa,zA g2',zA g3',zA g8',zA g9',zA g10',zA g11',nckx,zD,Nat.add_zero,Nat.zero_add,zI,show zM [.ptr x.id 5] H8=some (.int .i64 x.sto)from l8s,kFr,zC8,retK,kP,pf1,zBx,hnc,zP,cond_true,zL,u1,zk,be,kG1,x0,x1,zDZ,zT,↓reduceIte,Nat.reduceEqDiff,bl,kG2,zDV,l9,v1,hres]
 have x0:∀ a b:V,zF 0 [.tup [a,b]]=some a:=fun _ _=>rfl
 have x1:∀ a b:V,zF 1 [.tup [a,b]]=some b:=fun _ _=>rfl
 have en:lPeq false [rpV x,.nilp] H2=some (.bool false):=rfl
 have eo:outV (some x)=rpV x:=rfl
 have nckx:zBg [rpV x]=some (.ptr x.id 0):=rfl
 have ba:bs [97,103,101]=ageN:=rfl
 by_cases hse:setE ageN s x.hs=0
 ·have ow:=o7 hse
  obtain⟨os1,os2⟩:r.cells=[r]∧r.scal=true:=by
   rcases ow with⟨rfl,_⟩ | ⟨_,_,_,_,_,_,_,_,rfl,_⟩ <;> exact⟨rfl,rfl⟩
  obtain⟨H8,v1,v2,v3⟩:=b1_7.eStore g7.wf 2 r 1 (by rw[os1];rfl) (by simp) (by omega) (by rw[os1];simp[os2]) τ7
  have v2':Bx H8 H4.size [.int .i64 (.ofNat 2),.int .i64 x.st,r,bv',.nils]:=by rw[os1]at v2;exact v2
  have ov:Chg (fun i=>i=H4.size) H7 H8:=v3.chg (P:=fun i=>i=H4.size) rfl
  have gr:GenL (fun i=>H6.size≤i∧i<H7.size) H8 2 r (setT ageN s x.hs).length (hcells (setT ageN s x.hs)):=(GenL.chg ((GenL.apd ow.apd).weaken g7.wf (Q:=fun i=>H6.size≤i∧i<H7.size) fun i hi h=>⟨h,hi⟩) g7.wf ov (fun i _ h e=>by omega))
  have c8:CacM P' D H8 c (useT x rows) puts:=by
   obtain⟨v,h1,h2⟩:=c7.bx
   refine⟨⟨v,h1.only v3 (by omega),GenL.chg h2 g7.wf ov (fun i _ h e=>by have:=hP3 i h;omega)⟩,fun r' hr=>(c7.mem r' hr).chg g7.wf ov (fun i _ h e=>by have:=hc.dl i h;omega) ?_,c7.sep,fun i h=>by rw[v3.size];exact c7.pl i h,fun i h=>by rw[v3.size];exact c7.dl i h,c7.pc,c7.dc,c7.pr⟩
   have hrr:r' ∈ rows:=by
    rcases List.mem_append.1 hr with h | h
    ·exact(List.mem_filter.1 h).1
    ·rw[List.mem_singleton.1 h];exact hxm
   have:=(hc.mem r' hrr).bx.bx.lt hw
   intro e;omega
  obtain⟨H',τ',f1,f2,f3,f4,f5⟩:=tail H8 r _ _ _ v3.wf ⟨os1,os2⟩ (b0_7.only v3 hb1) v2' (x7.chg g7.wf ov (fun i _ h e=>by have:=hc.dl i h;omega) (nx0 (by omega))) c8 gr (fun i h=>⟨by omega,by omega,by rw[v3.size];exact h.2⟩) (y2_7.chg g7.wf ov (fun i _ h e=>by omega)) (q07.trans ov fun i hi e=>by omega)
  refine⟨P',H',τ',r,bv',_,_,f1,fun i hi h=>hPs i (by omega) h,f2,f3,f4,fun q=>?_⟩
  have ee:((setE ageN s x.hs) == Int.ofNat 0)=true:=by rw[hse];rfl
  simp only[zDN,e0,zk,k2,en,eo,zI,zL,k3,nckx,zD,lr,k4,pb,a1,a2,l6h,l6s,kA,kF,ba,k7,x0,x1,zAi,ee,zN]
  have v1':eStore 1 [.ptr H4.size (0+1+1),r] H7 τ7=some (.tup [],H8,τ7):=v1
  simp only[v1',zk]
  exact f5 _ q (by simp[T.get_set]) (by simp[T.get_set]) (by simp[T.get_set]) (by simp[T.get_set]) (by simp[T.get_set]) (by simp[T.get_set])
 ·obtain⟨H',τ',f1,f2,f3,f4,f5⟩:=tail H7 hv' _ _ _ g7.wf ⟨sv1,sv2⟩ b0_7 b1_7 x7 c7 y1_7 (fun i h=>⟨h.1,by omega,by omega⟩) y2_7 q07
  refine⟨P',H',τ',hv',bv',_,_,f1,fun i hi h=>hPs i (by omega) h,f2,f3,f4,fun q=>?_⟩
  have ee:((setE ageN s x.hs) == Int.ofNat 0)=false:=by rw[beq_eq_false_iff_ne];exact hse
  simp only[zDN,e0,zk,k2,en,eo,zI,zL,k3,nckx,zD,lr,k4,pb,a1,a2,l6h,l6s,kA,kF,ba,k7,x0,x1,zAi,ee]
  exact f5 _ q (by simp[T.get_set]) (by simp[T.get_set]) (by simp[T.get_set]) (by simp[T.get_set]) (by simp[T.get_set]) (by simp[T.get_set])
end Go.Am.X

namespace Go.Am.X
abbrev Fm0Pre:List V→Prop
 | [.int .i64 n,.int .i64 b]=>n=0∧b=10
 | _=>False
abbrev Fm0G:List V→V
 | [.int .i64 n,.int .i64 b]=>.str [48]
 | _=>.tup []
theorem fm0_run:(fun τ=>allA [0] fun n=>zNg (zLv tabEk 100000) 40 zBU [.int .i64 (Int.ofNat n),.int .i64 (.ofNat 10)] (start (List.replicate 6 none)) τ (isK (.str [48])))=fun _=>doneA:=by kernel_rfl
theorem p_fm0:∀ base w0,zB4 PG base w0 zBU (outP (RV Fm0Pre Fm0G)):=by
 refine primOk_const zKo allk_ok (tabk_ok 100000) (by kernel_rfl) (N:=100000) (d:=40) 6 (Nat.le_of_eq (by kernel_rfl)) ?_
 intro vs hp
 unfold Fm0Pre at hp
 split at hp
 ·obtain⟨rfl,rfl⟩:=hp
  exact⟨rfl,fun τ=>allA_run fm0_run (x:=0) (by simp) τ⟩
 ·exact hp.elim
end Go.Am.X

namespace Go.Am.X
theorem zOX (c:zC)(N:Nat)(n:Int){h:Nat}(hh:h<4611686018427387903)(H:Heap)(τ:Tape):∃ m:Nat,m≤h∧∀ q,zHD c N (.int .i64 n) (.int .i64 (.ofNat 0)) (.int .i64 (h:Int)) H τ q=q (.int .i64 (m:Int)) H τ:=by
 have h1:=Int.tmod_lt_of_pos n (b:=(h:Int)+1) (by omega)
 have h2:=Int.lt_tmod_of_pos n (b:=(h:Int)+1) (by omega)
 have e1:wr .i64 ((h:Int)-Int.ofNat 0)=h:=by rw[zEb (by simp <;> omega) (by simp <;> omega)];simp
 have e2:wr .i64 ((h:Int)+Int.ofNat 1)=(h:Int)+1:=by rw[zEb (by simp <;> omega) (by simp <;> omega)];simp
 have er:=zOm (k:=.i64) n ((h:Int)+1)
 generalize hr:n.tmod ((h:Int)+1)=r at h1 h2
 by_cases hneg:r<0
 ·refine⟨(r+(h+1)).toNat,by omega,fun q=>?_⟩
  have e3:decide (r<Int.ofNat 0)=true:=decide_eq_true hneg
  have e4:wr .i64 (r+(h:Int))=r+h:=by rw[zEb (by omega) (by omega)]
  have e5:wr .i64 (r+h-Int.ofNat 0)=r+h:=by rw[zEb (by simp <;> omega) (by simp <;> omega)];simp
  have e6:wr .i64 (r+h+Int.ofNat 1)=r+(h+1):=by rw[zEb (by simp <;> omega) (by simp <;> omega)];simp;try omega
  have e7:wr .i64 (Int.ofNat 0+(r+(h+1)))=(((r+(h+1)).toNat:Nat):Int):=by rw[zEb (by simp <;> omega) (by simp <;> omega)];simp;try omega
  simp only[zHD,zCi,e1,ze,e2,zOm _ _ ((h:Int)+1) (by omega),hr,zK,e3,zN,e4,e5,e6,zF8,zT,↓reduceIte,Nat.reduceEqDiff,e7]
 ·refine⟨r.toNat,by omega,fun q=>?_⟩
  have e3:decide (r<Int.ofNat 0)=false:=decide_eq_false hneg
  have e7:wr .i64 (Int.ofNat 0+r)=((r.toNat:Nat):Int):=by rw[zEb (by simp <;> omega) (by simp <;> omega)];simp;omega
  simp only[zHD,zCi,e1,ze,e2,zOm _ _ ((h:Int)+1) (by omega),hr,zK,e3,zL,zF8,zT,↓reduceIte,Nat.reduceEqDiff,e7]
end Go.Am.X

namespace Go.Am.X
noncomputable abbrev zH:List Row:=[Row.fn zIE zCn zGA,Row.fn zKv zEJ zJR,Row.fn zD3 zBH zD8,Row.fn zBi zAu zDY,Row.fn zEv zAv zDJ,Row.fn zCm zBJ zDz,Row.fn zAs zAl zCq,Row.fn zCp zAm zCo,Row.fn zEC zCU zFS,Row.fn zEm zCE zFu,Row.fn zGq zCk zG0,Row.fn zFG zBr zE6,Row.fn zAD zZ zAj,Row.fn zBc zf zAo,Row.fn zBN zq zBO,Row.fn zA0 zAL zCI,Row.fn zEe zAk zCt,Row.fn zMp zFF zKE,Row.prim zAN (outP (RH zMH GetG)),Row.prim zES (outP (RH SetPre SetG)),Row.prim zBh (outP (RH zO2 CtlG)),Row.prim zHi (outP (RH zO2 VaryG)),Row.prim zE4 (outP (RH zP0 AgeG)),Row.prim zGI (outP (RH zP0 FreshG)),Row.prim zBU (outP (RV Fm0Pre Fm0G)),Row.prim zGx zJ2,Row.fn zEN zEl zIe,Row.fn zEk zEB zHk]
theorem zRV:zLR PG zH :=
 .fn zKb zJB (.fn zMj zJ3 (.fn zGd zFo (.fn zGM zFM (.fn zGC zFB (.fn zG1 zFq (.fn zFp zEq (.fn zFn zEp (.fn zJk zIS (.fn zJV zHc (.fn zJ6 zIK (.fn zIH zHA (.fn zCF zBt (.fn zCc zBz (.fn zDC zCj (.fn zEn zD7 (.fn zFj zEo (.fn zNu zK8 (.prim zN8 (.prim zRT (.prim zPk (.prim p_age_Vary (.prim p_age_Age (.prim p_age_Fresh (.prim p_fm0 (.prim zIA (.fn zNS zLQ (.fn zL5 zKk (.nil _))))))))))))))))))))))))))))
section
variable {N:Nat} (hN:9223372036854775808<N)
include hN
theorem cu_get (d:Nat):zQt (CR zH N (d+1)):=fun hs _ hn _ _ hr τ q=>k_Get (c:=CR zH N (d+1)) (f:=zAN) (fun _ _ _ _=>rfl) hs hn hr τ q
theorem cu_par (d:Nat):ParsOk (CR zH N (d+1)):=fun hs _ _ hr τ q=>k_Ctl (c:=CR zH N (d+1)) (f:=zBh) (fun _ _ _ _=>rfl) hs hr τ q
theorem cu_age (d:Nat):AgeOkC (CR zH N (d+1)):=fun hs _ _ ha hb _ _ hr τ q=>k_Age (c:=CR zH N (d+1)) (f:=zE4) (fun _ _ _ _=>rfl) hs ha hb hr τ q
theorem cu_frs (d:Nat):FrsOkC (CR zH N (d+1)):=fun hs _ _ ha hb _ _ hr τ q=>k_Fresh (c:=CR zH N (d+1)) (f:=zGI) (fun _ _ _ _=>rfl) hs ha hb hr τ q
theorem cu_set (d:Nat):SetOkC (CR zH N (d+1)):=fun h1 h2 h3 h4 _ _ hw hr τ=>by
 obtain⟨r,H',τ',g,a,_,k⟩:=k_Set (c:=CR zH N (d+1)) (f:=zES) (fun _ _ _ _=>rfl) (Pre:=SetPre) ⟨h1,h2,h3,h4⟩ hw hr τ
 exact⟨r,H',τ',fun h=>(a h).1,g,k⟩
theorem cu_vary (d:Nat):VaryOkC (CR zH N (d+1)):=fun {hs} hsm h3 {lv} {H} hw hr τ=>by
 have hg:VaryG (isNil lv) hs []=lstO 1 (zGP hs).length ((zGP hs).map V.str) (fun v=>.tup [v,.bool true]):=by
  show varyO hs=_
  unfold varyO
  rw[if_neg (by rw[h3];decide)]
  rfl
 obtain⟨v',H',τ',r1,r2,r3⟩:=RH_lstO (c:=CR zH N (d+1)) (f:=zHi) (l:=[]) (fun _ _ _ _=>rfl) hr hsm hg hw (by simp) τ
 exact⟨v',H',τ',r1,r2,r3⟩
theorem cu_mt (d:Nat):MeantOk (CR zH N (d+1)):=fun url _ ha _ hw τ=>zOg (CR zH N d) N url ha hw τ
theorem cu_m1 (d:Nat):zMn (CR zH N (d+2)):=fun hsm _ _ _ _ _ _ hw hr h1 h2 hu hb ha τ=>by
 obtain⟨H',τ',g,k⟩:=zNZ (CR zH N (d+1)) (N:=N) (by omega) (cu_get hN d) hsm hw hr h1 h2 hu hb ha τ
 exact⟨H',τ',g,fun q=>k q⟩
theorem cu_idx (d:Nat):zN3 (CR zH N (d+1)) (CR zH N d):=fun f fv _ _ hw hs hl v hr hf hP τ=>zHH (CR zH N d) (N:=N) (by omega) f fv hw hs hl v hr hf hP τ
theorem cu_del (d:Nat):DelC (CR zH N (d+2)) (CR zH N d) (CR zH N (d+1)):=fun f fv _ _ hw hs hl v hg hf' hf hP τ=>zGe (CR zH N (d+1)) (CR zH N d) (N:=N) (by omega) (cu_idx hN d) f fv hw hs hl v hg hf' hf hP τ
theorem cu_del0 (d:Nat):Del0C (CR zH N (d+1)):=fun hg hw hl hl' τ=>zII (CR zH N d) N hg hw hl hl' τ
theorem cu_u1 (d:Nat):Use1Ok (CR zH N (d+1)):=fun ha hx hr τ q=>zOt (CR zH N d) N ha hx hr τ q
theorem cu_use (d:Nat):UseOk (CR zH N (d+4)):=fun hc hw hl x hx h1 h2 h3 τ=>zMD (CR zH N (d+3)) (CR zH N (d+1)) (CR zH N (d+2)) N (cu_del hN (d+1)) (cu_u1 hN d) (cu_u1 hN (d+1)) hc hw hl x hx h1 h2 h3 τ
theorem cu_sto (d:Nat):StoOk (CR zH N (d+5)):=fun hc hw hl h0 h1 x hx h2 h3 h4 now τ=>zKn (CR zH N (d+4)) N (cu_use hN d) hc hw hl h0 h1 x hx h2 h3 h4 now τ
theorem cu_cop (d:Nat):CopOk (CR zH N (d+2)):=fun st hs hl bd hbl _ _ _ hw hr br bsr τ=>zOT (CR zH N (d+1)) N (fun hs hl v H hw hr hsr τ=>zFt (CR zH N d) N hs hl v H hw hr hsr τ) (fun hw hr hs hn τ=>zKu (CR zH N d) N hw hr hs hn τ) st hs hl bd hbl hw hr br bsr τ
theorem cu_fi (d:Nat):FiOk (CR zH N (d+3)):=fun hc hw hl hok url _ hsm _ ha τ=>zLq (CR zH N (d+2)) (N:=N) (by omega) (cu_mt hN (d+1)) (cu_m1 hN d) (cu_par hN (d+1)) hc hw hl hok url hsm ha τ
end
end Go.Am.X

namespace Go.Am.X
def keepU:Bs:=[107,101,101,112]
def uU (i:Nat):Bs:=117::dig i
def hsU:List Hd:=[([67,97,99,104,101,45,67,111,110,116,114,111,108],[109,97,120,45,97,103,101,61,57])]
theorem uU_run:((List.range 80).all fun i=>(List.range 80).all fun j=>!decide (uU i=uU j) || decide (i=j))=true:=by kernel_rfl
theorem uU_inj {i j:Nat}(hi:i<80)(hj:j<80)(h:uU i=uU j):i=j:=by
 have:=List.all_eq_true.1 (List.all_eq_true.1 uU_run i (List.mem_range.2 hi)) j (List.mem_range.2 hj)
 simp only[Bool.or_eq_true,Bool.not_eq_true',decide_eq_false_iff_not,decide_eq_true_eq]at this
 exact this.resolve_left fun k=>k h
theorem zRa (i:Nat):uU i≠keepU:=by
 unfold uU keepU
 intro h
 have:=(List.cons.inj h).1
 exact absurd this (by decide)
structure ComU (x:CRow):Prop where
 vs:x.vs=[]
 sto:x.sto=0
 bd:x.bd=[]
 st:x.st=200
def Kp (x:CRow):Prop:=x.url=keepU∧x.hs=hsU∧ComU x
def Up (j:Nat)(x:CRow):Prop:=x.url=uU j∧x.hs=[]∧ComU x
theorem zP4 {x:CRow}(h:x.vs=[])(url:Bs):zI2 url [] x=decide (x.url=url):=by unfold zI2;rw[h];simp
theorem step_no {url:Bs}{x:CRow}(h:x.vs=[])(hu:x.url≠url)(o:Option CRow):zMy url [] o x=o:=by
 unfold zMy
 rw[zP4 h,decide_eq_false hu,if_neg (by simp)]
theorem fold_no {url:Bs}:∀ (l:List CRow) (o:Option CRow),(∀ x ∈ l,x.vs=[]∧x.url≠url)→l.foldl (zMy url []) o=o:=by
 intro l
 induction l with
 | nil=>intro o _;rfl
 | cons x l ih=>intro o h;rw[List.foldl_cons,step_no (h x (by simp)).1 (h x (by simp)).2];exact ih o fun y hy=>h y (by simp[hy])
theorem find_one {url:Bs}{A B:List CRow}{k:CRow}(hk:k.vs=[]∧k.url=url)(hA:∀ x ∈ A++B,x.vs=[]∧x.url≠url):(A++k::B).foldl (zMy url []) none=some k:=by
 rw[List.foldl_append,List.foldl_cons,fold_no A none fun x hx=>hA x (by simp[hx])]
 have:zMy url [] none k=some k:=by unfold zMy;rw[zP4 hk.1,decide_eq_true hk.2,if_pos (by simp)]
 rw[this]
 exact fold_no B _ fun x hx=>hA x (by simp[hx])
structure InvU (i:Nat) (A:List CRow) (k:CRow) (B:List CRow):Prop where
 k:Kp k
 u:∀ x ∈ A++B,∃ j,j<i∧Up j x
 len:A.length+B.length≤15
theorem InvU.com {i:Nat}{A:List CRow}{k:CRow}{B:List CRow}(h:InvU i A k B):∀ x ∈ A++k::B,ComU x:=by
 intro x hx
 rcases List.mem_append.1 hx with hx | hx
 ·obtain⟨j,_,hj⟩:=h.u x (by simp[hx]);exact hj.2.2
 ·rcases List.mem_cons.1 hx with rfl | hx
  ·exact h.k.2.2
  ·obtain⟨j,_,hj⟩:=h.u x (by simp[hx]);exact hj.2.2
theorem InvU.put {i:Nat}{A:List CRow}{k:CRow}{B:List CRow}(h:InvU i A k B)(hi:i<80)(hB:B.length≤14){x:CRow}(hx:Up i x) :
  ∃ A',cutC ((A++k::B).filter fun r=>!zI2 (uU i) [] r)++[x]=A'++k::(B++[x])∧InvU (i+1) A' k (B++[x])∧∀ y ∈ A',y ∈ A:=by
 have hf:((A++k::B).filter fun r=>!zI2 (uU i) [] r)=A++k::B:=by
  rw[List.filter_eq_self]
  intro r hr
  rw[zP4 (h.com r hr).vs]
  have:r.url≠uU i:=by
   rcases List.mem_append.1 hr with hr | hr
   ·obtain⟨j,hj,e⟩:=h.u r (by simp[hr])
    intro e';rw[e.1]at e';have:=uU_inj (by omega) hi e';omega
   ·rcases List.mem_cons.1 hr with rfl | hr
    ·rw[h.k.1];exact(zRa i).symm
    ·obtain⟨j,hj,e⟩:=h.u r (by simp[hr])
     intro e';rw[e.1]at e';have:=uU_inj (by omega) hi e';omega
  rw[decide_eq_false this];rfl
 have hl:=h.len
 have hlen:(A++k::B).length=A.length+B.length+1:=by simp;omega
 rw[hf]
 unfold cutC
 by_cases h16:16≤(A++k::B).length
 ·rw[if_pos h16]
  have hA0:0<A.length:=by omega
  obtain⟨a,A',rfl⟩:=List.exists_cons_of_ne_nil (List.length_pos_iff.1 hA0)
  refine⟨A',by simp,⟨h.k,fun y hy=>?_,by simp at hl ⊢;omega⟩,fun y hy=>by simp[hy]⟩
  rcases List.mem_append.1 hy with hy | hy
  ·obtain⟨j,hj,e⟩:=h.u y (by simp[hy]);exact⟨j,by omega,e⟩
  ·rcases List.mem_append.1 hy with hy | hy
   ·obtain⟨j,hj,e⟩:=h.u y (by simp[hy]);exact⟨j,by omega,e⟩
   ·rw[List.mem_singleton.1 hy];exact⟨i,by omega,hx⟩
 ·rw[if_neg h16]
  refine⟨A,by simp,⟨h.k,fun y hy=>?_,by simp;omega⟩,fun y hy=>hy⟩
  rcases List.mem_append.1 hy with hy | hy
  ·obtain⟨j,hj,e⟩:=h.u y (by simp[hy]);exact⟨j,by omega,e⟩
  ·rcases List.mem_append.1 hy with hy | hy
   ·obtain⟨j,hj,e⟩:=h.u y (by simp[hy]);exact⟨j,by omega,e⟩
   ·rw[List.mem_singleton.1 hy];exact⟨i,by omega,hx⟩
theorem parse0:(zBk []).1=false∧(zBk []).2.1=false:=by constructor <;> kernel_rfl
theorem parseK:(zBk hsU).1=false:=by kernel_rfl
theorem fresh0:zLJ [] 0 0=false:=by kernel_rfl
theorem freshK:zLJ hsU 0 0=true:=by kernel_rfl
theorem age0:ageT [] 0 0=0:=by kernel_rfl
theorem ageK:ageT hsU 0 0=0:=by kernel_rfl
theorem vary0:(zBZ zNb []).contains [42]=false∧zGP []=[]:=by constructor <;> kernel_rfl
theorem varyK:(zBZ zNb hsU).contains [42]=false∧zGP hsU=[]:=by constructor <;> kernel_rfl
theorem selK:(sel etagN hsU).length=0∧(sel lastN hsU).length=0:=by constructor <;> kernel_rfl
theorem small0:Small []:=⟨by decide,fun h hh=>by simp at hh⟩
theorem smallK:Small hsU:=⟨by decide,fun h hh=>by
 rw[show h=hsU.head (by decide)from List.mem_singleton.1 hh]
 decide⟩
theorem id_ne {D:Nat→Prop}{H:Heap}{x y:CRow}(hx:RowM D H x)(hy:RowM D H y)(h:x.url≠y.url):x.id≠y.id:=by
 intro e
 have a:=hx.bx.bx.cells
 have b:=hy.bx.bx.cells
 rw[e,b]at a
 have:=(Option.some.inj a)
 unfold CRow.cells at this
 have e2:=V.str.inj (List.cons.inj this).1
 first | exact h e2 | exact h e2.symm
theorem use_mid {D:Nat→Prop}{H:Heap}{A B:List CRow}{k:CRow}(hk:RowM D H k)(hm:∀ x ∈ A++B,RowM D H x∧x.url≠k.url):useT k (A++k::B)=A++B++[k]:=by
 unfold useT
 congr 1
 rw[List.filter_append,List.filter_cons]
 have hA:(A.filter fun r=>!decide (k.id=r.id))=A:=List.filter_eq_self.2 fun r hr=>by
  have h:=hm r (by simp[hr])
  rw[decide_eq_false (id_ne hk h.1 (Ne.symm h.2))];rfl
 have hB:(B.filter fun r=>!decide (k.id=r.id))=B:=List.filter_eq_self.2 fun r hr=>by
  have h:=hm r (by simp[hr])
  rw[decide_eq_false (id_ne hk h.1 (Ne.symm h.2))];rfl
 rw[hA,hB]
 simp
end Go.Am.X

namespace Go.Am.X
theorem dig_loop17 (c:zC)(N:Nat)(H:Heap)(k:KC):∀ (f n:Nat) (acc:Bs) (m:Nat) (fr:T V) (τ:Tape),n<10 ^ f→n<4611686018427387904→(acc≠[]∨0<f)→acc.length<1000-f→f<100→f<m →
  fr.get 0=some (.int .i64 (n:Int))→fr.get 3=some (.str acc)→zAf (zB3 c N) m ⟨fr,H⟩ τ k=k (.exit 0) ⟨T.set .leaf 3 (.str (digF f n acc)),H⟩ τ:=by
 intro f
 induction f with
 | zero =>
  intro n acc m fr τ hn hb ha hl hf hm f0 f3
  obtain⟨m,rfl⟩:∃ j,m=j+1:=⟨m-1,by omega⟩
  have hn0:n=0:=by simpa using hn
  subst hn0
  have hac:acc≠[]:=by rcases ha with h | h;exact h;omega
  have e1:decide (Int.ofNat 0<((0:Nat):Int))=false:=rfl
  have e2:(acc ==([]:Bs))=false:=beq_eq_false_iff_ne.2 hac
  rw[zG]
  simp only[zB3,zA f0,zA f3,zAQ,e1,zC9,retK,zAP,zAq,zFi,e2,zJ,zP,cond_false,zAR,seqK,digF]
 | succ f ih =>
  intro n acc m fr τ hn hb ha hl hf hm f0 f3
  obtain⟨m,rfl⟩:∃ j,m=j+1:=⟨m-1,by omega⟩
  rw[zG]
  have step:(0<n∨acc=[])→zAf (zB3 c N) m ⟨(T.set (T.set (T.set (T.set (T.set .leaf 0 (.int .i64 (n:Int))) 3 (.str (UInt8.ofNat (48+n % 10)::acc))) 19 (.int .i64 (n:Int))) 20 (.int .i64 ((n / 10:Nat):Int))) 0 (.int .i64 ((n / 10:Nat):Int))),H⟩ τ k=k (.exit 0) ⟨T.set .leaf 3 (.str (digF (f+1) n acc)),H⟩ τ:=by
   intro h
   rw[ih (n / 10) (UInt8.ofNat (48+n % 10)::acc) m _ τ (by rw[Nat.pow_succ]at hn;omega) (by omega) (.inl (by simp)) (by simp;omega) (by omega) (by omega) (by simp[T.get_set]) (by simp[T.get_set])]
   have:(Nat.blt 0 n || acc.isEmpty)=true:=by
    rcases h with h | h
    ·have:Nat.blt 0 n=true:=by simp[Nat.blt];omega
     rw[this];rfl
    ·rw[h];simp
   simp only[digF,this,cond_true]
  have hr:(n:Int).tmod (Int.ofNat 10)=((n % 10:Nat):Int):=rfl
  have hq:(n:Int).tdiv (Int.ofNat 10)=((n / 10:Nat):Int):=rfl
  have e3:wr .i64 (((n % 10:Nat):Int)+Int.ofNat 1)=((n % 10+1:Nat):Int):=by
   rw[zEb (by simp;omega) (by simp;omega)];rfl
  have e4:wr .i64 ((n / 10:Nat):Int)=((n / 10:Nat):Int):=zEb (by omega) (by omega)
  have e5:zI4 .add [UInt8.ofNat (48+n % 10)] acc=some (.str (UInt8.ofNat (48+n % 10)::acc)):=str_add (by simp;omega)
  by_cases h0:0<n
  ·have e1:decide (Int.ofNat 0<(n:Int))=true:=decide_eq_true (by simp;omega)
   simp only[zB3,zA f0,zA f3,zAQ,e1,zCV,zJ,zP,cond_true,zBE]
   rw[zOm _ _ _ (by decide),hr,ze,e3,dig_slice _ (Nat.mod_lt _ (by omega)),zJ,zAq,e5,zJ,bin_quo _ _ _ (by decide),hq,e4]
   exact step (.inl h0)
  ·have hn0:n=0:=by omega
   subst hn0
   have e1:decide (Int.ofNat 0<((0:Nat):Int))=false:=rfl
   by_cases hac:acc=[]
   ·have e2:(acc ==([]:Bs))=true:=beq_iff_eq.2 hac
    simp only[zB3,zA f0,zA f3,zAQ,e1,zC9,retK,zAP,zAq,zFi,e2,zJ,zP,cond_false,zBE]
    rw[zOm _ _ _ (by decide),hr,ze,e3,dig_slice _ (Nat.mod_lt _ (by omega)),zJ,zAq,e5,zJ,bin_quo _ _ _ (by decide),hq,e4]
    exact step (.inr hac)
   ·have e2:(acc ==([]:Bs))=false:=beq_eq_false_iff_ne.2 hac
    have:(Nat.blt 0 0 || acc.isEmpty)=false:=by
     cases acc with
     | nil=>exact absurd rfl hac
     | cons x l=>rfl
    simp only[zB3,zA f0,zA f3,zAQ,e1,zC9,retK,zAP,zAq,zFi,e2,zJ,zP,cond_false,zAR,seqK,digF,this]
theorem zN0 (c:zC)(N:Nat)(hN:9223372036854775807≤N)(n:Nat)(hn:n<100000000)(H:Heap)(τ:Tape)(q:KV):zHp c N (.int .i64 (n:Int)) H τ q=q (.str (dig n)) H τ:=by
 simp only[zHp]
 rw[dig_loop17 c N H _ 8 n [] N _ τ (by omega) (by omega) (.inr (by omega)) (by simp) (by omega) (by omega) (by simp[T.get_set]) (by simp[T.get_set])]
 simp only[zY,Nat.beq_refl,cond_true,seqK,zKQ,zT,↓reduceIte]
 rfl
end Go.Am.X

