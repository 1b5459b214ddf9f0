/- The abstract machine, printed functions of the program, and what they are shown to be. -/
import Derived.Test.YtejpgcemblankaaGreatDoorCKPL9
import Derived.Test.YtejpgcemblankaaGreatDoorCKPM4
set_option linter.unusedSimpArgs false
set_option linter.unusedVariables false
set_option linter.unusedSectionVars false
set_option maxRecDepth 100000
namespace Go.Am.X
set_option maxHeartbeats 1000000
structure KCst (lb:List Nat) (Hs:Heap) (K c xi:Nat) (L:Lab) (H:Heap) (its:List ItZ) (r:Nat) (x:CRow) (P D:Nat->Prop) (puts:Int):Prop where
 wf:WF H
 b1:zGP 1 (selL 1 L) H K its
 cm:CacM P D H c [x] puts
 rk:RowK lb x
 xid:x.id=xi
 pu:0<=puts/\puts<=100+r
 g:∀ it ∈ its,zSy it.cs it.n
 k:∀ it ∈ its,it.key<2*r
 l:its.length<=2*r
 lz:∀ i,i<Hs.size->L i=(0,0)
 lc:L c=(0,0)
 lx:L xi=(0,0)
 lp:∀ i,P i∨D i->L i=(0,0)
 pd:∀ i,i<Hs.size->¬ P i/\¬ D i
 gr:Gr Hs.size Hs H
theorem zIH (cc:zD){N:Nat}(hN:9223372036854775807<N)(hF:FndOkR cc)(hR:RenOkR cc)(hFm:∀ H Z q,cc zAc [.int .i64 0,.int .i64 (.ofNat 10)] H Z q=q (.str [48]) H Z)(hK:KeepZ cc zAq 1 zSy)
  {lb:List Nat} (hb:lb.length<=100) {Hs:Heap} {K c xi:Nat} (hc:Hs.size<=c) (hxi:Hs.size<=xi) {L:Lab} {H:Heap} {its:List ItZ} {r:Nat} (hr:r<2) {x:CRow} {P D:Nat->Prop} {puts:Int} (h:KCst lb Hs K c xi L H its r x P D puts) (Z:Tape) :
  ∃ L' H' its' Z' x' P' D',KCst lb Hs K c xi L' H' its' (r+1) x' P' D' (puts+1)/\∀ (fr:T V) k,fr.get 3=some (.ptr c 0)->fr.get 4=some (.ptr K 0)->fr.get 5=some (.int .i64 (r:Int)) ->
   zEe cc N ⟨fr,H⟩ Z k=k .normal ⟨(T.s (T.s (T.s (T.s (T.s (T.s .leaf 3 (.ptr c 0)) 4 (.ptr K 0)) 5 (.int .i64 (r:Int))) 26 (.int .i64 (r:Int))) 27 (.int .i64 ((r+1:Nat):Int))) 5 (.int .i64 ((r+1:Nat):Int))),H'⟩ Z':=by
 have lw:(ws .u8 lb).length=lb.length:=zSe _ _
 have hw:=h.wf
 have hsz:=h.gr.size
 have xb:=(h.cm.mem x (by simp)).bx.bx
 have hxl:x.id<H.size:=xb.lt hw
 have hcl:c<H.size:=by obtain⟨v,h1,_⟩:=h.cm.bx;exact h1.lt hw
 have ex:=h.xid
 have hn:zPz [117] [] [x]=some x:=by have:=find1 (x:=x) h.rk.vs;rwa [h.rk.url]at this
 have hpr:=h.cm.pr x (by simp)
 have ok:∀ r ∈ [x],OkVs r:=fun r hr=>by rw[List.mem_singleton.1 hr];exact⟨by rw[h.rk.vs];simp,by rw[h.rk.vs];simp⟩
 obtain⟨P1,H1,Z1,hvF,bvF,nh,ch,c1,p1,_,hb1,q1,k1⟩:=hF (E:=fun _=>False) h.cm hw (by simp) ok [117] small0 (av:=.nils) (fun i h=>h.elim) (DatP.nil _ _ _) hn (by rw[h.rk.hs];exact small5) (by rw[h.rk.hs];simp[hs5,hsM]) (by rw[h.rk.hs];simp[hs5,hsM]) (by rw[h.rk.bd,lw];omega) (by rw[h.rk.hs];exact(selM _).1) (by rw[h.rk.hs];exact(selM _).2)
  (now:=0) (by unfold InI zLM zD4;omega) (by rw[h.rk.sto];unfold InI zLM zD4;omega) (s:=[48]) (by decide) (fun H' hch Z q=>by rw[h.rk.hs,h.rk.sto,age5];exact hFm H' Z q) Z
 have eu:useT x [x]=[x]:=by simp[useT]
 have ef:zOJ [] x 0=true:=by unfold zOJ;rw[h.rk.hs,h.rk.sto,fresh5,parse0.2];rfl
 rw[eu]at c1
 rw[h.rk.bd,lw]at hb1
 rw[ef,if_pos rfl,h.rk.st]at k1
 have sF:=hb1.scal
 obtain⟨p,q,nhl,m1,m2,m3,m4,m5⟩:=hb1
 have sFb:=m4.scal
 have z1:=q1.size
 obtain⟨H2,H3,n1,n2,n3,n4,n5⟩:=newvC q1.wf [(.int .i64 (.ofNat 0)),(.int .i64 (.ofNat 0)),.nils,.nils,.nils] (.agg [.int .i64 2,.int .i64 200,hvF,bvF,.nils]) 5 rfl rfl (by omega) (by show(true && (true && (hvF.scal && (bvF.scal && (true && true)))))=true;rw[sF.2,sFb.2];rfl) Z1
 replace n3:Bx H3 H1.size [.int .i64 2,.int .i64 200,hvF,bvF,.nils]:=n3
 have c3:=c1.gr q1.wf n4
 obtain⟨P4,D4,H4,Z4,hvR,bvR,y,c4,⟨y1,y2,y3,y4,y5,y6,y7,y8⟩,p4,p4d,_,hb4,q4,k4⟩:=hR (E:=fun _=>False) c3 n4.wf (by simp) ok h.pu.1 (by have:=h.pu.2;omega) [117] (ask:=[]) (hs2:=[]) small0 small0 (av:=.nils) (hv2:=.nils) (bv2:=.nils) ⟨(DatP.nil (fun _=>False) H3 2).rd,trivial⟩ 0
  (fun i h=>h.elim) (DatP.nil _ _ _) hn (by rw[h.rk.hs];simp[hs5,hsM]) (by rw[h.rk.hs];simp[hs5,hsM]) (by rw[h.rk.bd,lw];omega)
  (fun pre l e=>by
   have e0:pre=[]:=by
    have:zNw nm4 []=[]:=by kernel_rfl
    rw[this]at e
    exact(List.append_eq_nil_iff.1 e.symm).1
   subst e0
   rw[h.rk.hs,drop5]
   exact⟨by simp[zJZ,hs5,hsM],by simp[zJZ,hs5,hsM]⟩) 0 Z1
 have ey:([x].filter fun r=>!decide (x.id=r.id))++[y]=[y]:=by simp
 rw[ey]at c4
 rw[h.rk.hs,ren5]at y4 hb4
 rw[h.rk.bd,lw]at hb4
 rw[h.rk.st]at k4
 have sR:=hb4.scal
 obtain⟨s,t,nhl4,u1,u2,u3,u4,u5⟩:=hb4
 have sRb:=u4.scal
 have z4:=q4.size
 obtain⟨H5,H6,o1,o2,o3,o4,o5⟩:=newvC q4.wf [(.int .i64 (.ofNat 0)),.nils,.nils] (.agg [.int .i64 200,hvR,bvR]) 3 rfl rfl (by omega) (by show(true && (hvR.scal && (bvR.scal && true)))=true;rw[sR.2,sRb.2];rfl) Z4
 replace o3:Bx H6 H4.size [.int .i64 200,hvR,bvR]:=o3
 let Q:Nat->Prop:=fun i=>P i∨i=c∨i=x.id
 have q06:Chg Q H H6:=(((q1.weaken (Q:=Q) fun i _ h=>h.elim .inl (fun h=>.inr (.inl h))).trans (n4.chg (P:=fun _=>False)) fun _ _ h=>h.elim).trans q4 fun i hi h=>h.elim (fun h=>.inl (p1 i hi h)) .inr).trans (o4.chg (P:=fun _=>False)) fun _ _ h=>h.elim
 have lQ:∀ i,Q i->L i=(0,0):=fun i h'=>h'.elim (fun e=>h.lp i (.inl e)) (fun e=>e.elim (fun e=>by rw[e];exact h.lc) (fun e=>by rw[e,ex];exact h.lx))
 generalize hL1:labK L H.size p q s t r=L1
 have l1t:∀ i,i<H.size->L1 i=L i:=fun i hi=>by rw[<- hL1];exact labK_lt hi
 have B6:zGP 1 (selL 1 L1) H6 K its:=h.b1.chg hw q06 (fun i _ hq=>sel_0K (lQ i hq)) fun i hi=>selL_eq (l1t i hi)
 have nP1:∀ i,p<=i->i<q->¬(P1 i∨i=c∨i=x.id):=fun i a b k=>k.elim (m3 i a b).1 (fun e=>by omega)
 have bF6:BodP (fun i=>p<=i/\i<q) H6 bvF lb.length (ws .u8 lb):=((m4.chg q1.wf (n4.chg (P:=fun _=>False)) (fun _ _ _=>not_false)).chg n4.wf q4 (fun i _ a=>nP1 i a.1 a.2)).chg q4.wf (o4.chg (P:=fun _=>False)) (fun _ _ _=>not_false)
 have bR6:BodP (fun i=>s<=i/\i<t) H6 bvR lb.length (ws .u8 lb):=u4.chg q4.wf (o4.chg (P:=fun _=>False)) (fun _ _ _=>not_false)
 obtain⟨cap1,rz1,hc1⟩:=bF6.roomZ
 have X1:LstZ L1 1 (2*r) H6 bvF 1 cap1 lb.length (ws .u8 lb):=⟨rz1.weaken o4.wf (fun i _ hp=>by rw[<- hL1];exact labK_1 (by omega) hp.1 hp.2),by simp[ws],bF6.rd.pLen,hc1⟩
 obtain⟨cap2,rz2,hc2⟩:=bR6.roomZ
 have X2:LstZ L1 1 (2*r+1) H6 bvR 1 cap2 lb.length (ws .u8 lb):=⟨rz2.weaken o4.wf (fun i _ hp=>by rw[<- hL1];exact labK_2 (by omega) (by omega) hp.1 hp.2),by simp[ws],bR6.rd.pLen,hc2⟩
 have good:zSy (ws .u8 lb) lb.length:=⟨lb,rfl,rfl,by omega⟩
 obtain⟨its1,H7,Z7,L2,f1,f2,f3,f4,f5,f6⟩:=hK L1 1 K its H6 bvF cap1 lb.length (ws .u8 lb) (2*r) o4.wf B6 (fun hm=>by
  obtain⟨it,hit,e⟩:=List.mem_map.1 hm
  have:=h.k it hit;omega) X1 (ws_scalK lb) (by omega) (by have:=h.l;omega) h.g good Z4
 have z7:=f4.size
 have X2':=X2.kept o4.wf f4 f5
 have kk1:∀ it ∈ its1,it.key<2*r+1:=fun it hit=>by
  rcases f2 it hit with e | ⟨e,_⟩
  ·have:=h.k it e;omega
  ·omega
 have gg1:∀ it ∈ its1,zSy it.cs it.n:=fun it hit=>by
  rcases f2 it hit with e | ⟨_,e2,e3⟩
  ·exact h.g it e
  ·rw[e2,e3];exact good
 obtain⟨its2,H8,Z8,L3,v1,v2,v3,v4,v5,v6⟩:=hK L2 1 K its1 H7 bvR cap2 lb.length (ws .u8 lb) (2*r+1) f4.wf f1 (fun hm=>by
  obtain⟨it,hit,e⟩:=List.mem_map.1 hm
  have:=kk1 it hit;omega) X2' (ws_scalK lb) (by omega) (by have:=h.l;omega) gg1 good Z7
 have z8:=v4.size
 have l2:∀ i,i<H6.size->L1 i=(0,0)->L2 i=(0,0):=fun i hi e=>by rw[f5 i hi];exact e
 have l3:∀ i,i<H6.size->L1 i=(0,0)->L3 i=(0,0):=fun i hi e=>by rw[v5 i (by omega)];exact l2 i hi e
 have lP4:∀ i,P4 i∨D4 i->L1 i=(0,0):=fun i hi=>by
  by_cases a:i<H.size
  ·rw[l1t i a]
   exact h.lp i (hi.elim (fun e=>.inl (p1 i a (p4 i (by omega) e))) (fun e=>.inr (p4d i (by omega) e)))
  ·rw[<- hL1]
   refine labK_0 (by omega) (fun k=>?_) (fun k=>?_)
   ·rcases hi with e | e
    ·exact(m3 i k.1 k.2).1 (p4 i (by omega) e)
    ·exact(m3 i k.1 k.2).2 (p4d i (by omega) e)
   ·exact hi.elim (u3 i k.1 k.2).1 (u3 i k.1 k.2).2
 have lc1:L1 c=(0,0):=by rw[l1t c hcl];exact h.lc
 have lx1:L1 x.id=(0,0):=by rw[l1t _ hxl,ex];exact h.lx
 have lv1:L1 H1.size=(0,0):=by rw[<- hL1];exact labK_0 (by omega) (fun k=>by omega) (fun k=>by omega)
 have lv4:L1 H4.size=(0,0):=by rw[<- hL1];exact labK_0 (by omega) (fun k=>by omega) (fun k=>by omega)
 have szP:∀ i,P4 i∨D4 i->i<H6.size:=fun i hi=>by have:=hi.elim (c4.pl i) (c4.dl i);omega
 have x6:=n3.chg n4.wf q4 (show ¬(P1 H1.size∨H1.size=c∨H1.size=x.id)from fun k=>k.elim (fun e=>Nat.lt_irrefl _ (c1.pl _ e)) (fun e=>by omega))
 replace x6:Bx H6 H1.size [.int .i64 2,.int .i64 200,hvF,bvF,.nils]:=zEn x6 q4.wf o4
 have x7:=x6.chg o4.wf f4 (zJc lv1)
 have x8:=x7.chg f4.wf v4 (zJc (l2 _ (by omega) lv1))
 have r7:=o3.chg o4.wf f4 (zJc lv4)
 have r8:=r7.chg f4.wf v4 (zJc (l2 _ (by omega) lv4))
 have c6:=c4.gr q4.wf o4
 have eyi:y.id=x.id:=y8
 have nc6:∀ {M:Lab},(∀ i,i<H6.size->L1 i=(0,0)->M i=(0,0))->(∀ i,P4 i->¬ OfB M 1 i)/\(∀ i,D4 i->¬ OfB M 1 i)/\¬ OfB M 1 c/\∀ r ∈ [y],¬ OfB M 1 r.id:=fun {M} hM =>
  ⟨fun i e=>zJc (hM i (szP i (.inl e)) (lP4 i (.inl e))),fun i e=>zJc (hM i (szP i (.inr e)) (lP4 i (.inr e))),zJc (hM c (by omega) lc1),fun r hr=>by rw[List.mem_singleton.1 hr,eyi];exact zJc (hM _ (by omega) lx1)⟩
 obtain⟨a1,a2,a3,a4⟩:=nc6 (M:=L1) (fun _ _ e=>e)
 have c7:=c6.chgQ o4.wf f4 a1 a2 a3 a4
 obtain⟨b1,b2,b3,b4⟩:=nc6 (M:=L2) l2
 have c8:=c7.chgQ f4.wf v4 b1 b2 b3 b4
 let WF':Nat->Prop:=fun i=>H.size<=i/\i<H1.size/\¬ P1 i/\¬ D i/\¬(p<=i/\i<q)
 let WR:Nat->Prop:=fun i=>H3.size<=i/\i<H4.size/\¬ P4 i/\¬ D4 i/\¬(s<=i/\i<t)
 have lWF:∀ i,WF' i->L1 i=(0,0):=fun i e=>by rw[<- hL1];exact labK_0 e.1 e.2.2.2.2 (fun k=>by have:=e.2.1;omega)
 have lWR:∀ i,WR i->L1 i=(0,0):=fun i e=>by rw[<- hL1];exact labK_0 (by have:=e.1;omega) (fun k=>by have:=e.1;omega) e.2.2.2.2
 have hF6:GenL WF' H6 2 hvF nh ch:=(((m5.gr q1.wf n4).chg n4.wf q4 (fun i _ e k=>k.elim e.2.2.1 (fun k=>by have:=e.1;omega)))).gr q4.wf o4
 have hF8:GenL WF' H8 2 hvF nh ch:=(hF6.chg o4.wf f4 (fun i hi e=>zJc (lWF i e))).chg f4.wf v4 (fun i hi e=>zJc (l2 i (by have:=e.2.1;omega) (lWF i e)))
 have hR8:GenL WR H8 2 hvR _ _:=((u5.gr q4.wf o4).chg o4.wf f4 (fun i hi e=>zJc (lWR i e))).chg f4.wf v4 (fun i hi e=>zJc (l2 i (by have:=e.2.1;omega) (lWR i e)))
 obtain⟨H9,d1,d2,d3⟩:=l_law17_CK5 cc N (va:=H1.size) (P:=WF') (fun e=>by have:=e.2.1;omega) nhl (.ptr c 0) (.ptr K 0) (.int .i64 (r:Int)) (.ptr H4.size 0) nh 0 _ H8 Z8 N (by omega) (by omega) v4.wf x8 hF8
 have r9:=r8.chg v4.wf d1 (show ¬ WF' H4.size from fun e=>by have:=e.2.1;omega)
 have hR9:=hR8.chg v4.wf d1 (fun i _ a b=>by have:=a.1;have:=b.2.1;omega)
 obtain⟨H10,w1,w2,w3⟩:=l_law17_CK4 cc N (vb:=H4.size) (P:=WR) (fun e=>by have:=e.2.1;omega) nhl4 (.ptr c 0) (.ptr K 0) (.int .i64 (r:Int)) _ 0 _ H9 Z8 N (Nat.zero_add _) (by omega) d1.wf r9 hR9
 have b9:zGP 1 (selL 1 L3) H9 K its2:=v1.chg v4.wf d1 (fun i _ hq=>sel_0K (l3 i (by have:=hq.2.1;omega) (lWF i hq))) (fun _ _=>rfl)
 have b10:zGP 1 (selL 1 L3) H10 K its2:=b9.chg d1.wf w1 (fun i _ hq=>sel_0K (l3 i (by have:=hq.2.1;omega) (lWR i hq))) (fun _ _=>rfl)
 have c9:=c8.chgQ v4.wf d1 (fun i e k=>k.2.2.1 (p4 i (by have:=k.2.1;omega) e)) (fun i e k=>k.2.2.2.1 (p4d i (by have:=k.2.1;omega) e)) (fun k=>by have:=k.1;omega) (fun r hr k=>by rw[List.mem_singleton.1 hr,eyi]at k;have:=k.1;omega)
 have c10:=c9.chgQ d1.wf w1 (fun i e k=>k.2.2.1 e) (fun i e k=>k.2.2.2.1 e) (fun k=>by have:=k.1;omega) (fun r hr k=>by rw[List.mem_singleton.1 hr,eyi]at k;have:=k.1;omega)
 have g06:Gr Hs.size Hs H6:=h.gr.trans (q06.gr (B:=Hs.size) hsz fun i hi k=>k.elim (fun e=>(h.pd i hi).1 e) (fun e=>by omega)) nl
 have zL1:∀ i,i<Hs.size->L1 i=(0,0):=fun i hi=>by rw[l1t i (by omega)];exact h.lz i hi
 have zL2:∀ i,i<Hs.size->L2 i=(0,0):=fun i hi=>l2 i (by omega) (zL1 i hi)
 have g07:=g06.trans (Of.gr (OfB.of f4) (B:=Hs.size) (by omega) zL1) nl
 have g08:=g07.trans (Of.gr (OfB.of v4) (B:=Hs.size) (by omega) zL2) nl
 have g09:=g08.trans (d1.gr (B:=Hs.size) (by omega) (fun i hi hq=>by have:=hq.1;omega)) nl
 have g10:=g09.trans (w1.gr (B:=Hs.size) (by omega) (fun i hi hq=>by have:=hq.1;omega)) nl
 refine⟨L3,H10,its2,Z8,y,P4,D4,⟨w1.wf,b10,c10,⟨y1.trans h.rk.url,y2.trans h.rk.vs,y3.trans h.rk.st,y4,y5.trans h.rk.bd,y6⟩,eyi.trans ex,⟨by have:=h.pu.1;omega,by have:=h.pu.2;omega⟩,fun it hit=>?_,fun it hit=>?_,by have:=h.l;omega,fun i hi=>l3 i (by omega) (zL1 i hi),l3 c (by omega) lc1,by rw[<- ex];exact l3 _ (by omega) lx1,fun i e=>l3 i (szP i e) (lP4 i e),fun i hi=>⟨fun e=>(h.pd i hi).1 (p1 i (by omega) (p4 i (by omega) e)),fun e=>(h.pd i hi).2 (p4d i (by omega) e)⟩,g10⟩,fun fr k i3 i4 i5=>?_⟩
 ·rcases v2 it hit with e | ⟨_,e2,e3⟩
  ·exact gg1 it e
  ·rw[e2,e3];exact good
 ·rcases v2 it hit with e | ⟨e,_⟩
  ·have:=kk1 it e;omega
  ·omega
 ·have e0:decide ((r:Int)<Int.ofNat 2)=true:=decide_eq_true (by have:Int.ofNat 2=2:=rfl;omega)
  have e9:wr .i64 ((r:Int)+Int.ofNat 1)=((r+1:Nat):Int):=adI (by omega)
  have pb:zFA [(.int .i64 (.ofNat 0)),.nils,.nils] [] []=some (.agg [.int .i64 0,.nils,.nils]):=rfl
  have k1':∀ q,cc zB7 [.ptr c 0,.str (bs [117]),.nils,.int .i64 (.ofNat 0)] H Z q=q (.agg [.int .i64 2,.int .i64 200,hvF,bvF,.nils]) H1 Z1:=k1
  have k4':∀ q,cc zDT [.ptr c 0,.str (bs [117]),.nils,.agg [.int .i64 0,.nils,.nils],.int .i64 (.ofNat 0)] H3 Z1 q=q (.tup [.agg [.int .i64 200,hvR,bvR],.bool true]) H4 Z4:=k4
  have ex0:∀ a b,zG 0 [.tup [a,b]]=some a:=fun _ _=>rfl
  have ex1:∀ a b,zG 1 [.tup [a,b]]=some b:=fun _ _=>rfl
  have t1:zH [.ptr H1.size (0+1+2)] H6=some bvF:=zN x6.cells rfl
  have t2:zH [.ptr H4.size (0+2)] H7=some bvR:=zN r7.cells rfl
  simp only[zEe,zA i3,zA i4,zA i5,zL,e0,zM,k1',n1,n2,zT,pb,zI,k4',ex0,ex1,o1,o2,fa_ptr,t1,f6,t2,v6]
  rw[d3 _ _ (by simp[T.get_set]) (by simp[T.get_set]) (by simp[T.get_set]) (by simp[T.get_set]) (by simp[T.get_set]) (by simp[T.get_set])]
  simp only[zU,Nat.beq_refl,cond_true,seqK,zJ3,zO,↓reduceIte,Nat.reduceEqDiff,zI,zT,retK,zBE,zAr,zq,zo,zAH,zQ,cond_true,cond_false,zM,zK,zZ,zAE,zL,zAB,ze,zAC,zAN,Bool.not_true,Bool.not_false,zw,za,zE5,zEz,zE0,zE4,zE6,zE2,zEa,zEp,zEx,zE3,ext0,ext1,zEw,zEy,zE1,zS,zAK,decide_true,decide_false]
  rw[w3 _ _ (by simp[T.get_set]) (by simp[T.get_set]) (by simp[T.get_set]) (by simp[T.get_set]) (by simp[T.get_set])]
  simp only[zU,Nat.beq_refl,cond_true,seqK,zGs,zO,↓reduceIte,Nat.reduceEqDiff,zI,zT,retK,zBE,zAr,zq,zo,zAH,zQ,cond_true,cond_false,zM,zK,zZ,zAE,zL,zAB,ze,zAC,zAN,Bool.not_true,Bool.not_false,zw,za,zE5,zEz,zE0,zE4,zE6,zE2,zEa,zEp,zEx,zE3,ext0,ext1,zEw,zEy,zE1,zS,zAK,decide_true,decide_false,e9]
end Go.Am.X

namespace Go.Am.X
set_option maxHeartbeats 1000000
theorem zN9 (cc c0:zD){N:Nat}(hN:9223372036854775807<N)(hNew:NewOkU cc)(hCc:CcOkU cc)(hPut:PutOkR cc)(hF:FndOkR cc)(hR:RenOkR cc)(hFm:∀ H Z q,cc zAc [.int .i64 0,.int .i64 (.ofNat 10)] H Z q=q (.str [48]) H Z)(hK:KeepZ cc zAq 1 zSy)(hA:ApartZ cc zBn 1 zF8 zSy)
  (hFew:∀ v k H Z q,cc zF5 [v,k] H Z q=zEm c0 N v k H Z q) (hKn:∀ H Z q,cc zHz [] H Z q=q (.bool true) H Z)
  (la:List Nat) {v:V} {H:Heap} (hw:WF H) (hr:Rd H 1 v la.length (ws .u8 la)) (hs:Src H v) (hro:Roomy v) (Z:Tape) :
  ∃ H' Z',Gr H.size H H'/\∀ q,zGb cc N v H Z q=q (.bool true) H' Z':=by
 obtain⟨H1,c1,g1,z1,k1⟩:=hNew hw Z
 obtain⟨bv,w1,w2,w3,w4⟩:=fewC_ret c0 N v la.length 100 (ws .u8 la) (by omega) (by omega) H hro hr
 rw[ws_takeC,show min la.length 100=(la.take 100).length by rw[List.length_take,Nat.min_comm]]at w3
 generalize hlb:la.take 100=lb at w3
 have hl100:lb.length<=100:=by rw[<- hlb,List.length_take];omega
 have rb:=w3 H hr
 have sb:=w2 H hs
 have lw:(ws .u8 lb).length=lb.length:=zSe _ _
 have kb:∀ q,cc zF5 [v,.int .i64 (.ofNat 100)] H1 Z q=q bv H1 Z:=fun q=>by rw[hFew];exact w4 H1 Z q
 have en:lPeq false [.ptr H.size 0,.nilp] H1=some (.bool false):=rfl
 have hbc:=body_cells rb
 have pb1:∀ id,zFA [(.int .i64 (.ofNat 0)),.nils,.nils] [(0,1),(2,1),(1,1)] [(.int .i64 (.ofNat 200)),bv,.sl id 0 1 1 none 2]=some (.agg [.int .i64 (.ofNat 200),.sl id 0 1 1 none 2,bv]):=by
  intro id
  rcases hbc with rfl | ⟨_,_,_,_,rfl⟩ <;> rfl
 have kc:=fun q=>hCc (bs [109,97,120,45,97,103,101,61,53]) H1 Z q
 have g2:=Gr.new g1.wf [.str ccN,.str (bs [109,97,120,45,97,103,101,61,53])] 2 false
 have d2:=datM (H:=H1) [53] (s:=bs [109,97,120,45,97,103,101,61,53]) rfl
 have z2:(H1.new [.str ccN,.str (bs [109,97,120,45,97,103,101,61,53])] 2 false).size=H1.size+1:=rfl
 generalize H1.new [.str ccN,.str (bs [109,97,120,45,97,103,101,61,53])] 2 false=H2 at kc g2 d2 z2
 have c2:=c1.gr g1.wf g2
 have g12:=g1.trans g2 g1.size
 have db:=(DatP.any hw rb sb).gr hw g12
 obtain⟨P,D,H3,Z3,x,c3,⟨x1,x2,x3,x4,x5,x6,x7,x8⟩,p3,p3d,q3,k3⟩:=hPut (E:=fun i=>i=H1.size∨i<H.size) c2 g2.wf (by simp) (fun r hr=>by simp at hr) (by omega) (by omega) [117] small0 small5 (by simp[hs5,hsM]) (ws .u8 lb) (by rw[lw];omega) (av:=.nils) (hv:=.sl H1.size 0 1 1 none 2) (bv:=bv)
  (fun i hi=>⟨by omega,fun h=>h,by omega⟩) (DatP.nil _ _ _) (d2.weaken g2.wf fun i _ h=>.inl h) (by rw[lw];exact db.weaken g2.wf fun i _ h=>.inr h) parse5 parse0.1 (varyM [53]).1 (by rw[show zGL hs5=[]from(varyM [53]).2];simp) (by rw[show zGL hs5=[]from(varyM [53]).2];simp) 0 Z
 rw[show zGL hs5=[]from(varyM [53]).2]at x2
 have er:cutC (([]:List CRow).filter fun r=>!zM6 [117] [] r)++[x]=[x]:=rfl
 rw[er]at c3
 have z3:=q3.size
 have g23:Gr H.size H2 H3:=q3.gr (by omega) fun i hi h=>h.elim (fun h=>h) (fun e=>by omega)
 have g3:Gr H.size H H3:=g12.trans g23 nl
 have hxl:x.id<H3.size:=(c3.mem x (by simp)).bx.bx.lt q3.wf
 have k3':∀ q,cc zEl [.ptr H.size 0,.str (bs [117]),.nils,.agg [.int .i64 (.ofNat 200),.sl H1.size 0 1 1 none 2,bv],.int .i64 (.ofNat 0)] H2 Z q=q (.bool true) H3 Z3:=k3
 have a4:zB6 [.nils,.nils,(.int .i64 (.ofNat 0)),(.bool false)] [] H3 Z3=some (.ptr H3.size 0,H3.new [.nils,.nils,.int .i64 ((0:Nat):Int),.bool false] 4 true,Z3):=rfl
 have g34:=Gr.new q3.wf [.nils,.nils,.int .i64 ((0:Nat):Int),.bool false] 4 true
 have B4:=zGP.newL 1 1 H3 (fun _=>(0,0))
 generalize H3.new [.nils,.nils,.int .i64 ((0:Nat):Int),.bool false] 4 true=H4 at a4 g34 B4
 have l0:∀ i,i<H3.size->labN (fun _=>(0,0)) H3.size 1 1 i=(0,0):=fun i hi=>labN_lt _ _ _ hi
 have k0:KCst lb H H3.size H.size x.id (labN (fun _=>(0,0)) H3.size 1 1) H4 [] 0 x P D (0+1) :=
  ⟨g34.wf,B4,c3.gr q3.wf g34,⟨x1,x2,x3,x4,x5,x6⟩,rfl,⟨by omega,by omega⟩,by simp,by simp,by simp,fun i hi=>l0 i (by omega),l0 _ (by omega),l0 _ hxl,fun i h=>l0 i (h.elim (c3.pl i) (c3.dl i)),fun i hi=>⟨fun h=>p3 i (by omega) h,fun h=>p3d i (by omega) h⟩,g3.trans g34 g3.size⟩
 obtain⟨La,Ha,ia,τa,xa,Pa,Da,ka,ra⟩:=zIH cc hN hF hR hFm hK hl100 nl (by omega) (by omega) k0 Z3
 obtain⟨Lb,Hb,ib,τb,xb,Pb,Db,kb2,rb2⟩:=zIH cc hN hF hR hFm hK hl100 nl (by omega) (by omega) ka τa
 have cb:=kb2.cm
 have hcl:H.size<Hb.size:=by obtain⟨v,h1,_⟩:=cb.bx;exact h1.lt kb2.wf
 have hn:zPz [117] [] [xb]=some xb:=by have:=find1 (x:=xb) kb2.rk.vs;rwa [kb2.rk.url]at this
 obtain⟨P5,H5,Z5,hvF,bvF,nh,ch,c5,p5,b5,hb5,q5,k5⟩:=hF (E:=fun _=>False) cb kb2.wf (by simp) (fun r hr=>by rw[List.mem_singleton.1 hr];exact⟨by rw[kb2.rk.vs];simp,by rw[kb2.rk.vs];simp⟩) [117] small0 (av:=.nils) (fun i h=>h.elim) (DatP.nil _ _ _) hn (by rw[kb2.rk.hs];exact small5) (by rw[kb2.rk.hs];simp[hs5,hsM]) (by rw[kb2.rk.hs];simp[hs5,hsM]) (by rw[kb2.rk.bd,lw];omega) (by rw[kb2.rk.hs];exact(selM _).1) (by rw[kb2.rk.hs];exact(selM _).2)
  (now:=0) (by unfold InI zLM zD4;omega) (by rw[kb2.rk.sto];unfold InI zLM zD4;omega) (s:=[48]) (by decide) (fun H' hch Z q=>by rw[kb2.rk.hs,kb2.rk.sto,age5];exact hFm H' Z q) τb
 have ef:zOJ [] xb 0=true:=by unfold zOJ;rw[kb2.rk.hs,kb2.rk.sto,fresh5,parse0.2];rfl
 rw[ef,if_pos rfl]at k5
 have k5':∀ q,cc zB7 [.ptr H.size 0,.str (bs [117]),.nils,.int .i64 (.ofNat 0)] Hb τb q=q (.agg [.int .i64 2,.int .i64 xb.st,hvF,bvF,.nils]) H5 Z5:=k5
 have sF:=hb5.scal
 have sB:=b5.scal
 obtain⟨H6,H7,n1,n2,n3,n4,n5⟩:=newvC q5.wf [(.int .i64 (.ofNat 0)),(.int .i64 (.ofNat 0)),.nils,.nils,.nils] (.agg [.int .i64 2,.int .i64 xb.st,hvF,bvF,.nils]) 5 rfl rfl (by omega) (by show(true && (true && (hvF.scal && (bvF.scal && (true && true)))))=true;rw[sF.2,sB.2];rfl) Z5
 replace n3:Bx H7 H5.size [.int .i64 2,.int .i64 xb.st,hvF,bvF,.nils]:=n3
 have q7:Chg (fun i=>Pb i∨i=H.size) Hb H7:=q5.trans (n4.chg (P:=fun _=>False)) fun _ _ h=>h.elim
 have z5:=q5.size
 generalize hL7:(fun i=>if i<Hb.size then Lb i else((0,0):Nat × Nat))=L7
 have l7t:∀ i,i<Hb.size->L7 i=Lb i:=fun i hi=>by rw[<- hL7];exact if_pos hi
 have l7n:∀ i,Hb.size<=i->L7 i=(0,0):=fun i hi=>by rw[<- hL7];exact if_neg (by omega)
 have B7:zGP 1 (selL 1 L7) H7 H3.size ib:=kb2.b1.chg kb2.wf q7 (fun i _ hq=>sel_0K (hq.elim (fun e=>kb2.lp i (.inl e)) (fun e=>by rw[e];exact kb2.lc))) fun i hi=>selL_eq (l7t i hi)
 obtain⟨H8,Z8,d1,d2⟩:=hA L7 1 H3.size ib H7 n4.wf B7 (by have:=kb2.l;omega) kb2.g Z5
 have x8':=n3.chg n4.wf d1 (fun e=>e.2 (by rw[l7n _ (by omega)]))
 have l8:zH [.ptr H5.size (0+0)] H8=some (.int .i64 2):=zN x8'.cells rfl
 have g7:Gr H.size H H7:=kb2.gr.trans (q7.gr (B:=H.size) kb2.gr.size fun i hi h=>h.elim (fun e=>(kb2.pd i hi).1 e) (fun e=>by omega)) nl
 have g8:Gr H.size H H8:=g7.trans (Of.gr d1 (B:=H.size) g7.size fun i hi=>by rw[l7t i (by omega)];exact kb2.lz i hi) nl
 have e22:((2:Int) == Int.ofNat 2)=true:=rfl
 obtain⟨M,rfl⟩:∃ M,N=M+1+1+1:=⟨N-3,by omega⟩
 refine⟨H8,Z8,g8,fun q=>?_⟩
 simp only[zGb,k1,en,zI,zAr,retK,zT,kb,kc,pb1,k3',zAN,Bool.not_true,zQ,cond_false,zK,a4]
 rw[zF,ra _ _ (by simp[T.get_set]) (by simp[T.get_set]) (by simp[T.get_set])]
 simp only[seqK]
 rw[zF,rb2 _ _ (by simp[T.get_set]) (by simp[T.get_set]) (by simp[T.get_set])]
 simp only[seqK]
 rw[zF]
 have e2:decide (((1+1:Nat):Int)<Int.ofNat 2)=false:=by decide
 have e2':decide (((0+1+1:Nat):Int)<Int.ofNat 2)=false:=by decide
 simp only[zEe,zO,↓reduceIte,Nat.reduceEqDiff,zI,zT,retK,zBE,zAr,zq,zo,zAH,zQ,cond_true,cond_false,zM,zK,zZ,zAE,zL,zAB,ze,zAC,zAN,Bool.not_true,Bool.not_false,zw,za,zE5,zEz,zE0,zE4,zE6,zE2,zEa,zEp,zEx,zE3,ext0,ext1,zEw,zEy,zE1,zS,zAK,decide_true,decide_false,zL,e2,e2']
 simp only[seqK,zU,Nat.beq_refl,cond_true,zJw,zO,↓reduceIte,Nat.reduceEqDiff,zI,zT,retK,zBE,zAr,zq,zo,zAH,zQ,cond_true,cond_false,zM,zK,zZ,zAE,zL,zAB,ze,zAC,zAN,Bool.not_true,Bool.not_false,zw,za,zE5,zEz,zE0,zE4,zE6,zE2,zEa,zEp,zEx,zE3,ext0,ext1,zEw,zEy,zE1,zS,zAK,decide_true,decide_false,k5',n1,n2,d2,fa_ptr,l8,e22,hKn]
def CKeptR (vs:List V)(H:Heap)(o:Out):Prop:=(∃ (v:V) (la:List Nat),vs=[v]/\Rd H 1 v la.length (ws .u8 la)/\Src H v/\Roomy v)/\o=.val (.bool true)
theorem cacheKept_ok:∀ base w0,zCP PG base w0 zIv (outP CKeptR):=by
 obtain⟨N,hN⟩:∃ N:Nat,9223372036854775808<N:=⟨9223372036854775809,by decide⟩
 refine zOa zMT zSK N 8 _ ?_
 rintro vs H o hw hvs ⟨⟨v,la,rfl,hr,hs,hro⟩,rfl⟩ Z
 obtain⟨H',Z',g,k⟩:=zN9 (CR zJ N 7) (CR zJ N 6) (N:=N) (by omega) (fun hw Z=>zRE (CR zJ N 6) N hw Z) (fun s H Z q=>zSA (CR zJ N 6) N s H Z q) (ck_PutOkR hN) (ck_FndOkR hN) (ck_RenOkR hN)
  (fun H Z q=>zTP (c:=CR zJ N 7) (f:=zAc) (Pre:=Fm0Pre) (g:=Fm0G) (fun _ _ _ _=>rfl) (vs:=[.int .i64 0,.int .i64 (.ofNat 10)]) ⟨rfl,rfl⟩ H Z q)
  (keepZ_byte (c':=CR zJ N 6) (c0:=CR zJ N 5) (by omega) (fun _ _ _ _ _=>rfl) (fun _ _ _ _ _=>rfl)) (apartZ_byte (c':=CR zJ N 6) (c'':=CR zJ N 5) (c0:=CR zJ N 4) hN (fun _ _ _ _ _=>rfl) (fun _ _ _ _ _=>rfl) (fun _ _ _ _=>rfl) (fun _ _ _ _ _=>rfl))
  (fun _ _ _ _ _=>rfl) (zSj (fun _ _ _ _=>rfl)) la hw hr hs hro Z
 exact⟨_,H',Z',k retK,g,rfl,trivial⟩
theorem ckept_fun:Fun1 CKeptR:=fun vs H o o' k k'=>k.2.trans k'.2.symm
theorem cacheKept_in {v:V}{H:Heap}{la:List Nat}(hr:Rd H 1 v la.length (ws .u8 la)/\Src H v)(hro:Roomy v)(Z:Tape):outP CKeptR [v] H Z=some (.bool true,H,Z) :=
 zRq ckept_fun ⟨⟨v,la,rfl,hr.1,hr.2,hro⟩,rfl⟩ Z
end Go.Am.X

