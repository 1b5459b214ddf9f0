/- The abstract machine, printed functions of the program, and what they are shown to be. -/
import Derived.Test.YtejpgcemblankaaGreatDoorCKPL5
import Derived.Test.YtejpgcemblankaaGreatDoorCKPM4
import Derived.Test.YtejpgcemblankaaGreatDoorCKPL8
import Derived.Test.YtejpgcemblankaaGreatDoorCKPM5
set_option linter.unusedSimpArgs false
set_option linter.unusedVariables false
set_option linter.unusedSectionVars false
set_option maxRecDepth 100000
namespace Go.Am.X
def zKi (c:zD)(its:List ItZ):Prop:=∀ it ∈ its,∀ (a b:V) (H:Heap),Rd H 1 a it.n it.cs->Src H a->Rd H 1 b it.n it.cs->Src H b->∀ Z q,c zDo [a,b] H Z q=q (.bool true) H Z
theorem OwnP.srcT_byte {P:Nat->Prop}{H:Heap}{z:Nat}{v:V}{n:Nat}{cs:List V}(h:OwnP P H z v n cs):Src H v:=h.own0.src
theorem zNe (c:zD)(N:Nat)(lab:Nat->Nat)(K:Nat):∀ (its:List ItZ) (H:Heap) (Z:Tape) (m:Nat),its≠[]->zKi c its->its.length<m->its.length<1000000000->WF H->zGP 1 lab H K its ->
  ∃ its' H',its'≠[]/\((∀ it ∈ its',it ∈ its)/\its'.length<=its.length)/\zGP 1 lab H' K its'/\Only K H H'/\∀ (fr:T V) k,fr.get 0=some (.ptr K 0) ->
   zAP (zBD c N) m ⟨fr,H⟩ Z k=k (.exit 0) ⟨.leaf,H'⟩ Z:=by
 intro its
 induction its with
 | nil=>intro H Z m h;exact absurd rfl h
 | cons it r ih =>
  intro H Z m _ hSm hm hlen hw hb
  obtain⟨m,rfl⟩:∃ j,m=j+1:=⟨m-1,by omega⟩
  have hb0:=hb
  obtain⟨L,W,held,h1,h2,h3,h4,h5,h6⟩:=hb
  have nk:∀ (i o:Nat),zf [.ptr i o]=some (.ptr i o):=fun _ _=>rfl
  have fa:∀ (i o:Nat),zC o [.ptr i 0]=some (.ptr i o):=fun _ _=>by simp[zC]
  have ld0:zH [.ptr K 0] H=some L:=zN h1.cells rfl
  have ld1:zH [.ptr K 1] H=some W:=zN h1.cells rfl
  have ld2:zH [.ptr K 2] H=some (.int .i64 held):=zN h1.cells rfl
  have ld3:zH [.ptr K 3] H=some (.bool false):=zN h1.cells rfl
  have pl:pLen [L]=some (.int .i64 ((it::r).length:Int)):=by have:=h3.rd.pLen;rwa [List.length_map]at this
  have refl:Only K H H:=⟨hw,rfl,fun _ _=>rfl,fun _ _=>rfl⟩
  by_cases h0:r=[]
  ·subst h0
   have e1:decide (1<([it]:List ItZ).length)=false:=rfl
   refine⟨[it],H,by simp,⟨fun x h=>h,Nat.le_refl _⟩,hb0,refl,fun fr k f0=>?_⟩
   rw[zF]
   simp only[zBD,zA f0,nk,fa,ld0,pl,zO,↓reduceIte,Nat.reduceEqDiff,zI,zT,retK,zBE,zAr,zq,zo,zAH,zQ,cond_true,cond_false,zM,zK,zZ,zAE,zL,zAB,ze,zAC,zAN,Bool.not_true,Bool.not_false,zw,za,zE5,zEz,zE0,zE4,zE6,zE2,zEa,zEp,zEx,zE3,ext0,ext1,zEw,zEy,zE1,zS,zAK,decide_true,decide_false,e1]
   rfl
  ·have hpos:=List.length_pos_iff.2 h0
   have e1:decide (1<(it::r).length)=true:=decide_eq_true (by simp;omega)
   have z1:decide (Int.ofNat 1000000<held)=decide (1000000<held):=rfl
   cases hd:(decide (1000000<held) || decide (4000<(it::r).length))with
   | false =>
    have d1:decide (1000000<held)=false:=by cases h:decide (1000000<held)with
     | false=>rfl
     | true=>rw[h]at hd;cases hd
    have d2:decide (4000<(it::r).length)=false:=by rw[d1]at hd;exact hd
    refine⟨it::r,H,by simp,⟨fun x h=>h,Nat.le_refl _⟩,hb0,refl,fun fr k f0=>?_⟩
    rw[zF]
    simp only[zBD,zA f0,nk,fa,ld0,ld2,pl,zO,↓reduceIte,Nat.reduceEqDiff,zI,zT,retK,zBE,zAr,zq,zo,zAH,zQ,cond_true,cond_false,zM,zK,zZ,zAE,zL,zAB,ze,zAC,zAN,Bool.not_true,Bool.not_false,zw,za,zE5,zEz,zE0,zE4,zE6,zE2,zEa,zEp,zEx,zE3,ext0,ext1,zEw,zEy,zE1,zS,zAK,decide_true,decide_false,e1,z1,d1,d2]
    rfl
   | true =>
    obtain⟨o1,o2,o3,o4,o5⟩:=h6 it (by simp)
    obtain⟨a1,a2⟩:=o1.rd o2 o3
    have ks:=fun Z q=>hSm it (by simp) it.v it.w H a1 a2 o5.rd (OwnP.srcT_byte o5) Z q
    obtain⟨p,p1,p2⟩:=h3.rd.elem1 (i:=0) (x:=it.v) rfl
    obtain⟨p',p3,p4⟩:=h4.rd.elem1 (i:=0) (x:=it.w) rfl
    have p1:zAS 1 [L,.int .i64 (.ofNat 0)]=some p:=p1
    have p3:zAS 1 [W,.int .i64 (.ofNat 0)]=some p':=p3
    have rv:r.map ItZ.v≠[]:=by simpa using h0
    have rw':r.map ItZ.w≠[]:=by simpa using h0
    rw[List.map_cons]at h3 h4
    obtain⟨L',t1,t2⟩:=h3.tail rv
    obtain⟨W',t3,t4⟩:=h4.tail rw'
    have sL:=(t2 H _ h3).scal
    have sW:=(t4 H _ h4).scal
    obtain⟨H1,s1,b1,g1⟩:=h1.eStore hw 3 (.bool false) 1 rfl (by simp) (by omega) rfl Z
    have b1:Bx H1 K [L,W,.int .i64 held,.bool false]:=b1
    obtain⟨H2,s2,b2,g2⟩:=b1.eStore g1.wf 2 (.int .i64 (wr .i64 (wr .i64 (held-(it.cap:Int))-Int.ofNat 1))) 1 rfl (by simp) (by omega) rfl Z
    have b2:Bx H2 K [L,W,.int .i64 (wr .i64 (wr .i64 (held-(it.cap:Int))-Int.ofNat 1)),.bool false]:=b2
    obtain⟨H3,s3,b3,g3⟩:=b2.eStore g2.wf 0 L' 1 (by rw[sL.1];rfl) (by simp) (by omega) (by rw[sL.1];simp[sL.2]) Z
    rw[sL.1]at b3
    have b3:Bx H3 K [L',W,.int .i64 (wr .i64 (wr .i64 (held-(it.cap:Int))-Int.ofNat 1)),.bool false]:=b3
    obtain⟨H4,s4,b4,g4⟩:=b3.eStore g3.wf 1 W' 1 (by rw[sW.1];rfl) (by simp) (by omega) (by rw[sW.1];simp[sW.2]) Z
    rw[sW.1]at b4
    have b4:Bx H4 K [L',W',.int .i64 (wr .i64 (wr .i64 (held-(it.cap:Int))-Int.ofNat 1)),.bool false]:=b4
    have l2:zH [.ptr K 2] H1=some (.int .i64 held):=zN b1.cells rfl
    have l0:zH [.ptr K 0] H1=some L:=zN b1.cells rfl
    have l02:zH [.ptr K 0] H2=some L:=zN b2.cells rfl
    have l13:zH [.ptr K 1] H3=some W:=zN b3.cells rfl
    have only:Only K H H4:=by
     refine⟨g4.wf,by rw[g4.size,g3.size,g2.size,g1.size],fun i hi=>?_,fun i hi=>?_⟩
     ·rw[g4.blk i hi,g3.blk i hi,g2.blk i hi,g1.blk i hi]
     ·rw[g4.fams i hi,g3.fams i hi,g2.fams i hi,g1.fams i hi]
    have chg:Chg (fun i=>i=K) H H4:=only.chg rfl
    have h31:=h3.chg hw (g1.chg (P:=fun i=>i=K) rfl) fun i _ (e:lab i=2) q=>by subst q;omega
    obtain⟨pp,u1,u2⟩:=h31.rd.elem1 (i:=0) (x:=it.v) rfl
    have u1:zAS 1 [L,.int .i64 (.ofNat 0)]=some pp:=u1
    obtain rfl:pp=p:=Option.some.inj (u1.symm.trans p1)
    have hb4:zGP 1 lab H4 K r:=by
     refine⟨L',W',_,b4,h2,t2 H4 _ (h3.chg hw chg fun i _ (e:lab i=2) q=>by subst q;omega),t4 H4 _ (h4.chg hw chg fun i _ (e:lab i=3) q=>by subst q;omega),(List.nodup_cons.1 (by simpa using h5)).2,fun x hx=>(h6 x (by simp[hx])).chg hw chg (fun i _ q=>?_) fun _ _=>rfl⟩
     subst q;omega
    obtain⟨its',H',i1,i2,i3,i4,i5⟩:=ih H4 Z m h0 (fun x hx=>hSm x (by simp[hx])) (by simp at hm;omega) (by simp at hlen;omega) g4.wf hb4
    refine⟨its',H',i1,⟨fun x hx=>by simp[i2.1 x hx],by have:=i2.2;simp;omega⟩,i3,⟨i4.wf,by rw[i4.size,only.size],fun i hi=>by rw[i4.blk i hi,only.blk i hi],fun i hi=>by rw[i4.fams i hi,only.fams i hi]⟩,fun fr k f0=>?_⟩
    rw[zF]
    cases d1:decide (1000000<held)with
    | true =>
     simp only[zBD,zA f0,nk,fa,ld0,ld1,ld2,ld3,pl,zO,↓reduceIte,Nat.reduceEqDiff,zI,zT,retK,zBE,zAr,zq,zo,zAH,zQ,cond_true,cond_false,zM,zK,zZ,zAE,zL,zAB,ze,zAC,zAN,Bool.not_true,Bool.not_false,zw,za,zE5,zEz,zE0,zE4,zE6,zE2,zEa,zEp,zEx,zE3,ext0,ext1,zEw,zEy,zE1,zS,zAK,decide_true,decide_false,e1,z1,d1,p1,p2,p3,p4,ks,s1,l2,l0,u2,o1.pCap,s2,l02,t1,s3,l13,t3,s4]
     exact i5 _ k (by simp[T.get_set])
    | false =>
     have d2:decide (4000<(it::r).length)=true:=by rw[d1]at hd;exact hd
     simp only[zBD,zA f0,nk,fa,ld0,ld1,ld2,ld3,pl,zO,↓reduceIte,Nat.reduceEqDiff,zI,zT,retK,zBE,zAr,zq,zo,zAH,zQ,cond_true,cond_false,zM,zK,zZ,zAE,zL,zAB,ze,zAC,zAN,Bool.not_true,Bool.not_false,zw,za,zE5,zEz,zE0,zE4,zE6,zE2,zEa,zEp,zEx,zE3,ext0,ext1,zEw,zEy,zE1,zS,zAK,decide_true,decide_false,e1,z1,d1,d2,p1,p2,p3,p4,ks,s1,l2,l0,u2,o1.pCap,s2,l02,t1,s3,l13,t3,s4]
     exact i5 _ k (by simp[T.get_set])
theorem zLk (c:zD){N:Nat}(hN:9223372036854775807<N)(lab:Nat->Nat)(H:Heap)(hw:WF H)(K:Nat)(its:List ItZ)(h:zGP 1 lab H K its)(x:V)(cap n:Nat)(cs:List V)(key:Nat)(hkey:key ∉ its.map ItZ.key)
  (hx:zFx (fun i=>lab i=2*key+4) H x 1 cap cs) (hn:cs.length=n*1) (hp:pLen [x]=some (.int .i64 (n:Int))) (hcap:cap<9223372036854775808) (hs:cs.all V.scal=true) (hlen:n<1000000000) (hits:its.length+1<1000000) (hSm:∀ w,zKi c (its++[⟨x,cap,n,cs,w,key⟩])) (Z:Tape) :
  ∃ its' H' Z' lab',zGP 1 lab' H' K its'/\((∀ it ∈ its',it ∈ its∨(it.key=key/\it.cs=cs/\it.n=n))/\its'.length<=its.length+1)/\Chg (fun i=>lab i=1∨lab i=2∨lab i=3) H H'/\(∀ i,i<H.size->lab' i=lab i)/\∀ q,zCt c N (.ptr K 0) x H Z q=q (.tup []) H' Z':=by
 obtain⟨L,W,held,h1,h2,h3,h4,h5,h6⟩:=h
 have hK:=h1.lt hw
 obtain⟨w1,Ha,L',Hb,b1,b2,b3,b4,_,b5,_⟩:=h3.push (bytes:=24) hw x .nils hx.scal.1 hx.scal.2 (by rw[List.length_map];omega) (by rw[List.length_map];omega) Z
 have Kb:=h1.chg hw b4 (by rw[h2];omega)
 obtain⟨Hc,c1,c2,c3⟩:=Kb.eStore b4.wf 0 L' 1 (by rw[b3.scal.1];rfl) (by simp) (by omega) (by rw[b3.scal.1];simp[b3.scal.2]) Z.tail
 rw[b3.scal.1]at c2
 have c2:Bx Hc K [L',W,.int .i64 held,.bool false]:=c2
 have hsz:Hc.size=Hb.size:=c3.size
 have g0c:Chg (fun i=>lab i=1∨lab i=2) H Hc:=(b4.weaken fun i _ h=>.inr h).trans (c3.chg (P:=fun i=>i=K) rfl) fun i hi e=>by subst e;exact .inl h2
 have x2:=hx.chg hw g0c fun i hi (e:lab i=2*key+4) q=>by omega
 obtain⟨w,Hd,τd,d1,d2,d3⟩:=x2.copy hn hp c3.wf 1 hs (by omega) (by omega) Z.tail
 have W2:=(h4.weaken (Q:=fun i=>i<H.size/\lab i=3) hw fun i hi e=>⟨hi,e⟩).chg hw (g0c.trans (d3.chg (P:=fun _=>False)) fun _ _ h=>h.elim) fun i hi e q=>by omega
 obtain⟨w2,He,W',Hf,e1,e2,e3,e4,_,e5,e6⟩:=W2.push (bytes:=24) d3.wf w .nils d2.scal.1 d2.scal.2 (by rw[List.length_map];omega) (by rw[List.length_map];omega) τd
 have Kd:=c2.gr d3 (c2.lt c3.wf)
 have Ke:=Kd.gr e5 (Kd.lt d3.wf)
 have Kf:=Ke.chg e5.wf e6 fun q=>by rw[h2]at q;omega
 obtain⟨Hg,f1,f2,f3⟩:=Kf.eStore e6.wf 1 W' 1 (by rw[e3.scal.1];rfl) (by simp) (by omega) (by rw[e3.scal.1];simp[e3.scal.2]) τd.tail
 rw[e3.scal.1]at f2
 have f2:Bx Hg K [L',W',.int .i64 held,.bool false]:=f2
 obtain⟨Hh,i1,i2,i3⟩:=f2.eStore f3.wf 2 (.int .i64 (wr .i64 (wr .i64 (held+(cap:Int))+Int.ofNat 1))) 1 rfl (by simp) (by omega) rfl τd.tail
 have i2:Bx Hh K [L',W',.int .i64 (wr .i64 (wr .i64 (held+(cap:Int))+Int.ofNat 1)),.bool false]:=i2
 have zab:=b4.size
 have zcd:=d3.size
 have zdf:=e4.size
 have zg:=f3.size
 have zh:=i3.size
 have hKb:K<Hb.size:=by omega
 have gbc:Chg (fun i=>i=K) Hb Hc:=c3.chg rfl
 have gcd:Chg (fun i=>i=K) Hc Hd:=d3.chg
 have gdf:Chg (fun i=>i<H.size/\lab i=3) Hd Hf:=e4.weaken fun i _ q=>q
 have gfh:Chg (fun i=>i=K) Hf Hh:=(f3.chg (P:=fun i=>i=K) rfl).trans (i3.chg (P:=fun i=>i=K) rfl) fun _ _ q=>q
 have gbh:Chg (fun i=>i=K∨(i<H.size/\lab i=3)) Hb Hh :=
  (((gbc.trans gcd fun _ _ q=>q).weaken fun i _ q=>.inl q).trans gdf fun i _ q=>.inr q).trans gfh fun i _ q=>.inl q
 have g0h:Chg (fun i=>lab i=1∨lab i=2∨lab i=3) H Hh :=
  (b4.weaken fun i _ q=>.inr (.inl q)).trans gbh fun i hi q=>by rcases q with rfl | ⟨_,q⟩;exact .inl h2;exact .inr (.inr q)
 let lab':Nat->Nat:=fun i=>if i<H.size then lab i else if i<Hb.size then 2 else if i<Hd.size then 2*key+5 else 3
 have l0:∀ i,i<H.size->lab' i=lab i:=fun i hi=>if_pos hi
 have l1:∀ i,H.size<=i->i<Hb.size->lab' i=2:=fun i h1 h2=>by simp only[lab'];rw[if_neg (by omega),if_pos h2]
 have l2:∀ i,Hb.size<=i->i<Hd.size->lab' i=2*key+5:=fun i h1 h2=>by simp only[lab'];rw[if_neg (by omega),if_neg (by omega),if_pos h2]
 have l3:∀ i,Hd.size<=i->lab' i=3:=fun i h1=>by simp only[lab'];rw[if_neg (by omega),if_neg (by omega),if_neg (by omega)]
 have L3:zFv (fun i=>lab' i=2) Hh L' (its.map ItZ.v++[x]):=by
  have:=(b3.weaken (Q:=fun i=>i<Hb.size/\lab' i=2) b4.wf fun i hi q=>by
   rcases q with⟨a,b⟩ | a
   ·exact⟨hi,by rw[l0 i a];exact b⟩
   ·exact⟨hi,l1 i a hi⟩).chg b4.wf gbh fun i hi q r=>by
    rcases r with rfl | ⟨a,b⟩
    ·have:=l0 i hK;omega
    ·have:=l0 i a;omega
  exact this.weaken gbh.wf fun i _ q=>q.2
 have W3:zFv (fun i=>lab' i=3) Hh W' (its.map ItZ.w++[w]):=by
  have:=(e3.weaken (Q:=fun i=>lab' i=3) e4.wf fun i hi q=>by
   rcases q with⟨a,b,c⟩ | a
   ·show lab' i=3;rw[l0 i b];exact c
   ·exact l3 i a).chg e4.wf gfh fun i hi q r=>by
    have q:lab' i=3:=q
    subst r;have:=l0 i hK;omega
  exact this
 have X3:zFx (fun i=>lab' i=2*key+4) Hh x 1 cap cs:=by
  have:=(hx.weaken (Q:=fun i=>i<H.size/\lab' i=2*key+4) hw fun i hi q=>⟨hi,by rw[l0 i hi];exact q⟩).chg hw g0h fun i hi q r=>by
   have:=l0 i hi;omega
  exact this.weaken g0h.wf fun i _ q=>q.2
 have gdh:Chg (fun i=>i=K∨(i<H.size/\lab i=3)) Hd Hh:=(gdf.weaken fun i _ q=>.inr q).trans gfh fun i _ q=>.inl q
 have w3:OwnP (fun i=>lab' i=2*key+5) Hh 1 w n cs:=by
  have:=(d2.weaken (Q:=fun i=>Hc.size<=i/\lab' i=2*key+5) d3.wf fun i hi q=>⟨q,l2 i (by omega) hi⟩).chg d3.wf gdh fun i hi q r=>by
   rcases r with rfl | ⟨a,b⟩
   ·omega
   ·omega
  exact this.weaken gdh.wf fun i _ q=>q.2
 have K3:lab' K=1:=by rw[l0 K hK];exact h2
 have B3:zGP 1 lab' Hh K (its++[⟨x,cap,n,cs,w,key⟩]):=by
  refine⟨L',W',_,i2,K3,by simpa using L3,by simpa using W3,?_,fun it hit=>?_⟩
  ·rw[List.map_append,List.nodup_append]
   refine⟨h5,by simp,fun a ha b hb=>?_⟩
   simp at hb
   subst hb
   exact fun e=>hkey (e ▸ ha)
  ·rcases List.mem_append.1 hit with hit | hit
   ·exact(h6 it hit).chg hw g0h (fun i hi q=>by omega) l0
   ·rw[List.mem_singleton]at hit
    subst hit
    exact⟨X3,hn,hp,hcap,w3⟩
 obtain⟨its',H',j1,j2,j3,j4,j5⟩:=zNe c N lab' K (its++[⟨x,cap,n,cs,w,key⟩]) Hh τd.tail N (by simp) (hSm w) (by simp;omega) (by simp;omega) i3.wf B3
 refine⟨its',H',τd.tail,lab',j3,⟨fun it hit=>?_,by have:=j2.2;simpa using this⟩,g0h.trans (j4.chg (P:=fun i=>i=K) rfl) fun i hi e=>by subst e;exact .inl h2,l0,fun q=>?_⟩
 ·rcases List.mem_append.1 (j2.1 it hit)with e | e
  ·exact .inl e
  ·rw[List.mem_singleton]at e;subst e;exact .inr ⟨rfl,rfl,rfl⟩
 have nk:∀ (i o:Nat),zf [.ptr i o]=some (.ptr i o):=fun _ _=>rfl
 have fa:∀ (i o:Nat),zC o [.ptr i 0]=some (.ptr i o):=fun _ _=>by simp[zC]
 have ld0:zH [.ptr K 0] H=some L:=zN h1.cells rfl
 have ld1:∀ {H},Bx H K [L',W,.int .i64 held,.bool false]->zH [.ptr K 1] H=some W:=fun h=>zN h.cells rfl
 have ld2:zH [.ptr K 2] Hg=some (.int .i64 held):=zN f2.cells rfl
 have hc:zAs [Hc,Hd,He,Hf,Hg] (((.load none),[.ptr K 1],0,2)::[])=true:=by
  simp[zAs,zG5,zOK,ld1 c2,ld1 Kd,ld1 Ke,chk1]
  rcases h4 with⟨rfl,_⟩ | ⟨id,off,e,all,room,fam,ver,pl,st,fr,rfl,_⟩ <;> simp[same,zOc,zRd,zLr]
 simp only[zCt,nk,zI,fa,ld0,b1,zT,b2,c1,ld1 c2,d1,e1,e2,f1,hc,cond_true,ld2,hx.pCap,zS,i1]
 rw[j5 _ _ (by simp[T.get_set])]
 simp only[zU,Nat.beq_refl,cond_true,endK]
 rfl
theorem zNM (c:zD)(N:Nat)(lab:Nat->Nat)(K:Nat)(its:List ItZ)(hSm:zKi c its)(hits:its.length<1000000):∀ (l pre:List ItZ) (H:Heap) (Z:Tape) (m:Nat),its=pre++l->l.length<m->WF H->zGP 1 lab H K its ->
  ∃ H',zGP 1 lab H' K its/\Only K H H'/\∀ (fr:T V) k,fr.get 0=some (.ptr K 0)->fr.get 3=some (.int .i64 (pre.length:Int)) ->
   zAP (zCc c N) m ⟨fr,H⟩ Z k=k (.exit 0) ⟨(T.s .leaf 0 (.ptr K 0)),H'⟩ Z:=by
 have nk:∀ (i o:Nat),zf [.ptr i o]=some (.ptr i o):=fun _ _=>rfl
 have fa:∀ (i o:Nat),zC o [.ptr i 0]=some (.ptr i o):=fun _ _=>by simp[zC]
 intro l
 induction l with
 | nil =>
  intro pre H Z m he hm hw hb
  obtain⟨m,rfl⟩:∃ j,m=j+1:=⟨m-1,by omega⟩
  have hb0:=hb
  obtain⟨L,W,held,h1,h2,h3,h4,h5,h6⟩:=hb
  have ld0:zH [.ptr K 0] H=some L:=zN h1.cells rfl
  have pl:pLen [L]=some (.int .i64 (its.length:Int)):=by have:=h3.rd.pLen;rwa [List.length_map]at this
  have e1:decide (pre.length<its.length)=false:=decide_eq_false (by rw[he];simp)
  refine⟨H,hb0,⟨hw,rfl,fun _ _=>rfl,fun _ _=>rfl⟩,fun fr k f0 f3=>?_⟩
  rw[zF]
  simp only[zCc,zA f0,zA f3,nk,fa,ld0,pl,zO,↓reduceIte,Nat.reduceEqDiff,zI,zT,retK,zBE,zAr,zq,zo,zAH,zQ,cond_true,cond_false,zM,zK,zZ,zAE,zL,zAB,ze,zAC,zAN,Bool.not_true,Bool.not_false,zw,za,zE5,zEz,zE0,zE4,zE6,zE2,zEa,zEp,zEx,zE3,ext0,ext1,zEw,zEy,zE1,zS,zAK,decide_true,decide_false,e1]
  rfl
 | cons it l ih =>
  intro pre H Z m he hm hw hb
  obtain⟨m,rfl⟩:∃ j,m=j+1:=⟨m-1,by omega⟩
  obtain⟨L,W,held,h1,h2,h3,h4,h5,h6⟩:=hb
  have hit:it ∈ its:=by rw[he];simp
  have hlt:pre.length<its.length:=by rw[he];simp
  have ld0:zH [.ptr K 0] H=some L:=zN h1.cells rfl
  have ld1:zH [.ptr K 1] H=some W:=zN h1.cells rfl
  have ld3:zH [.ptr K 3] H=some (.bool false):=zN h1.cells rfl
  have pl:pLen [L]=some (.int .i64 (its.length:Int)):=by have:=h3.rd.pLen;rwa [List.length_map]at this
  have e1:decide (pre.length<its.length)=true:=decide_eq_true hlt
  have e3:wr .i64 ((pre.length:Int)+Int.ofNat 1)=((pre++[it]).length:Int):=by rw[adI (by omega)];simp
  obtain⟨o1,o2,o3,o4,o5⟩:=h6 it hit
  obtain⟨a1,a2⟩:=o1.rd o2 o3
  have ks:=fun Z q=>hSm it hit it.v it.w H a1 a2 o5.rd (OwnP.srcT_byte o5) Z q
  obtain⟨p,p1,p2⟩:=h3.rd.elem1 (i:=pre.length) (x:=it.v) (by rw[he];simp)
  obtain⟨p',p3,p4⟩:=h4.rd.elem1 (i:=pre.length) (x:=it.w) (by rw[he];simp)
  obtain⟨H1,s1,b1,g1⟩:=h1.eStore hw 3 (.bool false) 1 rfl (by simp) (by omega) rfl Z
  have b1:Bx H1 K [L,W,.int .i64 held,.bool false]:=b1
  have chg:Chg (fun i=>i=K) H H1:=g1.chg rfl
  have hb1:zGP 1 lab H1 K its :=
   ⟨L,W,held,b1,h2,h3.chg hw chg fun i _ (e:lab i=2) q=>by subst q;omega,h4.chg hw chg fun i _ (e:lab i=3) q=>by subst q;omega,h5,fun x hx=>(h6 x hx).chg hw chg (fun i _ q=>by subst q;omega) fun _ _=>rfl⟩
  obtain⟨H',i1,i2,i3⟩:=ih (pre++[it]) H1 Z m (by rw[he];simp) (by simp at hm;omega) g1.wf hb1
  refine⟨H',i1,⟨i2.wf,by rw[i2.size,g1.size],fun i hi=>by rw[i2.blk i hi,g1.blk i hi],fun i hi=>by rw[i2.fams i hi,g1.fams i hi]⟩,fun fr k f0 f3=>?_⟩
  rw[zF]
  simp only[zCc,zA f0,zA f3,nk,fa,ld0,ld1,ld3,pl,zO,↓reduceIte,Nat.reduceEqDiff,zI,zT,retK,zBE,zAr,zq,zo,zAH,zQ,cond_true,cond_false,zM,zK,zZ,zAE,zL,zAB,ze,zAC,zAN,Bool.not_true,Bool.not_false,zw,za,zE5,zEz,zE0,zE4,zE6,zE2,zEa,zEp,zEx,zE3,ext0,ext1,zEw,zEy,zE1,zS,zAK,decide_true,decide_false,e1,p1,p2,p3,p4,ks,s1,e3]
  exact i3 _ k (by simp[T.get_set]) (by simp[T.get_set])
theorem zK2 (c:zD){N:Nat}(hN:9223372036854775807<N)(lab:Nat->Nat)(K:Nat)(its:List ItZ)(hSm:zKi c its)(hits:its.length<1000000)(H:Heap)(hw:WF H)(hb:zGP 1 lab H K its)(Z:Tape) :
  ∃ H',zGP 1 lab H' K its/\Only K H H'/\∀ q,zCQ c N (.ptr K 0) H Z q=q (.bool true) H' Z:=by
 obtain⟨H',i1,i2,i3⟩:=zNM c N lab K its hSm hits its [] H Z N rfl (by omega) hw hb
 have h1:=i1
 obtain⟨L,W,held,h1,_⟩:=h1
 have nk:∀ (i o:Nat),zf [.ptr i o]=some (.ptr i o):=fun _ _=>rfl
 have fa:∀ (i o:Nat),zC o [.ptr i 0]=some (.ptr i o):=fun _ _=>by simp[zC]
 have ld3:zH [.ptr K 3] H'=some (.bool false):=zN h1.cells rfl
 refine⟨H',i1,i2,fun q=>?_⟩
 simp only[zCQ]
 rw[i3 _ _ (by simp[T.get_set]) (by simp[T.get_set])]
 simp only[zU,Nat.beq_refl,cond_true,seqK,zGv,zO,↓reduceIte,Nat.reduceEqDiff,zI,zT,retK,zBE,zAr,zq,zo,zAH,zQ,cond_true,cond_false,zM,zK,zZ,zAE,zL,zAB,ze,zAC,zAN,Bool.not_true,Bool.not_false,zw,za,zE5,zEz,zE0,zE4,zE6,zE2,zEa,zEp,zEx,zE3,ext0,ext1,zEw,zEy,zE1,zS,zAK,decide_true,decide_false,nk,fa,ld3]
def zDA (mk:Nat->Nat->V)(i j:Nat):List V:=(List.range j).flatMap fun j=>(mk i j).cells
theorem zJj (mk:Nat->Nat->V)(i j:Nat):zDA mk i (j+1)=zDA mk i j++(mk i j).cells:=by unfold zDA;rw[List.range_succ,List.flatMap_append];simp
theorem zKb (mk:Nat->Nat->V)(hz:∀ i j,(mk i j).cells.length=1)(i j:Nat):(zDA mk i j).length=j*1:=by
 induction j with
 | zero=>rfl
 | succ j ih=>rw[zJj,List.length_append,ih,hz,Nat.succ_mul]
def zKs (c:zD)(fm:Nat)(mk:Nat->Nat->V):Prop:=∀ (i j:Nat),i<1000000->j<9223372036854775808->∀ H Z q,c fm [.int .i64 (i:Int),.int .i64 (j:Int)] H Z q=q (mk i j) H Z
theorem zMO (c:zD)(N fm:Nat)(mk:Nat->Nat->V)(hM:zKs c fm mk)(hz:∀ i j,(mk i j).cells.length=1)(hsc:∀ i j,(mk i j).cells.all V.scal=true)(P:Nat->Prop)(v v':V)(cap i:Nat)(hi:i<1000000)(hcap:cap<9223372036854775808)(t0:V)(hlen:pLen [v']=some (.int .i64 (cap:Int)))
  (hwr:∀ H' l' k,WF H'->zFx P H' v 1 cap l'->l'.length=k*1->k<cap->∀ (x:V),x.cells.length=1->x.cells.all V.scal=true->∀ Z,∃ p H'',zAS 1 [v',.int .i64 (k:Int)]=some p/\eStore 1 [p,x] H' Z=some (.tup [],H'',Z)/\zFx P H'' v 1 cap (l'++x.cells)/\Chg P H' H'') :
  ∀ (n j:Nat) (H:Heap) (Z:Tape) (m:Nat),j+n=cap->n<m->WF H->zFx P H v 1 cap (zDA mk i j) ->
  ∃ H',zFx P H' v 1 cap (zDA mk i cap)/\Chg P H H'/\∀ (fr:T V) k,fr.get 0=some t0->fr.get 1=some (.func fm [] [])->fr.get 5=some (.int .i64 (i:Int))->fr.get 6=some v'->fr.get 7=some (.int .i64 (j:Int)) ->
   zAP (zCl c N) m ⟨fr,H⟩ Z k=k (.exit 2) ⟨(T.s (T.s (T.s .leaf 0 t0) 1 (.func fm [] [])) 5 (.int .i64 (i:Int))),H'⟩ Z:=by
 intro n
 induction n with
 | zero =>
  intro j H Z m hj hm hw hR
  obtain⟨m,rfl⟩:∃ j,m=j+1:=⟨m-1,by omega⟩
  have e1:decide (j<cap)=false:=decide_eq_false (by omega)
  refine⟨H,(by obtain rfl:j=cap:=(by omega);exact hR),Chg.refl hw,fun fr k f0 f1 f5 f6 f7=>?_⟩
  rw[zF]
  simp only[zCl,zA f0,zA f1,zA f5,zA f6,zA f7,hlen,zO,↓reduceIte,Nat.reduceEqDiff,zI,zT,retK,zBE,zAr,zq,zo,zAH,zQ,cond_true,cond_false,zM,zK,zZ,zAE,zL,zAB,ze,zAC,zAN,Bool.not_true,Bool.not_false,zw,za,zE5,zEz,zE0,zE4,zE6,zE2,zEa,zEp,zEx,zE3,ext0,ext1,zEw,zEy,zE1,zS,zAK,decide_true,decide_false,e1]
  rfl
 | succ n ih =>
  intro j H Z m hj hm hw hR
  obtain⟨m,rfl⟩:∃ j,m=j+1:=⟨m-1,by omega⟩
  have e1:decide (j<cap)=true:=decide_eq_true (by omega)
  obtain⟨p,H1,p1,p2,p3,p4⟩:=hwr H _ j hw hR (zKb mk hz i j) (by omega) (mk i j) (hz i j) (hsc i j) Z
  rw[<- zJj]at p3
  have e3:wr .i64 ((j:Int)+Int.ofNat 1)=((j+1:Nat):Int):=adI (by omega)
  obtain⟨H',r1,r2,r3⟩:=ih (j+1) H1 Z m (by omega) (by omega) p4.wf p3
  refine⟨H',r1,p4.trans r2 fun _ _ q=>q,fun fr k f0 f1 f5 f6 f7=>?_⟩
  rw[zF]
  simp only[zCl,zA f0,zA f1,zA f5,zA f6,zA f7,hlen,zO,↓reduceIte,Nat.reduceEqDiff,zI,zT,retK,zBE,zAr,zq,zo,zAH,zQ,cond_true,cond_false,zM,zK,zZ,zAE,zL,zAB,ze,zAC,zAN,Bool.not_true,Bool.not_false,zw,za,zE5,zEz,zE0,zE4,zE6,zE2,zEa,zEp,zEx,zE3,ext0,ext1,zEw,zEy,zE1,zS,zAK,decide_true,decide_false,e1,opK,List.nil_append,List.append_nil,hM i j hi (by omega),p1,p2,e3]
  exact r3 _ k (by simp[T.get_set]) (by simp[T.get_set]) (by simp[T.get_set]) (by simp[T.get_set]) (by simp[T.get_set])
theorem zLo (c:zD)(N fm:Nat)(f:Nat->Nat->Nat)(hM:zKs c fm (fun i j=>V.int .u8 ((f i j:Nat):Int)))(v':V)(cap i:Nat)(hi:i<1000000)(hcap:cap<9223372036854775808)(t0:V)(H:Heap)(hlen:pLen [v']=some (.int .i64 (cap:Int)))
  (hrd:∀ j,j<cap->∃ id o,zAS 1 [v',.int .i64 (j:Int)]=some (.ptr id o)/\zH [.ptr id o] H=some ((fun i j=>V.int .u8 ((f i j:Nat):Int)) i j)) :
  ∀ (n j:Nat) (Z:Tape) (m:Nat),j+n=cap->n<m->∀ (fr:T V) k,fr.get 0=some t0->fr.get 1=some (.func fm [] [])->fr.get 8=some (.int .i64 (i:Int))->fr.get 9=some v'->fr.get 10=some (.int .i64 (j:Int)) ->
   zAP (zCg c N) m ⟨fr,H⟩ Z k=k (.exit 6) ⟨(T.s (T.s (T.s .leaf 0 t0) 1 (.func fm [] [])) 8 (.int .i64 (i:Int))),H⟩ Z:=by
 intro n
 induction n with
 | zero =>
  intro j Z m hj hm fr k f0 f1 f8 f9 f10
  obtain⟨m,rfl⟩:∃ j,m=j+1:=⟨m-1,by omega⟩
  have e1:decide (j<cap)=false:=decide_eq_false (by omega)
  rw[zF]
  simp only[zCg,zA f0,zA f1,zA f8,zA f9,zA f10,hlen,zO,↓reduceIte,Nat.reduceEqDiff,zI,zT,retK,zBE,zAr,zq,zo,zAH,zQ,cond_true,cond_false,zM,zK,zZ,zAE,zL,zAB,ze,zAC,zAN,Bool.not_true,Bool.not_false,zw,za,zE5,zEz,zE0,zE4,zE6,zE2,zEa,zEp,zEx,zE3,ext0,ext1,zEw,zEy,zE1,zS,zAK,decide_true,decide_false,e1]
  rfl
 | succ n ih =>
  intro j Z m hj hm fr k f0 f1 f8 f9 f10
  obtain⟨m,rfl⟩:∃ j,m=j+1:=⟨m-1,by omega⟩
  have e1:decide (j<cap)=true:=decide_eq_true (by omega)
  obtain⟨id,o,p1,p2⟩:=hrd j (by omega)
  have e3:wr .i64 ((j:Int)+Int.ofNat 1)=((j+1:Nat):Int):=adI (by omega)
  have hc:zAs [H,H] (((.load none),[.ptr id o],0,1)::[])=true:=by
   simp[zAs,zG5,zOK,p2,chk1,same,zOc,zRd,zLr]
  have en:(((f i j:Nat):Int) !=((f i j:Nat):Int))=false:=by simp
  rw[zF]
  simp only[zCg,zA f0,zA f1,zA f8,zA f9,zA f10,hlen,zO,↓reduceIte,Nat.reduceEqDiff,zI,zT,retK,zBE,zAr,zq,zo,zAH,zQ,cond_true,cond_false,zM,zK,zZ,zAE,zL,zAB,ze,zAC,zAN,Bool.not_true,Bool.not_false,zw,za,zE5,zEz,zE0,zE4,zE6,zE2,zEa,zEp,zEx,zE3,ext0,ext1,zEw,zEy,zE1,zS,zAK,decide_true,decide_false,e1,p1,p2,opK,List.nil_append,List.append_nil,hM i j hi (by omega),zAE,en,bne_self_eq_false,hc,e3]
  exact ih (j+1) Z m (by omega) (by omega) _ k (by simp[T.get_set]) (by simp[T.get_set]) (by simp[T.get_set]) (by simp[T.get_set]) (by simp[T.get_set])
theorem zLy (c:zD){N:Nat}(hN:9223372036854775808<N)(fm:Nat)(mk:Nat->Nat->V)(hM:zKs c fm mk)(hz:∀ i j,(mk i j).cells.length=1)(hsc:∀ i j,(mk i j).cells.all V.scal=true)(lab:Nat->Nat)(K:Nat)(its:List ItZ)(hits:its.length<1000000)(hcap:∀ it ∈ its,it.cap<9223372036854775808)(hk:∀ (p q:Nat) it jt,its[p]?=some it->its[q]?=some jt->it.key=jt.key->p=q)(L W x2 x3:V)(hK1:lab K=1) :
  ∀ (r pre:List ItZ) (H:Heap) (Z:Tape) (m:Nat),its=pre++r->r.length<m->WF H->Bx H K [L,W,x2,x3]->zFv (fun i=>lab i=2) H L (its.map ItZ.v) ->
  (∀ (j:Nat) it,its[j]?=some it->zFx (fun i=>lab i=2*it.key+4) H it.v 1 it.cap (if j<pre.length then zDA mk j it.cap else [])) ->
  ∃ H',(∀ (j:Nat) it,its[j]?=some it->zFx (fun i=>lab i=2*it.key+4) H' it.v 1 it.cap (zDA mk j it.cap))/\Bx H' K [L,W,x2,x3]/\zFv (fun i=>lab i=2) H' L (its.map ItZ.v)/\Chg (fun i=>4<=lab i) H H' /\
   ∀ (fr:T V) k,fr.get 0=some (.ptr K 0)->fr.get 1=some (.func fm [] [])->fr.get 5=some (.int .i64 (pre.length:Int)) ->
    zAP (zCk c N) m ⟨fr,H⟩ Z k=k (.exit 0) ⟨(T.s (T.s .leaf 0 (.ptr K 0)) 1 (.func fm [] [])),H'⟩ Z:=by
 have nk:∀ (i o:Nat),zf [.ptr i o]=some (.ptr i o):=fun _ _=>rfl
 have fa:∀ (i o:Nat),zC o [.ptr i 0]=some (.ptr i o):=fun _ _=>by simp[zC]
 intro r
 induction r with
 | nil =>
  intro pre H Z m he hm hw hK hL hR
  obtain⟨m,rfl⟩:∃ j,m=j+1:=⟨m-1,by omega⟩
  have ld0:zH [.ptr K 0] H=some L:=zN hK.cells rfl
  have pl:pLen [L]=some (.int .i64 (its.length:Int)):=by have:=hL.rd.pLen;rwa [List.length_map]at this
  have e1:decide (pre.length<its.length)=false:=decide_eq_false (by rw[he];simp)
  refine⟨H,fun j it hj=>?_,hK,hL,Chg.refl hw,fun fr k f0 f1 f5=>?_⟩
  ·have:=hR j it hj
   rw[if_pos (by have:=(List.getElem?_eq_some_iff.1 hj).1;rw[he]at this;simpa using this)]at this
   exact this
  ·rw[zF]
   simp only[zCk,zA f0,zA f1,zA f5,nk,fa,ld0,pl,zO,↓reduceIte,Nat.reduceEqDiff,zI,zT,retK,zBE,zAr,zq,zo,zAH,zQ,cond_true,cond_false,zM,zK,zZ,zAE,zL,zAB,ze,zAC,zAN,Bool.not_true,Bool.not_false,zw,za,zE5,zEz,zE0,zE4,zE6,zE2,zEa,zEp,zEx,zE3,ext0,ext1,zEw,zEy,zE1,zS,zAK,decide_true,decide_false,e1]
   rfl
 | cons it r ih =>
  intro pre H Z m he hm hw hK hL hR
  obtain⟨m,rfl⟩:∃ j,m=j+1:=⟨m-1,by omega⟩
  have hit:its[pre.length]?=some it:=by rw[he];simp
  have hlen:pre.length<its.length:=by rw[he];simp
  have hc:=hcap it (by rw[he];simp)
  have ld0:zH [.ptr K 0] H=some L:=zN hK.cells rfl
  have pl:pLen [L]=some (.int .i64 (its.length:Int)):=by have:=hL.rd.pLen;rwa [List.length_map]at this
  have e1:decide (pre.length<its.length)=true:=decide_eq_true hlen
  obtain⟨p,p1,p2⟩:=hL.rd.elem1 (i:=pre.length) (x:=it.v) (by rw[List.getElem?_map,hit];rfl)
  have hRi:=hR _ _ hit
  rw[if_neg (by omega)]at hRi
  obtain⟨v',q1,q2,q3,q4⟩:=hRi.full (by omega)
  obtain⟨H1,a1,a2,a3⟩:=zMO c N fm mk hM hz hsc (fun i=>lab i=2*it.key+4) it.v v' it.cap pre.length (by omega) hc (.ptr K 0) q2 q3 it.cap 0 H Z N (by omega) (by omega) hw hRi
  have e3:wr .i64 ((pre.length:Int)+Int.ofNat 1)=((pre++[it]).length:Int):=by rw[adI (by omega)];simp
  obtain⟨H',r1,r2,r3,r4,r5⟩:=ih (pre++[it]) H1 Z m (by rw[he];simp) (by simp at hm;omega) a2.wf (hK.chg hw a2 (by omega)) (hL.chg hw a2 fun i _ q1 q2=>by omega)
   (fun j jt hj=>by
    by_cases hji:j=pre.length
    ·subst hji
     rw[hit]at hj
     cases hj
     rw[if_pos (by simp)]
     exact a1
    ·have hne:jt.key≠it.key:=fun e=>hji (hk _ _ _ _ hj hit e)
     have:=(hR j jt hj).chg hw a2 fun i _ q1 q2=>by omega
     have hif:(j<(pre++[it]).length)=(j<pre.length):=by
      simp only[List.length_append,List.length_singleton,eq_iff_iff];omega
     rw[show(if j<(pre++[it]).length then zDA mk j jt.cap else [])=(if j<pre.length then zDA mk j jt.cap else [])by simp only[hif]]
     exact this)
  refine⟨H',r1,r2,r3,(a2.weaken fun i _ q=>by omega).trans r4 fun _ _ q=>q,fun fr k f0 f1 f5=>?_⟩
  rw[zF]
  simp only[zCk,zA f0,zA f1,zA f5,nk,fa,ld0,pl,zO,↓reduceIte,Nat.reduceEqDiff,zI,zT,retK,zBE,zAr,zq,zo,zAH,zQ,cond_true,cond_false,zM,zK,zZ,zAE,zL,zAB,ze,zAC,zAN,Bool.not_true,Bool.not_false,zw,za,zE5,zEz,zE0,zE4,zE6,zE2,zEa,zEp,zEx,zE3,ext0,ext1,zEw,zEy,zE1,zS,zAK,decide_true,decide_false,e1,p1,p2,hRi.pCap,q1]
  rw[a3 _ _ (by simp[T.get_set]) (by simp[T.get_set]) (by simp[T.get_set]) (by simp[T.get_set]) (by simp[T.get_set])]
  simp only[zU,Nat.beq_refl,cond_true,cond_false,seqK,zGw,zO,↓reduceIte,Nat.reduceEqDiff,zI,zT,retK,zBE,zAr,zq,zo,zAH,zQ,cond_true,cond_false,zM,zK,zZ,zAE,zL,zAB,ze,zAC,zAN,Bool.not_true,Bool.not_false,zw,za,zE5,zEz,zE0,zE4,zE6,zE2,zEa,zEp,zEx,zE3,ext0,ext1,zEw,zEy,zE1,zS,zAK,decide_true,decide_false,e3]
  exact r5 _ k (by simp[T.get_set]) (by simp[T.get_set]) (by simp[T.get_set])
theorem zRR (mk:Nat->Nat->V)(hz:∀ i j,(mk i j).cells.length=1)(i j:Nat):∀ cap,j<cap->((zDA mk i cap).drop (j*1)).take 1=(mk i j).cells:=by
 intro cap
 induction cap with
 | zero=>intro h;omega
 | succ cap ih =>
  intro h
  have hl:=zKb mk hz i cap
  rw[zJj]
  by_cases e:j=cap
  ·subst e
   rw[<- hl,List.drop_left,List.take_of_length_le (by rw[hz];omega)]
  ·have:=ih (by omega)
   have h2:j*1+1<=cap*1:=by have:=Nat.mul_le_mul_right 1 (show j+1<=cap by omega);rw[Nat.succ_mul]at this;exact this
   rw[List.drop_append_of_le_length (by rw[hl];omega),List.take_append_of_le_length (by rw[List.length_drop,hl];omega),this]
theorem zLp (c:zD){N:Nat}(hN:9223372036854775808<N)(fm:Nat)(f:Nat->Nat->Nat)(hM:zKs c fm (fun i j=>V.int .u8 ((f i j:Nat):Int)))(lab:Nat->Nat)(K:Nat)(its:List ItZ)(hits:its.length<1000000)(hcap:∀ it ∈ its,it.cap<9223372036854775808)(L W x2 x3:V)(H:Heap)(hK:Bx H K [L,W,x2,x3])(hL:zFv (fun i=>lab i=2) H L (its.map ItZ.v))
  (hR:∀ (j:Nat) it,its[j]?=some it->zFx (fun i=>lab i=2*it.key+4) H it.v 1 it.cap (zDA (fun i j=>V.int .u8 ((f i j:Nat):Int)) j it.cap)) :
  ∀ (r pre:List ItZ) (Z:Tape) (m:Nat),its=pre++r->r.length<m->∀ (fr:T V) k,fr.get 0=some (.ptr K 0)->fr.get 1=some (.func fm [] [])->fr.get 8=some (.int .i64 (pre.length:Int)) ->
   zAP (zCn c N) m ⟨fr,H⟩ Z k=k (.exit 4) ⟨(T.s .leaf 0 (.ptr K 0)),H⟩ Z:=by
 have nk:∀ (i o:Nat),zf [.ptr i o]=some (.ptr i o):=fun _ _=>rfl
 have fa:∀ (i o:Nat),zC o [.ptr i 0]=some (.ptr i o):=fun _ _=>by simp[zC]
 have ld0:zH [.ptr K 0] H=some L:=zN hK.cells rfl
 have pl:pLen [L]=some (.int .i64 (its.length:Int)):=by have:=hL.rd.pLen;rwa [List.length_map]at this
 intro r
 induction r with
 | nil =>
  intro pre Z m he hm fr k f0 f1 f8
  obtain⟨m,rfl⟩:∃ j,m=j+1:=⟨m-1,by omega⟩
  have e1:decide (pre.length<its.length)=false:=decide_eq_false (by rw[he];simp)
  rw[zF]
  simp only[zCn,zA f0,zA f1,zA f8,nk,fa,ld0,pl,zO,↓reduceIte,Nat.reduceEqDiff,zI,zT,retK,zBE,zAr,zq,zo,zAH,zQ,cond_true,cond_false,zM,zK,zZ,zAE,zL,zAB,ze,zAC,zAN,Bool.not_true,Bool.not_false,zw,za,zE5,zEz,zE0,zE4,zE6,zE2,zEa,zEp,zEx,zE3,ext0,ext1,zEw,zEy,zE1,zS,zAK,decide_true,decide_false,e1]
  rfl
 | cons it r ih =>
  intro pre Z m he hm fr k f0 f1 f8
  obtain⟨m,rfl⟩:∃ j,m=j+1:=⟨m-1,by omega⟩
  have hit:its[pre.length]?=some it:=by rw[he];simp
  have hlen:pre.length<its.length:=by rw[he];simp
  have hc:=hcap it (by rw[he];simp)
  have e1:decide (pre.length<its.length)=true:=decide_eq_true hlen
  obtain⟨p,p1,p2⟩:=hL.rd.elem1 (i:=pre.length) (x:=it.v) (by rw[List.getElem?_map,hit];rfl)
  have hRi:=hR _ _ hit
  obtain⟨v',q1,q2,q3,q4⟩:=hRi.full (by omega)
  have hml:=zKb (fun i j=>V.int .u8 ((f i j:Nat):Int)) (fun _ _=>rfl) pre.length it.cap
  have a3:=fun fr k=>zLo c N fm f hM v' it.cap pre.length (by omega) hc (.ptr K 0) H q2 (fun j hj=>by
   obtain⟨id,o,u1,u2,u3⟩:=q4 H _ hRi j (by rw[hml];have:=Nat.mul_le_mul_right 1 (show j+1<=it.cap by omega);rw[Nat.succ_mul]at this;exact this)
   have hd:=zRR (fun i j=>V.int .u8 ((f i j:Nat):Int)) (fun _ _=>rfl) pre.length j it.cap hj
   exact⟨id,o,u1,u3 0 _ (by omega) (by have:=congrArg (fun l=>l[0]?) hd;simpa [V.cells] using this)⟩) it.cap 0 Z N (by omega) (by omega) fr k
  have e3:wr .i64 ((pre.length:Int)+Int.ofNat 1)=((pre++[it]).length:Int):=by rw[adI (by omega)];simp
  rw[zF]
  simp only[zCn,zA f0,zA f1,zA f8,nk,fa,ld0,pl,zO,↓reduceIte,Nat.reduceEqDiff,zI,zT,retK,zBE,zAr,zq,zo,zAH,zQ,cond_true,cond_false,zM,zK,zZ,zAE,zL,zAB,ze,zAC,zAN,Bool.not_true,Bool.not_false,zw,za,zE5,zEz,zE0,zE4,zE6,zE2,zEa,zEp,zEx,zE3,ext0,ext1,zEw,zEy,zE1,zS,zAK,decide_true,decide_false,e1,p1,p2,hRi.pCap,q1]
  rw[a3 _ _ (by simp[T.get_set]) (by simp[T.get_set]) (by simp[T.get_set]) (by simp[T.get_set]) (by simp[T.get_set])]
  simp only[zU,Nat.beq_refl,cond_true,cond_false,seqK,zG4,zO,↓reduceIte,Nat.reduceEqDiff,zI,zT,retK,zBE,zAr,zq,zo,zAH,zQ,cond_true,cond_false,zM,zK,zZ,zAE,zL,zAB,ze,zAC,zAN,Bool.not_true,Bool.not_false,zw,za,zE5,zEz,zE0,zE4,zE6,zE2,zEa,zEp,zEx,zE3,ext0,ext1,zEw,zEy,zE1,zS,zAK,decide_true,decide_false,e3]
  exact ih (pre++[it]) Z m (by rw[he];simp) (by simp at hm;omega) _ k (by simp[T.get_set]) (by simp[T.get_set]) (by simp[T.get_set])
theorem nodupK_byte {its:List ItZ}(h:(its.map ItZ.key).Nodup):∀ (p q:Nat) (it jt:ItZ),its[p]?=some it->its[q]?=some jt->it.key=jt.key->p=q:=by
 intro p q it jt hp hq e
 have h1:(its.map ItZ.key)[p]?=some it.key:=by rw[List.getElem?_map,hp];rfl
 have h2:(its.map ItZ.key)[q]?=some jt.key:=by rw[List.getElem?_map,hq];rfl
 obtain⟨l1,v1⟩:=List.getElem?_eq_some_iff.1 h1
 obtain⟨l2,v2⟩:=List.getElem?_eq_some_iff.1 h2
 exact(List.getElem_inj h).1 (by rw[v1,v2,e])
theorem zKz (c:zD){N:Nat}(hN:9223372036854775808<N)(fm:Nat)(f:Nat->Nat->Nat)(hM:zKs c fm (fun i j=>V.int .u8 ((f i j:Nat):Int)))(lab:Nat->Nat)(K:Nat)(its:List ItZ)(hits:its.length<1000000)
  (hSt:∀ H,WF H->zGP 1 lab H K its->∀ Z,∃ H',zGP 1 lab H' K its/\Only K H H'/\∀ q,c zCR [.ptr K 0] H Z q=q (.bool true) H' Z)
  (H:Heap) (hw:WF H) (hb:zGP 1 lab H K its) (Z:Tape) :
  ∃ H',Chg (fun i=>lab i≠0) H H'/\∀ q,zCO c N (.ptr K 0) (.func fm [] []) H Z q=q (.bool true) H' Z:=by
 obtain⟨H1,b1,g1,k1⟩:=hSt H hw hb Z
 obtain⟨L,W,held,h1,h2,h3,h4,h5,h6⟩:=b1
 have hcap:∀ it ∈ its,it.cap<9223372036854775808:=fun it h=>(h6 it h).2.2.2.1
 obtain⟨H2,a1,a2,a3,a4,a5⟩:=zLy c hN fm (fun i j=>V.int .u8 ((f i j:Nat):Int)) hM (fun _ _=>rfl) (fun _ _=>rfl) lab K its hits hcap (nodupK_byte h5) L W _ _ h2 its [] H1 Z N rfl (by omega) g1.wf h1 h3
  (fun j it hj=>by have:=(h6 it (List.mem_of_getElem? hj)).1.take 0;simpa using this)
 have a6:=fun fr k=>zLp c hN fm f hM lab K its hits hcap L W _ _ H2 a2 a3 a1 its [] Z N rfl (by omega) fr k
 obtain⟨H3,s1,s2,s3⟩:=a2.eStore a4.wf 0 .nils 1 rfl (by simp) (by omega) rfl Z
 have s2:Bx H3 K [.nils,W,.int .i64 held,.bool false]:=s2
 obtain⟨H4,t1,t2,t3⟩:=s2.eStore s3.wf 1 .nils 1 rfl (by simp) (by omega) rfl Z
 have t2:Bx H4 K [.nils,.nils,.int .i64 held,.bool false]:=t2
 obtain⟨H5,u1,u2,u3⟩:=t2.eStore t3.wf 2 (.int .i64 (.ofNat 0)) 1 rfl (by simp) (by omega) rfl Z
 refine⟨H5,?_,fun q=>?_⟩
 ·have n1:∀ {H H'},Only K H H'->Chg (fun i=>lab i≠0) H H':=fun h=>h.chg (by omega)
  exact((((n1 g1).trans (a4.weaken (Q:=fun i=>lab i≠0) fun i _ q=>by omega) fun _ _ q=>q).trans (n1 s3) fun _ _ q=>q).trans (n1 t3) fun _ _ q=>q).trans (n1 u3) fun _ _ q=>q
 ·have nk:∀ (i o:Nat),zf [.ptr i o]=some (.ptr i o):=fun _ _=>rfl
  have fa:∀ (i o:Nat),zC o [.ptr i 0]=some (.ptr i o):=fun _ _=>by simp[zC]
  simp only[zCO,k1,zO,↓reduceIte,Nat.reduceEqDiff,zI,zT,retK,zBE,zAr,zq,zo,zAH,zQ,cond_true,cond_false,zM,zK,zZ,zAE,zL,zAB,ze,zAC,zAN,Bool.not_true,Bool.not_false,zw,za,zE5,zEz,zE0,zE4,zE6,zE2,zEa,zEp,zEx,zE3,ext0,ext1,zEw,zEy,zE1,zS,zAK,decide_true,decide_false]
  rw[a5 _ _ (by simp[T.get_set]) (by simp[T.get_set]) (by simp[T.get_set])]
  simp only[zU,Nat.beq_refl,cond_true,cond_false,seqK,zHH,zO,↓reduceIte,Nat.reduceEqDiff,zI,zT,retK,zBE,zAr,zq,zo,zAH,zQ,cond_true,cond_false,zM,zK,zZ,zAE,zL,zAB,ze,zAC,zAN,Bool.not_true,Bool.not_false,zw,za,zE5,zEz,zE0,zE4,zE6,zE2,zEa,zEp,zEx,zE3,ext0,ext1,zEw,zEy,zE1,zS,zAK,decide_true,decide_false]
  rw[a6 _ _ (by simp[T.get_set]) (by simp[T.get_set]) (by simp[T.get_set])]
  simp only[zU,Nat.beq_refl,cond_true,cond_false,seqK,zGy,zO,↓reduceIte,Nat.reduceEqDiff,zI,zT,retK,zBE,zAr,zq,zo,zAH,zQ,cond_true,cond_false,zM,zK,zZ,zAE,zL,zAB,ze,zAC,zAN,Bool.not_true,Bool.not_false,zw,za,zE5,zEz,zE0,zE4,zE6,zE2,zEa,zEp,zEx,zE3,ext0,ext1,zEw,zEy,zE1,zS,zAK,decide_true,decide_false,nk,fa,s1,t1,u1]
end Go.Am.X

namespace Go.Am.X
def zSy (cs:List V)(n:Nat):Prop:=∃ la:List Nat,cs=ws .u8 la/\n=la.length/\la.length<1000000
abbrev SameBOk (c c0:zD)(N:Nat):Prop:=∀ a b H Z q,c zDo [a,b] H Z q=zDt c0 N a b H Z q
theorem sameAt_B {c c0:zD}{N:Nat}(hN:9223372036854775807<=N)(h:SameBOk c c0 N){its:List ItZ}(hg:∀ it ∈ its,zSy it.cs it.n):zKi c its:=by
 intro it hit a b H ra sa rb sb Z q
 obtain⟨la,e1,e2,e3⟩:=hg it hit
 rw[e1,e2]at ra rb
 rw[h,zOk c0 N hN a b la la (by omega) H ra rb Z q,decide_eq_true rfl]
theorem good_snocB {G:List V->Nat->Prop}{its:List ItZ}(hg:∀ it ∈ its,G it.cs it.n){x:V}{cap n:Nat}{cs:List V}{w:V}{key:Nat}(h:G cs n):∀ it ∈ its++[⟨x,cap,n,cs,w,key⟩],G it.cs it.n:=by
 intro it hit
 rcases List.mem_append.1 hit with e | e
 ·exact hg it e
 ·rw[List.mem_singleton]at e;subst e;exact h
theorem keepZ_byte {c c' c0:zD}{N:Nat}(hN:9223372036854775807<N)(he:∀ K x H Z q,c zAq [K,x] H Z q=zCt c' N K x H Z q)(hS:SameBOk c' c0 N):KeepZ c zAq 1 zSy :=
 KeepZ.mk fun lab H hw K its hb x cap n cs key hk hx hn hp hcap hs hlen hits hg hg' Z=>by
  obtain⟨its',H',Z',lab',h1,h2,h3,h4,h5⟩:=zLk c' hN lab H hw K its hb x cap n cs key hk hx hn hp hcap hs hlen hits (fun w=>sameAt_B (by omega) hS (good_snocB hg hg')) Z
  exact⟨its',H',Z',lab',h1,h2,h3,h4,fun q=>by rw[he];exact h5 q⟩
theorem apartZ_byte {c c' c'' c0:zD}{N:Nat}(hN:9223372036854775808<N)(he:∀ K x H Z q,c zBn [K,x] H Z q=zCO c' N K x H Z q)(hB:∀ i j H Z q,c' zF8 [i,j] H Z q=zJP c'' N i j H Z q)
  (hSt:∀ K H Z q,c' zCR [K] H Z q=zCQ c'' N K H Z q) (hS:SameBOk c'' c0 N):ApartZ c zBn 1 zF8 zSy :=
 ApartZ.mk fun lab K its hits hg H hw hb Z=>by
  obtain⟨H',h1,h2⟩:=zKz c' hN zF8 markB (fun i j hi hj H Z q=>by rw[hB];exact zQx c'' N i j hi hj H Z q) lab K its hits (fun H hw hb Z=>by
   obtain⟨H',i1,i2,i3⟩:=zK2 c'' (N:=N) (by omega) lab K its (sameAt_B (by omega) hS hg) hits H hw hb Z
   exact⟨H',i1,i2,fun q=>by rw[hSt];exact i3 q⟩) H hw hb Z
  exact⟨H',Z,h1,fun q=>by rw[he];exact h2 q⟩
end Go.Am.X

namespace Go.Am.X
theorem genL_cell {P:Nat->Prop}{H:Heap}{v:V}{n:Nat}{cs:List V}(h:GenL P H 2 v n cs)(hw:WF H){i:Nat}(hi:i<n) :
  ∃ id,zAS 2 [v,.int .i64 (i:Int)]=some (.ptr id (i*2))/\∀ (x:V),x.cells=[x]->x.scal=true->∀ Z,∃ H' cs',eStore 1 [.ptr id (i*2+1),x] H Z=some (.tup [],H',Z)/\GenL P H' 2 v n cs'/\Chg P H H'/\H'.size=H.size:=by
 rcases h with⟨_,h0,_⟩ | ⟨id,lo,ex,all,rfl,k1,k2,k3,k4,k5⟩
 ·omega
 ·refine⟨id,?_,fun x hx hs Z=>?_⟩
  ·have hb:Nat.blt i n=true:=zSk hi
   simp only[zAS,zBX,Nat.beq_refl,hb,Bool.and_self,cond_true,Nat.zero_add]
  ·obtain⟨H',r1,r2,r3,r4⟩:=k1.eStore hw (i*2+1) x 1 (by rw[hx];rfl) (by omega) (by rw[hx];simp[hs]) Z
   refine⟨H',_,r1,.inr ⟨id,lo,ex,_,rfl,r2,k2,?_,?_,rfl⟩,r3,r4⟩
   ·rw[hx];simp;omega
   ·rw[hx];simp;omega
theorem CacM.chgQ {P D Q:Nat->Prop}{H H':Heap}{c:Nat}{rows:List CRow}{puts:Int}(h:CacM P D H c rows puts)(hw:WF H)(hg:Chg Q H H')(nP:∀ i,P i->¬ Q i)(nD:∀ i,D i->¬ Q i)(nc:¬ Q c)(nr:∀ r ∈ rows,¬ Q r.id):CacM P D H' c rows puts:=by
 obtain⟨v,h1,h2⟩:=h.bx
 have hs:=hg.size
 exact⟨⟨v,h1.chg hw hg nc,GenL.chg h2 hw hg fun i _ hp=>nP i hp⟩,fun r hr=>(h.mem r hr).chg hw hg (fun i _ hd=>nD i hd) (nr r hr),h.sep,fun i hp=>Nat.lt_of_lt_of_le (h.pl i hp) hs,fun i hd=>Nat.lt_of_lt_of_le (h.dl i hd) hs,h.pc,h.dc,h.pr⟩
theorem l_law17_CK5 (c:zD)(N:Nat){va:Nat}{P:Nat->Prop}(hva:¬ P va){k0 k1 ho bo uv:V}{n:Nat}(hn:n<=2000000)(t3 t4 t5 t7:V):∀ (r j:Nat) (cs:List V) (H:Heap) (Z:Tape) (M:Nat),j+r=n->r<M->WF H->Bx H va [k0,k1,ho,bo,uv]->GenL P H 2 ho n cs ->
  ∃ H',Chg P H H'/\H'.size=H.size/\∀ (fr:T V) k,fr.get 3=some t3->fr.get 4=some t4->fr.get 5=some t5->fr.get 6=some (.ptr va 0)->fr.get 7=some t7->fr.get 9=some (.int .i64 (j:Int)) ->
   zAP (zEc c N) M ⟨fr,H⟩ Z k=k (.exit 2) ⟨(T.s (T.s (T.s (T.s .leaf 3 t3) 4 t4) 5 t5) 7 t7),H'⟩ Z:=by
 have fa:zC 1 [.ptr va 0]=some (.ptr va 1):=rfl
 have fa':zC 1 [.ptr va 1]=some (.ptr va 2):=rfl
 intro r
 induction r with
 | zero =>
  intro j cs H Z M hj hM hw hx hl
  obtain⟨M,rfl⟩:∃ x,M=x+1:=⟨M-1,by omega⟩
  have e1:decide (j<n)=false:=decide_eq_false (by omega)
  have l0:zH [.ptr va 2] H=some ho:=zN hx.cells rfl
  have pl:=hl.rd.pLen
  refine⟨H,Chg.refl hw,rfl,fun fr k f3 f4 f5 f6 f7 f9=>?_⟩
  rw[zF]
  simp only[zEc,zA f3,zA f4,zA f5,zA f6,zA f7,zA f9,fa,fa',l0,pl,zO,↓reduceIte,Nat.reduceEqDiff,zI,zT,retK,zBE,zAr,zq,zo,zAH,zQ,cond_true,cond_false,zM,zK,zZ,zAE,zL,zAB,ze,zAC,zAN,Bool.not_true,Bool.not_false,zw,za,zE5,zEz,zE0,zE4,zE6,zE2,zEa,zEp,zEx,zE3,ext0,ext1,zEw,zEy,zE1,zS,zAK,decide_true,decide_false,e1]
  rfl
 | succ r ih =>
  intro j cs H Z M hj hM hw hx hl
  obtain⟨M,rfl⟩:∃ x,M=x+1:=⟨M-1,by omega⟩
  have e1:decide (j<n)=true:=decide_eq_true (by omega)
  have l0:zH [.ptr va 2] H=some ho:=zN hx.cells rfl
  have pl:=hl.rd.pLen
  have e3:wr .i64 ((j:Int)+Int.ofNat 1)=((j+1:Nat):Int):=adI (by omega)
  obtain⟨id,p1,p2⟩:=genL_cell hl hw (i:=j) (by omega)
  have fb:zC 1 [.ptr id (j*2)]=some (.ptr id (j*2+1)):=rfl
  obtain⟨H1,cs1,s1,s2,s3,s4⟩:=p2 (.str (bs [115,112,111,105,108,116])) rfl rfl Z
  obtain⟨H',i1,i2,i3⟩:=ih (j+1) _ H1 Z M (by omega) (by omega) s3.wf (hx.chg hw s3 hva) s2
  refine⟨H',s3.trans i1 (fun _ _ h=>h),by omega,fun fr k f3 f4 f5 f6 f7 f9=>?_⟩
  rw[zF]
  simp only[zEc,zA f3,zA f4,zA f5,zA f6,zA f7,zA f9,fa,fa',l0,pl,zO,↓reduceIte,Nat.reduceEqDiff,zI,zT,retK,zBE,zAr,zq,zo,zAH,zQ,cond_true,cond_false,zM,zK,zZ,zAE,zL,zAB,ze,zAC,zAN,Bool.not_true,Bool.not_false,zw,za,zE5,zEz,zE0,zE4,zE6,zE2,zEa,zEp,zEx,zE3,ext0,ext1,zEw,zEy,zE1,zS,zAK,decide_true,decide_false,e1,p1,fb,s1,e3]
  exact i3 _ k (by simp[T.get_set]) (by simp[T.get_set]) (by simp[T.get_set]) (by simp[T.get_set]) (by simp[T.get_set]) (by simp[T.get_set])
theorem l_law17_CK4 (c:zD)(N:Nat){vb:Nat}{P:Nat->Prop}(hvb:¬ P vb){k0 ho bo:V}{n:Nat}(hn:n<=2000000)(t3 t4 t5:V):∀ (r j:Nat) (cs:List V) (H:Heap) (Z:Tape) (M:Nat),j+r=n->r<M->WF H->Bx H vb [k0,ho,bo]->GenL P H 2 ho n cs ->
  ∃ H',Chg P H H'/\H'.size=H.size/\∀ (fr:T V) k,fr.get 3=some t3->fr.get 4=some t4->fr.get 5=some t5->fr.get 7=some (.ptr vb 0)->fr.get 10=some (.int .i64 (j:Int)) ->
   zAP (zEf c N) M ⟨fr,H⟩ Z k=k (.exit 4) ⟨(T.s (T.s (T.s .leaf 3 t3) 4 t4) 5 t5),H'⟩ Z:=by
 have fa:zC 1 [.ptr vb 0]=some (.ptr vb 1):=rfl
 intro r
 induction r with
 | zero =>
  intro j cs H Z M hj hM hw hx hl
  obtain⟨M,rfl⟩:∃ x,M=x+1:=⟨M-1,by omega⟩
  have e1:decide (j<n)=false:=decide_eq_false (by omega)
  have l0:zH [.ptr vb 1] H=some ho:=zN hx.cells rfl
  have pl:=hl.rd.pLen
  refine⟨H,Chg.refl hw,rfl,fun fr k f3 f4 f5 f7 f10=>?_⟩
  rw[zF]
  simp only[zEf,zA f3,zA f4,zA f5,zA f7,zA f10,fa,l0,pl,zO,↓reduceIte,Nat.reduceEqDiff,zI,zT,retK,zBE,zAr,zq,zo,zAH,zQ,cond_true,cond_false,zM,zK,zZ,zAE,zL,zAB,ze,zAC,zAN,Bool.not_true,Bool.not_false,zw,za,zE5,zEz,zE0,zE4,zE6,zE2,zEa,zEp,zEx,zE3,ext0,ext1,zEw,zEy,zE1,zS,zAK,decide_true,decide_false,e1]
  rfl
 | succ r ih =>
  intro j cs H Z M hj hM hw hx hl
  obtain⟨M,rfl⟩:∃ x,M=x+1:=⟨M-1,by omega⟩
  have e1:decide (j<n)=true:=decide_eq_true (by omega)
  have l0:zH [.ptr vb 1] H=some ho:=zN hx.cells rfl
  have pl:=hl.rd.pLen
  have e3:wr .i64 ((j:Int)+Int.ofNat 1)=((j+1:Nat):Int):=adI (by omega)
  obtain⟨id,p1,p2⟩:=genL_cell hl hw (i:=j) (by omega)
  have fb:zC 1 [.ptr id (j*2)]=some (.ptr id (j*2+1)):=rfl
  obtain⟨H1,cs1,s1,s2,s3,s4⟩:=p2 (.str (bs [115,112,111,105,108,116])) rfl rfl Z
  obtain⟨H',i1,i2,i3⟩:=ih (j+1) _ H1 Z M (by omega) (by omega) s3.wf (hx.chg hw s3 hvb) s2
  refine⟨H',s3.trans i1 (fun _ _ h=>h),by omega,fun fr k f3 f4 f5 f7 f10=>?_⟩
  rw[zF]
  simp only[zEf,zA f3,zA f4,zA f5,zA f7,zA f10,fa,l0,pl,zO,↓reduceIte,Nat.reduceEqDiff,zI,zT,retK,zBE,zAr,zq,zo,zAH,zQ,cond_true,cond_false,zM,zK,zZ,zAE,zL,zAB,ze,zAC,zAN,Bool.not_true,Bool.not_false,zw,za,zE5,zEz,zE0,zE4,zE6,zE2,zEa,zEp,zEx,zE3,ext0,ext1,zEw,zEy,zE1,zS,zAK,decide_true,decide_false,e1,p1,fb,s1,e3]
  exact i3 _ k (by simp[T.get_set]) (by simp[T.get_set]) (by simp[T.get_set]) (by simp[T.get_set]) (by simp[T.get_set])
def hs5:List Hd:=hsM [53]
theorem small5:Small hs5:=by constructor <;> simp[hs5,hsM]
theorem fresh5:zOM hs5 0 0=true:=by kernel_rfl
theorem age5:ageT hs5 0 0=0:=by kernel_rfl
theorem ren5:renT [] hs5=hs5:=by kernel_rfl
theorem parse5:(zCH hs5).1=false:=by kernel_rfl
theorem drop5:zBy ageN hs5=hs5:=by kernel_rfl
structure RowK (lb:List Nat) (x:CRow):Prop where
 url:x.url=[117]
 vs:x.vs=[]
 st:x.st=200
 hs:x.hs=hs5
 bd:x.bd=ws .u8 lb
 sto:x.sto=0
def labK (L:Lab)(a p q s t r:Nat):Lab:=fun i=>if i<a then L i else if p<=i/\i<q then(1,2*(2*r)+4)else if s<=i/\i<t then(1,2*(2*r+1)+4)else(0,0)
theorem labK_lt {L:Lab}{a p q s t r i:Nat}(h:i<a):labK L a p q s t r i=L i:=if_pos h
theorem labK_1 {L:Lab}{a p q s t r i:Nat}(h:a<=i)(h1:p<=i)(h2:i<q):labK L a p q s t r i=(1,2*(2*r)+4):=by unfold labK;rw[if_neg (by omega),if_pos ⟨h1,h2⟩]
theorem labK_2 {L:Lab}{a p q s t r i:Nat}(h:a<=i)(h0:¬(p<=i/\i<q))(h1:s<=i)(h2:i<t):labK L a p q s t r i=(1,2*(2*r+1)+4):=by unfold labK;rw[if_neg (by omega),if_neg h0,if_pos ⟨h1,h2⟩]
theorem labK_0 {L:Lab}{a p q s t r i:Nat}(h:a<=i)(h0:¬(p<=i/\i<q))(h1:¬(s<=i/\i<t)):labK L a p q s t r i=(0,0):=by unfold labK;rw[if_neg (by omega),if_neg h0,if_neg h1]
theorem zJc {L:Lab}{b i:Nat}(h:L i=(0,0)):¬ OfB L b i:=fun q=>q.2.1 (by rw[h])
theorem sel_0K {L:Lab}{b i:Nat}(h:L i=(0,0)):selL b L i=0:=by unfold selL;rw[h];simp
theorem ws_scalK (la:List Nat):(ws .u8 la).all V.scal=true:=by
 simp[ws,List.all_map,Function.comp_def,V.scal]
end Go.Am.X

