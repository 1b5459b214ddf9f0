/- The abstract machine, printed functions of the program, and what they are shown to be. -/
import Derived.Test.YtejpgcemblankaaGreatDoorCUSL7
set_option linter.unusedSimpArgs false
set_option linter.unusedVariables false
set_option linter.unusedSectionVars false
set_option maxRecDepth 100000
namespace Go.Am.X
abbrev FndOk0 (cc:zC):Prop:=∀ {P D:Nat→Prop} {H:Heap} {c:Nat} {rows:List CRow} {puts:Int},CacM P D H c rows puts→WF H→rows.length≤1000→(∀ r ∈ rows,OkVs r)→∀ (url:Bs) {x:CRow},zQV url [] rows=some x→Small x.hs→(sel etagN x.hs).length=0→(sel lastN x.hs).length=0→x.bd=[]→x.sto=0→ageT x.hs 0 0=0→∀ τ,
  ∃ P' H' τ' hvF bvF,CacM P' D H' c (useT x rows) puts∧(∀ i,i<H.size→P' i→P i)∧Chg (fun i=>P i∨i=c) H H'∧∀ q,cc zBi [.ptr c 0,.str url,.nils,.int .i64 (.ofNat 0)] H τ q=q (.agg [.int .i64 (if zJm [] x 0=true then 2 else 1),.int .i64 x.st,hvF,bvF,.nils]) H' τ'
abbrev PutOk0 (cc:zC):Prop:=∀ {P D E:Nat→Prop} {H:Heap} {c:Nat} {rows:List CRow} {puts:Int},CacM P D H c rows puts→WF H→rows.length≤100→(∀ r ∈ rows,OkVs r)→0≤puts→puts<4611686018427387904→∀ (url:Bs) {hs:List Hd},Small hs→(zBk hs).1=false→(zBZ zNb hs).contains [42]=false→zGP hs=[]→∀ {hv:V},(∀ i,E i→i<H.size∧¬ P i∧i≠c)→DatP E H 2 hv hs.length (hcells hs)→∀ τ,
  ∃ P' D' H' τ' x,CacM P' D' H' c (cutC (rows.filter fun r=>!zI2 url [] r)++[x]) (puts+1)∧(x.url=url∧x.vs=[]∧x.st=200∧x.hs=hs∧x.bd=[]∧x.sto=0)∧(∀ i,i<H.size→P' i→P i)∧(∀ i,i<H.size→D' i→D i)∧Chg (fun i=>P i∨i=c) H H' ∧
   ∀ q,cc zD3 [.ptr c 0,.str url,.nils,.agg [.int .i64 (.ofNat 200),hv,.nils],.int .i64 (.ofNat 0)] H τ q=q (.bool true) H' τ'
structure SU (B:Nat) (H:Heap) (c:Nat) (rows:List CRow) (puts:Int) (P D:Nat→Prop):Prop where
 m:CacM P D H c rows puts
 p:∀ j,j<B→¬ P j∧¬ D j
 c:B≤c
 com:∀ r ∈ rows,ComU r∧(r.hs=hsU∨r.hs=[])
 len:rows.length≤17
theorem SU.size {B:Nat}{H:Heap}{c:Nat}{rows:List CRow}{puts:Int}{P D:Nat→Prop}(h:SU B H c rows puts P D)(hw:WF H):B≤H.size:=by
 obtain⟨v,h1,_⟩:=h.m.bx
 have:=h1.lt hw
 have:=h.c
 omega
theorem hs_facts {hs:List Hd}(h:hs=hsU∨hs=[]):Small hs∧(sel etagN hs).length=0∧(sel lastN hs).length=0∧ageT hs 0 0=0∧(zBk hs).1=false∧(zBZ zNb hs).contains [42]=false∧zGP hs=[]:=by
 rcases h with rfl | rfl
 ·exact⟨smallK,selK.1,selK.2,ageK,parseK,varyK.1,varyK.2⟩
 ·exact⟨small0,rfl,rfl,age0,parse0.1,vary0.1,vary0.2⟩
theorem SU.find {cc:zC}(hF:FndOk0 cc){B:Nat}{H:Heap}{c:Nat}{X Y:List CRow}{x:CRow}{puts:Int}{P D:Nat→Prop}(h:SU B H c (X++x::Y) puts P D)(hw:WF H)(hu:∀ r ∈ X++Y,r.url≠x.url)(τ:Tape) :
  ∃ P' H' τ' hvF bvF,SU B H' c (X++Y++[x]) puts P' D∧Gr B H H'∧∀ q,cc zBi [.ptr c 0,.str x.url,.nils,.int .i64 (.ofNat 0)] H τ q=q (.agg [.int .i64 (if zJm [] x 0=true then 2 else 1),.int .i64 x.st,hvF,bvF,.nils]) H' τ':=by
 have hsz:=h.size hw
 have hxm:x ∈ X++x::Y:=by simp
 have hmem:∀ r,r ∈ X++Y→r ∈ X++x::Y:=fun r hr=>by
  rcases List.mem_append.1 hr with hr | hr <;> simp[hr]
 obtain⟨f1,f2,f3,f4,_⟩:=hs_facts (h.com x hxm).2
 have hcx:=(h.com x hxm).1
 have hfind:zQV x.url [] (X++x::Y)=some x:=by
  unfold zQV
  rw[parse0.1,if_neg (by decide)]
  exact find_one ⟨hcx.vs,rfl⟩ fun r hr=>⟨(h.com r (hmem r hr)).1.vs,hu r hr⟩
 obtain⟨P',H',τ',hvF,bvF,a1,a2,a3,a4⟩:=hF h.m hw (by have:=h.len;omega) (fun r hr=>by have:=(h.com r hr).1.vs;exact⟨by rw[this];simp,by rw[this];simp⟩) x.url hfind f1 f2 f3 hcx.bd hcx.sto f4 τ
 rw[use_mid (h.m.mem x hxm) (fun r hr=>⟨h.m.mem r (hmem r hr),hu r hr⟩)]at a1
 refine⟨P',H',τ',hvF,bvF,⟨a1,fun j hj=>⟨fun hp=>(h.p j hj).1 (a2 j (by omega) hp),(h.p j hj).2⟩,h.c,fun r hr=>?_,by have:=h.len;simp at this ⊢;omega⟩,a3.gr hsz (fun j hj hq=>hq.elim (h.p j hj).1 (fun e=>by have:=h.c;omega)),a4⟩
 rcases List.mem_append.1 hr with hr | hr
 ·exact h.com r (hmem r hr)
 ·rw[List.mem_singleton.1 hr];exact h.com x hxm
theorem uU_add {i:Nat}(hi:i<80):zI4 .add (bs [117]) (dig i)=some (.str (uU i)):=by
 have:(dig i).length≤10:=by
  have:=(show ∀ i:Fin 80,(dig i.1).length≤10 by decide) ⟨i,hi⟩
  exact this
 exact str_add (by rw[show(bs [117]).length=1 from rfl];omega)
section
variable (cc:zC) {N:Nat} (hPut:PutOk0 cc) (hF:FndOk0 cc) (hLen:∀ {P D:Nat→Prop} {H:Heap} {c:Nat} {rows:List CRow} {puts:Int},CacM P D H c rows puts→∀ τ q,cc zEC [.ptr c 0] H τ q=q (.int .i64 (rows.length:Int)) H τ)
 (hDig:∀ n:Nat,n<100000000→∀ H τ q,cc zEk [.int .i64 (n:Int)] H τ q=q (.str (dig n)) H τ)
include hPut hF hLen hDig
theorem l_cuse (B0 n e:Nat)(hn:n≤80)(he0:1≤e)(he:e≤14)(c:Nat):∀ (r i:Nat) (H:Heap) (τ:Tape) (M:Nat) (A B:List CRow) (k:CRow) (P D:Nat→Prop),i+r=n→r<M→WF H→SU B0 H c (A++k::B) ((i:Int)+1) P D→InvU i A k B→(i=0∧B.length=0∨∃ q' r',i=q' * e+r'∧1≤r'∧r'≤e∧B.length≤r') →
  ∃ H' τ' A' B' k' P' D',WF H'∧Gr B0 H H'∧SU B0 H' c (A'++k' :: B') ((n:Int)+1) P' D'∧InvU n A' k' B'∧∀ (fr:T V) kk,fr.get 0=some (.int .i64 (n:Int))→fr.get 1=some (.int .i64 (e:Int))→fr.get 5=some (.ptr c 0)→fr.get 6=some (.int .i64 (i:Int)) →
   zAf (zCu cc N) M ⟨fr,H⟩ τ kk=kk (.exit 0) ⟨(T.set .leaf 5 (.ptr c 0)),H'⟩ τ':=by
 intro r
 induction r with
 | zero =>
  intro i H τ M A B k P D hi hM hw hs hv hb
  obtain⟨M,rfl⟩:∃ j,M=j+1:=⟨M-1,by omega⟩
  obtain rfl:i=n:=by omega
  have e1:decide ((i:Int)<(i:Int))=false:=decide_eq_false (by omega)
  refine⟨H,τ,A,B,k,P,D,hw,Gr.refl hw,hs,hv,fun fr kk f0 f1 f5 f6=>?_⟩
  rw[zG]
  simp only[zCu,zA f0,zA f1,zA f5,zA f6,zK,e1,zL]
  rfl
 | succ r ih =>
  intro i H τ M A B k P D hi hM hw hs hv hb
  obtain⟨M,rfl⟩:∃ j,M=j+1:=⟨M-1,by omega⟩
  have hi80:i<80:=by omega
  have e1:decide ((i:Int)<(n:Int))=true:=decide_eq_true (by omega)
  have e3:wr .i64 ((i:Int)+Int.ofNat 1)=((i+1:Nat):Int):=adI (by omega)
  have hsz:=hs.size hw
  have hB14:B.length≤14:=by
   rcases hb with⟨_,h⟩ | ⟨q',r',_,_,h1,h2⟩ <;> omega
  obtain⟨p1,_,_,_,p5,p6,p7⟩:=hs_facts (hs:=[]) (.inr rfl)
  have hl16:(A++k::B).length≤17:=hs.len
  obtain⟨P1,D1,H1,τ1,x,a1,⟨x1,x2,x3,x4,x5,x6⟩,a2,a2d,a3,a4⟩:=hPut (E:=fun _=>False) hs.m hw (by omega) (fun r hr=>by have:=(hs.com r hr).1.vs;exact⟨by rw[this];simp,by rw[this];simp⟩) (by omega) (by omega) (uU i) p1 p5 p6 p7 (hv:=.nils) (fun j hj=>hj.elim) (DatP.nil _ _ _) τ
  have hxU:Up i x:=⟨x1,x4,⟨x2,x6,x5,x3⟩⟩
  obtain⟨A1,hrows,hv1,hA1⟩:=hv.put hi80 hB14 hxU
  rw[hrows]at a1
  have pu:((i:Int)+1+1)=((i+1:Nat):Int)+1:=by omega
  rw[pu]at a1
  have s1:SU B0 H1 c (A1++k::(B++[x])) (((i+1:Nat):Int)+1) P1 D1:=by
   refine⟨a1,fun j hj=>⟨fun h=>(hs.p j hj).1 (a2 j (by omega) h),fun h=>(hs.p j hj).2 (a2d j (by omega) h)⟩,hs.c,fun r hr=>?_,by have:=hv1.len;simp at this ⊢;omega⟩
   have:=hv1.com r hr
   refine⟨this,?_⟩
   rcases List.mem_append.1 hr with hr | hr
   ·obtain⟨j,_,hj⟩:=hv1.u r (by simp[hr]);exact .inr hj.2.1
   ·rcases List.mem_cons.1 hr with rfl | hr
    ·exact .inl hv1.k.2.1
    ·obtain⟨j,_,hj⟩:=hv1.u r (List.mem_append.2 (.inr hr));exact .inr hj.2.1
  have g1:Gr B0 H H1:=a3.gr hsz (fun j hj hq=>hq.elim (hs.p j hj).1 (fun e'=>by have:=hs.c;omega))
  have ku:∀ r ∈ A1++(B++[x]),r.url≠k.url:=fun r hr=>by
   obtain⟨j,_,hj⟩:=hv1.u r hr
   rw[hj.1,hv1.k.1];exact zRa j
  have xu:∀ r ∈ A1++B,r.url≠x.url:=fun r hr=>by
   have hr':r ∈ A++B:=by
    rcases List.mem_append.1 hr with hr | hr
    ·simp[hA1 r hr]
    ·simp[hr]
   obtain⟨j,hj,hu⟩:=hv.u r hr'
   rw[hu.1,x1]
   intro h
   have:=uU_inj (by omega) hi80 h
   omega
  have hkx:k.url≠x.url:=by rw[hv1.k.1,x1];exact(zRa i).symm
  have fk:zJm [] k 0=true:=by unfold zJm;rw[hv1.k.2.1,hv1.k.2.2.sto,freshK,parse0.2];rfl
  have fx:zJm [] x 0=false:=by unfold zJm;rw[x4,x6,fresh0];rfl
  have ku1:k.url=keepU:=hv1.k.1
  have kd:=fun H τ q=>hDig i (by omega) H τ q
  have ua:=uU_add hi80
  have pb:zEh [(.int .i64 (.ofNat 0)),.nils,.nils] [(0,1)] [(.int .i64 (.ofNat 200))]=some (.agg [.int .i64 (.ofNat 200),.nils,.nils]):=rfl
  have rem:∀ (q:V→Ans),binK .rem (.int .i64 (i:Int)) (.int .i64 (e:Int)) q=q (.int .i64 ((i % e:Nat):Int)):=fun q=>by rw[zOm _ _ _ (by omega),Int.ofNat_tmod]
  have bk:bs [107,101,101,112]=keepU:=rfl
  have pf:∀ (s:Int) (a b d:V),zHv 0 1 false [.agg [.int .i64 s,a,b,d,.nils]]=some (.int .i64 s):=fun _ _ _ _=>rfl
  by_cases hz:i % e=0
  ·-- the kept one is used
   obtain⟨P2,H2,τ2,h2v,b2v,s2,g2,k2⟩:=SU.find hF s1 a3.wf ku τ1
   rw[fk,if_pos rfl,ku1]at k2
   have s2':SU B0 H2 c ((A1++B)++x::[k]) (((i+1:Nat):Int)+1) P2 D1:=by
    have:A1++(B++[x])++[k]=(A1++B)++x::[k]:=by simp
    rw[← this];exact s2
   obtain⟨P3,H3,τ3,h3v,b3v,s3,g3,k3⟩:=SU.find hF s2' g2.wf (fun r hr=>by
    rcases List.mem_append.1 hr with hr | hr
    ·exact xu r hr
    ·rw[List.mem_singleton.1 hr];exact hkx) τ2
   rw[fx,if_neg (by decide),x1]at k3
   have s3':SU B0 H3 c ((A1++B)++k::[x]) (((i+1:Nat):Int)+1) P3 D1:=by
    have:A1++B++[k]++[x]=(A1++B)++k::[x]:=by simp
    rw[← this];exact s3
   have hv3:InvU (i+1) (A1++B) k [x]:=⟨hv1.k,fun r hr=>hv1.u r (by simpa using hr),by have:=hv1.len;simp at this ⊢;omega⟩
   obtain⟨H',τ',A',B',k',P',D',r1,r2,r3,r4,r5⟩:=ih (i+1) H3 τ3 M (A1++B) [x] k P3 D1 (by omega) (by omega) g3.wf s3' hv3 (by
    refine .inr ⟨i / e,1,?_,Nat.le_refl _,he0,by simp⟩
    have:=Nat.div_add_mod i e
    rw[hz,Nat.mul_comm]at this
    omega)
   refine⟨H',τ',A',B',k',P',D',r1,((g1.trans g2 (Nat.le_refl _)).trans g3 (Nat.le_refl _)).trans r2 (Nat.le_refl _),r3,r4,fun fr kk f0 f1 f5 f6=>?_⟩
   have ez:(((i % e:Nat):Int) == Int.ofNat 0)=true:=by rw[hz];rfl
   have kl:=hLen s2.m
   have hl2:(A1++(B++[x])++[k]).length≤16:=by have:=hv1.len;simp at this ⊢;omega
   have e16:decide (Int.ofNat 16<(((A1++(B++[x])++[k]).length:Nat):Int))=false:=decide_eq_false (by have:Int.ofNat 16=16:=rfl;omega)
   have n2:((2:Int) != Int.ofNat 2)=false:=rfl
   have n1:((1:Int) != Int.ofNat 1)=false:=rfl
   rw[zG]
   simp only[zCu,zA f0,zA f1,zA f5,zA f6,zK,e1,zN,kd,zAq,ua,zI,pb,a4,zBx,Bool.not_true,zL,rem,zAi,ez,zC8,retK,bk,k2,zk,pf,zDB,n2,zP,cond_true,kl,zAQ,e16,zC9,k3,n1,cond_false,ze,e3]
   exact r5 _ kk (by simp[T.get_set]) (by simp[T.get_set]) (by simp[T.get_set]) (by simp[T.get_set])
  ·-- the new one stays the last
   have s1':SU B0 H1 c ((A1++k::B)++x::[]) (((i+1:Nat):Int)+1) P1 D1:=by
    have:A1++k::(B++[x])=(A1++k::B)++x::[]:=by simp
    rw[← this];exact s1
   obtain⟨P3,H3,τ3,h3v,b3v,s3,g3,k3⟩:=SU.find hF s1' a3.wf (fun r hr=>by
    rw[List.append_nil]at hr
    rcases List.mem_append.1 hr with hr | hr
    ·exact xu r (by simp[hr])
    ·rcases List.mem_cons.1 hr with rfl | hr
     ·exact hkx
     ·exact xu r (by simp[hr])) τ1
   rw[fx,if_neg (by decide),x1]at k3
   have s3':SU B0 H3 c (A1++k::(B++[x])) (((i+1:Nat):Int)+1) P3 D1:=by
    have:A1++k::B++[]++[x]=A1++k::(B++[x]):=by simp
    rw[← this];exact s3
   obtain⟨q',r',q1,q2,q3,q4⟩:∃ q' r',i=q' * e+r'∧1≤r'∧r'≤e∧B.length≤r':=by
    rcases hb with⟨h0,_⟩ | h
    ·exfalso;apply hz;rw[h0];exact Nat.zero_mod e
    ·exact h
   have hre:r' < e:=by
    rcases Nat.lt_or_ge r' e with h | h
    ·exact h
    ·exfalso;apply hz
     have:r'=e:=by omega
     rw[q1,this,show q' * e+e=e*(q'+1)by rw[Nat.mul_add,Nat.mul_comm];omega]
     exact Nat.mul_mod_right _ _
   obtain⟨H',τ',A',B',k',P',D',r1,r2,r3,r4,r5⟩:=ih (i+1) H3 τ3 M A1 (B++[x]) k P3 D1 (by omega) (by omega) g3.wf s3' hv1 (.inr ⟨q',r'+1,by omega,by omega,by omega,by simp;omega⟩)
   refine⟨H',τ',A',B',k',P',D',r1,(g1.trans g3 (Nat.le_refl _)).trans r2 (Nat.le_refl _),r3,r4,fun fr kk f0 f1 f5 f6=>?_⟩
   have ez:(((i % e:Nat):Int) == Int.ofNat 0)=false:=by rw[beq_eq_false_iff_ne];have:Int.ofNat 0=0:=rfl;omega
   have kl:=hLen s1.m
   have hl2:(A1++k::(B++[x])).length≤16:=by have:=hv1.len;simp at this ⊢;omega
   have e16:decide (Int.ofNat 16<(((A1++k::(B++[x])).length:Nat):Int))=false:=decide_eq_false (by have:Int.ofNat 16=16:=rfl;omega)
   have n1:((1:Int) != Int.ofNat 1)=false:=rfl
   rw[zG]
   simp only[zCu,zA f0,zA f1,zA f5,zA f6,zK,e1,zN,kd,zAq,ua,zI,pb,a4,zBx,Bool.not_true,zL,rem,zAi,ez,zBM,zCg,zP,cond_false,kl,zAQ,e16,zC9,retK,zk,k3,pf,zDB,n1,ze,e3]
   exact r5 _ kk (by simp[T.get_set]) (by simp[T.get_set]) (by simp[T.get_set]) (by simp[T.get_set])
end
end Go.Am.X

namespace Go.Am.X
abbrev WithinOkU (c:zC):Prop:=∀ (n:Int) {h:Nat},h<4611686018427387903→∀ (H:Heap) (τ:Tape),∃ m:Nat,m≤h∧∀ q,c zEN [.int .i64 n,.int .i64 (.ofNat 0),.int .i64 (h:Int)] H τ q=q (.int .i64 (m:Int)) H τ
abbrev NewOkU (c:zC):Prop:=∀ {H:Heap},WF H→∀ τ,∃ H',CacM (fun _=>False) (fun _=>False) H' H.size [] 0∧Gr H.size H H'∧H'.size=H.size+1∧∀ q,c zKv [] H τ q=q (.ptr H.size 0) H' τ
theorem zQY (c:zC)(N:Nat)(s:Bs)(H:Heap)(τ:Tape)(q:KV):zMk c N (.str s) H τ q=q (.sl H.size 0 1 1 none 2) (H.new [.str [67,97,99,104,101,45,67,111,110,116,114,111,108],.str s] 2 false) τ:=by
 have pb:zEh [(.str []),(.str [])] [(0,1),(1,1)] [.str (bs [67,97,99,104,101,45,67,111,110,116,114,111,108]),.str s]=some (.agg [.str [67,97,99,104,101,45,67,111,110,116,114,111,108],.str s]):=rfl
 have e0:zR 1 2 [(.str []),(.str [])] [(0,2)] [.agg [.str [67,97,99,104,101,45,67,111,110,116,114,111,108],.str s]] H τ=some (.sl H.size 0 1 1 none 2,H.new [.str [67,97,99,104,101,45,67,111,110,116,114,111,108],.str s] 2 false,τ):=rfl
 simp only[zMk,pb,zI,e0,zk]
theorem zMq (cc:zC){N:Nat}(hN:9223372036854775807≤N)(hNew:NewOkU cc)(hCc:∀ (s:Bs) (H:Heap) (τ:Tape) (q:KV),cc zMp [.str s] H τ q=q (.sl H.size 0 1 1 none 2) (H.new [.str [67,97,99,104,101,45,67,111,110,116,114,111,108],.str s] 2 false) τ)(hPut:PutOk0 cc)(hF:FndOk0 cc)
  (hLen:∀ {P D:Nat→Prop} {H:Heap} {c:Nat} {rows:List CRow} {puts:Int},CacM P D H c rows puts→∀ τ q,cc zEC [.ptr c 0] H τ q=q (.int .i64 (rows.length:Int)) H τ) (hDig:∀ n:Nat,n<100000000→∀ H τ q,cc zEk [.int .i64 (n:Int)] H τ q=q (.str (dig n)) H τ) (hW:WithinOkU cc) (hK:∀ H τ q,cc zGx [] H τ q=q (.bool true) H τ)
  (a b:Int) (H:Heap) (hw:WF H) (τ:Tape):∃ H' τ',Gr H.size H H'∧∀ q,zF4 cc N (.int .i64 a) (.int .i64 b) H τ q=q (.bool true) H' τ':=by
 obtain⟨H1,c1,g1,z1,k1⟩:=hNew hw τ
 have en:lPeq false [.ptr H.size 0,.nilp] H1=some (.bool false):=rfl
 have kc:=hCc [109,97,120,45,97,103,101,61,57] H1 τ
 have g2:=Gr.new g1.wf [.str [67,97,99,104,101,45,67,111,110,116,114,111,108],.str [109,97,120,45,97,103,101,61,57]] 2 false
 have b2:Bx (H1.new [.str [67,97,99,104,101,45,67,111,110,116,114,111,108],.str [109,97,120,45,97,103,101,61,57]] 2 false) H1.size [.str [67,97,99,104,101,45,67,111,110,116,114,111,108],.str [109,97,120,45,97,103,101,61,57]]:=Bx.new H1 _ 2 false (by simp)
 have z2:(H1.new [.str [67,97,99,104,101,45,67,111,110,116,114,111,108],.str [109,97,120,45,97,103,101,61,57]] 2 false).size=H1.size+1:=rfl
 generalize H1.new [.str [67,97,99,104,101,45,67,111,110,116,114,111,108],.str [109,97,120,45,97,103,101,61,57]] 2 false=H2 at kc g2 b2 z2
 have c2:=c1.gr g1.wf g2
 have d2:DatP (fun i=>i=H1.size) H2 2 (.sl H1.size 0 1 1 none 2) hsU.length (hcells hsU):=by
  obtain⟨room,ver,pl,st,fr,h1,h2,h3,_⟩:=b2
  exact .inr ⟨H1.size,0,1,none,_,room,H1.size,ver,true,pl,st,fr,ver,rfl,h1,h2,h3,rfl,rfl,rfl,rfl⟩
 obtain⟨P3,D3,H3,τ3,x,c3,⟨x1,x2,x3,x4,x5,x6⟩,p3,p3d,q3,k3⟩:=hPut (E:=fun i=>i=H1.size) c2 g2.wf (by simp) (fun r hr=>by simp at hr) (by omega) (by omega) keepU smallK parseK varyK.1 varyK.2 (hv:=.sl H1.size 0 1 1 none 2) (fun i hi=>⟨by omega,fun h=>h,by omega⟩) d2 τ
 have er:cutC (([]:List CRow).filter fun r=>!zI2 keepU [] r)++[x]=[]++x::[]:=rfl
 rw[er]at c3
 have g12:=g1.trans g2 g1.size
 have s12:=g12.size
 have g3:Gr H.size H2 H3:=q3.gr s12 (fun i hi h=>h.elim (fun h=>h) (fun e=>by omega))
 have hkp:Kp x:=⟨x1,x4,⟨x2,x6,x5,x3⟩⟩
 have s3:SU H.size H3 H.size ([]++x::[]) (((0:Nat):Int)+1) P3 D3:=⟨by simpa using c3,fun j hj=>⟨fun h=>p3 j (by omega) h,fun h=>p3d j (by omega) h⟩,Nat.le_refl _,fun r hr=>by
  rw[List.nil_append,List.mem_singleton]at hr
  subst hr;exact⟨hkp.2.2,.inl hkp.2.1⟩,by simp⟩
 have i3:InvU 0 [] x []:=⟨hkp,fun y hy=>by simp at hy,by simp⟩
 obtain⟨n,hn,kn⟩:=hW a (h:=80) (by omega) H3 τ3
 obtain⟨e,he,ke⟩:=hW b (h:=13) (by omega) H3 τ3
 have kn':∀ q,cc zEN [.int .i64 a,.int .i64 (.ofNat 0),.int .i64 (.ofNat 80)] H3 τ3 q=q (.int .i64 (n:Int)) H3 τ3:=kn
 have ke':∀ q,cc zEN [.int .i64 b,.int .i64 (.ofNat 0),.int .i64 (.ofNat 13)] H3 τ3 q=q (.int .i64 (e:Int)) H3 τ3:=ke
 have ee:wr .i64 (Int.ofNat 1+(e:Int))=((e+1:Nat):Int):=by have:Int.ofNat 1=1:=rfl;rw[zEb (by omega) (by omega)];omega
 obtain⟨H4,τ4,A,B,k,P4,D4,w4,g4,s4,v4,l4⟩:=l_cuse cc (N:=N) hPut hF hLen hDig H.size n (e+1) hn (by omega) (by omega) H.size n 0 H3 τ3 N [] [] x P3 D3 (by omega) (by omega) g3.wf s3 i3 (.inl ⟨rfl,rfl⟩)
 obtain⟨P5,H5,τ5,hvF,bvF,s5,g5,k5⟩:=SU.find hF s4 w4 (fun r hr=>by obtain⟨j,_,hj⟩:=v4.u r hr;rw[hj.1,v4.k.1];exact zRa j) τ4
 have fk:zJm [] k 0=true:=by unfold zJm;rw[v4.k.2.1,v4.k.2.2.sto,freshK,parse0.2];rfl
 rw[fk,if_pos rfl,v4.k.1]at k5
 have bk:bs [107,101,101,112]=keepU:=rfl
 have bm:bs [109,97,120,45,97,103,101,61,57]=[109,97,120,45,97,103,101,61,57]:=rfl
 have pb:zEh [(.int .i64 (.ofNat 0)),.nils,.nils] [(0,1),(1,1)] [(.int .i64 (.ofNat 200)),.sl H1.size 0 1 1 none 2]=some (.agg [.int .i64 (.ofNat 200),.sl H1.size 0 1 1 none 2,.nils]):=rfl
 have pf:∀ (s:Int) (a b d:V),zHv 0 1 false [.agg [.int .i64 s,a,b,d,.nils]]=some (.int .i64 s):=fun _ _ _ _=>rfl
 have e2:((2:Int) == Int.ofNat 2)=true:=rfl
 refine⟨H5,τ5,(((g12.trans g3 (Nat.le_refl _))).trans g4 (Nat.le_refl _)).trans g5 (Nat.le_refl _),fun q=>?_⟩
 simp only[zF4,k1,en,zI,zC9,retK,zk,bm,kc,pb,bk,k3,zBx,Bool.not_true,zP,cond_false,zL,kn',ke',ze,ee]
 rw[l4 _ _ (by simp[T.get_set]) (by simp[T.get_set]) (by simp[T.get_set]) (by simp[T.get_set])]
 simp only[zY,Nat.beq_refl,cond_true,seqK,zI6,zT,↓reduceIte,bk,k5,pf,zI,zAi,e2,zC8,hK,retK,zk,zP]
section
variable {N:Nat} (hN:9223372036854775808<N)
include hN
theorem cu_fnd:FndOk0 (CR zH N 7):=by
 intro P D H c rows puts hc hw hl hok url x hfind hsx he hm hbd hsto hage τ
 obtain⟨P',H',τ',hvF,bvF,nh,ch,a1,a2,_,_,a3,a4⟩:=zLB (CR zH N 6) N (cu_fi hN 3) (cu_use hN 2) (cu_cop hN 4) (cu_age hN 5) (cu_frs hN 5) (cu_set hN 5) (cu_get hN 5) (cu_par hN 5) (E:=fun _=>False) hc hw hl hok url small0 (av:=.nils) (fun i h=>h.elim) (DatP.nil _ _ _) hfind hsx (by have:=hsx.len;omega) (fun h hh=>by have:=(hsx.all h hh).1;omega) (by rw[hbd];simp) he hm
  (now:=0) (by unfold InI zLT zDu;omega) (by rw[hsto];unfold InI zLT zDu;omega) (s:=[48]) (by decide) (fun H' _ τ q=>by
   rw[hsto,hage]
   exact zRd (c:=CR zH N 6) (f:=zBU) (Pre:=Fm0Pre) (g:=Fm0G) (fun _ _ _ _=>rfl) (vs:=[.int .i64 0,.int .i64 (.ofNat 10)]) ⟨rfl,rfl⟩ H' τ q) τ
 exact⟨P',H',τ',hvF,bvF,a1,a2,a3,a4⟩
theorem cu_put:PutOk0 (CR zH N 7):=by
 intro P D E H c rows puts hc hw hl hok h0 h1 url hs hsm n1 n3 hn hv hE hd τ
 obtain⟨P',D',H',τ',x,a1,⟨x1,x2,x3,x4,x5,x6,_,_⟩,a2,a3,a4,a5⟩:=zMa (CR zH N 6) (CR zH N 4) (CR zH N 5) (N:=N) (by omega) (cu_vary hN 5) (cu_par hN 5) (cu_mt hN 5) (cu_m1 hN 2) (cu_m1 hN 3) (cu_del hN 4) (cu_del0 hN 5) (cu_cop hN 4) (cu_get hN 5) (cu_sto hN 1)
  (E:=E) hc hw hl hok h0 h1 url small0 hsm (by have:=hsm.len;omega) [] (by simp) (av:=.nils) (hv:=hv) (bv:=.nils) hE (DatP.nil _ _ _) hd (DatP.nil _ _ _) n1 parse0.1 n3 (by rw[hn];simp) (by rw[hn];simp) 0 τ
 exact⟨P',D',H',τ',x,a1,⟨x1,by rw[x2,hn];rfl,x3,x4,x5,x6⟩,a2,a3,a4,a5⟩
end
def CUseR (vs:List V)(H:Heap)(o:Out):Prop:=(∃ a b:Int,vs=[.int .i64 a,.int .i64 b])∧o=.val (.bool true)
theorem zRe {c:zC}{f:Nat}(h:∀ vs H τ q,c f vs H τ q=effK (zJ2 vs H τ) q):∀ H τ q,c f [] H τ q=q (.bool true) H τ:=fun H τ q=>by rw[h];rfl
theorem cacheUse_ok:∀ base w0,zB4 PG base w0 zIE (outP CUseR):=by
 obtain⟨N,hN⟩:∃ N:Nat,9223372036854775808<N:=⟨9223372036854775809,by decide⟩
 refine zMo zKo zRV N 8 _ ?_
 rintro vs H o hw hvs ⟨⟨a,b,rfl⟩,rfl⟩ τ
 obtain⟨H',τ',g,k⟩:=zMq (CR zH N 7) (N:=N) (by omega) (fun hw τ=>zPm (CR zH N 6) N hw τ) (fun s H τ q=>zQY (CR zH N 6) N s H τ q) (cu_put hN) (cu_fnd hN) (fun hc τ q=>zMP (CR zH N 6) N hc τ q) (fun n hn H τ q=>zN0 (CR zH N 6) N (by omega) n hn H τ q) (fun n _ hh H τ=>zOX (CR zH N 6) N n hh H τ) (zRe fun _ _ _ _=>rfl) a b H hw τ
 exact⟨_,H',τ',k retK,g,rfl,trivial⟩
theorem cuse_fun:Fun1 CUseR:=fun vs H o o' k k'=>k.2.trans k'.2.symm
theorem cacheUse_in {a b:Int}{H:Heap}(τ:Tape):outP CUseR [.int .i64 a,.int .i64 b] H τ=some (.bool true,H,τ) :=
 zPu cuse_fun ⟨⟨a,b,rfl⟩,rfl⟩ τ
end Go.Am.X

