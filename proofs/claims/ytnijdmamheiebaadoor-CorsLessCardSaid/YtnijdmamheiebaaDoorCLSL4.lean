/- The abstract machine, printed functions of the program, and what they are shown to be. -/
import Derived.Test.YtnijdmamheiebaaDoorCLSL3
set_option linter.unusedSimpArgs false
set_option linter.unusedVariables false
set_option linter.unusedSectionVars false
set_option maxRecDepth 100000
namespace Go.Am.X
theorem shl_ex (x:Int):∃ z:Int,∀ c:V->Ans,binK .shl (.int .i64 x) (.int .u64 (.ofNat 8)) c=c (.int .i64 z):=⟨wr .i64 (x*(Nat.pow 2 8:Nat)),fun c=>by
 show zB4 .shl .i64 x .u64 (.ofNat 8) c=_
 simp only[zB4,zQL,zBG,zHe]
 rfl⟩
theorem or_ex (x y:Int):∃ z:Int,∀ c:V->Ans,binK .or (.int .i64 x) (.int .i64 y) c=c (.int .i64 z):=by
 refine⟨(zQp .or .i64 x y).getD 0,fun c=>?_⟩
 simp only[binK,zB4,intK,zQp,if_true,zHe,Option.getD_some]
def ws16 (l:List Nat):List V:=l.map fun(n:Nat)=>V.int .u16 (n:Int)
theorem ws16_snoc (l:List Nat)(n:Nat):ws16 l++[V.int .u16 (n:Int)]=ws16 (l++[n]):=by simp[ws16]
def ws64 (l:List Nat):List V:=l.map fun(n:Nat)=>V.int .i64 (n:Int)
theorem ws64_snoc (l:List Nat)(n:Nat):ws64 l++[V.int .i64 (n:Int)]=ws64 (l++[n]):=by simp[ws64]
theorem zSG {H:Heap}{v:V}{l:List Nat}(h:Rd H 1 v l.length (ws64 l)){i:Nat}(hi:i<l.length):∃ p,zn 1 [v,.int .i64 (i:Int)]=some p/\zf [p] H=some (.int .i64 (l[i]:Int)):=h.elem1 (by unfold ws64;rw[List.getElem?_map,List.getElem?_eq_getElem hi];rfl)
theorem str_first {s:Bs}(h:0<s.length):∃ y:UInt8,zM [.str s,(.int .i64 (.ofNat 0))]=some (.int .u8 (y.toNat:Int)):=⟨s[0],zk (i:=0) (List.getElem?_eq_getElem h)⟩
theorem l_decimals (c:zG)(N:Nat)(hI:zQB c){v4:V}{ls:List Bs}(h4:ls.length<=1000)(hl:∀ x ∈ ls,x.length<=1000000){H0:Heap}(hw0:WF H0)(hr:Rd H0 1 v4 ls.length (ls.map V.str)):∀ (r i:Nat) (ns:List Nat) (v5:V) (H:Heap) (Z:Tape) (M:Nat),i+r=ls.length->r<M->Gr H0.size H0 H->Own H H0.size 1 v5 ns.length (ws64 ns)->ns.length=i ->
  ∃ (ok:Bool) (ns':List Nat) (v5':V) (H':Heap) (Z':Tape),Gr H0.size H0 H'/\(ok=true->Own H' H0.size 1 v5' ns'.length (ws64 ns')/\ns'.length=ls.length)/\∀ (fr:T V) k,fr.get 4=some v4->fr.get 5=some v5->fr.get 6=some (.int .i64 (i:Int)) ->
   zq (zAC c N) M ⟨fr,H⟩ Z k=if ok=true then k (.exit 0) ⟨(T.s .leaf 5 v5'),H'⟩ Z' else k .ret ⟨(T.s (T.s .leaf 2 .nils) 3 (.bool false)),H'⟩ Z':=by
 intro r
 induction r with
 | zero =>
  intro i ns v5 H Z M hi hM' hg ho hn
  obtain⟨M,rfl⟩:∃ j,M=j+1:=⟨M-1,by omega⟩
  have pl:=hr.pLen
  have e1:decide ((i:Int)<(ls.length:Int))=false:=decide_eq_false (by omega)
  refine⟨true,ns,v5,H,Z,hg,fun _=>⟨ho,by omega⟩,fun fr k f4 f5 f6=>?_⟩
  rw[zI]
  simp only[zAC,zA f4,zA f5,zA f6,pl,zB,zL,e1,zD]
  rfl
 | succ r ih =>
  intro i ns v5 H Z M hi hM' hg ho hn
  obtain⟨M,rfl⟩:∃ j,M=j+1:=⟨M-1,by omega⟩
  have pl:=hr.pLen
  have e1:decide ((i:Int)<(ls.length:Int))=true:=decide_eq_true (by omega)
  have hrH:=hr.gr hg hw0 nl
  obtain⟨p,p1,p2⟩:=zLb hrH (i:=i) (by omega)
  have hlx:=hl ls[i] (List.getElem_mem _)
  generalize ls[i]=x at p2 hlx
  have hk:=hI x (by omega)
  obtain⟨n,hn0⟩:∃ n:Nat,(intB x).1=(n:Int):=⟨(intB x).1.toNat,by have:=intB_nonneg x;omega⟩
  unfold intV at hk
  rw[hn0]at hk
  generalize (intB x).2=b at hk
  have ex0:zT 0 [.tup [.int .i64 (n:Int),.bool b]]=some (.int .i64 (n:Int)):=rfl
  have ex1:zT 1 [.tup [.int .i64 (n:Int),.bool b]]=some (.bool b):=rfl
  have stop:(∀ (fr:T V) k,fr.get 4=some v4->fr.get 5=some v5->fr.get 6=some (.int .i64 (i:Int))->zAC c N ⟨fr,H⟩ Z k=k .ret ⟨(T.s (T.s .leaf 2 .nils) 3 (.bool false)),H⟩ Z) ->
    ∃ (ok:Bool) (ns':List Nat) (v5':V) (H':Heap) (Z':Tape),Gr H0.size H0 H'/\(ok=true->Own H' H0.size 1 v5' ns'.length (ws64 ns')/\ns'.length=ls.length)/\∀ (fr:T V) k,fr.get 4=some v4->fr.get 5=some v5->fr.get 6=some (.int .i64 (i:Int)) ->
     zq (zAC c N) (M+1) ⟨fr,H⟩ Z k=if ok=true then k (.exit 0) ⟨(T.s .leaf 5 v5'),H'⟩ Z' else k .ret ⟨(T.s (T.s .leaf 2 .nils) 3 (.bool false)),H'⟩ Z':=fun hs =>
   ⟨false,ns,v5,H,Z,hg,(fun h=>by cases h),fun fr k f4 f5 f6=>by rw[zI,hs _ _ f4 f5 f6];rfl⟩
  have go:(∀ (fr:T V) k,fr.get 4=some v4->fr.get 5=some v5->fr.get 6=some (.int .i64 (i:Int))->zAC c N ⟨fr,H⟩ Z k=effK (zZ 1 1 [(.int .i64 (.ofNat 0))] [(0,1)] [.int .i64 (n:Int)] H Z) fun v80 H81 Z82=>effK (zAj 1 8 [v5,v80] H81 Z82) fun v83 H84 Z85=>binK .add (.int .i64 (i:Int)) (.int .i64 (.ofNat 1)) fun v86 =>
     k .normal ⟨(T.s (T.s (T.s (T.s (T.s (T.s .leaf 4 v4) 5 v83) 6 (.int .i64 (i:Int))) 15 (.int .i64 (i:Int))) 16 v86) 6 v86),H84⟩ Z85) ->
    ∃ (ok:Bool) (ns':List Nat) (v5':V) (H':Heap) (Z':Tape),Gr H0.size H0 H'/\(ok=true->Own H' H0.size 1 v5' ns'.length (ws64 ns')/\ns'.length=ls.length)/\∀ (fr:T V) k,fr.get 4=some v4->fr.get 5=some v5->fr.get 6=some (.int .i64 (i:Int)) ->
     zq (zAC c N) (M+1) ⟨fr,H⟩ Z k=if ok=true then k (.exit 0) ⟨(T.s .leaf 5 v5'),H'⟩ Z' else k .ret ⟨(T.s (T.s .leaf 2 .nils) 3 (.bool false)),H'⟩ Z':=by
   intro hs
   obtain⟨w,H1,v',H2,r1,r2,r3,r4,_⟩:=ho.push (bytes:=8) hg.wf hg.size (.int .i64 (n:Int)) (.int .i64 0) rfl rfl (by omega) (by omega) Z
   rw[ws64_snoc]at r3
   have r1':zZ 1 1 [(.int .i64 (.ofNat 0))] [(0,1)] [.int .i64 (n:Int)] H Z=some (w,H1,Z):=r1
   have e3:wr .i64 ((i:Int)+Int.ofNat 1)=((i+1:Nat):Int):=adI (by omega)
   obtain⟨ok,ns',v5',H',Z',s1,s2,s3⟩:=ih (i+1) (ns++[n]) v' H2 Z.tail M (by omega) (by omega) (hg.trans r4 nl) (by simpa using r3) (by simp;omega)
   refine⟨ok,ns',v5',H',Z',s1,s2,fun fr k f4 f5 f6=>?_⟩
   rw[zI,hs _ _ f4 f5 f6]
   simp only[r1',r2,zN,zS .i64,e3]
   exact s3 _ k (by simp[T.get_set]) (by simp[T.get_set]) (by simp[T.get_set])
  cases b with
  | false =>
   exact stop fun fr k f4 f5 f6=>by
    simp only[zAC,zA f4,zA f5,zA f6,pl,zB,zL,e1,zF,p1,p2,hk,ex0,ex1,zg,Bool.not_false,zh,zX,zJ,cond_true]
  | true =>
   by_cases h255:255<n
   ·have e2:decide (Int.ofNat 255<(n:Int))=true:=decide_eq_true (by have:Int.ofNat 255=255:=rfl;omega)
    exact stop fun fr k f4 f5 f6=>by
     simp only[zAC,zA f4,zA f5,zA f6,pl,zB,zL,e1,zF,p1,p2,hk,ex0,ex1,zg,Bool.not_true,zu,retK,zN,zY,e2,zJ,cond_false,zh,zX,cond_true]
   ·have e2:decide (Int.ofNat 255<(n:Int))=false:=decide_eq_false (by have:Int.ofNat 255=255:=rfl;omega)
    by_cases h1:1<x.length
    ·have e3:decide (Int.ofNat 1<(x.length:Int))=true:=decide_eq_true (by have:Int.ofNat 1=1:=rfl;omega)
     obtain⟨y,hy⟩:=str_first (show 0<x.length by omega)
     by_cases h48:((y.toNat:Int) == Int.ofNat 48)=true
     ·exact stop fun fr k f4 f5 f6=>by
       simp only[zAC,zA f4,zA f5,zA f6,pl,zB,zL,e1,zF,p1,p2,hk,ex0,ex1,zg,Bool.not_true,zu,zAB,retK,zN,zY,e2,zJ,cond_false,zO,e3,hy,zU,h48,cond_true]
     ·have h48':((y.toNat:Int) == Int.ofNat 48)=false:=by simpa using h48
      exact go fun fr k f4 f5 f6=>by
       simp only[zAC,zA f4,zA f5,zA f6,pl,zB,zL,e1,zF,p1,p2,hk,ex0,ex1,zg,Bool.not_true,zu,zAB,retK,zN,zY,e2,zJ,cond_false,zO,e3,hy,zU,h48',cond_true,zD]
    ·have e3:decide (Int.ofNat 1<(x.length:Int))=false:=decide_eq_false (by have:Int.ofNat 1=1:=rfl;omega)
     exact go fun fr k f4 f5 f6=>by
      simp only[zAC,zA f4,zA f5,zA f6,pl,zB,zL,e1,zF,p1,p2,hk,ex0,ex1,zg,Bool.not_true,zu,zAB,ze,zX,retK,zN,zY,e2,zJ,cond_false,zO,e3,zD]
def Pcs (H:Heap)(B:Nat)(v:V)(ns:List Nat)(k:Nat):Prop:=DatP (fun i=>B<=i) H 1 v ns.length (ws16 ns)/\(∀ n ∈ ns,n<65536)/\ns.length<=k
theorem Pcs.nil (H:Heap)(B k:Nat):Pcs H B .nils [] k:=⟨DatP.nil _ _ _,by simp,by simp⟩
abbrev DecOk (c:zG):Prop:=∀ (s:Bs),s.length<=1000->(zGG 46 [] s).length=4->∀ {H:Heap},WF H->∀ Z,∃ (ok:Bool) (v:V) (ns:List Nat) (H':Heap) (Z':Tape),Pcs H' H.size v ns 2/\(ok=true->ns.length=2)/\Gr H.size H H'/\∀ q,c zFg [.str s] H Z q=q (.tup [v,.bool ok]) H' Z'
theorem zNr (c:zG){N:Nat}(hN:9223372036854775807<=N)(hC:zQC c)(hI:zQB c)(s:Bs)(hs:s.length<=1000)(h4:(zGG 46 [] s).length=4){H:Heap}(hw:WF H)(Z:Tape) :
  ∃ (ok:Bool) (v:V) (ns:List Nat) (H':Heap) (Z':Tape),Pcs H' H.size v ns 2/\(ok=true->ns.length=2)/\Gr H.size H H'/\∀ q,zDs c N (.str s) H Z q=q (.tup [v,.bool ok]) H' Z':=by
 obtain⟨v,H1,Z1,o1,g1,k1⟩:=hC s (by omega) 46 hw Z
 obtain⟨c1,c2,c3⟩:=zOK 46 s []
 generalize zGG 46 [] s=l at o1 c1 c2 c3 h4
 have r1:=zQT o1
 have k1':∀ q,c zA2 [.str s,.int .u8 (.ofNat 46)] H Z q=q v H1 Z1:=k1
 obtain⟨ok,ns,v5,H2,Z2,g2,o2,k2⟩:=l_decimals c N hI (by omega) (fun x hx=>by have:=c3 x hx;simp at this;omega) g1.wf r1 l.length 0 [] .nils H1 Z1 N (by omega) (by omega) (Gr.refl g1.wf) (Own.nil _ _ _) rfl
 have g12:=g1.trans g2 g1.size
 cases ok with
 | false =>
  refine⟨false,.nils,[],H2,Z2,Pcs.nil _ _ _,(fun h=>by cases h),g12,fun q=>?_⟩
  simp only[zDs,k1']
  rw[k2 _ _ (by simp[T.get_set]) (by simp[T.get_set]) (by simp[T.get_set]),if_neg (by decide)]
  rfl
 | true =>
  obtain⟨o3,hl⟩:=o2 rfl
  have r3:=zQT o3
  obtain⟨p0,a0,b0⟩:=zSG r3 (i:=0) (by omega)
  obtain⟨p1,a1,b1⟩:=zSG r3 (i:=1) (by omega)
  obtain⟨p2,a2,b2⟩:=zSG r3 (i:=2) (by omega)
  obtain⟨p3,a3,b3⟩:=zSG r3 (i:=3) (by omega)
  obtain⟨z0,hz0⟩:=shl_ex (ns[0]:Int)
  obtain⟨z1,hz1⟩:=or_ex z0 (ns[1]:Int)
  obtain⟨m1,q1,hm1⟩:=wr_u16 z1
  obtain⟨z2,hz2⟩:=shl_ex (ns[2]:Int)
  obtain⟨z3,hz3⟩:=or_ex z2 (ns[3]:Int)
  obtain⟨m2,q2,hm2⟩:=wr_u16 z3
  have a0':zn 1 [v5,.int .i64 (.ofNat 0)]=some p0:=a0
  have a1':zn 1 [v5,.int .i64 (.ofNat 1)]=some p1:=a1
  have a2':zn 1 [v5,.int .i64 (.ofNat 2)]=some p2:=a2
  have a3':zn 1 [v5,.int .i64 (.ofNat 3)]=some p3:=a3
  have e5:zZ 2 1 [(.int .u16 (.ofNat 0)),(.int .u16 (.ofNat 0))] [(0,1),(1,1)] [.int .u16 (m1:Int),.int .u16 (m2:Int)] H2 Z2=some (.sl H2.size 0 2 2 none 1,H2.new (ws16 [m1,m2]) 2 false,Z2):=rfl
  have g3:=Gr.new g2.wf (ws16 [m1,m2]) 2 false
  refine⟨true,.sl H2.size 0 2 2 none 1,[m1,m2],_,Z2,⟨.inr ⟨H2.size,0,2,none,_,2,H2.size,0,true,false,0,0,0,rfl,T.get_set_same _ _ _,T.get_set_same _ _ _,Nat.le_refl _,g12.size,g12.size,rfl,rfl⟩,by simp[q1,q2],by simp⟩,fun _=>rfl,g12.trans g3 g12.size,fun q=>?_⟩
  ·simp only[zDs,k1']
   rw[k2 _ _ (by simp[T.get_set]) (by simp[T.get_set]) (by simp[T.get_set]),if_pos rfl]
   simp only[zW,Nat.beq_refl,cond_true,seqK,zI7,zK,↓reduceIte,a0',b0,a1',b1,a2',b2,a3',b3,zB,hz0,hz1,zBB,hm1,hz2,hz3,hm2,e5,zN]
theorem l_pieces4 (c:zG)(N:Nat)(hX:zQX c)(t1 v6:V){v7:V}{ls:List Bs}{i:Nat}{H:Heap}(hr:Rd H 1 v7 ls.length (ls.map V.str))(hi:i<ls.length)(hx:ls[i].length<=1000000):∀ (l pre:Bs) (n:Int),ls[i]=pre++l->∃ (ok:Bool) (n':Int),∀ (fr:T V) (Z:Tape) (m:Nat) k,l.length<m->fr.get 1=some t1->fr.get 6=some v6->fr.get 7=some v7->fr.get 8=some (.int .i64 (i:Int))->fr.get 11=some (.int .i64 n)->fr.get 12=some (.int .i64 (pre.length:Int)) ->
  zq (zCE c N) m ⟨fr,H⟩ Z k=if ok=true then k (.exit 2) ⟨(T.s (T.s (T.s (T.s (T.s .leaf 1 t1) 6 v6) 7 v7) 8 (.int .i64 (i:Int))) 11 (.int .i64 n')),H⟩ Z else k .ret ⟨(T.s (T.s .leaf 4 .nils) 5 (.bool false)),H⟩ Z:=by
 obtain⟨p,p1,p2⟩:=zLb hr hi
 generalize ls[i]=x at p2 hx
 intro l
 induction l with
 | nil =>
  intro pre n he
  refine⟨true,n,fun fr Z m k hm f1 f6 f7 f8 f11 f12=>?_⟩
  obtain⟨m,rfl⟩:∃ j,m=j+1:=⟨m-1,by omega⟩
  have e1:decide ((pre.length:Int)<(x.length:Int))=false:=decide_eq_false (by rw[he];simp)
  rw[zI]
  simp only[zCE,zA f1,zA f6,zA f7,zA f8,zA f11,zA f12,p1,p2,zO,zB,zL,e1,zD]
  rfl
 | cons y l ih =>
  intro pre n he
  have hl:pre.length<x.length:=by rw[he];simp
  have e1:decide ((pre.length:Int)<(x.length:Int))=true:=decide_eq_true (by omega)
  have e2:zM [.str x,.int .i64 (pre.length:Int)]=some (.int .u8 (y.toNat:Int)):=zk (by rw[he];simp)
  have e3:wr .i64 ((pre.length:Int)+Int.ofNat 1)=((pre++[y]).length:Int):=by rw[adI (by omega)];simp
  have kx:=fun H Z q=>hX y.toNat y.toNat_lt H Z q
  by_cases h0:hexT y.toNat<0
  ·have e4:decide (hexT y.toNat<Int.ofNat 0)=true:=decide_eq_true h0
   refine⟨false,n,fun fr Z m k hm f1 f6 f7 f8 f11 f12=>?_⟩
   obtain⟨m,rfl⟩:∃ j,m=j+1:=⟨m-1,by omega⟩
   rw[zI]
   simp only[zCE,zA f1,zA f6,zA f7,zA f8,zA f11,zA f12,p1,p2,zO,zB,zL,e1,zF,e2,kx,e4]
   rfl
  ·have e4:decide (hexT y.toNat<Int.ofNat 0)=false:=decide_eq_false h0
   obtain⟨ok,n',h⟩:=ih (pre++[y]) (wr .i64 (wr .i64 (n*Int.ofNat 16)+hexT y.toNat)) (by rw[he];simp)
   refine⟨ok,n',fun fr Z m k hm f1 f6 f7 f8 f11 f12=>?_⟩
   obtain⟨m,rfl⟩:∃ j,m=j+1:=⟨m-1,by omega⟩
   rw[zI]
   simp only[zCE,zA f1,zA f6,zA f7,zA f8,zA f11,zA f12,p1,p2,zO,zB,zL,e1,zF,e2,kx,e4,zD,zJT,zS .i64,e3]
   exact h _ Z m k (by simp at hm;omega) (by simp[T.get_set]) (by simp[T.get_set]) (by simp[T.get_set]) (by simp[T.get_set]) (by simp[T.get_set]) (by simp[T.get_set])
theorem l_pieces1 (c:zG){N:Nat}(hN:9223372036854775807<=N)(hX:zQX c)(hC:zQC c)(hDe:DecOk c)(last:Bool){v7:V}{ls:List Bs}(hls:ls.length<=100000)(hl:∀ x ∈ ls,x.length<=1000){H0:Heap}(hw0:WF H0)(hr:Rd H0 1 v7 ls.length (ls.map V.str)):∀ (r i:Nat) (ns:List Nat) (v6:V) (H:Heap) (Z:Tape) (M:Nat),i+r=ls.length->r<M->Gr H0.size H0 H->Own H H0.size 1 v6 ns.length (ws16 ns)->(∀ n ∈ ns,n<65536)->ns.length<=i ->
  ∃ (ret ok:Bool) (ns':List Nat) (v':V) (H':Heap) (Z':Tape),Gr H0.size H0 H'/\Pcs H' H0.size v' ns' (ls.length+2)/\∀ (fr:T V) k,fr.get 1=some (.bool last)->fr.get 6=some v6->fr.get 7=some v7->fr.get 8=some (.int .i64 (i:Int)) ->
   zq (zAe c N) M ⟨fr,H⟩ Z k=if ret=true then k .ret ⟨(T.s (T.s .leaf 4 v') 5 (.bool ok)),H'⟩ Z' else k (.exit 0) ⟨(T.s .leaf 6 v'),H'⟩ Z':=by
 have pl:=hr.pLen
 intro r
 induction r with
 | zero =>
  intro i ns v6 H Z M hi hM hg ho hns hni
  obtain⟨M,rfl⟩:∃ j,M=j+1:=⟨M-1,by omega⟩
  have e1:decide ((i:Int)<(ls.length:Int))=false:=decide_eq_false (by omega)
  refine⟨false,true,ns,v6,H,Z,hg,⟨DatP.own ho,hns,by omega⟩,fun fr k f1 f6 f7 f8=>?_⟩
  rw[zI]
  simp only[zAe,zA f1,zA f6,zA f7,zA f8,pl,zB,zL,e1,zD]
  rfl
 | succ r ih =>
  intro i ns v6 H Z M hi hM hg ho hns hni
  obtain⟨M,rfl⟩:∃ j,M=j+1:=⟨M-1,by omega⟩
  have e1:decide ((i:Int)<(ls.length:Int))=true:=decide_eq_true (by omega)
  have e3:wr .i64 ((i:Int)+Int.ofNat 1)=((i+1:Nat):Int):=adI (by omega)
  have el:wr .i64 ((ls.length:Int)-Int.ofNat 1)=((ls.length-1:Nat):Int):=sbI (by omega) (by omega)
  have hlx:=hl ls[i] (List.getElem_mem _)
  have rest:∀ (H1:Heap) (Z1:Tape),Gr H0.size H0 H1->Own H1 H0.size 1 v6 ns.length (ws16 ns) ->
    (∀ (fr:T V) (k:KC),fr.get 1=some (.bool last)->fr.get 6=some v6->fr.get 7=some v7->fr.get 8=some (.int .i64 (i:Int))->zAe c N ⟨fr,H⟩ Z k=zC (zn 1 [v7,.int .i64 (i:Int)]) fun v55 =>
     zC (zf [v55] H1) fun v56 =>
     zC (zBW [v56]) fun v57 =>
     binK .lss v57 (.int .i64 (.ofNat 1)) fun v58 =>
     gK v58 false (fun q'=>q' v7 H1 Z1) H1 Z1 fun v59 H60 Z61 =>
     gK v58 false (fun q'=>q' (.int .i64 (i:Int)) H60 Z61) H60 Z61 fun v62 H63 Z64 =>
     gK v58 false (fun q'=>zC (zn 1 [v59,v62]) fun v=>q' v H63 Z64) H63 Z64 fun v65 H66 Z67 =>
     gK v58 false (fun q'=>zC (zf [v65] H66) fun v=>q' v H66 Z67) H66 Z67 fun v68 H69 Z70 =>
     gK v58 false (fun q'=>zC (zBW [v68]) fun v=>q' v H69 Z70) H69 Z70 fun v71 H72 Z73 =>
     gK v58 false (fun q'=>binK .gtr v71 (.int .i64 (.ofNat 4)) fun v=>q' v H72 Z73) H72 Z73 fun v74 H75 Z76 =>
     zC (zAE [v58,(.bool true),v74]) fun v77 =>
     zV v77
      (k .ret ⟨(T.s (T.s .leaf 4 .nils) 5 (.bool false)),H75⟩ Z76)
      (zq (zCE c N) N ⟨(T.s (T.s (T.s (T.s (T.s (T.s .leaf 1 (.bool last)) 6 v6) 7 v7) 8 (.int .i64 (i:Int))) 11 (.int .i64 (.ofNat 0))) 12 (.int .i64 (.ofNat 0))),H75⟩ Z76 (zW 2 (seqK (zHT c N k) (zW 1 (seqK (zEw c N k) k)))))) ->
    ∃ (ret ok:Bool) (ns':List Nat) (v':V) (H':Heap) (Z':Tape),Gr H0.size H0 H'/\Pcs H' H0.size v' ns' (ls.length+2)/\∀ (fr:T V) k,fr.get 1=some (.bool last)->fr.get 6=some v6->fr.get 7=some v7->fr.get 8=some (.int .i64 (i:Int)) ->
     zq (zAe c N) (M+1) ⟨fr,H⟩ Z k=if ret=true then k .ret ⟨(T.s (T.s .leaf 4 v') 5 (.bool ok)),H'⟩ Z' else k (.exit 0) ⟨(T.s .leaf 6 v'),H'⟩ Z':=by
   intro H1 Z1 g1 o1 hs
   have r1:=hr.gr g1 hw0 nl
   obtain⟨p,p1,p2⟩:=zLb r1 (i:=i) (by omega)
   by_cases h1:ls[i].length<1
   ·have d1:decide ((ls[i].length:Int)<Int.ofNat 1)=true:=decide_eq_true (by have:Int.ofNat 1=1:=rfl;omega)
    refine⟨true,false,[],.nils,H1,Z1,g1,Pcs.nil _ _ _,fun fr k f1 f6 f7 f8=>?_⟩
    rw[zI,hs _ _ f1 f6 f7 f8,if_pos rfl]
    simp only[p1,p2,zO,zB,zL,d1,zh,zX,zJ,cond_true,zF]
    rfl
   ·have d1:decide ((ls[i].length:Int)<Int.ofNat 1)=false:=decide_eq_false (by have:Int.ofNat 1=1:=rfl;omega)
    by_cases h4:4<ls[i].length
    ·have d2:decide (Int.ofNat 4<(ls[i].length:Int))=true:=decide_eq_true (by have:Int.ofNat 4=4:=rfl;omega)
     refine⟨true,false,[],.nils,H1,Z1,g1,Pcs.nil _ _ _,fun fr k f1 f6 f7 f8=>?_⟩
     rw[zI,hs _ _ f1 f6 f7 f8,if_pos rfl]
     simp only[p1,p2,zO,zB,zL,d1,zu,retK,zN,zY,d2,zJ,cond_false,zF]
     rfl
    ·have d2:decide (Int.ofNat 4<(ls[i].length:Int))=false:=decide_eq_false (by have:Int.ofNat 4=4:=rfl;omega)
     obtain⟨ok,n',hin⟩:=l_pieces4 c N hX (.bool last) v6 r1 (i:=i) (by omega) (by omega) ls[i] [] 0 rfl
     cases ok with
     | false =>
      refine⟨true,false,[],.nils,H1,Z1,g1,Pcs.nil _ _ _,fun fr k f1 f6 f7 f8=>?_⟩
      rw[zI,hs _ _ f1 f6 f7 f8,if_pos rfl]
      simp only[p1,p2,zO,zB,zL,d1,zu,retK,zN,zY,d2,zJ,cond_false,zD]
      rw[hin _ _ _ _ (by omega) (by simp[T.get_set]) (by simp[T.get_set]) (by simp[T.get_set]) (by simp[T.get_set]) (by simp[T.get_set]) (by simp[T.get_set]),if_neg (by decide)]
      rfl
     | true =>
      obtain⟨m,hm,hm2⟩:=wr_u16 n'
      obtain⟨w,H2,v',H3,q1,q2,q3,q4,_⟩:=o1.push (bytes:=2) g1.wf g1.size (.int .u16 (m:Int)) (.int .u16 0) rfl rfl (by omega) (by omega) Z1
      rw[ws16_snoc]at q3
      have q1':zZ 1 1 [(.int .u16 (.ofNat 0))] [(0,1)] [.int .u16 (m:Int)] H1 Z1=some (w,H2,Z1):=q1
      obtain⟨ret,ok,ns',v'',H',Z',s1,s2,s3⟩:=ih (i+1) (ns++[m]) v' H3 Z1.tail M (by omega) (by omega) (g1.trans q4 nl) (by simpa using q3) (fun n hn=>by
       rcases List.mem_append.1 hn with hn | hn
       ·exact hns n hn
       ·rw[List.mem_singleton.1 hn];exact hm) (by simp;omega)
      refine⟨ret,ok,ns',v'',H',Z',s1,s2,fun fr k f1 f6 f7 f8=>?_⟩
      rw[zI,hs _ _ f1 f6 f7 f8]
      simp only[p1,p2,zO,zB,zL,d1,zu,retK,zN,zY,d2,zJ,cond_false,zD]
      rw[hin _ _ _ _ (by omega) (by simp[T.get_set]) (by simp[T.get_set]) (by simp[T.get_set]) (by simp[T.get_set]) (by simp[T.get_set]) (by simp[T.get_set]),if_pos rfl]
      simp only[zW,Nat.beq_refl,cond_true,seqK,zHT,zK,↓reduceIte,Nat.reduceEqDiff,zBB,hm2,q1',q2,zN,zEw,zS .i64,e3]
      exact s3 _ k (by simp[T.get_set]) (by simp[T.get_set]) (by simp[T.get_set]) (by simp[T.get_set])
  cases last with
  | false =>
   exact rest H Z hg ho fun fr k f1 f6 f7 f8=>by
    simp only[zAe,zA f1,zA f6,zA f7,zA f8,pl,zB,zL,e1,zF,ze,zX,zJ,cond_false,zD]
  | true =>
   by_cases hli:i=ls.length-1
   ·have d1:((i:Int) ==((ls.length-1:Nat):Int))=true:=by rw[hli];simp
    have rH:=hr.gr hg hw0 nl
    obtain⟨p,p1,p2⟩:=zLb rH (i:=i) (by omega)
    obtain⟨w,H1,Z1,o1,g1,k1⟩:=hC ls[i] (by omega) 46 hg.wf Z
    have pw:=(zQT o1).pLen
    have k1':∀ q,c zA2 [.str ls[i],.int .u8 (.ofNat 46)] H Z q=q w H1 Z1:=k1
    have gH1:=hg.trans g1 hg.size
    have oo:=ho.gr g1 hg.wf nl
    by_cases h4:(zGG 46 [] ls[i]).length=4
    ·have d2:(((zGG 46 [] ls[i]).length:Int) == Int.ofNat 4)=true:=by rw[h4];rfl
     have r1:=hr.gr gH1 hw0 nl
     obtain⟨p',p1',p2'⟩:=zLb r1 (i:=i) (by omega)
     have:p'=p:=by rw[p1]at p1';exact(Option.some.inj p1').symm
     subst this
     obtain⟨ok,v,ns2,H2,Z2,⟨a12,a3,a4⟩,a5,g2,k2⟩:=hDe ls[i] (by omega) h4 g1.wf Z1
     have gH2:=gH1.trans g2 gH1.size
     cases ok with
     | false =>
      have ex0:zT 0 [.tup [v,.bool false]]=some v:=rfl
      have ex1:zT 1 [.tup [v,.bool false]]=some (.bool false):=rfl
      refine⟨true,false,[],.nils,H2,Z2,gH2,Pcs.nil _ _ _,fun fr k f1 f6 f7 f8=>?_⟩
      rw[zI,if_pos rfl]
      simp only[zAe,zA f1,zA f6,zA f7,zA f8,pl,zB,zL,e1,zF,zAB,retK,zN,zAA,el,zU,d1,zJ,cond_true,p1,p2,k1',pw,d2,p2',k2,ex0,ex1,zg,Bool.not_false]
      rfl
     | true =>
      have ex0:zT 0 [.tup [v,.bool true]]=some v:=rfl
      have ex1:zT 1 [.tup [v,.bool true]]=some (.bool true):=rfl
      have o2:=oo.gr g2 g1.wf nl
      obtain⟨l1,l2⟩:=a12.rd.loads a12.src
      have h2l:=a5 rfl
      ·obtain⟨v',H3,r1,r2,r3,_⟩:=o2.append (bytes:=2) g2.wf gH2.size ns2.length (ws16 ns2) (by omega) (by simp[ws16]) (by simp[ws16,V.scal]) (by omega) (by omega) Z2
       have ap:zAj 1 2 [v6,v] H2 Z2=some (v',H3,Z2.tail):=by
        simp only[zAj,l1,l2];exact r1
       have e8:ws16 ns++ws16 ns2=ws16 (ns++ns2):=by simp[ws16]
       rw[e8]at r2
       have o3:Own H3 H0.size 1 v' (ns++ns2).length (ws16 (ns++ns2)):=by rw[List.length_append];exact r2
       refine⟨true,true,ns++ns2,v',H3,Z2.tail,gH2.trans r3 nl,⟨DatP.own o3,fun n hn=>(List.mem_append.1 hn).elim (hns n) (a3 n),by rw[List.length_append];omega⟩,fun fr k f1 f6 f7 f8=>?_⟩
       rw[zI,if_pos rfl]
       simp only[zAe,zA f1,zA f6,zA f7,zA f8,pl,zB,zL,e1,zF,zAB,retK,zN,zAA,el,zU,d1,zJ,cond_true,p1,p2,k1',pw,d2,p2',k2,ex0,ex1,zg,Bool.not_true,zD,ap]
       rfl
    ·have d2:(((zGG 46 [] ls[i]).length:Int) == Int.ofNat 4)=false:=by rw[beq_eq_false_iff_ne];have:Int.ofNat 4=4:=rfl;omega
     exact rest H1 Z1 gH1 oo fun fr k f1 f6 f7 f8=>by
      simp only[zAe,zA f1,zA f6,zA f7,zA f8,pl,zB,zL,e1,zF,zAB,retK,zN,zAA,el,zU,d1,zJ,cond_true,p1,p2,k1',pw,d2,zD]
   ·have d1:((i:Int) ==((ls.length-1:Nat):Int))=false:=by rw[beq_eq_false_iff_ne];omega
    exact rest H Z hg ho fun fr k f1 f6 f7 f8=>by
     simp only[zAe,zA f1,zA f6,zA f7,zA f8,pl,zB,zL,e1,zF,zAB,retK,zN,zAA,el,zU,d1,zJ,cond_true,ze,zX,cond_false,zD]
abbrev PcsOk (c:zG):Prop:=∀ (s:Bs),s.length<=1000->∀ (last:Bool) {H:Heap},WF H->∀ Z,∃ (ok:Bool) (v:V) (ns:List Nat) (H':Heap) (Z':Tape),Pcs H' H.size v ns 2000/\Gr H.size H H'/\∀ q,c zEX [.str s,.bool last] H Z q=q (.tup [v,.bool ok]) H' Z'
theorem zPX (c:zG){N:Nat}(hN:9223372036854775807<=N)(hX:zQX c)(hC:zQC c)(hDe:DecOk c)(s:Bs)(hs:s.length<=1000)(last:Bool){H:Heap}(hw:WF H)(Z:Tape) :
  ∃ (ok:Bool) (v:V) (ns:List Nat) (H':Heap) (Z':Tape),Pcs H' H.size v ns 2000/\Gr H.size H H'/\∀ q,zEK c N (.str s) (.bool last) H Z q=q (.tup [v,.bool ok]) H' Z':=by
 by_cases h0:s=[]
 ·refine⟨true,.nils,[],H,Z,Pcs.nil _ _ _,Gr.refl hw,fun q=>?_⟩
  simp only[zEK,zP,streq,decide_eq_true h0,zB,zF]
 ·obtain⟨v,H1,Z1,o1,g1,k1⟩:=hC s (by omega) 58 hw Z
  obtain⟨c1,c2,c3⟩:=zOK 58 s []
  generalize zGG 58 [] s=l at o1 c1 c2 c3
  have k1':∀ q,c zA2 [.str s,.int .u8 (.ofNat 58)] H Z q=q v H1 Z1:=k1
  obtain⟨ret,ok,ns,v',H2,Z2,g2,⟨b1,b3,b4⟩,k2⟩:=l_pieces1 c hN hX hC hDe last (by omega) (fun x hx=>by have:=c3 x hx;simp at this;omega) g1.wf (zQT o1) l.length 0 [] .nils H1 Z1 N (by omega) (by omega) (Gr.refl g1.wf) (Own.nil _ _ _) (by simp) (by simp)
  have pc:Pcs H2 H.size v' ns 2000:=⟨b1.weaken g2.wf fun i _ h=>Nat.le_trans g1.size h,b3,by omega⟩
  cases ret with
  | true =>
   refine⟨ok,v',ns,H2,Z2,pc,g1.trans g2 g1.size,fun q=>?_⟩
   simp only[zEK,zP,streq,decide_eq_false h0,zB,zD,k1']
   rw[k2 _ _ (by simp[T.get_set]) (by simp[T.get_set]) (by simp[T.get_set]) (by simp[T.get_set]),if_pos rfl]
   rfl
  | false =>
   refine⟨true,v',ns,H2,Z2,pc,g1.trans g2 g1.size,fun q=>?_⟩
   simp only[zEK,zP,streq,decide_eq_false h0,zB,zD,k1']
   rw[k2 _ _ (by simp[T.get_set]) (by simp[T.get_set]) (by simp[T.get_set]) (by simp[T.get_set]),if_neg (by decide)]
   simp only[zW,Nat.beq_refl,cond_true,seqK,zLH,zK,↓reduceIte]
end Go.Am.X

namespace Go.Am.X
theorem bxg {H H':Heap}{id:Nat}{cs:List V}(h:Bx H id cs)(hw:WF H)(hg:Gr H.size H H'):Bx H' id cs:=h.gr hg (h.lt hw)
def A8 (l:List Nat):Prop:=l.length=8/\∀ n ∈ l,n<65536
theorem zIz (l:List Nat):(ws16 l).length=l.length:=by simp[ws16]
theorem zQf (l:List Nat):(ws16 l).all V.scal=true:=by simp[ws16,V.scal]
theorem copy_bx {H:Heap}{id:Nat}{l:List Nat}(hx:Bx H id (ws16 l))(hw:WF H)(hl8:A8 l){off len lo:Nat}{ex:Option Nat}{v:V}{ns:List Nat}(hr:Rd H 1 v ns.length (ws16 ns))(hs:Src H v)(hns:∀ n ∈ ns,n<65536)(hn:ns.length<=len)(hl:ns.length=0∨off+ns.length<=8)(Z:Tape) :
  ∃ H' l' n,zQs 1 [.sl id off len lo ex 1,v] H Z=some (n,H',Z)/\Bx H' id (ws16 l')/\A8 l'/\Only id H H':=by
 obtain⟨l1,l2⟩:=hr.loads hs
 have hb:Nat.ble ns.length len=true:=Nat.ble_eq_true_of_le hn
 by_cases h0:ns.length=0
 ·obtain rfl:=List.length_eq_zero_iff.1 h0
  refine⟨H,l,.int .i64 (.ofNat 0),?_,hx,hl8,⟨hw,rfl,fun _ _=>rfl,fun _ _=>rfl⟩⟩
  simp only[zQs,l1,hb,cond_true,Nat.beq_refl,l2]
  rfl
 ·have ho:off+ns.length<=8:=by omega
  have e8:=hl8.1
  obtain⟨H',s1,s2,s3⟩:=hx.storesL hw off (ws16 ns) (by rw[zIz,zIz];omega) (by rw[zIz];omega) (zQf ns)
  have ec:(ws16 l).take off++ws16 ns++(ws16 l).drop (off+(ws16 ns).length)=ws16 (l.take off++ns++l.drop (off+ns.length)):=by
   rw[zIz];simp[ws16,List.map_take,List.map_drop]
  rw[ec]at s2
  refine⟨H',_,.int .i64 (.ofNat ns.length),?_,s2,⟨by simp;omega,fun n hn=>?_⟩,s3⟩
  ·simp only[zQs,l1,hb,cond_true,Nat.beq_refl,l2,s1]
  ·rcases List.mem_append.1 hn with hn | hn
   ·rcases List.mem_append.1 hn with hn | hn
    ·exact hl8.2 n (List.mem_of_mem_take hn)
    ·exact hns n hn
   ·exact hl8.2 n (List.mem_of_mem_drop hn)
theorem arr_from {id k:Nat}(hk:k<=8):∃ off lo,zCH 8 1 true false false [.ptr id 0,.int .i64 (k:Int)]=some (.sl id off (8-k) lo none 1)/\(k<8->off=k):=by
 rcases(by omega:k=0∨k=1∨k=2∨k=3∨k=4∨k=5∨k=6∨k=7∨k=8)with rfl | rfl | rfl | rfl | rfl | rfl | rfl | rfl | rfl
 all_goals first | exact⟨_,_,rfl,fun _=>rfl⟩ | exact⟨_,_,rfl,fun h=>absurd h (by omega)⟩
theorem l_six (c:zG)(N:Nat)(s:Bs)(hs:s.length<=1000000)(t2 t4:V)(H:Heap):∀ (r i:Nat),i+r=s.length->∃ a:Int,(a=-1∨∃ j:Nat,a=(j:Int)/\j+1<s.length)/\∀ (fr:T V) (Z:Tape) (m:Nat) k,r<m->fr.get 0=some (.str s)->fr.get 2=some t2->fr.get 4=some t4->fr.get 5=some (.int .i64 (-1))->fr.get 6=some (.int .i64 (i:Int)) ->
  zq (zDH c N) m ⟨fr,H⟩ Z k=k (.exit 0) ⟨(T.s (T.s (T.s (T.s .leaf 0 (.str s)) 2 t2) 4 t4) 5 (.int .i64 a)),H⟩ Z:=by
 intro r
 induction r with
 | zero =>
  intro i hi
  refine⟨-1,.inl rfl,fun fr Z m k hm f0 f2 f4 f5 f6=>?_⟩
  obtain⟨m,rfl⟩:∃ j,m=j+1:=⟨m-1,by omega⟩
  have e3:wr .i64 ((i:Int)+Int.ofNat 1)=((i+1:Nat):Int):=adI (by omega)
  have e1:decide (((i+1:Nat):Int)<(s.length:Int))=false:=decide_eq_false (by omega)
  rw[zI]
  simp only[zDH,zA f0,zA f2,zA f4,zA f5,zA f6,zS .i64,e3,zO,zB,zL,e1,zD]
  rfl
 | succ r ih =>
  intro i hi
  have e3:wr .i64 ((i:Int)+Int.ofNat 1)=((i+1:Nat):Int):=adI (by omega)
  by_cases h1:i+1<s.length
  ·have e1:decide (((i+1:Nat):Int)<(s.length:Int))=true:=decide_eq_true (by omega)
   have i1:zM [.str s,.int .i64 (i:Int)]=some (.int .u8 (s[i].toNat:Int)):=zk (List.getElem?_eq_getElem (by omega))
   have i2:zM [.str s,.int .i64 ((i+1:Nat):Int)]=some (.int .u8 (s[i+1].toNat:Int)):=zk (List.getElem?_eq_getElem (by omega))
   obtain⟨a,ha,hk⟩:=ih (i+1) (by omega)
   cases d1:((s[i].toNat:Int) == Int.ofNat 58)with
   | false =>
    refine⟨a,ha,fun fr Z m k hm f0 f2 f4 f5 f6=>?_⟩
    obtain⟨m,rfl⟩:∃ j,m=j+1:=⟨m-1,by omega⟩
    rw[zI]
    simp only[zDH,zA f0,zA f2,zA f4,zA f5,zA f6,zS .i64,e3,zO,zB,zL,e1,zF,i1,zU,d1,ze,zX,zJ,cond_false,zD]
    exact hk _ Z m k (by omega) (by simp[T.get_set]) (by simp[T.get_set]) (by simp[T.get_set]) (by simp[T.get_set]) (by simp[T.get_set])
   | true =>
    cases d2:((s[i+1].toNat:Int) == Int.ofNat 58)with
    | false =>
     refine⟨a,ha,fun fr Z m k hm f0 f2 f4 f5 f6=>?_⟩
     obtain⟨m,rfl⟩:∃ j,m=j+1:=⟨m-1,by omega⟩
     rw[zI]
     simp only[zDH,zA f0,zA f2,zA f4,zA f5,zA f6,zS .i64,e3,zO,zB,zL,e1,zF,i1,zU,d1,zAB,retK,zN,i2,d2,zJ,cond_true,zD]
     exact hk _ Z m k (by omega) (by simp[T.get_set]) (by simp[T.get_set]) (by simp[T.get_set]) (by simp[T.get_set]) (by simp[T.get_set])
    | true =>
     refine⟨(i:Int),.inr ⟨i,rfl,h1⟩,fun fr Z m k hm f0 f2 f4 f5 f6=>?_⟩
     obtain⟨m,rfl⟩:∃ j,m=j+1:=⟨m-1,by omega⟩
     rw[zI]
     simp only[zDH,zA f0,zA f2,zA f4,zA f5,zA f6,zS .i64,e3,zO,zB,zL,e1,zF,i1,zU,d1,zAB,retK,zN,i2,d2,zJ,cond_true]
     rfl
  ·have e1:decide (((i+1:Nat):Int)<(s.length:Int))=false:=decide_eq_false (by omega)
   refine⟨-1,.inl rfl,fun fr Z m k hm f0 f2 f4 f5 f6=>?_⟩
   obtain⟨m,rfl⟩:∃ j,m=j+1:=⟨m-1,by omega⟩
   rw[zI]
   simp only[zDH,zA f0,zA f2,zA f4,zA f5,zA f6,zS .i64,e3,zO,zB,zL,e1,zD]
   rfl
theorem zMn {H:Heap}{id:Nat}{l:List Nat}(h:Bx H id (ws16 l))(h8:A8 l):zA7 8 [.ptr id 0] H=some (.agg (ws16 l)):=by
 have e:(ws16 l).length=8:=by rw[zIz];exact h8.1
 have:=zJm (off:=0) (n:=8) h.cells (by omega)
 rw[List.drop_zero,List.take_of_length_le (by omega)]at this
 exact this
theorem zSW {H:Heap}(hw:WF H){r:Nat}{old:List V}(hr:Bx H r old)(ho:old.length=8){l:List Nat}(h8:A8 l)(b:Bool)(Z:Tape) :
  ∃ H',eStore 8 [.ptr r 0,.agg (ws16 l)] H Z=some (.tup [],H',Z)/\Only r H H'/\results ⟨(T.s (T.s .leaf 2 (.ptr r 0)) 3 (.bool b)),H'⟩ [(.cell 2 (some 8)),(.t 3)]=some (.tup [.agg (ws16 l),.bool b]):=by
 obtain⟨H',s1,s2,s3⟩:=hr.eStore hw 0 (.agg (ws16 l)) 8 (by show(ws16 l).length=8;rw[zIz];exact h8.1) (by omega) (by omega) (zQf l) Z
 have s2':Bx H' r (ws16 l):=by
  have e:old.take 0++(V.agg (ws16 l)).cells++old.drop (0+8)=ws16 l:=by
   rw[List.take_zero,List.nil_append,show old.drop (0+8)=[]from List.drop_eq_nil_of_le (by omega),List.append_nil];rfl
  rw[e]at s2;exact s2
 have l4:=zMn s2' h8
 refine⟨H',s1,s3,?_⟩
 simp only[results,zOa,resOf,T.get_set,↓reduceIte,Nat.reduceEqDiff,zGU,zRB,l4]
abbrev SixOk (c:zG):Prop:=∀ (s:Bs),s.length<=1000->∀ {H:Heap},WF H->∀ Z,∃ (ok:Bool) (l:List Nat) (H':Heap) (Z':Tape),A8 l/\Gr H.size H H'/\∀ q,c zMz [.str s] H Z q=q (.tup [.agg (ws16 l),.bool ok]) H' Z'
theorem zRC (c:zG){N:Nat}(hN:9223372036854775807<=N)(hP:PcsOk c)(s:Bs)(hs:s.length<=1000){H:Heap}(hw:WF H)(Z:Tape) :
  ∃ (ok:Bool) (l:List Nat) (H':Heap) (Z':Tape),A8 l/\Gr H.size H H'/\∀ q,zGX c N (.str s) H Z q=q (.tup [.agg (ws16 l),.bool ok]) H' Z':=by
 let z:List Nat:=[0,0,0,0,0,0,0,0]
 have hz:A8 z:=by unfold A8;decide
 have e0:∀ H Z,zBV (repl 8 [(.int .u16 (.ofNat 0))]) [] H Z=some (.ptr H.size 0,H.new (ws16 z) 8 true,Z):=fun _ _=>rfl
 have g1:=Gr.new hw (ws16 z) 8 true
 have b1:Bx (H.new (ws16 z) 8 true) H.size (ws16 z):=Bx.new H _ 8 true (by decide)
 have z1:(H.new (ws16 z) 8 true).size=H.size+1:=rfl
 have a1:=e0 H Z
 generalize H.new (ws16 z) 8 true=H1 at a1 g1 b1 z1
 have a2:=e0 H1 Z
 have g2:=Gr.new g1.wf (ws16 z) 8 true
 have b2:Bx (H1.new (ws16 z) 8 true) H1.size (ws16 z):=Bx.new H1 _ 8 true (by decide)
 have z2:(H1.new (ws16 z) 8 true).size=H1.size+1:=rfl
 generalize H1.new (ws16 z) 8 true=H2 at a2 g2 b2 z2
 have b1':=bxg b1 g1.wf g2
 have g12:=g1.trans g2 g1.size
 obtain⟨a,ha,hk⟩:=l_six c N s (by omega) (.ptr H.size 0) (.ptr H1.size 0) H2 s.length 0 (by omega)
 have lz:∀ l:List Nat,A8 l->(ws16 l).length=8:=fun l h=>by rw[zIz];exact h.1
 have neg1:(V.int .i64 (.negSucc 0))=.int .i64 (-1):=rfl
 have head:∀ q,zGX c N (.str s) H Z q=zBY c N q ⟨(T.s (T.s (T.s (T.s .leaf 0 (.str s)) 2 (.ptr H.size 0)) 4 (.ptr H1.size 0)) 5 (.int .i64 a)),H2⟩ Z:=fun q=>by
  simp only[zGX,a1,zN,a2,neg1]
  rw[hk _ _ _ _ (by omega) (by simp[T.get_set]) (by simp[T.get_set]) (by simp[T.get_set]) (by simp[T.get_set]) (by simp[T.get_set])]
  rfl
 rcases ha with rfl | ⟨j,rfl,hj⟩
 ·-- no '::'
  have d1:decide ((-1:Int)<Int.ofNat 0)=true:=by decide
  obtain⟨ok,v,ns,H3,Z3,⟨p12,p3,p4⟩,g3,k3⟩:=hP s hs true g2.wf Z
  have ex0:zT 0 [.tup [v,.bool ok]]=some v:=rfl
  have ex1:zT 1 [.tup [v,.bool ok]]=some (.bool ok):=rfl
  have p1:=p12.rd
  have p2:=p12.src
  have pl:=p1.pLen
  have r3:=bxg b1' g2.wf g3
  have x3:=bxg b2 g2.wf g3
  have g03:=g12.trans g3 g12.size
  have lx:=zMn x3 hz
  obtain⟨H4,s1,s2,s3⟩:=zSW g3.wf r3 (lz z hz) hz false Z3
  have bad:(ok=false∨ns.length≠8)->∃ (ok:Bool) (l:List Nat) (H':Heap) (Z':Tape),A8 l/\Gr H.size H H'/\∀ q,zGX c N (.str s) H Z q=q (.tup [.agg (ws16 l),.bool ok]) H' Z':=by
   intro hb
   refine⟨false,z,H4,Z3,hz,g03.trans (s2.gr nl) nl,fun q=>?_⟩
   rw[head]
   cases ok with
   | false=>simp only[zBY,zK,↓reduceIte,Nat.reduceEqDiff,zL,d1,zF,k3,ex0,ex1,zB,zg,Bool.not_false,zh,zX,zJ,cond_true,lx,s1,zN,s3]
   | true =>
    have d2:((ns.length:Int) != Int.ofNat 8)=true:=by
     have h8:ns.length≠8:=hb.resolve_left (by decide)
     rw[bne_iff_ne];intro h;have:Int.ofNat 8=8:=rfl;omega
    simp only[zBY,zK,↓reduceIte,Nat.reduceEqDiff,zL,d1,zF,k3,ex0,ex1,zB,zg,Bool.not_true,zu,retK,zN,pl,zAM,d2,zJ,cond_false,lx,s1,s3]
  by_cases h:ok=false∨ns.length≠8
  ·exact bad h
  ·obtain⟨h1,h2⟩:ok=true/\ns.length=8:=by
    refine⟨?_,?_⟩
    ·cases ok with
     | true=>rfl
     | false=>exact absurd (.inl rfl) h
    ·exact Decidable.byContradiction fun k=>h (.inr k)
   subst h1
   have d2:((ns.length:Int) != Int.ofNat 8)=false:=by rw[h2];rfl
   have ars:zCH 8 1 false false false [.ptr H1.size 0]=some (.sl H1.size 0 8 8 none 1):=rfl
   obtain⟨H5,l',n,c1,c2,c3,c4⟩:=copy_bx x3 g3.wf hz (off:=0) (len:=8) (lo:=8) (ex:=none) p1 p2 p3 (by omega) (.inr (by omega)) Z3
   have r5:=r3.only c4 (by omega)
   have lx5:=zMn c2 c3
   obtain⟨H6,t1,t2,t3⟩:=zSW c4.wf r5 (lz z hz) c3 true Z3
   refine⟨true,l',H6,Z3,c3,(g03.trans (c4.gr (by omega)) nl).trans (t2.gr nl) nl,fun q=>?_⟩
   rw[head]
   simp only[zBY,zK,↓reduceIte,Nat.reduceEqDiff,zL,d1,zF,k3,ex0,ex1,zB,zg,Bool.not_true,zu,retK,zN,pl,zAM,d2,zJ,cond_false,zD,ars,c1,lx5,t1,t3]
 ·-- '::' at j
  have d1:decide ((j:Int)<Int.ofNat 0)=false:=decide_eq_false (by have:Int.ofNat 0=0:=rfl;omega)
  have e1:zR false true [.str s,.int .i64 (j:Int)]=some (.str (s.take j)):=zDB (by omega)
  have e2:wr .i64 ((j:Int)+Int.ofNat 2)=((j+2:Nat):Int):=adI (by omega)
  have e3:zR true false [.str s,.int .i64 ((j+2:Nat):Int)]=some (.str (s.drop (j+2))):=zAt (by omega)
  obtain⟨ok,v,ns,H3,Z3,⟨p12,p3,p4⟩,g3,k3⟩:=hP (s.take j) (by rw[List.length_take];omega) false g2.wf Z
  obtain⟨ok',w,ms,H4,Z4,⟨q12,q3,q4⟩,g4,k4⟩:=hP (s.drop (j+2)) (by rw[List.length_drop];omega) true g3.wf Z3
  have ex0:zT 0 [.tup [v,.bool ok]]=some v:=rfl
  have ex1:zT 1 [.tup [v,.bool ok]]=some (.bool ok):=rfl
  have ey0:zT 0 [.tup [w,.bool ok']]=some w:=rfl
  have ey1:zT 1 [.tup [w,.bool ok']]=some (.bool ok'):=rfl
  have p1:=p12.rd
  have p2:=p12.src
  have pl:=p1.pLen
  have pw:=q12.rd.pLen
  have r3:=bxg (bxg b1' g2.wf g3) g3.wf g4
  have x3:=bxg (bxg b2 g2.wf g3) g3.wf g4
  have g23:=g3.trans g4 g3.size
  have g04:=g12.trans g23 g12.size
  have p1':=p1.gr g4 g3.wf nl
  have p2':=p2.gr g4 g3.wf nl
  have pb:zIf (repl 8 [(.int .u16 (.ofNat 0))]) [] []=some (.agg (ws16 z)):=rfl
  obtain⟨H5,s1,s2,s3⟩:=zSW g4.wf r3 (lz z hz) hz false Z4
  have sum:wr .i64 ((ns.length:Int)+(ms.length:Int))=((ns.length+ms.length:Nat):Int):=by rw[zES (by omega) (by omega)];omega
  have bad:(ok=false∨ok'=false∨7<ns.length+ms.length)->∃ (ok:Bool) (l:List Nat) (H':Heap) (Z':Tape),A8 l/\Gr H.size H H'/\∀ q,zGX c N (.str s) H Z q=q (.tup [.agg (ws16 l),.bool ok]) H' Z':=by
   intro hb
   refine⟨false,z,H5,Z4,hz,g04.trans (s2.gr nl) nl,fun q=>?_⟩
   rw[head]
   cases ok with
   | false=>simp only[zBY,zK,↓reduceIte,Nat.reduceEqDiff,zL,d1,zD,e1,zB,k3,ex0,ex1,zS .i64,e2,e3,k4,ey0,ey1,zg,Bool.not_false,zh,zX,zJ,cond_true,zF,pb,s1,zN,s3]
   | true =>
    cases ok' with
    | false=>simp only[zBY,zK,↓reduceIte,Nat.reduceEqDiff,zL,d1,zD,e1,zB,k3,ex0,ex1,zS .i64,e2,e3,k4,ey0,ey1,zg,Bool.not_true,Bool.not_false,zu,retK,zN,zJ,cond_false,zh,zX,cond_true,zF,pb,s1,s3]
    | true =>
     have h7:7<ns.length+ms.length:=(hb.resolve_left (by decide)).resolve_left (by decide)
     have d2:decide (Int.ofNat 7<((ns.length+ms.length:Nat):Int))=true:=decide_eq_true (by have:Int.ofNat 7=7:=rfl;omega)
     simp only[zBY,zK,↓reduceIte,Nat.reduceEqDiff,zL,d1,zD,e1,zB,k3,ex0,ex1,zS .i64,e2,e3,k4,ey0,ey1,zg,Bool.not_true,zu,retK,zN,zJ,cond_false,pl,pw,sum,zY,d2,zF,pb,s1,s3]
  by_cases h:ok=false∨ok'=false∨7<ns.length+ms.length
  ·exact bad h
  ·have h1:ok=true:=by cases ok with | true=>rfl | false=>exact absurd (.inl rfl) h
   have h2:ok'=true:=by cases ok' with | true=>rfl | false=>exact absurd (.inr (.inl rfl)) h
   have h7:ns.length+ms.length<=7:=Nat.le_of_not_lt fun k=>h (.inr (.inr k))
   subst h1
   subst h2
   have d2:decide (Int.ofNat 7<((ns.length+ms.length:Nat):Int))=false:=decide_eq_false (by have:Int.ofNat 7=7:=rfl;omega)
   have ars:zCH 8 1 false false false [.ptr H1.size 0]=some (.sl H1.size 0 8 8 none 1):=rfl
   obtain⟨H6,l',n,c1,c2,c3,c4⟩:=copy_bx x3 g4.wf hz (off:=0) (len:=8) (lo:=8) (ex:=none) p1' p2' p3 (by omega) (.inr (by omega)) Z4
   have e8:wr .i64 (Int.ofNat 8-(ms.length:Int))=((8-ms.length:Nat):Int):=by
    have:Int.ofNat 8=8:=rfl
    rw[show Int.ofNat 8-(ms.length:Int)=((8-ms.length:Nat):Int)by omega,zES (by omega) (by omega)]
   obtain⟨off,lo,ars2,hoff⟩:=arr_from (id:=H1.size) (k:=8-ms.length) (by omega)
   have s4:=g4.size
   have q6:=q12.chg g4.wf (c4.chg (P:=fun i=>i=H1.size) rfl) (fun i _ h e=>by have:=g3.size;omega)
   have q1d:Rd H6 1 w ms.length (ws16 ms)/\Src H6 w:=⟨q6.rd,q6.src⟩
   have r6:=r3.only c4 (by omega)
   obtain⟨H7,l'',n',f1,f2,f3,f4⟩:=copy_bx c2 c4.wf c3 (off:=off) (len:=8-(8-ms.length)) (lo:=lo) (ex:=none) q1d.1 q1d.2 q3 (by omega) (by
    by_cases h0:ms.length=0
    ·exact .inl h0
    ·exact .inr (by rw[hoff (by omega)];omega)) Z4
   have r7:=r6.only f4 (by omega)
   have lx7:=zMn f2 f3
   obtain⟨H8,t1,t2,t3⟩:=zSW f4.wf r7 (lz z hz) f3 true Z4
   refine⟨true,l'',H8,Z4,f3,((g04.trans (c4.gr (by omega)) nl).trans (f4.gr (by omega)) nl).trans (t2.gr nl) nl,fun q=>?_⟩
   rw[head]
   simp only[zBY,zK,↓reduceIte,Nat.reduceEqDiff,zL,d1,zD,e1,zB,k3,ex0,ex1,zS .i64,e2,e3,k4,ey0,ey1,zg,Bool.not_true,zu,retK,zN,zJ,cond_false,pl,pw,sum,zY,d2,ars,c1,zAA,e8,ars2,f1,lx7,t1,t3]
end Go.Am.X

