/- The abstract machine, printed functions of the program, and what they are shown to be. -/
import Derived.Test.YtejpgcemblankaaDoorIMAL1
import Derived.Test.YtejpgcemblankaaDoorIMAL2
import Derived.Test.YtejpgcemblankaaDoorIMASh1
import Derived.Test.YtejpgcemblankaaDoorIMAM4
set_option linter.unusedSimpArgs false
set_option linter.unusedVariables false
set_option linter.unusedSectionVars false
set_option maxRecDepth 100000
namespace Go.Am.X
theorem zQN (a:List Bs)(x:Bs):(a.map V.str)++[V.str x]=(a++[x]).map V.str:=by simp
theorem l_words (c:zD)(N:Nat)(hI:zS3 c)(s:Bs)(hs:s.length<=1000000000)(B:Nat) :
  ∀ (l pre:Bs) (from_:Nat) (acc:List Bs) (v3:V) (M:Nat) (H:Heap) (Z:Tape),s=pre++l->l.length+1<M->from_<=pre.length->WF H->B<=H.size->Own H B 1 v3 acc.length (acc.map V.str)->acc.length<=pre.length ->
  ∃ v3' H' Z',Own H' B 1 v3' (acc++zAe zBW.contains (pre.drop from_) l).length ((acc++zAe zBW.contains (pre.drop from_) l).map V.str)/\Gr B H H' /\
   ∀ (fr:T V) k,fr.get 0=some (.str s)->fr.get 3=some v3->fr.get 4=some (.int .i64 (from_:Int))->fr.get 5=some (.int .i64 (pre.length:Int)) ->
    zW (zBb c N) M ⟨fr,H⟩ Z k=k (.exit 0) ⟨(T.s .leaf 3 v3'),H'⟩ Z':=by
 intro l
 induction l with
 | nil =>
  intro pre from_ acc v3 M H Z he hM hf hw hB ho hal
  obtain⟨M,rfl⟩:∃ j,M=j+1+1:=⟨M-2,by simp at hM;omega⟩
  rw[List.append_nil]at he
  have e1:decide ((pre.length:Int)<=(s.length:Int))=true:=decide_eq_true (by rw[he];omega)
  have e2:((pre.length:Int) ==(s.length:Int))=true:=by rw[he];simp
  have e3:wr .i64 ((pre.length:Int)+Int.ofNat 1)=((pre.length+1:Nat):Int):=adI (by rw[<- he];omega)
  have e4:decide (((pre.length+1:Nat):Int)<=(s.length:Int))=false:=decide_eq_false (by rw[he];omega)
  by_cases hc:from_<pre.length
  ·have e5:decide ((from_:Int)<(pre.length:Int))=true:=decide_eq_true (by omega)
   have hne:pre.drop from_≠[]:=fun h=>by have:=congrArg List.length h;simp at this;omega
   have e6:zAc true true [.str s,.int .i64 (from_:Int),.int .i64 (pre.length:Int)]=some (.str (pre.drop from_)):=by
    rw[zL8 (by omega) (by rw[he];omega),he,List.take_length]
   obtain⟨w,H1,v',H2,r1,r2,r3,r4,_⟩:=ho.push (bytes:=16) hw hB (.str (pre.drop from_)) (.str []) rfl rfl (by rw[he]at hs;omega) (by rw[he]at hs;omega) Z
   rw[zQN]at r3
   refine⟨v',H2,Z.tail,by rw[zAe,if_neg hne];simpa using r3,r4,fun fr k f0 f3 f4 f5=>?_⟩
   rw[zC]
   simp only[zBb,zA f0,zA f3,zA f4,zA f5,zBu,zK,zB3,e1,zO,zZ,e2,zEO,zBw,zi,cond_true,zAs,e5,e6,r1,r2,za,zEV,zC5,zJ,↓reduceIte,Nat.reduceEqDiff,zQ,e3,seqK]
   rw[zC]
   simp only[zBb,zJ,↓reduceIte,Nat.reduceEqDiff,zBu,zK,zB3,e4,zM]
   rfl
  ·have e5:decide ((from_:Int)<(pre.length:Int))=false:=decide_eq_false (by omega)
   have hne:pre.drop from_=[]:=List.drop_eq_nil_of_le (by omega)
   refine⟨v3,H,Z,by rw[zAe,if_pos hne];simpa using ho,Gr.refl hw,fun fr k f0 f3 f4 f5=>?_⟩
   rw[zC]
   simp only[zBb,zA f0,zA f3,zA f4,zA f5,zBu,zK,zB3,e1,zO,zZ,e2,zEO,zBw,zi,cond_true,zAs,e5,zM,za,zEV,zC5,zJ,↓reduceIte,Nat.reduceEqDiff,zQ,e3,seqK]
   rw[zC]
   simp only[zBb,zJ,↓reduceIte,Nat.reduceEqDiff,zBu,zK,zB3,e4,zM]
   rfl
 | cons x l ih =>
  intro pre from_ acc v3 M H Z he hM hf hw hB ho hal
  obtain⟨M,rfl⟩:∃ j,M=j+1:=⟨M-1,by omega⟩
  have hlt:pre.length<s.length:=by rw[he];simp
  have e1:decide ((pre.length:Int)<=(s.length:Int))=true:=decide_eq_true (by omega)
  have e2:((pre.length:Int) ==(s.length:Int))=false:=by rw[beq_eq_false_iff_ne];omega
  have e3:wr .i64 ((pre.length:Int)+Int.ofNat 1)=((pre++[x]).length:Int):=by rw[adI (by omega)];simp
  have e7:zAE [.str s,.int .i64 (pre.length:Int)]=some (.int .u8 (x.toNat:Int)):=zFg (by rw[he];simp)
  have hi:=fun H Z q=>hI x.toNat H Z q
  rw[zS1]at hi
  cases hx:zBW.contains x with
  | true =>
   have hdr:(pre++[x]).drop (pre++[x]).length=[]:=List.drop_length
   have hff:zAe zBW.contains (pre.drop from_) (x::l)=if pre.drop from_=[]then zAe zBW.contains [] l else pre.drop from_::zAe zBW.contains [] l:=by rw[zAe,if_pos hx]
   by_cases hc:from_<pre.length
   ·have e5:decide ((from_:Int)<(pre.length:Int))=true:=decide_eq_true (by omega)
    have hne:pre.drop from_≠[]:=fun h=>by have:=congrArg List.length h;simp at this;omega
    have e6:zAc true true [.str s,.int .i64 (from_:Int),.int .i64 (pre.length:Int)]=some (.str (pre.drop from_)):=by
     rw[zL8 (by omega) (by omega),he,List.take_left]
    obtain⟨w,H1,v',H2,r1,r2,r3,r4,_⟩:=ho.push (bytes:=16) hw hB (.str (pre.drop from_)) (.str []) rfl rfl (by omega) (by omega) Z
    rw[zQN]at r3
    obtain⟨v3',H',Z',s1,s2,s3⟩:=ih (pre++[x]) (pre++[x]).length (acc++[pre.drop from_]) v' M H2 Z.tail (by rw[he];simp) (by simp at hM;omega) nl r4.wf (Nat.le_trans hB r4.size) (by simpa using r3) (by simp;omega)
    rw[hdr]at s1
    refine⟨v3',H',Z',by rw[hff,if_neg hne,show acc++pre.drop from_::zAe zBW.contains [] l=(acc++[pre.drop from_])++zAe zBW.contains [] l by simp];exact s1,r4.trans s2 nl,fun fr k f0 f3 f4 f5=>?_⟩
    rw[zC]
    simp only[zBb,zA f0,zA f3,zA f4,zA f5,zBu,zK,zB3,e1,zO,zZ,e2,zHc,retK,e7,hi,hx,zi,cond_false,zAs,e5,e6,r1,r2,za,zEV,zC5,zJ,↓reduceIte,Nat.reduceEqDiff,zQ,e3]
    exact s3 _ _ (by rfl) (by rfl) (by rfl) (by rfl)
   ·have e5:decide ((from_:Int)<(pre.length:Int))=false:=decide_eq_false (by omega)
    have hne:pre.drop from_=[]:=List.drop_eq_nil_of_le (by omega)
    obtain⟨v3',H',Z',s1,s2,s3⟩:=ih (pre++[x]) (pre++[x]).length acc v3 M H Z (by rw[he];simp) (by simp at hM;omega) nl hw hB ho (by simp;omega)
    rw[hdr]at s1
    refine⟨v3',H',Z',by rw[hff,if_pos hne];exact s1,s2,fun fr k f0 f3 f4 f5=>?_⟩
    rw[zC]
    simp only[zBb,zA f0,zA f3,zA f4,zA f5,zBu,zK,zB3,e1,zO,zZ,e2,zHc,retK,e7,hi,hx,zi,cond_false,zAs,e5,zM,za,zEV,zC5,zJ,↓reduceIte,Nat.reduceEqDiff,zQ,e3]
    exact s3 _ _ (by rfl) (by rfl) (by rfl) (by rfl)
  | false =>
   have hff:zAe zBW.contains (pre.drop from_) (x::l)=zAe zBW.contains ((pre++[x]).drop from_) l:=by
    rw[zAe,if_neg (by rw[hx];decide),List.drop_append_of_le_length hf]
   obtain⟨v3',H',Z',s1,s2,s3⟩:=ih (pre++[x]) from_ acc v3 M H Z (by rw[he];simp) (by simp at hM;omega) (by simp;omega) hw hB ho (by simp;omega)
   refine⟨v3',H',Z',by rw[hff];exact s1,s2,fun fr k f0 f3 f4 f5=>?_⟩
   rw[zC]
   simp only[zBb,zA f0,zA f3,zA f4,zA f5,zBu,zK,zB3,e1,zO,zZ,e2,zHc,retK,e7,hi,hx,zi,cond_false,zM,za,zC5,zJ,↓reduceIte,Nat.reduceEqDiff,zQ,e3]
   exact s3 _ _ (by rfl) (by rfl) (by rfl) (by rfl)
theorem zQe (c:zD){N:Nat}(hN:9223372036854775807<=N)(hI:zS3 c)(s:Bs)(hs:s.length<=1000000000)(H:Heap)(hw:WF H)(Z:Tape) :
  ∃ v H' Z',Own H' H.size 1 v (zHd s).length ((zHd s).map V.str)/\Gr H.size H H'/\∀ q,zK4 c N (.str s) H Z q=q v H' Z':=by
 obtain⟨v,H',Z',s1,s2,s3⟩:=l_words c N hI s hs H.size s [] 0 [] .nils N H Z rfl (by omega) nl hw nl (Own.nil _ _ _) nl
 refine⟨v,H',Z',by simpa [zHd] using s1,s2,fun q=>?_⟩
 simp only[zK4]
 rw[s3 _ _ (by rfl) (by rfl) (by rfl) (by rfl)]
 simp only[zP,Nat.beq_refl,cond_true,seqK,zNS,zJ,↓reduceIte]
abbrev WordsOk (c:zD):Prop:=∀ (s:Bs),s.length<=1000000000->∀ H,WF H->∀ Z,∃ v H' Z',Own H' H.size 1 v (zHd s).length ((zHd s).map V.str)/\Gr H.size H H'/\∀ q,c zLC [.str s] H Z q=q v H' Z'
theorem zRV (c:zD)(N:Nat)(hL:RLowOk c)(s:Bs)(hs:s.length<=140737488355328)(H:Heap)(Z:Tape)(q:KV):zG1 c N (.str s) H Z q=q (.int .i64 (zKm s:Nat)) H Z:=by
 have e1:zD6 .eql (lower s) (bs [115,104,97,50,53,54])=some (.bool (decide (lower s=sha 50 53 54))):=zOn _ _
 have e2:zD6 .eql (lower s) (bs [115,104,97,51,56,52])=some (.bool (decide (lower s=sha 51 56 52))):=zOn _ _
 have e3:zD6 .eql (lower s) (bs [115,104,97,53,49,50])=some (.bool (decide (lower s=sha 53 49 50))):=zOn _ _
 unfold zKm
 by_cases h1:lower s=sha 50 53 54
 ·simp only[zG1,hL s hs,zCm,e1,decide_eq_true h1,zK,zO,if_pos h1];rfl
 ·by_cases h2:lower s=sha 51 56 52
  ·simp only[zG1,hL s hs,zCm,e1,e2,decide_eq_false h1,decide_eq_true h2,zK,zO,zM,if_neg h1,if_pos h2];rfl
  ·by_cases h3:lower s=sha 53 49 50
   ·simp only[zG1,hL s hs,zCm,e1,e2,e3,decide_eq_false h1,decide_eq_false h2,decide_eq_true h3,zK,zO,zM,if_neg h1,if_neg h2,if_pos h3];rfl
   ·simp only[zG1,hL s hs,zCm,e1,e2,e3,decide_eq_false h1,decide_eq_false h2,decide_eq_false h3,zK,zM,if_neg h1,if_neg h2,if_neg h3];rfl
theorem l_rparse (c:zD)(N:Nat)(hC:PartOk c)(hB:zSB c zIw)(wd:List Bs)(hwd:wd.length<=100000000001)(hsz:∀ w ∈ wd,w.length<=140737488355328)(v4:V)(B:Nat) :
  ∀ (l pre:List Bs) (acc:List It9) (v3:V) (M:Nat) (H:Heap) (Z:Tape),wd=pre++l->l.length<M->WF H->B<=H.size->(∀ H',Gr B H H'->Rd H' 1 v4 wd.length (wd.map V.str))->OwnN H B 3 v3 acc.length (it9C acc)->acc.length<=pre.length ->
  ∃ v3' H' Z',OwnN H' B 3 v3' (acc++l.filterMap zHa).length (it9C (acc++l.filterMap zHa))/\Gr B H H' /\
   ∀ (fr:T V) k,fr.get 3=some v3->fr.get 4=some v4->fr.get 5=some (.int .i64 (pre.length:Int)) ->
    zW (zEZ c N) M ⟨fr,H⟩ Z k=k (.exit 0) ⟨(T.s .leaf 3 v3'),H'⟩ Z':=by
 intro l
 induction l with
 | nil =>
  intro pre acc v3 M H Z he hM hw hBs hr ho hal
  obtain⟨M,rfl⟩:∃ j,M=j+1:=⟨M-1,by omega⟩
  have e1:decide ((pre.length:Int)<(wd.length:Int))=false:=decide_eq_false (by rw[he];simp)
  refine⟨v3,H,Z,by simpa using ho,Gr.refl hw,fun fr k f3 f4 f5=>?_⟩
  rw[zC]
  simp only[zEZ,zA f3,zA f4,zA f5,(hr H (Gr.refl hw)).pLen,zK,zI,e1,zM]
  rfl
 | cons w l ih =>
  intro pre acc v3 M H Z he hM hw hBs hr ho hal
  obtain⟨M,rfl⟩:∃ j,M=j+1:=⟨M-1,by omega⟩
  have hlt:pre.length<wd.length:=by rw[he];simp
  have e1:decide ((pre.length:Int)<(wd.length:Int))=true:=decide_eq_true (by omega)
  have hwi:(wd.map V.str)[pre.length]?=some (.str w):=by rw[he];simp
  have pl:=(hr H (Gr.refl hw)).pLen
  obtain⟨p,p1,p2⟩:=(hr H (Gr.refl hw)).elem1 hwi
  have hwl:=hsz w (by rw[he];simp)
  have k1:=fun H Z q=>hC w 63 (by omega) (by omega) H Z q
  rw[show UInt8.ofNat 63=63 from rfl,zNo]at k1
  have hl1:=zPJ 63 w
  have k2:=fun H Z q=>hC (cut1 63 w).1 45 (by omega) (by omega) H Z q
  rw[show UInt8.ofNat 45=45 from rfl,zNo]at k2
  have hl2:=zPJ 45 (cut1 63 w).1
  have k3:=fun H Z q=>hB (cut1 45 (cut1 63 w).1).1 (by omega) H Z q
  have x0:∀ a b d:V,zR 0 [.tup [a,b,d]]=some a:=fun _ _ _=>rfl
  have x1:∀ a b d:V,zR 1 [.tup [a,b,d]]=some b:=fun _ _ _=>rfl
  have x2:∀ a b d:V,zR 2 [.tup [a,b,d]]=some d:=fun _ _ _=>rfl
  have e6:wr .i64 ((pre.length:Int)+Int.ofNat 1)=((pre++[w]).length:Int):=by rw[adI (by omega)];simp
  by_cases hit:(cut1 45 (cut1 63 w).1).2.2=true/\0<zKm (cut1 45 (cut1 63 w).1).1
  ·have hib:zHa w=some (zKm (cut1 45 (cut1 63 w).1).1,(cut1 45 (cut1 63 w).1).2.1,(cut1 63 w).2.1):=if_pos hit
   have hgt:decide (Int.ofNat 0<((zKm (cut1 45 (cut1 63 w).1).1:Nat):Int))=true:=decide_eq_true (by have:=hit.2;simp;omega)
   generalize hx:(zKm (cut1 45 (cut1 63 w).1).1,(cut1 45 (cut1 63 w).1).2.1,(cut1 63 w).2.1)=x at hib
   have bb:zDw [(.int .i64 (.ofNat 0)),(.str []),(.str [])] [(0,1),(1,1),(2,1)] [.int .i64 ((zKm (cut1 45 (cut1 63 w).1).1:Nat):Int),.str (cut1 45 (cut1 63 w).1).2.1,.str (cut1 63 w).2.1]=some (.agg (it9 x)):=by rw[<- hx];rfl
   have b0:zL 1 3 [(.int .i64 (.ofNat 0)),(.str []),(.str [])] [(0,3)] [.agg (it9 x)] H Z=some (.sl H.size 0 1 1 none 3,H.new (it9 x) 3 false,Z):=rfl
   obtain⟨v',H1,Z1,r1,r2,r3⟩:=ho.1.putN (bytes:=40) hw hBs (it9 x) rfl rfl (by omega) (by omega) Z false
   have hcs:it9C acc++it9 x=it9C (acc++[x]):=by rw[zFx];simp[it9C]
   rw[hcs]at r2
   obtain⟨v3',H',Z',s1,s2,s3⟩:=ih (pre++[w]) (acc++[x]) v' M H1 Z1 (by rw[he];simp) (by simp at hM;omega) r3.wf (Nat.le_trans hBs r3.size) (fun H2 hg=>hr H2 (r3.trans hg nl)) ⟨by simpa using r2,fun h=>by simp at h⟩ (by simp;omega)
   have hfm:acc++(w::l).filterMap zHa=(acc++[x])++l.filterMap zHa:=by rw[List.filterMap_cons,hib];simp
   refine⟨v3',H',Z',by rw[hfm];exact s1,r3.trans s2 nl,fun fr k f3 f4 f5=>?_⟩
   rw[zC]
   simp only[zEZ,zA f3,zA f4,zA f5,pl,zI,e1,zO,p1,p2,zK,k1,k2,k3,x0,x1,x2,hit.1,zFR,retK,za,zAs,hgt,zi,cond_true,bb,b0,r1,zFq,zJ,↓reduceIte,Nat.reduceEqDiff,zQ,e6]
   exact s3 _ _ (by rfl) (by rfl) (by rfl)
  ·have hib:zHa w=none:=if_neg hit
   obtain⟨v3',H',Z',s1,s2,s3⟩:=ih (pre++[w]) acc v3 M H Z (by rw[he];simp) (by simp at hM;omega) hw hBs hr ho (by simp;omega)
   have hfm:acc++(w::l).filterMap zHa=acc++l.filterMap zHa:=by rw[List.filterMap_cons,hib]
   refine⟨v3',H',Z',by rw[hfm];exact s1,s2,fun fr k f3 f4 f5=>?_⟩
   rw[zC]
   cases hb:(cut1 45 (cut1 63 w).1).2.2 with
   | false =>
    simp only[zEZ,zA f3,zA f4,zA f5,pl,zI,e1,zO,p1,p2,zK,k1,k2,k3,x0,x1,x2,hb,zCo,zBw,zi,cond_false,zM,zFq,zJ,↓reduceIte,Nat.reduceEqDiff,zQ,e6]
    exact s3 _ _ (by rfl) (by rfl) (by rfl)
   | true =>
    have hgt:decide (Int.ofNat 0<((zKm (cut1 45 (cut1 63 w).1).1:Nat):Int))=false:=decide_eq_false (by have:¬ 0<zKm (cut1 45 (cut1 63 w).1).1:=fun h=>hit ⟨hb,h⟩;simp;omega)
    simp only[zEZ,zA f3,zA f4,zA f5,pl,zI,e1,zO,p1,p2,zK,k1,k2,k3,x0,x1,x2,hb,zFR,retK,za,zAs,hgt,zi,cond_true,zM,zFq,zJ,↓reduceIte,Nat.reduceEqDiff,zQ,e6]
    exact s3 _ _ (by rfl) (by rfl) (by rfl)
theorem zQa (c:zD){N:Nat}(hN:9223372036854775807<=N)(hF:WordsOk c)(hC:PartOk c)(hB:zSB c zIw)(s:Bs)(hs:s.length<=1000000000)(H:Heap)(hw:WF H)(Z:Tape) :
  ∃ v H' Z',OwnN H' H.size 3 v (zAY s).length (it9C (zAY s))/\Gr H.size H H'/\∀ q,zLA c N (.str s) H Z q=q v H' Z':=by
 obtain⟨v0,H1,Z1,r1,g1,k1⟩:=hF s hs H hw Z
 have hfl:(zHd s).length<=s.length+1:=zMK s []
 obtain⟨v3,H',Z',s1,s2,s3⟩:=l_rparse c N hC hB (zHd s) (by omega) (fun w hw=>by have:=zNe s [] w hw;simp at this;omega) v0 H1.size (zHd s) [] [] .nils N H1 Z1 rfl (by omega) g1.wf nl (fun H' hg=>r1.rd.gr hg g1.wf nl) (OwnN.nil _ _ _) nl
 refine⟨v3,H',Z',?_,g1.trans s2 g1.size,fun q=>?_⟩
 ·have:OwnN H' H1.size 3 v3 (zAY s).length (it9C (zAY s)):=by simpa [zAY] using s1
  exact⟨this.1.weaken0 g1.size,this.2⟩
 ·simp only[zLA,k1]
  rw[s3 _ _ (by rfl) (by rfl) (by rfl)]
  simp only[zP,Nat.beq_refl,cond_true,seqK,zNV,zJ,↓reduceIte]
theorem it9C_at0 (pre:List It9)(x:It9)(l:List It9):(it9C (pre++x::l))[pre.length*3+0]?=some (.int .i64 (x.1:Int)):=by
 rw[zFx,List.getElem?_append_right (by rw[zFD];omega),zFD,Nat.add_sub_cancel_left];rfl
theorem it9C_at1 (pre:List It9)(x:It9)(l:List It9):(it9C (pre++x::l))[pre.length*3+1]?=some (.str x.2.1):=by
 rw[zFx,List.getElem?_append_right (by rw[zFD];omega),zFD,Nat.add_sub_cancel_left];rfl
theorem it9C_at2 (pre:List It9)(x:It9)(l:List It9):(it9C (pre++x::l))[pre.length*3+2]?=some (.str x.2.2):=by
 rw[zFx,List.getElem?_append_right (by rw[zFD];omega),zFD,Nat.add_sub_cancel_left];rfl
theorem zQr {H:Heap}{v:V}(pre:List It9)(x:It9)(l:List It9)(hr:Rd H 3 v (pre++x::l).length (it9C (pre++x::l))) :
  ∃ id o,zA3 3 [v,.int .i64 (pre.length:Int)]=some (.ptr id o)/\zV 3 [.ptr id o] H=some (.agg (it9 x))/\zF [.ptr id o] H=some (.int .i64 (x.1:Int))/\zF [.ptr id (o+1)] H=some (.str x.2.1)/\zF [.ptr id (o+2)] H=some (.str x.2.2):=by
 obtain⟨id,o,k1,k2⟩:=hr.at (by omega) (i:=pre.length) (by simp)
 obtain⟨q1,q2⟩:=k2 H _ hr
 rw[it9C_at]at q1
 exact⟨id,o,k1,q1,q2 0 _ (by omega) (it9C_at0 _ _ _),q2 1 _ (by omega) (it9C_at1 _ _ _),q2 2 _ (by omega) (it9C_at2 _ _ _)⟩
theorem l_rmost (c:zD)(N:Nat)(its:List It9)(hil:its.length<=200000000000)(v0:V)(H:Heap)(hr:Rd H 3 v0 its.length (it9C its)) :
  ∀ (l pre:List It9) (M:Nat) (Z:Tape),its=pre++l->l.length<M ->
   ∀ (fr:T V) k,fr.get 0=some v0->fr.get 3=some (.int .i64 (zHt pre:Int))->fr.get 4=some (.int .i64 (pre.length:Int)) ->
    zW (zDK c N) M ⟨fr,H⟩ Z k=k (.exit 0) ⟨(T.s (T.s .leaf 0 v0) 3 (.int .i64 (zHt its:Int))),H⟩ Z:=by
 intro l
 have pl:=hr.pLen
 induction l with
 | nil =>
  intro pre M Z he hM fr k f0 f3 f4
  obtain⟨M,rfl⟩:∃ j,M=j+1:=⟨M-1,by omega⟩
  rw[List.append_nil]at he
  have e1:decide ((pre.length:Int)<(its.length:Int))=false:=decide_eq_false (by rw[he];omega)
  rw[zC]
  simp only[zDK,zA f0,zA f3,zA f4,pl,zK,zI,e1,zM]
  rw[he];rfl
 | cons x l ih =>
  intro pre M Z he hM fr k f0 f3 f4
  obtain⟨M,rfl⟩:∃ j,M=j+1:=⟨M-1,by omega⟩
  have hlt:pre.length<its.length:=by rw[he];simp
  have e1:decide ((pre.length:Int)<(its.length:Int))=true:=decide_eq_true (by omega)
  obtain⟨id,o,p1,p2,p3,_,_⟩:=zQr pre x l (by rw[<- he];exact hr)
  have e6:wr .i64 ((pre.length:Int)+Int.ofNat 1)=((pre++[x]).length:Int):=by rw[adI (by omega)];simp
  rw[zC]
  by_cases hgt:zHt pre<x.1
  ·have e3:decide ((zHt pre:Int)<(x.1:Int))=true:=decide_eq_true (by omega)
   have hmx:zHt (pre++[x])=x.1:=by rw[zLh];omega
   simp only[zDK,zA f0,zA f3,zA f4,pl,zK,zI,e1,zO,p1,zH,Nat.add_zero,p3,zAs,e3,zFA,zJ,↓reduceIte,Nat.reduceEqDiff,zQ,e6]
   exact ih (pre++[x]) M Z (by rw[he];simp) (by simp at hM;omega) _ k (by rfl) (by simp[T.get_set,hmx]) (by rfl)
  ·have e3:decide ((zHt pre:Int)<(x.1:Int))=false:=decide_eq_false (by omega)
   have hmx:zHt (pre++[x])=zHt pre:=by rw[zLh];omega
   simp only[zDK,zA f0,zA f3,zA f4,pl,zK,zI,e1,zO,p1,zH,Nat.add_zero,p3,zAs,e3,zM,zFA,zJ,↓reduceIte,Nat.reduceEqDiff,zQ,e6]
   exact ih (pre++[x]) M Z (by rw[he];simp) (by simp at hM;omega) _ k (by rfl) (by simp[T.get_set,hmx]) (by rfl)
theorem l_rstrong (c:zD)(N:Nat)(its:List It9)(hil:its.length<=200000000000)(m:Nat)(v0:V)(H0:Heap)(hw0:WF H0)(hr:Rd H0 3 v0 its.length (it9C its)) :
  ∀ (l pre acc:List It9) (v5:V) (M:Nat) (H:Heap) (Z:Tape),its=pre++l->l.length<M->Gr H0.size H0 H->OwnN H H0.size 3 v5 acc.length (it9C acc)->acc.length<=pre.length ->
  ∃ v5' H' Z',OwnN H' H0.size 3 v5' (acc++l.filter fun x=>decide (x.1=m)).length (it9C (acc++l.filter fun x=>decide (x.1=m)))/\Gr H0.size H H' /\
   ∀ (fr:T V) k,fr.get 0=some v0->fr.get 3=some (.int .i64 (m:Int))->fr.get 5=some v5->fr.get 6=some (.int .i64 (pre.length:Int)) ->
    zW (zDL c N) M ⟨fr,H⟩ Z k=k (.exit 2) ⟨(T.s .leaf 5 v5'),H'⟩ Z':=by
 intro l
 induction l with
 | nil =>
  intro pre acc v5 M H Z he hM hg ho hal
  obtain⟨M,rfl⟩:∃ j,M=j+1:=⟨M-1,by omega⟩
  have e1:decide ((pre.length:Int)<(its.length:Int))=false:=decide_eq_false (by rw[he];simp)
  refine⟨v5,H,Z,by simpa using ho,Gr.refl hg.wf,fun fr k f0 f3 f5 f6=>?_⟩
  rw[zC]
  simp only[zDL,zA f0,zA f3,zA f5,zA f6,(hr.gr hg hw0 nl).pLen,zK,zI,e1,zM]
  rfl
 | cons x l ih =>
  intro pre acc v5 M H Z he hM hg ho hal
  obtain⟨M,rfl⟩:∃ j,M=j+1:=⟨M-1,by omega⟩
  have hw:=hg.wf
  have hlt:pre.length<its.length:=by rw[he];simp
  have e1:decide ((pre.length:Int)<(its.length:Int))=true:=decide_eq_true (by omega)
  have hrH:=hr.gr hg hw0 nl
  obtain⟨id,o,p1,p2,p3,_,_⟩:=zQr pre x l (by rw[<- he];exact hrH)
  have e6:wr .i64 ((pre.length:Int)+Int.ofNat 1)=((pre++[x]).length:Int):=by rw[adI (by omega)];simp
  have e7:(((x.1:Nat):Int) ==(m:Int))=decide (x.1=m):=by
   rw[Bool.eq_iff_iff];simp only[beq_iff_eq,decide_eq_true_eq];omega
  by_cases hxm:x.1=m
  ·have b0:zL 1 3 [(.int .i64 (.ofNat 0)),(.str []),(.str [])] [(0,3)] [.agg (it9 x)] H Z=some (.sl H.size 0 1 1 none 3,H.new (it9 x) 3 false,Z):=rfl
   obtain⟨v',H4,Z4,r1,r2,r3⟩:=ho.1.putN (bytes:=40) hw hg.size (it9 x) rfl rfl (by omega) (by omega) Z false
   have hcs:it9C acc++it9 x=it9C (acc++[x]):=by rw[zFx];simp[it9C]
   rw[hcs]at r2
   obtain⟨v5',H',Z',s1,s2,s3⟩:=ih (pre++[x]) (acc++[x]) v' M H4 Z4 (by rw[he];simp) (by simp at hM;omega) (hg.trans r3 nl) ⟨by simpa using r2,fun h=>by simp at h⟩ (by simp;omega)
   have hfm:acc++(x::l).filter (fun x=>decide (x.1=m))=(acc++[x])++l.filter fun x=>decide (x.1=m):=by rw[List.filter_cons,if_pos (decide_eq_true hxm)];simp
   refine⟨v5',H',Z',by rw[hfm];exact s1,r3.trans s2 nl,fun fr k f0 f3 f5 f6=>?_⟩
   rw[zC]
   simp only[zDL,zA f0,zA f3,zA f5,zA f6,hrH.pLen,zK,zI,e1,zO,p1,zH,Nat.add_zero,p3,zZ,e7,decide_eq_true hxm,p2,b0,r1,za,zFH,zJ,↓reduceIte,Nat.reduceEqDiff,zQ,e6]
   exact s3 _ _ (by rfl) (by rfl) (by rfl) (by rfl)
  ·obtain⟨v5',H',Z',s1,s2,s3⟩:=ih (pre++[x]) acc v5 M H Z (by rw[he];simp) (by simp at hM;omega) hg ho (by simp;omega)
   have hfm:acc++(x::l).filter (fun x=>decide (x.1=m))=acc++l.filter fun x=>decide (x.1=m):=by rw[List.filter_cons,if_neg (by rw[decide_eq_false hxm];decide)]
   refine⟨v5',H',Z',by rw[hfm];exact s1,s2,fun fr k f0 f3 f5 f6=>?_⟩
   rw[zC]
   simp only[zDL,zA f0,zA f3,zA f5,zA f6,hrH.pLen,zK,zI,e1,zO,p1,zH,Nat.add_zero,p3,zZ,e7,decide_eq_false hxm,zM,zFH,zJ,↓reduceIte,Nat.reduceEqDiff,zQ,e6]
   exact s3 _ _ (by rfl) (by rfl) (by rfl) (by rfl)
theorem zN6 (c:zD){N:Nat}(hN:9223372036854775807<=N)(its:List It9)(hil:its.length<=200000000000)(H:Heap)(hw:WF H)(v:V)(hr:Rd H 3 v its.length (it9C its))(Z:Tape) :
  ∃ v' H' Z',OwnN H' H.size 3 v' (zCE its).length (it9C (zCE its))/\Gr H.size H H'/\∀ q,zGk c N v H Z q=q v' H' Z':=by
 obtain⟨v',H',Z',s1,s2,s3⟩:=l_rstrong c N its hil (zHt its) v H hw hr its [] [] .nils N H Z rfl (by omega) (Gr.refl hw) (OwnN.nil _ _ _) nl
 refine⟨v',H',Z',by simpa [zCE] using s1,s2,fun q=>?_⟩
 simp only[zGk]
 rw[l_rmost c N its hil v H hr its [] N Z rfl (by omega) _ _ (by rfl) (by simp[T.get_set,zHt]) (by rfl)]
 simp only[zP,Nat.beq_refl,cond_true,seqK,zKM,zJ,↓reduceIte,Nat.reduceEqDiff]
 rw[s3 _ _ (by rfl) (by rfl) (by rfl) (by rfl)]
 simp only[zP,Nat.beq_refl,cond_true,seqK,zKL,zJ,↓reduceIte]
end Go.Am.X

namespace Go.Am.X
def lorT (k:IntKind)(x y:Nat):Nat:=Nat.lor (x % pow2 k) (y % pow2 k) % pow2 k
def xorT (k:IntKind)(x y:Nat):Nat:=Nat.xor (x % pow2 k) (y % pow2 k) % pow2 k
def zKS (k:IntKind)(x y:Nat):Nat:=Nat.land (x % pow2 k) (y % pow2 k) % pow2 k
def notT (k:IntKind)(x:Nat):Nat:=(pow2 k-1-x % pow2 k) % pow2 k
def shrT (k:IntKind)(x n:Nat):Nat:=x / 2 ^ min n k.bits
def zJm (k:IntKind)(x n bits:Nat):Nat:=lorT k (shrT k x n) ((x*2 ^ min (bits-n) k.bits) % pow2 k)
def zDl (k:IntKind)(x a b c bits:Nat):Nat:=xorT k (xorT k (zJm k x a bits) (zJm k x b bits)) (shrT k x c)
def bigT (k:IntKind)(x a b c bits:Nat):Nat:=xorT k (xorT k (zJm k x a bits) (zJm k x b bits)) (zJm k x c bits)
theorem subn {n bits:Nat}(hn:n<=bits)(hb:bits<=64):wr .i64 ((bits:Int)-(n:Int))=((bits-n:Nat):Int):=by
 rw[zAZ (by omega) (by omega)];omega
theorem zOu (c:zD)(N:Nat){x n bits:Nat}(hn:n<=bits)(hb:bits<=64)(H:Heap)(Z:Tape)(q:KV) :
  zD1 c N (.int .u32 (x:Int)) (.int .i64 (n:Int)) (.int .i64 (bits:Int)) H Z q=q (.int .u32 (zJm .u32 x n bits:Nat)) H Z:=by
 simp only[zD1,zLr,zAC,subn hn hb,u_shl uk32,u_or uk32,zJm,lorT,shrT]
theorem zOw (c:zD)(N:Nat){x n bits:Nat}(hn:n<=bits)(hb:bits<=64)(H:Heap)(Z:Tape)(q:KV) :
  zD9 c N (.int .u64 (x:Int)) (.int .i64 (n:Int)) (.int .i64 (bits:Int)) H Z q=q (.int .u64 (zJm .u64 x n bits:Nat)) H Z:=by
 simp only[zD9,zLr,zAC,subn hn hb,u_shl uk64,u_or uk64,zJm,lorT,shrT]
def by3 (a b c:Nat):List V:=[.int .i64 (a:Int),.int .i64 (b:Int),.int .i64 (c:Int)]
theorem z8 {n z id off i:Nat}(h:i<n):zG n z [.ptr id off,.int .i64 (.ofNat i)]=some (.ptr id (off+i*z)):=by
 have:(i+1).ble n=true:=Nat.ble_eq_true_of_le h
 simp[zG,zMq,Nat.blt,zAP,zJU,this]
theorem dg34_eval (c:zD)(N:Nat){x a b d bits:Nat}(ha:a<=bits)(hb:b<=bits)(hd:d<=bits)(h64:bits<=64)
  (h39:∀ (n:Nat),n<=bits->∀ H Z q,c zz [.int .u32 (x:Int),.int .i64 (n:Int),.int .i64 (bits:Int)] H Z q=q (.int .u32 (zJm .u32 x n bits:Nat)) H Z)
  (H:Heap) (hw:WF H) (Z:Tape):∃ H',Gr H.size H H'/\∀ q,zE2 c N (.int .u32 (x:Int)) (.agg (by3 a b d)) (.int .i64 (bits:Int)) H Z q=q (.int .u32 (bigT .u32 x a b d bits:Nat)) H' Z:=by
 refine⟨_,Gr.new hw (by3 a b d) 3 true,fun q=>?_⟩
 have hK:=zBp H (by3 a b d) 3 true
 have e0:eBox [.agg (by3 a b d)] H Z=some (.ptr H.size 0,H.new (by3 a b d) 3 true,Z):=rfl
 generalize H.new (by3 a b d) 3 true=H1 at hK e0
 have l0:=zg (off:=0) hK rfl
 have l1:=zg (off:=1) hK rfl
 have l2:=zg (off:=2) hK rfl
 simp only[zE2,e0,zf,z8 (show 0<3 by omega),z8 (show 1<3 by omega),z8 (show 2<3 by omega),zN,Nat.zero_add,Nat.zero_mul,Nat.one_mul,Nat.mul_one,l0,l1,l2,h39 a ha,h39 b hb,h39 d hd,zR6 uk32]
 have hc:zY [H1,H1,H1,H1] (((.load none),[.ptr H.size 2],0,2)::(((.load none),[.ptr H.size 1],0,1)::[]))=true:=by
  simp[zY,zFd,zLT,l1,l2,chk1,same,zMo,zG3]
 rw[hc]
 rfl
theorem dg33_eval (c:zD)(N:Nat){x a b d bits:Nat}(ha:a<=bits)(hb:b<=bits)(hd:d<=bits)(h64:bits<=64)
  (h39:∀ (n:Nat),n<=bits->∀ H Z q,c zz [.int .u32 (x:Int),.int .i64 (n:Int),.int .i64 (bits:Int)] H Z q=q (.int .u32 (zJm .u32 x n bits:Nat)) H Z)
  (H:Heap) (hw:WF H) (Z:Tape):∃ H',Gr H.size H H'/\∀ q,zDW c N (.int .u32 (x:Int)) (.agg (by3 a b d)) (.int .i64 (bits:Int)) H Z q=q (.int .u32 (zDl .u32 x a b d bits:Nat)) H' Z:=by
 refine⟨_,Gr.new hw (by3 a b d) 3 true,fun q=>?_⟩
 have hK:=zBp H (by3 a b d) 3 true
 have e0:eBox [.agg (by3 a b d)] H Z=some (.ptr H.size 0,H.new (by3 a b d) 3 true,Z):=rfl
 generalize H.new (by3 a b d) 3 true=H1 at hK e0
 have l0:=zg (off:=0) hK rfl
 have l1:=zg (off:=1) hK rfl
 have l2:=zg (off:=2) hK rfl
 simp only[zDW,e0,zf,z8 (show 0<3 by omega),z8 (show 1<3 by omega),z8 (show 2<3 by omega),zN,Nat.zero_add,Nat.zero_mul,Nat.one_mul,Nat.mul_one,l0,l1,l2,h39 a ha,h39 b hb,h39 d hd,zLr,zR6 uk32]
 have hc:zY [H1,H1,H1] (((.load none),[.ptr H.size 2],0,2)::(((.load none),[.ptr H.size 1],0,1)::[]))=true:=by
  simp[zY,zFd,zLT,l1,l2,chk1,same,zMo,zG3]
 rw[hc]
 rfl
theorem dg35_eval (c:zD)(N:Nat){x a b d bits:Nat}(ha:a<=bits)(hb:b<=bits)(hd:d<=bits)(h64:bits<=64)
  (h40:∀ (n:Nat),n<=bits->∀ H Z q,c zAA [.int .u64 (x:Int),.int .i64 (n:Int),.int .i64 (bits:Int)] H Z q=q (.int .u64 (zJm .u64 x n bits:Nat)) H Z)
  (H:Heap) (hw:WF H) (Z:Tape):∃ H',Gr H.size H H'/\∀ q,zDV c N (.int .u64 (x:Int)) (.agg (by3 a b d)) (.int .i64 (bits:Int)) H Z q=q (.int .u64 (zDl .u64 x a b d bits:Nat)) H' Z:=by
 refine⟨_,Gr.new hw (by3 a b d) 3 true,fun q=>?_⟩
 have hK:=zBp H (by3 a b d) 3 true
 have e0:eBox [.agg (by3 a b d)] H Z=some (.ptr H.size 0,H.new (by3 a b d) 3 true,Z):=rfl
 generalize H.new (by3 a b d) 3 true=H1 at hK e0
 have l0:=zg (off:=0) hK rfl
 have l1:=zg (off:=1) hK rfl
 have l2:=zg (off:=2) hK rfl
 simp only[zDV,e0,zf,z8 (show 0<3 by omega),z8 (show 1<3 by omega),z8 (show 2<3 by omega),zN,Nat.zero_add,Nat.zero_mul,Nat.one_mul,Nat.mul_one,l0,l1,l2,h40 a ha,h40 b hb,h40 d hd,zLr,zR6 uk64]
 have hc:zY [H1,H1,H1] (((.load none),[.ptr H.size 2],0,2)::(((.load none),[.ptr H.size 1],0,1)::[]))=true:=by
  simp[zY,zFd,zLT,l1,l2,chk1,same,zMo,zG3]
 rw[hc]
 rfl
theorem dg36_eval (c:zD)(N:Nat){x a b d bits:Nat}(ha:a<=bits)(hb:b<=bits)(hd:d<=bits)(h64:bits<=64)
  (h40:∀ (n:Nat),n<=bits->∀ H Z q,c zAA [.int .u64 (x:Int),.int .i64 (n:Int),.int .i64 (bits:Int)] H Z q=q (.int .u64 (zJm .u64 x n bits:Nat)) H Z)
  (H:Heap) (hw:WF H) (Z:Tape):∃ H',Gr H.size H H'/\∀ q,zFE c N (.int .u64 (x:Int)) (.agg (by3 a b d)) (.int .i64 (bits:Int)) H Z q=q (.int .u64 (bigT .u64 x a b d bits:Nat)) H' Z:=by
 refine⟨_,Gr.new hw (by3 a b d) 3 true,fun q=>?_⟩
 have hK:=zBp H (by3 a b d) 3 true
 have e0:eBox [.agg (by3 a b d)] H Z=some (.ptr H.size 0,H.new (by3 a b d) 3 true,Z):=rfl
 generalize H.new (by3 a b d) 3 true=H1 at hK e0
 have l0:=zg (off:=0) hK rfl
 have l1:=zg (off:=1) hK rfl
 have l2:=zg (off:=2) hK rfl
 simp only[zFE,e0,zf,z8 (show 0<3 by omega),z8 (show 1<3 by omega),z8 (show 2<3 by omega),zN,Nat.zero_add,Nat.zero_mul,Nat.one_mul,Nat.mul_one,l0,l1,l2,h40 a ha,h40 b hb,h40 d hd,zLr,zR6 uk64]
 have hc:zY [H1,H1,H1,H1] (((.load none),[.ptr H.size 2],0,2)::(((.load none),[.ptr H.size 1],0,1)::[]))=true:=by
  simp[zY,zFd,zLT,l1,l2,chk1,same,zMo,zG3]
 rw[hc]
 rfl
end Go.Am.X

namespace Go.Am.X
def accT (k:IntKind)(x:Nat)(l:List Nat):Nat:=l.foldl (fun x b=>lorT k ((x*2 ^ min 8 k.bits) % pow2 k) (b % pow2 k)) x
theorem in32 (c:zD)(N:Nat)(S B w t:Nat)(hBw:B<=w)(ht:t<80)(v a0 a1 a2 a7 a26 a27:V)(bs:List Nat):∀ (l pre:List Nat) (W:List Nat) (H:Heap) (fr:T V) (Z:Tape) (m:Nat),
  bs=pre++l->bs.length<1000->W.length=80->WF H->Bx H w (ws .u32 W)->RdS S B 1 H v bs.length (ws .u8 bs)->l.length<m ->
  fr.get 0=some a0->fr.get 1=some a1->fr.get 2=some a2->fr.get 6=some (.ptr w 0)->fr.get 7=some a7->fr.get 8=some (.int .i64 (t:Int))->fr.get 26=some a26->fr.get 27=some a27 ->
  fr.get 79=some v->fr.get 80=some (.int .i64 (bs.length:Int))->fr.get 81=some (.int .i64 (pre.length:Int)) ->
  ∃ H',Bx H' w (ws .u32 (W.set t (accT .u32 (W.getD t 0) l)))/\Gx S B H H' /\
   ∀ k,zW (zDR c N) m ⟨fr,H⟩ Z k=k (.exit 2) ⟨(T.s (T.s (T.s (T.s (T.s (T.s (T.s .leaf 0 a0) 1 a1) 2 a2) 6 (.ptr w 0)) 7 a7) 26 a26) 27 a27),H'⟩ Z:=by
 intro l
 induction l with
 | nil =>
  intro pre W H fr Z m hbs hlen hW hw hBx hRd hm f0 f1 f2 f6 f7 f8 f26 f27 f79 f80 f81
  obtain⟨m,rfl⟩:∃ j,m=j+1:=⟨m-1,by omega⟩
  have e:bs.length=pre.length:=by rw[hbs];simp
  refine⟨H,?_,Gx.refl hw,fun k=>?_⟩
  ·have:W.set t (accT .u32 (W.getD t 0) [])=W:=by
    apply List.ext_getElem (by simp)
    intro i h1 h2
    rw[List.getElem_set]
    split
    ·subst_vars;simp[accT,List.getD_eq_getElem?_getD,h2]
    ·rfl
   rw[this];exact hBx
  ·rw[zC]
   have e1:decide ((pre.length:Int)<(bs.length:Int))=false:=decide_eq_false (by omega)
   simp only[zDR,zA f0,zA f1,zA f2,zA f6,zA f7,zA f8,zA f26,zA f27,zA f79,zA f80,zA f81,zI,e1,zq]
   rfl
 | cons b l ih =>
  intro pre W H fr Z m hbs hlen hW hw hBx hRd hm f0 f1 f2 f6 f7 f8 f26 f27 f79 f80 f81
  obtain⟨m,rfl⟩:∃ j,m=j+1:=⟨m-1,by omega⟩
  have e:bs.length=pre.length+(l.length+1):=by rw[hbs];simp
  have e1:decide ((pre.length:Int)<(bs.length:Int))=true:=decide_eq_true (by omega)
  obtain⟨p,p1,p2⟩:=(hRd.rd hw).elem1 (i:=pre.length) (x:=.int .u8 (b:Int)) (by rw[hbs];simp[ws])
  have l1:=zg hBx.cells (zQG (k:=.u32) (l:=W) (i:=t) (by omega))
  obtain⟨H1,s1,s2,s3⟩:=hBx.word hw (i:=t) (by omega) (lorT .u32 ((W.getD t 0*2 ^ min 8 IntKind.u32.bits) % pow2 .u32) (b % pow2 .u32)) Z
  have e3:wr .i64 ((pre.length:Int)+Int.ofNat 1)=((pre++[b]).length:Int):=by
   rw[zAZ (by first | (simp;done) | (simp;omega) | omega) (by first | (simp;done) | (simp;omega) | omega)];simp
  have hg:=s3.gx' (S:=S) (B:=B) hBw
  obtain⟨H',r1,r2,r3⟩:=ih (pre++[b]) (W.set t (lorT .u32 ((W.getD t 0*2 ^ min 8 IntKind.u32.bits) % pow2 .u32) (b % pow2 .u32))) H1
   (T.s (T.s (T.s (T.s (T.s (T.s (T.s (T.s (T.s (T.s (T.s (T.s (T.s .leaf 0 a0) 1 a1) 2 a2) 6 (.ptr w 0)) 7 a7) 8 (.int .i64 (t:Int))) 26 a26) 27 a27) 79 v) 80 (.int .i64 (bs.length:Int))) 81 (.int .i64 (pre.length:Int))) 94 (.int .i64 ((pre++[b]).length:Int))) 81 (.int .i64 ((pre++[b]).length:Int)))
   Z m (by rw[hbs];simp) hlen (by simp[hW]) s3.wf s2 (hRd.gx hg) (by simp at hm;omega)
   (by rfl) (by rfl) (by rfl) (by rfl) (by rfl) (by rfl) (by rfl) (by rfl) (by rfl) (by rfl) (by rfl)
  refine⟨H',?_,hg.trans r2 nl,fun k=>?_⟩
  ·have hq:t<W.length:=by omega
   have:(W.set t (lorT .u32 ((W.getD t 0*2 ^ min 8 IntKind.u32.bits) % pow2 .u32) (b % pow2 .u32))).getD t 0=lorT .u32 ((W.getD t 0*2 ^ min 8 IntKind.u32.bits) % pow2 .u32) (b % pow2 .u32):=by
    simp[List.getD_eq_getElem?_getD,hq]
   rw[this,List.set_set]at r1
   exact r1
  ·rw[zC]
   have ea:∀ i:Nat,i<80->zG 80 1 [.ptr w 0,.int .i64 (i:Int)]=some (.ptr w i):=fun i hi=>by
    have:=z8 (z:=1) (id:=w) (off:=0) hi
    simpa using this
   have e8:∀ (x:Nat) q,binK .shl (.int .u32 (x:Int)) (.int .u64 (.ofNat 8)) q=q (.int .u32 (((x*2 ^ (min 8 IntKind.u32.bits)) % pow2 .u32:Nat):Int)):=fun x q=>u_shl (k':=.u64) uk32 x 8 q
   simp only[zDR,zA f0,zA f1,zA f2,zA f6,zA f7,zA f8,zA f26,zA f27,zA f79,zA f80,zA f81,zI,e1,zn,p1,p2,zN,ea t ht,l1,e8,zB7,uk32 b,u_or uk32]
   simp only[<- lorT.eq_1,s1,zf,zQ,e3]
   exact r3 k
end Go.Am.X

namespace Go.Am.X
def zBJ:List Nat:=[32,64,7,18,3,17,19,10,2,13,22,6,11,25,64,8,32]
def zBI:List Nat:=[64,80,1,8,7,19,61,6,28,34,39,14,18,41,128,16,64]
def addT (k:IntKind)(x y:Nat):Nat:=(x+y) % pow2 k
def zLt (bs:List Nat)(t:Nat)(W:List Nat):List Nat :=
 if 16<=t then W.set t (addT .u32 (addT .u32 (addT .u32 (zDl .u32 (W.getD (t-2) 0) 17 19 10 32) (W.getD (t-7) 0)) (zDl .u32 (W.getD (t-15) 0) 7 18 3 32)) (W.getD (t-16) 0))
 else W.set t (accT .u32 (W.getD t 0) ((bs.drop (t*4)).take 4))
theorem zSV (bs:List Nat)(t:Nat)(W:List Nat):(zLt bs t W).length=W.length:=by unfold zLt;split <;> simp
theorem zAN {H:Heap}{id i:Nat}{k:IntKind}{l:List Nat}(h:Bx H id (ws k l))(hi:i<l.length):zF [.ptr id i] H=some (.int k ((l.getD i 0:Nat):Int)):=zg h.cells (zQG hi)
theorem step32a (c:zD)(N:Nat)(hN:9223372036854775807<=N)(S B w K t:Nat)(hBw:B<=w)(ht:t<16)(v a1:V)(bs:List Nat)(hlen:bs.length<100000)(h64:64<=bs.length)(W:List Nat)(hW:W.length=80)(H:Heap)(hw:WF H)
  (hBx:Bx H w (ws .u32 W)) (hR:Roomy v) (hRd:RdS S B 1 H v bs.length (ws .u8 bs)) (fr:T V) (Z:Tape)
  (f0:fr.get 0=some (.ptr K 0)) (f1:fr.get 1=some a1) (f2:fr.get 2=some v) (f6:fr.get 6=some (.ptr w 0)) (f7:fr.get 7=some (.int .i64 (4:Nat))) (f26:fr.get 26=some (.int .i64 (64:Nat))) (f27:fr.get 27=some (.int .i64 (t:Int))) :
  ∃ H',Bx H' w (ws .u32 (zLt bs t W))/\Gx S B H H'/\∀ k,zAR c N ⟨fr,H⟩ Z k=k .normal ⟨(T.s (T.s (T.s (T.s (T.s (T.s (T.s (T.s (T.s .leaf 0 (.ptr K 0)) 1 a1) 2 v) 6 (.ptr w 0)) 7 (.int .i64 (4:Nat))) 26 (.int .i64 (64:Nat))) 27 (.int .i64 (t:Int))) 95 (.int .i64 ((t+1:Nat):Int))) 27 (.int .i64 ((t+1:Nat):Int))),H'⟩ Z:=by
 obtain⟨v',c1,c2,c3,c4⟩:=hRd.cut hw hR (l:=t*4) (m:=(t+1)*4) (by omega) (by omega)
 have e0:(t+1)*4-t*4=4:=by omega
 rw[e0]at c2 c4
 have c4':RdS S B 1 H v' ((bs.drop (t*4)).take 4).length (ws .u8 ((bs.drop (t*4)).take 4)):=by
  have:((bs.drop (t*4)).take 4).length=4:=by simp;omega
  rw[this]
  simpa [ws,List.map_take,List.map_drop] using c4
 have c5:((bs.drop (t*4)).take 4).length=4:=by simp;omega
 obtain⟨H',r1,r2,r3⟩:=in32 c N S B w t hBw (by omega) v' (.ptr K 0) a1 v (.int .i64 (4:Nat)) (.int .i64 (64:Nat)) (.int .i64 (t:Int)) ((bs.drop (t*4)).take 4) ((bs.drop (t*4)).take 4) [] W H
  (T.s (T.s (T.s (T.s (T.s (T.s (T.s (T.s (T.s (T.s (T.s .leaf 0 (.ptr K 0)) 1 a1) 2 v) 6 (.ptr w 0)) 7 (.int .i64 (4:Nat))) 8 (.int .i64 (t:Int))) 26 (.int .i64 (64:Nat))) 27 (.int .i64 (t:Int))) 79 v') 80 (.int .i64 ((4:Nat):Int))) 81 (.int .i64 (.ofNat 0)))
  Z N (by simp) (by omega) hW hw hBx c4' (by omega)
  (by rfl) (by rfl) (by rfl) (by rfl) (by rfl) (by rfl) (by rfl) (by rfl) (by rfl) (by rw[c5];simp[T.get_set]) (by rfl)
 refine⟨H',?_,r2,fun k=>?_⟩
 ·unfold zLt;rw[if_neg (by omega)];exact r1
 ·have e1:decide ((t:Int)<((64:Nat):Int))=true:=decide_eq_true (by omega)
  have e2:decide (Int.ofNat 16<=(t:Int))=false:=decide_eq_false (by simp;omega)
  have e3:wr .i64 ((t:Int)*((4:Nat):Int))=((t*4:Nat):Int):=by rw[zAZ (by omega) (by omega)];simp
  have e4:wr .i64 ((t:Int)+Int.ofNat 1)=((t+1:Nat):Int):=by rw[zAZ (by simp;omega) (by simp;omega)];simp
  have e5:wr .i64 (((t+1:Nat):Int)*((4:Nat):Int))=(((t+1)*4:Nat):Int):=by rw[zAZ (by omega) (by omega)];simp
  simp only[zAR,zA f0,zA f1,zA f2,zA f6,zA f7,zA f26,zA f27,zI,e1,zn,zt,e2,zq,zIB,e3,zQ,e4,e5,c1,c2,zN]
  rw[r3]
  simp only[zP,Nat.beq_refl,cond_true,cond_false,seqK,zDg,zJ,↓reduceIte,Nat.reduceEqDiff,zQ,e4]
theorem step32b (c:zD)(N:Nat)(S B w K t:Nat)(hBw:B<=w)(ht:16<=t)(ht':t<64)(v a1:V)(bs:List Nat)(W:List Nat)(hW:W.length=80)(H:Heap)(hw:WF H)
  (hBx:Bx H w (ws .u32 W)) (hK:Bx H K (ws .i64 zBJ)) (hKS:K≠S) (hKw:K≠w)
  (h33:∀ (x a b d:Nat),a<=32->b<=32->d<=32->∀ H,WF H->∀ Z,∃ H',Gr H.size H H'/\∀ q,c zAt [.int .u32 (x:Int),.agg (by3 a b d),.int .i64 ((32:Nat):Int)] H Z q=q (.int .u32 (zDl .u32 x a b d 32:Nat)) H' Z)
  (fr:T V) (Z:Tape) (hBH:B<=H.size)
  (f0:fr.get 0=some (.ptr K 0)) (f1:fr.get 1=some a1) (f2:fr.get 2=some v) (f6:fr.get 6=some (.ptr w 0)) (f7:fr.get 7=some (.int .i64 (4:Nat))) (f26:fr.get 26=some (.int .i64 (64:Nat))) (f27:fr.get 27=some (.int .i64 (t:Int))) :
  ∃ H',Bx H' w (ws .u32 (zLt bs t W))/\Gx S B H H'/\∀ k,zAR c N ⟨fr,H⟩ Z k=k .normal ⟨(T.s (T.s (T.s (T.s (T.s (T.s (T.s (T.s (T.s .leaf 0 (.ptr K 0)) 1 a1) 2 v) 6 (.ptr w 0)) 7 (.int .i64 (4:Nat))) 26 (.int .i64 (64:Nat))) 27 (.int .i64 (t:Int))) 95 (.int .i64 ((t+1:Nat):Int))) 27 (.int .i64 ((t+1:Nat):Int))),H'⟩ Z:=by
 obtain⟨H1,g1,k1⟩:=h33 (W.getD (t-2) 0) 17 19 10 (by omega) (by omega) (by omega) H hw Z
 have w1:=hBx.gr g1 (hBx.lt hw)
 have K1:=hK.gr g1 (hK.lt hw)
 obtain⟨H2,g2,k2⟩:=h33 (W.getD (t-15) 0) 7 18 3 (by omega) (by omega) (by omega) H1 g1.wf Z
 have w2:=w1.gr g2 (w1.lt g1.wf)
 have K2:=K1.gr g2 (K1.lt g1.wf)
 obtain⟨H3,s1,s2,s3⟩:=w2.word g2.wf (i:=t) (by omega) (addT .u32 (addT .u32 (addT .u32 (zDl .u32 (W.getD (t-2) 0) 17 19 10 32) (W.getD (t-7) 0)) (zDl .u32 (W.getD (t-15) 0) 7 18 3 32)) (W.getD (t-16) 0)) Z
 have g3:=s3.gx' (S:=S) (B:=B) hBw
 have K3:=K2.only s3 hKw
 refine⟨H3,?_,((g1.weaken hBH).gx.trans (g2.weaken (Nat.le_trans hBH g1.size)).gx nl).trans g3 nl,fun k=>?_⟩
 ·unfold zLt;rw[if_pos ht];exact s2
 ·have ea:∀ i:Nat,i<80->zG 80 1 [.ptr w 0,.int .i64 (i:Int)]=some (.ptr w i):=fun i hi=>by
   have:=z8 (z:=1) (id:=w) (off:=0) hi
   simpa using this
  have e1:decide ((t:Int)<((64:Nat):Int))=true:=decide_eq_true (by omega)
  have e2:decide (Int.ofNat 16<=(t:Int))=true:=decide_eq_true (by simp;omega)
  have sb:∀ j:Nat,j<=16->wr .i64 ((t:Int)-Int.ofNat j)=((t-j:Nat):Int):=fun j hj=>by
   rw[zAZ (by simp;omega) (by simp;omega)];simp;omega
  have e4:wr .i64 ((t:Int)+Int.ofNat 1)=((t+1:Nat):Int):=by rw[zAZ (by simp;omega) (by simp;omega)];simp
  have lw:∀ {H:Heap},Bx H w (ws .u32 W)->∀ j,j<=16->zF [.ptr w (t-j)] H=some (.int .u32 ((W.getD (t-j) 0:Nat):Int)):=fun h j hj=>zAN h (by omega)
  have lb:∀ {H:Heap},Bx H K (ws .i64 zBJ)->zF [.ptr K 0] H=some (.int .i64 ((32:Nat):Int)):=fun h=>zAN h (by decide)
  have l5:∀ {H:Heap},Bx H K (ws .i64 zBJ)->zV 3 [.ptr K 5] H=some (.agg (by3 17 19 10)):=fun h=>by
   simp only[zV,zAr h.cells (show 5+3<=(ws .i64 zBJ).length by decide)];rfl
  have l2:∀ {H:Heap},Bx H K (ws .i64 zBJ)->zV 3 [.ptr K 2] H=some (.agg (by3 7 18 3)):=fun h=>by
   simp only[zV,zAr h.cells (show 2+3<=(ws .i64 zBJ).length by decide)];rfl
  have nk:∀ (i o:Nat),zAn [.ptr i o]=some (.ptr i o):=fun _ _=>rfl
  have fa:∀ (i o:Nat),zH o [.ptr i 0]=some (.ptr i o):=fun _ _=>by simp[zH]
  simp only[addT]at s1
  simp only[zAR,zA f0,zA f1,zA f2,zA f6,zA f7,zA f26,zA f27,zI,e1,zn,zt,e2,zAC,sb 2 (by omega),sb 7 (by omega),sb 15 (by omega),sb 16 (by omega),ea (t-2) (by omega),ea (t-7) (by omega),ea (t-15) (by omega),ea (t-16) (by omega),ea t (by omega),
   zN,lw hBx 2 (by omega),nk,fa,l5 hK,lb hK,k1,lw w1 7 (by omega),lw w1 15 (by omega),zPx uk32,l2 K1,lb K1,k2,lw w2 16 (by omega),s1,zf]
  have w3:Bx H3 w (ws .u32 (W.set t (addT .u32 (addT .u32 (addT .u32 (zDl .u32 (W.getD (t-2) 0) 17 19 10 32) (W.getD (t-7) 0)) (zDl .u32 (W.getD (t-15) 0) 7 18 3 32)) (W.getD (t-16) 0)))):=s2
  have hc:zY [H,H1,H2,H3] (((.load none),[.ptr w (t-16)],0,2)::(((.load none),[.ptr K 0],0,1)::(((.load (some 3)),[.ptr K 2],0,1)::(((.load none),[.ptr w (t-15)],0,1)::(((.load none),[.ptr w (t-7)],0,2)::[])))))=true:=by
   simp[zY,zFd,zLT,lw hBx 16,lw w1 16,lw w2 16,lw hBx 15,lw w1 15,lw hBx 7,lw w1 7,lw w2 7,lb hK,lb K1,l2 hK,l2 K1,chk1,same,zIV,zMo,zG3,by3]
  rw[hc]
  simp only[cond_true,zDg,zJ,↓reduceIte,Nat.reduceEqDiff,zQ,e4]
end Go.Am.X

namespace Go.Am.X
def zGN (bs:List Nat):Nat->Nat->List Nat->List Nat
 | 0,_,W=>W
 | n+1,t,W=>zGN bs n (t+1) (zLt bs t W)
abbrev Lit33 (c:zD):Prop:=∀ (x a b d:Nat),a<=32->b<=32->d<=32->∀ H,WF H->∀ Z,∃ H',Gr H.size H H'/\∀ q,c zAt [.int .u32 (x:Int),.agg (by3 a b d),.int .i64 ((32:Nat):Int)] H Z q=q (.int .u32 (zDl .u32 x a b d 32:Nat)) H' Z
theorem loop32 (c:zD)(N:Nat)(hN:9223372036854775807<=N)(S B w K:Nat)(hBw:B<=w)(hKB:K<B)(hKS:K≠S)(v a1:V)(bs:List Nat)(hlen:bs.length<100000)(h64:64<=bs.length)(hR:Roomy v)(h33:Lit33 c) :
  ∀ (n t:Nat) (W:List Nat) (H:Heap) (fr:T V) (Z:Tape) (m:Nat),t+n=64->n<m->W.length=80->WF H->B<=H.size->Bx H w (ws .u32 W)->Bx H K (ws .i64 zBJ)->RdS S B 1 H v bs.length (ws .u8 bs) ->
  fr.get 0=some (.ptr K 0)->fr.get 1=some a1->fr.get 2=some v->fr.get 6=some (.ptr w 0)->fr.get 7=some (.int .i64 (4:Nat))->fr.get 26=some (.int .i64 (64:Nat))->fr.get 27=some (.int .i64 (t:Int)) ->
  ∃ H',Bx H' w (ws .u32 (zGN bs n t W))/\Gx S B H H'/\∀ k,zW (zAR c N) m ⟨fr,H⟩ Z k=k (.exit 0) ⟨(T.s (T.s (T.s .leaf 0 (.ptr K 0)) 1 a1) 6 (.ptr w 0)),H'⟩ Z:=by
 intro n
 induction n with
 | zero =>
  intro t W H fr Z m ht hm hW hw hBH hBx hK hRd f0 f1 f2 f6 f7 f26 f27
  obtain⟨m,rfl⟩:∃ j,m=j+1:=⟨m-1,by omega⟩
  refine⟨H,hBx,Gx.refl hw,fun k=>?_⟩
  have e1:decide ((t:Int)<((64:Nat):Int))=false:=decide_eq_false (by omega)
  rw[zC]
  simp only[zAR,zA f0,zA f1,zA f2,zA f6,zA f7,zA f26,zA f27,zI,e1,zq]
  rfl
 | succ n ih =>
  intro t W H fr Z m ht hm hW hw hBH hBx hK hRd f0 f1 f2 f6 f7 f26 f27
  obtain⟨m,rfl⟩:∃ j,m=j+1:=⟨m-1,by omega⟩
  obtain⟨H1,b1,g1,k1⟩:∃ H',Bx H' w (ws .u32 (zLt bs t W))/\Gx S B H H'/\∀ k,zAR c N ⟨fr,H⟩ Z k=k .normal ⟨(T.s (T.s (T.s (T.s (T.s (T.s (T.s (T.s (T.s .leaf 0 (.ptr K 0)) 1 a1) 2 v) 6 (.ptr w 0)) 7 (.int .i64 (4:Nat))) 26 (.int .i64 (64:Nat))) 27 (.int .i64 (t:Int))) 95 (.int .i64 ((t+1:Nat):Int))) 27 (.int .i64 ((t+1:Nat):Int))),H'⟩ Z:=by
   by_cases h16:t<16
   ·exact step32a c N hN S B w K t hBw h16 v a1 bs hlen h64 W hW H hw hBx hR hRd fr Z f0 f1 f2 f6 f7 f26 f27
   ·exact step32b c N S B w K t hBw (by omega) (by omega) v a1 bs W hW H hw hBx hK hKS (by omega) h33 fr Z hBH f0 f1 f2 f6 f7 f26 f27
  obtain⟨H',r1,r2,r3⟩:=ih (t+1) (zLt bs t W) H1 (Z:=Z) (m:=m) (by omega) (by omega) (by rw[zSV,hW]) g1.wf (Nat.le_trans hBH g1.size) b1 (hK.gx g1 hKB hKS) (hRd.gx g1)
   (fr:=(T.s (T.s (T.s (T.s (T.s (T.s (T.s (T.s (T.s .leaf 0 (.ptr K 0)) 1 a1) 2 v) 6 (.ptr w 0)) 7 (.int .i64 (4:Nat))) 26 (.int .i64 (64:Nat))) 27 (.int .i64 (t:Int))) 95 (.int .i64 ((t+1:Nat):Int))) 27 (.int .i64 ((t+1:Nat):Int))))
   (by rfl) (by rfl) (by rfl) (by rfl) (by rfl) (by rfl) (by rfl)
  refine⟨H',r1,g1.trans r2 nl,fun k=>?_⟩
  rw[zC,k1]
  exact r3 k
end Go.Am.X

namespace Go.Am.X
def zGR (S B:Nat)(H:Heap)(id:Nat)(cs:List V):Prop:=∀ H',Gx S B H H'->H'.cells? id=some cs
theorem zGR.gx {S B:Nat}{H H1:Heap}{id:Nat}{cs:List V}(h:zGR S B H id cs)(hg:Gx S B H H1):zGR S B H1 id cs:=fun H' h'=>h H' (hg.trans h' nl)
def zNH (k:IntKind)(s:List Nat):Nat:=xorT k (zKS k (s.getD 4 0) (s.getD 5 0)) (zKS k (notT k (s.getD 4 0)) (s.getD 6 0))
def mostT (k:IntKind)(s:List Nat):Nat:=xorT k (xorT k (zKS k (s.getD 0 0) (s.getD 1 0)) (zKS k (s.getD 0 0) (s.getD 2 0))) (zKS k (s.getD 1 0) (s.getD 2 0))
def oneT32 (C W:List Nat)(t:Nat)(s:List Nat):Nat:=addT .u32 (addT .u32 (addT .u32 (addT .u32 (s.getD 7 0) (bigT .u32 (s.getD 4 0) 6 11 25 32)) (zNH .u32 s)) (C.getD t 0 / 2 ^ 32 % pow2 .u32)) (W.getD t 0)
def twoT32 (s:List Nat):Nat:=addT .u32 (bigT .u32 (s.getD 0 0) 2 13 22 32) (mostT .u32 s)
def zME (C W:List Nat)(t:Nat)(s:List Nat):List Nat :=
 [addT .u32 (oneT32 C W t s) (twoT32 s),s.getD 0 0,s.getD 1 0,s.getD 2 0,addT .u32 (s.getD 3 0) (oneT32 C W t s),s.getD 4 0,s.getD 5 0,s.getD 6 0]
def zL9 (C W:List Nat):Nat->Nat->List Nat->List Nat
 | 0,_,s=>s
 | n+1,t,s=>zL9 C W n (t+1) (zME C W t s)
end Go.Am.X

