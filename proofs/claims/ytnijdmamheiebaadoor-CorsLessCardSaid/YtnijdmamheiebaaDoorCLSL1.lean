/- The abstract machine, printed functions of the program, and what they are shown to be. -/
import Derived.Test.YtnijdmamheiebaaDoorCLSL0
import Derived.Test.YtnijdmamheiebaaDoorCLSM4
set_option linter.unusedSimpArgs false
set_option linter.unusedVariables false
set_option linter.unusedSectionVars false
set_option maxRecDepth 100000
namespace Go.Am.X
def fewh (m:Nat)(h:Bs × Bs):Bs × Bs:=(h.1.take m,h.2.take m)
theorem s14_eval (c:zG)(N:Nat)(s:Bs)(m:Nat)(H:Heap)(Z:Tape)(q:KV):zJw c N (.str s) (.int .i64 (m:Int)) H Z q=q (.str (s.take m)) H Z:=by
 simp only[zJw,zO,zBX,zY]
 by_cases h:m<s.length
 ·rw[decide_eq_true (by omega),zPP,zDB (by omega),zBX]
 ·rw[decide_eq_false (by omega),zJU,List.take_of_length_le (by omega)]
abbrev FewOk (c:zG):Prop:=∀ (s:Bs) (m:Nat) H Z q,c zDV [.str s,.int .i64 (m:Int)] H Z q=q (.str (s.take m)) H Z
theorem few_loop (c:zG)(N:Nat)(h14:FewOk c){B id off m lo nn mm:Nat}{ex:Option Nat}{all:List V}(hs:List (Bs × Bs))(hm:hs.length=m)(hmb:m<=9223372036854775807)(hnn:nn<=1000)
  (hall:(all.drop off).take (m*2)=hcells hs) (hlen:off+m*2<=all.length) (l:List (Bs × Bs)) :
  ∀ (pre:List (Bs × Bs)) (v7:V) (acc:List (Bs × Bs)) (n:Nat) (fr:T V) (H:Heap) (Z:Tape),WF H->B<=H.size->hs=pre++l->H.cells? id=some all->Own H B 2 v7 acc.length (hcells acc)->acc.length=pre.length->pre.length<=nn->l.length<n ->
  fr.get 0=some (.sl id off m lo ex 2)->fr.get 1=some (.int .i64 (nn:Int))->fr.get 2=some (.int .i64 (mm:Int))->fr.get 7=some v7->fr.get 8=some (.int .i64 (pre.length:Int)) ->
  ∃ v7' H' Z',Gr B H H'/\Own H' B 2 v7' (acc++(l.take (nn-pre.length)).map (fewh mm)).length (hcells (acc++(l.take (nn-pre.length)).map (fewh mm)))/\∀ k,zq (zA1 c N) n ⟨fr,H⟩ Z k=k (.exit 0) ⟨T.s .leaf 7 v7',H'⟩ Z':=by
 induction l with
 | nil =>
  intro pre v7 acc n fr H Z hw hB he hc ho ha hp hn f0 f1 f2 f7 f8
  obtain⟨n,rfl⟩:∃ j,n=j+1:=⟨n-1,by simp at hn;omega⟩
  refine⟨v7,H,Z,Gr.refl hw,by simpa using ho,fun k=>?_⟩
  have e0:pLen [.sl id off m lo ex 2]=some (.int .i64 (m:Int)):=rfl
  have e1:decide ((pre.length:Int)<(m:Int))=false:=decide_eq_false (by rw[<- hm,he];simp)
  rw[zI]
  simp only[zA1,zA f0,zA f1,zA f2,zA f7,zA f8,e0,zBX,zL,e1,ze,zJ,cond_false,zJU,seqK]
 | cons h l ih =>
  intro pre v7 acc n fr H Z hw hB he hc ho ha hp hn f0 f1 f2 f7 f8
  obtain⟨n,rfl⟩:∃ j,n=j+1:=⟨n-1,by simp at hn;omega⟩
  have e0:pLen [.sl id off m lo ex 2]=some (.int .i64 (m:Int)):=rfl
  have hmm:m=pre.length+(l.length+1):=by rw[<- hm,he];simp
  have e1:decide ((pre.length:Int)<(m:Int))=true:=decide_eq_true (by omega)
  by_cases hlt:pre.length<nn
  ·have e2:decide ((pre.length:Int)<(nn:Int))=true:=decide_eq_true (by omega)
   have e3:zn 2 [.sl id off m lo ex 2,.int .i64 (pre.length:Int)]=some (.ptr id (off+pre.length*2)):=by
    have:Nat.blt pre.length m=true:=by simp[Nat.blt];omega
    simp[zn,zBK,this]
   have hcell:∀ j,j<2->all[off+pre.length*2+j]?=([V.str h.1,V.str h.2])[j]?:=by
    intro j hj
    have h1:(hcells hs)[pre.length*2+j]?=([V.str h.1,V.str h.2])[j]?:=by
     rw[he,zKx,List.getElem?_append_right (by rw[zCX];omega),zCX,Nat.add_sub_cancel_left,zC6]
     match j,hj with
     | 0,_=>rfl
     | 1,_=>rfl
    rw[<- h1,<- hall,List.getElem?_take_of_lt (by omega),List.getElem?_drop,Nat.add_assoc]
   have e4:zf [.ptr id (off+pre.length*2+0)] H=some (.str h.1):=zDQ hc (hcell 0 (by omega))
   have e5:zf [.ptr id (off+pre.length*2+1)] H=some (.str h.2):=zDQ hc (hcell 1 (by omega))
   have e6:zIf [(.str []),(.str [])] [(0,1),(1,1)] [.str (h.1.take mm),.str (h.2.take mm)]=some (.agg [.str (h.1.take mm),.str (h.2.take mm)]):=rfl
   have hG1:=Gr.new hw [V.str (h.1.take mm),V.str (h.2.take mm)] (1*2) false
   have ho1:=ho.gr hG1 hw nl
   have hc1:=hG1.cells hw nl hc
   have e7:zZ 1 2 [(.str []),(.str [])] [(0,2)] [.agg [.str (h.1.take mm),.str (h.2.take mm)]] H Z=some (.sl H.size 0 1 1 none 2,H.new [.str (h.1.take mm),.str (h.2.take mm)] (1*2) false,Z):=rfl
   obtain⟨v28,H2,r1,r2,r3,r4⟩:=ho1.append (bytes:=32) hG1.wf (by have:=hG1.size;omega) 1 [.str (h.1.take mm),.str (h.2.take mm)] (by omega) rfl rfl (by omega) (by omega) Z
   have e8:zAj 2 32 [v7,.sl H.size 0 1 1 none 2] (H.new [.str (h.1.take mm),.str (h.2.take mm)] (1*2) false) Z=some (v28,H2,Z.tail):=by
    have hl:(H.new [V.str (h.1.take mm),V.str (h.2.take mm)] (1*2) false).loads H.size 0 (1*2)=some [.str (h.1.take mm),.str (h.2.take mm)]:=by
     rw[zCj (zOd _ _ _ _) (by simp)];rfl
    simp only[zAj,zHg,zDg,Nat.beq_refl,cond_true,hl,r1]
   have e9:wr .i64 ((pre.length:Int)+Int.ofNat 1)=((pre++[h]).length:Int):=by
    rw[zES (by first | (simp;done) | (simp;omega) | omega) (by first | (simp;done) | (simp;omega) | omega)]
    simp
   have hcells:hcells acc++[V.str (h.1.take mm),V.str (h.2.take mm)]=hcells (acc++[fewh mm h]):=by
    rw[zKx];rfl
   rw[hcells]at r2
   obtain⟨v7',H',Z',q1,q2,q3⟩:=ih (pre++[h]) v28 (acc++[fewh mm h]) n (T.s (T.s (T.s (T.s (T.s (T.s (T.s (T.s .leaf 0 (.sl id off m lo ex 2)) 1 (.int .i64 (nn:Int))) 2 (.int .i64 (mm:Int))) 7 v28) 8 (.int .i64 (pre.length:Int))) 18 (.int .i64 (pre.length:Int))) 19 (.int .i64 ((pre++[h]).length:Int))) 8 (.int .i64 ((pre++[h]).length:Int))) H2 Z.tail r3.wf (by have:=hG1.size;have:=r3.size;omega) (by rw[he];simp) (r4 _ _ hc1) (by simpa using r2) (by simp[ha]) (by first | (simp;done) | (simp;omega) | omega) (by simp at hn;omega) (by simp[T.get_set]) (by simp[T.get_set]) (by simp[T.get_set]) (by simp[T.get_set]) (by simp[T.get_set])
   have hq:acc++((h::l).take (nn-pre.length)).map (fewh mm)=(acc++[fewh mm h])++(l.take (nn-(pre++[h]).length)).map (fewh mm):=by
    obtain⟨j,hj⟩:∃ j,nn-pre.length=j+1:=⟨nn-pre.length-1,by omega⟩
    rw[hj,List.take_succ_cons,show nn-(pre++[h]).length=j by simp;omega]
    simp
   refine⟨v7',H',Z',(hG1.weaken hB).trans (r3.trans q1 nl) nl,by rw[hq];exact q2,fun k=>?_⟩
   have e10:zAZ [H,H,H,H.new [.str (h.1.take mm),.str (h.2.take mm)] (1*2) false,H2] [((.load none),[.ptr id (off+pre.length*2+1)],0,1)]=true:=by
    simp[zAZ,zGU,zRB,e5,chk1,same,zRJ,zOy]
   rw[zI]
   simp only[zA1,zA f0,zA f1,zA f2,zA f7,zA f8,e0,zBX,zL,e1,zAB,retK,zJL,e2,zJ,cond_true,zPP,e3,zQ,e4,h14,e5,e6,e7,e8,e10,zS,e9,seqK,q3]
  ·have e2:decide ((pre.length:Int)<(nn:Int))=false:=decide_eq_false (by omega)
   refine⟨v7,H,Z,Gr.refl hw,by rw[show nn-pre.length=0 by omega];simpa using ho,fun k=>?_⟩
   rw[zI]
   simp only[zA1,zA f0,zA f1,zA f2,zA f7,zA f8,e0,zBX,zL,e1,zAB,retK,zJL,e2,zJ,cond_true,zJU,seqK]
def fewH (nn mm:Nat)(hs:List (Bs × Bs)):List (Bs × Bs):=(hs.take nn).map (fewh mm)
theorem zMV (c:zG)(N:Nat)(hN:9223372036854775807<N)(h14:FewOk c)(hs:List (Bs × Bs))(hmb:hs.length<=9223372036854775807)(nn mm:Nat)(hnn:nn<=1000)(v:V)(H:Heap)(hw:WF H)(hr:Rd H 2 v hs.length (hcells hs))(Z:Tape) :
  ∃ v' H' Z',Gr H.size H H'/\Own H' H.size 2 v' (fewH nn mm hs).length (hcells (fewH nn mm hs))/\(hs=[]->v'=.nils)/\∀ q,zCt c N v (.int .i64 (nn:Int)) (.int .i64 (mm:Int)) H Z q=q v' H' Z':=by
 by_cases h0:hs=[]
 ·subst h0
  refine⟨.nils,H,Z,Gr.refl hw,by simpa [fewH,hcells] using Own.nil H H.size 2,fun _=>rfl,fun q=>?_⟩
  obtain⟨N,rfl⟩:∃ j,N=j+1:=⟨N-1,by omega⟩
  simp only[zCt,zI,zA1,zK,↓reduceIte,Nat.reduceEqDiff,rd_len hr,zBX]
  rw[zL,show decide (Int.ofNat 0<((([]:List (Bs × Bs)).length:Nat):Int))=false from rfl]
  simp only[ze,zJ,cond_false,zBX,zJU,seqK,zW,Nat.beq_refl,cond_true,zEh,zK,↓reduceIte]
 ·rcases hr with⟨_,hz,_⟩ | ⟨id,off,lo,ex,all,rfl,hc,hall,hlen⟩
  ·exact absurd (List.length_eq_zero_iff.1 hz) h0
  ·have hpos:0<hs.length:=List.length_pos_iff.2 h0
   have hl:off+hs.length*2<=all.length:=by
    have:=hlen
    rw[hall,List.length_take,List.length_drop]at this
    omega
   obtain⟨v',H',Z',k1,k2,k3⟩:=few_loop c N h14 (B:=H.size) (lo:=lo) (ex:=ex) (nn:=nn) (mm:=mm) hs rfl hmb hnn hall.symm hl hs [] .nils [] N (T.s (T.s (T.s (T.s (T.s .leaf 0 (.sl id off hs.length lo ex 2)) 1 (.int .i64 (nn:Int))) 2 (.int .i64 (mm:Int))) 7 .nils) 8 (.int .i64 0)) H Z hw nl rfl hc (Own.nil _ _ _) rfl (by simp) (by omega) (by simp[T.get_set]) (by simp[T.get_set]) (by simp[T.get_set]) (by simp[T.get_set]) (by simp[T.get_set])
   refine⟨v',H',Z',k1,by simpa [fewH] using k2,fun h=>absurd h h0,fun q=>?_⟩
   simp only[zCt]
   rw[show(V.int IntKind.i64 (Int.ofNat 0))=.int .i64 0 from rfl,k3]
   simp only[zW,Nat.beq_refl,cond_true,seqK,zEh,zK,↓reduceIte]
end Go.Am.X

namespace Go.Am.X
def RdH (H:Heap)(v:V)(hs:List Hd):Prop:=Rd H 2 v hs.length (hcells hs)/\Src H v
theorem hcells_inj:∀ {a b:List Hd},hcells a=hcells b->a=b:=by
 intro a
 induction a with
 | nil=>intro b h;cases b with
  | nil=>rfl
  | cons y b=>rw[zC6]at h;cases h
 | cons x a ih=>intro b h;cases b with
  | nil=>rw[zC6]at h;cases h
  | cons y b =>
   rw[zC6,zC6]at h
   simp only[List.cons.injEq,V.str.injEq]at h
   obtain⟨h1,h2,h3⟩:=h
   rw[ih h3]
   obtain⟨x1,x2⟩:=x
   obtain⟨y1,y2⟩:=y
   simp only at h1 h2
   subst h1;subst h2;rfl
theorem RdH.uniq {H:Heap}{v:V}{a b:List Hd}(h:RdH H v a)(k:RdH H v b):a=b:=hcells_inj (h.1.uniq k.1).2
theorem RdH.gr {H H':Heap}{B:Nat}{v:V}{hs:List Hd}(h:RdH H v hs)(hg:Gr B H H')(hw:WF H)(hB:H.size<=B):RdH H' v hs:=⟨h.1.gr hg hw hB,h.2.gr hg hw hB⟩
def isNil:V->Bool | .nils=>true | _=>false
def RH (Pre:List Hd->List V->Prop)(g:Bool->List Hd->List V->Out)(vs:List V)(H:Heap)(o:Out):Prop:=∃ v l hs,vs=v::l/\RdH H v hs/\Pre hs l/\o=g (isNil v) hs l
theorem RH_fun (Pre:List Hd->List V->Prop)(g:Bool->List Hd->List V->Out):Fun1 (RH Pre g):=by
 rintro vs H o o' ⟨v,l,hs,rfl,h1,_,rfl⟩ ⟨v',l',hs',e,h2,_,rfl⟩
 cases e
 rw[h1.uniq h2]
theorem RH_val {c:zG}{f:Nat}{Pre:List Hd->List V->Prop}{g:Bool->List Hd->List V->Out}(hc:∀ vs H Z q,c f vs H Z q=effK (outP (RH Pre g) vs H Z) q){v:V}{l:List V}{hs:List Hd}{H:Heap}{u:V}(h:RdH H v hs)(hp:Pre hs l)(hg:g (isNil v) hs l=.val u)(Z:Tape)(q:KV) :
  c f (v::l) H Z q=q u H Z:=outK_val hc (RH_fun _ _) ⟨v,l,hs,rfl,h,hp,hg.symm⟩ Z q
def lstO (z n:Nat)(cs:List V)(mk:V->V):Out:=if n=0 then .val (mk .nils)else .lst z n cs mk
theorem RH_lstO {c:zG}{f:Nat}{Pre:List Hd->List V->Prop}{g:Bool->List Hd->List V->Out}(hc:∀ vs H Z q,c f vs H Z q=effK (outP (RH Pre g) vs H Z) q){v:V}{l:List V}{hs:List Hd}{H:Heap}{z n:Nat}{cs:List V}{mk:V->V}(h:RdH H v hs)(hp:Pre hs l)(hg:g (isNil v) hs l=lstO z n cs mk)(hw:WF H)(hlen:cs.length=n*z)(Z:Tape) :
  ∃ lv H' Z',Own H' H.size z lv n cs/\Gr H.size H H'/\∀ q,c f (v::l) H Z q=q (mk lv) H' Z':=outK_list hc (RH_fun _ _) ⟨v,l,hs,rfl,h,hp,hg.symm⟩ hw hlen Z
theorem hcells_vok (H:Heap)(hs:List Hd):VsOk H (hcells hs):=by
 induction hs with
 | nil=>trivial
 | cons h l ih=>rw[zC6];exact⟨trivial,trivial,ih⟩
theorem Got.met {H H':Heap}{z n:Nat}{v:V}{cs:List V}{mk:V->V}(h:Got H' H.size z v n cs)(h0:n=0->v=.nils)(hmk:MkOk mk)(hcs:VsOk H cs)(hnil:VOk H (mk .nils)):(lstO z n cs mk).Met H (mk v) H':=by
 unfold lstO
 by_cases hn:n=0
 ·rw[if_pos hn,h0 hn];exact⟨rfl,hnil⟩
 ·rw[if_neg hn]
  rcases h with⟨_,h,_⟩ | h
  ·exact absurd h hn
  ·exact⟨hmk,hcs,v,rfl,h⟩
abbrev GetPre (hs:List Hd):List V->Prop | [.str name]=>Small hs/\name.length<=140737488355328 | _=>False
abbrev GetG (_:Bool)(hs:List Hd):List V->Out | [.str name]=>.val (.tup [.str (getT name hs),.bool (decide (0<(sel name hs).length))]) | _=>.val (.tup [])
theorem zSV:∀ base w0,zDf PG base w0 zAx (outP (RH GetPre GetG)):=by
 refine primOk_E 5 _ ?_
 rintro vs H o hw hvs ⟨v,l,hs,rfl,⟨h1,h2⟩,hp,rfl⟩ Z
 unfold GetPre at hp
 split at hp
 ·rename_i name
  obtain⟨H',Z',g,k⟩:=d20' nb 5 (by omega) name hp.2 hp.1 v H hw h1 Z
  exact⟨_,H',Z',k retK,g,rfl,trivial,trivial,trivial⟩
 ·exact hp.elim
end Go.Am.X

namespace Go.Am.X
def letB (n:Nat):Bool:=(decide (97<=n) && decide (n<=122)) || (decide (65<=n) && decide (n<=90))
def digB (n:Nat):Bool:=decide (48<=n) && decide (n<=57)
theorem zPY (c:zG)(N n:Nat)(H:Heap)(Z:Tape)(q:KV):zHx c N (.int .u8 (n:Int)) H Z q=q (.bool (letB n)) H Z:=by
 unfold letB
 cases h1:decide (97<=n) <;> cases h2:decide (n<=122) <;> cases h3:decide (65<=n) <;> cases h4:decide (n<=90) <;> simp only[zHx,zK,↓reduceIte,Nat.reduceEqDiff,zB,zN,retK,zAB,zu,ze,zh,zX,zJ,cond_true,cond_false,zF,zD,zU,zAM,zL,zAY,zY,zi,zg,Bool.not_true,Bool.not_false,zP,zO,zLo,zLx,zLm,zLu,zLn,zLl,zJu,zK5,zLs,zLt,ext0,ext1,zGZ,zGW,zGa,zS,zAA,decide_true,decide_false,h1,h2,h3,h4] <;> rfl
theorem zLe (c:zG)(N n:Nat)(H:Heap)(Z:Tape)(q:KV):zIr c N (.int .u8 (n:Int)) H Z q=q (.bool (digB n)) H Z:=by
 unfold digB
 cases h1:decide (48<=n) <;> cases h2:decide (n<=57) <;> simp only[zIr,zK,↓reduceIte,Nat.reduceEqDiff,zB,zN,retK,zAB,zu,ze,zh,zX,zJ,cond_true,cond_false,zF,zD,zU,zAM,zL,zAY,zY,zi,zg,Bool.not_true,Bool.not_false,zP,zO,zLo,zLx,zLm,zLu,zLn,zLl,zJu,zK5,zLs,zLt,ext0,ext1,zGZ,zGW,zGa,zS,zAA,decide_true,decide_false,h1,h2] <;> rfl
end Go.Am.X

namespace Go.Am.X
theorem lowB_up {x:UInt8}(h1:65<=x.toNat)(h2:x.toNat<=90):((x.toNat+32:Nat):Int)=((lowB x).toNat:Int):=by
 have:lowB x=UInt8.ofNat (x.toNat+32):=by unfold lowB;rw[if_pos ⟨h1,h2⟩]
 rw[this];simp;omega
theorem l_ref1_Lower (c:zG)(N:Nat){B id e m:Nat}(l:Bs) :
  ∀ (pre:Bs) (n:Nat) (fr:T V) (H:Heap) (Z:Tape),WF H->Blk H B id (bv (lower pre++l))->(pre++l).length=m->m<9223372036854775807->l.length<n ->
  fr.get 3=some (.sl id 0 m m (some e) 1)->fr.get 4=some (.int .i64 (pre.length:Int)) ->
  ∃ H',Blk H' B id (bv (lower (pre++l)))/\Gr B H H'/\∀ k,zq (zCp c N) n ⟨fr,H⟩ Z k=k (.exit 0) ⟨T.s .leaf 3 (.sl id 0 m m (some e) 1),H'⟩ Z:=by
 induction l with
 | nil =>
  intro pre n fr H Z hw hB hm hmb hn h3 h4
  obtain⟨n,rfl⟩:∃ j,n=j+1:=⟨n-1,by simp at hn;omega⟩
  refine⟨H,by simpa using hB,Gr.refl hw,fun k=>?_⟩
  have e1:decide (pre.length<m)=false:=decide_eq_false (by simp at hm;omega)
  have pl:pLen [.sl id 0 m m (some e) 1]=some (.int .i64 (m:Int)):=rfl
  rw[zI]
  simp only[zCp,zA h3,zA h4,pl,zK,↓reduceIte,Nat.reduceEqDiff,zB,zN,retK,zAB,zu,ze,zh,zX,zJ,cond_true,cond_false,zF,zD,zU,zAM,zL,zAY,zY,zi,zg,Bool.not_true,Bool.not_false,zP,zO,zLo,zLx,zLm,zLu,zLn,zLl,zJu,zK5,zLs,zLt,ext0,ext1,zGZ,zGW,zGa,zS,zAA,decide_true,decide_false,e1]
  rfl
 | cons x l ih =>
  intro pre n fr H Z hw hB hm hmb hn h3 h4
  obtain⟨n,rfl⟩:∃ j,n=j+1:=⟨n-1,by simp at hn;omega⟩
  have hlt:pre.length<m:=by simp at hm;omega
  have e1:decide (pre.length<m)=true:=decide_eq_true hlt
  have pl:pLen [.sl id 0 m m (some e) 1]=some (.int .i64 (m:Int)):=rfl
  have e2:zn 1 [.sl id 0 m m (some e) 1,.int .i64 (pre.length:Int)]=some (.ptr id pre.length):=by
   have:Nat.blt pre.length m=true:=by simp[Nat.blt];omega
   simp[zn,zBK,this]
  have e3:zf [.ptr id pre.length] H=some (.int .u8 (x.toNat:Int)):=by
   refine zDQ hB.cells ?_
   have:pre.length=(bv (lower pre)).length:=by simp[bv,lower]
   simp[bv,lower]
  have hcells:(bv (lower pre++x::l)).take pre.length++(V.int .u8 ((lowB x).toNat:Int)).cells++(bv (lower pre++x::l)).drop (pre.length+1)=bv (lower (pre++[x])++l):=by
   have hl:pre.length=(lower pre).length:=by simp[lower]
   simp only[bv,List.map_append,List.map_cons]
   rw[List.take_append_of_le_length (by simp[lower]),List.take_of_length_le (by simp[lower]),List.drop_append]
   simp[lower,V.cells]
  have e5:wr .i64 ((pre.length:Int)+Int.ofNat 1)=((pre++[x]).length:Int):=by rw[adI (by omega)];simp
  by_cases hx:65<=x.toNat/\x.toNat<=90
  ·obtain⟨H1,k1,k2,k3,k4⟩:=hB.eStore hw pre.length (.int .u8 ((lowB x).toNat:Int)) 1 rfl (by simp[bv,lower]) rfl Z
   rw[hcells]at k2
   have d1:decide (65<=x.toNat)=true:=decide_eq_true hx.1
   have d2:decide (x.toNat<=90)=true:=decide_eq_true hx.2
   have e6:wr .u8 ((x.toNat:Int)+Int.ofNat 32)=((lowB x).toNat:Int):=by
    rw[show((x.toNat:Int)+Int.ofNat 32)=((x.toNat+32:Nat):Int)by simp,wr_u8,Nat.mod_eq_of_lt (by omega),lowB_up hx.1 hx.2]
   obtain⟨H',m1,m2,m3⟩:=ih (pre++[x]) n (T.s (T.s (T.s (T.s (T.s .leaf 3 (.sl id 0 m m (some e) 1)) 4 (.int .i64 (pre.length:Int))) 11 (.int .i64 (pre.length:Int))) 12 (.int .i64 ((pre++[x]).length:Int))) 4 (.int .i64 ((pre++[x]).length:Int))) H1 Z k3.wf k2 (by simpa using hm) hmb (by simp at hn;omega) (by simp[T.get_set]) (by simp[T.get_set])
   refine⟨H',by simpa using m1,k3.trans m2 nl,fun k=>?_⟩
   rw[zI]
   simp only[zCp,zA h3,zA h4,pl,zK,↓reduceIte,Nat.reduceEqDiff,zB,zN,retK,zAB,zu,ze,zh,zX,zJ,cond_true,cond_false,zF,zD,zU,zAM,zL,zAY,zY,zi,zg,Bool.not_true,Bool.not_false,zP,zO,zLo,zLx,zLm,zLu,zLn,zLl,zJu,zK5,zLs,zLt,ext0,ext1,zGZ,zGW,zGa,zS,zAA,decide_true,decide_false,e1,e2,e3,d1,d2,e6,k1,zEA,e5,seqK]
   exact m3 k
  ·have hlx:lowB x=x:=by unfold lowB;rw[if_neg hx]
   rw[hlx]at hcells
   have hB2:Blk H B id (bv (lower (pre++[x])++l)):=by
    have:bv (lower (pre++[x])++l)=bv (lower pre++x::l):=by simp[lower,hlx]
    rw[this];exact hB
   obtain⟨H',m1,m2,m3⟩:=ih (pre++[x]) n (T.s (T.s (T.s (T.s (T.s .leaf 3 (.sl id 0 m m (some e) 1)) 4 (.int .i64 (pre.length:Int))) 11 (.int .i64 (pre.length:Int))) 12 (.int .i64 ((pre++[x]).length:Int))) 4 (.int .i64 ((pre++[x]).length:Int))) H Z hw hB2 (by simpa using hm) hmb (by simp at hn;omega) (by simp[T.get_set]) (by simp[T.get_set])
   refine⟨H',by simpa using m1,m2,fun k=>?_⟩
   rw[zI]
   cases d1:decide (65<=x.toNat)with
   | true =>
    have d2:decide (x.toNat<=90)=false:=decide_eq_false fun h=>hx ⟨of_decide_eq_true d1,h⟩
    simp only[zCp,zA h3,zA h4,pl,zK,↓reduceIte,Nat.reduceEqDiff,zB,zN,retK,zAB,zu,ze,zh,zX,zJ,cond_true,cond_false,zF,zD,zU,zAM,zL,zAY,zY,zi,zg,Bool.not_true,Bool.not_false,zP,zO,zLo,zLx,zLm,zLu,zLn,zLl,zJu,zK5,zLs,zLt,ext0,ext1,zGZ,zGW,zGa,zS,zAA,decide_true,decide_false,e1,e2,e3,d1,d2,zEA,e5,seqK]
    exact m3 k
   | false =>
    simp only[zCp,zA h3,zA h4,pl,zK,↓reduceIte,Nat.reduceEqDiff,zB,zN,retK,zAB,zu,ze,zh,zX,zJ,cond_true,cond_false,zF,zD,zU,zAM,zL,zAY,zY,zi,zg,Bool.not_true,Bool.not_false,zP,zO,zLo,zLx,zLm,zLu,zLn,zLl,zJu,zK5,zLs,zLt,ext0,ext1,zGZ,zGW,zGa,zS,zAA,decide_true,decide_false,e1,e2,e3,d1,zEA,e5,seqK]
    exact m3 k
theorem zP7 (c:zG){N:Nat}(hN:9223372036854775807<N)(s:Bs)(hs:s.length<=140737488355328)(H:Heap)(hw:WF H)(Z:Tape) :
  ∃ H' Z',Gr H.size H H'/\∀ q,zJF c N (.str s) H Z q=q (.str (lower s)) H' Z':=by
 have hB:=Blk.new H (bv s) ((s.length+spare s.length (Z 0))*1) false (by rw[zQm];omega)
 have hG:=Gr.new hw (bv s) ((s.length+spare s.length (Z 0))*1) false
 obtain⟨H',m1,m2,m3⟩:=l_ref1_Lower c N (e:=spare s.length (Z 0)) (m:=s.length) s [] N (T.s (T.s .leaf 3 (.sl H.size 0 s.length s.length (some (spare s.length (Z 0))) 1)) 4 (.int .i64 0)) _ Z.tail hG.wf (by simpa [lower] using hB) (by simp) (by omega) (by omega) (by simp[T.get_set]) (by simp[T.get_set])
 refine⟨H',Z.tail,hG.trans m2 nl,fun q=>?_⟩
 have e1:zBU [.str s] H Z=some (.sl H.size 0 s.length s.length (some (spare s.length (Z 0))) 1,H.new (bv s) ((s.length+spare s.length (Z 0))*1) false,Z.tail):=by
  simp only[zBU,Nat.ble_eq_true_of_le hs,cond_true,fresh]
  rfl
 have e3:zA6 [.sl H.size 0 s.length s.length (some (spare s.length (Z 0))) 1] H'=some (.str (lower s)):=by
  have hl:(bv (lower ([]++s))).length=s.length:=by simp[bv,lower]
  simp only[zA6,zCj m1.cells (show 0+s.length<=_ by rw[hl];omega),List.drop_zero]
  rw[List.take_of_length_le (by rw[hl];omega)]
  simp[zJ3]
 simp only[zJF,e1,zN]
 rw[show(V.int IntKind.i64 (Int.ofNat 0))=.int .i64 0 from rfl,m3]
 simp only[zW,Nat.beq_refl,cond_true,seqK,zL9,zK,↓reduceIte,Nat.reduceEqDiff,zB,zN,retK,zAB,zu,ze,zh,zX,zJ,cond_true,cond_false,zF,zD,zU,zAM,zL,zAY,zY,zi,zg,Bool.not_true,Bool.not_false,zP,zO,zLo,zLx,zLm,zLu,zLn,zLl,zJu,zK5,zLs,zLt,ext0,ext1,zGZ,zGW,zGa,zS,zAA,decide_true,decide_false,e3]
end Go.Am.X

namespace Go.Am.X
theorem someN:∃ N:Nat,9223372036854775807<N:=⟨9223372036854775808,by decide⟩
theorem primRV {N:Nat}{l:List Row}(hl:zLh PG l)(d f:Nat){Pre:List V->Prop}{g:List V->V}(hv:∀ vs H,Pre vs->VOk H (g vs))(h:∀ vs,Pre vs->∀ H,WF H->∀ Z,∃ H' Z',Gr H.size H H'/\∀ q,CR l N d f vs H Z q=q (g vs) H' Z'):∀ base w0,zDf PG base w0 f (outP (RV Pre g)):=by
 refine zPK zOG hl N d f ?_
 rintro vs H o hw hvs ⟨hp,rfl⟩ Z
 obtain⟨H',Z',g1,k1⟩:=h vs hp H hw Z
 exact⟨_,H',Z',k1 retK,g1,rfl,hv vs H hp⟩
theorem p_ref1_Lower:∀ base w0,zDf PG base w0 zBI (outP LowR):=by
 obtain⟨N,hN⟩:=someN
 refine primRV (N:=N) (l:=[Row.fn zBI zBb zFN]) (.fn zK0 zIR (.nil _)) 1 _ (fun vs H h=>?_) (fun vs h H hw Z=>?_)
 ·unfold strP at h;split at h
  ·trivial
  ·exact h.elim
 ·unfold strP at h;split at h
  ·exact zP7 (CR [Row.fn zBI zBb zFN] N 0) hN _ h H hw Z
  ·exact h.elim
abbrev IsP (c:zG)(f:Nat)(R:List V->Heap->Out->Prop):Prop:=∀ vs H Z q,c f vs H Z q=effK (outP R vs H Z) q
abbrev TokR:=RS 9223372036854775806 fun s=>.bool (tokT s)
abbrev zQg (c:zG):Prop:=∀ (s:Bs),s.length<=140737488355328->∀ H Z q,c zBI [.str s] H Z q=q (.str (lower s)) H Z
theorem k_ref1_Lower {c:zG}(h:IsP c zBI LowR):zQg c:=fun s hs H Z q=>callS h s hs H Z q
end Go.Am.X

namespace Go.Am.X
end Go.Am.X

namespace Go.Am.X
end Go.Am.X

namespace Go.Am.X
theorem primRH {N:Nat}{l:List Row}(hl:zLh PG l)(d f:Nat){Pre:List Hd->List V->Prop}{g:Bool->List Hd->List V->Out}(h:∀ hs args,Pre hs args->∀ lv H,WF H->RdH H lv hs->∀ Z,∃ v H' Z',Gr H.size H H'/\(g (isNil lv) hs args).Met H v H'/\∀ q,CR l N d f (lv::args) H Z q=q v H' Z'):∀ base w0,zDf PG base w0 f (outP (RH Pre g)):=by
 refine zPK zOG hl N d f ?_
 rintro vs H o hw hvs ⟨lv,args,hs,rfl,hr,hp,rfl⟩ Z
 obtain⟨v,H',Z',g1,hm,k1⟩:=h hs args hp lv H hw hr Z
 exact⟨_,H',Z',k1 retK,g1,hm⟩
abbrev RDropG (_:Bool)(hs:List Hd):List V->Out | [.str n]=>lstO 2 (dropT n hs).length (hcells (dropT n hs)) (fun v=>v) | _=>.val (.tup [])
abbrev zQb (hs:List Hd):List V->Prop | [.int .i64 (.ofNat nn),.int .i64 (.ofNat mm)]=>hs.length<=9223372036854775807/\1<=nn/\nn<=1000 | _=>False
abbrev FewHG (_:Bool)(hs:List Hd):List V->Out | [.int .i64 (.ofNat nn),.int .i64 (.ofNat mm)]=>lstO 2 (fewH nn mm hs).length (hcells (fewH nn mm hs)) (fun v=>v) | _=>.val (.tup [])
theorem zNn (c:zG)(N:Nat)(s:Bs)(m:Nat)(H:Heap)(Z:Tape)(q:KV):zJw c N (.str s) (.int .i64 (m:Int)) H Z q=q (.str (s.take m)) H Z:=s14_eval c N s m H Z q
abbrev rw_FewH:List Row:=[Row.fn zAv zBN zEG,Row.fn zDV zDC zH2]
theorem zPQ:∀ base w0,zDf PG base w0 zAv (outP (RH zQb FewHG)):=by
 obtain⟨N,hN⟩:=someN
 refine primRH (N:=N) (l:=rw_FewH) (.fn zI1 zHb (.fn zKT zHr (.nil _))) 2 _ (fun hs args hp lv H hw hr Z=>?_)
 unfold zQb at hp;split at hp
 ·rename_i nn mm
  obtain⟨v',H',Z',h1,h2,h3,h4⟩:=zMV (CR rw_FewH N 1) N hN (fun s m H Z q=>zNn (CR rw_FewH N 0) N s m H Z q) hs hp.1 nn mm hp.2.2 lv H hw hr.1 Z
  refine⟨v',H',Z',h1,?_,h4⟩
  refine Got.met h2.apd.got (fun h0=>h3 ?_) mkOk_id (hcells_vok _ _) trivial
  have:(hs.take nn).length=0:=by unfold fewH at h0;rw[List.length_map]at h0;exact h0
  rw[List.length_take]at this
  exact List.eq_nil_of_length_eq_zero (by omega)
 ·exact hp.elim
theorem zPc {c:zG}(h:IsP c zAv (RH zQb FewHG)){hs:List Hd}(hl:hs.length<=9223372036854775807)(nn mm:Nat)(h1:1<=nn)(hn:nn<=1000){lv:V}{H:Heap}(hw:WF H)(hr:RdH H lv hs)(Z:Tape) :
  ∃ v' H' Z',Own H' H.size 2 v' (fewH nn mm hs).length (hcells (fewH nn mm hs))/\Gr H.size H H'/\∀ q,c zAv [lv,.int .i64 (.ofNat nn),.int .i64 (.ofNat mm)] H Z q=q v' H' Z':=by
 obtain⟨v',H',Z',h1,h2,h3⟩:=RH_lstO (v:=lv) (l:=[.int .i64 (.ofNat nn),.int .i64 (.ofNat mm)]) h hr ⟨hl,h1,hn⟩ rfl hw (by rw[zCX]) Z
 exact⟨v',H',Z',h1,h2,h3⟩
end Go.Am.X

namespace Go.Am.X
def zNB (x:UInt8)(s:Bs):V:=match cutB x s with | some (a,b)=>.tup [.str a,.str b,.bool true] | none=>.tup [.str s,.str [],.bool false]
theorem l_ref1_Part (c:zG)(N:Nat)(x:UInt8)(s:Bs)(hs:s.length<9223372036854775807)(H:Heap):∀ (l pre:Bs) (Z:Tape) (m:Nat),s=pre++l->l.length<m->∀ (fr:T V) k,fr.get 0=some (.str s)->fr.get 1=some (.int .u8 (x.toNat:Int))->fr.get 7=some (.int .i64 (pre.length:Int)) ->
  zq (zEr c N) m ⟨fr,H⟩ Z k=match cutB x l with
   | some (a,b)=>k .ret ⟨(T.s (T.s (T.s .leaf 4 (.str (pre++a))) 5 (.str b)) 6 (.bool true)),H⟩ Z
   | none=>k (.exit 0) ⟨(T.s .leaf 0 (.str s)),H⟩ Z:=by
 intro l
 induction l with
 | nil =>
  intro pre Z m he hm fr k f0 f1 f7
  obtain⟨m,rfl⟩:∃ j,m=j+1:=⟨m-1,by omega⟩
  have e1:decide (pre.length<s.length)=false:=decide_eq_false (by rw[he];simp)
  rw[zI]
  simp only[zEr,zA f0,zA f1,zA f7,zK,↓reduceIte,Nat.reduceEqDiff,zB,zN,retK,zAB,zu,ze,zh,zX,zJ,cond_true,cond_false,zF,zD,zU,zAM,zL,zAY,zY,zi,zg,Bool.not_true,Bool.not_false,zP,zO,zLo,zLx,zLm,zLu,zLn,zLl,zJu,zK5,zLs,zLt,ext0,ext1,zGZ,zGW,zGa,zS,zAA,decide_true,decide_false,e1]
  rfl
 | cons y l ih =>
  intro pre Z m he hm fr k f0 f1 f7
  obtain⟨m,rfl⟩:∃ j,m=j+1:=⟨m-1,by omega⟩
  have hlt:pre.length<s.length:=by rw[he];simp
  have e1:decide (pre.length<s.length)=true:=decide_eq_true hlt
  have e2:zM [.str s,.int .i64 (pre.length:Int)]=some (.int .u8 (y.toNat:Int)):=zk (by rw[he];simp)
  have e3:wr .i64 ((pre.length:Int)+Int.ofNat 1)=((pre++[y]).length:Int):=by rw[adI (by omega)];simp
  have e4:decide (y.toNat=x.toNat)=decide (y=x):=by rw[<- u8beq];rfl
  rw[zI]
  by_cases h:y=x
  ·subst h
   have e5:decide (y=y)=true:=decide_eq_true rfl
   have s1:zR false true [.str s,.int .i64 (pre.length:Int)]=some (.str pre):=by rw[zDB (by omega),he];simp
   have s2:zR true false [.str s,.int .i64 ((pre++[y]).length:Int)]=some (.str l):=by
    rw[zAt (by rw[he];simp),he,show pre++y::l=(pre++[y])++l by simp,List.drop_left]
   simp only[zEr,zA f0,zA f1,zA f7,zK,↓reduceIte,Nat.reduceEqDiff,zB,zN,retK,zAB,zu,ze,zh,zX,zJ,cond_true,cond_false,zF,zD,zU,zAM,zL,zAY,zY,zi,zg,Bool.not_true,Bool.not_false,zP,zO,zLo,zLx,zLm,zLu,zLn,zLl,zJu,zK5,zLs,zLt,ext0,ext1,zGZ,zGW,zGa,zS,zAA,decide_true,decide_false,e1,e2,e4,e5,s1,e3,s2,cutB,if_true,List.append_nil]
   rfl
  ·have e5:decide (y=x)=false:=decide_eq_false h
   simp only[zEr,zA f0,zA f1,zA f7,zK,↓reduceIte,Nat.reduceEqDiff,zB,zN,retK,zAB,zu,ze,zh,zX,zJ,cond_true,cond_false,zF,zD,zU,zAM,zL,zAY,zY,zi,zg,Bool.not_true,Bool.not_false,zP,zO,zLo,zLx,zLm,zLu,zLn,zLl,zJu,zK5,zLs,zLt,ext0,ext1,zGZ,zGW,zGa,zS,zAA,decide_true,decide_false,e1,e2,e4,e5,e3,cutB,h,if_false]
   refine(ih (pre++[y]) Z m (by rw[he];simp) (by simp at hm;omega) _ k (by simp[T.get_set]) (by simp[T.get_set]) (by simp[T.get_set])).trans ?_
   cases cutB x l with
   | none=>rfl
   | some ab=>obtain⟨a,b⟩:=ab;simp
theorem zQ1 (c:zG){N:Nat}(hN:9223372036854775807<N)(x:UInt8)(s:Bs)(hs:s.length<=9223372036854775806)(H:Heap)(Z:Tape)(q:KV):zKd c N (.str s) (.int .u8 (x.toNat:Int)) H Z q=q (zNB x s) H Z:=by
 simp only[zKd]
 rw[l_ref1_Part c N x s (by omega) H s [] Z N rfl (by omega) _ _ (by simp[T.get_set]) (by simp[T.get_set]) (by simp[T.get_set])]
 unfold zNB
 cases cutB x s with
 | none=>simp only[zW,Nat.beq_refl,cond_true,seqK,zNk,zK,↓reduceIte,Nat.reduceEqDiff,zB,zN,retK,zAB,zu,ze,zh,zX,zJ,cond_true,cond_false,zF,zD,zU,zAM,zL,zAY,zY,zi,zg,Bool.not_true,Bool.not_false,zP,zO,zLo,zLx,zLm,zLu,zLn,zLl,zJu,zK5,zLs,zLt,ext0,ext1,zGZ,zGW,zGa,zS,zAA,decide_true,decide_false]
 | some ab=>obtain⟨a,b⟩:=ab;simp only[zW,seqK,endK,List.nil_append];rfl
abbrev PartPre:List V->Prop | [.str s,.int .u8 (.ofNat n)]=>s.length<=9223372036854775806/\n<256 | _=>False
abbrev PartG:List V->V | [.str s,.int .u8 (.ofNat n)]=>zNB (UInt8.ofNat n) s | _=>.tup []
abbrev PartR:=RV PartPre PartG
theorem partV_vok (x:UInt8)(s:Bs)(H:Heap):VOk H (zNB x s):=by
 unfold zNB;split <;> exact⟨trivial,trivial,trivial,trivial⟩
theorem p_ref1_Part:∀ base w0,zDf PG base w0 zCh (outP PartR):=by
 obtain⟨N,hN⟩:=someN
 refine primRV (N:=N) (l:=[Row.fn zCh zCZ zGR]) (.fn zMN zJQ (.nil _)) 1 _ (fun vs H h=>?_) (fun vs h H hw Z=>?_)
 ·unfold PartPre at h;split at h
  ·exact partV_vok _ _ _
  ·exact h.elim
 ·unfold PartPre at h;split at h
  ·rename_i s n
   have e:(UInt8.ofNat n).toNat=n:=by simp;omega
   have:=fun q=>zQ1 (CR [Row.fn zCh zCZ zGR] N 0) hN (UInt8.ofNat n) s h.1 H Z q
   rw[e]at this
   exact⟨H,Z,Gr.refl hw,this⟩
  ·exact h.elim
abbrev PartOk (c:zG):Prop:=∀ (s:Bs) (n:Nat),s.length<=9223372036854775806->n<256->∀ H Z q,c zCh [.str s,.int .u8 (.ofNat n)] H Z q=q (zNB (UInt8.ofNat n) s) H Z
theorem k_ref1_Part {c:zG}(h:IsP c zCh PartR):PartOk c:=fun s n hs hn H Z q=>RV_call h (vs:=[.str s,.int .u8 (.ofNat n)]) ⟨hs,hn⟩ H Z q
def begB (s p:Bs):Bool:=p.isPrefixOf s
theorem zQk:∀ (s p:Bs),p.isPrefixOf s=(decide (p.length<=s.length) && (s.take p.length == p)):=by
 intro s p
 induction p generalizing s with
 | nil=>simp
 | cons y p ih =>
  cases s with
  | nil=>rfl
  | cons x s =>
   rw[List.isPrefixOf,ih s]
   simp only[List.length_cons,List.take_succ_cons]
   have e1:decide (p.length+1<=s.length+1)=decide (p.length<=s.length):=by simp
   have e2:(x::List.take p.length s == y::p)=(x == y && (List.take p.length s == p)):=rfl
   have e3:(y == x)=(x == y):=BEq.comm
   rw[e1,e2,e3]
   cases (x == y) <;> cases decide (p.length<=s.length) <;> simp
theorem zPH (c:zG)(N:Nat)(s p:Bs)(H:Heap)(Z:Tape)(q:KV):zGB c N (.str s) (.str p) H Z q=q (.bool (begB s p)) H Z:=by
 unfold begB
 rw[zQk]
 by_cases h:p.length<=s.length
 ·have e1:decide (p.length<=s.length)=true:=decide_eq_true h
  have s1:zR false true [.str s,.int .i64 (p.length:Int)]=some (.str (s.take p.length)):=zDB h
  simp only[zGB,zK,↓reduceIte,Nat.reduceEqDiff,zB,zN,retK,zAB,zu,ze,zh,zX,zJ,cond_true,cond_false,zF,zD,zU,zAM,zL,zAY,zY,zi,zg,Bool.not_true,Bool.not_false,zP,zO,zLo,zLx,zLm,zLu,zLn,zLl,zJu,zK5,zLs,zLt,ext0,ext1,zGZ,zGW,zGa,zS,zAA,decide_true,decide_false,e1,s1,zSX,Bool.true_and]
 ·have e1:decide (p.length<=s.length)=false:=decide_eq_false h
  simp only[zGB,zK,↓reduceIte,Nat.reduceEqDiff,zB,zN,retK,zAB,zu,ze,zh,zX,zJ,cond_true,cond_false,zF,zD,zU,zAM,zL,zAY,zY,zi,zg,Bool.not_true,Bool.not_false,zP,zO,zLo,zLx,zLm,zLu,zLn,zLl,zJu,zK5,zLs,zLt,ext0,ext1,zGZ,zGW,zGa,zS,zAA,decide_true,decide_false,e1,Bool.false_and]
theorem l_ref1_Int (c:zG)(N:Nat)(hD:∀ (n:Nat) H Z q,c zBe [.int .u8 (n:Int)] H Z q=q (.bool (digB n)) H Z)(H:Heap)(s:Bs)(hs:s.length<9223372036854775807):∀ (l pre:Bs) (v:Int) (Z:Tape) (n:Nat),s=pre++l->0<=v->v<=zGy->l.length<n ->
  ∀ (fr:T V) k,fr.get 0=some (.str s)->fr.get 4=some (.int .i64 v)->fr.get 5=some (.int .i64 (pre.length:Int)) ->
  zq (zEM c N) n ⟨fr,H⟩ Z k=match intL l v with
   | some m=>k (.exit 0) ⟨T.s (T.s .leaf 0 (.str s)) 4 (.int .i64 m),H⟩ Z
   | none=>k .ret ⟨T.s (T.s .leaf 2 (.int .i64 (.ofNat 0))) 3 (.bool false),H⟩ Z:=by
 intro l
 induction l with
 | nil =>
  intro pre v Z n he h0 h1 hn fr k f0 f4 f5
  obtain⟨n,rfl⟩:∃ j,n=j+1:=⟨n-1,by simp at hn;omega⟩
  have e1:decide (pre.length<s.length)=false:=decide_eq_false (by rw[he];simp)
  rw[zI]
  simp only[zEM,zA f0,zA f4,zA f5,zK,↓reduceIte,Nat.reduceEqDiff,zB,zN,retK,zAB,zu,ze,zh,zX,zJ,cond_true,cond_false,zF,zD,zU,zAM,zL,zAY,zY,zi,zg,Bool.not_true,Bool.not_false,zP,zO,zLo,zLx,zLm,zLu,zLn,zLl,zJu,zK5,zLs,zLt,ext0,ext1,zGZ,zGW,zGa,zS,zAA,decide_true,decide_false,e1,intL]
  rfl
 | cons x l ih =>
  intro pre v Z n he h0 h1 hn fr k f0 f4 f5
  obtain⟨n,rfl⟩:∃ j,n=j+1:=⟨n-1,by simp at hn;omega⟩
  have hlt:pre.length<s.length:=by rw[he];simp
  have e1:decide (pre.length<s.length)=true:=decide_eq_true hlt
  have e2:zM [.str s,.int .i64 (pre.length:Int)]=some (.int .u8 (x.toNat:Int)):=zk (by rw[he];simp)
  have e9:wr .i64 ((pre.length:Int)+Int.ofNat 1)=((pre++[x]).length:Int):=by rw[adI (by omega)];simp
  have hx:=u8_lt x
  rw[zI]
  by_cases hd:48<=x.toNat/\x.toNat<=57
  ·have ed:digB x.toNat=true:=by unfold digB;simp[hd.1,hd.2]
   have e5:wr .u8 ((x.toNat:Int)-Int.ofNat 48)=(x.toNat:Int)-48:=by
    rw[zPZ];simp[IntKind.wrap,IntKind.signed,IntKind.bits];omega
   have e6:wr .i64 ((x.toNat:Int)-48)=(x.toNat:Int)-48:=zES (by omega) (by omega)
   have e7:wr .i64 (Int.ofNat 9223372036854775807-((x.toNat:Int)-48))=zGy-((x.toNat:Int)-48):=by
    rw[zES (by first | (simp;done) | (simp;omega) | omega) (by first | (simp;done) | (simp;omega) | omega)];rfl
   have e8:wr .i64 ((zGy-((x.toNat:Int)-48)).tdiv (Int.ofNat 10))=(zGy-((x.toNat:Int)-48)).tdiv 10:=by
    have:(zGy-((x.toNat:Int)-48)).tdiv (Int.ofNat 10)=(zGy-((x.toNat:Int)-48)).tdiv 10:=rfl
    rw[this,Int.tdiv_eq_ediv_of_nonneg (by unfold zGy;omega)]
    unfold zGy
    exact zES (by omega) (by omega)
   have hq10:∀ (y:Int) (q:V->Ans),binK .quo (.int .i64 y) (.int .i64 (Int.ofNat 10)) q=q (.int .i64 (wr .i64 (y.tdiv (Int.ofNat 10)))):=fun y q=>zPU _ _ _ (by decide) _
   have hstep:=zKU h0 h1 (d:=(x.toNat:Int)-48) (by omega) (by omega)
   have hI:intL (x::l) v=intL l (zKb v ((x.toNat:Int)-48)):=by simp only[intL,hd,and_self,if_true]
   by_cases hq:(zGy-((x.toNat:Int)-48)).tdiv 10<v
   ·have hI2:zKb v ((x.toNat:Int)-48)=zGy:=by simp only[zKb,hq,if_true]
    have eq:decide ((zGy-((x.toNat:Int)-48)).tdiv 10<v)=true:=decide_eq_true hq
    simp only[zEM,zA f0,zA f4,zA f5,zK,↓reduceIte,Nat.reduceEqDiff,zB,zN,retK,zAB,zu,ze,zh,zX,zJ,cond_true,cond_false,zF,zD,zU,zAM,zL,zAY,zY,zi,zg,Bool.not_true,Bool.not_false,zP,zO,zLo,zLx,zLm,zLu,zLn,zLl,zJu,zK5,zLs,zLt,ext0,ext1,zGZ,zGW,zGa,zS,zAA,decide_true,decide_false,e1,e2,hD,ed,e5,zBB,e6,e7,hq10,e8,eq,zHp,e9,seqK]
    rw[ih (pre++[x]) zGy Z n (by rw[he];simp) (by unfold zGy;omega) (Int.le_refl _) (by simp at hn;omega) _ k (by simp[T.get_set]) (by simp[T.get_set];rfl) (by simp[T.get_set]),hI,hI2]
   ·have hI2:zKb v ((x.toNat:Int)-48)=v*10+((x.toNat:Int)-48):=by simp only[zKb,hq,if_false]
    have eq:decide ((zGy-((x.toNat:Int)-48)).tdiv 10<v)=false:=decide_eq_false hq
    have hv:v*10+((x.toNat:Int)-48)<=zGy:=by rw[<- hI2];exact hstep.2
    have e10:wr .i64 (v*Int.ofNat 10)=v*10:=by
     have:v*Int.ofNat 10=v*10:=rfl
     rw[this,zES (by omega) (by unfold zGy at hv;omega)]
    have e11:wr .i64 (v*10+((x.toNat:Int)-48))=v*10+((x.toNat:Int)-48):=zES (by omega) hv
    simp only[zEM,zA f0,zA f4,zA f5,zK,↓reduceIte,Nat.reduceEqDiff,zB,zN,retK,zAB,zu,ze,zh,zX,zJ,cond_true,cond_false,zF,zD,zU,zAM,zL,zAY,zY,zi,zg,Bool.not_true,Bool.not_false,zP,zO,zLo,zLx,zLm,zLu,zLn,zLl,zJu,zK5,zLs,zLt,ext0,ext1,zGZ,zGW,zGa,zS,zAA,decide_true,decide_false,e1,e2,hD,ed,e5,zBB,e6,e7,hq10,e8,eq,zJT,e10,e11,zHp,e9,seqK]
    rw[ih (pre++[x]) (v*10+((x.toNat:Int)-48)) Z n (by rw[he];simp) (by omega) hv (by simp at hn;omega) _ k (by simp[T.get_set]) (by simp[T.get_set]) (by simp[T.get_set]),hI,hI2]
  ·have ed:digB x.toNat=false:=by
    unfold digB
    by_cases h:48<=x.toNat
    ·have:¬ x.toNat<=57:=fun h'=>hd ⟨h,h'⟩
     simp[h,this]
    ·simp[h]
   have hI:intL (x::l) v=none:=by simp only[intL,hd,if_false]
   simp only[zEM,zA f0,zA f4,zA f5,zK,↓reduceIte,Nat.reduceEqDiff,zB,zN,retK,zAB,zu,ze,zh,zX,zJ,cond_true,cond_false,zF,zD,zU,zAM,zL,zAY,zY,zi,zg,Bool.not_true,Bool.not_false,zP,zO,zLo,zLx,zLm,zLu,zLn,zLl,zJu,zK5,zLs,zLt,ext0,ext1,zGZ,zGW,zGa,zS,zAA,decide_true,decide_false,e1,e2,hD,ed,hI]
   rfl
abbrev intV (s:Bs):V:=.tup [.int .i64 (intB s).1,.bool (intB s).2]
theorem zRS (c:zG){N:Nat}(hN:9223372036854775807<N)(hD:∀ (n:Nat) H Z q,c zBe [.int .u8 (n:Int)] H Z q=q (.bool (digB n)) H Z)(s:Bs)(hs:s.length<=9223372036854775806)(H:Heap)(Z:Tape)(q:KV) :
  zM4 c N (.str s) H Z q=q (intV s) H Z:=by
 simp only[zM4]
 rw[l_ref1_Int c N hD H s (by omega) s [] 0 Z N rfl (Int.le_refl _) (by unfold zGy;omega) (by omega) _ _ (by simp[T.get_set]) (by simp[T.get_set]) (by simp[T.get_set])]
 unfold intV intB
 cases hI:intL s 0 with
 | none =>
  simp only[zW,seqK,endK]
  rfl
 | some m =>
  simp only[zW,Nat.beq_refl,cond_true,seqK,zO4,zK,↓reduceIte,Nat.reduceEqDiff,zB,zN,retK,zAB,zu,ze,zh,zX,zJ,cond_true,cond_false,zF,zD,zU,zAM,zL,zAY,zY,zi,zg,Bool.not_true,Bool.not_false,zP,zO,zLo,zLx,zLm,zLu,zLn,zLl,zJu,zK5,zLs,zLt,ext0,ext1,zGZ,zGW,zGa,zS,zAA,decide_true,decide_false]
abbrev IntR:=RS 9223372036854775806 intV
abbrev rw_Int:List Row:=[Row.fn zFR zDo zJs,Row.fn zBe zBa zFP]
theorem p_ref1_Int:∀ base w0,zDf PG base w0 zFR (outP IntR):=by
 obtain⟨N,hN⟩:=someN
 refine primRV (N:=N) (l:=rw_Int) (.fn zNx zKp (.fn zHh zFx (.nil _))) 2 _ (fun vs H h=>?_) (fun vs h H hw Z=>?_)
 ·unfold strP at h;split at h
  ·exact⟨trivial,trivial,trivial⟩
  ·exact h.elim
 ·unfold strP at h;split at h
  ·exact⟨H,Z,Gr.refl hw,fun q=>zRS (CR rw_Int N 1) hN (fun n H Z q=>zLe (CR rw_Int N 0) N n H Z q) _ h H Z q⟩
  ·exact h.elim
abbrev zQB (c:zG):Prop:=∀ (s:Bs),s.length<=9223372036854775806->∀ H Z q,c zFR [.str s] H Z q=q (intV s) H Z
theorem k_ref1_Int {c:zG}(h:IsP c zFR IntR):zQB c:=fun s hs H Z q=>callS h s hs H Z q
end Go.Am.X

