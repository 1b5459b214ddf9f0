/- The abstract machine, printed functions of the program, and what they are shown to be. -/
import Derived.Test.YtejpgcemblankaaGreatDoorCFRL3
import Derived.Test.YtejpgcemblankaaGreatDoorCFRM4
import Derived.Test.YtejpgcemblankaaGreatDoorCFRL2
set_option linter.unusedSimpArgs false
set_option linter.unusedVariables false
set_option linter.unusedSectionVars false
set_option maxRecDepth 100000
namespace Go.Am.X
theorem zKB (c:zC)(N:Nat)(f:CRow->Bool)(fv:V){P:Nat->Prop}{H0:Heap}(hw0:WF H0)(hs:List CRow)(hl:hs.length<=1000000)(v:V)(hr:Rd H0 1 v hs.length (hs.flatMap rpC))(hf:TstV c fv rpV f P H0 hs)(hP:zQt P H0) :
  ∀ (l pre:List CRow) (H:Heap) (Z:Tape) (m:Nat),hs=pre++l->l.length<m->Gr H0.size H0 H ->
  ∃ H' Z',Gr H.size H H'/\∀ (fr:T V) q,fr.get 0=some v->fr.get 1=some fv->fr.get 7=some (.int .i64 (hs.length:Int))->fr.get 8=some (.int .i64 (pre.length:Int)) ->
   zAZ (zAY c N) m ⟨fr,H⟩ Z (zX 0 (seqK (zEQ c N q) (endK [(.t 4)] q)))=q (.int .i64 (zRU f l pre.length)) H' Z':=by
 intro l
 induction l with
 | nil =>
  intro pre H Z m he hm hg
  obtain⟨m,rfl⟩:∃ j,m=j+1:=⟨m-1,by omega⟩
  refine⟨H,Z,Gr.refl hg.wf,fun fr q f0 f1 f7 f8=>?_⟩
  have e1:decide ((pre.length:Int)<(hs.length:Int))=false:=decide_eq_false (by rw[he];simp)
  rw[zI]
  simp only[zAY,zA f0,zA f1,zA f7,zA f8,zN,e1,zO]
  rfl
 | cons h l ih =>
  intro pre H Z m he hm hg
  obtain⟨m,rfl⟩:∃ j,m=j+1:=⟨m-1,by omega⟩
  have hlt:pre.length<hs.length:=by rw[he];simp
  have e1:decide ((pre.length:Int)<(hs.length:Int))=true:=decide_eq_true (by omega)
  have e3:wr .i64 ((pre.length:Int)+Int.ofNat 1)=((pre++[h]).length:Int):=by
   rw[zEE (by simp;omega) (by simp;omega)];simp
  have hrH:=hr.gr hg hw0 nl
  obtain⟨id,o,p1,p2⟩:=Cells.at rpOk (v:=v) pre h l (H:=H) (by rw[<- he];exact hrH)
  have q1:=(p2 H (by rw[<- he];exact hrH)).2 0 _ (rp0 h)
  rw[Nat.add_zero]at q1
  obtain⟨H1,Z1,g1,kv⟩:=hf h (by rw[he];simp) H (hg.chg (P:=P)) Z
  have hg1:=hg.trans g1 hg.size
  by_cases hn:f h=true
  ·refine⟨H1,Z1,g1,fun fr q f0 f1 f7 f8=>?_⟩
   rw[zI,zRU,hn,cond_true]
   simp only[zAY,zA f0,zA f1,zA f7,zA f8,zN,e1,zQ,p1,q1,zJ,kv,hn]
   rfl
  ·have hn':f h=false:=by simpa using hn
   obtain⟨H2,Z2,g2,k2⟩:=ih (pre++[h]) H1 Z1 m (by rw[he];simp) (by simp at hm;omega) hg1
   refine⟨H2,Z2,g1.trans g2 g1.size,fun fr q f0 f1 f7 f8=>?_⟩
   rw[zI,zRU,hn',cond_false]
   simp only[zAY,zA f0,zA f1,zA f7,zA f8,zN,e1,zQ,p1,q1,zJ,kv,hn',zO,ze,e3]
   rw[show pre.length+1=(pre++[h]).length by simp]
   exact k2 _ q (by simp[T.get_set]) (by simp[T.get_set]) (by simp[T.get_set]) (by simp[T.get_set])
theorem zIF (c:zC){N:Nat}(hN:9223372036854775807<=N)(f:CRow->Bool)(fv:V){P:Nat->Prop}{H:Heap}(hw:WF H)(hs:List CRow)(hl:hs.length<=1000000)(v:V)(hr:Rd H 1 v hs.length (hs.flatMap rpC))(hf:TstV c fv rpV f P H hs)(hP:zQt P H)(Z:Tape) :
  ∃ H' Z',Gr H.size H H'/\∀ q,zBi c N v fv H Z q=q (.int .i64 (zRU f hs 0)) H' Z':=by
 obtain⟨H',Z',g',k⟩:=zKB c N f fv hw hs hl v hr hf hP hs [] H Z N rfl (by omega) (Gr.refl hw)
 refine⟨H',Z',g',fun q=>?_⟩
 simp only[zBi,hr.pLen,zJ]
 exact k _ q (by simp[T.get_set]) (by simp[T.get_set]) (by simp[T.get_set]) (by simp[T.get_set])
abbrev zPb (c c':zC):Prop:=∀ (f:CRow->Bool) (fv:V) {P:Nat->Prop} {H:Heap},WF H->∀ (hs:List CRow),hs.length<=1000000->∀ v,Rd H 1 v hs.length (hs.flatMap rpC)->TstV c' fv rpV f P H hs->zQt P H->∀ Z,∃ H' Z',Gr H.size H H'/\∀ q,c zBj [v,fv] H Z q=q (.int .i64 (zRU f hs 0)) H' Z'
theorem zJY (c:zC)(N:Nat)(f:CRow->Bool)(fv:V){P:Nat->Prop}{H0:Heap}(hw0:WF H0)(hP:zQt P H0)(v:V)(n:Nat)(hn:n<=1000000)(hs:List CRow)(hf:TstV c fv rpV f P H0 hs) :
  ∀ (rest out mid:List CRow) (H:Heap) (Z:Tape) (m:Nat),(out++mid++rest).length=n->mid≠[]->(∀ x ∈ rest,x ∈ hs)->rest.length<m->Chg P H0 H->GenE P H rpC 1 v (out++mid++rest) ->
  ∃ H' Z' mid',mid'≠[]/\GenE P H' rpC 1 v (out++rest.filter (fun x=>!f x)++mid')/\Chg P H0 H' /\
   ∀ (fr:T V) k,fr.get 0=some v->fr.get 1=some fv->fr.get 5=some (.int .i64 (out.length:Int))->fr.get 6=some (.int .i64 ((out++mid).length:Int)) ->
    zAZ (zAM c N) m ⟨fr,H⟩ Z k=k (.exit 0) ⟨(T.s (T.s .leaf 0 v) 5 (.int .i64 ((out++rest.filter (fun x=>!f x)).length:Int))),H'⟩ Z':=by
 intro rest
 induction rest with
 | nil =>
  intro out mid H Z m hL hmid hsub hm hg ho
  obtain⟨m,rfl⟩:∃ j,m=j+1:=⟨m-1,by omega⟩
  refine⟨H,Z,mid,hmid,by simpa using ho,hg,fun fr k f0 f1 f5 f6=>?_⟩
  have e1:decide (((out++mid).length:Int)<(((out++mid).length:Nat):Int))=false:=decide_eq_false (by omega)
  have pl:pLen [v]=some (.int .i64 (((out++mid).length:Nat):Int)):=by have:=GenL.pLen ho;rwa [List.append_nil]at this
  rw[zI]
  simp only[zAM,zA f0,zA f1,zA f5,zA f6,pl,zJ,zN,e1,zO,seqK,List.filter_nil,List.append_nil]
 | cons x rest ih =>
  intro out mid H Z m hL hmid hsub hm hg ho
  obtain⟨m,rfl⟩:∃ j,m=j+1:=⟨m-1,by omega⟩
  have hw:=hg.wf
  have hlt:(out++mid).length<(out++mid++x::rest).length:=by simp
  have e1:decide (((out++mid).length:Int)<(((out++mid++x::rest).length:Nat):Int))=true:=decide_eq_true (by omega)
  have e3:wr .i64 (((out++mid).length:Int)+Int.ofNat 1)=(((out++mid).length+1:Nat):Int):=adI (by omega)
  obtain⟨id,o,p1,p2⟩:=Cells.at rpOk (v:=v) (out++mid) x rest (GenL.rd ho)
  have q1:=(p2 H (GenL.rd ho)).2 0 _ (rp0 x)
  rw[Nat.add_zero]at q1
  obtain⟨H3,Z3,g13,kv⟩:=hf x (hsub x (by simp)) H hg Z
  have hg3:Chg P H0 H3:=hg.trans g13.chg fun _ _ h=>h
  have ho3:GenE P H3 rpC 1 v (out++mid++x::rest):=GenL.gr ho hw g13
  by_cases hnm:f x=true
  ·have ed:(x::rest).filter (fun x=>!f x)=rest.filter (fun x=>!f x):=by rw[List.filter_cons,hnm];rfl
   rw[ed]
   obtain⟨H4,Z4,mid',q1',q2',q3',q4'⟩:=ih out (mid++[x]) H3 Z3 m (by rw[<- hL];simp) (by simp) (fun y hy=>hsub y (by simp[hy])) (by simp at hm;omega) hg3 (by simpa using ho3)
   refine⟨H4,Z4,mid',q1',q2',q3',fun fr k f0 f1 f5 f6=>?_⟩
   rw[zI]
   simp only[zAM,zA f0,zA f1,zA f5,zA f6,GenL.pLen ho,zJ,zN,e1,zQ,p1,q1,kv,hnm,zCQ,Bool.not_true,zO,zAx,zV,↓reduceIte,Nat.reduceEqDiff,ze,e3]
   exact q4' _ k (by simp[T.get_set]) (by simp[T.get_set]) (by simp[T.get_set]) (by simp[T.get_set];omega)
  ·have hnm':f x=false:=by simpa using hnm
   have ed:(x::rest).filter (fun x=>!f x)=x::rest.filter (fun x=>!f x):=by rw[List.filter_cons,hnm'];rfl
   rw[ed]
   obtain⟨y,mid1,rfl⟩:=List.exists_cons_of_ne_nil hmid
   rw[show out++(y::mid1)++x::rest=out++y::(mid1++x::rest)by simp]at ho3
   obtain⟨p,H4,w1,w2,w3,w4⟩:=GenE.set rpOk ho3 g13.wf x Z3
   have w2':=((eStore_one (v:=rpV x) rfl p H3 Z3).symm.trans (w2 1 rfl))
   have e4:wr .i64 ((out.length:Int)+Int.ofNat 1)=((out++[x]).length:Int):=by
    rw[adI (by have:=hL;simp at this;omega)];simp
   obtain⟨H5,Z5,mid',q1',q2',q3',q4'⟩:=ih (out++[x]) (mid1++[x]) H4 Z3 m (by rw[<- hL];simp <;> omega) (by simp) (fun y hy=>hsub y (by simp[hy])) (by simp at hm;omega) (hg3.trans w4 fun _ _ h=>h) (by simpa using w3)
   refine⟨H5,Z5,mid',q1',by simpa using q2',q3',fun fr k f0 f1 f5 f6=>?_⟩
   rw[zI]
   simp only[zAM,zA f0,zA f1,zA f5,zA f6,GenL.pLen ho,zJ,zN,e1,zQ,p1,q1,kv,hnm',zCQ,Bool.not_false,w1,w2',zh,ze,e4,zAx,zV,↓reduceIte,Nat.reduceEqDiff,e3]
   rw[show out++[x]++rest.filter (fun x=>!f x)=out++x::rest.filter (fun x=>!f x)by simp]at q4'
   exact q4' _ k (by simp[T.get_set]) (by simp[T.get_set]) (by simp[T.get_set]) (by simp[T.get_set];omega)
theorem zHT (c c':zC){N:Nat}(hN:9223372036854775807<=N)(hI:zPb c c')(f:CRow->Bool)(fv:V){P:Nat->Prop}{H:Heap}(hw:WF H)(hs:List CRow)(hl:hs.length<=1000000)(v:V)(hg:GenE P H rpC 1 v hs)(hf':TstV c' fv rpV f P H hs)(hf:TstV c fv rpV f P H hs)(hP:zQt P H)(Z:Tape) :
  ∃ w H' Z',GenE P H' rpC 1 w (hs.filter fun x=>!f x)/\Chg P H H'/\∀ q,zAm c N v fv H Z q=q w H' Z':=by
 obtain⟨H1,Z1,g1,k1⟩:=hI f fv hw hs hl v (GenL.rd hg) hf' hP Z
 have c1:Chg P H H1:=g1.chg
 rcases findP_spec f hs 0 with⟨h1,h2⟩ | ⟨a,h,r,h1,h2,h3,h4⟩
 ·rw[h1]at k1
  have e1:((-1:Int) == Int.negSucc 0)=true:=rfl
  have ed:(hs.filter fun x=>!f x)=hs:=List.filter_eq_self.2 fun x hx=>by rw[h2 x hx];rfl
  refine⟨v,H1,Z1,by rw[ed];exact GenL.gr hg hw g1,c1,fun q=>?_⟩
  simp only[zAm,k1,zAv,e1,zQ]
 ·rw[h4,Nat.zero_add]at k1
  have hal:a.length<hs.length:=by rw[h1];simp
  have e1:((a.length:Int) == Int.negSucc 0)=false:=by rw[beq_eq_false_iff_ne];intro h;have:(0:Int)<=(a.length:Int):=Int.natCast_nonneg _;rw[h]at this;exact absurd this (by decide)
  have e3:wr .i64 ((a.length:Int)+Int.ofNat 1)=((a++[h]).length:Int):=by rw[adI (by omega)];simp
  have ho1:GenE P H1 rpC 1 v (a++[h]++r):=by
   rw[show a++[h]++r=hs by rw[h1];simp];exact GenL.gr hg hw g1
  obtain⟨H2,Z2,mid,q1,q2,q3,q4⟩:=zJY c N f fv hw hP v hs.length hl hs hf r a [h] H1 Z1 N (by rw[h1];simp) (by simp) (fun x hx=>by rw[h1];simp[hx]) (by have:r.length<hs.length:=(by rw[h1];simp;omega);omega) c1 ho1
  have ed:(hs.filter fun x=>!f x)=a++r.filter fun x=>!f x:=by
   rw[h1,List.filter_append,List.filter_cons,h3]
   have:(a.filter fun x=>!f x)=a:=List.filter_eq_self.2 fun x hx=>by rw[h2 x hx];rfl
   rw[this];rfl
  rw[<- ed]at q2 q4
  have hmid:0<mid.length:=List.length_pos_iff.2 q1
  obtain⟨w,H3,v',m1,m2,m3,m4,m5,m6⟩:=GenE.clear rpOk q2 q3.wf (GenL.ne_nils q2 (by simp;omega)) [.nilp] rfl rfl Z2
  refine⟨v',H3,Z2,m5,q3.trans m6 fun _ _ h=>h,fun q=>?_⟩
  simp only[zAm,k1,zAv,e1,zO,ze,e3]
  rw[q4 _ _ (by simp[T.get_set]) (by simp[T.get_set]) (by simp[T.get_set]) (by simp[T.get_set])]
  simp only[zX,Nat.beq_refl,cond_true,seqK,zD4,zV,↓reduceIte,Nat.reduceEqDiff,m1,zJ,m2,zh,m3]
end Go.Am.X

namespace Go.Am.X
end Go.Am.X

namespace Go.Am.X
end Go.Am.X

namespace Go.Am.X
theorem someN:∃ N:Nat,9223372036854775807<N:=⟨9223372036854775808,by decide⟩
theorem primRV {N:Nat}{l:List Row}(hl:zMr PG l)(d f:Nat){Pre:List V->Prop}{g:List V->V}(hv:∀ vs H,Pre vs->VOk H (g vs))(h:∀ vs,Pre vs->∀ H,WF H->∀ Z,∃ H' Z',Gr H.size H H'/\∀ q,CR l N d f vs H Z q=q (g vs) H' Z'):∀ base w0,zCA PG base w0 f (outP (RV Pre g)):=by
 refine zOP zMi hl N d f ?_
 rintro vs H o hw hvs ⟨hp,rfl⟩ Z
 obtain⟨H',Z',g1,k1⟩:=h vs hp H hw Z
 exact⟨_,H',Z',k1 retK,g1,rfl,hv vs H hp⟩
abbrev IsP (c:zC)(f:Nat)(R:List V->Heap->Out->Prop):Prop:=∀ vs H Z q,c f vs H Z q=effK (outP R vs H Z) q
end Go.Am.X

namespace Go.Am.X
end Go.Am.X

namespace Go.Am.X
def LsH (H:Heap)(B:Nat)(v:V)(hs:List Hd):Prop:=Own H B 2 v hs.length (hcells hs)/\(hs=[]->v=.nils)
end Go.Am.X

namespace Go.Am.X
theorem primRH {N:Nat}{l:List Row}(hl:zMr PG l)(d f:Nat){Pre:List Hd->List V->Prop}{g:Bool->List Hd->List V->Out}(h:∀ hs args,Pre hs args->∀ lv H,WF H->RdH H lv hs->∀ Z,∃ v H' Z',Gr H.size H H'/\(g (isNil lv) hs args).Met H v H'/\∀ q,CR l N d f (lv::args) H Z q=q v H' Z'):∀ base w0,zCA PG base w0 f (outP (RH Pre g)):=by
 refine zOP zMi hl N d f ?_
 rintro vs H o hw hvs ⟨lv,args,hs,rfl,hr,hp,rfl⟩ Z
 obtain⟨v,H',Z',g1,hm,k1⟩:=h hs args hp lv H hw hr Z
 exact⟨_,H',Z',k1 retK,g1,hm⟩
theorem k_Set {c:zC}{f:Nat}{Pre:List Hd->List V->Prop}(h:IsP c f (RH Pre SetG)){hs:List Hd}{n v:Bs}(hp:Pre hs [.str n,.str v]){lv:V}{H:Heap}(hw:WF H)(hr:RdH H lv hs)(Z:Tape) :
  ∃ r H' Z',Gr H.size H H'/\(setE n v hs=0->LsH H' H.size r (setT n v hs))/\(setE n v hs≠0->r=.nils)/\∀ q,c f [lv,.str n,.str v] H Z q=q (.tup [r,.int .i64 (setE n v hs)]) H' Z':=by
 by_cases he:setE n v hs=0
 ·obtain⟨r,H',Z',h1,h2,h3,h4⟩:=RH_lst (v:=lv) (l:=[.str n,.str v]) h hr hp (if_pos he) hw (by rw[zMa]) Z
  refine⟨r,H',Z',h3,fun _=>⟨h1,fun e=>absurd e (setT_ne n v hs)⟩,fun h=>absurd he h,fun q=>?_⟩
  rw[h4,he]
 ·have h4:=fun q=>RH_val (v:=lv) (l:=[.str n,.str v]) h hr hp (if_neg he) Z q
  exact⟨.nils,H,Z,Gr.refl hw,fun h=>absurd h he,fun _=>rfl,h4⟩
end Go.Am.X

namespace Go.Am.X
def partV (x:UInt8)(s:Bs):V:=match cutB x s with | some (a,b)=>.tup [.str a,.str b,.bool true] | none=>.tup [.str s,.str [],.bool false]
theorem partV_vok (x:UInt8)(s:Bs)(H:Heap):VOk H (partV x s):=by
 unfold partV;split <;> exact⟨trivial,trivial,trivial,trivial⟩
abbrev intV (s:Bs):V:=.tup [.int .i64 (intB s).1,.bool (intB s).2]
abbrev IntR:=RS 9223372036854775806 intV
abbrev zTG:=RS 9223372036854775806 fun s=>.str (strip s)
end Go.Am.X

namespace Go.Am.X
theorem strs_vok (H:Heap)(ss:List Bs):VsOk H (ss.map V.str):=by
 induction ss with
 | nil=>trivial
 | cons h l ih=>exact⟨trivial,ih⟩
theorem strs_scal (ss:List Bs):(ss.map V.str).all V.scal=true:=by
 induction ss with
 | nil=>rfl
 | cons h l ih=>rw[List.map_cons,List.all_cons,ih];rfl
def LsS (H:Heap)(B:Nat)(v:V)(ss:List Bs):Prop:=Own H B 1 v ss.length (ss.map V.str)/\(ss=[]->v=.nils)
theorem LsS.nil (H:Heap)(B:Nat):LsS H B .nils []:=⟨Own.nil _ _ _,fun _=>rfl⟩
theorem LsS.put {H:Heap}{B:Nat}{v:V}{ss:List Bs}(h:LsS H B v ss)(hw:WF H)(hB:B<=H.size)(x:Bs)(hn:ss.length<=4294967296)(Z:Tape) :
  ∃ w H1 v' H' Z',zP 1 1 [(.str [])] [(0,1)] [.str x] H Z=some (w,H1,Z)/\zq 1 16 [v,w] H1 Z=some (v',H',Z')/\LsS H' B v' (ss++[x])/\Gr B H H':=by
 obtain⟨w,H1,v',H',r1,r2,r3,r4,_⟩:=h.1.push (bytes:=16) hw hB (.str x) (.str []) rfl rfl (by omega) (by omega) Z
 refine⟨w,H1,v',H',Z.tail,r1,r2,⟨by simpa using r3,fun h=>by simp at h⟩,r4⟩
theorem LsS.got {H:Heap}{B:Nat}{v:V}{ss:List Bs}(h:LsS H B v ss):Got H B 1 v ss.length (ss.map V.str):=h.1.apd.got
theorem LsS.met {H H':Heap}{v:V}{ss:List Bs}{mk:V->V}(h:LsS H' H.size v ss)(hmk:MkOk mk)(hnil:VOk H (mk .nils)):(lstO 1 ss.length (ss.map V.str) mk).Met H (mk v) H' :=
 Got.met h.got (fun h0=>h.2 (List.eq_nil_of_length_eq_zero h0)) hmk (strs_vok _ _) hnil
abbrev getV (name:Bs)(hs:List Hd):V:=.tup [.str (getT name hs),.bool (decide (0<(sel name hs).length))]
theorem k_Get {c:zC}{f:Nat}(h:IsP c f (RH zNf GetG)){hs:List Hd}(hS:Small hs){name:Bs}(hm:name.length<=140737488355328){lv:V}{H:Heap}(hr:RdH H lv hs)(Z:Tape)(q:KV):c f [lv,.str name] H Z q=q (getV name hs) H Z :=
 RH_val (l:=[.str name]) h hr ⟨hS,hm⟩ rfl Z q
theorem splitF_len:∀ (n:Nat) (s:Bs),s.length<=n->∀ (q:Bool) (cur:Bs),(zt q cur s).1.length<=s.length:=by
 intro n
 induction n with
 | zero =>
  intro s hn q cur
  obtain rfl:=List.eq_nil_of_length_eq_zero (by omega:s.length=0)
  simp[zt]
 | succ n ih =>
  intro s hn q cur
  cases s with
  | nil=>simp[zt]
  | cons x r =>
   have hr:r.length<=n:=by simp at hn;omega
   by_cases c34:x=34
   ·rw[zOB q cur r c34];have:=ih r hr (!q) (cur++[x]);simp;omega
   ·cases q with
    | true =>
     by_cases c92:x=92
     ·cases r with
      | nil=>rw[zQP cur c34 c92];simp
      | cons y r'=>rw[zQD cur y r' c34 c92];have:=ih r' (by simp at hr;omega) true (cur++[x,y]);simp;omega
     ·rw[zRc cur r c34 c92];have:=ih r hr true (cur++[x]);simp;omega
    | false =>
     by_cases c44:x=44
     ·rw[zNn cur r c34 c44];have:=ih r hr false [];simp;omega
     ·rw[zP7 cur r c34 c44];have:=ih r hr false (cur++[x]);simp;omega
theorem piecesB_len (s:Bs):(zLR s).length<=s.length+1:=by
 unfold zLR
 have:=splitF_len s.length s nl false []
 simp;omega
abbrev SplitG (_:Bool)(hs:List Hd):List V->Out | [.str name]=>lstO 1 (zBw name hs).length ((zBw name hs).map V.str) (fun v=>.tup [v,.bool (decide (0<(sel name hs).length))]) | _=>.val (.tup [])
theorem zN7:∀ base w0,zCA PG base w0 zA0 (outP (RH zNf SplitG)):=by
 refine zP3 6 _ ?_
 rintro vs H o hw hvs ⟨v,l,hs,rfl,⟨h1,h2⟩,hp,rfl⟩ Z
 unfold zNf at hp
 split at hp
 ·rename_i name
  by_cases h0:0<(sel name hs).length
  ·obtain⟨v',H',Z',k1,_,k2,k3⟩:=zRM nb 6 (by omega) name hp.2 hp.1 v H hw h1 Z
   refine⟨_,H',Z',k3 retK,k2,?_⟩
   have eT:zBw name hs=zLR (getT name hs):=if_pos h0
   exact LsS.met ⟨k1,fun h=>by rw[eT]at h;simp[zLR]at h⟩ (mkOk_bool _) ⟨trivial,trivial,trivial⟩
  ·have e0:decide (0<(sel name hs).length)=false:=decide_eq_false h0
   have eT:zBw name hs=[]:=if_neg h0
   obtain⟨H',Z',g,k⟩:=d20' nb 5 (by omega) name hp.2 hp.1 v H hw h1 Z
   refine⟨.tup [.nils,.bool false],H',Z',?_,g,?_⟩
   ·show zC8 (C NB 5) NB v (.str name) H Z retK=_
    simp only[zC8,k,zV,↓reduceIte,Nat.reduceEqDiff,zJ,zh,retK,zCs,zD5,zBP,zCa,zCo,zS,cond_true,cond_false,zQ,zO,zAv,zEF,zN,zBk,zAV,zBa,zCQ,Bool.not_true,Bool.not_false,zAs,zAF,zQ3,zQ0,zQx,zQy,zRC,zQ9,zPm,zQB,zQz,zQu,ext0,ext1,zQv,zQ4,zRB,ze,zCn,decide_true,decide_false,e0]
   ·show(lstO 1 (zBw name hs).length ((zBw name hs).map V.str) (fun v=>V.tup [v,.bool (decide (0<(sel name hs).length))])).Met H _ H'
    rw[eT,e0];exact⟨rfl,trivial,trivial,trivial⟩
 ·exact hp.elim
theorem k_Split {c:zC}{f:Nat}(h:IsP c f (RH zNf SplitG)){hs:List Hd}(hS:Small hs){name:Bs}(hm:name.length<=140737488355328){lv:V}{H:Heap}(hw:WF H)(hr:RdH H lv hs)(Z:Tape) :
  ∃ v' H' Z',Own H' H.size 1 v' (zBw name hs).length ((zBw name hs).map V.str)/\Gr H.size H H'/\∀ q,c f [lv,.str name] H Z q=q (.tup [v',.bool (decide (0<(sel name hs).length))]) H' Z' :=
 RH_lstO (l:=[.str name]) h hr ⟨hS,hm⟩ rfl hw (by simp) Z
end Go.Am.X

namespace Go.Am.X
abbrev zSZ (c:zC):Prop:=∀ {hs:List Hd},Small hs->∀ {name:Bs},name.length<=140737488355328->∀ {lv:V} {H:Heap},RdH H lv hs->∀ (Z:Tape) (q:KV),c zAS [lv,.str name] H Z q=q (.tup [.str (getT name hs),.bool (decide (0<(sel name hs).length))]) H Z
def okV (ask:List Hd)(x:Vry):Bool:=decide (getT x.1 ask=x.2.1) && decide (decide (0<(sel x.1 ask).length)=x.2.2)
def zJe (url:Bs)(ask:List Hd)(r:CRow):Bool:=decide (r.url=url) && r.vs.all (okV ask)
theorem sneq (a b:Bs):zHf .neq a b=some (.bool (!decide (a=b))):=by rw[zSd];congr 2;rw[Bool.eq_iff_iff];simp
theorem l_meant (c:zC)(N:Nat)(hG:zSZ c){ask:List Hd}(hsm:Small ask){av:V}{b:Nat}(vs:List Vry)(hvl:vs.length<=1000000)(hnl:∀ x ∈ vs,x.1.length<=140737488355328)(v:V){H0:Heap}(hw0:WF H0)(hr:Rd H0 3 v vs.length (vs.flatMap vaC))(hb:H0.cells? b=some [av])(ha:RdH H0 av ask) :
  ∀ (l pre:List Vry) (H:Heap) (Z:Tape) (m:Nat),vs=pre++l->l.length<m->Gr H0.size H0 H ->
  ∃ H' Z',Gr H0.size H0 H'/\∀ (fr:T V) k,fr.get 2=some (.ptr b 0)->fr.get 18=some v->fr.get 19=some (.int .i64 (vs.length:Int))->fr.get 20=some (.int .i64 (pre.length:Int)) ->
   zAZ (zCX c N) m ⟨fr,H⟩ Z k=if l.all (okV ask)=true then k (.exit 0) ⟨.leaf,H'⟩ Z' else k .ret ⟨(T.s .leaf 4 (.bool false)),H'⟩ Z':=by
 intro l
 induction l with
 | nil =>
  intro pre H Z m he hm hg
  obtain⟨m,rfl⟩:∃ j,m=j+1:=⟨m-1,by omega⟩
  have e1:decide ((pre.length:Int)<(vs.length:Int))=false:=decide_eq_false (by rw[he];simp)
  refine⟨H,Z,hg,fun fr k f2 f18 f19 f20=>?_⟩
  rw[zI,if_pos (by rfl)]
  simp only[zCX,zA f2,zA f18,zA f19,zA f20,zN,e1,zO]
  rfl
 | cons x l ih =>
  intro pre H Z m he hm hg
  obtain⟨m,rfl⟩:∃ j,m=j+1:=⟨m-1,by omega⟩
  have hw:=hg.wf
  have hlt:pre.length<vs.length:=by rw[he];simp
  have e1:decide ((pre.length:Int)<(vs.length:Int))=true:=decide_eq_true (by omega)
  have e3:wr .i64 ((pre.length:Int)+Int.ofNat 1)=((pre++[x]).length:Int):=by rw[adI (by omega)];simp
  have hrH:=hr.gr hg hw0 nl
  obtain⟨id,o,p1,p2⟩:=Cells.at vaOk (v:=v) pre x l (H:=H) (by rw[<- he];exact hrH)
  obtain⟨q1,_⟩:=p2 H (by rw[<- he];exact hrH)
  obtain⟨H1,H2,a1,s1,b2,g2,lt2⟩:=boxN hw 3 [(.str []),(.str []),(.bool false)] (vaC x) rfl rfl (by omega) rfl Z
  have hg2:=hg.trans (g2.weaken hg.size) nl
  have la:zM [.ptr b 0] H2=some av:=zR (hg2.cells hw0 nl hb) rfl
  have l0:zM [.ptr H.size (0+0)] H2=some (.str x.1):=zR b2.cells rfl
  have l1:zM [.ptr H.size (0+1)] H2=some (.str x.2.1):=zR b2.cells rfl
  have l2:zM [.ptr H.size (0+2)] H2=some (.bool x.2.2):=zR b2.cells rfl
  have kG:=hG hsm (hnl x (by rw[he];simp)) (ha.gr hg2 hw0 nl) Z
  have x0:∀ a b:V,zH 0 [.tup [a,b]]=some a:=fun _ _=>rfl
  have x1:∀ a b:V,zH 1 [.tup [a,b]]=some b:=fun _ _=>rfl
  have eb:∀ a b:Bool,pEq true .bool [.bool a,.bool b]=some (.bool (!decide (a=b))):=fun a b=>by cases a <;> cases b <;> rfl
  cases hok:okV ask x with
  | true =>
   obtain⟨H',Z',r1,r2⟩:=ih (pre++[x]) H2 Z m (by rw[he];simp) (by simp at hm;omega) hg2
   refine⟨H',Z',r1,fun fr k f2 f18 f19 f20=>?_⟩
   unfold okV at hok
   rw[Bool.and_eq_true]at hok
   rw[zI,List.all_cons]
   simp only[zCX,zA f2,zA f18,zA f19,zA f20,zN,e1,zQ,p1,q1,zJ,a1,zh,s1,la,zF,l0,l1,l2,kG,x0,x1,zAs,sneq,hok.1,Bool.not_true,zD5,retK,eb,hok.2,zS,cond_false,zO,ze,e3]
   rw[show okV ask x=true from by unfold okV;rw[hok.1,hok.2];rfl,Bool.true_and]
   exact r2 _ k (by simp[T.get_set]) (by simp[T.get_set]) (by simp[T.get_set]) (by simp[T.get_set])
  | false =>
   refine⟨H2,Z,hg2,fun fr k f2 f18 f19 f20=>?_⟩
   rw[zI,List.all_cons,hok,Bool.false_and,if_neg (by decide)]
   unfold okV at hok
   cases h1:decide (getT x.1 ask=x.2.1)with
   | false =>
    simp only[zCX,zA f2,zA f18,zA f19,zA f20,zN,e1,zQ,p1,q1,zJ,a1,zh,s1,la,zF,l0,l1,l2,kG,x0,x1,zAs,sneq,h1,Bool.not_false,zCa,zCo,zS,cond_true]
    rfl
   | true =>
    rw[h1,Bool.true_and]at hok
    simp only[zCX,zA f2,zA f18,zA f19,zA f20,zN,e1,zQ,p1,q1,zJ,a1,zh,s1,la,zF,l0,l1,l2,kG,x0,x1,zAs,sneq,h1,Bool.not_true,zD5,retK,eb,hok,Bool.not_false,zS,cond_false,cond_true,zQ]
    rfl
theorem zO6 (c:zC){N:Nat}(hN:9223372036854775807<=N)(hG:zSZ c){ask:List Hd}(hsm:Small ask){av:V}{a b:Nat}{url:Bs}{D:Nat->Prop}{r:CRow}{H:Heap}(hw:WF H)(hr:RowM D H r)(hvl:r.vs.length<=1000000)(hnl:∀ x ∈ r.vs,x.1.length<=140737488355328)
  (hu:H.cells? a=some [.str url]) (hb:H.cells? b=some [av]) (ha:RdH H av ask) (Z:Tape) :
  ∃ H' Z',Gr H.size H H'/\∀ q,zFt c N (rpV r) (.ptr a 0) (.ptr b 0) H Z q=q (.bool (zJe url ask r)) H' Z':=by
 have nck:zBB [rpV r]=some (.ptr r.id 0):=rfl
 have l0:zM [.ptr r.id 0] H=some (.str r.url):=zR hr.bx.bx.cells rfl
 have l1:zM [.ptr r.id 1] H=some r.vv:=zR hr.bx.bx.cells rfl
 have lu:zM [.ptr a 0] H=some (.str url):=zR hu rfl
 by_cases h:r.url=url
 ·obtain⟨H',Z',g,k⟩:=l_meant c N hG hsm r.vs hvl hnl r.vv hw hr.vs.rd hb ha r.vs [] H Z N rfl (by omega) (Gr.refl hw)
  refine⟨H',Z',g,fun q=>?_⟩
  have pl:=hr.vs.rd.pLen
  unfold zJe
  rw[decide_eq_true h,Bool.true_and]
  simp only[zFt,nck,zF,Nat.add_zero,Nat.zero_add,zJ,l0,lu,zAs,sneq,decide_eq_true h,Bool.not_true,zO,l1,pl]
  rw[k _ _ (by simp[T.get_set]) (by simp[T.get_set]) (by simp[T.get_set]) (by simp[T.get_set])]
  cases ho:r.vs.all (okV ask)with
  | true=>rw[if_pos rfl];simp only[zX,Nat.beq_refl,cond_true,seqK,zLJ]
  | false=>rw[if_neg (by decide)];simp only[zX,seqK,endK];rfl
 ·refine⟨H,Z,Gr.refl hw,fun q=>?_⟩
  unfold zJe
  rw[decide_eq_false h,Bool.false_and]
  simp only[zFt,nck,zF,Nat.add_zero,Nat.zero_add,zJ,l0,lu,zAs,sneq,decide_eq_false h,Bool.not_false,zQ]
theorem zQN (c:zC)(N:Nat){a:Nat}{x r:CRow}{cs ds:List V}{H:Heap}(ha:H.cells? a=some [rpV x])(hx:BxT H x.id cs)(hr:BxT H r.id ds)(Z:Tape)(q:KV):zEt c N (rpV r) (.ptr a 0) H Z q=q (.bool (decide (x.id=r.id))) H Z:=by
 have l0:zM [.ptr a 0] H=some (rpV x):=zR ha rfl
 have e:lPeq false [rpV x,rpV r] H=some (.bool (decide (x.id=r.id))):=ptr_eq hx hr
 simp only[zEt,l0,zJ,e]
theorem zK2 (c:zC)(N:Nat){a:Nat}{url:Bs}{D:Nat->Prop}{r:CRow}{H:Heap}(hr:RowM D H r)(ha:H.cells? a=some [.str url])(Z:Tape)(q:KV):zD7 c N (rpV r) (.ptr a 0) H Z q=q (.bool (decide (r.url=url))) H Z:=by
 have nck:zBB [rpV r]=some (.ptr r.id 0):=rfl
 have l0:zM [.ptr r.id 0] H=some (.str r.url):=zR hr.bx.bx.cells rfl
 have lu:zM [.ptr a 0] H=some (.str url):=zR ha rfl
 have se:zHf .eql r.url url=some (.bool (decide (r.url=url))):=(zFU _ _).trans (by congr 2;rw[Bool.eq_iff_iff];simp)
 simp only[zD7,nck,zF,Nat.add_zero,zJ,l0,lu,zAs,se]
end Go.Am.X

namespace Go.Am.X
structure CacM (P D:Nat->Prop) (H:Heap) (c:Nat) (rows:List CRow) (puts:Int):Prop where
 bx:∃ v,Bx H c [v,.int .i64 puts]/\GenE P H rpC 1 v rows
 mem:∀ r ∈ rows,RowM D H r
 sep:∀ i,P i->¬ D i
 pl:∀ i,P i->i<H.size
 dl:∀ i,D i->i<H.size
 pc:¬ P c
 dc:¬ D c
 pr:∀ r ∈ rows,¬ P r.id/\¬ D r.id/\r.id≠c
theorem zE6 {H H':Heap}{id:Nat}{cs:List V}(h:Bx H id cs)(hw:WF H)(hg:Gr H.size H H'):Bx H' id cs:=h.gr hg (h.lt hw)
theorem same_genC {P:Nat->Prop}{H:Heap}{z:Nat}{v:V}{m:Nat}{cs:List V}(h:GenL P H z v m cs):same v v=true:=by
 rcases h with⟨rfl,_⟩ | ⟨_,_,ex,_,rfl,_⟩
 ·rfl
 ·cases ex <;> simp[same,zS9,zKv]
abbrev DelC (c c' c'':zC):Prop:=∀ (f:CRow->Bool) (fv:V) {P:Nat->Prop} {H:Heap},WF H->∀ (hs:List CRow),hs.length<=1000000->∀ v,GenE P H rpC 1 v hs->TstV c' fv rpV f P H hs->TstV c'' fv rpV f P H hs->zQt P H->∀ Z,∃ w H' Z',GenE P H' rpC 1 w (hs.filter fun x=>!f x)/\Chg P H H'/\∀ q,c zo [v,fv] H Z q=q w H' Z'
abbrev Use1Ok (c:zC):Prop:=∀ {a:Nat} {x r:CRow} {cs ds:List V} {H:Heap},H.cells? a=some [rpV x]->BxT H x.id cs->BxT H r.id ds->∀ Z q,c zAy [rpV r,.ptr a 0] H Z q=q (.bool (decide (x.id=r.id))) H Z
def useT (x:CRow)(rows:List CRow):List CRow:=(rows.filter fun r=>!decide (x.id=r.id))++[x]
theorem zNp (cc c' c'':zC)(N:Nat)(hD:DelC cc c' c'')(h1:Use1Ok c')(h1':Use1Ok c''){P D:Nat->Prop}{H:Heap}{c:Nat}{rows:List CRow}{puts:Int}(hc:CacM P D H c rows puts)(hw:WF H)(hl:rows.length<=1000)(x:CRow)(hx:RowM D H x)(hxp:¬ P x.id)(hxd:¬ D x.id)(hxc:x.id≠c)(Z:Tape) :
  ∃ P' H' Z',CacM P' D H' c (useT x rows) puts/\(∀ i,i<H.size->P' i->P i)/\Chg (fun i=>P i∨i=c) H H'/\∀ q,zF1 cc N (.ptr c 0) (rpV x) H Z q=q (.tup []) H' Z':=by
 obtain⟨v,hb,hg⟩:=hc.bx
 have hcl:=hb.lt hw
 have hxl:=hx.bx.bx.lt hw
 have e0:eBox [rpV x] H Z=some (.ptr H.size 0,H.new [rpV x] 1 true,Z):=rfl
 have g1:=Gr.new hw [rpV x] 1 true
 have b1:Bx (H.new [rpV x] 1 true) H.size [rpV x]:=Bx.new H _ 1 true (by simp)
 have z1:(H.new [rpV x] 1 true).size=H.size+1:=rfl
 generalize H.new [rpV x] 1 true=H1 at e0 g1 b1 z1
 let P1:Nat->Prop:=fun i=>P i∨H1.size<=i
 have hP1:zQt P1 H1:=fun i hi=>.inr hi
 have na:¬ P1 H.size:=fun h=>h.elim (fun h=>by have:=hc.pl _ h;omega) (fun h=>by omega)
 have nc:¬ P1 c:=fun h=>h.elim hc.pc (fun h=>by omega)
 have nx:¬ P1 x.id:=fun h=>h.elim hxp (fun h=>by omega)
 have nr:∀ r ∈ rows,¬ P1 r.id:=fun r hr h=>h.elim (hc.pr r hr).1 (fun h=>by have:=(hc.mem r hr).bx.bx.lt hw;omega)
 have sepD:∀ i,P1 i->¬ D i:=fun i h hd=>h.elim (fun h=>hc.sep i h hd) (fun h=>by have:=hc.dl i hd;omega)
 have c1:=zE6 hb hw g1
 have x1:=hx.chg hw (g1.chg (P:=fun _=>False)) (fun _ _ _=>not_false) not_false
 have r1:∀ r ∈ rows,RowM D H1 r:=fun r hr=>(hc.mem r hr).chg hw (g1.chg (P:=fun _=>False)) (fun _ _ _=>not_false) not_false
 have hg1:GenE P1 H1 rpC 1 v rows:=GenL.gr (GenL.weaken hg hw (fun i _ h=>.inl h)) hw g1
 have l1:zM [.ptr c 0] H1=some v:=zR c1.cells rfl
 have la:∀ {Hh},Chg P1 H1 Hh->Hh.cells? H.size=some [rpV x]:=fun hh=>(b1.chg g1.wf hh na).cells
 have tst:∀ {c':zC},Use1Ok c'->TstV c' (.func zAy [] [.ptr H.size 0]) rpV (fun r=>decide (x.id=r.id)) P1 H1 rows:=fun h1 r hr Ha hh τa =>
  ⟨Ha,τa,Gr.refl hh.wf,fun q=>h1 (la hh) (x1.bx.chg g1.wf hh nx) ((r1 r hr).bx.chg g1.wf hh (nr r hr)) τa q⟩
 obtain⟨w,H3,Z3,d1,d2,d3⟩:=hD (fun r=>decide (x.id=r.id)) (.func zAy [] [.ptr H.size 0]) g1.wf rows (by omega) v hg1 (tst h1) (tst h1') hP1 Z
 have c3:=c1.chg g1.wf d2 nc
 have l3:zM [.ptr H.size 0] H3=some (rpV x):=zR (la d2) rfl
 have l1a:zM [.ptr H.size 0] H1=some (rpV x):=zR b1.cells rfl
 have l3c:zM [.ptr c 0] H3=some v:=zR c3.cells rfl
 have hfl:(rows.filter fun r=>!decide (x.id=r.id)).length<=rows.length:=List.length_filter_le _ _
 have bs:zP 1 1 [.nilp] [(0,1)] [rpV x] H3 Z3=some (.sl H3.size 0 1 1 none 1,H3.new (rpC x) 1 false,Z3):=rfl
 obtain⟨w',H5,Z5,a1,a2,a3,a4⟩:=GenE.put rpOk (bytes:=8) d1 d2.wf (fun i hi=>hP1 i (Nat.le_trans d2.size hi)) x (by omega) (by omega) Z3 false
 have c5:=c3.chg d2.wf a3 nc
 obtain⟨H6,f1,f2,f3⟩:=c5.eStore a3.wf 0 w' 1 (by rw[(GenL.scal a2).1];rfl) (by simp) (by omega) (by rw[(GenL.scal a2).1];simp[(GenL.scal a2).2]) Z5
 have f2':Bx H6 c [w',.int .i64 puts]:=by rw[(GenL.scal a2).1]at f2;exact f2
 have o6:Chg (fun i=>i=c) H5 H6:=f3.chg (P:=fun i=>i=c) rfl
 have d6:GenE P1 H6 rpC 1 w' (useT x rows):=GenL.chg a2 a3.wf o6 (fun i _ h e=>nc (e ▸ h))
 have s15:Chg (fun i=>P1 i∨i=c) H1 H6:=((d2.weaken (fun i _ h=>.inl h)).trans a3 (fun i _ h=>.inl h)).trans o6 (fun i _ h=>.inr h)
 have q16:Chg (fun i=>P i∨i=c) H H6:=(g1.chg (P:=fun i=>P i∨i=c)).trans s15 fun i hi h=>h.elim (fun h=>h.elim .inl (fun h=>by have:=g1.size;omega)) .inr
 have hc0:zBX [H1,H3,H3.new (rpC x) 1 false,H5,H6] (((.load none),[.ptr H.size 0],0,1)::(((.load none),[.ptr c 0],0,1)::[]))=true:=by
  simp[zBX,zHL,zPE,l1a,l3,l1,l3c,chk1,same_genC hg,show same (rpV x) (rpV x)=true from by simp[same,zS9,zKv,rpV]]
 have nck:zBB [.ptr c 0]=some (.ptr c 0):=rfl
 have ef:V.func zAy (List.take 0 [V.ptr H.size 0]) (List.drop 0 [V.ptr H.size 0])=.func zAy [] [.ptr H.size 0]:=rfl
 have mem:∀ r ∈ useT x rows,RowM D H1 r/\¬ P1 r.id/\¬ D r.id/\r.id≠c:=fun r hr=>by
  rcases List.mem_append.1 hr with hr | hr
  ·have hr:=(List.mem_filter.1 hr).1
   exact⟨r1 r hr,nr r hr,(hc.pr r hr).2⟩
  ·rw[List.mem_singleton.1 hr];exact⟨x1,nx,hxd,hxc⟩
 have h6:H.size<=H6.size:=Nat.le_trans g1.size s15.size
 refine⟨fun i=>P1 i/\i<H6.size,H6,Z5,⟨⟨w',f2',GenL.weaken d6 f3.wf (fun i hi h=>⟨h,hi⟩)⟩,fun r hr=>?_,fun i h=>sepD i h.1,fun i h=>h.2,fun i h=>Nat.lt_of_lt_of_le (hc.dl i h) h6,fun h=>nc h.1,hc.dc,fun r hr=>?_⟩,fun i hi h=>h.1.elim (fun h=>h) (fun h=>by omega),q16,fun q=>?_⟩
 ·obtain⟨m1,m2,m3,m4⟩:=mem r hr
  exact m1.chg g1.wf s15 (fun i _ hd h=>h.elim (fun h=>sepD i h hd) (fun h=>hc.dc (h ▸ hd))) (fun h=>h.elim m2 m4)
 ·obtain⟨m1,m2,m3,m4⟩:=mem r hr
  exact⟨fun h=>m2 h.1,m3,m4⟩
 ·simp only[zF1,e0,zh,nck,zF,Nat.add_zero,zJ,l1,ef,d3,l3,bs,a1,f1,hc0,cond_true]
end Go.Am.X

namespace Go.Am.X
abbrev UseOk (cc:zC):Prop:=∀ {P D:Nat->Prop} {H:Heap} {c:Nat} {rows:List CRow} {puts:Int},CacM P D H c rows puts->WF H->rows.length<=1000->∀ (x:CRow),RowM D H x->¬ P x.id->¬ D x.id->x.id≠c->∀ Z,
  ∃ P' H' Z',CacM P' D H' c (useT x rows) puts/\(∀ i,i<H.size->P' i->P i)/\Chg (fun i=>P i∨i=c) H H'/\∀ q,cc zCz [.ptr c 0,rpV x] H Z q=q (.tup []) H' Z'
def CRow.put (x:CRow)(now ord:Int):CRow:={ x with sto:=now,ord:=ord }
def storeT (x:CRow)(now ord:Int)(rows:List CRow):List CRow:=(rows.filter fun r=>!decide (x.id=r.id))++[x.put now ord]
def updR (x:CRow)(r:CRow):CRow:=if r.id=x.id then x else r
theorem upd_cells (x:CRow)(rows:List CRow):(rows.map (updR x)).flatMap rpC=rows.flatMap rpC:=by
 induction rows with
 | nil=>rfl
 | cons r l ih =>
  rw[List.map_cons,List.flatMap_cons,List.flatMap_cons,ih]
  congr 1
  unfold updR
  split
  ·rename_i h;simp[rpC,rpV,h]
  ·rfl
theorem upd_use (x:CRow)(now ord:Int)(rows:List CRow):useT (x.put now ord) (rows.map (updR (x.put now ord)))=storeT x now ord rows:=by
 unfold useT storeT
 congr 1
 induction rows with
 | nil=>rfl
 | cons r l ih =>
  rw[List.map_cons,List.filter_cons,List.filter_cons,ih]
  by_cases h:x.id=r.id
  ·have e:(updR (x.put now ord) r).id=x.id:=by unfold updR;rw[if_pos (show r.id=(x.put now ord).id from h.symm)];rfl
   rw[if_neg (by rw[e];simp[CRow.put]),if_neg (by simp[h])]
  ·have e:updR (x.put now ord) r=r:=by unfold updR;rw[if_neg (show ¬ r.id=(x.put now ord).id from fun e=>h e.symm)]
   rw[e,if_pos (by simp[CRow.put,h]),if_pos (by simp[h])]
theorem zMM (cc:zC)(N:Nat)(hU:UseOk cc){P D:Nat->Prop}{H:Heap}{c:Nat}{rows:List CRow}{puts:Int}(hc:CacM P D H c rows puts)(hw:WF H)(hl:rows.length<=1000)(hp0:0<=puts)(hp1:puts<4611686018427387904)(x:CRow)(hx:RowM D H x)(hxp:¬ P x.id)(hxd:¬ D x.id)(hxc:x.id≠c)(now:Int)(Z:Tape) :
  ∃ P' H' Z',CacM P' D H' c (storeT x now (puts+1) rows) (puts+1)/\(∀ i,i<H.size->P' i->P i)/\Chg (fun i=>P i∨i=c∨i=x.id) H H'/\∀ q,zEn cc N (.ptr c 0) (rpV x) (.int .i64 now) H Z q=q (.tup []) H' Z':=by
 obtain⟨v,hb,hg⟩:=hc.bx
 have l0:zM [.ptr c 1] H=some (.int .i64 puts):=zR hb.cells rfl
 have e1:wr .i64 (puts+Int.ofNat 1)=puts+1:=by rw[zEE (by have:Int.ofNat 1=1:=rfl;omega) (by have:Int.ofNat 1=1:=rfl;omega)];rfl
 obtain⟨H1,a1,a2,a3⟩:=hb.eStore hw 1 (.int .i64 (puts+1)) 1 rfl (by simp) (by omega) rfl Z
 have a2':Bx H1 c [v,.int .i64 (puts+1)]:=a2
 have l1:zM [.ptr c 1] H1=some (.int .i64 (puts+1)):=zR a2'.cells rfl
 have b1:=hx.bx.only a3 hxc
 obtain⟨H2,c1,c2,c3⟩:=b1.eStore a3.wf 5 (.int .i64 now) 1 rfl (by simp[CRow.cells]) (by omega) rfl Z
 have c2':BxT H2 x.id [.str x.url,x.vv,.int .i64 x.st,x.hv,x.bv,.int .i64 now,.int .i64 x.ord]:=c2
 obtain⟨H3,d1,d2,d3⟩:=c2'.eStore c3.wf 6 (.int .i64 (puts+1)) 1 rfl (by simp) (by omega) rfl Z
 have d2':BxT H3 x.id (x.put now (puts+1)).cells:=d2
 have o1:Chg (fun i=>i=c∨i=x.id) H H1:=a3.chg (P:=fun i=>i=c∨i=x.id) (.inl rfl)
 have o2:Chg (fun i=>i=c∨i=x.id) H1 H2:=c3.chg (P:=fun i=>i=c∨i=x.id) (.inr rfl)
 have o3:Chg (fun i=>i=c∨i=x.id) H2 H3:=d3.chg (P:=fun i=>i=c∨i=x.id) (.inr rfl)
 have o13:Chg (fun i=>i=c∨i=x.id) H H3:=(o1.trans o2 fun _ _ h=>h).trans o3 fun _ _ h=>h
 have hs3:H3.size=H.size:=by rw[d3.size,c3.size,a3.size]
 have x3:RowM D H3 (x.put now (puts+1)):=⟨d2',hx.vs.chg hw o13 (fun i _ hd h=>h.elim (fun h=>hc.dc (h ▸ hd)) (fun h=>hxd (h ▸ hd))),hx.hs.chg hw o13 (fun i _ hd h=>h.elim (fun h=>hc.dc (h ▸ hd)) (fun h=>hxd (h ▸ hd))),hx.bd.chg hw o13 (fun i _ hd h=>h.elim (fun h=>hc.dc (h ▸ hd)) (fun h=>hxd (h ▸ hd)))⟩
 have c3':Bx H3 c [v,.int .i64 (puts+1)]:=(a2'.only c3 (Ne.symm hxc)).only d3 (Ne.symm hxc)
 have g3:GenE P H3 rpC 1 v rows:=GenL.chg hg hw o13 (fun i _ hp h=>h.elim (fun h=>hc.pc (h ▸ hp)) (fun h=>hxp (h ▸ hp)))
 have cm:CacM P D H3 c (rows.map (updR (x.put now (puts+1)))) (puts+1):=by
  refine⟨⟨v,c3',?_⟩,fun r hr=>?_,hc.sep,fun i h=>by rw[hs3];exact hc.pl i h,fun i h=>by rw[hs3];exact hc.dl i h,hc.pc,hc.dc,fun r hr=>?_⟩
  ·unfold GenE
   rw[List.length_map,upd_cells];exact g3
  ·obtain⟨r0,h0,rfl⟩:=List.mem_map.1 hr
   unfold updR
   split
   ·exact x3
   ·rename_i hne
    exact(hc.mem r0 h0).chg hw o13 (fun i _ hd h=>h.elim (fun h=>hc.dc (h ▸ hd)) (fun h=>hxd (h ▸ hd))) (fun h=>h.elim (hc.pr r0 h0).2.2 hne)
  ·obtain⟨r0,h0,rfl⟩:=List.mem_map.1 hr
   unfold updR
   split
   ·exact⟨hxp,hxd,hxc⟩
   ·exact hc.pr r0 h0
 obtain⟨P',H4,Z4,u1,u2,u3,u4⟩:=hU cm d3.wf (by rw[List.length_map];exact hl) (x.put now (puts+1)) x3 hxp hxd hxc Z
 rw[upd_use]at u1
 have nck:zBB [.ptr c 0]=some (.ptr c 0):=rfl
 have nckx:zBB [rpV x]=some (.ptr x.id 0):=rfl
 refine⟨P',H4,Z4,u1,fun i hi=>u2 i (by rw[hs3];exact hi),(o13.weaken (fun i _ h=>.inr h)).trans u3 (fun i _ h=>h.elim .inl (fun h=>.inr (.inl h))),fun q=>?_⟩
 have u4':∀ q,cc zCz [.ptr c 0,rpV x] H3 Z q=q (.tup []) H4 Z4:=u4
 simp only[zEn,nck,zF,Nat.add_zero,Nat.zero_add,zJ,l0,ze,e1,a1,zh,l1,nckx,c1,d1,u4']
end Go.Am.X

namespace Go.Am.X
def digF:Nat->Nat->Bs->Bs
 | 0,_,acc=>acc
 | f+1,n,acc=>bif Nat.blt 0 n || acc.isEmpty then digF f (n / 10) (UInt8.ofNat (48+n % 10)::acc)else acc
def dig (n:Nat):Bs:=digF 8 n []
def Dgs (s:Bs):Prop:=∀ x ∈ s,48<=x.toNat/\x.toNat<=57
theorem dgt (r:Nat)(h:r<10):(UInt8.ofNat (48+r)).toNat=48+r:=by
 rw[UInt8.toNat_ofNat'];omega
theorem digF_ok:∀ (f n:Nat) (acc:Bs),Dgs acc->(acc≠[]∨0<f)->Dgs (digF f n acc)/\digF f n acc≠[]/\(digF f n acc).length<=acc.length+f:=by
 intro f
 induction f with
 | zero=>intro n acc h1 h2;exact⟨h1,by rcases h2 with h | h;exact h;omega,by simp[digF]⟩
 | succ f ih =>
  intro n acc h1 h2
  rw[digF]
  cases hb:(Nat.blt 0 n || acc.isEmpty)with
  | true =>
   rw[cond_true]
   have hr:=dgt (n % 10) (Nat.mod_lt _ (by omega))
   obtain⟨a,b,c⟩:=ih (n / 10) (UInt8.ofNat (48+n % 10)::acc) (fun x hx=>by
    rcases List.mem_cons.1 hx with rfl | hx
    ·rw[hr];omega
    ·exact h1 x hx) (.inl (by simp))
   exact⟨a,b,by simp only[List.length_cons]at c;omega⟩
  | false =>
   rw[cond_false]
   exact⟨h1,fun e=>by rw[e]at hb;simp at hb,by omega⟩
theorem dig_slice:∀ r,r<10->zw true true [.str (bs [48,49,50,51,52,53,54,55,56,57]),.int .i64 ((r:Nat):Int),.int .i64 ((r+1:Nat):Int)]=some (.str [UInt8.ofNat (48+r)]):=by
 intro r hr
 rw[zJ7 (by omega) (by simp[bs];omega)]
 match r,hr with
 | 0,_ | 1,_ | 2,_ | 3,_ | 4,_ | 5,_ | 6,_ | 7,_ | 8,_ | 9,_=>rfl
end Go.Am.X

namespace Go.Am.X
abbrev CutPre:List V->Prop | [.str s,.str [_]]=>s.length<9223372036854775807 | _=>False
abbrev CutG:List V->V | [.str s,.str [x]]=>partV x s | _=>.tup []
abbrev CutR:=RV CutPre CutG
theorem zSt:∀ base w0,zCA PG base w0 zDe (outP CutR):=by
 refine zP3 4 _ ?_
 rintro vs H o hw hvs ⟨hp,rfl⟩ Z
 unfold CutPre at hp;split at hp
 ·rename_i s x
  exact⟨_,H,Z,zTI nb 4 (by omega) x s hp H Z retK,Gr.refl hw,rfl,partV_vok x s H⟩
 ·exact hp.elim
abbrev RCutOk (c:zC):Prop:=∀ (s:Bs) (x:UInt8),s.length<9223372036854775807->∀ H Z q,c zDe [.str s,.str [x]] H Z q=q (partV x s) H Z
theorem zTL {c:zC}(h:IsP c zDe CutR):RCutOk c:=fun s x hs H Z q=>RV_call h (vs:=[.str s,.str [x]]) hs H Z q
theorem zRw:∀ base w0,zCA PG base w0 zEy (outP IntR):=primS 1 _ _ _ (fun _ _=>⟨trivial,trivial,trivial⟩) fun s hs H hw Z=>⟨H,Z,Gr.refl hw,fun q=>d_infra_Int nb 1 (by omega) s (by omega) H Z q⟩
abbrev NIntOk (c:zC):Prop:=∀ (s:Bs),s.length<=9223372036854775806->∀ H Z q,c zEy [.str s] H Z q=q (intV s) H Z
theorem zRh {c:zC}(h:IsP c zEy IntR):NIntOk c:=fun s hs H Z q=>callS h s hs H Z q
theorem zPV:∀ base w0,zCA PG base w0 zBu (outP zTG):=primS 4 _ _ _ (fun _ _=>trivial) fun s hs H hw Z=>by
 obtain⟨H',Z',g,k⟩:=d42' nb 4 (by omega) s (by omega) H hw Z
 exact⟨H',Z',g,k⟩
abbrev zSa (c:zC):Prop:=∀ (s:Bs),s.length<=9223372036854775806->∀ H Z q,c zBu [.str s] H Z q=q (.str (strip s)) H Z
theorem zPv {c:zC}(h:IsP c zBu zTG):zSa c:=fun s hs H Z q=>callS h s hs H Z q
theorem cutB_len (x:UInt8):∀ (s a b:Bs),cutB x s=some (a,b)->a.length+b.length+1=s.length:=by
 intro s a b h
 have:=((zRJ x s).2 a b h).1
 rw[this];simp;omega
abbrev NLowOk (c:zC):Prop:=∀ (s:Bs),s.length<=140737488355328->∀ H Z q,c zBD [.str s] H Z q=q (.str (lower s)) H Z
theorem zPn {c:zC}(h:IsP c zBD LowR):NLowOk c:=fun s hs H Z q=>callS h s hs H Z q
end Go.Am.X

namespace Go.Am.X
abbrev CloneOk (c:zC):Prop:=∀ {v n cs H},WF H->Rd H 1 v n cs->Src H v->n<=140737488355328->∀ Z,∃ v' H' Z',BodP (fun i=>H.size<=i) H' v' n cs/\Gr H.size H H'/\∀ q,c zEk [v] H Z q=q v' H' Z'
theorem zMd (c:zC)(N:Nat){v:V}{n:Nat}{cs:List V}{H:Heap}(hw:WF H)(hr:Rd H 1 v n cs)(hs:Src H v)(hn:n<=140737488355328)(Z:Tape) :
  ∃ v' H' Z',BodP (fun i=>H.size<=i) H' v' n cs/\Gr H.size H H'/\∀ q,zDD c N v H Z q=q v' H' Z':=by
 by_cases hv:v=.nils
 ·subst hv
  have h0:n=0/\cs=[]:=by
   rcases hr with⟨_,h1,h2⟩ | ⟨_,_,_,_,_,h,_⟩
   ·exact⟨h1,h2⟩
   ·cases h
  obtain⟨rfl,rfl⟩:=h0
  refine⟨.nils,H,Z,BodP.nil _ _,Gr.refl hw,fun q=>?_⟩
  have e:pEq false .slice [.nils,.nils]=some (.bool true):=rfl
  simp only[zDD,e,zV,↓reduceIte,Nat.reduceEqDiff,zJ,zh,retK,zCs,zD5,zBP,zCa,zCo,zS,cond_true,cond_false,zQ,zO,zAv,zEF,zN,zBk,zAV,zBa,zCQ,Bool.not_true,Bool.not_false,zAs,zAF,zQ3,zQ0,zQx,zQy,zRC,zQ9,zPm,zQB,zQz,zQu,ext0,ext1,zQv,zQ4,zRB,ze,zCn,decide_true,decide_false]
 ·have e:pEq false .slice [v,.nils]=some (.bool false):=by
   rcases hr with⟨rfl | ⟨id,off,lo,ex,rfl⟩,_,_⟩ | ⟨id,off,lo,ex,all,rfl,_⟩
   ·exact absurd rfl hv
   ·rfl
   ·rfl
  obtain⟨v',H',Z',r1,r2,r3⟩:=clone1 hw hr hs hn Z
  have eb:zP 0 1 [] [] [] H Z=some (.sl H.size 0 0 0 none 1,H.new [] 0 false,Z):=rfl
  exact⟨v',H',Z',r2,r3,fun q=>by simp only[zDD,e,zV,↓reduceIte,Nat.reduceEqDiff,zJ,zh,retK,zCs,zD5,zBP,zCa,zCo,zS,cond_true,cond_false,zQ,zO,zAv,zEF,zN,zBk,zAV,zBa,zCQ,Bool.not_true,Bool.not_false,zAs,zAF,zQ3,zQ0,zQx,zQy,zRC,zQ9,zPm,zQB,zQz,zQu,ext0,ext1,zQv,zQ4,zRB,ze,zCn,decide_true,decide_false,eb,r1]⟩
theorem fa_ptr (i o k:Nat):zF k [.ptr i o]=some (.ptr i (o+k)):=rfl
end Go.Am.X

namespace Go.Am.X
abbrev ClnHOk (c:zC):Prop:=∀ (hs:List Hd),hs.length<=1000000->∀ (v:V) (H:Heap),WF H->Rd H 2 v hs.length (hcells hs)->Src H v->∀ Z,∃ v' H' Z',Apd H' H.size 2 v' hs.length (hcells hs)/\(v'=.nils ↔ v=.nils)/\Gr H.size H H'/\∀ q,c zA3 [v] H Z q=q v' H' Z'
theorem rd_same {H:Heap}{z:Nat}{v:V}{n:Nat}{cs:List V}(h:Rd H z v n cs):same v v=true/\v.cells=[v]/\v.scal=true:=by
 rcases h with⟨rfl | ⟨_,_,_,ex,rfl⟩,_⟩ | ⟨_,_,_,ex,_,rfl,_⟩
 ·exact⟨rfl,rfl,rfl⟩
 ·refine⟨?_,rfl,rfl⟩;cases ex <;> simp[same,zS9,zKv]
 ·refine⟨?_,rfl,rfl⟩;cases ex <;> simp[same,zS9,zKv]
theorem zP2 (c:zC)(N:Nat)(hC:ClnHOk c)(hB:CloneOk c)(st:Int)(hs:List Hd)(hl:hs.length<=1000000)(bd:List V)(hbl:bd.length<=100000000){hv bv:V}{H:Heap}(hw:WF H)(hr:RdH H hv hs)(br:Rd H 1 bv bd.length bd)(bsr:Src H bv)(Z:Tape) :
  ∃ hv' bv' H' Z' m,H.size<=m/\m<=H'.size/\GenL (fun i=>H.size<=i/\i<m) H' 2 hv' hs.length (hcells hs)/\BodP (fun i=>m<=i/\i<H'.size) H' bv' bd.length bd/\Gr H.size H H'/\∀ q,zI0 c N (.agg [.int .i64 st,hv,bv]) H Z q=q (.agg [.int .i64 st,hv',bv']) H' Z':=by
 have e0:eBox [.agg [.int .i64 st,hv,bv]] H Z=some (.ptr H.size 0,H.new [.int .i64 st,hv,bv] 3 true,Z):=rfl
 have g1:=Gr.new hw [.int .i64 st,hv,bv] 3 true
 have b1:Bx (H.new [.int .i64 st,hv,bv] 3 true) H.size [.int .i64 st,hv,bv]:=Bx.new H _ 3 true (by simp)
 have z1:(H.new [.int .i64 st,hv,bv] 3 true).size=H.size+1:=rfl
 generalize H.new [.int .i64 st,hv,bv] 3 true=H1 at e0 g1 b1 z1
 have e1:zB2 [(.int .i64 (.ofNat 0)),.nils,.nils] [] H1 Z=some (.ptr H1.size 0,H1.new [(.int .i64 (.ofNat 0)),.nils,.nils] 3 true,Z):=rfl
 have g2:=Gr.new g1.wf [(.int .i64 (.ofNat 0)),.nils,.nils] 3 true
 have b2:Bx (H1.new [(.int .i64 (.ofNat 0)),.nils,.nils] 3 true) H1.size [(.int .i64 (.ofNat 0)),.nils,.nils]:=Bx.new H1 _ 3 true (by simp)
 have z2:(H1.new [(.int .i64 (.ofNat 0)),.nils,.nils] 3 true).size=H1.size+1:=rfl
 generalize H1.new [(.int .i64 (.ofNat 0)),.nils,.nils] 3 true=H2 at e1 g2 b2 z2
 have g12:=g1.trans g2 g1.size
 have y2:Bx H2 H.size [.int .i64 st,hv,bv]:=zE6 b1 g1.wf g2
 have l2:zM [.ptr H.size (0+1)] H2=some hv:=zR y2.cells rfl
 have l2b:zM [.ptr H.size (0+2)] H2=some bv:=zR y2.cells rfl
 have r2:=hr.gr g12 hw nl
 obtain⟨v',H3,Z3,a1,_,g3,k3⟩:=hC hs hl hv H2 g2.wf r2.1 r2.2 Z
 have g13:=g12.trans g3 g12.size
 have y3:=zE6 y2 g2.wf g3
 have x3:=zE6 b2 g2.wf g3
 have l3:zM [.ptr H.size (0+2)] H3=some bv:=zR y3.cells rfl
 obtain⟨w',H4,Z4,c1,g4,k4⟩:=hB g3.wf (br.gr g13 hw nl) (bsr.gr g13 hw nl) (by omega) Z3
 have y4:=zE6 y3 g3.wf g4
 have x4:=zE6 x3 g3.wf g4
 have d3:GenL (fun i=>H2.size<=i/\i<H3.size) H3 2 v' hs.length (hcells hs):=(GenL.apd a1).weaken g3.wf fun i hi h=>⟨h,hi⟩
 have d4:=d3.gr g3.wf g4
 have c4:BodP (fun i=>H3.size<=i/\i<H4.size) H4 w' bd.length bd:=c1.weaken g4.wf fun i hi h=>⟨h,hi⟩
 obtain⟨sv1,sv2⟩:=d4.scal
 obtain⟨sw1,sw2⟩:=c4.scal
 obtain⟨H5,s1,s2,s3⟩:=y4.eStore g4.wf 1 v' 1 (by rw[sv1];rfl) (by simp) (by omega) (by rw[sv1];simp[sv2]) Z4
 have s2':Bx H5 H.size [.int .i64 st,v',bv]:=by rw[sv1]at s2;exact s2
 obtain⟨H6,t1,t2,t3⟩:=s2'.eStore s3.wf 2 w' 1 (by rw[sw1];rfl) (by simp) (by omega) (by rw[sw1];simp[sw2]) Z4
 have t2':Bx H6 H.size [.int .i64 st,v',w']:=by rw[sw1]at t2;exact t2
 have hne:H1.size≠H.size:=by omega
 have x6:=(x4.only s3 hne).only t3 hne
 have l6:zBA 3 [.ptr H.size 0] H6=some (.agg [.int .i64 st,v',w']):=zAw t2'.cells (by simp)
 obtain⟨H7,u1,u2,u3⟩:=x6.eStore t3.wf 0 (.agg [.int .i64 st,v',w']) 3 rfl (by simp) (by omega) (by show(true && (v'.scal && (w'.scal && true)))=true;rw[sv2,sw2];rfl) Z4
 have u2':Bx H7 H1.size [.int .i64 st,v',w']:=u2
 have l7:zBA 3 [.ptr H1.size 0] H7=some (.agg [.int .i64 st,v',w']):=zAw u2'.cells (by simp)
 let Q:Nat->Prop:=fun i=>i=H.size∨i=H1.size
 have o47:Chg Q H4 H7:=((s3.chg (P:=Q) (.inl rfl)).trans (t3.chg (P:=Q) (.inl rfl)) fun _ _ h=>h).trans (u3.chg (P:=Q) (.inr rfl)) fun _ _ h=>h
 have hs7:H7.size=H4.size:=by rw[u3.size,t3.size,s3.size]
 have h23:=g3.size
 have h34:=g4.size
 have hc:zBX [H2,H3,H4,H5,H6] (((.load none),[.ptr H.size (0+2)],0,1)::[])=true:=by
  simp only[Nat.zero_add]at l2b l3
  simp[zBX,zHL,zPE,l2b,l3,chk1,(rd_same br).1]
 have hres:results ⟨(T.s .leaf 2 (.ptr H1.size 0)),H7⟩ [(.cell 2 (some 3))]=some (.agg [.int .i64 st,v',w']):=by
  simp only[results,zMG,zRY,T.get_set_same,zHL,zPE,l7]
 refine⟨v',w',H7,Z4,H3.size,by omega,by omega,(d4.chg g4.wf o47 (fun i _ h k=>k.elim (fun e=>by omega) (fun e=>by omega))).weaken u3.wf (fun i _ h=>⟨by omega,h.2⟩),(c4.chg g4.wf o47 (fun i _ h k=>k.elim (fun e=>by omega) (fun e=>by omega))).weaken u3.wf (fun i _ h=>⟨h.1,by omega⟩),?_,fun q=>?_⟩
 ·have g14:=g13.trans g4 g13.size
  exact g14.trans (o47.gr (by omega) (fun i hi h=>h.elim (fun e=>by omega) (fun e=>by omega))) nl
 ·simp only[zI0,e0,e1,zh,zF,zJ,l2,k3,l3,k4,s1,t1,hc,cond_true,l6,u1,hres]
end Go.Am.X

namespace Go.Am.X
theorem zPy (v:Bs):(strip v).length<=v.length:=zHB _ _
end Go.Am.X

