/- The abstract machine, printed functions of the program, and what they are shown to be. -/
import Derived.Test.YtejpgcemblankaaGreatDoorCFRL8
import Derived.Test.YtejpgcemblankaaGreatDoorCFRL5
import Derived.Test.YtejpgcemblankaaGreatDoorCFRM4
set_option linter.unusedSimpArgs false
set_option linter.unusedVariables false
set_option linter.unusedSectionVars false
set_option maxRecDepth 100000
namespace Go.Am.X
abbrev ccN:Bs:=[67,97,99,104,101,45,67,111,110,116,114,111,108]
abbrev CcOkU (cc:zC):Prop:=∀ (s:Bs) (H:Heap) (Z:Tape) (q:KV),cc zOO [.str s] H Z q=q (.sl H.size 0 1 1 none 2) (H.new [.str ccN,.str s] 2 false) Z
theorem body_cells {H:Heap}{v:V}{n:Nat}{cs:List V}(h:Rd H 1 v n cs):v=.nils∨∃ id off lo ex,v=.sl id off n lo ex 1:=by
 rcases h with⟨rfl | ⟨id,off,lo,ex,rfl⟩,rfl,_⟩ | ⟨id,off,lo,ex,all,rfl,_⟩
 ·exact .inl rfl
 ·exact .inr ⟨id,off,lo,ex,rfl⟩
 ·exact .inr ⟨id,off,lo,ex,rfl⟩
end Go.Am.X

namespace Go.Am.X
end Go.Am.X

namespace Go.Am.X
end Go.Am.X

namespace Go.Am.X
set_option maxHeartbeats 1000000
theorem newvC {H:Heap}(hw:WF H)(zs:List V)(u:V)(n:Nat)(hz:zs.length=n)(hn:u.cells.length=n)(hn0:0<n)(hs:u.cells.all V.scal=true)(Z:Tape) :
  ∃ H1 H',zB2 zs [] H Z=some (.ptr H.size 0,H1,Z)/\eStore n [.ptr H.size 0,u] H1 Z=some (.tup [],H',Z)/\Bx H' H.size u.cells/\Gr H.size H H'/\H'.size=H.size+1:=by
 have g1:=Gr.new hw zs zs.length true
 have x1:Bx (H.new zs zs.length true) H.size zs:=Bx.new H _ _ _ nl
 obtain⟨H',s1,s2,s3⟩:=x1.eStore g1.wf 0 u n hn (by omega) hn0 hs Z
 refine⟨_,H',rfl,s1,?_,g1.trans (s3.gr nl) nl,s3.size⟩
 have:zs.drop (0+n)=[]:=List.drop_eq_nil_of_le (by omega)
 rw[this]at s2
 simpa using s2
end Go.Am.X

namespace Go.Am.X
theorem l_word17 (c:zC)(N:Nat)(s:Bs)(hs:s.length<=9223372036854775807) :
  ∀ (l pre out:Bs),s=pre++l->out.length<=1+pre.length->pre.length<=20->∃ w:Bs,w.length<=21/\∀ (fr:T V) (H:Heap) (Z:Tape) (m:Nat) k,l.length<m->fr.get 0=some (.str s)->fr.get 3=some (.str out)->fr.get 4=some (.int .i64 (pre.length:Int)) ->
  zAZ (zCL c N) m ⟨fr,H⟩ Z k=k (.exit 0) ⟨(T.s .leaf 3 (.str w)),H⟩ Z:=by
 intro l
 induction l with
 | nil =>
  intro pre out he ho hp
  refine⟨out,by omega,fun fr H Z m k hm f0 f3 f4=>?_⟩
  obtain⟨m,rfl⟩:∃ j,m=j+1:=⟨m-1,by omega⟩
  have e1:decide ((pre.length:Int)<(s.length:Int))=false:=decide_eq_false (by rw[he];simp)
  rw[zI]
  simp only[zCL,zA f0,zA f3,zA f4,zAF,zJ,zN,e1,zBP,zCo,zS,cond_false,zO]
  rfl
 | cons x l ih =>
  intro pre out he ho hp
  have hl:pre.length<s.length:=by rw[he];simp
  have e1:decide ((pre.length:Int)<(s.length:Int))=true:=decide_eq_true (by omega)
  have e2:zL [.str s,.int .i64 (pre.length:Int)]=some (.int .u8 (x.toNat:Int)):=zC6 (by rw[he];simp)
  have e3:wr .i64 ((pre.length:Int)+Int.ofNat 1)=((pre++[x]).length:Int):=by
   rw[zEE (by simp;omega) (by simp;omega)];simp
  by_cases h20:pre.length<20
  ·have e4:decide ((pre.length:Int)<Int.ofNat 20)=true:=decide_eq_true (by have:Int.ofNat 20=20:=rfl;omega)
   have hcut:zw true true [.str s,.int .i64 (pre.length:Int),.int .i64 ((pre++[x]).length:Int)]=some (.str [x]):=by
    rw[zJ7 (by simp) (by rw[he];simp)]
    congr 2
    rw[he,List.length_append,show pre++x::l=(pre++[x])++l by simp,List.take_left' (by simp)]
    simp
   have lp:(pre++[x]).length=pre.length+1:=by simp
   have ea:zHf .add out [x]=some (.str (out++[x])):=str_add (by simp;omega)
   have fin:∀ (out':Bs),out'.length<=1+(pre++[x]).length->∃ w:Bs,w.length<=21/\∀ (fr':T V) (H:Heap) (Z:Tape) (m:Nat) k,l.length<m->fr'.get 0=some (.str s)->fr'.get 3=some (.str out')->fr'.get 4=some (.int .i64 (pre.length:Int)) ->
     zHr c N (seqK (fun st Z=>zAZ (zCL c N) m st Z k) k) ⟨fr',H⟩ Z=k (.exit 0) ⟨(T.s .leaf 3 (.str w)),H⟩ Z:=by
    intro out' ho'
    obtain⟨w,h1,h2⟩:=ih (pre++[x]) out' (by rw[he];simp) ho' (by omega)
    refine⟨w,h1,fun fr' H Z m k hm g0 g3 g4=>?_⟩
    simp only[zHr,zA g0,zA g3,zA g4,ze,e3]
    exact h2 _ H Z m k hm (by simp[T.get_set]) (by simp[T.get_set]) (by simp[T.get_set])
   by_cases h97:97<=x.toNat
   ·have e5:decide (Int.ofNat 97<=(x.toNat:Int))=true:=decide_eq_true (by have:Int.ofNat 97=97:=rfl;omega)
    by_cases h122:x.toNat<=122
    ·have e6:decide ((x.toNat:Int)<=Int.ofNat 122)=true:=decide_eq_true (by have:Int.ofNat 122=122:=rfl;omega)
     obtain⟨w,h1,h2⟩:=fin (out++[x]) (by simp;omega)
     refine⟨w,h1,fun fr H Z m k hm f0 f3 f4=>?_⟩
     obtain⟨m,rfl⟩:∃ j,m=j+1:=⟨m-1,by omega⟩
     rw[zI]
     simp only[zCL,zA f0,zA f3,zA f4,zAF,zJ,zN,e1,zCs,retK,zh,e4,zS,cond_true,zQ,e2,zBa,e5,zBk,e6,ze .i64,e3,hcut,zAs,ea]
     exact h2 _ H Z m k (by simp at hm;omega) (by simp[T.get_set]) (by simp[T.get_set]) (by simp[T.get_set])
    ·have e6:decide ((x.toNat:Int)<=Int.ofNat 122)=false:=decide_eq_false (by have:Int.ofNat 122=122:=rfl;omega)
     obtain⟨w,h1,h2⟩:=fin out (by omega)
     refine⟨w,h1,fun fr H Z m k hm f0 f3 f4=>?_⟩
     obtain⟨m,rfl⟩:∃ j,m=j+1:=⟨m-1,by omega⟩
     rw[zI]
     simp only[zCL,zA f0,zA f3,zA f4,zAF,zJ,zN,e1,zCs,retK,zh,e4,zS,cond_true,zQ,e2,zBa,e5,zBk,e6,cond_false,zO]
     exact h2 _ H Z m k (by simp at hm;omega) (by simp[T.get_set]) (by simp[T.get_set]) (by simp[T.get_set])
   ·have e5:decide (Int.ofNat 97<=(x.toNat:Int))=false:=decide_eq_false (by have:Int.ofNat 97=97:=rfl;omega)
    obtain⟨w,h1,h2⟩:=fin out (by omega)
    refine⟨w,h1,fun fr H Z m k hm f0 f3 f4=>?_⟩
    obtain⟨m,rfl⟩:∃ j,m=j+1:=⟨m-1,by omega⟩
    rw[zI]
    simp only[zCL,zA f0,zA f3,zA f4,zAF,zJ,zN,e1,zCs,retK,zh,e4,zS,cond_true,zQ,e2,zBa,e5,zBP,zCo,cond_false,zO]
    exact h2 _ H Z m k (by simp at hm;omega) (by simp[T.get_set]) (by simp[T.get_set]) (by simp[T.get_set])
  ·have e4:decide ((pre.length:Int)<Int.ofNat 20)=false:=decide_eq_false (by have:Int.ofNat 20=20:=rfl;omega)
   refine⟨out,by omega,fun fr H Z m k hm f0 f3 f4=>?_⟩
   obtain⟨m,rfl⟩:∃ j,m=j+1:=⟨m-1,by omega⟩
   rw[zI]
   simp only[zCL,zA f0,zA f3,zA f4,zAF,zJ,zN,e1,zCs,retK,zh,e4,zS,cond_true,cond_false,zO]
   rfl
theorem zQ2 (c:zC){N:Nat}(hN:9223372036854775807<N)(s:Bs)(hs:s.length<=9223372036854775807):∃ w:Bs,w.length<=21/\∀ H Z q,zLE c N (.str s) H Z q=q (.str w) H Z:=by
 obtain⟨w,h1,h2⟩:=l_word17 c N s hs s [] (bs [119]) rfl (by decide) (by simp)
 refine⟨w,h1,fun H Z q=>?_⟩
 simp only[zLE]
 rw[h2 _ H Z N _ (by omega) (by simp[T.get_set]) (by simp[T.get_set]) (by simp[T.get_set])]
 simp only[zX,Nat.beq_refl,cond_true,seqK,zN3,zV,↓reduceIte]
abbrev alN:Bs:=[97,99,99,101,112,116,45,108,97,110,103,117,97,103,101]
abbrev ALN:Bs:=[65,99,99,101,112,116,45,76,97,110,103,117,97,103,101]
abbrev vryN:Bs:=[86,97,114,121]
def hsV (l:Bs):List Hd:=[(ccN,[109,97,120,45,97,103,101,61]++l),(vryN,ALN)]
def okV' (n:Nat):Bool:=!(zA8 (hsV (dig n))).1 && !(zA8 (hsV (dig n))).2.1 && decide ((zA8 (hsV (dig n))).2.2=Int.ofNat n)
theorem okV_run:(List.range 901).all okV'=true:=by kernel_rfl
theorem okV_at {n:Nat}(hn:n<=900):(zA8 (hsV (dig n))).1=false/\(zA8 (hsV (dig n))).2.1=false/\(zA8 (hsV (dig n))).2.2=n:=by
 have h:=List.all_eq_true.1 okV_run n (List.mem_range.2 (by omega))
 unfold okV' at h
 rw[Bool.and_eq_true,Bool.and_eq_true]at h
 obtain⟨⟨h2,h3⟩,h4⟩:=h
 exact⟨by simpa using h2,by simpa using h3,by simpa using h4⟩
theorem ageV (l:Bs)(t:Nat)(ht:t<=1500):ageT (hsV l) 100 (100+(t:Int))=t:=by
 have e:(intB (strip (getT zKh (hsV l)))).1=0:=by kernel_rfl
 unfold ageT
 rw[e]
 unfold zNx addT zMH zDq
 by_cases h:t=0
 ·subst h;rfl
 ·rw[if_neg (by omega),if_neg (by omega),if_neg (by omega),if_neg (by omega),if_neg (by omega)];omega
theorem freshV {n:Nat}(hn:n<=900){t:Nat}(ht:t<=1500):zM1 (hsV (dig n)) 100 (100+(t:Int))=decide (t<n):=by
 obtain⟨_,h3,h4⟩:=okV_at hn
 unfold zM1
 rw[ageV _ t ht,h3,h4]
 simp
theorem selV (l:Bs):(sel etagN (hsV l)).length=0/\(sel lastN (hsV l)).length=0:=by constructor <;> kernel_rfl
theorem varyV (l:Bs):(zBw zQI (hsV l)).contains [42]=false/\zHJ (hsV l)=[alN]:=by constructor <;> kernel_rfl
theorem smallV {n:Nat}(hn:n<=900):Small (hsV (dig n)):=⟨by simp[hsV],fun h hh=>by
 have:=zTH n
 simp only[hsV,List.mem_cons,List.not_mem_nil,or_false]at hh
 rcases hh with rfl | rfl
 ·simp;omega
 ·simp⟩
theorem smallA {a w:Bs}(ha:a.length<=20)(h:w.length<=21):Small [(a,w)]:=⟨by simp,fun x hx=>by
 rw[List.mem_singleton.1 hx];exact⟨by show a.length<=_;omega,by show w.length<=_;omega⟩⟩
theorem zRj (w:Bs):(zA8 [(alN,w)]).1=false/\(zA8 [(alN,w)]).2.1=false/\(zA8 [(ALN,w)]).1=false/\(zA8 [(ALN,w)]).2.1=false:=by
 refine⟨?_,?_,?_,?_⟩ <;> kernel_rfl
theorem vryA (w:Bs):vryT [(alN,w)] alN=(alN,w,true)/\vryT [(ALN,w)] alN=(alN,w,true):=by
 have s1:sel alN [(alN,w)]=[w]:=by kernel_rfl
 have s2:sel alN [(ALN,w)]=[w]:=by kernel_rfl
 have j:zPN [44,32] [w]=w:=List.append_nil w
 constructor
 ·unfold vryT getT;rw[s1,j];rfl
 ·unfold vryT getT;rw[s2,j];rfl
end Go.Am.X

namespace Go.Am.X
section
variable {N:Nat} (hN:9223372036854775808<N)
include hN
end
end Go.Am.X

namespace Go.Am.X
section
variable {N:Nat} (hN:9223372036854775808<N)
include hN
end
end Go.Am.X

namespace Go.Am.X
end Go.Am.X

namespace Go.Am.X
end Go.Am.X

namespace Go.Am.X
end Go.Am.X

namespace Go.Am.X
set_option maxHeartbeats 1000000
abbrev DrpOkCc (cc:zC):Prop:=∀ {P D:Nat->Prop} {H:Heap} {c:Nat} {rows:List CRow} {puts:Int},CacM P D H c rows puts->WF H->rows.length<=1000->∀ (url:Bs) Z,
  ∃ P' H' Z',CacM P' D H' c (rows.filter fun r=>!decide (r.url=url)) puts/\(∀ i,i<H.size->P' i->P i)/\Chg (fun i=>P i∨i=c) H H'/\∀ q,cc zDa [.ptr c 0,.str url] H Z q=q (.int .i64 ((rows.length-(rows.filter fun r=>!decide (r.url=url)).length:Nat):Int)) H' Z'
theorem meantV {x:CRow}{lang other:Bs}(h:x.vs=[vryT [(alN,lang)] alN])(hu:x.url=[117]):zJe [117] [(alN,lang)] x=true/\zJe [117] [(ALN,other)] x=decide (lang=other):=by
 have a:=(vryA lang).1
 have b:=(vryA lang).1
 have c:=(vryA other).2
 unfold vryT at a b c
 have g1:getT alN [(alN,lang)]=lang:=(congrArg (fun z=>z.2.1) a)
 have g2:getT alN [(ALN,other)]=other:=(congrArg (fun z=>z.2.1) c)
 have n1:decide (0<(sel alN [(alN,lang)]).length)=true:=(congrArg (fun z=>z.2.2) a)
 have n2:decide (0<(sel alN [(ALN,other)]).length)=true:=(congrArg (fun z=>z.2.2) c)
 unfold zJe
 rw[h,hu,(vryA lang).1]
 constructor
 ·simp only[List.all_cons,List.all_nil,okV,g1,n1];simp
 ·simp only[List.all_cons,List.all_nil,okV,g2,n2]
  rw[Bool.eq_iff_iff]
  simp[eq_comm]
theorem findV {x:CRow}{lang other:Bs}(h:x.vs=[vryT [(alN,lang)] alN])(hu:x.url=[117]):zNU [117] [(alN,lang)] [x]=some x/\zNU [117] [(ALN,other)] [x]=(if lang=other then some x else none)/\zNU [118] [(alN,lang)] [x]=none:=by
 obtain⟨m1,m2⟩:=meantV (lang:=lang) (other:=other) h hu
 refine⟨?_,?_,?_⟩
 ·unfold zNU
  rw[(zRj lang).1,if_neg (by decide)]
  simp[zQT,m1]
 ·unfold zNU
  rw[(zRj other).2.2.1,if_neg (by decide)]
  by_cases e:lang=other <;> simp[zQT,m2,e]
 ·unfold zNU
  rw[(zRj lang).1,if_neg (by decide)]
  have:zJe [118] [(alN,lang)] x=false:=by unfold zJe;rw[hu];simp
  simp[zQT,this]
theorem dat1 {H:Heap}(a w:Bs):DatP (fun i=>i=H.size) (H.new [.str a,.str w] 2 false) 2 (.sl H.size 0 1 1 none 2) 1 (hcells [(a,w)]):=by
 obtain⟨room,ver,pl,st,fr,h1,h2,h3,_⟩:=Bx.new H [.str a,.str w] 2 false (by simp)
 exact .inr ⟨H.size,0,1,none,_,room,H.size,ver,true,pl,st,fr,ver,rfl,h1,h2,h3,rfl,rfl,rfl,rfl⟩
theorem gen1 {H:Heap}(a w:Bs):GenL (fun i=>H.size<=i) (H.new [.str a,.str w] 2 false) 2 (.sl H.size 0 1 1 none 2) 1 (hcells [(a,w)]):=by
 obtain⟨room,ver,pl,st,fr,h1,h2,h3,h4⟩:=Bx.new H [.str a,.str w] 2 false (by simp)
 exact .inr ⟨H.size,1,none,[.str a,.str w],rfl,⟨room,H.size,ver,pl,st,fr,h1,h2,h3,Nat.le_refl _,Nat.le_refl _⟩,Nat.le_refl _,rfl,rfl,rfl⟩
theorem s_fndV (cc:zC)(hF:FndOkR cc)(hF0:Fnd0OkR cc)(hFm:IsP cc zD (RG tabs FmtPre FmtG)){P D E:Nat->Prop}{H:Heap}{c:Nat}{x:CRow}{puts:Int}{lb:List Nat}{m:Nat}(hm:m<=900){t:Nat}(ht:t<=1500)(hw:WF H)(hc:CacM P D H c [x] puts){lang:Bs}(hx:x.url=[117]/\x.vs=[vryT [(alN,lang)] alN]/\x.st=200/\x.hs=hsV (dig m)/\x.bd=ws .u8 lb/\x.sto=100)(hb:lb.length<=200)
  {ask:List Hd} (hask:Small ask) (hnc:(zA8 ask).2.1=false) {av:V} (hE:∀ i,E i->i<H.size/\¬ P i/\i≠c) (ha:DatP E H 2 av ask.length (hcells ask)) (yes:Bool) (hfi:zNU [117] ask [x]=if yes=true then some x else none)
  (hin:∀ H',Chg (fun i=>P i∨i=c) H H'->inH H' 0 tabs=true) (Z:Tape) :
  ∃ P' H' Z' st w1 hvF bvF,CacM P' D H' c [x] puts/\(∀ i,i<H.size->P' i->P i)/\Chg (fun i=>P i∨i=c) H H'/\(hvF.cells=[hvF]/\hvF.scal=true)/\(bvF.cells=[bvF]/\bvF.scal=true)/\st=(if yes=true then(if t<m then(2:Int)else 1)else 0)/\(yes=true->BodP (fun i=>H.size<=i/\¬ P' i/\i<H'.size) H' bvF lb.length (ws .u8 lb)) /\
   ∀ q,cc zAG [.ptr c 0,.str (bs [117]),av,.int .i64 (100+(t:Int))] H Z q=q (.agg [.int .i64 st,.int .i64 w1,hvF,bvF,.nils]) H' Z':=by
 obtain⟨y1,y2,y3,y4,y5,y6⟩:=hx
 have lw:(ws .u8 lb).length=lb.length:=zSL _ _
 have ok:∀ r ∈ [x],OkVs r:=fun r hr=>by
  rw[List.mem_singleton.1 hr]
  refine⟨by rw[y2];simp,fun z hz=>?_⟩
  rw[y2,List.mem_singleton]at hz
  rw[hz,(vryA lang).1];show alN.length<=_;decide
 cases yes with
 | false =>
  rw[if_neg (by decide)]at hfi
  obtain⟨H',Z',g,k⟩:=hF0 hc hw (by simp) ok [117] hask (av:=av) ⟨ha.rd,ha.src⟩ hfi (.int .i64 (100+(t:Int))) Z
  exact⟨P,H',Z',0,0,.nils,.nils,hc.gr hw g,fun _ _ h=>h,g.chg,⟨rfl,rfl⟩,⟨rfl,rfl⟩,rfl,(fun h=>by cases h),k⟩
 | true =>
  rw[if_pos rfl]at hfi
  have ea:ageT x.hs x.sto (100+(t:Int))=t:=by rw[y4,y6];exact ageV _ t ht
  obtain⟨P',H',Z',hvF,bvF,nh,ch,c3,p3,b3,h3,q3,k3⟩:=hF (E:=E) hc hw (by simp) ok [117] hask (av:=av) hE ha hfi (by rw[y4];exact smallV hm) (by rw[y4];simp[hsV]) (by rw[y4];simp[hsV]) (by rw[y5,lw];omega) (by rw[y4];exact(selV _).1) (by rw[y4];exact(selV _).2)
   (now:=100+(t:Int)) (by unfold InI zMH zDq;omega) (by rw[y6];unfold InI zMH zDq;omega) (s:=dig t) (by have:=zTH t;omega) (fun H' hch Z q=>by
    rw[ea]
    exact zS2 hFm (RG_fun _ _ _) (vs:=[.int .i64 (t:Int),.int .i64 (.ofNat 10)]) (H:=H') (v:=.str (dig t)) ⟨⟨by omega,by omega,rfl⟩,hin H' hch,rfl⟩ Z q) Z
  have eu:useT x [x]=[x]:=by simp[useT]
  rw[eu]at c3
  have ef:zPt ask x (100+(t:Int))=decide (t<m):=by
   unfold zPt
   rw[y4,y6,freshV hm ht,hnc];simp
  rw[y5,lw]at b3
  refine⟨P',H',Z',_,x.st,hvF,bvF,c3,p3,q3,h3.scal,b3.scal,rfl,fun _=>b3,fun q=>?_⟩
  have:=k3 q
  rw[ef]at this
  rw[if_pos rfl]
  by_cases h:t<m
  ·rw[if_pos h];rw[decide_eq_true h,if_pos rfl]at this;exact this
  ·rw[if_neg h];rw[decide_eq_false h,if_neg (by decide)]at this;exact this
theorem zNK (cc c0:zC){N:Nat}(hN:9223372036854775807<=N)(hNew:NewOkU cc)(hCc:CcOkU cc)(hPut:PutOkR cc)(hF:FndOkR cc)(hF0:Fnd0OkR cc)(hD:DrpOkCc cc)(hLen:∀ {P D:Nat->Prop} {H:Heap} {c:Nat} {rows:List CRow} {puts:Int},CacM P D H c rows puts->∀ Z q,cc zF5 [.ptr c 0] H Z q=q (.int .i64 (rows.length:Int)) H Z)
  (hFm:IsP cc zD (RG tabs FmtPre FmtG)) (hDig:∀ n:Nat,n<100000000->∀ H Z q,cc zIz [.int .i64 (n:Int)] H Z q=q (.str (dig n)) H Z) (hW:WithinOkU cc) (hWd:∀ s:Bs,s.length<=9223372036854775807->∃ w:Bs,w.length<=21/\∀ H Z q,cc zJA [.str s] H Z q=q (.str w) H Z)
  (hFew:∀ v k H Z q,cc zFi [v,k] H Z q=zEM c0 N v k H Z q) (hK:∀ H Z q,cc zH4 [] H Z q=q (.bool true) H Z)
  (la:List Nat) {v:V} (a b:Int) (l1 l2:Bs) (hl1:l1.length<=9223372036854775807) (hl2:l2.length<=9223372036854775807) {H:Heap} (hw:WF H) (hr:Rd H 1 v la.length (ws .u8 la)) (hs:Src H v) (hro:Roomy v) (ht:inH H 0 tabs=true) (Z:Tape) :
  ∃ H' Z',Gr H.size H H'/\∀ q,zFI cc N v (.int .i64 a) (.int .i64 b) (.str l1) (.str l2) H Z q=q (.bool true) H' Z':=by
 obtain⟨H1,c1,g1,z1,k1⟩:=hNew hw Z
 obtain⟨bv,w1,w2,w3,w4⟩:=fewC_ret c0 N v la.length 200 (ws .u8 la) (by omega) (by omega) H hro hr
 rw[ws_takeC,show min la.length 200=(la.take 200).length by rw[List.length_take,Nat.min_comm]]at w3
 generalize hlb:la.take 200=lb at w3
 have hl200:lb.length<=200:=by rw[<- hlb,List.length_take];omega
 have rb:=w3 H hr
 have sb:=w2 H hs
 have lw:(ws .u8 lb).length=lb.length:=zSL _ _
 obtain⟨m,hm,km⟩:=hW (a.tmod 1000) (h:=900) (by omega) H1 Z
 obtain⟨t,htl,kt⟩:=hW (b.tmod 2000) (h:=1500) (by omega) H1 Z
 obtain⟨lang,hlg,kl⟩:=hWd l1 hl1
 obtain⟨other,hot,ko⟩:=hWd l2 hl2
 have km':∀ q,cc zEw [.int .i64 (a.tmod (.ofNat 1000)),.int .i64 (.ofNat 0),.int .i64 (.ofNat 900)] H1 Z q=q (.int .i64 (m:Int)) H1 Z:=km
 have kt':∀ q,cc zEw [.int .i64 (b.tmod (.ofNat 2000)),.int .i64 (.ofNat 0),.int .i64 (.ofNat 1500)] H1 Z q=q (.int .i64 (t:Int)) H1 Z:=kt
 have kb:∀ q,cc zFi [v,.int .i64 (.ofNat 200)] H1 Z q=q bv H1 Z:=fun q=>by rw[hFew];exact w4 H1 Z q
 have en:lPeq false [.ptr H.size 0,.nilp] H1=some (.bool false):=rfl
 have er1:∀ q:V->Ans,binK .rem (.int .i64 a) (.int .i64 (.ofNat 1000)) q=q (.int .i64 (a.tmod (.ofNat 1000))):=fun q=>zPO _ _ _ (by decide) q
 have er2:∀ q:V->Ans,binK .rem (.int .i64 b) (.int .i64 (.ofNat 2000)) q=q (.int .i64 (b.tmod (.ofNat 2000))):=fun q=>zPO _ _ _ (by decide) q
 have kd:=hDig m (by omega) H1 Z
 have ed:zHf .add (bs [109,97,120,45,97,103,101,61]) (dig m)=some (.str ([109,97,120,45,97,103,101,61]++dig m)):=str_add (by have:=zTH m;rw[show(bs [109,97,120,45,97,103,101,61]).length=8 from rfl];omega)
 have hbc:=body_cells rb
 have kc:=fun q=>hCc ([109,97,120,45,97,103,101,61]++dig m) H1 Z q
 have g2:=Gr.new g1.wf [.str ccN,.str ([109,97,120,45,97,103,101,61]++dig m)] 2 false
 have G2:=gen1 (H:=H1) ccN ([109,97,120,45,97,103,101,61]++dig m)
 have z2:(H1.new [.str ccN,.str ([109,97,120,45,97,103,101,61]++dig m)] 2 false).size=H1.size+1:=rfl
 generalize H1.new [.str ccN,.str ([109,97,120,45,97,103,101,61]++dig m)] 2 false=H2 at kc g2 G2 z2
 have pv:zC7 [(.str []),(.str [])] [(0,1),(1,1)] [.str (bs [86,97,114,121]),.str (bs [65,99,99,101,112,116,45,76,97,110,103,117,97,103,101])]=some (.agg [.str vryN,.str ALN]):=rfl
 have b3:zP 1 2 [(.str []),(.str [])] [(0,2)] [.agg [.str vryN,.str ALN]] H2 Z=some (.sl H2.size 0 1 1 none 2,H2.new [.str vryN,.str ALN] 2 false,Z):=rfl
 obtain⟨hv,H4,Z4,ap,G4,q24,q34⟩:=G2.put (bytes:=32) g2.wf (fun i hi=>by omega) [.str vryN,.str ALN] (by omega) rfl rfl (by omega) (by omega) Z false
 have z4:=q24.size
 have g24:Gr H1.size H2 H4:=q24.gr (by omega) fun i hi h=>by omega
 have g14:Gr H1.size H1 H4:=g2.trans g24 nl
 have G4':GenL (fun i=>H1.size<=i) H4 2 hv 2 (hcells (hsV (dig m))):=G4
 have hvs:=G4'.scal
 have pb1:zC7 [(.int .i64 (.ofNat 0)),.nils,.nils] [(0,1),(2,1),(1,1)] [(.int .i64 (.ofNat 200)),bv,hv]=some (.agg [.int .i64 200,hv,bv]):=by
  have:zC7 [(.int .i64 (.ofNat 0)),.nils,.nils] [(0,1),(2,1),(1,1)] [(.int .i64 (.ofNat 200)),bv,hv]=some (.agg [.int .i64 (.ofNat 200),hv,bv]):=by
   rcases G4' with⟨rfl,_⟩ | ⟨_,_,_,_,rfl,_⟩ <;> rcases hbc with rfl | ⟨_,_,_,_,rfl⟩ <;> rfl
  exact this
 have bvs:bv.cells=[bv]/\bv.scal=true:=by rcases hbc with rfl | ⟨_,_,_,_,rfl⟩ <;> exact⟨rfl,rfl⟩
 obtain⟨H5,H6,r1,r2,r3,r4,r5⟩:=newvC q24.wf [(.int .i64 (.ofNat 0)),.nils,.nils] (.agg [.int .i64 200,hv,bv]) 3 rfl rfl (by omega) (by show(true && (hv.scal && (bv.scal && true)))=true;rw[hvs.2,bvs.2];rfl) Z4
 replace r3:Bx H6 H4.size [.int .i64 200,hv,bv]:=r3
 have pa:zC7 [(.str []),(.str [])] [(0,1),(1,1)] [.str (bs [97,99,99,101,112,116,45,108,97,110,103,117,97,103,101]),.str lang]=some (.agg [.str alN,.str lang]):=rfl
 have b7:zP 1 2 [(.str []),(.str [])] [(0,2)] [.agg [.str alN,.str lang]] H6 Z4=some (.sl H6.size 0 1 1 none 2,H6.new [.str alN,.str lang] 2 false,Z4):=rfl
 have D7:=dat1 (H:=H6) alN lang
 have g7:=Gr.new r4.wf [.str alN,.str lang] 2 false
 have z7:(H6.new [.str alN,.str lang] 2 false).size=H6.size+1:=rfl
 generalize H6.new [.str alN,.str lang] 2 false=H7 at b7 D7 g7 z7
 have pA:zC7 [(.str []),(.str [])] [(0,1),(1,1)] [.str (bs [65,99,99,101,112,116,45,76,97,110,103,117,97,103,101]),.str other]=some (.agg [.str ALN,.str other]):=rfl
 have b8:zP 1 2 [(.str []),(.str [])] [(0,2)] [.agg [.str ALN,.str other]] H7 Z4=some (.sl H7.size 0 1 1 none 2,H7.new [.str ALN,.str other] 2 false,Z4):=rfl
 have D8:=dat1 (H:=H7) ALN other
 have g8:=Gr.new g7.wf [.str ALN,.str other] 2 false
 have z8:(H7.new [.str ALN,.str other] 2 false).size=H7.size+1:=rfl
 generalize H7.new [.str ALN,.str other] 2 false=H8 at b8 D8 g8 z8
 have r8:=zE6 (zE6 r3 r4.wf g7) g7.wf g8
 have lr8:zBA 3 [.ptr H4.size 0] H8=some (.agg [.int .i64 200,hv,bv]):=zAw r8.cells (by simp)
 have g48:Gr H4.size H4 H8:=(r4.trans g7 r4.size).trans g8 (by omega)
 have g18:Gr H1.size H1 H8:=g14.trans g48 g14.size
 have g08:Gr H.size H H8:=g1.trans g18 g1.size
 have z48:=g48.size
 let E:Nat->Prop:=fun i=>i<H8.size/\i≠H.size
 have c8:=c1.gr g1.wf g18
 have hE:∀ i,E i->i<H8.size/\¬(fun _=>False) i/\i≠H.size:=fun i h=>⟨h.1,fun h=>h,h.2⟩
 have da:DatP E H8 2 (.sl H6.size 0 1 1 none 2) [(alN,lang)].length (hcells [(alN,lang)]):=(D7.gr g7.wf g8).weaken g8.wf fun i hi h=>⟨hi,by omega⟩
 have dh:DatP E H8 2 hv (hsV (dig m)).length (hcells (hsV (dig m))):=((DatP.gen G4').gr q24.wf g48).weaken g8.wf fun i hi h=>⟨hi,by omega⟩
 have db:DatP E H8 1 bv (ws .u8 lb).length (ws .u8 lb):=by rw[lw];exact((DatP.any hw rb sb).gr hw g08).weaken g8.wf fun i hi h=>⟨hi,by omega⟩
 obtain⟨v1,v2⟩:=varyV (dig m)
 obtain⟨P,D,H9,Z9,x,c9,⟨x1,x2,x3,x4,x5,x6,x7,x8⟩,p9,p9d,q9,k9⟩:=hPut (E:=E) c8 g8.wf (by simp) (fun r hr=>by simp at hr) (by omega) (by omega) [117] (smallA (by decide) hlg) (smallV hm) (by simp[hsV]) (ws .u8 lb) (by rw[lw];omega) hE da dh db (okV_at hm).1 (zRj lang).1 v1 (by rw[v2];simp) (by rw[v2];simp) 100 Z4
 rw[v2]at x2
 have er:cutC (([]:List CRow).filter fun r=>!zJe [117] [(alN,lang)] r)++[x]=[x]:=rfl
 rw[er]at c9
 have hx:x.url=[117]/\x.vs=[vryT [(alN,lang)] alN]/\x.st=200/\x.hs=hsV (dig m)/\x.bd=ws .u8 lb/\x.sto=100:=⟨x1,x2,x3,x4,x5,x6⟩
 obtain⟨f1,f2,f3⟩:=findV (other:=other) x2 x1
 have z9:=q9.size
 have nP:∀ i,i<H8.size->¬ P i:=fun i hi h=>p9 i hi h
 have gr9:Gr H.size H8 H9:=q9.gr (by omega) fun i hi h=>h.elim (fun h=>h) (fun e=>by omega)
 have g09:Gr H.size H H9:=g08.trans gr9 nl
 have da9:=da.chg g8.wf q9 (fun i _ h k=>k.elim (fun h=>h) h.2)
 have dA8:DatP E H8 2 (.sl H7.size 0 1 1 none 2) [(ALN,other)].length (hcells [(ALN,other)]):=D8.weaken g8.wf fun i hi h=>⟨hi,by omega⟩
 have dA9:=dA8.chg g8.wf q9 (fun i _ h k=>k.elim (fun h=>h) h.2)
 have hin:∀ {Ha:Heap} {Pa:Nat->Prop},Gr H.size H Ha->(∀ i,i<H.size->¬ Pa i)->∀ H',Chg (fun i=>Pa i∨i=H.size) Ha H'->inH H' 0 tabs=true:=fun {Ha Pa} ga hp H' hch=>inH_gr ht zQK (ga.trans (hch.gr (B:=H.size) ga.size fun i hi h=>h.elim (hp i hi) (fun e=>by omega)) nl) hw nl
 obtain⟨P10,H10,Z10,s10,w10,hvF,bvF,c10,p10,q10,sF,sFb,e10,b10,k10⟩:=s_fndV cc hF hF0 hFm hm htl q9.wf c9 hx hl200 (E:=E) (smallA (by decide) hlg) (zRj lang).2.1 (fun i h=>⟨by have:=h.1;omega,nP i h.1,h.2⟩) da9 true (by rw[f1,if_pos rfl]) (hin g09 fun i hi=>nP i (by omega)) Z9
 rw[if_pos rfl]at e10
 have b10:=b10 rfl
 have z10:=q10.size
 obtain⟨H11,H12,n1,n2,n3,n4,n5⟩:=newvC q10.wf [(.int .i64 (.ofNat 0)),(.int .i64 (.ofNat 0)),.nils,.nils,.nils] (.agg [.int .i64 s10,.int .i64 w10,hvF,bvF,.nils]) 5 rfl rfl (by omega) (by show(true && (true && (hvF.scal && (bvF.scal && (true && true)))))=true;rw[sF.2,sFb.2];rfl) Z10
 replace n3:Bx H12 H10.size [.int .i64 s10,.int .i64 w10,hvF,bvF,.nils]:=n3
 have nP10:∀ i,i<H8.size->¬ P10 i:=fun i hi h=>nP i hi (p10 i (by omega) h)
 have g010:Gr H.size H H10:=g09.trans (q10.gr (B:=H.size) g09.size fun i hi h=>h.elim (nP i (by omega)) (fun e=>by omega)) nl
 have g012:Gr H.size H H12:=g010.trans n4 g010.size
 have toE:∀ i,E i->¬(P i∨i=H.size):=fun i h k=>k.elim (nP i h.1) h.2
 have toE10:∀ i,E i->¬(P10 i∨i=H.size):=fun i h k=>k.elim (nP10 i h.1) h.2
 have da12:=(da9.chg q9.wf q10 (fun i _ h=>toE i h)).gr q10.wf n4
 have dA12:=(dA9.chg q9.wf q10 (fun i _ h=>toE i h)).gr q10.wf n4
 obtain⟨P13,H13,Z13,s13,w13,hvG,bvG,c13,p13,q13,sG,sGb,e13,b13,k13⟩:=s_fndV cc hF hF0 hFm hm htl n4.wf (c10.gr q10.wf n4) hx hl200 (E:=E) (smallA (by decide) hot) (zRj other).2.2.2 (fun i h=>⟨by have:=h.1;omega,nP10 i h.1,h.2⟩) dA12 (decide (lang=other)) (by rw[f2];simp) (hin g012 fun i hi=>nP10 i (by omega)) Z10
 have z13:=q13.size
 obtain⟨H14,H15,o1,o2,o3,o4,o5⟩:=newvC q13.wf [(.int .i64 (.ofNat 0)),(.int .i64 (.ofNat 0)),.nils,.nils,.nils] (.agg [.int .i64 s13,.int .i64 w13,hvG,bvG,.nils]) 5 rfl rfl (by omega) (by show(true && (true && (hvG.scal && (bvG.scal && (true && true)))))=true;rw[sG.2,sGb.2];rfl) Z13
 replace o3:Bx H15 H13.size [.int .i64 s13,.int .i64 w13,hvG,bvG,.nils]:=o3
 have nP13:∀ i,i<H8.size->¬ P13 i:=fun i hi h=>nP10 i hi (p13 i (by omega) h)
 have g013:Gr H.size H H13:=g012.trans (q13.gr (B:=H.size) g012.size fun i hi h=>h.elim (nP10 i (by omega)) (fun e=>by omega)) nl
 have g015:Gr H.size H H15:=g013.trans o4 g013.size
 have toE13:∀ i,E i->¬(P13 i∨i=H.size):=fun i h k=>k.elim (nP13 i h.1) h.2
 have da15:=(da12.chg n4.wf q13 (fun i _ h=>toE10 i h)).gr q13.wf o4
 have x13:Bx H13 H10.size _:=n3.chg n4.wf q13 (fun k=>k.elim (fun h=>Nat.lt_irrefl _ (c10.pl _ h)) (fun e=>by omega))
 have x15:=zE6 x13 q13.wf o4
 have lf0:zM [.ptr H10.size 0] H15=some (.int .i64 s10):=zR x15.cells rfl
 have lf3:zM [.ptr H10.size 3] H15=some bvF:=zR x15.cells rfl
 have lg0:zM [.ptr H13.size 0] H15=some (.int .i64 s13):=zR o3.cells rfl
 have b12:=b10.chg q10.wf (n4.chg (P:=fun _=>False)) (fun _ _ _=>not_false)
 have b13':=b12.chg n4.wf q13 (fun i _ h k=>k.elim h.2.1 (fun e=>by have:=h.1;omega))
 have b15:=b13'.chg q13.wf (o4.chg (P:=fun _=>False)) (fun _ _ _=>not_false)
 have t1:=str_rd b15.rd b15.src
 have t2:=str_rd (rb.gr g015 hw nl) (sb.gr g015 hw nl)
 have ok:∀ r ∈ [x],OkVs r:=fun r hr=>by
  rw[List.mem_singleton.1 hr]
  refine⟨by rw[x2];simp,fun z hz=>?_⟩
  rw[x2]at hz
  rw[List.mem_singleton.1 hz,(vryA lang).1];show alN.length<=_;decide
 have c15:=c13.gr q13.wf o4
 obtain⟨H16,Z16,g16,k16⟩:=hF0 c15 o4.wf (by simp) ok [118] (smallA (by decide) hlg) (av:=.sl H6.size 0 1 1 none 2) ⟨da15.rd,da15.src⟩ f3 (.int .i64 100) Z13
 obtain⟨P17,H17,Z17,c17,p17,q17,k17⟩:=hD (c15.gr o4.wf g16) g16.wf (by simp) [117] Z16
 have e17:([x].filter fun r=>!decide (r.url=[117]))=[]:=by simp[x1]
 rw[e17]at c17 k17
 have da17:=(da15.gr o4.wf g16).chg g16.wf q17 (fun i _ h=>toE13 i h)
 obtain⟨H18,Z18,g18',k18⟩:=hF0 c17 q17.wf (by simp) (fun r hr=>by simp at hr) [117] (smallA (by decide) hlg) (av:=.sl H6.size 0 1 1 none 2) ⟨da17.rd,da17.src⟩ (by unfold zNU;rw[(zRj lang).1,if_neg (by decide)];rfl) (.int .i64 100) Z17
 have c18:=c17.gr q17.wf g18'
 have kL:=hLen c18 Z18
 have z1315:=o4.size
 have z1516:=g16.size
 have g017:Gr H.size H H17:=(g015.trans g16 g015.size).trans (q17.gr (B:=H.size) (by have:=g015.size;omega) fun i hi h=>h.elim (nP13 i (by omega)) (fun e=>by omega)) nl
 have g018:Gr H.size H H18:=g017.trans g18' g017.size
 have ea:wr .i64 (Int.ofNat 100+(t:Int))=100+(t:Int):=by have:Int.ofNat 100=100:=rfl;rw[this,zEE (by omega) (by omega)]
 have k9':∀ q,cc zEN [.ptr H.size 0,.str (bs [117]),.sl H6.size 0 1 1 none 2,.agg [.int .i64 200,hv,bv],.int .i64 (.ofNat 100)] H8 Z4 q=q (.bool true) H9 Z9:=k9
 have k16':∀ q,cc zAG [.ptr H.size 0,.str (bs [118]),.sl H6.size 0 1 1 none 2,.int .i64 (.ofNat 100)] H15 Z13 q=q (.agg [.int .i64 0,.int .i64 0,.nils,.nils,.nils]) H16 Z16:=k16
 have k17':∀ q,cc zDa [.ptr H.size 0,.str (bs [117])] H16 Z16 q=q (.int .i64 1) H17 Z17:=k17
 have k18':∀ q,cc zAG [.ptr H.size 0,.str (bs [117]),.sl H6.size 0 1 1 none 2,.int .i64 (.ofNat 100)] H17 Z17 q=q (.agg [.int .i64 0,.int .i64 0,.nils,.nils,.nils]) H18 Z18:=k18
 have eq1:pEq true .bool [.bool (s10 == Int.ofNat 2),.bool (decide ((t:Int)<(m:Int)))]=some (.bool false):=by
  by_cases h:t<m
  ·have h':(t:Int)<(m:Int):=by omega
   rw[e10,if_pos h,decide_eq_true h'];rfl
  ·have h':¬(t:Int)<(m:Int):=by omega
   rw[e10,if_neg h,decide_eq_false h'];rfl
 have eq2:(s10 == Int.ofNat 0)=false:=by
  rw[e10];by_cases h:t<m
  ·rw[if_pos h];rfl
  ·rw[if_neg h];rfl
 have es:zHf .neq (toB lb) (toB lb)=some (.bool false):=by rw[sneq];simp
 have es2:zHf .neq lang other=some (.bool (!decide (lang=other))):=sneq _ _
 have eq3:pEq true .bool [.bool (s13 == Int.ofNat 0),.bool (!decide (lang=other))]=some (.bool false):=by
  rw[e13]
  by_cases h:lang=other
  ·rw[decide_eq_true h,if_pos rfl]
   by_cases h:t<m
   ·rw[if_pos h];rfl
   ·rw[if_neg h];rfl
  ·rw[decide_eq_false h,if_neg (by decide)];rfl
 have pf0:zKk 0 1 false [.agg [.int .i64 0,.int .i64 0,.nils,.nils,.nils]]=some (.int .i64 0):=rfl
 have e00:((0:Int) == Int.ofNat 0)=true:=rfl
 have e11:((1:Int) == Int.ofNat 1)=true:=rfl
 have e0l:((((([]:List CRow)).length:Nat):Int) == Int.ofNat 0)=true:=rfl
 have hKn:=fun q=>hK H18 Z18 q
 refine⟨H18,Z18,g018,fun q=>?_⟩
 simp only[zFI,k1,en,zJ,zO,er1,km',er2,kt',kl,ko,kb,kd,zAs,ed,kc,pv,b3,zh,ap,pb1,r1,r2,pa,b7,pA,b8,lr8,k9',zCQ,Bool.not_true,ze,ea,k10,n1,n2,k13,o1,o2,fa_ptr,Nat.zero_add,Nat.reduceAdd,lf0,zAv,zN,eq1,zD5,retK,eq2,zS,cond_false,lf3,t1,t2,es,lg0,es2,eq3,k16',pf0,e00,zCs,k17',e11,cond_true,k18',kL,e0l,hKn]
end Go.Am.X

namespace Go.Am.X
def CFreshR (vs:List V)(H:Heap)(o:Out):Prop:=(∃ (v:V) (la:List Nat) (a b:Int) (l1 l2:Bs),vs=[v,.int .i64 a,.int .i64 b,.str l1,.str l2]/\Rd H 1 v la.length (ws .u8 la)/\Src H v/\Roomy v/\inH H 0 tabs=true/\l1.length<=9223372036854775807/\l2.length<=9223372036854775807)/\o=.val (.bool true)
theorem zTF:∀ base w0,zCA PG base w0 zHd (outP CFreshR):=by
 obtain⟨N,hN⟩:∃ N:Nat,9223372036854775808<N:=⟨9223372036854775809,by decide⟩
 refine zOP zMi zRS N 8 _ ?_
 rintro vs H o hw hvs ⟨⟨v,la,a,b,l1,l2,rfl,hr,hs,hro,ht,hl1,hl2⟩,rfl⟩ Z
 have drop:DrpOkCc (CR zG N 7):=fun hc hw hl url Z=>zNV (CR zG N 6) (CR zG N 4) (CR zG N 5) N (cg_del hN 4) (fun hr ha Z q=>zK2 (CR zG N 3) N hr ha Z q) (fun hr ha Z q=>zK2 (CR zG N 4) N hr ha Z q) hc hw hl url Z
 obtain⟨H',Z',g,k⟩:=zNK (CR zG N 7) (CR zG N 6) (N:=N) (by omega) (fun hw Z=>zRt (CR zG N 6) N hw Z) (fun s H Z q=>zSF (CR zG N 6) N s H Z q) (cg_PutOkR hN) (cg_FndOkR hN) (cg_Fnd0OkR hN) drop (fun hc Z q=>zNd (CR zG N 6) N hc Z q) (fun _ _ _ _=>rfl)
  (fun n hn H Z q=>zPY (CR zG N 6) N (by omega) n hn H Z q) (fun n _ hh H Z=>zQQ (CR zG N 6) N n hh H Z) (fun s hs=>zQ2 (CR zG N 6) (N:=N) (by omega) s hs) (fun _ _ _ _ _=>rfl) (zTU (fun _ _ _ _=>rfl)) la a b l1 l2 hl1 hl2 hw hr hs hro ht Z
 exact⟨_,H',Z',k retK,g,rfl,trivial⟩
theorem cfresh_fun:Fun1 CFreshR:=fun vs H o o' k k'=>k.2.trans k'.2.symm
theorem zTO {v:V}{H:Heap}{la:List Nat}(hr:Rd H 1 v la.length (ws .u8 la)/\Src H v)(hro:Roomy v)(a b:Int){l1 l2:Bs}(ht:inH H 0 tabs=true)(h1:l1.length<=140737488351232)(h2:l2.length<=140737488351232)(Z:Tape):outP CFreshR [v,.int .i64 a,.int .i64 b,.str l1,.str l2] H Z=some (.bool true,H,Z) :=
 zRl cfresh_fun ⟨⟨v,la,a,b,l1,l2,rfl,hr.1,hr.2,hro,ht,by omega,by omega⟩,rfl⟩ Z
theorem tabs_startF {l:List (Option (List V))}(h:l[0]?=some (some pow10V)):inH (start l) 0 tabs=true :=
 inH_mk tabs 0 zQK fun j cs hj=>by
  obtain⟨rfl,rfl⟩:=tabs_at hj
  rw[Nat.zero_add];exact zRo h
end Go.Am.X

