/- The abstract machine, printed functions of the program, and what they are shown to be. -/
import Derived.Test.YtejpgcemblankaaGreatDoorCKPL2
import Derived.Test.YtejpgcemblankaaGreatDoorCKPM4
import Derived.Test.YtejpgcemblankaaGreatDoorCKPOk
import Derived.Test.YtejpgcemblankaaGreatDoorCKPL1
set_option linter.unusedSimpArgs false
set_option linter.unusedVariables false
set_option linter.unusedSectionVars false
set_option maxRecDepth 100000
namespace Go.Am.X
abbrev Hd:=Bs × Bs
def hv (h:Hd):V:=.agg [.str h.1,.str h.2]
theorem hcells_scal (hs:List Hd):(hcells hs).all V.scal=true:=by
 induction hs with
 | nil=>rfl
 | cons h l ih=>rw[zCW];simp only[List.all_cons,ih];rfl
theorem zPG (pre l:List Hd):(hcells (pre++l)).drop (pre.length*2)=hcells l:=by
 rw[zGO,<- zEB pre,List.drop_left]
theorem hcells_at (pre:List Hd)(h:Hd)(l:List Hd):((hcells (pre++h::l)).drop (pre.length*2)).take 2=[.str h.1,.str h.2]:=by
 rw[zPG,zCW];rfl
theorem hcells_at0 (pre:List Hd)(h:Hd)(l:List Hd):(hcells (pre++h::l))[pre.length*2+0]?=some (.str h.1):=by
 rw[<- List.getElem?_drop,zPG,zCW];rfl
theorem hcells_at1 (pre:List Hd)(h:Hd)(l:List Hd):(hcells (pre++h::l))[pre.length*2+1]?=some (.str h.2):=by
 rw[<- List.getElem?_drop,zPG,zCW];rfl
theorem hd_at {H:Heap}{v:V}(pre:List Hd)(h:Hd)(l:List Hd)(hr:Rd H 2 v (pre++h::l).length (hcells (pre++h::l))) :
  ∃ id o,zAS 2 [v,.int .i64 (pre.length:Int)]=some (.ptr id o)/\∀ H',Rd H' 2 v (pre++h::l).length (hcells (pre++h::l))->zAp 2 [.ptr id o] H'=some (hv h)/\zH [.ptr id o] H'=some (.str h.1)/\zH [.ptr id (o+1)] H'=some (.str h.2):=by
 obtain⟨id,o,k1,k2⟩:=hr.at (by omega) (i:=pre.length) (by simp)
 refine⟨id,o,k1,fun H' h'=>?_⟩
 obtain⟨q1,q2⟩:=k2 H' _ h'
 rw[hcells_at]at q1
 exact⟨q1,q2 0 _ (by omega) (hcells_at0 _ _ _),q2 1 _ (by omega) (hcells_at1 _ _ _)⟩
theorem zR9 {z bytes id off len lo:Nat}{ex:Option Nat}{z':Nat}{x:V}{H H':Heap}{Z Z':Tape}(h:zx z bytes [.sl id off len lo ex z',x] H Z=some (.nils,H',Z')):False:=by
 simp only[zx,Am.append,fresh,Bool.cond_eq_ite]at h
 repeat' (split at h)
 all_goals first | (cases h;done) | skip
theorem zET (c:zD)(N:Nat)(hs:List Hd)(hl:hs.length<=1000000)(v:V)(H:Heap)(hw:WF H)(hr:Rd H 2 v hs.length (hcells hs))(hsr:Src H v)(Z:Tape) :
  ∃ v' H' Z',Apd H' H.size 2 v' hs.length (hcells hs)/\(v'=.nils ↔ v=.nils)/\Gr H.size H H'/\∀ q,zCw c N v H Z q=q v' H' Z':=by
 by_cases hv:v=.nils
 ·subst hv
  have h0:hs.length=0/\hcells hs=[]:=by
   rcases hr with⟨_,a,b⟩ | ⟨_,_,_,_,_,e,_⟩
   ·exact⟨a,b⟩
   ·cases e
  have e1:pEq false .slice [.nils,.nils]=some (.bool true):=rfl
  refine⟨.nils,H,Z,?_,Iff.rfl,Gr.refl hw,fun q=>?_⟩
  ·rw[h0.1,h0.2];exact Apd.nil _ _ _
  ·simp only[zCw,e1,zI,zM]
 ·have e1:pEq false .slice [v,.nils]=some (.bool false):=by
   rcases hr with⟨rfl | ⟨_,_,_,_,rfl⟩,_⟩ | ⟨_,_,_,_,_,rfl,_⟩
   ·exact absurd rfl hv
   ·rfl
   ·rfl
  have a1:zR 0 2 [] [] [] H Z=some (.sl H.size 0 0 0 none 2,H.new [] (0*2) false,Z):=rfl
  have g1:=Gr.new hw [] (0*2) false
  have c1:=zH1 H [] (0*2) false
  have o1:Apd (H.new [] (0*2) false) H.size 2 (.sl H.size 0 0 0 none 2) 0 []:=.inr ⟨rfl,rfl,_,rfl,Blk.new H [] (0*2) false nl⟩
  obtain⟨v',H',Z',r1,r2,r3,_⟩:=o1.append (bytes:=32) g1.wf g1.size (hr.gr g1 hw nl) (hsr.gr g1 hw nl) (hcells_scal hs) (by omega) (by omega) Z
  refine⟨v',H',Z',by simpa using r2,⟨fun h=>?_,fun h=>absurd h hv⟩,g1.trans r3 nl,fun q=>?_⟩
  ·exfalso;subst h;exact zR9 r1
  simp only[zCw,e1,zI,zK,a1,zT,r1]
theorem put2 {H:Heap}{B:Nat}{v:V}{hs:List Hd}{n:Nat}(h:Apd H B 2 v n (hcells hs))(hw:WF H)(hB:B<=H.size)(x:Hd)(hn:n<=1000000)(Z:Tape) :
  ∃ w H1 v' H' Z',zR 1 2 [(.str []),(.str [])] [(0,2)] [.agg [.str x.1,.str x.2]] H Z=some (w,H1,Z)/\zx 2 32 [v,w] H1 Z=some (v',H',Z')/\Apd H' B 2 v' (n+1) (hcells (hs++[x]))/\Gr B H H'/\(∀ id cs,H.cells? id=some cs->H'.cells? id=some cs)/\Gr B H H1:=by
 obtain⟨v',H',Z',r1,r2,r3,r4⟩:=h.put (bytes:=32) hw hB [.str x.1,.str x.2] rfl rfl (by omega) (by omega) Z
 refine⟨_,_,v',H',Z',rfl,r1,?_,r3,r4,(Gr.new hw _ _ _).weaken hB⟩
 rw[zGO];exact r2
def addE (n v:Bs)(k:Nat):Int:=if mayE n v=0 then(if 64<=k then 4 else 0)else mayE n v
theorem zQa (c:zD)(N:Nat)(hs:List Hd)(hl:hs.length<=1000000)(n v:Bs)(lv:V)(H:Heap)(hw:WF H)(hr:Rd H 2 lv hs.length (hcells hs))(hsr:Src H lv)(Z:Tape)
  (h43:∃ H1 Z1,Gr H.size H H1/\∀ q,c zGR [.str n,.str v] H Z q=q (mayV n v) H1 Z1)
  (h44:∀ (H:Heap),WF H->Rd H 2 lv hs.length (hcells hs)->Src H lv->∀ Z,∃ v' H' Z',Apd H' H.size 2 v' hs.length (hcells hs)/\(v'=.nils ↔ lv=.nils)/\Gr H.size H H'/\∀ q,c zAM [lv] H Z q=q v' H' Z') :
  ∃ r H' Z',Gr H.size H H'/\(addE n v hs.length=0->Apd H' H.size 2 r (hs.length+1) (hcells (hs++[(n,valT v)])))/\(addE n v hs.length≠0->r=.nils)/\∀ q,zGU c N lv (.str n) (.str v) H Z q=q (.tup [r,.int .i64 (addE n v hs.length)]) H' Z':=by
 obtain⟨H1,Z1,g1,k1⟩:=h43
 have x0:∀ a b:V,zG 0 [.tup [a,b]]=some a:=fun _ _=>rfl
 have x1:∀ a b:V,zG 1 [.tup [a,b]]=some b:=fun _ _=>rfl
 have pl:=hr.pLen
 unfold addE
 unfold mayV at k1
 generalize mayE n v=e at k1 ⊢
 by_cases he:e=0
 ·subst he
  have e1:((0:Int) == Int.ofNat 0)=true:=rfl
  have e2:((0:Int) != Int.ofNat 0)=false:=rfl
  rw[if_pos rfl]at k1 ⊢
  by_cases h64:64<=hs.length
  ·have e3:decide (Int.ofNat 64<=(hs.length:Int))=true:=decide_eq_true (by simp;omega)
   have e4:(Int.ofNat 4 != Int.ofNat 0)=true:=rfl
   rw[if_pos h64]
   refine⟨.nils,H1,Z1,g1,fun h=>absurd h (by decide),fun _=>rfl,fun q=>?_⟩
   simp only[zGU,k1,x0,x1,zI,zZ,e1,zBE,retK,zT,pl,zAC,e3,zQ,cond_true,zM,zFb,zO,↓reduceIte,Nat.reduceEqDiff,zAE,e4]
   rfl
  ·have e3:decide (Int.ofNat 64<=(hs.length:Int))=false:=decide_eq_false (by simp;omega)
   rw[if_neg h64]
   obtain⟨v2,H2,Z2,o2,_,g2,k2⟩:=h44 H1 g1.wf (hr.gr g1 hw nl) (hsr.gr g1 hw nl) Z1
   obtain⟨w,H3,v4,H4,Z4,m1,m2,m3,m4,_⟩:=put2 o2 g2.wf g2.size (n,valT v) hl Z2
   have pb:zFA [(.str []),(.str [])] [(0,1),(1,1)] [.str n,.str (valT v)]=some (.agg [.str n,.str (valT v)]):=rfl
   refine⟨v4,H4,Z4,(g1.trans g2 g1.size).trans m4 g1.size,fun _=>?_,fun h=>absurd rfl h,fun q=>?_⟩
   ·rcases m3 with m3 | ⟨h0,_⟩
    ·refine .inl ?_
     rcases m3 with h | ⟨id,e,room,fam,ver,pl,st,fr,h1,h2,h3,h4,h5,h6,h7⟩
     ·exact .inl h
     ·exact .inr ⟨id,e,room,fam,ver,pl,st,fr,h1,h2,h3,h4,Nat.le_trans g1.size h5,Nat.le_trans g1.size h6,h7⟩
    ·omega
   ·simp only[zGU,k1,x0,x1,zI,zZ,e1,zBE,retK,zT,pl,zAC,e3,zQ,cond_true,zK,zFb,zO,↓reduceIte,Nat.reduceEqDiff,zAE,e2,k2,pb,m1,m2]
    rfl
 ·have e1:(e == Int.ofNat 0)=false:=by rw[beq_eq_false_iff_ne];exact he
  have e2:(e != Int.ofNat 0)=true:=by rw[bne_iff_ne];exact he
  rw[if_neg he]at k1 ⊢
  refine⟨.nils,H1,Z1,g1,fun h=>absurd h he,fun _=>rfl,fun q=>?_⟩
  simp only[zGU,k1,x0,x1,zI,zZ,e1,zq,zAH,zQ,cond_false,zK,zFb,zO,↓reduceIte,Nat.reduceEqDiff,zAE,e2,zM]
def named (name:Bs)(h:Hd):Bool:=lower h.1 == lower name
def zKD (name:Bs):List Hd->Nat->Int
 | [],_=>-1
 | h::l,i=>bif named name h then(i:Int)else zKD name l (i+1)
def IsF (c:zD)(g b:Nat)(name:Bs):Prop:=∀ (h:Hd),h.1.length<=140737488355328->∀ (H:Heap),WF H->H.cells? b=some [.str name]->∀ Z,∃ H' Z',Gr H.size H H'/\∀ q,c g [hv h,.ptr b 0] H Z q=q (.bool (named name h)) H' Z'
abbrev Is45 (c:zD)(name:Bs):Prop:=∀ (h:Hd),h.1.length<=140737488355328->∀ (H:Heap),WF H->∀ Z,∃ H' Z',Gr H.size H H'/\∀ q,c zD1 [hv h,.str name] H Z q=q (.bool (named name h)) H' Z'
theorem zJ2 (c:zD)(N:Nat)(b:Nat)(name:Bs)(h45:Is45 c name)(h:Hd)(hh:h.1.length<=140737488355328)(H:Heap)(hw:WF H)(hb:H.cells? b=some [.str name])(Z:Tape) :
  ∃ H' Z',Gr H.size H H'/\(∀ q,zHK c N (hv h) (.ptr b 0) H Z q=q (.bool (named name h)) H' Z')/\(∀ q,zIB c N (hv h) (.ptr b 0) H Z q=q (.bool (named name h)) H' Z'):=by
 have a1:eBox [hv h] H Z=some (.ptr H.size 0,H.new [.str h.1,.str h.2] 2 true,Z):=rfl
 have g1:=Gr.new hw [.str h.1,.str h.2] 2 true
 have c1:=zH1 H [.str h.1,.str h.2] 2 true
 have b1:=g1.cells hw nl hb
 generalize H.new [.str h.1,.str h.2] 2 true=H1 at a1 g1 c1 b1
 have l1:zAp 2 [.ptr H.size 0] H1=some (hv h):=zAm c1 (by simp)
 have l2:zH [.ptr b 0] H1=some (.str name):=zN b1 rfl
 obtain⟨H2,Z2,g2,k2⟩:=h45 h hh H1 g1.wf Z
 exact⟨H2,Z2,g1.trans g2 g1.size,fun q=>by simp only[zHK,a1,zT,l1,l2,zI,k2],fun q=>by simp only[zIB,a1,zT,l1,l2,zI,k2]⟩
theorem zLc (c:zD)(N:Nat)(g b:Nat)(name:Bs)(hf:IsF c g b name)(hs:List Hd)(hl:hs.length<=1000000)(hsz:∀ h ∈ hs,h.1.length<=140737488355328)(lv:V) :
  ∀ (l pre:List Hd) (H:Heap) (fr:T V) (Z:Tape) (m:Nat),hs=pre++l->l.length<m->WF H->Rd H 2 lv hs.length (hcells hs)->H.cells? b=some [.str name] ->
  fr.get 0=some lv->fr.get 1=some (.func g [] [.ptr b 0])->fr.get 7=some (.int .i64 (hs.length:Int))->fr.get 8=some (.int .i64 (pre.length:Int)) ->
  ∃ H' Z',Gr H.size H H'/\∀ q,zAP (zBB c N) m ⟨fr,H⟩ Z (zU 0 (seqK (zFs c N q) (endK [(.t 4)] q)))=q (.int .i64 (zKD name l pre.length)) H' Z':=by
 intro l
 induction l with
 | nil =>
  intro pre H fr Z m he hm hw hr hb f0 f1 f7 f8
  obtain⟨m,rfl⟩:∃ j,m=j+1:=⟨m-1,by omega⟩
  refine⟨H,Z,Gr.refl hw,fun q=>?_⟩
  have e1:decide ((pre.length:Int)<(hs.length:Int))=false:=decide_eq_false (by rw[he];simp)
  rw[zF]
  simp only[zBB,zA f0,zA f1,zA f7,zA f8,zL,e1,zK]
  rfl
 | cons h l ih =>
  intro pre H fr Z m he hm hw hr hb f0 f1 f7 f8
  obtain⟨m,rfl⟩:∃ j,m=j+1:=⟨m-1,by omega⟩
  have hlt:pre.length<hs.length:=by rw[he];simp
  have e1:decide ((pre.length:Int)<(hs.length:Int))=true:=decide_eq_true (by omega)
  have e3:wr .i64 ((pre.length:Int)+Int.ofNat 1)=((pre++[h]).length:Int):=by
   rw[zGB (by simp;omega) (by simp;omega)];simp
  obtain⟨id,o,p1,p2⟩:=hd_at (v:=lv) pre h l (H:=H) (by rw[<- he];exact hr)
  obtain⟨q1,_,_⟩:=p2 H (by rw[<- he];exact hr)
  obtain⟨H1,Z1,g1,k1⟩:=hf h (hsz h (by rw[he];simp)) H hw hb Z
  have kv:∀ q,opK c .callv [.func g [] [.ptr b 0],hv h] H Z q=q (.bool (named name h)) H1 Z1:=k1
  by_cases hn:named name h=true
  ·refine⟨H1,Z1,g1,fun q=>?_⟩
   rw[zF,zKD,hn,cond_true]
   simp only[zBB,zA f0,zA f1,zA f7,zA f8,zL,e1,zM,p1,q1,zI,kv,hn]
   rfl
  ·have hn':named name h=false:=by simpa using hn
   obtain⟨H2,Z2,g2,k2⟩:=ih (pre++[h]) H1 (T.s (T.s (T.s (T.s (T.s (T.s .leaf 0 lv) 1 (.func g [] [.ptr b 0])) 7 (.int .i64 (hs.length:Int))) 8 (.int .i64 (pre.length:Int))) 18 (.int .i64 ((pre++[h]).length:Int))) 8 (.int .i64 ((pre++[h]).length:Int))) Z1 m
    (by rw[he];simp) (by simp at hm;omega) g1.wf (hr.gr g1 hw nl) (g1.cells hw nl hb) (by simp[T.get_set]) (by simp[T.get_set]) (by simp[T.get_set]) (by simp[T.get_set])
   refine⟨H2,Z2,g1.trans g2 g1.size,fun q=>?_⟩
   rw[zF,zKD,hn',cond_false]
   simp only[zBB,zA f0,zA f1,zA f7,zA f8,zL,e1,zM,p1,q1,zI,kv,hn',zK,zS,e3]
   rw[show pre.length+1=(pre++[h]).length by simp]
   exact k2 q
theorem zJf (c:zD)(N:Nat)(hN:9223372036854775807<=N)(g b:Nat)(name:Bs)(hf:IsF c g b name)(hs:List Hd)(hl:hs.length<=1000000)(hsz:∀ h ∈ hs,h.1.length<=140737488355328)(lv:V)(H:Heap)(hw:WF H)
  (hr:Rd H 2 lv hs.length (hcells hs)) (hb:H.cells? b=some [.str name]) (Z:Tape):∃ H' Z',Gr H.size H H'/\∀ q,zCm c N lv (.func g [] [.ptr b 0]) H Z q=q (.int .i64 (zKD name hs 0)) H' Z':=by
 obtain⟨H',Z',g',k⟩:=zLc c N g b name hf hs hl hsz lv hs [] H (T.s (T.s (T.s (T.s .leaf 0 lv) 1 (.func g [] [.ptr b 0])) 7 (.int .i64 (hs.length:Int))) 8 (.int .i64 (.ofNat 0))) Z N rfl (by omega) hw hr hb (by simp[T.get_set]) (by simp[T.get_set]) (by simp[T.get_set]) (by simp[T.get_set])
 refine⟨H',Z',g',fun q=>?_⟩
 simp only[zCm,hr.pLen,zI]
 exact k q
theorem zSU (name:Bs):∀ (l:List Hd) (i:Nat),(zKD name l i=-1/\∀ h ∈ l,named name h=false)∨∃ a h r,l=a++h::r/\(∀ x ∈ a,named name x=false)/\named name h=true/\zKD name l i=((i+a.length:Nat):Int):=by
 intro l
 induction l with
 | nil=>intro i;exact .inl ⟨rfl,fun h hh=>by simp at hh⟩
 | cons h l ih =>
  intro i
  by_cases hn:named name h=true
  ·refine .inr ⟨[],h,l,rfl,fun x hx=>by simp at hx,hn,?_⟩
   rw[zKD,hn];rfl
  ·have hn':named name h=false:=by simpa using hn
   rcases ih (i+1)with⟨h1,h2⟩ | ⟨a,x,r,h1,h2,h3,h4⟩
   ·refine .inl ⟨by rw[zKD,hn'];exact h1,fun x hx=>?_⟩
    rcases List.mem_cons.1 hx with rfl | hx
    ·exact hn'
    ·exact h2 x hx
   ·refine .inr ⟨h::a,x,r,by rw[h1];rfl,fun y hy=>?_,h3,?_⟩
    ·rcases List.mem_cons.1 hy with rfl | hy
     ·exact hn'
     ·exact h2 y hy
    ·rw[zKD,hn',cond_false,h4];simp;omega
end Go.Am.X

namespace Go.Am.X
theorem add1 {i:Nat}(h:i<9223372036854775807):wr .i64 ((i:Int)+Int.ofNat 1)=((i+1:Nat):Int):=by
 rw[zGB (by simp;omega) (by simp;omega)];simp
def zBy (name:Bs)(hs:List Hd):List Hd:=hs.filter fun h=>!named name h
theorem zSW {name:Bs}{l:List Hd}(h:∀ x ∈ l,named name x=false):zBy name l=l:=by
 unfold zBy;rw[List.filter_eq_self];intro x hx;rw[h x hx];rfl
theorem hcells_store (out:List Hd)(y x:Hd)(l:List Hd):(hcells (out++y::l)).take (out.length*2)++(hv x).cells++(hcells (out++y::l)).drop (out.length*2+2)=hcells (out++x::l):=by
 rw[zGO,zGO,<- zEB out,List.take_left,List.drop_append,zCW,zCW]
 simp[hv,V.cells]
theorem zK0 (c:zD)(N:Nat)(g b:Nat)(name:Bs)(hf:IsF c g b name)(lv:V)(B n:Nat)(hn:n<=1000000)(hbB:b<B) :
  ∀ (rest out mid:List Hd) (H:Heap) (fr:T V) (Z:Tape) (m:Nat),(out++mid++rest).length=n->mid≠[]->(∀ h ∈ rest,h.1.length<=140737488355328)->rest.length<m->WF H->B<=H.size->Own H B 2 lv n (hcells (out++mid++rest))->Bx H b [.str name] ->
  fr.get 0=some lv->fr.get 1=some (.func g [] [.ptr b 0])->fr.get 5=some (.int .i64 (out.length:Int))->fr.get 6=some (.int .i64 ((out++mid).length:Int)) ->
  ∃ H' Z' mid',mid'≠[]/\(out++zBy name rest++mid').length=n/\Own H' B 2 lv n (hcells (out++zBy name rest++mid'))/\Gr B H H'/\∀ k,zAP (zA0 c N) m ⟨fr,H⟩ Z k=k (.exit 0) ⟨(T.s (T.s .leaf 0 lv) 5 (.int .i64 ((out++zBy name rest).length:Int))),H'⟩ Z':=by
 intro rest
 induction rest with
 | nil =>
  intro out mid H fr Z m hL hmid hsz hm hw hB ho hb f0 f1 f5 f6
  obtain⟨m,rfl⟩:∃ j,m=j+1:=⟨m-1,by omega⟩
  refine⟨H,Z,mid,hmid,by simpa [zBy] using hL,by simpa [zBy] using ho,Gr.refl hw,fun k=>?_⟩
  have e1:decide (((out++mid).length:Int)<(n:Int))=false:=decide_eq_false (by rw[<- hL];simp)
  rw[zF]
  simp only[zA0,zA f0,zA f1,zA f5,zA f6,ho.pLen,zI,zL,e1,zK,seqK,zBy,List.filter_nil,List.append_nil]
 | cons x rest ih =>
  intro out mid H fr Z m hL hmid hsz hm hw hB ho hb f0 f1 f5 f6
  obtain⟨m,rfl⟩:∃ j,m=j+1:=⟨m-1,by omega⟩
  have hlt:(out++mid).length<n:=by rw[<- hL];simp
  have e1:decide (((out++mid).length:Int)<(n:Int))=true:=decide_eq_true (by omega)
  have e3:wr .i64 (((out++mid).length:Int)+Int.ofNat 1)=(((out++mid).length+1:Nat):Int):=add1 (by omega)
  have hr:Rd H 2 lv (out++mid++x::rest).length (hcells (out++mid++x::rest)):=by rw[hL];exact ho.rd
  obtain⟨id,o,p1,p2⟩:=hd_at (v:=lv) (out++mid) x rest hr
  obtain⟨q1,_,_⟩:=p2 H hr
  obtain⟨H1,H2,a1,s1,b2,g2,lt2⟩:=box2 hw (.str x.1) (.str x.2) (.str []) (.str []) rfl rfl Z
  have s1':eStore 2 [.ptr H.size 0,hv x] H1 Z=some (.tup [],H2,Z):=s1
  have l1:zAp 2 [.ptr H.size 0] H2=some (hv x):=zAm b2.cells (by simp)
  have hb2:Bx H2 b [.str name]:=hb.gr g2 (by omega)
  obtain⟨H3,Z3,g3,k3⟩:=hf x (hsz x (by simp)) H2 g2.wf hb2.cells Z
  have kv:∀ q,opK c .callv [.func g [] [.ptr b 0],hv x] H2 Z q=q (.bool (named name x)) H3 Z3:=k3
  have g13:Gr H.size H H3:=g2.trans g3 g2.size
  have ho3:Own H3 B 2 lv n (hcells (out++mid++x::rest)):=ho.gr g13 hw nl
  have hb3:Bx H3 b [.str name]:=hb2.gr g3 (by omega)
  have l3:zAp 2 [.ptr H.size 0] H3=some (hv x):=zAm (b2.gr g3 lt2).cells (by simp)
  by_cases hnm:named name x=true
  ·have ed:zBy name (x::rest)=zBy name rest:=by unfold zBy;rw[List.filter_cons,hnm];rfl
   rw[ed]
   obtain⟨H4,Z4,mid',q1',q2',q3',q4',q5'⟩:=ih out (mid++[x]) H3 (T.s (T.s (T.s (T.s (T.s (T.s (T.s .leaf 0 lv) 1 (.func g [] [.ptr b 0])) 5 (.int .i64 (out.length:Int))) 6 (.int .i64 ((out++mid).length:Int))) 20 (.int .i64 ((out++mid).length:Int))) 21 (.int .i64 (((out++mid).length+1:Nat):Int))) 6 (.int .i64 (((out++mid).length+1:Nat):Int))) Z3 m
    (by rw[<- hL];simp) (by simp) (fun h hh=>hsz h (by simp[hh])) (by simp at hm;omega) g13.wf (Nat.le_trans hB g13.size) (by simpa using ho3) hb3 (by simp[T.get_set]) (by simp[T.get_set]) (by simp[T.get_set]) (by simp[T.get_set];omega)
   refine⟨H4,Z4,mid',q1',q2',q3',(g13.weaken hB).trans q4' nl,fun k=>?_⟩
   rw[zF]
   simp only[zA0,zA f0,zA f1,zA f5,zA f6,ho.pLen,zI,zL,e1,zM,p1,q1,a1,zT,s1',l1,kv,hnm,zAN,Bool.not_true,zK,zBq,zO,↓reduceIte,Nat.reduceEqDiff,zS,e3]
   exact q5' k
  ·have hnm':named name x=false:=by simpa using hnm
   have ed:zBy name (x::rest)=x::zBy name rest:=by unfold zBy;rw[List.filter_cons,hnm'];rfl
   rw[ed]
   obtain⟨y,mid1,rfl⟩:=List.exists_cons_of_ne_nil hmid
   have hlo:out.length<n:=by rw[<- hL];simp
   obtain⟨p,w1,w2⟩:=ho3.store g13.wf hlo
   obtain⟨H4,w3,w4,w5,w6⟩:=w2 (hv x) rfl rfl (by omega) Z3
   have hst:=hcells_store out y x (mid1++x::rest)
   rw[show out++(y::mid1)++x::rest=out++y::(mid1++x::rest)by simp]at w4
   rw[hst]at w4
   have e4:wr .i64 ((out.length:Int)+Int.ofNat 1)=((out++[x]).length:Int):=by
    rw[zGB (by simp;omega) (by simp;omega)];simp
   obtain⟨H5,Z5,mid',q1',q2',q3',q4',q5'⟩:=ih (out++[x]) (mid1++[x]) H4 (T.s (T.s (T.s (T.s (T.s (T.s (T.s .leaf 0 lv) 1 (.func g [] [.ptr b 0])) 5 (.int .i64 ((out++[x]).length:Int))) 6 (.int .i64 ((out++y::mid1).length:Int))) 20 (.int .i64 ((out++y::mid1).length:Int))) 21 (.int .i64 (((out++y::mid1).length+1:Nat):Int))) 6 (.int .i64 (((out++y::mid1).length+1:Nat):Int))) Z3 m
    (by rw[<- hL];simp <;> omega) (by simp) (fun h hh=>hsz h (by simp[hh])) (by simp at hm;omega) w5.wf (by rw[w6];exact Nat.le_trans hB g13.size) (by simpa using w4) (hb3.gr w5 hbB) (by simp[T.get_set]) (by simp[T.get_set]) (by simp[T.get_set]) (by simp[T.get_set];omega)
   refine⟨H5,Z5,mid',q1',by simpa using q2',by simpa using q3',((g13.weaken hB).trans w5 nl).trans q4' nl,fun k=>?_⟩
   rw[zF]
   simp only[zA0,zA f0,zA f1,zA f5,zA f6,ho.pLen,zI,zL,e1,zM,p1,q1,a1,zT,s1',l1,kv,hnm',zAN,Bool.not_false,l3,w1,w3,zS,e4,zBq,zO,↓reduceIte,Nat.reduceEqDiff,e3]
   have:=q5' k
   rw[show out++[x]++zBy name rest=out++x::zBy name rest by simp]at this
   exact this
theorem zJO (c:zD)(N:Nat)(hN:9223372036854775807<=N)(g b:Nat)(name:Bs)(hf:IsF c g b name)(hs:List Hd)(hl:hs.length<=1000000)(hsz:∀ h ∈ hs,h.1.length<=140737488355328)(lv:V)(H:Heap)(hw:WF H)(B:Nat)(hB:B<=H.size)(hbB:b<B)
  (ha:Apd H B 2 lv hs.length (hcells hs)) (hb:Bx H b [.str name]) (Z:Tape)
  (h49:∃ H' Z',Gr H.size H H'/\∀ q,c zA6 [lv,.func g [] [.ptr b 0]] H Z q=q (.int .i64 (zKD name hs 0)) H' Z') :
  ∃ w H' Z',Got H' B 2 w (zBy name hs).length (hcells (zBy name hs))/\(w=.nils ↔ lv=.nils)/\Gr B H H'/\∀ q,zBZ c N lv (.func g [] [.ptr b 0]) H Z q=q w H' Z':=by
 obtain⟨H1,Z1,g1,k1⟩:=h49
 rcases zSU name hs 0 with⟨h1,h2⟩ | ⟨a,h,r,h1,h2,h3,h4⟩
 ·rw[h1]at k1
  have e1:((-1:Int) == Int.negSucc 0)=true:=rfl
  refine⟨lv,H1,Z1,?_,Iff.rfl,g1.weaken hB,fun q=>?_⟩
  ·rw[zSW h2];exact(ha.gr g1 hw nl).got
  ·simp only[zBZ,k1,zZ,e1,zM]
 ·rw[h4,Nat.zero_add]at k1
  have e1:((a.length:Int) == Int.negSucc 0)=false:=by rw[beq_eq_false_iff_ne];intro h;have:(0:Int)<=(a.length:Int):=Int.natCast_nonneg _;rw[h]at this;exact absurd this (by decide)
  have e3:wr .i64 ((a.length:Int)+Int.ofNat 1)=((a++[h]).length:Int):=by
   have:a.length<hs.length:=by rw[h1];simp
   rw[zGB (by simp;omega) (by simp;omega)];simp
  have hn0:0<hs.length:=by rw[h1];simp;omega
  have hrl0:r.length<hs.length:=by rw[h1];simp;omega
  have ho1:Own H1 B 2 lv hs.length (hcells (a++[h]++r)):=by
   have:=(ha.own hn0).gr g1 hw nl
   rw[show a++[h]++r=hs by rw[h1];simp];exact this
  obtain⟨H2,Z2,mid,q1,q2,q3,q4,q5⟩:=zK0 c N g b name hf lv B hs.length hl hbB r a [h] H1 (T.s (T.s (T.s (T.s .leaf 0 lv) 1 (.func g [] [.ptr b 0])) 5 (.int .i64 (a.length:Int))) 6 (.int .i64 ((a++[h]).length:Int))) Z1 N
   (by rw[h1];simp) (by simp) (fun x hx=>hsz x (by rw[h1];simp[hx])) (by omega) g1.wf (Nat.le_trans hB g1.size) ho1 (hb.gr g1 (by omega)) (by simp[T.get_set]) (by simp[T.get_set]) (by simp[T.get_set]) (by simp[T.get_set])
  have ed:zBy name hs=a++zBy name r:=by
   rw[h1]
   show List.filter _ _=_
   rw[List.filter_append,List.filter_cons,h3]
   have:=zSW h2
   unfold zBy at this ⊢
   rw[this];rfl
  rw[<- ed]at q2 q3 q5
  have hlen:(zBy name hs).length<hs.length:=by
   have:mid.length≠0:=fun e=>q1 (List.eq_nil_of_length_eq_zero e)
   rw[List.length_append]at q2;omega
  obtain⟨id,e,rfl,hid,hsp⟩:=q3.split hn0
  obtain⟨c2,hst⟩:=hsp H2 _ q3 q4.wf
  obtain⟨off',lo',ex',m1,m2,m3⟩:=from_mk (id:=id) (off:=0) (n:=hs.length) (lo:=hs.length) (z:=2) (ex:=some e) (by rw[within_iff];exact .inl nl) (Nat.le_of_lt hlen)
  have hoff:=m2 hlen
  rw[Nat.zero_add]at hoff
  subst hoff
  have hrl:(repl (hs.length-(zBy name hs).length) [V.str [],V.str []]).length=(hs.length-(zBy name hs).length)*2:=by
   rw[zDE];rfl
  have hrs:(repl (hs.length-(zBy name hs).length) [V.str [],V.str []]).all V.scal=true:=by
   unfold repl
   rw[List.all_eq_true]
   intro v hv'
   rw[List.mem_flatten]at hv'
   obtain⟨l,h1',h2'⟩:=hv'
   rw[List.eq_of_mem_replicate h1']at h2'
   simp only[List.mem_cons,List.mem_nil_iff,or_false,or_self]at h2'
   subst h2';rfl
  obtain⟨H3,n1,n2,n3,n4⟩:=hst ((zBy name hs).length*2) (repl (hs.length-(zBy name hs).length) [V.str [],V.str []]) (by rw[hrl];omega) hrs
  have ec:zKv 2 [(.str []),(.str [])] [.sl id ((zBy name hs).length*2) (hs.length-(zBy name hs).length) lo' ex' 2] H2 Z2=some (.tup [],H3,Z2):=by
   simp only[zKv,Nat.beq_refl,List.length_cons,List.length_nil,Bool.and_self,cond_true,n1]
  have hi:=cut_hi (id:=id) (n:=hs.length) (e:=e) (z:=2) (Nat.le_of_lt hlen)
  refine⟨.sl id 0 (zBy name hs).length hs.length (some e) 2,H3,Z2,?_,⟨(fun h=>by cases h),(fun h=>by cases h)⟩,((g1.weaken hB).trans q4 nl).trans n3 nl,fun q=>?_⟩
  ·refine .inr ?_
   have t0:List.take ((zBy name hs).length*2) (hcells (zBy name hs++mid))=hcells (zBy name hs):=by
    rw[zGO,<- zEB (zBy name hs),List.take_left]
   rcases n2 with⟨hh,_⟩ | ⟨id',e',room,fam,ver,pl,st,fr,hh,k2,k3,k4,k5,k6,k7⟩
   ·cases hh
   ·cases hh
    refine⟨id,0,hs.length,some e,_,room,fam,ver,pl,st,fr,ver,rfl,k2,k3,k4,k6,?_,zEB _,.inl rfl⟩
    rw[List.drop_zero,t0,List.append_assoc,<- zEB (zBy name hs),List.take_left]
  ·simp only[zBZ,k1,zZ,e1,zK,zS,e3]
   rw[q5]
   simp only[zU,Nat.beq_refl,cond_true,seqK,zFd,zO,↓reduceIte,Nat.reduceEqDiff,m1,zI,ec,zT,hi]
theorem zPs (c:zD)(N:Nat)(name:Bs)(hs:List Hd)(lv:V)(H:Heap)(hw:WF H)(hr:Rd H 2 lv hs.length (hcells hs))(hsr:Src H lv)(Z:Tape)
  (h44:∀ (H:Heap),WF H->Rd H 2 lv hs.length (hcells hs)->Src H lv->∀ Z,∃ v' H' Z',Apd H' H.size 2 v' hs.length (hcells hs)/\(v'=.nils ↔ lv=.nils)/\Gr H.size H H'/\∀ q,c zAM [lv] H Z q=q v' H' Z')
  (h47:∀ (b:Nat) (v:V) (H:Heap) (B:Nat),WF H->B<=H.size->b<B->Apd H B 2 v hs.length (hcells hs)->Bx H b [.str name]->∀ Z,∃ w H' Z',Got H' B 2 w (zBy name hs).length (hcells (zBy name hs))/\(w=.nils ↔ v=.nils)/\Gr B H H'/\∀ q,c zDl [v,.func zBr [] [.ptr b 0]] H Z q=q w H' Z') :
  ∃ w H' Z',Got H' H.size 2 w (zBy name hs).length (hcells (zBy name hs))/\(w=.nils ↔ lv=.nils)/\Gr H.size H H'/\∀ q,zI4 c N lv (.str name) H Z q=q w H' Z':=by
 have a1:eBox [.str name] H Z=some (.ptr H.size 0,H.new [.str name] 1 true,Z):=rfl
 have g1:=Gr.new hw [.str name] 1 true
 have b1:=Bx.new H [.str name] 1 true nl
 have z1:(H.new [.str name] 1 true).size=H.size+1:=rfl
 generalize H.new [.str name] 1 true=H1 at a1 g1 b1 z1
 obtain⟨v2,H2,Z2,o2,j2,g2,k2⟩:=h44 H1 g1.wf (hr.gr g1 hw nl) (hsr.gr g1 hw nl) Z
 obtain⟨w,H3,Z3,r3,j3,g3,k3⟩:=h47 H.size v2 H2 H1.size g2.wf g2.size (by omega) o2 (b1.gr g2 (by omega)) Z2
 have ef:V.func zBr (List.take 0 [V.ptr H.size 0]) (List.drop 0 [V.ptr H.size 0])=.func zBr [] [.ptr H.size 0]:=rfl
 refine⟨w,H3,Z3,r3.weaken g1.size,j3.trans j2,(g1.trans g2 g1.size).trans (g3.weaken g1.size) nl,fun q=>?_⟩
 simp only[zI4,a1,zT,k2,ef,zI,k3]
def setF (name v:Bs)(at':Nat):List Hd->Nat->List Hd
 | [],_=>[]
 | h::l,i=>if i=at' then(h.1,v)::setF name v at' l (i+1)else bif named name h then setF name v at' l (i+1)else h::setF name v at' l (i+1)
theorem setF_len (name v:Bs)(at':Nat):∀ (l:List Hd) (i:Nat),(setF name v at' l i).length<=l.length:=by
 intro l
 induction l with
 | nil=>intro i;exact Nat.le_refl _
 | cons h l ih =>
  intro i
  have:=ih (i+1)
  rw[setF]
  split
  ·simp;omega
  ·cases named name h <;> simp <;> omega
theorem zSn (c:zD)(N:Nat)(b:Nat)(name v:Bs)(h45:Is45 c name)(hs:List Hd)(hl:hs.length<=1000000)(hsz:∀ h ∈ hs,h.1.length<=140737488355328)(lv:V)(at' B:Nat) :
  ∀ (l pre out:List Hd) (o:V) (H:Heap) (fr:T V) (Z:Tape) (m:Nat),hs=pre++l->l.length<m->out.length+l.length<=1000000->WF H->B<=H.size->b<B->Bx H b [.str name] ->
  (∀ H',Gr B H H'->Rd H' 2 lv hs.length (hcells hs))->Apd H B 2 o out.length (hcells out) ->
  fr.get 4=some (.ptr b 0)->fr.get 8=some (.int .i64 (at':Int))->fr.get 9=some (.str v)->fr.get 11=some o->fr.get 34=some lv->fr.get 35=some (.int .i64 (hs.length:Int))->fr.get 36=some (.int .i64 (pre.length:Int)) ->
  ∃ o' H' Z',Apd H' B 2 o' (out++setF name v at' l pre.length).length (hcells (out++setF name v at' l pre.length))/\Gr B H H'/\∀ k,zAP (zBS c N) m ⟨fr,H⟩ Z k=k (.exit 0) ⟨(T.s .leaf 11 o'),H'⟩ Z':=by
 intro l
 induction l with
 | nil =>
  intro pre out o H fr Z m he hm hol hw hB hbB hb hrd ho f4 f8 f9 f11 f34 f35 f36
  obtain⟨m,rfl⟩:∃ j,m=j+1:=⟨m-1,by omega⟩
  have e1:decide ((pre.length:Int)<(hs.length:Int))=false:=decide_eq_false (by rw[he];simp)
  refine⟨o,H,Z,by simpa [setF] using ho,Gr.refl hw,fun k=>?_⟩
  rw[zF]
  simp only[zBS,zA f4,zA f8,zA f9,zA f11,zA f34,zA f35,zA f36,zL,e1,zK,seqK]
 | cons h l ih =>
  intro pre out o H fr Z m he hm hol hw hB hbB hb hrd ho f4 f8 f9 f11 f34 f35 f36
  obtain⟨m,rfl⟩:∃ j,m=j+1:=⟨m-1,by omega⟩
  have hlt:pre.length<hs.length:=by rw[he];simp
  have e1:decide ((pre.length:Int)<(hs.length:Int))=true:=decide_eq_true (by omega)
  have e3:wr .i64 ((pre.length:Int)+Int.ofNat 1)=((pre++[h]).length:Int):=by
   rw[zGB (by simp;omega) (by simp;omega)];simp
  have hr:=hrd H (Gr.refl hw)
  obtain⟨id,oo,p1,p2⟩:=hd_at (v:=lv) pre h l (H:=H) (by rw[<- he];exact hr)
  obtain⟨q1,_,_⟩:=p2 H (by rw[<- he];exact hr)
  obtain⟨H1,H2,a1,s1,b2,g2,lt2⟩:=box2 hw (.str h.1) (.str h.2) (.str []) (.str []) rfl rfl Z
  have s1':eStore 2 [.ptr H.size 0,hv h] H1 Z=some (.tup [],H2,Z):=s1
  have l1:zAp 2 [.ptr H.size 0] H2=some (hv h):=zAm b2.cells (by simp)
  have l1a:zH [.ptr H.size 0] H2=some (.str h.1):=zN b2.cells rfl
  have fa:zC 0 [.ptr H.size 0]=some (.ptr H.size 0):=rfl
  have hb2:Bx H2 b [.str name]:=hb.gr g2 (by omega)
  have ln:zH [.ptr b 0] H2=some (.str name):=zN hb2.cells rfl
  have ho2:=ho.gr g2 hw nl
  have elen:(pre++[h]).length=pre.length+1:=by simp
  have fin:∀ (out':List Hd) (o':V) (H':Heap) (Z':Tape),Apd H' B 2 o' out'.length (hcells out')->Gr B H H'->out'.length+l.length<=1000000->out'++setF name v at' l (pre.length+1)=out++setF name v at' (h::l) pre.length ->
    ∃ o'' H'' Z'',Apd H'' B 2 o'' (out++setF name v at' (h::l) pre.length).length (hcells (out++setF name v at' (h::l) pre.length))/\Gr B H H'' /\
     ∀ (fr':T V) k,fr'.get 4=some (.ptr b 0)->fr'.get 8=some (.int .i64 (at':Int))->fr'.get 9=some (.str v)->fr'.get 11=some o'->fr'.get 34=some lv->fr'.get 35=some (.int .i64 (hs.length:Int))->fr'.get 36=some (.int .i64 ((pre++[h]).length:Int)) ->
      zAP (zBS c N) m ⟨fr',H'⟩ Z' k=k (.exit 0) ⟨(T.s .leaf 11 o''),H''⟩ Z'':=by
   intro out' o' H' Z' ho' g' hl' hs'
   have key:=fun(fr':T V) h4 h8 h9 h11 h34 h35 h36=>ih (pre++[h]) out' o' H' fr' Z' m (by rw[he];simp) (by simp at hm;omega) hl' g'.wf (Nat.le_trans hB g'.size) hbB (hb.gr g' hbB) (fun H'' gg=>hrd H'' (g'.trans gg nl)) ho' h4 h8 h9 h11 h34 h35 h36
   let fr0:T V:=T.s (T.s (T.s (T.s (T.s (T.s (T.s .leaf 4 (.ptr b 0)) 8 (.int .i64 (at':Int))) 9 (.str v)) 11 o') 34 lv) 35 (.int .i64 (hs.length:Int))) 36 (.int .i64 ((pre++[h]).length:Int))
   obtain⟨o'',H'',Z'',z1,z2,z3⟩:=key fr0 (by simp[fr0,T.get_set]) (by simp[fr0,T.get_set]) (by simp[fr0,T.get_set]) (by simp[fr0,T.get_set]) (by simp[fr0,T.get_set]) (by simp[fr0,T.get_set]) (by simp[fr0,T.get_set])
   rw[elen,hs']at z1
   refine⟨o'',H'',Z'',z1,g'.trans z2 nl,fun fr' k h4 h8 h9 h11 h34 h35 h36=>?_⟩
   have same:∀ m k,zAP (zBS c N) (m+1) ⟨fr',H'⟩ Z' k=zAP (zBS c N) (m+1) ⟨fr0,H'⟩ Z' k:=by
    intro m k
    rw[zF,zF]
    have g4:fr0.get 4=some (.ptr b 0):=by simp[fr0,T.get_set]
    have g8:fr0.get 8=some (.int .i64 (at':Int)):=by simp[fr0,T.get_set]
    have g9:fr0.get 9=some (.str v):=by simp[fr0,T.get_set]
    have g11:fr0.get 11=some o':=by simp[fr0,T.get_set]
    have g34:fr0.get 34=some lv:=by simp[fr0,T.get_set]
    have g35:fr0.get 35=some (.int .i64 (hs.length:Int)):=by simp[fr0,T.get_set]
    have g36:fr0.get 36=some (.int .i64 ((pre++[h]).length:Int)):=by simp[fr0,T.get_set]
    simp only[zBS,zA h4,zA h8,zA h9,zA h11,zA h34,zA h35,zA h36,zA g4,zA g8,zA g9,zA g11,zA g34,zA g35,zA g36]
   obtain⟨m',rfl⟩:∃ j,m=j+1:=⟨m-1,by simp at hm;omega⟩
   rw[same];exact z3 k
  by_cases hat:pre.length=at'
  ·have e2:((pre.length:Int) ==(at':Int))=true:=by rw[beq_iff_eq,hat]
   have pb:zFA [(.str []),(.str [])] [(0,1),(1,1)] [.str h.1,.str v]=some (.agg [.str h.1,.str v]):=rfl
   obtain⟨w,H3,v4,H4,Z4,m1,m2,m3,m4,_,_⟩:=put2 ho2 g2.wf (Nat.le_trans hB g2.size) (h.1,v) (by omega) Z
   obtain⟨o'',H'',Z'',z1,z2,z3⟩:=fin (out++[(h.1,v)]) v4 H4 Z4 (by simpa using m3) ((g2.weaken hB).trans m4 nl) (by simp at hol ⊢;omega) (by rw[setF,if_pos hat];simp)
   refine⟨o'',H'',Z'',z1,z2,fun k=>?_⟩
   rw[zF]
   simp only[zBS,zA f4,zA f8,zA f9,zA f11,zA f34,zA f35,zA f36,zL,e1,zM,p1,q1,zI,a1,zT,s1',zZ,e2,fa,l1a,pb,m1,m2,zDr,zO,↓reduceIte,Nat.reduceEqDiff,zS,e3]
   exact z3 _ k (by simp[T.get_set]) (by simp[T.get_set]) (by simp[T.get_set]) (by simp[T.get_set]) (by simp[T.get_set]) (by simp[T.get_set]) (by simp[T.get_set])
  ·have e2:((pre.length:Int) ==(at':Int))=false:=by rw[beq_eq_false_iff_ne];intro h;exact hat (Int.ofNat.inj h)
   obtain⟨H3,Z3,g3,k3⟩:=h45 h (hsz h (by rw[he];simp)) H2 g2.wf Z
   have g13:Gr H.size H H3:=g2.trans g3 g2.size
   have ho3:=ho2.gr g3 g2.wf nl
   have l3:zAp 2 [.ptr H.size 0] H3=some (hv h):=zAm (b2.gr g3 lt2).cells (by simp)
   by_cases hnm:named name h=true
   ·obtain⟨o'',H'',Z'',z1,z2,z3⟩:=fin out o H3 Z3 ho3 (g13.weaken hB) (by simp at hol;omega) (by rw[setF,if_neg hat,hnm];rfl)
    refine⟨o'',H'',Z'',z1,z2,fun k=>?_⟩
    rw[zF]
    simp only[zBS,zA f4,zA f8,zA f9,zA f11,zA f34,zA f35,zA f36,zL,e1,zM,p1,q1,zI,a1,zT,s1',zZ,e2,zK,l1,ln,k3,hnm,zAN,Bool.not_true,zDr,zO,↓reduceIte,Nat.reduceEqDiff,zS,e3]
    exact z3 _ k (by simp[T.get_set]) (by simp[T.get_set]) (by simp[T.get_set]) (by simp[T.get_set]) (by simp[T.get_set]) (by simp[T.get_set]) (by simp[T.get_set])
   ·have hnm':named name h=false:=by simpa using hnm
    obtain⟨w,H4,v5,H5,Z5,m1,m2,m3,m4,_,_⟩:=put2 ho3 g13.wf (Nat.le_trans hB g13.size) h (by omega) Z3
    have m1':zR 1 2 [(.str []),(.str [])] [(0,2)] [hv h] H3 Z3=some (w,H4,Z3):=m1
    obtain⟨o'',H'',Z'',z1,z2,z3⟩:=fin (out++[h]) v5 H5 Z5 (by simpa using m3) ((g13.weaken hB).trans m4 nl) (by simp at hol ⊢;omega) (by rw[setF,if_neg hat,hnm'];simp)
    refine⟨o'',H'',Z'',z1,z2,fun k=>?_⟩
    rw[zF]
    simp only[zBS,zA f4,zA f8,zA f9,zA f11,zA f34,zA f35,zA f36,zL,e1,zM,p1,q1,zI,a1,zT,s1',zZ,e2,zK,l1,ln,k3,hnm',zAN,Bool.not_false,l3,m1',m2,zDr,zO,↓reduceIte,Nat.reduceEqDiff,zS,e3]
    exact z3 _ k (by simp[T.get_set]) (by simp[T.get_set]) (by simp[T.get_set]) (by simp[T.get_set]) (by simp[T.get_set]) (by simp[T.get_set]) (by simp[T.get_set])
def setE (n v:Bs)(hs:List Hd):Int:=if zKD n hs 0<0 then addE n v hs.length else mayE n v
def setT (n v:Bs)(hs:List Hd):List Hd:=if zKD n hs 0<0 then hs++[(n,valT v)]else setF n (valT v) (zKD n hs 0).toNat hs 0
theorem Apd.weaken {H:Heap}{B C z:Nat}{v:V}{n:Nat}{cs:List V}(h:Apd H C z v n cs)(hBC:B<=C):Apd H B z v n cs:=by
 rcases h with(h | ⟨id,e,room,fam,ver,pl,st,fr,h1,h2,h3,h4,h5,h6,h7⟩) | ⟨h1,h2,id,h3,h4⟩
 ·exact .inl (.inl h)
 ·exact .inl (.inr ⟨id,e,room,fam,ver,pl,st,fr,h1,h2,h3,h4,Nat.le_trans hBC h5,Nat.le_trans hBC h6,h7⟩)
 ·exact .inr ⟨h1,h2,id,h3,h4.weaken hBC⟩
theorem zQO (c:zD)(N:Nat)(hN:9223372036854775807<=N)(hs:List Hd)(hl:hs.length<1000000)(hsz:∀ h ∈ hs,h.1.length<=140737488355328)(n v:Bs)(lv:V)(H:Heap)(hw:WF H)(hr:Rd H 2 lv hs.length (hcells hs))(hsr:Src H lv)(Z:Tape)
  (h45:Is45 c n)
  (h49:∀ (b:Nat) (H:Heap),WF H->Rd H 2 lv hs.length (hcells hs)->H.cells? b=some [.str n]->∀ Z,∃ H' Z',Gr H.size H H'/\∀ q,c zA6 [lv,.func zCp [] [.ptr b 0]] H Z q=q (.int .i64 (zKD n hs 0)) H' Z')
  (h43:∀ (H:Heap),WF H->∀ Z,∃ H1 Z1,Gr H.size H H1/\∀ q,c zGR [.str n,.str v] H Z q=q (mayV n v) H1 Z1)
  (h19:∀ (H:Heap),WF H->Rd H 2 lv hs.length (hcells hs)->Src H lv->∀ Z,∃ r H' Z',Gr H.size H H'/\(addE n v hs.length=0->Apd H' H.size 2 r (hs.length+1) (hcells (hs++[(n,valT v)])))/\(addE n v hs.length≠0->r=.nils)/\∀ q,c zKJ [lv,.str n,.str v] H Z q=q (.tup [r,.int .i64 (addE n v hs.length)]) H' Z') :
  ∃ r H' Z',Gr H.size H H'/\(setE n v hs=0->Apd H' H.size 2 r (setT n v hs).length (hcells (setT n v hs)))/\(setE n v hs≠0->r=.nils)/\∀ q,zGa c N lv (.str n) (.str v) H Z q=q (.tup [r,.int .i64 (setE n v hs)]) H' Z':=by
 have a1:eBox [.str n] H Z=some (.ptr H.size 0,H.new [.str n] 1 true,Z):=rfl
 have g1:=Gr.new hw [.str n] 1 true
 have b1:=Bx.new H [.str n] 1 true nl
 have z1:(H.new [.str n] 1 true).size=H.size+1:=rfl
 generalize H.new [.str n] 1 true=H1 at a1 g1 b1 z1
 have hr1:=hr.gr g1 hw nl
 have hsr1:=hsr.gr g1 hw nl
 obtain⟨H2,Z2,g2,k2⟩:=h49 H.size H1 g1.wf hr1 b1.cells Z
 have hr2:=hr1.gr g2 g1.wf nl
 have hsr2:=hsr1.gr g2 g1.wf nl
 have b2:=b1.gr g2 (by omega)
 have g12:Gr H.size H H2:=g1.trans g2 g1.size
 have ln:zH [.ptr H.size 0] H2=some (.str n):=zN b2.cells rfl
 have x0:∀ a b:V,zG 0 [.tup [a,b]]=some a:=fun _ _=>rfl
 have x1:∀ a b:V,zG 1 [.tup [a,b]]=some b:=fun _ _=>rfl
 have ef:V.func zCp (List.take 0 [V.ptr H.size 0]) (List.drop 0 [V.ptr H.size 0])=.func zCp [] [.ptr H.size 0]:=rfl
 unfold setE setT
 by_cases hneg:zKD n hs 0<0
 ·rw[if_pos hneg,if_pos hneg]
  have e1:decide (zKD n hs 0<Int.ofNat 0)=true:=decide_eq_true hneg
  obtain⟨r,H3,Z3,g3,r1,r2,k3⟩:=h19 H2 g2.wf hr2 hsr2 Z2
  refine⟨r,H3,Z3,g12.trans g3 g12.size,fun h=>?_,r2,fun q=>?_⟩
  ·have:=Apd.weaken (r1 h) g12.size
   simpa using this
  ·simp only[zGa,a1,zT,ef,zI,k2,zL,e1,zM,ln,k3,x0,x1]
 ·rw[if_neg hneg,if_neg hneg]
  have e1:decide (zKD n hs 0<Int.ofNat 0)=false:=decide_eq_false hneg
  obtain⟨H3,Z3,g3,k3⟩:=h43 H2 g2.wf Z2
  have g13:Gr H.size H H3:=g12.trans g3 g12.size
  unfold mayV at k3
  generalize mayE n v=e at k3 ⊢
  by_cases he:e=0
  ·subst he
   have e2:((0:Int) != Int.ofNat 0)=false:=rfl
   rw[if_pos rfl]at k3
   have hat:zKD n hs 0=(((zKD n hs 0).toNat:Nat):Int):=by omega
   have hr3:=hr2.gr g3 g2.wf nl
   obtain⟨o',H4,Z4,o4,g4,k4⟩:=zSn c N H.size n (valT v) h45 hs (by omega) hsz lv (zKD n hs 0).toNat H3.size hs [] [] .nils H3 (T.s (T.s (T.s (T.s (T.s (T.s (T.s .leaf 4 (.ptr H.size 0)) 8 (.int .i64 (zKD n hs 0))) 9 (.str (valT v))) 11 .nils) 34 lv) 35 (.int .i64 (hs.length:Int))) 36 (.int .i64 (.ofNat 0))) Z3 N rfl (by omega) (by simp;omega) g3.wf nl
    (by have:=b2.lt g2.wf;have:=g3.size;omega) (b2.gr g3 (b2.lt g2.wf)) (fun H' gg=>hr3.gr gg g3.wf nl) (Apd.nil _ _ _) (by simp[T.get_set]) (by rw[<- hat];simp[T.get_set]) (by simp[T.get_set]) (by simp[T.get_set]) (by simp[T.get_set]) (by simp[T.get_set]) (by simp[T.get_set])
   refine⟨o',H4,Z4,g13.trans g4 g13.size,fun _=>(by simpa using Apd.weaken o4 g13.size),fun h=>absurd rfl h,fun q=>?_⟩
   simp only[zGa,a1,zT,ef,zI,k2,zL,e1,zK,ln,k3,x0,x1,zAE,e2,hr.pLen]
   rw[k4]
   simp only[zU,Nat.beq_refl,cond_true,seqK,zM3,zO,↓reduceIte]
   rfl
  ·have e2:(e != Int.ofNat 0)=true:=by rw[bne_iff_ne];exact he
   rw[if_neg he]at k3
   refine⟨.nils,H3,Z3,g13,fun h=>absurd h he,fun _=>rfl,fun q=>?_⟩
   simp only[zGa,a1,zT,ef,zI,k2,zL,e1,zK,ln,k3,x0,x1,zAE,e2,zM]
end Go.Am.X

namespace Go.Am.X
section
variable {N:Nat} (hN:9223372036854775807<N)
include hN
theorem zKW (d:Nat)(hd:1<=d)(n:Int)(H:Heap)(Z:Tape)(q:KV):C N d zBG [.int .i64 n] H Z q=q (.bool (decide (8<n))) H Z:=by
 obtain⟨d,rfl⟩:∃ e,d=e+1:=⟨d-1,by omega⟩
 exact zIx (C N d) N n H Z q
theorem zQ5 (d:Nat)(hd:1<=d)(n:Int)(H:Heap)(Z:Tape):∃ b,∀ q,C N d zHJ [.int .i32 n] H Z q=q (.bool b) H Z:=by
 obtain⟨d,rfl⟩:∃ e,d=e+1:=⟨d-1,by omega⟩
 exact zOf (C N d) N n H Z
theorem zMa (d:Nat)(hd:1<=d)(s:Bs)(x:UInt8)(H:Heap)(Z:Tape)(q:KV):C N d zBV [.str s,.int .u8 (x.toNat:Int)] H Z q=q (.int .i64 (idxB x.toNat s 0)) H Z:=by
 obtain⟨d,rfl⟩:∃ e,d=e+1:=⟨d-1,by omega⟩
 have e4:x.toNat % 256=x.toNat:=Nat.mod_eq_of_lt (u8_lt x)
 show effK (idxP [.str s,.int .u8 (.ofNat x.toNat)] H Z) q=_
 simp only[idxP,e4,zT]
theorem zKr (d:Nat)(hd:2<=d):Idx70 (C N d):=by
 intro s x H Z q
 obtain⟨d,rfl⟩:∃ e,d=e+1:=⟨d-1,by omega⟩
 exact zMg (C N d) N (fun s x H Z q=>zMa hN d (by omega) s x H Z q) s x H Z q
theorem zPX (d:Nat)(hd:3<=d)(cut:Bs)(ha:∀ x ∈ cut,x.toNat<128)(hl:cut.length<1000):Rune92 (C N d) cut:=by
 intro r H hw Z
 obtain⟨d,rfl⟩:∃ e,d=e+1:=⟨d-1,by omega⟩
 obtain⟨H',g,k⟩:=zMo (C N d) N (by omega) (zKr hN d (by omega)) (fun n H Z=>zQ5 hN d (by omega) n H Z) cut ha hl r H hw Z
 exact⟨H',g,k⟩
theorem d60' (d:Nat)(hd:1<=d)(cut:Bs)(ha:∀ x ∈ cut,x.toNat<128)(h3:cut.length<9223372036854775807)(H:Heap)(hw:WF H)(Z:Tape) :
  ∃ H',Gr H.size H H'/\∀ q,C N d zAe [.str cut] H Z q=q (.tup [.agg (mark (repl 256 [.bool false]) cut),.bool true]) H' Z:=by
 obtain⟨d,rfl⟩:∃ e,d=e+1:=⟨d-1,by omega⟩
 obtain⟨H',g,k⟩:=zGd (C N d) N (Nat.le_of_lt hN) cut ha h3 H hw Z retK
 exact⟨H',g,fun q=>(C_nat N (d+1)).mk (f:=zAe) (vs:=[.str cut]) k q⟩
theorem zOP (d:Nat)(hd:5<=d)(cut s:Bs)(ha:∀ x ∈ cut,x.toNat<128)(h2:2<=cut.length)(hl:cut.length<1000)(hs:s.length<9223372036854775807)(H:Heap)(hw:WF H)(Z:Tape) :
  ∃ H',Gr H.size H H'/\∀ q,C N d zD7 [.str s,.str cut] H Z q=q (.bool (s.any cut.contains)) H' Z:=by
 obtain⟨d,rfl⟩:∃ e,d=e+1+1:=⟨d-2,by omega⟩
 obtain⟨H',g,k⟩:=zNQ (C N d) N (Nat.le_of_lt hN) cut s ha h2 hs (zPX hN d (by omega) cut ha hl) (fun n H Z q=>zKW hN d (by omega) n H Z q) (fun H hw Z=>d60' hN d (by omega) cut ha (by omega) H hw Z)
  (fun id H hc x Z q=>by
   obtain⟨d,rfl⟩:∃ e,d=e+1:=⟨d-1,by omega⟩
   exact zHY hN d cut hc x Z q) H hw Z
 exact⟨H',g,fun q=>zLf (C N (d+1)) N cut s H H' Z k q⟩
theorem d35' (d:Nat)(hd:3<=d)(cut:Bs)(h2:2<=cut.length)(h3:cut.length<9223372036854775807)(ha:∀ x ∈ cut,x.toNat<128)(s:Bs)(hs:s.length<9223372036854775807)(H:Heap)(hw:WF H)(Z:Tape) :
  ∃ H',Gr H.size H H'/\∀ q,C N d zDL [.str s,.str cut] H Z q=q (.str (trimB cut.contains s)) H' Z:=by
 obtain⟨H',g,k⟩:=zLi hN d hd cut h2 h3 ha s hs H hw Z retK
 exact⟨H',g,fun q=>(C_nat N d).mk k q⟩
theorem zRL (d:Nat)(hd:6<=d)(s:Bs)(hs:s.length<9223372036854775807)(H:Heap)(hw:WF H)(Z:Tape):∃ H',Gr H.size H H'/\∀ q,C N d zH5 [.str s] H Z q=q (valV s) H' Z:=by
 obtain⟨d,rfl⟩:∃ e,d=e+1:=⟨d-1,by omega⟩
 obtain⟨H1,g1,k1⟩:=d35' hN d (by omega) [9,10,13,32] (by decide) (by decide) (by decide) s hs H hw Z
 obtain⟨H2,g2,k2⟩:=zOP hN d (by omega) [0,10,13] (valT s) (by decide) (by decide) (by decide) (by have:=zHf ([9,10,13,32]:Bs).contains s;unfold valT;omega) H1 g1.wf Z
 exact⟨H2,g1.trans g2 g1.size,fun q=>zPO (C N d) N s H H1 H2 Z Z Z k1 k2 q⟩
theorem zS9 (d:Nat)(hd:3<=d)(s:Bs)(hs:s.length<9223372036854775807)(H:Heap)(Z:Tape)(q:KV):C N d zJ6 [.str s] H Z q=q (.bool (tokT s)) H Z:=by
 obtain⟨d,rfl⟩:∃ e,d=e+1:=⟨d-1,by omega⟩
 exact zQf (C N d) N (Nat.le_of_lt hN) (zKr hN d (by omega)) s hs H Z q
theorem zQB (d:Nat)(hd:7<=d)(n v:Bs)(hn:n.length<9223372036854775807)(hv:v.length<9223372036854775807)(H:Heap)(hw:WF H)(Z:Tape):∃ H1 Z1,Gr H.size H H1/\∀ q,C N d zGR [.str n,.str v] H Z q=q (mayV n v) H1 Z1:=by
 obtain⟨d,rfl⟩:∃ e,d=e+1:=⟨d-1,by omega⟩
 obtain⟨H1,g1,k1⟩:=zRL hN d (by omega) v hv H hw Z
 exact⟨H1,Z,g1,fun q=>zQY (C N d) N n v H H1 Z Z k1 (fun q=>zS9 hN d (by omega) n hn H1 Z q) q⟩
theorem zJD (d:Nat)(hd:1<=d)(hs:List Hd)(hl:hs.length<=1000000)(v:V)(H:Heap)(hw:WF H)(hr:Rd H 2 v hs.length (hcells hs))(hsr:Src H v)(Z:Tape) :
  ∃ v' H' Z',Apd H' H.size 2 v' hs.length (hcells hs)/\(v'=.nils ↔ v=.nils)/\Gr H.size H H'/\∀ q,C N d zAM [v] H Z q=q v' H' Z':=by
 obtain⟨d,rfl⟩:∃ e,d=e+1:=⟨d-1,by omega⟩
 exact zET (C N d) N hs hl v H hw hr hsr Z
theorem zS0 (d:Nat)(hd:8<=d)(hs:List Hd)(hl:hs.length<=1000000)(n v:Bs)(hn:n.length<9223372036854775807)(hv:v.length<9223372036854775807)(lv:V)(H:Heap)(hw:WF H)(hr:Rd H 2 lv hs.length (hcells hs))(hsr:Src H lv)(Z:Tape) :
  ∃ r H' Z',Gr H.size H H'/\(addE n v hs.length=0->Apd H' H.size 2 r (hs.length+1) (hcells (hs++[(n,valT v)])))/\(addE n v hs.length≠0->r=.nils)/\∀ q,C N d zKJ [lv,.str n,.str v] H Z q=q (.tup [r,.int .i64 (addE n v hs.length)]) H' Z':=by
 obtain⟨d,rfl⟩:∃ e,d=e+1:=⟨d-1,by omega⟩
 exact zQa (C N d) N hs hl n v lv H hw hr hsr Z (zQB hN d (by omega) n v hn hv H hw Z) (fun H hw hr hsr Z=>zJD hN d (by omega) hs hl lv H hw hr hsr Z)
theorem d45' (d:Nat)(hd:4<=d)(name:Bs)(hm:name.length<=140737488355328):Is45 (C N d) name:=by
 intro h hh H hw Z
 obtain⟨H',Z',g,k⟩:=zQv hN d hd name hm h.1 h.2 hh H hw Z retK
 exact⟨H',Z',g,fun q=>(C_nat N d).mk k q⟩
theorem zJa (d:Nat)(hd:5<=d)(b:Nat)(name:Bs)(hm:name.length<=140737488355328):IsF (C N d) zBr b name/\IsF (C N d) zCp b name:=by
 obtain⟨d,rfl⟩:∃ e,d=e+1:=⟨d-1,by omega⟩
 refine⟨fun h hh H hw hb Z=>?_,fun h hh H hw hb Z=>?_⟩
 ·obtain⟨H',Z',g,k,_⟩:=zJ2 (C N d) N b name (d45' hN d (by omega) name hm) h hh H hw hb Z
  exact⟨H',Z',g,k⟩
 ·obtain⟨H',Z',g,_,k⟩:=zJ2 (C N d) N b name (d45' hN d (by omega) name hm) h hh H hw hb Z
  exact⟨H',Z',g,k⟩
theorem zGu (d:Nat)(hd:6<=d)(g b:Nat)(hg:g=zBr∨g=zCp)(name:Bs)(hm:name.length<=140737488355328)(hs:List Hd)(hl:hs.length<=1000000)(hsz:∀ h ∈ hs,h.1.length<=140737488355328)(lv:V)(H:Heap)(hw:WF H)
  (hr:Rd H 2 lv hs.length (hcells hs)) (hb:H.cells? b=some [.str name]) (Z:Tape):∃ H' Z',Gr H.size H H'/\∀ q,C N d zA6 [lv,.func g [] [.ptr b 0]] H Z q=q (.int .i64 (zKD name hs 0)) H' Z':=by
 obtain⟨d,rfl⟩:∃ e,d=e+1:=⟨d-1,by omega⟩
 refine zJf (C N d) N (Nat.le_of_lt hN) g b name ?_ hs hl hsz lv H hw hr hb Z
 rcases hg with rfl | rfl
 ·exact(zJa hN d (by omega) b name hm).1
 ·exact(zJa hN d (by omega) b name hm).2
theorem zSH (d:Nat)(hd:8<=d)(name:Bs)(hm:name.length<=140737488355328)(hs:List Hd)(hl:hs.length<=1000000)(hsz:∀ h ∈ hs,h.1.length<=140737488355328)(lv:V)(H:Heap)(hw:WF H)(hr:Rd H 2 lv hs.length (hcells hs))(hsr:Src H lv)(Z:Tape) :
  ∃ w H' Z',Got H' H.size 2 w (zBy name hs).length (hcells (zBy name hs))/\(w=.nils ↔ lv=.nils)/\Gr H.size H H'/\∀ q,C N d zDK [lv,.str name] H Z q=q w H' Z':=by
 obtain⟨d,rfl⟩:∃ e,d=e+1+1:=⟨d-2,by omega⟩
 refine zPs (C N (d+1)) N name hs lv H hw hr hsr Z (fun H hw hr hsr Z=>zJD hN (d+1) (by omega) hs hl lv H hw hr hsr Z) (fun b v H B hw hB hb ha hbx Z=>?_)
 exact zJO (C N d) N (Nat.le_of_lt hN) zBr b name (zJa hN d (by omega) b name hm).1 hs hl hsz v H hw B hB hb ha hbx Z (zGu hN d (by omega) zBr b (.inl rfl) name hm hs hl hsz v H hw ha.rd hbx.cells Z)
theorem zTL (d:Nat)(hd:9<=d)(hs:List Hd)(hl:hs.length<1000000)(hsz:∀ h ∈ hs,h.1.length<=140737488355328)(n v:Bs)(hn:n.length<=140737488355328)(hv:v.length<9223372036854775807)(lv:V)(H:Heap)(hw:WF H)(hr:Rd H 2 lv hs.length (hcells hs))(hsr:Src H lv)(Z:Tape) :
  ∃ r H' Z',Gr H.size H H'/\(setE n v hs=0->Apd H' H.size 2 r (setT n v hs).length (hcells (setT n v hs)))/\(setE n v hs≠0->r=.nils)/\∀ q,C N d zDu [lv,.str n,.str v] H Z q=q (.tup [r,.int .i64 (setE n v hs)]) H' Z':=by
 obtain⟨d,rfl⟩:∃ e,d=e+1:=⟨d-1,by omega⟩
 exact zQO (C N d) N (Nat.le_of_lt hN) hs hl hsz n v lv H hw hr hsr Z (d45' hN d (by omega) n hn) (fun b H hw hr hb Z=>zGu hN d (by omega) zCp b (.inr rfl) n hn hs (by omega) hsz lv H hw hr hb Z)
  (fun H hw Z=>zQB hN d (by omega) n v (by omega) hv H hw Z) (fun H hw hr hsr Z=>zS0 hN d (by omega) hs (by omega) n v (by omega) hv lv H hw hr hsr Z)
end
end Go.Am.X

namespace Go.Am.X
abbrev NB:Nat:=9223372036854775808
theorem nb:9223372036854775807<NB:=by decide
theorem tab_all (f:Nat)(d:Def)(h:tabF.get f=some d)(base:Base)(w0:World):zQ2 PG base w0 f d:=defs_ok (all_ok base w0) f d h
theorem zOV (d f:Nat){R:List V->Heap->Out->Prop}
  (hR:∀ vs H o,WF H->VsOk H vs->R vs H o->∀ Z,∃ v H' Z',C NB d f vs H Z retK=some (v,H',Z')/\Gr H.size H H'/\o.Met H v H'):∀ base w0,zCP PG base w0 f (outP R) :=
 zSP zMT (tab_ok NB) tab_all d f hR
def strP (M:Nat):List V->Prop | [.str s]=>s.length<=M | _=>False
def strG (g:Bs->V):List V->V | [.str s]=>g s | _=>.tup []
abbrev RS (M:Nat)(g:Bs->V):=RV (strP M) (strG g)
theorem primS (d f M:Nat)(g:Bs->V)(hv:∀ s H,VOk H (g s))(h:∀ s:Bs,s.length<=M->∀ H,WF H->∀ Z,∃ H' Z',Gr H.size H H'/\∀ q,C NB d f [.str s] H Z q=q (g s) H' Z'):∀ base w0,zCP PG base w0 f (outP (RS M g)):=by
 refine zOV d f ?_
 rintro vs H o hw hvs ⟨hp,rfl⟩ Z
 unfold strP at hp
 split at hp
 ·rename_i s
  obtain⟨H',Z',g1,k1⟩:=h s hp H hw Z
  exact⟨_,H',Z',k1 retK,g1,rfl,hv s H⟩
 ·exact hp.elim
theorem callS {c:zD}{f M:Nat}{g:Bs->V}(hc:∀ vs H Z q,c f vs H Z q=effK (outP (RS M g) vs H Z) q)(s:Bs)(hs:s.length<=M)(H:Heap)(Z:Tape)(q:KV):c f [.str s] H Z q=q (g s) H Z:=zTP hc (vs:=[.str s]) hs H Z q
abbrev LowR:=RS 140737488355328 fun s=>.str (lower s)
theorem zP0:∀ base w0,zCP PG base w0 zBU (outP LowR):=primS 3 _ _ _ (fun _ _=>trivial) fun s hs H hw Z=>by
 obtain⟨H',Z',g,k⟩:=zP4 nb 3 (by omega) s hs H hw Z retK
 exact⟨H',Z',g,fun q=>(C_nat NB 3).mk k q⟩
end Go.Am.X

namespace Go.Am.X
end Go.Am.X

