/- The abstract machine, printed functions of the program, and what they are shown to be. -/
import Derived.Test.YtejpgcemblankaaGreatDoorCFRL2
import Derived.Test.YtejpgcemblankaaGreatDoorCFRM4
import Derived.Test.YtejpgcemblankaaGreatDoorCFROk
import Derived.Test.YtejpgcemblankaaGreatDoorCFRL1
import Derived.Test.YtejpgcemblankaaGreatDoorCFRM5
set_option linter.unusedSimpArgs false
set_option linter.unusedVariables false
set_option linter.unusedSectionVars false
set_option maxRecDepth 100000
namespace Go.Am.X
abbrev Hd:=Bs × Bs
def hv (h:Hd):V:=.agg [.str h.1,.str h.2]
theorem hcells_scal (hs:List Hd):(hcells hs).all V.scal=true:=by
 induction hs with
 | nil=>rfl
 | cons h l ih=>rw[zC2];simp only[List.all_cons,ih];rfl
theorem zPL (pre l:List Hd):(hcells (pre++l)).drop (pre.length*2)=hcells l:=by
 rw[zMZ,<- zMa pre,List.drop_left]
theorem hcells_at (pre:List Hd)(h:Hd)(l:List Hd):((hcells (pre++h::l)).drop (pre.length*2)).take 2=[.str h.1,.str h.2]:=by
 rw[zPL,zC2];rfl
theorem hcells_at0 (pre:List Hd)(h:Hd)(l:List Hd):(hcells (pre++h::l))[pre.length*2+0]?=some (.str h.1):=by
 rw[<- List.getElem?_drop,zPL,zC2];rfl
theorem hcells_at1 (pre:List Hd)(h:Hd)(l:List Hd):(hcells (pre++h::l))[pre.length*2+1]?=some (.str h.2):=by
 rw[<- List.getElem?_drop,zPL,zC2];rfl
theorem hd_at {H:Heap}{v:V}(pre:List Hd)(h:Hd)(l:List Hd)(hr:Rd H 2 v (pre++h::l).length (hcells (pre++h::l))) :
  ∃ id o,zBR 2 [v,.int .i64 (pre.length:Int)]=some (.ptr id o)/\∀ H',Rd H' 2 v (pre++h::l).length (hcells (pre++h::l))->zBA 2 [.ptr id o] H'=some (hv h)/\zM [.ptr id o] H'=some (.str h.1)/\zM [.ptr id (o+1)] H'=some (.str h.2):=by
 obtain⟨id,o,k1,k2⟩:=hr.at (by omega) (i:=pre.length) (by simp)
 refine⟨id,o,k1,fun H' h'=>?_⟩
 obtain⟨q1,q2⟩:=k2 H' _ h'
 rw[hcells_at]at q1
 exact⟨q1,q2 0 _ (by omega) (hcells_at0 _ _ _),q2 1 _ (by omega) (hcells_at1 _ _ _)⟩
theorem zSC {z bytes id off len lo:Nat}{ex:Option Nat}{z':Nat}{x:V}{H H':Heap}{Z Z':Tape}(h:zq z bytes [.sl id off len lo ex z',x] H Z=some (.nils,H',Z')):False:=by
 simp only[zq,Am.append,fresh,Bool.cond_eq_ite]at h
 repeat' (split at h)
 all_goals first | (cases h;done) | skip
theorem zGX (c:zC)(N:Nat)(hs:List Hd)(hl:hs.length<=1000000)(v:V)(H:Heap)(hw:WF H)(hr:Rd H 2 v hs.length (hcells hs))(hsr:Src H v)(Z:Tape) :
  ∃ v' H' Z',Apd H' H.size 2 v' hs.length (hcells hs)/\(v'=.nils ↔ v=.nils)/\Gr H.size H H'/\∀ q,zCU c N v H Z q=q v' H' Z':=by
 by_cases hv:v=.nils
 ·subst hv
  have h0:hs.length=0/\hcells hs=[]:=by
   rcases hr with⟨_,a,b⟩ | ⟨_,_,_,_,_,e,_⟩
   ·exact⟨a,b⟩
   ·cases e
  have e1:pEq false .slice [.nils,.nils]=some (.bool true):=rfl
  refine⟨.nils,H,Z,?_,Iff.rfl,Gr.refl hw,fun q=>?_⟩
  ·rw[h0.1,h0.2];exact Apd.nil _ _ _
  ·simp only[zCU,e1,zJ,zQ]
 ·have e1:pEq false .slice [v,.nils]=some (.bool false):=by
   rcases hr with⟨rfl | ⟨_,_,_,_,rfl⟩,_⟩ | ⟨_,_,_,_,_,rfl,_⟩
   ·exact absurd rfl hv
   ·rfl
   ·rfl
  have a1:zP 0 2 [] [] [] H Z=some (.sl H.size 0 0 0 none 2,H.new [] (0*2) false,Z):=rfl
  have g1:=Gr.new hw [] (0*2) false
  have c1:=zJM H [] (0*2) false
  have o1:Apd (H.new [] (0*2) false) H.size 2 (.sl H.size 0 0 0 none 2) 0 []:=.inr ⟨rfl,rfl,_,rfl,Blk.new H [] (0*2) false nl⟩
  obtain⟨v',H',Z',r1,r2,r3,_⟩:=o1.append (bytes:=32) g1.wf g1.size (hr.gr g1 hw nl) (hsr.gr g1 hw nl) (hcells_scal hs) (by omega) (by omega) Z
  refine⟨v',H',Z',by simpa using r2,⟨fun h=>?_,fun h=>absurd h hv⟩,g1.trans r3 nl,fun q=>?_⟩
  ·exfalso;subst h;exact zSC r1
  simp only[zCU,e1,zJ,zO,a1,zh,r1]
theorem put2 {H:Heap}{B:Nat}{v:V}{hs:List Hd}{n:Nat}(h:Apd H B 2 v n (hcells hs))(hw:WF H)(hB:B<=H.size)(x:Hd)(hn:n<=1000000)(Z:Tape) :
  ∃ w H1 v' H' Z',zP 1 2 [(.str []),(.str [])] [(0,2)] [.agg [.str x.1,.str x.2]] H Z=some (w,H1,Z)/\zq 2 32 [v,w] H1 Z=some (v',H',Z')/\Apd H' B 2 v' (n+1) (hcells (hs++[x]))/\Gr B H H'/\(∀ id cs,H.cells? id=some cs->H'.cells? id=some cs)/\Gr B H H1:=by
 obtain⟨v',H',Z',r1,r2,r3,r4⟩:=h.put (bytes:=32) hw hB [.str x.1,.str x.2] rfl rfl (by omega) (by omega) Z
 refine⟨_,_,v',H',Z',rfl,r1,?_,r3,r4,(Gr.new hw _ _ _).weaken hB⟩
 rw[zMZ];exact r2
def addE (n v:Bs)(k:Nat):Int:=if mayE n v=0 then(if 64<=k then 4 else 0)else mayE n v
theorem zQO (c:zC)(N:Nat)(hs:List Hd)(hl:hs.length<=1000000)(n v:Bs)(lv:V)(H:Heap)(hw:WF H)(hr:Rd H 2 lv hs.length (hcells hs))(hsr:Src H lv)(Z:Tape)
  (h43:∃ H1 Z1,Gr H.size H H1/\∀ q,c zF4 [.str n,.str v] H Z q=q (mayV n v) H1 Z1)
  (h44:∀ (H:Heap),WF H->Rd H 2 lv hs.length (hcells hs)->Src H lv->∀ Z,∃ v' H' Z',Apd H' H.size 2 v' hs.length (hcells hs)/\(v'=.nils ↔ lv=.nils)/\Gr H.size H H'/\∀ q,c zA3 [lv] H Z q=q v' H' Z') :
  ∃ r H' Z',Gr H.size H H'/\(addE n v hs.length=0->Apd H' H.size 2 r (hs.length+1) (hcells (hs++[(n,valT v)])))/\(addE n v hs.length≠0->r=.nils)/\∀ q,zF8 c N lv (.str n) (.str v) H Z q=q (.tup [r,.int .i64 (addE n v hs.length)]) H' Z':=by
 obtain⟨H1,Z1,g1,k1⟩:=h43
 have x0:∀ a b:V,zH 0 [.tup [a,b]]=some a:=fun _ _=>rfl
 have x1:∀ a b:V,zH 1 [.tup [a,b]]=some b:=fun _ _=>rfl
 have pl:=hr.pLen
 unfold addE
 unfold mayV at k1
 generalize mayE n v=e at k1 ⊢
 by_cases he:e=0
 ·subst he
  have e1:((0:Int) == Int.ofNat 0)=true:=rfl
  have e2:((0:Int) != Int.ofNat 0)=false:=rfl
  rw[if_pos rfl]at k1 ⊢
  by_cases h64:64<=hs.length
  ·have e3:decide (Int.ofNat 64<=(hs.length:Int))=true:=decide_eq_true (by simp;omega)
   have e4:(Int.ofNat 4 != Int.ofNat 0)=true:=rfl
   rw[if_pos h64]
   refine⟨.nils,H1,Z1,g1,fun h=>absurd h (by decide),fun _=>rfl,fun q=>?_⟩
   simp only[zF8,k1,x0,x1,zJ,zAv,e1,zCs,retK,zh,pl,zBa,e3,zS,cond_true,zQ,zE5,zV,↓reduceIte,Nat.reduceEqDiff,zEF,e4]
   rfl
  ·have e3:decide (Int.ofNat 64<=(hs.length:Int))=false:=decide_eq_false (by simp;omega)
   rw[if_neg h64]
   obtain⟨v2,H2,Z2,o2,_,g2,k2⟩:=h44 H1 g1.wf (hr.gr g1 hw nl) (hsr.gr g1 hw nl) Z1
   obtain⟨w,H3,v4,H4,Z4,m1,m2,m3,m4,_⟩:=put2 o2 g2.wf g2.size (n,valT v) hl Z2
   have pb:zC7 [(.str []),(.str [])] [(0,1),(1,1)] [.str n,.str (valT v)]=some (.agg [.str n,.str (valT v)]):=rfl
   refine⟨v4,H4,Z4,(g1.trans g2 g1.size).trans m4 g1.size,fun _=>?_,fun h=>absurd rfl h,fun q=>?_⟩
   ·rcases m3 with m3 | ⟨h0,_⟩
    ·refine .inl ?_
     rcases m3 with h | ⟨id,e,room,fam,ver,pl,st,fr,h1,h2,h3,h4,h5,h6,h7⟩
     ·exact .inl h
     ·exact .inr ⟨id,e,room,fam,ver,pl,st,fr,h1,h2,h3,h4,Nat.le_trans g1.size h5,Nat.le_trans g1.size h6,h7⟩
    ·omega
   ·simp only[zF8,k1,x0,x1,zJ,zAv,e1,zCs,retK,zh,pl,zBa,e3,zS,cond_true,zO,zE5,zV,↓reduceIte,Nat.reduceEqDiff,zEF,e2,k2,pb,m1,m2]
    rfl
 ·have e1:(e == Int.ofNat 0)=false:=by rw[beq_eq_false_iff_ne];exact he
  have e2:(e != Int.ofNat 0)=true:=by rw[bne_iff_ne];exact he
  rw[if_neg he]at k1 ⊢
  refine⟨.nils,H1,Z1,g1,fun h=>absurd h he,fun _=>rfl,fun q=>?_⟩
  simp only[zF8,k1,x0,x1,zJ,zAv,e1,zBP,zCo,zS,cond_false,zO,zE5,zV,↓reduceIte,Nat.reduceEqDiff,zEF,e2,zQ]
def named (name:Bs)(h:Hd):Bool:=lower h.1 == lower name
def zKp (name:Bs):List Hd->Nat->Int
 | [],_=>-1
 | h::l,i=>bif named name h then(i:Int)else zKp name l (i+1)
def IsF (c:zC)(g b:Nat)(name:Bs):Prop:=∀ (h:Hd),h.1.length<=140737488355328->∀ (H:Heap),WF H->H.cells? b=some [.str name]->∀ Z,∃ H' Z',Gr H.size H H'/\∀ q,c g [hv h,.ptr b 0] H Z q=q (.bool (named name h)) H' Z'
abbrev Is45 (c:zC)(name:Bs):Prop:=∀ (h:Hd),h.1.length<=140737488355328->∀ (H:Heap),WF H->∀ Z,∃ H' Z',Gr H.size H H'/\∀ q,c zDm [hv h,.str name] H Z q=q (.bool (named name h)) H' Z'
theorem zJs (c:zC)(N:Nat)(b:Nat)(name:Bs)(h45:Is45 c name)(h:Hd)(hh:h.1.length<=140737488355328)(H:Heap)(hw:WF H)(hb:H.cells? b=some [.str name])(Z:Tape) :
  ∃ H' Z',Gr H.size H H'/\(∀ q,zGq c N (hv h) (.ptr b 0) H Z q=q (.bool (named name h)) H' Z')/\(∀ q,zHv c N (hv h) (.ptr b 0) H Z q=q (.bool (named name h)) H' Z'):=by
 have a1:eBox [hv h] H Z=some (.ptr H.size 0,H.new [.str h.1,.str h.2] 2 true,Z):=rfl
 have g1:=Gr.new hw [.str h.1,.str h.2] 2 true
 have c1:=zJM H [.str h.1,.str h.2] 2 true
 have b1:=g1.cells hw nl hb
 generalize H.new [.str h.1,.str h.2] 2 true=H1 at a1 g1 c1 b1
 have l1:zBA 2 [.ptr H.size 0] H1=some (hv h):=zAw c1 (by simp)
 have l2:zM [.ptr b 0] H1=some (.str name):=zR b1 rfl
 obtain⟨H2,Z2,g2,k2⟩:=h45 h hh H1 g1.wf Z
 exact⟨H2,Z2,g1.trans g2 g1.size,fun q=>by simp only[zGq,a1,zh,l1,l2,zJ,k2],fun q=>by simp only[zHv,a1,zh,l1,l2,zJ,k2]⟩
theorem zLS (c:zC)(N:Nat)(g b:Nat)(name:Bs)(hf:IsF c g b name)(hs:List Hd)(hl:hs.length<=1000000)(hsz:∀ h ∈ hs,h.1.length<=140737488355328)(lv:V) :
  ∀ (l pre:List Hd) (H:Heap) (fr:T V) (Z:Tape) (m:Nat),hs=pre++l->l.length<m->WF H->Rd H 2 lv hs.length (hcells hs)->H.cells? b=some [.str name] ->
  fr.get 0=some lv->fr.get 1=some (.func g [] [.ptr b 0])->fr.get 7=some (.int .i64 (hs.length:Int))->fr.get 8=some (.int .i64 (pre.length:Int)) ->
  ∃ H' Z',Gr H.size H H'/\∀ q,zAZ (zAu c N) m ⟨fr,H⟩ Z (zX 0 (seqK (zFN c N q) (endK [(.t 4)] q)))=q (.int .i64 (zKp name l pre.length)) H' Z':=by
 intro l
 induction l with
 | nil =>
  intro pre H fr Z m he hm hw hr hb f0 f1 f7 f8
  obtain⟨m,rfl⟩:∃ j,m=j+1:=⟨m-1,by omega⟩
  refine⟨H,Z,Gr.refl hw,fun q=>?_⟩
  have e1:decide ((pre.length:Int)<(hs.length:Int))=false:=decide_eq_false (by rw[he];simp)
  rw[zI]
  simp only[zAu,zA f0,zA f1,zA f7,zA f8,zN,e1,zO]
  rfl
 | cons h l ih =>
  intro pre H fr Z m he hm hw hr hb f0 f1 f7 f8
  obtain⟨m,rfl⟩:∃ j,m=j+1:=⟨m-1,by omega⟩
  have hlt:pre.length<hs.length:=by rw[he];simp
  have e1:decide ((pre.length:Int)<(hs.length:Int))=true:=decide_eq_true (by omega)
  have e3:wr .i64 ((pre.length:Int)+Int.ofNat 1)=((pre++[h]).length:Int):=by
   rw[zEE (by simp;omega) (by simp;omega)];simp
  obtain⟨id,o,p1,p2⟩:=hd_at (v:=lv) pre h l (H:=H) (by rw[<- he];exact hr)
  obtain⟨q1,_,_⟩:=p2 H (by rw[<- he];exact hr)
  obtain⟨H1,Z1,g1,k1⟩:=hf h (hsz h (by rw[he];simp)) H hw hb Z
  have kv:∀ q,opK c .callv [.func g [] [.ptr b 0],hv h] H Z q=q (.bool (named name h)) H1 Z1:=k1
  by_cases hn:named name h=true
  ·refine⟨H1,Z1,g1,fun q=>?_⟩
   rw[zI,zKp,hn,cond_true]
   simp only[zAu,zA f0,zA f1,zA f7,zA f8,zN,e1,zQ,p1,q1,zJ,kv,hn]
   rfl
  ·have hn':named name h=false:=by simpa using hn
   obtain⟨H2,Z2,g2,k2⟩:=ih (pre++[h]) H1 (T.s (T.s (T.s (T.s (T.s (T.s .leaf 0 lv) 1 (.func g [] [.ptr b 0])) 7 (.int .i64 (hs.length:Int))) 8 (.int .i64 (pre.length:Int))) 18 (.int .i64 ((pre++[h]).length:Int))) 8 (.int .i64 ((pre++[h]).length:Int))) Z1 m
    (by rw[he];simp) (by simp at hm;omega) g1.wf (hr.gr g1 hw nl) (g1.cells hw nl hb) (by simp[T.get_set]) (by simp[T.get_set]) (by simp[T.get_set]) (by simp[T.get_set])
   refine⟨H2,Z2,g1.trans g2 g1.size,fun q=>?_⟩
   rw[zI,zKp,hn',cond_false]
   simp only[zAu,zA f0,zA f1,zA f7,zA f8,zN,e1,zQ,p1,q1,zJ,kv,hn',zO,ze,e3]
   rw[show pre.length+1=(pre++[h]).length by simp]
   exact k2 q
theorem zJZ (c:zC)(N:Nat)(hN:9223372036854775807<=N)(g b:Nat)(name:Bs)(hf:IsF c g b name)(hs:List Hd)(hl:hs.length<=1000000)(hsz:∀ h ∈ hs,h.1.length<=140737488355328)(lv:V)(H:Heap)(hw:WF H)
  (hr:Rd H 2 lv hs.length (hcells hs)) (hb:H.cells? b=some [.str name]) (Z:Tape):∃ H' Z',Gr H.size H H'/\∀ q,zCG c N lv (.func g [] [.ptr b 0]) H Z q=q (.int .i64 (zKp name hs 0)) H' Z':=by
 obtain⟨H',Z',g',k⟩:=zLS c N g b name hf hs hl hsz lv hs [] H (T.s (T.s (T.s (T.s .leaf 0 lv) 1 (.func g [] [.ptr b 0])) 7 (.int .i64 (hs.length:Int))) 8 (.int .i64 (.ofNat 0))) Z N rfl (by omega) hw hr hb (by simp[T.get_set]) (by simp[T.get_set]) (by simp[T.get_set]) (by simp[T.get_set])
 refine⟨H',Z',g',fun q=>?_⟩
 simp only[zCG,hr.pLen,zJ]
 exact k q
theorem findI_spec (name:Bs):∀ (l:List Hd) (i:Nat),(zKp name l i=-1/\∀ h ∈ l,named name h=false)∨∃ a h r,l=a++h::r/\(∀ x ∈ a,named name x=false)/\named name h=true/\zKp name l i=((i+a.length:Nat):Int):=by
 intro l
 induction l with
 | nil=>intro i;exact .inl ⟨rfl,fun h hh=>by simp at hh⟩
 | cons h l ih =>
  intro i
  by_cases hn:named name h=true
  ·refine .inr ⟨[],h,l,rfl,fun x hx=>by simp at hx,hn,?_⟩
   rw[zKp,hn];rfl
  ·have hn':named name h=false:=by simpa using hn
   rcases ih (i+1)with⟨h1,h2⟩ | ⟨a,x,r,h1,h2,h3,h4⟩
   ·refine .inl ⟨by rw[zKp,hn'];exact h1,fun x hx=>?_⟩
    rcases List.mem_cons.1 hx with rfl | hx
    ·exact hn'
    ·exact h2 x hx
   ·refine .inr ⟨h::a,x,r,by rw[h1];rfl,fun y hy=>?_,h3,?_⟩
    ·rcases List.mem_cons.1 hy with rfl | hy
     ·exact hn'
     ·exact h2 y hy
    ·rw[zKp,hn',cond_false,h4];simp;omega
end Go.Am.X

namespace Go.Am.X
def setF (name v:Bs)(at':Nat):List Hd->Nat->List Hd
 | [],_=>[]
 | h::l,i=>if i=at' then(h.1,v)::setF name v at' l (i+1)else bif named name h then setF name v at' l (i+1)else h::setF name v at' l (i+1)
theorem setF_len (name v:Bs)(at':Nat):∀ (l:List Hd) (i:Nat),(setF name v at' l i).length<=l.length:=by
 intro l
 induction l with
 | nil=>intro i;exact Nat.le_refl _
 | cons h l ih =>
  intro i
  have:=ih (i+1)
  rw[setF]
  split
  ·simp;omega
  ·cases named name h <;> simp <;> omega
theorem zSh (c:zC)(N:Nat)(b:Nat)(name v:Bs)(h45:Is45 c name)(hs:List Hd)(hl:hs.length<=1000000)(hsz:∀ h ∈ hs,h.1.length<=140737488355328)(lv:V)(at' B:Nat) :
  ∀ (l pre out:List Hd) (o:V) (H:Heap) (fr:T V) (Z:Tape) (m:Nat),hs=pre++l->l.length<m->out.length+l.length<=1000000->WF H->B<=H.size->b<B->Bx H b [.str name] ->
  (∀ H',Gr B H H'->Rd H' 2 lv hs.length (hcells hs))->Apd H B 2 o out.length (hcells out) ->
  fr.get 4=some (.ptr b 0)->fr.get 8=some (.int .i64 (at':Int))->fr.get 9=some (.str v)->fr.get 11=some o->fr.get 34=some lv->fr.get 35=some (.int .i64 (hs.length:Int))->fr.get 36=some (.int .i64 (pre.length:Int)) ->
  ∃ o' H' Z',Apd H' B 2 o' (out++setF name v at' l pre.length).length (hcells (out++setF name v at' l pre.length))/\Gr B H H'/\∀ k,zAZ (zA9 c N) m ⟨fr,H⟩ Z k=k (.exit 0) ⟨(T.s .leaf 11 o'),H'⟩ Z':=by
 intro l
 induction l with
 | nil =>
  intro pre out o H fr Z m he hm hol hw hB hbB hb hrd ho f4 f8 f9 f11 f34 f35 f36
  obtain⟨m,rfl⟩:∃ j,m=j+1:=⟨m-1,by omega⟩
  have e1:decide ((pre.length:Int)<(hs.length:Int))=false:=decide_eq_false (by rw[he];simp)
  refine⟨o,H,Z,by simpa [setF] using ho,Gr.refl hw,fun k=>?_⟩
  rw[zI]
  simp only[zA9,zA f4,zA f8,zA f9,zA f11,zA f34,zA f35,zA f36,zN,e1,zO,seqK]
 | cons h l ih =>
  intro pre out o H fr Z m he hm hol hw hB hbB hb hrd ho f4 f8 f9 f11 f34 f35 f36
  obtain⟨m,rfl⟩:∃ j,m=j+1:=⟨m-1,by omega⟩
  have hlt:pre.length<hs.length:=by rw[he];simp
  have e1:decide ((pre.length:Int)<(hs.length:Int))=true:=decide_eq_true (by omega)
  have e3:wr .i64 ((pre.length:Int)+Int.ofNat 1)=((pre++[h]).length:Int):=by
   rw[zEE (by simp;omega) (by simp;omega)];simp
  have hr:=hrd H (Gr.refl hw)
  obtain⟨id,oo,p1,p2⟩:=hd_at (v:=lv) pre h l (H:=H) (by rw[<- he];exact hr)
  obtain⟨q1,_,_⟩:=p2 H (by rw[<- he];exact hr)
  obtain⟨H1,H2,a1,s1,b2,g2,lt2⟩:=box2 hw (.str h.1) (.str h.2) (.str []) (.str []) rfl rfl Z
  have s1':eStore 2 [.ptr H.size 0,hv h] H1 Z=some (.tup [],H2,Z):=s1
  have l1:zBA 2 [.ptr H.size 0] H2=some (hv h):=zAw b2.cells (by simp)
  have l1a:zM [.ptr H.size 0] H2=some (.str h.1):=zR b2.cells rfl
  have fa:zF 0 [.ptr H.size 0]=some (.ptr H.size 0):=rfl
  have hb2:Bx H2 b [.str name]:=hb.gr g2 (by omega)
  have ln:zM [.ptr b 0] H2=some (.str name):=zR hb2.cells rfl
  have ho2:=ho.gr g2 hw nl
  have elen:(pre++[h]).length=pre.length+1:=by simp
  have fin:∀ (out':List Hd) (o':V) (H':Heap) (Z':Tape),Apd H' B 2 o' out'.length (hcells out')->Gr B H H'->out'.length+l.length<=1000000->out'++setF name v at' l (pre.length+1)=out++setF name v at' (h::l) pre.length ->
    ∃ o'' H'' Z'',Apd H'' B 2 o'' (out++setF name v at' (h::l) pre.length).length (hcells (out++setF name v at' (h::l) pre.length))/\Gr B H H'' /\
     ∀ (fr':T V) k,fr'.get 4=some (.ptr b 0)->fr'.get 8=some (.int .i64 (at':Int))->fr'.get 9=some (.str v)->fr'.get 11=some o'->fr'.get 34=some lv->fr'.get 35=some (.int .i64 (hs.length:Int))->fr'.get 36=some (.int .i64 ((pre++[h]).length:Int)) ->
      zAZ (zA9 c N) m ⟨fr',H'⟩ Z' k=k (.exit 0) ⟨(T.s .leaf 11 o''),H''⟩ Z'':=by
   intro out' o' H' Z' ho' g' hl' hs'
   have key:=fun(fr':T V) h4 h8 h9 h11 h34 h35 h36=>ih (pre++[h]) out' o' H' fr' Z' m (by rw[he];simp) (by simp at hm;omega) hl' g'.wf (Nat.le_trans hB g'.size) hbB (hb.gr g' hbB) (fun H'' gg=>hrd H'' (g'.trans gg nl)) ho' h4 h8 h9 h11 h34 h35 h36
   let fr0:T V:=T.s (T.s (T.s (T.s (T.s (T.s (T.s .leaf 4 (.ptr b 0)) 8 (.int .i64 (at':Int))) 9 (.str v)) 11 o') 34 lv) 35 (.int .i64 (hs.length:Int))) 36 (.int .i64 ((pre++[h]).length:Int))
   obtain⟨o'',H'',Z'',z1,z2,z3⟩:=key fr0 (by simp[fr0,T.get_set]) (by simp[fr0,T.get_set]) (by simp[fr0,T.get_set]) (by simp[fr0,T.get_set]) (by simp[fr0,T.get_set]) (by simp[fr0,T.get_set]) (by simp[fr0,T.get_set])
   rw[elen,hs']at z1
   refine⟨o'',H'',Z'',z1,g'.trans z2 nl,fun fr' k h4 h8 h9 h11 h34 h35 h36=>?_⟩
   have same:∀ m k,zAZ (zA9 c N) (m+1) ⟨fr',H'⟩ Z' k=zAZ (zA9 c N) (m+1) ⟨fr0,H'⟩ Z' k:=by
    intro m k
    rw[zI,zI]
    have g4:fr0.get 4=some (.ptr b 0):=by simp[fr0,T.get_set]
    have g8:fr0.get 8=some (.int .i64 (at':Int)):=by simp[fr0,T.get_set]
    have g9:fr0.get 9=some (.str v):=by simp[fr0,T.get_set]
    have g11:fr0.get 11=some o':=by simp[fr0,T.get_set]
    have g34:fr0.get 34=some lv:=by simp[fr0,T.get_set]
    have g35:fr0.get 35=some (.int .i64 (hs.length:Int)):=by simp[fr0,T.get_set]
    have g36:fr0.get 36=some (.int .i64 ((pre++[h]).length:Int)):=by simp[fr0,T.get_set]
    simp only[zA9,zA h4,zA h8,zA h9,zA h11,zA h34,zA h35,zA h36,zA g4,zA g8,zA g9,zA g11,zA g34,zA g35,zA g36]
   obtain⟨m',rfl⟩:∃ j,m=j+1:=⟨m-1,by simp at hm;omega⟩
   rw[same];exact z3 k
  by_cases hat:pre.length=at'
  ·have e2:((pre.length:Int) ==(at':Int))=true:=by rw[beq_iff_eq,hat]
   have pb:zC7 [(.str []),(.str [])] [(0,1),(1,1)] [.str h.1,.str v]=some (.agg [.str h.1,.str v]):=rfl
   obtain⟨w,H3,v4,H4,Z4,m1,m2,m3,m4,_,_⟩:=put2 ho2 g2.wf (Nat.le_trans hB g2.size) (h.1,v) (by omega) Z
   obtain⟨o'',H'',Z'',z1,z2,z3⟩:=fin (out++[(h.1,v)]) v4 H4 Z4 (by simpa using m3) ((g2.weaken hB).trans m4 nl) (by simp at hol ⊢;omega) (by rw[setF,if_pos hat];simp)
   refine⟨o'',H'',Z'',z1,z2,fun k=>?_⟩
   rw[zI]
   simp only[zA9,zA f4,zA f8,zA f9,zA f11,zA f34,zA f35,zA f36,zN,e1,zQ,p1,q1,zJ,a1,zh,s1',zAv,e2,fa,l1a,pb,m1,m2,zDU,zV,↓reduceIte,Nat.reduceEqDiff,ze,e3]
   exact z3 _ k (by simp[T.get_set]) (by simp[T.get_set]) (by simp[T.get_set]) (by simp[T.get_set]) (by simp[T.get_set]) (by simp[T.get_set]) (by simp[T.get_set])
  ·have e2:((pre.length:Int) ==(at':Int))=false:=by rw[beq_eq_false_iff_ne];intro h;exact hat (Int.ofNat.inj h)
   obtain⟨H3,Z3,g3,k3⟩:=h45 h (hsz h (by rw[he];simp)) H2 g2.wf Z
   have g13:Gr H.size H H3:=g2.trans g3 g2.size
   have ho3:=ho2.gr g3 g2.wf nl
   have l3:zBA 2 [.ptr H.size 0] H3=some (hv h):=zAw (b2.gr g3 lt2).cells (by simp)
   by_cases hnm:named name h=true
   ·obtain⟨o'',H'',Z'',z1,z2,z3⟩:=fin out o H3 Z3 ho3 (g13.weaken hB) (by simp at hol;omega) (by rw[setF,if_neg hat,hnm];rfl)
    refine⟨o'',H'',Z'',z1,z2,fun k=>?_⟩
    rw[zI]
    simp only[zA9,zA f4,zA f8,zA f9,zA f11,zA f34,zA f35,zA f36,zN,e1,zQ,p1,q1,zJ,a1,zh,s1',zAv,e2,zO,l1,ln,k3,hnm,zCQ,Bool.not_true,zDU,zV,↓reduceIte,Nat.reduceEqDiff,ze,e3]
    exact z3 _ k (by simp[T.get_set]) (by simp[T.get_set]) (by simp[T.get_set]) (by simp[T.get_set]) (by simp[T.get_set]) (by simp[T.get_set]) (by simp[T.get_set])
   ·have hnm':named name h=false:=by simpa using hnm
    obtain⟨w,H4,v5,H5,Z5,m1,m2,m3,m4,_,_⟩:=put2 ho3 g13.wf (Nat.le_trans hB g13.size) h (by omega) Z3
    have m1':zP 1 2 [(.str []),(.str [])] [(0,2)] [hv h] H3 Z3=some (w,H4,Z3):=m1
    obtain⟨o'',H'',Z'',z1,z2,z3⟩:=fin (out++[h]) v5 H5 Z5 (by simpa using m3) ((g13.weaken hB).trans m4 nl) (by simp at hol ⊢;omega) (by rw[setF,if_neg hat,hnm'];simp)
    refine⟨o'',H'',Z'',z1,z2,fun k=>?_⟩
    rw[zI]
    simp only[zA9,zA f4,zA f8,zA f9,zA f11,zA f34,zA f35,zA f36,zN,e1,zQ,p1,q1,zJ,a1,zh,s1',zAv,e2,zO,l1,ln,k3,hnm',zCQ,Bool.not_false,l3,m1',m2,zDU,zV,↓reduceIte,Nat.reduceEqDiff,ze,e3]
    exact z3 _ k (by simp[T.get_set]) (by simp[T.get_set]) (by simp[T.get_set]) (by simp[T.get_set]) (by simp[T.get_set]) (by simp[T.get_set]) (by simp[T.get_set])
def setE (n v:Bs)(hs:List Hd):Int:=if zKp n hs 0<0 then addE n v hs.length else mayE n v
def setT (n v:Bs)(hs:List Hd):List Hd:=if zKp n hs 0<0 then hs++[(n,valT v)]else setF n (valT v) (zKp n hs 0).toNat hs 0
theorem Apd.weaken {H:Heap}{B C z:Nat}{v:V}{n:Nat}{cs:List V}(h:Apd H C z v n cs)(hBC:B<=C):Apd H B z v n cs:=by
 rcases h with(h | ⟨id,e,room,fam,ver,pl,st,fr,h1,h2,h3,h4,h5,h6,h7⟩) | ⟨h1,h2,id,h3,h4⟩
 ·exact .inl (.inl h)
 ·exact .inl (.inr ⟨id,e,room,fam,ver,pl,st,fr,h1,h2,h3,h4,Nat.le_trans hBC h5,Nat.le_trans hBC h6,h7⟩)
 ·exact .inr ⟨h1,h2,id,h3,h4.weaken hBC⟩
theorem zQH (c:zC)(N:Nat)(hN:9223372036854775807<=N)(hs:List Hd)(hl:hs.length<1000000)(hsz:∀ h ∈ hs,h.1.length<=140737488355328)(n v:Bs)(lv:V)(H:Heap)(hw:WF H)(hr:Rd H 2 lv hs.length (hcells hs))(hsr:Src H lv)(Z:Tape)
  (h45:Is45 c n)
  (h49:∀ (b:Nat) (H:Heap),WF H->Rd H 2 lv hs.length (hcells hs)->H.cells? b=some [.str n]->∀ Z,∃ H' Z',Gr H.size H H'/\∀ q,c zCE [lv,.func zCN [] [.ptr b 0]] H Z q=q (.int .i64 (zKp n hs 0)) H' Z')
  (h43:∀ (H:Heap),WF H->∀ Z,∃ H1 Z1,Gr H.size H H1/\∀ q,c zF4 [.str n,.str v] H Z q=q (mayV n v) H1 Z1)
  (h19:∀ (H:Heap),WF H->Rd H 2 lv hs.length (hcells hs)->Src H lv->∀ Z,∃ r H' Z',Gr H.size H H'/\(addE n v hs.length=0->Apd H' H.size 2 r (hs.length+1) (hcells (hs++[(n,valT v)])))/\(addE n v hs.length≠0->r=.nils)/\∀ q,c zKF [lv,.str n,.str v] H Z q=q (.tup [r,.int .i64 (addE n v hs.length)]) H' Z') :
  ∃ r H' Z',Gr H.size H H'/\(setE n v hs=0->Apd H' H.size 2 r (setT n v hs).length (hcells (setT n v hs)))/\(setE n v hs≠0->r=.nils)/\∀ q,zF7 c N lv (.str n) (.str v) H Z q=q (.tup [r,.int .i64 (setE n v hs)]) H' Z':=by
 have a1:eBox [.str n] H Z=some (.ptr H.size 0,H.new [.str n] 1 true,Z):=rfl
 have g1:=Gr.new hw [.str n] 1 true
 have b1:=Bx.new H [.str n] 1 true nl
 have z1:(H.new [.str n] 1 true).size=H.size+1:=rfl
 generalize H.new [.str n] 1 true=H1 at a1 g1 b1 z1
 have hr1:=hr.gr g1 hw nl
 have hsr1:=hsr.gr g1 hw nl
 obtain⟨H2,Z2,g2,k2⟩:=h49 H.size H1 g1.wf hr1 b1.cells Z
 have hr2:=hr1.gr g2 g1.wf nl
 have hsr2:=hsr1.gr g2 g1.wf nl
 have b2:=b1.gr g2 (by omega)
 have g12:Gr H.size H H2:=g1.trans g2 g1.size
 have ln:zM [.ptr H.size 0] H2=some (.str n):=zR b2.cells rfl
 have x0:∀ a b:V,zH 0 [.tup [a,b]]=some a:=fun _ _=>rfl
 have x1:∀ a b:V,zH 1 [.tup [a,b]]=some b:=fun _ _=>rfl
 have ef:V.func zCN (List.take 0 [V.ptr H.size 0]) (List.drop 0 [V.ptr H.size 0])=.func zCN [] [.ptr H.size 0]:=rfl
 unfold setE setT
 by_cases hneg:zKp n hs 0<0
 ·rw[if_pos hneg,if_pos hneg]
  have e1:decide (zKp n hs 0<Int.ofNat 0)=true:=decide_eq_true hneg
  obtain⟨r,H3,Z3,g3,r1,r2,k3⟩:=h19 H2 g2.wf hr2 hsr2 Z2
  refine⟨r,H3,Z3,g12.trans g3 g12.size,fun h=>?_,r2,fun q=>?_⟩
  ·have:=Apd.weaken (r1 h) g12.size
   simpa using this
  ·simp only[zF7,a1,zh,ef,zJ,k2,zN,e1,zQ,ln,k3,x0,x1]
 ·rw[if_neg hneg,if_neg hneg]
  have e1:decide (zKp n hs 0<Int.ofNat 0)=false:=decide_eq_false hneg
  obtain⟨H3,Z3,g3,k3⟩:=h43 H2 g2.wf Z2
  have g13:Gr H.size H H3:=g12.trans g3 g12.size
  unfold mayV at k3
  generalize mayE n v=e at k3 ⊢
  by_cases he:e=0
  ·subst he
   have e2:((0:Int) != Int.ofNat 0)=false:=rfl
   rw[if_pos rfl]at k3
   have hat:zKp n hs 0=(((zKp n hs 0).toNat:Nat):Int):=by omega
   have hr3:=hr2.gr g3 g2.wf nl
   obtain⟨o',H4,Z4,o4,g4,k4⟩:=zSh c N H.size n (valT v) h45 hs (by omega) hsz lv (zKp n hs 0).toNat H3.size hs [] [] .nils H3 (T.s (T.s (T.s (T.s (T.s (T.s (T.s .leaf 4 (.ptr H.size 0)) 8 (.int .i64 (zKp n hs 0))) 9 (.str (valT v))) 11 .nils) 34 lv) 35 (.int .i64 (hs.length:Int))) 36 (.int .i64 (.ofNat 0))) Z3 N rfl (by omega) (by simp;omega) g3.wf nl
    (by have:=b2.lt g2.wf;have:=g3.size;omega) (b2.gr g3 (b2.lt g2.wf)) (fun H' gg=>hr3.gr gg g3.wf nl) (Apd.nil _ _ _) (by simp[T.get_set]) (by rw[<- hat];simp[T.get_set]) (by simp[T.get_set]) (by simp[T.get_set]) (by simp[T.get_set]) (by simp[T.get_set]) (by simp[T.get_set])
   refine⟨o',H4,Z4,g13.trans g4 g13.size,fun _=>(by simpa using Apd.weaken o4 g13.size),fun h=>absurd rfl h,fun q=>?_⟩
   simp only[zF7,a1,zh,ef,zJ,k2,zN,e1,zO,ln,k3,x0,x1,zEF,e2,hr.pLen]
   rw[k4]
   simp only[zX,Nat.beq_refl,cond_true,seqK,zNF,zV,↓reduceIte]
   rfl
  ·have e2:(e != Int.ofNat 0)=true:=by rw[bne_iff_ne];exact he
   rw[if_neg he]at k3
   refine⟨.nils,H3,Z3,g13,fun h=>absurd h he,fun _=>rfl,fun q=>?_⟩
   simp only[zF7,a1,zh,ef,zJ,k2,zN,e1,zO,ln,k3,x0,x1,zEF,e2,zQ]
end Go.Am.X

namespace Go.Am.X
section
variable {N:Nat} (hN:9223372036854775807<N)
include hN
theorem zKf (d:Nat)(hd:1<=d)(n:Int)(H:Heap)(Z:Tape)(q:KV):C N d zA7 [.int .i64 n] H Z q=q (.bool (decide (8<n))) H Z:=by
 obtain⟨d,rfl⟩:∃ e,d=e+1:=⟨d-1,by omega⟩
 exact zIt (C N d) N n H Z q
theorem zRA (d:Nat)(hd:1<=d)(n:Int)(H:Heap)(Z:Tape):∃ b,∀ q,C N d zGn [.int .i32 n] H Z q=q (.bool b) H Z:=by
 obtain⟨d,rfl⟩:∃ e,d=e+1:=⟨d-1,by omega⟩
 exact zOW (C N d) N n H Z
theorem zMe (d:Nat)(hd:1<=d)(s:Bs)(x:UInt8)(H:Heap)(Z:Tape)(q:KV):C N d zBF [.str s,.int .u8 (x.toNat:Int)] H Z q=q (.int .i64 (idxB x.toNat s 0)) H Z:=by
 obtain⟨d,rfl⟩:∃ e,d=e+1:=⟨d-1,by omega⟩
 have e4:x.toNat % 256=x.toNat:=Nat.mod_eq_of_lt (u8_lt x)
 show effK (idxP [.str s,.int .u8 (.ofNat x.toNat)] H Z) q=_
 simp only[idxP,e4,zh]
theorem zKq (d:Nat)(hd:2<=d):Idx70 (C N d):=by
 intro s x H Z q
 obtain⟨d,rfl⟩:∃ e,d=e+1:=⟨d-1,by omega⟩
 exact zMO (C N d) N (fun s x H Z q=>zMe hN d (by omega) s x H Z q) s x H Z q
theorem zPC (d:Nat)(hd:3<=d)(cut:Bs)(ha:∀ x ∈ cut,x.toNat<128)(hl:cut.length<1000):Rune92 (C N d) cut:=by
 intro r H hw Z
 obtain⟨d,rfl⟩:∃ e,d=e+1:=⟨d-1,by omega⟩
 obtain⟨H',g,k⟩:=zML (C N d) N (by omega) (zKq hN d (by omega)) (fun n H Z=>zRA hN d (by omega) n H Z) cut ha hl r H hw Z
 exact⟨H',g,k⟩
theorem d60' (d:Nat)(hd:1<=d)(cut:Bs)(ha:∀ x ∈ cut,x.toNat<128)(h3:cut.length<9223372036854775807)(H:Heap)(hw:WF H)(Z:Tape) :
  ∃ H',Gr H.size H H'/\∀ q,C N d zAO [.str cut] H Z q=q (.tup [.agg (mark (repl 256 [.bool false]) cut),.bool true]) H' Z:=by
 obtain⟨d,rfl⟩:∃ e,d=e+1:=⟨d-1,by omega⟩
 obtain⟨H',g,k⟩:=zGE (C N d) N (Nat.le_of_lt hN) cut ha h3 H hw Z retK
 exact⟨H',g,fun q=>(C_nat N (d+1)).mk (f:=zAO) (vs:=[.str cut]) k q⟩
theorem zOA (d:Nat)(hd:5<=d)(cut s:Bs)(ha:∀ x ∈ cut,x.toNat<128)(h2:2<=cut.length)(hl:cut.length<1000)(hs:s.length<9223372036854775807)(H:Heap)(hw:WF H)(Z:Tape) :
  ∃ H',Gr H.size H H'/\∀ q,C N d zDY [.str s,.str cut] H Z q=q (.bool (s.any cut.contains)) H' Z:=by
 obtain⟨d,rfl⟩:∃ e,d=e+1+1:=⟨d-2,by omega⟩
 obtain⟨H',g,k⟩:=zNQ (C N d) N (Nat.le_of_lt hN) cut s ha h2 hs (zPC hN d (by omega) cut ha hl) (fun n H Z q=>zKf hN d (by omega) n H Z q) (fun H hw Z=>d60' hN d (by omega) cut ha (by omega) H hw Z)
  (fun id H hc x Z q=>by
   obtain⟨d,rfl⟩:∃ e,d=e+1:=⟨d-1,by omega⟩
   exact zG2 hN d cut hc x Z q) H hw Z
 exact⟨H',g,fun q=>zLT (C N (d+1)) N cut s H H' Z k q⟩
theorem d35' (d:Nat)(hd:3<=d)(cut:Bs)(h2:2<=cut.length)(h3:cut.length<9223372036854775807)(ha:∀ x ∈ cut,x.toNat<128)(s:Bs)(hs:s.length<9223372036854775807)(H:Heap)(hw:WF H)(Z:Tape) :
  ∃ H',Gr H.size H H'/\∀ q,C N d zCy [.str s,.str cut] H Z q=q (.str (trimB cut.contains s)) H' Z:=by
 obtain⟨H',g,k⟩:=zLU hN d hd cut h2 h3 ha s hs H hw Z retK
 exact⟨H',g,fun q=>(C_nat N d).mk k q⟩
theorem zRz (d:Nat)(hd:6<=d)(s:Bs)(hs:s.length<9223372036854775807)(H:Heap)(hw:WF H)(Z:Tape):∃ H',Gr H.size H H'/\∀ q,C N d zHS [.str s] H Z q=q (valV s) H' Z:=by
 obtain⟨d,rfl⟩:∃ e,d=e+1:=⟨d-1,by omega⟩
 obtain⟨H1,g1,k1⟩:=d35' hN d (by omega) [9,10,13,32] (by decide) (by decide) (by decide) s hs H hw Z
 obtain⟨H2,g2,k2⟩:=zOA hN d (by omega) [0,10,13] (valT s) (by decide) (by decide) (by decide) (by have:=zHB ([9,10,13,32]:Bs).contains s;unfold valT;omega) H1 g1.wf Z
 exact⟨H2,g1.trans g2 g1.size,fun q=>zPB (C N d) N s H H1 H2 Z Z Z k1 k2 q⟩
theorem zS4 (d:Nat)(hd:3<=d)(s:Bs)(hs:s.length<9223372036854775807)(H:Heap)(Z:Tape)(q:KV):C N d zJz [.str s] H Z q=q (.bool (tokT s)) H Z:=by
 obtain⟨d,rfl⟩:∃ e,d=e+1:=⟨d-1,by omega⟩
 exact zQX (C N d) N (Nat.le_of_lt hN) (zKq hN d (by omega)) s hs H Z q
theorem zPe (d:Nat)(hd:7<=d)(n v:Bs)(hn:n.length<9223372036854775807)(hv:v.length<9223372036854775807)(H:Heap)(hw:WF H)(Z:Tape):∃ H1 Z1,Gr H.size H H1/\∀ q,C N d zF4 [.str n,.str v] H Z q=q (mayV n v) H1 Z1:=by
 obtain⟨d,rfl⟩:∃ e,d=e+1:=⟨d-1,by omega⟩
 obtain⟨H1,g1,k1⟩:=zRz hN d (by omega) v hv H hw Z
 exact⟨H1,Z,g1,fun q=>zP8 (C N d) N n v H H1 Z Z k1 (fun q=>zS4 hN d (by omega) n hn H1 Z q) q⟩
theorem zNk (d:Nat)(hd:1<=d)(hs:List Hd)(hl:hs.length<=1000000)(v:V)(H:Heap)(hw:WF H)(hr:Rd H 2 v hs.length (hcells hs))(hsr:Src H v)(Z:Tape) :
  ∃ v' H' Z',Apd H' H.size 2 v' hs.length (hcells hs)/\(v'=.nils ↔ v=.nils)/\Gr H.size H H'/\∀ q,C N d zA3 [v] H Z q=q v' H' Z':=by
 obtain⟨d,rfl⟩:∃ e,d=e+1:=⟨d-1,by omega⟩
 exact zGX (C N d) N hs hl v H hw hr hsr Z
theorem zTD (d:Nat)(hd:8<=d)(hs:List Hd)(hl:hs.length<=1000000)(n v:Bs)(hn:n.length<9223372036854775807)(hv:v.length<9223372036854775807)(lv:V)(H:Heap)(hw:WF H)(hr:Rd H 2 lv hs.length (hcells hs))(hsr:Src H lv)(Z:Tape) :
  ∃ r H' Z',Gr H.size H H'/\(addE n v hs.length=0->Apd H' H.size 2 r (hs.length+1) (hcells (hs++[(n,valT v)])))/\(addE n v hs.length≠0->r=.nils)/\∀ q,C N d zKF [lv,.str n,.str v] H Z q=q (.tup [r,.int .i64 (addE n v hs.length)]) H' Z':=by
 obtain⟨d,rfl⟩:∃ e,d=e+1:=⟨d-1,by omega⟩
 exact zQO (C N d) N hs hl n v lv H hw hr hsr Z (zPe hN d (by omega) n v hn hv H hw Z) (fun H hw hr hsr Z=>zNk hN d (by omega) hs hl lv H hw hr hsr Z)
theorem d45' (d:Nat)(hd:4<=d)(name:Bs)(hm:name.length<=140737488355328):Is45 (C N d) name:=by
 intro h hh H hw Z
 obtain⟨H',Z',g,k⟩:=zQi hN d hd name hm h.1 h.2 hh H hw Z retK
 exact⟨H',Z',g,fun q=>(C_nat N d).mk k q⟩
theorem zMz (d:Nat)(hd:5<=d)(b:Nat)(name:Bs)(hm:name.length<=140737488355328):IsF (C N d) zJT b name/\IsF (C N d) zCN b name:=by
 obtain⟨d,rfl⟩:∃ e,d=e+1:=⟨d-1,by omega⟩
 refine⟨fun h hh H hw hb Z=>?_,fun h hh H hw hb Z=>?_⟩
 ·obtain⟨H',Z',g,k,_⟩:=zJs (C N d) N b name (d45' hN d (by omega) name hm) h hh H hw hb Z
  exact⟨H',Z',g,k⟩
 ·obtain⟨H',Z',g,_,k⟩:=zJs (C N d) N b name (d45' hN d (by omega) name hm) h hh H hw hb Z
  exact⟨H',Z',g,k⟩
theorem zLg (d:Nat)(hd:6<=d)(g b:Nat)(hg:g=zJT∨g=zCN)(name:Bs)(hm:name.length<=140737488355328)(hs:List Hd)(hl:hs.length<=1000000)(hsz:∀ h ∈ hs,h.1.length<=140737488355328)(lv:V)(H:Heap)(hw:WF H)
  (hr:Rd H 2 lv hs.length (hcells hs)) (hb:H.cells? b=some [.str name]) (Z:Tape):∃ H' Z',Gr H.size H H'/\∀ q,C N d zCE [lv,.func g [] [.ptr b 0]] H Z q=q (.int .i64 (zKp name hs 0)) H' Z':=by
 obtain⟨d,rfl⟩:∃ e,d=e+1:=⟨d-1,by omega⟩
 refine zJZ (C N d) N (Nat.le_of_lt hN) g b name ?_ hs hl hsz lv H hw hr hb Z
 rcases hg with rfl | rfl
 ·exact(zMz hN d (by omega) b name hm).1
 ·exact(zMz hN d (by omega) b name hm).2
theorem zSv (d:Nat)(hd:9<=d)(hs:List Hd)(hl:hs.length<1000000)(hsz:∀ h ∈ hs,h.1.length<=140737488355328)(n v:Bs)(hn:n.length<=140737488355328)(hv:v.length<9223372036854775807)(lv:V)(H:Heap)(hw:WF H)(hr:Rd H 2 lv hs.length (hcells hs))(hsr:Src H lv)(Z:Tape) :
  ∃ r H' Z',Gr H.size H H'/\(setE n v hs=0->Apd H' H.size 2 r (setT n v hs).length (hcells (setT n v hs)))/\(setE n v hs≠0->r=.nils)/\∀ q,C N d zE0 [lv,.str n,.str v] H Z q=q (.tup [r,.int .i64 (setE n v hs)]) H' Z':=by
 obtain⟨d,rfl⟩:∃ e,d=e+1:=⟨d-1,by omega⟩
 exact zQH (C N d) N (Nat.le_of_lt hN) hs hl hsz n v lv H hw hr hsr Z (d45' hN d (by omega) n hn) (fun b H hw hr hb Z=>zLg hN d (by omega) zCN b (.inr rfl) n hn hs (by omega) hsz lv H hw hr hb Z)
  (fun H hw Z=>zPe hN d (by omega) n v (by omega) hv H hw Z) (fun H hw hr hsr Z=>zTD hN d (by omega) hs (by omega) n v (by omega) hv lv H hw hr hsr Z)
end
end Go.Am.X

namespace Go.Am.X
abbrev NB:Nat:=9223372036854775808
theorem nb:9223372036854775807<NB:=by decide
theorem tab_all (f:Nat)(d:Def)(h:tabF.get f=some d)(base:Base)(w0:World):zQw PG base w0 f d:=defs_ok (all_ok base w0) f d h
theorem zP3 (d f:Nat){R:List V->Heap->Out->Prop}
  (hR:∀ vs H o,WF H->VsOk H vs->R vs H o->∀ Z,∃ v H' Z',C NB d f vs H Z retK=some (v,H',Z')/\Gr H.size H H'/\o.Met H v H'):∀ base w0,zCA PG base w0 f (outP R) :=
 zSH zMi (tab_ok NB) tab_all d f hR
def strP (M:Nat):List V->Prop | [.str s]=>s.length<=M | _=>False
def strG (g:Bs->V):List V->V | [.str s]=>g s | _=>.tup []
abbrev RS (M:Nat)(g:Bs->V):=RV (strP M) (strG g)
theorem primS (d f M:Nat)(g:Bs->V)(hv:∀ s H,VOk H (g s))(h:∀ s:Bs,s.length<=M->∀ H,WF H->∀ Z,∃ H' Z',Gr H.size H H'/\∀ q,C NB d f [.str s] H Z q=q (g s) H' Z'):∀ base w0,zCA PG base w0 f (outP (RS M g)):=by
 refine zP3 d f ?_
 rintro vs H o hw hvs ⟨hp,rfl⟩ Z
 unfold strP at hp
 split at hp
 ·rename_i s
  obtain⟨H',Z',g1,k1⟩:=h s hp H hw Z
  exact⟨_,H',Z',k1 retK,g1,rfl,hv s H⟩
 ·exact hp.elim
theorem callS {c:zC}{f M:Nat}{g:Bs->V}(hc:∀ vs H Z q,c f vs H Z q=effK (outP (RS M g) vs H Z) q)(s:Bs)(hs:s.length<=M)(H:Heap)(Z:Tape)(q:KV):c f [.str s] H Z q=q (g s) H Z:=RV_call hc (vs:=[.str s]) hs H Z q
abbrev LowR:=RS 140737488355328 fun s=>.str (lower s)
theorem zPS:∀ base w0,zCA PG base w0 zBD (outP LowR):=primS 3 _ _ _ (fun _ _=>trivial) fun s hs H hw Z=>by
 obtain⟨H',Z',g,k⟩:=zPd nb 3 (by omega) s hs H hw Z retK
 exact⟨H',Z',g,fun q=>(C_nat NB 3).mk k q⟩
end Go.Am.X

namespace Go.Am.X
end Go.Am.X

namespace Go.Am.X
def RdH (H:Heap)(v:V)(hs:List Hd):Prop:=Rd H 2 v hs.length (hcells hs)/\Src H v
theorem hcells_inj:∀ {a b:List Hd},hcells a=hcells b->a=b:=by
 intro a
 induction a with
 | nil=>intro b h;cases b with
  | nil=>rfl
  | cons y b=>rw[zC2]at h;cases h
 | cons x a ih=>intro b h;cases b with
  | nil=>rw[zC2]at h;cases h
  | cons y b =>
   rw[zC2,zC2]at h
   simp only[List.cons.injEq,V.str.injEq]at h
   obtain⟨h1,h2,h3⟩:=h
   rw[ih h3]
   obtain⟨x1,x2⟩:=x
   obtain⟨y1,y2⟩:=y
   simp only at h1 h2
   subst h1;subst h2;rfl
theorem RdH.uniq {H:Heap}{v:V}{a b:List Hd}(h:RdH H v a)(k:RdH H v b):a=b:=hcells_inj (h.1.uniq k.1).2
theorem RdH.gr {H H':Heap}{B:Nat}{v:V}{hs:List Hd}(h:RdH H v hs)(hg:Gr B H H')(hw:WF H)(hB:H.size<=B):RdH H' v hs:=⟨h.1.gr hg hw hB,h.2.gr hg hw hB⟩
def isNil:V->Bool | .nils=>true | _=>false
def RH (Pre:List Hd->List V->Prop)(g:Bool->List Hd->List V->Out)(vs:List V)(H:Heap)(o:Out):Prop:=∃ v l hs,vs=v::l/\RdH H v hs/\Pre hs l/\o=g (isNil v) hs l
theorem RH_fun (Pre:List Hd->List V->Prop)(g:Bool->List Hd->List V->Out):Fun1 (RH Pre g):=by
 rintro vs H o o' ⟨v,l,hs,rfl,h1,_,rfl⟩ ⟨v',l',hs',e,h2,_,rfl⟩
 cases e
 rw[h1.uniq h2]
theorem RH_val {c:zC}{f:Nat}{Pre:List Hd->List V->Prop}{g:Bool->List Hd->List V->Out}(hc:∀ vs H Z q,c f vs H Z q=effK (outP (RH Pre g) vs H Z) q){v:V}{l:List V}{hs:List Hd}{H:Heap}{u:V}(h:RdH H v hs)(hp:Pre hs l)(hg:g (isNil v) hs l=.val u)(Z:Tape)(q:KV) :
  c f (v::l) H Z q=q u H Z:=zS2 hc (RH_fun _ _) ⟨v,l,hs,rfl,h,hp,hg.symm⟩ Z q
theorem RH_lst {c:zC}{f:Nat}{Pre:List Hd->List V->Prop}{g:Bool->List Hd->List V->Out}(hc:∀ vs H Z q,c f vs H Z q=effK (outP (RH Pre g) vs H Z) q){v:V}{l:List V}{hs:List Hd}{H:Heap}{z n:Nat}{cs:List V}{mk:V->V}(h:RdH H v hs)(hp:Pre hs l)(hg:g (isNil v) hs l=.lst z n cs mk)(hw:WF H)(hlen:cs.length=n*z)(Z:Tape) :
  ∃ lv H' Z',Own H' H.size z lv n cs/\lv≠.nils/\Gr H.size H H'/\∀ q,c f (v::l) H Z q=q (mk lv) H' Z':=outK_lst hc (RH_fun _ _) ⟨v,l,hs,rfl,h,hp,hg.symm⟩ hw hlen Z
def lstO (z n:Nat)(cs:List V)(mk:V->V):Out:=if n=0 then .val (mk .nils)else .lst z n cs mk
theorem RH_lstO {c:zC}{f:Nat}{Pre:List Hd->List V->Prop}{g:Bool->List Hd->List V->Out}(hc:∀ vs H Z q,c f vs H Z q=effK (outP (RH Pre g) vs H Z) q){v:V}{l:List V}{hs:List Hd}{H:Heap}{z n:Nat}{cs:List V}{mk:V->V}(h:RdH H v hs)(hp:Pre hs l)(hg:g (isNil v) hs l=lstO z n cs mk)(hw:WF H)(hlen:cs.length=n*z)(Z:Tape) :
  ∃ lv H' Z',Own H' H.size z lv n cs/\Gr H.size H H'/\∀ q,c f (v::l) H Z q=q (mk lv) H' Z':=outK_list hc (RH_fun _ _) ⟨v,l,hs,rfl,h,hp,hg.symm⟩ hw hlen Z
theorem hcells_vok (H:Heap)(hs:List Hd):VsOk H (hcells hs):=by
 induction hs with
 | nil=>trivial
 | cons h l ih=>rw[zC2];exact⟨trivial,trivial,ih⟩
theorem Got.met {H H':Heap}{z n:Nat}{v:V}{cs:List V}{mk:V->V}(h:Got H' H.size z v n cs)(h0:n=0->v=.nils)(hmk:MkOk mk)(hcs:VsOk H cs)(hnil:VOk H (mk .nils)):(lstO z n cs mk).Met H (mk v) H':=by
 unfold lstO
 by_cases hn:n=0
 ·rw[if_pos hn,h0 hn];exact⟨rfl,hnil⟩
 ·rw[if_neg hn]
  rcases h with⟨_,h,_⟩ | h
  ·exact absurd h hn
  ·exact⟨hmk,hcs,v,rfl,h⟩
abbrev zNf (hs:List Hd):List V->Prop | [.str name]=>Small hs/\name.length<=140737488355328 | _=>False
abbrev GetG (_:Bool)(hs:List Hd):List V->Out | [.str name]=>.val (.tup [.str (getT name hs),.bool (decide (0<(sel name hs).length))]) | _=>.val (.tup [])
theorem zPi:∀ base w0,zCA PG base w0 zAS (outP (RH zNf GetG)):=by
 refine zP3 5 _ ?_
 rintro vs H o hw hvs ⟨v,l,hs,rfl,⟨h1,h2⟩,hp,rfl⟩ Z
 unfold zNf at hp
 split at hp
 ·rename_i name
  obtain⟨H',Z',g,k⟩:=d20' nb 5 (by omega) name hp.2 hp.1 v H hw h1 Z
  exact⟨_,H',Z',k retK,g,rfl,trivial,trivial,trivial⟩
 ·exact hp.elim
abbrev SetPre (hs:List Hd):List V->Prop | [.str n,.str v]=>hs.length<1000000/\(∀ h ∈ hs,h.1.length<=140737488355328)/\n.length<=140737488355328/\v.length<9223372036854775807 | _=>False
abbrev SetG (_:Bool)(hs:List Hd):List V->Out
 | [.str n,.str v]=>if setE n v hs=0 then .lst 2 (setT n v hs).length (hcells (setT n v hs)) (fun lv=>.tup [lv,.int .i64 0])else .val (.tup [.nils,.int .i64 (setE n v hs)])
 | _=>.val (.tup [])
theorem setF_pos (name v:Bs):∀ (l:List Hd) (i j:Nat),i<=j->j<i+l.length->setF name v j l i≠[]:=by
 intro l
 induction l with
 | nil=>intro i j h1 h2;simp at h2;omega
 | cons h l ih =>
  intro i j h1 h2
  rw[setF]
  by_cases e:i=j
  ·rw[if_pos e];simp
  ·rw[if_neg e]
   have:=ih (i+1) j (by omega) (by simp at h2;omega)
   cases named name h with
   | true=>rw[cond_true];exact this
   | false=>rw[cond_false];simp
theorem setT_ne (n v:Bs)(hs:List Hd):setT n v hs≠[]:=by
 unfold setT
 split
 ·simp
 ·rename_i h
  rcases findI_spec n hs 0 with⟨h1,_⟩ | ⟨a,x,r,h1,_,_,h2⟩
  ·rw[h1]at h;exact absurd (by decide) h
  ·rw[h2]
   refine setF_pos _ _ _ _ _ (Nat.zero_le _) ?_
   rw[h1];simp
theorem Got.lst {H:Heap}{B z:Nat}{v:V}{n:Nat}{cs:List V}(h:Got H B z v n cs)(hn:n≠0):FreshL B H z n cs v:=by
 rcases h with⟨_,h,_⟩ | h
 ·exact absurd h hn
 ·exact h
theorem zTC:∀ base w0,zCA PG base w0 zE0 (outP (RH SetPre SetG)):=by
 refine zP3 9 _ ?_
 rintro vs H o hw hvs ⟨lv,l,hs,rfl,⟨h1,h2⟩,hp,rfl⟩ Z
 unfold SetPre at hp
 split at hp
 ·rename_i n v
  obtain⟨r,H',Z',g,k1,k2,k3⟩:=zSv nb 9 (by omega) hs hp.1 hp.2.1 n v hp.2.2.1 hp.2.2.2 lv H hw h1 h2 Z
  refine⟨_,H',Z',k3 retK,g,?_⟩
  unfold SetG
  by_cases he:setE n v hs=0
  ·simp only[he,if_true]
   have hne:(setT n v hs).length≠0:=fun h=>setT_ne n v hs (List.eq_nil_of_length_eq_zero h)
   exact⟨mkOk_int _ _,hcells_vok _ _,r,rfl,Got.lst (k1 he).got hne⟩
  ·simp only[if_neg he]
   rw[k2 he]
   exact⟨rfl,trivial,trivial,trivial⟩
 ·exact hp.elim
end Go.Am.X

namespace Go.Am.X
abbrev Vry:=Bs × Bs × Bool
def vaC (x:Vry):List V:=[.str x.1,.str x.2.1,.bool x.2.2]
theorem vaOk:Cells vaC 3:=⟨fun _=>rfl,fun _=>rfl,by decide⟩
structure CRow where
 id:Nat
 url:Bs
 vs:List Vry
 st:Int
 hs:List Hd
 bd:List V
 sto:Int
 ord:Int
 vv:V
 hv:V
 bv:V
def CRow.cells (r:CRow):List V:=[.str r.url,r.vv,.int .i64 r.st,r.hv,r.bv,.int .i64 r.sto,.int .i64 r.ord]
def rpV (r:CRow):V:=.ptr r.id 0
def rpC (r:CRow):List V:=[rpV r]
theorem rpOk:Cells rpC 1:=⟨fun _=>rfl,fun _=>rfl,by decide⟩
theorem rp0 (r:CRow):(rpC r)[0]?=some (rpV r):=rfl
structure RowM (D:Nat->Prop) (H:Heap) (r:CRow):Prop where
 bx:BxT H r.id r.cells
 vs:DatP D H 3 r.vv r.vs.length (r.vs.flatMap vaC)
 hs:DatP D H 2 r.hv r.hs.length (hcells r.hs)
 bd:DatP D H 1 r.bv r.bd.length r.bd
theorem RowM.chg {D Q:Nat->Prop}{H H':Heap}{r:CRow}(h:RowM D H r)(hw:WF H)(hg:Chg Q H H')(hDQ:∀ i,i<H.size->D i->¬ Q i)(hi:¬ Q r.id):RowM D H' r :=
 ⟨h.bx.chg hw hg hi,h.vs.chg hw hg hDQ,h.hs.chg hw hg hDQ,h.bd.chg hw hg hDQ⟩
theorem RowM.weaken {D E:Nat->Prop}{H:Heap}{r:CRow}(h:RowM D H r)(hw:WF H)(hDE:∀ i,i<H.size->D i->E i):RowM E H r :=
 ⟨h.bx,h.vs.weaken hw hDE,h.hs.weaken hw hDE,h.bd.weaken hw hDE⟩
def TstV {E:Type}(c:zC)(fv:V)(vf:E->V)(f:E->Bool)(P:Nat->Prop)(H0:Heap)(l:List E):Prop:=∀ x ∈ l,∀ H,Chg P H0 H->∀ Z,∃ H' Z',Gr H.size H H'/\∀ q,opK c .callv [fv,vf x] H Z q=q (.bool (f x)) H' Z'
theorem eStore_one {v:V}(h:v.cells=[v])(p:V)(H:Heap)(Z:Tape):eStore 1 [p,.agg [v]] H Z=eStore 1 [p,v] H Z:=by
 have e:V.cells (.agg [v])=v.cells:=by rw[h];rfl
 unfold eStore
 cases p <;> simp only[e]
end Go.Am.X

