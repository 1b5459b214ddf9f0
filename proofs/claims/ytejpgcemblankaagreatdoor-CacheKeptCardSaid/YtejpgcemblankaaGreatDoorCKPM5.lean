/- The abstract machine, printed functions of the program, and what they are shown to be. -/
import Derived.Test.YtejpgcemblankaaGreatDoorCKPM4
import Derived.JoinedOf
import Derived.Maps.Own
import Derived.Maps.Ext
import Derived.Maps.Range
import Derived.Sort.KeysCollected
import Derived.Lib.SlMapMerge
set_option linter.unusedSimpArgs false
set_option linter.unusedVariables false
namespace Go.Am
abbrev Lab:=Nat->Nat × Nat
def selL (b:Nat)(L:Lab):Nat->Nat:=fun i=>if(L i).1=b then(L i).2 else 0
def labN (L:Lab)(n b m:Nat):Lab:=fun i=>if n<=i then(b,m)else L i
theorem labN_lt (L:Lab){n i:Nat}(b m:Nat)(h:i<n):labN L n b m i=L i:=if_neg (by omega)
theorem labN_ge (L:Lab){n i:Nat}(b m:Nat)(h:n<=i):labN L n b m i=(b,m):=if_pos h
theorem selL_eq {b:Nat}{L L':Lab}{i:Nat}(h:L' i=L i):selL b L' i=selL b L i:=by unfold selL;rw[h]
theorem selL_ne {b:Nat}{L:Lab}{i:Nat}(h:selL b L i≠0):(L i).1=b/\(L i).2=selL b L i:=by
 unfold selL at h ⊢
 split at h
 ·rename_i e;rw[if_pos e];exact⟨e,rfl⟩
 ·exact absurd rfl h
theorem selL_at {b m:Nat}{L:Lab}{i:Nat}(h:L i=(b,m)):selL b L i=m:=by unfold selL;rw[h];simp
abbrev Of (L:Lab)(b:Nat):Nat->Prop:=fun i=>(L i).1=b/\(L i).2≠0
abbrev OfB (L:Lab)(b:Nat):Nat->Prop:=fun i=>(L i).1=b/\(L i).2≠0/\(L i).2<=3
def LstZ (L:Lab)(b key:Nat)(H:Heap)(v:V)(z cap n:Nat)(cs:List V):Prop :=
 zFx (fun i=>L i=(b,2*key+4)) H v z cap cs/\cs.length=n*z/\pLen [v]=some (.int .i64 (n:Int))/\cap<9223372036854775808
theorem LstZ.chg {L L':Lab}{b key:Nat}{Q:Nat->Prop}{H H1:Heap}{v:V}{z cap n:Nat}{cs:List V}(h:LstZ L b key H v z cap n cs)(hw:WF H)(g:Chg Q H H1)(hQ:∀ i,i<H.size->L i=(b,2*key+4)->¬ Q i)(hl:∀ i,i<H.size->L' i=L i):LstZ L' b key H1 v z cap n cs:=by
 obtain⟨a,c⟩:=h
 refine⟨?_,c⟩
 have:=(a.weaken (Q:=fun i=>i<H.size/\L' i=(b,2*key+4)) hw fun i hi e=>⟨hi,by rw[hl i hi];exact e⟩).chg hw g fun i hi e=>hQ i hi (by rw[<- hl i hi];exact e.2)
 exact this.weaken g.wf fun i _ e=>e.2
theorem LstZ.kept {L L':Lab}{b b' key:Nat}{H H1:Heap}{v:V}{z cap n:Nat}{cs:List V}(h:LstZ L b key H v z cap n cs)(hw:WF H)(g:Chg (OfB L b') H H1)(hl:∀ i,i<H.size->L' i=L i):LstZ L' b key H1 v z cap n cs :=
 h.chg hw g (fun i _ e q=>by have:=q.2.2;rw[e]at this;simp only at this;omega) hl
def KeepZ (c:zD)(f z:Nat)(Good:List V->Nat->Prop):Prop :=
 ∀ (L:Lab) (b K:Nat) (its:List ItZ) (H:Heap) (x:V) (cap n:Nat) (cs:List V) (key:Nat),WF H->zGP z (selL b L) H K its->key ∉ its.map ItZ.key->LstZ L b key H x z cap n cs->cs.all V.scal=true->n<1000000000->its.length+1<1000000 ->
  (∀ it ∈ its,Good it.cs it.n)->Good cs n->∀ Z,∃ its' H' Z' L',zGP z (selL b L') H' K its'/\(∀ it ∈ its',it ∈ its∨(it.key=key/\it.cs=cs/\it.n=n))/\its'.length<=its.length+1/\Chg (OfB L b) H H'/\(∀ i,i<H.size->L' i=L i)/\∀ q,c f [.ptr K 0,x] H Z q=q (.tup []) H' Z'
theorem KeepZ.mk {c:zD}{f z:Nat}{Good:List V->Nat->Prop}
  (h:∀ (lab:Nat->Nat) (H:Heap),WF H->∀ (K:Nat) (its:List ItZ),zGP z lab H K its->∀ (x:V) (cap n:Nat) (cs:List V) (key:Nat),key ∉ its.map ItZ.key->zFx (fun i=>lab i=2*key+4) H x z cap cs->cs.length=n*z->pLen [x]=some (.int .i64 (n:Int))->cap<9223372036854775808->cs.all V.scal=true->n<1000000000->its.length+1<1000000 ->
   (∀ it ∈ its,Good it.cs it.n)->Good cs n->∀ Z,∃ its' H' Z' lab',zGP z lab' H' K its'/\((∀ it ∈ its',it ∈ its∨(it.key=key/\it.cs=cs/\it.n=n))/\its'.length<=its.length+1)/\Chg (fun i=>lab i=1∨lab i=2∨lab i=3) H H'/\(∀ i,i<H.size->lab' i=lab i)/\∀ q,c f [.ptr K 0,x] H Z q=q (.tup []) H' Z'):KeepZ c f z Good:=by
 intro L b K its H x cap n cs key hw hb hk hx hs hn hits hg hg' Z
 obtain⟨x1,x2,x3,x4⟩:=hx
 obtain⟨its',H',Z',lab',h1,h2,h3,h4,h5⟩:=h (selL b L) H hw K its hb x cap n cs key hk (x1.weaken hw fun i _ e=>selL_at e) x2 x3 x4 hs hn hits hg hg' Z
 have e:selL b (fun i=>if i<H.size then L i else(b,lab' i))=lab':=by
  funext i
  by_cases hi:i<H.size
  ·rw[h4 i hi];unfold selL;simp[hi]
  ·unfold selL;simp[hi]
 refine⟨its',H',Z',fun i=>if i<H.size then L i else(b,lab' i),by rw[e];exact h1,h2.1,h2.2,h3.weaken fun i _ q=>?_,fun i hi=>if_pos hi,h5⟩
 have hne:selL b L i≠0:=by omega
 obtain⟨a1,a2⟩:=selL_ne hne
 exact⟨a1,by omega,by omega⟩
def ApartZ (c:zD)(f z fm:Nat)(Good:List V->Nat->Prop):Prop :=
 ∀ (L:Lab) (b K:Nat) (its:List ItZ) (H:Heap),WF H->zGP z (selL b L) H K its->its.length<1000000->(∀ it ∈ its,Good it.cs it.n)->∀ Z,∃ H' Z',Chg (Of L b) H H'/\∀ q,c f [.ptr K 0,.func fm [] []] H Z q=q (.bool true) H' Z'
theorem ApartZ.mk {c:zD}{f z fm:Nat}{Good:List V->Nat->Prop}
  (h:∀ (lab:Nat->Nat) (K:Nat) (its:List ItZ),its.length<1000000->(∀ it ∈ its,Good it.cs it.n)->∀ H,WF H->zGP z lab H K its->∀ Z,∃ H' Z',Chg (fun i=>lab i≠0) H H'/\∀ q,c f [.ptr K 0,.func fm [] []] H Z q=q (.bool true) H' Z'):ApartZ c f z fm Good:=by
 intro L b K its H hw hb hl hg Z
 obtain⟨H',Z',h1,h2⟩:=h (selL b L) K its hl hg H hw hb Z
 exact⟨H',Z',h1.weaken fun i _ q=>⟨(selL_ne q).1,by rw[(selL_ne q).2];exact q⟩,h2⟩
theorem zGP.newL (z b:Nat)(H:Heap)(L:Lab):zGP z (selL b (labN L H.size b 1)) (H.new [.nils,.nils,.int .i64 ((0:Nat):Int),.bool false] 4 true) H.size [] :=
 zGP.new z H _ (selL_at (labN_ge L _ _ nl))
theorem OfB.of {L:Lab}{b:Nat}{H H1:Heap}(h:Chg (OfB L b) H H1):Chg (Of L b) H H1:=h.weaken fun i _ q=>⟨q.1,q.2.1⟩
theorem Of.gr {L:Lab}{b B:Nat}{H H1:Heap}(h:Chg (Of L b) H H1)(hB:B<=H.size)(hL:∀ i,i<B->L i=(0,0)):Gr B H H1:=h.gr hB fun i hi q=>by
 have q:(L i).1=b/\(L i).2≠0:=q
 rw[hL i hi]at q
 exact q.2 rfl
end Go.Am

namespace Go.Am
section
variable (P:Program) (f:FuncId) (fn:Func) (s:ChangeSpec) (c:OpenClaim)
def jA:Bool:=c.wf (OpenSpec.ofChange s) && laidOutB P && mapsRowed P &&
 fn.params.all (P.readableRec ·) && namedTie P c.named s.vars &&
 (c.stops == []) && (P.stops == []) && (c.knobs == []) && (P.stopKnobs == [])
def jB:Bool:=c.inPlace == P.inPlace f
def jC:Bool:=c.unfollowed == P.unfollowed f
def jD:Bool:=c.recurses == P.recurses f
def jE:Bool:=c.named == P.varsNamed f
def jF:Bool:=(c.maps ==(fn.params.toList++s.plain.varTypes P).any (P.mapsRec ·)) && (c.ifaces ==(fn.params.toList++s.plain.varTypes P).any (P.ifacesRec ·)) && (c.mapsOut == P.mapsAmong fn.resultTypes.toList) &&
 (c.loops ==(fn.params.toList++s.plain.varTypes P).any (P.loopsFrom ·)) && (c.wideKeys ==(fn.params.toList++s.plain.varTypes P++fn.resultTypes.toList).any (P.wideKeysFrom ·)) &&
 s.vars.all (P.varReadable ·) && fn.resultTypes.all (fun t=>P.readableRec t && decide (t<P.types.size)) && (c.ifacesOut == fn.resultTypes.toList.any (P.ifacesRec ·)) && (c.loopsOut == fn.resultTypes.toList.any (P.loopsFrom ·)) && (c.plainKeys == P.plainKeys) && c.shortTexts.isNone
def jG:Bool:=P.stopsHeard
def jH:Bool:=P.mayEnter
def jI:Bool:=(c.lifted == P.liftsFinal) && (P.make == some c.make) && (c.kinds ==(if c.domain.isEmpty then []else fn.params.toList.map fun t=>match P.underlying t with | some (.int k)=>some k | _=>none)) && (c.pinned == c.pinnedBy) &&
 (c.veiled ==(fn.params.toList++s.plain.varTypes P++fn.resultTypes.toList).any (P.veiledRec ·)) && c.veiledFits P fn.params.toList (fn.params.toList++s.plain.varTypes P++fn.resultTypes.toList)
end
theorem joined_of {P:Program}{f:FuncId}{fn:Func}{s:ChangeSpec}{c:OpenClaim}(hA:jA P fn s c=true)(hB:jB P f c=true)(hC:jC P f c=true)(hD:jD P f c=true)(hE:jE P f c=true)(hF:jF P fn s c=true)(hG:jG P=true)(hH:jH P=true)(hI:jI P fn s c=true):joinedFacts P f fn s c=true:=by
 simp only[jA,jB,jC,jD,jE,jF,jG,jH,jI,Bool.and_eq_true,and_assoc]at hA hB hC hD hE hF hG hH hI
 simp only[joinedFacts,Bool.and_eq_true,and_assoc]
 exact⟨hA.1,hA.2.1,hA.2.2.1,hA.2.2.2.1,hA.2.2.2.2.1,hA.2.2.2.2.2.1,hA.2.2.2.2.2.2.1,hA.2.2.2.2.2.2.2.1,hA.2.2.2.2.2.2.2.2,hB,hC,hD,hE,hF.1,hF.2.1,hF.2.2.1,hF.2.2.2.1,hF.2.2.2.2.1,hF.2.2.2.2.2.1,hF.2.2.2.2.2.2.1,hF.2.2.2.2.2.2.2.1,hF.2.2.2.2.2.2.2.2.1,hF.2.2.2.2.2.2.2.2.2.1,hF.2.2.2.2.2.2.2.2.2.2,hG,hH,hI.1,hI.2.1,hI.2.2.1,hI.2.2.2.1,hI.2.2.2.2.1,hI.2.2.2.2.2⟩
end Go.Am

namespace Go.Am
open Go.RowKit (Below)
def flat:V->Bool
 | .bool _=>true
 | .int _ _=>true
 | .str _=>true
 | .agg cs=>cs.all zNE
 | .tup cs=>cs.all zNE
 | _=>false
def eqFl (u v:V):Bool :=
 match u,v with
 | .agg a,.agg b=>a.all zNE && zOc zLr a b
 | .tup a,.tup b=>a.all zNE && zOc zLr a b
 | .bool a,.bool b=>a == b
 | .int k n,.int k' n'=>decide (k=k') && decide (n=n')
 | .str a,.str b=>eqB a b
 | _,_=>false
theorem same0_plain {a b:V}(h:zLr a b=true)(hp:zNE a=true):a=b:=by
 cases a <;> simp only[zNE,Bool.false_eq_true]at hp <;> cases b <;> simp only[zLr,Bool.false_eq_true,beq_iff_eq,Bool.and_eq_true,decide_eq_true_eq]at h
 ·rw[h]
 ·rw[h.1,h.2]
 ·rw[h]
theorem zRZ:∀ {a b:List V},zOc zLr a b=true->a.all zNE=true->a=b:=by
 intro a
 induction a with
 | nil=>intro b h _;cases b with
  | nil=>rfl
  | cons y m=>simp[zOc]at h
 | cons x l ih =>
  intro b h hp
  cases b with
  | nil=>simp[zOc]at h
  | cons y m =>
   simp only[zOc,Bool.and_eq_true]at h
   simp only[List.all_cons,Bool.and_eq_true]at hp
   rw[same0_plain h.1 hp.1,ih h.2 hp.2]
theorem eqFl_spec {u v:V}(h:eqFl u v=true):u=v/\flat u=true:=by
 unfold eqFl at h
 split at h
 ·simp only[Bool.and_eq_true]at h;exact⟨by rw[zRZ h.2 h.1],h.1⟩
 ·simp only[Bool.and_eq_true]at h;exact⟨by rw[zRZ h.2 h.1],h.1⟩
 ·exact⟨by rw[beq_iff_eq.1 h],rfl⟩
 ·simp only[Bool.and_eq_true,decide_eq_true_eq]at h;exact⟨by rw[h.1,h.2],rfl⟩
 ·rw[zO8]at h;exact⟨by rw[beq_iff_eq.1 h],rfl⟩
 ·cases h
theorem cv_plain {a:V}(h:zNE a=true)(U U':Inj):cv U a=cv U' a:=by
 cases a <;> simp only[zNE,Bool.false_eq_true]at h <;> simp only[cv]
theorem cvl_plain:∀ {a:List V},a.all zNE=true->∀ U U':Inj,cvl U a=cvl U' a:=by
 intro a
 induction a with
 | nil=>intros;rfl
 | cons x l ih =>
  intro h U U'
  simp only[List.all_cons,Bool.and_eq_true]at h
  simp only[cvl,cv_plain h.1 U U',ih h.2 U U']
theorem cv_flat {u:V}(h:flat u=true)(U U':Inj):cv U u=cv U' u:=by
 cases u <;> simp only[flat,Bool.false_eq_true]at h <;> simp only[cv]
 ·rw[cvl_plain h U U']
 ·rw[cvl_plain h U U']
theorem vok_flat {u:V}(h:flat u=true)(H:Heap):VOk H u:=by
 cases u <;> simp only[flat,Bool.false_eq_true]at h <;> first | trivial | exact VsOk_plain H _ h
theorem cvl_flat:∀ {a:List V},a.all flat=true->∀ U U':Inj,cvl U a=cvl U' a:=by
 intro a
 induction a with
 | nil=>intros;rfl
 | cons x l ih =>
  intro h U U'
  simp only[List.all_cons,Bool.and_eq_true]at h
  simp only[cvl,cv_flat h.1 U U',ih h.2 U U']
theorem vsok_flat:∀ {a:List V},a.all flat=true->∀ H:Heap,VsOk H a:=by
 intro a
 induction a with
 | nil=>intros;trivial
 | cons x l ih =>
  intro h H
  simp only[List.all_cons,Bool.and_eq_true]at h
  exact⟨vok_flat h.1 H,ih h.2 H⟩
def isK (u:V):KV:=fun v _ _=>bif eqFl u v then doneA else none
theorem isK_some {u v:V}{H:Heap}{Z:Tape}{r:V × Heap × Tape}(h:isK u v H Z=some r):v=u/\flat u=true:=by
 unfold isK at h
 cases hb:eqFl u v with
 | true=>exact⟨(eqFl_spec hb).1.symm,(eqFl_spec hb).2⟩
 | false=>rw[hb]at h;cases h
theorem primOk_const {P:Program}(hm:P.follows .mixedOrders=true){F:T Def}(hF:∀ base w0,T.All (fun f d=>zQ2 P base w0 f d) F (fun k=>k)){E:T Ent}{N d f:Nat}(ht:zTQ F.get N (zNZ E N))(hp:zEr P f=true)
  (n:Nat) (hn:P.globals.size<=n) {Pre:List V->Prop} {g:List V->V}
  (h:∀ vs,Pre vs->vs.all flat=true/\∀ Z,∃ r,zPH (zNZ E N) d f vs (start (List.replicate n none)) Z (isK (g vs))=some r) (base:Base) (w0:World):zCP P base w0 f (outP (RV Pre g)):=by
 refine⟨outP_ev _,fun vs H U w hM hG hok hn0=>⟨hp,?_⟩⟩
 have hPre:Pre vs:=by
  have:=hn0 (fun _=>0)
  unfold outP at this
  by_cases hx:∃ o,RV Pre g vs H o
  ·obtain⟨o,h1,_⟩:=hx;exact h1
  ·rw[dif_neg hx]at this;exact absurd rfl this
 obtain⟨hfl,hrun⟩:=h vs hPre
 have hr:∀ Z,∃ v H' Z',call F.get N d f vs (start (List.replicate n none)) Z=some (v,H',Z')/\(v=g vs/\flat (g vs)=true):=by
  intro Z
  obtain⟨r,hr⟩:=hrun Z
  obtain⟨v,H',Z',h2,h3⟩:=zSx ht d f vs _ Z (isK (g vs)) _ hr
  exact⟨v,H',Z',h2,isK_some h3⟩
 rw[cvl_flat hfl U (fun id=>(id,0))]
 refine(zSY hm (W:=w) (fun f d hd base w0=>defs_ok (hF base w0) f d hd) N d f vs (List.replicate n none) (fun id=>(id,0)) (fun id cs hid=>?_) (fun g _=>rfl) (by simpa using hn) (vsok_flat hfl _) (fun v _=>v=g vs/\flat (g vs)=true) hr).mono fun e w' ⟨v,H',U',he,⟨hv,hg⟩,hM',_⟩=>?_
 ·rw[List.getElem?_replicate]at hid
  split at hid <;> cases hid
 ·subst hv
  exact⟨g vs,H,U,[],by rw[he,cv_flat hg U' U],fun Z=>zRq (RV_fun Pre g) ⟨hPre,rfl⟩ Z,hM.keep hM'.below.low,Ext.refl _ _,Evol.refl _,vok_flat hg H⟩
end Go.Am

namespace Go.Am
open Go.RowKit (Below)
def thenA (a b:Ans):Ans :=
 match a with
 | some _=>b
 | none=>none
def allA {α:Type}(l:List α)(f:α->Ans):Ans :=
 match l with
 | []=>doneA
 | x::l=>thenA (f x) (allA l f)
theorem allA_some {α:Type}{f:α->Ans}:∀ {l:List α} {r:V × Heap × Tape},allA l f=some r->∀ x ∈ l,∃ r,f x=some r:=by
 intro l
 induction l with
 | nil=>intro r _ x hx;cases hx
 | cons a l ih =>
  intro r h x hx
  unfold allA thenA at h
  split at h
  ·rename_i r' he
   rcases List.mem_cons.1 hx with rfl | hx
   ·exact⟨_,he⟩
   ·exact ih h x hx
  ·cases h
theorem allA_run {α:Type}{l:List α}{f:Tape->α->Ans}(h:(fun Z=>allA l (f Z))=fun _=>doneA){x:α}(hx:x ∈ l)(Z:Tape):∃ r,f Z x=some r :=
 allA_some (show allA l (f Z)=some _ from congrFun h Z) x hx
end Go.Am

namespace Go.Am
theorem append_none {H:Heap}{id m z bytes n:Nat}{old new:List V}(hl:H.loads id 0 (m*z)=some old)(hn:0<n)(h1:(m+n)*bytes<=140737488355328)(h2:m+n<=140737488355328)(Z:Tape) :
  append H z bytes (.sl id 0 m m none z) n new Z=some (.sl H.size 0 (m+n) (m+n) (some (spare (m+n) (Z 0))) z,H.new (old++new) ((m+n+spare (m+n) (Z 0))*z) false,Z.tail):=by
 have e3:Nat.ble (m+n) m=false:=by
  cases hb:Nat.ble (m+n) m with
  | false=>rfl
  | true=>have:=Nat.le_of_ble_eq_true hb;omega
 simp only[append,Nat.beq_refl,cond_true,e3,cond_false,Nat.ble_eq_true_of_le h1,Nat.ble_eq_true_of_le h2,Bool.and_self,hl,fresh]
def BodP (P:Nat->Prop)(H:Heap)(v:V)(n:Nat)(cs:List V):Prop :=
 (v=.nils/\n=0/\cs=[])∨∃ id lo ex room fam ver pl st fr,v=.sl id 0 n lo ex 1/\H.blk.get id=some (.mem cs room fam ver true pl st)/\H.fams.get fam=some (fr,ver)/\fr<=ver/\P id/\P fam /\
  cs.length=n/\n<=lo+ex.getD 0/\lo+ex.getD 0<=room/\lo+ex.getD 0<9223372036854775808
theorem BodP.nil (P:Nat->Prop)(H:Heap):BodP P H .nils 0 []:=.inl ⟨rfl,rfl,rfl⟩
theorem BodP.cells {P:Nat->Prop}{H:Heap}{id n lo:Nat}{ex:Option Nat}{cs:List V}(h:BodP P H (.sl id 0 n lo ex 1) n cs):H.cells? id=some cs:=by
 rcases h with⟨h,_⟩ | ⟨id',lo',ex',room,fam,ver,pl,st,fr,e,h1,h2,h3,_⟩
 ·cases h
 ·cases e
  simp only[Heap.cells?,h1,h2]
  rw[show Nat.ble fr ver=true from Nat.ble_eq_true_of_le h3]
  rfl
theorem BodP.rd {P:Nat->Prop}{H:Heap}{v:V}{n:Nat}{cs:List V}(h:BodP P H v n cs):Rd H 1 v n cs:=by
 have h0:=h
 rcases h with⟨rfl,rfl,rfl⟩ | ⟨id,lo,ex,room,fam,ver,pl,st,fr,rfl,h1,h2,h3,h4,h5,h6,_⟩
 ·exact .inl ⟨.inl rfl,rfl,rfl⟩
 ·exact .inr ⟨id,0,lo,ex,cs,rfl,h0.cells,by rw[List.drop_zero,Nat.mul_one,<- h6,List.take_length],by omega⟩
theorem BodP.scal {P:Nat->Prop}{H:Heap}{v:V}{n:Nat}{cs:List V}(h:BodP P H v n cs):v.cells=[v]/\v.scal=true:=by
 rcases h with⟨rfl,_⟩ | ⟨id,lo,ex,room,fam,ver,pl,st,fr,rfl,_⟩ <;> exact⟨rfl,rfl⟩
theorem BodP.roomZ {P:Nat->Prop}{H:Heap}{v:V}{n:Nat}{cs:List V}(h:BodP P H v n cs):∃ cap,zFx P H v 1 cap cs/\cap<9223372036854775808:=by
 rcases h with⟨rfl,rfl,rfl⟩ | ⟨id,lo,ex,room,fam,ver,pl,st,fr,rfl,h1,h2,h3,h4,h5,h6,h7,h8,h9⟩
 ·exact⟨0,.inl ⟨rfl,rfl,rfl⟩,by omega⟩
 ·exact⟨lo+ex.getD 0,.inr ⟨id,0,n,lo,ex,cs,room,fam,ver,pl,st,fr,rfl,rfl,h1,h2,h3,h4,h5,by omega,by rw[List.drop_zero,List.take_length],.inr (by omega),by omega⟩,h9⟩
theorem BodP.chg {P Q:Nat->Prop}{H H':Heap}{v:V}{n:Nat}{cs:List V}(h:BodP P H v n cs)(hw:WF H)(hg:Chg Q H H')(hPQ:∀ i,i<H.size->P i->¬ Q i):BodP P H' v n cs:=by
 rcases h with h | ⟨id,lo,ex,room,fam,ver,pl,st,fr,e,h1,h2,h3,h4,h5,h6⟩
 ·exact .inl h
 ·exact .inr ⟨id,lo,ex,room,fam,ver,pl,st,fr,e,by rw[hg.blk id (hw.blk _ _ h1) (hPQ _ (hw.blk _ _ h1) h4)];exact h1,by rw[hg.fams fam (hw.fams _ _ h2) (hPQ _ (hw.fams _ _ h2) h5)];exact h2,h3,h4,h5,h6⟩
theorem BodP.weaken {P Q:Nat->Prop}{H:Heap}{v:V}{n:Nat}{cs:List V}(h:BodP P H v n cs)(hw:WF H)(hPQ:∀ i,i<H.size->P i->Q i):BodP Q H v n cs:=by
 rcases h with h | ⟨id,lo,ex,room,fam,ver,pl,st,fr,e,h1,h2,h3,h4,h5,h6⟩
 ·exact .inl h
 ·exact .inr ⟨id,lo,ex,room,fam,ver,pl,st,fr,e,h1,h2,h3,hPQ _ (hw.blk _ _ h1) h4,hPQ _ (hw.fams _ _ h2) h5,h6⟩
theorem clone1 {H:Heap}{v:V}{n:Nat}{cs:List V}(hw:WF H)(hr:Rd H 1 v n cs)(hs:Src H v)(hn:n<=140737488355328)(Z:Tape) :
  ∃ v' H' Z',zx 1 1 [.sl H.size 0 0 0 none 1,v] (H.new [] 0 false) Z=some (v',H',Z')/\BodP (fun i=>H.size<=i) H' v' n cs/\Gr H.size H H':=by
 have hc:Bx (H.new [] 0 false) H.size []:=Bx.new H [] 0 false nl
 have g1:Gr H.size H (H.new [] 0 false):=Gr.new hw _ _ _
 generalize hH1:H.new [] 0 false=H1 at hc g1
 have z1:H1.size=H.size+1:=hH1 ▸ rfl
 have hr1:=hr.gr g1 hw nl
 have hs1:=hs.gr g1 hw nl
 have hlen:=hr.len
 cases n with
 | zero =>
  have hE:Emp H1 H.size (.sl H.size 0 0 0 none 1):=⟨H.size,rfl,hc.cells,Nat.le_refl _⟩
  obtain⟨v',H',Z',r1,r2,r3⟩:=hE.append (bytes:=1) g1.wf g1.size hr1 hs1 (by omega) hn Z
  rcases r2 with⟨_,h0⟩ | ⟨_,rfl,rfl,rfl⟩
  ·omega
  ·obtain⟨room,ver,pl,st,fr,k1,k2,k3,_⟩:=hc
   exact⟨_,_,Z',r1,.inr ⟨H.size,0,none,room,H.size,ver,pl,st,fr,rfl,k1,k2,k3,Nat.le_refl _,Nat.le_refl _,rfl,Nat.le_refl _,Nat.zero_le _,by simp⟩,g1⟩
 | succ m =>
  have l0:H1.loads H.size 0 (0*1)=some []:=by
   have:=zCU (n:=0) (off:=0) hc.cells (by simp)
   simpa using this
  have hap:=append_none (z:=1) (bytes:=1) (n:=m+1) (new:=cs) l0 (by omega) (by omega) (by omega) Z
  rcases hr1 with⟨_,h0,_⟩ | ⟨id',off,lo,ex,all,rfl,k1,k2,k3⟩
  ·omega
  ·have hload:H1.loads id' off ((m+1)*1)=some cs:=by
    simp only[Heap.loads,k1]
    rw[zGz,<- k2]
    have:=congrArg List.length k2
    rw[k3,List.length_take]at this
    omega
   refine⟨_,H1.new cs ((m+1+spare (m+1) (Z 0))*1) false,Z.tail,?_,.inr ⟨H1.size,m+1,some (spare (m+1) (Z 0)),_,H1.size,0,false,0,0,rfl,T.get_set_same _ _ _,T.get_set_same _ _ _,Nat.le_refl _,by omega,by omega,by omega,by simp,by simp,?_⟩,g1.trans (Gr.new g1.wf _ _ _) (by omega)⟩
   ·simp only[zx,zGA,zCj,Nat.beq_refl,cond_true,hload]
    simpa using hap
   ·have:spare (m+1) (Z 0)<9223372036854775808-(m+1):=Nat.mod_lt _ (by omega)
    simp only[Option.getD_some];omega
end Go.Am

namespace Go.Am
open Go.RowKit (Below)
open Go.Proofs (encStr)
open Go.WideElems (Fit rg rd)
end Go.Am

namespace Go.Am
abbrev zR0 (P:Nat->Prop)(H:Heap):Prop:=∀ i,H.size<=i->P i
theorem boxN {H:Heap}(hw:WF H)(n:Nat)(zs xs:List V)(hz:zs.length=n)(hx:xs.length=n)(h0:0<n)(hs:xs.all V.scal=true)(Z:Tape) :
  ∃ H1 H2,zB6 zs [] H Z=some (.ptr H.size 0,H1,Z)/\eStore n [.ptr H.size 0,.agg xs] H1 Z=some (.tup [],H2,Z)/\Bx H2 H.size xs/\Gr H.size H H2/\H.size<H2.size:=by
 have g1:=Gr.new hw zs zs.length true
 have b1:=Bx.new H zs zs.length true nl
 obtain⟨H2,s2,b2,o2⟩:=b1.eStore g1.wf 0 (.agg xs) n hx (by omega) h0 hs Z
 refine⟨_,H2,rfl,s2,?_,g1.trans (o2.gr nl) nl,b2.lt o2.wf⟩
 have e:zs.take 0++(V.agg xs).cells++zs.drop (0+n)=xs:=by
  rw[List.take_zero,List.nil_append,V.cells,List.drop_eq_nil_of_le (by omega),List.append_nil]
 rwa [e]at b2
end Go.Am

namespace Go.Am
def BlkP (P:Nat->Prop)(H:Heap)(id:Nat)(cs:List V):Prop :=
 ∃ room fam ver pl st fr,H.blk.get id=some (.mem cs room fam ver true pl st)/\H.fams.get fam=some (fr,ver)/\fr<=ver/\P id/\P fam
theorem BlkP.cells {P:Nat->Prop}{H:Heap}{id:Nat}{cs:List V}(h:BlkP P H id cs):H.cells? id=some cs:=by
 obtain⟨room,fam,ver,pl,st,fr,h1,h2,h3,_,_⟩:=h
 simp only[Heap.cells?,h1,h2]
 rw[show Nat.ble fr ver=true from Nat.ble_eq_true_of_le h3]
 rfl
theorem BlkP.chg {P Q:Nat->Prop}{H H':Heap}{id:Nat}{cs:List V}(h:BlkP P H id cs)(hw:WF H)(hg:Chg Q H H')(hPQ:∀ i,i<H.size->P i->¬ Q i):BlkP P H' id cs:=by
 obtain⟨room,fam,ver,pl,st,fr,h1,h2,h3,h4,h5⟩:=h
 have a:=hw.blk _ _ h1
 have b:=hw.fams _ _ h2
 exact⟨room,fam,ver,pl,st,fr,by rw[hg.blk id a (hPQ _ a h4)];exact h1,by rw[hg.fams fam b (hPQ _ b h5)];exact h2,h3,h4,h5⟩
theorem BlkP.weaken {P Q:Nat->Prop}{H:Heap}{id:Nat}{cs:List V}(h:BlkP P H id cs)(hw:WF H)(hPQ:∀ i,i<H.size->P i->Q i):BlkP Q H id cs:=by
 obtain⟨room,fam,ver,pl,st,fr,h1,h2,h3,h4,h5⟩:=h
 exact⟨room,fam,ver,pl,st,fr,h1,h2,h3,hPQ _ (hw.blk _ _ h1) h4,hPQ _ (hw.fams _ _ h2) h5⟩
theorem BlkP.stores {P:Nat->Prop}{H:Heap}{id:Nat}{cs:List V}(h:BlkP P H id cs)(hw:WF H)(off:Nat)(vs:List V)(hl:off+vs.length<=cs.length)(hs:vs.all V.scal=true) :
  ∃ H',H.stores id off vs=some H'/\BlkP P H' id (cs.take off++vs++cs.drop (off+vs.length))/\Chg P H H'/\H'.size=H.size:=by
 obtain⟨room,fam,ver,pl,st,fr,h1,h2,h3,h4,h5⟩:=h
 cases vs with
 | nil=>exact⟨H,rfl,by simpa using ⟨room,fam,ver,pl,st,fr,h1,h2,h3,h4,h5⟩,Chg.refl hw,rfl⟩
 | cons v vs =>
  have hroom:H.room? id=room:=by simp only[Heap.room?,h1]
  have hov:=zNs off room (v::vs) cs hl
  refine⟨{ size:=H.size,blk:=H.blk.s id (.mem (cs.take off++(v::vs)++cs.drop (off+(v::vs).length)) room fam ver true pl (st+1)),fams:=H.fams.s fam (ver,ver) },?_,?_,?_,rfl⟩
  ·simp only[Heap.stores,hs,cond_true,Heap.write,h1,h2,hroom,hov]
   rw[show Nat.beq ver ver=true from Nat.beq_refl ver,show Nat.ble fr ver=true from Nat.ble_eq_true_of_le h3]
   rfl
  ·exact⟨room,fam,ver,pl,st+1,ver,T.get_set_same _ _ _,T.get_set_same _ _ _,Nat.le_refl _,h4,h5⟩
  ·have hid:=hw.blk _ _ h1
   have hfam:=hw.fams _ _ h2
   refine⟨⟨?_,?_,?_⟩,Nat.le_refl _,fun i _ hi=>?_,fun f _ hf=>?_⟩
   ·intro i b hb
    simp only[T.get_set]at hb ⊢
    split at hb
    ·omega
    ·exact hw.blk _ _ hb
   ·intro f x hf
    simp only[T.get_set]at hf ⊢
    split at hf
    ·omega
    ·exact hw.fams _ _ hf
   ·intro i c r f v' w p s hb
    simp only[T.get_set]at hb ⊢
    split at hb
    ·cases hb;exact hfam
    ·exact hw.fam _ _ _ _ _ _ _ _ hb
   ·simp only[T.get_set];rw[if_neg (fun e=>hi (by rw[e]at h4;exact h4))]
   ·simp only[T.get_set];rw[if_neg (fun e=>hf (by rw[e]at h5;exact h5))]
theorem BlkP.eStore {P:Nat->Prop}{H:Heap}{id:Nat}{cs:List V}(h:BlkP P H id cs)(hw:WF H)(off:Nat)(x:V)(n:Nat)(hn:x.cells.length=n)(hl:off+n<=cs.length)(hs:x.cells.all V.scal=true)(Z:Tape) :
  ∃ H',Am.eStore n [.ptr id off,x] H Z=some (.tup [],H',Z)/\BlkP P H' id (cs.take off++x.cells++cs.drop (off+n))/\Chg P H H'/\H'.size=H.size:=by
 obtain⟨H',h1,h2,h3,h4⟩:=h.stores hw off x.cells (by omega) hs
 refine⟨H',?_,by rw[<- hn];exact h2,h3,h4⟩
 simp only[Am.eStore,hn,h1,Nat.beq_refl,cond_true]
def GenL (P:Nat->Prop)(H:Heap)(z:Nat)(v:V)(m:Nat)(cs:List V):Prop :=
 (v=.nils/\m=0/\cs=[])∨∃ id lo ex all,v=.sl id 0 m lo ex z/\BlkP P H id all/\m<=lo/\all.length=lo*z/\cs.length=m*z/\all.take (m*z)=cs
theorem GenL.nil (P:Nat->Prop)(H:Heap)(z:Nat):GenL P H z .nils 0 []:=.inl ⟨rfl,rfl,rfl⟩
theorem GenL.rd {P:Nat->Prop}{H:Heap}{z:Nat}{v:V}{m:Nat}{cs:List V}(h:GenL P H z v m cs):Rd H z v m cs:=by
 rcases h with⟨rfl,h⟩ | ⟨id,lo,ex,all,rfl,h1,h2,h3,h4,h5⟩
 ·exact .inl ⟨.inl rfl,h⟩
 ·exact .inr ⟨id,0,lo,ex,all,rfl,h1.cells,by rw[List.drop_zero,h5],h4⟩
theorem GenL.pLen {P:Nat->Prop}{H:Heap}{z:Nat}{v:V}{m:Nat}{cs:List V}(h:GenL P H z v m cs):Am.pLen [v]=some (.int .i64 (m:Int)):=h.rd.pLen
theorem GenL.scal {P:Nat->Prop}{H:Heap}{z:Nat}{v:V}{m:Nat}{cs:List V}(h:GenL P H z v m cs):v.cells=[v]/\v.scal=true:=by
 rcases h with⟨rfl,_⟩ | ⟨_,_,_,_,rfl,_⟩ <;> exact⟨rfl,rfl⟩
theorem GenL.chg {P Q:Nat->Prop}{H H':Heap}{z:Nat}{v:V}{m:Nat}{cs:List V}(h:GenL P H z v m cs)(hw:WF H)(hg:Chg Q H H')(hPQ:∀ i,i<H.size->P i->¬ Q i):GenL P H' z v m cs:=by
 rcases h with h | ⟨id,lo,ex,all,h0,h1,h2⟩
 ·exact .inl h
 ·exact .inr ⟨id,lo,ex,all,h0,h1.chg hw hg hPQ,h2⟩
theorem GenL.weaken {P Q:Nat->Prop}{H:Heap}{z:Nat}{v:V}{m:Nat}{cs:List V}(h:GenL P H z v m cs)(hw:WF H)(hPQ:∀ i,i<H.size->P i->Q i):GenL Q H z v m cs:=by
 rcases h with h | ⟨id,lo,ex,all,h0,h1,h2⟩
 ·exact .inl h
 ·exact .inr ⟨id,lo,ex,all,h0,h1.weaken hw hPQ,h2⟩
theorem GenL.gr {P:Nat->Prop}{H H':Heap}{z:Nat}{v:V}{m:Nat}{cs:List V}(h:GenL P H z v m cs)(hw:WF H)(hg:Gr H.size H H'):GenL P H' z v m cs:=h.chg hw (hg.chg (P:=fun _=>False)) fun _ _ _=>not_false
theorem GenL.append1 {P:Nat->Prop}{H:Heap}{z bytes:Nat}{v:V}{m:Nat}{cs:List V}(h:GenL P H z v m cs)(hw:WF H)(hP:zR0 P H)(new:List V)(hz:0<z)(hl:new.length=z)(hs:new.all V.scal=true)
  (h1:(m+1)*bytes<=140737488355328) (h2:m+1<=140737488355328) (Z:Tape) :
  ∃ v' H' Z',Am.append H z bytes v 1 new Z=some (v',H',Z')/\GenL P H' z v' (m+1) (cs++new)/\Chg P H H':=by
 have e1:Nat.ble ((m+1)*bytes) 140737488355328=true:=Nat.ble_eq_true_of_le h1
 have e2:Nat.ble (m+1) 140737488355328=true:=Nat.ble_eq_true_of_le h2
 rcases h with⟨rfl,rfl,rfl⟩ | ⟨id,lo,ex,all,rfl,k1,k2,k3,k4,k5⟩
 ·refine⟨.sl H.size 0 1 1 (some (spare 1 (Z 0))) z,H.new new ((1+spare 1 (Z 0))*z) false,Z.tail,?_,?_,(Gr.new hw _ _ _).chg⟩
  ·simp only[Am.append,Nat.zero_add]at e1 e2 ⊢
   simp only[e1,e2,Bool.and_self,cond_true,fresh]
  ·exact .inr ⟨H.size,1,_,new,rfl,⟨_,H.size,0,false,0,0,T.get_set_same _ _ _,T.get_set_same _ _ _,Nat.le_refl _,hP _ nl,hP _ nl⟩,Nat.le_refl _,by omega,by simp;omega,by rw[List.nil_append,Nat.zero_add,Nat.one_mul,<- hl,List.take_length]⟩
 ·by_cases hin:m+1<=lo
  ·have e3:Nat.ble (m+1) lo=true:=Nat.ble_eq_true_of_le hin
   have hle:m*z+z<=lo*z:=by rw[<- Nat.succ_mul];exact Nat.mul_le_mul_right _ hin
   obtain⟨H',r1,r2,r3,r4⟩:=k1.stores hw (m*z) new (by omega) hs
   refine⟨.sl id 0 (m+1) lo ex z,H',Z,?_,.inr ⟨id,lo,ex,_,rfl,r2,hin,?_,?_,?_⟩,r3⟩
   ·simp only[Am.append,Nat.beq_refl,cond_true,e3,Nat.zero_add,r1]
   ·simp only[List.length_append,List.length_take,List.length_drop];omega
   ·rw[List.length_append,k4,hl,Nat.succ_mul]
   ·rw[k5,List.take_append_of_le_length (by rw[List.length_append,k4,hl,Nat.succ_mul];exact Nat.le_refl _)]
    exact List.take_of_length_le (by rw[List.length_append,k4,hl,Nat.succ_mul];exact Nat.le_refl _)
  ·have hml:m=lo:=by omega
   subst hml
   have e3:Nat.ble (m+1) m=false:=by
    cases hb:Nat.ble (m+1) m with
    | false=>rfl
    | true=>have:=Nat.le_of_ble_eq_true hb;omega
   have hall:all=cs:=by rw[<- k5,<- k3,List.take_length]
   subst hall
   have hloads:H.loads id 0 (m*z)=some all:=by
    simp only[Heap.loads,k1.cells,List.drop_zero]
    rw[zGz _ _ (by omega),k5]
   have hlen2:(all++new).length=(m+1)*z:=by rw[List.length_append,k3,hl,Nat.succ_mul]
   cases ex with
   | none =>
    refine⟨.sl H.size 0 (m+1) (m+1) (some (spare (m+1) (Z 0))) z,H.new (all++new) ((m+1+spare (m+1) (Z 0))*z) false,Z.tail,?_,?_,(Gr.new hw _ _ _).chg⟩
    ·simp only[Am.append,Nat.beq_refl,cond_true,e3,cond_false,e1,e2,Bool.and_self,hloads,fresh]
    ·exact .inr ⟨H.size,m+1,_,_,rfl,⟨_,H.size,0,false,0,0,T.get_set_same _ _ _,T.get_set_same _ _ _,Nat.le_refl _,hP _ nl,hP _ nl⟩,Nat.le_refl _,hlen2,hlen2,by rw[<- hlen2,List.take_length]⟩
   | some e =>
    obtain⟨room,fam,ver,pl,st,fr,q1,q2,q3,q4,q5⟩:=k1
    have hid:=hw.blk _ _ q1
    have hfam:=hw.fams _ _ q2
    have e6:Nat.beq (0+m*z) all.length=true:=by rw[k3,Nat.zero_add];exact Nat.beq_refl _
    refine⟨.sl H.size 0 (m+1) (m+1) (some (spare (m+1) (Z 0))) z,H.version (all++new) ((m+1+spare (m+1) (Z 0))*z) fam fr ver pl,Z.tail,?_,?_,⟨hw.version _ _ _ _ _ _ hfam,Nat.le_succ _,fun i hi hp=>?_,fun f hf hp=>?_⟩⟩
    ·simp only[Am.append,Nat.beq_refl,cond_true,e3,cond_false,e1,e2,Bool.and_self,hloads,q1,q2,e6,hs]
    ·exact .inr ⟨H.size,m+1,_,_,rfl,⟨_,fam,ver+1,pl,0,fr,T.get_set_same _ _ _,T.get_set_same _ _ _,by omega,hP _ nl,q5⟩,Nat.le_refl _,hlen2,hlen2,by rw[<- hlen2,List.take_length]⟩
    ·simp only[Heap.version,T.get_set];rw[if_neg (by omega)]
    ·simp only[Heap.version,T.get_set];rw[if_neg (fun e=>hp (by rw[e]at q5;exact q5))]
theorem GenL.put {P:Nat->Prop}{H:Heap}{z bytes:Nat}{v:V}{m:Nat}{cs:List V}(h:GenL P H z v m cs)(hw:WF H)(hP:zR0 P H)(new:List V)(hz:0<z)(hl:new.length=z)(hs:new.all V.scal=true)
  (h1:(m+1)*bytes<=140737488355328) (h2:m+1<=140737488355328) (Z:Tape) (pl:Bool) :
  ∃ v' H' Z',zx z bytes [v,.sl H.size 0 1 1 none z] (H.new new z pl) Z=some (v',H',Z')/\GenL P H' z v' (m+1) (cs++new)/\Chg P H H'/\Chg P (H.new new z pl) H':=by
 have hG:=Gr.new hw new z pl
 have hc:=zH1 H new z pl
 obtain⟨v',H',Z',r1,r2,r3⟩:=(h.gr hw hG).append1 (bytes:=bytes) hG.wf (fun i hi=>hP i (Nat.le_trans hG.size hi)) new hz hl hs h1 h2 Z
 refine⟨v',H',Z',?_,r2,((hG.chg (P:=fun _=>False)).weaken (fun _ _ h=>h.elim)).trans r3 fun _ _ h=>h,r3⟩
 have hld:(H.new new z pl).loads H.size 0 (1*z)=some new:=by
  rw[zCU hc (by omega),List.drop_zero,List.take_of_length_le (by omega)]
 simp only[zx,zGA,zCj,Nat.beq_refl,cond_true,hld,r1]
theorem GenL.put_at {P:Nat->Prop}{H:Heap}{z:Nat}{v:V}{m:Nat}{cs:List V}(h:GenL P H z v m cs)(hw:WF H){i:Nat}(hi:i<m)(hz:0<z)(x:List V)(hx:x.length=z)(hs:x.all V.scal=true)(Z:Tape) :
  ∃ p H',zAS z [v,.int .i64 (i:Int)]=some p/\(∀ n,n=z->Am.eStore n [p,.agg x] H Z=some (.tup [],H',Z))/\GenL P H' z v m (cs.take (i*z)++x++cs.drop (i*z+z))/\Chg P H H':=by
 rcases h with⟨_,h0,_⟩ | ⟨id,lo,ex,all,rfl,k1,k2,k3,k4,k5⟩
 ·omega
 ·have hmul:i*z+z<=m*z:=by
   have:=Nat.mul_le_mul_right z (show i+1<=m by omega)
   rwa [Nat.succ_mul]at this
  have hlo:m*z<=lo*z:=Nat.mul_le_mul_right _ k2
  obtain⟨H',r1,r2,r3,r4⟩:=k1.eStore hw (i*z) (.agg x) z hx (by omega) hs Z
  have hb:=zSk hi
  refine⟨.ptr id (0+i*z),H',by simp only[zAS,zBX,Nat.beq_refl,hb,Bool.and_self,cond_true],fun n hn=>by rw[hn,Nat.zero_add];exact r1,.inr ⟨id,lo,ex,_,rfl,r2,k2,?_,?_,?_⟩,r3⟩
  ·simp only[V.cells,List.length_append,List.length_take,List.length_drop];omega
  ·simp only[List.length_append,List.length_take,List.length_drop];omega
  ·rw[<- k5,List.take_take,Nat.min_eq_left (by omega),V.cells,List.append_assoc,List.take_append,List.append_assoc,List.length_take,Nat.min_eq_left (by omega)]
   congr 1
   ·exact List.take_of_length_le (by rw[List.length_take];omega)
   ·rw[List.take_append,List.take_of_length_le (show x.length<=m*z-i*z by omega)]
    congr 1
    rw[hx,List.drop_take]
    congr 1;omega
theorem repl_scal {zero:List V}(h:zero.all V.scal=true)(n:Nat):(repl n zero).all V.scal=true:=by
 unfold repl
 rw[List.all_eq_true]at h ⊢
 intro v hv
 rw[List.mem_flatten]at hv
 obtain⟨l,h1,h2⟩:=hv
 rw[List.eq_of_mem_replicate h1]at h2
 exact h v h2
theorem GenL.upto {P:Nat->Prop}{H:Heap}{z:Nat}{v:V}{m:Nat}{cs:List V}(h:GenL P H z v m cs){k:Nat}(hk:k<=m)(hv:v≠.nils) :
  ∃ v',zt z false true false [v,.int .i64 (k:Int)]=some v'/\v'≠.nils/\GenL P H z v' k (cs.take (k*z)):=by
 rcases h with⟨rfl,_⟩ | ⟨id,lo,ex,all,rfl,k1,k2,k3,k4,k5⟩
 ·exact absurd rfl hv
 ·have hb:zCL false true false [V.int .i64 (k:Int)]=some (none,some k,none):=by simp only[zCL,optN,zBX]
  have hwi:within k lo ex=true:=by rw[within_iff];exact .inl (by omega)
  have h0:Nat.ble 0 k=true:=Nat.ble_eq_true_of_le (Nat.zero_le _)
  have h0':Nat.ble 0 lo=true:=Nat.ble_eq_true_of_le (Nat.zero_le _)
  have ho:zOm 0 0 lo ex z=0:=rfl
  have hkz:k*z<=m*z:=Nat.mul_le_mul_right _ hk
  refine⟨.sl id 0 k lo ex z,by simp only[zt,Nat.beq_refl,cond_true,hb,zNc,Option.getD_some,Option.getD_none,hwi,h0,h0',Bool.and_self,ho,Nat.sub_zero],(fun h=>by cases h),.inr ⟨id,lo,ex,all,rfl,k1,by omega,k3,?_,?_⟩⟩
  ·rw[List.length_take,k4];exact Nat.min_eq_left hkz
  ·rw[<- k5,List.take_take,Nat.min_eq_left hkz]
theorem GenL.clear {P:Nat->Prop}{H:Heap}{z:Nat}{v:V}{m:Nat}{cs:List V}(h:GenL P H z v m cs)(hw:WF H)(hv:v≠.nils){k:Nat}(hk:k<=m)(zero:List V)(hzl:zero.length=z)(hzs:zero.all V.scal=true)(Z:Tape) :
  ∃ w H' v',zt z true false false [v,.int .i64 (k:Int)]=some w/\zKv z zero [w] H Z=some (.tup [],H',Z)/\zt z false true false [v,.int .i64 (k:Int)]=some v'/\v'≠.nils/\GenL P H' z v' k (cs.take (k*z))/\Chg P H H':=by
 obtain⟨v',u1,u2,u3⟩:=h.upto hk hv
 rcases h with⟨rfl,_⟩ | ⟨id,lo,ex,all,rfl,k1,k2,k3,k4,k5⟩
 ·exact absurd rfl hv
 ·obtain⟨off',lo',ex',m1,m2,m3⟩:=from_mk (id:=id) (off:=0) (n:=m) (lo:=lo) (z:=z) (ex:=ex) (by rw[within_iff];exact .inl k2) hk
  have hkz:k*z<=m*z:=Nat.mul_le_mul_right _ hk
  have hmz:m*z<=lo*z:=Nat.mul_le_mul_right _ k2
  have hrl:(repl (m-k) zero).length=m*z-k*z:=by rw[zDE,hzl,Nat.sub_mul]
  have hB:Nat.beq zero.length z=true:=by rw[hzl];exact Nat.beq_refl _
  by_cases hlt:k<m
  ·have ho:=m2 hlt
   rw[Nat.zero_add]at ho
   subst ho
   obtain⟨H',r1,r2,r3,r4⟩:=k1.stores hw (k*z) (repl (m-k) zero) (by omega) (repl_scal hzs _)
   refine⟨_,H',v',m1,?_,u1,u2,?_,r3⟩
   ·simp only[zKv,Nat.beq_refl,hB,Bool.and_self,cond_true,r1]
   ·rcases u3 with⟨e,_⟩ | ⟨id',lo'',ex'',all',e,j1,j2,j3,j4,j5⟩
    ·exact absurd e u2
    ·have hid:id'=id:=by
      subst e
      have hb:zCL false true false [V.int .i64 (k:Int)]=some (none,some k,none):=by simp only[zCL,optN,zBX]
      simp only[zt,Nat.beq_refl,cond_true,hb,zNc,Option.getD_some,Option.getD_none,Bool.cond_eq_ite]at u1
      repeat' (split at u1)
      all_goals first | (cases u1;done) | (cases u1;rfl)
     subst hid
     have hall:all'=all:=by
      have:=j1.cells;rw[k1.cells]at this;exact(Option.some.inj this).symm
     subst hall
     refine .inr ⟨id',lo'',ex'',_,e,r2,j2,?_,j4,?_⟩
     ·simp only[List.length_append,List.length_take,List.length_drop];omega
     ·rw[List.append_assoc,List.take_append,List.length_take,Nat.min_eq_left (by omega),Nat.sub_self,List.take_zero,List.append_nil,List.take_take,Nat.min_self,j5]
  ·obtain rfl:k=m:=by omega
   have hr0:repl (k-k) zero=[]:=by rw[Nat.sub_self];rfl
   refine⟨_,H,v',m1,?_,u1,u2,u3,Chg.refl hw⟩
   simp only[zKv,Nat.beq_refl,hB,Bool.and_self,cond_true,hr0]
   rfl
end Go.Am

namespace Go.Am
structure Cells {E:Type} (cf:E->List V) (z:Nat):Prop where
 len:∀ x,(cf x).length=z
 scal:∀ x,(cf x).all V.scal=true
 pos:0<z
section
variable {E:Type} {cf:E->List V} {z:Nat}
theorem Cells.cat_len (h:Cells cf z):∀ l:List E,(l.flatMap cf).length=l.length*z:=by
 intro l
 induction l with
 | nil=>simp
 | cons x l ih=>rw[List.flatMap_cons,List.length_append,ih,h.len,List.length_cons,Nat.succ_mul,Nat.add_comm]
theorem Cells.cat_scal (h:Cells cf z):∀ l:List E,(l.flatMap cf).all V.scal=true:=by
 intro l
 induction l with
 | nil=>rfl
 | cons x l ih=>rw[List.flatMap_cons,List.all_append,ih,h.scal];rfl
theorem Cells.cat_drop (h:Cells cf z)(pre l:List E):((pre++l).flatMap cf).drop (pre.length*z)=l.flatMap cf:=by
 rw[List.flatMap_append,<- h.cat_len pre,List.drop_left]
theorem Cells.cat_take (h:Cells cf z)(pre l:List E):((pre++l).flatMap cf).take (pre.length*z)=pre.flatMap cf:=by
 rw[List.flatMap_append,<- h.cat_len pre,List.take_left]
theorem Cells.cat_at (h:Cells cf z)(pre:List E)(x:E)(l:List E):(((pre++x::l).flatMap cf).drop (pre.length*z)).take z=cf x:=by
 rw[h.cat_drop,List.flatMap_cons,<- h.len x,List.take_left]
theorem Cells.cat_get (h:Cells cf z)(pre:List E)(x:E)(l:List E){j:Nat}(hj:j<z):((pre++x::l).flatMap cf)[pre.length*z+j]?=(cf x)[j]?:=by
 rw[<- List.getElem?_drop,h.cat_drop,List.flatMap_cons,List.getElem?_append_left (by rw[h.len];exact hj)]
theorem Cells.cat_store (h:Cells cf z)(out:List E)(y x:E)(l:List E):((out++y::l).flatMap cf).take (out.length*z)++cf x++((out++y::l).flatMap cf).drop (out.length*z+z)=(out++x::l).flatMap cf:=by
 rw[h.cat_take,<- List.drop_drop,h.cat_drop,List.flatMap_cons,<- h.len y,List.drop_left,List.flatMap_append,List.flatMap_cons,List.append_assoc]
theorem Cells.at (h:Cells cf z){H:Heap}{v:V}(pre:List E)(x:E)(l:List E)(hr:Rd H z v (pre++x::l).length ((pre++x::l).flatMap cf)) :
  ∃ id o,zAS z [v,.int .i64 (pre.length:Int)]=some (.ptr id o)/\∀ H',Rd H' z v (pre++x::l).length ((pre++x::l).flatMap cf)->zAp z [.ptr id o] H'=some (.agg (cf x))/\∀ j y,(cf x)[j]?=some y->zH [.ptr id (o+j)] H'=some y:=by
 obtain⟨id,o,k1,k2⟩:=hr.at h.pos (i:=pre.length) (by simp)
 refine⟨id,o,k1,fun H' h'=>?_⟩
 obtain⟨q1,q2⟩:=k2 H' _ h'
 rw[h.cat_at]at q1
 refine⟨q1,fun j y hj=>?_⟩
 have hjz:j<z:=by
  have:=(List.getElem?_eq_some_iff.1 hj).1
  rw[h.len]at this;exact this
 exact q2 j _ hjz (by rw[h.cat_get _ _ _ hjz];exact hj)
abbrev GenE (P:Nat->Prop)(H:Heap)(cf:E->List V)(z:Nat)(v:V)(l:List E):Prop:=GenL P H z v l.length (l.flatMap cf)
theorem GenE.put (h:Cells cf z){P:Nat->Prop}{H:Heap}{bytes:Nat}{v:V}{l:List E}(hg:GenE P H cf z v l)(hw:WF H)(hP:zR0 P H)(x:E)(h1:(l.length+1)*bytes<=140737488355328)(h2:l.length+1<=140737488355328)(Z:Tape)(pl:Bool) :
  ∃ v' H' Z',zx z bytes [v,.sl H.size 0 1 1 none z] (H.new (cf x) z pl) Z=some (v',H',Z')/\GenE P H' cf z v' (l++[x])/\Chg P H H'/\Chg P (H.new (cf x) z pl) H':=by
 obtain⟨v',H',Z',r1,r2,r3,r4⟩:=GenL.put (bytes:=bytes) hg hw hP (cf x) h.pos (h.len x) (h.scal x) h1 h2 Z pl
 refine⟨v',H',Z',r1,?_,r3,r4⟩
 unfold GenE
 rw[List.flatMap_append,List.flatMap_cons,List.flatMap_nil,List.append_nil,List.length_append]
 exact r2
theorem GenE.set (h:Cells cf z){P:Nat->Prop}{H:Heap}{v:V}{out l:List E}{y:E}(hg:GenE P H cf z v (out++y::l))(hw:WF H)(x:E)(Z:Tape) :
  ∃ p H',zAS z [v,.int .i64 (out.length:Int)]=some p/\(∀ n,n=z->Am.eStore n [p,.agg (cf x)] H Z=some (.tup [],H',Z))/\GenE P H' cf z v (out++x::l)/\Chg P H H':=by
 obtain⟨p,H',r1,r2,r3,r4⟩:=GenL.put_at hg hw (i:=out.length) (by simp) h.pos (cf x) (h.len x) (h.scal x) Z
 refine⟨p,H',r1,r2,?_,r4⟩
 unfold GenE
 rw[h.cat_store]at r3
 rw[show(out++x::l).length=(out++y::l).length by simp]
 exact r3
theorem GenE.clear (h:Cells cf z){P:Nat->Prop}{H:Heap}{v:V}{out l:List E}(hg:GenE P H cf z v (out++l))(hw:WF H)(hv:v≠.nils)(zero:List V)(hzl:zero.length=z)(hzs:zero.all V.scal=true)(Z:Tape) :
  ∃ w H' v',zt z true false false [v,.int .i64 (out.length:Int)]=some w/\zKv z zero [w] H Z=some (.tup [],H',Z)/\zt z false true false [v,.int .i64 (out.length:Int)]=some v'/\v'≠.nils/\GenE P H' cf z v' out/\Chg P H H':=by
 obtain⟨w,H',v',r1,r2,r3,r4,r5,r6⟩:=GenL.clear hg hw hv (k:=out.length) (by simp) zero hzl hzs Z
 rw[h.cat_take]at r5
 exact⟨w,H',v',r1,r2,r3,r4,r5,r6⟩
theorem GenL.ne_nils {P:Nat->Prop}{H:Heap}{v:V}{m:Nat}{cs:List V}(h:GenL P H z v m cs)(hm:0<m):v≠.nils:=by
 rcases h with⟨_,h0,_⟩ | ⟨id,lo,ex,all,rfl,_⟩
 ·omega
 ·exact fun e=>by cases e
def zRo (f:E->Bool):List E->Nat->Int
 | [],_=>-1
 | h::l,i=>bif f h then(i:Int)else zRo f l (i+1)
theorem findP_spec (f:E->Bool):∀ (l:List E) (i:Nat),(zRo f l i=-1/\∀ h ∈ l,f h=false)∨∃ a h r,l=a++h::r/\(∀ x ∈ a,f x=false)/\f h=true/\zRo f l i=((i+a.length:Nat):Int):=by
 intro l
 induction l with
 | nil=>intro i;exact .inl ⟨rfl,fun h hh=>by simp at hh⟩
 | cons h l ih =>
  intro i
  by_cases hn:f h=true
  ·refine .inr ⟨[],h,l,rfl,fun x hx=>by simp at hx,hn,?_⟩
   rw[zRo,hn];rfl
  ·have hn':f h=false:=by simpa using hn
   rcases ih (i+1)with⟨h1,h2⟩ | ⟨a,x,r,h1,h2,h3,h4⟩
   ·refine .inl ⟨by rw[zRo,hn'];exact h1,fun x hx=>?_⟩
    rcases List.mem_cons.1 hx with rfl | hx
    ·exact hn'
    ·exact h2 x hx
   ·refine .inr ⟨h::a,x,r,by rw[h1];rfl,fun y hy=>?_,h3,?_⟩
    ·rcases List.mem_cons.1 hy with rfl | hy
     ·exact hn'
     ·exact h2 y hy
    ·rw[zRo,hn',cond_false,h4];simp;omega
end
end Go.Am

namespace Go.Am
theorem GenE.delete0 {E:Type}{cf:E->List V}{z:Nat}(h:Cells cf z){P:Nat->Prop}{H:Heap}{v:V}{x:E}{l:List E}(hg:GenE P H cf z v (x::l))(hw:WF H)(hl:0<l.length)(bytes:Nat)(zero:List V)(hzl:zero.length=z)(hzs:zero.all V.scal=true)(Z:Tape) :
  ∃ a w1 w2 v' H1 w3 H2,zt z true true true [v,.int .i64 ((0:Nat):Int),.int .i64 ((1:Nat):Int),.int .i64 ((l.length+1:Nat):Int)]=some a/\zt z false true false [v,.int .i64 ((0:Nat):Int)]=some w1/\zt z true false false [v,.int .i64 ((1:Nat):Int)]=some w2 /\
   zx z bytes [w1,w2] H Z=some (v',H1,Z)/\pLen [v']=some (.int .i64 ((l.length:Nat):Int))/\zt z true true false [v',.int .i64 ((l.length:Nat):Int),.int .i64 ((l.length+1:Nat):Int)]=some w3/\zKv z zero [w3] H1 Z=some (.tup [],H2,Z)/\GenE P H2 cf z v' l/\Chg P H H2:=by
 have hz:=h.pos
 rcases hg with⟨_,h0,_⟩ | ⟨id,lo,ex,all,rfl,k1,k2,k3,k4,k5⟩
 ·simp at h0
 ·rw[List.length_cons]at k2 k4 k5 ⊢
  have hx:=h.len x
  have hL:=h.cat_len l
  have hb0:zCL false true false [V.int .i64 ((0:Nat):Int)]=some (none,some 0,none):=by simp only[zCL,optN,zBX]
  have hb3:zCL true true true [V.int .i64 ((0:Nat):Int),V.int .i64 ((1:Nat):Int),V.int .i64 ((l.length+1:Nat):Int)]=some (some 0,some 1,some (l.length+1)):=by simp only[zCL,optN,zBX]
  have hb2:zCL true true false [V.int .i64 ((l.length:Nat):Int),V.int .i64 ((l.length+1:Nat):Int)]=some (some l.length,some (l.length+1),none):=by simp only[zCL,optN,zBX]
  have w_le:∀ m,m<=lo->within m lo ex=true:=fun m hm=>by rw[within_iff];exact .inl hm
  have ble:∀ a b,a<=b->Nat.ble a b=true:=fun a b hh=>Nat.ble_eq_true_of_le hh
  obtain⟨off',lo',ex',m1,m2,m3⟩:=from_mk (id:=id) (off:=0) (n:=l.length+1) (lo:=lo) (z:=z) (ex:=ex) (w_le _ k2) (l:=1) (by omega)
  have ho:=m2 (by omega)
  rw[Nat.zero_add,Nat.one_mul]at ho
  rw[ho]at m1
  have hlz:(l.length+1)*z=l.length*z+z:=Nat.succ_mul _ _
  have hloz:(l.length+1)*z<=lo*z:=Nat.mul_le_mul_right _ k2
  have hcat:all.take ((l.length+1)*z)=cf x++l.flatMap cf:=by rw[k5,List.flatMap_cons]
  have hld:H.loads id z (l.length*z)=some (l.flatMap cf):=by
   simp only[Heap.loads,k1.cells]
   rw[zGz _ _ (by rw[List.length_drop];omega)]
   congr 1
   have:(all.drop z).take (l.length*z)=(all.take ((l.length+1)*z)).drop z:=by
    rw[List.drop_take];congr 1;omega
   rw[this,hcat];conv=>lhs;rw[<- hx]
   rw[List.drop_left]
  obtain⟨H1,r1,r2,r3,r4⟩:=k1.stores hw 0 (l.flatMap cf) (by omega) (h.cat_scal l)
  have hall1:(all.take 0++l.flatMap cf++all.drop (0+(l.flatMap cf).length)).length=lo*z:=by simp only[List.length_append,List.length_take,List.length_drop];omega
  obtain⟨H2,s1,s2,s3,s4⟩:=r2.stores r3.wf (l.length*z) zero (by rw[hall1];omega) hzs
  have hmin:Nat.beq l.length 0=false:=by cases hh:Nat.beq l.length 0 with | false=>rfl | true=>have:=Nat.eq_of_beq_eq_true hh;omega
  have hoff2:zOm 0 l.length lo ex z=l.length*z:=by
   unfold zOm
   rw[hmin,show Nat.blt l.length lo=true from by simp[Nat.blt];omega]
   simp
  have ho0:∀ n,zOm 0 0 n ex z=0:=fun _=>rfl
  have e0:zt z true true true [.sl id 0 (l.length+1) lo ex z,.int .i64 ((0:Nat):Int),.int .i64 ((1:Nat):Int),.int .i64 ((l.length+1:Nat):Int)]=some (.sl id (zRu 0 0 (l.length+1) z) (1-0) (l.length+1-0) none z):=by
   simp only[zt,Nat.beq_refl,cond_true,hb3,zNc,Option.getD_some,w_le _ k2,ble 1 (l.length+1) (by omega),ble 0 1 (by omega),Bool.and_self]
  have e1:zt z false true false [.sl id 0 (l.length+1) lo ex z,.int .i64 ((0:Nat):Int)]=some (.sl id 0 0 lo ex z):=by
   simp only[zt,Nat.beq_refl,cond_true,hb0,zNc,Option.getD_some,Option.getD_none,w_le 0 (by omega),ble 0 0 nl,ble 0 lo (Nat.zero_le _),Bool.and_self,ho0,Nat.sub_zero]
  have e3:zt z true true false [.sl id 0 l.length lo ex z,.int .i64 ((l.length:Nat):Int),.int .i64 ((l.length+1:Nat):Int)]=some (.sl id (l.length*z) 1 (lo-l.length) ex z):=by
   simp only[zt,Nat.beq_refl,cond_true,hb2,zNc,Option.getD_some,w_le _ k2,ble l.length (l.length+1) (by omega),ble l.length lo (by omega),Bool.and_self,hoff2,show l.length+1-l.length=1 by omega]
  refine⟨_,_,_,.sl id 0 l.length lo ex z,H1,_,H2,e0,e1,m1,?_,rfl,e3,?_,?_,r3.trans s3 fun _ _ hh=>hh⟩
  ·have:l.length+1-1=l.length:=by omega
   rw[this]
   simp only[zx,zGA,zCj,Nat.beq_refl,cond_true,hld,Am.append,Nat.zero_add,ble l.length lo (by omega),Nat.zero_mul,r1]
  ·have:repl 1 zero=zero:=by simp[repl]
   simp only[zKv,Nat.beq_refl,hzl,Bool.and_self,cond_true,this,s1]
  ·refine .inr ⟨id,lo,ex,_,rfl,s2,by omega,?_,hL,?_⟩
   ·simp only[List.length_append,List.length_take,List.length_drop];omega
   ·have h0:all.take 0++l.flatMap cf++all.drop (0+(l.flatMap cf).length)=l.flatMap cf++all.drop (0+(l.flatMap cf).length):=by simp
    rw[h0,List.append_assoc,List.take_append,List.length_take,List.length_append,List.length_drop,Nat.min_eq_left (by omega),Nat.sub_self,List.take_zero,List.append_nil,List.take_take,Nat.min_self,<- hL,List.take_left]
end Go.Am

namespace Go.Am
def DatP (D:Nat->Prop)(H:Heap)(z:Nat)(v:V)(n:Nat)(cs:List V):Prop :=
 (v=.nils/\n=0/\cs=[])∨∃ id off lo ex all room fam ver wr pl st fr la,v=.sl id off n lo ex z/\H.blk.get id=some (.mem all room fam ver wr pl st)/\H.fams.get fam=some (fr,la)/\fr<=ver/\D id/\D fam/\(all.drop off).take (n*z)=cs/\cs.length=n*z
theorem DatP.nil (D:Nat->Prop)(H:Heap)(z:Nat):DatP D H z .nils 0 []:=.inl ⟨rfl,rfl,rfl⟩
theorem cells_mem {H:Heap}{id:Nat}{all:List V}{room fam ver:Nat}{wr pl:Bool}{st fr la:Nat}(h1:H.blk.get id=some (.mem all room fam ver wr pl st))(h2:H.fams.get fam=some (fr,la))(h3:fr<=ver):H.cells? id=some all:=by
 simp only[Heap.cells?,h1,h2]
 rw[show Nat.ble fr ver=true from Nat.ble_eq_true_of_le h3]
 rfl
theorem DatP.rd {D:Nat->Prop}{H:Heap}{z:Nat}{v:V}{n:Nat}{cs:List V}(h:DatP D H z v n cs):Rd H z v n cs:=by
 rcases h with⟨rfl,h⟩ | ⟨id,off,lo,ex,all,room,fam,ver,wr,pl,st,fr,la,rfl,h1,h2,h3,_,_,h6,h7⟩
 ·exact .inl ⟨.inl rfl,h⟩
 ·exact .inr ⟨id,off,lo,ex,all,rfl,cells_mem h1 h2 h3,h6.symm,h7⟩
theorem DatP.src {D:Nat->Prop}{H:Heap}{z:Nat}{v:V}{n:Nat}{cs:List V}(h:DatP D H z v n cs):Src H v:=by
 rcases h with⟨rfl,h⟩ | ⟨id,off,lo,ex,all,room,fam,ver,wr,pl,st,fr,la,rfl,h1,h2,h3,_⟩
 ·trivial
 ·exact⟨all,cells_mem h1 h2 h3⟩
theorem DatP.scal {D:Nat->Prop}{H:Heap}{z:Nat}{v:V}{n:Nat}{cs:List V}(h:DatP D H z v n cs):v.cells=[v]/\v.scal=true:=by
 rcases h with⟨rfl,h⟩ | ⟨_,_,_,_,_,_,_,_,_,_,_,_,_,rfl,_⟩ <;> exact⟨rfl,rfl⟩
theorem DatP.chg {D Q:Nat->Prop}{H H':Heap}{z:Nat}{v:V}{n:Nat}{cs:List V}(h:DatP D H z v n cs)(hw:WF H)(hg:Chg Q H H')(hDQ:∀ i,i<H.size->D i->¬ Q i):DatP D H' z v n cs:=by
 rcases h with h | ⟨id,off,lo,ex,all,room,fam,ver,wr,pl,st,fr,la,e,h1,h2,h3,h4,h5,h6⟩
 ·exact .inl h
 ·have a:=hw.blk _ _ h1
  have b:=hw.fams _ _ h2
  exact .inr ⟨id,off,lo,ex,all,room,fam,ver,wr,pl,st,fr,la,e,by rw[hg.blk id a (hDQ _ a h4)];exact h1,by rw[hg.fams fam b (hDQ _ b h5)];exact h2,h3,h4,h5,h6⟩
theorem DatP.gr {D:Nat->Prop}{H H':Heap}{z:Nat}{v:V}{n:Nat}{cs:List V}(h:DatP D H z v n cs)(hw:WF H)(hg:Gr H.size H H'):DatP D H' z v n cs:=h.chg hw (hg.chg (P:=fun _=>False)) fun _ _ _=>not_false
theorem DatP.weaken {D Q:Nat->Prop}{H:Heap}{z:Nat}{v:V}{n:Nat}{cs:List V}(h:DatP D H z v n cs)(hw:WF H)(hDQ:∀ i,i<H.size->D i->Q i):DatP Q H z v n cs:=by
 rcases h with h | ⟨id,off,lo,ex,all,room,fam,ver,wr,pl,st,fr,la,e,h1,h2,h3,h4,h5,h6⟩
 ·exact .inl h
 ·exact .inr ⟨id,off,lo,ex,all,room,fam,ver,wr,pl,st,fr,la,e,h1,h2,h3,hDQ _ (hw.blk _ _ h1) h4,hDQ _ (hw.fams _ _ h2) h5,h6⟩
theorem DatP.own {H:Heap}{B z:Nat}{v:V}{n:Nat}{cs:List V}(h:Own H B z v n cs):DatP (fun i=>B<=i) H z v n cs:=by
 rcases h with⟨rfl,h⟩ | ⟨id,e,room,fam,ver,pl,st,fr,rfl,h2,h3,h4,h5,h6,h7⟩
 ·exact .inl ⟨rfl,h⟩
 ·exact .inr ⟨id,0,n,some e,cs,room,fam,ver,true,pl,st,fr,ver,rfl,h2,h3,h4,h5,h6,by rw[List.drop_zero,<- h7,List.take_length],h7⟩
theorem DatP.bod {P:Nat->Prop}{H:Heap}{v:V}{n:Nat}{cs:List V}(h:BodP P H v n cs):DatP P H 1 v n cs:=by
 rcases h with⟨rfl,h⟩ | ⟨id,lo,ex,room,fam,ver,pl,st,fr,rfl,h1,h2,h3,h4,h5,h6,_⟩
 ·exact .inl ⟨rfl,h⟩
 ·exact .inr ⟨id,0,lo,ex,cs,room,fam,ver,true,pl,st,fr,ver,rfl,h1,h2,h3,h4,h5,by rw[List.drop_zero,Nat.mul_one,<- h6,List.take_length],by omega⟩
def BxT (H:Heap)(id:Nat)(cs:List V):Prop :=
 ∃ room ver st fr,H.blk.get id=some (.mem cs room id ver true true st)/\H.fams.get id=some (fr,ver)/\fr<=ver/\cs.length<=room
theorem BxT.bx {H:Heap}{id:Nat}{cs:List V}(h:BxT H id cs):Bx H id cs:=by
 obtain⟨room,ver,st,fr,h1,h2,h3,h4⟩:=h
 exact⟨room,ver,true,st,fr,h1,h2,h3,h4⟩
theorem BxT.new (H:Heap)(cells:List V)(room:Nat)(hr:cells.length<=room):BxT (H.new cells room true) H.size cells :=
 ⟨room,0,0,0,T.get_set_same _ _ _,T.get_set_same _ _ _,Nat.le_refl _,hr⟩
theorem BxT.chg {H H':Heap}{P:Nat->Prop}{id:Nat}{cs:List V}(h:BxT H id cs)(hw:WF H)(hg:Chg P H H')(hp:¬ P id):BxT H' id cs:=by
 have hlt:=h.bx.lt hw
 obtain⟨room,ver,st,fr,h1,h2,h3,h4⟩:=h
 exact⟨room,ver,st,fr,by rw[hg.blk id hlt hp];exact h1,by rw[hg.fams id hlt hp];exact h2,h3,h4⟩
theorem BxT.only {H H':Heap}{i id:Nat}{cs:List V}(h:BxT H id cs)(hg:Only i H H')(hC:id≠i):BxT H' id cs:=by
 obtain⟨room,ver,st,fr,h1,h2,h3,h4⟩:=h
 exact⟨room,ver,st,fr,by rw[hg.blk id hC];exact h1,by rw[hg.fams id hC];exact h2,h3,h4⟩
theorem famOf_bx {H:Heap}{i:Nat}{cs:List V}(h:BxT H i cs):famOf H i=some i:=by
 obtain⟨room,ver,st,fr,h1,h2,h3,h4⟩:=h
 simp only[famOf,h1,h2]
 rw[show Nat.ble fr ver=true from Nat.ble_eq_true_of_le h3]
 rfl
theorem ptr_eq {H:Heap}{i j:Nat}{cs ds:List V}(h:BxT H i cs)(k:BxT H j ds):lPeq false [.ptr i 0,.ptr j 0] H=some (.bool (decide (i=j))):=by
 by_cases e:i=j
 ·subst e
  simp only[lPeq,Nat.beq_refl,cond_true,decide_true]
  rfl
 ·have hb:Nat.beq i j=false:=by
   cases hh:Nat.beq i j with
   | false=>rfl
   | true=>exact absurd (Nat.eq_of_beq_eq_true hh) e
  simp only[lPeq,hb,cond_false,famOf_bx h,famOf_bx k,decide_eq_false e]
  rfl
theorem BxT.eStore {H:Heap}{id:Nat}{cs:List V}(h:BxT H id cs)(hw:WF H)(off:Nat)(x:V)(n:Nat)(hn:x.cells.length=n)(hl:off+n<=cs.length)(hn0:0<n)(hs:x.cells.all V.scal=true)(Z:Tape) :
  ∃ H',Am.eStore n [.ptr id off,x] H Z=some (.tup [],H',Z)/\BxT H' id (cs.take off++x.cells++cs.drop (off+n))/\Only id H H':=by
 obtain⟨room,ver,st,fr,h1,h2,h3,h4⟩:=h
 have hroom:H.room? id=room:=by simp only[Heap.room?,h1]
 have hov:=zNs off room x.cells cs (by omega)
 obtain⟨y,ys,hy⟩:∃ y ys,x.cells=y::ys:=by
  cases hx:x.cells with
  | nil=>rw[hx]at hn;simp at hn;omega
  | cons y ys=>exact⟨y,ys,rfl⟩
 refine⟨{ size:=H.size,blk:=H.blk.s id (.mem (cs.take off++x.cells++cs.drop (off+n)) room id ver true true (st+1)),fams:=H.fams.s id (ver,ver) },?_,?_,?_⟩
 ·have:H.stores id off x.cells=some { size:=H.size,blk:=H.blk.s id (.mem (cs.take off++x.cells++cs.drop (off+n)) room id ver true true (st+1)),fams:=H.fams.s id (ver,ver) }:=by
   rw[hy]at hs hov ⊢
   simp only[Heap.stores,hs,cond_true,Heap.write,h1,h2,hroom,hov]
   rw[show Nat.beq ver ver=true from Nat.beq_refl ver,show Nat.ble fr ver=true from Nat.ble_eq_true_of_le h3]
   rw[<- hy,hn]
   rfl
  simp only[Am.eStore,hn,this]
  rw[show Nat.beq n n=true from Nat.beq_refl n]
  rfl
 ·refine⟨room,ver,st+1,ver,T.get_set_same _ _ _,T.get_set_same _ _ _,Nat.le_refl _,?_⟩
  have:(cs.take off++x.cells++cs.drop (off+n)).length=cs.length:=by
   simp only[List.length_append,List.length_take,List.length_drop]
   omega
  omega
 ·have hid:=hw.blk _ _ h1
  refine⟨⟨?_,?_,?_⟩,rfl,fun i hi=>?_,fun f hf=>?_⟩
  ·intro i b hb
   simp only[T.get_set]at hb ⊢
   split at hb
   ·omega
   ·exact hw.blk _ _ hb
  ·intro f x hf
   simp only[T.get_set]at hf ⊢
   split at hf
   ·omega
   ·exact hw.fams _ _ hf
  ·intro i c r f v' w p s hb
   simp only[T.get_set]at hb ⊢
   split at hb
   ·cases hb;exact hid
   ·exact hw.fam _ _ _ _ _ _ _ _ hb
  ·simp only[T.get_set];rw[if_neg (Ne.symm hi)]
  ·simp only[T.get_set];rw[if_neg (Ne.symm hf)]
theorem GenL.apd {H:Heap}{B z:Nat}{v:V}{n:Nat}{cs:List V}(h:Apd H B z v n cs):GenL (fun i=>B<=i) H z v n cs:=by
 rcases h with h | ⟨rfl,rfl,id,rfl,h⟩
 ·rcases h with⟨rfl,h⟩ | ⟨id,e,room,fam,ver,pl,st,fr,rfl,h2,h3,h4,h5,h6,h7⟩
  ·exact .inl ⟨rfl,h⟩
  ·exact .inr ⟨id,n,some e,cs,rfl,⟨room,fam,ver,pl,st,fr,h2,h3,h4,h5,h6⟩,Nat.le_refl _,h7,h7,by rw[<- h7,List.take_length]⟩
 ·obtain⟨room,fam,ver,pl,st,fr,h2,h3,h4,h5,h6,h7⟩:=h
  exact .inr ⟨id,0,none,[],rfl,⟨room,fam,ver,pl,st,fr,h2,h3,h4,h5,h6⟩,Nat.le_refl _,by simp,by simp,by simp⟩
theorem DatP.gen {P:Nat->Prop}{H:Heap}{z:Nat}{v:V}{n:Nat}{cs:List V}(h:GenL P H z v n cs):DatP P H z v n cs:=by
 rcases h with⟨rfl,h⟩ | ⟨id,lo,ex,all,rfl,⟨room,fam,ver,pl,st,fr,h1,h2,h3,h4,h5⟩,k2,k3,k4,k5⟩
 ·exact .inl ⟨rfl,h⟩
 ·exact .inr ⟨id,0,lo,ex,all,room,fam,ver,true,pl,st,fr,ver,rfl,h1,h2,h3,h4,h5,by rw[List.drop_zero];exact k5,k4⟩
end Go.Am

namespace Go.Am
end Go.Am

