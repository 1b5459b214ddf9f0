/- The abstract machine, printed functions of the program, and what they are shown to be. -/
import Derived.Test.YtejpgcemblankaaGreatDoorCFRL4
import Derived.Test.YtejpgcemblankaaGreatDoorCFRM4
set_option linter.unusedSimpArgs false
set_option linter.unusedVariables false
set_option linter.unusedSectionVars false
set_option maxRecDepth 100000
namespace Go.Am.X
abbrev ltB (x y:Bs):Prop:=zNe x y=true
theorem zLi (a b:UInt8)(x y:Bs):zNe (a::x) (b::y)=(decide (a.toNat<b.toNat) || (decide (a.toNat=b.toNat) && zNe x y)):=by
 rw[zNe]
 have h1:Nat.blt a.toNat b.toNat=decide (a.toNat<b.toNat):=by
  by_cases h:a.toNat<b.toNat
  ·rw[decide_eq_true h];simp[Nat.blt];omega
  ·rw[decide_eq_false h];cases hb:Nat.blt a.toNat b.toNat with
   | false=>rfl
   | true=>exact absurd (Nat.le_of_ble_eq_true hb) h
 have h2:Nat.beq a.toNat b.toNat=decide (a.toNat=b.toNat):=by
  by_cases h:a.toNat=b.toNat
  ·rw[decide_eq_true h,h];exact Nat.beq_refl _
  ·rw[decide_eq_false h];cases hb:Nat.beq a.toNat b.toNat with
   | false=>rfl
   | true=>exact absurd (Nat.eq_of_beq_eq_true hb) h
 rw[h1,h2]
theorem zSU:∀ (x:Bs),zNe x x=false:=by
 intro x
 induction x with
 | nil=>rfl
 | cons a x ih=>rw[zLi,ih];simp
theorem zSK {x:Bs}(h:ltB x x):False:=by rw[ltB,zSU]at h;cases h
theorem zKJ:∀ (x y z:Bs),ltB x y->ltB y z->ltB x z:=by
 intro x
 induction x with
 | nil =>
  intro y z h1 h2
  cases y with
  | nil=>exact h2
  | cons b y=>cases z with
   | nil=>cases h2
   | cons c z=>rfl
 | cons a x ih =>
  intro y z h1 h2
  cases y with
  | nil=>cases h1
  | cons b y=>cases z with
   | nil=>cases h2
   | cons c z =>
    unfold ltB at *
    rw[zLi,Bool.or_eq_true,Bool.and_eq_true,decide_eq_true_iff,decide_eq_true_iff]at h1 h2 ⊢
    rcases h1 with h1 | ⟨h1,h1'⟩ <;> rcases h2 with h2 | ⟨h2,h2'⟩
    ·exact .inl (by omega)
    ·exact .inl (by omega)
    ·exact .inl (by omega)
    ·exact .inr ⟨by omega,ih y z h1' h2'⟩
theorem zQa:∀ (x y:Bs),ltB x y∨x=y∨ltB y x:=by
 intro x
 induction x with
 | nil=>intro y;cases y with
  | nil=>exact .inr (.inl rfl)
  | cons b y=>exact .inl rfl
 | cons a x ih =>
  intro y
  cases y with
  | nil=>exact .inr (.inr rfl)
  | cons b y =>
   unfold ltB
   rw[zLi,zLi,Bool.or_eq_true,Bool.and_eq_true,decide_eq_true_iff,decide_eq_true_iff,Bool.or_eq_true,Bool.and_eq_true,decide_eq_true_iff,decide_eq_true_iff]
   rcases Nat.lt_trichotomy a.toNat b.toNat with h | h | h
   ·exact .inl (.inl h)
   ·rcases ih y with k | k | k
    ·exact .inl (.inr ⟨h,k⟩)
    ·exact .inr (.inl (by rw[UInt8.toNat_inj.1 h,k]))
    ·exact .inr (.inr (.inr ⟨h.symm,k⟩))
   ·exact .inr (.inr (.inl h))
theorem lt_iff (x y:Bs):x<y ↔ ltB x y:=by
 induction x generalizing y with
 | nil=>cases y with
  | nil=>exact⟨fun h=>(by cases h),fun h=>(by cases h)⟩
  | cons b y=>exact⟨fun _=>rfl,fun _=>List.Lex.nil⟩
 | cons a x ih =>
  cases y with
  | nil=>exact⟨fun h=>(by cases h),fun h=>(by cases h)⟩
  | cons b y =>
   unfold ltB
   rw[zLi,Bool.or_eq_true,Bool.and_eq_true,decide_eq_true_iff,decide_eq_true_iff,List.cons_lt_cons_iff,ih y,UInt8.lt_iff_toNat_lt,UInt8.toNat_inj]
abbrev SrtB (l:List Bs):Prop:=l.Pairwise ltB
theorem srt_uniq:∀ (a b:List Bs),SrtB a->SrtB b->(∀ x,x ∈ a ↔ x ∈ b)->a=b:=by
 intro a
 induction a with
 | nil=>intro b _ _ h;cases b with
  | nil=>rfl
  | cons y b=>exact absurd ((h y).2 (by simp)) (by simp)
 | cons x a ih =>
  intro b ha hb h
  cases b with
  | nil=>exact absurd ((h x).1 (by simp)) (by simp)
  | cons y b =>
   rw[SrtB,List.pairwise_cons]at ha hb
   have hxy:x=y:=by
    rcases List.mem_cons.1 ((h x).1 (by simp))with e | e
    ·exact e
    ·rcases List.mem_cons.1 ((h y).2 (by simp))with e' | e'
     ·exact e'.symm
     ·have h1:=hb.1 x e
      have h2:=ha.1 y e'
      exact(zSK (zKJ _ _ _ h1 h2)).elim
   subst hxy
   congr 1
   refine ih b ha.2 hb.2 fun z=>⟨fun hz=>?_,fun hz=>?_⟩
   ·rcases List.mem_cons.1 ((h z).1 (by simp[hz]))with e | e
    ·subst e;exact(zSK (ha.1 z hz)).elim
    ·exact e
   ·rcases List.mem_cons.1 ((h z).2 (by simp[hz]))with e | e
    ·subst e;exact(zSK (hb.1 z hz)).elim
    ·exact e
def insB (x:Bs):List Bs->List Bs
 | []=>[x]
 | y::l=>bif zNe y x then y::insB x l else bif y == x then y::l else x::y::l
theorem insB_mem (x:Bs):∀ (l:List Bs) (z:Bs),z ∈ insB x l ↔ z=x∨z ∈ l:=by
 intro l
 induction l with
 | nil=>intro z;simp[insB]
 | cons y l ih =>
  intro z
  rw[insB]
  cases zNe y x with
  | true=>rw[cond_true,List.mem_cons,ih z,List.mem_cons];constructor <;>(intro h;rcases h with h | h | h <;> simp[h])
  | false =>
   rw[cond_false]
   cases h:(y == x)with
   | true=>rw[cond_true,<- beq_iff_eq.1 h];simp
   | false=>rw[cond_false];simp
theorem insB_srt (x:Bs):∀ (l:List Bs),SrtB l->SrtB (insB x l):=by
 intro l
 induction l with
 | nil=>intro _;simp[insB]
 | cons y l ih =>
  intro h
  rw[SrtB,List.pairwise_cons]at h
  rw[insB]
  cases h1:zNe y x with
  | true =>
   rw[cond_true,SrtB,List.pairwise_cons]
   refine⟨fun z hz=>?_,ih h.2⟩
   rcases(insB_mem x l z).1 hz with e | e
   ·rw[e];exact h1
   ·exact h.1 z e
  | false =>
   rw[cond_false]
   cases h2:(y == x)with
   | true=>rw[cond_true,SrtB,List.pairwise_cons];exact h
   | false =>
    rw[cond_false,SrtB,List.pairwise_cons]
    have hxy:ltB x y:=by
     rcases zQa x y with k | k | k
     ·exact k
     ·exact absurd k.symm (beq_eq_false_iff_ne.1 h2)
     ·have k':zNe y x=true:=k
      rw[h1]at k';cases k'
    refine⟨fun z hz=>?_,by rw[List.pairwise_cons];exact h⟩
    rcases List.mem_cons.1 hz with e | e
    ·rw[e];exact hxy
    ·exact zKJ _ _ _ hxy (h.1 z e)
theorem insB_len (x:Bs):∀ (l:List Bs),(insB x l).length<=l.length+1:=by
 intro l
 induction l with
 | nil=>simp[insB]
 | cons y l ih =>
  rw[insB]
  cases zNe y x with
  | true=>rw[cond_true];simp;omega
  | false=>rw[cond_false];cases (y == x) <;> simp
def srtT (ss:List Bs):List Bs:=ss.foldl (fun acc x=>insB x acc) []
theorem srtT_ok (ss:List Bs):SrtB (srtT ss)/\(∀ z,z ∈ srtT ss ↔ z ∈ ss)/\(srtT ss).length<=ss.length:=by
 have key:∀ (ss acc:List Bs),SrtB acc->SrtB (ss.foldl (fun acc x=>insB x acc) acc)/\(∀ z,z ∈ ss.foldl (fun acc x=>insB x acc) acc ↔ z ∈ acc∨z ∈ ss)/\(ss.foldl (fun acc x=>insB x acc) acc).length<=acc.length+ss.length:=by
  intro ss
  induction ss with
  | nil=>intro acc h;exact⟨h,fun z=>by simp,by simp⟩
  | cons x ss ih =>
   intro acc h
   obtain⟨a,b,c⟩:=ih (insB x acc) (insB_srt x acc h)
   have:=insB_len x acc
   refine⟨a,fun z=>?_,by simp only[List.foldl_cons,List.length_cons];omega⟩
   rw[List.foldl_cons,b z,insB_mem,List.mem_cons]
   constructor
   ·rintro((h | h) | h) <;> simp[h]
   ·rintro(h | h | h) <;> simp[h]
 obtain⟨a,b,c⟩:=key ss [] (by simp)
 exact⟨a,fun z=>(b z).trans (by simp),by unfold srtT;simpa using c⟩
theorem compL_ok (zs:List Bs)(h:zs.Pairwise fun a b=>¬ ltB b a):SrtB (zIp zs)/\∀ z,z ∈ zIp zs ↔ z ∈ zs:=by
 have hget:∀ j,j<zs.length->zs.toArray[j]! = zs[j]!:=fun j hj=>by simp
 have hle:∀ i j,i<j->j<zs.length->¬ ltB (zs.toArray[j]!) (zs.toArray[i]!):=by
  intro i j hij hj
  have:=List.pairwise_iff_getElem.1 h i j (by omega) hj hij
  simpa [getElem!_pos,hj,(show i<zs.length by omega)] using this
 have key:∀ m,m<=zs.length->SrtB (Lib.compactUpTo zs.toArray m)/\∀ z,z ∈ Lib.compactUpTo zs.toArray m ↔ ∃ j,j<m/\zs.toArray[j]! = z:=by
  intro m
  induction m with
  | zero=>intro _;exact⟨by simp[Lib.compactUpTo],fun z=>by simp[Lib.compactUpTo]⟩
  | succ m ih =>
   intro hm
   obtain⟨a,b⟩:=ih (by omega)
   rw[Lib.compactUpTo_succ]
   cases hk:Lib.keeps zs.toArray m with
   | true =>
    rw[if_pos rfl]
    refine⟨?_,fun z=>?_⟩
    ·rw[SrtB,List.pairwise_append]
     refine⟨a,by simp,fun x hx y hy=>?_⟩
     obtain⟨j,hj,rfl⟩:=(b x).1 hx
     rw[List.mem_singleton]at hy
     subst hy
     have hne:zs.toArray[m]!≠zs.toArray[m-1]!:=by
      have:=of_decide_eq_true hk
      rcases this with h0 | h0
      ·omega
      ·exact h0
     have h1:ltB (zs.toArray[m-1]!) (zs.toArray[m]!):=by
      rcases zQa (zs.toArray[m-1]!) (zs.toArray[m]!)with k | k | k
      ·exact k
      ·exact absurd k.symm hne
      ·exact absurd k (hle (m-1) m (by omega) (by omega))
     by_cases e:j=m-1
     ·rw[e];exact h1
     ·rcases zQa (zs.toArray[j]!) (zs.toArray[m-1]!)with k | k | k
      ·exact zKJ _ _ _ k h1
      ·rw[k];exact h1
      ·exact absurd k (hle j (m-1) (by omega) (by omega))
    ·rw[List.mem_append,b z,List.mem_singleton]
     constructor
     ·rintro(⟨j,hj,e⟩ | e)
      ·exact⟨j,by omega,e⟩
      ·exact⟨m,by omega,e.symm⟩
     ·rintro⟨j,hj,e⟩
      by_cases hjm:j=m
      ·exact .inr (by rw[<- e,hjm])
      ·exact .inl ⟨j,by omega,e⟩
   | false =>
    rw[if_neg (by simp),List.append_nil]
    refine⟨a,fun z=>?_⟩
    rw[b z]
    constructor
    ·rintro⟨j,hj,e⟩;exact⟨j,by omega,e⟩
    ·rintro⟨j,hj,e⟩
     by_cases hjm:j=m
     ·have:=of_decide_eq_false hk
      have h0:¬ m=0:=fun h=>this (.inl h)
      have h1:zs.toArray[m]! = zs.toArray[m-1]!:=by
       by_cases h:zs.toArray[m]! = zs.toArray[m-1]!
       ·exact h
       ·exact absurd (.inr h) this
      exact⟨m-1,by omega,by rw[<- h1,<- e,hjm]⟩
     ·exact⟨j,by omega,e⟩
 obtain⟨a,b⟩:=key zs.length nl
 refine⟨a,fun z=>?_⟩
 have:zIp zs=Lib.compactUpTo zs.toArray zs.length:=rfl
 rw[this,b z]
 constructor
 ·rintro⟨j,hj,e⟩
  rw[hget j hj,getElem!_pos zs j hj]at e
  rw[<- e];exact List.getElem_mem hj
 ·intro hz
  obtain⟨j,hj,e⟩:=List.getElem_of_mem hz
  exact⟨j,hj,by rw[hget j hj,getElem!_pos zs j hj];exact e⟩
theorem zRW (x y:Bs):x<=y ↔ ¬ ltB y x:=by
 rw[<- List.not_lt,lt_iff]
theorem zRn (ss:List Bs):(sorted ss).Pairwise (fun a b=>¬ ltB b a)/\(∀ z,z ∈ sorted ss ↔ z ∈ ss)/\(sorted ss).length=ss.length:=by
 refine⟨?_,fun z=>by rw[zME];exact List.mem_mergeSort,by rw[zME];exact List.length_mergeSort _⟩
 have:=List.pairwise_mergeSort (le:=fun x y:Bs=>decide (x<=y)) (fun a b c h1 h2=>by
  simp only[decide_eq_true_eq,zRW]at *
  rcases zQa a b with k | k | k
  ·rcases zQa b c with j | j | j
   ·intro e;have:=zKJ _ _ _ (zKJ _ _ _ k j) e;exact zSK this
   ·rw[<- j];exact h1
   ·exact absurd j h2
  ·rw[k];exact h2
  ·exact absurd k h1) (fun a b=>by
  simp only[Bool.or_eq_true,decide_eq_true_eq,zRW]
  rcases zQa a b with k | k | k
  ·left;intro e;have:=zKJ _ _ _ k e;exact zSK this
  ·left;rw[k,ltB,zSU];simp
  ·right;intro e;have:=zKJ _ _ _ k e;exact zSK this) ss
 rw[zME]
 exact this.imp fun h=>(zRW _ _).1 (of_decide_eq_true h)
theorem zSD (ss:List Bs):zIp (sorted ss)=srtT ss:=by
 obtain⟨h1,h2,_⟩:=zRn ss
 obtain⟨h3,h4⟩:=compL_ok (sorted ss) h1
 obtain⟨h5,h6,_⟩:=srtT_ok ss
 exact srt_uniq _ _ h3 h5 fun x=>by rw[h4,h2,h6]
end Go.Am.X

namespace Go.Am.X
theorem Own.stores {H:Heap}{B z id n e:Nat}{cs:List V}(h:Own H B z (.sl id 0 n n (some e) z) n cs)(hw:WF H)(off:Nat)(vs:List V)(hl:off+vs.length<=cs.length)(hs:vs.all V.scal=true) :
  ∃ H',H.stores id off vs=some H'/\Own H' B z (.sl id 0 n n (some e) z) n (cs.take off++vs++cs.drop (off+vs.length))/\Gr B H H':=by
 rcases h with⟨h,_⟩ | ⟨id',e',room,fam,ver,pl,st,fr,q,h1,h2,h3,h4,h5,h7⟩
 ·cases h
 ·cases q
  cases vs with
  | nil=>exact⟨H,rfl,by simpa using .inr ⟨id,e,room,fam,ver,pl,st,fr,rfl,h1,h2,h3,h4,h5,h7⟩,Gr.refl hw⟩
  | cons v vs =>
   have hroom:H.room? id=room:=by simp only[Heap.room?,h1]
   have hov:=zRO off room (v::vs) cs hl
   refine⟨{ size:=H.size,blk:=H.blk.s id (.mem (cs.take off++(v::vs)++cs.drop (off+(v::vs).length)) room fam ver true pl (st+1)),fams:=H.fams.s fam (ver,ver) },?_,?_,?_⟩
   ·simp only[Heap.stores,hs,cond_true,Heap.write,h1,h2,hroom,hov]
    rw[show Nat.beq ver ver=true from Nat.beq_refl ver,show Nat.ble fr ver=true from Nat.ble_eq_true_of_le h3]
    rfl
   ·refine .inr ⟨id,e,room,fam,ver,pl,st+1,ver,rfl,T.get_set_same _ _ _,T.get_set_same _ _ _,Nat.le_refl _,h4,h5,?_⟩
    rw[<- h7]
    simp only[List.length_append,List.length_take,List.length_drop]
    omega
   ·have hid:=hw.blk _ _ h1
    have hfam:=hw.fams _ _ h2
    refine⟨⟨?_,?_,?_⟩,Nat.le_refl _,fun i hi=>?_,fun f hf=>?_⟩
    ·intro i b hb
     simp only[T.get_set]at hb ⊢
     split at hb
     ·omega
     ·exact hw.blk _ _ hb
    ·intro f x hf
     simp only[T.get_set]at hf ⊢
     split at hf
     ·omega
     ·exact hw.fams _ _ hf
    ·intro i c r f v' w p s hb
     simp only[T.get_set]at hb ⊢
     split at hb
     ·cases hb;exact hfam
     ·exact hw.fam _ _ _ _ _ _ _ _ hb
    ·simp only[T.get_set];rw[if_neg (by omega)]
    ·simp only[T.get_set];rw[if_neg (by omega)]
theorem Own.cellsQ {H:Heap}{B z id n e:Nat}{cs:List V}(h:Own H B z (.sl id 0 n n (some e) z) n cs):H.cells? id=some cs:=by
 rcases h with⟨h,_⟩ | ⟨id',e',room,fam,ver,pl,st,fr,q,h1,h2,h3,h4,h5,h7⟩
 ·cases h
 ·cases q
  simp only[Heap.cells?,h1,h2]
  rw[show Nat.ble fr ver=true from Nat.ble_eq_true_of_le h3]
  rfl
theorem Own.form {H:Heap}{B z:Nat}{v:V}{n:Nat}{cs:List V}(h:Own H B z v n cs)(hn:0<n):∃ id e,v=.sl id 0 n n (some e) z:=by
 rcases h with⟨_,h,_⟩ | ⟨id',e',room,fam,ver,pl,st,fr,q,_⟩
 ·omega
 ·exact⟨id',e',q⟩
theorem Own.sort {H:Heap}{B:Nat}{v:V}{ss:List Bs}(h:Own H B 1 v ss.length (ss.map V.str))(hw:WF H)(hl:ss.length<4611686018427387904) :
  ∃ H',(∀ Z,zMC [v] H Z=some (.tup [],H',Z))/\Own H' B 1 v (sorted ss).length ((sorted ss).map V.str)/\Gr B H H':=by
 have hlen:(sorted ss).length=ss.length:=(zRn ss).2.2
 by_cases h0:ss=[]
 ·subst h0
  have hs:sorted []=[]:=rfl
  refine⟨H,fun Z=>?_,by rw[hs];exact h,Gr.refl hw⟩
  rcases h with⟨rfl,_,_⟩ | ⟨id,e,room,fam,ver,pl,st,fr,rfl,_⟩ <;> rfl
 ·have hpos:=List.length_pos_iff.2 h0
  obtain⟨id,e,rfl⟩:=Own.form h hpos
  obtain⟨H',s1,o1,g1⟩:=Own.stores h hw 0 ((sorted ss).map V.str) (by simp[hlen]) (strs_scal _)
  have hld:H.loads id 0 ss.length=some (ss.map V.str):=by
   rw[zC9 (Own.cellsQ h) (by simp),List.drop_zero]
   rw[show ss.length=(ss.map V.str).length by simp,List.take_length]
  refine⟨H',fun Z=>?_,?_,g1⟩
  ·obtain⟨m,hm⟩:∃ m,ss.length=m+1:=⟨ss.length-1,by omega⟩
   have hb:Nat.blt ss.length 4611686018427387904=true:=by simp[Nat.blt];omega
   rw[hm]at hld hb ⊢
   simp only[zMC,Nat.beq_refl,hb,Bool.and_self,cond_true,hld,zP5,s1]
  ·rw[hlen]
   have:(List.map V.str ss).take 0++List.map V.str (sorted ss)++(List.map V.str ss).drop (0+(List.map V.str (sorted ss)).length)=List.map V.str (sorted ss):=by
    rw[List.drop_eq_nil_of_le (by simp[hlen])];simp
   rw[this]at o1
   exact o1
end Go.Am.X

namespace Go.Am.X
theorem lower_len (s:Bs):(lower s).length=s.length:=by simp[lower]
end Go.Am.X

namespace Go.Am.X
def unq (v:Bs):Bs:=if 1<v.length/\v[0]?=some 34/\v[v.length-1]?=some 34 then(v.take (v.length-1)).drop 1 else v
def zBY (s:Bs):Bs × Bs :=
 match cutB 61 s with
 | some (a,b)=>(lower (strip a),unq (strip b))
 | none=>(lower (strip s),unq (strip []))
abbrev SplitOkS (c:zC)(name:Bs)(hs:List Hd):Prop:=∀ (v:V) (H:Heap),WF H->RdH H v hs->∀ Z,∃ v' H' Z',Own H' H.size 1 v' (zBw name hs).length ((zBw name hs).map V.str)/\(zBw name hs).length<=4294967296/\Gr H.size H H'/\∀ q,c zA0 [v,.str name] H Z q=q (.tup [v',.bool (decide (0<(sel name hs).length))]) H' Z'
abbrev GetOkS (c:zC)(name:Bs)(hs:List Hd):Prop:=∀ (v:V) (H:Heap),WF H->RdH H v hs->∀ Z,∃ H' Z',Gr H.size H H'/\∀ q,c zAS [v,.str name] H Z q=q (.tup [.str (getT name hs),.bool (decide (0<(sel name hs).length))]) H' Z'
theorem zRm (c:zC)(N:Nat)(h62:CutOk c 61)(h80:StripOk c)(h92:LowOk c)(s:Bs)(hs:s.length<=140737488355328)(H:Heap)(hw:WF H)(Z:Tape)(q:KV) :
  ∃ H' Z',Gr H.size H H'/\zG3 c N (.str s) H Z q=q (.tup [.str (zBY s).1,.str (zBY s).2]) H' Z':=by
 obtain⟨a,b,hab,ha,hb,hc⟩:∃ a b:Bs,(∃ d,(match cutB 61 s with | some (a,b)=>V.tup [.str a,.str b,.bool true] | none=>V.tup [.str s,.str [],.bool false])=.tup [.str a,.str b,.bool d])/\a.length<=s.length/\b.length<=s.length/\zBY s=(lower (strip a),unq (strip b)):=by
  unfold zBY
  cases hx:cutB 61 s with
  | none=>exact⟨s,[],⟨false,rfl⟩,Nat.le_refl _,by simp,rfl⟩
  | some ab =>
   obtain⟨a,b⟩:=ab
   have:=((zRJ 61 s).2 a b hx).1
   exact⟨a,b,⟨true,rfl⟩,by rw[this];simp,by rw[this];simp;omega,rfl⟩
 obtain⟨d,hab⟩:=hab
 have h62':∀ H Z q,c zDe [.str s,.str [61]] H Z q=q (.tup [.str a,.str b,.bool d]) H Z:=fun H Z q=>(h62 s (by omega) H Z q).trans (congrArg (fun v=>q v H Z) hab)
 have hjoin:∀ (w:Bs) (H1:Heap) (fr:T V),WF H1->fr.get 4=some (.str a)->fr.get 5=some (.str w)->∃ H' Z',Gr H1.size H1 H'/\zDy c N q ⟨fr,H1⟩ Z=q (.tup [.str (lower (strip a)),.str w]) H' Z':=by
  intro w H1 fr hw1 f4 f5
  obtain⟨H2,p1,p2⟩:=h80 a (by omega) H1 hw1 Z (fun v40 H41 Z42=>c zBD [v40] H41 Z42 fun v43 H44 Z45=>q (.tup [v43,.str w]) H44 Z45)
  obtain⟨H3,Z3,r1,r2⟩:=h92 (strip a) (by have:=zHB blank a;unfold strip;omega) H2 p1.wf Z (fun v43 H44 Z45=>q (.tup [v43,.str w]) H44 Z45)
  refine⟨H3,Z3,p1.trans r1 p1.size,?_⟩
  simp only[zDy,zA f4,zA f5,p2,r2]
 obtain⟨H1,k1,k2⟩:=h80 b (by omega) H hw Z (fun v6 H7 Z8 =>
  zB (zFV [v6]) fun v9 =>
  binK .gtr v9 (.int .i64 (.ofNat 1)) fun v10 =>
  gK v10 true (fun q'=>q' v6 H7 Z8) H7 Z8 fun v11 H12 Z13 =>
  gK v10 true (fun q'=>zB (zL [v11,(.int .i64 (.ofNat 0))]) fun v=>q' v H12 Z13) H12 Z13 fun v14 H15 Z16 =>
  gK v10 true (fun q'=>binK .eql v14 (.int .u8 (.ofNat 34)) fun v=>q' v H15 Z16) H15 Z16 fun v17 H18 Z19 =>
  zB (zBl [v10,v17,(.bool false)]) fun v20 =>
  gK v20 true (fun q'=>q' v6 H18 Z19) H18 Z19 fun v21 H22 Z23 =>
  gK v20 true (fun q'=>q' v6 H22 Z23) H22 Z23 fun v24 H25 Z26 =>
  gK v20 true (fun q'=>zB (zFV [v24]) fun v=>q' v H25 Z26) H25 Z26 fun v27 H28 Z29 =>
  gK v20 true (fun q'=>binK .sub v27 (.int .i64 (.ofNat 1)) fun v=>q' v H28 Z29) H28 Z29 fun v30 H31 Z32 =>
  gK v20 true (fun q'=>zB (zL [v21,v30]) fun v=>q' v H31 Z32) H31 Z32 fun v33 H34 Z35 =>
  gK v20 true (fun q'=>binK .eql v33 (.int .u8 (.ofNat 34)) fun v=>q' v H34 Z35) H34 Z35 fun v36 H37 Z38 =>
  zB (zBl [v20,v36,(.bool false)]) fun v39 =>
  zW v39
   (zB (zFV [v6]) fun v46 =>
  binK .sub v46 (.int .i64 (.ofNat 1)) fun v47 =>
  zB (zw true true [v6,(.int .i64 (.ofNat 1)),v47]) fun v48 =>
  zDy c N q ⟨(T.s (T.s (T.s (T.s (T.s (T.s (T.s (T.s (T.s .leaf 4 (.str a)) 5 v6) 30 v39) 31 v6) 32 v6) 33 v46) 34 v47) 35 v48) 5 v48),H37⟩ Z38)
   (zDy c N q ⟨(T.s (T.s (T.s .leaf 4 (.str a)) 5 v6) 30 v39),H37⟩ Z38))
 have hvl:(strip b).length<=s.length:=by have:=zHB blank b;unfold strip;omega
 have fin:∀ (w:Bs) (fr:T V),w=unq (strip b)->fr.get 4=some (.str a)->fr.get 5=some (.str w)->zG3 c N (.str s) H Z q=zDy c N q ⟨fr,H1⟩ Z->∃ H' Z',Gr H.size H H'/\zG3 c N (.str s) H Z q=q (.tup [.str (zBY s).1,.str (zBY s).2]) H' Z':=by
  intro w fr hw' f4 f5 he
  obtain⟨H',Z',r1,r2⟩:=hjoin w H1 fr k1.wf f4 f5
  exact⟨H',Z',k1.trans r1 k1.size,by rw[he,r2,hc,hw']⟩
 have hst:=Eq.trans (a:=zG3 c N (.str s) H Z q) (by
  simp only[zG3]
  rw[show bs [61]=[61]from rfl,h62']
  simp only[zH,List.getElem?_cons_zero,List.getElem?_cons_succ,zK]) k2
 rw[hst]at fin ⊢
 simp only[zAF,zK,zAV]at fin ⊢
 by_cases h1:1<(strip b).length
 ·have e1:decide (Int.ofNat 1<((strip b).length:Int))=true:=decide_eq_true (by first | (simp;done) | (simp;omega) | omega)
  obtain⟨x,hx⟩:∃ x,(strip b)[0]?=some x:=⟨(strip b)[0],List.getElem?_eq_getElem (by omega)⟩
  obtain⟨y,hy⟩:∃ y,(strip b)[(strip b).length-1]?=some y:=⟨(strip b)[(strip b).length-1],List.getElem?_eq_getElem (by omega)⟩
  have e2:zL [.str (strip b),.int .i64 (.ofNat 0)]=some (.int .u8 (x.toNat:Int)):=zC6 (i:=0) hx
  have e3:wr .i64 (((strip b).length:Int)-Int.ofNat 1)=(((strip b).length-1:Nat):Int):=by
   have e0:((strip b).length:Int)-Int.ofNat 1=(((strip b).length-1:Nat):Int):=by
    rw[Int.ofNat_sub (by omega)];rfl
   rw[e0]
   exact zEE (by omega) (by omega)
  have e4:zL [.str (strip b),.int .i64 (((strip b).length-1:Nat):Int)]=some (.int .u8 (y.toNat:Int)):=zC6 hy
  have e5:zw true true [.str (strip b),.int .i64 (.ofNat 1),.int .i64 (((strip b).length-1:Nat):Int)]=some (.str (((strip b).take ((strip b).length-1)).drop 1)):=zJ7 (i:=1) (by omega) (by omega)
  have hx34:((x.toNat:Int) == Int.ofNat 34)=decide (x=34):=by
   rw[Bool.eq_iff_iff];simp[<- UInt8.toNat_inj];omega
  have hy34:((y.toNat:Int) == Int.ofNat 34)=decide (y=34):=by
   rw[Bool.eq_iff_iff];simp[<- UInt8.toNat_inj];omega
  simp only[e1,zCs,retK,zAU,e2,zK,zAv,hx34,zS,cond_true]at fin ⊢
  by_cases cx:x=34
  ·simp only[decide_eq_true cx,zCs,retK,zAU,zAF,zK,zCn,e3,e4,zAv,hy34,zS,cond_true]at fin ⊢
   by_cases cy:y=34
   ·simp only[decide_eq_true cy,zBC,e5,zK]at fin ⊢
    refine fin (((strip b).take ((strip b).length-1)).drop 1) _ ?_ (by simp[T.get_set]) (by simp[T.get_set]) rfl
    rw[unq,if_pos ⟨h1,by rw[hx,cx],by rw[hy,cy]⟩]
   ·simp only[decide_eq_false cy,zAN]at fin ⊢
    refine fin (strip b) _ ?_ (by simp[T.get_set]) (by simp[T.get_set]) rfl
    rw[unq,if_neg (fun h=>cy (by have:=h.2.2;rw[hy]at this;simpa using this))]
  ·simp only[decide_eq_false cx,zBP,zS,cond_false,zK,zAN]at fin ⊢
   refine fin (strip b) _ ?_ (by simp[T.get_set]) (by simp[T.get_set]) rfl
   rw[unq,if_neg (fun h=>cx (by have:=h.2.1;rw[hx]at this;simpa using this))]
 ·have e1:decide (Int.ofNat 1<((strip b).length:Int))=false:=decide_eq_false (by first | (simp;done) | (simp;omega) | omega)
  simp only[e1,zBP,zS,cond_false,zK,zAN]at fin ⊢
  refine fin (strip b) _ ?_ (by simp[T.get_set]) (by simp[T.get_set]) rfl
  rw[unq,if_neg (fun h=>h1 h.1)]
abbrev Ctl:=Bool × Bool × Int
def zMQ (st:Ctl)(p:Bs × Bs):Ctl :=
 if p.1=[110,111,45,115,116,111,114,101]then(true,st.2.1,st.2.2)
 else if p.1=[110,111,45,99,97,99,104,101]then(st.1,true,st.2.2)
 else if p.1=[109,97,120,45,97,103,101]then(st.1,st.2.1,if(intB p.2).2=true/\st.2.2<0 then(intB p.2).1 else st.2.2)
 else st
def ctlC (st:Ctl):List V:=[.bool st.1,.bool st.2.1,.int .i64 st.2.2]
abbrev PieceOk (c:zC):Prop:=∀ (s:Bs),s.length<=140737488355328->∀ (H:Heap),WF H->∀ Z,∃ H' Z',Gr H.size H H'/\∀ q,c zGr [.str s] H Z q=q (.tup [.str (zBY s).1,.str (zBY s).2]) H' Z'
theorem parse_loop (c:zC)(N:Nat)(h79:IntOk c)(h95:PieceOk c){B iA iC Bp m:Nat}{cA:List V}{v18:V}(ps:List Bs)(hm:ps.length=m)(hmb:m<=4294967296)(hsz:∀ s ∈ ps,s.length<=140737488355328)(hpz:∀ s ∈ ps,(zBY s).2.length<9223372036854775807)(hBA:B<=iC)(hAC:iA<iC)(hCB:iC<Bp)(l:List Bs) :
  ∀ (pre:List Bs) (st:Ctl) (n:Nat) (fr:T V) (H:Heap) (Z:Tape),WF H->B<=H.size->ps=pre++l->Bx H iA cA->Bx H iC (ctlC st)->Own H Bp 1 v18 m (ps.map V.str)->l.length<n ->
  fr.get 2=some (.ptr iA 0)->fr.get 3=some (.ptr iC 0)->fr.get 18=some v18->fr.get 19=some (.int .i64 (m:Int))->fr.get 20=some (.int .i64 (pre.length:Int)) ->
  ∃ H' Z',Gr B H H'/\Bx H' iA cA/\Bx H' iC (ctlC (l.foldl (fun st s=>zMQ st (zBY s)) st))/\∀ k,zAZ (zCD c N) n ⟨fr,H⟩ Z k=k (.exit 0) ⟨T.s (T.s .leaf 2 (.ptr iA 0)) 3 (.ptr iC 0),H'⟩ Z':=by
 induction l with
 | nil =>
  intro pre st n fr H Z hw hB he hA hC ho hn f2 f3 f18 f19 f20
  obtain⟨n,rfl⟩:∃ j,n=j+1:=⟨n-1,by simp at hn;omega⟩
  refine⟨H,Z,Gr.refl hw,hA,hC,fun k=>?_⟩
  have e1:decide ((pre.length:Int)<(m:Int))=false:=decide_eq_false (by rw[<- hm,he];simp)
  rw[zI]
  simp only[zCD,zA f2,zA f3,zA f18,zA f19,zA f20,zN,e1,zAN,seqK]
 | cons s l ih =>
  intro pre st n fr H Z hw hB he hA hC ho hn f2 f3 f18 f19 f20
  obtain⟨n,rfl⟩:∃ j,n=j+1:=⟨n-1,by simp at hn;omega⟩
  have hmm:m=pre.length+(l.length+1):=by rw[<- hm,he];simp
  have e1:decide ((pre.length:Int)<(m:Int))=true:=decide_eq_true (by omega)
  obtain⟨p,e2,e3⟩:=ho.rd.elem1 (i:=pre.length) (x:=.str s) (by rw[he];simp)
  have hs:s ∈ ps:=by rw[he];simp
  obtain⟨H1,Z1,k1,k2⟩:=h95 s (hsz s hs) H hw Z
  have hw1:=k1.wf
  have hA1:=hA.gr k1 (hA.lt hw)
  have hC1:=hC.gr k1 (hC.lt hw)
  have ho1:=ho.gr k1 hw nl
  have e9:wr .i64 ((pre.length:Int)+Int.ofNat 1)=((pre++[s]).length:Int):=by
   rw[zEE (by first | (simp;done) | (simp;omega) | omega) (by first | (simp;done) | (simp;omega) | omega)]
   simp
  have rest:∀ (st':Ctl) (H2:Heap) (fr':T V),zMQ st (zBY s)=st'->WF H2->B<=H2.size->Bx H2 iA cA->Bx H2 iC (ctlC st')->Own H2 Bp 1 v18 m (ps.map V.str)->Gr B H1 H2 ->
    fr'.get 2=some (.ptr iA 0)->fr'.get 3=some (.ptr iC 0)->fr'.get 18=some v18->fr'.get 19=some (.int .i64 (m:Int))->fr'.get 20=some (.int .i64 (pre.length:Int)) ->
    ∃ H' Z',Gr B H H'/\Bx H' iA cA/\Bx H' iC (ctlC ((s::l).foldl (fun st s=>zMQ st (zBY s)) st))/\∀ k,zDx c N (seqK (fun st Z=>zAZ (zCD c N) n st Z k) k) ⟨fr',H2⟩ Z1=k (.exit 0) ⟨T.s (T.s .leaf 2 (.ptr iA 0)) 3 (.ptr iC 0),H'⟩ Z':=by
   intro st' H2 fr' hst hw2 hB2 hA2 hC2 ho2 hG2 g2 g3 g18 g19 g20
   obtain⟨H',Z',q1,q2,q3,q4⟩:=ih (pre++[s]) st' n (T.s (T.s (T.s (T.s (T.s (T.s (T.s .leaf 2 (.ptr iA 0)) 3 (.ptr iC 0)) 18 v18) 19 (.int .i64 (m:Int))) 20 (.int .i64 (pre.length:Int))) 51 (.int .i64 ((pre++[s]).length:Int))) 20 (.int .i64 ((pre++[s]).length:Int))) H2 Z1 hw2 hB2 (by rw[he];simp) hA2 hC2 ho2 (by simp at hn;omega) (by simp[T.get_set]) (by simp[T.get_set]) (by simp[T.get_set]) (by simp[T.get_set]) (by simp[T.get_set])
   refine⟨H',Z',(k1.weaken hB).trans (hG2.trans q1 nl) nl,q2,by rw[List.foldl_cons,hst];exact q3,fun k=>?_⟩
   simp only[zDx,zA g2,zA g3,zA g18,zA g19,zA g20,ze,e9,seqK]
   exact q4 k
  have hB1:B<=H1.size:=by have:=k1.size;omega
  by_cases c1:(zBY s).1=[110,111,45,115,116,111,114,101]
  ·obtain⟨H2,m1,m2,m3⟩:=hC1.eStore hw1 0 (.bool true) 1 rfl (by simp[ctlC]) (by omega) rfl Z1
   obtain⟨H',Z',q1,q2,q3,q4⟩:=rest (true,st.2.1,st.2.2) H2 (T.s (T.s (T.s (T.s (T.s (T.s (T.s (T.s (T.s .leaf 2 (.ptr iA 0)) 3 (.ptr iC 0)) 9 (.str (zBY s).2)) 18 v18) 19 (.int .i64 (m:Int))) 20 (.int .i64 (pre.length:Int))) 29 (.str (zBY s).1)) 30 (.bool true)) 32 (.ptr iC 0)) (by rw[zMQ,if_pos c1]) m3.wf (by rw[m3.size];exact hB1) (hA1.only m3 (by omega)) m2 (ho1.only m3 hCB) (m3.gr hBA) (by simp[T.get_set]) (by simp[T.get_set]) (by simp[T.get_set]) (by simp[T.get_set]) (by simp[T.get_set])
   refine⟨H',Z',q1,q2,q3,fun k=>?_⟩
   rw[zI]
   simp only[zCD,zA f2,zA f3,zA f18,zA f19,zA f20,zN,e1,zBC,e2,zK,e3,k2,zH,List.getElem?_cons_zero,List.getElem?_cons_succ,zAs,zFU,show((zBY s).1 == bs [110,111,45,115,116,111,114,101])=true from beq_iff_eq.2 c1,zF,Nat.add_zero,m1,zAU]
   exact q4 k
  ·have b1:((zBY s).1 == bs [110,111,45,115,116,111,114,101])=false:=beq_eq_false_iff_ne.2 c1
   by_cases c2:(zBY s).1=[110,111,45,99,97,99,104,101]
   ·obtain⟨H2,m1,m2,m3⟩:=hC1.eStore hw1 1 (.bool true) 1 rfl (by simp[ctlC]) (by omega) rfl Z1
    obtain⟨H',Z',q1,q2,q3,q4⟩:=rest (st.1,true,st.2.2) H2 (T.s (T.s (T.s (T.s (T.s (T.s (T.s (T.s (T.s .leaf 2 (.ptr iA 0)) 3 (.ptr iC 0)) 9 (.str (zBY s).2)) 18 v18) 19 (.int .i64 (m:Int))) 20 (.int .i64 (pre.length:Int))) 29 (.str (zBY s).1)) 33 (.bool true)) 35 (.ptr iC 1)) (by rw[zMQ,if_neg c1,if_pos c2]) m3.wf (by rw[m3.size];exact hB1) (hA1.only m3 (by omega)) m2 (ho1.only m3 hCB) (m3.gr hBA) (by simp[T.get_set]) (by simp[T.get_set]) (by simp[T.get_set]) (by simp[T.get_set]) (by simp[T.get_set])
    refine⟨H',Z',q1,q2,q3,fun k=>?_⟩
    rw[zI]
    simp only[zCD,zA f2,zA f3,zA f18,zA f19,zA f20,zN,e1,zBC,e2,zK,e3,k2,zH,List.getElem?_cons_zero,List.getElem?_cons_succ,zAs,zFU,b1,zAN,show((zBY s).1 == bs [110,111,45,99,97,99,104,101])=true from beq_iff_eq.2 c2,zF,Nat.zero_add,m1,zAU]
    exact q4 k
   ·have b2:((zBY s).1 == bs [110,111,45,99,97,99,104,101])=false:=beq_eq_false_iff_ne.2 c2
    by_cases c3:(zBY s).1=[109,97,120,45,97,103,101]
    ·have b3:((zBY s).1 == bs [109,97,120,45,97,103,101])=true:=beq_iff_eq.2 c3
     have e5:zM [.ptr iC 2] H1=some (.int .i64 st.2.2):=zR hC1.cells rfl
     have e6:decide (st.2.2<Int.ofNat 0)=decide (st.2.2<0):=rfl
     by_cases c4:(intB (zBY s).2).2=true/\st.2.2<0
     ·obtain⟨H2,m1,m2,m3⟩:=hC1.eStore hw1 2 (.int .i64 (intB (zBY s).2).1) 1 rfl (by simp[ctlC]) (by omega) rfl Z1
      obtain⟨H',Z',q1,q2,q3,q4⟩:=rest (st.1,st.2.1,(intB (zBY s).2).1) H2 (T.s (T.s (T.s (T.s (T.s (T.s (T.s (T.s (T.s .leaf 2 (.ptr iA 0)) 3 (.ptr iC 0)) 10 (.int .i64 (intB (zBY s).2).1)) 18 v18) 19 (.int .i64 (m:Int))) 20 (.int .i64 (pre.length:Int))) 48 (.bool true)) 49 (.int .i64 (intB (zBY s).2).1)) 50 (.ptr iC 2)) (by rw[zMQ,if_neg c1,if_neg c2,if_pos c3,if_pos c4]) m3.wf (by rw[m3.size];exact hB1) (hA1.only m3 (by omega)) m2 (ho1.only m3 hCB) (m3.gr hBA) (by simp[T.get_set]) (by simp[T.get_set]) (by simp[T.get_set]) (by simp[T.get_set]) (by simp[T.get_set])
      refine⟨H',Z',q1,q2,q3,fun k=>?_⟩
      rw[zI]
      simp only[zCD,zA f2,zA f3,zA f18,zA f19,zA f20,zN,e1,zBC,e2,zK,e3,k2,zH,List.getElem?_cons_zero,List.getElem?_cons_succ,zAs,zFU,b1,b2,b3,zAN,h79 _ (hpz s hs),c4.1,zCs,retK,zAU,zF,Nat.zero_add,e5,e6,decide_eq_true c4.2,zS,cond_true,m1]
      exact q4 k
     ·obtain⟨H',Z',q1,q2,q3,q4⟩:=rest st H1 (T.s (T.s (T.s (T.s (T.s (T.s (T.s .leaf 2 (.ptr iA 0)) 3 (.ptr iC 0)) 10 (.int .i64 (intB (zBY s).2).1)) 18 v18) 19 (.int .i64 (m:Int))) 20 (.int .i64 (pre.length:Int))) 48 (.bool false)) (by rw[zMQ,if_neg c1,if_neg c2,if_pos c3,if_neg c4]) hw1 hB1 hA1 hC1 ho1 (Gr.refl hw1) (by simp[T.get_set]) (by simp[T.get_set]) (by simp[T.get_set]) (by simp[T.get_set]) (by simp[T.get_set])
      refine⟨H',Z',q1,q2,q3,fun k=>?_⟩
      rw[zI]
      simp only[zCD,zA f2,zA f3,zA f18,zA f19,zA f20,zN,e1,zBC,e2,zK,e3,k2,zH,List.getElem?_cons_zero,List.getElem?_cons_succ,zAs,zFU,b1,b2,b3,zAN,h79 _ (hpz s hs)]
      cases hb:(intB (zBY s).2).2 with
      | false =>
       simp only[zBP,zK,zS,cond_false,zAN]
       exact q4 k
      | true =>
       have hlt:¬ st.2.2<0:=fun h=>c4 ⟨hb,h⟩
       simp only[zCs,retK,zAU,zF,Nat.zero_add,zK,e5,zN,e6,decide_eq_false hlt,zS,cond_true,zAN]
       exact q4 k
    ·have b3:((zBY s).1 == bs [109,97,120,45,97,103,101])=false:=beq_eq_false_iff_ne.2 c3
     obtain⟨H',Z',q1,q2,q3,q4⟩:=rest st H1 (T.s (T.s (T.s (T.s (T.s (T.s (T.s .leaf 2 (.ptr iA 0)) 3 (.ptr iC 0)) 9 (.str (zBY s).2)) 18 v18) 19 (.int .i64 (m:Int))) 20 (.int .i64 (pre.length:Int))) 36 (.bool false)) (by rw[zMQ,if_neg c1,if_neg c2,if_neg c3]) hw1 hB1 hA1 hC1 ho1 (Gr.refl hw1) (by simp[T.get_set]) (by simp[T.get_set]) (by simp[T.get_set]) (by simp[T.get_set]) (by simp[T.get_set])
     refine⟨H',Z',q1,q2,q3,fun k=>?_⟩
     rw[zI]
     simp only[zCD,zA f2,zA f3,zA f18,zA f19,zA f20,zN,e1,zBC,e2,zK,e3,k2,zH,List.getElem?_cons_zero,List.getElem?_cons_succ,zAs,zFU,b1,b2,b3,zAN]
     exact q4 k
def zO1:Bs:=[99,97,99,104,101,45,99,111,110,116,114,111,108]
def zA8 (hs:List (Bs × Bs)):Ctl:=(zBw zO1 hs).foldl (fun st s=>zMQ st (zBY s)) (false,false,-1)
theorem zRe (c:zC)(N:Nat)(hN:9223372036854775807<=N)(hs:List (Bs × Bs))(h79:IntOk c)(h95:PieceOk c)(h91:SplitOkS c zO1 hs)
  (hsz:∀ s ∈ zBw zO1 hs,s.length<=140737488355328) (hpz:∀ s ∈ zBw zO1 hs,(zBY s).2.length<9223372036854775807)
  (v:V) (H:Heap) (hw:WF H) (hr:RdH H v hs) (Z:Tape) :
  ∃ H' Z',Gr H.size H H'/\∀ q,zMo c N v H Z q=q (.agg (ctlC (zA8 hs))) H' Z':=by
 have hG1:=Gr.new hw [V.bool false,V.bool false,V.int .i64 0] 3 true
 have hA1:=Bx.new H [V.bool false,V.bool false,V.int .i64 0] 3 true nl
 generalize hH1:H.new [V.bool false,V.bool false,V.int .i64 0] 3 true=H1 at hG1 hA1
 have hs1:H1.size=H.size+1:=by rw[<- hH1];rfl
 have hG2:=Gr.new hG1.wf [V.bool false,V.bool false,V.int .i64 0] 3 true
 have hC2:=Bx.new H1 [V.bool false,V.bool false,V.int .i64 0] 3 true nl
 have hA2:=hA1.gr hG2 (hA1.lt hG1.wf)
 generalize hH2:H1.new [V.bool false,V.bool false,V.int .i64 0] 3 true=H2 at hG2 hA2 hC2
 have hs2:H2.size=H1.size+1:=by rw[<- hH2];rfl
 obtain⟨H3,m1,m2,m3⟩:=hC2.eStore hG2.wf 0 (.agg [.bool false,.bool false,.int .i64 (-1)]) 3 rfl (by simp) (by omega) rfl Z
 have m2:Bx H3 H1.size (ctlC (false,false,-1)):=m2
 have hA3:=hA2.only m3 (by omega)
 have hG3:Gr H.size H H3:=hG1.trans (hG2.trans (m3.gr nl) nl) (by omega)
 have hr3:=hr.gr hG3 hw nl
 obtain⟨v',H4,Z4,p1,p2,p3,p4⟩:=h91 v H3 m3.wf hr3 Z
 have hw4:=p3.wf
 have hA4:=hA3.gr p3 (hA3.lt m3.wf)
 have hC4:=m2.gr p3 (m2.lt m3.wf)
 have hlt3:H1.size<H3.size:=m2.lt m3.wf
 obtain⟨H5,Z5,r1,r2,r3,r4⟩:=parse_loop c N h79 h95 (B:=H.size) (iA:=H.size) (iC:=H1.size) (Bp:=H3.size) (zBw zO1 hs) rfl p2 hsz hpz (by omega) (by omega) hlt3 (zBw zO1 hs) [] (false,false,-1) N (T.s (T.s (T.s (T.s (T.s .leaf 2 (.ptr H.size 0)) 3 (.ptr H1.size 0)) 18 v') 19 (.int .i64 ((zBw zO1 hs).length:Int))) 20 (.int .i64 0)) H4 Z4 hw4 (by have:=p3.size;omega) rfl hA4 hC4 p1 (by omega) (by simp[T.get_set]) (by simp[T.get_set]) (by simp[T.get_set]) (by simp[T.get_set]) (by simp[T.get_set])
 obtain⟨H6,u1,u2,u3⟩:=r2.eStore r1.wf 0 (.agg (ctlC (zA8 hs))) 3 rfl (by simp) (by omega) rfl Z5
 have u2:Bx H6 H.size (ctlC (zA8 hs)):=u2
 refine⟨H6,Z5,hG3.trans ((p3.weaken (by have:=hG3.size;omega)).trans (r1.trans (u3.gr nl) nl) nl) nl,fun q=>?_⟩
 have e1:zB2 [(.bool false),(.bool false),(.int .i64 (.ofNat 0))] [] H Z=some (.ptr H.size 0,H1,Z):=by rw[<- hH1];rfl
 have e2:zB2 [(.bool false),(.bool false),(.int .i64 (.ofNat 0))] [] H1 Z=some (.ptr H1.size 0,H2,Z):=by rw[<- hH2];rfl
 have e3:zC7 [(.bool false),(.bool false),(.int .i64 (.ofNat 0))] [(2,1)] [(.int .i64 (.negSucc 0))]=some (.agg [.bool false,.bool false,.int .i64 (-1)]):=rfl
 have e4:zBA 3 [.ptr H1.size 0] H5=some (.agg (ctlC (zA8 hs))):=by rw[zAw r3.cells (by simp[ctlC])];rfl
 have e5:zBA 3 [.ptr H.size 0] H6=some (.agg (ctlC (zA8 hs))):=by rw[zAw u2.cells (by simp[ctlC])];rfl
 simp only[zMo,e1,e2,e3,zAU,zK,m1]
 rw[show bs [99,97,99,104,101,45,99,111,110,116,114,111,108]=zO1 from rfl,p4]
 simp only[zH,List.getElem?_cons_zero,List.getElem?_cons_succ,zK,own_len p1]
 rw[show(V.int IntKind.i64 (Int.ofNat 0))=.int .i64 0 from rfl,r4]
 simp only[zX,Nat.beq_refl,cond_true,seqK,zOp,zV,↓reduceIte,Nat.reduceEqDiff,e4,zK,u1,zAU]
 simp only[results,zMG,zRY,T.get_set_same,zHL,zPE,e5,zK]
def zMH:Int:=-9223372036854775808
def InI (n:Int):Prop:=zMH<=n/\n<=zDq
def zNx (a b:Int):Int:=if b<=a then 0 else if a<0/\zDq+a<b then zDq else b-a
def addT (a b:Int):Int:=if 0<b/\zDq-b<a then zDq else if b<0/\a<zMH-b then 0 else if a+b<0 then 0 else a+b
theorem zSE (c:zC)(N:Nat){a b:Int}(ha:InI a)(hb:InI b)(H:Heap)(Z:Tape)(q:KV):zG1 c N (.int .i64 a) (.int .i64 b) H Z q=q (.int .i64 (zNx a b)) H Z:=by
 unfold InI zMH zDq at *
 by_cases h1:b<=a
 ·simp only[zG1,zBk,decide_eq_true h1,zBC,zNx,decide_false,decide_true,h1,if_true]
  rfl
 ·by_cases h2:a<0
  ·have e1:decide (a<Int.ofNat 0)=true:=decide_eq_true h2
   have e2:wr .i64 (Int.ofNat 9223372036854775807+a)=zDq+a:=by
    rw[zEE (by first | (simp;done) | (simp;omega) | omega) (by first | (simp;done) | (simp;omega) | omega)];rfl
   by_cases h3:zDq+a<b
   ·simp only[zG1,zBk,decide_eq_false h1,zAN,zN,e1,zCs,retK,zAU,ze,e2,zAV,decide_eq_true h3,zK,zS,cond_true,zBC,zNx,decide_false,decide_true,h1,if_false,h2,h3,and_self,if_true]
    rfl
   ·have e3:wr .i64 (b-a)=b-a:=zEE (by omega) (by unfold zDq at h3;omega)
    simp only[zG1,zBk,decide_eq_false h1,zAN,zN,e1,zCs,retK,zAU,ze,e2,zAV,decide_eq_false h3,zK,zS,cond_true,zCn,e3,zNx,decide_false,decide_true,h1,if_false,h2,h3,and_false]
  ·have e1:decide (a<Int.ofNat 0)=false:=decide_eq_false h2
   have e3:wr .i64 (b-a)=b-a:=zEE (by omega) (by omega)
   simp only[zG1,zBk,decide_eq_false h1,zAN,zN,e1,zBP,zK,zS,cond_false,zCn,e3,zNx,decide_false,decide_true,h1,if_false,h2,false_and]
theorem s_age_Add_ev (c:zC)(N:Nat){a b:Int}(ha:InI a)(hb:InI b)(H:Heap)(Z:Tape)(q:KV):zJB c N (.int .i64 a) (.int .i64 b) H Z q=q (.int .i64 (addT a b)) H Z:=by
 unfold InI zMH zDq at *
 have fin:∀ (v:Int),-9223372036854775808<=v->v<=9223372036854775807->pMax [.int .i64 (wr .i64 v),.int .i64 (.ofNat 0)]=some (.int .i64 (if v<0 then 0 else v)):=by
  intro v h1 h2
  rw[zEE h1 h2]
  rfl
 by_cases h1:0<b
 ·have e1:decide (Int.ofNat 0<b)=true:=decide_eq_true h1
  have e2:wr .i64 (Int.ofNat 9223372036854775807-b)=zDq-b:=by
   rw[zEE (by first | (simp;done) | (simp;omega) | omega) (by first | (simp;done) | (simp;omega) | omega)];rfl
  have e4:decide (b<Int.ofNat 0)=false:=decide_eq_false (by first | (simp;done) | (simp;omega) | omega)
  have h1':¬ b<0:=by omega
  by_cases h3:zDq-b<a
  ·simp only[zJB,zAV,e1,zCs,retK,zAU,zCn,e2,decide_eq_true h3,zK,zS,cond_true,zBC,addT,decide_false,decide_true,h1,h3,and_self,if_true]
   rfl
  ·simp only[zJB,zAV,e1,zCs,retK,zAU,zCn,e2,decide_eq_false h3,zK,zS,cond_true,zAN,zN,e4,zBP,cond_false,ze,fin (a+b) (by omega) (by unfold zDq at h3;omega),addT,decide_false,decide_true,h1,h3,and_false,if_false,h1',false_and]
 ·have e1:decide (Int.ofNat 0<b)=false:=decide_eq_false h1
  by_cases h2:b<0
  ·have e2:decide (b<Int.ofNat 0)=true:=decide_eq_true h2
   have e3:wr .i64 (Int.negSucc 9223372036854775807-b)=zMH-b:=by
    rw[zEE (by rw[Int.negSucc_eq];omega) (by rw[Int.negSucc_eq];omega)];rfl
   by_cases h4:a<zMH-b
   ·simp only[zJB,zAV,e1,zBP,zK,zS,cond_false,zAN,zN,e2,zCs,retK,zAU,zCn,e3,decide_eq_true h4,cond_true,zBC,addT,decide_false,decide_true,h1,false_and,if_false,h2,h4,and_self,if_true]
    rfl
   ·simp only[zJB,zAV,e1,zBP,zK,zS,cond_false,zAN,zN,e2,zCs,retK,zAU,zCn,e3,decide_eq_false h4,cond_true,ze,fin (a+b) (by unfold zMH at h4;omega) (by omega),addT,decide_false,decide_true,h1,false_and,if_false,h2,h4,and_false]
  ·have e2:decide (b<Int.ofNat 0)=false:=decide_eq_false h2
   simp only[zJB,zAV,e1,zBP,zK,zS,cond_false,zAN,zN,e2,ze,fin (a+b) (by omega) (by omega),addT,decide_false,decide_true,h1,false_and,if_false,h2]
theorem intL_range:∀ (s:Bs) (n m:Int),0<=n->n<=zDq->intL s n=some m->0<=m/\m<=zDq:=by
 intro s
 induction s with
 | nil=>intro n m h0 h1 h;cases h;exact⟨h0,h1⟩
 | cons x s ih =>
  intro n m h0 h1 h
  simp only[intL]at h
  split at h
  ·rename_i hx
   have:=zPU h0 h1 (d:=(x.toNat:Int)-48) (by omega) (by omega)
   exact ih _ _ this.1 this.2 h
  ·cases h
theorem intB_range (s:Bs):0<=(intB s).1/\(intB s).1<=zDq:=by
 unfold intB
 cases h:intL s 0 with
 | none=>simp only;unfold zDq;omega
 | some m=>exact intL_range s 0 m (Int.le_refl _) (by unfold zDq;omega) h
theorem sinceT_range {a b:Int}(ha:InI a)(hb:InI b):0<=zNx a b/\zNx a b<=zDq:=by
 unfold InI at *
 unfold zNx zMH zDq at *
 split
 ·omega
 ·split <;> omega
def zKh:Bs:=[97,103,101]
def ageT (hs:List (Bs × Bs))(a b:Int):Int:=addT (intB (strip (getT zKh hs))).1 (zNx a b)
theorem zSj (c:zC)(N:Nat)(hs:List (Bs × Bs))(h78:GetOkS c zKh hs)(hj:(getT zKh hs).length<9223372036854775807)(h80:zTR c)(h79:IntOk c)
  (h81:∀ a b,InI a->InI b->∀ H Z q,c zMI [.int .i64 a,.int .i64 b] H Z q=q (.int .i64 (zNx a b)) H Z) (h31:∀ a b,InI a->InI b->∀ H Z q,c zJN [.int .i64 a,.int .i64 b] H Z q=q (.int .i64 (addT a b)) H Z)
  {a b:Int} (ha:InI a) (hb:InI b) (v:V) (H:Heap) (hw:WF H) (hr:RdH H v hs) (Z:Tape) :
  ∃ H' Z',Gr H.size H H'/\∀ q,zPu c N v (.int .i64 a) (.int .i64 b) H Z q=q (.int .i64 (ageT hs a b)) H' Z':=by
 obtain⟨H1,Z1,k1,k2⟩:=h78 v H hw hr Z
 obtain⟨H2,Z2,m1,m2⟩:=h80 (getT zKh hs) hj H1 k1.wf Z1
 refine⟨H2,Z2,k1.trans m1 k1.size,fun q=>?_⟩
 have hl:(strip (getT zKh hs)).length<9223372036854775807:=by have:=zHB blank (getT zKh hs);unfold strip;omega
 have h1:=intB_range (strip (getT zKh hs))
 have h2:=sinceT_range ha hb
 simp only[zPu]
 rw[show bs [97,103,101]=zKh from rfl,k2]
 simp only[zH,List.getElem?_cons_zero,List.getElem?_cons_succ,zK,m2,h79 _ hl]
 rw[h81 a b ha hb,h31 _ _ ⟨by unfold zMH;omega,h1.2⟩ ⟨by unfold zMH;omega,h2.2⟩]
 rfl
def zM1 (hs:List (Bs × Bs))(a b:Int):Bool:=!(zA8 hs).2.1 && decide (ageT hs a b<(zA8 hs).2.2)
theorem zRs (c:zC)(N:Nat)(hs:List (Bs × Bs))(h53:∀ (v:V) (H:Heap),WF H->RdH H v hs->∀ Z,∃ H' Z',Gr H.size H H'/\∀ q,c zBn [v] H Z q=q (.agg (ctlC (zA8 hs))) H' Z')
  (h29:∀ (a b:Int),InI a->InI b->∀ (v:V) (H:Heap),WF H->RdH H v hs->∀ Z,∃ H' Z',Gr H.size H H'/\∀ q,c zFk [v,.int .i64 a,.int .i64 b] H Z q=q (.int .i64 (ageT hs a b)) H' Z')
  {a b:Int} (ha:InI a) (hb:InI b) (v:V) (H:Heap) (hw:WF H) (hr:RdH H v hs) (Z:Tape) :
  ∃ H' Z',Gr H.size H H'/\∀ q,zKu c N v (.int .i64 a) (.int .i64 b) H Z q=q (.bool (zM1 hs a b)) H' Z':=by
 obtain⟨H1,Z1,k1,k2⟩:=h53 v H hw hr Z
 have hG2:=Gr.new k1.wf [V.bool false,V.bool false,V.int .i64 0] 3 true
 have hC2:=Bx.new H1 [V.bool false,V.bool false,V.int .i64 0] 3 true nl
 generalize hH2:H1.new [V.bool false,V.bool false,V.int .i64 0] 3 true=H2 at hG2 hC2
 obtain⟨H3,m1,m2,m3⟩:=hC2.eStore hG2.wf 0 (.agg (ctlC (zA8 hs))) 3 rfl (by simp) (by omega) rfl Z1
 have m2:Bx H3 H1.size (ctlC (zA8 hs)):=m2
 have hG3:Gr H.size H H3:=k1.trans (hG2.trans (m3.gr nl) nl) k1.size
 obtain⟨H4,Z4,p1,p2⟩:=h29 a b ha hb v H3 m3.wf (hr.gr hG3 hw nl) Z1
 have m4:=m2.gr p1 (m2.lt m3.wf)
 have e1:zB2 [(.bool false),(.bool false),(.int .i64 (.ofNat 0))] [] H1 Z1=some (.ptr H1.size 0,H2,Z1):=by rw[<- hH2];rfl
 have e2:zM [.ptr H1.size (0+1)] H3=some (.bool (zA8 hs).2.1):=zR m2.cells rfl
 cases hnc:(zA8 hs).2.1 with
 | true =>
  refine⟨H3,Z1,hG3,fun q=>?_⟩
  have hf:zM1 hs a b=false:=by simp[zM1,hnc]
  rw[hnc]at e2
  simp only[zKu,k2,e1,zAU,m1,zF,zK,e2,zCQ,Bool.not_true,zBP,zS,cond_false,wantsV,hf]
  rfl
 | false =>
  refine⟨H4,Z4,hG3.trans p1 hG3.size,fun q=>?_⟩
  have hf:zM1 hs a b=decide (ageT hs a b<(zA8 hs).2.2):=by simp[zM1,hnc]
  rw[hnc]at e2
  have e3:zM [.ptr H1.size (0+2)] H3=some (.int .i64 (zA8 hs).2.2):=zR m2.cells rfl
  have e4:zM [.ptr H1.size (0+2)] H4=some (.int .i64 (zA8 hs).2.2):=zR m4.cells rfl
  have e5:zBX [H3,H4] [((.load none),[.ptr H1.size (0+2)],0,1)]=true:=by
   simp[zBX,zHL,zPE,e3,chk1,e4,same,zS9,zKv]
  simp only[zKu,k2,e1,zAU,m1,zF,zK,e2,zCQ,Bool.not_false,zCs,retK,e3,p2,zAV,zS,cond_true,wantsV,hf]
  rw[show(true == true)=true from rfl]
  simp only[e5,cond_true]
end Go.Am.X

