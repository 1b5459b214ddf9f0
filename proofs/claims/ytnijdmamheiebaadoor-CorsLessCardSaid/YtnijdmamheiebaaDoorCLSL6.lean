/- The abstract machine, printed functions of the program, and what they are shown to be. -/
import Derived.Test.YtnijdmamheiebaaDoorCLSL5
set_option linter.unusedSimpArgs false
set_option linter.unusedVariables false
set_option linter.unusedSectionVars false
set_option maxRecDepth 100000
namespace Go.Am.X
abbrev LetOk1 (c:zG):Prop:=∀ (n:Nat) H Z q,c zHo [.int .u8 (n:Int)] H Z q=q (.bool (letB n)) H Z
def plusB (n:Nat):Bool:=decide (n=43) || (decide (n=45) || decide (n=46))
def schT:Bs->Bs->Option (Bs × Bs)
 | _,[]=>none
 | pre,x::l =>
  if x.toNat=58/\pre.length≠0 then some (lower pre,l)
  else if letB x.toNat=true∨(pre.length≠0/\(digB x.toNat=true∨plusB x.toNat=true))then schT (pre++[x]) l else none
def schV:Option (Bs × Bs)->V
 | none=>.tup [.str [],.str [],.bool false]
 | some p=>.tup [.str p.1,.str p.2,.bool true]
theorem schT_len:∀ (l pre:Bs) {p:Bs × Bs},schT pre l=some p->p.1.length<=pre.length+l.length/\p.2.length<=l.length:=by
 intro l
 induction l with
 | nil=>intro pre p h;exact absurd h (by simp[schT])
 | cons x l ih =>
  intro pre p h
  rw[schT]at h
  split at h
  ·obtain rfl:=Option.some.inj h
   simp[lower]
  ·split at h
   ·have:=ih _ h
    rw[List.length_append,List.length_singleton]at this
    rw[List.length_cons]
    omega
   ·exact absurd h (by simp)
theorem l_scheme (c:zG)(N:Nat)(hL:zQg c)(hT:LetOk1 c)(hD:zRg c)(s:Bs)(hs:s.length<=1000000)(H:Heap):∀ (l pre:Bs) (fr:T V) (Z:Tape) (m:Nat) k,s=pre++l->l.length<m->fr.get 0=some (.str s)->fr.get 5=some (.int .i64 (pre.length:Int)) ->
  zq (zAF c N) m ⟨fr,H⟩ Z (zW 0 (seqK (zEy c N k) (endK [(.t 2),(.t 3),(.t 4)] k)))=k (schV (schT pre l)) H Z:=by
 intro l
 induction l with
 | nil =>
  intro pre fr Z m k he hm f0 f5
  obtain⟨m,rfl⟩:∃ j,m=j+1:=⟨m-1,by omega⟩
  rw[List.append_nil]at he
  subst he
  have e1:decide ((s.length:Int)<(s.length:Int))=false:=decide_eq_false (by omega)
  rw[zI]
  simp only[zAF,zA f0,zA f5,zO,zB,zL,e1,zD,seqK,zW,Nat.beq_refl,cond_true,zEy,schT,schV]
 | cons x l ih =>
  intro pre fr Z m k he hm f0 f5
  obtain⟨m,rfl⟩:∃ j,m=j+1:=⟨m-1,by omega⟩
  have hl:pre.length<s.length:=by rw[he];simp
  have e1:decide ((pre.length:Int)<(s.length:Int))=true:=decide_eq_true (by omega)
  have e2:zM [.str s,.int .i64 (pre.length:Int)]=some (.int .u8 (x.toNat:Int)):=zk (by rw[he];simp)
  have e3:wr .i64 ((pre.length:Int)+Int.ofNat 1)=((pre++[x]).length:Int):=by rw[adI (by omega)];simp
  have eq:∀ k:Nat,((x.toNat:Int) == Int.ofNat k)=decide (x.toNat=k):=fun k=>by rw[Bool.eq_iff_iff];simp;omega
  have ne:∀ k:Nat,((x.toNat:Int) != Int.ofNat k)=!decide (x.toNat=k):=fun k=>by rw[Bool.eq_iff_iff];simp;omega
  have z1:decide (Int.ofNat 0<(pre.length:Int))=!decide (pre.length=0):=by
   by_cases h:pre.length=0
   ·rw[decide_eq_true h,decide_eq_false (by rw[h];decide)];rfl
   ·rw[decide_eq_false h,decide_eq_true (by have:Int.ofNat 0=0:=rfl;omega)];rfl
  have z2:((pre.length:Int) == Int.ofNat 0)=decide (pre.length=0):=by rw[Bool.eq_iff_iff];simp
  have lp:(pre++[x]).length=pre.length+1:=by simp
  have s1:zR false true [.str s,.int .i64 (pre.length:Int)]=some (.str pre):=by rw[zDB (by omega),he,List.take_left]
  have s2:zR true false [.str s,.int .i64 ((pre++[x]).length:Int)]=some (.str l):=by rw[zAt (by omega),he,show pre++x::l=(pre++[x])++l by simp,List.drop_left]
  have hlo:=hL pre (by omega)
  have step:∀ (fr':T V),schT pre (x::l)=schT (pre++[x]) l->fr'.get 0=some (.str s)->fr'.get 5=some (.int .i64 ((pre++[x]).length:Int)) ->
    zq (zAF c N) m ⟨fr',H⟩ Z (zW 0 (seqK (zEy c N k) (endK [(.t 2),(.t 3),(.t 4)] k)))=k (schV (schT pre (x::l))) H Z:=fun fr' he' g0 g5=>by
   rw[he']
   exact ih (pre++[x]) fr' Z m k (by rw[he];simp) (by simp at hm;omega) g0 g5
  rw[zI]
  by_cases d1:x.toNat=58
  ·by_cases p0:pre.length=0
   ·have hlt:letB x.toNat=false:=by rw[d1];rfl
    have hres:schT pre (x::l)=none:=by rw[schT,if_neg (fun h=>h.2 p0),if_neg (fun h=>h.elim (fun h=>by rw[hlt]at h;exact absurd h (by decide)) (fun h=>h.1 p0))]
    rw[hres]
    simp only[zAF,zA f0,zA f5,zO,zB,zL,e1,zF,e2,zU,eq,decide_eq_true d1,zAB,retK,zN,zY,z1,decide_eq_true p0,Bool.not_true,zJ,cond_true,zD,hT _ H Z,hlt,zg,Bool.not_false,z2,zh,zX]
    rfl
   ·have hres:schT pre (x::l)=some (lower pre,l):=by rw[schT,if_pos ⟨d1,p0⟩]
    rw[hres]
    simp only[zAF,zA f0,zA f5,zO,zB,zL,e1,zF,e2,zU,eq,decide_eq_true d1,zAB,retK,zN,zY,z1,decide_eq_false p0,Bool.not_false,zJ,cond_true,s1,hlo H Z,zS .i64,e3,s2]
    rfl
  ·cases hlt:letB x.toNat with
   | true =>
    have hres:schT pre (x::l)=schT (pre++[x]) l:=by rw[schT,if_neg (fun h=>d1 h.1),if_pos (.inl hlt)]
    simp only[zAF,zA f0,zA f5,zO,zB,zL,e1,zF,e2,zU,eq,decide_eq_false d1,ze,zX,zJ,cond_false,zD,hT _ H Z,hlt,zg,Bool.not_true,zS .i64,e3]
    exact step _ hres (by simp[T.get_set]) (by simp[T.get_set])
   | false =>
    by_cases p0:pre.length=0
    ·have hres:schT pre (x::l)=none:=by rw[schT,if_neg (fun h=>d1 h.1),if_neg (fun h=>h.elim (fun h=>by rw[hlt]at h;exact absurd h (by decide)) (fun h=>h.1 p0))]
     rw[hres]
     simp only[zAF,zA f0,zA f5,zO,zB,zL,e1,zF,e2,zU,eq,decide_eq_false d1,ze,zX,zJ,cond_false,cond_true,zD,hT _ H Z,hlt,zg,Bool.not_false,zAB,retK,zN,z2,decide_eq_true p0,zh,zX]
     rfl
    ·cases hdg:digB x.toNat with
     | true =>
      have hres:schT pre (x::l)=schT (pre++[x]) l:=by rw[schT,if_neg (fun h=>d1 h.1),if_pos (.inr ⟨p0,.inl hdg⟩)]
      simp only[zAF,zA f0,zA f5,zO,zB,zL,e1,zF,e2,zU,eq,decide_eq_false d1,ze,zX,zJ,cond_false,cond_true,zD,hT _ H Z,hlt,zg,Bool.not_false,Bool.not_true,zAB,zu,retK,zN,z2,decide_eq_false p0,hD _ H Z,hdg,zS .i64,e3]
      exact step _ hres (by simp[T.get_set]) (by simp[T.get_set])
     | false =>
      by_cases a1:x.toNat=43
      ·have hres:schT pre (x::l)=schT (pre++[x]) l:=by rw[schT,if_neg (fun h=>d1 h.1),if_pos (.inr ⟨p0,.inr (by rw[a1];rfl)⟩)]
       simp only[zAF,zA f0,zA f5,zO,zB,zL,e1,zF,e2,zU,zAM,eq,ne,decide_eq_false d1,decide_eq_true a1,ze,zX,zJ,cond_false,cond_true,zD,hT _ H Z,hlt,zg,Bool.not_false,Bool.not_true,zAB,zu,retK,zN,z2,decide_eq_false p0,hD _ H Z,hdg,zS .i64,e3]
       exact step _ hres (by simp[T.get_set]) (by simp[T.get_set])
      ·by_cases a2:x.toNat=45
       ·have hres:schT pre (x::l)=schT (pre++[x]) l:=by rw[schT,if_neg (fun h=>d1 h.1),if_pos (.inr ⟨p0,.inr (by rw[a2];rfl)⟩)]
        simp only[zAF,zA f0,zA f5,zO,zB,zL,e1,zF,e2,zU,zAM,eq,ne,decide_eq_false d1,decide_eq_false a1,decide_eq_true a2,ze,zX,zJ,cond_false,cond_true,zD,hT _ H Z,hlt,zg,Bool.not_false,Bool.not_true,zAB,zu,retK,zN,z2,decide_eq_false p0,hD _ H Z,hdg,zS .i64,e3]
        exact step _ hres (by simp[T.get_set]) (by simp[T.get_set])
       ·by_cases a3:x.toNat=46
        ·have hres:schT pre (x::l)=schT (pre++[x]) l:=by rw[schT,if_neg (fun h=>d1 h.1),if_pos (.inr ⟨p0,.inr (by rw[a3];rfl)⟩)]
         simp only[zAF,zA f0,zA f5,zO,zB,zL,e1,zF,e2,zU,zAM,eq,ne,decide_eq_false d1,decide_eq_false a1,decide_eq_false a2,decide_eq_true a3,ze,zX,zJ,cond_false,cond_true,zD,hT _ H Z,hlt,zg,Bool.not_false,Bool.not_true,zAB,zu,retK,zN,z2,decide_eq_false p0,hD _ H Z,hdg,zS .i64,e3]
         exact step _ hres (by simp[T.get_set]) (by simp[T.get_set])
        ·have hres:schT pre (x::l)=none:=by
          have hp:plusB x.toNat=false:=by unfold plusB;rw[decide_eq_false a1,decide_eq_false a2,decide_eq_false a3];rfl
          rw[schT,if_neg (fun h=>d1 h.1),if_neg]
          rintro(h | ⟨_,h | h⟩)
          ·rw[hlt]at h;exact absurd h (by decide)
          ·rw[hdg]at h;exact absurd h (by decide)
          ·rw[hp]at h;exact absurd h (by decide)
         rw[hres]
         simp only[zAF,zA f0,zA f5,zO,zB,zL,e1,zF,e2,zU,zAM,eq,ne,decide_eq_false d1,decide_eq_false a1,decide_eq_false a2,decide_eq_false a3,ze,zX,zJ,cond_false,cond_true,zD,hT _ H Z,hlt,zg,Bool.not_false,Bool.not_true,zAB,zu,retK,zN,z2,decide_eq_false p0,hD _ H Z,hdg]
         rfl
abbrev SchOk (c:zG):Prop:=∀ (s:Bs),s.length<=1000000->∀ H Z q,c zHs [.str s] H Z q=q (schV (schT [] s)) H Z
theorem zPT (c:zG){N:Nat}(hN:9223372036854775807<=N)(hL:zQg c)(hT:LetOk1 c)(hD:zRg c)(s:Bs)(hs:s.length<=1000000)(H:Heap)(Z:Tape)(q:KV):zHz c N (.str s) H Z q=q (schV (schT [] s)) H Z:=by
 simp only[zHz]
 exact l_scheme c N hL hT hD s hs H s [] _ Z N q rfl (by omega) (by simp[T.get_set]) (by simp[T.get_set])
theorem l_slashes (c:zG)(N:Nat){B id e m:Nat}(l:Bs) :
  ∀ (pre:Bs) (n:Nat) (fr:T V) (H:Heap) (Z:Tape),WF H->Blk H B id (bv (pre++l))->(pre++l).length=m->m<=1000000->l.length<n ->
  fr.get 3=some (.sl id 0 m m (some e) 1)->fr.get 4=some (.int .i64 (pre.length:Int)) ->
  ∃ s' H',s'.length=m/\Blk H' B id (bv s')/\Gr B H H'/\∀ k,zq (zBr c N) n ⟨fr,H⟩ Z k=k (.exit 0) ⟨T.s .leaf 3 (.sl id 0 m m (some e) 1),H'⟩ Z:=by
 induction l with
 | nil =>
  intro pre n fr H Z hw hB hm hmb hn h3 h4
  obtain⟨n,rfl⟩:∃ j,n=j+1:=⟨n-1,by simp at hn;omega⟩
  refine⟨pre,H,by simpa using hm,by simpa using hB,Gr.refl' hw,fun k=>?_⟩
  have e1:decide ((pre.length:Int)<(m:Int))=false:=decide_eq_false (by simp at hm;omega)
  have pl:pLen [.sl id 0 m m (some e) 1]=some (.int .i64 (m:Int)):=rfl
  rw[zI]
  simp only[zBr,zA h3,zA h4,pl,zB,zL,e1,ze,zX,zJ,cond_false,zD]
  rfl
 | cons x l ih =>
  intro pre n fr H Z hw hB hm hmb hn h3 h4
  obtain⟨n,rfl⟩:∃ j,n=j+1:=⟨n-1,by simp at hn;omega⟩
  have hlt:pre.length<m:=by simp at hm;omega
  have e1:decide ((pre.length:Int)<(m:Int))=true:=decide_eq_true (by omega)
  have pl:pLen [.sl id 0 m m (some e) 1]=some (.int .i64 (m:Int)):=rfl
  have e2:zn 1 [.sl id 0 m m (some e) 1,.int .i64 (pre.length:Int)]=some (.ptr id pre.length):=by
   have:Nat.blt pre.length m=true:=by simp[Nat.blt];omega
   simp[zn,zBK,this]
  have e3:zf [.ptr id pre.length] H=some (.int .u8 (x.toNat:Int)):=zDQ hB.cells (by simp[bv])
  have e5:wr .i64 ((pre.length:Int)+Int.ofNat 1)=((pre++[x]).length:Int):=by rw[adI (by omega)];simp
  have eq:∀ k:Nat,((x.toNat:Int) == Int.ofNat k)=decide (x.toNat=k):=fun k=>by rw[Bool.eq_iff_iff];simp;omega
  have ne:∀ k:Nat,((x.toNat:Int) != Int.ofNat k)=!decide (x.toNat=k):=fun k=>by rw[Bool.eq_iff_iff];simp;omega
  by_cases q1:x.toNat=63
  ·refine⟨pre++x::l,H,by simpa using hm,hB,Gr.refl' hw,fun k=>?_⟩
   rw[zI]
   simp only[zBr,zA h3,zA h4,pl,zB,zL,e1,zAB,retK,zN,e2,e3,zAM,ne,decide_eq_true q1,Bool.not_true,zJ,cond_true,zD]
   rfl
  ·by_cases q2:x.toNat=92
   ·obtain⟨H1,k1,k2,k3,k4⟩:=hB.eStore hw pre.length (.int .u8 ((47:UInt8).toNat:Int)) 1 rfl (by simp[bv]) rfl Z
    have hcells:(bv (pre++x::l)).take pre.length++(V.int .u8 ((47:UInt8).toNat:Int)).cells++(bv (pre++x::l)).drop (pre.length+1)=bv ((pre++[47])++l):=by
     simp only[bv,List.map_append,List.map_cons]
     rw[List.take_append_of_le_length (by simp),List.take_of_length_le (by simp),List.drop_append]
     simp[V.cells]
    rw[hcells]at k2
    have lp:(pre++[x]).length=(pre++[(47:UInt8)]).length:=by simp
    rw[lp]at e5
    obtain⟨s',H',m0,m1,m2,m3⟩:=ih (pre++[47]) n (T.s (T.s (T.s (T.s (T.s .leaf 3 (.sl id 0 m m (some e) 1)) 4 (.int .i64 (pre.length:Int))) 18 (.int .i64 (pre.length:Int))) 19 (.int .i64 ((pre++[(47:UInt8)]).length:Int))) 4 (.int .i64 ((pre++[(47:UInt8)]).length:Int))) H1 Z k3.wf k2 (by simpa using hm) hmb (by simp at hn;omega) (by simp[T.get_set]) (by simp[T.get_set])
    refine⟨s',H',m0,m1,k3.trans m2 nl,fun k=>?_⟩
    have k1':eStore 1 [.ptr id pre.length,.int .u8 (.ofNat 47)] H Z=some (.tup [],H1,Z):=k1
    rw[zI]
    simp only[zBr,zA h3,zA h4,pl,zB,zL,e1,zAB,retK,zN,e2,e3,zAM,ne,decide_eq_false q1,Bool.not_false,zJ,cond_true,zF,zU,eq,decide_eq_true q2,k1',zER,zK,↓reduceIte,Nat.reduceEqDiff,zS .i64,e5,seqK]
    exact m3 k
   ·obtain⟨s',H',m0,m1,m2,m3⟩:=ih (pre++[x]) n (T.s (T.s (T.s (T.s (T.s .leaf 3 (.sl id 0 m m (some e) 1)) 4 (.int .i64 (pre.length:Int))) 18 (.int .i64 (pre.length:Int))) 19 (.int .i64 ((pre++[x]).length:Int))) 4 (.int .i64 ((pre++[x]).length:Int))) H Z hw (by simpa using hB) (by simpa using hm) hmb (by simp at hn;omega) (by simp[T.get_set]) (by simp[T.get_set])
    refine⟨s',H',m0,m1,m2,fun k=>?_⟩
    rw[zI]
    simp only[zBr,zA h3,zA h4,pl,zB,zL,e1,zAB,retK,zN,e2,e3,zAM,ne,decide_eq_false q1,Bool.not_false,zJ,cond_true,zF,zU,eq,decide_eq_false q2,zD,zER,zK,↓reduceIte,Nat.reduceEqDiff,zS .i64,e5,seqK]
    exact m3 k
abbrev SlaOk (c:zG):Prop:=∀ (s:Bs),s.length<=1000000->∀ {H:Heap},WF H->∀ Z,∃ s' H' Z',s'.length=s.length/\Gr H.size H H'/\∀ q,c zGs [.str s] H Z q=q (.str s') H' Z'
theorem zOb (c:zG){N:Nat}(hN:9223372036854775807<N)(s:Bs)(hs:s.length<=1000000){H:Heap}(hw:WF H)(Z:Tape) :
  ∃ s' H' Z',s'.length=s.length/\Gr H.size H H'/\∀ q,zGm c N (.str s) H Z q=q (.str s') H' Z':=by
 have hB:=Blk.new H (bv s) ((s.length+spare s.length (Z 0))*1) false (by rw[zQm];omega)
 have hG:=Gr.new hw (bv s) ((s.length+spare s.length (Z 0))*1) false
 obtain⟨s',H',m0,m1,m2,m3⟩:=l_slashes c N (e:=spare s.length (Z 0)) (m:=s.length) s [] N (T.s (T.s .leaf 3 (.sl H.size 0 s.length s.length (some (spare s.length (Z 0))) 1)) 4 (.int .i64 0)) _ Z.tail hG.wf (by simpa using hB) (by simp) (by omega) (by omega) (by simp[T.get_set]) (by rfl)
 refine⟨s',H',Z.tail,m0,hG.trans m2 nl,fun q=>?_⟩
 have e1:zBU [.str s] H Z=some (.sl H.size 0 s.length s.length (some (spare s.length (Z 0))) 1,H.new (bv s) ((s.length+spare s.length (Z 0))*1) false,Z.tail):=by
  simp only[zBU,Nat.ble_eq_true_of_le (show s.length<=140737488355328 by omega),cond_true,fresh]
  rfl
 have e2:zA6 [.sl H.size 0 s.length s.length (some (spare s.length (Z 0))) 1] H'=some (.str s'):=by
  have hl:(bv s').length=s.length:=by simp[bv,m0]
  simp only[zA6,zCj m1.cells (show 0+s.length<=_ by rw[hl];omega),List.drop_zero]
  rw[List.take_of_length_le (by rw[hl];omega)]
  simp[zJ3]
 simp only[zGm,e1,zN]
 refine(m3 _).trans ?_
 simp only[zW,Nat.beq_refl,cond_true,seqK,zJz,zK,↓reduceIte,e2,zB]
theorem l_dots (c:zG)(N:Nat)(hL:zQg c)(hB:zPr c):∀ (z:Nat) (s:Bs) (j:Nat) (fr:T V) (m:Nat),s.length=z->s.length<m->j+s.length<=1000000->fr.get 0=some (.str s)->fr.get 3=some (.int .i64 (j:Int)) ->
  ∃ n:Int,∀ (H:Heap) (Z:Tape) k,zq (zDY c N) m ⟨fr,H⟩ Z (zW 0 (seqK (zJb c N k) (endK [(.t 2)] k)))=k (.int .i64 n) H Z:=by
 intro z
 induction z using Nat.strongRecOn with
 | ind z ih =>
  intro s j fr m hz hm hj f0 f3
  obtain⟨m,rfl⟩:∃ j,m=j+1:=⟨m-1,by omega⟩
  cases s with
  | nil =>
   refine⟨j,fun H Z k=>?_⟩
   have e1:(!decide (([]:Bs)=[]))=false:=rfl
   rw[zI]
   simp only[zDY,zA f0,zA f3,zP,strne,decide_true,Bool.not_true,zB,zD,seqK,zW,Nat.beq_refl,cond_true,zJb,zK,↓reduceIte]
  | cons x s =>
   have e1:(!decide ((x::s:Bs)=[]))=true:=rfl
   have e2:zM [.str (x::s),(.int .i64 (.ofNat 0))]=some (.int .u8 (x.toNat:Int)):=zk (i:=0) rfl
   have eq:∀ k:Nat,((x.toNat:Int) == Int.ofNat k)=decide (x.toNat=k):=fun k=>by rw[Bool.eq_iff_iff];simp;omega
   have e3:wr .i64 ((j:Int)+Int.ofNat 1)=((j+1:Nat):Int):=by rw[adI (by omega)]
   have e4:zR true false [.str (x::s),(.int .i64 (.ofNat 1))]=some (.str s):=zAt (i:=1) (by simp)
   rw[List.length_cons]at hz hm hj
   by_cases d:x.toNat=46
   ·obtain⟨n,hn⟩:=ih s.length (by omega) s (j+1) (T.s (T.s (T.s (T.s (T.s .leaf 0 (.str s)) 3 (.int .i64 (j:Int))) 18 (.int .i64 (j:Int))) 19 (.int .i64 ((j+1:Nat):Int))) 3 (.int .i64 ((j+1:Nat):Int))) m rfl (by omega) (by omega) (by simp[T.get_set]) (by simp[T.get_set])
    refine⟨n,fun H Z k=>?_⟩
    rw[zI]
    simp only[zDY,zA f0,zA f3,zP,strne,e1,zF,e2,zB,zU,eq,decide_eq_true d,e4,zGk,zK,↓reduceIte,Nat.reduceEqDiff,zS .i64,e3,seqK]
    exact hn H Z k
   ·cases hb:begB (lower (x::s)) (bs [37,50,101])with
    | true =>
     have h3:3<=(x::s).length:=by have:=zMv hb;rw[zRe]at this;exact this
     have e5:zR true false [.str (x::s),(.int .i64 (.ofNat 3))]=some (.str ((x::s).drop 3)):=zAt (i:=3) h3
     have hd:((x::s).drop 3).length=(x::s).length-3:=by simp
     rw[List.length_cons]at h3 hd
     obtain⟨n,hn⟩:=ih ((x::s).drop 3).length (by omega) ((x::s).drop 3) (j+1) (T.s (T.s (T.s (T.s (T.s .leaf 0 (.str ((x::s).drop 3))) 3 (.int .i64 (j:Int))) 18 (.int .i64 (j:Int))) 19 (.int .i64 ((j+1:Nat):Int))) 3 (.int .i64 ((j+1:Nat):Int))) m rfl (by omega) (by omega) (by simp[T.get_set]) (by simp[T.get_set])
     refine⟨n,fun H Z k=>?_⟩
     rw[zI]
     simp only[zDY,zA f0,zA f3,zP,strne,e1,zF,e2,zB,zU,eq,decide_eq_false d,zD,hL (x::s) (by rw[List.length_cons];omega) H Z,hB _ _ H Z,hb,e5,zGk,zK,↓reduceIte,Nat.reduceEqDiff,zS .i64,e3,seqK]
     exact hn H Z k
    | false =>
     refine⟨0,fun H Z k=>?_⟩
     rw[zI]
     simp only[zDY,zA f0,zA f3,zP,strne,e1,zF,e2,zB,zU,eq,decide_eq_false d,zD,hL (x::s) (by rw[List.length_cons];omega) H Z,hB _ _ H Z,hb]
     rfl
abbrev DotOk (c:zG):Prop:=∀ (s:Bs),s.length<=1000000->∃ n:Int,∀ H Z q,c zK8 [.str s] H Z q=q (.int .i64 n) H Z
theorem zQN (c:zG){N:Nat}(hN:9223372036854775807<=N)(hL:zQg c)(hB:zPr c)(s:Bs)(hs:s.length<=1000000):∃ n:Int,∀ H Z q,zLB c N (.str s) H Z q=q (.int .i64 n) H Z:=by
 obtain⟨n,hn⟩:=l_dots c N hL hB s.length s 0 (T.s (T.s .leaf 0 (.str s)) 3 (.int .i64 (.ofNat 0))) N rfl (by omega) (by omega) (by simp[T.get_set]) (by simp[T.get_set])
 exact⟨n,fun H Z q=>by simp only[zLB];exact hn H Z q⟩
end Go.Am.X

namespace Go.Am.X
structure UR where
 sch:Bs
 us:Bs
 pa:Bs
 ho:Bs
 hh:Bool
 po:Int
 op:Bool
 pv:V
 qu:Bs
 fg:Bs
 hq:Bool
 hf:Bool
def UR.cs (u:UR):List V:=[.str u.sch,.str u.us,.str u.pa,.str u.ho,.bool u.hh,.int .i64 u.po,.bool u.op,u.pv,.str u.qu,.str u.fg,.bool u.hq,.bool u.hf]
theorem ur_len (u:UR):u.cs.length=12:=rfl
theorem zF5 {H:Heap}{i:Nat}{u u':UR}(h:Bx H i u.cs)(hw:WF H)(k:Nat)(x:V)(hx:x.cells=[x])(hs:x.scal=true)(hk:k<12)(e:u.cs.take k++[x]++u.cs.drop (k+1)=u'.cs)(Z:Tape) :
  ∃ H',eStore 1 [.ptr i (0+k),x] H Z=some (.tup [],H',Z)/\Bx H' i u'.cs/\Chg (fun j=>j=i) H H':=by
 obtain⟨H',k1,k2,k3⟩:=h.eStore hw k x 1 (by rw[hx];rfl) (by rw[ur_len];omega) (by omega) (by rw[hx];simp[hs]) Z
 rw[hx,e]at k2
 exact⟨H',by rw[Nat.zero_add];exact k1,k2,k3.chg rfl⟩
theorem zGK {H:Heap}{i:Nat}{u:UR}(h:Bx H i u.cs)(k:Nat){v:V}(hv:u.cs[k]?=some v):zf [.ptr i (0+k)] H=some v:=by
 rw[Nat.zero_add];exact zDQ h.cells hv
theorem nkO (i o:Nat):zB2 [.ptr i o]=some (.ptr i o):=rfl
theorem faO (i o k:Nat):zQ k [.ptr i o]=some (.ptr i (o+k)):=rfl
theorem zAz {i:Nat}{H H' H2:Heap}(h:Chg (fun j=>j=i) H H')(k:Chg (fun j=>j=i) H' H2):Chg (fun j=>j=i) H H2:=h.trans k fun _ _ h=>h
theorem zQn {i:Nat}{H H':Heap}(h:Gr H.size H H'):Chg (fun j=>j=i) H H':=h.chg
theorem chk_two {H H':Heap}{p v:V}(h1:zf [p] H=some v)(h2:zf [p] H'=some v)(hs:same v v=true):zAZ [H,H'] (((.load none),[p],0,1)::[])=true:=by
 simp[zAZ,zGU,zRB,h1,h2,chk1,hs]
theorem intL_nonnegO:∀ (l:Bs) (v m:Int),0<=v->v<=zGy->intL l v=some m->0<=m:=by
 intro l
 induction l with
 | nil=>intro v m h0 _ h;cases h;exact h0
 | cons x l ih =>
  intro v m h0 h1 h
  rw[intL]at h
  split at h
  ·rename_i hx
   have:=zKU h0 h1 (d:=(x.toNat:Int)-48) (by omega) (by omega)
   exact ih _ _ this.1 this.2 h
  ·cases h
theorem intB_nonnegO (s:Bs):0<=(intB s).1:=by
 unfold intB
 cases h:intL s 0 with
 | none=>exact Int.le_refl _
 | some m=>exact intL_nonnegO s 0 m (Int.le_refl _) (by unfold zGy;omega) h
theorem zOE (x:UInt8):∀ (s a b:Bs),cutB x s=some (a,b)->a.length<=s.length/\b.length<=s.length:=by
 intro s
 induction s with
 | nil=>intro a b h;cases h
 | cons y s ih =>
  intro a b h
  rw[cutB]at h
  split at h
  ·cases h;simp
  ·cases hc:cutB x s with
   | none=>rw[hc]at h;cases h
   | some p =>
    rw[hc]at h
    obtain⟨a',b'⟩:=p
    have:=ih a' b' hc
    cases h
    simp only[List.length_cons]
    omega
theorem partV_ex (x:UInt8)(s:Bs):∃ a b ok,zNB x s=.tup [.str a,.str b,.bool ok]/\a.length<=s.length/\b.length<=s.length:=by
 unfold zNB
 cases h:cutB x s with
 | none=>exact⟨s,[],false,rfl,by omega,by simp⟩
 | some p =>
  obtain⟨a,b⟩:=p
  have:=zOE x s a b h
  exact⟨a,b,true,rfl,this.1,this.2⟩
def AtO (n:Nat)(a:Int):Prop:=a=-1∨∃ j:Nat,a=(j:Int)/\j<n
theorem l_at (c:zG)(N:Nat)(i:Nat)(s:Bs)(hs:s.length<=1000000):∀ (l pre:Bs) (aw:Int) (fr:T V) (m:Nat),s=pre++l->l.length<m->AtO s.length aw->fr.get 0=some (.ptr i 0)->fr.get 1=some (.str s)->fr.get 5=some (.int .i64 aw)->fr.get 6=some (.int .i64 (pre.length:Int)) ->
  ∃ a,AtO s.length a/\∀ (H:Heap) (Z:Tape) k,zq (zBz c N) m ⟨fr,H⟩ Z k=k (.exit 0) ⟨(T.s (T.s (T.s .leaf 0 (.ptr i 0)) 1 (.str s)) 5 (.int .i64 a)),H⟩ Z:=by
 intro l
 induction l with
 | nil =>
  intro pre aw fr m he hm ha f0 f1 f5 f6
  obtain⟨m,rfl⟩:∃ j,m=j+1:=⟨m-1,by omega⟩
  rw[List.append_nil]at he
  subst he
  have e1:decide ((s.length:Int)<(s.length:Int))=false:=decide_eq_false (by omega)
  refine⟨aw,ha,fun H Z k=>?_⟩
  rw[zI]
  simp only[zBz,zA f0,zA f1,zA f5,zA f6,zO,zB,zL,e1,zD]
  rfl
 | cons x l ih =>
  intro pre aw fr m he hm ha f0 f1 f5 f6
  obtain⟨m,rfl⟩:∃ j,m=j+1:=⟨m-1,by omega⟩
  have hl:pre.length<s.length:=by rw[he];simp
  have e1:decide ((pre.length:Int)<(s.length:Int))=true:=decide_eq_true (by omega)
  have e2:zM [.str s,.int .i64 (pre.length:Int)]=some (.int .u8 (x.toNat:Int)):=zk (by rw[he];simp)
  have e3:wr .i64 ((pre.length:Int)+Int.ofNat 1)=((pre++[x]).length:Int):=by rw[adI (by omega)];simp
  have eq:∀ k:Nat,((x.toNat:Int) == Int.ofNat k)=decide (x.toNat=k):=fun k=>by rw[Bool.eq_iff_iff];simp;omega
  by_cases d:x.toNat=64
  ·obtain⟨a,h1,h2⟩:=ih (pre++[x]) (pre.length:Int) (T.s (T.s (T.s (T.s (T.s (T.s (T.s .leaf 0 (.ptr i 0)) 1 (.str s)) 5 (.int .i64 (pre.length:Int))) 6 (.int .i64 (pre.length:Int))) 23 (.int .i64 (pre.length:Int))) 24 (.int .i64 ((pre++[x]).length:Int))) 6 (.int .i64 ((pre++[x]).length:Int))) m (by rw[he];simp) (by simp at hm;omega) (.inr ⟨_,rfl,hl⟩) (by simp[T.get_set]) (by simp[T.get_set]) (by simp[T.get_set]) (by simp[T.get_set])
   refine⟨a,h1,fun H Z k=>?_⟩
   rw[zI]
   simp only[zBz,zA f0,zA f1,zA f5,zA f6,zO,zB,zL,e1,zF,e2,zU,eq,decide_eq_true d,zDK,zK,↓reduceIte,Nat.reduceEqDiff,zS .i64,e3,seqK]
   exact h2 H Z k
  ·obtain⟨a,h1,h2⟩:=ih (pre++[x]) aw (T.s (T.s (T.s (T.s (T.s (T.s (T.s .leaf 0 (.ptr i 0)) 1 (.str s)) 5 (.int .i64 aw)) 6 (.int .i64 (pre.length:Int))) 23 (.int .i64 (pre.length:Int))) 24 (.int .i64 ((pre++[x]).length:Int))) 6 (.int .i64 ((pre++[x]).length:Int))) m (by rw[he];simp) (by simp at hm;omega) ha (by simp[T.get_set]) (by simp[T.get_set]) (by simp[T.get_set]) (by simp[T.get_set])
   refine⟨a,h1,fun H Z k=>?_⟩
   rw[zI]
   simp only[zBz,zA f0,zA f1,zA f5,zA f6,zO,zB,zL,e1,zF,e2,zU,eq,decide_eq_false d,zD,zDK,zK,↓reduceIte,Nat.reduceEqDiff,zS .i64,e3,seqK]
   exact h2 H Z k
theorem l_colon (c:zG)(N:Nat)(i:Nat)(s:Bs)(hs:s.length<=1000000):∀ (l pre:Bs) (aw:Int) (b:Bool) (fr:T V) (m:Nat),s=pre++l->l.length<m->AtO s.length aw->fr.get 0=some (.ptr i 0)->fr.get 1=some (.str s)->fr.get 10=some (.int .i64 aw)->fr.get 11=some (.bool b)->fr.get 12=some (.int .i64 (pre.length:Int)) ->
  ∃ a,AtO s.length a/\∀ (H:Heap) (Z:Tape) k,zq (zAO c N) m ⟨fr,H⟩ Z k=k (.exit 2) ⟨(T.s (T.s (T.s .leaf 0 (.ptr i 0)) 1 (.str s)) 10 (.int .i64 a)),H⟩ Z:=by
 intro l
 induction l with
 | nil =>
  intro pre aw b fr m he hm ha f0 f1 f10 f11 f12
  obtain⟨m,rfl⟩:∃ j,m=j+1:=⟨m-1,by omega⟩
  rw[List.append_nil]at he
  subst he
  have e1:decide ((s.length:Int)<(s.length:Int))=false:=decide_eq_false (by omega)
  refine⟨aw,ha,fun H Z k=>?_⟩
  rw[zI]
  simp only[zAO,zA f0,zA f1,zA f10,zA f11,zA f12,zO,zB,zL,e1,zD]
  rfl
 | cons x l ih =>
  intro pre aw b fr m he hm ha f0 f1 f10 f11 f12
  obtain⟨m,rfl⟩:∃ j,m=j+1:=⟨m-1,by omega⟩
  have hl:pre.length<s.length:=by rw[he];simp
  have e1:decide ((pre.length:Int)<(s.length:Int))=true:=decide_eq_true (by omega)
  have e2:zM [.str s,.int .i64 (pre.length:Int)]=some (.int .u8 (x.toNat:Int)):=zk (by rw[he];simp)
  have e3:wr .i64 ((pre.length:Int)+Int.ofNat 1)=((pre++[x]).length:Int):=by rw[adI (by omega)];simp
  have eq:∀ k:Nat,((x.toNat:Int) == Int.ofNat k)=decide (x.toNat=k):=fun k=>by rw[Bool.eq_iff_iff];simp;omega
  have go:∀ (at2:Int) (b2:Bool),AtO s.length at2->∃ a,AtO s.length a/\∀ (fr':T V) (H:Heap) (Z:Tape) k,fr'.get 0=some (.ptr i 0)->fr'.get 1=some (.str s)->fr'.get 10=some (.int .i64 at2)->fr'.get 11=some (.bool b2)->fr'.get 12=some (.int .i64 (pre.length:Int)) ->
    zAr c N (seqK (fun st Z=>zq (zAO c N) m st Z k) k) ⟨fr',H⟩ Z=k (.exit 2) ⟨(T.s (T.s (T.s .leaf 0 (.ptr i 0)) 1 (.str s)) 10 (.int .i64 a)),H⟩ Z:=fun at2 b2 h2=>by
   obtain⟨a,h1,h2⟩:=ih (pre++[x]) at2 b2 (T.s (T.s (T.s (T.s (T.s (T.s (T.s (T.s .leaf 0 (.ptr i 0)) 1 (.str s)) 10 (.int .i64 at2)) 11 (.bool b2)) 12 (.int .i64 (pre.length:Int))) 58 (.int .i64 (pre.length:Int))) 59 (.int .i64 ((pre++[x]).length:Int))) 12 (.int .i64 ((pre++[x]).length:Int))) m (by rw[he];simp) (by simp at hm;omega) h2 (by simp[T.get_set]) (by simp[T.get_set]) (by simp[T.get_set]) (by simp[T.get_set]) (by simp[T.get_set])
   refine⟨a,h1,fun fr' H Z k g0 g1 g10 g11 g12=>?_⟩
   simp only[zAr,zA g0,zA g1,zA g10,zA g11,zA g12,zS .i64,e3,seqK]
   exact h2 H Z k
  by_cases d1:x.toNat=91
  ·obtain⟨a,h1,h2⟩:=go aw true ha
   refine⟨a,h1,fun H Z k=>?_⟩
   rw[zI]
   simp only[zAO,zA f0,zA f1,zA f10,zA f11,zA f12,zO,zB,zL,e1,zF,e2,zU,eq,decide_eq_true d1]
   exact h2 _ H Z k (by simp[T.get_set]) (by simp[T.get_set]) (by simp[T.get_set]) (by simp[T.get_set]) (by simp[T.get_set])
  ·by_cases d2:x.toNat=93
   ·obtain⟨a,h1,h2⟩:=go aw false ha
    refine⟨a,h1,fun H Z k=>?_⟩
    rw[zI]
    simp only[zAO,zA f0,zA f1,zA f10,zA f11,zA f12,zO,zB,zL,e1,zF,e2,zU,eq,decide_eq_false d1,decide_eq_true d2,zD]
    exact h2 _ H Z k (by simp[T.get_set]) (by simp[T.get_set]) (by simp[T.get_set]) (by simp[T.get_set]) (by simp[T.get_set])
   ·by_cases d3:x.toNat=58
    ·cases b with
     | false =>
      obtain⟨a,h1,h2⟩:=go (pre.length:Int) false (.inr ⟨_,rfl,hl⟩)
      refine⟨a,h1,fun H Z k=>?_⟩
      rw[zI]
      simp only[zAO,zA f0,zA f1,zA f10,zA f11,zA f12,zO,zB,zL,e1,zF,e2,zU,eq,decide_eq_false d1,decide_eq_false d2,decide_eq_true d3,zD,zg,Bool.not_false]
      exact h2 _ H Z k (by simp[T.get_set]) (by simp[T.get_set]) (by simp[T.get_set]) (by simp[T.get_set]) (by simp[T.get_set])
     | true =>
      obtain⟨a,h1,h2⟩:=go aw true ha
      refine⟨a,h1,fun H Z k=>?_⟩
      rw[zI]
      simp only[zAO,zA f0,zA f1,zA f10,zA f11,zA f12,zO,zB,zL,e1,zF,e2,zU,eq,decide_eq_false d1,decide_eq_false d2,decide_eq_true d3,zD,zg,Bool.not_true]
      exact h2 _ H Z k (by simp[T.get_set]) (by simp[T.get_set]) (by simp[T.get_set]) (by simp[T.get_set]) (by simp[T.get_set])
    ·obtain⟨a,h1,h2⟩:=go aw b ha
     refine⟨a,h1,fun H Z k=>?_⟩
     rw[zI]
     simp only[zAO,zA f0,zA f1,zA f10,zA f11,zA f12,zO,zB,zL,e1,zF,e2,zU,eq,decide_eq_false d1,decide_eq_false d2,decide_eq_false d3,zD]
     exact h2 _ H Z k (by simp[T.get_set]) (by simp[T.get_set]) (by simp[T.get_set]) (by simp[T.get_set]) (by simp[T.get_set])
def AutU (u u':UR):Prop:=∃ us pa ho hh po,u'={ u with us:=us,pa:=pa,ho:=ho,hh:=hh,po:=po }/\(ho=u.ho∨ho.length<=2000000)/\(po=u.po∨-1<=po/\po<=65535)
theorem AutU.refl (u:UR):AutU u u:=⟨_,_,_,_,_,rfl,.inl rfl,.inl rfl⟩
theorem AutU.trans {a b c:UR}(h:AutU a b)(k:AutU b c):AutU a c:=by
 obtain⟨us,pa,ho,hh,po,rfl,h1,h2⟩:=h
 obtain⟨us',pa',ho',hh',po',rfl,k1,k2⟩:=k
 exact⟨us',pa',ho',hh',po',rfl,k1.elim (fun h=>h ▸ h1) .inr,k2.elim (fun h=>h ▸ h2) .inr⟩
def AutR (f:Heap->Tape->KV->Ans)(i:Nat)(u:UR)(H:Heap)(Z:Tape):Prop:=∃ (e:Int) (u':UR) (H':Heap) (Z':Tape),AutU u u'/\Bx H' i u'.cs/\Chg (fun j=>j=i) H H'/\∀ q,f H Z q=q (.int .i64 e) H' Z'
theorem AutR.step {f g:Heap->Tape->KV->Ans}{i:Nat}{u u1:UR}{H H1:Heap}{Z Z1:Tape}(hA:AutU u u1)(hC:Chg (fun j=>j=i) H H1)(h:AutR g i u1 H1 Z1)(e:∀ q,f H Z q=g H1 Z1 q):AutR f i u H Z:=by
 obtain⟨e',u',H',Z',h1,h2,h3,h4⟩:=h
 exact⟨e',u',H',Z',hA.trans h1,h2,zAz hC h3,fun q=>(e q).trans (h4 q)⟩
theorem aut_j3 (c:zG)(N:Nat)(hS:zRP c)(hH:HostOk c)(i:Nat)(u:UR)(s:Bs)(hs:s.length<=1000)(told:Bool)(fr:T V){H:Heap}(hw:WF H)(hB:Bx H i u.cs)(Z:Tape)(f0:fr.get 0=some (.ptr i 0))(f1:fr.get 1=some (.str s))(f13:fr.get 13=some (.bool told)) :
  AutR (fun H Z q=>zAD c N q ⟨fr,H⟩ Z) i u H Z:=by
 obtain⟨h,ok,H1,Z1,hh1,g1,k1⟩:=hH s hs (speT u.sch) hw Z
 have hi:=hB.lt hw
 have hB1:Bx H1 i u.cs:=hB.gr g1 hi
 have c1:=zQn (i:=i) g1
 have l0:=zGK hB 0 rfl
 have l1:=zGK hB1 1 rfl
 have l2:=zGK hB1 2 rfl
 have fin:∀ (f:Heap->Tape->KV->Ans),(∀ q,f H Z q=effK (eStore 1 [.ptr i (0+3),.str h] H1 Z1) fun v79 H80 Z81=>zC (zB2 [.ptr i 0]) fun v82=>zC (zQ 4 [v82]) fun v83=>effK (eStore 1 [v83,(.bool true)] H80 Z81) fun v84 H85 Z86=>q (.int .i64 (.ofNat 0)) H85 Z86)->AutR f i u H Z:=fun f hf=>by
  obtain⟨H2,a1,a2,a3⟩:=zF5 (u':={ u with ho:=h }) hB1 g1.wf 3 (.str h) rfl rfl (by omega) rfl Z1
  obtain⟨H3,b1,b2,b3⟩:=zF5 (u':={ u with ho:=h,hh:=true }) a2 a3.wf 4 (.bool true) rfl rfl (by omega) rfl Z1
  refine⟨.ofNat 0,_,H3,Z1,⟨u.us,u.pa,h,true,u.po,rfl,.inr hh1,.inl rfl⟩,b2,zAz c1 (zAz a3 b3),fun q=>?_⟩
  rw[hf]
  simp only[a1,zN,nkO,zB,faO,b1]
 have bad:∀ (f:Heap->Tape->KV->Ans),(∀ q,f H Z q=q (.int .i64 (.ofNat 10)) H1 Z1)->AutR f i u H Z:=fun f hf=>⟨.ofNat 10,u,H1,Z1,AutU.refl u,hB1,c1,fun q=>hf q⟩
 have pre:=fun(st:St)=>hS u.sch H Z
 cases ok with
 | false =>
  refine bad _ fun q=>?_
  simp only[zAD,zA f0,zA f1,zA f13,nkO,zB,faO,l0,hS u.sch H Z,k1,ext0,ext1,zg,Bool.not_false,zh,zX,zJ,cond_true,zF]
 | true =>
  by_cases e0:h=[]
  ·by_cases e1:u.us=[]
   ·by_cases e2:u.pa=[]
    ·cases told with
     | false =>
      refine fin _ fun q=>?_
      simp only[zAD,zA f0,zA f1,zA f13,nkO,zB,faO,l0,l1,l2,hS u.sch H Z,k1,ext0,ext1,zg,Bool.not_true,Bool.not_false,zu,zAB,ze,zh,zX,retK,zN,zP,streq,strne,decide_eq_true e0,decide_eq_true e1,decide_eq_true e2,zJ,cond_true,cond_false,zF,zD]
     | true =>
      refine bad _ fun q=>?_
      simp only[zAD,zA f0,zA f1,zA f13,nkO,zB,faO,l0,l1,l2,hS u.sch H Z,k1,ext0,ext1,zg,Bool.not_true,Bool.not_false,zu,zAB,ze,zh,zX,retK,zN,zP,streq,strne,decide_eq_true e0,decide_eq_true e1,decide_eq_true e2,zJ,cond_true,cond_false,zF,zD]
    ·refine bad _ fun q=>?_
     simp only[zAD,zA f0,zA f1,zA f13,nkO,zB,faO,l0,l1,l2,hS u.sch H Z,k1,ext0,ext1,zg,Bool.not_true,Bool.not_false,zu,zAB,ze,zh,zX,retK,zN,zP,streq,strne,decide_eq_true e0,decide_eq_true e1,decide_eq_false e2,zJ,cond_true,cond_false,zF,zD]
   ·refine bad _ fun q=>?_
    simp only[zAD,zA f0,zA f1,zA f13,nkO,zB,faO,l0,l1,l2,hS u.sch H Z,k1,ext0,ext1,zg,Bool.not_true,Bool.not_false,zu,zAB,ze,zh,zX,retK,zN,zP,streq,strne,decide_eq_true e0,decide_eq_false e1,zJ,cond_true,cond_false,zF,zD]
  ·refine fin _ fun q=>?_
   simp only[zAD,zA f0,zA f1,zA f13,nkO,zB,faO,l0,l1,l2,hS u.sch H Z,k1,ext0,ext1,zg,Bool.not_true,Bool.not_false,zu,zAB,ze,zh,zX,retK,zN,zP,streq,strne,decide_eq_false e0,zJ,cond_true,cond_false,zF,zD]
theorem aut_j2 (c:zG)(N:Nat)(hS:zRP c)(hH:HostOk c)(hI:zQB c)(hO:zQK c)(i:Nat)(u:UR)(s:Bs)(hs:s.length<=1000)(a:Int)(ha:AtO s.length a)(fr:T V){H:Heap}(hw:WF H)(hB:Bx H i u.cs)(Z:Tape)(f0:fr.get 0=some (.ptr i 0))(f1:fr.get 1=some (.str s))(f10:fr.get 10=some (.int .i64 a)) :
  AutR (fun H Z q=>zAb c N q ⟨fr,H⟩ Z) i u H Z:=by
 have neg1:(Int.negSucc 0)=-1:=rfl
 obtain⟨H1,a1,a2,a3⟩:=zF5 (u':={ u with po:=-1 }) hB hw 5 (.int .i64 (-1)) rfl rfl (by omega) rfl Z
 have au1:AutU u { u with po:=-1 }:=⟨_,_,_,_,_,rfl,.inl rfl,.inr ⟨by omega,by omega⟩⟩
 rcases ha with rfl | ⟨j,rfl,hj⟩
 ·refine AutR.step au1 a3 (aut_j3 c N hS hH i { u with po:=-1 } s hs false (T.s (T.s (T.s (T.s (T.s .leaf 0 (.ptr i 0)) 1 (.str s)) 10 (.int .i64 (-1))) 13 (.bool false)) 76 (.bool false)) a3.wf a2 Z (by simp[T.get_set]) (by simp[T.get_set]) (by simp[T.get_set])) fun q=>?_
  have e0:decide (Int.ofNat 0<=(-1:Int))=false:=rfl
  simp only[zAb,zA f0,zA f1,zA f10,nkO,zB,faO,neg1,a1,zN,zi,e0,zD]
 ·have e0:decide (Int.ofNat 0<=(j:Int))=true:=decide_eq_true (by have:Int.ofNat 0=0:=rfl;omega)
  have e3:wr .i64 ((j:Int)+Int.ofNat 1)=((j+1:Nat):Int):=by rw[adI (by omega)]
  have s1:zR true false [.str s,.int .i64 ((j+1:Nat):Int)]=some (.str (s.drop (j+1))):=zAt (by omega)
  have s2:zR false true [.str s,.int .i64 (j:Int)]=some (.str (s.take j)):=zDB (by omega)
  have hd:(s.drop (j+1)).length<=1000:=by rw[List.length_drop];omega
  have ht:(s.take j).length<=1000:=by rw[List.length_take];omega
  generalize s.drop (j+1)=p at s1 hd
  generalize s.take j=s' at s2 ht
  by_cases e4:p=[]
  ·refine AutR.step au1 a3 (aut_j3 c N hS hH i { u with po:=-1 } s' ht false (T.s (T.s (T.s (T.s (T.s .leaf 0 (.ptr i 0)) 1 (.str s')) 13 (.bool false)) 14 (.str p)) 85 (.bool false)) a3.wf a2 Z (by simp[T.get_set]) (by simp[T.get_set]) (by simp[T.get_set])) fun q=>?_
   simp only[zAb,zA f0,zA f1,zA f10,nkO,zB,faO,neg1,a1,zN,zi,e0,zF,zS .i64,e3,s1,s2,zP,strne,decide_eq_true e4,Bool.not_true,zD]
  ·have hn:=intB_nonnegO p
   have ki:=hI p (by omega)
   rcases hv:intB p with⟨n,ok⟩
   rw[hv]at hn
   have hv':intV p=.tup [.int .i64 n,.bool ok]:=by show V.tup [.int .i64 (intB p).1,.bool (intB p).2]=_;rw[hv]
   rw[hv']at ki
   have bad:∀ (f:Heap->Tape->KV->Ans),(∀ q,f H Z q=q (.int .i64 (.ofNat 11)) H1 Z)->AutR f i u H Z:=fun f hf=>⟨.ofNat 11,_,H1,Z,au1,a2,a3,fun q=>hf q⟩
   cases ok with
   | false =>
    refine bad _ fun q=>?_
    simp only[zAb,zA f0,zA f1,zA f10,nkO,zB,faO,neg1,a1,zN,zi,e0,zF,zS .i64,e3,s1,s2,zP,strne,decide_eq_false e4,Bool.not_false,ki H1 Z,ext0,ext1,zg,zh,zX,zJ,cond_true]
   | true =>
    by_cases e5:65535<n
    ·have e6:decide (Int.ofNat 65535<n)=true:=decide_eq_true e5
     refine bad _ fun q=>?_
     simp only[zAb,zA f0,zA f1,zA f10,nkO,zB,faO,neg1,a1,zN,zi,e0,zF,zS .i64,e3,s1,s2,zP,strne,decide_eq_false e4,Bool.not_false,Bool.not_true,ki H1 Z,ext0,ext1,zg,zu,retK,zY,e6,zJ,cond_false]
    ·have e6:decide (Int.ofNat 65535<n)=false:=decide_eq_false e5
     obtain⟨H2,b1,b2,b3⟩:=zF5 (u':={ u with po:=n }) a2 a3.wf 5 (.int .i64 n) rfl rfl (by omega) rfl Z
     have au2:AutU u { u with po:=n }:=⟨_,_,_,_,_,rfl,.inl rfl,.inr ⟨by simp at hn;omega,by omega⟩⟩
     have l0:=zGK b2 0 rfl
     have l5:=zGK b2 5 rfl
     have ck:=chk_two l5 l5 (show same (V.int .i64 n) (V.int .i64 n)=true by simp[same,zRJ,zOy])
     by_cases e7:n=ownT u.sch
     ·have e8:(n == ownT u.sch)=true:=by rw[beq_iff_eq];exact e7
      obtain⟨H3,d1,d2,d3⟩:=zF5 (u':={ u with po:=-1 }) b2 b3.wf 5 (.int .i64 (-1)) rfl rfl (by omega) rfl Z
      refine AutR.step au1 (zAz a3 (zAz b3 d3)) (aut_j3 c N hS hH i { u with po:=-1 } s' ht true (T.s (T.s (T.s (T.s (T.s (T.s (T.s .leaf 0 (.ptr i 0)) 1 (.str s')) 13 (.bool true)) 110 (.bool true)) 111 (.ptr i 0)) 112 (.ptr i 0)) 113 (.ptr i (0+5))) d3.wf d2 Z (by simp[T.get_set]) (by simp[T.get_set]) (by simp[T.get_set])) fun q=>?_
      simp only[zAb,zA f0,zA f1,zA f10,nkO,zB,faO,neg1,a1,zN,zi,e0,zF,zS .i64,e3,s1,s2,zP,strne,decide_eq_false e4,Bool.not_false,Bool.not_true,ki H1 Z,ext0,ext1,zg,zu,retK,zY,e6,zJ,cond_false,zD,b1,l5,l0,hO u.sch H2 Z,zU,e8,ck,cond_true,d1]
     ·have e8:(n == ownT u.sch)=false:=by rw[beq_eq_false_iff_ne];exact e7
      refine AutR.step au2 (zAz a3 b3) (aut_j3 c N hS hH i { u with po:=n } s' ht true (T.s (T.s (T.s (T.s .leaf 0 (.ptr i 0)) 1 (.str s')) 13 (.bool true)) 110 (.bool false)) b3.wf b2 Z (by simp[T.get_set]) (by simp[T.get_set]) (by simp[T.get_set])) fun q=>?_
      simp only[zAb,zA f0,zA f1,zA f10,nkO,zB,faO,neg1,a1,zN,zi,e0,zF,zS .i64,e3,s1,s2,zP,strne,decide_eq_false e4,Bool.not_false,Bool.not_true,ki H1 Z,ext0,ext1,zg,zu,retK,zY,e6,zJ,cond_false,zD,b1,l5,l0,hO u.sch H2 Z,zU,e8,ck,cond_true]
theorem aut_j1 (c:zG){N:Nat}(hN:9223372036854775807<=N)(hS:zRP c)(hH:HostOk c)(hI:zQB c)(hO:zQK c)(i:Nat)(u:UR)(s:Bs)(hs:s.length<=1000)(fr:T V){H:Heap}(hw:WF H)(hB:Bx H i u.cs)(Z:Tape)(f0:fr.get 0=some (.ptr i 0))(f1:fr.get 1=some (.str s)) :
  AutR (fun H Z q=>zDM c N q ⟨fr,H⟩ Z) i u H Z:=by
 obtain⟨a,h1,h2⟩:=l_colon c N i s (by omega) s [] (-1) false (T.s (T.s (T.s (T.s (T.s .leaf 0 (.ptr i 0)) 1 (.str s)) 10 (.int .i64 (.negSucc 0))) 11 (.bool false)) 12 (.int .i64 (.ofNat 0))) N rfl (by omega) (.inl rfl) (by simp[T.get_set]) (by simp[T.get_set]) (by rfl) (by simp[T.get_set]) (by rfl)
 refine AutR.step (AutU.refl u) (Chg.refl hw) (aut_j2 c N hS hH hI hO i u s hs a h1 (T.s (T.s (T.s .leaf 0 (.ptr i 0)) 1 (.str s)) 10 (.int .i64 a)) hw hB Z (by simp[T.get_set]) (by simp[T.get_set]) (by simp[T.get_set])) fun q=>?_
 simp only[zDM,zA f0,zA f1]
 rw[h2]
 simp only[zW,Nat.beq_refl,cond_true,seqK]
abbrev AutOk (c:zG):Prop:=∀ (s:Bs),s.length<=1000->∀ (i:Nat) (u:UR) {H:Heap},WF H->Bx H i u.cs->∀ Z,AutR (c zE0 [.ptr i 0,.str s]) i u H Z
theorem zNA (c:zG){N:Nat}(hN:9223372036854775807<=N)(hS:zRP c)(hH:HostOk c)(hI:zQB c)(hO:zQK c)(hP:PartOk c)(hQ:zSH c)(s:Bs)(hs:s.length<=1000)(i:Nat)(u:UR){H:Heap}(hw:WF H)(hB:Bx H i u.cs)(Z:Tape) :
  AutR (zDR c N (.ptr i 0) (.str s)) i u H Z:=by
 obtain⟨a,h1,h2⟩:=l_at c N i s (by omega) s [] (-1) (T.s (T.s (T.s (T.s .leaf 0 (.ptr i 0)) 1 (.str s)) 5 (.int .i64 (.negSucc 0))) 6 (.int .i64 (.ofNat 0))) N rfl (by omega) (.inl rfl) (by simp[T.get_set]) (by simp[T.get_set]) (by rfl) (by rfl)
 rcases h1 with rfl | ⟨j,rfl,hj⟩
 ·refine AutR.step (AutU.refl u) (Chg.refl hw) (aut_j1 c hN hS hH hI hO i u s hs (T.s (T.s (T.s (T.s .leaf 0 (.ptr i 0)) 1 (.str s)) 5 (.int .i64 (-1))) 31 (.bool false)) hw hB Z (by simp[T.get_set]) (by simp[T.get_set])) fun q=>?_
  have e0:decide (Int.ofNat 0<=(-1:Int))=false:=rfl
  simp only[zDR]
  rw[h2]
  simp only[zW,Nat.beq_refl,cond_true,seqK,zE4,zK,↓reduceIte,Nat.reduceEqDiff,zi,e0,zD]
 ·have e0:decide (Int.ofNat 0<=(j:Int))=true:=decide_eq_true (by have:Int.ofNat 0=0:=rfl;omega)
  have e3:wr .i64 ((j:Int)+Int.ofNat 1)=((j+1:Nat):Int):=by rw[adI (by omega)]
  have s1:zR true false [.str s,.int .i64 ((j+1:Nat):Int)]=some (.str (s.drop (j+1))):=zAt (by omega)
  have s2:zR false true [.str s,.int .i64 (j:Int)]=some (.str (s.take j)):=zDB (by omega)
  have hd:(s.drop (j+1)).length<=1000:=by rw[List.length_drop];omega
  have ht:(s.take j).length<=1000:=by rw[List.length_take];omega
  generalize s.drop (j+1)=p at s1 hd
  generalize s.take j=s' at s2 ht
  obtain⟨x,y,ok,hx,hx1,hx2⟩:=partV_ex 58 s'
  have kp:=hP s' 58 (by omega) (by omega)
  rw[show UInt8.ofNat 58=(58:UInt8)from rfl,hx]at kp
  have kx:=hQ x (by omega) 6 (by omega) (by omega)
  have ky:=hQ y (by omega) 6 (by omega) (by omega)
  obtain⟨H1,a1,a2,a3⟩:=zF5 (u':={ u with us:=pctT 6 x }) hB hw 1 (.str (pctT 6 x)) rfl rfl (by omega) rfl Z
  obtain⟨H2,b1,b2,b3⟩:=zF5 (u':={ u with us:=pctT 6 x,pa:=pctT 6 y }) a2 a3.wf 2 (.str (pctT 6 y)) rfl rfl (by omega) rfl Z
  refine AutR.step ⟨_,_,_,_,_,rfl,.inl rfl,.inl rfl⟩ (zAz a3 b3) (aut_j1 c hN hS hH hI hO i { u with us:=pctT 6 x,pa:=pctT 6 y } p hd (T.s (T.s (T.s (T.s (T.s (T.s (T.s (T.s .leaf 0 (.ptr i 0)) 1 (.str s)) 5 (.int .i64 (j:Int))) 50 (.str s)) 51 (.int .i64 (j:Int))) 52 (.int .i64 ((j+1:Nat):Int))) 53 (.str p)) 1 (.str p)) b3.wf b2 Z (by simp[T.get_set]) (by simp[T.get_set])) fun q=>?_
  simp only[zDR]
  rw[h2]
  have kx':∀ H Z q,c zz [.str x,.int .i64 (.ofNat 6)] H Z q=q (.str (pctT 6 x)) H Z:=kx
  have ky':∀ H Z q,c zz [.str y,.int .i64 (.ofNat 6)] H Z q=q (.str (pctT 6 y)) H Z:=ky
  simp only[zW,Nat.beq_refl,cond_true,seqK,zE4,zK,↓reduceIte,Nat.reduceEqDiff,zi,e0,zF,s2,zB,kp H Z,zGZ,zGW,zGa,kx' H Z,nkO,faO,a1,zN,ky' H1 Z,b1,zS .i64,e3,s1]
end Go.Am.X

