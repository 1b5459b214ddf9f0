/- The abstract machine, printed functions of the program, and what they are shown to be. -/
import Derived.Test.YtejpgcemblankaaDoorIMAL9
import Derived.Test.YtejpgcemblankaaDoorIMAL1
import Derived.Test.YtejpgcemblankaaDoorIMAM4
import Derived.Test.YtejpgcemblankaaDoorIMAL3
set_option linter.unusedSimpArgs false
set_option linter.unusedVariables false
set_option linter.unusedSectionVars false
set_option maxRecDepth 100000
namespace Go.Am.X
def diffT:Nat->List Nat->List Nat->Nat
 | d,a::la,b::lb=>diffT (lorT .u8 d (xorT .u8 a b)) la lb
 | d,_,_=>d
theorem p8:pow2 .u8=2 ^ 8:=by decide
theorem lor8 {a b:Nat}(ha:a<256)(hb:b<256):lorT .u8 a b=a ||| b:=by
 unfold lorT;rw[p8,Nat.mod_eq_of_lt (show a<2 ^ 8 by omega),Nat.mod_eq_of_lt (show b<2 ^ 8 by omega)]
 exact Nat.mod_eq_of_lt (Nat.or_lt_two_pow (show a<2 ^ 8 by omega) (show b<2 ^ 8 by omega))
theorem xor8 {a b:Nat}(ha:a<256)(hb:b<256):xorT .u8 a b=a ^^^ b:=by
 unfold xorT;rw[p8,Nat.mod_eq_of_lt (show a<2 ^ 8 by omega),Nat.mod_eq_of_lt (show b<2 ^ 8 by omega)]
 exact Nat.mod_eq_of_lt (Nat.xor_lt_two_pow (show a<2 ^ 8 by omega) (show b<2 ^ 8 by omega))
theorem xor_zero_iff (a b:Nat):a ^^^ b=0 ↔ a=b:=by
 constructor
 ·intro h
  have h1:(a ^^^ b) ^^^ b=a:=by rw[Nat.xor_assoc,Nat.xor_self,Nat.xor_zero]
  rw[h,Nat.zero_xor]at h1
  exact h1.symm
 ·intro h;rw[h,Nat.xor_self]
theorem diff_zero:∀ (la lb:List Nat) (d:Nat),la.length=lb.length->(∀ x ∈ la,x<256)->(∀ x ∈ lb,x<256)->d<256->(diffT d la lb=0 ↔ d=0/\la=lb):=by
 intro la
 induction la with
 | nil =>
  intro lb d h _ _ _
  have:lb=[]:=List.eq_nil_of_length_eq_zero (by rw[<- h];rfl)
  subst this;simp[diffT]
 | cons a la ih =>
  intro lb d h ha hb hd
  cases lb with
  | nil=>simp at h
  | cons b lb =>
   have a1:=ha a (by simp)
   have b1:=hb b (by simp)
   have hx:a ^^^ b<256:=Nat.xor_lt_two_pow (n:=8) a1 b1
   rw[diffT,xor8 a1 b1,lor8 hd hx,ih lb _ (by simpa using h) (fun x hx=>ha x (by simp[hx])) (fun x hx=>hb x (by simp[hx])) (Nat.or_lt_two_pow (n:=8) hd hx)]
   rw[Nat.or_eq_zero_iff,xor_zero_iff]
   simp only[List.cons.injEq]
   exact⟨fun⟨⟨h1,h2⟩,h3⟩=>⟨h1,h2,h3⟩,fun⟨h1,h2,h3⟩=>⟨⟨h1,h2⟩,h3⟩⟩
theorem zRv (c:zD)(N:Nat)(a b:V)(la lb:List Nat)(hlen:la.length<1000000)(H:Heap)(ha:Rd H 1 a la.length (ws .u8 la))(hb:Rd H 1 b lb.length (ws .u8 lb))(heq:la.length=lb.length) :
  ∀ (l1 l2 pre1 pre2:List Nat) (d:Nat) (fr:T V) (Z:Tape) (m:Nat),la=pre1++l1->lb=pre2++l2->pre1.length=pre2.length->l1.length<m->fr.get 0=some a->fr.get 1=some b->fr.get 5=some (.int .u8 (d:Int))->fr.get 13=some (.int .i64 (la.length:Int))->fr.get 14=some (.int .i64 (pre1.length:Int)) ->
  ∀ k,zW (zGq c N) m ⟨fr,H⟩ Z k=k (.exit 0) ⟨(T.s .leaf 5 (.int .u8 ((diffT d l1 l2:Nat):Int))),H⟩ Z:=by
 intro l1
 induction l1 with
 | nil =>
  intro l2 pre1 pre2 d fr Z m h1 h2 hp hm f0 f1 f5 f13 f14 k
  obtain⟨m,rfl⟩:∃ j,m=j+1:=⟨m-1,by omega⟩
  have e1:decide ((pre1.length:Int)<(la.length:Int))=false:=decide_eq_false (by rw[h1];simp)
  have ed:diffT d [] l2=d:=by cases l2 <;> rfl
  rw[zC,ed]
  simp only[zGq,zA f0,zA f1,zA f5,zA f13,zA f14,zI,e1,zM]
  rfl
 | cons x l1 ih =>
  intro l2 pre1 pre2 d fr Z m h1 h2 hp hm f0 f1 f5 f13 f14 k
  obtain⟨m,rfl⟩:∃ j,m=j+1:=⟨m-1,by omega⟩
  cases l2 with
  | nil =>
   exfalso
   have q1:=congrArg List.length h1
   have q2:=congrArg List.length h2
   simp at q1 q2;omega
  | cons y l2 =>
   have e1:decide ((pre1.length:Int)<(la.length:Int))=true:=decide_eq_true (by rw[h1];simp;omega)
   obtain⟨p,p1,p2⟩:=ha.elem1 (i:=pre1.length) (x:=.int .u8 (x:Int)) (by rw[h1];simp[ws])
   obtain⟨p',p3,p4⟩:=hb.elem1 (i:=pre1.length) (x:=.int .u8 (y:Int)) (by rw[h2,hp];simp[ws])
   have hl:pre1.length<la.length:=by rw[h1];simp
   have e3:wr .i64 ((pre1.length:Int)+Int.ofNat 1)=((pre1++[x]).length:Int):=by
    rw[zAZ (by simp;omega) (by simp;omega)];simp
   have xorE:∀ (q:V->Ans) (x y:Nat),binK .xor (.int .u8 (x:Int)) (.int .u8 (y:Int)) q=q (.int .u8 ((xorT .u8 x y:Nat):Int)):=fun q x y=>zR6 uk8 x y q
   have lorE:∀ (q:V->Ans) (x y:Nat),binK .or (.int .u8 (x:Int)) (.int .u8 (y:Int)) q=q (.int .u8 ((lorT .u8 x y:Nat):Int)):=fun q x y=>u_or uk8 x y q
   rw[zC]
   simp only[zGq,zA f0,zA f1,zA f5,zA f13,zA f14,zI,e1,zO,p1,p2,p3,p4,zK,xorE,lorE,zQ,e3]
   exact ih l2 (pre1++[x]) (pre2++[y]) (lorT .u8 d (xorT .u8 x y)) _ Z m (by rw[h1];simp) (by rw[h2];simp) (by simp[hp]) (by simp at hm;omega) (by rfl) (by rfl) (by rfl) (by rfl) (by rfl) k
theorem zP3 (c:zD)(N:Nat)(hN:9223372036854775807<=N)(a b:V)(la lb:List Nat)(hlen:la.length<1000000)(hla:∀ x ∈ la,x<256)(hlb:∀ x ∈ lb,x<256)(H:Heap)(ha:Rd H 1 a la.length (ws .u8 la))(hb:Rd H 1 b lb.length (ws .u8 lb))(Z:Tape)(q:KV) :
  zHg c N a b H Z q=q (.bool (decide (la=lb))) H Z:=by
 by_cases heq:la.length=lb.length
 ·have e2:((la.length:Int) !=(lb.length:Int))=false:=by simp;omega
  simp only[zHg,ha.pLen,hb.pLen,zK,zCV,e2,zM]
  rw[zRv c N a b la lb hlen H ha hb heq la lb [] [] 0 _ Z N rfl rfl rfl (by omega) (by rfl) (by rfl) (by rfl) (by rfl) (by rfl)]
  have hz:=diff_zero la lb 0 heq hla hlb (by omega)
  have e3:(((diffT 0 la lb:Nat):Int) == Int.ofNat 0)=decide (la=lb):=by
   rw[Bool.eq_iff_iff,beq_iff_eq,decide_eq_true_iff]
   constructor
   ·intro h;exact(hz.1 (Int.ofNat.inj h)).2
   ·intro h
    rw[hz.2 ⟨rfl,h⟩];rfl
  simp only[zP,Nat.beq_refl,cond_true,seqK,zMY,zJ,↓reduceIte,zZ,e3]
 ·have e2:((la.length:Int) !=(lb.length:Int))=true:=by simp;omega
  have h:¬ la=lb:=fun h=>heq (by rw[h])
  simp only[zHg,ha.pLen,hb.pLen,zK,zCV,e2,zO]
  rw[decide_eq_false h]
def toB (l:List Nat):List UInt8:=l.map UInt8.ofNat
theorem bytesOf_ws:∀ l:List Nat,bytesOf (ws .u8 l)=some (toB l):=by
 intro l;induction l with
 | nil=>rfl
 | cons x l ih =>
  show(match bytesOf (ws .u8 l)with | some r=>some (UInt8.ofNat (x:Int).toNat::r) | none=>none)=_
  rw[ih];rfl
theorem str_rd {H:Heap}{v:V}{n:Nat}{l:List Nat}(h:Rd H 1 v n (ws .u8 l))(hs:Src H v):zDJ [v] H=some (.str (toB l)):=by
 have hl:=h.len
 rcases h with⟨rfl | ⟨id,off,lo,ex,rfl⟩,rfl,h0⟩ | ⟨id,off,lo,ex,all,rfl,h1,h2,h3⟩
 ·cases l with
  | nil=>rfl
  | cons a l=>simp[ws]at h0
 ·cases l with
  | nil =>
   obtain⟨all,ha⟩:=hs
   have hl0:H.loads id off 0=some []:=by
    simp only[Heap.loads,ha]
    cases all.drop off <;> rfl
   simp only[zDJ,Nat.beq_refl,cond_true,hl0,bytesOf]
   rfl
  | cons a l=>simp[ws]at h0
 ·have hld:H.loads id off n=some (ws .u8 l):=by
   simp only[Heap.loads,h1]
   rw[Nat.mul_one]at h2
   have hle:n<=(all.drop off).length:=by
    have:=congrArg List.length h2
    rw[h3,List.length_take]at this
    omega
   rw[zIM _ _ hle,<- h2]
  simp only[zDJ,Nat.beq_refl,cond_true,hld,bytesOf_ws]
theorem Rd.src {H:Heap}{v:V}{n:Nat}{cs:List V}(h:Rd H 1 v n cs)(hn:0<n):Src H v:=by
 rcases h with⟨_,h0,_⟩ | ⟨id,off,lo,ex,all,rfl,h1,_,_⟩
 ·omega
 ·exact⟨all,h1⟩
abbrev Has32 (c:zD):Prop:=∀ (v:V) (bs:List Nat),bs.length<80000->Roomy v->∀ H,WF H->inH H 0 zDG=true->Rd H 1 v bs.length (ws .u8 bs)->Src H v->∀ Z,
 ∃ v' H' Z',Own H' H.size 1 v' 32 (ws .u8 (zPb consts zFa bs))/\Gr H.size H H'/\∀ q,c zCb [.agg (ws .i64 zBJ),.agg (ws .u32 zFa),v] H Z q=q v' H' Z'
abbrev Has64 (c:zD):Prop:=∀ (st:List Nat),st.length=8->∀ (v:V) (bs:List Nat),bs.length<80000->Roomy v->∀ H,WF H->inH H 0 zDG=true->Rd H 1 v bs.length (ws .u8 bs)->Src H v->∀ Z,
 ∃ v' H' Z',Own H' H.size 1 v' 64 (ws .u8 (zLp consts st bs))/\Gr H.size H H'/\∀ q,c zBk [.agg (ws .i64 zBI),.agg (ws .u64 st),v] H Z q=q v' H' Z'
theorem zMR (c:zD)(N:Nat)(h20:Has32 c)(h21:Has64 c){bits:Nat}(hb:bits=256∨bits=384∨bits=512)(v:V)(bs:List Nat)(hlen:bs.length<80000)(hR:Roomy v)(H:Heap)(hw:WF H)
  (ht:inH H 0 zDG=true) (hRd:Rd H 1 v bs.length (ws .u8 bs)) (hsr:Src H v) (Z:Tape) :
  ∃ v' H' Z',Rd H' 1 v' (bits / 8) (ws .u8 (sumT bits bs))/\Roomy v'/\Gr H.size H H'/\∀ q,zFk c N (.int .i64 (bits:Int)) v H Z q=q (.tup [v',.int .i64 (.ofNat 0)]) H' Z':=by
 rcases hb with rfl | rfl | rfl
 ·obtain⟨v0,H',Z',r1,r2,r3⟩:=h20 v bs hlen hR H hw ht hRd hsr Z
  refine⟨v0,H',Z',?_,Own.roomy r1,r2,fun q=>?_⟩
  ·have:sumT 256 bs=zPb consts zFa bs:=by unfold sumT;rw[if_pos rfl]
   rw[this];exact Own.rd r1
  ·have l2:zV 17 [.ptr 0 0] H=some (.agg (ws .i64 zBJ)):=zA1 (off:=0) (n:=17) (zOD ht st0_0) (by decide)
   have l3:zV 8 [.ptr 1 0] H=some (.agg (ws .u32 zFa)):=by
    rw[zA1 (off:=0) (n:=8) (zOD ht st0_1) (by rw[zAv,zHG];omega),List.drop_zero,List.take_of_length_le (by rw[zAv,zHG];omega)]
   have q1:(((256:Nat):Int) ==(Int.ofNat 256))=true:=rfl
   simp only[zFk,zZ,q1,zO,l2,l3,zK,r3]
 ·obtain⟨v0,H',Z',r1,r2,r3⟩:=h21 zB6 zJZ v bs hlen hR H hw ht hRd hsr Z
  obtain⟨v',c1,c2,c3,c4⟩:=(Own.ownP r1 r2.wf).cut3 (k:=48) (by omega) (by omega)
  have e48:(ws .u8 (zLp consts zB6 bs)).take 48=ws .u8 ((zLp consts zB6 bs).take 48):=by simp[ws,List.map_take]
  have hrd:=c3 H' (by have:=Own.rd r1;exact this)
  rw[e48]at hrd
  refine⟨v',H',Z',?_,c4,r2,fun q=>?_⟩
  ·have:sumT 384 bs=(zLp consts zB6 bs).take 48:=by unfold sumT;rw[if_neg (by decide),if_pos rfl]
   rw[this];exact hrd
  ·have l2:zV 17 [.ptr 2 0] H=some (.agg (ws .i64 zBI)):=zA1 (off:=0) (n:=17) (zOD ht st0_2) (by decide)
   have l3:zV 8 [.ptr 3 0] H=some (.agg (ws .u64 zB6)):=by
    rw[zA1 (off:=0) (n:=8) (zOD ht st0_3) (by rw[zAv,zJZ];omega),List.drop_zero,List.take_of_length_le (by rw[zAv,zJZ];omega)]
   have q1:(((384:Nat):Int) ==(Int.ofNat 256))=false:=rfl
   have q2:(((384:Nat):Int) ==(Int.ofNat 384))=true:=rfl
   have c1':zAJ 1 false true true [v0,.int .i64 (.ofNat 48),.int .i64 (.ofNat 48)]=some v':=c1
   simp only[zFk,zZ,q1,q2,zO,zM,l2,l3,zK,r3,c1']
 ·obtain⟨v0,H',Z',r1,r2,r3⟩:=h21 zCk zHD v bs hlen hR H hw ht hRd hsr Z
  refine⟨v0,H',Z',?_,Own.roomy r1,r2,fun q=>?_⟩
  ·have:sumT 512 bs=zLp consts zCk bs:=by unfold sumT;rw[if_neg (by decide),if_neg (by decide)]
   rw[this];exact Own.rd r1
  ·have l2:zV 17 [.ptr 2 0] H=some (.agg (ws .i64 zBI)):=zA1 (off:=0) (n:=17) (zOD ht st0_2) (by decide)
   have l3:zV 8 [.ptr 4 0] H=some (.agg (ws .u64 zCk)):=by
    rw[zA1 (off:=0) (n:=8) (zOD ht st0_4) (by rw[zAv,zHD];omega),List.drop_zero,List.take_of_length_le (by rw[zAv,zHD];omega)]
   have q1:(((512:Nat):Int) ==(Int.ofNat 256))=false:=rfl
   have q2:(((512:Nat):Int) ==(Int.ofNat 384))=false:=rfl
   have q3:(((512:Nat):Int) ==(Int.ofNat 512))=true:=rfl
   simp only[zFk,zZ,q1,q2,q3,zO,zM,l2,l3,zK,r3]
theorem zQc (c:zD)(N:Nat)(h20:Has32 c)(h21:Has64 c){bits:Nat}(hb:bits=256∨bits=384∨bits=512)(v:V)(bs:List Nat)(hlen:bs.length<80000)(hR:Roomy v)(H:Heap)(hw:WF H)
  (ht:inH H 0 zDG=true) (hRd:Rd H 1 v bs.length (ws .u8 bs)) (hsr:Src H v) (Z:Tape) :
  ∃ v' H' Z',Rd H' 1 v' (bits / 8) (ws .u8 (sumT bits bs))/\Gr H.size H H'/\∀ q,zFk c N (.int .i64 (bits:Int)) v H Z q=q (.tup [v',.int .i64 (.ofNat 0)]) H' Z':=by
 obtain⟨v',H',Z',r1,_,r2,r3⟩:=zMR c N h20 h21 hb v bs hlen hR H hw ht hRd hsr Z
 exact⟨v',H',Z',r1,r2,r3⟩
theorem zOc {H H':Heap}{B:Nat}(h:inH H 0 zDG=true)(hg:Gr B H H')(hw:WF H)(hB:H.size<=B):inH H' 0 zDG=true:=inH_gr h zOl hg hw hB
end Go.Am.X

namespace Go.Am.X
theorem zOg (c:zD)(N:Nat)(v:V)(n k:Nat)(cs:List V)(hk:0<k)(hkk:k<1000000)(H:Heap)(hR:Roomy v)(hRd:Rd H 1 v n cs) :
  ∃ v',Roomy v'/\(Src H v->Src H v')/\Rd H 1 v' (min n k) (cs.take k)/\∀ Z q,zFj c N v (.int .i64 (k:Int)) H Z q=q v' H Z:=by
 by_cases h:k<n
 ·rcases hRd with⟨_,h0,_⟩ | ⟨id,off,lo,ex,all,rfl,q1,q2,q3⟩
  ·omega
  ·have hb:zEI false true false [V.int .i64 (k:Int)]=some (none,some k,none):=by simp only[zEI,optN,zPc]
   have hwi:within k lo ex=true:=by have hR:within n lo ex=true:=hR;rw[within_iff]at hR ⊢;omega
   have h0:Nat.ble 0 k=true:=Nat.ble_eq_true_of_le (Nat.zero_le _)
   have h1:Nat.ble 0 lo=true:=Nat.ble_eq_true_of_le (Nat.zero_le _)
   have e1:decide ((k:Int)<(n:Int))=true:=decide_eq_true (by omega)
   refine⟨.sl id off k lo ex 1,hwi,fun h=>h,?_,fun Z q=>?_⟩
   ·rw[Nat.min_eq_right (by omega)]
    refine .inr ⟨id,off,lo,ex,all,rfl,q1,?_,?_⟩
    ·rw[q2,List.take_take];congr 1;omega
    ·rw[List.length_take];omega
   ·have hp:pLen [V.sl id off n lo ex 1]=some (.int .i64 (n:Int)):=rfl
    have hs:zAJ 1 false true false [V.sl id off n lo ex 1,V.int .i64 (k:Int)]=some (.sl id off k lo ex 1):=by
     simp only[zAJ,Nat.beq_refl,cond_true,hb,zPX,Option.getD_some,Option.getD_none,hwi,h0,Bool.and_self,h1,zP5,Nat.sub_zero]
    simp only[zFj,hp,zN,zAs,e1,zn,hs]
 ·have e1:decide ((k:Int)<(n:Int))=false:=decide_eq_false (by omega)
  refine⟨v,hR,fun h=>h,?_,fun Z q=>?_⟩
  ·rw[Nat.min_eq_left (by omega),List.take_of_length_le (by have:=hRd.len;omega)]
   exact hRd
  ·simp only[zFj,hRd.pLen,zN,zAs,e1,zq]
end Go.Am.X

namespace Go.Am.X
theorem zSa:∃ N:Nat,9223372036854775808<N:=⟨9223372036854775809,by decide⟩
theorem it9C_inj:∀ {a b:List It9},it9C a=it9C b->a=b:=by
 intro a
 induction a with
 | nil=>intro b h;cases b with
  | nil=>rfl
  | cons y b=>simp[it9C,it9]at h
 | cons x a ih=>intro b h;cases b with
  | nil=>simp[it9C,it9]at h
  | cons y b =>
   simp only[it9C,it9,List.cons_append,List.nil_append,List.cons.injEq,V.int.injEq,V.str.injEq,true_and]at h
   obtain⟨h1,h2,h3,h4⟩:=h
   rw[ih h4]
   obtain⟨x1,x2,x3⟩:=x
   obtain⟨y1,y2,y3⟩:=y
   simp only at h1 h2 h3
   subst h2;subst h3
   rw[show x1=y1 by omega]
theorem it9C_vok (H:Heap)(l:List It9):VsOk H (it9C l):=by
 induction l with
 | nil=>trivial
 | cons h l ih=>exact⟨trivial,trivial,trivial,ih⟩
def RO (M:Nat)(g:Bs->Out)(vs:List V)(_:Heap)(o:Out):Prop:=∃ s,vs=[.str s]/\s.length<=M/\o=g s
theorem RO_fun (M:Nat)(g:Bs->Out):Fun1 (RO M g):=by
 rintro vs H o o' ⟨s,rfl,_,rfl⟩ ⟨s',e,_,rfl⟩
 cases e;rfl
def RI (g:List It9->Out)(vs:List V)(H:Heap)(o:Out):Prop:=∃ v l,vs=[v]/\Rd H 3 v l.length (it9C l)/\l.length<=100000000000/\o=g l
theorem RI_fun (g:List It9->Out):Fun1 (RI g):=by
 rintro vs H o o' ⟨v,l,rfl,h1,_,rfl⟩ ⟨v',l',e,h2,_,rfl⟩
 cases e
 rw[it9C_inj (h1.uniq h2).2]
def itO (l:List It9):Out:=lstO 3 l.length (it9C l) fun v=>v
theorem OwnN.met {H H':Heap}{v:V}{l:List It9}(h:OwnN H' H.size 3 v l.length (it9C l)):(itO l).Met H v H':=by
 unfold itO lstO
 by_cases hn:l.length=0
 ·rw[if_pos hn,h.2 hn];exact⟨rfl,trivial⟩
 ·rw[if_neg hn]
  refine⟨mkOk_id,it9C_vok _ _,v,rfl,h.1.freshL fun e=>?_⟩
  rcases h.1 with⟨_,h0,_⟩ | ⟨_,_,_,_,_,_,_,_,e',_⟩
  ·exact hn h0
  ·rw[e]at e';cases e'
abbrev ParR:=RO 1000000000 fun s=>itO (zAY s)
abbrev StrR:=RI fun l=>itO (zCE l)
theorem zRe (c:zD)(N:Nat){c1 c2:zD}(N1 N2:Nat)(hI:∀ (r:Nat) (H:Heap),WF H->∀ Z,∃ H',Gr H.size H H'/\∀ q,c2 zFG [.str zBW,.int .i32 (r:Int)] H Z q=q (.int .i64 (if r<128 then idxB r zBW 0 else -1)) H' Z)
  (h2:∀ a b H Z q,c1 zDi [a,b] H Z q=zDf c2 N2 a b H Z q) (h1:∀ a H Z q,c zAj [a] H Z q=zFJ c1 N1 a H Z q):RuneP c (.func zAj [] []) zBW.contains:=by
 intro r H Z hw
 obtain⟨H',g,k⟩:=hI r H hw Z
 refine⟨H',g,fun q=>?_⟩
 show c zAj [.int .i32 (r:Int)] H Z q=_
 have hb:bs [9,10,12,13,32]=zBW:=rfl
 have e:decide (Int.ofNat 0<=(if r<128 then idxB r zBW 0 else -1))=rp zBW.contains r:=by
  unfold rp
  by_cases h:r<128
  ·rw[if_pos h,if_pos h]
   have:=idx_has (UInt8.ofNat r) zBW
   rw[UInt8.toNat_ofNat',Nat.mod_eq_of_lt (by omega)]at this
   exact this
  ·rw[if_neg h,if_neg h];decide
 rw[h1]
 simp only[zFJ,hb,h2,zDf,k,zt,e]
noncomputable abbrev zFI:List Row:=[Row.fn zCz zBD zEj,Row.fn zEL zAb zCY,Row.fn zAj zAo zC7,Row.fn zDi zAK zBn,Row.fn zFG zAp zC4,Row.fn zGw zBT zFM,Row.fn zAy zAT zB2,Row.prim zw idxP,Row.prim zD5 (outP CutR),Row.fn zDp zBU zFN,Row.prim zFB (outP LowR)]
theorem zPw:∀ base w0,zFL PG base w0 zCz (outP ParR):=by
 obtain⟨N,hN⟩:=zSa
 refine zI7 zJD (l:=zFI) (.fn zHo zGJ (.fn zFu zE9 (.fn zGO zFV (.fn zEz zEG (.fn zGK zFU (.fn zI3 zG4 (.fn zER zDe (.prim idxP_ok (.prim zS2 (.fn zI4 zG2 (.prim zSw (.nil _)))))))))))) N 7 _ ?_
 rintro vs H o hw hvs ⟨s,rfl,hs,rfl⟩ Z
 have hI:Idx70 (CR zFI N 2):=fun s x H Z q=>zIK (CR zFI N 1) N (k_idx fun _ _ _ _=>rfl) s x H Z q
 have hR:RuneP (CR zFI N 5) (.func zAj [] []) zBW.contains:=zRe (CR zFI N 5) N (c1:=CR zFI N 4) (c2:=CR zFI N 3) N N (fun r H hw Z=>zMH (CR zFI N 2) N (by omega) hI (fun n H Z=>zN1 (CR zFI N 1) N n H Z) zBW (by decide) (by decide) r H hw Z) (fun _ _ _ _ _=>rfl) (fun _ _ _ _=>rfl)
 have hF:FldOk (CR zFI N 6):=fun s hs H hw Z=>zLm (CR zFI N 5) (by omega) zBW.contains (.func zAj [] []) hR (fun x hx=>by
  cases h:zBW.contains x with
  | false=>rfl
  | true =>
   rw[<- zS1]at h
   unfold zSD at h
   simp only[Bool.or_eq_true,decide_eq_true_eq]at h
   omega) s hs H hw Z
 have hL:NLowOk (CR zFI N 5):=zSv fun _ _ _ _=>rfl
 have hB:zSB (CR zFI N 6) zDp:=fun s hs H Z q=>zN2 (CR zFI N 5) N hL s hs H Z q
 obtain⟨v,H',Z',r1,r2,r3⟩:=zNM (CR zFI N 6) (N:=N) (by omega) hF (zTC fun _ _ _ _=>rfl) hB s (by omega) H hw Z
 exact⟨v,H',Z',r3 retK,r2,r1.met⟩
noncomputable abbrev zFt:List Row:=[Row.fn zBQ zAS zCC,Row.fn zCL zAi zCK,Row.fn zBZ zAH zBf]
theorem zNa:∀ base w0,zFL PG base w0 zBQ (outP StrR):=by
 obtain⟨N,hN⟩:=zSa
 refine zI7 zJD (l:=zFt) (.fn zFY zEc (.fn zE1 zD2 (.fn zEl zDk (.nil _)))) N 3 _ ?_
 rintro vs H o hw hvs ⟨v,l,rfl,hr,hl,rfl⟩ Z
 have hC:zQu (CR zFt N 2) (CR zFt N 1):=fun f fv its hil H hw v hr hf Z=>zIm (CR zFt N 1) (N:=N) (by omega) f fv its hil H hw v hr (fun x hx H' g Z=>hf x hx H' g Z) Z
 obtain⟨v',H',Z',r1,r2,r3⟩:=zLU (CR zFt N 2) (CR zFt N 1) (N:=N) (by omega) hC (fun x m most H hw hm Z=>zKX (CR zFt N 0) N x m most H hw hm Z) l (by omega) H hw v hr Z
 exact⟨v',H',Z',r3 retK,r2,r1.met⟩
noncomputable abbrev zKn:List Row:=[Row.fn zHK zF9 zLG,Row.fn zLC zF3 zK2,Row.fn zHL zEu zJS,Row.prim zE7 (outP PartR),Row.fn zIw zHQ zMB,Row.prim zEq (outP LowR)]
theorem p_ref9_Parse:∀ base w0,zFL PG base w0 zHK (outP ParR):=by
 obtain⟨N,hN⟩:=zSa
 refine zI7 zJD (l:=zKn) (.fn zO1 zNL (.fn zOx zMy (.fn zMF zKe (.prim p_ref1_Part (.fn zQM zOO (.prim p_ref1_Lower (.nil _))))))) N 4 _ ?_
 rintro vs H o hw hvs ⟨s,rfl,hs,rfl⟩ Z
 have hW:WordsOk (CR zKn N 3):=fun s hs H hw Z=>zQe (CR zKn N 2) (N:=N) (by omega) (fun n H Z q=>zMX (CR zKn N 1) N n H Z q) s hs H hw Z
 have hB:zSB (CR zKn N 3) zIw:=fun s hs H Z q=>zRV (CR zKn N 2) N (k_ref1_Lower fun _ _ _ _=>rfl) s hs H Z q
 obtain⟨v,H',Z',r1,r2,r3⟩:=zQa (CR zKn N 3) (N:=N) (by omega) hW (k_ref1_Part fun _ _ _ _=>rfl) hB s (by omega) H hw Z
 exact⟨v,H',Z',r3 retK,r2,r1.met⟩
noncomputable abbrev zOv:List Row:=[Row.fn zDs zCw zGl]
theorem zQg:∀ base w0,zFL PG base w0 zDs (outP StrR):=by
 obtain⟨N,hN⟩:=zSa
 refine zI7 zJD (l:=zOv) (.fn zLd zKU (.nil _)) N 1 _ ?_
 rintro vs H o hw hvs ⟨v,l,rfl,hr,hl,rfl⟩ Z
 obtain⟨v',H',Z',r1,r2,r3⟩:=zN6 (CR zOv N 0) (N:=N) (by omega) l (by omega) H hw v hr Z
 exact⟨v',H',Z',r3 retK,r2,r1.met⟩
abbrev ParOk (c:zD)(f:Nat):Prop:=∀ (s:Bs),s.length<=1000000000->∀ H,WF H->∀ Z,∃ v H' Z',Own H' H.size 3 v (zAY s).length (it9C (zAY s))/\Gr H.size H H'/\∀ q,c f [.str s] H Z q=q v H' Z'
theorem k_Par {c:zD}{f:Nat}(h:IsP c f ParR):ParOk c f:=fun s hs H hw Z=>by
 obtain⟨v,H',Z',r1,r2,r3⟩:=outK_list h (RO_fun _ _) (H:=H) (z:=3) (n:=(zAY s).length) (cs:=it9C (zAY s)) (mk:=fun v=>v) ⟨s,rfl,hs,rfl⟩ hw (zFD _) Z
 exact⟨v,H',Z',r1,r2,r3⟩
abbrev StrOk (c:zD)(f:Nat):Prop:=∀ (l:List It9),l.length<=100000000000->∀ H,WF H->∀ v,Rd H 3 v l.length (it9C l)->∀ Z,∃ v' H' Z',Own H' H.size 3 v' (zCE l).length (it9C (zCE l))/\Gr H.size H H'/\∀ q,c f [v] H Z q=q v' H' Z'
theorem k_Str {c:zD}{f:Nat}(h:IsP c f StrR):StrOk c f:=fun l hl H hw v hr Z=>by
 obtain⟨v',H',Z',r1,r2,r3⟩:=outK_list h (RI_fun _) (H:=H) (z:=3) (n:=(zCE l).length) (cs:=it9C (zCE l)) (mk:=fun v=>v) ⟨v,l,rfl,hr,hl,rfl⟩ hw (zFD _) Z
 exact⟨v',H',Z',r1,r2,r3⟩
end Go.Am.X

namespace Go.Am.X
def zM3 (bs:List Nat)(x:It9):Bool:=match zG6 x.2.1 with | none=>false | some r=>decide (r=sumT x.1 bs)
def zJR (s:Bs)(bs:List Nat):Bool:=if(zAY s).length=0 then true else decide (0<((zCE (zAY s)).filter (zM3 bs)).length)
theorem cut1_len2 (x:UInt8)(s:Bs):(cut1 x s).2.1.length<=s.length:=by
 unfold cut1
 cases h:cutB x s with
 | none=>simp
 | some p=>obtain⟨a,b⟩:=p;have:=cutB_len x s a b h;simp only;omega
def Good9 (m:Nat)(x:It9):Prop:=(x.1=256∨x.1=384∨x.1=512)/\x.2.1.length<=m
theorem parseB_good {s:Bs}{x:It9}(h:x ∈ zAY s):Good9 s.length x:=by
 unfold zAY at h
 obtain⟨w,hw,hi⟩:=List.mem_filterMap.1 h
 have hwl:=zNe s [] w hw
 unfold zHa at hi
 split at hi
 ·rename_i hc
  cases hi
  refine⟨?_,?_⟩
  ·have:=hc.2
   unfold zKm at this ⊢
   simp only
   split
   ·exact .inl rfl
   ·split
    ·exact .inr (.inl rfl)
    ·split
     ·exact .inr (.inr rfl)
     ·rename_i a b c;rw[if_neg a,if_neg b,if_neg c]at this;omega
  ·have a:=cut1_len2 45 (cut1 63 w).1
   have b:=zPJ 63 w
   simp only[List.length_nil,Nat.zero_add]at hwl
   simp only
   omega
 ·cases hi
theorem zQI {s:Bs}{x:It9}(h:x ∈ zCE (zAY s)):Good9 s.length x:=parseB_good (List.mem_filter.1 h).1
theorem zOX (l:List It9):(zCE l).length<=l.length:=List.length_filter_le _ _
theorem zR7 (s:Bs):(zAY s).length<=s.length+1:=Nat.le_trans (List.length_filterMap_le _ _) (zMK s [])
theorem decG_ok:∀ (l:Bs) (w h:Nat) (r:List Nat),decG w h l=some r->r.length<=l.length/\∀ y ∈ r,y<256:=by
 intro l
 induction l with
 | nil=>intro w h r hr;rw[decG]at hr;cases hr;exact⟨Nat.le_refl _,by simp⟩
 | cons x l ih =>
  intro w h r hr
  rw[decG]at hr
  cases hv:v64 x with
  | none=>rw[hv]at hr;cases hr
  | some v =>
   rw[hv]at hr
   simp only at hr
   split at hr
   ·cases hd:decG ((w*64+v) % 65536) (h+6-8) l with
    | none=>rw[hd]at hr;cases hr
    | some r' =>
     rw[hd]at hr;cases hr
     obtain⟨h1,h2⟩:=ih _ _ _ hd
     refine⟨by simp;omega,fun y hy=>?_⟩
     rcases List.mem_cons.1 hy with rfl | hy
     ·exact Nat.mod_lt _ (by omega)
     ·exact h2 y hy
   ·obtain⟨h1,h2⟩:=ih _ _ _ hr
    exact⟨by simp;omega,h2⟩
theorem zSZ {s:Bs}{r:List Nat}(h:zG6 s=some r):r.length<=s.length/\∀ y ∈ r,y<256:=by
 unfold zG6 at h
 simp only at h
 have hnl:(nbB s).length<=s.length:=List.length_filter_le _ _
 have hb:(if(nbB s).length % 4=0 then zBY 2 (nbB s)else nbB s).length<=s.length:=by
  split
  ·have:=zPh 2 (nbB s);omega
  ·omega
 generalize (if(nbB s).length % 4=0 then zBY 2 (nbB s)else nbB s)=b at h hb
 by_cases h1:b.length % 4=1
 ·rw[if_pos h1]at h;cases h
 ·rw[if_neg h1]at h
  obtain⟨h1,h2⟩:=decG_ok _ _ _ _ h
  exact⟨by omega,h2⟩
theorem wordB_lt (k:IntKind)(x:Nat):∀ n,∀ y ∈ zFT k x n,y<256:=by
 intro n
 induction n with
 | zero=>intro y hy;simp[zFT]at hy
 | succ n ih =>
  intro y hy
  rw[zFT]at hy
  rcases List.mem_cons.1 hy with rfl | hy
  ·exact Nat.mod_lt _ (by decide)
  ·exact ih y hy
theorem outB_lt (k:IntKind)(n:Nat)(st:List Nat):∀ y ∈ outB k n st,y<256:=by
 intro y hy
 unfold outB at hy
 obtain⟨x,_,h⟩:=List.mem_flatMap.1 hy
 exact wordB_lt k x n y h
theorem zRS (bits:Nat)(bs:List Nat):∀ y ∈ sumT bits bs,y<256:=by
 intro y hy
 unfold sumT at hy
 split at hy
 ·exact outB_lt _ _ _ y hy
 ·split at hy
  ·exact outB_lt _ _ _ y (List.mem_of_mem_take hy)
  ·exact outB_lt _ _ _ y hy
abbrev SumOk (c:zD):Prop:=∀ {bits:Nat},bits=256∨bits=384∨bits=512->∀ (v:V) (bs:List Nat),bs.length<80000->Roomy v->∀ H,WF H->inH H 0 zDG=true->Rd H 1 v bs.length (ws .u8 bs)->Src H v->∀ Z,
 ∃ v' H' Z',Rd H' 1 v' (bits / 8) (ws .u8 (sumT bits bs))/\Gr H.size H H'/\∀ q,c zFl [.int .i64 (bits:Int),v] H Z q=q (.tup [v',.int .i64 (.ofNat 0)]) H' Z'
abbrev SmeOk (c:zD):Prop:=∀ (a b:V) (la lb:List Nat),la.length<1000000->(∀ x ∈ la,x<256)->(∀ x ∈ lb,x<256)->∀ (H:Heap),Rd H 1 a la.length (ws .u8 la)->Rd H 1 b lb.length (ws .u8 lb)->∀ Z q,c zJ6 [a,b] H Z q=q (.bool (decide (la=lb))) H Z
theorem zL0 (c:zD)(N:Nat)(hB:B64Ok c zGa)(hS:SumOk c)(hE:SmeOk c)(x:It9){m:Nat}(hx:Good9 m x)(hm:m<=100000)(b:Nat)(v:V)(bs:List Nat)(hbl:bs.length<80000)(hro:Roomy v)
  (H:Heap) (hw:WF H) (hb:H.cells? b=some [v]) (ht:inH H 0 zDG=true) (hr:Rd H 1 v bs.length (ws .u8 bs)) (hs:Src H v) (Z:Tape) :
  ∃ H' Z',Gr H.size H H'/\∀ q,zDH c N (.agg (it9 x)) (.ptr b 0) H Z q=q (.bool (zM3 bs x)) H' Z':=by
 have g1:=Gr.new hw (it9 x) 3 true
 have cc:=zBp H (it9 x) 3 true
 have b0:eBox [.agg (it9 x)] H Z=some (.ptr H.size 0,H.new (it9 x) 3 true,Z):=rfl
 have hlt:H.size<(H.new (it9 x) 3 true).size:=Nat.lt_succ_self _
 generalize H.new (it9 x) 3 true=H1 at g1 cc b0 hlt
 have l1:zF [.ptr H.size 1] H1=some (.str x.2.1):=zg cc rfl
 obtain⟨v1,H2,Z2,g2,r2,k2⟩:=hB x.2.1 (by have:=hx.2;omega) H1 g1.wf Z
 have g12:=g1.trans g2 g1.size
 have l2:zF [.ptr H.size 0] H2=some (.int .i64 (x.1:Int)):=zg (g2.cells g1.wf nl cc) rfl
 have l3:zF [.ptr b 0] H2=some v:=zg (g12.cells hw nl hb) rfl
 obtain⟨v3,H3,Z3,r3,g3,k3⟩:=hS hx.1 v bs hbl hro H2 g2.wf (zOc ht g12 hw nl) (hr.gr g12 hw nl) (hs.gr g12 hw nl) Z2
 refine⟨H3,Z3,g12.trans g3 g12.size,fun q=>?_⟩
 have x0:∀ a b:V,zR 0 [.tup [a,b]]=some a:=fun _ _=>rfl
 have x1:∀ a b:V,zR 1 [.tup [a,b]]=some b:=fun _ _=>rfl
 have ez:(Int.ofNat 0 == Int.ofNat 0)=true:=rfl
 unfold zM3
 cases hbo:zG6 x.2.1 with
 | none =>
  rw[hbo]at k2
  simp only[Option.isSome_none]at k2
  simp only[zDH,b0,za,zH,Nat.zero_add,Nat.add_zero,zK,l1,k2,x0,x1,l2,l3,k3,zCo,zBw,zi,cond_false]
 | some r =>
  rw[hbo]at k2 r2
  simp only[Option.isSome_some]at k2
  obtain⟨hrl,hrb⟩:=zSZ hbo
  have rr:=(show Rd H2 1 v1 r.length (ws .u8 r)from r2.1).gr g3 g2.wf nl
  have r3':Rd H3 1 v3 (sumT x.1 bs).length (ws .u8 (sumT x.1 bs)):=by rw[zQv hx.1];exact r3
  have k4:=fun q=>hE v1 v3 r (sumT x.1 bs) (by have:=hx.2;omega) hrb (zRS _ _) H3 rr r3' Z3 q
  simp only[zDH,b0,za,zH,Nat.zero_add,Nat.add_zero,zK,l1,k2,x0,x1,l2,l3,k3,zFR,retK,zZ,ez,zi,cond_true,k4]
theorem Rd.scal {H:Heap}{z:Nat}{v:V}{n:Nat}{cs:List V}(h:Rd H z v n cs):v.cells=[v]:=by
 rcases h with⟨rfl | ⟨_,_,_,_,rfl⟩,_⟩ | ⟨_,_,_,_,_,rfl,_⟩ <;> rfl
abbrev Hld1Ok (c:zD):Prop:=∀ (x:It9) {m:Nat},Good9 m x->m<=100000->∀ (b:Nat) (v:V) (bs:List Nat),bs.length<80000->Roomy v->∀ (H:Heap),WF H->H.cells? b=some [v]->inH H 0 zDG=true->Rd H 1 v bs.length (ws .u8 bs)->Src H v->∀ Z,
  ∃ H' Z',Gr H.size H H'/\∀ q,c zDI [.agg (it9 x),.ptr b 0] H Z q=q (.bool (zM3 bs x)) H' Z'
theorem zNf (c c':zD)(N:Nat)(hP:ParOk c zCz)(hS:StrOk c zBQ)(hC:zQu c c')(hT:Hld1Ok c')(s:Bs)(hs:s.length<=100000)(v:V)(bs:List Nat)(hbl:bs.length<80000)(hro:Roomy v)
  (H:Heap) (hw:WF H) (ht:inH H 0 zDG=true) (hr:Rd H 1 v bs.length (ws .u8 bs)) (hsr:Src H v) (Z:Tape) :
  ∃ H' Z',Gr H.size H H'/\∀ q,zEd c N (.str s) v H Z q=q (.bool (zJR s bs)) H' Z':=by
 have hsc:=Rd.scal hr
 have g1:=Gr.new hw [v] 1 true
 have c1:=zBp H [v] 1 true
 have hlt:H.size<(H.new [v] 1 true).size:=Nat.lt_succ_self _
 have b0:eBox [v] H Z=some (.ptr H.size 0,H.new [v] 1 true,Z):=by simp only[eBox,hsc];rfl
 generalize H.new [v] 1 true=H1 at g1 c1 b0 hlt
 obtain⟨v3,H2,Z2,r2,g2,k2⟩:=hP s (by omega) H1 g1.wf Z
 have hpl:=zR7 s
 obtain⟨v6,H3,Z3,r3,g3,k3⟩:=hS (zAY s) (by omega) H2 g2.wf v3 r2.rd Z2
 have hsl:=zOX (zAY s)
 have g12:=g1.trans g2 g1.size
 have g13:=g12.trans g3 g12.size
 obtain⟨v10,H4,Z4,r4,g4,k4⟩:=hC (zM3 bs) (.func zDI [] [.ptr H.size 0]) (zCE (zAY s)) (by omega) H3 g3.wf v6 r3.rd (fun x hx H5 g5 Z5=>by
  have g15:Gr H.size H H5:=g13.trans g5 g13.size
  have hc5:H5.cells? H.size=some [v]:=g5.cells g3.wf nl (g3.cells g2.wf nl (g2.cells g1.wf nl c1))
  obtain⟨H6,Z6,g6,k6⟩:=hT x (zQI hx) hs H.size v bs hbl hro H5 g5.wf hc5 (zOc ht g15 hw nl) (hr.gr g15 hw nl) (hsr.gr g15 hw nl) Z5
  exact⟨H6,Z6,g6,fun q=>k6 q⟩) Z3
 refine⟨H4,Z4,g13.trans g4 g13.size,fun q=>?_⟩
 unfold zJR
 by_cases h0:(zAY s).length=0
 ·have e1:(((zAY s).length:Int) == Int.ofNat 0)=true:=by rw[h0];rfl
  rw[if_pos h0]
  simp only[zEd,b0,za,k2,k3,List.take_zero,List.drop_zero,zK,k4,r2.rd.pLen,zZ,e1,zEO,zBw,zi,cond_true]
 ·have e1:(((zAY s).length:Int) == Int.ofNat 0)=false:=by rw[beq_eq_false_iff_ne];have:Int.ofNat 0=0:=rfl;omega
  rw[if_neg h0]
  have e2:decide (Int.ofNat 0<(((zCE (zAY s)).filter (zM3 bs)).length:Int))=decide (0<((zCE (zAY s)).filter (zM3 bs)).length):=by
   rw[Bool.eq_iff_iff,decide_eq_true_eq,decide_eq_true_eq];have:Int.ofNat 0=0:=rfl;omega
  simp only[zEd,b0,za,k2,k3,List.take_zero,List.drop_zero,zK,k4,r2.rd.pLen,zZ,e1,zHc,retK,r4.1.rd.pLen,zAs,e2,zi,cond_false]
def HolR (vs:List V)(H:Heap)(o:Out):Prop:=∃ (s:Bs) (v:V) (bs:List Nat),vs=[.str s,v]/\s.length<=100000/\bs.length<80000/\Rd H 1 v bs.length (ws .u8 bs)/\Src H v/\inH H 0 zDG=true/\o=.val (.bool (zJR s bs))
theorem ws_inj {k:IntKind}:∀ {a b:List Nat},ws k a=ws k b->a=b:=by
 intro a
 induction a with
 | nil=>intro b h;cases b with
  | nil=>rfl
  | cons y b=>simp[ws]at h
 | cons x a ih=>intro b h;cases b with
  | nil=>simp[ws]at h
  | cons y b =>
   simp only[ws,List.map_cons,List.cons.injEq,V.int.injEq,true_and]at h
   rw[ih h.2,show x=y by omega]
theorem HolR_fun:Fun1 HolR:=by
 rintro vs H o o' ⟨s,v,bs,rfl,_,_,h1,_,_,rfl⟩ ⟨s',v',bs',e,_,_,h2,_,_,rfl⟩
 cases e
 rw[ws_inj (h1.uniq h2).2]
noncomputable abbrev zAI:List Row:=[Row.fn zAB zBC zEm,Row.prim zCz (outP ParR),Row.prim zBQ (outP StrR),Row.fn zCL zAi zCK,Row.fn zDI zAm zC3,Row.fn zGa zCB zGe,Row.fn zAy zAT zB2,Row.prim zw idxP,
 Row.fn zFl zCt zHB,Row.fn zJ6 zCv zIT,Row.fn zCb zAL zBi,Row.fn zBk zAM zBh,Row.fn zBx zAX zBy,Row.fn zB5 zAU zBt,
 Row.fn zAt zy zBG,Row.fn zBM zAW zB0,Row.fn zAq zx zBF,Row.fn zBO zAV zBz,Row.fn zz zAF zBR,Row.fn zAA zAG zBS]
theorem rows_Holds:zMW PG zAI :=
 .fn zIN zGI (.prim zPw (.prim zNa (.fn zE1 zD2 (.fn zGH zFS (.fn zKo zIy (.fn zER zDe (.prim idxP_ok
 (.fn zJ5 zIU (.fn zLR zJf (.fn zD0 zCe (.fn zEC zCs (.fn zEM zDh (.fn zES zDc
 (.fn zCn zB9 (.fn zEP zDZ (.fn zCd zB8 (.fn zET zDO (.fn zDY zCI (.fn zDX zCR (.nil _))))))))))))))))))))
theorem sum_rows {N:Nat}(hN:9223372036854775808<N):SumOk (CR zAI N 5):=by
 have li32:Lit33 (CR zAI N 2):=fun x a b e ha hb he H hw Z=>dg33_eval (CR zAI N 1) N ha hb he (by omega) (fun n hn H Z q=>zOu (CR zAI N 0) N hn (by omega) H Z q) H hw Z
 have bi32:Big34 (CR zAI N 2):=fun x a b e ha hb he H hw Z=>dg34_eval (CR zAI N 1) N ha hb he (by omega) (fun n hn H Z q=>zOu (CR zAI N 0) N hn (by omega) H Z q) H hw Z
 have li64:Lit35 (CR zAI N 2):=fun x a b e ha hb he H hw Z=>dg35_eval (CR zAI N 1) N ha hb he nl (fun n hn H Z q=>zOw (CR zAI N 0) N hn nl H Z q) H hw Z
 have bi64:Big36 (CR zAI N 2):=fun x a b e ha hb he H hw Z=>dg36_eval (CR zAI N 1) N ha hb he nl (fun n hn H Z q=>zOw (CR zAI N 0) N hn nl H Z q) H hw Z
 have mx32:Mix28 (CR zAI N 3) consts:=fun S K v bs st hKS hlen h64 hR hst H hw hK hS hC5 hRd Z=>zHZ (CR zAI N 2) N (by omega) S K hKS v bs st consts hlen h64 hR hst zF2 li32 bi32 H hw hK hS hC5 hRd Z
 have mx64:Mix29 (CR zAI N 3) consts:=fun S K v bs st hKS hlen h64 hR hst H hw hK hS hC5 hRd Z=>zHp (CR zAI N 2) N (by omega) S K hKS v bs st consts hlen h64 hR hst zF2 li64 bi64 H hw hK hS hC5 hRd Z
 have h32:Has32 (CR zAI N 4):=fun v bs hlen hR H hw ht hRd hsr Z=>zHF (CR zAI N 3) N (by omega) v bs zFa consts hlen hR zHG mx32 H hw (zOD ht st0_5) hRd hsr Z
 have h64:Has64 (CR zAI N 4):=fun st hst v bs hlen hR H hw ht hRd hsr Z=>zHO (CR zAI N 3) N (by omega) v bs st consts hlen hR hst mx64 H hw (zOD ht st0_5) hRd hsr Z
 intro bits hb v bs hlen hR H hw ht hRd hsr Z
 exact zQc (CR zAI N 4) N h32 h64 hb v bs hlen hR H hw ht hRd hsr Z
theorem zPr:∀ base w0,zFL PG base w0 zAB (outP HolR):=by
 obtain⟨N,hN⟩:=zSa
 refine zI7 zJD rows_Holds N 8 _ ?_
 rintro vs H o hw hvs ⟨s,v,bs,rfl,hs,hbl,hr,hsr,ht,rfl⟩ Z
 have hro:Roomy v:=VOk.roomy hvs.2.1
 have hI:Idx70 (CR zAI N 4):=fun s x H Z q=>zIK (CR zAI N 3) N (k_idx fun _ _ _ _=>rfl) s x H Z q
 have hB:B64Ok (CR zAI N 5) zGa:=fun s hs H hw Z=>zPZ (CR zAI N 4) (N:=N) (by omega) hI s hs H hw Z
 have hE:SmeOk (CR zAI N 5):=fun a b la lb h1 h2 h3 H ha hb Z q=>zP3 (CR zAI N 4) N (by omega) a b la lb h1 h2 h3 H ha hb Z q
 have hT:Hld1Ok (CR zAI N 6):=fun x _ hx hm b v bs hbl hro H hw hb ht hr hs Z=>zL0 (CR zAI N 5) N hB (sum_rows hN) hE x hx hm b v bs hbl hro H hw hb ht hr hs Z
 have hC:zQu (CR zAI N 7) (CR zAI N 6):=fun f fv its hil H hw v hr hf Z=>zIm (CR zAI N 6) (N:=N) (by omega) f fv its hil H hw v hr (fun x hx H' g Z=>hf x hx H' g Z) Z
 obtain⟨H',Z',g,k⟩:=zNf (CR zAI N 7) (CR zAI N 6) N (k_Par fun _ _ _ _=>rfl) (k_Str fun _ _ _ _=>rfl) hC hT s hs v bs hbl hro H hw ht hr hsr Z
 exact⟨_,H',Z',k retK,g,rfl,trivial⟩
abbrev HolOk (c:zD):Prop:=∀ (s:Bs),s.length<=100000->∀ (v:V) (bs:List Nat),bs.length<80000->∀ H,Rd H 1 v bs.length (ws .u8 bs)->Src H v->inH H 0 zDG=true->∀ Z q,c zAB [.str s,v] H Z q=q (.bool (zJR s bs)) H Z
theorem k_Holds {c:zD}(h:IsP c zAB HolR):HolOk c:=fun s hs v bs hbl H hr hsr ht Z q=>zSm h HolR_fun ⟨s,v,bs,rfl,hs,hbl,hr,hsr,ht,rfl⟩ Z q
end Go.Am.X

