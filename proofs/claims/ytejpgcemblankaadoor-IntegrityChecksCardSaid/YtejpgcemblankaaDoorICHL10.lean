/- The abstract machine, printed functions of the program, and what they are shown to be. -/
import Derived.Test.YtejpgcemblankaaDoorICHL9
import Derived.Test.YtejpgcemblankaaDoorICHL1
import Derived.Test.YtejpgcemblankaaDoorICHM4
import Derived.Test.YtejpgcemblankaaDoorICHL3
set_option linter.unusedSimpArgs false
set_option linter.unusedVariables false
set_option linter.unusedSectionVars false
set_option maxRecDepth 100000
namespace Go.Am.X
def diffT:Nat→List Nat→List Nat→Nat
 | d,a :: la,b :: lb=>diffT (lorT .u8 d (xorT .u8 a b)) la lb
 | d,_,_=>d
theorem p8:pow2 .u8=2 ^ 8:=by decide
theorem lor8 {a b:Nat} (ha:a < 256) (hb:b < 256):lorT .u8 a b=a ||| b:=by
 unfold lorT;rw [p8,Nat.mod_eq_of_lt (show a < 2 ^ 8 by omega),Nat.mod_eq_of_lt (show b < 2 ^ 8 by omega)]
 exact Nat.mod_eq_of_lt (Nat.or_lt_two_pow (show a < 2 ^ 8 by omega) (show b < 2 ^ 8 by omega))
theorem xor8 {a b:Nat} (ha:a < 256) (hb:b < 256):xorT .u8 a b=a ^^^ b:=by
 unfold xorT;rw [p8,Nat.mod_eq_of_lt (show a < 2 ^ 8 by omega),Nat.mod_eq_of_lt (show b < 2 ^ 8 by omega)]
 exact Nat.mod_eq_of_lt (Nat.xor_lt_two_pow (show a < 2 ^ 8 by omega) (show b < 2 ^ 8 by omega))
theorem xor_zero_iff (a b:Nat):a ^^^ b=0 ↔ a=b:=by
 constructor
 ·intro h
  have h1:(a ^^^ b) ^^^ b=a:=by rw [Nat.xor_assoc,Nat.xor_self,Nat.xor_zero]
  rw [h,Nat.zero_xor] at h1
  exact h1.symm
 ·intro h;rw [h,Nat.xor_self]
theorem diff_zero:∀ (la lb:List Nat) (d:Nat),la.length=lb.length→(∀ x ∈ la,x < 256)→(∀ x ∈ lb,x < 256)→d < 256→(diffT d la lb=0 ↔ d=0∧la=lb):=by
 intro la
 induction la with
 | nil =>
  intro lb d h _ _ _
  have:lb=[]:=List.eq_nil_of_length_eq_zero (by rw [← h];rfl)
  subst this;simp [diffT]
 | cons a la ih =>
  intro lb d h ha hb hd
  cases lb with
  | nil=>simp at h
  | cons b lb =>
   have a1:=ha a (by simp)
   have b1:=hb b (by simp)
   have hx:a ^^^ b < 256:=Nat.xor_lt_two_pow (n:=8) a1 b1
   rw [diffT,xor8 a1 b1,lor8 hd hx,ih lb _ (by simpa using h) (fun x hx=>ha x (by simp [hx])) (fun x hx=>hb x (by simp [hx])) (Nat.or_lt_two_pow (n:=8) hd hx)]
   rw [Nat.or_eq_zero_iff,xor_zero_iff]
   simp only [List.cons.injEq]
   exact ⟨fun ⟨⟨h1,h2⟩,h3⟩=>⟨h1,h2,h3⟩,fun ⟨h1,h2,h3⟩=>⟨⟨h1,h2⟩,h3⟩⟩
theorem zQS (c:zD) (N:Nat) (a b:V) (la lb:List Nat) (hlen:la.length < 1000000) (H:Heap) (ha:Rd H 1 a la.length (ws .u8 la)) (hb:Rd H 1 b lb.length (ws .u8 lb)) (heq:la.length=lb.length) :
  ∀ (l1 l2 pre1 pre2:List Nat) (d:Nat) (fr:T V) (τ:Tape) (m:Nat),la=pre1++l1→lb=pre2++l2→pre1.length=pre2.length→l1.length < m→fr.get 0=some a→fr.get 1=some b→fr.get 5=some (.int .u8 (d:Int))→fr.get 13=some (.int .i64 (la.length:Int))→fr.get 14=some (.int .i64 (pre1.length:Int)) →
  ∀ k,zW (zGM c N) m ⟨fr,H⟩ τ k=k (.exit 0) ⟨(T.set .leaf 5 (.int .u8 ((diffT d l1 l2:Nat):Int))),H⟩ τ:=by
 intro l1
 induction l1 with
 | nil =>
  intro l2 pre1 pre2 d fr τ m h1 h2 hp hm f0 f1 f5 f13 f14 k
  obtain ⟨m,rfl⟩:∃ j,m=j+1:=⟨m - 1,by omega⟩
  have e1:decide ((pre1.length:Int) < (la.length:Int))=false:=decide_eq_false (by rw [h1];simp)
  have ed:diffT d [] l2=d:=by cases l2 <;> rfl
  rw [zC,ed]
  simp only [zGM,zA f0,zA f1,zA f5,zA f13,zA f14,zI,e1,zM]
  rfl
 | cons x l1 ih =>
  intro l2 pre1 pre2 d fr τ m h1 h2 hp hm f0 f1 f5 f13 f14 k
  obtain ⟨m,rfl⟩:∃ j,m=j+1:=⟨m - 1,by omega⟩
  cases l2 with
  | nil =>
   exfalso
   have q1:=congrArg List.length h1
   have q2:=congrArg List.length h2
   simp at q1 q2;omega
  | cons y l2 =>
   have e1:decide ((pre1.length:Int) < (la.length:Int))=true:=decide_eq_true (by rw [h1];simp;omega)
   obtain ⟨p,p1,p2⟩:=ha.elem1 (i:=pre1.length) (x:=.int .u8 (x:Int)) (by rw [h1];simp [ws])
   obtain ⟨p',p3,p4⟩:=hb.elem1 (i:=pre1.length) (x:=.int .u8 (y:Int)) (by rw [h2,hp];simp [ws])
   have hl:pre1.length < la.length:=by rw [h1];simp
   have e3:wr .i64 ((pre1.length:Int)+Int.ofNat 1)=((pre1++[x]).length:Int):=by
    rw [zAn (by simp;omega) (by simp;omega)];simp
   have xorE:∀ (q:V→Ans) (x y:Nat),binK .xor (.int .u8 (x:Int)) (.int .u8 (y:Int)) q=q (.int .u8 ((xorT .u8 x y:Nat):Int)):=fun q x y=>zQM uk8 x y q
   have lorE:∀ (q:V→Ans) (x y:Nat),binK .or (.int .u8 (x:Int)) (.int .u8 (y:Int)) q=q (.int .u8 ((lorT .u8 x y:Nat):Int)):=fun q x y=>u_or uk8 x y q
   rw [zC]
   simp only [zGM,zA f0,zA f1,zA f5,zA f13,zA f14,zI,e1,zO,p1,p2,p3,p4,zK,xorE,lorE,zQ,e3]
   exact ih l2 (pre1++[x]) (pre2++[y]) (lorT .u8 d (xorT .u8 x y)) _ τ m (by rw [h1];simp) (by rw [h2];simp) (by simp [hp]) (by simp at hm;omega) (by rfl) (by rfl) (by rfl) (by rfl) (by rfl) k
theorem zOw (c:zD) (N:Nat) (hN:9223372036854775807≤N) (a b:V) (la lb:List Nat) (hlen:la.length < 1000000) (hla:∀ x ∈ la,x < 256) (hlb:∀ x ∈ lb,x < 256) (H:Heap) (ha:Rd H 1 a la.length (ws .u8 la)) (hb:Rd H 1 b lb.length (ws .u8 lb)) (τ:Tape) (q:KV) :
  zGr c N a b H τ q=q (.bool (decide (la=lb))) H τ:=by
 by_cases heq:la.length=lb.length
 ·have e2:((la.length:Int) != (lb.length:Int))=false:=by simp;omega
  simp only [zGr,ha.pLen,hb.pLen,zK,zCZ,e2,zM]
  rw [zQS c N a b la lb hlen H ha hb heq la lb [] [] 0 _ τ N rfl rfl rfl (by omega) (by rfl) (by rfl) (by rfl) (by rfl) (by rfl)]
  have hz:=diff_zero la lb 0 heq hla hlb (by omega)
  have e3:(((diffT 0 la lb:Nat):Int) == Int.ofNat 0)=decide (la=lb):=by
   rw [Bool.eq_iff_iff,beq_iff_eq,decide_eq_true_iff]
   constructor
   ·intro h;exact (hz.1 (Int.ofNat.inj h)).2
   ·intro h
    rw [hz.2 ⟨rfl,h⟩];rfl
  simp only [zP,Nat.beq_refl,cond_true,seqK,zLh,zJ,↓reduceIte,zY,e3]
 ·have e2:((la.length:Int) != (lb.length:Int))=true:=by simp;omega
  have h:¬ la=lb:=fun h=>heq (by rw [h])
  simp only [zGr,ha.pLen,hb.pLen,zK,zCZ,e2,zO]
  rw [decide_eq_false h]
def toB (l:List Nat):List UInt8:=l.map UInt8.ofNat
theorem bytesOf_ws:∀ l:List Nat,bytesOf (ws .u8 l)=some (toB l):=by
 intro l;induction l with
 | nil=>rfl
 | cons x l ih =>
  show (match bytesOf (ws .u8 l) with | some r=>some (UInt8.ofNat (x:Int).toNat :: r) | none=>none)=_
  rw [ih];rfl
theorem str_rd {H:Heap} {v:V} {n:Nat} {l:List Nat} (h:Rd H 1 v n (ws .u8 l)) (hs:Src H v):zDs [v] H=some (.str (toB l)):=by
 have hl:=h.len
 rcases h with ⟨rfl | ⟨id,off,lo,ex,rfl⟩,rfl,h0⟩ | ⟨id,off,lo,ex,all,rfl,h1,h2,h3⟩
 ·cases l with
  | nil=>rfl
  | cons a l=>simp [ws] at h0
 ·cases l with
  | nil =>
   obtain ⟨all,ha⟩:=hs
   have hl0:H.loads id off 0=some []:=by
    simp only [Heap.loads,ha]
    cases all.drop off <;> rfl
   simp only [zDs,Nat.beq_refl,cond_true,hl0,bytesOf]
   rfl
  | cons a l=>simp [ws] at h0
 ·have hld:H.loads id off n=some (ws .u8 l):=by
   simp only [Heap.loads,h1]
   rw [Nat.mul_one] at h2
   have hle:n≤(all.drop off).length:=by
    have:=congrArg List.length h2
    rw [h3,List.length_take] at this
    omega
   rw [zIk _ _ hle,← h2]
  simp only [zDs,Nat.beq_refl,cond_true,hld,bytesOf_ws]
theorem Rd.src {H:Heap} {v:V} {n:Nat} {cs:List V} (h:Rd H 1 v n cs) (hn:0 < n):Src H v:=by
 rcases h with ⟨_,h0,_⟩ | ⟨id,off,lo,ex,all,rfl,h1,_,_⟩
 ·omega
 ·exact ⟨all,h1⟩
abbrev Has32 (c:zD):Prop:=∀ (v:V) (bs:List Nat),bs.length < 80000→Roomy v→∀ H,WF H→inH H 0 zEl=true→Rd H 1 v bs.length (ws .u8 bs)→Src H v→∀ τ,
 ∃ v' H' τ',Own H' H.size 1 v' 32 (ws .u8 (zOB consts zFW bs))∧Gr H.size H H'∧∀ q,c zDl [.agg (ws .i64 zA6),.agg (ws .u32 zFW),v] H τ q=q v' H' τ'
abbrev Has64 (c:zD):Prop:=∀ (st:List Nat),st.length=8→∀ (v:V) (bs:List Nat),bs.length < 80000→Roomy v→∀ H,WF H→inH H 0 zEl=true→Rd H 1 v bs.length (ws .u8 bs)→Src H v→∀ τ,
 ∃ v' H' τ',Own H' H.size 1 v' 64 (ws .u8 (zKi consts st bs))∧Gr H.size H H'∧∀ q,c zB6 [.agg (ws .i64 zA4),.agg (ws .u64 st),v] H τ q=q v' H' τ'
theorem zPT (c:zD) (N:Nat) (h20:Has32 c) (h21:Has64 c) {bits:Nat} (hb:bits=256∨bits=384∨bits=512) (v:V) (bs:List Nat) (hlen:bs.length < 80000) (hR:Roomy v) (H:Heap) (hw:WF H)
  (ht:inH H 0 zEl=true) (hRd:Rd H 1 v bs.length (ws .u8 bs)) (hsr:Src H v) (τ:Tape) :
  ∃ v' H' τ',Rd H' 1 v' (bits / 8) (ws .u8 (sumT bits bs))∧Roomy v'∧Gr H.size H H'∧∀ q,zFN c N (.int .i64 (bits:Int)) v H τ q=q (.tup [v',.int .i64 (.ofNat 0)]) H' τ':=by
 rcases hb with rfl | rfl | rfl
 ·obtain ⟨v0,H',τ',r1,r2,r3⟩:=h20 v bs hlen hR H hw ht hRd hsr τ
  refine ⟨v0,H',τ',?_,Own.roomy r1,r2,fun q=>?_⟩
  ·have:sumT 256 bs=zOB consts zFW bs:=by unfold sumT;rw [if_pos rfl]
   rw [this];exact Own.rd r1
  ·have l2:zU 17 [.ptr 0 0] H=some (.agg (ws .i64 zA6)):=zAq (off:=0) (n:=17) (zPC ht st0_0) (by decide)
   have l3:zU 8 [.ptr 1 0] H=some (.agg (ws .u32 zFW)):=by
    rw [zAq (off:=0) (n:=8) (zPC ht st0_1) (by rw [zAv,zIh];omega),List.drop_zero,List.take_of_length_le (by rw [zAv,zIh];omega)]
   have q1:(((256:Nat):Int) == (Int.ofNat 256))=true:=rfl
   simp only [zFN,zY,q1,zO,l2,l3,zK,r3]
 ·obtain ⟨v0,H',τ',r1,r2,r3⟩:=h21 zBh zIW v bs hlen hR H hw ht hRd hsr τ
  obtain ⟨v',c1,c2,c3,c4⟩:=(Own.ownP r1 r2.wf).cut3 (k:=48) (by omega) (by omega)
  have e48:(ws .u8 (zKi consts zBh bs)).take 48=ws .u8 ((zKi consts zBh bs).take 48):=by simp [ws,List.map_take]
  have hrd:=c3 H' (by have:=Own.rd r1;exact this)
  rw [e48] at hrd
  refine ⟨v',H',τ',?_,c4,r2,fun q=>?_⟩
  ·have:sumT 384 bs=(zKi consts zBh bs).take 48:=by unfold sumT;rw [if_neg (by decide),if_pos rfl]
   rw [this];exact hrd
  ·have l2:zU 17 [.ptr 2 0] H=some (.agg (ws .i64 zA4)):=zAq (off:=0) (n:=17) (zPC ht st0_2) (by decide)
   have l3:zU 8 [.ptr 3 0] H=some (.agg (ws .u64 zBh)):=by
    rw [zAq (off:=0) (n:=8) (zPC ht st0_3) (by rw [zAv,zIW];omega),List.drop_zero,List.take_of_length_le (by rw [zAv,zIW];omega)]
   have q1:(((384:Nat):Int) == (Int.ofNat 256))=false:=rfl
   have q2:(((384:Nat):Int) == (Int.ofNat 384))=true:=rfl
   have c1':zAI 1 false true true [v0,.int .i64 (.ofNat 48),.int .i64 (.ofNat 48)]=some v':=c1
   simp only [zFN,zY,q1,q2,zO,zM,l2,l3,zK,r3,c1']
 ·obtain ⟨v0,H',τ',r1,r2,r3⟩:=h21 zCC zGf v bs hlen hR H hw ht hRd hsr τ
  refine ⟨v0,H',τ',?_,Own.roomy r1,r2,fun q=>?_⟩
  ·have:sumT 512 bs=zKi consts zCC bs:=by unfold sumT;rw [if_neg (by decide),if_neg (by decide)]
   rw [this];exact Own.rd r1
  ·have l2:zU 17 [.ptr 2 0] H=some (.agg (ws .i64 zA4)):=zAq (off:=0) (n:=17) (zPC ht st0_2) (by decide)
   have l3:zU 8 [.ptr 4 0] H=some (.agg (ws .u64 zCC)):=by
    rw [zAq (off:=0) (n:=8) (zPC ht st0_4) (by rw [zAv,zGf];omega),List.drop_zero,List.take_of_length_le (by rw [zAv,zGf];omega)]
   have q1:(((512:Nat):Int) == (Int.ofNat 256))=false:=rfl
   have q2:(((512:Nat):Int) == (Int.ofNat 384))=false:=rfl
   have q3:(((512:Nat):Int) == (Int.ofNat 512))=true:=rfl
   simp only [zFN,zY,q1,q2,q3,zO,zM,l2,l3,zK,r3]
theorem zPW (c:zD) (N:Nat) (h20:Has32 c) (h21:Has64 c) {bits:Nat} (hb:bits=256∨bits=384∨bits=512) (v:V) (bs:List Nat) (hlen:bs.length < 80000) (hR:Roomy v) (H:Heap) (hw:WF H)
  (ht:inH H 0 zEl=true) (hRd:Rd H 1 v bs.length (ws .u8 bs)) (hsr:Src H v) (τ:Tape) :
  ∃ v' H' τ',Rd H' 1 v' (bits / 8) (ws .u8 (sumT bits bs))∧Gr H.size H H'∧∀ q,zFN c N (.int .i64 (bits:Int)) v H τ q=q (.tup [v',.int .i64 (.ofNat 0)]) H' τ':=by
 obtain ⟨v',H',τ',r1,_,r2,r3⟩:=zPT c N h20 h21 hb v bs hlen hR H hw ht hRd hsr τ
 exact ⟨v',H',τ',r1,r2,r3⟩
theorem zRu {H H':Heap} {B:Nat} (h:inH H 0 zEl=true) (hg:Gr B H H') (hw:WF H) (hB:H.size≤B):inH H' 0 zEl=true:=inH_gr h zQK hg hw hB
end Go.Am.X

namespace Go.Am.X
theorem zNW (c:zD) (N:Nat) (v:V) (n k:Nat) (cs:List V) (hk:0 < k) (hkk:k < 1000000) (H:Heap) (hR:Roomy v) (hRd:Rd H 1 v n cs) :
  ∃ v',Roomy v'∧(Src H v→Src H v')∧Rd H 1 v' (min n k) (cs.take k)∧∀ τ q,zFL c N v (.int .i64 (k:Int)) H τ q=q v' H τ:=by
 by_cases h:k < n
 ·rcases hRd with ⟨_,h0,_⟩ | ⟨id,off,lo,ex,all,rfl,q1,q2,q3⟩
  ·omega
  ·have hb:zDe false true false [V.int .i64 (k:Int)]=some (none,some k,none):=by simp only [zDe,optN,zOd]
   have hwi:within k lo ex=true:=by have hR:within n lo ex=true:=hR;rw [within_iff] at hR ⊢;omega
   have h0:Nat.ble 0 k=true:=Nat.ble_eq_true_of_le (Nat.zero_le _)
   have h1:Nat.ble 0 lo=true:=Nat.ble_eq_true_of_le (Nat.zero_le _)
   have e1:decide ((k:Int) < (n:Int))=true:=decide_eq_true (by omega)
   refine ⟨.sl id off k lo ex 1,hwi,fun h=>h,?_,fun τ q=>?_⟩
   ·rw [Nat.min_eq_right (by omega)]
    refine .inr ⟨id,off,lo,ex,all,rfl,q1,?_,?_⟩
    ·rw [q2,List.take_take];congr 1;omega
    ·rw [List.length_take];omega
   ·have hp:pLen [V.sl id off n lo ex 1]=some (.int .i64 (n:Int)):=rfl
    have hs:zAI 1 false true false [V.sl id off n lo ex 1,V.int .i64 (k:Int)]=some (.sl id off k lo ex 1):=by
     simp only [zAI,Nat.beq_refl,cond_true,hb,zOU,Option.getD_some,Option.getD_none,hwi,h0,Bool.and_self,h1,zOo,Nat.sub_zero]
    simp only [zFL,hp,zL,zA5,e1,zk,hs]
 ·have e1:decide ((k:Int) < (n:Int))=false:=decide_eq_false (by omega)
  refine ⟨v,hR,fun h=>h,?_,fun τ q=>?_⟩
  ·rw [Nat.min_eq_left (by omega),List.take_of_length_le (by have:=hRd.len;omega)]
   exact hRd
  ·simp only [zFL,hRd.pLen,zL,zA5,e1,zn]
end Go.Am.X

namespace Go.Am.X
theorem zQ4:∃ N:Nat,9223372036854775808 < N:=⟨9223372036854775809,by decide⟩
theorem it9C_inj:∀ {a b:List It9},it9C a=it9C b→a=b:=by
 intro a
 induction a with
 | nil=>intro b h;cases b with
  | nil=>rfl
  | cons y b=>simp [it9C,it9] at h
 | cons x a ih=>intro b h;cases b with
  | nil=>simp [it9C,it9] at h
  | cons y b =>
   simp only [it9C,it9,List.cons_append,List.nil_append,List.cons.injEq,V.int.injEq,V.str.injEq,true_and] at h
   obtain ⟨h1,h2,h3,h4⟩:=h
   rw [ih h4]
   obtain ⟨x1,x2,x3⟩:=x
   obtain ⟨y1,y2,y3⟩:=y
   simp only at h1 h2 h3
   subst h2;subst h3
   rw [show x1=y1 by omega]
theorem it9C_vok (H:Heap) (l:List It9):VsOk H (it9C l):=by
 induction l with
 | nil=>trivial
 | cons h l ih=>exact ⟨trivial,trivial,trivial,ih⟩
def RO (M:Nat) (g:Bs→Out) (vs:List V) (_:Heap) (o:Out):Prop:=∃ s,vs=[.str s]∧s.length≤M∧o=g s
theorem RO_fun (M:Nat) (g:Bs→Out):Fun1 (RO M g):=by
 rintro vs H o o' ⟨s,rfl,_,rfl⟩ ⟨s',e,_,rfl⟩
 cases e;rfl
def RI (g:List It9→Out) (vs:List V) (H:Heap) (o:Out):Prop:=∃ v l,vs=[v]∧Rd H 3 v l.length (it9C l)∧l.length≤100000000000∧o=g l
theorem RI_fun (g:List It9→Out):Fun1 (RI g):=by
 rintro vs H o o' ⟨v,l,rfl,h1,_,rfl⟩ ⟨v',l',e,h2,_,rfl⟩
 cases e
 rw [it9C_inj (h1.uniq h2).2]
def itO (l:List It9):Out:=lstO 3 l.length (it9C l) fun v=>v
theorem OwnN.met {H H':Heap} {v:V} {l:List It9} (h:OwnN H' H.size 3 v l.length (it9C l)):(itO l).Met H v H':=by
 unfold itO lstO
 by_cases hn:l.length=0
 ·rw [if_pos hn,h.2 hn];exact ⟨rfl,trivial⟩
 ·rw [if_neg hn]
  refine ⟨mkOk_id,it9C_vok _ _,v,rfl,h.1.freshL fun e=>?_⟩
  rcases h.1 with ⟨_,h0,_⟩ | ⟨_,_,_,_,_,_,_,_,e',_⟩
  ·exact hn h0
  ·rw [e] at e';cases e'
abbrev ParR:=RO 1000000000 fun s=>itO (zAm s)
abbrev StrR:=RI fun l=>itO (zBY l)
theorem zQm (c:zD) (N:Nat) {c1 c2:zD} (N1 N2:Nat) (hI:∀ (r:Nat) (H:Heap),WF H→∀ τ,∃ H',Gr H.size H H'∧∀ q,c2 zEK [.str zCk,.int .i32 (r:Int)] H τ q=q (.int .i64 (if r < 128 then idxB r zCk 0 else -1)) H' τ)
  (h2:∀ a b H τ q,c1 zCx [a,b] H τ q=zC3 c2 N2 a b H τ q) (h1:∀ a H τ q,c zAX [a] H τ q=zET c1 N1 a H τ q):RuneP c (.func zAX [] []) zCk.contains:=by
 intro r H τ hw
 obtain ⟨H',g,k⟩:=hI r H hw τ
 refine ⟨H',g,fun q=>?_⟩
 show c zAX [.int .i32 (r:Int)] H τ q=_
 have hb:bs [9,10,12,13,32]=zCk:=rfl
 have e:decide (Int.ofNat 0≤(if r < 128 then idxB r zCk 0 else -1))=rp zCk.contains r:=by
  unfold rp
  by_cases h:r < 128
  ·rw [if_pos h,if_pos h]
   have:=idx_has (UInt8.ofNat r) zCk
   rw [UInt8.toNat_ofNat',Nat.mod_eq_of_lt (by omega)] at this
   exact this
  ·rw [if_neg h,if_neg h];decide
 rw [h1]
 simp only [zET,hb,h2,zC3,k,zt,e]
noncomputable abbrev zEg:List Row:=[Row.fn zAr zA0 zDv,Row.fn zDm zAT zB7,Row.fn zAX zAa zCf,Row.fn zCx zAF zBU,Row.fn zEK zAd zCY,Row.fn zGJ zBA zEk,Row.fn zAo zAQ zBe,Row.prim zq idxP,Row.prim zDV (outP CutR),Row.fn zDI zBB zEj,Row.prim zEQ (outP LowR)]
theorem zKx:∀ base w0,zFJ PG base w0 zAr (outP ParR):=by
 obtain ⟨N,hN⟩:=zQ4
 refine zIC zJJ (l:=zEg) (.fn zHB zFt (.fn zE9 zEe (.fn zFo zEy (.fn zEb zDY (.fn zFw zEp (.fn zIH zGT (.fn zDk zCv (.prim idxP_ok (.prim zRp (.fn zH6 zGS (.prim zRN (.nil _)))))))))))) N 7 _ ?_
 rintro vs H o hw hvs ⟨s,rfl,hs,rfl⟩ τ
 have hI:Idx70 (CR zEg N 2):=fun s x H τ q=>zHY (CR zEg N 1) N (k_idx fun _ _ _ _=>rfl) s x H τ q
 have hR:RuneP (CR zEg N 5) (.func zAX [] []) zCk.contains:=zQm (CR zEg N 5) N (c1:=CR zEg N 4) (c2:=CR zEg N 3) N N (fun r H hw τ=>zLJ (CR zEg N 2) N (by omega) hI (fun n H τ=>zMz (CR zEg N 1) N n H τ) zCk (by decide) (by decide) r H hw τ) (fun _ _ _ _ _=>rfl) (fun _ _ _ _=>rfl)
 have hF:FldOk (CR zEg N 6):=fun s hs H hw τ=>zK9 (CR zEg N 5) (by omega) zCk.contains (.func zAX [] []) hR (fun x hx=>by
  cases h:zCk.contains x with
  | false=>rfl
  | true =>
   rw [← zRP] at h
   unfold zQs at h
   simp only [Bool.or_eq_true,decide_eq_true_eq] at h
   omega) s hs H hw τ
 have hL:NLowOk (CR zEg N 5):=zRs fun _ _ _ _=>rfl
 have hB:zQz (CR zEg N 6) zDI:=fun s hs H τ q=>zM6 (CR zEg N 5) N hL s hs H τ q
 obtain ⟨v,H',τ',r1,r2,r3⟩:=zMh (CR zEg N 6) (N:=N) (by omega) hF (zRO fun _ _ _ _=>rfl) hB s (by omega) H hw τ
 exact ⟨v,H',τ',r3 retK,r2,r1.met⟩
noncomputable abbrev zFP:List Row:=[Row.fn zAE zAP zBl,Row.fn zBw zAW zBu,Row.fn zBD zx zBE]
theorem zIt:∀ base w0,zFJ PG base w0 zAE (outP StrR):=by
 obtain ⟨N,hN⟩:=zQ4
 refine zIC zJJ (l:=zFP) (.fn zEt zD1 (.fn zEL zDS (.fn zD9 zDB (.nil _)))) N 3 _ ?_
 rintro vs H o hw hvs ⟨v,l,rfl,hr,hl,rfl⟩ τ
 have hC:zPf (CR zFP N 2) (CR zFP N 1):=fun f fv its hil H hw v hr hf τ=>zH0 (CR zFP N 1) (N:=N) (by omega) f fv its hil H hw v hr (fun x hx H' g τ=>hf x hx H' g τ) τ
 obtain ⟨v',H',τ',r1,r2,r3⟩:=zKe (CR zFP N 2) (CR zFP N 1) (N:=N) (by omega) hC (fun x m most H hw hm τ=>zJl (CR zFP N 0) N x m most H hw hm τ) l (by omega) H hw v hr τ
 exact ⟨v',H',τ',r3 retK,r2,r1.met⟩
noncomputable abbrev zJi:List Row:=[Row.fn zEB zFX zJz,Row.fn zKW zFY zKR,Row.fn zGc zEY zIZ,Row.prim zEG (outP PartR),Row.fn zH5 zGj zLY,Row.prim zEA (outP LowR)]
theorem p_ref9_Parse:∀ base w0,zFJ PG base w0 zEB (outP ParR):=by
 obtain ⟨N,hN⟩:=zQ4
 refine zIC zJJ (l:=zJi) (.fn zNw zL9 (.fn zOC zMd (.fn zLI zJa (.prim p_ref1_Part (.fn zPD zNG (.prim p_ref1_Lower (.nil _))))))) N 4 _ ?_
 rintro vs H o hw hvs ⟨s,rfl,hs,rfl⟩ τ
 have hW:WordsOk (CR zJi N 3):=fun s hs H hw τ=>zPR (CR zJi N 2) (N:=N) (by omega) (fun n H τ q=>zLk (CR zJi N 1) N n H τ q) s hs H hw τ
 have hB:zQz (CR zJi N 3) zH5:=fun s hs H τ q=>zPp (CR zJi N 2) N (k_ref1_Lower fun _ _ _ _=>rfl) s hs H τ q
 obtain ⟨v,H',τ',r1,r2,r3⟩:=zPc (CR zJi N 3) (N:=N) (by omega) hW (k_ref1_Part fun _ _ _ _=>rfl) hB s (by omega) H hw τ
 exact ⟨v,H',τ',r3 retK,r2,r1.met⟩
noncomputable abbrev zNq:List Row:=[Row.fn zBO zCP zGN]
theorem zPL:∀ base w0,zFJ PG base w0 zBO (outP StrR):=by
 obtain ⟨N,hN⟩:=zQ4
 refine zIC zJJ (l:=zNq) (.fn zKy zJN (.nil _)) N 1 _ ?_
 rintro vs H o hw hvs ⟨v,l,rfl,hr,hl,rfl⟩ τ
 obtain ⟨v',H',τ',r1,r2,r3⟩:=zNB (CR zNq N 0) (N:=N) (by omega) l (by omega) H hw v hr τ
 exact ⟨v',H',τ',r3 retK,r2,r1.met⟩
abbrev ParOk (c:zD) (f:Nat):Prop:=∀ (s:Bs),s.length≤1000000000→∀ H,WF H→∀ τ,∃ v H' τ',Own H' H.size 3 v (zAm s).length (it9C (zAm s))∧Gr H.size H H'∧∀ q,c f [.str s] H τ q=q v H' τ'
theorem k_Par {c:zD} {f:Nat} (h:IsP c f ParR):ParOk c f:=fun s hs H hw τ=>by
 obtain ⟨v,H',τ',r1,r2,r3⟩:=outK_list h (RO_fun _ _) (H:=H) (z:=3) (n:=(zAm s).length) (cs:=it9C (zAm s)) (mk:=fun v=>v) ⟨s,rfl,hs,rfl⟩ hw (zEN _) τ
 exact ⟨v,H',τ',r1,r2,r3⟩
abbrev StrOk (c:zD) (f:Nat):Prop:=∀ (l:List It9),l.length≤100000000000→∀ H,WF H→∀ v,Rd H 3 v l.length (it9C l)→∀ τ,∃ v' H' τ',Own H' H.size 3 v' (zBY l).length (it9C (zBY l))∧Gr H.size H H'∧∀ q,c f [v] H τ q=q v' H' τ'
theorem k_Str {c:zD} {f:Nat} (h:IsP c f StrR):StrOk c f:=fun l hl H hw v hr τ=>by
 obtain ⟨v',H',τ',r1,r2,r3⟩:=outK_list h (RI_fun _) (H:=H) (z:=3) (n:=(zBY l).length) (cs:=it9C (zBY l)) (mk:=fun v=>v) ⟨v,l,rfl,hr,hl,rfl⟩ hw (zEN _) τ
 exact ⟨v',H',τ',r1,r2,r3⟩
end Go.Am.X

namespace Go.Am.X
def zNn (bs:List Nat) (x:It9):Bool:=match zH1 x.2.1 with | none=>false | some r=>decide (r=sumT x.1 bs)
def zNH (s:Bs) (bs:List Nat):Bool:=if (zAm s).length=0 then true else decide (0 < ((zBY (zAm s)).filter (zNn bs)).length)
theorem cut1_len2 (x:UInt8) (s:Bs):(cut1 x s).2.1.length≤s.length:=by
 unfold cut1
 cases h:cutB x s with
 | none=>simp
 | some p=>obtain ⟨a,b⟩:=p;have:=cutB_len x s a b h;simp only;omega
def Good9 (m:Nat) (x:It9):Prop:=(x.1=256∨x.1=384∨x.1=512)∧x.2.1.length≤m
theorem parseB_good {s:Bs} {x:It9} (h:x ∈ zAm s):Good9 s.length x:=by
 unfold zAm at h
 obtain ⟨w,hw,hi⟩:=List.mem_filterMap.1 h
 have hwl:=zMc s [] w hw
 unfold zL4 at hi
 split at hi
 ·rename_i hc
  cases hi
  refine ⟨?_,?_⟩
  ·have:=hc.2
   unfold zJy at this ⊢
   simp only
   split
   ·exact .inl rfl
   ·split
    ·exact .inr (.inl rfl)
    ·split
     ·exact .inr (.inr rfl)
     ·rename_i a b c;rw [if_neg a,if_neg b,if_neg c] at this;omega
  ·have a:=cut1_len2 45 (cut1 63 w).1
   have b:=zNy 63 w
   simp only [List.length_nil,Nat.zero_add] at hwl
   simp only
   omega
 ·cases hi
theorem zPB {s:Bs} {x:It9} (h:x ∈ zBY (zAm s)):Good9 s.length x:=parseB_good (List.mem_filter.1 h).1
theorem zLX (l:List It9):(zBY l).length≤l.length:=List.length_filter_le _ _
theorem zOi (s:Bs):(zAm s).length≤s.length+1:=Nat.le_trans (List.length_filterMap_le _ _) (zLG s [])
theorem decG_ok:∀ (l:Bs) (w h:Nat) (r:List Nat),decG w h l=some r→r.length≤l.length∧∀ y ∈ r,y < 256:=by
 intro l
 induction l with
 | nil=>intro w h r hr;rw [decG] at hr;cases hr;exact ⟨Nat.le_refl _,by simp⟩
 | cons x l ih =>
  intro w h r hr
  rw [decG] at hr
  cases hv:v64 x with
  | none=>rw [hv] at hr;cases hr
  | some v =>
   rw [hv] at hr
   simp only at hr
   split at hr
   ·cases hd:decG ((w * 64+v) % 65536) (h+6 - 8) l with
    | none=>rw [hd] at hr;cases hr
    | some r' =>
     rw [hd] at hr;cases hr
     obtain ⟨h1,h2⟩:=ih _ _ _ hd
     refine ⟨by simp;omega,fun y hy=>?_⟩
     rcases List.mem_cons.1 hy with rfl | hy
     ·exact Nat.mod_lt _ (by omega)
     ·exact h2 y hy
   ·obtain ⟨h1,h2⟩:=ih _ _ _ hr
    exact ⟨by simp;omega,h2⟩
theorem zQ8 {s:Bs} {r:List Nat} (h:zH1 s=some r):r.length≤s.length∧∀ y ∈ r,y < 256:=by
 unfold zH1 at h
 simp only at h
 have hnl:(nbB s).length≤s.length:=List.length_filter_le _ _
 have hb:(if (nbB s).length % 4=0 then zBn 2 (nbB s) else nbB s).length≤s.length:=by
  split
  ·have:=zOv 2 (nbB s);omega
  ·omega
 generalize (if (nbB s).length % 4=0 then zBn 2 (nbB s) else nbB s)=b at h hb
 by_cases h1:b.length % 4=1
 ·rw [if_pos h1] at h;cases h
 ·rw [if_neg h1] at h
  obtain ⟨h1,h2⟩:=decG_ok _ _ _ _ h
  exact ⟨by omega,h2⟩
theorem wordB_lt (k:IntKind) (x:Nat):∀ n,∀ y ∈ zEw k x n,y < 256:=by
 intro n
 induction n with
 | zero=>intro y hy;simp [zEw] at hy
 | succ n ih =>
  intro y hy
  rw [zEw] at hy
  rcases List.mem_cons.1 hy with rfl | hy
  ·exact Nat.mod_lt _ (by decide)
  ·exact ih y hy
theorem outB_lt (k:IntKind) (n:Nat) (st:List Nat):∀ y ∈ outB k n st,y < 256:=by
 intro y hy
 unfold outB at hy
 obtain ⟨x,_,h⟩:=List.mem_flatMap.1 hy
 exact wordB_lt k x n y h
theorem sumT_lt (bits:Nat) (bs:List Nat):∀ y ∈ sumT bits bs,y < 256:=by
 intro y hy
 unfold sumT at hy
 split at hy
 ·exact outB_lt _ _ _ y hy
 ·split at hy
  ·exact outB_lt _ _ _ y (List.mem_of_mem_take hy)
  ·exact outB_lt _ _ _ y hy
abbrev SumOk (c:zD):Prop:=∀ {bits:Nat},bits=256∨bits=384∨bits=512→∀ (v:V) (bs:List Nat),bs.length < 80000→Roomy v→∀ H,WF H→inH H 0 zEl=true→Rd H 1 v bs.length (ws .u8 bs)→Src H v→∀ τ,
 ∃ v' H' τ',Rd H' 1 v' (bits / 8) (ws .u8 (sumT bits bs))∧Gr H.size H H'∧∀ q,c zKN [.int .i64 (bits:Int),v] H τ q=q (.tup [v',.int .i64 (.ofNat 0)]) H' τ'
abbrev SmeOk (c:zD):Prop:=∀ (a b:V) (la lb:List Nat),la.length < 1000000→(∀ x ∈ la,x < 256)→(∀ x ∈ lb,x < 256)→∀ (H:Heap),Rd H 1 a la.length (ws .u8 la)→Rd H 1 b lb.length (ws .u8 lb)→∀ τ q,c zJF [a,b] H τ q=q (.bool (decide (la=lb))) H τ
theorem zLa (c:zD) (N:Nat) (hB:B64Ok c zF0) (hS:SumOk c) (hE:SmeOk c) (x:It9) {m:Nat} (hx:Good9 m x) (hm:m≤100000) (b:Nat) (v:V) (bs:List Nat) (hbl:bs.length < 80000) (hro:Roomy v)
  (H:Heap) (hw:WF H) (hb:H.cells? b=some [v]) (ht:inH H 0 zEl=true) (hr:Rd H 1 v bs.length (ws .u8 bs)) (hs:Src H v) (τ:Tape) :
  ∃ H' τ',Gr H.size H H'∧∀ q,zCo c N (.agg (it9 x)) (.ptr b 0) H τ q=q (.bool (zNn bs x)) H' τ':=by
 have g1:=Gr.new hw (it9 x) 3 true
 have cc:=zBj H (it9 x) 3 true
 have b0:eBox [.agg (it9 x)] H τ=some (.ptr H.size 0,H.new (it9 x) 3 true,τ):=rfl
 have hlt:H.size < (H.new (it9 x) 3 true).size:=Nat.lt_succ_self _
 generalize H.new (it9 x) 3 true=H1 at g1 cc b0 hlt
 have l1:zF [.ptr H.size 1] H1=some (.str x.2.1):=zm cc rfl
 obtain ⟨v1,H2,τ2,g2,r2,k2⟩:=hB x.2.1 (by have:=hx.2;omega) H1 g1.wf τ
 have g12:=g1.trans g2 g1.size
 have l2:zF [.ptr H.size 0] H2=some (.int .i64 (x.1:Int)):=zm (g2.cells g1.wf (Nat.le_refl _) cc) rfl
 have l3:zF [.ptr b 0] H2=some v:=zm (g12.cells hw (Nat.le_refl _) hb) rfl
 obtain ⟨v3,H3,τ3,r3,g3,k3⟩:=hS hx.1 v bs hbl hro H2 g2.wf (zRu ht g12 hw (Nat.le_refl _)) (hr.gr g12 hw (Nat.le_refl _)) (hs.gr g12 hw (Nat.le_refl _)) τ2
 refine ⟨H3,τ3,g12.trans g3 g12.size,fun q=>?_⟩
 have x0:∀ a b:V,zT 0 [.tup [a,b]]=some a:=fun _ _=>rfl
 have x1:∀ a b:V,zT 1 [.tup [a,b]]=some b:=fun _ _=>rfl
 have ez:(Int.ofNat 0 == Int.ofNat 0)=true:=rfl
 unfold zNn
 cases hbo:zH1 x.2.1 with
 | none =>
  rw [hbo] at k2
  simp only [Option.isSome_none] at k2
  simp only [zCo,b0,zZ,zG,Nat.zero_add,Nat.add_zero,zK,l1,k2,x0,x1,l2,l3,k3,zC9,zB4,zg,cond_false]
 | some r =>
  rw [hbo] at k2 r2
  simp only [Option.isSome_some] at k2
  obtain ⟨hrl,hrb⟩:=zQ8 hbo
  have rr:=(show Rd H2 1 v1 r.length (ws .u8 r) from r2.1).gr g3 g2.wf (Nat.le_refl _)
  have r3':Rd H3 1 v3 (sumT x.1 bs).length (ws .u8 (sumT x.1 bs)):=by rw [sumT_len hx.1];exact r3
  have k4:=fun q=>hE v1 v3 r (sumT x.1 bs) (by have:=hx.2;omega) hrb (sumT_lt _ _) H3 rr r3' τ3 q
  simp only [zCo,b0,zZ,zG,Nat.zero_add,Nat.add_zero,zK,l1,k2,x0,x1,l2,l3,k3,zE5,retK,zY,ez,zg,cond_true,k4]
theorem Rd.scal {H:Heap} {z:Nat} {v:V} {n:Nat} {cs:List V} (h:Rd H z v n cs):v.cells=[v]:=by
 rcases h with ⟨rfl | ⟨_,_,_,_,rfl⟩,_⟩ | ⟨_,_,_,_,_,rfl,_⟩ <;> rfl
abbrev Hld1Ok (c:zD):Prop:=∀ (x:It9) {m:Nat},Good9 m x→m≤100000→∀ (b:Nat) (v:V) (bs:List Nat),bs.length < 80000→Roomy v→∀ (H:Heap),WF H→H.cells? b=some [v]→inH H 0 zEl=true→Rd H 1 v bs.length (ws .u8 bs)→Src H v→∀ τ,
  ∃ H' τ',Gr H.size H H'∧∀ q,c zCl [.agg (it9 x),.ptr b 0] H τ q=q (.bool (zNn bs x)) H' τ'
theorem zMU (c c':zD) (N:Nat) (hP:ParOk c zAr) (hS:StrOk c zAE) (hC:zPf c c') (hT:Hld1Ok c') (s:Bs) (hs:s.length≤100000) (v:V) (bs:List Nat) (hbl:bs.length < 80000) (hro:Roomy v)
  (H:Heap) (hw:WF H) (ht:inH H 0 zEl=true) (hr:Rd H 1 v bs.length (ws .u8 bs)) (hsr:Src H v) (τ:Tape) :
  ∃ H' τ',Gr H.size H H'∧∀ q,zD3 c N (.str s) v H τ q=q (.bool (zNH s bs)) H' τ':=by
 have hsc:=Rd.scal hr
 have g1:=Gr.new hw [v] 1 true
 have c1:=zBj H [v] 1 true
 have hlt:H.size < (H.new [v] 1 true).size:=Nat.lt_succ_self _
 have b0:eBox [v] H τ=some (.ptr H.size 0,H.new [v] 1 true,τ):=by simp only [eBox,hsc];rfl
 generalize H.new [v] 1 true=H1 at g1 c1 b0 hlt
 obtain ⟨v3,H2,τ2,r2,g2,k2⟩:=hP s (by omega) H1 g1.wf τ
 have hpl:=zOi s
 obtain ⟨v6,H3,τ3,r3,g3,k3⟩:=hS (zAm s) (by omega) H2 g2.wf v3 r2.rd τ2
 have hsl:=zLX (zAm s)
 have g12:=g1.trans g2 g1.size
 have g13:=g12.trans g3 g12.size
 obtain ⟨v10,H4,τ4,r4,g4,k4⟩:=hC (zNn bs) (.func zCl [] [.ptr H.size 0]) (zBY (zAm s)) (by omega) H3 g3.wf v6 r3.rd (fun x hx H5 g5 τ5=>by
  have g15:Gr H.size H H5:=g13.trans g5 g13.size
  have hc5:H5.cells? H.size=some [v]:=g5.cells g3.wf (Nat.le_refl _) (g3.cells g2.wf (Nat.le_refl _) (g2.cells g1.wf (Nat.le_refl _) c1))
  obtain ⟨H6,τ6,g6,k6⟩:=hT x (zPB hx) hs H.size v bs hbl hro H5 g5.wf hc5 (zRu ht g15 hw (Nat.le_refl _)) (hr.gr g15 hw (Nat.le_refl _)) (hsr.gr g15 hw (Nat.le_refl _)) τ5
  exact ⟨H6,τ6,g6,fun q=>k6 q⟩) τ3
 refine ⟨H4,τ4,g13.trans g4 g13.size,fun q=>?_⟩
 unfold zNH
 by_cases h0:(zAm s).length=0
 ·have e1:(((zAm s).length:Int) == Int.ofNat 0)=true:=by rw [h0];rfl
  rw [if_pos h0]
  simp only [zD3,b0,zZ,k2,k3,List.take_zero,List.drop_zero,zK,k4,r2.rd.pLen,zY,e1,zE3,zB4,zg,cond_true]
 ·have e1:(((zAm s).length:Int) == Int.ofNat 0)=false:=by rw [beq_eq_false_iff_ne];have:Int.ofNat 0=0:=rfl;omega
  rw [if_neg h0]
  have e2:decide (Int.ofNat 0 < (((zBY (zAm s)).filter (zNn bs)).length:Int))=decide (0 < ((zBY (zAm s)).filter (zNn bs)).length):=by
   rw [Bool.eq_iff_iff,decide_eq_true_eq,decide_eq_true_eq];have:Int.ofNat 0=0:=rfl;omega
  simp only [zD3,b0,zZ,k2,k3,List.take_zero,List.drop_zero,zK,k4,r2.rd.pLen,zY,e1,zIi,retK,r4.1.rd.pLen,zA5,e2,zg,cond_false]
def HolR (vs:List V) (H:Heap) (o:Out):Prop:=∃ (s:Bs) (v:V) (bs:List Nat),vs=[.str s,v]∧s.length≤100000∧bs.length < 80000∧Rd H 1 v bs.length (ws .u8 bs)∧Src H v∧inH H 0 zEl=true∧o=.val (.bool (zNH s bs))
theorem ws_inj {k:IntKind}:∀ {a b:List Nat},ws k a=ws k b→a=b:=by
 intro a
 induction a with
 | nil=>intro b h;cases b with
  | nil=>rfl
  | cons y b=>simp [ws] at h
 | cons x a ih=>intro b h;cases b with
  | nil=>simp [ws] at h
  | cons y b =>
   simp only [ws,List.map_cons,List.cons.injEq,V.int.injEq,true_and] at h
   rw [ih h.2,show x=y by omega]
theorem HolR_fun:Fun1 HolR:=by
 rintro vs H o o' ⟨s,v,bs,rfl,_,_,h1,_,_,rfl⟩ ⟨s',v',bs',e,_,_,h2,_,_,rfl⟩
 cases e
 rw [ws_inj (h1.uniq h2).2]
noncomputable abbrev zz:List Row:=[Row.fn zBg zAz zDw,Row.prim zAr (outP ParR),Row.prim zAE (outP StrR),Row.fn zBw zAW zBu,Row.fn zCl zAZ zCc,Row.fn zF0 zBm zF2,Row.fn zAo zAQ zBe,Row.prim zq idxP,
 Row.fn zKN zDX zIp,Row.fn zJF zCO zHX,Row.fn zDl zAV zB8,Row.fn zB6 zAS zCA,Row.fn zCh zAg zCe,Row.fn zCV zAf zCm,
 Row.fn zA2 zAC zBT,Row.fn zBf zAe zCj,Row.fn zA1 zAA zBV,Row.fn zBb zAc zCg,Row.fn zAD zAO zBp,Row.fn zAB zAL zBo]
theorem rows_Holds:zLr PG zz :=
 .fn zHU zFm (.prim zKx (.prim zIt (.fn zEL zDS (.fn zFp zEr (.fn zJn zH7 (.fn zDk zCv (.prim idxP_ok
 (.fn zLD zJc (.fn zKY zIu (.fn zFD zEa (.fn zFQ zEV (.fn zFu zE0 (.fn zFv zEv
 (.fn zEH zDc (.fn zFs zEs (.fn zEd zDf (.fn zFn zEz (.fn zEx zD5 (.fn zEq zDr (.nil _))))))))))))))))))))
theorem sum_rows {N:Nat} (hN:9223372036854775808 < N):SumOk (CR zz N 5):=by
 have li32:Lit33 (CR zz N 2):=fun x a b e ha hb he H hw τ=>dg33_eval (CR zz N 1) N ha hb he (by omega) (fun n hn H τ q=>dg39_eval (CR zz N 0) N hn (by omega) H τ q) H hw τ
 have bi32:Big34 (CR zz N 2):=fun x a b e ha hb he H hw τ=>dg34_eval (CR zz N 1) N ha hb he (by omega) (fun n hn H τ q=>dg39_eval (CR zz N 0) N hn (by omega) H τ q) H hw τ
 have li64:Lit35 (CR zz N 2):=fun x a b e ha hb he H hw τ=>dg35_eval (CR zz N 1) N ha hb he (Nat.le_refl _) (fun n hn H τ q=>dg40_eval (CR zz N 0) N hn (Nat.le_refl _) H τ q) H hw τ
 have bi64:Big36 (CR zz N 2):=fun x a b e ha hb he H hw τ=>dg36_eval (CR zz N 1) N ha hb he (Nat.le_refl _) (fun n hn H τ q=>dg40_eval (CR zz N 0) N hn (Nat.le_refl _) H τ q) H hw τ
 have mx32:Mix28 (CR zz N 3) consts:=fun S K v bs st hKS hlen h64 hR hst H hw hK hS hC5 hRd τ=>zLL (CR zz N 2) N (by omega) S K hKS v bs st consts hlen h64 hR hst zH8 li32 bi32 H hw hK hS hC5 hRd τ
 have mx64:Mix29 (CR zz N 3) consts:=fun S K v bs st hKS hlen h64 hR hst H hw hK hS hC5 hRd τ=>zLC (CR zz N 2) N (by omega) S K hKS v bs st consts hlen h64 hR hst zH8 li64 bi64 H hw hK hS hC5 hRd τ
 have h32:Has32 (CR zz N 4):=fun v bs hlen hR H hw ht hRd hsr τ=>zK8 (CR zz N 3) N (by omega) v bs zFW consts hlen hR zIh mx32 H hw (zPC ht st0_5) hRd hsr τ
 have h64:Has64 (CR zz N 4):=fun st hst v bs hlen hR H hw ht hRd hsr τ=>zLA (CR zz N 3) N (by omega) v bs st consts hlen hR hst mx64 H hw (zPC ht st0_5) hRd hsr τ
 intro bits hb v bs hlen hR H hw ht hRd hsr τ
 exact zPW (CR zz N 4) N h32 h64 hb v bs hlen hR H hw ht hRd hsr τ
theorem zOq:∀ base w0,zFJ PG base w0 zBg (outP HolR):=by
 obtain ⟨N,hN⟩:=zQ4
 refine zIC zJJ rows_Holds N 8 _ ?_
 rintro vs H o hw hvs ⟨s,v,bs,rfl,hs,hbl,hr,hsr,ht,rfl⟩ τ
 have hro:Roomy v:=VOk.roomy hvs.2.1
 have hI:Idx70 (CR zz N 4):=fun s x H τ q=>zHY (CR zz N 3) N (k_idx fun _ _ _ _=>rfl) s x H τ q
 have hB:B64Ok (CR zz N 5) zF0:=fun s hs H hw τ=>zON (CR zz N 4) (N:=N) (by omega) hI s hs H hw τ
 have hE:SmeOk (CR zz N 5):=fun a b la lb h1 h2 h3 H ha hb τ q=>zOw (CR zz N 4) N (by omega) a b la lb h1 h2 h3 H ha hb τ q
 have hT:Hld1Ok (CR zz N 6):=fun x _ hx hm b v bs hbl hro H hw hb ht hr hs τ=>zLa (CR zz N 5) N hB (sum_rows hN) hE x hx hm b v bs hbl hro H hw hb ht hr hs τ
 have hC:zPf (CR zz N 7) (CR zz N 6):=fun f fv its hil H hw v hr hf τ=>zH0 (CR zz N 6) (N:=N) (by omega) f fv its hil H hw v hr (fun x hx H' g τ=>hf x hx H' g τ) τ
 obtain ⟨H',τ',g,k⟩:=zMU (CR zz N 7) (CR zz N 6) N (k_Par fun _ _ _ _=>rfl) (k_Str fun _ _ _ _=>rfl) hC hT s hs v bs hbl hro H hw ht hr hsr τ
 exact ⟨_,H',τ',k retK,g,rfl,trivial⟩
abbrev HolOk (c:zD):Prop:=∀ (s:Bs),s.length≤100000→∀ (v:V) (bs:List Nat),bs.length < 80000→∀ H,Rd H 1 v bs.length (ws .u8 bs)→Src H v→inH H 0 zEl=true→∀ τ q,c zBg [.str s,v] H τ q=q (.bool (zNH s bs)) H τ
theorem k_Holds {c:zD} (h:IsP c zBg HolR):HolOk c:=fun s hs v bs hbl H hr hsr ht τ q=>outK_val h HolR_fun ⟨s,v,bs,rfl,hs,hbl,hr,hsr,ht,rfl⟩ τ q
end Go.Am.X

namespace Go.Am.X
theorem mostB_mem:∀ (l:List It9),l≠[]→∃ x ∈ l,x.1=zHe l:=by
 have key:∀ (l:List It9) (m:Nat),(l.foldl (fun m x=>max m x.1) m=m)∨∃ x ∈ l,x.1=l.foldl (fun m x=>max m x.1) m:=by
  intro l
  induction l with
  | nil=>intro m;exact .inl rfl
  | cons y l ih =>
   intro m
   rw [List.foldl_cons]
   rcases ih (max m y.1) with h | ⟨x,hx,h⟩
   ·rw [h]
    by_cases hm:y.1≤m
    ·exact .inl (by omega)
    ·exact .inr ⟨y,by simp,by omega⟩
   ·exact .inr ⟨x,by simp [hx],h⟩
 have ge:∀ (l:List It9) (m:Nat),m≤l.foldl (fun m x=>max m x.1) m∧∀ x ∈ l,x.1≤l.foldl (fun m x=>max m x.1) m:=by
  intro l
  induction l with
  | nil=>intro m;exact ⟨Nat.le_refl _,by simp⟩
  | cons y l ih =>
   intro m
   rw [List.foldl_cons]
   obtain ⟨h1,h2⟩:=ih (max m y.1)
   refine ⟨by omega,fun x hx=>?_⟩
   rcases List.mem_cons.1 hx with rfl | hx
   ·omega
   ·exact h2 x hx
 intro l hl
 unfold zHe
 rcases key l 0 with h | h
 ·obtain ⟨y,t,rfl⟩:=List.exists_cons_of_ne_nil hl
  refine ⟨y,by simp,?_⟩
  have:=(ge (y :: t) 0).2 y (by simp)
  rw [h] at this ⊢;omega
 ·exact h
theorem zPr (l:List It9):(zBY l).length=0 ↔ l.length=0:=by
 constructor
 ·intro h
  by_cases hl:l=[]
  ·rw [hl];rfl
  ·obtain ⟨x,hx,he⟩:=mostB_mem l hl
   have:x ∈ zBY l:=List.mem_filter.2 ⟨hx,decide_eq_true he⟩
   rw [List.length_eq_zero_iff.1 h] at this
   simp at this
 ·intro h
  have:=zLX l
  omega
theorem toB_inj:∀ (l m:List Nat),(∀ x ∈ l,x < 256)→(∀ x ∈ m,x < 256)→toB l=toB m→l=m:=by
 intro l
 induction l with
 | nil=>intro m _ _ h;cases m with | nil=>rfl | cons a m=>simp [toB] at h
 | cons a l ihl=>intro m hl hm h;cases m with
  | nil=>simp [toB] at h
  | cons b m =>
   simp only [toB,List.map_cons,List.cons.injEq] at h
   have ha:=hl a (by simp)
   have hb:=hm b (by simp)
   have hab:a=b:=by
    have:=congrArg UInt8.toNat h.1
    rw [UInt8.toNat_ofNat',UInt8.toNat_ofNat'] at this
    omega
   rw [hab,ihl m (fun x hx=>hl x (by simp [hx])) (fun x hx=>hm x (by simp [hx])) h.2]
theorem toB_eq {l m:List Nat} (hl:∀ x ∈ l,x < 256) (hm:∀ x ∈ m,x < 256):zIv .eql (toB l) (toB m)=some (.bool (decide (l=m))):=by
 rw [zNk]
 congr 2
 rw [Bool.eq_iff_iff,decide_eq_true_eq,decide_eq_true_eq]
 exact ⟨toB_inj l m hl hm,fun h=>by rw [h]⟩
abbrev TSumOk (c:zD):Prop:=∀ {bits:Nat},bits=256∨bits=384∨bits=512→∀ (t:Nat) (v:V) (bs:List Nat),(∀ b ∈ bs,b < 256)→bs.length < 80000→∀ H,WF H→Bx H t (ws .u64 zBW)→Rd H 1 v bs.length (ws .u8 bs)→Src H v→∀ τ,
 ∃ v' H' τ',Rd H' 1 v' (bits / 8) (ws .u8 (sumT bits bs))∧Gr H.size H H'∧∀ q,c zGF [.ptr t 0,.int .i64 (bits:Int),v] H τ q=q (.tup [v',.bool true]) H' τ'
theorem l_rholds (c:zD) (N:Nat) (hB:B64Ok c zFV) (hS:TSumOk c) {m:Nat} (hm:m≤100000) (its:List It9) (hil:its.length≤200000000000) (hgo:∀ x ∈ its,Good9 m x) (t:Nat) (v2:V) (bs:List Nat) (hbb:∀ b ∈ bs,b < 256) (hbl:bs.length < 80000)
  (H0:Heap) (hw0:WF H0) (v7:V) (hr:Rd H0 3 v7 its.length (it9C its)) (hbt:Bx H0 t (ws .u64 zBW)) (hrb:Rd H0 1 v2 bs.length (ws .u8 bs)) (hsb:Src H0 v2) :
  ∀ (l pre:List It9) (M:Nat) (H:Heap) (τ:Tape),its=pre++l→l.length < M→Gr H0.size H0 H →
  ∃ H' τ',Gr H0.size H H' ∧
   ∀ (fr:T V) k,fr.get 0=some (.ptr t 0)→fr.get 2=some v2→fr.get 7=some v7→fr.get 8=some (.int .i64 (pre.length:Int)) →
    zW (zBk c N) M ⟨fr,H⟩ τ k=if l.any (zNn bs)=true then k .ret ⟨(T.set .leaf 6 (.bool true)),H'⟩ τ' else k (.exit 0) ⟨(T.set .leaf 7 v7),H'⟩ τ':=by
 intro l
 induction l with
 | nil =>
  intro pre M H τ he hM hg
  obtain ⟨M,rfl⟩:∃ j,M=j+1:=⟨M - 1,by omega⟩
  have e1:decide ((pre.length:Int) < (its.length:Int))=false:=decide_eq_false (by rw [he];simp)
  refine ⟨H,τ,Gr.refl hg.wf,fun fr k f0 f2 f7 f8=>?_⟩
  rw [zC,if_neg (by simp)]
  simp only [zBk,zA f0,zA f2,zA f7,zA f8,(hr.gr hg hw0 (Nat.le_refl _)).pLen,zK,zI,e1,zM]
  rfl
 | cons x l ih =>
  intro pre M H τ he hM hg
  obtain ⟨M,rfl⟩:∃ j,M=j+1:=⟨M - 1,by omega⟩
  have hw:=hg.wf
  have hlt:pre.length < its.length:=by rw [he];simp
  have e1:decide ((pre.length:Int) < (its.length:Int))=true:=decide_eq_true (by omega)
  have hrH:=hr.gr hg hw0 (Nat.le_refl _)
  have e6:wr .i64 ((pre.length:Int)+Int.ofNat 1)=((pre++[x]).length:Int):=by rw [adI (by omega)];simp
  have hx:=hgo x (by rw [he];simp)
  obtain ⟨id,o,p1,_,p3,p4,_⟩:=zMp pre x l (by rw [← he];exact hrH)
  obtain ⟨v1,H1,τ1,g1,r1,k1⟩:=hB x.2.1 (by have:=hx.2;omega) H hw τ
  have hg1:=hg.trans g1 hg.size
  have hrH1:=hr.gr hg1 hw0 (Nat.le_refl _)
  obtain ⟨id',o',p1',_,p3',_,_⟩:=zMp pre x l (by rw [← he];exact hrH1)
  rw [p1] at p1';cases p1'
  obtain ⟨v3,H2,τ2,r2,g2,k2⟩:=hS hx.1 t v2 bs hbb hbl H1 g1.wf (hbt.gr hg1 (hbt.lt hw0)) (hrb.gr hg1 hw0 (Nat.le_refl _)) (hsb.gr hg1 hw0 (Nat.le_refl _)) τ1
  have hg2:=hg1.trans g2 hg1.size
  have x0:∀ a b:V,zT 0 [.tup [a,b]]=some a:=fun _ _=>rfl
  have x1:∀ a b:V,zT 1 [.tup [a,b]]=some b:=fun _ _=>rfl
  have g02:Gr H0.size H H2:=(g1.weaken hg.size).trans (g2.weaken (Nat.le_trans hg.size g1.size)) (Nat.le_refl _)
  have step:∀ (b:Bool),zNn bs x=b→∀ (fr:T V) (k:KC),fr.get 0=some (.ptr t 0)→fr.get 2=some v2→fr.get 7=some v7→fr.get 8=some (.int .i64 (pre.length:Int)) →
    zW (zBk c N) (M+1) ⟨fr,H⟩ τ k=if b=true then k .ret ⟨(T.set .leaf 6 (.bool true)),H2⟩ τ2 else zW (zBk c N) M ⟨(T.set (T.set (T.set (T.set (T.set (T.set (T.set .leaf 0 (.ptr t 0)) 2 v2) 7 v7) 8 (.int .i64 (pre.length:Int))) 20 (.int .i64 (pre.length:Int))) 21 (.int .i64 ((pre++[x]).length:Int))) 8 (.int .i64 ((pre++[x]).length:Int))),H2⟩ τ2 k:=by
   intro b hb fr k f0 f2 f7 f8
   rw [zC]
   unfold zNn at hb
   cases hbo:zH1 x.2.1 with
   | none =>
    rw [hbo] at k1 hb
    simp only at hb
    subst hb
    simp only [Option.isSome_none] at k1
    rw [if_neg (by decide)]
    simp only [zBk,zA f0,zA f2,zA f7,zA f8,hrH.pLen,zK,zI,e1,zO,p1,zG,Nat.add_zero,p4,k1,x0,x1,p3',k2,zC9,zB4,zg,cond_false,zM,zQ,e6]
    rfl
   | some r =>
    rw [hbo] at k1 r1 hb
    simp only at hb
    simp only [Option.isSome_some] at k1
    obtain ⟨hrl,hrbb⟩:=zQ8 hbo
    have rr1:Rd H1 1 v1 r.length (ws .u8 r):=r1.1
    have rr:=rr1.gr g2 g1.wf (Nat.le_refl _)
    have rs:=(show Src H1 v1 from r1.2).gr g2 g1.wf (Nat.le_refl _)
    have s1:=str_rd rr rs
    have hb8:0 < x.1 / 8:=by rcases hx.1 with h | h | h <;> rw [h] <;> decide
    have s2:=str_rd r2 (Rd.src r2 hb8)
    have e7:=toB_eq hrbb (sumT_lt x.1 bs)
    rw [hb] at e7
    cases b with
    | true =>
     rw [if_pos rfl]
     simp only [zBk,zA f0,zA f2,zA f7,zA f8,hrH.pLen,zK,zI,e1,zO,p1,zG,Nat.add_zero,p4,k1,x0,x1,p3',k2,zE5,retK,zZ,s1,s2,zDb,e7,zg,cond_true]
     rfl
    | false =>
     rw [if_neg (by decide)]
     simp only [zBk,zA f0,zA f2,zA f7,zA f8,hrH.pLen,zK,zI,e1,zO,p1,zG,Nat.add_zero,p4,k1,x0,x1,p3',k2,zE5,retK,zZ,s1,s2,zDb,e7,zg,cond_true,zM,zQ,e6]
     rfl
  cases hf:zNn bs x with
  | true =>
   refine ⟨H2,τ2,g02,fun fr k f0 f2 f7 f8=>?_⟩
   rw [step true hf fr k f0 f2 f7 f8,if_pos rfl,if_pos (by rw [List.any_cons,hf];rfl)]
  | false =>
   obtain ⟨H',τ',q1,q2⟩:=ih (pre++[x]) M H2 τ2 (by rw [he];simp) (by simp at hM;omega) hg2
   refine ⟨H',τ',g02.trans q1 (Nat.le_refl _),fun fr k f0 f2 f7 f8=>?_⟩
   rw [step false hf fr k f0 f2 f7 f8,if_neg (by decide),q2 _ _ (by rfl) (by rfl) (by rfl) (by rfl),List.any_cons,hf,Bool.false_or]
theorem any_filter (f:It9→Bool) (l:List It9):l.any f=decide (0 < (l.filter f).length):=by
 rw [Bool.eq_iff_iff,decide_eq_true_eq,List.any_eq_true,List.length_pos_iff_exists_mem]
 exact ⟨fun ⟨x,h1,h2⟩=>⟨x,List.mem_filter.2 ⟨h1,h2⟩⟩,fun ⟨x,h⟩=>⟨x,(List.mem_filter.1 h).1,(List.mem_filter.1 h).2⟩⟩
theorem zPN (c:zD) {N:Nat} (hN:9223372036854775807≤N) (hP:ParOk c zEB) (hT:StrOk c zBO) (hB:B64Ok c zFV) (hS:TSumOk c) (s:Bs) (hs:s.length≤100000) (t:Nat) (v:V) (bs:List Nat) (hbb:∀ b ∈ bs,b < 256) (hbl:bs.length < 80000)
  (H:Heap) (hw:WF H) (hbt:Bx H t (ws .u64 zBW)) (hr:Rd H 1 v bs.length (ws .u8 bs)) (hsr:Src H v) (τ:Tape) :
  ∃ H' τ',Gr H.size H H'∧∀ q,zKP c N (.ptr t 0) (.str s) v H τ q=q (.bool (zNH s bs)) H' τ':=by
 obtain ⟨v0,H1,τ1,r1,g1,k1⟩:=hP s (by omega) H hw τ
 have hpl:=zOi s
 obtain ⟨v3,H2,τ2,r2,g2,k2⟩:=hT (zAm s) (by omega) H1 g1.wf v0 r1.rd τ1
 have hsl:=zLX (zAm s)
 have g12:=g1.trans g2 g1.size
 obtain ⟨H',τ',q1,q2⟩:=l_rholds c N hB hS hs (zBY (zAm s)) (by omega) (fun x hx=>zPB hx) t v bs hbb hbl H2 g2.wf v3 r2.rd (hbt.gr g12 (hbt.lt hw)) (hr.gr g12 hw (Nat.le_refl _)) (hsr.gr g12 hw (Nat.le_refl _)) (zBY (zAm s)) [] N H2 τ2 rfl (by omega) (Gr.refl g2.wf)
 refine ⟨H',τ',g12.trans q1 g12.size,fun q=>?_⟩
 simp only [zKP,k1,k2]
 rw [q2 _ _ (by rfl) (by rfl) (by rfl) (by rfl)]
 have hA:=any_filter (zNn bs) (zBY (zAm s))
 unfold zNH
 by_cases h0:(zAm s).length=0
 ·have hs0:=(zPr (zAm s)).2 h0
  have hf0:((zBY (zAm s)).any (zNn bs))=false:=by rw [List.length_eq_zero_iff.1 hs0];rfl
  have e1:(((zBY (zAm s)).length:Int) == Int.ofNat 0)=true:=by rw [hs0];rfl
  rw [if_pos h0,hf0,if_neg (by decide)]
  simp only [zP,Nat.beq_refl,cond_true,seqK,zJP,zJ,↓reduceIte,(r2.rd.gr q1 g2.wf (Nat.le_refl _)).pLen,zK,zY,e1]
 ·rw [if_neg h0,← hA]
  cases hf:(zBY (zAm s)).any (zNn bs) with
  | true =>
   rw [if_pos rfl]
   simp only [zP,seqK,endK]
   rfl
  | false =>
   have hs0:(zBY (zAm s)).length≠0:=fun h=>h0 ((zPr (zAm s)).1 h)
   have e1:(((zBY (zAm s)).length:Int) == Int.ofNat 0)=false:=by rw [beq_eq_false_iff_ne];have:Int.ofNat 0=0:=rfl;omega
   rw [if_neg (by decide)]
   simp only [zP,Nat.beq_refl,cond_true,seqK,zJP,zJ,↓reduceIte,(r2.rd.gr q1 g2.wf (Nat.le_refl _)).pLen,zK,zY,e1]
abbrev RHolOk (c:zD):Prop:=∀ (s:Bs),s.length≤100000→∀ (t:Nat) (v:V) (bs:List Nat),(∀ b ∈ bs,b < 256)→bs.length < 80000→∀ H,WF H→Bx H t (ws .u64 zBW)→Rd H 1 v bs.length (ws .u8 bs)→Src H v→∀ τ,
 ∃ H' τ',Gr H.size H H'∧∀ q,c zKK [.ptr t 0,.str s,v] H τ q=q (.bool (zNH s bs)) H' τ'
abbrev RNewOk (c:zD):Prop:=∀ H,WF H→∀ τ,∃ H' τ',Bx H' H.size (ws .u64 zBW)∧Gr H.size H H'∧∀ q,c zMs [] H τ q=q (.ptr H.size 0) H' τ'
abbrev Sam9Ok (c:zD):Prop:=∀ (its:List It9),its.length≤200000000000→∀ (a b:V) (H:Heap),Rd H 3 a its.length (it9C its)→Rd H 3 b its.length (it9C its)→∀ τ q,c zJk [a,b] H τ q=q (.bool true) H τ
abbrev FewBOk (c:zD):Prop:=∀ (v:V) (n k:Nat) (cs:List V),0 < k→k < 1000000→∀ (H:Heap),Roomy v→Rd H 1 v n cs→∃ v',Roomy v'∧(Src H v→Src H v')∧Rd H 1 v' (min n k) (cs.take k)∧∀ τ q,c zFO [v,.int .i64 (k:Int)] H τ q=q v' H τ
theorem zJx (c:zD) (N:Nat) (hFew:∀ (s:Bs) (m:Nat) H τ q,c zK6 [.str s,.int .i64 (m:Int)] H τ q=q (.str (s.take m)) H τ) (hFB:FewBOk c) (hP:ParOk c zAr) (hRP:ParOk c zEB) (hS:StrOk c zAE) (hRS:StrOk c zBO) (hSm:Sam9Ok c) (hH:HolOk c) (hNew:RNewOk c) (hRH:RHolOk c)
  (hK:∀ H,inH H 0 zEl=true→∀ τ q,c zIR [] H τ q=q (.bool true) H τ) (s:Bs) (v:V) (bs:List Nat) (hbb:∀ b ∈ bs,b < 256) (hro:Roomy v) (H:Heap) (hw:WF H) (ht:inH H 0 zEl=true) (hr:Rd H 1 v bs.length (ws .u8 bs)) (hsr:Src H v) (τ:Tape) :
  ∃ H' τ',Gr H.size H H'∧∀ q,zC4 c N (.str s) v H τ q=q (.bool true) H' τ':=by
 obtain ⟨v3,a1,a2,a3,a4⟩:=hFB v bs.length 500 (ws .u8 bs) (by omega) (by omega) H hro hr
 have a2:=a2 hsr
 have e5:(ws .u8 bs).take 500=ws .u8 (bs.take 500):=by simp [ws,List.map_take]
 have hl5:min bs.length 500=(bs.take 500).length:=by rw [List.length_take];omega
 rw [e5,hl5] at a3
 have hbb5:∀ b ∈ bs.take 500,b < 256:=fun b h=>hbb b (List.mem_of_mem_take h)
 have hbl5:(bs.take 500).length < 80000:=by rw [List.length_take];omega
 generalize bs.take 500=ls at a3 hbb5 hbl5
 have hsl:(s.take 600).length≤600:=by rw [List.length_take];omega
 have kF:=fun H τ q=>hFew s 600 H τ q
 generalize s.take 600=x at kF hsl
 have hpl:=zOi x
 have hstl:=zLX (zAm x)
 obtain ⟨v6,H1,τ1,r1,g1,k1⟩:=hP x (by omega) H hw τ
 obtain ⟨v9,H2,τ2,r2,g2,k2⟩:=hRP x (by omega) H1 g1.wf τ1
 have r1':=r1.rd.gr g2 g1.wf (Nat.le_refl _)
 obtain ⟨v18,H3,τ3,r3,g3,k3⟩:=hS (zAm x) (by omega) H2 g2.wf v6 r1' τ2
 have r2':=r2.rd.gr g3 g2.wf (Nat.le_refl _)
 obtain ⟨v24,H4,τ4,r4,g4,k4⟩:=hRS (zAm x) (by omega) H3 g3.wf v9 r2' τ3
 have r3':=r3.rd.gr g4 g3.wf (Nat.le_refl _)
 have g14:Gr H.size H H4:=((g1.trans g2 g1.size).trans g3 (Nat.le_trans g1.size g2.size)).trans g4 (Nat.le_trans g1.size (Nat.le_trans g2.size g3.size))
 have t4:=zRu ht g14 hw (Nat.le_refl _)
 have kH:=fun q=>hH x (by omega) v3 ls hbl5 H4 (a3.gr g14 hw (Nat.le_refl _)) (a2.gr g14 hw (Nat.le_refl _)) t4 τ4 q
 obtain ⟨H5,τ5,b5,g5,k5⟩:=hNew H4 g4.wf τ4
 have g15:=g14.trans g5 g14.size
 obtain ⟨H6,τ6,g6,k6⟩:=hRH x (by omega) H4.size v3 ls hbb5 hbl5 H5 g5.wf b5 (a3.gr g15 hw (Nat.le_refl _)) (a2.gr g15 hw (Nat.le_refl _)) τ5
 have g16:=g15.trans g6 g15.size
 refine ⟨H6,τ6,g16,fun q=>?_⟩
 have kS1:=fun q=>hSm (zAm x) (by omega) v6 v9 H2 r1' r2.rd τ2 q
 have kS2:=fun q=>hSm (zBY (zAm x)) (by omega) v18 v24 H4 r3' r4.rd τ4 q
 have ee:pEq false .bool [.bool (zNH x ls),.bool (zNH x ls)]=some (.bool true):=by cases zNH x ls <;> rfl
 have kF':∀ q,c zK6 [.str s,.int .i64 (.ofNat 600)] H τ q=q (.str x) H τ:=fun q=>kF H τ q
 have kB':∀ q,c zFO [v,.int .i64 (.ofNat 500)] H τ q=q v3 H τ:=fun q=>a4 τ q
 simp only [zC4,kF',kB',k1,k2,kS1,zE5,retK,zZ,k3,k4,kS2,zg,cond_true,zK,kH,k5,k6,ee,hK H6 (zRu ht g16 hw (Nat.le_refl _))]
end Go.Am.X

