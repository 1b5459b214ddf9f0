/- The abstract machine, printed functions of the program, and what they are shown to be. -/
import Derived.Test.YtnijdmamheiebaaDoorCLSL1
import Derived.Test.YtnijdmamheiebaaDoorCLSM4
set_option linter.unusedSimpArgs false
set_option linter.unusedVariables false
set_option linter.unusedSectionVars false
set_option maxRecDepth 100000
namespace Go.Am.X
theorem wr8 {n:Nat}(h:n<256):wr .u8 (n:Int)=(n:Int):=by rw[uk8 n];rw[Nat.mod_eq_of_lt (by simpa [pow2] using h)]
def hexT (n:Nat):Int:=if 48<=n/\n<=57 then((n-48:Nat):Int)else if 97<=n/\n<=102 then((n-87:Nat):Int)else if 65<=n/\n<=70 then((n-55:Nat):Int)else -1
theorem hexT_rng (n:Nat):-1<=hexT n/\hexT n<=15:=by unfold hexT;split <;>(try split) <;>(try split) <;> omega
abbrev zRg (c:zG):Prop:=∀ (n:Nat) H Z q,c zBe [.int .u8 (n:Int)] H Z q=q (.bool (digB n)) H Z
abbrev zQX (c:zG):Prop:=∀ (n:Nat),n<256->∀ H Z q,c zDW [.int .u8 (n:Int)] H Z q=q (.int .i64 (hexT n)) H Z
theorem zQ8 (c:zG)(N:Nat)(hD:zRg c)(n:Nat)(hn:n<256)(H:Heap)(Z:Tape)(q:KV):zEO c N (.int .u8 (n:Int)) H Z q=q (.int .i64 (hexT n)) H Z:=by
 have sub:∀ k,k<=n->wr .u8 ((n:Int)-Int.ofNat k)=((n-k:Nat):Int):=fun k hk=>by
  rw[show(n:Int)-Int.ofNat k=((n-k:Nat):Int)by have:Int.ofNat k=(k:Int):=rfl;omega];exact wr8 (by omega)
 have i64:∀ k:Nat,k<1000->wr .i64 (k:Int)=(k:Int):=fun k hk=>zES (by omega) (by omega)
 have hdg:digB n=decide (48<=n/\n<=57):=by unfold digB;rw[Bool.eq_iff_iff];simp
 unfold hexT
 by_cases h1:48<=n/\n<=57
 ·rw[if_pos h1]
  have e1:digB n=true:=by rw[hdg];exact decide_eq_true h1
  simp only[zEO,hD,e1,zF,zAA,sub 48 h1.1,zBB,i64 _ (show n-48<1000 by omega)]
 ·rw[if_neg h1]
  have e1:digB n=false:=by rw[hdg];exact decide_eq_false h1
  by_cases h2:97<=n
  ·have e2:decide (Int.ofNat 97<=(n:Int))=true:=decide_eq_true (by have:Int.ofNat 97=97:=rfl;omega)
   by_cases h3:n<=102
   ·have e3:decide ((n:Int)<=Int.ofNat 102)=true:=decide_eq_true (by have:Int.ofNat 102=102:=rfl;omega)
    have e4:wr .i64 (((n-97:Nat):Int)+Int.ofNat 10)=((n-87:Nat):Int):=by rw[adI (by omega)];congr 1;omega
    rw[if_pos ⟨h2,h3⟩]
    simp only[zEO,hD,e1,zD,zi,e2,zAB,retK,zN,zAY,e3,zJ,cond_true,zB,zF,zAA,sub 97 h2,zBB,i64 _ (show n-97<1000 by omega),zS,e4]
   ·have e3:decide ((n:Int)<=Int.ofNat 102)=false:=decide_eq_false (by have:Int.ofNat 102=102:=rfl;omega)
    have e5:decide (Int.ofNat 65<=(n:Int))=true:=decide_eq_true (by have:Int.ofNat 65=65:=rfl;omega)
    have e6:decide ((n:Int)<=Int.ofNat 70)=false:=decide_eq_false (by have:Int.ofNat 70=70:=rfl;omega)
    rw[if_neg (fun h=>h3 h.2),if_neg (by omega)]
    simp only[zEO,hD,e1,zD,zi,e2,zAB,retK,zN,zAY,e3,zJ,cond_true,zB,e5,e6]
    rfl
  ·have e2:decide (Int.ofNat 97<=(n:Int))=false:=decide_eq_false (by have:Int.ofNat 97=97:=rfl;omega)
   rw[if_neg (fun h=>h2 h.1)]
   by_cases h3:65<=n
   ·have e5:decide (Int.ofNat 65<=(n:Int))=true:=decide_eq_true (by have:Int.ofNat 65=65:=rfl;omega)
    by_cases h4:n<=70
    ·have e6:decide ((n:Int)<=Int.ofNat 70)=true:=decide_eq_true (by have:Int.ofNat 70=70:=rfl;omega)
     have e4:wr .i64 (((n-65:Nat):Int)+Int.ofNat 10)=((n-55:Nat):Int):=by rw[adI (by omega)];congr 1;omega
     rw[if_pos ⟨h3,h4⟩]
     simp only[zEO,hD,e1,zD,zi,e2,ze,zX,zJ,cond_false,zB,e5,zAB,retK,zN,zAY,e6,cond_true,zF,zAA,sub 65 h3,zBB,i64 _ (show n-65<1000 by omega),zS,e4]
    ·have e6:decide ((n:Int)<=Int.ofNat 70)=false:=decide_eq_false (by have:Int.ofNat 70=70:=rfl;omega)
     rw[if_neg (fun h=>h4 h.2)]
     simp only[zEO,hD,e1,zD,zi,e2,ze,zX,zJ,cond_false,zB,e5,zAB,retK,zN,zAY,e6,cond_true]
     rfl
   ·have e5:decide (Int.ofNat 65<=(n:Int))=false:=decide_eq_false (by have:Int.ofNat 65=65:=rfl;omega)
    rw[if_neg (fun h=>h3 h.1)]
    simp only[zEO,hD,e1,zD,zi,e2,ze,zX,zJ,cond_false,zB,e5]
    rfl
def setS:Nat->Bs
 | 2=>[32,34,60,62,96]
 | 3=>[32,34,35,60,62]
 | 4=>[32,34,35,60,62,39]
 | 5=>[32,34,35,60,62,63,94,96,123,125]
 | 6=>[32,34,35,60,62,63,94,96,123,125,47,58,59,61,64,91,92,93,124]
 | _=>[]
def inT (n set:Nat):Bool:=(decide (n<32) || decide (126<n)) || (setS set).any fun x=>decide (n=x.toNat)
theorem l_ref1_In (c:zG)(N:Nat)(n:Nat)(s:Bs)(hs:s.length<=1000)(H:Heap):∀ (l pre:Bs) (b:Bool) (fr:T V) (Z:Tape) (m:Nat),s=pre++l->l.length<m->fr.get 0=some (.int .u8 (n:Int))->fr.get 5=some (.bool b)->fr.get 6=some (.str s)->fr.get 7=some (.int .i64 (pre.length:Int)) ->
  ∀ k,zq (zFS c N) m ⟨fr,H⟩ Z k=k (.exit 1) ⟨(T.s .leaf 5 (.bool (b || l.any fun x=>decide (n=x.toNat)))),H⟩ Z:=by
 intro l
 induction l with
 | nil =>
  intro pre b fr Z m he hm f0 f5 f6 f7 k
  obtain⟨m,rfl⟩:∃ j,m=j+1:=⟨m-1,by omega⟩
  have e1:decide ((pre.length:Int)<(s.length:Int))=false:=decide_eq_false (by rw[he];simp)
  rw[zI]
  simp only[zFS,zA f0,zA f5,zA f6,zA f7,zO,zB,zL,e1,zD,List.any_nil,Bool.or_false]
  rfl
 | cons x l ih =>
  intro pre b fr Z m he hm f0 f5 f6 f7 k
  obtain⟨m,rfl⟩:∃ j,m=j+1:=⟨m-1,by omega⟩
  have e1:decide ((pre.length:Int)<(s.length:Int))=true:=decide_eq_true (by rw[he];simp;omega)
  have e2:zM [.str s,.int .i64 (pre.length:Int)]=some (.int .u8 (x.toNat:Int)):=zk (by rw[he];simp)
  have e3:wr .i64 ((pre.length:Int)+Int.ofNat 1)=((pre++[x]).length:Int):=by rw[adI (by rw[he]at hs;simp at hs;omega)];simp
  have e4:((n:Int) ==(x.toNat:Int))=decide (n=x.toNat):=by rw[Bool.eq_iff_iff];simp;omega
  rw[zI]
  have fin:∀ fr',fr'.get 0=some (.int .u8 (n:Int))->fr'.get 5=some (.bool (b || decide (n=x.toNat)))->fr'.get 6=some (.str s)->fr'.get 7=some (.int .i64 ((pre++[x]).length:Int)) ->
    zq (zFS c N) m ⟨fr',H⟩ Z k=k (.exit 1) ⟨(T.s .leaf 5 (.bool (b || (x::l).any fun x=>decide (n=x.toNat)))),H⟩ Z:=fun fr' g0 g5 g6 g7=>by
   rw[ih (pre++[x]) _ fr' Z m (by rw[he];simp) (by simp at hm;omega) g0 g5 g6 g7 k,List.any_cons,Bool.or_assoc]
  cases b with
  | false =>
   simp only[zFS,zA f0,zA f5,zA f6,zA f7,zO,zB,zL,e1,zF,zu,retK,zN,e2,zU,e4,zJ,cond_false,zS,e3]
   exact fin _ (by simp[T.get_set]) (by simp[T.get_set]) (by simp[T.get_set]) (by simp[T.get_set])
  | true =>
   simp only[zFS,zA f0,zA f5,zA f6,zA f7,zO,zB,zL,e1,zF,zh,zX,zJ,cond_true,zS,e3]
   exact fin _ (by simp[T.get_set]) (by simp[T.get_set]) (by simp[T.get_set]) (by simp[T.get_set])
abbrev InOk (c:zG):Prop:=∀ (n set:Nat),1<=set->set<=6->∀ H Z q,c zO2 [.int .u8 (n:Int),.int .i64 (set:Int)] H Z q=q (.bool (inT n set)) H Z
theorem zSB (c:zG){N:Nat}(hN:1001<=N)(n set:Nat)(h1:1<=set)(h6:set<=6)(H:Heap)(Z:Tape)(q:KV):zOm c N (.int .u8 (n:Int)) (.int .i64 (set:Int)) H Z q=q (.bool (inT n set)) H Z:=by
 have hd:∀ (b:Bool) (s:Bs),s.length<=1000->s=setS set->b=(decide (n<32) || decide (126<n))->∀ (fr:T V),fr.get 0=some (.int .u8 (n:Int))->fr.get 5=some (.bool b)->fr.get 6=some (.str s)->zCw c N q ⟨fr,H⟩ Z=q (.bool (inT n set)) H Z:=by
  intro b s hs e eb fr f0 f5 f6
  simp only[zCw,zA f0,zA f5,zA f6]
  rw[l_ref1_In c N n s hs H s [] b _ Z N rfl (by omega) (by simp[T.get_set]) (by simp[T.get_set]) (by simp[T.get_set]) (by simp[T.get_set])]
  simp only[zW,Nat.beq_refl,cond_true,seqK,zPm,zK,↓reduceIte,inT,<- e,eb]
 have pk:∃ b:Bool,b=(decide (n<32) || decide (126<n))/\∀ cc:V->Heap->Tape->Ans,(binK .lss (.int .u8 (n:Int)) (.int .u8 (.ofNat 32)) fun v0=>gK v0 false (fun q'=>q' (.int .u8 (n:Int)) H Z) H Z fun v1 H2 Z3=>gK v0 false (fun q'=>binK .gtr v1 (.int .u8 (.ofNat 126)) fun v=>q' v H2 Z3) H2 Z3 fun v4 H5 Z6=>zC (zAE [v0,(.bool true),v4]) fun v7=>cc v7 H5 Z6)=cc (.bool b) H Z:=by
  refine⟨_,rfl,fun cc=>?_⟩
  by_cases h:n<32
  ·have e1:decide ((n:Int)<Int.ofNat 32)=true:=decide_eq_true (by have:Int.ofNat 32=32:=rfl;omega)
   simp only[zL,e1,zh,zX,zJ,cond_true,zB,decide_eq_true h,Bool.true_or]
  ·have e1:decide ((n:Int)<Int.ofNat 32)=false:=decide_eq_false (by have:Int.ofNat 32=32:=rfl;omega)
   have e2:decide (Int.ofNat 126<(n:Int))=decide (126<n):=by rw[Bool.eq_iff_iff,decide_eq_true_eq,decide_eq_true_eq];have:Int.ofNat 126=126:=rfl;omega
   simp only[zL,e1,zu,retK,zN,zY,e2,zJ,cond_false,zB,decide_eq_false h,Bool.false_or]
 obtain⟨b,hb,pk⟩:=pk
 have ee:∀ k:Nat,((set:Int) == Int.ofNat k)=decide (set=k):=fun k=>by rw[Bool.eq_iff_iff];simp;omega
 have g:∀ fr:T V,∀ i v,(T.s fr i v).get i=some v:=fun fr i v=>T.get_set_same _ _ _
 simp only[zOm]
 rw[pk]
 rcases(by omega:set=1∨set=2∨set=3∨set=4∨set=5∨set=6)with rfl | rfl | rfl | rfl | rfl | rfl <;>
  simp only[zU,ee,decide_true,decide_false,Nat.reduceEqDiff,zF,zD] <;>
  exact hd b _ (by decide) rfl hb _ (by simp[T.get_set]) (by simp[T.get_set]) (by simp[T.get_set] <;> rfl)
def hexS:Bs:=[48,49,50,51,52,53,54,55,56,57,65,66,67,68,69,70]
def escT (n:Nat):Bs:=37::((hexS.take (n / 16+1)).drop (n / 16)++(hexS.take (n % 16+1)).drop (n % 16))
theorem escT_len {n:Nat}(h:n<256):(escT n).length=3:=by
 have:=(show ∀ n:Fin 256,(escT n.1).length=3 by decide) ⟨n,h⟩
 exact this
abbrev EscOk (c:zG):Prop:=∀ (n:Nat),n<256->∀ H Z q,c zHv [.int .u8 (n:Int)] H Z q=q (.str (escT n)) H Z
theorem zO9 (c:zG)(N:Nat)(n:Nat)(hn:n<256)(H:Heap)(Z:Tape)(q:KV):zHt c N (.int .u8 (n:Int)) H Z q=q (.str (escT n)) H Z:=by
 have e1:∀ cc:V->Ans,binK .shr (.int .u8 (n:Int)) (.int .u64 (.ofNat 4)) cc=cc (.int .u8 ((n / 16:Nat):Int)):=fun cc=>u_shr (k':=.u64) n 4 cc
 have e2:∀ cc:V->Ans,binK .and (.int .u8 (n:Int)) (.int .u8 (.ofNat 15)) cc=cc (.int .u8 ((n % 16:Nat):Int)):=fun cc=>by
  have:=u_and uk8 n 15 cc
  rw[show(.int .u8 (.ofNat 15):V)=.int .u8 ((15:Nat):Int)from rfl,this]
  congr 3
  have:=(show ∀ n:Fin 256,Nat.land (n.1 % pow2 .u8) (15 % pow2 .u8) % pow2 .u8=n.1 % 16 by decide) ⟨n,hn⟩
  exact this
 have e3:wr .u8 (((n / 16:Nat):Int)+Int.ofNat 1)=((n / 16+1:Nat):Int):=wr8 (by omega)
 have e4:wr .u8 (((n % 16:Nat):Int)+Int.ofNat 1)=((n % 16+1:Nat):Int):=wr8 (by omega)
 have s1:zR true true [.str hexS,.int .u8 ((n / 16:Nat):Int),.int .u8 ((n / 16+1:Nat):Int)]=some (.str ((hexS.take (n / 16+1)).drop (n / 16))):=zAp (by omega) (by have:hexS.length=16:=rfl;omega)
 have s2:zR true true [.str hexS,.int .u8 ((n % 16:Nat):Int),.int .u8 ((n % 16+1:Nat):Int)]=some (.str ((hexS.take (n % 16+1)).drop (n % 16))):=zAp (by omega) (by have:hexS.length=16:=rfl;omega)
 have l1:((hexS.take (n / 16+1)).drop (n / 16)).length<=16:=by simp[hexS];omega
 have l2:((hexS.take (n % 16+1)).drop (n % 16)).length<=16:=by simp[hexS];omega
 have a1:zAL .add (bs [37]) ((hexS.take (n / 16+1)).drop (n / 16))=some (.str (37::(hexS.take (n / 16+1)).drop (n / 16))):=zD7 (by rw[show(bs [37]).length=1 from rfl];omega)
 have a2:zAL .add (37::(hexS.take (n / 16+1)).drop (n / 16)) ((hexS.take (n % 16+1)).drop (n % 16))=some (.str (escT n)):=zD7 (by rw[List.length_cons];omega)
 have hb:bs [48,49,50,51,52,53,54,55,56,57,65,66,67,68,69,70]=hexS:=rfl
 simp only[zHt,e1,zS .u8,e3,hb,s1,zB,zP,a1,e2,e4,s2,a2]
def pctT (set:Nat)(s:Bs):Bs:=s.flatMap fun x=>if inT x.toNat set=true then escT x.toNat else [x]
theorem zST (set:Nat)(s:Bs):(pctT set s).length<=3*s.length:=by
 induction s with
 | nil=>simp[pctT]
 | cons x s ih =>
  unfold pctT at ih ⊢
  rw[List.flatMap_cons,List.length_append,List.length_cons]
  have:(if inT x.toNat set=true then escT x.toNat else [x]).length<=3:=by
   split
   ·rw[escT_len x.toNat_lt];omega
   ·simp
  omega
theorem zRO (c:zG)(N:Nat)(hI:InOk c)(hE:EscOk c)(set:Nat)(h1:1<=set)(h6:set<=6)(s:Bs)(hs:s.length<=1000000000000)(H:Heap):∀ (l pre out:Bs) (fr:T V) (Z:Tape) (m:Nat),s=pre++l->l.length<m->out.length<=3*pre.length->fr.get 0=some (.str s)->fr.get 1=some (.int .i64 (set:Int))->fr.get 5=some (.str out)->fr.get 6=some (.int .i64 (pre.length:Int)) ->
  ∀ k,zq (zBq c N) m ⟨fr,H⟩ Z k=k (.exit 0) ⟨(T.s .leaf 5 (.str (out++pctT set l))),H⟩ Z:=by
 intro l
 induction l with
 | nil =>
  intro pre out fr Z m he hm ho f0 f1 f5 f6 k
  obtain⟨m,rfl⟩:∃ j,m=j+1:=⟨m-1,by omega⟩
  have e1:decide ((pre.length:Int)<(s.length:Int))=false:=decide_eq_false (by rw[he];simp)
  rw[zI]
  simp only[zBq,zA f0,zA f1,zA f5,zA f6,zO,zB,zL,e1,zD]
  rw[show pctT set []=[]from rfl,List.append_nil]
  rfl
 | cons x l ih =>
  intro pre out fr Z m he hm ho f0 f1 f5 f6 k
  obtain⟨m,rfl⟩:∃ j,m=j+1:=⟨m-1,by omega⟩
  have hl:pre.length<s.length:=by rw[he];simp
  have e1:decide ((pre.length:Int)<(s.length:Int))=true:=decide_eq_true (by omega)
  have e2:zM [.str s,.int .i64 (pre.length:Int)]=some (.int .u8 (x.toNat:Int)):=zk (by rw[he];simp)
  have e3:wr .i64 ((pre.length:Int)+Int.ofNat 1)=((pre++[x]).length:Int):=by rw[adI (by omega)];simp
  have lp:(pre++[x]).length=pre.length+1:=by simp
  have hcut:zR true true [.str s,.int .i64 (pre.length:Int),.int .i64 ((pre++[x]).length:Int)]=some (.str [x]):=by
   rw[zAp (by simp) (by rw[he];simp)]
   congr 2
   rw[he,List.length_append,show pre++x::l=(pre++[x])++l by simp,List.take_left' (by simp)]
   simp
  have fin:∀ (y:Bs) (fr':T V),y.length<=3->y++pctT set l=pctT set (x::l)->fr'.get 0=some (.str s)->fr'.get 1=some (.int .i64 (set:Int))->fr'.get 5=some (.str (out++y))->fr'.get 6=some (.int .i64 (pre.length:Int)) ->
    zEI c N (seqK (fun st Z=>zq (zBq c N) m st Z k) k) ⟨fr',H⟩ Z=k (.exit 0) ⟨(T.s .leaf 5 (.str (out++pctT set (x::l)))),H⟩ Z:=fun y fr' hy hp g0 g1 g5 g6=>by
   simp only[zEI,zA g0,zA g1,zA g5,zA g6,zS .i64,e3,seqK]
   rw[ih (pre++[x]) (out++y) _ Z m (by rw[he];simp) (by simp at hm;omega) (by rw[List.length_append];omega) (by simp[T.get_set]) (by simp[T.get_set]) (by simp[T.get_set]) (by simp[T.get_set]) k,List.append_assoc,hp]
  have hi:=hI x.toNat set h1 h6 H Z
  have hlx:=x.toNat_lt
  rw[zI]
  cases hx:inT x.toNat set with
  | true =>
   rw[hx]at hi
   have hxl:=escT_len x.toNat_lt
   have a1:zAL .add out (escT x.toNat)=some (.str (out++escT x.toNat)):=zD7 (by omega)
   simp only[zBq,zA f0,zA f1,zA f5,zA f6,zO,zB,zL,e1,zF,e2,hi,hE _ hlx,zP,a1]
   exact fin (escT x.toNat) _ (by omega) (by unfold pctT;rw[List.flatMap_cons,if_pos hx]) (by simp[T.get_set]) (by simp[T.get_set]) (by simp[T.get_set]) (by simp[T.get_set])
  | false =>
   rw[hx]at hi
   have a1:zAL .add out [x]=some (.str (out++[x])):=zD7 (by simp;omega)
   simp only[zBq,zA f0,zA f1,zA f5,zA f6,zO,zB,zL,e1,zF,e2,hi,zD,zS .i64,e3,hcut,zP,a1]
   exact fin [x] _ (by simp) (by unfold pctT;rw[List.flatMap_cons,if_neg (by rw[hx];decide)]) (by simp[T.get_set]) (by simp[T.get_set]) (by simp[T.get_set]) (by simp[T.get_set])
abbrev zSH (c:zG):Prop:=∀ (s:Bs),s.length<=1000000000000->∀ (set:Nat),1<=set->set<=6->∀ H Z q,c zz [.str s,.int .i64 (set:Int)] H Z q=q (.str (pctT set s)) H Z
theorem zOp (c:zG){N:Nat}(hN:9223372036854775807<=N)(hI:InOk c)(hE:EscOk c)(s:Bs)(hs:s.length<=1000000000000)(set:Nat)(h1:1<=set)(h6:set<=6)(H:Heap)(Z:Tape)(q:KV):zGr c N (.str s) (.int .i64 (set:Int)) H Z q=q (.str (pctT set s)) H Z:=by
 simp only[zGr]
 rw[zRO c N hI hE set h1 h6 s hs H s [] [] _ Z N rfl (by omega) (by simp) (by simp[T.get_set]) (by simp[T.get_set]) (by simp[T.get_set]) (by simp[T.get_set])]
 simp only[zW,Nat.beq_refl,cond_true,seqK,zJr,zK,↓reduceIte,List.nil_append]
end Go.Am.X

namespace Go.Am.X
theorem own_str {H:Heap}{B:Nat}{v:V}{n:Nat}{s:Bs}(h:Own H B 1 v n (bv s)):zA6 [v] H=some (.str s):=by
 rcases h with⟨rfl,rfl,h0⟩ | ⟨id,e,room,fam,ver,pl,st,fr,rfl,h2,h3,h4,h5,h6,h7⟩
 ·have:s=[]:=by
   cases s with
   | nil=>rfl
   | cons x s=>simp[bv]at h0
  subst this;rfl
 ·have hc:H.cells? id=some (bv s):=zOn h2 h3 h4
  rw[Nat.mul_one]at h7
  have hl:H.loads id 0 n=some (bv s):=by
   rw[zCj hc (by omega),List.drop_zero,List.take_of_length_le (by omega)]
  simp only[zA6,Nat.beq_refl,cond_true,hl,zJ3]
def unpT:Bs->Bs
 | []=>[]
 | x::l=>match l with
  | a::b::r=>if x.toNat=37/\0<=hexT a.toNat/\0<=hexT b.toNat then UInt8.ofNat (16*hexT a.toNat+hexT b.toNat).toNat::unpT r else x::unpT (a::b::r)
  | l=>x::unpT l
theorem unpT_len:∀ (n:Nat) (s:Bs),s.length<=n->(unpT s).length<=s.length:=by
 intro n
 induction n with
 | zero=>intro s h;rw[List.length_eq_zero_iff.1 (by omega:s.length=0)];simp[unpT]
 | succ n ih =>
  intro s h
  match s with
  | []=>simp[unpT]
  | [x]=>simp[unpT]
  | [x,a]=>simp[unpT]
  | x::a::b::r =>
   rw[unpT]
   simp only[List.length_cons]at h ⊢
   split
   ·have:=ih r (by omega)
    simp only[List.length_cons];omega
   ·have:=ih (a::b::r) (by simp only[List.length_cons];omega)
    simp only[List.length_cons]at this ⊢;omega
theorem bv_snoc (a:Bs)(x:UInt8):bv a++[V.int .u8 (x.toNat:Int)]=bv (a++[x]):=by simp[bv]
theorem l_unp (c:zG)(N:Nat)(hX:zQX c)(s:Bs)(hs:s.length<=1000000000)(B:Nat) :
  ∀ (n:Nat) (l pre acc:Bs) (v3:V) (M:Nat) (H:Heap) (Z:Tape),l.length<=n->s=pre++l->l.length<M->WF H->B<=H.size->Own H B 1 v3 acc.length (bv acc)->acc.length<=pre.length ->
  ∃ v3' H' Z',Own H' B 1 v3' (acc++unpT l).length (bv (acc++unpT l))/\Gr B H H' /\
   ∀ (fr:T V) k,fr.get 0=some (.str s)->fr.get 3=some v3->fr.get 4=some (.int .i64 (pre.length:Int)) ->
    zq (zx c N) M ⟨fr,H⟩ Z k=k (.exit 0) ⟨(T.s .leaf 3 v3'),H'⟩ Z':=by
 intro n
 induction n with
 | zero =>
  intro l pre acc v3 M H Z hn he hM hw hB ho hal
  obtain rfl:=List.length_eq_zero_iff.1 (by omega:l.length=0)
  obtain⟨M,rfl⟩:∃ j,M=j+1:=⟨M-1,by omega⟩
  have e1:decide ((pre.length:Int)<(s.length:Int))=false:=decide_eq_false (by rw[he];simp)
  refine⟨v3,H,Z,by simpa [unpT] using ho,Gr.refl hw,fun fr k f0 f3 f4=>?_⟩
  rw[zI]
  simp only[zx,zA f0,zA f3,zA f4,zO,zB,zL,e1,zD]
  rfl
 | succ n ih =>
  intro l pre acc v3 M H Z hn he hM hw hB ho hal
  obtain⟨M,rfl⟩:∃ j,M=j+1:=⟨M-1,by omega⟩
  cases l with
  | nil =>
   have e1:decide ((pre.length:Int)<(s.length:Int))=false:=decide_eq_false (by rw[he];simp)
   refine⟨v3,H,Z,by simpa [unpT] using ho,Gr.refl hw,fun fr k f0 f3 f4=>?_⟩
   rw[zI]
   simp only[zx,zA f0,zA f3,zA f4,zO,zB,zL,e1,zD]
   rfl
  | cons x l =>
   have hl:pre.length<s.length:=by rw[he];simp
   have e1:decide ((pre.length:Int)<(s.length:Int))=true:=decide_eq_true (by omega)
   have e2:zM [.str s,.int .i64 (pre.length:Int)]=some (.int .u8 (x.toNat:Int)):=zk (by rw[he];simp)
   have ad:∀ k:Nat,k<=4->wr .i64 ((pre.length:Int)+Int.ofNat k)=((pre.length+k:Nat):Int):=fun k hk=>adI (by omega)
   have ad1:=ad 1 (by omega)
   have ad2:=ad 2 (by omega)
   have ad3:wr .i64 (((pre.length+2:Nat):Int)+Int.ofNat 1)=((pre.length+3:Nat):Int):=adI (by omega)
   have plain:(unpT (x::l)=x::unpT l)->(∀ (fr:T V) (k:KC),fr.get 0=some (.str s)->fr.get 3=some v3->fr.get 4=some (.int .i64 (pre.length:Int))->∃ F:V->V->T V,(∀ a b,(F a b).get 0=some (.str s)/\(F a b).get 3=some b/\(F a b).get 4=some (.int .i64 (pre.length:Int))) /\
      zx c N ⟨fr,H⟩ Z k=effK (zZ 1 1 [(.int .u8 (.ofNat 0))] [(0,1)] [.int .u8 (x.toNat:Int)] H Z) fun v81 H82 Z83=>effK (zAj 1 1 [v3,v81] H82 Z83) fun v84 H85 Z86=>zBw c N k ⟨F v81 v84,H85⟩ Z86) ->
     ∃ v3' H' Z',Own H' B 1 v3' (acc++unpT (x::l)).length (bv (acc++unpT (x::l)))/\Gr B H H' /\
      ∀ (fr:T V) k,fr.get 0=some (.str s)->fr.get 3=some v3->fr.get 4=some (.int .i64 (pre.length:Int)) ->
       zq (zx c N) (M+1) ⟨fr,H⟩ Z k=k (.exit 0) ⟨(T.s .leaf 3 v3'),H'⟩ Z':=by
    intro hu hp
    obtain⟨w,H1,v',H2,r1,r2,r3,r4,_⟩:=ho.push (bytes:=1) hw hB (.int .u8 (x.toNat:Int)) (.int .u8 0) rfl rfl (by omega) (by omega) Z
    rw[bv_snoc]at r3
    obtain⟨v3',H',Z',s1,s2,s3⟩:=ih l (pre++[x]) (acc++[x]) v' M H2 Z.tail (by simp at hn;omega) (by rw[he];simp) (by simp at hM;omega) r4.wf (Nat.le_trans hB r4.size) (by simpa using r3) (by simp;omega)
    refine⟨v3',H',Z',by rw[hu,show acc++x::unpT l=(acc++[x])++unpT l by simp];exact s1,r4.trans s2 nl,fun fr k f0 f3 f4=>?_⟩
    obtain⟨F,hF,hb⟩:=hp fr (seqK (fun st Z=>zq (zx c N) M st Z k) k) f0 f3 f4
    obtain⟨g0,g3,g4⟩:=hF w v'
    have r1':zZ 1 1 [(.int .u8 (.ofNat 0))] [(0,1)] [.int .u8 (x.toNat:Int)] H Z=some (w,H1,Z):=r1
    have lp:((pre++[x]).length:Int)=((pre.length+1:Nat):Int):=by simp
    rw[zI,hb]
    simp only[r1',r2,zN,zBw,zA g0,zA g3,zA g4,zS .i64,ad1,seqK]
    exact s3 _ _ (by simp[T.get_set]) (by simp[T.get_set]) (by rw[lp];simp[T.get_set])
   by_cases h37:x.toNat=37
   ·have e3:((x.toNat:Int) == Int.ofNat 37)=true:=by rw[h37];rfl
    match l,he,hn,hM,plain with
    | [],he,hn,hM,plain =>
     have e4:decide (((pre.length+2:Nat):Int)<(s.length:Int))=false:=decide_eq_false (by rw[he];simp)
     exact plain (by simp[unpT]) fun fr k f0 f3 f4=>by
       refine⟨?F,fun a b=>?g,?h⟩
       case h =>
        simp only[zx,zA f0,zA f3,zA f4,zO,zB,zL,e1,zF,e2,zU,e3,zAB,retK,zN,zS .i64,ad2,e4,zJ,cond_true,ze,zX,cond_false,zD]
        all_goals rfl
       case g=>refine⟨?_,?_,?_⟩ <;> simp[T.get_set]
    | [a],he,hn,hM,plain =>
     have e4:decide (((pre.length+2:Nat):Int)<(s.length:Int))=false:=decide_eq_false (by rw[he];simp)
     exact plain (by simp[unpT]) fun fr k f0 f3 f4=>by
       refine⟨?F,fun a b=>?g,?h⟩
       case h =>
        simp only[zx,zA f0,zA f3,zA f4,zO,zB,zL,e1,zF,e2,zU,e3,zAB,retK,zN,zS .i64,ad2,e4,zJ,cond_true,ze,zX,cond_false,zD]
        all_goals rfl
       case g=>refine⟨?_,?_,?_⟩ <;> simp[T.get_set]
    | a::b::r,he,hn,hM,plain =>
     have hlen:s.length=pre.length+3+r.length:=by rw[he];simp;omega
     have e4:decide (((pre.length+2:Nat):Int)<(s.length:Int))=true:=decide_eq_true (by omega)
     have i1:zM [.str s,.int .i64 ((pre.length+1:Nat):Int)]=some (.int .u8 (a.toNat:Int)):=zk (by rw[he];simp)
     have i2:zM [.str s,.int .i64 ((pre.length+2:Nat):Int)]=some (.int .u8 (b.toNat:Int)):=zk (by rw[he];simp)
     have x1:=fun H Z q=>hX a.toNat a.toNat_lt H Z q
     have x2:=fun H Z q=>hX b.toNat b.toNat_lt H Z q
     have ra:=hexT_rng a.toNat
     have rb:=hexT_rng b.toNat
     by_cases ha:0<=hexT a.toNat
     ·have d1:decide (Int.ofNat 0<=hexT a.toNat)=true:=decide_eq_true ha
      by_cases hb:0<=hexT b.toNat
      ·have d2:decide (Int.ofNat 0<=hexT b.toNat)=true:=decide_eq_true hb
       have w1:wr .i64 (Int.ofNat 16*hexT a.toNat)=16*hexT a.toNat:=by have:Int.ofNat 16=16:=rfl;rw[this];exact zES (by omega) (by omega)
       have w2:wr .i64 (16*hexT a.toNat+hexT b.toNat)=16*hexT a.toNat+hexT b.toNat:=zES (by omega) (by omega)
       obtain⟨y,hy⟩:∃ y:Nat,16*hexT a.toNat+hexT b.toNat=(y:Int):=⟨(16*hexT a.toNat+hexT b.toNat).toNat,by omega⟩
       have hy256:y<256:=by omega
       have w3:wr .u8 (y:Int)=(y:Int):=wr8 hy256
       have w4:wr .i64 (y:Int)=(y:Int):=zES (by omega) (by omega)
       have hyu:(UInt8.ofNat y).toNat=y:=by simp;omega
       obtain⟨w,H1,v',H2,r1,r2,r3,r4,_⟩:=ho.push (bytes:=1) hw hB (.int .u8 (y:Int)) (.int .u8 0) rfl rfl (by omega) (by omega) Z
       have r1':zZ 1 1 [(.int .u8 (.ofNat 0))] [(0,1)] [.int .u8 (y:Int)] H Z=some (w,H1,Z):=r1
       have hsn:bv acc++[V.int .u8 (y:Int)]=bv (acc++[UInt8.ofNat y]):=by rw[<- bv_snoc,hyu]
       rw[hsn]at r3
       obtain⟨v3',H',Z',s1,s2,s3⟩:=ih r (pre++[x,a,b]) (acc++[UInt8.ofNat y]) v' M H2 Z.tail (by simp at hn;omega) (by rw[he];simp) (by simp at hM;omega) r4.wf (Nat.le_trans hB r4.size) (by simpa using r3) (by simp;omega)
       have hu:unpT (x::a::b::r)=UInt8.ofNat y::unpT r:=by rw[unpT,if_pos ⟨h37,ha,hb⟩,hy];simp
       refine⟨v3',H',Z',by rw[hu,show acc++UInt8.ofNat y::unpT r=(acc++[UInt8.ofNat y])++unpT r by simp];exact s1,r4.trans s2 nl,fun fr k f0 f3 f4=>?_⟩
       have lp:((pre++[x,a,b]).length:Int)=((pre.length+3:Nat):Int):=by simp
       rw[zI]
       simp only[zx,zA f0,zA f3,zA f4,zO,zB,zL,e1,zF,e2,zU,e3,zAB,retK,zN,zS .i64,ad2,e4,zJ,cond_true,ad1,i1,x1,zi,d1,i2,x2,d2,zJT,w1,hy,w4,zBB,w3,r1',r2,zBw,zK,↓reduceIte,Nat.reduceEqDiff,ad3,seqK]
       exact s3 _ _ (by simp[T.get_set]) (by simp[T.get_set]) (by rw[lp];simp[T.get_set])
      ·have d2:decide (Int.ofNat 0<=hexT b.toNat)=false:=decide_eq_false hb
       exact plain (by rw[unpT,if_neg (fun h=>hb h.2.2)]) fun fr k f0 f3 f4=>by
         refine⟨?F,fun a b=>?g,?h⟩
         case h =>
          simp only[zx,zA f0,zA f3,zA f4,zO,zB,zL,e1,zF,e2,zU,e3,zAB,retK,zN,zS .i64,ad2,e4,zJ,cond_true,ad1,i1,x1,zi,d1,i2,x2,d2,zD]
          all_goals rfl
         case g=>refine⟨?_,?_,?_⟩ <;> simp[T.get_set]
     ·have d1:decide (Int.ofNat 0<=hexT a.toNat)=false:=decide_eq_false ha
      exact plain (by rw[unpT,if_neg (fun h=>ha h.2.1)]) fun fr k f0 f3 f4=>by
        refine⟨?F,fun a b=>?g,?h⟩
        case h =>
         simp only[zx,zA f0,zA f3,zA f4,zO,zB,zL,e1,zF,e2,zU,e3,zAB,retK,zN,zS .i64,ad2,e4,zJ,cond_true,ad1,i1,x1,zi,d1,ze,zX,cond_false,zD]
         all_goals rfl
        case g=>refine⟨?_,?_,?_⟩ <;> simp[T.get_set]
   ·have e3:((x.toNat:Int) == Int.ofNat 37)=false:=by rw[beq_eq_false_iff_ne];have:Int.ofNat 37=37:=rfl;omega
    exact plain (by
     match l with
     | []=>simp[unpT]
     | [a]=>simp[unpT]
     | a::b::r=>rw[unpT,if_neg (fun h=>h37 h.1)]) fun fr k f0 f3 f4=>by
       refine⟨?F,fun a b=>?g,?h⟩
       case h =>
        simp only[zx,zA f0,zA f3,zA f4,zO,zB,zL,e1,zF,e2,zU,e3,ze,zX,zJ,cond_false,zD]
        all_goals rfl
       case g=>refine⟨?_,?_,?_⟩ <;> simp[T.get_set]
abbrev UnpOk (c:zG):Prop:=∀ (s:Bs),s.length<=1000000000->∀ {H:Heap},WF H->∀ Z,∃ H' Z',Gr H.size H H'/\∀ q,c zDS [.str s] H Z q=q (.str (unpT s)) H' Z'
theorem zNF (c:zG){N:Nat}(hN:9223372036854775807<=N)(hX:zQX c)(s:Bs)(hs:s.length<=1000000000){H:Heap}(hw:WF H)(Z:Tape) :
  ∃ H' Z',Gr H.size H H'/\∀ q,zEz c N (.str s) H Z q=q (.str (unpT s)) H' Z':=by
 obtain⟨v,H',Z',s1,s2,s3⟩:=l_unp c N hX s hs H.size s.length s [] [] .nils N H Z nl rfl (by omega) hw nl (Own.nil _ _ _) nl
 rw[List.nil_append]at s1
 refine⟨H',Z',s2,fun q=>?_⟩
 simp only[zEz]
 rw[s3 _ _ (by simp[T.get_set]) (by simp[T.get_set]) (by simp[T.get_set])]
 simp only[zW,Nat.beq_refl,cond_true,seqK,zIB,zK,↓reduceIte,own_str s1,zB]
def zGG (at':UInt8):Bs->Bs->List Bs
 | cur,[]=>[cur]
 | cur,x::l=>if x=at' then cur::zGG at' [] l else zGG at' (cur++[x]) l
theorem zOK (at':UInt8):∀ (l cur:Bs),1<=(zGG at' cur l).length/\(zGG at' cur l).length<=l.length+1/\∀ p ∈ zGG at' cur l,p.length<=cur.length+l.length:=by
 intro l
 induction l with
 | nil=>intro cur;refine⟨by simp[zGG],by simp[zGG],fun p hp=>?_⟩;rw[List.mem_singleton.1 hp];simp
 | cons x l ih =>
  intro cur
  rw[zGG]
  split
  ·obtain⟨a,b,d⟩:=ih []
   refine⟨by simp,by simp;omega,fun p hp=>?_⟩
   rcases List.mem_cons.1 hp with rfl | hp
   ·omega
   ·have:=d p hp;simp at this ⊢;omega
  ·obtain⟨a,b,d⟩:=ih (cur++[x])
   exact⟨a,by simp;omega,fun p hp=>by have:=d p hp;simp at this ⊢;omega⟩
theorem zQh (a:List Bs)(x:Bs):(a.map V.str)++[V.str x]=(a++[x]).map V.str:=by simp
theorem l_cut (c:zG)(N:Nat)(at':UInt8)(s:Bs)(hs:s.length<=1000000000)(B:Nat) :
  ∀ (l pre:Bs) (from_:Nat) (acc:List Bs) (v5:V) (M:Nat) (H:Heap) (Z:Tape),s=pre++l->l.length+1<M->from_<=pre.length->WF H->B<=H.size->Own H B 1 v5 acc.length (acc.map V.str)->acc.length<=pre.length ->
  ∃ v5' H' Z',Own H' B 1 v5' (acc++zGG at' (pre.drop from_) l).length ((acc++zGG at' (pre.drop from_) l).map V.str)/\Gr B H H' /\
   ∀ (fr:T V) k,fr.get 0=some (.str s)->fr.get 1=some (.int .u8 (at'.toNat:Int))->fr.get 5=some v5->fr.get 6=some (.int .i64 (from_:Int))->fr.get 7=some (.int .i64 (pre.length:Int)) ->
    zq (zEV c N) M ⟨fr,H⟩ Z k=k (.exit 0) ⟨(T.s .leaf 5 v5'),H'⟩ Z':=by
 intro l
 induction l with
 | nil =>
  intro pre from_ acc v5 M H Z he hM hf hw hB ho hal
  obtain⟨M,rfl⟩:∃ j,M=j+1+1:=⟨M-2,by simp at hM;omega⟩
  rw[List.append_nil]at he
  have e1:decide ((pre.length:Int)<=(s.length:Int))=true:=decide_eq_true (by rw[he];omega)
  have e2:((pre.length:Int) ==(s.length:Int))=true:=by rw[he];simp
  have e3:wr .i64 ((pre.length:Int)+Int.ofNat 1)=((pre.length+1:Nat):Int):=adI (by rw[<- he];omega)
  have e4:decide (((pre.length+1:Nat):Int)<=(s.length:Int))=false:=decide_eq_false (by rw[he];omega)
  have e6:zR true true [.str s,.int .i64 (from_:Int),.int .i64 (pre.length:Int)]=some (.str (pre.drop from_)):=by
   rw[zAp (by omega) (by rw[he];omega),he,List.take_length]
  obtain⟨w,H1,v',H2,r1,r2,r3,r4,_⟩:=ho.push (bytes:=16) hw hB (.str (pre.drop from_)) (.str []) rfl rfl (by rw[he]at hs;omega) (by rw[he]at hs;omega) Z
  rw[zQh]at r3
  refine⟨v',H2,Z.tail,by rw[zGG];simpa using r3,r4,fun fr k f0 f1 f5 f6 f7=>?_⟩
  rw[zI]
  simp only[zEV,zA f0,zA f1,zA f5,zA f6,zA f7,zO,zB,zAY,e1,zF,zU,e2,zh,zX,zJ,cond_true,e6,r1,r2,zN,zGA,zK,↓reduceIte,Nat.reduceEqDiff,zS .i64,e3,seqK]
  rw[zI]
  simp only[zEV,zK,↓reduceIte,Nat.reduceEqDiff,zO,zB,zAY,e4,zD]
  rfl
 | cons x l ih =>
  intro pre from_ acc v5 M H Z he hM hf hw hB ho hal
  obtain⟨M,rfl⟩:∃ j,M=j+1:=⟨M-1,by omega⟩
  have hlt:pre.length<s.length:=by rw[he];simp
  have e1:decide ((pre.length:Int)<=(s.length:Int))=true:=decide_eq_true (by omega)
  have e2:((pre.length:Int) ==(s.length:Int))=false:=by rw[beq_eq_false_iff_ne];omega
  have e3:wr .i64 ((pre.length:Int)+Int.ofNat 1)=((pre++[x]).length:Int):=by rw[adI (by omega)];simp
  have e7:zM [.str s,.int .i64 (pre.length:Int)]=some (.int .u8 (x.toNat:Int)):=zk (by rw[he];simp)
  by_cases hx:x=at'
  ·have e8:((x.toNat:Int) ==(at'.toNat:Int))=true:=by rw[hx];simp
   have e6:zR true true [.str s,.int .i64 (from_:Int),.int .i64 (pre.length:Int)]=some (.str (pre.drop from_)):=by
    rw[zAp (by omega) (by omega),he,List.take_left]
   obtain⟨w,H1,v',H2,r1,r2,r3,r4,_⟩:=ho.push (bytes:=16) hw hB (.str (pre.drop from_)) (.str []) rfl rfl (by omega) (by omega) Z
   rw[zQh]at r3
   obtain⟨v5',H',Z',s1,s2,s3⟩:=ih (pre++[x]) (pre++[x]).length (acc++[pre.drop from_]) v' M H2 Z.tail (by rw[he];simp) (by simp at hM;omega) nl r4.wf (Nat.le_trans hB r4.size) (by simpa using r3) (by simp;omega)
   rw[List.drop_length]at s1
   refine⟨v5',H',Z',by rw[zGG,if_pos hx,show acc++pre.drop from_::zGG at' [] l=(acc++[pre.drop from_])++zGG at' [] l by simp];exact s1,r4.trans s2 nl,fun fr k f0 f1 f5 f6 f7=>?_⟩
   rw[zI]
   simp only[zEV,zA f0,zA f1,zA f5,zA f6,zA f7,zO,zB,zAY,e1,zF,zU,e2,zu,retK,e7,e8,zJ,cond_false,e6,r1,r2,zN,zGA,zK,↓reduceIte,Nat.reduceEqDiff,zS .i64,e3]
   exact s3 _ _ (by simp[T.get_set]) (by simp[T.get_set]) (by simp[T.get_set]) (by simp[T.get_set]) (by simp[T.get_set])
  ·have e8:((x.toNat:Int) ==(at'.toNat:Int))=false:=by rw[beq_eq_false_iff_ne];intro h;exact hx (UInt8.toNat_inj.1 (by omega))
   obtain⟨v5',H',Z',s1,s2,s3⟩:=ih (pre++[x]) from_ acc v5 M H Z (by rw[he];simp) (by simp at hM;omega) (by simp;omega) hw hB ho (by simp;omega)
   rw[List.drop_append_of_le_length hf]at s1
   refine⟨v5',H',Z',by rw[zGG,if_neg hx];exact s1,s2,fun fr k f0 f1 f5 f6 f7=>?_⟩
   rw[zI]
   simp only[zEV,zA f0,zA f1,zA f5,zA f6,zA f7,zO,zB,zAY,e1,zF,zU,e2,zu,retK,e7,e8,zJ,cond_false,zD,zN,zGA,zK,↓reduceIte,Nat.reduceEqDiff,zS .i64,e3]
   exact s3 _ _ (by simp[T.get_set]) (by simp[T.get_set]) (by simp[T.get_set]) (by simp[T.get_set]) (by simp[T.get_set])
abbrev zQC (c:zG):Prop:=∀ (s:Bs),s.length<=1000000000->∀ (at':UInt8) {H:Heap},WF H->∀ Z,∃ v H' Z',Own H' H.size 1 v (zGG at' [] s).length ((zGG at' [] s).map V.str)/\Gr H.size H H'/\∀ q,c zA2 [.str s,.int .u8 (at'.toNat:Int)] H Z q=q v H' Z'
theorem zRT (c:zG){N:Nat}(hN:9223372036854775807<=N)(s:Bs)(hs:s.length<=1000000000)(at':UInt8){H:Heap}(hw:WF H)(Z:Tape) :
  ∃ v H' Z',Own H' H.size 1 v (zGG at' [] s).length ((zGG at' [] s).map V.str)/\Gr H.size H H'/\∀ q,zMy c N (.str s) (.int .u8 (at'.toNat:Int)) H Z q=q v H' Z':=by
 obtain⟨v,H',Z',s1,s2,s3⟩:=l_cut c N at' s hs H.size s [] 0 [] .nils N H Z rfl (by omega) nl hw nl (Own.nil _ _ _) nl
 refine⟨v,H',Z',by simpa using s1,s2,fun q=>?_⟩
 simp only[zMy]
 rw[s3 _ _ (by simp[T.get_set]) (by simp[T.get_set]) (by simp[T.get_set]) (by simp[T.get_set]) (by simp[T.get_set])]
 simp only[zW,Nat.beq_refl,cond_true,seqK,zOt,zK,↓reduceIte]
def endsP (s p:Bs):Bool:=decide (p.length<=s.length) && decide (s.drop (s.length-p.length)=p)
theorem zQQ (c:zG)(N:Nat)(s p:Bs)(hs:s.length<=9223372036854775807)(H:Heap)(Z:Tape)(q:KV):zIK c N (.str s) (.str p) H Z q=q (.bool (endsP s p)) H Z:=by
 unfold endsP
 by_cases h:p.length<=s.length
 ·have e1:decide ((p.length:Int)<=(s.length:Int))=true:=decide_eq_true (by omega)
  have e2:wr .i64 ((s.length:Int)-(p.length:Int))=((s.length-p.length:Nat):Int):=by
   rw[show(s.length:Int)-(p.length:Int)=((s.length-p.length:Nat):Int)by omega,zES (by omega) (by omega)]
  have e3:zR true false [.str s,.int .i64 ((s.length-p.length:Nat):Int)]=some (.str (s.drop (s.length-p.length))):=zAt (by omega)
  have e4:zAL .eql (s.drop (s.length-p.length)) p=some (.bool (decide (s.drop (s.length-p.length)=p))):=(zSX _ _).trans (by congr 2;rw[Bool.eq_iff_iff];simp)
  simp only[zIK,zO,zB,zi,e1,zAB,retK,zN,zAA,e2,e3,zP,e4,zJ,cond_true,decide_eq_true h,Bool.true_and]
 ·have e1:decide ((p.length:Int)<=(s.length:Int))=false:=decide_eq_false (by omega)
  simp only[zIK,zO,zB,zi,e1,ze,zX,zJ,cond_false,decide_eq_false h,Bool.false_and]
end Go.Am.X

namespace Go.Am.X
theorem zQT {H:Heap}{B z:Nat}{v:V}{n:Nat}{cs:List V}(h:Own H B z v n cs):Rd H z v n cs:=(DatP.own h).rd
theorem zLb {H:Heap}{v:V}{l:List Bs}(h:Rd H 1 v l.length (l.map V.str)){i:Nat}(hi:i<l.length):∃ p,zn 1 [v,.int .i64 (i:Int)]=some p/\zf [p] H=some (.str l[i]):=h.elem1 (by rw[List.getElem?_map,List.getElem?_eq_getElem hi];rfl)
theorem streq (a b:Bs):zAL .eql a b=some (.bool (decide (a=b))):=(zSX a b).trans (by congr 2;rw[Bool.eq_iff_iff];simp)
theorem strne (a b:Bs):zAL .neq a b=some (.bool (!decide (a=b))):=by rw[str_neq];congr 2;rw[Bool.eq_iff_iff];simp
def badS:Bs:=[0,9,10,13,32,35,47,58,60,62,63,64,91,92,93,94,124]
def badT (n:Nat):Bool:=badS.any fun x=>decide (x.toNat=n)
theorem l_ref2_bad (c:zG)(N:Nat)(n:Nat)(H:Heap):∀ (l pre:Bs) (fr:T V) (Z:Tape) (m:Nat),badS=pre++l->l.length<m->fr.get 0=some (.int .u8 (n:Int))->fr.get 3=some (.int .i64 (pre.length:Int)) ->
  ∀ k,zq (zF2 c N) m ⟨fr,H⟩ Z k=if l.any (fun x=>decide (x.toNat=n))=true then k .ret ⟨(T.s .leaf 2 (.bool true)),H⟩ Z else k (.exit 0) ⟨.leaf,H⟩ Z:=by
 have hl:badS.length=17:=rfl
 have hb:bs [0,9,10,13,32,35,47,58,60,62,63,64,91,92,93,94,124]=badS:=rfl
 intro l
 induction l with
 | nil =>
  intro pre fr Z m he hm f0 f3 k
  obtain⟨m,rfl⟩:∃ j,m=j+1:=⟨m-1,by omega⟩
  have hp:pre.length=17:=by rw[<- hl,he];simp
  have e1:decide ((pre.length:Int)<Int.ofNat 17)=false:=decide_eq_false (by rw[hp];decide)
  rw[zI]
  simp only[zF2,zA f0,zA f3,zL,e1,zD,List.any_nil]
  rfl
 | cons x l ih =>
  intro pre fr Z m he hm f0 f3 k
  obtain⟨m,rfl⟩:∃ j,m=j+1:=⟨m-1,by omega⟩
  have hp:pre.length<17:=by rw[<- hl,he];simp
  have e1:decide ((pre.length:Int)<Int.ofNat 17)=true:=decide_eq_true (by have:Int.ofNat 17=17:=rfl;omega)
  have e2:zM [.str badS,.int .i64 (pre.length:Int)]=some (.int .u8 (x.toNat:Int)):=zk (by rw[he];simp)
  have e3:wr .i64 ((pre.length:Int)+Int.ofNat 1)=((pre++[x]).length:Int):=by rw[adI (by omega)];simp
  have e4:((x.toNat:Int) ==(n:Int))=decide (x.toNat=n):=by rw[Bool.eq_iff_iff];simp;omega
  rw[zI,List.any_cons]
  by_cases h:x.toNat=n
  ·simp only[zF2,zA f0,zA f3,zL,e1,zF,hb,e2,zB,zU,e4,decide_eq_true h,Bool.true_or,if_true]
   rfl
  ·simp only[zF2,zA f0,zA f3,zL,e1,zF,hb,e2,zB,zU,e4,decide_eq_false h,zD,zS .i64,e3,Bool.false_or]
   exact ih (pre++[x]) _ Z m (by rw[he];simp) (by simp at hm;omega) (by simp[T.get_set]) (by simp[T.get_set]) k
abbrev BadOk (c:zG):Prop:=∀ (n:Nat) H Z q,c zH0 [.int .u8 (n:Int)] H Z q=q (.bool (badT n)) H Z
theorem zRK (c:zG){N:Nat}(hN:100<=N)(n:Nat)(H:Heap)(Z:Tape)(q:KV):zM1 c N (.int .u8 (n:Int)) H Z q=q (.bool (badT n)) H Z:=by
 simp only[zM1]
 rw[l_ref2_bad c N n H badS [] _ Z N rfl (by have:badS.length=17:=rfl;omega) (by simp[T.get_set]) (by simp[T.get_set])]
 unfold badT
 by_cases h:(badS.any fun x=>decide (x.toNat=n))=true
 ·rw[if_pos h,h];rfl
 ·rw[if_neg h,Bool.eq_false_iff.2 h]
  simp only[zW,Nat.beq_refl,cond_true,seqK,zOR]
def Lbl (H:Heap)(v:V)(l:List Bs)(n:Nat):Prop:=Rd H 1 v l.length (l.map V.str)/\1<=l.length/\l.length<=n+1/\∀ x ∈ l,x.length<=n
abbrev LblOk (c:zG):Prop:=∀ (s:Bs),s.length<=1000000->∀ {H:Heap},WF H->∀ Z,∃ l v H' Z',Lbl H' v l s.length/\Gr H.size H H'/\∀ q,c zFd [.str s] H Z q=q v H' Z'
theorem zPG (c:zG)(N:Nat)(hC:zQC c)(s:Bs)(hs:s.length<=1000000){H:Heap}(hw:WF H)(Z:Tape) :
  ∃ l v H' Z',Lbl H' v l s.length/\Gr H.size H H'/\∀ q,zEN c N (.str s) H Z q=q v H' Z':=by
 obtain⟨v,H1,Z1,o1,g1,k1⟩:=hC s (by omega) 46 hw Z
 obtain⟨c1,c2,c3⟩:=zOK 46 s []
 generalize zGG 46 [] s=l at o1 c1 c2 c3
 have r1:=zQT o1
 have pl:=r1.pLen
 have k1':∀ q,c zA2 [.str s,.int .u8 (.ofNat 46)] H Z q=q v H1 Z1:=k1
 by_cases h1:1<l.length
 ·have e1:decide (Int.ofNat 1<(l.length:Int))=true:=decide_eq_true (by have:Int.ofNat 1=1:=rfl;omega)
  have e2:wr .i64 ((l.length:Int)-Int.ofNat 1)=((l.length-1:Nat):Int):=sbI (by omega) (by omega)
  obtain⟨p,p1,p2⟩:=zLb r1 (i:=l.length-1) (by omega)
  by_cases h2:l[l.length-1]=[]
  ·have e3:zAL .eql l[l.length-1] []=some (.bool true):=by rw[streq,decide_eq_true h2]
   rcases o1 with⟨rfl,h0,_⟩ | ⟨id,e,room,fam,ver,pl',st,fr,rfl,q2,q3,q4,q5,q6,q7⟩
   ·omega
   ·have hb:zE8 false true false [V.int .i64 ((l.length-1:Nat):Int)]=some (none,some (l.length-1),none):=by simp only[zE8,optN,natOf_mk]
    have hwi:within (l.length-1) l.length (some e)=true:=by rw[within_iff];exact .inl (by omega)
    have h0:Nat.ble 0 (l.length-1)=true:=Nat.ble_eq_true_of_le (Nat.zero_le _)
    have h0':Nat.ble 0 l.length=true:=Nat.ble_eq_true_of_le (Nat.zero_le _)
    have e4:zHq 1 false true false [V.sl id 0 l.length l.length (some e) 1,.int .i64 ((l.length-1:Nat):Int)]=some (.sl id 0 (l.length-1) l.length (some e) 1):=by
     simp only[zHq,Nat.beq_refl,cond_true,hb,zSR,Option.getD_some,Option.getD_none,hwi,h0,Bool.and_self,h0',offIn,Nat.sub_zero]
    refine⟨l.take (l.length-1),.sl id 0 (l.length-1) l.length (some e) 1,H1,Z1,⟨?_,by rw[List.length_take];omega,by rw[List.length_take];omega,fun x hx=>?_⟩,g1,fun q=>?_⟩
    ·refine .inr ⟨id,0,l.length,some e,_,by rw[List.length_take,Nat.min_eq_left (by omega)],zOn q2 q3 q4,?_,by rw[List.length_map,Nat.mul_one]⟩
     rw[List.drop_zero,Nat.mul_one,List.map_take,List.length_take,Nat.min_eq_left (by omega)]
    ·have:=c3 x (List.mem_of_mem_take hx);simp at this;exact this
    ·simp only[zEN,k1',pl,zB,zY,e1,zAB,retK,zN,zAA,e2,p1,p2,zP,e3,zJ,cond_true,zF,e4,zDO,zK,↓reduceIte]
  ·have e3:zAL .eql l[l.length-1] []=some (.bool false):=by rw[streq,decide_eq_false h2]
   refine⟨l,v,H1,Z1,⟨r1,c1,c2,fun x hx=>by have:=c3 x hx;simp at this;exact this⟩,g1,fun q=>?_⟩
   simp only[zEN,k1',pl,zB,zY,e1,zAB,retK,zN,zAA,e2,p1,p2,zP,e3,zJ,cond_true,zD,zDO,zK,↓reduceIte,Nat.reduceEqDiff]
 ·have e1:decide (Int.ofNat 1<(l.length:Int))=false:=decide_eq_false (by have:Int.ofNat 1=1:=rfl;omega)
  refine⟨l,v,H1,Z1,⟨r1,c1,c2,fun x hx=>by have:=c3 x hx;simp at this;exact this⟩,g1,fun q=>?_⟩
  simp only[zEN,k1',pl,zB,zY,e1,ze,zX,zJ,cond_false,zD,zDO,zK,↓reduceIte,Nat.reduceEqDiff]
theorem l_numb3 (c:zG)(N:Nat)(hD:zRg c)(x:Bs)(hx:x.length<=1000000)(H:Heap):∀ (l pre:Bs) (b:Bool),x=pre++l->∃ b':Bool,∀ (fr:T V) (Z:Tape) (m:Nat) k,l.length<m->fr.get 4=some (.str x)->fr.get 5=some (.bool b)->fr.get 6=some (.int .i64 (pre.length:Int)) ->
  zq (zCe c N) m ⟨fr,H⟩ Z k=k (.exit 0) ⟨(T.s (T.s .leaf 4 (.str x)) 5 (.bool b')),H⟩ Z:=by
 intro l
 induction l with
 | nil =>
  intro pre b he
  refine⟨b,fun fr Z m k hm f4 f5 f6=>?_⟩
  obtain⟨m,rfl⟩:∃ j,m=j+1:=⟨m-1,by omega⟩
  have e1:decide ((pre.length:Int)<(x.length:Int))=false:=decide_eq_false (by rw[he];simp)
  rw[zI]
  simp only[zCe,zA f4,zA f5,zA f6,zO,zB,zL,e1,zD]
  rfl
 | cons y l ih =>
  intro pre b he
  have hl:pre.length<x.length:=by rw[he];simp
  have e1:decide ((pre.length:Int)<(x.length:Int))=true:=decide_eq_true (by omega)
  have e2:zM [.str x,.int .i64 (pre.length:Int)]=some (.int .u8 (y.toNat:Int)):=zk (by rw[he];simp)
  have e3:wr .i64 ((pre.length:Int)+Int.ofNat 1)=((pre++[y]).length:Int):=by rw[adI (by omega)];simp
  obtain⟨b',h⟩:=ih (pre++[y]) (b && digB y.toNat) (by rw[he];simp)
  refine⟨b',fun fr Z m k hm f4 f5 f6=>?_⟩
  obtain⟨m,rfl⟩:∃ j,m=j+1:=⟨m-1,by omega⟩
  rw[zI]
  cases b with
  | false =>
   simp only[zCe,zA f4,zA f5,zA f6,zO,zB,zL,e1,zF,ze,zX,zJ,cond_false,zS .i64,e3]
   exact h _ Z m k (by simp at hm;omega) (by simp[T.get_set]) (by simp[T.get_set]) (by simp[T.get_set])
  | true =>
   simp only[zCe,zA f4,zA f5,zA f6,zO,zB,zL,e1,zF,zAB,retK,zN,e2,hD,zJ,cond_true,zS .i64,e3]
   exact h _ Z m k (by simp at hm;omega) (by simp[T.get_set]) (by simp[T.get_set]) (by simp[T.get_set])
theorem l_numb2 (c:zG)(N:Nat)(hX:zQX c)(x:Bs)(hx:x.length<=1000000)(H:Heap):∀ (l pre:Bs),x=pre++l->∃ b:Bool,∀ (fr:T V) (Z:Tape) (m:Nat) k,l.length<m->fr.get 4=some (.str x)->fr.get 7=some (.int .i64 (pre.length:Int)) ->
  zq (zBO c N) m ⟨fr,H⟩ Z k=if b=true then k (.exit 2) ⟨.leaf,H⟩ Z else k .ret ⟨(T.s .leaf 2 (.bool false)),H⟩ Z:=by
 intro l
 induction l with
 | nil =>
  intro pre he
  refine⟨true,fun fr Z m k hm f4 f7=>?_⟩
  obtain⟨m,rfl⟩:∃ j,m=j+1:=⟨m-1,by omega⟩
  have e1:decide ((pre.length:Int)<(x.length:Int))=false:=decide_eq_false (by rw[he];simp)
  rw[zI]
  simp only[zBO,zA f4,zA f7,zO,zB,zL,e1,zD]
  rfl
 | cons y l ih =>
  intro pre he
  have hl:pre.length<x.length:=by rw[he];simp
  have e1:decide ((pre.length:Int)<(x.length:Int))=true:=decide_eq_true (by omega)
  have e2:zM [.str x,.int .i64 (pre.length:Int)]=some (.int .u8 (y.toNat:Int)):=zk (by rw[he];simp)
  have e3:wr .i64 ((pre.length:Int)+Int.ofNat 1)=((pre++[y]).length:Int):=by rw[adI (by omega)];simp
  have kx:=fun H Z q=>hX y.toNat y.toNat_lt H Z q
  by_cases h0:hexT y.toNat<0
  ·have e4:decide (hexT y.toNat<Int.ofNat 0)=true:=decide_eq_true h0
   refine⟨false,fun fr Z m k hm f4 f7=>?_⟩
   obtain⟨m,rfl⟩:∃ j,m=j+1:=⟨m-1,by omega⟩
   rw[zI]
   simp only[zBO,zA f4,zA f7,zO,zB,zL,e1,zF,e2,kx,e4]
   rfl
  ·have e4:decide (hexT y.toNat<Int.ofNat 0)=false:=decide_eq_false h0
   obtain⟨b,h⟩:=ih (pre++[y]) (by rw[he];simp)
   refine⟨b,fun fr Z m k hm f4 f7=>?_⟩
   obtain⟨m,rfl⟩:∃ j,m=j+1:=⟨m-1,by omega⟩
   rw[zI]
   simp only[zBO,zA f4,zA f7,zO,zB,zL,e1,zF,e2,kx,e4,zD,zS .i64,e3]
   exact h _ Z m k (by simp at hm;omega) (by simp[T.get_set]) (by simp[T.get_set])
abbrev zPr (c:zG):Prop:=∀ (s p:Bs) H Z q,c zAg [.str s,.str p] H Z q=q (.bool (begB s p)) H Z
theorem zMv {s p:Bs}(h:begB s p=true):p.length<=s.length:=by
 unfold begB at h
 exact(List.isPrefixOf_iff_prefix.1 h).length_le
abbrev NumbOk (c:zG):Prop:=∀ (s:Bs),s.length<=1000000->∀ {H:Heap},WF H->∀ Z,∃ (b:Bool) (H':Heap) (Z':Tape),Gr H.size H H'/\∀ q,c zDi [.str s] H Z q=q (.bool b) H' Z'
theorem zNu (c:zG){N:Nat}(hN:9223372036854775807<=N)(hL:LblOk c)(hB:zPr c)(hD:zRg c)(hX:zQX c)(s:Bs)(hs:s.length<=1000000){H:Heap}(hw:WF H)(Z:Tape) :
  ∃ (b:Bool) (H':Heap) (Z':Tape),Gr H.size H H'/\∀ q,zBx c N (.str s) H Z q=q (.bool b) H' Z':=by
 obtain⟨l,v,H1,Z1,⟨r1,c1,c2,c3⟩,g1,k1⟩:=hL s hs hw Z
 have pl:=r1.pLen
 have e2:wr .i64 ((l.length:Int)-Int.ofNat 1)=((l.length-1:Nat):Int):=sbI (by omega) (by omega)
 obtain⟨p,p1,p2⟩:=zLb r1 (i:=l.length-1) (by omega)
 have hx:=c3 _ (List.getElem_mem (show l.length-1<l.length by omega))
 generalize l[l.length-1]=x at p2 hx
 obtain⟨b,hb⟩:=l_numb3 c N hD x (by omega) H1 x [] (decide (Int.ofNat 0<(x.length:Int))) rfl
 cases b with
 | true =>
  refine⟨true,H1,Z1,g1,fun q=>?_⟩
  simp only[zBx,k1,pl,zB,zAA,e2,p1,p2,zO,zY]
  rw[hb _ _ _ _ (by omega) (by simp[T.get_set]) (by simp[T.get_set]) (by simp[T.get_set])]
  simp only[zW,Nat.beq_refl,cond_true,seqK,zCQ,zK,↓reduceIte,Nat.reduceEqDiff,zF]
 | false =>
  have go:(begB x (bs [48,120])=true∨begB x (bs [48,88])=true)->∃ (b:Bool),∀ q,zq (zBO c N) N ⟨(T.s (T.s .leaf 4 (.str x)) 7 (.int .i64 (.ofNat 2))),H1⟩ Z1 (zW 2 (seqK (zFi c N q) (endK [(.t 2)] q)))=q (.bool b) H1 Z1:=by
   intro h
   have h2:2<=x.length:=by rcases h with h | h <;> exact zMv h
   obtain⟨b',h'⟩:=l_numb2 c N hX x (by omega) H1 (x.drop 2) (x.take 2) (List.take_append_drop 2 x).symm
   refine⟨b',fun q=>?_⟩
   rw[h' _ _ _ _ (by rw[List.length_drop];omega) (by simp[T.get_set]) (by rw[List.length_take,Nat.min_eq_left h2];simp[T.get_set])]
   cases b' with
   | true=>rw[if_pos rfl];simp only[zW,Nat.beq_refl,cond_true,seqK,zFi]
   | false=>rw[if_neg (by decide)];rfl
  by_cases h1:begB x (bs [48,120])=true
  ·obtain⟨b',h'⟩:=go (.inl h1)
   refine⟨b',H1,Z1,g1,fun q=>?_⟩
   simp only[zBx,k1,pl,zB,zAA,e2,p1,p2,zO,zY]
   rw[hb _ _ _ _ (by omega) (by simp[T.get_set]) (by simp[T.get_set]) (by simp[T.get_set])]
   simp only[zW,Nat.beq_refl,cond_true,seqK,zCQ,zK,↓reduceIte,Nat.reduceEqDiff,zD,hB,h1,zg,Bool.not_true,ze,zX,zJ,cond_false,zB]
   exact h' q
  ·have h1':begB x (bs [48,120])=false:=by simpa using h1
   by_cases h2:begB x (bs [48,88])=true
   ·obtain⟨b',h'⟩:=go (.inr h2)
    refine⟨b',H1,Z1,g1,fun q=>?_⟩
    simp only[zBx,k1,pl,zB,zAA,e2,p1,p2,zO,zY]
    rw[hb _ _ _ _ (by omega) (by simp[T.get_set]) (by simp[T.get_set]) (by simp[T.get_set])]
    simp only[zW,Nat.beq_refl,cond_true,seqK,zCQ,zK,↓reduceIte,Nat.reduceEqDiff,zD,hB,h1',h2,zg,Bool.not_true,Bool.not_false,zAB,retK,zN,zJ,cond_true,zB]
    exact h' q
   ·have h2':begB x (bs [48,88])=false:=by simpa using h2
    refine⟨false,H1,Z1,g1,fun q=>?_⟩
    simp only[zBx,k1,pl,zB,zAA,e2,p1,p2,zO,zY]
    rw[hb _ _ _ _ (by omega) (by simp[T.get_set]) (by simp[T.get_set]) (by simp[T.get_set])]
    simp only[zW,Nat.beq_refl,cond_true,seqK,zCQ,zK,↓reduceIte,Nat.reduceEqDiff,zD,hB,h1',h2',zg,Bool.not_false,zAB,retK,zN,zJ,cond_true,zB,zF]
end Go.Am.X

