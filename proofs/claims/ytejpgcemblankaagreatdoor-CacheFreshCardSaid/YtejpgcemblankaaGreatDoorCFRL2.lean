/- The abstract machine, printed functions of the program, and what they are shown to be. -/
import Derived.Test.YtejpgcemblankaaGreatDoorCFRL1
import Derived.Test.YtejpgcemblankaaGreatDoorCFRM4
set_option linter.unusedSimpArgs false
set_option linter.unusedVariables false
set_option linter.unusedSectionVars false
set_option maxRecDepth 100000
namespace Go.Am.X
end Go.Am.X

namespace Go.Am.X
end Go.Am.X

namespace Go.Am.X
def SplitOk (c:zC)(name:Bs)(hs:List (Bs × Bs)):Prop:=∀ (v:V) (H:Heap),WF H->Rd H 2 v hs.length (hcells hs)->∀ Z,
  ∃ v' H' Z',Own H' H.size 1 v' (zBw name hs).length ((zBw name hs).map V.str)/\(zBw name hs).length<=4294967296/\Gr H.size H H'/\∀ q,c zA0 [v,.str name] H Z q=q (.tup [v',.bool (decide (0<(sel name hs).length))]) H' Z'
abbrev GetOk' (c:zC)(name:Bs)(hs:List (Bs × Bs)):Prop:=∀ (v:V) (H:Heap),WF H->Rd H 2 v hs.length (hcells hs)->∀ Z,
  ∃ H' Z',Gr H.size H H'/\∀ q,c zAS [v,.str name] H Z q=q (.tup [.str (getT name hs),.bool (decide (0<(sel name hs).length))]) H' Z'
abbrev zTR (c:zC):Prop:=∀ (s:Bs),s.length<9223372036854775807->∀ (H:Heap),WF H->∀ Z,∃ H' Z',Gr H.size H H'/\∀ q,c zBu [.str s] H Z q=q (.str (strip s)) H' Z'
abbrev CutOk (c:zC)(x:UInt8):Prop:=∀ (s:Bs),s.length<9223372036854775807->∀ H Z q,c zDe [.str s,.str [x]] H Z q=q (match cutB x s with | some (a,b)=>.tup [.str a,.str b,.bool true] | none=>.tup [.str s,.str [],.bool false]) H Z
abbrev IntOk (c:zC):Prop:=∀ (s:Bs),s.length<9223372036854775807->∀ H Z q,c zEy [.str s] H Z q=q (.tup [.int .i64 (intB s).1,.bool (intB s).2]) H Z
abbrev C (N d:Nat):zC:=zCt (zCV tabE N) d
theorem C_nat (N d:Nat):zMk (C N d):=tab_nat N d
section
variable {N:Nat} (hN:9223372036854775807<N)
include hN
theorem zG2 (d:Nat)(cut:Bs){id:Nat}{H:Heap}(hc:H.cells? id=some (mark (repl 256 [.bool false]) cut))(x:UInt8)(Z:Tape)(q:KV):C N (d+1) zAJ [.ptr id 0,.int .u8 (x.toNat:Int)] H Z q=q (.bool (cut.contains x)) H Z:=by
 have hr:(repl 256 [V.bool false]).length=256:=by rw[zDF];rfl
 have hg:∀ i,i<256->(repl 256 [V.bool false])[i]?=some (.bool false):=fun i hi=>by
  rw[zRD,List.getElem?_replicate,if_pos hi]
 have:=mark_get cut (repl 256 [V.bool false]) x hr (fun i hi=>⟨false,hg i hi⟩) false (hg _ (u8_lt x))
 exact s81_eval (C N d) N hc (by simpa using this) Z q
theorem zMJ (d:Nat)(hd:2<=d)(cut s:Bs)(id:Nat)(H:Heap)(hs:s.length<9223372036854775807)(hc:H.cells? id=some (mark (repl 256 [.bool false]) cut))(Z:Tape)(q:KV):C N d zBp [.str s,.ptr id 0] H Z q=q (.str (s.dropWhile cut.contains)) H Z:=by
 obtain⟨d,rfl⟩:∃ e,d=e+1+1:=⟨d-2,by omega⟩
 show zCw (C N (d+1)) N (.str s) (.ptr id 0) H Z q=_
 simp only[zCw]
 rw[trimL_loop (C N (d+1)) N cut.contains (fun x Z q=>zG2 hN d cut hc x Z q) _ s N _ Z (by omega) (by simp[T.get_set]) (by simp[T.get_set])]
 simp only[zX,Nat.beq_refl,cond_true,seqK,zGI,zV,↓reduceIte]
theorem zLw (d:Nat)(hd:2<=d)(cut s:Bs)(id:Nat)(H:Heap)(hs:s.length<9223372036854775807)(hc:H.cells? id=some (mark (repl 256 [.bool false]) cut))(Z:Tape)(q:KV):C N d zBg [.str s,.ptr id 0] H Z q=q (.str (s.reverse.dropWhile cut.contains).reverse) H Z:=by
 obtain⟨d,rfl⟩:∃ e,d=e+1+1:=⟨d-2,by omega⟩
 show zCb (C N (d+1)) N (.str s) (.ptr id 0) H Z q=_
 simp only[zCb]
 rw[trimR_loop (C N (d+1)) N cut.contains (fun x Z q=>zG2 hN d cut hc x Z q) _ s.reverse N _ Z (by simpa using hs) (by simp;omega) (by simp[T.get_set]) (by simp[T.get_set])]
 simp only[zX,Nat.beq_refl,cond_true,seqK,zFY,zV,↓reduceIte]
theorem zLU (d:Nat)(hd:3<=d)(cut:Bs)(h2:2<=cut.length)(h3:cut.length<9223372036854775807)(ha:∀ x ∈ cut,x.toNat<128):TrimOk (C N d) cut:=by
 intro s hs H hw Z q
 obtain⟨d,rfl⟩:∃ e,d=e+1:=⟨d-1,by omega⟩
 refine zP1 (C N d) N (Nat.le_of_lt hN) cut s h2 h3 hs H hw (fun H hw Z q=>?_) (fun s id H hs hc Z q=>zMJ hN d (by omega) cut s id H hs hc Z q) (fun s id H hs hc Z q=>zLw hN d (by omega) cut s id H hs hc Z q) Z q
 obtain⟨d,rfl⟩:∃ e,d=e+1:=⟨d-1,by omega⟩
 exact zGE (C N d) N (Nat.le_of_lt hN) cut ha h3 H hw Z q
theorem zRu (d:Nat)(hd:3<=d):TrimOk (C N d) [9,32]:=zLU hN d hd _ (by decide) (by decide) (by decide)
theorem zSc (d:Nat)(hd:4<=d):StripOk (C N d):=by
 intro s hs H hw Z q
 obtain⟨d,rfl⟩:∃ e,d=e+1:=⟨d-1,by omega⟩
 exact zQb (C N d) N (zLU hN d (by omega) [9,10,12,13,32] (by decide) (by decide) (by decide)) s hs H hw Z q
theorem d42' (d:Nat)(hd:4<=d):zTR (C N d):=by
 intro s hs H hw Z
 obtain⟨H',k1,k2⟩:=zSc hN d hd s hs H hw Z retK
 exact⟨H',Z,k1,fun q=>(C_nat N d).mk k2 q⟩
theorem zPd (d:Nat)(hd:3<=d):LowOk (C N d):=by
 intro s hs H hw Z q
 obtain⟨d,rfl⟩:∃ e,d=e+1+1+1:=⟨d-3,by omega⟩
 obtain⟨H',Z',k1,k2⟩:=zPa (C N (d+1)) N (Nat.le_of_lt hN) s hs H hw (fun x H Z q=>s69_eval (C N d) N x H Z q) Z (fun v0 H1 Z2=>q v0 H1 Z2)
 exact⟨H',Z',k1,k2⟩
theorem zQi (d:Nat)(hd:4<=d)(name:Bs)(hm:name.length<=140737488355328)(n v:Bs)(hn:n.length<=140737488355328)(H:Heap)(hw:WF H)(Z:Tape)(q:KV):∃ H' Z',Gr H.size H H'/\C N d zDm [.agg [.str n,.str v],.str name] H Z q=q (.bool (lower n == lower name)) H' Z':=by
 obtain⟨d,rfl⟩:∃ e,d=e+1:=⟨d-1,by omega⟩
 exact zQ6 (C N d) N (zPd hN d (by omega)) n v name hn hm H hw Z q
end
structure Small (hs:List (Bs × Bs)):Prop where
 len:hs.length<=1000
 all:∀ h ∈ hs,h.1.length<=10000/\h.2.length<=10000
section
variable {N:Nat} (hN:9223372036854775807<N)
include hN
omit hN in
theorem joinT_length (sep:Bs)(M:Nat):∀ (l:List Bs),(∀ x ∈ l,x.length<=M)->(joinT sep l).length<=l.length*(M+sep.length):=by
 intro l
 induction l with
 | nil=>intro _;simp[joinT]
 | cons x l ih =>
  intro h
  have h1:=h x (by simp)
  have h2:=ih (fun y hy=>h y (by simp[hy]))
  simp only[joinT,List.length_append,List.length_cons,Nat.succ_mul]
  omega
omit hN in
theorem joinB_length (sep:Bs)(M:Nat)(l:List Bs)(h:∀ x ∈ l,x.length<=M):(zPN sep l).length<=l.length*(M+sep.length):=by
 cases l with
 | nil=>simp[zPN]
 | cons x l =>
  have h1:=h x (by simp)
  have h2:=joinT_length sep M l (fun y hy=>h y (by simp[hy]))
  simp only[zPN,List.length_append,List.length_cons,Nat.succ_mul]
  omega
omit hN in
theorem zLt {hs:List (Bs × Bs)}(h:Small hs)(name:Bs):(getT name hs).length<=10002000:=by
 have h1:(sel name hs).length<=1000:=by
  have:=h.len
  simp only[sel,List.length_map]
  have:=List.length_filter_le (fun h:Bs × Bs=>lower h.1 == lower name) hs
  omega
 have h2:=joinB_length [44,32] 10000 (sel name hs) (fun x hx=>by
  simp only[sel,List.mem_map,List.mem_filter]at hx
  obtain⟨y,⟨hy,_⟩,rfl⟩:=hx
  exact(h.all y hy).2)
 have h3:(sel name hs).length*(10000+([44,32]:Bs).length)<=1000*10002:=Nat.mul_le_mul h1 (by simp)
 unfold getT
 omega
theorem zPk (d:Nat)(hd:5<=d)(name:Bs)(hm:name.length<=140737488355328){hs:List (Bs × Bs)}(h:Small hs):GetOk (C N d) name hs:=by
 intro v H hw hr Z q
 obtain⟨d,rfl⟩:∃ e,d=e+1:=⟨d-1,by omega⟩
 obtain⟨d,rfl⟩:∃ e,d=e+1:=⟨d-1,by omega⟩
 exact zQR (C N (d+1)) N (Nat.le_of_lt hN) name hm hs (by have:=h.len;omega) (fun x hx=>by have:=(h.all x hx).1;omega) (by have:=zLt h name;omega) (fun _ _ _ _=>rfl)
  (fun n v hn H hw Z q=>zQi hN (d+1) (by omega) name hm n v hn H hw Z q) v H hw hr Z q
theorem d20' (d:Nat)(hd:5<=d)(name:Bs)(hm:name.length<=140737488355328){hs:List (Bs × Bs)}(h:Small hs):GetOk' (C N d) name hs:=by
 intro v H hw hr Z
 obtain⟨H',Z',k1,k2⟩:=zPk hN d hd name hm h v H hw hr Z retK
 exact⟨H',Z',k1,fun q=>(C_nat N d).mk k2 q⟩
theorem zRM (d:Nat)(hd:6<=d)(name:Bs)(hm:name.length<=140737488355328){hs:List (Bs × Bs)}(h:Small hs):SplitOk (C N d) name hs:=by
 intro v H hw hr Z
 obtain⟨d,rfl⟩:∃ e,d=e+1:=⟨d-1,by omega⟩
 obtain⟨v',H',Z',k1,k2,k3,k4⟩:=zO9 (C N d) N (Nat.le_of_lt hN) name hs (by have:=zLt h name;omega) (zPk hN d (by omega) name hm h) (zRu hN d (by omega)) v H hw hr Z retK
 exact⟨v',H',Z',k1,k2,k3,fun q=>(C_nat N (d+1)).mk (f:=zA0) (vs:=[v,.str name]) k4 q⟩
theorem zTI (d:Nat)(hd:4<=d)(x:UInt8):CutOk (C N d) x:=by
 intro s hs H Z q
 obtain⟨d,rfl⟩:∃ e,d=e+1+1+1+1:=⟨d-4,by omega⟩
 exact s37_one (C N (d+1+1+1)) N s x (fun H Z q=>s66_one (C N (d+1+1)) N s x hs (fun s x H Z q=>s85_one (C N (d+1)) N s x (fun _ _ _ _=>rfl) H Z q) H Z q) H Z q
theorem d_infra_Int (d:Nat)(hd:1<=d):IntOk (C N d):=by
 intro s hs H Z q
 obtain⟨d,rfl⟩:∃ e,d=e+1:=⟨d-1,by omega⟩
 exact s67_eval (C N d) N (Nat.le_of_lt hN) s hs H Z q
end
end Go.Am.X

namespace Go.Am.X
theorem zIt (c:zC)(N:Nat)(n:Int)(H:Heap)(Z:Tape)(q:KV):zBv c N (.int .i64 n) H Z q=q (.bool (decide (8<n))) H Z:=by
 have e:decide (Int.ofNat 8<n)=decide (8<n):=rfl
 simp only[zBv,zAV,e]
theorem zOW (c:zC)(N:Nat)(n:Int)(H:Heap)(Z:Tape):∃ b,∀ q,zBy c N (.int .i32 n) H Z q=q (.bool b) H Z:=by
 by_cases h1:Int.ofNat 0<=n
 ·by_cases h2:n<Int.ofNat 55296
  ·refine⟨true,fun q=>?_⟩
   simp only[zBy,zBk,decide_eq_true h1,zCs,retK,zh,zN,decide_eq_true h2,zS,cond_true,zJ,zQ]
  ·by_cases h3:Int.ofNat 57343<n
   ·by_cases h4:n<=Int.ofNat 1114111
    ·refine⟨true,fun q=>?_⟩
     simp only[zBy,zBk,decide_eq_true h1,zCs,retK,zh,zN,decide_eq_false h2,zS,cond_true,zJ,zO,decide_eq_true h3,decide_eq_true h4,zQ]
    ·refine⟨false,fun q=>?_⟩
     simp only[zBy,zBk,decide_eq_true h1,zCs,retK,zh,zN,decide_eq_false h2,zS,cond_true,zJ,zO,decide_eq_true h3,decide_eq_false h4,zQ]
   ·refine⟨false,fun q=>?_⟩
    simp only[zBy,zBk,decide_eq_true h1,zCs,retK,zh,zN,decide_eq_false h2,zS,cond_true,cond_false,zJ,zO,decide_eq_false h3,zBP,zCo]
 ·by_cases h3:Int.ofNat 57343<n
  ·exact absurd h3 (by simp at h1 ⊢;omega)
  ·refine⟨false,fun q=>?_⟩
   simp only[zBy,zBk,decide_eq_false h1,zCs,retK,zh,zN,zS,cond_true,cond_false,zJ,zO,decide_eq_false h3,zBP,zCo]
theorem zRv (x:Nat):∀ (l:Bs) (i:Nat),(∀ y ∈ l,y.toNat≠x)->idxB x l i=-1:=by
 intro l
 induction l with
 | nil=>intro i _;rfl
 | cons y l ih =>
  intro i h
  have e:Nat.beq y.toNat x=false:=by
   cases hb:Nat.beq y.toNat x with
   | false=>rfl
   | true=>exact absurd (Nat.eq_of_beq_eq_true hb) (h y (by simp))
  simp only[idxB,e,cond_false]
  exact ih _ (fun z hz=>h z (by simp[hz]))
theorem idxB_some (x:Nat):∀ (l:Bs) (i:Nat),(∃ y ∈ l,y.toNat=x)->0<=idxB x l i:=by
 intro l
 induction l with
 | nil=>intro i ⟨y,h,_⟩;simp at h
 | cons y l ih =>
  intro i h
  simp only[idxB,zCM]
  cases hb:Nat.beq y.toNat x with
  | true=>exact Int.natCast_nonneg _
  | false =>
   rw[cond_false]
   refine ih _ ?_
   obtain⟨z,hz,e⟩:=h
   rcases List.mem_cons.1 hz with rfl | hz
   ·rw[e]at hb
    rw[Nat.beq_refl]at hb;cases hb
   ·exact⟨z,hz,e⟩
def anyI (cut:Bs):Bs->Nat->Int
 | [],_=>-1
 | x::l,i=>if cut.contains x then(i:Int)else anyI cut l (i+1)
theorem anyI_iff (cut:Bs):∀ (l:Bs) (i:Nat),(decide (0<=anyI cut l i))=l.any cut.contains:=by
 intro l
 induction l with
 | nil=>intro i;rfl
 | cons x l ih =>
  intro i
  rw[anyI,List.any_cons]
  by_cases h:cut.contains x=true
  ·rw[if_pos h,h,decide_eq_true (Int.natCast_nonneg _)];rfl
  ·rw[if_neg h,ih]
   have:cut.contains x=false:=by simpa using h
   rw[this];rfl
theorem anyI_skip (cut:Bs)(ha:∀ x ∈ cut,x.toNat<128):∀ (w:Nat) (l:Bs) (i:Nat),w<=l.length->(∀ x ∈ l.take w,128<=x.toNat)->anyI cut l i=anyI cut (l.drop w) (i+w):=by
 intro w
 induction w with
 | zero=>intro l i _ _;rfl
 | succ w ih =>
  intro l i hl hx
  cases l with
  | nil=>simp at hl
  | cons x l =>
   have h1:¬ cut.contains x=true:=by
    intro h
    have h1:=ha x (by simpa using h)
    have h2:=hx x (by simp)
    omega
   rw[anyI,if_neg h1,List.drop_succ_cons,ih l (i+1) (by simpa using hl) (fun y hy=>hx y (by simp[hy]))]
   congr 1;omega
abbrev Idx70 (c:zC):Prop:=∀ (s:Bs) (x:UInt8) H Z q,c zB6 [.str s,.int .u8 (x.toNat:Int)] H Z q=q (.int .i64 (idxB x.toNat s 0)) H Z
theorem zMO (c:zC)(N:Nat)(h86:∀ (s:Bs) (x:UInt8) H Z q,c zBF [.str s,.int .u8 (x.toNat:Int)] H Z q=q (.int .i64 (idxB x.toNat s 0)) H Z)(s:Bs)(x:UInt8)(H:Heap)(Z:Tape)(q:KV) :
  zEh c N (.str s) (.int .u8 (x.toNat:Int)) H Z q=q (.int .i64 (idxB x.toNat s 0)) H Z:=by
 simp only[zEh,h86]
theorem zOc (c:zC)(N:Nat)(chars:Bs)(ha:∀ x ∈ chars,x.toNat<128)(id:Nat):∀ (l:Bs) (pos:Nat) (H:Heap) (fr:T V) (Z:Tape) (m:Nat),chars.drop pos=l->l.length<m->WF H->Iter H id chars pos->fr.get 175=some (.ptr id 0) ->
  ∃ H',Gr id H H'/\∀ k,zAZ (zDO c N) m ⟨fr,H⟩ Z k=k (.exit 9) ⟨.leaf,H'⟩ Z:=by
 intro l
 induction l with
 | nil =>
  intro pos H fr Z m hd hm hw it f
  obtain⟨m,rfl⟩:∃ j,m=j+1:=⟨m-1,by omega⟩
  refine⟨H,Gr.refl hw,fun k=>?_⟩
  have e:=zTT it (by simpa using hd) Z
  have x0:zH 0 [.tup [V.bool false]]=some (.bool false):=rfl
  rw[zI]
  simp only[zDO,zA f,e,zh,x0,zJ,zO]
  rfl
 | cons x l ih =>
  intro pos H fr Z m hd hm hw it f
  obtain⟨m,rfl⟩:∃ j,m=j+1:=⟨m-1,by omega⟩
  have hp:pos<chars.length:=by
   by_cases h:pos<chars.length
   ·exact h
   ·rw[List.drop_eq_nil_of_le (by omega)]at hd;cases hd
  have hx:=ha x (List.mem_of_mem_drop (i:=pos) (by rw[hd];simp))
  obtain⟨H1,e,g1,it1,z1⟩:=iter_next hw it hp Z
  rw[hd,dec_ascii x l hx]at e it1
  obtain⟨H2,g2,k2⟩:=ih (pos+1) H1 (T.s (T.s (T.s .leaf 5 (.int .i64 (pos:Int))) 175 (.ptr id 0)) 181 (.bool false)) Z m (by rw[<- List.drop_drop,hd];rfl) (by simp at hm;omega) g1.wf it1 (by simp[T.get_set])
  refine⟨H2,g1.trans g2 nl,fun k=>?_⟩
  have x0:∀ a b d:V,zH 0 [.tup [a,b,d]]=some a:=fun _ _ _=>rfl
  have x1:∀ a b d:V,zH 1 [.tup [a,b,d]]=some b:=fun _ _ _=>rfl
  have x2:∀ a b d:V,zH 2 [.tup [a,b,d]]=some d:=fun _ _ _=>rfl
  have ne:((x.toNat:Int) == Int.ofNat 65533)=false:=by rw[beq_eq_false_iff_ne];intro h;simp at h;omega
  rw[zI]
  simp only[zDO,zA f,e,zh,x0,x1,x2,zJ,zQ,zAv,ne,zO]
  exact k2 k
theorem zML (c:zC)(N:Nat)(hN:1000<N)(h70:Idx70 c)(h114:∀ (n:Int) H Z,∃ b,∀ q,c zGn [.int .i32 n] H Z q=q (.bool b) H Z)(chars:Bs)(ha:∀ x ∈ chars,x.toNat<128)(hl:chars.length<1000)(r:Nat)
  (H:Heap) (hw:WF H) (Z:Tape):∃ H',Gr H.size H H'/\∀ q,zB8 c N (.str chars) (.int .i32 (r:Int)) H Z q=q (.int .i64 (if r<128 then idxB r chars 0 else -1)) H' Z:=by
 have e0:decide (Int.ofNat 0<=(r:Int))=true:=decide_eq_true (by simp)
 by_cases h:r<128
 ·have e1:decide ((r:Int)<Int.ofNat 128)=true:=decide_eq_true (by simp;omega)
  have hu:(UInt8.ofNat r).toNat=r:=by rw[UInt8.toNat_ofNat'];omega
  have hwr:wr .u8 (r:Int)=((UInt8.ofNat r).toNat:Int):=by
   rw[hu,zS3]
   simp only[IntKind.wrap,IntKind.signed,IntKind.bits]
   simp <;> omega
  refine⟨H,Gr.refl hw,fun q=>?_⟩
  rw[if_pos h]
  simp only[zB8,zBk,e0,zCs,retK,zh,zN,e1,zS,cond_true,zJ,zQ,toInt_mk,hwr,h70]
  rw[hu]
 ·have e1:decide ((r:Int)<Int.ofNat 128)=false:=decide_eq_false (by simp;omega)
  rw[if_neg h]
  by_cases hr:r=65533
  ·subst hr
   have e2:(((65533:Nat):Int) == Int.ofNat 65533)=true:=rfl
   obtain⟨H1,k1,g1,it⟩:=zSY hw chars Z
   obtain⟨H2,g2,k2⟩:=zOc c N chars ha H.size chars 0 H1 (T.s .leaf 175 (.ptr H.size 0)) Z N rfl (by omega) g1.wf it (by simp[T.get_set])
   refine⟨H2,g1.trans g2 nl,fun q=>?_⟩
   simp only[zB8,zBk,e0,zCs,retK,zh,zN,e1,zS,cond_true,zJ,zO,zAv,e2,zQ,k1]
   rw[k2]
   rfl
  ·have e2:((r:Int) == Int.ofNat 65533)=false:=by rw[beq_eq_false_iff_ne];intro h;simp at h;omega
   obtain⟨b,hb⟩:=h114 (r:Int) H Z
   refine⟨H,Gr.refl hw,fun q=>?_⟩
   simp only[zB8,zBk,e0,zCs,retK,zh,zN,e1,zS,cond_true,zJ,zO,zAv,e2,hb,zCQ]
   cases b with
   | false=>simp only[Bool.not_false,zQ];rfl
   | true =>
    obtain⟨E1,E2,E3⟩:=enc_high r (by omega)
    have er:zRG [.int .i32 (r:Int)]=some (.str (zKS (r:Int))):=rfl
    simp only[Bool.not_true,zO,er,zJ,zAF]
    generalize zKS (r:Int)=rs at E1 E2 E3
    obtain⟨n,hn⟩:∃ n,rs.length=n+1:=⟨rs.length-1,by have:=List.length_pos_iff.2 E2;omega⟩
    have es:wr .i64 ((rs.length:Int)-Int.ofNat 1)=(n:Int):=by rw[zEE (by simp;omega) (by simp;omega)];simp;omega
    obtain⟨N,rfl⟩:∃ M,N=M+1:=⟨N-1,by omega⟩
    have f0:∀ j,getK (T.s (T.s (T.s (T.s .leaf 0 (.str chars)) 7 (.str rs)) 8 (.int .i64 (n:Int))) 9 (.int .i64 (n:Int))) j=getK (T.s (T.s (T.s (T.s .leaf 0 (.str chars)) 7 (.str rs)) 8 (.int .i64 (n:Int))) 9 (.int .i64 (n:Int))) j:=fun _=>rfl
    simp only[zCn,es]
    rw[zI]
    have ir:zL [.str rs,.int .i64 (n:Int)]=some (.int .u8 ((rs[n]'(by omega)).toNat:Int)):=zC6 (by rw[List.getElem?_eq_getElem])
    have hh:=E1 (rs[n]'(by omega)) (List.getElem_mem _)
    by_cases hlt:n<chars.length
    ·have e3:decide ((n:Int)<(chars.length:Int))=true:=decide_eq_true (by omega)
     have ic:zL [.str chars,.int .i64 (n:Int)]=some (.int .u8 ((chars[n]'hlt).toNat:Int)):=zC6 (by rw[List.getElem?_eq_getElem])
     have hc:=ha (chars[n]'hlt) (List.getElem_mem _)
     have e4:(((chars[n]'hlt).toNat:Int) !=((rs[n]'(by omega)).toNat:Int))=true:=by rw[bne_iff_ne];omega
     have e5:wr .i64 ((n:Int)+Int.ofNat 1)=((n+1:Nat):Int):=by rw[zEE (by simp;omega) (by simp;omega)];rfl
     have e6:zw true false [.str chars,.int .i64 ((n+1:Nat):Int)]=some (.str (chars.drop (n+1))):=zMc (by omega)
     have e7:idxB (rs[n]'(by omega)).toNat (chars.drop (n+1)) 0=-1:=zRv _ _ _ (fun y hy=>by have:=ha y (List.mem_of_mem_drop hy);omega)
     have e8:decide ((-1:Int)<Int.ofNat 0)=true:=rfl
     simp only[zFB,zV,↓reduceIte,Nat.reduceEqDiff,zAF,zJ,zN,e3,zQ,ic,ir,zEF,e4,ze,e5,e6,h70,e7,e8]
     rfl
    ·have e3:decide ((n:Int)<(chars.length:Int))=false:=decide_eq_false (by omega)
     simp only[zFB,zV,↓reduceIte,Nat.reduceEqDiff,zAF,zJ,zN,e3,zO]
     rfl
end Go.Am.X

namespace Go.Am.X
theorem zPQ (c:zC)(N:Nat)(cut s:Bs)(hs:s.length<9223372036854775807)(id:Nat)(H:Heap)(h81:∀ (x:UInt8) Z q,c zAJ [.ptr id 0,.int .u8 (x.toNat:Int)] H Z q=q (.bool (cut.contains x)) H Z)(q:KV) :
  ∀ (l pre:Bs) (fr:T V) (Z:Tape) (m:Nat),s=pre++l->l.length<m->fr.get 0=some (.str s)->fr.get 6=some (.ptr id 0)->fr.get 8=some (.int .i64 (pre.length:Int)) ->
  zAZ (zDL c N) m ⟨fr,H⟩ Z (zX 0 (seqK (zIe c N q) (seqK (zCT c N q) (endK [(.t 4)] q))))=q (.int .i64 (anyI cut l pre.length)) H Z:=by
 intro l
 induction l with
 | nil =>
  intro pre fr Z m he hm f0 f6 f8
  obtain⟨m,rfl⟩:∃ j,m=j+1:=⟨m-1,by omega⟩
  have e1:decide ((pre.length:Int)<(s.length:Int))=false:=decide_eq_false (by rw[he];simp)
  rw[zI]
  simp only[zDL,zA f0,zA f6,zA f8,zAF,zJ,zN,e1,zO]
  rfl
 | cons x l ih =>
  intro pre fr Z m he hm f0 f6 f8
  obtain⟨m,rfl⟩:∃ j,m=j+1:=⟨m-1,by omega⟩
  have hl:pre.length<s.length:=by rw[he];simp
  have e1:decide ((pre.length:Int)<(s.length:Int))=true:=decide_eq_true (by omega)
  have e2:zL [.str s,.int .i64 (pre.length:Int)]=some (.int .u8 (x.toNat:Int)):=zC6 (by rw[he];simp)
  have e3:wr .i64 ((pre.length:Int)+Int.ofNat 1)=((pre++[x]).length:Int):=by
   rw[zEE (by simp;omega) (by simp;omega)];simp
  rw[zI]
  simp only[zDL,zA f0,zA f6,zA f8,zAF,zJ,zN,e1,zQ,e2,h81]
  by_cases h:cut.contains x=true
  ·rw[h,anyI,if_pos h]
   simp only[zQ]
   rfl
  ·have h':cut.contains x=false:=by simpa using h
   rw[h',anyI,if_neg h]
   simp only[zO,ze,e3]
   have:=ih (pre++[x]) (T.s (T.s (T.s (T.s (T.s (T.s .leaf 0 (.str s)) 6 (.ptr id 0)) 8 (.int .i64 (pre.length:Int))) 37 (.int .i64 (pre.length:Int))) 38 (.int .i64 ((pre++[x]).length:Int))) 8 (.int .i64 ((pre++[x]).length:Int))) Z m (by rw[he];simp) (by simp at hm;omega) (by simp[T.get_set]) (by simp[T.get_set]) (by simp[T.get_set])
   rw[show(pre++[x]).length=pre.length+1 by simp]at this ⊢
   exact this
abbrev Rune92 (c:zC)(cut:Bs):Prop:=∀ (r:Nat) (H:Heap),WF H->∀ Z,∃ H',Gr H.size H H'/\∀ q,c zC5 [.str cut,.int .i32 (r:Int)] H Z q=q (.int .i64 (if r<128 then idxB r cut 0 else -1)) H' Z
theorem zPF (c:zC)(N:Nat)(cut s:Bs)(ha:∀ x ∈ cut,x.toNat<128)(hs:s.length<9223372036854775807)(id:Nat)(h92:Rune92 c cut) :
  ∀ (n:Nat) (l:Bs) (pos:Nat) (H:Heap) (fr:T V) (Z:Tape) (m:Nat),s.drop pos=l->l.length<=n->n<m->WF H->Iter H id s pos->fr.get 1=some (.str cut)->fr.get 45=some (.ptr id 0) ->
  ∃ H',Gr id H H'/\∀ q,zAZ (zA4 c N) m ⟨fr,H⟩ Z (zX 2 (seqK (zFr c N q) (endK [(.t 4)] q)))=q (.int .i64 (anyI cut l pos)) H' Z:=by
 intro n
 induction n with
 | zero =>
  intro l pos H fr Z m hd hl hm hw it f1 f45
  obtain⟨m,rfl⟩:∃ j,m=j+1:=⟨m-1,by omega⟩
  have hl0:l=[]:=List.eq_nil_of_length_eq_zero (by omega)
  subst hl0
  refine⟨H,Gr.refl hw,fun q=>?_⟩
  have e:=zTT it (by simpa using hd) Z
  have x0:zH 0 [.tup [V.bool false]]=some (.bool false):=rfl
  rw[zI]
  simp only[zA4,zA f1,zA f45,e,zh,x0,zJ,zO]
  rfl
 | succ n ih =>
  intro l pos H fr Z m hd hl hm hw it f1 f45
  obtain⟨m,rfl⟩:∃ j,m=j+1:=⟨m-1,by omega⟩
  cases l with
  | nil =>
   refine⟨H,Gr.refl hw,fun q=>?_⟩
   have e:=zTT it (by simpa using hd) Z
   have x0:zH 0 [.tup [V.bool false]]=some (.bool false):=rfl
   rw[zI]
   simp only[zA4,zA f1,zA f45,e,zh,x0,zJ,zO]
   rfl
  | cons x l =>
   have hp:pos<s.length:=by
    by_cases h:pos<s.length
    ·exact h
    ·rw[List.drop_eq_nil_of_le (by omega)]at hd;cases hd
   obtain⟨H1,e,g1,it1,z1⟩:=iter_next hw it hp Z
   have hid:id<H.size:=it.lt hw
   have x0:∀ a b d:V,zH 0 [.tup [a,b,d]]=some a:=fun _ _ _=>rfl
   have x1:∀ a b d:V,zH 1 [.tup [a,b,d]]=some b:=fun _ _ _=>rfl
   have x2:∀ a b d:V,zH 2 [.tup [a,b,d]]=some d:=fun _ _ _=>rfl
   rw[hd]at e it1
   obtain⟨H2,g2,k2⟩:=h92 (zDR (x::l)).1 H1 g1.wf Z
   have it2:=it1.gr g2 (by omega)
   have g12:Gr id H H2:=g1.trans g2 (by omega)
   have go:∀ w,1<=w->w<=(x::l).length->(zDR (x::l)).2=w->(if(zDR (x::l)).1<128 then idxB (zDR (x::l)).1 cut 0 else -1)=-1->anyI cut (x::l) pos=anyI cut ((x::l).drop w) (pos+w) ->
     ∃ H',Gr id H H'/\∀ q,zAZ (zA4 c N) (m+1) ⟨fr,H⟩ Z (zX 2 (seqK (zFr c N q) (endK [(.t 4)] q)))=q (.int .i64 (anyI cut (x::l) pos)) H' Z:=by
    intro w hw1 hw2 hw' hneg hany
    rw[hw']at it2
    obtain⟨H3,g3,k3⟩:=ih ((x::l).drop w) (pos+w) H2 (T.s (T.s (T.s (T.s .leaf 1 (.str cut)) 9 (.int .i64 (pos:Int))) 45 (.ptr id 0)) 53 (.bool false)) Z m (by rw[<- List.drop_drop,hd]) (by rw[List.length_drop];simp at hl hw2 ⊢;omega) (by omega) g2.wf it2 (by simp[T.get_set]) (by simp[T.get_set])
    refine⟨H3,g12.trans g3 nl,fun q=>?_⟩
    have ef:decide (Int.ofNat 0<=(-1:Int))=false:=rfl
    rw[zI,hany]
    simp only[zA4,zA f1,zA f45,e,zh,x0,x1,x2,zJ,zQ,k2,hneg,zBa,ef,zO]
    exact k3 q
   by_cases hx:x.toNat<128
   ·have hdx:=dec_ascii x l hx
    by_cases hc:cut.contains x=true
    ·have hi:0<=idxB x.toNat cut 0:=idxB_some _ _ _ ⟨x,by simpa using hc,rfl⟩
     have ef:decide (Int.ofNat 0<=idxB x.toNat cut 0)=true:=decide_eq_true hi
     refine⟨H2,g12,fun q=>?_⟩
     rw[hdx]at k2 e
     rw[if_pos hx]at k2
     rw[zI,anyI,if_pos hc]
     simp only[zA4,zA f1,zA f45,e,zh,x0,x1,x2,zJ,zQ,k2,zBa,ef]
     rfl
    ·refine go 1 (by omega) (by simp) (by rw[hdx]) ?_ ?_
     ·rw[hdx,if_pos hx]
      exact zRv _ _ _ (fun y hy h=>hc (by
       have:y=x:=UInt8.toNat_inj.1 h
       subst this;simpa using hy))
     ·rw[anyI,if_neg hc];rfl
   ·obtain⟨d1,d2,d3,d4⟩:=dec_high x l (by omega)
    refine go _ d2 d3 rfl ?_ ?_
    ·rw[if_neg (by omega)]
    ·exact anyI_skip cut ha _ _ _ d3 d4
theorem zNQ (c:zC)(N:Nat)(hN:9223372036854775807<=N)(cut s:Bs)(ha:∀ x ∈ cut,x.toNat<128)(h2:2<=cut.length)(hs:s.length<9223372036854775807)(h92:Rune92 c cut)
  (h93:∀ (n:Int) H Z q,c zA7 [.int .i64 n] H Z q=q (.bool (decide (8<n))) H Z)
  (h60:∀ (H:Heap),WF H->∀ Z,∃ H',Gr H.size H H'/\∀ q,c zAO [.str cut] H Z q=q (.tup [.agg (mark (repl 256 [.bool false]) cut),.bool true]) H' Z)
  (h81:∀ (id:Nat) (H:Heap),H.cells? id=some (mark (repl 256 [.bool false]) cut)->∀ (x:UInt8) Z q,c zAJ [.ptr id 0,.int .u8 (x.toNat:Int)] H Z q=q (.bool (cut.contains x)) H Z)
  (H:Heap) (hw:WF H) (Z:Tape):∃ H',Gr H.size H H'/\∀ q,zDX c N (.str s) (.str cut) H Z q=q (.int .i64 (anyI cut s 0)) H' Z:=by
 have e0:(cut ==([]:Bs))=false:=beq_eq_false_iff_ne.2 (fun h=>by rw[h]at h2;simp at h2)
 have e1:((cut.length:Int) == Int.ofNat 1)=false:=by rw[beq_eq_false_iff_ne];intro h;simp at h;omega
 by_cases h8:(8:Int)<(s.length:Int)
 ·have e2:decide ((8:Int)<(s.length:Int))=true:=decide_eq_true h8
  obtain⟨H1,k1,k2⟩:=h60 H hw Z
  have hr:(repl 256 [V.bool false]).length=256:=by rw[zDF];rfl
  have hm:(mark (repl 256 [V.bool false]) cut).length=256:=by rw[zPK,hr]
  have hB:=Blk.new H1 (repl 256 [V.bool false]) (repl 256 [V.bool false]).length true nl
  have hG:=Gr.new k1.wf (repl 256 [V.bool false]) (repl 256 [V.bool false]).length true
  have hsc:(mark (repl 256 [V.bool false]) cut).all V.scal=true:=by
   have:∀ (l:List UInt8) (cells:List V),cells.all V.scal=true->(mark cells l).all V.scal=true:=by
    intro l
    induction l with
    | nil=>intro cells h;exact h
    | cons x l ih =>
     intro cells h
     refine ih _ ?_
     rw[List.all_eq_true]at h ⊢
     intro v hv
     rcases List.mem_or_eq_of_mem_set hv with hv | rfl
     ·exact h v hv
     ·rfl
   exact this cut _ (by rw[zRD,List.all_eq_true];intro v hv;rw[List.eq_of_mem_replicate hv];rfl)
  obtain⟨H2,m1,m2,m3,m4⟩:=hB.eStore hG.wf 0 (.agg (mark (repl 256 [.bool false]) cut)) 256 hm (by rw[hr];omega) hsc Z
  have hcells:(repl 256 [V.bool false]).take 0++(V.agg (mark (repl 256 [.bool false]) cut)).cells++(repl 256 [V.bool false]).drop (0+256)=mark (repl 256 [.bool false]) cut:=by
   rw[List.take_zero,List.nil_append,V.cells,List.drop_eq_nil_of_le (by rw[hr];omega),List.append_nil]
  rw[hcells]at m2
  refine⟨H2,k1.trans (hG.trans m3 nl) k1.size,fun q=>?_⟩
  have x0:∀ a b:V,zH 0 [.tup [a,b]]=some a:=fun _ _=>rfl
  have x1:∀ a b:V,zH 1 [.tup [a,b]]=some b:=fun _ _=>rfl
  have al:zB2 (repl 256 [(.bool false)]) [] H1 Z=some (.ptr H1.size 0,H1.new (repl 256 [V.bool false]) (repl 256 [V.bool false]).length true,Z):=rfl
  simp only[zDX,zAs,zFU,e0,zJ,zO,zAF,zAv,e1,h93,e2,zQ,k2,x0,x1,al,zh,m1]
  exact zPQ c N cut s hs H1.size H2 (fun x Z q=>h81 H1.size H2 m2.cells x Z q) q s [] _ Z N rfl (by omega) (by simp[T.get_set]) (by simp[T.get_set]) (by simp[T.get_set])
 ·have e2:decide ((8:Int)<(s.length:Int))=false:=decide_eq_false h8
  obtain⟨H1,k1,g1,it⟩:=zSY hw s Z
  obtain⟨H2,g2,k2⟩:=zPF c N cut s ha hs H.size h92 s.length s 0 H1 (T.s (T.s .leaf 1 (.str cut)) 45 (.ptr H.size 0)) Z N rfl nl (by omega) g1.wf it (by simp[T.get_set]) (by simp[T.get_set])
  refine⟨H2,g1.trans g2 nl,fun q=>?_⟩
  simp only[zDX,zAs,zFU,e0,zJ,zO,zAF,zAv,e1,h93,e2,zQ,zCT,zV,↓reduceIte,Nat.reduceEqDiff,k1,zh]
  exact k2 q
theorem zLT (c:zC)(N:Nat)(cut s:Bs)(H H':Heap)(Z:Tape)(h78:∀ q,c zHu [.str s,.str cut] H Z q=q (.int .i64 (anyI cut s 0)) H' Z)(q:KV):zDi c N (.str s) (.str cut) H Z q=q (.bool (s.any cut.contains)) H' Z:=by
 have e:decide (Int.ofNat 0<=anyI cut s 0)=s.any cut.contains:=anyI_iff cut s 0
 simp only[zDi,h78,zBa,e]
def valT (s:Bs):Bs:=trimB ([9,10,13,32]:Bs).contains s
def valO (s:Bs):Bool:=!(valT s).any ([0,10,13]:Bs).contains
def valV (s:Bs):V:=bif valO s then .tup [.str (valT s),.bool true]else .tup [.str [],.bool false]
theorem zPB (c:zC)(N:Nat)(s:Bs)(H H1 H2:Heap)(Z Z1 Z2:Tape)(h35:∀ q,c zCy [.str s,.str (bs [9,10,13,32])] H Z q=q (.str (valT s)) H1 Z1)
  (h54:∀ q,c zDY [.str (valT s),.str (bs [0,10,13])] H1 Z1 q=q (.bool ((valT s).any ([0,10,13]:Bs).contains)) H2 Z2) (q:KV):zHl c N (.str s) H Z q=q (valV s) H2 Z2:=by
 simp only[zHl,h35,h54,valV,valO]
 by_cases h:(valT s).any ([0,10,13]:Bs).contains=true
 ·rw[h];simp only[zQ,Bool.not_true,cond_false]
 ·have h':(valT s).any ([0,10,13]:Bs).contains=false:=by simpa using h
  rw[h'];simp only[zO,Bool.not_false,cond_true]
def tok (x:UInt8):Bool:=(decide (97<=x.toNat) && decide (x.toNat<=122)) || (decide (65<=x.toNat) && decide (x.toNat<=90)) || (decide (48<=x.toNat) && decide (x.toNat<=57)) || ([33,35,36,37,38,39,42,43,45,46,94,95,96,124,126]:Bs).contains x
def tokT (s:Bs):Bool:=s.all tok && !s.isEmpty
theorem zTE (c:zC)(N:Nat)(h70:Idx70 c)(s:Bs)(hs:s.length<9223372036854775807)(H:Heap)(q:KV):∀ (l pre:Bs) (fr:T V) (Z:Tape) (m:Nat),s=pre++l->l.length<m->fr.get 0=some (.str s)->fr.get 7=some (.int .i64 (s.length:Int))->fr.get 8=some (.int .i64 (pre.length:Int)) ->
  zAZ (zAl c N) m ⟨fr,H⟩ Z (zX 0 (seqK (zAT c N q) (endK [(.t 2)] q)))=q (.bool (l.all tok && !s.isEmpty)) H Z:=by
 intro l
 induction l with
 | nil =>
  intro pre fr Z m he hm f0 f7 f8
  obtain⟨m,rfl⟩:∃ j,m=j+1:=⟨m-1,by omega⟩
  have e1:decide ((pre.length:Int)<(s.length:Int))=false:=decide_eq_false (by rw[he];simp)
  have e2:(s !=([]:Bs))=!s.isEmpty:=by cases s <;> rfl
  rw[zI]
  simp only[zAl,zA f0,zA f7,zA f8,zN,e1,zO,seqK,zX,Nat.beq_refl,cond_true,zAT,zV,↓reduceIte,zAs,zSd,zJ,e2,List.all_nil,Bool.true_and]
 | cons x l ih =>
  intro pre fr Z m he hm f0 f7 f8
  obtain⟨m,rfl⟩:∃ j,m=j+1:=⟨m-1,by omega⟩
  have hl:pre.length<s.length:=by rw[he];simp
  have e1:decide ((pre.length:Int)<(s.length:Int))=true:=decide_eq_true (by omega)
  have e2:zL [.str s,.int .i64 (pre.length:Int)]=some (.int .u8 (x.toNat:Int)):=zC6 (by rw[he];simp)
  have e3:wr .i64 ((pre.length:Int)+Int.ofNat 1)=((pre++[x]).length:Int):=by
   rw[zEE (by simp;omega) (by simp;omega)];simp
  have yes:tok x=true->zAZ (zAl c N) m ⟨(T.s (T.s (T.s (T.s (T.s .leaf 0 (.str s)) 7 (.int .i64 (s.length:Int))) 8 (.int .i64 (pre.length:Int))) 43 (.int .i64 ((pre++[x]).length:Int))) 8 (.int .i64 ((pre++[x]).length:Int))),H⟩ Z (zX 0 (seqK (zAT c N q) (endK [(.t 2)] q)))=q (.bool ((x::l).all tok && !s.isEmpty)) H Z:=by
   intro ht
   rw[ih (pre++[x]) _ Z m (by rw[he];simp) (by simp at hm;omega) (by simp[T.get_set]) (by simp[T.get_set]) (by simp[T.get_set]),List.all_cons,ht,Bool.true_and]
  rw[zI]
  have d1:decide (Int.ofNat 97<=(x.toNat:Int))=decide (97<=x.toNat):=by rw[decide_eq_decide];simp;omega
  have d2:decide ((x.toNat:Int)<=Int.ofNat 122)=decide (x.toNat<=122):=by rw[decide_eq_decide];simp;omega
  have d3:decide (Int.ofNat 65<=(x.toNat:Int))=decide (65<=x.toNat):=by rw[decide_eq_decide];simp;omega
  have d4:decide ((x.toNat:Int)<=Int.ofNat 90)=decide (x.toNat<=90):=by rw[decide_eq_decide];simp;omega
  have d5:decide (Int.ofNat 48<=(x.toNat:Int))=decide (48<=x.toNat):=by rw[decide_eq_decide];simp;omega
  have d6:decide ((x.toNat:Int)<=Int.ofNat 57)=decide (x.toNat<=57):=by rw[decide_eq_decide];simp;omega
  have step:∀ (a1 a2 a3 a4 a5 a6:Bool) (ix:Int),decide (97<=x.toNat)=a1->decide (x.toNat<=122)=a2->decide (65<=x.toNat)=a3->decide (x.toNat<=90)=a4->decide (48<=x.toNat)=a5->decide (x.toNat<=57)=a6->idxB x.toNat (bs [33,35,36,37,38,39,42,43,45,46,94,95,96,124,126]) 0=ix ->
    zAl c N ⟨fr,H⟩ Z (seqK (fun st Z=>zAZ (zAl c N) m st Z (zX 0 (seqK (zAT c N q) (endK [(.t 2)] q)))) (zX 0 (seqK (zAT c N q) (endK [(.t 2)] q)))) =
    bif ((a1 && a2) || (a3 && a4) || (a5 && a6)) || decide (0<=ix)then zAZ (zAl c N) m ⟨(T.s (T.s (T.s (T.s (T.s .leaf 0 (.str s)) 7 (.int .i64 (s.length:Int))) 8 (.int .i64 (pre.length:Int))) 43 (.int .i64 ((pre++[x]).length:Int))) 8 (.int .i64 ((pre++[x]).length:Int))),H⟩ Z (zX 0 (seqK (zAT c N q) (endK [(.t 2)] q)))
    else q (.bool false) H Z:=by
   intro a1 a2 a3 a4 a5 a6 ix h1 h2 h3 h4 h5 h6 hx
   simp only[zAl,zA f0,zA f7,zA f8,zN,e1,zQ,e2,zJ,zBa,zBk,d1,d2,d3,d4,d5,d6,h1,h2,h3,h4,h5,h6,zCQ]
   have e9:decide (ix<Int.ofNat 0)=!decide (0<=ix):=by
    by_cases h:0<=ix
    ·rw[decide_eq_true h,decide_eq_false (by simp;omega)];rfl
    ·rw[decide_eq_false h,decide_eq_true (by simp;omega)];rfl
   have fin:∀ (b:Bool),gK (.bool b) true (fun q'=>q' (.int .u8 (x.toNat:Int)) H Z) H Z (fun v51 H52 Z53 =>
     gK (.bool b) true (fun q'=>c zB6 [(.str (bs [33,35,36,37,38,39,42,43,45,46,94,95,96,124,126])),v51] H52 Z53 q') H52 Z53 fun v54 H55 Z56 =>
     gK (.bool b) true (fun q'=>binK .lss v54 (.int .i64 (.ofNat 0)) fun v=>q' v H55 Z56) H55 Z56 fun v57 H58 Z59 =>
     zB (zBl [(.bool b),v57,(.bool false)]) fun v60 =>
     zW v60
      (seqK (fun st Z=>zAZ (zAl c N) m st Z (zX 0 (seqK (zAT c N q) (endK [(.t 2)] q)))) (zX 0 (seqK (zAT c N q) (endK [(.t 2)] q))) .ret ⟨(T.s .leaf 2 (.bool false)),H58⟩ Z59)
      (binK .add (.int .i64 (pre.length:Int)) (.int .i64 (.ofNat 1)) fun v61 =>
     seqK (fun st Z=>zAZ (zAl c N) m st Z (zX 0 (seqK (zAT c N q) (endK [(.t 2)] q)))) (zX 0 (seqK (zAT c N q) (endK [(.t 2)] q))) .normal ⟨(T.s (T.s (T.s (T.s (T.s .leaf 0 (.str s)) 7 (.int .i64 (s.length:Int))) 8 (.int .i64 (pre.length:Int))) 43 v61) 8 v61),H58⟩ Z59)) =
     bif (!b) || decide (0<=ix)then zAZ (zAl c N) m ⟨(T.s (T.s (T.s (T.s (T.s .leaf 0 (.str s)) 7 (.int .i64 (s.length:Int))) 8 (.int .i64 (pre.length:Int))) 43 (.int .i64 ((pre++[x]).length:Int))) 8 (.int .i64 ((pre++[x]).length:Int))),H⟩ Z (zX 0 (seqK (zAT c N q) (endK [(.t 2)] q)))
     else q (.bool false) H Z:=by
    intro b
    cases b with
    | false =>
     simp only[zBP,zCo,zS,cond_false,zJ,zO,ze,e3,Bool.not_false,Bool.true_or,cond_true]
     rfl
    | true =>
     simp only[zCs,retK,zh,h70,hx,zN,e9,zS,cond_true,zJ,Bool.not_true,Bool.false_or]
     cases decide (0<=ix)with
     | true=>simp only[Bool.not_true,zO,ze,e3,cond_true];rfl
     | false=>simp only[Bool.not_false,zQ,cond_false];rfl
   have fin':=fin (!((a1 && a2) || (a3 && a4) || (a5 && a6)))
   rw[Bool.not_not]at fin'
   rw[<- fin']
   cases a1 <;> cases a2 <;> cases a3 <;> cases a4 <;> cases a5 <;> cases a6 <;> simp only[zBa,zBk,d1,d2,d3,d4,d5,d6,h1,h2,h3,h4,h5,h6,zCQ,zCs,zD5,zBP,zCa,zCo,retK,zh,zS,cond_true,cond_false,zJ,Bool.and_true,Bool.and_false,Bool.true_and,Bool.false_and,Bool.or_true,Bool.or_false,Bool.true_or,Bool.false_or,Bool.not_true,Bool.not_false]
  rw[step _ _ _ _ _ _ _ rfl rfl rfl rfl rfl rfl rfl]
  have hix:decide (0<=idxB x.toNat (bs [33,35,36,37,38,39,42,43,45,46,94,95,96,124,126]) 0)=([33,35,36,37,38,39,42,43,45,46,94,95,96,124,126]:Bs).contains x:=by
   by_cases h:([33,35,36,37,38,39,42,43,45,46,94,95,96,124,126]:Bs).contains x=true
   ·rw[h]
    exact decide_eq_true (idxB_some _ _ _ ⟨x,List.contains_iff_mem.1 h,rfl⟩)
   ·have h':([33,35,36,37,38,39,42,43,45,46,94,95,96,124,126]:Bs).contains x=false:=by simpa using h
    rw[h',decide_eq_false]
    have hn:idxB x.toNat (bs [33,35,36,37,38,39,42,43,45,46,94,95,96,124,126]) 0=-1:=zRv _ _ _ (fun y hy e=>h (List.contains_iff_mem.2 (by
     have:y=x:=UInt8.toNat_inj.1 e
     subst this;exact hy)))
    rw[hn];decide
  rw[hix]
  cases ht:tok x with
  | true =>
   have:((decide (97<=x.toNat) && decide (x.toNat<=122)) || (decide (65<=x.toNat) && decide (x.toNat<=90)) || (decide (48<=x.toNat) && decide (x.toNat<=57)) || ([33,35,36,37,38,39,42,43,45,46,94,95,96,124,126]:Bs).contains x)=true:=ht
   rw[this,cond_true]
   exact yes ht
  | false =>
   have:((decide (97<=x.toNat) && decide (x.toNat<=122)) || (decide (65<=x.toNat) && decide (x.toNat<=90)) || (decide (48<=x.toNat) && decide (x.toNat<=57)) || ([33,35,36,37,38,39,42,43,45,46,94,95,96,124,126]:Bs).contains x)=false:=ht
   rw[this,cond_false,List.all_cons,ht]
   simp
theorem zQX (c:zC)(N:Nat)(hN:9223372036854775807<=N)(h70:Idx70 c)(s:Bs)(hs:s.length<9223372036854775807)(H:Heap)(Z:Tape)(q:KV):zKG c N (.str s) H Z q=q (.bool (tokT s)) H Z:=by
 simp only[zKG,zAF,zJ]
 exact zTE c N h70 s hs H q s [] _ Z N rfl (by omega) (by simp[T.get_set]) (by simp[T.get_set]) (by simp[T.get_set])
def mayE (n v:Bs):Int:=bif valO v && tokT n then(if 4096<n.length∨4096<(valT v).length then 3 else 0)else 1
def mayV (n v:Bs):V:=.tup [.str (if mayE n v=0 then valT v else []),.int .i64 (mayE n v)]
theorem zP8 (c:zC)(N:Nat)(n v:Bs)(H H1:Heap)(Z Z1:Tape)(h32:∀ q,c zHS [.str v] H Z q=q (valV v) H1 Z1)(h71:∀ q,c zJz [.str n] H1 Z1 q=q (.bool (tokT n)) H1 Z1)(q:KV):zKA c N (.str n) (.str v) H Z q=q (mayV n v) H1 Z1:=by
 have x0:∀ a b:V,zH 0 [.tup [a,b]]=some a:=fun _ _=>rfl
 have x1:∀ a b:V,zH 1 [.tup [a,b]]=some b:=fun _ _=>rfl
 have d:∀ k:Nat,decide (Int.ofNat 4096<(k:Int))=decide (4096<k):=fun k=>by rw[decide_eq_decide];simp;omega
 unfold mayV mayE
 simp only[zKA,h32,valV]
 by_cases h1:valO v=true
 ·rw[h1]
  simp only[cond_true,x0,x1,zJ,zCQ,Bool.not_true,zD5,retK,zh,h71,zS,cond_false,Bool.true_and]
  by_cases h2:tokT n=true
  ·rw[h2]
   simp only[Bool.not_true,zO,zAF,zJ,zAV,d,cond_true]
   by_cases h3:4096<n.length
   ·have hm:(if 4096<n.length∨4096<(valT v).length then(3:Int)else 0)=3:=if_pos (.inl h3)
    rw[decide_eq_true h3,hm]
    simp only[zCa,zCo,zS,cond_true,zJ,zQ]
    rfl
   ·rw[decide_eq_false h3]
    simp only[zD5,retK,zh,zAF,zJ,zAV,d,zS,cond_false]
    by_cases h4:4096<(valT v).length
    ·have hm:(if 4096<n.length∨4096<(valT v).length then(3:Int)else 0)=3:=if_pos (.inr h4)
     rw[decide_eq_true h4,hm]
     simp only[zQ];rfl
    ·have hm:(if 4096<n.length∨4096<(valT v).length then(3:Int)else 0)=0:=if_neg (by omega)
     rw[decide_eq_false h4,hm]
     simp only[zO];rfl
  ·have h2':tokT n=false:=by simpa using h2
   rw[h2']
   simp only[Bool.not_false,zQ]
   rfl
 ·have h1':valO v=false:=by simpa using h1
  rw[h1']
  simp only[cond_false,Bool.false_and,x0,x1,zJ,zCQ,Bool.not_false,zCa,zCo,zS,cond_true,zQ]
  rfl
end Go.Am.X

