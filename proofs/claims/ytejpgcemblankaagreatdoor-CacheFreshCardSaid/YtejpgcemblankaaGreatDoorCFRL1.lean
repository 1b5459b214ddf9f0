/- The abstract machine, printed functions of the program, and what they are shown to be. -/
import Derived.Test.YtejpgcemblankaaGreatDoorCFRSh1
import Derived.Test.YtejpgcemblankaaGreatDoorCFRM4
set_option linter.unusedSimpArgs false
set_option linter.unusedVariables false
set_option linter.unusedSectionVars false
namespace Go.Am.X
theorem u8_lt (x:UInt8):x.toNat<256:=x.toNat_lt
theorem s81_eval (c:zC)(N:Nat){id:Nat}{cells:List V}{x:UInt8}{b:Bool}{H:Heap}(hc:H.cells? id=some cells)(hx:cells[x.toNat]?=some (.bool b))(Z:Tape)(q:KV) :
  zEq c N (.ptr id 0) (.int .u8 (x.toNat:Int)) H Z q=q (.bool b) H Z:=by
 have e1:Nat.blt x.toNat 256=true:=by have:=u8_lt x;simp[Nat.blt];omega
 simp only[zEq,zBB,zK,zHU,zCK,e1,cond_true,Nat.mul_one,Nat.zero_add,zR hc hx]
theorem trimL_loop (c:zC)(N:Nat){id:Nat}{H:Heap}(p:UInt8->Bool)(h171:∀ (x:UInt8) Z q,c zAJ [.ptr id 0,.int .u8 (x.toNat:Int)] H Z q=q (.bool (p x)) H Z)(k:KC) :
  ∀ (s:List UInt8) (n:Nat) (fr:T V) (Z:Tape),s.length<n->fr.get 0=some (.str s)->fr.get 1=some (.ptr id 0)->zAZ (zB0 c N) n ⟨fr,H⟩ Z k=k (.exit 0) ⟨T.s .leaf 0 (.str (s.dropWhile p)),H⟩ Z:=by
 intro s
 induction s with
 | nil =>
  intro n fr Z hn h0 h1
  obtain⟨n,rfl⟩:∃ m,n=m+1:=⟨n-1,by simp at hn;omega⟩
  rw[zI]
  simp only[zB0,zA h0,zA h1,zAF,zK,zAV]
  rfl
 | cons x s ih =>
  intro n fr Z hn h0 h1
  obtain⟨n,rfl⟩:∃ m,n=m+1:=⟨n-1,by simp at hn;omega⟩
  rw[zI]
  have e1:decide (Int.ofNat 0<((x::s).length:Int))=true:=decide_eq_true (by first | (simp;done) | (simp;omega) | omega)
  have e2:zL [.str (x::s),.int .i64 (.ofNat 0)]=some (.int .u8 (x.toNat:Int)):=rfl
  have e3:zw true false [.str (x::s),.int .i64 (.ofNat 1)]=some (.str s):=zMc (s:=x::s) (i:=1) (by simp)
  simp only[zB0,zA h0,zA h1,zAF,zK,zAV,e1,zBC,e2,h171,zCQ]
  cases hp:p x with
  | false=>simp[zQY,hp,seqK]
  | true =>
   simp only[Bool.not_true,zAN,e3,zK,seqK]
   rw[ih n _ Z (by simp at hn;omega) (by simp[T.get_set]) (by simp[T.get_set])]
   simp[hp]
theorem trimR_loop (c:zC)(N:Nat){id:Nat}{H:Heap}(p:UInt8->Bool)(h171:∀ (x:UInt8) Z q,c zAJ [.ptr id 0,.int .u8 (x.toNat:Int)] H Z q=q (.bool (p x)) H Z)(k:KC) :
  ∀ (r:List UInt8) (n:Nat) (fr:T V) (Z:Tape),r.length<9223372036854775807->r.length<n->fr.get 0=some (.str r.reverse)->fr.get 1=some (.ptr id 0)->zAZ (zBq c N) n ⟨fr,H⟩ Z k=k (.exit 0) ⟨T.s .leaf 0 (.str (r.dropWhile p).reverse),H⟩ Z:=by
 intro r
 induction r with
 | nil =>
  intro n fr Z hb hn h0 h1
  obtain⟨n,rfl⟩:∃ m,n=m+1:=⟨n-1,by simp at hn;omega⟩
  rw[zI]
  simp only[zBq,zA h0,zA h1,zAF,zK,zAV]
  rfl
 | cons x s ih =>
  intro n fr Z hb hn h0 h1
  obtain⟨n,rfl⟩:∃ m,n=m+1:=⟨n-1,by simp at hn;omega⟩
  rw[zI]
  have hlen:((x::s).reverse.length:Int)=(s.length:Int)+1:=by simp
  have e1:decide (Int.ofNat 0<((x::s).reverse.length:Int))=true:=decide_eq_true (by rw[hlen];first | (simp;done) | (simp;omega))
  have e0:wr .i64 (((x::s).reverse.length:Int)-Int.ofNat 1)=(s.length:Int):=by
   rw[hlen,zEE (by first | (simp;done) | (simp;omega) | omega) (by simp at hb;first | (simp;done) | (simp;omega) | omega)]
   simp
  have e2:zL [.str (x::s).reverse,.int .i64 (s.length:Int)]=some (.int .u8 (x.toNat:Int)):=zC6 (by simp)
  have e3:zw false true [.str (x::s).reverse,.int .i64 (s.length:Int)]=some (.str s.reverse):=by
   rw[zRR (by simp)]
   simp
  simp only[zBq,zA h0,zA h1,zAF,zK,zAV,e1,zBC,zCn,e0,e2,h171,zCQ]
  cases hp:p x with
  | false=>simp[zQY,hp,seqK]
  | true =>
   simp only[Bool.not_true,zAN,e3,zK,seqK]
   rw[ih n _ Z (by simp at hb;omega) (by simp at hn;omega) (by simp[T.get_set]) (by simp[T.get_set])]
   simp[hp]
def mark (cells:List V)(l:List UInt8):List V:=l.foldl (fun cells x=>cells.set x.toNat (.bool true)) cells
theorem zPK (l:List UInt8):∀ cells:List V,(mark cells l).length=cells.length:=by
 induction l with
 | nil=>intro cells;rfl
 | cons x l ih=>intro cells;exact(ih _).trans (by simp)
theorem mark_get (l:List UInt8):∀ (cells:List V) (x:UInt8),cells.length=256->(∀ i,i<256->∃ b,cells[i]?=some (.bool b))->∀ b,cells[x.toNat]?=some (.bool b)->(mark cells l)[x.toNat]?=some (.bool (b || l.contains x)):=by
 induction l with
 | nil=>intro cells x _ _ b hb;simpa [mark] using hb
 | cons y l ih =>
  intro cells x hl hc b hb
  have hx:=u8_lt x
  have hy:=u8_lt y
  have:=ih (cells.set y.toNat (.bool true)) x (by simpa using hl) (fun i hi=>by
   by_cases e:y.toNat=i
   ·exact⟨true,by rw[e];simp[hl,hi]⟩
   ·obtain⟨b,hb⟩:=hc i hi
    exact⟨b,by rw[List.getElem?_set_ne e];exact hb⟩) (if x=y then true else b) (by
   by_cases e:x=y
   ·subst e;simp[hl,hx]
   ·rw[if_neg e,List.getElem?_set_ne (fun h=>e (UInt8.toNat_inj.1 h.symm))];exact hb)
  rw[show mark cells (y::l)=mark (cells.set y.toNat (.bool true)) l from rfl,this]
  by_cases e:x=y
  ·simp[e]
  ·simp[e]
theorem set_loop (c:zC)(N:Nat){B id:Nat}(k:KC)(l:List UInt8):∀ (pre:List UInt8) (cells:List V) (n:Nat) (fr:T V) (H:Heap) (Z:Tape),WF H->Blk H B id cells->cells.length=256->(∀ x ∈ l,x.toNat<128)->(pre++l).length<9223372036854775807->l.length<n ->
  fr.get 0=some (.str (pre++l))->fr.get 2=some (.ptr id 0)->fr.get 4=some (.int .i64 (pre.length:Int)) ->
  ∃ H',Blk H' B id (mark cells l)/\Gr B H H'/\H'.size=H.size/\zAZ (zCC c N) n ⟨fr,H⟩ Z k=k (.exit 0) ⟨T.s .leaf 2 (.ptr id 0),H'⟩ Z:=by
 induction l with
 | nil =>
  intro pre cells n fr H Z hw hB hl hs hb hn h0 h2 h4
  obtain⟨n,rfl⟩:∃ m,n=m+1:=⟨n-1,by simp at hn;omega⟩
  refine⟨H,hB,Gr.refl hw,rfl,?_⟩
  rw[zI]
  simp only[zCC,zA h0,zA h2,zA h4,zAF,zK,zN,List.append_nil]
  simp[zQY,seqK]
 | cons x l ih =>
  intro pre cells n fr H Z hw hB hl hs hb hn h0 h2 h4
  obtain⟨n,rfl⟩:∃ m,n=m+1:=⟨n-1,by simp at hn;omega⟩
  have hx:=hs x (by simp)
  obtain⟨H1,k1,k2,k3,k4⟩:=hB.eStore hw x.toNat (.bool true) 1 rfl (by omega) rfl Z
  have hcells:cells.take x.toNat++(V.bool true).cells++cells.drop (x.toNat+1)=cells.set x.toNat (.bool true):=by
   rw[List.set_eq_take_append_cons_drop,if_pos (by omega)]
   simp[V.cells]
  rw[hcells]at k2
  have e1:decide ((pre.length:Int)<((pre++x::l).length:Int))=true:=decide_eq_true (by first | (simp;done) | (simp;omega) | omega)
  have e2:zL [.str (pre++x::l),.int .i64 (pre.length:Int)]=some (.int .u8 (x.toNat:Int)):=zC6 (by simp)
  have e3:decide (Int.ofNat 128<=(x.toNat:Int))=false:=decide_eq_false (by first | (simp;done) | (simp;omega) | omega)
  have e4:zHU 256 1 [.ptr id 0,.int .u8 (x.toNat:Int)]=some (.ptr id x.toNat):=by
   have:Nat.blt x.toNat 256=true:=by simp[Nat.blt];omega
   simp[zHU,zCK,this]
  have e5:wr .i64 ((pre.length:Int)+Int.ofNat 1)=((pre++[x]).length:Int):=by
   rw[zEE (by first | (simp;done) | (simp;omega) | omega) (by simp at hb;first | (simp;done) | (simp;omega) | omega)]
   simp
  obtain⟨H',m1,m2,m3,m4⟩:=ih (pre++[x]) (cells.set x.toNat (.bool true)) n (T.s (T.s (T.s (T.s (T.s (T.s .leaf 0 (.str (pre++x::l))) 2 (.ptr id 0)) 4 (.int .i64 (pre.length:Int))) 10 (.int .i64 (pre.length:Int))) 11 (.int .i64 ((pre++[x]).length:Int))) 4 (.int .i64 ((pre++[x]).length:Int))) H1 Z k3.wf k2 (by simpa using hl) (fun y hy=>hs y (by simp[hy])) (by simpa using hb) (by simp at hn;omega) (by simp[T.get_set,List.append_assoc]) (by simp[T.get_set]) (by simp[T.get_set])
  refine⟨H',m1,k3.trans m2 nl,by omega,?_⟩
  rw[zI]
  simp only[zCC,zA h0,zA h2,zA h4,zAF,zK,zN,e1,zBC,e2,zBa,e3,zAN,e4,k1,zAU,ze,e5,seqK,m4]
theorem zGE (c:zC)(N:Nat)(hN:9223372036854775807<=N)(l:List UInt8)(hs:∀ x ∈ l,x.toNat<128)(hb:l.length<9223372036854775807)(H:Heap)(hw:WF H)(Z:Tape)(q:KV) :
  ∃ H',Gr H.size H H'/\zDJ c N (.str l) H Z q=q (.tup [.agg (mark (repl 256 [.bool false]) l),.bool true]) H' Z:=by
 have hr:(repl 256 [V.bool false]).length=256:=by rw[zDF];rfl
 have hB:=Blk.new H (repl 256 [V.bool false]) (repl 256 [V.bool false]).length true nl
 have hG:=Gr.new hw (repl 256 [V.bool false]) (repl 256 [V.bool false]).length true
 obtain⟨H1,k1,k2,k3,k4⟩:=set_loop c N (zX 0 (seqK (zDu c N q) (endK [(.cell 2 (some 256)),(.t 3)] q))) l [] _ N (T.s (T.s (T.s .leaf 0 (.str l)) 2 (.ptr H.size 0)) 4 (.int .i64 0)) _ Z hG.wf hB hr hs (by simpa using hb) (by omega) (by simp[T.get_set]) (by simp[T.get_set]) (by simp[T.get_set])
 have hm:(mark (repl 256 [V.bool false]) l).length=256:=by rw[zPK,hr]
 have hsc:∀ (cells:List V),cells.all V.scal=true->(mark cells l).all V.scal=true:=by
  intro cells
  have:∀ (l:List UInt8) (cells:List V),cells.all V.scal=true->(mark cells l).all V.scal=true:=by
   intro l
   induction l with
   | nil=>intro cells h;exact h
   | cons x l ih =>
    intro cells h
    refine ih _ ?_
    rw[List.all_eq_true]at h ⊢
    intro v hv
    rcases List.mem_or_eq_of_mem_set hv with hv | rfl
    ·exact h v hv
    ·rfl
  exact this l cells
 obtain⟨H2,m1,m2,m3,m4⟩:=k1.eStore k2.wf 0 (.agg (mark (repl 256 [.bool false]) l)) 256 hm (by rw[hm];omega) (hsc _ (by rw[zRD,List.all_eq_true];intro v hv;rw[List.eq_of_mem_replicate hv];rfl)) Z
 have hcells:(mark (repl 256 [V.bool false]) l).take 0++(V.agg (mark (repl 256 [.bool false]) l)).cells++(mark (repl 256 [V.bool false]) l).drop (0+256)=mark (repl 256 [.bool false]) l:=by
  rw[List.take_zero,List.nil_append,V.cells,List.drop_eq_nil_of_le (by rw[hm];omega),List.append_nil]
 rw[hcells]at m2
 have htake:((mark (repl 256 [V.bool false]) l).drop 0).take 256=mark (repl 256 [.bool false]) l:=by
  rw[List.drop_zero,List.take_of_length_le (by rw[hm];omega)]
 refine⟨H2,hG.trans (k2.trans m3 nl) nl,?_⟩
 have e1:zBA 256 [.ptr H.size 0] H1=some (.agg (mark (repl 256 [.bool false]) l)):=by
  rw[zAw k1.cells (by rw[hm];omega),htake]
 have e2:zBA 256 [.ptr H.size 0] H2=some (.agg (mark (repl 256 [.bool false]) l)):=by
  rw[zAw m2.cells (by rw[hm];omega),htake]
 simp only[zDJ,zB2,zAU]
 rw[show(V.int IntKind.i64 (Int.ofNat 0))=.int .i64 0 from rfl,k4]
 simp only[zX,Nat.beq_refl,cond_true,seqK,zDu]
 simp only[zV,↓reduceIte,Nat.reduceEqDiff]
 rw[e1,zK,m1,zAU]
 simp only[results,zMG,zRY,T.get_set,zHL,zPE]
 simp only[show(3:Nat)=2 ↔ False by decide,if_true,if_false]
 simp[e2,zB]
def trimB (p:UInt8->Bool)(s:List UInt8):List UInt8:=((s.reverse.dropWhile p).reverse).dropWhile p
theorem zP1 (c:zC)(N:Nat)(hN:9223372036854775807<=N)(cut s:List UInt8)(hc2:2<=cut.length)(hc3:cut.length<9223372036854775807)(hs:s.length<9223372036854775807)(H:Heap)(hw:WF H)
  (h142:∀ (H:Heap),WF H->∀ Z q,∃ H',Gr H.size H H'/\c zAO [.str cut] H Z q=q (.tup [.agg (mark (repl 256 [.bool false]) cut),.bool true]) H' Z)
  (h143:∀ (s:List UInt8) (id:Nat) (H:Heap),s.length<9223372036854775807->H.cells? id=some (mark (repl 256 [.bool false]) cut)->∀ Z q,c zBp [.str s,.ptr id 0] H Z q=q (.str (s.dropWhile cut.contains)) H Z)
  (h144:∀ (s:List UInt8) (id:Nat) (H:Heap),s.length<9223372036854775807->H.cells? id=some (mark (repl 256 [.bool false]) cut)->∀ Z q,c zBg [.str s,.ptr id 0] H Z q=q (.str (s.reverse.dropWhile cut.contains).reverse) H Z)
  (Z:Tape) (q:KV):∃ H',Gr H.size H H'/\zGc c N (.str s) (.str cut) H Z q=q (.str (trimB cut.contains s)) H' Z:=by
 cases s with
 | nil =>
  refine⟨H,Gr.refl hw,?_⟩
  simp[zGc,zAs,zFU,zK,zCa,zBl,zBC,trimB,gK]
 | cons x s =>
  obtain⟨H1,k1,k2⟩:=h142 H hw Z (fun v28 H29 Z30 =>
   zB (zH 0 [v28]) fun v31 =>
   zB (zH 1 [v28]) fun v32 =>
   effK (zB2 (repl 256 [(.bool false)]) [] H29 Z30) fun v33 H34 Z35 =>
   effK (eStore 256 [v33,v31] H34 Z35) fun v36 H37 Z38 =>
   zW v32
    (c zBg [.str (x::s),v33] H37 Z38 fun v39 H40 Z41 =>
   c zBp [v39,v33] H40 Z41 fun v42 H43 Z44 =>
   q v42 H43 Z44)
    (c zDP [.str (x::s),.str cut] H37 Z38 fun v45 H46 Z47 =>
   c zDp [v45,.str cut] H46 Z47 fun v48 H49 Z50 =>
   q v48 H49 Z50))
  have hr:(repl 256 [V.bool false]).length=256:=by rw[zDF];rfl
  have hm:(mark (repl 256 [V.bool false]) cut).length=256:=by rw[zPK,hr]
  have hB:=Blk.new H1 (repl 256 [V.bool false]) (repl 256 [V.bool false]).length true nl
  have hG:=Gr.new k1.wf (repl 256 [V.bool false]) (repl 256 [V.bool false]).length true
  have hsc:(mark (repl 256 [V.bool false]) cut).all V.scal=true:=by
   have:∀ (l:List UInt8) (cells:List V),cells.all V.scal=true->(mark cells l).all V.scal=true:=by
    intro l
    induction l with
    | nil=>intro cells h;exact h
    | cons x l ih =>
     intro cells h
     refine ih _ ?_
     rw[List.all_eq_true]at h ⊢
     intro v hv
     rcases List.mem_or_eq_of_mem_set hv with hv | rfl
     ·exact h v hv
     ·rfl
   exact this cut _ (by rw[zRD,List.all_eq_true];intro v hv;rw[List.eq_of_mem_replicate hv];rfl)
  obtain⟨H2,m1,m2,m3,m4⟩:=hB.eStore hG.wf 0 (.agg (mark (repl 256 [.bool false]) cut)) 256 hm (by rw[hr];omega) hsc Z
  have hcells:(repl 256 [V.bool false]).take 0++(V.agg (mark (repl 256 [.bool false]) cut)).cells++(repl 256 [V.bool false]).drop (0+256)=mark (repl 256 [.bool false]) cut:=by
   rw[List.take_zero,List.nil_append,V.cells,List.drop_eq_nil_of_le (by rw[hr];omega),List.append_nil]
  rw[hcells]at m2
  refine⟨H2,k1.trans (hG.trans m3 nl) k1.size,?_⟩
  have e1:((x::s) ==([]:List UInt8))=false:=rfl
  have e2:(cut ==([]:List UInt8))=false:=by cases cut with
   | nil=>simp at hc2
   | cons _ _=>rfl
  have e3:((cut.length:Int) == Int.ofNat 1)=false:=by simp;omega
  simp only[zGc,zAs,zFU,zK,e1,gK,retK,zAU,e2,beq_self_eq_true,cond_true,zS,cond_false,zAN,zAF,zAv,e3,Bool.false_eq_true,show(false == true)=false from rfl]
  rw[k2]
  simp only[zH,List.getElem?_cons_zero,List.getElem?_cons_succ,zK,zB2,zAU,m1,zBC]
  rw[h144 _ _ _ hs m2.cells,h143 _ _ _ (by
   have:=(List.dropWhile_sublist (l:=(x::s).reverse) cut.contains).length_le
   simp only[List.length_reverse]at this ⊢
   omega) m2.cells]
  rfl
def lowB (x:UInt8):UInt8:=if 65<=x.toNat/\x.toNat<=90 then UInt8.ofNat (x.toNat+32)else x
def lower (s:List UInt8):List UInt8:=s.map lowB
def bv (s:List UInt8):List V:=s.map fun c=>.int .u8 (c.toNat:Int)
theorem bytesOf_bv (s:List UInt8):bytesOf (bv s)=some s:=by
 induction s with
 | nil=>rfl
 | cons x s ih=>simp only[bv,List.map_cons,bytesOf]at ih ⊢;rw[ih];simp
theorem bv_length (s:List UInt8):(bv s).length=s.length:=by simp[bv]
theorem s69_eval (c:zC)(N:Nat)(x:UInt8)(H:Heap)(Z:Tape)(q:KV):zEH c N (.int .u8 (x.toNat:Int)) H Z q=q (.int .u8 ((lowB x).toNat:Int)) H Z:=by
 have hx:=u8_lt x
 by_cases h1:65<=x.toNat
 ·have e1:decide (Int.ofNat 65<=(x.toNat:Int))=true:=decide_eq_true (by first | (simp;done) | (simp;omega) | omega)
  by_cases h2:x.toNat<=90
  ·have e2:decide ((x.toNat:Int)<=Int.ofNat 90)=true:=decide_eq_true (by first | (simp;done) | (simp;omega) | omega)
   have e3:wr .u8 ((x.toNat:Int)+Int.ofNat 32)=((lowB x).toNat:Int):=by
    rw[zS3]
    simp only[lowB,h1,h2,and_self,if_true,IntKind.wrap,IntKind.signed,IntKind.bits]
    simp <;> omega
   simp only[zEH,zBa,e1,zCs,zAU,retK,zBk,e2,zK,zS,cond_true,zBC,ze,e3,zDd]
   simp only[zV,↓reduceIte,Nat.reduceEqDiff]
  ·have e2:decide ((x.toNat:Int)<=Int.ofNat 90)=false:=decide_eq_false (by first | (simp;done) | (simp;omega) | omega)
   have e3:lowB x=x:=by simp[lowB,h2]
   simp only[zEH,zBa,e1,zCs,zAU,retK,zBk,e2,zK,zS,cond_true,zAN,zDd]
   simp only[zV,↓reduceIte,Nat.reduceEqDiff]
   rw[e3]
 ·have e1:decide (Int.ofNat 65<=(x.toNat:Int))=false:=decide_eq_false (by first | (simp;done) | (simp;omega) | omega)
  have e3:lowB x=x:=by simp[lowB,h1]
  simp only[zEH,zBa,e1,zBP,zK,zS,cond_false,zAN,zDd]
  simp only[zV,↓reduceIte,Nat.reduceEqDiff]
  rw[e3]
theorem low_loop (c:zC)(N:Nat){B id e m:Nat}(k:KC)(h121:∀ (x:UInt8) H Z q,c zC3 [.int .u8 (x.toNat:Int)] H Z q=q (.int .u8 ((lowB x).toNat:Int)) H Z)(l:List UInt8) :
  ∀ (pre:List UInt8) (n:Nat) (fr:T V) (H:Heap) (Z:Tape),WF H->Blk H B id (bv (lower pre++l))->(pre++l).length=m->m<9223372036854775807->l.length<n ->
  fr.get 1=some (.func zC3 [] [])->fr.get 5=some (.sl id 0 m m (some e) 1)->fr.get 10=some (.sl id 0 m m (some e) 1)->fr.get 11=some (.int .i64 (m:Int))->fr.get 12=some (.int .i64 (pre.length:Int)) ->
  ∃ H',Blk H' B id (bv (lower (pre++l)))/\Gr B H H'/\zAZ (zF6 c N) n ⟨fr,H⟩ Z k=k (.exit 0) ⟨T.s .leaf 5 (.sl id 0 m m (some e) 1),H'⟩ Z:=by
 induction l with
 | nil =>
  intro pre n fr H Z hw hB hm hmb hn h1 h5 h10 h11 h12
  obtain⟨n,rfl⟩:∃ j,n=j+1:=⟨n-1,by simp at hn;omega⟩
  refine⟨H,by simpa using hB,Gr.refl hw,?_⟩
  have e1:decide ((pre.length:Int)<(m:Int))=false:=decide_eq_false (by simp at hm;omega)
  rw[zI]
  simp only[zF6,zA h1,zA h5,zA h10,zA h11,zA h12,zN,e1,zAN,seqK]
 | cons x l ih =>
  intro pre n fr H Z hw hB hm hmb hn h1 h5 h10 h11 h12
  obtain⟨n,rfl⟩:∃ j,n=j+1:=⟨n-1,by simp at hn;omega⟩
  have hlt:pre.length<m:=by simp at hm;omega
  have e1:decide ((pre.length:Int)<(m:Int))=true:=decide_eq_true (by omega)
  have e2:zBR 1 [.sl id 0 m m (some e) 1,.int .i64 (pre.length:Int)]=some (.ptr id pre.length):=by
   have:Nat.blt pre.length m=true:=by simp[Nat.blt];omega
   simp[zBR,zCK,this]
  have e3:zM [.ptr id pre.length] H=some (.int .u8 (x.toNat:Int)):=by
   refine zR hB.cells ?_
   have:pre.length=(bv (lower pre)).length:=by simp[bv,lower]
   simp[bv,lower]
  obtain⟨H1,k1,k2,k3,k4⟩:=hB.eStore hw pre.length (.int .u8 ((lowB x).toNat:Int)) 1 rfl (by simp[bv,lower]) rfl Z
  have hcells:(bv (lower pre++x::l)).take pre.length++(V.int .u8 ((lowB x).toNat:Int)).cells++(bv (lower pre++x::l)).drop (pre.length+1)=bv (lower (pre++[x])++l):=by
   have hl:pre.length=(lower pre).length:=by simp[lower]
   simp only[bv,List.map_append,List.map_cons]
   rw[List.take_append_of_le_length (by simp[lower]),List.take_of_length_le (by simp[lower]),List.drop_append]
   simp[lower,V.cells]
  rw[hcells]at k2
  have e5:wr .i64 ((pre.length:Int)+Int.ofNat 1)=((pre++[x]).length:Int):=by
   rw[zEE (by first | (simp;done) | (simp;omega) | omega) (by first | (simp;done) | (simp;omega) | omega)]
   simp
  obtain⟨H',m1,m2,m3⟩:=ih (pre++[x]) n (T.s (T.s (T.s (T.s (T.s (T.s (T.s .leaf 1 (.func zC3 [] [])) 5 (.sl id 0 m m (some e) 1)) 10 (.sl id 0 m m (some e) 1)) 11 (.int .i64 (m:Int))) 12 (.int .i64 (pre.length:Int))) 23 (.int .i64 ((pre++[x]).length:Int))) 12 (.int .i64 ((pre++[x]).length:Int))) H1 Z k3.wf k2 (by simpa using hm) hmb (by simp at hn;omega) (by simp[T.get_set]) (by simp[T.get_set]) (by simp[T.get_set]) (by simp[T.get_set]) (by simp[T.get_set])
  refine⟨H',by simpa using m1,k3.trans m2 nl,?_⟩
  rw[zI]
  simp only[zF6,zA h1,zA h5,zA h10,zA h11,zA h12,zN,e1,zBC,e2,zK,e3,opK,List.nil_append,List.append_nil,h121,k1,zAU,ze,e5,seqK,m3]
theorem zPa (c:zC)(N:Nat)(hN:9223372036854775807<=N)(s:List UInt8)(hs:s.length<=140737488355328)(H:Heap)(hw:WF H)
  (h121:∀ (x:UInt8) H Z q,c zC3 [.int .u8 (x.toNat:Int)] H Z q=q (.int .u8 ((lowB x).toNat:Int)) H Z) (Z:Tape) (q:KV) :
  ∃ H' Z',Gr H.size H H'/\zIw c N (.str s) (.func zC3 [] []) H Z q=q (.str (lower s)) H' Z':=by
 have hB:=Blk.new H (bv s) ((s.length+spare s.length (Z 0))*1) false (by rw[bv_length];omega)
 have hG:=Gr.new hw (bv s) ((s.length+spare s.length (Z 0))*1) false
 obtain⟨H',m1,m2,m3⟩:=low_loop c N (e:=spare s.length (Z 0)) (m:=s.length) (zX 0 (seqK (zIr c N q) (endK [(.t 4)] q))) h121 s [] N (T.s (T.s (T.s (T.s (T.s .leaf 1 (.func zC3 [] [])) 5 (.sl H.size 0 s.length s.length (some (spare s.length (Z 0))) 1)) 10 (.sl H.size 0 s.length s.length (some (spare s.length (Z 0))) 1)) 11 (.int .i64 (s.length:Int))) 12 (.int .i64 0)) _ Z.tail hG.wf (by simpa [lower] using hB) (by simp) (by omega) (by omega) (by simp[T.get_set]) (by simp[T.get_set]) (by simp[T.get_set]) (by simp[T.get_set]) (by simp[T.get_set])
 refine⟨H',Z.tail,hG.trans m2 nl,?_⟩
 have e1:zGf [.str s] H Z=some (.sl H.size 0 s.length s.length (some (spare s.length (Z 0))) 1,H.new (bv s) ((s.length+spare s.length (Z 0))*1) false,Z.tail):=by
  simp only[zGf,Nat.ble_eq_true_of_le hs,cond_true,fresh]
  rfl
 have e2:pLen [.sl H.size 0 s.length s.length (some (spare s.length (Z 0))) 1]=some (.int .i64 (s.length:Int)):=rfl
 have e3:zER [.sl H.size 0 s.length s.length (some (spare s.length (Z 0))) 1] H'=some (.str (lower s)):=by
  have hl:(bv (lower ([]++s))).length=s.length:=by simp[bv,lower]
  simp only[zER,zC9 m1.cells (show 0+s.length<=_ by rw[hl];omega),List.drop_zero]
  rw[List.take_of_length_le (by rw[hl];omega)]
  simp[bytesOf_bv]
 simp only[zIw,e1,zAU,e2,zK]
 rw[show(V.int IntKind.i64 (Int.ofNat 0))=.int .i64 0 from rfl,m3]
 simp only[zX,Nat.beq_refl,cond_true,seqK,zIr]
 simp only[zV,↓reduceIte,Nat.reduceEqDiff]
 rw[e3,zK]
def zDq:Int:=9223372036854775807
def zMY (n:Int)(d:Int):Int:=if(zDq-d).tdiv 10<n then zDq else n*10+d
def intL:List UInt8->Int->Option Int
 | [],n=>some n
 | x::l,n=>if 48<=x.toNat/\x.toNat<=57 then intL l (zMY n ((x.toNat:Int)-48))else none
theorem zPU {n d:Int}(h0:0<=n)(h1:n<=zDq)(hd:0<=d)(hd':d<=9):0<=zMY n d/\zMY n d<=zDq:=by
 unfold zMY zDq at *
 split
 ·omega
 ·rename_i h
  rw[Int.tdiv_eq_ediv_of_nonneg (by omega)]at h
  omega
theorem int_loop (c:zC)(N:Nat)(k:KC)(H:Heap)(s:List UInt8)(hs:s.length<9223372036854775807)(l:List UInt8):∀ (pre:List UInt8) (v:Int) (n:Nat) (fr:T V) (Z:Tape),s=pre++l->0<=v->v<=zDq->l.length<n ->
  fr.get 0=some (.str s)->fr.get 4=some (.int .i64 v)->fr.get 9=some (.int .i64 (s.length:Int))->fr.get 10=some (.int .i64 (pre.length:Int)) ->
  zAZ (zIv c N) n ⟨fr,H⟩ Z k=match intL l v with
   | some m=>k (.exit 0) ⟨T.s (T.s .leaf 0 (.str s)) 4 (.int .i64 m),H⟩ Z
   | none=>k .ret ⟨T.s (T.s .leaf 2 (.int .i64 (.ofNat 0))) 3 (.bool false),H⟩ Z:=by
 induction l with
 | nil =>
  intro pre v n fr Z he h0 h1 hn f0 f4 f9 f10
  obtain⟨n,rfl⟩:∃ j,n=j+1:=⟨n-1,by simp at hn;omega⟩
  have e1:decide ((pre.length:Int)<(s.length:Int))=false:=decide_eq_false (by rw[he];simp)
  rw[zI]
  simp only[zIv,zA f0,zA f4,zA f9,zA f10,zN,e1,zAN,seqK,intL]
 | cons x l ih =>
  intro pre v n fr Z he h0 h1 hn f0 f4 f9 f10
  obtain⟨n,rfl⟩:∃ j,n=j+1:=⟨n-1,by simp at hn;omega⟩
  have e1:decide ((pre.length:Int)<(s.length:Int))=true:=decide_eq_true (by rw[he];first | (simp;done) | (simp;omega))
  have e2:zL [.str s,.int .i64 (pre.length:Int)]=some (.int .u8 (x.toNat:Int)):=zC6 (by rw[he];simp)
  have hx:=u8_lt x
  rw[zI]
  simp only[zIv,zA f0,zA f4,zA f9,zA f10,zN,e1,zBC,e2,zK]
  by_cases h48:48<=x.toNat
  ·have e3:decide ((x.toNat:Int)<Int.ofNat 48)=false:=decide_eq_false (by first | (simp;done) | (simp;omega) | omega)
   by_cases h57:x.toNat<=57
   ·have e4:decide (Int.ofNat 57<(x.toNat:Int))=false:=decide_eq_false (by first | (simp;done) | (simp;omega) | omega)
    have e5:wr .u8 ((x.toNat:Int)-Int.ofNat 48)=(x.toNat:Int)-48:=by
     rw[zS3];simp[IntKind.wrap,IntKind.signed,IntKind.bits];omega
    have e6:wr .i64 ((x.toNat:Int)-48)=(x.toNat:Int)-48:=zEE (by omega) (by omega)
    have e7:wr .i64 (Int.ofNat 9223372036854775807-((x.toNat:Int)-48))=zDq-((x.toNat:Int)-48):=by
     rw[zEE (by first | (simp;done) | (simp;omega) | omega) (by first | (simp;done) | (simp;omega) | omega)];rfl
    have e8:wr .i64 ((zDq-((x.toNat:Int)-48)).tdiv (Int.ofNat 10))=(zDq-((x.toNat:Int)-48)).tdiv 10:=by
     have:(zDq-((x.toNat:Int)-48)).tdiv (Int.ofNat 10)=(zDq-((x.toNat:Int)-48)).tdiv 10:=rfl
     rw[this,Int.tdiv_eq_ediv_of_nonneg (by unfold zDq;omega)]
     unfold zDq
     exact zEE (by omega) (by omega)
    have e9:wr .i64 ((pre.length:Int)+Int.ofNat 1)=((pre++[x]).length:Int):=by
     have:s.length=pre.length+(l.length+1):=by rw[he];simp
     rw[zEE (by first | (simp;done) | (simp;omega) | omega) (by first | (simp;done) | (simp;omega) | omega)]
     simp
    have hstep:=zPU h0 h1 (d:=(x.toNat:Int)-48) (by omega) (by omega)
    have hI:intL (x::l) v=intL l (zMY v ((x.toNat:Int)-48)):=by simp only[intL,h48,h57,and_self,if_true]
    simp only[zN,e3,zD5,zAU,retK,zAV,e4,zK,zS,cond_false,zAN,zCn,e5,toInt_mk,e6,e7]
    rw[bin_quo _ _ _ (by decide)]
    simp only[e8,zAV]
    by_cases hq:(zDq-((x.toNat:Int)-48)).tdiv 10<v
    ·have hI2:zMY v ((x.toNat:Int)-48)=zDq:=by simp only[zMY,hq,if_true]
     rw[decide_eq_true hq]
     simp only[zBC,zIy]
     simp only[zV,↓reduceIte,Nat.reduceEqDiff]
     simp only[ze,e9,seqK]
     rw[ih (pre++[x]) zDq n _ Z (by rw[he];simp) (by unfold zDq;omega) (Int.le_refl _) (by simp at hn;omega) (by simp[T.get_set]) (by simp[T.get_set];rfl) (by simp[T.get_set]) (by simp[T.get_set]),hI,hI2]
    ·have hI2:zMY v ((x.toNat:Int)-48)=v*10+((x.toNat:Int)-48):=by simp only[zMY,hq,if_false]
     rw[decide_eq_false hq]
     have hv:v*10+((x.toNat:Int)-48)<=zDq:=by rw[<- hI2];exact hstep.2
     have e10:wr .i64 (v*Int.ofNat 10)=v*10:=by
      have:v*Int.ofNat 10=v*10:=rfl
      rw[this,zEE (by omega) (by unfold zDq at hv;omega)]
     have e11:wr .i64 (v*10+((x.toNat:Int)-48))=v*10+((x.toNat:Int)-48):=zEE (by omega) hv
     simp only[zAN,bin_mul,e10,ze,e11,zIy]
     simp only[zV,↓reduceIte,Nat.reduceEqDiff]
     simp only[ze,e9,seqK]
     rw[ih (pre++[x]) (v*10+((x.toNat:Int)-48)) n _ Z (by rw[he];simp) (by omega) hv (by simp at hn;omega) (by simp[T.get_set]) (by simp[T.get_set]) (by simp[T.get_set]) (by simp[T.get_set]),hI,hI2]
   ·have e4:decide (Int.ofNat 57<(x.toNat:Int))=true:=decide_eq_true (by first | (simp;done) | (simp;omega) | omega)
    have hI:intL (x::l) v=none:=by simp only[intL,h57,and_false,if_false]
    simp only[zN,e3,zD5,zAU,retK,zAV,e4,zK,zS,cond_false,zBC,seqK,hI]
  ·have e3:decide ((x.toNat:Int)<Int.ofNat 48)=true:=decide_eq_true (by first | (simp;done) | (simp;omega) | omega)
   have hI:intL (x::l) v=none:=by simp only[intL,h48,false_and,if_false]
   simp only[zN,e3,zCa,zK,zS,cond_true,zBC,seqK,hI]
def intB (s:List UInt8):Int × Bool :=
 match intL s 0 with
 | some n=>(n,decide (0<s.length))
 | none=>(0,false)
theorem s67_eval (c:zC)(N:Nat)(hN:9223372036854775807<=N)(s:List UInt8)(hs:s.length<9223372036854775807)(H:Heap)(Z:Tape)(q:KV) :
  zMN c N (.str s) H Z q=q (.tup [.int .i64 (intB s).1,.bool (intB s).2]) H Z:=by
 have h:=int_loop c N (zX 0 (seqK (zLY c N q) (endK [(.t 2),(.t 3)] q))) H s hs s [] 0 N (T.s (T.s (T.s (T.s .leaf 0 (.str s)) 4 (.int .i64 0)) 9 (.int .i64 (s.length:Int))) 10 (.int .i64 0)) Z rfl (Int.le_refl _) (by unfold zDq;omega) (by omega) (by simp[T.get_set]) (by simp[T.get_set]) (by simp[T.get_set]) (by simp[T.get_set])
 simp only[zMN,zAF,zK]
 rw[show(V.int IntKind.i64 (Int.ofNat 0))=.int .i64 0 from rfl,h]
 unfold intB
 cases hI:intL s 0 with
 | none =>
  simp only[zX,seqK,endK,results,zMG,zRY,T.get_set]
  rfl
 | some m =>
  simp only[zX,Nat.beq_refl,cond_true,seqK,zLY]
  simp only[zV,↓reduceIte,Nat.reduceEqDiff]
  rw[zAF,zK,zAV]
  simp
abbrev Bs:=List UInt8
abbrev LowOk (c:zC):Prop:=∀ (s:Bs),s.length<=140737488355328->∀ (H:Heap),WF H->∀ Z q,∃ H' Z',Gr H.size H H'/\c zBD [.str s] H Z q=q (.str (lower s)) H' Z'
theorem zQ6 (c:zC)(N:Nat)(h92:LowOk c)(n v name:Bs)(hn:n.length<=140737488355328)(hm:name.length<=140737488355328)(H:Heap)(hw:WF H)(Z:Tape)(q:KV) :
  ∃ H' Z',Gr H.size H H'/\zLB c N (.agg [.str n,.str v]) (.str name) H Z q=q (.bool (lower n == lower name)) H' Z':=by
 have hG:=Gr.new hw [V.str n,V.str v] 2 true
 have hB:=Blk.new H [V.str n,V.str v] 2 true nl
 obtain⟨H2,Z2,k1,k2⟩:=h92 n hn _ hG.wf Z (fun v5 H6 Z7=>c zBD [.str name] H6 Z7 fun v8 H9 Z10=>binK .eql v5 v8 fun v11=>q v11 H9 Z10)
 obtain⟨H3,Z3,m1,m2⟩:=h92 name hm _ k1.wf Z2 (fun v8 H9 Z10=>binK .eql (.str (lower n)) v8 fun v11=>q v11 H9 Z10)
 refine⟨H3,Z3,hG.trans (k1.trans m1 k1.size) hG.size,?_⟩
 have e1:eBox [.agg [.str n,.str v]] H Z=some (.ptr H.size 0,H.new [.str n,.str v] 2 true,Z):=rfl
 have e2:zM [.ptr H.size 0] (H.new [.str n,.str v] 2 true)=some (.str n):=zR hB.cells rfl
 simp only[zLB,e1,zAU,zF,Nat.add_zero,zK,e2,k2,m2,zAs,zFU]
def hcells (l:List (Bs × Bs)):List V:=l.flatMap fun h=>[.str h.1,.str h.2]
theorem zC2 (h:Bs × Bs)(l:List (Bs × Bs)):hcells (h::l)=.str h.1 :: .str h.2::hcells l:=rfl
theorem zMZ (a b:List (Bs × Bs)):hcells (a++b)=hcells a++hcells b:=by simp[hcells]
theorem zMa (l:List (Bs × Bs)):(hcells l).length=l.length*2:=by
 induction l with
 | nil=>rfl
 | cons h l ih=>rw[zC2];simp only[List.length_cons,ih];omega
def sel (name:Bs)(l:List (Bs × Bs)):List Bs:=(l.filter fun h=>lower h.1 == lower name).map (·.2)
theorem get_loop (c:zC)(N:Nat){B id off m lo:Nat}{ex:Option Nat}{all:List V}(k:KC)(name:Bs)(hname:name.length<=140737488355328)(hs:List (Bs × Bs))(hm:hs.length=m)(hmb:m<=4294967296)(hsz:∀ h ∈ hs,h.1.length<=140737488355328)
  (hall:(all.drop off).take (m*2)=hcells hs) (hlen:off+m*2<=all.length)
  (h112:∀ (n v:Bs),n.length<=140737488355328->∀ (H:Heap),WF H->∀ Z q,∃ H' Z',Gr H.size H H'/\c zDm [.agg [.str n,.str v],.str name] H Z q=q (.bool (lower n == lower name)) H' Z') (l:List (Bs × Bs)) :
  ∀ (pre:List (Bs × Bs)) (v6:V) (vals:List Bs) (n:Nat) (fr:T V) (H:Heap) (Z:Tape),WF H->B<=H.size->hs=pre++l->H.cells? id=some all->Own H B 1 v6 vals.length (vals.map V.str)->vals.length+l.length<=4294967296->l.length<n ->
  fr.get 1=some (.str name)->fr.get 6=some v6->fr.get 9=some (.sl id off m lo ex 2)->fr.get 10=some (.int .i64 (m:Int))->fr.get 11=some (.int .i64 (pre.length:Int)) ->
  ∃ v6' H' Z',Gr B H H'/\Own H' B 1 v6' (vals++sel name l).length ((vals++sel name l).map V.str)/\zAZ (zCk c N) n ⟨fr,H⟩ Z k=k (.exit 0) ⟨T.s .leaf 6 v6',H'⟩ Z':=by
 induction l with
 | nil =>
  intro pre v6 vals n fr H Z hw hB he hc ho hb hn f1 f6 f9 f10 f11
  obtain⟨n,rfl⟩:∃ j,n=j+1:=⟨n-1,by simp at hn;omega⟩
  refine⟨v6,H,Z,Gr.refl hw,by simpa [sel] using ho,?_⟩
  have e1:decide ((pre.length:Int)<(m:Int))=false:=decide_eq_false (by rw[<- hm,he];simp)
  rw[zI]
  simp only[zCk,zA f1,zA f6,zA f9,zA f10,zA f11,zN,e1,zAN,seqK]
 | cons h l ih =>
  intro pre v6 vals n fr H Z hw hB he hc ho hb hn f1 f6 f9 f10 f11
  obtain⟨n,rfl⟩:∃ j,n=j+1:=⟨n-1,by simp at hn;omega⟩
  have hmm:m=pre.length+(l.length+1):=by rw[<- hm,he];simp
  have e1:decide ((pre.length:Int)<(m:Int))=true:=decide_eq_true (by omega)
  have e2:zBR 2 [.sl id off m lo ex 2,.int .i64 (pre.length:Int)]=some (.ptr id (off+pre.length*2)):=by
   have:Nat.blt pre.length m=true:=by simp[Nat.blt];omega
   simp[zBR,zCK,this]
  have e3:zBA 2 [.ptr id (off+pre.length*2)] H=some (.agg [.str h.1,.str h.2]):=by
   rw[zAw hc (by omega)]
   have h1:(all.drop (off+pre.length*2)).take 2=((hcells hs).drop (pre.length*2)).take 2:=by
    rw[<- hall,List.drop_take,List.take_take,List.drop_drop,Nat.min_eq_left (by omega)]
   rw[h1,he,zMZ,<- zMa pre,List.drop_left,zC2]
   rfl
  have hG:=Gr.new hw [V.str [],V.str []] 2 true
  have hK:=Blk.new H [V.str [],V.str []] 2 true nl
  have e4:zB2 [.str [],.str []] [] H Z=some (.ptr H.size 0,H.new [V.str [],V.str []] 2 true,Z):=rfl
  obtain⟨H1,k1,k2,k3,k4⟩:=hK.eStore hG.wf 0 (.agg [.str h.1,.str h.2]) 2 rfl (by simp) rfl Z
  have k2:Blk H1 H.size H.size [.str h.1,.str h.2]:=k2
  have hG1:=hG.trans k3 nl
  have e5:zBA 2 [.ptr H.size 0] H1=some (.agg [.str h.1,.str h.2]):=by rw[zAw k2.cells (by simp)];rfl
  have e9:wr .i64 ((pre.length:Int)+Int.ofNat 1)=((pre++[h]).length:Int):=by
   rw[zEE (by first | (simp;done) | (simp;omega) | omega) (by first | (simp;done) | (simp;omega) | omega)]
   simp
  obtain⟨H2,Z2,p1,p2⟩:=h112 h.1 h.2 (hsz h (by rw[he];simp)) H1 k3.wf Z (fun v17 H18 Z19 =>
   zW v17
    (zB (zF 1 [.ptr H.size 0]) fun v20 =>
   zB (zM [v20] H18) fun v21 =>
   effK (zP 1 1 [(.str [])] [(0,1)] [v21] H18 Z19) fun v22 H23 Z24 =>
   effK (zq 1 16 [v6,v22] H23 Z24) fun v25 H26 Z27 =>
   zDT c N (seqK (fun st Z=>zAZ (zCk c N) n st Z k) k) ⟨(T.s (T.s (T.s (T.s (T.s (T.s (T.s (T.s (T.s (T.s (T.s (T.s (T.s .leaf 1 (.str name)) 6 v6) 8 (.ptr H.size 0)) 9 (.sl id off m lo ex 2)) 10 (.int .i64 (m:Int))) 11 (.int .i64 (pre.length:Int))) 17 v17) 18 v6) 19 v20) 20 v21) 21 v22) 22 v25) 6 v25),H26⟩ Z27)
    (zDT c N (seqK (fun st Z=>zAZ (zCk c N) n st Z k) k) ⟨(T.s (T.s (T.s (T.s (T.s (T.s (T.s .leaf 1 (.str name)) 6 v6) 8 (.ptr H.size 0)) 9 (.sl id off m lo ex 2)) 10 (.int .i64 (m:Int))) 11 (.int .i64 (pre.length:Int))) 17 v17),H18⟩ Z19))
  have hG2:Gr H.size H H2:=hG1.trans p1 (by rw[k4];exact Nat.le_succ _)
  have hw2:=p1.wf
  have ho2:=ho.gr hG2 hw nl
  have hc2:=hG2.cells hw nl hc
  rw[zI]
  simp only[zCk,zA f1,zA f6,zA f9,zA f10,zA f11,zN,e1,zBC,e2,zK,e3,e4,zAU,k1,e5,p2]
  cases hsel:lower h.1 == lower name with
  | false =>
   obtain⟨v6',H',Z',q1,q2,q3⟩:=ih (pre++[h]) v6 vals n (T.s (T.s (T.s (T.s (T.s (T.s (T.s .leaf 1 (.str name)) 6 v6) 9 (.sl id off m lo ex 2)) 10 (.int .i64 (m:Int))) 11 (.int .i64 (pre.length:Int))) 23 (.int .i64 ((pre++[h]).length:Int))) 11 (.int .i64 ((pre++[h]).length:Int))) H2 Z2 hw2 (by have:=hG2.size;omega) (by rw[he];simp) hc2 ho2 (by simp at hb;omega) (by simp at hn;omega) (by simp[T.get_set]) (by simp[T.get_set]) (by simp[T.get_set]) (by simp[T.get_set]) (by simp[T.get_set])
   refine⟨v6',H',Z',(hG2.weaken hB).trans q1 nl,by simpa [sel,hsel] using q2,?_⟩
   simp only[zAN,zDT]
   simp only[zV,↓reduceIte,Nat.reduceEqDiff]
   simp only[ze,e9,seqK,q3]
  | true =>
   have hblk2:=k2.gr p1 k3.wf nl
   have e6:zM [.ptr H.size (0+1)] H2=some (.str h.2):=zR hblk2.cells rfl
   have hG3:=Gr.new hw2 [V.str h.2] (1*1) false
   have e7:zP 1 1 [(.str [])] [(0,1)] [.str h.2] H2 Z2=some (.sl H2.size 0 1 1 none 1,H2.new [.str h.2] (1*1) false,Z2):=rfl
   have ho3:=ho2.gr hG3 hw2 nl
   have hc3:=hG3.cells hw2 nl hc2
   obtain⟨v25,H4,r1,r2,r3,r4⟩:=ho3.append (bytes:=16) hG3.wf (by have:=hG2.size;have:=hG3.size;omega) 1 [.str h.2] (by omega) rfl rfl (by simp at hb;omega) (by simp at hb;omega) Z2
   have e8:zq 1 16 [v6,.sl H2.size 0 1 1 none 1] (H2.new [.str h.2] (1*1) false) Z2=some (v25,H4,Z2.tail):=by
    have hl:(H2.new [V.str h.2] (1*1) false).loads H2.size 0 (1*1)=some [.str h.2]:=by
     rw[zC9 (zJM _ _ _ _) (by simp)];rfl
    simp only[zq,zGB,zB1,Nat.beq_refl,cond_true,hl,r1]
   obtain⟨v6',H',Z',q1,q2,q3⟩:=ih (pre++[h]) v25 (vals++[h.2]) n (T.s (T.s (T.s (T.s (T.s (T.s (T.s .leaf 1 (.str name)) 6 v25) 9 (.sl id off m lo ex 2)) 10 (.int .i64 (m:Int))) 11 (.int .i64 (pre.length:Int))) 23 (.int .i64 ((pre++[h]).length:Int))) 11 (.int .i64 ((pre++[h]).length:Int))) H4 Z2.tail r3.wf (by have:=hG2.size;have:=hG3.size;have:=r3.size;omega) (by rw[he];simp) (r4 _ _ hc3) (by simpa using r2) (by simp at hb;first | (simp;done) | (simp;omega) | omega) (by simp at hn;omega) (by simp[T.get_set]) (by simp[T.get_set]) (by simp[T.get_set]) (by simp[T.get_set]) (by simp[T.get_set])
   refine⟨v6',H',Z',?_,by simpa [sel,hsel] using q2,?_⟩
   ·exact((hG2.trans hG3 hG2.size).weaken hB).trans (r3.trans q1 nl) nl
   simp only[zBC,zF,zK,e6,e7,zAU,e8,zDT]
   simp only[zV,↓reduceIte,Nat.reduceEqDiff]
   simp only[ze,e9,seqK,q3]
theorem zP5 (l:List Bs):strsOf (l.map V.str)=some l:=by
 induction l with
 | nil=>rfl
 | cons x l ih=>simp only[List.map_cons,strsOf,ih]
theorem join_own {H:Heap}{B:Nat}{v:V}{n:Nat}{vals:List Bs}{sep:Bs}(ho:Own H B 1 v n (vals.map V.str))(h1:(zPN sep vals).length<=140737488355328)(h2:n<=140737488355328)(Z:Tape):zNW [v,.str sep] H Z=some (.str (zPN sep vals),H,Z):=by
 have hc:=ho.rd
 rcases ho with⟨rfl,rfl,hv⟩ | ⟨id,e,room,fam,ver,pl,st,fr,rfl,k2,k3,k4,k5,k6,k7⟩
 ·have:vals=[]:=by simpa using hv
  subst this
  rfl
 ·have hcells:H.cells? id=some (vals.map V.str):=by
   simp only[Heap.cells?,k2,k3]
   rw[show Nat.ble fr ver=true from Nat.ble_eq_true_of_le k4]
   rfl
  have hl:H.loads id 0 n=some (vals.map V.str):=by
   rw[zC9 hcells (by rw[k7];omega),List.drop_zero,List.take_of_length_le (by rw[k7];omega)]
  simp only[zNW,Nat.beq_refl,cond_true,hl,zP5,Nat.ble_eq_true_of_le h1,Nat.ble_eq_true_of_le h2,Bool.and_self]
theorem own_len {H:Heap}{B z:Nat}{v:V}{n:Nat}{cs:List V}(ho:Own H B z v n cs):pLen [v]=some (.int .i64 (n:Int)):=by
 rcases ho with⟨rfl,rfl,_⟩ | ⟨id,e,room,fam,ver,pl,st,fr,rfl,_⟩ <;> rfl
theorem rd_len {H:Heap}{z:Nat}{v:V}{n:Nat}{cs:List V}(ho:Rd H z v n cs):pLen [v]=some (.int .i64 (n:Int)):=by
 rcases ho with⟨rfl | ⟨id,off,lo,ex,rfl⟩,rfl,_⟩ | ⟨id,off,lo,ex,all,rfl,_⟩ <;> rfl
def getT (name:Bs)(hs:List (Bs × Bs)):Bs:=zPN [44,32] (sel name hs)
theorem zQR (c:zC)(N:Nat)(hN:9223372036854775807<=N)(name:Bs)(hname:name.length<=140737488355328)(hs:List (Bs × Bs))(hmb:hs.length<=4294967296)(hsz:∀ h ∈ hs,h.1.length<=140737488355328)(hj:(getT name hs).length<=140737488355328)
  (h113:∀ vs H Z q,c zO0 vs H Z q=effK (zNW vs H Z) q)
  (h112:∀ (n v:Bs),n.length<=140737488355328->∀ (H:Heap),WF H->∀ Z q,∃ H' Z',Gr H.size H H'/\c zDm [.agg [.str n,.str v],.str name] H Z q=q (.bool (lower n == lower name)) H' Z')
  (v:V) (H:Heap) (hw:WF H) (hr:Rd H 2 v hs.length (hcells hs)) (Z:Tape) (q:KV) :
  ∃ H' Z',Gr H.size H H'/\zHa c N v (.str name) H Z q=q (.tup [.str (getT name hs),.bool (decide (0<(sel name hs).length))]) H' Z':=by
 have hend:∀ (v6:V) (H':Heap) (Z':Tape),Own H' H.size 1 v6 (sel name hs).length ((sel name hs).map V.str) ->
   (zX 0 (seqK (zGp c N q) (endK [(.t 4),(.t 5)] q))) (.exit 0) ⟨T.s .leaf 6 v6,H'⟩ Z'=q (.tup [.str (getT name hs),.bool (decide (0<(sel name hs).length))]) H' Z':=by
  intro v6 H' Z' ho
  have hsl:(sel name hs).length<=hs.length:=by
   simp only[sel,List.length_map]
   exact List.length_filter_le _ _
  simp only[zX,Nat.beq_refl,cond_true,seqK,zGp,zV,↓reduceIte,h113]
  rw[show bs [44,32]=[44,32]from rfl,join_own ho hj (by omega),zAU,own_len ho,zK,zAV]
  have:decide (Int.ofNat 0<((sel name hs).length:Int))=decide (0<(sel name hs).length):=by
   rw[decide_eq_decide];simp <;> omega
  rw[this]
  rfl
 by_cases h0:hs=[]
 ·subst h0
  refine⟨H,Z,Gr.refl hw,?_⟩
  obtain⟨N,rfl⟩:∃ j,N=j+1:=⟨N-1,by omega⟩
  simp only[zHa,rd_len hr,zK,zI,zCk,zV,↓reduceIte,Nat.reduceEqDiff]
  rw[zN,show decide (Int.ofNat 0<((([]:List (Bs × Bs)).length:Nat):Int))=false from rfl,zAN,seqK]
  exact hend .nils H Z (Own.nil _ _ _)
 ·rcases hr with⟨_,hz,_⟩ | ⟨id,off,lo,ex,all,rfl,hc,hall,hlen⟩
  ·exact absurd (List.length_eq_zero_iff.1 hz) h0
  ·have hpos:0<hs.length:=List.length_pos_iff.2 h0
   have hl:off+hs.length*2<=all.length:=by
    have:=hlen
    rw[hall,List.length_take,List.length_drop]at this
    omega
   obtain⟨v6,H',Z',k1,k2,k3⟩:=get_loop c N (B:=H.size) (lo:=lo) (ex:=ex) (zX 0 (seqK (zGp c N q) (endK [(.t 4),(.t 5)] q))) name hname hs rfl hmb hsz hall.symm hl h112 hs [] .nils [] N (T.s (T.s (T.s (T.s (T.s .leaf 1 (.str name)) 6 .nils) 9 (.sl id off hs.length lo ex 2)) 10 (.int .i64 (hs.length:Int))) 11 (.int .i64 0)) H Z hw nl rfl hc (Own.nil _ _ _) (by simpa using hmb) (by omega) (by simp[T.get_set]) (by simp[T.get_set]) (by simp[T.get_set]) (by simp[T.get_set]) (by simp[T.get_set])
   refine⟨H',Z',k1,?_⟩
   have e1:pLen [.sl id off hs.length lo ex 2]=some (.int .i64 (hs.length:Int)):=rfl
   simp only[zHa,e1,zK]
   rw[show(V.int IntKind.i64 (Int.ofNat 0))=.int .i64 0 from rfl,k3]
   exact hend v6 H' Z' (by simpa using k2)
abbrev TrimOk (c:zC)(cut:Bs):Prop:=∀ (s:Bs),s.length<9223372036854775807->∀ (H:Heap),WF H->∀ Z q,∃ H',Gr H.size H H'/\c zCy [.str s,.str cut] H Z q=q (.str (trimB cut.contains s)) H' Z
def cutB (x:UInt8):Bs->Option (Bs × Bs)
 | []=>none
 | y::l=>if y=x then some ([],l)else match cutB x l with
  | some (a,b)=>some (y::a,b)
  | none=>none
theorem zRJ (x:UInt8):∀ (s:Bs),(cutB x s=none->idxB x.toNat s 0=-1)/\(∀ a b,cutB x s=some (a,b)->s=a++x::b/\idxB x.toNat s 0=(a.length:Int)):=by
 intro s
 have key:∀ (s:Bs) (i:Nat),(cutB x s=none->idxB x.toNat s i=-1)/\(∀ a b,cutB x s=some (a,b)->s=a++x::b/\idxB x.toNat s i=((i+a.length:Nat):Int)):=by
  intro s
  induction s with
  | nil=>intro i;exact⟨fun _=>rfl,fun a b h=>by cases h⟩
  | cons y l ih =>
   intro i
   by_cases h:y=x
   ·subst h
    refine⟨fun h=>by simp[cutB]at h,fun a b h=>?_⟩
    simp only[cutB,if_true,Option.some.injEq,Prod.mk.injEq]at h
    obtain⟨rfl,rfl⟩:=h
    refine⟨rfl,?_⟩
    simp[idxB,zCM]
   ·have hb:Nat.beq y.toNat x.toNat=false:=by
     cases hb:Nat.beq y.toNat x.toNat with
     | false=>rfl
     | true=>exact absurd (UInt8.toNat_inj.1 (Nat.eq_of_beq_eq_true hb)) h
    simp only[cutB,h,if_false,idxB,hb,cond_false]
    obtain⟨h1,h2⟩:=ih (i+1)
    cases hc:cutB x l with
    | none=>exact⟨fun _=>h1 hc,fun a b h=>by cases h⟩
    | some ab =>
     obtain⟨a',b'⟩:=ab
     refine⟨fun h=>(by cases h),fun a b h=>?_⟩
     cases h
     obtain⟨h3,h4⟩:=h2 a' b' hc
     refine⟨by rw[h3];rfl,?_⟩
     rw[h4]
     simp <;> omega
 have:=key s 0
 simpa using this
theorem s85_one (c:zC)(N:Nat)(s:Bs)(x:UInt8)(h131:∀ vs H Z q,c zBF vs H Z q=effK (idxP vs H Z) q)(H:Heap)(Z:Tape)(q:KV) :
  zE2 c N (.str s) (.str [x]) H Z q=q (.int .i64 (idxB x.toNat s 0)) H Z:=by
 have e1:((([x]:Bs).length:Int) == Int.ofNat 0)=false:=rfl
 have e2:((([x]:Bs).length:Int) == Int.ofNat 1)=true:=rfl
 have e3:zL [.str [x],.int .i64 (.ofNat 0)]=some (.int .u8 (.ofNat x.toNat)):=rfl
 have e4:x.toNat % 256=x.toNat:=Nat.mod_eq_of_lt (u8_lt x)
 simp only[zE2,zAF,zK,zAv,e1,zD5,retK,zAU,zAs,zFU,zS,cond_false,e2,zBC,e3,h131,idxP,e4]
 cases hx:([x] == s)with
 | false=>simp only[zAN]
 | true =>
  have:s=[x]:=(beq_iff_eq.1 hx).symm
  subst this
  simp[zBC,idxB,zCM]
theorem s66_one (c:zC)(N:Nat)(s:Bs)(x:UInt8)(hs:s.length<9223372036854775807)(h130:∀ (s:Bs) (x:UInt8) H Z q,c zGs [.str s,.str [x]] H Z q=q (.int .i64 (idxB x.toNat s 0)) H Z)(H:Heap)(Z:Tape)(q:KV) :
  zFz c N (.str s) (.str [x]) H Z q=q (match cutB x s with | some (a,b)=>.tup [.str a,.str b,.bool true] | none=>.tup [.str s,.str [],.bool false]) H Z:=by
 obtain⟨h1,h2⟩:=zRJ x s
 simp only[zFz,h130]
 cases hc:cutB x s with
 | none =>
  rw[h1 hc,zBa]
  rfl
 | some ab =>
  obtain⟨a,b⟩:=ab
  obtain⟨h3,h4⟩:=h2 a b hc
  have e1:decide (Int.ofNat 0<=(a.length:Int))=true:=decide_eq_true (by simp <;> omega)
  have hl:a.length<s.length:=by rw[h3];simp
  have e2:zw false true [.str s,.int .i64 (a.length:Int)]=some (.str a):=by
   rw[zRR (by omega),h3];simp
  have e3:wr .i64 ((a.length:Int)+(([x]:Bs).length:Int))=((a.length+1:Nat):Int):=by
   rw[zEE (by simp;omega) (by simp;omega)];simp
  have e4:zw true false [.str s,.int .i64 ((a.length+1:Nat):Int)]=some (.str b):=by
   rw[zMc (by omega),h3];simp
  rw[h4,zBa,e1,zBC,e2,zK,zAF,zK,ze,e3,e4,zK]
theorem s37_one (c:zC)(N:Nat)(s:Bs)(x:UInt8)(h103:∀ H Z q,c zIq [.str s,.str [x]] H Z q=q (match cutB x s with | some (a,b)=>.tup [.str a,.str b,.bool true] | none=>.tup [.str s,.str [],.bool false]) H Z)(H:Heap)(Z:Tape)(q:KV) :
  zKE c N (.str s) (.str [x]) H Z q=q (match cutB x s with | some (a,b)=>.tup [.str a,.str b,.bool true] | none=>.tup [.str s,.str [],.bool false]) H Z:=by
 simp only[zKE,h103]
 cases hc:cutB x s with
 | none=>rfl
 | some ab=>rfl
def zt:Bool->Bs->Bs->List Bs × Bs
 | _,cur,[]=>([],cur)
 | q,cur,x::r =>
  if x=34 then zt (!q) (cur++[x]) r
  else if q=true/\x=92 then
   match r with
   | []=>([],cur++[x])
   | y::r'=>zt q (cur++[x,y]) r'
  else if q=false/\x=44 then
   (cur::(zt false [] r).1,(zt false [] r).2)
  else zt q (cur++[x]) r
theorem zOB (q:Bool)(cur:Bs){x:UInt8}(r:Bs)(h:x=34):zt q cur (x::r)=zt (!q) (cur++[x]) r:=by
 cases r <;> simp[zt,h]
theorem zQP (cur:Bs){x:UInt8}(h:x≠34)(h':x=92):zt true cur [x]=([],cur++[x]):=by
 subst h'
 simp[zt]
theorem zQD (cur:Bs){x:UInt8}(y:UInt8)(r:Bs)(h:x≠34)(h':x=92):zt true cur (x::y::r)=zt true (cur++[x,y]) r:=by
 subst h'
 simp[zt]
theorem zNn (cur:Bs){x:UInt8}(r:Bs)(h:x≠34)(h':x=44):zt false cur (x::r)=(cur::(zt false [] r).1,(zt false [] r).2):=by
 subst h'
 cases r <;> simp[zt]
theorem zRc (cur:Bs){x:UInt8}(r:Bs)(h:x≠34)(h':x≠92):zt true cur (x::r)=zt true (cur++[x]) r:=by
 cases r <;> simp[zt,h,h']
theorem zP7 (cur:Bs){x:UInt8}(r:Bs)(h:x≠34)(h':x≠44):zt false cur (x::r)=zt false (cur++[x]) r:=by
 cases r <;> simp[zt,h,h']
def tight:UInt8->Bool:=([9,32]:Bs).contains
theorem drop_mid (pre cur rest:Bs):((pre++cur++rest).take (pre.length+cur.length)).drop pre.length=cur:=by
 rw[<- List.length_append,List.take_left',List.drop_left'] <;> simp
theorem split_loop (c:zC)(N:Nat){B:Nat}(k:KC)(s:Bs)(hs:s.length<4294967296)(h114:TrimOk c [9,32]):∀ (m:Nat) (rest:Bs),rest.length<=m->∀ (q:Bool) (pre cur:Bs) (v8:V) (acc:List Bs) (n:Nat) (fr:T V) (H:Heap) (Z:Tape),WF H->B<=H.size->s=pre++cur++rest->Own H B 1 v8 acc.length (acc.map V.str)->acc.length+rest.length<4294967296->rest.length<n ->
  fr.get 6=some (.str s)->fr.get 8=some v8->fr.get 9=some (.bool q)->fr.get 10=some (.int .i64 (pre.length:Int))->fr.get 11=some (.int .i64 ((pre.length+cur.length:Nat):Int)) ->
  ∃ v8' fro H' Z',Gr B H H'/\Own H' B 1 v8' (acc++(zt q cur rest).1.map (trimB tight)).length ((acc++(zt q cur rest).1.map (trimB tight)).map V.str)/\fro<=s.length/\s.drop fro=(zt q cur rest).2/\(acc++(zt q cur rest).1.map (trimB tight)).length<4294967296 /\
   zAZ (zBS c N) n ⟨fr,H⟩ Z k=k (.exit 0) ⟨T.s (T.s (T.s .leaf 6 (.str s)) 8 v8') 10 (.int .i64 (fro:Int)),H'⟩ Z':=by
 intro m
 induction m with
 | zero =>
  intro rest hm q pre cur v8 acc n fr H Z hw hB he ho hb hn f6 f8 f9 f10 f11
  have:rest=[]:=List.length_eq_zero_iff.1 (by omega)
  subst this
  obtain⟨n,rfl⟩:∃ j,n=j+1:=⟨n-1,by simp at hn;omega⟩
  refine⟨v8,pre.length,H,Z,Gr.refl hw,by simpa [zt] using ho,by rw[he];simp <;> omega,by rw[he];simp[zt],by simpa [zt] using hb,?_⟩
  have e1:decide (((pre.length+cur.length:Nat):Int)<(s.length:Int))=false:=decide_eq_false (by rw[he];simp)
  rw[zI]
  simp only[zBS,zA f6,zA f8,zA f9,zA f10,zA f11,zAF,zK,zN,e1,zAN,seqK]
 | succ m ih =>
  intro rest hm q pre cur v8 acc n fr H Z hw hB he ho hb hn f6 f8 f9 f10 f11
  obtain⟨n,rfl⟩:∃ j,n=j+1:=⟨n-1,by omega⟩
  cases rest with
  | nil =>
   refine⟨v8,pre.length,H,Z,Gr.refl hw,by simpa [zt] using ho,by rw[he];simp <;> omega,by rw[he];simp[zt],by simpa [zt] using hb,?_⟩
   have e1:decide (((pre.length+cur.length:Nat):Int)<(s.length:Int))=false:=decide_eq_false (by rw[he];simp)
   rw[zI]
   simp only[zBS,zA f6,zA f8,zA f9,zA f10,zA f11,zAF,zK,zN,e1,zAN,seqK]
  | cons x r =>
   have hlen:s.length=pre.length+cur.length+(r.length+1):=by rw[he];simp;omega
   have e1:decide (((pre.length+cur.length:Nat):Int)<(s.length:Int))=true:=decide_eq_true (by omega)
   have e2:zL [.str s,.int .i64 ((pre.length+cur.length:Nat):Int)]=some (.int .u8 (x.toNat:Int)):=zC6 (by
    rw[he,<- List.length_append,List.getElem?_append_right nl];simp)
   have e9:∀ (j:Nat),j<=s.length+1->wr .i64 ((j:Int)+Int.ofNat 1)=((j+1:Nat):Int):=fun j hj=>by
    rw[zEE (by simp;omega) (by simp;omega)];simp
   have h34:((x.toNat:Int) == Int.ofNat 34)=decide (x=34):=by
    rw[Bool.eq_iff_iff];simp[<- UInt8.toNat_inj];omega
   have h92:((x.toNat:Int) == Int.ofNat 92)=decide (x=92):=by
    rw[Bool.eq_iff_iff];simp[<- UInt8.toNat_inj];omega
   have h44:((x.toNat:Int) == Int.ofNat 44)=decide (x=44):=by
    rw[Bool.eq_iff_iff];simp[<- UInt8.toNat_inj];omega
   rw[zI]
   simp only[zBS,zA f6,zA f8,zA f9,zA f10,zA f11,zAF,zK,zN,e1,zBC,e2,zAv,h34]
   by_cases c34:x=34
   ·simp only[decide_eq_true c34,zBC,zCQ,zAa,zV,↓reduceIte,Nat.reduceEqDiff,ze,e9 _ (show pre.length+cur.length<=s.length+1 by omega),seqK]
    obtain⟨v8',fro,H',Z',k1,k2,k3,k4,k5,k6⟩:=ih r (by simp at hm;omega) (!q) pre (cur++[x]) v8 acc n (T.s (T.s (T.s (T.s (T.s (T.s (T.s (T.s .leaf 6 (.str s)) 8 v8) 9 (.bool (!q))) 10 (.int .i64 (pre.length:Int))) 11 (.int .i64 ((pre.length+cur.length:Nat):Int))) 24 (.int .i64 ((pre.length+cur.length:Nat):Int))) 25 (.int .i64 ((pre.length+cur.length+1:Nat):Int))) 11 (.int .i64 ((pre.length+cur.length+1:Nat):Int))) H Z hw hB (by rw[he];simp) ho (by simp at hb;omega) (by simp at hn;omega) (by simp[T.get_set]) (by simp[T.get_set]) (by simp[T.get_set]) (by simp[T.get_set]) (by simp[T.get_set];omega)
    have hf:zt q cur (x::r)=zt (!q) (cur++[x]) r:=zOB q cur r c34
    rw[hf]
    exact⟨v8',fro,H',Z',k1,k2,k3,k4,k5,k6⟩
   ·simp only[decide_eq_false c34,zAN]
    cases q with
    | true =>
     simp only[zCs,retK,zAU,e2,zK,zAv,h92,zS,cond_true]
     by_cases c92:x=92
     ·simp only[decide_eq_true c92,zBC,ze,e9 _ (show pre.length+cur.length<=s.length+1 by omega),zAa,zV,↓reduceIte,Nat.reduceEqDiff,e9 _ (show pre.length+cur.length+1<=s.length+1 by omega),seqK]
      cases r with
      | nil =>
       have hf:zt true cur (x::[])=([],cur++[x]):=zQP cur c34 c92
       rw[hf]
       obtain⟨n,rfl⟩:∃ j,n=j+1:=⟨n-1,by simp at hn;omega⟩
       refine⟨v8,pre.length,H,Z,Gr.refl hw,by simpa using ho,by omega,by rw[he];simp,by simp at hb ⊢;omega,?_⟩
       have e3:decide (((pre.length+cur.length+1+1:Nat):Int)<(s.length:Int))=false:=decide_eq_false (by simp at hlen;omega)
       rw[zI]
       simp only[zBS,zV,↓reduceIte,Nat.reduceEqDiff,zAF,zK,zN,e3,zAN,seqK]
      | cons y r' =>
       obtain⟨v8',fro,H',Z',k1,k2,k3,k4,k5,k6⟩:=ih r' (by simp at hm;omega) true pre (cur++[x,y]) v8 acc n (T.s (T.s (T.s (T.s (T.s (T.s (T.s (T.s .leaf 6 (.str s)) 8 v8) 9 (.bool true)) 10 (.int .i64 (pre.length:Int))) 11 (.int .i64 ((pre.length+cur.length+1:Nat):Int))) 24 (.int .i64 ((pre.length+cur.length+1:Nat):Int))) 25 (.int .i64 ((pre.length+cur.length+1+1:Nat):Int))) 11 (.int .i64 ((pre.length+cur.length+1+1:Nat):Int))) H Z hw hB (by rw[he];simp) ho (by simp at hb;omega) (by simp at hn;omega) (by simp[T.get_set]) (by simp[T.get_set]) (by simp[T.get_set]) (by simp[T.get_set]) (by simp[T.get_set];omega)
       have hf:zt true cur (x::y::r')=zt true (cur++[x,y]) r':=zQD cur y r' c34 c92
       rw[hf]
       exact⟨v8',fro,H',Z',k1,k2,k3,k4,k5,k6⟩
     ·simp only[decide_eq_false c92,zAN,zCQ,Bool.not_true,zBP,zK,zS,cond_false,zAa,zV,↓reduceIte,Nat.reduceEqDiff,ze,e9 _ (show pre.length+cur.length<=s.length+1 by omega),seqK]
      obtain⟨v8',fro,H',Z',k1,k2,k3,k4,k5,k6⟩:=ih r (by simp at hm;omega) true pre (cur++[x]) v8 acc n (T.s (T.s (T.s (T.s (T.s (T.s (T.s (T.s .leaf 6 (.str s)) 8 v8) 9 (.bool true)) 10 (.int .i64 (pre.length:Int))) 11 (.int .i64 ((pre.length+cur.length:Nat):Int))) 24 (.int .i64 ((pre.length+cur.length:Nat):Int))) 25 (.int .i64 ((pre.length+cur.length+1:Nat):Int))) 11 (.int .i64 ((pre.length+cur.length+1:Nat):Int))) H Z hw hB (by rw[he];simp) ho (by simp at hb;omega) (by simp at hn;omega) (by simp[T.get_set]) (by simp[T.get_set]) (by simp[T.get_set]) (by simp[T.get_set]) (by simp[T.get_set];omega)
      have hf:zt true cur (x::r)=zt true (cur++[x]) r:=zRc cur r c34 c92
      rw[hf]
      exact⟨v8',fro,H',Z',k1,k2,k3,k4,k5,k6⟩
    | false =>
     simp only[zBP,zK,zS,cond_false,zAN,zCQ,Bool.not_false,zCs,retK,zAU,e2,zAv,h44,cond_true]
     by_cases c44:x=44
     ·have e3:zw true true [.str s,.int .i64 (pre.length:Int),.int .i64 ((pre.length+cur.length:Nat):Int)]=some (.str cur):=by
       rw[zJ7 (by omega) (by omega),he,drop_mid]
      obtain⟨H1,p1,p2⟩:=h114 cur (by omega) H hw Z (fun v51 H52 Z53 =>
       effK (zP 1 1 [(.str [])] [(0,1)] [v51] H52 Z53) fun v54 H55 Z56 =>
       effK (zq 1 16 [v8,v54] H55 Z56) fun v57 H58 Z59 =>
       binK .add (.int .i64 ((pre.length+cur.length:Nat):Int)) (.int .i64 (.ofNat 1)) fun v60 =>
       zAa c N (seqK (fun st Z=>zAZ (zBS c N) n st Z k) k) ⟨(T.s (T.s (T.s (T.s (T.s (T.s (T.s .leaf 6 (.str s)) 8 v57) 9 (.bool false)) 11 (.int .i64 ((pre.length+cur.length:Nat):Int))) 60 (.int .i64 ((pre.length+cur.length:Nat):Int))) 61 v60) 10 v60),H58⟩ Z59)
      have hw1:=p1.wf
      have ho1:=ho.gr p1 hw nl
      have hG3:=Gr.new hw1 [V.str (trimB tight cur)] (1*1) false
      have ho3:=ho1.gr hG3 hw1 nl
      obtain⟨v57,H4,r1,r2,r3,r4⟩:=ho3.append (bytes:=16) hG3.wf (by have:=p1.size;have:=hG3.size;omega) 1 [.str (trimB tight cur)] (by omega) rfl rfl (by simp at hb;omega) (by simp at hb;omega) Z
      have e8:zq 1 16 [v8,.sl H1.size 0 1 1 none 1] (H1.new [.str (trimB tight cur)] (1*1) false) Z=some (v57,H4,Z.tail):=by
       have hl:(H1.new [V.str (trimB tight cur)] (1*1) false).loads H1.size 0 (1*1)=some [.str (trimB tight cur)]:=by
        rw[zC9 (zJM _ _ _ _) (by simp)];rfl
       simp only[zq,zGB,zB1,Nat.beq_refl,cond_true,hl,r1]
      have e7:zP 1 1 [(.str [])] [(0,1)] [.str (trimB (List.contains [9,32]) cur)] H1 Z=some (.sl H1.size 0 1 1 none 1,H1.new [.str (trimB tight cur)] (1*1) false,Z):=rfl
      obtain⟨v8',fro,H',Z',k1,k2,k3,k4,k5,k6⟩:=ih r (by simp at hm;omega) false (pre++cur++[x]) [] v57 (acc++[trimB tight cur]) n (T.s (T.s (T.s (T.s (T.s (T.s (T.s (T.s .leaf 6 (.str s)) 8 v57) 9 (.bool false)) 10 (.int .i64 ((pre.length+cur.length+1:Nat):Int))) 11 (.int .i64 ((pre.length+cur.length:Nat):Int))) 24 (.int .i64 ((pre.length+cur.length:Nat):Int))) 25 (.int .i64 ((pre.length+cur.length+1:Nat):Int))) 11 (.int .i64 ((pre.length+cur.length+1:Nat):Int))) H4 Z.tail r3.wf (by have:=p1.size;have:=hG3.size;have:=r3.size;omega) (by rw[he];simp) (by simpa using r2) (by simp at hb ⊢;omega) (by simp at hn;omega) (by simp[T.get_set]) (by simp[T.get_set]) (by simp[T.get_set]) (by simp[T.get_set];omega) (by simp[T.get_set];omega)
      have hf:zt false cur (x::r)=(cur::(zt false [] r).1,(zt false [] r).2):=zNn cur r c34 c44
      rw[hf]
      refine⟨v8',fro,H',Z',((p1.trans hG3 p1.size).weaken hB).trans (r3.trans k1 nl) nl,by simpa using k2,k3,k4,by simpa using k5,?_⟩
      simp only[decide_eq_true c44,zBC,e3,zK]
      rw[show bs [9,32]=[9,32]from rfl,p2,e7,zAU,e8,zAU]
      simp only[ze,e9 _ (show pre.length+cur.length<=s.length+1 by omega),zAa,zV,↓reduceIte,Nat.reduceEqDiff,seqK]
      exact k6
     ·simp only[decide_eq_false c44,zAN,zAa,zV,↓reduceIte,Nat.reduceEqDiff,ze,e9 _ (show pre.length+cur.length<=s.length+1 by omega),seqK]
      obtain⟨v8',fro,H',Z',k1,k2,k3,k4,k5,k6⟩:=ih r (by simp at hm;omega) false pre (cur++[x]) v8 acc n (T.s (T.s (T.s (T.s (T.s (T.s (T.s (T.s .leaf 6 (.str s)) 8 v8) 9 (.bool false)) 10 (.int .i64 (pre.length:Int))) 11 (.int .i64 ((pre.length+cur.length:Nat):Int))) 24 (.int .i64 ((pre.length+cur.length:Nat):Int))) 25 (.int .i64 ((pre.length+cur.length+1:Nat):Int))) 11 (.int .i64 ((pre.length+cur.length+1:Nat):Int))) H Z hw hB (by rw[he];simp) ho (by simp at hb;omega) (by simp at hn;omega) (by simp[T.get_set]) (by simp[T.get_set]) (by simp[T.get_set]) (by simp[T.get_set]) (by simp[T.get_set];omega)
      have hf:zt false cur (x::r)=zt false (cur++[x]) r:=zP7 cur r c34 c44
      rw[hf]
      exact⟨v8',fro,H',Z',k1,k2,k3,k4,k5,k6⟩
def zLR (s:Bs):List Bs:=((zt false [] s).1++[(zt false [] s).2]).map (trimB tight)
def zBw (name:Bs)(hs:List (Bs × Bs)):List Bs:=if 0<(sel name hs).length then zLR (getT name hs)else []
def GetOk (c:zC)(name:Bs)(hs:List (Bs × Bs)):Prop:=∀ (v:V) (H:Heap),WF H->Rd H 2 v hs.length (hcells hs)->∀ Z q,
  ∃ H' Z',Gr H.size H H'/\c zAS [v,.str name] H Z q=q (.tup [.str (getT name hs),.bool (decide (0<(sel name hs).length))]) H' Z'
theorem zO9 (c:zC)(N:Nat)(hN:9223372036854775807<=N)(name:Bs)(hs:List (Bs × Bs))(hj:(getT name hs).length<4294967296)(h78:GetOk c name hs)(h114:TrimOk c [9,32])
  (v:V) (H:Heap) (hw:WF H) (hr:Rd H 2 v hs.length (hcells hs)) (Z:Tape) (q:KV) :
  ∃ v' H' Z',Own H' H.size 1 v' (zBw name hs).length ((zBw name hs).map V.str)/\(zBw name hs).length<=4294967296/\Gr H.size H H'/\zC8 c N v (.str name) H Z q=q (.tup [v',.bool (decide (0<(sel name hs).length))]) H' Z':=by
 obtain⟨H1,Z1,k1,k2⟩:=h78 v H hw hr Z (fun v0 H1 Z2 =>
  zB (zH 0 [v0]) fun v3 =>
  zB (zH 1 [v0]) fun v4 =>
  unK .not v4 fun v5 =>
  zW v5
   (q (.tup [.nils,(.bool false)]) H1 Z2)
   (zAZ (zBS c N) N ⟨(T.s (T.s (T.s (T.s (T.s .leaf 6 v3) 8 .nils) 9 (.bool false)) 10 (.int .i64 (.ofNat 0))) 11 (.int .i64 (.ofNat 0))),H1⟩ Z2 (zX 0 (seqK (zFK c N q) (endK [(.t 4),(.t 5)] q)))))
 by_cases hp:0<(sel name hs).length
 ·obtain⟨v8,fro,H2,Z2,m1,m2,m3,m4,m5,m6⟩:=split_loop c N (B:=H.size) (zX 0 (seqK (zFK c N q) (endK [(.t 4),(.t 5)] q))) (getT name hs) hj h114 _ (getT name hs) nl false [] [] .nils [] N (T.s (T.s (T.s (T.s (T.s .leaf 6 (.str (getT name hs))) 8 .nils) 9 (.bool false)) 10 (.int .i64 0)) 11 (.int .i64 0)) H1 Z1 k1.wf k1.size rfl (Own.nil _ _ _) (by simpa using hj) (by omega) (by simp[T.get_set]) (by simp[T.get_set]) (by simp[T.get_set]) (by simp[T.get_set]) (by simp[T.get_set])
  obtain⟨H3,p1,p2⟩:=h114 (zt false [] (getT name hs)).2 (by
   have:((getT name hs).drop fro).length<=(getT name hs).length:=by rw[List.length_drop];omega
   rw[<- m4];omega) H2 m1.wf Z2 (fun v7 H8 Z9 =>
   effK (zP 1 1 [(.str [])] [(0,1)] [v7] H8 Z9) fun v10 H11 Z12 =>
   effK (zq 1 16 [v8,v10] H11 Z12) fun v13 H14 Z15 =>
   q (.tup [v13,(.bool true)]) H14 Z15)
  have ho1:=m2.gr p1 m1.wf nl
  have hG3:=Gr.new p1.wf [V.str (trimB tight (zt false [] (getT name hs)).2)] (1*1) false
  have ho3:=ho1.gr hG3 p1.wf nl
  obtain⟨v13,H4,r1,r2,r3,r4⟩:=ho3.append (bytes:=16) hG3.wf (by have:=k1.size;have:=m1.size;have:=p1.size;have:=hG3.size;omega) 1 [.str (trimB tight (zt false [] (getT name hs)).2)] (by omega) rfl rfl (by simp at m5 ⊢;omega) (by simp at m5 ⊢;omega) Z2
  have e8:zq 1 16 [v8,.sl H3.size 0 1 1 none 1] (H3.new [.str (trimB tight (zt false [] (getT name hs)).2)] (1*1) false) Z2=some (v13,H4,Z2.tail):=by
   have hl:(H3.new [V.str (trimB tight (zt false [] (getT name hs)).2)] (1*1) false).loads H3.size 0 (1*1)=some [.str (trimB tight (zt false [] (getT name hs)).2)]:=by
    rw[zC9 (zJM _ _ _ _) (by simp)];rfl
   simp only[zq,zGB,zB1,Nat.beq_refl,cond_true,hl,r1]
  have e7:zP 1 1 [(.str [])] [(0,1)] [.str (trimB (List.contains [9,32]) (zt false [] (getT name hs)).2)] H3 Z2=some (.sl H3.size 0 1 1 none 1,H3.new [.str (trimB tight (zt false [] (getT name hs)).2)] (1*1) false,Z2):=rfl
  have hT:zBw name hs=zLR (getT name hs):=if_pos hp
  have hP:zLR (getT name hs)=([]++(zt false [] (getT name hs)).1.map (trimB tight))++[trimB tight (zt false [] (getT name hs)).2]:=by simp[zLR]
  refine⟨v13,H4,Z2.tail,?_,?_,?_,?_⟩
  ·rw[hT,hP];simpa using r2
  ·rw[hT,hP,List.length_append];simp at m5 ⊢;omega
  ·have hB1:=k1.size
   have hB2:=m1.size
   have hB3:=p1.size
   exact k1.trans (m1.trans ((p1.weaken (by omega)).trans ((hG3.weaken (by omega)).trans r3 nl) nl) nl) nl
  ·have hst:zC8 c N v (.str name) H Z q=_:=k2
   rw[hst]
   simp only[zH,List.getElem?_cons_zero,List.getElem?_cons_succ,zK,zCQ,decide_eq_true hp,Bool.not_true,zAN]
   rw[show(V.int IntKind.i64 (Int.ofNat 0))=.int .i64 0 from rfl,m6]
   simp only[zX,Nat.beq_refl,cond_true,seqK,zFK,zV,↓reduceIte,Nat.reduceEqDiff]
   rw[zMc m3,m4,zK,show bs [9,32]=[9,32]from rfl,p2,e7,zAU,e8,zAU]
 ·have hT:zBw name hs=[]:=if_neg hp
  refine⟨.nils,H1,Z1,by rw[hT];exact Own.nil _ _ _,by rw[hT];simp,k1,?_⟩
  have hst:zC8 c N v (.str name) H Z q=_:=k2
  rw[hst]
  simp only[zH,List.getElem?_cons_zero,List.getElem?_cons_succ,zK,zCQ,decide_eq_false hp,Bool.not_false,zBC]
def blank:UInt8->Bool:=([9,10,12,13,32]:Bs).contains
def strip (s:Bs):Bs:=trimB blank s
abbrev StripOk (c:zC):Prop:=∀ (s:Bs),s.length<9223372036854775807->∀ (H:Heap),WF H->∀ Z q,∃ H',Gr H.size H H'/\c zBu [.str s] H Z q=q (.str (strip s)) H' Z
theorem zHB (p:UInt8->Bool)(s:Bs):(trimB p s).length<=s.length:=by
 unfold trimB
 have h1:=(List.dropWhile_sublist (l:=(s.reverse.dropWhile p).reverse) p).length_le
 have h2:=(List.dropWhile_sublist (l:=s.reverse) p).length_le
 simp only[List.length_reverse]at h1 h2
 omega
theorem zQb (c:zC)(N:Nat)(h114:TrimOk c [9,10,12,13,32])(s:Bs)(hs:s.length<9223372036854775807)(H:Heap)(hw:WF H)(Z:Tape)(q:KV):∃ H',Gr H.size H H'/\zMP c N (.str s) H Z q=q (.str (strip s)) H' Z:=by
 obtain⟨H',h1,h2⟩:=h114 s hs H hw Z (fun v0 H1 Z2=>q v0 H1 Z2)
 exact⟨H',h1,h2⟩
end Go.Am.X

