/- The abstract machine, printed functions of the program, and what they are shown to be. -/
import Derived.Test.YtejpgcemblankaaGreatDoorCKPSh1
import Derived.Test.YtejpgcemblankaaGreatDoorCKPM4
set_option linter.unusedSimpArgs false
set_option linter.unusedVariables false
set_option linter.unusedSectionVars false
namespace Go.Am.X
theorem u8_lt (x:UInt8):x.toNat<256:=x.toNat_lt
theorem s81_eval (c:zD)(N:Nat){id:Nat}{cells:List V}{x:UInt8}{b:Bool}{H:Heap}(hc:H.cells? id=some cells)(hx:cells[x.toNat]?=some (.bool b))(Z:Tape)(q:KV) :
  zFU c N (.ptr id 0) (.int .u8 (x.toNat:Int)) H Z q=q (.bool b) H Z:=by
 have e1:Nat.blt x.toNat 256=true:=by have:=u8_lt x;simp[Nat.blt];omega
 simp only[zFU,zf,zP,zPa,zBX,e1,cond_true,Nat.mul_one,Nat.zero_add,zN hc hx]
theorem trimL_loop (c:zD)(N:Nat){id:Nat}{H:Heap}(p:UInt8->Bool)(h171:∀ (x:UInt8) Z q,c zAY [.ptr id 0,.int .u8 (x.toNat:Int)] H Z q=q (.bool (p x)) H Z)(k:KC) :
  ∀ (s:List UInt8) (n:Nat) (fr:T V) (Z:Tape),s.length<n->fr.get 0=some (.str s)->fr.get 1=some (.ptr id 0)->zAP (zCN c N) n ⟨fr,H⟩ Z k=k (.exit 0) ⟨T.s .leaf 0 (.str (s.dropWhile p)),H⟩ Z:=by
 intro s
 induction s with
 | nil =>
  intro n fr Z hn h0 h1
  obtain⟨n,rfl⟩:∃ m,n=m+1:=⟨n-1,by simp at hn;omega⟩
  rw[zF]
  simp only[zCN,zA h0,zA h1,za,zP,ze]
  rfl
 | cons x s ih =>
  intro n fr Z hn h0 h1
  obtain⟨n,rfl⟩:∃ m,n=m+1:=⟨n-1,by simp at hn;omega⟩
  rw[zF]
  have e1:decide (Int.ofNat 0<((x::s).length:Int))=true:=decide_eq_true (by first | (simp;done) | (simp;omega) | omega)
  have e2:zb [.str (x::s),.int .i64 (.ofNat 0)]=some (.int .u8 (x.toNat:Int)):=rfl
  have e3:zAj true false [.str (x::s),.int .i64 (.ofNat 1)]=some (.str s):=zMi (s:=x::s) (i:=1) (by simp)
  simp only[zCN,zA h0,zA h1,za,zP,ze,e1,zBQ,e2,h171,zAN]
  cases hp:p x with
  | false=>simp[zQh,hp,seqK]
  | true =>
   simp only[Bool.not_true,zAb,e3,zP,seqK]
   rw[ih n _ Z (by simp at hn;omega) (by simp[T.get_set]) (by simp[T.get_set])]
   simp[hp]
theorem trimR_loop (c:zD)(N:Nat){id:Nat}{H:Heap}(p:UInt8->Bool)(h171:∀ (x:UInt8) Z q,c zAY [.ptr id 0,.int .u8 (x.toNat:Int)] H Z q=q (.bool (p x)) H Z)(k:KC) :
  ∀ (r:List UInt8) (n:Nat) (fr:T V) (Z:Tape),r.length<9223372036854775807->r.length<n->fr.get 0=some (.str r.reverse)->fr.get 1=some (.ptr id 0)->zAP (zCB c N) n ⟨fr,H⟩ Z k=k (.exit 0) ⟨T.s .leaf 0 (.str (r.dropWhile p).reverse),H⟩ Z:=by
 intro r
 induction r with
 | nil =>
  intro n fr Z hb hn h0 h1
  obtain⟨n,rfl⟩:∃ m,n=m+1:=⟨n-1,by simp at hn;omega⟩
  rw[zF]
  simp only[zCB,zA h0,zA h1,za,zP,ze]
  rfl
 | cons x s ih =>
  intro n fr Z hb hn h0 h1
  obtain⟨n,rfl⟩:∃ m,n=m+1:=⟨n-1,by simp at hn;omega⟩
  rw[zF]
  have hlen:((x::s).reverse.length:Int)=(s.length:Int)+1:=by simp
  have e1:decide (Int.ofNat 0<((x::s).reverse.length:Int))=true:=decide_eq_true (by rw[hlen];first | (simp;done) | (simp;omega))
  have e0:wr .i64 (((x::s).reverse.length:Int)-Int.ofNat 1)=(s.length:Int):=by
   rw[hlen,zGB (by first | (simp;done) | (simp;omega) | omega) (by simp at hb;first | (simp;done) | (simp;omega) | omega)]
   simp
  have e2:zb [.str (x::s).reverse,.int .i64 (s.length:Int)]=some (.int .u8 (x.toNat:Int)):=zEM (by simp)
  have e3:zAj false true [.str (x::s).reverse,.int .i64 (s.length:Int)]=some (.str s.reverse):=by
   rw[zRi (by simp)]
   simp
  simp only[zCB,zA h0,zA h1,za,zP,ze,e1,zBQ,zAK,e0,e2,h171,zAN]
  cases hp:p x with
  | false=>simp[zQh,hp,seqK]
  | true =>
   simp only[Bool.not_true,zAb,e3,zP,seqK]
   rw[ih n _ Z (by simp at hb;omega) (by simp at hn;omega) (by simp[T.get_set]) (by simp[T.get_set])]
   simp[hp]
def mark (cells:List V)(l:List UInt8):List V:=l.foldl (fun cells x=>cells.set x.toNat (.bool true)) cells
theorem zPJ (l:List UInt8):∀ cells:List V,(mark cells l).length=cells.length:=by
 induction l with
 | nil=>intro cells;rfl
 | cons x l ih=>intro cells;exact(ih _).trans (by simp)
theorem mark_get (l:List UInt8):∀ (cells:List V) (x:UInt8),cells.length=256->(∀ i,i<256->∃ b,cells[i]?=some (.bool b))->∀ b,cells[x.toNat]?=some (.bool b)->(mark cells l)[x.toNat]?=some (.bool (b || l.contains x)):=by
 induction l with
 | nil=>intro cells x _ _ b hb;simpa [mark] using hb
 | cons y l ih =>
  intro cells x hl hc b hb
  have hx:=u8_lt x
  have hy:=u8_lt y
  have:=ih (cells.set y.toNat (.bool true)) x (by simpa using hl) (fun i hi=>by
   by_cases e:y.toNat=i
   ·exact⟨true,by rw[e];simp[hl,hi]⟩
   ·obtain⟨b,hb⟩:=hc i hi
    exact⟨b,by rw[List.getElem?_set_ne e];exact hb⟩) (if x=y then true else b) (by
   by_cases e:x=y
   ·subst e;simp[hl,hx]
   ·rw[if_neg e,List.getElem?_set_ne (fun h=>e (UInt8.toNat_inj.1 h.symm))];exact hb)
  rw[show mark cells (y::l)=mark (cells.set y.toNat (.bool true)) l from rfl,this]
  by_cases e:x=y
  ·simp[e]
  ·simp[e]
theorem set_loop (c:zD)(N:Nat){B id:Nat}(k:KC)(l:List UInt8):∀ (pre:List UInt8) (cells:List V) (n:Nat) (fr:T V) (H:Heap) (Z:Tape),WF H->Blk H B id cells->cells.length=256->(∀ x ∈ l,x.toNat<128)->(pre++l).length<9223372036854775807->l.length<n ->
  fr.get 0=some (.str (pre++l))->fr.get 2=some (.ptr id 0)->fr.get 4=some (.int .i64 (pre.length:Int)) ->
  ∃ H',Blk H' B id (mark cells l)/\Gr B H H'/\H'.size=H.size/\zAP (zCh c N) n ⟨fr,H⟩ Z k=k (.exit 0) ⟨T.s .leaf 2 (.ptr id 0),H'⟩ Z:=by
 induction l with
 | nil =>
  intro pre cells n fr H Z hw hB hl hs hb hn h0 h2 h4
  obtain⟨n,rfl⟩:∃ m,n=m+1:=⟨n-1,by simp at hn;omega⟩
  refine⟨H,hB,Gr.refl hw,rfl,?_⟩
  rw[zF]
  simp only[zCh,zA h0,zA h2,zA h4,za,zP,zL,List.append_nil]
  simp[zQh,seqK]
 | cons x l ih =>
  intro pre cells n fr H Z hw hB hl hs hb hn h0 h2 h4
  obtain⟨n,rfl⟩:∃ m,n=m+1:=⟨n-1,by simp at hn;omega⟩
  have hx:=hs x (by simp)
  obtain⟨H1,k1,k2,k3,k4⟩:=hB.eStore hw x.toNat (.bool true) 1 rfl (by omega) rfl Z
  have hcells:cells.take x.toNat++(V.bool true).cells++cells.drop (x.toNat+1)=cells.set x.toNat (.bool true):=by
   rw[List.set_eq_take_append_cons_drop,if_pos (by omega)]
   simp[V.cells]
  rw[hcells]at k2
  have e1:decide ((pre.length:Int)<((pre++x::l).length:Int))=true:=decide_eq_true (by first | (simp;done) | (simp;omega) | omega)
  have e2:zb [.str (pre++x::l),.int .i64 (pre.length:Int)]=some (.int .u8 (x.toNat:Int)):=zEM (by simp)
  have e3:decide (Int.ofNat 128<=(x.toNat:Int))=false:=decide_eq_false (by first | (simp;done) | (simp;omega) | omega)
  have e4:zPa 256 1 [.ptr id 0,.int .u8 (x.toNat:Int)]=some (.ptr id x.toNat):=by
   have:Nat.blt x.toNat 256=true:=by simp[Nat.blt];omega
   simp[zPa,zBX,this]
  have e5:wr .i64 ((pre.length:Int)+Int.ofNat 1)=((pre++[x]).length:Int):=by
   rw[zGB (by first | (simp;done) | (simp;omega) | omega) (by simp at hb;first | (simp;done) | (simp;omega) | omega)]
   simp
  obtain⟨H',m1,m2,m3,m4⟩:=ih (pre++[x]) (cells.set x.toNat (.bool true)) n (T.s (T.s (T.s (T.s (T.s (T.s .leaf 0 (.str (pre++x::l))) 2 (.ptr id 0)) 4 (.int .i64 (pre.length:Int))) 10 (.int .i64 (pre.length:Int))) 11 (.int .i64 ((pre++[x]).length:Int))) 4 (.int .i64 ((pre++[x]).length:Int))) H1 Z k3.wf k2 (by simpa using hl) (fun y hy=>hs y (by simp[hy])) (by simpa using hb) (by simp at hn;omega) (by simp[T.get_set,List.append_assoc]) (by simp[T.get_set]) (by simp[T.get_set])
  refine⟨H',m1,k3.trans m2 nl,by omega,?_⟩
  rw[zF]
  simp only[zCh,zA h0,zA h2,zA h4,za,zP,zL,e1,zBQ,e2,zAC,e3,zAb,e4,k1,zA4,zS,e5,seqK,m4]
theorem zGd (c:zD)(N:Nat)(hN:9223372036854775807<=N)(l:List UInt8)(hs:∀ x ∈ l,x.toNat<128)(hb:l.length<9223372036854775807)(H:Heap)(hw:WF H)(Z:Tape)(q:KV) :
  ∃ H',Gr H.size H H'/\zDb c N (.str l) H Z q=q (.tup [.agg (mark (repl 256 [.bool false]) l),.bool true]) H' Z:=by
 have hr:(repl 256 [V.bool false]).length=256:=by rw[zDE];rfl
 have hB:=Blk.new H (repl 256 [V.bool false]) (repl 256 [V.bool false]).length true nl
 have hG:=Gr.new hw (repl 256 [V.bool false]) (repl 256 [V.bool false]).length true
 obtain⟨H1,k1,k2,k3,k4⟩:=set_loop c N (zU 0 (seqK (zEV c N q) (endK [(.cell 2 (some 256)),(.t 3)] q))) l [] _ N (T.s (T.s (T.s .leaf 0 (.str l)) 2 (.ptr H.size 0)) 4 (.int .i64 0)) _ Z hG.wf hB hr hs (by simpa using hb) (by omega) (by simp[T.get_set]) (by simp[T.get_set]) (by simp[T.get_set])
 have hm:(mark (repl 256 [V.bool false]) l).length=256:=by rw[zPJ,hr]
 have hsc:∀ (cells:List V),cells.all V.scal=true->(mark cells l).all V.scal=true:=by
  intro cells
  have:∀ (l:List UInt8) (cells:List V),cells.all V.scal=true->(mark cells l).all V.scal=true:=by
   intro l
   induction l with
   | nil=>intro cells h;exact h
   | cons x l ih =>
    intro cells h
    refine ih _ ?_
    rw[List.all_eq_true]at h ⊢
    intro v hv
    rcases List.mem_or_eq_of_mem_set hv with hv | rfl
    ·exact h v hv
    ·rfl
  exact this l cells
 obtain⟨H2,m1,m2,m3,m4⟩:=k1.eStore k2.wf 0 (.agg (mark (repl 256 [.bool false]) l)) 256 hm (by rw[hm];omega) (hsc _ (by rw[zQ9,List.all_eq_true];intro v hv;rw[List.eq_of_mem_replicate hv];rfl)) Z
 have hcells:(mark (repl 256 [V.bool false]) l).take 0++(V.agg (mark (repl 256 [.bool false]) l)).cells++(mark (repl 256 [V.bool false]) l).drop (0+256)=mark (repl 256 [.bool false]) l:=by
  rw[List.take_zero,List.nil_append,V.cells,List.drop_eq_nil_of_le (by rw[hm];omega),List.append_nil]
 rw[hcells]at m2
 have htake:((mark (repl 256 [V.bool false]) l).drop 0).take 256=mark (repl 256 [.bool false]) l:=by
  rw[List.drop_zero,List.take_of_length_le (by rw[hm];omega)]
 refine⟨H2,hG.trans (k2.trans m3 nl) nl,?_⟩
 have e1:zAp 256 [.ptr H.size 0] H1=some (.agg (mark (repl 256 [.bool false]) l)):=by
  rw[zAm k1.cells (by rw[hm];omega),htake]
 have e2:zAp 256 [.ptr H.size 0] H2=some (.agg (mark (repl 256 [.bool false]) l)):=by
  rw[zAm m2.cells (by rw[hm];omega),htake]
 simp only[zDb,zB6,zA4]
 rw[show(V.int IntKind.i64 (Int.ofNat 0))=.int .i64 0 from rfl,k4]
 simp only[zU,Nat.beq_refl,cond_true,seqK,zEV]
 simp only[zO,↓reduceIte,Nat.reduceEqDiff]
 rw[e1,zP,m1,zA4]
 simp only[results,zLs,zRU,T.get_set,zG5,zOK]
 simp only[show(3:Nat)=2 ↔ False by decide,if_true,if_false]
 simp[e2,zB]
def trimB (p:UInt8->Bool)(s:List UInt8):List UInt8:=((s.reverse.dropWhile p).reverse).dropWhile p
theorem zPf (c:zD)(N:Nat)(hN:9223372036854775807<=N)(cut s:List UInt8)(hc2:2<=cut.length)(hc3:cut.length<9223372036854775807)(hs:s.length<9223372036854775807)(H:Heap)(hw:WF H)
  (h142:∀ (H:Heap),WF H->∀ Z q,∃ H',Gr H.size H H'/\c zAe [.str cut] H Z q=q (.tup [.agg (mark (repl 256 [.bool false]) cut),.bool true]) H' Z)
  (h143:∀ (s:List UInt8) (id:Nat) (H:Heap),s.length<9223372036854775807->H.cells? id=some (mark (repl 256 [.bool false]) cut)->∀ Z q,c zCG [.str s,.ptr id 0] H Z q=q (.str (s.dropWhile cut.contains)) H Z)
  (h144:∀ (s:List UInt8) (id:Nat) (H:Heap),s.length<9223372036854775807->H.cells? id=some (mark (repl 256 [.bool false]) cut)->∀ Z q,c zB2 [.str s,.ptr id 0] H Z q=q (.str (s.reverse.dropWhile cut.contains).reverse) H Z)
  (Z:Tape) (q:KV):∃ H',Gr H.size H H'/\zG0 c N (.str s) (.str cut) H Z q=q (.str (trimB cut.contains s)) H' Z:=by
 cases s with
 | nil =>
  refine⟨H,Gr.refl hw,?_⟩
  simp[zG0,zw,zI0,zP,zo,zCy,zBQ,trimB,gK]
 | cons x s =>
  obtain⟨H1,k1,k2⟩:=h142 H hw Z (fun v28 H29 Z30 =>
   zB (zG 0 [v28]) fun v31 =>
   zB (zG 1 [v28]) fun v32 =>
   effK (zB6 (repl 256 [(.bool false)]) [] H29 Z30) fun v33 H34 Z35 =>
   effK (eStore 256 [v33,v31] H34 Z35) fun v36 H37 Z38 =>
   zY v32
    (c zB2 [.str (x::s),v33] H37 Z38 fun v39 H40 Z41 =>
   c zCG [v39,v33] H40 Z41 fun v42 H43 Z44 =>
   q v42 H43 Z44)
    (c zDk [.str (x::s),.str cut] H37 Z38 fun v45 H46 Z47 =>
   c zEF [v45,.str cut] H46 Z47 fun v48 H49 Z50 =>
   q v48 H49 Z50))
  have hr:(repl 256 [V.bool false]).length=256:=by rw[zDE];rfl
  have hm:(mark (repl 256 [V.bool false]) cut).length=256:=by rw[zPJ,hr]
  have hB:=Blk.new H1 (repl 256 [V.bool false]) (repl 256 [V.bool false]).length true nl
  have hG:=Gr.new k1.wf (repl 256 [V.bool false]) (repl 256 [V.bool false]).length true
  have hsc:(mark (repl 256 [V.bool false]) cut).all V.scal=true:=by
   have:∀ (l:List UInt8) (cells:List V),cells.all V.scal=true->(mark cells l).all V.scal=true:=by
    intro l
    induction l with
    | nil=>intro cells h;exact h
    | cons x l ih =>
     intro cells h
     refine ih _ ?_
     rw[List.all_eq_true]at h ⊢
     intro v hv
     rcases List.mem_or_eq_of_mem_set hv with hv | rfl
     ·exact h v hv
     ·rfl
   exact this cut _ (by rw[zQ9,List.all_eq_true];intro v hv;rw[List.eq_of_mem_replicate hv];rfl)
  obtain⟨H2,m1,m2,m3,m4⟩:=hB.eStore hG.wf 0 (.agg (mark (repl 256 [.bool false]) cut)) 256 hm (by rw[hr];omega) hsc Z
  have hcells:(repl 256 [V.bool false]).take 0++(V.agg (mark (repl 256 [.bool false]) cut)).cells++(repl 256 [V.bool false]).drop (0+256)=mark (repl 256 [.bool false]) cut:=by
   rw[List.take_zero,List.nil_append,V.cells,List.drop_eq_nil_of_le (by rw[hr];omega),List.append_nil]
  rw[hcells]at m2
  refine⟨H2,k1.trans (hG.trans m3 nl) k1.size,?_⟩
  have e1:((x::s) ==([]:List UInt8))=false:=rfl
  have e2:(cut ==([]:List UInt8))=false:=by cases cut with
   | nil=>simp at hc2
   | cons _ _=>rfl
  have e3:((cut.length:Int) == Int.ofNat 1)=false:=by simp;omega
  simp only[zG0,zw,zI0,zP,e1,gK,retK,zA4,e2,beq_self_eq_true,cond_true,zQ,cond_false,zAb,za,zZ,e3,Bool.false_eq_true,show(false == true)=false from rfl]
  rw[k2]
  simp only[zG,List.getElem?_cons_zero,List.getElem?_cons_succ,zP,zB6,zA4,m1,zBQ]
  rw[h144 _ _ _ hs m2.cells,h143 _ _ _ (by
   have:=(List.dropWhile_sublist (l:=(x::s).reverse) cut.contains).length_le
   simp only[List.length_reverse]at this ⊢
   omega) m2.cells]
  rfl
def lowB (x:UInt8):UInt8:=if 65<=x.toNat/\x.toNat<=90 then UInt8.ofNat (x.toNat+32)else x
def lower (s:List UInt8):List UInt8:=s.map lowB
def bv (s:List UInt8):List V:=s.map fun c=>.int .u8 (c.toNat:Int)
theorem bytesOf_bv (s:List UInt8):bytesOf (bv s)=some s:=by
 induction s with
 | nil=>rfl
 | cons x s ih=>simp only[bv,List.map_cons,bytesOf]at ih ⊢;rw[ih];simp
theorem bv_length (s:List UInt8):(bv s).length=s.length:=by simp[bv]
theorem s69_eval (c:zD)(N:Nat)(x:UInt8)(H:Heap)(Z:Tape)(q:KV):zEv c N (.int .u8 (x.toNat:Int)) H Z q=q (.int .u8 ((lowB x).toNat:Int)) H Z:=by
 have hx:=u8_lt x
 by_cases h1:65<=x.toNat
 ·have e1:decide (Int.ofNat 65<=(x.toNat:Int))=true:=decide_eq_true (by first | (simp;done) | (simp;omega) | omega)
  by_cases h2:x.toNat<=90
  ·have e2:decide ((x.toNat:Int)<=Int.ofNat 90)=true:=decide_eq_true (by first | (simp;done) | (simp;omega) | omega)
   have e3:wr .u8 ((x.toNat:Int)+Int.ofNat 32)=((lowB x).toNat:Int):=by
    rw[zRF]
    simp only[lowB,h1,h2,and_self,if_true,IntKind.wrap,IntKind.signed,IntKind.bits]
    simp <;> omega
   simp only[zEv,zAC,e1,zBE,zA4,retK,zAB,e2,zP,zQ,cond_true,zBQ,zS,e3,zD3]
   simp only[zO,↓reduceIte,Nat.reduceEqDiff]
  ·have e2:decide ((x.toNat:Int)<=Int.ofNat 90)=false:=decide_eq_false (by first | (simp;done) | (simp;omega) | omega)
   have e3:lowB x=x:=by simp[lowB,h2]
   simp only[zEv,zAC,e1,zBE,zA4,retK,zAB,e2,zP,zQ,cond_true,zAb,zD3]
   simp only[zO,↓reduceIte,Nat.reduceEqDiff]
   rw[e3]
 ·have e1:decide (Int.ofNat 65<=(x.toNat:Int))=false:=decide_eq_false (by first | (simp;done) | (simp;omega) | omega)
  have e3:lowB x=x:=by simp[lowB,h1]
  simp only[zEv,zAC,e1,zq,zP,zQ,cond_false,zAb,zD3]
  simp only[zO,↓reduceIte,Nat.reduceEqDiff]
  rw[e3]
theorem low_loop (c:zD)(N:Nat){B id e m:Nat}(k:KC)(h121:∀ (x:UInt8) H Z q,c zDY [.int .u8 (x.toNat:Int)] H Z q=q (.int .u8 ((lowB x).toNat:Int)) H Z)(l:List UInt8) :
  ∀ (pre:List UInt8) (n:Nat) (fr:T V) (H:Heap) (Z:Tape),WF H->Blk H B id (bv (lower pre++l))->(pre++l).length=m->m<9223372036854775807->l.length<n ->
  fr.get 1=some (.func zDY [] [])->fr.get 5=some (.sl id 0 m m (some e) 1)->fr.get 10=some (.sl id 0 m m (some e) 1)->fr.get 11=some (.int .i64 (m:Int))->fr.get 12=some (.int .i64 (pre.length:Int)) ->
  ∃ H',Blk H' B id (bv (lower (pre++l)))/\Gr B H H'/\zAP (zGT c N) n ⟨fr,H⟩ Z k=k (.exit 0) ⟨T.s .leaf 5 (.sl id 0 m m (some e) 1),H'⟩ Z:=by
 induction l with
 | nil =>
  intro pre n fr H Z hw hB hm hmb hn h1 h5 h10 h11 h12
  obtain⟨n,rfl⟩:∃ j,n=j+1:=⟨n-1,by simp at hn;omega⟩
  refine⟨H,by simpa using hB,Gr.refl hw,?_⟩
  have e1:decide ((pre.length:Int)<(m:Int))=false:=decide_eq_false (by simp at hm;omega)
  rw[zF]
  simp only[zGT,zA h1,zA h5,zA h10,zA h11,zA h12,zL,e1,zAb,seqK]
 | cons x l ih =>
  intro pre n fr H Z hw hB hm hmb hn h1 h5 h10 h11 h12
  obtain⟨n,rfl⟩:∃ j,n=j+1:=⟨n-1,by simp at hn;omega⟩
  have hlt:pre.length<m:=by simp at hm;omega
  have e1:decide ((pre.length:Int)<(m:Int))=true:=decide_eq_true (by omega)
  have e2:zAS 1 [.sl id 0 m m (some e) 1,.int .i64 (pre.length:Int)]=some (.ptr id pre.length):=by
   have:Nat.blt pre.length m=true:=by simp[Nat.blt];omega
   simp[zAS,zBX,this]
  have e3:zH [.ptr id pre.length] H=some (.int .u8 (x.toNat:Int)):=by
   refine zN hB.cells ?_
   have:pre.length=(bv (lower pre)).length:=by simp[bv,lower]
   simp[bv,lower]
  obtain⟨H1,k1,k2,k3,k4⟩:=hB.eStore hw pre.length (.int .u8 ((lowB x).toNat:Int)) 1 rfl (by simp[bv,lower]) rfl Z
  have hcells:(bv (lower pre++x::l)).take pre.length++(V.int .u8 ((lowB x).toNat:Int)).cells++(bv (lower pre++x::l)).drop (pre.length+1)=bv (lower (pre++[x])++l):=by
   have hl:pre.length=(lower pre).length:=by simp[lower]
   simp only[bv,List.map_append,List.map_cons]
   rw[List.take_append_of_le_length (by simp[lower]),List.take_of_length_le (by simp[lower]),List.drop_append]
   simp[lower,V.cells]
  rw[hcells]at k2
  have e5:wr .i64 ((pre.length:Int)+Int.ofNat 1)=((pre++[x]).length:Int):=by
   rw[zGB (by first | (simp;done) | (simp;omega) | omega) (by first | (simp;done) | (simp;omega) | omega)]
   simp
  obtain⟨H',m1,m2,m3⟩:=ih (pre++[x]) n (T.s (T.s (T.s (T.s (T.s (T.s (T.s .leaf 1 (.func zDY [] [])) 5 (.sl id 0 m m (some e) 1)) 10 (.sl id 0 m m (some e) 1)) 11 (.int .i64 (m:Int))) 12 (.int .i64 (pre.length:Int))) 23 (.int .i64 ((pre++[x]).length:Int))) 12 (.int .i64 ((pre++[x]).length:Int))) H1 Z k3.wf k2 (by simpa using hm) hmb (by simp at hn;omega) (by simp[T.get_set]) (by simp[T.get_set]) (by simp[T.get_set]) (by simp[T.get_set]) (by simp[T.get_set])
  refine⟨H',by simpa using m1,k3.trans m2 nl,?_⟩
  rw[zF]
  simp only[zGT,zA h1,zA h5,zA h10,zA h11,zA h12,zL,e1,zBQ,e2,zP,e3,opK,List.nil_append,List.append_nil,h121,k1,zA4,zS,e5,seqK,m3]
theorem zPi (c:zD)(N:Nat)(hN:9223372036854775807<=N)(s:List UInt8)(hs:s.length<=140737488355328)(H:Heap)(hw:WF H)
  (h121:∀ (x:UInt8) H Z q,c zDY [.int .u8 (x.toNat:Int)] H Z q=q (.int .u8 ((lowB x).toNat:Int)) H Z) (Z:Tape) (q:KV) :
  ∃ H' Z',Gr H.size H H'/\zJA c N (.str s) (.func zDY [] []) H Z q=q (.str (lower s)) H' Z':=by
 have hB:=Blk.new H (bv s) ((s.length+spare s.length (Z 0))*1) false (by rw[bv_length];omega)
 have hG:=Gr.new hw (bv s) ((s.length+spare s.length (Z 0))*1) false
 obtain⟨H',m1,m2,m3⟩:=low_loop c N (e:=spare s.length (Z 0)) (m:=s.length) (zU 0 (seqK (zIz c N q) (endK [(.t 4)] q))) h121 s [] N (T.s (T.s (T.s (T.s (T.s .leaf 1 (.func zDY [] [])) 5 (.sl H.size 0 s.length s.length (some (spare s.length (Z 0))) 1)) 10 (.sl H.size 0 s.length s.length (some (spare s.length (Z 0))) 1)) 11 (.int .i64 (s.length:Int))) 12 (.int .i64 0)) _ Z.tail hG.wf (by simpa [lower] using hB) (by simp) (by omega) (by omega) (by simp[T.get_set]) (by simp[T.get_set]) (by simp[T.get_set]) (by simp[T.get_set]) (by simp[T.get_set])
 refine⟨H',Z.tail,hG.trans m2 nl,?_⟩
 have e1:zG7 [.str s] H Z=some (.sl H.size 0 s.length s.length (some (spare s.length (Z 0))) 1,H.new (bv s) ((s.length+spare s.length (Z 0))*1) false,Z.tail):=by
  simp only[zG7,Nat.ble_eq_true_of_le hs,cond_true,fresh]
  rfl
 have e2:pLen [.sl H.size 0 s.length s.length (some (spare s.length (Z 0))) 1]=some (.int .i64 (s.length:Int)):=rfl
 have e3:zN7 [.sl H.size 0 s.length s.length (some (spare s.length (Z 0))) 1] H'=some (.str (lower s)):=by
  have hl:(bv (lower ([]++s))).length=s.length:=by simp[bv,lower]
  simp only[zN7,zCU m1.cells (show 0+s.length<=_ by rw[hl];omega),List.drop_zero]
  rw[List.take_of_length_le (by rw[hl];omega)]
  simp[bytesOf_bv]
 simp only[zJA,e1,zA4,e2,zP]
 rw[show(V.int IntKind.i64 (Int.ofNat 0))=.int .i64 0 from rfl,m3]
 simp only[zU,Nat.beq_refl,cond_true,seqK,zIz]
 simp only[zO,↓reduceIte,Nat.reduceEqDiff]
 rw[e3,zP]
def zD4:Int:=9223372036854775807
def zMq (n:Int)(d:Int):Int:=if(zD4-d).tdiv 10<n then zD4 else n*10+d
def intL:List UInt8->Int->Option Int
 | [],n=>some n
 | x::l,n=>if 48<=x.toNat/\x.toNat<=57 then intL l (zMq n ((x.toNat:Int)-48))else none
theorem zPo {n d:Int}(h0:0<=n)(h1:n<=zD4)(hd:0<=d)(hd':d<=9):0<=zMq n d/\zMq n d<=zD4:=by
 unfold zMq zD4 at *
 split
 ·omega
 ·rename_i h
  rw[Int.tdiv_eq_ediv_of_nonneg (by omega)]at h
  omega
theorem int_loop (c:zD)(N:Nat)(k:KC)(H:Heap)(s:List UInt8)(hs:s.length<9223372036854775807)(l:List UInt8):∀ (pre:List UInt8) (v:Int) (n:Nat) (fr:T V) (Z:Tape),s=pre++l->0<=v->v<=zD4->l.length<n ->
  fr.get 0=some (.str s)->fr.get 4=some (.int .i64 v)->fr.get 9=some (.int .i64 (s.length:Int))->fr.get 10=some (.int .i64 (pre.length:Int)) ->
  zAP (zI8 c N) n ⟨fr,H⟩ Z k=match intL l v with
   | some m=>k (.exit 0) ⟨T.s (T.s .leaf 0 (.str s)) 4 (.int .i64 m),H⟩ Z
   | none=>k .ret ⟨T.s (T.s .leaf 2 (.int .i64 (.ofNat 0))) 3 (.bool false),H⟩ Z:=by
 induction l with
 | nil =>
  intro pre v n fr Z he h0 h1 hn f0 f4 f9 f10
  obtain⟨n,rfl⟩:∃ j,n=j+1:=⟨n-1,by simp at hn;omega⟩
  have e1:decide ((pre.length:Int)<(s.length:Int))=false:=decide_eq_false (by rw[he];simp)
  rw[zF]
  simp only[zI8,zA f0,zA f4,zA f9,zA f10,zL,e1,zAb,seqK,intL]
 | cons x l ih =>
  intro pre v n fr Z he h0 h1 hn f0 f4 f9 f10
  obtain⟨n,rfl⟩:∃ j,n=j+1:=⟨n-1,by simp at hn;omega⟩
  have e1:decide ((pre.length:Int)<(s.length:Int))=true:=decide_eq_true (by rw[he];first | (simp;done) | (simp;omega))
  have e2:zb [.str s,.int .i64 (pre.length:Int)]=some (.int .u8 (x.toNat:Int)):=zEM (by rw[he];simp)
  have hx:=u8_lt x
  rw[zF]
  simp only[zI8,zA f0,zA f4,zA f9,zA f10,zL,e1,zBQ,e2,zP]
  by_cases h48:48<=x.toNat
  ·have e3:decide ((x.toNat:Int)<Int.ofNat 48)=false:=decide_eq_false (by first | (simp;done) | (simp;omega) | omega)
   by_cases h57:x.toNat<=57
   ·have e4:decide (Int.ofNat 57<(x.toNat:Int))=false:=decide_eq_false (by first | (simp;done) | (simp;omega) | omega)
    have e5:wr .u8 ((x.toNat:Int)-Int.ofNat 48)=(x.toNat:Int)-48:=by
     rw[zRF];simp[IntKind.wrap,IntKind.signed,IntKind.bits];omega
    have e6:wr .i64 ((x.toNat:Int)-48)=(x.toNat:Int)-48:=zGB (by omega) (by omega)
    have e7:wr .i64 (Int.ofNat 9223372036854775807-((x.toNat:Int)-48))=zD4-((x.toNat:Int)-48):=by
     rw[zGB (by first | (simp;done) | (simp;omega) | omega) (by first | (simp;done) | (simp;omega) | omega)];rfl
    have e8:wr .i64 ((zD4-((x.toNat:Int)-48)).tdiv (Int.ofNat 10))=(zD4-((x.toNat:Int)-48)).tdiv 10:=by
     have:(zD4-((x.toNat:Int)-48)).tdiv (Int.ofNat 10)=(zD4-((x.toNat:Int)-48)).tdiv 10:=rfl
     rw[this,Int.tdiv_eq_ediv_of_nonneg (by unfold zD4;omega)]
     unfold zD4
     exact zGB (by omega) (by omega)
    have e9:wr .i64 ((pre.length:Int)+Int.ofNat 1)=((pre++[x]).length:Int):=by
     have:s.length=pre.length+(l.length+1):=by rw[he];simp
     rw[zGB (by first | (simp;done) | (simp;omega) | omega) (by first | (simp;done) | (simp;omega) | omega)]
     simp
    have hstep:=zPo h0 h1 (d:=(x.toNat:Int)-48) (by omega) (by omega)
    have hI:intL (x::l) v=intL l (zMq v ((x.toNat:Int)-48)):=by simp only[intL,h48,h57,and_self,if_true]
    simp only[zL,e3,zAr,zA4,retK,ze,e4,zP,zQ,cond_false,zAb,zAK,e5,zTR,e6,e7]
    rw[bin_quo _ _ _ (by decide)]
    simp only[e8,ze]
    by_cases hq:(zD4-((x.toNat:Int)-48)).tdiv 10<v
    ·have hI2:zMq v ((x.toNat:Int)-48)=zD4:=by simp only[zMq,hq,if_true]
     rw[decide_eq_true hq]
     simp only[zBQ,zJB]
     simp only[zO,↓reduceIte,Nat.reduceEqDiff]
     simp only[zS,e9,seqK]
     rw[ih (pre++[x]) zD4 n _ Z (by rw[he];simp) (by unfold zD4;omega) (Int.le_refl _) (by simp at hn;omega) (by simp[T.get_set]) (by simp[T.get_set];rfl) (by simp[T.get_set]) (by simp[T.get_set]),hI,hI2]
    ·have hI2:zMq v ((x.toNat:Int)-48)=v*10+((x.toNat:Int)-48):=by simp only[zMq,hq,if_false]
     rw[decide_eq_false hq]
     have hv:v*10+((x.toNat:Int)-48)<=zD4:=by rw[<- hI2];exact hstep.2
     have e10:wr .i64 (v*Int.ofNat 10)=v*10:=by
      have:v*Int.ofNat 10=v*10:=rfl
      rw[this,zGB (by omega) (by unfold zD4 at hv;omega)]
     have e11:wr .i64 (v*10+((x.toNat:Int)-48))=v*10+((x.toNat:Int)-48):=zGB (by omega) hv
     simp only[zAb,bin_mul,e10,zS,e11,zJB]
     simp only[zO,↓reduceIte,Nat.reduceEqDiff]
     simp only[zS,e9,seqK]
     rw[ih (pre++[x]) (v*10+((x.toNat:Int)-48)) n _ Z (by rw[he];simp) (by omega) hv (by simp at hn;omega) (by simp[T.get_set]) (by simp[T.get_set]) (by simp[T.get_set]) (by simp[T.get_set]),hI,hI2]
   ·have e4:decide (Int.ofNat 57<(x.toNat:Int))=true:=decide_eq_true (by first | (simp;done) | (simp;omega) | omega)
    have hI:intL (x::l) v=none:=by simp only[intL,h57,and_false,if_false]
    simp only[zL,e3,zAr,zA4,retK,ze,e4,zP,zQ,cond_false,zBQ,seqK,hI]
  ·have e3:decide ((x.toNat:Int)<Int.ofNat 48)=true:=decide_eq_true (by first | (simp;done) | (simp;omega) | omega)
   have hI:intL (x::l) v=none:=by simp only[intL,h48,false_and,if_false]
   simp only[zL,e3,zo,zP,zQ,cond_true,zBQ,seqK,hI]
def intB (s:List UInt8):Int × Bool :=
 match intL s 0 with
 | some n=>(n,decide (0<s.length))
 | none=>(0,false)
theorem s67_eval (c:zD)(N:Nat)(hN:9223372036854775807<=N)(s:List UInt8)(hs:s.length<9223372036854775807)(H:Heap)(Z:Tape)(q:KV) :
  zMm c N (.str s) H Z q=q (.tup [.int .i64 (intB s).1,.bool (intB s).2]) H Z:=by
 have h:=int_loop c N (zU 0 (seqK (zLZ c N q) (endK [(.t 2),(.t 3)] q))) H s hs s [] 0 N (T.s (T.s (T.s (T.s .leaf 0 (.str s)) 4 (.int .i64 0)) 9 (.int .i64 (s.length:Int))) 10 (.int .i64 0)) Z rfl (Int.le_refl _) (by unfold zD4;omega) (by omega) (by simp[T.get_set]) (by simp[T.get_set]) (by simp[T.get_set]) (by simp[T.get_set])
 simp only[zMm,za,zP]
 rw[show(V.int IntKind.i64 (Int.ofNat 0))=.int .i64 0 from rfl,h]
 unfold intB
 cases hI:intL s 0 with
 | none =>
  simp only[zU,seqK,endK,results,zLs,zRU,T.get_set]
  rfl
 | some m =>
  simp only[zU,Nat.beq_refl,cond_true,seqK,zLZ]
  simp only[zO,↓reduceIte,Nat.reduceEqDiff]
  rw[za,zP,ze]
  simp
abbrev Bs:=List UInt8
abbrev LowOk (c:zD):Prop:=∀ (s:Bs),s.length<=140737488355328->∀ (H:Heap),WF H->∀ Z q,∃ H' Z',Gr H.size H H'/\c zBU [.str s] H Z q=q (.str (lower s)) H' Z'
theorem zQ1 (c:zD)(N:Nat)(h92:LowOk c)(n v name:Bs)(hn:n.length<=140737488355328)(hm:name.length<=140737488355328)(H:Heap)(hw:WF H)(Z:Tape)(q:KV) :
  ∃ H' Z',Gr H.size H H'/\zLF c N (.agg [.str n,.str v]) (.str name) H Z q=q (.bool (lower n == lower name)) H' Z':=by
 have hG:=Gr.new hw [V.str n,V.str v] 2 true
 have hB:=Blk.new H [V.str n,V.str v] 2 true nl
 obtain⟨H2,Z2,k1,k2⟩:=h92 n hn _ hG.wf Z (fun v5 H6 Z7=>c zBU [.str name] H6 Z7 fun v8 H9 Z10=>binK .eql v5 v8 fun v11=>q v11 H9 Z10)
 obtain⟨H3,Z3,m1,m2⟩:=h92 name hm _ k1.wf Z2 (fun v8 H9 Z10=>binK .eql (.str (lower n)) v8 fun v11=>q v11 H9 Z10)
 refine⟨H3,Z3,hG.trans (k1.trans m1 k1.size) hG.size,?_⟩
 have e1:eBox [.agg [.str n,.str v]] H Z=some (.ptr H.size 0,H.new [.str n,.str v] 2 true,Z):=rfl
 have e2:zH [.ptr H.size 0] (H.new [.str n,.str v] 2 true)=some (.str n):=zN hB.cells rfl
 simp only[zLF,e1,zA4,zC,Nat.add_zero,zP,e2,k2,m2,zw,zI0]
def hcells (l:List (Bs × Bs)):List V:=l.flatMap fun h=>[.str h.1,.str h.2]
theorem zCW (h:Bs × Bs)(l:List (Bs × Bs)):hcells (h::l)=.str h.1 :: .str h.2::hcells l:=rfl
theorem zGO (a b:List (Bs × Bs)):hcells (a++b)=hcells a++hcells b:=by simp[hcells]
theorem zEB (l:List (Bs × Bs)):(hcells l).length=l.length*2:=by
 induction l with
 | nil=>rfl
 | cons h l ih=>rw[zCW];simp only[List.length_cons,ih];omega
def sel (name:Bs)(l:List (Bs × Bs)):List Bs:=(l.filter fun h=>lower h.1 == lower name).map (·.2)
theorem get_loop (c:zD)(N:Nat){B id off m lo:Nat}{ex:Option Nat}{all:List V}(k:KC)(name:Bs)(hname:name.length<=140737488355328)(hs:List (Bs × Bs))(hm:hs.length=m)(hmb:m<=4294967296)(hsz:∀ h ∈ hs,h.1.length<=140737488355328)
  (hall:(all.drop off).take (m*2)=hcells hs) (hlen:off+m*2<=all.length)
  (h112:∀ (n v:Bs),n.length<=140737488355328->∀ (H:Heap),WF H->∀ Z q,∃ H' Z',Gr H.size H H'/\c zD1 [.agg [.str n,.str v],.str name] H Z q=q (.bool (lower n == lower name)) H' Z') (l:List (Bs × Bs)) :
  ∀ (pre:List (Bs × Bs)) (v6:V) (vals:List Bs) (n:Nat) (fr:T V) (H:Heap) (Z:Tape),WF H->B<=H.size->hs=pre++l->H.cells? id=some all->Own H B 1 v6 vals.length (vals.map V.str)->vals.length+l.length<=4294967296->l.length<n ->
  fr.get 1=some (.str name)->fr.get 6=some v6->fr.get 9=some (.sl id off m lo ex 2)->fr.get 10=some (.int .i64 (m:Int))->fr.get 11=some (.int .i64 (pre.length:Int)) ->
  ∃ v6' H' Z',Gr B H H'/\Own H' B 1 v6' (vals++sel name l).length ((vals++sel name l).map V.str)/\zAP (zDC c N) n ⟨fr,H⟩ Z k=k (.exit 0) ⟨T.s .leaf 6 v6',H'⟩ Z':=by
 induction l with
 | nil =>
  intro pre v6 vals n fr H Z hw hB he hc ho hb hn f1 f6 f9 f10 f11
  obtain⟨n,rfl⟩:∃ j,n=j+1:=⟨n-1,by simp at hn;omega⟩
  refine⟨v6,H,Z,Gr.refl hw,by simpa [sel] using ho,?_⟩
  have e1:decide ((pre.length:Int)<(m:Int))=false:=decide_eq_false (by rw[<- hm,he];simp)
  rw[zF]
  simp only[zDC,zA f1,zA f6,zA f9,zA f10,zA f11,zL,e1,zAb,seqK]
 | cons h l ih =>
  intro pre v6 vals n fr H Z hw hB he hc ho hb hn f1 f6 f9 f10 f11
  obtain⟨n,rfl⟩:∃ j,n=j+1:=⟨n-1,by simp at hn;omega⟩
  have hmm:m=pre.length+(l.length+1):=by rw[<- hm,he];simp
  have e1:decide ((pre.length:Int)<(m:Int))=true:=decide_eq_true (by omega)
  have e2:zAS 2 [.sl id off m lo ex 2,.int .i64 (pre.length:Int)]=some (.ptr id (off+pre.length*2)):=by
   have:Nat.blt pre.length m=true:=by simp[Nat.blt];omega
   simp[zAS,zBX,this]
  have e3:zAp 2 [.ptr id (off+pre.length*2)] H=some (.agg [.str h.1,.str h.2]):=by
   rw[zAm hc (by omega)]
   have h1:(all.drop (off+pre.length*2)).take 2=((hcells hs).drop (pre.length*2)).take 2:=by
    rw[<- hall,List.drop_take,List.take_take,List.drop_drop,Nat.min_eq_left (by omega)]
   rw[h1,he,zGO,<- zEB pre,List.drop_left,zCW]
   rfl
  have hG:=Gr.new hw [V.str [],V.str []] 2 true
  have hK:=Blk.new H [V.str [],V.str []] 2 true nl
  have e4:zB6 [.str [],.str []] [] H Z=some (.ptr H.size 0,H.new [V.str [],V.str []] 2 true,Z):=rfl
  obtain⟨H1,k1,k2,k3,k4⟩:=hK.eStore hG.wf 0 (.agg [.str h.1,.str h.2]) 2 rfl (by simp) rfl Z
  have k2:Blk H1 H.size H.size [.str h.1,.str h.2]:=k2
  have hG1:=hG.trans k3 nl
  have e5:zAp 2 [.ptr H.size 0] H1=some (.agg [.str h.1,.str h.2]):=by rw[zAm k2.cells (by simp)];rfl
  have e9:wr .i64 ((pre.length:Int)+Int.ofNat 1)=((pre++[h]).length:Int):=by
   rw[zGB (by first | (simp;done) | (simp;omega) | omega) (by first | (simp;done) | (simp;omega) | omega)]
   simp
  obtain⟨H2,Z2,p1,p2⟩:=h112 h.1 h.2 (hsz h (by rw[he];simp)) H1 k3.wf Z (fun v17 H18 Z19 =>
   zY v17
    (zB (zC 1 [.ptr H.size 0]) fun v20 =>
   zB (zH [v20] H18) fun v21 =>
   effK (zR 1 1 [(.str [])] [(0,1)] [v21] H18 Z19) fun v22 H23 Z24 =>
   effK (zx 1 16 [v6,v22] H23 Z24) fun v25 H26 Z27 =>
   zDs c N (seqK (fun st Z=>zAP (zDC c N) n st Z k) k) ⟨(T.s (T.s (T.s (T.s (T.s (T.s (T.s (T.s (T.s (T.s (T.s (T.s (T.s .leaf 1 (.str name)) 6 v6) 8 (.ptr H.size 0)) 9 (.sl id off m lo ex 2)) 10 (.int .i64 (m:Int))) 11 (.int .i64 (pre.length:Int))) 17 v17) 18 v6) 19 v20) 20 v21) 21 v22) 22 v25) 6 v25),H26⟩ Z27)
    (zDs c N (seqK (fun st Z=>zAP (zDC c N) n st Z k) k) ⟨(T.s (T.s (T.s (T.s (T.s (T.s (T.s .leaf 1 (.str name)) 6 v6) 8 (.ptr H.size 0)) 9 (.sl id off m lo ex 2)) 10 (.int .i64 (m:Int))) 11 (.int .i64 (pre.length:Int))) 17 v17),H18⟩ Z19))
  have hG2:Gr H.size H H2:=hG1.trans p1 (by rw[k4];exact Nat.le_succ _)
  have hw2:=p1.wf
  have ho2:=ho.gr hG2 hw nl
  have hc2:=hG2.cells hw nl hc
  rw[zF]
  simp only[zDC,zA f1,zA f6,zA f9,zA f10,zA f11,zL,e1,zBQ,e2,zP,e3,e4,zA4,k1,e5,p2]
  cases hsel:lower h.1 == lower name with
  | false =>
   obtain⟨v6',H',Z',q1,q2,q3⟩:=ih (pre++[h]) v6 vals n (T.s (T.s (T.s (T.s (T.s (T.s (T.s .leaf 1 (.str name)) 6 v6) 9 (.sl id off m lo ex 2)) 10 (.int .i64 (m:Int))) 11 (.int .i64 (pre.length:Int))) 23 (.int .i64 ((pre++[h]).length:Int))) 11 (.int .i64 ((pre++[h]).length:Int))) H2 Z2 hw2 (by have:=hG2.size;omega) (by rw[he];simp) hc2 ho2 (by simp at hb;omega) (by simp at hn;omega) (by simp[T.get_set]) (by simp[T.get_set]) (by simp[T.get_set]) (by simp[T.get_set]) (by simp[T.get_set])
   refine⟨v6',H',Z',(hG2.weaken hB).trans q1 nl,by simpa [sel,hsel] using q2,?_⟩
   simp only[zAb,zDs]
   simp only[zO,↓reduceIte,Nat.reduceEqDiff]
   simp only[zS,e9,seqK,q3]
  | true =>
   have hblk2:=k2.gr p1 k3.wf nl
   have e6:zH [.ptr H.size (0+1)] H2=some (.str h.2):=zN hblk2.cells rfl
   have hG3:=Gr.new hw2 [V.str h.2] (1*1) false
   have e7:zR 1 1 [(.str [])] [(0,1)] [.str h.2] H2 Z2=some (.sl H2.size 0 1 1 none 1,H2.new [.str h.2] (1*1) false,Z2):=rfl
   have ho3:=ho2.gr hG3 hw2 nl
   have hc3:=hG3.cells hw2 nl hc2
   obtain⟨v25,H4,r1,r2,r3,r4⟩:=ho3.append (bytes:=16) hG3.wf (by have:=hG2.size;have:=hG3.size;omega) 1 [.str h.2] (by omega) rfl rfl (by simp at hb;omega) (by simp at hb;omega) Z2
   have e8:zx 1 16 [v6,.sl H2.size 0 1 1 none 1] (H2.new [.str h.2] (1*1) false) Z2=some (v25,H4,Z2.tail):=by
    have hl:(H2.new [V.str h.2] (1*1) false).loads H2.size 0 (1*1)=some [.str h.2]:=by
     rw[zCU (zH1 _ _ _ _) (by simp)];rfl
    simp only[zx,zGA,zCj,Nat.beq_refl,cond_true,hl,r1]
   obtain⟨v6',H',Z',q1,q2,q3⟩:=ih (pre++[h]) v25 (vals++[h.2]) n (T.s (T.s (T.s (T.s (T.s (T.s (T.s .leaf 1 (.str name)) 6 v25) 9 (.sl id off m lo ex 2)) 10 (.int .i64 (m:Int))) 11 (.int .i64 (pre.length:Int))) 23 (.int .i64 ((pre++[h]).length:Int))) 11 (.int .i64 ((pre++[h]).length:Int))) H4 Z2.tail r3.wf (by have:=hG2.size;have:=hG3.size;have:=r3.size;omega) (by rw[he];simp) (r4 _ _ hc3) (by simpa using r2) (by simp at hb;first | (simp;done) | (simp;omega) | omega) (by simp at hn;omega) (by simp[T.get_set]) (by simp[T.get_set]) (by simp[T.get_set]) (by simp[T.get_set]) (by simp[T.get_set])
   refine⟨v6',H',Z',?_,by simpa [sel,hsel] using q2,?_⟩
   ·exact((hG2.trans hG3 hG2.size).weaken hB).trans (r3.trans q1 nl) nl
   simp only[zBQ,zC,zP,e6,e7,zA4,e8,zDs]
   simp only[zO,↓reduceIte,Nat.reduceEqDiff]
   simp only[zS,e9,seqK,q3]
theorem zQV (l:List Bs):strsOf (l.map V.str)=some l:=by
 induction l with
 | nil=>rfl
 | cons x l ih=>simp only[List.map_cons,strsOf,ih]
theorem join_own {H:Heap}{B:Nat}{v:V}{n:Nat}{vals:List Bs}{sep:Bs}(ho:Own H B 1 v n (vals.map V.str))(h1:(zPq sep vals).length<=140737488355328)(h2:n<=140737488355328)(Z:Tape):zNa [v,.str sep] H Z=some (.str (zPq sep vals),H,Z):=by
 have hc:=ho.rd
 rcases ho with⟨rfl,rfl,hv⟩ | ⟨id,e,room,fam,ver,pl,st,fr,rfl,k2,k3,k4,k5,k6,k7⟩
 ·have:vals=[]:=by simpa using hv
  subst this
  rfl
 ·have hcells:H.cells? id=some (vals.map V.str):=by
   simp only[Heap.cells?,k2,k3]
   rw[show Nat.ble fr ver=true from Nat.ble_eq_true_of_le k4]
   rfl
  have hl:H.loads id 0 n=some (vals.map V.str):=by
   rw[zCU hcells (by rw[k7];omega),List.drop_zero,List.take_of_length_le (by rw[k7];omega)]
  simp only[zNa,Nat.beq_refl,cond_true,hl,zQV,Nat.ble_eq_true_of_le h1,Nat.ble_eq_true_of_le h2,Bool.and_self]
theorem own_len {H:Heap}{B z:Nat}{v:V}{n:Nat}{cs:List V}(ho:Own H B z v n cs):pLen [v]=some (.int .i64 (n:Int)):=by
 rcases ho with⟨rfl,rfl,_⟩ | ⟨id,e,room,fam,ver,pl,st,fr,rfl,_⟩ <;> rfl
theorem rd_len {H:Heap}{z:Nat}{v:V}{n:Nat}{cs:List V}(ho:Rd H z v n cs):pLen [v]=some (.int .i64 (n:Int)):=by
 rcases ho with⟨rfl | ⟨id,off,lo,ex,rfl⟩,rfl,_⟩ | ⟨id,off,lo,ex,all,rfl,_⟩ <;> rfl
def getT (name:Bs)(hs:List (Bs × Bs)):Bs:=zPq [44,32] (sel name hs)
theorem zQH (c:zD)(N:Nat)(hN:9223372036854775807<=N)(name:Bs)(hname:name.length<=140737488355328)(hs:List (Bs × Bs))(hmb:hs.length<=4294967296)(hsz:∀ h ∈ hs,h.1.length<=140737488355328)(hj:(getT name hs).length<=140737488355328)
  (h113:∀ vs H Z q,c zOz vs H Z q=effK (zNa vs H Z) q)
  (h112:∀ (n v:Bs),n.length<=140737488355328->∀ (H:Heap),WF H->∀ Z q,∃ H' Z',Gr H.size H H'/\c zD1 [.agg [.str n,.str v],.str name] H Z q=q (.bool (lower n == lower name)) H' Z')
  (v:V) (H:Heap) (hw:WF H) (hr:Rd H 2 v hs.length (hcells hs)) (Z:Tape) (q:KV) :
  ∃ H' Z',Gr H.size H H'/\zHv c N v (.str name) H Z q=q (.tup [.str (getT name hs),.bool (decide (0<(sel name hs).length))]) H' Z':=by
 have hend:∀ (v6:V) (H':Heap) (Z':Tape),Own H' H.size 1 v6 (sel name hs).length ((sel name hs).map V.str) ->
   (zU 0 (seqK (zHI c N q) (endK [(.t 4),(.t 5)] q))) (.exit 0) ⟨T.s .leaf 6 v6,H'⟩ Z'=q (.tup [.str (getT name hs),.bool (decide (0<(sel name hs).length))]) H' Z':=by
  intro v6 H' Z' ho
  have hsl:(sel name hs).length<=hs.length:=by
   simp only[sel,List.length_map]
   exact List.length_filter_le _ _
  simp only[zU,Nat.beq_refl,cond_true,seqK,zHI,zO,↓reduceIte,h113]
  rw[show bs [44,32]=[44,32]from rfl,join_own ho hj (by omega),zA4,own_len ho,zP,ze]
  have:decide (Int.ofNat 0<((sel name hs).length:Int))=decide (0<(sel name hs).length):=by
   rw[decide_eq_decide];simp <;> omega
  rw[this]
  rfl
 by_cases h0:hs=[]
 ·subst h0
  refine⟨H,Z,Gr.refl hw,?_⟩
  obtain⟨N,rfl⟩:∃ j,N=j+1:=⟨N-1,by omega⟩
  simp only[zHv,rd_len hr,zP,zF,zDC,zO,↓reduceIte,Nat.reduceEqDiff]
  rw[zL,show decide (Int.ofNat 0<((([]:List (Bs × Bs)).length:Nat):Int))=false from rfl,zAb,seqK]
  exact hend .nils H Z (Own.nil _ _ _)
 ·rcases hr with⟨_,hz,_⟩ | ⟨id,off,lo,ex,all,rfl,hc,hall,hlen⟩
  ·exact absurd (List.length_eq_zero_iff.1 hz) h0
  ·have hpos:0<hs.length:=List.length_pos_iff.2 h0
   have hl:off+hs.length*2<=all.length:=by
    have:=hlen
    rw[hall,List.length_take,List.length_drop]at this
    omega
   obtain⟨v6,H',Z',k1,k2,k3⟩:=get_loop c N (B:=H.size) (lo:=lo) (ex:=ex) (zU 0 (seqK (zHI c N q) (endK [(.t 4),(.t 5)] q))) name hname hs rfl hmb hsz hall.symm hl h112 hs [] .nils [] N (T.s (T.s (T.s (T.s (T.s .leaf 1 (.str name)) 6 .nils) 9 (.sl id off hs.length lo ex 2)) 10 (.int .i64 (hs.length:Int))) 11 (.int .i64 0)) H Z hw nl rfl hc (Own.nil _ _ _) (by simpa using hmb) (by omega) (by simp[T.get_set]) (by simp[T.get_set]) (by simp[T.get_set]) (by simp[T.get_set]) (by simp[T.get_set])
   refine⟨H',Z',k1,?_⟩
   have e1:pLen [.sl id off hs.length lo ex 2]=some (.int .i64 (hs.length:Int)):=rfl
   simp only[zHv,e1,zP]
   rw[show(V.int IntKind.i64 (Int.ofNat 0))=.int .i64 0 from rfl,k3]
   exact hend v6 H' Z' (by simpa using k2)
abbrev TrimOk (c:zD)(cut:Bs):Prop:=∀ (s:Bs),s.length<9223372036854775807->∀ (H:Heap),WF H->∀ Z q,∃ H',Gr H.size H H'/\c zDL [.str s,.str cut] H Z q=q (.str (trimB cut.contains s)) H' Z
def cutB (x:UInt8):Bs->Option (Bs × Bs)
 | []=>none
 | y::l=>if y=x then some ([],l)else match cutB x l with
  | some (a,b)=>some (y::a,b)
  | none=>none
theorem zRz (x:UInt8):∀ (s:Bs),(cutB x s=none->idxB x.toNat s 0=-1)/\(∀ a b,cutB x s=some (a,b)->s=a++x::b/\idxB x.toNat s 0=(a.length:Int)):=by
 intro s
 have key:∀ (s:Bs) (i:Nat),(cutB x s=none->idxB x.toNat s i=-1)/\(∀ a b,cutB x s=some (a,b)->s=a++x::b/\idxB x.toNat s i=((i+a.length:Nat):Int)):=by
  intro s
  induction s with
  | nil=>intro i;exact⟨fun _=>rfl,fun a b h=>by cases h⟩
  | cons y l ih =>
   intro i
   by_cases h:y=x
   ·subst h
    refine⟨fun h=>by simp[cutB]at h,fun a b h=>?_⟩
    simp only[cutB,if_true,Option.some.injEq,Prod.mk.injEq]at h
    obtain⟨rfl,rfl⟩:=h
    refine⟨rfl,?_⟩
    simp[idxB,zCT]
   ·have hb:Nat.beq y.toNat x.toNat=false:=by
     cases hb:Nat.beq y.toNat x.toNat with
     | false=>rfl
     | true=>exact absurd (UInt8.toNat_inj.1 (Nat.eq_of_beq_eq_true hb)) h
    simp only[cutB,h,if_false,idxB,hb,cond_false]
    obtain⟨h1,h2⟩:=ih (i+1)
    cases hc:cutB x l with
    | none=>exact⟨fun _=>h1 hc,fun a b h=>by cases h⟩
    | some ab =>
     obtain⟨a',b'⟩:=ab
     refine⟨fun h=>(by cases h),fun a b h=>?_⟩
     cases h
     obtain⟨h3,h4⟩:=h2 a' b' hc
     refine⟨by rw[h3];rfl,?_⟩
     rw[h4]
     simp <;> omega
 have:=key s 0
 simpa using this
theorem s85_one (c:zD)(N:Nat)(s:Bs)(x:UInt8)(h131:∀ vs H Z q,c zBV vs H Z q=effK (idxP vs H Z) q)(H:Heap)(Z:Tape)(q:KV) :
  zFQ c N (.str s) (.str [x]) H Z q=q (.int .i64 (idxB x.toNat s 0)) H Z:=by
 have e1:((([x]:Bs).length:Int) == Int.ofNat 0)=false:=rfl
 have e2:((([x]:Bs).length:Int) == Int.ofNat 1)=true:=rfl
 have e3:zb [.str [x],.int .i64 (.ofNat 0)]=some (.int .u8 (.ofNat x.toNat)):=rfl
 have e4:x.toNat % 256=x.toNat:=Nat.mod_eq_of_lt (u8_lt x)
 simp only[zFQ,za,zP,zZ,e1,zAr,retK,zA4,zw,zI0,zQ,cond_false,e2,zBQ,e3,h131,idxP,e4]
 cases hx:([x] == s)with
 | false=>simp only[zAb]
 | true =>
  have:s=[x]:=(beq_iff_eq.1 hx).symm
  subst this
  simp[zBQ,idxB,zCT]
theorem s66_one (c:zD)(N:Nat)(s:Bs)(x:UInt8)(hs:s.length<9223372036854775807)(h130:∀ (s:Bs) (x:UInt8) H Z q,c zHU [.str s,.str [x]] H Z q=q (.int .i64 (idxB x.toNat s 0)) H Z)(H:Heap)(Z:Tape)(q:KV) :
  zGZ c N (.str s) (.str [x]) H Z q=q (match cutB x s with | some (a,b)=>.tup [.str a,.str b,.bool true] | none=>.tup [.str s,.str [],.bool false]) H Z:=by
 obtain⟨h1,h2⟩:=zRz x s
 simp only[zGZ,h130]
 cases hc:cutB x s with
 | none =>
  rw[h1 hc,zAC]
  rfl
 | some ab =>
  obtain⟨a,b⟩:=ab
  obtain⟨h3,h4⟩:=h2 a b hc
  have e1:decide (Int.ofNat 0<=(a.length:Int))=true:=decide_eq_true (by simp <;> omega)
  have hl:a.length<s.length:=by rw[h3];simp
  have e2:zAj false true [.str s,.int .i64 (a.length:Int)]=some (.str a):=by
   rw[zRi (by omega),h3];simp
  have e3:wr .i64 ((a.length:Int)+(([x]:Bs).length:Int))=((a.length+1:Nat):Int):=by
   rw[zGB (by simp;omega) (by simp;omega)];simp
  have e4:zAj true false [.str s,.int .i64 ((a.length+1:Nat):Int)]=some (.str b):=by
   rw[zMi (by omega),h3];simp
  rw[h4,zAC,e1,zBQ,e2,zP,za,zP,zS,e3,e4,zP]
theorem s37_one (c:zD)(N:Nat)(s:Bs)(x:UInt8)(h103:∀ H Z q,c zI1 [.str s,.str [x]] H Z q=q (match cutB x s with | some (a,b)=>.tup [.str a,.str b,.bool true] | none=>.tup [.str s,.str [],.bool false]) H Z)(H:Heap)(Z:Tape)(q:KV) :
  zKL c N (.str s) (.str [x]) H Z q=q (match cutB x s with | some (a,b)=>.tup [.str a,.str b,.bool true] | none=>.tup [.str s,.str [],.bool false]) H Z:=by
 simp only[zKL,h103]
 cases hc:cutB x s with
 | none=>rfl
 | some ab=>rfl
def zAI:Bool->Bs->Bs->List Bs × Bs
 | _,cur,[]=>([],cur)
 | q,cur,x::r =>
  if x=34 then zAI (!q) (cur++[x]) r
  else if q=true/\x=92 then
   match r with
   | []=>([],cur++[x])
   | y::r'=>zAI q (cur++[x,y]) r'
  else if q=false/\x=44 then
   (cur::(zAI false [] r).1,(zAI false [] r).2)
  else zAI q (cur++[x]) r
theorem zNo (q:Bool)(cur:Bs){x:UInt8}(r:Bs)(h:x=34):zAI q cur (x::r)=zAI (!q) (cur++[x]) r:=by
 cases r <;> simp[zAI,h]
theorem zQL (cur:Bs){x:UInt8}(h:x≠34)(h':x=92):zAI true cur [x]=([],cur++[x]):=by
 subst h'
 simp[zAI]
theorem zQG (cur:Bs){x:UInt8}(y:UInt8)(r:Bs)(h:x≠34)(h':x=92):zAI true cur (x::y::r)=zAI true (cur++[x,y]) r:=by
 subst h'
 simp[zAI]
theorem zOO (cur:Bs){x:UInt8}(r:Bs)(h:x≠34)(h':x=44):zAI false cur (x::r)=(cur::(zAI false [] r).1,(zAI false [] r).2):=by
 subst h'
 cases r <;> simp[zAI]
theorem zRc (cur:Bs){x:UInt8}(r:Bs)(h:x≠34)(h':x≠92):zAI true cur (x::r)=zAI true (cur++[x]) r:=by
 cases r <;> simp[zAI,h,h']
theorem zQP (cur:Bs){x:UInt8}(r:Bs)(h:x≠34)(h':x≠44):zAI false cur (x::r)=zAI false (cur++[x]) r:=by
 cases r <;> simp[zAI,h,h']
def tight:UInt8->Bool:=([9,32]:Bs).contains
theorem drop_mid (pre cur rest:Bs):((pre++cur++rest).take (pre.length+cur.length)).drop pre.length=cur:=by
 rw[<- List.length_append,List.take_left',List.drop_left'] <;> simp
theorem split_loop (c:zD)(N:Nat){B:Nat}(k:KC)(s:Bs)(hs:s.length<4294967296)(h114:TrimOk c [9,32]):∀ (m:Nat) (rest:Bs),rest.length<=m->∀ (q:Bool) (pre cur:Bs) (v8:V) (acc:List Bs) (n:Nat) (fr:T V) (H:Heap) (Z:Tape),WF H->B<=H.size->s=pre++cur++rest->Own H B 1 v8 acc.length (acc.map V.str)->acc.length+rest.length<4294967296->rest.length<n ->
  fr.get 6=some (.str s)->fr.get 8=some v8->fr.get 9=some (.bool q)->fr.get 10=some (.int .i64 (pre.length:Int))->fr.get 11=some (.int .i64 ((pre.length+cur.length:Nat):Int)) ->
  ∃ v8' fro H' Z',Gr B H H'/\Own H' B 1 v8' (acc++(zAI q cur rest).1.map (trimB tight)).length ((acc++(zAI q cur rest).1.map (trimB tight)).map V.str)/\fro<=s.length/\s.drop fro=(zAI q cur rest).2/\(acc++(zAI q cur rest).1.map (trimB tight)).length<4294967296 /\
   zAP (zBl c N) n ⟨fr,H⟩ Z k=k (.exit 0) ⟨T.s (T.s (T.s .leaf 6 (.str s)) 8 v8') 10 (.int .i64 (fro:Int)),H'⟩ Z':=by
 intro m
 induction m with
 | zero =>
  intro rest hm q pre cur v8 acc n fr H Z hw hB he ho hb hn f6 f8 f9 f10 f11
  have:rest=[]:=List.length_eq_zero_iff.1 (by omega)
  subst this
  obtain⟨n,rfl⟩:∃ j,n=j+1:=⟨n-1,by simp at hn;omega⟩
  refine⟨v8,pre.length,H,Z,Gr.refl hw,by simpa [zAI] using ho,by rw[he];simp <;> omega,by rw[he];simp[zAI],by simpa [zAI] using hb,?_⟩
  have e1:decide (((pre.length+cur.length:Nat):Int)<(s.length:Int))=false:=decide_eq_false (by rw[he];simp)
  rw[zF]
  simp only[zBl,zA f6,zA f8,zA f9,zA f10,zA f11,za,zP,zL,e1,zAb,seqK]
 | succ m ih =>
  intro rest hm q pre cur v8 acc n fr H Z hw hB he ho hb hn f6 f8 f9 f10 f11
  obtain⟨n,rfl⟩:∃ j,n=j+1:=⟨n-1,by omega⟩
  cases rest with
  | nil =>
   refine⟨v8,pre.length,H,Z,Gr.refl hw,by simpa [zAI] using ho,by rw[he];simp <;> omega,by rw[he];simp[zAI],by simpa [zAI] using hb,?_⟩
   have e1:decide (((pre.length+cur.length:Nat):Int)<(s.length:Int))=false:=decide_eq_false (by rw[he];simp)
   rw[zF]
   simp only[zBl,zA f6,zA f8,zA f9,zA f10,zA f11,za,zP,zL,e1,zAb,seqK]
  | cons x r =>
   have hlen:s.length=pre.length+cur.length+(r.length+1):=by rw[he];simp;omega
   have e1:decide (((pre.length+cur.length:Nat):Int)<(s.length:Int))=true:=decide_eq_true (by omega)
   have e2:zb [.str s,.int .i64 ((pre.length+cur.length:Nat):Int)]=some (.int .u8 (x.toNat:Int)):=zEM (by
    rw[he,<- List.length_append,List.getElem?_append_right nl];simp)
   have e9:∀ (j:Nat),j<=s.length+1->wr .i64 ((j:Int)+Int.ofNat 1)=((j+1:Nat):Int):=fun j hj=>by
    rw[zGB (by simp;omega) (by simp;omega)];simp
   have h34:((x.toNat:Int) == Int.ofNat 34)=decide (x=34):=by
    rw[Bool.eq_iff_iff];simp[<- UInt8.toNat_inj];omega
   have h92:((x.toNat:Int) == Int.ofNat 92)=decide (x=92):=by
    rw[Bool.eq_iff_iff];simp[<- UInt8.toNat_inj];omega
   have h44:((x.toNat:Int) == Int.ofNat 44)=decide (x=44):=by
    rw[Bool.eq_iff_iff];simp[<- UInt8.toNat_inj];omega
   rw[zF]
   simp only[zBl,zA f6,zA f8,zA f9,zA f10,zA f11,za,zP,zL,e1,zBQ,e2,zZ,h34]
   by_cases c34:x=34
   ·simp only[decide_eq_true c34,zBQ,zAN,zAo,zO,↓reduceIte,Nat.reduceEqDiff,zS,e9 _ (show pre.length+cur.length<=s.length+1 by omega),seqK]
    obtain⟨v8',fro,H',Z',k1,k2,k3,k4,k5,k6⟩:=ih r (by simp at hm;omega) (!q) pre (cur++[x]) v8 acc n (T.s (T.s (T.s (T.s (T.s (T.s (T.s (T.s .leaf 6 (.str s)) 8 v8) 9 (.bool (!q))) 10 (.int .i64 (pre.length:Int))) 11 (.int .i64 ((pre.length+cur.length:Nat):Int))) 24 (.int .i64 ((pre.length+cur.length:Nat):Int))) 25 (.int .i64 ((pre.length+cur.length+1:Nat):Int))) 11 (.int .i64 ((pre.length+cur.length+1:Nat):Int))) H Z hw hB (by rw[he];simp) ho (by simp at hb;omega) (by simp at hn;omega) (by simp[T.get_set]) (by simp[T.get_set]) (by simp[T.get_set]) (by simp[T.get_set]) (by simp[T.get_set];omega)
    have hf:zAI q cur (x::r)=zAI (!q) (cur++[x]) r:=zNo q cur r c34
    rw[hf]
    exact⟨v8',fro,H',Z',k1,k2,k3,k4,k5,k6⟩
   ·simp only[decide_eq_false c34,zAb]
    cases q with
    | true =>
     simp only[zBE,retK,zA4,e2,zP,zZ,h92,zQ,cond_true]
     by_cases c92:x=92
     ·simp only[decide_eq_true c92,zBQ,zS,e9 _ (show pre.length+cur.length<=s.length+1 by omega),zAo,zO,↓reduceIte,Nat.reduceEqDiff,e9 _ (show pre.length+cur.length+1<=s.length+1 by omega),seqK]
      cases r with
      | nil =>
       have hf:zAI true cur (x::[])=([],cur++[x]):=zQL cur c34 c92
       rw[hf]
       obtain⟨n,rfl⟩:∃ j,n=j+1:=⟨n-1,by simp at hn;omega⟩
       refine⟨v8,pre.length,H,Z,Gr.refl hw,by simpa using ho,by omega,by rw[he];simp,by simp at hb ⊢;omega,?_⟩
       have e3:decide (((pre.length+cur.length+1+1:Nat):Int)<(s.length:Int))=false:=decide_eq_false (by simp at hlen;omega)
       rw[zF]
       simp only[zBl,zO,↓reduceIte,Nat.reduceEqDiff,za,zP,zL,e3,zAb,seqK]
      | cons y r' =>
       obtain⟨v8',fro,H',Z',k1,k2,k3,k4,k5,k6⟩:=ih r' (by simp at hm;omega) true pre (cur++[x,y]) v8 acc n (T.s (T.s (T.s (T.s (T.s (T.s (T.s (T.s .leaf 6 (.str s)) 8 v8) 9 (.bool true)) 10 (.int .i64 (pre.length:Int))) 11 (.int .i64 ((pre.length+cur.length+1:Nat):Int))) 24 (.int .i64 ((pre.length+cur.length+1:Nat):Int))) 25 (.int .i64 ((pre.length+cur.length+1+1:Nat):Int))) 11 (.int .i64 ((pre.length+cur.length+1+1:Nat):Int))) H Z hw hB (by rw[he];simp) ho (by simp at hb;omega) (by simp at hn;omega) (by simp[T.get_set]) (by simp[T.get_set]) (by simp[T.get_set]) (by simp[T.get_set]) (by simp[T.get_set];omega)
       have hf:zAI true cur (x::y::r')=zAI true (cur++[x,y]) r':=zQG cur y r' c34 c92
       rw[hf]
       exact⟨v8',fro,H',Z',k1,k2,k3,k4,k5,k6⟩
     ·simp only[decide_eq_false c92,zAb,zAN,Bool.not_true,zq,zP,zQ,cond_false,zAo,zO,↓reduceIte,Nat.reduceEqDiff,zS,e9 _ (show pre.length+cur.length<=s.length+1 by omega),seqK]
      obtain⟨v8',fro,H',Z',k1,k2,k3,k4,k5,k6⟩:=ih r (by simp at hm;omega) true pre (cur++[x]) v8 acc n (T.s (T.s (T.s (T.s (T.s (T.s (T.s (T.s .leaf 6 (.str s)) 8 v8) 9 (.bool true)) 10 (.int .i64 (pre.length:Int))) 11 (.int .i64 ((pre.length+cur.length:Nat):Int))) 24 (.int .i64 ((pre.length+cur.length:Nat):Int))) 25 (.int .i64 ((pre.length+cur.length+1:Nat):Int))) 11 (.int .i64 ((pre.length+cur.length+1:Nat):Int))) H Z hw hB (by rw[he];simp) ho (by simp at hb;omega) (by simp at hn;omega) (by simp[T.get_set]) (by simp[T.get_set]) (by simp[T.get_set]) (by simp[T.get_set]) (by simp[T.get_set];omega)
      have hf:zAI true cur (x::r)=zAI true (cur++[x]) r:=zRc cur r c34 c92
      rw[hf]
      exact⟨v8',fro,H',Z',k1,k2,k3,k4,k5,k6⟩
    | false =>
     simp only[zq,zP,zQ,cond_false,zAb,zAN,Bool.not_false,zBE,retK,zA4,e2,zZ,h44,cond_true]
     by_cases c44:x=44
     ·have e3:zAj true true [.str s,.int .i64 (pre.length:Int),.int .i64 ((pre.length+cur.length:Nat):Int)]=some (.str cur):=by
       rw[zP2 (by omega) (by omega),he,drop_mid]
      obtain⟨H1,p1,p2⟩:=h114 cur (by omega) H hw Z (fun v51 H52 Z53 =>
       effK (zR 1 1 [(.str [])] [(0,1)] [v51] H52 Z53) fun v54 H55 Z56 =>
       effK (zx 1 16 [v8,v54] H55 Z56) fun v57 H58 Z59 =>
       binK .add (.int .i64 ((pre.length+cur.length:Nat):Int)) (.int .i64 (.ofNat 1)) fun v60 =>
       zAo c N (seqK (fun st Z=>zAP (zBl c N) n st Z k) k) ⟨(T.s (T.s (T.s (T.s (T.s (T.s (T.s .leaf 6 (.str s)) 8 v57) 9 (.bool false)) 11 (.int .i64 ((pre.length+cur.length:Nat):Int))) 60 (.int .i64 ((pre.length+cur.length:Nat):Int))) 61 v60) 10 v60),H58⟩ Z59)
      have hw1:=p1.wf
      have ho1:=ho.gr p1 hw nl
      have hG3:=Gr.new hw1 [V.str (trimB tight cur)] (1*1) false
      have ho3:=ho1.gr hG3 hw1 nl
      obtain⟨v57,H4,r1,r2,r3,r4⟩:=ho3.append (bytes:=16) hG3.wf (by have:=p1.size;have:=hG3.size;omega) 1 [.str (trimB tight cur)] (by omega) rfl rfl (by simp at hb;omega) (by simp at hb;omega) Z
      have e8:zx 1 16 [v8,.sl H1.size 0 1 1 none 1] (H1.new [.str (trimB tight cur)] (1*1) false) Z=some (v57,H4,Z.tail):=by
       have hl:(H1.new [V.str (trimB tight cur)] (1*1) false).loads H1.size 0 (1*1)=some [.str (trimB tight cur)]:=by
        rw[zCU (zH1 _ _ _ _) (by simp)];rfl
       simp only[zx,zGA,zCj,Nat.beq_refl,cond_true,hl,r1]
      have e7:zR 1 1 [(.str [])] [(0,1)] [.str (trimB (List.contains [9,32]) cur)] H1 Z=some (.sl H1.size 0 1 1 none 1,H1.new [.str (trimB tight cur)] (1*1) false,Z):=rfl
      obtain⟨v8',fro,H',Z',k1,k2,k3,k4,k5,k6⟩:=ih r (by simp at hm;omega) false (pre++cur++[x]) [] v57 (acc++[trimB tight cur]) n (T.s (T.s (T.s (T.s (T.s (T.s (T.s (T.s .leaf 6 (.str s)) 8 v57) 9 (.bool false)) 10 (.int .i64 ((pre.length+cur.length+1:Nat):Int))) 11 (.int .i64 ((pre.length+cur.length:Nat):Int))) 24 (.int .i64 ((pre.length+cur.length:Nat):Int))) 25 (.int .i64 ((pre.length+cur.length+1:Nat):Int))) 11 (.int .i64 ((pre.length+cur.length+1:Nat):Int))) H4 Z.tail r3.wf (by have:=p1.size;have:=hG3.size;have:=r3.size;omega) (by rw[he];simp) (by simpa using r2) (by simp at hb ⊢;omega) (by simp at hn;omega) (by simp[T.get_set]) (by simp[T.get_set]) (by simp[T.get_set]) (by simp[T.get_set];omega) (by simp[T.get_set];omega)
      have hf:zAI false cur (x::r)=(cur::(zAI false [] r).1,(zAI false [] r).2):=zOO cur r c34 c44
      rw[hf]
      refine⟨v8',fro,H',Z',((p1.trans hG3 p1.size).weaken hB).trans (r3.trans k1 nl) nl,by simpa using k2,k3,k4,by simpa using k5,?_⟩
      simp only[decide_eq_true c44,zBQ,e3,zP]
      rw[show bs [9,32]=[9,32]from rfl,p2,e7,zA4,e8,zA4]
      simp only[zS,e9 _ (show pre.length+cur.length<=s.length+1 by omega),zAo,zO,↓reduceIte,Nat.reduceEqDiff,seqK]
      exact k6
     ·simp only[decide_eq_false c44,zAb,zAo,zO,↓reduceIte,Nat.reduceEqDiff,zS,e9 _ (show pre.length+cur.length<=s.length+1 by omega),seqK]
      obtain⟨v8',fro,H',Z',k1,k2,k3,k4,k5,k6⟩:=ih r (by simp at hm;omega) false pre (cur++[x]) v8 acc n (T.s (T.s (T.s (T.s (T.s (T.s (T.s (T.s .leaf 6 (.str s)) 8 v8) 9 (.bool false)) 10 (.int .i64 (pre.length:Int))) 11 (.int .i64 ((pre.length+cur.length:Nat):Int))) 24 (.int .i64 ((pre.length+cur.length:Nat):Int))) 25 (.int .i64 ((pre.length+cur.length+1:Nat):Int))) 11 (.int .i64 ((pre.length+cur.length+1:Nat):Int))) H Z hw hB (by rw[he];simp) ho (by simp at hb;omega) (by simp at hn;omega) (by simp[T.get_set]) (by simp[T.get_set]) (by simp[T.get_set]) (by simp[T.get_set]) (by simp[T.get_set];omega)
      have hf:zAI false cur (x::r)=zAI false (cur++[x]) r:=zQP cur r c34 c44
      rw[hf]
      exact⟨v8',fro,H',Z',k1,k2,k3,k4,k5,k6⟩
def zLg (s:Bs):List Bs:=((zAI false [] s).1++[(zAI false [] s).2]).map (trimB tight)
def zB8 (name:Bs)(hs:List (Bs × Bs)):List Bs:=if 0<(sel name hs).length then zLg (getT name hs)else []
def GetOk (c:zD)(name:Bs)(hs:List (Bs × Bs)):Prop:=∀ (v:V) (H:Heap),WF H->Rd H 2 v hs.length (hcells hs)->∀ Z q,
  ∃ H' Z',Gr H.size H H'/\c zAh [v,.str name] H Z q=q (.tup [.str (getT name hs),.bool (decide (0<(sel name hs).length))]) H' Z'
theorem zPW (c:zD)(N:Nat)(hN:9223372036854775807<=N)(name:Bs)(hs:List (Bs × Bs))(hj:(getT name hs).length<4294967296)(h78:GetOk c name hs)(h114:TrimOk c [9,32])
  (v:V) (H:Heap) (hw:WF H) (hr:Rd H 2 v hs.length (hcells hs)) (Z:Tape) (q:KV) :
  ∃ v' H' Z',Own H' H.size 1 v' (zB8 name hs).length ((zB8 name hs).map V.str)/\(zB8 name hs).length<=4294967296/\Gr H.size H H'/\zDZ c N v (.str name) H Z q=q (.tup [v',.bool (decide (0<(sel name hs).length))]) H' Z':=by
 obtain⟨H1,Z1,k1,k2⟩:=h78 v H hw hr Z (fun v0 H1 Z2 =>
  zB (zG 0 [v0]) fun v3 =>
  zB (zG 1 [v0]) fun v4 =>
  unK .not v4 fun v5 =>
  zY v5
   (q (.tup [.nils,(.bool false)]) H1 Z2)
   (zAP (zBl c N) N ⟨(T.s (T.s (T.s (T.s (T.s .leaf 6 v3) 8 .nils) 9 (.bool false)) 10 (.int .i64 (.ofNat 0))) 11 (.int .i64 (.ofNat 0))),H1⟩ Z2 (zU 0 (seqK (zFn c N q) (endK [(.t 4),(.t 5)] q)))))
 by_cases hp:0<(sel name hs).length
 ·obtain⟨v8,fro,H2,Z2,m1,m2,m3,m4,m5,m6⟩:=split_loop c N (B:=H.size) (zU 0 (seqK (zFn c N q) (endK [(.t 4),(.t 5)] q))) (getT name hs) hj h114 _ (getT name hs) nl false [] [] .nils [] N (T.s (T.s (T.s (T.s (T.s .leaf 6 (.str (getT name hs))) 8 .nils) 9 (.bool false)) 10 (.int .i64 0)) 11 (.int .i64 0)) H1 Z1 k1.wf k1.size rfl (Own.nil _ _ _) (by simpa using hj) (by omega) (by simp[T.get_set]) (by simp[T.get_set]) (by simp[T.get_set]) (by simp[T.get_set]) (by simp[T.get_set])
  obtain⟨H3,p1,p2⟩:=h114 (zAI false [] (getT name hs)).2 (by
   have:((getT name hs).drop fro).length<=(getT name hs).length:=by rw[List.length_drop];omega
   rw[<- m4];omega) H2 m1.wf Z2 (fun v7 H8 Z9 =>
   effK (zR 1 1 [(.str [])] [(0,1)] [v7] H8 Z9) fun v10 H11 Z12 =>
   effK (zx 1 16 [v8,v10] H11 Z12) fun v13 H14 Z15 =>
   q (.tup [v13,(.bool true)]) H14 Z15)
  have ho1:=m2.gr p1 m1.wf nl
  have hG3:=Gr.new p1.wf [V.str (trimB tight (zAI false [] (getT name hs)).2)] (1*1) false
  have ho3:=ho1.gr hG3 p1.wf nl
  obtain⟨v13,H4,r1,r2,r3,r4⟩:=ho3.append (bytes:=16) hG3.wf (by have:=k1.size;have:=m1.size;have:=p1.size;have:=hG3.size;omega) 1 [.str (trimB tight (zAI false [] (getT name hs)).2)] (by omega) rfl rfl (by simp at m5 ⊢;omega) (by simp at m5 ⊢;omega) Z2
  have e8:zx 1 16 [v8,.sl H3.size 0 1 1 none 1] (H3.new [.str (trimB tight (zAI false [] (getT name hs)).2)] (1*1) false) Z2=some (v13,H4,Z2.tail):=by
   have hl:(H3.new [V.str (trimB tight (zAI false [] (getT name hs)).2)] (1*1) false).loads H3.size 0 (1*1)=some [.str (trimB tight (zAI false [] (getT name hs)).2)]:=by
    rw[zCU (zH1 _ _ _ _) (by simp)];rfl
   simp only[zx,zGA,zCj,Nat.beq_refl,cond_true,hl,r1]
  have e7:zR 1 1 [(.str [])] [(0,1)] [.str (trimB (List.contains [9,32]) (zAI false [] (getT name hs)).2)] H3 Z2=some (.sl H3.size 0 1 1 none 1,H3.new [.str (trimB tight (zAI false [] (getT name hs)).2)] (1*1) false,Z2):=rfl
  have hT:zB8 name hs=zLg (getT name hs):=if_pos hp
  have hP:zLg (getT name hs)=([]++(zAI false [] (getT name hs)).1.map (trimB tight))++[trimB tight (zAI false [] (getT name hs)).2]:=by simp[zLg]
  refine⟨v13,H4,Z2.tail,?_,?_,?_,?_⟩
  ·rw[hT,hP];simpa using r2
  ·rw[hT,hP,List.length_append];simp at m5 ⊢;omega
  ·have hB1:=k1.size
   have hB2:=m1.size
   have hB3:=p1.size
   exact k1.trans (m1.trans ((p1.weaken (by omega)).trans ((hG3.weaken (by omega)).trans r3 nl) nl) nl) nl
  ·have hst:zDZ c N v (.str name) H Z q=_:=k2
   rw[hst]
   simp only[zG,List.getElem?_cons_zero,List.getElem?_cons_succ,zP,zAN,decide_eq_true hp,Bool.not_true,zAb]
   rw[show(V.int IntKind.i64 (Int.ofNat 0))=.int .i64 0 from rfl,m6]
   simp only[zU,Nat.beq_refl,cond_true,seqK,zFn,zO,↓reduceIte,Nat.reduceEqDiff]
   rw[zMi m3,m4,zP,show bs [9,32]=[9,32]from rfl,p2,e7,zA4,e8,zA4]
 ·have hT:zB8 name hs=[]:=if_neg hp
  refine⟨.nils,H1,Z1,by rw[hT];exact Own.nil _ _ _,by rw[hT];simp,k1,?_⟩
  have hst:zDZ c N v (.str name) H Z q=_:=k2
  rw[hst]
  simp only[zG,List.getElem?_cons_zero,List.getElem?_cons_succ,zP,zAN,decide_eq_false hp,Bool.not_false,zBQ]
def blank:UInt8->Bool:=([9,10,12,13,32]:Bs).contains
def strip (s:Bs):Bs:=trimB blank s
abbrev StripOk (c:zD):Prop:=∀ (s:Bs),s.length<9223372036854775807->∀ (H:Heap),WF H->∀ Z q,∃ H',Gr H.size H H'/\c zCA [.str s] H Z q=q (.str (strip s)) H' Z
theorem zHf (p:UInt8->Bool)(s:Bs):(trimB p s).length<=s.length:=by
 unfold trimB
 have h1:=(List.dropWhile_sublist (l:=(s.reverse.dropWhile p).reverse) p).length_le
 have h2:=(List.dropWhile_sublist (l:=s.reverse) p).length_le
 simp only[List.length_reverse]at h1 h2
 omega
theorem zQN (c:zD)(N:Nat)(h114:TrimOk c [9,10,12,13,32])(s:Bs)(hs:s.length<9223372036854775807)(H:Heap)(hw:WF H)(Z:Tape)(q:KV):∃ H',Gr H.size H H'/\zMf c N (.str s) H Z q=q (.str (strip s)) H' Z:=by
 obtain⟨H',h1,h2⟩:=h114 s hs H hw Z (fun v0 H1 Z2=>q v0 H1 Z2)
 exact⟨H',h1,h2⟩
end Go.Am.X

