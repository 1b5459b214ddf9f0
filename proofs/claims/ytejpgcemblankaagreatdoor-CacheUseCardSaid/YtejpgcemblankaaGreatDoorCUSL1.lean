/- The abstract machine, printed functions of the program, and what they are shown to be. -/
import Derived.Test.YtejpgcemblankaaGreatDoorCUSSh1
import Derived.Test.YtejpgcemblankaaGreatDoorCUSM4
set_option linter.unusedSimpArgs false
set_option linter.unusedVariables false
set_option linter.unusedSectionVars false
namespace Go.Am.X
theorem u8_lt (x:UInt8):x.toNat<256:=x.toNat_lt
theorem s81_eval (c:zC)(N:Nat){id:Nat}{cells:List V}{x:UInt8}{b:Bool}{H:Heap}(hc:H.cells? id=some cells)(hx:cells[x.toNat]?=some (.bool b))(τ:Tape)(q:KV) :
  zEc c N (.ptr id 0) (.int .u8 (x.toNat:Int)) H τ q=q (.bool b) H τ:=by
 have e1:Nat.blt x.toNat 256=true:=by have:=u8_lt x;simp[Nat.blt];omega
 simp only[zEc,zBg,zJ,zNf,zCK,e1,cond_true,Nat.mul_one,Nat.zero_add,zU hc hx]
theorem trimL_loop (c:zC)(N:Nat){id:Nat}{H:Heap}(p:UInt8→Bool)(h171:∀ (x:UInt8) τ q,c zAG [.ptr id 0,.int .u8 (x.toNat:Int)] H τ q=q (.bool (p x)) H τ)(k:KC) :
  ∀ (s:List UInt8) (n:Nat) (fr:T V) (τ:Tape),s.length<n→fr.get 0=some (.str s)→fr.get 1=some (.ptr id 0)→zAf (zBw c N) n ⟨fr,H⟩ τ k=k (.exit 0) ⟨T.set .leaf 0 (.str (s.dropWhile p)),H⟩ τ:=by
 intro s
 induction s with
 | nil =>
  intro n fr τ hn h0 h1
  obtain⟨n,rfl⟩:∃ m,n=m+1:=⟨n-1,by simp at hn;omega⟩
  rw[zG]
  simp only[zBw,zA h0,zA h1,zAa,zJ,zAQ]
  rfl
 | cons x s ih =>
  intro n fr τ hn h0 h1
  obtain⟨n,rfl⟩:∃ m,n=m+1:=⟨n-1,by simp at hn;omega⟩
  rw[zG]
  have e1:decide (Int.ofNat 0<((x::s).length:Int))=true:=decide_eq_true (by first | (simp;done) | (simp;omega) | omega)
  have e2:zV [.str (x::s),.int .i64 (.ofNat 0)]=some (.int .u8 (x.toNat:Int)):=rfl
  have e3:zAE true false [.str (x::s),.int .i64 (.ofNat 1)]=some (.str s):=zKr (s:=x::s) (i:=1) (by simp)
  simp only[zBw,zA h0,zA h1,zAa,zJ,zAQ,e1,zBE,e2,h171,zBx]
  cases hp:p x with
  | false=>simp[zOl,hp,seqK]
  | true =>
   simp only[Bool.not_true,zAR,e3,zJ,seqK]
   rw[ih n _ τ (by simp at hn;omega) (by simp[T.get_set]) (by simp[T.get_set])]
   simp[hp]
theorem trimR_loop (c:zC)(N:Nat){id:Nat}{H:Heap}(p:UInt8→Bool)(h171:∀ (x:UInt8) τ q,c zAG [.ptr id 0,.int .u8 (x.toNat:Int)] H τ q=q (.bool (p x)) H τ)(k:KC) :
  ∀ (r:List UInt8) (n:Nat) (fr:T V) (τ:Tape),r.length<9223372036854775807→r.length<n→fr.get 0=some (.str r.reverse)→fr.get 1=some (.ptr id 0)→zAf (zBn c N) n ⟨fr,H⟩ τ k=k (.exit 0) ⟨T.set .leaf 0 (.str (r.dropWhile p).reverse),H⟩ τ:=by
 intro r
 induction r with
 | nil =>
  intro n fr τ hb hn h0 h1
  obtain⟨n,rfl⟩:∃ m,n=m+1:=⟨n-1,by simp at hn;omega⟩
  rw[zG]
  simp only[zBn,zA h0,zA h1,zAa,zJ,zAQ]
  rfl
 | cons x s ih =>
  intro n fr τ hb hn h0 h1
  obtain⟨n,rfl⟩:∃ m,n=m+1:=⟨n-1,by simp at hn;omega⟩
  rw[zG]
  have hlen:((x::s).reverse.length:Int)=(s.length:Int)+1:=by simp
  have e1:decide (Int.ofNat 0<((x::s).reverse.length:Int))=true:=decide_eq_true (by rw[hlen];first | (simp;done) | (simp;omega))
  have e0:wr .i64 (((x::s).reverse.length:Int)-Int.ofNat 1)=(s.length:Int):=by
   rw[hlen,zEb (by first | (simp;done) | (simp;omega) | omega) (by simp at hb;first | (simp;done) | (simp;omega) | omega)]
   simp
  have e2:zV [.str (x::s).reverse,.int .i64 (s.length:Int)]=some (.int .u8 (x.toNat:Int)):=zDe (by simp)
  have e3:zAE false true [.str (x::s).reverse,.int .i64 (s.length:Int)]=some (.str s.reverse):=by
   rw[zQD (by simp)]
   simp
  simp only[zBn,zA h0,zA h1,zAa,zJ,zAQ,e1,zBE,zCi,e0,e2,h171,zBx]
  cases hp:p x with
  | false=>simp[zOl,hp,seqK]
  | true =>
   simp only[Bool.not_true,zAR,e3,zJ,seqK]
   rw[ih n _ τ (by simp at hb;omega) (by simp at hn;omega) (by simp[T.get_set]) (by simp[T.get_set])]
   simp[hp]
def mark (cells:List V)(l:List UInt8):List V:=l.foldl (fun cells x=>cells.set x.toNat (.bool true)) cells
theorem zNp (l:List UInt8):∀ cells:List V,(mark cells l).length=cells.length:=by
 induction l with
 | nil=>intro cells;rfl
 | cons x l ih=>intro cells;exact(ih _).trans (by simp)
theorem mark_get (l:List UInt8):∀ (cells:List V) (x:UInt8),cells.length=256→(∀ i,i<256→∃ b,cells[i]?=some (.bool b))→∀ b,cells[x.toNat]?=some (.bool b)→(mark cells l)[x.toNat]?=some (.bool (b || l.contains x)):=by
 induction l with
 | nil=>intro cells x _ _ b hb;simpa [mark] using hb
 | cons y l ih =>
  intro cells x hl hc b hb
  have hx:=u8_lt x
  have hy:=u8_lt y
  have:=ih (cells.set y.toNat (.bool true)) x (by simpa using hl) (fun i hi=>by
   by_cases e:y.toNat=i
   ·exact⟨true,by rw[e];simp[hl,hi]⟩
   ·obtain⟨b,hb⟩:=hc i hi
    exact⟨b,by rw[List.getElem?_set_ne e];exact hb⟩) (if x=y then true else b) (by
   by_cases e:x=y
   ·subst e;simp[hl,hx]
   ·rw[if_neg e,List.getElem?_set_ne (fun h=>e (UInt8.toNat_inj.1 h.symm))];exact hb)
  rw[show mark cells (y::l)=mark (cells.set y.toNat (.bool true)) l from rfl,this]
  by_cases e:x=y
  ·simp[e]
  ·simp[e]
theorem set_loop (c:zC)(N:Nat){B id:Nat}(k:KC)(l:List UInt8):∀ (pre:List UInt8) (cells:List V) (n:Nat) (fr:T V) (H:Heap) (τ:Tape),WF H→Blk H B id cells→cells.length=256→(∀ x ∈ l,x.toNat<128)→(pre++l).length<9223372036854775807→l.length<n →
  fr.get 0=some (.str (pre++l))→fr.get 2=some (.ptr id 0)→fr.get 4=some (.int .i64 (pre.length:Int)) →
  ∃ H',Blk H' B id (mark cells l)∧Gr B H H'∧H'.size=H.size∧zAf (zB8 c N) n ⟨fr,H⟩ τ k=k (.exit 0) ⟨T.set .leaf 2 (.ptr id 0),H'⟩ τ:=by
 induction l with
 | nil =>
  intro pre cells n fr H τ hw hB hl hs hb hn h0 h2 h4
  obtain⟨n,rfl⟩:∃ m,n=m+1:=⟨n-1,by simp at hn;omega⟩
  refine⟨H,hB,Gr.refl hw,rfl,?_⟩
  rw[zG]
  simp only[zB8,zA h0,zA h2,zA h4,zAa,zJ,zK,List.append_nil]
  simp[zOl,seqK]
 | cons x l ih =>
  intro pre cells n fr H τ hw hB hl hs hb hn h0 h2 h4
  obtain⟨n,rfl⟩:∃ m,n=m+1:=⟨n-1,by simp at hn;omega⟩
  have hx:=hs x (by simp)
  obtain⟨H1,k1,k2,k3,k4⟩:=hB.eStore hw x.toNat (.bool true) 1 rfl (by omega) rfl τ
  have hcells:cells.take x.toNat++(V.bool true).cells++cells.drop (x.toNat+1)=cells.set x.toNat (.bool true):=by
   rw[List.set_eq_take_append_cons_drop,if_pos (by omega)]
   simp[V.cells]
  rw[hcells]at k2
  have e1:decide ((pre.length:Int)<((pre++x::l).length:Int))=true:=decide_eq_true (by first | (simp;done) | (simp;omega) | omega)
  have e2:zV [.str (pre++x::l),.int .i64 (pre.length:Int)]=some (.int .u8 (x.toNat:Int)):=zDe (by simp)
  have e3:decide (Int.ofNat 128≤(x.toNat:Int))=false:=decide_eq_false (by first | (simp;done) | (simp;omega) | omega)
  have e4:zNf 256 1 [.ptr id 0,.int .u8 (x.toNat:Int)]=some (.ptr id x.toNat):=by
   have:Nat.blt x.toNat 256=true:=by simp[Nat.blt];omega
   simp[zNf,zCK,this]
  have e5:wr .i64 ((pre.length:Int)+Int.ofNat 1)=((pre++[x]).length:Int):=by
   rw[zEb (by first | (simp;done) | (simp;omega) | omega) (by simp at hb;first | (simp;done) | (simp;omega) | omega)]
   simp
  obtain⟨H',m1,m2,m3,m4⟩:=ih (pre++[x]) (cells.set x.toNat (.bool true)) n (T.set (T.set (T.set (T.set (T.set (T.set .leaf 0 (.str (pre++x::l))) 2 (.ptr id 0)) 4 (.int .i64 (pre.length:Int))) 10 (.int .i64 (pre.length:Int))) 11 (.int .i64 ((pre++[x]).length:Int))) 4 (.int .i64 ((pre++[x]).length:Int))) H1 τ k3.wf k2 (by simpa using hl) (fun y hy=>hs y (by simp[hy])) (by simpa using hb) (by simp at hn;omega) (by simp[T.get_set,List.append_assoc]) (by simp[T.get_set]) (by simp[T.get_set])
  refine⟨H',m1,k3.trans m2 (Nat.le_refl _),by omega,?_⟩
  rw[zG]
  simp only[zB8,zA h0,zA h2,zA h4,zAa,zJ,zK,e1,zBE,e2,zBv,e3,zAR,e4,k1,zAP,ze,e5,seqK,m4]
theorem zFa (c:zC)(N:Nat)(hN:9223372036854775807≤N)(l:List UInt8)(hs:∀ x ∈ l,x.toNat<128)(hb:l.length<9223372036854775807)(H:Heap)(hw:WF H)(τ:Tape)(q:KV) :
  ∃ H',Gr H.size H H'∧zC4 c N (.str l) H τ q=q (.tup [.agg (mark (repl 256 [.bool false]) l),.bool true]) H' τ:=by
 have hr:(repl 256 [V.bool false]).length=256:=by rw[zC1];rfl
 have hB:=Blk.new H (repl 256 [V.bool false]) (repl 256 [V.bool false]).length true (Nat.le_refl _)
 have hG:=Gr.new hw (repl 256 [V.bool false]) (repl 256 [V.bool false]).length true
 obtain⟨H1,k1,k2,k3,k4⟩:=set_loop c N (zY 0 (seqK (zDn c N q) (endK [(.cell 2 (some 256)),(.t 3)] q))) l [] _ N (T.set (T.set (T.set .leaf 0 (.str l)) 2 (.ptr H.size 0)) 4 (.int .i64 0)) _ τ hG.wf hB hr hs (by simpa using hb) (by omega) (by simp[T.get_set]) (by simp[T.get_set]) (by simp[T.get_set])
 have hm:(mark (repl 256 [V.bool false]) l).length=256:=by rw[zNp,hr]
 have hsc:∀ (cells:List V),cells.all V.scal=true→(mark cells l).all V.scal=true:=by
  intro cells
  have:∀ (l:List UInt8) (cells:List V),cells.all V.scal=true→(mark cells l).all V.scal=true:=by
   intro l
   induction l with
   | nil=>intro cells h;exact h
   | cons x l ih =>
    intro cells h
    refine ih _ ?_
    rw[List.all_eq_true]at h ⊢
    intro v hv
    rcases List.mem_or_eq_of_mem_set hv with hv | rfl
    ·exact h v hv
    ·rfl
  exact this l cells
 obtain⟨H2,m1,m2,m3,m4⟩:=k1.eStore k2.wf 0 (.agg (mark (repl 256 [.bool false]) l)) 256 hm (by rw[hm];omega) (hsc _ (by rw[zPZ,List.all_eq_true];intro v hv;rw[List.eq_of_mem_replicate hv];rfl)) τ
 have hcells:(mark (repl 256 [V.bool false]) l).take 0++(V.agg (mark (repl 256 [.bool false]) l)).cells++(mark (repl 256 [V.bool false]) l).drop (0+256)=mark (repl 256 [.bool false]) l:=by
  rw[List.take_zero,List.nil_append,V.cells,List.drop_eq_nil_of_le (by rw[hm];omega),List.append_nil]
 rw[hcells]at m2
 have htake:((mark (repl 256 [V.bool false]) l).drop 0).take 256=mark (repl 256 [.bool false]) l:=by
  rw[List.drop_zero,List.take_of_length_le (by rw[hm];omega)]
 refine⟨H2,hG.trans (k2.trans m3 (Nat.le_refl _)) (Nat.le_refl _),?_⟩
 have e1:zBL 256 [.ptr H.size 0] H1=some (.agg (mark (repl 256 [.bool false]) l)):=by
  rw[zBK k1.cells (by rw[hm];omega),htake]
 have e2:zBL 256 [.ptr H.size 0] H2=some (.agg (mark (repl 256 [.bool false]) l)):=by
  rw[zBK m2.cells (by rw[hm];omega),htake]
 simp only[zC4,zDA,zAP]
 rw[show(V.int IntKind.i64 (Int.ofNat 0))=.int .i64 0 from rfl,k4]
 simp only[zY,Nat.beq_refl,cond_true,seqK,zDn]
 simp only[zT,↓reduceIte,Nat.reduceEqDiff]
 rw[e1,zJ,m1,zAP]
 simp only[results,zLX,zQQ,T.get_set,zHE,zOC]
 simp only[show(3:Nat)=2 ↔ False by decide,if_true,if_false]
 simp[e2,zB]
def trimB (p:UInt8→Bool)(s:List UInt8):List UInt8:=((s.reverse.dropWhile p).reverse).dropWhile p
theorem zN2 (c:zC)(N:Nat)(hN:9223372036854775807≤N)(cut s:List UInt8)(hc2:2≤cut.length)(hc3:cut.length<9223372036854775807)(hs:s.length<9223372036854775807)(H:Heap)(hw:WF H)
  (h142:∀ (H:Heap),WF H→∀ τ q,∃ H',Gr H.size H H'∧c zAK [.str cut] H τ q=q (.tup [.agg (mark (repl 256 [.bool false]) cut),.bool true]) H' τ)
  (h143:∀ (s:List UInt8) (id:Nat) (H:Heap),s.length<9223372036854775807→H.cells? id=some (mark (repl 256 [.bool false]) cut)→∀ τ q,c zBf [.str s,.ptr id 0] H τ q=q (.str (s.dropWhile cut.contains)) H τ)
  (h144:∀ (s:List UInt8) (id:Nat) (H:Heap),s.length<9223372036854775807→H.cells? id=some (mark (repl 256 [.bool false]) cut)→∀ τ q,c zBb [.str s,.ptr id 0] H τ q=q (.str (s.reverse.dropWhile cut.contains).reverse) H τ)
  (τ:Tape) (q:KV):∃ H',Gr H.size H H'∧zFz c N (.str s) (.str cut) H τ q=q (.str (trimB cut.contains s)) H' τ:=by
 cases s with
 | nil =>
  refine⟨H,Gr.refl hw,?_⟩
  simp[zFz,zAq,zFi,zJ,zCV,zCX,zBE,trimB,gK]
 | cons x s =>
  obtain⟨H1,k1,k2⟩:=h142 H hw τ (fun v28 H29 τ30 =>
   zB (zF 0 [v28]) fun v31 =>
   zB (zF 1 [v28]) fun v32 =>
   effK (zDA (repl 256 [(.bool false)]) [] H29 τ30) fun v33 H34 τ35 =>
   effK (eStore 256 [v33,v31] H34 τ35) fun v36 H37 τ38 =>
   zW v32
    (c zBb [.str (x::s),v33] H37 τ38 fun v39 H40 τ41 =>
   c zBf [v39,v33] H40 τ41 fun v42 H43 τ44 =>
   q v42 H43 τ44)
    (c zDD [.str (x::s),.str cut] H37 τ38 fun v45 H46 τ47 =>
   c zDh [v45,.str cut] H46 τ47 fun v48 H49 τ50 =>
   q v48 H49 τ50))
  have hr:(repl 256 [V.bool false]).length=256:=by rw[zC1];rfl
  have hm:(mark (repl 256 [V.bool false]) cut).length=256:=by rw[zNp,hr]
  have hB:=Blk.new H1 (repl 256 [V.bool false]) (repl 256 [V.bool false]).length true (Nat.le_refl _)
  have hG:=Gr.new k1.wf (repl 256 [V.bool false]) (repl 256 [V.bool false]).length true
  have hsc:(mark (repl 256 [V.bool false]) cut).all V.scal=true:=by
   have:∀ (l:List UInt8) (cells:List V),cells.all V.scal=true→(mark cells l).all V.scal=true:=by
    intro l
    induction l with
    | nil=>intro cells h;exact h
    | cons x l ih =>
     intro cells h
     refine ih _ ?_
     rw[List.all_eq_true]at h ⊢
     intro v hv
     rcases List.mem_or_eq_of_mem_set hv with hv | rfl
     ·exact h v hv
     ·rfl
   exact this cut _ (by rw[zPZ,List.all_eq_true];intro v hv;rw[List.eq_of_mem_replicate hv];rfl)
  obtain⟨H2,m1,m2,m3,m4⟩:=hB.eStore hG.wf 0 (.agg (mark (repl 256 [.bool false]) cut)) 256 hm (by rw[hr];omega) hsc τ
  have hcells:(repl 256 [V.bool false]).take 0++(V.agg (mark (repl 256 [.bool false]) cut)).cells++(repl 256 [V.bool false]).drop (0+256)=mark (repl 256 [.bool false]) cut:=by
   rw[List.take_zero,List.nil_append,V.cells,List.drop_eq_nil_of_le (by rw[hr];omega),List.append_nil]
  rw[hcells]at m2
  refine⟨H2,k1.trans (hG.trans m3 (Nat.le_refl _)) k1.size,?_⟩
  have e1:((x::s) ==([]:List UInt8))=false:=rfl
  have e2:(cut ==([]:List UInt8))=false:=by cases cut with
   | nil=>simp at hc2
   | cons _ _=>rfl
  have e3:((cut.length:Int) == Int.ofNat 1)=false:=by simp;omega
  simp only[zFz,zAq,zFi,zJ,e1,gK,retK,zAP,e2,beq_self_eq_true,cond_true,zP,cond_false,zAR,zAa,zAi,e3,Bool.false_eq_true,show(false == true)=false from rfl]
  rw[k2]
  simp only[zF,List.getElem?_cons_zero,List.getElem?_cons_succ,zJ,zDA,zAP,m1,zBE]
  rw[h144 _ _ _ hs m2.cells,h143 _ _ _ (by
   have:=(List.dropWhile_sublist (l:=(x::s).reverse) cut.contains).length_le
   simp only[List.length_reverse]at this ⊢
   omega) m2.cells]
  rfl
def lowB (x:UInt8):UInt8:=if 65≤x.toNat∧x.toNat≤90 then UInt8.ofNat (x.toNat+32)else x
def lower (s:List UInt8):List UInt8:=s.map lowB
def bv (s:List UInt8):List V:=s.map fun c=>.int .u8 (c.toNat:Int)
theorem bytesOf_bv (s:List UInt8):bytesOf (bv s)=some s:=by
 induction s with
 | nil=>rfl
 | cons x s ih=>simp only[bv,List.map_cons,bytesOf]at ih ⊢;rw[ih];simp
theorem bv_length (s:List UInt8):(bv s).length=s.length:=by simp[bv]
theorem s69_eval (c:zC)(N:Nat)(x:UInt8)(H:Heap)(τ:Tape)(q:KV):zD4 c N (.int .u8 (x.toNat:Int)) H τ q=q (.int .u8 ((lowB x).toNat:Int)) H τ:=by
 have hx:=u8_lt x
 by_cases h1:65≤x.toNat
 ·have e1:decide (Int.ofNat 65≤(x.toNat:Int))=true:=decide_eq_true (by first | (simp;done) | (simp;omega) | omega)
  by_cases h2:x.toNat≤90
  ·have e2:decide ((x.toNat:Int)≤Int.ofNat 90)=true:=decide_eq_true (by first | (simp;done) | (simp;omega) | omega)
   have e3:wr .u8 ((x.toNat:Int)+Int.ofNat 32)=((lowB x).toNat:Int):=by
    rw[zQz]
    simp only[lowB,h1,h2,and_self,if_true,IntKind.wrap,IntKind.signed,IntKind.bits]
    simp <;> omega
   simp only[zD4,zBv,e1,zC8,zAP,retK,zBu,e2,zJ,zP,cond_true,zBE,ze,e3,zDM]
   simp only[zT,↓reduceIte,Nat.reduceEqDiff]
  ·have e2:decide ((x.toNat:Int)≤Int.ofNat 90)=false:=decide_eq_false (by first | (simp;done) | (simp;omega) | omega)
   have e3:lowB x=x:=by simp[lowB,h2]
   simp only[zD4,zBv,e1,zC8,zAP,retK,zBu,e2,zJ,zP,cond_true,zAR,zDM]
   simp only[zT,↓reduceIte,Nat.reduceEqDiff]
   rw[e3]
 ·have e1:decide (Int.ofNat 65≤(x.toNat:Int))=false:=decide_eq_false (by first | (simp;done) | (simp;omega) | omega)
  have e3:lowB x=x:=by simp[lowB,h1]
  simp only[zD4,zBv,e1,zBM,zJ,zP,cond_false,zAR,zDM]
  simp only[zT,↓reduceIte,Nat.reduceEqDiff]
  rw[e3]
theorem low_loop (c:zC)(N:Nat){B id e m:Nat}(k:KC)(h121:∀ (x:UInt8) H τ q,c zCw [.int .u8 (x.toNat:Int)] H τ q=q (.int .u8 ((lowB x).toNat:Int)) H τ)(l:List UInt8) :
  ∀ (pre:List UInt8) (n:Nat) (fr:T V) (H:Heap) (τ:Tape),WF H→Blk H B id (bv (lower pre++l))→(pre++l).length=m→m<9223372036854775807→l.length<n →
  fr.get 1=some (.func zCw [] [])→fr.get 5=some (.sl id 0 m m (some e) 1)→fr.get 10=some (.sl id 0 m m (some e) 1)→fr.get 11=some (.int .i64 (m:Int))→fr.get 12=some (.int .i64 (pre.length:Int)) →
  ∃ H',Blk H' B id (bv (lower (pre++l)))∧Gr B H H'∧zAf (zFX c N) n ⟨fr,H⟩ τ k=k (.exit 0) ⟨T.set .leaf 5 (.sl id 0 m m (some e) 1),H'⟩ τ:=by
 induction l with
 | nil =>
  intro pre n fr H τ hw hB hm hmb hn h1 h5 h10 h11 h12
  obtain⟨n,rfl⟩:∃ j,n=j+1:=⟨n-1,by simp at hn;omega⟩
  refine⟨H,by simpa using hB,Gr.refl hw,?_⟩
  have e1:decide ((pre.length:Int)<(m:Int))=false:=decide_eq_false (by simp at hm;omega)
  rw[zG]
  simp only[zFX,zA h1,zA h5,zA h10,zA h11,zA h12,zK,e1,zAR,seqK]
 | cons x l ih =>
  intro pre n fr H τ hw hB hm hmb hn h1 h5 h10 h11 h12
  obtain⟨n,rfl⟩:∃ j,n=j+1:=⟨n-1,by simp at hn;omega⟩
  have hlt:pre.length<m:=by simp at hm;omega
  have e1:decide ((pre.length:Int)<(m:Int))=true:=decide_eq_true (by omega)
  have e2:zDQ 1 [.sl id 0 m m (some e) 1,.int .i64 (pre.length:Int)]=some (.ptr id pre.length):=by
   have:Nat.blt pre.length m=true:=by simp[Nat.blt];omega
   simp[zDQ,zCK,this]
  have e3:zM [.ptr id pre.length] H=some (.int .u8 (x.toNat:Int)):=by
   refine zU hB.cells ?_
   have:pre.length=(bv (lower pre)).length:=by simp[bv,lower]
   simp[bv,lower]
  obtain⟨H1,k1,k2,k3,k4⟩:=hB.eStore hw pre.length (.int .u8 ((lowB x).toNat:Int)) 1 rfl (by simp[bv,lower]) rfl τ
  have hcells:(bv (lower pre++x::l)).take pre.length++(V.int .u8 ((lowB x).toNat:Int)).cells++(bv (lower pre++x::l)).drop (pre.length+1)=bv (lower (pre++[x])++l):=by
   have hl:pre.length=(lower pre).length:=by simp[lower]
   simp only[bv,List.map_append,List.map_cons]
   rw[List.take_append_of_le_length (by simp[lower]),List.take_of_length_le (by simp[lower]),List.drop_append]
   simp[lower,V.cells]
  rw[hcells]at k2
  have e5:wr .i64 ((pre.length:Int)+Int.ofNat 1)=((pre++[x]).length:Int):=by
   rw[zEb (by first | (simp;done) | (simp;omega) | omega) (by first | (simp;done) | (simp;omega) | omega)]
   simp
  obtain⟨H',m1,m2,m3⟩:=ih (pre++[x]) n (T.set (T.set (T.set (T.set (T.set (T.set (T.set .leaf 1 (.func zCw [] [])) 5 (.sl id 0 m m (some e) 1)) 10 (.sl id 0 m m (some e) 1)) 11 (.int .i64 (m:Int))) 12 (.int .i64 (pre.length:Int))) 23 (.int .i64 ((pre++[x]).length:Int))) 12 (.int .i64 ((pre++[x]).length:Int))) H1 τ k3.wf k2 (by simpa using hm) hmb (by simp at hn;omega) (by simp[T.get_set]) (by simp[T.get_set]) (by simp[T.get_set]) (by simp[T.get_set]) (by simp[T.get_set])
  refine⟨H',by simpa using m1,k3.trans m2 (Nat.le_refl _),?_⟩
  rw[zG]
  simp only[zFX,zA h1,zA h5,zA h10,zA h11,zA h12,zK,e1,zBE,e2,zJ,e3,opK,List.nil_append,List.append_nil,h121,k1,zAP,ze,e5,seqK,m3]
theorem zNw (c:zC)(N:Nat)(hN:9223372036854775807≤N)(s:List UInt8)(hs:s.length≤140737488355328)(H:Heap)(hw:WF H)
  (h121:∀ (x:UInt8) H τ q,c zCw [.int .u8 (x.toNat:Int)] H τ q=q (.int .u8 ((lowB x).toNat:Int)) H τ) (τ:Tape) (q:KV) :
  ∃ H' τ',Gr H.size H H'∧zHn c N (.str s) (.func zCw [] []) H τ q=q (.str (lower s)) H' τ':=by
 have hB:=Blk.new H (bv s) ((s.length+spare s.length (τ 0))*1) false (by rw[bv_length];omega)
 have hG:=Gr.new hw (bv s) ((s.length+spare s.length (τ 0))*1) false
 obtain⟨H',m1,m2,m3⟩:=low_loop c N (e:=spare s.length (τ 0)) (m:=s.length) (zY 0 (seqK (zHe c N q) (endK [(.t 4)] q))) h121 s [] N (T.set (T.set (T.set (T.set (T.set .leaf 1 (.func zCw [] [])) 5 (.sl H.size 0 s.length s.length (some (spare s.length (τ 0))) 1)) 10 (.sl H.size 0 s.length s.length (some (spare s.length (τ 0))) 1)) 11 (.int .i64 (s.length:Int))) 12 (.int .i64 0)) _ τ.tail hG.wf (by simpa [lower] using hB) (by simp) (by omega) (by omega) (by simp[T.get_set]) (by simp[T.get_set]) (by simp[T.get_set]) (by simp[T.get_set]) (by simp[T.get_set])
 refine⟨H',τ.tail,hG.trans m2 (Nat.le_refl _),?_⟩
 have e1:zF1 [.str s] H τ=some (.sl H.size 0 s.length s.length (some (spare s.length (τ 0))) 1,H.new (bv s) ((s.length+spare s.length (τ 0))*1) false,τ.tail):=by
  simp only[zF1,Nat.ble_eq_true_of_le hs,cond_true,fresh]
  rfl
 have e2:pLen [.sl H.size 0 s.length s.length (some (spare s.length (τ 0))) 1]=some (.int .i64 (s.length:Int)):=rfl
 have e3:zMA [.sl H.size 0 s.length s.length (some (spare s.length (τ 0))) 1] H'=some (.str (lower s)):=by
  have hl:(bv (lower ([]++s))).length=s.length:=by simp[bv,lower]
  simp only[zMA,zC0 m1.cells (show 0+s.length≤_ by rw[hl];omega),List.drop_zero]
  rw[List.take_of_length_le (by rw[hl];omega)]
  simp[bytesOf_bv]
 simp only[zHn,e1,zAP,e2,zJ]
 rw[show(V.int IntKind.i64 (Int.ofNat 0))=.int .i64 0 from rfl,m3]
 simp only[zY,Nat.beq_refl,cond_true,seqK,zHe]
 simp only[zT,↓reduceIte,Nat.reduceEqDiff]
 rw[e3,zJ]
def zDu:Int:=9223372036854775807
def zKy (n:Int)(d:Int):Int:=if(zDu-d).tdiv 10<n then zDu else n*10+d
def intL:List UInt8→Int→Option Int
 | [],n=>some n
 | x::l,n=>if 48≤x.toNat∧x.toNat≤57 then intL l (zKy n ((x.toNat:Int)-48))else none
theorem zN5 {n d:Int}(h0:0≤n)(h1:n≤zDu)(hd:0≤d)(hd':d≤9):0≤zKy n d∧zKy n d≤zDu:=by
 unfold zKy zDu at *
 split
 ·omega
 ·rename_i h
  rw[Int.tdiv_eq_ediv_of_nonneg (by omega)]at h
  omega
theorem int_loop (c:zC)(N:Nat)(k:KC)(H:Heap)(s:List UInt8)(hs:s.length<9223372036854775807)(l:List UInt8):∀ (pre:List UInt8) (v:Int) (n:Nat) (fr:T V) (τ:Tape),s=pre++l→0≤v→v≤zDu→l.length<n →
  fr.get 0=some (.str s)→fr.get 4=some (.int .i64 v)→fr.get 9=some (.int .i64 (s.length:Int))→fr.get 10=some (.int .i64 (pre.length:Int)) →
  zAf (zHq c N) n ⟨fr,H⟩ τ k=match intL l v with
   | some m=>k (.exit 0) ⟨T.set (T.set .leaf 0 (.str s)) 4 (.int .i64 m),H⟩ τ
   | none=>k .ret ⟨T.set (T.set .leaf 2 (.int .i64 (.ofNat 0))) 3 (.bool false),H⟩ τ:=by
 induction l with
 | nil =>
  intro pre v n fr τ he h0 h1 hn f0 f4 f9 f10
  obtain⟨n,rfl⟩:∃ j,n=j+1:=⟨n-1,by simp at hn;omega⟩
  have e1:decide ((pre.length:Int)<(s.length:Int))=false:=decide_eq_false (by rw[he];simp)
  rw[zG]
  simp only[zHq,zA f0,zA f4,zA f9,zA f10,zK,e1,zAR,seqK,intL]
 | cons x l ih =>
  intro pre v n fr τ he h0 h1 hn f0 f4 f9 f10
  obtain⟨n,rfl⟩:∃ j,n=j+1:=⟨n-1,by simp at hn;omega⟩
  have e1:decide ((pre.length:Int)<(s.length:Int))=true:=decide_eq_true (by rw[he];first | (simp;done) | (simp;omega))
  have e2:zV [.str s,.int .i64 (pre.length:Int)]=some (.int .u8 (x.toNat:Int)):=zDe (by rw[he];simp)
  have hx:=u8_lt x
  rw[zG]
  simp only[zHq,zA f0,zA f4,zA f9,zA f10,zK,e1,zBE,e2,zJ]
  by_cases h48:48≤x.toNat
  ·have e3:decide ((x.toNat:Int)<Int.ofNat 48)=false:=decide_eq_false (by first | (simp;done) | (simp;omega) | omega)
   by_cases h57:x.toNat≤57
   ·have e4:decide (Int.ofNat 57<(x.toNat:Int))=false:=decide_eq_false (by first | (simp;done) | (simp;omega) | omega)
    have e5:wr .u8 ((x.toNat:Int)-Int.ofNat 48)=(x.toNat:Int)-48:=by
     rw[zQz];simp[IntKind.wrap,IntKind.signed,IntKind.bits];omega
    have e6:wr .i64 ((x.toNat:Int)-48)=(x.toNat:Int)-48:=zEb (by omega) (by omega)
    have e7:wr .i64 (Int.ofNat 9223372036854775807-((x.toNat:Int)-48))=zDu-((x.toNat:Int)-48):=by
     rw[zEb (by first | (simp;done) | (simp;omega) | omega) (by first | (simp;done) | (simp;omega) | omega)];rfl
    have e8:wr .i64 ((zDu-((x.toNat:Int)-48)).tdiv (Int.ofNat 10))=(zDu-((x.toNat:Int)-48)).tdiv 10:=by
     have:(zDu-((x.toNat:Int)-48)).tdiv (Int.ofNat 10)=(zDu-((x.toNat:Int)-48)).tdiv 10:=rfl
     rw[this,Int.tdiv_eq_ediv_of_nonneg (by unfold zDu;omega)]
     unfold zDu
     exact zEb (by omega) (by omega)
    have e9:wr .i64 ((pre.length:Int)+Int.ofNat 1)=((pre++[x]).length:Int):=by
     have:s.length=pre.length+(l.length+1):=by rw[he];simp
     rw[zEb (by first | (simp;done) | (simp;omega) | omega) (by first | (simp;done) | (simp;omega) | omega)]
     simp
    have hstep:=zN5 h0 h1 (d:=(x.toNat:Int)-48) (by omega) (by omega)
    have hI:intL (x::l) v=intL l (zKy v ((x.toNat:Int)-48)):=by simp only[intL,h48,h57,and_self,if_true]
    simp only[zK,e3,zC9,zAP,retK,zAQ,e4,zJ,zP,cond_false,zAR,zCi,e5,toInt_mk,e6,e7]
    rw[bin_quo _ _ _ (by decide)]
    simp only[e8,zAQ]
    by_cases hq:(zDu-((x.toNat:Int)-48)).tdiv 10<v
    ·have hI2:zKy v ((x.toNat:Int)-48)=zDu:=by simp only[zKy,hq,if_true]
     rw[decide_eq_true hq]
     simp only[zBE,zHs]
     simp only[zT,↓reduceIte,Nat.reduceEqDiff]
     simp only[ze,e9,seqK]
     rw[ih (pre++[x]) zDu n _ τ (by rw[he];simp) (by unfold zDu;omega) (Int.le_refl _) (by simp at hn;omega) (by simp[T.get_set]) (by simp[T.get_set];rfl) (by simp[T.get_set]) (by simp[T.get_set]),hI,hI2]
    ·have hI2:zKy v ((x.toNat:Int)-48)=v*10+((x.toNat:Int)-48):=by simp only[zKy,hq,if_false]
     rw[decide_eq_false hq]
     have hv:v*10+((x.toNat:Int)-48)≤zDu:=by rw[← hI2];exact hstep.2
     have e10:wr .i64 (v*Int.ofNat 10)=v*10:=by
      have:v*Int.ofNat 10=v*10:=rfl
      rw[this,zEb (by omega) (by unfold zDu at hv;omega)]
     have e11:wr .i64 (v*10+((x.toNat:Int)-48))=v*10+((x.toNat:Int)-48):=zEb (by omega) hv
     simp only[zAR,bin_mul,e10,ze,e11,zHs]
     simp only[zT,↓reduceIte,Nat.reduceEqDiff]
     simp only[ze,e9,seqK]
     rw[ih (pre++[x]) (v*10+((x.toNat:Int)-48)) n _ τ (by rw[he];simp) (by omega) hv (by simp at hn;omega) (by simp[T.get_set]) (by simp[T.get_set]) (by simp[T.get_set]) (by simp[T.get_set]),hI,hI2]
   ·have e4:decide (Int.ofNat 57<(x.toNat:Int))=true:=decide_eq_true (by first | (simp;done) | (simp;omega) | omega)
    have hI:intL (x::l) v=none:=by simp only[intL,h57,and_false,if_false]
    simp only[zK,e3,zC9,zAP,retK,zAQ,e4,zJ,zP,cond_false,zBE,seqK,hI]
  ·have e3:decide ((x.toNat:Int)<Int.ofNat 48)=true:=decide_eq_true (by first | (simp;done) | (simp;omega) | omega)
   have hI:intL (x::l) v=none:=by simp only[intL,h48,false_and,if_false]
   simp only[zK,e3,zCV,zJ,zP,cond_true,zBE,seqK,hI]
def intB (s:List UInt8):Int × Bool :=
 match intL s 0 with
 | some n=>(n,decide (0<s.length))
 | none=>(0,false)
theorem s67_eval (c:zC)(N:Nat)(hN:9223372036854775807≤N)(s:List UInt8)(hs:s.length<9223372036854775807)(H:Heap)(τ:Tape)(q:KV) :
  zKz c N (.str s) H τ q=q (.tup [.int .i64 (intB s).1,.bool (intB s).2]) H τ:=by
 have h:=int_loop c N (zY 0 (seqK (zJ0 c N q) (endK [(.t 2),(.t 3)] q))) H s hs s [] 0 N (T.set (T.set (T.set (T.set .leaf 0 (.str s)) 4 (.int .i64 0)) 9 (.int .i64 (s.length:Int))) 10 (.int .i64 0)) τ rfl (Int.le_refl _) (by unfold zDu;omega) (by omega) (by simp[T.get_set]) (by simp[T.get_set]) (by simp[T.get_set]) (by simp[T.get_set])
 simp only[zKz,zAa,zJ]
 rw[show(V.int IntKind.i64 (Int.ofNat 0))=.int .i64 0 from rfl,h]
 unfold intB
 cases hI:intL s 0 with
 | none =>
  simp only[zY,seqK,endK,results,zLX,zQQ,T.get_set]
  rfl
 | some m =>
  simp only[zY,Nat.beq_refl,cond_true,seqK,zJ0]
  simp only[zT,↓reduceIte,Nat.reduceEqDiff]
  rw[zAa,zJ,zAQ]
  simp
abbrev Bs:=List UInt8
abbrev LowOk (c:zC):Prop:=∀ (s:Bs),s.length≤140737488355328→∀ (H:Heap),WF H→∀ τ q,∃ H' τ',Gr H.size H H'∧c zA5 [.str s] H τ q=q (.str (lower s)) H' τ'
theorem zPO (c:zC)(N:Nat)(h92:LowOk c)(n v name:Bs)(hn:n.length≤140737488355328)(hm:name.length≤140737488355328)(H:Heap)(hw:WF H)(τ:Tape)(q:KV) :
  ∃ H' τ',Gr H.size H H'∧zJp c N (.agg [.str n,.str v]) (.str name) H τ q=q (.bool (lower n == lower name)) H' τ':=by
 have hG:=Gr.new hw [V.str n,V.str v] 2 true
 have hB:=Blk.new H [V.str n,V.str v] 2 true (Nat.le_refl _)
 obtain⟨H2,τ2,k1,k2⟩:=h92 n hn _ hG.wf τ (fun v5 H6 τ7=>c zA5 [.str name] H6 τ7 fun v8 H9 τ10=>binK .eql v5 v8 fun v11=>q v11 H9 τ10)
 obtain⟨H3,τ3,m1,m2⟩:=h92 name hm _ k1.wf τ2 (fun v8 H9 τ10=>binK .eql (.str (lower n)) v8 fun v11=>q v11 H9 τ10)
 refine⟨H3,τ3,hG.trans (k1.trans m1 k1.size) hG.size,?_⟩
 have e1:eBox [.agg [.str n,.str v]] H τ=some (.ptr H.size 0,H.new [.str n,.str v] 2 true,τ):=rfl
 have e2:zM [.ptr H.size 0] (H.new [.str n,.str v] 2 true)=some (.str n):=zU hB.cells rfl
 simp only[zJp,e1,zAP,zD,Nat.add_zero,zJ,e2,k2,m2,zAq,zFi]
def hcells (l:List (Bs × Bs)):List V:=l.flatMap fun h=>[.str h.1,.str h.2]
theorem zCy (h:Bs × Bs)(l:List (Bs × Bs)):hcells (h::l)=.str h.1 :: .str h.2::hcells l:=rfl
theorem zKq (a b:List (Bs × Bs)):hcells (a++b)=hcells a++hcells b:=by simp[hcells]
theorem zK9 (l:List (Bs × Bs)):(hcells l).length=l.length*2:=by
 induction l with
 | nil=>rfl
 | cons h l ih=>rw[zCy];simp only[List.length_cons,ih];omega
def sel (name:Bs)(l:List (Bs × Bs)):List Bs:=(l.filter fun h=>lower h.1 == lower name).map (·.2)
theorem get_loop (c:zC)(N:Nat){B id off m lo:Nat}{ex:Option Nat}{all:List V}(k:KC)(name:Bs)(hname:name.length≤140737488355328)(hs:List (Bs × Bs))(hm:hs.length=m)(hmb:m≤4294967296)(hsz:∀ h ∈ hs,h.1.length≤140737488355328)
  (hall:(all.drop off).take (m*2)=hcells hs) (hlen:off+m*2≤all.length)
  (h112:∀ (n v:Bs),n.length≤140737488355328→∀ (H:Heap),WF H→∀ τ q,∃ H' τ',Gr H.size H H'∧c zDW [.agg [.str n,.str v],.str name] H τ q=q (.bool (lower n == lower name)) H' τ') (l:List (Bs × Bs)) :
  ∀ (pre:List (Bs × Bs)) (v6:V) (vals:List Bs) (n:Nat) (fr:T V) (H:Heap) (τ:Tape),WF H→B≤H.size→hs=pre++l→H.cells? id=some all→Own H B 1 v6 vals.length (vals.map V.str)→vals.length+l.length≤4294967296→l.length<n →
  fr.get 1=some (.str name)→fr.get 6=some v6→fr.get 9=some (.sl id off m lo ex 2)→fr.get 10=some (.int .i64 (m:Int))→fr.get 11=some (.int .i64 (pre.length:Int)) →
  ∃ v6' H' τ',Gr B H H'∧Own H' B 1 v6' (vals++sel name l).length ((vals++sel name l).map V.str)∧zAf (zCY c N) n ⟨fr,H⟩ τ k=k (.exit 0) ⟨T.set .leaf 6 v6',H'⟩ τ':=by
 induction l with
 | nil =>
  intro pre v6 vals n fr H τ hw hB he hc ho hb hn f1 f6 f9 f10 f11
  obtain⟨n,rfl⟩:∃ j,n=j+1:=⟨n-1,by simp at hn;omega⟩
  refine⟨v6,H,τ,Gr.refl hw,by simpa [sel] using ho,?_⟩
  have e1:decide ((pre.length:Int)<(m:Int))=false:=decide_eq_false (by rw[← hm,he];simp)
  rw[zG]
  simp only[zCY,zA f1,zA f6,zA f9,zA f10,zA f11,zK,e1,zAR,seqK]
 | cons h l ih =>
  intro pre v6 vals n fr H τ hw hB he hc ho hb hn f1 f6 f9 f10 f11
  obtain⟨n,rfl⟩:∃ j,n=j+1:=⟨n-1,by simp at hn;omega⟩
  have hmm:m=pre.length+(l.length+1):=by rw[← hm,he];simp
  have e1:decide ((pre.length:Int)<(m:Int))=true:=decide_eq_true (by omega)
  have e2:zDQ 2 [.sl id off m lo ex 2,.int .i64 (pre.length:Int)]=some (.ptr id (off+pre.length*2)):=by
   have:Nat.blt pre.length m=true:=by simp[Nat.blt];omega
   simp[zDQ,zCK,this]
  have e3:zBL 2 [.ptr id (off+pre.length*2)] H=some (.agg [.str h.1,.str h.2]):=by
   rw[zBK hc (by omega)]
   have h1:(all.drop (off+pre.length*2)).take 2=((hcells hs).drop (pre.length*2)).take 2:=by
    rw[← hall,List.drop_take,List.take_take,List.drop_drop,Nat.min_eq_left (by omega)]
   rw[h1,he,zKq,← zK9 pre,List.drop_left,zCy]
   rfl
  have hG:=Gr.new hw [V.str [],V.str []] 2 true
  have hK:=Blk.new H [V.str [],V.str []] 2 true (Nat.le_refl _)
  have e4:zDA [.str [],.str []] [] H τ=some (.ptr H.size 0,H.new [V.str [],V.str []] 2 true,τ):=rfl
  obtain⟨H1,k1,k2,k3,k4⟩:=hK.eStore hG.wf 0 (.agg [.str h.1,.str h.2]) 2 rfl (by simp) rfl τ
  have k2:Blk H1 H.size H.size [.str h.1,.str h.2]:=k2
  have hG1:=hG.trans k3 (Nat.le_refl _)
  have e5:zBL 2 [.ptr H.size 0] H1=some (.agg [.str h.1,.str h.2]):=by rw[zBK k2.cells (by simp)];rfl
  have e9:wr .i64 ((pre.length:Int)+Int.ofNat 1)=((pre++[h]).length:Int):=by
   rw[zEb (by first | (simp;done) | (simp;omega) | omega) (by first | (simp;done) | (simp;omega) | omega)]
   simp
  obtain⟨H2,τ2,p1,p2⟩:=h112 h.1 h.2 (hsz h (by rw[he];simp)) H1 k3.wf τ (fun v17 H18 τ19 =>
   zW v17
    (zB (zD 1 [.ptr H.size 0]) fun v20 =>
   zB (zM [v20] H18) fun v21 =>
   effK (zR 1 1 [(.str [])] [(0,1)] [v21] H18 τ19) fun v22 H23 τ24 =>
   effK (zu 1 16 [v6,v22] H23 τ24) fun v25 H26 τ27 =>
   zDH c N (seqK (fun st τ=>zAf (zCY c N) n st τ k) k) ⟨(T.set (T.set (T.set (T.set (T.set (T.set (T.set (T.set (T.set (T.set (T.set (T.set (T.set .leaf 1 (.str name)) 6 v6) 8 (.ptr H.size 0)) 9 (.sl id off m lo ex 2)) 10 (.int .i64 (m:Int))) 11 (.int .i64 (pre.length:Int))) 17 v17) 18 v6) 19 v20) 20 v21) 21 v22) 22 v25) 6 v25),H26⟩ τ27)
    (zDH c N (seqK (fun st τ=>zAf (zCY c N) n st τ k) k) ⟨(T.set (T.set (T.set (T.set (T.set (T.set (T.set .leaf 1 (.str name)) 6 v6) 8 (.ptr H.size 0)) 9 (.sl id off m lo ex 2)) 10 (.int .i64 (m:Int))) 11 (.int .i64 (pre.length:Int))) 17 v17),H18⟩ τ19))
  have hG2:Gr H.size H H2:=hG1.trans p1 (by rw[k4];exact Nat.le_succ _)
  have hw2:=p1.wf
  have ho2:=ho.gr hG2 hw (Nat.le_refl _)
  have hc2:=hG2.cells hw (Nat.le_refl _) hc
  rw[zG]
  simp only[zCY,zA f1,zA f6,zA f9,zA f10,zA f11,zK,e1,zBE,e2,zJ,e3,e4,zAP,k1,e5,p2]
  cases hsel:lower h.1 == lower name with
  | false =>
   obtain⟨v6',H',τ',q1,q2,q3⟩:=ih (pre++[h]) v6 vals n (T.set (T.set (T.set (T.set (T.set (T.set (T.set .leaf 1 (.str name)) 6 v6) 9 (.sl id off m lo ex 2)) 10 (.int .i64 (m:Int))) 11 (.int .i64 (pre.length:Int))) 23 (.int .i64 ((pre++[h]).length:Int))) 11 (.int .i64 ((pre++[h]).length:Int))) H2 τ2 hw2 (by have:=hG2.size;omega) (by rw[he];simp) hc2 ho2 (by simp at hb;omega) (by simp at hn;omega) (by simp[T.get_set]) (by simp[T.get_set]) (by simp[T.get_set]) (by simp[T.get_set]) (by simp[T.get_set])
   refine⟨v6',H',τ',(hG2.weaken hB).trans q1 (Nat.le_refl _),by simpa [sel,hsel] using q2,?_⟩
   simp only[zAR,zDH]
   simp only[zT,↓reduceIte,Nat.reduceEqDiff]
   simp only[ze,e9,seqK,q3]
  | true =>
   have hblk2:=k2.gr p1 k3.wf (Nat.le_refl _)
   have e6:zM [.ptr H.size (0+1)] H2=some (.str h.2):=zU hblk2.cells rfl
   have hG3:=Gr.new hw2 [V.str h.2] (1*1) false
   have e7:zR 1 1 [(.str [])] [(0,1)] [.str h.2] H2 τ2=some (.sl H2.size 0 1 1 none 1,H2.new [.str h.2] (1*1) false,τ2):=rfl
   have ho3:=ho2.gr hG3 hw2 (Nat.le_refl _)
   have hc3:=hG3.cells hw2 (Nat.le_refl _) hc2
   obtain⟨v25,H4,r1,r2,r3,r4⟩:=ho3.append (bytes:=16) hG3.wf (by have:=hG2.size;have:=hG3.size;omega) 1 [.str h.2] (by omega) rfl rfl (by simp at hb;omega) (by simp at hb;omega) τ2
   have e8:zu 1 16 [v6,.sl H2.size 0 1 1 none 1] (H2.new [.str h.2] (1*1) false) τ2=some (v25,H4,τ2.tail):=by
    have hl:(H2.new [V.str h.2] (1*1) false).loads H2.size 0 (1*1)=some [.str h.2]:=by
     rw[zC0 (zH6 _ _ _ _) (by simp)];rfl
    simp only[zu,zFd,zCQ,Nat.beq_refl,cond_true,hl,r1]
   obtain⟨v6',H',τ',q1,q2,q3⟩:=ih (pre++[h]) v25 (vals++[h.2]) n (T.set (T.set (T.set (T.set (T.set (T.set (T.set .leaf 1 (.str name)) 6 v25) 9 (.sl id off m lo ex 2)) 10 (.int .i64 (m:Int))) 11 (.int .i64 (pre.length:Int))) 23 (.int .i64 ((pre++[h]).length:Int))) 11 (.int .i64 ((pre++[h]).length:Int))) H4 τ2.tail r3.wf (by have:=hG2.size;have:=hG3.size;have:=r3.size;omega) (by rw[he];simp) (r4 _ _ hc3) (by simpa using r2) (by simp at hb;first | (simp;done) | (simp;omega) | omega) (by simp at hn;omega) (by simp[T.get_set]) (by simp[T.get_set]) (by simp[T.get_set]) (by simp[T.get_set]) (by simp[T.get_set])
   refine⟨v6',H',τ',?_,by simpa [sel,hsel] using q2,?_⟩
   ·exact((hG2.trans hG3 hG2.size).weaken hB).trans (r3.trans q1 (Nat.le_refl _)) (Nat.le_refl _)
   simp only[zBE,zD,zJ,e6,e7,zAP,e8,zDH]
   simp only[zT,↓reduceIte,Nat.reduceEqDiff]
   simp only[ze,e9,seqK,q3]
theorem zOh (l:List Bs):strsOf (l.map V.str)=some l:=by
 induction l with
 | nil=>rfl
 | cons x l ih=>simp only[List.map_cons,strsOf,ih]
theorem join_own {H:Heap}{B:Nat}{v:V}{n:Nat}{vals:List Bs}{sep:Bs}(ho:Own H B 1 v n (vals.map V.str))(h1:(zOW sep vals).length≤140737488355328)(h2:n≤140737488355328)(τ:Tape):zLz [v,.str sep] H τ=some (.str (zOW sep vals),H,τ):=by
 have hc:=ho.rd
 rcases ho with⟨rfl,rfl,hv⟩ | ⟨id,e,room,fam,ver,pl,st,fr,rfl,k2,k3,k4,k5,k6,k7⟩
 ·have:vals=[]:=by simpa using hv
  subst this
  rfl
 ·have hcells:H.cells? id=some (vals.map V.str):=by
   simp only[Heap.cells?,k2,k3]
   rw[show Nat.ble fr ver=true from Nat.ble_eq_true_of_le k4]
   rfl
  have hl:H.loads id 0 n=some (vals.map V.str):=by
   rw[zC0 hcells (by rw[k7];omega),List.drop_zero,List.take_of_length_le (by rw[k7];omega)]
  simp only[zLz,Nat.beq_refl,cond_true,hl,zOh,Nat.ble_eq_true_of_le h1,Nat.ble_eq_true_of_le h2,Bool.and_self]
theorem own_len {H:Heap}{B z:Nat}{v:V}{n:Nat}{cs:List V}(ho:Own H B z v n cs):pLen [v]=some (.int .i64 (n:Int)):=by
 rcases ho with⟨rfl,rfl,_⟩ | ⟨id,e,room,fam,ver,pl,st,fr,rfl,_⟩ <;> rfl
theorem rd_len {H:Heap}{z:Nat}{v:V}{n:Nat}{cs:List V}(ho:Rd H z v n cs):pLen [v]=some (.int .i64 (n:Int)):=by
 rcases ho with⟨rfl | ⟨id,off,lo,ex,rfl⟩,rfl,_⟩ | ⟨id,off,lo,ex,all,rfl,_⟩ <;> rfl
def getT (name:Bs)(hs:List (Bs × Bs)):Bs:=zOW [44,32] (sel name hs)
theorem zOe (c:zC)(N:Nat)(hN:9223372036854775807≤N)(name:Bs)(hname:name.length≤140737488355328)(hs:List (Bs × Bs))(hmb:hs.length≤4294967296)(hsz:∀ h ∈ hs,h.1.length≤140737488355328)(hj:(getT name hs).length≤140737488355328)
  (h113:∀ vs H τ q,c zNF vs H τ q=effK (zLz vs H τ) q)
  (h112:∀ (n v:Bs),n.length≤140737488355328→∀ (H:Heap),WF H→∀ τ q,∃ H' τ',Gr H.size H H'∧c zDW [.agg [.str n,.str v],.str name] H τ q=q (.bool (lower n == lower name)) H' τ')
  (v:V) (H:Heap) (hw:WF H) (hr:Rd H 2 v hs.length (hcells hs)) (τ:Tape) (q:KV) :
  ∃ H' τ',Gr H.size H H'∧zGt c N v (.str name) H τ q=q (.tup [.str (getT name hs),.bool (decide (0<(sel name hs).length))]) H' τ':=by
 have hend:∀ (v6:V) (H':Heap) (τ':Tape),Own H' H.size 1 v6 (sel name hs).length ((sel name hs).map V.str) →
   (zY 0 (seqK (zGB c N q) (endK [(.t 4),(.t 5)] q))) (.exit 0) ⟨T.set .leaf 6 v6,H'⟩ τ'=q (.tup [.str (getT name hs),.bool (decide (0<(sel name hs).length))]) H' τ':=by
  intro v6 H' τ' ho
  have hsl:(sel name hs).length≤hs.length:=by
   simp only[sel,List.length_map]
   exact List.length_filter_le _ _
  simp only[zY,Nat.beq_refl,cond_true,seqK,zGB,zT,↓reduceIte,h113]
  rw[show bs [44,32]=[44,32]from rfl,join_own ho hj (by omega),zAP,own_len ho,zJ,zAQ]
  have:decide (Int.ofNat 0<((sel name hs).length:Int))=decide (0<(sel name hs).length):=by
   rw[decide_eq_decide];simp <;> omega
  rw[this]
  rfl
 by_cases h0:hs=[]
 ·subst h0
  refine⟨H,τ,Gr.refl hw,?_⟩
  obtain⟨N,rfl⟩:∃ j,N=j+1:=⟨N-1,by omega⟩
  simp only[zGt,rd_len hr,zJ,zG,zCY,zT,↓reduceIte,Nat.reduceEqDiff]
  rw[zK,show decide (Int.ofNat 0<((([]:List (Bs × Bs)).length:Nat):Int))=false from rfl,zAR,seqK]
  exact hend .nils H τ (Own.nil _ _ _)
 ·rcases hr with⟨_,hz,_⟩ | ⟨id,off,lo,ex,all,rfl,hc,hall,hlen⟩
  ·exact absurd (List.length_eq_zero_iff.1 hz) h0
  ·have hpos:0<hs.length:=List.length_pos_iff.2 h0
   have hl:off+hs.length*2≤all.length:=by
    have:=hlen
    rw[hall,List.length_take,List.length_drop]at this
    omega
   obtain⟨v6,H',τ',k1,k2,k3⟩:=get_loop c N (B:=H.size) (lo:=lo) (ex:=ex) (zY 0 (seqK (zGB c N q) (endK [(.t 4),(.t 5)] q))) name hname hs rfl hmb hsz hall.symm hl h112 hs [] .nils [] N (T.set (T.set (T.set (T.set (T.set .leaf 1 (.str name)) 6 .nils) 9 (.sl id off hs.length lo ex 2)) 10 (.int .i64 (hs.length:Int))) 11 (.int .i64 0)) H τ hw (Nat.le_refl _) rfl hc (Own.nil _ _ _) (by simpa using hmb) (by omega) (by simp[T.get_set]) (by simp[T.get_set]) (by simp[T.get_set]) (by simp[T.get_set]) (by simp[T.get_set])
   refine⟨H',τ',k1,?_⟩
   have e1:pLen [.sl id off hs.length lo ex 2]=some (.int .i64 (hs.length:Int)):=rfl
   simp only[zGt,e1,zJ]
   rw[show(V.int IntKind.i64 (Int.ofNat 0))=.int .i64 0 from rfl,k3]
   exact hend v6 H' τ' (by simpa using k2)
abbrev TrimOk (c:zC)(cut:Bs):Prop:=∀ (s:Bs),s.length<9223372036854775807→∀ (H:Heap),WF H→∀ τ q,∃ H',Gr H.size H H'∧c zCl [.str s,.str cut] H τ q=q (.str (trimB cut.contains s)) H' τ
def cutB (x:UInt8):Bs→Option (Bs × Bs)
 | []=>none
 | y::l=>if y=x then some ([],l)else match cutB x l with
  | some (a,b)=>some (y::a,b)
  | none=>none
theorem zQF (x:UInt8):∀ (s:Bs),(cutB x s=none→idxB x.toNat s 0=-1)∧(∀ a b,cutB x s=some (a,b)→s=a++x::b∧idxB x.toNat s 0=(a.length:Int)):=by
 intro s
 have key:∀ (s:Bs) (i:Nat),(cutB x s=none→idxB x.toNat s i=-1)∧(∀ a b,cutB x s=some (a,b)→s=a++x::b∧idxB x.toNat s i=((i+a.length:Nat):Int)):=by
  intro s
  induction s with
  | nil=>intro i;exact⟨fun _=>rfl,fun a b h=>by cases h⟩
  | cons y l ih =>
   intro i
   by_cases h:y=x
   ·subst h
    refine⟨fun h=>by simp[cutB]at h,fun a b h=>?_⟩
    simp only[cutB,if_true,Option.some.injEq,Prod.mk.injEq]at h
    obtain⟨rfl,rfl⟩:=h
    refine⟨rfl,?_⟩
    simp[idxB,zCM]
   ·have hb:Nat.beq y.toNat x.toNat=false:=by
     cases hb:Nat.beq y.toNat x.toNat with
     | false=>rfl
     | true=>exact absurd (UInt8.toNat_inj.1 (Nat.eq_of_beq_eq_true hb)) h
    simp only[cutB,h,if_false,idxB,hb,cond_false]
    obtain⟨h1,h2⟩:=ih (i+1)
    cases hc:cutB x l with
    | none=>exact⟨fun _=>h1 hc,fun a b h=>by cases h⟩
    | some ab =>
     obtain⟨a',b'⟩:=ab
     refine⟨fun h=>(by cases h),fun a b h=>?_⟩
     cases h
     obtain⟨h3,h4⟩:=h2 a' b' hc
     refine⟨by rw[h3];rfl,?_⟩
     rw[h4]
     simp <;> omega
 have:=key s 0
 simpa using this
theorem s85_one (c:zC)(N:Nat)(s:Bs)(x:UInt8)(h131:∀ vs H τ q,c zA4 vs H τ q=effK (idxP vs H τ) q)(H:Heap)(τ:Tape)(q:KV) :
  zEM c N (.str s) (.str [x]) H τ q=q (.int .i64 (idxB x.toNat s 0)) H τ:=by
 have e1:((([x]:Bs).length:Int) == Int.ofNat 0)=false:=rfl
 have e2:((([x]:Bs).length:Int) == Int.ofNat 1)=true:=rfl
 have e3:zV [.str [x],.int .i64 (.ofNat 0)]=some (.int .u8 (.ofNat x.toNat)):=rfl
 have e4:x.toNat % 256=x.toNat:=Nat.mod_eq_of_lt (u8_lt x)
 simp only[zEM,zAa,zJ,zAi,e1,zC9,retK,zAP,zAq,zFi,zP,cond_false,e2,zBE,e3,h131,idxP,e4]
 cases hx:([x] == s)with
 | false=>simp only[zAR]
 | true =>
  have:s=[x]:=(beq_iff_eq.1 hx).symm
  subst this
  simp[zBE,idxB,zCM]
theorem s66_one (c:zC)(N:Nat)(s:Bs)(x:UInt8)(hs:s.length<9223372036854775807)(h130:∀ (s:Bs) (x:UInt8) H τ q,c zGF [.str s,.str [x]] H τ q=q (.int .i64 (idxB x.toNat s 0)) H τ)(H:Heap)(τ:Tape)(q:KV) :
  zFO c N (.str s) (.str [x]) H τ q=q (match cutB x s with | some (a,b)=>.tup [.str a,.str b,.bool true] | none=>.tup [.str s,.str [],.bool false]) H τ:=by
 obtain⟨h1,h2⟩:=zQF x s
 simp only[zFO,h130]
 cases hc:cutB x s with
 | none =>
  rw[h1 hc,zBv]
  rfl
 | some ab =>
  obtain⟨a,b⟩:=ab
  obtain⟨h3,h4⟩:=h2 a b hc
  have e1:decide (Int.ofNat 0≤(a.length:Int))=true:=decide_eq_true (by simp <;> omega)
  have hl:a.length<s.length:=by rw[h3];simp
  have e2:zAE false true [.str s,.int .i64 (a.length:Int)]=some (.str a):=by
   rw[zQD (by omega),h3];simp
  have e3:wr .i64 ((a.length:Int)+(([x]:Bs).length:Int))=((a.length+1:Nat):Int):=by
   rw[zEb (by simp;omega) (by simp;omega)];simp
  have e4:zAE true false [.str s,.int .i64 ((a.length+1:Nat):Int)]=some (.str b):=by
   rw[zKr (by omega),h3];simp
  rw[h4,zBv,e1,zBE,e2,zJ,zAa,zJ,ze,e3,e4,zJ]
theorem s37_one (c:zC)(N:Nat)(s:Bs)(x:UInt8)(h103:∀ H τ q,c zHj [.str s,.str [x]] H τ q=q (match cutB x s with | some (a,b)=>.tup [.str a,.str b,.bool true] | none=>.tup [.str s,.str [],.bool false]) H τ)(H:Heap)(τ:Tape)(q:KV) :
  zIm c N (.str s) (.str [x]) H τ q=q (match cutB x s with | some (a,b)=>.tup [.str a,.str b,.bool true] | none=>.tup [.str s,.str [],.bool false]) H τ:=by
 simp only[zIm,h103]
 cases hc:cutB x s with
 | none=>rfl
 | some ab=>rfl
def zt:Bool→Bs→Bs→List Bs × Bs
 | _,cur,[]=>([],cur)
 | q,cur,x::r =>
  if x=34 then zt (!q) (cur++[x]) r
  else if q=true∧x=92 then
   match r with
   | []=>([],cur++[x])
   | y::r'=>zt q (cur++[x,y]) r'
  else if q=false∧x=44 then
   (cur::(zt false [] r).1,(zt false [] r).2)
  else zt q (cur++[x]) r
theorem zMM (q:Bool)(cur:Bs){x:UInt8}(r:Bs)(h:x=34):zt q cur (x::r)=zt (!q) (cur++[x]) r:=by
 cases r <;> simp[zt,h]
theorem zOr (cur:Bs){x:UInt8}(h:x≠34)(h':x=92):zt true cur [x]=([],cur++[x]):=by
 subst h'
 simp[zt]
theorem zOu (cur:Bs){x:UInt8}(y:UInt8)(r:Bs)(h:x≠34)(h':x=92):zt true cur (x::y::r)=zt true (cur++[x,y]) r:=by
 subst h'
 simp[zt]
theorem zMg (cur:Bs){x:UInt8}(r:Bs)(h:x≠34)(h':x=44):zt false cur (x::r)=(cur::(zt false [] r).1,(zt false [] r).2):=by
 subst h'
 cases r <;> simp[zt]
theorem zP7 (cur:Bs){x:UInt8}(r:Bs)(h:x≠34)(h':x≠92):zt true cur (x::r)=zt true (cur++[x]) r:=by
 cases r <;> simp[zt,h,h']
theorem zOy (cur:Bs){x:UInt8}(r:Bs)(h:x≠34)(h':x≠44):zt false cur (x::r)=zt false (cur++[x]) r:=by
 cases r <;> simp[zt,h,h']
def tight:UInt8→Bool:=([9,32]:Bs).contains
theorem drop_mid (pre cur rest:Bs):((pre++cur++rest).take (pre.length+cur.length)).drop pre.length=cur:=by
 rw[← List.length_append,List.take_left',List.drop_left'] <;> simp
theorem split_loop (c:zC)(N:Nat){B:Nat}(k:KC)(s:Bs)(hs:s.length<4294967296)(h114:TrimOk c [9,32]):∀ (m:Nat) (rest:Bs),rest.length≤m→∀ (q:Bool) (pre cur:Bs) (v8:V) (acc:List Bs) (n:Nat) (fr:T V) (H:Heap) (τ:Tape),WF H→B≤H.size→s=pre++cur++rest→Own H B 1 v8 acc.length (acc.map V.str)→acc.length+rest.length<4294967296→rest.length<n →
  fr.get 6=some (.str s)→fr.get 8=some v8→fr.get 9=some (.bool q)→fr.get 10=some (.int .i64 (pre.length:Int))→fr.get 11=some (.int .i64 ((pre.length+cur.length:Nat):Int)) →
  ∃ v8' fro H' τ',Gr B H H'∧Own H' B 1 v8' (acc++(zt q cur rest).1.map (trimB tight)).length ((acc++(zt q cur rest).1.map (trimB tight)).map V.str)∧fro≤s.length∧s.drop fro=(zt q cur rest).2∧(acc++(zt q cur rest).1.map (trimB tight)).length<4294967296 ∧
   zAf (zBI c N) n ⟨fr,H⟩ τ k=k (.exit 0) ⟨T.set (T.set (T.set .leaf 6 (.str s)) 8 v8') 10 (.int .i64 (fro:Int)),H'⟩ τ':=by
 intro m
 induction m with
 | zero =>
  intro rest hm q pre cur v8 acc n fr H τ hw hB he ho hb hn f6 f8 f9 f10 f11
  have:rest=[]:=List.length_eq_zero_iff.1 (by omega)
  subst this
  obtain⟨n,rfl⟩:∃ j,n=j+1:=⟨n-1,by simp at hn;omega⟩
  refine⟨v8,pre.length,H,τ,Gr.refl hw,by simpa [zt] using ho,by rw[he];simp <;> omega,by rw[he];simp[zt],by simpa [zt] using hb,?_⟩
  have e1:decide (((pre.length+cur.length:Nat):Int)<(s.length:Int))=false:=decide_eq_false (by rw[he];simp)
  rw[zG]
  simp only[zBI,zA f6,zA f8,zA f9,zA f10,zA f11,zAa,zJ,zK,e1,zAR,seqK]
 | succ m ih =>
  intro rest hm q pre cur v8 acc n fr H τ hw hB he ho hb hn f6 f8 f9 f10 f11
  obtain⟨n,rfl⟩:∃ j,n=j+1:=⟨n-1,by omega⟩
  cases rest with
  | nil =>
   refine⟨v8,pre.length,H,τ,Gr.refl hw,by simpa [zt] using ho,by rw[he];simp <;> omega,by rw[he];simp[zt],by simpa [zt] using hb,?_⟩
   have e1:decide (((pre.length+cur.length:Nat):Int)<(s.length:Int))=false:=decide_eq_false (by rw[he];simp)
   rw[zG]
   simp only[zBI,zA f6,zA f8,zA f9,zA f10,zA f11,zAa,zJ,zK,e1,zAR,seqK]
  | cons x r =>
   have hlen:s.length=pre.length+cur.length+(r.length+1):=by rw[he];simp;omega
   have e1:decide (((pre.length+cur.length:Nat):Int)<(s.length:Int))=true:=decide_eq_true (by omega)
   have e2:zV [.str s,.int .i64 ((pre.length+cur.length:Nat):Int)]=some (.int .u8 (x.toNat:Int)):=zDe (by
    rw[he,← List.length_append,List.getElem?_append_right (Nat.le_refl _)];simp)
   have e9:∀ (j:Nat),j≤s.length+1→wr .i64 ((j:Int)+Int.ofNat 1)=((j+1:Nat):Int):=fun j hj=>by
    rw[zEb (by simp;omega) (by simp;omega)];simp
   have h34:((x.toNat:Int) == Int.ofNat 34)=decide (x=34):=by
    rw[Bool.eq_iff_iff];simp[← UInt8.toNat_inj];omega
   have h92:((x.toNat:Int) == Int.ofNat 92)=decide (x=92):=by
    rw[Bool.eq_iff_iff];simp[← UInt8.toNat_inj];omega
   have h44:((x.toNat:Int) == Int.ofNat 44)=decide (x=44):=by
    rw[Bool.eq_iff_iff];simp[← UInt8.toNat_inj];omega
   rw[zG]
   simp only[zBI,zA f6,zA f8,zA f9,zA f10,zA f11,zAa,zJ,zK,e1,zBE,e2,zAi,h34]
   by_cases c34:x=34
   ·simp only[decide_eq_true c34,zBE,zBx,zAV,zT,↓reduceIte,Nat.reduceEqDiff,ze,e9 _ (show pre.length+cur.length≤s.length+1 by omega),seqK]
    obtain⟨v8',fro,H',τ',k1,k2,k3,k4,k5,k6⟩:=ih r (by simp at hm;omega) (!q) pre (cur++[x]) v8 acc n (T.set (T.set (T.set (T.set (T.set (T.set (T.set (T.set .leaf 6 (.str s)) 8 v8) 9 (.bool (!q))) 10 (.int .i64 (pre.length:Int))) 11 (.int .i64 ((pre.length+cur.length:Nat):Int))) 24 (.int .i64 ((pre.length+cur.length:Nat):Int))) 25 (.int .i64 ((pre.length+cur.length+1:Nat):Int))) 11 (.int .i64 ((pre.length+cur.length+1:Nat):Int))) H τ hw hB (by rw[he];simp) ho (by simp at hb;omega) (by simp at hn;omega) (by simp[T.get_set]) (by simp[T.get_set]) (by simp[T.get_set]) (by simp[T.get_set]) (by simp[T.get_set];omega)
    have hf:zt q cur (x::r)=zt (!q) (cur++[x]) r:=zMM q cur r c34
    rw[hf]
    exact⟨v8',fro,H',τ',k1,k2,k3,k4,k5,k6⟩
   ·simp only[decide_eq_false c34,zAR]
    cases q with
    | true =>
     simp only[zC8,retK,zAP,e2,zJ,zAi,h92,zP,cond_true]
     by_cases c92:x=92
     ·simp only[decide_eq_true c92,zBE,ze,e9 _ (show pre.length+cur.length≤s.length+1 by omega),zAV,zT,↓reduceIte,Nat.reduceEqDiff,e9 _ (show pre.length+cur.length+1≤s.length+1 by omega),seqK]
      cases r with
      | nil =>
       have hf:zt true cur (x::[])=([],cur++[x]):=zOr cur c34 c92
       rw[hf]
       obtain⟨n,rfl⟩:∃ j,n=j+1:=⟨n-1,by simp at hn;omega⟩
       refine⟨v8,pre.length,H,τ,Gr.refl hw,by simpa using ho,by omega,by rw[he];simp,by simp at hb ⊢;omega,?_⟩
       have e3:decide (((pre.length+cur.length+1+1:Nat):Int)<(s.length:Int))=false:=decide_eq_false (by simp at hlen;omega)
       rw[zG]
       simp only[zBI,zT,↓reduceIte,Nat.reduceEqDiff,zAa,zJ,zK,e3,zAR,seqK]
      | cons y r' =>
       obtain⟨v8',fro,H',τ',k1,k2,k3,k4,k5,k6⟩:=ih r' (by simp at hm;omega) true pre (cur++[x,y]) v8 acc n (T.set (T.set (T.set (T.set (T.set (T.set (T.set (T.set .leaf 6 (.str s)) 8 v8) 9 (.bool true)) 10 (.int .i64 (pre.length:Int))) 11 (.int .i64 ((pre.length+cur.length+1:Nat):Int))) 24 (.int .i64 ((pre.length+cur.length+1:Nat):Int))) 25 (.int .i64 ((pre.length+cur.length+1+1:Nat):Int))) 11 (.int .i64 ((pre.length+cur.length+1+1:Nat):Int))) H τ hw hB (by rw[he];simp) ho (by simp at hb;omega) (by simp at hn;omega) (by simp[T.get_set]) (by simp[T.get_set]) (by simp[T.get_set]) (by simp[T.get_set]) (by simp[T.get_set];omega)
       have hf:zt true cur (x::y::r')=zt true (cur++[x,y]) r':=zOu cur y r' c34 c92
       rw[hf]
       exact⟨v8',fro,H',τ',k1,k2,k3,k4,k5,k6⟩
     ·simp only[decide_eq_false c92,zAR,zBx,Bool.not_true,zBM,zJ,zP,cond_false,zAV,zT,↓reduceIte,Nat.reduceEqDiff,ze,e9 _ (show pre.length+cur.length≤s.length+1 by omega),seqK]
      obtain⟨v8',fro,H',τ',k1,k2,k3,k4,k5,k6⟩:=ih r (by simp at hm;omega) true pre (cur++[x]) v8 acc n (T.set (T.set (T.set (T.set (T.set (T.set (T.set (T.set .leaf 6 (.str s)) 8 v8) 9 (.bool true)) 10 (.int .i64 (pre.length:Int))) 11 (.int .i64 ((pre.length+cur.length:Nat):Int))) 24 (.int .i64 ((pre.length+cur.length:Nat):Int))) 25 (.int .i64 ((pre.length+cur.length+1:Nat):Int))) 11 (.int .i64 ((pre.length+cur.length+1:Nat):Int))) H τ hw hB (by rw[he];simp) ho (by simp at hb;omega) (by simp at hn;omega) (by simp[T.get_set]) (by simp[T.get_set]) (by simp[T.get_set]) (by simp[T.get_set]) (by simp[T.get_set];omega)
      have hf:zt true cur (x::r)=zt true (cur++[x]) r:=zP7 cur r c34 c92
      rw[hf]
      exact⟨v8',fro,H',τ',k1,k2,k3,k4,k5,k6⟩
    | false =>
     simp only[zBM,zJ,zP,cond_false,zAR,zBx,Bool.not_false,zC8,retK,zAP,e2,zAi,h44,cond_true]
     by_cases c44:x=44
     ·have e3:zAE true true [.str s,.int .i64 (pre.length:Int),.int .i64 ((pre.length+cur.length:Nat):Int)]=some (.str cur):=by
       rw[zKm (by omega) (by omega),he,drop_mid]
      obtain⟨H1,p1,p2⟩:=h114 cur (by omega) H hw τ (fun v51 H52 τ53 =>
       effK (zR 1 1 [(.str [])] [(0,1)] [v51] H52 τ53) fun v54 H55 τ56 =>
       effK (zu 1 16 [v8,v54] H55 τ56) fun v57 H58 τ59 =>
       binK .add (.int .i64 ((pre.length+cur.length:Nat):Int)) (.int .i64 (.ofNat 1)) fun v60 =>
       zAV c N (seqK (fun st τ=>zAf (zBI c N) n st τ k) k) ⟨(T.set (T.set (T.set (T.set (T.set (T.set (T.set .leaf 6 (.str s)) 8 v57) 9 (.bool false)) 11 (.int .i64 ((pre.length+cur.length:Nat):Int))) 60 (.int .i64 ((pre.length+cur.length:Nat):Int))) 61 v60) 10 v60),H58⟩ τ59)
      have hw1:=p1.wf
      have ho1:=ho.gr p1 hw (Nat.le_refl _)
      have hG3:=Gr.new hw1 [V.str (trimB tight cur)] (1*1) false
      have ho3:=ho1.gr hG3 hw1 (Nat.le_refl _)
      obtain⟨v57,H4,r1,r2,r3,r4⟩:=ho3.append (bytes:=16) hG3.wf (by have:=p1.size;have:=hG3.size;omega) 1 [.str (trimB tight cur)] (by omega) rfl rfl (by simp at hb;omega) (by simp at hb;omega) τ
      have e8:zu 1 16 [v8,.sl H1.size 0 1 1 none 1] (H1.new [.str (trimB tight cur)] (1*1) false) τ=some (v57,H4,τ.tail):=by
       have hl:(H1.new [V.str (trimB tight cur)] (1*1) false).loads H1.size 0 (1*1)=some [.str (trimB tight cur)]:=by
        rw[zC0 (zH6 _ _ _ _) (by simp)];rfl
       simp only[zu,zFd,zCQ,Nat.beq_refl,cond_true,hl,r1]
      have e7:zR 1 1 [(.str [])] [(0,1)] [.str (trimB (List.contains [9,32]) cur)] H1 τ=some (.sl H1.size 0 1 1 none 1,H1.new [.str (trimB tight cur)] (1*1) false,τ):=rfl
      obtain⟨v8',fro,H',τ',k1,k2,k3,k4,k5,k6⟩:=ih r (by simp at hm;omega) false (pre++cur++[x]) [] v57 (acc++[trimB tight cur]) n (T.set (T.set (T.set (T.set (T.set (T.set (T.set (T.set .leaf 6 (.str s)) 8 v57) 9 (.bool false)) 10 (.int .i64 ((pre.length+cur.length+1:Nat):Int))) 11 (.int .i64 ((pre.length+cur.length:Nat):Int))) 24 (.int .i64 ((pre.length+cur.length:Nat):Int))) 25 (.int .i64 ((pre.length+cur.length+1:Nat):Int))) 11 (.int .i64 ((pre.length+cur.length+1:Nat):Int))) H4 τ.tail r3.wf (by have:=p1.size;have:=hG3.size;have:=r3.size;omega) (by rw[he];simp) (by simpa using r2) (by simp at hb ⊢;omega) (by simp at hn;omega) (by simp[T.get_set]) (by simp[T.get_set]) (by simp[T.get_set]) (by simp[T.get_set];omega) (by simp[T.get_set];omega)
      have hf:zt false cur (x::r)=(cur::(zt false [] r).1,(zt false [] r).2):=zMg cur r c34 c44
      rw[hf]
      refine⟨v8',fro,H',τ',((p1.trans hG3 p1.size).weaken hB).trans (r3.trans k1 (Nat.le_refl _)) (Nat.le_refl _),by simpa using k2,k3,k4,by simpa using k5,?_⟩
      simp only[decide_eq_true c44,zBE,e3,zJ]
      rw[show bs [9,32]=[9,32]from rfl,p2,e7,zAP,e8,zAP]
      simp only[ze,e9 _ (show pre.length+cur.length≤s.length+1 by omega),zAV,zT,↓reduceIte,Nat.reduceEqDiff,seqK]
      exact k6
     ·simp only[decide_eq_false c44,zAR,zAV,zT,↓reduceIte,Nat.reduceEqDiff,ze,e9 _ (show pre.length+cur.length≤s.length+1 by omega),seqK]
      obtain⟨v8',fro,H',τ',k1,k2,k3,k4,k5,k6⟩:=ih r (by simp at hm;omega) false pre (cur++[x]) v8 acc n (T.set (T.set (T.set (T.set (T.set (T.set (T.set (T.set .leaf 6 (.str s)) 8 v8) 9 (.bool false)) 10 (.int .i64 (pre.length:Int))) 11 (.int .i64 ((pre.length+cur.length:Nat):Int))) 24 (.int .i64 ((pre.length+cur.length:Nat):Int))) 25 (.int .i64 ((pre.length+cur.length+1:Nat):Int))) 11 (.int .i64 ((pre.length+cur.length+1:Nat):Int))) H τ hw hB (by rw[he];simp) ho (by simp at hb;omega) (by simp at hn;omega) (by simp[T.get_set]) (by simp[T.get_set]) (by simp[T.get_set]) (by simp[T.get_set]) (by simp[T.get_set];omega)
      have hf:zt false cur (x::r)=zt false (cur++[x]) r:=zOy cur r c34 c44
      rw[hf]
      exact⟨v8',fro,H',τ',k1,k2,k3,k4,k5,k6⟩
def zJy (s:Bs):List Bs:=((zt false [] s).1++[(zt false [] s).2]).map (trimB tight)
def zBZ (name:Bs)(hs:List (Bs × Bs)):List Bs:=if 0<(sel name hs).length then zJy (getT name hs)else []
def GetOk (c:zC)(name:Bs)(hs:List (Bs × Bs)):Prop:=∀ (v:V) (H:Heap),WF H→Rd H 2 v hs.length (hcells hs)→∀ τ q,
  ∃ H' τ',Gr H.size H H'∧c zAN [v,.str name] H τ q=q (.tup [.str (getT name hs),.bool (decide (0<(sel name hs).length))]) H' τ'
theorem zNl (c:zC)(N:Nat)(hN:9223372036854775807≤N)(name:Bs)(hs:List (Bs × Bs))(hj:(getT name hs).length<4294967296)(h78:GetOk c name hs)(h114:TrimOk c [9,32])
  (v:V) (H:Heap) (hw:WF H) (hr:Rd H 2 v hs.length (hcells hs)) (τ:Tape) (q:KV) :
  ∃ v' H' τ',Own H' H.size 1 v' (zBZ name hs).length ((zBZ name hs).map V.str)∧(zBZ name hs).length≤4294967296∧Gr H.size H H'∧zCz c N v (.str name) H τ q=q (.tup [v',.bool (decide (0<(sel name hs).length))]) H' τ':=by
 obtain⟨H1,τ1,k1,k2⟩:=h78 v H hw hr τ (fun v0 H1 τ2 =>
  zB (zF 0 [v0]) fun v3 =>
  zB (zF 1 [v0]) fun v4 =>
  unK .not v4 fun v5 =>
  zW v5
   (q (.tup [.nils,(.bool false)]) H1 τ2)
   (zAf (zBI c N) N ⟨(T.set (T.set (T.set (T.set (T.set .leaf 6 v3) 8 .nils) 9 (.bool false)) 10 (.int .i64 (.ofNat 0))) 11 (.int .i64 (.ofNat 0))),H1⟩ τ2 (zY 0 (seqK (zEy c N q) (endK [(.t 4),(.t 5)] q)))))
 by_cases hp:0<(sel name hs).length
 ·obtain⟨v8,fro,H2,τ2,m1,m2,m3,m4,m5,m6⟩:=split_loop c N (B:=H.size) (zY 0 (seqK (zEy c N q) (endK [(.t 4),(.t 5)] q))) (getT name hs) hj h114 _ (getT name hs) (Nat.le_refl _) false [] [] .nils [] N (T.set (T.set (T.set (T.set (T.set .leaf 6 (.str (getT name hs))) 8 .nils) 9 (.bool false)) 10 (.int .i64 0)) 11 (.int .i64 0)) H1 τ1 k1.wf k1.size rfl (Own.nil _ _ _) (by simpa using hj) (by omega) (by simp[T.get_set]) (by simp[T.get_set]) (by simp[T.get_set]) (by simp[T.get_set]) (by simp[T.get_set])
  obtain⟨H3,p1,p2⟩:=h114 (zt false [] (getT name hs)).2 (by
   have:((getT name hs).drop fro).length≤(getT name hs).length:=by rw[List.length_drop];omega
   rw[← m4];omega) H2 m1.wf τ2 (fun v7 H8 τ9 =>
   effK (zR 1 1 [(.str [])] [(0,1)] [v7] H8 τ9) fun v10 H11 τ12 =>
   effK (zu 1 16 [v8,v10] H11 τ12) fun v13 H14 τ15 =>
   q (.tup [v13,(.bool true)]) H14 τ15)
  have ho1:=m2.gr p1 m1.wf (Nat.le_refl _)
  have hG3:=Gr.new p1.wf [V.str (trimB tight (zt false [] (getT name hs)).2)] (1*1) false
  have ho3:=ho1.gr hG3 p1.wf (Nat.le_refl _)
  obtain⟨v13,H4,r1,r2,r3,r4⟩:=ho3.append (bytes:=16) hG3.wf (by have:=k1.size;have:=m1.size;have:=p1.size;have:=hG3.size;omega) 1 [.str (trimB tight (zt false [] (getT name hs)).2)] (by omega) rfl rfl (by simp at m5 ⊢;omega) (by simp at m5 ⊢;omega) τ2
  have e8:zu 1 16 [v8,.sl H3.size 0 1 1 none 1] (H3.new [.str (trimB tight (zt false [] (getT name hs)).2)] (1*1) false) τ2=some (v13,H4,τ2.tail):=by
   have hl:(H3.new [V.str (trimB tight (zt false [] (getT name hs)).2)] (1*1) false).loads H3.size 0 (1*1)=some [.str (trimB tight (zt false [] (getT name hs)).2)]:=by
    rw[zC0 (zH6 _ _ _ _) (by simp)];rfl
   simp only[zu,zFd,zCQ,Nat.beq_refl,cond_true,hl,r1]
  have e7:zR 1 1 [(.str [])] [(0,1)] [.str (trimB (List.contains [9,32]) (zt false [] (getT name hs)).2)] H3 τ2=some (.sl H3.size 0 1 1 none 1,H3.new [.str (trimB tight (zt false [] (getT name hs)).2)] (1*1) false,τ2):=rfl
  have hT:zBZ name hs=zJy (getT name hs):=if_pos hp
  have hP:zJy (getT name hs)=([]++(zt false [] (getT name hs)).1.map (trimB tight))++[trimB tight (zt false [] (getT name hs)).2]:=by simp[zJy]
  refine⟨v13,H4,τ2.tail,?_,?_,?_,?_⟩
  ·rw[hT,hP];simpa using r2
  ·rw[hT,hP,List.length_append];simp at m5 ⊢;omega
  ·have hB1:=k1.size
   have hB2:=m1.size
   have hB3:=p1.size
   exact k1.trans (m1.trans ((p1.weaken (by omega)).trans ((hG3.weaken (by omega)).trans r3 (Nat.le_refl _)) (Nat.le_refl _)) (Nat.le_refl _)) (Nat.le_refl _)
  ·have hst:zCz c N v (.str name) H τ q=_:=k2
   rw[hst]
   simp only[zF,List.getElem?_cons_zero,List.getElem?_cons_succ,zJ,zBx,decide_eq_true hp,Bool.not_true,zAR]
   rw[show(V.int IntKind.i64 (Int.ofNat 0))=.int .i64 0 from rfl,m6]
   simp only[zY,Nat.beq_refl,cond_true,seqK,zEy,zT,↓reduceIte,Nat.reduceEqDiff]
   rw[zKr m3,m4,zJ,show bs [9,32]=[9,32]from rfl,p2,e7,zAP,e8,zAP]
 ·have hT:zBZ name hs=[]:=if_neg hp
  refine⟨.nils,H1,τ1,by rw[hT];exact Own.nil _ _ _,by rw[hT];simp,k1,?_⟩
  have hst:zCz c N v (.str name) H τ q=_:=k2
  rw[hst]
  simp only[zF,List.getElem?_cons_zero,List.getElem?_cons_succ,zJ,zBx,decide_eq_false hp,Bool.not_false,zBE]
def blank:UInt8→Bool:=([9,10,12,13,32]:Bs).contains
def strip (s:Bs):Bs:=trimB blank s
abbrev StripOk (c:zC):Prop:=∀ (s:Bs),s.length<9223372036854775807→∀ (H:Heap),WF H→∀ τ q,∃ H',Gr H.size H H'∧c zBl [.str s] H τ q=q (.str (strip s)) H' τ
theorem zGT (p:UInt8→Bool)(s:Bs):(trimB p s).length≤s.length:=by
 unfold trimB
 have h1:=(List.dropWhile_sublist (l:=(s.reverse.dropWhile p).reverse) p).length_le
 have h2:=(List.dropWhile_sublist (l:=s.reverse) p).length_le
 simp only[List.length_reverse]at h1 h2
 omega
theorem zOa (c:zC)(N:Nat)(h114:TrimOk c [9,10,12,13,32])(s:Bs)(hs:s.length<9223372036854775807)(H:Heap)(hw:WF H)(τ:Tape)(q:KV):∃ H',Gr H.size H H'∧zK4 c N (.str s) H τ q=q (.str (strip s)) H' τ:=by
 obtain⟨H',h1,h2⟩:=h114 s hs H hw τ (fun v0 H1 τ2=>q v0 H1 τ2)
 exact⟨H',h1,h2⟩
end Go.Am.X

