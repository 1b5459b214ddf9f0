/- The abstract machine, printed functions of the program, and what they are shown to be. -/
import Derived.Test.YtnijdmamheiebaaDoorCLSSh1
import Derived.Test.YtnijdmamheiebaaDoorCLSM4
import Derived.Deep.SlicePairs
import Derived.ChangeSlices
import Derived.SizedLaws
import Derived.Test.YtnijdmamheiebaaDoorCLSM3
import Derived.Test.YtnijdmamheiebaaDoorCLSOk
set_option linter.unusedSimpArgs false
set_option linter.unusedVariables false
set_option linter.unusedSectionVars false
set_option maxRecDepth 100000
namespace Go.Am.X
theorem u8_lt (x:UInt8):x.toNat<256:=x.toNat_lt
def lowB (x:UInt8):UInt8:=if 65<=x.toNat/\x.toNat<=90 then UInt8.ofNat (x.toNat+32)else x
def lower (s:List UInt8):List UInt8:=s.map lowB
def bv (s:List UInt8):List V:=s.map fun c=>.int .u8 (c.toNat:Int)
theorem zJ3 (s:List UInt8):bytesOf (bv s)=some s:=by
 induction s with
 | nil=>rfl
 | cons x s ih=>simp only[bv,List.map_cons,bytesOf]at ih ⊢;rw[ih];simp
theorem zQm (s:List UInt8):(bv s).length=s.length:=by simp[bv]
theorem s69_eval (c:zG)(N:Nat)(x:UInt8)(H:Heap)(Z:Tape)(q:KV):zCq c N (.int .u8 (x.toNat:Int)) H Z q=q (.int .u8 ((lowB x).toNat:Int)) H Z:=by
 have hx:=u8_lt x
 by_cases h1:65<=x.toNat
 ·have e1:decide (Int.ofNat 65<=(x.toNat:Int))=true:=decide_eq_true (by first | (simp;done) | (simp;omega) | omega)
  by_cases h2:x.toNat<=90
  ·have e2:decide ((x.toNat:Int)<=Int.ofNat 90)=true:=decide_eq_true (by first | (simp;done) | (simp;omega) | omega)
   have e3:wr .u8 ((x.toNat:Int)+Int.ofNat 32)=((lowB x).toNat:Int):=by
    rw[zPZ]
    simp only[lowB,h1,h2,and_self,if_true,IntKind.wrap,IntKind.signed,IntKind.bits]
    simp <;> omega
   simp only[zCq,zi,e1,zAB,zJL,retK,zAY,e2,zBX,zJ,cond_true,zPP,zS,e3,zCO]
   simp only[zK,↓reduceIte,Nat.reduceEqDiff]
  ·have e2:decide ((x.toNat:Int)<=Int.ofNat 90)=false:=decide_eq_false (by first | (simp;done) | (simp;omega) | omega)
   have e3:lowB x=x:=by simp[lowB,h2]
   simp only[zCq,zi,e1,zAB,zJL,retK,zAY,e2,zBX,zJ,cond_true,zJU,zCO]
   simp only[zK,↓reduceIte,Nat.reduceEqDiff]
   rw[e3]
 ·have e1:decide (Int.ofNat 65<=(x.toNat:Int))=false:=decide_eq_false (by first | (simp;done) | (simp;omega) | omega)
  have e3:lowB x=x:=by simp[lowB,h1]
  simp only[zCq,zi,e1,ze,zBX,zJ,cond_false,zJU,zCO]
  simp only[zK,↓reduceIte,Nat.reduceEqDiff]
  rw[e3]
theorem low_loop (c:zG)(N:Nat){B id e m:Nat}(k:KC)(h121:∀ (x:UInt8) H Z q,c zBv [.int .u8 (x.toNat:Int)] H Z q=q (.int .u8 ((lowB x).toNat:Int)) H Z)(l:List UInt8) :
  ∀ (pre:List UInt8) (n:Nat) (fr:T V) (H:Heap) (Z:Tape),WF H->Blk H B id (bv (lower pre++l))->(pre++l).length=m->m<9223372036854775807->l.length<n ->
  fr.get 1=some (.func zBv [] [])->fr.get 5=some (.sl id 0 m m (some e) 1)->fr.get 10=some (.sl id 0 m m (some e) 1)->fr.get 11=some (.int .i64 (m:Int))->fr.get 12=some (.int .i64 (pre.length:Int)) ->
  ∃ H',Blk H' B id (bv (lower (pre++l)))/\Gr B H H'/\zq (zEP c N) n ⟨fr,H⟩ Z k=k (.exit 0) ⟨T.s .leaf 5 (.sl id 0 m m (some e) 1),H'⟩ Z:=by
 induction l with
 | nil =>
  intro pre n fr H Z hw hB hm hmb hn h1 h5 h10 h11 h12
  obtain⟨n,rfl⟩:∃ j,n=j+1:=⟨n-1,by simp at hn;omega⟩
  refine⟨H,by simpa using hB,Gr.refl hw,?_⟩
  have e1:decide ((pre.length:Int)<(m:Int))=false:=decide_eq_false (by simp at hm;omega)
  rw[zI]
  simp only[zEP,zA h1,zA h5,zA h10,zA h11,zA h12,zL,e1,zJU,seqK]
 | cons x l ih =>
  intro pre n fr H Z hw hB hm hmb hn h1 h5 h10 h11 h12
  obtain⟨n,rfl⟩:∃ j,n=j+1:=⟨n-1,by simp at hn;omega⟩
  have hlt:pre.length<m:=by simp at hm;omega
  have e1:decide ((pre.length:Int)<(m:Int))=true:=decide_eq_true (by omega)
  have e2:zn 1 [.sl id 0 m m (some e) 1,.int .i64 (pre.length:Int)]=some (.ptr id pre.length):=by
   have:Nat.blt pre.length m=true:=by simp[Nat.blt];omega
   simp[zn,zBK,this]
  have e3:zf [.ptr id pre.length] H=some (.int .u8 (x.toNat:Int)):=by
   refine zDQ hB.cells ?_
   have:pre.length=(bv (lower pre)).length:=by simp[bv,lower]
   simp[bv,lower]
  obtain⟨H1,k1,k2,k3,k4⟩:=hB.eStore hw pre.length (.int .u8 ((lowB x).toNat:Int)) 1 rfl (by simp[bv,lower]) rfl Z
  have hcells:(bv (lower pre++x::l)).take pre.length++(V.int .u8 ((lowB x).toNat:Int)).cells++(bv (lower pre++x::l)).drop (pre.length+1)=bv (lower (pre++[x])++l):=by
   have hl:pre.length=(lower pre).length:=by simp[lower]
   simp only[bv,List.map_append,List.map_cons]
   rw[List.take_append_of_le_length (by simp[lower]),List.take_of_length_le (by simp[lower]),List.drop_append]
   simp[lower,V.cells]
  rw[hcells]at k2
  have e5:wr .i64 ((pre.length:Int)+Int.ofNat 1)=((pre++[x]).length:Int):=by
   rw[zES (by first | (simp;done) | (simp;omega) | omega) (by first | (simp;done) | (simp;omega) | omega)]
   simp
  obtain⟨H',m1,m2,m3⟩:=ih (pre++[x]) n (T.s (T.s (T.s (T.s (T.s (T.s (T.s .leaf 1 (.func zBv [] [])) 5 (.sl id 0 m m (some e) 1)) 10 (.sl id 0 m m (some e) 1)) 11 (.int .i64 (m:Int))) 12 (.int .i64 (pre.length:Int))) 23 (.int .i64 ((pre++[x]).length:Int))) 12 (.int .i64 ((pre++[x]).length:Int))) H1 Z k3.wf k2 (by simpa using hm) hmb (by simp at hn;omega) (by simp[T.get_set]) (by simp[T.get_set]) (by simp[T.get_set]) (by simp[T.get_set]) (by simp[T.get_set])
  refine⟨H',by simpa using m1,k3.trans m2 nl,?_⟩
  rw[zI]
  simp only[zEP,zA h1,zA h5,zA h10,zA h11,zA h12,zL,e1,zPP,e2,zBX,e3,opK,List.nil_append,List.append_nil,h121,k1,zJL,zS,e5,seqK,m3]
theorem zO3 (c:zG)(N:Nat)(hN:9223372036854775807<=N)(s:List UInt8)(hs:s.length<=140737488355328)(H:Heap)(hw:WF H)
  (h121:∀ (x:UInt8) H Z q,c zBv [.int .u8 (x.toNat:Int)] H Z q=q (.int .u8 ((lowB x).toNat:Int)) H Z) (Z:Tape) (q:KV) :
  ∃ H' Z',Gr H.size H H'/\zGj c N (.str s) (.func zBv [] []) H Z q=q (.str (lower s)) H' Z':=by
 have hB:=Blk.new H (bv s) ((s.length+spare s.length (Z 0))*1) false (by rw[zQm];omega)
 have hG:=Gr.new hw (bv s) ((s.length+spare s.length (Z 0))*1) false
 obtain⟨H',m1,m2,m3⟩:=low_loop c N (e:=spare s.length (Z 0)) (m:=s.length) (zW 0 (seqK (zGO c N q) (endK [(.t 4)] q))) h121 s [] N (T.s (T.s (T.s (T.s (T.s .leaf 1 (.func zBv [] [])) 5 (.sl H.size 0 s.length s.length (some (spare s.length (Z 0))) 1)) 10 (.sl H.size 0 s.length s.length (some (spare s.length (Z 0))) 1)) 11 (.int .i64 (s.length:Int))) 12 (.int .i64 0)) _ Z.tail hG.wf (by simpa [lower] using hB) (by simp) (by omega) (by omega) (by simp[T.get_set]) (by simp[T.get_set]) (by simp[T.get_set]) (by simp[T.get_set]) (by simp[T.get_set])
 refine⟨H',Z.tail,hG.trans m2 nl,?_⟩
 have e1:zBU [.str s] H Z=some (.sl H.size 0 s.length s.length (some (spare s.length (Z 0))) 1,H.new (bv s) ((s.length+spare s.length (Z 0))*1) false,Z.tail):=by
  simp only[zBU,Nat.ble_eq_true_of_le hs,cond_true,fresh]
  rfl
 have e2:pLen [.sl H.size 0 s.length s.length (some (spare s.length (Z 0))) 1]=some (.int .i64 (s.length:Int)):=rfl
 have e3:zA6 [.sl H.size 0 s.length s.length (some (spare s.length (Z 0))) 1] H'=some (.str (lower s)):=by
  have hl:(bv (lower ([]++s))).length=s.length:=by simp[bv,lower]
  simp only[zA6,zCj m1.cells (show 0+s.length<=_ by rw[hl];omega),List.drop_zero]
  rw[List.take_of_length_le (by rw[hl];omega)]
  simp[zJ3]
 simp only[zGj,e1,zJL,e2,zBX]
 rw[show(V.int IntKind.i64 (Int.ofNat 0))=.int .i64 0 from rfl,m3]
 simp only[zW,Nat.beq_refl,cond_true,seqK,zGO]
 simp only[zK,↓reduceIte,Nat.reduceEqDiff]
 rw[e3,zBX]
def zGy:Int:=9223372036854775807
def zKb (n:Int)(d:Int):Int:=if(zGy-d).tdiv 10<n then zGy else n*10+d
def intL:List UInt8->Int->Option Int
 | [],n=>some n
 | x::l,n=>if 48<=x.toNat/\x.toNat<=57 then intL l (zKb n ((x.toNat:Int)-48))else none
theorem zKU {n d:Int}(h0:0<=n)(h1:n<=zGy)(hd:0<=d)(hd':d<=9):0<=zKb n d/\zKb n d<=zGy:=by
 unfold zKb zGy at *
 split
 ·omega
 ·rename_i h
  rw[Int.tdiv_eq_ediv_of_nonneg (by omega)]at h
  omega
def intB (s:List UInt8):Int × Bool :=
 match intL s 0 with
 | some n=>(n,decide (0<s.length))
 | none=>(0,false)
abbrev Bs:=List UInt8
abbrev LowOk (c:zG):Prop:=∀ (s:Bs),s.length<=140737488355328->∀ (H:Heap),WF H->∀ Z q,∃ H' Z',Gr H.size H H'/\c zBA [.str s] H Z q=q (.str (lower s)) H' Z'
theorem zP4 (c:zG)(N:Nat)(h92:LowOk c)(n v name:Bs)(hn:n.length<=140737488355328)(hm:name.length<=140737488355328)(H:Heap)(hw:WF H)(Z:Tape)(q:KV) :
  ∃ H' Z',Gr H.size H H'/\zI6 c N (.agg [.str n,.str v]) (.str name) H Z q=q (.bool (lower n == lower name)) H' Z':=by
 have hG:=Gr.new hw [V.str n,V.str v] 2 true
 have hB:=Blk.new H [V.str n,V.str v] 2 true nl
 obtain⟨H2,Z2,k1,k2⟩:=h92 n hn _ hG.wf Z (fun v5 H6 Z7=>c zBA [.str name] H6 Z7 fun v8 H9 Z10=>binK .eql v5 v8 fun v11=>q v11 H9 Z10)
 obtain⟨H3,Z3,m1,m2⟩:=h92 name hm _ k1.wf Z2 (fun v8 H9 Z10=>binK .eql (.str (lower n)) v8 fun v11=>q v11 H9 Z10)
 refine⟨H3,Z3,hG.trans (k1.trans m1 k1.size) hG.size,?_⟩
 have e1:eBox [.agg [.str n,.str v]] H Z=some (.ptr H.size 0,H.new [.str n,.str v] 2 true,Z):=rfl
 have e2:zf [.ptr H.size 0] (H.new [.str n,.str v] 2 true)=some (.str n):=zDQ hB.cells rfl
 simp only[zI6,e1,zJL,zQ,Nat.add_zero,zBX,e2,k2,m2,zP,zSX]
def hcells (l:List (Bs × Bs)):List V:=l.flatMap fun h=>[.str h.1,.str h.2]
theorem zC6 (h:Bs × Bs)(l:List (Bs × Bs)):hcells (h::l)=.str h.1 :: .str h.2::hcells l:=rfl
theorem zKx (a b:List (Bs × Bs)):hcells (a++b)=hcells a++hcells b:=by simp[hcells]
theorem zCX (l:List (Bs × Bs)):(hcells l).length=l.length*2:=by
 induction l with
 | nil=>rfl
 | cons h l ih=>rw[zC6];simp only[List.length_cons,ih];omega
def sel (name:Bs)(l:List (Bs × Bs)):List Bs:=(l.filter fun h=>lower h.1 == lower name).map (·.2)
theorem get_loop (c:zG)(N:Nat){B id off m lo:Nat}{ex:Option Nat}{all:List V}(k:KC)(name:Bs)(hname:name.length<=140737488355328)(hs:List (Bs × Bs))(hm:hs.length=m)(hmb:m<=4294967296)(hsz:∀ h ∈ hs,h.1.length<=140737488355328)
  (hall:(all.drop off).take (m*2)=hcells hs) (hlen:off+m*2<=all.length)
  (h112:∀ (n v:Bs),n.length<=140737488355328->∀ (H:Heap),WF H->∀ Z q,∃ H' Z',Gr H.size H H'/\c zHH [.agg [.str n,.str v],.str name] H Z q=q (.bool (lower n == lower name)) H' Z') (l:List (Bs × Bs)) :
  ∀ (pre:List (Bs × Bs)) (v6:V) (vals:List Bs) (n:Nat) (fr:T V) (H:Heap) (Z:Tape),WF H->B<=H.size->hs=pre++l->H.cells? id=some all->Own H B 1 v6 vals.length (vals.map V.str)->vals.length+l.length<=4294967296->l.length<n ->
  fr.get 1=some (.str name)->fr.get 6=some v6->fr.get 9=some (.sl id off m lo ex 2)->fr.get 10=some (.int .i64 (m:Int))->fr.get 11=some (.int .i64 (pre.length:Int)) ->
  ∃ v6' H' Z',Gr B H H'/\Own H' B 1 v6' (vals++sel name l).length ((vals++sel name l).map V.str)/\zq (zBQ c N) n ⟨fr,H⟩ Z k=k (.exit 0) ⟨T.s .leaf 6 v6',H'⟩ Z':=by
 induction l with
 | nil =>
  intro pre v6 vals n fr H Z hw hB he hc ho hb hn f1 f6 f9 f10 f11
  obtain⟨n,rfl⟩:∃ j,n=j+1:=⟨n-1,by simp at hn;omega⟩
  refine⟨v6,H,Z,Gr.refl hw,by simpa [sel] using ho,?_⟩
  have e1:decide ((pre.length:Int)<(m:Int))=false:=decide_eq_false (by rw[<- hm,he];simp)
  rw[zI]
  simp only[zBQ,zA f1,zA f6,zA f9,zA f10,zA f11,zL,e1,zJU,seqK]
 | cons h l ih =>
  intro pre v6 vals n fr H Z hw hB he hc ho hb hn f1 f6 f9 f10 f11
  obtain⟨n,rfl⟩:∃ j,n=j+1:=⟨n-1,by simp at hn;omega⟩
  have hmm:m=pre.length+(l.length+1):=by rw[<- hm,he];simp
  have e1:decide ((pre.length:Int)<(m:Int))=true:=decide_eq_true (by omega)
  have e2:zn 2 [.sl id off m lo ex 2,.int .i64 (pre.length:Int)]=some (.ptr id (off+pre.length*2)):=by
   have:Nat.blt pre.length m=true:=by simp[Nat.blt];omega
   simp[zn,zBK,this]
  have e3:zA7 2 [.ptr id (off+pre.length*2)] H=some (.agg [.str h.1,.str h.2]):=by
   rw[zJm hc (by omega)]
   have h1:(all.drop (off+pre.length*2)).take 2=((hcells hs).drop (pre.length*2)).take 2:=by
    rw[<- hall,List.drop_take,List.take_take,List.drop_drop,Nat.min_eq_left (by omega)]
   rw[h1,he,zKx,<- zCX pre,List.drop_left,zC6]
   rfl
  have hG:=Gr.new hw [V.str [],V.str []] 2 true
  have hK:=Blk.new H [V.str [],V.str []] 2 true nl
  have e4:zBV [.str [],.str []] [] H Z=some (.ptr H.size 0,H.new [V.str [],V.str []] 2 true,Z):=rfl
  obtain⟨H1,k1,k2,k3,k4⟩:=hK.eStore hG.wf 0 (.agg [.str h.1,.str h.2]) 2 rfl (by simp) rfl Z
  have k2:Blk H1 H.size H.size [.str h.1,.str h.2]:=k2
  have hG1:=hG.trans k3 nl
  have e5:zA7 2 [.ptr H.size 0] H1=some (.agg [.str h.1,.str h.2]):=by rw[zJm k2.cells (by simp)];rfl
  have e9:wr .i64 ((pre.length:Int)+Int.ofNat 1)=((pre++[h]).length:Int):=by
   rw[zES (by first | (simp;done) | (simp;omega) | omega) (by first | (simp;done) | (simp;omega) | omega)]
   simp
  obtain⟨H2,Z2,p1,p2⟩:=h112 h.1 h.2 (hsz h (by rw[he];simp)) H1 k3.wf Z (fun v17 H18 Z19 =>
   zV v17
    (zC (zQ 1 [.ptr H.size 0]) fun v20 =>
   zC (zf [v20] H18) fun v21 =>
   effK (zZ 1 1 [(.str [])] [(0,1)] [v21] H18 Z19) fun v22 H23 Z24 =>
   effK (zAj 1 16 [v6,v22] H23 Z24) fun v25 H26 Z27 =>
   zCD c N (seqK (fun st Z=>zq (zBQ c N) n st Z k) k) ⟨(T.s (T.s (T.s (T.s (T.s (T.s (T.s (T.s (T.s (T.s (T.s (T.s (T.s .leaf 1 (.str name)) 6 v6) 8 (.ptr H.size 0)) 9 (.sl id off m lo ex 2)) 10 (.int .i64 (m:Int))) 11 (.int .i64 (pre.length:Int))) 17 v17) 18 v6) 19 v20) 20 v21) 21 v22) 22 v25) 6 v25),H26⟩ Z27)
    (zCD c N (seqK (fun st Z=>zq (zBQ c N) n st Z k) k) ⟨(T.s (T.s (T.s (T.s (T.s (T.s (T.s .leaf 1 (.str name)) 6 v6) 8 (.ptr H.size 0)) 9 (.sl id off m lo ex 2)) 10 (.int .i64 (m:Int))) 11 (.int .i64 (pre.length:Int))) 17 v17),H18⟩ Z19))
  have hG2:Gr H.size H H2:=hG1.trans p1 (by rw[k4];exact Nat.le_succ _)
  have hw2:=p1.wf
  have ho2:=ho.gr hG2 hw nl
  have hc2:=hG2.cells hw nl hc
  rw[zI]
  simp only[zBQ,zA f1,zA f6,zA f9,zA f10,zA f11,zL,e1,zPP,e2,zBX,e3,e4,zJL,k1,e5,p2]
  cases hsel:lower h.1 == lower name with
  | false =>
   obtain⟨v6',H',Z',q1,q2,q3⟩:=ih (pre++[h]) v6 vals n (T.s (T.s (T.s (T.s (T.s (T.s (T.s .leaf 1 (.str name)) 6 v6) 9 (.sl id off m lo ex 2)) 10 (.int .i64 (m:Int))) 11 (.int .i64 (pre.length:Int))) 23 (.int .i64 ((pre++[h]).length:Int))) 11 (.int .i64 ((pre++[h]).length:Int))) H2 Z2 hw2 (by have:=hG2.size;omega) (by rw[he];simp) hc2 ho2 (by simp at hb;omega) (by simp at hn;omega) (by simp[T.get_set]) (by simp[T.get_set]) (by simp[T.get_set]) (by simp[T.get_set]) (by simp[T.get_set])
   refine⟨v6',H',Z',(hG2.weaken hB).trans q1 nl,by simpa [sel,hsel] using q2,?_⟩
   simp only[zJU,zCD]
   simp only[zK,↓reduceIte,Nat.reduceEqDiff]
   simp only[zS,e9,seqK,q3]
  | true =>
   have hblk2:=k2.gr p1 k3.wf nl
   have e6:zf [.ptr H.size (0+1)] H2=some (.str h.2):=zDQ hblk2.cells rfl
   have hG3:=Gr.new hw2 [V.str h.2] (1*1) false
   have e7:zZ 1 1 [(.str [])] [(0,1)] [.str h.2] H2 Z2=some (.sl H2.size 0 1 1 none 1,H2.new [.str h.2] (1*1) false,Z2):=rfl
   have ho3:=ho2.gr hG3 hw2 nl
   have hc3:=hG3.cells hw2 nl hc2
   obtain⟨v25,H4,r1,r2,r3,r4⟩:=ho3.append (bytes:=16) hG3.wf (by have:=hG2.size;have:=hG3.size;omega) 1 [.str h.2] (by omega) rfl rfl (by simp at hb;omega) (by simp at hb;omega) Z2
   have e8:zAj 1 16 [v6,.sl H2.size 0 1 1 none 1] (H2.new [.str h.2] (1*1) false) Z2=some (v25,H4,Z2.tail):=by
    have hl:(H2.new [V.str h.2] (1*1) false).loads H2.size 0 (1*1)=some [.str h.2]:=by
     rw[zCj (zOd _ _ _ _) (by simp)];rfl
    simp only[zAj,zHg,zDg,Nat.beq_refl,cond_true,hl,r1]
   obtain⟨v6',H',Z',q1,q2,q3⟩:=ih (pre++[h]) v25 (vals++[h.2]) n (T.s (T.s (T.s (T.s (T.s (T.s (T.s .leaf 1 (.str name)) 6 v25) 9 (.sl id off m lo ex 2)) 10 (.int .i64 (m:Int))) 11 (.int .i64 (pre.length:Int))) 23 (.int .i64 ((pre++[h]).length:Int))) 11 (.int .i64 ((pre++[h]).length:Int))) H4 Z2.tail r3.wf (by have:=hG2.size;have:=hG3.size;have:=r3.size;omega) (by rw[he];simp) (r4 _ _ hc3) (by simpa using r2) (by simp at hb;first | (simp;done) | (simp;omega) | omega) (by simp at hn;omega) (by simp[T.get_set]) (by simp[T.get_set]) (by simp[T.get_set]) (by simp[T.get_set]) (by simp[T.get_set])
   refine⟨v6',H',Z',?_,by simpa [sel,hsel] using q2,?_⟩
   ·exact((hG2.trans hG3 hG2.size).weaken hB).trans (r3.trans q1 nl) nl
   simp only[zPP,zQ,zBX,e6,e7,zJL,e8,zCD]
   simp only[zK,↓reduceIte,Nat.reduceEqDiff]
   simp only[zS,e9,seqK,q3]
theorem strsOf_map (l:List Bs):strsOf (l.map V.str)=some l:=by
 induction l with
 | nil=>rfl
 | cons x l ih=>simp only[List.map_cons,strsOf,ih]
theorem join_own {H:Heap}{B:Nat}{v:V}{n:Nat}{vals:List Bs}{sep:Bs}(ho:Own H B 1 v n (vals.map V.str))(h1:(zOO sep vals).length<=140737488355328)(h2:n<=140737488355328)(Z:Tape):zLv [v,.str sep] H Z=some (.str (zOO sep vals),H,Z):=by
 have hc:=ho.rd
 rcases ho with⟨rfl,rfl,hv⟩ | ⟨id,e,room,fam,ver,pl,st,fr,rfl,k2,k3,k4,k5,k6,k7⟩
 ·have:vals=[]:=by simpa using hv
  subst this
  rfl
 ·have hcells:H.cells? id=some (vals.map V.str):=by
   simp only[Heap.cells?,k2,k3]
   rw[show Nat.ble fr ver=true from Nat.ble_eq_true_of_le k4]
   rfl
  have hl:H.loads id 0 n=some (vals.map V.str):=by
   rw[zCj hcells (by rw[k7];omega),List.drop_zero,List.take_of_length_le (by rw[k7];omega)]
  simp only[zLv,Nat.beq_refl,cond_true,hl,strsOf_map,Nat.ble_eq_true_of_le h1,Nat.ble_eq_true_of_le h2,Bool.and_self]
theorem own_len {H:Heap}{B z:Nat}{v:V}{n:Nat}{cs:List V}(ho:Own H B z v n cs):pLen [v]=some (.int .i64 (n:Int)):=by
 rcases ho with⟨rfl,rfl,_⟩ | ⟨id,e,room,fam,ver,pl,st,fr,rfl,_⟩ <;> rfl
theorem rd_len {H:Heap}{z:Nat}{v:V}{n:Nat}{cs:List V}(ho:Rd H z v n cs):pLen [v]=some (.int .i64 (n:Int)):=by
 rcases ho with⟨rfl | ⟨id,off,lo,ex,rfl⟩,rfl,_⟩ | ⟨id,off,lo,ex,all,rfl,_⟩ <;> rfl
def getT (name:Bs)(hs:List (Bs × Bs)):Bs:=zOO [44,32] (sel name hs)
theorem zPM (c:zG)(N:Nat)(hN:9223372036854775807<=N)(name:Bs)(hname:name.length<=140737488355328)(hs:List (Bs × Bs))(hmb:hs.length<=4294967296)(hsz:∀ h ∈ hs,h.1.length<=140737488355328)(hj:(getT name hs).length<=140737488355328)
  (h113:∀ vs H Z q,c zNW vs H Z q=effK (zLv vs H Z) q)
  (h112:∀ (n v:Bs),n.length<=140737488355328->∀ (H:Heap),WF H->∀ Z q,∃ H' Z',Gr H.size H H'/\c zHH [.agg [.str n,.str v],.str name] H Z q=q (.bool (lower n == lower name)) H' Z')
  (v:V) (H:Heap) (hw:WF H) (hr:Rd H 2 v hs.length (hcells hs)) (Z:Tape) (q:KV) :
  ∃ H' Z',Gr H.size H H'/\zFb c N v (.str name) H Z q=q (.tup [.str (getT name hs),.bool (decide (0<(sel name hs).length))]) H' Z':=by
 have hend:∀ (v6:V) (H':Heap) (Z':Tape),Own H' H.size 1 v6 (sel name hs).length ((sel name hs).map V.str) ->
   (zW 0 (seqK (zE3 c N q) (endK [(.t 4),(.t 5)] q))) (.exit 0) ⟨T.s .leaf 6 v6,H'⟩ Z'=q (.tup [.str (getT name hs),.bool (decide (0<(sel name hs).length))]) H' Z':=by
  intro v6 H' Z' ho
  have hsl:(sel name hs).length<=hs.length:=by
   simp only[sel,List.length_map]
   exact List.length_filter_le _ _
  simp only[zW,Nat.beq_refl,cond_true,seqK,zE3,zK,↓reduceIte,h113]
  rw[show bs [44,32]=[44,32]from rfl,join_own ho hj (by omega),zJL,own_len ho,zBX,zY]
  have:decide (Int.ofNat 0<((sel name hs).length:Int))=decide (0<(sel name hs).length):=by
   rw[decide_eq_decide];simp <;> omega
  rw[this]
  rfl
 by_cases h0:hs=[]
 ·subst h0
  refine⟨H,Z,Gr.refl hw,?_⟩
  obtain⟨N,rfl⟩:∃ j,N=j+1:=⟨N-1,by omega⟩
  simp only[zFb,rd_len hr,zBX,zI,zBQ,zK,↓reduceIte,Nat.reduceEqDiff]
  rw[zL,show decide (Int.ofNat 0<((([]:List (Bs × Bs)).length:Nat):Int))=false from rfl,zJU,seqK]
  exact hend .nils H Z (Own.nil _ _ _)
 ·rcases hr with⟨_,hz,_⟩ | ⟨id,off,lo,ex,all,rfl,hc,hall,hlen⟩
  ·exact absurd (List.length_eq_zero_iff.1 hz) h0
  ·have hpos:0<hs.length:=List.length_pos_iff.2 h0
   have hl:off+hs.length*2<=all.length:=by
    have:=hlen
    rw[hall,List.length_take,List.length_drop]at this
    omega
   obtain⟨v6,H',Z',k1,k2,k3⟩:=get_loop c N (B:=H.size) (lo:=lo) (ex:=ex) (zW 0 (seqK (zE3 c N q) (endK [(.t 4),(.t 5)] q))) name hname hs rfl hmb hsz hall.symm hl h112 hs [] .nils [] N (T.s (T.s (T.s (T.s (T.s .leaf 1 (.str name)) 6 .nils) 9 (.sl id off hs.length lo ex 2)) 10 (.int .i64 (hs.length:Int))) 11 (.int .i64 0)) H Z hw nl rfl hc (Own.nil _ _ _) (by simpa using hmb) (by omega) (by simp[T.get_set]) (by simp[T.get_set]) (by simp[T.get_set]) (by simp[T.get_set]) (by simp[T.get_set])
   refine⟨H',Z',k1,?_⟩
   have e1:pLen [.sl id off hs.length lo ex 2]=some (.int .i64 (hs.length:Int)):=rfl
   simp only[zFb,e1,zBX]
   rw[show(V.int IntKind.i64 (Int.ofNat 0))=.int .i64 0 from rfl,k3]
   exact hend v6 H' Z' (by simpa using k2)
def cutB (x:UInt8):Bs->Option (Bs × Bs)
 | []=>none
 | y::l=>if y=x then some ([],l)else match cutB x l with
  | some (a,b)=>some (y::a,b)
  | none=>none
def GetOk (c:zG)(name:Bs)(hs:List (Bs × Bs)):Prop:=∀ (v:V) (H:Heap),WF H->Rd H 2 v hs.length (hcells hs)->∀ Z q,
  ∃ H' Z',Gr H.size H H'/\c zAx [v,.str name] H Z q=q (.tup [.str (getT name hs),.bool (decide (0<(sel name hs).length))]) H' Z'
end Go.Am.X

namespace Go.Am.X
open Go Go.ChangeShapes Go.WideShapes Go.RowKit
theorem zOJ {w:World}{b o:Nat}{v:Value}(h:w.cell? ⟨b,o,none⟩=some v):∃ c el fz,w.heap[b]?=some (.cells c el fz)/\c[o]?=some v:=by
 unfold World.cell? at h
 split at h
 ·rename_i c el fz hh
  exact⟨c,el,fz,hh,by simpa using h⟩
 ·cases h
theorem shape_invH {w:World}{b:Nat}{x:TypeId × Nat}(h:w.shape? b=some x):∃ c el fz,w.heap[b]?=some (.cells c el fz):=by
 unfold World.shape? at h
 split at h
 ·rename_i c el fz hh
  exact⟨c,el,fz,hh⟩
 ·cases h
theorem zRI {X:Type}(P:Program)(e:TypeId):∀ (l:List (DataW X)) (d:DataW X),d ∈ l->∀ x ∈ d.weights P e,x ∈ DataW.weightsAll P e l:=by
 intro l
 induction l with
 | nil=>intro d h;simp at h
 | cons a l ih =>
  intro d h x hx
  simp only[DataW.weightsAll,List.mem_append]
  rcases List.mem_cons.1 h with rfl | h
  ·exact .inl hx
  ·exact .inr (ih d h x hx)
theorem zRU {X:Type}{P:Program}{ts:List TypeId}{ds:List (DataW X)}(h:(DataW.weightsEach P ts ds).all (·<=reachBytes)=true){j:Nat}{t:TypeId}{d:DataW X}(ht:ts[j]?=some t)(hd:ds[j]?=some d):∀ x ∈ d.weights P t,x<=reachBytes:=by
 intro x hx
 have:=List.all_eq_true.1 h _ (DataW.weights_mem_each ht hd x hx)
 simpa using this
theorem zR5 {P:Program}{W:World}{X:Type}{enc:TypeId × Value->X}{t e:TypeId}{f0 f1:Field}(ht:P.underlying t=some (.slice e))(he:P.underlying e=some (.struct #[f0,f1]))
  (ce:P.cellsOf e=2) (o0:f0.offset=0) (o1:f1.offset=1) (c0:P.cellsOf f0.type=1) (c1:P.cellsOf f1.type=1) (s0:P.underlying f0.type=some .string) (s1:P.underlying f1.type=some .string)
  {v:Value} {d:DataW X} {p:List MemPlace} {base:Nat} (hval:Value.okWide P W .any base t v) (hd:DataW.Trod enc P W 0 (fun _=>true) true t v d p) (hwt:∀ x ∈ d.weights P t,x<=reachBytes) (n:Nat) :
  ∃ (hs:List (Bs × Bs)) (u:V) (ent:Option (List V)) (addr:Nat × Nat),hs.length<=9223372036854775807/\(∀ h ∈ hs,h.1.length<=140737488351232/\h.2.length<=140737488351232)/\(∀ U:Inj,U n=addr->cv U u=v) /\
   (∀ cs,ent=some cs->cs=hcells hs/\∀ (U:Inj) base,U n=addr->BOk U base W n cs cs.length false)/\(∀ H:Heap,n<H.size->VOk H u) /\
   (∀ H:Heap,(∀ cs,ent=some cs->H.cells? n=some cs)->Rd H 2 u hs.length (hcells hs)/\Src H u):=by
 obtain⟨fuel,hf⟩:=hd
 have hv1:Cell.ok P W .any base t v:=by
  unfold Value.okWide at hval
  rw[ht]at hval
  unfold Cell.okWide at hval
  rw[ht]at hval
  exact hval
 have hcl:v.cells.toList=[v]:=by
  cases v <;> first | rfl | (unfold Cell.ok at hv1;rw[ht]at hv1;exact hv1.elim)
 rw[hcl]at hf
 rcases Deep.open_slice_pairs ht he ce o0 o1 c0 c1 hf with⟨hcs,_⟩ | ⟨a,len,cap,m,k,V0,V1,D0,D1,P0,P1,hcs,_,hlc,hcm,hm,hxd,hall⟩
 ·have:v=.slice none 0 0:=by simpa using hcs
  subst this
  exact⟨[],.nils,none,(0,0),by simp,(fun h hh=>by simp at hh),fun _ _=>rfl,(fun cs h=>by cases h),fun _ _=>trivial,fun _ _=>⟨.inl ⟨.inl rfl,rfl,rfl⟩,trivial⟩⟩
 ·have:v=.slice (some a) len cap:=by simpa using hcs
  subst this
  have hhas:=hv1
  unfold Cell.ok at hhas
  rw[ht]at hhas
  have hspot:a.spot=none:=hhas.2.2.2.1
  obtain⟨row,cells,hsh,_⟩:=hhas.2.2.2.2
  obtain⟨ab,ao,asp⟩:=a
  simp only at hspot hsh
  subst hspot
  obtain⟨c0',el0,fz0,hb0⟩:=shape_invH hsh
  have hmc:m=cap:=by simpa using hm
  subst hmc
  have hstr:∀ i,i<m->∃ x y:Bs,W.cell? ⟨ab,ao+i*2,none⟩=some (.string ⟨x.toArray⟩)/\W.cell? ⟨ab,ao+(i*2+1),none⟩=some (.string ⟨y.toArray⟩)/\D0 i=.lit (.string x)/\D1 i=.lit (.string y):=by
   intro i hi
   obtain⟨h1,h2,h3,h4⟩:=hall i hi
   obtain⟨x,hx,hx3,_⟩:=DataW.trod_string s0 h3
   obtain⟨y,hy,hy3,_⟩:=DataW.trod_string s1 h4
   have hx':V0 i=.string x:=by simpa using hx
   have hy':V1 i=.string y:=by simpa using hy
   refine⟨x.data.toList,y.data.toList,?_,?_,congrArg Prod.fst hx3,congrArg Prod.fst hy3⟩
   ·rw[<- zGn,h1,hx']
   ·rw[<- zGn,h2,hy']
  obtain⟨X0,hX⟩:∃ X0:Nat->Bs × Bs,∀ i,i<m->W.cell? ⟨ab,ao+i*2,none⟩=some (.string ⟨(X0 i).1.toArray⟩)/\W.cell? ⟨ab,ao+(i*2+1),none⟩=some (.string ⟨(X0 i).2.toArray⟩)/\D0 i=.lit (.string (X0 i).1)/\D1 i=.lit (.string (X0 i).2):=by
   refine⟨fun i=>if h:i<m then((hstr i h).choose,(hstr i h).choose_spec.choose)else([],[]),fun i hi=>?_⟩
   simp only[dif_pos hi]
   exact(hstr i hi).choose_spec.choose_spec
  by_cases h0:len=0
  ·subst h0
   refine⟨[],.sl n ao 0 m none 2,some [],(ab,0),by simp,(fun h hh=>by simp at hh),fun U hU=>?_,(fun cs h=>?_),fun H hn=>⟨hn,by simp,(fun h=>by cases h)⟩,fun H hH=>⟨.inl ⟨.inr ⟨_,_,_,_,rfl⟩,rfl,rfl⟩,⟨[],hH _ rfl⟩⟩⟩
   ·simp[cv,hU]
   ·cases h
    exact⟨rfl,fun U base hU=>⟨c0',el0,fz0.1,fz0.2,by rw[hU];exact hb0,by rw[hU];simp,fun j u hu=>by simp at hu,fun h=>by cases h⟩⟩
  ·have hlen:((List.range len).map X0).length=len:=by simp
   refine⟨(List.range len).map X0,.sl n 0 len m none 2,some (hcells ((List.range len).map X0)),(ab,ao),?_,?_,fun U hU=>?_,fun cs h=>?_,fun H hn=>⟨hn,by simpa using hlc,(fun h=>by cases h)⟩,fun H hH=>?_⟩
   ·rw[hlen]
    unfold maxLen at hcm
    omega
   ·intro h hh
    obtain⟨i,hi,rfl⟩:=List.mem_map.1 hh
    have hi:=List.mem_range.1 hi
    obtain⟨_,_,z1,z2⟩:=hX i (by omega)
    have hdd:d=.slice ((List.range len).map fun i=>.agg [D0 i,D1 i]) ((List.range (m-len)).map fun j=>.agg [D0 (len+j),D1 (len+j)]):=congrArg Prod.fst hxd
    have hmem:(DataW.agg [D0 i,D1 i]:DataW X) ∈ (List.range len).map fun i=>DataW.agg [D0 i,D1 i]:=List.mem_map.2 ⟨i,List.mem_range.2 hi,rfl⟩
    have hall2:=zRI P e _ _ hmem
    have key:∀ x,x ∈ (DataW.agg [D0 i,D1 i]:DataW X).weights P e->x<=reachBytes:=by
     intro x hx
     refine hwt x ?_
     rw[hdd]
     simp only[DataW.weights,ht,List.mem_cons,List.mem_append]
     exact .inr (.inl (hall2 x hx))
    have kw:(DataW.agg [D0 i,D1 i]:DataW X).weights P e=[(X0 i).1.length,(X0 i).2.length]:=by
     simp[DataW.weights,he,DataW.weightsEach,z1,z2]
    rw[kw]at key
    have a1:=key _ (by simp:(X0 i).1.length ∈ _)
    have a2:=key _ (by simp:(X0 i).2.length ∈ _)
    unfold reachBytes at a1 a2
    exact⟨a1,a2⟩
   ·simp[cv,hU]
   ·cases h
    refine⟨rfl,fun U base hU=>?_⟩
    obtain⟨c,el,fz,hb,_⟩:=zOJ (hX 0 (by omega)).1
    have hget:∀ j (u:V),(hcells ((List.range len).map X0))[j]?=some u->c[ao+j]?=some (cv U u):=by
     intro j u hu
     have hj:j<len*2:=by
      have:=(List.getElem?_eq_some_iff.1 hu).1
      rw[zCX,hlen]at this
      exact this
     have key:∀ (l:List (Bs × Bs)) (i:Nat) (h:Bs × Bs),l[i]?=some h->(hcells l)[i*2]?=some (.str h.1)/\(hcells l)[i*2+1]?=some (.str h.2):=by
      intro l
      induction l with
      | nil=>intro i h hi;simp at hi
      | cons x l ih =>
       intro i h hi
       cases i with
       | zero=>simp at hi;subst hi;exact⟨rfl,rfl⟩
       | succ i =>
        have:=ih i h (by simpa using hi)
        rw[zC6,show(i+1)*2=i*2+1+1 by omega]
        exact⟨by simpa using this.1,by simpa using this.2⟩
     have hi:j / 2<len:=by omega
     have hx:((List.range len).map X0)[j / 2]?=some (X0 (j / 2)):=by
      rw[List.getElem?_map,List.getElem?_range hi];rfl
     obtain⟨k1,k2⟩:=key _ _ _ hx
     obtain⟨w1,w2,_,_⟩:=hX (j / 2) (by omega)
     obtain⟨c',el',fz',hb',hc'⟩:=zOJ w1
     obtain⟨c'',el'',fz'',hb'',hc''⟩:=zOJ w2
     rw[hb]at hb' hb''
     cases hb'
     cases hb''
     generalize hi':j / 2=i at *
     rcases Nat.mod_two_eq_zero_or_one j with hj2 | hj2
     ·obtain rfl:j=i*2:=by omega
      rw[k1]at hu
      cases hu
      exact hc'
     ·obtain rfl:j=i*2+1:=by omega
      rw[k2]at hu
      cases hu
      exact hc''
    refine⟨c,el,fz.1,fz.2,by rw[hU];exact hb,?_,fun j u hu=>by rw[hU];exact hget j u hu,(fun h=>by cases h)⟩
    rw[hU,zCX,hlen]
    obtain⟨c'',el'',fz'',hb'',hc''⟩:=zOJ (hX (len-1) (by omega)).2.1
    rw[hb]at hb''
    cases hb''
    have:=(Array.getElem?_eq_some_iff.1 hc'').1
    simp only
    omega
   ·refine⟨.inr ⟨n,0,m,none,hcells ((List.range len).map X0),by rw[hlen],hH _ rfl,?_,by rw[zCX]⟩,⟨_,hH _ rfl⟩⟩
    rw[List.drop_zero,List.take_of_length_le (by rw[zCX];exact Nat.le_refl _)]
end Go.Am.X

namespace Go.Am.X
end Go.Am.X

namespace Go.Am.X
end Go.Am.X

namespace Go.Am.X
abbrev GetOk' (c:zG)(name:Bs)(hs:List (Bs × Bs)):Prop:=∀ (v:V) (H:Heap),WF H->Rd H 2 v hs.length (hcells hs)->∀ Z,
  ∃ H' Z',Gr H.size H H'/\∀ q,c zAx [v,.str name] H Z q=q (.tup [.str (getT name hs),.bool (decide (0<(sel name hs).length))]) H' Z'
abbrev C (N d:Nat):zG:=zPJ (zOA tabE N) d
theorem C_nat (N d:Nat):zKw (C N d):=tab_nat N d
section
variable {N:Nat} (hN:9223372036854775807<N)
include hN
theorem zOs (d:Nat)(hd:3<=d):LowOk (C N d):=by
 intro s hs H hw Z q
 obtain⟨d,rfl⟩:∃ e,d=e+1+1+1:=⟨d-3,by omega⟩
 obtain⟨H',Z',k1,k2⟩:=zO3 (C N (d+1)) N (Nat.le_of_lt hN) s hs H hw (fun x H Z q=>s69_eval (C N d) N x H Z q) Z (fun v0 H1 Z2=>q v0 H1 Z2)
 exact⟨H',Z',k1,k2⟩
theorem d_headers_is (d:Nat)(hd:4<=d)(name:Bs)(hm:name.length<=140737488355328)(n v:Bs)(hn:n.length<=140737488355328)(H:Heap)(hw:WF H)(Z:Tape)(q:KV):∃ H' Z',Gr H.size H H'/\C N d zHH [.agg [.str n,.str v],.str name] H Z q=q (.bool (lower n == lower name)) H' Z':=by
 obtain⟨d,rfl⟩:∃ e,d=e+1:=⟨d-1,by omega⟩
 exact zP4 (C N d) N (zOs hN d (by omega)) n v name hn hm H hw Z q
end
structure Small (hs:List (Bs × Bs)):Prop where
 len:hs.length<=1000
 all:∀ h ∈ hs,h.1.length<=10000/\h.2.length<=10000
section
variable {N:Nat} (hN:9223372036854775807<N)
include hN
omit hN in
theorem joinT_length (sep:Bs)(M:Nat):∀ (l:List Bs),(∀ x ∈ l,x.length<=M)->(joinT sep l).length<=l.length*(M+sep.length):=by
 intro l
 induction l with
 | nil=>intro _;simp[joinT]
 | cons x l ih =>
  intro h
  have h1:=h x (by simp)
  have h2:=ih (fun y hy=>h y (by simp[hy]))
  simp only[joinT,List.length_append,List.length_cons,Nat.succ_mul]
  omega
omit hN in
theorem joinB_length (sep:Bs)(M:Nat)(l:List Bs)(h:∀ x ∈ l,x.length<=M):(zOO sep l).length<=l.length*(M+sep.length):=by
 cases l with
 | nil=>simp[zOO]
 | cons x l =>
  have h1:=h x (by simp)
  have h2:=joinT_length sep M l (fun y hy=>h y (by simp[hy]))
  simp only[zOO,List.length_append,List.length_cons,Nat.succ_mul]
  omega
omit hN in
theorem getT_small {hs:List (Bs × Bs)}(h:Small hs)(name:Bs):(getT name hs).length<=10002000:=by
 have h1:(sel name hs).length<=1000:=by
  have:=h.len
  simp only[sel,List.length_map]
  have:=List.length_filter_le (fun h:Bs × Bs=>lower h.1 == lower name) hs
  omega
 have h2:=joinB_length [44,32] 10000 (sel name hs) (fun x hx=>by
  simp only[sel,List.mem_map,List.mem_filter]at hx
  obtain⟨y,⟨hy,_⟩,rfl⟩:=hx
  exact(h.all y hy).2)
 have h3:(sel name hs).length*(10000+([44,32]:Bs).length)<=1000*10002:=Nat.mul_le_mul h1 (by simp)
 unfold getT
 omega
theorem zRt (d:Nat)(hd:5<=d)(name:Bs)(hm:name.length<=140737488355328){hs:List (Bs × Bs)}(h:Small hs):GetOk (C N d) name hs:=by
 intro v H hw hr Z q
 obtain⟨d,rfl⟩:∃ e,d=e+1:=⟨d-1,by omega⟩
 obtain⟨d,rfl⟩:∃ e,d=e+1:=⟨d-1,by omega⟩
 exact zPM (C N (d+1)) N (Nat.le_of_lt hN) name hm hs (by have:=h.len;omega) (fun x hx=>by have:=(h.all x hx).1;omega) (by have:=getT_small h name;omega) (fun _ _ _ _=>rfl)
  (fun n v hn H hw Z q=>d_headers_is hN (d+1) (by omega) name hm n v hn H hw Z q) v H hw hr Z q
theorem d20' (d:Nat)(hd:5<=d)(name:Bs)(hm:name.length<=140737488355328){hs:List (Bs × Bs)}(h:Small hs):GetOk' (C N d) name hs:=by
 intro v H hw hr Z
 obtain⟨H',Z',k1,k2⟩:=zRt hN d hd name hm h v H hw hr Z retK
 exact⟨H',Z',k1,fun q=>(C_nat N d).mk k2 q⟩
end
end Go.Am.X

namespace Go.Am.X
theorem idxB_none (x:Nat):∀ (l:Bs) (i:Nat),(∀ y ∈ l,y.toNat≠x)->idxB x l i=-1:=by
 intro l
 induction l with
 | nil=>intro i _;rfl
 | cons y l ih =>
  intro i h
  have e:Nat.beq y.toNat x=false:=by
   cases hb:Nat.beq y.toNat x with
   | false=>rfl
   | true=>exact absurd (Nat.eq_of_beq_eq_true hb) (h y (by simp))
  simp only[idxB,e,cond_false]
  exact ih _ (fun z hz=>h z (by simp[hz]))
theorem idxB_some (x:Nat):∀ (l:Bs) (i:Nat),(∃ y ∈ l,y.toNat=x)->0<=idxB x l i:=by
 intro l
 induction l with
 | nil=>intro i ⟨y,h,_⟩;simp at h
 | cons y l ih =>
  intro i h
  simp only[idxB,zBG]
  cases hb:Nat.beq y.toNat x with
  | true=>exact Int.natCast_nonneg _
  | false =>
   rw[cond_false]
   refine ih _ ?_
   obtain⟨z,hz,e⟩:=h
   rcases List.mem_cons.1 hz with rfl | hz
   ·rw[e]at hb
    rw[Nat.beq_refl]at hb;cases hb
   ·exact⟨z,hz,e⟩
abbrev Idx70 (c:zG):Prop:=∀ (s:Bs) (x:UInt8) H Z q,c zBy [.str s,.int .u8 (x.toNat:Int)] H Z q=q (.int .i64 (idxB x.toNat s 0)) H Z
theorem zKt (c:zG)(N:Nat)(h86:∀ (s:Bs) (x:UInt8) H Z q,c zAy [.str s,.int .u8 (x.toNat:Int)] H Z q=q (.int .i64 (idxB x.toNat s 0)) H Z)(s:Bs)(x:UInt8)(H:Heap)(Z:Tape)(q:KV) :
  zC8 c N (.str s) (.int .u8 (x.toNat:Int)) H Z q=q (.int .i64 (idxB x.toNat s 0)) H Z:=by
 simp only[zC8,h86]
end Go.Am.X

namespace Go.Am.X
def tok (x:UInt8):Bool:=(decide (97<=x.toNat) && decide (x.toNat<=122)) || (decide (65<=x.toNat) && decide (x.toNat<=90)) || (decide (48<=x.toNat) && decide (x.toNat<=57)) || ([33,35,36,37,38,39,42,43,45,46,94,95,96,124,126]:Bs).contains x
def tokT (s:Bs):Bool:=s.all tok && !s.isEmpty
theorem zRy (c:zG)(N:Nat)(h70:Idx70 c)(s:Bs)(hs:s.length<9223372036854775807)(H:Heap)(q:KV):∀ (l pre:Bs) (fr:T V) (Z:Tape) (m:Nat),s=pre++l->l.length<m->fr.get 0=some (.str s)->fr.get 7=some (.int .i64 (s.length:Int))->fr.get 8=some (.int .i64 (pre.length:Int)) ->
  zq (zAS c N) m ⟨fr,H⟩ Z (zW 0 (seqK (zAK c N q) (endK [(.t 2)] q)))=q (.bool (l.all tok && !s.isEmpty)) H Z:=by
 intro l
 induction l with
 | nil =>
  intro pre fr Z m he hm f0 f7 f8
  obtain⟨m,rfl⟩:∃ j,m=j+1:=⟨m-1,by omega⟩
  have e1:decide ((pre.length:Int)<(s.length:Int))=false:=decide_eq_false (by rw[he];simp)
  have e2:(s !=([]:Bs))=!s.isEmpty:=by cases s <;> rfl
  rw[zI]
  simp only[zAS,zA f0,zA f7,zA f8,zL,e1,zD,seqK,zW,Nat.beq_refl,cond_true,zAK,zK,↓reduceIte,zP,str_neq,zB,e2,List.all_nil,Bool.true_and]
 | cons x l ih =>
  intro pre fr Z m he hm f0 f7 f8
  obtain⟨m,rfl⟩:∃ j,m=j+1:=⟨m-1,by omega⟩
  have hl:pre.length<s.length:=by rw[he];simp
  have e1:decide ((pre.length:Int)<(s.length:Int))=true:=decide_eq_true (by omega)
  have e2:zM [.str s,.int .i64 (pre.length:Int)]=some (.int .u8 (x.toNat:Int)):=zk (by rw[he];simp)
  have e3:wr .i64 ((pre.length:Int)+Int.ofNat 1)=((pre++[x]).length:Int):=by
   rw[zES (by simp;omega) (by simp;omega)];simp
  have yes:tok x=true->zq (zAS c N) m ⟨(T.s (T.s (T.s (T.s (T.s .leaf 0 (.str s)) 7 (.int .i64 (s.length:Int))) 8 (.int .i64 (pre.length:Int))) 43 (.int .i64 ((pre++[x]).length:Int))) 8 (.int .i64 ((pre++[x]).length:Int))),H⟩ Z (zW 0 (seqK (zAK c N q) (endK [(.t 2)] q)))=q (.bool ((x::l).all tok && !s.isEmpty)) H Z:=by
   intro ht
   rw[ih (pre++[x]) _ Z m (by rw[he];simp) (by simp at hm;omega) (by simp[T.get_set]) (by simp[T.get_set]) (by simp[T.get_set]),List.all_cons,ht,Bool.true_and]
  rw[zI]
  have d1:decide (Int.ofNat 97<=(x.toNat:Int))=decide (97<=x.toNat):=by rw[decide_eq_decide];simp;omega
  have d2:decide ((x.toNat:Int)<=Int.ofNat 122)=decide (x.toNat<=122):=by rw[decide_eq_decide];simp;omega
  have d3:decide (Int.ofNat 65<=(x.toNat:Int))=decide (65<=x.toNat):=by rw[decide_eq_decide];simp;omega
  have d4:decide ((x.toNat:Int)<=Int.ofNat 90)=decide (x.toNat<=90):=by rw[decide_eq_decide];simp;omega
  have d5:decide (Int.ofNat 48<=(x.toNat:Int))=decide (48<=x.toNat):=by rw[decide_eq_decide];simp;omega
  have d6:decide ((x.toNat:Int)<=Int.ofNat 57)=decide (x.toNat<=57):=by rw[decide_eq_decide];simp;omega
  have step:∀ (a1 a2 a3 a4 a5 a6:Bool) (ix:Int),decide (97<=x.toNat)=a1->decide (x.toNat<=122)=a2->decide (65<=x.toNat)=a3->decide (x.toNat<=90)=a4->decide (48<=x.toNat)=a5->decide (x.toNat<=57)=a6->idxB x.toNat (bs [33,35,36,37,38,39,42,43,45,46,94,95,96,124,126]) 0=ix ->
    zAS c N ⟨fr,H⟩ Z (seqK (fun st Z=>zq (zAS c N) m st Z (zW 0 (seqK (zAK c N q) (endK [(.t 2)] q)))) (zW 0 (seqK (zAK c N q) (endK [(.t 2)] q)))) =
    bif ((a1 && a2) || (a3 && a4) || (a5 && a6)) || decide (0<=ix)then zq (zAS c N) m ⟨(T.s (T.s (T.s (T.s (T.s .leaf 0 (.str s)) 7 (.int .i64 (s.length:Int))) 8 (.int .i64 (pre.length:Int))) 43 (.int .i64 ((pre++[x]).length:Int))) 8 (.int .i64 ((pre++[x]).length:Int))),H⟩ Z (zW 0 (seqK (zAK c N q) (endK [(.t 2)] q)))
    else q (.bool false) H Z:=by
   intro a1 a2 a3 a4 a5 a6 ix h1 h2 h3 h4 h5 h6 hx
   simp only[zAS,zA f0,zA f7,zA f8,zL,e1,zF,e2,zB,zi,zAY,d1,d2,d3,d4,d5,d6,h1,h2,h3,h4,h5,h6,zg]
   have e9:decide (ix<Int.ofNat 0)=!decide (0<=ix):=by
    by_cases h:0<=ix
    ·rw[decide_eq_true h,decide_eq_false (by simp;omega)];rfl
    ·rw[decide_eq_false h,decide_eq_true (by simp;omega)];rfl
   have fin:∀ (b:Bool),gK (.bool b) true (fun q'=>q' (.int .u8 (x.toNat:Int)) H Z) H Z (fun v51 H52 Z53 =>
     gK (.bool b) true (fun q'=>c zBy [(.str (bs [33,35,36,37,38,39,42,43,45,46,94,95,96,124,126])),v51] H52 Z53 q') H52 Z53 fun v54 H55 Z56 =>
     gK (.bool b) true (fun q'=>binK .lss v54 (.int .i64 (.ofNat 0)) fun v=>q' v H55 Z56) H55 Z56 fun v57 H58 Z59 =>
     zC (zAE [(.bool b),v57,(.bool false)]) fun v60 =>
     zV v60
      (seqK (fun st Z=>zq (zAS c N) m st Z (zW 0 (seqK (zAK c N q) (endK [(.t 2)] q)))) (zW 0 (seqK (zAK c N q) (endK [(.t 2)] q))) .ret ⟨(T.s .leaf 2 (.bool false)),H58⟩ Z59)
      (binK .add (.int .i64 (pre.length:Int)) (.int .i64 (.ofNat 1)) fun v61 =>
     seqK (fun st Z=>zq (zAS c N) m st Z (zW 0 (seqK (zAK c N q) (endK [(.t 2)] q)))) (zW 0 (seqK (zAK c N q) (endK [(.t 2)] q))) .normal ⟨(T.s (T.s (T.s (T.s (T.s .leaf 0 (.str s)) 7 (.int .i64 (s.length:Int))) 8 (.int .i64 (pre.length:Int))) 43 v61) 8 v61),H58⟩ Z59)) =
     bif (!b) || decide (0<=ix)then zq (zAS c N) m ⟨(T.s (T.s (T.s (T.s (T.s .leaf 0 (.str s)) 7 (.int .i64 (s.length:Int))) 8 (.int .i64 (pre.length:Int))) 43 (.int .i64 ((pre++[x]).length:Int))) 8 (.int .i64 ((pre++[x]).length:Int))),H⟩ Z (zW 0 (seqK (zAK c N q) (endK [(.t 2)] q)))
     else q (.bool false) H Z:=by
    intro b
    cases b with
    | false =>
     simp only[ze,zX,zJ,cond_false,zB,zD,zS,e3,Bool.not_false,Bool.true_or,cond_true]
     rfl
    | true =>
     simp only[zAB,retK,zN,h70,hx,zL,e9,zJ,cond_true,zB,Bool.not_true,Bool.false_or]
     cases decide (0<=ix)with
     | true=>simp only[Bool.not_true,zD,zS,e3,cond_true];rfl
     | false=>simp only[Bool.not_false,zF,cond_false];rfl
   have fin':=fin (!((a1 && a2) || (a3 && a4) || (a5 && a6)))
   rw[Bool.not_not]at fin'
   rw[<- fin']
   cases a1 <;> cases a2 <;> cases a3 <;> cases a4 <;> cases a5 <;> cases a6 <;> simp only[zi,zAY,d1,d2,d3,d4,d5,d6,h1,h2,h3,h4,h5,h6,zg,zAB,zu,ze,zh,zX,retK,zN,zJ,cond_true,cond_false,zB,Bool.and_true,Bool.and_false,Bool.true_and,Bool.false_and,Bool.or_true,Bool.or_false,Bool.true_or,Bool.false_or,Bool.not_true,Bool.not_false]
  rw[step _ _ _ _ _ _ _ rfl rfl rfl rfl rfl rfl rfl]
  have hix:decide (0<=idxB x.toNat (bs [33,35,36,37,38,39,42,43,45,46,94,95,96,124,126]) 0)=([33,35,36,37,38,39,42,43,45,46,94,95,96,124,126]:Bs).contains x:=by
   by_cases h:([33,35,36,37,38,39,42,43,45,46,94,95,96,124,126]:Bs).contains x=true
   ·rw[h]
    exact decide_eq_true (idxB_some _ _ _ ⟨x,List.contains_iff_mem.1 h,rfl⟩)
   ·have h':([33,35,36,37,38,39,42,43,45,46,94,95,96,124,126]:Bs).contains x=false:=by simpa using h
    rw[h',decide_eq_false]
    have hn:idxB x.toNat (bs [33,35,36,37,38,39,42,43,45,46,94,95,96,124,126]) 0=-1:=idxB_none _ _ _ (fun y hy e=>h (List.contains_iff_mem.2 (by
     have:y=x:=UInt8.toNat_inj.1 e
     subst this;exact hy)))
    rw[hn];decide
  rw[hix]
  cases ht:tok x with
  | true =>
   have:((decide (97<=x.toNat) && decide (x.toNat<=122)) || (decide (65<=x.toNat) && decide (x.toNat<=90)) || (decide (48<=x.toNat) && decide (x.toNat<=57)) || ([33,35,36,37,38,39,42,43,45,46,94,95,96,124,126]:Bs).contains x)=true:=ht
   rw[this,cond_true]
   exact yes ht
  | false =>
   have:((decide (97<=x.toNat) && decide (x.toNat<=122)) || (decide (65<=x.toNat) && decide (x.toNat<=90)) || (decide (48<=x.toNat) && decide (x.toNat<=57)) || ([33,35,36,37,38,39,42,43,45,46,94,95,96,124,126]:Bs).contains x)=false:=ht
   rw[this,cond_false,List.all_cons,ht]
   simp
theorem zPb (c:zG)(N:Nat)(hN:9223372036854775807<=N)(h70:Idx70 c)(s:Bs)(hs:s.length<9223372036854775807)(H:Heap)(Z:Tape)(q:KV):zHm c N (.str s) H Z q=q (.bool (tokT s)) H Z:=by
 simp only[zHm,zO,zB]
 exact zRy c N h70 s hs H q s [] _ Z N rfl (by omega) (by simp[T.get_set]) (by simp[T.get_set]) (by simp[T.get_set])
end Go.Am.X

namespace Go.Am.X
abbrev Hd:=Bs × Bs
def hv (h:Hd):V:=.agg [.str h.1,.str h.2]
def named (name:Bs)(h:Hd):Bool:=lower h.1 == lower name
end Go.Am.X

namespace Go.Am.X
def dropT (name:Bs)(hs:List Hd):List Hd:=hs.filter fun h=>!named name h
end Go.Am.X

namespace Go.Am.X
section
variable {N:Nat} (hN:9223372036854775807<N)
include hN
end
end Go.Am.X

namespace Go.Am.X
abbrev NB:Nat:=9223372036854775808
theorem nb:9223372036854775807<NB:=by decide
theorem tab_all (f:Nat)(d:Def)(h:tabF.get f=some d)(base:Base)(w0:World):zQo PG base w0 f d:=defs_ok (all_ok base w0) f d h
theorem primOk_E (d f:Nat){R:List V->Heap->Out->Prop}
  (hR:∀ vs H o,WF H->VsOk H vs->R vs H o->∀ Z,∃ v H' Z',C NB d f vs H Z retK=some (v,H',Z')/\Gr H.size H H'/\o.Met H v H'):∀ base w0,zDf PG base w0 f (outP R) :=
 zRY zOG (tab_ok NB) tab_all d f hR
def strP (M:Nat):List V->Prop | [.str s]=>s.length<=M | _=>False
def strG (g:Bs->V):List V->V | [.str s]=>g s | _=>.tup []
abbrev RS (M:Nat)(g:Bs->V):=RV (strP M) (strG g)
theorem primS (d f M:Nat)(g:Bs->V)(hv:∀ s H,VOk H (g s))(h:∀ s:Bs,s.length<=M->∀ H,WF H->∀ Z,∃ H' Z',Gr H.size H H'/\∀ q,C NB d f [.str s] H Z q=q (g s) H' Z'):∀ base w0,zDf PG base w0 f (outP (RS M g)):=by
 refine primOk_E d f ?_
 rintro vs H o hw hvs ⟨hp,rfl⟩ Z
 unfold strP at hp
 split at hp
 ·rename_i s
  obtain⟨H',Z',g1,k1⟩:=h s hp H hw Z
  exact⟨_,H',Z',k1 retK,g1,rfl,hv s H⟩
 ·exact hp.elim
theorem callS {c:zG}{f M:Nat}{g:Bs->V}(hc:∀ vs H Z q,c f vs H Z q=effK (outP (RS M g) vs H Z) q)(s:Bs)(hs:s.length<=M)(H:Heap)(Z:Tape)(q:KV):c f [.str s] H Z q=q (g s) H Z:=RV_call hc (vs:=[.str s]) hs H Z q
abbrev LowR:=RS 140737488355328 fun s=>.str (lower s)
theorem zRu:∀ base w0,zDf PG base w0 zBA (outP LowR):=primS 3 _ _ _ (fun _ _=>trivial) fun s hs H hw Z=>by
 obtain⟨H',Z',g,k⟩:=zOs nb 3 (by omega) s hs H hw Z retK
 exact⟨H',Z',g,fun q=>(C_nat NB 3).mk k q⟩
end Go.Am.X

