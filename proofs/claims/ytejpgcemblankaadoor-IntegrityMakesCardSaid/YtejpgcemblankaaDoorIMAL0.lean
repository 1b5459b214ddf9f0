/- The abstract machine, printed functions of the program, and what they are shown to be. -/
import Derived.Deep.Strs
import Derived.ChangeSlices
import Derived.Test.YtejpgcemblankaaDoorIMAM3
import Derived.Test.YtejpgcemblankaaDoorIMAM4
import Derived.Test.YtejpgcemblankaaDoorIMASh1
set_option linter.unusedSimpArgs false
set_option linter.unusedVariables false
set_option linter.unusedSectionVars false
set_option maxRecDepth 100000
namespace Go.Am
open Go Go.ChangeShapes Go.WideShapes Go.RowKit
end Go.Am

namespace Go.Am
open Go Go.ChangeShapes Go.WideShapes Go.RowKit
theorem cell_inv' {w:World}{b o:Nat}{v:Value}(h:w.cell? ⟨b,o,none⟩=some v):∃ c el fz,w.heap[b]?=some (.cells c el fz)/\c[o]?=some v:=by
 unfold World.cell? at h
 split at h
 ·rename_i c el fz hh
  exact⟨c,el,fz,hh,by simpa using h⟩
 ·cases h
theorem shape_inv {w:World}{b:Nat}{x:TypeId × Nat}(h:w.shape? b=some x):∃ c el fz,w.heap[b]?=some (.cells c el fz):=by
 unfold World.shape? at h
 split at h
 ·rename_i c el fz hh
  exact⟨c,el,fz,hh⟩
 ·cases h
theorem zSb {P:Program}{W:World}{X:Type}{enc:TypeId × Value->X}{t e:TypeId}(ht:P.underlying t=some (.slice e))(he:P.underlying e=some (.int .u8))
  (ce:P.cellsOf e=1) {v:Value} {d:DataW X} {p:List MemPlace} {base:Nat} (hval:Value.okWide P W .any base t v) (hd:DataW.Trod enc P W 0 (fun _=>true) true t v d p) (n:Nat) :
  ∃ (bs:List Nat) (u:V) (ent:Option (List V)) (addr:Nat × Nat),bs.length<=9223372036854775807/\(∀ x ∈ bs,x<256)/\(∀ U:Inj,U n=addr->cv U u=v) /\
   (∀ cs,ent=some cs->cs=ws .u8 bs/\∀ (U:Inj) base,U n=addr->BOk U base W n cs cs.length false)/\(∀ H:Heap,n<H.size->VOk H u)/\Roomy u /\
   (∀ H:Heap,(∀ cs,ent=some cs->H.cells? n=some cs)->Rd H 1 u bs.length (ws .u8 bs)/\Src H u):=by
 obtain⟨fuel,hf⟩:=hd
 have hv1:Cell.ok P W .any base t v:=by
  unfold Value.okWide at hval
  rw[ht]at hval
  unfold Cell.okWide at hval
  rw[ht]at hval
  exact hval
 have hcl:v.cells.toList=[v]:=by
  cases v <;> first | rfl | (unfold Cell.ok at hv1;rw[ht]at hv1;exact hv1.elim)
 rw[hcl]at hf
 rcases open_ints ht he ce hf with⟨hcs,_⟩ | ⟨a,len,cap,zs,hcs,_,hlc,hcm,hm,_,hall,hwf⟩
 ·have:v=.slice none 0 0:=by simpa using hcs
  subst this
  exact⟨[],.nils,none,(0,0),by simp,by simp,fun _ _=>rfl,(fun cs h=>by cases h),fun _ _=>trivial,trivial,fun _ _=>⟨.inl ⟨.inl rfl,rfl,rfl⟩,trivial⟩⟩
 ·have:v=.slice (some a) len cap:=by simpa using hcs
  subst this
  have hhas:=hv1
  unfold Cell.ok at hhas
  rw[ht]at hhas
  have hspot:a.spot=none:=hhas.2.2.2.1
  obtain⟨row,cells,hsh,_⟩:=hhas.2.2.2.2
  obtain⟨ab,ao,sp⟩:=a
  simp only at hspot hsh
  subst hspot
  have hmc:zs.length=cap:=by simpa using hm
  obtain⟨c,el,fz,hb⟩:=shape_inv hsh
  by_cases h0:len=0
  ·subst h0
   refine⟨[],.sl n ao 0 cap none 1,some [],(ab,0),by simp,by simp,fun U hU=>?_,fun cs h=>?_,fun H hn=>⟨hn,by simp,(fun h=>by cases h)⟩,?_,fun H hH=>⟨.inl ⟨.inr ⟨_,_,_,_,rfl⟩,rfl,rfl⟩,⟨[],hH _ rfl⟩⟩⟩
   ·simp[cv,hU]
   ·cases h
    refine⟨rfl,fun U base hU=>⟨c,el,fz.1,fz.2,by rw[hU];exact hb,by rw[hU];simp,fun j u hu=>by simp at hu,fun h=>by cases h⟩⟩
   ·show within 0 cap none=true
    rw[within_iff];exact .inl (Nat.zero_le _)
  ·have hlen:((zs.take len).map Int.toNat).length=len:=by simp;omega
   have hz:∀ i,i<cap->∃ x:Nat,zs.getD i 0=(x:Int)/\x<256:=by
    intro i hi
    have hmem:zs.getD i 0 ∈ zs:=by
     rw[List.getD_eq_getElem?_getD,List.getElem?_eq_getElem (by omega)]
     exact List.getElem_mem _
    have h:=hwf _ hmem
    have h':IntKind.u8.min<=zs.getD i 0/\zs.getD i 0<=IntKind.u8.max:=by simpa [Lit.wf] using h
    have h1:(0:Int)<=zs.getD i 0:=h'.1
    have h2:zs.getD i 0<=255:=h'.2
    exact⟨(zs.getD i 0).toNat,by omega,by omega⟩
   have hbs:∀ i,i<len->(ws .u8 ((zs.take len).map Int.toNat))[i]?=some (.int .u8 (zs.getD i 0)):=by
    intro i hi
    obtain⟨x,hx,_⟩:=hz i (by omega)
    have e1:zs[i]?=some (zs.getD i 0):=by rw[List.getD_eq_getElem?_getD,List.getElem?_eq_getElem (by omega)];rfl
    simp only[ws,List.getElem?_map,List.getElem?_take_of_lt hi,e1,Option.map_some,hx]
    simp
   refine⟨(zs.take len).map Int.toNat,.sl n 0 len cap none 1,some (ws .u8 ((zs.take len).map Int.toNat)),(ab,ao),?_,?_,fun U hU=>?_,fun cs h=>?_,fun H hn=>⟨hn,by simpa using hlc,(fun h=>by cases h)⟩,?_,fun H hH=>?_⟩
   ·rw[hlen]
    unfold maxLen at hcm
    omega
   ·intro x hx
    obtain⟨y,hy,rfl⟩:=List.mem_map.1 hx
    obtain⟨i,hi,hiy⟩:=List.getElem_of_mem hy
    rw[List.length_take]at hi
    obtain⟨x,hx,hx2⟩:=hz i (by omega)
    have:zs.getD i 0=y:=by
     rw[List.getD_eq_getElem?_getD,List.getElem?_eq_getElem (by omega)]
     simpa using hiy
    omega
   ·simp[cv,hU]
   ·cases h
    refine⟨rfl,fun U base hU=>?_⟩
    have hall':∀ i,i<zs.length->W.cell? ⟨ab,ao+i,none⟩=some (.int .u8 (zs.getD i 0)):=fun i hi=>by
     have:=hall i hi
     unfold Addr.add at this
     split at this
     ·rename_i h0;subst h0;exact this
     ·exact this
    refine⟨c,el,fz.1,fz.2,by rw[hU];exact hb,?_,fun j u hu=>?_,(fun h=>by cases h)⟩
    ·rw[hU,zAv,hlen]
     have:W.cell? ⟨ab,ao+(len-1),none⟩=_:=hall' (len-1) (by omega)
     obtain⟨c',el',fz',hb',hc'⟩:=cell_inv' (b:=ab) (o:=ao+(len-1)) this
     rw[hb]at hb'
     cases hb'
     have:=(Array.getElem?_eq_some_iff.1 hc').1
     simp only
     omega
    ·have hj:j<len:=by
      have:=(List.getElem?_eq_some_iff.1 hu).1
      rw[zAv,hlen]at this
      exact this
     rw[hbs j hj]at hu
     cases hu
     have:W.cell? ⟨ab,ao+j,none⟩=_:=hall' j (by omega)
     obtain⟨c',el',fz',hb',hc'⟩:=cell_inv' (b:=ab) (o:=ao+j) this
     rw[hb]at hb'
     cases hb'
     rw[hU]
     exact hc'
   ·show within len cap none=true
    rw[within_iff];exact .inl hlc
   ·refine⟨.inr ⟨n,0,cap,none,_,by rw[hlen],hH _ rfl,?_,by rw[zAv,Nat.mul_one]⟩,⟨_,hH _ rfl⟩⟩
    rw[List.drop_zero,Nat.mul_one]
    exact(List.take_of_length_le (by rw[zAv];exact Nat.le_refl _)).symm
end Go.Am

namespace Go.Am.X
theorem u8_lt (x:UInt8):x.toNat<256:=x.toNat_lt
def trimB (p:UInt8->Bool)(s:List UInt8):List UInt8:=((s.reverse.dropWhile p).reverse).dropWhile p
def lowB (x:UInt8):UInt8:=if 65<=x.toNat/\x.toNat<=90 then UInt8.ofNat (x.toNat+32)else x
def lower (s:List UInt8):List UInt8:=s.map lowB
def bv (s:List UInt8):List V:=s.map fun c=>.int .u8 (c.toNat:Int)
theorem zSN (s:List UInt8):bytesOf (bv s)=some s:=by
 induction s with
 | nil=>rfl
 | cons x s ih=>simp only[bv,List.map_cons,bytesOf]at ih ⊢;rw[ih];simp
theorem bv_length (s:List UInt8):(bv s).length=s.length:=by simp[bv]
theorem s69_eval (c:zD)(N:Nat)(x:UInt8)(H:Heap)(Z:Tape)(q:KV):zEa c N (.int .u8 (x.toNat:Int)) H Z q=q (.int .u8 ((lowB x).toNat:Int)) H Z:=by
 have hx:=u8_lt x
 by_cases h1:65<=x.toNat
 ·have e1:decide (Int.ofNat 65<=(x.toNat:Int))=true:=decide_eq_true (by first | (simp;done) | (simp;omega) | omega)
  by_cases h2:x.toNat<=90
  ·have e2:decide ((x.toNat:Int)<=Int.ofNat 90)=true:=decide_eq_true (by first | (simp;done) | (simp;omega) | omega)
   have e3:wr .u8 ((x.toNat:Int)+Int.ofNat 32)=((lowB x).toNat:Int):=by
    rw[zQZ]
    simp only[lowB,h1,h2,and_self,if_true,IntKind.wrap,IntKind.signed,IntKind.bits]
    simp <;> omega
   simp only[zEa,zt,e1,zFR,zf,retK,zB3,e2,zN,zi,cond_true,zn,zQ,e3,zD8]
   simp only[zJ,↓reduceIte,Nat.reduceEqDiff]
  ·have e2:decide ((x.toNat:Int)<=Int.ofNat 90)=false:=decide_eq_false (by first | (simp;done) | (simp;omega) | omega)
   have e3:lowB x=x:=by simp[lowB,h2]
   simp only[zEa,zt,e1,zFR,zf,retK,zB3,e2,zN,zi,cond_true,zq,zD8]
   simp only[zJ,↓reduceIte,Nat.reduceEqDiff]
   rw[e3]
 ·have e1:decide (Int.ofNat 65<=(x.toNat:Int))=false:=decide_eq_false (by first | (simp;done) | (simp;omega) | omega)
  have e3:lowB x=x:=by simp[lowB,h1]
  simp only[zEa,zt,e1,zCo,zN,zi,cond_false,zq,zD8]
  simp only[zJ,↓reduceIte,Nat.reduceEqDiff]
  rw[e3]
theorem low_loop (c:zD)(N:Nat){B id e m:Nat}(k:KC)(h121:∀ (x:UInt8) H Z q,c zDA [.int .u8 (x.toNat:Int)] H Z q=q (.int .u8 ((lowB x).toNat:Int)) H Z)(l:List UInt8) :
  ∀ (pre:List UInt8) (n:Nat) (fr:T V) (H:Heap) (Z:Tape),WF H->Blk H B id (bv (lower pre++l))->(pre++l).length=m->m<9223372036854775807->l.length<n ->
  fr.get 1=some (.func zDA [] [])->fr.get 5=some (.sl id 0 m m (some e) 1)->fr.get 10=some (.sl id 0 m m (some e) 1)->fr.get 11=some (.int .i64 (m:Int))->fr.get 12=some (.int .i64 (pre.length:Int)) ->
  ∃ H',Blk H' B id (bv (lower (pre++l)))/\Gr B H H'/\zW (zF7 c N) n ⟨fr,H⟩ Z k=k (.exit 0) ⟨T.s .leaf 5 (.sl id 0 m m (some e) 1),H'⟩ Z:=by
 induction l with
 | nil =>
  intro pre n fr H Z hw hB hm hmb hn h1 h5 h10 h11 h12
  obtain⟨n,rfl⟩:∃ j,n=j+1:=⟨n-1,by simp at hn;omega⟩
  refine⟨H,by simpa using hB,Gr.refl hw,?_⟩
  have e1:decide ((pre.length:Int)<(m:Int))=false:=decide_eq_false (by simp at hm;omega)
  rw[zC]
  simp only[zF7,zA h1,zA h5,zA h10,zA h11,zA h12,zI,e1,zq,seqK]
 | cons x l ih =>
  intro pre n fr H Z hw hB hm hmb hn h1 h5 h10 h11 h12
  obtain⟨n,rfl⟩:∃ j,n=j+1:=⟨n-1,by simp at hn;omega⟩
  have hlt:pre.length<m:=by simp at hm;omega
  have e1:decide ((pre.length:Int)<(m:Int))=true:=decide_eq_true (by omega)
  have e2:zA3 1 [.sl id 0 m m (some e) 1,.int .i64 (pre.length:Int)]=some (.ptr id pre.length):=by
   have:Nat.blt pre.length m=true:=by simp[Nat.blt];omega
   simp[zA3,zC6,this]
  have e3:zF [.ptr id pre.length] H=some (.int .u8 (x.toNat:Int)):=by
   refine zg hB.cells ?_
   have:pre.length=(bv (lower pre)).length:=by simp[bv,lower]
   simp[bv,lower]
  obtain⟨H1,k1,k2,k3,k4⟩:=hB.eStore hw pre.length (.int .u8 ((lowB x).toNat:Int)) 1 rfl (by simp[bv,lower]) rfl Z
  have hcells:(bv (lower pre++x::l)).take pre.length++(V.int .u8 ((lowB x).toNat:Int)).cells++(bv (lower pre++x::l)).drop (pre.length+1)=bv (lower (pre++[x])++l):=by
   have hl:pre.length=(lower pre).length:=by simp[lower]
   simp only[bv,List.map_append,List.map_cons]
   rw[List.take_append_of_le_length (by simp[lower]),List.take_of_length_le (by simp[lower]),List.drop_append]
   simp[lower,V.cells]
  rw[hcells]at k2
  have e5:wr .i64 ((pre.length:Int)+Int.ofNat 1)=((pre++[x]).length:Int):=by
   rw[zAZ (by first | (simp;done) | (simp;omega) | omega) (by first | (simp;done) | (simp;omega) | omega)]
   simp
  obtain⟨H',m1,m2,m3⟩:=ih (pre++[x]) n (T.s (T.s (T.s (T.s (T.s (T.s (T.s .leaf 1 (.func zDA [] [])) 5 (.sl id 0 m m (some e) 1)) 10 (.sl id 0 m m (some e) 1)) 11 (.int .i64 (m:Int))) 12 (.int .i64 (pre.length:Int))) 23 (.int .i64 ((pre++[x]).length:Int))) 12 (.int .i64 ((pre++[x]).length:Int))) H1 Z k3.wf k2 (by simpa using hm) hmb (by simp at hn;omega) (by rfl) (by rfl) (by rfl) (by rfl) (by rfl)
  refine⟨H',by simpa using m1,k3.trans m2 nl,?_⟩
  rw[zC]
  simp only[zF7,zA h1,zA h5,zA h10,zA h11,zA h12,zI,e1,zn,e2,zN,e3,opK,List.nil_append,List.append_nil,h121,k1,zf,zQ,e5,seqK,m3]
theorem zPa (c:zD)(N:Nat)(hN:9223372036854775807<=N)(s:List UInt8)(hs:s.length<=140737488355328)(H:Heap)(hw:WF H)
  (h121:∀ (x:UInt8) H Z q,c zDA [.int .u8 (x.toNat:Int)] H Z q=q (.int .u8 ((lowB x).toNat:Int)) H Z) (Z:Tape) (q:KV) :
  ∃ H' Z',Gr H.size H H'/\zI8 c N (.str s) (.func zDA [] []) H Z q=q (.str (lower s)) H' Z':=by
 have hB:=Blk.new H (bv s) ((s.length+spare s.length (Z 0))*1) false (by rw[bv_length];omega)
 have hG:=Gr.new hw (bv s) ((s.length+spare s.length (Z 0))*1) false
 obtain⟨H',m1,m2,m3⟩:=low_loop c N (e:=spare s.length (Z 0)) (m:=s.length) (zP 0 (seqK (zI0 c N q) (endK [(.t 4)] q))) h121 s [] N (T.s (T.s (T.s (T.s (T.s .leaf 1 (.func zDA [] [])) 5 (.sl H.size 0 s.length s.length (some (spare s.length (Z 0))) 1)) 10 (.sl H.size 0 s.length s.length (some (spare s.length (Z 0))) 1)) 11 (.int .i64 (s.length:Int))) 12 (.int .i64 0)) _ Z.tail hG.wf (by simpa [lower] using hB) (by simp) (by omega) (by omega) (by rfl) (by rfl) (by rfl) (by rfl) (by rfl)
 refine⟨H',Z.tail,hG.trans m2 nl,?_⟩
 have e1:zEX [.str s] H Z=some (.sl H.size 0 s.length s.length (some (spare s.length (Z 0))) 1,H.new (bv s) ((s.length+spare s.length (Z 0))*1) false,Z.tail):=by
  simp only[zEX,Nat.ble_eq_true_of_le hs,cond_true,fresh]
  rfl
 have e2:pLen [.sl H.size 0 s.length s.length (some (spare s.length (Z 0))) 1]=some (.int .i64 (s.length:Int)):=rfl
 have e3:zDJ [.sl H.size 0 s.length s.length (some (spare s.length (Z 0))) 1] H'=some (.str (lower s)):=by
  have hl:(bv (lower ([]++s))).length=s.length:=by simp[bv,lower]
  simp only[zDJ,zAr m1.cells (show 0+s.length<=_ by rw[hl];omega),List.drop_zero]
  rw[List.take_of_length_le (by rw[hl];omega)]
  simp[zSN]
 simp only[zI8,e1,zf,e2,zN]
 rw[show(V.int IntKind.i64 (Int.ofNat 0))=.int .i64 0 from rfl,m3]
 simp only[zP,Nat.beq_refl,cond_true,seqK,zI0]
 simp only[zJ,↓reduceIte,Nat.reduceEqDiff]
 rw[e3,zN]
abbrev Bs:=List UInt8
abbrev LowOk (c:zD):Prop:=∀ (s:Bs),s.length<=140737488355328->∀ (H:Heap),WF H->∀ Z q,∃ H' Z',Gr H.size H H'/\c zFB [.str s] H Z q=q (.str (lower s)) H' Z'
def hcells (l:List (Bs × Bs)):List V:=l.flatMap fun h=>[.str h.1,.str h.2]
def cutB (x:UInt8):Bs->Option (Bs × Bs)
 | []=>none
 | y::l=>if y=x then some ([],l)else match cutB x l with
  | some (a,b)=>some (y::a,b)
  | none=>none
theorem cutB_spec (x:UInt8):∀ (s:Bs),(cutB x s=none->idxB x.toNat s 0=-1)/\(∀ a b,cutB x s=some (a,b)->s=a++x::b/\idxB x.toNat s 0=(a.length:Int)):=by
 intro s
 have key:∀ (s:Bs) (i:Nat),(cutB x s=none->idxB x.toNat s i=-1)/\(∀ a b,cutB x s=some (a,b)->s=a++x::b/\idxB x.toNat s i=((i+a.length:Nat):Int)):=by
  intro s
  induction s with
  | nil=>intro i;exact⟨fun _=>rfl,fun a b h=>by cases h⟩
  | cons y l ih =>
   intro i
   by_cases h:y=x
   ·subst h
    refine⟨fun h=>by simp[cutB]at h,fun a b h=>?_⟩
    simp only[cutB,if_true,Option.some.injEq,Prod.mk.injEq]at h
    obtain⟨rfl,rfl⟩:=h
    refine⟨rfl,?_⟩
    simp[idxB,zAP]
   ·have hb:Nat.beq y.toNat x.toNat=false:=by
     cases hb:Nat.beq y.toNat x.toNat with
     | false=>rfl
     | true=>exact absurd (UInt8.toNat_inj.1 (Nat.eq_of_beq_eq_true hb)) h
    simp only[cutB,h,if_false,idxB,hb,cond_false]
    obtain⟨h1,h2⟩:=ih (i+1)
    cases hc:cutB x l with
    | none=>exact⟨fun _=>h1 hc,fun a b h=>by cases h⟩
    | some ab =>
     obtain⟨a',b'⟩:=ab
     refine⟨fun h=>(by cases h),fun a b h=>?_⟩
     cases h
     obtain⟨h3,h4⟩:=h2 a' b' hc
     refine⟨by rw[h3];rfl,?_⟩
     rw[h4]
     simp <;> omega
 have:=key s 0
 simpa using this
theorem s85_one (c:zD)(N:Nat)(s:Bs)(x:UInt8)(h131:∀ vs H Z q,c zw vs H Z q=effK (idxP vs H Z) q)(H:Heap)(Z:Tape)(q:KV) :
  zE6 c N (.str s) (.str [x]) H Z q=q (.int .i64 (idxB x.toNat s 0)) H Z:=by
 have e1:((([x]:Bs).length:Int) == Int.ofNat 0)=false:=rfl
 have e2:((([x]:Bs).length:Int) == Int.ofNat 1)=true:=rfl
 have e3:zAE [.str [x],.int .i64 (.ofNat 0)]=some (.int .u8 (.ofNat x.toNat)):=rfl
 have e4:x.toNat % 256=x.toNat:=Nat.mod_eq_of_lt (u8_lt x)
 simp only[zE6,zBu,zN,zZ,e1,zHc,retK,zf,zCm,str_eql,zi,cond_false,e2,zn,e3,h131,idxP,e4]
 cases hx:([x] == s)with
 | false=>simp only[zq]
 | true =>
  have:s=[x]:=(beq_iff_eq.1 hx).symm
  subst this
  simp[zn,idxB,zAP]
theorem s66_one (c:zD)(N:Nat)(s:Bs)(x:UInt8)(hs:s.length<9223372036854775807)(h130:∀ (s:Bs) (x:UInt8) H Z q,c zGy [.str s,.str [x]] H Z q=q (.int .i64 (idxB x.toNat s 0)) H Z)(H:Heap)(Z:Tape)(q:KV) :
  zF6 c N (.str s) (.str [x]) H Z q=q (match cutB x s with | some (a,b)=>.tup [.str a,.str b,.bool true] | none=>.tup [.str s,.str [],.bool false]) H Z:=by
 obtain⟨h1,h2⟩:=cutB_spec x s
 simp only[zF6,h130]
 cases hc:cutB x s with
 | none =>
  rw[h1 hc,zt]
  rfl
 | some ab =>
  obtain⟨a,b⟩:=ab
  obtain⟨h3,h4⟩:=h2 a b hc
  have e1:decide (Int.ofNat 0<=(a.length:Int))=true:=decide_eq_true (by simp <;> omega)
  have hl:a.length<s.length:=by rw[h3];simp
  have e2:zAc false true [.str s,.int .i64 (a.length:Int)]=some (.str a):=by
   rw[zRc (by omega),h3];simp
  have e3:wr .i64 ((a.length:Int)+(([x]:Bs).length:Int))=((a.length+1:Nat):Int):=by
   rw[zAZ (by simp;omega) (by simp;omega)];simp
  have e4:zAc true false [.str s,.int .i64 ((a.length+1:Nat):Int)]=some (.str b):=by
   rw[zOf (by omega),h3];simp
  rw[h4,zt,e1,zn,e2,zN,zBu,zN,zQ,e3,e4,zN]
theorem s37_one (c:zD)(N:Nat)(s:Bs)(x:UInt8)(h103:∀ H Z q,c zI2 [.str s,.str [x]] H Z q=q (match cutB x s with | some (a,b)=>.tup [.str a,.str b,.bool true] | none=>.tup [.str s,.str [],.bool false]) H Z)(H:Heap)(Z:Tape)(q:KV) :
  zKB c N (.str s) (.str [x]) H Z q=q (match cutB x s with | some (a,b)=>.tup [.str a,.str b,.bool true] | none=>.tup [.str s,.str [],.bool false]) H Z:=by
 simp only[zKB,h103]
 cases hc:cutB x s with
 | none=>rfl
 | some ab=>rfl
end Go.Am.X

namespace Go.Am.X
end Go.Am.X

namespace Go.Am.X
end Go.Am.X

namespace Go.Am.X
def zAe (p:UInt8->Bool):Bs->Bs->List Bs
 | cur,[]=>if cur=[]then []else [cur]
 | cur,x::s=>if p x=true then(if cur=[]then zAe p [] s else cur::zAe p [] s)else zAe p (cur++[x]) s
theorem zOi {p:UInt8->Bool}:∀ (w cur r:Bs),(∀ x ∈ w,p x=false)->zAe p cur (w++r)=zAe p (cur++w) r:=by
 intro w
 induction w with
 | nil=>intro cur r _;simp
 | cons x w ih =>
  intro cur r h
  have hx:¬ p x=true:=by rw[h x (by simp)];decide
  rw[List.cons_append,zAe,if_neg hx,ih _ _ (fun y hy=>h y (by simp[hy]))]
  simp
abbrev Sp:=Nat × Nat
def spC:List Sp->List V
 | []=>[]
 | x::l=>.int .i64 (x.1:Int) :: .int .i64 (x.2:Int)::spC l
theorem zP7 (a b:List Sp):spC (a++b)=spC a++spC b:=by induction a with
 | nil=>rfl
 | cons x a ih=>simp[spC,ih]
theorem spC_length (a:List Sp):(spC a).length=a.length*2:=by induction a with
 | nil=>rfl
 | cons x a ih=>simp[spC,ih];omega
def zNy (s:Bs)(x:Sp):Bs:=(s.take x.2).drop x.1
def SpOk (s:Bs)(x:Sp):Prop:=x.1<=x.2/\x.2<=s.length
def StOk (cur pre:Bs)(st:Int):Prop:=(cur=[]/\∃ k:Nat,st=.negSucc k/\k<=9223372036854775807)∨∃ a:Nat,st=(a:Int)/\a<pre.length/\cur=pre.drop a
def rp (p:UInt8->Bool)(r:Nat):Bool:=if r<128 then p (UInt8.ofNat r)else false
def RuneP (c:zD)(fv:V)(p:UInt8->Bool):Prop:=∀ (r:Nat) (H:Heap) (Z:Tape),WF H->∃ H',Gr H.size H H'/\∀ q,opK c .callv [fv,.int .i32 (r:Int)] H Z q=q (.bool (rp p r)) H' Z
def finSp (s:Bs)(acc:List Sp)(st:Int):List Sp:=acc++(match st with | .ofNat a=>[(a,s.length)] | .negSucc _=>[])
theorem x_notI {a:Nat}(h:a<=9223372036854775807)(c:V->Ans):unK .xor (.int .i64 (a:Int)) c=c (.int .i64 (.negSucc a)):=by
 have e:wr .i64 (.ofNat (pow2 .i64-1-a % pow2 .i64))=.negSucc a:=by
  have e0:pow2 .i64=18446744073709551616:=rfl
  rw[e0,Nat.mod_eq_of_lt (by omega),zQZ]
  simp only[IntKind.wrap,IntKind.signed,IntKind.bits]
  have:((18446744073709551616-1-a:Nat):Int)=18446744073709551615-(a:Int):=by omega
  simp only[Int.ofNat_eq_natCast,this]
  simp
  rw[Int.negSucc_eq]
  split <;> omega
 simp only[unK,unOp,zHR,zOY,zN]
 exact congrArg (fun z=>c (.int .i64 z)) e
theorem rune_step (p:UInt8->Bool)(hp:∀ x:UInt8,128<=x.toNat->p x=false)(x:UInt8)(t:Bs) :
  ∃ w r:Bs,x::t=w++r/\w.length=(zB1 (x::t)).2/\1<=w.length /\
   ((rp p (zB1 (x::t)).1=true/\w=[x]/\p x=true)∨(rp p (zB1 (x::t)).1=false/\∀ y ∈ w,p y=false)):=by
 by_cases hx:x.toNat<128
 ·rw[dec_ascii x t hx]
  refine⟨[x],t,rfl,rfl,by simp,?_⟩
  have:rp p x.toNat=p x:=by unfold rp;rw[if_pos hx,UInt8.ofNat_toNat]
  simp only[this]
  cases h:p x with
  | true=>exact .inl ⟨by simp,by simp,by simp⟩
  | false=>exact .inr ⟨by simp,fun y hy=>by simp at hy;subst hy;exact h⟩
 ·obtain⟨h1,h2,h3,h4⟩:=dec_high x t (by omega)
  refine⟨(x::t).take (zB1 (x::t)).2,(x::t).drop (zB1 (x::t)).2,(List.take_append_drop _ _).symm,by rw[List.length_take];omega,by rw[List.length_take];omega,.inr ⟨?_,fun y hy=>hp y (h4 y hy)⟩⟩
  unfold rp;rw[if_neg (by omega)]
theorem l_fields (c:zD)(N:Nat)(p:UInt8->Bool)(fv:V)(hf:RuneP c fv p)(hp:∀ x:UInt8,128<=x.toNat->p x=false)(s:Bs)(hs:s.length<=100000000000)(B it:Nat)(hBi:B<=it) :
  ∀ (n:Nat) (rest pre cur:Bs) (acc:List Sp) (v5:V) (st:Int) (M:Nat) (H:Heap) (Z:Tape),rest.length<=n->n<M->s=pre++rest->WF H->it<H.size->CapP (fun i=>B<=i/\i≠it) H 2 v5 acc.length (spC acc)->Iter H it s pre.length ->
   StOk cur pre st->acc.length<=pre.length->(∀ x ∈ acc,SpOk s x) ->
  ∃ (acc':List Sp) (v5':V) (st':Int) (H':Heap) (Z':Tape),CapP (fun i=>B<=i/\i≠it) H' 2 v5' acc'.length (spC acc')/\(∀ x ∈ finSp s acc' st',SpOk s x)/\(finSp s acc' st').map (zNy s)=acc.map (zNy s)++zAe p cur rest/\acc'.length<=s.length/\(∀ k,st'=.negSucc k->k<=9223372036854775807)/\Gr B H H'/\it<H'.size /\
   ∀ (fr:T V) k,fr.get 0=some (.str s)->fr.get 1=some fv->fr.get 5=some v5->fr.get 6=some (.int .i64 st)->fr.get 14=some (.ptr it 0) ->
    zW (zAh c N) M ⟨fr,H⟩ Z k=k (.exit 0) ⟨(T.s (T.s (T.s .leaf 0 (.str s)) 5 v5') 6 (.int .i64 st')),H'⟩ Z':=by
 intro n
 induction n with
 | zero =>
  intro rest pre cur acc v5 st M H Z hn hM he hw hit hc hI hst hal hok
  obtain⟨M,rfl⟩:∃ j,M=j+1:=⟨M-1,by omega⟩
  have hr:rest=[]:=List.length_eq_zero_iff.1 (by omega)
  subst hr
  rw[List.append_nil]at he
  have hl:s.length=pre.length:=by rw[he]
  have hn1:=iter_end hI (by omega) Z
  refine⟨acc,v5,st,H,Z,hc,?_,?_,by omega,?_,Gr.refl hw,hit,fun fr k f0 f1 f5 f6 f14=>?_⟩
  ·intro x hx
   rcases List.mem_append.1 hx with h | h
   ·exact hok x h
   ·rcases hst with⟨_,k,rfl,_⟩ | ⟨a,rfl,ha,_⟩
    ·simp at h
    ·have h:x ∈ [(a,s.length)]:=h
     simp at h;subst h;exact⟨by simp only;omega,Nat.le_refl _⟩
  ·unfold finSp
   rw[List.map_append]
   congr 1
   rcases hst with⟨rfl,k,rfl,_⟩ | ⟨a,rfl,ha,rfl⟩
   ·rfl
   ·have hne:pre.drop a≠[]:=fun h=>by have:=congrArg List.length h;simp at this;omega
    rw[zAe,if_neg hne]
    show [(s.take s.length).drop a]=_
    rw[List.take_length,he]
  ·rintro k rfl
   rcases hst with⟨_,k',e,hk⟩ | ⟨a,e,_⟩
   ·cases e;exact hk
   ·cases e
  ·have x0:zR 0 [.tup [.bool false]]=some (.bool false):=rfl
   rw[zC]
   simp only[zAh,zA f0,zA f1,zA f5,zA f6,zA f14,hn1,za,x0,zK,zM]
   rfl
 | succ n ih =>
  intro rest pre cur acc v5 st M H Z hn hM he hw hit hc hI hst hal hok
  cases rest with
  | nil=>exact ih [] pre cur acc v5 st M H Z (by simp) (by omega) he hw hit hc hI hst hal hok
  | cons x t =>
  obtain⟨M,rfl⟩:∃ j,M=j+1:=⟨M-1,by omega⟩
  have hlt:pre.length<s.length:=by rw[he];simp
  obtain⟨H1,a1,a2,a3⟩:=iter_nextO hw hI hlt Z
  have hdr:s.drop pre.length=x::t:=by rw[he,List.drop_left]
  rw[hdr]at a1 a3
  obtain⟨w,r,hwr,hwl,hw1,hcase⟩:=rune_step p hp x t
  obtain⟨H2,g2,k2⟩:=hf (zB1 (x::t)).1 H1 Z a2.wf
  have it1:it<H1.size:=by rw[a2.size];exact hit
  have c1:=hc.chg hw (a2.chg (P:=fun i=>i=it) rfl) fun i _ h=>h.2
  have c2:=c1.chg a2.wf (g2.chg (P:=fun _=>False)) fun _ _ _=>not_false
  have i2:Iter H2 it s (pre++w).length:=by
   rw[List.length_append,hwl];exact a3.gr g2 it1
  have it2:it<H2.size:=Nat.lt_of_lt_of_le it1 g2.size
  have hG2:Gr B H H2:=(a2.gr hBi).trans g2 (by omega)
  have x0:∀ a b d:V,zR 0 [.tup [a,b,d]]=some a:=fun _ _ _=>rfl
  have x1:∀ a b d:V,zR 1 [.tup [a,b,d]]=some b:=fun _ _ _=>rfl
  have x2:∀ a b d:V,zR 2 [.tup [a,b,d]]=some d:=fun _ _ _=>rfl
  have hs':s=(pre++w)++r:=by rw[List.append_assoc,<- hwr];exact he
  have hrl:r.length<=n:=by
   have:=congrArg List.length hwr
   simp only[List.length_append,List.length_cons]at this hn
   omega
  have hal2:acc.length<=(pre++w).length:=by rw[List.length_append];omega
  have hnext:∀ {d:Nat} {o:Int} (kk:V->Ans),zR d=zR d:=fun _=>rfl
  rcases hcase with⟨hr1,rfl,hpx⟩ | ⟨hr0,hpw⟩
  ·have hfx:zAe p cur (x::t)=if cur=[]then zAe p [] t else cur::zAe p [] t:=by rw[zAe,if_pos hpx]
   have hrt:r=t:=by simpa using hwr.symm
   subst hrt
   rcases hst with⟨rfl,k,rfl,hk⟩ | ⟨a,rfl,ha,rfl⟩
   ·obtain⟨acc',v5',st',H',Z',r1,r2,r3,r4,r5,r6,r7,r8⟩:=ih r (pre++[x]) [] acc v5 (.negSucc k) M H2 Z hrl (by omega) hs' g2.wf it2 c2 i2 (.inl ⟨rfl,k,rfl,hk⟩) hal2 hok
    refine⟨acc',v5',st',H',Z',r1,r2,by rw[r3,hfx,if_pos rfl],r4,r5,hG2.trans r6 nl,r7,fun fr kk f0 f1 f5 f6 f14=>?_⟩
    rw[zC]
    simp only[zAh,zA f0,zA f1,zA f5,zA f6,zA f14,a1,za,x0,x1,x2,zK,zO,k2,hr1,zt,decide_eq_false (show ¬ Int.ofNat 0<=Int.negSucc k from Int.not_le.2 (Int.negSucc_lt_zero k)),zM]
    exact r8 _ _ (by rfl) (by rfl) (by rfl) (by rfl) (by rfl)
   ·have hne:pre.drop a≠[]:=fun h=>by have:=congrArg List.length h;simp at this;omega
    have hb1:(acc.length+1)*16<=140737488355328:=by omega
    obtain⟨v6,H3,Z3,b1,b2,b3⟩:=c2.put (bytes:=16) g2.wf (fun i hi=>⟨by omega,by omega⟩) [.int .i64 (a:Int),.int .i64 (pre.length:Int)] (by omega) rfl rfl hb1 (by omega) Z false
    have b0:zL 1 2 [(.int .i64 (.ofNat 0)),(.int .i64 (.ofNat 0))] [(0,2)] [.agg [.int .i64 (a:Int),.int .i64 (pre.length:Int)]] H2 Z=some (.sl H2.size 0 1 1 none 2,H2.new [.int .i64 (a:Int),.int .i64 (pre.length:Int)] 2 false,Z):=rfl
    have bb:zDw [(.int .i64 (.ofNat 0)),(.int .i64 (.ofNat 0))] [(0,1),(1,1)] [.int .i64 (a:Int),.int .i64 (pre.length:Int)]=some (.agg [.int .i64 (a:Int),.int .i64 (pre.length:Int)]):=rfl
    have hsp:spC acc++[.int .i64 (a:Int),.int .i64 (pre.length:Int)]=spC (acc++[(a,pre.length)]):=by rw[zP7];rfl
    rw[hsp]at b2
    have i3:=i2.chg g2.wf b3 (fun h=>h.2 rfl)
    have hcut:zNy s (a,pre.length)=pre.drop a:=by
     show(s.take pre.length).drop a=_
     rw[he,List.take_left]
    obtain⟨acc',v5',st',H',Z',r1,r2,r3,r4,r5,r6,r7,r8⟩:=ih r (pre++[x]) [] (acc++[(a,pre.length)]) v6 (.negSucc a) M H3 Z3 hrl (by omega) hs' b3.wf (Nat.lt_of_lt_of_le it2 b3.size) (by simpa using b2) i3 (.inl ⟨rfl,a,rfl,by omega⟩) (by simp;omega) (fun z hz=>by
     rcases List.mem_append.1 hz with h | h
     ·exact hok z h
     ·simp at h;subst h;exact⟨by simp only;omega,by simp only;omega⟩)
    refine⟨acc',v5',st',H',Z',r1,r2,by rw[r3,hfx,if_neg hne,List.map_append];simp[hcut],r4,r5,hG2.trans ((b3.gr (by omega) (fun i hi h=>by omega)).trans r6 nl) nl,r7,fun fr k f0 f1 f5 f6 f14=>?_⟩
    rw[zC]
    simp only[zAh,zA f0,zA f1,zA f5,zA f6,zA f14,a1,za,x0,x1,x2,zK,zO,k2,hr1,zt,decide_eq_true (show Int.ofNat 0<=(a:Int)from Int.natCast_nonneg a),bb,b0,b1,x_notI (show a<=9223372036854775807 by omega)]
    exact r8 _ _ (by rfl) (by rfl) (by rfl) (by rfl) (by rfl)
  ·have hrun:zAe p cur (x::t)=zAe p (cur++w) r:=by rw[hwr];exact zOi w cur r hpw
   rcases hst with⟨rfl,k,rfl,hk⟩ | ⟨a,rfl,ha,rfl⟩
   ·obtain⟨acc',v5',st',H',Z',r1,r2,r3,r4,r5,r6,r7,r8⟩:=ih r (pre++w) w acc v5 (pre.length:Int) M H2 Z hrl (by omega) hs' g2.wf it2 c2 i2 (.inr ⟨pre.length,rfl,by rw[List.length_append];omega,by rw[List.drop_left]⟩) hal2 hok
    refine⟨acc',v5',st',H',Z',r1,r2,by rw[r3,hrun,List.nil_append],r4,r5,hG2.trans r6 nl,r7,fun fr kk f0 f1 f5 f6 f14=>?_⟩
    rw[zC]
    simp only[zAh,zA f0,zA f1,zA f5,zA f6,zA f14,a1,za,x0,x1,x2,zK,zO,k2,hr0,zM,zI,decide_eq_true (show Int.negSucc k<Int.ofNat 0 from Int.negSucc_lt_zero k)]
    exact r8 _ _ (by rfl) (by rfl) (by rfl) (by rfl) (by rfl)
   ·obtain⟨acc',v5',st',H',Z',r1,r2,r3,r4,r5,r6,r7,r8⟩:=ih r (pre++w) (pre.drop a++w) acc v5 (a:Int) M H2 Z hrl (by omega) hs' g2.wf it2 c2 i2 (.inr ⟨a,rfl,by rw[List.length_append];omega,by rw[List.drop_append_of_le_length (by omega)]⟩) hal2 hok
    refine⟨acc',v5',st',H',Z',r1,r2,by rw[r3,hrun],r4,r5,hG2.trans r6 nl,r7,fun fr kk f0 f1 f5 f6 f14=>?_⟩
    rw[zC]
    simp only[zAh,zA f0,zA f1,zA f5,zA f6,zA f14,a1,za,x0,x1,x2,zK,zO,k2,hr0,zM,zI,decide_eq_false (show ¬(a:Int)<Int.ofNat 0 from Int.not_lt.2 (Int.natCast_nonneg a))]
    exact r8 _ _ (by rfl) (by rfl) (by rfl) (by rfl) (by rfl)
end Go.Am.X

namespace Go.Am.X
theorem spC_at (pre:List Sp)(x:Sp)(l:List Sp):((spC (pre++x::l)).drop (pre.length*2)).take 2=[.int .i64 (x.1:Int),.int .i64 (x.2:Int)]:=by
 rw[zP7,List.drop_left' (spC_length pre)];rfl
theorem l_cutSp (c:zD)(N:Nat)(s:Bs)(sps:List Sp)(hok:∀ x ∈ sps,SpOk s x)(hl:sps.length<=100000000001)(v5:V)(ia:Nat)(B:Nat)(hB:B<=ia) :
  ∀ (l pre:List Sp) (M:Nat) (H:Heap) (Z:Tape),sps=pre++l->l.length<M->WF H->Rd H 2 v5 sps.length (spC sps)->(∀ H1,Gx ia H.size H H1->Rd H1 2 v5 sps.length (spC sps))->ia<H.size ->
   Bx H ia (((pre.map (zNy s)).map V.str)++List.replicate l.length (.str []))->B<=H.size ->
  ∃ H' , Bx H' ia ((sps.map (zNy s)).map V.str)/\Gr B H H' /\
   ∀ (fr:T V) k,fr.get 0=some (.str s)->fr.get 9=some (.sl ia 0 sps.length sps.length none 1)->fr.get 47=some v5->fr.get 48=some (.int .i64 (sps.length:Int))->fr.get 49=some (.int .i64 (pre.length:Int)) ->
    zW (zCf c N) M ⟨fr,H⟩ Z k=k (.exit 2) ⟨(T.s .leaf 9 (.sl ia 0 sps.length sps.length none 1)),H'⟩ Z:=by
 intro l
 induction l with
 | nil =>
  intro pre M H Z he hM hw hr hrd hia hb hBs
  obtain⟨M,rfl⟩:∃ j,M=j+1:=⟨M-1,by omega⟩
  rw[List.append_nil]at he
  subst he
  refine⟨H,by simpa using hb,Gr.refl hw,fun fr k f0 f9 f47 f48 f49=>?_⟩
  have e1:decide ((sps.length:Int)<(sps.length:Int))=false:=decide_eq_false (by omega)
  rw[zC]
  simp only[zCf,zA f0,zA f9,zA f47,zA f48,zA f49,zI,e1,zM]
  rfl
 | cons x l ih =>
  intro pre M H Z he hM hw hr hrd hia hb hBs
  obtain⟨M,rfl⟩:∃ j,M=j+1:=⟨M-1,by omega⟩
  have hlt:pre.length<sps.length:=by rw[he];simp
  have e1:decide ((pre.length:Int)<(sps.length:Int))=true:=decide_eq_true (by omega)
  obtain⟨id,o,p1,p2⟩:=hr.at (by omega) hlt
  obtain⟨q1,_⟩:=p2 H _ hr
  rw[he,spC_at]at q1
  obtain⟨H1,H2,a1,a2,a3,a4,a5⟩:=boxN hw 2 [(.int .i64 (.ofNat 0)),(.int .i64 (.ofNat 0))] [.int .i64 (x.1:Int),.int .i64 (x.2:Int)] rfl rfl (by omega) rfl Z
  have y0:zF [.ptr H.size 0] H2=some (.int .i64 (x.1:Int)):=zg a3.cells rfl
  have y1:zF [.ptr H.size 1] H2=some (.int .i64 (x.2:Int)):=zg a3.cells rfl
  have hx:=hok x (by rw[he];simp)
  have e4:zAc true true [.str s,.int .i64 (x.1:Int),.int .i64 (x.2:Int)]=some (.str (zNy s x)):=zL8 hx.1 hx.2
  have e5:zA3 1 [.sl ia 0 sps.length sps.length none 1,.int .i64 (pre.length:Int)]=some (.ptr ia pre.length):=by
   have:=blt_yes hlt
   simp[zA3,zC6,this]
  have hb2:=hb.gr a4 hia
  have hlen:(((pre.map (zNy s)).map V.str)++List.replicate (x::l).length (V.str [])).length=pre.length+(l.length+1):=by simp
  obtain⟨H3,s1,s2,s3⟩:=hb2.eStore a4.wf pre.length (.str (zNy s x)) 1 rfl (by rw[hlen];omega) (by omega) rfl Z
  have hcells:(((pre.map (zNy s)).map V.str)++List.replicate (x::l).length (V.str [])).take pre.length++(V.str (zNy s x)).cells++(((pre.map (zNy s)).map V.str)++List.replicate (x::l).length (V.str [])).drop (pre.length+1)=(((pre++[x]).map (zNy s)).map V.str)++List.replicate l.length (V.str []):=by
   have hpl:((pre.map (zNy s)).map V.str).length=pre.length:=by simp
   rw[List.take_left' hpl,List.length_cons,List.replicate_succ,show((pre.map (zNy s)).map V.str)++V.str []::List.replicate l.length (V.str [])=(((pre.map (zNy s)).map V.str)++[V.str []])++List.replicate l.length (V.str [])by simp,List.drop_left' (by simp)]
   simp[V.cells]
  rw[hcells]at s2
  have e6:wr .i64 ((pre.length:Int)+Int.ofNat 1)=((pre++[x]).length:Int):=by rw[adI (by omega)];simp
  have g13:Gx ia H.size H H3:=⟨s3.wf,by rw[s3.size];exact a4.size,fun i hi hne=>by rw[s3.blk i hne,a4.blk i hi],fun f hf hne=>by rw[s3.fams f hne,a4.fams f hf]⟩
  have h3s:H.size<=H3.size:=g13.size
  obtain⟨H',r1,r2,r3⟩:=ih (pre++[x]) M H3 Z (by rw[he];simp) (by simp at hM;omega) s3.wf (hrd H3 g13) (fun H4 hg=>hrd H4 (g13.trans hg h3s)) (by omega) s2 (by omega)
  refine⟨H',r1,((g13.weaken hBs).gr hB).trans r2 nl,fun fr k f0 f9 f47 f48 f49=>?_⟩
  rw[zC]
  simp only[zCf,zA f0,zA f9,zA f47,zA f48,zA f49,zI,e1,zO,p1,q1,zK,a1,za,a2,zH,Nat.zero_add,Nat.add_zero,y0,y1,e4,e5,s1,zQ,e6]
  exact r3 _ _ (by rfl) (by rfl) (by rfl) (by rfl) (by rfl)
theorem zMK {p:UInt8->Bool}:∀ (s cur:Bs),(zAe p cur s).length<=s.length+1:=by
 intro s
 induction s with
 | nil=>intro cur;rw[zAe];split <;> simp
 | cons x s ih =>
  intro cur
  rw[zAe]
  split
  ·split
   ·have:=ih [];simp;omega
   ·have:=ih [];simp;omega
  ·have:=ih (cur++[x]);simp;omega
theorem zLm (c:zD){N:Nat}(hN:9223372036854775807<=N)(p:UInt8->Bool)(fv:V)(hf:RuneP c fv p)(hp:∀ x:UInt8,128<=x.toNat->p x=false)(s:Bs)(hs:s.length<=100000000000)(H:Heap)(hw:WF H)(Z:Tape) :
  ∃ v' H' Z',Gr H.size H H'/\Rd H' 1 v' (zAe p [] s).length ((zAe p [] s).map V.str)/\∀ q,zEK c N (.str s) fv H Z q=q v' H' Z':=by
 have m1:zBg 2 16 [(.int .i64 (.ofNat 0)),(.int .i64 (.ofNat 0))] [(.int .i64 (.ofNat 0)),(.int .i64 (.ofNat 32))] H Z=some (.sl H.size 0 0 32 none 2,H.new (repl 32 [(.int .i64 (.ofNat 0)),(.int .i64 (.ofNat 0))]) (32*2) false,Z):=rfl
 have g1:=Gr.new hw (repl 32 [(V.int .i64 (.ofNat 0)),(.int .i64 (.ofNat 0))]) (32*2) false
 have z1:(H.new (repl 32 [(V.int .i64 (.ofNat 0)),(.int .i64 (.ofNat 0))]) (32*2) false).size=H.size+1:=rfl
 have c1:=CapP.new (fun i=>H.size<=i/\i≠H.size+1) H 2 32 (repl 32 [(V.int .i64 (.ofNat 0)),(.int .i64 (.ofNat 0))]) rfl ⟨Nat.le_refl _,by omega⟩
 generalize H.new (repl 32 [(V.int .i64 (.ofNat 0)),(.int .i64 (.ofNat 0))]) (32*2) false=H1 at m1 g1 z1 c1
 obtain⟨H2,a1,a2,a3⟩:=zSJ g1.wf s Z
 rw[z1]at a1 a2 a3
 have c2:=c1.chg g1.wf ((show Gr H1.size H1 H2 by rw[z1];exact a2).chg (P:=fun _=>False)) fun _ _ _=>not_false
 have it2:H.size+1<H2.size:=a3.lt a2.wf
 obtain⟨acc,v5,st,H3,Z3,b1,b2,b3,b4,b5,b6,b7,b8⟩:=l_fields c N p fv hf hp s hs H.size (H.size+1) (by omega) s.length s [] [] [] (.sl H.size 0 0 32 none 2) (.negSucc 0) N H2 Z nl (by omega) rfl a2.wf it2 c2 a3 (.inl ⟨rfl,0,rfl,by omega⟩) (by simp) (fun x hx=>by simp at hx)
 have hlen:=congrArg List.length b3
 rw[List.length_map,List.map_nil,List.nil_append]at hlen
 have hfl:=zMK (p:=p) s []
 have G3:Gr H.size H H3:=(g1.trans a2 (by omega)).trans b6 nl
 obtain⟨v6,H4,Z4,d1,d2,d3⟩:∃ v6 H4 Z4,CapP (fun i=>H.size<=i/\i≠H.size+1) H4 2 v6 (finSp s acc st).length (spC (finSp s acc st))/\Gr H.size H3 H4/\∀ (fr:T V) q,fr.get 0=some (.str s)->fr.get 5=some v5->fr.get 6=some (.int .i64 st) ->
   ∃ fr',fr'.get 0=some (.str s)/\fr'.get 5=some v6/\zCp c N q ⟨fr,H3⟩ Z3=zCq c N q ⟨fr',H4⟩ Z4:=by
  cases st with
  | negSucc k =>
   refine⟨v5,H3,Z3,by simpa [finSp] using b1,Gr.refl b6.wf,fun fr q f0 f5 f6=>⟨(T.s (T.s (T.s (T.s .leaf 0 (.str s)) 5 v5) 6 (.int .i64 (.negSucc k))) 36 (.bool false)),by simp[T.get_set],by simp[T.get_set],?_⟩⟩
   simp only[zCp,zA f0,zA f5,zA f6,zt,decide_eq_false (show ¬ Int.ofNat 0<=Int.negSucc k from Int.not_le.2 (Int.negSucc_lt_zero k)),zM]
  | ofNat a =>
   obtain⟨v6,H4,Z4,e1,e2,e3⟩:=b1.put (bytes:=16) b6.wf (fun i hi=>⟨by have:=G3.size;omega,by omega⟩) [.int .i64 (a:Int),.int .i64 (s.length:Int)] (by omega) rfl rfl (by omega) (by omega) Z3 false
   have e0:zL 1 2 [(.int .i64 (.ofNat 0)),(.int .i64 (.ofNat 0))] [(0,2)] [.agg [.int .i64 (a:Int),.int .i64 (s.length:Int)]] H3 Z3=some (.sl H3.size 0 1 1 none 2,H3.new [.int .i64 (a:Int),.int .i64 (s.length:Int)] 2 false,Z3):=rfl
   have eb:zDw [(.int .i64 (.ofNat 0)),(.int .i64 (.ofNat 0))] [(0,1),(1,1)] [.int .i64 (.ofNat a),.int .i64 (s.length:Int)]=some (.agg [.int .i64 (a:Int),.int .i64 (s.length:Int)]):=rfl
   refine⟨v6,H4,Z4,?_,e3.gr G3.size (fun i hi h=>by omega),fun fr q f0 f5 f6=>⟨(T.s (T.s (T.s (T.s (T.s (T.s (T.s (T.s (T.s (T.s (T.s (T.s .leaf 0 (.str s)) 5 v5) 6 (.int .i64 (.ofNat a))) 36 (.bool true)) 37 v5) 38 (.int .i64 (.ofNat a))) 39 (.str s)) 40 (.int .i64 (s.length:Int))) 41 (.agg [.int .i64 (a:Int),.int .i64 (s.length:Int)])) 42 (.sl H3.size 0 1 1 none 2)) 43 v6) 5 v6),by simp[T.get_set],by simp[T.get_set],?_⟩⟩
   ·have:finSp s acc (Int.ofNat a)=acc++[(a,s.length)]:=rfl
    rw[this,zP7]
    simpa [spC] using e2
   ·simp only[zCp,zA f0,zA f5,zA f6,zt,decide_eq_true (show Int.ofNat 0<=Int.ofNat a from Int.natCast_nonneg a),zO,zBu,zK,eb,e0,za,e1]
 generalize hsps:finSp s acc st=sps at *
 have hn1:sps.length<=100000000001:=by omega
 have m2:zBg 1 16 [(.str [])] [.int .i64 (sps.length:Int),.int .i64 (sps.length:Int)] H4 Z4=some (.sl H4.size 0 sps.length sps.length none 1,H4.new (List.replicate sps.length (.str [])) (sps.length*1) false,Z4):=by
  simp only[zBg,zC6,Nat.ble_eq_true_of_le nl,Nat.ble_eq_true_of_le (show sps.length*16<=140737488355328 by omega),Nat.ble_eq_true_of_le (show sps.length<=140737488355328 by omega),Bool.and_self,cond_true,repl_one]
 have g5:=Gr.new d2.wf (List.replicate sps.length (V.str [])) (sps.length*1) false
 have x5:=Bx.new H4 (List.replicate sps.length (V.str [])) (sps.length*1) false (by simp)
 generalize H4.new (List.replicate sps.length (V.str [])) (sps.length*1) false=H5 at m2 g5 x5
 have d4:=d1.chg d2.wf (g5.chg (P:=fun _=>False)) fun _ _ _=>not_false
 have d5:CapP (fun i=>i<H4.size) H5 2 v6 sps.length (spC sps):=by
  have:=d1.lt4 d2.wf
  exact this.chg d2.wf (g5.chg (P:=fun _=>False)) fun _ _ _=>not_false
 have i5:H4.size<H5.size:=x5.lt g5.wf
 obtain⟨H6,y1,y2,y3⟩:=l_cutSp c N s sps b2 hn1 v6 H4.size H.size (Nat.le_trans G3.size d2.size) sps [] N H5 Z4 rfl (by omega) g5.wf d4.rd (fun H7 hg=>(d5.chg g5.wf (hg.chg (P:=fun i=>i=H4.size) rfl) fun i _ h=>by omega).rd) i5 (by simpa using x5) (by have:=G3.size;have:=d2.size;omega)
 have hw5:sps.map (zNy s)=zAe p [] s:=by rw[b3];simp
 refine⟨.sl H4.size 0 sps.length sps.length none 1,H6,Z4,(G3.trans d2 nl).trans ((g5.weaken (by have:=G3.size;have:=d2.size;omega)).trans y2 nl) nl,?_,fun q=>?_⟩
 ·rw[<- hw5]
  exact .inr ⟨H4.size,0,sps.length,none,_,by simp,y1.cells,by rw[List.drop_zero,Nat.mul_one];exact(List.take_of_length_le (by simp)).symm,by simp⟩
 ·simp only[zEK,m1,za,a1]
  rw[b8 _ _ (by rfl) (by rfl) (by rfl) (by rfl) (by rfl)]
  simp only[zP,Nat.beq_refl,cond_true,seqK]
  obtain⟨fr',f0,f5,k0⟩:=d3 (T.s (T.s (T.s .leaf 0 (.str s)) 5 v5) 6 (.int .i64 st)) q (by rfl) (by rfl) (by rfl)
  rw[k0]
  simp only[zCq,zA f0,zA f5,d1.rd.pLen,d4.rd.pLen,zK,m2,za]
  rw[y3 _ _ (by rfl) (by rfl) (by rfl) (by rfl) (by rfl)]
  simp only[zP,Nat.beq_refl,cond_true,seqK,zH0,zJ,↓reduceIte]
end Go.Am.X

namespace Go.Am.X
abbrev CutOk (c:zD)(x:UInt8):Prop:=∀ (s:Bs),s.length<9223372036854775807->∀ H Z q,c zD5 [.str s,.str [x]] H Z q=q (match cutB x s with | some (a,b)=>.tup [.str a,.str b,.bool true] | none=>.tup [.str s,.str [],.bool false]) H Z
abbrev C (N d:Nat):zD:=zOs (zMl tabE N) d
theorem C_nat (N d:Nat):zMG (C N d):=tab_nat N d
section
variable {N:Nat} (hN:9223372036854775807<N)
include hN
theorem zTL (d:Nat)(hd:3<=d):LowOk (C N d):=by
 intro s hs H hw Z q
 obtain⟨d,rfl⟩:∃ e,d=e+1+1+1:=⟨d-3,by omega⟩
 obtain⟨H',Z',k1,k2⟩:=zPa (C N (d+1)) N (Nat.le_of_lt hN) s hs H hw (fun x H Z q=>s69_eval (C N d) N x H Z q) Z (fun v0 H1 Z2=>q v0 H1 Z2)
 exact⟨H',Z',k1,k2⟩
end
section
variable {N:Nat} (hN:9223372036854775807<N)
include hN
theorem zSy (d:Nat)(hd:4<=d)(x:UInt8):CutOk (C N d) x:=by
 intro s hs H Z q
 obtain⟨d,rfl⟩:∃ e,d=e+1+1+1+1:=⟨d-4,by omega⟩
 exact s37_one (C N (d+1+1+1)) N s x (fun H Z q=>s66_one (C N (d+1+1)) N s x hs (fun s x H Z q=>s85_one (C N (d+1)) N s x (fun _ _ _ _=>rfl) H Z q) H Z q) H Z q
end
end Go.Am.X

namespace Go.Am.X
theorem zN1 (c:zD)(N:Nat)(n:Int)(H:Heap)(Z:Tape):∃ b,∀ q,zBl c N (.int .i32 n) H Z q=q (.bool b) H Z:=by
 by_cases h1:Int.ofNat 0<=n
 ·by_cases h2:n<Int.ofNat 55296
  ·refine⟨true,fun q=>?_⟩
   simp only[zBl,zB3,decide_eq_true h1,zFR,retK,za,zI,decide_eq_true h2,zi,cond_true,zK,zO]
  ·by_cases h3:Int.ofNat 57343<n
   ·by_cases h4:n<=Int.ofNat 1114111
    ·refine⟨true,fun q=>?_⟩
     simp only[zBl,zB3,decide_eq_true h1,zFR,retK,za,zI,decide_eq_false h2,zi,cond_true,zK,zM,decide_eq_true h3,decide_eq_true h4,zO]
    ·refine⟨false,fun q=>?_⟩
     simp only[zBl,zB3,decide_eq_true h1,zFR,retK,za,zI,decide_eq_false h2,zi,cond_true,zK,zM,decide_eq_true h3,decide_eq_false h4,zO]
   ·refine⟨false,fun q=>?_⟩
    simp only[zBl,zB3,decide_eq_true h1,zFR,retK,za,zI,decide_eq_false h2,zi,cond_true,cond_false,zK,zM,decide_eq_false h3,zCo,zBw]
 ·by_cases h3:Int.ofNat 57343<n
  ·exact absurd h3 (by simp at h1 ⊢;omega)
  ·refine⟨false,fun q=>?_⟩
   simp only[zBl,zB3,decide_eq_false h1,zFR,retK,za,zI,zi,cond_true,cond_false,zK,zM,decide_eq_false h3,zCo,zBw]
theorem idxB_none (x:Nat):∀ (l:Bs) (i:Nat),(∀ y ∈ l,y.toNat≠x)->idxB x l i=-1:=by
 intro l
 induction l with
 | nil=>intro i _;rfl
 | cons y l ih =>
  intro i h
  have e:Nat.beq y.toNat x=false:=by
   cases hb:Nat.beq y.toNat x with
   | false=>rfl
   | true=>exact absurd (Nat.eq_of_beq_eq_true hb) (h y (by simp))
  simp only[idxB,e,cond_false]
  exact ih _ (fun z hz=>h z (by simp[hz]))
theorem idxB_some (x:Nat):∀ (l:Bs) (i:Nat),(∃ y ∈ l,y.toNat=x)->0<=idxB x l i:=by
 intro l
 induction l with
 | nil=>intro i ⟨y,h,_⟩;simp at h
 | cons y l ih =>
  intro i h
  simp only[idxB,zAP]
  cases hb:Nat.beq y.toNat x with
  | true=>exact Int.natCast_nonneg _
  | false =>
   rw[cond_false]
   refine ih _ ?_
   obtain⟨z,hz,e⟩:=h
   rcases List.mem_cons.1 hz with rfl | hz
   ·rw[e]at hb
    rw[Nat.beq_refl]at hb;cases hb
   ·exact⟨z,hz,e⟩
abbrev Idx70 (c:zD):Prop:=∀ (s:Bs) (x:UInt8) H Z q,c zAy [.str s,.int .u8 (x.toNat:Int)] H Z q=q (.int .i64 (idxB x.toNat s 0)) H Z
theorem zIK (c:zD)(N:Nat)(h86:∀ (s:Bs) (x:UInt8) H Z q,c zw [.str s,.int .u8 (x.toNat:Int)] H Z q=q (.int .i64 (idxB x.toNat s 0)) H Z)(s:Bs)(x:UInt8)(H:Heap)(Z:Tape)(q:KV) :
  zE3 c N (.str s) (.int .u8 (x.toNat:Int)) H Z q=q (.int .i64 (idxB x.toNat s 0)) H Z:=by
 simp only[zE3,h86]
theorem zNz (c:zD)(N:Nat)(chars:Bs)(ha:∀ x ∈ chars,x.toNat<128)(id:Nat):∀ (l:Bs) (pos:Nat) (H:Heap) (fr:T V) (Z:Tape) (m:Nat),chars.drop pos=l->l.length<m->WF H->Iter H id chars pos->fr.get 175=some (.ptr id 0) ->
  ∃ H',Gr id H H'/\∀ k,zW (zDP c N) m ⟨fr,H⟩ Z k=k (.exit 9) ⟨.leaf,H'⟩ Z:=by
 intro l
 induction l with
 | nil =>
  intro pos H fr Z m hd hm hw it f
  obtain⟨m,rfl⟩:∃ j,m=j+1:=⟨m-1,by omega⟩
  refine⟨H,Gr.refl hw,fun k=>?_⟩
  have e:=iter_end it (by simpa using hd) Z
  have x0:zR 0 [.tup [V.bool false]]=some (.bool false):=rfl
  rw[zC]
  simp only[zDP,zA f,e,za,x0,zK,zM]
  rfl
 | cons x l ih =>
  intro pos H fr Z m hd hm hw it f
  obtain⟨m,rfl⟩:∃ j,m=j+1:=⟨m-1,by omega⟩
  have hp:pos<chars.length:=by
   by_cases h:pos<chars.length
   ·exact h
   ·rw[List.drop_eq_nil_of_le (by omega)]at hd;cases hd
  have hx:=ha x (List.mem_of_mem_drop (i:=pos) (by rw[hd];simp))
  obtain⟨H1,e,g1,it1,z1⟩:=iter_next hw it hp Z
  rw[hd,dec_ascii x l hx]at e it1
  obtain⟨H2,g2,k2⟩:=ih (pos+1) H1 (T.s (T.s (T.s .leaf 5 (.int .i64 (pos:Int))) 175 (.ptr id 0)) 181 (.bool false)) Z m (by rw[<- List.drop_drop,hd];rfl) (by simp at hm;omega) g1.wf it1 (by rfl)
  refine⟨H2,g1.trans g2 nl,fun k=>?_⟩
  have x0:∀ a b d:V,zR 0 [.tup [a,b,d]]=some a:=fun _ _ _=>rfl
  have x1:∀ a b d:V,zR 1 [.tup [a,b,d]]=some b:=fun _ _ _=>rfl
  have x2:∀ a b d:V,zR 2 [.tup [a,b,d]]=some d:=fun _ _ _=>rfl
  have ne:((x.toNat:Int) == Int.ofNat 65533)=false:=by rw[beq_eq_false_iff_ne];intro h;simp at h;omega
  rw[zC]
  simp only[zDP,zA f,e,za,x0,x1,x2,zK,zO,zZ,ne,zM]
  exact k2 k
theorem zMH (c:zD)(N:Nat)(hN:1000<N)(h70:Idx70 c)(h114:∀ (n:Int) H Z,∃ b,∀ q,c zGw [.int .i32 n] H Z q=q (.bool b) H Z)(chars:Bs)(ha:∀ x ∈ chars,x.toNat<128)(hl:chars.length<1000)(r:Nat)
  (H:Heap) (hw:WF H) (Z:Tape):∃ H',Gr H.size H H'/\∀ q,zBv c N (.str chars) (.int .i32 (r:Int)) H Z q=q (.int .i64 (if r<128 then idxB r chars 0 else -1)) H' Z:=by
 have e0:decide (Int.ofNat 0<=(r:Int))=true:=decide_eq_true (by simp)
 by_cases h:r<128
 ·have e1:decide ((r:Int)<Int.ofNat 128)=true:=decide_eq_true (by simp;omega)
  have hu:(UInt8.ofNat r).toNat=r:=by rw[UInt8.toNat_ofNat'];omega
  have hwr:wr .u8 (r:Int)=((UInt8.ofNat r).toNat:Int):=by
   rw[hu,zQZ]
   simp only[IntKind.wrap,IntKind.signed,IntKind.bits]
   simp <;> omega
  refine⟨H,Gr.refl hw,fun q=>?_⟩
  rw[if_pos h]
  simp only[zBv,zB3,e0,zFR,retK,za,zI,e1,zi,cond_true,zK,zO,zB7,hwr,h70]
  rw[hu]
 ·have e1:decide ((r:Int)<Int.ofNat 128)=false:=decide_eq_false (by simp;omega)
  rw[if_neg h]
  by_cases hr:r=65533
  ·subst hr
   have e2:(((65533:Nat):Int) == Int.ofNat 65533)=true:=rfl
   obtain⟨H1,k1,g1,it⟩:=zSJ hw chars Z
   obtain⟨H2,g2,k2⟩:=zNz c N chars ha H.size chars 0 H1 (T.s .leaf 175 (.ptr H.size 0)) Z N rfl (by omega) g1.wf it (by rfl)
   refine⟨H2,g1.trans g2 nl,fun q=>?_⟩
   simp only[zBv,zB3,e0,zFR,retK,za,zI,e1,zi,cond_true,zK,zM,zZ,e2,zO,k1]
   rw[k2]
   rfl
  ·have e2:((r:Int) == Int.ofNat 65533)=false:=by rw[beq_eq_false_iff_ne];intro h;simp at h;omega
   obtain⟨b,hb⟩:=h114 (r:Int) H Z
   refine⟨H,Gr.refl hw,fun q=>?_⟩
   simp only[zBv,zB3,e0,zFR,retK,za,zI,e1,zi,cond_true,zK,zM,zZ,e2,hb,zKK]
   cases b with
   | false=>simp only[Bool.not_false,zO];rfl
   | true =>
    obtain⟨E1,E2,E3⟩:=enc_high r (by omega)
    have er:zQt [.int .i32 (r:Int)]=some (.str (zKJ (r:Int))):=rfl
    simp only[Bool.not_true,zM,er,zK,zBu]
    generalize zKJ (r:Int)=rs at E1 E2 E3
    obtain⟨n,hn⟩:∃ n,rs.length=n+1:=⟨rs.length-1,by have:=List.length_pos_iff.2 E2;omega⟩
    have es:wr .i64 ((rs.length:Int)-Int.ofNat 1)=(n:Int):=by rw[zAZ (by simp;omega) (by simp;omega)];simp;omega
    obtain⟨N,rfl⟩:∃ M,N=M+1:=⟨N-1,by omega⟩
    have f0:∀ j,getK (T.s (T.s (T.s (T.s .leaf 0 (.str chars)) 7 (.str rs)) 8 (.int .i64 (n:Int))) 9 (.int .i64 (n:Int))) j=getK (T.s (T.s (T.s (T.s .leaf 0 (.str chars)) 7 (.str rs)) 8 (.int .i64 (n:Int))) 9 (.int .i64 (n:Int))) j:=fun _=>rfl
    simp only[zAC,es]
    rw[zC]
    have ir:zAE [.str rs,.int .i64 (n:Int)]=some (.int .u8 ((rs[n]'(by omega)).toNat:Int)):=zFg (by rw[List.getElem?_eq_getElem])
    have hh:=E1 (rs[n]'(by omega)) (List.getElem_mem _)
    by_cases hlt:n<chars.length
    ·have e3:decide ((n:Int)<(chars.length:Int))=true:=decide_eq_true (by omega)
     have ic:zAE [.str chars,.int .i64 (n:Int)]=some (.int .u8 ((chars[n]'hlt).toNat:Int)):=zFg (by rw[List.getElem?_eq_getElem])
     have hc:=ha (chars[n]'hlt) (List.getElem_mem _)
     have e4:(((chars[n]'hlt).toNat:Int) !=((rs[n]'(by omega)).toNat:Int))=true:=by rw[bne_iff_ne];omega
     have e5:wr .i64 ((n:Int)+Int.ofNat 1)=((n+1:Nat):Int):=by rw[zAZ (by simp;omega) (by simp;omega)];rfl
     have e6:zAc true false [.str chars,.int .i64 ((n+1:Nat):Int)]=some (.str (chars.drop (n+1))):=zOf (by omega)
     have e7:idxB (rs[n]'(by omega)).toNat (chars.drop (n+1)) 0=-1:=idxB_none _ _ _ (fun y hy=>by have:=ha y (List.mem_of_mem_drop hy);omega)
     have e8:decide ((-1:Int)<Int.ofNat 0)=true:=rfl
     simp only[zFW,zJ,↓reduceIte,Nat.reduceEqDiff,zBu,zK,zI,e3,zO,ic,ir,zCV,e4,zQ,e5,e6,h70,e7,e8]
     rfl
    ·have e3:decide ((n:Int)<(chars.length:Int))=false:=decide_eq_false (by omega)
     simp only[zFW,zJ,↓reduceIte,Nat.reduceEqDiff,zBu,zK,zI,e3,zM]
     rfl
end Go.Am.X

namespace Go.Am.X
def valT (s:Bs):Bs:=trimB ([9,10,13,32]:Bs).contains s
def valO (s:Bs):Bool:=!(valT s).any ([0,10,13]:Bs).contains
def tok (x:UInt8):Bool:=(decide (97<=x.toNat) && decide (x.toNat<=122)) || (decide (65<=x.toNat) && decide (x.toNat<=90)) || (decide (48<=x.toNat) && decide (x.toNat<=57)) || ([33,35,36,37,38,39,42,43,45,46,94,95,96,124,126]:Bs).contains x
def tokT (s:Bs):Bool:=s.all tok && !s.isEmpty
def mayE (n v:Bs):Int:=bif valO v && tokT n then(if 4096<n.length∨4096<(valT v).length then 3 else 0)else 1
end Go.Am.X

namespace Go.Am.X
abbrev Hd:=Bs × Bs
def hv (h:Hd):V:=.agg [.str h.1,.str h.2]
def addE (n v:Bs)(k:Nat):Int:=if mayE n v=0 then(if 64<=k then 4 else 0)else mayE n v
end Go.Am.X

namespace Go.Am.X
end Go.Am.X

namespace Go.Am.X
section
variable {N:Nat} (hN:9223372036854775807<N)
include hN
end
end Go.Am.X

