/- The abstract machine, printed functions of the program, and what they are shown to be. -/
import Derived.Test.YtejpgcemblankaaDoorIMAL0
import Derived.Test.YtejpgcemblankaaDoorIMAOk
import Derived.Test.YtejpgcemblankaaDoorIMAM4
set_option linter.unusedSimpArgs false
set_option linter.unusedVariables false
set_option linter.unusedSectionVars false
set_option maxRecDepth 100000
namespace Go.Am.X
abbrev NB:Nat:=9223372036854775808
theorem nb:9223372036854775807<NB:=by decide
theorem tab_all (f:Nat)(d:Def)(h:tabF.get f=some d)(base:Base)(w0:World):zQX PG base w0 f d:=defs_ok (all_ok base w0) f d h
theorem primOk_E (d f:Nat){R:List V->Heap->Out->Prop}
  (hR:∀ vs H o,WF H->VsOk H vs->R vs H o->∀ Z,∃ v H' Z',C NB d f vs H Z retK=some (v,H',Z')/\Gr H.size H H'/\o.Met H v H'):∀ base w0,zFL PG base w0 f (outP R) :=
 zSC zJD (tab_ok NB) tab_all d f hR
def strP (M:Nat):List V->Prop | [.str s]=>s.length<=M | _=>False
def strG (g:Bs->V):List V->V | [.str s]=>g s | _=>.tup []
abbrev RS (M:Nat)(g:Bs->V):=RV (strP M) (strG g)
theorem primS (d f M:Nat)(g:Bs->V)(hv:∀ s H,VOk H (g s))(h:∀ s:Bs,s.length<=M->∀ H,WF H->∀ Z,∃ H' Z',Gr H.size H H'/\∀ q,C NB d f [.str s] H Z q=q (g s) H' Z'):∀ base w0,zFL PG base w0 f (outP (RS M g)):=by
 refine primOk_E d f ?_
 rintro vs H o hw hvs ⟨hp,rfl⟩ Z
 unfold strP at hp
 split at hp
 ·rename_i s
  obtain⟨H',Z',g1,k1⟩:=h s hp H hw Z
  exact⟨_,H',Z',k1 retK,g1,rfl,hv s H⟩
 ·exact hp.elim
theorem callS {c:zD}{f M:Nat}{g:Bs->V}(hc:∀ vs H Z q,c f vs H Z q=effK (outP (RS M g) vs H Z) q)(s:Bs)(hs:s.length<=M)(H:Heap)(Z:Tape)(q:KV):c f [.str s] H Z q=q (g s) H Z:=RV_call hc (vs:=[.str s]) hs H Z q
abbrev LowR:=RS 140737488355328 fun s=>.str (lower s)
theorem zSw:∀ base w0,zFL PG base w0 zFB (outP LowR):=primS 3 _ _ _ (fun _ _=>trivial) fun s hs H hw Z=>by
 obtain⟨H',Z',g,k⟩:=zTL nb 3 (by omega) s hs H hw Z retK
 exact⟨H',Z',g,fun q=>(C_nat NB 3).mk k q⟩
end Go.Am.X

namespace Go.Am.X
end Go.Am.X

namespace Go.Am.X
def lstO (z n:Nat)(cs:List V)(mk:V->V):Out:=if n=0 then .val (mk .nils)else .lst z n cs mk
end Go.Am.X

namespace Go.Am.X
end Go.Am.X

namespace Go.Am.X
theorem lowB_up {x:UInt8}(h1:65<=x.toNat)(h2:x.toNat<=90):((x.toNat+32:Nat):Int)=((lowB x).toNat:Int):=by
 have:lowB x=UInt8.ofNat (x.toNat+32):=by unfold lowB;rw[if_pos ⟨h1,h2⟩]
 rw[this];simp;omega
theorem l_ref1_Lower (c:zD)(N:Nat){B id e m:Nat}(l:Bs) :
  ∀ (pre:Bs) (n:Nat) (fr:T V) (H:Heap) (Z:Tape),WF H->Blk H B id (bv (lower pre++l))->(pre++l).length=m->m<9223372036854775807->l.length<n ->
  fr.get 3=some (.sl id 0 m m (some e) 1)->fr.get 4=some (.int .i64 (pre.length:Int)) ->
  ∃ H',Blk H' B id (bv (lower (pre++l)))/\Gr B H H'/\∀ k,zW (zEk c N) n ⟨fr,H⟩ Z k=k (.exit 0) ⟨T.s .leaf 3 (.sl id 0 m m (some e) 1),H'⟩ Z:=by
 induction l with
 | nil =>
  intro pre n fr H Z hw hB hm hmb hn h3 h4
  obtain⟨n,rfl⟩:∃ j,n=j+1:=⟨n-1,by simp at hn;omega⟩
  refine⟨H,by simpa using hB,Gr.refl hw,fun k=>?_⟩
  have e1:decide (pre.length<m)=false:=decide_eq_false (by simp at hm;omega)
  have pl:pLen [.sl id 0 m m (some e) 1]=some (.int .i64 (m:Int)):=rfl
  rw[zC]
  simp only[zEk,zA h3,zA h4,pl,zJ,↓reduceIte,Nat.reduceEqDiff,zK,za,retK,zFR,zHc,zCo,zEO,zBw,zi,cond_true,cond_false,zO,zM,zZ,zCV,zI,zB3,zAs,zt,zKK,Bool.not_true,Bool.not_false,zCm,zBu,zRx,zRo,zRu,zRw,zRh,zRt,zQm,zQ2,zR2,zRq,ext0,ext1,zR4,zRf,zRn,zQ,zAC,decide_true,decide_false,e1]
  rfl
 | cons x l ih =>
  intro pre n fr H Z hw hB hm hmb hn h3 h4
  obtain⟨n,rfl⟩:∃ j,n=j+1:=⟨n-1,by simp at hn;omega⟩
  have hlt:pre.length<m:=by simp at hm;omega
  have e1:decide (pre.length<m)=true:=decide_eq_true hlt
  have pl:pLen [.sl id 0 m m (some e) 1]=some (.int .i64 (m:Int)):=rfl
  have e2:zA3 1 [.sl id 0 m m (some e) 1,.int .i64 (pre.length:Int)]=some (.ptr id pre.length):=by
   have:Nat.blt pre.length m=true:=by simp[Nat.blt];omega
   simp[zA3,zC6,this]
  have e3:zF [.ptr id pre.length] H=some (.int .u8 (x.toNat:Int)):=by
   refine zg hB.cells ?_
   have:pre.length=(bv (lower pre)).length:=by simp[bv,lower]
   simp[bv,lower]
  have hcells:(bv (lower pre++x::l)).take pre.length++(V.int .u8 ((lowB x).toNat:Int)).cells++(bv (lower pre++x::l)).drop (pre.length+1)=bv (lower (pre++[x])++l):=by
   have hl:pre.length=(lower pre).length:=by simp[lower]
   simp only[bv,List.map_append,List.map_cons]
   rw[List.take_append_of_le_length (by simp[lower]),List.take_of_length_le (by simp[lower]),List.drop_append]
   simp[lower,V.cells]
  have e5:wr .i64 ((pre.length:Int)+Int.ofNat 1)=((pre++[x]).length:Int):=by rw[adI (by omega)];simp
  by_cases hx:65<=x.toNat/\x.toNat<=90
  ·obtain⟨H1,k1,k2,k3,k4⟩:=hB.eStore hw pre.length (.int .u8 ((lowB x).toNat:Int)) 1 rfl (by simp[bv,lower]) rfl Z
   rw[hcells]at k2
   have d1:decide (65<=x.toNat)=true:=decide_eq_true hx.1
   have d2:decide (x.toNat<=90)=true:=decide_eq_true hx.2
   have e6:wr .u8 ((x.toNat:Int)+Int.ofNat 32)=((lowB x).toNat:Int):=by
    rw[show((x.toNat:Int)+Int.ofNat 32)=((x.toNat+32:Nat):Int)by simp,wr_u8,Nat.mod_eq_of_lt (by omega),lowB_up hx.1 hx.2]
   obtain⟨H',m1,m2,m3⟩:=ih (pre++[x]) n (T.s (T.s (T.s (T.s (T.s .leaf 3 (.sl id 0 m m (some e) 1)) 4 (.int .i64 (pre.length:Int))) 11 (.int .i64 (pre.length:Int))) 12 (.int .i64 ((pre++[x]).length:Int))) 4 (.int .i64 ((pre++[x]).length:Int))) H1 Z k3.wf k2 (by simpa using hm) hmb (by simp at hn;omega) (by rfl) (by rfl)
   refine⟨H',by simpa using m1,k3.trans m2 nl,fun k=>?_⟩
   rw[zC]
   simp only[zEk,zA h3,zA h4,pl,zJ,↓reduceIte,Nat.reduceEqDiff,zK,za,retK,zFR,zHc,zCo,zEO,zBw,zi,cond_true,cond_false,zO,zM,zZ,zCV,zI,zB3,zAs,zt,zKK,Bool.not_true,Bool.not_false,zCm,zBu,zRx,zRo,zRu,zRw,zRh,zRt,zQm,zQ2,zR2,zRq,ext0,ext1,zR4,zRf,zRn,zQ,zAC,decide_true,decide_false,e1,e2,e3,d1,d2,e6,k1,zFi,e5,seqK]
   exact m3 k
  ·have hlx:lowB x=x:=by unfold lowB;rw[if_neg hx]
   rw[hlx]at hcells
   have hB2:Blk H B id (bv (lower (pre++[x])++l)):=by
    have:bv (lower (pre++[x])++l)=bv (lower pre++x::l):=by simp[lower,hlx]
    rw[this];exact hB
   obtain⟨H',m1,m2,m3⟩:=ih (pre++[x]) n (T.s (T.s (T.s (T.s (T.s .leaf 3 (.sl id 0 m m (some e) 1)) 4 (.int .i64 (pre.length:Int))) 11 (.int .i64 (pre.length:Int))) 12 (.int .i64 ((pre++[x]).length:Int))) 4 (.int .i64 ((pre++[x]).length:Int))) H Z hw hB2 (by simpa using hm) hmb (by simp at hn;omega) (by rfl) (by rfl)
   refine⟨H',by simpa using m1,m2,fun k=>?_⟩
   rw[zC]
   cases d1:decide (65<=x.toNat)with
   | true =>
    have d2:decide (x.toNat<=90)=false:=decide_eq_false fun h=>hx ⟨of_decide_eq_true d1,h⟩
    simp only[zEk,zA h3,zA h4,pl,zJ,↓reduceIte,Nat.reduceEqDiff,zK,za,retK,zFR,zHc,zCo,zEO,zBw,zi,cond_true,cond_false,zO,zM,zZ,zCV,zI,zB3,zAs,zt,zKK,Bool.not_true,Bool.not_false,zCm,zBu,zRx,zRo,zRu,zRw,zRh,zRt,zQm,zQ2,zR2,zRq,ext0,ext1,zR4,zRf,zRn,zQ,zAC,decide_true,decide_false,e1,e2,e3,d1,d2,zFi,e5,seqK]
    exact m3 k
   | false =>
    simp only[zEk,zA h3,zA h4,pl,zJ,↓reduceIte,Nat.reduceEqDiff,zK,za,retK,zFR,zHc,zCo,zEO,zBw,zi,cond_true,cond_false,zO,zM,zZ,zCV,zI,zB3,zAs,zt,zKK,Bool.not_true,Bool.not_false,zCm,zBu,zRx,zRo,zRu,zRw,zRh,zRt,zQm,zQ2,zR2,zRq,ext0,ext1,zR4,zRf,zRn,zQ,zAC,decide_true,decide_false,e1,e2,e3,d1,zFi,e5,seqK]
    exact m3 k
theorem zQf (c:zD){N:Nat}(hN:9223372036854775807<N)(s:Bs)(hs:s.length<=140737488355328)(H:Heap)(hw:WF H)(Z:Tape) :
  ∃ H' Z',Gr H.size H H'/\∀ q,zK1 c N (.str s) H Z q=q (.str (lower s)) H' Z':=by
 have hB:=Blk.new H (bv s) ((s.length+spare s.length (Z 0))*1) false (by rw[bv_length];omega)
 have hG:=Gr.new hw (bv s) ((s.length+spare s.length (Z 0))*1) false
 obtain⟨H',m1,m2,m3⟩:=l_ref1_Lower c N (e:=spare s.length (Z 0)) (m:=s.length) s [] N (T.s (T.s .leaf 3 (.sl H.size 0 s.length s.length (some (spare s.length (Z 0))) 1)) 4 (.int .i64 0)) _ Z.tail hG.wf (by simpa [lower] using hB) (by simp) (by omega) (by omega) (by rfl) (by rfl)
 refine⟨H',Z.tail,hG.trans m2 nl,fun q=>?_⟩
 have e1:zEX [.str s] H Z=some (.sl H.size 0 s.length s.length (some (spare s.length (Z 0))) 1,H.new (bv s) ((s.length+spare s.length (Z 0))*1) false,Z.tail):=by
  simp only[zEX,Nat.ble_eq_true_of_le hs,cond_true,fresh]
  rfl
 have e3:zDJ [.sl H.size 0 s.length s.length (some (spare s.length (Z 0))) 1] H'=some (.str (lower s)):=by
  have hl:(bv (lower ([]++s))).length=s.length:=by simp[bv,lower]
  simp only[zDJ,zAr m1.cells (show 0+s.length<=_ by rw[hl];omega),List.drop_zero]
  rw[List.take_of_length_le (by rw[hl];omega)]
  simp[zSN]
 simp only[zK1,e1,za]
 rw[show(V.int IntKind.i64 (Int.ofNat 0))=.int .i64 0 from rfl,m3]
 simp only[zP,Nat.beq_refl,cond_true,seqK,zNT,zJ,↓reduceIte,Nat.reduceEqDiff,zK,za,retK,zFR,zHc,zCo,zEO,zBw,zi,cond_true,cond_false,zO,zM,zZ,zCV,zI,zB3,zAs,zt,zKK,Bool.not_true,Bool.not_false,zCm,zBu,zRx,zRo,zRu,zRw,zRh,zRt,zQm,zQ2,zR2,zRq,ext0,ext1,zR4,zRf,zRn,zQ,zAC,decide_true,decide_false,e3]
end Go.Am.X

namespace Go.Am.X
theorem someN:∃ N:Nat,9223372036854775807<N:=⟨9223372036854775808,by decide⟩
theorem primRV {N:Nat}{l:List Row}(hl:zMW PG l)(d f:Nat){Pre:List V->Prop}{g:List V->V}(hv:∀ vs H,Pre vs->VOk H (g vs))(h:∀ vs,Pre vs->∀ H,WF H->∀ Z,∃ H' Z',Gr H.size H H'/\∀ q,CR l N d f vs H Z q=q (g vs) H' Z'):∀ base w0,zFL PG base w0 f (outP (RV Pre g)):=by
 refine zI7 zJD hl N d f ?_
 rintro vs H o hw hvs ⟨hp,rfl⟩ Z
 obtain⟨H',Z',g1,k1⟩:=h vs hp H hw Z
 exact⟨_,H',Z',k1 retK,g1,rfl,hv vs H hp⟩
theorem p_ref1_Lower:∀ base w0,zFL PG base w0 zEq (outP LowR):=by
 obtain⟨N,hN⟩:=someN
 refine primRV (N:=N) (l:=[Row.fn zEq zE4 zJQ]) (.fn zO3 zM8 (.nil _)) 1 _ (fun vs H h=>?_) (fun vs h H hw Z=>?_)
 ·unfold strP at h;split at h
  ·trivial
  ·exact h.elim
 ·unfold strP at h;split at h
  ·exact zQf (CR [Row.fn zEq zE4 zJQ] N 0) hN _ h H hw Z
  ·exact h.elim
abbrev IsP (c:zD)(f:Nat)(R:List V->Heap->Out->Prop):Prop:=∀ vs H Z q,c f vs H Z q=effK (outP R vs H Z) q
abbrev RLowOk (c:zD):Prop:=∀ (s:Bs),s.length<=140737488355328->∀ H Z q,c zEq [.str s] H Z q=q (.str (lower s)) H Z
theorem k_ref1_Lower {c:zD}(h:IsP c zEq LowR):RLowOk c:=fun s hs H Z q=>callS h s hs H Z q
end Go.Am.X

namespace Go.Am.X
end Go.Am.X

namespace Go.Am.X
end Go.Am.X

namespace Go.Am.X
end Go.Am.X

namespace Go.Am.X
def zRr (x:UInt8)(s:Bs):V:=match cutB x s with | some (a,b)=>.tup [.str a,.str b,.bool true] | none=>.tup [.str s,.str [],.bool false]
theorem l_ref1_Part (c:zD)(N:Nat)(x:UInt8)(s:Bs)(hs:s.length<9223372036854775807)(H:Heap):∀ (l pre:Bs) (Z:Tape) (m:Nat),s=pre++l->l.length<m->∀ (fr:T V) k,fr.get 0=some (.str s)->fr.get 1=some (.int .u8 (x.toNat:Int))->fr.get 7=some (.int .i64 (pre.length:Int)) ->
  zW (zGd c N) m ⟨fr,H⟩ Z k=match cutB x l with
   | some (a,b)=>k .ret ⟨(T.s (T.s (T.s .leaf 4 (.str (pre++a))) 5 (.str b)) 6 (.bool true)),H⟩ Z
   | none=>k (.exit 0) ⟨(T.s .leaf 0 (.str s)),H⟩ Z:=by
 intro l
 induction l with
 | nil =>
  intro pre Z m he hm fr k f0 f1 f7
  obtain⟨m,rfl⟩:∃ j,m=j+1:=⟨m-1,by omega⟩
  have e1:decide (pre.length<s.length)=false:=decide_eq_false (by rw[he];simp)
  rw[zC]
  simp only[zGd,zA f0,zA f1,zA f7,zJ,↓reduceIte,Nat.reduceEqDiff,zK,za,retK,zFR,zHc,zCo,zEO,zBw,zi,cond_true,cond_false,zO,zM,zZ,zCV,zI,zB3,zAs,zt,zKK,Bool.not_true,Bool.not_false,zCm,zBu,zRx,zRo,zRu,zRw,zRh,zRt,zQm,zQ2,zR2,zRq,ext0,ext1,zR4,zRf,zRn,zQ,zAC,decide_true,decide_false,e1]
  rfl
 | cons y l ih =>
  intro pre Z m he hm fr k f0 f1 f7
  obtain⟨m,rfl⟩:∃ j,m=j+1:=⟨m-1,by omega⟩
  have hlt:pre.length<s.length:=by rw[he];simp
  have e1:decide (pre.length<s.length)=true:=decide_eq_true hlt
  have e2:zAE [.str s,.int .i64 (pre.length:Int)]=some (.int .u8 (y.toNat:Int)):=zFg (by rw[he];simp)
  have e3:wr .i64 ((pre.length:Int)+Int.ofNat 1)=((pre++[y]).length:Int):=by rw[adI (by omega)];simp
  have e4:decide (y.toNat=x.toNat)=decide (y=x):=by rw[<- u8beq];rfl
  rw[zC]
  by_cases h:y=x
  ·subst h
   have e5:decide (y=y)=true:=decide_eq_true rfl
   have s1:zAc false true [.str s,.int .i64 (pre.length:Int)]=some (.str pre):=by rw[zRc (by omega),he];simp
   have s2:zAc true false [.str s,.int .i64 ((pre++[y]).length:Int)]=some (.str l):=by
    rw[zOf (by rw[he];simp),he,show pre++y::l=(pre++[y])++l by simp,List.drop_left]
   simp only[zGd,zA f0,zA f1,zA f7,zJ,↓reduceIte,Nat.reduceEqDiff,zK,za,retK,zFR,zHc,zCo,zEO,zBw,zi,cond_true,cond_false,zO,zM,zZ,zCV,zI,zB3,zAs,zt,zKK,Bool.not_true,Bool.not_false,zCm,zBu,zRx,zRo,zRu,zRw,zRh,zRt,zQm,zQ2,zR2,zRq,ext0,ext1,zR4,zRf,zRn,zQ,zAC,decide_true,decide_false,e1,e2,e4,e5,s1,e3,s2,cutB,if_true,List.append_nil]
   rfl
  ·have e5:decide (y=x)=false:=decide_eq_false h
   simp only[zGd,zA f0,zA f1,zA f7,zJ,↓reduceIte,Nat.reduceEqDiff,zK,za,retK,zFR,zHc,zCo,zEO,zBw,zi,cond_true,cond_false,zO,zM,zZ,zCV,zI,zB3,zAs,zt,zKK,Bool.not_true,Bool.not_false,zCm,zBu,zRx,zRo,zRu,zRw,zRh,zRt,zQm,zQ2,zR2,zRq,ext0,ext1,zR4,zRf,zRn,zQ,zAC,decide_true,decide_false,e1,e2,e4,e5,e3,cutB,h,if_false]
   refine(ih (pre++[y]) Z m (by rw[he];simp) (by simp at hm;omega) _ k (by rfl) (by rfl) (by rfl)).trans ?_
   cases cutB x l with
   | none=>rfl
   | some ab=>obtain⟨a,b⟩:=ab;simp
theorem zQ9 (c:zD){N:Nat}(hN:9223372036854775807<N)(x:UInt8)(s:Bs)(hs:s.length<=9223372036854775806)(H:Heap)(Z:Tape)(q:KV):zL2 c N (.str s) (.int .u8 (x.toNat:Int)) H Z q=q (zRr x s) H Z:=by
 simp only[zL2]
 rw[l_ref1_Part c N x s (by omega) H s [] Z N rfl (by omega) _ _ (by rfl) (by rfl) (by rfl)]
 unfold zRr
 cases cutB x s with
 | none=>simp only[zP,Nat.beq_refl,cond_true,seqK,zOL,zJ,↓reduceIte,Nat.reduceEqDiff,zK,za,retK,zFR,zHc,zCo,zEO,zBw,zi,cond_true,cond_false,zO,zM,zZ,zCV,zI,zB3,zAs,zt,zKK,Bool.not_true,Bool.not_false,zCm,zBu,zRx,zRo,zRu,zRw,zRh,zRt,zQm,zQ2,zR2,zRq,ext0,ext1,zR4,zRf,zRn,zQ,zAC,decide_true,decide_false]
 | some ab=>obtain⟨a,b⟩:=ab;simp only[zP,seqK,endK,List.nil_append];rfl
abbrev PartPre:List V->Prop | [.str s,.int .u8 (.ofNat n)]=>s.length<=9223372036854775806/\n<256 | _=>False
abbrev PartG:List V->V | [.str s,.int .u8 (.ofNat n)]=>zRr (UInt8.ofNat n) s | _=>.tup []
abbrev PartR:=RV PartPre PartG
theorem partV_vok (x:UInt8)(s:Bs)(H:Heap):VOk H (zRr x s):=by
 unfold zRr;split <;> exact⟨trivial,trivial,trivial,trivial⟩
theorem p_ref1_Part:∀ base w0,zFL PG base w0 zE7 (outP PartR):=by
 obtain⟨N,hN⟩:=someN
 refine primRV (N:=N) (l:=[Row.fn zE7 zFy zKr]) (.fn zQT zOM (.nil _)) 1 _ (fun vs H h=>?_) (fun vs h H hw Z=>?_)
 ·unfold PartPre at h;split at h
  ·exact partV_vok _ _ _
  ·exact h.elim
 ·unfold PartPre at h;split at h
  ·rename_i s n
   have e:(UInt8.ofNat n).toNat=n:=by simp;omega
   have:=fun q=>zQ9 (CR [Row.fn zE7 zFy zKr] N 0) hN (UInt8.ofNat n) s h.1 H Z q
   rw[e]at this
   exact⟨H,Z,Gr.refl hw,this⟩
  ·exact h.elim
abbrev PartOk (c:zD):Prop:=∀ (s:Bs) (n:Nat),s.length<=9223372036854775806->n<256->∀ H Z q,c zE7 [.str s,.int .u8 (.ofNat n)] H Z q=q (zRr (UInt8.ofNat n) s) H Z
theorem k_ref1_Part {c:zD}(h:IsP c zE7 PartR):PartOk c:=fun s n hs hn H Z q=>RV_call h (vs:=[.str s,.int .u8 (.ofNat n)]) ⟨hs,hn⟩ H Z q
def zSD (n:Nat):Bool:=(((decide (n=9) || decide (n=10)) || decide (n=12)) || decide (n=13)) || decide (n=32)
theorem zMX (c:zD)(N n:Nat)(H:Heap)(Z:Tape)(q:KV):zK9 c N (.int .u8 (n:Int)) H Z q=q (.bool (zSD n)) H Z:=by
 unfold zSD
 cases h1:decide (n=9) <;> cases h2:decide (n=10) <;> cases h3:decide (n=12) <;> cases h4:decide (n=13) <;> cases h5:decide (n=32) <;> simp only[zK9,zJ,↓reduceIte,Nat.reduceEqDiff,zK,za,retK,zFR,zHc,zCo,zEO,zBw,zi,cond_true,cond_false,zO,zM,zZ,zCV,zI,zB3,zAs,zt,zKK,Bool.not_true,Bool.not_false,zCm,zBu,zRx,zRo,zRu,zRw,zRh,zRt,zQm,zQ2,zR2,zRq,ext0,ext1,zR4,zRf,zRn,zQ,zAC,decide_true,decide_false,h1,h2,h3,h4,h5] <;> rfl
abbrev zS3 (c:zD):Prop:=∀ (n:Nat) (H:Heap) (Z:Tape) (q:KV),c zHL [.int .u8 (n:Int)] H Z q=q (.bool (zSD n)) H Z
end Go.Am.X

namespace Go.Am.X
end Go.Am.X

namespace Go.Am.X
end Go.Am.X

namespace Go.Am.X
abbrev CutPre:List V->Prop | [.str s,.str [_]]=>s.length<9223372036854775807 | _=>False
abbrev CutG:List V->V | [.str s,.str [x]]=>zRr x s | _=>.tup []
abbrev CutR:=RV CutPre CutG
theorem zS2:∀ base w0,zFL PG base w0 zD5 (outP CutR):=by
 refine primOk_E 4 _ ?_
 rintro vs H o hw hvs ⟨hp,rfl⟩ Z
 unfold CutPre at hp;split at hp
 ·rename_i s x
  exact⟨_,H,Z,zSy nb 4 (by omega) x s hp H Z retK,Gr.refl hw,rfl,partV_vok x s H⟩
 ·exact hp.elim
abbrev RCutOk (c:zD):Prop:=∀ (s:Bs) (x:UInt8),s.length<9223372036854775807->∀ H Z q,c zD5 [.str s,.str [x]] H Z q=q (zRr x s) H Z
theorem zTC {c:zD}(h:IsP c zD5 CutR):RCutOk c:=fun s x hs H Z q=>RV_call h (vs:=[.str s,.str [x]]) hs H Z q
theorem cutB_len (x:UInt8):∀ (s a b:Bs),cutB x s=some (a,b)->a.length+b.length+1=s.length:=by
 intro s a b h
 have:=((cutB_spec x s).2 a b h).1
 rw[this];simp;omega
abbrev NLowOk (c:zD):Prop:=∀ (s:Bs),s.length<=140737488355328->∀ H Z q,c zFB [.str s] H Z q=q (.str (lower s)) H Z
theorem zSv {c:zD}(h:IsP c zFB LowR):NLowOk c:=fun s hs H Z q=>callS h s hs H Z q
end Go.Am.X

namespace Go.Am.X
theorem idx_has (x:UInt8)(l:Bs):decide (Int.ofNat 0<=idxB x.toNat l 0)=l.contains x:=by
 by_cases h:l.contains x=true
 ·rw[h];exact decide_eq_true (idxB_some _ _ _ ⟨x,List.contains_iff_mem.1 h,rfl⟩)
 ·have h':l.contains x=false:=by cases e:l.contains x;rfl;exact absurd e h
  rw[h',idxB_none _ _ _ (fun y hy e=>h (List.contains_iff_mem.2 (by rw[<- UInt8.toNat_inj.1 e];exact hy)))];rfl
theorem zPB (x:UInt8)(l:Bs):decide (idxB x.toNat l 0<Int.ofNat 0)=!l.contains x:=by
 rw[<- idx_has]
 by_cases h:Int.ofNat 0<=idxB x.toNat l 0
 ·rw[decide_eq_true h];exact decide_eq_false (by omega)
 ·rw[decide_eq_false h];exact decide_eq_true (by omega)
theorem k_idx {c:zD}(h:∀ vs H Z q,c zw vs H Z q=effK (idxP vs H Z) q)(s:Bs)(x:UInt8)(H:Heap)(Z:Tape)(q:KV):c zw [.str s,.int .u8 (x.toNat:Int)] H Z q=q (.int .i64 (idxB x.toNat s 0)) H Z:=by
 have e4:x.toNat % 256=x.toNat:=Nat.mod_eq_of_lt (u8_lt x)
 rw[h]
 show effK (idxP [.str s,.int .u8 (.ofNat x.toNat)] H Z) q=_
 simp only[idxP,e4,za]
end Go.Am.X

namespace Go.Am.X
def OwnN (H:Heap)(B z:Nat)(v:V)(n:Nat)(cs:List V):Prop:=Own H B z v n cs/\(n=0->v=.nils)
theorem OwnN.nil (H:Heap)(B z:Nat):OwnN H B z .nils 0 []:=⟨Own.nil _ _ _,fun _=>rfl⟩
abbrev It9:=Nat × Bs × Bs
def it9 (x:It9):List V:=[.int .i64 (x.1:Int),.str x.2.1,.str x.2.2]
def it9C:List It9->List V
 | []=>[]
 | x::l=>it9 x++it9C l
theorem zFx (a b:List It9):it9C (a++b)=it9C a++it9C b:=by induction a with
 | nil=>rfl
 | cons x a ih=>simp[it9C,ih]
theorem zFD (a:List It9):(it9C a).length=a.length*3:=by induction a with
 | nil=>rfl
 | cons x a ih=>simp[it9C,it9,ih];omega
theorem it9C_at (pre:List It9)(x:It9)(l:List It9):((it9C (pre++x::l)).drop (pre.length*3)).take 3=it9 x:=by
 rw[zFx,List.drop_left' (zFD pre)];rfl
theorem zOn (a b:Bs):zD6 .eql a b=some (.bool (decide (a=b))):=(str_eql a b).trans (by congr 2;rw[Bool.eq_iff_iff];simp)
def sha (a b c:UInt8):Bs:=[115,104,97,a,b,c]
def zKm (n:Bs):Nat:=if lower n=sha 50 53 54 then 256 else if lower n=sha 51 56 52 then 384 else if lower n=sha 53 49 50 then 512 else 0
theorem zN2 (c:zD)(N:Nat)(hL:NLowOk c)(s:Bs)(hs:s.length<=140737488355328)(H:Heap)(Z:Tape)(q:KV):zCW c N (.str s) H Z q=q (.int .i64 (zKm s:Nat)) H Z:=by
 have e1:zD6 .eql (lower s) (bs [115,104,97,50,53,54])=some (.bool (decide (lower s=sha 50 53 54))):=zOn _ _
 have e2:zD6 .eql (lower s) (bs [115,104,97,51,56,52])=some (.bool (decide (lower s=sha 51 56 52))):=zOn _ _
 have e3:zD6 .eql (lower s) (bs [115,104,97,53,49,50])=some (.bool (decide (lower s=sha 53 49 50))):=zOn _ _
 unfold zKm
 by_cases h1:lower s=sha 50 53 54
 ·simp only[zCW,hL s hs,zCm,e1,decide_eq_true h1,zK,zO,if_pos h1];rfl
 ·by_cases h2:lower s=sha 51 56 52
  ·simp only[zCW,hL s hs,zCm,e1,e2,decide_eq_false h1,decide_eq_true h2,zK,zO,zM,if_neg h1,if_pos h2];rfl
  ·by_cases h3:lower s=sha 53 49 50
   ·simp only[zCW,hL s hs,zCm,e1,e2,e3,decide_eq_false h1,decide_eq_false h2,decide_eq_true h3,zK,zO,zM,if_neg h1,if_neg h2,if_pos h3];rfl
   ·simp only[zCW,hL s hs,zCm,e1,e2,e3,decide_eq_false h1,decide_eq_false h2,decide_eq_false h3,zK,zM,if_neg h1,if_neg h2,if_neg h3];rfl
def cut1 (x:UInt8)(s:Bs):Bs × Bs × Bool:=match cutB x s with | some (a,b)=>(a,b,true) | none=>(s,[],false)
theorem zNo (x:UInt8)(s:Bs):zRr x s=.tup [.str (cut1 x s).1,.str (cut1 x s).2.1,.bool (cut1 x s).2.2]:=by unfold zRr cut1;cases cutB x s <;> rfl
theorem zPJ (x:UInt8)(s:Bs):(cut1 x s).1.length<=s.length:=by
 unfold cut1
 cases h:cutB x s with
 | none=>exact Nat.le_refl _
 | some p=>obtain⟨a,b⟩:=p;have:=cutB_len x s a b h;simp only;omega
def zHa (w:Bs):Option It9:=if(cut1 45 (cut1 63 w).1).2.2=true/\0<zKm (cut1 45 (cut1 63 w).1).1 then some (zKm (cut1 45 (cut1 63 w).1).1,(cut1 45 (cut1 63 w).1).2.1,(cut1 63 w).2.1)else none
abbrev zSB (c:zD)(f:Nat):Prop:=∀ (s:Bs),s.length<=140737488355328->∀ H Z q,c f [.str s] H Z q=q (.int .i64 (zKm s:Nat)) H Z
theorem l_parse (c:zD)(N:Nat)(hC:RCutOk c)(hB:zSB c zDp)(wd:List Bs)(hwd:wd.length<=100000000001)(hsz:∀ w ∈ wd,w.length<=140737488355328)(v14:V)(B:Nat) :
  ∀ (l pre:List Bs) (acc:List It9) (v3:V) (M:Nat) (H:Heap) (Z:Tape),wd=pre++l->l.length<M->WF H->B<=H.size->(∀ H',Gr B H H'->Rd H' 1 v14 wd.length (wd.map V.str))->OwnN H B 3 v3 acc.length (it9C acc)->acc.length<=pre.length ->
  ∃ v3' H' Z',OwnN H' B 3 v3' (acc++l.filterMap zHa).length (it9C (acc++l.filterMap zHa))/\Gr B H H' /\
   ∀ (fr:T V) k,fr.get 3=some v3->fr.get 14=some v14->fr.get 15=some (.int .i64 (wd.length:Int))->fr.get 16=some (.int .i64 (pre.length:Int)) ->
    zW (zBj c N) M ⟨fr,H⟩ Z k=k (.exit 0) ⟨(T.s .leaf 3 v3'),H'⟩ Z':=by
 intro l
 induction l with
 | nil =>
  intro pre acc v3 M H Z he hM hw hBs hr ho hal
  obtain⟨M,rfl⟩:∃ j,M=j+1:=⟨M-1,by omega⟩
  have e1:decide ((pre.length:Int)<(wd.length:Int))=false:=decide_eq_false (by rw[he];simp)
  refine⟨v3,H,Z,by simpa using ho,Gr.refl hw,fun fr k f3 f14 f15 f16=>?_⟩
  rw[zC]
  simp only[zBj,zA f3,zA f14,zA f15,zA f16,zI,e1,zM]
  rfl
 | cons w l ih =>
  intro pre acc v3 M H Z he hM hw hBs hr ho hal
  obtain⟨M,rfl⟩:∃ j,M=j+1:=⟨M-1,by omega⟩
  have hlt:pre.length<wd.length:=by rw[he];simp
  have e1:decide ((pre.length:Int)<(wd.length:Int))=true:=decide_eq_true (by omega)
  have hwi:(wd.map V.str)[pre.length]?=some (.str w):=by rw[he];simp
  obtain⟨p,p1,p2⟩:=(hr H (Gr.refl hw)).elem1 hwi
  have hwl:=hsz w (by rw[he];simp)
  have k1:=fun H Z q=>hC w 63 (by omega) H Z q
  rw[zNo]at k1
  have hl1:=zPJ 63 w
  have k2:=fun H Z q=>hC (cut1 63 w).1 45 (by omega) H Z q
  rw[zNo]at k2
  have hl2:=zPJ 45 (cut1 63 w).1
  have k3:=fun H Z q=>hB (cut1 45 (cut1 63 w).1).1 (by omega) H Z q
  have x0:∀ a b d:V,zR 0 [.tup [a,b,d]]=some a:=fun _ _ _=>rfl
  have x1:∀ a b d:V,zR 1 [.tup [a,b,d]]=some b:=fun _ _ _=>rfl
  have x2:∀ a b d:V,zR 2 [.tup [a,b,d]]=some d:=fun _ _ _=>rfl
  have e6:wr .i64 ((pre.length:Int)+Int.ofNat 1)=((pre++[w]).length:Int):=by rw[adI (by omega)];simp
  have b63:bs [63]=[63]:=rfl
  have b45:bs [45]=[45]:=rfl
  by_cases hit:(cut1 45 (cut1 63 w).1).2.2=true/\0<zKm (cut1 45 (cut1 63 w).1).1
  ·have hib:zHa w=some (zKm (cut1 45 (cut1 63 w).1).1,(cut1 45 (cut1 63 w).1).2.1,(cut1 63 w).2.1):=if_pos hit
   have hgt:decide (Int.ofNat 0<((zKm (cut1 45 (cut1 63 w).1).1:Nat):Int))=true:=decide_eq_true (by have:=hit.2;simp;omega)
   generalize hx:(zKm (cut1 45 (cut1 63 w).1).1,(cut1 45 (cut1 63 w).1).2.1,(cut1 63 w).2.1)=x at hib
   have bb:zDw [(.int .i64 (.ofNat 0)),(.str []),(.str [])] [(0,1),(1,1),(2,1)] [.int .i64 ((zKm (cut1 45 (cut1 63 w).1).1:Nat):Int),.str (cut1 45 (cut1 63 w).1).2.1,.str (cut1 63 w).2.1]=some (.agg (it9 x)):=by rw[<- hx];rfl
   have b0:zL 1 3 [(.int .i64 (.ofNat 0)),(.str []),(.str [])] [(0,3)] [.agg (it9 x)] H Z=some (.sl H.size 0 1 1 none 3,H.new (it9 x) 3 false,Z):=rfl
   obtain⟨v',H1,Z1,r1,r2,r3⟩:=ho.1.putN (bytes:=40) hw hBs (it9 x) rfl rfl (by omega) (by omega) Z false
   have hcs:it9C acc++it9 x=it9C (acc++[x]):=by rw[zFx];simp[it9C]
   rw[hcs]at r2
   obtain⟨v3',H',Z',s1,s2,s3⟩:=ih (pre++[w]) (acc++[x]) v' M H1 Z1 (by rw[he];simp) (by simp at hM;omega) r3.wf (Nat.le_trans hBs r3.size) (fun H2 hg=>hr H2 (r3.trans hg nl)) ⟨by simpa using r2,fun h=>by simp at h⟩ (by simp;omega)
   have hfm:acc++(w::l).filterMap zHa=(acc++[x])++l.filterMap zHa:=by rw[List.filterMap_cons,hib];simp
   refine⟨v3',H',Z',by rw[hfm];exact s1,r3.trans s2 nl,fun fr k f3 f14 f15 f16=>?_⟩
   rw[zC]
   simp only[zBj,zA f3,zA f14,zA f15,zA f16,zI,e1,zO,p1,p2,zK,b63,b45,k1,k2,k3,x0,x1,x2,hit.1,zFR,retK,za,zAs,hgt,zi,cond_true,bb,b0,r1,zCa,zJ,↓reduceIte,Nat.reduceEqDiff,zQ,e6]
   exact s3 _ _ (by rfl) (by rfl) (by rfl) (by rfl)
  ·have hib:zHa w=none:=if_neg hit
   obtain⟨v3',H',Z',s1,s2,s3⟩:=ih (pre++[w]) acc v3 M H Z (by rw[he];simp) (by simp at hM;omega) hw hBs hr ho (by simp;omega)
   have hfm:acc++(w::l).filterMap zHa=acc++l.filterMap zHa:=by rw[List.filterMap_cons,hib]
   refine⟨v3',H',Z',by rw[hfm];exact s1,s2,fun fr k f3 f14 f15 f16=>?_⟩
   rw[zC]
   cases hb:(cut1 45 (cut1 63 w).1).2.2 with
   | false =>
    simp only[zBj,zA f3,zA f14,zA f15,zA f16,zI,e1,zO,p1,p2,zK,b63,b45,k1,k2,k3,x0,x1,x2,hb,zCo,zBw,zi,cond_false,zM,zCa,zJ,↓reduceIte,Nat.reduceEqDiff,zQ,e6]
    exact s3 _ _ (by rfl) (by rfl) (by rfl) (by rfl)
   | true =>
    have hgt:decide (Int.ofNat 0<((zKm (cut1 45 (cut1 63 w).1).1:Nat):Int))=false:=decide_eq_false (by have:¬ 0<zKm (cut1 45 (cut1 63 w).1).1:=fun h=>hit ⟨hb,h⟩;simp;omega)
    simp only[zBj,zA f3,zA f14,zA f15,zA f16,zI,e1,zO,p1,p2,zK,b63,b45,k1,k2,k3,x0,x1,x2,hb,zFR,retK,za,zAs,hgt,zi,cond_true,zM,zCa,zJ,↓reduceIte,Nat.reduceEqDiff,zQ,e6]
    exact s3 _ _ (by rfl) (by rfl) (by rfl) (by rfl)
def zBW:Bs:=[9,10,12,13,32]
def zHd (s:Bs):List Bs:=zAe zBW.contains [] s
def zAY (s:Bs):List It9:=(zHd s).filterMap zHa
abbrev FldOk (c:zD):Prop:=∀ (s:Bs),s.length<=100000000000->∀ H,WF H->∀ Z,∃ v' H' Z',Gr H.size H H'/\Rd H' 1 v' (zHd s).length ((zHd s).map V.str)/\∀ q,c zEL [.str s,.func zAj [] []] H Z q=q v' H' Z'
theorem zNe {p:UInt8->Bool}:∀ (s cur:Bs),∀ w ∈ zAe p cur s,w.length<=cur.length+s.length:=by
 intro s
 induction s with
 | nil =>
  intro cur w hw
  rw[zAe]at hw
  split at hw
  ·simp at hw
  ·simp at hw;subst hw;simp
 | cons x s ih =>
  intro cur w hw
  rw[zAe]at hw
  split at hw
  ·split at hw
   ·have:=ih [] w hw;simp at this ⊢;omega
   ·rcases List.mem_cons.1 hw with rfl | hw
    ·simp
    ·have:=ih [] w hw;simp at this ⊢;omega
  ·have:=ih (cur++[x]) w hw;simp at this ⊢;omega
theorem zNM (c:zD){N:Nat}(hN:9223372036854775807<=N)(hF:FldOk c)(hC:RCutOk c)(hB:zSB c zDp)(s:Bs)(hs:s.length<=100000000000)(H:Heap)(hw:WF H)(Z:Tape) :
  ∃ v H' Z',OwnN H' H.size 3 v (zAY s).length (it9C (zAY s))/\Gr H.size H H'/\∀ q,zGA c N (.str s) H Z q=q v H' Z':=by
 obtain⟨v0,H1,Z1,g1,r1,k1⟩:=hF s hs H hw Z
 have hfl:(zHd s).length<=s.length+1:=zMK s []
 obtain⟨v3,H',Z',s1,s2,s3⟩:=l_parse c N hC hB (zHd s) (by omega) (fun w hw=>by have:=zNe s [] w hw;simp at this;omega) v0 H1.size (zHd s) [] [] .nils N H1 Z1 rfl (by omega) g1.wf nl (fun H' hg=>r1.gr hg g1.wf nl) (OwnN.nil _ _ _) nl
 refine⟨v3,H',Z',?_,g1.trans s2 g1.size,fun q=>?_⟩
 ·have:OwnN H' H1.size 3 v3 (zAY s).length (it9C (zAY s)):=by simpa [zAY] using s1
  exact⟨this.1.weaken0 g1.size,this.2⟩
 ·simp only[zGA,k1,r1.pLen,zK]
  rw[s3 _ _ (by rfl) (by rfl) (by rfl) (by rfl)]
  simp only[zP,Nat.beq_refl,cond_true,seqK,zJh,zJ,↓reduceIte]
end Go.Am.X

namespace Go.Am.X
def TestP (c:zD)(fv:V)(f:It9->Bool)(B:Nat)(H0:Heap)(l:List It9):Prop:=∀ x ∈ l,∀ H,Gr B H0 H->∀ Z,∃ H' Z',Gr H.size H H'/\∀ q,opK c .callv [fv,.agg (it9 x)] H Z q=q (.bool (f x)) H' Z'
theorem l_chosen (c:zD)(N:Nat)(f:It9->Bool)(fv:V)(its:List It9)(hil:its.length<=200000000000)(H0:Heap)(hw0:WF H0)(v8:V)(hr:Rd H0 3 v8 its.length (it9C its))(hf:TestP c fv f H0.size H0 its) :
  ∀ (l pre acc:List It9) (v5:V) (M:Nat) (H:Heap) (Z:Tape),its=pre++l->l.length<M->Gr H0.size H0 H->OwnN H H0.size 3 v5 acc.length (it9C acc)->acc.length<=pre.length ->
  ∃ v5' H' Z',OwnN H' H0.size 3 v5' (acc++l.filter f).length (it9C (acc++l.filter f))/\Gr H0.size H H' /\
   ∀ (fr:T V) k,fr.get 1=some fv->fr.get 5=some v5->fr.get 8=some v8->fr.get 9=some (.int .i64 (its.length:Int))->fr.get 10=some (.int .i64 (pre.length:Int)) ->
    zW (zCD c N) M ⟨fr,H⟩ Z k=k (.exit 0) ⟨(T.s .leaf 5 v5'),H'⟩ Z':=by
 intro l
 induction l with
 | nil =>
  intro pre acc v5 M H Z he hM hg ho hal
  obtain⟨M,rfl⟩:∃ j,M=j+1:=⟨M-1,by omega⟩
  have e1:decide ((pre.length:Int)<(its.length:Int))=false:=decide_eq_false (by rw[he];simp)
  refine⟨v5,H,Z,by simpa using ho,Gr.refl hg.wf,fun fr k f1 f5 f8 f9 f10=>?_⟩
  rw[zC]
  simp only[zCD,zA f1,zA f5,zA f8,zA f9,zA f10,zI,e1,zM]
  rfl
 | cons x l ih =>
  intro pre acc v5 M H Z he hM hg ho hal
  obtain⟨M,rfl⟩:∃ j,M=j+1:=⟨M-1,by omega⟩
  have hw:=hg.wf
  have hlt:pre.length<its.length:=by rw[he];simp
  have e1:decide ((pre.length:Int)<(its.length:Int))=true:=decide_eq_true (by omega)
  have hrH:=hr.gr hg hw0 nl
  obtain⟨id,o,p1,p2⟩:=hrH.at (by omega) hlt
  obtain⟨q1,_⟩:=p2 H _ hrH
  rw[he,it9C_at]at q1
  obtain⟨H1,H2,a1,a2,a3,a4,a5⟩:=boxN hw 3 [(.int .i64 (.ofNat 0)),(.str []),(.str [])] (it9 x) rfl rfl (by omega) rfl Z
  have l2:zV 3 [.ptr H.size 0] H2=some (.agg (it9 x)):=zA1 a3.cells (by simp[it9])
  have hg2:Gr H0.size H0 H2:=hg.trans a4 hg.size
  obtain⟨H3,Z3,g3,k3⟩:=hf x (by rw[he];simp) H2 hg2 Z
  have g23:Gr H.size H H3:=a4.trans g3 (Nat.le_of_lt a5)
  have a3':=a3.gr g3 a5
  have l3:zV 3 [.ptr H.size 0] H3=some (.agg (it9 x)):=zA1 a3'.cells (by simp[it9])
  have ho3:OwnN _ _ _ _ _ _:=⟨ho.1.gr g23 hw nl,ho.2⟩
  have e6:wr .i64 ((pre.length:Int)+Int.ofNat 1)=((pre++[x]).length:Int):=by rw[adI (by omega)];simp
  have hB3:H0.size<=H3.size:=Nat.le_trans hg.size g23.size
  cases hfx:f x with
  | true =>
   rw[hfx]at k3
   have b0:zL 1 3 [(.int .i64 (.ofNat 0)),(.str []),(.str [])] [(0,3)] [.agg (it9 x)] H3 Z3=some (.sl H3.size 0 1 1 none 3,H3.new (it9 x) 3 false,Z3):=rfl
   obtain⟨v',H4,Z4,r1,r2,r3⟩:=ho3.1.putN (bytes:=40) g3.wf hB3 (it9 x) rfl rfl (by omega) (by omega) Z3 false
   have hcs:it9C acc++it9 x=it9C (acc++[x]):=by rw[zFx];simp[it9C]
   rw[hcs]at r2
   have g04:Gr H0.size H H4:=(g23.weaken hg.size).trans r3 nl
   obtain⟨v5',H',Z',s1,s2,s3⟩:=ih (pre++[x]) (acc++[x]) v' M H4 Z4 (by rw[he];simp) (by simp at hM;omega) (hg.trans g04 nl) ⟨by simpa using r2,fun h=>by simp at h⟩ (by simp;omega)
   have hfm:acc++(x::l).filter f=(acc++[x])++l.filter f:=by rw[List.filter_cons,hfx];simp
   refine⟨v5',H',Z',by rw[hfm];exact s1,g04.trans s2 nl,fun fr k f1 f5 f8 f9 f10=>?_⟩
   rw[zC]
   simp only[zCD,zA f1,zA f5,zA f8,zA f9,zA f10,zI,e1,zO,p1,q1,zK,a1,a2,za,l2,k3,l3,b0,r1,zDz,zJ,↓reduceIte,Nat.reduceEqDiff,zQ,e6]
   exact s3 _ _ (by rfl) (by rfl) (by rfl) (by rfl) (by rfl)
  | false =>
   rw[hfx]at k3
   have g04:Gr H0.size H H3:=g23.weaken hg.size
   obtain⟨v5',H',Z',s1,s2,s3⟩:=ih (pre++[x]) acc v5 M H3 Z3 (by rw[he];simp) (by simp at hM;omega) (hg.trans g04 nl) ho3 (by simp;omega)
   have hfm:acc++(x::l).filter f=acc++l.filter f:=by rw[List.filter_cons,hfx];rfl
   refine⟨v5',H',Z',by rw[hfm];exact s1,g04.trans s2 nl,fun fr k f1 f5 f8 f9 f10=>?_⟩
   rw[zC]
   simp only[zCD,zA f1,zA f5,zA f8,zA f9,zA f10,zI,e1,zO,p1,q1,zK,a1,a2,za,l2,k3,zM,zDz,zJ,↓reduceIte,Nat.reduceEqDiff,zQ,e6]
   exact s3 _ _ (by rfl) (by rfl) (by rfl) (by rfl) (by rfl)
theorem zIm (c:zD){N:Nat}(hN:9223372036854775807<=N)(f:It9->Bool)(fv:V)(its:List It9)(hil:its.length<=200000000000)(H:Heap)(hw:WF H)(v:V)(hr:Rd H 3 v its.length (it9C its))(hf:TestP c fv f H.size H its)(Z:Tape) :
  ∃ v' H' Z',OwnN H' H.size 3 v' (its.filter f).length (it9C (its.filter f))/\Gr H.size H H'/\∀ q,zFc c N v fv H Z q=q v' H' Z':=by
 obtain⟨v',H',Z',s1,s2,s3⟩:=l_chosen c N f fv its hil H hw v hr hf its [] [] .nils N H Z rfl (by omega) (Gr.refl hw) (OwnN.nil _ _ _) nl
 refine⟨v',H',Z',by simpa using s1,s2,fun q=>?_⟩
 simp only[zFc,hr.pLen,zK]
 rw[s3 _ _ (by rfl) (by rfl) (by rfl) (by rfl) (by rfl)]
 simp only[zP,Nat.beq_refl,cond_true,seqK,zJd,zJ,↓reduceIte]
abbrev zQu (c c':zD):Prop:=∀ (f:It9->Bool) (fv:V) (its:List It9),its.length<=200000000000->∀ (H:Heap),WF H->∀ v,Rd H 3 v its.length (it9C its)->TestP c' fv f H.size H its->∀ Z,
 ∃ v' H' Z',OwnN H' H.size 3 v' (its.filter f).length (it9C (its.filter f))/\Gr H.size H H'/\∀ q,c zCL [v,fv] H Z q=q v' H' Z'
theorem zKX (c:zD)(N:Nat)(x:It9)(m most:Nat)(H:Heap)(hw:WF H)(hm:H.cells? m=some [.int .i64 (most:Int)])(Z:Tape) :
  ∃ H',Gr H.size H H'/\∀ q,zCg c N (.agg (it9 x)) (.ptr m 0) H Z q=q (.bool (decide (x.1=most))) H' Z:=by
 have g:=Gr.new hw (it9 x) 3 true
 have cc:=zBp H (it9 x) 3 true
 have b0:eBox [.agg (it9 x)] H Z=some (.ptr H.size 0,H.new (it9 x) 3 true,Z):=rfl
 refine⟨_,g,fun q=>?_⟩
 have l0:zF [.ptr H.size 0] (H.new (it9 x) 3 true)=some (.int .i64 (x.1:Int)):=zg cc rfl
 have l1:zF [.ptr m 0] (H.new (it9 x) 3 true)=some (.int .i64 (most:Int)):=zg (g.cells hw nl hm) rfl
 have e:(((x.1:Nat):Int) ==(most:Int))=decide (x.1=most):=by
  rw[Bool.eq_iff_iff];simp only[beq_iff_eq,decide_eq_true_eq];omega
 simp only[zCg,b0,za,zH,Nat.zero_add,Nat.add_zero,zK,l0,l1,zZ,e]
def zHt (l:List It9):Nat:=l.foldl (fun m x=>max m x.1) 0
def zCE (l:List It9):List It9:=l.filter fun x=>decide (x.1=zHt l)
theorem zLh (l:List It9)(x:It9):zHt (l++[x])=max (zHt l) x.1:=by unfold zHt;rw[List.foldl_append];rfl
theorem l_strongest (c:zD)(N:Nat)(its:List It9)(hil:its.length<=200000000000)(H0:Heap)(hw0:WF H0)(v0 v6:V)(hr:Rd H0 3 v6 its.length (it9C its))(m:Nat)(hm:H0.size<=m) :
  ∀ (l pre:List It9) (M:Nat) (H:Heap) (Z:Tape),its=pre++l->l.length<M->Gr H0.size H0 H->Bx H m [.int .i64 (zHt pre:Int)] ->
  ∃ H',Bx H' m [.int .i64 (zHt its:Int)]/\Gr H0.size H H' /\
   ∀ (fr:T V) k,fr.get 0=some v0->fr.get 3=some (.ptr m 0)->fr.get 6=some v6->fr.get 7=some (.int .i64 (its.length:Int))->fr.get 8=some (.int .i64 (pre.length:Int)) ->
    zW (zAu c N) M ⟨fr,H⟩ Z k=k (.exit 0) ⟨(T.s (T.s .leaf 0 v0) 3 (.ptr m 0)),H'⟩ Z:=by
 intro l
 induction l with
 | nil =>
  intro pre M H Z he hM hg hb
  obtain⟨M,rfl⟩:∃ j,M=j+1:=⟨M-1,by omega⟩
  rw[List.append_nil]at he
  have e1:decide ((pre.length:Int)<(its.length:Int))=false:=decide_eq_false (by rw[he];omega)
  refine⟨H,by rw[he];exact hb,Gr.refl hg.wf,fun fr k f0 f3 f6 f7 f8=>?_⟩
  rw[zC]
  simp only[zAu,zA f0,zA f3,zA f6,zA f7,zA f8,zI,e1,zM]
  rfl
 | cons x l ih =>
  intro pre M H Z he hM hg hb
  obtain⟨M,rfl⟩:∃ j,M=j+1:=⟨M-1,by omega⟩
  have hw:=hg.wf
  have hlt:pre.length<its.length:=by rw[he];simp
  have e1:decide ((pre.length:Int)<(its.length:Int))=true:=decide_eq_true (by omega)
  have hrH:=hr.gr hg hw0 nl
  obtain⟨id,o,p1,p2⟩:=hrH.at (by omega) hlt
  obtain⟨q1,_⟩:=p2 H _ hrH
  rw[he,it9C_at]at q1
  have hmlt:=hb.lt hw
  obtain⟨H1,H2,a1,a2,a3,a4,a5⟩:=boxN hw 3 [(.int .i64 (.ofNat 0)),(.str []),(.str [])] (it9 x) rfl rfl (by omega) rfl Z
  have hb2:=hb.gr a4 hmlt
  have l2:zF [.ptr H.size 0] H2=some (.int .i64 (x.1:Int)):=zg a3.cells rfl
  have l3:zF [.ptr m 0] H2=some (.int .i64 (zHt pre:Int)):=zg hb2.cells rfl
  obtain⟨H3,s1,s2,s3⟩:=hb2.eStore a4.wf 0 (.int .i64 (x.1:Int)) 1 rfl (by simp) (by omega) rfl Z
  have s2':Bx H3 m [.int .i64 (x.1:Int)]:=s2
  have e6:wr .i64 ((pre.length:Int)+Int.ofNat 1)=((pre++[x]).length:Int):=by rw[adI (by omega)];simp
  have g02:Gr H0.size H H2:=a4.weaken hg.size
  have g03:Gr H0.size H H3:=g02.trans (s3.gr hm) nl
  by_cases h0:pre.length=0
  ·have hp:pre=[]:=List.length_eq_zero_iff.1 h0
   subst hp
   have e2:(((([]:List It9).length:Nat):Int) == Int.ofNat 0)=true:=rfl
   have hmx:zHt ([]++[x])=x.1:=by rw[zLh];show max 0 x.1=x.1;omega
   obtain⟨H',r1,r2,r3⟩:=ih ([]++[x]) M H3 Z (by rw[he];simp) (by simp at hM;omega) (hg.trans g03 nl) (by rw[hmx];exact s2')
   refine⟨H',r1,g03.trans r2 nl,fun fr k f0 f3 f6 f7 f8=>?_⟩
   rw[zC]
   simp only[zAu,zA f0,zA f3,zA f6,zA f7,zA f8,zI,e1,zO,p1,q1,zK,a1,a2,za,zZ,e2,zEO,zBw,zi,cond_true,zH,Nat.zero_add,Nat.add_zero,l2,s1,zBV,zJ,↓reduceIte,Nat.reduceEqDiff,zQ,e6]
   exact r3 _ _ (by rfl) (by rfl) (by rfl) (by rfl) (by rfl)
  ·have e2:(((pre.length:Nat):Int) == Int.ofNat 0)=false:=beq_eq_false_iff_ne.2 (fun h=>h0 (by have:Int.ofNat 0=0:=rfl;omega))
   by_cases hgt:zHt pre<x.1
   ·have e3:decide ((zHt pre:Int)<(x.1:Int))=true:=decide_eq_true (by omega)
    have hmx:zHt (pre++[x])=x.1:=by rw[zLh];omega
    obtain⟨H',r1,r2,r3⟩:=ih (pre++[x]) M H3 Z (by rw[he];simp) (by simp at hM;omega) (hg.trans g03 nl) (by rw[hmx];exact s2')
    refine⟨H',r1,g03.trans r2 nl,fun fr k f0 f3 f6 f7 f8=>?_⟩
    rw[zC]
    simp only[zAu,zA f0,zA f3,zA f6,zA f7,zA f8,zI,e1,zO,p1,q1,zK,a1,a2,za,zZ,e2,zHc,retK,zAs,l3,e3,zi,cond_false,zH,Nat.zero_add,Nat.add_zero,l2,s1,zBV,zJ,↓reduceIte,Nat.reduceEqDiff,zQ,e6]
    exact r3 _ _ (by rfl) (by rfl) (by rfl) (by rfl) (by rfl)
   ·have e3:decide ((zHt pre:Int)<(x.1:Int))=false:=decide_eq_false (by omega)
    have hmx:zHt (pre++[x])=zHt pre:=by rw[zLh];omega
    obtain⟨H',r1,r2,r3⟩:=ih (pre++[x]) M H2 Z (by rw[he];simp) (by simp at hM;omega) (hg.trans g02 nl) (by rw[hmx];exact hb2)
    refine⟨H',r1,g02.trans r2 nl,fun fr k f0 f3 f6 f7 f8=>?_⟩
    rw[zC]
    simp only[zAu,zA f0,zA f3,zA f6,zA f7,zA f8,zI,e1,zO,p1,q1,zK,a1,a2,za,zZ,e2,zHc,retK,zAs,l3,e3,zi,cond_false,zH,Nat.zero_add,Nat.add_zero,l2,zM,zBV,zJ,↓reduceIte,Nat.reduceEqDiff,zQ,e6]
    exact r3 _ _ (by rfl) (by rfl) (by rfl) (by rfl) (by rfl)
theorem zLU (c c':zD){N:Nat}(hN:9223372036854775807<=N)(hC:zQu c c')(hT:∀ (x:It9) (m most:Nat) (H:Heap),WF H->H.cells? m=some [.int .i64 (most:Int)]->∀ Z,∃ H',Gr H.size H H'/\∀ q,c' zBZ [.agg (it9 x),.ptr m 0] H Z q=q (.bool (decide (x.1=most))) H' Z)
  (its:List It9) (hil:its.length<=200000000000) (H:Heap) (hw:WF H) (v:V) (hr:Rd H 3 v its.length (it9C its)) (Z:Tape) :
  ∃ v' H' Z',OwnN H' H.size 3 v' (zCE its).length (it9C (zCE its))/\Gr H.size H H'/\∀ q,zD7 c N v H Z q=q v' H' Z':=by
 obtain⟨H1,H2,a1,a2,a3,a4,a5⟩:=boxN hw 1 [(.int .i64 (.ofNat 0))] [.int .i64 (0:Int)] rfl rfl (by omega) rfl Z
 have a2':eStore 1 [.ptr H.size 0,.int .i64 (.ofNat 0)] H1 Z=some (.tup [],H2,Z):=a2
 obtain⟨H3,r1,r2,r3⟩:=l_strongest c N its hil H hw v v hr H.size nl its [] N H2 Z rfl (by omega) a4 a3
 have g3:Gr H.size H H3:=a4.trans r2 nl
 have h3:H.size<H3.size:=r1.lt g3.wf
 obtain⟨v',H',Z',s1,s2,s3⟩:=hC (fun x=>decide (x.1=zHt its)) (.func zBZ [] [.ptr H.size 0]) its hil H3 g3.wf v (hr.gr g3 hw nl) (fun x _ H4 g4 Z4=>by
  obtain⟨H5,g5,k5⟩:=hT x H.size (zHt its) H4 g4.wf (r1.gr g4 h3).cells Z4
  exact⟨H5,Z4,g5,fun q=>k5 q⟩) Z
 refine⟨v',H',Z',⟨s1.1.weaken0 (Nat.le_of_lt h3),s1.2⟩,g3.trans s2 g3.size,fun q=>?_⟩
 simp only[zD7,a1,a2',za,hr.pLen,zK]
 rw[r3 _ _ (by rfl) (by rfl) (by rfl) (by rfl) (by rfl)]
 simp only[zP,Nat.beq_refl,cond_true,seqK,zHS,zJ,↓reduceIte,Nat.reduceEqDiff,zK,List.take_zero,List.drop_zero,s3]
end Go.Am.X

