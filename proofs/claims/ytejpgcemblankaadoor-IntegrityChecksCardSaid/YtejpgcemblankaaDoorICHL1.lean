/- The abstract machine, printed functions of the program, and what they are shown to be. -/
import Derived.Test.YtejpgcemblankaaDoorICHL0
import Derived.Test.YtejpgcemblankaaDoorICHOk
import Derived.Test.YtejpgcemblankaaDoorICHM4
set_option linter.unusedSimpArgs false
set_option linter.unusedVariables false
set_option linter.unusedSectionVars false
set_option maxRecDepth 100000
namespace Go.Am.X
abbrev NB:Nat:=9223372036854775808
theorem nb:9223372036854775807 < NB:=by decide
theorem tab_all (f:Nat) (d:Def) (h:tabF.get f=some d) (base:Base) (w0:World):zP5 PG base w0 f d:=defs_ok (all_ok base w0) f d h
theorem primOk_E (d f:Nat) {R:List V→Heap→Out→Prop}
  (hR:∀ vs H o,WF H→VsOk H vs→R vs H o→∀ τ,∃ v H' τ',C NB d f vs H τ retK=some (v,H',τ')∧Gr H.size H H'∧o.Met H v H'):∀ base w0,zFJ PG base w0 f (outP R) :=
 zQ5 zJJ (tab_ok NB) tab_all d f hR
def strP (M:Nat):List V→Prop | [.str s]=>s.length≤M | _=>False
def strG (g:Bs→V):List V→V | [.str s]=>g s | _=>.tup []
abbrev RS (M:Nat) (g:Bs→V):=RV (strP M) (strG g)
theorem primS (d f M:Nat) (g:Bs→V) (hv:∀ s H,VOk H (g s)) (h:∀ s:Bs,s.length≤M→∀ H,WF H→∀ τ,∃ H' τ',Gr H.size H H'∧∀ q,C NB d f [.str s] H τ q=q (g s) H' τ'):∀ base w0,zFJ PG base w0 f (outP (RS M g)):=by
 refine primOk_E d f ?_
 rintro vs H o hw hvs ⟨hp,rfl⟩ τ
 unfold strP at hp
 split at hp
 ·rename_i s
  obtain ⟨H',τ',g1,k1⟩:=h s hp H hw τ
  exact ⟨_,H',τ',k1 retK,g1,rfl,hv s H⟩
 ·exact hp.elim
theorem callS {c:zD} {f M:Nat} {g:Bs→V} (hc:∀ vs H τ q,c f vs H τ q=effK (outP (RS M g) vs H τ) q) (s:Bs) (hs:s.length≤M) (H:Heap) (τ:Tape) (q:KV):c f [.str s] H τ q=q (g s) H τ:=RV_call hc (vs:=[.str s]) hs H τ q
abbrev LowR:=RS 140737488355328 fun s=>.str (lower s)
theorem zRN:∀ base w0,zFJ PG base w0 zEQ (outP LowR):=primS 3 _ _ _ (fun _ _=>trivial) fun s hs H hw τ=>by
 obtain ⟨H',τ',g,k⟩:=zRv nb 3 (by omega) s hs H hw τ retK
 exact ⟨H',τ',g,fun q=>(C_nat NB 3).mk k q⟩
end Go.Am.X

namespace Go.Am.X
theorem s14_eval (c:zD) (N:Nat) (s:Bs) (m:Nat) (H:Heap) (τ:Tape) (q:KV):zMx c N (.str s) (.int .i64 (m:Int)) H τ q=q (.str (s.take m)) H τ:=by
 simp only [zMx,zBQ,zL,zA5]
 by_cases h:m < s.length
 ·rw [decide_eq_true (by omega),zk,zNm (by omega),zL]
 ·rw [decide_eq_false (by omega),zn,List.take_of_length_le (by omega)]
end Go.Am.X

namespace Go.Am.X
def lstO (z n:Nat) (cs:List V) (mk:V→V):Out:=if n=0 then .val (mk .nils) else .lst z n cs mk
end Go.Am.X

namespace Go.Am.X
end Go.Am.X

namespace Go.Am.X
theorem lowB_up {x:UInt8} (h1:65≤x.toNat) (h2:x.toNat≤90):((x.toNat+32:Nat):Int)=((lowB x).toNat:Int):=by
 have:lowB x=UInt8.ofNat (x.toNat+32):=by unfold lowB;rw [if_pos ⟨h1,h2⟩]
 rw [this];simp;omega
theorem l_ref1_Lower (c:zD) (N:Nat) {B id e m:Nat} (l:Bs) :
  ∀ (pre:Bs) (n:Nat) (fr:T V) (H:Heap) (τ:Tape),WF H→Blk H B id (bv (lower pre++l))→(pre++l).length=m→m < 9223372036854775807→l.length < n →
  fr.get 3=some (.sl id 0 m m (some e) 1)→fr.get 4=some (.int .i64 (pre.length:Int)) →
  ∃ H',Blk H' B id (bv (lower (pre++l)))∧Gr B H H'∧∀ k,zW (zDo c N) n ⟨fr,H⟩ τ k=k (.exit 0) ⟨T.set .leaf 3 (.sl id 0 m m (some e) 1),H'⟩ τ:=by
 induction l with
 | nil =>
  intro pre n fr H τ hw hB hm hmb hn h3 h4
  obtain ⟨n,rfl⟩:∃ j,n=j+1:=⟨n - 1,by simp at hn;omega⟩
  refine ⟨H,by simpa using hB,Gr.refl hw,fun k=>?_⟩
  have e1:decide (pre.length < m)=false:=decide_eq_false (by simp at hm;omega)
  have pl:pLen [.sl id 0 m m (some e) 1]=some (.int .i64 (m:Int)):=rfl
  rw [zC]
  simp only [zDo,zA h3,zA h4,pl,zJ,↓reduceIte,Nat.reduceEqDiff,zK,zZ,retK,zE5,zIi,zC9,zE3,zB4,zg,cond_true,cond_false,zO,zM,zY,zCZ,zI,zBc,zA5,zt,zKs,Bool.not_true,Bool.not_false,zDb,zBQ,zQj,zQN,zQO,zQW,zQo,zQi,zPa,zP9,zQL,zQl,ext0,ext1,zQk,zQc,zQX,zQ,z8,decide_true,decide_false,e1]
  rfl
 | cons x l ih =>
  intro pre n fr H τ hw hB hm hmb hn h3 h4
  obtain ⟨n,rfl⟩:∃ j,n=j+1:=⟨n - 1,by simp at hn;omega⟩
  have hlt:pre.length < m:=by simp at hm;omega
  have e1:decide (pre.length < m)=true:=decide_eq_true hlt
  have pl:pLen [.sl id 0 m m (some e) 1]=some (.int .i64 (m:Int)):=rfl
  have e2:zAk 1 [.sl id 0 m m (some e) 1,.int .i64 (pre.length:Int)]=some (.ptr id pre.length):=by
   have:Nat.blt pre.length m=true:=by simp [Nat.blt];omega
   simp [zAk,zCn,this]
  have e3:zF [.ptr id pre.length] H=some (.int .u8 (x.toNat:Int)):=by
   refine zm hB.cells ?_
   have:pre.length=(bv (lower pre)).length:=by simp [bv,lower]
   simp [bv,lower]
  have hcells:(bv (lower pre++x :: l)).take pre.length++(V.int .u8 ((lowB x).toNat:Int)).cells++(bv (lower pre++x :: l)).drop (pre.length+1)=bv (lower (pre++[x])++l):=by
   have hl:pre.length=(lower pre).length:=by simp [lower]
   simp only [bv,List.map_append,List.map_cons]
   rw [List.take_append_of_le_length (by simp [lower]),List.take_of_length_le (by simp [lower]),List.drop_append]
   simp [lower,V.cells]
  have e5:wr .i64 ((pre.length:Int)+Int.ofNat 1)=((pre++[x]).length:Int):=by rw [adI (by omega)];simp
  by_cases hx:65≤x.toNat∧x.toNat≤90
  ·obtain ⟨H1,k1,k2,k3,k4⟩:=hB.eStore hw pre.length (.int .u8 ((lowB x).toNat:Int)) 1 rfl (by simp [bv,lower]) rfl τ
   rw [hcells] at k2
   have d1:decide (65≤x.toNat)=true:=decide_eq_true hx.1
   have d2:decide (x.toNat≤90)=true:=decide_eq_true hx.2
   have e6:wr .u8 ((x.toNat:Int)+Int.ofNat 32)=((lowB x).toNat:Int):=by
    rw [show ((x.toNat:Int)+Int.ofNat 32)=((x.toNat+32:Nat):Int) by simp,wr_u8,Nat.mod_eq_of_lt (by omega),lowB_up hx.1 hx.2]
   obtain ⟨H',m1,m2,m3⟩:=ih (pre++[x]) n (T.set (T.set (T.set (T.set (T.set .leaf 3 (.sl id 0 m m (some e) 1)) 4 (.int .i64 (pre.length:Int))) 11 (.int .i64 (pre.length:Int))) 12 (.int .i64 ((pre++[x]).length:Int))) 4 (.int .i64 ((pre++[x]).length:Int))) H1 τ k3.wf k2 (by simpa using hm) hmb (by simp at hn;omega) (by rfl) (by rfl)
   refine ⟨H',by simpa using m1,k3.trans m2 (Nat.le_refl _),fun k=>?_⟩
   rw [zC]
   simp only [zDo,zA h3,zA h4,pl,zJ,↓reduceIte,Nat.reduceEqDiff,zK,zZ,retK,zE5,zIi,zC9,zE3,zB4,zg,cond_true,cond_false,zO,zM,zY,zCZ,zI,zBc,zA5,zt,zKs,Bool.not_true,Bool.not_false,zDb,zBQ,zQj,zQN,zQO,zQW,zQo,zQi,zPa,zP9,zQL,zQl,ext0,ext1,zQk,zQc,zQX,zQ,z8,decide_true,decide_false,e1,e2,e3,d1,d2,e6,k1,zFE,e5,seqK]
   exact m3 k
  ·have hlx:lowB x=x:=by unfold lowB;rw [if_neg hx]
   rw [hlx] at hcells
   have hB2:Blk H B id (bv (lower (pre++[x])++l)):=by
    have:bv (lower (pre++[x])++l)=bv (lower pre++x :: l):=by simp [lower,hlx]
    rw [this];exact hB
   obtain ⟨H',m1,m2,m3⟩:=ih (pre++[x]) n (T.set (T.set (T.set (T.set (T.set .leaf 3 (.sl id 0 m m (some e) 1)) 4 (.int .i64 (pre.length:Int))) 11 (.int .i64 (pre.length:Int))) 12 (.int .i64 ((pre++[x]).length:Int))) 4 (.int .i64 ((pre++[x]).length:Int))) H τ hw hB2 (by simpa using hm) hmb (by simp at hn;omega) (by rfl) (by rfl)
   refine ⟨H',by simpa using m1,m2,fun k=>?_⟩
   rw [zC]
   cases d1:decide (65≤x.toNat) with
   | true =>
    have d2:decide (x.toNat≤90)=false:=decide_eq_false fun h=>hx ⟨of_decide_eq_true d1,h⟩
    simp only [zDo,zA h3,zA h4,pl,zJ,↓reduceIte,Nat.reduceEqDiff,zK,zZ,retK,zE5,zIi,zC9,zE3,zB4,zg,cond_true,cond_false,zO,zM,zY,zCZ,zI,zBc,zA5,zt,zKs,Bool.not_true,Bool.not_false,zDb,zBQ,zQj,zQN,zQO,zQW,zQo,zQi,zPa,zP9,zQL,zQl,ext0,ext1,zQk,zQc,zQX,zQ,z8,decide_true,decide_false,e1,e2,e3,d1,d2,zFE,e5,seqK]
    exact m3 k
   | false =>
    simp only [zDo,zA h3,zA h4,pl,zJ,↓reduceIte,Nat.reduceEqDiff,zK,zZ,retK,zE5,zIi,zC9,zE3,zB4,zg,cond_true,cond_false,zO,zM,zY,zCZ,zI,zBc,zA5,zt,zKs,Bool.not_true,Bool.not_false,zDb,zBQ,zQj,zQN,zQO,zQW,zQo,zQi,zPa,zP9,zQL,zQl,ext0,ext1,zQk,zQc,zQX,zQ,z8,decide_true,decide_false,e1,e2,e3,d1,zFE,e5,seqK]
    exact m3 k
theorem zPM (c:zD) {N:Nat} (hN:9223372036854775807 < N) (s:Bs) (hs:s.length≤140737488355328) (H:Heap) (hw:WF H) (τ:Tape) :
  ∃ H' τ',Gr H.size H H'∧∀ q,zJ2 c N (.str s) H τ q=q (.str (lower s)) H' τ':=by
 have hB:=Blk.new H (bv s) ((s.length+spare s.length (τ 0)) * 1) false (by rw [bv_length];omega)
 have hG:=Gr.new hw (bv s) ((s.length+spare s.length (τ 0)) * 1) false
 obtain ⟨H',m1,m2,m3⟩:=l_ref1_Lower c N (e:=spare s.length (τ 0)) (m:=s.length) s [] N (T.set (T.set .leaf 3 (.sl H.size 0 s.length s.length (some (spare s.length (τ 0))) 1)) 4 (.int .i64 0)) _ τ.tail hG.wf (by simpa [lower] using hB) (by simp) (by omega) (by omega) (by rfl) (by rfl)
 refine ⟨H',τ.tail,hG.trans m2 (Nat.le_refl _),fun q=>?_⟩
 have e1:zDz [.str s] H τ=some (.sl H.size 0 s.length s.length (some (spare s.length (τ 0))) 1,H.new (bv s) ((s.length+spare s.length (τ 0)) * 1) false,τ.tail):=by
  simp only [zDz,Nat.ble_eq_true_of_le hs,cond_true,fresh]
  rfl
 have e3:zDs [.sl H.size 0 s.length s.length (some (spare s.length (τ 0))) 1] H'=some (.str (lower s)):=by
  have hl:(bv (lower ([]++s))).length=s.length:=by simp [bv,lower]
  simp only [zDs,zAi m1.cells (show 0+s.length≤_ by rw [hl];omega),List.drop_zero]
  rw [List.take_of_length_le (by rw [hl];omega)]
  simp [zQy]
 simp only [zJ2,e1,zZ]
 rw [show (V.int IntKind.i64 (Int.ofNat 0))=.int .i64 0 from rfl,m3]
 simp only [zP,Nat.beq_refl,cond_true,seqK,zMb,zJ,↓reduceIte,Nat.reduceEqDiff,zK,zZ,retK,zE5,zIi,zC9,zE3,zB4,zg,cond_true,cond_false,zO,zM,zY,zCZ,zI,zBc,zA5,zt,zKs,Bool.not_true,Bool.not_false,zDb,zBQ,zQj,zQN,zQO,zQW,zQo,zQi,zPa,zP9,zQL,zQl,ext0,ext1,zQk,zQc,zQX,zQ,z8,decide_true,decide_false,e3]
end Go.Am.X

namespace Go.Am.X
theorem someN:∃ N:Nat,9223372036854775807 < N:=⟨9223372036854775808,by decide⟩
theorem primRV {N:Nat} {l:List Row} (hl:zLr PG l) (d f:Nat) {Pre:List V→Prop} {g:List V→V} (hv:∀ vs H,Pre vs→VOk H (g vs)) (h:∀ vs,Pre vs→∀ H,WF H→∀ τ,∃ H' τ',Gr H.size H H'∧∀ q,CR l N d f vs H τ q=q (g vs) H' τ'):∀ base w0,zFJ PG base w0 f (outP (RV Pre g)):=by
 refine zIC zJJ hl N d f ?_
 rintro vs H o hw hvs ⟨hp,rfl⟩ τ
 obtain ⟨H',τ',g1,k1⟩:=h vs hp H hw τ
 exact ⟨_,H',τ',k1 retK,g1,rfl,hv vs H hp⟩
theorem p_ref1_Lower:∀ base w0,zFJ PG base w0 zEA (outP LowR):=by
 obtain ⟨N,hN⟩:=someN
 refine primRV (N:=N) (l:=[Row.fn zEA zEE zIj]) (.fn zOM zMZ (.nil _)) 1 _ (fun vs H h=>?_) (fun vs h H hw τ=>?_)
 ·unfold strP at h;split at h
  ·trivial
  ·exact h.elim
 ·unfold strP at h;split at h
  ·exact zPM (CR [Row.fn zEA zEE zIj] N 0) hN _ h H hw τ
  ·exact h.elim
abbrev IsP (c:zD) (f:Nat) (R:List V→Heap→Out→Prop):Prop:=∀ vs H τ q,c f vs H τ q=effK (outP R vs H τ) q
abbrev RLowOk (c:zD):Prop:=∀ (s:Bs),s.length≤140737488355328→∀ H τ q,c zEA [.str s] H τ q=q (.str (lower s)) H τ
theorem k_ref1_Lower {c:zD} (h:IsP c zEA LowR):RLowOk c:=fun s hs H τ q=>callS h s hs H τ q
end Go.Am.X

namespace Go.Am.X
end Go.Am.X

namespace Go.Am.X
end Go.Am.X

namespace Go.Am.X
end Go.Am.X

namespace Go.Am.X
def zQb (x:UInt8) (s:Bs):V:=match cutB x s with | some (a,b)=>.tup [.str a,.str b,.bool true] | none=>.tup [.str s,.str [],.bool false]
theorem l_ref1_Part (c:zD) (N:Nat) (x:UInt8) (s:Bs) (hs:s.length < 9223372036854775807) (H:Heap):∀ (l pre:Bs) (τ:Tape) (m:Nat),s=pre++l→l.length < m→∀ (fr:T V) k,fr.get 0=some (.str s)→fr.get 1=some (.int .u8 (x.toNat:Int))→fr.get 7=some (.int .i64 (pre.length:Int)) →
  zW (zGC c N) m ⟨fr,H⟩ τ k=match cutB x l with
   | some (a,b)=>k .ret ⟨(T.set (T.set (T.set .leaf 4 (.str (pre++a))) 5 (.str b)) 6 (.bool true)),H⟩ τ
   | none=>k (.exit 0) ⟨(T.set .leaf 0 (.str s)),H⟩ τ:=by
 intro l
 induction l with
 | nil =>
  intro pre τ m he hm fr k f0 f1 f7
  obtain ⟨m,rfl⟩:∃ j,m=j+1:=⟨m - 1,by omega⟩
  have e1:decide (pre.length < s.length)=false:=decide_eq_false (by rw [he];simp)
  rw [zC]
  simp only [zGC,zA f0,zA f1,zA f7,zJ,↓reduceIte,Nat.reduceEqDiff,zK,zZ,retK,zE5,zIi,zC9,zE3,zB4,zg,cond_true,cond_false,zO,zM,zY,zCZ,zI,zBc,zA5,zt,zKs,Bool.not_true,Bool.not_false,zDb,zBQ,zQj,zQN,zQO,zQW,zQo,zQi,zPa,zP9,zQL,zQl,ext0,ext1,zQk,zQc,zQX,zQ,z8,decide_true,decide_false,e1]
  rfl
 | cons y l ih =>
  intro pre τ m he hm fr k f0 f1 f7
  obtain ⟨m,rfl⟩:∃ j,m=j+1:=⟨m - 1,by omega⟩
  have hlt:pre.length < s.length:=by rw [he];simp
  have e1:decide (pre.length < s.length)=true:=decide_eq_true hlt
  have e2:zAH [.str s,.int .i64 (pre.length:Int)]=some (.int .u8 (y.toNat:Int)):=zGX (by rw [he];simp)
  have e3:wr .i64 ((pre.length:Int)+Int.ofNat 1)=((pre++[y]).length:Int):=by rw [adI (by omega)];simp
  have e4:decide (y.toNat=x.toNat)=decide (y=x):=by rw [← u8beq];rfl
  rw [zC]
  by_cases h:y=x
  ·subst h
   have e5:decide (y=y)=true:=decide_eq_true rfl
   have s1:zAR false true [.str s,.int .i64 (pre.length:Int)]=some (.str pre):=by rw [zNm (by omega),he];simp
   have s2:zAR true false [.str s,.int .i64 ((pre++[y]).length:Int)]=some (.str l):=by
    rw [zNZ (by rw [he];simp),he,show pre++y :: l=(pre++[y])++l by simp,List.drop_left]
   simp only [zGC,zA f0,zA f1,zA f7,zJ,↓reduceIte,Nat.reduceEqDiff,zK,zZ,retK,zE5,zIi,zC9,zE3,zB4,zg,cond_true,cond_false,zO,zM,zY,zCZ,zI,zBc,zA5,zt,zKs,Bool.not_true,Bool.not_false,zDb,zBQ,zQj,zQN,zQO,zQW,zQo,zQi,zPa,zP9,zQL,zQl,ext0,ext1,zQk,zQc,zQX,zQ,z8,decide_true,decide_false,e1,e2,e4,e5,s1,e3,s2,cutB,if_true,List.append_nil]
   rfl
  ·have e5:decide (y=x)=false:=decide_eq_false h
   simp only [zGC,zA f0,zA f1,zA f7,zJ,↓reduceIte,Nat.reduceEqDiff,zK,zZ,retK,zE5,zIi,zC9,zE3,zB4,zg,cond_true,cond_false,zO,zM,zY,zCZ,zI,zBc,zA5,zt,zKs,Bool.not_true,Bool.not_false,zDb,zBQ,zQj,zQN,zQO,zQW,zQo,zQi,zPa,zP9,zQL,zQl,ext0,ext1,zQk,zQc,zQX,zQ,z8,decide_true,decide_false,e1,e2,e4,e5,e3,cutB,h,if_false]
   refine (ih (pre++[y]) τ m (by rw [he];simp) (by simp at hm;omega) _ k (by rfl) (by rfl) (by rfl)).trans ?_
   cases cutB x l with
   | none=>rfl
   | some ab=>obtain ⟨a,b⟩:=ab;simp
theorem zQI (c:zD) {N:Nat} (hN:9223372036854775807 < N) (x:UInt8) (s:Bs) (hs:s.length≤9223372036854775806) (H:Heap) (τ:Tape) (q:KV):zLN c N (.str s) (.int .u8 (x.toNat:Int)) H τ q=q (zQb x s) H τ:=by
 simp only [zLN]
 rw [l_ref1_Part c N x s (by omega) H s [] τ N rfl (by omega) _ _ (by rfl) (by rfl) (by rfl)]
 unfold zQb
 cases cutB x s with
 | none=>simp only [zP,Nat.beq_refl,cond_true,seqK,zNO,zJ,↓reduceIte,Nat.reduceEqDiff,zK,zZ,retK,zE5,zIi,zC9,zE3,zB4,zg,cond_true,cond_false,zO,zM,zY,zCZ,zI,zBc,zA5,zt,zKs,Bool.not_true,Bool.not_false,zDb,zBQ,zQj,zQN,zQO,zQW,zQo,zQi,zPa,zP9,zQL,zQl,ext0,ext1,zQk,zQc,zQX,zQ,z8,decide_true,decide_false]
 | some ab=>obtain ⟨a,b⟩:=ab;simp only [zP,seqK,endK,List.nil_append];rfl
abbrev PartPre:List V→Prop | [.str s,.int .u8 (.ofNat n)]=>s.length≤9223372036854775806∧n < 256 | _=>False
abbrev PartG:List V→V | [.str s,.int .u8 (.ofNat n)]=>zQb (UInt8.ofNat n) s | _=>.tup []
abbrev PartR:=RV PartPre PartG
theorem partV_vok (x:UInt8) (s:Bs) (H:Heap):VOk H (zQb x s):=by
 unfold zQb;split <;> exact ⟨trivial,trivial,trivial,trivial⟩
theorem p_ref1_Part:∀ base w0,zFJ PG base w0 zEG (outP PartR):=by
 obtain ⟨N,hN⟩:=someN
 refine primRV (N:=N) (l:=[Row.fn zEG zFG zJr]) (.fn zPA zNL (.nil _)) 1 _ (fun vs H h=>?_) (fun vs h H hw τ=>?_)
 ·unfold PartPre at h;split at h
  ·exact partV_vok _ _ _
  ·exact h.elim
 ·unfold PartPre at h;split at h
  ·rename_i s n
   have e:(UInt8.ofNat n).toNat=n:=by simp;omega
   have:=fun q=>zQI (CR [Row.fn zEG zFG zJr] N 0) hN (UInt8.ofNat n) s h.1 H τ q
   rw [e] at this
   exact ⟨H,τ,Gr.refl hw,this⟩
  ·exact h.elim
abbrev PartOk (c:zD):Prop:=∀ (s:Bs) (n:Nat),s.length≤9223372036854775806→n < 256→∀ H τ q,c zEG [.str s,.int .u8 (.ofNat n)] H τ q=q (zQb (UInt8.ofNat n) s) H τ
theorem k_ref1_Part {c:zD} (h:IsP c zEG PartR):PartOk c:=fun s n hs hn H τ q=>RV_call h (vs:=[.str s,.int .u8 (.ofNat n)]) ⟨hs,hn⟩ H τ q
def zQs (n:Nat):Bool:=(((decide (n=9) || decide (n=10)) || decide (n=12)) || decide (n=13)) || decide (n=32)
theorem zLk (c:zD) (N n:Nat) (H:Heap) (τ:Tape) (q:KV):zKS c N (.int .u8 (n:Int)) H τ q=q (.bool (zQs n)) H τ:=by
 unfold zQs
 cases h1:decide (n=9) <;> cases h2:decide (n=10) <;> cases h3:decide (n=12) <;> cases h4:decide (n=13) <;> cases h5:decide (n=32) <;> simp only [zKS,zJ,↓reduceIte,Nat.reduceEqDiff,zK,zZ,retK,zE5,zIi,zC9,zE3,zB4,zg,cond_true,cond_false,zO,zM,zY,zCZ,zI,zBc,zA5,zt,zKs,Bool.not_true,Bool.not_false,zDb,zBQ,zQj,zQN,zQO,zQW,zQo,zQi,zPa,zP9,zQL,zQl,ext0,ext1,zQk,zQc,zQX,zQ,z8,decide_true,decide_false,h1,h2,h3,h4,h5] <;> rfl
abbrev zRU (c:zD):Prop:=∀ (n:Nat) (H:Heap) (τ:Tape) (q:KV),c zGc [.int .u8 (n:Int)] H τ q=q (.bool (zQs n)) H τ
end Go.Am.X

namespace Go.Am.X
end Go.Am.X

namespace Go.Am.X
end Go.Am.X

namespace Go.Am.X
abbrev CutPre:List V→Prop | [.str s,.str [_]]=>s.length < 9223372036854775807 | _=>False
abbrev CutG:List V→V | [.str s,.str [x]]=>zQb x s | _=>.tup []
abbrev CutR:=RV CutPre CutG
theorem zRp:∀ base w0,zFJ PG base w0 zDV (outP CutR):=by
 refine primOk_E 4 _ ?_
 rintro vs H o hw hvs ⟨hp,rfl⟩ τ
 unfold CutPre at hp;split at hp
 ·rename_i s x
  exact ⟨_,H,τ,zRq nb 4 (by omega) x s hp H τ retK,Gr.refl hw,rfl,partV_vok x s H⟩
 ·exact hp.elim
abbrev RCutOk (c:zD):Prop:=∀ (s:Bs) (x:UInt8),s.length < 9223372036854775807→∀ H τ q,c zDV [.str s,.str [x]] H τ q=q (zQb x s) H τ
theorem zRO {c:zD} (h:IsP c zDV CutR):RCutOk c:=fun s x hs H τ q=>RV_call h (vs:=[.str s,.str [x]]) hs H τ q
theorem cutB_len (x:UInt8):∀ (s a b:Bs),cutB x s=some (a,b)→a.length+b.length+1=s.length:=by
 intro s a b h
 have:=((cutB_spec x s).2 a b h).1
 rw [this];simp;omega
abbrev NLowOk (c:zD):Prop:=∀ (s:Bs),s.length≤140737488355328→∀ H τ q,c zEQ [.str s] H τ q=q (.str (lower s)) H τ
theorem zRs {c:zD} (h:IsP c zEQ LowR):NLowOk c:=fun s hs H τ q=>callS h s hs H τ q
end Go.Am.X

namespace Go.Am.X
theorem idx_has (x:UInt8) (l:Bs):decide (Int.ofNat 0≤idxB x.toNat l 0)=l.contains x:=by
 by_cases h:l.contains x=true
 ·rw [h];exact decide_eq_true (idxB_some _ _ _ ⟨x,List.contains_iff_mem.1 h,rfl⟩)
 ·have h':l.contains x=false:=by cases e:l.contains x;rfl;exact absurd e h
  rw [h',idxB_none _ _ _ (fun y hy e=>h (List.contains_iff_mem.2 (by rw [← UInt8.toNat_inj.1 e];exact hy)))];rfl
theorem zNz (x:UInt8) (l:Bs):decide (idxB x.toNat l 0 < Int.ofNat 0)=!l.contains x:=by
 rw [← idx_has]
 by_cases h:Int.ofNat 0≤idxB x.toNat l 0
 ·rw [decide_eq_true h];exact decide_eq_false (by omega)
 ·rw [decide_eq_false h];exact decide_eq_true (by omega)
theorem k_idx {c:zD} (h:∀ vs H τ q,c zq vs H τ q=effK (idxP vs H τ) q) (s:Bs) (x:UInt8) (H:Heap) (τ:Tape) (q:KV):c zq [.str s,.int .u8 (x.toNat:Int)] H τ q=q (.int .i64 (idxB x.toNat s 0)) H τ:=by
 have e4:x.toNat % 256=x.toNat:=Nat.mod_eq_of_lt (u8_lt x)
 rw [h]
 show effK (idxP [.str s,.int .u8 (.ofNat x.toNat)] H τ) q=_
 simp only [idxP,e4,zZ]
end Go.Am.X

namespace Go.Am.X
def OwnN (H:Heap) (B z:Nat) (v:V) (n:Nat) (cs:List V):Prop:=Own H B z v n cs∧(n=0→v=.nils)
theorem OwnN.nil (H:Heap) (B z:Nat):OwnN H B z .nils 0 []:=⟨Own.nil _ _ _,fun _=>rfl⟩
abbrev It9:=Nat × Bs × Bs
def it9 (x:It9):List V:=[.int .i64 (x.1:Int),.str x.2.1,.str x.2.2]
def it9C:List It9→List V
 | []=>[]
 | x :: l=>it9 x++it9C l
theorem zFB (a b:List It9):it9C (a++b)=it9C a++it9C b:=by induction a with
 | nil=>rfl
 | cons x a ih=>simp [it9C,ih]
theorem zEN (a:List It9):(it9C a).length=a.length * 3:=by induction a with
 | nil=>rfl
 | cons x a ih=>simp [it9C,it9,ih];omega
theorem it9C_at (pre:List It9) (x:It9) (l:List It9):((it9C (pre++x :: l)).drop (pre.length * 3)).take 3=it9 x:=by
 rw [zFB,List.drop_left' (zEN pre)];rfl
theorem zNk (a b:Bs):zIv .eql a b=some (.bool (decide (a=b))):=(str_eql a b).trans (by congr 2;rw [Bool.eq_iff_iff];simp)
def sha (a b c:UInt8):Bs:=[115,104,97,a,b,c]
def zJy (n:Bs):Nat:=if lower n=sha 50 53 54 then 256 else if lower n=sha 51 56 52 then 384 else if lower n=sha 53 49 50 then 512 else 0
theorem zM6 (c:zD) (N:Nat) (hL:NLowOk c) (s:Bs) (hs:s.length≤140737488355328) (H:Heap) (τ:Tape) (q:KV):zB5 c N (.str s) H τ q=q (.int .i64 (zJy s:Nat)) H τ:=by
 have e1:zIv .eql (lower s) (bs [115,104,97,50,53,54])=some (.bool (decide (lower s=sha 50 53 54))):=zNk _ _
 have e2:zIv .eql (lower s) (bs [115,104,97,51,56,52])=some (.bool (decide (lower s=sha 51 56 52))):=zNk _ _
 have e3:zIv .eql (lower s) (bs [115,104,97,53,49,50])=some (.bool (decide (lower s=sha 53 49 50))):=zNk _ _
 unfold zJy
 by_cases h1:lower s=sha 50 53 54
 ·simp only [zB5,hL s hs,zDb,e1,decide_eq_true h1,zK,zO,if_pos h1];rfl
 ·by_cases h2:lower s=sha 51 56 52
  ·simp only [zB5,hL s hs,zDb,e1,e2,decide_eq_false h1,decide_eq_true h2,zK,zO,zM,if_neg h1,if_pos h2];rfl
  ·by_cases h3:lower s=sha 53 49 50
   ·simp only [zB5,hL s hs,zDb,e1,e2,e3,decide_eq_false h1,decide_eq_false h2,decide_eq_true h3,zK,zO,zM,if_neg h1,if_neg h2,if_pos h3];rfl
   ·simp only [zB5,hL s hs,zDb,e1,e2,e3,decide_eq_false h1,decide_eq_false h2,decide_eq_false h3,zK,zM,if_neg h1,if_neg h2,if_neg h3];rfl
def cut1 (x:UInt8) (s:Bs):Bs × Bs × Bool:=match cutB x s with | some (a,b)=>(a,b,true) | none=>(s,[],false)
theorem zMu (x:UInt8) (s:Bs):zQb x s=.tup [.str (cut1 x s).1,.str (cut1 x s).2.1,.bool (cut1 x s).2.2]:=by unfold zQb cut1;cases cutB x s <;> rfl
theorem zNy (x:UInt8) (s:Bs):(cut1 x s).1.length≤s.length:=by
 unfold cut1
 cases h:cutB x s with
 | none=>exact Nat.le_refl _
 | some p=>obtain ⟨a,b⟩:=p;have:=cutB_len x s a b h;simp only;omega
def zL4 (w:Bs):Option It9:=if (cut1 45 (cut1 63 w).1).2.2=true∧0 < zJy (cut1 45 (cut1 63 w).1).1 then some (zJy (cut1 45 (cut1 63 w).1).1,(cut1 45 (cut1 63 w).1).2.1,(cut1 63 w).2.1) else none
abbrev zQz (c:zD) (f:Nat):Prop:=∀ (s:Bs),s.length≤140737488355328→∀ H τ q,c f [.str s] H τ q=q (.int .i64 (zJy s:Nat)) H τ
theorem l_parse (c:zD) (N:Nat) (hC:RCutOk c) (hB:zQz c zDI) (wd:List Bs) (hwd:wd.length≤100000000001) (hsz:∀ w ∈ wd,w.length≤140737488355328) (v14:V) (B:Nat) :
  ∀ (l pre:List Bs) (acc:List It9) (v3:V) (M:Nat) (H:Heap) (τ:Tape),wd=pre++l→l.length < M→WF H→B≤H.size→(∀ H',Gr B H H'→Rd H' 1 v14 wd.length (wd.map V.str))→OwnN H B 3 v3 acc.length (it9C acc)→acc.length≤pre.length →
  ∃ v3' H' τ',OwnN H' B 3 v3' (acc++l.filterMap zL4).length (it9C (acc++l.filterMap zL4))∧Gr B H H' ∧
   ∀ (fr:T V) k,fr.get 3=some v3→fr.get 14=some v14→fr.get 15=some (.int .i64 (wd.length:Int))→fr.get 16=some (.int .i64 (pre.length:Int)) →
    zW (zBM c N) M ⟨fr,H⟩ τ k=k (.exit 0) ⟨(T.set .leaf 3 v3'),H'⟩ τ':=by
 intro l
 induction l with
 | nil =>
  intro pre acc v3 M H τ he hM hw hBs hr ho hal
  obtain ⟨M,rfl⟩:∃ j,M=j+1:=⟨M - 1,by omega⟩
  have e1:decide ((pre.length:Int) < (wd.length:Int))=false:=decide_eq_false (by rw [he];simp)
  refine ⟨v3,H,τ,by simpa using ho,Gr.refl hw,fun fr k f3 f14 f15 f16=>?_⟩
  rw [zC]
  simp only [zBM,zA f3,zA f14,zA f15,zA f16,zI,e1,zM]
  rfl
 | cons w l ih =>
  intro pre acc v3 M H τ he hM hw hBs hr ho hal
  obtain ⟨M,rfl⟩:∃ j,M=j+1:=⟨M - 1,by omega⟩
  have hlt:pre.length < wd.length:=by rw [he];simp
  have e1:decide ((pre.length:Int) < (wd.length:Int))=true:=decide_eq_true (by omega)
  have hwi:(wd.map V.str)[pre.length]?=some (.str w):=by rw [he];simp
  obtain ⟨p,p1,p2⟩:=(hr H (Gr.refl hw)).elem1 hwi
  have hwl:=hsz w (by rw [he];simp)
  have k1:=fun H τ q=>hC w 63 (by omega) H τ q
  rw [zMu] at k1
  have hl1:=zNy 63 w
  have k2:=fun H τ q=>hC (cut1 63 w).1 45 (by omega) H τ q
  rw [zMu] at k2
  have hl2:=zNy 45 (cut1 63 w).1
  have k3:=fun H τ q=>hB (cut1 45 (cut1 63 w).1).1 (by omega) H τ q
  have x0:∀ a b d:V,zT 0 [.tup [a,b,d]]=some a:=fun _ _ _=>rfl
  have x1:∀ a b d:V,zT 1 [.tup [a,b,d]]=some b:=fun _ _ _=>rfl
  have x2:∀ a b d:V,zT 2 [.tup [a,b,d]]=some d:=fun _ _ _=>rfl
  have e6:wr .i64 ((pre.length:Int)+Int.ofNat 1)=((pre++[w]).length:Int):=by rw [adI (by omega)];simp
  have b63:bs [63]=[63]:=rfl
  have b45:bs [45]=[45]:=rfl
  by_cases hit:(cut1 45 (cut1 63 w).1).2.2=true∧0 < zJy (cut1 45 (cut1 63 w).1).1
  ·have hib:zL4 w=some (zJy (cut1 45 (cut1 63 w).1).1,(cut1 45 (cut1 63 w).1).2.1,(cut1 63 w).2.1):=if_pos hit
   have hgt:decide (Int.ofNat 0 < ((zJy (cut1 45 (cut1 63 w).1).1:Nat):Int))=true:=decide_eq_true (by have:=hit.2;simp;omega)
   generalize hx:(zJy (cut1 45 (cut1 63 w).1).1,(cut1 45 (cut1 63 w).1).2.1,(cut1 63 w).2.1)=x at hib
   have bb:zCq [(.int .i64 (.ofNat 0)),(.str []),(.str [])] [(0,1),(1,1),(2,1)] [.int .i64 ((zJy (cut1 45 (cut1 63 w).1).1:Nat):Int),.str (cut1 45 (cut1 63 w).1).2.1,.str (cut1 63 w).2.1]=some (.agg (it9 x)):=by rw [← hx];rfl
   have b0:zN 1 3 [(.int .i64 (.ofNat 0)),(.str []),(.str [])] [(0,3)] [.agg (it9 x)] H τ=some (.sl H.size 0 1 1 none 3,H.new (it9 x) 3 false,τ):=rfl
   obtain ⟨v',H1,τ1,r1,r2,r3⟩:=ho.1.putN (bytes:=40) hw hBs (it9 x) rfl rfl (by omega) (by omega) τ false
   have hcs:it9C acc++it9 x=it9C (acc++[x]):=by rw [zFB];simp [it9C]
   rw [hcs] at r2
   obtain ⟨v3',H',τ',s1,s2,s3⟩:=ih (pre++[w]) (acc++[x]) v' M H1 τ1 (by rw [he];simp) (by simp at hM;omega) r3.wf (Nat.le_trans hBs r3.size) (fun H2 hg=>hr H2 (r3.trans hg (Nat.le_refl _))) ⟨by simpa using r2,fun h=>by simp at h⟩ (by simp;omega)
   have hfm:acc++(w :: l).filterMap zL4=(acc++[x])++l.filterMap zL4:=by rw [List.filterMap_cons,hib];simp
   refine ⟨v3',H',τ',by rw [hfm];exact s1,r3.trans s2 (Nat.le_refl _),fun fr k f3 f14 f15 f16=>?_⟩
   rw [zC]
   simp only [zBM,zA f3,zA f14,zA f15,zA f16,zI,e1,zO,p1,p2,zK,b63,b45,k1,k2,k3,x0,x1,x2,hit.1,zE5,retK,zZ,zA5,hgt,zg,cond_true,bb,b0,r1,zB9,zJ,↓reduceIte,Nat.reduceEqDiff,zQ,e6]
   exact s3 _ _ (by rfl) (by rfl) (by rfl) (by rfl)
  ·have hib:zL4 w=none:=if_neg hit
   obtain ⟨v3',H',τ',s1,s2,s3⟩:=ih (pre++[w]) acc v3 M H τ (by rw [he];simp) (by simp at hM;omega) hw hBs hr ho (by simp;omega)
   have hfm:acc++(w :: l).filterMap zL4=acc++l.filterMap zL4:=by rw [List.filterMap_cons,hib]
   refine ⟨v3',H',τ',by rw [hfm];exact s1,s2,fun fr k f3 f14 f15 f16=>?_⟩
   rw [zC]
   cases hb:(cut1 45 (cut1 63 w).1).2.2 with
   | false =>
    simp only [zBM,zA f3,zA f14,zA f15,zA f16,zI,e1,zO,p1,p2,zK,b63,b45,k1,k2,k3,x0,x1,x2,hb,zC9,zB4,zg,cond_false,zM,zB9,zJ,↓reduceIte,Nat.reduceEqDiff,zQ,e6]
    exact s3 _ _ (by rfl) (by rfl) (by rfl) (by rfl)
   | true =>
    have hgt:decide (Int.ofNat 0 < ((zJy (cut1 45 (cut1 63 w).1).1:Nat):Int))=false:=decide_eq_false (by have:¬ 0 < zJy (cut1 45 (cut1 63 w).1).1:=fun h=>hit ⟨hb,h⟩;simp;omega)
    simp only [zBM,zA f3,zA f14,zA f15,zA f16,zI,e1,zO,p1,p2,zK,b63,b45,k1,k2,k3,x0,x1,x2,hb,zE5,retK,zZ,zA5,hgt,zg,cond_true,zM,zB9,zJ,↓reduceIte,Nat.reduceEqDiff,zQ,e6]
    exact s3 _ _ (by rfl) (by rfl) (by rfl) (by rfl)
def zCk:Bs:=[9,10,12,13,32]
def zKQ (s:Bs):List Bs:=zAh zCk.contains [] s
def zAm (s:Bs):List It9:=(zKQ s).filterMap zL4
abbrev FldOk (c:zD):Prop:=∀ (s:Bs),s.length≤100000000000→∀ H,WF H→∀ τ,∃ v' H' τ',Gr H.size H H'∧Rd H' 1 v' (zKQ s).length ((zKQ s).map V.str)∧∀ q,c zDm [.str s,.func zAX [] []] H τ q=q v' H' τ'
theorem zMc {p:UInt8→Bool}:∀ (s cur:Bs),∀ w ∈ zAh p cur s,w.length≤cur.length+s.length:=by
 intro s
 induction s with
 | nil =>
  intro cur w hw
  rw [zAh] at hw
  split at hw
  ·simp at hw
  ·simp at hw;subst hw;simp
 | cons x s ih =>
  intro cur w hw
  rw [zAh] at hw
  split at hw
  ·split at hw
   ·have:=ih [] w hw;simp at this ⊢;omega
   ·rcases List.mem_cons.1 hw with rfl | hw
    ·simp
    ·have:=ih [] w hw;simp at this ⊢;omega
  ·have:=ih (cur++[x]) w hw;simp at this ⊢;omega
theorem zMh (c:zD) {N:Nat} (hN:9223372036854775807≤N) (hF:FldOk c) (hC:RCutOk c) (hB:zQz c zDI) (s:Bs) (hs:s.length≤100000000000) (H:Heap) (hw:WF H) (τ:Tape) :
  ∃ v H' τ',OwnN H' H.size 3 v (zAm s).length (it9C (zAm s))∧Gr H.size H H'∧∀ q,zFU c N (.str s) H τ q=q v H' τ':=by
 obtain ⟨v0,H1,τ1,g1,r1,k1⟩:=hF s hs H hw τ
 have hfl:(zKQ s).length≤s.length+1:=zLG s []
 obtain ⟨v3,H',τ',s1,s2,s3⟩:=l_parse c N hC hB (zKQ s) (by omega) (fun w hw=>by have:=zMc s [] w hw;simp at this;omega) v0 H1.size (zKQ s) [] [] .nils N H1 τ1 rfl (by omega) g1.wf (Nat.le_refl _) (fun H' hg=>r1.gr hg g1.wf (Nat.le_refl _)) (OwnN.nil _ _ _) (Nat.le_refl _)
 refine ⟨v3,H',τ',?_,g1.trans s2 g1.size,fun q=>?_⟩
 ·have:OwnN H' H1.size 3 v3 (zAm s).length (it9C (zAm s)):=by simpa [zAm] using s1
  exact ⟨this.1.weaken0 g1.size,this.2⟩
 ·simp only [zFU,k1,r1.pLen,zK]
  rw [s3 _ _ (by rfl) (by rfl) (by rfl) (by rfl)]
  simp only [zP,Nat.beq_refl,cond_true,seqK,zI4,zJ,↓reduceIte]
end Go.Am.X

namespace Go.Am.X
def TestP (c:zD) (fv:V) (f:It9→Bool) (B:Nat) (H0:Heap) (l:List It9):Prop:=∀ x ∈ l,∀ H,Gr B H0 H→∀ τ,∃ H' τ',Gr H.size H H'∧∀ q,opK c .callv [fv,.agg (it9 x)] H τ q=q (.bool (f x)) H' τ'
theorem l_chosen (c:zD) (N:Nat) (f:It9→Bool) (fv:V) (its:List It9) (hil:its.length≤200000000000) (H0:Heap) (hw0:WF H0) (v8:V) (hr:Rd H0 3 v8 its.length (it9C its)) (hf:TestP c fv f H0.size H0 its) :
  ∀ (l pre acc:List It9) (v5:V) (M:Nat) (H:Heap) (τ:Tape),its=pre++l→l.length < M→Gr H0.size H0 H→OwnN H H0.size 3 v5 acc.length (it9C acc)→acc.length≤pre.length →
  ∃ v5' H' τ',OwnN H' H0.size 3 v5' (acc++l.filter f).length (it9C (acc++l.filter f))∧Gr H0.size H H' ∧
   ∀ (fr:T V) k,fr.get 1=some fv→fr.get 5=some v5→fr.get 8=some v8→fr.get 9=some (.int .i64 (its.length:Int))→fr.get 10=some (.int .i64 (pre.length:Int)) →
    zW (zBi c N) M ⟨fr,H⟩ τ k=k (.exit 0) ⟨(T.set .leaf 5 v5'),H'⟩ τ':=by
 intro l
 induction l with
 | nil =>
  intro pre acc v5 M H τ he hM hg ho hal
  obtain ⟨M,rfl⟩:∃ j,M=j+1:=⟨M - 1,by omega⟩
  have e1:decide ((pre.length:Int) < (its.length:Int))=false:=decide_eq_false (by rw [he];simp)
  refine ⟨v5,H,τ,by simpa using ho,Gr.refl hg.wf,fun fr k f1 f5 f8 f9 f10=>?_⟩
  rw [zC]
  simp only [zBi,zA f1,zA f5,zA f8,zA f9,zA f10,zI,e1,zM]
  rfl
 | cons x l ih =>
  intro pre acc v5 M H τ he hM hg ho hal
  obtain ⟨M,rfl⟩:∃ j,M=j+1:=⟨M - 1,by omega⟩
  have hw:=hg.wf
  have hlt:pre.length < its.length:=by rw [he];simp
  have e1:decide ((pre.length:Int) < (its.length:Int))=true:=decide_eq_true (by omega)
  have hrH:=hr.gr hg hw0 (Nat.le_refl _)
  obtain ⟨id,o,p1,p2⟩:=hrH.at (by omega) hlt
  obtain ⟨q1,_⟩:=p2 H _ hrH
  rw [he,it9C_at] at q1
  obtain ⟨H1,H2,a1,a2,a3,a4,a5⟩:=boxN hw 3 [(.int .i64 (.ofNat 0)),(.str []),(.str [])] (it9 x) rfl rfl (by omega) rfl τ
  have l2:zU 3 [.ptr H.size 0] H2=some (.agg (it9 x)):=zAq a3.cells (by simp [it9])
  have hg2:Gr H0.size H0 H2:=hg.trans a4 hg.size
  obtain ⟨H3,τ3,g3,k3⟩:=hf x (by rw [he];simp) H2 hg2 τ
  have g23:Gr H.size H H3:=a4.trans g3 (Nat.le_of_lt a5)
  have a3':=a3.gr g3 a5
  have l3:zU 3 [.ptr H.size 0] H3=some (.agg (it9 x)):=zAq a3'.cells (by simp [it9])
  have ho3:OwnN _ _ _ _ _ _:=⟨ho.1.gr g23 hw (Nat.le_refl _),ho.2⟩
  have e6:wr .i64 ((pre.length:Int)+Int.ofNat 1)=((pre++[x]).length:Int):=by rw [adI (by omega)];simp
  have hB3:H0.size≤H3.size:=Nat.le_trans hg.size g23.size
  cases hfx:f x with
  | true =>
   rw [hfx] at k3
   have b0:zN 1 3 [(.int .i64 (.ofNat 0)),(.str []),(.str [])] [(0,3)] [.agg (it9 x)] H3 τ3=some (.sl H3.size 0 1 1 none 3,H3.new (it9 x) 3 false,τ3):=rfl
   obtain ⟨v',H4,τ4,r1,r2,r3⟩:=ho3.1.putN (bytes:=40) g3.wf hB3 (it9 x) rfl rfl (by omega) (by omega) τ3 false
   have hcs:it9C acc++it9 x=it9C (acc++[x]):=by rw [zFB];simp [it9C]
   rw [hcs] at r2
   have g04:Gr H0.size H H4:=(g23.weaken hg.size).trans r3 (Nat.le_refl _)
   obtain ⟨v5',H',τ',s1,s2,s3⟩:=ih (pre++[x]) (acc++[x]) v' M H4 τ4 (by rw [he];simp) (by simp at hM;omega) (hg.trans g04 (Nat.le_refl _)) ⟨by simpa using r2,fun h=>by simp at h⟩ (by simp;omega)
   have hfm:acc++(x :: l).filter f=(acc++[x])++l.filter f:=by rw [List.filter_cons,hfx];simp
   refine ⟨v5',H',τ',by rw [hfm];exact s1,g04.trans s2 (Nat.le_refl _),fun fr k f1 f5 f8 f9 f10=>?_⟩
   rw [zC]
   simp only [zBi,zA f1,zA f5,zA f8,zA f9,zA f10,zI,e1,zO,p1,q1,zK,a1,a2,zZ,l2,k3,l3,b0,r1,zDQ,zJ,↓reduceIte,Nat.reduceEqDiff,zQ,e6]
   exact s3 _ _ (by rfl) (by rfl) (by rfl) (by rfl) (by rfl)
  | false =>
   rw [hfx] at k3
   have g04:Gr H0.size H H3:=g23.weaken hg.size
   obtain ⟨v5',H',τ',s1,s2,s3⟩:=ih (pre++[x]) acc v5 M H3 τ3 (by rw [he];simp) (by simp at hM;omega) (hg.trans g04 (Nat.le_refl _)) ho3 (by simp;omega)
   have hfm:acc++(x :: l).filter f=acc++l.filter f:=by rw [List.filter_cons,hfx];rfl
   refine ⟨v5',H',τ',by rw [hfm];exact s1,g04.trans s2 (Nat.le_refl _),fun fr k f1 f5 f8 f9 f10=>?_⟩
   rw [zC]
   simp only [zBi,zA f1,zA f5,zA f8,zA f9,zA f10,zI,e1,zO,p1,q1,zK,a1,a2,zZ,l2,k3,zM,zDQ,zJ,↓reduceIte,Nat.reduceEqDiff,zQ,e6]
   exact s3 _ _ (by rfl) (by rfl) (by rfl) (by rfl) (by rfl)
theorem zH0 (c:zD) {N:Nat} (hN:9223372036854775807≤N) (f:It9→Bool) (fv:V) (its:List It9) (hil:its.length≤200000000000) (H:Heap) (hw:WF H) (v:V) (hr:Rd H 3 v its.length (it9C its)) (hf:TestP c fv f H.size H its) (τ:Tape) :
  ∃ v' H' τ',OwnN H' H.size 3 v' (its.filter f).length (it9C (its.filter f))∧Gr H.size H H'∧∀ q,zE4 c N v fv H τ q=q v' H' τ':=by
 obtain ⟨v',H',τ',s1,s2,s3⟩:=l_chosen c N f fv its hil H hw v hr hf its [] [] .nils N H τ rfl (by omega) (Gr.refl hw) (OwnN.nil _ _ _) (Nat.le_refl _)
 refine ⟨v',H',τ',by simpa using s1,s2,fun q=>?_⟩
 simp only [zE4,hr.pLen,zK]
 rw [s3 _ _ (by rfl) (by rfl) (by rfl) (by rfl) (by rfl)]
 simp only [zP,Nat.beq_refl,cond_true,seqK,zIT,zJ,↓reduceIte]
abbrev zPf (c c':zD):Prop:=∀ (f:It9→Bool) (fv:V) (its:List It9),its.length≤200000000000→∀ (H:Heap),WF H→∀ v,Rd H 3 v its.length (it9C its)→TestP c' fv f H.size H its→∀ τ,
 ∃ v' H' τ',OwnN H' H.size 3 v' (its.filter f).length (it9C (its.filter f))∧Gr H.size H H'∧∀ q,c zBw [v,fv] H τ q=q v' H' τ'
theorem zJl (c:zD) (N:Nat) (x:It9) (m most:Nat) (H:Heap) (hw:WF H) (hm:H.cells? m=some [.int .i64 (most:Int)]) (τ:Tape) :
  ∃ H',Gr H.size H H'∧∀ q,zCE c N (.agg (it9 x)) (.ptr m 0) H τ q=q (.bool (decide (x.1=most))) H' τ:=by
 have g:=Gr.new hw (it9 x) 3 true
 have cc:=zBj H (it9 x) 3 true
 have b0:eBox [.agg (it9 x)] H τ=some (.ptr H.size 0,H.new (it9 x) 3 true,τ):=rfl
 refine ⟨_,g,fun q=>?_⟩
 have l0:zF [.ptr H.size 0] (H.new (it9 x) 3 true)=some (.int .i64 (x.1:Int)):=zm cc rfl
 have l1:zF [.ptr m 0] (H.new (it9 x) 3 true)=some (.int .i64 (most:Int)):=zm (g.cells hw (Nat.le_refl _) hm) rfl
 have e:(((x.1:Nat):Int) == (most:Int))=decide (x.1=most):=by
  rw [Bool.eq_iff_iff];simp only [beq_iff_eq,decide_eq_true_eq];omega
 simp only [zCE,b0,zZ,zG,Nat.zero_add,Nat.add_zero,zK,l0,l1,zY,e]
def zHe (l:List It9):Nat:=l.foldl (fun m x=>max m x.1) 0
def zBY (l:List It9):List It9:=l.filter fun x=>decide (x.1=zHe l)
theorem zKl (l:List It9) (x:It9):zHe (l++[x])=max (zHe l) x.1:=by unfold zHe;rw [List.foldl_append];rfl
theorem l_strongest (c:zD) (N:Nat) (its:List It9) (hil:its.length≤200000000000) (H0:Heap) (hw0:WF H0) (v0 v6:V) (hr:Rd H0 3 v6 its.length (it9C its)) (m:Nat) (hm:H0.size≤m) :
  ∀ (l pre:List It9) (M:Nat) (H:Heap) (τ:Tape),its=pre++l→l.length < M→Gr H0.size H0 H→Bx H m [.int .i64 (zHe pre:Int)] →
  ∃ H',Bx H' m [.int .i64 (zHe its:Int)]∧Gr H0.size H H' ∧
   ∀ (fr:T V) k,fr.get 0=some v0→fr.get 3=some (.ptr m 0)→fr.get 6=some v6→fr.get 7=some (.int .i64 (its.length:Int))→fr.get 8=some (.int .i64 (pre.length:Int)) →
    zW (zAj c N) M ⟨fr,H⟩ τ k=k (.exit 0) ⟨(T.set (T.set .leaf 0 v0) 3 (.ptr m 0)),H'⟩ τ:=by
 intro l
 induction l with
 | nil =>
  intro pre M H τ he hM hg hb
  obtain ⟨M,rfl⟩:∃ j,M=j+1:=⟨M - 1,by omega⟩
  rw [List.append_nil] at he
  have e1:decide ((pre.length:Int) < (its.length:Int))=false:=decide_eq_false (by rw [he];omega)
  refine ⟨H,by rw [he];exact hb,Gr.refl hg.wf,fun fr k f0 f3 f6 f7 f8=>?_⟩
  rw [zC]
  simp only [zAj,zA f0,zA f3,zA f6,zA f7,zA f8,zI,e1,zM]
  rfl
 | cons x l ih =>
  intro pre M H τ he hM hg hb
  obtain ⟨M,rfl⟩:∃ j,M=j+1:=⟨M - 1,by omega⟩
  have hw:=hg.wf
  have hlt:pre.length < its.length:=by rw [he];simp
  have e1:decide ((pre.length:Int) < (its.length:Int))=true:=decide_eq_true (by omega)
  have hrH:=hr.gr hg hw0 (Nat.le_refl _)
  obtain ⟨id,o,p1,p2⟩:=hrH.at (by omega) hlt
  obtain ⟨q1,_⟩:=p2 H _ hrH
  rw [he,it9C_at] at q1
  have hmlt:=hb.lt hw
  obtain ⟨H1,H2,a1,a2,a3,a4,a5⟩:=boxN hw 3 [(.int .i64 (.ofNat 0)),(.str []),(.str [])] (it9 x) rfl rfl (by omega) rfl τ
  have hb2:=hb.gr a4 hmlt
  have l2:zF [.ptr H.size 0] H2=some (.int .i64 (x.1:Int)):=zm a3.cells rfl
  have l3:zF [.ptr m 0] H2=some (.int .i64 (zHe pre:Int)):=zm hb2.cells rfl
  obtain ⟨H3,s1,s2,s3⟩:=hb2.eStore a4.wf 0 (.int .i64 (x.1:Int)) 1 rfl (by simp) (by omega) rfl τ
  have s2':Bx H3 m [.int .i64 (x.1:Int)]:=s2
  have e6:wr .i64 ((pre.length:Int)+Int.ofNat 1)=((pre++[x]).length:Int):=by rw [adI (by omega)];simp
  have g02:Gr H0.size H H2:=a4.weaken hg.size
  have g03:Gr H0.size H H3:=g02.trans (s3.gr hm) (Nat.le_refl _)
  by_cases h0:pre.length=0
  ·have hp:pre=[]:=List.length_eq_zero_iff.1 h0
   subst hp
   have e2:(((([]:List It9).length:Nat):Int) == Int.ofNat 0)=true:=rfl
   have hmx:zHe ([]++[x])=x.1:=by rw [zKl];show max 0 x.1=x.1;omega
   obtain ⟨H',r1,r2,r3⟩:=ih ([]++[x]) M H3 τ (by rw [he];simp) (by simp at hM;omega) (hg.trans g03 (Nat.le_refl _)) (by rw [hmx];exact s2')
   refine ⟨H',r1,g03.trans r2 (Nat.le_refl _),fun fr k f0 f3 f6 f7 f8=>?_⟩
   rw [zC]
   simp only [zAj,zA f0,zA f3,zA f6,zA f7,zA f8,zI,e1,zO,p1,q1,zK,a1,a2,zZ,zY,e2,zE3,zB4,zg,cond_true,zG,Nat.zero_add,Nat.add_zero,l2,s1,zA9,zJ,↓reduceIte,Nat.reduceEqDiff,zQ,e6]
   exact r3 _ _ (by rfl) (by rfl) (by rfl) (by rfl) (by rfl)
  ·have e2:(((pre.length:Nat):Int) == Int.ofNat 0)=false:=beq_eq_false_iff_ne.2 (fun h=>h0 (by have:Int.ofNat 0=0:=rfl;omega))
   by_cases hgt:zHe pre < x.1
   ·have e3:decide ((zHe pre:Int) < (x.1:Int))=true:=decide_eq_true (by omega)
    have hmx:zHe (pre++[x])=x.1:=by rw [zKl];omega
    obtain ⟨H',r1,r2,r3⟩:=ih (pre++[x]) M H3 τ (by rw [he];simp) (by simp at hM;omega) (hg.trans g03 (Nat.le_refl _)) (by rw [hmx];exact s2')
    refine ⟨H',r1,g03.trans r2 (Nat.le_refl _),fun fr k f0 f3 f6 f7 f8=>?_⟩
    rw [zC]
    simp only [zAj,zA f0,zA f3,zA f6,zA f7,zA f8,zI,e1,zO,p1,q1,zK,a1,a2,zZ,zY,e2,zIi,retK,zA5,l3,e3,zg,cond_false,zG,Nat.zero_add,Nat.add_zero,l2,s1,zA9,zJ,↓reduceIte,Nat.reduceEqDiff,zQ,e6]
    exact r3 _ _ (by rfl) (by rfl) (by rfl) (by rfl) (by rfl)
   ·have e3:decide ((zHe pre:Int) < (x.1:Int))=false:=decide_eq_false (by omega)
    have hmx:zHe (pre++[x])=zHe pre:=by rw [zKl];omega
    obtain ⟨H',r1,r2,r3⟩:=ih (pre++[x]) M H2 τ (by rw [he];simp) (by simp at hM;omega) (hg.trans g02 (Nat.le_refl _)) (by rw [hmx];exact hb2)
    refine ⟨H',r1,g02.trans r2 (Nat.le_refl _),fun fr k f0 f3 f6 f7 f8=>?_⟩
    rw [zC]
    simp only [zAj,zA f0,zA f3,zA f6,zA f7,zA f8,zI,e1,zO,p1,q1,zK,a1,a2,zZ,zY,e2,zIi,retK,zA5,l3,e3,zg,cond_false,zG,Nat.zero_add,Nat.add_zero,l2,zM,zA9,zJ,↓reduceIte,Nat.reduceEqDiff,zQ,e6]
    exact r3 _ _ (by rfl) (by rfl) (by rfl) (by rfl) (by rfl)
theorem zKe (c c':zD) {N:Nat} (hN:9223372036854775807≤N) (hC:zPf c c') (hT:∀ (x:It9) (m most:Nat) (H:Heap),WF H→H.cells? m=some [.int .i64 (most:Int)]→∀ τ,∃ H',Gr H.size H H'∧∀ q,c' zBD [.agg (it9 x),.ptr m 0] H τ q=q (.bool (decide (x.1=most))) H' τ)
  (its:List It9) (hil:its.length≤200000000000) (H:Heap) (hw:WF H) (v:V) (hr:Rd H 3 v its.length (it9C its)) (τ:Tape) :
  ∃ v' H' τ',OwnN H' H.size 3 v' (zBY its).length (it9C (zBY its))∧Gr H.size H H'∧∀ q,zDM c N v H τ q=q v' H' τ':=by
 obtain ⟨H1,H2,a1,a2,a3,a4,a5⟩:=boxN hw 1 [(.int .i64 (.ofNat 0))] [.int .i64 (0:Int)] rfl rfl (by omega) rfl τ
 have a2':eStore 1 [.ptr H.size 0,.int .i64 (.ofNat 0)] H1 τ=some (.tup [],H2,τ):=a2
 obtain ⟨H3,r1,r2,r3⟩:=l_strongest c N its hil H hw v v hr H.size (Nat.le_refl _) its [] N H2 τ rfl (by omega) a4 a3
 have g3:Gr H.size H H3:=a4.trans r2 (Nat.le_refl _)
 have h3:H.size < H3.size:=r1.lt g3.wf
 obtain ⟨v',H',τ',s1,s2,s3⟩:=hC (fun x=>decide (x.1=zHe its)) (.func zBD [] [.ptr H.size 0]) its hil H3 g3.wf v (hr.gr g3 hw (Nat.le_refl _)) (fun x _ H4 g4 τ4=>by
  obtain ⟨H5,g5,k5⟩:=hT x H.size (zHe its) H4 g4.wf (r1.gr g4 h3).cells τ4
  exact ⟨H5,τ4,g5,fun q=>k5 q⟩) τ
 refine ⟨v',H',τ',⟨s1.1.weaken0 (Nat.le_of_lt h3),s1.2⟩,g3.trans s2 g3.size,fun q=>?_⟩
 simp only [zDM,a1,a2',zZ,hr.pLen,zK]
 rw [r3 _ _ (by rfl) (by rfl) (by rfl) (by rfl) (by rfl)]
 simp only [zP,Nat.beq_refl,cond_true,seqK,zGZ,zJ,↓reduceIte,Nat.reduceEqDiff,zK,List.take_zero,List.drop_zero,s3]
end Go.Am.X

