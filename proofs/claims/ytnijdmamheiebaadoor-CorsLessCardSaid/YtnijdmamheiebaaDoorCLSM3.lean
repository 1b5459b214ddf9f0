/- The abstract machine, printed functions of the program, and what they are shown to be. -/
import Derived.Test.YtnijdmamheiebaaDoorCLSM2
import Derived.LoopN
import Derived.Scope
import Derived.Calls
import Derived.ChangeArms
import Derived.ChangeSame
import Derived.Carry
import Derived.RowKit
import Derived.Test.YtnijdmamheiebaaDoorCLSM0
import Derived.KernelRfl
import Derived.Lib.Bytealg
import Derived.Lib.Join
set_option linter.unusedSimpArgs false
set_option linter.unusedVariables false
namespace Go.Am
open Go.RowKit (Below)
section
variable {P:Program} {w w0:World} {U U0:Inj} {base:Base} {nt:Nat}
variable {ops:Array Oper} {bs:List Nat} {f:Nat} {is:List Ins} {c:zEa} {st0:St} {a0 a:Act} {listed:Array Bool} {pre:List Nat} {p:Nat} {stp:St}
theorem prefix_run {is:List Ins}{i:Nat}{st stf:St}{Z τf:Tape}(h:zo c is st Z=some (stf,τf)):∃ sti τi,zo c (is.take i) st Z=some (sti,τi):=by
 rw[<- List.take_append_drop i is,zC9]at h
 split at h
 ·rename_i sti τi h1;exact⟨sti,τi,h1⟩
 ·cases h
theorem DInv.step (hce:zQS c)(hwb:WFb st0.hp)(hc:zEu P base w0 c)(hD:DFacts P nt ops bs f is)(hI:DInv P base nt w0 c bs is st0 a0 U0 ops.size listed a w U pre p stp)(hF0:FRel U0 st0.hp nt st0.fr a0)
  (hdraw:∀ Z,∃ st' Z' hs ls,zGV c is st0 Z [st0.hp] []=some (st',Z',hs,ls)/\zAZ hs.reverse ls=true) {i:Nat} (hrdy:i ∈ Region.ready .any ops listed) (hfl:i=f->∀ e y,is[e]?=some y->y.op.eff=true->e<f->listed.getD e false=true) (K:Act->World->Prop) (Q:Exit->Act->World->Prop)
  (hK:∀ a' w' U' pre' p' stp',DInv P base nt w0 c bs is st0 a0 U0 ops.size (listed.setIfInBounds i true) a' w' U' pre' p' stp'->(∃ more,pre'=pre++more)->Ext stp.hp U U'->Evol stp.hp stp'.hp->K a' w'):wpOp P ops Q i K a w:=by
 obtain⟨hun,o,ho,hafter⟩:=mem_ready.1 hrdy
 have hisz:i<ops.size:=(Array.getElem?_eq_some_iff.1 ho).1
 have hu:listed.getD i false=false:=by
  have hlt:i<listed.size:=by rw[hI.size];exact hisz
  simp[hlt]at hun ⊢;exact hun
 have hil:i<is.length:=by rw[hD.len];exact hisz
 obtain⟨x,hx⟩:∃ x,is[i]?=some x:=⟨is[i],List.getElem?_eq_getElem hil⟩
 have hb:∀ m,(bs.getD i 0).testBit m=true->listed.getD m false=true:=by
  intro m hm
  obtain⟨e,he,hbind,_,h2⟩:=hD.step i o m ho hm
  have hl:=hafter e (by simpa using he) hbind
  rcases h2 with rfl | h2
  ·exact hl
  ·exact hI.closed e.on m hl h2
 have htot:∀ Z,zo c is st0 Z≠none:=by
  intro Z
  obtain⟨st',Z',hs,ls,h1,_⟩:=hdraw Z
  rw[(zHJ h1).1]
  exact fun e=>by cases e
 have hfull:∀ Z,∃ stf τf sti τi sti' τi',zo c is st0 (Tape.app pre Z)=some (stf,τf)/\zo c (is.take i) st0 (Tape.app pre Z)=some (sti,τi)/\zBM c x sti τi=some (sti',τi'):=by
  intro Z
  cases hf:zo c is st0 (Tape.app pre Z)with
  | none=>exact absurd hf (htot _)
  | some r =>
   obtain⟨stf,τf⟩:=r
   obtain⟨sti,τi,sti',τi',k1,k2,_⟩:=zM3 hx hf
   exact⟨stf,τf,sti,τi,sti',τi',rfl,k1,k2⟩
 obtain⟨hnt,hdst,hguard,xs,hop,hxs⟩:=hD.ins i o x ho hx
 have hate:x.op.eff=true->∃ sti,sti.hp=stp.hp/\∀ Z,zo c (is.take i) st0 (Tape.app pre Z)=some (sti,Z):=by
  intro he
  have hpi:p<=i:=by
   rcases Nat.lt_or_ge i p with h | h
   ·have:=(hI.eff i x hx he).1 h
    rw[hu]at this;cases this
   ·exact h
  have hst:∀ y ∈ (is.take i).drop p,y.op.eff=false:=by
   intro y hy
   obtain⟨j,hj,hjy⟩:=zFU hy
   rw[List.getElem?_take]at hjy
   split at hjy
   ·rename_i hlt
    cases hey:y.op.eff with
    | false=>rfl
    | true =>
     have:listed.getD j false=true:=by
      by_cases ef:i=f
      ·exact hfl ef j y hjy hey (by omega)
      ·exact hb j ((hD.parts i j x y hx hjy (by omega)).2.2 he hey hlt ef)
     have:=(hI.eff j y hjy hey).2 this
     omega
   ·cases hjy
  have hsplit:is.take i=is.take p++(is.take i).drop p:=by
   have:=List.take_append_drop p (is.take i)
   rw[List.take_take,Nat.min_eq_left hpi]at this
   exact this.symm
  have hrun:∀ Z,zo c (is.take i) st0 (Tape.app pre Z)=zo c ((is.take i).drop p) stp Z:=by
   intro Z
   rw[hsplit,zC9,hI.run]
   simp only[<- hsplit]
  obtain⟨_,_,sti,τi,_,_,_,k1,_⟩:=hfull (fun _=>0)
  rw[hrun]at k1
  obtain⟨b1,_,b3⟩:=zMx hst k1
  exact⟨sti,b1,fun Z=>by rw[hrun];exact b3 Z⟩
 have hwants:∀ Z sti τi b,zo c (is.take i) st0 (Tape.app pre Z)=some (sti,τi)->wants sti.fr x.guard=some b->Region.wanted o (yielded ops a.tmps)=b:=by
  intro Z sti τi b hr hw
  have hfr:=hI.frame hD hF0 htot hx hu hb hr
  exact zN6 hfr hguard (by rw[keep_wants];exact hw)
 unfold wpOp
 simp only[ho]
 cases hwant:Region.wanted o (yielded ops a.tmps)with
 | false =>
  simp only[Bool.false_eq_true,if_false]
  have hput:∀ Z sti τi sti' τi',zo c (is.take i) st0 (Tape.app pre Z)=some (sti,τi)->zBM c x sti τi=some (sti',τi')->sti'=⟨put sti.fr x.dst (.tup []),sti.hp⟩/\∀ Z2,zBM c x sti Z2=some (sti',Z2):=by
   intro Z sti τi sti' τi' k1 k2
   have hw:=hwants Z sti τi
   unfold zBM at k2 ⊢
   cases hg:wants sti.fr x.guard with
   | none=>simp only[hg]at k2;cases k2
   | some b =>
    have:=hw b k1 hg
    rw[hwant]at this
    subst this
    simp only[hg,Option.some.injEq,Prod.mk.injEq]at k2 ⊢
    exact⟨k2.1.symm,fun Z2=>⟨k2.1,trivial⟩⟩
  cases he:x.op.eff with
  | false =>
   refine hK _ _ U pre p stp (hI.still hD ho hx hb he undef fun Z sti τi sti' τi' k1 k2 d hd=>?_) ⟨[],by simp⟩ (Ext.refl _ _) (Evol.refl _)
   obtain⟨rfl,_⟩:=hput Z sti τi sti' τi' k1 k2
   exact⟨.tup [],by rw[hd];exact T.get_set_same _ _ _,rfl,trivial⟩
  | true =>
   obtain⟨sti,hhp,hrun⟩:=hate he
   have hI':=hI.effect hD ho hx hu hb he hfl hrun (v:=.tup []) (H':=sti.hp) (U':=U) (pre':=[]) (w':=w) (fun Z=>by
    obtain⟨_,_,sti2,τi,sti',τi',_,k1,k2⟩:=hfull Z
    rw[hrun]at k1
    cases k1
    obtain⟨rfl,h2⟩:=hput Z sti Z sti' τi' (hrun Z) k2
    exact h2 Z) (by rw[hhp];exact hI.mrel) (by rw[hhp];exact hI.glob) (Ext.refl _ _) (by rw[hhp];exact Evol.refl _) trivial
   exact hK _ _ _ _ _ _ hI' ⟨_,rfl⟩ (Ext.refl _ _) (by simp only[hhp];exact Evol.refl _)
 | true =>
  simp only[if_true]
  refine .inl ?_
  have hargs:∀ Z sti τi sti' τi',zo c (is.take i) st0 (Tape.app pre Z)=some (sti,τi)->zBM c x sti τi=some (sti',τi') ->
    ∃ vs,wants sti.fr x.guard=some true/\evOs sti.fr x.args=some vs/\xs.map a.eval=cvl U vs/\VsOk stp.hp vs /\
     ∃ v H Z2,zAq c x.op vs sti.hp τi=some (v,H,Z2)/\sti'=⟨put sti.fr x.dst v,H⟩/\τi'=Z2:=by
   intro Z sti τi sti' τi' k1 k2
   unfold zBM at k2
   cases hg:wants sti.fr x.guard with
   | none=>simp only[hg]at k2;cases k2
   | some b =>
    have:=hwants Z sti τi b k1 hg
    rw[hwant]at this
    subst this
    simp only[hg]at k2
    cases hvs:evOs sti.fr x.args with
    | none=>simp only[hvs]at k2;cases k2
    | some vs =>
     simp only[hvs]at k2
     have hfr:=hI.frame hD hF0 htot hx hu hb k1
     obtain⟨e1,e2⟩:=zPI hfr hI.glob xs x.args vs hxs (by rw[keep_args];exact hvs)
     cases hev:zAq c x.op vs sti.hp τi with
     | none=>simp only[hev]at k2;cases k2
     | some r =>
      obtain⟨v,H,Z2⟩:=r
      simp only[hev,Option.some.injEq,Prod.mk.injEq]at k2
      exact⟨vs,rfl,rfl,e1,e2,v,H,Z2,hev,k2.1.symm,k2.2.symm⟩
  cases he:x.op.eff with
  | true =>
   obtain⟨sti,hhp,hrun⟩:=hate he
   obtain⟨_,_,sti2,τi,sti',τi',_,k1,k2⟩:=hfull (fun _=>0)
   obtain⟨vs,hg,hvs,e1,e2,_⟩:=hargs _ sti2 τi sti' τi' k1 k2
   rw[hrun]at k1
   cases k1
   have hne:∀ Z,zAq c x.op vs (St.mk (T.leaf:T V) stp.hp).hp Z≠none:=by
    intro Z hn
    obtain⟨_,_,sti2,τi,sti',τi',_,k1,k2⟩:=hfull Z
    rw[hrun]at k1
    cases k1
    obtain⟨vs2,_,hvs2,_,_,v,H,Z2,hev,_⟩:=hargs _ _ _ _ _ (hrun Z) k2
    rw[hvs]at hvs2
    cases hvs2
    rw[hhp]at hev
    rw[show(St.mk (T.leaf:T V) stp.hp).hp=stp.hp from rfl,hev]at hn
    cases hn
   refine op_wp c hc (st:=⟨.leaf,stp.hp⟩) (U:=U) ⟨hI.defers,hI.tsize,fun t v h=>by rw[T.get_leaf]at h;cases h⟩ hI.mrel hI.glob hnt hop e1 e2 hne K Q ?_
   intro v H' U' pre' w' h3 _ h4 h5 h6 h7 h8
   exact hK _ _ _ _ _ _ (hI.effect hD ho hx hu hb he hfl hrun (v:=v) (H':=H') (U':=U') (pre':=pre') (w':=w') (fun Z=>by
    unfold zBM
    simp only[hg,hvs,hhp,h3]) h4 h5 h6 h7 h8) ⟨_,rfl⟩ h6 h7
  | false =>
   have hval:∀ Z sti τi sti' τi',zo c (is.take i) st0 (Tape.app pre Z)=some (sti,τi)->zBM c x sti τi=some (sti',τi') ->
     ∃ v,sti'=⟨put sti.fr x.dst v,sti.hp⟩/\(execOp a.eval o).run P w=.ok (.value (cv U v)) w/\VOk stp.hp v:=by
    intro Z sti τi sti' τi' k1 k2
    obtain⟨vs,hg,hvs,e1,e2,v,H,Z2,hev,hst',_⟩:=hargs Z sti τi sti' τi' k1 k2
    have hH:H=sti.hp:=by
     have:=(zMS he k2).1
     rw[hst']at this
     exact this
    subst hH
    refine⟨v,hst',?_⟩
    obtain⟨dst,op,ty,pos,after,guard⟩:=o
    cases hxop:x.op with
    | p po =>
     rw[hxop]at hev hop
     simp only[zAq]at hev
     split at hev
     ·rename_i v' hv'
      cases hev
      exact pop_sound (P:=P) (w:=w) (I:=a.eval) op po xs vs v dst ty pos after guard hop e1 e2 hv'
     ·cases hev
    | l lo =>
     rw[hxop]at hev hop
     simp only[zAq]at hev
     split at hev
     ·rename_i v' hv'
      cases hev
      have hsame:zGU lo vs stp.hp=some v:=by
       obtain⟨stf,τf,hs,ls,hd1,hd2⟩:=hdraw (Tape.app pre Z)
       obtain⟨_,_,_,d4,d5⟩:=zHJ hd1
       have hi1:=d4 i sti τi (by omega) k1
       have hp1:=d4 p stp Z hI.ple (hI.run Z)
       simp only[List.length_nil,Nat.zero_add]at hi1 hp1
       obtain⟨l,h,hb1,hb2⟩:=hD.rng i x lo hx hxop
       have bp:=hb1 p (fun e y hy hey hbit=>(hI.eff e y hy hey).2 (hb e hbit)) (fun e y hy hey hlt=>by
        cases hbit:(bs.getD e 0).testBit i with
        | false=>rfl
        | true =>
         have:=hI.closed e i ((hI.eff e y hy hey).1 hlt) hbit
         rw[hu]at this;cases this)
       have bi:=hb1 i (fun e y hy hey hbit=>hD.lt i e hbit) (fun e y hy hey hlt=>by
        cases hbit:(bs.getD e 0).testBit i with
        | false=>rfl
        | true=>have:=hD.lt e i hbit;omega)
       rcases hb2 with hrng | ⟨_,rfl⟩
       ·have hn:(lo,vs,l,h) ∈ ls:=d5 i x sti τi hx k1 hg _ (by
         unfold noted
         simp only[hrng,hxop,hvs]
         exact List.mem_cons_self)
        rcases zSS hd2 lo vs l h hn with⟨v2,hv2⟩ | ⟨agg,id,off,s,rfl,rfl,hv2⟩
        ·have e3:=hv2 _ _ bi.1 bi.2 hi1
         have e4:=hv2 _ _ bp.1 bp.2 hp1
         rw[hv']at e3
         cases e3
         exact e4
        ·have e3:=hv2 _ _ bi.1 bi.2 hi1
         have e4:=hv2 _ _ bp.1 bp.2 hp1
         rcases Nat.le_total i p with hip | hip
         ·have w1:=(ev_reg hce k1 hwb).1
          have:=(ev_prefix hce hip k1 (hI.run Z) w1).2
          rw[zRb this e3 e4];exact hv'
         ·have w1:=(ev_reg hce (hI.run Z) hwb).1
          have:=(ev_prefix hce hip (hI.run Z) k1 w1).2
          rw[<- zRb this e4 e3];exact hv'
       ·have:effN (is.take p)=effN (is.take i):=by omega
        rw[this,hi1]at hp1
        rw[<- Option.some.inj hp1]
        exact hv'
      exact zQj (P:=P) (I:=a.eval) hI.mrel op lo xs vs v dst ty pos after guard hop e1 hsame
     ·cases hev
    | _=>rw[hxop]at he;simp[AOp.eff]at he
   obtain⟨_,_,sti,τi,sti',τi',_,k1,k2⟩:=hfull (fun _=>0)
   obtain⟨v,hst',hexec,hok⟩:=hval _ sti τi sti' τi' k1 k2
   unfold Oper.wp
   rw[hexec]
   refine hK _ _ U pre p stp (hI.still hD ho hx hb he (cv U v) fun Z sti τi sti' τi' k1 k2 d hd=>?_) ⟨[],by simp⟩ (Ext.refl _ _) (Evol.refl _)
   obtain⟨v2,hst2,hexec2,hok2⟩:=hval Z sti τi sti' τi' k1 k2
   rw[hexec]at hexec2
   refine⟨v2,by rw[hst2,hd];exact T.get_set_same _ _ _,?_,hok2⟩
   injection hexec2 with h1
   injection h1
theorem DInv.done (hD:DFacts P nt ops bs f is)(hI:DInv P base nt w0 c bs is st0 a0 U0 ops.size listed a w U pre p stp)(hF0:FRel U0 st0.hp nt st0.fr a0)(htot:∀ Z,zo c is st0 Z≠none)
  (hall:Region.ready .any ops listed=[]):After P base w0 U0 st0.hp nt (zo c is st0) a w:=by
 have hl:∀ i,i<ops.size->listed.getD i false=true:=by
  intro i
  induction i using Nat.strongRecOn with
  | _ i ih =>
   intro hi
   cases hl:listed.getD i false with
   | true=>rfl
   | false =>
    have:i ∈ Region.ready .any ops listed:=by
     refine mem_ready.2 ⟨?_,ops[i],Array.getElem?_eq_getElem hi,fun e he hb=>?_⟩
     ·have hlt:i<listed.size:=by rw[hI.size];exact hi
      simp[hlt]at hl ⊢;exact hl
     ·have:=hD.edge i ops[i] (Array.getElem?_eq_getElem hi) e (by simpa using he) hb
      exact ih e.on this (by omega)
    rw[hall]at this
    cases this
 have hst:∀ y ∈ is.drop p,y.op.eff=false:=by
  intro y hy
  obtain⟨j,hj,hjy⟩:=zFU hy
  cases hey:y.op.eff with
  | false=>rfl
  | true =>
   have hjs:j<ops.size:=by rw[<- hD.len];exact(List.getElem?_eq_some_iff.1 hjy).1
   have:=(hI.eff j y hjy hey).2 (hl j hjs)
   omega
 have hrun:∀ Z,zo c is st0 (Tape.app pre Z)=zo c (is.drop p) stp Z:=by
  intro Z
  rw[<- List.take_append_drop p is,zC9,hI.run]
  simp
 cases hf:zo c is st0 (Tape.app pre (fun _=>0))with
 | none=>exact absurd hf (htot _)
 | some r =>
  obtain⟨stf,τf⟩:=r
  have hf2:=hf
  rw[hrun]at hf2
  obtain⟨b1,_,b3⟩:=zMx hst hf2
  refine⟨stf,U,pre,fun Z=>by rw[hrun];exact b3 Z,⟨hI.defers,hI.tsize,fun t v hv=>?_⟩,by rw[b1];exact hI.mrel,by rw[b1];exact hI.glob,hI.ext,by rw[b1];exact hI.evol⟩
  rw[b1]
  by_cases hd:∃ (j:Nat) (y:Ins),is[j]?=some y/\y.dst=some t
  ·obtain⟨j,y,hy,hyd⟩:=hd
   have hjs:j<ops.size:=by rw[<- hD.len];exact(List.getElem?_eq_some_iff.1 hy).1
   obtain⟨v',m1,m2,m3⟩:=hI.new _ j y t stf τf hy (hl j hjs) hyd hf
   rw[hv]at m1
   cases m1
   exact⟨m2,m3⟩
  ·have e1:stf.fr.get t=st0.fr.get t:=zKS hf fun y hy hyd=>by
    rw[List.mem_iff_getElem?]at hy
    obtain⟨j,hj⟩:=hy
    exact hd ⟨j,y,hj,hyd⟩
   rw[e1]at hv
   obtain⟨k1,k2⟩:=hF0.get t v hv
   rw[hI.old t fun j y hy _ hyd=>hd ⟨j,y,hy,hyd⟩,zB9 hI.ext v k2]
   exact⟨k1,k2.mono hI.evol⟩
theorem MRel.forget {U1:Inj}{w':World}{H:Heap}{cells:List V}{room:Nat}{pl:Bool}(hM:MRel U base w0 H w)(h1:MRel U1 base w0 (H.new cells room pl) w'):MRel U1 base w0 H w':=by
 have hb:∀ {id b},H.blk.get id=some b->(H.new cells room pl).blk.get id=some b:=fun {id b} h=>by rw[za (by have:=hM.lt _ _ h;omega)];exact h
 have hf:∀ {f x},H.fams.get f=some x->(H.new cells room pl).fams.get f=some x:=fun {f x} h=>by rw[zDL,if_neg (by have:=hM.famlt _ _ h;omega)];exact h
 refine⟨h1.below,h1.base_le,hM.lt,hM.fam,hM.cells,?_,?_,hM.ver,?_,hM.famlt,?_,?_,fun id cs room fam ver wr pl st fr la a b c=>h1.gh _ _ _ _ _ _ _ _ _ _ (hb a) (hf b) c,fun id cs room fam ver wr st fr la a b c d=>h1.plok _ _ _ _ _ _ _ _ _ (hb a) (hf b) c d,hM.plfam,fun id es clk a=>by
   obtain⟨a1,a2,_⟩:=h1.maps id es clk (hb a)
   exact⟨a1,a2,(hM.maps id es clk a).2.2⟩,fun i es c j es' c' a a' e=>h1.msep _ _ _ _ _ _ (hb a) (hb a') e⟩
 ·intro id cs room fam ver wr pl st fr la a b c
  exact h1.ok _ _ _ _ _ _ _ _ _ _ (hb a) (hf b) c
 ·intro i cs room fam ver pl st fr la j cs' room' fam' ver' wr' pl' st' fr' la' a b c a' b' c' e
  exact h1.sep _ _ _ _ _ _ _ _ _ _ _ _ _ _ _ _ _ _ _ (hb a) (hf b) c (hb a') (hf b') c' e
 ·intro id s pos a
  exact h1.iter _ _ _ (hb a)
 ·intro i cs room fam ver wr pl st fr la j cs' room' ver' wr' pl' st' a b c a' c' e l
  exact h1.ends _ _ _ _ _ _ _ _ _ _ _ _ _ _ _ _ _ (hb a) (hf b) c (hb a') c' e l
 ·intro i s p j s' p' a a' e
  exact h1.isep _ _ _ _ _ _ (hb a) (hb a') e
theorem MRel.ghost {H:Heap}(h:MRel U base w0 H w){A:Nat}(hA:A<w.heap.size)
  (hno:∀ id cs room fam ver wr pl st fr la,H.blk.get id=some (.mem cs room fam ver wr pl st)->H.fams.get fam=some (fr,la)->fr<=ver->(U id).1≠A)
  (hit:∀ id s pos,H.blk.get id=some (.iter s pos)->(U id).1≠A) (hmp:∀ id es clk,H.blk.get id=some (.mapb es clk)->(U id).1≠A):MRel U ⟨base.n,A::base.gh⟩ w H w:=by
 refine⟨⟨Below.refl _ _,fun B hB=>?_⟩,h.base_le,h.lt,h.fam,h.cells,h.ok,h.sep,h.ver,?_,h.famlt,h.ends,h.isep,?_,h.plok,h.plfam,fun id es clk hi=>by
  obtain⟨a,b⟩:=h.maps id es clk hi
  refine⟨⟨a.1,fun hm=>?_⟩,b⟩
  rcases List.mem_cons.1 hm with e | hm
  ·exact hmp id es clk hi e
  ·exact a.2 hm,h.msep⟩
 ·rcases List.mem_cons.1 hB with rfl | hB
  ·exact⟨hA,rfl⟩
  ·exact⟨(h.below.gh B hB).1,rfl⟩
 ·intro id s pos hi
  obtain⟨a,b⟩:=h.iter id s pos hi
  refine⟨⟨a.1,fun hm=>?_⟩,b⟩
  rcases List.mem_cons.1 hm with e | hm
  ·exact hit id s pos hi e
  ·exact a.2 hm
 ·intro id cs room fam ver wr pl st fr la a b c hm
  rcases List.mem_cons.1 hm with e | hm
  ·exact hno _ _ _ _ _ _ _ _ _ _ a b c e
  ·exact h.gh _ _ _ _ _ _ _ _ _ _ a b c hm
theorem MRel.adopt {H:Heap}{A off:Nat}{wF:World}(h:MRel U ⟨base.n,A::base.gh⟩ wF H w)(hk:Kpt base w0 wF)(hAn:base.n<=A)(hAg:A ∉ base.gh)(cells:List V)(room:Nat)(pl:Bool){c:Array Value}{el:TypeId}{lo hi:Nat}
  (hblk:wF.heap[A]?=some (.cells c el (lo,hi))) (hvs:VsOk H cells) (hlen:cells.length<=room) (hsz:off+room<=c.size) (hc:∀ (j:Nat) (v:V),cells[j]?=some v->c[off+j]?=some (cv U v)) (hfz:lo=hi∨c.size<=lo) (hpl:pl=true->lo=hi) :
  MRel (upd U H.size (A,off)) base w0 (H.new cells room pl) w:=by
 have hev:=Evol.new h cells room pl
 have hext:=Ext.upd H U (A,off)
 have hheap:w.heap[A]?=some (.cells c el (lo,hi)):=by rw[(h.below.gh A List.mem_cons_self).2];exact hblk
 have part:∀ id cs r fam ver wr p st,(H.new cells room pl).blk.get id=some (.mem cs r fam ver wr p st) ->
   (id=H.size/\cs=cells/\r=room/\fam=H.size/\ver=0/\wr=true)∨(id<H.size/\fam<H.size/\H.blk.get id=some (.mem cs r fam ver wr p st)):=by
  intro id cs r fam ver wr p st hg
  by_cases e:id=H.size
  ·subst e
   rw[zb]at hg
   injection hg with hg
   injection hg with h1 h2 h3 h4 h5 h6 h7
   exact .inl ⟨rfl,h1.symm,h2.symm,h3.symm,h4.symm,h5.symm⟩
  ·rw[za e]at hg
   exact .inr ⟨h.lt _ _ hg,(h.fam _ _ _ _ _ _ _ _ hg).1,hg⟩
 have famOld:∀ f,f<H.size->(H.new cells room pl).fams.get f=H.fams.get f:=fun f hf=>by rw[zDL,if_neg (by omega)]
 have oldBlk:∀ id cs r fam ver wr p st fr la,H.blk.get id=some (.mem cs r fam ver wr p st)->H.fams.get fam=some (fr,la)->fr<=ver->(U id).1≠A :=
  fun id cs r fam ver wr p st fr la h1 h2 h3 e=>h.gh id cs r fam ver wr p st fr la h1 h2 h3 (by rw[e];exact List.mem_cons_self)
 refine⟨⟨hk.low.trans h.below.low,fun B hB=>?_⟩,h.base_le,?_,?_,?_,?_,?_,?_,?_,?_,?_,?_,?_,?_,?_,?_,?_⟩
 ·obtain⟨b1,b2⟩:=h.below.gh B (List.mem_cons_of_mem _ hB)
  exact⟨b1,b2.trans (hk.gh B hB).2⟩
 ·intro id b hg
  by_cases e:id=H.size
  ·subst e;exact Nat.lt_succ_self _
  ·rw[za e]at hg;exact Nat.lt_succ_of_lt (h.lt _ _ hg)
 ·intro id cs r fam ver wr p st hg
  rcases part _ _ _ _ _ _ _ _ hg with⟨rfl,_,_,rfl,rfl,_⟩ | ⟨_,hf,hg⟩
  ·exact⟨Nat.lt_succ_self _,0,0,by rw[zDL,if_pos rfl],Nat.le_refl _⟩
  ·obtain⟨_,fr,la,h1,h2⟩:=h.fam _ _ _ _ _ _ _ _ hg
   exact⟨Nat.lt_succ_of_lt hf,fr,la,by rw[famOld _ hf];exact h1,h2⟩
 ·intro id cs r fam ver wr p st hg
  rcases part _ _ _ _ _ _ _ _ hg with⟨rfl,rfl,rfl,_⟩ | ⟨_,_,hg⟩
  ·exact⟨hlen,hvs.mono hev⟩
  ·obtain⟨h1,h2⟩:=h.cells _ _ _ _ _ _ _ _ hg
   exact⟨h1,h2.mono hev⟩
 ·intro id cs r fam ver wr p st fr la hg hf hv
  rcases part _ _ _ _ _ _ _ _ hg with⟨rfl,rfl,rfl,_,_,rfl⟩ | ⟨hid,hf',hg⟩
  ·refine⟨c,el,lo,hi,by rw[upd_same];exact hheap,by rw[upd_same];exact hsz,fun j v hv=>?_,fun _=>?_⟩
   ·rw[upd_same,zB9 hext v ((zw H cs).1 hvs v (List.mem_of_getElem? hv))]
    exact hc j v hv
   ·rw[upd_same];exact⟨hAn,hfz⟩
  ·rw[famOld _ hf']at hf
   have hk:=h.ok _ _ _ _ _ _ _ _ _ _ hg hf hv
   exact hk.keep (H:=H) rfl (upd_ne U _ (by omega)) hext (h.cells _ _ _ _ _ _ _ _ hg).2
 ·intro i cs r fam ver p st fr la j cs' r' fam' ver' wr' p' st' fr' la' hi hfi hvi hj hfj hvj he
  rcases part _ _ _ _ _ _ _ _ hi with⟨rfl,_,_,rfl,_⟩ | ⟨hid,hf,hi⟩
  ·rcases part _ _ _ _ _ _ _ _ hj with⟨rfl,_,_,rfl,_⟩ | ⟨hjd,hf',hj⟩
   ·rfl
   ·rw[famOld _ hf']at hfj
    have:=oldBlk _ _ _ _ _ _ _ _ _ _ hj hfj hvj
    rw[upd_same,upd_ne U _ (by omega)]at he
    exact absurd he.symm this
  ·rw[famOld _ hf]at hfi
   rcases part _ _ _ _ _ _ _ _ hj with⟨rfl,_,_,rfl,_⟩ | ⟨hjd,hf',hj⟩
   ·have:=oldBlk _ _ _ _ _ _ _ _ _ _ hi hfi hvi
    rw[upd_same,upd_ne U _ (by omega)]at he
    exact absurd he this
   ·rw[famOld _ hf']at hfj
    rw[upd_ne U _ (by omega),upd_ne U _ (by omega)]at he
    exact h.sep _ _ _ _ _ _ _ _ _ _ _ _ _ _ _ _ _ _ _ hi hfi hvi hj hfj hvj he
 ·intro i cs r fam ver wr p st j cs' r' wr' p' st' hi hj
  rcases part _ _ _ _ _ _ _ _ hi with⟨rfl,_,_,rfl,_⟩ | ⟨hid,hf,hi⟩
  ·rcases part _ _ _ _ _ _ _ _ hj with⟨rfl,_⟩ | ⟨_,hf',_⟩
   ·rfl
   ·omega
  ·rcases part _ _ _ _ _ _ _ _ hj with⟨_,_,_,rfl,_⟩ | ⟨_,_,hj⟩
   ·omega
   ·exact h.ver _ _ _ _ _ _ _ _ _ _ _ _ _ _ hi hj
 ·intro id s pos hg
  by_cases e:id=H.size
  ·subst e;rw[zb]at hg;cases hg
  ·rw[za e]at hg
   obtain⟨ha,hz,hb⟩:=h.iter _ _ _ hg
   rw[upd_ne U _ e]
   exact⟨⟨ha.1,fun hm=>ha.2 (List.mem_cons_of_mem _ hm)⟩,hz,hb⟩
 ·intro f x hg
  rw[zDL]at hg
  by_cases e:H.size=f
  ·subst e;exact Nat.lt_succ_self _
  ·rw[if_neg e]at hg;exact Nat.lt_succ_of_lt (h.famlt _ _ hg)
 ·intro i cs r fam ver wr p st fr la j cs' r' ver' wr' p' st' hi hf hvi hj hvj he hle
  rcases part _ _ _ _ _ _ _ _ hi with⟨rfl,rfl,_,rfl,_⟩ | ⟨hid,hf',hi⟩
  ·rcases part _ _ _ _ _ _ _ _ hj with⟨rfl,rfl,_⟩ | ⟨_,hf'',_⟩
   ·exact Nat.le_refl _
   ·omega
  ·rcases part _ _ _ _ _ _ _ _ hj with⟨_,_,_,rfl,_⟩ | ⟨hjd,_,hj⟩
   ·omega
   ·rw[famOld _ hf']at hf
    rw[upd_ne U _ (by omega),upd_ne U _ (by omega)]at he ⊢
    exact h.ends _ _ _ _ _ _ _ _ _ _ _ _ _ _ _ _ _ hi hf hvi hj hvj he hle
 ·intro i s p j s' p' hi hj he
  have hi':i≠H.size:=fun e=>by subst e;rw[zb]at hi;cases hi
  have hj':j≠H.size:=fun e=>by subst e;rw[zb]at hj;cases hj
  rw[za hi']at hi
  rw[za hj']at hj
  rw[upd_ne U _ hi',upd_ne U _ hj']at he
  exact h.isep _ _ _ _ _ _ hi hj he
 ·intro id cs r fam ver wr p st fr la hg hf hv
  rcases part _ _ _ _ _ _ _ _ hg with⟨rfl,_⟩ | ⟨hid,hf',hg⟩
  ·rw[upd_same];exact hAg
  ·rw[famOld _ hf']at hf
   rw[upd_ne U _ (by omega)]
   exact fun hm=>h.gh _ _ _ _ _ _ _ _ _ _ hg hf hv (List.mem_cons_of_mem _ hm)
 ·intro id cs r fam ver wr st fr la hg hf hv hw
  by_cases e:id=H.size
  ·subst e
   rw[zb]at hg
   injection hg with hg
   injection hg with _ _ _ _ _ e6 _
   rw[upd_same]
   exact⟨c,el,lo,by rw[hheap,hpl e6]⟩
  ·rw[za e]at hg
   rw[famOld _ (h.fam _ _ _ _ _ _ _ _ hg).1]at hf
   rw[upd_ne U _ e]
   exact h.plok _ _ _ _ _ _ _ _ _ hg hf hv hw
 ·intro i cs r fam ver wr p st j cs' r' ver' wr' p' st' hi hj
  by_cases ei:i=H.size
  ·subst ei
   rw[zb]at hi
   injection hi with hi
   injection hi with _ _ e3 _ _ e6 _
   by_cases ej:j=H.size
   ·subst ej
    rw[zb]at hj
    injection hj with hj
    injection hj with _ _ _ _ _ e6' _
    rw[<- e6,<- e6']
   ·rw[za ej]at hj
    have:=(h.fam _ _ _ _ _ _ _ _ hj).1
    omega
  ·rw[za ei]at hi
   by_cases ej:j=H.size
   ·subst ej
    rw[zb]at hj
    injection hj with hj
    injection hj with _ _ e3 _ _ _ _
    have:=(h.fam _ _ _ _ _ _ _ _ hi).1
    omega
   ·rw[za ej]at hj
    exact h.plfam _ _ _ _ _ _ _ _ _ _ _ _ _ _ _ hi hj
 ·intro id es clk hg
  by_cases e:id=H.size
  ·subst e;rw[zb]at hg;cases hg
  ·rw[za e]at hg
   obtain⟨a,⟨ents,clock,b,k⟩,d⟩:=h.maps _ _ _ hg
   rw[upd_ne U _ e]
   exact⟨⟨a.1,fun hm=>a.2 (List.mem_cons_of_mem _ hm)⟩,⟨ents,clock,b,k.ext (H:=H) hext d⟩,fun p hp=>(d p hp).mono hev⟩
 ·intro i es c1 j es' c2 hi hj he
  have hi':i≠H.size:=fun e=>by subst e;rw[zb]at hi;cases hi
  have hj':j≠H.size:=fun e=>by subst e;rw[zb]at hj;cases hj
  rw[za hi']at hi
  rw[za hj']at hj
  rw[upd_ne U _ hi',upd_ne U _ hj']at he
  exact h.msep _ _ _ _ _ _ hi hj he
def addrV:Value->Option (Nat × Nat)
 | .pointer (some a)=>some (a.block,a.off)
 | .slice (some a) _ _=>some (a.block,a.off)
 | _=>none
structure FloatF (c:zEa) (op:AOp) (vs:List V) (pre:List Nat) (cells:List V) (room:Nat) (pl:Bool) (mk:Nat->V):Prop where
 run:∀ H Z,zAq c op vs H (Tape.app pre Z)=some (mk H.size,H.new cells room pl,Z)
 same:∀ (U U':Inj) n n',U n=U' n'->cv U (mk n)=cv U' (mk n')
 addr:∀ (U:Inj) n,addrV (cv U (mk n))=some (U n)
 ok:∀ H:Heap,VOk (H.new cells room pl) (mk H.size)
 cellsOk:∀ H:Heap,VsOk H vs->VsOk H cells
theorem VOk.cells {H:Heap}{v:V}(h:VOk H v):VsOk H v.cells:=by
 cases v <;> first | exact h | exact⟨h,trivial⟩
theorem noId_ok {H:Heap}:∀ {z:List V},z.all noId=true->VsOk H z:=by
 intro z h
 rw[zw]
 intro v hv
 have:=List.all_eq_true.1 h v hv
 cases v <;> first | trivial | (simp[noId]at this)
theorem float_form {c:zEa}{op:AOp}(hop:zH5 op=true){vs:List V}{H:Heap}{pre:List Nat}{v:V}{H':Heap}(h:∀ Z,zAq c op vs H (Tape.app pre Z)=some (v,H',Z)) :
  ∃ cells room pl mk,v=mk H.size/\H'=H.new cells room pl/\FloatF c op vs pre cells room pl mk:=by
 cases op with
 | e o =>
  cases o with
  | alloc zero =>
   simp only[zAq,zAi,zBV]at h
   cases vs with
   | cons a l=>have:=h (fun _=>0);simp at this
   | nil =>
    have h0:=h (fun _=>0)
    simp only[Option.some.injEq,Prod.mk.injEq]at h0
    obtain⟨rfl,rfl,_⟩:=h0
    refine⟨zero,zero.length,true,fun n=>.ptr n 0,rfl,rfl,fun H2 Z=>?_,fun U U' n n' e=>by simp only[cv,e],fun U n=>by simp only[cv,addrV,Nat.add_zero],fun H2=>?_,fun H2 _=>noId_ok hop⟩
    ·have:=h Z
     simp only[Option.some.injEq,Prod.mk.injEq]at this
     simp only[zAq,zAi,zBV,this.2.2]
    ·exact Nat.lt_succ_self _
  | box =>
   simp only[zAq,zAi,eBox]at h
   match vs,h with
   | [],h=>have:=h (fun _=>0);simp at this
   | [x],h =>
    have h0:=h (fun _=>0)
    simp only[Option.some.injEq,Prod.mk.injEq]at h0
    obtain⟨rfl,rfl,_⟩:=h0
    refine⟨x.cells,x.cells.length,true,fun n=>.ptr n 0,rfl,rfl,fun H2 Z=>?_,fun U U' n n' e=>by simp only[cv,e],fun U n=>by simp only[cv,addrV,Nat.add_zero],fun H2=>?_,fun H2 hv=>VOk.cells hv.1⟩
    ·have:=h Z
     simp only[Option.some.injEq,Prod.mk.injEq]at this
     simp only[zAq,zAi,eBox,this.2.2]
    ·exact Nat.lt_succ_self _
   | _::_::_,h=>have:=h (fun _=>0);simp at this
  | buildSlice len z zero ps =>
   simp only[zAq,zAi,zZ]at h
   cases hf:zM7 zero ps vs with
   | none=>have:=h (fun _=>0);simp[hf]at this
   | some cs =>
    simp only[hf]at h
    have h0:=h (fun _=>0)
    simp only[Option.some.injEq,Prod.mk.injEq]at h0
    obtain⟨rfl,rfl,_⟩:=h0
    refine⟨cs,len*z,false,fun n=>.sl n 0 len len none z,rfl,rfl,fun H2 Z=>?_,fun U U' n n' e=>by simp only[cv,e],fun U n=>by simp only[cv,addrV,Nat.add_zero],fun H2=>?_,fun H2 hv=>(zSF ps zero vs cs (noId_ok hop) hv hf).1⟩
    ·have:=h Z
     simp only[Option.some.injEq,Prod.mk.injEq]at this
     simp only[zAq,zAi,zZ,hf,this.2.2]
    ·exact⟨Nat.lt_succ_self _,by simp,fun e=>by cases e⟩
  | makeSlice z bytes zero =>
   simp only[zAq,zAi]at h
   have hms:∃ k1 l0 k2 c0 l c,vs=[.int k1 l0,.int k2 c0]/\zNC l0=some l/\zNC c0=some c/\(Nat.ble l c && (Nat.ble (c*bytes) 140737488355328 && Nat.ble c 140737488355328))=true:=by
    have h0:=h (fun _=>0)
    unfold zFL at h0
    split at h0
    ·rename_i k1 l0 k2 c0
     split at h0
     ·rename_i l c e1 e2
      cases hb:(Nat.ble l c && (Nat.ble (c*bytes) 140737488355328 && Nat.ble c 140737488355328))with
      | true=>exact⟨k1,l0,k2,c0,l,c,rfl,e1,e2,hb⟩
      | false=>rw[hb]at h0;cases h0
     ·cases h0
    ·cases h0
   obtain⟨k1,l0,k2,c0,l,c',rfl,e1,e2,hb⟩:=hms
   simp only[zFL,e1,e2,hb,cond_true]at h
   have h0:=h (fun _=>0)
   simp only[Option.some.injEq,Prod.mk.injEq]at h0
   obtain⟨rfl,rfl,_⟩:=h0
   refine⟨repl c' zero,c' * z,false,fun n=>.sl n 0 l c' none z,rfl,rfl,fun H2 Z=>?_,fun U U' n n' e=>by simp only[cv,e],fun U n=>by simp only[cv,addrV,Nat.add_zero],fun H2=>?_,fun H2 hv=>zSP c' (noId_ok hop)⟩
   ·have:=h Z
    simp only[Option.some.injEq,Prod.mk.injEq]at this
    simp only[zAq,zAi,zFL,e1,e2,hb,cond_true,this.2.2]
   ·have hle:l<=c':=Nat.le_of_ble_eq_true ((Bool.and_eq_true _ _).mp hb).1
    exact⟨Nat.lt_succ_self _,by simpa using hle,fun e=>by cases e⟩
  | strBytes =>
   simp only[zAq,zAi,zBU]at h
   match vs,h with
   | [.str s],h =>
    cases hn:Nat.ble s.length 140737488355328 with
    | false=>have:=h (fun _=>0);simp[hn]at this
    | true =>
     have hn':=Nat.le_of_ble_eq_true hn
     simp only[hn,cond_true,fresh]at h
     have hpre:∃ t l,pre=t::l:=by
      cases pre with
      | cons t l=>exact⟨t,l,rfl⟩
      | nil =>
       exfalso
       have:=h (fun k=>k)
       simp only[Tape.app,Option.some.injEq,Prod.mk.injEq]at this
       have:=congrFun this.2.2 0
       simp[Tape.tail]at this
     obtain⟨t,l,rfl⟩:=hpre
     have h0:=h (fun _=>0)
     simp only[Tape.app,Tape.head_cons,Option.some.injEq,Prod.mk.injEq]at h0
     obtain⟨rfl,rfl,_⟩:=h0
     refine⟨s.map fun c=>.int .u8 (.ofNat c.toNat),(s.length+spare s.length t)*1,false,fun n=>.sl n 0 s.length s.length (some (spare s.length t)) 1,rfl,rfl,fun H2 Z=>?_,fun U U' n n' e=>by simp only[cv,e],fun U n=>by simp only[cv,addrV,Nat.add_zero],fun H2=>?_,fun H2 _=>by
      rw[zw];intro v hv;obtain⟨c,_,rfl⟩:=List.mem_map.1 hv;trivial⟩
     ·have:=h Z
      simp only[Tape.app,Tape.head_cons,Option.some.injEq,Prod.mk.injEq]at this
      simp only[zAq,zAi,zBU,hn,cond_true,fresh,Tape.app,Tape.head_cons,this.2.2]
     ·have hlt:spare s.length t<9223372036854775808-s.length:=Nat.mod_lt _ (by omega)
      refine⟨Nat.lt_succ_self _,by simp,fun _=>⟨?_,by simp only[Option.getD_some];omega⟩⟩
      have hr:(H2.new (s.map fun c=>V.int .u8 (.ofNat c.toNat)) ((s.length+spare s.length t)*1) false).room? H2.size=(s.length+spare s.length t)*1:=by simp only[Heap.room?,zb]
      rw[hr];simp
   | [],h=>have:=h (fun _=>0);simp at this
   | .str _::_::_,h=>have:=h (fun _=>0);simp at this
   | .bool _::_,h=>have:=h (fun _=>0);simp at this
   | .int _ _::_,h=>have:=h (fun _=>0);simp at this
   | .ptr _ _::_,h=>have:=h (fun _=>0);simp at this
   | .nilp::_,h=>have:=h (fun _=>0);simp at this
   | .sl _ _ _ _ _ _::_,h=>have:=h (fun _=>0);simp at this
   | .nils::_,h=>have:=h (fun _=>0);simp at this
   | .map _::_,h=>have:=h (fun _=>0);simp at this
   | .nilm::_,h=>have:=h (fun _=>0);simp at this
   | .func _ _ _::_,h=>have:=h (fun _=>0);simp at this
   | .nilf::_,h=>have:=h (fun _=>0);simp at this
   | .iface _ _::_,h=>have:=h (fun _=>0);simp at this
   | .nili::_,h=>have:=h (fun _=>0);simp at this
   | .agg _::_,h=>have:=h (fun _=>0);simp at this
   | .tup _::_,h=>have:=h (fun _=>0);simp at this
  | _=>simp[zH5]at hop
 | _=>simp[zH5]at hop
theorem float_none {c:zEa}{eo:EOp}(hop:zH5 (.e eo)=true){vs:List V}{H H':Heap}{Z Z':Tape}(h:zAi eo vs H Z=none):zAq c (.e eo) vs H' Z'=none:=by
 cases eo with
 | alloc zero=>cases vs with
  | nil=>simp[zAi,zBV]at h
  | cons a l=>rfl
 | box=>match vs,h with
  | [],_=>rfl
  | [x],h=>simp[zAi,eBox]at h
  | _::_::_,_=>rfl
 | buildSlice len z zero ps =>
  simp only[zAi,zZ]at h
  simp only[zAq,zAi,zZ]
  cases hf:zM7 zero ps vs with
  | none=>rfl
  | some cs=>simp[hf]at h
 | makeSlice z bytes zero =>
  simp only[zAi]at h
  simp only[zAq,zAi]
  unfold zFL at *
  split
  ·split
   ·rename_i l0 k2 c0 l c' e1 e2
    simp only[e1,e2]at h
    cases hb:(Nat.ble l c' && (Nat.ble (c' * bytes) 140737488355328 && Nat.ble c' 140737488355328))with
    | true=>rw[hb]at h;cases h
    | false=>rfl
   ·rfl
  ·rfl
 | strBytes =>
  simp only[zAi]at h
  simp only[zAq,zAi]
  unfold zBU at *
  split
  ·rename_i s
   simp only at h
   cases hb:Nat.ble s.length 140737488355328 with
   | true=>rw[hb]at h;cases h
   | false=>rfl
  ·rfl
 | _=>simp[zH5]at hop
def LaidF (c:zEa)(x:Ins)(sti:St)(H:Heap)(U:Inj)(u:Value)(A:Nat)(wF:World):Prop :=
 ∃ vs pre cells room pl mk cs el lo hi off,evOs sti.fr x.args=some vs/\FloatF c x.op vs pre cells room pl mk/\VsOk H cells/\cells.length<=room/\wF.heap[A]?=some (.cells cs el (lo,hi))/\off+room<=cs.size /\
  (∀ (j:Nat) v,cells[j]?=some v->cs[off+j]?=some (cv U v))/\(lo=hi∨cs.size<=lo)/\(∀ (U2:Inj) n,U2 n=(A,off)->u=cv U2 (mk n))/\(pl=true->lo=hi)
theorem LaidF.mono {x:Ins}{sti:St}{H H':Heap}{U U':Inj}{u:Value}{A:Nat}{wF:World}(h:LaidF c x sti H U u A wF)(he:Ext H U U')(hv:Evol H H'):LaidF c x sti H' U' u A wF:=by
 obtain⟨vs,pre,cells,room,pl,mk,cs,el,lo,hi,off,h1,h2,h3,h4,h5,h6,h7,h8,h9,h10⟩:=h
 refine⟨vs,pre,cells,room,pl,mk,cs,el,lo,hi,off,h1,h2,h3.mono hv,h4,h5,h6,fun j v hj=>?_,h8,h9,h10⟩
 rw[zB9 he v ((zw H cells).1 h3 v (List.mem_of_getElem? hj))]
 exact h7 j v hj
structure EInv (P:Program) (base:Base) (nt:Nat) (w0:World) (c:zEa) (ops:Array Oper) (bs:List Nat) (f:Nat) (is:List Ins) (st0:St) (a0:Act) (U0:Inj) (listed:Array Bool) (a:Act) (w:World) (U:Inj) (pre:List Nat) (p:Nat) (stp:St)
  (x:Ins) (o:Oper) (a1:Act) (listed1:Array Bool) (u:Value) (A:Nat) (wF:World):Prop where
 hx:is[f]?=some x
 ho:ops[f]?=some o
 he:x.op.eff=true
 lst:listed=listed1.setIfInBounds f true
 act:a=a1.put o.dst u
 inv:DInv P ⟨base.n,A::base.gh⟩ nt wF c bs is st0 a0 U0 ops.size listed1 a1 w U pre p stp
 hu:listed1.getD f false=false
 hb:∀ m,(bs.getD f 0).testBit m=true->listed1.getD m false=true
 kpt:Kpt base w0 wF
 an:base.n<=A
 ag:A ∉ base.gh
 laid:∀ Z sti τi,zo c (is.take f) st0 (Tape.app pre Z)=some (sti,τi)->LaidF c x sti stp.hp U u A wF
theorem EInv.done (hD:DFacts P nt ops bs f is)(htot:∀ Z,zo c is st0 Z≠none){x:Ins}{o:Oper}{a1:Act}{listed1:Array Bool}{u:Value}{A:Nat}{wF:World}
  (h:EInv P base nt w0 c ops bs f is st0 a0 U0 listed a w U pre p stp x o a1 listed1 u A wF) (hall:∀ e y,is[e]?=some y->y.op.eff=true->e<f->listed1.getD e false=true) :
  ∃ U' pre' p' stp',DInv P base nt w0 c bs is st0 a0 U0 ops.size listed a w U' pre' p' stp':=by
 have hI:=h.inv
 have hx:=h.hx
 have hil:f<is.length:=(List.getElem?_eq_some_iff.1 hx).1
 have hpi:p<=f:=by
  rcases Nat.lt_or_ge f p with hlt | hge
  ·have:=(hI.eff f x hx h.he).1 hlt
   rw[h.hu]at this;cases this
  ·exact hge
 have hst:∀ y ∈ (is.take f).drop p,y.op.eff=false:=by
  intro y hy
  obtain⟨j,hj,hjy⟩:=zFU hy
  rw[List.getElem?_take]at hjy
  split at hjy
  ·rename_i hlt
   cases hey:y.op.eff with
   | false=>rfl
   | true =>
    have:=(hI.eff j y hjy hey).2 (hall j y hjy hey hlt)
    omega
  ·cases hjy
 have hsplit:is.take f=is.take p++(is.take f).drop p:=by
  have:=List.take_append_drop p (is.take f)
  rw[List.take_take,Nat.min_eq_left hpi]at this
  exact this.symm
 have hrun:∀ Z,zo c (is.take f) st0 (Tape.app pre Z)=zo c ((is.take f).drop p) stp Z:=by
  intro Z
  rw[hsplit,zC9,hI.run]
  simp only[<- hsplit]
 obtain⟨sti,hhp,hsti⟩:∃ sti,sti.hp=stp.hp/\∀ Z,zo c (is.take f) st0 (Tape.app pre Z)=some (sti,Z):=by
  cases hf:zo c is st0 (Tape.app pre fun _=>0)with
  | none=>exact absurd hf (htot _)
  | some r =>
   obtain⟨sti,τi,_,_,k1,_⟩:=zM3 hx hf
   rw[hrun]at k1
   obtain⟨b1,_,b3⟩:=zMx hst k1
   exact⟨sti,b1,fun Z=>by rw[hrun];exact b3 Z⟩
 obtain⟨vs,preF,cells,room,pl,mk,cs,el,lo,hi,off,h1,h2,h3,h4,h5,h6,h7,h8,h9,h10⟩:=h.laid (fun _=>0) sti _ (hsti _)
 have hM:=hI.mrel.adopt h.kpt h.an h.ag cells room pl h5 h3 h4 h6 h7 h8 h10
 have hg:=(hD.float x o hx h.ho).1
 have hext:=Ext.upd stp.hp U (A,off)
 have hev:=Evol.new hI.mrel cells room pl
 have hu2:u=cv (upd U stp.hp.size (A,off)) (mk stp.hp.size):=h9 _ _ (upd_same _ _ _)
 have:=hI.effect hD h.ho hx h.hu h.hb h.he (fun _=>hall) hsti (v:=mk stp.hp.size) (H':=stp.hp.new cells room pl) (U':=upd U stp.hp.size (A,off)) (pre':=preF) (w':=w) (fun Z=>by
  unfold zBM
  simp only[hg,wants,h1,hhp,h2.run]) hM (hI.glob.step hext hev) hext hev (h2.ok _)
 rw[<- hu2]at this
 rw[h.lst,h.act]
 exact⟨_,_,_,_,this⟩
theorem wpOp_put2 {j:Nat}{oj:Oper}{dst:Option Tmp}{v:Value}(hj:ops[j]?=some oj)(h1:∀ d,dst=some d->d ∉ oj.looksAt ops)(h2:∀ d,dst=some d->oj.dst≠some d)(hsj:∀ cs b,oj.op≠.select cs b)
  {Q:Exit->Act->World->Prop} {K:Act->World->Prop} {a:Act} {w:World} (h:wpOp P ops (fun _ _ _=>False) j (fun a' w'=>K (a'.put dst v) w') a w):wpOp P ops Q j K (a.put dst v) w:=by
 unfold wpOp at *
 simp only[hj]at *
 rw[wanted_put oj a dst v h1]
 split
 ·rename_i hw
  simp only[hw,if_true]at h
  rcases h with h | ⟨hasks,hlets⟩
  case inr=>exact absurd hlets (fun⟨_,_,h⟩=>h)
  refine .inl ?_
  unfold Oper.wp at *
  rw[execOp_put oj hsj a dst v h1]
  generalize (execOp a.eval oj).run P w=r at *
  cases r with
  | ok n w' =>
   cases n <;> simp only[Oper.upon]at h ⊢
   case value u=>rw[Act.put_comm a v u h2];exact h
   case skip=>rw[Act.put_comm a v undef h2];exact h
   case defer d =>
    have e:({ a.put dst v with defers:=d::(a.put dst v).defers }:Act)=({ a with defers:=d::a.defers }:Act).put dst v:=Act.put_defers a dst v d
    rw[e,Act.put_comm _ v undef h2]
    exact h
   case enter f args =>
    refine Calls.mono h fun e w'' he=>?_
    cases e with
    | returned u=>simp only at he ⊢;rw[Act.put_comm a v u h2];exact he
    | panicked c=>exact he.elim
    | outgrown=>exact absurd he (fun⟨_,_,h⟩=>h)
   case row row args=>exact Rows.mono h fun u w'' he=>by rw[Act.put_comm a v u h2];exact he
  | halt x w' =>
   cases x <;> simp only[Oper.upon]at h
 ·rename_i hw
  simp only[hw]at h
  rw[Act.put_comm a v undef h2];exact h
theorem zR9 {op:Go.Op}{r:AOp × List Operand}(h:trOp P op=some r):∀ cs b,op≠.select cs b:=by
 intro cs b e
 subst e
 cases h
theorem EInv.step (hce:zQS c)(hwb:WFb st0.hp)(hc:∀ base w0,zEu P base w0 c)(hD:DFacts P nt ops bs f is)(hF0:FRel U0 st0.hp nt st0.fr a0)
  (hdraw:∀ Z,∃ st' Z' hs ls,zGV c is st0 Z [st0.hp] []=some (st',Z',hs,ls)/\zAZ hs.reverse ls=true) {x:Ins} {o:Oper} {a1:Act} {listed1:Array Bool} {u:Value} {A:Nat} {wF:World}
  (h:EInv P base nt w0 c ops bs f is st0 a0 U0 listed a w U pre p stp x o a1 listed1 u A wF) (hun:∃ e y,is[e]?=some y/\y.op.eff=true/\e<f/\listed1.getD e false=false) {i:Nat} (hrdy:i ∈ Region.ready .any ops listed) (K:Act->World->Prop) (Q:Exit->Act->World->Prop)
  (hK:∀ a' w' U' pre' p' stp' a1' listed1',EInv P base nt w0 c ops bs f is st0 a0 U0 (listed.setIfInBounds i true) a' w' U' pre' p' stp' x o a1' listed1' u A wF->K a' w'):wpOp P ops Q i K a w:=by
 have hI:=h.inv
 obtain⟨hui,oi,hoi,hafter⟩:=mem_ready.1 hrdy
 have hfl:f<listed1.size:=by rw[hI.size];exact(Array.getElem?_eq_some_iff.1 h.ho).1
 have hne:i≠f:=by
  rintro rfl
  rw[h.lst]at hui
  simp[hfl]at hui
 have hg1:∀ m,m≠f->listed.getD m false=listed1.getD m false:=fun m hm=>by rw[h.lst,getD_set_ne false (Ne.symm hm)]
 have hg1':listed.getD i true=listed1.getD i true:=by rw[h.lst,getD_set_ne true (Ne.symm hne)]
 have hgf:∀ m,listed1.getD m false=true->listed.getD m false=true:=fun m hm=>by
  rw[h.lst,zCF hfl];exact .inr hm
 have hcl:∀ j m,listed.getD j false=true->(bs.getD j 0).testBit m=true->listed.getD m false=true:=by
  intro j m hj hb
  by_cases e:j=f
  ·subst e;exact hgf _ (h.hb m hb)
  ·rw[hg1 j e]at hj;exact hgf _ (hI.closed j m hj hb)
 have hb:∀ m,(bs.getD i 0).testBit m=true->listed.getD m false=true:=by
  intro m hm
  obtain⟨e,he,hbind,_,h2⟩:=hD.step i oi m hoi hm
  have hl:=hafter e (by simpa using he) hbind
  rcases h2 with rfl | h2
  ·exact hl
  ·exact hcl e.on m hl h2
 obtain⟨e0,y0,hy0,hey0,hlt0,hul0⟩:=hun
 have hil1:listed1.getD i false=false:=by
  have hlt:i<listed1.size:=by rw[hI.size];exact(Array.getElem?_eq_some_iff.1 hoi).1
  rw[hg1']at hui
  simp[hlt]at hui ⊢;exact hui
 have hfloat:=(hD.float x o h.hx h.ho).2.2 i oi hne hoi
 have hno:¬((∃ d,o.dst=some d/\d ∈ oi.looksAt ops)∨(∃ e ∈ oi.after.toList,Region.binds .any e=true/\e.on=f)):=by
  intro ht
  rcases hfloat ht with h1 | h1
  ·have:=h.hb i h1
   rw[hil1]at this;cases this
  ·have:=hb e0 (h1 e0 y0 hy0 hey0 hlt0)
   rw[hg1 e0 (by omega),hul0]at this;cases this
 have hrdy1:i ∈ Region.ready .any ops listed1:=by
  refine mem_ready.2 ⟨by rw[<- hg1'];exact hui,oi,hoi,fun e he hbind=>?_⟩
  have hon:e.on≠f:=fun hon=>hno (.inr ⟨e,by simpa using he,hbind,hon⟩)
  rw[<- hg1 e.on hon]
  exact hafter e he hbind
 have hil:i<is.length:=by rw[hD.len];exact(Array.getElem?_eq_some_iff.1 hoi).1
 obtain⟨xi,hxi⟩:∃ x,is[i]?=some x:=⟨is[i],List.getElem?_eq_getElem hil⟩
 obtain⟨_,hdsti,_,xs,hop,_⟩:=hD.ins i oi xi hoi hxi
 obtain⟨_,hdstf,_,_⟩:=hD.ins f o x h.ho h.hx
 rw[h.act]
 refine wpOp_put2 hoi (fun d hd hm=>hno (.inl ⟨d,hd,hm⟩)) (fun d hd hd'=>?_) (zR9 hop) ?_
 ·exact(hD.parts i f xi x hxi h.hx hne).2.1 d (by rw[hdsti];exact hd') (by rw[hdstf];exact hd)
 ·refine hI.step hce hwb (hc _ _) hD hF0 hdraw hrdy1 (fun e=>absurd e hne) _ _ fun a' w' U' pre' p' stp' hI' ⟨more,hm⟩ he hv=>?_
  refine hK _ _ U' pre' p' stp' a' (listed1.setIfInBounds i true) ⟨h.hx,h.ho,h.he,?_,rfl,hI',?_,fun m hm=>?_,h.kpt,h.an,h.ag,fun Z sti τi hr=>?_⟩
  ·rw[h.lst,Array.setIfInBounds_comm _ _ hne]
  ·rw[getD_set_ne false hne];exact h.hu
  ·have hlt:i<listed1.size:=by rw[hI.size];exact(Array.getElem?_eq_some_iff.1 hoi).1
   rw[zCF hlt];exact .inr (h.hb m hm)
  ·subst hm
   rw[<- Tape.app_app]at hr
   exact(h.laid _ sti τi hr).mono he hv
theorem DInv.moved {n:Nat}{base1:Base}{w1 w':World}{U':Inj}(hI:DInv P base nt w0 c bs is st0 a0 U0 n listed a w U pre p stp)(hM:MRel U' base1 w1 stp.hp w')(he:Ext stp.hp U U'):DInv P base1 nt w1 c bs is st0 a0 U0 n listed a w' U' pre p stp :=
 ⟨hI.size,hI.closed,hI.eff,hI.ple,hI.run,hM,hI.glob.step he (Evol.refl _),hI.ext.trans he hI.evol.size,hI.evol,hI.defers,hI.tsize,hI.old,fun Z j x d stf τf h1 h2 h3 h4=>by
  obtain⟨v,k1,k2,k3⟩:=hI.new Z j x d stf τf h1 h2 h3 h4
  exact⟨v,k1,by rw[zB9 he v k3];exact k2,k3⟩⟩
theorem DInv.early (hD:DFacts P nt ops bs f is)(hI:DInv P base nt w0 c bs is st0 a0 U0 ops.size listed a w U pre p stp)(hF0:FRel U0 st0.hp nt st0.fr a0)
  (htot:∀ Z,zo c is st0 Z≠none) (hrdy:f ∈ Region.ready .any ops listed) {x:Ins} (hx:is[f]?=some x) (hun:∃ e y,is[e]?=some y/\y.op.eff=true/\e<f/\listed.getD e false=false) (K:Act->World->Prop) (Q:Exit->Act->World->Prop)
  (hK:∀ a' w' U' o a1 listed1 u A wF,EInv P base nt w0 c ops bs f is st0 a0 U0 (listed.setIfInBounds f true) a' w' U' pre p stp x o a1 listed1 u A wF->K a' w'):wpOp P ops Q f K a w:=by
 obtain⟨hut,o,ho,hafter⟩:=mem_ready.1 hrdy
 have hisz:f<ops.size:=(Array.getElem?_eq_some_iff.1 ho).1
 have hu:listed.getD f false=false:=by
  have hlt:f<listed.size:=by rw[hI.size];exact hisz
  simp[hlt]at hut ⊢;exact hut
 have hb:∀ m,(bs.getD f 0).testBit m=true->listed.getD m false=true:=by
  intro m hm
  obtain⟨e,he,hbind,_,h2⟩:=hD.step f o m ho hm
  have hl:=hafter e (by simpa using he) hbind
  rcases h2 with rfl | h2
  ·exact hl
  ·exact hI.closed e.on m hl h2
 obtain⟨hnt,hdst,hguard,xs,hop,hxs⟩:=hD.ins f o x ho hx
 obtain⟨hg,hfo,_⟩:=hD.float x o hx ho
 have heff:x.op.eff=true:=by
  cases hh:x.op with
  | e eo=>rfl
  | _=>rw[hh]at hfo;simp[zH5]at hfo
 have hwant:Region.wanted o (yielded ops a.tmps)=true:=by
  have hF:FRel U stp.hp nt (T.leaf:T V) a:=⟨hI.defers,hI.tsize,fun t v h=>by rw[T.get_leaf]at h;cases h⟩
  exact zN6 (H:=stp.hp) hF hguard (by rw[hg];rfl)
 obtain⟨eo,heo⟩:∃ eo,x.op=.e eo:=by
  cases hh:x.op with
  | e eo=>exact⟨eo,rfl⟩
  | _=>rw[hh]at hfo;simp[zH5]at hfo
 have hrun:∀ Z sti τi,zo c (is.take f) st0 (Tape.app pre Z)=some (sti,τi)->∃ vs,evOs sti.fr x.args=some vs/\VsOk stp.hp vs/\EffOk base w0 U stp.hp (zAi eo vs stp.hp) ((execOp a.eval o).run P w):=by
  intro Z sti τi hr
  cases hf:zo c is st0 (Tape.app pre Z)with
  | none=>exact absurd hf (htot _)
  | some r =>
   obtain⟨sti2,τi2,sti',τi',k1,k2,_⟩:=zM3 hx hf
   rw[hr]at k1
   cases k1
   unfold zBM at k2
   simp only[hg,wants]at k2
   cases hvs:evOs sti.fr x.args with
   | none=>simp only[hvs]at k2;cases k2
   | some vs =>
    simp only[hvs]at k2
    have hfr:=hI.frame hD hF0 htot hx hu hb hr
    obtain⟨e1,e2⟩:=zPI hfr hI.glob xs x.args vs hxs (by rw[keep_args];exact hvs)
    have hev:zAq c x.op vs sti.hp τi≠none:=fun hn=>by rw[hn]at k2;cases k2
    refine⟨vs,rfl,e2,?_⟩
    obtain⟨dst,op,ty,pos,after,guard⟩:=o
    rw[heo]at hop
    refine eop_sound (P:=P) (I:=a.eval) hI.mrel op eo xs vs dst ty pos after guard hop e1 e2 fun Z2 hn=>?_
    exact hev (by rw[heo]at hfo ⊢;exact float_none hfo hn)
 obtain⟨sti0,τi0,hr0⟩:∃ sti τi,zo c (is.take f) st0 (Tape.app pre fun _=>0)=some (sti,τi):=by
  cases hf:zo c is st0 (Tape.app pre fun _=>0)with
  | none=>exact absurd hf (htot _)
  | some r=>exact prefix_run (i:=f) hf
 obtain⟨vs0,_,_,nx,v,w',U',H',preF,q1,q2,q3,q4,q5,q6,q7⟩:=hrun _ _ _ hr0
 have key:∀ {vs:List V} {v:V} {H':Heap} {preF:List Nat},(∀ Z,zAi eo vs stp.hp (Tape.app preF Z)=some (v,H',Z))->∃ cells room pl mk,v=mk stp.hp.size/\H'=stp.hp.new cells room pl/\FloatF c x.op vs preF cells room pl mk:=by
  intro vs v H' preF hh
  rw[heo]at hfo ⊢
  exact float_form hfo hh
 obtain⟨cells,room,pl,mk,rfl,rfl,hff⟩:=key q3
 have hnx:nx=.value (cv U' (mk stp.hp.size)):=by
  rcases q2 with h | ⟨_,h⟩
  ·exact h
  ·have:=hff.addr U' stp.hp.size
   rw[h]at this
   cases this
 subst hnx
 have hlive:(stp.hp.new cells room pl).blk.get stp.hp.size=some (.mem cells room stp.hp.size 0 true pl 0):=zb _ _ _ _
 have hfam:(stp.hp.new cells room pl).fams.get stp.hp.size=some (0,0):=by rw[zDL,if_pos rfl]
 have hM1:=hI.mrel.forget q4
 obtain⟨cs,el,lo,hi,b1,b2,b3,b4⟩:=q4.ok _ _ _ _ _ _ _ _ _ _ hlive hfam nl
 obtain⟨b5,b6⟩:=b4 rfl
 have hold:∀ {id b},stp.hp.blk.get id=some b->(stp.hp.new cells room pl).blk.get id=some b:=fun {id b} h=>by rw[za (by have:=hI.mrel.lt _ _ h;omega)];exact h
 have holdf:∀ {f x},stp.hp.fams.get f=some x->(stp.hp.new cells room pl).fams.get f=some x:=fun {f x} h=>by rw[zDL,if_neg (by have:=hI.mrel.famlt _ _ h;omega)];exact h
 have hM2:=hM1.ghost (A:=(U' stp.hp.size).1) (Array.getElem?_eq_some_iff.1 b1).1 (fun id cs' room' fam ver wr pl' st fr la h1 h2 h3 e=>by
   have:=q4.sep _ _ _ _ _ _ _ _ _ _ _ _ _ _ _ _ _ _ _ hlive hfam nl (hold h1) (holdf h2) h3 e.symm
   have:=(hI.mrel.fam _ _ _ _ _ _ _ _ h1).1
   omega) (fun id s pos h1 e=>by
   have:=(q4.iter _ _ _ (hold h1)).2.2
   rw[e,b1]at this
   cases this) (fun id es clk h1 e=>by
   obtain⟨_,⟨_,_,this,_⟩,_⟩:=q4.maps _ _ _ (hold h1)
   rw[e,b1]at this
   cases this)
 unfold wpOp
 simp only[ho,hwant,if_true]
 refine .inl ?_
 unfold Oper.wp
 rw[q1]
 refine hK _ _ U' o a listed (cv U' (mk stp.hp.size)) (U' stp.hp.size).1 w' ⟨hx,ho,heff,rfl,rfl,hI.moved hM2 q5,hu,hb,hM1.below,b5,q4.gh _ _ _ _ _ _ _ _ _ _ hlive hfam nl,fun Z sti τi hr=>?_⟩
 obtain⟨vs2,e2,e3,nx2,v2,w2,U2,H2,preF2,p1,p2,p3,p4,p5,p6,p7⟩:=hrun _ _ _ hr
 obtain⟨cells2,room2,pl2,mk2,rfl,rfl,hff2⟩:=key p3
 have hnx2:nx2=.value (cv U2 (mk2 stp.hp.size)):=by
  rcases p2 with h | ⟨_,h⟩
  ·exact h
  ·have:=hff2.addr U2 stp.hp.size
   rw[h]at this
   cases this
 subst hnx2
 rw[q1]at p1
 injection p1 with p1 pw
 injection p1 with p1
 subst pw
 have ea:U2 stp.hp.size=U' stp.hp.size:=by
  have h1:=hff.addr U' stp.hp.size
  have h2:=hff2.addr U2 stp.hp.size
  rw[p1,h2]at h1
  exact Option.some.inj h1
 have hlive2:(stp.hp.new cells2 room2 pl2).blk.get stp.hp.size=some (.mem cells2 room2 stp.hp.size 0 true pl2 0):=zb _ _ _ _
 have hfam2:(stp.hp.new cells2 room2 pl2).fams.get stp.hp.size=some (0,0):=by rw[zDL,if_pos rfl]
 obtain⟨cs2,el2,lo2,hi2,d1,d2,d3,d4⟩:=p4.ok _ _ _ _ _ _ _ _ _ _ hlive2 hfam2 nl
 have hv2:=(p4.cells _ _ _ _ _ _ _ _ hlive2)
 rw[ea]at d1 d2 d3
 have hcells2:VsOk stp.hp cells2:=hff2.cellsOk _ e3
 refine⟨vs2,preF2,cells2,room2,pl2,mk2,cs2,el2,lo2,hi2,(U' stp.hp.size).2,e2,hff2,hcells2,hv2.1,d1,d2,fun j v hj=>?_,(d4 rfl).2,fun U3 n h3=>?_,fun hp=>?_⟩
 ·have:=d3 j v hj
  rw[zB9 p5 v ((zw _ _).1 hcells2 v (List.mem_of_getElem? hj))]at this
  rw[zB9 q5 v ((zw _ _).1 hcells2 v (List.mem_of_getElem? hj))]
  exact this
 ·rw[p1]
  exact hff2.same _ _ _ _ (by rw[ea,h3])
 ·subst hp
  obtain⟨c',el',lo',e⟩:=p4.plok _ _ _ _ _ _ _ _ _ hlive2 hfam2 nl rfl
  rw[ea,d1]at e
  injection e with e
  injection e with _ _ e3
  injection e3 with e3 e4
  rw[e3,e4]
theorem EInv.ready (hD:DFacts P nt ops bs f is){x:Ins}{o:Oper}{a1:Act}{listed1:Array Bool}{u:Value}{A:Nat}{wF:World}
  (h:EInv P base nt w0 c ops bs f is st0 a0 U0 listed a w U pre p stp x o a1 listed1 u A wF) (hun:∃ e y,is[e]?=some y/\y.op.eff=true/\e<f/\listed1.getD e false=false):Region.ready .any ops listed≠[]:=by
 have hsz:listed.size=ops.size:=by rw[h.lst,Array.size_setIfInBounds];exact h.inv.size
 have key:∀ i,i<ops.size->listed.getD i false=false->Region.ready .any ops listed≠[]:=by
  intro i
  induction i using Nat.strongRecOn with
  | _ i ih =>
   intro hi hl hnil
   have:i ∈ Region.ready .any ops listed:=by
    refine mem_ready.2 ⟨?_,ops[i],Array.getElem?_eq_getElem hi,fun e he hb=>?_⟩
    ·have hlt:i<listed.size:=by rw[hsz];exact hi
     simp[hlt]at hl ⊢;exact hl
    ·have hlt:=hD.edge i ops[i] (Array.getElem?_eq_getElem hi) e (by simpa using he) hb
     cases hv:listed.getD e.on false with
     | true=>rfl
     | false=>exact absurd hnil (ih e.on hlt (by omega) hv)
   rw[hnil]at this
   cases this
 obtain⟨e0,y0,hy0,_,hlt0,hul0⟩:=hun
 refine key e0 (by rw[<- hD.len];exact(List.getElem?_eq_some_iff.1 hy0).1) ?_
 rw[h.lst,getD_set_ne false (by omega)]
 exact hul0
theorem draw_all (hce:zQS c)(hwb:WFb st0.hp)(hc:∀ base w0,zEu P base w0 c)(hD:DFacts P nt ops bs f is)(hF0:FRel U0 st0.hp nt st0.fr a0)
  (hdraw:∀ Z,∃ st' Z' hs ls,zGV c is st0 Z [st0.hp] []=some (st',Z',hs,ls)/\zAZ hs.reverse ls=true) (Q:Exit->Act->World->Prop)
  (hQ:∀ a' w',After P base w0 U0 st0.hp nt (zo c is st0) a' w'->Q .normal a' w'):∀ (fuel:Nat) (listed:Array Bool) (a:Act) (w:World) (U:Inj) (pre:List Nat) (p:Nat) (stp:St),
  (DInv P base nt w0 c bs is st0 a0 U0 ops.size listed a w U pre p stp∨∃ x o a1 listed1 u A wF,EInv P base nt w0 c ops bs f is st0 a0 U0 listed a w U pre p stp x o a1 listed1 u A wF) ->
  (List.range ops.size).countP (fun j=>!listed.getD j true)<=fuel->wpAny P .any ops Q fuel listed a w:=by
 have htot:∀ Z,zo c is st0 Z≠none:=by
  intro Z
  obtain⟨st',Z',hs,ls,h1,_⟩:=hdraw Z
  rw[(zHJ h1).1]
  exact fun e=>by cases e
 have norm:∀ {listed:Array Bool} {a:Act} {w:World} {U:Inj} {pre:List Nat} {p:Nat} {stp:St},(DInv P base nt w0 c bs is st0 a0 U0 ops.size listed a w U pre p stp∨∃ x o a1 listed1 u A wF,EInv P base nt w0 c ops bs f is st0 a0 U0 listed a w U pre p stp x o a1 listed1 u A wF) ->
   (∃ U pre p stp,DInv P base nt w0 c bs is st0 a0 U0 ops.size listed a w U pre p stp)∨∃ x o a1 listed1 u A wF,EInv P base nt w0 c ops bs f is st0 a0 U0 listed a w U pre p stp x o a1 listed1 u A wF/\∃ e y,is[e]?=some y/\y.op.eff=true/\e<f/\listed1.getD e false=false:=by
  intro listed a w U pre p stp h
  rcases h with h | ⟨x,o,a1,listed1,u,A,wF,h⟩
  ·exact .inl ⟨_,_,_,_,h⟩
  ·by_cases hall:∀ e y,is[e]?=some y->y.op.eff=true->e<f->listed1.getD e false=true
   ·exact .inl (h.done hD htot hall)
   ·refine .inr ⟨x,o,a1,listed1,u,A,wF,h,?_⟩
    simp only[Classical.not_forall]at hall
    obtain⟨e,y,h1,h2,h3,h4⟩:=hall
    exact⟨e,y,h1,h2,h3,by simpa using h4⟩
 have cnt:∀ {listed:Array Bool} {i fuel:Nat},listed.size=ops.size->i ∈ Region.ready .any ops listed->(List.range ops.size).countP (fun j=>!listed.getD j true)<=fuel+1->(List.range ops.size).countP (fun j=>!(listed.setIfInBounds i true).getD j true)<=fuel:=by
  intro listed i fuel hsz hi hle
  obtain⟨hun,o,ho,_⟩:=mem_ready.1 hi
  have hilt:i<ops.size:=(Array.getElem?_eq_some_iff.1 ho).1
  have:=count_set (fun j=>!listed.getD j true) (fun j=>!(listed.setIfInBounds i true).getD j true) i (by simp only[hun];rfl) (by
   have hlt:i<listed.size:=by rw[hsz];exact hilt
   simp[hlt]) (fun j hj=>by rw[getD_set_ne true (Ne.symm hj)]) ops.size hilt
  omega
 intro fuel
 induction fuel with
 | zero =>
  intro listed a w U pre p stp hS hle
  have hall:Region.ready .any ops listed=[]:=by
   rw[List.eq_nil_iff_forall_not_mem]
   intro i hi
   obtain⟨hun,o,ho,_⟩:=mem_ready.1 hi
   have h0:=List.countP_eq_zero.1 (Nat.le_zero.1 hle) i (List.mem_range.2 (Array.getElem?_eq_some_iff.1 ho).1)
   rw[hun]at h0
   exact h0 rfl
  rcases norm hS with⟨_,_,_,_,hI⟩ | ⟨x,o,a1,listed1,u,A,wF,hE,hun⟩
  ·exact wpAny_done hall (hQ _ _ (hI.done hD hF0 htot hall)) 0
  ·exact absurd hall (hE.ready hD hun)
 | succ fuel ih =>
  intro listed a w U pre p stp hS hle
  rcases norm hS with⟨U,pre,p,stp,hI⟩ | ⟨x,o,a1,listed1,u,A,wF,hE,hun⟩
  ·refine⟨fun hall=>hQ _ _ (hI.done hD hF0 htot hall),fun i hi=>?_⟩
   by_cases hfl:i=f->∀ e y,is[e]?=some y->y.op.eff=true->e<f->listed.getD e false=true
   ·exact hI.step hce hwb (hc _ _) hD hF0 hdraw hi hfl _ Q fun a' w' U' pre' p' stp' hI' _ _ _=>ih _ _ _ _ _ _ _ (.inl hI') (cnt hI.size hi hle)
   ·simp only[Classical.not_forall]at hfl
    obtain⟨rfl,e,y,h1,h2,h3,h4⟩:=hfl
    obtain⟨x,hx⟩:∃ x,is[i]?=some x:=by
     obtain⟨_,o,ho,_⟩:=mem_ready.1 hi
     have hil:i<is.length:=by rw[hD.len];exact(Array.getElem?_eq_some_iff.1 ho).1
     exact⟨is[i],List.getElem?_eq_getElem hil⟩
    exact hI.early hD hF0 htot hi hx ⟨e,y,h1,h2,h3,by simpa using h4⟩ _ Q fun a' w' U' o a1 listed1 u A wF hE=>ih _ _ _ _ _ _ _ (.inr ⟨_,_,_,_,_,_,_,hE⟩) (cnt hI.size hi hle)
  ·refine⟨fun hall=>absurd hall (hE.ready hD hun),fun i hi=>?_⟩
   have hsz:listed.size=ops.size:=by rw[hE.lst,Array.size_setIfInBounds];exact hE.inv.size
   exact hE.step hce hwb hc hD hF0 hdraw hun hi _ Q fun a' w' U' pre' p' stp' a1' listed1' hE'=>ih _ _ _ _ _ _ _ (.inr ⟨_,_,_,_,_,_,_,hE'⟩) (cnt hsz hi hle)
theorem yielded_perm {ops ops':Array Oper}{J:Nat->Nat}(h:∀ i,(ops'[J i]?).bind (·.dst)=(ops[i]?).bind (·.dst))(tmps:Array Value)(i:Nat):yielded ops' tmps (J i)=yielded ops tmps i:=by
 unfold yielded;rw[h]
structure PermO (ops ops':Array Oper) (J:Nat->Nat):Prop where
 size:ops'.size=ops.size
 inj:∀ i j,J i=J j->i=j
 onto:∀ k,k<ops.size->∃ i,i<ops.size/\J i=k
 lt:∀ i,i<ops.size->J i<ops.size
 op:∀ i o,ops[i]?=some o->ops'[J i]?=some { o with after:=o.after.map fun e=>{ e with on:=J e.on },guard:=o.guard.map fun(j,w)=>(J j,w) }
 out:∀ i,ops.size<=i->J i=i
theorem PermO.dst {ops ops':Array Oper}{J:Nat->Nat}(h:PermO ops ops' J)(i:Nat):(ops'[J i]?).bind (·.dst)=(ops[i]?).bind (·.dst):=by
 cases ho:ops[i]? with
 | some o=>rw[h.op i o ho];rfl
 | none =>
  have hi:ops.size<=i:=Array.getElem?_eq_none_iff.1 ho
  rw[h.out i hi,Array.getElem?_eq_none (by rw[h.size];exact hi)]
theorem wpAny_perm {ops ops':Array Oper}{J:Nat->Nat}(h:PermO ops ops' J)(Q:Exit->Act->World->Prop):∀ (fuel:Nat) (l l':Array Bool) (a:Act) (w:World),l.size=ops.size->l'.size=ops.size->(∀ i,i<ops.size->l'[J i]?=l[i]?) ->
  wpAny P .any ops' Q fuel l' a w->wpAny P .any ops Q fuel l a w:=by
 have rdy:∀ (l l':Array Bool),l.size=ops.size->l'.size=ops.size->(∀ i,i<ops.size->l'[J i]?=l[i]?)->∀ i,i ∈ Region.ready .any ops l ↔ (i<ops.size/\J i ∈ Region.ready .any ops' l'):=by
  intro l l' hl hl' hll i
  have hg:∀ k d,l'.getD (J k) d=l.getD k d:=by
   intro k d
   by_cases hk:k<ops.size
   ·rw[Array.getD_eq_getD_getElem?,Array.getD_eq_getD_getElem?,hll k hk]
   ·rw[h.out k (by omega),Array.getD_eq_getD_getElem?,Array.getD_eq_getD_getElem?,Array.getElem?_eq_none (by omega),Array.getElem?_eq_none (by omega)]
  rw[mem_ready,mem_ready]
  constructor
  ·rintro⟨h1,o,ho,h2⟩
   refine⟨(Array.getElem?_eq_some_iff.1 ho).1,by rw[hg];exact h1,_,h.op i o ho,fun e he hb=>?_⟩
   obtain⟨e1,he1,rfl⟩:=Array.mem_map.1 he
   rw[hg]
   exact h2 e1 he1 hb
  ·rintro⟨hi,h1,o',ho',h2⟩
   have ho:ops[i]?=some ops[i]:=Array.getElem?_eq_getElem hi
   rw[h.op i _ ho]at ho'
   cases ho'
   refine⟨by rw[<- hg];exact h1,_,ho,fun e he hb=>?_⟩
   have:=h2 { e with on:=J e.on } (Array.mem_map.2 ⟨e,he,rfl⟩) hb
   rw[hg]at this
   exact this
 intro fuel
 induction fuel with
 | zero =>
  intro l l' a w hl hl' hll hh
  refine⟨?_,hh.2⟩
  rw[List.eq_nil_iff_forall_not_mem]
  intro i hi
  have:=((rdy l l' hl hl' hll i).1 hi).2
  rw[hh.1]at this
  cases this
 | succ fuel ih =>
  intro l l' a w hl hl' hll hh
  refine⟨fun hall=>hh.1 ?_,fun i hi=>?_⟩
  ·rw[List.eq_nil_iff_forall_not_mem]
   intro k hk
   obtain⟨_,o,ho,_⟩:=mem_ready.1 hk
   have hks:k<ops.size:=by rw[<- h.size];exact(Array.getElem?_eq_some_iff.1 ho).1
   obtain⟨i,hi,rfl⟩:=h.onto k hks
   have:=(rdy l l' hl hl' hll i).2 ⟨hi,hk⟩
   rw[hall]at this
   cases this
  ·obtain⟨his,hi'⟩:=(rdy l l' hl hl' hll i).1 hi
   have h1:=hh.2 (J i) hi'
   have ho:ops[i]?=some ops[i]:=Array.getElem?_eq_getElem his
   have key:∀ a' w',wpAny P .any ops' Q fuel (l'.setIfInBounds (J i) true) a' w'->wpAny P .any ops Q fuel (l.setIfInBounds i true) a' w':=fun a' w'=>ih _ _ _ _ (by simpa using hl) (by simpa using hl') fun j hj=>by
    rw[Array.getElem?_setIfInBounds,Array.getElem?_setIfInBounds]
    by_cases e:i=j
    ·subst e
     have:=h.lt i his
     simp[hl,hl',his,this]
    ·rw[if_neg e,if_neg (fun e'=>e (h.inj _ _ e'))]
     exact hll j hj
   have h2:=wpOp_mono key h1
   unfold wpOp at h2 ⊢
   rw[h.op i _ ho]at h2
   rw[ho]
   simp only at h2 ⊢
   have hw:Region.wanted { ops[i]with after:=ops[i].after.map fun e=>{ e with on:=J e.on },guard:=ops[i].guard.map fun(j,w)=>(J j,w) } (yielded ops' a.tmps)=Region.wanted ops[i] (yielded ops a.tmps):=by
    unfold Region.wanted
    cases hg:ops[i].guard with
    | none=>rfl
    | some jw =>
     obtain⟨j,w⟩:=jw
     simp only[Option.map_some,yielded_perm h.dst]
   rw[hw]at h2
   exact h2
theorem posOf_perm {J:List Nat}{ops:List Oper}(h:permOk J ops.length=true):PermO ops.toArray (zPR J ops).toArray (zSN J ops.length):=by
 unfold permOk at h
 simp only[Bool.and_eq_true,beq_iff_eq,List.all_eq_true,List.mem_range]at h
 obtain⟨⟨hl,hall⟩,hback⟩:=h
 have hlt:∀ i,i<ops.length->J.idxOf i<ops.length:=fun i hi=>by
  have:=(List.getElem?_eq_some_iff.1 (hall i hi)).1
  omega
 have hbk:∀ k,k<ops.length->J.getD k 0<ops.length/\J.idxOf (J.getD k 0)=k:=by
  intro k hk
  have h1:=hback k hk
  have hk':k<J.length:=by omega
  rw[List.getElem?_eq_getElem hk']at h1
  simp only[Bool.and_eq_true,decide_eq_true_eq,beq_iff_eq]at h1
  rw[List.getD_eq_getElem?_getD,List.getElem?_eq_getElem hk']
  exact h1
 have hin:∀ k,k<ops.length->J.getD k 0<ops.length:=fun k hk=>(hbk k hk).1
 have hops:zPR J ops=J.map fun i=>renOp J ops.length (ops.getD i default):=rfl
 refine⟨by rw[hops];simp[hl],?_,?_,?_,?_,?_⟩
 ·intro i j e
  unfold zSN at e
  by_cases hi:i<ops.length <;> by_cases hj:j<ops.length
  ·rw[if_pos hi,if_pos hj]at e
   have h1:=hall i hi
   have h2:=hall j hj
   rw[e,h2]at h1
   exact(Option.some.inj h1).symm
  ·rw[if_pos hi,if_neg hj]at e
   have:=hlt i hi
   omega
  ·rw[if_neg hi,if_pos hj]at e
   have:=hlt j hj
   omega
  ·rw[if_neg hi,if_neg hj]at e;exact e
 ·intro k hk
  have hk:k<ops.length:=by simpa using hk
  have h1:=hin k hk
  refine⟨J.getD k 0,by simpa using h1,?_⟩
  unfold zSN
  rw[if_pos h1]
  exact(hbk k hk).2
 ·intro i hi
  have hi:i<ops.length:=by simpa using hi
  unfold zSN
  rw[if_pos hi]
  simpa using hlt i hi
 ·intro i o ho
  rw[List.getElem?_toArray]at ho
  have hi:i<ops.length:=(List.getElem?_eq_some_iff.1 ho).1
  rw[List.getElem?_toArray,hops,List.getElem?_map]
  unfold zSN
  rw[if_pos hi,hall i hi]
  simp only[Option.map_some,List.getD_eq_getElem?_getD,ho,Option.getD_some]
  rfl
 ·intro i hi
  unfold zSN
  rw[if_neg (by simpa using hi)]
theorem reord_perm (nt:Nat)(ops:List Oper):reord P nt ops=ops∨∃ J,permOk J ops.length=true/\reord P nt ops=zPR J ops:=by
 unfold reord
 simp only
 split
 ·exact .inl rfl
 ·split
  ·rename_i h;exact .inr ⟨_,h,rfl⟩
  ·exact .inl rfl
theorem draw_wp (hm:P.follows .mixedOrders=true)(hce:zQS c)(hc:∀ base w0,zEu P base w0 c)(id:Nat)(ht:trDrw P nt ops.toList=some is){st:St}(hF:FRel U st.hp nt st.fr a)(hM:MRel U base w0 st.hp w)(hG:GOk P U st.hp)
  (hdraw:∀ Z,∃ st' Z' hs ls,zGV c is st Z [st.hp] []=some (st',Z',hs,ls)/\zAZ hs.reverse ls=true) (Q:Exit->Act->World->Prop)
  (hQ:∀ a' w',After P base w0 U st.hp nt (zo c is st) a' w'->Q .normal a' w'):(Code.region id ops true).wp P Q a w:=by
 have main:∀ {ops:Array Oper},zRj P nt ops.toList=some is->wpAny P .any ops Q ops.size (Array.replicate ops.size false) a { w with drawn:=w.drawn+1 }:=by
  intro ops ht
  obtain⟨f,hD⟩:=dfacts ht
  have hnone:∀ j,(Array.replicate ops.size false).getD j false=false:=by
   intro j
   simp[Array.getElem?_replicate]
   split <;> rfl
  refine draw_all hce hM.lt hc hD hF hdraw Q hQ ops.size _ a _ U [] 0 st (.inl ⟨by simp,?_,?_,Nat.zero_le _,fun Z=>rfl,hM.drew,hG,Ext.refl _ _,Evol.refl _,hF.defers,hF.size,fun _ _=>rfl,?_⟩) ?_
  ·intro j m hj
   rw[hnone]at hj;cases hj
  ·intro j y hy hey
   rw[hnone]
   simp
  ·intro Z j x d stf τf hx hl
   rw[hnone]at hl;cases hl
  ·exact Nat.le_trans List.countP_le_length (by simp)
 refine wp_region_any hm ?_
 unfold trDrw at ht
 cases h0:zRj P nt (reord P nt ops.toList)with
 | none=>rw[h0]at ht;exact main ht
 | some is' =>
 rw[h0]at ht
 obtain rfl:is'=is:=Option.some.inj ht
 replace ht:=h0
 rcases reord_perm (P:=P) nt ops.toList with h | ⟨J,h1,h2⟩
 ·rw[h]at ht
  exact main ht
 ·rw[h2]at ht
  have hp:=posOf_perm h1
  have:=main (ops:=(zPR J ops.toList).toArray) (by simpa using ht)
  have hp':PermO ops (zPR J ops.toList).toArray (zSN J ops.toList.length):=by simpa using hp
  rw[hp'.size]at this
  exact wpAny_perm hp' Q _ _ _ _ _ (by simp) (by simp) (fun i hi=>by
   have:=hp'.lt i hi
   rw[Array.length_toList]at this ⊢
   simp[Array.getElem?_replicate,hi,this]) this
end
end Go.Am

namespace Go.Am
open Go.RowKit (Below)
inductive Tr (P:Program) (nt:Nat):Code->C->Prop where
 | skip:Tr P nt .skip .skip
 | label (l:Nat):Tr P nt (.label l) .skip
 | reg {id:Nat} {ops:Array Oper} {is:List Ins} (h:zAs (zRx P nt ops.toList) ops.toList=some is):Tr P nt (.region id ops false) (.reg is)
 | draw {id:Nat} {ops:Array Oper} {is:List Ins} (h:trDrw P nt ops.toList=some is):Tr P nt (.region id ops true) (.draw is)
 | seq {a b:Code} {x y:C} (h:Tr P nt a x) (k:Tr P nt b y):Tr P nt (.seq a b) (.seq x y)
 | cond {c:Operand} {o:O} {a b:Code} {x y:C} (hc:trO P c=some o) (h:Tr P nt a x) (k:Tr P nt b y):Tr P nt (.cond c a b) (.cond o x y)
 | block {id:Nat} {a:Code} {x:C} (h:Tr P nt a x):Tr P nt (.block id a) (.block id x)
 | loop {a:Code} {x:C} (h:Tr P nt a x):Tr P nt (.loop a) (.loop x)
 | scope {a:Code} {x:C} (h:Tr P nt a x):Tr P nt (.scope a) (.scope x)
 | exit (id:Nat):Tr P nt (.exit id) (.exit id)
 | ret:Tr P nt .ret .ret
 | keep {l:List Nat} {a:Code} {x:C} (h:Tr P nt a x):Tr P nt a (.keep l x)
 | bad (a:Code):Tr P nt a .bad
theorem tr_of_strip {P:Program}{nt:Nat}:∀ (x:C) (a:Code),x.strip=zCd P nt a->Tr P nt a x:=by
 intro x
 induction x with
 | bad=>intro a _;exact .bad a
 | keep l x ih=>intro a h;exact .keep (ih a h)
 | skip =>
  intro a h;cases a <;> simp only[C.strip,zCd]at h <;> first | exact .skip | exact .label _ | (cases h;done) | (split at h <;> cases h;done) | (split at h <;> split at h <;> cases h;done) | skip
  all_goals (rename_i d;cases d <;> simp only[zCd]at h <;> split at h <;> cases h)
 | reg ops =>
  intro a h
  cases a <;> simp only[C.strip,zCd]at h <;>(try (cases h;done)) <;>(try (split at h <;> cases h;done))
  rename_i id o d
  cases d <;> simp only[zCd]at h <;> split at h
  ·rename_i is hi;cases h;exact .reg hi
  ·cases h
  ·cases h
  ·cases h
 | draw ops =>
  intro a h
  cases a <;> simp only[C.strip,zCd]at h <;>(try (cases h;done)) <;>(try (split at h <;> cases h;done))
  rename_i id o d
  cases d <;> simp only[zCd]at h <;> split at h
  ·cases h
  ·cases h
  ·rename_i is hi;cases h;exact .draw hi
  ·cases h
 | seq x y ihx ihy =>
  intro a h
  cases a <;> simp only[C.strip,zCd]at h <;>(try (cases h;done)) <;>(try (split at h <;> cases h;done))
  ·rename_i id o d
   cases d <;> simp only[zCd]at h <;> split at h <;> cases h
  ·injection h with h1 h2
   exact .seq (ihx _ h1) (ihy _ h2)
 | cond o x y ihx ihy =>
  intro a h
  cases a <;> simp only[C.strip,zCd]at h <;>(try (cases h;done))
  ·rename_i id o d
   cases d <;> simp only[zCd]at h <;> split at h <;> cases h
  ·split at h
   ·rename_i o' ho
    injection h with h0 h1 h2
    subst h0
    exact .cond ho (ihx _ h1) (ihy _ h2)
   ·cases h
 | block id x ih =>
  intro a h
  cases a <;> simp only[C.strip,zCd]at h <;>(try (cases h;done)) <;>(try (split at h <;> cases h;done))
  ·rename_i id o d
   cases d <;> simp only[zCd]at h <;> split at h <;> cases h
  ·injection h with h0 h1
   subst h0
   exact .block (ih _ h1)
 | loop x ih =>
  intro a h
  cases a <;> simp only[C.strip,zCd]at h <;>(try (cases h;done)) <;>(try (split at h <;> cases h;done))
  ·rename_i id o d
   cases d <;> simp only[zCd]at h <;> split at h <;> cases h
  ·injection h with h1
   exact .loop (ih _ h1)
 | scope x ih =>
  intro a h
  cases a <;> simp only[C.strip,zCd]at h <;>(try (cases h;done)) <;>(try (split at h <;> cases h;done))
  ·rename_i id o d
   cases d <;> simp only[zCd]at h <;> split at h <;> cases h
  ·injection h with h1
   exact .scope (ih _ h1)
 | exit id =>
  intro a h
  cases a <;> simp only[C.strip,zCd]at h <;>(try (cases h;done)) <;>(try (split at h <;> cases h;done))
  ·rename_i id o d
   cases d <;> simp only[zCd]at h <;> split at h <;> cases h
  ·injection h with h1
   subst h1
   exact .exit _
 | ret =>
  intro a h
  cases a <;> simp only[C.strip,zCd]at h <;>(try (cases h;done)) <;>(try (split at h <;> cases h;done))
  ·rename_i id o d
   cases d <;> simp only[zCd]at h <;> split at h <;> cases h
  ·exact .ret
def cvEx:Ex->Exit
 | .normal=>.normal
 | .exit id=>.exit id
 | .ret=>.ret
def zNE (P:Program)(base:Base)(w0:World)(U:Inj)(H:Heap)(nt:Nat)(run:Tape->Option (Ex × St × Tape))(e:Exit)(a:Act)(w:World):Prop :=
 ∃ ex st' U' pre,(∀ Z,run (Tape.app pre Z)=some (ex,st',Z))/\e=cvEx ex/\FRel U' st'.hp nt st'.fr a/\MRel U' base w0 st'.hp w/\GOk P U' st'.hp/\Ext H U U'/\Evol H st'.hp
section
variable {P:Program} {w0:World} {base:Base} {nt:Nat}
theorem zNE.comp {U U1:Inj}{H H1:Heap}{run run1:Tape->Option (Ex × St × Tape)}{pre1:List Nat}{e:Exit}{a:Act}{w:World}(h1:∀ Z,run (Tape.app pre1 Z)=run1 Z)(he:Ext H U U1)(hv:Evol H H1)
  (h:zNE P base w0 U1 H1 nt run1 e a w):zNE P base w0 U H nt run e a w:=by
 obtain⟨ex,st',U',pre,k1,k2,k3,k4,k5,k6,k7⟩:=h
 exact⟨ex,st',U',pre1++pre,fun Z=>by rw[<- Tape.app_app,h1];exact k1 Z,k2,k3,k4,k5,he.trans k6 hv.size,hv.trans k7⟩
theorem zNE.of_after {U:Inj}{H:Heap}{run:Tape->Option (St × Tape)}{run1:Tape->Option (Ex × St × Tape)}{a:Act}{w:World}(h1:∀ Z st Z',run Z=some (st,Z')->run1 Z=some (.normal,st,Z'))
  (h:After P base w0 U H nt run a w):zNE P base w0 U H nt run1 .normal a w:=by
 obtain⟨st',U',pre,k1,k2,k3,k4,k5,k6⟩:=h
 exact⟨.normal,st',U',pre,fun Z=>h1 _ _ _ (k1 Z),rfl,k2,k3,k4,k5,k6⟩
theorem zNE.same {U:Inj}{H:Heap}{run:Tape->Option (Ex × St × Tape)}{ex:Ex}{st:St}{a:Act}{w:World}(h1:∀ Z,run Z=some (ex,st,Z))(hH:st.hp=H)(hF:FRel U st.hp nt st.fr a)(hM:MRel U base w0 st.hp w)(hG:GOk P U st.hp) :
  zNE P base w0 U H nt run (cvEx ex) a w :=
 ⟨ex,st,U,[],h1,rfl,hF,hM,hG,Ext.refl _ _,by rw[hH];exact Evol.refl _⟩
theorem exec_wp (hm:P.follows .mixedOrders=true)(c:zEa)(hce:zQS c)(hc:∀ base w0,zEu P base w0 c)(N:Nat){code:Code}{x:C}(ht:Tr P nt code x):∀ (U:Inj) (st:St) (a:Act) (w:World),
  FRel U st.hp nt st.fr a->MRel U base w0 st.hp w->GOk P U st.hp->(∀ Z,exec c N x st Z≠none)->code.wp P (zNE P base w0 U st.hp nt (exec c N x st)) a w:=by
 induction ht with
 | skip=>intro U st a w hF hM hG _;exact wp_skip (zNE.same (ex:=.normal) (fun Z=>rfl) rfl hF hM hG)
 | label l=>intro U st a w hF hM hG _;exact wp_label (zNE.same (ex:=.normal) (fun Z=>rfl) rfl hF hM hG)
 | exit id=>intro U st a w hF hM hG _;exact wp_exit (zNE.same (ex:=.exit id) (fun Z=>rfl) rfl hF hM hG)
 | ret=>intro U st a w hF hM hG _;exact wp_ret (zNE.same (ex:=.ret) (fun Z=>rfl) rfl hF hM hG)
 | bad a0=>intro U st a w _ _ _ h;exact absurd rfl (h (fun _=>0))
 | @reg id ops is h =>
  intro U st a w hF hM hG htot
  refine region_wp c (hc base w0) id ops h hF hM hG ?_ _ fun a' w' hA=>zNE.of_after (fun Z st' Z' hr=>?_) hA
  ·intro Z hn
   exact htot Z (by simp only[exec,hn])
  ·simp only[exec,hr]
 | @draw id ops is h =>
  intro U st a w hF hM hG htot
  have hdraw:∀ Z,∃ st' Z' hs ls,zGV c is st Z [st.hp] []=some (st',Z',hs,ls)/\zAZ hs.reverse ls=true:=by
   intro Z
   have:=htot Z
   simp only[exec]at this
   cases hr:zGV c is st Z [st.hp] []with
   | none=>rw[hr]at this;exact absurd rfl this
   | some r =>
    obtain⟨st',Z',hs,ls⟩:=r
    rw[hr]at this
    cases hk:zAZ hs.reverse ls with
    | true=>exact⟨st',Z',hs,ls,rfl,hk⟩
    | false=>simp only[hk,cond_false]at this;exact absurd rfl this
  refine draw_wp hm hce hc id h hF hM hG hdraw _ fun a' w' hA=>zNE.of_after (fun Z st' Z' hr=>?_) hA
  obtain⟨st2,Z2,hs,ls,h1,h2⟩:=hdraw Z
  have:=(zHJ h1).1
  rw[hr]at this
  cases this
  simp only[exec,h1,h2,cond_true]
 | @seq ca cb x y _ _ iha ihb =>
  intro U st a w hF hM hG htot
  refine wp_seq (wp_mono (iha U st a w hF hM hG fun Z hn=>htot Z (by simp only[exec,hn])) ?_)
  rintro e a1 w1 ⟨ex,st1,U1,pre1,k1,rfl,k3,k4,k5,k6,k7⟩
  cases ex with
  | normal =>
   have hr:∀ Z,exec c N (.seq x y) st (Tape.app pre1 Z)=exec c N y st1 Z:=fun Z=>by simp only[exec,k1]
   refine wp_mono (ihb U1 st1 a1 w1 k3 k4 k5 fun Z hn=>htot (Tape.app pre1 Z) (by rw[hr,hn])) fun e a2 w2 h=>h.comp hr k6 k7
  | exit id=>exact⟨.exit id,st1,U1,pre1,fun Z=>by simp only[exec,k1],rfl,k3,k4,k5,k6,k7⟩
  | ret=>exact⟨.ret,st1,U1,pre1,fun Z=>by simp only[exec,k1],rfl,k3,k4,k5,k6,k7⟩
 | @cond cc o ca cb x y hcc _ _ iha ihb =>
  intro U st a w hF hM hG htot
  have h0:=htot (fun _=>0)
  simp only[exec]at h0
  cases ho:evO st.fr o with
  | none=>rw[ho]at h0;exact absurd rfl h0
  | some v =>
   rw[ho]at h0
   have hv:=(evO_sound hF hG hcc ho).1
   cases v with
   | bool b =>
    cases b with
    | true =>
     refine wp_cond_true hv (wp_mono (iha U st a w hF hM hG fun Z hn=>htot Z (by simp only[exec,ho,hn])) fun e a' w' h=>h.comp (pre1:=[]) (fun Z=>?_) (Ext.refl _ _) (Evol.refl _))
     show exec c N (.cond o x y) st Z=_
     simp only[exec,ho]
    | false =>
     refine wp_cond_false hv (wp_mono (ihb U st a w hF hM hG fun Z hn=>htot Z (by simp only[exec,ho,hn])) fun e a' w' h=>h.comp (pre1:=[]) (fun Z=>?_) (Ext.refl _ _) (Evol.refl _))
     show exec c N (.cond o x y) st Z=_
     simp only[exec,ho]
   | _=>exact absurd rfl h0
 | @block id ca x _ ih =>
  intro U st a w hF hM hG htot
  refine wp_block (wp_mono (ih U st a w hF hM hG fun Z hn=>htot Z (by simp only[exec,hn])) ?_)
  rintro e a1 w1 ⟨ex,st1,U1,pre1,k1,rfl,k3,k4,k5,k6,k7⟩
  cases ex with
  | normal=>exact⟨.normal,st1,U1,pre1,fun Z=>by simp only[exec,k1],rfl,k3,k4,k5,k6,k7⟩
  | ret=>exact⟨.ret,st1,U1,pre1,fun Z=>by simp only[exec,k1],rfl,k3,k4,k5,k6,k7⟩
  | exit id' =>
   simp only[cvEx,Exit.inBlock]
   by_cases e:id'=id
   ·rw[if_pos e]
    refine⟨.normal,st1,U1,pre1,fun Z=>?_,rfl,k3,k4,k5,k6,k7⟩
    simp only[exec,k1]
    subst e
    simp
   ·rw[if_neg e]
    refine⟨.exit id',st1,U1,pre1,fun Z=>?_,rfl,k3,k4,k5,k6,k7⟩
    simp only[exec,k1]
    have:Nat.beq id' id=false:=by
     cases hb:Nat.beq id' id with
     | false=>rfl
     | true=>exact absurd (Nat.eq_of_beq_eq_true hb) e
    rw[this]
    rfl
 | @loop ca x _ ih =>
  intro U st a w hF hM hG htot
  have key:∀ (n:Nat) (Q:Exit->Act->World->Prop) (U:Inj) (st:St) (a:Act) (w:World),FRel U st.hp nt st.fr a->MRel U base w0 st.hp w->GOk P U st.hp->(∀ Z,zNG (exec c N x) n st Z≠none) ->
    (∀ e a' w',zNE P base w0 U st.hp nt (zNG (exec c N x) n st) e a' w'->Q e a' w')->Code.rounds P ca Q n a w:=by
   intro n
   induction n with
   | zero=>intro Q U st a w _ _ _ htot _;exact absurd rfl (htot (fun _=>0))
   | succ n ihn =>
    intro Q U st a w hF hM hG htot hQ
    rw[rounds_succ]
    refine wp_mono (ih U st a w hF hM hG fun Z hn=>htot Z (by simp only[zNG,hn])) ?_
    rintro e a1 w1 ⟨ex,st1,U1,pre1,k1,rfl,k3,k4,k5,k6,k7⟩
    cases ex with
    | normal =>
     have hr:∀ Z,zNG (exec c N x) (n+1) st (Tape.app pre1 Z)=zNG (exec c N x) n st1 Z:=fun Z=>by simp only[zNG,k1]
     exact ihn Q U1 st1 a1 w1 k3 k4 k5 (fun Z hn=>htot (Tape.app pre1 Z) (by rw[hr,hn])) fun e a2 w2 h=>hQ e a2 w2 (h.comp hr k6 k7)
    | exit id=>exact hQ _ _ _ ⟨.exit id,st1,U1,pre1,fun Z=>by simp only[zNG,k1],rfl,k3,k4,k5,k6,k7⟩
    | ret=>exact hQ _ _ _ ⟨.ret,st1,U1,pre1,fun Z=>by simp only[zNG,k1],rfl,k3,k4,k5,k6,k7⟩
  refine wp_loop_rounds N (key N _ U st a w hF hM hG (fun Z hn=>htot Z (by simp only[exec,hn])) fun e a' w' h=>?_)
  exact h.comp (pre1:=[]) (fun Z=>by show exec c N (.loop x) st Z=_;simp only[exec]) (Ext.refl _ _) (Evol.refl _)
 | @scope ca x _ ih =>
  intro U st a w hF hM hG htot
  refine wp_scope_straight (wp_mono (ih U st a w hF hM hG fun Z hn=>htot Z (by simp only[exec,hn])) ?_)
  rintro e a1 w1 ⟨ex,st1,U1,pre1,k1,rfl,k3,k4,k5,k6,k7⟩
  have hp:zNE P base w0 U st.hp nt (exec c N (.scope x) st) (cvEx ex) a1 w1:=⟨ex,st1,U1,pre1,fun Z=>by simp only[exec,k1],rfl,k3,k4,k5,k6,k7⟩
  cases ex <;> exact hp
 | @keep l ca x _ ih =>
  intro U st a w hF hM hG htot
  have hF':FRel U st.hp nt (zP3 l st.fr .leaf) a:=⟨hF.defers,hF.size,fun t v h=>by
   rw[zOZ]at h
   split at h
   ·exact hF.get t v h
   ·cases h⟩
  refine wp_mono (ih U ⟨zP3 l st.fr .leaf,st.hp⟩ a w hF' hM hG fun Z hn=>htot Z (by simp only[exec,hn])) fun e a' w' h=>h.comp (pre1:=[]) (fun Z=>?_) (Ext.refl _ _) (Evol.refl _)
  show exec c N (.keep l x) st Z=_
  simp only[exec]
end
end Go.Am

namespace Go.Am
open Go.RowKit (Below)
def resM (tmps:Array Value):ResultVar->Sem Value
 | .tmp t=>pure (tmps.getD t undef)
 | .cell a t=>do loadVar t (<- asAddr (tmps.getD a undef))
theorem results_eq (fn:Func)(tmps:Array Value):Go.results fn tmps=(do let vs <- fn.results.mapM (resM tmps);pure (if h:vs.size=1 then vs[0]else .tuple vs)):=by
 unfold Go.results
 congr 1
section
variable {P:Program} {w w0:World} {base:Base} {nt:Nat} {U:Inj}
theorem res_sound {st:St}{a:Act}(hF:FRel U st.hp nt st.fr a)(hM:MRel U base w0 st.hp w)(r:ResultVar)(v:V)(hk:resOk P r=true)(hv:resOf st (trRes P r)=some v) :
  (resM a.tmps r).run P w=.ok (cv U v) w/\VOk st.hp v:=by
 cases r with
 | tmp t =>
  simp only[trRes,resOf]at hv
  obtain⟨k1,k2⟩:=hF.get t v hv
  refine⟨?_,k2⟩
  simp[resM,k1]
 | cell x t =>
  simp only[trRes,resOf]at hv
  split at hv
  ·rename_i u hu
   obtain⟨k1,_⟩:=hF.get x u hu
   obtain⟨d,hd⟩:=Option.isSome_iff_exists.1 (show(P.underlying t).isSome=true from hk)
   have hop:trOp P (.load t (.tmp x))=some (.l (.load (aggN P t)),[.tmp x]):=by
    simp[trOp,kn,hd]
   have e2:a.eval (.tmp x)=cv U u:=by simp[Act.eval,k1]
   have hx:[Operand.tmp x].map a.eval=cvl U [u]:=by
    simp[e2,cvl]
   obtain⟨m1,m2⟩:=zQj (P:=P) (I:=a.eval) hM (.load t (.tmp x)) _ _ [u] v none 0 "" #[] none hop hx hv
   refine⟨?_,m2⟩
   simp only[execOp,Instr.loadAt,e2]at m1
   have e1:a.tmps.getD x undef=cv U u:=by simp[k1]
   unfold resM
   simp only[Sem.run_bind]
   rw[e1]
   cases u with
   | ptr id off =>
    simp only[cv,asAddr,Instr.sureAddr,Sem.run_bind,Sem.run_pure,Result.andThen_ok]at m1 ⊢
    cases hr:(loadVar t { block:=(U id).1,off:=(U id).2+off }).run P w with
    | ok v' w' =>
     rw[hr]at m1
     simpa using m1
    | halt x' w' =>
     rw[hr]at m1
     simp[Result.andThen]at m1
   | _=>simp only[zGU,aggN,zRB]at hv;split at hv <;> simp[zf,zA7]at hv
  ·cases hv
theorem resAll_sound {st:St}{a:Act}(hF:FRel U st.hp nt st.fr a)(hM:MRel U base w0 st.hp w):∀ (rs:List ResultVar) (vs:List V),rs.all (resOk P)=true->zOa st (rs.map (trRes P))=some vs ->
  (rs.mapM (resM a.tmps)).run P w=.ok (cvl U vs) w/\VsOk st.hp vs:=by
 intro rs
 induction rs with
 | nil =>
  intro vs _ h
  simp only[List.map_nil,zOa,Option.some.injEq]at h
  subst h
  exact⟨rfl,trivial⟩
 | cons r rs ih =>
  intro vs hk h
  simp only[List.map_cons,zOa]at h
  simp only[List.all_cons,Bool.and_eq_true]at hk
  split at h
  ·rename_i v hv
   split at h
   ·rename_i vs' hvs
    cases h
    obtain⟨h1,h2⟩:=ih vs' hk.2 hvs
    obtain⟨h3,h4⟩:=res_sound hF hM r v hk.1 hv
    refine⟨?_,h4,h2⟩
    rw[List.mapM_cons]
    simp only[Sem.run_bind,h3,Result.andThen_ok,h1,Sem.run_pure,cvl]
   ·cases h
  ·cases h
theorem zSA {fn:Func}{st:St}{a:Act}(hF:FRel U st.hp nt st.fr a)(hM:MRel U base w0 st.hp w){v:V}(hk:fn.results.toList.all (resOk P)=true)(h:Am.results st (fn.results.toList.map (trRes P))=some v) :
  (Go.results fn a.tmps).run P w=.ok (cv U v) w/\VOk st.hp v:=by
 rw[results_eq]
 have hm:∀ vs,zOa st (fn.results.toList.map (trRes P))=some vs->(fn.results.mapM (resM a.tmps)).run P w=.ok (cvl U vs).toArray w/\VsOk st.hp vs:=by
  intro vs hvs
  obtain⟨h1,h2⟩:=resAll_sound hF hM _ vs hk hvs
  refine⟨?_,h2⟩
  have:fn.results.mapM (resM a.tmps)=List.toArray <$> fn.results.toList.mapM (resM a.tmps):=by
   rw[<- List.mapM_toArray]
  rw[this,Sem.run_map,h1]
  rfl
 unfold Am.results at h
 split at h
 ·rename_i v' hvs
  cases h
  obtain⟨h1,h2⟩:=hm _ hvs
  refine⟨?_,h2.1⟩
  simp only[Sem.run_bind,h1,Result.andThen_ok,Sem.run_pure,cvl]
  rfl
 ·rename_i vs hne hvs
  cases h
  obtain⟨h1,h2⟩:=hm _ hvs
  refine⟨?_,h2⟩
  simp only[Sem.run_bind,h1,Result.andThen_ok,Sem.run_pure]
  rw[dif_neg]
  ·rfl
  ·intro hs
   cases vs with
   | nil=>simp[cvl]at hs
   | cons x xs =>
    cases xs with
    | nil=>exact hne x rfl
    | cons y ys=>simp[cvl]at hs
 ·cases h
theorem frameOf_get:∀ (vs:List V) (i:Nat) (fr:T V) (t:Nat) (v:V),(zNt vs i fr).get t=some v->(i<=t/\vs[t-i]?=some v)∨fr.get t=some v:=by
 intro vs
 induction vs with
 | nil=>intro i fr t v h;exact .inr h
 | cons x vs ih =>
  intro i fr t v h
  simp only[zNt]at h
  rcases ih (i+1) _ t v h with⟨h1,h2⟩ | h1
  ·refine .inl ⟨by omega,?_⟩
   rw[show t-i=(t-(i+1))+1 by omega]
   exact h2
  ·rw[T.get_set]at h1
   split at h1
   ·rename_i e
    subst e
    exact .inl ⟨Nat.le_refl _,by simpa using h1⟩
   ·exact .inr h1
def FnOk (P:Program)(f:FuncId)(fn:Fun):Prop :=
 ∃ g code,P.funcs[f]?=some g/\g.body=some code/\zEp P f=true/\Tr P g.ntmps code fn.body/\fn.res=g.results.toList.map (trRes P)/\g.results.toList.all (resOk P)=true
def zDf (P:Program)(base:Base)(w0:World)(f:FuncId)(p:List V->Heap->Tape->Option (V × Heap × Tape)):Prop :=
 zRh p/\∀ vs H U w,MRel U base w0 H w->GOk P U H->VsOk H vs->(∀ Z,p vs H Z≠none) ->
  zEp P f=true/\Calls P f (cvl U vs).toArray w fun e w' =>
   ∃ v H' U' pre,e=.returned (cv U' v)/\(∀ Z,p vs H (Tape.app pre Z)=some (v,H',Z))/\MRel U' base w0 H' w'/\Ext H U U'/\Evol H H'/\VOk H' v
def zQo (P:Program)(base:Base)(w0:World)(f:FuncId):Def->Prop
 | .fn fn=>FnOk P f fn
 | .prim p=>zDf P base w0 f p
theorem zRc (hm:P.follows .mixedOrders=true){prog:Nat->Option Def}(hp:∀ f d,prog f=some d->∀ base w0,zQo P base w0 f d)(N:Nat):∀ k base w0,zEu P base w0 (call prog N k):=by
 intro k
 induction k with
 | zero=>intro base w0 f vs H U w _ _ _ h;exact absurd rfl (h (fun _=>0))
 | succ k ih =>
  intro base w0 f vs H U w hM hG hok h
  have hcall:∀ Z,call prog N (k+1) f vs H Z=zJa (call prog N k) N (prog f) vs H Z:=fun Z=>rfl
  simp only[hcall]at h ⊢
  cases hd:prog f with
  | none=>rw[hd]at h;exact absurd rfl (h (fun _=>0))
  | some d =>
   rw[hd]at h
   have hok':=hp f d hd base w0
   cases d with
   | prim p=>exact hok'.2 vs H U w hM hG hok h
   | fn fn =>
    obtain⟨g,code,hg,hb,hpl,htr,hres,hrk⟩:=hok'
    refine⟨hpl,?_⟩
    have hlen:Nat.beq vs.length fn.nparams=true:=by
     cases hb:Nat.beq vs.length fn.nparams with
     | true=>rfl
     | false =>
      have:=h (fun _=>0)
      simp only[zJa,hb,cond_false]at this
      exact absurd rfl this
    simp only[zJa,hlen,cond_true]at h ⊢
    have hF:FRel U H g.ntmps (zNt vs 0 .leaf) { tmps:=(cvl U vs).toArray++Array.replicate (g.ntmps-(cvl U vs).toArray.size) undef,defers:=[] }:=by
     refine⟨rfl,?_,fun t v ht=>?_⟩
     ·simp only[Array.size_append,Array.size_replicate]
      omega
     ·rcases frameOf_get vs 0 .leaf t v ht with⟨_,h1⟩ | h1
      ·rw[Nat.sub_zero]at h1
       have hlt:t<vs.length:=(List.getElem?_eq_some_iff.1 h1).1
       refine⟨?_,(zw H vs).1 hok v (List.mem_of_getElem? h1)⟩
       rw[Array.getElem?_append_left (by simp[zy,hlt])]
       have:=zFy U vs t
       rw[h1]at this
       simpa using this
      ·rw[T.get_leaf]at h1;cases h1
    refine calls_of_wp hg hb (wp_mono (exec_wp hm (call prog N k) (ev_call (fun f p hf=>(show zDf P base w0 f p from hp f _ hf base w0).1) N k) ih N htr U ⟨zNt vs 0 .leaf,H⟩ _ w hF hM hG ?_) ?_)
    ·intro Z hn
     exact h Z (by rw[hn])
    ·rintro e a' w' ⟨ex,st',U',pre,k1,rfl,k3,k4,k5,k6,k7⟩
     have hx:=h (Tape.app pre (fun _=>0))
     rw[k1]at hx
     have fin:∀ v,Am.results st' fn.res=some v->(Go.results g a'.tmps).run P w'=.ok (cv U' v) w'/\VOk st'.hp v:=by
      intro v hv
      rw[hres]at hv
      exact zSA k3 k4 hrk hv
     cases ex with
     | exit id=>exact absurd rfl hx
     | normal =>
      simp only at hx
      cases hr:Am.results st' fn.res with
      | none=>rw[hr]at hx;exact absurd rfl hx
      | some v =>
       obtain⟨m1,m2⟩:=fin v hr
       exact⟨k3.defers,cv U' v,m1,v,st'.hp,U',pre,rfl,fun Z=>by simp only[k1,hr],k4,k6,k7,m2⟩
     | ret =>
      simp only at hx
      cases hr:Am.results st' fn.res with
      | none=>rw[hr]at hx;exact absurd rfl hx
      | some v =>
       obtain⟨m1,m2⟩:=fin v hr
       exact⟨k3.defers,cv U' v,m1,v,st'.hp,U',pre,rfl,fun Z=>by simp only[k1,hr],k4,k6,k7,m2⟩
end
end Go.Am

namespace Go.Am
open Go.RowKit (Below)
theorem zQV:∀ (l:List (Option (List V))) (H:Heap),(zD8 l H).size=H.size+l.length:=by
 intro l
 induction l with
 | nil=>intro H;rfl
 | cons x l ih =>
  intro H
  cases x <;> simp only[zD8,ih,List.length_cons] <;> omega
theorem mkHeap_blk:∀ (l:List (Option (List V))) (H:Heap) (id:Nat) (b:B),(zD8 l H).blk.get id=some b->H.blk.get id=some b∨∃ j,id=H.size+j/\((∃ cs,l[j]?=some (some cs)/\b=.mem cs cs.length id 0 false false 0)∨(l[j]?=some none/\b=.gone)):=by
 intro l
 induction l with
 | nil=>intro H id b h;exact .inl h
 | cons x l ih =>
  intro H id b h
  cases x with
  | none =>
   simp only[zD8]at h
   rcases ih _ id b h with h | ⟨j,hj,h⟩
   ·rw[T.get_set]at h
    split at h
    ·rename_i e
     exact .inr ⟨0,by omega,.inr ⟨rfl,by cases h;rfl⟩⟩
    ·exact .inl h
   ·exact .inr ⟨j+1,by simp only at hj;omega,h⟩
  | some cs =>
   simp only[zD8]at h
   rcases ih _ id b h with h | ⟨j,hj,h⟩
   ·rw[T.get_set]at h
    split at h
    ·rename_i e
     exact .inr ⟨0,by omega,.inl ⟨cs,rfl,by cases h;rw[e]⟩⟩
    ·exact .inl h
   ·exact .inr ⟨j+1,by simp only at hj;omega,h⟩
theorem zRE:∀ (l:List (Option (List V))) (H:Heap) (f:Nat),f<H.size->(zD8 l H).fams.get f=H.fams.get f:=by
 intro l
 induction l with
 | nil=>intro H f _;rfl
 | cons x l ih =>
  intro H f hf
  cases x with
  | none=>simp only[zD8];rw[ih _ f (by simp only;omega)]
  | some cs=>simp only[zD8];rw[ih _ f (by simp only;omega),T.get_set_ne _ _ (by omega)]
theorem zNR:∀ (l:List (Option (List V))) (H:Heap) (j:Nat) (cs:List V),l[j]?=some (some cs)->(zD8 l H).fams.get (H.size+j)=some (0,0):=by
 intro l
 induction l with
 | nil=>intro H j cs h;simp at h
 | cons x l ih =>
  intro H j cs h
  cases j with
  | zero =>
   simp only[List.getElem?_cons_zero,Option.some.injEq]at h
   subst h
   simp only[zD8]
   rw[zRE _ _ _ (by simp only;omega)]
   exact T.get_set_same _ _ _
  | succ j =>
   have h':l[j]?=some (some cs):=by simpa using h
   cases x with
   | none =>
    simp only[zD8]
    have:=ih { size:=H.size+1,blk:=H.blk.s H.size .gone,fams:=H.fams } j cs h'
    rw[show H.size+(j+1)=H.size+1+j by omega]
    exact this
   | some c =>
    simp only[zD8]
    have:=ih { size:=H.size+1,blk:=H.blk.s H.size (.mem c c.length H.size 0 false false 0),fams:=H.fams.s H.size (0,0) } j cs h'
    rw[show H.size+(j+1)=H.size+1+j by omega]
    exact this
theorem mkHeap_fam:∀ (l:List (Option (List V))) (H:Heap) (f:Nat) (x:Nat × Nat),(zD8 l H).fams.get f=some x->H.fams.get f=some x∨(f<H.size+l.length/\x=(0,0)):=by
 intro l
 induction l with
 | nil=>intro H f x h;exact .inl h
 | cons y l ih =>
  intro H f x h
  cases y with
  | none =>
   simp only[zD8]at h
   rcases ih _ f x h with h | ⟨h1,h2⟩
   ·exact .inl h
   ·exact .inr ⟨by simp only[List.length_cons]at h1 ⊢;omega,h2⟩
  | some cs =>
   simp only[zD8]at h
   rcases ih _ f x h with h | ⟨h1,h2⟩
   ·rw[T.get_set]at h
    split at h
    ·rename_i e
     cases h
     exact .inr ⟨by simp only[List.length_cons];omega,rfl⟩
    ·exact .inl h
   ·exact .inr ⟨by simp only[List.length_cons]at h1 ⊢;omega,h2⟩
def H0:Heap:=⟨0,.leaf,.leaf⟩
def start (l:List (Option (List V))):Heap:=zD8 l H0
theorem zF3 {l:List (Option (List V))}{id:Nat}{b:B}(h:(start l).blk.get id=some b):(∃ cs,l[id]?=some (some cs)/\b=.mem cs cs.length id 0 false false 0)∨(l[id]?=some none/\b=.gone):=by
 rcases mkHeap_blk l H0 id b h with h | ⟨j,hj,h⟩
 ·exact absurd h (by simp[H0,T.get])
 ·have:j=id:=by simp only[H0]at hj;omega
  subst this
  exact h
theorem MRel.start (W:World)(U:Inj)(l:List (Option (List V)))(hok:∀ id cs,l[id]?=some (some cs)->VsOk (start l) cs/\BOk U W.heap.size W id cs cs.length false):MRel U (baseOf W) W (start l) W:=by
 have hmem:∀ {id cs room fam ver wr pl st},(Am.start l).blk.get id=some (.mem cs room fam ver wr pl st)->l[id]?=some (some cs)/\room=cs.length/\fam=id/\ver=0/\wr=false:=by
  intro id cs room fam ver wr pl st h
  rcases zF3 h with⟨cs',h1,h2⟩ | ⟨_,h2⟩
  ·cases h2;exact⟨h1,rfl,rfl,rfl,rfl⟩
  ·cases h2
 have hsize:(Am.start l).size=l.length:=by
  unfold Am.start
  rw[zQV]
  simp[H0]
 refine⟨⟨Below.refl _ _,fun A hA=>by cases hA⟩,Nat.le_refl _,?_,?_,?_,?_,?_,?_,?_,?_,?_,?_,fun _ _ _ _ _ _ _ _ _ _ _ _ _=>by simp,fun id cs room fam ver wr st fr la h _ _ _=>(by
   rcases zF3 h with⟨_,_,h2⟩ | ⟨_,h2⟩ <;>(cases h2)),fun i cs room fam ver wr pl st j cs' room' ver' wr' pl' st' h1 h2=>(by
   rcases zF3 h1 with⟨_,_,h3⟩ | ⟨_,h3⟩
   ·rcases zF3 h2 with⟨_,_,h4⟩ | ⟨_,h4⟩
    ·cases h3;cases h4;rfl
    ·cases h4
   ·cases h3),fun id es clk h=>(by
   rcases zF3 h with⟨_,_,h2⟩ | ⟨_,h2⟩ <;>(cases h2)),fun i es c1 j es' c2 h=>(by
   rcases zF3 h with⟨_,_,h2⟩ | ⟨_,h2⟩ <;>(cases h2))⟩
 ·intro id b h
  rw[hsize]
  rcases zF3 h with⟨cs,h1,_⟩ | ⟨h1,_⟩ <;> exact(List.getElem?_eq_some_iff.1 h1).1
 ·intro id cs room fam ver wr pl st h
  obtain⟨h1,rfl,rfl,rfl,rfl⟩:=hmem h
  refine⟨by rw[hsize];exact(List.getElem?_eq_some_iff.1 h1).1,0,0,?_,Nat.le_refl _⟩
  have:=zNR l H0 fam cs h1
  rw[show H0.size+fam=fam from Nat.zero_add _]at this
  exact this
 ·intro id cs room fam ver wr pl st h
  obtain⟨h1,rfl,rfl,rfl,rfl⟩:=hmem h
  exact⟨Nat.le_refl _,(hok fam cs h1).1⟩
 ·intro id cs room fam ver wr pl st fr la h _ _
  obtain⟨h1,rfl,rfl,rfl,rfl⟩:=hmem h
  exact(hok fam cs h1).2
 ·intro i cs room fam ver pl st fr la j cs' room' fam' ver' wr' pl' st' fr' la' h
  obtain⟨_,_,_,_,h5⟩:=hmem h
  cases h5
 ·intro i cs room fam ver wr pl st j cs' room' wr' pl' st' h1 h2
  obtain⟨_,_,h3,_⟩:=hmem h1
  obtain⟨_,_,h4,_⟩:=hmem h2
  rw[<- h3,<- h4]
 ·intro id s pos h
  rcases zF3 h with⟨cs,_,h2⟩ | ⟨_,h2⟩ <;> cases h2
 ·intro f x h
  rcases mkHeap_fam l H0 f x h with h | ⟨h,_⟩
  ·exact absurd h (by simp[H0,T.get])
  ·rw[hsize]
   simpa [H0] using h
 ·intro i cs room fam ver wr pl st fr la j cs' room' ver' wr' pl' st' h1 _ _ h4 _ _ _
  obtain⟨a1,_,h3,_⟩:=hmem h1
  obtain⟨a2,_,h4,_⟩:=hmem h4
  have e:i=j:=by rw[<- h3,<- h4]
  subst e
  rw[a1]at a2
  cases a2
  exact Nat.le_refl _
 ·intro i s p j s' p' h
  rcases zF3 h with⟨cs,_,h2⟩ | ⟨_,h2⟩ <;> cases h2
theorem zO8 (l:List (Option (List V))):(start l).size=l.length:=by
 unfold start
 rw[zQV]
 simp[H0]
theorem call_start {P:Program}(hm:P.follows .mixedOrders=true){prog:Nat->Option Def}{W:World}(hp:∀ f d,prog f=some d->∀ base w0,zQo P base w0 f d)(N k:Nat)(f:FuncId)(vs:List V)(l:List (Option (List V)))(U:Inj)
  (hok:∀ id cs,l[id]?=some (some cs)->VsOk (start l) cs/\BOk U W.heap.size W id cs cs.length false) (hg:∀ g,g<P.globals.size->U g=(g,0)) (hgl:P.globals.size<=l.length) (hvs:VsOk (start l) vs)
  (R:V->Heap->Prop) (h:∀ Z,∃ v H' Z',call prog N k f vs (start l) Z=some (v,H',Z')/\R v H') :
  Calls P f (cvl U vs).toArray W fun e W'=>∃ v H' U',e=.returned (cv U' v)/\R v H'/\MRel U' (baseOf W) W H' W'/\VOk H' v:=by
 have hM:=MRel.start W U l hok
 have hs:=zRc hm hp N k (baseOf W) W f vs (start l) U W hM ⟨hg,by rw[zO8];exact hgl⟩ hvs (fun Z hn=>by
  obtain⟨v,H',Z',h1,_⟩:=h Z
  rw[h1]at hn;cases hn)
 refine hs.2.mono fun e W' ⟨v,H',U',pre,h1,h2,h3,_,_,h6⟩=>⟨v,H',U',h1,?_,h3,h6⟩
 obtain⟨v2,H2,Z2,k1,k2⟩:=h (Tape.app pre (fun _=>0))
 rw[h2]at k1
 cases k1
 exact k2
def isTrue:Option (V × Heap × Tape)->Bool
 | some (.bool true,_,_)=>true
 | _=>false
theorem call_true {P:Program}(hm:P.follows .mixedOrders=true){prog:Nat->Option Def}{W:World}(hp:∀ f d,prog f=some d->∀ base w0,zQo P base w0 f d)(N k:Nat)(f:FuncId)(vs:List V)(l:List (Option (List V)))(U:Inj)
  (hok:∀ id cs,l[id]?=some (some cs)->VsOk (start l) cs/\BOk U W.heap.size W id cs cs.length false) (hg:∀ g,g<P.globals.size->U g=(g,0)) (hgl:P.globals.size<=l.length) (hvs:VsOk (start l) vs)
  (h:∀ Z,isTrue (call prog N k f vs (start l) Z)=true) :
  Calls P f (cvl U vs).toArray W fun e W'=>e=.returned (.bool true)/\Below W.heap.size W W':=by
 refine(call_start hm hp N k f vs l U hok hg hgl hvs (fun v _=>v=.bool true) fun Z=>?_).mono fun e W' ⟨v,H',U',h1,h2,h3,_⟩=>?_
 ·have:=h Z
  unfold isTrue at this
  split at this
  ·rename_i H' Z' hr
   exact⟨_,_,_,hr,rfl⟩
  ·cases this
 ·subst h2
  exact⟨h1,h3.below.low⟩
end Go.Am

namespace Go.Am
open Go.RowKit (Below)
def zOj {H:Type}:Nat->DataW H->Option (List V)
 | 0,_=>none
 | n+1,d=>match d with
  | .lit (.int k z)=>some [.int k z]
  | .agg ps=>match zAs (zOj n) ps with
   | some ls=>some ls.flatten
   | none=>none
  | _=>none
def contig:List (Nat × Nat)->Nat->Nat->Bool
 | [],o,n=>o == n
 | (p,s)::l,o,n=>p == o && contig l (o+s) n
def tyOk (P:Program):Nat->TypeId->Bool
 | 0,_=>false
 | n+1,t=>match P.underlying t with
  | some (.int _)=>true
  | some (.struct fs)=>contig (fs.toList.map fun f=>(f.offset,P.cellsOf f.type)) 0 (P.cellsOf t) && fs.toList.all fun f=>tyOk P n f.type
  | some (.array m e)=>contig ((List.range m).map fun i=>(i*P.cellsOf e,P.cellsOf e)) 0 (P.cellsOf t) && tyOk P n e
  | _=>false
section
variable {H:Type} {enc:TypeId × Value->H} {P:Program} {w:World} {base:Nat} {sp:Nat->Bool} {held:Bool}
theorem zRf {α:Type}{fuel m n:Nat}{cs:List Value}(U:Inj)(ty:α->TypeId)(off sz:α->Nat)
  (ih:∀ (t:TypeId) (cs:List Value) (d:DataW H) (p:List MemPlace) (l:List V),DataW.trod enc P w base sp held fuel t cs=some (d,p)->tyOk P n t=true->zOj m d=some l->cvl U l=cs) :
  ∀ (as:List α) (xs:List (DataW H × List MemPlace)) (ls:List (List V)) (o:Nat),as.mapM (fun a=>DataW.trod enc P w base sp held fuel (ty a) ((cs.drop (off a)).take (sz a)))=some xs->as.all (fun a=>tyOk P n (ty a))=true ->
   zAs (zOj m) (xs.map (·.1))=some ls->contig (as.map fun a=>(off a,sz a)) o cs.length=true->cvl U ls.flatten=cs.drop o:=by
 intro as
 induction as with
 | nil =>
  intro xs ls o h _ h3 h4
  simp only[List.mapM_nil,Option.pure_def,Option.some.injEq]at h
  subst h
  simp only[List.map_nil,zAs,Option.some.injEq]at h3
  subst h3
  simp only[List.map_nil,contig,beq_iff_eq]at h4
  subst h4
  simp[cvl]
 | cons a as iha =>
  intro xs ls o h h2 h3 h4
  simp only[List.mapM_cons,Option.bind_eq_bind,Option.bind_eq_some_iff,Option.pure_def,Option.some.injEq]at h
  obtain⟨x,hx,xs',hxs',rfl⟩:=h
  simp only[List.all_cons,Bool.and_eq_true]at h2
  simp only[List.map_cons,zAs]at h3
  split at h3
  ·rename_i l0 hl0
   split at h3
   ·rename_i ls' hls'
    cases h3
    simp only[List.map_cons,contig,Bool.and_eq_true,beq_iff_eq]at h4
    obtain⟨h5,h6⟩:=h4
    have e1:=ih (ty a) _ x.1 x.2 l0 hx h2.1 hl0
    have e2:=iha xs' ls' (o+sz a) hxs' h2.2 hls' h6
    rw[List.flatten_cons,zO6,e1,e2,h5]
    rw[<- List.drop_drop]
    exact List.take_append_drop _ _
   ·cases h3
  ·cases h3
theorem trod_flat (U:Inj):∀ (fuel n m:Nat) (t:TypeId) (cs:List Value) (d:DataW H) (p:List MemPlace) (l:List V),DataW.trod enc P w base sp held fuel t cs=some (d,p)->tyOk P n t=true->zOj m d=some l->cvl U l=cs:=by
 intro fuel
 induction fuel with
 | zero=>intro n m t cs d p l h;simp[DataW.trod]at h
 | succ fuel ih =>
  intro n m t cs d p l h ht hl
  cases n with
  | zero=>simp[tyOk]at ht
  | succ n =>
   simp only[tyOk]at ht
   split at ht
   ·rename_i k hk
    obtain⟨z,rfl,hx,_⟩:=DataW.trod_int hk h
    cases hx
    cases m with
    | zero=>simp[zOj]at hl
    | succ m =>
     simp only[zOj,Option.some.injEq]at hl
     subst hl
     rfl
   ·rename_i fs hfs
    simp only[Bool.and_eq_true]at ht
    simp only[DataW.trod,hfs]at h
    split at h
    ·rename_i hlen
     obtain⟨xs,hm,hx⟩:=Option.map_eq_some_iff.1 h
     cases hx
     cases m with
     | zero=>simp[zOj]at hl
     | succ m =>
      simp only[zOj]at hl
      split at hl
      ·rename_i ls hls
       cases hl
       have:=zRf (cs:=cs) U (fun f:Field=>f.type) (fun f=>f.offset) (fun f=>P.cellsOf f.type) (fun t cs d p l=>ih n m t cs d p l) fs.toList xs ls 0 hm ht.2 hls (by rw[hlen];exact ht.1)
       simpa using this
      ·cases hl
    ·cases h
   ·rename_i k e hk
    simp only[Bool.and_eq_true]at ht
    simp only[DataW.trod,hk]at h
    split at h
    ·rename_i hlen
     obtain⟨xs,hm,hx⟩:=Option.map_eq_some_iff.1 h
     cases hx
     cases m with
     | zero=>simp[zOj]at hl
     | succ m =>
      simp only[zOj]at hl
      split at hl
      ·rename_i ls hls
       cases hl
       have:=zRf (cs:=cs) U (fun _:Nat=>e) (fun i=>i*P.cellsOf e) (fun _=>P.cellsOf e) (fun t cs d p l=>ih n m t cs d p l) (List.range k) xs ls 0 hm (by simp[ht.2]) hls (by rw[hlen];exact ht.1)
       simpa using this
      ·cases hl
    ·cases h
   ·cases ht
end
theorem flatV_ok {H:Type}(K:Heap):∀ (n:Nat) (d:DataW H) (l:List V),zOj n d=some l->VsOk K l:=by
 intro n
 induction n with
 | zero=>intro d l h;simp[zOj]at h
 | succ n ih =>
  intro d l h
  simp only[zOj]at h
  split at h
  ·cases h;exact⟨trivial,trivial⟩
  ·rename_i ps
   split at h
   ·rename_i ls hls
    cases h
    rw[zw]
    intro v hv
    obtain⟨l',hl',hv'⟩:=List.mem_flatten.1 hv
    rw[List.mem_iff_getElem?]at hl'
    obtain⟨j,hj⟩:=hl'
    obtain⟨h1,h2⟩:=zN5 _ _ _ hls
    have hjl:j<ps.length:=by rw[<- h1];exact(List.getElem?_eq_some_iff.1 hj).1
    exact(zw K l').1 (ih ps[j] l' (h2 j ps[j] l' (List.getElem?_eq_getElem hjl) hj)) v hv'
   ·cases h
  ·cases h
def zJX (P:Program)(laid:List (String × DataW Unit)):List (Option (List V)) :=
 (List.range P.globals.size).map fun g =>
  match laid.find? fun x=>P.globalNamed x.1 == some g && ((P.globals[g]?).map fun gl=>tyOk P 5 gl.type) == some true with
  | some x=>zOj 5 x.2
  | none=>none
theorem laid_mem {P:Program}{W:World}:∀ (laid:List (String × DataW Unit)) (ps:List MemPlace),DataW.LaidVars P W laid ps->∀ x ∈ laid,∃ g t cs fuel p,P.globalNamed x.1=some g/\(P.globals[g]?).map (·.type)=some t/\W.var? P x.1=some cs /\
  DataW.trod (fun _=>()) P W 0 (fun _=>true) false fuel t cs.toList=some (x.2,p):=by
 intro laid
 induction laid with
 | nil=>intro ps _ x hx;cases hx
 | cons y laid ih =>
  intro ps h x hx
  obtain⟨n,d⟩:=y
  obtain⟨g,t,cs,fuel,p,q,h1,h2,h3,h4,h5,_⟩:=h
  rcases List.mem_cons.1 hx with rfl | hx
  ·exact⟨g,t,cs,fuel,p,h1,h2,h3,h4⟩
  ·exact ih q h5 x hx
theorem startOf_ok {P:Program}{W:World}{laid:List (String × DataW Unit)}(h:laidMet P laid W){U:Inj}(hU:∀ g,g<P.globals.size->U g=(g,0))(K:Heap):∀ id cs,(zJX P laid)[id]?=some (some cs)->VsOk K cs/\BOk U W.heap.size W id cs cs.length false:=by
 intro id cs hid
 obtain⟨ps,hps,_⟩:=h
 unfold zJX at hid
 rw[List.getElem?_map]at hid
 have hlt:id<P.globals.size:=by
  rcases Nat.lt_or_ge id P.globals.size with h | h
  ·exact h
  ·rw[List.getElem?_eq_none (by simpa using h)]at hid;cases hid
 rw[List.getElem?_range hlt]at hid
 simp only[Option.map_some,Option.some.injEq]at hid
 split at hid
 ·rename_i x hx
  have hmem:=List.mem_of_find?_eq_some hx
  have hprop:=List.find?_some hx
  simp only[Bool.and_eq_true,beq_iff_eq]at hprop
  obtain⟨hg,hty⟩:=hprop
  obtain⟨g,t,vs,fuel,p,h1,h2,h3,h4⟩:=laid_mem laid ps hps x hmem
  rw[hg]at h1
  obtain rfl:=Option.some.inj h1
  have htok:tyOk P 5 t=true:=by
   cases hgl:P.globals[id]? with
   | none=>rw[hgl]at h2;cases h2
   | some gl =>
    rw[hgl]at h2 hty
    simp only[Option.map_some,Option.some.injEq]at h2 hty
    rw[<- h2];exact hty
  have hcells:=trod_flat U fuel 5 5 t vs.toList x.2 p cs h4 htok hid
  refine⟨flatV_ok K 5 x.2 cs hid,?_⟩
  unfold World.var? at h3
  rw[hg]at h3
  simp only[Option.bind_some]at h3
  split at h3
  ·rename_i c el fr hheap
   cases h3
   refine⟨vs,el,fr.1,fr.2,by rw[hU id hlt];exact hheap,?_,?_,fun h=>by cases h⟩
   ·rw[hU id hlt]
    have:=congrArg List.length hcells
    rw[zy]at this
    simp only[Array.length_toList]at this
    simp only
    omega
   ·intro j v hv
    rw[hU id hlt]
    have:=zFy U cs j
    rw[hv,hcells]at this
    simpa using this
  ·cases h3
 ·cases hid
theorem zSC {H:Type}{enc:TypeId × Value->H}{P:Program}(hl:laidOutB P=true){W W':World}(hb:Below W.heap.size W W'):∀ {ts:List TypeId} {vs:List Value} {ds:List (DataW H)} {ps:List MemPlace},
  (ts.all fun t=>P.readableRec t && decide (t<P.types.size))=true->DataW.TrodAll enc P W 0 (fun _=>true) true ts vs ds ps->(∀ x ∈ ps,x.block<W.heap.size) ->
  ∀ sp:Nat->Bool,(∀ p ∈ ps,sp p.block=true)->DataW.TrodAll enc P W' 0 sp true ts vs ds ps:=by
 intro ts
 induction ts with
 | nil=>intro vs ds ps _ h _ sp _;cases vs <;> cases ds <;> exact h
 | cons t ts ih =>
  intro vs ds ps hk h hlt sp hsp
  cases vs with
  | nil=>cases ds <;> exact h.elim
  | cons v vs =>
   cases ds with
   | nil=>exact h.elim
   | cons d ds =>
    obtain⟨p,q,h1,h2,rfl⟩:=h
    simp only[List.all_cons,Bool.and_eq_true,decide_eq_true_eq]at hk
    refine⟨p,q,?_,ih hk.2 h2 (fun x hx=>hlt x (by simp[hx])) sp (fun x hx=>hsp x (by simp[hx])),rfl⟩
    exact WideElems.Trod_stays hl hk.1.1 hk.1.2 h1 (fun x hx=>hb.same (hlt x (by simp[hx]))) (fun x hx=>hsp x (by simp[hx]))
theorem law_post {H:Type}{enc:TypeId × Value->H}{P:Program}{f:Func}{s:ChangeSpec}{apart fresh handsOn again:Bool}{W W':World}{args:Array Value}{ds gs:List (DataW H)}{before:List MemPlace}{t:TypeId}
  (hl:laidOutB P=true) (hvars:s.vars=[]) (hs:s.fn H (ds++gs)={ results:=[.lit (.bool true)],args:=ds }) (hr:f.resultTypes=#[t]) (ht:P.underlying t=some .bool)
  (hrow:(f.params.toList.all fun t=>P.readableRec t && decide (t<P.types.size))=true)
  (hW:DataW.Whole enc P f.params.toList s.vars apart W args.toList ds gs before) (hb:Below W.heap.size W W') :
  s.post enc P f apart fresh handsOn again W args (.bool true) W':=by
 have hlt:∀ x ∈ before,x.block<W.heap.size:=fun x hx=>by simpa using hW.lt x hx
 have hW':=hW
 obtain⟨p,q,hA,hV,he,hz,hn⟩:=hW
 have hgs:gs=[]/\q=[]:=by
  rw[hvars]at hV
  cases gs with
  | nil=>exact⟨rfl,hV⟩
  | cons g gs=>exact hV.elim
 obtain⟨rfl,rfl⟩:=hgs
 rw[List.append_nil]at he
 subst he
 have hargs:∀ sp:Nat->Bool,(∀ x ∈ before,sp x.block=true)->DataW.TrodAll enc P W' 0 sp true f.params.toList args.toList (s.fn H (ds++[])).args before:=by
  intro sp hsp
  rw[hs]
  exact zSC hl hb hrow hA hlt sp hsp
 have hres:∀ (b:Nat) (sp:Nat->Bool) (hd:Bool),DataW.TrodAll enc P W' b sp hd f.resultTypes.toList ((Value.bool true).resultList f.resultTypes.size) (s.fn H (ds++[])).results []:=by
  intro b sp hd
  rw[hs,hr]
  exact ChangeShapes.trodAll_mk1 (RowKit.shut_bool ht true)
 have hvs:∀ sp:Nat->Bool,DataW.TrodVars enc P W' sp s.vars (s.fn H (ds++[])).vars []:=by
  intro sp
  rw[hvars,hs]
  rfl
 have hold:∀ x ∈ before,(fun b=>decide (b<W.heap.size)) x.block=true:=fun x hx=>by simpa using hlt x hx
 refine⟨ds,[],before,[],before,[],hW',hres _ _ _,hargs _ hold,hvs _,World.keptBut_mono (fun x hx=>⟨hx,.inr (by simpa using hx)⟩) (hb.frame _),fun _=>?_⟩
 refine⟨RowKit.ok_one hr rfl (RowKit.okWide_bool_mk ht true),_,_,([]++before)++[],⟨[]++before,[],ChangeShapes.trodAll_append (hargs _ (fun _ _=>rfl)) (hres _ _ _),hvs _,rfl,?_,?_⟩,?_⟩
 ·intro b off hp
  have hp':MemPlace.cell b off ∈ before:=by simpa using hp
  rw[hb.frozen (hlt _ hp')]
  exact hz b off hp'
 ·intro ha
  simpa using hn ha
 ·intro x hx _
  simpa using hx
end Go.Am

namespace Go.Am
abbrev Ans:=Option (V × Heap × Tape)
abbrev KV:=V->Heap->Tape->Ans
abbrev KC:=Ex->St->Tape->Ans
abbrev zG:=Nat->List V->Heap->Tape->KV->Ans
def retK:KV:=fun v H Z=>some (v,H,Z)
def intK (b:BinOp)(k:IntKind)(x y:Int)(c:V->Ans):Ans :=
 match b with
 | .add=>mkI k (wr k (x+y)) c
 | .sub=>mkI k (wr k (x-y)) c
 | .mul=>mkI k (wr k (x*y)) c
 | .quo=>match y with
  | .ofNat 0=>none
  | _=>mkI k (wr k (x.tdiv y)) c
 | .rem=>match y with
  | .ofNat 0=>none
  | _=>mkI k (x.tmod y) c
 | .eql=>c (.bool (x == y))
 | .neq=>c (.bool (x != y))
 | .lss=>c (.bool (decide (x<y)))
 | .leq=>c (.bool (decide (x<=y)))
 | .gtr=>c (.bool (decide (y<x)))
 | .geq=>c (.bool (decide (y<=x)))
 | b=>match zQp b k x y with
  | some n=>mkI k n c
  | none=>none
def zQL (b:BinOp)(k:IntKind)(x y:Int)(c:V->Ans):Ans :=
 match y with
 | .negSucc _=>none
 | .ofNat m =>
  zMw (min m k.bits) fun n =>
  match b with
  | .shl=>mkI k (wr k (x*(Nat.pow 2 n:Nat))) c
  | .shr=>mkI k (x.fdiv (Nat.pow 2 n:Nat)) c
  | _=>none
def zC (o:Option V)(c:V->Ans):Ans :=
 match o with
 | some v=>c v
 | none=>none
def zB4 (b:BinOp)(k:IntKind)(x:Int)(k':IntKind)(y:Int)(c:V->Ans):Ans :=
 match b with
 | .shl=>zQL .shl k x y c
 | .shr=>zQL .shr k x y c
 | b=>if k=k' then intK b k x y c else none
def binK (b:BinOp)(x y:V)(c:V->Ans):Ans :=
 match x with
 | .int k x=>match y with
  | .int k' y=>zB4 b k x k' y c
  | _=>none
 | .str x=>match y with
  | .str y=>zC (zAL b x y) c
  | _=>none
 | _=>none
def zCS (k:IntKind)(x:V)(c:V->Ans):Ans :=
 match x with
 | .int _ n=>mkI k (wr k n) c
 | _=>none
def unK (u:UnOp)(x:V)(c:V->Ans):Ans :=
 match u with
 | .neg=>match x with
  | .int k n=>mkI k (wr k (0-n)) c
  | _=>none
 | u=>zC (unOp u x) c
def pK (o:POp)(vs:List V)(c:V->Ans):Ans :=
 match o with
 | .bin b=>match vs with
  | [x,y]=>binK b x y c
  | _=>none
 | .toInt k=>match vs with
  | [x]=>zCS k x c
  | _=>none
 | .un u=>match vs with
  | [x]=>unK u x c
  | _=>none
 | .mv=>match vs with
  | [x]=>c x
  | _=>none
 | o=>zC (zE9 o vs) c
def effK (o:Ans)(c:KV):Ans :=
 match o with
 | some (v,H,Z)=>c v H Z
 | none=>none
def opK (call:zG)(o:AOp)(vs:List V)(H:Heap)(Z:Tape)(c:KV):Ans :=
 match o with
 | .p o=>pK o vs fun v=>c v H Z
 | .l o=>zC (zGU o vs H) fun v=>c v H Z
 | .e o=>effK (zAi o vs H Z) c
 | .call f=>call f vs H Z c
 | .callv=>match vs with
  | .func f first cap::vs=>call f (first++vs++cap) H Z c
  | _=>none
def gK (g:V)(w:Bool)(body:KV->Ans)(H:Heap)(Z:Tape)(c:KV):Ans :=
 match g with
 | .bool b=>bif b == w then effK (body retK) c else c (.tup []) H Z
 | .tup []=>c (.tup []) H Z
 | _=>none
def argsK (fr:T V)(args:List O)(c:List V->Ans):Ans :=
 match evOs fr args with
 | some vs=>c vs
 | none=>none
def insK (call:zG)(i:Ins)(st:St)(Z:Tape)(c:St->Tape->Ans):Ans :=
 match i.guard with
 | none=>argsK st.fr i.args fun vs=>opK call i.op vs st.hp Z fun v H Z=>c ⟨put st.fr i.dst v,H⟩ Z
 | some (t,w)=>match st.fr.get t with
  | some g=>gK g w (fun c=>argsK st.fr i.args fun vs=>opK call i.op vs st.hp Z c) st.hp Z fun v H Z=>c ⟨put st.fr i.dst v,H⟩ Z
  | none=>none
def regK (call:zG):List Ins->St->Tape->(St->Tape->Ans)->Ans
 | [],st,Z,c=>c st Z
 | i::is,st,Z,c=>insK call i st Z fun st Z=>regK call is st Z c
def drawK (call:zG):List Ins->St->Tape->List Heap->List zPD->(St->Tape->List Heap->List zPD->Ans)->Ans
 | [],st,Z,hs,ls,c=>c st Z hs ls
 | i::is,st,Z,hs,ls,c=>insK call i st Z fun st' Z=>drawK call is st' Z (bif i.op.eff then st'.hp::hs else hs)
   (match i.rng with | none=>ls | some _=>match wants st.fr i.guard with | some true=>noted i st ls | _=>ls) c
def seqK (rest:St->Tape->Ans)(k:KC):KC:=fun ex st Z =>
 match ex with
 | .normal=>rest st Z
 | .exit id=>k (.exit id) st Z
 | .ret=>k .ret st Z
def zW (id:Nat)(k:KC):KC:=fun ex st Z =>
 match ex with
 | .normal=>k .normal st Z
 | .exit id'=>bif Nat.beq id' id then k .normal st Z else k (.exit id') st Z
 | .ret=>k .ret st Z
def zq (body:St->Tape->KC->Ans):Nat->St->Tape->KC->Ans
 | 0,_,_,_=>none
 | n+1,st,Z,k=>body st Z (seqK (fun st Z=>zq body n st Z k) k)
def getK (fr:T V)(i:Nat)(c:V->Ans):Ans :=
 match fr.get i with
 | some v=>c v
 | none=>none
def keepK:List Nat->T V->T V->(T V->Ans)->Ans
 | [],_,acc,c=>c acc
 | i::l,fr,acc,c=>getK fr i fun v=>keepK l fr (acc.s i v) c
def zV (x:V)(a b:Ans):Ans :=
 match x with
 | .bool true=>a
 | .bool false=>b
 | _=>none
def zHw (call:zG)(N:Nat):C->St->Tape->KC->Ans
 | .skip,st,Z,k=>k .normal st Z
 | .reg ops,st,Z,k=>regK call ops st Z fun st Z=>k .normal st Z
 | .draw ops,st,Z,k=>drawK call ops st Z [st.hp] [] fun st Z hs ls=>bif zAZ hs.reverse ls then k .normal st Z else none
 | .seq a b,st,Z,k=>zHw call N a st Z (seqK (fun st Z=>zHw call N b st Z k) k)
 | .cond x a b,st,Z,k=>match evO st.fr x with
  | some x=>zV x (zHw call N a st Z k) (zHw call N b st Z k)
  | none=>none
 | .block id c,st,Z,k=>zHw call N c st Z (zW id k)
 | .loop c,st,Z,k=>zq (zHw call N c) N st Z k
 | .exit id,st,Z,k=>k (.exit id) st Z
 | .ret,st,Z,k=>k .ret st Z
 | .scope c,st,Z,k=>zHw call N c st Z k
 | .keep l c,st,Z,k=>keepK l st.fr .leaf fun fr=>zHw call N c ⟨fr,st.hp⟩ Z k
 | .bad,_,_,_=>none
def endK (rs:List R)(c:KV):KC:=fun ex st Z =>
 match ex with
 | .exit _=>none
 | .normal=>zC (results st rs) fun v=>c v st.hp Z
 | .ret=>zC (results st rs) fun v=>c v st.hp Z
def funK (call:zG)(N:Nat)(fn:Fun)(vs:List V)(H:Heap)(Z:Tape)(c:KV):Ans :=
 bif Nat.beq vs.length fn.nparams then zHw call N fn.body ⟨zNt vs 0 .leaf,H⟩ Z (endK fn.res c)else none
def zPJ (tab:Nat->zG->List V->Heap->Tape->KV->Ans):Nat->zG
 | 0=>fun _ _ _ _ _=>none
 | d+1=>fun f vs H Z c=>tab f (zPJ tab d) vs H Z c
theorem zHe {α:Type}(k:IntKind)(n:Int)(c:V->α):mkI k n c=c (.int k n):=zH6 n _
theorem intK_eq (b:BinOp)(k:IntKind)(x y:Int)(c:V->Ans):intK b k x y c=zC (zRm b k x y) c:=by
 cases b <;> simp only[intK,zRm,zHe,zC] <;>(try split) <;>(try rfl) <;> simp_all
theorem shiftK_eq (b:BinOp)(k:IntKind)(x y:Int)(c:V->Ans):zQL b k x y c=zC (zN3 b k x y) c:=by
 cases y with
 | negSucc m=>rfl
 | ofNat m=>simp only[zQL,zN3,zBG];cases b <;> simp[zHe,zC]
theorem binIntK_eq (b:BinOp)(k:IntKind)(x:Int)(k':IntKind)(y:Int)(c:V->Ans):zB4 b k x k' y c=zC (binInt b k x k' y) c:=by
 cases b <;> simp only[zB4,binInt,shiftK_eq] <;>(try (split <;> simp[intK_eq,zC]))
theorem binK_eq (b:BinOp)(x y:V)(c:V->Ans):binK b x y c=zC (pBin b [x,y]) c:=by
 cases x <;> cases y <;> simp[binK,pBin,binIntK_eq] <;> rfl
theorem toIntK_eq (k:IntKind)(x:V)(c:V->Ans):zCS k x c=zC (pToInt k [x]) c:=by
 cases x <;> simp[zCS,pToInt,zHe,zC]
theorem unK_eq (u:UnOp)(x:V)(c:V->Ans):unK u x c=zC (pUn u [x]) c:=by
 cases u <;> cases x <;> simp[unK,pUn,unOp,zHe,zC]
theorem pK_eq (o:POp)(vs:List V)(c:V->Ans):pK o vs c=zC (zE9 o vs) c:=by
 cases o with
 | bin b =>
  match vs with
  | []=>rfl
  | [_]=>simp[pK,zE9,pBin,zC]
  | [x,y]=>exact binK_eq b x y c
  | x::y::z::l=>cases x <;> cases y <;> rfl
 | toInt k =>
  match vs with
  | []=>rfl
  | [x]=>exact toIntK_eq k x c
  | x::y::l=>cases x <;> rfl
 | un u =>
  match vs with
  | []=>rfl
  | [x]=>exact unK_eq u x c
  | x::y::l=>rfl
 | mv =>
  match vs with
  | []=>rfl
  | [x]=>rfl
  | x::y::l=>rfl
 | _=>rfl
theorem zM2 {o:Option V}{c:V->Ans}{r:V × Heap × Tape}(h:zC o c=some r):∃ v,o=some v/\c v=some r:=by
 cases o with
 | none=>cases h
 | some v=>exact⟨v,rfl,h⟩
theorem zQO {o:Ans}{c:KV}{r:V × Heap × Tape}(h:effK o c=some r):∃ v H Z,o=some (v,H,Z)/\c v H Z=some r:=by
 cases o with
 | none=>cases h
 | some x=>obtain⟨v,H,Z⟩:=x;exact⟨v,H,Z,rfl,h⟩
def Le (cK:zG)(c:zEa):Prop:=∀ f vs H Z k r,cK f vs H Z k=some r->∃ v H' Z',c f vs H Z=some (v,H',Z')/\k v H' Z'=some r
section
variable {cK:zG} {call:zEa} (hle:Le cK call)
include hle
theorem opK_le {o:AOp}{vs:List V}{H:Heap}{Z:Tape}{k:KV}{r:V × Heap × Tape}(h:opK cK o vs H Z k=some r):∃ v H' Z',zAq call o vs H Z=some (v,H',Z')/\k v H' Z'=some r:=by
 cases o with
 | p o =>
  simp only[opK,pK_eq]at h
  obtain⟨v,h1,h2⟩:=zM2 h
  exact⟨v,H,Z,by simp[zAq,h1],h2⟩
 | l o =>
  simp only[opK]at h
  obtain⟨v,h1,h2⟩:=zM2 h
  exact⟨v,H,Z,by simp[zAq,h1],h2⟩
 | e o =>
  simp only[opK]at h
  obtain⟨v,H',Z',h1,h2⟩:=zQO h
  exact⟨v,H',Z',by simp[zAq,h1],h2⟩
 | call f=>exact hle _ _ _ _ _ _ h
 | callv =>
  simp only[opK]at h
  split at h
  ·exact hle _ _ _ _ _ _ h
  ·cases h
omit hle in
theorem zRX {fr:T V}{args:List O}{c:List V->Ans}{r:V × Heap × Tape}(h:argsK fr args c=some r):∃ vs,evOs fr args=some vs/\c vs=some r:=by
 unfold argsK at h
 split at h
 ·rename_i vs e;exact⟨vs,e,h⟩
 ·cases h
theorem insK_le {i:Ins}{st:St}{Z:Tape}{k:St->Tape->Ans}{r:V × Heap × Tape}(h:insK cK i st Z k=some r):∃ st' Z',zBM call i st Z=some (st',Z')/\k st' Z'=some r:=by
 unfold insK at h
 split at h
 ·rename_i hg
  obtain⟨vs,h1,h2⟩:=zRX h
  obtain⟨v,H',Z',h3,h4⟩:=opK_le hle h2
  exact⟨_,Z',by simp only[zBM,hg,wants,h1,h3],h4⟩
 ·rename_i t w hg
  split at h
  ·rename_i g ht
   unfold gK at h
   split at h
   ·rename_i b
    cases hb:b == w with
    | true =>
     rw[hb,cond_true]at h
     obtain⟨v,H',Z',h1,h2⟩:=zQO h
     obtain⟨vs,h3,h4⟩:=zRX h1
     obtain⟨v',H2,Z2,h5,h6⟩:=opK_le hle h4
     cases h6
     exact⟨_,Z',by simp only[zBM,hg,wants,ht,hb,h3,h5],h2⟩
    | false =>
     rw[hb,cond_false]at h
     exact⟨_,Z,by simp only[zBM,hg,wants,ht,hb],h⟩
   ·exact⟨_,Z,by simp only[zBM,hg,wants,ht],h⟩
   ·cases h
  ·cases h
theorem regK_le:∀ {is:List Ins} {st:St} {Z:Tape} {k:St->Tape->Ans} {r:V × Heap × Tape},regK cK is st Z k=some r->∃ st' Z',zo call is st Z=some (st',Z')/\k st' Z'=some r:=by
 intro is
 induction is with
 | nil=>intro st Z k r h;exact⟨st,Z,rfl,h⟩
 | cons i is ih =>
  intro st Z k r h
  obtain⟨st1,Z1,h1,h2⟩:=insK_le hle h
  obtain⟨st2,Z2,h3,h4⟩:=ih h2
  exact⟨st2,Z2,by simp only[zo,h1,h3],h4⟩
theorem drawK_le:∀ {is:List Ins} {st:St} {Z:Tape} {hs:List Heap} {ls:List zPD} {k:St->Tape->List Heap->List zPD->Ans} {r:V × Heap × Tape},drawK cK is st Z hs ls k=some r ->
  ∃ st' Z' hs' ls',zGV call is st Z hs ls=some (st',Z',hs',ls')/\k st' Z' hs' ls'=some r:=by
 intro is
 induction is with
 | nil=>intro st Z hs ls k r h;exact⟨st,Z,hs,ls,rfl,h⟩
 | cons i is ih =>
  intro st Z hs ls k r h
  obtain⟨st1,Z1,h1,h2⟩:=insK_le hle h
  have e:(match i.rng with | none=>ls | some _=>match wants st.fr i.guard with | some true=>noted i st ls | _=>ls)=(match wants st.fr i.guard with | some true=>noted i st ls | _=>ls):=by
   cases hr:i.rng with
   | none=>simp only[noted,hr];split <;> rfl
   | some x=>rfl
  rw[e]at h2
  obtain⟨st2,Z2,hs2,ls2,h3,h4⟩:=ih h2
  exact⟨st2,Z2,hs2,ls2,by simp only[zGV,h1];exact h3,h4⟩
omit hle in
theorem keepK_le:∀ {l:List Nat} {fr acc:T V} {c:T V->Ans} {r:V × Heap × Tape},keepK l fr acc c=some r->c (zP3 l fr acc)=some r:=by
 intro l
 induction l with
 | nil=>intro fr acc c r h;exact h
 | cons i l ih =>
  intro fr acc c r h
  simp only[keepK,getK]at h
  split at h
  ·rename_i v hv
   simp only[zP3,hv]
   exact ih h
  ·cases h
theorem execK_le (N:Nat):∀ (c:C) {st:St} {Z:Tape} {k:KC} {r:V × Heap × Tape},zHw cK N c st Z k=some r->∃ ex st' Z',exec call N c st Z=some (ex,st',Z')/\k ex st' Z'=some r:=by
 intro c
 induction c with
 | skip=>intro st Z k r h;exact⟨_,_,_,rfl,h⟩
 | reg ops =>
  intro st Z k r h
  obtain⟨st',Z',h1,h2⟩:=regK_le hle h
  exact⟨_,_,_,by simp only[exec,h1],h2⟩
 | draw ops =>
  intro st Z k r h
  obtain⟨st',Z',hs,ls,h1,h2⟩:=drawK_le hle h
  cases hc:zAZ hs.reverse ls with
  | true =>
   rw[hc,cond_true]at h2
   exact⟨_,_,_,by simp only[exec,h1,hc,cond_true],h2⟩
  | false=>rw[hc,cond_false]at h2;cases h2
 | seq a b iha ihb =>
  intro st Z k r h
  obtain⟨ex,st1,Z1,h1,h2⟩:=iha h
  cases ex with
  | normal =>
   obtain⟨ex2,st2,Z2,h3,h4⟩:=ihb h2
   exact⟨ex2,st2,Z2,by simp only[exec,h1,h3],h4⟩
  | exit id=>exact⟨_,_,_,by simp only[exec,h1],h2⟩
  | ret=>exact⟨_,_,_,by simp only[exec,h1],h2⟩
 | cond x a b iha ihb =>
  intro st Z k r h
  simp only[zHw]at h
  split at h
  ·rename_i v hv
   unfold zV at h
   split at h
   ·obtain⟨ex,st1,Z1,h1,h2⟩:=iha h
    exact⟨ex,st1,Z1,by simp only[exec,hv,h1],h2⟩
   ·obtain⟨ex,st1,Z1,h1,h2⟩:=ihb h
    exact⟨ex,st1,Z1,by simp only[exec,hv,h1],h2⟩
   ·cases h
  ·cases h
 | block id c ih =>
  intro st Z k r h
  obtain⟨ex,st1,Z1,h1,h2⟩:=ih h
  cases ex with
  | normal=>exact⟨_,_,_,by simp only[exec,h1],h2⟩
  | exit id' =>
   simp only[zW]at h2
   cases hb:Nat.beq id' id with
   | true=>rw[hb,cond_true]at h2;exact⟨_,_,_,by simp only[exec,h1,hb,cond_true],h2⟩
   | false=>rw[hb,cond_false]at h2;exact⟨_,_,_,by simp only[exec,h1,hb,cond_false],h2⟩
  | ret=>exact⟨_,_,_,by simp only[exec,h1],h2⟩
 | loop c ih =>
  intro st Z k r h
  simp only[zHw]at h
  have:∀ n {st:St} {Z:Tape} {k:KC},zq (zHw cK N c) n st Z k=some r->∃ ex st' Z',zNG (exec call N c) n st Z=some (ex,st',Z')/\k ex st' Z'=some r:=by
   intro n
   induction n with
   | zero=>intro st Z k h;cases h
   | succ n ihn =>
    intro st Z k h
    obtain⟨ex,st1,Z1,h1,h2⟩:=ih h
    cases ex with
    | normal =>
     obtain⟨ex2,st2,Z2,h3,h4⟩:=ihn h2
     exact⟨ex2,st2,Z2,by simp only[zNG,h1,h3],h4⟩
    | exit id=>exact⟨_,_,_,by simp only[zNG,h1],h2⟩
    | ret=>exact⟨_,_,_,by simp only[zNG,h1],h2⟩
  exact this N h
 | exit id=>intro st Z k r h;exact⟨_,_,_,rfl,h⟩
 | ret=>intro st Z k r h;exact⟨_,_,_,rfl,h⟩
 | scope c ih=>intro st Z k r h;exact ih h
 | keep l c ih =>
  intro st Z k r h
  have:=keepK_le h
  obtain⟨ex,st1,Z1,h1,h2⟩:=ih this
  exact⟨ex,st1,Z1,h1,h2⟩
 | bad=>intro st Z k r h;cases h
theorem funK_le {N:Nat}{fn:Fun}{vs:List V}{H:Heap}{Z:Tape}{k:KV}{r:V × Heap × Tape}(h:funK cK N fn vs H Z k=some r):∃ v H' Z',zJa call N (some (.fn fn)) vs H Z=some (v,H',Z')/\k v H' Z'=some r:=by
 unfold funK at h
 cases hb:Nat.beq vs.length fn.nparams with
 | false=>rw[hb,cond_false]at h;cases h
 | true =>
  rw[hb,cond_true]at h
  obtain⟨ex,st1,Z1,h1,h2⟩:=execK_le hle N _ h
  cases ex with
  | exit id=>cases h2
  | normal =>
   obtain⟨v,h3,h4⟩:=zM2 h2
   exact⟨v,st1.hp,Z1,by simp only[zJa,hb,cond_true,h1,h3],h4⟩
  | ret =>
   obtain⟨v,h3,h4⟩:=zM2 h2
   exact⟨v,st1.hp,Z1,by simp only[zJa,hb,cond_true,h1,h3],h4⟩
end
def TabOk (prog:Nat->Option Def)(N:Nat)(tab:Nat->zG->List V->Heap->Tape->KV->Ans):Prop :=
 ∀ f cK vs H Z k r,tab f cK vs H Z k=some r->(∃ fn,prog f=some (.fn fn)/\funK cK N fn vs H Z k=some r)∨(∃ p,prog f=some (.prim p)/\effK (p vs H Z) k=some r)
theorem callK_le {prog:Nat->Option Def}{N:Nat}{tab:Nat->zG->List V->Heap->Tape->KV->Ans}(ht:TabOk prog N tab):∀ d,Le (zPJ tab d) (call prog N d):=by
 intro d
 induction d with
 | zero=>intro f vs H Z k r h;cases h
 | succ d ih =>
  intro f vs H Z k r h
  rcases ht f _ vs H Z k r h with⟨fn,h1,h2⟩ | ⟨p,h1,h2⟩
  ·obtain⟨v,H',Z',h3,h4⟩:=funK_le ih h2
   exact⟨v,H',Z',by simp only[call,h1];exact h3,h4⟩
  ·obtain⟨v,H',Z',h3,h4⟩:=zQO h2
   exact⟨v,H',Z',by simp only[call,h1,zJa];exact h3,h4⟩
end Go.Am

namespace Go.Am
def T.All {α:Type}(P:Nat->α->Prop):T α->(Nat->Nat)->Prop
 | .leaf,_=>True
 | .node v l r,ix=>(match v with | some a=>P (ix 0) a | none=>True)/\T.All P l (fun k=>ix (2*k+1))/\T.All P r (fun k=>ix (2*k+2))
theorem T.All_at {α:Type}{P:Nat->α->Prop}:∀ (t:T α) (ix:Nat->Nat),T.All P t ix->∀ i a,t.get i=some a->P (ix i) a:=by
 intro t
 induction t with
 | leaf=>intro ix _ i a h;rw[T.get_leaf]at h;cases h
 | node v l r ihl ihr =>
  intro ix h i a hg
  obtain⟨h0,h1,h2⟩:=h
  cases i with
  | zero=>simp only[T.get]at hg;subst hg;exact h0
  | succ j =>
   simp only[T.get]at hg
   cases hb:Nat.beq (j % 2) 0 with
   | true =>
    rw[hb,cond_true]at hg
    have:=ihl _ h1 _ _ hg
    have e:2*(j / 2)+1=j+1:=by have:=Nat.eq_of_beq_eq_true hb;omega
    simpa only[e] using this
   | false =>
    rw[hb,cond_false]at hg
    have:=ihr _ h2 _ _ hg
    have e:2*(j / 2)+2=j+1:=by have:=Nat.ne_of_beq_eq_false hb;omega
    simpa only[e] using this
theorem T.All_get {α:Type}{P:Nat->α->Prop}{t:T α}(h:T.All P t (fun k=>k)){i:Nat}{a:α}(hg:t.get i=some a):P i a:=T.All_at t _ h i a hg
abbrev Ent:=zG->Nat->List V->Heap->Tape->KV->Ans
def zAN (fn:Fun)(e:Ent):Prop:=∀ call N vs H Z q r,e call N vs H Z q=some r->funK call N fn vs H Z q=some r
def zOA (E:T Ent)(N:Nat):Nat->zG->List V->Heap->Tape->KV->Ans:=fun f call vs H Z q =>
 match E.get f with
 | some e=>e call N vs H Z q
 | none=>none
def trueK:KV:=fun v _ _ =>
 match v with
 | .bool true=>some (.bool true,⟨0,.leaf,.leaf⟩,fun _=>0)
 | _=>none
theorem trueK_some {v:V}{H:Heap}{Z:Tape}{r:V × Heap × Tape}(h:trueK v H Z=some r):v=.bool true:=by
 unfold trueK at h
 split at h
 ·rfl
 ·cases h
end Go.Am

namespace Go.Am
def doneA:Ans:=some (.bool true,⟨0,.leaf,.leaf⟩,fun _=>0)
theorem run_true {E:T Ent}{F:T Def}{N d f:Nat}{vs:List V}{H:Heap}(ht:TabOk F.get N (zOA E N))
  (h:(fun Z=>zPJ (zOA E N) d f vs H Z trueK)=fun _=>doneA):∀ Z,isTrue (call F.get N d f vs H Z)=true:=by
 intro Z
 have h1:zPJ (zOA E N) d f vs H Z trueK=doneA:=congrFun h Z
 obtain⟨v,H',Z',h2,h3⟩:=callK_le ht d f vs H Z trueK _ h1
 obtain rfl:=trueK_some h3
 rw[h2]
 rfl
theorem fnOk {P:Program}{f:FuncId}{fn:Fun}(g:Func)(code:Code)(hg:P.funcs[f]?=some g)(hb:g.body=some code)(hp:zEp P f=true)(ht:fn.body.strip=zCd P g.ntmps code)(hr:fn.res=g.results.toList.map (trRes P))(hk:g.results.toList.all (resOk P)=true):FnOk P f fn :=
 ⟨g,code,hg,hb,hp,tr_of_strip _ _ ht,hr,hk⟩
theorem defs_ok {P:Program}{base:Base}{w0:World}{F:T Def}(h:T.All (fun f d=>zQo P base w0 f d) F (fun k=>k)):∀ f d,F.get f=some d->zQo P base w0 f d:=fun _ _ hg=>T.All_get h hg
end Go.Am

namespace Go.Am
open Go.RowKit (Below)
def idxB (n:Nat):List UInt8->Nat->Int
 | [],_=>-1
 | b::l,i=>bif Nat.beq b.toNat n then zMw i fun i=>.ofNat i else idxB n l (i+1)
theorem idxB_eq (c:UInt8):∀ (l:List UInt8) (i:Nat),idxB c.toNat l i=if Lib.indexByte l c=-1 then -1 else Lib.indexByte l c+i:=by
 intro l
 induction l with
 | nil=>intro i;rfl
 | cons b l ih =>
  intro i
  simp only[idxB,zBG]
  unfold Lib.indexByte
  by_cases h:b=c
  ·subst h
   simp
  ·have h1:Nat.beq b.toNat c.toNat=false:=by
    cases hb:Nat.beq b.toNat c.toNat with
    | false=>rfl
    | true=>exact absurd (UInt8.toNat_inj.1 (Nat.eq_of_beq_eq_true hb)) h
   have h2:(b == c)=false:=by simpa using h
   rw[h1,h2,cond_false,ih]
   have:=Lib.indexByte_ge l c
   simp only[Bool.false_eq_true,if_false,beq_iff_eq]
   split
   ·rfl
   ·rw[if_neg (by omega)]
    push_cast
    omega
def idxP (vs:List V)(H:Heap)(Z:Tape):Option (V × Heap × Tape) :=
 match vs with
 | [.str s,.int .u8 c]=>match c with
  | .ofNat m=>some (.int .i64 (idxB (m % 256) s 0),H,Z)
  | .negSucc _=>none
 | _=>none
theorem idxP_ev:zRh idxP:=by
 intro vs H Z v H' Z' h
 simp only[idxP,Bool.cond_eq_ite]at h
 (repeat' split at h) <;> first
  | (cases h;done)
  | (simp only[Option.some.injEq,Prod.mk.injEq]at h;obtain⟨_,rfl,_⟩:=h;first | exact Ev.refl _)
theorem primOk_idx {P:Program}{f:FuncId}(hp:zEp P f=true)
  (h:∀ (s:ByteArray) (c:Int) (w:World),Calls P f #[.string s,.int .u8 c] w fun e w'=>e=.returned (.int .i64 (Lib.indexByte s.data.toList c.toNat.toUInt8))/\w'=w) (base:Base) (w0:World):zDf P base w0 f idxP:=by
 refine⟨idxP_ev,fun vs H U w hM hG hok hn0=>⟨hp,?_⟩⟩
 have hn:=hn0 (fun _=>0)
 unfold idxP at hn
 split at hn
 ·rename_i s c
  split at hn
  ·rename_i m
   refine(h ⟨s.toArray⟩ (.ofNat m) w).mono fun e w' ⟨he,hw⟩=>?_
   subst hw
   refine⟨.int .i64 (Lib.indexByte s (UInt8.ofNat m)),H,U,[],?_,fun Z=>?_,hM,Ext.refl _ _,Evol.refl _,trivial⟩
   ·rw[he]
    rfl
   ·have e:m % 256=(UInt8.ofNat m).toNat:=by simp
    simp only[Tape.app,idxP]
    rw[e,idxB_eq]
    split
    ·rename_i h1;rw[h1]
    ·simp
  ·exact absurd rfl hn
 ·exact absurd rfl hn
def strsOf:List V->Option (List (List UInt8))
 | []=>some []
 | .str s::l=>match strsOf l with
  | some r=>some (s::r)
  | none=>none
 | _=>none
theorem strsOf_spec:∀ (l:List V) (xs:List (List UInt8)),strsOf l=some xs->l=xs.map V.str:=by
 intro l
 induction l with
 | nil=>intro xs h;cases h;rfl
 | cons v l ih =>
  intro xs h
  cases v <;> simp only[strsOf]at h <;> first | (cases h;done) | skip
  split at h
  ·rename_i r hr
   cases h
   rw[ih _ hr]
   rfl
  ·cases h
def joinT (sep:List UInt8):List (List UInt8)->List UInt8
 | []=>[]
 | x::r=>sep++(x++joinT sep r)
def zOO (sep:List UInt8):List (List UInt8)->List UInt8
 | []=>[]
 | x::r=>x++joinT sep r
theorem joinT_eq (sep:List UInt8)(r:List (List UInt8)):joinT sep r=Lib.joinTail sep r:=by
 induction r with
 | nil=>rfl
 | cons x r ih=>simp[joinT,ih,Lib.joinTail]
theorem joinB_eq (sep:List UInt8)(xs:List (List UInt8)):zOO sep xs=Lib.join xs sep:=by
 cases xs with
 | nil=>rfl
 | cons x r=>rw[Lib.join_cons,zOO,joinT_eq]
def zLv (vs:List V)(H:Heap)(Z:Tape):Option (V × Heap × Tape) :=
 match vs with
 | [.nils,.str _]=>some (.str [],H,Z)
 | [.sl id off len _ _ z,.str sep] =>
  bif Nat.beq z 1 then
   match H.loads id off len with
   | some cs=>match strsOf cs with
    | some xs =>
     let r:=zOO sep xs
     bif Nat.ble r.length 140737488355328 && Nat.ble len 140737488355328 then some (.str r,H,Z)else none
    | none=>none
   | none=>none
  else none
 | _=>none
theorem joinP_ev:zRh zLv:=by
 intro vs H Z v H' Z' h
 simp only[zLv,Bool.cond_eq_ite]at h
 (repeat' split at h) <;> first
  | (cases h;done)
  | (simp only[Option.some.injEq,Prod.mk.injEq]at h;obtain⟨_,rfl,_⟩:=h;first | exact Ev.refl _)
theorem primOk_join {P:Program}{f:FuncId}(hp:zEp P f=true)
  (h0:∀ (a:Option Addr) (c:Nat) (sep:ByteArray) (w:World),Calls P f #[.slice a 0 c,.string sep] w fun e w'=>e=.returned (.string ⟨#[]⟩)/\w'=w)
  (h:∀ (bk o c:Nat) (xs:List ByteArray) (sep:ByteArray) (w:World),(∀ (j:Nat) x,xs[j]?=some x->w.cell? ⟨bk,o+j,none⟩=some (.string x))->bk<w.heap.size->xs.length<=140737488355328->xs.length<=c ->
   (Lib.join (xs.map (·.data.toList)) sep.data.toList).length<=140737488355328 ->
   Calls P f #[.slice (some ⟨bk,o,none⟩) xs.length c,.string sep] w fun e w'=>e=.returned (.string ⟨(Lib.join (xs.map (·.data.toList)) sep.data.toList).toArray⟩)/\Below w.heap.size w w') (base:Base) (w0:World):zDf P base w0 f zLv:=by
 refine⟨joinP_ev,fun vs H U w hM hG hok hn0=>⟨hp,?_⟩⟩
 have hn:=hn0 (fun _=>0)
 unfold zLv at hn
 split at hn
 ·rename_i sep
  refine(h0 none 0 ⟨sep.toArray⟩ w).mono fun e w' ⟨he,hw⟩=>?_
  subst hw
  refine⟨.str [],H,U,[],?_,fun Z=>rfl,hM,Ext.refl _ _,Evol.refl _,trivial⟩
  rw[he]
  rfl
 ·rename_i id off len lo ex z sep
  cases hz:Nat.beq z 1 with
  | false=>rw[hz,cond_false]at hn;exact absurd rfl hn
  | true =>
   rw[hz,cond_true]at hn
   split at hn
   ·rename_i cs hcs
    split at hn
    ·rename_i xs hxs
     simp only at hn
     cases hb:(Nat.ble (zOO sep xs).length 140737488355328 && Nat.ble len 140737488355328)with
     | false=>rw[hb,cond_false]at hn;exact absurd rfl hn
     | true =>
      have hans:∀ Z,zLv [.sl id off len lo ex z,.str sep] H Z=some (.str (zOO sep xs),H,Z):=fun Z=>by
       simp only[zLv,hz,cond_true,hcs,hxs,hb]
      simp only[Bool.and_eq_true,Nat.ble_eq]at hb
      obtain⟨hb1,hb2⟩:=hb
      obtain⟨k1,k2,k3,k4⟩:=MRel.loads (P:=P) hM hcs
      have hcs':=strsOf_spec _ _ hxs
      have hlen:xs.length=len:=by rw[<- k2,hcs'];simp
      have hcap:len<=lo+ex.getD 0:=hok.1.2.1
      have hmap:(xs.map fun s=>(⟨s.toArray⟩:ByteArray)).map (fun b=>b.data.toList)=xs:=by
       rw[List.map_map]
       exact List.map_id' xs
      have hcell:∀ (j:Nat) x,(xs.map fun s=>(⟨s.toArray⟩:ByteArray))[j]?=some x->w.cell? ⟨(U id).1,(U id).2+off+j,none⟩=some (.string x):=by
       intro j x hx
       rw[List.getElem?_map]at hx
       cases hj:xs[j]? with
       | none=>rw[hj]at hx;cases hx
       | some s =>
        rw[hj]at hx
        cases hx
        exact k3 j (.str s) (by rw[hcs',List.getElem?_map,hj];rfl)
      cases hlz:len with
      | zero =>
       have:xs=[]:=List.length_eq_zero_iff.1 (by omega)
       subst this
       subst hlz
       refine(h0 (some ⟨(U id).1,(U id).2+off,none⟩) (lo+ex.getD 0) ⟨sep.toArray⟩ w).mono fun e w' ⟨he,hw⟩=>?_
       subst hw
       refine⟨.str [],H,U,[],?_,fun Z=>by simpa [zOO,Tape.app] using hans Z,hM,Ext.refl _ _,Evol.refl _,trivial⟩
       rw[he]
       rfl
      | succ m =>
       have hbk:(U id).1<w.heap.size:=by
        obtain⟨s,hs⟩:∃ s,xs[0]?=some s:=⟨xs[0],List.getElem?_eq_getElem (by omega)⟩
        have:=hcell 0 ⟨s.toArray⟩ (by rw[List.getElem?_map,hs];rfl)
        unfold World.cell? at this
        split at this
        ·rename_i hh
         exact(Array.getElem?_eq_some_iff.1 hh).1
        ·cases this
       have hJ:Lib.join ((xs.map fun s=>(⟨s.toArray⟩:ByteArray)).map (fun b=>b.data.toList)) (⟨sep.toArray⟩:ByteArray).data.toList=zOO sep xs:=by
        rw[hmap,joinB_eq]
       have hc:=h (U id).1 ((U id).2+off) (lo+ex.getD 0) (xs.map fun s=>(⟨s.toArray⟩:ByteArray)) ⟨sep.toArray⟩ w hcell hbk (by rw[List.length_map,hlen];exact hb2) (by rw[List.length_map,hlen];exact hcap)
        (by rw[hJ];exact hb1)
       rw[hJ,List.length_map,hlen,hlz]at hc
       refine hc.mono fun e w' ⟨he,hw⟩=>?_
       subst hlz
       refine⟨.str (zOO sep xs),H,U,[],?_,hans,hM.keep hw,Ext.refl _ _,Evol.refl _,trivial⟩
       rw[he]
       rfl
    ·exact absurd rfl hn
   ·exact absurd rfl hn
 ·exact absurd rfl hn
def zHM (p:List V->Heap->Tape->Option (V × Heap × Tape)):Ent:=fun _ _ vs H Z q=>effK (p vs H Z) q
theorem tabOf_okP {E:T Ent}{F:T Def}(N:Nat)(h:∀ f e,E.get f=some e->(∃ fn,F.get f=some (.fn fn)/\zAN fn e)∨(∃ p,F.get f=some (.prim p)/\e=zHM p)):TabOk F.get N (zOA E N):=by
 intro f cK vs H Z k r hr
 unfold zOA at hr
 split at hr
 ·rename_i e he
  rcases h f e he with⟨fn,h1,h2⟩ | ⟨p,h1,rfl⟩
  ·exact .inl ⟨fn,h1,h2 _ _ _ _ _ _ _ hr⟩
  ·exact .inr ⟨p,h1,hr⟩
 ·cases hr
end Go.Am

