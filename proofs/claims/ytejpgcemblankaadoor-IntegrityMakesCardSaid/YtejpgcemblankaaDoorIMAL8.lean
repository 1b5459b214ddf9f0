/- The abstract machine, printed functions of the program, and what they are shown to be. -/
import Derived.Test.YtejpgcemblankaaDoorIMAL7
set_option linter.unusedSimpArgs false
set_option linter.unusedVariables false
namespace Go.Am.X
theorem zMn (c:zD)(N:Nat)(hN:1000<N)(h32:Mix32 c)(h31:Cut31 c)(bits:Nat)(hbits:bits=32∨bits=64)(t:Nat)(K L:List Nat)(hK:K.length=96)(hL:L.length=8)(v:V)(bs:List Nat)(hlen:bs.length<100000)(h16:16*(bits / 8)<=bs.length)
  (H:Heap) (hw:WF H) (hbt:Bx H t (ws .u64 K)) (hRd:∀ H',Gr H.size H H'->Rd H' 1 v bs.length (ws .u8 bs)) (Z:Tape) :
  ∃ H',Gr H.size H H'/\∀ q,zDx c N (.ptr t 0) (.agg [.int .u64 (bits:Int)]) (.agg (ws .u64 L)) v H Z q=q (.agg (ws .u64 (zJk bits K bs L))) H' Z:=by
 have lt:=hbt.lt hw
 have a1:eBox [.agg [.int .u64 (bits:Int)]] H Z=some (.ptr H.size 0,H.new [.int .u64 (bits:Int)] 1 true,Z):=rfl
 have g1:=Gr.new hw [.int .u64 (bits:Int)] 1 true
 have b1:=Bx.new H [.int .u64 (bits:Int)] 1 true nl
 have z1:(H.new [.int .u64 (bits:Int)] 1 true).size=H.size+1:=rfl
 generalize H.new [.int .u64 (bits:Int)] 1 true=H1 at a1 g1 b1 z1
 have a2:eBox [.agg (ws .u64 L)] H1 Z=some (.ptr H1.size 0,H1.new (ws .u64 L) (ws .u64 L).length true,Z):=rfl
 have g2:=Gr.new g1.wf (ws .u64 L) (ws .u64 L).length true
 have b2:=Bx.new H1 (ws .u64 L) (ws .u64 L).length true nl
 have z2:(H1.new (ws .u64 L) (ws .u64 L).length true).size=H1.size+1:=rfl
 generalize H1.new (ws .u64 L) (ws .u64 L).length true=H2 at a2 g2 b2 z2
 have a3:zBK (repl 8 [(.int .u64 (.ofNat 0))]) [] H2 Z=some (.ptr H2.size 0,H2.new (ws .u64 (List.replicate 8 0)) 8 true,Z):=rfl
 have g3:=Gr.new g2.wf (ws .u64 (List.replicate 8 0)) 8 true
 have b3:=Bx.new H2 (ws .u64 (List.replicate 8 0)) 8 true nl
 have z3:(H2.new (ws .u64 (List.replicate 8 0)) 8 true).size=H2.size+1:=rfl
 generalize H2.new (ws .u64 (List.replicate 8 0)) 8 true=H3 at a3 g3 b3 z3
 have a4:zBK (repl 12 [(.int .u64 (.ofNat 0))]) [] H3 Z=some (.ptr H3.size 0,H3.new (ws .u64 (List.replicate 12 0)) 12 true,Z):=rfl
 have g4:=Gr.new g3.wf (ws .u64 (List.replicate 12 0)) 12 true
 have b4:=Bx.new H3 (ws .u64 (List.replicate 12 0)) 12 true nl
 have z4:(H3.new (ws .u64 (List.replicate 12 0)) 12 true).size=H3.size+1:=rfl
 generalize H3.new (ws .u64 (List.replicate 12 0)) 12 true=H4 at a4 g4 b4 z4
 obtain⟨H5,s5,b5,o5⟩:=Bx.words b4 g4.wf (zA0 32) (n:=12) (by simp) (zLu _) (by omega) Z
 have z5:=o5.size
 have w3:=((b1.gr g2 (by omega)).gr g3 (by omega))
 have w5:=(w3.gr g4 (by omega)).only o5 (by omega)
 have h5:=((b2.gr g3 (by omega)).gr g4 (by omega)).only o5 (by omega)
 have r5:=(b3.gr g4 (by omega)).only o5 (by omega)
 have gA:Gr H.size H H5:=(((g1.trans g2 (by omega)).trans g3 (by omega)).trans g4 (by omega)).trans (o5.gr (B:=H.size) (by omega)) nl
 have t5:=hbt.gr gA lt
 have l0:zF [.ptr H.size 0] H3=some (.int .u64 (bits:Int)):=zg (off:=0) w3.cells rfl
 have eI:wr .i64 (bits:Int)=(bits:Int):=zAZ (by omega) (by omega)
 have eq8:wr .i64 ((bits:Int).tdiv (Int.ofNat 8))=((bits / 8:Nat):Int):=by
  rw[show Int.ofNat 8=((8:Nat):Int)from rfl,<- Int.ofNat_tdiv,zAZ (by omega) (by omega)]
 have p1:zDw (repl 12 [(.int .u64 (.ofNat 0))]) [(0,1),(1,1),(2,1),(3,1),(4,1),(5,1),(6,1),(7,1),(8,1),(9,1),(10,1),(11,1)] [(.int .u64 (.ofNat 7)),(.int .u64 (.ofNat 18)),(.int .u64 (.ofNat 3)),(.int .u64 (.ofNat 17)),(.int .u64 (.ofNat 19)),(.int .u64 (.ofNat 10)),(.int .u64 (.ofNat 2)),(.int .u64 (.ofNat 13)),(.int .u64 (.ofNat 22)),(.int .u64 (.ofNat 6)),(.int .u64 (.ofNat 11)),(.int .u64 (.ofNat 25))]=some (.agg (ws .u64 (zA0 32))):=build12 7 18 3 17 19 10 2 13 22 6 11 25
 have p2:zDw (repl 12 [(.int .u64 (.ofNat 0))]) [(0,1),(1,1),(2,1),(3,1),(4,1),(5,1),(6,1),(7,1),(8,1),(9,1),(10,1),(11,1)] [(.int .u64 (.ofNat 1)),(.int .u64 (.ofNat 8)),(.int .u64 (.ofNat 7)),(.int .u64 (.ofNat 19)),(.int .u64 (.ofNat 61)),(.int .u64 (.ofNat 6)),(.int .u64 (.ofNat 28)),(.int .u64 (.ofNat 34)),(.int .u64 (.ofNat 39)),(.int .u64 (.ofNat 14)),(.int .u64 (.ofNat 18)),(.int .u64 (.ofNat 41))]=some (.agg (ws .u64 (zA0 64))):=build12 1 8 7 19 61 6 28 34 39 14 18 41
 rcases hbits with rfl | rfl
 ·have e3:((((32 / 8:Nat)):Int) == Int.ofNat 8)=false:=rfl
  obtain⟨H',gf,kf⟩:=j0b c N hN h32 h31 32 (.inl rfl) t H.size H1.size H2.size H3.size K L hK hL v bs hlen h16 H.size H5 o5.wf gA.size nl (by omega) (by omega) (by omega) (by omega) (by omega) t5 w5 h5 r5 b5 (by omega) (by omega) (fun H' h=>hRd H' (gA.trans h nl)) Z
   (T.s (T.s (T.s (T.s (T.s (T.s (T.s (T.s (T.s .leaf 0 (.ptr t 0)) 3 v) 5 (.ptr H.size 0)) 6 (.ptr H1.size 0)) 8 (.ptr H2.size 0)) 9 (.int .i64 ((32 / 8:Nat):Int))) 10 (.int .i64 (.ofNat 64))) 11 (.ptr H3.size 0)) 28 (.bool false))
   (by rfl) (by rfl) (by rfl) (by rfl) (by rfl) (by rfl) (by simp[T.get_set,zC8]) (by rfl)
  refine⟨H',gA.trans gf nl,fun q=>?_⟩
  simp only[zDx,a1,a2,a3,za,fa0,zK,l0,zB7,eI,zI5 _ _ (Int.ofNat 8) (by decide),eq8,p1,a4,s5,zZ,e3,zM]
  exact kf q
 ·have e3:((((64 / 8:Nat)):Int) == Int.ofNat 8)=true:=rfl
  obtain⟨H6,s6,b6,o6⟩:=Bx.words b5 o5.wf (zA0 64) (n:=12) (zLu _) (zLu _) (by omega) Z
  have gB:Gr H.size H H6:=gA.trans (o6.gr (B:=H.size) (by omega)) nl
  obtain⟨H',gf,kf⟩:=j0b c N hN h32 h31 64 (.inr rfl) t H.size H1.size H2.size H3.size K L hK hL v bs hlen h16 H.size H6 o6.wf gB.size nl (by omega) (by omega) (by omega) (by omega) (by omega) (t5.only o6 (by omega)) (w5.only o6 (by omega)) (h5.only o6 (by omega)) (r5.only o6 (by omega)) b6 (by omega) (by omega) (fun H' h=>hRd H' (gB.trans h nl)) Z
   (T.s (T.s (T.s (T.s (T.s (T.s (T.s (T.s (T.s .leaf 0 (.ptr t 0)) 3 v) 5 (.ptr H.size 0)) 6 (.ptr H1.size 0)) 8 (.ptr H2.size 0)) 9 (.int .i64 ((64 / 8:Nat):Int))) 10 (.int .i64 (.ofNat 80))) 11 (.ptr H3.size 0)) 29 (.agg (ws .u64 (zA0 64))))
   (by rfl) (by rfl) (by rfl) (by rfl) (by rfl) (by rfl) (by simp[T.get_set,zC8]) (by rfl)
  refine⟨H',gB.trans gf nl,fun q=>?_⟩
  simp only[zDx,a1,a2,a3,za,fa0,zK,l0,zB7,eI,zI5 _ _ (Int.ofNat 8) (by decide),eq8,p1,a4,s5,zZ,e3,zO,p2,s6]
  exact kf q
abbrev zS7 (c:zD):Prop:=∀ (bits:Nat) (t:Nat) (K L:List Nat) (v:V) (bs:List Nat),(bits=32∨bits=64)->K.length=96->L.length=8->bs.length<100000->16*(bits / 8)<=bs.length->∀ (H:Heap),WF H->Bx H t (ws .u64 K)->(∀ H',Gr H.size H H'->Rd H' 1 v bs.length (ws .u8 bs))->∀ Z,
  ∃ H',Gr H.size H H'/\∀ q,c zFZ [.ptr t 0,.agg [.int .u64 (bits:Int)],.agg (ws .u64 L),v] H Z q=q (.agg (ws .u64 (zJk bits K bs L))) H' Z
theorem zOV (c:zD)(N:Nat)(B size:Nat)(hsz:size=64∨size=128)(v:V) :
  ∀ (n:Nat) (tl:List Nat) (t:V) (H:Heap) (fr:T V) (Z:Tape) (m:Nat),(tl.length+n) % size=size-size / 8->n<size->tl.length+n<100000->n<m->WF H->B<=H.size->Own H B 1 t tl.length (ws .u8 tl) ->
  fr.get 0=some v->fr.get 1=some (.int .i64 (size:Int))->fr.get 5=some t ->
  ∃ t' H' Z',Own H' B 1 t' (tl++List.replicate n 0).length (ws .u8 (tl++List.replicate n 0))/\Gr B H H'/\∀ k,zW (zJ0 c N) m ⟨fr,H⟩ Z k=k (.exit 0) ⟨(T.s (T.s (T.s .leaf 0 v) 1 (.int .i64 (size:Int))) 5 t'),H'⟩ Z':=by
 have hs0:0<size:=by omega
 have hsI:(size:Int)≠0:=by omega
 have e8:wr .i64 ((size:Int).tdiv (Int.ofNat 8))=((size / 8:Nat):Int):=by
  rw[show Int.ofNat 8=((8:Nat):Int)from rfl,<- Int.ofNat_tdiv,zAZ (by omega) (by omega)]
 have e9:wr .i64 ((size:Int)-((size / 8:Nat):Int))=((size-size / 8:Nat):Int):=by
  rw[zAZ (by omega) (by omega)];omega
 intro n
 induction n with
 | zero =>
  intro tl t H fr Z m ht hn hlen hm hw hB hO f0 f1 f5
  obtain⟨m,rfl⟩:∃ j,m=j+1:=⟨m-1,by omega⟩
  refine⟨t,H,Z,by simpa using hO,Gr.refl hw,fun k=>?_⟩
  have e5:((tl.length:Nat):Int).tmod (size:Int)=((size-size / 8:Nat):Int):=by
   rw[<- Int.ofNat_tmod];rw[Nat.add_zero]at ht;rw[ht]
  have e6:(((size-size / 8:Nat):Int) !=((size-size / 8:Nat):Int))=false:=by simp
  rw[zC]
  simp only[zJ0,zA f0,zA f1,zA f5,hO.pLen,zK,zFh _ _ _ hsI,e5,zI5 _ _ (Int.ofNat 8) (by decide),e8,zAC,e9,zCV,e6,zM]
  rfl
 | succ n ih =>
  intro tl t H fr Z m ht hn hlen hm hw hB hO f0 f1 f5
  obtain⟨m,rfl⟩:∃ j,m=j+1:=⟨m-1,by omega⟩
  have e5:((tl.length:Nat):Int).tmod (size:Int)=((tl.length % size:Nat):Int):=by rw[<- Int.ofNat_tmod]
  have e6:(((tl.length % size:Nat):Int) !=((size-size / 8:Nat):Int))=true:=by
   simp only[bne_iff_ne,ne_eq]
   intro h
   have h1:tl.length % size=size-size / 8:=Int.ofNat.inj h
   rcases hsz with rfl | rfl <;> omega
  obtain⟨w,H1,t',H2,p1,p2,p3,p4,p5⟩:=hO.push (bytes:=1) hw hB (.int .u8 ((0:Nat):Int)) (.int .u8 (.ofNat 0)) rfl rfl (by omega) (by omega) Z
  rw[zIz]at p3
  have q0:Own H2 B 1 t' (tl++[0]).length (ws .u8 (tl++[0])):=by simpa using p3
  obtain⟨t2,H',Z',r1,r2,r3⟩:=ih (tl++[0]) t' H2 (Z:=Z.tail) (m:=m) (by rw[<- ht,List.length_append];simp only[List.length_singleton];congr 1;omega) (by omega) (by simp;omega) (by omega) p4.wf (Nat.le_trans hB p4.size) q0
   (fr:=(T.s (T.s (T.s (T.s (T.s (T.s (T.s .leaf 0 v) 1 (.int .i64 (size:Int))) 5 t) 22 t) 23 w) 24 t') 5 t'))
   (by rfl) (by rfl) (by rfl)
  have ea:tl++[0]++List.replicate n 0=tl++List.replicate (n+1) 0:=by simp[List.replicate_succ]
  rw[ea]at r1
  refine⟨t2,H',Z',r1,p4.trans r2 nl,fun k=>?_⟩
  have p1':zL 1 1 [(V.int .u8 (.ofNat 0))] [(0,1)] [(V.int .u8 (.ofNat 0))] H Z=some (w,H1,Z):=p1
  rw[zC]
  simp only[zJ0,zA f0,zA f1,zA f5,hO.pLen,zK,zFh _ _ _ hsI,e5,zI5 _ _ (Int.ofNat 8) (by decide),e8,zAC,e9,zCV,e6,zO,p1',p2,za]
  exact r3 k
theorem l2p (c:zD)(N:Nat)(B L:Nat)(v:V)(hL:pLen [v]=some (.int .i64 (L:Int))) :
  ∀ (n:Nat) (tl:List Nat) (t:V) (H:Heap) (fr:T V) (Z:Tape) (m:Nat),n<20->tl.length+n<200000->n<m->WF H->B<=H.size->Own H B 1 t tl.length (ws .u8 tl) ->
  fr.get 0=some v->fr.get 5=some t->fr.get 6=some (.int .i64 ((n:Int)-1)) ->
  ∃ t' H' Z',Own H' B 1 t' (tl++lens L n).length (ws .u8 (tl++lens L n))/\Gr B H H'/\∀ k,zW (zHe c N) m ⟨fr,H⟩ Z k=k (.exit 2) ⟨(T.s .leaf 5 t'),H'⟩ Z':=by
 intro n
 induction n with
 | zero =>
  intro tl t H fr Z m hn hlen hm hw hB hO f0 f5 f6
  obtain⟨m,rfl⟩:∃ j,m=j+1:=⟨m-1,by omega⟩
  refine⟨t,H,Z,by simpa [lens] using hO,Gr.refl hw,fun k=>?_⟩
  have e1:decide (Int.ofNat 0<=(((0:Nat):Int)-1))=false:=by decide
  rw[zC]
  simp only[zHe,zA f0,zA f5,zA f6,zt,e1,zM]
  rfl
 | succ n ih =>
  intro tl t H fr Z m hn hlen hm hw hB hO f0 f5 f6
  obtain⟨m,rfl⟩:∃ j,m=j+1:=⟨m-1,by omega⟩
  have en:(((n+1:Nat):Int)-1)=(n:Int):=by omega
  rw[en]at f6
  have e1:decide (Int.ofNat 0<=(n:Int))=true:=decide_eq_true (by simp)
  obtain⟨w,H1,t',H2,p1,p2,p3,p4,p5⟩:=hO.push (bytes:=1) hw hB (.int .u8 ((lenW L n:Nat):Int)) (.int .u8 (.ofNat 0)) rfl rfl (by omega) (by omega) Z
  rw[zIz]at p3
  have q0:Own H2 B 1 t' (tl++[lenW L n]).length (ws .u8 (tl++[lenW L n])):=by simpa using p3
  have e7:wr .i64 ((n:Int)-Int.ofNat 1)=(n:Int)-1:=by rw[zAZ (by simp;omega) (by simp;omega)];rfl
  obtain⟨t2,H',Z',r1,r2,r3⟩:=ih (tl++[lenW L n]) t' H2 (Z:=Z.tail) (m:=m) (by omega) (by simp;omega) (by omega) p4.wf (Nat.le_trans hB p4.size) q0
   (fr:=(T.s (T.s (T.s (T.s (T.s (T.s .leaf 0 v) 5 t') 6 (.int .i64 (n:Int))) 30 (.int .i64 (n:Int))) 31 (.int .i64 ((n:Int)-1))) 6 (.int .i64 ((n:Int)-1))))
   (by rfl) (by rfl) (by rfl)
  have ea:tl++[lenW L n]++lens L n=tl++lens L (n+1):=by simp[lens]
  rw[ea]at r1
  refine⟨t2,H',Z',r1,p4.trans r2 nl,fun k=>?_⟩
  rw[zC]
  by_cases h8:n<8
  ·have e2:decide ((n:Int)<Int.ofNat 8)=true:=decide_eq_true (by simp;omega)
   have e3:wr .i64 (Int.ofNat 8*(n:Int))=((8*n:Nat):Int):=by rw[zAZ (by simp;omega) (by simp;omega)];simp
   have e3':(8*n) % pow2 .u64=8*n:=by
    apply Nat.mod_eq_of_lt
    have:pow2 .u64=18446744073709551616:=by decide
    omega
   have eW:lenW L n=(L % pow2 .u64*8 % pow2 .u64 / 2 ^ min (8*n) IntKind.u64.bits) % pow2 .u8:=by unfold lenW;rw[if_pos h8]
   rw[eW]at p1
   have e6:∀ (q:V->Ans),binK .mul (.int .u64 ((L % pow2 .u64:Nat):Int)) (.int .u64 (.ofNat 8)) q=q (.int .u64 ((L % pow2 .u64*8 % pow2 .u64:Nat):Int)):=fun q=>u_mul uk64 _ 8 q
   simp only[zHe,zA f0,zA f5,zA f6,zt,e1,zO,zI,e2,hL,zK,zB7,uk64 L,e6,zIB,e3,uk64 (8*n),e3',zLr,zJ7,zJ,↓reduceIte,Nat.reduceEqDiff,uk8 _,p1,p2,za,zMC,zAC,e7]
   exact r3 k
  ·have e2:decide ((n:Int)<Int.ofNat 8)=false:=decide_eq_false (by simp;omega)
   have eW:lenW L n=0:=by unfold lenW;rw[if_neg h8]
   rw[eW]at p1
   have p1':zL 1 1 [(V.int .u8 (.ofNat 0))] [(0,1)] [(V.int .u8 (wr .u8 (.ofNat 0)))] H Z=some (w,H1,Z):=p1
   simp only[zHe,zA f0,zA f5,zA f6,zt,e1,zO,zI,e2,zM,zJ7,zJ,↓reduceIte,Nat.reduceEqDiff,zB7,p1',p2,za,zMC,zAC,e7]
   exact r3 k
def padR (size:Nat)(bs:List Nat):List Nat:=(bs++[128])++List.replicate ((2*size-size / 8-(bs.length+1) % size) % size) 0++lens bs.length (size / 8)
theorem padR_len (size:Nat)(bs:List Nat)(hsz:size=64∨size=128):(padR size bs).length % size=0/\(padR size bs).length<bs.length+300:=by
 unfold padR
 rw[List.length_append,List.length_append,List.length_append,List.length_replicate,zPH]
 simp only[List.length_singleton]
 rcases hsz with rfl | rfl <;> omega
theorem zRs (c:zD)(N:Nat)(hN:9223372036854775807<=N)(size:Nat)(hsz:size=64∨size=128)(v:V)(bs:List Nat)(hlen:bs.length<80000)(H:Heap)(hw:WF H)(hRd:Rd H 1 v bs.length (ws .u8 bs))(hsr:Src H v)(Z:Tape) :
  ∃ v' H' Z',Own H' H.size 1 v' (padR size bs).length (ws .u8 (padR size bs))/\Gr H.size H H'/\∀ q,zNr c N v (.int .i64 (size:Int)) H Z q=q v' H' Z':=by
 obtain⟨H1,b1,g1,e1⟩:∃ H4,zL 0 1 [] [] [] H Z=some (.sl H.size 0 0 0 none 1,H4,Z)/\Gr H.size H H4/\H4.cells? H.size=some []:=⟨_,rfl,Gr.new hw _ _ _,zBp _ _ _ _⟩
 have E1:Emp H1 H.size (.sl H.size 0 0 0 none 1):=⟨_,rfl,e1,Nat.le_refl _⟩
 have Rd1:=hRd.gr g1 hw nl
 obtain⟨t2,H2,Z2,b2,o2,g2⟩:=E1.append (bytes:=1) g1.wf g1.size Rd1 (hsr.gr g1 hw nl) (by omega) (by omega) Z
 have g12:=g1.trans g2 g1.size
 obtain⟨w3,H3',t3,H3,Z3,b3,b3',o3,g3⟩:∃ w H1' v' H' Z',zL 1 1 [(V.int .u8 (.ofNat 0))] [(0,1)] [(V.int .u8 (.ofNat 128))] H2 Z2=some (w,H1',Z2)/\zAD 1 1 [t2,w] H1' Z2=some (v',H',Z') /\
   Own H' H.size 1 v' (bs++[128]).length (ws .u8 (bs++[128]))/\Gr H.size H2 H':=by
  rcases o2 with⟨o2,hpos⟩ | ⟨hz,rfl,rfl,hz2⟩
  ·obtain⟨w,Hq,v2,H',p1,p2,p3,p4,p5⟩:=o2.push (bytes:=1) g12.wf g12.size (.int .u8 ((128:Nat):Int)) (.int .u8 (.ofNat 0)) rfl rfl (by omega) (by omega) Z2
   rw[zIz]at p3
   exact⟨w,Hq,v2,H',_,p1,p2,by simpa using p3,p4⟩
  ·obtain⟨w,Hq,v2,H',Z',p1,p2,p3,p4⟩:=E1.push (bytes:=1) g12.wf g12.size (.int .u8 ((128:Nat):Int)) (.int .u8 (.ofNat 0)) rfl (by omega) Z2
   have:bs=[]:=List.eq_nil_of_length_eq_zero hz
   subst this
   exact⟨w,Hq,v2,H',Z',p1,p2,p3,p4.weaken g12.size⟩
 have g13:=g12.trans g3 nl
 have hmod:((bs++[128]).length+(2*size-size / 8-(bs.length+1) % size) % size) % size=size-size / 8:=by
  rw[List.length_append];simp only[List.length_singleton]
  rcases hsz with rfl | rfl <;> omega
 have hlt:(2*size-size / 8-(bs.length+1) % size) % size<size:=Nat.mod_lt _ (by omega)
 obtain⟨t4,H4,Z4,o4,g4,k4⟩:=zOV c N H.size size hsz v _ (bs++[128]) t3 H3 (T.s (T.s (T.s .leaf 0 v) 1 (.int .i64 (size:Int))) 5 t3) Z3 N hmod hlt (by rw[List.length_append];simp only[List.length_singleton];omega) (by omega) g13.wf g13.size o3
  (by rfl) (by rfl) (by rfl)
 have g14:=g13.trans g4 nl
 obtain⟨t5,H5,Z5,o5,g5,k5⟩:=l2p c N H.size bs.length v hRd.pLen (size / 8) _ t4 H4 (T.s (T.s (T.s .leaf 0 v) 5 t4) 6 (.int .i64 (((size / 8:Nat):Int)-1))) Z4 N (by omega) (by
   rw[List.length_append,List.length_append,List.length_replicate];simp only[List.length_singleton];omega) (by omega) g14.wf g14.size o4
  (by rfl) (by rfl) (by rfl)
 refine⟨t5,H5,Z5,o5,g14.trans g5 nl,fun q=>?_⟩
 have e8:wr .i64 ((size:Int).tdiv (Int.ofNat 8))=((size / 8:Nat):Int):=by
  rw[show Int.ofNat 8=((8:Nat):Int)from rfl,<- Int.ofNat_tdiv,zAZ (by omega) (by omega)]
 have e9:wr .i64 (((size / 8:Nat):Int)-Int.ofNat 1)=(((size / 8:Nat):Int)-1):=by rw[zAZ (by simp;omega) (by simp;omega)];rfl
 simp only[zNr,b1,za,b2,b3,b3']
 rw[k4]
 simp only[zP,Nat.beq_refl,cond_true,seqK,zPd,zJ,↓reduceIte,Nat.reduceEqDiff,zI5 _ _ (Int.ofNat 8) (by decide),e8,zAC,e9]
 rw[k5]
 simp only[zP,Nat.beq_refl,cond_true,seqK,zPQ,zJ,↓reduceIte,Nat.reduceEqDiff]
end Go.Am.X

namespace Go.Am.X
def hR (K:List Nat)(wb fr:Nat):Nat->Nat->List Nat->List Nat
 | 0,_,h=>h
 | n+1,i,h=>hR K wb fr n (i+1) (h.set i (zMS wb (K.getD (80+(fr+i)) 0)))
theorem hR_len (K:List Nat)(wb fr:Nat):∀ n i h,(hR K wb fr n i h).length=h.length:=by
 intro n;induction n with
 | zero=>intros;rfl
 | succ n ih=>intro i h;rw[hR,ih];simp
theorem l_law8_sums (c:zD)(N:Nat)(bits wb from':Nat)(hwb:wb=if bits=256 then 32 else 64)(hf:from'<=8)(t h:Nat)(hth:t≠h)(K:List Nat)(hK:K.length=96)(v a8 a9:V) :
  ∀ (n i:Nat) (L:List Nat) (H:Heap) (fr:T V) (Z:Tape) (m:Nat),i+n=8->n<m->L.length=8->WF H->Bx H t (ws .u64 K)->Bx H h (ws .u64 L) ->
  fr.get 0=some (.ptr t 0)->fr.get 1=some (.int .i64 (bits:Int))->fr.get 2=some v->fr.get 8=some a8->fr.get 9=some a9->fr.get 10=some (.int .i64 (from':Int))->fr.get 11=some (.ptr h 0)->fr.get 12=some (.int .i64 (i:Int)) ->
  ∃ H',Bx H' h (ws .u64 (hR K wb from' n i L))/\Chg (fun i=>i=h) H H'/\∀ k,zW (zDD c N) m ⟨fr,H⟩ Z k=k (.exit 1) ⟨(T.s (T.s (T.s (T.s (T.s (T.s .leaf 0 (.ptr t 0)) 1 (.int .i64 (bits:Int))) 2 v) 8 a8) 9 a9) 11 (.ptr h 0)),H'⟩ Z:=by
 intro n
 induction n with
 | zero =>
  intro i L H fr Z m hn hm hL hw hbt hbh f0 f1 f2 f8 f9 f10 f11 f12
  obtain⟨m,rfl⟩:∃ j,m=j+1:=⟨m-1,by omega⟩
  refine⟨H,hbh,Chg.refl hw,fun k=>?_⟩
  have e1:decide ((i:Int)<Int.ofNat 8)=false:=decide_eq_false (by simp;omega)
  rw[zC]
  simp only[zDD,zA f0,zA f1,zA f2,zA f8,zA f9,zA f10,zA f11,zA f12,zI,e1,zM]
  rfl
 | succ n ih =>
  intro i L H fr Z m hn hm hL hw hbt hbh f0 f1 f2 f8 f9 f10 f11 f12
  obtain⟨m,rfl⟩:∃ j,m=j+1:=⟨m-1,by omega⟩
  have e1:decide ((i:Int)<Int.ofNat 8)=true:=decide_eq_true (by simp;omega)
  have nk:∀ (i o:Nat),zAn [.ptr i o]=some (.ptr i o):=fun _ _=>rfl
  have fa:zH 80 [.ptr t 0]=some (.ptr t 80):=by simp[zH]
  have ea:zG 16 1 [.ptr t 80,.int .i64 ((from'+i:Nat):Int)]=some (.ptr t (80+(from'+i))):=by
   have:=z8 (z:=1) (id:=t) (off:=80) (show from'+i<16 by omega)
   simpa using this
  have lt:=zAN hbt (show 80+(from'+i)<K.length by omega)
  obtain⟨H1,s1,b1,o1⟩:=hbh.word hw (i:=i) (by omega) (K.getD (80+(from'+i)) 0) Z
  have e4:wr .i64 ((i:Int)+Int.ofNat 1)=((i+1:Nat):Int):=adN (k:=1) (by omega)
  by_cases hb:bits=256
  ·have hw32:wb=32:=by rw[hwb,if_pos hb]
   subst hw32
   have e3:((bits:Int) == Int.ofNat 256)=true:=by rw[hb];rfl
   have ld:zF [.ptr h i] H1=some (.int .u64 ((K.getD (80+(from'+i)) 0:Nat):Int)):=by
    have:=zAN b1 (show i<(L.set i (K.getD (80+(from'+i)) 0)).length by simp;omega)
    rw[this];simp[List.getD_eq_getElem?_getD,show i<L.length by omega]
   obtain⟨H2,s2,b2,o2⟩:=b1.word o1.wf (i:=i) (by simp;omega) (shrT .u64 (K.getD (80+(from'+i)) 0) 32) Z
   rw[List.set_set]at b2
   have g2:Chg (fun i=>i=h) H H2:=(o1.chg (P:=fun i=>i=h) rfl).trans (o2.chg (P:=fun i=>i=h) rfl) fun _ _ q=>q
   obtain⟨H',r1,r2,r3⟩:=ih (i+1) _ H2 (T.s (T.s (T.s (T.s (T.s (T.s (T.s (T.s (T.s (T.s (T.s .leaf 0 (.ptr t 0)) 1 (.int .i64 (bits:Int))) 2 v) 8 a8) 9 a9) 10 (.int .i64 (from':Int))) 11 (.ptr h 0)) 12 (.int .i64 (i:Int))) 29 (.int .i64 (i:Int))) 30 (.int .i64 ((i+1:Nat):Int))) 12 (.int .i64 ((i+1:Nat):Int)))
    Z m (by omega) (by omega) (by simp[hL]) o2.wf (hbt.chg hw g2 hth) b2 (by rfl) (by rfl) (by rfl) (by rfl) (by rfl) (by rfl) (by rfl) (by rfl)
   refine⟨H',by rw[hR,cr32];exact r1,g2.trans r2 fun _ _ q=>q,fun k=>?_⟩
   rw[zC]
   simp only[zDD,zA f0,zA f1,zA f2,zA f8,zA f9,zA f10,zA f11,zA f12,zI,e1,zO,zQ .i64,adN (show from'+i<1000000 by omega),nk,zK,fa,ea,lt,ai8' _ (show i<8 by omega),s1,za,zZ,e3,ld,es32,s2,zEw,zJ,↓reduceIte,Nat.reduceEqDiff,e4]
   exact r3 k
  ·have hw64:wb=64:=by rw[hwb,if_neg hb]
   subst hw64
   have e3:((bits:Int) == Int.ofNat 256)=false:=by rw[beq_eq_false_iff_ne];intro e;exact hb (Int.ofNat.inj e)
   have g2:Chg (fun i=>i=h) H H1:=o1.chg rfl
   obtain⟨H',r1,r2,r3⟩:=ih (i+1) _ H1 (T.s (T.s (T.s (T.s (T.s (T.s (T.s (T.s (T.s (T.s (T.s .leaf 0 (.ptr t 0)) 1 (.int .i64 (bits:Int))) 2 v) 8 a8) 9 a9) 10 (.int .i64 (from':Int))) 11 (.ptr h 0)) 12 (.int .i64 (i:Int))) 29 (.int .i64 (i:Int))) 30 (.int .i64 ((i+1:Nat):Int))) 12 (.int .i64 ((i+1:Nat):Int)))
    Z m (by omega) (by omega) (by simp[hL]) o1.wf (hbt.chg hw g2 hth) b1 (by rfl) (by rfl) (by rfl) (by rfl) (by rfl) (by rfl) (by rfl) (by rfl)
   refine⟨H',by rw[hR,cr64];exact r1,g2.trans r2 fun _ _ q=>q,fun k=>?_⟩
   rw[zC]
   simp only[zDD,zA f0,zA f1,zA f2,zA f8,zA f9,zA f10,zA f11,zA f12,zI,e1,zO,zQ .i64,adN (show from'+i<1000000 by omega),nk,zK,fa,ea,lt,ai8' _ (show i<8 by omega),s1,za,zZ,e3,zM,zEw,zJ,↓reduceIte,Nat.reduceEqDiff,e4]
   exact r3 k
def zBc (wb size:Nat)(K x:List Nat):Nat->Nat->List Nat->List Nat
 | 0,_,h=>h
 | n+1,i,h=>zBc wb size K x n (i+size) (zJk wb K ((x.drop i).take size) h)
theorem zRH (wb size:Nat)(K x:List Nat):∀ n i h,(zBc wb size K x n i h).length=h.length:=by
 intro n;induction n with
 | zero=>intros;rfl
 | succ n ih=>intro i h;rw[zBc,ih,zNq]
theorem zTN (c:zD)(N:Nat)(h25:zS7 c)(wb size:Nat)(hwb:wb=32/\size=64∨wb=64/\size=128)(t w h:Nat)(hth:t≠h)(hwh:w≠h)(K:List Nat)(hK:K.length=96)(x a1:V)(xs:List Nat)(hx:xs.length<90000)(hR:Roomy x)(B:Nat) :
  ∀ (n i:Nat) (L:List Nat) (H:Heap) (fr:T V) (Z:Tape) (m:Nat),i+n*size=xs.length->n<m->L.length=8->WF H->B<=H.size->Bx H t (ws .u64 K)->Bx H h (ws .u64 L)->Bx H w [.int .u64 (wb:Int)]->RdS h B 1 H x xs.length (ws .u8 xs) ->
  fr.get 0=some (.ptr t 0)->fr.get 1=some a1->fr.get 8=some (.ptr w 0)->fr.get 9=some (.int .i64 (size:Int))->fr.get 11=some (.ptr h 0)->fr.get 13=some x->fr.get 14=some (.int .i64 (i:Int)) ->
  ∃ H',Bx H' h (ws .u64 (zBc wb size K xs n i L))/\Chg (fun i=>i=h) H H'/\∀ k,zW (zFC c N) m ⟨fr,H⟩ Z k=k (.exit 3) ⟨(T.s (T.s (T.s .leaf 1 a1) 8 (.ptr w 0)) 11 (.ptr h 0)),H'⟩ Z:=by
 have hs0:0<size:=by omega
 intro n
 induction n with
 | zero =>
  intro i L H fr Z m hn hm hL hw hB hbt hbh hbw hRd f0 f1 f8 f9 f11 f13 f14
  obtain⟨m,rfl⟩:∃ j,m=j+1:=⟨m-1,by omega⟩
  refine⟨H,hbh,Chg.refl hw,fun k=>?_⟩
  have e1:decide ((i:Int)<(xs.length:Int))=false:=decide_eq_false (by omega)
  rw[zC]
  simp only[zFC,zA f0,zA f1,zA f8,zA f9,zA f11,zA f13,zA f14,(hRd.rd hw).pLen,zK,zI,e1,zM]
  rfl
 | succ n ih =>
  intro i L H fr Z m hn hm hL hw hB hbt hbh hbw hRd f0 f1 f8 f9 f11 f13 f14
  obtain⟨m,rfl⟩:∃ j,m=j+1:=⟨m-1,by omega⟩
  have hin:i+size<=xs.length:=by rw[<- hn,Nat.add_mul,Nat.one_mul];omega
  have e1:decide ((i:Int)<(xs.length:Int))=true:=decide_eq_true (by omega)
  obtain⟨v',c1,c2,c3,c4⟩:=hRd.cut hw hR (l:=i) (m:=i+size) (by omega) hin
  have hsz:i+size-i=size:=by omega
  rw[hsz]at c2 c4
  have hcl:((xs.drop i).take size).length=size:=by rw[List.length_take,List.length_drop];omega
  have c5:RdS h B 1 H v' ((xs.drop i).take size).length (ws .u8 ((xs.drop i).take size)):=by
   rw[hcl];simpa [ws,List.map_take,List.map_drop] using c4
  have lw:zV 1 [.ptr w 0] H=some (.agg [.int .u64 (wb:Int)]):=zA1 (off:=0) (n:=1) hbw.cells (by simp)
  obtain⟨H1,g1,k1⟩:=h25 wb t K L v' ((xs.drop i).take size) (by omega) hK hL (by rw[hcl];omega) (by rw[hcl];omega) H hw hbt (fun H' hh=>c5 H' (hh.gx.weaken hB)) Z
  have h1:=hbh.gr g1 (hbh.lt hw)
  obtain⟨H2,s2,b2,o2⟩:=Bx.words h1 g1.wf (zJk wb K ((xs.drop i).take size) L) (n:=8) hL (by rw[zNq,hL]) (by omega) Z
  have g2:Chg (fun i=>i=h) H H2:=(g1.chg (P:=fun i=>i=h)).trans (o2.chg (P:=fun i=>i=h) rfl) fun _ _ q=>q
  have e4:wr .i64 ((i:Int)+(size:Int))=((i+size:Nat):Int):=adN (by omega)
  obtain⟨H',r1,r2,r3⟩:=ih (i+size) _ H2 (T.s (T.s (T.s (T.s (T.s (T.s (T.s (T.s (T.s (T.s (T.s .leaf 0 (.ptr t 0)) 1 a1) 8 (.ptr w 0)) 9 (.int .i64 (size:Int))) 11 (.ptr h 0)) 13 x) 14 (.int .i64 (i:Int))) 56 (.int .i64 (i:Int))) 57 (.int .i64 (size:Int))) 58 (.int .i64 ((i+size:Nat):Int))) 14 (.int .i64 ((i+size:Nat):Int)))
   Z m (by rw[<- hn,Nat.add_mul,Nat.one_mul];omega) (by omega) (by rw[zNq,hL]) o2.wf (Nat.le_trans hB g2.size) (hbt.chg hw g2 hth) b2 (hbw.chg hw g2 hwh) (hRd.gx (g2.gx hB fun i _ e=>e))
   (by rfl) (by rfl) (by rfl) (by rfl) (by rfl) (by rfl) (by rfl)
  refine⟨H',r1,g2.trans r2 fun _ _ q=>q,fun k=>?_⟩
  rw[zC]
  simp only[zFC,zA f0,zA f1,zA f8,zA f9,zA f11,zA f13,zA f14,(hRd.rd hw).pLen,zK,zI,e1,zO,lw,zGu hbh hL,zQ .i64,e4,c1,k1,s2,za]
  exact r3 k
theorem zO2 (c:zD)(N:Nat)(B h i:Nat)(hi:i<8)(L:List Nat)(hL:L.length=8)(hhB:h<B)(a1 a8:V) :
  ∀ (n:Nat) (tl:List Nat) (t:V) (H:Heap) (fr:T V) (Z:Tape) (m:Nat),n<=8->tl.length+n<200000->n<m->WF H->B<=H.size->Bx H h (ws .u64 L)->Own H B 1 t tl.length (ws .u8 tl) ->
  fr.get 1=some a1->fr.get 8=some a8->fr.get 11=some (.ptr h 0)->fr.get 15=some t->fr.get 16=some (.int .i64 (i:Int))->fr.get 17=some (.int .i64 (8*(n:Int)-8)) ->
  ∃ t' H' Z',Own H' B 1 t' (tl++zFT .u64 (L.getD i 0) n).length (ws .u8 (tl++zFT .u64 (L.getD i 0) n))/\Gr B H H'/\∀ k,zW (zEr c N) m ⟨fr,H⟩ Z k=k (.exit 7) ⟨(T.s (T.s (T.s (T.s (T.s .leaf 1 a1) 8 a8) 11 (.ptr h 0)) 15 t') 16 (.int .i64 (i:Int))),H'⟩ Z':=by
 intro n
 induction n with
 | zero =>
  intro tl t H fr Z m hn hlen hm hw hB hbh hO f1 f8 f11 f15 f16 f17
  obtain⟨m,rfl⟩:∃ j,m=j+1:=⟨m-1,by omega⟩
  refine⟨t,H,Z,by simpa [zFT] using hO,Gr.refl hw,fun k=>?_⟩
  have e1:decide (Int.ofNat 0<=(8*((0:Nat):Int)-8))=false:=by decide
  rw[zC]
  simp only[zEr,zA f1,zA f8,zA f11,zA f15,zA f16,zA f17,zt,e1,zM]
  rfl
 | succ n ih =>
  intro tl t H fr Z m hn hlen hm hw hB hbh hO f1 f8 f11 f15 f16 f17
  obtain⟨m,rfl⟩:∃ j,m=j+1:=⟨m-1,by omega⟩
  have en:(8*((n+1:Nat):Int)-8)=((8*n:Nat):Int):=by omega
  rw[en]at f17
  have e1:decide (Int.ofNat 0<=((8*n:Nat):Int))=true:=decide_eq_true (by simp;omega)
  have lt:=zAN hbh (show i<L.length by omega)
  generalize L.getD i 0=x at lt ih ⊢
  obtain⟨w,H1,t',H2,p1,p2,p3,p4,p5⟩:=hO.push (bytes:=1) hw hB (.int .u8 ((x / 2 ^ min (8*n) IntKind.u64.bits % pow2 .u8:Nat):Int)) (.int .u8 (.ofNat 0)) rfl rfl (by omega) (by omega) Z
  rw[zIz]at p3
  have q0:Own H2 B 1 t' (tl++[x / 2 ^ min (8*n) IntKind.u64.bits % pow2 .u8]).length (ws .u8 (tl++[x / 2 ^ min (8*n) IntKind.u64.bits % pow2 .u8])):=by simpa using p3
  have e3':(8*n) % pow2 .u64=8*n:=by
   apply Nat.mod_eq_of_lt
   have:pow2 .u64=18446744073709551616:=by decide
   omega
  have e7:wr .i64 (((8*n:Nat):Int)-Int.ofNat 8)=8*(n:Int)-8:=by rw[zAZ (by simp;omega) (by simp;omega)];simp
  obtain⟨t2,H',Z',r1,r2,r3⟩:=ih (tl++[x / 2 ^ min (8*n) IntKind.u64.bits % pow2 .u8]) t' H2 (Z:=Z.tail) (m:=m) (by omega) (by simp;omega) (by omega) p4.wf (Nat.le_trans hB p4.size) (hbh.gr p4 hhB) q0
   (fr:=(T.s (T.s (T.s (T.s (T.s (T.s (T.s (T.s (T.s .leaf 1 a1) 8 a8) 11 (.ptr h 0)) 15 t') 16 (.int .i64 (i:Int))) 17 (.int .i64 ((8*n:Nat):Int))) 79 (.int .i64 ((8*n:Nat):Int))) 80 (.int .i64 (8*(n:Int)-8))) 17 (.int .i64 (8*(n:Int)-8))))
   (by rfl) (by rfl) (by rfl) (by rfl) (by rfl) (by rfl)
  have ea:tl++[x / 2 ^ min (8*n) IntKind.u64.bits % pow2 .u8]++zFT .u64 x n=tl++zFT .u64 x (n+1):=by simp[zFT]
  rw[ea]at r1
  refine⟨t2,H',Z',r1,p4.trans r2 nl,fun k=>?_⟩
  rw[zC]
  simp only[zEr,zA f1,zA f8,zA f11,zA f15,zA f16,zA f17,zt,e1,zO,ai8' _ hi,zK,lt,zB7,uk64 (8*n),e3',zLr,uk8 _,p1,p2,za,zAC,e7]
  exact r3 k
theorem zPI (c:zD)(N:Nat)(hN:1000<N)(B h w wb:Nat)(hwb:wb=32∨wb=64)(L:List Nat)(hL:L.length=8)(hhB:h<B)(hwB:w<B)(a1:V) :
  ∀ (l:List Nat) (i:Nat) (tl:List Nat) (t:V) (H:Heap) (fr:T V) (Z:Tape) (m:Nat),L.drop i=l->i<=8->tl.length+8*l.length<150000->l.length<m->WF H->B<=H.size->Bx H h (ws .u64 L)->Bx H w [.int .u64 (wb:Int)]->Own H B 1 t tl.length (ws .u8 tl) ->
  fr.get 1=some a1->fr.get 8=some (.ptr w 0)->fr.get 11=some (.ptr h 0)->fr.get 15=some t->fr.get 16=some (.int .i64 (i:Int)) ->
  ∃ t' H' Z',Own H' B 1 t' (tl++outB .u64 (wb / 8) l).length (ws .u8 (tl++outB .u64 (wb / 8) l))/\Gr B H H'/\∀ k,zW (zEt c N) m ⟨fr,H⟩ Z k=k (.exit 5) ⟨(T.s (T.s .leaf 1 a1) 15 t'),H'⟩ Z':=by
 intro l
 induction l with
 | nil =>
  intro i tl t H fr Z m hd hi hlen hm hw hB hbh hbw hO f1 f8 f11 f15 f16
  obtain⟨m,rfl⟩:∃ j,m=j+1:=⟨m-1,by omega⟩
  have:i=8:=by have:=congrArg List.length hd;simp at this;omega
  subst this
  refine⟨t,H,Z,by simpa [outB] using hO,Gr.refl hw,fun k=>?_⟩
  have e1:decide (((8:Nat):Int)<Int.ofNat 8)=false:=by decide
  rw[zC]
  simp only[zEt,zA f1,zA f8,zA f11,zA f15,zA f16,zI,e1,zM]
  rfl
 | cons x l ih =>
  intro i tl t H fr Z m hd hi hlen hm hw hB hbh hbw hO f1 f8 f11 f15 f16
  obtain⟨m,rfl⟩:∃ j,m=j+1:=⟨m-1,by omega⟩
  have hlt:i<8:=by have:=congrArg List.length hd;simp at this;omega
  have hx:L.getD i 0=x:=by
   have:L[i]?=some x:=by have:=congrArg (·[0]?) hd;simpa using this
   simp[List.getD_eq_getElem?_getD,this]
  have hd':L.drop (i+1)=l:=by have:=congrArg (List.drop 1) hd;simpa [List.drop_drop,Nat.add_comm] using this
  have e1:decide ((i:Int)<Int.ofNat 8)=true:=decide_eq_true (by simp;omega)
  have l0:zF [.ptr w 0] H=some (.int .u64 (wb:Int)):=zg (off:=0) hbw.cells rfl
  have eI:wr .i64 (wb:Int)=(wb:Int):=zAZ (by omega) (by omega)
  have e8:wr .i64 ((wb:Int)-Int.ofNat 8)=8*((wb / 8:Nat):Int)-8:=by rw[zAZ (by simp;omega) (by simp;omega)];rcases hwb with rfl | rfl <;> rfl
  obtain⟨t',H1,Z1,p1,p2,p3⟩:=zO2 c N B h i hlt L hL hhB a1 (.ptr w 0) (wb / 8) tl t H (Z:=Z) (m:=N) (by omega) (by simp at hlen;omega) (by omega) hw hB hbh hO
   (fr:=(T.s (T.s (T.s (T.s (T.s (T.s .leaf 1 a1) 8 (.ptr w 0)) 11 (.ptr h 0)) 15 t) 16 (.int .i64 (i:Int))) 17 (.int .i64 (8*((wb / 8:Nat):Int)-8))))
   (by rfl) (by rfl) (by rfl) (by rfl) (by rfl) (by rfl)
  rw[hx]at p1
  have e4:wr .i64 ((i:Int)+Int.ofNat 1)=((i+1:Nat):Int):=adN (k:=1) (by omega)
  obtain⟨t2,H',Z',r1,r2,r3⟩:=ih (i+1) (tl++zFT .u64 x (wb / 8)) t' H1 (Z:=Z1) (m:=m) hd' (by omega) (by simp[zPS]at hlen ⊢;omega) (by simp at hm;omega) p2.wf (Nat.le_trans hB p2.size) (hbh.gr p2 hhB) (hbw.gr p2 hwB) p1
   (fr:=(T.s (T.s (T.s (T.s (T.s (T.s (T.s (T.s .leaf 1 a1) 8 (.ptr w 0)) 11 (.ptr h 0)) 15 t') 16 (.int .i64 (i:Int))) 71 (.int .i64 (i:Int))) 72 (.int .i64 ((i+1:Nat):Int))) 16 (.int .i64 ((i+1:Nat):Int))))
   (by rfl) (by rfl) (by rfl) (by rfl) (by rfl)
  have ea:tl++zFT .u64 x (wb / 8)++outB .u64 (wb / 8) l=tl++outB .u64 (wb / 8) (x::l):=by simp[outB]
  rw[ea]at r1
  refine⟨t2,H',Z',r1,p2.trans r2 nl,fun k=>?_⟩
  rw[zC]
  simp only[zEt,zA f1,zA f8,zA f11,zA f15,zA f16,zI,e1,zO,fa0,zK,l0,zB7,eI,zAC,e8]
  rw[p3]
  simp only[zP,Nat.beq_refl,cond_true,cond_false,seqK,zKc,zJ,↓reduceIte,Nat.reduceEqDiff,zQ,e4]
  exact r3 k
end Go.Am.X

namespace Go.Am.X
def zPT (K:List Nat)(wb size from':Nat)(bs:List Nat):List Nat:=outB .u64 (wb / 8) (zBc wb size K (padR size bs) ((padR size bs).length / size) 0 (hR K wb from' 8 0 (List.replicate 8 0)))
theorem sumR0_len (K:List Nat)(wb size from':Nat)(bs:List Nat):(zPT K wb size from' bs).length=8*(wb / 8):=by
 unfold zPT;rw[zTK,zRH,hR_len];simp
abbrev Pad24 (c:zD):Prop:=∀ (size:Nat) (v:V) (bs:List Nat),(size=64∨size=128)->bs.length<80000->∀ (H:Heap),WF H->Rd H 1 v bs.length (ws .u8 bs)->Src H v->∀ Z,
  ∃ v' H' Z',Own H' H.size 1 v' (padR size bs).length (ws .u8 (padR size bs))/\Gr H.size H H'/\∀ q,c zNk [v,.int .i64 (size:Int)] H Z q=q v' H' Z'
theorem cutHi {H:Heap}{B:Nat}{v:V}{n:Nat}{cs:List V}(h:Own H B 1 v n cs){k:Nat}(hk:k<=n)(hn:0<n) :
  ∃ v',zAJ 1 false true false [v,.int .i64 (k:Int)]=some v'/\Rd H 1 v' k (cs.take k):=by
 rcases h with⟨_,h0,_⟩ | ⟨id,e,room,fam,ver,pl,st,fr,rfl,h2,h3,h4,h5,h6,h7⟩
 ·omega
 ·have hb:zEI false true false [V.int .i64 (k:Int)]=some (none,some k,none):=by simp only[zEI,optN,zPc]
  have hwi:within k n (some e)=true:=by rw[within_iff];exact .inl hk
  have h0:Nat.ble 0 k=true:=Nat.ble_eq_true_of_le (Nat.zero_le _)
  have h1:Nat.ble 0 n=true:=Nat.ble_eq_true_of_le (Nat.zero_le _)
  have hc:H.cells? id=some cs:=by
   simp only[Heap.cells?,h2,h3]
   rw[show Nat.ble fr ver=true from Nat.ble_eq_true_of_le h4]
   rfl
  refine⟨.sl id 0 k n (some e) 1,?_,.inr ⟨id,0,n,some e,cs,rfl,hc,?_,?_⟩⟩
  ·simp only[zAJ,Nat.beq_refl,cond_true,hb,zPX,Option.getD_some,Option.getD_none,hwi,h0,Bool.and_self,h1,zP5,Nat.sub_zero]
  ·rw[List.drop_zero,Nat.mul_one]
  ·rw[List.length_take];omega
theorem j0s (c:zD)(N:Nat)(hN:1000000<N)(h25:zS7 c)(h24:Pad24 c)(bits wb size from':Nat)(hcase:bits=256/\wb=32/\size=64/\from'=0∨bits=384/\wb=64/\size=128/\from'=8∨bits=512/\wb=64/\size=128/\from'=0)
  (t w:Nat) (K:List Nat) (hK:K.length=96) (v:V) (bs:List Nat) (hlen:bs.length<80000) (B:Nat) (H:Heap) (hw:WF H) (hB:B<=H.size) (hbt:Bx H t (ws .u64 K)) (hbw:Bx H w [.int .u64 (wb:Int)]) (hRd:∀ H',Gr B H H'->Rd H' 1 v bs.length (ws .u8 bs)/\Src H' v) (Z:Tape) (fr:T V)
  (f0:fr.get 0=some (.ptr t 0)) (f1:fr.get 1=some (.int .i64 (bits:Int))) (f2:fr.get 2=some v) (f8:fr.get 8=some (.ptr w 0)) (f9:fr.get 9=some (.int .i64 (size:Int))) (f10:fr.get 10=some (.int .i64 (from':Int))) :
  ∃ v' H' Z',Rd H' 1 v' (bits / 8) (ws .u8 ((zPT K wb size from' bs).take (bits / 8)))/\Gr B H H'/\∀ q,zDC c N q ⟨fr,H⟩ Z=q (.tup [v',.bool true]) H' Z':=by
 have hwb:wb=if bits=256 then 32 else 64:=by rcases hcase with⟨rfl,rfl,_⟩ | ⟨rfl,rfl,_⟩ | ⟨rfl,rfl,_⟩ <;> rfl
 have hws:wb=32/\size=64∨wb=64/\size=128:=by omega
 have hsz:size=64∨size=128:=by omega
 have ltt:=hbt.lt hw
 have ltw:=hbw.lt hw
 have a1:zBK (repl 8 [(.int .u64 (.ofNat 0))]) [] H Z=some (.ptr H.size 0,H.new (ws .u64 (List.replicate 8 0)) 8 true,Z):=rfl
 have g1:=Gr.new hw (ws .u64 (List.replicate 8 0)) 8 true
 have h1:=Bx.new H (ws .u64 (List.replicate 8 0)) 8 true nl
 have z1:(H.new (ws .u64 (List.replicate 8 0)) 8 true).size=H.size+1:=rfl
 generalize H.new (ws .u64 (List.replicate 8 0)) 8 true=H1 at a1 g1 h1 z1
 obtain⟨H2,h2,g2,k2⟩:=l_law8_sums c N bits wb from' hwb (by omega) t H.size (by omega) K hK v (.ptr w 0) (.int .i64 (size:Int)) 8 0 (List.replicate 8 0) H1
  (T.s (T.s (T.s (T.s (T.s (T.s (T.s (T.s .leaf 0 (.ptr t 0)) 1 (.int .i64 (bits:Int))) 2 v) 8 (.ptr w 0)) 9 (.int .i64 (size:Int))) 10 (.int .i64 (from':Int))) 11 (.ptr H.size 0)) 12 (.int .i64 (.ofNat 0)))
  Z N (by omega) (by omega) (by simp) g1.wf (hbt.gr g1 ltt) h1
  (by rfl) (by rfl) (by rfl) (by rfl) (by rfl) (by rfl) (by rfl) (by rfl)
 have g12:Gr H.size H H2:=g1.trans (g2.gr (B:=H.size) (by omega) fun i hi e=>by omega) nl
 have z2:=g12.size
 have lh2:=h2.lt g2.wf
 obtain⟨r2,sr2⟩:=hRd H2 (g12.weaken hB)
 obtain⟨x,H3,Z3,o3,g3,k3⟩:=h24 size v bs hsz hlen H2 g2.wf r2 sr2 Z
 have g13:=g12.trans g3 g12.size
 have h3:=h2.gr g3 lh2
 have pm:=padR_len size bs hsz
 have hdv:0+(padR size bs).length / size*size=(padR size bs).length:=by
  rw[Nat.zero_add,Nat.mul_comm];exact Nat.mul_div_cancel' (Nat.dvd_of_mod_eq_zero pm.1)
 obtain⟨H4,h4,g4,k4⟩:=zTN c N h25 wb size hws t w H.size (by omega) (by omega) K hK x (.int .i64 (bits:Int)) (padR size bs) (by omega) o3.roomy H3.size ((padR size bs).length / size) 0 (hR K wb from' 8 0 (List.replicate 8 0)) H3
  (T.s (T.s (T.s (T.s (T.s (T.s (T.s .leaf 0 (.ptr t 0)) 1 (.int .i64 (bits:Int))) 8 (.ptr w 0)) 9 (.int .i64 (size:Int))) 11 (.ptr H.size 0)) 13 x) 14 (.int .i64 (.ofNat 0)))
  Z3 N hdv (by have:=Nat.div_le_self (padR size bs).length size;omega) (by rw[hR_len];simp) g13.wf nl (hbt.gr g13 ltt) h3 (hbw.gr g13 ltw) (Own.rdS o3 g13.wf (by omega))
  (by rfl) (by rfl) (by rfl) (by rfl) (by rfl) (by rfl) (by rfl)
 have g14:Gr H.size H H4:=g13.trans (g4.gr (B:=H.size) g13.size fun i hi e=>by omega) nl
 have lh4:=h4.lt g4.wf
 have hbl:(zBc wb size K (padR size bs) ((padR size bs).length / size) 0 (hR K wb from' 8 0 (List.replicate 8 0))).length=8:=by rw[zRH,hR_len];simp
 have w4:=hbw.gr g14 ltw
 obtain⟨y,H5,Z5,o5,g5,k5⟩:=zPI c N (by omega) (H.size+1) H.size w wb (by omega) _ hbl (by omega) (by omega) (.int .i64 (bits:Int)) _ 0 [] .nils H4
  (T.s (T.s (T.s (T.s (T.s .leaf 1 (.int .i64 (bits:Int))) 8 (.ptr w 0)) 11 (.ptr H.size 0)) 15 .nils) 16 (.int .i64 (.ofNat 0)))
  Z3 N (List.drop_zero ..) (by omega) (by rw[hbl];simp) (by rw[hbl];omega) g14.wf (by omega) h4 w4 (Own.nil _ _ _)
  (by rfl) (by rfl) (by rfl) (by rfl) (by rfl)
 have o5':Own H5 (H.size+1) 1 y (zPT K wb size from' bs).length (ws .u8 (zPT K wb size from' bs)):=o5
 obtain⟨v',c1,c2⟩:=cutHi o5' (k:=bits / 8) (by rw[sumR0_len];omega) (by rw[sumR0_len];omega)
 have ek:(ws .u8 (zPT K wb size from' bs)).take (bits / 8)=ws .u8 ((zPT K wb size from' bs).take (bits / 8)):=by simp[ws,List.map_take]
 rw[ek]at c2
 refine⟨v',H5,Z5,c2,(g14.weaken hB).trans (g5.weaken (by omega)) nl,fun q=>?_⟩
 have e8:wr .i64 ((bits:Int).tdiv (Int.ofNat 8))=((bits / 8:Nat):Int):=by
  rw[show Int.ofNat 8=((8:Nat):Int)from rfl,<- Int.ofNat_tdiv,zAZ (by omega) (by omega)]
 simp only[zDC,zA f0,zA f1,zA f2,zA f8,zA f9,zA f10,a1,za]
 rw[k2]
 simp only[zP,Nat.beq_refl,cond_true,seqK,zKs,zJ,↓reduceIte,Nat.reduceEqDiff]
 rw[k3]
 rw[k4]
 simp only[zP,Nat.beq_refl,cond_true,seqK,zKg,zJ,↓reduceIte,Nat.reduceEqDiff]
 rw[k5]
 simp only[zP,Nat.beq_refl,cond_true,seqK,zKQ,zJ,↓reduceIte,Nat.reduceEqDiff,zI5 _ _ (Int.ofNat 8) (by decide),e8,c1,zK]
def sumR (K:List Nat)(bits:Nat)(bs:List Nat):List Nat :=
 if bits=256 then(zPT K 32 64 0 bs).take 32 else if bits=384 then(zPT K 64 128 8 bs).take 48 else(zPT K 64 128 0 bs).take 64
theorem zNt (c:zD)(N:Nat)(hN:1000000<N)(h25:zS7 c)(h24:Pad24 c)(bits:Nat)(hcase:bits=256∨bits=384∨bits=512)
  (t:Nat) (K:List Nat) (hK:K.length=96) (v:V) (bs:List Nat) (hlen:bs.length<80000) (H:Heap) (hw:WF H) (hbt:Bx H t (ws .u64 K)) (hRd:Rd H 1 v bs.length (ws .u8 bs)) (hsr:Src H v) (Z:Tape) :
  ∃ v' H' Z',Rd H' 1 v' (bits / 8) (ws .u8 (sumR K bits bs))/\Gr H.size H H'/\∀ q,zDq c N (.ptr t 0) (.int .i64 (bits:Int)) v H Z q=q (.tup [v',.bool true]) H' Z':=by
 have ltt:=hbt.lt hw
 have b1:zDw [(.int .u64 (.ofNat 0))] [(0,1)] [(.int .u64 (.ofNat 64))]=some (.agg [.int .u64 ((64:Nat):Int)]):=rfl
 have b2:zDw [(.int .u64 (.ofNat 0))] [(0,1)] [(.int .u64 (.ofNat 32))]=some (.agg [.int .u64 ((32:Nat):Int)]):=rfl
 have a1:zBK [(.int .u64 (.ofNat 0))] [] H Z=some (.ptr H.size 0,H.new (ws .u64 [0]) 1 true,Z):=rfl
 have g1:=Gr.new hw (ws .u64 [0]) 1 true
 have w1:=Bx.new H (ws .u64 [0]) 1 true nl
 have z1:(H.new (ws .u64 [0]) 1 true).size=H.size+1:=rfl
 generalize H.new (ws .u64 [0]) 1 true=H1 at a1 g1 w1 z1
 obtain⟨H2,s2,w2,o2⟩:=Bx.words w1 g1.wf [64] (n:=1) rfl rfl (by omega) Z
 have s2':eStore 1 [.ptr H.size 0,.agg [.int .u64 ((64:Nat):Int)]] H1 Z=some (.tup [],H2,Z):=s2
 have z2:=o2.size
 have g12:Gr H.size H H2:=g1.trans (o2.gr (B:=H.size) (by omega)) nl
 have rd:∀ {K:Heap},Gr H.size H K->∀ H',Gr H.size K H'->Rd H' 1 v bs.length (ws .u8 bs)/\Src H' v:=fun g H' h=>⟨hRd.gr (g.trans h nl) hw nl,hsr.gr (g.trans h nl) hw nl⟩
 have t2:=hbt.gr g12 ltt
 rcases hcase with rfl | rfl | rfl
 ·obtain⟨H3,s3,w3,o3⟩:=Bx.words w2 o2.wf [32] (n:=1) rfl rfl (by omega) Z
  have s3':eStore 1 [.ptr H.size 0,.agg [.int .u64 ((32:Nat):Int)]] H2 Z=some (.tup [],H3,Z):=s3
  have g13:Gr H.size H H3:=g12.trans (o3.gr (B:=H.size) (by omega)) nl
  obtain⟨v',H',Z',r1,r2,r3⟩:=j0s c N hN h25 h24 256 32 64 0 (by omega) t H.size K hK v bs hlen H.size H3 o3.wf g13.size (hbt.gr g13 ltt) w3 (rd g13) Z
   (T.s (T.s (T.s (T.s (T.s (T.s .leaf 0 (.ptr t 0)) 1 (.int .i64 ((256:Nat):Int))) 2 v) 8 (.ptr H.size 0)) 10 (.int .i64 (.ofNat 0))) 9 (.int .i64 (.ofNat 64)))
   (by rfl) (by rfl) (by rfl) (by rfl) (by rfl) (by rfl)
  refine⟨v',H',Z',r1,g13.trans r2 nl,fun q=>?_⟩
  have e1:(((256:Nat):Int) == Int.ofNat 256)=true:=rfl
  simp only[zDq,b1,zK,a1,za,s2',zZ,e1,zO,b2,s3']
  exact r3 q
 ·obtain⟨v',H',Z',r1,r2,r3⟩:=j0s c N hN h25 h24 384 64 128 8 (by omega) t H.size K hK v bs hlen H.size H2 o2.wf g12.size t2 w2 (rd g12) Z
   (T.s (T.s (T.s (T.s (T.s (T.s (T.s (T.s (T.s .leaf 0 (.ptr t 0)) 1 (.int .i64 ((384:Nat):Int))) 2 v) 8 (.ptr H.size 0)) 9 (.int .i64 (.ofNat 128))) 10 (.int .i64 (.ofNat 0))) 19 (.int .i64 ((384:Nat):Int))) 23 (.bool true)) 10 (.int .i64 (.ofNat 8)))
   (by rfl) (by rfl) (by rfl) (by rfl) (by rfl) (by rfl)
  refine⟨v',H',Z',r1,g12.trans r2 nl,fun q=>?_⟩
  have e1:(((384:Nat):Int) == Int.ofNat 256)=false:=rfl
  have e2:(((384:Nat):Int) == Int.ofNat 384)=true:=rfl
  simp only[zDq,b1,zK,a1,za,s2',zZ,e1,zM,e2,zO]
  exact r3 q
 ·obtain⟨v',H',Z',r1,r2,r3⟩:=j0s c N hN h25 h24 512 64 128 0 (by omega) t H.size K hK v bs hlen H.size H2 o2.wf g12.size t2 w2 (rd g12) Z
   (T.s (T.s (T.s (T.s (T.s (T.s (T.s .leaf 0 (.ptr t 0)) 1 (.int .i64 ((512:Nat):Int))) 2 v) 8 (.ptr H.size 0)) 9 (.int .i64 (.ofNat 128))) 10 (.int .i64 (.ofNat 0))) 25 (.bool true))
   (by rfl) (by rfl) (by rfl) (by rfl) (by rfl) (by rfl)
  refine⟨v',H',Z',r1,g12.trans r2 nl,fun q=>?_⟩
  have e1:(((512:Nat):Int) == Int.ofNat 256)=false:=rfl
  have e2:(((512:Nat):Int) == Int.ofNat 384)=false:=rfl
  have e3:(((512:Nat):Int) == Int.ofNat 512)=true:=rfl
  simp only[zDq,b1,zK,a1,za,s2',zZ,e1,zM,e2,e3,zO]
  exact r3 q
end Go.Am.X

