/- The abstract machine, printed functions of the program, and what they are shown to be. -/
import Derived.Test.YtejpgcemblankaaDoorIMAL5
import Derived.Test.YtejpgcemblankaaDoorIMAM4
set_option linter.unusedSimpArgs false
set_option linter.unusedVariables false
namespace Go.Am.X
def zHP (bs:List Nat):List Nat :=
 (bs.drop (bs.length / 64*64)++[128])++List.replicate ((64-((bs.drop (bs.length / 64*64)++[128]).length+8) % 64) % 64) 0++lens bs.length 8
def zPb (C st bs:List Nat):List Nat :=
 outB .u32 4 (zEx C (zHP bs) ((zHP bs).length / 64) 0 (zEx C bs (bs.length / 64) 0 st))
theorem zPl (C st bs:List Nat)(h:st.length=8):(zPb C st bs).length=32:=by
 unfold zPb;rw[zTK,zK0 _ _ _ _ _ (zK0 _ _ _ _ _ h)]
theorem zHF (c:zD)(N:Nat)(hN:9223372036854775807<=N)(v:V)(bs st C:List Nat)(hlen:bs.length<80000)(hR:Roomy v)(hst:st.length=8)(h28:Mix28 c C)
  (H:Heap) (hw:WF H) (hC:H.cells? 6=some (ws .u64 C)) (hRd:Rd H 1 v bs.length (ws .u8 bs)) (hsr:Src H v) (Z:Tape) :
  ∃ v' H' Z',Own H' H.size 1 v' 32 (ws .u8 (zPb C st bs))/\Gr H.size H H'/\∀ q,zEQ c N (.agg (ws .i64 zBJ)) (.agg (ws .u32 st)) v H Z q=q v' H' Z':=by
 have a1:eBox [.agg (ws .i64 zBJ)] H Z=some (.ptr H.size 0,H.new (ws .i64 zBJ) 17 true,Z):=rfl
 have g1:=Gr.new hw (ws .i64 zBJ) 17 true
 have K1:=Bx.new H (ws .i64 zBJ) 17 true (by decide)
 have z1:(H.new (ws .i64 zBJ) 17 true).size=H.size+1:=rfl
 generalize H.new (ws .i64 zBJ) 17 true=H1 at a1 g1 K1 z1
 have a2:eBox [.agg (ws .u32 st)] H1 Z=some (.ptr H1.size 0,H1.new (ws .u32 st) (ws .u32 st).length true,Z):=rfl
 have g2:=Gr.new g1.wf (ws .u32 st) (ws .u32 st).length true
 have S2:=Bx.new H1 (ws .u32 st) (ws .u32 st).length true nl
 have z2:(H1.new (ws .u32 st) (ws .u32 st).length true).size=H1.size+1:=rfl
 generalize H1.new (ws .u32 st) (ws .u32 st).length true=H2 at a2 g2 S2 z2
 have K2:=K1.gr g2 (by omega)
 have g12:=g1.trans g2 (by omega)
 have hKS:H.size≠H1.size:=by omega
 have rdS:RdS H1.size H.size 1 H2 v bs.length (ws .u8 bs):=fun H' h=>hRd.gr (g12.trans (h.gr (by omega)) nl) hw nl
 have cS:zGR H1.size H.size H2 6 (ws .u64 C):=fun H' h=>(g12.trans (h.gr (by omega)) nl).cells hw nl hC
 have hdiv:bs.length / 64*64<=bs.length:=Nat.div_mul_le_self _ _
 obtain⟨H3,S3,g3',k3⟩:=l13_32 c N H1.size H.size H.size (bs.length / 64*64) hKS v bs C (by omega) hdiv hR h28 (bs.length / 64) 0 st H2 (Z:=Z) (m:=N) (by omega) (by omega) hst g12.wf g12.size K2 S2 cS rdS
  (fr:=(T.s (T.s (T.s (T.s (T.s .leaf 2 v) 3 (.ptr H.size 0)) 4 (.ptr H1.size 0)) 7 (.int .i64 ((bs.length / 64*64:Nat):Int))) 8 (.int .i64 (.ofNat 0))))
  (by rfl) (by rfl) (by rfl) (by rfl) (by rfl)
 have g3:Gx H1.size H.size H2 H3:=g3'.weaken g12.size
 have g13:=g12.trans (g3.gr (by omega)) nl
 have K3:=K2.gx g3' (by omega) hKS
 have st3:(zEx C bs (bs.length / 64) 0 st).length=8:=zK0 _ _ _ _ _ hst
 have hsz3:H1.size+1<=H3.size:=by have:=g3'.size;omega
 obtain⟨f1,b1⟩:∃ H4,zL 0 1 [] [] [] H3 Z=some (.sl H3.size 0 0 0 none 1,H4,Z)/\Gr H3.size H3 H4/\H4.cells? H3.size=some []:=⟨_,rfl,Gr.new g13.wf _ _ _,zBp _ _ _ _⟩
 obtain⟨b1,g4,e4⟩:=b1
 rename Heap=>H4
 have hs4:H1.size+1<=H4.size:=by have:=g4.size;omega
 have E4:Emp H4 (H1.size+1) (.sl H3.size 0 0 0 none 1):=⟨_,rfl,e4,by omega⟩
 have g14:=g13.trans (g4.weaken g13.size) nl
 have K4:=K3.gr g4 (by omega)
 have S4:=S3.gr g4 (by omega)
 have Rd4:Rd H4 1 v bs.length (ws .u8 bs):=hRd.gr g14 hw nl
 have Sr4:Src H4 v:=hsr.gr g14 hw nl
 obtain⟨v',c1,c2,c2',c3⟩:=Rd4.from hR (l:=bs.length / 64*64) hdiv
 have c3:=c3 H4 _ Rd4
 have hw8:(ws .u8 bs).drop (bs.length / 64*64*1)=ws .u8 (bs.drop (bs.length / 64*64)):=by simp[ws,List.map_drop]
 rw[hw8]at c3
 obtain⟨t5,H5,Z5,b5,o5,g5⟩:=E4.append (bytes:=1) g14.wf (by omega) c3 (c2' _ Sr4) (by omega) (by omega) Z
 have hs5:H1.size+1<=H5.size:=by have:=g5.size;omega
 have g15:=g14.trans (g5.weaken g14.size) nl
 have K5:=K4.gr g5 (by omega)
 have S5:=S4.gr g5 (by omega)
 obtain⟨w6,H6',t6,H6,Z6,b6,b6',o6,g6⟩:∃ w H1' v' H' Z',zL 1 1 [(V.int .u8 (.ofNat 0))] [(0,1)] [(V.int .u8 (.ofNat 128))] H5 Z5=some (w,H1',Z5)/\zAD 1 1 [t5,w] H1' Z5=some (v',H',Z') /\
   Own H' (H1.size+1) 1 v' (bs.drop (bs.length / 64*64)++[128]).length (ws .u8 (bs.drop (bs.length / 64*64)++[128]))/\Gr (H1.size+1) H5 H':=by
  rcases o5 with⟨o5,hpos⟩ | ⟨hz,rfl,rfl,hz2⟩
  ·obtain⟨w,Hq,v2,H',p1,p2,p3,p4,p5⟩:=o5.push (bytes:=1) g15.wf (by omega) (.int .u8 ((128:Nat):Int)) (.int .u8 (.ofNat 0)) rfl rfl (by omega) (by omega) Z5
   rw[zIz]at p3
   exact⟨w,Hq,v2,H',_,p1,p2,by simpa using p3,p4⟩
  ·obtain⟨w,Hq,v2,H',Z',p1,p2,p3,p4⟩:=E4.push (bytes:=1) g15.wf (by omega) (.int .u8 ((128:Nat):Int)) (.int .u8 (.ofNat 0)) rfl (by omega) Z5
   have:bs.drop (bs.length / 64*64)=[]:=by
    have:=congrArg List.length hz2
    rw[zAv]at this
    exact List.eq_nil_of_length_eq_zero this
   rw[this]
   exact⟨w,Hq,v2,H',Z',p1,p2,p3,p4.weaken hs4⟩
 have g16:=g15.trans (g6.weaken (show H.size<=H1.size+1 by omega)) nl
 have K6:=K5.gr g6 (by omega)
 have S6:=S5.gr g6 (by omega)
 have htl:(bs.drop (bs.length / 64*64)++[128]).length<=64:=by simp;omega
 generalize htd:bs.drop (bs.length / 64*64)++[128]=t0 at o6 htl
 have hs6:H1.size+1<=H6.size:=by have:=g6.size;omega
 obtain⟨t7,H7,Z7,o7,g7,k7⟩:=l12_32 c N H1.size H.size (H1.size+1) (by omega) v ((64-(t0.length+8) % 64) % 64) t0 t6 H6 (Z:=Z6) (m:=N) (by omega) (by omega) (by omega) (by omega) g16.wf hs6 o6 K6
  (fr:=(T.s (T.s (T.s (T.s .leaf 2 v) 3 (.ptr H.size 0)) 4 (.ptr H1.size 0)) 9 t6))
  (by rfl) (by rfl) (by rfl) (by rfl)
 have g17:=g16.trans (g7.weaken (show H.size<=H1.size+1 by omega)) nl
 have K7:=K6.gr g7 (by omega)
 have S7:=S6.gr g7 (by omega)
 have hs7:H1.size+1<=H7.size:=by have:=g7.size;omega
 have hl7:(t0++List.replicate ((64-(t0.length+8) % 64) % 64) 0).length<=256:=by simp;omega
 obtain⟨t8,H8,Z8,o8,g8,k8⟩:=l9_32 c N H1.size H.size (H1.size+1) bs.length v hRd.pLen 8 _ t7 H7 (Z:=Z7) (m:=N) (by omega) (by omega) (by omega) g17.wf hs7 o7
  (fr:=(T.s (T.s (T.s (T.s (T.s .leaf 2 v) 3 (.ptr H.size 0)) 4 (.ptr H1.size 0)) 9 t7) 10 (.int .i64 (((8:Nat):Int)-1))))
  (by rfl) (by rfl) (by rfl) (by rfl) (by rfl)
 have g18:=g17.trans (g8.weaken (show H.size<=H1.size+1 by omega)) nl
 have K8:=K7.gr g8 (by omega)
 have S8:=S7.gr g8 (by omega)
 have hs8:H1.size+1<=H8.size:=by have:=g8.size;omega
 have etail:t0++List.replicate ((64-(t0.length+8) % 64) % 64) 0++lens bs.length 8=zHP bs:=by rw[<- htd];rfl
 rw[etail]at o8
 have hmod:(zHP bs).length % 64=0:=by
  rw[<- etail];simp[zPH];omega
 have hle:(zHP bs).length<=300:=by
  rw[<- etail];simp[zPH]at hl7 ⊢;omega
 have rd8:=Own.rdS o8 g18.wf (show H1.size<H1.size+1 by omega)
 have c8:zGR H1.size H8.size H8 6 (ws .u64 C):=fun H' h=>(g18.trans ((h.weaken g18.size).gr (by omega)) nl).cells hw nl hC
 obtain⟨H9,S9,g9',k9⟩:=l8_32 c N H1.size H.size H8.size hKS t8 (zHP bs) C (by omega) o8.roomy h28 ((zHP bs).length / 64) 0 _ H8 (Z:=Z8) (m:=N) (by omega) (by omega) st3 g18.wf nl K8 S8 c8 rd8
  (fr:=(T.s (T.s (T.s (T.s .leaf 3 (.ptr H.size 0)) 4 (.ptr H1.size 0)) 9 t8) 12 (.int .i64 (.ofNat 0))))
  (by rfl) (by rfl) (by rfl) (by rfl)
 have g19:=g18.trans ((g9'.weaken g18.size).gr (by omega)) nl
 have K9:=K8.gx g9' (by have:=K8.lt g18.wf;omega) hKS
 have hs9:H1.size+1<=H9.size:=by have:=g9'.size;omega
 have st9:=zK0 C (zHP bs) ((zHP bs).length / 64) 0 _ st3
 have ld:zV 8 [.ptr H1.size 0] H9=some (.agg (ws .u32 (zEx C (zHP bs) ((zHP bs).length / 64) 0 (zEx C bs (bs.length / 64) 0 st)))):=by
  rw[zA1 (off:=0) (n:=8) S9.cells (by rw[zAv,st9];omega),List.drop_zero,List.take_of_length_le (by rw[zAv,st9];omega)]
 obtain⟨vA,HA,τA,oA,gA,kA⟩:=l5_32 c N (by omega) H.size (H1.size+1) (by omega) _ st9 _ 0 [] .nils H9 (Z:=Z8) (m:=N) (List.drop_zero ..) (by omega) (by rw[st9];simp) (by rw[st9];omega) g19.wf hs9 (Own.nil _ _ _) K9
  (fr:=(T.s (T.s (T.s (T.s .leaf 3 (.ptr H.size 0)) 13 .nils) 88 (.agg (ws .u32 (zEx C (zHP bs) ((zHP bs).length / 64) 0 (zEx C bs (bs.length / 64) 0 st))))) 89 (.int .i64 (.ofNat 0))))
  (by rfl) (by rfl) (by rfl) (by rfl)
 have gf:=g19.trans (gA.weaken (show H.size<=H1.size+1 by omega)) nl
 refine⟨vA,HA,τA,?_,gf,fun q=>?_⟩
 ·have e64:([]++outB .u32 4 (zEx C (zHP bs) ((zHP bs).length / 64) 0 (zEx C bs (bs.length / 64) 0 st)))=zPb C st bs:=rfl
  rw[e64,zPl _ _ _ hst]at oA
  exact Own.weaken oA (show H.size<=H1.size+1 by omega)
 ·have l14:=lk32 K2 (i:=14) (by omega)
  have l15:=lk32 K7 (i:=15) (by omega)
  simp only[zBJ,List.getD_cons_succ,List.getD_cons_zero]at l14 l15
  have eq1:wr .i64 (((bs.length:Nat):Int).tdiv ((64:Nat):Int))=((bs.length / 64:Nat):Int):=by
   rw[<- Int.ofNat_tdiv,zAZ (by omega) (by omega)]
  have eq2:wr .i64 (((bs.length / 64:Nat):Int)*((64:Nat):Int))=((bs.length / 64*64:Nat):Int):=by
   rw[zAZ (by omega) (by omega)];simp
  have eq3:wr .i64 (((8:Nat):Int)-Int.ofNat 1)=(((8:Nat):Int)-1):=rfl
  simp only[zEQ,a1,a2,zf,hRd.pLen,zN,fa0,l14,zI5 _ _ ((64:Nat):Int) (by decide),eq1,zIB,eq2]
  rw[k3]
  simp only[zP,Nat.beq_refl,cond_true,seqK,zHY,zJ,↓reduceIte,Nat.reduceEqDiff,b1,zf,c1,zN,b5,b6,b6']
  rw[k7]
  simp only[zP,Nat.beq_refl,cond_true,seqK,zIO,zJ,↓reduceIte,Nat.reduceEqDiff,fa0,zN,l15,zAC,eq3]
  rw[k8]
  simp only[zP,Nat.beq_refl,cond_true,seqK,zH6,zJ,↓reduceIte,Nat.reduceEqDiff]
  rw[k9]
  simp only[zP,Nat.beq_refl,cond_true,seqK,zHv,zJ,↓reduceIte,Nat.reduceEqDiff,ld,zN]
  rw[kA]
  simp only[zP,Nat.beq_refl,cond_true,seqK,zHl,zJ,↓reduceIte,Nat.reduceEqDiff]
end Go.Am.X

namespace Go.Am.X
def cutT (bits x:Nat):Nat:=if bits=32 then zKS .u64 x 4294967295 else x
theorem zOp (c:zD)(N:Nat)(bits x:Nat)(H:Heap)(hw:WF H)(Z:Tape) :
  ∃ H',Gr H.size H H'/\∀ q,zFv c N (.agg [.int .u64 (bits:Int)]) (.int .u64 (x:Int)) H Z q=q (.int .u64 (cutT bits x:Nat)) H' Z:=by
 refine⟨_,Gr.new hw [.int .u64 (bits:Int)] 1 true,fun q=>?_⟩
 have hK:=zBp H [.int .u64 (bits:Int)] 1 true
 have e0:eBox [.agg [.int .u64 (bits:Int)]] H Z=some (.ptr H.size 0,H.new [.int .u64 (bits:Int)] 1 true,Z):=rfl
 generalize H.new [.int .u64 (bits:Int)] 1 true=H1 at hK e0
 have l0:zF [.ptr H.size 0] H1=some (.int .u64 (bits:Int)):=zg (off:=0) hK rfl
 have ea:∀ (q:V->Ans),binK .and (.int .u64 (x:Int)) (.int .u64 (.ofNat 4294967295)) q=q (.int .u64 ((zKS .u64 x 4294967295:Nat):Int)):=fun q=>u_and uk64 x 4294967295 q
 by_cases h:bits=32
 ·have e1:((bits:Int) == Int.ofNat 32)=true:=by rw[h];rfl
  have ec:cutT bits x=zKS .u64 x 4294967295:=by unfold cutT;rw[if_pos h]
  rw[ec]
  simp only[zFv,e0,zf,fa0,zN,l0,zZ,e1,zn,ea]
 ·have e1:((bits:Int) == Int.ofNat 32)=false:=by
   rw[beq_eq_false_iff_ne];intro e;exact h (Int.ofNat.inj e)
  have ec:cutT bits x=x:=by unfold cutT;rw[if_neg h]
  rw[ec]
  simp only[zFv,e0,zf,fa0,zN,l0,zZ,e1,zq]
abbrev Cut31 (c:zD):Prop:=∀ (bits x:Nat) (H:Heap),WF H->∀ Z,∃ H',Gr H.size H H'/\∀ q,c zBH [.agg [.int .u64 (bits:Int)],.int .u64 (x:Int)] H Z q=q (.int .u64 (cutT bits x:Nat)) H' Z
def zTH (bits x n:Nat):Nat:=cutT bits (lorT .u64 (shrT .u64 x n) ((x*2 ^ min (bits-n) IntKind.u64.bits) % pow2 .u64))
theorem zN7 (c:zD)(N:Nat)(h31:Cut31 c)(bits x n:Nat)(hn:n<=bits)(hb:bits<=64)(H:Heap)(hw:WF H)(Z:Tape) :
  ∃ H',Gr H.size H H'/\∀ q,zGh c N (.agg [.int .u64 (bits:Int)]) (.int .u64 (x:Int)) (.int .u64 (n:Int)) H Z q=q (.int .u64 (zTH bits x n:Nat)) H' Z:=by
 have g1:=Gr.new hw [.int .u64 (bits:Int)] 1 true
 have hK:=zBp H [.int .u64 (bits:Int)] 1 true
 have e0:eBox [.agg [.int .u64 (bits:Int)]] H Z=some (.ptr H.size 0,H.new [.int .u64 (bits:Int)] 1 true,Z):=rfl
 generalize H.new [.int .u64 (bits:Int)] 1 true=H1 at hK e0 g1
 have l0:zF [.ptr H.size 0] H1=some (.int .u64 (bits:Int)):=zg (off:=0) hK rfl
 have l1:zV 1 [.ptr H.size 0] H1=some (.agg [.int .u64 (bits:Int)]):=zA1 (off:=0) (n:=1) hK (by simp)
 obtain⟨H2,g2,k2⟩:=h31 bits (lorT .u64 (shrT .u64 x n) ((x*2 ^ min (bits-n) IntKind.u64.bits) % pow2 .u64)) H1 g1.wf Z
 refine⟨H2,g1.trans g2 g1.size,fun q=>?_⟩
 have es:wr .u64 ((bits:Int)-(n:Int))=((bits-n:Nat):Int):=by
  rw[<- Int.ofNat_sub hn,uk64]
  congr 1
  apply Nat.mod_eq_of_lt
  have:pow2 .u64=18446744073709551616:=by decide
  omega
 simp only[zGh,e0,zf,l1,zN,zLr,fa0,l0,zAC,es,u_shl uk64,u_or uk64]
 exact k2 q
abbrev Turn38 (c:zD):Prop:=∀ (bits x n:Nat),n<=bits->bits<=64->∀ (H:Heap),WF H->∀ Z,∃ H',Gr H.size H H'/\∀ q,c zBm [.agg [.int .u64 (bits:Int)],.int .u64 (x:Int),.int .u64 (n:Int)] H Z q=q (.int .u64 (zTH bits x n:Nat)) H' Z
def mixW (bits x a b d:Nat)(shift:Bool):Nat:=xorT .u64 (xorT .u64 (zTH bits x a) (zTH bits x b)) (if shift then shrT .u64 x d else zTH bits x d)
theorem zOm (c:zD)(N:Nat)(h38:Turn38 c)(bits x a b d:Nat)(shift:Bool)(ha:a<=bits)(hb:b<=bits)(hd:d<=bits)(h64:bits<=64)(H:Heap)(hw:WF H)(Z:Tape) :
  ∃ H',Gr H.size H H'/\∀ q,zFe c N (.agg [.int .u64 (bits:Int)]) (.int .u64 (x:Int)) (.int .u64 (a:Int)) (.int .u64 (b:Int)) (.int .u64 (d:Int)) (.bool shift) H Z q=q (.int .u64 (mixW bits x a b d shift:Nat)) H' Z:=by
 have g1:=Gr.new hw [.int .u64 (bits:Int)] 1 true
 have hK:=zBp H [.int .u64 (bits:Int)] 1 true
 have e0:eBox [.agg [.int .u64 (bits:Int)]] H Z=some (.ptr H.size 0,H.new [.int .u64 (bits:Int)] 1 true,Z):=rfl
 generalize H.new [.int .u64 (bits:Int)] 1 true=H1 at hK e0 g1
 have ld:∀ {H:Heap},H.cells? (H.size)=H.cells? H.size->True:=fun _=>trivial
 have l1:∀ {K:Heap},K.cells? H.size=some [.int .u64 (bits:Int)]->zV 1 [.ptr H.size 0] K=some (.agg [.int .u64 (bits:Int)]):=fun h=>zA1 (off:=0) (n:=1) h (by simp)
 obtain⟨H2,g2,k2⟩:=h38 bits x a ha h64 H1 g1.wf Z
 obtain⟨H3,g3,k3⟩:=h38 bits x b hb h64 H2 g2.wf Z
 obtain⟨H4,g4,k4⟩:=h38 bits x d hd h64 H3 g3.wf Z
 have c2:=g2.cells g1.wf nl hK
 have c3:=g3.cells g2.wf nl c2
 have c4:=g4.cells g3.wf nl c3
 have m1:=l1 hK
 have m2:=l1 c2
 have m3:=l1 c3
 have m4:=l1 c4
 cases shift with
 | true =>
  refine⟨H3,(g1.trans g2 g1.size).trans g3 (Nat.le_trans g1.size g2.size),fun q=>?_⟩
  have hc:zY [H1,H2,H3] (((.load (some 1)),[.ptr H.size 0],0,1)::[])=true:=by
   simp[zY,zFd,zLT,m1,m2,m3,chk1,same,zIV,zMo,zG3]
  simp only[zFe,e0,zf,zn,m1,zN,k2,m2,k3,zR6 uk64,zLr,hc,cond_true,mixW,if_true]
  rfl
 | false =>
  refine⟨H4,((g1.trans g2 g1.size).trans g3 (Nat.le_trans g1.size g2.size)).trans g4 (Nat.le_trans (Nat.le_trans g1.size g2.size) g3.size),fun q=>?_⟩
  have hc:zY [H1,H2,H3,H4] (((.load (some 1)),[.ptr H.size 0],0,2)::(((.load (some 1)),[.ptr H.size 0],0,1)::[]))=true:=by
   simp[zY,zFd,zLT,m1,m2,m3,m4,chk1,same,zIV,zMo,zG3]
  simp only[zFe,e0,zf,zq,m1,zN,k2,m2,k3,m3,k4,zR6 uk64,hc,cond_true,mixW]
  rfl
def sumX (O A B:List Nat)(i k c:Nat):Nat:=((O.getD (i+k) 0+A.getD i 0*B.getD k 0 % pow2 .u64) % pow2 .u64+c) % pow2 .u64
def tInP (A B:List Nat)(i:Nat):Nat->Nat->List Nat->Nat->List Nat × Nat
 | 0,_,O,c=>(O,c)
 | n+1,k,O,c=>tInP A B i n (k+1) (O.set (i+k) (zKS .u64 (sumX O A B i k c) 65535)) (shrT .u64 (sumX O A B i k c) 16)
theorem tInP_len (A B:List Nat)(i:Nat):∀ n k O c,(tInP A B i n k O c).1.length=O.length:=by
 intro n;induction n with
 | zero=>intros;rfl
 | succ n ih=>intro k O c;rw[tInP,ih];simp
def tOutP (A B:List Nat)(n:Nat):Nat->Nat->List Nat->List Nat
 | 0,_,O=>O
 | m+1,i,O=>tOutP A B n m (i+1) ((tInP A B i n 0 O 0).1.set (i+n) (((tInP A B i n 0 O 0).1.getD (i+n) 0+(tInP A B i n 0 O 0).2) % pow2 .u64))
theorem tOutP_len (A B:List Nat)(n:Nat):∀ m i O,(tOutP A B n m i O).length=O.length:=by
 intro m;induction m with
 | zero=>intros;rfl
 | succ m ih=>intro i O;rw[tOutP,ih];simp[tInP_len]
def zCZ (A:List Nat)(m:Nat)(B:List Nat)(n:Nat):List Nat:=tOutP A B n m 0 (List.replicate 16 0)
theorem zHA (A:List Nat)(m:Nat)(B:List Nat)(n:Nat):(zCZ A m B n).length=16:=by unfold zCZ;rw[tOutP_len];simp
theorem ai16 (X:Nat){i:Nat}(h:i<16):zG 16 1 [.ptr X 0,.int .i64 (i:Int)]=some (.ptr X i):=by
 have:=z8 (z:=1) (id:=X) (off:=0) h
 simpa using this
theorem adN {i k:Nat}(h:i+k<1000000):wr .i64 ((i:Int)+(k:Int))=((i+k:Nat):Int):=by rw[zAZ (by omega) (by omega)];simp
theorem zTE (c:zD)(N:Nat)(a b o r:Nat)(hao:a≠o)(hbo:b≠o)(A B:List Nat)(hA:A.length=16)(hB:B.length=16)(i n:Nat)(hin:i+n<=16)(hi:i<16)(v1:V) :
  ∀ (j k:Nat) (O:List Nat) (cy:Nat) (H:Heap) (fr:T V) (Z:Tape) (m:Nat),k+j=n->j<m->O.length=16->WF H->Bx H a (ws .u64 A)->Bx H b (ws .u64 B)->Bx H o (ws .u64 O) ->
  fr.get 1=some v1->fr.get 3=some (.int .i64 (n:Int))->fr.get 4=some (.ptr a 0)->fr.get 6=some (.ptr b 0)->fr.get 8=some (.ptr r 0)->fr.get 9=some (.ptr o 0)->fr.get 10=some (.int .i64 (i:Int))->fr.get 11=some (.int .u64 (cy:Int))->fr.get 12=some (.int .i64 (k:Int)) ->
  ∃ H',Bx H' o (ws .u64 (tInP A B i j k O cy).1)/\Chg (fun x=>x=o) H H' /\
   ∀ q,zW (zH1 c N) m ⟨fr,H⟩ Z q=q (.exit 2) ⟨(T.s (T.s (T.s (T.s (T.s (T.s (T.s (T.s .leaf 1 v1) 3 (.int .i64 (n:Int))) 4 (.ptr a 0)) 6 (.ptr b 0)) 8 (.ptr r 0)) 9 (.ptr o 0)) 10 (.int .i64 (i:Int))) 11 (.int .u64 ((tInP A B i j k O cy).2:Nat))),H'⟩ Z:=by
 intro j
 induction j with
 | zero =>
  intro k O cy H fr Z m hk hm hO hw ha hb ho f1 f3 f4 f6 f8 f9 f10 f11 f12
  obtain⟨m,rfl⟩:∃ j,m=j+1:=⟨m-1,by omega⟩
  refine⟨H,ho,Chg.refl hw,fun q=>?_⟩
  have e1:decide ((k:Int)<(n:Int))=false:=decide_eq_false (by omega)
  rw[zC]
  simp only[zH1,zA f1,zA f3,zA f4,zA f6,zA f8,zA f9,zA f10,zA f11,zA f12,zI,e1,zq]
  rfl
 | succ j ih =>
  intro k O cy H fr Z m hk hm hO hw ha hb ho f1 f3 f4 f6 f8 f9 f10 f11 f12
  obtain⟨m,rfl⟩:∃ j,m=j+1:=⟨m-1,by omega⟩
  have e1:decide ((k:Int)<(n:Int))=true:=decide_eq_true (by omega)
  obtain⟨H1,s1,s2,s3⟩:=ho.word hw (i:=i+k) (by omega) (zKS .u64 (sumX O A B i k cy) 65535) Z
  have g1:Chg (fun x=>x=o) H H1:=s3.chg rfl
  obtain⟨H',r1,r2,r3⟩:=ih (k+1) (O.set (i+k) (zKS .u64 (sumX O A B i k cy) 65535)) (shrT .u64 (sumX O A B i k cy) 16) H1
   (T.s (T.s (T.s (T.s (T.s (T.s (T.s (T.s (T.s (T.s (T.s (T.s .leaf 1 v1) 3 (.int .i64 (n:Int))) 4 (.ptr a 0)) 6 (.ptr b 0)) 8 (.ptr r 0)) 9 (.ptr o 0)) 10 (.int .i64 (i:Int))) 11 (.int .u64 ((shrT .u64 (sumX O A B i k cy) 16:Nat):Int))) 12 (.int .i64 (k:Int))) 22 (.int .i64 (k:Int))) 23 (.int .i64 ((k+1:Nat):Int))) 12 (.int .i64 ((k+1:Nat):Int)))
   Z m (by omega) (by omega) (by simp[hO]) s3.wf (ha.only s3 hao) (hb.only s3 hbo) s2
   (by rfl) (by rfl) (by rfl) (by rfl) (by rfl) (by rfl) (by rfl) (by rfl) (by rfl)
  refine⟨H',r1,g1.trans r2 fun _ _ q=>q,fun q=>?_⟩
  have e4:wr .i64 ((k:Int)+Int.ofNat 1)=((k+1:Nat):Int):=adN (k:=1) (by omega)
  have el:∀ (q:V->Ans) (x:Nat),binK .and (.int .u64 (x:Int)) (.int .u64 (.ofNat 65535)) q=q (.int .u64 ((zKS .u64 x 65535:Nat):Int)):=fun q x=>u_and uk64 x 65535 q
  have es:∀ (q:V->Ans) (x:Nat),binK .shr (.int .u64 (x:Int)) (.int .u64 (.ofNat 16)) q=q (.int .u64 ((shrT .u64 x 16:Nat):Int)):=fun q x=>zLr (k:=.u64) (k':=.u64) x 16 q
  rw[zC]
  simp only[zH1,zA f1,zA f3,zA f4,zA f6,zA f8,zA f9,zA f10,zA f11,zA f12,zI,e1,zn,zQ .i64,adN (show i+k<1000000 by omega),ai16 _ (show i+k<16 by omega),ai16 _ hi,ai16 _ (show k<16 by omega),zN,
   zAN ho (show i+k<O.length by omega),zAN ha (show i<A.length by omega),zAN hb (show k<B.length by omega),u_mul uk64,zPx uk64,<- sumX.eq_1,el,es,s1,zf,e4]
  exact r3 q
theorem zSs (c:zD)(N:Nat)(hN:1000<=N)(a b o r:Nat)(hao:a≠o)(hbo:b≠o)(A B:List Nat)(hA:A.length=16)(hB:B.length=16)(M n:Nat)(hMn:M+n<=16)(hn:0<n) :
  ∀ (j i:Nat) (O:List Nat) (H:Heap) (fr:T V) (Z:Tape) (m:Nat),i+j=M->j<m->O.length=16->WF H->Bx H a (ws .u64 A)->Bx H b (ws .u64 B)->Bx H o (ws .u64 O) ->
  fr.get 1=some (.int .i64 (M:Int))->fr.get 3=some (.int .i64 (n:Int))->fr.get 4=some (.ptr a 0)->fr.get 6=some (.ptr b 0)->fr.get 8=some (.ptr r 0)->fr.get 9=some (.ptr o 0)->fr.get 10=some (.int .i64 (i:Int)) ->
  ∃ H',Bx H' o (ws .u64 (tOutP A B n j i O))/\Chg (fun x=>x=o) H H'/\∀ q,zW (zHj c N) m ⟨fr,H⟩ Z q=q (.exit 0) ⟨(T.s (T.s .leaf 8 (.ptr r 0)) 9 (.ptr o 0)),H'⟩ Z:=by
 intro j
 induction j with
 | zero =>
  intro i O H fr Z m hk hm hO hw ha hb ho f1 f3 f4 f6 f8 f9 f10
  obtain⟨m,rfl⟩:∃ j,m=j+1:=⟨m-1,by omega⟩
  refine⟨H,ho,Chg.refl hw,fun q=>?_⟩
  have e1:decide ((i:Int)<(M:Int))=false:=decide_eq_false (by omega)
  rw[zC]
  simp only[zHj,zA f1,zA f3,zA f4,zA f6,zA f8,zA f9,zA f10,zI,e1,zq]
  rfl
 | succ j ih =>
  intro i O H fr Z m hk hm hO hw ha hb ho f1 f3 f4 f6 f8 f9 f10
  obtain⟨m,rfl⟩:∃ j,m=j+1:=⟨m-1,by omega⟩
  have e1:decide ((i:Int)<(M:Int))=true:=decide_eq_true (by omega)
  obtain⟨H1,o1,g1,k1⟩:=zTE c N a b o r hao hbo A B hA hB i n (by omega) (by omega) (.int .i64 (M:Int)) n 0 O 0 H
   (T.s (T.s (T.s (T.s (T.s (T.s (T.s (T.s (T.s .leaf 1 (.int .i64 (M:Int))) 3 (.int .i64 (n:Int))) 4 (.ptr a 0)) 6 (.ptr b 0)) 8 (.ptr r 0)) 9 (.ptr o 0)) 10 (.int .i64 (i:Int))) 11 (.int .u64 (.ofNat 0))) 12 (.int .i64 (.ofNat 0)))
   Z N (by omega) (by omega) hO hw ha hb ho
   (by rfl) (by rfl) (by rfl) (by rfl) (by rfl) (by rfl) (by rfl) (by rfl) (by rfl)
  have hl1:(tInP A B i n 0 O 0).1.length=16:=by rw[tInP_len,hO]
  obtain⟨H2,s1,s2,s3⟩:=o1.word g1.wf (i:=i+n) (by omega) (((tInP A B i n 0 O 0).1.getD (i+n) 0+(tInP A B i n 0 O 0).2) % pow2 .u64) Z
  have g2:Chg (fun x=>x=o) H H2:=g1.trans (s3.chg (P:=fun x=>x=o) rfl) fun _ _ q=>q
  obtain⟨H',r1,r2,r3⟩:=ih (i+1) _ H2
   (T.s (T.s (T.s (T.s (T.s (T.s (T.s (T.s (T.s (T.s .leaf 1 (.int .i64 (M:Int))) 3 (.int .i64 (n:Int))) 4 (.ptr a 0)) 6 (.ptr b 0)) 8 (.ptr r 0)) 9 (.ptr o 0)) 10 (.int .i64 (i:Int))) 17 (.int .i64 (i:Int))) 18 (.int .i64 ((i+1:Nat):Int))) 10 (.int .i64 ((i+1:Nat):Int)))
   Z m (by omega) (by omega) (by simp[hl1]) g2.wf (ha.chg hw g2 hao) (hb.chg hw g2 hbo) s2
   (by rfl) (by rfl) (by rfl) (by rfl) (by rfl) (by rfl) (by rfl)
  refine⟨H',r1,g2.trans r2 fun _ _ q=>q,fun q=>?_⟩
  have e4:wr .i64 ((i:Int)+Int.ofNat 1)=((i+1:Nat):Int):=adN (k:=1) (by omega)
  rw[zC]
  simp only[zHj,zA f1,zA f3,zA f4,zA f6,zA f8,zA f9,zA f10,zI,e1,zn]
  rw[k1]
  simp only[zP,Nat.beq_refl,cond_true,cond_false,seqK,zNb,zJ,↓reduceIte,Nat.reduceEqDiff,zQ .i64,adN (show i+n<1000000 by omega),ai16 _ (show i+n<16 by omega),zN,zAN o1 (show i+n<(tInP A B i n 0 O 0).1.length by omega),zPx uk64,s1,zf,zKq,e4]
  exact r3 q
theorem zQi (c:zD)(N:Nat)(hN:1000<=N)(A B:List Nat)(hA:A.length=16)(hB:B.length=16)(M n:Nat)(hMn:M+n<=16)(hn:0<n)(H:Heap)(hw:WF H)(Z:Tape) :
  ∃ H',Gr H.size H H'/\∀ q,zLL c N (.agg (ws .u64 A)) (.int .i64 (M:Int)) (.agg (ws .u64 B)) (.int .i64 (n:Int)) H Z q=q (.agg (ws .u64 (zCZ A M B n))) H' Z:=by
 have a1:eBox [.agg (ws .u64 A)] H Z=some (.ptr H.size 0,H.new (ws .u64 A) (ws .u64 A).length true,Z):=rfl
 have g1:=Gr.new hw (ws .u64 A) (ws .u64 A).length true
 have b1:=Bx.new H (ws .u64 A) (ws .u64 A).length true nl
 have z1:(H.new (ws .u64 A) (ws .u64 A).length true).size=H.size+1:=rfl
 generalize H.new (ws .u64 A) (ws .u64 A).length true=H1 at a1 g1 b1 z1
 have a2:eBox [.agg (ws .u64 B)] H1 Z=some (.ptr H1.size 0,H1.new (ws .u64 B) (ws .u64 B).length true,Z):=rfl
 have g2:=Gr.new g1.wf (ws .u64 B) (ws .u64 B).length true
 have b2:=Bx.new H1 (ws .u64 B) (ws .u64 B).length true nl
 have z2:(H1.new (ws .u64 B) (ws .u64 B).length true).size=H1.size+1:=rfl
 generalize H1.new (ws .u64 B) (ws .u64 B).length true=H2 at a2 g2 b2 z2
 have a3:zBK (repl 16 [(.int .u64 (.ofNat 0))]) [] H2 Z=some (.ptr H2.size 0,H2.new (ws .u64 (List.replicate 16 0)) 16 true,Z):=rfl
 have g3:=Gr.new g2.wf (ws .u64 (List.replicate 16 0)) 16 true
 have b3:=Bx.new H2 (ws .u64 (List.replicate 16 0)) 16 true nl
 have z3:(H2.new (ws .u64 (List.replicate 16 0)) 16 true).size=H2.size+1:=rfl
 generalize H2.new (ws .u64 (List.replicate 16 0)) 16 true=H3 at a3 g3 b3 z3
 have a4:zBK (repl 16 [(.int .u64 (.ofNat 0))]) [] H3 Z=some (.ptr H3.size 0,H3.new (ws .u64 (List.replicate 16 0)) 16 true,Z):=rfl
 have g4:=Gr.new g3.wf (ws .u64 (List.replicate 16 0)) 16 true
 have b4:=Bx.new H3 (ws .u64 (List.replicate 16 0)) 16 true nl
 generalize H3.new (ws .u64 (List.replicate 16 0)) 16 true=H4 at a4 g4 b4
 have z4:=g4.size
 have bA:=((b1.gr g2 (by omega)).gr g3 (by omega)).gr g4 (by omega)
 have bB:=(b2.gr g3 (by omega)).gr g4 (by omega)
 have bR:=b3.gr g4 (by omega)
 obtain⟨H5,o5,g5,k5⟩:=zSs c N hN H.size H1.size H3.size H2.size (by omega) (by omega) A B hA hB M n hMn hn M 0 (List.replicate 16 0) H4
  (T.s (T.s (T.s (T.s (T.s (T.s (T.s .leaf 1 (.int .i64 (M:Int))) 3 (.int .i64 (n:Int))) 4 (.ptr H.size 0)) 6 (.ptr H1.size 0)) 8 (.ptr H2.size 0)) 9 (.ptr H3.size 0)) 10 (.int .i64 (.ofNat 0)))
  Z N (by omega) (by omega) (by simp) g4.wf bA bB b4
  (by rfl) (by rfl) (by rfl) (by rfl) (by rfl) (by rfl) (by rfl)
 have bR5:=bR.chg g4.wf g5 (by omega)
 have hlen:=zHA A M B n
 obtain⟨H6,s1,s2,s3⟩:=bR5.eStore g5.wf 0 (.agg (ws .u64 (zCZ A M B n))) 16 (by simp only[V.cells];rw[zAv,hlen]) (by simp[zAv]) (by omega) (by simp only[V.cells];rw[List.all_eq_true];intro x hx;obtain⟨_,_,rfl⟩:=List.mem_map.1 hx;rfl) Z
 have e16:(ws .u64 (List.replicate 16 0)).take 0++(V.agg (ws .u64 (zCZ A M B n))).cells++(ws .u64 (List.replicate 16 0)).drop (0+16)=ws .u64 (zCZ A M B n):=by
  rw[List.drop_eq_nil_of_le (by simp[zAv])];simp[V.cells]
 rw[e16]at s2
 have gg:=((g1.trans (g2.trans (g3.trans g4 (by omega)) (by omega)) (by omega)).trans (g5.gr (B:=H.size) (by omega) fun i hi e=>by omega) nl).trans (s3.gr (B:=H.size) (by omega)) nl
 refine⟨H6,gg,fun q=>?_⟩
 have ld:zV 16 [.ptr H3.size 0] H5=some (.agg (ws .u64 (zCZ A M B n))):=by
  have:zV 16 [.ptr H3.size 0] H5=some (.agg (((ws .u64 (zCZ A M B n)).drop 0).take 16)):=zA1 o5.cells (by rw[zAv];exact Nat.le_of_eq hlen.symm)
  rw[this,List.drop_zero,List.take_of_length_le (by rw[zAv,hlen];omega)]
 have hres:results ⟨(T.s .leaf 8 (.ptr H2.size 0)),H6⟩ [(.cell 8 (some 16))]=some (.agg (ws .u64 (zCZ A M B n))):=by
  have hl:H6.loads H2.size 0 16=some (ws .u64 (zCZ A M B n)):=by
   rw[zAr s2.cells (by rw[zAv,hlen];omega),List.drop_zero,List.take_of_length_le (by rw[zAv,hlen];omega)]
  simp[results,zPV,resOf,T.get_set,zFd,zLT,zV,hl]
 simp only[zLL,a1,a2,a3,a4,zf]
 rw[k5]
 simp only[zP,Nat.beq_refl,cond_true,cond_false,seqK,zNJ,zJ,↓reduceIte,Nat.reduceEqDiff,ld,zN,s1,zf,hres]
end Go.Am.X

namespace Go.Am.X
def cmpP (L:List Nat)(p at':Nat):Nat->Bool
 | 0=>true
 | i+1=>if L.getD i 0=(if i=at' then p else 0)then cmpP L p at' i else decide (L.getD i 0<(if i=at' then p else 0))
def zM6 (x:List Nat)(p:Nat)(cube:Bool):Bool:=if cube then cmpP (zCZ (zCZ x 5 x 5) 10 x 5) p 12 16 else cmpP (zCZ x 5 x 5) p 8 16
theorem zQJ (c:zD)(N:Nat)(L:List Nat)(hL:L.length=16)(p at' b:Nat)(H:Heap)(hb:Bx H b (ws .u64 L))(q:KV)(Z:Tape) :
  ∀ (n:Nat) (fr:T V) (m:Nat),n<=16->n<m->fr.get 1=some (.int .u64 (p:Int))->fr.get 7=some (.ptr b 0)->fr.get 8=some (.int .i64 (at':Int))->fr.get 9=some (.int .i64 ((n:Int)-1)) ->
  zW (zEo c N) m ⟨fr,H⟩ Z (zP 0 (seqK (zFw c N q) (endK [(.t 6)] q)))=q (.bool (cmpP L p at' n)) H Z:=by
 intro n
 induction n with
 | zero =>
  intro fr m hn hm f1 f7 f8 f9
  obtain⟨m,rfl⟩:∃ j,m=j+1:=⟨m-1,by omega⟩
  have e1:decide (Int.ofNat 0<=(((0:Nat):Int)-1))=false:=by decide
  rw[zC]
  simp only[zEo,zA f1,zA f7,zA f8,zA f9,zt,e1,zq,seqK,zP,Nat.beq_refl,cond_true,zFw,cmpP]
 | succ n ih =>
  intro fr m hn hm f1 f7 f8 f9
  obtain⟨m,rfl⟩:∃ j,m=j+1:=⟨m-1,by omega⟩
  have en:(((n+1:Nat):Int)-1)=(n:Int):=by omega
  rw[en]at f9
  have e1:decide (Int.ofNat 0<=(n:Int))=true:=decide_eq_true (by simp)
  have e7:wr .i64 ((n:Int)-Int.ofNat 1)=(n:Int)-1:=by rw[zAZ (by simp;omega) (by simp;omega)];rfl
  have ld:=zAN hb (show n<L.length by omega)
  have key:∀ (want:Nat) (fr':T V),fr'.get 1=some (.int .u64 (p:Int))->fr'.get 7=some (.ptr b 0)->fr'.get 8=some (.int .i64 (at':Int))->fr'.get 9=some (.int .i64 (n:Int))->fr'.get 10=some (.int .u64 (want:Int)) ->
    zFo c N (seqK (fun st Z=>zW (zEo c N) m st Z (zP 0 (seqK (zFw c N q) (endK [(.t 6)] q)))) (zP 0 (seqK (zFw c N q) (endK [(.t 6)] q)))) ⟨fr',H⟩ Z=q (.bool (if L.getD n 0=want then cmpP L p at' n else decide (L.getD n 0<want))) H Z:=by
   intro want fr' g1 g7 g8 g9 g10
   by_cases hw:L.getD n 0=want
   ·have e2:(((L.getD n 0:Nat):Int) !=(want:Int))=false:=by rw[hw];simp
    simp only[zFo,zA g1,zA g7,zA g8,zA g9,zA g10,ai16 _ (show n<16 by omega),zN,ld,zCV,e2,zq,zNE,zJ,↓reduceIte,Nat.reduceEqDiff,zAC,e7,seqK]
    rw[ih _ m (by omega) (by omega) (by rfl) (by rfl) (by rfl) (by rfl),if_pos hw]
   ·have e2:(((L.getD n 0:Nat):Int) !=(want:Int))=true:=by simp only[bne_iff_ne,ne_eq];intro h;exact hw (Int.ofNat.inj h)
    have e3:decide (((L.getD n 0:Nat):Int)<(want:Int))=decide (L.getD n 0<want):=by simp
    simp only[zFo,zA g1,zA g7,zA g8,zA g9,zA g10,ai16 _ (show n<16 by omega),zN,ld,zCV,e2,zn,zI,e3,seqK,zP]
    rw[if_neg hw]
    simp[endK,results,zPV,resOf,T.get_set,zB]
  rw[zC]
  by_cases ha:n=at'
  ·have e3:((n:Int) ==(at':Int))=true:=by rw[ha];simp
   simp only[zEo,zA f1,zA f7,zA f8,zA f9,zt,e1,zn,zZ,e3]
   rw[key p _ (by rfl) (by rfl) (by rfl) (by rfl) (by rfl),cmpP,if_pos ha]
  ·have e3:((n:Int) ==(at':Int))=false:=by rw[beq_eq_false_iff_ne];intro h;exact ha (Int.ofNat.inj h)
   simp only[zEo,zA f1,zA f7,zA f8,zA f9,zt,e1,zn,zZ,e3,zq]
   rw[key 0 _ (by rfl) (by rfl) (by rfl) (by rfl) (by rfl),cmpP,if_neg ha]
abbrev Times37 (c:zD):Prop:=∀ (A B:List Nat) (M n:Nat),A.length=16->B.length=16->M+n<=16->0<n->∀ (H:Heap),WF H->∀ Z,∃ H',Gr H.size H H'/\∀ q,c zFs [.agg (ws .u64 A),.int .i64 (M:Int),.agg (ws .u64 B),.int .i64 (n:Int)] H Z q=q (.agg (ws .u64 (zCZ A M B n))) H' Z
theorem ws_scal' (k:IntKind)(l:List Nat):(ws k l).all V.scal=true:=by
 rw[List.all_eq_true]
 intro x hx
 obtain⟨n,_,rfl⟩:=List.mem_map.1 hx
 rfl
theorem Bx.words {H:Heap}{id:Nat}{k:IntKind}{l:List Nat}(h:Bx H id (ws k l))(hw:WF H)(l':List Nat){n:Nat}(hn:l.length=n)(hn':l'.length=n)(h0:0<n)(Z:Tape) :
  ∃ H',Am.eStore n [.ptr id 0,.agg (ws k l')] H Z=some (.tup [],H',Z)/\Bx H' id (ws k l')/\Only id H H':=by
 obtain⟨H',h1,h2,h3⟩:=h.eStore hw 0 (.agg (ws k l')) n (by simp only[V.cells];rw[zAv,hn']) (by rw[zAv];omega) h0 (by simp only[V.cells];exact ws_scal' _ _) Z
 refine⟨H',h1,?_,h3⟩
 have e:(ws k l).take 0++(V.agg (ws k l')).cells++(ws k l).drop (0+n)=ws k l':=by
  rw[List.drop_eq_nil_of_le (by rw[zAv];omega)];simp[V.cells]
 rw[e]at h2
 exact h2
theorem zGu {H:Heap}{id:Nat}{k:IntKind}{l:List Nat}(h:Bx H id (ws k l)){n:Nat}(hn:l.length=n):zV n [.ptr id 0] H=some (.agg (ws k l)):=by
 rw[zA1 (off:=0) (n:=n) h.cells (by rw[zAv];omega),List.drop_zero,List.take_of_length_le (by rw[zAv];omega)]
theorem zQl (c:zD)(N:Nat)(hN:1000<=N)(h37:Times37 c)(x:List Nat)(hx:x.length=16)(p:Nat)(cube:Bool)(H:Heap)(hw:WF H)(Z:Tape) :
  ∃ H',Gr H.size H H'/\∀ q,zJL c N (.agg (ws .u64 x)) (.int .u64 (p:Int)) (.bool cube) H Z q=q (.bool (zM6 x p cube)) H' Z:=by
 have a1:eBox [.agg (ws .u64 x)] H Z=some (.ptr H.size 0,H.new (ws .u64 x) (ws .u64 x).length true,Z):=rfl
 have g1:=Gr.new hw (ws .u64 x) (ws .u64 x).length true
 have b1:=Bx.new H (ws .u64 x) (ws .u64 x).length true nl
 have z1:(H.new (ws .u64 x) (ws .u64 x).length true).size=H.size+1:=rfl
 generalize H.new (ws .u64 x) (ws .u64 x).length true=H1 at a1 g1 b1 z1
 obtain⟨H2,g2,k2⟩:=h37 x x 5 5 hx hx (by omega) (by omega) H1 g1.wf Z
 have b2:=b1.gr g2 (by omega)
 have a3:zBK (repl 16 [(.int .u64 (.ofNat 0))]) [] H2 Z=some (.ptr H2.size 0,H2.new (ws .u64 (List.replicate 16 0)) 16 true,Z):=rfl
 have g3:=Gr.new g2.wf (ws .u64 (List.replicate 16 0)) 16 true
 have o3:=Bx.new H2 (ws .u64 (List.replicate 16 0)) 16 true nl
 have z3:(H2.new (ws .u64 (List.replicate 16 0)) 16 true).size=H2.size+1:=rfl
 generalize H2.new (ws .u64 (List.replicate 16 0)) 16 true=H3 at a3 g3 o3 z3
 have z2:=g2.size
 have b3:=b2.gr g3 (by omega)
 obtain⟨H4,s1,s2,s3⟩:=Bx.words o3 g3.wf (zCZ x 5 x 5) (n:=16) (by simp) (zHA _ _ _ _) (by omega) Z
 have b4:=b3.only s3 (by omega)
 have z4:=s3.size
 have g4:Gr H.size H H4:=(g1.trans (g2.trans g3 (by omega)) (by omega)).trans (s3.gr (B:=H.size) (by omega)) nl
 have k2':∀ q,c zFs [.agg (ws .u64 x),.int .i64 (.ofNat 5),.agg (ws .u64 x),.int .i64 (.ofNat 5)] H1 Z q=q (.agg (ws .u64 (zCZ x 5 x 5))) H2 Z:=k2
 cases cube with
 | false =>
  have eb:zM6 x p false=cmpP (zCZ x 5 x 5) p 8 16:=by unfold zM6;exact if_neg (by decide)
  rw[eb]
  refine⟨H4,g4,fun q=>?_⟩
  simp only[zJL,a1,zf,zGu b1 hx,zN,k2',a3,s1,zq,zH3,zJ,↓reduceIte,Nat.reduceEqDiff]
  exact zQJ c N (zCZ x 5 x 5) (zHA _ _ _ _) p 8 H2.size H4 s2 q Z 16 _ N (by omega) (by omega) (by rfl) (by rfl) (by rfl) (by rfl)
 | true =>
  have eb:zM6 x p true=cmpP (zCZ (zCZ x 5 x 5) 10 x 5) p 12 16:=by unfold zM6;exact if_pos rfl
  rw[eb]
  obtain⟨H5,g5,k5⟩:=h37 (zCZ x 5 x 5) x 10 5 (zHA _ _ _ _) hx (by omega) (by omega) H4 g4.wf Z
  have s5:=s2.gr g5 (by omega)
  obtain⟨H6,t1,t2,t3⟩:=Bx.words s5 g5.wf (zCZ (zCZ x 5 x 5) 10 x 5) (n:=16) (zHA _ _ _ _) (zHA _ _ _ _) (by omega) Z
  have k5':∀ q,c zFs [.agg (ws .u64 (zCZ x 5 x 5)),.int .i64 (.ofNat 10),.agg (ws .u64 x),.int .i64 (.ofNat 5)] H4 Z q=q (.agg (ws .u64 (zCZ (zCZ x 5 x 5) 10 x 5))) H5 Z:=k5
  refine⟨H6,(g4.trans g5 g4.size).trans (t3.gr (B:=H.size) (by omega)) nl,fun q=>?_⟩
  simp only[zJL,a1,zf,zGu b1 hx,zN,k2',a3,s1,zn,zGu s2 (zHA _ _ _ _),zGu b4 hx,k5',t1,zH3,zJ,↓reduceIte,Nat.reduceEqDiff]
  exact zQJ c N (zCZ (zCZ x 5 x 5) 10 x 5) (zHA _ _ _ _) p 12 H2.size H6 t2 q Z 16 _ N (by omega) (by omega) (by rfl) (by rfl) (by rfl) (by rfl)
abbrev Below30 (c:zD):Prop:=∀ (x:List Nat) (p:Nat) (cube:Bool),x.length=16->∀ (H:Heap),WF H->∀ Z,∃ H',Gr H.size H H'/\∀ q,c zLK [.agg (ws .u64 x),.int .u64 (p:Int),.bool cube] H Z q=q (.bool (zM6 x p cube)) H' Z
def bitP (lo:List Nat)(k:Nat):List Nat:=lo.set (k / 16) (lorT .u64 (lo.getD (k / 16) 0) ((1*2 ^ min (k % 16) IntKind.u64.bits) % pow2 .u64))
def zMv (p:Nat)(cube:Bool):Nat->List Nat->List Nat
 | 0,lo=>lo
 | k+1,lo=>zMv p cube k (if zM6 (bitP lo k) p cube then bitP lo k else lo)
def joinP4 (L:List Nat):Nat:=lorT .u64 (lorT .u64 (lorT .u64 (L.getD 0 0) ((L.getD 1 0*2 ^ min 16 IntKind.u64.bits) % pow2 .u64)) ((L.getD 2 0*2 ^ min 32 IntKind.u64.bits) % pow2 .u64)) ((L.getD 3 0*2 ^ min 48 IntKind.u64.bits) % pow2 .u64)
def zNB (p:Nat)(cube:Bool):Nat:=joinP4 (zMv p cube 72 (List.replicate 16 0))
theorem bitP_len (lo:List Nat)(k:Nat):(bitP lo k).length=lo.length:=by simp[bitP]
theorem rootLP_len (p:Nat)(cube:Bool):∀ k lo,(zMv p cube k lo).length=lo.length:=by
 intro k;induction k with
 | zero=>intro lo;rfl
 | succ k ih=>intro lo;rw[zMv,ih];split <;> simp[bitP_len]
theorem l_ref8_root (c:zD)(N:Nat)(h30:Below30 c)(p:Nat)(cube:Bool)(r:Nat) :
  ∀ (n:Nat) (lo:List Nat) (H:Heap) (fr:T V) (Z:Tape) (m:Nat),n<=72->n<m->lo.length=16->WF H->Bx H r (ws .u64 lo) ->
  fr.get 0=some (.int .u64 (p:Int))->fr.get 1=some (.bool cube)->fr.get 5=some (.ptr r 0)->fr.get 6=some (.int .i64 ((n:Int)-1)) ->
  ∃ H',Bx H' r (ws .u64 (zMv p cube n lo))/\Chg (fun i=>i=r) H H'/\∀ k,zW (zGT c N) m ⟨fr,H⟩ Z k=k (.exit 0) ⟨(T.s .leaf 5 (.ptr r 0)),H'⟩ Z:=by
 intro n
 induction n with
 | zero =>
  intro lo H fr Z m hn hm hlo hw hr f0 f1 f5 f6
  obtain⟨m,rfl⟩:∃ j,m=j+1:=⟨m-1,by omega⟩
  refine⟨H,hr,Chg.refl hw,fun k=>?_⟩
  have e1:decide (Int.ofNat 0<=(((0:Nat):Int)-1))=false:=by decide
  rw[zC]
  simp only[zGT,zA f0,zA f1,zA f5,zA f6,zt,e1,zq]
  rfl
 | succ n ih =>
  intro lo H fr Z m hn hm hlo hw hr f0 f1 f5 f6
  obtain⟨m,rfl⟩:∃ j,m=j+1:=⟨m-1,by omega⟩
  have en:(((n+1:Nat):Int)-1)=(n:Int):=by omega
  rw[en]at f6
  have e1:decide (Int.ofNat 0<=(n:Int))=true:=decide_eq_true (by simp)
  have hrl:=hr.lt hw
  have a1:zBK (repl 16 [(.int .u64 (.ofNat 0))]) [] H Z=some (.ptr H.size 0,H.new (ws .u64 (List.replicate 16 0)) 16 true,Z):=rfl
  have g1:=Gr.new hw (ws .u64 (List.replicate 16 0)) 16 true
  have x1:=Bx.new H (ws .u64 (List.replicate 16 0)) 16 true nl
  have z1:(H.new (ws .u64 (List.replicate 16 0)) 16 true).size=H.size+1:=rfl
  generalize H.new (ws .u64 (List.replicate 16 0)) 16 true=H1 at a1 g1 x1 z1
  obtain⟨H2,s1,s2,s3⟩:=Bx.words x1 g1.wf lo (n:=16) (by simp) hlo (by omega) Z
  have z2:=s3.size
  obtain⟨H3,t1,t2,t3⟩:=s2.word s3.wf (i:=n / 16) (by omega) (lorT .u64 (lo.getD (n / 16) 0) ((1*2 ^ min (n % 16) IntKind.u64.bits) % pow2 .u64)) Z
  have z3:=t3.size
  have t2':Bx H3 H.size (ws .u64 (bitP lo n)):=t2
  have hbl:(bitP lo n).length=16:=by rw[bitP_len,hlo]
  obtain⟨H4,g4,k4⟩:=h30 (bitP lo n) p cube hbl H3 t3.wf Z
  have z4:=g4.size
  have x4:=t2'.gr g4 (by omega)
  have r4:Bx H4 r (ws .u64 lo):=(((hr.gr g1 hrl).only s3 (by omega)).only t3 (by omega)).gr g4 (by omega)
  have gA:Gr H.size H H4:=((g1.trans (s3.gr (B:=H.size) (by omega)) nl).trans (t3.gr (B:=H.size) (by omega)) nl).trans g4 (by omega)
  have e16:wr .i64 ((n:Int).tdiv (Int.ofNat 16))=((n / 16:Nat):Int):=by
   rw[show Int.ofNat 16=((16:Nat):Int)from rfl,<- Int.ofNat_tdiv,zAZ (by omega) (by omega)]
  have e17:(n:Int).tmod (Int.ofNat 16)=((n % 16:Nat):Int):=by rw[show Int.ofNat 16=((16:Nat):Int)from rfl,<- Int.ofNat_tmod]
  have e18:wr .u64 ((n % 16:Nat):Int)=((n % 16:Nat):Int):=by
   rw[uk64];congr 1;apply Nat.mod_eq_of_lt
   have:pow2 .u64=18446744073709551616:=by decide
   omega
  have e19:∀ (q:V->Ans),binK .shl (.int .u64 (.ofNat 1)) (.int .u64 ((n % 16:Nat):Int)) q=q (.int .u64 (((1*2 ^ min (n % 16) IntKind.u64.bits) % pow2 .u64:Nat):Int)):=fun q=>u_shl uk64 1 (n % 16) q
  have e7:wr .i64 ((n:Int)-Int.ofNat 1)=(n:Int)-1:=by rw[zAZ (by simp;omega) (by simp;omega)];rfl
  have lorE:∀ (q:V->Ans) (x y:Nat),binK .or (.int .u64 (x:Int)) (.int .u64 (y:Int)) q=q (.int .u64 ((lorT .u64 x y:Nat):Int)):=fun q x y=>u_or uk64 x y q
  cases hbel:zM6 (bitP lo n) p cube with
  | true =>
   obtain⟨H5,u1,u2,u3⟩:=Bx.words r4 g4.wf (bitP lo n) (n:=16) hlo hbl (by omega) Z
   have g5:Chg (fun i=>i=r) H H5:=(gA.chg (P:=fun i=>i=r)).trans (u3.chg (P:=fun i=>i=r) rfl) fun _ _ q=>q
   obtain⟨H',r1,r2,r3⟩:=ih (bitP lo n) H5 (T.s (T.s (T.s (T.s (T.s (T.s (T.s .leaf 0 (.int .u64 (p:Int))) 1 (.bool cube)) 5 (.ptr r 0)) 6 (.int .i64 (n:Int))) 10 (.int .i64 (n:Int))) 11 (.int .i64 ((n:Int)-1))) 6 (.int .i64 ((n:Int)-1)))
    Z m (by omega) (by omega) hbl u3.wf u2 (by rfl) (by rfl) (by rfl) (by rfl)
   refine⟨H',by rw[zMv,hbel];exact r1,g5.trans r2 fun _ _ q=>q,fun k=>?_⟩
   rw[zC]
   simp only[zGT,zA f0,zA f1,zA f5,zA f6,zt,e1,zn,zGu hr hlo,zN,a1,zf,s1,zI5 _ _ (Int.ofNat 16) (by decide),e16,ai16 _ (show n / 16<16 by omega),zAN s2 (show n / 16<lo.length by omega),zFh _ _ (Int.ofNat 16) (by decide),e17,zB7,e18,e19,lorE,t1,zGu t2' hbl,k4,hbel,zGu x4 hbl,u1,zJA,zJ,↓reduceIte,Nat.reduceEqDiff,zAC,e7]
   exact r3 k
  | false =>
   have g5:Chg (fun i=>i=r) H H4:=gA.chg
   obtain⟨H',r1,r2,r3⟩:=ih lo H4 (T.s (T.s (T.s (T.s (T.s (T.s (T.s .leaf 0 (.int .u64 (p:Int))) 1 (.bool cube)) 5 (.ptr r 0)) 6 (.int .i64 (n:Int))) 10 (.int .i64 (n:Int))) 11 (.int .i64 ((n:Int)-1))) 6 (.int .i64 ((n:Int)-1)))
    Z m (by omega) (by omega) hlo g4.wf r4 (by rfl) (by rfl) (by rfl) (by rfl)
   refine⟨H',by rw[zMv,hbel];exact r1,g5.trans r2 fun _ _ q=>q,fun k=>?_⟩
   rw[zC]
   simp only[zGT,zA f0,zA f1,zA f5,zA f6,zt,e1,zn,zGu hr hlo,zN,a1,zf,s1,zI5 _ _ (Int.ofNat 16) (by decide),e16,ai16 _ (show n / 16<16 by omega),zAN s2 (show n / 16<lo.length by omega),zFh _ _ (Int.ofNat 16) (by decide),e17,zB7,e18,e19,lorE,t1,zGu t2' hbl,k4,hbel,zq,zJA,zJ,↓reduceIte,Nat.reduceEqDiff,zAC,e7]
   exact r3 k
theorem j23 (c:zD)(N:Nat)(L:List Nat)(hlen:L.length=16)(r:Nat)(H:Heap)(r1:Bx H r (ws .u64 L))(Z:Tape)(q:KV):zLP c N q ⟨(T.s .leaf 5 (.ptr r 0)),H⟩ Z=q (.int .u64 (joinP4 L:Nat)) H Z:=by
 have a0:zG 16 1 [.ptr r 0,.int .i64 (.ofNat 0)]=some (.ptr r 0):=ai16 _ (show 0<16 by omega)
 have a2:zG 16 1 [.ptr r 0,.int .i64 (.ofNat 1)]=some (.ptr r 1):=ai16 _ (show 1<16 by omega)
 have a3:zG 16 1 [.ptr r 0,.int .i64 (.ofNat 2)]=some (.ptr r 2):=ai16 _ (show 2<16 by omega)
 have a4:zG 16 1 [.ptr r 0,.int .i64 (.ofNat 3)]=some (.ptr r 3):=ai16 _ (show 3<16 by omega)
 have sh:∀ (q:V->Ans) (x j:Nat),binK .shl (.int .u64 (x:Int)) (.int .u64 (.ofNat j)) q=q (.int .u64 (((x*2 ^ min j IntKind.u64.bits) % pow2 .u64:Nat):Int)):=fun q x j=>u_shl uk64 x j q
 have lorE:∀ (q:V->Ans) (x y:Nat),binK .or (.int .u64 (x:Int)) (.int .u64 (y:Int)) q=q (.int .u64 ((lorT .u64 x y:Nat):Int)):=fun q x y=>u_or uk64 x y q
 unfold joinP4
 simp only[zLP,zJ,↓reduceIte]
 rw[a0,zN,zAN r1 (show 0<L.length by omega),zN,a2,zN,zAN r1 (show 1<L.length by omega),zN,sh,lorE,a3,zN,zAN r1 (show 2<L.length by omega),zN,sh,lorE,a4,zN,zAN r1 (show 3<L.length by omega),zN,sh,lorE]
theorem zRE (c:zD)(N:Nat)(hN:1000<=N)(h30:Below30 c)(p:Nat)(cube:Bool)(H:Heap)(hw:WF H)(Z:Tape) :
  ∃ H',Gr H.size H H'/\∀ q,zL1 c N (.int .u64 (p:Int)) (.bool cube) H Z q=q (.int .u64 (zNB p cube:Nat)) H' Z:=by
 have a1:zBK (repl 16 [(.int .u64 (.ofNat 0))]) [] H Z=some (.ptr H.size 0,H.new (ws .u64 (List.replicate 16 0)) 16 true,Z):=rfl
 have g1:=Gr.new hw (ws .u64 (List.replicate 16 0)) 16 true
 have x1:=Bx.new H (ws .u64 (List.replicate 16 0)) 16 true nl
 have z1:(H.new (ws .u64 (List.replicate 16 0)) 16 true).size=H.size+1:=rfl
 generalize H.new (ws .u64 (List.replicate 16 0)) 16 true=H1 at a1 g1 x1 z1
 obtain⟨H2,r1,r2,r3⟩:=l_ref8_root c N h30 p cube H.size 72 (List.replicate 16 0) H1 (T.s (T.s (T.s (T.s .leaf 0 (.int .u64 (p:Int))) 1 (.bool cube)) 5 (.ptr H.size 0)) 6 (.int .i64 (.ofNat 71))) Z N (by omega) (by omega) (by simp) g1.wf x1
  (by rfl) (by rfl) (by rfl) (by rfl)
 have hlen:(zMv p cube 72 (List.replicate 16 0)).length=16:=by rw[rootLP_len];simp
 refine⟨H2,g1.trans (r2.gr (B:=H.size) (by omega) fun i hi e=>by omega) nl,fun q=>?_⟩
 unfold zNB
 generalize zMv p cube 72 (List.replicate 16 0)=L at r1 r3 hlen ⊢
 simp only[zL1,a1,zf]
 rw[r3]
 simp only[zP,Nat.beq_refl,cond_true,seqK]
 exact j23 c N L hlen H.size H2 r1 Z q
end Go.Am.X

