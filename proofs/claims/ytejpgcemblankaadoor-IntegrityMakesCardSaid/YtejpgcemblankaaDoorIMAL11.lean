/- The abstract machine, printed functions of the program, and what they are shown to be. -/
import Derived.Test.YtejpgcemblankaaDoorIMAL10
set_option linter.unusedSimpArgs false
set_option linter.unusedVariables false
set_option linter.unusedSectionVars false
set_option maxRecDepth 100000
namespace Go.Am.X
theorem Rd.srcTake {H:Heap}{v:V}{n:Nat}{cs:List V}(h:Rd H 1 v n cs)(hs:Src H v){k:Nat}(hk:k<=n):zIY v=some n/\Am.srcCells H 1 k v=some (cs.take k):=by
 rcases h with⟨rfl | ⟨id,off,lo,ex,rfl⟩,rfl,rfl⟩ | ⟨id,off,lo,ex,all,rfl,h1,h2,h3⟩
 ·obtain rfl:k=0:=by omega
  exact⟨rfl,rfl⟩
 ·obtain⟨all,ha⟩:=hs
  obtain rfl:k=0:=by omega
  refine⟨rfl,?_⟩
  simp only[Am.srcCells,Nat.beq_refl,cond_true,Heap.loads,ha,Nat.zero_mul]
  cases all.drop off <;> rfl
 ·refine⟨rfl,?_⟩
  simp only[Am.srcCells,Nat.beq_refl,cond_true,Heap.loads,h1]
  have hle:k*1<=(all.drop off).length:=by
   have:=congrArg List.length h2
   rw[h3,List.length_take]at this
   omega
  rw[zIM _ _ hle,h2,List.take_take]
  congr 2;omega
def pad3 (l:List Nat):List Nat:=l.take 3++List.replicate (3-l.length) 0
theorem copy3 {H:Heap}(hw:WF H){id:Nat}(hb:Bx H id (ws .u8 [0,0,0])){v:V}{l:List Nat}(hr:Rd H 1 v l.length (ws .u8 l))(hs:Src H v)(h0:0<l.length)(Z:Tape) :
  ∃ H',eCopy 1 [.sl id 0 3 3 none 1,v] H Z=some (.int .i64 (.ofNat (min l.length 3)),H',Z)/\Bx H' id (ws .u8 (pad3 l))/\Only id H H':=by
 obtain⟨s1,s2⟩:=Rd.srcTake hr hs (k:=min l.length 3) (by omega)
 have e3:(ws .u8 l).take (min l.length 3)=ws .u8 (l.take 3):=by
  rw[show(ws .u8 l).take (min l.length 3)=ws .u8 (l.take (min l.length 3))by simp[ws,List.map_take]]
  congr 1
  by_cases h:l.length<=3
  ·rw[Nat.min_eq_left h,List.take_length,List.take_of_length_le h]
  ·rw[Nat.min_eq_right (by omega)]
 rw[e3]at s2
 have hl3:(ws .u8 (l.take 3)).length=min l.length 3:=by rw[zAv,List.length_take];omega
 obtain⟨H',r1,r2,r3⟩:=hb.storesL hw 0 (ws .u8 (l.take 3)) (by rw[hl3,zAv];simp;omega) (by rw[hl3];omega) (ws_scal _ _)
 refine⟨H',?_,?_,r3⟩
 ·have eb:(bif Nat.ble l.length 3 then l.length else 3)=min l.length 3:=by
   by_cases h:l.length<=3
   ·rw[Nat.ble_eq_true_of_le h,cond_true,Nat.min_eq_left h]
   ·rw[show Nat.ble l.length 3=false from by
     cases hb:Nat.ble l.length 3 with
     | false=>rfl
     | true=>exact absurd (Nat.le_of_ble_eq_true hb) h,cond_false,Nat.min_eq_right (by omega)]
  simp only[eCopy,s1,eb,Nat.beq_refl,cond_true,s2,r1]
 ·have:(ws .u8 [0,0,0]).take 0++ws .u8 (l.take 3)++(ws .u8 [0,0,0]).drop (0+(ws .u8 (l.take 3)).length)=ws .u8 (pad3 l):=by
   rw[List.take_zero,List.nil_append,hl3,Nat.zero_add]
   unfold pad3
   rw[zQy]
   congr 1
   match l,h0 with
   | [_],_=>rfl
   | [_,_],_=>rfl
   | _::_::_::r,_=>simp[ws]
  rw[this]at r2;exact r2
def d64 (i:Nat):UInt8:=sixty.getD i 0
def dg64 (n w k:Nat):UInt8:=if n<k then 61 else d64 (w / 2 ^ (18-6*k) % 64)
theorem l_enc3 (c:zD)(N:Nat)(B n w:Nat)(hw3:w<16777216)(v0:V):∀ (j k:Nat) (acc:Bs) (v3:V) (M:Nat) (H:Heap) (Z:Tape),k+j=4->j<M->WF H->B<=H.size->Own H B 1 v3 acc.length (bv acc)->acc.length+j<=1000000 ->
  ∃ v3' H' Z',Own H' B 1 v3' (acc++(List.range' k j).map (dg64 n w)).length (bv (acc++(List.range' k j).map (dg64 n w)))/\Gr B H H' /\
   ∀ (fr:T V) kk,fr.get 0=some v0->fr.get 3=some v3->fr.get 5=some (.int .i64 (n:Int))->fr.get 6=some (.int .i64 (w:Int))->fr.get 32=some (.int .i64 (k:Int)) ->
    zW (zC9 c N) M ⟨fr,H⟩ Z kk=kk (.exit 2) ⟨(T.s (T.s .leaf 0 v0) 3 v3'),H'⟩ Z':=by
 intro j
 induction j with
 | zero =>
  intro k acc v3 M H Z hk hM hw hB ho hal
  obtain⟨M,rfl⟩:∃ j,M=j+1:=⟨M-1,by omega⟩
  have e1:decide ((k:Int)<Int.ofNat 4)=false:=decide_eq_false (by have:Int.ofNat 4=4:=rfl;omega)
  refine⟨v3,H,Z,by simpa using ho,Gr.refl hw,fun fr kk f0 f3 f5 f6 f32=>?_⟩
  rw[zC]
  simp only[zC9,zA f0,zA f3,zA f5,zA f6,zA f32,zI,e1,zM]
  rfl
 | succ j ih =>
  intro k acc v3 M H Z hk hM hw hB ho hal
  obtain⟨M,rfl⟩:∃ j,M=j+1:=⟨M-1,by omega⟩
  have e1:decide ((k:Int)<Int.ofNat 4)=true:=decide_eq_true (by have:Int.ofNat 4=4:=rfl;omega)
  have e9:wr .i64 ((k:Int)+Int.ofNat 1)=((k+1:Nat):Int):=adI (by omega)
  obtain⟨wv,H1,v',H2,r1,r2,r3,r4,_⟩:=ho.push (bytes:=1) hw hB (.int .u8 ((dg64 n w k).toNat:Int)) (.int .u8 (.ofNat 0)) rfl rfl (by omega) (by omega) Z
  have hcs:bv acc++[V.int .u8 ((dg64 n w k).toNat:Int)]=bv (acc++[dg64 n w k]):=by rw[zQ1];rfl
  rw[hcs]at r3
  obtain⟨v3',H',Z',s1,s2,s3⟩:=ih (k+1) (acc++[dg64 n w k]) v' M H2 Z.tail (by omega) (by omega) r4.wf (Nat.le_trans hB r4.size) (by simpa using r3) (by simp;omega)
  have hlist:acc++(List.range' k (j+1)).map (dg64 n w)=(acc++[dg64 n w k])++(List.range' (k+1) j).map (dg64 n w):=by rw[List.range'_succ];simp
  refine⟨v3',H',Z',by rw[hlist];exact s1,r4.trans s2 nl,fun fr kk f0 f3 f5 f6 f32=>?_⟩
  rw[zC]
  by_cases hnk:n<k
  ·have e2:decide ((n:Int)<(k:Int))=true:=decide_eq_true (by omega)
   have hd:dg64 n w k=61:=if_pos hnk
   rw[hd]at r1
   have r1':zL 1 1 [(.int .u8 (.ofNat 0))] [(0,1)] [(.int .u8 (.ofNat 61))] H Z=some (wv,H1,Z):=r1
   simp only[zC9,zA f0,zA f3,zA f5,zA f6,zA f32,zI,e1,zO,zAs,e2,r1',r2,za,zFF,zJ,↓reduceIte,Nat.reduceEqDiff,zQ,e9]
   exact s3 _ _ (by rfl) (by rfl) (by rfl) (by rfl) (by rfl)
  ·have e2:decide ((n:Int)<(k:Int))=false:=decide_eq_false (by omega)
   have hd:dg64 n w k=d64 (w / 2 ^ (18-6*k) % 64):=if_neg hnk
   have hk3:k<=3:=by omega
   have a1:wr .i64 (Int.ofNat 6*(k:Int))=((6*k:Nat):Int):=by
    have e:Int.ofNat 6*(k:Int)=((6*k:Nat):Int):=by rw[Int.natCast_mul];rfl
    rw[e,zAZ (by omega) (by omega)]
   have a2:wr .i64 (Int.ofNat 18-((6*k:Nat):Int))=((18-6*k:Nat):Int):=sbN (i:=18) (by omega) (by omega)
   have a3:∀ q,binK .shr (.int .i64 (w:Int)) (.int .i64 ((18-6*k:Nat):Int)) q=q (.int .i64 ((w / 2 ^ (18-6*k):Nat):Int)):=fun q=>by
    rw[zLr,Nat.min_eq_left (show 18-6*k<=IntKind.i64.bits from Nat.le_trans (by omega:18-6*k<=18) (by decide))]
   have hq:w / 2 ^ (18-6*k)<=w:=Nat.div_le_self _ _
   have a4:∀ q,binK .and (.int .i64 ((w / 2 ^ (18-6*k):Nat):Int)) (.int .i64 (.ofNat 63)) q=q (.int .i64 ((w / 2 ^ (18-6*k) % 64:Nat):Int)):=fun q=>by
    have:=i_and (x:=w / 2 ^ (18-6*k)) (y:=63) (by omega) (by omega) q
    rw[show w / 2 ^ (18-6*k) &&& 63=w / 2 ^ (18-6*k) % 64 from Nat.and_two_pow_sub_one_eq_mod _ 6]at this
    exact this
   have hlt:w / 2 ^ (18-6*k) % 64<sixty.length:=Nat.mod_lt _ (by decide)
   have b0:bs [65,66,67,68,69,70,71,72,73,74,75,76,77,78,79,80,81,82,83,84,85,86,87,88,89,90,97,98,99,100,101,102,103,104,105,106,107,108,109,110,111,112,113,114,115,116,117,118,119,120,121,122,48,49,50,51,52,53,54,55,56,57,43,47]=sixty:=rfl
   have a5:zAE [.str sixty,.int .i64 ((w / 2 ^ (18-6*k) % 64:Nat):Int)]=some (.int .u8 ((dg64 n w k).toNat:Int)):=by
    rw[hd]
    exact zFg (by unfold d64;rw[List.getElem?_eq_getElem hlt,List.getD_eq_getElem?_getD,List.getElem?_eq_getElem hlt];rfl)
   simp only[zC9,zA f0,zA f3,zA f5,zA f6,zA f32,zI,e1,zO,zAs,e2,zM,zIB,a1,zAC,a2,a3,a4,b0,a5,zK,r1,r2,za,zFF,zJ,↓reduceIte,Nat.reduceEqDiff,zQ,e9]
   exact s3 _ _ (by rfl) (by rfl) (by rfl) (by rfl) (by rfl)
def wd64 (l:List Nat):Nat:=(pad3 l).getD 0 0*65536+(pad3 l).getD 1 0*256+(pad3 l).getD 2 0
def ch64 (l:List Nat):Bs:=(List.range' 0 4).map (dg64 (min l.length 3) (wd64 l))
def zFX:Nat->List Nat->Bs
 | 0,_=>[]
 | m+1,l=>if l=[]then []else ch64 l++zFX m (l.drop 3)
theorem pad3_len (l:List Nat):(pad3 l).length=3:=by unfold pad3;simp;omega
theorem pad3_lt {l:List Nat}(h:∀ x ∈ l,x<256)(i:Nat):(pad3 l).getD i 0<256:=by
 rw[List.getD_eq_getElem?_getD]
 cases hg:(pad3 l)[i]? with
 | none=>simp
 | some x =>
  have hx:=List.mem_of_getElem? hg
  unfold pad3 at hx
  rcases List.mem_append.1 hx with h1 | h1
  ·exact h x (List.mem_of_mem_take h1)
  ·rw[List.eq_of_mem_replicate h1];simp
theorem ch64_len (l:List Nat):(ch64 l).length=4:=by unfold ch64;simp
theorem enc64_len:∀ (m:Nat) (l:List Nat),(zFX m l).length<=4*m:=by
 intro m
 induction m with
 | zero=>intro l;simp[zFX]
 | succ m ih =>
  intro l
  rw[zFX]
  split
  ·simp
  ·have:=ih (l.drop 3);rw[List.length_append,ch64_len];omega
theorem l_enc (c:zD){N:Nat}(hN:9223372036854775807<=N)(B:Nat):∀ (m:Nat) (l:List Nat) (acc:Bs) (v0 v3:V) (M:Nat) (H:Heap) (Z:Tape),l.length<=3*m->m<M->(∀ x ∈ l,x<256)->WF H->B<=H.size->Own H B 1 v3 acc.length (bv acc)->acc.length+4*m<=900000 ->
  (∀ H',Gr B H H'->Rd H' 1 v0 l.length (ws .u8 l)/\Src H' v0)->Roomy v0 ->
  ∃ v3' H' Z',Own H' B 1 v3' (acc++zFX m l).length (bv (acc++zFX m l))/\Gr B H H' /\
   ∀ (fr:T V) kk,fr.get 0=some v0->fr.get 3=some v3->zW (zDM c N) M ⟨fr,H⟩ Z kk=kk (.exit 0) ⟨(T.s .leaf 3 v3'),H'⟩ Z':=by
 intro m
 have fin:∀ (l:List Nat) (v0 v3:V) (M:Nat) (H:Heap) (Z:Tape),0<M->l=[]->Rd H 1 v0 l.length (ws .u8 l)->∀ (fr:T V) kk,fr.get 0=some v0->fr.get 3=some v3->zW (zDM c N) M ⟨fr,H⟩ Z kk=kk (.exit 0) ⟨(T.s .leaf 3 v3),H⟩ Z:=by
  intro l v0 v3 M H Z hM hl hr fr kk f0 f3
  obtain⟨M,rfl⟩:∃ j,M=j+1:=⟨M-1,by omega⟩
  subst hl
  have e1:decide (Int.ofNat 0<((([]:List Nat).length:Nat):Int))=false:=rfl
  rw[zC]
  simp only[zDM,zA f0,zA f3,hr.pLen,zK,zAs,e1,zM]
  rfl
 induction m with
 | zero =>
  intro l acc v0 v3 M H Z hl hM hlt hw hB ho hal hr hro
  have h0:l=[]:=List.length_eq_zero_iff.1 (by omega)
  exact⟨v3,H,Z,by simpa [zFX] using ho,Gr.refl hw,fun fr kk f0 f3=>fin l v0 v3 M H Z (by omega) h0 (hr H (Gr.refl hw)).1 fr kk f0 f3⟩
 | succ m ih =>
  intro l acc v0 v3 M H Z hl hM hlt hw hB ho hal hr hro
  by_cases h0:l=[]
  ·exact⟨v3,H,Z,by rw[zFX,if_pos h0];simpa using ho,Gr.refl hw,fun fr kk f0 f3=>fin l v0 v3 M H Z (by omega) h0 (hr H (Gr.refl hw)).1 fr kk f0 f3⟩
  obtain⟨M,rfl⟩:∃ j,M=j+1:=⟨M-1,by omega⟩
  have hpos:0<l.length:=List.length_pos_iff.2 h0
  have a1:zBK [(.int .u8 (.ofNat 0)),(.int .u8 (.ofNat 0)),(.int .u8 (.ofNat 0))] [] H Z=some (.ptr H.size 0,H.new (ws .u8 [0,0,0]) 3 true,Z):=rfl
  have g1:=Gr.new hw (ws .u8 [0,0,0]) 3 true
  have b1:=Bx.new H (ws .u8 [0,0,0]) 3 true nl
  generalize H.new (ws .u8 [0,0,0]) 3 true=H1 at a1 g1 b1
  have hr1:=hr H1 (g1.weaken hB)
  have a2:zNO 3 1 false false false [.ptr H.size 0]=some (.sl H.size 0 3 3 none 1):=rfl
  obtain⟨H2,c1,c2,c3⟩:=copy3 g1.wf b1 hr1.1 hr1.2 hpos Z
  have g12:Gr B H H2:=(g1.weaken hB).trans (c3.gr (B:=B) hB) nl
  have hrl:=(hr H2 g12)
  have ho2:Own H2 B 1 v3 acc.length (bv acc):=by
   have:=ho.ownP hw
   have h1:=(this.chg hw (g1.chg (P:=fun _=>False)) fun _ _ _=>not_false)
   have h2:=h1.chg g1.wf (c3.chg (P:=fun i=>i=H.size) rfl) fun i _ h=>by have:=h.2;omega
   rcases h2 with h | ⟨id,e,room,fam,ver,pl,st,fr,q1,q2,q3,q4,q5,q6,q7⟩
   ·exact .inl h
   ·exact .inr ⟨id,e,room,fam,ver,pl,st,fr,q1,q2,q3,q4,q5.1,q6.1,q7⟩
  have p0:=pad3_lt hlt 0
  have p1:=pad3_lt hlt 1
  have p2:=pad3_lt hlt 2
  have hpl:=pad3_len l
  have hlen3:(ws .u8 (pad3 l)).length=3:=by rw[zAv,hpl]
  have ld:∀ i,i<3->zF [.ptr H.size i] H2=some (.int .u8 (((pad3 l).getD i 0:Nat):Int)):=fun i hi=>zg c2.cells (zQG (by rw[hpl];exact hi))
  have ix:∀ i,i<3->zG 3 1 [.ptr H.size 0,.int .i64 (.ofNat i)]=some (.ptr H.size i):=fun i hi=>by
   have:=z8 (n:=3) (z:=1) (id:=H.size) (off:=0) hi
   simpa using this
  have w0:∀ i:Nat,(pad3 l).getD i 0<256->wr .i64 (((pad3 l).getD i 0:Nat):Int)=(((pad3 l).getD i 0:Nat):Int):=fun i h=>zAZ (by omega) (by omega)
  have s16:∀ q,binK .shl (.int .i64 (((pad3 l).getD 0 0:Nat):Int)) (.int .u64 (.ofNat 16)) q=q (.int .i64 (((pad3 l).getD 0 0*65536:Nat):Int)):=fun q=>i_shl (n:=16) (show(pad3 l).getD 0 0*65536<=9223372036854775807 by omega) q
  have s8:∀ q,binK .shl (.int .i64 (((pad3 l).getD 1 0:Nat):Int)) (.int .u64 (.ofNat 8)) q=q (.int .i64 (((pad3 l).getD 1 0*256:Nat):Int)):=fun q=>i_shl (n:=8) (show(pad3 l).getD 1 0*256<=9223372036854775807 by omega) q
  have or1:∀ q,binK .or (.int .i64 (((pad3 l).getD 0 0*65536:Nat):Int)) (.int .i64 (((pad3 l).getD 1 0*256:Nat):Int)) q=q (.int .i64 (((pad3 l).getD 0 0*65536+(pad3 l).getD 1 0*256:Nat):Int)):=fun q=>by
   rw[i_or (by omega) (by omega)]
   have:=Nat.two_pow_add_eq_or_of_lt (b:=(pad3 l).getD 1 0*256) (i:=16) (by omega) ((pad3 l).getD 0 0)
   rw[show(2:Nat) ^ 16=65536 from rfl,Nat.mul_comm]at this
   rw[<- this]
  have or2:∀ q,binK .or (.int .i64 (((pad3 l).getD 0 0*65536+(pad3 l).getD 1 0*256:Nat):Int)) (.int .i64 (((pad3 l).getD 2 0:Nat):Int)) q=q (.int .i64 (wd64 l:Int)):=fun q=>by
   rw[i_or (by omega) (by omega)]
   have:=Nat.two_pow_add_eq_or_of_lt (b:=(pad3 l).getD 2 0) (i:=8) (by omega) ((pad3 l).getD 0 0*256+(pad3 l).getD 1 0)
   rw[show(2:Nat) ^ 8*((pad3 l).getD 0 0*256+(pad3 l).getD 1 0)=(pad3 l).getD 0 0*65536+(pad3 l).getD 1 0*256 by omega]at this
   rw[<- this];rfl
  have hwd:wd64 l<16777216:=by unfold wd64;omega
  obtain⟨v3a,H3,Z3,d1,d2,d3⟩:=l_enc3 c N B (min l.length 3) (wd64 l) hwd v0 4 0 acc v3 N H2 Z rfl (by omega) g12.wf (Nat.le_trans hB g12.size) ho2 (by omega)
  have g13:Gr B H H3:=g12.trans d2 nl
  have hmin:(Int.ofNat 3:Int)=3:=rfl
  have mn:pMin [.int .i64 (.ofNat 3),.int .i64 (l.length:Int)]=some (.int .i64 ((min l.length 3:Nat):Int)):=by
   show some (V.int .i64 (if(l.length:Int)<Int.ofNat 3 then(l.length:Int)else Int.ofNat 3))=_
   congr 2
   by_cases h:l.length<3
   ·rw[if_pos (by omega),Nat.min_eq_left (by omega)]
   ·rw[if_neg (by omega),Nat.min_eq_right (by omega)];rfl
  obtain⟨v0',x1,x2,x3,x4⟩:=(hr H (Gr.refl hw)).1.from hro (l:=min l.length 3) (by omega)
  have hdrop:(ws .u8 l).drop (min l.length 3)=ws .u8 (l.drop 3):=by
   rw[show(ws .u8 l).drop (min l.length 3)=ws .u8 (l.drop (min l.length 3))by simp[ws,List.map_drop]]
   congr 1
   by_cases h:l.length<=3
   ·rw[Nat.min_eq_left h,List.drop_length,List.drop_eq_nil_of_le h]
   ·rw[Nat.min_eq_right (by omega)]
  have hdl:l.length-min l.length 3=(l.drop 3).length:=by rw[List.length_drop];omega
  obtain⟨v3',H',Z',e1,e2,e3⟩:=ih (l.drop 3) (acc++ch64 l) v0' v3a M H3 Z3 (by rw[List.length_drop];omega) (by omega) (fun x hx=>hlt x (List.mem_of_mem_drop hx)) g13.wf (Nat.le_trans hB g13.size) d1 (by rw[List.length_append,ch64_len];omega) (fun H' hg=>by
   obtain⟨y1,y2⟩:=hr H' (g13.trans hg nl)
   have z:=x4 H' _ y1
   rw[Nat.mul_one,hdrop,hdl]at z
   exact⟨z,x3 H' y2⟩) x2
  refine⟨v3',H',Z',by rw[zFX,if_neg h0,<- List.append_assoc];exact e1,g13.trans e2 nl,fun fr kk f0 f3=>?_⟩
  have lg:decide (Int.ofNat 0<(l.length:Int))=true:=decide_eq_true (by have:Int.ofNat 0=0:=rfl;omega)
  have pl0:=(hr H (Gr.refl hw)).1.pLen
  rw[zC]
  simp only[zDM,zA f0,zA f3,pl0,zK,zAs,lg,zO,a1,za,a2,c1,ix 0 (by omega),ix 1 (by omega),ix 2 (by omega),ld 0 (by omega),ld 1 (by omega),ld 2 (by omega),zB7,w0 0 p0,w0 1 p1,w0 2 p2,s16,s8,or1,or2]
  rw[d3 _ _ (by rfl) (by rfl) (by rfl) (by rfl) (by rfl)]
  simp only[zP,Nat.beq_refl,cond_true,seqK,zKN,zJ,↓reduceIte,Nat.reduceEqDiff,(hr H3 g13).1.pLen,zK,mn,x1]
  exact e3 _ _ (by rfl) (by rfl)
theorem str_bv {H:Heap}{v:V}{n:Nat}{s:Bs}(h:Rd H 1 v n (bv s))(hs:Src H v):zDJ [v] H=some (.str s):=by
 have e:bv s=ws .u8 (s.map UInt8.toNat):=by unfold bv ws;rw[List.map_map];rfl
 rw[e]at h
 rw[str_rd h hs]
 congr 2
 unfold toB;rw[List.map_map]
 conv=>rhs;rw[<- List.map_id s]
 exact List.map_congr_left fun x _=>by simp
theorem zOA (c:zD){N:Nat}(hN:9223372036854775807<=N)(l:List Nat)(hl:l.length<=100000)(hlt:∀ x ∈ l,x<256)(v:V)(hro:Roomy v)(H:Heap)(hw:WF H)(hr:Rd H 1 v l.length (ws .u8 l))(hs:Src H v)(Z:Tape) :
  ∃ H' Z',Gr H.size H H'/\∀ q,zGo c N v H Z q=q (.str (zFX l.length l)) H' Z':=by
 obtain⟨v3,H',Z',a1,a2,a3⟩:=l_enc c hN H.size l.length l [] v .nils N H Z (by omega) (by omega) hlt hw nl (Own.nil _ _ _) (by simp;omega) (fun H' hg=>⟨hr.gr hg hw nl,hs.gr hg hw nl⟩) hro
 rw[List.nil_append]at a1
 have sb:=str_bv a1.rd (Own.rdsrc a1).2
 refine⟨H',Z',a2,fun q=>?_⟩
 simp only[zGo]
 rw[a3 _ _ (by rfl) (by rfl)]
 simp only[zP,Nat.beq_refl,cond_true,seqK,zKl,zJ,↓reduceIte,sb,zK]
end Go.Am.X

namespace Go.Am.X
theorem zMI {i:Nat}(h:i<64):v64 (d64 i)=some i:=(show ∀ i:Fin 64,v64 (d64 i.1)=some i.1 by decide) ⟨i,h⟩
def okC (x:UInt8):Bool:=!zBW.contains x && !decide (x=45) && !decide (x=63)
theorem zPW {i:Nat}(h:i<64):okC (d64 i)=true/\d64 i≠61:=(show ∀ i:Fin 64,okC (d64 i.1)=true/\d64 i.1≠61 by decide) ⟨i,h⟩
def encS:Nat->List Nat->Bs
 | m+1,a::b::c::r=>d64 (a / 4)::d64 (a % 4*16+b / 16)::d64 (b % 16*4+c / 64)::d64 (c % 64)::encS m r
 | _,[a,b]=>[d64 (a / 4),d64 (a % 4*16+b / 16),d64 (b % 16*4)]
 | _,[a]=>[d64 (a / 4),d64 (a % 4*16)]
 | _,_=>[]
theorem encS_spec:∀ (m:Nat) (l:List Nat),l.length<=3*m->(∀ x ∈ l,x<256)->(∃ k,k<=2/\zFX m l=encS m l++List.replicate k 61)/\(∀ w,decG w 0 (encS m l)=some l)/\(encS m l).length % 4≠1/\(zFX m l).length % 4=0/\(∀ x ∈ encS m l,okC x=true/\x≠61):=by
 intro m
 induction m with
 | zero=>intro l h _;obtain rfl:l=[]:=List.eq_nil_of_length_eq_zero (by omega);exact⟨⟨0,by decide,rfl⟩,fun w=>rfl,by decide,rfl,by simp[encS]⟩
 | succ m ih =>
  intro l h hb
  match l,h,hb with
  | [],_,_=>exact⟨⟨0,by decide,rfl⟩,fun w=>by simp[encS,decG],by simp[encS],by simp[zFX],by simp[encS]⟩
  | [a],_,hb =>
   have ha:=hb a (by simp)
   have e1:(a*65536+0*256+0) / 2 ^ 18 % 64=a / 4:=by omega
   have e2:(a*65536+0*256+0) / 2 ^ 12 % 64=a % 4*16:=by omega
   have ee:zFX (m+1) [a]=[d64 ((a*65536+0*256+0) / 2 ^ 18 % 64),d64 ((a*65536+0*256+0) / 2 ^ 12 % 64),61,61]:=by
    rw[zFX,if_neg (by simp)];cases m <;> rfl
   rw[e1,e2]at ee
   have es:encS (m+1) [a]=[d64 (a / 4),d64 (a % 4*16)]:=by simp[encS]
   have h1:a / 4<64:=by omega
   have h2:a % 4*16<64:=by omega
   refine⟨⟨2,by decide,by rw[ee,es];rfl⟩,fun w=>?_,by rw[es];simp,by rw[ee];simp,?_⟩
   ·rw[es]
    simp only[decG,zMI h1,zMI h2]
    simp only[Nat.reduceAdd,Nat.reduceLeDiff,↓reduceIte,Option.map_some,Nat.reduceSub]
    congr 2;omega
   ·rw[es];intro x hx;simp only[List.mem_cons,List.not_mem_nil,or_false]at hx
    rcases hx with rfl | rfl
    ·exact zPW h1
    ·exact zPW h2
  | [a,b],_,hb =>
   have ha:=hb a (by simp)
   have hb:=hb b (by simp)
   have e1:(a*65536+b*256+0) / 2 ^ 18 % 64=a / 4:=by omega
   have e2:(a*65536+b*256+0) / 2 ^ 12 % 64=a % 4*16+b / 16:=by omega
   have e3:(a*65536+b*256+0) / 2 ^ 6 % 64=b % 16*4:=by omega
   have ee:zFX (m+1) [a,b]=[d64 ((a*65536+b*256+0) / 2 ^ 18 % 64),d64 ((a*65536+b*256+0) / 2 ^ 12 % 64),d64 ((a*65536+b*256+0) / 2 ^ 6 % 64),61]:=by
    rw[zFX,if_neg (by simp)];cases m <;> rfl
   rw[e1,e2,e3]at ee
   have es:encS (m+1) [a,b]=[d64 (a / 4),d64 (a % 4*16+b / 16),d64 (b % 16*4)]:=by simp[encS]
   have h1:a / 4<64:=by omega
   have h2:a % 4*16+b / 16<64:=by omega
   have h3:b % 16*4<64:=by omega
   refine⟨⟨1,by decide,by rw[ee,es];rfl⟩,fun w=>?_,by rw[es];simp,by rw[ee];simp,?_⟩
   ·rw[es]
    simp only[decG,zMI h1,zMI h2,zMI h3]
    simp only[Nat.reduceAdd,Nat.reduceLeDiff,↓reduceIte,Option.map_some,Nat.reduceSub]
    congr 2
    ·omega
    ·congr 1;omega
   ·rw[es];intro x hx;simp only[List.mem_cons,List.not_mem_nil,or_false]at hx
    rcases hx with rfl | rfl | rfl
    ·exact zPW h1
    ·exact zPW h2
    ·exact zPW h3
  | a::b::c::r,hl,hb =>
   have ha:=hb a (by simp)
   have hbb:=hb b (by simp)
   have hc:=hb c (by simp)
   obtain⟨⟨k,hk,i1⟩,i2,i3,i4,i5⟩:=ih r (by simp at hl;omega) (fun x hx=>hb x (by simp[hx]))
   have e1:(a*65536+b*256+c) / 2 ^ 18 % 64=a / 4:=by omega
   have e2:(a*65536+b*256+c) / 2 ^ 12 % 64=a % 4*16+b / 16:=by omega
   have e3:(a*65536+b*256+c) / 2 ^ 6 % 64=b % 16*4+c / 64:=by omega
   have e4:(a*65536+b*256+c) / 2 ^ 0 % 64=c % 64:=by omega
   have hm3:min (a::b::c::r).length 3=3:=by simp
   have hc4:ch64 (a::b::c::r)=[d64 ((a*65536+b*256+c) / 2 ^ 18 % 64),d64 ((a*65536+b*256+c) / 2 ^ 12 % 64),d64 ((a*65536+b*256+c) / 2 ^ 6 % 64),d64 ((a*65536+b*256+c) / 2 ^ 0 % 64)]:=by
    unfold ch64;rw[hm3];rfl
   rw[e1,e2,e3,e4]at hc4
   have ee:zFX (m+1) (a::b::c::r)=ch64 (a::b::c::r)++zFX m r:=by rw[zFX,if_neg (by simp)];rfl
   rw[hc4]at ee
   have es:encS (m+1) (a::b::c::r)=d64 (a / 4)::d64 (a % 4*16+b / 16)::d64 (b % 16*4+c / 64)::d64 (c % 64)::encS m r:=by rw[encS]
   have h1:a / 4<64:=by omega
   have h2:a % 4*16+b / 16<64:=by omega
   have h3:b % 16*4+c / 64<64:=by omega
   have h4:c % 64<64:=by omega
   refine⟨⟨k,hk,by rw[ee,es,i1];rfl⟩,fun w=>?_,by rw[es];simp only[List.length_cons];omega,by rw[ee,List.length_append];simp only[List.length_cons,List.length_nil];omega,?_⟩
   ·rw[es]
    simp only[decG,zMI h1,zMI h2,zMI h3,zMI h4]
    simp only[Nat.reduceAdd,Nat.reduceLeDiff,↓reduceIte,Nat.reduceSub,i2,Option.map_some]
    congr 2
    ·omega
    ·congr 1
     ·omega
     ·congr 1;omega
   ·rw[es];intro x hx;simp only[List.mem_cons]at hx
    rcases hx with rfl | rfl | rfl | rfl | hx
    ·exact zPW h1
    ·exact zPW h2
    ·exact zPW h3
    ·exact zPW h4
    ·exact i5 x hx
theorem dropEq_no:∀ (j:Nat) (b:Bs),(∀ x ∈ b,x≠61)->zBY j b=b:=by
 intro j b h
 cases j with
 | zero=>rfl
 | succ j =>
  rw[zBY,if_neg]
  intro e
  exact h 61 (List.mem_of_getLast? e) rfl
theorem dropEq_rep:∀ (k j:Nat) (b:Bs),k<=j->(∀ x ∈ b,x≠61)->zBY j (b++List.replicate k 61)=b:=by
 intro k
 induction k with
 | zero=>intro j b _ h;rw[List.replicate_zero,List.append_nil];exact dropEq_no j b h
 | succ k ih =>
  intro j b hj h
  obtain⟨j,rfl⟩:∃ i,j=i+1:=⟨j-1,by omega⟩
  have e:b++List.replicate (k+1) 61=(b++List.replicate k 61)++[61]:=by rw[List.append_assoc,List.replicate_succ']
  rw[e,zBY,if_pos (by simp),List.dropLast_concat]
  exact ih j b (by omega) h
theorem zSI {l:List Nat}(h:∀ x ∈ l,x<256):zG6 (zFX l.length l)=some l/\∀ x ∈ zFX l.length l,okC x=true:=by
 obtain⟨⟨k,hk,i1⟩,i2,i3,i4,i5⟩:=encS_spec l.length l (by omega) h
 have hok:∀ x ∈ zFX l.length l,okC x=true:=by
  intro x hx
  rw[i1]at hx
  rcases List.mem_append.1 hx with hx | hx
  ·exact(i5 x hx).1
  ·rw[List.eq_of_mem_replicate hx];rfl
 refine⟨?_,hok⟩
 have hnb:nbB (zFX l.length l)=zFX l.length l:=by
  unfold nbB
  rw[List.filter_eq_self]
  intro x hx
  have:=hok x hx
  unfold okC at this
  rw[Bool.and_eq_true,Bool.and_eq_true]at this
  exact this.1.1
 unfold zG6
 rw[hnb,if_pos i4,i1,dropEq_rep k 2 _ hk (fun x hx=>(i5 x hx).2)]
 simp only
 rw[if_neg i3,i2]
theorem cutB_none {x:UInt8}:∀ {s:Bs},(∀ y ∈ s,y≠x)->cutB x s=none:=by
 intro s
 induction s with
 | nil=>intro _;rfl
 | cons y s ih=>intro h;rw[cutB,if_neg (h y (by simp)),ih (fun z hz=>h z (by simp[hz]))]
theorem cutB_at {x:UInt8}:∀ {a:Bs} {b:Bs},(∀ y ∈ a,y≠x)->cutB x (a++x::b)=some (a,b):=by
 intro a
 induction a with
 | nil=>intro b _;rw[List.nil_append,cutB,if_pos rfl]
 | cons y a ih=>intro b h;rw[List.cons_append,cutB,if_neg (h y (by simp)),ih (fun z hz=>h z (by simp[hz]))]
theorem zQ4 {x:UInt8}(h:okC x=true):zBW.contains x=false/\x≠45/\x≠63:=by
 unfold okC at h
 simp only[Bool.and_eq_true,Bool.not_eq_true',decide_eq_false_iff_not]at h
 exact⟨h.1.1,h.1.2,h.2⟩
def zSz (d e:Bs):Bs:=[115,104,97]++d++45::e
structure Sh3 (bits:Nat) (d:Bs):Prop where
 ok:∀ x ∈ d,okC x=true
 is:zKm ([115,104,97]++d)=bits
 pos:0<bits
theorem zPq {bits:Nat}{d:Bs}(h:Sh3 bits d):∀ x ∈ [115,104,97]++d,okC x=true:=by
 intro x hx
 rcases List.mem_append.1 hx with hx | hx
 ·exact(show ∀ x ∈ ([115,104,97]:Bs),okC x=true by decide) x hx
 ·exact h.ok x hx
theorem makeB_63 {bits:Nat}{d e:Bs}(h:Sh3 bits d)(he:∀ x ∈ e,okC x=true):∀ x ∈ zSz d e,x≠63:=by
 intro x hx
 rcases List.mem_append.1 hx with hx | hx
 ·exact(zQ4 (zPq h x hx)).2.2
 ·rcases List.mem_cons.1 hx with rfl | hx
  ·decide
  ·exact(zQ4 (he x hx)).2.2
theorem zMJ {bits:Nat}{d e:Bs}(h:Sh3 bits d)(he:∀ x ∈ e,okC x=true):∀ x ∈ zSz d e,zBW.contains x=false:=by
 intro x hx
 rcases List.mem_append.1 hx with hx | hx
 ·exact(zQ4 (zPq h x hx)).1
 ·rcases List.mem_cons.1 hx with rfl | hx
  ·decide
  ·exact(zQ4 (he x hx)).1
theorem cut1_none {x:UInt8}{s:Bs}(h:∀ y ∈ s,y≠x):cut1 x s=(s,[],false):=by unfold cut1;rw[cutB_none h]
theorem cut1_at {x:UInt8}{a b:Bs}(h:∀ y ∈ a,y≠x):cut1 x (a++x::b)=(a,b,true):=by unfold cut1;rw[cutB_at h]
theorem makeB_45 {bits:Nat}{d e:Bs}(h:Sh3 bits d):cut1 45 (zSz d e)=([115,104,97]++d,e,true):=cut1_at fun y hy=>(zQ4 (zPq h y hy)).2.1
theorem zPK {bits:Nat}{d e:Bs}(h:Sh3 bits d)(he:∀ x ∈ e,okC x=true):zHa (zSz d e)=some (bits,e,[]):=by
 unfold zHa
 rw[cut1_none (makeB_63 h he)]
 simp only[makeB_45 h,h.is]
 rw[if_pos ⟨trivial,h.pos⟩]
theorem item_opt {bits:Nat}{d e o:Bs}(h:Sh3 bits d)(he:∀ x ∈ e,okC x=true):zHa (zSz d e++63::o)=some (bits,e,o):=by
 unfold zHa
 rw[cut1_at (makeB_63 h he)]
 simp only[makeB_45 h,h.is]
 rw[if_pos ⟨trivial,h.pos⟩]
theorem zM4 {a:Bs}(h0:a≠[])(h:∀ x ∈ a,zBW.contains x=false):zHd a=[a]:=by
 unfold zHd
 have:=zOi (p:=zBW.contains) a [] [] h
 rw[List.append_nil,List.nil_append]at this
 rw[this,zAe,if_neg h0]
theorem zNl {a b:Bs}{x:UInt8}(h0:a≠[])(h:∀ x ∈ a,zBW.contains x=false)(hx:zBW.contains x=true):zHd (a++x::b)=a::zHd b:=by
 unfold zHd
 rw[zOi (p:=zBW.contains) a [] _ h,List.nil_append,zAe,if_pos hx,if_neg h0]
theorem mostB_of {l:List It9}{x:It9}(hx:x ∈ l)(hm:∀ y ∈ l,y.1<=x.1):x.1=zHt l:=by
 have key:∀ (l:List It9) (m:Nat),m<=l.foldl (fun m x=>max m x.1) m/\(∀ y ∈ l,y.1<=l.foldl (fun m x=>max m x.1) m)/\∀ M,m<=M->(∀ y ∈ l,y.1<=M)->l.foldl (fun m x=>max m x.1) m<=M:=by
  intro l
  induction l with
  | nil=>intro m;exact⟨Nat.le_refl _,by simp,fun M h _=>h⟩
  | cons y l ih =>
   intro m
   rw[List.foldl_cons]
   obtain⟨h1,h2,h3⟩:=ih (max m y.1)
   refine⟨by omega,fun z hz=>?_,fun M hM hl=>h3 M (by have:=hl y (by simp);omega) (fun z hz=>hl z (by simp[hz]))⟩
   rcases List.mem_cons.1 hz with rfl | hz
   ·omega
   ·exact h2 z hz
 obtain⟨h1,h2,h3⟩:=key l 0
 exact Nat.le_antisymm (h2 x hx) (h3 x.1 (by omega) hm)
theorem holds_of {s:Bs}{l:List Nat}{x:It9}(hx:x ∈ zAY s)(hm:∀ y ∈ zAY s,y.1<=x.1)(hf:zM3 l x=true):zJR s l=true:=by
 unfold zJR
 rw[if_neg (fun h=>by rw[List.eq_nil_of_length_eq_zero h]at hx;simp at hx)]
 exact decide_eq_true (List.length_pos_iff_exists_mem.2 ⟨x,List.mem_filter.2 ⟨List.mem_filter.2 ⟨hx,decide_eq_true (mostB_of hx hm)⟩,hf⟩⟩)
def ofS (bits:Nat)(d:Bs)(l:List Nat):Bs:=zSz d (zFX (sumT bits l).length (sumT bits l))
theorem zQn (bits:Nat)(l:List Nat):∀ x ∈ zFX (sumT bits l).length (sumT bits l),okC x=true:=(zSI (zRS bits l)).2
theorem zRB (bits:Nat)(l:List Nat)(o:Bs):zM3 l (bits,zFX (sumT bits l).length (sumT bits l),o)=true:=by
 unfold zM3
 simp only[(zSI (zRS bits l)).1,decide_true]
theorem zR8 (bits:Nat)(d:Bs)(l:List Nat):ofS bits d l≠[]:=by simp[ofS,zSz]
theorem makes1 {bits:Nat}{d:Bs}(h:Sh3 bits d)(l:List Nat):zJR (ofS bits d l) l=true:=by
 have hp:zAY (ofS bits d l)=[(bits,zFX (sumT bits l).length (sumT bits l),[])]:=by
  unfold zAY
  rw[zM4 (zR8 _ _ _) (zMJ h (zQn bits l))]
  simp only[List.filterMap_cons,List.filterMap_nil]
  rw[show zHa (ofS bits d l)=_ from zPK h (zQn bits l)]
 exact holds_of (by rw[hp];exact List.mem_singleton.2 rfl) (by rw[hp];intro y hy;rw[List.mem_singleton.1 hy];exact Nat.le_refl _) (zRB _ _ _)
theorem makes2 {bits:Nat}{d:Bs}(h:Sh3 bits d)(l:List Nat):zJR (ofS bits d l++[63]++[120]) l=true:=by
 have hp:zAY (ofS bits d l++[63]++[120])=[(bits,zFX (sumT bits l).length (sumT bits l),[120])]:=by
  unfold zAY
  rw[zM4 (by simp) (fun x hx=>by
   rcases List.mem_append.1 hx with hx | hx
   ·rcases List.mem_append.1 hx with hx | hx
    ·exact zMJ h (zQn bits l) x hx
    ·rw[List.mem_singleton.1 hx];decide
   ·rw[List.mem_singleton.1 hx];decide)]
  simp only[List.filterMap_cons,List.filterMap_nil]
  rw[List.append_assoc,show zHa (ofS bits d l++([63]++[120]))=_ from item_opt (o:=[120]) h (zQn bits l)]
 exact holds_of (by rw[hp];exact List.mem_singleton.2 rfl) (by rw[hp];intro y hy;rw[List.mem_singleton.1 hy];exact Nat.le_refl _) (zRB _ _ _)
def md5x:Bs:=[109,100,53,45,120,32]
def sha1y:Bs:=[32,115,104,97,49,45,121]
theorem makes3 {bits:Nat}{d:Bs}(h:Sh3 bits d)(l:List Nat):zJR (md5x++ofS bits d l++sha1y) l=true:=by
 have hp:zAY (md5x++ofS bits d l++sha1y)=[(bits,zFX (sumT bits l).length (sumT bits l),[])]:=by
  unfold zAY
  rw[show md5x++ofS bits d l++sha1y=[109,100,53,45,120]++32::(ofS bits d l++32::[115,104,97,49,45,121])from by unfold md5x sha1y;simp]
  rw[zNl (by simp) (by decide) (by decide),zNl (zR8 _ _ _) (zMJ h (zQn bits l)) (by decide),zM4 (by simp) (by decide)]
  simp only[List.filterMap_cons,List.filterMap_nil]
  rw[show zHa (ofS bits d l)=_ from zPK h (zQn bits l),show zHa [109,100,53,45,120]=none by decide,show zHa [115,104,97,49,45,121]=none by decide]
 exact holds_of (by rw[hp];exact List.mem_singleton.2 rfl) (by rw[hp];intro y hy;rw[List.mem_singleton.1 hy];exact Nat.le_refl _) (zRB _ _ _)
theorem makes4 {bits b2:Nat}{d d2:Bs}(h:Sh3 bits d)(h2:Sh3 b2 d2)(hle:b2<=bits)(l l2:List Nat){x:UInt8}(hx:zBW.contains x=true):zJR (ofS b2 d2 l2++[x]++ofS bits d l) l=true/\zJR (ofS bits d l++[x]++ofS b2 d2 l2) l=true:=by
 have i1:zHa (ofS bits d l)=_:=zPK h (zQn bits l)
 have i2:zHa (ofS b2 d2 l2)=_:=zPK h2 (zQn b2 l2)
 have w1:=zM4 (zR8 bits d l) (zMJ h (zQn bits l))
 have w2:=zM4 (zR8 b2 d2 l2) (zMJ h2 (zQn b2 l2))
 have p1:zAY (ofS b2 d2 l2++[x]++ofS bits d l)=[(b2,zFX (sumT b2 l2).length (sumT b2 l2),[]),(bits,zFX (sumT bits l).length (sumT bits l),[])]:=by
  unfold zAY
  rw[List.append_assoc,List.singleton_append,zNl (zR8 _ _ _) (zMJ h2 (zQn b2 l2)) hx,w1]
  simp only[List.filterMap_cons,List.filterMap_nil,i1,i2]
 have p2:zAY (ofS bits d l++[x]++ofS b2 d2 l2)=[(bits,zFX (sumT bits l).length (sumT bits l),[]),(b2,zFX (sumT b2 l2).length (sumT b2 l2),[])]:=by
  unfold zAY
  rw[List.append_assoc,List.singleton_append,zNl (zR8 _ _ _) (zMJ h (zQn bits l)) hx,w2]
  simp only[List.filterMap_cons,List.filterMap_nil,i1,i2]
 constructor
 ·exact holds_of (x:=(bits,_,[])) (by rw[p1];simp) (by rw[p1];intro y hy;simp at hy;rcases hy with rfl | rfl <;> simp[hle]) (zRB _ _ _)
 ·exact holds_of (x:=(bits,_,[])) (by rw[p2];simp) (by rw[p2];intro y hy;simp at hy;rcases hy with rfl | rfl <;> simp[hle]) (zRB _ _ _)
theorem sh256:Sh3 256 [50,53,54]:=⟨by decide,by decide,by decide⟩
theorem sh384:Sh3 384 [51,56,52]:=⟨by decide,by decide,by decide⟩
theorem sh512:Sh3 512 [53,49,50]:=⟨by decide,by decide,by decide⟩
end Go.Am.X

namespace Go.Am.X
def Bit3 (bits:Nat)(d:Bs):Prop:=(bits=256/\d=[50,53,54])∨(bits=384/\d=[51,56,52])∨(bits=512/\d=[53,49,50])
theorem Bit3.sh {bits:Nat}{d:Bs}(h:Bit3 bits d):Sh3 bits d:=by
 rcases h with⟨rfl,rfl⟩ | ⟨rfl,rfl⟩ | ⟨rfl,rfl⟩
 ·exact sh256
 ·exact sh384
 ·exact sh512
theorem Bit3.is {bits:Nat}{d:Bs}(h:Bit3 bits d):bits=256∨bits=384∨bits=512:=by
 rcases h with h | h | h
 ·exact .inl h.1
 ·exact .inr (.inl h.1)
 ·exact .inr (.inr h.1)
def dig3 (n:Int):Bs:=if n=256 then [50,53,54]else if n=384 then [51,56,52]else [53,49,50]
theorem Bit3.dig {bits:Nat}{d:Bs}(h:Bit3 bits d):dig3 (bits:Int)=d:=by rcases h with⟨rfl,rfl⟩ | ⟨rfl,rfl⟩ | ⟨rfl,rfl⟩ <;> rfl
abbrev ItoOk3 (c:zD):Prop:=∀ {bits:Nat} {d:Bs},Bit3 bits d->∀ H,inH H 0 zDG=true->∀ Z q,c zEE [.int .i64 (bits:Int)] H Z q=q (.str d) H Z
abbrev SumOkR (c:zD):Prop:=∀ {bits:Nat},bits=256∨bits=384∨bits=512->∀ (v:V) (bs:List Nat),bs.length<80000->Roomy v->∀ H,WF H->inH H 0 zDG=true->Rd H 1 v bs.length (ws .u8 bs)->Src H v->∀ Z,
 ∃ v' H' Z',Rd H' 1 v' (bits / 8) (ws .u8 (sumT bits bs))/\Roomy v'/\Gr H.size H H'/\∀ q,c zFl [.int .i64 (bits:Int),v] H Z q=q (.tup [v',.int .i64 (.ofNat 0)]) H' Z'
abbrev Enc64Ok (c:zD):Prop:=∀ (l:List Nat),l.length<=100000->(∀ x ∈ l,x<256)->∀ (v:V),Roomy v->∀ H,WF H->Rd H 1 v l.length (ws .u8 l)->Src H v->∀ Z,
 ∃ H' Z',Gr H.size H H'/\∀ q,c zGi [v] H Z q=q (.str (zFX l.length l)) H' Z'
theorem zOB (c:zD)(N:Nat)(hS:SumOkR c)(hI:ItoOk3 c)(hE:Enc64Ok c){bits:Nat}{d:Bs}(hb:Bit3 bits d)(v:V)(bs':List Nat)(hbl:bs'.length<80000)(hro:Roomy v)
  (H:Heap) (hw:WF H) (ht:inH H 0 zDG=true) (hr:Rd H 1 v bs'.length (ws .u8 bs')) (hs:Src H v) (Z:Tape) :
  ∃ H' Z',Gr H.size H H'/\∀ q,zGr c N (.int .i64 (bits:Int)) v H Z q=q (.tup [.str (ofS bits d bs'),.int .i64 (.ofNat 0)]) H' Z':=by
 obtain⟨v1,H1,Z1,r1,ro1,g1,k1⟩:=hS hb.is v bs' hbl hro H hw ht hr hs Z
 have ht1:=zOc ht g1 hw nl
 have k2:=fun Z q=>hI hb H1 ht1 Z q
 have hl:=zQv hb.is (bs:=bs')
 have h8:0<bits / 8:=by rcases hb.is with h | h | h <;> rw[h] <;> decide
 have h100:bits / 8<=100000:=by rcases hb.is with h | h | h <;> rw[h] <;> decide
 obtain⟨H2,Z2,g2,k3⟩:=hE (sumT bits bs') (by rw[hl];exact h100) (zRS bits bs') v1 ro1 H1 g1.wf (by rw[hl];exact r1) (Rd.src r1 h8) Z1
 refine⟨H2,Z2,g1.trans g2 g1.size,fun q=>?_⟩
 have x0:∀ a b:V,zR 0 [.tup [a,b]]=some a:=fun _ _=>rfl
 have x1:∀ a b:V,zR 1 [.tup [a,b]]=some b:=fun _ _=>rfl
 have ez:(Int.ofNat 0 != Int.ofNat 0)=false:=rfl
 have hd:d.length=3:=by rcases hb with⟨_,rfl⟩ | ⟨_,rfl⟩ | ⟨_,rfl⟩ <;> rfl
 have h64:bits / 8<=64:=by rcases hb.is with h | h | h <;> rw[h] <;> decide
 have he:=enc64_len (sumT bits bs').length (sumT bits bs')
 have b1:bs [115,104,97]=[115,104,97]:=rfl
 have b2:bs [45]=[45]:=rfl
 have s1:zD6 .add [115,104,97] d=some (.str ([115,104,97]++d)):=zKk (by simp;omega)
 have s2:zD6 .add ([115,104,97]++d) [45]=some (.str ([115,104,97]++d++[45])):=zKk (by simp;omega)
 have s3:zD6 .add ([115,104,97]++d++[45]) (zFX (sumT bits bs').length (sumT bits bs'))=some (.str (ofS bits d bs')):=by
  rw[zKk (by simp;omega)]
  unfold ofS zSz;simp
 simp only[zGr,k1,x0,x1,zK,zCV,ez,zM,k2,zCm,b1,b2,s1,s2,k3,s3]
abbrev MakeOk (c:zD):Prop:=∀ {bits:Nat} {d:Bs},Bit3 bits d->∀ (v:V) (bs:List Nat),bs.length<80000->Roomy v->∀ H,WF H->inH H 0 zDG=true->Rd H 1 v bs.length (ws .u8 bs)->Src H v->∀ Z,
 ∃ H' Z',Gr H.size H H'/\∀ q,c zDm [.int .i64 (bits:Int),v] H Z q=q (.tup [.str (ofS bits d bs),.int .i64 (.ofNat 0)]) H' Z'
abbrev It3Pre:List V->Prop
 | [.int .i64 n]=>n=256∨n=384∨n=512
 | _=>False
abbrev It3G:List V->V
 | [.int .i64 n]=>.str (dig3 n)
 | _=>.tup []
end Go.Am.X

namespace Go.Am.X
theorem mostB_mem:∀ (l:List It9),l≠[]->∃ x ∈ l,x.1=zHt l:=by
 have key:∀ (l:List It9) (m:Nat),(l.foldl (fun m x=>max m x.1) m=m)∨∃ x ∈ l,x.1=l.foldl (fun m x=>max m x.1) m:=by
  intro l
  induction l with
  | nil=>intro m;exact .inl rfl
  | cons y l ih =>
   intro m
   rw[List.foldl_cons]
   rcases ih (max m y.1)with h | ⟨x,hx,h⟩
   ·rw[h]
    by_cases hm:y.1<=m
    ·exact .inl (by omega)
    ·exact .inr ⟨y,by simp,by omega⟩
   ·exact .inr ⟨x,by simp[hx],h⟩
 have ge:∀ (l:List It9) (m:Nat),m<=l.foldl (fun m x=>max m x.1) m/\∀ x ∈ l,x.1<=l.foldl (fun m x=>max m x.1) m:=by
  intro l
  induction l with
  | nil=>intro m;exact⟨Nat.le_refl _,by simp⟩
  | cons y l ih =>
   intro m
   rw[List.foldl_cons]
   obtain⟨h1,h2⟩:=ih (max m y.1)
   refine⟨by omega,fun x hx=>?_⟩
   rcases List.mem_cons.1 hx with rfl | hx
   ·omega
   ·exact h2 x hx
 intro l hl
 unfold zHt
 rcases key l 0 with h | h
 ·obtain⟨y,t,rfl⟩:=List.exists_cons_of_ne_nil hl
  refine⟨y,by simp,?_⟩
  have:=(ge (y::t) 0).2 y (by simp)
  rw[h]at this ⊢;omega
 ·exact h
theorem zRU (l:List It9):(zCE l).length=0 ↔ l.length=0:=by
 constructor
 ·intro h
  by_cases hl:l=[]
  ·rw[hl];rfl
  ·obtain⟨x,hx,he⟩:=mostB_mem l hl
   have:x ∈ zCE l:=List.mem_filter.2 ⟨hx,decide_eq_true he⟩
   rw[List.length_eq_zero_iff.1 h]at this
   simp at this
 ·intro h
  have:=zOX l
  omega
theorem toB_inj:∀ (l m:List Nat),(∀ x ∈ l,x<256)->(∀ x ∈ m,x<256)->toB l=toB m->l=m:=by
 intro l
 induction l with
 | nil=>intro m _ _ h;cases m with | nil=>rfl | cons a m=>simp[toB]at h
 | cons a l ihl=>intro m hl hm h;cases m with
  | nil=>simp[toB]at h
  | cons b m =>
   simp only[toB,List.map_cons,List.cons.injEq]at h
   have ha:=hl a (by simp)
   have hb:=hm b (by simp)
   have hab:a=b:=by
    have:=congrArg UInt8.toNat h.1
    rw[UInt8.toNat_ofNat',UInt8.toNat_ofNat']at this
    omega
   rw[hab,ihl m (fun x hx=>hl x (by simp[hx])) (fun x hx=>hm x (by simp[hx])) h.2]
theorem toB_eq {l m:List Nat}(hl:∀ x ∈ l,x<256)(hm:∀ x ∈ m,x<256):zD6 .eql (toB l) (toB m)=some (.bool (decide (l=m))):=by
 rw[zOn]
 congr 2
 rw[Bool.eq_iff_iff,decide_eq_true_eq,decide_eq_true_eq]
 exact⟨toB_inj l m hl hm,fun h=>by rw[h]⟩
abbrev TSumOk (c:zD):Prop:=∀ {bits:Nat},bits=256∨bits=384∨bits=512->∀ (t:Nat) (v:V) (bs:List Nat),(∀ b ∈ bs,b<256)->bs.length<80000->∀ H,WF H->Bx H t (ws .u64 zBr)->Rd H 1 v bs.length (ws .u8 bs)->Src H v->∀ Z,
 ∃ v' H' Z',Rd H' 1 v' (bits / 8) (ws .u8 (sumT bits bs))/\Gr H.size H H'/\∀ q,c zGm [.ptr t 0,.int .i64 (bits:Int),v] H Z q=q (.tup [v',.bool true]) H' Z'
theorem l_rholds (c:zD)(N:Nat)(hB:B64Ok c zF1)(hS:TSumOk c){m:Nat}(hm:m<=100000)(its:List It9)(hil:its.length<=200000000000)(hgo:∀ x ∈ its,Good9 m x)(t:Nat)(v2:V)(bs:List Nat)(hbb:∀ b ∈ bs,b<256)(hbl:bs.length<80000)
  (H0:Heap) (hw0:WF H0) (v7:V) (hr:Rd H0 3 v7 its.length (it9C its)) (hbt:Bx H0 t (ws .u64 zBr)) (hrb:Rd H0 1 v2 bs.length (ws .u8 bs)) (hsb:Src H0 v2) :
  ∀ (l pre:List It9) (M:Nat) (H:Heap) (Z:Tape),its=pre++l->l.length<M->Gr H0.size H0 H ->
  ∃ H' Z',Gr H0.size H H' /\
   ∀ (fr:T V) k,fr.get 0=some (.ptr t 0)->fr.get 2=some v2->fr.get 7=some v7->fr.get 8=some (.int .i64 (pre.length:Int)) ->
    zW (zCF c N) M ⟨fr,H⟩ Z k=if l.any (zM3 bs)=true then k .ret ⟨(T.s .leaf 6 (.bool true)),H'⟩ Z' else k (.exit 0) ⟨(T.s .leaf 7 v7),H'⟩ Z':=by
 intro l
 induction l with
 | nil =>
  intro pre M H Z he hM hg
  obtain⟨M,rfl⟩:∃ j,M=j+1:=⟨M-1,by omega⟩
  have e1:decide ((pre.length:Int)<(its.length:Int))=false:=decide_eq_false (by rw[he];simp)
  refine⟨H,Z,Gr.refl hg.wf,fun fr k f0 f2 f7 f8=>?_⟩
  rw[zC,if_neg (by simp)]
  simp only[zCF,zA f0,zA f2,zA f7,zA f8,(hr.gr hg hw0 nl).pLen,zK,zI,e1,zM]
  rfl
 | cons x l ih =>
  intro pre M H Z he hM hg
  obtain⟨M,rfl⟩:∃ j,M=j+1:=⟨M-1,by omega⟩
  have hw:=hg.wf
  have hlt:pre.length<its.length:=by rw[he];simp
  have e1:decide ((pre.length:Int)<(its.length:Int))=true:=decide_eq_true (by omega)
  have hrH:=hr.gr hg hw0 nl
  have e6:wr .i64 ((pre.length:Int)+Int.ofNat 1)=((pre++[x]).length:Int):=by rw[adI (by omega)];simp
  have hx:=hgo x (by rw[he];simp)
  obtain⟨id,o,p1,_,p3,p4,_⟩:=zQr pre x l (by rw[<- he];exact hrH)
  obtain⟨v1,H1,Z1,g1,r1,k1⟩:=hB x.2.1 (by have:=hx.2;omega) H hw Z
  have hg1:=hg.trans g1 hg.size
  have hrH1:=hr.gr hg1 hw0 nl
  obtain⟨id',o',p1',_,p3',_,_⟩:=zQr pre x l (by rw[<- he];exact hrH1)
  rw[p1]at p1';cases p1'
  obtain⟨v3,H2,Z2,r2,g2,k2⟩:=hS hx.1 t v2 bs hbb hbl H1 g1.wf (hbt.gr hg1 (hbt.lt hw0)) (hrb.gr hg1 hw0 nl) (hsb.gr hg1 hw0 nl) Z1
  have hg2:=hg1.trans g2 hg1.size
  have x0:∀ a b:V,zR 0 [.tup [a,b]]=some a:=fun _ _=>rfl
  have x1:∀ a b:V,zR 1 [.tup [a,b]]=some b:=fun _ _=>rfl
  have g02:Gr H0.size H H2:=(g1.weaken hg.size).trans (g2.weaken (Nat.le_trans hg.size g1.size)) nl
  have step:∀ (b:Bool),zM3 bs x=b->∀ (fr:T V) (k:KC),fr.get 0=some (.ptr t 0)->fr.get 2=some v2->fr.get 7=some v7->fr.get 8=some (.int .i64 (pre.length:Int)) ->
    zW (zCF c N) (M+1) ⟨fr,H⟩ Z k=if b=true then k .ret ⟨(T.s .leaf 6 (.bool true)),H2⟩ Z2 else zW (zCF c N) M ⟨(T.s (T.s (T.s (T.s (T.s (T.s (T.s .leaf 0 (.ptr t 0)) 2 v2) 7 v7) 8 (.int .i64 (pre.length:Int))) 20 (.int .i64 (pre.length:Int))) 21 (.int .i64 ((pre++[x]).length:Int))) 8 (.int .i64 ((pre++[x]).length:Int))),H2⟩ Z2 k:=by
   intro b hb fr k f0 f2 f7 f8
   rw[zC]
   unfold zM3 at hb
   cases hbo:zG6 x.2.1 with
   | none =>
    rw[hbo]at k1 hb
    simp only at hb
    subst hb
    simp only[Option.isSome_none]at k1
    rw[if_neg (by decide)]
    simp only[zCF,zA f0,zA f2,zA f7,zA f8,hrH.pLen,zK,zI,e1,zO,p1,zH,Nat.add_zero,p4,k1,x0,x1,p3',k2,zCo,zBw,zi,cond_false,zM,zQ,e6]
    rfl
   | some r =>
    rw[hbo]at k1 r1 hb
    simp only at hb
    simp only[Option.isSome_some]at k1
    obtain⟨hrl,hrbb⟩:=zSZ hbo
    have rr1:Rd H1 1 v1 r.length (ws .u8 r):=r1.1
    have rr:=rr1.gr g2 g1.wf nl
    have rs:=(show Src H1 v1 from r1.2).gr g2 g1.wf nl
    have s1:=str_rd rr rs
    have hb8:0<x.1 / 8:=by rcases hx.1 with h | h | h <;> rw[h] <;> decide
    have s2:=str_rd r2 (Rd.src r2 hb8)
    have e7:=toB_eq hrbb (zRS x.1 bs)
    rw[hb]at e7
    cases b with
    | true =>
     rw[if_pos rfl]
     simp only[zCF,zA f0,zA f2,zA f7,zA f8,hrH.pLen,zK,zI,e1,zO,p1,zH,Nat.add_zero,p4,k1,x0,x1,p3',k2,zFR,retK,za,s1,s2,zCm,e7,zi,cond_true]
     rfl
    | false =>
     rw[if_neg (by decide)]
     simp only[zCF,zA f0,zA f2,zA f7,zA f8,hrH.pLen,zK,zI,e1,zO,p1,zH,Nat.add_zero,p4,k1,x0,x1,p3',k2,zFR,retK,za,s1,s2,zCm,e7,zi,cond_true,zM,zQ,e6]
     rfl
  cases hf:zM3 bs x with
  | true =>
   refine⟨H2,Z2,g02,fun fr k f0 f2 f7 f8=>?_⟩
   rw[step true hf fr k f0 f2 f7 f8,if_pos rfl,if_pos (by rw[List.any_cons,hf];rfl)]
  | false =>
   obtain⟨H',Z',q1,q2⟩:=ih (pre++[x]) M H2 Z2 (by rw[he];simp) (by simp at hM;omega) hg2
   refine⟨H',Z',g02.trans q1 nl,fun fr k f0 f2 f7 f8=>?_⟩
   rw[step false hf fr k f0 f2 f7 f8,if_neg (by decide),q2 _ _ (by rfl) (by rfl) (by rfl) (by rfl),List.any_cons,hf,Bool.false_or]
theorem any_filter (f:It9->Bool)(l:List It9):l.any f=decide (0<(l.filter f).length):=by
 rw[Bool.eq_iff_iff,decide_eq_true_eq,List.any_eq_true,List.length_pos_iff_exists_mem]
 exact⟨fun⟨x,h1,h2⟩=>⟨x,List.mem_filter.2 ⟨h1,h2⟩⟩,fun⟨x,h⟩=>⟨x,(List.mem_filter.1 h).1,(List.mem_filter.1 h).2⟩⟩
theorem zQW (c:zD){N:Nat}(hN:9223372036854775807<=N)(hP:ParOk c zHK)(hT:StrOk c zDs)(hB:B64Ok c zF1)(hS:TSumOk c)(s:Bs)(hs:s.length<=100000)(t:Nat)(v:V)(bs:List Nat)(hbb:∀ b ∈ bs,b<256)(hbl:bs.length<80000)
  (H:Heap) (hw:WF H) (hbt:Bx H t (ws .u64 zBr)) (hr:Rd H 1 v bs.length (ws .u8 bs)) (hsr:Src H v) (Z:Tape) :
  ∃ H' Z',Gr H.size H H'/\∀ q,zKv c N (.ptr t 0) (.str s) v H Z q=q (.bool (zJR s bs)) H' Z':=by
 obtain⟨v0,H1,Z1,r1,g1,k1⟩:=hP s (by omega) H hw Z
 have hpl:=zR7 s
 obtain⟨v3,H2,Z2,r2,g2,k2⟩:=hT (zAY s) (by omega) H1 g1.wf v0 r1.rd Z1
 have hsl:=zOX (zAY s)
 have g12:=g1.trans g2 g1.size
 obtain⟨H',Z',q1,q2⟩:=l_rholds c N hB hS hs (zCE (zAY s)) (by omega) (fun x hx=>zQI hx) t v bs hbb hbl H2 g2.wf v3 r2.rd (hbt.gr g12 (hbt.lt hw)) (hr.gr g12 hw nl) (hsr.gr g12 hw nl) (zCE (zAY s)) [] N H2 Z2 rfl (by omega) (Gr.refl g2.wf)
 refine⟨H',Z',g12.trans q1 g12.size,fun q=>?_⟩
 simp only[zKv,k1,k2]
 rw[q2 _ _ (by rfl) (by rfl) (by rfl) (by rfl)]
 have hA:=any_filter (zM3 bs) (zCE (zAY s))
 unfold zJR
 by_cases h0:(zAY s).length=0
 ·have hs0:=(zRU (zAY s)).2 h0
  have hf0:((zCE (zAY s)).any (zM3 bs))=false:=by rw[List.length_eq_zero_iff.1 hs0];rfl
  have e1:(((zCE (zAY s)).length:Int) == Int.ofNat 0)=true:=by rw[hs0];rfl
  rw[if_pos h0,hf0,if_neg (by decide)]
  simp only[zP,Nat.beq_refl,cond_true,seqK,zKY,zJ,↓reduceIte,(r2.rd.gr q1 g2.wf nl).pLen,zK,zZ,e1]
 ·rw[if_neg h0,<- hA]
  cases hf:(zCE (zAY s)).any (zM3 bs)with
  | true =>
   rw[if_pos rfl]
   simp only[zP,seqK,endK]
   rfl
  | false =>
   have hs0:(zCE (zAY s)).length≠0:=fun h=>h0 ((zRU (zAY s)).1 h)
   have e1:(((zCE (zAY s)).length:Int) == Int.ofNat 0)=false:=by rw[beq_eq_false_iff_ne];have:Int.ofNat 0=0:=rfl;omega
   rw[if_neg (by decide)]
   simp only[zP,Nat.beq_refl,cond_true,seqK,zKY,zJ,↓reduceIte,(r2.rd.gr q1 g2.wf nl).pLen,zK,zZ,e1]
abbrev RHolOk (c:zD):Prop:=∀ (s:Bs),s.length<=100000->∀ (t:Nat) (v:V) (bs:List Nat),(∀ b ∈ bs,b<256)->bs.length<80000->∀ H,WF H->Bx H t (ws .u64 zBr)->Rd H 1 v bs.length (ws .u8 bs)->Src H v->∀ Z,
 ∃ H' Z',Gr H.size H H'/\∀ q,c zLE [.ptr t 0,.str s,v] H Z q=q (.bool (zJR s bs)) H' Z'
abbrev RNewOk (c:zD):Prop:=∀ H,WF H->∀ Z,∃ H' Z',Bx H' H.size (ws .u64 zBr)/\Gr H.size H H'/\∀ q,c zNi [] H Z q=q (.ptr H.size 0) H' Z'
abbrev FewBOk (c:zD):Prop:=∀ (v:V) (n k:Nat) (cs:List V),0<k->k<1000000->∀ (H:Heap),Roomy v->Rd H 1 v n cs->∃ v',Roomy v'/\(Src H v->Src H v')/\Rd H 1 v' (min n k) (cs.take k)/\∀ Z q,c zEb [v,.int .i64 (k:Int)] H Z q=q v' H Z
end Go.Am.X

namespace Go.Am.X
theorem tabs_startG {l ents:List (Option (List V))}(h:l=zDG):inH (start (l++ents)) 0 zDG=true:=by
 subst h
 refine inH_mk zDG 0 zOl fun j cs hj=>?_
 rw[Nat.zero_add]
 exact zOW (by rw[List.getElem?_append_left (List.getElem?_eq_some_iff.1 hj).1];exact hj)
theorem known_G {c:zD}{f:Nat}(h:∀ vs H Z q,c f vs H Z q=effK (tabsP vs H Z) q):∀ H,inH H 0 zDG=true->∀ Z q,c f [] H Z q=q (.bool true) H Z:=fun H hin Z q=>by
 rw[h]
 show effK (zMz zDG [] H Z) q=_
 simp only[zMz,hin,cond_true]
 rfl
section
variable {N:Nat} (hN:9223372036854775808<N)
include hN
end
end Go.Am.X

