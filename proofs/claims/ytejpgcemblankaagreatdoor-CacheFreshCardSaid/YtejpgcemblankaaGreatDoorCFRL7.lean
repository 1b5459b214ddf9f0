/- The abstract machine, printed functions of the program, and what they are shown to be. -/
import Derived.Test.YtejpgcemblankaaGreatDoorCFRL6
import Derived.Test.YtejpgcemblankaaGreatDoorCFRL4
set_option linter.unusedSimpArgs false
set_option linter.unusedVariables false
set_option linter.unusedSectionVars false
set_option maxRecDepth 100000
namespace Go.Am.X
theorem Own.compactF {H:Heap}{B:Nat}{v:V}{ss:List Bs}(h:Own H B 1 v ss.length (ss.map V.str))(hw:WF H)(hl:ss.length<4611686018427387904)(h0:ss≠[]) :
  ∃ v' H',(∀ Z,zCI [v] H Z=some (v',H',Z))/\FreshL B H' 1 (zIp ss).length ((zIp ss).map V.str) v'/\Gr B H H':=by
 have hle:=compL_le ss
 have hpos:=List.length_pos_iff.2 h0
 obtain⟨id,e,rfl⟩:=Own.form h hpos
 have hpl:((zIp ss++List.replicate (ss.length-(zIp ss).length) []).map V.str).length=(ss.map V.str).length:=by
  rw[List.length_map,List.length_map,List.length_append,List.length_replicate];omega
 obtain⟨H',s1,o1,g1⟩:=Own.stores h hw 0 ((zIp ss++List.replicate (ss.length-(zIp ss).length) []).map V.str) (by rw[hpl];omega) (strs_scal _)
 have hld:H.loads id 0 ss.length=some (ss.map V.str):=by
  rw[zC9 (Own.cellsQ h) (by simp),List.drop_zero]
  rw[show ss.length=(ss.map V.str).length by simp,List.take_length]
 rw[List.take_zero,List.nil_append,Nat.zero_add,hpl,List.drop_length,List.append_nil]at o1
 refine⟨.sl id 0 (zIp ss).length ss.length (some e) 1,H',fun Z=>?_,?_,g1⟩
 ·obtain⟨m,hm⟩:∃ m,ss.length=m+1:=⟨ss.length-1,by omega⟩
  have hb:Nat.ble ss.length 9223372036854775807=true:=Nat.ble_eq_true_of_le (by omega)
  rw[hm]at hb hld
  rw[hm]
  simp only[zCI,Nat.beq_refl,hb,Bool.and_self,cond_true,hld,zP5,s1]
 ·rcases o1 with⟨h,_⟩ | ⟨id',e',room,fam,ver,pl,st,fr,q,h1,h2,h3,h4,h5,h7⟩
  ·cases h
  ·cases q
   refine⟨id,0,ss.length,some e,_,room,fam,ver,pl,st,fr,ver,rfl,h1,h2,h3,h5,?_,by simp,.inl rfl⟩
   rw[List.drop_zero,Nat.mul_one,List.map_append]
   have:(zIp ss).length=((zIp ss).map V.str).length:=by simp
   rw[this,List.take_left]
theorem zOG (c:zC)(N:Nat)(lv:V)(ss:List Bs)(x:Bs)(hl:ss.length<1000000000)(H:Heap)(hr:Rd H 1 lv ss.length (ss.map V.str)):∀ (l pre:List Bs) (Z:Tape) (m:Nat),ss=pre++l->l.length<m ->
  ∃ j:Nat,∀ (fr:T V) k,fr.get 0=some lv->fr.get 1=some (.str x)->fr.get 7=some (.int .i64 (ss.length:Int))->fr.get 8=some (.int .i64 (pre.length:Int)) ->
   zAZ (zBf c N) m ⟨fr,H⟩ Z k=bif l.contains x then k .ret ⟨(T.s .leaf 4 (.int .i64 (j:Int))),H⟩ Z else k (.exit 0) ⟨.leaf,H⟩ Z:=by
 intro l
 induction l with
 | nil =>
  intro pre Z m he hm
  obtain⟨m,rfl⟩:∃ j,m=j+1:=⟨m-1,by omega⟩
  have e1:decide (pre.length<ss.length)=false:=decide_eq_false (by rw[he];simp)
  refine⟨0,fun fr k f0 f1 f7 f8=>?_⟩
  rw[zI]
  simp only[zBf,zA f0,zA f1,zA f7,zA f8,zV,↓reduceIte,Nat.reduceEqDiff,zJ,zh,retK,zCs,zD5,zBP,zCa,zCo,zS,cond_true,cond_false,zQ,zO,zAv,zEF,zN,zBk,zAV,zBa,zCQ,Bool.not_true,Bool.not_false,zAs,zAF,zQ3,zQ0,zQx,zQy,zRC,zQ9,zPm,zQB,zQz,zQu,ext0,ext1,zQv,zQ4,zRB,ze,zCn,decide_true,decide_false,e1]
  rfl
 | cons y l ih =>
  intro pre Z m he hm
  obtain⟨m,rfl⟩:∃ j,m=j+1:=⟨m-1,by omega⟩
  have hlt:pre.length<ss.length:=by rw[he];simp
  have e1:decide (pre.length<ss.length)=true:=decide_eq_true hlt
  have e3:wr .i64 ((pre.length:Int)+Int.ofNat 1)=((pre++[y]).length:Int):=by rw[adI (by omega)];simp
  obtain⟨p,p1,p2⟩:=hr.elem1 (i:=pre.length) (x:=.str y) (by rw[he];simp)
  have ec:(y::l).contains x=((x == y) || l.contains x):=List.contains_cons
  rw[ec]
  cases hb:(x == y)with
  | true =>
   refine⟨pre.length,fun fr k f0 f1 f7 f8=>?_⟩
   rw[zI]
   simp only[zBf,zA f0,zA f1,zA f7,zA f8,zV,↓reduceIte,Nat.reduceEqDiff,zJ,zh,retK,zCs,zD5,zBP,zCa,zCo,zS,cond_true,cond_false,zQ,zO,zAv,zEF,zN,zBk,zAV,zBa,zCQ,Bool.not_true,Bool.not_false,zAs,zAF,zQ3,zQ0,zQx,zQy,zRC,zQ9,zPm,zQB,zQz,zQu,ext0,ext1,zQv,zQ4,zRB,ze,zCn,decide_true,decide_false,e1,p1,p2,zFU,hb,Bool.true_or]
   rfl
  | false =>
   obtain⟨j,i1⟩:=ih (pre++[y]) Z m (by rw[he];simp) (by simp at hm;omega)
   refine⟨j,fun fr k f0 f1 f7 f8=>?_⟩
   rw[zI]
   simp only[zBf,zA f0,zA f1,zA f7,zA f8,zV,↓reduceIte,Nat.reduceEqDiff,zJ,zh,retK,zCs,zD5,zBP,zCa,zCo,zS,cond_true,cond_false,zQ,zO,zAv,zEF,zN,zBk,zAV,zBa,zCQ,Bool.not_true,Bool.not_false,zAs,zAF,zQ3,zQ0,zQx,zQy,zRC,zQ9,zPm,zQB,zQz,zQu,ext0,ext1,zQv,zQ4,zRB,ze,zCn,decide_true,decide_false,e1,p1,p2,zFU,hb,Bool.false_or,e3]
   exact i1 _ k (by simp[T.get_set]) (by simp[T.get_set]) (by simp[T.get_set]) (by simp[T.get_set])
theorem zLQ (c:zC){N:Nat}(hN:9223372036854775807<N)(lv:V)(ss:List Bs)(x:Bs)(hl:ss.length<1000000000)(H:Heap)(hr:Rd H 1 lv ss.length (ss.map V.str))(Z:Tape) :
  ∃ n:Int,decide (0<=n)=ss.contains x/\∀ q,zCS c N lv (.str x) H Z q=q (.int .i64 n) H Z:=by
 obtain⟨j,i1⟩:=zOG c N lv ss x hl H hr ss [] Z N rfl (by omega)
 have pl:=hr.pLen
 cases hb:ss.contains x with
 | true =>
  rw[hb]at i1
  refine⟨j,decide_eq_true (by omega),fun q=>?_⟩
  simp only[zCS,pl,zJ]
  rw[i1 _ _ (by simp[T.get_set]) (by simp[T.get_set]) (by simp[T.get_set]) (by simp[T.get_set])]
  simp only[cond_true,zX,seqK,endK]
  rfl
 | false =>
  rw[hb]at i1
  refine⟨-1,rfl,fun q=>?_⟩
  simp only[zCS,pl,zJ]
  rw[i1 _ _ (by simp[T.get_set]) (by simp[T.get_set]) (by simp[T.get_set]) (by simp[T.get_set])]
  simp only[cond_false,zX,Nat.beq_refl,cond_true,seqK,zG9]
  rfl
theorem zJw (c:zC)(N:Nat)(lv:V)(ss:List Bs)(x:Bs)(H:Heap)(Z:Tape)(h:∃ n:Int,decide (0<=n)=ss.contains x/\∀ q,c zDk [lv,.str x] H Z q=q (.int .i64 n) H Z)(q:KV) :
  zCe c N lv (.str x) H Z q=q (.bool (ss.contains x)) H Z:=by
 obtain⟨n,h1,h2⟩:=h
 have z0:decide (Int.ofNat 0<=n)=decide (0<=n):=rfl
 simp only[zCe,h2,zBa,z0,h1]
def zQI:Bs:=[118,97,114,121]
def nonE (p:Bs):Bool:=p != []
def varL (ps:List Bs):List Bs:=(ps.filter nonE).map lower
theorem lower_nonE (p:Bs):(lower p != [])=nonE p:=by
 unfold nonE
 cases p with
 | nil=>rfl
 | cons x p=>rfl
theorem lower_star (p:Bs):lower p=[42] ↔ p=[42]:=by
 constructor
 ·intro h
  cases p with
  | nil=>cases h
  | cons x p =>
   cases p with
   | cons y p=>simp[lower]at h
   | nil =>
    have e:lowB x=42:=by simpa [lower] using h
    have:x=42:=by
     unfold lowB at e
     split at e
     ·rename_i hx
      have:=congrArg UInt8.toNat e
      rw[show(UInt8.ofNat (x.toNat+32)).toNat=x.toNat+32 by simp;omega]at this
      have h42:(42:UInt8).toNat=42:=rfl
      omega
     ·exact e
    rw[this]
 ·intro h;rw[h];rfl
theorem varL_star (ps:List Bs):(varL ps).contains [42]=ps.contains [42]:=by
 rw[Bool.eq_iff_iff,List.contains_iff_mem,List.contains_iff_mem]
 unfold varL
 constructor
 ·intro h
  obtain⟨p,hp,e⟩:=List.mem_map.1 h
  rw[lower_star]at e
  rw[<- e];exact(List.mem_filter.1 hp).1
 ·intro h
  exact List.mem_map.2 ⟨[42],List.mem_filter.2 ⟨h,rfl⟩,rfl⟩
theorem varL_snoc (pre:List Bs)(p:Bs):varL (pre++[p])=varL pre++(if nonE p=true then [lower p]else []):=by
 unfold varL
 rw[List.filter_append,List.map_append]
 congr 1
 cases h:nonE p <;> simp[h]
theorem varL_len (ps:List Bs):(varL ps).length<=ps.length:=by
 unfold varL;rw[List.length_map];exact List.length_filter_le _ _
theorem l_age_Vary (c:zC)(N:Nat)(hL:NLowOk c)(pv:V)(ps:List Bs)(hl:ps.length<20000000)(hsz:∀ s ∈ ps,s.length<=100000000)(B:Nat):∀ (l pre:List Bs) (ov:V) (H:Heap) (Z:Tape) (m:Nat),ps=pre++l->l.length<m->WF H->B<=H.size->(∀ H',Gr B H H'->Rd H' 1 pv ps.length (ps.map V.str))->LsS H B ov (varL pre) ->
  ∃ ov' H' Z',LsS H' B ov' (varL ps)/\Gr B H H'/\∀ (fr:T V) k,fr.get 6=some ov->fr.get 14=some pv->fr.get 15=some (.int .i64 (ps.length:Int))->fr.get 16=some (.int .i64 (pre.length:Int)) ->
   zAZ (zHh c N) m ⟨fr,H⟩ Z k=k (.exit 0) ⟨(T.s .leaf 6 ov'),H'⟩ Z':=by
 intro l
 induction l with
 | nil =>
  intro pre ov H Z m he hm hw hB hrd ho
  obtain⟨m,rfl⟩:∃ j,m=j+1:=⟨m-1,by omega⟩
  have e1:decide (pre.length<ps.length)=false:=decide_eq_false (by rw[he];simp)
  refine⟨ov,H,Z,by rw[he,List.append_nil];exact ho,Gr.refl hw,fun fr k f6 f14 f15 f16=>?_⟩
  rw[zI]
  simp only[zHh,zA f6,zA f14,zA f15,zA f16,zV,↓reduceIte,Nat.reduceEqDiff,zJ,zh,retK,zCs,zD5,zBP,zCa,zCo,zS,cond_true,cond_false,zQ,zO,zAv,zEF,zN,zBk,zAV,zBa,zCQ,Bool.not_true,Bool.not_false,zAs,zAF,zQ3,zQ0,zQx,zQy,zRC,zQ9,zPm,zQB,zQz,zQu,ext0,ext1,zQv,zQ4,zRB,ze,zCn,decide_true,decide_false,e1]
  rfl
 | cons x l ih =>
  intro pre ov H Z m he hm hw hB hrd ho
  obtain⟨m,rfl⟩:∃ j,m=j+1:=⟨m-1,by omega⟩
  have hlt:pre.length<ps.length:=by rw[he];simp
  have e1:decide (pre.length<ps.length)=true:=decide_eq_true hlt
  have e3:wr .i64 ((pre.length:Int)+Int.ofNat 1)=((pre++[x]).length:Int):=by rw[adI (by omega)];simp
  obtain⟨p,p1,p2⟩:=(hrd H (Gr.refl hw)).elem1 (i:=pre.length) (x:=.str x) (by rw[he];simp)
  have hx:=hsz x (by rw[he];simp)
  have kl:=hL x (by omega)
  have hne:=lower_nonE x
  cases hb:nonE x with
  | false =>
   rw[hb]at hne
   obtain⟨ov',H',Z',i1,i2,i3⟩:=ih (pre++[x]) ov H Z m (by rw[he];simp) (by simp at hm;omega) hw hB hrd (by rw[varL_snoc,hb];simpa using ho)
   refine⟨ov',H',Z',i1,i2,fun fr k f6 f14 f15 f16=>?_⟩
   rw[zI]
   simp only[zHh,zA f6,zA f14,zA f15,zA f16,zV,↓reduceIte,Nat.reduceEqDiff,zJ,zh,retK,zCs,zD5,zBP,zCa,zCo,zS,cond_true,cond_false,zQ,zO,zAv,zEF,zN,zBk,zAV,zBa,zCQ,Bool.not_true,Bool.not_false,zAs,zAF,zQ3,zQ0,zQx,zQy,zRC,zQ9,zPm,zQB,zQz,zQu,ext0,ext1,zQv,zQ4,zRB,ze,zCn,decide_true,decide_false,e1,p1,p2,kl,zSd,hne,zKC,e3]
   exact i3 _ k (by simp[T.get_set]) (by simp[T.get_set]) (by simp[T.get_set]) (by simp[T.get_set])
  | true =>
   rw[hb]at hne
   have hvl:=varL_len pre
   obtain⟨w,H1,v',H2,Z2,r1,r2,r3,r4⟩:=ho.put hw hB (lower x) (by omega) Z
   obtain⟨ov',H',Z',i1,i2,i3⟩:=ih (pre++[x]) v' H2 Z2 m (by rw[he];simp) (by simp at hm;omega) r4.wf (Nat.le_trans hB r4.size) (fun H' hg=>hrd H' (r4.trans hg nl)) (by rw[varL_snoc,hb];simpa using r3)
   refine⟨ov',H',Z',i1,r4.trans i2 nl,fun fr k f6 f14 f15 f16=>?_⟩
   rw[zI]
   simp only[zHh,zA f6,zA f14,zA f15,zA f16,zV,↓reduceIte,Nat.reduceEqDiff,zJ,zh,retK,zCs,zD5,zBP,zCa,zCo,zS,cond_true,cond_false,zQ,zO,zAv,zEF,zN,zBk,zAV,zBa,zCQ,Bool.not_true,Bool.not_false,zAs,zAF,zQ3,zQ0,zQx,zQy,zRC,zQ9,zPm,zQB,zQz,zQu,ext0,ext1,zQv,zQ4,zRB,ze,zCn,decide_true,decide_false,e1,p1,p2,kl,zSd,hne,r1,r2,zKC,e3]
   exact i3 _ k (by simp[T.get_set]) (by simp[T.get_set]) (by simp[T.get_set]) (by simp[T.get_set])
def varyO (hs:List Hd):Out:=if(zBw zQI hs).contains [42]=true then .val (.tup [.nils,.bool false])else lstO 1 (srtT (varL (zBw zQI hs))).length ((srtT (varL (zBw zQI hs))).map V.str) (fun v=>.tup [v,.bool true])
abbrev VaryG (_:Bool)(hs:List Hd):List V->Out | []=>varyO hs | _=>.val (.tup [])
theorem zR9 (c:zC){N:Nat}(hN:9223372036854775807<N)(hSp:IsP c zA0 (RH zNf SplitG))(hL:NLowOk c)(hSr:∀ vs H Z q,c zGM vs H Z q=effK (zMC vs H Z) q)(hCo:∀ vs H Z q,c zEm vs H Z q=effK (zCI vs H Z) q)
  (hCn:∀ (lv:V) (ss:List Bs) (x:Bs) (H:Heap),ss.length<1000000000->Rd H 1 lv ss.length (ss.map V.str)->∀ Z q,c zCY [lv,.str x] H Z q=q (.bool (ss.contains x)) H Z)
  (hs:List Hd) (hsm:Small hs) (lv:V) (H:Heap) (hw:WF H) (hr:RdH H lv hs) (Z:Tape) :
  ∃ v H' Z',Gr H.size H H'/\(varyO hs).Met H v H'/\∀ q,zKH c N lv H Z q=q v H' Z':=by
 obtain⟨pv,H1,Z1,o1,g1,k1⟩:=k_Split hSp hsm (name:=zQI) (by decide) hw hr Z
 have hcnt:=zQl (name:=zQI) hsm
 have hmem:=fun s (h:s ∈ zBw zQI hs)=>zP9 hsm h
 unfold varyO
 generalize zBw zQI hs=ps at o1 hcnt hmem ⊢
 obtain⟨ov,H2,Z2,i1,i2,i3⟩:=l_age_Vary c N hL pv ps (by omega) (fun s h=>by have:=hmem s h;omega) H1.size ps [] .nils H1 Z1 N rfl (by omega) g1.wf nl (fun H' hg=>o1.rd.gr hg g1.wf nl) (LsS.nil _ _)
 have hvl:=varL_len ps
 obtain⟨H3,j1,j2,j3⟩:=Own.sort i1.1 i2.wf (by omega)
 have hso:=zRn (varL ps)
 have kc:=fun Z q=>hCn ov (sorted (varL ps)) [42] H3 (by rw[hso.2.2];omega) j2.rd Z q
 have hst:(sorted (varL ps)).contains [42]=ps.contains [42]:=by
  rw[<- varL_star ps,Bool.eq_iff_iff,List.contains_iff_mem,List.contains_iff_mem,hso.2.1]
 rw[hst]at kc
 have g13:=(g1.trans i2 g1.size).trans (j3.weaken g1.size) (by have:=g1.size;have:=i2.size;omega)
 have pl:=o1.rd.pLen
 have en:bs [118,97,114,121]=zQI:=rfl
 have e42:bs [42]=[42]:=rfl
 cases hb:ps.contains [42]with
 | true =>
  rw[if_pos rfl]
  refine⟨.tup [.nils,.bool false],H3,Z2,g13,⟨rfl,trivial,trivial,trivial⟩,fun q=>?_⟩
  rw[hb]at kc
  simp only[zKH,en,k1,ext0,ext1,pl,zJ]
  rw[i3 _ _ (by simp[T.get_set]) (by simp[T.get_set]) (by simp[T.get_set]) (by simp[T.get_set])]
  simp only[zX,Nat.beq_refl,cond_true,seqK,zJ5,zV,↓reduceIte,Nat.reduceEqDiff,zJ,zh,retK,zCs,zD5,zBP,zCa,zCo,zS,cond_true,cond_false,zQ,zO,zAv,zEF,zN,zBk,zAV,zBa,zCQ,Bool.not_true,Bool.not_false,zAs,zAF,zQ3,zQ0,zQx,zQy,zRC,zQ9,zPm,zQB,zQz,zQu,ext0,ext1,zQv,zQ4,zRB,ze,zCn,decide_true,decide_false,hSr,j1,e42,kc]
 | false =>
  rw[if_neg (by simp)]
  rw[hb]at kc
  by_cases h0:varL ps=[]
  ·have hov:=i1.2 h0
   subst hov
   have hs0:srtT (varL ps)=[]:=by rw[h0];rfl
   have hc0:∀ H Z,zCI [.nils] H Z=some (.nils,H,Z):=fun _ _=>rfl
   refine⟨.tup [.nils,.bool true],H3,Z2,g13,?_,fun q=>?_⟩
   ·rw[hs0];exact⟨rfl,trivial,trivial,trivial⟩
   ·simp only[zKH,en,k1,ext0,ext1,pl,zJ]
    rw[i3 _ _ (by simp[T.get_set]) (by simp[T.get_set]) (by simp[T.get_set]) (by simp[T.get_set])]
    simp only[zX,Nat.beq_refl,cond_true,seqK,zJ5,zV,↓reduceIte,Nat.reduceEqDiff,zJ,zh,retK,zCs,zD5,zBP,zCa,zCo,zS,cond_true,cond_false,zQ,zO,zAv,zEF,zN,zBk,zAV,zBa,zCQ,Bool.not_true,Bool.not_false,zAs,zAF,zQ3,zQ0,zQx,zQy,zRC,zQ9,zPm,zQB,zQz,zQu,ext0,ext1,zQv,zQ4,zRB,ze,zCn,decide_true,decide_false,hSr,j1,e42,kc,hCo,hc0]
  ·have hsn:sorted (varL ps)≠[]:=fun e=>h0 (List.eq_nil_of_length_eq_zero (by rw[<- hso.2.2,e];rfl))
   obtain⟨v3,H4,k2,k3,k4⟩:=Own.compactF j2 j3.wf (by rw[hso.2.2];omega) hsn
   rw[zSD]at k3
   refine⟨.tup [v3,.bool true],H4,Z2,g13.trans (k4.weaken g1.size) (by have:=g13.size;omega),?_,fun q=>?_⟩
   ·have hne:(srtT (varL ps)).length≠0:=by
     intro e
     have h2:=List.eq_nil_of_length_eq_zero e
     obtain⟨z,hz⟩:=List.exists_mem_of_ne_nil _ h0
     have:=((srtT_ok (varL ps)).2.1 z).2 hz
     rw[h2]at this;simp at this
    refine Got.met (mk:=fun v=>.tup [v,.bool true]) (.inr ?_) (fun h=>absurd h hne) (mkOk_bool _) (strs_vok _ _) ⟨trivial,trivial,trivial⟩
    obtain⟨id,off,lo,ex,all,room,fam,ver,pl',st,fr,la,h1,h2,h3,h4,h5,h6⟩:=k3
    exact⟨id,off,lo,ex,all,room,fam,ver,pl',st,fr,la,h1,h2,h3,h4,Nat.le_trans g1.size h5,h6⟩
   ·simp only[zKH,en,k1,ext0,ext1,pl,zJ]
    rw[i3 _ _ (by simp[T.get_set]) (by simp[T.get_set]) (by simp[T.get_set]) (by simp[T.get_set])]
    simp only[zX,Nat.beq_refl,cond_true,seqK,zJ5,zV,↓reduceIte,Nat.reduceEqDiff,zJ,zh,retK,zCs,zD5,zBP,zCa,zCo,zS,cond_true,cond_false,zQ,zO,zAv,zEF,zN,zBk,zAV,zBa,zCQ,Bool.not_true,Bool.not_false,zAs,zAF,zQ3,zQ0,zQx,zQy,zRC,zQ9,zPm,zQB,zQz,zQu,ext0,ext1,zQv,zQ4,zRB,ze,zCn,decide_true,decide_false,hSr,j1,e42,kc,hCo,k2]
noncomputable abbrev zSg:List Row:=[Row.fn zIu zFf zLl,Row.fn zCY zz zBe,Row.fn zDk zAP zCO,Row.prim zA0 (outP (RH zNf SplitG)),Row.prim zBD (outP LowR),Row.prim zGM zMC,Row.prim zEm zCI]
theorem p_age_Vary:∀ base w0,zCA PG base w0 zIu (outP (RH zQo VaryG)):=by
 obtain⟨N,hN⟩:=someN
 refine primRH (N:=N) (l:=zSg) (.fn zPH zMm (.fn zDt zDE (.fn zFD zEU (.prim zN7 (.prim zPS (.prim sortP_ok (.prim compactP_ok (.nil _)))))))) 3 _ (fun hs args hp lv H hw hr Z=>?_)
 unfold zQo at hp;split at hp
 ·exact zR9 (CR zSg N 2) hN (fun _ _ _ _=>rfl) (zPn fun _ _ _ _=>rfl) (fun _ _ _ _=>rfl) (fun _ _ _ _=>rfl) (fun lv ss x H hl hr Z q=>zJw (CR zSg N 1) N lv ss x H Z (zLQ (CR zSg N 0) hN lv ss x hl H hr Z) q) hs hp lv H hw hr Z
 ·exact hp.elim
end Go.Am.X

namespace Go.Am.X
theorem CacM.gr {P D:Nat->Prop}{H H':Heap}{c:Nat}{rows:List CRow}{puts:Int}(h:CacM P D H c rows puts)(hw:WF H)(hg:Gr H.size H H'):CacM P D H' c rows puts:=by
 obtain⟨v,h1,h2⟩:=h.bx
 exact⟨⟨v,zE6 h1 hw hg,GenL.gr h2 hw hg⟩,fun r hr=>(h.mem r hr).chg hw (hg.chg (P:=fun _=>False)) (fun _ _ _=>not_false) not_false,h.sep,fun i hi=>Nat.lt_of_lt_of_le (h.pl i hi) hg.size,fun i hi=>Nat.lt_of_lt_of_le (h.dl i hi) hg.size,h.pc,h.dc,h.pr⟩
theorem CacM.weakenD {P D E:Nat->Prop}{H:Heap}{c:Nat}{rows:List CRow}{puts:Int}(h:CacM P D H c rows puts)(hw:WF H)(hDE:∀ i,D i->E i)(hs:∀ i,P i->¬ E i)(hl:∀ i,E i->i<H.size)(hc:¬ E c)(hr:∀ r ∈ rows,¬ E r.id):CacM P E H c rows puts :=
 ⟨h.bx,fun r m=>(h.mem r m).weaken hw (fun i _ hi=>hDE i hi),hs,h.pl,hl,h.pc,hc,fun r m=>⟨(h.pr r m).1,hr r m,(h.pr r m).2.2⟩⟩
def zHJ (hs:List Hd):List Bs:=srtT (varL (zBw zQI hs))
abbrev VaryOkC (c:zC):Prop:=∀ {hs:List Hd},Small hs->(zBw zQI hs).contains [42]=false->∀ {lv:V} {H:Heap},WF H->RdH H lv hs->∀ Z,∃ nv H' Z',Own H' H.size 1 nv (zHJ hs).length ((zHJ hs).map V.str)/\Gr H.size H H'/\∀ q,c zIu [lv] H Z q=q (.tup [nv,.bool true]) H' Z'
abbrev CopOk (c:zC):Prop:=∀ (st:Int) (hs:List Hd),hs.length<=1000000->∀ (bd:List V),bd.length<=100000000->∀ {hv bv:V} {H:Heap},WF H->RdH H hv hs->Rd H 1 bv bd.length bd->Src H bv->∀ Z,
  ∃ hv' bv' H' Z' m,H.size<=m/\m<=H'.size/\GenL (fun i=>H.size<=i/\i<m) H' 2 hv' hs.length (hcells hs)/\BodP (fun i=>m<=i/\i<H'.size) H' bv' bd.length bd/\Gr H.size H H'/\∀ q,c zE7 [.agg [.int .i64 st,hv,bv]] H Z q=q (.agg [.int .i64 st,hv',bv']) H' Z'
abbrev StoOk (cc:zC):Prop:=∀ {P D:Nat->Prop} {H:Heap} {c:Nat} {rows:List CRow} {puts:Int},CacM P D H c rows puts->WF H->rows.length<=1000->0<=puts->puts<4611686018427387904->∀ (x:CRow),RowM D H x->¬ P x.id->¬ D x.id->x.id≠c->∀ (now:Int) Z,
  ∃ P' H' Z',CacM P' D H' c (storeT x now (puts+1) rows) (puts+1)/\(∀ i,i<H.size->P' i->P i)/\Chg (fun i=>P i∨i=c∨i=x.id) H H'/\∀ q,cc zC4 [.ptr c 0,rpV x,.int .i64 now] H Z q=q (.tup []) H' Z'
def cutC (l:List CRow):List CRow:=if 16<=l.length then l.drop 1 else l
theorem zN1 (cc c' c'':zC){N:Nat}(hN:9223372036854775807<=N)(hV:VaryOkC cc)(hP:ParsOk cc)(hMt:MeantOk cc)(hM':zOR c')(hM'':zOR c'')(hD:DelC cc c' c'')(hD0:Del0C cc)(hCp:CopOk cc)(hG:zSZ cc)(hSt:StoOk cc)
  {P D E:Nat->Prop} {H:Heap} {c:Nat} {rows:List CRow} {puts:Int} (hc:CacM P D H c rows puts) (hw:WF H) (hl:rows.length<=100) (hok:∀ r ∈ rows,OkVs r) (hp0:0<=puts) (hp1:puts<4611686018427387904) (url:Bs) {ask hs:List Hd} (ham:Small ask) (hsm:Small hs) (hhl:hs.length<=1000000) (bd:List V) (hbl:bd.length<=100000000) {av hv bv:V}
  (hE:∀ i,E i->i<H.size/\¬ P i/\i≠c) (ha:DatP E H 2 av ask.length (hcells ask)) (hh:DatP E H 2 hv hs.length (hcells hs)) (hb:DatP E H 1 bv bd.length bd) (n1:(zA8 hs).1=false) (n2:(zA8 ask).1=false) (n3:(zBw zQI hs).contains [42]=false) (hnl:(zHJ hs).length<=1000000) (hns:∀ n ∈ zHJ hs,n.length<=140737488355328) (now:Int) (Z:Tape) :
  ∃ P' D' H' Z' x,CacM P' D' H' c (cutC (rows.filter fun r=>!zJe url ask r)++[x]) (puts+1)/\(x.url=url/\x.vs=(zHJ hs).map (vryT ask)/\x.st=200/\x.hs=hs/\x.bd=bd/\x.sto=now/\x.ord=puts+1/\H.size<=x.id)/\(∀ i,i<H.size->P' i->P i)/\(∀ i,i<H.size->D' i->D i)/\Chg (fun i=>P i∨i=c) H H' /\
   ∀ q,zEP cc N (.ptr c 0) (.str url) av (.agg [.int .i64 (.ofNat 200),hv,bv]) (.int .i64 now) H Z q=q (.bool true) H' Z':=by
 have hcl:c<H.size:=by obtain⟨v,h1,_⟩:=hc.bx;exact h1.lt hw
 have e0:eBox [.agg [.int .i64 (.ofNat 200),hv,bv]] H Z=some (.ptr H.size 0,H.new [.int .i64 (.ofNat 200),hv,bv] 3 true,Z):=rfl
 have g1:=Gr.new hw [.int .i64 (.ofNat 200),hv,bv] 3 true
 have b1:Bx (H.new [.int .i64 (.ofNat 200),hv,bv] 3 true) H.size [.int .i64 (.ofNat 200),hv,bv]:=Bx.new H _ 3 true (by simp)
 have z1:(H.new [.int .i64 (.ofNat 200),hv,bv] 3 true).size=H.size+1:=rfl
 generalize H.new [.int .i64 (.ofNat 200),hv,bv] 3 true=H1 at e0 g1 b1 z1
 have l1:zM [.ptr H.size (0+1)] H1=some hv:=zR b1.cells rfl
 have hh1:=hh.gr hw g1
 obtain⟨nv,H2,Z2,o2,g2,k2⟩:=hV hsm n3 g1.wf ⟨hh1.rd,hh1.src⟩ Z
 have g12:=g1.trans g2 g1.size
 have s12:=g12.size
 have b2:=zE6 b1 g1.wf g2
 have l2s:zM [.ptr H.size (0+0)] H2=some (.int .i64 (.ofNat 200)):=zR b2.cells rfl
 have l2h:zM [.ptr H.size (0+1)] H2=some hv:=zR b2.cells rfl
 have hh2:=hh.gr hw g12
 have ha2:=ha.gr hw g12
 have kPh:=hP hsm (lv:=hv) (H:=H2) ⟨hh2.rd,hh2.src⟩ Z2
 have kPa:=hP ham (lv:=av) (H:=H2) ⟨ha2.rd,ha2.src⟩ Z2
 have pfh:zKk 0 1 false [.agg (ctlC (zA8 hs))]=some (.bool false):=by
  have:zKk 0 1 false [.agg (ctlC (zA8 hs))]=some (.bool (zA8 hs).1):=rfl
  rw[this,n1]
 have pfa:zKk 0 1 false [.agg (ctlC (zA8 ask))]=some (.bool false):=by
  have:zKk 0 1 false [.agg (ctlC (zA8 ask))]=some (.bool (zA8 ask).1):=rfl
  rw[this,n2]
 obtain⟨H3,g3,z3,a3,a3b,k3⟩:=hMt url ha.scal.1 g2.wf Z2
 have g13:=g12.trans g3 g12.size
 have c3:=hc.gr hw g13
 have s13:=g13.size
 have hE3:∀ i,E i->¬ P1of P H3 i/\i≠c:=fun i h=>⟨fun k=>k.elim (hE i h).2.1 (fun k=>by have:=(hE i h).1;omega),(hE i h).2.2⟩
 have ha3:=ha.gr hw g13
 have tst:∀ {c':zC},zOR c'->TstV c' (fvM H2.size) rpV (zJe url ask) (P1of P H3) H3 rows:=fun hM r hr Ha hh τa=>by
  have na:∀ j,H2.size<=j->j<H3.size->¬ P1of P H3 j:=fun j h1 h2 h=>h.elim (fun h=>by have:=hc.pl j h;have:=g12.size;omega) (fun h=>by omega)
  exact hM ham hh.wf ((c3.mem r hr).chg g3.wf hh (fun i _ hd h=>h.elim (fun h=>hc.sep i h hd) (fun h=>by have:=hc.dl i hd;omega)) (fun h=>h.elim (hc.pr r hr).1 (fun h=>by have:=(hc.mem r hr).bx.bx.lt hw;omega))) (hok r hr).1 (hok r hr).2
   (a3.chg g3.wf hh (na _ nl (by omega))).cells (a3b.chg g3.wf hh (na _ (by omega) (by omega))).cells ⟨(ha3.chg g3.wf hh (fun i _ h=>(hE3 i h).1)).rd,(ha3.chg g3.wf hh (fun i _ h=>(hE3 i h).1)).src⟩ τa
 obtain⟨v,w,H5,Z5,H6,d1,d2,d3,d4,d5,d6,d7,c6,q6⟩:=CacM.delete hD c3 g3.wf (by omega) (tst hM') (tst hM'') Z2
 have lv2:zM [.ptr c 0] H2=some v:=by
  obtain⟨v0,h1,_⟩:=hc.bx
  have e2:zM [.ptr c 0] H2=some v0:=zR (zE6 h1 hw g12).cells rfl
  have e3:zM [.ptr c 0] H3=some v0:=zR (zE6 h1 hw g13).cells rfl
  rw[d1]at e3;cases e3;exact e2
 have hck:zBX [H2,H3,H5,H6] (((.load none),[.ptr c 0],0,1)::[])=true:=by
  simp[zBX,zHL,zPE,lv2,d1,chk1,d4]
 generalize hrows1:(rows.filter fun r=>!zJe url ask r)=rows1 at d7 c6 ⊢
 have hr1l:rows1.length<=rows.length:=by rw[<- hrows1];exact List.length_filter_le _ _
 have s36:=q6.size
 have rest:∀ (H7:Heap) (Z7:Tape) (rows2:List CRow) (P7:Nat->Prop),CacM P7 D H7 c rows2 puts->WF H7->rows2.length<=100->(∀ i,i<H.size->P7 i->P i)->(∀ i,P7 i->i<H.size->P i)->(∀ i,P7 i->P i∨H3.size<=i)->Chg (fun i=>P i∨i=c) H3 H7 ->
   ∃ P' D' H' Z' x,CacM P' D' H' c (rows2++[x]) (puts+1)/\(x.url=url/\x.vs=(zHJ hs).map (vryT ask)/\x.st=200/\x.hs=hs/\x.bd=bd/\x.sto=now/\x.ord=puts+1/\H.size<=x.id)/\(∀ i,i<H.size->P' i->P i)/\(∀ i,i<H.size->D' i->D i)/\Chg (fun i=>P i∨i=c) H H' /\
    ∀ (fr:T V) q,fr.get 0=some (.ptr c 0)->fr.get 1=some (.str url)->fr.get 2=some av->fr.get 4=some (.int .i64 now)->fr.get 8=some (.ptr H.size 0)->fr.get 11=some nv->zD9 cc N q ⟨fr,H7⟩ Z7=q (.bool true) H' Z':=by
  intro H7 Z7 rows2 P7 c7 w7 h27 hP7 hP7' hP7n q37
  have s37:=q37.size
  have nQ:∀ j,H.size<=j->j<H3.size->¬(P j∨j=c):=fun j h1 _ h=>h.elim (fun h=>by have:=hc.pl j h;omega) (fun h=>by omega)
  have b7:Bx H7 H.size [.int .i64 (.ofNat 200),hv,bv]:=(zE6 b2 g2.wf g3).chg g3.wf q37 (nQ _ nl (by omega))
  have hh7:=(hh.gr hw g13).chg g3.wf q37 (fun i _ h k=>k.elim (hE i h).2.1 (hE i h).2.2)
  have ha7:=ha3.chg g3.wf q37 (fun i _ h k=>k.elim (hE i h).2.1 (hE i h).2.2)
  have hb7:=(hb.gr hw g13).chg g3.wf q37 (fun i _ h k=>k.elim (hE i h).2.1 (hE i h).2.2)
  have nv2:DatP (fun i=>H1.size<=i/\i<H2.size) H2 1 nv (zHJ hs).length ((zHJ hs).map V.str):=(DatP.own o2).weaken g2.wf fun i hi h=>⟨h,hi⟩
  have nv7:=(nv2.gr g2.wf g3).chg g3.wf q37 (fun i hi h k=>nQ i (by omega) hi k)
  have lr7:zBA 3 [.ptr H.size 0] H7=some (.agg [.int .i64 (.ofNat 200),hv,bv]):=zAw b7.cells (by simp)
  obtain⟨hv',bv',H8,Z8,m,m1,m2,y1,y2,g8,k8⟩:=hCp 200 hs hhl bd hbl w7 ⟨hh7.rd,hh7.src⟩ hb7.rd hb7.src Z7
  have pb:zC7 [(.str []),.nils,(.int .i64 (.ofNat 0)),.nils,.nils,(.int .i64 (.ofNat 0)),(.int .i64 (.ofNat 0))] [(0,1),(2,3)] [.str url,.agg [.int .i64 200,hv',bv']]=some (.agg (rowV url .nils 200 hv' bv')):=rfl
  have e9:eBox [.agg (rowV url .nils 200 hv' bv')] H8 Z8=some (.ptr H8.size 0,H8.new (rowV url .nils 200 hv' bv') 7 true,Z8):=rfl
  have g9:=Gr.new g8.wf (rowV url .nils 200 hv' bv') 7 true
  have b9:BxT (H8.new (rowV url .nils 200 hv' bv') 7 true) H8.size (rowV url .nils 200 hv' bv'):=BxT.new H8 _ 7 (by simp)
  have z9:(H8.new (rowV url .nils 200 hv' bv') 7 true).size=H8.size+1:=rfl
  generalize H8.new (rowV url .nils 200 hv' bv') 7 true=H9 at e9 g9 b9 z9
  have s78:=g8.size
  let Q:Nat->Prop:=fun i=>i=H8.size∨H9.size<=i
  have g79:=g8.trans g9 g8.size
  obtain⟨vv,H10,Z10,t1,t2,t3,t4⟩:=l_cput cc N hG ham (av:=av) (zHJ hs) hnl hns nv (.ptr c 0) (.int .i64 now) url 200 hv' bv' H8.size g9.wf (by omega) (Q:=Q) (fun i hi=>⟨fun h=>h.elim id (fun h=>by omega),.inl⟩) (fun i hi=>.inr hi)
   (fun Hx hx=>((nv7.gr w7 g79).chg g9.wf hx (fun i _ h k=>k.elim (fun e=>by omega) (fun e=>by omega))).rd) (fun Hx hx=>⟨((ha7.gr w7 g79).chg g9.wf hx (fun i _ h k=>by have:=(hE i h).1;exact k.elim (fun e=>by omega) (fun e=>by omega))).rd,((ha7.gr w7 g79).chg g9.wf hx (fun i _ h k=>by have:=(hE i h).1;exact k.elim (fun e=>by omega) (fun e=>by omega))).src⟩)
   (zHJ hs) [] .nils H9 Z8 N rfl (by omega) (Chg.refl g9.wf) b9 (GenL.nil _ _ _)
  have s910:=t1.size
  have g7t:Gr H7.size H7 H10:=g79.trans (t1.gr (B:=H7.size) (by omega) (fun i hi h=>h.elim (fun e=>by omega) (fun e=>by omega))) nl
  let D2:Nat->Prop:=fun i=>D i∨(H7.size<=i/\i<H8.size)∨(H9.size<=i/\i<H10.size)
  have hrow:RowM D2 H10 ⟨H8.size,url,(zHJ hs).map (vryT ask),200,hs,bd,0,0,vv,hv',bv'⟩:=by
   refine⟨t2,?_,?_,?_⟩
   ·have:=(DatP.gen t3).weaken t1.wf (Q:=D2) (fun i hi h=>.inr (.inr ⟨h,hi⟩))
    exact this
   ·exact((DatP.gen (y1.gr g8.wf g9)).chg g9.wf t1 (fun i _ h k=>k.elim (fun e=>by omega) (fun e=>by omega))).weaken t1.wf (fun i _ h=>.inr (.inl ⟨h.1,by omega⟩))
   ·have y2':DatP (fun i=>m<=i/\i<H8.size) H8 1 bv' bd.length bd:=DatP.bod y2
    exact((y2'.gr g8.wf g9).chg g9.wf t1 (fun i _ h k=>k.elim (fun e=>by omega) (fun e=>by omega))).weaken t1.wf (fun i _ h=>.inr (.inl ⟨by omega,h.2⟩))
  have c10:=(c7.gr w7 g7t).weakenD g7t.wf (E:=D2) (fun i h=>.inl h) (fun i hp h=>h.elim (fun h=>c7.sep i hp h) (fun h=>by have:=c7.pl i hp;exact h.elim (fun h=>by omega) (fun h=>by omega))) (fun i h=>h.elim (fun h=>by have:=hc.dl i h;omega) (fun h=>h.elim (fun h=>by omega) (fun h=>h.2)))
   (fun h=>h.elim hc.dc (fun h=>h.elim (fun h=>by omega) (fun h=>by omega))) (fun r hr h=>h.elim (c7.pr r hr).2.1 (fun h=>by have:=(c7.mem r hr).bx.bx.lt w7;exact h.elim (fun h=>by omega) (fun h=>by omega)))
  obtain⟨P',H',Z',u1,u2,u3,u4⟩:=hSt c10 g7t.wf (by omega) hp0 hp1 ⟨H8.size,url,(zHJ hs).map (vryT ask),200,hs,bd,0,0,vv,hv',bv'⟩ hrow (fun h=>by have:=c7.pl _ h;simp only at this;omega) (fun h=>h.elim (fun h=>by have:=hc.dl _ h;simp only at this;omega) (fun h=>h.elim (fun h=>by simp only at h;omega) (fun h=>by simp only at h;omega))) (by simp only;omega) now Z10
  have hst:storeT ⟨H8.size,url,(zHJ hs).map (vryT ask),200,hs,bd,0,0,vv,hv',bv'⟩ now (puts+1) rows2=rows2++[⟨H8.size,url,(zHJ hs).map (vryT ask),200,hs,bd,now,puts+1,vv,hv',bv'⟩]:=by
   unfold storeT
   congr 1
   rw[List.filter_eq_self]
   intro r hr
   have:=(c7.mem r hr).bx.bx.lt w7
   have hne:H8.size≠r.id:=by omega
   simp[hne]
  rw[hst]at u1
  refine⟨P',D2,H',Z',_,u1,⟨rfl,rfl,rfl,rfl,rfl,rfl,rfl,by simp only;omega⟩,fun i hi h=>hP7 i hi (u2 i (by omega) h),fun i hi h=>h.elim id (fun h=>h.elim (fun h=>by omega) (fun h=>by omega)),?_,fun fr q f0 f1 f2 f4 f8 f11=>?_⟩
  ·have q3:Chg (fun i=>P i∨i=c) H H3:=g13.chg
   have q7:Chg (fun i=>P i∨i=c) H H7:=q3.trans q37 fun _ _ h=>h
   have q10:Chg (fun i=>P i∨i=c) H H10:=q7.trans (g7t.chg (P:=fun _=>False)) fun _ _ h=>h.elim
   exact q10.trans u3 fun i hi h=>h.elim (fun h=>.inl (hP7 i hi h)) (fun h=>h.elim .inr (fun h=>by simp only at h;omega))
  ·have pl:=nv7.rd.pLen
   have k8':∀ q,cc zE7 [.agg [.int .i64 (.ofNat 200),hv,bv]] H7 Z7 q=q (.agg [.int .i64 200,hv',bv']) H8 Z8:=k8
   have u4':∀ q,cc zC4 [.ptr c 0,.ptr H8.size 0,.int .i64 now] H10 Z10 q=q (.tup []) H' Z':=u4
   simp only[zD9,zA f0,zA f1,zA f2,zA f4,zA f8,zA f11,lr7,zJ,k8',pb,e9,zh,pl]
   rw[t4 _ _ (by simp[T.get_set]) (by simp[T.get_set]) (by simp[T.get_set]) (by simp[T.get_set]) (by simp[T.get_set]) (by simp[T.get_set]) (by simp[T.get_set])]
   simp only[zX,Nat.beq_refl,cond_true,seqK,zJo,zV,↓reduceIte,Nat.reduceEqDiff,u4']
 have x0:∀ a b:V,zH 0 [.tup [a,b]]=some a:=fun _ _=>rfl
 have x1:∀ a b:V,zH 1 [.tup [a,b]]=some b:=fun _ _=>rfl
 have ez:(Int.ofNat 200 != Int.ofNat 200)=false:=rfl
 have nck:zBB [.ptr c 0]=some (.ptr c 0):=rfl
 by_cases h16:16<=rows1.length
 ·obtain⟨r0,l,rfl⟩:=List.exists_cons_of_ne_nil (l:=rows1) (by intro h;rw[h]at h16;simp at h16)
  have hll:l.length<=100:=by simp at hr1l;omega
  obtain⟨v',w',H6a,H7,p1,p2,p3,c7,q7⟩:=CacM.delete0 hD0 c6 q6.wf (by simp at h16;omega) (by omega) Z5
  have hww:v'=w:=by rw[d6]at p1;exact(Option.some.inj p1).symm
  subst hww
  have q37:Chg (fun i=>P i∨i=c) H3 H7:=q6.trans q7 fun i hi h=>h.elim (fun h=>h.1.elim .inl (fun h=>by omega)) .inr
  obtain⟨P',D',H',Z',x,r1,r2,r3,r4,r5,r6⟩:=rest H7 Z5 l _ c7 q7.wf hll (fun i hi h=>h.1.1.elim id (fun h=>by omega)) (fun i h hi=>h.1.1.elim id (fun h=>by omega)) (fun i h=>h.1.1) q37
  have ec:cutC (r0::l)=l:=by unfold cutC;rw[if_pos h16];rfl
  rw[ec]
  refine⟨P',D',H',Z',x,r1,r2,r3,r4,r5,fun q=>?_⟩
  have e16:decide (Int.ofNat 16<=(((r0::l).length:Nat):Int))=true:=decide_eq_true (by have:Int.ofNat 16=16:=rfl;omega)
  simp only[zEP,e0,zh,zF,Nat.add_zero,zJ,l1,k2,x0,x1,l2s,zEF,ez,zD5,retK,l2h,kPh,pfh,zS,cond_false,zCQ,Bool.not_true,kPa,pfa,zO,nck,lv2,k3,d2,d5,hck,cond_true,d6,d7,zBa,e16,zQ,p2,p3]
  exact r6 _ q (by simp[T.get_set]) (by simp[T.get_set]) (by simp[T.get_set]) (by simp[T.get_set]) (by simp[T.get_set]) (by simp[T.get_set])
 ·obtain⟨P',D',H',Z',x,r1,r2,r3,r4,r5,r6⟩:=rest H6 Z5 rows1 _ c6 q6.wf (by omega) (fun i hi h=>h.1.elim id (fun h=>by omega)) (fun i h hi=>h.1.elim id (fun h=>by omega)) (fun i h=>h.1) q6
  have ec:cutC rows1=rows1:=by unfold cutC;rw[if_neg h16]
  rw[ec]
  refine⟨P',D',H',Z',x,r1,r2,r3,r4,r5,fun q=>?_⟩
  have e16:decide (Int.ofNat 16<=((rows1.length:Nat):Int))=false:=decide_eq_false (by have:Int.ofNat 16=16:=rfl;omega)
  simp only[zEP,e0,zh,zF,Nat.add_zero,zJ,l1,k2,x0,x1,l2s,zEF,ez,zD5,retK,l2h,kPh,pfh,zS,cond_false,zCQ,Bool.not_true,kPa,pfa,zO,nck,lv2,k3,d2,d5,hck,cond_true,d6,d7,zBa,e16]
  exact r6 _ q (by simp[T.get_set]) (by simp[T.get_set]) (by simp[T.get_set]) (by simp[T.get_set]) (by simp[T.get_set]) (by simp[T.get_set])
end Go.Am.X

namespace Go.Am.X
abbrev FiOk (cc:zC):Prop:=∀ {P D:Nat->Prop} {H:Heap} {c:Nat} {rows:List CRow} {puts:Int},CacM P D H c rows puts->WF H->rows.length<=1000->(∀ r ∈ rows,OkVs r)->∀ (url:Bs) {ask:List Hd},Small ask->∀ {av:V},RdH H av ask->∀ Z,
  ∃ H' Z',Gr H.size H H'/\(∀ b,zNU url ask rows=some b->b ∈ rows)/\∀ q,cc zFH [.ptr c 0,.str url,av] H Z q=q (outV (zNU url ask rows)) H' Z'
abbrev AgeOkC (c:zC):Prop:=∀ {hs:List Hd},Small hs->∀ {a b:Int},InI a->InI b->∀ {lv:V} {H:Heap},RdH H lv hs->∀ Z q,c zFk [lv,.int .i64 a,.int .i64 b] H Z q=q (.int .i64 (ageT hs a b)) H Z
abbrev FrsOkC (c:zC):Prop:=∀ {hs:List Hd},Small hs->∀ {a b:Int},InI a->InI b->∀ {lv:V} {H:Heap},RdH H lv hs->∀ Z q,c zGv [lv,.int .i64 a,.int .i64 b] H Z q=q (.bool (zM1 hs a b)) H Z
abbrev SetOkC (c:zC):Prop:=∀ {hs:List Hd} {n v:Bs},hs.length<1000000->(∀ h ∈ hs,h.1.length<=140737488355328)->n.length<=140737488355328->v.length<9223372036854775807->∀ {lv:V} {H:Heap},WF H->RdH H lv hs->∀ Z,
  ∃ r H' Z',(setE n v hs=0->Own H' H.size 2 r (setT n v hs).length (hcells (setT n v hs)))/\Gr H.size H H'/\∀ q,c zE0 [lv,.str n,.str v] H Z q=q (.tup [r,.int .i64 (setE n v hs)]) H' Z'
def HvBv (P D:Nat->Prop)(H H':Heap)(hv:V)(nh:Nat)(ch:List V)(bv:V)(n:Nat)(cs:List V):Prop :=
 ∃ m1 m2,nh<=2000000/\H.size<=m1/\m2<=H'.size/\(∀ i,m1<=i->i<m2->¬ P i/\¬ D i)/\BodP (fun i=>m1<=i/\i<m2) H' bv n cs/\GenL (fun i=>H.size<=i/\i<H'.size/\¬ P i/\¬ D i/\¬(m1<=i/\i<m2)) H' 2 hv nh ch
theorem HvBv.scal {P D:Nat->Prop}{H H':Heap}{hv:V}{nh:Nat}{ch:List V}{bv:V}{n:Nat}{cs:List V}(h:HvBv P D H H' hv nh ch bv n cs):hv.cells=[hv]/\hv.scal=true:=by
 obtain⟨_,_,_,_,_,_,_,h⟩:=h
 exact(DatP.gen h).scal
theorem setT_len (n v:Bs)(hs:List Hd):(setT n v hs).length<=hs.length+1:=by
 unfold setT
 split
 ·simp
 ·have:=setF_len n (valT v) (zKp n hs 0).toNat hs 0;omega
theorem zMl (cc:zC)(N:Nat)(hFi:FiOk cc){P D:Nat->Prop}{H:Heap}{c:Nat}{rows:List CRow}{puts:Int}(hc:CacM P D H c rows puts)(hw:WF H)(hl:rows.length<=1000)(hok:∀ r ∈ rows,OkVs r)(url:Bs){ask:List Hd}(ham:Small ask){av:V}(ha:RdH H av ask)(hn:zNU url ask rows=none)(now:V)(Z:Tape) :
  ∃ H' Z',Gr H.size H H'/\∀ q,zBr cc N (.ptr c 0) (.str url) av now H Z q=q (.agg [.int .i64 0,.int .i64 0,.nils,.nils,.nils]) H' Z':=by
 have e0:zB2 [(.int .i64 (.ofNat 0)),(.int .i64 (.ofNat 0)),.nils,.nils,.nils] [] H Z=some (.ptr H.size 0,H.new [(.int .i64 (.ofNat 0)),(.int .i64 (.ofNat 0)),.nils,.nils,.nils] 5 true,Z):=rfl
 have g1:=Gr.new hw [(.int .i64 (.ofNat 0)),(.int .i64 (.ofNat 0)),.nils,.nils,.nils] 5 true
 have b1:Bx (H.new [(.int .i64 (.ofNat 0)),(.int .i64 (.ofNat 0)),.nils,.nils,.nils] 5 true) H.size [(.int .i64 (.ofNat 0)),(.int .i64 (.ofNat 0)),.nils,.nils,.nils]:=Bx.new H _ 5 true (by simp)
 have z1:(H.new [(.int .i64 (.ofNat 0)),(.int .i64 (.ofNat 0)),.nils,.nils,.nils] 5 true).size=H.size+1:=rfl
 generalize H.new [(.int .i64 (.ofNat 0)),(.int .i64 (.ofNat 0)),.nils,.nils,.nils] 5 true=H1 at e0 g1 b1 z1
 obtain⟨H2,Z2,g2,_,k2⟩:=hFi (hc.gr hw g1) g1.wf hl hok url ham (ha.gr g1 hw nl) Z
 rw[hn]at k2
 have b2:=zE6 b1 g1.wf g2
 obtain⟨H3,s1,s2,s3⟩:=b2.eStore g2.wf 0 (.agg [.int .i64 0,.int .i64 0,.nils,.nils,.nils]) 5 rfl (by simp) (by omega) rfl Z2
 have s2':Bx H3 H.size [.int .i64 0,.int .i64 0,.nils,.nils,.nils]:=s2
 have s1':eStore 5 [.ptr H.size 0,.agg [(.int .i64 (.ofNat 0)),(.int .i64 (.ofNat 0)),.nils,.nils,.nils]] H2 Z2=some (.tup [],H3,Z2):=s1
 have l3:zBA 5 [.ptr H.size 0] H3=some (.agg [.int .i64 0,.int .i64 0,.nils,.nils,.nils]):=zAw s2'.cells (by simp)
 have pb:zC7 [(.int .i64 (.ofNat 0)),(.int .i64 (.ofNat 0)),.nils,.nils,.nils] [] []=some (.agg [(.int .i64 (.ofNat 0)),(.int .i64 (.ofNat 0)),.nils,.nils,.nils]):=rfl
 have en:lPeq false [outV none,.nilp] H2=some (.bool true):=rfl
 have hres:results ⟨(T.s .leaf 8 (.ptr H.size 0)),H3⟩ [(.cell 8 (some 5))]=some (.agg [.int .i64 0,.int .i64 0,.nils,.nils,.nils]):=by
  simp only[results,zMG,zRY,T.get_set_same,zHL,zPE,l3]
 refine⟨H3,Z2,(g1.trans g2 g1.size).trans (s3.gr nl) nl,fun q=>?_⟩
 simp only[zBr,e0,zh,k2,en,zJ,zQ,pb,s1',hres]
end Go.Am.X

