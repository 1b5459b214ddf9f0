/- The abstract machine, printed functions of the program, and what they are shown to be. -/
import Derived.Test.YtejpgcemblankaaGreatDoorCRNM4
set_option linter.unusedSimpArgs false
set_option linter.unusedVariables false
namespace Go.Am
def BlkP (P:Nat->Prop)(H:Heap)(id:Nat)(cs:List V):Prop :=
 ∃ room fam ver pl st fr,H.blk.get id=some (.mem cs room fam ver true pl st)/\H.fams.get fam=some (fr,ver)/\fr<=ver/\P id/\P fam
theorem BlkP.cells {P:Nat->Prop}{H:Heap}{id:Nat}{cs:List V}(h:BlkP P H id cs):H.cells? id=some cs:=by
 obtain⟨room,fam,ver,pl,st,fr,h1,h2,h3,_,_⟩:=h
 simp only[Heap.cells?,h1,h2]
 rw[show Nat.ble fr ver=true from Nat.ble_eq_true_of_le h3]
 rfl
theorem BlkP.chg {P Q:Nat->Prop}{H H':Heap}{id:Nat}{cs:List V}(h:BlkP P H id cs)(hw:WF H)(hg:Chg Q H H')(hPQ:∀ i,i<H.size->P i->¬ Q i):BlkP P H' id cs:=by
 obtain⟨room,fam,ver,pl,st,fr,h1,h2,h3,h4,h5⟩:=h
 have a:=hw.blk _ _ h1
 have b:=hw.fams _ _ h2
 exact⟨room,fam,ver,pl,st,fr,by rw[hg.blk id a (hPQ _ a h4)];exact h1,by rw[hg.fams fam b (hPQ _ b h5)];exact h2,h3,h4,h5⟩
theorem BlkP.weaken {P Q:Nat->Prop}{H:Heap}{id:Nat}{cs:List V}(h:BlkP P H id cs)(hw:WF H)(hPQ:∀ i,i<H.size->P i->Q i):BlkP Q H id cs:=by
 obtain⟨room,fam,ver,pl,st,fr,h1,h2,h3,h4,h5⟩:=h
 exact⟨room,fam,ver,pl,st,fr,h1,h2,h3,hPQ _ (hw.blk _ _ h1) h4,hPQ _ (hw.fams _ _ h2) h5⟩
theorem BlkP.stores {P:Nat->Prop}{H:Heap}{id:Nat}{cs:List V}(h:BlkP P H id cs)(hw:WF H)(off:Nat)(vs:List V)(hl:off+vs.length<=cs.length)(hs:vs.all V.scal=true) :
  ∃ H',H.stores id off vs=some H'/\BlkP P H' id (cs.take off++vs++cs.drop (off+vs.length))/\Chg P H H'/\H'.size=H.size:=by
 obtain⟨room,fam,ver,pl,st,fr,h1,h2,h3,h4,h5⟩:=h
 cases vs with
 | nil=>exact⟨H,rfl,by simpa using ⟨room,fam,ver,pl,st,fr,h1,h2,h3,h4,h5⟩,Chg.refl hw,rfl⟩
 | cons v vs =>
  have hroom:H.room? id=room:=by simp only[Heap.room?,h1]
  have hov:=zPI off room (v::vs) cs hl
  refine⟨{ size:=H.size,blk:=H.blk.s id (.mem (cs.take off++(v::vs)++cs.drop (off+(v::vs).length)) room fam ver true pl (st+1)),fams:=H.fams.s fam (ver,ver) },?_,?_,?_,rfl⟩
  ·simp only[Heap.stores,hs,cond_true,Heap.write,h1,h2,hroom,hov]
   rw[show Nat.beq ver ver=true from Nat.beq_refl ver,show Nat.ble fr ver=true from Nat.ble_eq_true_of_le h3]
   rfl
  ·exact⟨room,fam,ver,pl,st+1,ver,T.get_set_same _ _ _,T.get_set_same _ _ _,Nat.le_refl _,h4,h5⟩
  ·have hid:=hw.blk _ _ h1
   have hfam:=hw.fams _ _ h2
   refine⟨⟨?_,?_,?_⟩,Nat.le_refl _,fun i _ hi=>?_,fun f _ hf=>?_⟩
   ·intro i b hb
    simp only[T.get_set]at hb ⊢
    split at hb
    ·omega
    ·exact hw.blk _ _ hb
   ·intro f x hf
    simp only[T.get_set]at hf ⊢
    split at hf
    ·omega
    ·exact hw.fams _ _ hf
   ·intro i c r f v' w p s hb
    simp only[T.get_set]at hb ⊢
    split at hb
    ·cases hb;exact hfam
    ·exact hw.fam _ _ _ _ _ _ _ _ hb
   ·simp only[T.get_set];rw[if_neg (fun e=>hi (by rw[e]at h4;exact h4))]
   ·simp only[T.get_set];rw[if_neg (fun e=>hf (by rw[e]at h5;exact h5))]
theorem BlkP.eStore {P:Nat->Prop}{H:Heap}{id:Nat}{cs:List V}(h:BlkP P H id cs)(hw:WF H)(off:Nat)(x:V)(n:Nat)(hn:x.cells.length=n)(hl:off+n<=cs.length)(hs:x.cells.all V.scal=true)(Z:Tape) :
  ∃ H',Am.eStore n [.ptr id off,x] H Z=some (.tup [],H',Z)/\BlkP P H' id (cs.take off++x.cells++cs.drop (off+n))/\Chg P H H'/\H'.size=H.size:=by
 obtain⟨H',h1,h2,h3,h4⟩:=h.stores hw off x.cells (by omega) hs
 refine⟨H',?_,by rw[<- hn];exact h2,h3,h4⟩
 simp only[Am.eStore,hn,h1,Nat.beq_refl,cond_true]
def GenL (P:Nat->Prop)(H:Heap)(z:Nat)(v:V)(m:Nat)(cs:List V):Prop :=
 (v=.nils/\m=0/\cs=[])∨∃ id lo ex all,v=.sl id 0 m lo ex z/\BlkP P H id all/\m<=lo/\all.length=lo*z/\cs.length=m*z/\all.take (m*z)=cs
theorem GenL.nil (P:Nat->Prop)(H:Heap)(z:Nat):GenL P H z .nils 0 []:=.inl ⟨rfl,rfl,rfl⟩
theorem GenL.rd {P:Nat->Prop}{H:Heap}{z:Nat}{v:V}{m:Nat}{cs:List V}(h:GenL P H z v m cs):Rd H z v m cs:=by
 rcases h with⟨rfl,h⟩ | ⟨id,lo,ex,all,rfl,h1,h2,h3,h4,h5⟩
 ·exact .inl ⟨.inl rfl,h⟩
 ·exact .inr ⟨id,0,lo,ex,all,rfl,h1.cells,by rw[List.drop_zero,h5],h4⟩
theorem GenL.pLen {P:Nat->Prop}{H:Heap}{z:Nat}{v:V}{m:Nat}{cs:List V}(h:GenL P H z v m cs):Am.pLen [v]=some (.int .i64 (m:Int)):=h.rd.pLen
theorem GenL.scal {P:Nat->Prop}{H:Heap}{z:Nat}{v:V}{m:Nat}{cs:List V}(h:GenL P H z v m cs):v.cells=[v]/\v.scal=true:=by
 rcases h with⟨rfl,_⟩ | ⟨_,_,_,_,rfl,_⟩ <;> exact⟨rfl,rfl⟩
theorem GenL.chg {P Q:Nat->Prop}{H H':Heap}{z:Nat}{v:V}{m:Nat}{cs:List V}(h:GenL P H z v m cs)(hw:WF H)(hg:Chg Q H H')(hPQ:∀ i,i<H.size->P i->¬ Q i):GenL P H' z v m cs:=by
 rcases h with h | ⟨id,lo,ex,all,h0,h1,h2⟩
 ·exact .inl h
 ·exact .inr ⟨id,lo,ex,all,h0,h1.chg hw hg hPQ,h2⟩
theorem GenL.weaken {P Q:Nat->Prop}{H:Heap}{z:Nat}{v:V}{m:Nat}{cs:List V}(h:GenL P H z v m cs)(hw:WF H)(hPQ:∀ i,i<H.size->P i->Q i):GenL Q H z v m cs:=by
 rcases h with h | ⟨id,lo,ex,all,h0,h1,h2⟩
 ·exact .inl h
 ·exact .inr ⟨id,lo,ex,all,h0,h1.weaken hw hPQ,h2⟩
theorem GenL.gr {P:Nat->Prop}{H H':Heap}{z:Nat}{v:V}{m:Nat}{cs:List V}(h:GenL P H z v m cs)(hw:WF H)(hg:Gr H.size H H'):GenL P H' z v m cs:=h.chg hw (hg.chg (P:=fun _=>False)) fun _ _ _=>not_false
theorem GenL.append1 {P:Nat->Prop}{H:Heap}{z bytes:Nat}{v:V}{m:Nat}{cs:List V}(h:GenL P H z v m cs)(hw:WF H)(hP:zRX P H)(new:List V)(hz:0<z)(hl:new.length=z)(hs:new.all V.scal=true)
  (h1:(m+1)*bytes<=140737488355328) (h2:m+1<=140737488355328) (Z:Tape) :
  ∃ v' H' Z',Am.append H z bytes v 1 new Z=some (v',H',Z')/\GenL P H' z v' (m+1) (cs++new)/\Chg P H H':=by
 have e1:Nat.ble ((m+1)*bytes) 140737488355328=true:=Nat.ble_eq_true_of_le h1
 have e2:Nat.ble (m+1) 140737488355328=true:=Nat.ble_eq_true_of_le h2
 rcases h with⟨rfl,rfl,rfl⟩ | ⟨id,lo,ex,all,rfl,k1,k2,k3,k4,k5⟩
 ·refine⟨.sl H.size 0 1 1 (some (spare 1 (Z 0))) z,H.new new ((1+spare 1 (Z 0))*z) false,Z.tail,?_,?_,(Gr.new hw _ _ _).chg⟩
  ·simp only[Am.append,Nat.zero_add]at e1 e2 ⊢
   simp only[e1,e2,Bool.and_self,cond_true,fresh]
  ·exact .inr ⟨H.size,1,_,new,rfl,⟨_,H.size,0,false,0,0,T.get_set_same _ _ _,T.get_set_same _ _ _,Nat.le_refl _,hP _ nl,hP _ nl⟩,Nat.le_refl _,by omega,by simp;omega,by rw[List.nil_append,Nat.zero_add,Nat.one_mul,<- hl,List.take_length]⟩
 ·by_cases hin:m+1<=lo
  ·have e3:Nat.ble (m+1) lo=true:=Nat.ble_eq_true_of_le hin
   have hle:m*z+z<=lo*z:=by rw[<- Nat.succ_mul];exact Nat.mul_le_mul_right _ hin
   obtain⟨H',r1,r2,r3,r4⟩:=k1.stores hw (m*z) new (by omega) hs
   refine⟨.sl id 0 (m+1) lo ex z,H',Z,?_,.inr ⟨id,lo,ex,_,rfl,r2,hin,?_,?_,?_⟩,r3⟩
   ·simp only[Am.append,Nat.beq_refl,cond_true,e3,Nat.zero_add,r1]
   ·simp only[List.length_append,List.length_take,List.length_drop];omega
   ·rw[List.length_append,k4,hl,Nat.succ_mul]
   ·rw[k5,List.take_append_of_le_length (by rw[List.length_append,k4,hl,Nat.succ_mul];exact Nat.le_refl _)]
    exact List.take_of_length_le (by rw[List.length_append,k4,hl,Nat.succ_mul];exact Nat.le_refl _)
  ·have hml:m=lo:=by omega
   subst hml
   have e3:Nat.ble (m+1) m=false:=by
    cases hb:Nat.ble (m+1) m with
    | false=>rfl
    | true=>have:=Nat.le_of_ble_eq_true hb;omega
   have hall:all=cs:=by rw[<- k5,<- k3,List.take_length]
   subst hall
   have hloads:H.loads id 0 (m*z)=some all:=by
    simp only[Heap.loads,k1.cells,List.drop_zero]
    rw[zJB _ _ (by omega),k5]
   have hlen2:(all++new).length=(m+1)*z:=by rw[List.length_append,k3,hl,Nat.succ_mul]
   cases ex with
   | none =>
    refine⟨.sl H.size 0 (m+1) (m+1) (some (spare (m+1) (Z 0))) z,H.new (all++new) ((m+1+spare (m+1) (Z 0))*z) false,Z.tail,?_,?_,(Gr.new hw _ _ _).chg⟩
    ·simp only[Am.append,Nat.beq_refl,cond_true,e3,cond_false,e1,e2,Bool.and_self,hloads,fresh]
    ·exact .inr ⟨H.size,m+1,_,_,rfl,⟨_,H.size,0,false,0,0,T.get_set_same _ _ _,T.get_set_same _ _ _,Nat.le_refl _,hP _ nl,hP _ nl⟩,Nat.le_refl _,hlen2,hlen2,by rw[<- hlen2,List.take_length]⟩
   | some e =>
    obtain⟨room,fam,ver,pl,st,fr,q1,q2,q3,q4,q5⟩:=k1
    have hid:=hw.blk _ _ q1
    have hfam:=hw.fams _ _ q2
    have e6:Nat.beq (0+m*z) all.length=true:=by rw[k3,Nat.zero_add];exact Nat.beq_refl _
    refine⟨.sl H.size 0 (m+1) (m+1) (some (spare (m+1) (Z 0))) z,H.version (all++new) ((m+1+spare (m+1) (Z 0))*z) fam fr ver pl,Z.tail,?_,?_,⟨hw.version _ _ _ _ _ _ hfam,Nat.le_succ _,fun i hi hp=>?_,fun f hf hp=>?_⟩⟩
    ·simp only[Am.append,Nat.beq_refl,cond_true,e3,cond_false,e1,e2,Bool.and_self,hloads,q1,q2,e6,hs]
    ·exact .inr ⟨H.size,m+1,_,_,rfl,⟨_,fam,ver+1,pl,0,fr,T.get_set_same _ _ _,T.get_set_same _ _ _,by omega,hP _ nl,q5⟩,Nat.le_refl _,hlen2,hlen2,by rw[<- hlen2,List.take_length]⟩
    ·simp only[Heap.version,T.get_set];rw[if_neg (by omega)]
    ·simp only[Heap.version,T.get_set];rw[if_neg (fun e=>hp (by rw[e]at q5;exact q5))]
theorem GenL.put {P:Nat->Prop}{H:Heap}{z bytes:Nat}{v:V}{m:Nat}{cs:List V}(h:GenL P H z v m cs)(hw:WF H)(hP:zRX P H)(new:List V)(hz:0<z)(hl:new.length=z)(hs:new.all V.scal=true)
  (h1:(m+1)*bytes<=140737488355328) (h2:m+1<=140737488355328) (Z:Tape) (pl:Bool) :
  ∃ v' H' Z',zt z bytes [v,.sl H.size 0 1 1 none z] (H.new new z pl) Z=some (v',H',Z')/\GenL P H' z v' (m+1) (cs++new)/\Chg P H H'/\Chg P (H.new new z pl) H':=by
 have hG:=Gr.new hw new z pl
 have hc:=zJE H new z pl
 obtain⟨v',H',Z',r1,r2,r3⟩:=(h.gr hw hG).append1 (bytes:=bytes) hG.wf (fun i hi=>hP i (Nat.le_trans hG.size hi)) new hz hl hs h1 h2 Z
 refine⟨v',H',Z',?_,r2,((hG.chg (P:=fun _=>False)).weaken (fun _ _ h=>h.elim)).trans r3 fun _ _ h=>h,r3⟩
 have hld:(H.new new z pl).loads H.size 0 (1*z)=some new:=by
  rw[zC9 hc (by omega),List.drop_zero,List.take_of_length_le (by omega)]
 simp only[zt,zGF,zCA,Nat.beq_refl,cond_true,hld,r1]
theorem GenL.put_at {P:Nat->Prop}{H:Heap}{z:Nat}{v:V}{m:Nat}{cs:List V}(h:GenL P H z v m cs)(hw:WF H){i:Nat}(hi:i<m)(hz:0<z)(x:List V)(hx:x.length=z)(hs:x.all V.scal=true)(Z:Tape) :
  ∃ p H',zAu z [v,.int .i64 (i:Int)]=some p/\(∀ n,n=z->Am.eStore n [p,.agg x] H Z=some (.tup [],H',Z))/\GenL P H' z v m (cs.take (i*z)++x++cs.drop (i*z+z))/\Chg P H H':=by
 rcases h with⟨_,h0,_⟩ | ⟨id,lo,ex,all,rfl,k1,k2,k3,k4,k5⟩
 ·omega
 ·have hmul:i*z+z<=m*z:=by
   have:=Nat.mul_le_mul_right z (show i+1<=m by omega)
   rwa [Nat.succ_mul]at this
  have hlo:m*z<=lo*z:=Nat.mul_le_mul_right _ k2
  obtain⟨H',r1,r2,r3,r4⟩:=k1.eStore hw (i*z) (.agg x) z hx (by omega) hs Z
  have hb:=blt_yes hi
  refine⟨.ptr id (0+i*z),H',by simp only[zAu,zB0,Nat.beq_refl,hb,Bool.and_self,cond_true],fun n hn=>by rw[hn,Nat.zero_add];exact r1,.inr ⟨id,lo,ex,_,rfl,r2,k2,?_,?_,?_⟩,r3⟩
  ·simp only[V.cells,List.length_append,List.length_take,List.length_drop];omega
  ·simp only[List.length_append,List.length_take,List.length_drop];omega
  ·rw[<- k5,List.take_take,Nat.min_eq_left (by omega),V.cells,List.append_assoc,List.take_append,List.append_assoc,List.length_take,Nat.min_eq_left (by omega)]
   congr 1
   ·exact List.take_of_length_le (by rw[List.length_take];omega)
   ·rw[List.take_append,List.take_of_length_le (show x.length<=m*z-i*z by omega)]
    congr 1
    rw[hx,List.drop_take]
    congr 1;omega
theorem repl_scal {zero:List V}(h:zero.all V.scal=true)(n:Nat):(repl n zero).all V.scal=true:=by
 unfold repl
 rw[List.all_eq_true]at h ⊢
 intro v hv
 rw[List.mem_flatten]at hv
 obtain⟨l,h1,h2⟩:=hv
 rw[List.eq_of_mem_replicate h1]at h2
 exact h v h2
theorem GenL.upto {P:Nat->Prop}{H:Heap}{z:Nat}{v:V}{m:Nat}{cs:List V}(h:GenL P H z v m cs){k:Nat}(hk:k<=m)(hv:v≠.nils) :
  ∃ v',zAA z false true false [v,.int .i64 (k:Int)]=some v'/\v'≠.nils/\GenL P H z v' k (cs.take (k*z)):=by
 rcases h with⟨rfl,_⟩ | ⟨id,lo,ex,all,rfl,k1,k2,k3,k4,k5⟩
 ·exact absurd rfl hv
 ·have hb:zCs false true false [V.int .i64 (k:Int)]=some (none,some k,none):=by simp only[zCs,optN,zB0]
  have hwi:within k lo ex=true:=by rw[within_iff];exact .inl (by omega)
  have h0:Nat.ble 0 k=true:=Nat.ble_eq_true_of_le (Nat.zero_le _)
  have h0':Nat.ble 0 lo=true:=Nat.ble_eq_true_of_le (Nat.zero_le _)
  have ho:zQW 0 0 lo ex z=0:=rfl
  have hkz:k*z<=m*z:=Nat.mul_le_mul_right _ hk
  refine⟨.sl id 0 k lo ex z,by simp only[zAA,Nat.beq_refl,cond_true,hb,zPD,Option.getD_some,Option.getD_none,hwi,h0,h0',Bool.and_self,ho,Nat.sub_zero],(fun h=>by cases h),.inr ⟨id,lo,ex,all,rfl,k1,by omega,k3,?_,?_⟩⟩
  ·rw[List.length_take,k4];exact Nat.min_eq_left hkz
  ·rw[<- k5,List.take_take,Nat.min_eq_left hkz]
theorem GenL.clear {P:Nat->Prop}{H:Heap}{z:Nat}{v:V}{m:Nat}{cs:List V}(h:GenL P H z v m cs)(hw:WF H)(hv:v≠.nils){k:Nat}(hk:k<=m)(zero:List V)(hzl:zero.length=z)(hzs:zero.all V.scal=true)(Z:Tape) :
  ∃ w H' v',zAA z true false false [v,.int .i64 (k:Int)]=some w/\zK0 z zero [w] H Z=some (.tup [],H',Z)/\zAA z false true false [v,.int .i64 (k:Int)]=some v'/\v'≠.nils/\GenL P H' z v' k (cs.take (k*z))/\Chg P H H':=by
 obtain⟨v',u1,u2,u3⟩:=h.upto hk hv
 rcases h with⟨rfl,_⟩ | ⟨id,lo,ex,all,rfl,k1,k2,k3,k4,k5⟩
 ·exact absurd rfl hv
 ·obtain⟨off',lo',ex',m1,m2,m3⟩:=from_mk (id:=id) (off:=0) (n:=m) (lo:=lo) (z:=z) (ex:=ex) (by rw[within_iff];exact .inl k2) hk
  have hkz:k*z<=m*z:=Nat.mul_le_mul_right _ hk
  have hmz:m*z<=lo*z:=Nat.mul_le_mul_right _ k2
  have hrl:(repl (m-k) zero).length=m*z-k*z:=by rw[zCu,hzl,Nat.sub_mul]
  have hB:Nat.beq zero.length z=true:=by rw[hzl];exact Nat.beq_refl _
  by_cases hlt:k<m
  ·have ho:=m2 hlt
   rw[Nat.zero_add]at ho
   subst ho
   obtain⟨H',r1,r2,r3,r4⟩:=k1.stores hw (k*z) (repl (m-k) zero) (by omega) (repl_scal hzs _)
   refine⟨_,H',v',m1,?_,u1,u2,?_,r3⟩
   ·simp only[zK0,Nat.beq_refl,hB,Bool.and_self,cond_true,r1]
   ·rcases u3 with⟨e,_⟩ | ⟨id',lo'',ex'',all',e,j1,j2,j3,j4,j5⟩
    ·exact absurd e u2
    ·have hid:id'=id:=by
      subst e
      have hb:zCs false true false [V.int .i64 (k:Int)]=some (none,some k,none):=by simp only[zCs,optN,zB0]
      simp only[zAA,Nat.beq_refl,cond_true,hb,zPD,Option.getD_some,Option.getD_none,Bool.cond_eq_ite]at u1
      repeat' (split at u1)
      all_goals first | (cases u1;done) | (cases u1;rfl)
     subst hid
     have hall:all'=all:=by
      have:=j1.cells;rw[k1.cells]at this;exact(Option.some.inj this).symm
     subst hall
     refine .inr ⟨id',lo'',ex'',_,e,r2,j2,?_,j4,?_⟩
     ·simp only[List.length_append,List.length_take,List.length_drop];omega
     ·rw[List.append_assoc,List.take_append,List.length_take,Nat.min_eq_left (by omega),Nat.sub_self,List.take_zero,List.append_nil,List.take_take,Nat.min_self,j5]
  ·obtain rfl:k=m:=by omega
   have hr0:repl (k-k) zero=[]:=by rw[Nat.sub_self];rfl
   refine⟨_,H,v',m1,?_,u1,u2,u3,Chg.refl hw⟩
   simp only[zK0,Nat.beq_refl,hB,Bool.and_self,cond_true,hr0]
   rfl
end Go.Am

namespace Go.Am
structure Cells {E:Type} (cf:E->List V) (z:Nat):Prop where
 len:∀ x,(cf x).length=z
 scal:∀ x,(cf x).all V.scal=true
 pos:0<z
section
variable {E:Type} {cf:E->List V} {z:Nat}
theorem Cells.cat_len (h:Cells cf z):∀ l:List E,(l.flatMap cf).length=l.length*z:=by
 intro l
 induction l with
 | nil=>simp
 | cons x l ih=>rw[List.flatMap_cons,List.length_append,ih,h.len,List.length_cons,Nat.succ_mul,Nat.add_comm]
theorem Cells.cat_scal (h:Cells cf z):∀ l:List E,(l.flatMap cf).all V.scal=true:=by
 intro l
 induction l with
 | nil=>rfl
 | cons x l ih=>rw[List.flatMap_cons,List.all_append,ih,h.scal];rfl
theorem Cells.cat_drop (h:Cells cf z)(pre l:List E):((pre++l).flatMap cf).drop (pre.length*z)=l.flatMap cf:=by
 rw[List.flatMap_append,<- h.cat_len pre,List.drop_left]
theorem Cells.cat_take (h:Cells cf z)(pre l:List E):((pre++l).flatMap cf).take (pre.length*z)=pre.flatMap cf:=by
 rw[List.flatMap_append,<- h.cat_len pre,List.take_left]
theorem Cells.cat_at (h:Cells cf z)(pre:List E)(x:E)(l:List E):(((pre++x::l).flatMap cf).drop (pre.length*z)).take z=cf x:=by
 rw[h.cat_drop,List.flatMap_cons,<- h.len x,List.take_left]
theorem Cells.cat_get (h:Cells cf z)(pre:List E)(x:E)(l:List E){j:Nat}(hj:j<z):((pre++x::l).flatMap cf)[pre.length*z+j]?=(cf x)[j]?:=by
 rw[<- List.getElem?_drop,h.cat_drop,List.flatMap_cons,List.getElem?_append_left (by rw[h.len];exact hj)]
theorem Cells.cat_store (h:Cells cf z)(out:List E)(y x:E)(l:List E):((out++y::l).flatMap cf).take (out.length*z)++cf x++((out++y::l).flatMap cf).drop (out.length*z+z)=(out++x::l).flatMap cf:=by
 rw[h.cat_take,<- List.drop_drop,h.cat_drop,List.flatMap_cons,<- h.len y,List.drop_left,List.flatMap_append,List.flatMap_cons,List.append_assoc]
theorem Cells.at (h:Cells cf z){H:Heap}{v:V}(pre:List E)(x:E)(l:List E)(hr:Rd H z v (pre++x::l).length ((pre++x::l).flatMap cf)) :
  ∃ id o,zAu z [v,.int .i64 (pre.length:Int)]=some (.ptr id o)/\∀ H',Rd H' z v (pre++x::l).length ((pre++x::l).flatMap cf)->zAc z [.ptr id o] H'=some (.agg (cf x))/\∀ j y,(cf x)[j]?=some y->zL [.ptr id (o+j)] H'=some y:=by
 obtain⟨id,o,k1,k2⟩:=hr.at h.pos (i:=pre.length) (by simp)
 refine⟨id,o,k1,fun H' h'=>?_⟩
 obtain⟨q1,q2⟩:=k2 H' _ h'
 rw[h.cat_at]at q1
 refine⟨q1,fun j y hj=>?_⟩
 have hjz:j<z:=by
  have:=(List.getElem?_eq_some_iff.1 hj).1
  rw[h.len]at this;exact this
 exact q2 j _ hjz (by rw[h.cat_get _ _ _ hjz];exact hj)
abbrev GenE (P:Nat->Prop)(H:Heap)(cf:E->List V)(z:Nat)(v:V)(l:List E):Prop:=GenL P H z v l.length (l.flatMap cf)
theorem GenE.put (h:Cells cf z){P:Nat->Prop}{H:Heap}{bytes:Nat}{v:V}{l:List E}(hg:GenE P H cf z v l)(hw:WF H)(hP:zRX P H)(x:E)(h1:(l.length+1)*bytes<=140737488355328)(h2:l.length+1<=140737488355328)(Z:Tape)(pl:Bool) :
  ∃ v' H' Z',zt z bytes [v,.sl H.size 0 1 1 none z] (H.new (cf x) z pl) Z=some (v',H',Z')/\GenE P H' cf z v' (l++[x])/\Chg P H H'/\Chg P (H.new (cf x) z pl) H':=by
 obtain⟨v',H',Z',r1,r2,r3,r4⟩:=GenL.put (bytes:=bytes) hg hw hP (cf x) h.pos (h.len x) (h.scal x) h1 h2 Z pl
 refine⟨v',H',Z',r1,?_,r3,r4⟩
 unfold GenE
 rw[List.flatMap_append,List.flatMap_cons,List.flatMap_nil,List.append_nil,List.length_append]
 exact r2
theorem GenE.set (h:Cells cf z){P:Nat->Prop}{H:Heap}{v:V}{out l:List E}{y:E}(hg:GenE P H cf z v (out++y::l))(hw:WF H)(x:E)(Z:Tape) :
  ∃ p H',zAu z [v,.int .i64 (out.length:Int)]=some p/\(∀ n,n=z->Am.eStore n [p,.agg (cf x)] H Z=some (.tup [],H',Z))/\GenE P H' cf z v (out++x::l)/\Chg P H H':=by
 obtain⟨p,H',r1,r2,r3,r4⟩:=GenL.put_at hg hw (i:=out.length) (by simp) h.pos (cf x) (h.len x) (h.scal x) Z
 refine⟨p,H',r1,r2,?_,r4⟩
 unfold GenE
 rw[h.cat_store]at r3
 rw[show(out++x::l).length=(out++y::l).length by simp]
 exact r3
theorem GenE.clear (h:Cells cf z){P:Nat->Prop}{H:Heap}{v:V}{out l:List E}(hg:GenE P H cf z v (out++l))(hw:WF H)(hv:v≠.nils)(zero:List V)(hzl:zero.length=z)(hzs:zero.all V.scal=true)(Z:Tape) :
  ∃ w H' v',zAA z true false false [v,.int .i64 (out.length:Int)]=some w/\zK0 z zero [w] H Z=some (.tup [],H',Z)/\zAA z false true false [v,.int .i64 (out.length:Int)]=some v'/\v'≠.nils/\GenE P H' cf z v' out/\Chg P H H':=by
 obtain⟨w,H',v',r1,r2,r3,r4,r5,r6⟩:=GenL.clear hg hw hv (k:=out.length) (by simp) zero hzl hzs Z
 rw[h.cat_take]at r5
 exact⟨w,H',v',r1,r2,r3,r4,r5,r6⟩
theorem GenL.ne_nils {P:Nat->Prop}{H:Heap}{v:V}{m:Nat}{cs:List V}(h:GenL P H z v m cs)(hm:0<m):v≠.nils:=by
 rcases h with⟨_,h0,_⟩ | ⟨id,lo,ex,all,rfl,_⟩
 ·omega
 ·exact fun e=>by cases e
def zRO (f:E->Bool):List E->Nat->Int
 | [],_=>-1
 | h::l,i=>bif f h then(i:Int)else zRO f l (i+1)
theorem findP_spec (f:E->Bool):∀ (l:List E) (i:Nat),(zRO f l i=-1/\∀ h ∈ l,f h=false)∨∃ a h r,l=a++h::r/\(∀ x ∈ a,f x=false)/\f h=true/\zRO f l i=((i+a.length:Nat):Int):=by
 intro l
 induction l with
 | nil=>intro i;exact .inl ⟨rfl,fun h hh=>by simp at hh⟩
 | cons h l ih =>
  intro i
  by_cases hn:f h=true
  ·refine .inr ⟨[],h,l,rfl,fun x hx=>by simp at hx,hn,?_⟩
   rw[zRO,hn];rfl
  ·have hn':f h=false:=by simpa using hn
   rcases ih (i+1)with⟨h1,h2⟩ | ⟨a,x,r,h1,h2,h3,h4⟩
   ·refine .inl ⟨by rw[zRO,hn'];exact h1,fun x hx=>?_⟩
    rcases List.mem_cons.1 hx with rfl | hx
    ·exact hn'
    ·exact h2 x hx
   ·refine .inr ⟨h::a,x,r,by rw[h1];rfl,fun y hy=>?_,h3,?_⟩
    ·rcases List.mem_cons.1 hy with rfl | hy
     ·exact hn'
     ·exact h2 y hy
    ·rw[zRO,hn',cond_false,h4];simp;omega
end
end Go.Am

namespace Go.Am
theorem GenE.delete0 {E:Type}{cf:E->List V}{z:Nat}(h:Cells cf z){P:Nat->Prop}{H:Heap}{v:V}{x:E}{l:List E}(hg:GenE P H cf z v (x::l))(hw:WF H)(hl:0<l.length)(bytes:Nat)(zero:List V)(hzl:zero.length=z)(hzs:zero.all V.scal=true)(Z:Tape) :
  ∃ a w1 w2 v' H1 w3 H2,zAA z true true true [v,.int .i64 ((0:Nat):Int),.int .i64 ((1:Nat):Int),.int .i64 ((l.length+1:Nat):Int)]=some a/\zAA z false true false [v,.int .i64 ((0:Nat):Int)]=some w1/\zAA z true false false [v,.int .i64 ((1:Nat):Int)]=some w2 /\
   zt z bytes [w1,w2] H Z=some (v',H1,Z)/\pLen [v']=some (.int .i64 ((l.length:Nat):Int))/\zAA z true true false [v',.int .i64 ((l.length:Nat):Int),.int .i64 ((l.length+1:Nat):Int)]=some w3/\zK0 z zero [w3] H1 Z=some (.tup [],H2,Z)/\GenE P H2 cf z v' l/\Chg P H H2:=by
 have hz:=h.pos
 rcases hg with⟨_,h0,_⟩ | ⟨id,lo,ex,all,rfl,k1,k2,k3,k4,k5⟩
 ·simp at h0
 ·rw[List.length_cons]at k2 k4 k5 ⊢
  have hx:=h.len x
  have hL:=h.cat_len l
  have hb0:zCs false true false [V.int .i64 ((0:Nat):Int)]=some (none,some 0,none):=by simp only[zCs,optN,zB0]
  have hb3:zCs true true true [V.int .i64 ((0:Nat):Int),V.int .i64 ((1:Nat):Int),V.int .i64 ((l.length+1:Nat):Int)]=some (some 0,some 1,some (l.length+1)):=by simp only[zCs,optN,zB0]
  have hb2:zCs true true false [V.int .i64 ((l.length:Nat):Int),V.int .i64 ((l.length+1:Nat):Int)]=some (some l.length,some (l.length+1),none):=by simp only[zCs,optN,zB0]
  have w_le:∀ m,m<=lo->within m lo ex=true:=fun m hm=>by rw[within_iff];exact .inl hm
  have ble:∀ a b,a<=b->Nat.ble a b=true:=fun a b hh=>Nat.ble_eq_true_of_le hh
  obtain⟨off',lo',ex',m1,m2,m3⟩:=from_mk (id:=id) (off:=0) (n:=l.length+1) (lo:=lo) (z:=z) (ex:=ex) (w_le _ k2) (l:=1) (by omega)
  have ho:=m2 (by omega)
  rw[Nat.zero_add,Nat.one_mul]at ho
  rw[ho]at m1
  have hlz:(l.length+1)*z=l.length*z+z:=Nat.succ_mul _ _
  have hloz:(l.length+1)*z<=lo*z:=Nat.mul_le_mul_right _ k2
  have hcat:all.take ((l.length+1)*z)=cf x++l.flatMap cf:=by rw[k5,List.flatMap_cons]
  have hld:H.loads id z (l.length*z)=some (l.flatMap cf):=by
   simp only[Heap.loads,k1.cells]
   rw[zJB _ _ (by rw[List.length_drop];omega)]
   congr 1
   have:(all.drop z).take (l.length*z)=(all.take ((l.length+1)*z)).drop z:=by
    rw[List.drop_take];congr 1;omega
   rw[this,hcat];conv=>lhs;rw[<- hx]
   rw[List.drop_left]
  obtain⟨H1,r1,r2,r3,r4⟩:=k1.stores hw 0 (l.flatMap cf) (by omega) (h.cat_scal l)
  have hall1:(all.take 0++l.flatMap cf++all.drop (0+(l.flatMap cf).length)).length=lo*z:=by simp only[List.length_append,List.length_take,List.length_drop];omega
  obtain⟨H2,s1,s2,s3,s4⟩:=r2.stores r3.wf (l.length*z) zero (by rw[hall1];omega) hzs
  have hmin:Nat.beq l.length 0=false:=by cases hh:Nat.beq l.length 0 with | false=>rfl | true=>have:=Nat.eq_of_beq_eq_true hh;omega
  have hoff2:zQW 0 l.length lo ex z=l.length*z:=by
   unfold zQW
   rw[hmin,show Nat.blt l.length lo=true from by simp[Nat.blt];omega]
   simp
  have ho0:∀ n,zQW 0 0 n ex z=0:=fun _=>rfl
  have e0:zAA z true true true [.sl id 0 (l.length+1) lo ex z,.int .i64 ((0:Nat):Int),.int .i64 ((1:Nat):Int),.int .i64 ((l.length+1:Nat):Int)]=some (.sl id (zRz 0 0 (l.length+1) z) (1-0) (l.length+1-0) none z):=by
   simp only[zAA,Nat.beq_refl,cond_true,hb3,zPD,Option.getD_some,w_le _ k2,ble 1 (l.length+1) (by omega),ble 0 1 (by omega),Bool.and_self]
  have e1:zAA z false true false [.sl id 0 (l.length+1) lo ex z,.int .i64 ((0:Nat):Int)]=some (.sl id 0 0 lo ex z):=by
   simp only[zAA,Nat.beq_refl,cond_true,hb0,zPD,Option.getD_some,Option.getD_none,w_le 0 (by omega),ble 0 0 nl,ble 0 lo (Nat.zero_le _),Bool.and_self,ho0,Nat.sub_zero]
  have e3:zAA z true true false [.sl id 0 l.length lo ex z,.int .i64 ((l.length:Nat):Int),.int .i64 ((l.length+1:Nat):Int)]=some (.sl id (l.length*z) 1 (lo-l.length) ex z):=by
   simp only[zAA,Nat.beq_refl,cond_true,hb2,zPD,Option.getD_some,w_le _ k2,ble l.length (l.length+1) (by omega),ble l.length lo (by omega),Bool.and_self,hoff2,show l.length+1-l.length=1 by omega]
  refine⟨_,_,_,.sl id 0 l.length lo ex z,H1,_,H2,e0,e1,m1,?_,rfl,e3,?_,?_,r3.trans s3 fun _ _ hh=>hh⟩
  ·have:l.length+1-1=l.length:=by omega
   rw[this]
   simp only[zt,zGF,zCA,Nat.beq_refl,cond_true,hld,Am.append,Nat.zero_add,ble l.length lo (by omega),Nat.zero_mul,r1]
  ·have:repl 1 zero=zero:=by simp[repl]
   simp only[zK0,Nat.beq_refl,hzl,Bool.and_self,cond_true,this,s1]
  ·refine .inr ⟨id,lo,ex,_,rfl,s2,by omega,?_,hL,?_⟩
   ·simp only[List.length_append,List.length_take,List.length_drop];omega
   ·have h0:all.take 0++l.flatMap cf++all.drop (0+(l.flatMap cf).length)=l.flatMap cf++all.drop (0+(l.flatMap cf).length):=by simp
    rw[h0,List.append_assoc,List.take_append,List.length_take,List.length_append,List.length_drop,Nat.min_eq_left (by omega),Nat.sub_self,List.take_zero,List.append_nil,List.take_take,Nat.min_self,<- hL,List.take_left]
end Go.Am

namespace Go.Am
def DatP (D:Nat->Prop)(H:Heap)(z:Nat)(v:V)(n:Nat)(cs:List V):Prop :=
 (v=.nils/\n=0/\cs=[])∨∃ id off lo ex all room fam ver wr pl st fr la,v=.sl id off n lo ex z/\H.blk.get id=some (.mem all room fam ver wr pl st)/\H.fams.get fam=some (fr,la)/\fr<=ver/\D id/\D fam/\(all.drop off).take (n*z)=cs/\cs.length=n*z
theorem DatP.nil (D:Nat->Prop)(H:Heap)(z:Nat):DatP D H z .nils 0 []:=.inl ⟨rfl,rfl,rfl⟩
theorem cells_mem {H:Heap}{id:Nat}{all:List V}{room fam ver:Nat}{wr pl:Bool}{st fr la:Nat}(h1:H.blk.get id=some (.mem all room fam ver wr pl st))(h2:H.fams.get fam=some (fr,la))(h3:fr<=ver):H.cells? id=some all:=by
 simp only[Heap.cells?,h1,h2]
 rw[show Nat.ble fr ver=true from Nat.ble_eq_true_of_le h3]
 rfl
theorem DatP.rd {D:Nat->Prop}{H:Heap}{z:Nat}{v:V}{n:Nat}{cs:List V}(h:DatP D H z v n cs):Rd H z v n cs:=by
 rcases h with⟨rfl,h⟩ | ⟨id,off,lo,ex,all,room,fam,ver,wr,pl,st,fr,la,rfl,h1,h2,h3,_,_,h6,h7⟩
 ·exact .inl ⟨.inl rfl,h⟩
 ·exact .inr ⟨id,off,lo,ex,all,rfl,cells_mem h1 h2 h3,h6.symm,h7⟩
theorem DatP.src {D:Nat->Prop}{H:Heap}{z:Nat}{v:V}{n:Nat}{cs:List V}(h:DatP D H z v n cs):Src H v:=by
 rcases h with⟨rfl,h⟩ | ⟨id,off,lo,ex,all,room,fam,ver,wr,pl,st,fr,la,rfl,h1,h2,h3,_⟩
 ·trivial
 ·exact⟨all,cells_mem h1 h2 h3⟩
theorem DatP.scal {D:Nat->Prop}{H:Heap}{z:Nat}{v:V}{n:Nat}{cs:List V}(h:DatP D H z v n cs):v.cells=[v]/\v.scal=true:=by
 rcases h with⟨rfl,h⟩ | ⟨_,_,_,_,_,_,_,_,_,_,_,_,_,rfl,_⟩ <;> exact⟨rfl,rfl⟩
theorem DatP.chg {D Q:Nat->Prop}{H H':Heap}{z:Nat}{v:V}{n:Nat}{cs:List V}(h:DatP D H z v n cs)(hw:WF H)(hg:Chg Q H H')(hDQ:∀ i,i<H.size->D i->¬ Q i):DatP D H' z v n cs:=by
 rcases h with h | ⟨id,off,lo,ex,all,room,fam,ver,wr,pl,st,fr,la,e,h1,h2,h3,h4,h5,h6⟩
 ·exact .inl h
 ·have a:=hw.blk _ _ h1
  have b:=hw.fams _ _ h2
  exact .inr ⟨id,off,lo,ex,all,room,fam,ver,wr,pl,st,fr,la,e,by rw[hg.blk id a (hDQ _ a h4)];exact h1,by rw[hg.fams fam b (hDQ _ b h5)];exact h2,h3,h4,h5,h6⟩
theorem DatP.gr {D:Nat->Prop}{H H':Heap}{z:Nat}{v:V}{n:Nat}{cs:List V}(h:DatP D H z v n cs)(hw:WF H)(hg:Gr H.size H H'):DatP D H' z v n cs:=h.chg hw (hg.chg (P:=fun _=>False)) fun _ _ _=>not_false
theorem DatP.weaken {D Q:Nat->Prop}{H:Heap}{z:Nat}{v:V}{n:Nat}{cs:List V}(h:DatP D H z v n cs)(hw:WF H)(hDQ:∀ i,i<H.size->D i->Q i):DatP Q H z v n cs:=by
 rcases h with h | ⟨id,off,lo,ex,all,room,fam,ver,wr,pl,st,fr,la,e,h1,h2,h3,h4,h5,h6⟩
 ·exact .inl h
 ·exact .inr ⟨id,off,lo,ex,all,room,fam,ver,wr,pl,st,fr,la,e,h1,h2,h3,hDQ _ (hw.blk _ _ h1) h4,hDQ _ (hw.fams _ _ h2) h5,h6⟩
theorem DatP.own {H:Heap}{B z:Nat}{v:V}{n:Nat}{cs:List V}(h:Own H B z v n cs):DatP (fun i=>B<=i) H z v n cs:=by
 rcases h with⟨rfl,h⟩ | ⟨id,e,room,fam,ver,pl,st,fr,rfl,h2,h3,h4,h5,h6,h7⟩
 ·exact .inl ⟨rfl,h⟩
 ·exact .inr ⟨id,0,n,some e,cs,room,fam,ver,true,pl,st,fr,ver,rfl,h2,h3,h4,h5,h6,by rw[List.drop_zero,<- h7,List.take_length],h7⟩
theorem DatP.bod {P:Nat->Prop}{H:Heap}{v:V}{n:Nat}{cs:List V}(h:BodP P H v n cs):DatP P H 1 v n cs:=by
 rcases h with⟨rfl,h⟩ | ⟨id,lo,ex,room,fam,ver,pl,st,fr,rfl,h1,h2,h3,h4,h5,h6,_⟩
 ·exact .inl ⟨rfl,h⟩
 ·exact .inr ⟨id,0,lo,ex,cs,room,fam,ver,true,pl,st,fr,ver,rfl,h1,h2,h3,h4,h5,by rw[List.drop_zero,Nat.mul_one,<- h6,List.take_length],by omega⟩
def BxT (H:Heap)(id:Nat)(cs:List V):Prop :=
 ∃ room ver st fr,H.blk.get id=some (.mem cs room id ver true true st)/\H.fams.get id=some (fr,ver)/\fr<=ver/\cs.length<=room
theorem BxT.bx {H:Heap}{id:Nat}{cs:List V}(h:BxT H id cs):Bx H id cs:=by
 obtain⟨room,ver,st,fr,h1,h2,h3,h4⟩:=h
 exact⟨room,ver,true,st,fr,h1,h2,h3,h4⟩
theorem BxT.new (H:Heap)(cells:List V)(room:Nat)(hr:cells.length<=room):BxT (H.new cells room true) H.size cells :=
 ⟨room,0,0,0,T.get_set_same _ _ _,T.get_set_same _ _ _,Nat.le_refl _,hr⟩
theorem BxT.chg {H H':Heap}{P:Nat->Prop}{id:Nat}{cs:List V}(h:BxT H id cs)(hw:WF H)(hg:Chg P H H')(hp:¬ P id):BxT H' id cs:=by
 have hlt:=h.bx.lt hw
 obtain⟨room,ver,st,fr,h1,h2,h3,h4⟩:=h
 exact⟨room,ver,st,fr,by rw[hg.blk id hlt hp];exact h1,by rw[hg.fams id hlt hp];exact h2,h3,h4⟩
theorem BxT.only {H H':Heap}{i id:Nat}{cs:List V}(h:BxT H id cs)(hg:Only i H H')(hC:id≠i):BxT H' id cs:=by
 obtain⟨room,ver,st,fr,h1,h2,h3,h4⟩:=h
 exact⟨room,ver,st,fr,by rw[hg.blk id hC];exact h1,by rw[hg.fams id hC];exact h2,h3,h4⟩
theorem famOf_bx {H:Heap}{i:Nat}{cs:List V}(h:BxT H i cs):famOf H i=some i:=by
 obtain⟨room,ver,st,fr,h1,h2,h3,h4⟩:=h
 simp only[famOf,h1,h2]
 rw[show Nat.ble fr ver=true from Nat.ble_eq_true_of_le h3]
 rfl
theorem ptr_eq {H:Heap}{i j:Nat}{cs ds:List V}(h:BxT H i cs)(k:BxT H j ds):lPeq false [.ptr i 0,.ptr j 0] H=some (.bool (decide (i=j))):=by
 by_cases e:i=j
 ·subst e
  simp only[lPeq,Nat.beq_refl,cond_true,decide_true]
  rfl
 ·have hb:Nat.beq i j=false:=by
   cases hh:Nat.beq i j with
   | false=>rfl
   | true=>exact absurd (Nat.eq_of_beq_eq_true hh) e
  simp only[lPeq,hb,cond_false,famOf_bx h,famOf_bx k,decide_eq_false e]
  rfl
theorem BxT.eStore {H:Heap}{id:Nat}{cs:List V}(h:BxT H id cs)(hw:WF H)(off:Nat)(x:V)(n:Nat)(hn:x.cells.length=n)(hl:off+n<=cs.length)(hn0:0<n)(hs:x.cells.all V.scal=true)(Z:Tape) :
  ∃ H',Am.eStore n [.ptr id off,x] H Z=some (.tup [],H',Z)/\BxT H' id (cs.take off++x.cells++cs.drop (off+n))/\Only id H H':=by
 obtain⟨room,ver,st,fr,h1,h2,h3,h4⟩:=h
 have hroom:H.room? id=room:=by simp only[Heap.room?,h1]
 have hov:=zPI off room x.cells cs (by omega)
 obtain⟨y,ys,hy⟩:∃ y ys,x.cells=y::ys:=by
  cases hx:x.cells with
  | nil=>rw[hx]at hn;simp at hn;omega
  | cons y ys=>exact⟨y,ys,rfl⟩
 refine⟨{ size:=H.size,blk:=H.blk.s id (.mem (cs.take off++x.cells++cs.drop (off+n)) room id ver true true (st+1)),fams:=H.fams.s id (ver,ver) },?_,?_,?_⟩
 ·have:H.stores id off x.cells=some { size:=H.size,blk:=H.blk.s id (.mem (cs.take off++x.cells++cs.drop (off+n)) room id ver true true (st+1)),fams:=H.fams.s id (ver,ver) }:=by
   rw[hy]at hs hov ⊢
   simp only[Heap.stores,hs,cond_true,Heap.write,h1,h2,hroom,hov]
   rw[show Nat.beq ver ver=true from Nat.beq_refl ver,show Nat.ble fr ver=true from Nat.ble_eq_true_of_le h3]
   rw[<- hy,hn]
   rfl
  simp only[Am.eStore,hn,this]
  rw[show Nat.beq n n=true from Nat.beq_refl n]
  rfl
 ·refine⟨room,ver,st+1,ver,T.get_set_same _ _ _,T.get_set_same _ _ _,Nat.le_refl _,?_⟩
  have:(cs.take off++x.cells++cs.drop (off+n)).length=cs.length:=by
   simp only[List.length_append,List.length_take,List.length_drop]
   omega
  omega
 ·have hid:=hw.blk _ _ h1
  refine⟨⟨?_,?_,?_⟩,rfl,fun i hi=>?_,fun f hf=>?_⟩
  ·intro i b hb
   simp only[T.get_set]at hb ⊢
   split at hb
   ·omega
   ·exact hw.blk _ _ hb
  ·intro f x hf
   simp only[T.get_set]at hf ⊢
   split at hf
   ·omega
   ·exact hw.fams _ _ hf
  ·intro i c r f v' w p s hb
   simp only[T.get_set]at hb ⊢
   split at hb
   ·cases hb;exact hid
   ·exact hw.fam _ _ _ _ _ _ _ _ hb
  ·simp only[T.get_set];rw[if_neg (Ne.symm hi)]
  ·simp only[T.get_set];rw[if_neg (Ne.symm hf)]
theorem GenL.apd {H:Heap}{B z:Nat}{v:V}{n:Nat}{cs:List V}(h:Apd H B z v n cs):GenL (fun i=>B<=i) H z v n cs:=by
 rcases h with h | ⟨rfl,rfl,id,rfl,h⟩
 ·rcases h with⟨rfl,h⟩ | ⟨id,e,room,fam,ver,pl,st,fr,rfl,h2,h3,h4,h5,h6,h7⟩
  ·exact .inl ⟨rfl,h⟩
  ·exact .inr ⟨id,n,some e,cs,rfl,⟨room,fam,ver,pl,st,fr,h2,h3,h4,h5,h6⟩,Nat.le_refl _,h7,h7,by rw[<- h7,List.take_length]⟩
 ·obtain⟨room,fam,ver,pl,st,fr,h2,h3,h4,h5,h6,h7⟩:=h
  exact .inr ⟨id,0,none,[],rfl,⟨room,fam,ver,pl,st,fr,h2,h3,h4,h5,h6⟩,Nat.le_refl _,by simp,by simp,by simp⟩
theorem DatP.gen {P:Nat->Prop}{H:Heap}{z:Nat}{v:V}{n:Nat}{cs:List V}(h:GenL P H z v n cs):DatP P H z v n cs:=by
 rcases h with⟨rfl,h⟩ | ⟨id,lo,ex,all,rfl,⟨room,fam,ver,pl,st,fr,h1,h2,h3,h4,h5⟩,k2,k3,k4,k5⟩
 ·exact .inl ⟨rfl,h⟩
 ·exact .inr ⟨id,0,lo,ex,all,room,fam,ver,true,pl,st,fr,ver,rfl,h1,h2,h3,h4,h5,by rw[List.drop_zero];exact k5,k4⟩
end Go.Am

namespace Go.Am
end Go.Am

