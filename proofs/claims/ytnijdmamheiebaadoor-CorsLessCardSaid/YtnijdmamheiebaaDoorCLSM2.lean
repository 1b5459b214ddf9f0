/- The abstract machine, printed functions of the program, and what they are shown to be. -/
import Derived.IntWalk
import Derived.Test.YtnijdmamheiebaaDoorCLSM1
import Derived.Orders
set_option linter.unusedSimpArgs false
set_option linter.unusedVariables false
namespace Go.Am
open Go.RowKit (Below)
section
variable {P:Program} {w w0:World} {U:Inj} {base:Base} {H:Heap} {I:Operand->Value}
theorem get!_list (s:List UInt8)(i:Nat):(ByteArray.mk s.toArray).get! i=s.getD i 0:=by
 simp only[ByteArray.get!,List.getD_eq_getElem?_getD]
 rw[getElem!_def]
 simp
 cases s[i]? <;> rfl
theorem sameNow_str (U:Inj)(k k':List UInt8):Instr.sameNow .string (.string ⟨k.toArray⟩) (.string ⟨k'.toArray⟩)=some (eqB k k'):=by
 simp only[Instr.sameNow]
 congr 1
 rw[zOq,Bool.eq_iff_iff]
 rw[beq_iff_eq (a:=k)]
 exact Iff.trans (MapKept.bytes_beq _ _) str_ext
theorem zOC (U:Inj)(k:List UInt8)(v:V)(c:Nat):∀ (es:List (List UInt8 × V × Nat)) (ents:List MapEntry) (i:Nat),zGF U es ents ->
  (Instr.findNow .string (.string ⟨k.toArray⟩) ents i=some none/\zKM k es=none/\(∀ e':MapEntry,e'.key=.string ⟨k.toArray⟩->e'.val=cv U v->e'.born=c->zGF U (putS k v c es) (ents++[e']))/\delS k es=es) ∨
  ∃ j u e vb,Instr.findNow .string (.string ⟨k.toArray⟩) ents i=some (some (i+j,u))/\zKM k es=some vb/\u=cv U vb.1/\e.born=vb.2/\ents[j]?=some e/\e.key=.string ⟨k.toArray⟩ /\
   (∀ e':MapEntry,e'.key=.string ⟨k.toArray⟩->e'.val=cv U v->e'.born=e.born->zGF U (putS k v c es) (ents.set j e'))/\zGF U (delS k es) (ents.eraseIdx j):=by
 intro es
 induction es with
 | nil =>
  intro ents i h
  cases ents with
  | nil=>exact .inl ⟨rfl,rfl,fun e' h1 h2 h3=>by simp[zGF,putS,h1,h2,h3],rfl⟩
  | cons e l=>cases h
 | cons p es ih =>
  intro ents i h
  cases ents with
  | nil=>cases h
  | cons e l =>
   simp only[zGF,List.map_cons,List.cons.injEq,Prod.mk.injEq]at h
   obtain⟨⟨h1,h2,h4⟩,h3⟩:=h
   obtain⟨k',v',b'⟩:=p
   simp only at h1 h2 h4
   have hs:Instr.sameNow .string (.string ⟨k.toArray⟩) e.key=some (eqB k k'):=by
    rw[h1];exact sameNow_str U k k'
   cases hb:eqB k k' with
   | true =>
    have hk:k=k':=by rw[zOq]at hb;simpa using hb
    subst hk
    refine .inr ⟨0,e.val,e,(v',b'),by simp only[Instr.findNow,hs,hb,Nat.add_zero],by simp only[zKM,hb,cond_true],h2,h4,rfl,h1,fun e' e1 e2 e3=>?_,?_⟩
    ·simp only[zGF,putS,hb,cond_true,List.set_cons_zero,List.map_cons,e1,e2,e3,h4,h3]
    ·simp only[zGF,delS,hb,cond_true,List.eraseIdx_cons_zero,h3]
   | false =>
    rcases ih l (i+1) h3 with⟨a,a',b,c'⟩ | ⟨j,u,e2,vb,a,a',x1,x2,b,c',d,g⟩
    ·refine .inl ⟨by simp only[Instr.findNow,hs,hb,a],by simp only[zKM,hb,cond_false,a'],fun e' e1 e2 e3=>?_,by simp only[delS,hb,cond_false,c']⟩
     have:=b e' e1 e2 e3
     simp only[zGF]at this
     simp only[zGF,putS,hb,cond_false,List.cons_append,List.map_cons,h1,h2,h4,this]
    ·refine .inr ⟨j+1,u,e2,vb,by simp only[Instr.findNow,hs,hb,a];rw[show i+1+j=i+(j+1)by omega],by simp only[zKM,hb,cond_false,a'],x1,x2,b,c',fun e' e1 e2 e3=>?_,?_⟩
     ·have:=d e' e1 e2 e3
      simp only[zGF]at this
      simp only[zGF,putS,hb,cond_false,List.set_cons_succ,List.map_cons,h1,h2,h4,this]
     ·simp only[zGF]at g
      simp only[zGF,delS,hb,cond_false,List.eraseIdx_cons_succ,List.map_cons,h1,h2,h4,g]
theorem putS_mem {k:List UInt8}{v:V}{c:Nat}:∀ {es:List (List UInt8 × V × Nat)} {p:List UInt8 × V × Nat},p ∈ putS k v c es->p.2.1=v∨p ∈ es:=by
 intro es
 induction es with
 | nil=>intro p h;simp[putS]at h;exact .inl (by rw[h])
 | cons q es ih =>
  intro p h
  obtain⟨k',u,b'⟩:=q
  cases hb:eqB k k' with
  | true =>
   simp only[putS,hb,cond_true,List.mem_cons]at h
   rcases h with rfl | h
   ·exact .inl rfl
   ·exact .inr (by simp[h])
  | false =>
   simp only[putS,hb,cond_false,List.mem_cons]at h
   rcases h with rfl | h
   ·exact .inr (by simp)
   ·rcases ih h with h | h
    ·exact .inl h
    ·exact .inr (by simp[h])
theorem zPk {U:Inj}{k:List UInt8}:∀ {es:List (List UInt8 × V × Nat)} {ents:Array MapEntry},zGF U es ents.toList->zKM k es=none->∀ x ∈ ents.toList,x.key≠.string ⟨k.toArray⟩:=by
 intro es ents h hf x hx e
 have hm:(x.key,x.val,x.born) ∈ es.map fun p=>(Value.string ⟨p.1.toArray⟩,cv U p.2.1,p.2.2):=by
  rw[<- h];exact List.mem_map.2 ⟨x,hx,rfl⟩
 obtain⟨p,hp,hq⟩:=List.mem_map.1 hm
 simp only[Prod.mk.injEq]at hq
 have hk:k=p.1:=by
  have:=hq.1.trans e
  simp only[Value.string.injEq]at this
  exact(str_ext.1 this).symm
 clear hm hq hx h
 induction es with
 | nil=>cases hp
 | cons q es ih =>
  obtain⟨k',u⟩:=q
  cases hb:eqB k k' with
  | true=>simp[zKM,hb]at hf
  | false =>
   simp only[zKM,hb,cond_false]at hf
   rcases List.mem_cons.1 hp with rfl | hp
   ·rw[hk,zOq]at hb;simp at hb
   ·exact ih hf hp
theorem setB_spec (U:Inj)(n:Nat)(v:V):∀ (es es':List (List UInt8 × V × Nat)) (ents:List MapEntry),zGF U es ents->setB n v es=some es' ->
  ∃ j e,ents.findIdx? (fun e=>decide ((e.born:Int)=(n:Int)))=some j/\ents[j]?=some e/\(∀ e':MapEntry,e'.key=e.key->e'.val=cv U v->e'.born=e.born->zGF U es' (ents.set j e'))/\∀ p ∈ es',p.2.1=v∨p ∈ es:=by
 intro es
 induction es with
 | nil=>intro es' ents _ h;cases h
 | cons p es ih =>
  intro es' ents h hs
  cases ents with
  | nil=>cases h
  | cons e l =>
   simp only[zGF,List.map_cons,List.cons.injEq,Prod.mk.injEq]at h
   obtain⟨⟨h1,h2,h4⟩,h3⟩:=h
   obtain⟨k',v',b'⟩:=p
   simp only at h1 h2 h4
   cases hb:Nat.beq b' n with
   | true =>
    have hn:b'=n:=Nat.eq_of_beq_eq_true hb
    subst hn
    simp only[setB,hb,cond_true,Option.some.injEq]at hs
    subst hs
    refine⟨0,e,by simp[List.findIdx?_cons,h4],rfl,fun e' e1 e2 e3=>?_,fun p hp=>?_⟩
    ·simp only[zGF,List.set_cons_zero,List.map_cons,e1,e2,e3,h1,h4,h3]
    ·rcases List.mem_cons.1 hp with rfl | hp
     ·exact .inl rfl
     ·exact .inr (by simp[hp])
   | false =>
    have hn:b'≠n:=fun e=>by subst e;simp at hb
    simp only[setB,hb,cond_false]at hs
    split at hs
    ·rename_i r hr
     cases hs
     obtain⟨j,e2,x1,x2,x3,x4⟩:=ih _ _ h3 hr
     refine⟨j+1,e2,?_,x2,fun e' e1 e2' e3=>?_,fun p hp=>?_⟩
     ·rw[List.findIdx?_cons,if_neg (by simp only[decide_eq_true_eq];omega),x1];rfl
     ·have:=x3 e' e1 e2' e3
      simp only[zGF]at this
      simp only[zGF,List.set_cons_succ,List.map_cons,h1,h2,h4,this]
     ·rcases List.mem_cons.1 hp with rfl | hp
      ·exact .inr (by simp)
      ·rcases x4 p hp with h | h
       ·exact .inl h
       ·exact .inr (by simp[h])
    ·cases hs
theorem delS_mem {k:List UInt8}:∀ {es:List (List UInt8 × V × Nat)} {p:List UInt8 × V × Nat},p ∈ delS k es->p ∈ es:=by
 intro es
 induction es with
 | nil=>intro p h;exact h
 | cons q es ih =>
  intro p h
  obtain⟨k',u⟩:=q
  cases hb:eqB k k' with
  | true=>simp only[delS,hb,cond_true]at h;simp[h]
  | false =>
   simp only[delS,hb,cond_false,List.mem_cons]at h
   rcases h with rfl | h
   ·simp
   ·simp[ih h]
theorem zKX {ents:Array MapEntry}{j:Nat}{e:MapEntry}(h:ents.toList[j]?=some e)(f:MapEntry->MapEntry):(ents.modify j f).toList=ents.toList.set j (f e):=by
 rw[Array.toList_modify,List.modify_eq_set,h];rfl
theorem erase_toList {ents:Array MapEntry}{j:Nat}{e:MapEntry}(h:ents.toList[j]?=some e):(ents.eraseIdxIfInBounds j).toList=ents.toList.eraseIdx j:=by
 have hjl:j<ents.toList.length:=(List.getElem?_eq_some_iff.1 h).1
 have hjs:j<ents.size:=by simpa using hjl
 unfold Array.eraseIdxIfInBounds
 rw[dif_pos hjs]
 simp
theorem decodeR_eq (s:List UInt8)(pos:Nat)(h:pos<s.length):Utf8.decode ⟨s.toArray⟩ pos=zL8 (s.drop pos):=by
 have hat:∀ k,((ByteArray.mk s.toArray).get! (pos+k)).toNat=((s.drop pos).getD k 0).toNat:=fun k=>by
  rw[get!_list]
  simp[List.getD_eq_getElem?_getD]
 have hsz:(ByteArray.mk s.toArray).size=s.length:=by simp[ByteArray.size]
 have hlt:∀ k,decide (pos+k<s.length)=Nat.blt k (s.drop pos).length:=fun k=>by
  rw[Bool.eq_iff_iff];simp[Nat.blt_eq];omega
 have hble:∀ a b,Nat.ble a b=decide (a<=b):=fun a b=>by rw[Bool.eq_iff_iff];simp[Nat.ble_eq]
 have hblt:∀ a b,Nat.blt a b=decide (a<b):=fun a b=>by rw[Bool.eq_iff_iff];simp[Nat.blt_eq]
 have hbeq:∀ a b:Nat,Nat.beq a b=(a == b):=fun a b=>by rw[Bool.eq_iff_iff];simp[Nat.beq_eq]
 unfold Utf8.decode zL8
 simp only[hat,hsz,hlt,ge_iff_le,valid_eq,Utf8.runeError,hbeq,Bool.cond_eq_ite,hble,hblt,Bool.and_eq_true,decide_eq_true_eq]
theorem freeze_eq (w:World)(b o:Nat)(c:Array Value)(el:TypeId)(lo hi:Nat)(h:w.heap[b]?=some (.cells c el (lo,hi))) :
  w.freeze ⟨b,o,none⟩ 1=zBL w b (.cells c el (if lo == hi then(o,o+1)else(min lo o,max hi (o+1)))):=by
 have:(w.heap.modify b fun
   | .cells c elem (lo,hi)=>.cells c elem (if lo == hi then(o,o+1)else(min lo o,max hi (o+1)))
   | o=>o)=w.heap.setIfInBounds b (.cells c el (if lo == hi then(o,o+1)else(min lo o,max hi (o+1)))):=by
  apply Array.ext_getElem?
  intro i
  have hlt:b<w.heap.size:=(Array.getElem?_eq_some_iff.1 h).1
  by_cases e:b=i
  ·subst e;rw[Array.getElem?_modify,if_pos rfl,h];simp[hlt]
  ·rw[Array.getElem?_setIfInBounds_ne e,Array.getElem?_modify,if_neg e]
 exact congrArg (fun x=>({ w with heap:=x }:World)) this
theorem zJo (w:World)(b o:Nat)(c:Array Value)(el:TypeId)(lo hi:Nat)(h:w.heap[b]?=some (.cells c el (lo,hi))) :
  (markStringish ⟨b,o,none⟩).run P w=.ok () (zBL w b (.cells c el (if lo == hi then(c.size,c.size+1)else(min lo c.size,max hi (c.size+1))))):=by
 have hs:w.shape? b=some (el,c.size):=by simp only[World.shape?,h]
 simp only[markStringish,Sem.run_bind,run_shape,Result.andThen_ok,hs,run_freeze]
 rw[freeze_eq w b c.size c el lo hi h]
theorem eop_sound (hM:MRel U base w0 H w)(op:Go.Op)(o:EOp)(xs:List Operand)(vs:List V)(dst:Option Tmp)(ty:TypeId)(pos:String)(after:Array Edge)(guard:Option (Nat × Bool))
  (ht:trOp P op=some (.e o,xs)) (hx:xs.map I=cvl U vs) (hok:VsOk H vs) (h:∀ Z,zAi o vs H Z≠none) :
  EffOk base w0 U H (zAi o vs H) ((execOp I ⟨dst,op,ty,pos,after,guard⟩).run P w):=by
 cases op <;> simp only[trOp]at ht
 case alloc t =>
  split at ht
  ·rename_i z hz
   cases ht
   have:vs=[]:=by cases vs with | nil=>rfl | cons a l=>simp[cvl]at hx
   subst this
   obtain⟨zv,h1,h2,h3⟩:=zFA (P:=P) (w:=w) U hz
   refine⟨.value (.pointer (some ⟨w.heap.size,0,none⟩)),.ptr H.size 0,w.alloc (.cells zv.cells t),upd U H.size (w.heap.size,0),_,[],?_,.inl ?_,fun Z=>rfl,
    hM.new z z.length true zv.cells t (h3 H) nl (by rw[h2,List.size_toArray,zy];exact Nat.le_refl _) (by rw[h2];exact zKR U z),Ext.upd H U _,Evol.new hM _ _ _,Nat.lt_succ_self _⟩
   ·simp only[execOp,Instr.alloc,Sem.run_bind,h1,Result.andThen_ok,newVar,zFI,Sem.run_pure]
   ·simp only[cv,upd_same]
  ·cases ht
 case box t x =>
  cases ht
  obtain⟨a,rfl,ha⟩:=map1 hx
  refine⟨.value (.pointer (some ⟨w.heap.size,0,none⟩)),.ptr H.size 0,w.alloc (.cells (cv U a).cells t),upd U H.size (w.heap.size,0),_,[],?_,.inl ?_,fun Z=>rfl,
   hM.new a.cells a.cells.length true (cv U a).cells t ?_ nl (by rw[zON,List.size_toArray,zy];exact Nat.le_refl _) (by rw[zON];exact zKR U _),Ext.upd H U _,Evol.new hM _ _ _,Nat.lt_succ_self _⟩
  ·simp only[execOp,ha,Instr.box,Sem.run_bind,newVar,zFI,Result.andThen_ok,Sem.run_pure]
  ·simp only[cv,upd_same]
  ·have:=hok.1
   cases a <;> first | exact this | exact⟨this,trivial⟩
 case buildSlice t len parts =>
  split at ht
  ·rename_i e hu
   split at ht
   ·rename_i z hz
    split at ht
    ·rename_i hc
     obtain⟨hle,he⟩:=hc
     cases ht
     obtain⟨z',d,hz',hzl,hz0,hd⟩:=zID he
     rw[hz]at hz'
     cases hz'
     obtain⟨zv,h1,h2,h3⟩:=zFA (P:=P) (w:=w) U hz
     simp only[zAi,zZ]at h
     cases hf:zM7 (repl len z) (parts.toList.map fun p=>(p.1*P.cellsOf e,P.cellsOf e)) vs with
     | none=>simp only[hf,ne_eq,not_true,forall_const]at h
     | some cs =>
      have hps:∀ l:List (Nat × Operand),zAs (fun i=>some (i*P.cellsOf e,P.cellsOf e)) (l.map (·.1))=some (l.map fun p=>(p.1*P.cellsOf e,P.cellsOf e)):=by
       intro l
       induction l with
       | nil=>rfl
       | cons p l ih=>simp only[List.map_cons,zAs,ih]
      have hfill:=zPB U I (fun i=>some (i*P.cellsOf e,P.cellsOf e)) parts.toList (repl len z) _ vs cs (hps _) hx hf
      obtain⟨c1,c2⟩:=zSF (H:=H) _ _ _ _ (zSP len (h3 H)) hok hf
      have hcl:cs.length=len*P.cellsOf e:=by rw[c2,zGT,hzl]
      have hparts:(parts.map fun(x:Nat × Operand)=>(x.1,I x.2)).toList=parts.toList.map fun(i,x)=>(i,I x):=by simp
      refine⟨.value (.slice (some ⟨w.heap.size,0,none⟩) len len),.sl H.size 0 len len none (P.cellsOf e),w.alloc (.cells (cvl U cs).toArray e),upd U H.size (w.heap.size,0),_,[],?_,.inl ?_,fun Z=>?_,
       hM.new cs (len*P.cellsOf e) false (cvl U cs).toArray e c1 (by rw[hcl];exact Nat.le_refl _) (by rw[List.size_toArray,zy,hcl];exact Nat.le_refl _) (zKR U cs),Ext.upd H U _,Evol.new hM _ _ _,?_⟩
      ·have hbig:¬(len*P.cellsOf e > 2 ^ 24):=by omega
       have hzero:(Array.range (len*P.cellsOf e)).map ((zv.cells)[· % zv.cells.size]!)=(cvl U (repl len z)).toArray:=by
        rw[h2,<- hzl];exact zSD U z len (by omega)
       by_cases h0:len*P.cellsOf e=0
       ·have hr:repl len z=[]:=List.eq_nil_of_length_eq_zero (by rw[zGT,hzl];exact h0)
        rw[hr]at hfill
        simp only[cvl]at hfill
        simp only[execOp,Instr.buildSlice,Sem.run_bind,run_underlying hu,zm e d hd,Result.andThen_ok,h0,if_true,Sem.run_pure]
        simp only[Array.range,gt_iff_lt,Nat.not_lt_zero,if_false,Sem.run_bind,Result.andThen_ok,Sem.run_pure]
        simp only[hparts]
        simp[hfill,zFI]
       ·simp only[execOp,Instr.buildSlice,Sem.run_bind,run_underlying hu,zm e d hd,Result.andThen_ok,hbig,if_false,h0,Sem.run_pure,h1,hzero,hparts,hfill,zFI]
      ·simp only[cv,upd_same,Option.getD_none,Nat.add_zero]
      ·simp only[zAi,zZ,hf];rfl
      ·exact⟨Nat.lt_succ_self _,Nat.le_refl _,fun hh=>by cases hh⟩
    ·cases ht
   ·cases ht
  ·cases ht
 case store t a x =>
  obtain⟨⟨d,hd⟩,ht⟩:=zFF ht
  cases ht
  obtain⟨p,q,rfl,hp,hq⟩:=map2 hx
  simp only[zAi,eStore]at h
  cases p with
  | ptr id off =>
   simp only at h
   cases hn:Nat.beq q.cells.length (P.cellsOf t)with
   | false=>simp only[hn,cond_false,ne_eq,not_true,forall_const]at h
   | true =>
    simp only[hn,cond_true]at h
    cases hst:H.stores id off q.cells with
    | none=>simp only[hst,ne_eq,not_true,forall_const]at h
    | some H1 =>
     have hqc:VsOk H q.cells:=by
      have:=hok.2.1
      cases q <;> first | exact this | exact⟨this,trivial⟩
     obtain⟨w',hr,hM',hev⟩:=hM.stores (P:=P) hqc hst
     refine⟨.skip,.tup [],w',U,H1,[],?_,.inr ⟨rfl,rfl⟩,fun Z=>?_,hM',Ext.refl _ _,hev,trivial⟩
     ·have hsz:(cv U q).cells.size=P.cellsOf t:=by rw[zON,List.size_toArray,zy];exact Nat.eq_of_beq_eq_true hn
      simp only[execOp,hp,hq,cv,Instr.storeAt,Instr.sureAddr,storeVar,Sem.run_bind,Sem.run_pure,Result.andThen_ok,zm t d hd,hsz,ne_eq,not_true,if_false]
      rw[zON]
      simp only[hr,Result.andThen_ok]
      first | rfl | skip
     ·simp only[zAi,eStore,hn,cond_true,hst];rfl
  | _=>simp at h
 case makeSlice t l c =>
  split at ht
  ·rename_i e hu
   split at ht
   ·rename_i z hz
    split at ht
    ·rename_i he
     cases ht
     obtain⟨z',d,hz',hzl,hz0,hd⟩:=zID he
     rw[hz]at hz'
     cases hz'
     obtain⟨zv,h1,h2,h3⟩:=zFA (P:=P) (w:=w) U hz
     obtain⟨p,q,rfl,hp,hq⟩:=map2 hx
     simp only[zAi,zFL]at h
     cases p with
     | int k1 x1 =>
      cases q with
      | int k2 x2 =>
       simp only at h
       cases hn1:zNC x1 with
       | none=>simp only[hn1,ne_eq,not_true,forall_const]at h
       | some L =>
        cases hn2:zNC x2 with
        | none=>simp only[hn1,hn2,ne_eq,not_true,forall_const]at h
        | some K =>
         simp only[hn1,hn2]at h
         cases hb:(Nat.ble L K && (Nat.ble (K*P.bytesOf e) 140737488355328 && Nat.ble K 140737488355328))with
         | false=>simp only[hb,cond_false,ne_eq,not_true,forall_const]at h
         | true =>
          have hb':=hb
          simp only[Bool.and_eq_true]at hb'
          have b1:=Nat.le_of_ble_eq_true hb'.1
          have b2:=Nat.le_of_ble_eq_true hb'.2.1
          have b3:=Nat.le_of_ble_eq_true hb'.2.2
          have e1:=zGY hn1
          have e2:=zGY hn2
          subst e1 e2
          obtain⟨i,hi,hbytes⟩:=zQl hd w
          have w1:IntKind.i64.wrap (L:Int)=L:=IntWalk.i64_in _ (by omega)
          have w2:IntKind.i64.wrap (K:Int)=K:=IntWalk.i64_in _ (by omega)
          have hzeros:(Array.range (K*P.cellsOf e)).map ((zv.cells)[· % zv.cells.size]!)=(cvl U (repl K z)).toArray:=by
           rw[h2,<- hzl];exact zSD U z K (by omega)
          refine⟨.value (.slice (some ⟨w.heap.size,0,none⟩) L K),.sl H.size 0 L K none (P.cellsOf e),w.alloc (.cells (cvl U (repl K z)).toArray e),upd U H.size (w.heap.size,0),_,[],?_,.inl ?_,fun Z=>?_,
           hM.new (repl K z) (K*P.cellsOf e) false (cvl U (repl K z)).toArray e (zSP K (h3 H)) (by rw[zGT,hzl];exact Nat.le_refl _) (by rw[List.size_toArray,zy,zGT,hzl];exact Nat.le_refl _) (zKR U _),Ext.upd H U _,Evol.new hM _ _ _,?_⟩
          ·have hK:((P.bytesOf e:Nat):Int)*(K:Int)=((K*P.bytesOf e:Nat):Int):=by rw[Nat.mul_comm];exact(Int.natCast_mul _ _).symm
           have t1:(decide ((K:Int)<0) || decide (((P.bytesOf e:Nat):Int)*(K:Int) > 2 ^ 48))=false:=by
            rw[hK]
            simp only[Bool.or_eq_false_iff,decide_eq_false_iff_not]
            exact⟨by omega,by omega⟩
           have t2:¬((L:Int)<0):=by omega
           have t3:¬((L:Int) >(K:Int)):=by omega
           simp only[execOp,hp,hq,cv,Instr.makeSlice,asInt,asIntOf,Sem.run_bind,run_underlying hu,Sem.run_pure,Result.andThen_ok,hi,hbytes,w1,w2,t1,t2,t3,decide_false,Bool.or_false,Bool.false_eq_true,if_false,run_askRoom,zm e d hd,Int.toNat_natCast]
           by_cases h0:K*P.cellsOf e=0
           ·have hr:repl K z=[]:=List.eq_nil_of_length_eq_zero (by rw[zGT,hzl];exact h0)
            simp[h0,hr,cvl,zFI,Go.Array.range_zero']
           ·simp only[h0,if_false,Sem.run_bind,h1,Result.andThen_ok,Sem.run_pure,hzeros,zFI]
          ·simp only[cv,upd_same,Option.getD_none,Nat.add_zero]
          ·simp only[zAi,zFL,hn1,hn2,hb,cond_true];rfl
          ·exact⟨Nat.lt_succ_self _,b1,fun hh=>by cases hh⟩
      | _=>simp at h
     | _=>cases q <;> simp at h
    ·cases ht
   ·cases ht
  ·cases ht
 case convert s t x =>
  split at ht
  ·cases ht
  ·cases ht
  ·cases ht
  ·rename_i e hs hk
   split at ht
   ·rename_i hc
    obtain⟨hu8,hce⟩:=hc
    cases ht
    obtain⟨a,rfl,ha⟩:=map1 hx
    have he:P.underlying e=some (.int .u8):=by
     unfold u8T at hu8
     split at hu8
     ·rename_i hh;exact hh
     ·cases hu8
    simp only[zAi,zBU]at h
    cases a with
    | str st =>
     simp only at h
     cases hn:Nat.ble st.length 140737488355328 with
     | false=>simp only[hn,cond_false,ne_eq,not_true,forall_const]at h
     | true =>
      have hn':=Nat.le_of_ble_eq_true hn
      obtain⟨t0,htc⟩:=zNU (P:=P) (w:=w) st.length 0 e
      have hbytes:((ByteArray.mk st.toArray).data.map fun b=>Value.int .u8 (b.toNat:Int))=(cvl U (st.map fun c=>V.int .u8 (.ofNat c.toNat))).toArray:=by
       apply Array.ext'
       simp only[zMf,List.map_map]
       simp
       try (intro a _;rfl)
      have hsz:(ByteArray.mk st.toArray).size=st.length:=by simp[ByteArray.size]
      obtain⟨m1,m2,m3,m4⟩:=hM.drew.fresh (st.map fun c=>V.int .u8 (.ofNat c.toNat)) st.length 1 t0
       ((cvl U (st.map fun c=>V.int .u8 (.ofNat c.toNat))).toArray++Array.replicate (spare st.length t0) (.int .u8 0)) e
       (by rw[zw];intro v hv;rw[List.mem_map]at hv;obtain⟨c,_,rfl⟩:=hv;trivial) (by simp) hn'
       (by simp[zy]) (fun j v hv=>by
        rw[Array.getElem?_append_left (by have:=(List.getElem?_eq_some_iff.1 hv).1;simpa [zy] using this)]
        exact zKR U _ j v hv)
      have hsz2:((cvl U (st.map fun c=>V.int .u8 (.ofNat c.toNat))).toArray++Array.replicate (spare st.length t0) (Value.int .u8 0)).size=st.length+spare st.length t0:=by simp[zy]
      have hnew:=heap_alloc_new w.drew (.cells ((cvl U (st.map fun c=>V.int .u8 (.ofNat c.toNat))).toArray++Array.replicate (spare st.length t0) (Value.int .u8 0)) e)
      have hmark:=m1.mark (lo':=st.length+spare st.length t0) (hi':=st.length+spare st.length t0+1) hnew (hM.below.free hM.base_le) (.inr (by rw[hsz2];exact Nat.le_refl _)) (fun i cs1 r1 f1 v1 s1 fr1 la1 hi hfi hvi e=>by
       by_cases ei:i=H.size
       ·subst ei
        have hi:(H.new _ _ false).blk.get H.size=_:=hi
        rw[zb]at hi
        cases hi
       ·have hi:(H.new _ _ false).blk.get i=_:=hi
        rw[za ei]at hi
        have hf1:=(hM.fam _ _ _ _ _ _ _ _ hi).1
        have hfi:(H.new _ _ false).fams.get f1=_:=hfi
        rw[zDL,if_neg (by omega)]at hfi
        have:=(hM.ok _ _ _ _ _ _ _ _ _ _ hi hfi hvi).block_lt
        rw[upd_ne U _ ei]at e
        have e:(U i).1=w.heap.size:=e
        omega)
      refine⟨.value (.slice (some ⟨w.heap.size,0,none⟩) st.length (st.length+spare st.length t0)),_,_,_,_,[t0],?_,.inl (by rw[m4];rfl),fun Z=>?_,hmark,Ext.upd H U _,m2,m3⟩
      ·simp only[execOp,ha,cv,convert,Sem.run_bind,run_underlying hs,run_underlying hk,run_underlying he,Result.andThen_ok,Conv.stringToBytes,hsz,htc,hbytes,Nat.add_sub_cancel_left,zFI]
       rw[zJo _ _ _ _ _ _ _ hnew]
       simp only[hsz2,Result.andThen_ok,Sem.run_pure]
       rfl
      ·simp only[zAi,zBU,hn,cond_true]
       rfl
    | _=>simp at h
   ·cases ht
  ·rename_i e2 e hs hk
   split at ht
   ·rename_i hc
    obtain⟨hu8,hst⟩:=hc
    cases ht
    obtain⟨a,rfl,ha⟩:=map1 hx
    have he:P.underlying e=some (.int .u8):=by
     unfold u8T at hu8
     split at hu8
     ·rename_i hh;exact hh
     ·cases hu8
    simp only[zAi,eMark]at h
    cases a with
    | sl id off len lo ex z =>
     simp only at h
     cases hg:H.blk.get id with
     | none=>simp only[hg,ne_eq,not_true,forall_const]at h
     | some blk =>
      cases blk with
      | iter s p=>simp only[hg,ne_eq,not_true,forall_const]at h
      | mapb es clk=>simp only[hg,ne_eq,not_true,forall_const]at h
      | gone=>simp only[hg,ne_eq,not_true,forall_const]at h
      | mem cs room fam ver wr pl st =>
       cases wr with
       | false=>simp only[hg,ne_eq,not_true,forall_const]at h
       | true =>
        cases pl with
        | true=>simp only[hg,ne_eq,not_true,forall_const]at h
        | false =>
         simp only[hg]at h
         cases hf:H.fams.get fam with
         | none=>simp only[hf,ne_eq,not_true,forall_const]at h
         | some fl =>
          obtain⟨fr,la⟩:=fl
          simp only[hf]at h
          cases hv:Nat.ble fr ver with
          | false=>simp only[hv,cond_false,ne_eq,not_true,forall_const]at h
          | true =>
           obtain⟨c,el,blo,bhi,b1,b2,b3,b4⟩:=hM.ok _ _ _ _ _ _ _ _ _ _ hg hf (Nat.le_of_ble_eq_true hv)
           obtain⟨b5,b6⟩:=b4 rfl
           have hmr:=zJo (P:=P) w (U id).1 ((U id).2+off) c el blo bhi b1
           have hnp:∀ i cs1 r1 f1 v1 s1 fr1 la1,H.blk.get i=some (.mem cs1 r1 f1 v1 true true s1)->H.fams.get f1=some (fr1,la1)->fr1<=v1->(U i).1≠(U id).1:=fun i cs1 r1 f1 v1 s1 fr1 la1 hi hfi hvi e=>by
            have ef:=hM.sep _ _ _ _ _ _ _ _ _ _ _ _ _ _ _ _ _ _ _ hg hf (Nat.le_of_ble_eq_true hv) hi hfi hvi e.symm
            subst ef
            have:=hM.plfam _ _ _ _ _ _ _ _ _ _ _ _ _ _ _ hg hi
            cases this
           have hmark:MRel U base w0 H (zBL w (U id).1 (.cells c el (if blo == bhi then(c.size,c.size+1)else(min blo c.size,max bhi (c.size+1))))):=by
            by_cases e1:blo=bhi
            ·have:(blo == bhi)=true:=by simpa using e1
             rw[this,if_pos rfl]
             exact hM.mark b1 ⟨b5,hM.gh _ _ _ _ _ _ _ _ _ _ hg hf (Nat.le_of_ble_eq_true hv)⟩ (.inr nl) hnp
            ·have:(blo == bhi)=false:=by simpa using e1
             rw[this]
             exact hM.mark b1 ⟨b5,hM.gh _ _ _ _ _ _ _ _ _ _ hg hf (Nat.le_of_ble_eq_true hv)⟩ (.inr (by rcases b6 with h6 | h6 <;> omega)) hnp
           refine⟨.value (cv U (.sl id off len lo ex z)),_,_,U,H,[],?_,.inl rfl,fun Z=>?_,hmark,Ext.refl _ _,Evol.refl _,hok.1⟩
           ·simp only[execOp,ha,cv,convert,Sem.run_bind,run_underlying hk,run_underlying he,Result.andThen_ok,hst,beq_self_eq_true,hmr,Sem.run_pure]
           ·simp only[zAi,eMark,hg,hf,hv,cond_true];rfl
    | _=>simp at h
   ·cases ht
  ·split at ht <;> cases ht
  ·cases ht
 case range t x =>
  split at ht
  ·rename_i hu
   cases ht
   obtain⟨a,rfl,ha⟩:=map1 hx
   simp only[zAi,eRange]at h
   cases a with
   | str s =>
    refine⟨.value (.pointer (some ⟨w.heap.size,0,none⟩)),.ptr H.size 0,w.alloc (.stringIter ⟨s.toArray⟩ 0),upd U H.size (w.heap.size,0),iterNew H s,[],?_,.inl ?_,fun Z=>rfl,hM.iterNew s,Ext.upd H U _,Evol.iterNew hM s,Nat.lt_succ_self _⟩
    ·simp only[execOp,ha,cv,Instr.range,Sem.run_bind,run_underlying hu,Result.andThen_ok,Sem.run_pure,run_newObj]
     rfl
    ·simp only[cv,upd_same]
   | _=>simp at h
  ·cases ht
 case next x b =>
  cases b <;> simp only at ht <;> first | (cases ht;done) | skip
  cases ht
  obtain⟨a,rfl,ha⟩:=map1 hx
  simp only[zAi,eNext]at h
  split at h
  ·rename_i id heq
   cases heq
   cases hg:H.blk.get id with
   | none=>simp only[hg,ne_eq,not_true,forall_const]at h
   | some blk =>
    cases blk with
    | mem cs room fam ver wr pl st=>simp only[hg,ne_eq,not_true,forall_const]at h
    | gone=>simp only[hg,ne_eq,not_true,forall_const]at h
    | mapb es clk=>simp only[hg,ne_eq,not_true,forall_const]at h
    | iter s p =>
     obtain⟨i1,i2,i3⟩:=hM.iter _ _ _ hg
     have hsz:(ByteArray.mk s.toArray).size=s.length:=by simp[ByteArray.size]
     have hget:(getObj (U id).1).run P w=.ok (.stringIter ⟨s.toArray⟩ p) w:=by simp[getObj,Sem.run,i3]
     cases hp:Nat.blt p s.length with
     | false =>
      have hlt:¬ p<s.length:=by
       intro hlt
       have:Nat.blt p s.length=true:=by simpa [Nat.blt_eq] using hlt
       rw[this]at hp;cases hp
      refine⟨.value (.tuple #[.bool false]),.tup [.bool false],w,U,H,[],?_,.inl rfl,fun Z=>?_,hM,Ext.refl _ _,Evol.refl _,⟨trivial,trivial⟩⟩
      ·simp only[execOp,ha,cv,i2,Instr.next,Sem.run_bind,hget,Result.andThen_ok,hsz,hlt,if_false,Sem.run_pure,Nat.add_zero]
      ·simp only[zAi,eNext,hg,hp,cond_false];rfl
     | true =>
      have hlt:p<s.length:=by simpa [Nat.blt_eq] using hp
      have hdec:=decodeR_eq s p hlt
      have hset:(setObj (U id).1 (.stringIter ⟨s.toArray⟩ (p+(zL8 (s.drop p)).2))).run P w=.ok () (zBL w (U id).1 (.stringIter ⟨s.toArray⟩ (p+(zL8 (s.drop p)).2))):=by
       simp[setObj,Sem.run,i3,zBL]
      refine⟨.value (.tuple #[.bool true,.int .i64 (p:Nat),.int .i32 ((zL8 (s.drop p)).1:Nat)]),.tup [.bool true,.int .i64 (.ofNat p),.int .i32 (.ofNat (zL8 (s.drop p)).1)],_,U,zBZ H id s (p+(zL8 (s.drop p)).2),[],?_,.inl rfl,fun Z=>?_,
       hM.iterSet hg _,Ext.refl _ _,Evol.iterSet hg,⟨trivial,trivial,trivial,trivial⟩⟩
      ·simp only[execOp,ha,cv,i2,Instr.next,Sem.run_bind,hget,Result.andThen_ok,hsz,hlt,if_true,Sem.run_pure,Nat.add_zero,hdec]
       simp only[hset,Result.andThen_ok,goInt]
      ·simp only[zAi,eNext,hg,hp,cond_true,zBG];rfl
  ·simp at h
 case call c =>
  split at ht
  ·split at ht <;> cases ht
  ·cases ht
  ·rename_i b hc
   split at ht
   ·rename_i o' hb
    cases ht
    have hargs:c.args.map I=(cvl U vs).toArray:=by
     rw[<- hx,<- Array.toList_map]
    have hres:∀ (S:Sem Value) (r:Value) (w':World),(∀ cs,builtin b c.argTypes ty cs (cvl U vs).toArray=(do pure (.value (<- S))))->S.run P w=.ok r w' ->
      (execOp I ⟨dst,.call c,ty,pos,after,guard⟩).run P w=.ok (.value r) w':=by
     intro S r w' hS hr
     simp only[execOp,resolve,hc,Sem.run_bind,Sem.run_pure,Result.andThen_ok,hargs,invoke]
     rw[hS]
     simp only[Sem.run_bind,hr,Result.andThen_ok,Sem.run_pure]
    unfold zJl at hb
    split at hb
    ·split at hb <;> first | (cases hb;done) | (split at hb <;> cases hb)
    ·split at hb <;> cases hb
    ·-- append
     rename_i t u hty
     have hty0:c.argTypes[0]?=some t:=by rw[<- Array.getElem?_toList,hty];rfl
     have hty1:c.argTypes[1]?=some u:=by rw[<- Array.getElem?_toList,hty];rfl
     have app:∀ (e:TypeId),zLj P e=true->P.underlying t=some (.slice e)->(∃ d,P.underlying u=some d/\∀ k,d≠.int k)->o=.append (P.cellsOf e) (P.bytesOf e) ->
       EffOk base w0 U H (zAi o vs H) ((execOp I ⟨dst,.call c,ty,pos,after,guard⟩).run P w):=by
      rintro e he hu hu2 rfl
      simp only[zAi,zAj]at h
      split at h
      ·rename_i s x
       cases hl:zHg x with
       | none=>simp only[hl,ne_eq,not_true,forall_const]at h
       | some n =>
        cases hsr:zDg H (P.cellsOf e) n x with
        | none=>simp only[hl,hsr,ne_eq,not_true,forall_const]at h
        | some new =>
         simp only[hl,hsr]at h
         obtain⟨v,w',U',H',pre,a1,a2,a3,a4,a5,a6⟩:=append_sound (ty:=ty) hM he hty0 hty1 hu hu2 hok.1 hl hsr h
         refine⟨_,v,w',U',H',pre,hres _ _ w' (fun cs=>?_) a1,.inl rfl,fun Z=>?_,a3,a4,a5,a6⟩
         ·simp only[builtin,cvl]
         ·simp only[zAi,zAj,hl,hsr];exact a2 Z
      ·simp at h
     split at hb
     ·rename_i e e2 hu hu2
      split at hb
      ·rename_i he
       cases hb
       exact app e he hu ⟨_,hu2,fun k hk=>by cases hk⟩ rfl
      ·cases hb
     ·rename_i e hu hu2
      split at hb
      ·rename_i he
       cases hb
       exact app e he.1 hu ⟨_,hu2,fun k hk=>by cases hk⟩ rfl
      ·cases hb
     ·cases hb
    ·-- copy
     rename_i t u hty
     have hty0:c.argTypes[0]?=some t:=by rw[<- Array.getElem?_toList,hty];rfl
     have cop:∀ (e:TypeId),zLj P e=true->P.underlying t=some (.slice e)->o=.copy (P.cellsOf e) ->
       EffOk base w0 U H (zAi o vs H) ((execOp I ⟨dst,.call c,ty,pos,after,guard⟩).run P w):=by
      rintro e he hu rfl
      obtain⟨zl,d,hz,hzl,hz0,hd⟩:=zID he
      simp only[zAi,zQs]at h
      split at h
      ·rename_i dd x
       cases hl:zHg x with
       | none=>simp only[hl,ne_eq,not_true,forall_const]at h
       | some n =>
        simp only[hl]at h
        have hlenr:=srcLen_ok (P:=P) (U:=U) hl w
        cases dd with
        | nils =>
         refine⟨.value (.int .i64 0),.int .i64 0,w,U,H,[],hres _ _ w (fun cs=>rfl) ?_,.inl rfl,fun Z=>?_,hM,Ext.refl _ _,Evol.refl _,trivial⟩
         ·have hf0:(Builtin.firstCells (P.cellsOf e) 0 (cv U x)).run P w=.ok #[] w:=by
           cases x <;> simp only[zHg,reduceCtorEq]at hl
           ·simp[cv,Builtin.firstCells]
           ·simp[cv,Builtin.firstCells,loadCells,loadCellsFrom]
           ·rfl
          simp only[Builtin.copy_,hty0,cvl,cv,List.getElem?_toArray,List.getElem?_cons_zero,List.getElem?_cons_succ,Sem.run_bind,run_underlying hu,Result.andThen_ok,hlenr,zm e d hd,Nat.min_zero,hf0,Sem.run_pure]
          simp[goInt]
         ·simp only[zAi,zQs,hl];rfl
        | sl id off len lo ex z' =>
         simp only at h
         cases hzz:Nat.beq (P.cellsOf e) z' with
         | false=>simp only[hzz,cond_false,ne_eq,not_true,forall_const]at h
         | true =>
          have hzz':=Nat.eq_of_beq_eq_true hzz
          subst hzz'
          simp only[hzz,cond_true]at h
          have hmin:(bif Nat.ble n len then n else len)=Nat.min n len:=by
           cases hb2:Nat.ble n len with
           | true=>have:=Nat.le_of_ble_eq_true hb2;simp only[cond_true];exact(Nat.min_eq_left this).symm
           | false =>
            have:len<n:=by
             rcases Nat.lt_or_ge len n with hh | hh
             ·exact hh
             ·rw[Nat.ble_eq_true_of_le hh]at hb2;cases hb2
            simp only[cond_false];exact(Nat.min_eq_right (by omega)).symm
          rw[hmin]at h
          cases hsr:zDg H (P.cellsOf e) (Nat.min n len) x with
          | none=>simp only[hsr,ne_eq,not_true,forall_const]at h
          | some new =>
           simp only[hsr]at h
           cases hst:H.stores id off new with
           | none=>simp only[hst,ne_eq,not_true,forall_const]at h
           | some H1 =>
            obtain⟨hfirst,hnew,_⟩:=hM.src (P:=P) hsr (fun m hm=>by rw[hl]at hm;cases hm;exact Nat.min_le_left _ _)
            obtain⟨w',hr,hM',hev⟩:=hM.stores (P:=P) hnew hst
            refine⟨.value (.int .i64 (Nat.min n len:Nat)),.int .i64 (.ofNat (Nat.min n len)),w',U,H1,[],hres _ _ w' (fun cs=>rfl) ?_,.inl rfl,fun Z=>?_,hM',Ext.refl _ _,hev,trivial⟩
            ·simp only[Builtin.copy_,hty0,cvl,cv,List.getElem?_toArray,List.getElem?_cons_zero,List.getElem?_cons_succ,Sem.run_bind,run_underlying hu,Result.andThen_ok,hlenr,zm e d hd,hfirst,hr,Sem.run_pure,goInt]
            ·simp only[zAi,zQs,hl,hzz,cond_true,hmin,hsr,hst];rfl
        | _=>simp at h
      ·simp at h
     split at hb
     ·rename_i e e2 hu hu2
      split at hb
      ·rename_i he
       cases hb
       exact cop e he hu rfl
      ·cases hb
     ·rename_i e hu hu2
      split at hb
      ·rename_i he
       cases hb
       exact cop e he.1 hu rfl
      ·cases hb
     ·cases hb
    ·-- clear
     rename_i t hty
     have hty0:c.argTypes[0]?=some t:=by rw[<- Array.getElem?_toList,hty];rfl
     split at hb
     ·rename_i e hu
      split at hb
      ·rename_i z hz
       split at hb
       ·rename_i he
        cases hb
        obtain⟨z',d,hz',hzl,hz0,hd⟩:=zID he
        rw[hz]at hz'
        cases hz'
        obtain⟨zv,h1,h2,h3⟩:=zFA (P:=P) (w:=w) U hz
        simp only[zAi,eClear]at h
        split at h
        ·refine⟨.value (.tuple #[]),.tup [],w,U,H,[],hres _ _ w (fun cs=>rfl) ?_,.inl rfl,fun Z=>rfl,hM,Ext.refl _ _,Evol.refl _,trivial⟩
         simp only[Builtin.clear_,hty0,cvl,cv,List.getElem?_toArray,List.getElem?_cons_zero,Sem.run_bind,run_underlying hu,Result.andThen_ok,Sem.run_pure]
        ·rename_i id off len lo ex z'
         cases hzz:(Nat.beq (P.cellsOf e) z' && Nat.beq z.length (P.cellsOf e))with
         | false=>simp only[hzz,cond_false,ne_eq,not_true,forall_const]at h
         | true =>
          simp only[hzz,cond_true]at h
          cases hst:H.stores id off (repl len z)with
          | none=>simp only[hst,ne_eq,not_true,forall_const]at h
          | some H1 =>
           obtain⟨w',hr,hM',hev⟩:=hM.stores (P:=P) (zSP len (h3 H)) hst
           refine⟨.value (.tuple #[]),.tup [],w',U,H1,[],hres _ _ w' (fun cs=>rfl) ?_,.inl rfl,fun Z=>?_,hM',Ext.refl _ _,hev,trivial⟩
           ·have hzeros:Builtin.zeroCells zv.cells len=(cvl U (repl len z)).toArray:=by
             have:=zSD U z len (by omega)
             rw[<- this,h2]
             simp only[Builtin.zeroCells,List.size_toArray,zy]
            cases len with
            | zero =>
             have hw:w'=w:=by
              simp only[repl,List.replicate_zero,List.flatten_nil,cvl,storeCells,Sem.run_pure]at hr
              injection hr with _ hr
              exact hr.symm
             subst hw
             simp only[Builtin.clear_,hty0,cvl,cv,List.getElem?_toArray,List.getElem?_cons_zero,Sem.run_bind,run_underlying hu,Result.andThen_ok,Sem.run_pure]
            | succ n =>
             simp only[Builtin.clear_,hty0,cvl,cv,List.getElem?_toArray,List.getElem?_cons_zero,Sem.run_bind,run_underlying hu,Result.andThen_ok,h1,hzeros,hr,Sem.run_pure]
           ·simp only[zAi,eClear,hzz,cond_true,hst];rfl
        ·simp at h
       ·cases hb
      ·cases hb
     ·cases hb
    ·-- delete
     rename_i t u hty
     have hty0:c.argTypes[0]?=some t:=by rw[<- Array.getElem?_toList,hty];rfl
     split at hb
     ·rename_i e he
      cases hb
      obtain⟨kt,hu,hk⟩:=zKY he
      simp only[zAi,eMdel]at h
      split at h
      ·rename_i k
       refine⟨.value (.tuple #[]),.tup [],w,U,H,[],hres _ _ w (fun cs=>rfl) ?_,.inl rfl,fun Z=>rfl,hM,Ext.refl _ _,Evol.refl _,trivial⟩
       have hck:=fun b=>MapKept.run_checkKey (P:=P) (w:=w) hk (k:=.string ⟨k.toArray⟩) trivial b 9999
       simp only[Builtin.delete_,hty0,cvl,cv,List.getElem?_toArray,List.getElem?_cons_zero,List.getElem?_cons_succ,Sem.run_bind,run_underlying hu,Result.andThen_ok,hck,Sem.run_pure]
      ·rename_i id k
       cases hg:H.blk.get id with
       | none=>simp only[hg,ne_eq,not_true,forall_const]at h
       | some blk =>
        cases blk with
        | mem cs room fam ver wr pl st=>simp only[hg,ne_eq,not_true,forall_const]at h
        | gone=>simp only[hg,ne_eq,not_true,forall_const]at h
        | iter s p=>simp only[hg,ne_eq,not_true,forall_const]at h
        | mapb es clk =>
         cases clk with
         | none=>simp only[hg,ne_eq,not_true,forall_const]at h
         | some cl =>
          obtain⟨_,⟨ents,clock,b1,b2⟩,b3⟩:=hM.maps _ _ _ hg
          have hst:=b2.stamped
          have hck:=fun b=>MapKept.run_checkKey (P:=P) (w:=w) hk (k:=.string ⟨k.toArray⟩) trivial b 9999
          rcases zOC U k .nilm 0 es ents.toList 0 (b2.rows _ rfl).2 with⟨f1,_,_,f3⟩ | ⟨j,u',e',vb,f1,_,_,_,f2,f3,_,f5⟩
          ·refine⟨.value (.tuple #[]),.tup [],_,U,zDz H id (delS k es) (some cl),[],hres _ _ (zBL w (U id).1 (.map ents clock)) (fun cs=>rfl) ?_,.inl rfl,fun Z=>?_,hM.mapSet hg clock (by rw[f3];exact b2) (fun p hp=>b3 p (delS_mem hp)),Ext.refl _ _,Evol.mapSet hg,trivial⟩
           ·simp only[Builtin.delete_,hty0,cvl,cv,List.getElem?_toArray,List.getElem?_cons_zero,List.getElem?_cons_succ,Sem.run_bind,run_underlying hu,Result.andThen_ok]
            rw[MapKept.run_getObj_map b1]
            simp only[Result.andThen_ok,Sem.run_bind,hck,MapKept.run_findKey hk f1]
            rw[MapKept.run_setObj_map _ b1]
            rfl
           ·simp only[zAi,eMdel,hg];rfl
          ·have hrel:MapR U (delS k es) (some cl) (ents.eraseIdxIfInBounds (0+j)) clock :=
            ⟨MapKept.stamped_erase hst _,fun c hc=>⟨(b2.rows c hc).1,by rw[Nat.zero_add,erase_toList f2];exact f5⟩,fun hc=>by cases hc⟩
           refine⟨.value (.tuple #[]),.tup [],_,U,zDz H id (delS k es) (some cl),[],hres _ _ (zBL w (U id).1 (.map (ents.eraseIdxIfInBounds (0+j)) clock)) (fun cs=>rfl) ?_,.inl rfl,fun Z=>?_,hM.mapSet hg clock hrel (fun p hp=>b3 p (delS_mem hp)),Ext.refl _ _,Evol.mapSet hg,trivial⟩
           ·simp only[Builtin.delete_,hty0,cvl,cv,List.getElem?_toArray,List.getElem?_cons_zero,List.getElem?_cons_succ,Sem.run_bind,run_underlying hu,Result.andThen_ok]
            rw[MapKept.run_getObj_map b1]
            simp only[Result.andThen_ok,Sem.run_bind,hck,MapKept.run_findKey hk f1]
            rw[MapKept.run_setObj_map _ b1]
            rfl
           ·simp only[zAi,eMdel,hg];rfl
      ·simp at h
     ·cases hb
    ·cases hb
    ·cases hb
    ·cases hb
   ·cases ht
  ·cases ht
 case makeMap t r =>
  cases r <;> simp only at ht <;> first | (cases ht;done) | skip
  cases ht
  have hvs:vs=[]:=by
   cases vs with
   | nil=>rfl
   | cons a l=>simp[cvl]at hx
  subst hvs
  refine⟨.value (.map (some w.heap.size)),.map H.size,w.alloc (.map #[] 0),upd U H.size (w.heap.size,0),mapNew H,[],?_,.inl ?_,fun Z=>rfl,hM.mapNew,Ext.upd H U _,Evol.mapNew hM,Nat.lt_succ_self _⟩
  ·simp only[execOp,Option.map,Instr.makeMap,Sem.run_bind,Result.andThen_ok,Sem.run_pure,run_newObj]
   rfl
  ·simp only[cv,upd_same]
 case mapUpdate t m kk x =>
  split at ht
  ·rename_i e he
   cases ht
   obtain⟨kt,hu,hk⟩:=zKY he
   obtain⟨a,b,c,rfl,ha,hb,hc⟩:=map3 hx
   simp only[zAi,eMput]at h
   split at h
   ·rename_i id k v heq
    cases heq
    cases hg:H.blk.get id with
    | none=>simp only[hg,ne_eq,not_true,forall_const]at h
    | some blk =>
     cases blk with
     | mem cs room fam ver wr pl st=>simp only[hg,ne_eq,not_true,forall_const]at h
     | gone=>simp only[hg,ne_eq,not_true,forall_const]at h
     | iter s p=>simp only[hg,ne_eq,not_true,forall_const]at h
     | mapb es clk =>
      cases clk with
      | none=>simp only[hg,ne_eq,not_true,forall_const]at h
      | some cl =>
       obtain⟨_,⟨ents,clock,b1,b2⟩,b3⟩:=hM.maps _ _ _ hg
       obtain⟨rfl,b5⟩:=b2.rows _ rfl
       have hst:=b2.stamped
       have hck:=fun b=>MapKept.run_checkKey (P:=P) (w:=w) hk (k:=.string ⟨k.toArray⟩) trivial b 9999
       have hv:∀ p ∈ putS k c clock es,VOk H p.2.1:=fun p hp=>by
        rcases putS_mem hp with h1 | h1
        ·rw[h1];exact hok.2.2.1
        ·exact b3 p h1
       rcases zOC U k c clock es ents.toList 0 b5 with⟨f1,g1,f2,_⟩ | ⟨j,u',e',vb,f1,g1,g2,g3,f2,f3,f4,_⟩
       ·have hrel:MapR U (putS k c clock es) (some (clock+1)) (ents.push { key:=.string ⟨k.toArray⟩,val:=cv U c,born:=clock }) (clock+1) :=
         ⟨MapKept.stamped_push hst (zPk b5 g1),fun c' hc=>⟨Option.some.inj hc,by rw[Array.toList_push];exact f2 _ rfl rfl rfl⟩,fun hc=>by cases hc⟩
        refine⟨.skip,.tup [],_,U,zDz H id (putS k c clock es) (some (clock+1)),[],(?_:_=Result.ok _ (zBL w (U id).1 (.map (ents.push { key:=.string ⟨k.toArray⟩,val:=cv U c,born:=clock }) (clock+1)))),.inr ⟨rfl,rfl⟩,fun Z=>?_,hM.mapSet hg (clock+1) hrel hv,Ext.refl _ _,Evol.mapSet hg,trivial⟩
        ·simp only[execOp,ha,hb,hc,cv,Instr.mapUpdate,Sem.run_bind,run_underlying hu,Result.andThen_ok]
         rw[MapKept.run_getObj_map b1]
         simp only[Result.andThen_ok,Sem.run_bind,hck,MapKept.run_findKey hk f1]
         rw[MapKept.run_setObj_map _ b1]
         rfl
        ·simp only[zAi,eMput,hg,newS,g1,zBG];rfl
       ·have hkey:((ents[0+j]?).map (·.key)).getD (.string ⟨k.toArray⟩)=.string ⟨k.toArray⟩:=by
         rw[Nat.zero_add,<- Array.getElem?_toList,f2];exact f3
        have hrel:MapR U (putS k c clock es) (some clock) (ents.modify (0+j) fun e=>{ e with key:=.string ⟨k.toArray⟩,val:=cv U c }) clock :=
         ⟨MapKept.stamped_modify hst _ _ (fun _ _=>rfl) (fun e _ he=>by
           rw[Nat.zero_add,<- Array.getElem?_toList,f2]at he;cases he;exact f3.symm),fun c' hc=>⟨Option.some.inj hc,by rw[Nat.zero_add,zKX f2];exact f4 _ rfl rfl rfl⟩,fun hc=>by cases hc⟩
        refine⟨.skip,.tup [],_,U,zDz H id (putS k c clock es) (some clock),[],(?_:_=Result.ok _ (zBL w (U id).1 (.map (ents.modify (0+j) fun e=>{ e with key:=.string ⟨k.toArray⟩,val:=cv U c }) clock))),.inr ⟨rfl,rfl⟩,fun Z=>?_,hM.mapSet hg clock hrel hv,Ext.refl _ _,Evol.mapSet hg,trivial⟩
        ·simp only[execOp,ha,hb,hc,cv,Instr.mapUpdate,Sem.run_bind,run_underlying hu,Result.andThen_ok]
         rw[MapKept.run_getObj_map b1]
         simp only[Result.andThen_ok,Sem.run_bind,hck,MapKept.run_findKey hk f1,hkey]
         rw[MapKept.run_keyThatStays (d:=.string) (k:=.string ⟨k.toArray⟩) trivial]
         simp only[Result.andThen_ok,Sem.run_bind]
         rw[MapKept.run_setObj_map _ b1]
         rfl
        ·simp only[zAi,eMput,hg,newS,g1,zBG];rfl
   ·simp at h
  ·cases ht
 case mapEntry t m kk =>
  split at ht
  ·rename_i e he
   split at ht
   ·rename_i z hz
    cases ht
    obtain⟨kt,hu,hk⟩:=zKY he
    obtain⟨hz1,hz2⟩:=zQD (P:=P) (w:=w) U hz
    obtain⟨a,b,rfl,ha,hb⟩:=map2 hx
    simp only[zAi,zQq]at h
    split at h
    ·rename_i id k heq
     cases heq
     cases hg:H.blk.get id with
     | none=>simp only[hg,ne_eq,not_true,forall_const]at h
     | some blk =>
      cases blk with
      | mem cs room fam ver wr pl st=>simp only[hg,ne_eq,not_true,forall_const]at h
      | gone=>simp only[hg,ne_eq,not_true,forall_const]at h
      | iter s p=>simp only[hg,ne_eq,not_true,forall_const]at h
      | mapb es clk =>
       cases clk with
       | none=>simp only[hg,ne_eq,not_true,forall_const]at h
       | some cl =>
        obtain⟨_,⟨ents,clock,b1,b2⟩,b3⟩:=hM.maps _ _ _ hg
        obtain⟨rfl,b5⟩:=b2.rows _ rfl
        have hst:=b2.stamped
        have hck:=fun b=>MapKept.run_checkKey (P:=P) (w:=w) hk (k:=.string ⟨k.toArray⟩) trivial b 9999
        rcases zOC U k z clock es ents.toList 0 b5 with⟨f1,g1,f2,_⟩ | ⟨j,u',e',vb,f1,g1,g2,g3,f2,f3,f4,_⟩
        ·have hv:∀ p ∈ putS k z clock es,VOk H p.2.1:=fun p hp=>by
          rcases putS_mem hp with h1 | h1
          ·rw[h1];exact hz2 H
          ·exact b3 p h1
         have hrel:MapR U (putS k z clock es) (some (clock+1)) (ents.push { key:=.string ⟨k.toArray⟩,val:=cv U z,born:=clock }) (clock+1) :=
          ⟨MapKept.stamped_push hst (zPk b5 g1),fun c' hc=>⟨Option.some.inj hc,by rw[Array.toList_push];exact f2 _ rfl rfl rfl⟩,fun hc=>by cases hc⟩
         refine⟨.value (.tuple #[cv U z,.int .i64 clock]),.tup [z,.int .i64 (.ofNat clock)],_,U,zDz H id (putS k z clock es) (some (clock+1)),[],(?_:_=Result.ok _ (zBL w (U id).1 (.map (ents.push { key:=.string ⟨k.toArray⟩,val:=cv U z,born:=clock }) (clock+1)))),.inl rfl,fun Z=>?_,hM.mapSet hg (clock+1) hrel hv,Ext.refl _ _,Evol.mapSet hg,⟨hz2 _,trivial,trivial⟩⟩
         ·simp only[execOp,ha,hb,cv,Instr.mapEntry,Sem.run_bind,run_underlying hu,Result.andThen_ok]
          rw[MapKept.run_getObj_map b1]
          simp only[Result.andThen_ok,Sem.run_bind,hck,MapKept.run_findKey hk f1,hz1]
          rw[MapKept.run_setObj_map _ b1]
          rfl
         ·simp only[zAi,zQq,hg,g1,zBG];rfl
        ·have hkey:((ents[0+j]?).map (·.key)).getD (.string ⟨k.toArray⟩)=.string ⟨k.toArray⟩:=by
          rw[Nat.zero_add,<- Array.getElem?_toList,f2];exact f3
         have hborn:((ents[0+j]?).map (fun x=>(x.born:Int))).getD 0=(vb.2:Int):=by
          rw[Nat.zero_add,<- Array.getElem?_toList,f2];simp only[Option.map_some,Option.getD_some,g3]
         have hself:(ents.toList.set j { e' with key:=.string ⟨k.toArray⟩ })=ents.toList:=by
          have:{ e' with key:=.string ⟨k.toArray⟩ }=e':=by rw[<- f3]
          rw[this]
          apply List.ext_getElem?
          intro m
          rw[List.getElem?_set]
          split
          ·rename_i hm;subst hm
           obtain⟨hl,_⟩:=List.getElem?_eq_some_iff.1 f2
           rw[if_pos hl,f2]
          ·rfl
         have hrel:MapR U es (some clock) (ents.modify (0+j) fun e=>{ e with key:=.string ⟨k.toArray⟩ }) clock :=
          ⟨MapKept.stamped_modify hst _ _ (fun _ _=>rfl) (fun e _ he=>by
            rw[Nat.zero_add,<- Array.getElem?_toList,f2]at he;cases he;exact f3.symm),fun c' hc=>⟨Option.some.inj hc,by rw[Nat.zero_add,zKX f2,hself];exact b5⟩,fun hc=>by cases hc⟩
         obtain⟨k2,hmem⟩:=findS_mem g1
         refine⟨.value (.tuple #[cv U vb.1,.int .i64 vb.2]),.tup [vb.1,.int .i64 (.ofNat vb.2)],_,U,zDz H id es (some clock),[],(?_:_=Result.ok _ (zBL w (U id).1 (.map (ents.modify (0+j) fun e=>{ e with key:=.string ⟨k.toArray⟩ }) clock))),.inl rfl,fun Z=>?_,hM.mapSet hg clock hrel b3,Ext.refl _ _,Evol.mapSet hg,⟨VOk.mono (Evol.mapSet hg) _ (b3 _ hmem),trivial,trivial⟩⟩
         ·simp only[execOp,ha,hb,cv,Instr.mapEntry,Sem.run_bind,run_underlying hu,Result.andThen_ok]
          rw[MapKept.run_getObj_map b1]
          simp only[Result.andThen_ok,Sem.run_bind,hck,MapKept.run_findKey hk f1,hkey]
          rw[MapKept.run_keyThatStays (d:=.string) (k:=.string ⟨k.toArray⟩) trivial]
          simp only[Result.andThen_ok,Sem.run_bind]
          rw[MapKept.run_setObj_map _ b1]
          simp only[Result.andThen_ok,Sem.run_bind,Sem.run_pure,hborn,g2,goInt]
          try rfl
         ·simp only[zAi,zQq,hg,g1];rfl
    ·simp at h
   ·cases ht
  ·cases ht
 case entryStore t m ss x =>
  split at ht
  ·rename_i e he
   cases ht
   obtain⟨a,b,c,rfl,ha,hb,hc⟩:=map3 hx
   simp only[zAi,zR3]at h
   split at h
   ·rename_i id kd n v heq
    cases heq
    cases hg:H.blk.get id with
    | none=>simp only[hg,ne_eq,not_true,forall_const]at h
    | some blk =>
     cases blk with
     | mem cs room fam ver wr pl st=>simp only[hg,ne_eq,not_true,forall_const]at h
     | gone=>simp only[hg,ne_eq,not_true,forall_const]at h
     | iter s p=>simp only[hg,ne_eq,not_true,forall_const]at h
     | mapb es clk =>
      cases clk with
      | none=>simp only[hg,ne_eq,not_true,forall_const]at h
      | some cl =>
       obtain⟨_,⟨ents,clock,b1,b2⟩,b3⟩:=hM.maps _ _ _ hg
       obtain⟨rfl,b5⟩:=b2.rows _ rfl
       have hst:=b2.stamped
       cases hs:setB n c es with
       | none=>simp only[hg,hs,ne_eq,not_true,forall_const]at h
       | some es' =>
        obtain⟨j,e',f1,f2,f3,f4⟩:=setB_spec U n c es es' ents.toList b5 hs
        have hidx:ents.findIdx? (fun e=>((e.born:Int) ==(n:Int)))=some j:=by
         have e1:ents.toList.findIdx? (fun e=>((e.born:Int) ==(n:Int)))=some j:=by
          rw[<- f1];rfl
         rw[<- e1]
         cases ents with
         | mk l=>exact List.findIdx?_toArray _ l
        have hrel:MapR U es' (some clock) (ents.modify j fun e=>{ e with val:=cv U c }) clock :=
         ⟨MapKept.stamped_modify hst _ _ (fun _ _=>rfl) (fun _ _ _=>rfl),fun c' hc=>⟨Option.some.inj hc,by rw[zKX f2];exact f3 _ rfl rfl rfl⟩,fun hc=>by cases hc⟩
        have hv:∀ p ∈ es',VOk H p.2.1:=fun p hp=>by
         rcases f4 p hp with h1 | h1
         ·rw[h1];exact hok.2.2.1
         ·exact b3 p h1
        refine⟨.skip,.tup [],_,U,zDz H id es' (some clock),[],(?_:_=Result.ok _ (zBL w (U id).1 (.map (ents.modify j fun e=>{ e with val:=cv U c }) clock))),.inr ⟨rfl,rfl⟩,fun Z=>?_,hM.mapSet hg clock hrel hv,Ext.refl _ _,Evol.mapSet hg,trivial⟩
        ·simp only[execOp,ha,hb,hc,cv,Instr.entryStore,Sem.run_bind,Result.andThen_ok]
         rw[MapKept.run_getObj_map b1]
         simp only[Result.andThen_ok,Sem.run_bind,asInt,asIntOf,Sem.run_pure,Int.ofNat_eq_natCast,hidx]
         rw[MapKept.run_setObj_map _ b1]
         rfl
        ·simp only[zAi,zR3,hg,hs];rfl
   ·simp at h
  ·cases ht
 case lookup t x i ok=>split at ht <;> first | (cases ht;done) | (split at ht <;> cases ht)
 case makeFunc fn first captured=>cases fn <;> simp only at ht <;> cases ht
 all_goals first
  | (cases ht;done)
  | (repeat' (split at ht)) <;> first | (cases ht;done) | (obtain⟨_,ht⟩:=zFF ht;cases ht;done)
end
end Go.Am

namespace Go.Am
open Go.RowKit (Below)
def GOk (P:Program)(U:Inj)(H:Heap):Prop:=(∀ g,g<P.globals.size->U g=(g,0))/\P.globals.size<=H.size
theorem GOk.step {P:Program}{U U':Inj}{H H':Heap}(h:GOk P U H)(he:Ext H U U')(hv:Evol H H'):GOk P U' H' :=
 ⟨fun g hg=>(he g (Nat.lt_of_lt_of_le hg h.2)).trans (h.1 g hg),Nat.le_trans h.2 hv.size⟩
structure FRel (U:Inj) (H:Heap) (nt:Nat) (fr:T V) (a:Act):Prop where
 defers:a.defers=[]
 size:nt<=a.tmps.size
 get:∀ t v,fr.get t=some v->a.tmps[t]?=some (cv U v)/\VOk H v
theorem FRel.step {U U':Inj}{H H':Heap}{nt:Nat}{fr:T V}{a:Act}(h:FRel U H nt fr a)(he:Ext H U U')(hv:Evol H H'):FRel U' H' nt fr a :=
 ⟨h.defers,h.size,fun t v ht=>by
  obtain⟨h1,h2⟩:=h.get t v ht
  exact⟨by rw[zB9 he v h2];exact h1,h2.mono hv⟩⟩
theorem FRel.put {U:Inj}{H:Heap}{nt:Nat}{fr:T V}{a:Act}(h:FRel U H nt fr a){dst:Option Nat}{v:V}(hd:dst.all (· < nt)=true)(hv:VOk H v) :
  FRel U H nt (put fr dst v) (a.put dst (cv U v)):=by
 cases dst with
 | none=>exact h
 | some d =>
  have hlt:d<nt:=by simpa using hd
  refine⟨h.defers,by simp only[Act.put,Array.size_setIfInBounds];exact h.size,fun t u ht=>?_⟩
  simp only[Am.put]at ht
  rw[T.get_set]at ht
  by_cases e:d=t
  ·rw[if_pos e]at ht
   cases ht
   subst e
   have:=h.size
   refine⟨?_,hv⟩
   simp only[Act.put]
   rw[Array.getElem?_setIfInBounds_self_of_lt (by omega)]
  ·rw[if_neg e]at ht
   obtain⟨h1,h2⟩:=h.get t u ht
   exact⟨by simp only[Act.put];rw[Array.getElem?_setIfInBounds_ne e];exact h1,h2⟩
section
variable {P:Program} {w w0:World} {U:Inj} {base:Base} {nt:Nat} {H:Heap}
theorem evO_sound {fr:T V}{a:Act}(hF:FRel U H nt fr a)(hG:GOk P U H){x:Operand}{o:O}{v:V}(ht:trO P x=some o)(h:evO fr o=some v):a.eval x=cv U v/\VOk H v:=by
 cases x with
 | tmp t =>
  simp only[trO,Option.some.injEq]at ht
  subst ht
  obtain⟨h1,h2⟩:=hF.get t v h
  exact⟨by simp[Act.eval,h1],h2⟩
 | const c =>
  simp only[trO]at ht
  split at ht
  ·rename_i u hu
   cases ht
   simp only[evO,Option.some.injEq]at h
   subst h
   obtain⟨h1,h2⟩:=cv?_sound U hu
   exact⟨h1.symm,h2 H⟩
  ·cases ht
 | global g =>
  simp only[trO]at ht
  split at ht
  ·rename_i hg
   cases ht
   simp only[evO,Option.some.injEq]at h
   subst h
   exact⟨by simp only[Act.eval,cv,hG.1 g hg],Nat.lt_of_lt_of_le hg hG.2⟩
  ·cases ht
 | func f =>
  simp only[trO,Option.some.injEq]at ht
  subst ht
  simp only[evO,Option.some.injEq]at h
  subst h
  exact⟨rfl,trivial,trivial⟩
theorem zPI {fr:T V}{a:Act}(hF:FRel U H nt fr a)(hG:GOk P U H):∀ (xs:List Operand) (os:List O) (vs:List V),zAs (trO P) xs=some os->evOs fr os=some vs ->
  xs.map a.eval=cvl U vs/\VsOk H vs:=by
 intro xs
 induction xs with
 | nil =>
  intro os vs ht h
  simp only[zAs,Option.some.injEq]at ht
  subst ht
  simp only[evOs,Option.some.injEq]at h
  subst h
  exact⟨rfl,trivial⟩
 | cons x xs ih =>
  intro os vs ht h
  simp only[zAs]at ht
  split at ht
  ·rename_i o ho
   split at ht
   ·rename_i os' hos
    cases ht
    simp only[evOs]at h
    split at h
    ·rename_i v hv
     split at h
     ·rename_i vs' hvs
      cases h
      obtain⟨h1,h2⟩:=evO_sound hF hG ho hv
      obtain⟨h3,h4⟩:=ih os' vs' hos hvs
      exact⟨by simp only[List.map_cons,cvl,h1,h3],h2,h4⟩
     ·cases h
    ·cases h
   ·cases ht
  ·cases ht
def zEu (P:Program)(base:Base)(w0:World)(c:zEa):Prop :=
 ∀ f vs H U w,MRel U base w0 H w->GOk P U H->VsOk H vs->(∀ Z,c f vs H Z≠none) ->
  zEp P f=true/\Calls P f (cvl U vs).toArray w fun e w' =>
   ∃ v H' U' pre,e=.returned (cv U' v)/\(∀ Z,c f vs H (Tape.app pre Z)=some (v,H',Z))/\MRel U' base w0 H' w'/\Ext H U U'/\Evol H H'/\VOk H' v
theorem zNZ {f:FuncId}(h:zEp P f=true)(args:Array Value):(callFunc f args).run P w=.ok (.enter f args) w:=by
 unfold zEp at h
 split at h
 ·rename_i fn hf
  simp only[Bool.and_eq_true,bne_iff_ne,ne_eq]at h
  have h2:(fn.name == "runtime.NumGoroutine")=false:=by simpa using h.2
  have h1:fn.body.isNone=false:=by cases hb:fn.body with | none=>rw[hb]at h;cases h.1 | some b=>rfl
  simp only[callFunc,Sem.run_bind,run_program,Result.andThen_ok,hf,h2,Bool.false_eq_true,if_false,h1,Sem.run_pure]
 ·cases h
theorem zN6 {ops:Array Oper}{fr:T V}{a:Act}(hF:FRel U H nt fr a){o:Oper}{g:Option (Nat × Bool)}{b:Bool}(ht:zPA ops.toList o.guard=some g)(h:wants fr g=some b) :
  Region.wanted o (yielded ops a.tmps)=b:=by
 unfold Region.wanted
 cases hg:o.guard with
 | none =>
  rw[hg]at ht
  simp only[zPA,Option.some.injEq]at ht
  subst ht
  simp only[wants,Option.some.injEq]at h
  simp[h]
 | some jw =>
  obtain⟨j,want⟩:=jw
  rw[hg]at ht
  simp only[zPA]at ht
  split at ht
  ·rename_i oj hj
   split at ht
   ·rename_i d hd
    cases ht
    have hj':ops[j]?=some oj:=by rw[<- Array.getElem?_toList];exact hj
    simp only[wants]at h
    split at h
    ·rename_i bb hb
     cases h
     obtain⟨h1,_⟩:=hF.get _ _ hb
     have:yielded ops a.tmps j=some bb:=by simp only[yielded,hj',hd,Option.bind_some,h1,cv]
     simp[this]
    ·rename_i hb
     cases h
     obtain⟨h1,_⟩:=hF.get _ _ hb
     have:yielded ops a.tmps j=none:=by simp only[yielded,hj',hd,Option.bind_some,h1,cv]
     simp[this]
    ·cases h
   ·cases ht
  ·cases ht
theorem trIns_inv {ops:List Oper}{o:Oper}{i:Ins}(h:zRx P nt ops o=some i) :
  o.dst.all (· < nt)=true/\i.dst=o.dst/\i.rng=none/\zPA ops o.guard=some i.guard/\∃ xs,trOp P o.op=some (i.op,xs)/\zAs (trO P) xs=some i.args:=by
 unfold zRx at h
 split at h
 ·rename_i hd
  split at h
  ·rename_i op args g h1 h2
   split at h
   ·rename_i as h3
    cases h
    exact⟨hd,rfl,rfl,h2,args,h1,h3⟩
   ·cases h
  ·cases h
 ·cases h
def After (P:Program)(base:Base)(w0:World)(U:Inj)(H:Heap)(nt:Nat)(run:Tape->Option (St × Tape))(a:Act)(w:World):Prop :=
 ∃ st' U' pre,(∀ Z,run (Tape.app pre Z)=some (st',Z))/\FRel U' st'.hp nt st'.fr a/\MRel U' base w0 st'.hp w/\GOk P U' st'.hp/\Ext H U U'/\Evol H st'.hp
theorem op_wp (c:zEa)(hc:zEu P base w0 c){st:St}{a:Act}(hF:FRel U st.hp nt st.fr a)(hM:MRel U base w0 st.hp w)(hG:GOk P U st.hp){o:Oper}{ao:AOp}{xs:List Operand}{vs:List V}
  (hd:o.dst.all (· < nt)=true) (ht:trOp P o.op=some (ao,xs)) (hx:xs.map a.eval=cvl U vs) (hok:VsOk st.hp vs) (h:∀ Z,zAq c ao vs st.hp Z≠none)
  (K:Act->World->Prop) (Q:Exit->Act->World->Prop)
  (hK:∀ v H' U' pre w',(∀ Z,zAq c ao vs st.hp (Tape.app pre Z)=some (v,H',Z))->FRel U' H' nt (put st.fr o.dst v) (a.put o.dst (cv U' v))->MRel U' base w0 H' w'->GOk P U' H'->Ext st.hp U U'->Evol st.hp H'->VOk H' v ->
   K (a.put o.dst (cv U' v)) w') :
  o.wp P a w K Q:=by
 unfold Oper.wp
 obtain⟨dst,op,ty,pos,after,guard⟩:=o
 cases ao with
 | p po =>
  simp only[zAq]at h
  cases hv:zE9 po vs with
  | none=>simp only[hv,ne_eq,not_true,forall_const]at h
  | some v =>
   obtain⟨h1,h2⟩:=pop_sound (P:=P) (w:=w) (I:=a.eval) op po xs vs v dst ty pos after guard ht hx hok hv
   rw[h1]
   exact hK v st.hp U [] w (fun Z=>by simp only[zAq,hv];rfl) (hF.put hd h2) hM hG (Ext.refl _ _) (Evol.refl _) h2
 | l lo =>
  simp only[zAq]at h
  cases hv:zGU lo vs st.hp with
  | none=>simp only[hv,ne_eq,not_true,forall_const]at h
  | some v =>
   obtain⟨h1,h2⟩:=zQj (P:=P) (I:=a.eval) hM op lo xs vs v dst ty pos after guard ht hx hv
   rw[h1]
   exact hK v st.hp U [] w (fun Z=>by simp only[zAq,hv];rfl) (hF.put hd h2) hM hG (Ext.refl _ _) (Evol.refl _) h2
 | e eo =>
  simp only[zAq]at h
  obtain⟨nx,v,w',U',H',pre,h1,h2,h3,h4,h5,h6,h7⟩:=eop_sound (P:=P) (I:=a.eval) hM op eo xs vs dst ty pos after guard ht hx hok h
  rw[h1]
  have hF':=(hF.step h5 h6).put hd h7
  rcases h2 with rfl | ⟨rfl,rfl⟩
  ·exact hK v H' U' pre w' h3 hF' h4 (hG.step h5 h6) h5 h6 h7
  ·exact hK _ H' U' pre w' h3 hF' h4 (hG.step h5 h6) h5 h6 h7
 | call f =>
  simp only[zAq]at h
  obtain⟨hp,hcalls⟩:=hc f vs st.hp U w hM hG hok h
  have hrun:(execOp a.eval ⟨dst,op,ty,pos,after,guard⟩).run P w=.ok (.enter f (cvl U vs).toArray) w:=by
   cases op <;> simp only[trOp]at ht
   case call cl =>
    split at ht
    ·rename_i f' hcl
     split at ht
     ·cases ht
      have hargs:cl.args.map a.eval=(cvl U vs).toArray:=by rw[<- hx,<- Array.toList_map]
      simp only[execOp,resolve,hcl,Act.eval,Deferred.ofValue,Sem.run_bind,Sem.run_pure,Result.andThen_ok,invoke]
      rw[hargs]
      simpa using zNZ hp (cvl U vs).toArray
     ·cases ht
    ·cases ht
    ·split at ht
     ·rename_i o' hb
      exfalso
      cases ht
      unfold zJl at hb
      repeat' (split at hb)
      all_goals cases hb
     ·cases ht
    ·cases ht
   case next x b=>cases b <;> simp only at ht <;> cases ht
   case makeFunc fn first captured=>cases fn <;> simp only at ht <;> cases ht
   case makeMap t r=>cases r <;> simp only at ht <;> cases ht
   all_goals first
    | (cases ht;done)
    | (repeat' (split at ht)) <;> first | (cases ht;done) | (obtain⟨_,ht⟩:=zFF ht;cases ht;done)
  rw[hrun,Oper.upon_enter]
  refine hcalls.mono fun e w' ⟨v,H',U',pre,he,h3,h4,h5,h6,h7⟩=>?_
  subst he
  exact hK v H' U' pre w' h3 ((hF.step h5 h6).put hd h7) h4 (hG.step h5 h6) h5 h6 h7
 | callv =>
  cases op <;> simp only[trOp]at ht
  case call cl =>
   split at ht
   ·split at ht <;> cases ht
   ·rename_i fo hnf hcl
    cases ht
    obtain⟨fv,r,rfl,hfv,hr⟩:=zMt hx
    simp only[zAq]at h
    cases fv with
    | func f first cap =>
     simp only at h
     have hok':VsOk st.hp (first++r++cap):=by
      rw[zw]
      intro v hv
      rcases List.mem_append.1 hv with hv | hv
      ·rcases List.mem_append.1 hv with hv | hv
       ·exact(zw _ _).1 hok.1.1 v hv
       ·exact(zw _ _).1 hok.2 v hv
      ·exact(zw _ _).1 hok.1.2 v hv
     obtain⟨hp,hcalls⟩:=hc f (first++r++cap) st.hp U w hM hG hok' h
     have hargs:cl.args.map a.eval=(cvl U r).toArray:=by rw[<- hr,<- Array.toList_map]
     have hrun:(execOp a.eval ⟨dst,.call cl,ty,pos,after,guard⟩).run P w=.ok (.enter f (cvl U (first++r++cap)).toArray) w:=by
      have hres:(resolve a.eval cl ty).run P w=.ok { target:=.fn (.func f) (cvl U cap).toArray,args:=(cvl U first).toArray++(cvl U r).toArray } w:=by
       simp only[resolve,hcl,hfv,cv,Deferred.ofValue,Sem.run_pure,hargs]
      simp only[execOp,Sem.run_bind,hres,Result.andThen_ok,invoke]
      rw[zNZ hp]
      simp[zO6]
     rw[hrun,Oper.upon_enter]
     refine hcalls.mono fun e w' ⟨v,H',U',pre,he,h3,h4,h5,h6,h7⟩=>?_
     subst he
     exact hK v H' U' pre w' h3 ((hF.step h5 h6).put hd h7) h4 (hG.step h5 h6) h5 h6 h7
    | _=>simp at h
   ·split at ht
    ·rename_i o' hb
     exfalso
     cases ht
     unfold zJl at hb
     repeat' (split at hb)
     all_goals cases hb
    ·cases ht
   ·cases ht
  case next x b=>cases b <;> simp only at ht <;> cases ht
  case makeFunc fn first captured=>cases fn <;> simp only at ht <;> cases ht
  case makeMap t r=>cases r <;> simp only at ht <;> cases ht
  all_goals first
   | (cases ht;done)
   | (repeat' (split at ht)) <;> first | (cases ht;done) | (obtain⟨_,ht⟩:=zFF ht;cases ht;done)
end
end Go.Am

namespace Go.Am
open Go.RowKit (Below)
section
variable {P:Program} {w w0:World} {U:Inj} {base:Base} {nt:Nat}
theorem ins_wp (c:zEa)(hc:zEu P base w0 c){st:St}{a:Act}(hF:FRel U st.hp nt st.fr a)(hM:MRel U base w0 st.hp w)(hG:GOk P U st.hp){ops:Array Oper}{i:Nat}{o:Oper}(ho:ops[i]?=some o)
  {ins:Ins} (ht:zRx P nt ops.toList o=some ins) (h:∀ Z,zBM c ins st Z≠none) (K:Act->World->Prop) (Q:Exit->Act->World->Prop)
  (hK:∀ a' w',After P base w0 U st.hp nt (zBM c ins st) a' w'->K a' w'):wpOp P ops Q i K a w:=by
 obtain⟨hd,hdst,_,hg,xs,hop,hxs⟩:=trIns_inv ht
 unfold wpOp
 simp only[ho]
 unfold zBM at h
 cases hw:wants st.fr ins.guard with
 | none=>simp only[hw,ne_eq,not_true,forall_const]at h
 | some b =>
  rw[zN6 hF hg hw]
  cases b with
  | false =>
   simp only[Bool.false_eq_true,if_false]
   refine hK _ _ ⟨⟨put st.fr ins.dst (.tup []),st.hp⟩,U,[],fun Z=>?_,?_,hM,hG,Ext.refl _ _,Evol.refl _⟩
   ·unfold zBM;simp only[hw];rfl
   ·rw[hdst]
    exact hF.put hd (v:=.tup []) trivial
  | true =>
   simp only[if_true]
   simp only[hw]at h
   cases hvs:evOs st.fr ins.args with
   | none=>simp only[hvs,ne_eq,not_true,forall_const]at h
   | some vs =>
    simp only[hvs]at h
    obtain⟨hx,hok⟩:=zPI hF hG xs ins.args vs hxs hvs
    refine .inl (op_wp c hc hF hM hG hd hop hx hok ?_ K Q ?_)
    ·intro Z hn
     exact h Z (by rw[hn])
    ·intro v H' U' pre w' h3 hF' h4 h5 h6 h7 h8
     refine hK _ _ ⟨⟨put st.fr ins.dst v,H'⟩,U',pre,fun Z=>?_,?_,h4,h5,h6,h7⟩
     ·unfold zBM
      simp only[hw,hvs,h3]
     ·rw[hdst];exact hF'
theorem reg_wp (c:zEa)(hc:zEu P base w0 c)(ops:Array Oper)(Q:Exit->Act->World->Prop):∀ (is:List Ins) (l:List Nat) (U:Inj) (st:St) (a:Act) (w:World),
  FRel U st.hp nt st.fr a->MRel U base w0 st.hp w->GOk P U st.hp->is.length=l.length->(∀ (j i:Nat) (ins:Ins),l[j]?=some i->is[j]?=some ins->∃ o,ops[i]?=some o/\zRx P nt ops.toList o=some ins) ->
  (∀ Z,zo c is st Z≠none)->(∀ a' w',After P base w0 U st.hp nt (zo c is st) a' w'->Q .normal a' w')->wpOps P ops Q l a w:=by
 intro is
 induction is with
 | nil =>
  intro l U st a w hF hM hG hl _ _ hQ
  have:l=[]:=List.eq_nil_of_length_eq_zero (by simpa using hl.symm)
  subst this
  exact hQ a w ⟨st,U,[],fun Z=>rfl,hF,hM,hG,Ext.refl _ _,Evol.refl _⟩
 | cons ins is ih =>
  intro l U st a w hF hM hG hl ht h hQ
  cases l with
  | nil=>simp at hl
  | cons i l =>
   obtain⟨o,ho,hins⟩:=ht 0 i ins rfl rfl
   rw[wpOps_cons]
   refine ins_wp c hc hF hM hG ho hins ?_ _ Q ?_
   ·intro Z hn
    exact h Z (by simp only[zo,hn])
   ·rintro a' w' ⟨st1,U1,pre1,k1,k2,k3,k4,k5,k6⟩
    refine ih l U1 st1 a' w' k2 k3 k4 (by simpa using hl) (fun j i' ins' hj hj'=>ht (j+1) i' ins' (by simpa using hj) (by simpa using hj')) ?_ ?_
    ·intro Z hn
     refine h (Tape.app pre1 Z) ?_
     simp only[zo,k1,hn]
    ·intro a2 w2 hA
     obtain⟨st2,U2,pre2,m1,m2,m3,m4,m5,m6⟩:=hA
     exact hQ a2 w2 ⟨st2,U2,pre1++pre2,fun Z=>by rw[<- Tape.app_app];simp only[zo,k1];exact m1 Z,m2,m3,m4,k5.trans m5 k6.size,k6.trans m6⟩
theorem zN5 {α β:Type}(f:α->Option β):∀ (l:List α) (r:List β),zAs f l=some r->r.length=l.length/\∀ (j:Nat) (x:α) (y:β),l[j]?=some x->r[j]?=some y->f x=some y:=by
 intro l
 induction l with
 | nil=>intro r h;simp only[zAs,Option.some.injEq]at h;subst h;exact⟨rfl,fun j x y hx=>by simp at hx⟩
 | cons a l ih =>
  intro r h
  simp only[zAs]at h
  split at h
  ·rename_i b hb
   split at h
   ·rename_i r' hr
    cases h
    obtain⟨h1,h2⟩:=ih r' hr
    refine⟨by simp[h1],fun j x y hx hy=>?_⟩
    cases j with
    | zero =>
     simp only[List.getElem?_cons_zero,Option.some.injEq]at hx hy
     subst hx hy
     exact hb
    | succ j=>exact h2 j x y (by simpa using hx) (by simpa using hy)
   ·cases h
  ·cases h
theorem region_wp (c:zEa)(hc:zEu P base w0 c)(id:Nat)(ops:Array Oper){is:List Ins}(ht:zAs (zRx P nt ops.toList) ops.toList=some is){st:St}{a:Act}
  (hF:FRel U st.hp nt st.fr a) (hM:MRel U base w0 st.hp w) (hG:GOk P U st.hp) (h:∀ Z,zo c is st Z≠none) (Q:Exit->Act->World->Prop)
  (hQ:∀ a' w',After P base w0 U st.hp nt (zo c is st) a' w'->Q .normal a' w'):(Code.region id ops false).wp P Q a w:=by
 obtain⟨h1,h2⟩:=zN5 _ _ _ ht
 refine wp_region (reg_wp c hc ops Q is (List.range ops.size) U st a w hF hM hG (by simpa using h1) ?_ h hQ)
 intro j i ins hj hi
 have hlt:j<ops.size:=by have:=(List.getElem?_eq_some_iff.1 hj).1;simpa using this
 have:i=j:=by
  rw[List.getElem?_range hlt]at hj
  exact(Option.some.inj hj).symm
 subst this
 have ho:ops[i]?=some ops[i]:=Array.getElem?_eq_getElem hlt
 exact⟨ops[i],ho,h2 i ops[i] ins (by rw[Array.getElem?_toList];exact ho) hi⟩
end
end Go.Am

namespace Go.Am
theorem zP8 {a b:V}(h:zOy a b=true):a=b:=by
 cases a <;> cases b <;>(try (simp[zOy]at h;done)) <;>(try (simp[zOy,Bool.and_eq_true]at h;simp[h];done))
 rename_i i o n l ex z i' o' n' l' ex' z'
 cases ex <;> cases ex' <;> simp[zOy,Bool.and_eq_true]at h <;> simp[h]
theorem zRp {f:V->V->Bool}(hf:∀ a b,f a b=true->a=b):∀ (l m:List V),zSL f l m=true->l=m:=by
 intro l
 induction l with
 | nil=>intro m h;cases m with | nil=>rfl | cons=>simp[zSL]at h
 | cons a l ih=>intro m h;cases m with
  | nil=>simp[zSL]at h
  | cons b m=>simp only[zSL,Bool.and_eq_true]at h;rw[hf a b h.1,ih m h.2]
theorem same1_eq {a b:V}(h:zRJ a b=true):a=b:=by
 unfold zRJ at h
 split at h
 ·simp only[Bool.and_eq_true]at h
  rw[Nat.eq_of_beq_eq_true h.1.1,zRp (fun _ _=>zP8) _ _ h.1.2,zRp (fun _ _=>zP8) _ _ h.2]
 ·simp only[Bool.and_eq_true]at h
  rw[Nat.eq_of_beq_eq_true h.1,zP8 h.2]
 ·exact zP8 h
theorem same_eq {a b:V}(h:same a b=true):a=b:=by
 unfold same at h
 split at h
 ·rw[zRp (fun _ _=>same1_eq) _ _ h]
 ·exact same1_eq h
theorem zC9 (c:zEa):∀ (is js:List Ins) (st:St) (Z:Tape),zo c (is++js) st Z=match zo c is st Z with | some (st,Z)=>zo c js st Z | none=>none:=by
 intro is
 induction is with
 | nil=>intro js st Z;rfl
 | cons i is ih =>
  intro js st Z
  simp only[List.cons_append,zo]
  cases zBM c i st Z with
  | none=>rfl
  | some r=>exact ih js r.1 r.2
theorem runIns_frame {c:zEa}{i:Ins}{st st':St}{Z Z':Tape}(h:zBM c i st Z=some (st',Z')):∃ v,st'.fr=put st.fr i.dst v:=by
 unfold zBM at h
 split at h
 ·cases h
 ·cases h;exact⟨_,rfl⟩
 ·split at h
  ·cases h
  ·split at h
   ·cases h;exact⟨_,rfl⟩
   ·cases h
theorem zRl {c:zEa}{i:Ins}{st st':St}{Z Z':Tape}(h:zBM c i st Z=some (st',Z')){t:Nat}(ht:i.dst≠some t):st'.fr.get t=st.fr.get t:=by
 obtain⟨v,hv⟩:=runIns_frame h
 rw[hv]
 cases hd:i.dst with
 | none=>rfl
 | some d=>exact T.get_set_ne _ _ (fun e=>ht (by rw[hd,e]))
theorem zKS {c:zEa}:∀ {is:List Ins} {st st':St} {Z Z':Tape},zo c is st Z=some (st',Z')->∀ {t:Nat},(∀ i ∈ is,i.dst≠some t)->st'.fr.get t=st.fr.get t:=by
 intro is
 induction is with
 | nil=>intro st st' Z Z' h t _;cases h;rfl
 | cons i is ih =>
  intro st st' Z Z' h t ht
  simp only[zo]at h
  split at h
  ·rename_i st1 Z1 h1
   rw[ih h fun j hj=>ht j (List.mem_cons_of_mem _ hj),zRl h1 (ht i List.mem_cons_self)]
  ·cases h
theorem zMS {c:zEa}{i:Ins}(hi:i.op.eff=false){st st':St}{Z Z':Tape}(h:zBM c i st Z=some (st',Z')):st'.hp=st.hp/\Z'=Z/\∀ Z2,zBM c i st Z2=some (st',Z2):=by
 unfold zBM at h ⊢
 split at h
 ·cases h
 ·cases h;exact⟨rfl,rfl,fun _=>rfl⟩
 ·split at h
  ·cases h
  ·rename_i vs _
   split at h
   ·rename_i v H Z1 hv
    cases h
    cases hop:i.op with
    | p o =>
     rw[hop]at hv
     simp only[zAq]at hv ⊢
     split at hv
     ·cases hv;exact⟨rfl,rfl,fun _=>rfl⟩
     ·cases hv
    | l o =>
     rw[hop]at hv
     simp only[zAq]at hv ⊢
     split at hv
     ·cases hv;exact⟨rfl,rfl,fun _=>rfl⟩
     ·cases hv
    | _=>rw[hop]at hi;simp[AOp.eff]at hi
   ·cases h
theorem zMx {c:zEa}:∀ {is:List Ins},(∀ i ∈ is,i.op.eff=false)->∀ {st st':St} {Z Z':Tape},zo c is st Z=some (st',Z')->st'.hp=st.hp/\Z'=Z/\∀ Z2,zo c is st Z2=some (st',Z2):=by
 intro is
 induction is with
 | nil=>intro _ st st' Z Z' h;cases h;exact⟨rfl,rfl,fun _=>rfl⟩
 | cons i is ih =>
  intro hi st st' Z Z' h
  simp only[zo]at h ⊢
  split at h
  ·rename_i st1 Z1 h1
   obtain⟨a1,a2,a3⟩:=zMS (hi i List.mem_cons_self) h1
   obtain⟨b1,b2,b3⟩:=ih (fun j hj=>hi j (List.mem_cons_of_mem _ hj)) h
   exact⟨b1.trans a1,b2.trans a2,fun Z2=>by simp only[a3];exact b3 Z2⟩
  ·cases h
def effN (is:List Ins):Nat:=is.countP (·.op.eff)
theorem zHJ {c:zEa}:∀ {is:List Ins} {st st':St} {Z Z':Tape} {hs hs':List Heap} {ls ls':List zPD},zGV c is st Z (st.hp::hs) ls=some (st',Z',hs',ls') ->
  zo c is st Z=some (st',Z')/\(∀ x ∈ ls,x ∈ ls') /\
  (∃ hs2,hs'=hs2++st.hp::hs) /\
  (∀ i sti τi,i<=is.length->zo c (is.take i) st Z=some (sti,τi)->hs'.reverse[hs.length+effN (is.take i)]?=some sti.hp) /\
  (∀ i x sti τi,is[i]?=some x->zo c (is.take i) st Z=some (sti,τi)->wants sti.fr x.guard=some true->∀ y ∈ noted x sti [],y ∈ ls'):=by
 intro is
 induction is with
 | nil =>
  intro st st' Z Z' hs hs' ls ls' h
  simp only[zGV,Option.some.injEq,Prod.mk.injEq]at h
  obtain⟨rfl,rfl,rfl,rfl⟩:=h
  refine⟨rfl,fun x hx=>hx,⟨[],rfl⟩,?_,?_⟩
  ·intro i sti τi _ hr
   simp only[List.take_nil,zo,Option.some.injEq,Prod.mk.injEq]at hr
   simp[<- hr.1,effN]
  ·intro i x sti τi hx
   simp at hx
 | cons i is ih =>
  intro st st' Z Z' hs hs' ls ls' h
  simp only[zGV]at h
  split at h
  ·rename_i st1 Z1 h1
   have key:∃ hs1,(bif i.op.eff then st1.hp::st.hp::hs else st.hp::hs)=st1.hp::hs1/\hs1.length=hs.length+(if i.op.eff then 1 else 0)/\∃ l,st1.hp::hs1=l++st.hp::hs:=by
    cases he:i.op.eff with
    | true=>exact⟨st.hp::hs,rfl,by simp,[st1.hp],rfl⟩
    | false =>
     have:=(zMS he h1).1
     exact⟨hs,by simp[this],by simp,[],by simp[this]⟩
   obtain⟨hs1,k1,k2,l0,k3⟩:=key
   rw[k1]at h
   obtain⟨a1,a2,⟨hs2,a3⟩,a4,a5⟩:=ih h
   refine⟨by simp only[zo,h1];exact a1,?_,⟨hs2++l0,by rw[a3,k3,List.append_assoc]⟩,?_,?_⟩
   ·intro x hx
    apply a2
    split
    ·unfold noted
     split
     ·exact hx
     ·split
      ·split
       ·exact List.mem_cons_of_mem _ hx
       ·exact hx
      ·exact hx
    ·exact hx
   ·intro j sti τi hj hr
    cases j with
    | zero =>
     simp only[List.take_zero,zo,Option.some.injEq,Prod.mk.injEq]at hr
     rw[a3,k3,<- hr.1]
     simp[effN]
    | succ j =>
     simp only[List.take_succ_cons,zo,h1]at hr
     have:=a4 j sti τi (by simpa using hj) hr
     rw[k2]at this
     rw[<- this]
     congr 1
     simp only[List.take_succ_cons,effN,List.countP_cons]
     omega
   ·intro j x sti τi hx hr hw y hy
    cases j with
    | zero =>
     simp only[List.getElem?_cons_zero,Option.some.injEq]at hx
     subst hx
     simp only[List.take_zero,zo,Option.some.injEq,Prod.mk.injEq]at hr
     obtain⟨rfl,rfl⟩:=hr
     apply a2
     rw[hw]
     simp only
     unfold noted at hy ⊢
     split at hy
     ·cases hy
     ·split at hy
      ·split at hy
       ·simp only[List.mem_cons,List.not_mem_nil,or_false]at hy
        subst hy
        exact List.mem_cons_self
       ·cases hy
      ·cases hy
    | succ j =>
     simp only[List.take_succ_cons,zo,h1]at hr
     exact a5 j x sti τi (by simpa using hx) hr hw y hy
  ·cases h
theorem chk1_spec {op:LOp}{vs:List V}{v:V}:∀ {hs:List Heap},chk1 op vs v hs=true->∀ H ∈ hs,zGU op vs H=some v:=by
 intro hs
 induction hs with
 | nil=>intro _ H hH;cases hH
 | cons H0 hs ih =>
  intro h H hH
  simp only[chk1,Bool.and_eq_true]at h
  rcases List.mem_cons.1 hH with rfl | hH
  ·have h1:=h.1
   split at h1
   ·rename_i u hu
    rw[hu,same_eq h1]
   ·cases h1
  ·exact ih h.2 H hH
theorem zR7 {id s:Nat}:∀ {hs:List Heap},zP9 id s hs=true->∀ H ∈ hs,zPf H id=some s:=by
 intro hs
 induction hs with
 | nil=>intro _ H hH;cases hH
 | cons H0 hs ih =>
  intro h H hH
  simp only[zP9,Bool.and_eq_true]at h
  rcases List.mem_cons.1 hH with rfl | hH
  ·have h1:=h.1
   split at h1
   ·rename_i t ht
    rw[ht,Nat.eq_of_beq_eq_true h1]
   ·cases h1
  ·exact ih h.2 H hH
def Alike (op:LOp)(vs:List V)(hs:Nat->Option Heap)(lo hi:Nat):Prop :=
 (∃ v,∀ k H,lo<=k->k<=hi->hs k=some H->zGU op vs H=some v) ∨
 ∃ agg id off s,op=.load agg/\vs=[.ptr id off]/\∀ k H,lo<=k->k<=hi->hs k=some H->zPf H id=some s
theorem zSS {hs:List Heap}:∀ {ls:List zPD},zAZ hs ls=true->∀ op vs lo hi,(op,vs,lo,hi) ∈ ls->Alike op vs (fun k=>hs[k]?) lo hi:=by
 intro ls
 induction ls with
 | nil=>intro _ op vs lo hi h;cases h
 | cons n ls ih =>
  intro h op vs lo hi hm
  obtain⟨op',vs',lo',hi'⟩:=n
  simp only[zAZ,Bool.and_eq_true,Bool.or_eq_true]at h
  have mem:∀ k H,lo<=k->k<=hi->hs[k]?=some H->H ∈ (hs.drop lo).take (hi+1-lo):=by
   intro k H hlo hhi hk
   refine List.mem_of_getElem? (i:=k-lo) ?_
   rw[List.getElem?_take,if_pos (by omega),List.getElem?_drop]
   rw[<- hk];congr 1;omega
  rcases List.mem_cons.1 hm with e | hm
  ·cases e
   rcases h.1 with h0 | h1
   ·refine .inr ?_
    unfold chkS at h0
    split at h0
    ·cases h0
    ·rename_i H0 hs0 hh
     split at h0
     ·rename_i agg
      split at h0
      ·rename_i id off
       split at h0
       ·rename_i s hs1
        refine⟨agg,id,off,s,rfl,rfl,fun k H hlo hhi hk=>?_⟩
        have hmem:=mem k H hlo hhi hk
        rw[hh]at hmem
        rcases List.mem_cons.1 hmem with rfl | hmem
        ·exact hs1
        ·exact zR7 h0 H hmem
       ·cases h0
      ·cases h0
     ·cases h0
   ·refine .inl ?_
    split at h1
    ·cases h1
    ·rename_i H0 hs0 hh
     split at h1
     ·rename_i v hv
      refine⟨v,fun k H hlo hhi hk=>?_⟩
      have hmem:=mem k H hlo hhi hk
      rw[hh]at hmem
      rcases List.mem_cons.1 hmem with rfl | hmem
      ·exact hv
      ·exact chk1_spec h1 H hmem
     ·cases h1
  ·exact ih h.2 op vs lo hi hm
def WFb (H:Heap):Prop:=∀ id b,H.blk.get id=some b->id<H.size
def StOk (H H':Heap):Prop:=∀ id cs room fam ver wr pl st,H.blk.get id=some (.mem cs room fam ver wr pl st)->∃ cs' st',H'.blk.get id=some (.mem cs' room fam ver wr pl st')/\st<=st'/\(st'=st->cs'=cs)
def Ev (H H':Heap):Prop:=WFb H->WFb H'/\StOk H H'
theorem StOk.refl (H:Heap):StOk H H:=fun id cs room fam ver wr pl st h=>⟨cs,st,h,Nat.le_refl _,fun _=>rfl⟩
theorem Ev.refl (H:Heap):Ev H H:=fun h=>⟨h,StOk.refl H⟩
theorem StOk.trans {a b c:Heap}(h:StOk a b)(k:StOk b c):StOk a c:=by
 intro id cs room fam ver wr pl st hg
 obtain⟨cs1,st1,h1,hle1,he1⟩:=h id cs room fam ver wr pl st hg
 obtain⟨cs2,st2,h2,hle2,he2⟩:=k id cs1 room fam ver wr pl st1 h1
 refine⟨cs2,st2,h2,by omega,fun e=>?_⟩
 rw[he2 (by omega),he1 (by omega)]
theorem Ev.trans {a b c:Heap}(h:Ev a b)(k:Ev b c):Ev a c:=fun w=>⟨(k (h w).1).1,(h w).2.trans (k (h w).1).2⟩
theorem ev_lay {H:Heap}(b:B)(x:T (Nat × Nat)):Ev H { size:=H.size+1,blk:=H.blk.s H.size b,fams:=x }:=by
 intro w
 refine⟨fun id b' h=>?_,fun id cs room fam ver wr pl st h=>⟨cs,st,?_,Nat.le_refl _,fun _=>rfl⟩⟩
 ·have h:(H.blk.s H.size b).get id=some b':=h
  rw[T.get_set]at h
  split at h
  ·show id<H.size+1;omega
  ·have:=w _ _ h;show id<H.size+1;omega
 ·have:=w _ _ h
  show(H.blk.s H.size b).get id=_
  rw[T.get_set_ne _ _ (by omega)];exact h
theorem ev_new (H:Heap)(cells:List V)(room:Nat)(pl:Bool):Ev H (H.new cells room pl):=ev_lay _ _
theorem ev_version (H:Heap)(cells:List V)(room fam fr la:Nat)(pl:Bool):Ev H (H.version cells room fam fr la pl):=ev_lay _ _
theorem ev_write {H H':Heap}{id:Nat}{f:List V->Option (List V)}(h:H.write id f=some H'):Ev H H':=by
 unfold Heap.write at h
 split at h
 ·rename_i cs room fam ver pl st hb
  split at h
  ·rename_i fr la hf
   simp only[Bool.cond_eq_ite]at h
   split at h
   ·split at h
    ·cases h
     intro w
     refine⟨fun i b' hi=>?_,fun i cs1 room1 fam1 ver1 wr1 pl1 st1 hi=>?_⟩
     ·have hi:(H.blk.s id _).get i=some b':=hi
      rw[T.get_set]at hi
      split at hi
      ·rename_i e;subst e;exact w _ _ hb
      ·exact w _ _ hi
     ·by_cases e:id=i
      ·subst e
       rw[hb]at hi
       cases hi
       exact⟨_,_,T.get_set_same _ _ _,Nat.le_succ _,fun e=>by omega⟩
      ·exact⟨cs1,st1,by show(H.blk.s id _).get i=_;rw[T.get_set_ne _ _ e];exact hi,Nat.le_refl _,fun _=>rfl⟩
    ·cases h
   ·cases h
  ·cases h
 ·cases h
theorem ev_stores {H H':Heap}{id off:Nat}{vs:List V}(h:H.stores id off vs=some H'):Ev H H':=by
 unfold Heap.stores at h
 split at h
 ·cases h;exact Ev.refl _
 ·simp only[Bool.cond_eq_ite]at h
  split at h
  ·exact ev_write h
  ·cases h
theorem ev_append {H H':Heap}{z bytes:Nat}{s v:V}{n:Nat}{new:List V}{Z Z':Tape}(h:append H z bytes s n new Z=some (v,H',Z')):Ev H H':=by
 simp only[append,fresh,Bool.cond_eq_ite]at h
 (repeat' split at h) <;> first
  | (cases h;done)
  | (simp only[Option.some.injEq,Prod.mk.injEq]at h;obtain⟨_,rfl,_⟩:=h;first | exact Ev.refl _ | exact ev_new _ _ _ _ | exact ev_version _ _ _ _ _ _ _ | exact ev_stores (by assumption))
theorem ev_map {H:Heap}{id:Nat}{es es':List (List UInt8 × V × Nat)}{clk clk':Option Nat}(hb:H.blk.get id=some (.mapb es clk)):Ev H { size:=H.size,blk:=H.blk.s id (.mapb es' clk'),fams:=H.fams }:=by
 intro wf
 refine⟨fun i b' hi=>?_,fun i cs1 room1 fam1 ver1 wr1 pl1 st1 hi=>?_⟩
 ·have hi:(H.blk.s id _).get i=some b':=hi
  rw[T.get_set]at hi
  split at hi
  ·rename_i e;subst e;exact wf _ _ hb
  ·exact wf _ _ hi
 ·have e:id≠i:=fun e=>by subst e;rw[hb]at hi;cases hi
  exact⟨cs1,st1,by show(H.blk.s id _).get i=_;rw[T.get_set_ne _ _ e];exact hi,Nat.le_refl _,fun _=>rfl⟩
theorem ev_eop {o:EOp}{vs:List V}{H H':Heap}{v:V}{Z Z':Tape}(h:zAi o vs H Z=some (v,H',Z')):Ev H H':=by
 cases o with
 | append z bytes =>
  simp only[zAi,zAj]at h
  (repeat' split at h) <;> first | (cases h;done) | exact ev_append h
 | next =>
  simp only[zAi,eNext,Bool.cond_eq_ite,zBG]at h
  (repeat' split at h) <;> first | (cases h;done) | skip
  ·rename_i id _ s pos hb hlt
   simp only[Option.some.injEq,Prod.mk.injEq]at h
   obtain⟨_,rfl,_⟩:=h
   intro wf
   refine⟨fun i b' hi=>?_,fun i cs1 room1 fam1 ver1 wr1 pl1 st1 hi=>?_⟩
   ·have hi:(H.blk.s id _).get i=some b':=hi
    rw[T.get_set]at hi
    split at hi
    ·rename_i e;subst e;exact wf _ _ hb
    ·exact wf _ _ hi
   ·have e:id≠i:=fun e=>by subst e;rw[hb]at hi;cases hi
    exact⟨cs1,st1,by show(H.blk.s id _).get i=_;rw[T.get_set_ne _ _ e];exact hi,Nat.le_refl _,fun _=>rfl⟩
  ·simp only[Option.some.injEq,Prod.mk.injEq]at h
   obtain⟨_,rfl,_⟩:=h
   exact Ev.refl _
 | mput =>
  simp only[zAi,eMput,zBG]at h
  (repeat' split at h) <;> first | (cases h;done) | skip
  rename_i hb
  simp only[Option.some.injEq,Prod.mk.injEq]at h
  obtain⟨_,rfl,_⟩:=h
  exact ev_map hb
 | mentry zero =>
  simp only[zAi,zQq,zBG]at h
  split at h
  ·split at h
   ·rename_i hb
    split at h
    ·simp only[Option.some.injEq,Prod.mk.injEq]at h
     obtain⟨_,rfl,_⟩:=h
     exact ev_map hb
    ·simp only[Option.some.injEq,Prod.mk.injEq]at h
     obtain⟨_,rfl,_⟩:=h
     exact ev_map hb
   ·cases h
  ·cases h
 | mstore =>
  simp only[zAi,zR3]at h
  split at h
  ·split at h
   ·rename_i hb
    split at h
    ·simp only[Option.some.injEq,Prod.mk.injEq]at h
     obtain⟨_,rfl,_⟩:=h
     exact ev_map hb
    ·cases h
   ·cases h
  ·cases h
 | mdel =>
  simp only[zAi,eMdel]at h
  (repeat' split at h) <;> first | (cases h;done) | skip
  ·simp only[Option.some.injEq,Prod.mk.injEq]at h
   obtain⟨_,rfl,_⟩:=h
   exact Ev.refl _
  ·rename_i hb
   simp only[Option.some.injEq,Prod.mk.injEq]at h
   obtain⟨_,rfl,_⟩:=h
   exact ev_map hb
 | _ =>
  simp only[zAi,eMkMap,zBV,eBox,zZ,zFL,eStore,zQs,zBU,eMark,eClear,eRange,fresh,Bool.cond_eq_ite]at h
  (repeat' split at h) <;> first
   | (cases h;done)
   | (simp only[Option.some.injEq,Prod.mk.injEq]at h;obtain⟨_,rfl,_⟩:=h;first | exact Ev.refl _ | exact ev_new _ _ _ _ | exact ev_lay _ _ | exact ev_stores (by assumption))
def zQS (c:zEa):Prop:=∀ f vs H Z v H' Z',c f vs H Z=some (v,H',Z')->Ev H H'
def zRh (p:List V->Heap->Tape->Option (V × Heap × Tape)):Prop:=∀ vs H Z v H' Z',p vs H Z=some (v,H',Z')->Ev H H'
section
variable {c:zEa} (hc:zQS c)
include hc
theorem ev_op {o:AOp}{vs:List V}{H H':Heap}{v:V}{Z Z':Tape}(h:zAq c o vs H Z=some (v,H',Z')):Ev H H':=by
 cases o with
 | p o=>simp only[zAq]at h;split at h <;> cases h;exact Ev.refl _
 | l o=>simp only[zAq]at h;split at h <;> cases h;exact Ev.refl _
 | e o=>exact ev_eop h
 | call f=>exact hc _ _ _ _ _ _ _ h
 | callv =>
  simp only[zAq]at h
  split at h
  ·exact hc _ _ _ _ _ _ _ h
  ·cases h
theorem ev_ins {i:Ins}{st st':St}{Z Z':Tape}(h:zBM c i st Z=some (st',Z')):Ev st.hp st'.hp:=by
 unfold zBM at h
 split at h
 ·cases h
 ·cases h;exact Ev.refl _
 ·split at h
  ·cases h
  ·split at h
   ·rename_i v H Z2 he
    cases h
    exact ev_op hc he
   ·cases h
theorem ev_reg:∀ {is:List Ins} {st st':St} {Z Z':Tape},zo c is st Z=some (st',Z')->Ev st.hp st'.hp:=by
 intro is
 induction is with
 | nil=>intro st st' Z Z' h;cases h;exact Ev.refl _
 | cons i is ih =>
  intro st st' Z Z' h
  simp only[zo]at h
  split at h
  ·rename_i st1 Z1 h1
   exact(ev_ins hc h1).trans (ih h)
  ·cases h
theorem ev_exec (N:Nat):∀ (x:C) {st st':St} {Z Z':Tape} {ex:Ex},exec c N x st Z=some (ex,st',Z')->Ev st.hp st'.hp:=by
 intro x
 induction x with
 | skip=>intro st st' Z Z' ex h;cases h;exact Ev.refl _
 | reg ops =>
  intro st st' Z Z' ex h
  simp only[exec]at h
  split at h
  ·rename_i h1;cases h;exact ev_reg hc h1
  ·cases h
 | draw ops =>
  intro st st' Z Z' ex h
  simp only[exec]at h
  split at h
  ·rename_i h1
   simp only[Bool.cond_eq_ite]at h
   split at h
   ·cases h;exact ev_reg hc (zHJ h1).1
   ·cases h
  ·cases h
 | seq a b iha ihb =>
  intro st st' Z Z' ex h
  simp only[exec]at h
  split at h
  ·rename_i h1;exact(iha h1).trans (ihb h)
  ·exact iha h
 | cond v a b iha ihb =>
  intro st st' Z Z' ex h
  simp only[exec]at h
  split at h
  ·exact iha h
  ·exact ihb h
  ·cases h
 | block id x ih =>
  intro st st' Z Z' ex h
  simp only[exec]at h
  split at h
  ·rename_i h1
   simp only[Bool.cond_eq_ite]at h
   split at h <;>(cases h;exact ih h1)
  ·exact ih h
 | loop x ih =>
  intro st st' Z Z' ex h
  have key:∀ n {st st':St} {Z Z':Tape} {ex:Ex},zNG (exec c N x) n st Z=some (ex,st',Z')->Ev st.hp st'.hp:=by
   intro n
   induction n with
   | zero=>intro st st' Z Z' ex h;cases h
   | succ n ihn =>
    intro st st' Z Z' ex h
    simp only[zNG]at h
    split at h
    ·rename_i h1;exact(ih h1).trans (ihn h)
    ·exact ih h
  exact key N h
 | exit id=>intro st st' Z Z' ex h;cases h;exact Ev.refl _
 | ret=>intro st st' Z Z' ex h;cases h;exact Ev.refl _
 | scope x ih=>intro st st' Z Z' ex h;exact ih h
 | keep l x ih=>intro st st' Z Z' ex h;have:=ih (st:=⟨_,st.hp⟩) h;exact this
 | bad=>intro st st' Z Z' ex h;cases h
theorem ev_prefix {is:List Ins}{st a b:St}{Z τa τb:Tape}{i p:Nat}(hip:i<=p)(h1:zo c (is.take i) st Z=some (a,τa))(h2:zo c (is.take p) st Z=some (b,τb)):Ev a.hp b.hp:=by
 have hs:is.take p=is.take i++(is.take p).drop i:=by
  have:=List.take_append_drop i (is.take p)
  rw[List.take_take,Nat.min_eq_left hip]at this
  exact this.symm
 rw[hs,zC9,h1]at h2
 exact ev_reg hc h2
end
theorem ev_call {prog:Nat->Option Def}(hp:∀ f p,prog f=some (.prim p)->zRh p)(N:Nat):∀ k,zQS (call prog N k):=by
 intro k
 induction k with
 | zero=>intro f vs H Z v H' Z' h;cases h
 | succ k ih =>
  intro f vs H Z v H' Z' h
  have h:zJa (call prog N k) N (prog f) vs H Z=some (v,H',Z'):=h
  cases hd:prog f with
  | none=>rw[hd]at h;cases h
  | some d =>
   rw[hd]at h
   cases d with
   | prim p=>exact hp f p hd _ _ _ _ _ _ h
   | fn fn =>
    simp only[zJa,Bool.cond_eq_ite]at h
    split at h
    ·split at h
     ·cases h
     ·rename_i h1
      split at h
      ·cases h;exact ev_exec ih N _ h1
      ·cases h
     ·cases h
    ·cases h
theorem zRb {H H':Heap}(h:StOk H H'){id s:Nat}(hs:zPf H id=some s)(hs':zPf H' id=some s)(agg:Option Nat)(off:Nat):zGU (.load agg) [.ptr id off] H'=zGU (.load agg) [.ptr id off] H:=by
 have key:∀ {H:Heap},zPf H id=some s->∃ cs room fam ver wr pl,H.blk.get id=some (.mem cs room fam ver wr pl s)/\H.cells? id=some cs:=by
  intro H hs
  unfold zPf at hs
  split at hs
  ·rename_i cs room fam ver wr pl st hb
   split at hs
   ·rename_i fr la hf
    cases hl:Nat.ble fr ver with
    | true =>
     rw[hl]at hs
     cases hs
     refine⟨cs,room,fam,ver,wr,pl,hb,?_⟩
     simp only[Heap.cells?,hb,hf,hl,cond_true]
    | false=>rw[hl]at hs;cases hs
   ·cases hs
  ·cases hs
 obtain⟨cs,room,fam,ver,wr,pl,h1,h2⟩:=key hs
 obtain⟨cs',room',fam',ver',wr',pl',h3,h4⟩:=key hs'
 obtain⟨cs2,st2,h5,_,h6⟩:=h _ _ _ _ _ _ _ _ h1
 rw[h3]at h5
 cases h5
 rw[h6 rfl]at h4
 cases agg <;> simp only[zGU,zRB,zf,zA7,Heap.load,Heap.loads,h2,h4]
end Go.Am

namespace Go.Am
theorem mask_fold (acc:List Nat):∀ (es:List Edge) (s m:Nat),(es.foldl (fun s e=>if Region.binds .any e then s ||| 2 ^ e.on ||| acc.getD e.on 0 else s) s).testBit m=true ->
  s.testBit m=true∨∃ e ∈ es,Region.binds .any e=true/\(m=e.on∨(acc.getD e.on 0).testBit m=true):=by
 intro es
 induction es with
 | nil=>intro s m h;exact .inl h
 | cons e es ih =>
  intro s m h
  rw[List.foldl_cons]at h
  rcases ih _ m h with h | ⟨e',he,h1,h2⟩
  ·split at h
   ·rename_i hb
    rw[Nat.testBit_or,Nat.testBit_or,Bool.or_eq_true,Bool.or_eq_true]at h
    rcases h with(h | h) | h
    ·exact .inl h
    ·rw[Nat.testBit_two_pow]at h
     exact .inr ⟨e,List.mem_cons_self,hb,.inl (by simpa using (of_decide_eq_true h).symm)⟩
    ·exact .inr ⟨e,List.mem_cons_self,hb,.inr h⟩
   ·exact .inl h
  ·exact .inr ⟨e',List.mem_cons_of_mem _ he,h1,h2⟩
theorem maskOf_bit {o:Oper}{acc:List Nat}{m:Nat}(h:(zQt o acc).testBit m=true):∃ e ∈ o.after.toList,Region.binds .any e=true/\(m=e.on∨(acc.getD e.on 0).testBit m=true):=by
 rcases mask_fold acc _ _ _ h with h | h
 ·simp at h
 ·exact h
theorem zSM:∀ (ops:List Oper) (acc:List Nat),(befs ops acc).length=acc.length+ops.length/\(befs ops acc).take acc.length=acc:=by
 intro ops
 induction ops with
 | nil=>intro acc;simp[befs]
 | cons o ops ih =>
  intro acc
  obtain⟨h1,h2⟩:=ih (acc++[zQt o acc])
  refine⟨by simp only[befs,h1,List.length_append,List.length_cons,List.length_nil];omega,?_⟩
  simp only[befs]
  have:=congrArg (List.take acc.length) h2
  rw[List.take_take]at this
  rw[show min acc.length (acc++[zQt o acc]).length=acc.length by simp]at this
  rw[this]
  simp
theorem befs_get:∀ (ops:List Oper) (acc:List Nat) (i:Nat) (o:Oper),ops[i]?=some o->(befs ops acc)[acc.length+i]?=some (zQt o ((befs ops acc).take (acc.length+i))):=by
 intro ops
 induction ops with
 | nil=>intro acc i o h;simp at h
 | cons o' ops ih =>
  intro acc i o h
  cases i with
  | zero =>
   simp only[List.getElem?_cons_zero,Option.some.injEq]at h
   subst h
   obtain⟨_,h2⟩:=zSM ops (acc++[zQt o' acc])
   obtain⟨_,h3⟩:=zSM (o' :: ops) acc
   rw[Nat.add_zero,h3]
   simp only[befs]
   have:=congrArg (fun l=>l[acc.length]?) h2
   simp only[List.getElem?_take,List.length_append,List.length_cons,List.length_nil,Nat.zero_add,Nat.lt_add_one,if_true]at this
   rw[this]
   simp
  | succ i =>
   have:=ih (acc++[zQt o' acc]) i o (by simpa using h)
   simp only[List.length_append,List.length_cons,List.length_nil,Nat.zero_add]at this
   simp only[befs]
   rw[show acc.length+(i+1)=acc.length+1+i by omega]
   exact this
theorem edges_lt {ops:List Oper}(h:zQY ops=true){i:Nat}{o:Oper}(ho:ops[i]?=some o){e:Edge}(he:e ∈ o.after.toList)(hb:Region.binds .any e=true):e.on<i:=by
 unfold zQY at h
 rw[List.all_eq_true]at h
 have:=h (o,i) (by rw[List.mem_iff_getElem?];exact⟨i,by rw[List.getElem?_zipIdx];simp[ho]⟩)
 simp only[List.all_eq_true]at this
 have:=this e he
 simpa [hb] using this
theorem bef_step {ops:List Oper}(h:zQY ops=true){i:Nat}{o:Oper}(ho:ops[i]?=some o){m:Nat}(hm:((befs ops []).getD i 0).testBit m=true) :
  ∃ e ∈ o.after.toList,Region.binds .any e=true/\e.on<i/\(m=e.on∨((befs ops []).getD e.on 0).testBit m=true):=by
 have h1:=befs_get ops [] i o ho
 simp only[List.length_nil,Nat.zero_add]at h1
 rw[List.getD_eq_getElem?_getD,h1,Option.getD_some]at hm
 obtain⟨e,he,hb,h2⟩:=maskOf_bit hm
 have hlt:=edges_lt h ho he hb
 refine⟨e,he,hb,hlt,h2.imp id fun h2=>?_⟩
 rw[List.getD_eq_getElem?_getD,List.getElem?_take,if_pos hlt]at h2
 rw[List.getD_eq_getElem?_getD]
 exact h2
theorem bef_lt {ops:List Oper}(h:zQY ops=true):∀ (i m:Nat),((befs ops []).getD i 0).testBit m=true->m<i:=by
 intro i
 induction i using Nat.strongRecOn with
 | _ i ih =>
  intro m hm
  cases ho:ops[i]? with
  | none =>
   have:(befs ops []).getD i 0=0:=by
    rw[List.getD_eq_getElem?_getD,List.getElem?_eq_none,Option.getD_none]
    rw[(zSM ops []).1]
    simpa using List.getElem?_eq_none_iff.1 ho
   rw[this]at hm
   simp at hm
  | some o =>
   obtain⟨e,_,_,hlt,h2⟩:=bef_step h ho hm
   rcases h2 with h2 | h2
   ·omega
   ·have:=ih e.on hlt m h2
    omega
theorem parted_get {bs:List Nat}{f:Nat}{is:List Ins}(h:zQx bs f is=true){i j:Nat}{x y:Ins}(hx:is[i]?=some x)(hy:is[j]?=some y)(hne:i≠j):parted bs f i j x y=true:=by
 unfold zQx at h
 rw[List.all_eq_true]at h
 have h1:=h (x,i) (by rw[List.mem_iff_getElem?];exact⟨i,by rw[List.getElem?_zipIdx];simp[hx]⟩)
 rw[List.all_eq_true]at h1
 have h2:=h1 (y,j) (by rw[List.mem_iff_getElem?];exact⟨j,by rw[List.getElem?_zipIdx];simp[hy]⟩)
 simpa [hne] using h2
theorem parted_spec {bs:List Nat}{f i j:Nat}{x y:Ins}(h:parted bs f i j x y=true) :
  (∀ d,y.dst=some d->d ∈ readsOf x->(j<i/\(bs.getD i 0).testBit j=true)∨(i<j/\(bs.getD j 0).testBit i=true)) /\
  (∀ d,x.dst=some d->y.dst≠some d)/\(x.op.eff=true->y.op.eff=true->j<i->i≠f->(bs.getD i 0).testBit j=true):=by
 unfold parted at h
 simp only[Bool.and_eq_true]at h
 obtain⟨⟨h1,h2⟩,h3⟩:=h
 refine⟨fun d hd hr=>?_,fun d hd he=>?_,fun ha hb hlt hf=>?_⟩
 ·rw[hd]at h1
  simp only[Bool.or_eq_true,Bool.and_eq_true,decide_eq_true_eq,Bool.not_eq_true',List.contains_eq_mem,decide_eq_false_iff_not]at h1
  rcases h1 with(h1 | h1) | h1
  ·exact absurd hr h1
  ·exact .inl h1
  ·exact .inr h1
 ·rw[hd,he]at h2
  simp at h2
 ·simp[ha,hb,hlt,hf]at h3
  simpa using h3
theorem floats_spec {ops:List Oper}{bs:List Nat}{f:Nat}{is:List Ins}(h:zSU ops bs f is=true){x:Ins}(hx:is[f]?=some x){o:Oper}(ho:ops[f]?=some o) :
  x.guard=none/\zH5 x.op=true/\∀ (j:Nat) (y:Oper),j≠f->ops[j]?=some y->((∃ d,o.dst=some d/\d ∈ y.looksAt ops.toArray)∨(∃ e ∈ y.after.toList,Region.binds .any e=true/\e.on=f)) ->
   (bs.getD f 0).testBit j=true∨∀ (e:Nat) (z:Ins),is[e]?=some z->z.op.eff=true->e<f->(bs.getD j 0).testBit e=true:=by
 unfold zSU at h
 rw[hx,ho]at h
 simp only[Bool.and_eq_true,Option.isNone_iff_eq_none]at h
 obtain⟨⟨h1,h2⟩,h3⟩:=h
 refine⟨h1,h2,fun j y hj hy ht=>?_⟩
 rw[List.all_eq_true]at h3
 have h4:=h3 (y,j) (by rw[List.mem_iff_getElem?];exact⟨j,by rw[List.getElem?_zipIdx];simp[hy]⟩)
 have htt:touches ops f o.dst y=true:=by
  unfold touches
  rcases ht with⟨d,hd,hm⟩ | ⟨e,he,hb,hon⟩
  ·rw[hd]
   have:(y.looksAt ops.toArray).contains d=true:=by simpa using hm
   simp only[this,Bool.true_or]
  ·have:(y.after.toList.any fun e=>Region.binds .any e && e.on == f)=true:=by
    rw[List.any_eq_true]
    exact⟨e,he,by simp[hb,hon]⟩
   simp only[this,Bool.or_true]
 simp only[htt,Bool.not_true,Bool.or_false,Bool.or_eq_true,beq_iff_eq]at h4
 rcases h4 with(h4 | h4) | h4
 ·exact absurd h4 hj
 ·exact .inl h4
 ·refine .inr fun e z hz he hlt=>?_
  rw[List.all_eq_true]at h4
  have h5:=h4 (z,e) (by rw[List.mem_iff_getElem?];exact⟨e,by rw[List.getElem?_zipIdx];simp[hz]⟩)
  simpa [he,hlt] using h5
theorem zH4 {bs:List Nat}{is:List Ins}{i:Nat}{x':Ins}(h:(zIH bs is)[i]?=some x'):∃ x,is[i]?=some x/\x'={ x with rng:=rngOf bs is i x }:=by
 unfold zIH at h
 rw[List.getElem?_map,List.getElem?_zipIdx]at h
 cases hx:is[i]? with
 | none=>rw[hx]at h;simp at h
 | some x =>
  rw[hx]at h
  simp only[Option.map_some,Nat.zero_add,Option.some.injEq]at h
  exact⟨x,rfl,h.symm⟩
theorem withRng_len (bs:List Nat)(is:List Ins):(zIH bs is).length=is.length:=by simp[zIH]
theorem effs_count:∀ (is:List Ins) (n p:Nat),((((is.zipIdx n).filter (·.1.op.eff)).map (·.2)).filter (· < n+p)).length=effN (is.take p):=by
 intro is
 induction is with
 | nil=>intro n p;simp[effN]
 | cons x is ih =>
  intro n p
  cases p with
  | zero =>
   simp only[List.take_zero,effN,List.countP_nil,List.length_eq_zero_iff,List.filter_eq_nil_iff,List.mem_map,List.mem_filter]
   rintro a ⟨⟨y,k⟩,⟨hm,_⟩,rfl⟩
   have:=List.le_snd_of_mem_zipIdx hm
   simp at this ⊢
   exact this
  | succ p =>
   have:=ih (n+1) p
   rw[show n+1+p=n+(p+1)by omega]at this
   simp only[List.zipIdx_cons,List.take_succ_cons]
   cases hx:x.op.eff with
   | true =>
    rw[List.filter_cons_of_pos (by simpa using hx)]
    simp only[List.map_cons,List.filter_cons_of_pos (p:=fun a=>decide (a<n+(p+1))) (a:=n) (by simp),List.length_cons,this,effN,List.countP_cons,hx,if_true]
   | false =>
    rw[List.filter_cons_of_neg (by simp[hx])]
    simp only[this,effN,List.countP_cons,hx]
    simp
theorem effN_withRng (bs:List Nat)(is:List Ins)(p:Nat):effN ((zIH bs is).take p)=effN (is.take p):=by
 have h1:∀ (l:List Ins) (n:Nat),((l.zipIdx n).map fun(x,i)=>({ x with rng:=rngOf bs is i x }:Ins)).map (·.op.eff)=l.map (·.op.eff):=by
  intro l
  induction l with
  | nil=>intro n;rfl
  | cons y l ih=>intro n;simp only[List.zipIdx_cons,List.map_cons,ih]
 have h2:((zIH bs is).take p).map (·.op.eff)=(is.take p).map (·.op.eff):=by
  rw[List.map_take,List.map_take]
  unfold zIH
  rw[h1]
 have h3:∀ l:List Ins,effN l=(l.map (·.op.eff)).countP id:=by
  intro l;rw[List.countP_map];rfl
 rw[h3,h3,h2]
theorem mem_effs {is:List Ins}{e:Nat}(h:e ∈ effs is):∃ y,is[e]?=some y/\y.op.eff=true:=by
 unfold effs at h
 simp only[List.mem_map,List.mem_filter]at h
 obtain⟨⟨y,k⟩,⟨hm,he⟩,rfl⟩:=h
 rw[List.mem_iff_getElem?]at hm
 obtain⟨m,hm⟩:=hm
 rw[List.getElem?_zipIdx]at hm
 cases hy:is[m]? with
 | none=>rw[hy]at hm;simp at hm
 | some z =>
  rw[hy]at hm
  simp only[Option.map_some,Nat.zero_add,Option.some.injEq,Prod.mk.injEq]at hm
  obtain⟨rfl,rfl⟩:=hm
  exact⟨z,hy,he⟩
theorem rng_spec {bs:List Nat}{is:List Ins}{i:Nat}{x:Ins}{lop:LOp}(hop:x.op=.l lop):∃ lo hi,
  (∀ p,(∀ e y,is[e]?=some y->y.op.eff=true->(bs.getD i 0).testBit e=true->e<p)->(∀ e y,is[e]?=some y->y.op.eff=true->e<p->(bs.getD e 0).testBit i=false)->lo<=effN (is.take p)/\effN (is.take p)<=hi) /\
  (rngOf bs is i x=some (lo,hi)∨(rngOf bs is i x=none/\lo=hi)):=by
 refine⟨((effs is).filter fun e=>(bs.getD i 0).testBit e).length,((effs is).filter fun e=>!(bs.getD e 0).testBit i).length,?_,?_⟩
 ·intro p h1 h2
  have h3:=effs_count is 0 p
  rw[Nat.zero_add]at h3
  rw[<- h3]
  simp only[<- List.countP_eq_length_filter]
  constructor
  ·refine List.countP_mono_left fun e he hb=>?_
   obtain⟨y,hy,hey⟩:=mem_effs he
   simpa using h1 e y hy hey hb
  ·refine List.countP_mono_left fun e he hb=>?_
   obtain⟨y,hy,hey⟩:=mem_effs he
   rw[h2 e y hy hey (by simpa using hb)]
   rfl
 ·unfold rngOf
  rw[hop]
  simp only
  split
  ·rename_i e;exact .inr ⟨rfl,e⟩
  ·exact .inl rfl
theorem zOZ:∀ (l:List Nat) (fr acc:T V) (t:Nat),(zP3 l fr acc).get t=if t ∈ l/\(fr.get t).isSome then fr.get t else acc.get t:=by
 intro l
 induction l with
 | nil=>intro fr acc t;simp[zP3]
 | cons i l ih =>
  intro fr acc t
  simp only[zP3]
  rw[ih]
  by_cases h:t ∈ l/\(fr.get t).isSome
  ·rw[if_pos h,if_pos ⟨List.mem_cons_of_mem _ h.1,h.2⟩]
  ·rw[if_neg h]
   by_cases e:i=t
   ·subst e
    cases hg:fr.get i with
    | none=>simp
    | some v=>simp[T.get_set_same]
   ·have:(match fr.get i with | some v=>acc.s i v | none=>acc).get t=acc.get t:=by
     cases fr.get i with
     | none=>rfl
     | some v=>exact T.get_set_ne _ _ e
    refine this.trans ?_
    rw[if_neg]
    rintro⟨h1,h2⟩
    rcases List.mem_cons.1 h1 with h1 | h1
    ·exact e h1.symm
    ·exact h ⟨h1,h2⟩
theorem evOs_congr {fr fr':T V}:∀ {os:List O},(∀ t,O.t t ∈ os->fr'.get t=fr.get t)->evOs fr' os=evOs fr os:=by
 intro os
 induction os with
 | nil=>intro _;rfl
 | cons o os ih =>
  intro h
  have h1:evO fr' o=evO fr o:=by
   cases o with
   | t i=>exact h i List.mem_cons_self
   | c v=>rfl
  simp only[evOs,h1,ih fun t ht=>h t (List.mem_cons_of_mem _ ht)]
theorem wants_congr {fr fr':T V}{g:Option (Nat × Bool)}(h:∀ t b,g=some (t,b)->fr'.get t=fr.get t):wants fr' g=wants fr g:=by
 cases g with
 | none=>rfl
 | some tb=>simp only[wants,h tb.1 tb.2 rfl]
theorem args_reads {x:Ins}{t:Nat}(h:O.t t ∈ x.args):t ∈ readsOf x:=by
 unfold readsOf
 refine List.mem_append_left _ (List.mem_filterMap.2 ⟨_,h,rfl⟩)
theorem guard_reads {x:Ins}{t:Nat}{b:Bool}(h:x.guard=some (t,b)):t ∈ readsOf x:=by
 unfold readsOf
 rw[h]
 exact List.mem_append_right _ (by simp)
theorem count_set (f g:Nat->Bool)(i:Nat)(hf:f i=true)(hg:g i=false)(h:∀ j,j≠i->g j=f j):∀ n,i<n->(List.range n).countP g+1=(List.range n).countP f:=by
 intro n
 induction n with
 | zero=>intro hi;omega
 | succ n ih =>
  intro hi
  rw[List.range_succ,List.countP_append,List.countP_append]
  by_cases e:i=n
  ·subst e
   have:(List.range i).countP g=(List.range i).countP f:=List.countP_congr fun j hj=>by
    rw[h j (by have:=List.mem_range.1 hj;omega)]
   rw[this]
   simp[hf,hg]
  ·have:=ih (by omega)
   have h2:=h n (Ne.symm e)
   simp only[List.countP_cons,List.countP_nil,h2]
   omega
end Go.Am

namespace Go.Am
open Go.RowKit (Below)
section
variable {P:Program} {w w0:World} {U U0:Inj} {base:Base} {nt:Nat}
structure DFacts (P:Program) (nt:Nat) (ops:Array Oper) (bs:List Nat) (f:Nat) (is:List Ins):Prop where
 len:is.length=ops.size
 ins:∀ (i:Nat) (o:Oper) (x:Ins),ops[i]?=some o->is[i]?=some x ->
  o.dst.all (· < nt)=true/\x.dst=o.dst/\zPA ops.toList o.guard=some x.guard/\∃ xs,trOp P o.op=some (x.op,xs)/\zAs (trO P) xs=some x.args
 step:∀ (i:Nat) (o:Oper) (m:Nat),ops[i]?=some o->(bs.getD i 0).testBit m=true->∃ e ∈ o.after.toList,Region.binds .any e=true/\e.on<i/\(m=e.on∨(bs.getD e.on 0).testBit m=true)
 lt:∀ i m:Nat,(bs.getD i 0).testBit m=true->m<i
 edge:∀ (i:Nat) (o:Oper),ops[i]?=some o->∀ e ∈ o.after.toList,Region.binds .any e=true->e.on<i
 parts:∀ (i j:Nat) (x y:Ins),is[i]?=some x->is[j]?=some y->i≠j ->
  (∀ d,y.dst=some d->d ∈ readsOf x->(j<i/\(bs.getD i 0).testBit j=true)∨(i<j/\(bs.getD j 0).testBit i=true)) /\
  (∀ d,x.dst=some d->y.dst≠some d)/\(x.op.eff=true->y.op.eff=true->j<i->i≠f->(bs.getD i 0).testBit j=true)
 rng:∀ (i:Nat) (x:Ins) (lop:LOp),is[i]?=some x->x.op=.l lop->∃ lo hi,
  (∀ p,(∀ e y,is[e]?=some y->y.op.eff=true->(bs.getD i 0).testBit e=true->e<p)->(∀ e y,is[e]?=some y->y.op.eff=true->e<p->(bs.getD e 0).testBit i=false)->lo<=effN (is.take p)/\effN (is.take p)<=hi) /\
  (x.rng=some (lo,hi)∨(x.rng=none/\lo=hi))
 float:∀ x o,is[f]?=some x->ops[f]?=some o->x.guard=none/\zH5 x.op=true/\∀ (j:Nat) (y:Oper),j≠f->ops[j]?=some y->((∃ d,o.dst=some d/\d ∈ y.looksAt ops)∨(∃ e ∈ y.after.toList,Region.binds .any e=true/\e.on=f)) ->
  (bs.getD f 0).testBit j=true∨∀ (e:Nat) (z:Ins),is[e]?=some z->z.op.eff=true->e<f->(bs.getD j 0).testBit e=true
theorem dfacts {ops:Array Oper}{is:List Ins}(h:zRj P nt ops.toList=some is):∃ f,DFacts P nt ops (befs ops.toList []) f is:=by
 unfold zRj at h
 split at h
 ·rename_i is0 h0
  simp only at h
  split at h
  ·rename_i hc
   cases h
   simp only[Bool.and_eq_true]at hc
   obtain⟨⟨he,hp⟩,hfl⟩:=hc
   obtain⟨hl,hg⟩:=zN5 _ _ _ h0
   have hw:∀ {e:Nat} {y':Ins},(zIH (befs ops.toList []) is0)[e]?=some y'->∃ y:Ins,is0[e]?=some y/\y'.op=y.op/\y'.guard=y.guard:=fun h=>by
    obtain⟨x0,hx0,rfl⟩:=zH4 h
    exact⟨x0,hx0,rfl,rfl⟩
   refine⟨floater (befs ops.toList []) is0,by rw[withRng_len,hl];simp,?_,?_,bef_lt he,?_,?_,?_,?_⟩
   ·intro i o x ho hx
    obtain⟨x0,hx0,rfl⟩:=zH4 hx
    obtain⟨a1,a2,_,a4,a5⟩:=trIns_inv (hg i o x0 (by rw[Array.getElem?_toList];exact ho) hx0)
    exact⟨a1,a2,a4,a5⟩
   ·intro i o m ho hm
    exact bef_step he (by rw[Array.getElem?_toList];exact ho) hm
   ·intro i o ho e hm hb
    exact edges_lt he (by rw[Array.getElem?_toList];exact ho) hm hb
   ·intro i j x y hx hy hne
    obtain⟨x0,hx0,rfl⟩:=zH4 hx
    obtain⟨y0,hy0,rfl⟩:=zH4 hy
    have hpp:=parted_get hp hx0 hy0 hne
    exact parted_spec (x:=x0) (y:=y0) hpp
   ·intro i x lop hx hop
    obtain⟨x0,hx0,rfl⟩:=zH4 hx
    obtain⟨lo,hi,h1,h2⟩:=rng_spec (bs:=befs ops.toList []) (is:=is0) (i:=i) (x:=x0) hop
    refine⟨lo,hi,fun p ha hb=>?_,h2⟩
    rw[effN_withRng]
    have hw:∀ (e:Nat) (y:Ins),is0[e]?=some y->∃ y':Ins,(zIH (befs ops.toList []) is0)[e]?=some y'/\y'.op=y.op:=by
     intro e y hy
     unfold zIH
     rw[List.getElem?_map,List.getElem?_zipIdx,hy]
     exact⟨_,rfl,rfl⟩
    refine h1 p (fun e y hy hey hb1=>?_) (fun e y hy hey hlt=>?_)
    ·obtain⟨y',hy',e1⟩:=hw e y hy
     exact ha e y' hy' (by rw[e1];exact hey) hb1
    ·obtain⟨y',hy',e1⟩:=hw e y hy
     exact hb e y' hy' (by rw[e1];exact hey) hlt
   ·intro x o hx ho
    obtain⟨x0,hx0,e1,e2⟩:=hw hx
    obtain⟨k1,k2,k3⟩:=floats_spec hfl hx0 (by rw[Array.getElem?_toList];exact ho)
    refine⟨by rw[e2];exact k1,by rw[e1];exact k2,fun j y hj hy ht=>?_⟩
    rcases k3 j y hj (by rw[Array.getElem?_toList];exact hy) (by simpa using ht)with h | h
    ·exact .inl h
    ·refine .inr fun e z hz hez hlt=>?_
     obtain⟨z0,hz0,e3,_⟩:=hw hz
     exact h e z0 hz0 (by rw[<- e3];exact hez) hlt
  ·cases h
 ·cases h
structure DInv (P:Program) (base:Base) (nt:Nat) (w0:World) (c:zEa) (bs:List Nat) (is:List Ins) (st0:St) (a0:Act) (U0:Inj) (n:Nat) (listed:Array Bool) (a:Act) (w:World) (U:Inj) (pre:List Nat) (p:Nat) (stp:St):Prop where
 size:listed.size=n
 closed:∀ j m,listed.getD j false=true->(bs.getD j 0).testBit m=true->listed.getD m false=true
 eff:∀ j x,is[j]?=some x->x.op.eff=true->(j<p ↔ listed.getD j false=true)
 ple:p<=is.length
 run:∀ Z,zo c (is.take p) st0 (Tape.app pre Z)=some (stp,Z)
 mrel:MRel U base w0 stp.hp w
 glob:GOk P U stp.hp
 ext:Ext st0.hp U0 U
 evol:Evol st0.hp stp.hp
 defers:a.defers=[]
 tsize:nt<=a.tmps.size
 old:∀ t,(∀ j x,is[j]?=some x->listed.getD j false=true->x.dst≠some t)->a.tmps[t]?=a0.tmps[t]?
 new:∀ Z j x d stf τf,is[j]?=some x->listed.getD j false=true->x.dst=some d->zo c is st0 (Tape.app pre Z)=some (stf,τf)->∃ v,stf.fr.get d=some v/\a.tmps[d]?=some (cv U v)/\VOk stp.hp v
theorem zM3 {c:zEa}{is:List Ins}{i:Nat}{x:Ins}(hx:is[i]?=some x){st stf:St}{Z τf:Tape}(h:zo c is st Z=some (stf,τf)) :
  ∃ sti τi sti' τi',zo c (is.take i) st Z=some (sti,τi)/\zBM c x sti τi=some (sti',τi')/\zo c (is.drop (i+1)) sti' τi'=some (stf,τf):=by
 have hlt:i<is.length:=(List.getElem?_eq_some_iff.1 hx).1
 have hxe:is[i]=x:=(List.getElem?_eq_some_iff.1 hx).2
 have hs:is=is.take i++x::is.drop (i+1):=by
  rw[<- hxe,<- List.drop_eq_getElem_cons hlt,List.take_append_drop]
 rw[hs,zC9]at h
 split at h
 ·rename_i sti τi h1
  simp only[zo]at h
  split at h
  ·rename_i sti' τi' h2
   exact⟨sti,τi,sti',τi',h1,h2,h⟩
  ·cases h
 ·cases h
section
variable {ops:Array Oper} {bs:List Nat} {f:Nat} {is:List Ins} {c:zEa} {st0:St} {a0 a:Act} {listed:Array Bool} {pre:List Nat} {p:Nat} {stp:St}
theorem mem_take_get {α:Type}{l:List α}{i:Nat}{x:α}(h:x ∈ l.take i):∃ j,j<i/\l[j]?=some x:=by
 rw[List.mem_iff_getElem?]at h
 obtain⟨j,hj⟩:=h
 rw[List.getElem?_take]at hj
 split at hj
 ·rename_i hlt;exact⟨j,hlt,hj⟩
 ·cases hj
theorem zFU {α:Type}{l:List α}{i:Nat}{x:α}(h:x ∈ l.drop i):∃ j,i<=j/\l[j]?=some x:=by
 rw[List.mem_iff_getElem?]at h
 obtain⟨j,hj⟩:=h
 rw[List.getElem?_drop]at hj
 exact⟨i+j,by omega,hj⟩
theorem DInv.reads (hD:DFacts P nt ops bs f is)(hI:DInv P base nt w0 c bs is st0 a0 U0 ops.size listed a w U pre p stp)(hF0:FRel U0 st0.hp nt st0.fr a0)(htot:∀ Z,zo c is st0 Z≠none)
  {i:Nat} {x:Ins} (hx:is[i]?=some x) (hu:listed.getD i false=false) (hb:∀ m,(bs.getD i 0).testBit m=true->listed.getD m false=true) {Z τi:Tape} {sti:St}
  (hr:zo c (is.take i) st0 (Tape.app pre Z)=some (sti,τi)) {t:Nat} (ht:t ∈ readsOf x) {v:V} (hv:sti.fr.get t=some v):a.tmps[t]?=some (cv U v)/\VOk stp.hp v:=by
 have first:(∀ j y,is[j]?=some y->listed.getD j false=true->y.dst≠some t)->(∀ j y,j<i->is[j]?=some y->y.dst≠some t)->a.tmps[t]?=some (cv U v)/\VOk stp.hp v:=by
  intro h1 h2
  rw[hI.old t h1]
  have:sti.fr.get t=st0.fr.get t:=zKS hr fun y hy=>by
   obtain⟨j,hj,hjy⟩:=mem_take_get hy
   exact h2 j y hj hjy
  rw[this]at hv
  obtain⟨k1,k2⟩:=hF0.get t v hv
  rw[zB9 hI.ext v k2]
  exact⟨k1,k2.mono hI.evol⟩
 by_cases hd:∃ (j:Nat) (y:Ins),is[j]?=some y/\y.dst=some t
 ·obtain⟨j,y,hy,hyd⟩:=hd
  have only:∀ j' y',is[j']?=some y'->y'.dst=some t->j'=j:=by
   intro j' y' hy' hd'
   by_cases e:j'=j
   ·exact e
   ·exact absurd hyd ((hD.parts j' j y' y hy' hy e).2.1 t hd')
  by_cases e:j=i
  ·subst e
   refine first (fun j' y' hy' hl hd'=>?_) (fun j' y' hlt hy' hd'=>?_)
   ·have:=only j' y' hy' hd'
    subst this
    rw[hu]at hl;cases hl
   ·have:=only j' y' hy' hd'
    omega
  ·rcases(hD.parts i j x y hx hy (Ne.symm e)).1 t hyd ht with⟨hlt,hbit⟩ | ⟨hlt,hbit⟩
   ·have hl:=hb j hbit
    cases hf:zo c is st0 (Tape.app pre Z)with
    | none=>exact absurd hf (htot _)
    | some r =>
     obtain⟨stf,τf⟩:=r
     obtain⟨sti2,τi2,sti',τi',k1,k2,k3⟩:=zM3 hx hf
     rw[hr]at k1
     cases k1
     obtain⟨v',m1,m2,m3⟩:=hI.new Z j y t stf τf hy hl hyd hf
     have e1:stf.fr.get t=sti'.fr.get t:=zKS k3 fun y' hy' hd'=>by
      obtain⟨j',hj',hjy'⟩:=zFU hy'
      have:=only j' y' hjy' hd'
      omega
     have e2:sti'.fr.get t=sti.fr.get t:=zRl k2 fun hd'=>e (only i x hx hd').symm
     rw[e1,e2,hv]at m1
     cases m1
     exact⟨m2,m3⟩
   ·refine first (fun j' y' hy' hl hd'=>?_) (fun j' y' hlt' hy' hd'=>?_)
    ·have:=only j' y' hy' hd'
     subst this
     have:=hI.closed j' i hl hbit
     rw[hu]at this;cases this
    ·have:=only j' y' hy' hd'
     omega
 ·refine first (fun j' y' hy' _ hd'=>hd ⟨j',y',hy',hd'⟩) (fun j' y' _ hy' hd'=>hd ⟨j',y',hy',hd'⟩)
theorem DInv.frame (hD:DFacts P nt ops bs f is)(hI:DInv P base nt w0 c bs is st0 a0 U0 ops.size listed a w U pre p stp)(hF0:FRel U0 st0.hp nt st0.fr a0)(htot:∀ Z,zo c is st0 Z≠none)
  {i:Nat} {x:Ins} (hx:is[i]?=some x) (hu:listed.getD i false=false) (hb:∀ m,(bs.getD i 0).testBit m=true->listed.getD m false=true) {Z τi:Tape} {sti:St}
  (hr:zo c (is.take i) st0 (Tape.app pre Z)=some (sti,τi)):FRel U stp.hp nt (zP3 (readsOf x) sti.fr .leaf) a :=
 ⟨hI.defers,hI.tsize,fun t v h=>by
  rw[zOZ]at h
  split at h
  ·rename_i hc
   exact hI.reads hD hF0 htot hx hu hb hr hc.1 h
  ·cases h⟩
theorem keep_args (x:Ins)(fr:T V):evOs (zP3 (readsOf x) fr .leaf) x.args=evOs fr x.args :=
 evOs_congr fun t ht=>by
  rw[zOZ]
  split
  ·rfl
  ·rename_i h
   cases hg:fr.get t with
   | none=>rfl
   | some v=>exact absurd ⟨args_reads ht,by simp[hg]⟩ h
theorem keep_wants (x:Ins)(fr:T V):wants (zP3 (readsOf x) fr .leaf) x.guard=wants fr x.guard :=
 wants_congr fun t b ht=>by
  rw[zOZ]
  split
  ·rfl
  ·rename_i h
   cases hg:fr.get t with
   | none=>rfl
   | some v=>exact absurd ⟨guard_reads ht,by simp[hg]⟩ h
theorem zCF {listed:Array Bool}{i j:Nat}(hi:i<listed.size):((listed.setIfInBounds i true).getD j false=true) ↔ (j=i∨listed.getD j false=true):=by
 by_cases e:i=j
 ·subst e;simp[hi]
 ·rw[getD_set_ne false e]
  constructor
  ·exact .inr
  ·rintro(h | h)
   ·exact absurd h.symm e
   ·exact h
theorem zKc {a:Act}{dst:Option Tmp}{u:Value}{t:Nat}(h:dst≠some t):(a.put dst u).tmps[t]?=a.tmps[t]?:=by
 cases dst with
 | none=>rfl
 | some d =>
  simp only[Act.put]
  rw[Array.getElem?_setIfInBounds_ne (fun e=>h (by rw[e]))]
theorem zQH {a:Act}{d:Nat}{u:Value}(h:d<a.tmps.size):(a.put (some d) u).tmps[d]?=some u:=by
 simp only[Act.put]
 rw[Array.getElem?_setIfInBounds_self_of_lt h]
theorem zOc {a:Act}{dst:Option Tmp}{u:Value}:(a.put dst u).tmps.size=a.tmps.size:=by
 cases dst <;> simp[Act.put]
theorem zMI {a:Act}{dst:Option Tmp}{u:Value}:(a.put dst u).defers=a.defers:=by
 cases dst <;> rfl
theorem DInv.still (hD:DFacts P nt ops bs f is)(hI:DInv P base nt w0 c bs is st0 a0 U0 ops.size listed a w U pre p stp)
  {i:Nat} {o:Oper} {x:Ins} (ho:ops[i]?=some o) (hx:is[i]?=some x) (hb:∀ m,(bs.getD i 0).testBit m=true->listed.getD m false=true) (he:x.op.eff=false) (u:Value)
  (hv:∀ Z sti τi sti' τi',zo c (is.take i) st0 (Tape.app pre Z)=some (sti,τi)->zBM c x sti τi=some (sti',τi')->∀ d,x.dst=some d->∃ v,sti'.fr.get d=some v/\u=cv U v/\VOk stp.hp v) :
  DInv P base nt w0 c bs is st0 a0 U0 ops.size (listed.setIfInBounds i true) (a.put o.dst u) w U pre p stp:=by
 have hi:i<listed.size:=by rw[hI.size];exact(Array.getElem?_eq_some_iff.1 ho).1
 obtain⟨hnt,hdst,_,_⟩:=hD.ins i o x ho hx
 refine⟨by simp[hI.size],?_,?_,hI.ple,hI.run,hI.mrel,hI.glob,hI.ext,hI.evol,by rw[zMI];exact hI.defers,by rw[zOc];exact hI.tsize,?_,?_⟩
 ·intro j m hj hbit
  rw[zCF hi]at hj ⊢
  rcases hj with rfl | hj
  ·exact .inr (hb m hbit)
  ·exact .inr (hI.closed j m hj hbit)
 ·intro j y hy hey
  rw[zCF hi]
  rw[hI.eff j y hy hey]
  constructor
  ·exact .inr
  ·rintro(rfl | h)
   ·rw[hx]at hy;cases hy;rw[he]at hey;cases hey
   ·exact h
 ·intro t ht
  have h1:o.dst≠some t:=by
   rw[<- hdst]
   exact ht i x hx ((zCF hi).2 (.inl rfl))
  rw[zKc h1]
  exact hI.old t fun j y hy hl=>ht j y hy ((zCF hi).2 (.inr hl))
 ·intro Z j y d stf τf hy hl hd hf
  by_cases e:j=i
  ·subst e
   rw[hx]at hy
   cases hy
   obtain⟨sti,τi,sti',τi',k1,k2,k3⟩:=zM3 hx hf
   obtain⟨v,m1,m2,m3⟩:=hv Z sti τi sti' τi' k1 k2 d hd
   refine⟨v,?_,?_,m3⟩
   ·rw[<- m1]
    refine zKS k3 fun y' hy' hd'=>?_
    obtain⟨j',hj',hjy'⟩:=zFU hy'
    exact(hD.parts j j' x y' hx hjy' (by omega)).2.1 d hd hd'
   ·rw[<- hdst,hd,zQH,m2]
    have:=hI.tsize
    rw[<- hdst,hd]at hnt
    have:d<nt:=by simpa using hnt
    omega
  ·have hl':listed.getD j false=true:=by
    rcases(zCF hi).1 hl with h | h
    ·exact absurd h e
    ·exact h
   obtain⟨v,m1,m2,m3⟩:=hI.new Z j y d stf τf hy hl' hd hf
   refine⟨v,m1,?_,m3⟩
   rw[zKc]
   ·exact m2
   ·rw[<- hdst]
    intro hd'
    exact(hD.parts j i y x hy hx e).2.1 d hd hd'
theorem DInv.effect {base1:Base}{w1:World}(hD:DFacts P nt ops bs f is)(hI:DInv P base1 nt w1 c bs is st0 a0 U0 ops.size listed a w U pre p stp)
  {i:Nat} {o:Oper} {x:Ins} (ho:ops[i]?=some o) (hx:is[i]?=some x) (hu:listed.getD i false=false) (hb:∀ m,(bs.getD i 0).testBit m=true->listed.getD m false=true) (he:x.op.eff=true) (hfl:i=f->∀ e y,is[e]?=some y->y.op.eff=true->e<f->listed.getD e false=true) {sti:St}
  (hr:∀ Z,zo c (is.take i) st0 (Tape.app pre Z)=some (sti,Z)) {v:V} {H':Heap} {U':Inj} {pre':List Nat} {w':World}
  (h1:∀ Z,zBM c x sti (Tape.app pre' Z)=some (⟨put sti.fr x.dst v,H'⟩,Z)) (h2:MRel U' base w0 H' w') (h3:GOk P U' H') (h4:Ext stp.hp U U') (h5:Evol stp.hp H') (h6:VOk H' v) :
  DInv P base nt w0 c bs is st0 a0 U0 ops.size (listed.setIfInBounds i true) (a.put o.dst (cv U' v)) w' U' (pre++pre') (i+1) ⟨put sti.fr x.dst v,H'⟩:=by
 have hi:i<listed.size:=by rw[hI.size];exact(Array.getElem?_eq_some_iff.1 ho).1
 obtain⟨hnt,hdst,_,_⟩:=hD.ins i o x ho hx
 have hil:i<is.length:=(List.getElem?_eq_some_iff.1 hx).1
 refine⟨by simp[hI.size],?_,?_,hil,?_,h2,h3,hI.ext.trans h4 hI.evol.size,hI.evol.trans h5,by rw[zMI];exact hI.defers,by rw[zOc];exact hI.tsize,?_,?_⟩
 ·intro j m hj hbit
  rw[zCF hi]at hj ⊢
  rcases hj with rfl | hj
  ·exact .inr (hb m hbit)
  ·exact .inr (hI.closed j m hj hbit)
 ·intro j y hy hey
  rw[zCF hi]
  constructor
  ·intro hlt
   by_cases e:j=i
   ·exact .inl e
   ·by_cases ef:i=f
    ·exact .inr (hfl ef j y hy hey (by omega))
    ·exact .inr (hb j ((hD.parts i j x y hx hy (Ne.symm e)).2.2 he hey (by omega) ef))
  ·rintro(rfl | hl)
   ·omega
   ·by_cases hlt:j<i
    ·omega
    ·exfalso
     by_cases e:j=i
     ·subst e;rw[hu]at hl;cases hl
     ·have h1:=(hI.eff j y hy hey).2 hl
      have h2:¬ i<p:=fun h=>by
       have:=(hI.eff i x hx he).1 h
       rw[hu]at this;cases this
      omega
 ·intro Z
  have e1:is.take (i+1)=is.take i++[x]:=by
   rw[List.take_add_one,hx];rfl
  rw[e1,zC9,<- Tape.app_app,hr]
  simp only[zo,h1]
 ·intro t ht
  have h1:o.dst≠some t:=by
   rw[<- hdst]
   exact ht i x hx ((zCF hi).2 (.inl rfl))
  rw[zKc h1]
  exact hI.old t fun j y hy hl=>ht j y hy ((zCF hi).2 (.inr hl))
 ·intro Z j y d stf τf hy hl hd hf
  by_cases e:j=i
  ·subst e
   rw[hx]at hy
   cases hy
   obtain⟨sti2,τi,sti',τi',k1,k2,k3⟩:=zM3 hx hf
   rw[<- Tape.app_app,hr]at k1
   cases k1
   rw[h1]at k2
   cases k2
   refine⟨v,?_,?_,h6⟩
   ·have e2:stf.fr.get d=(put sti.fr x.dst v).get d:=zKS k3 fun y' hy' hd'=>by
     obtain⟨j',hj',hjy'⟩:=zFU hy'
     exact(hD.parts j j' x y' hx hjy' (by omega)).2.1 d hd hd'
    rw[e2,hd]
    exact T.get_set_same _ _ _
   ·rw[<- hdst,hd,zQH]
    have:=hI.tsize
    rw[<- hdst,hd]at hnt
    have:d<nt:=by simpa using hnt
    omega
  ·have hl':listed.getD j false=true:=by
    rcases(zCF hi).1 hl with h | h
    ·exact absurd h e
    ·exact h
   rw[<- Tape.app_app]at hf
   obtain⟨v',m1,m2,m3⟩:=hI.new (Tape.app pre' Z) j y d stf τf hy hl' hd hf
   refine⟨v',m1,?_,m3.mono h5⟩
   rw[zKc,zB9 h4 v' m3]
   ·exact m2
   ·rw[<- hdst]
    intro hd'
    exact(hD.parts j i y x hy hx e).2.1 d hd hd'
end
end
end Go.Am

