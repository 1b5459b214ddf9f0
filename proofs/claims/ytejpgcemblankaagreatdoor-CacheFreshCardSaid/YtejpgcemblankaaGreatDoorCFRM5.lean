/- The abstract machine, printed functions of the program, and what they are shown to be. -/
import Derived.Test.YtejpgcemblankaaGreatDoorCFRM4
set_option linter.unusedSimpArgs false
set_option linter.unusedVariables false
namespace Go.Am
structure Cells {E:Type} (cf:E->List V) (z:Nat):Prop where
 len:∀ x,(cf x).length=z
 scal:∀ x,(cf x).all V.scal=true
 pos:0<z
section
variable {E:Type} {cf:E->List V} {z:Nat}
theorem Cells.cat_len (h:Cells cf z):∀ l:List E,(l.flatMap cf).length=l.length*z:=by
 intro l
 induction l with
 | nil=>simp
 | cons x l ih=>rw[List.flatMap_cons,List.length_append,ih,h.len,List.length_cons,Nat.succ_mul,Nat.add_comm]
theorem Cells.cat_scal (h:Cells cf z):∀ l:List E,(l.flatMap cf).all V.scal=true:=by
 intro l
 induction l with
 | nil=>rfl
 | cons x l ih=>rw[List.flatMap_cons,List.all_append,ih,h.scal];rfl
theorem Cells.cat_drop (h:Cells cf z)(pre l:List E):((pre++l).flatMap cf).drop (pre.length*z)=l.flatMap cf:=by
 rw[List.flatMap_append,<- h.cat_len pre,List.drop_left]
theorem Cells.cat_take (h:Cells cf z)(pre l:List E):((pre++l).flatMap cf).take (pre.length*z)=pre.flatMap cf:=by
 rw[List.flatMap_append,<- h.cat_len pre,List.take_left]
theorem Cells.cat_at (h:Cells cf z)(pre:List E)(x:E)(l:List E):(((pre++x::l).flatMap cf).drop (pre.length*z)).take z=cf x:=by
 rw[h.cat_drop,List.flatMap_cons,<- h.len x,List.take_left]
theorem Cells.cat_get (h:Cells cf z)(pre:List E)(x:E)(l:List E){j:Nat}(hj:j<z):((pre++x::l).flatMap cf)[pre.length*z+j]?=(cf x)[j]?:=by
 rw[<- List.getElem?_drop,h.cat_drop,List.flatMap_cons,List.getElem?_append_left (by rw[h.len];exact hj)]
theorem Cells.cat_store (h:Cells cf z)(out:List E)(y x:E)(l:List E):((out++y::l).flatMap cf).take (out.length*z)++cf x++((out++y::l).flatMap cf).drop (out.length*z+z)=(out++x::l).flatMap cf:=by
 rw[h.cat_take,<- List.drop_drop,h.cat_drop,List.flatMap_cons,<- h.len y,List.drop_left,List.flatMap_append,List.flatMap_cons,List.append_assoc]
theorem Cells.at (h:Cells cf z){H:Heap}{v:V}(pre:List E)(x:E)(l:List E)(hr:Rd H z v (pre++x::l).length ((pre++x::l).flatMap cf)) :
  ∃ id o,zBR z [v,.int .i64 (pre.length:Int)]=some (.ptr id o)/\∀ H',Rd H' z v (pre++x::l).length ((pre++x::l).flatMap cf)->zBA z [.ptr id o] H'=some (.agg (cf x))/\∀ j y,(cf x)[j]?=some y->zM [.ptr id (o+j)] H'=some y:=by
 obtain⟨id,o,k1,k2⟩:=hr.at h.pos (i:=pre.length) (by simp)
 refine⟨id,o,k1,fun H' h'=>?_⟩
 obtain⟨q1,q2⟩:=k2 H' _ h'
 rw[h.cat_at]at q1
 refine⟨q1,fun j y hj=>?_⟩
 have hjz:j<z:=by
  have:=(List.getElem?_eq_some_iff.1 hj).1
  rw[h.len]at this;exact this
 exact q2 j _ hjz (by rw[h.cat_get _ _ _ hjz];exact hj)
abbrev GenE (P:Nat->Prop)(H:Heap)(cf:E->List V)(z:Nat)(v:V)(l:List E):Prop:=GenL P H z v l.length (l.flatMap cf)
theorem GenE.put (h:Cells cf z){P:Nat->Prop}{H:Heap}{bytes:Nat}{v:V}{l:List E}(hg:GenE P H cf z v l)(hw:WF H)(hP:zQt P H)(x:E)(h1:(l.length+1)*bytes<=140737488355328)(h2:l.length+1<=140737488355328)(Z:Tape)(pl:Bool) :
  ∃ v' H' Z',zq z bytes [v,.sl H.size 0 1 1 none z] (H.new (cf x) z pl) Z=some (v',H',Z')/\GenE P H' cf z v' (l++[x])/\Chg P H H'/\Chg P (H.new (cf x) z pl) H':=by
 obtain⟨v',H',Z',r1,r2,r3,r4⟩:=GenL.put (bytes:=bytes) hg hw hP (cf x) h.pos (h.len x) (h.scal x) h1 h2 Z pl
 refine⟨v',H',Z',r1,?_,r3,r4⟩
 unfold GenE
 rw[List.flatMap_append,List.flatMap_cons,List.flatMap_nil,List.append_nil,List.length_append]
 exact r2
theorem GenE.set (h:Cells cf z){P:Nat->Prop}{H:Heap}{v:V}{out l:List E}{y:E}(hg:GenE P H cf z v (out++y::l))(hw:WF H)(x:E)(Z:Tape) :
  ∃ p H',zBR z [v,.int .i64 (out.length:Int)]=some p/\(∀ n,n=z->Am.eStore n [p,.agg (cf x)] H Z=some (.tup [],H',Z))/\GenE P H' cf z v (out++x::l)/\Chg P H H':=by
 obtain⟨p,H',r1,r2,r3,r4⟩:=GenL.put_at hg hw (i:=out.length) (by simp) h.pos (cf x) (h.len x) (h.scal x) Z
 refine⟨p,H',r1,r2,?_,r4⟩
 unfold GenE
 rw[h.cat_store]at r3
 rw[show(out++x::l).length=(out++y::l).length by simp]
 exact r3
theorem GenE.clear (h:Cells cf z){P:Nat->Prop}{H:Heap}{v:V}{out l:List E}(hg:GenE P H cf z v (out++l))(hw:WF H)(hv:v≠.nils)(zero:List V)(hzl:zero.length=z)(hzs:zero.all V.scal=true)(Z:Tape) :
  ∃ w H' v',zAL z true false false [v,.int .i64 (out.length:Int)]=some w/\zM2 z zero [w] H Z=some (.tup [],H',Z)/\zAL z false true false [v,.int .i64 (out.length:Int)]=some v'/\v'≠.nils/\GenE P H' cf z v' out/\Chg P H H':=by
 obtain⟨w,H',v',r1,r2,r3,r4,r5,r6⟩:=GenL.clear hg hw hv (k:=out.length) (by simp) zero hzl hzs Z
 rw[h.cat_take]at r5
 exact⟨w,H',v',r1,r2,r3,r4,r5,r6⟩
theorem GenL.ne_nils {P:Nat->Prop}{H:Heap}{v:V}{m:Nat}{cs:List V}(h:GenL P H z v m cs)(hm:0<m):v≠.nils:=by
 rcases h with⟨_,h0,_⟩ | ⟨id,lo,ex,all,rfl,_⟩
 ·omega
 ·exact fun e=>by cases e
def zRU (f:E->Bool):List E->Nat->Int
 | [],_=>-1
 | h::l,i=>bif f h then(i:Int)else zRU f l (i+1)
theorem findP_spec (f:E->Bool):∀ (l:List E) (i:Nat),(zRU f l i=-1/\∀ h ∈ l,f h=false)∨∃ a h r,l=a++h::r/\(∀ x ∈ a,f x=false)/\f h=true/\zRU f l i=((i+a.length:Nat):Int):=by
 intro l
 induction l with
 | nil=>intro i;exact .inl ⟨rfl,fun h hh=>by simp at hh⟩
 | cons h l ih =>
  intro i
  by_cases hn:f h=true
  ·refine .inr ⟨[],h,l,rfl,fun x hx=>by simp at hx,hn,?_⟩
   rw[zRU,hn];rfl
  ·have hn':f h=false:=by simpa using hn
   rcases ih (i+1)with⟨h1,h2⟩ | ⟨a,x,r,h1,h2,h3,h4⟩
   ·refine .inl ⟨by rw[zRU,hn'];exact h1,fun x hx=>?_⟩
    rcases List.mem_cons.1 hx with rfl | hx
    ·exact hn'
    ·exact h2 x hx
   ·refine .inr ⟨h::a,x,r,by rw[h1];rfl,fun y hy=>?_,h3,?_⟩
    ·rcases List.mem_cons.1 hy with rfl | hy
     ·exact hn'
     ·exact h2 y hy
    ·rw[zRU,hn',cond_false,h4];simp;omega
end
end Go.Am

namespace Go.Am
theorem GenE.delete0 {E:Type}{cf:E->List V}{z:Nat}(h:Cells cf z){P:Nat->Prop}{H:Heap}{v:V}{x:E}{l:List E}(hg:GenE P H cf z v (x::l))(hw:WF H)(hl:0<l.length)(bytes:Nat)(zero:List V)(hzl:zero.length=z)(hzs:zero.all V.scal=true)(Z:Tape) :
  ∃ a w1 w2 v' H1 w3 H2,zAL z true true true [v,.int .i64 ((0:Nat):Int),.int .i64 ((1:Nat):Int),.int .i64 ((l.length+1:Nat):Int)]=some a/\zAL z false true false [v,.int .i64 ((0:Nat):Int)]=some w1/\zAL z true false false [v,.int .i64 ((1:Nat):Int)]=some w2 /\
   zq z bytes [w1,w2] H Z=some (v',H1,Z)/\pLen [v']=some (.int .i64 ((l.length:Nat):Int))/\zAL z true true false [v',.int .i64 ((l.length:Nat):Int),.int .i64 ((l.length+1:Nat):Int)]=some w3/\zM2 z zero [w3] H1 Z=some (.tup [],H2,Z)/\GenE P H2 cf z v' l/\Chg P H H2:=by
 have hz:=h.pos
 rcases hg with⟨_,h0,_⟩ | ⟨id,lo,ex,all,rfl,k1,k2,k3,k4,k5⟩
 ·simp at h0
 ·rw[List.length_cons]at k2 k4 k5 ⊢
  have hx:=h.len x
  have hL:=h.cat_len l
  have hb0:zC0 false true false [V.int .i64 ((0:Nat):Int)]=some (none,some 0,none):=by simp only[zC0,optN,zCK]
  have hb3:zC0 true true true [V.int .i64 ((0:Nat):Int),V.int .i64 ((1:Nat):Int),V.int .i64 ((l.length+1:Nat):Int)]=some (some 0,some 1,some (l.length+1)):=by simp only[zC0,optN,zCK]
  have hb2:zC0 true true false [V.int .i64 ((l.length:Nat):Int),V.int .i64 ((l.length+1:Nat):Int)]=some (some l.length,some (l.length+1),none):=by simp only[zC0,optN,zCK]
  have w_le:∀ m,m<=lo->within m lo ex=true:=fun m hm=>by rw[within_iff];exact .inl hm
  have ble:∀ a b,a<=b->Nat.ble a b=true:=fun a b hh=>Nat.ble_eq_true_of_le hh
  obtain⟨off',lo',ex',m1,m2,m3⟩:=from_mk (id:=id) (off:=0) (n:=l.length+1) (lo:=lo) (z:=z) (ex:=ex) (w_le _ k2) (l:=1) (by omega)
  have ho:=m2 (by omega)
  rw[Nat.zero_add,Nat.one_mul]at ho
  rw[ho]at m1
  have hlz:(l.length+1)*z=l.length*z+z:=Nat.succ_mul _ _
  have hloz:(l.length+1)*z<=lo*z:=Nat.mul_le_mul_right _ k2
  have hcat:all.take ((l.length+1)*z)=cf x++l.flatMap cf:=by rw[k5,List.flatMap_cons]
  have hld:H.loads id z (l.length*z)=some (l.flatMap cf):=by
   simp only[Heap.loads,k1.cells]
   rw[zI9 _ _ (by rw[List.length_drop];omega)]
   congr 1
   have:(all.drop z).take (l.length*z)=(all.take ((l.length+1)*z)).drop z:=by
    rw[List.drop_take];congr 1;omega
   rw[this,hcat];conv=>lhs;rw[<- hx]
   rw[List.drop_left]
  obtain⟨H1,r1,r2,r3,r4⟩:=k1.stores hw 0 (l.flatMap cf) (by omega) (h.cat_scal l)
  have hall1:(all.take 0++l.flatMap cf++all.drop (0+(l.flatMap cf).length)).length=lo*z:=by simp only[List.length_append,List.length_take,List.length_drop];omega
  obtain⟨H2,s1,s2,s3,s4⟩:=r2.stores r3.wf (l.length*z) zero (by rw[hall1];omega) hzs
  have hmin:Nat.beq l.length 0=false:=by cases hh:Nat.beq l.length 0 with | false=>rfl | true=>have:=Nat.eq_of_beq_eq_true hh;omega
  have hoff2:zQs 0 l.length lo ex z=l.length*z:=by
   unfold zQs
   rw[hmin,show Nat.blt l.length lo=true from by simp[Nat.blt];omega]
   simp
  have ho0:∀ n,zQs 0 0 n ex z=0:=fun _=>rfl
  have e0:zAL z true true true [.sl id 0 (l.length+1) lo ex z,.int .i64 ((0:Nat):Int),.int .i64 ((1:Nat):Int),.int .i64 ((l.length+1:Nat):Int)]=some (.sl id (zRZ 0 0 (l.length+1) z) (1-0) (l.length+1-0) none z):=by
   simp only[zAL,Nat.beq_refl,cond_true,hb3,zPg,Option.getD_some,w_le _ k2,ble 1 (l.length+1) (by omega),ble 0 1 (by omega),Bool.and_self]
  have e1:zAL z false true false [.sl id 0 (l.length+1) lo ex z,.int .i64 ((0:Nat):Int)]=some (.sl id 0 0 lo ex z):=by
   simp only[zAL,Nat.beq_refl,cond_true,hb0,zPg,Option.getD_some,Option.getD_none,w_le 0 (by omega),ble 0 0 nl,ble 0 lo (Nat.zero_le _),Bool.and_self,ho0,Nat.sub_zero]
  have e3:zAL z true true false [.sl id 0 l.length lo ex z,.int .i64 ((l.length:Nat):Int),.int .i64 ((l.length+1:Nat):Int)]=some (.sl id (l.length*z) 1 (lo-l.length) ex z):=by
   simp only[zAL,Nat.beq_refl,cond_true,hb2,zPg,Option.getD_some,w_le _ k2,ble l.length (l.length+1) (by omega),ble l.length lo (by omega),Bool.and_self,hoff2,show l.length+1-l.length=1 by omega]
  refine⟨_,_,_,.sl id 0 l.length lo ex z,H1,_,H2,e0,e1,m1,?_,rfl,e3,?_,?_,r3.trans s3 fun _ _ hh=>hh⟩
  ·have:l.length+1-1=l.length:=by omega
   rw[this]
   simp only[zq,zGB,zB1,Nat.beq_refl,cond_true,hld,Am.append,Nat.zero_add,ble l.length lo (by omega),Nat.zero_mul,r1]
  ·have:repl 1 zero=zero:=by simp[repl]
   simp only[zM2,Nat.beq_refl,hzl,Bool.and_self,cond_true,this,s1]
  ·refine .inr ⟨id,lo,ex,_,rfl,s2,by omega,?_,hL,?_⟩
   ·simp only[List.length_append,List.length_take,List.length_drop];omega
   ·have h0:all.take 0++l.flatMap cf++all.drop (0+(l.flatMap cf).length)=l.flatMap cf++all.drop (0+(l.flatMap cf).length):=by simp
    rw[h0,List.append_assoc,List.take_append,List.length_take,List.length_append,List.length_drop,Nat.min_eq_left (by omega),Nat.sub_self,List.take_zero,List.append_nil,List.take_take,Nat.min_self,<- hL,List.take_left]
end Go.Am

namespace Go.Am
def DatP (D:Nat->Prop)(H:Heap)(z:Nat)(v:V)(n:Nat)(cs:List V):Prop :=
 (v=.nils/\n=0/\cs=[])∨∃ id off lo ex all room fam ver wr pl st fr la,v=.sl id off n lo ex z/\H.blk.get id=some (.mem all room fam ver wr pl st)/\H.fams.get fam=some (fr,la)/\fr<=ver/\D id/\D fam/\(all.drop off).take (n*z)=cs/\cs.length=n*z
theorem cells_mem {H:Heap}{id:Nat}{all:List V}{room fam ver:Nat}{wr pl:Bool}{st fr la:Nat}(h1:H.blk.get id=some (.mem all room fam ver wr pl st))(h2:H.fams.get fam=some (fr,la))(h3:fr<=ver):H.cells? id=some all:=by
 simp only[Heap.cells?,h1,h2]
 rw[show Nat.ble fr ver=true from Nat.ble_eq_true_of_le h3]
 rfl
theorem DatP.rd {D:Nat->Prop}{H:Heap}{z:Nat}{v:V}{n:Nat}{cs:List V}(h:DatP D H z v n cs):Rd H z v n cs:=by
 rcases h with⟨rfl,h⟩ | ⟨id,off,lo,ex,all,room,fam,ver,wr,pl,st,fr,la,rfl,h1,h2,h3,_,_,h6,h7⟩
 ·exact .inl ⟨.inl rfl,h⟩
 ·exact .inr ⟨id,off,lo,ex,all,rfl,cells_mem h1 h2 h3,h6.symm,h7⟩
theorem DatP.src {D:Nat->Prop}{H:Heap}{z:Nat}{v:V}{n:Nat}{cs:List V}(h:DatP D H z v n cs):Src H v:=by
 rcases h with⟨rfl,h⟩ | ⟨id,off,lo,ex,all,room,fam,ver,wr,pl,st,fr,la,rfl,h1,h2,h3,_⟩
 ·trivial
 ·exact⟨all,cells_mem h1 h2 h3⟩
theorem DatP.scal {D:Nat->Prop}{H:Heap}{z:Nat}{v:V}{n:Nat}{cs:List V}(h:DatP D H z v n cs):v.cells=[v]/\v.scal=true:=by
 rcases h with⟨rfl,h⟩ | ⟨_,_,_,_,_,_,_,_,_,_,_,_,_,rfl,_⟩ <;> exact⟨rfl,rfl⟩
theorem DatP.chg {D Q:Nat->Prop}{H H':Heap}{z:Nat}{v:V}{n:Nat}{cs:List V}(h:DatP D H z v n cs)(hw:WF H)(hg:Chg Q H H')(hDQ:∀ i,i<H.size->D i->¬ Q i):DatP D H' z v n cs:=by
 rcases h with h | ⟨id,off,lo,ex,all,room,fam,ver,wr,pl,st,fr,la,e,h1,h2,h3,h4,h5,h6⟩
 ·exact .inl h
 ·have a:=hw.blk _ _ h1
  have b:=hw.fams _ _ h2
  exact .inr ⟨id,off,lo,ex,all,room,fam,ver,wr,pl,st,fr,la,e,by rw[hg.blk id a (hDQ _ a h4)];exact h1,by rw[hg.fams fam b (hDQ _ b h5)];exact h2,h3,h4,h5,h6⟩
theorem DatP.gr {D:Nat->Prop}{H H':Heap}{z:Nat}{v:V}{n:Nat}{cs:List V}(h:DatP D H z v n cs)(hw:WF H)(hg:Gr H.size H H'):DatP D H' z v n cs:=h.chg hw (hg.chg (P:=fun _=>False)) fun _ _ _=>not_false
theorem DatP.weaken {D Q:Nat->Prop}{H:Heap}{z:Nat}{v:V}{n:Nat}{cs:List V}(h:DatP D H z v n cs)(hw:WF H)(hDQ:∀ i,i<H.size->D i->Q i):DatP Q H z v n cs:=by
 rcases h with h | ⟨id,off,lo,ex,all,room,fam,ver,wr,pl,st,fr,la,e,h1,h2,h3,h4,h5,h6⟩
 ·exact .inl h
 ·exact .inr ⟨id,off,lo,ex,all,room,fam,ver,wr,pl,st,fr,la,e,h1,h2,h3,hDQ _ (hw.blk _ _ h1) h4,hDQ _ (hw.fams _ _ h2) h5,h6⟩
theorem DatP.own {H:Heap}{B z:Nat}{v:V}{n:Nat}{cs:List V}(h:Own H B z v n cs):DatP (fun i=>B<=i) H z v n cs:=by
 rcases h with⟨rfl,h⟩ | ⟨id,e,room,fam,ver,pl,st,fr,rfl,h2,h3,h4,h5,h6,h7⟩
 ·exact .inl ⟨rfl,h⟩
 ·exact .inr ⟨id,0,n,some e,cs,room,fam,ver,true,pl,st,fr,ver,rfl,h2,h3,h4,h5,h6,by rw[List.drop_zero,<- h7,List.take_length],h7⟩
theorem DatP.bod {P:Nat->Prop}{H:Heap}{v:V}{n:Nat}{cs:List V}(h:BodP P H v n cs):DatP P H 1 v n cs:=by
 rcases h with⟨rfl,h⟩ | ⟨id,lo,ex,room,fam,ver,pl,st,fr,rfl,h1,h2,h3,h4,h5,h6,_⟩
 ·exact .inl ⟨rfl,h⟩
 ·exact .inr ⟨id,0,lo,ex,cs,room,fam,ver,true,pl,st,fr,ver,rfl,h1,h2,h3,h4,h5,by rw[List.drop_zero,Nat.mul_one,<- h6,List.take_length],by omega⟩
def BxT (H:Heap)(id:Nat)(cs:List V):Prop :=
 ∃ room ver st fr,H.blk.get id=some (.mem cs room id ver true true st)/\H.fams.get id=some (fr,ver)/\fr<=ver/\cs.length<=room
theorem BxT.bx {H:Heap}{id:Nat}{cs:List V}(h:BxT H id cs):Bx H id cs:=by
 obtain⟨room,ver,st,fr,h1,h2,h3,h4⟩:=h
 exact⟨room,ver,true,st,fr,h1,h2,h3,h4⟩
theorem BxT.new (H:Heap)(cells:List V)(room:Nat)(hr:cells.length<=room):BxT (H.new cells room true) H.size cells :=
 ⟨room,0,0,0,T.get_set_same _ _ _,T.get_set_same _ _ _,Nat.le_refl _,hr⟩
theorem BxT.chg {H H':Heap}{P:Nat->Prop}{id:Nat}{cs:List V}(h:BxT H id cs)(hw:WF H)(hg:Chg P H H')(hp:¬ P id):BxT H' id cs:=by
 have hlt:=h.bx.lt hw
 obtain⟨room,ver,st,fr,h1,h2,h3,h4⟩:=h
 exact⟨room,ver,st,fr,by rw[hg.blk id hlt hp];exact h1,by rw[hg.fams id hlt hp];exact h2,h3,h4⟩
theorem BxT.only {H H':Heap}{i id:Nat}{cs:List V}(h:BxT H id cs)(hg:Only i H H')(hC:id≠i):BxT H' id cs:=by
 obtain⟨room,ver,st,fr,h1,h2,h3,h4⟩:=h
 exact⟨room,ver,st,fr,by rw[hg.blk id hC];exact h1,by rw[hg.fams id hC];exact h2,h3,h4⟩
theorem famOf_bx {H:Heap}{i:Nat}{cs:List V}(h:BxT H i cs):famOf H i=some i:=by
 obtain⟨room,ver,st,fr,h1,h2,h3,h4⟩:=h
 simp only[famOf,h1,h2]
 rw[show Nat.ble fr ver=true from Nat.ble_eq_true_of_le h3]
 rfl
theorem ptr_eq {H:Heap}{i j:Nat}{cs ds:List V}(h:BxT H i cs)(k:BxT H j ds):lPeq false [.ptr i 0,.ptr j 0] H=some (.bool (decide (i=j))):=by
 by_cases e:i=j
 ·subst e
  simp only[lPeq,Nat.beq_refl,cond_true,decide_true]
  rfl
 ·have hb:Nat.beq i j=false:=by
   cases hh:Nat.beq i j with
   | false=>rfl
   | true=>exact absurd (Nat.eq_of_beq_eq_true hh) e
  simp only[lPeq,hb,cond_false,famOf_bx h,famOf_bx k,decide_eq_false e]
  rfl
theorem BxT.eStore {H:Heap}{id:Nat}{cs:List V}(h:BxT H id cs)(hw:WF H)(off:Nat)(x:V)(n:Nat)(hn:x.cells.length=n)(hl:off+n<=cs.length)(hn0:0<n)(hs:x.cells.all V.scal=true)(Z:Tape) :
  ∃ H',Am.eStore n [.ptr id off,x] H Z=some (.tup [],H',Z)/\BxT H' id (cs.take off++x.cells++cs.drop (off+n))/\Only id H H':=by
 obtain⟨room,ver,st,fr,h1,h2,h3,h4⟩:=h
 have hroom:H.room? id=room:=by simp only[Heap.room?,h1]
 have hov:=zRO off room x.cells cs (by omega)
 obtain⟨y,ys,hy⟩:∃ y ys,x.cells=y::ys:=by
  cases hx:x.cells with
  | nil=>rw[hx]at hn;simp at hn;omega
  | cons y ys=>exact⟨y,ys,rfl⟩
 refine⟨{ size:=H.size,blk:=H.blk.s id (.mem (cs.take off++x.cells++cs.drop (off+n)) room id ver true true (st+1)),fams:=H.fams.s id (ver,ver) },?_,?_,?_⟩
 ·have:H.stores id off x.cells=some { size:=H.size,blk:=H.blk.s id (.mem (cs.take off++x.cells++cs.drop (off+n)) room id ver true true (st+1)),fams:=H.fams.s id (ver,ver) }:=by
   rw[hy]at hs hov ⊢
   simp only[Heap.stores,hs,cond_true,Heap.write,h1,h2,hroom,hov]
   rw[show Nat.beq ver ver=true from Nat.beq_refl ver,show Nat.ble fr ver=true from Nat.ble_eq_true_of_le h3]
   rw[<- hy,hn]
   rfl
  simp only[Am.eStore,hn,this]
  rw[show Nat.beq n n=true from Nat.beq_refl n]
  rfl
 ·refine⟨room,ver,st+1,ver,T.get_set_same _ _ _,T.get_set_same _ _ _,Nat.le_refl _,?_⟩
  have:(cs.take off++x.cells++cs.drop (off+n)).length=cs.length:=by
   simp only[List.length_append,List.length_take,List.length_drop]
   omega
  omega
 ·have hid:=hw.blk _ _ h1
  refine⟨⟨?_,?_,?_⟩,rfl,fun i hi=>?_,fun f hf=>?_⟩
  ·intro i b hb
   simp only[T.get_set]at hb ⊢
   split at hb
   ·omega
   ·exact hw.blk _ _ hb
  ·intro f x hf
   simp only[T.get_set]at hf ⊢
   split at hf
   ·omega
   ·exact hw.fams _ _ hf
  ·intro i c r f v' w p s hb
   simp only[T.get_set]at hb ⊢
   split at hb
   ·cases hb;exact hid
   ·exact hw.fam _ _ _ _ _ _ _ _ hb
  ·simp only[T.get_set];rw[if_neg (Ne.symm hi)]
  ·simp only[T.get_set];rw[if_neg (Ne.symm hf)]
theorem GenL.apd {H:Heap}{B z:Nat}{v:V}{n:Nat}{cs:List V}(h:Apd H B z v n cs):GenL (fun i=>B<=i) H z v n cs:=by
 rcases h with h | ⟨rfl,rfl,id,rfl,h⟩
 ·rcases h with⟨rfl,h⟩ | ⟨id,e,room,fam,ver,pl,st,fr,rfl,h2,h3,h4,h5,h6,h7⟩
  ·exact .inl ⟨rfl,h⟩
  ·exact .inr ⟨id,n,some e,cs,rfl,⟨room,fam,ver,pl,st,fr,h2,h3,h4,h5,h6⟩,Nat.le_refl _,h7,h7,by rw[<- h7,List.take_length]⟩
 ·obtain⟨room,fam,ver,pl,st,fr,h2,h3,h4,h5,h6,h7⟩:=h
  exact .inr ⟨id,0,none,[],rfl,⟨room,fam,ver,pl,st,fr,h2,h3,h4,h5,h6⟩,Nat.le_refl _,by simp,by simp,by simp⟩
theorem DatP.gen {P:Nat->Prop}{H:Heap}{z:Nat}{v:V}{n:Nat}{cs:List V}(h:GenL P H z v n cs):DatP P H z v n cs:=by
 rcases h with⟨rfl,h⟩ | ⟨id,lo,ex,all,rfl,⟨room,fam,ver,pl,st,fr,h1,h2,h3,h4,h5⟩,k2,k3,k4,k5⟩
 ·exact .inl ⟨rfl,h⟩
 ·exact .inr ⟨id,0,lo,ex,all,room,fam,ver,true,pl,st,fr,ver,rfl,h1,h2,h3,h4,h5,by rw[List.drop_zero];exact k5,k4⟩
end Go.Am

namespace Go.Am
end Go.Am

