/- The abstract machine, printed functions of the program, and what they are shown to be. -/
import Derived.Laws.Strings
import Derived.Laws.Entries
import Derived.Laws.Slices
import Derived.Laws.StructEq
import Derived.Test.YtnijdmamheiebaaDoorCLSM0
import Derived.Laws.BytesString
import Derived.Laws.BytesArg
import Derived.Laws.IdiomStrings
import Derived.MapKept
set_option linter.unusedSimpArgs false
set_option linter.unusedVariables false
namespace Go.Am
open Go.RowKit (Below)
section
variable {P:Program} {w:World}
theorem toU_eq (k:IntKind)(n:Int):toU k n=(BitVec.ofInt k.bits n).toNat:=by
 rw[BitVec.toNat_ofInt]
 cases n with
 | ofNat m =>
  have h:(Int.ofNat m % ((2 ^ k.bits:Nat):Int)).toNat=m % 2 ^ k.bits:=by
   rw[Int.ofNat_eq_natCast,<- Int.natCast_emod,Int.toNat_natCast]
  rw[h,toU,zRw]
 | negSucc m =>
  have hp:0<((2 ^ k.bits:Nat):Int):=by have:=Nat.two_pow_pos k.bits;omega
  rw[Int.negSucc_emod m hp,toU,zRw]
  have h2:=Nat.mod_lt m (Nat.two_pow_pos k.bits)
  have h3:((m:Int) % ((2 ^ k.bits:Nat):Int))=((m % 2 ^ k.bits:Nat):Int):=(Int.natCast_emod _ _).symm
  rw[h3]
  omega
theorem intBin_sound {b:BinOp}{k:IntKind}{x y:Int}{v:V}(U:Inj)(t:TypeId)(hb:b≠.shl/\b≠.shr)(h:zRm b k x y=some v) :
  (binOp b t (.int k x) (.int k y)).run P w=.ok (cv U v) w/\∃ b',v=.bool b'∨∃ n,v=.int k n:=by
 cases b <;> simp only[zRm,zQp,mkI,zH6,zPZ]at h
 case add=>injection h with h;subst h;exact⟨by rw[binOp_add];rfl,false,.inr ⟨_,rfl⟩⟩
 case sub=>injection h with h;subst h;exact⟨by rw[binOp_sub];rfl,false,.inr ⟨_,rfl⟩⟩
 case mul=>injection h with h;subst h;exact⟨by rw[binOp_mul];rfl,false,.inr ⟨_,rfl⟩⟩
 case quo =>
  split at h
  ·cases h
  ·rename_i hy
   injection h with h
   subst h
   have hy':y≠0:=fun e=>hy (by subst e;rfl)
   exact⟨by rw[binOp_quo,Op.intDiv,if_neg hy'];rfl,false,.inr ⟨_,rfl⟩⟩
 case rem =>
  split at h
  ·cases h
  ·rename_i hy
   injection h with h
   subst h
   have hy':y≠0:=fun e=>hy (by subst e;rfl)
   exact⟨by rw[binOp_rem,Op.intDiv,if_neg hy'];rfl,false,.inr ⟨_,rfl⟩⟩
 case and =>
  injection h with h;subst h
  refine⟨?_,false,.inr ⟨_,rfl⟩⟩
  rw[binOp_and]
  simp only[Op.intBits,Sem.run_pure,cv,BitVec.toNat_and,<- toU_eq]
  rfl
 case or =>
  injection h with h;subst h
  refine⟨?_,false,.inr ⟨_,rfl⟩⟩
  rw[binOp_or]
  simp only[Op.intBits,Sem.run_pure,cv,BitVec.toNat_or,<- toU_eq]
  rfl
 case xor =>
  injection h with h;subst h
  refine⟨?_,false,.inr ⟨_,rfl⟩⟩
  rw[binOp_xor]
  simp only[Op.intBits,Sem.run_pure,cv,BitVec.toNat_xor,<- toU_eq]
  rfl
 case andNot =>
  injection h with h;subst h
  refine⟨?_,false,.inr ⟨_,rfl⟩⟩
  rw[binOp_andNot]
  simp only[Op.intBits,Sem.run_pure,cv,BitVec.toNat_and,BitVec.toNat_not,<- toU_eq,zRw]
  rfl
 case shl=>exact absurd rfl hb.1
 case shr=>exact absurd rfl hb.2
 case eql=>injection h with h;subst h;exact⟨by rw[binOp_eql];rfl,_,.inl rfl⟩
 case neq=>injection h with h;subst h;exact⟨by rw[binOp_neq];rfl,_,.inl rfl⟩
 case lss=>injection h with h;subst h;exact⟨by rw[binOp_lss];rfl,_,.inl rfl⟩
 case leq=>injection h with h;subst h;exact⟨by rw[binOp_leq];rfl,_,.inl rfl⟩
 case gtr=>injection h with h;subst h;exact⟨by rw[binOp_gtr];rfl,_,.inl rfl⟩
 case geq=>injection h with h;subst h;exact⟨by rw[binOp_geq];rfl,_,.inl rfl⟩
theorem zRr {b:BinOp}{k k':IntKind}{x y:Int}{v:V}(U:Inj)(t:TypeId)(hb:b=.shl∨b=.shr)(h:zN3 b k x y=some v) :
  (binOp b t (.int k x) (.int k' y)).run P w=.ok (cv U v) w/\∃ n,v=.int k n:=by
 unfold zN3 at h
 split at h
 ·cases h
 ·rename_i m
  rw[zBG]at h
  have hm:¬((Int.ofNat m)<0):=by simp
  have hp:((Nat.pow 2 (min m k.bits):Nat):Int)=2 ^ min m k.bits:=by
   rw[show Nat.pow 2 (min m k.bits)=2 ^ min m k.bits from rfl];exact Int.natCast_pow 2 _
  rcases hb with rfl | rfl
  ·simp only[mkI,zH6,zPZ,hp]at h
   injection h with h;subst h
   exact⟨by rw[binOp_shl,Op.shift,if_neg hm];rfl,_,rfl⟩
  ·simp only[mkI,zH6,hp]at h
   injection h with h;subst h
   exact⟨by rw[binOp_shr,Op.shift,if_neg hm];rfl,_,rfl⟩
theorem lessB_eq (x y:List UInt8):lessB x y=Go.Op.bytesLess x y:=by
 induction x generalizing y with
 | nil=>cases y <;> rfl
 | cons a x ih =>
  cases y with
  | nil=>rfl
  | cons b y =>
   have h1:Nat.beq a.toNat b.toNat=(a == b):=by rw[Bool.eq_iff_iff];simp[Nat.beq_eq,UInt8.toNat_inj]
   have h2:Nat.blt a.toNat b.toNat=decide (a<b):=by rw[Bool.eq_iff_iff];simp[Nat.blt_eq,UInt8.lt_iff_toNat_lt]
   simp[lessB,Go.Op.bytesLess,ih,h1,h2]
theorem strBin_sound {b:BinOp}{x y:List UInt8}{v:V}(U:Inj)(t:TypeId)(h:zAL b x y=some v) :
  (binOp b t (.string ⟨x.toArray⟩) (.string ⟨y.toArray⟩)).run P w=.ok (cv U v) w/\((∃ b',v=.bool b')∨∃ s,v=.str s):=by
 cases b <;> simp only[zAL]at h
 case add =>
  cases hb:Nat.ble (x.length+y.length) 4611686018427387904 with
  | false=>rw[hb]at h;cases h
  | true =>
   rw[hb]at h
   injection h with h;subst h
   have hle:=Nat.le_of_ble_eq_true hb
   refine⟨?_,.inr ⟨_,rfl⟩⟩
   have hsz:¬(((ByteArray.mk x.toArray).size+(ByteArray.mk y.toArray).size:Nat):Int) > 9223372036854775807:=by
    simp only[ByteArray.size,List.size_toArray];omega
   rw[binOp_string_add,Op.stringOp]
   simp only[IntKind.max_i64]
   rw[if_neg hsz]
   simp only[Sem.run_pure,cv]
   congr 2
 all_goals first
  | (cases h;done)
  | (
   cases h
   refine⟨?_,.inl ⟨_,rfl⟩⟩
   simp only[binOp,Op.stringOp,Sem.run_pure,cv,ByteArray.toList_mk,zOq,lessB_eq])
end
end Go.Am

namespace Go.Am
open Go.RowKit (Below)
section
variable {P:Program} {w:World}
theorem zHj (t:TypeId)(d:TypeDesc)(h:P.underlying t=some d)(w:World):(isAgg t).run P w=.ok (aggT P t) w:=by
 simp only[isAgg,Sem.run_bind,run_underlying h,Result.andThen_ok,aggT,h]
 cases d <;> rfl
theorem info_some (t:TypeId)(d:TypeDesc)(h:P.underlying t=some d):∃ i,P.info? t=some i:=by
 unfold Program.underlying at h
 cases hi:P.info? t with
 | none=>simp[hi]at h
 | some i=>exact⟨i,rfl⟩
theorem zm (t:TypeId)(d:TypeDesc)(h:P.underlying t=some d)(w:World):(sizeOf t).run P w=.ok (P.cellsOf t) w:=by
 obtain⟨i,hi⟩:=info_some t d h
 simp[sizeOf,typeInfo,hi,Program.cellsOf]
theorem eqS_bool {x y:V}{b:Bool}(h:eqS .bool x y=some b):∃ p q,x=.bool p/\y=.bool q/\b=(p == q):=by
 unfold eqS at h
 split at h <;> first | exact⟨_,_,rfl,rfl,(Option.some.inj h).symm⟩ | contradiction | simp_all
theorem eqS_str {x y:V}{b:Bool}(h:eqS .str x y=some b):∃ p q,x=.str p/\y=.str q/\b=eqB p q:=by
 unfold eqS at h
 split at h <;> first | exact⟨_,_,rfl,rfl,(Option.some.inj h).symm⟩ | contradiction | simp_all
theorem eqS_int {x y:V}{b:Bool}(h:eqS .int x y=some b):∃ k p q,x=.int k p/\y=.int k q/\b=(p == q):=by
 unfold eqS at h
 split at h <;> first | contradiction | skip
 ·split at h
  ·rename_i hk
   subst hk
   exact⟨_,_,_,rfl,rfl,(Option.some.inj h).symm⟩
  ·cases h
 all_goals simp_all
theorem eqS_sound {e:E}{x y:V}{b:Bool}(U:Inj)(t:TypeId)(d:Nat)(he:eqOf P t=some e)(hn:∀ es,e≠.flat es)(h:eqS e x y=some b) :
  (Go.Op.equalIn (d+1) t (cv U x) (cv U y)).run P w=.ok b w:=by
 unfold eqOf at he
 split at he
 all_goals first | (cases he;done) | skip
 case h_1 hu =>
  cases he
  obtain⟨p,q,rfl,rfl,rfl⟩:=eqS_bool h
  exact run_equalIn_bool' w d t p q hu
 case h_6 hu =>
  split at he
  ·split at he
   ·cases he;exact absurd rfl (hn _)
   ·cases he
  ·cases he
 all_goals
  rename_i hu
  cases he
  unfold eqS at h
  split at h <;> first | contradiction | skip
 all_goals
  first
  | (
   cases h
   simp only[cv,Go.Op.equalIn,Sem.run_bind,run_underlying hu,Result.andThen_ok]
   rfl)
  | simp_all
theorem eq1_sound {e:E}{x y:V}{b:Bool}(U:Inj)(t:TypeId)(d:Nat)(he:eq1 P t=some e)(h:eqS e x y=some b) :
  (Go.Op.equalIn (d+1) t (cv U x) (cv U y)).run P w=.ok b w:=by
 unfold eq1 at he
 split at he
 ·rename_i hu
  cases he
  obtain⟨p,q,rfl,rfl,rfl⟩:=eqS_bool h
  exact run_equalIn_bool' w d t p q hu
 ·rename_i k hu
  cases he
  obtain⟨k,p,q,rfl,rfl,rfl⟩:=eqS_int h
  exact run_equalIn_int w d t k _ p q hu
 ·rename_i hu
  cases he
  obtain⟨p,q,rfl,rfl,rfl⟩:=eqS_str h
  simp only[cv]
  rw[run_equalIn_string w d t _ _ hu,zOq,ByteArray.toList_mk,ByteArray.toList_mk]
 ·cases he
theorem zPn (t:TypeId)(d:TypeDesc)(hu:P.underlying t=some d)(ha:aggT P t=false)(cs:Array Value)(off:Nat)(v:Value)(h:cs[off]?=some v) :
  (part t cs off).run P w=.ok v w:=by
 simp[part,zHj t d hu,ha,h]
theorem eq1_under {t:TypeId}{e:E}(h:eq1 P t=some e):∃ d,P.underlying t=some d:=by
 unfold eq1 at h
 cases hu:P.underlying t with
 | none=>simp[hu]at h
 | some d=>exact⟨d,rfl⟩
theorem eqFlat_sound (U:Inj)(d:Nat):∀ (fs:List Field) (off:Nat) (es:List E) (xs ys:List V) (X Y:Array Value) (b:Bool),
  Am.eqFields P fs off=some es->zQE es xs ys=some b->(∀ (j:Nat) (v:V),xs[j]?=some v->X[off+j]?=some (cv U v))->(∀ (j:Nat) (v:V),ys[j]?=some v->Y[off+j]?=some (cv U v)) ->
  (Go.Op.eqFields (d+1) X Y fs).run P w=.ok b w:=by
 intro fs
 induction fs with
 | nil =>
  intro off es xs ys X Y b he h hX hY
  simp only[Am.eqFields]at he
  cases he
  unfold zQE at h
  split at h <;> simp_all [Go.Op.eqFields]
 | cons f fs ih =>
  intro off es xs ys X Y b he h hX hY
  simp only[Am.eqFields]at he
  split at he
  ·rename_i hc
   obtain⟨h1,h2,h3⟩:=hc
   split at he
   ·rename_i e es' he1 he2
    cases he
    cases xs with
    | nil=>simp[zQE]at h
    | cons x xs =>
     cases ys with
     | nil=>simp[zQE]at h
     | cons y ys =>
      obtain⟨dd,hu⟩:=eq1_under he1
      have hx:X[f.offset]?=some (cv U x):=by have:=hX 0 x rfl;rw[h2];simpa using this
      have hy:Y[f.offset]?=some (cv U y):=by have:=hY 0 y rfl;rw[h2];simpa using this
      simp only[Go.Op.eqFields]
      rw[if_pos h1]
      simp only[Sem.run_bind,zPn f.type dd hu h3 _ _ _ hx,zPn f.type dd hu h3 _ _ _ hy,Result.andThen_ok]
      simp only[zQE]at h
      cases hs:eqS e x y with
      | none=>rw[hs]at h;cases h
      | some b1 =>
       rw[hs]at h
       rw[eq1_sound U f.type d he1 hs]
       simp only[Result.andThen_ok]
       cases b1 with
       | false=>cases h;rfl
       | true =>
        simp only[Bool.not_true,Bool.false_eq_true,if_false]
        refine ih (off+1) es' xs ys X Y b he2 h (fun j v hv=>?_) (fun j v hv=>?_)
        ·have:=hX (j+1) v (by simpa using hv)
         rw[show off+1+j=off+(j+1)from by omega];exact this
        ·have:=hY (j+1) v (by simpa using hv)
         rw[show off+1+j=off+(j+1)from by omega];exact this
   ·cases he
  ·cases he
theorem eqV_sound {e:E}{x y:V}{b:Bool}(U:Inj)(t:TypeId)(he:eqOf P t=some e)(h:eqV e x y=some b)(op:BinOp)(ox oy:Operand) :
  (Go.Op.equal t (cv U x) (cv U y)).run P w=.ok b w/\(eqGuard op t ox oy (cv U x) (cv U y)).run P w=.ok () w:=by
 unfold eqV at h
 split at h
 ·rename_i es xs ys
  unfold eqOf at he
  split at he
  all_goals first | (cases he;done) | skip
  rename_i fs hu
  split at he
  ·rename_i hc
   split at he
   ·rename_i es' hes
    cases he
    have hf:P.fieldsOf t=fs:=by simp[Program.fieldsOf,hu]
    refine⟨?_,?_⟩
    ·simp only[cv,Go.Op.equal,Go.Op.maxDepth]
     rw[run_equalIn_struct w 9999 t _ _ (by rw[hf];exact hu) hc.1,hf]
     exact eqFlat_sound U 9998 fs.toList 0 es xs ys _ _ b hes h (fun j v hv=>by simp[zFy,hv]) (fun j v hv=>by simp[zFy,hv])
    ·simp only[cv]
     exact run_eqGuard_agg w op t ox oy _ _ hc.2
   ·cases he
  ·cases he
 ·rename_i hnf
  have hn:∀ es,e≠.flat es:=by
   rintro es rfl
   cases x <;> cases y <;> simp[eqS]at h
  refine⟨?_,?_⟩
  ·simp only[Go.Op.equal,Go.Op.maxDepth]
   exact eqS_sound U t 9999 he hn h
  ·cases e <;> cases x <;> cases y <;> simp[eqS]at h <;> first | (cases op <;> rfl) | exact absurd rfl (hn _)
end
end Go.Am

namespace Go.Am
theorem map1 {U:Inj}{I:Operand->Value}{x:Operand}{vs:List V}(h:[x].map I=cvl U vs):∃ a,vs=[a]/\I x=cv U a:=by
 cases vs with
 | nil=>simp[cvl]at h
 | cons a l=>cases l with
  | nil=>exact⟨a,rfl,by simpa [cvl] using h⟩
  | cons b l=>simp[cvl]at h
theorem map2 {U:Inj}{I:Operand->Value}{x y:Operand}{vs:List V}(h:[x,y].map I=cvl U vs):∃ a b,vs=[a,b]/\I x=cv U a/\I y=cv U b:=by
 cases vs with
 | nil=>simp[cvl]at h
 | cons a l =>
  simp only[List.map_cons,cvl,List.cons.injEq]at h
  obtain⟨b,rfl,hb⟩:=map1 (by simpa using h.2)
  exact⟨a,b,rfl,h.1,hb⟩
theorem zMt {U:Inj}{I:Operand->Value}{x:Operand}{l:List Operand}{vs:List V}(h:(x::l).map I=cvl U vs):∃ a r,vs=a::r/\I x=cv U a/\l.map I=cvl U r:=by
 cases vs with
 | nil=>simp[cvl]at h
 | cons a r =>
  simp only[List.map_cons,cvl,List.cons.injEq]at h
  exact⟨a,r,rfl,h.1,h.2⟩
theorem map3 {U:Inj}{I:Operand->Value}{x y z:Operand}{vs:List V}(h:[x,y,z].map I=cvl U vs):∃ a b c,vs=[a,b,c]/\I x=cv U a/\I y=cv U b/\I z=cv U c:=by
 obtain⟨a,r,rfl,ha,h⟩:=zMt h
 obtain⟨b,c,rfl,hb,hc⟩:=map2 h
 exact⟨a,b,c,rfl,ha,hb,hc⟩
theorem zGY {n:Int}{m:Nat}(h:zNC n=some m):n=(m:Int):=by
 cases n with
 | ofNat k=>simp only[zNC,zBG,Option.some.injEq]at h;subst h;rfl
 | negSucc k=>cases h
theorem inv_mv {vs:List V}{v:V}(h:pMv vs=some v):vs=[v]:=by
 unfold pMv at h;split at h <;> simp_all
theorem inv_pick {vs:List V}{v:V}(h:zAE vs=some v):∃ c a b,vs=[.bool c,a,b]/\v=if c then a else b:=by
 unfold zAE at h
 split at h
 ·split at h <;>(cases h;exact⟨_,_,_,rfl,rfl⟩)
 ·cases h
theorem inv_bin {b:BinOp}{vs:List V}{v:V}(h:pBin b vs=some v) :
  (∃ k x k' y,vs=[.int k x,.int k' y]/\(((b=.shl∨b=.shr)/\zN3 b k x y=some v)∨((b≠.shl/\b≠.shr)/\k=k'/\zRm b k x y=some v))) ∨
  (∃ x y,vs=[.str x,.str y]/\zAL b x y=some v):=by
 unfold pBin at h
 split at h
 ·rename_i k x k' y
  refine .inl ⟨k,x,k',y,rfl,?_⟩
  unfold binInt at h
  split at h
  ·exact .inl ⟨.inl rfl,h⟩
  ·exact .inl ⟨.inr rfl,h⟩
  ·rename_i h1 h2
   split at h
   ·rename_i hk;exact .inr ⟨⟨h1,h2⟩,hk,h⟩
   ·cases h
 ·exact .inr ⟨_,_,rfl,h⟩
 ·cases h
end Go.Am

namespace Go.Am
section
variable {P:Program} {w:World}
def OptV (v:Option Value)(n:Option Nat):Prop:=(v=none/\n=none)∨∃ k m,v=some (.int k (m:Nat))/\n=some m
theorem zPS {U:Inj}{I:Operand->Value}{o:Option Operand}{rest:List Operand}{vs vs':List V}{l:Option Nat}
  (h:optN o.isSome vs=some (l,vs')) (hm:(o.toList++rest).map I=cvl U vs):rest.map I=cvl U vs'/\OptV (o.map I) l:=by
 cases o with
 | none =>
  simp only[Option.isSome_none,optN,Option.some.injEq,Prod.mk.injEq]at h
  obtain⟨rfl,rfl⟩:=h
  exact⟨by simpa using hm,.inl ⟨rfl,rfl⟩⟩
 | some a =>
  simp only[Option.toList_some,List.cons_append,List.nil_append]at hm
  obtain⟨v,r,rfl,hv,hr⟩:=zMt hm
  simp only[Option.isSome_some]at h
  unfold optN at h
  split at h
  ·cases ‹true=false›
  ·rename_i heq
   cases heq
   split at h
   ·rename_i m hm'
    simp only[Option.some.injEq,Prod.mk.injEq]at h
    obtain⟨rfl,rfl⟩:=h
    have:=zGY hm'
    subst this
    exact⟨hr,.inr ⟨_,m,by rw[Option.map_some,hv];rfl,rfl⟩⟩
   ·cases h
  ·cases h
theorem zHk {U:Inj}{I:Operand->Value}{lo hi mx:Option Operand}{vs:List V}{l h m:Option Nat}
  (hb:zE8 lo.isSome hi.isSome mx.isSome vs=some (l,h,m)) (hm:(lo.toList++hi.toList++mx.toList).map I=cvl U vs) :
  OptV (lo.map I) l/\OptV (hi.map I) h/\OptV (mx.map I) m:=by
 unfold zE8 at hb
 split at hb
 ·rename_i l' vs1 h1
  split at hb
  ·rename_i h' vs2 h2
   split at hb
   ·rename_i m' h3
    cases hb
    obtain⟨r1,o1⟩:=zPS h1 (by rw[List.append_assoc]at hm;exact hm)
    obtain⟨r2,o2⟩:=zPS h2 r1
    obtain⟨_,o3⟩:=zPS (rest:=[]) h3 (by simpa using r2)
    exact⟨o1,o2,o3⟩
   ·cases hb
  ·cases hb
 ·cases hb
theorem OptV.isSome {v:Option Value}{n:Option Nat}(h:OptV v n):v.isSome=n.isSome:=by
 rcases h with⟨rfl,rfl⟩ | ⟨k,m,rfl,rfl⟩ <;> rfl
theorem zFY (k:IntKind)(n y:Nat)(code:BoundsCode)(h:n<=y):(Instr.sliceBound (.int k (n:Int)) y code).run P w=.ok n w:=by
 rw[run_sliceBound _ k n y code (by omega) (by omega)];rfl
theorem zGC (isSlice:Bool)(len cap:Nat){lv hv mv:Option Value}{l h m:Option Nat}(ol:OptV lv l)(oh:OptV hv h)(om:OptV mv m)
  (hm:m.isSome=true->h.isSome=true) (h1:m.getD cap<=cap) (h2:h.getD len<=m.getD cap) (h3:l.getD 0<=h.getD len) :
  (Instr.sliceBounds isSlice len cap lv hv mv).run P w=.ok (l.getD 0,h.getD len,m.getD cap) w:=by
 rcases om with⟨rfl,rfl⟩ | ⟨km,m,rfl,rfl⟩
 ·rcases oh with⟨rfl,rfl⟩ | ⟨kh,h,rfl,rfl⟩
  ·rcases ol with⟨rfl,rfl⟩ | ⟨kl,l,rfl,rfl⟩
   ·simp[Instr.sliceBounds]
   ·simp only[Option.getD_some,Option.getD_none]at h1 h2 h3
    simp[Instr.sliceBounds,zFY kl l len _ h3]
  ·simp only[Option.getD_some,Option.getD_none]at h1 h2 h3
   rcases ol with⟨rfl,rfl⟩ | ⟨kl,l,rfl,rfl⟩
   ·simp[Instr.sliceBounds,zFY kh h cap _ h2]
   ·simp only[Option.getD_some]at h3
    simp[Instr.sliceBounds,zFY kh h cap _ h2,zFY kl l h _ h3]
 ·rcases oh with⟨rfl,rfl⟩ | ⟨kh,h,rfl,rfl⟩
  ·simp at hm
  ·simp only[Option.getD_some]at h1 h2 h3
   rcases ol with⟨rfl,rfl⟩ | ⟨kl,l,rfl,rfl⟩
   ·simp[Instr.sliceBounds,zFY km m cap _ h1,zFY kh h m _ h2]
   ·simp only[Option.getD_some]at h3
    simp[Instr.sliceBounds,zFY km m cap _ h1,zFY kh h m _ h2,zFY kl l h _ h3]
theorem within_le {m lo:Nat}{ex:Option Nat}(h:within m lo ex=true):m<=lo+ex.getD 0:=by
 unfold within at h
 cases hb:Nat.ble m lo with
 | true=>have:=Nat.le_of_ble_eq_true hb;omega
 | false =>
  rw[hb]at h
  cases ex with
  | none=>cases h
  | some e=>simpa using Nat.le_of_ble_eq_true h
theorem zOP {id off len lo:Nat}{ex:Option Nat}{z:Nat}{l h m:Option Nat}{v:V}(hm:m.isSome=true->h.isSome=true)(hlen:len<=lo+ex.getD 0)
  (hc:zSR id off len lo ex z l h m=some v) :
  m.getD (lo+ex.getD 0)<=lo+ex.getD 0/\h.getD len<=m.getD (lo+ex.getD 0)/\l.getD 0<=h.getD len /\
   ∃ lo' ex',v=.sl id (zRv off (l.getD 0) (m.getD (lo+ex.getD 0)) z) (h.getD len-l.getD 0) lo' ex' z/\lo'+ex'.getD 0=m.getD (lo+ex.getD 0)-l.getD 0/\(ex'.isSome=true->ex.isSome=true):=by
 unfold zSR at hc
 split at hc
 ·rename_i m'
  cases hb:(within m' lo ex && Nat.ble (h.getD len) m' && Nat.ble (l.getD 0) (h.getD len))with
  | false=>simp only[hb,cond_false]at hc;cases hc
  | true =>
   simp only[hb,cond_true]at hc
   cases hc
   simp only[Bool.and_eq_true]at hb
   have h1:=within_le hb.1.1
   have h2:=Nat.le_of_ble_eq_true hb.1.2
   have h3:=Nat.le_of_ble_eq_true hb.2
   exact⟨h1,h2,h3,_,_,rfl,by simp,by simp⟩
 ·cases hb:(within (h.getD len) lo ex && Nat.ble (l.getD 0) (h.getD len))with
  | false=>simp only[hb,cond_false]at hc;cases hc
  | true =>
   simp only[hb,cond_true]at hc
   simp only[Bool.and_eq_true]at hb
   have h1:=within_le hb.1
   have h3:=Nat.le_of_ble_eq_true hb.2
   cases hl:Nat.ble (l.getD 0) lo with
   | true =>
    simp only[hl,cond_true]at hc
    cases hc
    have:=Nat.le_of_ble_eq_true hl
    exact⟨by simp,by simpa using h1,h3,_,_,by rw[offIn_eq];rfl,by simp only[Option.getD_none];omega,fun he=>he⟩
   | false =>
    simp only[hl,cond_false]at hc
    cases hc
    have hlt:lo<l.getD 0:=by
     rcases Nat.lt_or_ge lo (l.getD 0)with hh | hh
     ·exact hh
     ·rw[Nat.ble_eq_true_of_le hh]at hl;cases hl
    refine⟨by simp,by simpa using h1,h3,_,_,by rw[offIn_eq];rfl,by simp,fun _=>?_⟩
    cases ex with
    | none=>simp only[Option.getD_none]at h1;omega
    | some e=>rfl
theorem offAt_le (off l m z:Nat):zRv off l m z<=off+l*z:=by
 unfold zRv
 cases Nat.beq m l <;> simp
theorem slCut_ok {H:Heap}{id off len lo:Nat}{ex:Option Nat}{z:Nat}{l h m:Option Nat}{v:V}(hm:m.isSome=true->h.isSome=true)
  (hv:VOk H (.sl id off len lo ex z)) (hc:zSR id off len lo ex z l h m=some v):VOk H v:=by
 obtain⟨k1,k2,k3⟩:=hv
 obtain⟨h1,h2,h3,lo',ex',rfl,h4,h5⟩:=zOP hm k2 hc
 refine⟨k1,by rw[h4];omega,fun he=>?_⟩
 obtain⟨k,kc⟩:=k3 (h5 he)
 rw[h4]
 have hle:=offAt_le off (l.getD 0) (m.getD (lo+ex.getD 0)) z
 have:l.getD 0*z+(m.getD (lo+ex.getD 0)-l.getD 0)*z=m.getD (lo+ex.getD 0)*z:=by
  rw[<- Nat.add_mul];congr 1;omega
 have:=Nat.mul_le_mul_right z h1
 exact⟨by omega,by omega⟩
theorem cut_addr (b o off l m z:Nat):(if m=l then(⟨b,o+off,none⟩:Addr)else Addr.add ⟨b,o+off,none⟩ (l*z))=⟨b,o+zRv off l m z,none⟩:=by
 unfold zRv
 by_cases e:m=l
 ·subst e;simp
 ·have:Nat.beq m l=false:=by
   cases h:Nat.beq m l with
   | false=>rfl
   | true=>exact absurd (Nat.eq_of_beq_eq_true h) e
  rw[if_neg e,this,cond_false,zGn,Nat.add_assoc]
end
end Go.Am

namespace Go.Am
theorem zO6 (U:Inj)(a b:List V):cvl U (a++b)=cvl U a++cvl U b:=by simp[zMf]
theorem cvl_take (U:Inj)(n:Nat)(a:List V):cvl U (a.take n)=(cvl U a).take n:=by simp[zMf,List.map_take]
theorem cvl_drop (U:Inj)(n:Nat)(a:List V):cvl U (a.drop n)=(cvl U a).drop n:=by simp[zMf,List.map_drop]
theorem zON (U:Inj)(v:V):(cv U v).cells=(cvl U v.cells).toArray:=by cases v <;> rfl
section
variable {P:Program} {w:World}
theorem foldl_over (l:List Value):∀ (k o:Nat) (c:Array Value),(l.zipIdx k).foldl (fun cs (x:Value × Nat)=>cs.setIfInBounds (o+x.2) x.1) c=zND c (o+k) l:=by
 induction l with
 | nil=>intro k o c;rfl
 | cons v l ih=>intro k o c;simp only[List.zipIdx_cons,List.foldl_cons,zND];rw[ih,Nat.add_assoc]
theorem overA_list (U:Inj)(cs vs:List V)(off:Nat)(h:off+vs.length<=cs.length) :
  zND (cvl U cs).toArray off (cvl U vs)=(cvl U (cs.take off++vs++cs.drop (off+vs.length))).toArray:=by
 apply Array.ext_getElem?
 intro j
 rcases Nat.lt_or_ge j off with h1 | h1
 ·rw[zJt _ _ _ _ (.inl h1)]
  simp only[List.getElem?_toArray,zFy]
  rw[List.append_assoc,List.getElem?_append_left (by simp;omega),List.getElem?_take_of_lt h1]
 ·rcases Nat.lt_or_ge j (off+vs.length)with h2 | h2
  ·rw[zR1 _ _ _ _ h1 (by rw[zy];exact h2) (by rw[zy,List.size_toArray,zy];exact h)]
   simp only[List.getElem?_toArray,zFy]
   rw[List.append_assoc,List.getElem?_append_right (by simp;omega),List.getElem?_append_left (by simp;omega)]
   simp only[List.length_take]
   rw[show j-min off cs.length=j-off from by omega]
  ·rw[zJt _ _ _ _ (.inr (by rw[zy];exact h2))]
   simp only[List.getElem?_toArray,zFy]
   rw[List.append_assoc,List.getElem?_append_right (by simp;omega),List.getElem?_append_right (by simp;omega),List.getElem?_drop]
   simp only[List.length_take]
   rw[show off+vs.length+(j-min off cs.length-vs.length)=j from by omega]
theorem zPB (U:Inj)(I:Operand->Value)(place:Nat->Option (Nat × Nat)):∀ (parts:List (Nat × Operand)) (zero:List V) (ps:List (Nat × Nat)) (vs cs:List V),
  zAs place (parts.map (·.1))=some ps->(parts.map (·.2)).map I=cvl U vs->zM7 zero ps vs=some cs ->
  Instr.fill place (cvl U zero).toArray (parts.map fun(i,x)=>(i,I x))=some (cvl U cs).toArray:=by
 intro parts
 induction parts with
 | nil =>
  intro zero ps vs cs hp hv hf
  simp only[List.map_nil,zAs,Option.some.injEq]at hp
  subst hp
  cases vs with
  | nil=>simp only[zM7,Option.some.injEq]at hf;subst hf;rfl
  | cons v vs=>simp[zM7]at hf
 | cons p parts ih =>
  intro zero ps vs cs hp hv hf
  obtain⟨i,x⟩:=p
  simp only[List.map_cons,zAs]at hp
  split at hp
  ·rename_i q hq
   split at hp
   ·rename_i ps' hps
    cases hp
    obtain⟨v,r,rfl,hx,hr⟩:=zMt hv
    obtain⟨off,size⟩:=q
    simp only[zM7]at hf
    cases hb:(Nat.beq v.cells.length size && Nat.ble (off+size) zero.length)with
    | false=>rw[hb]at hf;cases hf
    | true =>
     simp only[hb,cond_true]at hf
     simp only[Bool.and_eq_true]at hb
     have h1:=Nat.eq_of_beq_eq_true hb.1
     have h2:=Nat.le_of_ble_eq_true hb.2
     simp only[List.map_cons,Instr.fill,hq]
     have hcells:(I x).cells=(cvl U v.cells).toArray:=by rw[hx,zON]
     have hsz:(I x).cells.size=size:=by rw[hcells,List.size_toArray,zy,h1]
     rw[if_neg (by simp only[ne_eq,hsz,not_true,decide_false,Bool.false_or,decide_eq_true_eq,List.size_toArray,zy];omega)]
     have hov:((I x).cells.zipIdx.foldl (fun cs (c,j)=>cs.setIfInBounds (off+j) c) (cvl U zero).toArray)=(cvl U (zero.take off++v.cells++zero.drop (off+size))).toArray:=by
      rw[hcells,<- h1,<- overA_list U zero v.cells off (by omega)]
      rw[<- Array.foldl_toList]
      simp only[Array.toList_zipIdx]
      have:=foldl_over (cvl U v.cells) 0 off (cvl U zero).toArray
      simpa using this
     rw[hov]
     exact ih _ ps' r cs hps hr hf
   ·cases hp
  ·cases hp
theorem zSF {H:Heap}:∀ (ps:List (Nat × Nat)) (zero vs cs:List V),VsOk H zero->VsOk H vs->zM7 zero ps vs=some cs->VsOk H cs/\cs.length=zero.length:=by
 intro ps
 induction ps with
 | nil =>
  intro zero vs cs hz _ h
  cases vs with
  | nil=>simp only[zM7,Option.some.injEq]at h;subst h;exact⟨hz,rfl⟩
  | cons v vs=>simp[zM7]at h
 | cons p ps ih =>
  intro zero vs cs hz hv h
  obtain⟨off,size⟩:=p
  cases vs with
  | nil=>simp[zM7]at h
  | cons v vs =>
   simp only[zM7]at h
   cases hb:(Nat.beq v.cells.length size && Nat.ble (off+size) zero.length)with
   | false=>rw[hb]at h;cases h
   | true =>
    simp only[hb,cond_true]at h
    simp only[Bool.and_eq_true]at hb
    have h1:=Nat.eq_of_beq_eq_true hb.1
    have h2:=Nat.le_of_ble_eq_true hb.2
    have hcv:VsOk H v.cells:=by
     have:=hv.1
     cases v <;> first | exact this | exact⟨this,trivial⟩
    obtain⟨k1,k2⟩:=ih _ vs cs (by
     rw[zw]at hz hcv ⊢
     intro u hu
     rcases List.mem_append.1 hu with hu | hu
     ·rcases List.mem_append.1 hu with hu | hu
      ·exact hz u (List.mem_of_mem_take hu)
      ·exact hcv u hu
     ·exact hz u (List.mem_of_mem_drop hu)) hv.2 h
    refine⟨k1,?_⟩
    rw[k2]
    simp only[List.length_append,List.length_take,List.length_drop]
    omega
theorem zRZ {v:Value}{u:V}(U:Inj)(h:cv1? v=some u):cv U u=v/\∀ H,VOk H u:=by
 unfold cv1? at h
 split at h <;> first | (cases h;done) | (cases h;exact⟨rfl,fun _=>trivial⟩)
theorem zNv (U:Inj):∀ (l:List Value) (r:List V),zAs cv1? l=some r->cvl U r=l/\∀ H,VsOk H r:=by
 intro l
 induction l with
 | nil=>intro r h;simp only[zAs,Option.some.injEq]at h;subst h;exact⟨rfl,fun _=>trivial⟩
 | cons v l ih =>
  intro r h
  simp only[zAs]at h
  split at h
  ·rename_i b hb
   split at h
   ·rename_i r' hr
    cases h
    obtain⟨h1,h2⟩:=zRZ U hb
    obtain⟨h3,h4⟩:=ih _ hr
    exact⟨by simp only[cvl,h1,h3],fun H=>⟨h2 H,h4 H⟩⟩
   ·cases h
  ·cases h
theorem cv?_sound {v:Value}{u:V}(U:Inj)(h:cv? v=some u):cv U u=v/\∀ H,VOk H u:=by
 unfold cv? at h
 split at h
 ·split at h
  ·rename_i cs l hl
   cases h
   obtain⟨h1,h2⟩:=zNv U _ _ hl
   exact⟨by simp only[cv,h1],fun H=>h2 H⟩
  ·cases h
 ·split at h
  ·rename_i cs l hl
   cases h
   obtain⟨h1,h2⟩:=zNv U _ _ hl
   exact⟨by simp only[cv,h1],fun H=>h2 H⟩
  ·cases h
 ·exact zRZ U h
theorem zFA {t:TypeId}{z:List V}(U:Inj)(h:zRD P t=some z):∃ v,(zeroValue t).run P w=.ok v w/\v.cells=(cvl U z).toArray/\∀ H,VsOk H z:=by
 unfold zRD at h
 split at h
 ·rename_i i hi
  split at h
  ·rename_i v hv
   obtain⟨h1,h2⟩:=zNv U _ _ h
   refine⟨v,by simp[zeroValue,typeInfo,hi,hv],?_,h2⟩
   rw[h1]
  ·cases h
 ·cases h
theorem zSE (fs:List Field)(hfs:∀ f ∈ fs,∃ d,P.underlying f.type=some d):∀ (w:World),
  (fs.mapM (m:=Sem) fun f=>do pure (f.offset,<- sizeOf f.type)).run P w=.ok (fs.map fun f=>(f.offset,P.cellsOf f.type)) w:=by
 induction fs with
 | nil=>intro w;rfl
 | cons f fs ih =>
  intro w
  obtain⟨d,hd⟩:=hfs f (by simp)
  simp only[List.mapM_cons,Sem.run_bind,zm _ d hd,Result.andThen_ok,Sem.run_pure,ih (fun g hg=>hfs g (by simp[hg])),List.map_cons]
end
end Go.Am

namespace Go.Am
section
variable {P:Program} {w:World} {U:Inj} {H:Heap} {I:Operand->Value}
theorem zFF {α:Type}{t:TypeId}{x:Option α}{y:α}(h:kn P t x=some y):(∃ d,P.underlying t=some d)/\x=some y:=by
 unfold kn at h
 split at h
 ·rename_i hs
  exact⟨Option.isSome_iff_exists.1 hs,h⟩
 ·cases h
theorem zPi (s:List UInt8)(l h:Nat):(ByteArray.mk s.toArray).extract l h=⟨((s.take h).drop l).toArray⟩:=by
 apply ByteArray.ext
 apply Array.ext'
 simp[ByteArray.data_extract,List.drop_take]
theorem strCut_inv {s:List UInt8}{l h:Option Nat}{v:V}(hc:zRi s l h=some v) :
  h.getD s.length<=s.length/\l.getD 0<=h.getD s.length/\v=.str ((s.take (h.getD s.length)).drop (l.getD 0)):=by
 unfold zRi at hc
 cases hb:(Nat.ble (h.getD s.length) s.length && Nat.ble (l.getD 0) (h.getD s.length))with
 | false=>simp only[hb,cond_false]at hc;cases hc
 | true =>
  simp only[hb,cond_true]at hc
  cases hc
  simp only[Bool.and_eq_true]at hb
  exact⟨Nat.le_of_ble_eq_true hb.1,Nat.le_of_ble_eq_true hb.2,rfl⟩
theorem nilCut_inv {l h m:Option Nat}{v:V}(hc:nilCut l h m=some v):l.getD 0=0/\h.getD 0=0/\m.getD 0=0/\v=.nils:=by
 unfold nilCut at hc
 cases hb:(Nat.beq (l.getD 0) 0 && Nat.beq (h.getD 0) 0 && Nat.beq (m.getD 0) 0)with
 | false=>simp only[hb,cond_false]at hc;cases hc
 | true =>
  simp only[hb,cond_true]at hc
  cases hc
  simp only[Bool.and_eq_true]at hb
  exact⟨Nat.eq_of_beq_eq_true hb.1.1,Nat.eq_of_beq_eq_true hb.1.2,Nat.eq_of_beq_eq_true hb.2,rfl⟩
theorem unOp_sound {u:UnOp}{x v:V}(h:unOp u x=some v):(Go.Op.unary u (cv U x)).run P w=.ok (cv U v) w/\∀ H,VOk H v:=by
 unfold unOp at h
 split at h
 ·rename_i k n
  simp only[mkI,zH6,zPZ]at h
  cases h
  exact⟨rfl,fun _=>trivial⟩
 ·rename_i k n
  simp only[mkI,zH6,zPZ]at h
  cases h
  refine⟨?_,fun _=>trivial⟩
  have hones:BitVec.ofInt k.bits (if k.signed then -1 else k.max)=BitVec.allOnes k.bits:=by cases k <;> rfl
  simp only[cv,Go.Op.unary,Go.Op.intBits,Sem.run_pure]
  rw[hones,BitVec.allOnes_xor,BitVec.toNat_not,<- toU_eq,<- zRw]
  rfl
 ·cases h
  exact⟨rfl,fun _=>trivial⟩
 ·cases h
theorem valid_eq (m:Nat):Utf8.valid (m:Int)=(Nat.ble m 55295 || (Nat.ble 57344 m && Nat.ble m 1114111)):=by
 rw[Bool.eq_iff_iff]
 simp only[Utf8.valid,Bool.or_eq_true,Bool.and_eq_true,decide_eq_true_eq,Nat.ble_eq]
 omega
theorem encodeR_eq (r:Int):Utf8.encode r=⟨(zR2 r).toArray⟩:=by
 have key:∀ c:Nat,(if c<0x80 then(⟨#[UInt8.ofNat c]⟩:ByteArray)
   else if c<0x800 then⟨#[UInt8.ofNat (0xC0+c / 64),UInt8.ofNat (0x80+c % 64)]⟩
   else if c<0x10000 then⟨#[UInt8.ofNat (0xE0+c / 4096),UInt8.ofNat (0x80+c / 64 % 64),UInt8.ofNat (0x80+c % 64)]⟩
   else⟨#[UInt8.ofNat (0xF0+c / 262144),UInt8.ofNat (0x80+c / 4096 % 64),UInt8.ofNat (0x80+c / 64 % 64),UInt8.ofNat (0x80+c % 64)]⟩) =
   ⟨(bif Nat.blt c 128 then [UInt8.ofNat c]
    else bif Nat.blt c 2048 then [UInt8.ofNat (192+c / 64),UInt8.ofNat (128+c % 64)]
    else bif Nat.blt c 65536 then [UInt8.ofNat (224+c / 4096),UInt8.ofNat (128+c / 64 % 64),UInt8.ofNat (128+c % 64)]
    else [UInt8.ofNat (240+c / 262144),UInt8.ofNat (128+c / 4096 % 64),UInt8.ofNat (128+c / 64 % 64),UInt8.ofNat (128+c % 64)]).toArray⟩:=by
  intro c
  have hb:∀ n,Nat.blt c n=decide (c<n):=fun n=>by rw[Bool.eq_iff_iff];simp[Nat.blt_eq]
  simp only[hb]
  by_cases h1:c<128
  ·simp[h1]
  ·by_cases h2:c<2048
   ·simp[h1,h2]
   ·by_cases h3:c<65536
    ·simp[h1,h2,h3]
    ·simp[h1,h2,h3]
 cases r with
 | ofNat m =>
  unfold Utf8.encode zR2
  simp only[Int.ofNat_eq_natCast,valid_eq,Int.toNat_natCast]
  cases (Nat.ble m 55295 || (Nat.ble 57344 m && Nat.ble m 1114111))with
  | true=>exact key m
  | false=>exact key 65533
 | negSucc m =>
  unfold Utf8.encode zR2
  have:Utf8.valid (Int.negSucc m)=false:=by
   rw[Bool.eq_false_iff]
   simp only[Utf8.valid,ne_eq,Bool.or_eq_true,Bool.and_eq_true,decide_eq_true_eq]
   omega
  simp only[this,Bool.false_eq_true,if_false]
  exact key 65533
theorem zPt {t:TypeId}{d:TypeDesc}(hu:P.underlying t=some d){cs:List V}{off:Nat}{v:V}(h:partOf cs off (P.cellsOf t) (aggT P t)=some v)(hok:VsOk H cs) :
  (part t (cvl U cs).toArray off).run P w=.ok (cv U v) w/\VOk H v:=by
 unfold partOf at h
 simp only[part,Sem.run_bind,zHj t d hu,Result.andThen_ok]
 cases ha:aggT P t with
 | true =>
  rw[ha]at h
  simp only at h
  cases hb:Nat.ble (off+P.cellsOf t) cs.length with
  | false=>rw[hb]at h;cases h
  | true =>
   rw[hb]at h
   cases h
   have hle:=Nat.le_of_ble_eq_true hb
   refine⟨?_,?_⟩
   ·simp only[if_true,Sem.run_bind,zm t d hu,Result.andThen_ok,Sem.run_pure,cv,cvl_take,cvl_drop]
    congr 2
    apply Array.ext'
    simp
   ·rw[VOk,zw]at *
    exact fun u hu=>hok u (List.mem_of_mem_drop (List.mem_of_mem_take hu))
 | false =>
  rw[ha]at h
  simp only at h
  have:(cvl U cs).toArray[off]?=some (cv U v):=by simp[zFy,h]
  simp only[Bool.false_eq_true,if_false,this,Sem.run_pure]
  exact⟨by trivial,(zw H cs).1 hok v (List.mem_of_getElem? h)⟩
theorem slicePart {z n:Nat}{e:TypeId}{id off len lo:Nat}{ex:Option Nat}{l h m:Option Nat}{v:V}(hm:m.isSome=true->h.isSome=true)(hlen:len<=lo+ex.getD 0)
  (hc:zSR id off len lo ex z l h m=some v) (_hz:z=P.cellsOf e) (_hn:n=0) :
  Value.slice (some (if m.getD (lo+ex.getD 0)=l.getD 0 then(⟨(U id).1,(U id).2+off,none⟩:Addr)else Addr.add ⟨(U id).1,(U id).2+off,none⟩ (l.getD 0*z)))
   (h.getD len-l.getD 0) (m.getD (lo+ex.getD 0)-l.getD 0)=cv U v:=by
 obtain⟨h1,h2,h3,lo',ex',rfl,h4,h5⟩:=zOP hm hlen hc
 rw[cut_addr,cv,h4]
def Plainly (X Y:Value):Prop:=(∀ k p k' q,¬(X=.int k p/\Y=.int k' q))/\(∀ p q,¬(X=.string p/\Y=.string q))/\(∀ k p k' q,¬(X=.float k p/\Y=.float k' q)) /\
 (∀ k p p' k' q q',¬(X=.complex k p p'/\Y=.complex k' q q'))
theorem zOi {t:TypeId}{X Y:Value}{bb:Bool}(hp:Plainly X Y)(hr:(Go.Op.equal t X Y).run P w=.ok bb w):(binOp .eql t X Y).run P w=.ok (.bool bb) w:=by
 obtain⟨e1,e2,e3,e4⟩:=hp
 unfold binOp
 split <;> first
  | contradiction
  | exact absurd ⟨rfl,rfl⟩ (e1 _ _ _ _)
  | exact absurd ⟨rfl,rfl⟩ (e2 _ _)
  | exact absurd ⟨rfl,rfl⟩ (e3 _ _ _ _)
  | exact absurd ⟨rfl,rfl⟩ (e4 _ _ _ _ _ _)
  | (simp only[Sem.run_bind,hr,Result.andThen_ok,Sem.run_pure];done)
  | (simp_all;done)
theorem zOH {t:TypeId}{X Y:Value}{bb:Bool}(hp:Plainly X Y)(hr:(Go.Op.equal t X Y).run P w=.ok bb w):(binOp .neq t X Y).run P w=.ok (.bool (!bb)) w:=by
 obtain⟨e1,e2,e3,e4⟩:=hp
 unfold binOp
 split <;> first
  | contradiction
  | exact absurd ⟨rfl,rfl⟩ (e1 _ _ _ _)
  | exact absurd ⟨rfl,rfl⟩ (e2 _ _)
  | exact absurd ⟨rfl,rfl⟩ (e3 _ _ _ _)
  | exact absurd ⟨rfl,rfl⟩ (e4 _ _ _ _ _ _)
  | (simp only[Sem.run_bind,hr,Result.andThen_ok,Sem.run_pure];done)
  | (simp_all;done)
theorem pop_sound (op:Go.Op)(o:POp)(xs:List Operand)(vs:List V)(v:V)(dst:Option Tmp)(ty:TypeId)(pos:String)(after:Array Edge)(guard:Option (Nat × Bool))
  (ht:trOp P op=some (.p o,xs)) (hx:xs.map I=cvl U vs) (hok:VsOk H vs) (h:zE9 o vs=some v) :
  (execOp I ⟨dst,op,ty,pos,after,guard⟩).run P w=.ok (.value (cv U v)) w/\VOk H v:=by
 cases op <;> simp only[trOp]at ht
 case move x =>
  cases ht
  obtain⟨a,rfl,ha⟩:=map1 hx
  cases inv_mv (vs:=[a]) h
  exact⟨by simp only[execOp,ha];rfl,hok.1⟩
 case assign x =>
  cases ht
  obtain⟨a,rfl,ha⟩:=map1 hx
  cases inv_mv (vs:=[a]) h
  exact⟨by simp only[execOp,ha];rfl,hok.1⟩
 case pick c a b =>
  cases ht
  obtain⟨x,y,z,rfl,hx1,hy1,hz1⟩:=map3 hx
  obtain⟨c',a',b',he,rfl⟩:=inv_pick h
  cases he
  simp only[execOp,hx1,hy1,hz1,cv,asBool,Sem.run_bind,Sem.run_pure,Result.andThen_ok]
  cases c'
  ·exact⟨rfl,hok.2.2.1⟩
  ·exact⟨rfl,hok.2.1⟩
 case build t parts =>
  split at ht
  ·rename_i z ps hz hps
   split at ht
   ·rename_i hpo
    cases ht
    simp only[zE9,zIf]at h
    split at h
    ·rename_i cs hcs
     cases h
     obtain⟨zv,hz1,hz2,hz3⟩:=zFA (w:=w) U hz
     refine⟨?_,(zSF ps z vs cs (hz3 H) hok hcs).1⟩
     have hparts:(parts.map fun(x:Nat × Operand)=>(x.1,I x.2)).toList=parts.toList.map fun(i,x)=>(i,I x):=by simp
     unfold partsOk at hpo
     split at hpo
     ·rename_i fs hu
      have hpl:∀ i,placeOf P t i=(fs.toList.map fun f=>(f.offset,P.cellsOf f.type))[i]?:=fun i=>by
       simp only[placeOf,hu,List.getElem?_map,Array.getElem?_toList]
       cases fs[i]? <;> rfl
      have hfill:=zPB U I (fun i=>(fs.toList.map fun f=>(f.offset,P.cellsOf f.type))[i]?) parts.toList z ps vs cs (by rw[<- funext hpl];exact hps) hx hcs
      have hfs:∀ f ∈ fs.toList,∃ d,P.underlying f.type=some d:=fun f hf=>Option.isSome_iff_exists.1 (List.all_eq_true.1 hpo f hf)
      have hmap:(fs.mapM (m:=Sem) fun f=>do pure (f.offset,<- sizeOf f.type)).run P w=.ok (fs.toList.map fun f=>(f.offset,P.cellsOf f.type)).toArray w:=by
       rw[Array.mapM_eq_mapM_toList]
       simp only[Sem.run_map,zSE fs.toList hfs,Result.andThen_ok]
      simp only[execOp,Instr.build,Sem.run_bind,hz1,Result.andThen_ok,run_underlying hu,hmap,hz2,hparts]
      simp only[List.getElem?_toArray,hfill]
      rfl
     ·rename_i n e hu
      obtain⟨de,hde⟩:=Option.isSome_iff_exists.1 hpo
      have hpl:∀ i,placeOf P t i=some (i*P.cellsOf e,P.cellsOf e):=fun i=>by simp only[placeOf,hu]
      have hfill:=zPB U I (fun i=>some (i*P.cellsOf e,P.cellsOf e)) parts.toList z ps vs cs (by rw[<- funext hpl];exact hps) hx hcs
      simp only[execOp,Instr.build,Sem.run_bind,hz1,Result.andThen_ok,run_underlying hu,zm e de hde,hz2,hparts,hfill]
      rfl
     ·cases hpo
    ·cases h
   ·cases ht
  ·cases ht
 case nilCheck x =>
  cases ht
  obtain⟨a,rfl,ha⟩:=map1 hx
  simp only[zE9,zB2]at h
  split at h <;> first | (cases h;done) | skip
  rename_i h1 h2 h3 heq
  cases h
  cases heq
  refine⟨?_,hok.1⟩
  simp only[execOp,ha]
  cases v <;> first | rfl | (exfalso;simp_all)
 case binOp b t x y ty2 =>
  have bools:∀ bb:Bool,VOk H (.bool bb):=fun _=>trivial
  have intCase:(o=.bin b/\xs=[x,y])->(execOp I ⟨dst,.binOp b t x y ty2,ty,pos,after,guard⟩).run P w=.ok (.value (cv U v)) w/\VOk H v:=by
   rintro⟨rfl,rfl⟩
   obtain⟨a,c,rfl,ha,hc⟩:=map2 hx
   simp only[zE9]at h
   rcases inv_bin h with⟨k,p,k',q,he,hr⟩ | ⟨p,q,he,hr⟩
   ·cases he
    have hg:∀ z,eqGuard b t x y (.int k p) z=pure ():=fun z=>eqGuard_at_int ..
    simp only[execOp,ha,hc,cv,hg]
    rcases hr with⟨hb,hr⟩ | ⟨hb,rfl,hr⟩
    ·obtain⟨h1,n,rfl⟩:=zRr (P:=P) (w:=w) (k':=k') U t hb hr
     simp only[Sem.run_bind,Sem.run_pure,Result.andThen_ok,h1]
     exact⟨by trivial,trivial⟩
    ·obtain⟨h1,bb,h2⟩:=intBin_sound (P:=P) (w:=w) U t hb hr
     simp only[Sem.run_bind,Sem.run_pure,Result.andThen_ok,h1]
     rcases h2 with rfl | ⟨n,rfl⟩ <;> exact⟨by trivial,trivial⟩
   ·cases he
    have hg:∀ z,eqGuard b t x y (.string ⟨p.toArray⟩) z=pure ():=fun z=>eqGuard_at_string ..
    simp only[execOp,ha,hc,cv,hg]
    obtain⟨h1,h2⟩:=strBin_sound (P:=P) (w:=w) U t hr
    simp only[Sem.run_bind,Sem.run_pure,Result.andThen_ok,h1]
    rcases h2 with⟨bb,rfl⟩ | ⟨n,rfl⟩ <;> exact⟨by trivial,trivial⟩
  have eqCase:∀ (neg:Bool) (e:E),b=(if neg then .neq else .eql)->eqOf P t=some e->(∀ k,P.underlying t≠some (.int k))->P.underlying t≠some .string->(o=.eq neg e/\xs=[x,y]) ->
    (execOp I ⟨dst,.binOp b t x y ty2,ty,pos,after,guard⟩).run P w=.ok (.value (cv U v)) w/\VOk H v:=by
   rintro neg e rfl heq hni hns ⟨rfl,rfl⟩
   obtain⟨a,c,rfl,ha,hc⟩:=map2 hx
   simp only[zE9,pEq]at h
   split at h
   ·rename_i bb hbb
    cases h
    obtain⟨h1,h2⟩:=eqV_sound (P:=P) (w:=w) U t heq hbb (if neg then .neq else .eql) x y
    refine⟨?_,trivial⟩
    simp only[execOp,ha,hc,Sem.run_bind,h2,Result.andThen_ok]
    have hkind:(∀ k p k' q,¬(a=.int k p/\c=.int k' q))/\(∀ p q,¬(a=.str p/\c=.str q)):=by
     refine⟨?_,?_⟩
     ·rintro k p k' q ⟨rfl,rfl⟩
      unfold eqOf at heq
      split at heq <;> first | (cases heq;done) | (cases heq;simp[eqV,eqS]at hbb;done) | skip
      split at heq
      ·split at heq
       ·cases heq;simp[eqV,eqS]at hbb
       ·cases heq
      ·cases heq
     ·rintro p q ⟨rfl,rfl⟩
      unfold eqOf at heq
      split at heq <;> first | (cases heq;done) | (cases heq;simp[eqV,eqS]at hbb;done) | skip
      split at heq
      ·split at heq
       ·cases heq;simp[eqV,eqS]at hbb
       ·cases heq
      ·cases heq
    have hpl:Plainly (cv U a) (cv U c):=by
     refine⟨?_,?_,?_,?_⟩
     ·rintro k p k' q ⟨e1,e2⟩
      cases a <;> simp only[cv,reduceCtorEq]at e1
      cases c <;> simp only[cv,reduceCtorEq]at e2
      exact hkind.1 _ _ _ _ ⟨rfl,rfl⟩
     ·rintro p q ⟨e1,e2⟩
      cases a <;> simp only[cv,reduceCtorEq]at e1
      cases c <;> simp only[cv,reduceCtorEq]at e2
      exact hkind.2 _ _ ⟨rfl,rfl⟩
     ·rintro k p k' q ⟨e1,e2⟩
      cases a <;> simp only[cv,reduceCtorEq]at e1
     ·rintro k p p' k' q q' ⟨e1,e2⟩
      cases a <;> simp only[cv,reduceCtorEq]at e1
    have hbin:(binOp (if neg then .neq else .eql) t (cv U a) (cv U c)).run P w=.ok (.bool (bb != neg)) w:=by
     cases neg
     ·rw[Bool.bne_false];exact zOi hpl h1
     ·rw[Bool.bne_true];exact zOH hpl h1
    rw[hbin]
    rfl
   ·cases h
  split at ht
  ·cases ht;exact intCase ⟨rfl,rfl⟩
  ·cases ht;exact intCase ⟨rfl,rfl⟩
  ·split at ht
   ·split at ht <;> cases ht
   ·split at ht <;> cases ht
   ·cases ht
  ·rename_i hni hns _
   split at ht
   ·rename_i e he
    cases ht
    exact eqCase false e rfl he (fun k hk=>hni k hk) (fun hk=>hns hk) ⟨rfl,rfl⟩
   ·rename_i e he
    cases ht
    exact eqCase true e rfl he (fun k hk=>hni k hk) (fun hk=>hns hk) ⟨rfl,rfl⟩
   ·cases ht
 case unOp u t x =>
  cases ht
  obtain⟨a,rfl,ha⟩:=map1 hx
  obtain⟨h1,h2⟩:=unOp_sound (P:=P) (w:=w) (U:=U) (show unOp u a=some v from h)
  refine⟨?_,h2 H⟩
  simp only[execOp,ha,Sem.run_bind,h1,Result.andThen_ok,Sem.run_pure]
 case convert s t x =>
  split at ht
  ·rename_i ks k hs hk
   cases ht
   obtain⟨a,rfl,ha⟩:=map1 hx
   simp only[zE9,pToInt]at h
   split at h
   ·rename_i k0 n heq
    cases heq
    simp only[mkI,zH6,zPZ]at h
    cases h
    refine⟨?_,trivial⟩
    simp only[execOp,ha,cv,convert,Sem.run_bind,run_underlying hs,run_underlying hk,Result.andThen_ok,Conv.intToInt,Sem.run_pure]
   ·cases h
  ·rename_i ks hs hk
   cases ht
   obtain⟨a,rfl,ha⟩:=map1 hx
   simp only[zE9,pRuneStr]at h
   split at h
   ·rename_i k0 n heq
    cases heq
    cases h
    refine⟨?_,trivial⟩
    simp only[execOp,ha,cv,convert,Sem.run_bind,run_underlying hs,run_underlying hk,Result.andThen_ok,Conv.intToString,Sem.run_pure,encodeR_eq]
   ·cases h
  ·rename_i hs hk
   cases ht
   obtain⟨a,rfl,ha⟩:=map1 hx
   simp only[zE9,pAsStr]at h
   split at h
   ·rename_i s heq
    cases heq
    cases h
    refine⟨?_,trivial⟩
    simp only[execOp,ha,cv,convert,Sem.run_bind,run_underlying hs,run_underlying hk,Result.andThen_ok,Sem.run_pure]
   ·cases h
  ·rename_i hs hk
   split at ht <;> cases ht
  ·rename_i hs hk
   split at ht <;> cases ht
  ·rename_i hs hk
   split at ht <;> cases ht
  ·cases ht
 case makeInterface t x =>
  split at ht
  ·cases ht
  ·rename_i d hnd hu
   cases ht
   obtain⟨a,rfl,ha⟩:=map1 hx
   simp only[zE9,pIface]at h
   cases h
   refine⟨?_,hok.1⟩
   simp only[execOp,ha,Instr.makeInterface,Sem.run_bind,run_underlying hu,Result.andThen_ok]
   rfl
  ·cases ht
 case next x b =>
  cases b <;> simp only at ht <;> cases ht
 case makeFunc fn first captured =>
  cases fn <;> simp only at ht <;> first | (cases ht;done) | skip
  ·rename_i f
   cases ht
   simp only[zE9,Option.some.injEq]at h
   subst h
   have h1:first.toList.map I=cvl U (vs.take first.size):=by
    rw[cvl_take,<- hx,List.map_append,List.take_left' (by simp)]
   have h2:captured.toList.map I=cvl U (vs.drop first.size):=by
    rw[cvl_drop,<- hx,List.map_append,List.drop_left' (by simp)]
   refine⟨?_,?_⟩
   ·simp only[execOp,Instr.makeFunc,Sem.run_bind,Sem.run_pure,Result.andThen_ok,cv,<- h1,<- h2]
    rw[<- Array.toList_map,<- Array.toList_map]
   ·rw[zw]at hok
    exact⟨(zw H _).2 fun u hu=>hok u (List.mem_of_mem_take hu),(zw H _).2 fun u hu=>hok u (List.mem_of_mem_drop hu)⟩
 case slice t x lo hi mx =>
  have flagOk:∀ {l h m:Option Nat},¬(mx.isSome && !hi.isSome)=true->OptV (hi.map I) h->OptV (mx.map I) m->m.isSome=true->h.isSome=true:=by
   intro l h m hf oh om hm
   have h1:=oh.isSome
   have h2:=om.isSome
   cases hi <;> cases mx <;> simp_all
  have arr:∀ (n:Nat) (e:TypeId) (a:V) (r:List V),(¬(mx.isSome && !hi.isSome)=true)->(∃ d,P.underlying e=some d)->I x=cv U a->(lo.toList++hi.toList++mx.toList).map I=cvl U r->VsOk H (a::r) ->
    zCH n (P.cellsOf e) lo.isSome hi.isSome mx.isSome (a::r)=some v ->
    ∃ id off l h m,a=.ptr id off/\(Instr.sliceBounds false n n (lo.map I) (hi.map I) (mx.map I)).run P w=.ok (l,h,m) w /\
     Value.slice (some (if m=l then(⟨(U id).1,(U id).2+off,none⟩:Addr)else Addr.add ⟨(U id).1,(U id).2+off,none⟩ (l*P.cellsOf e))) (h-l) (m-l)=cv U v/\VOk H v:=by
   intro n e a r hf hd ha hr hok h
   simp only[zCH]at h
   split at h
   ·rename_i id off vs' heq
    cases heq
    split at h
    ·rename_i l h' m hb
     obtain⟨ol,oh,om⟩:=zHk hb hr
     have hm:=flagOk (l:=l) hf oh om
     have hlen:n<=n+(none:Option Nat).getD 0:=Nat.le_refl _
     obtain⟨h1,h2,h3,_⟩:=zOP hm hlen h
     refine⟨id,off,l.getD 0,h'.getD n,m.getD n,rfl,zGC false n n ol oh om hm h1 h2 h3,slicePart hm hlen h rfl rfl,?_⟩
     exact slCut_ok (H:=H) hm ⟨hok.1,hlen,fun he=>by cases he⟩ h
    ·cases h
   ·cases h
  split at ht
  ·rename_i hu
   split at ht
   ·cases ht
   ·rename_i hmx
    cases ht
    have hmx':mx=none:=by cases mx <;> simp_all
    subst hmx'
    obtain⟨a,r,rfl,ha,hr⟩:=zMt hx
    simp only[zE9,zR]at h
    split at h
    ·rename_i s vs' heq
     cases heq
     split at h
     ·rename_i l h' m hb
      obtain⟨ol,oh,om⟩:=zHk (mx:=none) hb hr
      obtain⟨h1,h2,rfl⟩:=strCut_inv h
      have hm0:m=none:=by rcases om with⟨_,rfl⟩ | ⟨k,m',he,_⟩ <;> first | rfl | cases he
      subst hm0
      have hbd:=zGC (P:=P) (w:=w) false s.length s.length ol oh om (fun he=>by cases he) nl h1 h2
      refine⟨?_,trivial⟩
      have hsz:(ByteArray.mk s.toArray).size=s.length:=by simp[ByteArray.size]
      simp only[execOp,ha,cv,Instr.sliceAt,Sem.run_bind,run_underlying hu,Result.andThen_ok,Instr.slice,hsz]
      simp only[Option.map_none]at hbd
      simp[hbd,zPi]
     ·cases h
    ·cases h
  ·rename_i e hu
   split at ht
   ·cases ht
   ·rename_i hf
    obtain⟨⟨d,hd⟩,ht⟩:=zFF ht
    cases ht
    obtain⟨a,r,rfl,ha,hr⟩:=zMt hx
    simp only[zE9,zHq]at h
    split at h
    ·rename_i id off len clo ex z vs' heq
     cases heq
     cases hz:Nat.beq (P.cellsOf e) z with
     | false=>simp only[hz,cond_false]at h;cases h
     | true =>
      have hz':=Nat.eq_of_beq_eq_true hz
      subst hz'
      simp only[hz,cond_true]at h
      split at h
      ·rename_i l h' m hb
       obtain⟨ol,oh,om⟩:=zHk hb hr
       have hm:=flagOk (l:=l) hf oh om
       have hlen:=hok.1.2.1
       obtain⟨h1,h2,h3,_⟩:=zOP hm hlen h
       have hbd:=zGC (P:=P) (w:=w) true len (clo+ex.getD 0) ol oh om hm h1 h2 h3
       refine⟨?_,slCut_ok hm hok.1 h⟩
       rw[<- slicePart (U:=U) (e:=e) (n:=0) hm hlen h rfl rfl]
       simp only[execOp,ha,cv,Instr.sliceAt,Sem.run_bind,run_underlying hu,Result.andThen_ok,Instr.slice,hbd,zm _ d hd,Sem.run_pure]
       congr 3
       split <;> rfl
      ·cases h
    ·rename_i vs' heq
     cases heq
     split at h
     ·rename_i l h' m hb
      obtain⟨ol,oh,om⟩:=zHk hb hr
      have hm:=flagOk (l:=l) hf oh om
      obtain⟨h1,h2,h3,rfl⟩:=nilCut_inv h
      have hbd:=zGC (P:=P) (w:=w) true 0 0 ol oh om hm (by omega) (by omega) (by omega)
      refine⟨?_,trivial⟩
      simp only[execOp,ha,cv,Instr.sliceAt,Sem.run_bind,run_underlying hu,Result.andThen_ok,Instr.slice,hbd,zm _ d hd,Sem.run_pure,h1,h2,h3]
      rfl
     ·cases h
    ·cases h
  ·rename_i n e hu
   split at ht
   ·cases ht
   ·rename_i hf
    obtain⟨hd,ht⟩:=zFF ht
    cases ht
    obtain⟨a,r,rfl,ha,hr⟩:=zMt hx
    obtain⟨id,off,l,h',m,rfl,hbd,hv,hvok⟩:=arr n e a r hf hd ha hr hok h
    obtain⟨d,hd⟩:=hd
    refine⟨?_,hvok⟩
    rw[<- hv]
    simp only[execOp,ha,cv,Instr.sliceAt,Instr.sureAddr,Sem.run_bind,run_underlying hu,Result.andThen_ok,hbd,zm _ d hd,Sem.run_pure]
  ·rename_i ar hu
   split at ht
   ·rename_i n e hua
    split at ht
    ·cases ht
    ·rename_i hf
     obtain⟨hd,ht⟩:=zFF ht
     cases ht
     obtain⟨a,r,rfl,ha,hr⟩:=zMt hx
     obtain⟨id,off,l,h',m,rfl,hbd,hv,hvok⟩:=arr n e a r hf hd ha hr hok h
     obtain⟨d,hd⟩:=hd
     refine⟨?_,hvok⟩
     rw[<- hv]
     simp only[execOp,ha,cv,Instr.sliceAt,Instr.slice,asAddr,Sem.run_bind,run_underlying hu,run_underlying hua,Result.andThen_ok,hbd,zm _ d hd,Sem.run_pure]
   ·cases ht
  ·cases ht
 case fieldAddr t x i =>
  split at ht
  ·rename_i fs hu
   split at ht
   ·rename_i f hf
    split at ht
    ·cases ht
    ·rename_i hz
     obtain⟨⟨d,hd⟩,ht⟩:=zFF ht
     cases ht
     obtain⟨a,rfl,ha⟩:=map1 hx
     simp only[zE9,zQ]at h
     split at h
     ·rename_i id off heq
      cases heq
      cases h
      refine⟨?_,hok.1⟩
      simp only[execOp,ha,cv,Instr.fieldAt,Instr.sureAddr,Sem.run_bind,run_underlying hu,Result.andThen_ok,hf,Sem.run_pure,fieldPlace,zm _ d hd,if_neg hz,zGn,Nat.add_assoc]
     ·cases h
   ·cases ht
  ·cases ht
 case field t x i =>
  split at ht
  ·rename_i fs hu
   split at ht
   ·rename_i f hf
    obtain⟨⟨d,hd⟩,ht⟩:=zFF ht
    cases ht
    obtain⟨a,rfl,ha⟩:=map1 hx
    simp only[zE9,pField]at h
    split at h
    ·rename_i cs heq
     cases heq
     obtain⟨h1,h2⟩:=zPt (w:=w) (U:=U) hd h hok.1
     refine⟨?_,h2⟩
     simp only[execOp,ha,cv,Instr.field,Sem.run_bind,run_underlying hu,Result.andThen_ok,hf,asAgg,Sem.run_pure,h1]
    ·cases h
   ·cases ht
  ·cases ht
 case indexAddr t x i =>
  split at ht
  ·rename_i e hu
   obtain⟨⟨d,hd⟩,ht⟩:=zFF ht
   cases ht
   obtain⟨a,c,rfl,ha,hc⟩:=map2 hx
   simp only[zE9,zn]at h
   split at h
   ·rename_i id off len clo ex z k n heq
    cases heq
    split at h
    ·rename_i m hm
     have:=zGY hm
     subst this
     cases hb:(Nat.beq (P.cellsOf e) z && Nat.blt m len)with
     | false=>simp only[hb,cond_false]at h;cases h
     | true =>
      simp only[hb,cond_true]at h
      cases h
      simp only[Bool.and_eq_true]at hb
      have hlt:m<len:=by simpa [Nat.blt_eq] using hb.2
      refine⟨?_,hok.1.1⟩
      simp only[execOp,ha,hc,cv,Instr.indexAt,asIntOf,Sem.run_bind,Sem.run_pure,Result.andThen_ok,run_underlying hu]
      simp[hlt,zm _ d hd,zGn,Nat.add_assoc]
    ·cases h
   ·cases h
  ·rename_i n e hu
   obtain⟨⟨d,hd⟩,ht⟩:=zFF ht
   cases ht
   obtain⟨a,c,rfl,ha,hc⟩:=map2 hx
   simp only[zE9,zJW]at h
   split at h
   ·rename_i id off k n' heq
    cases heq
    split at h
    ·rename_i m hm
     have:=zGY hm
     subst this
     cases hb:Nat.blt m n with
     | false=>simp only[hb,cond_false]at h;cases h
     | true =>
      simp only[hb,cond_true]at h
      cases h
      have hlt:m<n:=by simpa [Nat.blt_eq] using hb
      refine⟨?_,hok.1⟩
      simp only[execOp,ha,hc,cv,Instr.indexAt,asIntOf,Sem.run_bind,Sem.run_pure,Result.andThen_ok,run_underlying hu]
      simp[Instr.sureAddr,hlt,zm _ d hd,zGn,Nat.add_assoc]
    ·cases h
   ·cases h
  ·cases ht
 case index t x i =>
  split at ht
  ·rename_i hu
   cases ht
   obtain⟨a,c,rfl,ha,hc⟩:=map2 hx
   simp only[zE9,zM]at h
   split at h
   ·rename_i s k n heq
    cases heq
    split at h
    ·rename_i m hm
     have:=zGY hm
     subst this
     split at h
     ·rename_i ch hch
      cases h
      refine⟨?_,trivial⟩
      have hlt:m<s.length:=(List.getElem?_eq_some_iff.1 hch).1
      have hget:(ByteArray.mk s.toArray)[m]?=some ch:=by
       rw[ByteArray.getElem?_lt' _ _ (by simpa [ByteArray.size] using hlt)]
       congr 1
       have:=(List.getElem?_eq_some_iff.1 hch).2
       simpa [ByteArray.getElem_eq_getElem_data] using this
      simp only[execOp,ha,hc,cv,Instr.index,asIntOf,Sem.run_bind,Sem.run_pure,Result.andThen_ok,run_underlying hu]
      simp[hget]
     ·cases h
    ·cases h
   ·cases h
  ·rename_i n e hu
   obtain⟨⟨d,hd⟩,ht⟩:=zFF ht
   cases ht
   obtain⟨a,c,rfl,ha,hc⟩:=map2 hx
   simp only[zE9,pArrIndex]at h
   split at h
   ·rename_i cs k n' heq
    cases heq
    split at h
    ·rename_i m hm
     have:=zGY hm
     subst this
     cases hb:Nat.blt m n with
     | false=>simp only[hb,cond_false]at h;cases h
     | true =>
      simp only[hb,cond_true]at h
      have hlt:m<n:=by simpa [Nat.blt_eq] using hb
      obtain⟨h1,h2⟩:=zPt (w:=w) (U:=U) hd h hok.1
      refine⟨?_,h2⟩
      simp only[execOp,ha,hc,cv,Instr.index,asIntOf,Sem.run_bind,Sem.run_pure,Result.andThen_ok,run_underlying hu]
      simp[hlt,zm _ d hd,h1]
    ·cases h
   ·cases h
  ·cases ht
 case extract x i =>
  cases ht
  obtain⟨a,rfl,ha⟩:=map1 hx
  simp only[zE9,zT]at h
  split at h
  ·rename_i us heq
   cases heq
   refine⟨?_,(zw H us).1 hok.1 v (List.mem_of_getElem? h)⟩
   have:(cvl U us).toArray[i]?=some (cv U v):=by simp[zFy,h]
   simp only[execOp,ha,cv,Instr.extract,Sem.run_bind,this,Sem.run_pure,Result.andThen_ok]
  ·cases h
 case call c =>
  split at ht
  ·split at ht <;> cases ht
  ·cases ht
  ·rename_i b hc
   split at ht
   ·rename_i o' hb
    cases ht
    have hargs:c.args.map I=(cvl U vs).toArray:=by
     rw[<- hx,<- Array.toList_map]
    have hres:∀ (S:Sem Value),(∀ cs,builtin b c.argTypes ty cs (cvl U vs).toArray=(do pure (.value (<- S))))->S.run P w=.ok (cv U v) w ->
      (execOp I ⟨dst,.call c,ty,pos,after,guard⟩).run P w=.ok (.value (cv U v)) w:=by
     intro S hS hr
     simp only[execOp,resolve,hc,Sem.run_bind,Sem.run_pure,Result.andThen_ok,hargs,invoke]
     rw[hS]
     simp only[Sem.run_bind,hr,Result.andThen_ok,Sem.run_pure]
    have hsz:∀ s:List UInt8,(ByteArray.mk s.toArray).size=s.length:=fun s=>by simp[ByteArray.size]
    unfold zJl at hb
    split at hb
    ·rename_i t rest hty
     have hty0:c.argTypes[0]?=some t:=by rw[<- Array.getElem?_toList,hty];rfl
     split at hb
     ·rename_i hu
      cases hb
      simp only[zE9,zBW]at h
      split at h
      ·cases h
       refine⟨hres _ (fun _=>rfl) ?_,trivial⟩
       simp only[Builtin.len_,hty0,cvl,cv,List.getElem?_toArray,List.getElem?_cons_zero,Sem.run_bind,run_underlying hu,Result.andThen_ok,hsz,goInt,Sem.run_pure]
       rfl
      ·cases h
     ·rename_i e hu
      cases hb
      simp only[zE9,pLen]at h
      split at h
      ·cases h
       refine⟨hres _ (fun _=>rfl) ?_,trivial⟩
       simp only[Builtin.len_,hty0,cvl,cv,List.getElem?_toArray,List.getElem?_cons_zero,Sem.run_bind,run_underlying hu,Result.andThen_ok,goInt,Sem.run_pure]
       rfl
      ·cases h
       refine⟨hres _ (fun _=>rfl) ?_,trivial⟩
       simp only[Builtin.len_,hty0,cvl,cv,List.getElem?_toArray,List.getElem?_cons_zero,Sem.run_bind,run_underlying hu,Result.andThen_ok,goInt,Sem.run_pure]
       rfl
      ·cases h
     ·cases hb
     ·rename_i n e hu
      cases hb
      simp only[zE9,pArrLen]at h
      split at h
      ·cases h
       refine⟨hres _ (fun _=>rfl) ?_,trivial⟩
       simp only[Builtin.len_,hty0,cvl,List.getElem?_toArray,List.getElem?_cons_zero,Sem.run_bind,run_underlying hu,Result.andThen_ok,goInt,Sem.run_pure]
       rfl
      ·cases h
     ·rename_i ar hu
      split at hb
      ·rename_i n e hua
       cases hb
       simp only[zE9,pArrLen]at h
       split at h
       ·cases h
        refine⟨hres _ (fun _=>rfl) ?_,trivial⟩
        simp only[Builtin.len_,hty0,cvl,List.getElem?_toArray,List.getElem?_cons_zero,Sem.run_bind,run_underlying hu,run_underlying hua,Result.andThen_ok,goInt,Sem.run_pure]
        rfl
       ·cases h
      ·cases hb
     ·cases hb
    ·rename_i t rest hty
     have hty0:c.argTypes[0]?=some t:=by rw[<- Array.getElem?_toList,hty];rfl
     split at hb
     ·rename_i e hu
      cases hb
      simp only[zE9,pCap]at h
      split at h
      ·cases h
       refine⟨hres _ (fun _=>rfl) ?_,trivial⟩
       simp only[Builtin.cap_,hty0,cvl,cv,List.getElem?_toArray,List.getElem?_cons_zero,Sem.run_bind,run_underlying hu,Result.andThen_ok,goInt,Sem.run_pure]
       rfl
      ·cases h
       refine⟨hres _ (fun _=>rfl) ?_,trivial⟩
       simp only[Builtin.cap_,hty0,cvl,cv,List.getElem?_toArray,List.getElem?_cons_zero,Sem.run_bind,run_underlying hu,Result.andThen_ok,goInt,Sem.run_pure]
       rfl
      ·cases h
     ·cases hb
    ·split at hb <;> first | (cases hb;done) | (split at hb <;> cases hb)
    ·split at hb <;> first | (cases hb;done) | (split at hb <;> cases hb)
    ·split at hb <;> first | (cases hb;done) | (split at hb <;> first | (cases hb;done) | (split at hb <;> cases hb))
    ·split at hb <;> cases hb
    ·cases hb
     simp only[zE9,pMin]at h
     split at h
     ·cases h
      refine⟨hres _ (fun _=>rfl) ?_,trivial⟩
      simp[Builtin.min_,Builtin.min2,cvl,cv]
     ·cases h
    ·cases hb
     simp only[zE9,pMax]at h
     split at h
     ·cases h
      refine⟨hres _ (fun _=>rfl) ?_,trivial⟩
      simp[Builtin.max_,Builtin.max2,cvl,cv]
     ·cases h
    ·cases hb
   ·cases ht
  ·cases ht
 case makeMap t r=>cases r <;> simp only at ht <;> cases ht
 all_goals first
  | (cases ht;done)
  | (repeat' (split at ht)) <;> first | (cases ht;done) | (obtain⟨_,ht⟩:=zFF ht;cases ht;done)
end
end Go.Am

namespace Go.Am
open Go.RowKit (Below)
open Go.MapKept (run_getObj_map run_setObj_map run_checkKey run_findKey run_keyThatStays)
section
variable {P:Program} {w w0:World} {U:Inj} {base:Base} {H:Heap} {I:Operand->Value}
theorem zRd {id:Nat}{cs:List V}(h:H.cells? id=some cs) :
  ∃ room fam ver wr pl st fr la,H.blk.get id=some (.mem cs room fam ver wr pl st)/\H.fams.get fam=some (fr,la)/\fr<=ver:=by
 unfold Heap.cells? at h
 split at h
 ·rename_i cs' room fam ver wr pl st hb
  split at h
  ·rename_i fr la hf
   cases hv:Nat.ble fr ver with
   | false=>rw[hv]at h;cases h
   | true =>
    rw[hv]at h
    cases h
    exact⟨room,fam,ver,wr,pl,st,fr,la,hb,hf,Nat.le_of_ble_eq_true hv⟩
  ·cases h
 ·cases h
theorem MRel.cell (hM:MRel U base w0 H w){id:Nat}{cs:List V}(h:H.cells? id=some cs) :
  VsOk H cs/\∀ (j:Nat) (v:V),cs[j]?=some v->w.cell? ⟨(U id).1,(U id).2+j,none⟩=some (cv U v):=by
 obtain⟨room,fam,ver,wr,pl,st,fr,la,hb,hf,hle⟩:=zRd h
 obtain⟨c,el,lo,up,h1,h2,h3,h4⟩:=hM.ok _ _ _ _ _ _ _ _ _ _ hb hf hle
 exact⟨(hM.cells _ _ _ _ _ _ _ _ hb).2,fun j v hv=>by rw[cell_of_row w _ _ c el (lo,up) h1];exact h3 j v hv⟩
theorem takeN_spec:∀ (n:Nat) (l r:List V),takeN n l=some r->r=l.take n/\n<=l.length:=by
 intro n
 induction n with
 | zero=>intro l r h;simp only[takeN,Option.some.injEq]at h;subst h;simp
 | succ n ih =>
  intro l r h
  cases l with
  | nil=>simp[takeN]at h
  | cons v l =>
   simp only[takeN]at h
   split at h
   ·rename_i r' hr
    cases h
    obtain⟨h1,h2⟩:=ih l r' hr
    subst h1
    exact⟨rfl,by simpa using h2⟩
   ·cases h
theorem loads_inv {id off n:Nat}{cs:List V}(h:H.loads id off n=some cs):∃ all,H.cells? id=some all/\cs=(all.drop off).take n/\cs.length=n:=by
 unfold Heap.loads at h
 split at h
 ·rename_i all ha
  obtain⟨h1,h2⟩:=takeN_spec _ _ _ h
  exact⟨all,ha,h1,by rw[h1,List.length_take];omega⟩
 ·cases h
theorem MRel.load (hM:MRel U base w0 H w){id off:Nat}{v:V}(h:H.load id off=some v) :
  VOk H v/\w.cell? ⟨(U id).1,(U id).2+off,none⟩=some (cv U v):=by
 unfold Heap.load at h
 split at h
 ·rename_i cs hc
  obtain⟨h1,h2⟩:=hM.cell hc
  exact⟨(zw H cs).1 h1 v (List.mem_of_getElem? h),h2 _ _ h⟩
 ·cases h
theorem MRel.loads (hM:MRel U base w0 H w){id off n:Nat}{cs:List V}(h:H.loads id off n=some cs) :
  VsOk H cs/\cs.length=n/\(∀ (j:Nat) (v:V),cs[j]?=some v->w.cell? ⟨(U id).1,(U id).2+off+j,none⟩=some (cv U v)) /\
   (loadCells ⟨(U id).1,(U id).2+off,none⟩ n).run P w=.ok (cvl U cs).toArray w:=by
 obtain⟨all,h1,h2,h3⟩:=loads_inv h
 obtain⟨k1,k2⟩:=hM.cell h1
 have hc:∀ (j:Nat) (v:V),cs[j]?=some v->w.cell? ⟨(U id).1,(U id).2+off+j,none⟩=some (cv U v):=by
  intro j v hv
  rw[h2]at hv
  have hlt:j<n:=by
   have:=(List.getElem?_eq_some_iff.1 hv).1
   rw[List.length_take]at this
   omega
  rw[List.getElem?_take_of_lt hlt,List.getElem?_drop]at hv
  rw[Nat.add_assoc]
  exact k2 _ _ hv
 refine⟨?_,h3,hc,?_⟩
 ·rw[zw]at k1 ⊢
  intro v hv
  rw[h2]at hv
  exact k1 v (List.mem_of_mem_drop (List.mem_of_mem_take hv))
 ·have hl:(cvl U cs).length=n:=by rw[zy,h3]
  rw[<- hl]
  refine run_loadCells_list w _ _ fun j v hv=>?_
  rw[zFy]at hv
  cases hj:cs[j]? with
  | none=>rw[hj]at hv;cases hv
  | some u =>
   rw[hj]at hv
   cases hv
   rw[zGn]
   exact hc j u hj
theorem bytesOf_spec:∀ (cs:List V) (s:List UInt8),bytesOf cs=some s->∃ ns:List Int,cs=ns.map (V.int .u8)/\s=ns.map fun n=>UInt8.ofNat n.toNat:=by
 intro cs
 induction cs with
 | nil=>intro s h;simp only[bytesOf,Option.some.injEq]at h;subst h;exact⟨[],rfl,rfl⟩
 | cons c cs ih =>
  intro s h
  unfold bytesOf at h
  split at h
  ·rename_i heq;cases heq
  ·rename_i n l heq
   cases heq
   split at h
   ·rename_i r hr
    cases h
    obtain⟨ns,h1,h2⟩:=ih r hr
    exact⟨n::ns,by rw[h1];rfl,by rw[h2];rfl⟩
   ·cases h
  ·cases h
theorem foldl_push (ns:List Int):∀ (s:List UInt8),ns.foldl (fun(r:ByteArray) n=>r.push (UInt8.ofNat n.toNat)) ⟨s.toArray⟩=⟨(s++ns.map fun n=>UInt8.ofNat n.toNat).toArray⟩:=by
 induction ns with
 | nil=>intro s;simp
 | cons n ns ih =>
  intro s
  simp only[List.foldl_cons,List.map_cons]
  have:(ByteArray.mk s.toArray).push (UInt8.ofNat n.toNat)=⟨(s++[UInt8.ofNat n.toNat]).toArray⟩:=by
   apply ByteArray.ext
   simp[ByteArray.push]
  rw[this,ih]
  simp
theorem zRQ {a b:Addr}{ca cb:Array Value}{ta tb:TypeId}{la lb:Nat}(hne:a.block≠b.block)(ha:w.heap[a.block]?=some (.cells ca ta (la,la)))(hb:w.heap[b.block]?=some (.cells cb tb (lb,lb))) :
  (sameAddr a b).run P w=.ok false w:=by
 have fz:∀ {x:Addr} {c:Array Value} {t:TypeId} {l:Nat},w.heap[x.block]?=some (.cells c t (l,l))->w.frozen? x=false:=by
  intro x c t l h
  unfold World.frozen?
  rw[h]
  simp;try omega
 have fa:=fz ha
 have fb:=fz hb
 have fa2:w.frozen? ⟨a.block,ca.size,none⟩=false:=fz (x:=⟨a.block,ca.size,none⟩) ha
 have fb2:w.frozen? ⟨b.block,cb.size,none⟩=false:=fz (x:=⟨b.block,cb.size,none⟩) hb
 simp[sameAddr,hne,fa,fb,fa2,fb2,ha,hb,noView,viewAt,World.shape?,mayBeOne,stringish]
theorem zRn {H:Heap}{id f:Nat}(h:famOf H id=some f):∃ cs room ver st fr la,H.blk.get id=some (.mem cs room f ver true true st)/\H.fams.get f=some (fr,la)/\fr<=ver:=by
 unfold famOf at h
 split at h
 ·rename_i cs room fam ver st hb
  split at h
  ·rename_i fr la hf
   cases hl:Nat.ble fr ver with
   | true =>
    rw[hl]at h
    cases h
    exact⟨cs,room,ver,st,fr,la,hb,hf,Nat.le_of_ble_eq_true hl⟩
   | false=>rw[hl]at h;cases h
  ·cases h
 ·cases h
theorem peq_equal (hM:MRel U base w0 H w){t e:TypeId}(hu:P.underlying t=some (.pointer e))(hz:P.cellsOf e≠0){d:TypeDesc}(hd:P.underlying e=some d){neg:Bool}{a c v:V}(h:lPeq neg [a,c] H=some v) :
  ∃ bb,v=.bool (bb != neg)/\(∃ x y,cv U a=.pointer x/\cv U c=.pointer y)/\(Go.Op.equal t (cv U a) (cv U c)).run P w=.ok bb w:=by
 have eq3:∀ (d':Nat) (x y:Option Addr) (bb:Bool),((x=none/\bb=y.isNone)∨(y=none/\x≠none/\bb=false)∨∃ A B,x=some A/\y=some B/\(sameAddr A B).run P w=.ok bb w)->(Go.Op.equalIn (d'+1) t (.pointer x) (.pointer y)).run P w=.ok bb w:=by
  intro d' x y bb h
  rcases h with⟨rfl,rfl⟩ | ⟨rfl,hx,rfl⟩ | ⟨A,B,rfl,rfl,hs⟩
  ·simp only[Go.Op.equalIn,Sem.run_bind,run_underlying hu,Result.andThen_ok,Sem.run_pure]
  ·obtain⟨A,rfl⟩:∃ A,x=some A:=by cases x with | none=>exact absurd rfl hx | some A=>exact⟨A,rfl⟩
   simp only[Go.Op.equalIn,Sem.run_bind,run_underlying hu,Result.andThen_ok,Sem.run_pure]
  ·simp only[Go.Op.equalIn,Sem.run_bind,run_underlying hu,Result.andThen_ok,zm e d hd,ne_eq,hz,not_false_eq_true,if_true,hs]
 have eq2:∀ (x y:Option Addr) (bb:Bool),((x=none/\bb=y.isNone)∨(y=none/\x≠none/\bb=false)∨∃ A B,x=some A/\y=some B/\(sameAddr A B).run P w=.ok bb w)->(Go.Op.equal t (.pointer x) (.pointer y)).run P w=.ok bb w:=by
  intro x y bb h
  simp only[Go.Op.equal,Go.Op.maxDepth]
  exact eq3 9999 x y bb h
 unfold lPeq at h
 split at h
 ·rename_i e1
  cases e1;cases h
  exact⟨true,rfl,⟨_,_,rfl,rfl⟩,eq2 _ _ _ (.inl ⟨rfl,rfl⟩)⟩
 ·rename_i e1
  cases e1;cases h
  exact⟨false,rfl,⟨_,_,rfl,rfl⟩,eq2 _ _ _ (.inl ⟨rfl,rfl⟩)⟩
 ·rename_i e1
  cases e1;cases h
  exact⟨false,rfl,⟨_,_,rfl,rfl⟩,eq2 _ _ _ (.inr (.inl ⟨rfl,by simp,rfl⟩))⟩
 ·rename_i i o j o' e1
  cases e1
  cases hij:Nat.beq i j with
  | true =>
   rw[hij]at h
   cases h
   have:=Nat.eq_of_beq_eq_true hij
   subst this
   refine⟨Nat.beq o o',rfl,⟨_,_,rfl,rfl⟩,eq2 _ _ _ (.inr (.inr ⟨_,_,rfl,rfl,?_⟩))⟩
   have e2:((⟨(U i).1,(U i).2+o,none⟩:Addr) ==⟨(U i).1,(U i).2+o',none⟩)=Nat.beq o o':=by
    rw[Bool.eq_iff_iff]
    simp
   simp[sameAddr,e2]
  | false =>
   rw[hij]at h
   simp only[cond_false]at h
   split at h
   ·rename_i f g hf hg
    cases hfg:Nat.beq f g with
    | true=>rw[hfg]at h;cases h
    | false =>
     rw[hfg]at h
     cases h
     obtain⟨cs,room,ver,st,fr,la,b1,b2,b3⟩:=zRn hf
     obtain⟨cs',room',ver',st',fr',la',c1,c2,c3⟩:=zRn hg
     have hne:(U i).1≠(U j).1:=fun e=>by
      have:=hM.sep _ _ _ _ _ _ _ _ _ _ _ _ _ _ _ _ _ _ _ b1 b2 b3 c1 c2 c3 e
      subst this
      rw[Nat.beq_refl]at hfg
      cases hfg
     obtain⟨ca,ta,la1,p1⟩:=hM.plok _ _ _ _ _ _ _ _ _ b1 b2 b3 rfl
     obtain⟨cb,tb,lb1,p2⟩:=hM.plok _ _ _ _ _ _ _ _ _ c1 c2 c3 rfl
     exact⟨false,rfl,⟨_,_,rfl,rfl⟩,eq2 _ _ _ (.inr (.inr ⟨_,_,rfl,rfl,zRQ (a:=⟨(U i).1,(U i).2+o,none⟩) (b:=⟨(U j).1,(U j).2+o',none⟩) hne p1 p2⟩))⟩
   ·cases h
 ·cases h
theorem zKY {t e:TypeId}(h:zQa P t=some e):∃ k,P.underlying t=some (.map k e)/\P.underlying k=some .string:=by
 unfold zQa at h
 split at h
 ·rename_i k e' hu
  split at h
  ·rename_i hk
   cases h
   exact⟨k,hu,hk⟩
  ·cases h
 ·cases h
theorem zQD {t:TypeId}{z:V}(U:Inj)(h:zeroV P t=some z):(zeroValue t).run P w=.ok (cv U z) w/\∀ H,VOk H z:=by
 unfold zeroV at h
 split at h
 ·rename_i i hi
  split at h
  ·rename_i v hv
   obtain⟨h1,h2⟩:=cv?_sound U h
   exact⟨by simp[zeroValue,typeInfo,hi,hv,h1],h2⟩
  ·cases h
 ·cases h
theorem str_ext {a b:List UInt8}:((⟨a.toArray⟩:ByteArray)=⟨b.toArray⟩) ↔ a=b:=by
 constructor
 ·intro h
  injection h with h
  exact Array.toList_inj.2 h |> fun h=>by simpa using h
 ·rintro rfl;rfl
theorem findNow_map (U:Inj)(k:List UInt8):∀ (es:List (List UInt8 × V × Nat)) (ents:List MapEntry) (i:Nat),zGF U es ents ->
  (zKM k es=none/\Instr.findNow .string (.string ⟨k.toArray⟩) ents i=some none)∨∃ v j e,zKM k es=some v/\Instr.findNow .string (.string ⟨k.toArray⟩) ents i=some (some (i+j,cv U v.1))/\ents[j]?=some e/\e.key=.string ⟨k.toArray⟩/\e.born=v.2:=by
 intro es
 induction es with
 | nil =>
  intro ents i h
  cases ents with
  | nil=>exact .inl ⟨rfl,rfl⟩
  | cons e l=>cases h
 | cons p es ih =>
  intro ents i h
  cases ents with
  | nil=>cases h
  | cons e l =>
   simp only[zGF,List.map_cons,List.cons.injEq,Prod.mk.injEq]at h
   obtain⟨⟨h1,h2,h4⟩,h3⟩:=h
   obtain⟨k',v'⟩:=p
   simp only at h1 h2 h4
   have hs:Instr.sameNow .string (.string ⟨k.toArray⟩) e.key=some (eqB k k'):=by
    rw[h1]
    simp only[Instr.sameNow]
    congr 1
    rw[zOq,Bool.eq_iff_iff]
    rw[beq_iff_eq (a:=k)]
    exact Iff.trans (MapKept.bytes_beq _ _) str_ext
   cases hb:eqB k k' with
   | true =>
    have hk:k=k':=by rw[zOq]at hb;simpa using hb
    refine .inr ⟨v',0,e,by simp[zKM,hb],?_,rfl,by rw[h1,hk],h4⟩
    simp only[Instr.findNow,hs,hb,h2,Nat.add_zero]
   | false =>
    rcases ih l (i+1) h3 with⟨a,b⟩ | ⟨v,j,e2,a,b,c,d,g⟩
    ·exact .inl ⟨by simp[zKM,hb,a],by simp only[Instr.findNow,hs,hb,b]⟩
    ·exact .inr ⟨v,j+1,e2,by simp[zKM,hb,a],by simp only[Instr.findNow,hs,hb,b];rw[show i+1+j=i+(j+1)by omega],c,d,g⟩
theorem findS_mem {k:List UInt8}{v:V × Nat}:∀ {es:List (List UInt8 × V × Nat)},zKM k es=some v->∃ k',(k',v) ∈ es:=by
 intro es
 induction es with
 | nil=>intro h;cases h
 | cons p es ih =>
  intro h
  obtain⟨k',u⟩:=p
  cases hb:eqB k k' with
  | true=>simp[zKM,hb]at h;subst h;exact⟨k',by simp⟩
  | false =>
   simp[zKM,hb]at h
   obtain⟨k2,h2⟩:=ih h
   exact⟨k2,by simp[h2]⟩
theorem zQj (hM:MRel U base w0 H w)(op:Go.Op)(o:LOp)(xs:List Operand)(vs:List V)(v:V)(dst:Option Tmp)(ty:TypeId)(pos:String)(after:Array Edge)(guard:Option (Nat × Bool))
  (ht:trOp P op=some (.l o,xs)) (hx:xs.map I=cvl U vs) (h:zGU o vs H=some v) :
  (execOp I ⟨dst,op,ty,pos,after,guard⟩).run P w=.ok (.value (cv U v)) w/\VOk H v:=by
 cases op <;> simp only[trOp]at ht
 case load t x =>
  obtain⟨⟨d,hd⟩,ht⟩:=zFF ht
  cases ht
  obtain⟨a,rfl,ha⟩:=map1 hx
  unfold aggN at h
  cases hag:aggT P t with
  | false =>
   simp only[hag,Bool.false_eq_true,if_false,zGU,zRB,zf]at h
   split at h
   ·rename_i id off heq2
    cases heq2
    obtain⟨h1,h2⟩:=hM.load h
    refine⟨?_,h1⟩
    simp only[execOp,ha,cv,Instr.loadAt,Instr.sureAddr,loadVar,Sem.run_bind,Sem.run_pure,Result.andThen_ok,zHj t d hd,hag,Bool.false_eq_true,if_false,run_load,h2]
   ·cases h
  | true =>
   simp only[hag,if_true,zGU,zRB,zA7]at h
   split at h
   ·rename_i id off heq2
    cases heq2
    split at h
    ·rename_i cs hcs
     cases h
     obtain⟨h1,h2,h3,h4⟩:=hM.loads (P:=P) hcs
     refine⟨?_,h1⟩
     simp only[execOp,ha,cv,Instr.loadAt,Instr.sureAddr,loadVar,Sem.run_bind,Sem.run_pure,Result.andThen_ok,zHj t d hd,hag,if_true,zm t d hd,h4]
    ·cases h
   ·cases h
 case convert s t x =>
  split at ht
  ·cases ht
  ·cases ht
  ·cases ht
  ·split at ht <;> cases ht
  ·split at ht <;> cases ht
  ·rename_i e hs hk
   split at ht
   ·rename_i hu8
    cases ht
    obtain⟨a,rfl,ha⟩:=map1 hx
    have he:P.underlying e=some (.int .u8):=by
     unfold u8T at hu8
     split at hu8
     ·rename_i hh;exact hh
     ·cases hu8
    simp only[zGU,zA6]at h
    split at h
    ·cases h
     rename_i heq2
     cases heq2
     refine⟨?_,trivial⟩
     simp only[execOp,ha,cv,convert,Sem.run_bind,run_underlying hs,run_underlying hk,run_underlying he,Result.andThen_ok,Conv.bytesToString,Sem.run_pure]
     rfl
    ·rename_i id off len clo ex z heq2
     cases heq2
     cases hz:Nat.beq z 1 with
     | false=>simp only[hz,cond_false]at h;cases h
     | true =>
      simp only[hz,cond_true]at h
      split at h
      ·rename_i cs hcs
       split at h
       ·rename_i st hst
        cases h
        obtain⟨h1,h2,h3,h4⟩:=hM.loads (P:=P) hcs
        obtain⟨ns,rfl,rfl⟩:=bytesOf_spec _ _ hst
        refine⟨?_,trivial⟩
        have hb:=run_bytesToString (P:=P) w ⟨(U id).1,(U id).2+off,none⟩ len (clo+ex.getD 0) ns (by rw[h4];simp[zMf,cv])
        rw[show(ByteArray.empty)=⟨([]:List UInt8).toArray⟩from rfl,foldl_push]at hb
        simp only[execOp,ha,cv,convert,Sem.run_bind,run_underlying hs,run_underlying hk,run_underlying he,Result.andThen_ok,hb,Sem.run_pure]
        rfl
       ·cases h
      ·cases h
    ·cases h
   ·cases ht
  ·cases ht
 case call c =>
  split at ht
  ·split at ht <;> cases ht
  ·cases ht
  ·rename_i b hc
   split at ht
   ·rename_i o' hb
    cases ht
    have hargs:c.args.map I=(cvl U vs).toArray:=by
     rw[<- hx,<- Array.toList_map]
    have hres:∀ (S:Sem Value),(∀ cs,builtin b c.argTypes ty cs (cvl U vs).toArray=(do pure (.value (<- S))))->S.run P w=.ok (cv U v) w ->
      (execOp I ⟨dst,.call c,ty,pos,after,guard⟩).run P w=.ok (.value (cv U v)) w:=by
     intro S hS hr
     simp only[execOp,resolve,hc,Sem.run_bind,Sem.run_pure,Result.andThen_ok,hargs,invoke]
     rw[hS]
     simp only[Sem.run_bind,hr,Result.andThen_ok,Sem.run_pure]
    unfold zJl at hb
    split at hb
    ·rename_i t rest hty
     have hty0:c.argTypes[0]?=some t:=by rw[<- Array.getElem?_toList,hty];rfl
     split at hb
     ·cases hb
     ·cases hb
     ·rename_i mk me hu
      cases hb
      simp only[zGU,lMlen]at h
      split at h
      ·cases h
       refine⟨hres _ (fun _=>rfl) ?_,trivial⟩
       simp only[Builtin.len_,hty0,cvl,cv,List.getElem?_toArray,List.getElem?_cons_zero,Sem.run_bind,run_underlying hu,Result.andThen_ok,goInt,Sem.run_pure]
      ·rename_i id
       split at h
       ·rename_i es _ hes
        cases h
        obtain⟨_,⟨ents,clock,b1,b2⟩,b3⟩:=hM.maps _ _ _ hes
        have b2:=(b2.rows _ rfl).2
        refine⟨hres _ (fun _=>rfl) ?_,trivial⟩
        have hlen:ents.size=es.length:=by
         have:=congrArg List.length b2
         simpa using this
        simp only[Builtin.len_,hty0,cvl,cv,List.getElem?_toArray,List.getElem?_cons_zero,Sem.run_bind,run_underlying hu,Result.andThen_ok]
        rw[MapKept.run_getObj_map b1]
        simp only[Result.andThen_ok,hlen,goInt,Sem.run_pure]
        try rfl
       ·cases h
      ·cases h
     ·cases hb
     ·split at hb <;> cases hb
     ·cases hb
    all_goals first
     | (cases hb;done)
     | (split at hb <;> first | (cases hb;done) | (split at hb <;> first | (cases hb;done) | (split at hb <;> cases hb)))
   ·cases ht
  ·cases ht
 case binOp b t x y ty2 =>
  split at ht
  ·cases ht
  ·cases ht
  ·rename_i e hu
   have main:∀ (neg:Bool) (bo:BinOp),bo=(if neg then .neq else .eql)->(P.cellsOf e=0∨(P.underlying e).isNone)=False->(o,xs)=(.peq neg,[x,y])->(execOp I ⟨dst,.binOp bo t x y ty2,ty,pos,after,guard⟩).run P w=.ok (.value (cv U v)) w/\VOk H v:=by
    rintro neg bo rfl hc he
    cases he
    have hc:¬(P.cellsOf e=0∨(P.underlying e).isNone):=by rw[hc];exact not_false
    obtain⟨d,hd⟩:∃ d,P.underlying e=some d:=by
     cases hh:P.underlying e with
     | none=>exact absurd (.inr (by rw[hh];rfl)) hc
     | some d=>exact⟨d,rfl⟩
    obtain⟨a,c,rfl,ha,hc'⟩:=map2 hx
    simp only[zGU]at h
    obtain⟨bb,rfl,⟨p,q,e1,e2⟩,h1⟩:=peq_equal (P:=P) hM hu (fun hz=>hc (.inl hz)) hd h
    refine⟨?_,trivial⟩
    have hg:∀ bo,eqGuard bo t x y (cv U a) (cv U c)=pure ():=fun bo=>by rw[e1,e2];cases bo <;> rfl
    have hpl:Plainly (cv U a) (cv U c):=by
     rw[e1,e2]
     refine⟨?_,?_,?_,?_⟩ <;>(intros;rintro⟨h1,h2⟩;cases h1)
    have hbin:(binOp (if neg then .neq else .eql) t (cv U a) (cv U c)).run P w=.ok (.bool (bb != neg)) w:=by
     cases neg
     ·rw[Bool.bne_false];exact zOi hpl h1
     ·rw[Bool.bne_true];exact zOH hpl h1
    simp only[execOp,ha,hc',Sem.run_bind,hg,Sem.run_pure,Result.andThen_ok,hbin]
    rfl
   split at ht
   ·split at ht
    ·cases ht
    ·rename_i hc;cases ht;exact main false _ rfl (by simpa using hc) rfl
   ·split at ht
    ·cases ht
    ·rename_i hc;cases ht;exact main true _ rfl (by simpa using hc) rfl
   ·cases ht
  ·split at ht <;> cases ht
 case makeMap t r=>cases r <;> simp only at ht <;> cases ht
 case lookup t x i ok =>
  split at ht
  ·rename_i e he
   split at ht
   ·rename_i z hz
    cases ht
    obtain⟨kt,hu,hk⟩:=zKY he
    obtain⟨hz1,hz2⟩:=zQD (P:=P) (w:=w) U hz
    obtain⟨a,c,rfl,ha,hc⟩:=map2 hx
    simp only[zGU,lLook]at h
    have lookCv:∀ (u:V) (b:Bool),(if ok=true then Value.tuple #[cv U u,.bool b]else cv U u)=cv U (lookV ok u b):=fun u b=>by cases ok <;> simp[lookV,cv,cvl]
    have lookOk:∀ (u:V) (b:Bool),VOk H u->VOk H (lookV ok u b):=fun u b hu=>by cases ok <;> first | exact hu | exact⟨hu,trivial,trivial⟩
    have main:∀ (es:Array MapEntry) (k:List UInt8) (u:V) (b:Bool),c=.str k->((a=.nilm/\es=#[])∨∃ id clock,a=.map id/\w.heap[(U id).1]?=some (.map es clock)) ->
      ((Instr.findNow .string (.string ⟨k.toArray⟩) es.toList 0=some none/\u=z/\b=false)∨∃ j,Instr.findNow .string (.string ⟨k.toArray⟩) es.toList 0=some (some (j,cv U u))/\b=true)->v=lookV ok u b->VOk H u ->
      (execOp I ⟨dst,.lookup t x i ok,ty,pos,after,guard⟩).run P w=.ok (.value (cv U v)) w/\VOk H v:=by
     rintro es k u b rfl hes hf rfl hu'
     refine⟨?_,lookOk u b hu'⟩
     have hck:(Instr.checkKey es.isEmpty 10000 kt (cv U (.str k))).run P w=.ok () w:=run_checkKey hk (by trivial) es.isEmpty 9999
     have hL:(Instr.lookup t (cv U a) (cv U (.str k)) ok).run P w=.ok (if ok=true then Value.tuple #[cv U u,.bool b]else cv U u) w:=by
      rcases hes with⟨rfl,rfl⟩ | ⟨id,clock,rfl,hb⟩
      ·simp only[Instr.lookup,cv,Sem.run_bind,run_underlying hu,Result.andThen_ok,Sem.run_pure]
       simp only[cv]at hck
       rw[hck]
       rcases hf with⟨h1,rfl,rfl⟩ | ⟨j,h1,rfl⟩
       ·simp only[Result.andThen_ok,run_findKey hk h1,Sem.run_bind,hz1,Sem.run_pure]
       ·simp only[Result.andThen_ok,run_findKey hk h1,Sem.run_bind,Sem.run_pure]
      ·simp only[Instr.lookup,cv,Sem.run_bind,run_underlying hu,Result.andThen_ok]
       rw[MapKept.run_getObj_map hb]
       simp only[Result.andThen_ok,Sem.run_bind,Sem.run_pure]
       simp only[cv]at hck
       rw[hck]
       rcases hf with⟨h1,rfl,rfl⟩ | ⟨j,h1,rfl⟩
       ·simp only[Result.andThen_ok,run_findKey hk h1,Sem.run_bind,hz1,Sem.run_pure]
       ·simp only[Result.andThen_ok,run_findKey hk h1,Sem.run_bind,Sem.run_pure]
     simp only[execOp,ha,hc,Sem.run_bind,hL,Result.andThen_ok,Sem.run_pure]
     rw[<- lookCv]
    split at h
    ·rename_i k e1
     cases e1
     cases h
     exact main #[] k z false rfl (.inl ⟨rfl,rfl⟩) (.inl ⟨rfl,rfl,rfl⟩) rfl (hz2 H)
    ·rename_i id k e1
     cases e1
     split at h
     ·rename_i es _ hes
      obtain⟨_,⟨ents,clock,b1,b2⟩,b3⟩:=hM.maps _ _ _ hes
      have b2:=(b2.rows _ rfl).2
      rcases findNow_map U k es ents.toList 0 b2 with⟨f1,f2⟩ | ⟨⟨u,ub⟩,j,e2,f1,f2,_⟩
      ·rw[f1]at h
       cases h
       exact main ents k z false rfl (.inr ⟨_,_,rfl,b1⟩) (.inl ⟨f2,rfl,rfl⟩) rfl (hz2 H)
      ·rw[f1]at h
       cases h
       obtain⟨k',hmem⟩:=findS_mem f1
       exact main ents k u true rfl (.inr ⟨_,_,rfl,b1⟩) (.inr ⟨_,f2,rfl⟩) rfl (b3 _ hmem)
     ·cases h
    ·cases h
   ·cases ht
  ·cases ht
 case mapUpdate t m k x=>split at ht <;> cases ht
 case mapEntry t m k=>split at ht <;> first | (cases ht;done) | (split at ht <;> cases ht)
 case entryStore t m s x=>split at ht <;> cases ht
 case next x b=>cases b <;> simp only at ht <;> cases ht
 case makeFunc fn first captured=>cases fn <;> simp only at ht <;> cases ht
 all_goals first
  | (cases ht;done)
  | (repeat' (split at ht)) <;> first | (cases ht;done) | (obtain⟨_,ht⟩:=zFF ht;cases ht;done)
end
end Go.Am

namespace Go.Am
open Go.RowKit (Below)
section
variable {P:Program} {w w0:World} {U:Inj} {base:Base} {H:Heap} {I:Operand->Value}
def EffOk (base:Base)(w0:World)(U:Inj)(H:Heap)(f:Tape->Option (V × Heap × Tape))(r:Result Next):Prop :=
 ∃ nx v w' U' H' pre,r=.ok nx w'/\(nx=.value (cv U' v)∨(nx=.skip/\v=.tup []))/\(∀ Z,f (Tape.app pre Z)=some (v,H',Z))/\MRel U' base w0 H' w'/\Ext H U U'/\Evol H H'/\VOk H' v
theorem zGT (n:Nat)(l:List V):(repl n l).length=n*l.length:=by
 simp[repl]
theorem repl_get (l:List V):∀ (n j:Nat),j<n*l.length->(repl n l)[j]?=l[j % l.length]?:=by
 intro n
 induction n with
 | zero=>intro j h;simp at h
 | succ n ih =>
  intro j h
  have hl:0<l.length:=by
   rcases Nat.eq_zero_or_pos l.length with e | e
   ·rw[e]at h;simp at h
   ·exact e
  rw[repl,List.replicate_succ,List.flatten_cons]
  rcases Nat.lt_or_ge j l.length with hj | hj
  ·rw[List.getElem?_append_left hj,Nat.mod_eq_of_lt hj]
  ·rw[List.getElem?_append_right hj]
   have:=ih (j-l.length) (by rw[Nat.succ_mul]at h;omega)
   rw[repl]at this
   rw[this]
   congr 1
   exact(Nat.mod_eq_sub_mod hj).symm
theorem zSD (U:Inj)(z:List V)(n:Nat)(hz:z.length≠0) :
  (Array.range (n*z.length)).map ((cvl U z).toArray[· % (cvl U z).toArray.size]!)=(cvl U (repl n z)).toArray:=by
 apply Array.ext_getElem?
 intro j
 have hs:(cvl U z).toArray.size=z.length:=by rw[List.size_toArray,zy]
 rcases Nat.lt_or_ge j (n*z.length)with hj | hj
 ·have hm:j % z.length<z.length:=Nat.mod_lt _ (by omega)
  simp only[Array.getElem?_map,Array.getElem?_range,hj,if_true,Option.map_some,List.getElem?_toArray,zFy,repl_get z n j hj,hs]
  rw[getElem!_pos _ _ (by rw[hs];exact hm)]
  have:z[j % z.length]?=some (z[j % z.length]'hm):=List.getElem?_eq_getElem hm
  rw[this]
  simp[zMf]
 ·rw[Array.getElem?_eq_none (by simpa using hj),Array.getElem?_eq_none (by rw[List.size_toArray,zy,zGT];exact hj)]
theorem zSP {H:Heap}{z:List V}(n:Nat)(h:VsOk H z):VsOk H (repl n z):=by
 rw[zw]at h ⊢
 intro v hv
 simp only[repl,List.mem_flatten,List.mem_replicate]at hv
 obtain⟨l,⟨_,rfl⟩,hv⟩:=hv
 exact h v hv
theorem zKR (U:Inj)(l:List V):∀ (j:Nat) (v:V),l[j]?=some v->(cvl U l).toArray[j]?=some (cv U v):=fun j v hv=>by simp[zFy,hv]
theorem zID {e:TypeId}(h:zLj P e=true):∃ z d,zRD P e=some z/\z.length=P.cellsOf e/\P.cellsOf e≠0/\P.underlying e=some d:=by
 unfold zLj at h
 split at h
 ·rename_i z hz
  simp only[Bool.and_eq_true,beq_iff_eq,bne_iff_ne,ne_eq]at h
  obtain⟨d,hd⟩:=Option.isSome_iff_exists.1 h.2
  exact⟨z,d,hz,h.1.1,h.1.2,hd⟩
 ·cases h
theorem zQl {e:TypeId}{d:TypeDesc}(h:P.underlying e=some d)(w:World):∃ i,(typeInfo e).run P w=.ok i w/\i.bytes=P.bytesOf e:=by
 obtain⟨i,hi⟩:=info_some e d h
 exact⟨i,by simp[typeInfo,hi],by simp[Program.bytesOf,hi]⟩
theorem zFI (e:TypeId)(cs:Array Value):(newRow e cs).run P w=.ok ⟨w.heap.size,0,none⟩ (w.alloc (.cells cs e)):=by
 simp only[newRow,Sem.run_bind,run_newObj,Result.andThen_ok,Sem.run_pure]
 rfl
theorem MRel.stores (hM:MRel U base w0 H w){id off:Nat}{vs:List V}{H':Heap}(hvs:VsOk H vs)(h:H.stores id off vs=some H') :
  ∃ w',(storeCells ⟨(U id).1,(U id).2+off,none⟩ (cvl U vs)).run P w=.ok () w'/\MRel U base w0 H' w'/\Evol H H':=by
 unfold Heap.stores at h
 split at h
 ·cases h
  exact⟨w,rfl,hM,Evol.refl H⟩
 ·rename_i hne
  cases hs:vs.all V.scal with
  | false=>rw[hs]at h;cases h
  | true =>
   rw[hs,cond_true]at h
   obtain⟨cs,room,fam,ver,pl,st,fr,cs',hg,hf,hle,hov,rfl⟩:=write_inv h
   have hr:H.room? id=room:=by simp only[Heap.room?,hg]
   rw[hr]at hov
   obtain⟨c,el,lo,hi,h1,h2,h3,h4,h5⟩:=hM.write hg hf hle off vs cs' (fun e=>hne e) hov hvs
   refine⟨_,?_,h4,h5⟩
   have:=zIs P (U id).1 ((U id).2+off) el lo hi (cvl U vs) 0 c w h1 (by rw[zy];omega) h3 (by
    intro v hv
    rw[zMf,List.mem_map]at hv
    obtain⟨u,hu,rfl⟩:=hv
    exact zPh U u (List.all_eq_true.1 hs u hu))
   simpa using this
theorem zNU (need old:Nat)(e:TypeId):∃ t,(choose (.appendCap need old e)).run P w=.ok (need+spare need t) w.drew:=by
 refine⟨w.tape w.drawn (.appendCap need old e),?_⟩
 rw[run_choose]
 simp only[Question.forced,Bool.false_eq_true,if_false,Question.cut,spare]
 rfl
theorem srcLen_ok {x:V}{n:Nat}(h:zHg x=some n)(w:World):(Builtin.lenOf (cv U x)).run P w=.ok n w:=by
 unfold zHg at h
 split at h <;> first | (cases h;done) | skip
 ·cases h;rfl
 ·cases h;rfl
 ·cases h
  simp only[cv,Builtin.lenOf,Sem.run_pure,ByteArray.size,List.size_toArray]
theorem MRel.src (hM:MRel U base w0 H w){z n:Nat}{x:V}{new:List V}(h:zDg H z n x=some new)(hn:∀ m,zHg x=some m->n<=m) :
  (Builtin.firstCells z n (cv U x)).run P w=.ok (cvl U new).toArray w/\VsOk H new/\((x=.nils->n=0)->new.length=n*z):=by
 unfold zDg at h
 split at h
 ·cases h
  exact⟨rfl,trivial,fun hx=>by rw[hx rfl];simp⟩
 ·rename_i id off len lo ex z'
  cases hz:Nat.beq z z' with
  | false=>rw[hz]at h;cases h
  | true =>
   rw[hz]at h
   obtain⟨h1,h2,h3,h4⟩:=hM.loads (P:=P) h
   exact⟨h4,h1,fun _=>h2⟩
 ·rename_i s
  cases hz:Nat.beq z 1 with
  | false=>rw[hz]at h;cases h
  | true =>
   rw[hz]at h
   cases h
   have:=Nat.eq_of_beq_eq_true hz
   subst this
   have hle:=hn s.length rfl
   refine⟨?_,?_,fun _=>by simp only[List.length_map,List.length_take];omega⟩
   ·simp only[cv,Builtin.firstCells,Sem.run_pure,zPi,List.drop_zero]
    congr 1
    apply Array.ext'
    simp only[zMf,List.map_map]
    simp
    congr 1
   ·rw[zw]
    intro v hv
    rw[List.mem_map]at hv
    obtain⟨c,_,rfl⟩:=hv
    trivial
 ·cases h
theorem growBy_le (need:Nat):∀ (r c:Nat),Builtin.growBy need r c<=max c (need+(need+768) / 4):=by
 intro r
 induction r with
 | zero=>intro c;simp only[Builtin.growBy];omega
 | succ r ih =>
  intro c
  simp only[Builtin.growBy]
  split
  ·omega
  ·have:=ih (c+(c+768) / 4)
   omega
theorem next_le {need cap:Nat}(h:cap<need):Builtin.nextslicecap need cap<=2*need:=by
 unfold Builtin.nextslicecap
 split
 ·omega
 ·split
  ·omega
  ·have:=growBy_le need 4 cap
   omega
theorem next_room {need cap bytes:Nat}(h:cap<need)(h1:need*bytes<=140737488355328):¬ Builtin.nextslicecap need cap*bytes > 2 ^ 48:=by
 have h2:=next_le h
 have h4:=Nat.mul_le_mul_right bytes h2
 have h5:2*need*bytes=2*(need*bytes):=by rw[Nat.mul_assoc]
 omega
theorem zRW (zero:Array Value)(n:Nat):(Builtin.zeroCells zero n).size=n*zero.size:=by simp[Builtin.zeroCells]
theorem run_append_fits {e:TypeId}{d:TypeDesc}(hd:P.underlying e=some d){sT xT ty:TypeId}{argTypes:Array TypeId}{dx:TypeDesc}
  (ha0:argTypes[0]?=some sT) (ha1:argTypes[1]?=some xT) (hs:P.underlying sT=some (.slice e)) (hdx:P.underlying xT=some dx) (hni:∀ k,dx≠.int k)
  {bs:Option Addr} {sLen sCap n:Nat} {X:Value} {nw:Array Value} {w':World} (hlen:(Builtin.lenOf X).run P w=.ok n w)
  (hfirst:(Builtin.firstCells (P.cellsOf e) n X).run P w=.ok nw w) (hle:sLen+n<=sCap)
  (hst:match bs with | some a=>(storeCells (a.add (sLen*P.cellsOf e)) nw.toList).run P w=.ok () w' | none=>w'=w) :
  (Builtin.append_ argTypes ty #[.slice bs sLen sCap,X]).run P w=.ok (.slice bs (sLen+n) sCap) w':=by
 have hz:((dx matches .int _):Bool)=false:=by cases dx <;> first | rfl | exact absurd rfl (hni _)
 unfold Builtin.append_
 simp only[ha0,ha1,List.getElem?_toArray,List.getElem?_cons_zero,List.getElem?_cons_succ,Sem.run_bind,run_underlying hs,run_underlying hdx,Result.andThen_ok,zm e d hd,Sem.run_pure]
 cases dx with
 | int k=>exact absurd rfl (hni k)
 | _ =>
  simp only[Bool.false_eq_true,if_false,hlen,Result.andThen_ok,hle,if_true,Bool.not_false,Sem.run_bind,hfirst]
  cases bs with
  | none=>subst hst;rfl
  | some a=>simp only[Sem.run_bind,hst,Result.andThen_ok,Sem.run_pure]
theorem zPy {e:TypeId}{d:TypeDesc}(hd:P.underlying e=some d){zv:Value}(hzv:∀ w,(zeroValue e).run P w=.ok zv w){sT xT ty:TypeId}{argTypes:Array TypeId}{dx:TypeDesc}
  (ha0:argTypes[0]?=some sT) (ha1:argTypes[1]?=some xT) (hs:P.underlying sT=some (.slice e)) (hdx:P.underlying xT=some dx) (hni:∀ k,dx≠.int k)
  {bs:Option Addr} {sLen sCap n:Nat} {X:Value} {old nw:Array Value} (hlen:(Builtin.lenOf X).run P w=.ok n w)
  (hold:(Builtin.firstCells (P.cellsOf e) sLen (.slice bs sLen sCap)).run P w.drew=.ok old w.drew)
  (hfirst:(Builtin.firstCells (P.cellsOf e) n X).run P w.drew=.ok nw w.drew) (hgt:sCap<sLen+n) (hb:(sLen+n)*P.bytesOf e<=140737488355328) (hn:sLen+n<=140737488355328) :
  ∃ t,(Builtin.append_ argTypes ty #[.slice bs sLen sCap,X]).run P w =
   .ok (.slice (some ⟨w.heap.size,0,none⟩) (sLen+n) (sLen+n+spare (sLen+n) t)) (w.drew.alloc (.cells (old++nw++Builtin.zeroCells zv.cells (spare (sLen+n) t)) e)):=by
 obtain⟨t,ht⟩:=zNU (P:=P) (w:=w) (sLen+n) sCap e
 refine⟨t,?_⟩
 obtain⟨i,hi,hbytes⟩:=zQl hd w
 obtain⟨i',hi',_⟩:=zQl hd w.drew
 have hroom:=next_room hgt hb
 have hbig:¬(((sLen+n:Nat):Int) > IntKind.i64.max):=by rw[IntKind.max_i64];omega
 unfold Builtin.append_
 simp only[ha0,ha1,List.getElem?_toArray,List.getElem?_cons_zero,List.getElem?_cons_succ,Sem.run_bind,run_underlying hs,run_underlying hdx,Result.andThen_ok,zm e d hd,Sem.run_pure]
 cases dx with
 | int k=>exact absurd rfl (hni k)
 | _ =>
  simp only[Bool.false_eq_true,if_false,hlen,Result.andThen_ok,Nat.not_le.2 hgt,Bool.not_false,if_true,Sem.run_bind,hi,hbytes,hbig,false_and,hroom,ht,hi',run_askRoom,hold,hfirst,hzv,zFI,Sem.run_pure]
  simp only[Nat.add_sub_cancel_left]
  rfl
end
end Go.Am

namespace Go.Am
open Go.RowKit (Below)
section
variable {P:Program} {w w0:World} {U:Inj} {base:Base} {H:Heap} {I:Operand->Value}
theorem fresh_eq (H:Heap)(cells:List V)(len z t:Nat) :
  fresh H cells len z t=(.sl H.size 0 len len (some (spare len t)) z,H.new cells ((len+spare len t)*z) false):=rfl
theorem spare_lt {n t:Nat}(h:n<=140737488355328):n+spare n t<9223372036854775808:=by
 have:=Nat.mod_lt t (show 0<9223372036854775808-n by omega)
 unfold spare
 omega
theorem spare_of {n c:Nat}(h:n<=c)(hc:c<9223372036854775808):spare n (c-n)=c-n:=Nat.mod_eq_of_lt (by omega)
theorem MRel.fresh (hM:MRel U base w0 H w)(cells:List V)(len z t:Nat)(c:Array Value)(e:TypeId)(hvs:VsOk H cells)(hlen:cells.length=len*z)(hn:len<=140737488355328)
  (hsz:c.size=(len+spare len t)*z) (hc:∀ (j:Nat) (v:V),cells[j]?=some v->c[j]?=some (cv U v)) :
  MRel (upd U H.size (w.heap.size,0)) base w0 (fresh H cells len z t).2 (w.alloc (.cells c e))/\Evol H (fresh H cells len z t).2/\VOk (fresh H cells len z t).2 (fresh H cells len z t).1 /\
   cv (upd U H.size (w.heap.size,0)) (fresh H cells len z t).1=.slice (some ⟨w.heap.size,0,none⟩) len (len+spare len t):=by
 rw[fresh_eq]
 refine⟨hM.new cells _ false c e hvs (by rw[hlen];exact Nat.mul_le_mul_right z (Nat.le_add_right _ _)) (by rw[hsz];exact Nat.le_refl _) hc,Evol.new hM _ _ _,?_,?_⟩
 ·refine⟨Nat.lt_succ_self _,Nat.le_add_right _ _,fun _=>⟨?_,spare_lt hn⟩⟩
  simp only[Heap.room?,zb,Option.getD_some,Nat.zero_add]
  exact Nat.le_refl _
 ·simp only[cv,upd_same,Option.getD_some]
theorem row_cells (U:Inj)(a b:List V)(r:Array Value)(j:Nat)(v:V)(h:(a++b)[j]?=some v):((cvl U a).toArray++(cvl U b).toArray++r)[j]?=some (cv U v):=by
 have hlt:j<(a++b).length:=(List.getElem?_eq_some_iff.1 h).1
 rw[List.length_append]at hlt
 rw[Array.getElem?_append_left (by simp[zy];omega)]
 have:(cvl U a).toArray++(cvl U b).toArray=(cvl U (a++b)).toArray:=by simp[zO6]
 rw[this]
 exact zKR U _ j v h
theorem append_sound (hM:MRel U base w0 H w){e:TypeId}(he:zLj P e=true){s x:V}{n:Nat}{new:List V}{sT xT ty:TypeId}{argTypes:Array TypeId}
  (ha0:argTypes[0]?=some sT) (ha1:argTypes[1]?=some xT) (hs:P.underlying sT=some (.slice e)) (hx:∃ d,P.underlying xT=some d/\∀ k,d≠.int k)
  (hok:VOk H s) (hlen:zHg x=some n) (hsrc:zDg H (P.cellsOf e) n x=some new) (h:∀ Z,append H (P.cellsOf e) (P.bytesOf e) s n new Z≠none) :
  ∃ v w' U' H' pre,(Builtin.append_ argTypes ty #[cv U s,cv U x]).run P w=.ok (cv U' v) w'/\(∀ Z,append H (P.cellsOf e) (P.bytesOf e) s n new (Tape.app pre Z)=some (v,H',Z)) /\
   MRel U' base w0 H' w'/\Ext H U U'/\Evol H H'/\VOk H' v:=by
 obtain⟨zl,d,hz,hzl,hz0,hd⟩:=zID he
 obtain⟨dx,hdx,hnint⟩:=hx
 obtain⟨zv,_,hzc,_⟩:=zFA (P:=P) (w:=w) U hz
 have hzrun:∀ w',(zeroValue e).run P w'=.ok zv w':=fun w'=>by
  obtain⟨zv',h1,h2,_⟩:=zFA (P:=P) (w:=w') U hz
  unfold zRD at hz
  split at hz
  ·rename_i i hi
   split at hz
   ·rename_i v hv
    have a1:∀ w',(zeroValue e).run P w'=.ok v w':=fun w'=>by simp[zeroValue,typeInfo,hi,hv]
    have:v=zv:=by
     have:=a1 w
     rename_i hzw _ _
     rw[a1 w]at *
     simp_all
    rw[<- this]
    exact a1 w'
   ·cases hz
  ·cases hz
 have hzsz:zv.cells.size=P.cellsOf e:=by rw[hzc,List.size_toArray,zy,hzl]
 have hsrcle:∀ m,zHg x=some m->n<=m:=fun m hm=>by rw[hlen]at hm;cases hm;exact Nat.le_refl _
 obtain⟨hfirst,hnew,hnl⟩:=hM.src (P:=P) hsrc hsrcle
 have hfirst':=(hM.drew.src (P:=P) hsrc hsrcle).1
 have hnl':new.length=n*P.cellsOf e:=hnl fun hx=>by subst hx;simp only[zHg,Option.some.injEq]at hlen;exact hlen.symm
 have hlenr:=srcLen_ok (P:=P) (U:=U) hlen w
 have growth:∀ (s0:V) (bs:Option Addr) (sLen sCap:Nat) (old:List V),cv U s0=.slice bs sLen sCap->VsOk H old->old.length=sLen*P.cellsOf e ->
   (Builtin.firstCells (P.cellsOf e) sLen (.slice bs sLen sCap)).run P w.drew=.ok (cvl U old).toArray w.drew->sCap<sLen+n->(sLen+n)*P.bytesOf e<=140737488355328->sLen+n<=140737488355328 ->
   ∃ t,(Builtin.append_ argTypes ty #[cv U s0,cv U x]).run P w=.ok (.slice (some ⟨w.heap.size,0,none⟩) (sLen+n) (sLen+n+spare (sLen+n) t))
     (w.drew.alloc (.cells ((cvl U old).toArray++(cvl U new).toArray++Builtin.zeroCells zv.cells (spare (sLen+n) t)) e)) /\
    (∀ (j:Nat) (v:V),(old++new)[j]?=some v->((cvl U old).toArray++(cvl U new).toArray++Builtin.zeroCells zv.cells (spare (sLen+n) t))[j]?=some (cv U v)) /\
    ((cvl U old).toArray++(cvl U new).toArray++Builtin.zeroCells zv.cells (spare (sLen+n) t)).size=(sLen+n+spare (sLen+n) t)*P.cellsOf e:=by
  intro s0 bs sLen sCap old hs0 hold holdl hrun hgt hb hn
  obtain⟨t,ht⟩:=zPy (P:=P) (w:=w) (ty:=ty) hd hzrun ha0 ha1 hs hdx hnint hlenr hrun hfirst' hgt hb hn
  refine⟨t,by rw[hs0];exact ht,fun j v hv=>row_cells U old new _ j v hv,?_⟩
  rw[Array.size_append,Array.size_append,List.size_toArray,List.size_toArray,zy,zy,holdl,hnl',zRW,hzsz]
  rw[Nat.add_mul,Nat.add_mul]
 unfold append at h
 cases s with
 | nils =>
  simp only at h
  cases n with
  | zero =>
   refine⟨.nils,w,U,H,[],?_,fun Z=>rfl,hM,Ext.refl _ _,Evol.refl _,trivial⟩
   exact run_append_fits (P:=P) (w:=w) (ty:=ty) hd ha0 ha1 hs hdx hnint hlenr hfirst nl rfl
  | succ n =>
   simp only at h
   cases hb:(Nat.ble ((n+1)*P.bytesOf e) 140737488355328 && Nat.ble (n+1) 140737488355328)with
   | false=>simp only[hb,cond_false,ne_eq,not_true,forall_const]at h
   | true =>
    have hb':=hb
    simp only[Bool.and_eq_true]at hb'
    have h1:=Nat.le_of_ble_eq_true hb'.1
    have h2:=Nat.le_of_ble_eq_true hb'.2
    obtain⟨t,hr,hc,hsz⟩:=growth .nils none 0 0 [] rfl trivial (by simp) rfl (by omega) (by rw[Nat.zero_add];exact h1) (by omega)
    simp only[Nat.zero_add]at hr hsz hc
    obtain⟨m1,m2,m3,m4⟩:=hM.drew.fresh new (n+1) (P.cellsOf e) t _ e hnew hnl' h2 hsz (by simpa using hc)
    refine⟨_,_,_,_,[t],?_,fun Z=>?_,m1,Ext.upd H U _,m2,m3⟩
    ·rw[m4];exact hr
    ·unfold append
     simp only[hb,cond_true]
     rfl
 | sl id off len lo ex z' =>
  simp only at h
  cases hzz:Nat.beq (P.cellsOf e) z' with
  | false=>simp only[hzz,cond_false,ne_eq,not_true,forall_const]at h
  | true =>
   have hzz':=Nat.eq_of_beq_eq_true hzz
   subst hzz'
   simp only[hzz,cond_true]at h
   obtain⟨k1,k2,k3⟩:=hok
   cases hfit:Nat.ble (len+n) lo with
   | true =>
    have hle:=Nat.le_of_ble_eq_true hfit
    simp only[hfit,cond_true]at h
    cases hst:H.stores id (off+len*P.cellsOf e) new with
    | none=>simp only[hst,ne_eq,not_true,forall_const]at h
    | some H1 =>
     obtain⟨w',hr,hM',hev⟩:=hM.stores (P:=P) hnew hst
     refine⟨.sl id off (len+n) lo ex (P.cellsOf e),w',U,H1,[],?_,fun Z=>?_,hM',Ext.refl _ _,hev,?_⟩
     ·refine run_append_fits (P:=P) (w:=w) (ty:=ty) hd ha0 ha1 hs hdx hnint hlenr hfirst (by omega) ?_
      simp only[zGn]
      rw[Nat.add_assoc]
      exact hr
     ·unfold append
      simp only[hzz,cond_true,hfit,hst]
      rfl
     ·exact VOk.mono hev _ ⟨k1,by omega,k3⟩
   | false =>
    have hgt:lo<len+n:=by
     rcases Nat.lt_or_ge lo (len+n)with hh | hh
     ·exact hh
     ·rw[Nat.ble_eq_true_of_le hh]at hfit;cases hfit
    simp only[hfit,cond_false]at h
    cases hb:(Nat.ble ((len+n)*P.bytesOf e) 140737488355328 && Nat.ble (len+n) 140737488355328)with
    | false=>simp only[hb,cond_false,ne_eq,not_true,forall_const]at h
    | true =>
     have hb':=hb
     simp only[Bool.and_eq_true]at hb'
     have h1:=Nat.le_of_ble_eq_true hb'.1
     have h2:=Nat.le_of_ble_eq_true hb'.2
     simp only[hb,cond_true]at h
     cases hold:H.loads id off (len*P.cellsOf e)with
     | none=>simp only[hold,ne_eq,not_true,forall_const]at h
     | some old =>
      simp only[hold]at h
      obtain⟨o1,o2,o3,o4⟩:=hM.loads (P:=P) hold
      have o4':=(hM.drew.loads (P:=P) hold).2.2.2
      cases ex with
      | none =>
       simp only[Option.getD_none,Nat.add_zero]at k2 k3
       obtain⟨t,hr,hc,hsz⟩:=growth (.sl id off len lo none (P.cellsOf e)) _ len lo old rfl o1 o2 o4' hgt h1 h2
       have holdnew:VsOk H (old++new):=by
        rw[zw];intro v hv
        rcases List.mem_append.1 hv with hv | hv
        ·exact(zw H _).1 o1 v hv
        ·exact(zw H _).1 hnew v hv
       obtain⟨m1,m2,m3,m4⟩:=hM.drew.fresh (old++new) (len+n) (P.cellsOf e) t _ e holdnew (by rw[List.length_append,o2,hnl',Nat.add_mul]) h2 hsz hc
       refine⟨_,_,_,_,[t],?_,fun Z=>?_,m1,Ext.upd H U _,m2,m3⟩
       ·rw[m4];exact hr
       ·unfold append
        simp only[hzz,cond_true,hfit,cond_false,hb,hold]
        rfl
      | some ee =>
       simp only at h
       obtain⟨k3a,k3b⟩:=k3 rfl
       simp only[Option.getD_some]at k2 k3a k3b
       cases hg:H.blk.get id with
       | none=>simp only[hg,ne_eq,not_true,forall_const]at h
       | some blk =>
        cases blk with
        | iter s p=>simp only[hg,ne_eq,not_true,forall_const]at h
        | mapb es clk=>simp only[hg,ne_eq,not_true,forall_const]at h
        | gone=>simp only[hg,ne_eq,not_true,forall_const]at h
        | mem cs room fam ver wr pl st =>
         cases wr with
         | false=>simp only[hg,ne_eq,not_true,forall_const]at h
         | true =>
          simp only[hg]at h
          cases hf:H.fams.get fam with
          | none=>simp only[hf,ne_eq,not_true,forall_const]at h
          | some fl =>
           obtain⟨fr,la⟩:=fl
           simp only[hf]at h
           cases htop:(Nat.beq ver la && (Nat.beq (off+len*P.cellsOf e) cs.length && new.all V.scal))with
           | false=>simp only[htop,cond_false,ne_eq,not_true,forall_const]at h
           | true =>
            have htop':=htop
            simp only[Bool.and_eq_true]at htop'
            have e1:=Nat.eq_of_beq_eq_true htop'.1
            have e2:=Nat.eq_of_beq_eq_true htop'.2.1
            subst e1
            obtain⟨all,c1,c2,c3⟩:=loads_inv hold
            obtain⟨room',fam',ver',wr',pl',st',fr',la',g1,g2,g3⟩:=zRd c1
            rw[hg]at g1
            injection g1 with g1
            injection g1 with g4 g5 g6 g7 g8 g9 g10
            subst g4 g5 g6 g7 g8 g9 g10
            rw[hf]at g2
            injection g2 with g2
            injection g2 with g11 g12
            subst g11 g12
            have hroom:H.room? id=room:=by simp only[Heap.room?,hg]
            rw[hroom]at k3a
            have hdrop:cs.drop off=old:=by
             rw[c2,List.take_of_length_le (by rw[List.length_drop];omega)]
            have hcell:(old++new).length=(len+n)*P.cellsOf e:=by rw[List.length_append,o2,hnl',Nat.add_mul]
            have hvsn:VsOk H (old++new):=by
             rw[zw];intro v hv
             rcases List.mem_append.1 hv with hv | hv
             ·exact(zw H _).1 o1 v hv
             ·exact(zw H _).1 hnew v hv
            have hsame:∀ (t:Nat) (Z:Tape),append H (P.cellsOf e) (P.bytesOf e) (.sl id off len lo (some ee) (P.cellsOf e)) n new (Tape.app [t] Z) =
              some (.sl H.size 0 (len+n) (len+n) (some (spare (len+n) t)) (P.cellsOf e),H.version (old++new) ((len+n+spare (len+n) t)*P.cellsOf e) fam fr ver pl,Z):=by
             intro t Z
             unfold append
             simp only[hzz,cond_true,hfit,cond_false,hb,hold,hg,hf,htop]
             rfl
            have hvok:∀ t,VOk (H.version (old++new) ((len+n+spare (len+n) t)*P.cellsOf e) fam fr ver pl) (.sl H.size 0 (len+n) (len+n) (some (spare (len+n) t)) (P.cellsOf e)):=by
             intro t
             refine⟨Nat.lt_succ_self _,Nat.le_add_right _ _,fun _=>⟨?_,spare_lt h2⟩⟩
             simp only[Heap.room?,Heap.version,T.get_set_same,Option.getD_some,Nat.zero_add]
             exact Nat.le_refl _
            rcases Nat.lt_or_ge (lo+ee) (len+n)with hcap | hcap
            ·-- memory of its own
             obtain⟨t,hr,hc,hsz⟩:=growth (.sl id off len lo (some ee) (P.cellsOf e)) _ len (lo+ee) old rfl o1 o2 o4' hcap h1 h2
             have m1:=hM.drew.grow hg hf g3 (old++new) ((len+n+spare (len+n) t)*P.cellsOf e) _ e hvsn
              (by rw[hcell];exact Nat.mul_le_mul_right _ (Nat.le_add_right _ _)) (by rw[hsz];exact Nat.le_refl _) hc
             refine⟨_,_,_,_,[t],?_,hsame t,m1,Ext.upd H U _,Evol.version hM _ _ _ _ _ _ hf,hvok t⟩
             rw[hr]
             simp only[cv,upd_same,Option.getD_some]
             rfl
            ·-- behind the cells that stand
             have hsp:spare (len+n) (lo+ee-(len+n))=lo+ee-(len+n):=spare_of hcap k3b
             have hcapz:(len+n+spare (len+n) (lo+ee-(len+n)))=lo+ee:=by rw[hsp];omega
             have hmul:=Nat.mul_le_mul_right (P.cellsOf e) hcap
             have hofle:off<=cs.length:=by omega
             obtain⟨c,el,blo,bhi,b1,b2,b3,b4⟩:=hM.inplace hg hf g3 off new ((len+n+spare (len+n) (lo+ee-(len+n)))*P.cellsOf e) hofle hnew
              (by rw[hcapz,hnl'];rw[Nat.add_mul]at hmul;omega) (by rw[hcapz];exact k3a)
             rw[hdrop]at b4
             have hscal:∀ v ∈ cvl U new,v.oneCell'=true:=by
              intro v hv
              rw[zMf,List.mem_map]at hv
              obtain⟨u,hu,rfl⟩:=hv
              exact zPh U u (List.all_eq_true.1 htop'.2.2 u hu)
             have hst:=zIs P (U id).1 ((U id).2+cs.length) el blo bhi (cvl U new) 0 c w b1 (by rw[zy];omega) b3 hscal
             refine⟨_,_,_,_,[lo+ee-(len+n)],?_,hsame _,b4,Ext.upd H U _,Evol.version hM _ _ _ _ _ _ hf,hvok _⟩
             have hfits:=run_append_fits (P:=P) (w:=w) (ty:=ty) (bs:=some ⟨(U id).1,(U id).2+off,none⟩) (sCap:=lo+ee) hd ha0 ha1 hs hdx hnint hlenr hfirst hcap
              (w':=zBL w (U id).1 (.cells (zND c ((U id).2+cs.length) (cvl U new)) el (blo,bhi))) (by
               simp only[zGn]
               rw[show(U id).2+off+len*P.cellsOf e=(U id).2+cs.length from by omega]
               simpa using hst)
             simp only[cv,Option.getD_some]at hfits ⊢
             rw[hfits]
             simp only[upd_same,hcapz,Nat.add_zero]
 | _=>simp at h
end
end Go.Am

