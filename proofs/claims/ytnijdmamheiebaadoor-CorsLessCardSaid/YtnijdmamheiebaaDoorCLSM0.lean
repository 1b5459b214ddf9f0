/- The abstract machine, printed functions of the program, and what they are shown to be. -/
import GoSem.Core.View
import GoSem.Core.Region
import GoSem.Core.Layout
import GoSem.Core.Program
import GoSem.Op.Equal
import Derived.Orders
import Derived.Calls
import Derived.Below
import Derived.Laws.Sem
import Derived.Laws.World
import Derived.Laws.Cells
import Derived.Laws.Rows
import Derived.MapKept
set_option linter.unusedSimpArgs false
set_option linter.unusedVariables false
namespace Go.Am
theorem nl{n:Nat}:n<=n:=Nat.le_refl n
inductive V where
 | bool (b:Bool)
 | int (k:IntKind) (n:Int)
 | str (s:List UInt8)
 | ptr (id off:Nat)
 | nilp
 | sl (id off len lo:Nat) (ex:Option Nat) (z:Nat)
 | nils
 | map (id:Nat)
 | nilm
 | func (f:Nat) (first cap:List V)
 | nilf
 | iface (t:Nat) (v:V)
 | nili
 | agg (cs:List V)
 | tup (vs:List V)
 deriving Inhabited
def V.cells:V->List V
 | .agg cs=>cs
 | v=>[v]
def V.scal:V->Bool
 | .agg _=>false
 | .tup _=>false
 | _=>true
inductive T (α:Type) where
 | leaf
 | node (v:Option α) (l r:T α)
def T.get {α:Type}:T α->Nat->Option α
 | .leaf,_=>none
 | .node v l r,i=>match i with
  | 0=>v
  | Nat.succ j=>bif Nat.beq (j % 2) 0 then l.get (j / 2)else r.get (j / 2)
def T.setF {α:Type}(v:α):Nat->T α->Nat->T α
 | 0,t,_=>t
 | n+1,t,i=>match t with
  | .leaf=>match i with
   | 0=>.node (some v) .leaf .leaf
   | Nat.succ j=>bif Nat.beq (j % 2) 0 then .node none (T.setF v n .leaf (j / 2)) .leaf else .node none .leaf (T.setF v n .leaf (j / 2))
  | .node u l r=>match i with
   | 0=>.node (some v) l r
   | Nat.succ j=>bif Nat.beq (j % 2) 0 then .node u (T.setF v n l (j / 2)) r else .node u l (T.setF v n r (j / 2))
def T.s {α:Type}(t:T α)(i:Nat)(v:α):T α:=T.setF v (i+1) t i
theorem T.get_leaf {α:Type}(i:Nat):(T.leaf:T α).get i=none:=rfl
theorem T.get_setF {α:Type}(v:α):∀ (n:Nat) (t:T α) (i j:Nat),i<n->(T.setF v n t i).get j=if i=j then some v else t.get j:=by
 intro n
 induction n with
 | zero=>intro t i j h;omega
 | succ n ih =>
  intro t i j h
  cases i with
  | zero=>cases t <;> cases j <;> simp[T.setF,T.get]
  | succ a =>
   have hr:a / 2<n:=by omega
   cases j with
   | zero=>cases t <;> cases ha:Nat.beq (a % 2) 0 <;> simp[T.setF,T.get,ha]
   | succ b =>
    cases ha:Nat.beq (a % 2) 0 <;> cases hb:Nat.beq (b % 2) 0
    all_goals (first | (have ha':=Nat.eq_of_beq_eq_true ha) | (have ha':=Nat.ne_of_beq_eq_false ha))
    all_goals (first | (have hb':=Nat.eq_of_beq_eq_true hb) | (have hb':=Nat.ne_of_beq_eq_false hb))
    all_goals (by_cases e:a=b)
    all_goals (first | (exfalso;omega) | skip)
    all_goals (cases t <;> simp only[T.setF,T.get,ha,hb,cond_true,cond_false,Nat.add_right_cancel_iff,e,if_true,if_false])
    all_goals (first | (rw[ih _ _ _ hr,if_pos (by omega)]) | (rw[ih _ _ _ hr,if_neg (by omega)];done) | (rw[ih _ _ _ hr,if_neg (by omega),T.get_leaf]) | (subst e;rw[ih _ _ _ hr,if_pos rfl]) | rfl | skip)
theorem T.get_set {α:Type}(t:T α)(i j:Nat)(v:α):(t.s i v).get j=if i=j then some v else t.get j :=
 T.get_setF v (i+1) t i j (by omega)
theorem T.get_set_same {α:Type}(t:T α)(i:Nat)(v:α):(t.s i v).get i=some v:=by rw[T.get_set,if_pos rfl]
theorem T.get_set_ne {α:Type}(t:T α){i j:Nat}(v:α)(h:i≠j):(t.s i v).get j=t.get j:=by rw[T.get_set,if_neg h]
inductive B where
 | mem (cells:List V) (room fam ver:Nat) (wr plain:Bool) (stamp:Nat)
 | iter (s:List UInt8) (pos:Nat)
 | mapb (es:List (List UInt8 × V × Nat)) (clk:Option Nat)
 | gone
structure Heap where
 size:Nat
 blk:T B
 fams:T (Nat × Nat)
abbrev Tape:=Nat->Nat
def Tape.tail (Z:Tape):Tape:=fun k=>Z (k+1)
def Tape.cons (a:Nat)(Z:Tape):Tape:=fun k=>match k with | 0=>a | k+1=>Z k
def Tape.app:List Nat->Tape->Tape
 | [],Z=>Z
 | a::l,Z=>Tape.cons a (Tape.app l Z)
theorem Tape.head_cons (a:Nat)(Z:Tape):Tape.cons a Z 0=a:=rfl
theorem Tape.app_app (l m:List Nat)(Z:Tape):Tape.app l (Tape.app m Z)=Tape.app (l++m) Z:=by
 induction l with
 | nil=>rfl
 | cons a l ih=>simp only[Tape.app,List.cons_append,ih]
def Heap.cells? (H:Heap)(id:Nat):Option (List V) :=
 match H.blk.get id with
 | some (.mem cs _ fam ver _ _ _)=>match H.fams.get fam with
  | some (from_,_)=>bif Nat.ble from_ ver then some cs else none
  | none=>none
 | _=>none
def Heap.new (H:Heap)(cells:List V)(room:Nat)(plain:Bool):Heap :=
 { size:=H.size+1,blk:=H.blk.s H.size (.mem cells room H.size 0 true plain 0),fams:=H.fams.s H.size (0,0) }
def Heap.version (H:Heap)(cells:List V)(room fam:Nat)(from_ last:Nat)(pl:Bool):Heap :=
 { size:=H.size+1,blk:=H.blk.s H.size (.mem cells room fam (last+1) true pl 0),fams:=H.fams.s fam (from_,last+1) }
def Heap.write (H:Heap)(id:Nat)(f:List V->Option (List V)):Option Heap :=
 match H.blk.get id with
 | some (.mem cs room fam ver true plain st)=>match H.fams.get fam with
  | some (from_,last) =>
   bif Nat.beq ver last && Nat.ble from_ ver then
    match f cs with
    | some cs'=>some { size:=H.size,blk:=H.blk.s id (.mem cs' room fam ver true plain (st+1)),fams:=H.fams.s fam (ver,last) }
    | none=>none
   else none
  | none=>none
 | _=>none
def Heap.load (H:Heap)(id off:Nat):Option V :=
 match H.cells? id with
 | some cs=>cs[off]?
 | none=>none
def takeN:Nat->List V->Option (List V)
 | 0,_=>some []
 | n+1,v::l=>match takeN n l with | some r=>some (v::r) | none=>none
 | _+1,[]=>none
def Heap.loads (H:Heap)(id off n:Nat):Option (List V) :=
 match H.cells? id with
 | some cs=>takeN n (cs.drop off)
 | none=>none
def over (room:Nat):Nat->List V->List V->Option (List V)
 | _,[],cs=>some cs
 | 0,vs,[]=>bif Nat.ble vs.length room then some vs else none
 | 0,v::vs,_::cs=>match over (room-1) 0 vs cs with | some r=>some (v::r) | none=>none
 | n+1,vs,c::cs=>match over (room-1) n vs cs with | some r=>some (c::r) | none=>none
 | _+1,_::_,[]=>none
def Heap.room? (H:Heap)(id:Nat):Nat :=
 match H.blk.get id with
 | some (.mem _ room _ _ _ _ _)=>room
 | _=>0
def Heap.stores (H:Heap)(id off:Nat)(vs:List V):Option Heap :=
 match vs with
 | []=>some H
 | _=>bif vs.all V.scal then H.write id (over (H.room? id) off vs)else none
def zMw {α:Type}(n:Nat)(k:Nat->α):α:=Nat.casesOn (motive:=fun _=>α) n (k 0) (fun p=>k (Nat.succ p))
theorem zBG {α:Type}(n:Nat)(k:Nat->α):zMw n k=k n:=by cases n <;> rfl
def forceI {α:Type}(n:Int)(k:Int->α):α :=
 match n with
 | .ofNat m=>zMw m fun m=>k (.ofNat m)
 | .negSucc m=>zMw m fun m=>k (.negSucc m)
theorem zH6 {α:Type}(n:Int)(k:Int->α):forceI n k=k n:=by cases n <;> simp[forceI,zBG]
def pow2:IntKind->Nat
 | .i8 | .u8=>256
 | .i16 | .u16=>65536
 | .i32 | .u32=>4294967296
 | .i64 | .u64=>18446744073709551616
theorem zRw (k:IntKind):pow2 k=2 ^ k.bits:=by cases k <;> rfl
def maxN:IntKind->Nat
 | .i8=>127 | .u8=>255 | .i16=>32767 | .u16=>65535 | .i32=>2147483647 | .u32=>4294967295
 | .i64=>9223372036854775807 | .u64=>18446744073709551615
def wr (k:IntKind)(n:Int):Int :=
 match n with
 | .ofNat m=>bif Nat.ble m (maxN k)then .ofNat m else
   let r:=m % pow2 k
   bif k.signed && Nat.ble (maxN k+1) r then Int.subNatNat r (pow2 k)else .ofNat r
 | .negSucc m=>bif k.signed && Nat.ble m (maxN k)then .negSucc m else
   let r:=pow2 k-1-m % pow2 k
   bif k.signed && Nat.ble (maxN k+1) r then Int.subNatNat r (pow2 k)else .ofNat r
theorem zPZ (k:IntKind)(n:Int):wr k n=k.wrap n:=by
 have e:∀ a b:Nat,Int.subNatNat a b=(a:Int)-b:=fun _ _=>Int.subNatNat_eq_coe
 have hb:∀ a b:Nat,Nat.ble a b=decide (a<=b):=fun a b=>by
  rw[Bool.eq_iff_iff];simp[Nat.ble_eq]
 cases n with
 | ofNat m =>
  cases k <;> simp only[wr,maxN,pow2,IntKind.wrap,IntKind.signed,IntKind.bits,e,hb,Int.ofNat_eq_natCast,Bool.true_and,Bool.false_and,Bool.false_eq_true,if_false,Bool.cond_eq_ite,ge_iff_le,decide_eq_true_eq] <;>(repeat' split) <;> omega
 | negSucc m =>
  have hn:Int.negSucc m=-((m:Int)+1):=Int.negSucc_eq m
  cases k <;> simp only[wr,maxN,pow2,IntKind.wrap,IntKind.signed,IntKind.bits,e,hb,hn,Int.ofNat_eq_natCast,Bool.true_and,Bool.false_and,Bool.false_eq_true,if_false,Bool.cond_eq_ite,ge_iff_le,decide_eq_true_eq] <;>(repeat' split) <;> omega
def toU (k:IntKind)(n:Int):Nat :=
 match n with
 | .ofNat m=>m % pow2 k
 | .negSucc m=>pow2 k-1-m % pow2 k
def zQp (b:BinOp)(k:IntKind)(x y:Int):Option Int :=
 match b with
 | .and=>some (wr k (.ofNat (Nat.land (toU k x) (toU k y))))
 | .or=>some (wr k (.ofNat (Nat.lor (toU k x) (toU k y))))
 | .xor=>some (wr k (.ofNat (Nat.xor (toU k x) (toU k y))))
 | .andNot=>some (wr k (.ofNat (Nat.land (toU k x) (pow2 k-1-toU k y))))
 | _=>none
def mkI {α:Type}(k:IntKind)(n:Int)(c:V->α):α:=forceI n fun n=>c (.int k n)
def zRm (b:BinOp)(k:IntKind)(x y:Int):Option V :=
 match b with
 | .add=>mkI k (wr k (x+y)) some
 | .sub=>mkI k (wr k (x-y)) some
 | .mul=>mkI k (wr k (x*y)) some
 | .quo=>match y with
  | .ofNat 0=>none
  | _=>mkI k (wr k (x.tdiv y)) some
 | .rem=>match y with
  | .ofNat 0=>none
  | _=>mkI k (x.tmod y) some
 | .eql=>some (.bool (x == y))
 | .neq=>some (.bool (x != y))
 | .lss=>some (.bool (decide (x<y)))
 | .leq=>some (.bool (decide (x<=y)))
 | .gtr=>some (.bool (decide (y<x)))
 | .geq=>some (.bool (decide (y<=x)))
 | b=>match zQp b k x y with
  | some n=>mkI k n some
  | none=>none
def zN3 (b:BinOp)(k:IntKind)(x y:Int):Option V :=
 match y with
 | .negSucc _=>none
 | .ofNat m =>
  zMw (min m k.bits) fun n =>
  match b with
  | .shl=>mkI k (wr k (x*(Nat.pow 2 n:Nat))) some
  | .shr=>mkI k (x.fdiv (Nat.pow 2 n:Nat)) some
  | _=>none
def eqB:List UInt8->List UInt8->Bool
 | [],[]=>true
 | a::x,b::y=>Nat.beq a.toNat b.toNat && eqB x y
 | _,_=>false
def lessB:List UInt8->List UInt8->Bool
 | _,[]=>false
 | [],_::_=>true
 | a::x,b::y=>Nat.blt a.toNat b.toNat || (Nat.beq a.toNat b.toNat && lessB x y)
theorem zOq (x y:List UInt8):eqB x y=(x == y):=by
 induction x generalizing y with
 | nil=>cases y <;> rfl
 | cons a x ih =>
  cases y with
  | nil=>rfl
  | cons b y =>
   have:Nat.beq a.toNat b.toNat=(a == b):=by
    rw[Bool.eq_iff_iff];simp[Nat.beq_eq,UInt8.toNat_inj]
   simp[eqB,ih,this]
def zAL (b:BinOp)(x y:List UInt8):Option V :=
 match b with
 | .add=>bif Nat.ble (x.length+y.length) 4611686018427387904 then some (.str (x++y))else none
 | .eql=>some (.bool (eqB x y))
 | .neq=>some (.bool (!eqB x y))
 | .lss=>some (.bool (lessB x y))
 | .leq=>some (.bool (lessB x y || eqB x y))
 | .gtr=>some (.bool (!(lessB x y || eqB x y)))
 | .geq=>some (.bool (!lessB x y))
 | _=>none
inductive E where
 | bool | int | str | ptr | slice | map | func
 | flat (es:List E)
def eqS:E->V->V->Option Bool
 | .bool,.bool a,.bool b=>some (a == b)
 | .int,.int k a,.int k' b=>if k=k' then some (a == b)else none
 | .str,.str a,.str b=>some (eqB a b)
 | .ptr,.nilp,.nilp=>some true
 | .ptr,.nilp,.ptr _ _=>some false
 | .ptr,.ptr _ _,.nilp=>some false
 | .slice,.nils,.nils=>some true
 | .slice,.nils,.sl ..=>some false
 | .slice,.sl ..,.nils=>some false
 | .map,.nilm,.nilm=>some true
 | .map,.nilm,.map _=>some false
 | .map,.map _,.nilm=>some false
 | .func,.nilf,.nilf=>some true
 | .func,.nilf,.func ..=>some false
 | .func,.func ..,.nilf=>some false
 | _,_,_=>none
def zQE:List E->List V->List V->Option Bool
 | [],[],[]=>some true
 | e::es,x::xs,y::ys=>match eqS e x y with
  | some true=>zQE es xs ys
  | some false=>some false
  | none=>none
 | _,_,_=>none
def eqV:E->V->V->Option Bool
 | .flat es,.agg xs,.agg ys=>zQE es xs ys
 | e,x,y=>eqS e x y
end Go.Am

namespace Go.Am
inductive O where
 | t (i:Nat)
 | c (v:V)
 deriving Inhabited
inductive POp where
 | mv
 | pick
 | build (zero:List V) (ps:List (Nat × Nat))
 | bin (b:BinOp)
 | eq (neg:Bool) (e:E)
 | un (u:UnOp)
 | toInt (k:IntKind)
 | runeStr
 | asStr
 | strSlice (lo hi:Bool)
 | slSlice (z:Nat) (lo hi mx:Bool)
 | arrSlice (n z:Nat) (lo hi mx:Bool)
 | fieldAddr (off:Nat)
 | slIdx (z:Nat)
 | arrIdx (n z:Nat)
 | strIndex
 | arrIndex (n z:Nat) (agg:Bool)
 | field (off n:Nat) (agg:Bool)
 | extract (i:Nat)
 | mkFunc (f first:Nat)
 | mkIface (t:Nat)
 | lenS
 | len
 | arrLen (n:Nat)
 | cap
 | min2
 | max2
 | nilck
inductive LOp where
 | load (agg:Option Nat)
 | bytesStr
 | peq (neg:Bool)
 | mlook (zero:V) (ok:Bool)
 | mlen
inductive EOp where
 | alloc (zero:List V)
 | box
 | buildSlice (len z:Nat) (zero:List V) (ps:List (Nat × Nat))
 | makeSlice (z bytes:Nat) (zero:List V)
 | store (n:Nat)
 | append (z bytes:Nat)
 | copy (z:Nat)
 | strBytes
 | mark
 | clear (z:Nat) (zero:List V)
 | range
 | next
 | mkMap
 | mput
 | mentry (zero:V)
 | mstore
 | mdel
inductive AOp where
 | p (o:POp)
 | l (o:LOp)
 | e (o:EOp)
 | call (f:Nat)
 | callv
structure Ins where
 dst:Option Nat
 guard:Option (Nat × Bool)
 op:AOp
 args:List O
 rng:Option (Nat × Nat)
inductive C where
 | skip
 | reg (ops:List Ins)
 | draw (ops:List Ins)
 | seq (a b:C)
 | cond (x:O) (a b:C)
 | block (id:Nat) (c:C)
 | loop (c:C)
 | exit (id:Nat)
 | ret
 | scope (c:C)
 | keep (l:List Nat) (c:C)
 | bad
inductive R where
 | t (i:Nat)
 | cell (a:Nat) (agg:Option Nat)
structure Fun where
 nparams:Nat
 body:C
 res:List R
def zM7 (zero:List V):List (Nat × Nat)->List V->Option (List V)
 | [],[]=>some zero
 | (off,size)::ps,v::vs =>
  bif Nat.beq v.cells.length size && Nat.ble (off+size) zero.length then
   zM7 (zero.take off++v.cells++zero.drop (off+size)) ps vs
  else none
 | _,_=>none
def zNC (n:Int):Option Nat :=
 match n with
 | .ofNat m=>zMw m some
 | .negSucc _=>none
def within (m lo:Nat)(ex:Option Nat):Bool :=
 bif Nat.ble m lo then true else match ex with | some e=>Nat.ble m (lo+e) | none=>false
def optN (has:Bool)(vs:List V):Option (Option Nat × List V) :=
 match has,vs with
 | false,vs=>some (none,vs)
 | true,.int _ n::vs=>match zNC n with | some m=>some (some m,vs) | none=>none
 | _,_=>none
def zE8 (lo hi mx:Bool)(vs:List V):Option (Option Nat × Option Nat × Option Nat) :=
 match optN lo vs with
 | some (l,vs)=>match optN hi vs with
  | some (h,vs)=>match optN mx vs with
   | some (m,[])=>some (l,h,m)
   | _=>none
  | none=>none
 | none=>none
def zRi (s:List UInt8)(l h:Option Nat):Option V :=
 let h:=h.getD s.length
 let l:=l.getD 0
 bif Nat.ble h s.length && Nat.ble l h then some (.str ((s.take h).drop l))else none
def zRv (off l m z:Nat):Nat:=bif Nat.beq m l then off else off+l*z
def offIn (off l lo:Nat)(ex:Option Nat)(z:Nat):Nat :=
 bif Nat.beq l 0 then off else bif Nat.blt l lo then off+l*z else zRv off l (lo+ex.getD 0) z
theorem offIn_eq (off l lo:Nat)(ex:Option Nat)(z:Nat):offIn off l lo ex z=zRv off l (lo+ex.getD 0) z:=by
 unfold offIn zRv
 cases h:Nat.beq l 0 with
 | true =>
  have:=Nat.eq_of_beq_eq_true h
  subst this
  cases Nat.beq (lo+ex.getD 0) 0 <;> simp
 | false =>
  cases h2:Nat.blt l lo with
  | false=>rfl
  | true =>
   have h3:l<lo:=by simpa [Nat.blt_eq] using h2
   have:Nat.beq (lo+ex.getD 0) l=false:=by
    cases h4:Nat.beq (lo+ex.getD 0) l with
    | false=>rfl
    | true=>have:=Nat.eq_of_beq_eq_true h4;omega
   simp[this]
def zSR (id off len lo:Nat)(ex:Option Nat)(z:Nat)(l h m:Option Nat):Option V :=
 match m with
 | some m =>
  let h:=h.getD len
  let l:=l.getD 0
  bif within m lo ex && Nat.ble h m && Nat.ble l h then some (.sl id (zRv off l m z) (h-l) (m-l) none z)else none
 | none =>
  let h:=h.getD len
  let l:=l.getD 0
  bif within h lo ex && Nat.ble l h then
   bif Nat.ble l lo then some (.sl id (offIn off l lo ex z) (h-l) (lo-l) ex z)
   else some (.sl id (offIn off l lo ex z) (h-l) 0 (some (lo+ex.getD 0-l)) z)
  else none
def nilCut (l h m:Option Nat):Option V :=
 bif Nat.beq (l.getD 0) 0 && Nat.beq (h.getD 0) 0 && Nat.beq (m.getD 0) 0 then some .nils else none
def partOf (cs:List V)(off n:Nat)(agg:Bool):Option V :=
 match agg with
 | true=>bif Nat.ble (off+n) cs.length then some (.agg ((cs.drop off).take n))else none
 | false=>cs[off]?
def zR2 (r:Int):List UInt8 :=
 let c:Nat:=match r with
  | .ofNat m=>bif Nat.ble m 55295 || (Nat.ble 57344 m && Nat.ble m 1114111)then m else 65533
  | .negSucc _=>65533
 bif Nat.blt c 128 then [UInt8.ofNat c]
 else bif Nat.blt c 2048 then [UInt8.ofNat (192+c / 64),UInt8.ofNat (128+c % 64)]
 else bif Nat.blt c 65536 then [UInt8.ofNat (224+c / 4096),UInt8.ofNat (128+c / 64 % 64),UInt8.ofNat (128+c % 64)]
 else [UInt8.ofNat (240+c / 262144),UInt8.ofNat (128+c / 4096 % 64),UInt8.ofNat (128+c / 64 % 64),UInt8.ofNat (128+c % 64)]
def zL8 (s:List UInt8):Nat × Nat :=
 let at' (k:Nat):Nat:=(s.getD k 0).toNat
 let cont (k:Nat):Bool:=Nat.blt k s.length && Nat.beq (at' k / 64) 2
 let b0:=at' 0
 bif Nat.blt b0 128 then(b0,1)
 else bif Nat.beq (b0 / 32) 6 && cont 1 then
  let c:=(b0 % 32)*64+at' 1 % 64
  bif Nat.ble 128 c then(c,2)else(65533,1)
 else bif Nat.beq (b0 / 16) 14 && cont 1 && cont 2 then
  let c:=(b0 % 16)*4096+(at' 1 % 64)*64+at' 2 % 64
  bif Nat.ble 2048 c && (Nat.ble c 55295 || (Nat.ble 57344 c && Nat.ble c 1114111))then(c,3)else(65533,1)
 else bif Nat.beq (b0 / 8) 30 && cont 1 && cont 2 && cont 3 then
  let c:=(b0 % 8)*262144+(at' 1 % 64)*4096+(at' 2 % 64)*64+at' 3 % 64
  bif Nat.ble 65536 c && (Nat.ble c 55295 || (Nat.ble 57344 c && Nat.ble c 1114111))then(c,4)else(65533,1)
 else(65533,1)
def unOp (u:UnOp)(x:V):Option V :=
 match u,x with
 | .neg,.int k n=>mkI k (wr k (0-n)) some
 | .xor,.int k n=>mkI k (wr k (.ofNat (pow2 k-1-toU k n))) some
 | .not,.bool b=>some (.bool !b)
 | _,_=>none
def pMv:List V->Option V
 | [x]=>some x
 | _=>none
def zAE:List V->Option V
 | [.bool c,a,b]=>match c with | true=>some a | false=>some b
 | _=>none
def zIf (zero:List V)(ps:List (Nat × Nat))(vs:List V):Option V :=
 match zM7 zero ps vs with | some cs=>some (.agg cs) | none=>none
def binInt (b:BinOp)(k:IntKind)(x:Int)(k':IntKind)(y:Int):Option V :=
 match b with
 | .shl=>zN3 .shl k x y
 | .shr=>zN3 .shr k x y
 | b=>if k=k' then zRm b k x y else none
def pBin (b:BinOp):List V->Option V
 | [.int k x,.int k' y]=>binInt b k x k' y
 | [.str x,.str y]=>zAL b x y
 | _=>none
def pEq (neg:Bool)(e:E):List V->Option V
 | [x,y]=>match eqV e x y with | some b=>some (.bool (b != neg)) | none=>none
 | _=>none
def pUn (u:UnOp):List V->Option V
 | [x]=>unOp u x
 | _=>none
def pToInt (k:IntKind):List V->Option V
 | [.int _ n]=>mkI k (wr k n) some
 | _=>none
def pRuneStr:List V->Option V
 | [.int _ n]=>some (.str (zR2 n))
 | _=>none
def pAsStr:List V->Option V
 | [.str s]=>some (.str s)
 | _=>none
def zR (lo hi:Bool):List V->Option V
 | .str s::vs=>match zE8 lo hi false vs with | some (l,h,_)=>zRi s l h | none=>none
 | _=>none
def zHq (z:Nat)(lo hi mx:Bool):List V->Option V
 | .sl id off len clo ex z' :: vs =>
  bif Nat.beq z z' then match zE8 lo hi mx vs with | some (l,h,m)=>zSR id off len clo ex z l h m | none=>none else none
 | .nils::vs=>match zE8 lo hi mx vs with | some (l,h,m)=>nilCut l h m | none=>none
 | _=>none
def zCH (n z:Nat)(lo hi mx:Bool):List V->Option V
 | .ptr id off::vs=>match zE8 lo hi mx vs with | some (l,h,m)=>zSR id off n n none z l h m | none=>none
 | _=>none
def zQ (o:Nat):List V->Option V
 | [.ptr id off]=>some (.ptr id (off+o))
 | _=>none
def zn (z:Nat):List V->Option V
 | [.sl id off len _ _ z',.int _ i]=>match zNC i with
  | some i=>bif Nat.beq z z' && Nat.blt i len then some (.ptr id (off+i*z))else none
  | none=>none
 | _=>none
def zJW (n z:Nat):List V->Option V
 | [.ptr id off,.int _ i]=>match zNC i with
  | some i=>bif Nat.blt i n then some (.ptr id (off+i*z))else none
  | none=>none
 | _=>none
def zM:List V->Option V
 | [.str s,.int _ i]=>match zNC i with
  | some i=>match s[i]? with
   | some c=>some (.int .u8 (.ofNat c.toNat))
   | none=>none
  | none=>none
 | _=>none
def pArrIndex (n z:Nat)(agg:Bool):List V->Option V
 | [.agg cs,.int _ i]=>match zNC i with
  | some i=>bif Nat.blt i n then partOf cs (i*z) z agg else none
  | none=>none
 | _=>none
def pField (off n:Nat)(agg:Bool):List V->Option V
 | [.agg cs]=>partOf cs off n agg
 | _=>none
def zT (i:Nat):List V->Option V
 | [.tup vs]=>vs[i]?
 | _=>none
def zBW:List V->Option V
 | [.str s]=>some (.int .i64 (.ofNat s.length))
 | _=>none
def pLen:List V->Option V
 | [.sl _ _ len _ _ _]=>some (.int .i64 (.ofNat len))
 | [.nils]=>some (.int .i64 0)
 | _=>none
def pArrLen (n:Nat):List V->Option V
 | [_]=>some (.int .i64 (.ofNat n))
 | _=>none
def pCap:List V->Option V
 | [.sl _ _ _ lo ex _]=>some (.int .i64 (.ofNat (lo+ex.getD 0)))
 | [.nils]=>some (.int .i64 0)
 | _=>none
def pMin:List V->Option V
 | [.int k x,.int _ y]=>some (.int k (if y<x then y else x))
 | _=>none
def pMax:List V->Option V
 | [.int k x,.int _ y]=>some (.int k (if x<y then y else x))
 | _=>none
def zB2:List V->Option V
 | [.nilp]=>none
 | [.nili]=>none
 | [.nilf]=>none
 | [x]=>some x
 | _=>none
def pIface (t:Nat):List V->Option V
 | [x]=>some (.iface t x)
 | _=>none
def zE9 (o:POp)(vs:List V):Option V :=
 match o with
 | .mv=>pMv vs
 | .pick=>zAE vs
 | .build zero ps=>zIf zero ps vs
 | .bin b=>pBin b vs
 | .eq neg e=>pEq neg e vs
 | .un u=>pUn u vs
 | .toInt k=>pToInt k vs
 | .runeStr=>pRuneStr vs
 | .asStr=>pAsStr vs
 | .strSlice lo hi=>zR lo hi vs
 | .slSlice z lo hi mx=>zHq z lo hi mx vs
 | .arrSlice n z lo hi mx=>zCH n z lo hi mx vs
 | .fieldAddr o=>zQ o vs
 | .slIdx z=>zn z vs
 | .arrIdx n z=>zJW n z vs
 | .strIndex=>zM vs
 | .arrIndex n z agg=>pArrIndex n z agg vs
 | .field off n agg=>pField off n agg vs
 | .extract i=>zT i vs
 | .mkFunc f first=>some (.func f (vs.take first) (vs.drop first))
 | .mkIface t=>pIface t vs
 | .lenS=>zBW vs
 | .len=>pLen vs
 | .arrLen n=>pArrLen n vs
 | .cap=>pCap vs
 | .min2=>pMin vs
 | .max2=>pMax vs
 | .nilck=>zB2 vs
def bytesOf:List V->Option (List UInt8)
 | []=>some []
 | .int .u8 n::l=>match bytesOf l with | some r=>some (UInt8.ofNat n.toNat::r) | none=>none
 | _=>none
def zf (vs:List V)(H:Heap):Option V :=
 match vs with
 | [.ptr id off]=>H.load id off
 | _=>none
def zA7 (n:Nat)(vs:List V)(H:Heap):Option V :=
 match vs with
 | [.ptr id off]=>match H.loads id off n with | some cs=>some (.agg cs) | none=>none
 | _=>none
def zA6 (vs:List V)(H:Heap):Option V :=
 match vs with
 | [.nils]=>some (.str [])
 | [.sl id off len _ _ z]=>bif Nat.beq z 1 then match H.loads id off len with
   | some cs=>match bytesOf cs with | some s=>some (.str s) | none=>none
   | none=>none
  else none
 | _=>none
def zRB (agg:Option Nat)(vs:List V)(H:Heap):Option V :=
 match agg with
 | none=>zf vs H
 | some n=>zA7 n vs H
def famOf (H:Heap)(id:Nat):Option Nat :=
 match H.blk.get id with
 | some (.mem _ _ fam ver true true _)=>match H.fams.get fam with
  | some (from_,_)=>bif Nat.ble from_ ver then some fam else none
  | none=>none
 | _=>none
def lPeq (neg:Bool)(vs:List V)(H:Heap):Option V :=
 match vs with
 | [.nilp,.nilp]=>some (.bool (true != neg))
 | [.nilp,.ptr _ _]=>some (.bool (false != neg))
 | [.ptr _ _,.nilp]=>some (.bool (false != neg))
 | [.ptr i o,.ptr j o']=>bif Nat.beq i j then some (.bool (Nat.beq o o' != neg))else
  match famOf H i,famOf H j with
  | some f,some g=>bif Nat.beq f g then none else some (.bool (false != neg))
  | _,_=>none
 | _=>none
def zKM (k:List UInt8):List (List UInt8 × V × Nat)->Option (V × Nat)
 | []=>none
 | (k',v)::r=>bif eqB k k' then some v else zKM k r
def putS (k:List UInt8)(v:V)(c:Nat):List (List UInt8 × V × Nat)->List (List UInt8 × V × Nat)
 | []=>[(k,v,c)]
 | (k',u,b)::r=>bif eqB k k' then(k',v,b)::r else(k',u,b)::putS k v c r
def newS (k:List UInt8)(c:Nat)(es:List (List UInt8 × V × Nat)):Nat:=match zKM k es with | some _=>c | none=>c+1
def delS (k:List UInt8):List (List UInt8 × V × Nat)->List (List UInt8 × V × Nat)
 | []=>[]
 | (k',u)::r=>bif eqB k k' then r else(k',u)::delS k r
def setB (n:Nat)(v:V):List (List UInt8 × V × Nat)->Option (List (List UInt8 × V × Nat))
 | []=>none
 | (k,u,b)::r=>bif Nat.beq b n then some ((k,v,b)::r)else match setB n v r with
  | some r=>some ((k,u,b)::r)
  | none=>none
def lookV (ok:Bool)(v:V)(b:Bool):V:=match ok with | true=>.tup [v,.bool b] | false=>v
def lLook (zero:V)(ok:Bool)(vs:List V)(H:Heap):Option V :=
 match vs with
 | [.nilm,.str _]=>some (lookV ok zero false)
 | [.map id,.str k]=>match H.blk.get id with
  | some (.mapb es (some _))=>match zKM k es with
   | some v=>some (lookV ok v.1 true)
   | none=>some (lookV ok zero false)
  | _=>none
 | _=>none
def lMlen (vs:List V)(H:Heap):Option V :=
 match vs with
 | [.nilm]=>some (.int .i64 0)
 | [.map id]=>match H.blk.get id with
  | some (.mapb es (some _))=>some (.int .i64 (.ofNat es.length))
  | _=>none
 | _=>none
def zGU (o:LOp)(vs:List V)(H:Heap):Option V :=
 match o with
 | .load agg=>zRB agg vs H
 | .bytesStr=>zA6 vs H
 | .peq neg=>lPeq neg vs H
 | .mlook zero ok=>lLook zero ok vs H
 | .mlen=>lMlen vs H
def spare (need:Nat)(t:Nat):Nat:=t % (9223372036854775808-need)
def zDg (H:Heap)(z n:Nat):V->Option (List V)
 | .nils=>some []
 | .sl id off _ _ _ z'=>bif Nat.beq z z' then H.loads id off (n*z)else none
 | .str s=>bif Nat.beq z 1 then some ((s.take n).map fun c=>.int .u8 (.ofNat c.toNat))else none
 | _=>none
def zHg:V->Option Nat
 | .nils=>some 0
 | .sl _ _ len _ _ _=>some len
 | .str s=>some s.length
 | _=>none
def fresh (H:Heap)(cells:List V)(len z t:Nat):V × Heap :=
 (.sl H.size 0 len len (some (spare len t)) z,H.new cells ((len+spare len t)*z) false)
def append (H:Heap)(z bytes:Nat)(s:V)(n:Nat)(new:List V)(Z:Tape):Option (V × Heap × Tape) :=
 match s with
 | .nils=>match n with
  | 0=>some (.nils,H,Z)
  | n=>bif Nat.ble (n*bytes) 140737488355328 && Nat.ble n 140737488355328 then
    match fresh H new n z (Z 0)with | (v,H)=>some (v,H,Z.tail)
   else none
 | .sl id off len lo ex z' =>
  let need:=len+n
  bif Nat.beq z z' then
   bif Nat.ble need lo then
    match H.stores id (off+len*z) new with
    | some H=>some (.sl id off need lo ex z,H,Z)
    | none=>none
   else bif Nat.ble (need*bytes) 140737488355328 && Nat.ble need 140737488355328 then
    match H.loads id off (len*z)with
    | none=>none
    | some old=>match ex with
     | none=>match fresh H (old++new) need z (Z 0)with | (v,H)=>some (v,H,Z.tail)
     | some _=>match H.blk.get id with
      | some (.mem cs _ fam ver true pl _)=>match H.fams.get fam with
       | some (from_,last) =>
        bif Nat.beq ver last && (Nat.beq (off+len*z) cs.length && new.all V.scal)then
         some (.sl H.size 0 need need (some (spare need (Z 0))) z,H.version (old++new) ((need+spare need (Z 0))*z) fam from_ last pl,Z.tail)
        else none
       | none=>none
      | _=>none
   else none
  else none
 | _=>none
def repl (n:Nat)(l:List V):List V:=(List.replicate n l).flatten
def zBV (zero:List V)(vs:List V)(H:Heap)(Z:Tape):Option (V × Heap × Tape) :=
 match vs with
 | []=>some (.ptr H.size 0,H.new zero zero.length true,Z)
 | _=>none
def eBox (vs:List V)(H:Heap)(Z:Tape):Option (V × Heap × Tape) :=
 match vs with
 | [v]=>some (.ptr H.size 0,H.new v.cells v.cells.length true,Z)
 | _=>none
def zZ (len z:Nat)(zero:List V)(ps:List (Nat × Nat))(vs:List V)(H:Heap)(Z:Tape):Option (V × Heap × Tape) :=
 match zM7 zero ps vs with
 | some cs=>some (.sl H.size 0 len len none z,H.new cs (len*z) false,Z)
 | none=>none
def zFL (z bytes:Nat)(zero:List V)(vs:List V)(H:Heap)(Z:Tape):Option (V × Heap × Tape) :=
 match vs with
 | [.int _ l,.int _ c]=>match zNC l,zNC c with
  | some l,some c=>bif Nat.ble l c && (Nat.ble (c*bytes) 140737488355328 && Nat.ble c 140737488355328)then
    some (.sl H.size 0 l c none z,H.new (repl c zero) (c*z) false,Z)else none
  | _,_=>none
 | _=>none
def eStore (n:Nat)(vs:List V)(H:Heap)(Z:Tape):Option (V × Heap × Tape) :=
 match vs with
 | [.ptr id off,x]=>bif Nat.beq x.cells.length n then match H.stores id off x.cells with
   | some H=>some (.tup [],H,Z)
   | none=>none
  else none
 | _=>none
def zAj (z bytes:Nat)(vs:List V)(H:Heap)(Z:Tape):Option (V × Heap × Tape) :=
 match vs with
 | [s,x]=>match zHg x with
  | some n=>match zDg H z n x with
   | some new=>append H z bytes s n new Z
   | none=>none
  | none=>none
 | _=>none
def zQs (z:Nat)(vs:List V)(H:Heap)(Z:Tape):Option (V × Heap × Tape) :=
 match vs with
 | [d,x]=>match zHg x with
  | some n=>match d with
   | .nils=>some (.int .i64 0,H,Z)
   | .sl id off len _ _ z' =>
    let n:=bif Nat.ble n len then n else len
    bif Nat.beq z z' then match zDg H z n x with
     | some new=>match H.stores id off new with
      | some H=>some (.int .i64 (.ofNat n),H,Z)
      | none=>none
     | none=>none
    else none
   | _=>none
  | none=>none
 | _=>none
def zBU (vs:List V)(H:Heap)(Z:Tape):Option (V × Heap × Tape) :=
 match vs with
 | [.str s]=>bif Nat.ble s.length 140737488355328 then
   match fresh H (s.map fun c=>.int .u8 (.ofNat c.toNat)) s.length 1 (Z 0)with | (v,H)=>some (v,H,Z.tail)
  else none
 | _=>none
def eMark (vs:List V)(H:Heap)(Z:Tape):Option (V × Heap × Tape) :=
 match vs with
 | [.sl id off len lo ex z]=>match H.blk.get id with
  | some (.mem _ _ fam ver true false _)=>match H.fams.get fam with
   | some (from_,_)=>bif Nat.ble from_ ver then some (.sl id off len lo ex z,H,Z)else none
   | none=>none
  | _=>none
 | _=>none
def eClear (z:Nat)(zero:List V)(vs:List V)(H:Heap)(Z:Tape):Option (V × Heap × Tape) :=
 match vs with
 | [.nils]=>some (.tup [],H,Z)
 | [.sl id off len _ _ z']=>bif Nat.beq z z' && Nat.beq zero.length z then match H.stores id off (repl len zero)with
   | some H=>some (.tup [],H,Z)
   | none=>none
  else none
 | _=>none
def eRange (vs:List V)(H:Heap)(Z:Tape):Option (V × Heap × Tape) :=
 match vs with
 | [.str s]=>some (.ptr H.size 0,{ size:=H.size+1,blk:=H.blk.s H.size (.iter s 0),fams:=H.fams },Z)
 | _=>none
def eNext (vs:List V)(H:Heap)(Z:Tape):Option (V × Heap × Tape) :=
 match vs with
 | [.ptr id 0]=>match H.blk.get id with
  | some (.iter s pos) =>
   bif Nat.blt pos s.length then
    match zL8 (s.drop pos)with
    | (c,w)=>zMw (pos+w) fun p=>zMw c fun c =>
     some (.tup [.bool true,.int .i64 (.ofNat pos),.int .i32 (.ofNat c)],{ size:=H.size,blk:=H.blk.s id (.iter s p),fams:=H.fams },Z)
   else some (.tup [.bool false],H,Z)
  | _=>none
 | _=>none
def eMkMap (vs:List V)(H:Heap)(Z:Tape):Option (V × Heap × Tape) :=
 match vs with
 | []=>some (.map H.size,{ size:=H.size+1,blk:=H.blk.s H.size (.mapb [] (some 0)),fams:=H.fams },Z)
 | _=>none
def eMput (vs:List V)(H:Heap)(Z:Tape):Option (V × Heap × Tape) :=
 match vs with
 | [.map id,.str k,v]=>match H.blk.get id with
  | some (.mapb es (some c))=>zMw (newS k c es) fun c'=>some (.tup [],{ size:=H.size,blk:=H.blk.s id (.mapb (putS k v c es) (some c')),fams:=H.fams },Z)
  | _=>none
 | _=>none
def zQq (zero:V)(vs:List V)(H:Heap)(Z:Tape):Option (V × Heap × Tape) :=
 match vs with
 | [.map id,.str k]=>match H.blk.get id with
  | some (.mapb es (some c))=>match zKM k es with
   | some vb=>some (.tup [vb.1,.int .i64 (.ofNat vb.2)],{ size:=H.size,blk:=H.blk.s id (.mapb es (some c)),fams:=H.fams },Z)
   | none=>zMw (c+1) fun c'=>some (.tup [zero,.int .i64 (.ofNat c)],{ size:=H.size,blk:=H.blk.s id (.mapb (putS k zero c es) (some c')),fams:=H.fams },Z)
  | _=>none
 | _=>none
def zR3 (vs:List V)(H:Heap)(Z:Tape):Option (V × Heap × Tape) :=
 match vs with
 | [.map id,.int _ (.ofNat n),v]=>match H.blk.get id with
  | some (.mapb es (some c))=>match setB n v es with
   | some es'=>some (.tup [],{ size:=H.size,blk:=H.blk.s id (.mapb es' (some c)),fams:=H.fams },Z)
   | none=>none
  | _=>none
 | _=>none
def eMdel (vs:List V)(H:Heap)(Z:Tape):Option (V × Heap × Tape) :=
 match vs with
 | [.nilm,.str _]=>some (.tup [],H,Z)
 | [.map id,.str k]=>match H.blk.get id with
  | some (.mapb es (some c))=>some (.tup [],{ size:=H.size,blk:=H.blk.s id (.mapb (delS k es) (some c)),fams:=H.fams },Z)
  | _=>none
 | _=>none
def zAi (o:EOp)(vs:List V)(H:Heap)(Z:Tape):Option (V × Heap × Tape) :=
 match o with
 | .alloc zero=>zBV zero vs H Z
 | .box=>eBox vs H Z
 | .buildSlice len z zero ps=>zZ len z zero ps vs H Z
 | .makeSlice z bytes zero=>zFL z bytes zero vs H Z
 | .store n=>eStore n vs H Z
 | .append z bytes=>zAj z bytes vs H Z
 | .copy z=>zQs z vs H Z
 | .strBytes=>zBU vs H Z
 | .mark=>eMark vs H Z
 | .clear z zero=>eClear z zero vs H Z
 | .range=>eRange vs H Z
 | .next=>eNext vs H Z
 | .mkMap=>eMkMap vs H Z
 | .mput=>eMput vs H Z
 | .mentry zero=>zQq zero vs H Z
 | .mstore=>zR3 vs H Z
 | .mdel=>eMdel vs H Z
structure St where
 fr:T V
 hp:Heap
def evO (fr:T V):O->Option V
 | .t i=>fr.get i
 | .c v=>some v
def evOs (fr:T V):List O->Option (List V)
 | []=>some []
 | o::os=>match evO fr o with
  | some v=>match evOs fr os with
   | some vs=>some (v::vs)
   | none=>none
  | none=>none
def put (fr:T V)(dst:Option Nat)(v:V):T V :=
 match dst with
 | some d=>fr.s d v
 | none=>fr
def wants (fr:T V):Option (Nat × Bool)->Option Bool
 | none=>some true
 | some (t,w)=>match fr.get t with
  | some (.bool b)=>some (b == w)
  | some (.tup [])=>some false
  | _=>none
abbrev zEa:=Nat->List V->Heap->Tape->Option (V × Heap × Tape)
def zAq (call:zEa)(o:AOp)(vs:List V)(H:Heap)(Z:Tape):Option (V × Heap × Tape) :=
 match o with
 | .p o=>match zE9 o vs with | some v=>some (v,H,Z) | none=>none
 | .l o=>match zGU o vs H with | some v=>some (v,H,Z) | none=>none
 | .e o=>zAi o vs H Z
 | .call f=>call f vs H Z
 | .callv=>match vs with
  | .func f first cap::vs=>call f (first++vs++cap) H Z
  | _=>none
def zBM (call:zEa)(i:Ins)(st:St)(Z:Tape):Option (St × Tape) :=
 match wants st.fr i.guard with
 | none=>none
 | some false=>some (⟨put st.fr i.dst (.tup []),st.hp⟩,Z)
 | some true=>match evOs st.fr i.args with
  | none=>none
  | some vs=>match zAq call i.op vs st.hp Z with
   | some (v,H,Z)=>some (⟨put st.fr i.dst v,H⟩,Z)
   | none=>none
def zo (call:zEa):List Ins->St->Tape->Option (St × Tape)
 | [],st,Z=>some (st,Z)
 | i::is,st,Z=>match zBM call i st Z with
  | some (st,Z)=>zo call is st Z
  | none=>none
def AOp.eff:AOp->Bool
 | .p _=>false
 | .l _=>false
 | _=>true
def zOy:V->V->Bool
 | .bool a,.bool b=>a == b
 | .int k n,.int k' n'=>decide (k=k') && decide (n=n')
 | .str a,.str b=>decide (a=b)
 | .ptr i o,.ptr i' o'=>Nat.beq i i' && Nat.beq o o'
 | .nilp,.nilp=>true
 | .sl i o n l none z,.sl i' o' n' l' none z'=>Nat.beq i i' && Nat.beq o o' && Nat.beq n n' && Nat.beq l l' && Nat.beq z z'
 | .sl i o n l (some e) z,.sl i' o' n' l' (some e') z'=>Nat.beq i i' && Nat.beq o o' && Nat.beq n n' && Nat.beq l l' && Nat.beq e e' && Nat.beq z z'
 | .nils,.nils=>true
 | .map a,.map b=>Nat.beq a b
 | .nilm,.nilm=>true
 | .nilf,.nilf=>true
 | .nili,.nili=>true
 | _,_=>false
def zSL (f:V->V->Bool):List V->List V->Bool
 | [],[]=>true
 | a::l,b::m=>f a b && zSL f l m
 | _,_=>false
def zRJ (a b:V):Bool :=
 match a,b with
 | .func f x y,.func f' x' y'=>Nat.beq f f' && zSL zOy x x' && zSL zOy y y'
 | .iface t x,.iface t' x'=>Nat.beq t t' && zOy x x'
 | a,b=>zOy a b
def same (a b:V):Bool :=
 match a,b with
 | .agg x,.agg y=>zSL zRJ x y
 | a,b=>zRJ a b
abbrev zPD:=LOp × List V × Nat × Nat
def noted (i:Ins)(st:St)(ls:List zPD):List zPD :=
 match i.rng with
 | none=>ls
 | some (lo,hi)=>match i.op with
  | .l op=>match evOs st.fr i.args with
   | some vs=>(op,vs,lo,hi)::ls
   | none=>ls
  | _=>ls
def zGV (call:zEa):List Ins->St->Tape->List Heap->List zPD->Option (St × Tape × List Heap × List zPD)
 | [],st,Z,hs,ls=>some (st,Z,hs,ls)
 | i::is,st,Z,hs,ls=>match zBM call i st Z with
  | some (st',Z)=>zGV call is st' Z (bif i.op.eff then st'.hp::hs else hs)
    (match wants st.fr i.guard with | some true=>noted i st ls | _=>ls)
  | none=>none
def chk1 (op:LOp)(vs:List V)(v:V):List Heap->Bool
 | []=>true
 | H::hs=>(match zGU op vs H with | some u=>same u v | none=>false) && chk1 op vs v hs
def zPf (H:Heap)(id:Nat):Option Nat :=
 match H.blk.get id with
 | some (.mem _ _ fam ver _ _ st)=>match H.fams.get fam with
  | some (fr,_)=>bif Nat.ble fr ver then some st else none
  | none=>none
 | _=>none
def zP9 (id s:Nat):List Heap->Bool
 | []=>true
 | H::hs=>(match zPf H id with | some t=>Nat.beq t s | none=>false) && zP9 id s hs
def chkS (op:LOp)(vs:List V):List Heap->Bool
 | []=>false
 | H::hs=>match op with
  | .load _=>match vs with
   | [.ptr id _]=>match zPf H id with
    | some s=>zP9 id s hs
    | none=>false
   | _=>false
  | _=>false
def zAZ (hs:List Heap):List zPD->Bool
 | []=>true
 | (op,vs,lo,hi)::ls=>(chkS op vs ((hs.drop lo).take (hi+1-lo)) || match (hs.drop lo).take (hi+1-lo)with
   | []=>false
   | H::hs=>match zGU op vs H with
    | some v=>chk1 op vs v hs
    | none=>false) && zAZ hs ls
inductive Ex where
 | normal
 | exit (id:Nat)
 | ret
def zNG (body:St->Tape->Option (Ex × St × Tape)):Nat->St->Tape->Option (Ex × St × Tape)
 | 0,_,_=>none
 | n+1,st,Z=>match body st Z with
  | some (.normal,st,Z)=>zNG body n st Z
  | r=>r
def zP3:List Nat->T V->T V->T V
 | [],_,acc=>acc
 | i::l,fr,acc=>zP3 l fr (match fr.get i with | some v=>acc.s i v | none=>acc)
def exec (call:zEa)(N:Nat):C->St->Tape->Option (Ex × St × Tape)
 | .skip,st,Z=>some (.normal,st,Z)
 | .reg ops,st,Z=>match zo call ops st Z with | some (st,Z)=>some (.normal,st,Z) | none=>none
 | .draw ops,st,Z=>match zGV call ops st Z [st.hp] []with
  | some (st,Z,hs,ls)=>bif zAZ hs.reverse ls then some (.normal,st,Z)else none
  | none=>none
 | .seq a b,st,Z=>match exec call N a st Z with
  | some (.normal,st,Z)=>exec call N b st Z
  | r=>r
 | .cond x a b,st,Z=>match evO st.fr x with
  | some (.bool true)=>exec call N a st Z
  | some (.bool false)=>exec call N b st Z
  | _=>none
 | .block id c,st,Z=>match exec call N c st Z with
  | some (.exit id',st,Z)=>bif Nat.beq id' id then some (.normal,st,Z)else some (.exit id',st,Z)
  | r=>r
 | .loop c,st,Z=>zNG (exec call N c) N st Z
 | .exit id,st,Z=>some (.exit id,st,Z)
 | .ret,st,Z=>some (.ret,st,Z)
 | .scope c,st,Z=>exec call N c st Z
 | .keep l c,st,Z=>exec call N c ⟨zP3 l st.fr .leaf,st.hp⟩ Z
 | .bad,_,_=>none
def resOf (st:St):R->Option V
 | .t i=>st.fr.get i
 | .cell a agg=>match st.fr.get a with
  | some v=>zGU (.load agg) [v] st.hp
  | none=>none
def zOa (st:St):List R->Option (List V)
 | []=>some []
 | r::rs=>match resOf st r with
  | some v=>match zOa st rs with
   | some vs=>some (v::vs)
   | none=>none
  | none=>none
def zNt:List V->Nat->T V->T V
 | [],_,fr=>fr
 | v::vs,i,fr=>zNt vs (i+1) (fr.s i v)
def results (st:St)(rs:List R):Option V :=
 match zOa st rs with
 | some [v]=>some v
 | some vs=>some (.tup vs)
 | none=>none
inductive Def where
 | fn (f:Fun)
 | prim (f:List V->Heap->Tape->Option (V × Heap × Tape))
def zJa (call:zEa)(N:Nat)(d:Option Def)(vs:List V)(H:Heap)(Z:Tape):Option (V × Heap × Tape) :=
 match d with
 | none=>none
 | some (.prim f)=>f vs H Z
 | some (.fn fn) =>
  bif Nat.beq vs.length fn.nparams then
   match exec call N fn.body ⟨zNt vs 0 .leaf,H⟩ Z with
   | some (.exit _,_,_)=>none
   | some (_,st,Z)=>match results st fn.res with
    | some v=>some (v,st.hp,Z)
    | none=>none
   | none=>none
  else none
def call (prog:Nat->Option Def)(N:Nat):Nat->zEa
 | 0=>fun _ _ _ _=>none
 | k+1=>fun f vs H Z=>zJa (call prog N k) N (prog f) vs H Z
def C.strip:C->C
 | .seq a b=>.seq a.strip b.strip
 | .cond x a b=>.cond x a.strip b.strip
 | .block id c=>.block id c.strip
 | .loop c=>.loop c.strip
 | .scope c=>.scope c.strip
 | .keep _ c=>c.strip
 | c=>c
end Go.Am
namespace Go.Am
def bs (l:List Nat):List UInt8:=l.map UInt8.ofNat
def zD8:List (Option (List V))->Heap->Heap
 | [],H=>H
 | some cs::l,H=>zD8 l { size:=H.size+1,blk:=H.blk.s H.size (.mem cs cs.length H.size 0 false false 0),fams:=H.fams.s H.size (0,0) }
 | none::l,H=>zD8 l { size:=H.size+1,blk:=H.blk.s H.size .gone,fams:=H.fams }
end Go.Am

namespace Go.Am
def cv1?:Value->Option V
 | .bool b=>some (.bool b)
 | .int k n=>some (.int k n)
 | .string s=>some (.str s.data.toList)
 | .pointer none=>some .nilp
 | .slice none 0 0=>some .nils
 | .map none=>some .nilm
 | .nilFunc=>some .nilf
 | .nilIface=>some .nili
 | _=>none
def zAs {α β:Type}(f:α->Option β):List α->Option (List β)
 | []=>some []
 | a::l=>match f a with
  | some b=>match zAs f l with
   | some r=>some (b::r)
   | none=>none
  | none=>none
def cv?:Value->Option V
 | .agg cs=>match zAs cv1? cs.toList with | some l=>some (.agg l) | none=>none
 | .tuple cs=>match zAs cv1? cs.toList with | some l=>some (.tup l) | none=>none
 | v=>cv1? v
section
variable (P:Program)
def trO:Operand->Option O
 | .tmp t=>some (.t t)
 | .const v=>match cv? v with | some v=>some (.c v) | none=>none
 | .global g=>if g<P.globals.size then some (.c (.ptr g 0))else none
 | .func f=>some (.c (.func f [] []))
def aggT (t:TypeId):Bool :=
 match P.underlying t with
 | some (.struct _)=>true
 | some (.array _ _)=>true
 | _=>false
def zRD (t:TypeId):Option (List V) :=
 match P.info? t with
 | some i=>match i.zero with
  | some v=>zAs cv1? v.cells.toList
  | none=>none
 | none=>none
def zeroV (t:TypeId):Option V :=
 match P.info? t with
 | some i=>match i.zero with
  | some v=>cv? v
  | none=>none
 | none=>none
def zQa (t:TypeId):Option TypeId :=
 match P.underlying t with
 | some (.map k e)=>match P.underlying k with
  | some .string=>some e
  | _=>none
 | _=>none
def aggN (t:TypeId):Option Nat:=if aggT P t then some (P.cellsOf t)else none
def u8T (t:TypeId):Bool :=
 match P.underlying t with
 | some (.int .u8)=>true
 | _=>false
def eq1 (t:TypeId):Option E :=
 match P.underlying t with
 | some .bool=>some .bool
 | some (.int _)=>some .int
 | some .string=>some .str
 | _=>none
def eqFields:List Field->Nat->Option (List E)
 | [],_=>some []
 | f::fs,off =>
  if f.name ≠ "_" /\ f.offset=off/\aggT P f.type=false then
   match eq1 P f.type,eqFields fs (off+1)with
   | some e,some es=>some (e::es)
   | _,_=>none
  else none
def eqOf (t:TypeId):Option E :=
 match P.underlying t with
 | some .bool=>some .bool
 | some (.pointer _)=>some .ptr
 | some (.slice _)=>some .slice
 | some (.map _ _)=>some .map
 | some (.func _ _ _)=>some .func
 | some (.struct fs) =>
  if P.stoodInHeld t=false/\P.eqGuardType P.depth t=false then
   match eqFields P fs.toList 0 with
   | some es=>some (.flat es)
   | none=>none
  else none
 | _=>none
def placeOf (t:TypeId)(i:Nat):Option (Nat × Nat) :=
 match P.underlying t with
 | some (.struct fs)=>match fs[i]? with
  | some f=>some (f.offset,P.cellsOf f.type)
  | none=>none
 | some (.array _ e)=>some (i*P.cellsOf e,P.cellsOf e)
 | _=>none
def kn {α:Type}(t:TypeId)(x:Option α):Option α:=if(P.underlying t).isSome then x else none
def zLj (e:TypeId):Bool :=
 match zRD P e with
 | some z=>z.length == P.cellsOf e && P.cellsOf e != 0 && (P.underlying e).isSome
 | none=>false
def partsOk (t:TypeId):Bool :=
 match P.underlying t with
 | some (.struct fs)=>fs.toList.all fun f=>(P.underlying f.type).isSome
 | some (.array _ e)=>(P.underlying e).isSome
 | _=>false
def zEp (f:FuncId):Bool :=
 match P.funcs[f]? with
 | some fn=>fn.body.isSome && fn.name != "runtime.NumGoroutine"
 | none=>false
def zJl (b:Builtin)(argTypes:List TypeId):Option AOp :=
 match b,argTypes with
 | .len,t::_=>match P.underlying t with
  | some .string=>some (.p .lenS)
  | some (.slice _)=>some (.p .len)
  | some (.map _ _)=>some (.l .mlen)
  | some (.array n _)=>some (.p (.arrLen n))
  | some (.pointer a)=>match P.underlying a with
   | some (.array n _)=>some (.p (.arrLen n))
   | _=>none
  | _=>none
 | .cap,t::_=>match P.underlying t with
  | some (.slice _)=>some (.p .cap)
  | _=>none
 | .append,[t,u]=>match P.underlying t,P.underlying u with
  | some (.slice e),some (.slice _)=>if zLj P e then some (.e (.append (P.cellsOf e) (P.bytesOf e)))else none
  | some (.slice e),some .string=>if zLj P e/\P.cellsOf e=1 then some (.e (.append (P.cellsOf e) (P.bytesOf e)))else none
  | _,_=>none
 | .copy,[t,u]=>match P.underlying t,P.underlying u with
  | some (.slice e),some (.slice _)=>if zLj P e then some (.e (.copy (P.cellsOf e)))else none
  | some (.slice e),some .string=>if zLj P e/\P.cellsOf e=1 then some (.e (.copy (P.cellsOf e)))else none
  | _,_=>none
 | .clear,[t]=>match P.underlying t with
  | some (.slice e)=>match zRD P e with
   | some z=>if zLj P e then some (.e (.clear (P.cellsOf e) z))else none
   | none=>none
  | _=>none
 | .delete,[t,_]=>match zQa P t with
  | some _=>some (.e .mdel)
  | none=>none
 | .min,_=>some (.p .min2)
 | .max,_=>some (.p .max2)
 | _,_=>none
def trOp (op:Go.Op):Option (AOp × List Operand) :=
 match op with
 | .move x=>some (.p .mv,[x])
 | .assign x=>some (.p .mv,[x])
 | .pick c a b=>some (.p .pick,[c,a,b])
 | .alloc t=>match zRD P t with
  | some z=>some (.e (.alloc z),[])
  | none=>none
 | .box _ x=>some (.e .box,[x])
 | .build t parts=>match zRD P t,zAs (placeOf P t) (parts.toList.map (·.1))with
  | some z,some ps=>if partsOk P t then some (.p (.build z ps),parts.toList.map (·.2))else none
  | _,_=>none
 | .buildSlice t len parts=>match P.underlying t with
  | some (.slice e)=>match zRD P e with
   | some z=>if len*P.cellsOf e<=65536/\zLj P e then
     some (.e (.buildSlice len (P.cellsOf e) (repl len z) (parts.toList.map fun p=>(p.1*P.cellsOf e,P.cellsOf e))),parts.toList.map (·.2))else none
   | none=>none
  | _=>none
 | .load t a=>kn P t (some (.l (.load (aggN P t)),[a]))
 | .store t a x=>kn P t (some (.e (.store (P.cellsOf t)),[a,x]))
 | .nilCheck x=>some (.p .nilck,[x])
 | .binOp b t x y _=>match P.underlying t with
  | some (.int _)=>some (.p (.bin b),[x,y])
  | some .string=>some (.p (.bin b),[x,y])
  | some (.pointer e)=>match b with
   | .eql=>if P.cellsOf e=0∨(P.underlying e).isNone then none else some (.l (.peq false),[x,y])
   | .neq=>if P.cellsOf e=0∨(P.underlying e).isNone then none else some (.l (.peq true),[x,y])
   | _=>none
  | _=>match b,eqOf P t with
   | .eql,some e=>some (.p (.eq false e),[x,y])
   | .neq,some e=>some (.p (.eq true e),[x,y])
   | _,_=>none
 | .unOp u _ x=>some (.p (.un u),[x])
 | .convert s t x=>match P.underlying s,P.underlying t with
  | some (.int _),some (.int k)=>some (.p (.toInt k),[x])
  | some (.int _),some .string=>some (.p .runeStr,[x])
  | some .string,some .string=>some (.p .asStr,[x])
  | some .string,some (.slice e)=>if u8T P e/\P.cellsOf e=1 then some (.e .strBytes,[x])else none
  | some (.slice _),some (.slice e)=>if u8T P e/\s=t then some (.e .mark,[x])else none
  | some (.slice e),some .string=>if u8T P e then some (.l .bytesStr,[x])else none
  | _,_=>none
 | .makeInterface t x=>match P.underlying t with
  | some (.interface _)=>none
  | some _=>some (.p (.mkIface t),[x])
  | none=>none
 | .makeFunc (.func f) first captured=>some (.p (.mkFunc f first.size),first.toList++captured.toList)
 | .makeSlice t l c=>match P.underlying t with
  | some (.slice e)=>match zRD P e with
   | some z=>if zLj P e then some (.e (.makeSlice (P.cellsOf e) (P.bytesOf e) z),[l,c])else none
   | none=>none
  | _=>none
 | .slice t x lo hi mx =>
  let args:=x::(lo.toList++hi.toList++mx.toList)
  match P.underlying t with
  | some .string=>if mx.isSome then none else some (.p (.strSlice lo.isSome hi.isSome),args)
  | some (.slice e)=>if mx.isSome && !hi.isSome then none else kn P e (some (.p (.slSlice (P.cellsOf e) lo.isSome hi.isSome mx.isSome),args))
  | some (.array n e)=>if mx.isSome && !hi.isSome then none else kn P e (some (.p (.arrSlice n (P.cellsOf e) lo.isSome hi.isSome mx.isSome),args))
  | some (.pointer a)=>match P.underlying a with
   | some (.array n e)=>if mx.isSome && !hi.isSome then none else kn P e (some (.p (.arrSlice n (P.cellsOf e) lo.isSome hi.isSome mx.isSome),args))
   | _=>none
  | _=>none
 | .fieldAddr t x i=>match P.underlying t with
  | some (.struct fs)=>match fs[i]? with
   | some f=>if P.cellsOf f.type=0 then none else kn P f.type (some (.p (.fieldAddr f.offset),[x]))
   | none=>none
  | _=>none
 | .field t x i=>match P.underlying t with
  | some (.struct fs)=>match fs[i]? with
   | some f=>kn P f.type (some (.p (.field f.offset (P.cellsOf f.type) (aggT P f.type)),[x]))
   | none=>none
  | _=>none
 | .indexAddr t x i=>match P.underlying t with
  | some (.slice e)=>kn P e (some (.p (.slIdx (P.cellsOf e)),[x,i]))
  | some (.array n e)=>kn P e (some (.p (.arrIdx n (P.cellsOf e)),[x,i]))
  | _=>none
 | .index t x i=>match P.underlying t with
  | some .string=>some (.p .strIndex,[x,i])
  | some (.array n e)=>kn P e (some (.p (.arrIndex n (P.cellsOf e) (aggT P e)),[x,i]))
  | _=>none
 | .extract x i=>some (.p (.extract i),[x])
 | .makeMap _ none=>some (.e .mkMap,[])
 | .lookup t x i ok=>match zQa P t with
  | some e=>match zeroV P e with
   | some z=>some (.l (.mlook z ok),[x,i])
   | none=>none
  | none=>none
 | .mapUpdate t m k v=>match zQa P t with
  | some _=>some (.e .mput,[m,k,v])
  | none=>none
 | .mapEntry t m k=>match zQa P t with
  | some e=>match zeroV P e with
   | some z=>some (.e (.mentry z),[m,k])
   | none=>none
  | none=>none
 | .entryStore t m s v=>match zQa P t with
  | some _=>some (.e .mstore,[m,s,v])
  | none=>none
 | .range t x=>match P.underlying t with
  | some .string=>some (.e .range,[x])
  | _=>none
 | .next x true=>some (.e .next,[x])
 | .call c=>match c.callee with
  | .value (.func f)=>if zEp P f then some (.call f,c.args.toList)else none
  | .value f=>some (.callv,f::c.args.toList)
  | .builtin b=>match zJl P b c.argTypes.toList with
   | some o=>some (o,c.args.toList)
   | none=>none
  | .invoke _ _=>none
 | _=>none
def zPA (ops:List Oper):Option (Nat × Bool)->Option (Option (Nat × Bool))
 | none=>some none
 | some (j,w)=>match ops[j]? with
  | some o=>match o.dst with
   | some d=>some (some (d,w))
   | none=>none
  | none=>none
def zRx (nt:Nat)(ops:List Oper)(o:Oper):Option Ins :=
 if o.dst.all (· < nt)then
 match trOp P o.op,zPA ops o.guard with
 | some (op,args),some g=>match zAs (trO P) args with
  | some args=>some ⟨o.dst,g,op,args,none⟩
  | none=>none
 | _,_=>none
 else none
def zQt (o:Oper)(acc:List Nat):Nat :=
 o.after.toList.foldl (fun s e=>if Region.binds .any e then s ||| 2 ^ e.on ||| acc.getD e.on 0 else s) 0
def befs:List Oper->List Nat->List Nat
 | [],acc=>acc
 | o::os,acc=>befs os (acc++[zQt o acc])
def readsOf (i:Ins):List Nat :=
 (i.args.filterMap fun | .t t=>some t | .c _=>none)++(match i.guard with | some (t,_)=>[t] | none=>[])
def parted (bs:List Nat)(f i j:Nat)(x y:Ins):Bool :=
 (match y.dst with
  | some d=>!(readsOf x).contains d || (decide (j<i) && (bs.getD i 0).testBit j) || (decide (i<j) && (bs.getD j 0).testBit i)
  | none=>true) &&
 (match x.dst,y.dst with
  | some d,some e=>d != e
  | _,_=>true) &&
 (!(x.op.eff && y.op.eff && decide (j<i)) || (bs.getD i 0).testBit j || i == f)
def zQx (bs:List Nat)(f:Nat)(is:List Ins):Bool :=
 is.zipIdx.all fun(x,i)=>is.zipIdx.all fun(y,j)=>i == j || parted bs f i j x y
def noId:V->Bool
 | .bool _=>true
 | .int _ _=>true
 | .str _=>true
 | .nilp=>true
 | .nils=>true
 | .nilm=>true
 | .nilf=>true
 | .nili=>true
 | _=>false
def zH5:AOp->Bool
 | .e (.alloc z)=>z.all noId
 | .e .box=>true
 | .e (.buildSlice _ _ z _)=>z.all noId
 | .e .strBytes=>true
 | .e (.makeSlice _ _ z)=>z.all noId
 | _=>false
def floater (bs:List Nat)(is:List Ins):Nat :=
 ((is.zipIdx.find? fun(x,i)=>x.op.eff && is.zipIdx.any fun(y,j)=>y.op.eff && decide (j<i) && !(bs.getD i 0).testBit j).map (·.2)).getD is.length
def touches (ops:List Oper)(f:Nat)(d:Option Tmp)(o:Oper):Bool :=
 (match d with | some d=>(o.looksAt ops.toArray).contains d | none=>false) || o.after.toList.any fun e=>Region.binds .any e && e.on == f
def zSU (ops:List Oper)(bs:List Nat)(f:Nat)(is:List Ins):Bool :=
 match is[f]?,ops[f]? with
 | some x,some o=>x.guard.isNone && zH5 x.op && (ops.zipIdx.all fun(y,j)=>j == f || !touches ops f o.dst y || (bs.getD f 0).testBit j || is.zipIdx.all fun(z,e)=>!(z.op.eff && decide (e<f)) || (bs.getD j 0).testBit e)
 | _,_=>true
def orderOf (nt:Nat)(ops:List Oper):List Nat :=
 match zAs (zRx P nt ops) ops with
 | none=>List.range ops.length
 | some is =>
  let bs:=befs ops []
  match is.zipIdx.find? fun(x,i)=>zH5 x.op && is.zipIdx.any fun(y,j)=>y.op.eff && i != j && !(bs.getD i 0).testBit j && !(bs.getD j 0).testBit i with
  | none=>List.range ops.length
  | some (_,i)=>((List.range ops.length).filter fun j=>j != i && !(bs.getD j 0).testBit i)++i::(List.range ops.length).filter fun j=>j != i && (bs.getD j 0).testBit i
def zSN (J:List Nat)(n i:Nat):Nat:=if i<n then J.idxOf i else i
def permOk (J:List Nat)(n:Nat):Bool:=J.length == n && ((List.range n).all fun i=>J[J.idxOf i]? == some i) && (List.range n).all fun k=>match J[k]? with | some i=>decide (i<n) && J.idxOf i == k | none=>false
def renOp (J:List Nat)(n:Nat)(o:Oper):Oper :=
 { o with after:=o.after.map fun e=>{ e with on:=zSN J n e.on },guard:=o.guard.map fun(j,w)=>(zSN J n j,w) }
def zPR (J:List Nat)(ops:List Oper):List Oper:=J.map fun i=>renOp J ops.length (ops.getD i default)
def reord (nt:Nat)(ops:List Oper):List Oper :=
 let J:=orderOf P nt ops
 if J == List.range ops.length then ops else if permOk J ops.length then zPR J ops else ops
def zQY (ops:List Oper):Bool :=
 ops.zipIdx.all fun(o,i)=>o.after.toList.all fun e=>!Region.binds .any e || decide (e.on<i)
def effs (is:List Ins):List Nat:=(is.zipIdx.filter (·.1.op.eff)).map (·.2)
def rngOf (bs:List Nat)(is:List Ins)(i:Nat)(x:Ins):Option (Nat × Nat) :=
 match x.op with
 | .l _ =>
  let lo:=((effs is).filter fun e=>(bs.getD i 0).testBit e).length
  let hi:=((effs is).filter fun e=>!(bs.getD e 0).testBit i).length
  if lo=hi then none else some (lo,hi)
 | _=>none
def zIH (bs:List Nat)(is:List Ins):List Ins :=
 is.zipIdx.map fun(x,i)=>{ x with rng:=rngOf bs is i x }
def zRj (nt:Nat)(ops:List Oper):Option (List Ins) :=
 match zAs (zRx P nt ops) ops with
 | some is =>
  let bs:=befs ops []
  let f:=floater bs is
  if zQY ops && zQx bs f is && zSU ops bs f is then some (zIH bs is)else none
 | none=>none
def trDrw (nt:Nat)(ops:List Oper):Option (List Ins) :=
 match zRj P nt (reord P nt ops)with
 | some is=>some is
 | none=>zRj P nt ops
def zCd (nt:Nat):Code->C
 | .skip=>.skip
 | .region _ ops true=>match trDrw P nt ops.toList with
  | some is=>.draw is
  | none=>.bad
 | .region _ ops false=>match zAs (zRx P nt ops.toList) ops.toList with
  | some is=>.reg is
  | none=>.bad
 | .seq a b=>.seq (zCd nt a) (zCd nt b)
 | .cond x a b=>match trO P x with
  | some x=>.cond x (zCd nt a) (zCd nt b)
  | none=>.bad
 | .block id c=>.block id (zCd nt c)
 | .loop c=>.loop (zCd nt c)
 | .scope c=>.scope (zCd nt c)
 | .label _=>.skip
 | .exit id=>.exit id
 | .ret=>.ret
 | _=>.bad
def trRes:ResultVar->R
 | .tmp t=>.t t
 | .cell a t=>.cell a (aggN P t)
def resOk:ResultVar->Bool
 | .tmp _=>true
 | .cell _ t=>(P.underlying t).isSome
end
end Go.Am

namespace Go.Am
open Go.RowKit (Below)
abbrev Inj:=Nat->Nat × Nat
mutual
def cv (U:Inj):V->Value
 | .bool b=>.bool b
 | .int k n=>.int k n
 | .str s=>.string ⟨s.toArray⟩
 | .ptr id off=>.pointer (some ⟨(U id).1,(U id).2+off,none⟩)
 | .nilp=>.pointer none
 | .sl id off len lo ex _=>.slice (some ⟨(U id).1,(U id).2+off,none⟩) len (lo+ex.getD 0)
 | .nils=>.slice none 0 0
 | .map id=>.map (some (U id).1)
 | .nilm=>.map none
 | .func f a b=>.func (.func f) (cvl U a).toArray (cvl U b).toArray
 | .nilf=>.nilFunc
 | .iface t v=>.iface t (cv U v)
 | .nili=>.nilIface
 | .agg cs=>.agg (cvl U cs).toArray
 | .tup vs=>.tuple (cvl U vs).toArray
def cvl (U:Inj):List V->List Value
 | []=>[]
 | v::vs=>cv U v::cvl U vs
end
theorem zMf (U:Inj)(l:List V):cvl U l=l.map (cv U):=by
 induction l with
 | nil=>simp[cvl]
 | cons v l ih=>simp[cvl,ih]
mutual
def VOk (H:Heap):V->Prop
 | .ptr id _=>id<H.size
 | .sl id off len lo ex z=>id<H.size/\len<=lo+ex.getD 0/\(ex.isSome=true->off+(lo+ex.getD 0)*z<=H.room? id/\lo+ex.getD 0<9223372036854775808)
 | .map id=>id<H.size
 | .func _ a b=>VsOk H a/\VsOk H b
 | .iface _ v=>VOk H v
 | .agg cs=>VsOk H cs
 | .tup vs=>VsOk H vs
 | _=>True
def VsOk (H:Heap):List V->Prop
 | []=>True
 | v::vs=>VOk H v/\VsOk H vs
end
theorem zw (H:Heap)(l:List V):VsOk H l ↔ ∀ v ∈ l,VOk H v:=by
 induction l with
 | nil=>simp[VsOk]
 | cons v l ih=>simp[VsOk,ih]
structure Evol (H H':Heap):Prop where
 size:H.size<=H'.size
 room:∀ id,id<H.size->H'.room? id=H.room? id
 mem:∀ id cs room fam ver wr pl st,H.blk.get id=some (.mem cs room fam ver wr pl st) ->
  ∃ cs' st',H'.blk.get id=some (.mem cs' room fam ver wr pl st')/\st<=st'/\(st'=st->cs'=cs)
 fams:∀ f fr la,H.fams.get f=some (fr,la)->∃ fr' la',H'.fams.get f=some (fr',la')/\fr<=fr'
theorem Evol.refl (H:Heap):Evol H H :=
 ⟨Nat.le_refl _,fun _ _=>rfl,fun _ cs _ _ _ _ _ st h=>⟨cs,st,h,Nat.le_refl _,fun _=>rfl⟩,fun _ fr la h=>⟨fr,la,h,Nat.le_refl _⟩⟩
theorem Evol.trans {a b c:Heap}(h:Evol a b)(k:Evol b c):Evol a c:=by
 refine⟨Nat.le_trans h.size k.size,fun id hid=>(k.room id (Nat.lt_of_lt_of_le hid h.size)).trans (h.room id hid),?_,?_⟩
 ·intro id cs room fam ver wr pl st hg
  obtain⟨cs1,st1,h1,hle1,he1⟩:=h.mem id cs room fam ver wr pl st hg
  obtain⟨cs2,st2,h2,hle2,he2⟩:=k.mem id cs1 room fam ver wr pl st1 h1
  refine⟨cs2,st2,h2,Nat.le_trans hle1 hle2,fun e=>?_⟩
  have e1:st1=st:=by omega
  have e2:st2=st1:=by omega
  rw[he2 e2,he1 e1]
 ·intro f fr la hg
  obtain⟨fr1,la1,h1,hle1⟩:=h.fams f fr la hg
  obtain⟨fr2,la2,h2,hle2⟩:=k.fams f fr1 la1 h1
  exact⟨fr2,la2,h2,Nat.le_trans hle1 hle2⟩
mutual
theorem VOk.mono {H H':Heap}(h:Evol H H'):∀ v:V,VOk H v->VOk H' v
 | .ptr _ _,hv=>Nat.lt_of_lt_of_le hv h.size
 | .sl id _ _ _ _ _,⟨h1,h2,h3⟩=>⟨Nat.lt_of_lt_of_le h1 h.size,h2,by rw[h.room id h1];exact h3⟩
 | .map _,hv=>Nat.lt_of_lt_of_le hv h.size
 | .func _ a b,⟨ha,hb⟩=>⟨VsOk.mono h a ha,VsOk.mono h b hb⟩
 | .iface _ v,hv=>VOk.mono h v hv
 | .agg cs,hv=>VsOk.mono h cs hv
 | .tup vs,hv=>VsOk.mono h vs hv
 | .bool _,_=>trivial
 | .int _ _,_=>trivial
 | .str _,_=>trivial
 | .nilp,_=>trivial
 | .nils,_=>trivial
 | .nilm,_=>trivial
 | .nilf,_=>trivial
 | .nili,_=>trivial
theorem VsOk.mono {H H':Heap}(h:Evol H H'):∀ l:List V,VsOk H l->VsOk H' l
 | [],_=>trivial
 | v::l,⟨hv,hl⟩=>⟨VOk.mono h v hv,VsOk.mono h l hl⟩
end
mutual
theorem zB9 {U U':Inj}{H:Heap}(h:∀ id,id<H.size->U' id=U id):∀ v:V,VOk H v->cv U' v=cv U v
 | .ptr id _,hv=>by simp only[cv,h id hv]
 | .sl id _ _ _ _ _,⟨h1,_,_⟩=>by simp only[cv,h id h1]
 | .map id,hv=>by simp only[cv,h id hv]
 | .func _ a b,⟨ha,hb⟩=>by simp only[cv,zL1 h a ha,zL1 h b hb]
 | .iface _ v,hv=>by simp only[cv,zB9 h v hv]
 | .agg cs,hv=>by simp only[cv,zL1 h cs hv]
 | .tup vs,hv=>by simp only[cv,zL1 h vs hv]
 | .bool _,_=>rfl
 | .int _ _,_=>rfl
 | .str _,_=>rfl
 | .nilp,_=>rfl
 | .nils,_=>rfl
 | .nilm,_=>rfl
 | .nilf,_=>rfl
 | .nili,_=>rfl
theorem zL1 {U U':Inj}{H:Heap}(h:∀ id,id<H.size->U' id=U id):∀ l:List V,VsOk H l->cvl U' l=cvl U l
 | [],_=>rfl
 | v::l,⟨hv,hl⟩=>by simp only[cvl,zB9 h v hv,zL1 h l hl]
end
def BOk (U:Inj)(base:Nat)(w:World)(id:Nat)(cs:List V)(room:Nat)(wr:Bool):Prop :=
 ∃ c el lo hi,w.heap[(U id).1]?=some (.cells c el (lo,hi))/\(U id).2+room<=c.size /\
  (∀ j v,cs[j]?=some v->c[(U id).2+j]?=some (cv U v))/\(wr=true->base<=(U id).1/\(lo=hi∨c.size<=lo))
def zGF (U:Inj)(es:List (List UInt8 × V × Nat))(ents:List MapEntry):Prop:=ents.map (fun e=>(e.key,e.val,e.born))=es.map fun p=>(Value.string ⟨p.1.toArray⟩,cv U p.2.1,p.2.2)
structure MapR (U:Inj) (es:List (List UInt8 × V × Nat)) (clk:Option Nat) (ents:Array MapEntry) (clock:Nat):Prop where
 stamped:MapKept.Stamped ents clock
 rows:∀ c,clk=some c->clock=c/\zGF U es ents.toList
 keys:clk=none->(ents.toList.map (·.key)).Perm (es.map fun p=>Value.string ⟨p.1.toArray⟩)
theorem zGF.ext {U U':Inj}{H:Heap}{es:List (List UInt8 × V × Nat)}{ents:List MapEntry}(h:zGF U es ents)(he:∀ id,id<H.size->U' id=U id)(hv:∀ p ∈ es,VOk H p.2.1):zGF U' es ents:=by
 unfold zGF at h ⊢
 rw[h]
 apply List.map_congr_left
 intro p hp
 rw[zB9 he p.2.1 (hv p hp)]
theorem MapR.ext {U U':Inj}{H:Heap}{es:List (List UInt8 × V × Nat)}{clk:Option Nat}{ents:Array MapEntry}{clock:Nat}(h:MapR U es clk ents clock)(he:∀ id,id<H.size->U' id=U id)(hv:∀ p ∈ es,VOk H p.2.1):MapR U' es clk ents clock :=
 ⟨h.stamped,fun c hc=>⟨(h.rows c hc).1,(h.rows c hc).2.ext he hv⟩,h.keys⟩
structure Base where
 n:Nat
 gh:List Nat
def Base.Free (b:Base)(k:Nat):Prop:=b.n<=k/\k ∉ b.gh
abbrev baseOf (W:World):Base:=⟨W.heap.size,[]⟩
structure Kpt (base:Base) (w0 w:World):Prop where
 low:Below base.n w0 w
 gh:∀ A ∈ base.gh,A<w.heap.size/\w.heap[A]?=w0.heap[A]?
theorem Kpt.alloc {base:Base}{w0 w:World}(h:Kpt base w0 w)(hb:base.n<=w.heap.size)(o:Obj):Kpt base w0 (w.alloc o) :=
 ⟨h.low.alloc hb o,fun A hA=>by
  obtain⟨h1,h2⟩:=h.gh A hA
  exact⟨by rw[World.size_alloc];omega,by rw[heap_alloc_old _ _ _ h1];exact h2⟩⟩
theorem Kpt.keep {base:Base}{w0 w w':World}(h:Kpt base w0 w)(hn:base.n<=w.heap.size)(hb:Below w.heap.size w w'):Kpt base w0 w' :=
 ⟨h.low.trans (hb.mono hn),fun A hA=>by
  obtain⟨h1,h2⟩:=h.gh A hA
  exact⟨Nat.lt_of_lt_of_le h1 hb.size,by rw[hb.block A h1];exact h2⟩⟩
theorem Kpt.free {base:Base}{w0 w:World}(h:Kpt base w0 w)(hn:base.n<=w.heap.size):base.Free w.heap.size :=
 ⟨hn,fun hA=>Nat.lt_irrefl _ (h.gh _ hA).1⟩
structure MRel (U:Inj) (base:Base) (w0:World) (H:Heap) (w:World):Prop where
 below:Kpt base w0 w
 base_le:base.n<=w.heap.size
 lt:∀ id b,H.blk.get id=some b->id<H.size
 fam:∀ id cs room fam ver wr pl st,H.blk.get id=some (.mem cs room fam ver wr pl st)->fam<H.size/\∃ fr la,H.fams.get fam=some (fr,la)/\ver<=la
 cells:∀ id cs room fam ver wr pl st,H.blk.get id=some (.mem cs room fam ver wr pl st)->cs.length<=room/\VsOk H cs
 ok:∀ id cs room fam ver wr pl st fr la,H.blk.get id=some (.mem cs room fam ver wr pl st)->H.fams.get fam=some (fr,la)->fr<=ver->BOk U base.n w id cs room wr
 sep:∀ i cs room fam ver pl st fr la j cs' room' fam' ver' wr' pl' st' fr' la',
  H.blk.get i=some (.mem cs room fam ver true pl st)->H.fams.get fam=some (fr,la)->fr<=ver ->
  H.blk.get j=some (.mem cs' room' fam' ver' wr' pl' st')->H.fams.get fam'=some (fr',la')->fr'<=ver' ->
  (U i).1=(U j).1->fam=fam'
 ver:∀ i cs room fam ver wr pl st j cs' room' wr' pl' st',H.blk.get i=some (.mem cs room fam ver wr pl st)->H.blk.get j=some (.mem cs' room' fam ver wr' pl' st')->i=j
 iter:∀ id s pos,H.blk.get id=some (.iter s pos)->base.Free (U id).1/\(U id).2=0/\w.heap[(U id).1]?=some (.stringIter ⟨s.toArray⟩ pos)
 famlt:∀ f x,H.fams.get f=some x->f<H.size
 ends:∀ i cs room fam ver wr pl st fr la j cs' room' ver' wr' pl' st',
  H.blk.get i=some (.mem cs room fam ver wr pl st)->H.fams.get fam=some (fr,la)->fr<=ver ->
  H.blk.get j=some (.mem cs' room' fam ver' wr' pl' st')->fr<=ver'->(U i).1=(U j).1->ver<=ver'->(U i).2+cs.length<=(U j).2+cs'.length
 isep:∀ i s p j s' p',H.blk.get i=some (.iter s p)->H.blk.get j=some (.iter s' p')->(U i).1=(U j).1->i=j
 gh:∀ id cs room fam ver wr pl st fr la,H.blk.get id=some (.mem cs room fam ver wr pl st)->H.fams.get fam=some (fr,la)->fr<=ver->(U id).1 ∉ base.gh
 plok:∀ id cs room fam ver wr st fr la,H.blk.get id=some (.mem cs room fam ver wr true st)->H.fams.get fam=some (fr,la)->fr<=ver->wr=true->∃ c el lo,w.heap[(U id).1]?=some (.cells c el (lo,lo))
 plfam:∀ i cs room fam ver wr pl st j cs' room' ver' wr' pl' st',H.blk.get i=some (.mem cs room fam ver wr pl st)->H.blk.get j=some (.mem cs' room' fam ver' wr' pl' st')->pl=pl'
 maps:∀ id es clk,H.blk.get id=some (.mapb es clk)->base.Free (U id).1/\(∃ ents clock,w.heap[(U id).1]?=some (.map ents clock)/\MapR U es clk ents clock)/\∀ p ∈ es,VOk H p.2.1
 msep:∀ i es c j es' c',H.blk.get i=some (.mapb es c)->H.blk.get j=some (.mapb es' c')->(U i).1=(U j).1->i=j
def Ext (H:Heap)(U U':Inj):Prop:=∀ id,id<H.size->U' id=U id
theorem Ext.refl (H:Heap)(U:Inj):Ext H U U:=fun _ _=>rfl
theorem Ext.trans {H H':Heap}{a b c:Inj}(h:Ext H a b)(k:Ext H' b c)(e:H.size<=H'.size):Ext H a c :=
 fun id hid=>(k id (Nat.lt_of_lt_of_le hid e)).trans (h id hid)
def upd (U:Inj)(n:Nat)(x:Nat × Nat):Inj:=fun id=>if id=n then x else U id
theorem upd_same (U:Inj)(n:Nat)(x:Nat × Nat):upd U n x n=x:=by simp[upd]
theorem upd_ne (U:Inj){n id:Nat}(x:Nat × Nat)(h:id≠n):upd U n x id=U id:=by simp[upd,h]
theorem Ext.upd (H:Heap)(U:Inj)(x:Nat × Nat):Ext H U (upd U H.size x):=fun id hid=>upd_ne U x (by omega)
theorem BOk.block_lt {U:Inj}{base:Nat}{w:World}{id:Nat}{cs:List V}{room:Nat}{wr:Bool}(h:BOk U base w id cs room wr):(U id).1<w.heap.size:=by
 obtain⟨c,el,lo,hi,h1,_⟩:=h
 exact(Array.getElem?_eq_some_iff.1 h1).1
theorem BOk.keep {U U':Inj}{base:Nat}{w w':World}{H:Heap}{id:Nat}{cs:List V}{room:Nat}{wr:Bool}(h:BOk U base w id cs room wr)
  (hw:w'.heap[(U id).1]?=w.heap[(U id).1]?) (hU:U' id=U id) (hext:Ext H U U') (hcs:VsOk H cs):BOk U' base w' id cs room wr:=by
 obtain⟨c,el,lo,hi,h1,h2,h3,h4⟩:=h
 refine⟨c,el,lo,hi,by rw[hU,hw];exact h1,by rw[hU];exact h2,fun j v hv=>?_,by rw[hU];exact h4⟩
 rw[hU,zB9 hext v ((zw H cs).1 hcs v (List.mem_of_getElem? hv))]
 exact h3 j v hv
theorem MRel.keep {U:Inj}{base:Base}{w0:World}{H:Heap}{w w':World}(h:MRel U base w0 H w)(hb:Below w.heap.size w w'):MRel U base w0 H w':=by
 have hblk:∀ b,b<w.heap.size->w'.heap[b]?=w.heap[b]?:=hb.block
 refine⟨h.below.keep h.base_le hb,Nat.le_trans h.base_le hb.size,h.lt,h.fam,h.cells,?_,h.sep,h.ver,?_,h.famlt,h.ends,h.isep,h.gh,fun id cs room fam ver wr st fr la h1 h2 h3 h4=>by
   obtain⟨c,el,lo,e⟩:=h.plok _ _ _ _ _ _ _ _ _ h1 h2 h3 h4
   exact⟨c,el,lo,by rw[hblk _ (Array.getElem?_eq_some_iff.1 e).1];exact e⟩,h.plfam,fun id es clk h1=>by
   obtain⟨a,⟨ents,clock,b,c⟩,d⟩:=h.maps id es clk h1
   exact⟨a,⟨ents,clock,by rw[hblk _ (Array.getElem?_eq_some_iff.1 b).1];exact b,c⟩,d⟩,h.msep⟩
 ·intro id cs room fam ver wr pl st fr la h1 h2 h3
  have hk:=h.ok id cs room fam ver wr pl st fr la h1 h2 h3
  exact hk.keep (H:=H) (hblk _ hk.block_lt) rfl (Ext.refl H U) (h.cells _ _ _ _ _ _ _ _ h1).2
 ·intro id s pos h1
  obtain⟨ha,hz,hc⟩:=h.iter id s pos h1
  exact⟨ha,hz,by rw[hblk _ (Array.getElem?_eq_some_iff.1 hc).1];exact hc⟩
theorem MRel.drew {U:Inj}{base:Base}{w0:World}{H:Heap}{w:World}(h:MRel U base w0 H w):MRel U base w0 H w.drew :=
 h.keep ((Below.refl _ _).drew)
theorem za {H:Heap}{cells:List V}{room:Nat}{pl:Bool}{id:Nat}(h:id≠H.size):(H.new cells room pl).blk.get id=H.blk.get id :=
 T.get_set_ne _ _ (Ne.symm h)
theorem zb (H:Heap)(cells:List V)(room:Nat)(pl:Bool):(H.new cells room pl).blk.get H.size=some (.mem cells room H.size 0 true pl 0) :=
 T.get_set_same _ _ _
theorem zDL (H:Heap)(cells:List V)(room:Nat)(pl:Bool)(f:Nat):(H.new cells room pl).fams.get f=if H.size=f then some (0,0)else H.fams.get f :=
 T.get_set _ _ _ _
theorem Evol.new {U:Inj}{base:Base}{w0 w:World}{H:Heap}(h:MRel U base w0 H w)(cells:List V)(room:Nat)(pl:Bool):Evol H (H.new cells room pl):=by
 have hold:∀ id,id<H.size->(H.new cells room pl).blk.get id=H.blk.get id:=fun id hid=>za (by omega)
 refine⟨Nat.le_succ _,fun id hid=>by simp only[Heap.room?,hold id hid],?_,?_⟩
 ·intro id cs r fam ver wr p st hg
  exact⟨cs,st,by rw[hold id (h.lt _ _ hg)];exact hg,Nat.le_refl _,fun _=>rfl⟩
 ·intro f fr la hg
  rw[zDL]
  have hf:=h.famlt f _ hg
  exact⟨fr,la,by rw[if_neg (by omega)];exact hg,Nat.le_refl _⟩
theorem MRel.new {U:Inj}{base:Base}{w0 w:World}{H:Heap}(h:MRel U base w0 H w)(cells:List V)(room:Nat)(pl:Bool)(c:Array Value)(el:TypeId)
  (hvs:VsOk H cells) (hlen:cells.length<=room) (hsz:room<=c.size) (hc:∀ (j:Nat) (v:V),cells[j]?=some v->c[j]?=some (cv U v)) :
  MRel (upd U H.size (w.heap.size,0)) base w0 (H.new cells room pl) (w.alloc (.cells c el)):=by
 have hev:=Evol.new h cells room pl
 have hext:=Ext.upd H U (w.heap.size,0)
 have hheap:∀ b,b<w.heap.size->(w.alloc (.cells c el)).heap[b]?=w.heap[b]?:=fun b hb=>heap_alloc_old _ _ _ hb
 have hheap':(w.alloc (.cells c el)).heap[w.heap.size]?=some (.cells c el (0,0)):=heap_alloc_new _ _
 have part:∀ id cs r fam ver wr p st,(H.new cells room pl).blk.get id=some (.mem cs r fam ver wr p st) ->
   (id=H.size/\cs=cells/\r=room/\fam=H.size/\ver=0/\wr=true)∨(id<H.size/\fam<H.size/\H.blk.get id=some (.mem cs r fam ver wr p st)):=by
  intro id cs r fam ver wr p st hg
  by_cases e:id=H.size
  ·subst e
   rw[zb]at hg
   injection hg with hg
   injection hg with h1 h2 h3 h4 h5 h6 h7
   exact .inl ⟨rfl,h1.symm,h2.symm,h3.symm,h4.symm,h5.symm⟩
  ·rw[za e]at hg
   exact .inr ⟨h.lt _ _ hg,(h.fam _ _ _ _ _ _ _ _ hg).1,hg⟩
 have famOld:∀ f,f<H.size->(H.new cells room pl).fams.get f=H.fams.get f:=fun f hf=>by rw[zDL,if_neg (by omega)]
 have oldBlk:∀ id cs r fam ver wr p st fr la,H.blk.get id=some (.mem cs r fam ver wr p st)->H.fams.get fam=some (fr,la)->fr<=ver->(U id).1<w.heap.size :=
  fun id cs r fam ver wr p st fr la h1 h2 h3=>(h.ok id cs r fam ver wr p st fr la h1 h2 h3).block_lt
 refine⟨h.below.alloc h.base_le _,by rw[World.size_alloc];have:=h.base_le;omega,?_,?_,?_,?_,?_,?_,?_,?_,?_,?_,?_,?_,?_,?_,?_⟩
 ·intro id b hg
  by_cases e:id=H.size
  ·subst e;exact Nat.lt_succ_self _
  ·rw[za e]at hg;exact Nat.lt_succ_of_lt (h.lt _ _ hg)
 ·intro id cs r fam ver wr p st hg
  rcases part _ _ _ _ _ _ _ _ hg with⟨rfl,_,_,rfl,rfl,_⟩ | ⟨_,hf,hg⟩
  ·exact⟨Nat.lt_succ_self _,0,0,by rw[zDL,if_pos rfl],Nat.le_refl _⟩
  ·obtain⟨_,fr,la,h1,h2⟩:=h.fam _ _ _ _ _ _ _ _ hg
   exact⟨Nat.lt_succ_of_lt hf,fr,la,by rw[famOld _ hf];exact h1,h2⟩
 ·intro id cs r fam ver wr p st hg
  rcases part _ _ _ _ _ _ _ _ hg with⟨rfl,rfl,rfl,_⟩ | ⟨_,_,hg⟩
  ·exact⟨hlen,hvs.mono hev⟩
  ·obtain⟨h1,h2⟩:=h.cells _ _ _ _ _ _ _ _ hg
   exact⟨h1,h2.mono hev⟩
 ·intro id cs r fam ver wr p st fr la hg hf hv
  rcases part _ _ _ _ _ _ _ _ hg with⟨rfl,rfl,rfl,_,_,rfl⟩ | ⟨hid,hf',hg⟩
  ·refine⟨c,el,0,0,by rw[upd_same];exact hheap',by rw[upd_same];simpa using hsz,fun j v hv=>?_,fun _=>?_⟩
   ·rw[upd_same,zB9 hext v ((zw H cs).1 hvs v (List.mem_of_getElem? hv))]
    simpa using hc j v hv
   ·rw[upd_same];exact⟨h.base_le,.inl rfl⟩
  ·rw[famOld _ hf']at hf
   have hk:=h.ok _ _ _ _ _ _ _ _ _ _ hg hf hv
   exact hk.keep (hheap _ hk.block_lt) (upd_ne U _ (by omega)) hext (h.cells _ _ _ _ _ _ _ _ hg).2
 ·intro i cs r fam ver p st fr la j cs' r' fam' ver' wr' p' st' fr' la' hi hfi hvi hj hfj hvj he
  rcases part _ _ _ _ _ _ _ _ hi with⟨rfl,_,_,rfl,_⟩ | ⟨hid,hf,hi⟩
  ·rcases part _ _ _ _ _ _ _ _ hj with⟨rfl,_,_,rfl,_⟩ | ⟨hjd,hf',hj⟩
   ·rfl
   ·rw[famOld _ hf']at hfj
    have:=oldBlk _ _ _ _ _ _ _ _ _ _ hj hfj hvj
    rw[upd_same,upd_ne U _ (by omega)]at he
    omega
  ·rw[famOld _ hf]at hfi
   rcases part _ _ _ _ _ _ _ _ hj with⟨rfl,_,_,rfl,_⟩ | ⟨hjd,hf',hj⟩
   ·have:=oldBlk _ _ _ _ _ _ _ _ _ _ hi hfi hvi
    rw[upd_same,upd_ne U _ (by omega)]at he
    omega
   ·rw[famOld _ hf']at hfj
    rw[upd_ne U _ (by omega),upd_ne U _ (by omega)]at he
    exact h.sep _ _ _ _ _ _ _ _ _ _ _ _ _ _ _ _ _ _ _ hi hfi hvi hj hfj hvj he
 ·intro i cs r fam ver wr p st j cs' r' wr' p' st' hi hj
  rcases part _ _ _ _ _ _ _ _ hi with⟨rfl,_,_,rfl,_⟩ | ⟨hid,hf,hi⟩
  ·rcases part _ _ _ _ _ _ _ _ hj with⟨rfl,_⟩ | ⟨_,hf',_⟩
   ·rfl
   ·omega
  ·rcases part _ _ _ _ _ _ _ _ hj with⟨_,_,_,rfl,_⟩ | ⟨_,_,hj⟩
   ·omega
   ·exact h.ver _ _ _ _ _ _ _ _ _ _ _ _ _ _ hi hj
 ·intro id s pos hg
  by_cases e:id=H.size
  ·subst e;rw[zb]at hg;cases hg
  ·rw[za e]at hg
   obtain⟨ha,hz,hb⟩:=h.iter _ _ _ hg
   rw[upd_ne U _ e]
   exact⟨ha,hz,by rw[hheap _ (Array.getElem?_eq_some_iff.1 hb).1];exact hb⟩
 ·intro f x hg
  rw[zDL]at hg
  by_cases e:H.size=f
  ·subst e;exact Nat.lt_succ_self _
  ·rw[if_neg e]at hg;exact Nat.lt_succ_of_lt (h.famlt _ _ hg)
 ·intro i cs r fam ver wr p st fr la j cs' r' ver' wr' p' st' hi hf hvi hj hvj he hle
  rcases part _ _ _ _ _ _ _ _ hi with⟨rfl,rfl,_,rfl,_⟩ | ⟨hid,hf',hi⟩
  ·rcases part _ _ _ _ _ _ _ _ hj with⟨rfl,rfl,_⟩ | ⟨_,hf'',_⟩
   ·exact Nat.le_refl _
   ·omega
  ·rcases part _ _ _ _ _ _ _ _ hj with⟨_,_,_,rfl,_⟩ | ⟨hjd,_,hj⟩
   ·omega
   ·rw[famOld _ hf']at hf
    rw[upd_ne U _ (by omega),upd_ne U _ (by omega)]at he ⊢
    exact h.ends _ _ _ _ _ _ _ _ _ _ _ _ _ _ _ _ _ hi hf hvi hj hvj he hle
 ·intro i s p j s' p' hi hj he
  have hi':i≠H.size:=fun e=>by subst e;rw[zb]at hi;cases hi
  have hj':j≠H.size:=fun e=>by subst e;rw[zb]at hj;cases hj
  rw[za hi']at hi
  rw[za hj']at hj
  rw[upd_ne U _ hi',upd_ne U _ hj']at he
  exact h.isep _ _ _ _ _ _ hi hj he
 ·intro id cs r fam ver wr p st fr la hg hf hv
  rcases part _ _ _ _ _ _ _ _ hg with⟨rfl,_⟩ | ⟨hid,hf',hg⟩
  ·rw[upd_same];exact(h.below.free h.base_le).2
  ·rw[famOld _ hf']at hf
   rw[upd_ne U _ (by omega)]
   exact h.gh _ _ _ _ _ _ _ _ _ _ hg hf hv
 ·intro id cs r fam ver wr st fr la hg hf hv hw
  rcases part _ _ _ _ _ _ _ _ hg with⟨rfl,_⟩ | ⟨hid,hf',hg⟩
  ·rw[upd_same];exact⟨c,el,0,hheap'⟩
  ·rw[famOld _ hf']at hf
   rw[upd_ne U _ (by omega)]
   obtain⟨c',el',lo',e⟩:=h.plok _ _ _ _ _ _ _ _ _ hg hf hv hw
   exact⟨c',el',lo',by rw[hheap _ (Array.getElem?_eq_some_iff.1 e).1];exact e⟩
 ·intro i cs r fam ver wr p st j cs' r' ver' wr' p' st' hi hj
  by_cases ei:i=H.size
  ·subst ei
   rw[zb]at hi
   injection hi with hi
   injection hi with _ _ e3 _ _ e6 _
   by_cases ej:j=H.size
   ·subst ej
    rw[zb]at hj
    injection hj with hj
    injection hj with _ _ _ _ _ e6' _
    rw[<- e6,<- e6']
   ·rw[za ej]at hj
    have:=(h.fam _ _ _ _ _ _ _ _ hj).1
    omega
  ·rw[za ei]at hi
   by_cases ej:j=H.size
   ·subst ej
    rw[zb]at hj
    injection hj with hj
    injection hj with _ _ e3 _ _ _ _
    have:=(h.fam _ _ _ _ _ _ _ _ hi).1
    omega
   ·rw[za ej]at hj
    exact h.plfam _ _ _ _ _ _ _ _ _ _ _ _ _ _ _ hi hj
 ·intro id es clk hg
  by_cases e:id=H.size
  ·subst e;rw[zb]at hg;cases hg
  ·rw[za e]at hg
   obtain⟨a,⟨ents,clock,b,k⟩,d⟩:=h.maps _ _ _ hg
   rw[upd_ne U _ e]
   exact⟨a,⟨ents,clock,by rw[hheap _ (Array.getElem?_eq_some_iff.1 b).1];exact b,k.ext (H:=H) hext d⟩,fun p hp=>(d p hp).mono hev⟩
 ·intro i es c1 j es' c2 hi hj he
  have hi':i≠H.size:=fun e=>by subst e;rw[zb]at hi;cases hi
  have hj':j≠H.size:=fun e=>by subst e;rw[zb]at hj;cases hj
  rw[za hi']at hi
  rw[za hj']at hj
  rw[upd_ne U _ hi',upd_ne U _ hj']at he
  exact h.msep _ _ _ _ _ _ hi hj he
end Go.Am

namespace Go.Am
open Go.RowKit (Below)
def zND:Array Value->Nat->List Value->Array Value
 | c,_,[]=>c
 | c,k,v::vs=>zND (c.setIfInBounds k v) (k+1) vs
theorem zH3 (vs:List Value):∀ (c:Array Value) (k:Nat),(zND c k vs).size=c.size:=by
 induction vs with
 | nil=>intro c k;rfl
 | cons v vs ih=>intro c k;simp[zND,ih]
theorem zJt (vs:List Value):∀ (c:Array Value) (k j:Nat),(j<k∨k+vs.length<=j)->(zND c k vs)[j]?=c[j]?:=by
 induction vs with
 | nil=>intro c k j _;rfl
 | cons v vs ih =>
  intro c k j h
  simp only[List.length_cons]at h
  rw[zND,ih _ _ _ (by omega),Array.getElem?_setIfInBounds_ne (by omega)]
theorem zR1 (vs:List Value):∀ (c:Array Value) (k j:Nat),k<=j->j<k+vs.length->k+vs.length<=c.size->(zND c k vs)[j]?=vs[j-k]?:=by
 induction vs with
 | nil=>intro c k j h1 h2;simp at h2;omega
 | cons v vs ih =>
  intro c k j h1 h2 h3
  simp only[List.length_cons]at h2 h3
  by_cases e:j=k
  ·subst e
   have hlt:j<c.size:=by omega
   rw[zND,zJt _ _ _ _ (by omega)]
   simp[hlt]
  ·rw[zND,ih _ _ _ (by omega) (by omega) (by simpa using by omega)]
   have:j-k=(j-(k+1))+1:=by omega
   rw[this,List.getElem?_cons_succ]
def zBL (w:World)(b:Nat)(o:Obj):World:={ w with heap:=w.heap.setIfInBounds b o }
theorem zCo (w:World)(b:Nat)(o:Obj)(h:b<w.heap.size):(zBL w b o).heap[b]?=some o:=by simp[zBL,h]
theorem zAh (w:World){b k:Nat}(o:Obj)(h:b≠k):(zBL w b o).heap[k]?=w.heap[k]?:=by simp[zBL,Array.getElem?_setIfInBounds_ne h]
theorem zFD (w:World)(b:Nat)(o:Obj):(zBL w b o).heap.size=w.heap.size:=by simp[zBL]
theorem zR0 (w:World)(b:Nat)(o o':Obj):zBL (zBL w b o) b o'=zBL w b o':=by
 have:(w.heap.setIfInBounds b o).setIfInBounds b o'=w.heap.setIfInBounds b o':=by
  apply Array.ext_getElem?
  intro i
  simp only[Array.getElem?_setIfInBounds,Array.size_setIfInBounds]
  split <;> simp_all
 simp only[zBL,this]
theorem setBlk_self (w:World)(b:Nat)(o:Obj)(h:w.heap[b]?=some o):zBL w b o=w:=by
 have:w.heap.setIfInBounds b o=w.heap:=by
  apply Array.ext_getElem?
  intro i
  have hlt:b<w.heap.size:=(Array.getElem?_eq_some_iff.1 h).1
  by_cases e:b=i
  ·subst e;rw[h];simp[hlt]
  ·rw[Array.getElem?_setIfInBounds_ne e]
 simp only[zBL,this]
theorem zRz {B:Nat}{a w:World}(h:Below B a w){b:Nat}(hb:B<=b)(o:Obj):Below B a (zBL w b o) :=
 h.trans ⟨rfl,rfl,rfl,by rw[zFD];exact Nat.le_refl _,fun k hk=>zAh w o (by omega)⟩
theorem zHB {B:Base}{a w:World}(h:Kpt B a w){b:Nat}(hb:B.Free b)(o:Obj):Kpt B a (zBL w b o) :=
 ⟨zRz h.low hb.1 o,fun A hA=>by
  obtain⟨h1,h2⟩:=h.gh A hA
  exact⟨by rw[zFD];exact h1,by rw[zAh _ _ (fun e=>hb.2 (by rw[e];exact hA))];exact h2⟩⟩
theorem setCell_eq (w:World)(b k:Nat)(v:Value)(c:Array Value)(el:TypeId)(fz:Nat × Nat)(h:w.heap[b]?=some (.cells c el fz)) :
  w.setCell ⟨b,k,none⟩ v=zBL w b (.cells (c.setIfInBounds k v) el fz):=by
 have:(w.heap.modify b fun
   | .cells c elem frozen=>.cells (c.setIfInBounds k v) elem frozen
   | o=>o)=w.heap.setIfInBounds b (.cells (c.setIfInBounds k v) el fz):=by
  apply Array.ext_getElem?
  intro i
  have hlt:b<w.heap.size:=(Array.getElem?_eq_some_iff.1 h).1
  by_cases e:b=i
  ·subst e;rw[Array.getElem?_modify,if_pos rfl,h];simp[hlt]
  ·rw[Array.getElem?_setIfInBounds_ne e,Array.getElem?_modify,if_neg e]
 exact congrArg (fun x=>({ w with heap:=x }:World)) this
theorem zGn (b o i:Nat):Addr.add ⟨b,o,none⟩ i=⟨b,o+i,none⟩:=by
 unfold Addr.add
 split
 ·rename_i e;subst e;rfl
 ·rfl
theorem zIs (P:Program)(b o:Nat)(el:TypeId)(lo hi:Nat):∀ (vs:List Value) (i:Nat) (c:Array Value) (w:World),
  w.heap[b]?=some (.cells c el (lo,hi))->o+i+vs.length<=c.size->(lo=hi∨c.size<=lo)->(∀ v ∈ vs,v.oneCell'=true) ->
  (storeCells ⟨b,o,none⟩ vs i).run P w=.ok () (zBL w b (.cells (zND c (o+i) vs) el (lo,hi))):=by
 intro vs
 induction vs with
 | nil =>
  intro i c w hw _ _ _
  rw[zND,setBlk_self _ _ _ hw]
  rfl
 | cons v vs ih =>
  intro i c w hw hsz hfz hv
  simp only[List.length_cons]at hsz
  have hcell:w.cell? ⟨b,o+i,none⟩=some (c[o+i]'(by omega)):=by
   rw[cell_of_row w b (o+i) c el (lo,hi) hw,Array.getElem?_eq_getElem (by omega)]
  have hfr:w.frozen? ⟨b,o+i,none⟩=false:=by
   simp only[World.frozen?,hw]
   rcases hfz with h | h
   ·subst h;simp
   ·simp;omega
  have hone:v.oneCell'=true:=hv v (by simp)
  rw[storeCells,zGn]
  simp only[Sem.run_bind]
  rw[show(store ⟨b,o+i,none⟩ v).run P w=.ok () (w.setCell ⟨b,o+i,none⟩ v)from by
   rw[run_store P w _ v _ hone];simp[hcell,hfr]]
  simp only[Result.andThen_ok]
  rw[setCell_eq w b (o+i) v c el (lo,hi) hw]
  have hlt:b<w.heap.size:=(Array.getElem?_eq_some_iff.1 hw).1
  rw[ih (i+1) (c.setIfInBounds (o+i) v) _ (zCo _ _ _ hlt) (by simpa using by omega) (by simpa using hfz) (fun x hx=>hv x (by simp[hx])),zR0]
  rfl
theorem over_spec:∀ (off room:Nat) (vs cs cs':List V),vs≠[]->cs.length<=room->over room off vs cs=some cs' ->
  off<=cs.length/\off+vs.length<=cs'.length/\cs.length<=cs'.length/\cs'.length<=room/\cs'.length<=max cs.length (off+vs.length) /\
  ∀ j,cs'[j]?=if off<=j/\j<off+vs.length then vs[j-off]? else cs[j]?:=by
 intro off
 induction off with
 | zero =>
  intro room vs
  induction vs generalizing room with
  | nil=>intro cs cs' h;exact absurd rfl h
  | cons v vs ih =>
   intro cs cs' _ hl h
   cases cs with
   | nil =>
    simp only[over]at h
    cases hb:Nat.ble (v::vs).length room with
    | false=>rw[hb]at h;cases h
    | true =>
     rw[hb]at h
     injection h with h
     subst h
     have hb':=Nat.le_of_ble_eq_true hb
     refine⟨by simp,by simp,by simp,hb',by simp,fun j=>?_⟩
     by_cases hj:j<(v::vs).length
     ·rw[if_pos ⟨Nat.zero_le _,by omega⟩];rfl
     ·rw[if_neg (by omega),List.getElem?_eq_none (by omega)];rfl
   | cons c cs =>
    simp only[over]at h
    cases hr:over (room-1) 0 vs cs with
    | none=>rw[hr]at h;cases h
    | some r =>
     rw[hr]at h
     injection h with h
     subst h
     simp only[List.length_cons]at hl
     cases vs with
     | nil =>
      have hr':r=cs:=by
       simp only[over]at hr
       exact(Option.some.inj hr).symm
      subst hr'
      refine⟨by simp,by simp,by simp,by simpa using hl,by simp,fun j=>?_⟩
      cases j with
      | zero=>simp
      | succ j=>simp
     | cons u us =>
      obtain⟨h1,h2,h3,h4,h5,h6⟩:=ih (room-1) cs r (by simp) (by omega) hr
      simp only[List.length_cons]at h2 h4 h5 ⊢
      refine⟨by omega,by omega,by omega,by omega,by omega,fun j=>?_⟩
      cases j with
      | zero=>simp
      | succ j =>
       rw[List.getElem?_cons_succ,h6 j]
       simp only[List.length_cons,Nat.zero_le,true_and,Nat.sub_zero,Nat.zero_add]
       by_cases e:j<us.length+1
       ·rw[if_pos e,if_pos (by omega)];simp
       ·rw[if_neg e,if_neg (by omega)];simp
 | succ off ih =>
  intro room vs cs cs' hv hl h
  cases vs with
  | nil=>exact absurd rfl hv
  | cons v vs =>
   cases cs with
   | nil=>simp only[over]at h;cases h
   | cons c cs =>
    simp only[over]at h
    cases hr:over (room-1) off (v::vs) cs with
    | none=>rw[hr]at h;cases h
    | some r =>
     rw[hr]at h
     injection h with h
     subst h
     simp only[List.length_cons]at hl
     obtain⟨h1,h2,h3,h4,h5,h6⟩:=ih (room-1) (v::vs) cs r (by simp) (by omega) hr
     simp only[List.length_cons]at h1 h2 h4 h5 ⊢
     refine⟨by omega,by omega,by omega,by omega,by omega,fun j=>?_⟩
     cases j with
     | zero=>simp
     | succ j =>
      rw[List.getElem?_cons_succ,h6 j]
      simp only[List.length_cons]
      by_cases e:off<=j/\j<off+(vs.length+1)
      ·rw[if_pos e,if_pos (by omega)]
       have:j+1-(off+1)=j-off:=by omega
       rw[this]
      ·rw[if_neg e,if_neg (by omega)];simp
theorem zy (U:Inj)(l:List V):(cvl U l).length=l.length:=by rw[zMf];simp
theorem zFy (U:Inj)(l:List V)(j:Nat):(cvl U l)[j]?=(l[j]?).map (cv U):=by rw[zMf];simp
theorem zPh (U:Inj)(v:V)(h:v.scal=true):(cv U v).oneCell'=true:=by
 cases v <;> simp_all [V.scal,cv,Value.oneCell']
theorem write_inv {H H':Heap}{id:Nat}{f:List V->Option (List V)}(h:H.write id f=some H') :
  ∃ cs room fam ver pl st fr cs',H.blk.get id=some (.mem cs room fam ver true pl st)/\H.fams.get fam=some (fr,ver)/\fr<=ver/\f cs=some cs' /\
   H'={ size:=H.size,blk:=H.blk.s id (.mem cs' room fam ver true pl (st+1)),fams:=H.fams.s fam (ver,ver) }:=by
 unfold Heap.write at h
 split at h
 ·rename_i cs room fam ver pl st hb
  split at h
  ·rename_i x last hf
   cases hv:(Nat.beq ver last && Nat.ble x ver)with
   | false=>rw[hv]at h;cases h
   | true =>
    rw[hv]at h
    simp only[Bool.and_eq_true]at hv
    have h1:=Nat.eq_of_beq_eq_true hv.1
    have h2:=Nat.le_of_ble_eq_true hv.2
    subst h1
    cases hcs:f cs with
    | none=>simp[hcs]at h
    | some cs' =>
     simp only[hcs,cond_true,Option.some.injEq]at h
     exact⟨cs,room,fam,ver,pl,st,x,cs',hb,hf,h2,hcs,h.symm⟩
  ·cases h
 ·cases h
theorem MRel.write {U:Inj}{base:Base}{w0 w:World}{H:Heap}(h:MRel U base w0 H w){id:Nat}{cs:List V}{room fam ver:Nat}{pl:Bool}{st fr:Nat}
  (hg:H.blk.get id=some (.mem cs room fam ver true pl st)) (hf:H.fams.get fam=some (fr,ver)) (hle:fr<=ver) (off:Nat) (vs cs':List V) (hne:vs≠[])
  (hov:over room off vs cs=some cs') (hvs:VsOk H vs) :
  ∃ c el lo hi,w.heap[(U id).1]?=some (.cells c el (lo,hi))/\(U id).2+off+vs.length<=c.size/\(lo=hi∨c.size<=lo) /\
   let H':Heap:={ size:=H.size,blk:=H.blk.s id (.mem cs' room fam ver true pl (st+1)),fams:=H.fams.s fam (ver,ver) }
   MRel U base w0 H' (zBL w (U id).1 (.cells (zND c ((U id).2+off) (cvl U vs)) el (lo,hi)))/\Evol H H':=by
 obtain⟨c,el,lo,up,h1,h2,h3,h4⟩:=h.ok _ _ _ _ _ _ _ _ _ _ hg hf hle
 obtain⟨hlen,hcs⟩:=h.cells _ _ _ _ _ _ _ _ hg
 obtain⟨o1,o2,o3,o4,o5,o6⟩:=over_spec off room vs cs cs' hne hlen hov
 obtain⟨hb,hfz⟩:=h4 rfl
 have hlt:(U id).1<w.heap.size:=(Array.getElem?_eq_some_iff.1 h1).1
 have hfl:=(h.fam _ _ _ _ _ _ _ _ hg).1
 refine⟨c,el,lo,up,h1,by omega,hfz,?_,?_⟩
 case refine_2 =>
  refine⟨Nat.le_refl _,fun i hi=>?_,?_,?_⟩
  ·by_cases e:id=i
   ·subst e;simp only[Heap.room?,T.get_set_same,hg]
   ·simp only[Heap.room?,T.get_set_ne _ _ e]
  ·intro i cs1 r1 f1 v1 w1 p1 s1 hi
   by_cases e:id=i
   ·subst e
    rw[hg]at hi
    injection hi with hi
    injection hi with e1 e2 e3 e4 e5 e6 e7
    subst e1 e2 e3 e4 e5 e6 e7
    exact⟨cs',st+1,T.get_set_same _ _ _,Nat.le_succ _,fun e=>by omega⟩
   ·exact⟨cs1,s1,by rw[T.get_set_ne _ _ e];exact hi,Nat.le_refl _,fun _=>rfl⟩
  ·intro f fr1 la1 hi
   by_cases e:fam=f
   ·subst e
    rw[hf]at hi
    injection hi with hi
    injection hi with e1 e2
    subst e1 e2
    exact⟨ver,ver,T.get_set_same _ _ _,hle⟩
   ·exact⟨fr1,la1,by rw[T.get_set_ne _ _ e];exact hi,Nat.le_refl _⟩
 have part:∀ i cs1 r1 f1 v1 w1 p1 s1,(H.blk.s id (.mem cs' room fam ver true pl (st+1))).get i=some (.mem cs1 r1 f1 v1 w1 p1 s1) ->
   (i=id/\cs1=cs'/\r1=room/\f1=fam/\v1=ver/\w1=true)∨(i≠id/\H.blk.get i=some (.mem cs1 r1 f1 v1 w1 p1 s1)):=by
  intro i cs1 r1 f1 v1 w1 p1 s1 hi
  by_cases e:id=i
  ·subst e
   rw[T.get_set_same]at hi
   injection hi with hi
   injection hi with e1 e2 e3 e4 e5 e6 e7
   exact .inl ⟨rfl,e1.symm,e2.symm,e3.symm,e4.symm,e5.symm⟩
  ·rw[T.get_set_ne _ _ e]at hi;exact .inr ⟨Ne.symm e,hi⟩
 have famv:∀ i cs1 r1 v1 w1 p1 s1,H.blk.get i=some (.mem cs1 r1 fam v1 w1 p1 s1)->i≠id->v1<ver:=by
  intro i cs1 r1 v1 w1 p1 s1 hi hne
  obtain⟨_,fr1,la1,hf1,hle1⟩:=h.fam _ _ _ _ _ _ _ _ hi
  rw[hf]at hf1
  injection hf1 with hf1
  injection hf1 with e1 e2
  subst e2
  rcases Nat.lt_or_ge v1 ver with hh | hh
  ·exact hh
  ·have:v1=ver:=by omega
   subst this
   exact absurd (h.ver _ _ _ _ _ _ _ _ _ _ _ _ _ _ hi hg) hne
 have famGet:∀ f fr1 la1,(H.fams.s fam (ver,ver)).get f=some (fr1,la1)->(f=fam/\fr1=ver/\la1=ver)∨(f≠fam/\H.fams.get f=some (fr1,la1)):=by
  intro f fr1 la1 hh
  by_cases e:fam=f
  ·subst e
   rw[T.get_set_same]at hh
   injection hh with hh
   injection hh with e1 e2
   exact .inl ⟨rfl,e1.symm,e2.symm⟩
  ·rw[T.get_set_ne _ _ e]at hh;exact .inr ⟨Ne.symm e,hh⟩
 have same:∀ (vs:List V),VsOk H vs->VsOk { size:=H.size,blk:=H.blk.s id (.mem cs' room fam ver true pl (st+1)),fams:=H.fams.s fam (ver,ver) } vs:=by
  intro l hl
  refine VsOk.mono ?_ l hl
  refine⟨Nat.le_refl _,fun i hi=>?_,?_,?_⟩
  ·by_cases e:id=i
   ·subst e;simp only[Heap.room?,T.get_set_same,hg]
   ·simp only[Heap.room?,T.get_set_ne _ _ e]
  ·intro i cs1 r1 f1 v1 w1 p1 s1 hi
   by_cases e:id=i
   ·subst e
    rw[hg]at hi
    injection hi with hi
    injection hi with e1 e2 e3 e4 e5 e6 e7
    subst e1 e2 e3 e4 e5 e6 e7
    exact⟨cs',st+1,T.get_set_same _ _ _,Nat.le_succ _,fun e=>by omega⟩
   ·exact⟨cs1,s1,by rw[T.get_set_ne _ _ e];exact hi,Nat.le_refl _,fun _=>rfl⟩
  ·intro f fr1 la1 hi
   by_cases e:fam=f
   ·subst e
    rw[hf]at hi
    injection hi with hi
    injection hi with e1 e2
    subst e1 e2
    exact⟨ver,ver,T.get_set_same _ _ _,hle⟩
   ·exact⟨fr1,la1,by rw[T.get_set_ne _ _ e];exact hi,Nat.le_refl _⟩
 have hcs':VsOk H cs':=by
  rw[zw]
  intro v hv
  obtain⟨j,hj⟩:=List.mem_iff_getElem?.1 hv
  rw[o6]at hj
  split at hj
  ·exact(zw H vs).1 hvs v (List.mem_of_getElem? hj)
  ·exact(zw H cs).1 hcs v (List.mem_of_getElem? hj)
 refine⟨zHB h.below ⟨hb,h.gh _ _ _ _ _ _ _ _ _ _ hg hf hle⟩ _,by rw[zFD];exact h.base_le,?_,?_,?_,?_,?_,?_,?_,?_,?_,?_,?_,?_,?_,?_,?_⟩
 ·intro i b hi
  by_cases e:id=i
  ·subst e;exact h.lt _ _ hg
  ·rw[T.get_set_ne _ _ e]at hi;exact h.lt _ _ hi
 ·intro i cs1 r1 f1 v1 w1 p1 s1 hi
  rcases part _ _ _ _ _ _ _ _ hi with⟨rfl,_,_,rfl,rfl,_⟩ | ⟨_,ki⟩
  ·exact⟨hfl,v1,v1,T.get_set_same _ _ _,Nat.le_refl _⟩
  ·obtain⟨a1,fr1,la1,a2,a3⟩:=h.fam _ _ _ _ _ _ _ _ ki
   refine⟨a1,?_⟩
   by_cases e:fam=f1
   ·subst e
    rw[hf]at a2
    injection a2 with a2
    injection a2 with e1 e2
    subst e2
    exact⟨ver,ver,T.get_set_same _ _ _,a3⟩
   ·exact⟨fr1,la1,by rw[T.get_set_ne _ _ e];exact a2,a3⟩
 ·intro i cs1 r1 f1 v1 w1 p1 s1 hi
  rcases part _ _ _ _ _ _ _ _ hi with⟨rfl,rfl,rfl,_⟩ | ⟨_,ki⟩
  ·exact⟨o4,same _ hcs'⟩
  ·obtain⟨a1,a2⟩:=h.cells _ _ _ _ _ _ _ _ ki
   exact⟨a1,same _ a2⟩
 ·intro i cs1 r1 f1 v1 w1 p1 s1 fr1 la1 hi hf1 hv1
  rcases part _ _ _ _ _ _ _ _ hi with⟨rfl,rfl,rfl,rfl,rfl,rfl⟩ | ⟨hne',ki⟩
  ·refine⟨_,el,lo,up,zCo _ _ _ hlt,by rw[zH3];exact h2,fun j v hv=>?_,fun _=>⟨hb,by rw[zH3];exact hfz⟩⟩
   rw[o6]at hv
   split at hv
   ·rename_i kj
    rw[zR1 _ _ _ _ (by omega) (by rw[zy];omega) (by rw[zy];omega),zFy]
    have:(U i).2+j-((U i).2+off)=j-off:=by omega
    rw[this,hv];rfl
   ·rename_i kj
    rw[zJt _ _ _ _ (by rw[zy];omega)]
    exact h3 j v hv
  ·rcases famGet _ _ _ hf1 with⟨rfl,rfl,rfl⟩ | ⟨hne2,hf1⟩
   ·have:=famv _ _ _ _ _ _ _ ki hne';omega
   ·have hk:=h.ok _ _ _ _ _ _ _ _ _ _ ki hf1 hv1
    have hb2:(U id).1≠(U i).1:=fun e=>hne2 (h.sep _ _ _ _ _ _ _ _ _ _ _ _ _ _ _ _ _ _ _ hg hf hle ki hf1 hv1 e).symm
    exact hk.keep (H:=H) (zAh w _ hb2) rfl (Ext.refl H U) (h.cells _ _ _ _ _ _ _ _ ki).2
 ·intro i cs1 r1 f1 v1 p1 s1 fr1 la1 j cs2 r2 f2 v2 w2 p2 s2 fr2 la2 hi hfi hvi hj hfj hvj he
  rcases part _ _ _ _ _ _ _ _ hi with⟨rfl,_,_,rfl,rfl,_⟩ | ⟨hni,ki⟩
  ·rcases part _ _ _ _ _ _ _ _ hj with⟨rfl,_,_,rfl,_⟩ | ⟨hnj,kj⟩
   ·rfl
   ·rcases famGet _ _ _ hfj with⟨rfl,_⟩ | ⟨_,kfj⟩
    ·rfl
    ·exact h.sep _ _ _ _ _ _ _ _ _ _ _ _ _ _ _ _ _ _ _ hg hf hle kj kfj hvj he
  ·rcases famGet _ _ _ hfi with⟨rfl,rfl,rfl⟩ | ⟨hn1,kfi⟩
   ·have:=famv _ _ _ _ _ _ _ ki hni;omega
   ·rcases part _ _ _ _ _ _ _ _ hj with⟨rfl,_,_,rfl,_⟩ | ⟨hnj,kj⟩
    ·exact h.sep _ _ _ _ _ _ _ _ _ _ _ _ _ _ _ _ _ _ _ ki kfi hvi hg hf hle he
    ·rcases famGet _ _ _ hfj with⟨rfl,rfl,rfl⟩ | ⟨_,kfj⟩
     ·have:=famv _ _ _ _ _ _ _ kj hnj;omega
     ·exact h.sep _ _ _ _ _ _ _ _ _ _ _ _ _ _ _ _ _ _ _ ki kfi hvi kj kfj hvj he
 ·intro i cs1 r1 f1 v1 w1 p1 s1 j cs2 r2 w2 p2 s2 hi hj
  rcases part _ _ _ _ _ _ _ _ hi with⟨rfl,_,_,rfl,rfl,_⟩ | ⟨hni,ki⟩
  ·rcases part _ _ _ _ _ _ _ _ hj with⟨rfl,_⟩ | ⟨hnj,kj⟩
   ·rfl
   ·exact h.ver _ _ _ _ _ _ _ _ _ _ _ _ _ _ hg kj
  ·rcases part _ _ _ _ _ _ _ _ hj with⟨rfl,_,_,rfl,rfl,_⟩ | ⟨hnj,kj⟩
   ·exact h.ver _ _ _ _ _ _ _ _ _ _ _ _ _ _ ki hg
   ·exact h.ver _ _ _ _ _ _ _ _ _ _ _ _ _ _ ki kj
 ·intro i s pos hi
  have hni:id≠i:=fun e=>by subst e;rw[T.get_set_same]at hi;cases hi
  rw[T.get_set_ne _ _ hni]at hi
  obtain⟨a1,az,a2⟩:=h.iter _ _ _ hi
  refine⟨a1,az,?_⟩
  have:(U id).1≠(U i).1:=fun e=>by rw[<- e,h1]at a2;cases a2
  rw[zAh _ _ this];exact a2
 ·intro f x hh
  by_cases e:fam=f
  ·subst e;exact hfl
  ·rw[T.get_set_ne _ _ e]at hh;exact h.famlt _ _ hh
 ·intro i cs1 r1 f1 v1 w1 p1 s1 fr1 la1 j cs2 r2 v2 w2 p2 s2 hi hfi hvi hj hvj he hlev
  rcases famGet _ _ _ hfi with⟨rfl,rfl,rfl⟩ | ⟨hn1,kfi⟩
  ·rcases part _ _ _ _ _ _ _ _ hi with⟨rfl,rfl,_⟩ | ⟨hni,ki⟩
   ·rcases part _ _ _ _ _ _ _ _ hj with⟨rfl,rfl,_⟩ | ⟨hnj,kj⟩
    ·exact Nat.le_refl _
    ·have:=famv _ _ _ _ _ _ _ kj hnj;omega
   ·have:=famv _ _ _ _ _ _ _ ki hni;omega
  ·rcases part _ _ _ _ _ _ _ _ hi with⟨_,_,_,rfl,_⟩ | ⟨hni,ki⟩
   ·exact absurd rfl hn1
   ·rcases part _ _ _ _ _ _ _ _ hj with⟨_,_,_,rfl,_⟩ | ⟨hnj,kj⟩
    ·exact absurd rfl hn1
    ·exact h.ends _ _ _ _ _ _ _ _ _ _ _ _ _ _ _ _ _ ki kfi hvi kj hvj he hlev
 ·intro i s p j s' p' hi hj he
  have hni:id≠i:=fun e=>by subst e;rw[T.get_set_same]at hi;cases hi
  have hnj:id≠j:=fun e=>by subst e;rw[T.get_set_same]at hj;cases hj
  rw[T.get_set_ne _ _ hni]at hi
  rw[T.get_set_ne _ _ hnj]at hj
  exact h.isep _ _ _ _ _ _ hi hj he
 ·intro i cs1 r1 f1 v1 w1 p1 s1 fr1 la1 hi hf1 hv1
  rcases part _ _ _ _ _ _ _ _ hi with⟨rfl,rfl,rfl,rfl,rfl,rfl⟩ | ⟨hne',ki⟩
  ·exact h.gh _ _ _ _ _ _ _ _ _ _ hg hf hle
  ·rcases famGet _ _ _ hf1 with⟨rfl,rfl,rfl⟩ | ⟨hne2,hf1⟩
   ·have:=famv _ _ _ _ _ _ _ ki hne';omega
   ·exact h.gh _ _ _ _ _ _ _ _ _ _ ki hf1 hv1
 ·intro i cs1 r1 f1 v1 w1 s1 fr1 la1 hi hf1 hv1 hw1
  have key:∃ c' el' lo',w.heap[(U i).1]?=some (.cells c' el' (lo',lo')):=by
   by_cases ei:id=i
   ·subst ei
    have e:=hi
    rw[T.get_set_same]at e
    injection e with e
    injection e with _ _ e3 e4 _ e6 _
    subst e3 e4 e6
    exact h.plok _ _ _ _ _ _ _ _ _ hg hf hle rfl
   ·rcases part _ _ _ _ _ _ _ _ hi with⟨rfl,_⟩ | ⟨hne',ki⟩
    ·exact absurd rfl ei
    ·rcases famGet _ _ _ hf1 with⟨rfl,rfl,rfl⟩ | ⟨hne2,hf1⟩
     ·have:=famv _ _ _ _ _ _ _ ki hne';omega
     ·exact h.plok _ _ _ _ _ _ _ _ _ ki hf1 hv1 hw1
  obtain⟨c',el',lo',e⟩:=key
  by_cases hne:(U id).1=(U i).1
  ·rw[<- hne,h1]at e
   injection e with e
   injection e with e1 e2 e3
   injection e3 with e3 e4
   subst e3 e4
   exact⟨_,_,_,by rw[<- hne];exact zCo _ _ _ hlt⟩
  ·exact⟨c',el',lo',by rw[zAh _ _ hne];exact e⟩
 ·intro i cs1 r1 f1 v1 w1 p1 s1 j cs2 r2 v2 w2 p2 s2 hi hj
  have key:∀ {i cs1 r1 f1 v1 w1 p1 s1},(H.blk.s id (.mem cs' room fam ver true pl (st+1))).get i=some (.mem cs1 r1 f1 v1 w1 p1 s1)->∃ i2 cs2 r2 v2 w2 s2,H.blk.get i2=some (.mem cs2 r2 f1 v2 w2 p1 s2):=by
   intro i cs1 r1 f1 v1 w1 p1 s1 hi
   by_cases ei:id=i
   ·subst ei
    rw[T.get_set_same]at hi
    injection hi with hi
    injection hi with _ _ e3 _ _ e6 _
    subst e3 e6
    exact⟨_,_,_,_,_,_,hg⟩
   ·rw[T.get_set_ne _ _ ei]at hi
    exact⟨_,_,_,_,_,_,hi⟩
  obtain⟨_,_,_,_,_,_,ki⟩:=key hi
  obtain⟨_,_,_,_,_,_,kj⟩:=key hj
  exact h.plfam _ _ _ _ _ _ _ _ _ _ _ _ _ _ _ ki kj
 ·intro i es clk hi
  have hni:id≠i:=fun e=>by subst e;rw[T.get_set_same]at hi;cases hi
  rw[T.get_set_ne _ _ hni]at hi
  obtain⟨a1,⟨ents,clock,a2,a3⟩,a4⟩:=h.maps _ _ _ hi
  have hne:(U id).1≠(U i).1:=fun e=>by rw[<- e,h1]at a2;cases a2
  exact⟨a1,⟨ents,clock,by rw[zAh _ _ hne];exact a2,a3⟩,fun p hp=>(same [p.2.1] ⟨a4 p hp,trivial⟩).1⟩
 ·intro i es c1 j es' c2 hi hj he
  have hni:id≠i:=fun e=>by subst e;rw[T.get_set_same]at hi;cases hi
  have hnj:id≠j:=fun e=>by subst e;rw[T.get_set_same]at hj;cases hj
  rw[T.get_set_ne _ _ hni]at hi
  rw[T.get_set_ne _ _ hnj]at hj
  exact h.msep _ _ _ _ _ _ hi hj he
end Go.Am

namespace Go.Am
open Go.RowKit (Below)
theorem Evol.version {U:Inj}{base:Base}{w0 w:World}{H:Heap}(h:MRel U base w0 H w)(cells:List V)(room fam fr ver:Nat)(pl:Bool)(hf:H.fams.get fam=some (fr,ver)) :
  Evol H (H.version cells room fam fr ver pl):=by
 have hold:∀ id,id<H.size->(H.version cells room fam fr ver pl).blk.get id=H.blk.get id:=fun id hid=>T.get_set_ne _ _ (by omega)
 refine⟨Nat.le_succ _,fun id hid=>by simp only[Heap.room?,hold id hid],?_,?_⟩
 ·intro id cs r f v wr p st hg
  exact⟨cs,st,by rw[hold id (h.lt _ _ hg)];exact hg,Nat.le_refl _,fun _=>rfl⟩
 ·intro f fr1 la1 hg
  by_cases e:fam=f
  ·subst e
   rw[hf]at hg
   injection hg with hg
   injection hg with e1 e2
   subst e1
   exact⟨fr,ver+1,T.get_set_same _ _ _,Nat.le_refl _⟩
  ·exact⟨fr1,la1,by rw[show(H.version cells room fam fr ver pl).fams.get f=H.fams.get f from T.get_set_ne _ _ e];exact hg,Nat.le_refl _⟩
theorem MRel.version {U:Inj}{base:Base}{w0 w:World}{H:Heap}(h:MRel U base w0 H w){id:Nat}{cs:List V}{room fam ver:Nat}{pl:Bool}{st fr:Nat}
  (hg:H.blk.get id=some (.mem cs room fam ver true pl st)) (hf:H.fams.get fam=some (fr,ver)) (_hle:fr<=ver)
  (cells:List V) (room':Nat) (x:Nat × Nat) (w':World) (hbelow:Kpt base w0 w') (hbase:base.n<=w'.heap.size) (hgh:x.1 ∉ base.gh)
  (hnew:BOk (upd U H.size x) base.n w' H.size cells room' true) (hvs:VsOk H cells) (hlen:cells.length<=room')
  (hold:∀ i cs1 r1 f1 v1 w1 p1 s1 fr1 la1,H.blk.get i=some (.mem cs1 r1 f1 v1 w1 p1 s1)->H.fams.get f1=some (fr1,la1)->fr1<=v1->BOk U base.n w' i cs1 r1 w1)
  (hpl:pl=true->∃ c el lo,w'.heap[x.1]?=some (.cells c el (lo,lo)))
  (hplold:∀ i cs1 r1 f1 v1 w1 s1 fr1 la1,H.blk.get i=some (.mem cs1 r1 f1 v1 w1 true s1)->H.fams.get f1=some (fr1,la1)->fr1<=v1->w1=true->∃ c el lo,w'.heap[(U i).1]?=some (.cells c el (lo,lo)))
  (hmaps:∀ (b:Nat) (ents:Array MapEntry) (p:Nat),w.heap[b]?=some (Obj.map ents p)->w'.heap[b]?=some (Obj.map ents p))
  (hiter:∀ (b:Nat) (s:ByteArray) (p:Nat),w.heap[b]?=some (Obj.stringIter s p)->w'.heap[b]?=some (Obj.stringIter s p))
  (hsep:∀ j cs1 r1 f1 v1 w1 p1 s1 fr1 la1,H.blk.get j=some (.mem cs1 r1 f1 v1 w1 p1 s1)->H.fams.get f1=some (fr1,la1)->fr1<=v1->x.1=(U j).1->fam=f1)
  (hends:∀ j cs1 r1 v1 w1 p1 s1,H.blk.get j=some (.mem cs1 r1 fam v1 w1 p1 s1)->fr<=v1->(U j).1=x.1->(U j).2+cs1.length<=x.2+cells.length) :
  MRel (upd U H.size x) base w0 (H.version cells room' fam fr ver pl) w':=by
 have hev:=Evol.version h cells room' fam fr ver pl hf
 have hext:=Ext.upd H U x
 have hfl:=(h.fam _ _ _ _ _ _ _ _ hg).1
 have hnewG:(H.version cells room' fam fr ver pl).blk.get H.size=some (.mem cells room' fam (ver+1) true pl 0):=T.get_set_same _ _ _
 have holdG:∀ i,i≠H.size->(H.version cells room' fam fr ver pl).blk.get i=H.blk.get i:=fun i hi=>T.get_set_ne _ _ (Ne.symm hi)
 have part:∀ i cs1 r1 f1 v1 w1 p1 s1,(H.version cells room' fam fr ver pl).blk.get i=some (.mem cs1 r1 f1 v1 w1 p1 s1) ->
   (i=H.size/\cs1=cells/\r1=room'/\f1=fam/\v1=ver+1/\w1=true/\p1=pl)∨(i<H.size/\H.blk.get i=some (.mem cs1 r1 f1 v1 w1 p1 s1)):=by
  intro i cs1 r1 f1 v1 w1 p1 s1 hi
  by_cases e:i=H.size
  ·subst e
   rw[hnewG]at hi
   injection hi with hi
   injection hi with e1 e2 e3 e4 e5 e6 e7
   exact .inl ⟨rfl,e1.symm,e2.symm,e3.symm,e4.symm,e5.symm,e6.symm⟩
  ·rw[holdG _ e]at hi;exact .inr ⟨h.lt _ _ hi,hi⟩
 have famGet:∀ f fr1 la1,(H.version cells room' fam fr ver pl).fams.get f=some (fr1,la1)->∃ la2,H.fams.get f=some (fr1,la2):=by
  intro f fr1 la1 hh
  by_cases e:fam=f
  ·subst e
   rw[show(H.version cells room' fam fr ver pl).fams.get fam=some (fr,ver+1)from T.get_set_same _ _ _]at hh
   injection hh with hh
   injection hh with e1 e2
   subst e1
   exact⟨ver,hf⟩
  ·rw[show(H.version cells room' fam fr ver pl).fams.get f=H.fams.get f from T.get_set_ne _ _ e]at hh;exact⟨la1,hh⟩
 have verle:∀ i cs1 r1 v1 w1 p1 s1,H.blk.get i=some (.mem cs1 r1 fam v1 w1 p1 s1)->v1<=ver:=by
  intro i cs1 r1 v1 w1 p1 s1 hi
  obtain⟨_,fr1,la1,hf1,hle1⟩:=h.fam _ _ _ _ _ _ _ _ hi
  rw[hf]at hf1
  injection hf1 with hf1
  injection hf1 with e1 e2
  omega
 refine⟨hbelow,hbase,?_,?_,?_,?_,?_,?_,?_,?_,?_,?_,?_,?_,?_,?_,?_⟩
 ·intro i b hi
  by_cases e:i=H.size
  ·subst e;exact Nat.lt_succ_self _
  ·rw[holdG _ e]at hi;exact Nat.lt_succ_of_lt (h.lt _ _ hi)
 ·intro i cs1 r1 f1 v1 w1 p1 s1 hi
  have hfamNew:(H.version cells room' fam fr ver pl).fams.get fam=some (fr,ver+1):=T.get_set_same _ _ _
  rcases part _ _ _ _ _ _ _ _ hi with⟨rfl,_,_,rfl,rfl,_⟩ | ⟨_,ki⟩
  ·exact⟨Nat.lt_succ_of_lt hfl,fr,ver+1,hfamNew,Nat.le_refl _⟩
  ·obtain⟨a1,fr1,la1,a2,a3⟩:=h.fam _ _ _ _ _ _ _ _ ki
   refine⟨Nat.lt_succ_of_lt a1,?_⟩
   by_cases e:fam=f1
   ·subst e
    have:=verle _ _ _ _ _ _ _ ki
    exact⟨fr,ver+1,hfamNew,by omega⟩
   ·exact⟨fr1,la1,by rw[show(H.version cells room' fam fr ver pl).fams.get f1=H.fams.get f1 from T.get_set_ne _ _ e];exact a2,a3⟩
 ·intro i cs1 r1 f1 v1 w1 p1 s1 hi
  rcases part _ _ _ _ _ _ _ _ hi with⟨rfl,rfl,rfl,_⟩ | ⟨_,ki⟩
  ·exact⟨hlen,hvs.mono hev⟩
  ·obtain⟨a1,a2⟩:=h.cells _ _ _ _ _ _ _ _ ki
   exact⟨a1,a2.mono hev⟩
 ·intro i cs1 r1 f1 v1 w1 p1 s1 fr1 la1 hi hfi hvi
  rcases part _ _ _ _ _ _ _ _ hi with⟨rfl,rfl,rfl,_,_,rfl,_⟩ | ⟨hlt,ki⟩
  ·exact hnew
  ·obtain⟨la2,kf⟩:=famGet _ _ _ hfi
   exact(hold _ _ _ _ _ _ _ _ _ _ ki kf hvi).keep (H:=H) rfl (upd_ne U _ (by omega)) hext (h.cells _ _ _ _ _ _ _ _ ki).2
 ·intro i cs1 r1 f1 v1 p1 s1 fr1 la1 j cs2 r2 f2 v2 w2 p2 s2 fr2 la2 hi hfi hvi hj hfj hvj he
  obtain⟨la3,kfi⟩:=famGet _ _ _ hfi
  obtain⟨la4,kfj⟩:=famGet _ _ _ hfj
  rcases part _ _ _ _ _ _ _ _ hi with⟨rfl,_,_,rfl,_⟩ | ⟨hlt,ki⟩
  ·rcases part _ _ _ _ _ _ _ _ hj with⟨rfl,_,_,rfl,_⟩ | ⟨hltj,kj⟩
   ·rfl
   ·rw[upd_same,upd_ne U _ (by omega)]at he
    exact hsep _ _ _ _ _ _ _ _ _ _ kj kfj hvj he
  ·rcases part _ _ _ _ _ _ _ _ hj with⟨rfl,_,_,rfl,_⟩ | ⟨hltj,kj⟩
   ·rw[upd_same,upd_ne U _ (by omega)]at he
    exact(hsep _ _ _ _ _ _ _ _ _ _ ki kfi hvi he.symm).symm
   ·rw[upd_ne U _ (by omega),upd_ne U _ (by omega)]at he
    exact h.sep _ _ _ _ _ _ _ _ _ _ _ _ _ _ _ _ _ _ _ ki kfi hvi kj kfj hvj he
 ·intro i cs1 r1 f1 v1 w1 p1 s1 j cs2 r2 w2 p2 s2 hi hj
  rcases part _ _ _ _ _ _ _ _ hi with⟨rfl,_,_,rfl,rfl,_⟩ | ⟨_,ki⟩
  ·rcases part _ _ _ _ _ _ _ _ hj with⟨rfl,_⟩ | ⟨_,kj⟩
   ·rfl
   ·have:=verle _ _ _ _ _ _ _ kj;omega
  ·rcases part _ _ _ _ _ _ _ _ hj with⟨rfl,_,_,rfl,rfl,_⟩ | ⟨_,kj⟩
   ·have:=verle _ _ _ _ _ _ _ ki;omega
   ·exact h.ver _ _ _ _ _ _ _ _ _ _ _ _ _ _ ki kj
 ·intro i s pos hi
  have hni:i≠H.size:=fun e=>by subst e;rw[hnewG]at hi;cases hi
  rw[holdG _ hni]at hi
  obtain⟨a1,az,a2⟩:=h.iter _ _ _ hi
  rw[upd_ne U _ hni]
  exact⟨a1,az,hiter _ _ _ a2⟩
 ·intro f y hh
  by_cases e:fam=f
  ·subst e;exact Nat.lt_succ_of_lt hfl
  ·rw[show(H.version cells room' fam fr ver pl).fams.get f=H.fams.get f from T.get_set_ne _ _ e]at hh;exact Nat.lt_succ_of_lt (h.famlt _ _ hh)
 ·intro i cs1 r1 f1 v1 w1 p1 s1 fr1 la1 j cs2 r2 v2 w2 p2 s2 hi hfi hvi hj hvj he hlev
  obtain⟨la3,kfi⟩:=famGet _ _ _ hfi
  rcases part _ _ _ _ _ _ _ _ hi with⟨rfl,rfl,_,rfl,rfl,_⟩ | ⟨hlt,ki⟩
  ·rcases part _ _ _ _ _ _ _ _ hj with⟨rfl,rfl,_⟩ | ⟨_,kj⟩
   ·exact Nat.le_refl _
   ·have:=verle _ _ _ _ _ _ _ kj;omega
  ·rcases part _ _ _ _ _ _ _ _ hj with⟨rfl,rfl,_,rfl,rfl,_⟩ | ⟨hltj,kj⟩
   ·rw[hf]at kfi
    injection kfi with kfi
    injection kfi with e1 e2
    subst e1
    rw[upd_same,upd_ne U _ (by omega)]at he ⊢
    exact hends _ _ _ _ _ _ _ ki hvi he
   ·rw[upd_ne U _ (by omega),upd_ne U _ (by omega)]at he ⊢
    exact h.ends _ _ _ _ _ _ _ _ _ _ _ _ _ _ _ _ _ ki kfi hvi kj hvj he hlev
 ·intro i s p j s' p' hi hj he
  have hni:i≠H.size:=fun e=>by subst e;rw[hnewG]at hi;cases hi
  have hnj:j≠H.size:=fun e=>by subst e;rw[hnewG]at hj;cases hj
  rw[holdG _ hni]at hi
  rw[holdG _ hnj]at hj
  rw[upd_ne U _ hni,upd_ne U _ hnj]at he
  exact h.isep _ _ _ _ _ _ hi hj he
 ·intro i cs1 r1 f1 v1 w1 p1 s1 fr1 la1 hi hfi hvi
  rcases part _ _ _ _ _ _ _ _ hi with⟨rfl,_⟩ | ⟨hlt,ki⟩
  ·rw[upd_same];exact hgh
  ·obtain⟨la2,kf⟩:=famGet _ _ _ hfi
   rw[upd_ne U _ (by omega)]
   exact h.gh _ _ _ _ _ _ _ _ _ _ ki kf hvi
 ·intro i cs1 r1 f1 v1 w1 s1 fr1 la1 hi hfi hvi hw1
  rcases part _ _ _ _ _ _ _ _ hi with⟨rfl,_,_,_,_,_,e⟩ | ⟨hlt,ki⟩
  ·rw[upd_same];exact hpl e.symm
  ·obtain⟨la2,kf⟩:=famGet _ _ _ hfi
   rw[upd_ne U _ (by omega)]
   exact hplold _ _ _ _ _ _ _ _ _ ki kf hvi hw1
 ·intro i cs1 r1 f1 v1 w1 p1 s1 j cs2 r2 v2 w2 p2 s2 hi hj
  rcases part _ _ _ _ _ _ _ _ hi with⟨_,_,_,e1,_,_,e2⟩ | ⟨_,ki⟩
  ·rcases part _ _ _ _ _ _ _ _ hj with⟨_,_,_,_,_,_,e3⟩ | ⟨_,kj⟩
   ·rw[e2,e3]
   ·subst e1;rw[e2];exact h.plfam _ _ _ _ _ _ _ _ _ _ _ _ _ _ _ hg kj
  ·rcases part _ _ _ _ _ _ _ _ hj with⟨_,_,_,e1,_,_,e3⟩ | ⟨_,kj⟩
   ·subst e1;rw[e3];exact h.plfam _ _ _ _ _ _ _ _ _ _ _ _ _ _ _ ki hg
   ·exact h.plfam _ _ _ _ _ _ _ _ _ _ _ _ _ _ _ ki kj
 ·intro i es clk hi
  have hni:i≠H.size:=fun e=>by subst e;rw[hnewG]at hi;cases hi
  rw[holdG _ hni]at hi
  obtain⟨a1,⟨ents,clock,a2,a3⟩,a4⟩:=h.maps _ _ _ hi
  rw[upd_ne U _ hni]
  exact⟨a1,⟨ents,clock,hmaps _ _ _ a2,a3.ext (H:=H) hext a4⟩,fun p hp=>VOk.mono hev _ (a4 p hp)⟩
 ·intro i es c1 j es' c2 hi hj he
  have hni:i≠H.size:=fun e=>by subst e;rw[hnewG]at hi;cases hi
  have hnj:j≠H.size:=fun e=>by subst e;rw[hnewG]at hj;cases hj
  rw[holdG _ hni]at hi
  rw[holdG _ hnj]at hj
  rw[upd_ne U _ hni,upd_ne U _ hnj]at he
  exact h.msep _ _ _ _ _ _ hi hj he
/-- a new version in memory of its own -/theorem MRel.grow {U:Inj}{base:Base}{w0 w:World}{H:Heap}(h:MRel U base w0 H w){id:Nat}{cs:List V}{room fam ver:Nat}{pl:Bool}{st fr:Nat}
  (hg:H.blk.get id=some (.mem cs room fam ver true pl st)) (hf:H.fams.get fam=some (fr,ver)) (hle:fr<=ver)
  (cells:List V) (room':Nat) (c:Array Value) (el:TypeId) (hvs:VsOk H cells) (hlen:cells.length<=room') (hsz:room'<=c.size)
  (hc:∀ (j:Nat) (v:V),cells[j]?=some v->c[j]?=some (cv U v)) :
  MRel (upd U H.size (w.heap.size,0)) base w0 (H.version cells room' fam fr ver pl) (w.alloc (.cells c el)):=by
 have hext:=Ext.upd H U (w.heap.size,0)
 have hheap:∀ b,b<w.heap.size->(w.alloc (.cells c el)).heap[b]?=w.heap[b]?:=fun b hb=>heap_alloc_old _ _ _ hb
 have hheap':(w.alloc (.cells c el)).heap[w.heap.size]?=some (.cells c el (0,0)):=heap_alloc_new _ _
 refine h.version hg hf hle cells room' _ _ (h.below.alloc h.base_le _) (by rw[World.size_alloc];have:=h.base_le;omega) (h.below.free h.base_le).2 ?_ hvs hlen ?_ (fun _=>⟨c,el,0,by exact hheap'⟩) (fun i cs1 r1 f1 v1 w1 s1 fr1 la1 hi hfi hvi hw1=>by
  obtain⟨c',el',lo',e⟩:=h.plok _ _ _ _ _ _ _ _ _ hi hfi hvi hw1
  exact⟨c',el',lo',by rw[hheap _ (Array.getElem?_eq_some_iff.1 e).1];exact e⟩) (fun b s p hb=>by
  rw[hheap _ (Array.getElem?_eq_some_iff.1 hb).1];exact hb) ?_ ?_ ?_
 ·refine⟨c,el,0,0,by rw[upd_same];exact hheap',by rw[upd_same];simpa using hsz,fun j v hv=>?_,fun _=>?_⟩
  ·rw[upd_same,zB9 hext v ((zw H cells).1 hvs v (List.mem_of_getElem? hv))]
   simpa using hc j v hv
  ·rw[upd_same];exact⟨h.base_le,.inl rfl⟩
 ·intro i cs1 r1 f1 v1 w1 p1 s1 fr1 la1 hi hfi hvi
  have hk:=h.ok _ _ _ _ _ _ _ _ _ _ hi hfi hvi
  exact hk.keep (H:=H) (hheap _ hk.block_lt) rfl (Ext.refl H U) (h.cells _ _ _ _ _ _ _ _ hi).2
 ·intro b s p hb
  rw[hheap _ (Array.getElem?_eq_some_iff.1 hb).1];exact hb
 ·intro j cs1 r1 f1 v1 w1 p1 s1 fr1 la1 hj hfj hvj he
  have:=(h.ok _ _ _ _ _ _ _ _ _ _ hj hfj hvj).block_lt
  omega
 ·intro j cs1 r1 v1 w1 p1 s1 hj hvj he
  have:=(h.ok _ _ _ _ _ _ _ _ _ _ hj hf hvj).block_lt
  omega
theorem MRel.inplace {U:Inj}{base:Base}{w0 w:World}{H:Heap}(h:MRel U base w0 H w){id:Nat}{cs:List V}{room fam ver:Nat}{pl:Bool}{st fr:Nat}
  (hg:H.blk.get id=some (.mem cs room fam ver true pl st)) (hf:H.fams.get fam=some (fr,ver)) (hle:fr<=ver)
  (off:Nat) (new:List V) (room':Nat) (hoff:off<=cs.length) (hvs:VsOk H new) (hlen:cs.length-off+new.length<=room') (hroom:off+room'<=room) :
  ∃ c el lo hi,w.heap[(U id).1]?=some (.cells c el (lo,hi))/\(U id).2+cs.length+new.length<=c.size/\(lo=hi∨c.size<=lo) /\
   MRel (upd U H.size ((U id).1,(U id).2+off)) base w0 (H.version (cs.drop off++new) room' fam fr ver pl)
    (zBL w (U id).1 (.cells (zND c ((U id).2+cs.length) (cvl U new)) el (lo,hi))):=by
 obtain⟨c,el,lo,up,h1,h2,h3,h4⟩:=h.ok _ _ _ _ _ _ _ _ _ _ hg hf hle
 obtain⟨hlenc,hcs⟩:=h.cells _ _ _ _ _ _ _ _ hg
 obtain⟨hb,hfz⟩:=h4 rfl
 have hlt:(U id).1<w.heap.size:=(Array.getElem?_eq_some_iff.1 h1).1
 have hext:=Ext.upd H U ((U id).1,(U id).2+off)
 have hfit:(U id).2+cs.length+new.length<=c.size:=by omega
 have hvs':VsOk H (cs.drop off++new):=by
  rw[zw]
  intro v hv
  rcases List.mem_append.1 hv with hv | hv
  ·exact(zw H cs).1 hcs v (List.mem_of_mem_drop hv)
  ·exact(zw H new).1 hvs v hv
 refine⟨c,el,lo,up,h1,hfit,hfz,?_⟩
 refine h.version hg hf hle _ room' _ _ (zHB h.below ⟨hb,h.gh _ _ _ _ _ _ _ _ _ _ hg hf hle⟩ _) (by rw[zFD];exact h.base_le) (h.gh _ _ _ _ _ _ _ _ _ _ hg hf hle) ?_ hvs' (by simpa using hlen) ?_ (fun e=>by
  subst e
  obtain⟨c',el',lo',e⟩:=h.plok _ _ _ _ _ _ _ _ _ hg hf hle rfl
  rw[h1]at e
  injection e with e
  injection e with e1 e2 e3
  injection e3 with e3 e4
  subst e3 e4
  exact⟨_,_,_,zCo _ _ _ hlt⟩) (fun i cs1 r1 f1 v1 w1 s1 fr1 la1 hi hfi hvi hw1=>by
  obtain⟨c',el',lo',e⟩:=h.plok _ _ _ _ _ _ _ _ _ hi hfi hvi hw1
  by_cases hne:(U id).1=(U i).1
  ·rw[<- hne,h1]at e
   injection e with e
   injection e with e1 e2 e3
   injection e3 with e3 e4
   subst e3 e4
   exact⟨_,_,_,by rw[<- hne];exact zCo _ _ _ hlt⟩
  ·exact⟨c',el',lo',by rw[zAh _ _ hne];exact e⟩) (fun b s p hb'=>by
  by_cases e:(U id).1=b
  ·subst e;rw[h1]at hb';cases hb'
  ·rw[zAh _ _ e];exact hb') ?_ ?_ ?_
 ·refine⟨_,el,lo,up,by rw[upd_same];exact zCo _ _ _ hlt,by rw[upd_same,zH3];simp only;omega,fun j v hv=>?_,fun _=>?_⟩
  ·rw[upd_same,zB9 hext v ((zw H _).1 hvs' v (List.mem_of_getElem? hv))]
   simp only
   rw[List.getElem?_append]at hv
   split at hv
   ·rename_i hj
    rw[List.length_drop]at hj
    rw[List.getElem?_drop]at hv
    rw[zJt _ _ _ _ (by omega)]
    have:=h3 _ _ hv
    rw[show(U id).2+off+j=(U id).2+(off+j)from by omega]
    exact this
   ·rename_i hj
    rw[List.length_drop]at hj hv
    have hjl:j-(cs.length-off)<new.length:=(List.getElem?_eq_some_iff.1 hv).1
    rw[zR1 _ _ _ _ (by omega) (by rw[zy];omega) (by rw[zy];omega),zFy]
    rw[show(U id).2+off+j-((U id).2+cs.length)=j-(cs.length-off)from by omega,hv]
    rfl
  ·rw[upd_same,zH3];exact⟨hb,hfz⟩
 ·intro i cs1 r1 f1 v1 w1 p1 s1 fr1 la1 hi hfi hvi
  have hk:=h.ok _ _ _ _ _ _ _ _ _ _ hi hfi hvi
  by_cases e:(U id).1=(U i).1
  ·have hfe:=h.sep _ _ _ _ _ _ _ _ _ _ _ _ _ _ _ _ _ _ _ hg hf hle hi hfi hvi e
   subst hfe
   rw[hf]at hfi
   injection hfi with hfi
   injection hfi with e1 e2
   subst e1
   have hvle:v1<=ver:=by
    obtain⟨_,fr2,la2,hf2,hle2⟩:=h.fam _ _ _ _ _ _ _ _ hi
    rw[hf]at hf2
    injection hf2 with hf2
    injection hf2 with e3 e4
    omega
   have hend:=h.ends _ _ _ _ _ _ _ _ _ _ _ _ _ _ _ _ _ hi hf hvi hg hle e.symm hvle
   obtain⟨c',el',lo',up',k1,k2,k3,k4⟩:=hk
   rw[<- e,h1]at k1
   injection k1 with k1
   injection k1 with k5 k6 k7
   injection k7 with k8 k9
   subst k5 k6 k8 k9
   refine⟨_,el,lo,up,by rw[<- e];exact zCo _ _ _ hlt,by rw[zH3];exact k2,fun j v hv=>?_,fun hw=>⟨(k4 hw).1,by rw[zH3];exact(k4 hw).2⟩⟩
   have hj:j<cs1.length:=(List.getElem?_eq_some_iff.1 hv).1
   rw[zJt _ _ _ _ (by omega)]
   exact k3 j v hv
  ·exact hk.keep (H:=H) (zAh w _ e) rfl (Ext.refl H U) (h.cells _ _ _ _ _ _ _ _ hi).2
 ·intro b s p hb'
  by_cases e:(U id).1=b
  ·subst e;rw[h1]at hb';cases hb'
  ·rw[zAh _ _ e];exact hb'
 ·intro j cs1 r1 f1 v1 w1 p1 s1 fr1 la1 hj hfj hvj he
  exact h.sep _ _ _ _ _ _ _ _ _ _ _ _ _ _ _ _ _ _ _ hg hf hle hj hfj hvj he
 ·intro j cs1 r1 v1 w1 p1 s1 hj hvj he
  have hvle:v1<=ver:=by
   obtain⟨_,fr2,la2,hf2,hle2⟩:=h.fam _ _ _ _ _ _ _ _ hj
   rw[hf]at hf2
   injection hf2 with hf2
   injection hf2 with e3 e4
   omega
  have hend:=h.ends _ _ _ _ _ _ _ _ _ _ _ _ _ _ _ _ _ hj hf hvj hg hle he hvle
  simp only[List.length_append,List.length_drop]
  omega
def zBZ (H:Heap)(id:Nat)(s:List UInt8)(p:Nat):Heap:={ size:=H.size,blk:=H.blk.s id (.iter s p),fams:=H.fams }
def iterNew (H:Heap)(s:List UInt8):Heap:={ size:=H.size+1,blk:=H.blk.s H.size (.iter s 0),fams:=H.fams }
theorem Evol.iterNew {U:Inj}{base:Base}{w0 w:World}{H:Heap}(h:MRel U base w0 H w)(s:List UInt8):Evol H (iterNew H s):=by
 have hold:∀ i,i<H.size->(Am.iterNew H s).blk.get i=H.blk.get i:=fun i hi=>T.get_set_ne _ _ (by omega)
 exact⟨Nat.le_succ _,fun i hi=>by simp only[Heap.room?,hold i hi],fun i cs _ _ _ _ _ st hg=>⟨cs,st,by rw[hold i (h.lt _ _ hg)];exact hg,Nat.le_refl _,fun _=>rfl⟩,
  fun f fr la hg=>⟨fr,la,hg,Nat.le_refl _⟩⟩
theorem MRel.iterNew {U:Inj}{base:Base}{w0 w:World}{H:Heap}(h:MRel U base w0 H w)(s:List UInt8) :
  MRel (upd U H.size (w.heap.size,0)) base w0 (iterNew H s) (w.alloc (.stringIter ⟨s.toArray⟩ 0)):=by
 have hev:=Evol.iterNew h s
 have hext:=Ext.upd H U (w.heap.size,0)
 have hheap:∀ b,b<w.heap.size->(w.alloc (.stringIter ⟨s.toArray⟩ 0)).heap[b]?=w.heap[b]?:=fun b hb=>heap_alloc_old _ _ _ hb
 have hnewG:(Am.iterNew H s).blk.get H.size=some (.iter s 0):=T.get_set_same _ _ _
 have holdG:∀ i,i≠H.size->(Am.iterNew H s).blk.get i=H.blk.get i:=fun i hi=>T.get_set_ne _ _ (Ne.symm hi)
 have part:∀ i cs1 r1 f1 v1 w1 p1 s1,(Am.iterNew H s).blk.get i=some (.mem cs1 r1 f1 v1 w1 p1 s1)->i<H.size/\H.blk.get i=some (.mem cs1 r1 f1 v1 w1 p1 s1):=by
  intro i cs1 r1 f1 v1 w1 p1 s1 hi
  by_cases e:i=H.size
  ·subst e;rw[hnewG]at hi;cases hi
  ·rw[holdG _ e]at hi;exact⟨h.lt _ _ hi,hi⟩
 refine⟨h.below.alloc h.base_le _,by rw[World.size_alloc];have:=h.base_le;omega,?_,?_,?_,?_,?_,?_,?_,?_,?_,?_,?_,?_,?_,?_,?_⟩
 ·intro i b hi
  by_cases e:i=H.size
  ·subst e;exact Nat.lt_succ_self _
  ·rw[holdG _ e]at hi;exact Nat.lt_succ_of_lt (h.lt _ _ hi)
 ·intro i cs1 r1 f1 v1 w1 p1 s1 hi
  obtain⟨a1,a2⟩:=h.fam _ _ _ _ _ _ _ _ (part _ _ _ _ _ _ _ _ hi).2
  exact⟨Nat.lt_succ_of_lt a1,a2⟩
 ·intro i cs1 r1 f1 v1 w1 p1 s1 hi
  obtain⟨a1,a2⟩:=h.cells _ _ _ _ _ _ _ _ (part _ _ _ _ _ _ _ _ hi).2
  exact⟨a1,a2.mono hev⟩
 ·intro i cs1 r1 f1 v1 w1 p1 s1 fr1 la1 hi hfi hvi
  obtain⟨hlt,ki⟩:=part _ _ _ _ _ _ _ _ hi
  have hk:=h.ok _ _ _ _ _ _ _ _ _ _ ki hfi hvi
  exact hk.keep (hheap _ hk.block_lt) (upd_ne U _ (by omega)) hext (h.cells _ _ _ _ _ _ _ _ ki).2
 ·intro i cs1 r1 f1 v1 p1 s1 fr1 la1 j cs2 r2 f2 v2 w2 p2 s2 fr2 la2 hi hfi hvi hj hfj hvj he
  obtain⟨hlt,ki⟩:=part _ _ _ _ _ _ _ _ hi
  obtain⟨hltj,kj⟩:=part _ _ _ _ _ _ _ _ hj
  rw[upd_ne U _ (by omega),upd_ne U _ (by omega)]at he
  exact h.sep _ _ _ _ _ _ _ _ _ _ _ _ _ _ _ _ _ _ _ ki hfi hvi kj hfj hvj he
 ·intro i cs1 r1 f1 v1 w1 p1 s1 j cs2 r2 w2 p2 s2 hi hj
  exact h.ver _ _ _ _ _ _ _ _ _ _ _ _ _ _ (part _ _ _ _ _ _ _ _ hi).2 (part _ _ _ _ _ _ _ _ hj).2
 ·intro i s1 pos hi
  by_cases e:i=H.size
  ·subst e
   rw[hnewG]at hi
   injection hi with hi
   injection hi with e1 e2
   subst e1 e2
   rw[upd_same]
   exact⟨h.below.free h.base_le,rfl,heap_alloc_new _ _⟩
  ·rw[holdG _ e]at hi
   obtain⟨a1,az,a2⟩:=h.iter _ _ _ hi
   rw[upd_ne U _ e]
   exact⟨a1,az,by rw[hheap _ (Array.getElem?_eq_some_iff.1 a2).1];exact a2⟩
 ·intro f y hh
  exact Nat.lt_succ_of_lt (h.famlt _ _ hh)
 ·intro i cs1 r1 f1 v1 w1 p1 s1 fr1 la1 j cs2 r2 v2 w2 p2 s2 hi hfi hvi hj hvj he hlev
  obtain⟨hlt,ki⟩:=part _ _ _ _ _ _ _ _ hi
  obtain⟨hltj,kj⟩:=part _ _ _ _ _ _ _ _ hj
  rw[upd_ne U _ (by omega),upd_ne U _ (by omega)]at he ⊢
  exact h.ends _ _ _ _ _ _ _ _ _ _ _ _ _ _ _ _ _ ki hfi hvi kj hvj he hlev
 ·intro i s1 p j s' p' hi hj he
  have hlt:∀ k s2 p2,(Am.iterNew H s).blk.get k=some (.iter s2 p2)->k≠H.size->(U k).1<w.heap.size:=fun k s2 p2 hk hne=>by
   rw[holdG _ hne]at hk
   exact(Array.getElem?_eq_some_iff.1 (h.iter _ _ _ hk).2.2).1
  by_cases e:i=H.size
  ·by_cases e':j=H.size
   ·omega
   ·have:=hlt _ _ _ hj e'
    subst e
    rw[upd_same,upd_ne U _ e']at he
    omega
  ·by_cases e':j=H.size
   ·have:=hlt _ _ _ hi e
    subst e'
    rw[upd_same,upd_ne U _ e]at he
    omega
   ·rw[holdG _ e]at hi
    rw[holdG _ e']at hj
    rw[upd_ne U _ e,upd_ne U _ e']at he
    exact h.isep _ _ _ _ _ _ hi hj he
 ·intro i cs1 r1 f1 v1 w1 p1 s1 fr1 la1 hi hfi hvi
  obtain⟨hlt,ki⟩:=part _ _ _ _ _ _ _ _ hi
  rw[upd_ne U _ (by omega)]
  exact h.gh _ _ _ _ _ _ _ _ _ _ ki hfi hvi
 ·intro i cs1 r1 f1 v1 w1 s1 fr1 la1 hi hfi hvi hw1
  obtain⟨hlt,ki⟩:=part _ _ _ _ _ _ _ _ hi
  rw[upd_ne U _ (by omega)]
  obtain⟨c',el',lo',e⟩:=h.plok _ _ _ _ _ _ _ _ _ ki hfi hvi hw1
  exact⟨c',el',lo',by rw[hheap _ (Array.getElem?_eq_some_iff.1 e).1];exact e⟩
 ·intro i cs1 r1 f1 v1 w1 p1 s1 j cs2 r2 v2 w2 p2 s2 hi hj
  exact h.plfam _ _ _ _ _ _ _ _ _ _ _ _ _ _ _ (part _ _ _ _ _ _ _ _ hi).2 (part _ _ _ _ _ _ _ _ hj).2
 ·intro i es clk hi
  have hni:i≠H.size:=fun e=>by subst e;rw[hnewG]at hi;cases hi
  rw[holdG _ hni]at hi
  obtain⟨a1,⟨ents,clock,a2,a3⟩,a4⟩:=h.maps _ _ _ hi
  rw[upd_ne U _ hni]
  exact⟨a1,⟨ents,clock,by rw[hheap _ (Array.getElem?_eq_some_iff.1 a2).1];exact a2,a3.ext (H:=H) hext a4⟩,fun p hp=>VOk.mono hev _ (a4 p hp)⟩
 ·intro i es c1 j es' c2 hi hj he
  have hni:i≠H.size:=fun e=>by subst e;rw[hnewG]at hi;cases hi
  have hnj:j≠H.size:=fun e=>by subst e;rw[hnewG]at hj;cases hj
  rw[holdG _ hni]at hi
  rw[holdG _ hnj]at hj
  rw[upd_ne U _ hni,upd_ne U _ hnj]at he
  exact h.msep _ _ _ _ _ _ hi hj he
theorem Evol.iterSet {H:Heap}{id:Nat}{s:List UInt8}{p q:Nat}(hg:H.blk.get id=some (.iter s p)):Evol H (zBZ H id s q):=by
 refine⟨Nat.le_refl _,fun i hi=>?_,fun i cs _ _ _ _ _ st hi=>?_,fun f fr la h=>⟨fr,la,h,Nat.le_refl _⟩⟩
 ·by_cases e:id=i
  ·subst e;simp only[Heap.room?,zBZ,T.get_set_same,hg]
  ·simp only[Heap.room?,zBZ,T.get_set_ne _ _ e]
 ·have e:id≠i:=fun e=>by subst e;rw[hg]at hi;cases hi
  exact⟨cs,st,by simp only[zBZ,T.get_set_ne _ _ e];exact hi,Nat.le_refl _,fun _=>rfl⟩
theorem MRel.iterSet {U:Inj}{base:Base}{w0 w:World}{H:Heap}(h:MRel U base w0 H w){id:Nat}{s:List UInt8}{p:Nat}(hg:H.blk.get id=some (.iter s p))(q:Nat) :
  MRel U base w0 (zBZ H id s q) (zBL w (U id).1 (.stringIter ⟨s.toArray⟩ q)):=by
 obtain⟨hb,hz,h1⟩:=h.iter _ _ _ hg
 have hlt:(U id).1<w.heap.size:=(Array.getElem?_eq_some_iff.1 h1).1
 have hev:=Evol.iterSet (q:=q) hg
 have part:∀ i cs1 r1 f1 v1 w1 p1 s1,(zBZ H id s q).blk.get i=some (.mem cs1 r1 f1 v1 w1 p1 s1)->H.blk.get i=some (.mem cs1 r1 f1 v1 w1 p1 s1):=by
  intro i cs1 r1 f1 v1 w1 p1 s1 hi
  by_cases e:id=i
  ·subst e;rw[show(zBZ H id s q).blk.get id=some (.iter s q)from T.get_set_same _ _ _]at hi;cases hi
  ·rw[show(zBZ H id s q).blk.get i=H.blk.get i from T.get_set_ne _ _ e]at hi;exact hi
 have ipart:∀ i s1 p1,(zBZ H id s q).blk.get i=some (.iter s1 p1)->(i=id/\s1=s/\p1=q)∨(id≠i/\H.blk.get i=some (.iter s1 p1)):=by
  intro i s1 p1 hi
  by_cases e:id=i
  ·subst e
   rw[show(zBZ H id s q).blk.get id=some (.iter s q)from T.get_set_same _ _ _]at hi
   injection hi with hi
   injection hi with e1 e2
   exact .inl ⟨rfl,e1.symm,e2.symm⟩
  ·rw[show(zBZ H id s q).blk.get i=H.blk.get i from T.get_set_ne _ _ e]at hi;exact .inr ⟨e,hi⟩
 refine⟨zHB h.below hb _,by rw[zFD];exact h.base_le,?_,?_,?_,?_,?_,?_,?_,h.famlt,?_,?_,fun i cs1 r1 f1 v1 w1 p1 s1 fr1 la1 hi hfi hvi=>h.gh _ _ _ _ _ _ _ _ _ _ (part _ _ _ _ _ _ _ _ hi) hfi hvi,fun i cs1 r1 f1 v1 w1 s1 fr1 la1 hi hfi hvi hw1=>by
   obtain⟨c',el',lo',e⟩:=h.plok _ _ _ _ _ _ _ _ _ (part _ _ _ _ _ _ _ _ hi) hfi hvi hw1
   exact⟨c',el',lo',by rw[zAh _ _ (fun e'=>by rw[<- e',h1]at e;cases e)];exact e⟩,fun i cs1 r1 f1 v1 w1 p1 s1 j cs2 r2 v2 w2 p2 s2 hi hj=>h.plfam _ _ _ _ _ _ _ _ _ _ _ _ _ _ _ (part _ _ _ _ _ _ _ _ hi) (part _ _ _ _ _ _ _ _ hj),fun i es clk hi=>by
   have hne0:id≠i:=fun e=>by subst e;rw[show(zBZ H id s q).blk.get id=some (.iter s q)from T.get_set_same _ _ _]at hi;cases hi
   rw[show(zBZ H id s q).blk.get i=H.blk.get i from T.get_set_ne _ _ hne0]at hi
   obtain⟨a1,⟨ents,clock,a2,a3⟩,a4⟩:=h.maps _ _ _ hi
   exact⟨a1,⟨ents,clock,by rw[zAh _ _ (fun e'=>by rw[<- e',h1]at a2;cases a2)];exact a2,a3⟩,fun p hp=>VOk.mono hev _ (a4 p hp)⟩,fun i es c1 j es' c2 hi hj he=>by
   have hni:id≠i:=fun e=>by subst e;rw[show(zBZ H id s q).blk.get id=some (.iter s q)from T.get_set_same _ _ _]at hi;cases hi
   have hnj:id≠j:=fun e=>by subst e;rw[show(zBZ H id s q).blk.get id=some (.iter s q)from T.get_set_same _ _ _]at hj;cases hj
   rw[show(zBZ H id s q).blk.get i=H.blk.get i from T.get_set_ne _ _ hni]at hi
   rw[show(zBZ H id s q).blk.get j=H.blk.get j from T.get_set_ne _ _ hnj]at hj
   exact h.msep _ _ _ _ _ _ hi hj he⟩
 ·intro i b hi
  by_cases e:id=i
  ·subst e;exact h.lt _ _ hg
  ·rw[show(zBZ H id s q).blk.get i=H.blk.get i from T.get_set_ne _ _ e]at hi;exact h.lt _ _ hi
 ·intro i cs1 r1 f1 v1 w1 p1 s1 hi
  exact h.fam _ _ _ _ _ _ _ _ (part _ _ _ _ _ _ _ _ hi)
 ·intro i cs1 r1 f1 v1 w1 p1 s1 hi
  obtain⟨a1,a2⟩:=h.cells _ _ _ _ _ _ _ _ (part _ _ _ _ _ _ _ _ hi)
  exact⟨a1,a2.mono hev⟩
 ·intro i cs1 r1 f1 v1 w1 p1 s1 fr1 la1 hi hfi hvi
  have ki:=part _ _ _ _ _ _ _ _ hi
  have hk:=h.ok _ _ _ _ _ _ _ _ _ _ ki hfi hvi
  have hne:(U id).1≠(U i).1:=fun e=>by
   obtain⟨c,el,lo,up,k1,_⟩:=hk
   rw[<- e,h1]at k1
   cases k1
  exact hk.keep (H:=H) (zAh w _ hne) rfl (Ext.refl H U) (h.cells _ _ _ _ _ _ _ _ ki).2
 ·intro i cs1 r1 f1 v1 p1 s1 fr1 la1 j cs2 r2 f2 v2 w2 p2 s2 fr2 la2 hi hfi hvi hj hfj hvj he
  exact h.sep _ _ _ _ _ _ _ _ _ _ _ _ _ _ _ _ _ _ _ (part _ _ _ _ _ _ _ _ hi) hfi hvi (part _ _ _ _ _ _ _ _ hj) hfj hvj he
 ·intro i cs1 r1 f1 v1 w1 p1 s1 j cs2 r2 w2 p2 s2 hi hj
  exact h.ver _ _ _ _ _ _ _ _ _ _ _ _ _ _ (part _ _ _ _ _ _ _ _ hi) (part _ _ _ _ _ _ _ _ hj)
 ·intro i s1 pos hi
  rcases ipart _ _ _ hi with⟨rfl,rfl,rfl⟩ | ⟨hne,ki⟩
  ·exact⟨hb,hz,zCo _ _ _ hlt⟩
  ·obtain⟨a1,az,a2⟩:=h.iter _ _ _ ki
   refine⟨a1,az,?_⟩
   have:(U id).1≠(U i).1:=fun e=>hne (h.isep _ _ _ _ _ _ hg ki e)
   rw[zAh _ _ this];exact a2
 ·intro i cs1 r1 f1 v1 w1 p1 s1 fr1 la1 j cs2 r2 v2 w2 p2 s2 hi hfi hvi hj hvj he hlev
  exact h.ends _ _ _ _ _ _ _ _ _ _ _ _ _ _ _ _ _ (part _ _ _ _ _ _ _ _ hi) hfi hvi (part _ _ _ _ _ _ _ _ hj) hvj he hlev
 ·intro i s1 p1 j s2 p2 hi hj he
  rcases ipart _ _ _ hi with⟨rfl,rfl,rfl⟩ | ⟨hne,ki⟩
  ·rcases ipart _ _ _ hj with⟨rfl,_⟩ | ⟨hnej,kj⟩
   ·rfl
   ·exact h.isep _ _ _ _ _ _ hg kj he
  ·rcases ipart _ _ _ hj with⟨rfl,_⟩ | ⟨hnej,kj⟩
   ·exact h.isep _ _ _ _ _ _ ki hg he
   ·exact h.isep _ _ _ _ _ _ ki kj he
def zDz (H:Heap)(id:Nat)(es:List (List UInt8 × V × Nat))(clk:Option Nat):Heap:={ size:=H.size,blk:=H.blk.s id (.mapb es clk),fams:=H.fams }
def mapNew (H:Heap):Heap:={ size:=H.size+1,blk:=H.blk.s H.size (.mapb [] (some 0)),fams:=H.fams }
theorem Evol.mapNew {U:Inj}{base:Base}{w0 w:World}{H:Heap}(h:MRel U base w0 H w):Evol H (mapNew H):=by
 have hold:∀ i,i<H.size->(Am.mapNew H).blk.get i=H.blk.get i:=fun i hi=>T.get_set_ne _ _ (by omega)
 exact⟨Nat.le_succ _,fun i hi=>by simp only[Heap.room?,hold i hi],fun i cs _ _ _ _ _ st hg=>⟨cs,st,by rw[hold i (h.lt _ _ hg)];exact hg,Nat.le_refl _,fun _=>rfl⟩,
  fun f fr la hg=>⟨fr,la,hg,Nat.le_refl _⟩⟩
theorem MRel.mapNew {U:Inj}{base:Base}{w0 w:World}{H:Heap}(h:MRel U base w0 H w) :
  MRel (upd U H.size (w.heap.size,0)) base w0 (mapNew H) (w.alloc (.map #[] 0)):=by
 have hev:=Evol.mapNew h
 have hext:=Ext.upd H U (w.heap.size,0)
 have hheap:∀ b,b<w.heap.size->(w.alloc (.map #[] 0)).heap[b]?=w.heap[b]?:=fun b hb=>heap_alloc_old _ _ _ hb
 have hnewG:(Am.mapNew H).blk.get H.size=some (.mapb [] (some 0)):=T.get_set_same _ _ _
 have holdG:∀ i,i≠H.size->(Am.mapNew H).blk.get i=H.blk.get i:=fun i hi=>T.get_set_ne _ _ (Ne.symm hi)
 have part:∀ i cs1 r1 f1 v1 w1 p1 s1,(Am.mapNew H).blk.get i=some (.mem cs1 r1 f1 v1 w1 p1 s1)->i<H.size/\H.blk.get i=some (.mem cs1 r1 f1 v1 w1 p1 s1):=by
  intro i cs1 r1 f1 v1 w1 p1 s1 hi
  by_cases e:i=H.size
  ·subst e;rw[hnewG]at hi;cases hi
  ·rw[holdG _ e]at hi;exact⟨h.lt _ _ hi,hi⟩
 have ipart:∀ i s p,(Am.mapNew H).blk.get i=some (.iter s p)->i≠H.size/\H.blk.get i=some (.iter s p):=by
  intro i s p hi
  by_cases e:i=H.size
  ·subst e;rw[hnewG]at hi;cases hi
  ·rw[holdG _ e]at hi;exact⟨e,hi⟩
 refine⟨h.below.alloc h.base_le _,by rw[World.size_alloc];have:=h.base_le;omega,?_,?_,?_,?_,?_,?_,?_,?_,?_,?_,?_,?_,?_,?_,?_⟩
 ·intro i b hi
  by_cases e:i=H.size
  ·subst e;exact Nat.lt_succ_self _
  ·rw[holdG _ e]at hi;exact Nat.lt_succ_of_lt (h.lt _ _ hi)
 ·intro i cs1 r1 f1 v1 w1 p1 s1 hi
  obtain⟨a1,a2⟩:=h.fam _ _ _ _ _ _ _ _ (part _ _ _ _ _ _ _ _ hi).2
  exact⟨Nat.lt_succ_of_lt a1,a2⟩
 ·intro i cs1 r1 f1 v1 w1 p1 s1 hi
  obtain⟨a1,a2⟩:=h.cells _ _ _ _ _ _ _ _ (part _ _ _ _ _ _ _ _ hi).2
  exact⟨a1,a2.mono hev⟩
 ·intro i cs1 r1 f1 v1 w1 p1 s1 fr1 la1 hi hfi hvi
  obtain⟨hlt,ki⟩:=part _ _ _ _ _ _ _ _ hi
  have hk:=h.ok _ _ _ _ _ _ _ _ _ _ ki hfi hvi
  exact hk.keep (hheap _ hk.block_lt) (upd_ne U _ (by omega)) hext (h.cells _ _ _ _ _ _ _ _ ki).2
 ·intro i cs1 r1 f1 v1 p1 s1 fr1 la1 j cs2 r2 f2 v2 w2 p2 s2 fr2 la2 hi hfi hvi hj hfj hvj he
  obtain⟨hlt,ki⟩:=part _ _ _ _ _ _ _ _ hi
  obtain⟨hltj,kj⟩:=part _ _ _ _ _ _ _ _ hj
  rw[upd_ne U _ (by omega),upd_ne U _ (by omega)]at he
  exact h.sep _ _ _ _ _ _ _ _ _ _ _ _ _ _ _ _ _ _ _ ki hfi hvi kj hfj hvj he
 ·intro i cs1 r1 f1 v1 w1 p1 s1 j cs2 r2 w2 p2 s2 hi hj
  exact h.ver _ _ _ _ _ _ _ _ _ _ _ _ _ _ (part _ _ _ _ _ _ _ _ hi).2 (part _ _ _ _ _ _ _ _ hj).2
 ·intro i s1 pos hi
  obtain⟨e,hi⟩:=ipart _ _ _ hi
  obtain⟨a1,az,a2⟩:=h.iter _ _ _ hi
  rw[upd_ne U _ e]
  exact⟨a1,az,by rw[hheap _ (Array.getElem?_eq_some_iff.1 a2).1];exact a2⟩
 ·intro f y hh
  exact Nat.lt_succ_of_lt (h.famlt _ _ hh)
 ·intro i cs1 r1 f1 v1 w1 p1 s1 fr1 la1 j cs2 r2 v2 w2 p2 s2 hi hfi hvi hj hvj he hlev
  obtain⟨hlt,ki⟩:=part _ _ _ _ _ _ _ _ hi
  obtain⟨hltj,kj⟩:=part _ _ _ _ _ _ _ _ hj
  rw[upd_ne U _ (by omega),upd_ne U _ (by omega)]at he ⊢
  exact h.ends _ _ _ _ _ _ _ _ _ _ _ _ _ _ _ _ _ ki hfi hvi kj hvj he hlev
 ·intro i s1 p j s' p' hi hj he
  obtain⟨e,hi⟩:=ipart _ _ _ hi
  obtain⟨e',hj⟩:=ipart _ _ _ hj
  rw[upd_ne U _ e,upd_ne U _ e']at he
  exact h.isep _ _ _ _ _ _ hi hj he
 ·intro i cs1 r1 f1 v1 w1 p1 s1 fr1 la1 hi hfi hvi
  obtain⟨hlt,ki⟩:=part _ _ _ _ _ _ _ _ hi
  rw[upd_ne U _ (by omega)]
  exact h.gh _ _ _ _ _ _ _ _ _ _ ki hfi hvi
 ·intro i cs1 r1 f1 v1 w1 s1 fr1 la1 hi hfi hvi hw1
  obtain⟨hlt,ki⟩:=part _ _ _ _ _ _ _ _ hi
  rw[upd_ne U _ (by omega)]
  obtain⟨c',el',lo',e⟩:=h.plok _ _ _ _ _ _ _ _ _ ki hfi hvi hw1
  exact⟨c',el',lo',by rw[hheap _ (Array.getElem?_eq_some_iff.1 e).1];exact e⟩
 ·intro i cs1 r1 f1 v1 w1 p1 s1 j cs2 r2 v2 w2 p2 s2 hi hj
  exact h.plfam _ _ _ _ _ _ _ _ _ _ _ _ _ _ _ (part _ _ _ _ _ _ _ _ hi).2 (part _ _ _ _ _ _ _ _ hj).2
 ·intro i es clk hi
  by_cases e:i=H.size
  ·subst e
   rw[hnewG]at hi
   cases hi
   rw[upd_same]
   exact⟨h.below.free h.base_le,⟨#[],0,heap_alloc_new _ _,MapKept.stamped_empty 0,fun c hc=>⟨Option.some.inj hc,rfl⟩,fun hc=>by cases hc⟩,fun p hp=>by cases hp⟩
  ·rw[holdG _ e]at hi
   obtain⟨a1,⟨ents,clock,a2,a3⟩,a4⟩:=h.maps _ _ _ hi
   rw[upd_ne U _ e]
   exact⟨a1,⟨ents,clock,by rw[hheap _ (Array.getElem?_eq_some_iff.1 a2).1];exact a2,a3.ext (H:=H) hext a4⟩,fun p hp=>VOk.mono hev _ (a4 p hp)⟩
 ·intro i es c1 j es' c2 hi hj he
  have hlt:∀ k es2 c2,(Am.mapNew H).blk.get k=some (.mapb es2 c2)->k≠H.size->(U k).1<w.heap.size:=fun k es2 c2 hk hne=>by
   rw[holdG _ hne]at hk
   obtain⟨_,⟨_,_,a2,_⟩,_⟩:=h.maps _ _ _ hk
   exact(Array.getElem?_eq_some_iff.1 a2).1
  by_cases e:i=H.size
  ·by_cases e':j=H.size
   ·omega
   ·have:=hlt _ _ _ hj e'
    subst e
    rw[upd_same,upd_ne U _ e']at he
    omega
  ·by_cases e':j=H.size
   ·have:=hlt _ _ _ hi e
    subst e'
    rw[upd_same,upd_ne U _ e]at he
    omega
   ·rw[holdG _ e]at hi
    rw[holdG _ e']at hj
    rw[upd_ne U _ e,upd_ne U _ e']at he
    exact h.msep _ _ _ _ _ _ hi hj he
theorem Evol.mapSet {H:Heap}{id:Nat}{es es':List (List UInt8 × V × Nat)}{clk clk':Option Nat}(hg:H.blk.get id=some (.mapb es clk)):Evol H (zDz H id es' clk'):=by
 refine⟨Nat.le_refl _,fun i hi=>?_,fun i cs _ _ _ _ _ st hi=>?_,fun f fr la h=>⟨fr,la,h,Nat.le_refl _⟩⟩
 ·by_cases e:id=i
  ·subst e;simp only[Heap.room?,zDz,T.get_set_same,hg]
  ·simp only[Heap.room?,zDz,T.get_set_ne _ _ e]
 ·have e:id≠i:=fun e=>by subst e;rw[hg]at hi;cases hi
  exact⟨cs,st,by simp only[zDz,T.get_set_ne _ _ e];exact hi,Nat.le_refl _,fun _=>rfl⟩
theorem MRel.mapSet {U:Inj}{base:Base}{w0 w:World}{H:Heap}(h:MRel U base w0 H w){id:Nat}{es es':List (List UInt8 × V × Nat)}{clk clk':Option Nat}(hg:H.blk.get id=some (.mapb es clk)){ents':Array MapEntry}(clock':Nat)(hr:MapR U es' clk' ents' clock')(hv:∀ p ∈ es',VOk H p.2.1) :
  MRel U base w0 (zDz H id es' clk') (zBL w (U id).1 (.map ents' clock')):=by
 obtain⟨hb,⟨ents,clock,h1,_⟩,_⟩:=h.maps _ _ _ hg
 have hlt:(U id).1<w.heap.size:=(Array.getElem?_eq_some_iff.1 h1).1
 have hev:=Evol.mapSet (es':=es') (clk':=clk') hg
 have same:(zDz H id es' clk').blk.get id=some (.mapb es' clk'):=T.get_set_same _ _ _
 have other:∀ i,id≠i->(zDz H id es' clk').blk.get i=H.blk.get i:=fun i e=>T.get_set_ne _ _ e
 have part:∀ i cs1 r1 f1 v1 w1 p1 s1,(zDz H id es' clk').blk.get i=some (.mem cs1 r1 f1 v1 w1 p1 s1)->H.blk.get i=some (.mem cs1 r1 f1 v1 w1 p1 s1):=by
  intro i cs1 r1 f1 v1 w1 p1 s1 hi
  by_cases e:id=i
  ·subst e;rw[same]at hi;cases hi
  ·rw[other _ e]at hi;exact hi
 have ipart:∀ i s1 p1,(zDz H id es' clk').blk.get i=some (.iter s1 p1)->H.blk.get i=some (.iter s1 p1):=by
  intro i s1 p1 hi
  by_cases e:id=i
  ·subst e;rw[same]at hi;cases hi
  ·rw[other _ e]at hi;exact hi
 refine⟨zHB h.below hb _,by rw[zFD];exact h.base_le,?_,?_,?_,?_,?_,?_,?_,h.famlt,?_,?_,?_,?_,?_,?_,?_⟩
 ·intro i b hi
  by_cases e:id=i
  ·subst e;exact h.lt _ _ hg
  ·rw[other _ e]at hi;exact h.lt _ _ hi
 ·intro i cs1 r1 f1 v1 w1 p1 s1 hi
  exact h.fam _ _ _ _ _ _ _ _ (part _ _ _ _ _ _ _ _ hi)
 ·intro i cs1 r1 f1 v1 w1 p1 s1 hi
  obtain⟨a1,a2⟩:=h.cells _ _ _ _ _ _ _ _ (part _ _ _ _ _ _ _ _ hi)
  exact⟨a1,a2.mono hev⟩
 ·intro i cs1 r1 f1 v1 w1 p1 s1 fr1 la1 hi hfi hvi
  have ki:=part _ _ _ _ _ _ _ _ hi
  have hk:=h.ok _ _ _ _ _ _ _ _ _ _ ki hfi hvi
  have hne:(U id).1≠(U i).1:=fun e=>by
   obtain⟨c,el,lo,up,k1,_⟩:=hk
   rw[<- e,h1]at k1
   cases k1
  exact hk.keep (H:=H) (zAh w _ hne) rfl (Ext.refl H U) (h.cells _ _ _ _ _ _ _ _ ki).2
 ·intro i cs1 r1 f1 v1 p1 s1 fr1 la1 j cs2 r2 f2 v2 w2 p2 s2 fr2 la2 hi hfi hvi hj hfj hvj he
  exact h.sep _ _ _ _ _ _ _ _ _ _ _ _ _ _ _ _ _ _ _ (part _ _ _ _ _ _ _ _ hi) hfi hvi (part _ _ _ _ _ _ _ _ hj) hfj hvj he
 ·intro i cs1 r1 f1 v1 w1 p1 s1 j cs2 r2 w2 p2 s2 hi hj
  exact h.ver _ _ _ _ _ _ _ _ _ _ _ _ _ _ (part _ _ _ _ _ _ _ _ hi) (part _ _ _ _ _ _ _ _ hj)
 ·intro i s1 pos hi
  obtain⟨a1,az,a2⟩:=h.iter _ _ _ (ipart _ _ _ hi)
  refine⟨a1,az,?_⟩
  have:(U id).1≠(U i).1:=fun e=>by rw[<- e,h1]at a2;cases a2
  rw[zAh _ _ this];exact a2
 ·intro i cs1 r1 f1 v1 w1 p1 s1 fr1 la1 j cs2 r2 v2 w2 p2 s2 hi hfi hvi hj hvj he hlev
  exact h.ends _ _ _ _ _ _ _ _ _ _ _ _ _ _ _ _ _ (part _ _ _ _ _ _ _ _ hi) hfi hvi (part _ _ _ _ _ _ _ _ hj) hvj he hlev
 ·intro i s1 p1 j s2 p2 hi hj he
  exact h.isep _ _ _ _ _ _ (ipart _ _ _ hi) (ipart _ _ _ hj) he
 ·intro i cs1 r1 f1 v1 w1 p1 s1 fr1 la1 hi hfi hvi
  exact h.gh _ _ _ _ _ _ _ _ _ _ (part _ _ _ _ _ _ _ _ hi) hfi hvi
 ·intro i cs1 r1 f1 v1 w1 s1 fr1 la1 hi hfi hvi hw1
  obtain⟨c',el',lo',e⟩:=h.plok _ _ _ _ _ _ _ _ _ (part _ _ _ _ _ _ _ _ hi) hfi hvi hw1
  exact⟨c',el',lo',by rw[zAh _ _ (fun e'=>by rw[<- e',h1]at e;cases e)];exact e⟩
 ·intro i cs1 r1 f1 v1 w1 p1 s1 j cs2 r2 v2 w2 p2 s2 hi hj
  exact h.plfam _ _ _ _ _ _ _ _ _ _ _ _ _ _ _ (part _ _ _ _ _ _ _ _ hi) (part _ _ _ _ _ _ _ _ hj)
 ·intro i es2 c2 hi
  by_cases e:id=i
  ·subst e
   rw[same]at hi
   cases hi
   exact⟨hb,⟨ents',clock',zCo _ _ _ hlt,hr⟩,fun p hp=>VOk.mono hev _ (hv p hp)⟩
  ·rw[other _ e]at hi
   obtain⟨a1,⟨ents2,clock2,a2,a3⟩,a4⟩:=h.maps _ _ _ hi
   have hne:(U id).1≠(U i).1:=fun e'=>e (h.msep _ _ _ _ _ _ hg hi e')
   exact⟨a1,⟨ents2,clock2,by rw[zAh _ _ hne];exact a2,a3⟩,fun p hp=>VOk.mono hev _ (a4 p hp)⟩
 ·intro i es2 c2 j es3 c3 hi hj he
  have key:∀ {i es2 c2},(zDz H id es' clk').blk.get i=some (.mapb es2 c2)->∃ es3 c3,H.blk.get i=some (.mapb es3 c3):=by
   intro i es2 c2 hi
   by_cases e:id=i
   ·subst e;exact⟨es,clk,hg⟩
   ·rw[other _ e]at hi;exact⟨es2,c2,hi⟩
  obtain⟨_,_,hi⟩:=key hi
  obtain⟨_,_,hj⟩:=key hj
  exact h.msep _ _ _ _ _ _ hi hj he
theorem MRel.mark {U:Inj}{base:Base}{w0 w:World}{H:Heap}(h:MRel U base w0 H w){b:Nat}{c:Array Value}{el:TypeId}{lo hi lo' hi':Nat}
  (h1:w.heap[b]?=some (.cells c el (lo,hi))) (hb:base.Free b) (hfz:lo'=hi'∨c.size<=lo') (hnp:∀ i cs1 r1 f1 v1 s1 fr1 la1,H.blk.get i=some (.mem cs1 r1 f1 v1 true true s1)->H.fams.get f1=some (fr1,la1)->fr1<=v1->(U i).1≠b):MRel U base w0 H (zBL w b (.cells c el (lo',hi'))):=by
 have hlt:b<w.heap.size:=(Array.getElem?_eq_some_iff.1 h1).1
 refine⟨zHB h.below hb _,by rw[zFD];exact h.base_le,h.lt,h.fam,h.cells,?_,h.sep,h.ver,?_,h.famlt,h.ends,h.isep,h.gh,fun i cs1 r1 f1 v1 w1 s1 fr1 la1 hi hfi hvi hw1=>by
   obtain⟨c',el',lo1,e⟩:=h.plok _ _ _ _ _ _ _ _ _ hi hfi hvi hw1
   subst hw1
   exact⟨c',el',lo1,by rw[zAh _ _ (Ne.symm (hnp _ _ _ _ _ _ _ _ hi hfi hvi))];exact e⟩,h.plfam,fun i es clk hi=>by
   obtain⟨a1,⟨ents,clock,a2,a3⟩,a4⟩:=h.maps _ _ _ hi
   exact⟨a1,⟨ents,clock,by rw[zAh _ _ (fun e'=>by rw[<- e',h1]at a2;cases a2)];exact a2,a3⟩,a4⟩,h.msep⟩
 ·intro i cs1 r1 f1 v1 w1 p1 s1 fr1 la1 hi hfi hvi
  have hk:=h.ok _ _ _ _ _ _ _ _ _ _ hi hfi hvi
  by_cases e:b=(U i).1
  ·obtain⟨c',el',lo1,up1,k1,k2,k3,k4⟩:=hk
   rw[<- e,h1]at k1
   injection k1 with k1
   injection k1 with k5 k6 k7
   subst k5 k6
   exact⟨c,el,lo',hi',by rw[<- e];exact zCo _ _ _ hlt,k2,k3,fun hw=>⟨(k4 hw).1,hfz⟩⟩
  ·exact hk.keep (H:=H) (zAh w _ e) rfl (Ext.refl H U) (h.cells _ _ _ _ _ _ _ _ hi).2
 ·intro i s pos hi
  obtain⟨a1,az,a2⟩:=h.iter _ _ _ hi
  refine⟨a1,az,?_⟩
  have:b≠(U i).1:=fun e=>by rw[<- e,h1]at a2;cases a2
  rw[zAh _ _ this];exact a2
end Go.Am

