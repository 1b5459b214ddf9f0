/-
  THE ABSTRACT MACHINE 'Am', third part: the model's code written as the machine's.
-/
import GoSem.Core.Region
import GoSem.Core.Layout
import GoSem.Core.Program
import GoSem.Op.Equal
import Derived.Test.YtpfaceclaigpgaaDoorAm2
namespace Go.Am

/-- a constant of one cell -/
def cv1? : Value → Option V
  | .bool b => some (.bool b)
  | .int k n => some (.int k n)
  | .string s => some (.str s.data.toList)
  | .pointer none => some .nilp
  | .slice none 0 0 => some .nils
  | .map none => some .nilm
  | .nilFunc => some .nilf
  | .nilIface => some .nili
  | _ => none

def allSome {α β : Type} (f : α → Option β) : List α → Option (List β)
  | [] => some []
  | a :: l => match f a with
    | some b => match allSome f l with
      | some r => some (b :: r)
      | none => none
    | none => none

def cv? : Value → Option V
  | .agg cs => match allSome cv1? cs.toList with | some l => some (.agg l) | none => none
  | .tuple cs => match allSome cv1? cs.toList with | some l => some (.tup l) | none => none
  | v => cv1? v

section
variable (P : Program)

def trO : Operand → Option O
  | .tmp t => some (.t t)
  | .const v => match cv? v with | some v => some (.c v) | none => none
  | .global g => if g < P.globals.size then some (.c (.ptr g 0)) else none
  | .func f => some (.c (.func f [] []))

def aggT (t : TypeId) : Bool :=
  match P.underlying t with
  | some (.struct _) => true
  | some (.array _ _) => true
  | _ => false

def zeroT (t : TypeId) : Option (List V) :=
  match P.info? t with
  | some i => match i.zero with
    | some v => allSome cv1? v.cells.toList
    | none => none
  | none => none

def aggN (t : TypeId) : Option Nat := if aggT P t then some (P.cellsOf t) else none

def u8T (t : TypeId) : Bool :=
  match P.underlying t with
  | some (.int .u8) => true
  | _ => false

/-- how values of a type are held against each other: those of one cell -/
def eq1 (t : TypeId) : Option E :=
  match P.underlying t with
  | some .bool => some .bool
  | some (.int _) => some .int
  | some .string => some .str
  | _ => none

def eqFields : List Field → Nat → Option (List E)
  | [], _ => some []
  | f :: fs, off =>
    if f.name ≠ "_" ∧ f.offset = off ∧ aggT P f.type = false then
      match eq1 P f.type, eqFields fs (off + 1) with
      | some e, some es => some (e :: es)
      | _, _ => none
    else none

def eqOf (t : TypeId) : Option E :=
  match P.underlying t with
  | some .bool => some .bool
  | some (.pointer _) => some .ptr
  | some (.slice _) => some .slice
  | some (.map _ _) => some .map
  | some (.func _ _ _) => some .func
  | some (.struct fs) =>
    if P.stoodInHeld t = false ∧ P.eqGuardType P.depth t = false then
      match eqFields P fs.toList 0 with
      | some es => some (.flat es)
      | none => none
    else none
  | _ => none

/-- where a struct's or an array's parts lie -/
def placeOf (t : TypeId) (i : Nat) : Option (Nat × Nat) :=
  match P.underlying t with
  | some (.struct fs) => match fs[i]? with
    | some f => some (f.offset, P.cellsOf f.type)
    | none => none
  | some (.array _ e) => some (i * P.cellsOf e, P.cellsOf e)
  | _ => none

/-- a type that is known -/
def kn {α : Type} (t : TypeId) (x : Option α) : Option α := if (P.underlying t).isSome then x else none

/-- an element of whose zero value all is known -/
def elemOk (e : TypeId) : Bool :=
  match zeroT P e with
  | some z => z.length == P.cellsOf e && P.cellsOf e != 0 && (P.underlying e).isSome
  | none => false

def partsOk (t : TypeId) : Bool :=
  match P.underlying t with
  | some (.struct fs) => fs.toList.all fun f => (P.underlying f.type).isSome
  | some (.array _ e) => (P.underlying e).isSome
  | _ => false

def plainCall (f : FuncId) : Bool :=
  match P.funcs[f]? with
  | some fn => fn.body.isSome && fn.name != "runtime.NumGoroutine"
  | none => false

def trBuiltin (b : Builtin) (argTypes : List TypeId) : Option AOp :=
  match b, argTypes with
  | .len, t :: _ => match P.underlying t with
    | some .string => some (.p .lenS)
    | some (.slice _) => some (.p .len)
    | some (.array n _) => some (.p (.arrLen n))
    | some (.pointer a) => match P.underlying a with
      | some (.array n _) => some (.p (.arrLen n))
      | _ => none
    | _ => none
  | .cap, t :: _ => match P.underlying t with
    | some (.slice _) => some (.p .cap)
    | _ => none
  | .append, [t, u] => match P.underlying t, P.underlying u with
    | some (.slice e), some (.slice _) => if elemOk P e then some (.e (.append (P.cellsOf e) (P.bytesOf e))) else none
    | some (.slice e), some .string => if elemOk P e ∧ P.cellsOf e = 1 then some (.e (.append (P.cellsOf e) (P.bytesOf e))) else none
    | _, _ => none
  | .copy, [t, u] => match P.underlying t, P.underlying u with
    | some (.slice e), some (.slice _) => if elemOk P e then some (.e (.copy (P.cellsOf e))) else none
    | some (.slice e), some .string => if elemOk P e ∧ P.cellsOf e = 1 then some (.e (.copy (P.cellsOf e))) else none
    | _, _ => none
  | .clear, [t] => match P.underlying t with
    | some (.slice e) => match zeroT P e with
      | some z => if elemOk P e then some (.e (.clear (P.cellsOf e) z)) else none
      | none => none
    | _ => none
  | .min, _ => some (.p .min2)
  | .max, _ => some (.p .max2)
  | _, _ => none

def trOp (op : Go.Op) : Option (AOp × List Operand) :=
  match op with
  | .move x => some (.p .mv, [x])
  | .assign x => some (.p .mv, [x])
  | .pick c a b => some (.p .pick, [c, a, b])
  | .alloc t => match zeroT P t with
    | some z => some (.e (.alloc z), [])
    | none => none
  | .box _ x => some (.e .box, [x])
  | .build t parts => match zeroT P t, allSome (placeOf P t) (parts.toList.map (·.1)) with
    | some z, some ps => if partsOk P t then some (.p (.build z ps), parts.toList.map (·.2)) else none
    | _, _ => none
  | .buildSlice t len parts => match P.underlying t with
    | some (.slice e) => match zeroT P e with
      | some z => if len * P.cellsOf e ≤ 65536 ∧ elemOk P e then
          some (.e (.buildSlice len (P.cellsOf e) (repl len z) (parts.toList.map fun p => (p.1 * P.cellsOf e, P.cellsOf e))), parts.toList.map (·.2)) else none
      | none => none
    | _ => none
  | .load t a => kn P t (some (.l (.load (aggN P t)), [a]))
  | .store t a x => kn P t (some (.e (.store (P.cellsOf t)), [a, x]))
  | .nilCheck x => some (.p .nilck, [x])
  | .binOp b t x y _ => match P.underlying t with
    | some (.int _) => some (.p (.bin b), [x, y])
    | some .string => some (.p (.bin b), [x, y])
    | _ => match b, eqOf P t with
      | .eql, some e => some (.p (.eq false e), [x, y])
      | .neq, some e => some (.p (.eq true e), [x, y])
      | _, _ => none
  | .unOp u _ x => some (.p (.un u), [x])
  | .convert s t x => match P.underlying s, P.underlying t with
    | some (.int _), some (.int k) => some (.p (.toInt k), [x])
    | some (.int _), some .string => some (.p .runeStr, [x])
    | some .string, some .string => some (.p .asStr, [x])
    | some .string, some (.slice e) => if u8T P e ∧ P.cellsOf e = 1 then some (.e .strBytes, [x]) else none
    | some (.slice _), some (.slice e) => if u8T P e ∧ s = t then some (.e .mark, [x]) else none
    | some (.slice e), some .string => if u8T P e then some (.l .bytesStr, [x]) else none
    | _, _ => none
  | .makeInterface t x => match P.underlying t with
    | some (.interface _) => none
    | some _ => some (.p (.mkIface t), [x])
    | none => none
  | .makeFunc (.func f) first captured => some (.p (.mkFunc f first.size), first.toList ++ captured.toList)
  | .makeSlice t l c => match P.underlying t with
    | some (.slice e) => match zeroT P e with
      | some z => if elemOk P e then some (.e (.makeSlice (P.cellsOf e) (P.bytesOf e) z), [l, c]) else none
      | none => none
    | _ => none
  | .slice t x lo hi mx =>
    let args := x :: (lo.toList ++ hi.toList ++ mx.toList)
    match P.underlying t with
    | some .string => if mx.isSome then none else some (.p (.strSlice lo.isSome hi.isSome), args)
    | some (.slice e) => if mx.isSome && !hi.isSome then none else kn P e (some (.p (.slSlice (P.cellsOf e) lo.isSome hi.isSome mx.isSome), args))
    | some (.array n e) => if mx.isSome && !hi.isSome then none else kn P e (some (.p (.arrSlice n (P.cellsOf e) lo.isSome hi.isSome mx.isSome), args))
    | some (.pointer a) => match P.underlying a with
      | some (.array n e) => if mx.isSome && !hi.isSome then none else kn P e (some (.p (.arrSlice n (P.cellsOf e) lo.isSome hi.isSome mx.isSome), args))
      | _ => none
    | _ => none
  | .fieldAddr t x i => match P.underlying t with
    | some (.struct fs) => match fs[i]? with
      | some f => if P.cellsOf f.type = 0 then none else kn P f.type (some (.p (.fieldAddr f.offset), [x]))
      | none => none
    | _ => none
  | .field t x i => match P.underlying t with
    | some (.struct fs) => match fs[i]? with
      | some f => kn P f.type (some (.p (.field f.offset (P.cellsOf f.type) (aggT P f.type)), [x]))
      | none => none
    | _ => none
  | .indexAddr t x i => match P.underlying t with
    | some (.slice e) => kn P e (some (.p (.slIdx (P.cellsOf e)), [x, i]))
    | some (.array n e) => kn P e (some (.p (.arrIdx n (P.cellsOf e)), [x, i]))
    | _ => none
  | .index t x i => match P.underlying t with
    | some .string => some (.p .strIndex, [x, i])
    | some (.array n e) => kn P e (some (.p (.arrIndex n (P.cellsOf e) (aggT P e)), [x, i]))
    | _ => none
  | .extract x i => some (.p (.extract i), [x])
  | .range t x => match P.underlying t with
    | some .string => some (.e .range, [x])
    | _ => none
  | .next x true => some (.e .next, [x])
  | .call c => match c.callee with
    | .value (.func f) => if plainCall P f then some (.call f, c.args.toList) else none
    | .value f => some (.callv, f :: c.args.toList)
    | .builtin b => match trBuiltin P b c.argTypes.toList with
      | some o => some (o, c.args.toList)
      | none => none
    | .invoke _ _ => none
  | _ => none

/-- the temporary that a guard looks at -/
def trGuard (ops : List Oper) : Option (Nat × Bool) → Option (Option (Nat × Bool))
  | none => some none
  | some (j, w) => match ops[j]? with
    | some o => match o.dst with
      | some d => some (some (d, w))
      | none => none
    | none => none

def trIns (nt : Nat) (ops : List Oper) (o : Oper) : Option Ins :=
  if o.dst.all (· < nt) then
  match trOp P o.op, trGuard ops o.guard with
  | some (op, args), some g => match allSome (trO P) args with
    | some args => some ⟨o.dst, g, op, args, none⟩
    | none => none
  | _, _ => none
  else none

/-! ### Regions that draw their order -/
def maskOf (o : Oper) (acc : List Nat) : Nat :=
  o.after.toList.foldl (fun s e => if Region.binds .any e then s ||| 2 ^ e.on ||| acc.getD e.on 0 else s) 0

/-- which operations come ahead of each, in whatever order -/
def befs : List Oper → List Nat → List Nat
  | [], acc => acc
  | o :: os, acc => befs os (acc ++ [maskOf o acc])

def readsOf (i : Ins) : List Nat :=
  (i.args.filterMap fun | .t t => some t | .c _ => none) ++ (match i.guard with | some (t, _) => [t] | none => [])

/-- operation number j writes what number i reads: one comes ahead of the other, always -/
def parted (bs : List Nat) (i j : Nat) (x y : Ins) : Bool :=
  (match y.dst with
    | some d => !(readsOf x).contains d || (decide (j < i) && (bs.getD i 0).testBit j) || (decide (i < j) && (bs.getD j 0).testBit i)
    | none => true) &&
  (match x.dst, y.dst with
    | some d, some e => d != e
    | _, _ => true) &&
  (!(x.op.eff && y.op.eff && decide (j < i)) || (bs.getD i 0).testBit j)

def partedAll (bs : List Nat) (is : List Ins) : Bool :=
  is.zipIdx.all fun (x, i) => is.zipIdx.all fun (y, j) => i == j || parted bs i j x y

def edgesOk (ops : List Oper) : Bool :=
  ops.zipIdx.all fun (o, i) => o.after.toList.all fun e => !Region.binds .any e || decide (e.on < i)

def effs (is : List Ins) : List Nat := (is.zipIdx.filter (·.1.op.eff)).map (·.2)

def rngOf (bs : List Nat) (is : List Ins) (i : Nat) (x : Ins) : Option (Nat × Nat) :=
  match x.op with
  | .l _ =>
    let lo := ((effs is).filter fun e => (bs.getD i 0).testBit e).length
    let hi := ((effs is).filter fun e => !(bs.getD e 0).testBit i).length
    if lo = hi then none else some (lo, hi)
  | _ => none

def withRng (bs : List Nat) (is : List Ins) : List Ins :=
  is.zipIdx.map fun (x, i) => { x with rng := rngOf bs is i x }

def trDraw (nt : Nat) (ops : List Oper) : Option (List Ins) :=
  match allSome (trIns P nt ops) ops with
  | some is =>
    let bs := befs ops []
    if edgesOk ops && partedAll bs is then some (withRng bs is) else none
  | none => none

def trCode (nt : Nat) : Code → C
  | .skip => .skip
  | .region _ ops true => match trDraw P nt ops.toList with
    | some is => .draw is
    | none => .bad
  | .region _ ops false => match allSome (trIns P nt ops.toList) ops.toList with
    | some is => .reg is
    | none => .bad
  | .seq a b => .seq (trCode nt a) (trCode nt b)
  | .cond x a b => match trO P x with
    | some x => .cond x (trCode nt a) (trCode nt b)
    | none => .bad
  | .block id c => .block id (trCode nt c)
  | .loop c => .loop (trCode nt c)
  | .scope c => .scope (trCode nt c)
  | .label _ => .skip
  | .exit id => .exit id
  | .ret => .ret
  | _ => .bad

def trRes : ResultVar → R
  | .tmp t => .t t
  | .cell a t => .cell a (aggN P t)

def resOk : ResultVar → Bool
  | .tmp _ => true
  | .cell _ t => (P.underlying t).isSome

def trFn (f : Func) : Option Fun :=
  match f.body with
  | some c => if f.results.toList.all (resOk P) = false then none else some ⟨f.params.size + f.nfree, trCode P f.ntmps c, f.results.toList.map (trRes P)⟩
  | none => none
end
end Go.Am
