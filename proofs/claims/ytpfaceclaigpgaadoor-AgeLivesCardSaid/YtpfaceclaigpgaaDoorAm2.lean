/-
  THE ABSTRACT MACHINE 'Am', second part: operations, code, calls.
-/
import Derived.Test.YtpfaceclaigpgaaDoorAm1
namespace Go.Am

/-! ### Operations -/
inductive O where
  | t (i : Nat)
  | c (v : V)
  deriving Inhabited

/-- operations that look at values alone -/
inductive POp where
  | mv
  | pick
  | build (zero : List V) (ps : List (Nat × Nat))
  | bin (b : BinOp)
  | eq (neg : Bool) (e : E)
  | un (u : UnOp)
  | toInt (k : IntKind)
  | runeStr
  | asStr
  | strSlice (lo hi : Bool)
  | slSlice (z : Nat) (lo hi mx : Bool)
  | arrSlice (n z : Nat) (lo hi mx : Bool)
  | fieldAddr (off : Nat)
  | slIdx (z : Nat)
  | arrIdx (n z : Nat)
  | strIndex
  | arrIndex (n z : Nat) (agg : Bool)
  | field (off n : Nat) (agg : Bool)
  | extract (i : Nat)
  | mkFunc (f first : Nat)
  | mkIface (t : Nat)
  | lenS
  | len
  | arrLen (n : Nat)
  | cap
  | min2
  | max2
  | nilck

/-- operations that read memory -/
inductive LOp where
  | load (agg : Option Nat)
  | bytesStr

/-- operations that lay or write memory -/
inductive EOp where
  | alloc (zero : List V)
  | box
  | buildSlice (len z : Nat) (zero : List V) (ps : List (Nat × Nat))
  | makeSlice (z bytes : Nat) (zero : List V)
  | store (n : Nat)
  | append (z bytes : Nat)
  | copy (z : Nat)
  | strBytes
  | mark
  | clear (z : Nat) (zero : List V)
  | range
  | next

inductive AOp where
  | p (o : POp)
  | l (o : LOp)
  | e (o : EOp)
  | call (f : Nat)
  | callv

/-- one operation of a region. 'rng': of a load in a region that draws its order: between which of the region's effects it may come, where that is more than one place. -/
structure Ins where
  dst : Option Nat
  guard : Option (Nat × Bool)
  op : AOp
  args : List O
  rng : Option (Nat × Nat)

inductive C where
  | skip
  | reg (ops : List Ins)
  | draw (ops : List Ins)
  | seq (a b : C)
  | cond (x : O) (a b : C)
  | block (id : Nat) (c : C)
  | loop (c : C)
  | exit (id : Nat)
  | ret
  | scope (c : C)
  | keep (l : List Nat) (c : C)
  | bad

inductive R where
  | t (i : Nat)
  | cell (a : Nat) (agg : Option Nat)

structure Fun where
  nparams : Nat
  body : C
  res : List R

/-! ### Operations on values -/
/-- a value's cells laid into others -/
def fillC (zero : List V) : List (Nat × Nat) → List V → Option (List V)
  | [], [] => some zero
  | (off, size) :: ps, v :: vs =>
    bif Nat.beq v.cells.length size && Nat.ble (off + size) zero.length then
      fillC (zero.take off ++ v.cells ++ zero.drop (off + size)) ps vs
    else none
  | _, _ => none

def natOf (n : Int) : Option Nat :=
  match n with
  | .ofNat m => forceN m some
  | .negSucc _ => none

/-- a bound of a slice: at most what is known, or known and unknown together -/
def within (m lo : Nat) (ex : Option Nat) : Bool :=
  bif Nat.ble m lo then true else match ex with | some e => Nat.ble m (lo + e) | none => false

def optN (has : Bool) (vs : List V) : Option (Option Nat × List V) :=
  match has, vs with
  | false, vs => some (none, vs)
  | true, .int _ n :: vs => match natOf n with | some m => some (some m, vs) | none => none
  | _, _ => none

/-- the three bounds, those that stand -/
def bounds3 (lo hi mx : Bool) (vs : List V) : Option (Option Nat × Option Nat × Option Nat) :=
  match optN lo vs with
  | some (l, vs) => match optN hi vs with
    | some (h, vs) => match optN mx vs with
      | some (m, []) => some (l, h, m)
      | _ => none
    | none => none
  | none => none

def strCut (s : List UInt8) (l h : Option Nat) : Option V :=
  let h := h.getD s.length
  let l := l.getD 0
  bif Nat.ble h s.length && Nat.ble l h then some (.str ((s.take h).drop l)) else none

/-- where a slice begins that is cut at 'l' out of one with room for m -/
def offAt (off l m z : Nat) : Nat := bif Nat.beq m l then off else off + l * z
/-- the same, the room being known in part -/
def offIn (off l lo : Nat) (ex : Option Nat) (z : Nat) : Nat :=
  bif Nat.beq l 0 then off else bif Nat.blt l lo then off + l * z else offAt off l (lo + ex.getD 0) z
theorem offIn_eq (off l lo : Nat) (ex : Option Nat) (z : Nat) : offIn off l lo ex z = offAt off l (lo + ex.getD 0) z := by
  unfold offIn offAt
  cases h : Nat.beq l 0 with
  | true =>
    have := Nat.eq_of_beq_eq_true h
    subst this
    cases Nat.beq (lo + ex.getD 0) 0 <;> simp
  | false =>
    cases h2 : Nat.blt l lo with
    | false => rfl
    | true =>
      have h3 : l < lo := by simpa [Nat.blt_eq] using h2
      have : Nat.beq (lo + ex.getD 0) l = false := by
        cases h4 : Nat.beq (lo + ex.getD 0) l with
        | false => rfl
        | true => have := Nat.eq_of_beq_eq_true h4; omega
      simp [this]

def slCut (id off len lo : Nat) (ex : Option Nat) (z : Nat) (l h m : Option Nat) : Option V :=
  match m with
  | some m =>
    let h := h.getD len
    let l := l.getD 0
    bif within m lo ex && Nat.ble h m && Nat.ble l h then some (.sl id (offAt off l m z) (h - l) (m - l) none z) else none
  | none =>
    let h := h.getD len
    let l := l.getD 0
    bif within h lo ex && Nat.ble l h then
      bif Nat.ble l lo then some (.sl id (offIn off l lo ex z) (h - l) (lo - l) ex z)
      else some (.sl id (offIn off l lo ex z) (h - l) 0 (some (lo + ex.getD 0 - l)) z)
    else none

/-- a slice of no room: nil -/
def nilCut (l h m : Option Nat) : Option V :=
  bif Nat.beq (l.getD 0) 0 && Nat.beq (h.getD 0) 0 && Nat.beq (m.getD 0) 0 then some .nils else none

def partOf (cs : List V) (off n : Nat) (agg : Bool) : Option V :=
  match agg with
  | true => bif Nat.ble (off + n) cs.length then some (.agg ((cs.drop off).take n)) else none
  | false => cs[off]?

/-- a rune's bytes, as the model has them -/
def encodeR (r : Int) : List UInt8 :=
  let c : Nat := match r with
    | .ofNat m => bif Nat.ble m 55295 || (Nat.ble 57344 m && Nat.ble m 1114111) then m else 65533
    | .negSucc _ => 65533
  bif Nat.blt c 128 then [UInt8.ofNat c]
  else bif Nat.blt c 2048 then [UInt8.ofNat (192 + c / 64), UInt8.ofNat (128 + c % 64)]
  else bif Nat.blt c 65536 then [UInt8.ofNat (224 + c / 4096), UInt8.ofNat (128 + c / 64 % 64), UInt8.ofNat (128 + c % 64)]
  else [UInt8.ofNat (240 + c / 262144), UInt8.ofNat (128 + c / 4096 % 64), UInt8.ofNat (128 + c / 64 % 64), UInt8.ofNat (128 + c % 64)]

/-- the first rune of a text that is not empty, and how many bytes it takes, as the model has them -/
def decodeR (s : List UInt8) : Nat × Nat :=
  let at' (k : Nat) : Nat := (s.getD k 0).toNat
  let cont (k : Nat) : Bool := Nat.blt k s.length && Nat.beq (at' k / 64) 2
  let b0 := at' 0
  bif Nat.blt b0 128 then (b0, 1)
  else bif Nat.beq (b0 / 32) 6 && cont 1 then
    let c := (b0 % 32) * 64 + at' 1 % 64
    bif Nat.ble 128 c then (c, 2) else (65533, 1)
  else bif Nat.beq (b0 / 16) 14 && cont 1 && cont 2 then
    let c := (b0 % 16) * 4096 + (at' 1 % 64) * 64 + at' 2 % 64
    bif Nat.ble 2048 c && (Nat.ble c 55295 || (Nat.ble 57344 c && Nat.ble c 1114111)) then (c, 3) else (65533, 1)
  else bif Nat.beq (b0 / 8) 30 && cont 1 && cont 2 && cont 3 then
    let c := (b0 % 8) * 262144 + (at' 1 % 64) * 4096 + (at' 2 % 64) * 64 + at' 3 % 64
    bif Nat.ble 65536 c && (Nat.ble c 55295 || (Nat.ble 57344 c && Nat.ble c 1114111)) then (c, 4) else (65533, 1)
  else (65533, 1)

def unOp (u : UnOp) (x : V) : Option V :=
  match u, x with
  | .neg, .int k n => mkI k (wr k (0 - n)) some
  | .xor, .int k n => mkI k (wr k (.ofNat (pow2 k - 1 - toU k n))) some
  | .not, .bool b => some (.bool !b)
  | _, _ => none

def pMv : List V → Option V
  | [x] => some x
  | _ => none
def pPick : List V → Option V
  | [.bool c, a, b] => match c with | true => some a | false => some b
  | _ => none
def pBuild (zero : List V) (ps : List (Nat × Nat)) (vs : List V) : Option V :=
  match fillC zero ps vs with | some cs => some (.agg cs) | none => none
def binInt (b : BinOp) (k : IntKind) (x : Int) (k' : IntKind) (y : Int) : Option V :=
  match b with
  | .shl => shiftOp .shl k x y
  | .shr => shiftOp .shr k x y
  | b => if k = k' then intBin b k x y else none
def pBin (b : BinOp) : List V → Option V
  | [.int k x, .int k' y] => binInt b k x k' y
  | [.str x, .str y] => strBin b x y
  | _ => none
def pEq (neg : Bool) (e : E) : List V → Option V
  | [x, y] => match eqV e x y with | some b => some (.bool (b != neg)) | none => none
  | _ => none
def pUn (u : UnOp) : List V → Option V
  | [x] => unOp u x
  | _ => none
def pToInt (k : IntKind) : List V → Option V
  | [.int _ n] => mkI k (wr k n) some
  | _ => none
def pRuneStr : List V → Option V
  | [.int _ n] => some (.str (encodeR n))
  | _ => none
def pAsStr : List V → Option V
  | [.str s] => some (.str s)
  | _ => none
def pStrSlice (lo hi : Bool) : List V → Option V
  | .str s :: vs => match bounds3 lo hi false vs with | some (l, h, _) => strCut s l h | none => none
  | _ => none
def pSlSlice (z : Nat) (lo hi mx : Bool) : List V → Option V
  | .sl id off len clo ex z' :: vs =>
    bif Nat.beq z z' then match bounds3 lo hi mx vs with | some (l, h, m) => slCut id off len clo ex z l h m | none => none else none
  | .nils :: vs => match bounds3 lo hi mx vs with | some (l, h, m) => nilCut l h m | none => none
  | _ => none
def pArrSlice (n z : Nat) (lo hi mx : Bool) : List V → Option V
  | .ptr id off :: vs => match bounds3 lo hi mx vs with | some (l, h, m) => slCut id off n n none z l h m | none => none
  | _ => none
def pFieldAddr (o : Nat) : List V → Option V
  | [.ptr id off] => some (.ptr id (off + o))
  | _ => none
def pSlIdx (z : Nat) : List V → Option V
  | [.sl id off len _ _ z', .int _ i] => match natOf i with
    | some i => bif Nat.beq z z' && Nat.blt i len then some (.ptr id (off + i * z)) else none
    | none => none
  | _ => none
def pArrIdx (n z : Nat) : List V → Option V
  | [.ptr id off, .int _ i] => match natOf i with
    | some i => bif Nat.blt i n then some (.ptr id (off + i * z)) else none
    | none => none
  | _ => none
def pStrIndex : List V → Option V
  | [.str s, .int _ i] => match natOf i with
    | some i => match s[i]? with
      | some c => some (.int .u8 (.ofNat c.toNat))
      | none => none
    | none => none
  | _ => none
def pArrIndex (n z : Nat) (agg : Bool) : List V → Option V
  | [.agg cs, .int _ i] => match natOf i with
    | some i => bif Nat.blt i n then partOf cs (i * z) z agg else none
    | none => none
  | _ => none
def pField (off n : Nat) (agg : Bool) : List V → Option V
  | [.agg cs] => partOf cs off n agg
  | _ => none
def pExtract (i : Nat) : List V → Option V
  | [.tup vs] => vs[i]?
  | _ => none
def pLenS : List V → Option V
  | [.str s] => some (.int .i64 (.ofNat s.length))
  | _ => none
def pLen : List V → Option V
  | [.sl _ _ len _ _ _] => some (.int .i64 (.ofNat len))
  | [.nils] => some (.int .i64 0)
  | _ => none
def pArrLen (n : Nat) : List V → Option V
  | [_] => some (.int .i64 (.ofNat n))
  | _ => none
def pCap : List V → Option V
  | [.sl _ _ _ lo ex _] => some (.int .i64 (.ofNat (lo + ex.getD 0)))
  | [.nils] => some (.int .i64 0)
  | _ => none
def pMin : List V → Option V
  | [.int k x, .int _ y] => some (.int k (if y < x then y else x))
  | _ => none
def pMax : List V → Option V
  | [.int k x, .int _ y] => some (.int k (if x < y then y else x))
  | _ => none
def pNilck : List V → Option V
  | [.nilp] => none
  | [.nili] => none
  | [.nilf] => none
  | [x] => some x
  | _ => none
def pIface (t : Nat) : List V → Option V
  | [x] => some (.iface t x)
  | _ => none

def evalP (o : POp) (vs : List V) : Option V :=
  match o with
  | .mv => pMv vs
  | .pick => pPick vs
  | .build zero ps => pBuild zero ps vs
  | .bin b => pBin b vs
  | .eq neg e => pEq neg e vs
  | .un u => pUn u vs
  | .toInt k => pToInt k vs
  | .runeStr => pRuneStr vs
  | .asStr => pAsStr vs
  | .strSlice lo hi => pStrSlice lo hi vs
  | .slSlice z lo hi mx => pSlSlice z lo hi mx vs
  | .arrSlice n z lo hi mx => pArrSlice n z lo hi mx vs
  | .fieldAddr o => pFieldAddr o vs
  | .slIdx z => pSlIdx z vs
  | .arrIdx n z => pArrIdx n z vs
  | .strIndex => pStrIndex vs
  | .arrIndex n z agg => pArrIndex n z agg vs
  | .field off n agg => pField off n agg vs
  | .extract i => pExtract i vs
  | .mkFunc f first => some (.func f (vs.take first) (vs.drop first))
  | .mkIface t => pIface t vs
  | .lenS => pLenS vs
  | .len => pLen vs
  | .arrLen n => pArrLen n vs
  | .cap => pCap vs
  | .min2 => pMin vs
  | .max2 => pMax vs
  | .nilck => pNilck vs

/-! ### Operations that read -/
/-- bytes out of cells -/
def bytesOf : List V → Option (List UInt8)
  | [] => some []
  | .int .u8 n :: l => match bytesOf l with | some r => some (UInt8.ofNat n.toNat :: r) | none => none
  | _ => none

def lLoad1 (vs : List V) (H : Heap) : Option V :=
  match vs with
  | [.ptr id off] => H.load id off
  | _ => none
def lLoadN (n : Nat) (vs : List V) (H : Heap) : Option V :=
  match vs with
  | [.ptr id off] => match H.loads id off n with | some cs => some (.agg cs) | none => none
  | _ => none
def lBytesStr (vs : List V) (H : Heap) : Option V :=
  match vs with
  | [.nils] => some (.str [])
  | [.sl id off len _ _ z] => bif Nat.beq z 1 then match H.loads id off len with
      | some cs => match bytesOf cs with | some s => some (.str s) | none => none
      | none => none
    else none
  | _ => none

def lLoad (agg : Option Nat) (vs : List V) (H : Heap) : Option V :=
  match agg with
  | none => lLoad1 vs H
  | some n => lLoadN n vs H

def evalL (o : LOp) (vs : List V) (H : Heap) : Option V :=
  match o with
  | .load agg => lLoad agg vs H
  | .bytesStr => lBytesStr vs H

/-! ### Operations that lay or write memory -/
/-- the spare room that a tape gives to a slice that needs 'need' -/
def spare (need : Nat) (t : Nat) : Nat := t % (9223372036854775808 - need)

/-- what is appended or copied: its cells, 'n' elements of 'z' cells -/
def srcCells (H : Heap) (z n : Nat) : V → Option (List V)
  | .nils => some []
  | .sl id off _ _ _ z' => bif Nat.beq z z' then H.loads id off (n * z) else none
  | .str s => bif Nat.beq z 1 then some ((s.take n).map fun c => .int .u8 (.ofNat c.toNat)) else none
  | _ => none

def srcLen : V → Option Nat
  | .nils => some 0
  | .sl _ _ len _ _ _ => some len
  | .str s => some s.length
  | _ => none

def fresh (H : Heap) (cells : List V) (len z t : Nat) : V × Heap :=
  (.sl H.size 0 len len (some (spare len t)) z, H.new cells ((len + spare len t) * z) false)

/-- 's = append(s, ..)' of n elements -/
def append (H : Heap) (z bytes : Nat) (s : V) (n : Nat) (new : List V) (τ : Tape) : Option (V × Heap × Tape) :=
  match s with
  | .nils => match n with
    | 0 => some (.nils, H, τ)
    | n => bif Nat.ble (n * bytes) 274877906944 && Nat.ble n 274877906944 then
        match fresh H new n z (τ 0) with | (v, H) => some (v, H, τ.tail)
      else none
  | .sl id off len lo ex z' =>
    let need := len + n
    bif Nat.beq z z' then
      bif Nat.ble need lo then
        match H.stores id (off + len * z) new with
        | some H => some (.sl id off need lo ex z, H, τ)
        | none => none
      else bif Nat.ble (need * bytes) 274877906944 && Nat.ble need 274877906944 then
        match H.loads id off (len * z) with
        | none => none
        | some old => match ex with
          | none => match fresh H (old ++ new) need z (τ 0) with | (v, H) => some (v, H, τ.tail)
          | some _ => match H.blk.get id with
            | some (.mem cs _ fam ver true _ _) => match H.fams.get fam with
              | some (from_, last) =>
                bif Nat.beq ver last && (Nat.beq (off + len * z) cs.length && new.all V.scal) then
                  some (.sl H.size 0 need need (some (spare need (τ 0))) z, H.version (old ++ new) ((need + spare need (τ 0)) * z) fam from_ last, τ.tail)
                else none
              | none => none
            | _ => none
      else none
    else none
  | _ => none

def repl (n : Nat) (l : List V) : List V := (List.replicate n l).flatten

def eAlloc (zero : List V) (vs : List V) (H : Heap) (τ : Tape) : Option (V × Heap × Tape) :=
  match vs with
  | [] => some (.ptr H.size 0, H.new zero zero.length true, τ)
  | _ => none
def eBox (vs : List V) (H : Heap) (τ : Tape) : Option (V × Heap × Tape) :=
  match vs with
  | [v] => some (.ptr H.size 0, H.new v.cells v.cells.length true, τ)
  | _ => none
def eBuildSlice (len z : Nat) (zero : List V) (ps : List (Nat × Nat)) (vs : List V) (H : Heap) (τ : Tape) : Option (V × Heap × Tape) :=
  match fillC zero ps vs with
  | some cs => some (.sl H.size 0 len len none z, H.new cs (len * z) false, τ)
  | none => none
def eMakeSlice (z bytes : Nat) (zero : List V) (vs : List V) (H : Heap) (τ : Tape) : Option (V × Heap × Tape) :=
  match vs with
  | [.int _ l, .int _ c] => match natOf l, natOf c with
    | some l, some c => bif Nat.ble l c && (Nat.ble (c * bytes) 274877906944 && Nat.ble c 274877906944) then
        some (.sl H.size 0 l c none z, H.new (repl c zero) (c * z) false, τ) else none
    | _, _ => none
  | _ => none
def eStore (n : Nat) (vs : List V) (H : Heap) (τ : Tape) : Option (V × Heap × Tape) :=
  match vs with
  | [.ptr id off, x] => bif Nat.beq x.cells.length n then match H.stores id off x.cells with
      | some H => some (.tup [], H, τ)
      | none => none
    else none
  | _ => none
def eAppend (z bytes : Nat) (vs : List V) (H : Heap) (τ : Tape) : Option (V × Heap × Tape) :=
  match vs with
  | [s, x] => match srcLen x with
    | some n => match srcCells H z n x with
      | some new => append H z bytes s n new τ
      | none => none
    | none => none
  | _ => none
def eCopy (z : Nat) (vs : List V) (H : Heap) (τ : Tape) : Option (V × Heap × Tape) :=
  match vs with
  | [d, x] => match srcLen x with
    | some n => match d with
      | .nils => some (.int .i64 0, H, τ)
      | .sl id off len _ _ z' =>
        let n := bif Nat.ble n len then n else len
        bif Nat.beq z z' then match srcCells H z n x with
          | some new => match H.stores id off new with
            | some H => some (.int .i64 (.ofNat n), H, τ)
            | none => none
          | none => none
        else none
      | _ => none
    | none => none
  | _ => none
def eStrBytes (vs : List V) (H : Heap) (τ : Tape) : Option (V × Heap × Tape) :=
  match vs with
  | [.str s] => bif Nat.ble s.length 274877906944 then
      match fresh H (s.map fun c => .int .u8 (.ofNat c.toNat)) s.length 1 (τ 0) with | (v, H) => some (v, H, τ.tail)
    else none
  | _ => none
def eMark (vs : List V) (H : Heap) (τ : Tape) : Option (V × Heap × Tape) :=
  match vs with
  | [.sl id off len lo ex z] => match H.blk.get id with
    | some (.mem _ _ fam ver true false _) => match H.fams.get fam with
      | some (from_, _) => bif Nat.ble from_ ver then some (.sl id off len lo ex z, H, τ) else none
      | none => none
    | _ => none
  | _ => none
def eClear (z : Nat) (zero : List V) (vs : List V) (H : Heap) (τ : Tape) : Option (V × Heap × Tape) :=
  match vs with
  | [.nils] => some (.tup [], H, τ)
  | [.sl id off len _ _ z'] => bif Nat.beq z z' && Nat.beq zero.length z then match H.stores id off (repl len zero) with
      | some H => some (.tup [], H, τ)
      | none => none
    else none
  | _ => none
def eRange (vs : List V) (H : Heap) (τ : Tape) : Option (V × Heap × Tape) :=
  match vs with
  | [.str s] => some (.ptr H.size 0, { size := H.size + 1, blk := H.blk.set H.size (.iter s 0), fams := H.fams }, τ)
  | _ => none
def eNext (vs : List V) (H : Heap) (τ : Tape) : Option (V × Heap × Tape) :=
  match vs with
  | [.ptr id 0] => match H.blk.get id with
    | some (.iter s pos) =>
      bif Nat.blt pos s.length then
        match decodeR (s.drop pos) with
        | (c, w) => forceN (pos + w) fun p => forceN c fun c =>
          some (.tup [.bool true, .int .i64 (.ofNat pos), .int .i32 (.ofNat c)], { size := H.size, blk := H.blk.set id (.iter s p), fams := H.fams }, τ)
      else some (.tup [.bool false], H, τ)
    | _ => none
  | _ => none

def evalE (o : EOp) (vs : List V) (H : Heap) (τ : Tape) : Option (V × Heap × Tape) :=
  match o with
  | .alloc zero => eAlloc zero vs H τ
  | .box => eBox vs H τ
  | .buildSlice len z zero ps => eBuildSlice len z zero ps vs H τ
  | .makeSlice z bytes zero => eMakeSlice z bytes zero vs H τ
  | .store n => eStore n vs H τ
  | .append z bytes => eAppend z bytes vs H τ
  | .copy z => eCopy z vs H τ
  | .strBytes => eStrBytes vs H τ
  | .mark => eMark vs H τ
  | .clear z zero => eClear z zero vs H τ
  | .range => eRange vs H τ
  | .next => eNext vs H τ

/-! ### Code -/
structure St where
  fr : T V
  hp : Heap

def evO (fr : T V) : O → Option V
  | .t i => fr.get i
  | .c v => some v

def evOs (fr : T V) : List O → Option (List V)
  | [] => some []
  | o :: os => match evO fr o with
    | some v => match evOs fr os with
      | some vs => some (v :: vs)
      | none => none
    | none => none

def put (fr : T V) (dst : Option Nat) (v : V) : T V :=
  match dst with
  | some d => fr.set d v
  | none => fr

def wants (fr : T V) : Option (Nat × Bool) → Option Bool
  | none => some true
  | some (t, w) => match fr.get t with
    | some (.bool b) => some (b == w)
    | some (.tup []) => some false
    | _ => none

abbrev ACall := Nat → List V → Heap → Tape → Option (V × Heap × Tape)

/-- an operation's value and what memory is behind it -/
def evalOp (call : ACall) (o : AOp) (vs : List V) (H : Heap) (τ : Tape) : Option (V × Heap × Tape) :=
  match o with
  | .p o => match evalP o vs with | some v => some (v, H, τ) | none => none
  | .l o => match evalL o vs H with | some v => some (v, H, τ) | none => none
  | .e o => evalE o vs H τ
  | .call f => call f vs H τ
  | .callv => match vs with
    | .func f first cap :: vs => call f (first ++ vs ++ cap) H τ
    | _ => none

def runIns (call : ACall) (i : Ins) (st : St) (τ : Tape) : Option (St × Tape) :=
  match wants st.fr i.guard with
  | none => none
  | some false => some (⟨put st.fr i.dst (.tup []), st.hp⟩, τ)
  | some true => match evOs st.fr i.args with
    | none => none
    | some vs => match evalOp call i.op vs st.hp τ with
      | some (v, H, τ) => some (⟨put st.fr i.dst v, H⟩, τ)
      | none => none

def runReg (call : ACall) : List Ins → St → Tape → Option (St × Tape)
  | [], st, τ => some (st, τ)
  | i :: is, st, τ => match runIns call i st τ with
    | some (st, τ) => runReg call is st τ
    | none => none

/-- is an operation an effect? -/
def AOp.eff : AOp → Bool
  | .p _ => false
  | .l _ => false
  | _ => true

/-! ### Values that are the same -/
def same0 : V → V → Bool
  | .bool a, .bool b => a == b
  | .int k n, .int k' n' => decide (k = k') && decide (n = n')
  | .str a, .str b => decide (a = b)
  | .ptr i o, .ptr i' o' => Nat.beq i i' && Nat.beq o o'
  | .nilp, .nilp => true
  | .sl i o n l none z, .sl i' o' n' l' none z' => Nat.beq i i' && Nat.beq o o' && Nat.beq n n' && Nat.beq l l' && Nat.beq z z'
  | .sl i o n l (some e) z, .sl i' o' n' l' (some e') z' => Nat.beq i i' && Nat.beq o o' && Nat.beq n n' && Nat.beq l l' && Nat.beq e e' && Nat.beq z z'
  | .nils, .nils => true
  | .map a, .map b => Nat.beq a b
  | .nilm, .nilm => true
  | .nilf, .nilf => true
  | .nili, .nili => true
  | _, _ => false
def sameL (f : V → V → Bool) : List V → List V → Bool
  | [], [] => true
  | a :: l, b :: m => f a b && sameL f l m
  | _, _ => false
def same1 (a b : V) : Bool :=
  match a, b with
  | .func f x y, .func f' x' y' => Nat.beq f f' && sameL same0 x x' && sameL same0 y y'
  | .iface t x, .iface t' x' => Nat.beq t t' && same0 x x'
  | a, b => same0 a b
def same (a b : V) : Bool :=
  match a, b with
  | .agg x, .agg y => sameL same1 x y
  | a, b => same1 a b

/-- a load that may stand elsewhere: its operands, its value, between which memories -/
abbrev LNote := LOp × List V × Nat × Nat

def noted (i : Ins) (st : St) (ls : List LNote) : List LNote :=
  match i.rng with
  | none => ls
  | some (lo, hi) => match i.op with
    | .l op => match evOs st.fr i.args with
      | some vs => (op, vs, lo, hi) :: ls
      | none => ls
    | _ => ls

/-- a region that draws its order: the memories between its effects (the last one first); the loads that may stand elsewhere -/
def runDraw (call : ACall) : List Ins → St → Tape → List Heap → List LNote → Option (St × Tape × List Heap × List LNote)
  | [], st, τ, hs, ls => some (st, τ, hs, ls)
  | i :: is, st, τ, hs, ls => match runIns call i st τ with
    | some (st', τ) => runDraw call is st' τ (bif i.op.eff then st'.hp :: hs else hs)
        (match wants st.fr i.guard with | some true => noted i st ls | _ => ls)
    | none => none

/-- what is read is the same in each of these memories -/
def chk1 (op : LOp) (vs : List V) (v : V) : List Heap → Bool
  | [] => true
  | H :: hs => (match evalL op vs H with | some u => same u v | none => false) && chk1 op vs v hs

def chkLoads (hs : List Heap) : List LNote → Bool
  | [] => true
  | (op, vs, lo, hi) :: ls => (match (hs.drop lo).take (hi + 1 - lo) with
      | [] => false
      | H :: hs => match evalL op vs H with
        | some v => chk1 op vs v hs
        | none => false) && chkLoads hs ls

inductive Ex where
  | normal
  | exit (id : Nat)
  | ret

/-- so many rounds at the most -/
def loopF (body : St → Tape → Option (Ex × St × Tape)) : Nat → St → Tape → Option (Ex × St × Tape)
  | 0, _, _ => none
  | n + 1, st, τ => match body st τ with
    | some (.normal, st, τ) => loopF body n st τ
    | r => r

/-- the temporaries named, and no others -/
def keepT : List Nat → T V → T V → T V
  | [], _, acc => acc
  | i :: l, fr, acc => keepT l fr (match fr.get i with | some v => acc.set i v | none => acc)

def exec (call : ACall) (N : Nat) : C → St → Tape → Option (Ex × St × Tape)
  | .skip, st, τ => some (.normal, st, τ)
  | .reg ops, st, τ => match runReg call ops st τ with | some (st, τ) => some (.normal, st, τ) | none => none
  | .draw ops, st, τ => match runDraw call ops st τ [st.hp] [] with
    | some (st, τ, hs, ls) => bif chkLoads hs.reverse ls then some (.normal, st, τ) else none
    | none => none
  | .seq a b, st, τ => match exec call N a st τ with
    | some (.normal, st, τ) => exec call N b st τ
    | r => r
  | .cond x a b, st, τ => match evO st.fr x with
    | some (.bool true) => exec call N a st τ
    | some (.bool false) => exec call N b st τ
    | _ => none
  | .block id c, st, τ => match exec call N c st τ with
    | some (.exit id', st, τ) => bif Nat.beq id' id then some (.normal, st, τ) else some (.exit id', st, τ)
    | r => r
  | .loop c, st, τ => loopF (exec call N c) N st τ
  | .exit id, st, τ => some (.exit id, st, τ)
  | .ret, st, τ => some (.ret, st, τ)
  | .scope c, st, τ => exec call N c st τ
  | .keep l c, st, τ => exec call N c ⟨keepT l st.fr .leaf, st.hp⟩ τ
  | .bad, _, _ => none

def resOf (st : St) : R → Option V
  | .t i => st.fr.get i
  | .cell a agg => match st.fr.get a with
    | some v => evalL (.load agg) [v] st.hp
    | none => none

def resAll (st : St) : List R → Option (List V)
  | [] => some []
  | r :: rs => match resOf st r with
    | some v => match resAll st rs with
      | some vs => some (v :: vs)
      | none => none
    | none => none

def frameOf : List V → Nat → T V → T V
  | [], _, fr => fr
  | v :: vs, i, fr => frameOf vs (i + 1) (fr.set i v)

def results (st : St) (rs : List R) : Option V :=
  match resAll st rs with
  | some [v] => some v
  | some vs => some (.tup vs)
  | none => none

/-- a function is code, or known by what it answers -/
inductive Def where
  | fn (f : Fun)
  | prim (f : List V → Heap → Tape → Option (V × Heap × Tape))

def callDef (call : ACall) (N : Nat) (d : Option Def) (vs : List V) (H : Heap) (τ : Tape) : Option (V × Heap × Tape) :=
  match d with
  | none => none
  | some (.prim f) => f vs H τ
  | some (.fn fn) =>
    bif Nat.beq vs.length fn.nparams then
      match exec call N fn.body ⟨frameOf vs 0 .leaf, H⟩ τ with
      | some (.exit _, _, _) => none
      | some (_, st, τ) => match results st fn.res with
        | some v => some (v, st.hp, τ)
        | none => none
      | none => none
    else none

/-- a call, at most so many deep, of at most N rounds a loop -/
def call (prog : Nat → Option Def) (N : Nat) : Nat → ACall
  | 0 => fun _ _ _ _ => none
  | k + 1 => fun f vs H τ => callDef (call prog N k) N (prog f) vs H τ

/-- code as it was before temporaries were let go -/
def C.strip : C → C
  | .seq a b => .seq a.strip b.strip
  | .cond x a b => .cond x a.strip b.strip
  | .block id c => .block id c.strip
  | .loop c => .loop c.strip
  | .scope c => .scope c.strip
  | .keep _ c => c.strip
  | c => c
end Go.Am
namespace Go.Am
def bs (l : List Nat) : List UInt8 := l.map UInt8.ofNat

/-- a memory at the start: blocks that may be read alone; what is not known is gone -/
def mkHeap : List (Option (List V)) → Heap → Heap
  | [], H => H
  | some cs :: l, H => mkHeap l { size := H.size + 1, blk := H.blk.set H.size (.mem cs cs.length H.size 0 false false 0), fams := H.fams.set H.size (0, 0) }
  | none :: l, H => mkHeap l { size := H.size + 1, blk := H.blk.set H.size .gone, fams := H.fams }
end Go.Am
