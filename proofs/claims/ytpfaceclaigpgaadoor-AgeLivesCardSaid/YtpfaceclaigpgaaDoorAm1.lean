/-
  THE ABSTRACT MACHINE 'Am': a plain, deterministic evaluator of the operations that the model's code is made of. Blocks of memory bear abstract numbers; 'append' always lays a new version of its block; spare room is drawn from a tape.
-/
import GoSem.Core.View
namespace Go.Am

/-! ### Values -/
inductive V where
  | bool (b : Bool)
  | int (k : IntKind) (n : Int)
  | str (s : List UInt8)
  | ptr (id off : Nat)
  | nilp
  | sl (id off len lo : Nat) (ex : Option Nat) (z : Nat)
  | nils
  | map (id : Nat)
  | nilm
  | func (f : Nat) (first cap : List V)
  | nilf
  | iface (t : Nat) (v : V)
  | nili
  | agg (cs : List V)
  | tup (vs : List V)
  deriving Inhabited

def V.cells : V → List V
  | .agg cs => cs
  | v => [v]

def V.scal : V → Bool
  | .agg _ => false
  | .tup _ => false
  | _ => true

/-! ### A tree by places: frames and heaps -/
inductive T (α : Type) where
  | leaf
  | node (v : Option α) (l r : T α)

def T.get {α : Type} : T α → Nat → Option α
  | .leaf, _ => none
  | .node v l r, i => match i with
    | 0 => v
    | Nat.succ j => bif Nat.beq (j % 2) 0 then l.get (j / 2) else r.get (j / 2)

def T.setF {α : Type} (v : α) : Nat → T α → Nat → T α
  | 0, t, _ => t
  | n + 1, t, i => match t with
    | .leaf => match i with
      | 0 => .node (some v) .leaf .leaf
      | Nat.succ j => bif Nat.beq (j % 2) 0 then .node none (T.setF v n .leaf (j / 2)) .leaf else .node none .leaf (T.setF v n .leaf (j / 2))
    | .node u l r => match i with
      | 0 => .node (some v) l r
      | Nat.succ j => bif Nat.beq (j % 2) 0 then .node u (T.setF v n l (j / 2)) r else .node u l (T.setF v n r (j / 2))

def T.set {α : Type} (t : T α) (i : Nat) (v : α) : T α := T.setF v (i + 1) t i

theorem T.get_leaf {α : Type} (i : Nat) : (T.leaf : T α).get i = none := rfl

theorem T.get_setF {α : Type} (v : α) : ∀ (n : Nat) (t : T α) (i j : Nat), i < n → (T.setF v n t i).get j = if i = j then some v else t.get j := by
  intro n
  induction n with
  | zero => intro t i j h; omega
  | succ n ih =>
    intro t i j h
    cases i with
    | zero => cases t <;> cases j <;> simp [T.setF, T.get]
    | succ a =>
      have hr : a / 2 < n := by omega
      cases j with
      | zero => cases t <;> cases ha : Nat.beq (a % 2) 0 <;> simp [T.setF, T.get, ha]
      | succ b =>
        cases ha : Nat.beq (a % 2) 0 <;> cases hb : Nat.beq (b % 2) 0
        all_goals (first | (have ha' := Nat.eq_of_beq_eq_true ha) | (have ha' := Nat.ne_of_beq_eq_false ha))
        all_goals (first | (have hb' := Nat.eq_of_beq_eq_true hb) | (have hb' := Nat.ne_of_beq_eq_false hb))
        all_goals (by_cases e : a = b)
        all_goals (first | (exfalso; omega) | skip)
        all_goals (cases t <;> simp only [T.setF, T.get, ha, hb, cond_true, cond_false, Nat.add_right_cancel_iff, e, if_true, if_false])
        all_goals (first | (rw [ih _ _ _ hr, if_pos (by omega)]) | (rw [ih _ _ _ hr, if_neg (by omega)]; done) | (rw [ih _ _ _ hr, if_neg (by omega), T.get_leaf]) | (subst e; rw [ih _ _ _ hr, if_pos rfl]) | rfl | skip)

theorem T.get_set {α : Type} (t : T α) (i j : Nat) (v : α) : (t.set i v).get j = if i = j then some v else t.get j :=
  T.get_setF v (i + 1) t i j (by omega)

theorem T.get_set_same {α : Type} (t : T α) (i : Nat) (v : α) : (t.set i v).get i = some v := by rw [T.get_set, if_pos rfl]
theorem T.get_set_ne {α : Type} (t : T α) {i j : Nat} (v : α) (h : i ≠ j) : (t.set i v).get j = t.get j := by rw [T.get_set, if_neg h]

/-! ### Memory -/
/-- A block: the cells that are known (a prefix), how many there are, the family of its versions, its version's number, whether it may be written, how often it was written; 'plain': laid by a variable or a box, never marked. -/
inductive B where
  | mem (cells : List V) (room fam ver : Nat) (wr plain : Bool) (stamp : Nat)
  | iter (s : List UInt8) (pos : Nat)
  | gone

/-- 'fams': of each family (by its first version's number): the first version that may still be read; the last version. -/
structure Heap where
  size : Nat
  blk : T B
  fams : T (Nat × Nat)

abbrev Tape := Nat → Nat
def Tape.tail (τ : Tape) : Tape := fun k => τ (k + 1)
def Tape.cons (a : Nat) (τ : Tape) : Tape := fun k => match k with | 0 => a | k + 1 => τ k
def Tape.app : List Nat → Tape → Tape
  | [], τ => τ
  | a :: l, τ => Tape.cons a (Tape.app l τ)
theorem Tape.tail_cons (a : Nat) (τ : Tape) : (Tape.cons a τ).tail = τ := rfl
theorem Tape.head_cons (a : Nat) (τ : Tape) : Tape.cons a τ 0 = a := rfl
theorem Tape.app_app (l m : List Nat) (τ : Tape) : Tape.app l (Tape.app m τ) = Tape.app (l ++ m) τ := by
  induction l with
  | nil => rfl
  | cons a l ih => simp only [Tape.app, List.cons_append, ih]

/-- the cells of a block that may be read -/
def Heap.cells? (H : Heap) (id : Nat) : Option (List V) :=
  match H.blk.get id with
  | some (.mem cs _ fam ver _ _ _) => match H.fams.get fam with
    | some (from_, _) => bif Nat.ble from_ ver then some cs else none
    | none => none
  | _ => none

def Heap.new (H : Heap) (cells : List V) (room : Nat) (plain : Bool) : Heap :=
  { size := H.size + 1, blk := H.blk.set H.size (.mem cells room H.size 0 true plain 0), fams := H.fams.set H.size (0, 0) }

/-- a new version of a block -/
def Heap.version (H : Heap) (cells : List V) (room fam : Nat) (from_ last : Nat) : Heap :=
  { size := H.size + 1, blk := H.blk.set H.size (.mem cells room fam (last + 1) true false 0), fams := H.fams.set fam (from_, last + 1) }

/-- the cells of a block turned; older versions may no longer be read -/
def Heap.write (H : Heap) (id : Nat) (f : List V → Option (List V)) : Option Heap :=
  match H.blk.get id with
  | some (.mem cs room fam ver true plain st) => match H.fams.get fam with
    | some (from_, last) =>
      bif Nat.beq ver last && Nat.ble from_ ver then
        match f cs with
        | some cs' => some { size := H.size, blk := H.blk.set id (.mem cs' room fam ver true plain (st + 1)), fams := H.fams.set fam (ver, last) }
        | none => none
      else none
    | none => none
  | _ => none

def Heap.load (H : Heap) (id off : Nat) : Option V :=
  match H.cells? id with
  | some cs => cs[off]?
  | none => none

/-- n cells from 'off' on -/
def takeN : Nat → List V → Option (List V)
  | 0, _ => some []
  | n + 1, v :: l => match takeN n l with | some r => some (v :: r) | none => none
  | _ + 1, [] => none

def Heap.loads (H : Heap) (id off n : Nat) : Option (List V) :=
  match H.cells? id with
  | some cs => takeN n (cs.drop off)
  | none => none

/-- cells laid over others from 'off' on; the known prefix may grow at its end -/
def over (room : Nat) : Nat → List V → List V → Option (List V)
  | _, [], cs => some cs
  | 0, vs, [] => bif Nat.ble vs.length room then some vs else none
  | 0, v :: vs, _ :: cs => match over (room - 1) 0 vs cs with | some r => some (v :: r) | none => none
  | n + 1, vs, c :: cs => match over (room - 1) n vs cs with | some r => some (c :: r) | none => none
  | _ + 1, _ :: _, [] => none

def Heap.room? (H : Heap) (id : Nat) : Nat :=
  match H.blk.get id with
  | some (.mem _ room _ _ _ _ _) => room
  | _ => 0

def Heap.stamp? (H : Heap) (id : Nat) : Option Nat :=
  match H.blk.get id with
  | some (.mem _ _ _ _ _ _ st) => some st
  | _ => none

def Heap.stores (H : Heap) (id off : Nat) (vs : List V) : Option Heap :=
  match vs with
  | [] => some H
  | _ => bif vs.all V.scal then H.write id (over (H.room? id) off vs) else none

/-! ### Numbers -/
/-- a number reckoned out -/
def forceN {α : Type} (n : Nat) (k : Nat → α) : α := Nat.casesOn (motive := fun _ => α) n (k 0) (fun p => k (Nat.succ p))
theorem forceN_eq {α : Type} (n : Nat) (k : Nat → α) : forceN n k = k n := by cases n <;> rfl
def forceI {α : Type} (n : Int) (k : Int → α) : α :=
  match n with
  | .ofNat m => forceN m fun m => k (.ofNat m)
  | .negSucc m => forceN m fun m => k (.negSucc m)
theorem forceI_eq {α : Type} (n : Int) (k : Int → α) : forceI n k = k n := by cases n <;> simp [forceI, forceN_eq]

def pow2 : IntKind → Nat
  | .i8 | .u8 => 256
  | .i16 | .u16 => 65536
  | .i32 | .u32 => 4294967296
  | .i64 | .u64 => 18446744073709551616
theorem pow2_eq (k : IntKind) : pow2 k = 2 ^ k.bits := by cases k <;> rfl

def maxN : IntKind → Nat
  | .i8 => 127 | .u8 => 255 | .i16 => 32767 | .u16 => 65535 | .i32 => 2147483647 | .u32 => 4294967295
  | .i64 => 9223372036854775807 | .u64 => 18446744073709551615

/-- 'IntKind.wrap', quickly -/
def wr (k : IntKind) (n : Int) : Int :=
  match n with
  | .ofNat m => bif Nat.ble m (maxN k) then .ofNat m else
      let r := m % pow2 k
      bif k.signed && Nat.ble (maxN k + 1) r then Int.subNatNat r (pow2 k) else .ofNat r
  | .negSucc m => bif k.signed && Nat.ble m (maxN k) then .negSucc m else
      let r := pow2 k - 1 - m % pow2 k
      bif k.signed && Nat.ble (maxN k + 1) r then Int.subNatNat r (pow2 k) else .ofNat r

theorem wr_eq (k : IntKind) (n : Int) : wr k n = k.wrap n := by
  have e : ∀ a b : Nat, Int.subNatNat a b = (a : Int) - b := fun _ _ => Int.subNatNat_eq_coe
  have hb : ∀ a b : Nat, Nat.ble a b = decide (a ≤ b) := fun a b => by
    rw [Bool.eq_iff_iff]; simp [Nat.ble_eq]
  cases n with
  | ofNat m =>
    cases k <;> simp only [wr, maxN, pow2, IntKind.wrap, IntKind.signed, IntKind.bits, e, hb, Int.ofNat_eq_natCast, Bool.true_and, Bool.false_and, Bool.false_eq_true, if_false, Bool.cond_eq_ite, ge_iff_le, decide_eq_true_eq] <;> (repeat' split) <;> omega
  | negSucc m =>
    have hn : Int.negSucc m = -((m : Int) + 1) := Int.negSucc_eq m
    cases k <;> simp only [wr, maxN, pow2, IntKind.wrap, IntKind.signed, IntKind.bits, e, hb, hn, Int.ofNat_eq_natCast, Bool.true_and, Bool.false_and, Bool.false_eq_true, if_false, Bool.cond_eq_ite, ge_iff_le, decide_eq_true_eq] <;> (repeat' split) <;> omega

/-- a number's bits -/
def toU (k : IntKind) (n : Int) : Nat :=
  match n with
  | .ofNat m => m % pow2 k
  | .negSucc m => pow2 k - 1 - m % pow2 k

def bitsOp (b : BinOp) (k : IntKind) (x y : Int) : Option Int :=
  match b with
  | .and => some (wr k (.ofNat (Nat.land (toU k x) (toU k y))))
  | .or => some (wr k (.ofNat (Nat.lor (toU k x) (toU k y))))
  | .xor => some (wr k (.ofNat (Nat.xor (toU k x) (toU k y))))
  | .andNot => some (wr k (.ofNat (Nat.land (toU k x) (pow2 k - 1 - toU k y))))
  | _ => none

def mkI {α : Type} (k : IntKind) (n : Int) (c : V → α) : α := forceI n fun n => c (.int k n)

/-- two numbers of one kind -/
def intBin (b : BinOp) (k : IntKind) (x y : Int) : Option V :=
  match b with
  | .add => mkI k (wr k (x + y)) some
  | .sub => mkI k (wr k (x - y)) some
  | .mul => mkI k (wr k (x * y)) some
  | .quo => match y with
    | .ofNat 0 => none
    | _ => mkI k (wr k (x.tdiv y)) some
  | .rem => match y with
    | .ofNat 0 => none
    | _ => mkI k (x.tmod y) some
  | .eql => some (.bool (x == y))
  | .neq => some (.bool (x != y))
  | .lss => some (.bool (decide (x < y)))
  | .leq => some (.bool (decide (x ≤ y)))
  | .gtr => some (.bool (decide (y < x)))
  | .geq => some (.bool (decide (y ≤ x)))
  | b => match bitsOp b k x y with
    | some n => mkI k n some
    | none => none

/-- a shift -/
def shiftOp (b : BinOp) (k : IntKind) (x y : Int) : Option V :=
  match y with
  | .negSucc _ => none
  | .ofNat m =>
    forceN (min m k.bits) fun n =>
    match b with
    | .shl => mkI k (wr k (x * (Nat.pow 2 n : Nat))) some
    | .shr => mkI k (x.fdiv (Nat.pow 2 n : Nat)) some
    | _ => none

def eqB : List UInt8 → List UInt8 → Bool
  | [], [] => true
  | a :: x, b :: y => Nat.beq a.toNat b.toNat && eqB x y
  | _, _ => false

def lessB : List UInt8 → List UInt8 → Bool
  | _, [] => false
  | [], _ :: _ => true
  | a :: x, b :: y => Nat.blt a.toNat b.toNat || (Nat.beq a.toNat b.toNat && lessB x y)

theorem eqB_eq (x y : List UInt8) : eqB x y = (x == y) := by
  induction x generalizing y with
  | nil => cases y <;> rfl
  | cons a x ih =>
    cases y with
    | nil => rfl
    | cons b y =>
      have : Nat.beq a.toNat b.toNat = (a == b) := by
        rw [Bool.eq_iff_iff]; simp [Nat.beq_eq, UInt8.toNat_inj]
      simp [eqB, ih, this]

def strBin (b : BinOp) (x y : List UInt8) : Option V :=
  match b with
  | .add => bif Nat.ble (x.length + y.length) 4611686018427387904 then some (.str (x ++ y)) else none
  | .eql => some (.bool (eqB x y))
  | .neq => some (.bool (!eqB x y))
  | .lss => some (.bool (lessB x y))
  | .leq => some (.bool (lessB x y || eqB x y))
  | .gtr => some (.bool (!(lessB x y || eqB x y)))
  | .geq => some (.bool (!lessB x y))
  | _ => none

/-! ### Equality of other things: of what type they are -/
inductive E where
  | bool | int | str | ptr | slice | map | func
  | flat (es : List E)

def eqS : E → V → V → Option Bool
  | .bool, .bool a, .bool b => some (a == b)
  | .int, .int k a, .int k' b => if k = k' then some (a == b) else none
  | .str, .str a, .str b => some (eqB a b)
  | .ptr, .nilp, .nilp => some true
  | .ptr, .nilp, .ptr _ _ => some false
  | .ptr, .ptr _ _, .nilp => some false
  | .slice, .nils, .nils => some true
  | .slice, .nils, .sl .. => some false
  | .slice, .sl .., .nils => some false
  | .map, .nilm, .nilm => some true
  | .map, .nilm, .map _ => some false
  | .map, .map _, .nilm => some false
  | .func, .nilf, .nilf => some true
  | .func, .nilf, .func .. => some false
  | .func, .func .., .nilf => some false
  | _, _, _ => none

/-- part by part, to the first that differs -/
def eqFlat : List E → List V → List V → Option Bool
  | [], [], [] => some true
  | e :: es, x :: xs, y :: ys => match eqS e x y with
    | some true => eqFlat es xs ys
    | some false => some false
    | none => none
  | _, _, _ => none

def eqV : E → V → V → Option Bool
  | .flat es, .agg xs, .agg ys => eqFlat es xs ys
  | e, x, y => eqS e x y
end Go.Am
