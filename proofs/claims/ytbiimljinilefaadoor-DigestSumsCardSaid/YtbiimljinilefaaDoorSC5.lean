/- Texts for the law DigestSums: the machine, printed functions of the program, and what they are shown to be. -/
import Derived.Test.YtbiimljinilefaaDoorSC4
namespace Go.Am.AmTrydDig
set_option linter.unusedSimpArgs false
set_option linter.unusedVariables false
/-! ### the roots, in a form that is reckoned fast -/
def setK {β : Type} : List Nat → Nat → Nat → (List Nat → β) → β
  | [], _, _, c => c []
  | _ :: l, 0, v, c => c (v :: l)
  | a :: l, n + 1, v, c => setK l n v fun l => c (a :: l)
theorem setK_eq {β : Type} : ∀ (l : List Nat) (n v : Nat) (c : List Nat → β), setK l n v c = c (l.set n v) := by
  intro l; induction l with
  | nil => intro n v c; rfl
  | cons a l ih => intro n v c; cases n with
    | zero => rfl
    | succ n => simp only [setK, ih, List.set_cons_succ]
def tInK (A B : List Nat) (i : Nat) : Nat → Nat → List Nat → Nat → (List Nat → Nat → Option Nat) → Option Nat
  | 0, _, O, c, q => q O c
  | n + 1, k, O, c, q => forceN (sumX O A B i k c) fun x => forceN (landT .u64 x 65535) fun y => forceN (shrT .u64 x 16) fun z => setK O (i + k) y fun O => tInK A B i n (k + 1) O z q
theorem tInK_eq (A B : List Nat) (i : Nat) : ∀ n k O c q, tInK A B i n k O c q = q (tInP A B i n k O c).1 (tInP A B i n k O c).2 := by
  intro n; induction n with
  | zero => intros; rfl
  | succ n ih => intro k O c q; simp only [tInK, forceN_eq, setK_eq, ih, tInP]
def tOutK (A B : List Nat) (n : Nat) : Nat → Nat → List Nat → (List Nat → Option Nat) → Option Nat
  | 0, _, O, q => q O
  | m + 1, i, O, q => tInK A B i n 0 O 0 fun O c => forceN ((O.getD (i + n) 0 + c) % pow2 .u64) fun y => setK O (i + n) y fun O => tOutK A B n m (i + 1) O q
theorem tOutK_eq (A B : List Nat) (n : Nat) : ∀ m i O q, tOutK A B n m i O q = q (tOutP A B n m i O) := by
  intro m; induction m with
  | zero => intros; rfl
  | succ m ih => intro i O q; simp only [tOutK, tInK_eq, forceN_eq, setK_eq, ih, tOutP]
def timesK (A : List Nat) (m : Nat) (B : List Nat) (n : Nat) (q : List Nat → Option Nat) : Option Nat := tOutK A B n m 0 [0, 0, 0, 0, 0, 0, 0, 0, 0, 0, 0, 0, 0, 0, 0, 0] q
theorem timesK_eq (A : List Nat) (m : Nat) (B : List Nat) (n : Nat) (q : List Nat → Option Nat) : timesK A m B n q = q (timesP A m B n) := by
  unfold timesK timesP; rw [tOutK_eq]; rfl
def cmpK (L : List Nat) (p at' : Nat) : Nat → Bool
  | 0 => true
  | i + 1 => bif Nat.beq (L.getD i 0) (bif Nat.beq i at' then p else 0) then cmpK L p at' i else Nat.blt (L.getD i 0) (bif Nat.beq i at' then p else 0)
theorem cmpK_eq (L : List Nat) (p at' : Nat) : ∀ n, cmpK L p at' n = cmpP L p at' n := by
  intro n; induction n with
  | zero => rfl
  | succ i ih =>
    have hw : (bif Nat.beq i at' then p else 0) = (if i = at' then p else 0) := by
      by_cases h : i = at'
      · rw [if_pos h, h, Nat.beq_refl]; rfl
      · have : Nat.beq i at' = false := by
          cases hb : Nat.beq i at' with
          | false => rfl
          | true => exact absurd (Nat.eq_of_beq_eq_true hb) h
        rw [if_neg h, this]; rfl
    simp only [cmpK, cmpP, hw, ih]
    generalize (if i = at' then p else 0) = w
    by_cases h : L.getD i 0 = w
    · rw [if_pos h, h, Nat.beq_refl]; rfl
    · have : Nat.beq (L.getD i 0) w = false := by
        cases hb : Nat.beq (L.getD i 0) w with
        | false => rfl
        | true => exact absurd (Nat.eq_of_beq_eq_true hb) h
      rw [if_neg h, this, cond_false]
      simp [Nat.blt, Nat.ble_eq, Nat.lt_iff_add_one_le]
      rw [Bool.eq_iff_iff]; simp
def belowK (x : List Nat) (p : Nat) (cube : Bool) (q : Bool → Option Nat) : Option Nat :=
  timesK x 5 x 5 fun b => match cube with
    | true => timesK b 10 x 5 fun b => match cmpK b p 12 16 with | true => q true | false => q false
    | false => match cmpK b p 8 16 with | true => q true | false => q false
theorem belowK_eq (x : List Nat) (p : Nat) (cube : Bool) (q : Bool → Option Nat) : belowK x p cube q = q (belowP x p cube) := by
  unfold belowK belowP
  cases cube
  · simp only [timesK_eq, cmpK_eq]
    cases cmpP (timesP x 5 x 5) p 8 16 <;> rfl
  · simp only [timesK_eq, cmpK_eq, if_true]
    cases cmpP (timesP (timesP x 5 x 5) 10 x 5) p 12 16 <;> rfl
def rootLK (p : Nat) (cube : Bool) : Nat → List Nat → (List Nat → Option Nat) → Option Nat
  | 0, lo, q => q lo
  | k + 1, lo, q => forceN (lorT .u64 (lo.getD (k / 16) 0) ((1 * 2 ^ min (k % 16) IntKind.u64.bits) % pow2 .u64)) fun y => setK lo (k / 16) y fun x => belowK x p cube fun b => match b with | true => rootLK p cube k x q | false => rootLK p cube k lo q
theorem rootLK_eq (p : Nat) (cube : Bool) : ∀ k lo q, rootLK p cube k lo q = q (rootLP p cube k lo) := by
  intro k; induction k with
  | zero => intros; rfl
  | succ k ih =>
    intro lo q
    simp only [rootLK, forceN_eq, setK_eq, belowK_eq, rootLP, ← bitP.eq_1]
    cases belowP (bitP lo k) p cube <;> simp [ih]
def rootK (p : Nat) (cube : Bool) : Option Nat := rootLK p cube 72 [0, 0, 0, 0, 0, 0, 0, 0, 0, 0, 0, 0, 0, 0, 0, 0] fun lo => forceN (joinP4 lo) some
theorem rootK_eq (p : Nat) (cube : Bool) : rootK p cube = some (rootP p cube) := by
  unfold rootK rootP
  rw [rootLK_eq, forceN_eq]; rfl
def rootsK (cube : Bool) : List Nat → List (Option Nat)
  | [] => []
  | p :: l => rootK p cube :: rootsK cube l
theorem rootsK_eq (cube : Bool) (rs : List Nat) : ∀ ps, rootsK cube ps = rs.map some → ps.map (rootP · cube) = rs := by
  induction rs with
  | nil => intro ps h; cases ps with
    | nil => rfl
    | cons p l => simp [rootsK] at h
  | cons r rs ih => intro ps h; cases ps with
    | nil => simp [rootsK] at h
    | cons p l =>
      simp only [rootsK, List.map_cons, List.cons.injEq, rootK_eq, Option.some.injEq] at h
      simp only [List.map_cons, h.1, ih l h.2]
end Go.Am.AmTrydDig

