/-
  THE ABSTRACT MACHINE 'Am', seventh part: its operations on values do what the model's do.
-/
import Derived.Laws.Strings
import Derived.Laws.Entries
import Derived.Laws.Slices
import Derived.Laws.StructEq
import Derived.Test.YtpfaceclaigpgaaDoorAm6
namespace Go.Am
open Go.RowKit (Below)

section
variable {P : Program} {w : World}

theorem pow2_eq' (k : IntKind) : ((pow2 k : Nat) : Int) = 2 ^ k.bits := by cases k <;> rfl

theorem toU_eq (k : IntKind) (n : Int) : toU k n = (BitVec.ofInt k.bits n).toNat := by
  rw [BitVec.toNat_ofInt]
  cases n with
  | ofNat m =>
    have h : (Int.ofNat m % ((2 ^ k.bits : Nat) : Int)).toNat = m % 2 ^ k.bits := by
      rw [Int.ofNat_eq_natCast, ← Int.natCast_emod, Int.toNat_natCast]
    rw [h, toU, pow2_eq]
  | negSucc m =>
    have hp : 0 < ((2 ^ k.bits : Nat) : Int) := by have := Nat.two_pow_pos k.bits; omega
    rw [Int.negSucc_emod m hp, toU, pow2_eq]
    have h2 := Nat.mod_lt m (Nat.two_pow_pos k.bits)
    have h3 : ((m : Int) % ((2 ^ k.bits : Nat) : Int)) = ((m % 2 ^ k.bits : Nat) : Int) := (Int.natCast_emod _ _).symm
    rw [h3]
    omega

theorem intBin_sound {b : BinOp} {k : IntKind} {x y : Int} {v : V} (ι : Inj) (t : TypeId) (hb : b ≠ .shl ∧ b ≠ .shr) (h : intBin b k x y = some v) :
    (binOp b t (.int k x) (.int k y)).run P w = .ok (cv ι v) w ∧ ∃ b', v = .bool b' ∨ ∃ n, v = .int k n := by
  cases b <;> simp only [intBin, bitsOp, mkI, forceI_eq, wr_eq] at h
  case add => injection h with h; subst h; exact ⟨by rw [binOp_add]; rfl, false, .inr ⟨_, rfl⟩⟩
  case sub => injection h with h; subst h; exact ⟨by rw [binOp_sub]; rfl, false, .inr ⟨_, rfl⟩⟩
  case mul => injection h with h; subst h; exact ⟨by rw [binOp_mul]; rfl, false, .inr ⟨_, rfl⟩⟩
  case quo =>
    split at h
    · cases h
    · rename_i hy
      injection h with h
      subst h
      have hy' : y ≠ 0 := fun e => hy (by subst e; rfl)
      exact ⟨by rw [binOp_quo, Op.intDiv, if_neg hy']; rfl, false, .inr ⟨_, rfl⟩⟩
  case rem =>
    split at h
    · cases h
    · rename_i hy
      injection h with h
      subst h
      have hy' : y ≠ 0 := fun e => hy (by subst e; rfl)
      exact ⟨by rw [binOp_rem, Op.intDiv, if_neg hy']; rfl, false, .inr ⟨_, rfl⟩⟩
  case and =>
    injection h with h; subst h
    refine ⟨?_, false, .inr ⟨_, rfl⟩⟩
    rw [binOp_and]
    simp only [Op.intBits, Sem.run_pure, cv, BitVec.toNat_and, ← toU_eq]
    rfl
  case or =>
    injection h with h; subst h
    refine ⟨?_, false, .inr ⟨_, rfl⟩⟩
    rw [binOp_or]
    simp only [Op.intBits, Sem.run_pure, cv, BitVec.toNat_or, ← toU_eq]
    rfl
  case xor =>
    injection h with h; subst h
    refine ⟨?_, false, .inr ⟨_, rfl⟩⟩
    rw [binOp_xor]
    simp only [Op.intBits, Sem.run_pure, cv, BitVec.toNat_xor, ← toU_eq]
    rfl
  case andNot =>
    injection h with h; subst h
    refine ⟨?_, false, .inr ⟨_, rfl⟩⟩
    rw [binOp_andNot]
    simp only [Op.intBits, Sem.run_pure, cv, BitVec.toNat_and, BitVec.toNat_not, ← toU_eq, pow2_eq]
    rfl
  case shl => exact absurd rfl hb.1
  case shr => exact absurd rfl hb.2
  case eql => injection h with h; subst h; exact ⟨by rw [binOp_eql]; rfl, _, .inl rfl⟩
  case neq => injection h with h; subst h; exact ⟨by rw [binOp_neq]; rfl, _, .inl rfl⟩
  case lss => injection h with h; subst h; exact ⟨by rw [binOp_lss]; rfl, _, .inl rfl⟩
  case leq => injection h with h; subst h; exact ⟨by rw [binOp_leq]; rfl, _, .inl rfl⟩
  case gtr => injection h with h; subst h; exact ⟨by rw [binOp_gtr]; rfl, _, .inl rfl⟩
  case geq => injection h with h; subst h; exact ⟨by rw [binOp_geq]; rfl, _, .inl rfl⟩

theorem shiftOp_sound {b : BinOp} {k k' : IntKind} {x y : Int} {v : V} (ι : Inj) (t : TypeId) (hb : b = .shl ∨ b = .shr) (h : shiftOp b k x y = some v) :
    (binOp b t (.int k x) (.int k' y)).run P w = .ok (cv ι v) w ∧ ∃ n, v = .int k n := by
  unfold shiftOp at h
  split at h
  · cases h
  · rename_i m
    rw [forceN_eq] at h
    have hm : ¬ ((Int.ofNat m) < 0) := by simp
    have hp : ((Nat.pow 2 (min m k.bits) : Nat) : Int) = 2 ^ min m k.bits := by
      rw [show Nat.pow 2 (min m k.bits) = 2 ^ min m k.bits from rfl]; exact Int.natCast_pow 2 _
    rcases hb with rfl | rfl
    · simp only [mkI, forceI_eq, wr_eq, hp] at h
      injection h with h; subst h
      exact ⟨by rw [binOp_shl, Op.shift, if_neg hm]; rfl, _, rfl⟩
    · simp only [mkI, forceI_eq, hp] at h
      injection h with h; subst h
      exact ⟨by rw [binOp_shr, Op.shift, if_neg hm]; rfl, _, rfl⟩

theorem lessB_eq (x y : List UInt8) : lessB x y = Go.Op.bytesLess x y := by
  induction x generalizing y with
  | nil => cases y <;> rfl
  | cons a x ih =>
    cases y with
    | nil => rfl
    | cons b y =>
      have h1 : Nat.beq a.toNat b.toNat = (a == b) := by rw [Bool.eq_iff_iff]; simp [Nat.beq_eq, UInt8.toNat_inj]
      have h2 : Nat.blt a.toNat b.toNat = decide (a < b) := by rw [Bool.eq_iff_iff]; simp [Nat.blt_eq, UInt8.lt_iff_toNat_lt]
      simp [lessB, Go.Op.bytesLess, ih, h1, h2]

theorem strBin_sound {b : BinOp} {x y : List UInt8} {v : V} (ι : Inj) (t : TypeId) (h : strBin b x y = some v) :
    (binOp b t (.string ⟨x.toArray⟩) (.string ⟨y.toArray⟩)).run P w = .ok (cv ι v) w ∧ ((∃ b', v = .bool b') ∨ ∃ s, v = .str s) := by
  cases b <;> simp only [strBin] at h
  case add =>
    cases hb : Nat.ble (x.length + y.length) 4611686018427387904 with
    | false => rw [hb] at h; cases h
    | true =>
      rw [hb] at h
      injection h with h; subst h
      have hle := Nat.le_of_ble_eq_true hb
      refine ⟨?_, .inr ⟨_, rfl⟩⟩
      have hsz : ¬ (((ByteArray.mk x.toArray).size + (ByteArray.mk y.toArray).size : Nat) : Int) > 9223372036854775807 := by
        simp only [ByteArray.size, List.size_toArray]; omega
      rw [binOp_string_add, Op.stringOp]
      simp only [IntKind.max_i64]
      rw [if_neg hsz]
      simp only [Sem.run_pure, cv]
      congr 2
  all_goals first
    | (cases h; done)
    | (cases h
       refine ⟨?_, .inl ⟨_, rfl⟩⟩
       simp only [binOp, Op.stringOp, Sem.run_pure, cv, ByteArray.toList_mk, eqB_eq, lessB_eq])
end
end Go.Am
