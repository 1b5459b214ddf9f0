/- AgeLives: contracts and plain law, part L1. -/
import Derived.Test.YtpfaceclaigpgaaDoorDC2
import Derived.KernelRfl
namespace Go.Am.AmTrydAge
set_option linter.unusedSimpArgs false
set_option linter.unusedVariables false
/-! ### a law of numbers: how long a reply is fresh -/
def digF : Nat → Nat → Bs → Bs
  | 0, _, acc => acc
  | f + 1, n, acc => bif Nat.blt 0 n || acc.isEmpty then digF f (n / 10) (UInt8.ofNat (48 + n % 10) :: acc) else acc
def dig (n : Nat) : Bs := digF 5 n []

theorem dig_slice : ∀ r, r < 10 → pStrSlice true true [.str (bs [48, 49, 50, 51, 52, 53, 54, 55, 56, 57]), .int .i64 ((r : Nat) : Int), .int .i64 ((r + 1 : Nat) : Int)] = some (.str [UInt8.ofNat (48 + r)]) := by
  intro r hr
  rw [strSlice_lohi (by omega) (by simp [bs]; omega)]
  match r, hr with
  | 0, _ | 1, _ | 2, _ | 3, _ | 4, _ | 5, _ | 6, _ | 7, _ | 8, _ | 9, _ => rfl

theorem dig_loop (c : CallK) (N : Nat) (H : Heap) (k : KC) : ∀ (f n : Nat) (acc : Bs) (m : Nat) (fr : T V) (τ : Tape), n < 10 ^ f → n < 4611686018427387904 → (acc ≠ [] ∨ 0 < f) → acc.length < 1000 - f → f < 100 → f < m →
    fr.get 0 = some (.int .i64 (n : Int)) → fr.get 3 = some (.str acc) → loopK (s34_l1 c N) m ⟨fr, H⟩ τ k = k (.exit 0) ⟨T.set .leaf 3 (.str (digF f n acc)), H⟩ τ := by
  intro f
  induction f with
  | zero =>
    intro n acc m fr τ hn hb ha hl hf hm f0 f3
    obtain ⟨m, rfl⟩ : ∃ j, m = j + 1 := ⟨m - 1, by omega⟩
    have hn0 : n = 0 := by simpa using hn
    subst hn0
    have hac : acc ≠ [] := by rcases ha with h | h; exact h; omega
    have e1 : decide (Int.ofNat 0 < ((0 : Nat) : Int)) = false := rfl
    have e2 : (acc == ([] : Bs)) = false := beq_eq_false_iff_ne.2 hac
    rw [loopK_succ]
    simp only [s34_l1, getK_mk f0, getK_mk f3, bin_gtr, e1, gK_do', retK, effK_mk, bin_str, str_eql, e2, someK_mk, pick_mk, cond_false, condK_f, seqK, digF]
  | succ f ih =>
    intro n acc m fr τ hn hb ha hl hf hm f0 f3
    obtain ⟨m, rfl⟩ : ∃ j, m = j + 1 := ⟨m - 1, by omega⟩
    rw [loopK_succ]
    have step : (0 < n ∨ acc = []) → loopK (s34_l1 c N) m ⟨(T.set (T.set (T.set (T.set (T.set .leaf 0 (.int .i64 (n : Int))) 3 (.str (UInt8.ofNat (48 + n % 10) :: acc))) 19 (.int .i64 (n : Int))) 20 (.int .i64 ((n / 10 : Nat) : Int))) 0 (.int .i64 ((n / 10 : Nat) : Int))), H⟩ τ k = k (.exit 0) ⟨T.set .leaf 3 (.str (digF (f + 1) n acc)), H⟩ τ := by
      intro h
      rw [ih (n / 10) (UInt8.ofNat (48 + n % 10) :: acc) m _ τ (by rw [Nat.pow_succ] at hn; omega) (by omega) (.inl (by simp)) (by first | (simp; done) | (simp; omega) | omega) (by omega) (by omega) (by simp [T.get_set]) (by simp [T.get_set])]
      have : (Nat.blt 0 n || acc.isEmpty) = true := by
        rcases h with h | h
        · have : Nat.blt 0 n = true := by simp [Nat.blt]; omega
          rw [this]; rfl
        · rw [h]; simp
      simp only [digF, this, cond_true]
    have hr : (n : Int).tmod (Int.ofNat 10) = ((n % 10 : Nat) : Int) := rfl
    have hq : (n : Int).tdiv (Int.ofNat 10) = ((n / 10 : Nat) : Int) := rfl
    have e3 : wr .i64 (((n % 10 : Nat) : Int) + Int.ofNat 1) = ((n % 10 + 1 : Nat) : Int) := by
      rw [wr_id (by first | (simp; done) | (simp; omega) | omega) (by first | (simp; done) | (simp; omega) | omega)]; rfl
    have e4 : wr .i64 ((n / 10 : Nat) : Int) = ((n / 10 : Nat) : Int) := wr_id (by omega) (by omega)
    have e5 : strBin .add [UInt8.ofNat (48 + n % 10)] acc = some (.str (UInt8.ofNat (48 + n % 10) :: acc)) := str_add (by first | (simp; done) | (simp; omega) | omega)
    by_cases h0 : 0 < n
    · have e1 : decide (Int.ofNat 0 < (n : Int)) = true := decide_eq_true (by first | (simp; done) | (simp; omega) | omega)
      simp only [s34_l1, getK_mk f0, getK_mk f3, bin_gtr, e1, gK_skip', someK_mk, pick_mk, cond_true, condK_t]
      rw [bin_rem _ _ _ (by decide), hr, bin_add, e3, dig_slice _ (Nat.mod_lt _ (by omega)), someK_mk, bin_str, e5, someK_mk, bin_quo _ _ _ (by decide), hq, e4]
      exact step (.inl h0)
    · have hn0 : n = 0 := by omega
      subst hn0
      have e1 : decide (Int.ofNat 0 < ((0 : Nat) : Int)) = false := rfl
      by_cases hac : acc = []
      · have e2 : (acc == ([] : Bs)) = true := beq_iff_eq.2 hac
        simp only [s34_l1, getK_mk f0, getK_mk f3, bin_gtr, e1, gK_do', retK, effK_mk, bin_str, str_eql, e2, someK_mk, pick_mk, cond_false, condK_t]
        rw [bin_rem _ _ _ (by decide), hr, bin_add, e3, dig_slice _ (Nat.mod_lt _ (by omega)), someK_mk, bin_str, e5, someK_mk, bin_quo _ _ _ (by decide), hq, e4]
        exact step (.inr hac)
      · have e2 : (acc == ([] : Bs)) = false := beq_eq_false_iff_ne.2 hac
        have : (Nat.blt 0 0 || acc.isEmpty) = false := by
          cases acc with
          | nil => exact absurd rfl hac
          | cons x l => rfl
        simp only [s34_l1, getK_mk f0, getK_mk f3, bin_gtr, e1, gK_do', retK, effK_mk, bin_str, str_eql, e2, someK_mk, pick_mk, cond_false, condK_f, seqK, digF, this]

theorem s34_eval (c : CallK) (N : Nat) (hN : 9223372036854775807 ≤ N) (n : Nat) (hn : n ≤ 4000) (H : Heap) (τ : Tape) (q : KV) : s34 c N (.int .i64 (n : Int)) H τ q = q (.str (dig n)) H τ := by
  simp only [s34]
  rw [dig_loop c N H _ 5 n [] N _ τ (by omega) (by omega) (.inr (by omega)) (by simp) (by omega) (by omega) (by simp [T.get_set]) (by simp [T.get_set])]
  simp only [blockK, Nat.beq_refl, cond_true, seqK, s34_j0, getK_set, ↓reduceIte]
  rfl

def withinT (n : Int) : Int := if n.tmod 4001 < 0 then n.tmod 4001 + 4001 else n.tmod 4001
theorem withinT_range (n : Int) : 0 ≤ withinT n ∧ withinT n ≤ 4000 := by
  unfold withinT
  have h1 := Int.tmod_lt_of_pos n (b := 4001) (by omega)
  have h2 := Int.lt_tmod_of_pos n (b := 4001) (by omega)
  split <;> omega
theorem s33_eval (c : CallK) (N : Nat) (n : Int) (H : Heap) (τ : Tape) (q : KV) : s33 c N (.int .i64 n) (.int .i64 (.ofNat 0)) (.int .i64 (.ofNat 4000)) H τ q = q (.int .i64 (withinT n)) H τ := by
  have h1 := Int.tmod_lt_of_pos n (b := 4001) (by omega)
  have h2 := Int.lt_tmod_of_pos n (b := 4001) (by omega)
  have e1 : wr .i64 (Int.ofNat 4000 - Int.ofNat 0) = 4000 := rfl
  have e2 : wr .i64 (4000 + Int.ofNat 1) = 4001 := rfl
  have e3 : decide (n.tmod 4001 < Int.ofNat 0) = decide (n.tmod 4001 < 0) := rfl
  simp only [s33, bin_sub, e1, bin_add, e2]
  rw [bin_rem _ _ _ (by decide)]
  simp only [bin_lss, e3]
  by_cases h : n.tmod 4001 < 0
  · have e4 : wr .i64 (n.tmod 4001 + Int.ofNat 4000) = n.tmod 4001 + 4000 := by rw [wr_id (by first | (simp; done) | (simp; omega) | omega) (by first | (simp; done) | (simp; omega) | omega)]; rfl
    have e5 : wr .i64 (n.tmod 4001 + 4000 - Int.ofNat 0) = n.tmod 4001 + 4000 := by rw [wr_id (by first | (simp; done) | (simp; omega) | omega) (by first | (simp; done) | (simp; omega) | omega)]; simp
    have e6 : wr .i64 (n.tmod 4001 + 4000 + Int.ofNat 1) = n.tmod 4001 + 4001 := by rw [wr_id (by first | (simp; done) | (simp; omega) | omega) (by first | (simp; done) | (simp; omega) | omega)]; simp; omega
    have e7 : wr .i64 (Int.ofNat 0 + (n.tmod 4001 + 4001)) = n.tmod 4001 + 4001 := by rw [wr_id (by first | (simp; done) | (simp; omega) | omega) (by first | (simp; done) | (simp; omega) | omega)]; simp
    rw [decide_eq_true h]
    simp only [condK_t, bin_add, e4, bin_sub, e5, e6, s33_j0, getK_set, ↓reduceIte, Nat.reduceEqDiff, bin_add, e7, bin_sub, withinT, h, if_true, decide_true]
  · have e7 : wr .i64 (Int.ofNat 0 + n.tmod 4001) = n.tmod 4001 := by rw [wr_id (by first | (simp; done) | (simp; omega) | omega) (by first | (simp; done) | (simp; omega) | omega)]; simp
    rw [decide_eq_false h]
    simp only [condK_f, s33_j0, getK_set, ↓reduceIte, Nat.reduceEqDiff, bin_add, e7, withinT, h, if_false, decide_false]

def parseP (s : Bs) : Ctl := (piecesB s).foldl (fun st s => ctlStep st (pieceT s)) (false, false, -1)
def ccUp : Bs := [67, 97, 99, 104, 101, 45, 67, 111, 110, 116, 114, 111, 108]
def ageUp : Bs := [65, 103, 101]
def lifeS (quoted : Bool) (n : Nat) : Bs := bif quoted then [80, 117, 98, 108, 105, 99, 44, 32, 77, 97, 120, 45, 65, 103, 101, 61, 34] ++ dig n ++ [34] else [109, 97, 120, 45, 97, 103, 101, 61] ++ dig n
def ctlIs (st : Ctl) (n : Nat) : Bool := !st.2.1 && decide (st.2.2 = (n : Int))
def numIs (s : Bs) (n : Nat) : Bool := decide ((intB (strip s)).1 = (n : Int))
def chk (n : Nat) : Bool := ctlIs (parseP (lifeS true n)) n && ctlIs (parseP (lifeS false n)) n && numIs (dig n) n && Nat.blt (dig n).length 10
end Go.Am.AmTrydAge
