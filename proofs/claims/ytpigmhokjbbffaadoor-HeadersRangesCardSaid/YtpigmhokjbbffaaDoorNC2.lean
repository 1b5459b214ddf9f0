/- Texts for the law HeadersRanges: the machine, printed functions of the program, and what they are shown to be. -/
import Derived.Test.YtpigmhokjbbffaaDoorNC1
namespace Go.Am.AmTrydHd
set_option linter.unusedSimpArgs false
set_option linter.unusedVariables false
set_option linter.unusedSectionVars false
set_option maxRecDepth 100000
/-! ### ranges: numbers written and read -/
def digF : Nat → Nat → Bs → Bs
  | 0, _, acc => acc
  | f + 1, n, acc => bif Nat.blt 0 n || acc.isEmpty then digF f (n / 10) (UInt8.ofNat (48 + n % 10) :: acc) else acc
def dig (n : Nat) : Bs := digF 8 n []
def Dgs (s : Bs) : Prop := ∀ x ∈ s, 48 ≤ x.toNat ∧ x.toNat ≤ 57
theorem dgt (r : Nat) (h : r < 10) : (UInt8.ofNat (48 + r)).toNat = 48 + r := by
  rw [UInt8.toNat_ofNat']; omega
theorem digF_ok : ∀ (f n : Nat) (acc : Bs), Dgs acc → (acc ≠ [] ∨ 0 < f) → Dgs (digF f n acc) ∧ digF f n acc ≠ [] ∧ (digF f n acc).length ≤ acc.length + f := by
  intro f
  induction f with
  | zero => intro n acc h1 h2; exact ⟨h1, by rcases h2 with h | h; exact h; omega, by simp [digF]⟩
  | succ f ih =>
    intro n acc h1 h2
    rw [digF]
    cases hb : (Nat.blt 0 n || acc.isEmpty) with
    | true =>
      rw [cond_true]
      have hr := dgt (n % 10) (Nat.mod_lt _ (by omega))
      obtain ⟨a, b, c⟩ := ih (n / 10) (UInt8.ofNat (48 + n % 10) :: acc) (fun x hx => by
        rcases List.mem_cons.1 hx with rfl | hx
        · rw [hr]; omega
        · exact h1 x hx) (.inl (by simp))
      exact ⟨a, b, by simp only [List.length_cons] at c; omega⟩
    | false =>
      rw [cond_false]
      exact ⟨h1, fun e => by rw [e] at hb; simp at hb, by omega⟩
theorem intStep_dig (n : Nat) (hn : n < 4611686018427387904) : intStep ((n / 10 : Nat) : Int) (((48 + n % 10 : Nat) : Int) - 48) = (n : Int) := by
  have e : (((48 + n % 10 : Nat) : Int) - 48) = ((n % 10 : Nat) : Int) := by omega
  have e2 : (mostI - ((n % 10 : Nat) : Int)).tdiv 10 = ((9223372036854775807 - n % 10) / 10 : Nat) := by
    have : mostI - ((n % 10 : Nat) : Int) = ((9223372036854775807 - n % 10 : Nat) : Int) := by unfold mostI; omega
    rw [this]; rfl
  rw [e]
  unfold intStep
  rw [e2, if_neg (by omega)]
  omega
theorem intL_dig : ∀ (f n : Nat) (acc : Bs), n < 10 ^ f → n < 4611686018427387904 → intL (digF f n acc) 0 = intL acc (n : Int) := by
  intro f
  induction f with
  | zero => intro n acc h _; have : n = 0 := by simpa using h
            subst this; rfl
  | succ f ih =>
    intro n acc h hb
    rw [digF]
    cases hbb : (Nat.blt 0 n || acc.isEmpty) with
    | true =>
      have h' : n < 10 ^ f * 10 := h
      have h1 : n / 10 < 10 ^ f := Nat.div_lt_of_lt_mul (by rw [Nat.mul_comm]; exact h')
      have h2 : n / 10 < 4611686018427387904 := Nat.lt_of_le_of_lt (Nat.div_le_self _ _) hb
      rw [cond_true, ih (n / 10) _ h1 h2]
      have hr := dgt (n % 10) (Nat.mod_lt _ (by omega))
      rw [intL, if_pos (by rw [hr]; omega), hr, intStep_dig n hb]
    | false =>
      rw [cond_false]
      have h0 : Nat.blt 0 n = false := by cases h : Nat.blt 0 n with | true => rw [h] at hbb; simp at hbb | false => rfl
      have : n = 0 := by
        cases n with
        | zero => rfl
        | succ n => cases h0
      subst this; rfl
theorem intB_dig (n : Nat) (hn : n < 100000000) : intB (dig n) = ((n : Int), true) := by
  have h := intL_dig 8 n [] (by omega) (by omega)
  obtain ⟨_, h2, _⟩ := digF_ok 8 n [] (fun x hx => by simp at hx) (.inr (by omega))
  have hl : 0 < (digF 8 n []).length := List.length_pos_iff.2 h2
  unfold intB dig
  rw [h]
  simp only [intL, decide_eq_true hl]
theorem intL_blank : ∀ (s : Bs) (n : Int), intL (s ++ [32]) n = none := by
  intro s
  induction s with
  | nil => intro n; rfl
  | cons x s ih =>
    intro n
    rw [List.cons_append, intL]
    split
    · exact ih _
    · rfl
theorem intB_blank (s : Bs) : intB (s ++ [32]) = (0, false) := by unfold intB; rw [intL_blank]
theorem cut_dig : ∀ (A B : Bs), Dgs A → cutB 45 (A ++ 45 :: B) = some (A, B) := by
  intro A
  induction A with
  | nil => intro B _; rw [List.nil_append, cutB, if_pos rfl]
  | cons x A ih =>
    intro B h
    have hx := h x (by simp)
    have h45 : x ≠ 45 := fun e => by subst e; revert hx; decide
    rw [List.cons_append, cutB, if_neg h45, ih B (fun y hy => h y (by simp [hy]))]
def toldB (s : Bs) : Int × Bool := if s = [] then (-1, true) else intB s
def rangeB (a b : Int × Bool) : V := if a.2 = true ∧ b.2 = true ∧ ¬ (a.1 < 0 ∧ b.1 < 0) ∧ ¬ (0 ≤ a.1 ∧ 0 ≤ b.1 ∧ b.1 < a.1) then .tup [.int .i64 a.1, .int .i64 b.1, .bool true] else .tup [.int .i64 0, .int .i64 0, .bool false]
theorem dig_slice : ∀ r, r < 10 → pStrSlice true true [.str (bs [48, 49, 50, 51, 52, 53, 54, 55, 56, 57]), .int .i64 ((r : Nat) : Int), .int .i64 ((r + 1 : Nat) : Int)] = some (.str [UInt8.ofNat (48 + r)]) := by
  intro r hr
  rw [strSlice_lohi (by omega) (by simp [bs]; omega)]
  match r, hr with
  | 0, _ | 1, _ | 2, _ | 3, _ | 4, _ | 5, _ | 6, _ | 7, _ | 8, _ | 9, _ => rfl

theorem dig_loop (c : CallK) (N : Nat) (H : Heap) (k : KC) : ∀ (f n : Nat) (acc : Bs) (m : Nat) (fr : T V) (τ : Tape), n < 10 ^ f → n < 4611686018427387904 → (acc ≠ [] ∨ 0 < f) → acc.length < 1000 - f → f < 100 → f < m →
    fr.get 0 = some (.int .i64 (n : Int)) → fr.get 3 = some (.str acc) → loopK (s16_l1 c N) m ⟨fr, H⟩ τ k = k (.exit 0) ⟨T.set .leaf 3 (.str (digF f n acc)), H⟩ τ := by
  intro f
  induction f with
  | zero =>
    intro n acc m fr τ hn hb ha hl hf hm f0 f3
    obtain ⟨m, rfl⟩ : ∃ j, m = j + 1 := ⟨m - 1, by omega⟩
    have hn0 : n = 0 := by simpa using hn
    subst hn0
    have hac : acc ≠ [] := by rcases ha with h | h; exact h; omega
    have e1 : decide (Int.ofNat 0 < ((0 : Nat) : Int)) = false := rfl
    have e2 : (acc == ([] : Bs)) = false := beq_eq_false_iff_ne.2 hac
    rw [loopK_succ]
    simp only [s16_l1, getK_mk f0, getK_mk f3, bin_gtr, e1, gK_do', retK, effK_mk, bin_str, str_eql, e2, someK_mk, pick_mk, cond_false, condK_f, seqK, digF]
  | succ f ih =>
    intro n acc m fr τ hn hb ha hl hf hm f0 f3
    obtain ⟨m, rfl⟩ : ∃ j, m = j + 1 := ⟨m - 1, by omega⟩
    rw [loopK_succ]
    have step : (0 < n ∨ acc = []) → loopK (s16_l1 c N) m ⟨(T.set (T.set (T.set (T.set (T.set .leaf 0 (.int .i64 (n : Int))) 3 (.str (UInt8.ofNat (48 + n % 10) :: acc))) 19 (.int .i64 (n : Int))) 20 (.int .i64 ((n / 10 : Nat) : Int))) 0 (.int .i64 ((n / 10 : Nat) : Int))), H⟩ τ k = k (.exit 0) ⟨T.set .leaf 3 (.str (digF (f + 1) n acc)), H⟩ τ := by
      intro h
      rw [ih (n / 10) (UInt8.ofNat (48 + n % 10) :: acc) m _ τ (by rw [Nat.pow_succ] at hn; omega) (by omega) (.inl (by simp)) (by simp; omega) (by omega) (by omega) (by simp [T.get_set]) (by simp [T.get_set])]
      have : (Nat.blt 0 n || acc.isEmpty) = true := by
        rcases h with h | h
        · have : Nat.blt 0 n = true := by simp [Nat.blt]; omega
          rw [this]; rfl
        · rw [h]; simp
      simp only [digF, this, cond_true]
    have hr : (n : Int).tmod (Int.ofNat 10) = ((n % 10 : Nat) : Int) := rfl
    have hq : (n : Int).tdiv (Int.ofNat 10) = ((n / 10 : Nat) : Int) := rfl
    have e3 : wr .i64 (((n % 10 : Nat) : Int) + Int.ofNat 1) = ((n % 10 + 1 : Nat) : Int) := by
      rw [wr_id (by simp; omega) (by simp; omega)]; rfl
    have e4 : wr .i64 ((n / 10 : Nat) : Int) = ((n / 10 : Nat) : Int) := wr_id (by omega) (by omega)
    have e5 : strBin .add [UInt8.ofNat (48 + n % 10)] acc = some (.str (UInt8.ofNat (48 + n % 10) :: acc)) := str_add (by simp; omega)
    by_cases h0 : 0 < n
    · have e1 : decide (Int.ofNat 0 < (n : Int)) = true := decide_eq_true (by simp; omega)
      simp only [s16_l1, getK_mk f0, getK_mk f3, bin_gtr, e1, gK_skip', someK_mk, pick_mk, cond_true, condK_t]
      rw [bin_rem _ _ _ (by decide), hr, bin_add, e3, dig_slice _ (Nat.mod_lt _ (by omega)), someK_mk, bin_str, e5, someK_mk, bin_quo _ _ _ (by decide), hq, e4]
      exact step (.inl h0)
    · have hn0 : n = 0 := by omega
      subst hn0
      have e1 : decide (Int.ofNat 0 < ((0 : Nat) : Int)) = false := rfl
      by_cases hac : acc = []
      · have e2 : (acc == ([] : Bs)) = true := beq_iff_eq.2 hac
        simp only [s16_l1, getK_mk f0, getK_mk f3, bin_gtr, e1, gK_do', retK, effK_mk, bin_str, str_eql, e2, someK_mk, pick_mk, cond_false, condK_t]
        rw [bin_rem _ _ _ (by decide), hr, bin_add, e3, dig_slice _ (Nat.mod_lt _ (by omega)), someK_mk, bin_str, e5, someK_mk, bin_quo _ _ _ (by decide), hq, e4]
        exact step (.inr hac)
      · have e2 : (acc == ([] : Bs)) = false := beq_eq_false_iff_ne.2 hac
        have : (Nat.blt 0 0 || acc.isEmpty) = false := by
          cases acc with
          | nil => exact absurd rfl hac
          | cons x l => rfl
        simp only [s16_l1, getK_mk f0, getK_mk f3, bin_gtr, e1, gK_do', retK, effK_mk, bin_str, str_eql, e2, someK_mk, pick_mk, cond_false, condK_f, seqK, digF, this]


theorem dig_ok (n : Nat) : Dgs (dig n) ∧ dig n ≠ [] ∧ (dig n).length ≤ 8 := by
  have := digF_ok 8 n [] (fun x hx => by simp at hx) (.inr (by omega))
  exact ⟨this.1, this.2.1, by simpa [dig] using this.2.2⟩
theorem s16_ret (c : CallK) (N : Nat) (hN : 9223372036854775807 ≤ N) (n : Nat) (hn : n < 100000000) (H : Heap) (τ : Tape) (q : KV) : s16 c N (.int .i64 (n : Int)) H τ q = q (.str (dig n)) H τ := by
  simp only [s16]
  rw [dig_loop c N H _ 8 n [] N _ τ (by omega) (by omega) (.inr (by omega)) (by simp) (by omega) (by omega) (by simp [T.get_set]) (by simp [T.get_set])]
  simp only [blockK, Nat.beq_refl, cond_true, seqK, s16_j0, getK_set, ↓reduceIte]
  rfl
theorem s15_ret (c : CallK) (N : Nat) (n : Int) (H : Heap) (τ : Tape) : ∃ m : Nat, m ≤ 1048576 ∧ ∀ q, s15 c N (.int .i64 n) (.int .i64 (.ofNat 0)) (.int .i64 (.ofNat 1048576)) H τ q = q (.int .i64 (m : Int)) H τ := by
  have h1 := Int.tmod_lt_of_pos n (b := 1048577) (by omega)
  have h2 := Int.lt_tmod_of_pos n (b := 1048577) (by omega)
  have e1 : wr .i64 (Int.ofNat 1048576 - Int.ofNat 0) = 1048576 := by rw [wr_id (by simp) (by simp)]; simp
  have e2 : wr .i64 ((1048576 : Int) + Int.ofNat 1) = 1048577 := by rw [wr_id (by simp) (by simp)]; simp
  by_cases hneg : n.tmod 1048577 < 0
  · refine ⟨(n.tmod 1048577 + 1048577).toNat, by omega, fun q => ?_⟩
    have e3 : decide (n.tmod 1048577 < Int.ofNat 0) = true := decide_eq_true hneg
    have e4 : wr .i64 (n.tmod 1048577 + Int.ofNat 1048576) = n.tmod 1048577 + 1048576 := by rw [wr_id (by simp; omega) (by simp; omega)]; simp
    have e5 : wr .i64 (n.tmod 1048577 + 1048576 - Int.ofNat 0) = n.tmod 1048577 + 1048576 := by rw [wr_id (by simp; omega) (by simp; omega)]; simp
    have e6 : wr .i64 (n.tmod 1048577 + 1048576 + Int.ofNat 1) = n.tmod 1048577 + 1048577 := by rw [wr_id (by simp; omega) (by simp; omega)]; simp; omega
    have e7 : wr .i64 (Int.ofNat 0 + (n.tmod 1048577 + 1048577)) = (((n.tmod 1048577 + 1048577).toNat : Nat) : Int) := by rw [wr_id (by simp; omega) (by simp; omega)]; simp; omega
    simp only [s15, bin_sub, e1, bin_add, e2, bin_rem _ _ (1048577 : Int) (by decide), bin_lss, e3, condK_tn, e4, e5, e6, s15_j0, getK_set, ↓reduceIte, Nat.reduceEqDiff, e7]
  · refine ⟨(n.tmod 1048577).toNat, by omega, fun q => ?_⟩
    have e3 : decide (n.tmod 1048577 < Int.ofNat 0) = false := decide_eq_false hneg
    have e7 : wr .i64 (Int.ofNat 0 + n.tmod 1048577) = (((n.tmod 1048577).toNat : Nat) : Int) := by rw [wr_id (by simp; omega) (by simp; omega)]; simp; omega
    simp only [s15, bin_sub, e1, bin_add, e2, bin_rem _ _ (1048577 : Int) (by decide), bin_lss, e3, condK_fn, s15_j0, getK_set, ↓reduceIte, Nat.reduceEqDiff, e7]
theorem s75_yes (c : CallK) (N : Nat) (p r : Bs) (hl : (p ++ r).length ≤ 9223372036854775807) (H : Heap) (τ : Tape) (q : KV) : s75 c N (.str (p ++ r)) (.str p) H τ q = q (.bool true) H τ := by
  have e1 : decide ((p.length : Int) ≤ ((p ++ r).length : Int)) = true := decide_eq_true (by simp; omega)
  have e2 : pStrSlice false true [.str (p ++ r), .int .i64 (p.length : Int)] = some (.str p) := by
    rw [strSlice_hi (by simp)]; simp
  have e3 : (p == p) = true := beq_self_eq_true p
  simp only [s75, lenS_mk, someK_n, bin_geq, e1, gK_do, retK, effK_n, e2, bin_str, str_eql, e3, pick_mk, cond_true]
theorem s65_yes (c : CallK) (N : Nat) (p r : Bs) (hl : (p ++ r).length ≤ 9223372036854775807) (H : Heap) (τ : Tape) (h75 : ∀ q, c 75 [.str (p ++ r), .str p] H τ q = q (.bool true) H τ) (q : KV) :
    s65 c N (.str (p ++ r)) (.str p) H τ q = q (.tup [.str r, .bool true]) H τ := by
  have e2 : pStrSlice true false [.str (p ++ r), .int .i64 (p.length : Int)] = some (.str r) := by
    rw [strSlice_lo (by simp)]; simp
  simp only [s65, h75, un_not, Bool.not_true, condK_fn, lenS_mk, someK_n, e2]
theorem s36_yes (c : CallK) (N : Nat) (p r : Bs) (H : Heap) (τ : Tape) (h65 : ∀ q, c 65 [.str (p ++ r), .str p] H τ q = q (.tup [.str r, .bool true]) H τ) (q : KV) :
    s36 c N (.str (p ++ r)) (.str p) H τ q = q (.tup [.str r, .bool true]) H τ := by
  have x0 : ∀ a b : V, pExtract 0 [.tup [a, b]] = some a := fun _ _ => rfl
  have x1 : ∀ a b : V, pExtract 1 [.tup [a, b]] = some b := fun _ _ => rfl
  simp only [s36, h65, x0, x1, someK_n]
theorem s38_ret (c : CallK) (N : Nat) (h67 : IntOk c) (s : Bs) (hs : s.length < 9223372036854775807) (H : Heap) (τ : Tape) (q : KV) : s38 c N (.str s) H τ q = q (.tup [.int .i64 (toldB s).1, .bool (toldB s).2]) H τ := by
  have x0 : ∀ a b : V, pExtract 0 [.tup [a, b]] = some a := fun _ _ => rfl
  have x1 : ∀ a b : V, pExtract 1 [.tup [a, b]] = some b := fun _ _ => rfl
  unfold toldB
  by_cases h : s = []
  · subst h
    have e : (([] : Bs) == []) = true := rfl
    simp only [s38, bin_str, str_eql, e, someK_n, condK_tn, if_true]
    rfl
  · have e : (s == ([] : Bs)) = false := beq_eq_false_iff_ne.2 h
    simp only [s38, bin_str, str_eql, e, someK_n, condK_fn, if_neg h, h67 s hs, x0, x1]
def bytesEq : Bs := [98, 121, 116, 101, 115, 61]
theorem s17_ret (c : CallK) (N : Nat) (A B : Bs) (hA : Dgs A) (hl : A.length + B.length ≤ 1000) (H : Heap) (τ : Tape)
    (h36 : ∀ q, c 36 [.str (bytesEq ++ (A ++ 45 :: B)), .str (bs [98, 121, 116, 101, 115, 61])] H τ q = q (.tup [.str (A ++ 45 :: B), .bool true]) H τ)
    (h37 : CutOk c 45) (h38 : ∀ s : Bs, s.length ≤ 1000 → ∀ q, c 38 [.str s] H τ q = q (.tup [.int .i64 (toldB s).1, .bool (toldB s).2]) H τ) (q : KV) :
    s17 c N (.str (bytesEq ++ (A ++ 45 :: B))) H τ q = q (rangeB (toldB A) (toldB B)) H τ := by
  have x0 : ∀ (a b : V) , pExtract 0 [.tup [a, b]] = some a := fun _ _ => rfl
  have x1 : ∀ (a b : V), pExtract 1 [.tup [a, b]] = some b := fun _ _ => rfl
  have y0 : ∀ (a b d : V) , pExtract 0 [.tup [a, b, d]] = some a := fun _ _ _ => rfl
  have y1 : ∀ (a b d : V), pExtract 1 [.tup [a, b, d]] = some b := fun _ _ _ => rfl
  have y2 : ∀ (a b d : V), pExtract 2 [.tup [a, b, d]] = some d := fun _ _ _ => rfl
  have k37 : ∀ q, c 37 [.str (A ++ 45 :: B), .str (bs [45])] H τ q = q (.tup [.str A, .str B, .bool true]) H τ := fun q => by
    have := h37 (A ++ 45 :: B) (by simp; omega) H τ q
    rw [cut_dig A B hA] at this
    exact this
  have kA := h38 A (by omega)
  have kB := h38 B (by omega)
  generalize toldB A = ta at kA ⊢
  generalize toldB B = tb at kB ⊢
  obtain ⟨fa, ba⟩ := ta
  obtain ⟨fb, bb⟩ := tb
  simp only at kA kB
  unfold rangeB
  have u : s17 c N (.str (bytesEq ++ (A ++ 45 :: B))) H τ q = q (rangeB (fa, ba) (fb, bb)) H τ := by
    unfold rangeB
    simp only [s17, h36, x0, x1, y0, y1, y2, someK_n, k37, kA, kB, un_not, Bool.not_true, gK_do', retK, effK_n, pick_mk, cond_false]
    cases ba with
    | false =>
      simp only [un_not, retK, effK_n, gK_do', Bool.not_false, cond_true, cond_false, gK_skip', gK_none, pick_mk, someK_n, condK_tn]
      rw [if_neg (by simp)]; rfl
    | true =>
      cases bb with
      | false =>
        simp only [un_not, Bool.not_false, Bool.not_true, cond_true, cond_false, gK_do', retK, effK_n, gK_skip', gK_none, pick_mk, someK_n, condK_tn]
        rw [if_neg (by simp)]; rfl
      | true =>
        by_cases h1 : fa < 0
        · have e1 : decide (fa < Int.ofNat 0) = true := decide_eq_true h1
          have e1' : decide (Int.ofNat 0 ≤ fa) = false := decide_eq_false (by simp; omega)
          by_cases h2 : fb < 0
          · have e2 : decide (fb < Int.ofNat 0) = true := decide_eq_true h2
            simp only [Bool.not_false, Bool.not_true, cond_true, cond_false, gK_do', gK_do, gK_skip, retK, effK_n, gK_skip', gK_none, un_not, pick_mk, someK_n, condK_tn, condK_fn, bin_lss, bin_geq, e1, e1', e2]
            rw [if_neg (by simp; omega)]; rfl
          · have e2 : decide (fb < Int.ofNat 0) = false := decide_eq_false h2
            simp only [Bool.not_false, Bool.not_true, cond_true, cond_false, gK_do', gK_do, gK_skip, retK, effK_n, gK_skip', gK_none, un_not, pick_mk, someK_n, condK_tn, condK_fn, bin_lss, bin_geq, e1, e1', e2]
            rw [if_pos ⟨trivial, trivial, by omega, by omega⟩]
        · have e1 : decide (fa < Int.ofNat 0) = false := decide_eq_false h1
          have e1' : decide (Int.ofNat 0 ≤ fa) = true := decide_eq_true (by simp; omega)
          by_cases h2 : fb < 0
          · have e2' : decide (Int.ofNat 0 ≤ fb) = false := decide_eq_false (by simp; omega)
            simp only [Bool.not_false, Bool.not_true, cond_true, cond_false, gK_do', gK_do, gK_skip, retK, effK_n, gK_skip', gK_none, un_not, pick_mk, someK_n, condK_tn, condK_fn, bin_lss, bin_geq, e1, e1', e2']
            rw [if_pos ⟨trivial, trivial, by omega, by omega⟩]
          · have e2' : decide (Int.ofNat 0 ≤ fb) = true := decide_eq_true (by simp; omega)
            by_cases h3 : fb < fa
            · have e3 : decide (fb < fa) = true := decide_eq_true h3
              simp only [Bool.not_false, Bool.not_true, cond_true, cond_false, gK_do', gK_do, gK_skip, retK, effK_n, gK_skip', gK_none, un_not, pick_mk, someK_n, condK_tn, condK_fn, bin_lss, bin_geq, bin_gtr, e1, e1', e2', e3]
              rw [if_neg (by simp; omega)]; rfl
            · have e3 : decide (fb < fa) = false := decide_eq_false h3
              simp only [Bool.not_false, Bool.not_true, cond_true, cond_false, gK_do', gK_do, gK_skip, retK, effK_n, gK_skip', gK_none, un_not, pick_mk, someK_n, condK_tn, condK_fn, bin_lss, bin_geq, bin_gtr, e1, e1', e2', e3]
              rw [if_pos ⟨trivial, trivial, by omega, by omega⟩]
  rw [u]; rfl
end Go.Am.AmTrydHd

namespace Go.Am.AmTrydHd
set_option linter.unusedSimpArgs false
set_option linter.unusedVariables false
set_option linter.unusedSectionVars false
set_option maxRecDepth 100000
theorem s18_range (c : CallK) (N : Nat) (S : Bs) (hS : S.length ≤ 128) (fa fb : Int) (ok : Bool) (H H1 : Heap) (τ τ1 : Tape)
    (h39 : ∀ q, c 39 [.str (bs [82, 97, 110, 103, 101])] H τ q = q (.str (bs [114, 97, 110, 103, 101])) H1 τ1)
    (h17 : ∀ q, c 17 [.str S] H1 τ1 q = q (.tup [.int .i64 fa, .int .i64 fb, .bool ok]) H1 τ1) (q : KV) :
    s18 c N (.str (bs [82, 97, 110, 103, 101])) (.str S) H τ q = q (.bool (ok && decide (0 ≤ fa))) H1 τ1 := by
  have y0 : ∀ (a b d : V) , pExtract 0 [.tup [a, b, d]] = some a := fun _ _ _ => rfl
  have y1 : ∀ (a b d : V), pExtract 1 [.tup [a, b, d]] = some b := fun _ _ _ => rfl
  have y2 : ∀ (a b d : V), pExtract 2 [.tup [a, b, d]] = some d := fun _ _ _ => rfl
  have e0 : decide (Int.ofNat 128 < (S.length : Int)) = false := decide_eq_false (by simp; omega)
  have e1 : (bs [114, 97, 110, 103, 101] == bs [97, 99, 99, 101, 112, 116]) = false := by decide
  have e2 : (bs [114, 97, 110, 103, 101] == bs [97, 99, 99, 101, 112, 116, 45, 108, 97, 110, 103, 117, 97, 103, 101]) = false := by decide
  have e3 : (bs [114, 97, 110, 103, 101] == bs [99, 111, 110, 116, 101, 110, 116, 45, 108, 97, 110, 103, 117, 97, 103, 101]) = false := by decide
  have e4 : (bs [114, 97, 110, 103, 101] == bs [99, 111, 110, 116, 101, 110, 116, 45, 116, 121, 112, 101]) = false := by decide
  have e5 : (bs [114, 97, 110, 103, 101] == bs [114, 97, 110, 103, 101]) = true := by decide
  have e6 : decide (Int.ofNat 0 ≤ fa) = decide (0 ≤ fa) := rfl
  simp only [s18, lenS_mk, someK_n, bin_gtr, e0, condK_fn, h39, bin_str, str_eql, e1, e2, e3, s18_j1, getK_set, ↓reduceIte, Nat.reduceEqDiff, e4, e5, condK_tn, h17, y0, y1, y2]
  cases ok with
  | false => simp only [gK_skip, gK_none, pick_mk, cond_false, someK_n, Bool.false_and]
  | true => simp only [gK_do, retK, effK_n, bin_geq, e6, pick_mk, cond_true, someK_n, Bool.true_and]
section
variable {N : Nat} (hN : 9223372036854775807 < N)
include hN
theorem d16 (d : Nat) (hd : 1 ≤ d) (n : Nat) (hn : n < 100000000) (H : Heap) (τ : Tape) (q : KV) : C N d 16 [.int .i64 (n : Int)] H τ q = q (.str (dig n)) H τ := by
  obtain ⟨d, rfl⟩ : ∃ e, d = e + 1 := ⟨d - 1, by omega⟩
  exact s16_ret (C N d) N (Nat.le_of_lt hN) n hn H τ q
theorem d38 (d : Nat) (hd : 2 ≤ d) (s : Bs) (hs : s.length < 9223372036854775807) (H : Heap) (τ : Tape) (q : KV) : C N d 38 [.str s] H τ q = q (.tup [.int .i64 (toldB s).1, .bool (toldB s).2]) H τ := by
  obtain ⟨d, rfl⟩ : ∃ e, d = e + 1 := ⟨d - 1, by omega⟩
  exact s38_ret (C N d) N (d67 hN d (by omega)) s hs H τ q
theorem d36 (d : Nat) (hd : 3 ≤ d) (p r : Bs) (hl : (p ++ r).length ≤ 9223372036854775807) (H : Heap) (τ : Tape) (q : KV) : C N d 36 [.str (p ++ r), .str p] H τ q = q (.tup [.str r, .bool true]) H τ := by
  obtain ⟨d, rfl⟩ : ∃ e, d = e + 1 + 1 + 1 := ⟨d - 3, by omega⟩
  exact s36_yes (C N (d + 1 + 1)) N p r H τ (fun q => s65_yes (C N (d + 1)) N p r hl H τ (fun q => s75_yes (C N d) N p r hl H τ q) q) q
theorem d17 (d : Nat) (hd : 5 ≤ d) (A B : Bs) (hA : Dgs A) (hl : A.length + B.length ≤ 1000) (H : Heap) (τ : Tape) (q : KV) : C N d 17 [.str (bytesEq ++ (A ++ 45 :: B))] H τ q = q (rangeB (toldB A) (toldB B)) H τ := by
  obtain ⟨d, rfl⟩ : ∃ e, d = e + 1 := ⟨d - 1, by omega⟩
  exact s17_ret (C N d) N A B hA hl H τ (fun q => d36 hN d (by omega) bytesEq (A ++ 45 :: B) (by simp [bytesEq]; omega) H τ q) (d37 hN d (by omega) 45) (fun s hs q => d38 hN d (by omega) s (by omega) H τ q) q
theorem d39r (d : Nat) (hd : 3 ≤ d) (H : Heap) (hw : WF H) (τ : Tape) : ∃ H' τ', Gr H.size H H' ∧ ∀ q, C N d 39 [.str (bs [82, 97, 110, 103, 101])] H τ q = q (.str (bs [114, 97, 110, 103, 101])) H' τ' := by
  obtain ⟨H', τ', g, k⟩ := d39 hN d hd (bs [82, 97, 110, 103, 101]) (by decide) H hw τ retK
  exact ⟨H', τ', g, fun q => (C_nat N d).mk k q⟩
theorem toldB_dig (n : Nat) (hn : n < 100000000) : toldB (dig n) = ((n : Int), true) := by
  unfold toldB; rw [if_neg (dig_ok n).2.1, intB_dig n hn]
theorem toldB_blank (B : Bs) : toldB (B ++ [32]) = (0, false) := by
  unfold toldB; rw [if_neg (by simp), intB_blank]

theorem j1_ff (a b : Nat) (ha : a < 100000000) (hb : b < 100000000) (hab : a ≤ b) (fr : T V) (H : Heap) (hw : WF H) (τ : Tape)
    (f0 : fr.get 0 = some (.int .i64 (a : Int))) (f1 : fr.get 1 = some (.int .i64 (b : Int))) (f2 : fr.get 2 = some (.bool false)) (f3 : fr.get 3 = some (.bool false)) (f9 : fr.get 9 = some (.str (bytesEq ++ (([] : Bs) ++ 45 :: ([] : Bs))))) :
    s4_j1 (C N 39) N trueK ⟨fr, H⟩ τ = doneA := by
  have y0 : ∀ (a b d : V) , pExtract 0 [.tup [a, b, d]] = some a := fun _ _ _ => rfl
  have y1 : ∀ (a b d : V), pExtract 1 [.tup [a, b, d]] = some b := fun _ _ _ => rfl
  have y2 : ∀ (a b d : V), pExtract 2 [.tup [a, b, d]] = some d := fun _ _ _ => rfl
  have la := (dig_ok a).2.2
  have lb := (dig_ok b).2.2
  have ta : toldB (dig a) = ((a : Int), true) := toldB_dig hN a ha
  have tb : toldB (dig b) = ((b : Int), true) := toldB_dig hN b hb
  have tn : toldB [] = (-1, true) := rfl
  have k11 : ∀ (H : Heap) (τ : Tape) (q : KV), C N 39 11 [] H τ q = q (.bool true) H τ := fun _ _ _ => rfl
  have k17 := fun (H : Heap) (τ : Tape) (q : KV) => d17 hN 39 (by omega) ([] : Bs) ([] : Bs) (fun x h => by simp at h) (by simp) H τ q
  have k17' := fun (H : Heap) (τ : Tape) (q : KV) => d17 hN 38 (by omega) ([] : Bs) ([] : Bs) (fun x h => by simp at h) (by simp) H τ q
  have k17b := fun (H : Heap) (τ : Tape) (q : KV) => d17 hN 39 (by omega) ([] : Bs) (([] : Bs) ++ [32]) (fun x h => by simp at h) (by simp) H τ q
  have hr : rangeB (toldB ([] : Bs)) (toldB ([] : Bs)) = .tup [.int .i64 (0 : Int), .int .i64 (0 : Int), .bool false] := by
    rw [tn]; unfold rangeB
    rw [if_neg (by simp)]
  have hrb : rangeB (toldB ([] : Bs)) (toldB (([] : Bs) ++ [32])) = .tup [.int .i64 0, .int .i64 0, .bool false] := by
    rw [toldB_blank hN]; unfold rangeB; rw [if_neg (by simp)]
  rw [hr] at k17 k17'
  rw [hrb] at k17b
  have es : strBin .add (bytesEq ++ (([] : Bs) ++ 45 :: ([] : Bs))) (bs [32]) = some (.str (bytesEq ++ (([] : Bs) ++ 45 :: (([] : Bs) ++ [32])))) := by
    rw [str_add (by simp [bytesEq, bs])]; simp [bs]

  simp only [s4_j1, getK_mk f0, getK_mk f1, getK_mk f2, getK_mk f3, getK_mk f9, k17, y0, y1, y2, someK_n, un_not, Bool.not_true, Bool.not_false, gK_do, gK_do', gK_skip, gK_skip', gK_none, retK, effK_n, pick_mk, cond_true, cond_false, condK_tn, condK_fn, k11]
  rfl

theorem j1_tf (a b : Nat) (ha : a < 100000000) (hb : b < 100000000) (hab : a ≤ b) (fr : T V) (H : Heap) (hw : WF H) (τ : Tape)
    (f0 : fr.get 0 = some (.int .i64 (a : Int))) (f1 : fr.get 1 = some (.int .i64 (b : Int))) (f2 : fr.get 2 = some (.bool true)) (f3 : fr.get 3 = some (.bool false)) (f9 : fr.get 9 = some (.str (bytesEq ++ ((dig a) ++ 45 :: ([] : Bs))))) :
    s4_j1 (C N 39) N trueK ⟨fr, H⟩ τ = doneA := by
  have y0 : ∀ (a b d : V) , pExtract 0 [.tup [a, b, d]] = some a := fun _ _ _ => rfl
  have y1 : ∀ (a b d : V), pExtract 1 [.tup [a, b, d]] = some b := fun _ _ _ => rfl
  have y2 : ∀ (a b d : V), pExtract 2 [.tup [a, b, d]] = some d := fun _ _ _ => rfl
  have la := (dig_ok a).2.2
  have lb := (dig_ok b).2.2
  have ta : toldB (dig a) = ((a : Int), true) := toldB_dig hN a ha
  have tb : toldB (dig b) = ((b : Int), true) := toldB_dig hN b hb
  have tn : toldB [] = (-1, true) := rfl
  have k11 : ∀ (H : Heap) (τ : Tape) (q : KV), C N 39 11 [] H τ q = q (.bool true) H τ := fun _ _ _ => rfl
  have k17 := fun (H : Heap) (τ : Tape) (q : KV) => d17 hN 39 (by omega) (dig a) ([] : Bs) (dig_ok a).1 (by simp; omega) H τ q
  have k17' := fun (H : Heap) (τ : Tape) (q : KV) => d17 hN 38 (by omega) (dig a) ([] : Bs) (dig_ok a).1 (by simp; omega) H τ q
  have k17b := fun (H : Heap) (τ : Tape) (q : KV) => d17 hN 39 (by omega) (dig a) (([] : Bs) ++ [32]) (dig_ok a).1 (by simp; omega) H τ q
  have hr : rangeB (toldB (dig a)) (toldB ([] : Bs)) = .tup [.int .i64 (a : Int), .int .i64 (-1 : Int), .bool true] := by
    rw [ta, tn]; unfold rangeB
    rw [if_pos ⟨rfl, rfl, by simp, by simp <;> omega⟩]
  have hrb : rangeB (toldB (dig a)) (toldB (([] : Bs) ++ [32])) = .tup [.int .i64 0, .int .i64 0, .bool false] := by
    rw [toldB_blank hN]; unfold rangeB; rw [if_neg (by simp)]
  rw [hr] at k17 k17'
  rw [hrb] at k17b
  have es : strBin .add (bytesEq ++ ((dig a) ++ 45 :: ([] : Bs))) (bs [32]) = some (.str (bytesEq ++ ((dig a) ++ 45 :: (([] : Bs) ++ [32])))) := by
    rw [str_add (by simp [bytesEq, bs]; omega)]; simp [bs]

  obtain ⟨H1, τ1, g1, k39⟩ := d39r hN 38 (by omega) H hw τ
  have k18 : ∀ q, C N 39 18 [.str (bs [82, 97, 110, 103, 101]), .str (bytesEq ++ ((dig a) ++ 45 :: ([] : Bs)))] H τ q = q (.bool (true && decide (0 ≤ ((a) : Int)))) H1 τ1 := fun q =>
    s18_range (C N 38) N _ (by simp [bytesEq]; omega) (a) (-1) true H H1 τ τ1 k39 (fun q => k17' H1 τ1 q) q
  have kx : (true && decide (0 ≤ ((a) : Int))) = true := by simp
  rw [kx] at k18
  have n1 : ((-1 : Int) != Int.negSucc 0) = false := rfl
  have na : ((a : Int) != (a : Int)) = false := bne_self_eq_false _
  have nb : ((b : Int) != (b : Int)) = false := bne_self_eq_false _
  have pe : pEq false .bool [.bool true, .bool true] = some (.bool true) := rfl
  simp only [s4_j1, getK_mk f0, getK_mk f1, getK_mk f2, getK_mk f3, getK_mk f9, k17, y0, y1, y2, someK_n, un_not, Bool.not_true, Bool.not_false, gK_do, gK_do', gK_skip, gK_skip', gK_none, retK, effK_n, pick_mk, cond_true, cond_false, condK_tn, condK_fn, bin_neq, n1, na, nb, bin_str, es, k17b]
  rw [k18]
  simp only [retK, effK_n, pe, someK_n, pick_mk, cond_true, gK_do, gK_none, k11]
  rfl

theorem j1_ft (a b : Nat) (ha : a < 100000000) (hb : b < 100000000) (hab : a ≤ b) (fr : T V) (H : Heap) (hw : WF H) (τ : Tape)
    (f0 : fr.get 0 = some (.int .i64 (a : Int))) (f1 : fr.get 1 = some (.int .i64 (b : Int))) (f2 : fr.get 2 = some (.bool false)) (f3 : fr.get 3 = some (.bool true)) (f9 : fr.get 9 = some (.str (bytesEq ++ (([] : Bs) ++ 45 :: (dig b))))) :
    s4_j1 (C N 39) N trueK ⟨fr, H⟩ τ = doneA := by
  have y0 : ∀ (a b d : V) , pExtract 0 [.tup [a, b, d]] = some a := fun _ _ _ => rfl
  have y1 : ∀ (a b d : V), pExtract 1 [.tup [a, b, d]] = some b := fun _ _ _ => rfl
  have y2 : ∀ (a b d : V), pExtract 2 [.tup [a, b, d]] = some d := fun _ _ _ => rfl
  have la := (dig_ok a).2.2
  have lb := (dig_ok b).2.2
  have ta : toldB (dig a) = ((a : Int), true) := toldB_dig hN a ha
  have tb : toldB (dig b) = ((b : Int), true) := toldB_dig hN b hb
  have tn : toldB [] = (-1, true) := rfl
  have k11 : ∀ (H : Heap) (τ : Tape) (q : KV), C N 39 11 [] H τ q = q (.bool true) H τ := fun _ _ _ => rfl
  have k17 := fun (H : Heap) (τ : Tape) (q : KV) => d17 hN 39 (by omega) ([] : Bs) (dig b) (fun x h => by simp at h) (by simp; omega) H τ q
  have k17' := fun (H : Heap) (τ : Tape) (q : KV) => d17 hN 38 (by omega) ([] : Bs) (dig b) (fun x h => by simp at h) (by simp; omega) H τ q
  have k17b := fun (H : Heap) (τ : Tape) (q : KV) => d17 hN 39 (by omega) ([] : Bs) ((dig b) ++ [32]) (fun x h => by simp at h) (by simp; omega) H τ q
  have hr : rangeB (toldB ([] : Bs)) (toldB (dig b)) = .tup [.int .i64 (-1 : Int), .int .i64 (b : Int), .bool true] := by
    rw [tn, tb]; unfold rangeB
    rw [if_pos ⟨rfl, rfl, by simp, by simp <;> omega⟩]
  have hrb : rangeB (toldB ([] : Bs)) (toldB ((dig b) ++ [32])) = .tup [.int .i64 0, .int .i64 0, .bool false] := by
    rw [toldB_blank hN]; unfold rangeB; rw [if_neg (by simp)]
  rw [hr] at k17 k17'
  rw [hrb] at k17b
  have es : strBin .add (bytesEq ++ (([] : Bs) ++ 45 :: (dig b))) (bs [32]) = some (.str (bytesEq ++ (([] : Bs) ++ 45 :: ((dig b) ++ [32])))) := by
    rw [str_add (by simp [bytesEq, bs]; omega)]; simp [bs]

  obtain ⟨H1, τ1, g1, k39⟩ := d39r hN 38 (by omega) H hw τ
  have k18 : ∀ q, C N 39 18 [.str (bs [82, 97, 110, 103, 101]), .str (bytesEq ++ (([] : Bs) ++ 45 :: (dig b)))] H τ q = q (.bool (true && decide (0 ≤ ((-1) : Int)))) H1 τ1 := fun q =>
    s18_range (C N 38) N _ (by simp [bytesEq]; omega) (-1) (b) true H H1 τ τ1 k39 (fun q => k17' H1 τ1 q) q
  have kx : (true && decide (0 ≤ ((-1) : Int))) = false := by simp
  rw [kx] at k18
  have n1 : ((-1 : Int) != Int.negSucc 0) = false := rfl
  have na : ((a : Int) != (a : Int)) = false := bne_self_eq_false _
  have nb : ((b : Int) != (b : Int)) = false := bne_self_eq_false _
  have pe : pEq false .bool [.bool false, .bool false] = some (.bool true) := rfl
  simp only [s4_j1, getK_mk f0, getK_mk f1, getK_mk f2, getK_mk f3, getK_mk f9, k17, y0, y1, y2, someK_n, un_not, Bool.not_true, Bool.not_false, gK_do, gK_do', gK_skip, gK_skip', gK_none, retK, effK_n, pick_mk, cond_true, cond_false, condK_tn, condK_fn, bin_neq, n1, na, nb, bin_str, es, k17b]
  rw [k18]
  simp only [retK, effK_n, pe, someK_n, pick_mk, cond_true, gK_do, gK_none, k11]
  rfl

theorem j1_tt (a b : Nat) (ha : a < 100000000) (hb : b < 100000000) (hab : a ≤ b) (fr : T V) (H : Heap) (hw : WF H) (τ : Tape)
    (f0 : fr.get 0 = some (.int .i64 (a : Int))) (f1 : fr.get 1 = some (.int .i64 (b : Int))) (f2 : fr.get 2 = some (.bool true)) (f3 : fr.get 3 = some (.bool true)) (f9 : fr.get 9 = some (.str (bytesEq ++ ((dig a) ++ 45 :: (dig b))))) :
    s4_j1 (C N 39) N trueK ⟨fr, H⟩ τ = doneA := by
  have y0 : ∀ (a b d : V) , pExtract 0 [.tup [a, b, d]] = some a := fun _ _ _ => rfl
  have y1 : ∀ (a b d : V), pExtract 1 [.tup [a, b, d]] = some b := fun _ _ _ => rfl
  have y2 : ∀ (a b d : V), pExtract 2 [.tup [a, b, d]] = some d := fun _ _ _ => rfl
  have la := (dig_ok a).2.2
  have lb := (dig_ok b).2.2
  have ta : toldB (dig a) = ((a : Int), true) := toldB_dig hN a ha
  have tb : toldB (dig b) = ((b : Int), true) := toldB_dig hN b hb
  have tn : toldB [] = (-1, true) := rfl
  have k11 : ∀ (H : Heap) (τ : Tape) (q : KV), C N 39 11 [] H τ q = q (.bool true) H τ := fun _ _ _ => rfl
  have k17 := fun (H : Heap) (τ : Tape) (q : KV) => d17 hN 39 (by omega) (dig a) (dig b) (dig_ok a).1 (by omega) H τ q
  have k17' := fun (H : Heap) (τ : Tape) (q : KV) => d17 hN 38 (by omega) (dig a) (dig b) (dig_ok a).1 (by omega) H τ q
  have k17b := fun (H : Heap) (τ : Tape) (q : KV) => d17 hN 39 (by omega) (dig a) ((dig b) ++ [32]) (dig_ok a).1 (by simp; omega) H τ q
  have hr : rangeB (toldB (dig a)) (toldB (dig b)) = .tup [.int .i64 (a : Int), .int .i64 (b : Int), .bool true] := by
    rw [ta, tb]; unfold rangeB
    rw [if_pos ⟨rfl, rfl, by simp, by simp <;> omega⟩]
  have hrb : rangeB (toldB (dig a)) (toldB ((dig b) ++ [32])) = .tup [.int .i64 0, .int .i64 0, .bool false] := by
    rw [toldB_blank hN]; unfold rangeB; rw [if_neg (by simp)]
  rw [hr] at k17 k17'
  rw [hrb] at k17b
  have es : strBin .add (bytesEq ++ ((dig a) ++ 45 :: (dig b))) (bs [32]) = some (.str (bytesEq ++ ((dig a) ++ 45 :: ((dig b) ++ [32])))) := by
    rw [str_add (by simp [bytesEq, bs]; omega)]; simp [bs]

  obtain ⟨H1, τ1, g1, k39⟩ := d39r hN 38 (by omega) H hw τ
  have k18 : ∀ q, C N 39 18 [.str (bs [82, 97, 110, 103, 101]), .str (bytesEq ++ ((dig a) ++ 45 :: (dig b)))] H τ q = q (.bool (true && decide (0 ≤ ((a) : Int)))) H1 τ1 := fun q =>
    s18_range (C N 38) N _ (by simp [bytesEq]; omega) (a) (b) true H H1 τ τ1 k39 (fun q => k17' H1 τ1 q) q
  have kx : (true && decide (0 ≤ ((a) : Int))) = true := by simp
  rw [kx] at k18
  have n1 : ((-1 : Int) != Int.negSucc 0) = false := rfl
  have na : ((a : Int) != (a : Int)) = false := bne_self_eq_false _
  have nb : ((b : Int) != (b : Int)) = false := bne_self_eq_false _
  have pe : pEq false .bool [.bool true, .bool true] = some (.bool true) := rfl
  simp only [s4_j1, getK_mk f0, getK_mk f1, getK_mk f2, getK_mk f3, getK_mk f9, k17, y0, y1, y2, someK_n, un_not, Bool.not_true, Bool.not_false, gK_do, gK_do', gK_skip, gK_skip', gK_none, retK, effK_n, pick_mk, cond_true, cond_false, condK_tn, condK_fn, bin_neq, n1, na, nb, bin_str, es, k17b]
  rw [k18]
  simp only [retK, effK_n, pe, someK_n, pick_mk, cond_true, gK_do, gK_none, k11]
  rfl

/-- THE LAW 'HeadersRanges', on the machine -/
theorem headersRanges_run (a0 b0 : Int) (first last : Bool) (H : Heap) (hw : WF H) (τ : Tape) : C N 40 4 [.int .i64 a0, .int .i64 b0, .bool first, .bool last] H τ trueK = doneA := by
  obtain ⟨a, ha, ka⟩ := s15_ret (C N 38) N a0 H τ
  obtain ⟨m, hm, kb⟩ := s15_ret (C N 38) N b0 H τ
  have ka' : ∀ q, C N 39 15 [.int .i64 a0, .int .i64 (.ofNat 0), .int .i64 (.ofNat 1048576)] H τ q = q (.int .i64 (a : Int)) H τ := ka
  have kb' : ∀ q, C N 39 15 [.int .i64 b0, .int .i64 (.ofNat 0), .int .i64 (.ofNat 1048576)] H τ q = q (.int .i64 (m : Int)) H τ := kb
  have e1 : wr .i64 ((a : Int) + (m : Int)) = ((a + m : Nat) : Int) := by rw [wr_id (by omega) (by omega)]; omega
  have kda : ∀ q, C N 39 16 [.int .i64 (a : Int)] H τ q = q (.str (dig a)) H τ := fun q => d16 hN 39 (by omega) a (by omega) H τ q
  have kdb : ∀ q, C N 39 16 [.int .i64 ((a + m : Nat) : Int)] H τ q = q (.str (dig (a + m))) H τ := fun q => d16 hN 39 (by omega) (a + m) (by omega) H τ q
  have la := (dig_ok a).2.2
  have lb := (dig_ok (a + m)).2.2
  have s1 : strBin .add (bs [98, 121, 116, 101, 115, 61]) (dig a) = some (.str (bytesEq ++ dig a)) := by
    rw [str_add (by simp [bs]; omega)]; rfl
  have s2 : strBin .add (bytesEq ++ dig a) (bs [45]) = some (.str (bytesEq ++ (dig a ++ [45]))) := by
    rw [str_add (by simp [bs, bytesEq]; omega)]; simp [bs]
  have s2n : strBin .add (bs [98, 121, 116, 101, 115, 61]) (bs [45]) = some (.str (bytesEq ++ ([] ++ [45]))) := by
    rw [str_add (by simp [bs])]; rfl
  have s3 : strBin .add (bytesEq ++ (dig a ++ [45])) (dig (a + m)) = some (.str (bytesEq ++ (dig a ++ 45 :: dig (a + m)))) := by
    rw [str_add (by simp [bytesEq]; omega)]; simp
  have s3n : strBin .add (bytesEq ++ ([] ++ [45])) (dig (a + m)) = some (.str (bytesEq ++ ([] ++ 45 :: dig (a + m)))) := by
    rw [str_add (by simp [bytesEq]; omega)]; simp
  show s4 (C N 39) N (.int .i64 a0) (.int .i64 b0) (.bool first) (.bool last) H τ trueK = doneA
  cases first with
  | false =>
    cases last with
    | false =>
      simp only [s4, ka', kb', bin_add, e1, condK_fn, s4_j0, getK_set, ↓reduceIte, Nat.reduceEqDiff, bin_str, s2n, someK_n]
      exact j1_ff hN a (a + m) (by omega) (by omega) (by omega) _ H hw τ (by simp [T.get_set]) (by simp [T.get_set]) (by simp [T.get_set]) (by simp [T.get_set]) (by simp [T.get_set])
    | true =>
      simp only [s4, ka', kb', bin_add, e1, condK_fn, condK_tn, s4_j0, getK_set, ↓reduceIte, Nat.reduceEqDiff, bin_str, s2n, someK_n, kdb, s3n]
      exact j1_ft hN a (a + m) (by omega) (by omega) (by omega) _ H hw τ (by simp [T.get_set]) (by simp [T.get_set]) (by simp [T.get_set]) (by simp [T.get_set]) (by simp [T.get_set])
  | true =>
    cases last with
    | false =>
      simp only [s4, ka', kb', bin_add, e1, condK_fn, condK_tn, s4_j0, getK_set, ↓reduceIte, Nat.reduceEqDiff, bin_str, kda, s1, s2, someK_n]
      exact j1_tf hN a (a + m) (by omega) (by omega) (by omega) _ H hw τ (by simp [T.get_set]) (by simp [T.get_set]) (by simp [T.get_set]) (by simp [T.get_set]) (by simp [T.get_set])
    | true =>
      simp only [s4, ka', kb', bin_add, e1, condK_fn, condK_tn, s4_j0, getK_set, ↓reduceIte, Nat.reduceEqDiff, bin_str, kda, s1, s2, kdb, s3, someK_n]
      exact j1_tt hN a (a + m) (by omega) (by omega) (by omega) _ H hw τ (by simp [T.get_set]) (by simp [T.get_set]) (by simp [T.get_set]) (by simp [T.get_set]) (by simp [T.get_set])
end
end Go.Am.AmTrydHd

