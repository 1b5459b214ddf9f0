/- Texts for the law DigestSums: the machine, printed functions of the program, and what they are shown to be. -/
import Derived.Test.YtbiimljinilefaaDoorSC4
import Derived.Test.YtbiimljinilefaaDoorSM3
namespace Go.Am.AmTrydDig
set_option linter.unusedSimpArgs false
set_option linter.unusedVariables false
/-! ### a block, as the document has it -/
def turnsR (bits : Nat) : List Nat := if bits = 32 then [7, 18, 3, 17, 19, 10, 2, 13, 22, 6, 11, 25] else [1, 8, 7, 19, 61, 6, 28, 34, 39, 14, 18, 41]
def roundsR (bits : Nat) : Nat := if bits = 32 then 64 else 80
theorem turnsR_len (bits : Nat) : (turnsR bits).length = 12 := by unfold turnsR; split <;> rfl
theorem turnsR_le {bits : Nat} (hb : bits = 32 ∨ bits = 64) : ∀ i, i < 12 → (turnsR bits).getD i 0 ≤ bits := by
  rcases hb with rfl | rfl <;> (intro i hi; match i, hi with
    | 0, _ => decide | 1, _ => decide | 2, _ => decide | 3, _ => decide | 4, _ => decide | 5, _ => decide | 6, _ => decide | 7, _ => decide | 8, _ => decide | 9, _ => decide | 10, _ => decide | 11, _ => decide)
theorem ai80 (X : Nat) {i : Nat} (h : i < 80) : pArrIdx 80 1 [.ptr X 0, .int .i64 (i : Int)] = some (.ptr X i) := by
  have := arrIdx_mk (z := 1) (id := X) (off := 0) h
  simpa using this
theorem ai12 (X : Nat) {i : Nat} (h : i < 12) : pArrIdx 12 1 [.ptr X 0, .int .i64 (.ofNat i)] = some (.ptr X i) := by
  have := arrIdx_mk (z := 1) (id := X) (off := 0) h
  simpa using this
theorem ai8 (X : Nat) {i : Nat} (h : i < 8) : pArrIdx 8 1 [.ptr X 0, .int .i64 (.ofNat i)] = some (.ptr X i) := by
  have := arrIdx_mk (z := 1) (id := X) (off := 0) h
  simpa using this
theorem ai8' (X : Nat) {i : Nat} (h : i < 8) : pArrIdx 8 1 [.ptr X 0, .int .i64 (i : Int)] = some (.ptr X i) := ai8 X h

/-- the bytes of one word -/
theorem l12b (c : CallK) (N : Nat) (x size t : Nat) (hsz : size ≤ 8) (ht : t < 16) (v a0 a5 a6 a8 a10 a11 : V) (bs : List Nat) (hlen : bs.length < 100000) (chunk : List Nat) (hch : chunk = (bs.drop (t * size)).take size) (hcl : chunk.length = size) :
    ∀ (l pre X : List Nat) (H : Heap) (fr : T V) (τ : Tape) (m : Nat), chunk = pre ++ l → l.length < m → X.length = 80 → WF H → Bx H x (ws .u64 X) → (∀ H', Chg (fun i => i = x) H H' → Rd H' 1 v bs.length (ws .u8 bs)) →
    fr.get 0 = some a0 → fr.get 3 = some v → fr.get 5 = some a5 → fr.get 6 = some a6 → fr.get 8 = some a8 → fr.get 9 = some (.int .i64 (size : Int)) → fr.get 10 = some a10 → fr.get 11 = some a11 → fr.get 12 = some (.ptr x 0) → fr.get 13 = some (.int .i64 (t : Int)) → fr.get 14 = some (.int .i64 (pre.length : Int)) →
    ∃ H', Bx H' x (ws .u64 (X.set t (accT .u64 (X.getD t 0) l))) ∧ Chg (fun i => i = x) H H' ∧
      ∀ k, loopK (s25_l12 c N) m ⟨fr, H⟩ τ k = k (.exit 2) ⟨(T.set (T.set (T.set (T.set (T.set (T.set (T.set (T.set (T.set (T.set .leaf 0 a0) 3 v) 5 a5) 6 a6) 8 a8) 9 (.int .i64 (size : Int))) 10 a10) 11 a11) 12 (.ptr x 0)) 13 (.int .i64 (t : Int))), H'⟩ τ := by
  intro l
  induction l with
  | nil =>
    intro pre X H fr τ m hc hm hX hw hb hR f0 f3 f5 f6 f8 f9 f10 f11 f12 f13 f14
    obtain ⟨m, rfl⟩ : ∃ j, m = j + 1 := ⟨m - 1, by omega⟩
    refine ⟨H, ?_, Chg.refl hw, fun k => ?_⟩
    · have : X.set t (accT .u64 (X.getD t 0) []) = X := by
        apply List.ext_getElem (by simp)
        intro i h1 h2
        rw [List.getElem_set]
        split
        · subst_vars; simp [accT, List.getD_eq_getElem?_getD, h2]
        · rfl
      rw [this]; exact hb
    · have hp : pre.length = size := by rw [← hcl, hc]; simp
      have e1 : decide ((pre.length : Int) < (size : Int)) = false := decide_eq_false (by omega)
      rw [loopK_succ]
      simp only [s25_l12, getK_mk f0, getK_mk f3, getK_mk f5, getK_mk f6, getK_mk f8, getK_mk f9, getK_mk f10, getK_mk f11, getK_mk f12, getK_mk f13, getK_mk f14, bin_lss, e1, condK_f]
      rfl
  | cons b l ih =>
    intro pre X H fr τ m hc hm hX hw hb hR f0 f3 f5 f6 f8 f9 f10 f11 f12 f13 f14
    obtain ⟨m, rfl⟩ : ∃ j, m = j + 1 := ⟨m - 1, by omega⟩
    have hp : pre.length + (l.length + 1) = size := by rw [← hcl, hc]; simp
    have e1 : decide ((pre.length : Int) < (size : Int)) = true := decide_eq_true (by omega)
    have hts : t * size ≤ 128 := Nat.le_trans (Nat.mul_le_mul (by omega : t ≤ 16) hsz) (by omega)
    have hbx : bs[t * size + pre.length]? = some b := by
      have h1 : chunk[pre.length]? = some b := by rw [hc]; simp
      rw [hch, List.getElem?_take_of_lt (by omega), List.getElem?_drop] at h1
      exact h1
    obtain ⟨p, p1, p2⟩ := (hR H (Chg.refl hw)).elem1 (i := t * size + pre.length) (x := .int .u8 (b : Int)) (by simp [ws, hbx])
    obtain ⟨H1, s1, s2, s3⟩ := hb.word hw (i := t) (by omega) (lorT .u64 ((X.getD t 0 * 2 ^ min 8 IntKind.u64.bits) % pow2 .u64) (b % pow2 .u64)) τ
    have g1 : Chg (fun i => i = x) H H1 := s3.chg rfl
    have e3 : wr .i64 ((pre.length : Int) + Int.ofNat 1) = ((pre ++ [b]).length : Int) := by
      rw [wr_id (by simp; omega) (by simp; omega)]; simp
    have em : wr .i64 ((t : Int) * (size : Int)) = ((t * size : Nat) : Int) := by
      rw [← Int.natCast_mul, wr_id (by omega) (by omega)]
    obtain ⟨H', r1, r2, r3⟩ := ih (pre ++ [b]) (X.set t (lorT .u64 ((X.getD t 0 * 2 ^ min 8 IntKind.u64.bits) % pow2 .u64) (b % pow2 .u64))) H1
      (T.set (T.set (T.set (T.set (T.set (T.set (T.set (T.set (T.set (T.set (T.set (T.set (T.set (T.set .leaf 0 a0) 3 v) 5 a5) 6 a6) 8 a8) 9 (.int .i64 (size : Int))) 10 a10) 11 a11) 12 (.ptr x 0)) 13 (.int .i64 (t : Int))) 14 (.int .i64 (pre.length : Int))) 37 (.int .i64 (pre.length : Int))) 38 (.int .i64 ((pre ++ [b]).length : Int))) 14 (.int .i64 ((pre ++ [b]).length : Int)))
      τ m (by rw [hc]; simp) (by simp at hm; omega) (by simp [hX]) s3.wf s2 (fun H' h => hR H' (g1.trans h fun _ _ q => q))
      (by simp [T.get_set]) (by simp [T.get_set]) (by simp [T.get_set]) (by simp [T.get_set]) (by simp [T.get_set]) (by simp [T.get_set]) (by simp [T.get_set]) (by simp [T.get_set]) (by simp [T.get_set]) (by simp [T.get_set]) (by simp [T.get_set])
    refine ⟨H', ?_, g1.trans r2 fun _ _ q => q, fun k => ?_⟩
    · have hq : t < X.length := by omega
      have : (X.set t (lorT .u64 ((X.getD t 0 * 2 ^ min 8 IntKind.u64.bits) % pow2 .u64) (b % pow2 .u64))).getD t 0 = lorT .u64 ((X.getD t 0 * 2 ^ min 8 IntKind.u64.bits) % pow2 .u64) (b % pow2 .u64) := by
        simp [List.getD_eq_getElem?_getD, hq]
      rw [this, List.set_set] at r1
      exact r1
    · have e8 : ∀ (x : Nat) q, binK .shl (.int .u64 (x : Int)) (.int .u64 (.ofNat 8)) q = q (.int .u64 (((x * 2 ^ (min 8 IntKind.u64.bits)) % pow2 .u64 : Nat) : Int)) := fun x q => u_shl (k' := .u64) uk64 x 8 q
      have lorE : ∀ (q : V → Ans) (x y : Nat), binK .or (.int .u64 (x : Int)) (.int .u64 (y : Int)) q = q (.int .u64 ((lorT .u64 x y : Nat) : Int)) := fun q x y => u_or uk64 x y q
      rw [loopK_succ]
      simp only [s25_l12, getK_mk f0, getK_mk f3, getK_mk f5, getK_mk f6, getK_mk f8, getK_mk f9, getK_mk f10, getK_mk f11, getK_mk f12, getK_mk f13, getK_mk f14, bin_lss, e1, condK_t, ai80 _ (show t < 80 by omega), someK_mk, load_ws hb (show t < X.length by omega), e8, bin_mul, em, bin_add, adN (show t * size + pre.length < 1000000 by omega), p1, p2, toInt_mk, uk64 b, lorE, s1, effK_mk, e3]
      exact r3 k

def initR (size : Nat) (bs : List Nat) : Nat → Nat → List Nat → List Nat
  | 0, _, X => X
  | n + 1, t, X => initR size bs n (t + 1) (X.set t (accT .u64 (X.getD t 0) ((bs.drop (t * size)).take size)))
theorem initR_len (size : Nat) (bs : List Nat) : ∀ n t X, (initR size bs n t X).length = X.length := by
  intro n; induction n with
  | zero => intros; rfl
  | succ n ih => intro t X; rw [initR, ih]; simp
theorem l10b (c : CallK) (N : Nat) (hN : 1000 < N) (x size : Nat) (hsz : size ≤ 8) (v a0 a5 a6 a8 a10 a11 : V) (bs : List Nat) (hlen : bs.length < 100000) (h16 : 16 * size ≤ bs.length) :
    ∀ (n t : Nat) (X : List Nat) (H : Heap) (fr : T V) (τ : Tape) (m : Nat), t + n = 16 → n < m → X.length = 80 → WF H → Bx H x (ws .u64 X) → (∀ H', Chg (fun i => i = x) H H' → Rd H' 1 v bs.length (ws .u8 bs)) →
    fr.get 0 = some a0 → fr.get 3 = some v → fr.get 5 = some a5 → fr.get 6 = some a6 → fr.get 8 = some a8 → fr.get 9 = some (.int .i64 (size : Int)) → fr.get 10 = some a10 → fr.get 11 = some a11 → fr.get 12 = some (.ptr x 0) → fr.get 13 = some (.int .i64 (t : Int)) →
    ∃ H', Bx H' x (ws .u64 (initR size bs n t X)) ∧ Chg (fun i => i = x) H H' ∧
      ∀ k, loopK (s25_l10 c N) m ⟨fr, H⟩ τ k = k (.exit 0) ⟨(T.set (T.set (T.set (T.set (T.set (T.set (T.set (T.set .leaf 0 a0) 5 a5) 6 a6) 8 a8) 9 (.int .i64 (size : Int))) 10 a10) 11 a11) 12 (.ptr x 0)), H'⟩ τ := by
  intro n
  induction n with
  | zero =>
    intro t X H fr τ m hn hm hX hw hb hR f0 f3 f5 f6 f8 f9 f10 f11 f12 f13
    obtain ⟨m, rfl⟩ : ∃ j, m = j + 1 := ⟨m - 1, by omega⟩
    refine ⟨H, hb, Chg.refl hw, fun k => ?_⟩
    have e1 : decide ((t : Int) < Int.ofNat 16) = false := decide_eq_false (by simp; omega)
    rw [loopK_succ]
    simp only [s25_l10, getK_mk f0, getK_mk f3, getK_mk f5, getK_mk f6, getK_mk f8, getK_mk f9, getK_mk f10, getK_mk f11, getK_mk f12, getK_mk f13, bin_lss, e1, condK_f]
    rfl
  | succ n ih =>
    intro t X H fr τ m hn hm hX hw hb hR f0 f3 f5 f6 f8 f9 f10 f11 f12 f13
    obtain ⟨m, rfl⟩ : ∃ j, m = j + 1 := ⟨m - 1, by omega⟩
    have e1 : decide ((t : Int) < Int.ofNat 16) = true := decide_eq_true (by simp; omega)
    have hcl : ((bs.drop (t * size)).take size).length = size := by
      have : (t + 1) * size ≤ 16 * size := Nat.mul_le_mul_right _ (by omega)
      rw [Nat.add_mul, Nat.one_mul] at this
      rw [List.length_take, List.length_drop]; omega
    obtain ⟨H1, b1, g1, k1⟩ := l12b c N x size t hsz (by omega) v a0 a5 a6 a8 a10 a11 bs hlen _ rfl hcl ((bs.drop (t * size)).take size) [] X H
      (T.set (T.set (T.set (T.set (T.set (T.set (T.set (T.set (T.set (T.set (T.set .leaf 0 a0) 3 v) 5 a5) 6 a6) 8 a8) 9 (.int .i64 (size : Int))) 10 a10) 11 a11) 12 (.ptr x 0)) 13 (.int .i64 (t : Int))) 14 (.int .i64 (.ofNat 0)))
      τ N rfl (by omega) hX hw hb hR
      (by simp [T.get_set]) (by simp [T.get_set]) (by simp [T.get_set]) (by simp [T.get_set]) (by simp [T.get_set]) (by simp [T.get_set]) (by simp [T.get_set]) (by simp [T.get_set]) (by simp [T.get_set]) (by simp [T.get_set]) (by simp [T.get_set])
    have e4 : wr .i64 ((t : Int) + Int.ofNat 1) = ((t + 1 : Nat) : Int) := adN (k := 1) (by omega)
    obtain ⟨H', r1, r2, r3⟩ := ih (t + 1) _ H1
      (T.set (T.set (T.set (T.set (T.set (T.set (T.set (T.set (T.set (T.set (T.set (T.set (T.set .leaf 0 a0) 3 v) 5 a5) 6 a6) 8 a8) 9 (.int .i64 (size : Int))) 10 a10) 11 a11) 12 (.ptr x 0)) 13 (.int .i64 (t : Int))) 32 (.int .i64 (t : Int))) 33 (.int .i64 ((t + 1 : Nat) : Int))) 13 (.int .i64 ((t + 1 : Nat) : Int)))
      τ m (by omega) (by omega) (by simp [hX]) g1.wf b1 (fun H' h => hR H' (g1.trans h fun _ _ q => q))
      (by simp [T.get_set]) (by simp [T.get_set]) (by simp [T.get_set]) (by simp [T.get_set]) (by simp [T.get_set]) (by simp [T.get_set]) (by simp [T.get_set]) (by simp [T.get_set]) (by simp [T.get_set]) (by simp [T.get_set])
    refine ⟨H', r1, g1.trans r2 fun _ _ q => q, fun k => ?_⟩
    rw [loopK_succ]
    simp only [s25_l10, getK_mk f0, getK_mk f3, getK_mk f5, getK_mk f6, getK_mk f8, getK_mk f9, getK_mk f10, getK_mk f11, getK_mk f12, getK_mk f13, bin_lss, e1, condK_t]
    rw [k1]
    simp only [blockK, Nat.beq_refl, cond_true, cond_false, seqK, s25_j11, getK_set, ↓reduceIte, Nat.reduceEqDiff, bin_add, e4]
    exact r3 k

/-! ### the other words -/
abbrev Mix32 (c : CallK) : Prop := ∀ (bits x a b d : Nat) (shift : Bool), a ≤ bits → b ≤ bits → d ≤ bits → bits ≤ 64 → ∀ (H : Heap), WF H → ∀ τ, ∃ H', Gr H.size H H' ∧ ∀ q, c 32 [.agg [.int .u64 (bits : Int)], .int .u64 (x : Int), .int .u64 (a : Int), .int .u64 (b : Int), .int .u64 (d : Int), .bool shift] H τ q = q (.int .u64 (mixW bits x a b d shift : Nat)) H' τ
def expR1 (bits : Nat) (X : List Nat) (t : Nat) : Nat :=
  cutT bits (addT .u64 (addT .u64 (addT .u64 (mixW bits (X.getD (t - 2) 0) ((turnsR bits).getD 3 0) ((turnsR bits).getD 4 0) ((turnsR bits).getD 5 0) true) (X.getD (t - 7) 0)) (mixW bits (X.getD (t - 15) 0) ((turnsR bits).getD 0 0) ((turnsR bits).getD 1 0) ((turnsR bits).getD 2 0) true)) (X.getD (t - 16) 0))
def expR (bits : Nat) : Nat → Nat → List Nat → List Nat
  | 0, _, X => X
  | n + 1, t, X => expR bits n (t + 1) (X.set t (expR1 bits X t))
theorem expR_len (bits : Nat) : ∀ n t X, (expR bits n t X).length = X.length := by
  intro n; induction n with
  | zero => intros; rfl
  | succ n ih => intro t X; rw [expR, ih]; simp
theorem l9b (c : CallK) (N : Nat) (h32 : Mix32 c) (h31 : Cut31 c) (bits : Nat) (hbits : bits = 32 ∨ bits = 64) (x w s rounds : Nat) (hr : rounds ≤ 80) (hws : w ≠ x) (hsx : s ≠ x) (a0 a6 a8 a9 : V) :
    ∀ (n t : Nat) (X : List Nat) (H : Heap) (fr : T V) (τ : Tape) (m : Nat), 16 ≤ t → t + n = rounds → n < m → X.length = 80 → WF H → Bx H x (ws .u64 X) → Bx H w [.int .u64 (bits : Int)] → Bx H s (ws .u64 (turnsR bits)) →
    fr.get 0 = some a0 → fr.get 5 = some (.ptr w 0) → fr.get 6 = some a6 → fr.get 8 = some a8 → fr.get 9 = some a9 → fr.get 10 = some (.int .i64 (rounds : Int)) → fr.get 11 = some (.ptr s 0) → fr.get 12 = some (.ptr x 0) → fr.get 15 = some (.int .i64 (t : Int)) →
    ∃ H', Bx H' x (ws .u64 (expR bits n t X)) ∧ Chg (fun i => i = x) H H' ∧
      ∀ k, loopK (s25_l9 c N) m ⟨fr, H⟩ τ k = k (.exit 4) ⟨(T.set (T.set (T.set (T.set (T.set (T.set (T.set (T.set .leaf 0 a0) 5 (.ptr w 0)) 6 a6) 8 a8) 9 a9) 10 (.int .i64 (rounds : Int))) 11 (.ptr s 0)) 12 (.ptr x 0)), H'⟩ τ := by
  intro n
  induction n with
  | zero =>
    intro t X H fr τ m h16 hn hm hX hw hb hbw hbs f0 f5 f6 f8 f9 f10 f11 f12 f15
    obtain ⟨m, rfl⟩ : ∃ j, m = j + 1 := ⟨m - 1, by omega⟩
    refine ⟨H, hb, Chg.refl hw, fun k => ?_⟩
    have e1 : decide ((t : Int) < (rounds : Int)) = false := decide_eq_false (by omega)
    rw [loopK_succ]
    simp only [s25_l9, getK_mk f0, getK_mk f5, getK_mk f6, getK_mk f8, getK_mk f9, getK_mk f10, getK_mk f11, getK_mk f12, getK_mk f15, bin_lss, e1, condK_f]
    rfl
  | succ n ih =>
    intro t X H fr τ m h16 hn hm hX hw hb hbw hbs f0 f5 f6 f8 f9 f10 f11 f12 f15
    obtain ⟨m, rfl⟩ : ∃ j, m = j + 1 := ⟨m - 1, by omega⟩
    have e1 : decide ((t : Int) < (rounds : Int)) = true := decide_eq_true (by omega)
    have h64 : bits ≤ 64 := by omega
    have tl := turnsR_le hbits
    obtain ⟨H1, g1, k1⟩ := h32 bits (X.getD (t - 2) 0) ((turnsR bits).getD 3 0) ((turnsR bits).getD 4 0) ((turnsR bits).getD 5 0) true (tl 3 (by omega)) (tl 4 (by omega)) (tl 5 (by omega)) h64 H hw τ
    obtain ⟨H2, g2, k2⟩ := h32 bits (X.getD (t - 15) 0) ((turnsR bits).getD 0 0) ((turnsR bits).getD 1 0) ((turnsR bits).getD 2 0) true (tl 0 (by omega)) (tl 1 (by omega)) (tl 2 (by omega)) h64 H1 g1.wf τ
    obtain ⟨H3, g3, k3⟩ := h31 bits (addT .u64 (addT .u64 (addT .u64 (mixW bits (X.getD (t - 2) 0) ((turnsR bits).getD 3 0) ((turnsR bits).getD 4 0) ((turnsR bits).getD 5 0) true) (X.getD (t - 7) 0)) (mixW bits (X.getD (t - 15) 0) ((turnsR bits).getD 0 0) ((turnsR bits).getD 1 0) ((turnsR bits).getD 2 0) true)) (X.getD (t - 16) 0)) H2 g2.wf τ
    have x1 := hb.gr g1 (hb.lt hw)
    have x2 := x1.gr g2 (x1.lt g1.wf)
    have x3 := x2.gr g3 (x2.lt g2.wf)
    have w1 := hbw.gr g1 (hbw.lt hw)
    have w2 := w1.gr g2 (w1.lt g1.wf)
    have w3 := w2.gr g3 (w2.lt g2.wf)
    have s1 := hbs.gr g1 (hbs.lt hw)
    have s2 := s1.gr g2 (s1.lt g1.wf)
    have s3 := s2.gr g3 (s2.lt g2.wf)
    obtain ⟨H4, u1, u2, u3⟩ := x3.word g3.wf (i := t) (by omega) (expR1 bits X t) τ
    have w4 := w3.only u3 hws
    have s4 := s3.only u3 hsx
    have g4 : Chg (fun i => i = x) H H4 := (((g1.chg (P := fun i => i = x)).trans (g2.chg (P := fun i => i = x)) fun _ _ q => q).trans (g3.chg (P := fun i => i = x)) fun _ _ q => q).trans (u3.chg (P := fun i => i = x) rfl) fun _ _ q => q
    have e4 : wr .i64 ((t : Int) + Int.ofNat 1) = ((t + 1 : Nat) : Int) := adN (k := 1) (by omega)
    have sb : ∀ j : Nat, j ≤ 16 → wr .i64 ((t : Int) - Int.ofNat j) = ((t - j : Nat) : Int) := fun j hj => by
      rw [wr_id (by simp; omega) (by simp; omega)]; simp; omega
    obtain ⟨H', r1, r2, r3⟩ := ih (t + 1) _ H4
      (T.set (T.set (T.set (T.set (T.set (T.set (T.set (T.set (T.set (T.set (T.set (T.set .leaf 0 a0) 5 (.ptr w 0)) 6 a6) 8 a8) 9 a9) 10 (.int .i64 (rounds : Int))) 11 (.ptr s 0)) 12 (.ptr x 0)) 15 (.int .i64 (t : Int))) 58 (.int .i64 (t : Int))) 59 (.int .i64 ((t + 1 : Nat) : Int))) 15 (.int .i64 ((t + 1 : Nat) : Int)))
      τ m (by omega) (by omega) (by omega) (by simp [hX]) u3.wf u2 w4 s4
      (by simp [T.get_set]) (by simp [T.get_set]) (by simp [T.get_set]) (by simp [T.get_set]) (by simp [T.get_set]) (by simp [T.get_set]) (by simp [T.get_set]) (by simp [T.get_set]) (by simp [T.get_set])
    refine ⟨H', r1, g4.trans r2 fun _ _ q => q, fun k => ?_⟩
    have lw : ∀ {K : Heap}, Bx K w [.int .u64 (bits : Int)] → lLoadN 1 [.ptr w 0] K = some (.agg [.int .u64 (bits : Int)]) := fun h => load_cells (off := 0) (n := 1) h.cells (by simp)
    have lx : ∀ {K : Heap}, Bx K x (ws .u64 X) → ∀ j, j ≤ 16 → lLoad1 [.ptr x (t - j)] K = some (.int .u64 ((X.getD (t - j) 0 : Nat) : Int)) := fun h j hj => load_ws h (by omega)
    have ls : ∀ {K : Heap}, Bx K s (ws .u64 (turnsR bits)) → ∀ j, j < 12 → lLoad1 [.ptr s j] K = some (.int .u64 (((turnsR bits).getD j 0 : Nat) : Int)) := fun h j hj => load_ws h (by rw [turnsR_len]; exact hj)
    have addE : ∀ (q : V → Ans) (x y : Nat), binK .add (.int .u64 (x : Int)) (.int .u64 (y : Int)) q = q (.int .u64 ((addT .u64 x y : Nat) : Int)) := fun q x y => u_add uk64 x y q
    have x4 : ∀ j, 0 < j → j ≤ 16 → lLoad1 [.ptr x (t - j)] H4 = some (.int .u64 ((X.getD (t - j) 0 : Nat) : Int)) := fun j hj hj' => by
      have := load_ws u2 (i := t - j) (by simp; omega)
      rw [this]
      simp [List.getD_eq_getElem?_getD, List.getElem?_set_ne (show t ≠ t - j by omega)]
    have hc : chkLoads [H, H1, H2, H3, H4] (((.load none), [.ptr x (t - 16)], 0, 2) :: (((.load none), [.ptr s 2], 0, 1) :: (((.load none), [.ptr s 1], 0, 1) :: (((.load none), [.ptr s 0], 0, 1) :: (((.load none), [.ptr x (t - 15)], 0, 1) :: (((.load (some 1)), [.ptr w 0], 0, 1) :: (((.load none), [.ptr x (t - 7)], 0, 2) :: (((.load (some 1)), [.ptr w 0], 0, 2) :: [])))))))) = true := by
      simp [chkLoads, evalL, lLoad, lx hb, lx x1, lx x2, lw hbw, lw w1, lw w2, ls hbs, ls s1, ls s2, chk1, same, sameL, same1, same0]
    unfold expR1 at u1
    rw [loopK_succ]
    simp only [s25_l9, getK_mk f0, getK_mk f5, getK_mk f6, getK_mk f8, getK_mk f9, getK_mk f10, getK_mk f11, getK_mk f12, getK_mk f15, bin_lss, e1, condK_t, lw hbw, someK_mk, bin_sub, sb 2 (by omega), sb 7 (by omega), sb 15 (by omega), sb 16 (by omega), ai80 _ (show t - 2 < 80 by omega), ai80 _ (show t - 7 < 80 by omega), ai80 _ (show t - 15 < 80 by omega), ai80 _ (show t - 16 < 80 by omega), ai80 _ (show t < 80 by omega),
      ai12 _ (show 0 < 12 by omega), ai12 _ (show 1 < 12 by omega), ai12 _ (show 2 < 12 by omega), ai12 _ (show 3 < 12 by omega), ai12 _ (show 4 < 12 by omega), ai12 _ (show 5 < 12 by omega),
      lx hb 2 (by omega), ls hbs 3 (by omega), ls hbs 4 (by omega), ls hbs 5 (by omega), k1, lx x1 7 (by omega), addE, lw w1, lx x1 15 (by omega), ls s1 0 (by omega), ls s1 1 (by omega), ls s1 2 (by omega), k2, lx x2 16 (by omega), k3, u1, effK_mk, hc, cond_true, bin_add .i64, e4]
    exact r3 k
end Go.Am.AmTrydDig

namespace Go.Am.AmTrydDig
set_option linter.unusedSimpArgs false
set_option linter.unusedVariables false
/-! ### rounds, as the document has them -/
def constR (bits k : Nat) : Nat := if bits = 32 then shrT .u64 k 32 else k
def t1R (bits : Nat) (K X : List Nat) (i : Nat) (v : List Nat) : Nat :=
  addT .u64 (addT .u64 (addT .u64 (addT .u64 (v.getD 7 0) (mixW bits (v.getD 4 0) ((turnsR bits).getD 9 0) ((turnsR bits).getD 10 0) ((turnsR bits).getD 11 0) false)) (choiceT .u64 v)) (constR bits (K.getD i 0))) (X.getD i 0)
def t2R (bits : Nat) (v : List Nat) : Nat := addT .u64 (mixW bits (v.getD 0 0) ((turnsR bits).getD 6 0) ((turnsR bits).getD 7 0) ((turnsR bits).getD 8 0) false) (mostT .u64 v)
def roundR (bits : Nat) (K X : List Nat) (i : Nat) (v : List Nat) : List Nat :=
  [cutT bits (addT .u64 (t1R bits K X i v) (t2R bits v)), v.getD 0 0, v.getD 1 0, v.getD 2 0, cutT bits (addT .u64 (v.getD 3 0) (t1R bits K X i v)), v.getD 4 0, v.getD 5 0, v.getD 6 0]
def rsR (bits : Nat) (K X : List Nat) : Nat → Nat → List Nat → List Nat
  | 0, _, v => v
  | n + 1, i, v => rsR bits K X n (i + 1) (roundR bits K X i v)
theorem rsR_len (bits : Nat) (K X : List Nat) : ∀ n i v, v.length = 8 → (rsR bits K X n i v).length = 8 := by
  intro n; induction n with
  | zero => intro i v h; exact h
  | succ n ih => intro i v h; exact ih _ _ rfl

theorem j8b (c : CallK) (N : Nat) (h32 : Mix32 c) (h31 : Cut31 c) (bits : Nat) (hbits : bits = 32 ∨ bits = 64) (x w s y i : Nat) (hi : i < 80) (hxy : x ≠ y) (a0 a6 a8 a9 a10 : V) (K X v : List Nat) (hX : X.length = 80) (hv : v.length = 8) (H : Heap) (hw : WF H)
    (hbx : Bx H x (ws .u64 X)) (hbw : Bx H w [.int .u64 (bits : Int)]) (hbs : Bx H s (ws .u64 (turnsR bits))) (hby : Bx H y (ws .u64 v)) (τ : Tape) (fr : T V)
    (f0 : fr.get 0 = some a0) (f5 : fr.get 5 = some (.ptr w 0)) (f6 : fr.get 6 = some a6) (f8 : fr.get 8 = some a8) (f9 : fr.get 9 = some a9) (f10 : fr.get 10 = some a10) (f11 : fr.get 11 = some (.ptr s 0)) (f12 : fr.get 12 = some (.ptr x 0)) (f16 : fr.get 16 = some (.ptr y 0)) (f17 : fr.get 17 = some (.int .i64 (i : Int))) (f18 : fr.get 18 = some (.int .u64 ((constR bits (K.getD i 0) : Nat) : Int))) :
    ∃ H', Bx H' y (ws .u64 (roundR bits K X i v)) ∧ Chg (fun i => i = y) H H' ∧
      ∀ k, s25_j8 c N k ⟨fr, H⟩ τ = k .normal ⟨(T.set (T.set (T.set (T.set (T.set (T.set (T.set (T.set (T.set (T.set (T.set (T.set (T.set .leaf 0 a0) 5 (.ptr w 0)) 6 a6) 8 a8) 9 a9) 10 a10) 11 (.ptr s 0)) 12 (.ptr x 0)) 16 (.ptr y 0)) 17 (.int .i64 (i : Int))) 103 (.int .i64 (i : Int))) 104 (.int .i64 ((i + 1 : Nat) : Int))) 17 (.int .i64 ((i + 1 : Nat) : Int))), H'⟩ τ := by
  have h64 : bits ≤ 64 := by omega
  have tl := turnsR_le hbits
  obtain ⟨H1, g1, k1⟩ := h32 bits (v.getD 4 0) ((turnsR bits).getD 9 0) ((turnsR bits).getD 10 0) ((turnsR bits).getD 11 0) false (tl 9 (by omega)) (tl 10 (by omega)) (tl 11 (by omega)) h64 H hw τ
  obtain ⟨H2, g2, k2⟩ := h32 bits (v.getD 0 0) ((turnsR bits).getD 6 0) ((turnsR bits).getD 7 0) ((turnsR bits).getD 8 0) false (tl 6 (by omega)) (tl 7 (by omega)) (tl 8 (by omega)) h64 H1 g1.wf τ
  obtain ⟨H3, g3, k3⟩ := h31 bits (addT .u64 (t1R bits K X i v) (t2R bits v)) H2 g2.wf τ
  obtain ⟨H4, g4, k4⟩ := h31 bits (addT .u64 (v.getD 3 0) (t1R bits K X i v)) H3 g3.wf τ
  have x1 := hbx.gr g1 (hbx.lt hw)
  have w1 := hbw.gr g1 (hbw.lt hw)
  have w2 := w1.gr g2 (w1.lt g1.wf)
  have w3 := w2.gr g3 (w2.lt g2.wf)
  have s1 := hbs.gr g1 (hbs.lt hw)
  have y1 := hby.gr g1 (hby.lt hw)
  have y2 := y1.gr g2 (y1.lt g1.wf)
  have y3 := y2.gr g3 (y2.lt g2.wf)
  have y4 := y3.gr g4 (y3.lt g3.wf)
  obtain ⟨H5, u1, u2, u3⟩ := Bx.words y4 g4.wf (roundR bits K X i v) (n := 8) hv rfl (by omega) τ
  have gg : Chg (fun i => i = y) H H5 := ((((g1.chg (P := fun i => i = y)).trans (g2.chg (P := fun i => i = y)) fun _ _ q => q).trans (g3.chg (P := fun i => i = y)) fun _ _ q => q).trans (g4.chg (P := fun i => i = y)) fun _ _ q => q).trans (u3.chg (P := fun i => i = y) rfl) fun _ _ q => q
  refine ⟨H5, u2, gg, fun k => ?_⟩
  have lw : ∀ {K : Heap}, Bx K w [.int .u64 (bits : Int)] → lLoadN 1 [.ptr w 0] K = some (.agg [.int .u64 (bits : Int)]) := fun h => load_cells (off := 0) (n := 1) h.cells (by simp)
  have lx : ∀ {K : Heap}, Bx K x (ws .u64 X) → lLoad1 [.ptr x i] K = some (.int .u64 ((X.getD i 0 : Nat) : Int)) := fun h => load_ws h (by omega)
  have ls : ∀ {K : Heap}, Bx K s (ws .u64 (turnsR bits)) → ∀ j, j < 12 → lLoad1 [.ptr s j] K = some (.int .u64 (((turnsR bits).getD j 0 : Nat) : Int)) := fun h j hj => load_ws h (by rw [turnsR_len]; exact hj)
  have ly : ∀ {K : Heap}, Bx K y (ws .u64 v) → ∀ j, j < 8 → lLoad1 [.ptr y j] K = some (.int .u64 ((v.getD j 0 : Nat) : Int)) := fun h j hj => load_ws h (by omega)
  have addE : ∀ (q : V → Ans) (x y : Nat), binK .add (.int .u64 (x : Int)) (.int .u64 (y : Int)) q = q (.int .u64 ((addT .u64 x y : Nat) : Int)) := fun q x y => u_add uk64 x y q
  have andE : ∀ (q : V → Ans) (x y : Nat), binK .and (.int .u64 (x : Int)) (.int .u64 (y : Int)) q = q (.int .u64 ((landT .u64 x y : Nat) : Int)) := fun q x y => u_and uk64 x y q
  have xorE : ∀ (q : V → Ans) (x y : Nat), binK .xor (.int .u64 (x : Int)) (.int .u64 (y : Int)) q = q (.int .u64 ((xorT .u64 x y : Nat) : Int)) := fun q x y => u_xor uk64 x y q
  have notE : ∀ (q : V → Ans) (x : Nat), unK .xor (.int .u64 (x : Int)) q = q (.int .u64 ((notT .u64 x : Nat) : Int)) := fun q x => u_not uk64 x q
  have e4 : wr .i64 ((i : Int) + Int.ofNat 1) = ((i + 1 : Nat) : Int) := adN (k := 1) (by omega)
  have hc1 : chkLoads [H, H1] (((.load none), [.ptr x i], 0, 1) :: (((.load none), [.ptr y 6], 0, 1) :: (((.load none), [.ptr y 4], 0, 1) :: (((.load none), [.ptr y 5], 0, 1) :: (((.load none), [.ptr y 4], 0, 1) :: (((.load none), [.ptr y 7], 0, 1) :: [])))))) = true := by
    simp [chkLoads, evalL, lLoad, lx hbx, lx x1, ly hby, ly y1, chk1, same, sameL, same1, same0]
  have hc2 : chkLoads [H1, H2] (((.load none), [.ptr y 2], 0, 1) :: (((.load none), [.ptr y 1], 0, 1) :: (((.load none), [.ptr y 2], 0, 1) :: (((.load none), [.ptr y 0], 0, 1) :: (((.load none), [.ptr y 1], 0, 1) :: (((.load none), [.ptr y 0], 0, 1) :: [])))))) = true := by
    simp [chkLoads, evalL, lLoad, ly y1, ly y2, chk1, same, sameL, same1, same0]
  have hc3 : chkLoads [H2, H3, H4, H5] (((.load none), [.ptr y 6], 0, 2) :: (((.load none), [.ptr y 5], 0, 2) :: (((.load none), [.ptr y 4], 0, 2) :: (((.load none), [.ptr y 3], 0, 1) :: (((.load (some 1)), [.ptr w 0], 0, 1) :: (((.load none), [.ptr y 2], 0, 2) :: (((.load none), [.ptr y 1], 0, 2) :: (((.load none), [.ptr y 0], 0, 2) :: [])))))))) = true := by
    simp [chkLoads, evalL, lLoad, ly y2, ly y3, ly y4, lw w2, lw w3, chk1, same, sameL, same1, same0]
  simp only [roundR, ws, List.map] at u1
  have k3' : ∀ q, c 31 [.agg [.int .u64 (bits : Int)], .int .u64 ((addT .u64 (t1R bits K X i v) (t2R bits v) : Nat) : Int)] H2 τ q = q (.int .u64 ((cutT bits (addT .u64 (t1R bits K X i v) (t2R bits v)) : Nat) : Int)) H3 τ := k3
  have k4' : ∀ q, c 31 [.agg [.int .u64 (bits : Int)], .int .u64 ((addT .u64 (v.getD 3 0) (t1R bits K X i v) : Nat) : Int)] H3 τ q = q (.int .u64 ((cutT bits (addT .u64 (v.getD 3 0) (t1R bits K X i v)) : Nat) : Int)) H4 τ := k4
  simp only [s25_j8, getK_mk f0, getK_mk f5, getK_mk f6, getK_mk f8, getK_mk f9, getK_mk f10, getK_mk f11, getK_mk f12, getK_mk f16, getK_mk f17, getK_mk f18, lw hbw, someK_mk, ai8 _ (show 0 < 8 by omega), ai8 _ (show 1 < 8 by omega), ai8 _ (show 2 < 8 by omega), ai8 _ (show 3 < 8 by omega), ai8 _ (show 4 < 8 by omega), ai8 _ (show 5 < 8 by omega), ai8 _ (show 6 < 8 by omega), ai8 _ (show 7 < 8 by omega),
    ai12 _ (show 6 < 12 by omega), ai12 _ (show 7 < 12 by omega), ai12 _ (show 8 < 12 by omega), ai12 _ (show 9 < 12 by omega), ai12 _ (show 10 < 12 by omega), ai12 _ (show 11 < 12 by omega), ai80 _ hi,
    ly hby 7 (by omega), ly hby 4 (by omega), ls hbs 9 (by omega), ls hbs 10 (by omega), ls hbs 11 (by omega), k1, addE, ly y1 4 (by omega), ly y1 5 (by omega), ly y1 6 (by omega), andE, notE, xorE, lx x1, hc1, cond_true, lw w1, ly y1 0 (by omega), ls s1 6 (by omega), ls s1 7 (by omega), ls s1 8 (by omega), k2,
    ly y2 0 (by omega), ly y2 1 (by omega), ly y2 2 (by omega), hc2, lw w2]
  simp only [← choiceT.eq_1, ← mostT.eq_1, ← t1R.eq_1, ← t2R.eq_1, k3', ly y3 0 (by omega), ly y3 1 (by omega), ly y3 2 (by omega), ly y3 3 (by omega), lw w3, someK_mk, addE, k4', ly y4 4 (by omega), ly y4 5 (by omega), ly y4 6 (by omega), build8q, u1, effK_mk, hc3, cond_true, s25_j7, getK_set, ↓reduceIte, Nat.reduceEqDiff, bin_add .i64, e4]
end Go.Am.AmTrydDig

namespace Go.Am.AmTrydDig
set_option linter.unusedSimpArgs false
set_option linter.unusedVariables false
theorem es32 (q : V → Ans) (x : Nat) : binK .shr (.int .u64 (x : Int)) (.int .u64 (.ofNat 32)) q = q (.int .u64 ((shrT .u64 x 32 : Nat) : Int)) := u_shr (k := .u64) (k' := .u64) x 32 q
theorem cr32 (x : Nat) : constR 32 x = shrT .u64 x 32 := if_pos rfl
theorem cr64 (x : Nat) : constR 64 x = x := if_neg (by decide)
theorem hd32 (c : CallK) (N : Nat) (t w s x y rounds i sz : Nat) (hi : i < rounds) (hr : rounds ≤ 80) (a6 a8 : V) (kk : Nat) (H : Heap) (lt : lLoad1 [.ptr t i] H = some (.int .u64 (kk : Int))) (fr : T V) (τ : Tape) (k : KC) (e3 : ((sz : Int) == Int.ofNat 4) = true)
    (f0 : fr.get 0 = some (.ptr t 0)) (f5 : fr.get 5 = some (.ptr w 0)) (f6 : fr.get 6 = some a6) (f8 : fr.get 8 = some a8) (f9 : fr.get 9 = some (.int .i64 (sz : Int))) (f10 : fr.get 10 = some (.int .i64 (rounds : Int))) (f11 : fr.get 11 = some (.ptr s 0)) (f12 : fr.get 12 = some (.ptr x 0)) (f16 : fr.get 16 = some (.ptr y 0)) (f17 : fr.get 17 = some (.int .i64 (i : Int))) :
    s25_l6 c N ⟨fr, H⟩ τ k = s25_j8 c N k ⟨(T.set (T.set (T.set (T.set (T.set (T.set (T.set (T.set (T.set (T.set (T.set (T.set (T.set (T.set (T.set .leaf 0 (.ptr t 0)) 5 (.ptr w 0)) 6 a6) 8 a8) 9 (.int .i64 (sz : Int))) 10 (.int .i64 (rounds : Int))) 11 (.ptr s 0)) 12 (.ptr x 0)) 16 (.ptr y 0)) 17 (.int .i64 (i : Int))) 18 (.int .u64 (kk : Int))) 112 (.bool true)) 113 (.int .u64 (kk : Int))) 114 (.int .u64 ((shrT .u64 kk 32 : Nat) : Int))) 18 (.int .u64 ((shrT .u64 kk 32 : Nat) : Int))), H⟩ τ := by
  have nk : ∀ (i o : Nat), pNilck [.ptr i o] = some (.ptr i o) := fun _ _ => rfl
  have e1 : decide ((i : Int) < (rounds : Int)) = true := decide_eq_true (by omega)
  simp only [s25_l6, getK_mk f0, getK_mk f5, getK_mk f6, getK_mk f8, getK_mk f9, getK_mk f10, getK_mk f11, getK_mk f12, getK_mk f16, getK_mk f17, bin_lss, e1, condK_tn, nk, someK_n, fa0, ai80 _ (show i < 80 by omega), lt, bin_eql, e3, es32]
theorem hd64 (c : CallK) (N : Nat) (t w s x y rounds i sz : Nat) (hi : i < rounds) (hr : rounds ≤ 80) (a6 a8 : V) (kk : Nat) (H : Heap) (lt : lLoad1 [.ptr t i] H = some (.int .u64 (kk : Int))) (fr : T V) (τ : Tape) (k : KC) (e3 : ((sz : Int) == Int.ofNat 4) = false)
    (f0 : fr.get 0 = some (.ptr t 0)) (f5 : fr.get 5 = some (.ptr w 0)) (f6 : fr.get 6 = some a6) (f8 : fr.get 8 = some a8) (f9 : fr.get 9 = some (.int .i64 (sz : Int))) (f10 : fr.get 10 = some (.int .i64 (rounds : Int))) (f11 : fr.get 11 = some (.ptr s 0)) (f12 : fr.get 12 = some (.ptr x 0)) (f16 : fr.get 16 = some (.ptr y 0)) (f17 : fr.get 17 = some (.int .i64 (i : Int))) :
    s25_l6 c N ⟨fr, H⟩ τ k = s25_j8 c N k ⟨(T.set (T.set (T.set (T.set (T.set (T.set (T.set (T.set (T.set (T.set (T.set (T.set .leaf 0 (.ptr t 0)) 5 (.ptr w 0)) 6 a6) 8 a8) 9 (.int .i64 (sz : Int))) 10 (.int .i64 (rounds : Int))) 11 (.ptr s 0)) 12 (.ptr x 0)) 16 (.ptr y 0)) 17 (.int .i64 (i : Int))) 18 (.int .u64 (kk : Int))) 112 (.bool false)), H⟩ τ := by
  have nk : ∀ (i o : Nat), pNilck [.ptr i o] = some (.ptr i o) := fun _ _ => rfl
  have e1 : decide ((i : Int) < (rounds : Int)) = true := decide_eq_true (by omega)
  simp only [s25_l6, getK_mk f0, getK_mk f5, getK_mk f6, getK_mk f8, getK_mk f9, getK_mk f10, getK_mk f11, getK_mk f12, getK_mk f16, getK_mk f17, bin_lss, e1, condK_tn, nk, someK_n, fa0, ai80 _ (show i < 80 by omega), lt, bin_eql, e3, condK_fn]
theorem l6b (c : CallK) (N : Nat) (h32 : Mix32 c) (h31 : Cut31 c) (bits : Nat) (hbits : bits = 32 ∨ bits = 64) (x w s y t rounds : Nat) (hr : rounds ≤ 80) (hxy : x ≠ y) (hwy : w ≠ y) (hsy : s ≠ y) (hty : t ≠ y) (a6 a8 : V) (K X : List Nat) (hK : K.length = 96) (hX : X.length = 80) :
    ∀ (n i : Nat) (v : List Nat) (H : Heap) (fr : T V) (τ : Tape) (m : Nat), i + n = rounds → n < m → v.length = 8 → WF H → Bx H x (ws .u64 X) → Bx H w [.int .u64 (bits : Int)] → Bx H s (ws .u64 (turnsR bits)) → Bx H y (ws .u64 v) → Bx H t (ws .u64 K) →
    fr.get 0 = some (.ptr t 0) → fr.get 5 = some (.ptr w 0) → fr.get 6 = some a6 → fr.get 8 = some a8 → fr.get 9 = some (.int .i64 ((bits / 8 : Nat) : Int)) → fr.get 10 = some (.int .i64 (rounds : Int)) → fr.get 11 = some (.ptr s 0) → fr.get 12 = some (.ptr x 0) → fr.get 16 = some (.ptr y 0) → fr.get 17 = some (.int .i64 (i : Int)) →
    ∃ H', Bx H' y (ws .u64 (rsR bits K X n i v)) ∧ Chg (fun i => i = y) H H' ∧
      ∀ k, loopK (s25_l6 c N) m ⟨fr, H⟩ τ k = k (.exit 6) ⟨(T.set (T.set (T.set (T.set .leaf 5 (.ptr w 0)) 6 a6) 8 a8) 16 (.ptr y 0)), H'⟩ τ := by
  intro n
  induction n with
  | zero =>
    intro i v H fr τ m hn hm hv hw hbx hbw hbs hby hbt f0 f5 f6 f8 f9 f10 f11 f12 f16 f17
    obtain ⟨m, rfl⟩ : ∃ j, m = j + 1 := ⟨m - 1, by omega⟩
    refine ⟨H, hby, Chg.refl hw, fun k => ?_⟩
    have e1 : decide ((i : Int) < (rounds : Int)) = false := decide_eq_false (by omega)
    rw [loopK_succ]
    simp only [s25_l6, getK_mk f0, getK_mk f5, getK_mk f6, getK_mk f8, getK_mk f9, getK_mk f10, getK_mk f11, getK_mk f12, getK_mk f16, getK_mk f17, bin_lss, e1, condK_f]
    rfl
  | succ n ih =>
    intro i v H fr τ m hn hm hv hw hbx hbw hbs hby hbt f0 f5 f6 f8 f9 f10 f11 f12 f16 f17
    obtain ⟨m, rfl⟩ : ∃ j, m = j + 1 := ⟨m - 1, by omega⟩
    have e1 : decide ((i : Int) < (rounds : Int)) = true := decide_eq_true (by omega)
    have nk : ∀ (i o : Nat), pNilck [.ptr i o] = some (.ptr i o) := fun _ _ => rfl
    have lt := load_ws hbt (show i < K.length by omega)
    have fin : ∀ fr' : T V, fr'.get 0 = some (.ptr t 0) → fr'.get 5 = some (.ptr w 0) → fr'.get 6 = some a6 → fr'.get 8 = some a8 → fr'.get 9 = some (.int .i64 ((bits / 8 : Nat) : Int)) → fr'.get 10 = some (.int .i64 (rounds : Int)) → fr'.get 11 = some (.ptr s 0) → fr'.get 12 = some (.ptr x 0) → fr'.get 16 = some (.ptr y 0) → fr'.get 17 = some (.int .i64 (i : Int)) → fr'.get 18 = some (.int .u64 ((constR bits (K.getD i 0) : Nat) : Int)) →
        ∃ H', Bx H' y (ws .u64 (rsR bits K X (n + 1) i v)) ∧ Chg (fun i => i = y) H H' ∧ ∀ k, s25_j8 c N (seqK (fun st τ => loopK (s25_l6 c N) m st τ k) k) ⟨fr', H⟩ τ = k (.exit 6) ⟨(T.set (T.set (T.set (T.set .leaf 5 (.ptr w 0)) 6 a6) 8 a8) 16 (.ptr y 0)), H'⟩ τ := by
      intro fr' g0 g5 g6 g8 g9 g10 g11 g12 g16 g17 g18
      obtain ⟨H1, b1, c1, k1⟩ := j8b c N h32 h31 bits hbits x w s y i (by omega) hxy (.ptr t 0) a6 a8 (.int .i64 ((bits / 8 : Nat) : Int)) (.int .i64 (rounds : Int)) K X v hX hv H hw hbx hbw hbs hby τ fr' g0 g5 g6 g8 g9 g10 g11 g12 g16 g17 g18
      obtain ⟨H', r1, r2, r3⟩ := ih (i + 1) (roundR bits K X i v) H1 (τ := τ) (m := m) (by omega) (by omega) rfl c1.wf (hbx.chg hw c1 hxy) (hbw.chg hw c1 hwy) (hbs.chg hw c1 hsy) b1 (hbt.chg hw c1 hty)
        (fr := (T.set (T.set (T.set (T.set (T.set (T.set (T.set (T.set (T.set (T.set (T.set (T.set (T.set .leaf 0 (.ptr t 0)) 5 (.ptr w 0)) 6 a6) 8 a8) 9 (.int .i64 ((bits / 8 : Nat) : Int))) 10 (.int .i64 (rounds : Int))) 11 (.ptr s 0)) 12 (.ptr x 0)) 16 (.ptr y 0)) 17 (.int .i64 (i : Int))) 103 (.int .i64 (i : Int))) 104 (.int .i64 ((i + 1 : Nat) : Int))) 17 (.int .i64 ((i + 1 : Nat) : Int))))
        (by simp [T.get_set]) (by simp [T.get_set]) (by simp [T.get_set]) (by simp [T.get_set]) (by simp [T.get_set]) (by simp [T.get_set]) (by simp [T.get_set]) (by simp [T.get_set]) (by simp [T.get_set]) (by simp [T.get_set])
      refine ⟨H', r1, c1.trans r2 fun _ _ q => q, fun k => ?_⟩
      rw [k1]
      exact r3 k
    rcases hbits with rfl | rfl
    · have e3 : ((((32 / 8 : Nat)) : Int) == Int.ofNat 4) = true := rfl
      obtain ⟨H', r1, r2, r3⟩ := fin (T.set (T.set (T.set (T.set (T.set (T.set (T.set (T.set (T.set (T.set (T.set (T.set (T.set (T.set (T.set .leaf 0 (.ptr t 0)) 5 (.ptr w 0)) 6 a6) 8 a8) 9 (.int .i64 ((32 / 8 : Nat) : Int))) 10 (.int .i64 (rounds : Int))) 11 (.ptr s 0)) 12 (.ptr x 0)) 16 (.ptr y 0)) 17 (.int .i64 (i : Int))) 18 (.int .u64 ((K.getD i 0 : Nat) : Int))) 112 (.bool true)) 113 (.int .u64 ((K.getD i 0 : Nat) : Int))) 114 (.int .u64 ((shrT .u64 (K.getD i 0) 32 : Nat) : Int))) 18 (.int .u64 ((shrT .u64 (K.getD i 0) 32 : Nat) : Int)))
        (by simp [T.get_set]) (by simp [T.get_set]) (by simp [T.get_set]) (by simp [T.get_set]) (by simp [T.get_set]) (by simp [T.get_set]) (by simp [T.get_set]) (by simp [T.get_set]) (by simp [T.get_set]) (by simp [T.get_set]) (by rw [cr32]; exact T.get_set_same _ _ _)
      refine ⟨H', r1, r2, fun k => ?_⟩
      rw [loopK_succ, hd32 c N t w s x y rounds i (32 / 8) (by omega) hr a6 a8 (K.getD i 0) H lt fr τ _ e3 f0 f5 f6 f8 f9 f10 f11 f12 f16 f17]
      exact r3 k
    · have e3 : ((((64 / 8 : Nat)) : Int) == Int.ofNat 4) = false := rfl
      obtain ⟨H', r1, r2, r3⟩ := fin (T.set (T.set (T.set (T.set (T.set (T.set (T.set (T.set (T.set (T.set (T.set (T.set .leaf 0 (.ptr t 0)) 5 (.ptr w 0)) 6 a6) 8 a8) 9 (.int .i64 ((64 / 8 : Nat) : Int))) 10 (.int .i64 (rounds : Int))) 11 (.ptr s 0)) 12 (.ptr x 0)) 16 (.ptr y 0)) 17 (.int .i64 (i : Int))) 18 (.int .u64 ((K.getD i 0 : Nat) : Int))) 112 (.bool false))
        (by simp [T.get_set]) (by simp [T.get_set]) (by simp [T.get_set]) (by simp [T.get_set]) (by simp [T.get_set]) (by simp [T.get_set]) (by simp [T.get_set]) (by simp [T.get_set]) (by simp [T.get_set]) (by simp [T.get_set]) (by rw [cr64]; simp [T.get_set])
      refine ⟨H', r1, r2, fun k => ?_⟩
      rw [loopK_succ, hd64 c N t w s x y rounds i (64 / 8) (by omega) hr a6 a8 (K.getD i 0) H lt fr τ _ e3 f0 f5 f6 f8 f9 f10 f11 f12 f16 f17]
      exact r3 k

def addR (bits : Nat) (v : List Nat) : Nat → Nat → List Nat → List Nat
  | 0, _, h => h
  | n + 1, i, h => addR bits v n (i + 1) (h.set i (cutT bits (addT .u64 (h.getD i 0) (v.getD i 0))))
theorem addR_len (bits : Nat) (v : List Nat) : ∀ n i h, (addR bits v n i h).length = h.length := by
  intro n; induction n with
  | zero => intros; rfl
  | succ n ih => intro i h; rw [addR, ih]; simp
theorem l5b (c : CallK) (N : Nat) (h31 : Cut31 c) (bits w h y : Nat) (hwh : w ≠ h) (hyh : y ≠ h) (a8 : V) (v : List Nat) (hv : v.length = 8) :
    ∀ (n i : Nat) (L : List Nat) (H : Heap) (fr : T V) (τ : Tape) (m : Nat), i + n = 8 → n < m → L.length = 8 → WF H → Bx H h (ws .u64 L) → Bx H y (ws .u64 v) → Bx H w [.int .u64 (bits : Int)] →
    fr.get 5 = some (.ptr w 0) → fr.get 6 = some (.ptr h 0) → fr.get 8 = some a8 → fr.get 16 = some (.ptr y 0) → fr.get 21 = some (.int .i64 (i : Int)) →
    ∃ H', Bx H' h (ws .u64 (addR bits v n i L)) ∧ Chg (fun i => i = h) H H' ∧ ∀ k, loopK (s25_l5 c N) m ⟨fr, H⟩ τ k = k (.exit 8) ⟨(T.set (T.set .leaf 6 (.ptr h 0)) 8 a8), H'⟩ τ := by
  intro n
  induction n with
  | zero =>
    intro i L H fr τ m hn hm hL hw hbh hby hbw f5 f6 f8 f16 f21
    obtain ⟨m, rfl⟩ : ∃ j, m = j + 1 := ⟨m - 1, by omega⟩
    refine ⟨H, hbh, Chg.refl hw, fun k => ?_⟩
    have e1 : decide ((i : Int) < Int.ofNat 8) = false := decide_eq_false (by simp; omega)
    rw [loopK_succ]
    simp only [s25_l5, getK_mk f5, getK_mk f6, getK_mk f8, getK_mk f16, getK_mk f21, bin_lss, e1, condK_f]
    rfl
  | succ n ih =>
    intro i L H fr τ m hn hm hL hw hbh hby hbw f5 f6 f8 f16 f21
    obtain ⟨m, rfl⟩ : ∃ j, m = j + 1 := ⟨m - 1, by omega⟩
    have e1 : decide ((i : Int) < Int.ofNat 8) = true := decide_eq_true (by simp; omega)
    have lw : lLoadN 1 [.ptr w 0] H = some (.agg [.int .u64 (bits : Int)]) := load_cells (off := 0) (n := 1) hbw.cells (by simp)
    obtain ⟨H1, g1, k1⟩ := h31 bits (addT .u64 (L.getD i 0) (v.getD i 0)) H hw τ
    have h1 := hbh.gr g1 (hbh.lt hw)
    obtain ⟨H2, s1, s2, s3⟩ := h1.word g1.wf (i := i) (by omega) (cutT bits (addT .u64 (L.getD i 0) (v.getD i 0))) τ
    have g2 : Chg (fun i => i = h) H H2 := (g1.chg (P := fun i => i = h)).trans (s3.chg (P := fun i => i = h) rfl) fun _ _ q => q
    have e4 : wr .i64 ((i : Int) + Int.ofNat 1) = ((i + 1 : Nat) : Int) := adN (k := 1) (by omega)
    obtain ⟨H', r1, r2, r3⟩ := ih (i + 1) _ H2 (T.set (T.set (T.set (T.set (T.set (T.set (T.set (T.set .leaf 5 (.ptr w 0)) 6 (.ptr h 0)) 8 a8) 16 (.ptr y 0)) 21 (.int .i64 (i : Int))) 201 (.int .i64 (i : Int))) 202 (.int .i64 ((i + 1 : Nat) : Int))) 21 (.int .i64 ((i + 1 : Nat) : Int)))
      τ m (by omega) (by omega) (by simp [hL]) s3.wf s2 (hby.chg hw g2 hyh) (hbw.chg hw g2 hwh) (by simp [T.get_set]) (by simp [T.get_set]) (by simp [T.get_set]) (by simp [T.get_set]) (by simp [T.get_set])
    refine ⟨H', r1, g2.trans r2 fun _ _ q => q, fun k => ?_⟩
    have addE : ∀ (q : V → Ans) (x y : Nat), binK .add (.int .u64 (x : Int)) (.int .u64 (y : Int)) q = q (.int .u64 ((addT .u64 x y : Nat) : Int)) := fun q x y => u_add uk64 x y q
    rw [loopK_succ]
    simp only [s25_l5, getK_mk f5, getK_mk f6, getK_mk f8, getK_mk f16, getK_mk f21, bin_lss, e1, condK_t, lw, someK_mk, ai8' _ (show i < 8 by omega), load_ws hbh (show i < L.length by omega), load_ws hby (show i < v.length by omega), addE, k1, s1, effK_mk, bin_add .i64, e4]
    exact r3 k

def blockX (bits : Nat) (bs : List Nat) : List Nat := expR bits (roundsR bits - 16) 16 (initR (bits / 8) bs 16 0 (List.replicate 80 0))
def blockR (bits : Nat) (K bs h : List Nat) : List Nat := addR bits (rsR bits K (blockX bits bs) (roundsR bits) 0 h) 8 0 h
theorem blockX_len (bits : Nat) (bs : List Nat) : (blockX bits bs).length = 80 := by unfold blockX; rw [expR_len, initR_len]; simp
theorem blockR_len (bits : Nat) (K bs h : List Nat) : (blockR bits K bs h).length = h.length := by unfold blockR; rw [addR_len]
theorem build12 (x0 x1 x2 x3 x4 x5 x6 x7 x8 x9 x10 x11 : Int) : pBuild (repl 12 [(.int .u64 (.ofNat 0))]) [(0, 1), (1, 1), (2, 1), (3, 1), (4, 1), (5, 1), (6, 1), (7, 1), (8, 1), (9, 1), (10, 1), (11, 1)] [.int .u64 x0, .int .u64 x1, .int .u64 x2, .int .u64 x3, .int .u64 x4, .int .u64 x5, .int .u64 x6, .int .u64 x7, .int .u64 x8, .int .u64 x9, .int .u64 x10, .int .u64 x11] = some (.agg [.int .u64 x0, .int .u64 x1, .int .u64 x2, .int .u64 x3, .int .u64 x4, .int .u64 x5, .int .u64 x6, .int .u64 x7, .int .u64 x8, .int .u64 x9, .int .u64 x10, .int .u64 x11]) := by
  simp [pBuild, fillC, repl, V.cells, List.replicate]
  rfl

theorem j0b (c : CallK) (N : Nat) (hN : 1000 < N) (h32 : Mix32 c) (h31 : Cut31 c) (bits : Nat) (hbits : bits = 32 ∨ bits = 64) (t w h r s : Nat) (K L : List Nat) (hK : K.length = 96) (hL : L.length = 8) (v : V) (bs : List Nat) (hlen : bs.length < 100000) (h16 : 16 * (bits / 8) ≤ bs.length) (B : Nat)
    (H : Heap) (hw : WF H) (hB : B ≤ H.size) (hwB : B ≤ w) (hhB : B ≤ h) (hrB : B ≤ r) (hwh : w ≠ h) (hwr : w ≠ r) (hhr : h ≠ r) (hbt : Bx H t (ws .u64 K)) (hbw : Bx H w [.int .u64 (bits : Int)]) (hbh : Bx H h (ws .u64 L)) (hbr : Bx H r (ws .u64 (List.replicate 8 0))) (hbs : Bx H s (ws .u64 (turnsR bits))) (hth : t ≠ h) (hsh : s ≠ h)
    (hRd : ∀ H', Gr B H H' → Rd H' 1 v bs.length (ws .u8 bs)) (τ : Tape) (fr : T V)
    (f0 : fr.get 0 = some (.ptr t 0)) (f3 : fr.get 3 = some v) (f5 : fr.get 5 = some (.ptr w 0)) (f6 : fr.get 6 = some (.ptr h 0)) (f8 : fr.get 8 = some (.ptr r 0)) (f9 : fr.get 9 = some (.int .i64 ((bits / 8 : Nat) : Int))) (f10 : fr.get 10 = some (.int .i64 ((roundsR bits : Nat) : Int))) (f11 : fr.get 11 = some (.ptr s 0)) :
    ∃ H', Gr B H H' ∧ ∀ q, s25_j0 c N q ⟨fr, H⟩ τ = q (.agg (ws .u64 (blockR bits K bs L))) H' τ := by
  have hsz : bits / 8 ≤ 8 := by omega
  have hr16 : 16 + (roundsR bits - 16) = roundsR bits := by unfold roundsR; split <;> rfl
  have hr80 : roundsR bits ≤ 80 := by unfold roundsR; split <;> omega
  have lt := hbt.lt hw
  have lw := hbw.lt hw
  have lh := hbh.lt hw
  have lr := hbr.lt hw
  have ls := hbs.lt hw
  have a1 : eAlloc (repl 80 [(.int .u64 (.ofNat 0))]) [] H τ = some (.ptr H.size 0, H.new (ws .u64 (List.replicate 80 0)) 80 true, τ) := rfl
  have g1 := Gr.new hw (ws .u64 (List.replicate 80 0)) 80 true
  have x1 := Bx.new H (ws .u64 (List.replicate 80 0)) 80 true (Nat.le_refl _)
  have z1 : (H.new (ws .u64 (List.replicate 80 0)) 80 true).size = H.size + 1 := rfl
  generalize H.new (ws .u64 (List.replicate 80 0)) 80 true = H1 at a1 g1 x1 z1
  obtain ⟨H2, x2, g2, k2⟩ := l10b c N hN H.size (bits / 8) hsz v (.ptr t 0) (.ptr w 0) (.ptr h 0) (.ptr r 0) (.int .i64 ((roundsR bits : Nat) : Int)) (.ptr s 0) bs hlen h16 16 0 (List.replicate 80 0) H1
    (T.set (T.set (T.set (T.set (T.set (T.set (T.set (T.set (T.set (T.set .leaf 0 (.ptr t 0)) 3 v) 5 (.ptr w 0)) 6 (.ptr h 0)) 8 (.ptr r 0)) 9 (.int .i64 ((bits / 8 : Nat) : Int))) 10 (.int .i64 ((roundsR bits : Nat) : Int))) 11 (.ptr s 0)) 12 (.ptr H.size 0)) 13 (.int .i64 (.ofNat 0)))
    τ N (by omega) (by omega) (by simp) g1.wf x1 (fun H' hh => hRd H' ((g1.weaken hB).trans (hh.gr (B := B) (by omega) fun i hi e => by omega) (Nat.le_refl _)))
    (by simp [T.get_set]) (by simp [T.get_set]) (by simp [T.get_set]) (by simp [T.get_set]) (by simp [T.get_set]) (by simp [T.get_set]) (by simp [T.get_set]) (by simp [T.get_set]) (by simp [T.get_set]) (by simp [T.get_set])
  have g12 : Gr H.size H H2 := g1.trans (g2.gr (B := H.size) (by omega) fun i hi e => by omega) (Nat.le_refl _)
  have w2 := hbw.gr g12 lw
  have s2 := hbs.gr g12 ls
  obtain ⟨H3, x3, g3, k3⟩ := l9b c N h32 h31 bits hbits H.size w s (roundsR bits) hr80 (by omega) (by omega) (.ptr t 0) (.ptr h 0) (.ptr r 0) (.int .i64 ((bits / 8 : Nat) : Int)) (roundsR bits - 16) 16 _ H2
    (T.set (T.set (T.set (T.set (T.set (T.set (T.set (T.set (T.set .leaf 0 (.ptr t 0)) 5 (.ptr w 0)) 6 (.ptr h 0)) 8 (.ptr r 0)) 9 (.int .i64 ((bits / 8 : Nat) : Int))) 10 (.int .i64 ((roundsR bits : Nat) : Int))) 11 (.ptr s 0)) 12 (.ptr H.size 0)) 15 (.int .i64 (.ofNat 16)))
    τ N (by omega) hr16 (by omega) (by rw [initR_len]; simp) g2.wf x2 w2 s2
    (by simp [T.get_set]) (by simp [T.get_set]) (by simp [T.get_set]) (by simp [T.get_set]) (by simp [T.get_set]) (by simp [T.get_set]) (by simp [T.get_set]) (by simp [T.get_set]) (by simp [T.get_set])
  have x3' : Bx H3 H.size (ws .u64 (blockX bits bs)) := x3
  have g13 : Gr H.size H H3 := g12.trans (g3.gr (B := H.size) g12.size fun i hi e => by omega) (Nat.le_refl _)
  have h3 := hbh.gr g13 lh
  have ldh : lLoadN 8 [.ptr h 0] H3 = some (.agg (ws .u64 L)) := load_all h3 hL
  have a4 : eAlloc (repl 8 [(.int .u64 (.ofNat 0))]) [] H3 τ = some (.ptr H3.size 0, H3.new (ws .u64 (List.replicate 8 0)) 8 true, τ) := rfl
  have g4 := Gr.new g13.wf (ws .u64 (List.replicate 8 0)) 8 true
  have y4 := Bx.new H3 (ws .u64 (List.replicate 8 0)) 8 true (Nat.le_refl _)
  have z4 : (H3.new (ws .u64 (List.replicate 8 0)) 8 true).size = H3.size + 1 := rfl
  generalize H3.new (ws .u64 (List.replicate 8 0)) 8 true = H4 at a4 g4 y4 z4
  obtain ⟨H5, s5, y5, o5⟩ := Bx.words y4 g4.wf L (n := 8) (by simp) hL (by omega) τ
  have hs3 : H.size < H3.size := x3.lt g13.wf
  have g15 : Gr H.size H H5 := (g13.trans g4 g13.size).trans (o5.gr (B := H.size) g13.size) (Nat.le_refl _)
  have x5 : Bx H5 H.size (ws .u64 (blockX bits bs)) := (x3'.gr g4 hs3).only o5 (by omega)
  have w5 := hbw.gr g15 lw
  have s5' := hbs.gr g15 ls
  have t5 := hbt.gr g15 lt
  obtain ⟨H6, y6, g6, k6⟩ := l6b c N h32 h31 bits hbits H.size w s H3.size t (roundsR bits) hr80 (by omega) (by omega) (by omega) (by omega) (.ptr h 0) (.ptr r 0) K (blockX bits bs) hK (blockX_len _ _) (roundsR bits) 0 L H5
    (T.set (T.set (T.set (T.set (T.set (T.set (T.set (T.set (T.set (T.set .leaf 0 (.ptr t 0)) 5 (.ptr w 0)) 6 (.ptr h 0)) 8 (.ptr r 0)) 9 (.int .i64 ((bits / 8 : Nat) : Int))) 10 (.int .i64 ((roundsR bits : Nat) : Int))) 11 (.ptr s 0)) 12 (.ptr H.size 0)) 16 (.ptr H3.size 0)) 17 (.int .i64 (.ofNat 0)))
    τ N (by omega) (by omega) hL o5.wf x5 w5 s5' y5 t5
    (by simp [T.get_set]) (by simp [T.get_set]) (by simp [T.get_set]) (by simp [T.get_set]) (by simp [T.get_set]) (by simp [T.get_set]) (by simp [T.get_set]) (by simp [T.get_set]) (by simp [T.get_set]) (by simp [T.get_set])
  have g16 : Gr H.size H H6 := g15.trans (g6.gr (B := H.size) g15.size fun i hi e => by omega) (Nat.le_refl _)
  have h6 := hbh.gr g16 lh
  have w6 := hbw.gr g16 lw
  have ly6 : H3.size < H6.size := y6.lt g16.wf
  obtain ⟨H7, h7, g7, k7⟩ := l5b c N h31 bits w h H3.size hwh (by omega) (.ptr r 0) (rsR bits K (blockX bits bs) (roundsR bits) 0 L) (rsR_len _ _ _ _ _ _ hL) 8 0 L H6
    (T.set (T.set (T.set (T.set (T.set .leaf 5 (.ptr w 0)) 6 (.ptr h 0)) 8 (.ptr r 0)) 16 (.ptr H3.size 0)) 21 (.int .i64 (.ofNat 0)))
    τ N (by omega) (by omega) hL g16.wf h6 y6 w6 (by simp [T.get_set]) (by simp [T.get_set]) (by simp [T.get_set]) (by simp [T.get_set]) (by simp [T.get_set])
  have h7' : Bx H7 h (ws .u64 (blockR bits K bs L)) := h7
  have g17 : Gr B H H7 := (g16.weaken hB).trans (g7.gr (B := B) (Nat.le_trans hB g16.size) fun i hi e => by omega) (Nat.le_refl _)
  have r7 : Bx H7 r (ws .u64 (List.replicate 8 0)) := (hbr.gr g16 lr).chg g16.wf g7 (by omega)
  have hbl : (blockR bits K bs L).length = 8 := by rw [blockR_len, hL]
  obtain ⟨H8, s8, r8, o8⟩ := Bx.words r7 g7.wf (blockR bits K bs L) (n := 8) (by simp) hbl (by omega) τ
  refine ⟨H8, g17.trans (o8.gr (B := B) hrB) (Nat.le_refl _), fun q => ?_⟩
  have hres : results ⟨(T.set .leaf 8 (.ptr r 0)), H8⟩ [(.cell 8 (some 8))] = some (.agg (ws .u64 (blockR bits K bs L))) := by
    have hl : H8.loads r 0 8 = some (ws .u64 (blockR bits K bs L)) := by
      rw [loads_cells r8.cells (by rw [ws_len, hbl]; omega), List.drop_zero, List.take_of_length_le (by rw [ws_len, hbl]; omega)]
    simp [results, resAll, resOf, T.get_set, evalL, lLoad, lLoadN, hl]
  simp only [s25_j0, getK_mk f0, getK_mk f3, getK_mk f5, getK_mk f6, getK_mk f8, getK_mk f9, getK_mk f10, getK_mk f11, a1, effK_mk]
  rw [k2]
  simp only [blockK, Nat.beq_refl, cond_true, seqK, s25_j1, getK_set, ↓reduceIte, Nat.reduceEqDiff]
  rw [k3]
  simp only [blockK, Nat.beq_refl, cond_true, seqK, s25_j2, getK_set, ↓reduceIte, Nat.reduceEqDiff, ldh, someK_mk, a4, effK_mk, s5]
  rw [k6]
  simp only [blockK, Nat.beq_refl, cond_true, seqK, s25_j3, getK_set, ↓reduceIte, Nat.reduceEqDiff]
  rw [k7]
  simp only [blockK, Nat.beq_refl, cond_true, seqK, s25_j4, getK_set, ↓reduceIte, Nat.reduceEqDiff, load_all h7' hbl, someK_mk, s8, effK_mk, hres]
end Go.Am.AmTrydDig

namespace Go.Am.AmTrydDig
set_option linter.unusedSimpArgs false
set_option linter.unusedVariables false
theorem s25_ret (c : CallK) (N : Nat) (hN : 1000 < N) (h32 : Mix32 c) (h31 : Cut31 c) (bits : Nat) (hbits : bits = 32 ∨ bits = 64) (t : Nat) (K L : List Nat) (hK : K.length = 96) (hL : L.length = 8) (v : V) (bs : List Nat) (hlen : bs.length < 100000) (h16 : 16 * (bits / 8) ≤ bs.length)
    (H : Heap) (hw : WF H) (hbt : Bx H t (ws .u64 K)) (hRd : ∀ H', Gr H.size H H' → Rd H' 1 v bs.length (ws .u8 bs)) (τ : Tape) :
    ∃ H', Gr H.size H H' ∧ ∀ q, s25 c N (.ptr t 0) (.agg [.int .u64 (bits : Int)]) (.agg (ws .u64 L)) v H τ q = q (.agg (ws .u64 (blockR bits K bs L))) H' τ := by
  have lt := hbt.lt hw
  have a1 : eBox [.agg [.int .u64 (bits : Int)]] H τ = some (.ptr H.size 0, H.new [.int .u64 (bits : Int)] 1 true, τ) := rfl
  have g1 := Gr.new hw [.int .u64 (bits : Int)] 1 true
  have b1 := Bx.new H [.int .u64 (bits : Int)] 1 true (Nat.le_refl _)
  have z1 : (H.new [.int .u64 (bits : Int)] 1 true).size = H.size + 1 := rfl
  generalize H.new [.int .u64 (bits : Int)] 1 true = H1 at a1 g1 b1 z1
  have a2 : eBox [.agg (ws .u64 L)] H1 τ = some (.ptr H1.size 0, H1.new (ws .u64 L) (ws .u64 L).length true, τ) := rfl
  have g2 := Gr.new g1.wf (ws .u64 L) (ws .u64 L).length true
  have b2 := Bx.new H1 (ws .u64 L) (ws .u64 L).length true (Nat.le_refl _)
  have z2 : (H1.new (ws .u64 L) (ws .u64 L).length true).size = H1.size + 1 := rfl
  generalize H1.new (ws .u64 L) (ws .u64 L).length true = H2 at a2 g2 b2 z2
  have a3 : eAlloc (repl 8 [(.int .u64 (.ofNat 0))]) [] H2 τ = some (.ptr H2.size 0, H2.new (ws .u64 (List.replicate 8 0)) 8 true, τ) := rfl
  have g3 := Gr.new g2.wf (ws .u64 (List.replicate 8 0)) 8 true
  have b3 := Bx.new H2 (ws .u64 (List.replicate 8 0)) 8 true (Nat.le_refl _)
  have z3 : (H2.new (ws .u64 (List.replicate 8 0)) 8 true).size = H2.size + 1 := rfl
  generalize H2.new (ws .u64 (List.replicate 8 0)) 8 true = H3 at a3 g3 b3 z3
  have a4 : eAlloc (repl 12 [(.int .u64 (.ofNat 0))]) [] H3 τ = some (.ptr H3.size 0, H3.new (ws .u64 (List.replicate 12 0)) 12 true, τ) := rfl
  have g4 := Gr.new g3.wf (ws .u64 (List.replicate 12 0)) 12 true
  have b4 := Bx.new H3 (ws .u64 (List.replicate 12 0)) 12 true (Nat.le_refl _)
  have z4 : (H3.new (ws .u64 (List.replicate 12 0)) 12 true).size = H3.size + 1 := rfl
  generalize H3.new (ws .u64 (List.replicate 12 0)) 12 true = H4 at a4 g4 b4 z4
  obtain ⟨H5, s5, b5, o5⟩ := Bx.words b4 g4.wf (turnsR 32) (n := 12) (by simp) (turnsR_len _) (by omega) τ
  have z5 := o5.size
  have w3 := ((b1.gr g2 (by omega)).gr g3 (by omega))
  have w5 := (w3.gr g4 (by omega)).only o5 (by omega)
  have h5 := ((b2.gr g3 (by omega)).gr g4 (by omega)).only o5 (by omega)
  have r5 := (b3.gr g4 (by omega)).only o5 (by omega)
  have gA : Gr H.size H H5 := (((g1.trans g2 (by omega)).trans g3 (by omega)).trans g4 (by omega)).trans (o5.gr (B := H.size) (by omega)) (Nat.le_refl _)
  have t5 := hbt.gr gA lt
  have l0 : lLoad1 [.ptr H.size 0] H3 = some (.int .u64 (bits : Int)) := load_cell (off := 0) w3.cells rfl
  have eI : wr .i64 (bits : Int) = (bits : Int) := wr_id (by omega) (by omega)
  have eq8 : wr .i64 ((bits : Int).tdiv (Int.ofNat 8)) = ((bits / 8 : Nat) : Int) := by
    rw [show Int.ofNat 8 = ((8 : Nat) : Int) from rfl, ← Int.ofNat_tdiv, wr_id (by omega) (by omega)]
  have p1 : pBuild (repl 12 [(.int .u64 (.ofNat 0))]) [(0, 1), (1, 1), (2, 1), (3, 1), (4, 1), (5, 1), (6, 1), (7, 1), (8, 1), (9, 1), (10, 1), (11, 1)] [(.int .u64 (.ofNat 7)), (.int .u64 (.ofNat 18)), (.int .u64 (.ofNat 3)), (.int .u64 (.ofNat 17)), (.int .u64 (.ofNat 19)), (.int .u64 (.ofNat 10)), (.int .u64 (.ofNat 2)), (.int .u64 (.ofNat 13)), (.int .u64 (.ofNat 22)), (.int .u64 (.ofNat 6)), (.int .u64 (.ofNat 11)), (.int .u64 (.ofNat 25))] = some (.agg (ws .u64 (turnsR 32))) := build12 7 18 3 17 19 10 2 13 22 6 11 25
  have p2 : pBuild (repl 12 [(.int .u64 (.ofNat 0))]) [(0, 1), (1, 1), (2, 1), (3, 1), (4, 1), (5, 1), (6, 1), (7, 1), (8, 1), (9, 1), (10, 1), (11, 1)] [(.int .u64 (.ofNat 1)), (.int .u64 (.ofNat 8)), (.int .u64 (.ofNat 7)), (.int .u64 (.ofNat 19)), (.int .u64 (.ofNat 61)), (.int .u64 (.ofNat 6)), (.int .u64 (.ofNat 28)), (.int .u64 (.ofNat 34)), (.int .u64 (.ofNat 39)), (.int .u64 (.ofNat 14)), (.int .u64 (.ofNat 18)), (.int .u64 (.ofNat 41))] = some (.agg (ws .u64 (turnsR 64))) := build12 1 8 7 19 61 6 28 34 39 14 18 41
  rcases hbits with rfl | rfl
  · have e3 : ((((32 / 8 : Nat)) : Int) == Int.ofNat 8) = false := rfl
    obtain ⟨H', gf, kf⟩ := j0b c N hN h32 h31 32 (.inl rfl) t H.size H1.size H2.size H3.size K L hK hL v bs hlen h16 H.size H5 o5.wf gA.size (Nat.le_refl _) (by omega) (by omega) (by omega) (by omega) (by omega) t5 w5 h5 r5 b5 (by omega) (by omega) (fun H' h => hRd H' (gA.trans h (Nat.le_refl _))) τ
      (T.set (T.set (T.set (T.set (T.set (T.set (T.set (T.set (T.set .leaf 0 (.ptr t 0)) 3 v) 5 (.ptr H.size 0)) 6 (.ptr H1.size 0)) 8 (.ptr H2.size 0)) 9 (.int .i64 ((32 / 8 : Nat) : Int))) 10 (.int .i64 (.ofNat 64))) 11 (.ptr H3.size 0)) 28 (.bool false))
      (by simp [T.get_set]) (by simp [T.get_set]) (by simp [T.get_set]) (by simp [T.get_set]) (by simp [T.get_set]) (by simp [T.get_set]) (by simp [T.get_set, roundsR]) (by simp [T.get_set])
    refine ⟨H', gA.trans gf (Nat.le_refl _), fun q => ?_⟩
    simp only [s25, a1, a2, a3, effK_n, fa0, someK_n, l0, toInt_mk, eI, bin_quo _ _ (Int.ofNat 8) (by decide), eq8, p1, a4, s5, bin_eql, e3, condK_fn]
    exact kf q
  · have e3 : ((((64 / 8 : Nat)) : Int) == Int.ofNat 8) = true := rfl
    obtain ⟨H6, s6, b6, o6⟩ := Bx.words b5 o5.wf (turnsR 64) (n := 12) (turnsR_len _) (turnsR_len _) (by omega) τ
    have gB : Gr H.size H H6 := gA.trans (o6.gr (B := H.size) (by omega)) (Nat.le_refl _)
    obtain ⟨H', gf, kf⟩ := j0b c N hN h32 h31 64 (.inr rfl) t H.size H1.size H2.size H3.size K L hK hL v bs hlen h16 H.size H6 o6.wf gB.size (Nat.le_refl _) (by omega) (by omega) (by omega) (by omega) (by omega) (t5.only o6 (by omega)) (w5.only o6 (by omega)) (h5.only o6 (by omega)) (r5.only o6 (by omega)) b6 (by omega) (by omega) (fun H' h => hRd H' (gB.trans h (Nat.le_refl _))) τ
      (T.set (T.set (T.set (T.set (T.set (T.set (T.set (T.set (T.set .leaf 0 (.ptr t 0)) 3 v) 5 (.ptr H.size 0)) 6 (.ptr H1.size 0)) 8 (.ptr H2.size 0)) 9 (.int .i64 ((64 / 8 : Nat) : Int))) 10 (.int .i64 (.ofNat 80))) 11 (.ptr H3.size 0)) 29 (.agg (ws .u64 (turnsR 64))))
      (by simp [T.get_set]) (by simp [T.get_set]) (by simp [T.get_set]) (by simp [T.get_set]) (by simp [T.get_set]) (by simp [T.get_set]) (by simp [T.get_set, roundsR]) (by simp [T.get_set])
    refine ⟨H', gB.trans gf (Nat.le_refl _), fun q => ?_⟩
    simp only [s25, a1, a2, a3, effK_n, fa0, someK_n, l0, toInt_mk, eI, bin_quo _ _ (Int.ofNat 8) (by decide), eq8, p1, a4, s5, bin_eql, e3, condK_tn, p2, s6]
    exact kf q
abbrev Block25 (c : CallK) : Prop := ∀ (bits : Nat) (t : Nat) (K L : List Nat) (v : V) (bs : List Nat), (bits = 32 ∨ bits = 64) → K.length = 96 → L.length = 8 → bs.length < 100000 → 16 * (bits / 8) ≤ bs.length → ∀ (H : Heap), WF H → Bx H t (ws .u64 K) → (∀ H', Gr H.size H H' → Rd H' 1 v bs.length (ws .u8 bs)) → ∀ τ,
    ∃ H', Gr H.size H H' ∧ ∀ q, c 25 [.ptr t 0, .agg [.int .u64 (bits : Int)], .agg (ws .u64 L), v] H τ q = q (.agg (ws .u64 (blockR bits K bs L))) H' τ

/-! ### a text is brought to blocks -/
theorem l5p (c : CallK) (N : Nat) (B size : Nat) (hsz : size = 64 ∨ size = 128) (v : V) :
    ∀ (n : Nat) (tl : List Nat) (t : V) (H : Heap) (fr : T V) (τ : Tape) (m : Nat), (tl.length + n) % size = size - size / 8 → n < size → tl.length + n < 100000 → n < m → WF H → B ≤ H.size → Own H B 1 t tl.length (ws .u8 tl) →
    fr.get 0 = some v → fr.get 1 = some (.int .i64 (size : Int)) → fr.get 5 = some t →
    ∃ t' H' τ', Own H' B 1 t' (tl ++ List.replicate n 0).length (ws .u8 (tl ++ List.replicate n 0)) ∧ Gr B H H' ∧ ∀ k, loopK (s24_l5 c N) m ⟨fr, H⟩ τ k = k (.exit 0) ⟨(T.set (T.set (T.set .leaf 0 v) 1 (.int .i64 (size : Int))) 5 t'), H'⟩ τ' := by
  have hs0 : 0 < size := by omega
  have hsI : (size : Int) ≠ 0 := by omega
  have e8 : wr .i64 ((size : Int).tdiv (Int.ofNat 8)) = ((size / 8 : Nat) : Int) := by
    rw [show Int.ofNat 8 = ((8 : Nat) : Int) from rfl, ← Int.ofNat_tdiv, wr_id (by omega) (by omega)]
  have e9 : wr .i64 ((size : Int) - ((size / 8 : Nat) : Int)) = ((size - size / 8 : Nat) : Int) := by
    rw [wr_id (by omega) (by omega)]; omega
  intro n
  induction n with
  | zero =>
    intro tl t H fr τ m ht hn hlen hm hw hB hO f0 f1 f5
    obtain ⟨m, rfl⟩ : ∃ j, m = j + 1 := ⟨m - 1, by omega⟩
    refine ⟨t, H, τ, by simpa using hO, Gr.refl hw, fun k => ?_⟩
    have e5 : ((tl.length : Nat) : Int).tmod (size : Int) = ((size - size / 8 : Nat) : Int) := by
      rw [← Int.ofNat_tmod]; rw [Nat.add_zero] at ht; rw [ht]
    have e6 : (((size - size / 8 : Nat) : Int) != ((size - size / 8 : Nat) : Int)) = false := by simp
    rw [loopK_succ]
    simp only [s24_l5, getK_mk f0, getK_mk f1, getK_mk f5, hO.pLen, someK_n, bin_rem _ _ _ hsI, e5, bin_quo _ _ (Int.ofNat 8) (by decide), e8, bin_sub, e9, bin_neq, e6, condK_fn]
    rfl
  | succ n ih =>
    intro tl t H fr τ m ht hn hlen hm hw hB hO f0 f1 f5
    obtain ⟨m, rfl⟩ : ∃ j, m = j + 1 := ⟨m - 1, by omega⟩
    have e5 : ((tl.length : Nat) : Int).tmod (size : Int) = ((tl.length % size : Nat) : Int) := by rw [← Int.ofNat_tmod]
    have e6 : (((tl.length % size : Nat) : Int) != ((size - size / 8 : Nat) : Int)) = true := by
      simp only [bne_iff_ne, ne_eq]
      intro h
      have h1 : tl.length % size = size - size / 8 := Int.ofNat.inj h
      rcases hsz with rfl | rfl <;> omega
    obtain ⟨w, H1, t', H2, p1, p2, p3, p4, p5⟩ := hO.push (bytes := 1) hw hB (.int .u8 ((0 : Nat) : Int)) (.int .u8 (.ofNat 0)) rfl rfl (by omega) (by omega) τ
    rw [ws_snoc] at p3
    have q0 : Own H2 B 1 t' (tl ++ [0]).length (ws .u8 (tl ++ [0])) := by simpa using p3
    obtain ⟨t2, H', τ', r1, r2, r3⟩ := ih (tl ++ [0]) t' H2 (τ := τ.tail) (m := m) (by rw [← ht, List.length_append]; simp only [List.length_singleton]; congr 1; omega) (by omega) (by simp; omega) (by omega) p4.wf (Nat.le_trans hB p4.size) q0
      (fr := (T.set (T.set (T.set (T.set (T.set (T.set (T.set .leaf 0 v) 1 (.int .i64 (size : Int))) 5 t) 22 t) 23 w) 24 t') 5 t'))
      (by simp [T.get_set]) (by simp [T.get_set]) (by simp [T.get_set])
    have ea : tl ++ [0] ++ List.replicate n 0 = tl ++ List.replicate (n + 1) 0 := by simp [List.replicate_succ]
    rw [ea] at r1
    refine ⟨t2, H', τ', r1, p4.trans r2 (Nat.le_refl _), fun k => ?_⟩
    have p1' : eBuildSlice 1 1 [(V.int .u8 (.ofNat 0))] [(0, 1)] [(V.int .u8 (.ofNat 0))] H τ = some (w, H1, τ) := p1
    rw [loopK_succ]
    simp only [s24_l5, getK_mk f0, getK_mk f1, getK_mk f5, hO.pLen, someK_n, bin_rem _ _ _ hsI, e5, bin_quo _ _ (Int.ofNat 8) (by decide), e8, bin_sub, e9, bin_neq, e6, condK_tn, p1', p2, effK_n]
    exact r3 k

theorem l2p (c : CallK) (N : Nat) (B L : Nat) (v : V) (hL : pLen [v] = some (.int .i64 (L : Int))) :
    ∀ (n : Nat) (tl : List Nat) (t : V) (H : Heap) (fr : T V) (τ : Tape) (m : Nat), n < 20 → tl.length + n < 200000 → n < m → WF H → B ≤ H.size → Own H B 1 t tl.length (ws .u8 tl) →
    fr.get 0 = some v → fr.get 5 = some t → fr.get 6 = some (.int .i64 ((n : Int) - 1)) →
    ∃ t' H' τ', Own H' B 1 t' (tl ++ lens L n).length (ws .u8 (tl ++ lens L n)) ∧ Gr B H H' ∧ ∀ k, loopK (s24_l2 c N) m ⟨fr, H⟩ τ k = k (.exit 2) ⟨(T.set .leaf 5 t'), H'⟩ τ' := by
  intro n
  induction n with
  | zero =>
    intro tl t H fr τ m hn hlen hm hw hB hO f0 f5 f6
    obtain ⟨m, rfl⟩ : ∃ j, m = j + 1 := ⟨m - 1, by omega⟩
    refine ⟨t, H, τ, by simpa [lens] using hO, Gr.refl hw, fun k => ?_⟩
    have e1 : decide (Int.ofNat 0 ≤ (((0 : Nat) : Int) - 1)) = false := by decide
    rw [loopK_succ]
    simp only [s24_l2, getK_mk f0, getK_mk f5, getK_mk f6, bin_geq, e1, condK_fn]
    rfl
  | succ n ih =>
    intro tl t H fr τ m hn hlen hm hw hB hO f0 f5 f6
    obtain ⟨m, rfl⟩ : ∃ j, m = j + 1 := ⟨m - 1, by omega⟩
    have en : (((n + 1 : Nat) : Int) - 1) = (n : Int) := by omega
    rw [en] at f6
    have e1 : decide (Int.ofNat 0 ≤ (n : Int)) = true := decide_eq_true (by simp)
    obtain ⟨w, H1, t', H2, p1, p2, p3, p4, p5⟩ := hO.push (bytes := 1) hw hB (.int .u8 ((lenW L n : Nat) : Int)) (.int .u8 (.ofNat 0)) rfl rfl (by omega) (by omega) τ
    rw [ws_snoc] at p3
    have q0 : Own H2 B 1 t' (tl ++ [lenW L n]).length (ws .u8 (tl ++ [lenW L n])) := by simpa using p3
    have e7 : wr .i64 ((n : Int) - Int.ofNat 1) = (n : Int) - 1 := by rw [wr_id (by simp; omega) (by simp; omega)]; rfl
    obtain ⟨t2, H', τ', r1, r2, r3⟩ := ih (tl ++ [lenW L n]) t' H2 (τ := τ.tail) (m := m) (by omega) (by simp; omega) (by omega) p4.wf (Nat.le_trans hB p4.size) q0
      (fr := (T.set (T.set (T.set (T.set (T.set (T.set .leaf 0 v) 5 t') 6 (.int .i64 (n : Int))) 30 (.int .i64 (n : Int))) 31 (.int .i64 ((n : Int) - 1))) 6 (.int .i64 ((n : Int) - 1))))
      (by simp [T.get_set]) (by simp [T.get_set]) (by simp [T.get_set])
    have ea : tl ++ [lenW L n] ++ lens L n = tl ++ lens L (n + 1) := by simp [lens]
    rw [ea] at r1
    refine ⟨t2, H', τ', r1, p4.trans r2 (Nat.le_refl _), fun k => ?_⟩
    rw [loopK_succ]
    by_cases h8 : n < 8
    · have e2 : decide ((n : Int) < Int.ofNat 8) = true := decide_eq_true (by simp; omega)
      have e3 : wr .i64 (Int.ofNat 8 * (n : Int)) = ((8 * n : Nat) : Int) := by rw [wr_id (by simp; omega) (by simp; omega)]; simp
      have e3' : (8 * n) % pow2 .u64 = 8 * n := by
        apply Nat.mod_eq_of_lt
        have : pow2 .u64 = 18446744073709551616 := by decide
        omega
      have eW : lenW L n = (L % pow2 .u64 * 8 % pow2 .u64 / 2 ^ min (8 * n) IntKind.u64.bits) % pow2 .u8 := by unfold lenW; rw [if_pos h8]
      rw [eW] at p1
      have e6 : ∀ (q : V → Ans), binK .mul (.int .u64 ((L % pow2 .u64 : Nat) : Int)) (.int .u64 (.ofNat 8)) q = q (.int .u64 ((L % pow2 .u64 * 8 % pow2 .u64 : Nat) : Int)) := fun q => u_mul uk64 _ 8 q
      simp only [s24_l2, getK_mk f0, getK_mk f5, getK_mk f6, bin_geq, e1, condK_tn, bin_lss, e2, hL, someK_n, toInt_mk, uk64 L, e6, bin_mul, e3, uk64 (8 * n), e3', u_shr, s24_j4, getK_set, ↓reduceIte, Nat.reduceEqDiff, uk8 _, p1, p2, effK_n, s24_j3, bin_sub, e7]
      exact r3 k
    · have e2 : decide ((n : Int) < Int.ofNat 8) = false := decide_eq_false (by simp; omega)
      have eW : lenW L n = 0 := by unfold lenW; rw [if_neg h8]
      rw [eW] at p1
      have p1' : eBuildSlice 1 1 [(V.int .u8 (.ofNat 0))] [(0, 1)] [(V.int .u8 (wr .u8 (.ofNat 0)))] H τ = some (w, H1, τ) := p1
      simp only [s24_l2, getK_mk f0, getK_mk f5, getK_mk f6, bin_geq, e1, condK_tn, bin_lss, e2, condK_fn, s24_j4, getK_set, ↓reduceIte, Nat.reduceEqDiff, toInt_mk, p1', p2, effK_n, s24_j3, bin_sub, e7]
      exact r3 k

def padR (size : Nat) (bs : List Nat) : List Nat := (bs ++ [128]) ++ List.replicate ((2 * size - size / 8 - (bs.length + 1) % size) % size) 0 ++ lens bs.length (size / 8)
theorem padR_len (size : Nat) (bs : List Nat) (hsz : size = 64 ∨ size = 128) : (padR size bs).length % size = 0 ∧ (padR size bs).length < bs.length + 300 := by
  unfold padR
  rw [List.length_append, List.length_append, List.length_append, List.length_replicate, lens_len]
  simp only [List.length_singleton]
  rcases hsz with rfl | rfl <;> omega
theorem s24_ret (c : CallK) (N : Nat) (hN : 9223372036854775807 ≤ N) (size : Nat) (hsz : size = 64 ∨ size = 128) (v : V) (bs : List Nat) (hlen : bs.length < 80000) (H : Heap) (hw : WF H) (hRd : Rd H 1 v bs.length (ws .u8 bs)) (hsr : Src H v) (τ : Tape) :
    ∃ v' H' τ', Own H' H.size 1 v' (padR size bs).length (ws .u8 (padR size bs)) ∧ Gr H.size H H' ∧ ∀ q, s24 c N v (.int .i64 (size : Int)) H τ q = q v' H' τ' := by
  obtain ⟨H1, b1, g1, e1⟩ : ∃ H4, eBuildSlice 0 1 [] [] [] H τ = some (.sl H.size 0 0 0 none 1, H4, τ) ∧ Gr H.size H H4 ∧ H4.cells? H.size = some [] := ⟨_, rfl, Gr.new hw _ _ _, cells_new _ _ _ _⟩
  have E1 : Emp H1 H.size (.sl H.size 0 0 0 none 1) := ⟨_, rfl, e1, Nat.le_refl _⟩
  have Rd1 := hRd.gr g1 hw (Nat.le_refl _)
  obtain ⟨t2, H2, τ2, b2, o2, g2⟩ := E1.append (bytes := 1) g1.wf g1.size Rd1 (hsr.gr g1 hw (Nat.le_refl _)) (by omega) (by omega) τ
  have g12 := g1.trans g2 g1.size
  obtain ⟨w3, H3', t3, H3, τ3, b3, b3', o3, g3⟩ : ∃ w H1' v' H' τ', eBuildSlice 1 1 [(V.int .u8 (.ofNat 0))] [(0, 1)] [(V.int .u8 (.ofNat 128))] H2 τ2 = some (w, H1', τ2) ∧ eAppend 1 1 [t2, w] H1' τ2 = some (v', H', τ') ∧
      Own H' H.size 1 v' (bs ++ [128]).length (ws .u8 (bs ++ [128])) ∧ Gr H.size H2 H' := by
    rcases o2 with ⟨o2, hpos⟩ | ⟨hz, rfl, rfl, hz2⟩
    · obtain ⟨w, Hq, v2, H', p1, p2, p3, p4, p5⟩ := o2.push (bytes := 1) g12.wf g12.size (.int .u8 ((128 : Nat) : Int)) (.int .u8 (.ofNat 0)) rfl rfl (by omega) (by omega) τ2
      rw [ws_snoc] at p3
      exact ⟨w, Hq, v2, H', _, p1, p2, by simpa using p3, p4⟩
    · obtain ⟨w, Hq, v2, H', τ', p1, p2, p3, p4⟩ := E1.push (bytes := 1) g12.wf g12.size (.int .u8 ((128 : Nat) : Int)) (.int .u8 (.ofNat 0)) rfl (by omega) τ2
      have : bs = [] := List.eq_nil_of_length_eq_zero hz
      subst this
      exact ⟨w, Hq, v2, H', τ', p1, p2, p3, p4.weaken g12.size⟩
  have g13 := g12.trans g3 (Nat.le_refl _)
  have hmod : ((bs ++ [128]).length + (2 * size - size / 8 - (bs.length + 1) % size) % size) % size = size - size / 8 := by
    rw [List.length_append]; simp only [List.length_singleton]
    rcases hsz with rfl | rfl <;> omega
  have hlt : (2 * size - size / 8 - (bs.length + 1) % size) % size < size := Nat.mod_lt _ (by omega)
  obtain ⟨t4, H4, τ4, o4, g4, k4⟩ := l5p c N H.size size hsz v _ (bs ++ [128]) t3 H3 (T.set (T.set (T.set .leaf 0 v) 1 (.int .i64 (size : Int))) 5 t3) τ3 N hmod hlt (by rw [List.length_append]; simp only [List.length_singleton]; omega) (by omega) g13.wf g13.size o3
    (by simp [T.get_set]) (by simp [T.get_set]) (by simp [T.get_set])
  have g14 := g13.trans g4 (Nat.le_refl _)
  obtain ⟨t5, H5, τ5, o5, g5, k5⟩ := l2p c N H.size bs.length v hRd.pLen (size / 8) _ t4 H4 (T.set (T.set (T.set .leaf 0 v) 5 t4) 6 (.int .i64 (((size / 8 : Nat) : Int) - 1))) τ4 N (by omega) (by
      rw [List.length_append, List.length_append, List.length_replicate]; simp only [List.length_singleton]; omega) (by omega) g14.wf g14.size o4
    (by simp [T.get_set]) (by simp [T.get_set]) (by simp [T.get_set])
  refine ⟨t5, H5, τ5, o5, g14.trans g5 (Nat.le_refl _), fun q => ?_⟩
  have e8 : wr .i64 ((size : Int).tdiv (Int.ofNat 8)) = ((size / 8 : Nat) : Int) := by
    rw [show Int.ofNat 8 = ((8 : Nat) : Int) from rfl, ← Int.ofNat_tdiv, wr_id (by omega) (by omega)]
  have e9 : wr .i64 (((size / 8 : Nat) : Int) - Int.ofNat 1) = (((size / 8 : Nat) : Int) - 1) := by rw [wr_id (by simp; omega) (by simp; omega)]; rfl
  simp only [s24, b1, effK_n, b2, b3, b3']
  rw [k4]
  simp only [blockK, Nat.beq_refl, cond_true, seqK, s24_j0, getK_set, ↓reduceIte, Nat.reduceEqDiff, bin_quo _ _ (Int.ofNat 8) (by decide), e8, bin_sub, e9]
  rw [k5]
  simp only [blockK, Nat.beq_refl, cond_true, seqK, s24_j1, getK_set, ↓reduceIte, Nat.reduceEqDiff]
end Go.Am.AmTrydDig

namespace Go.Am.AmTrydDig
set_option linter.unusedSimpArgs false
set_option linter.unusedVariables false
/-! ### a hash, as the document has it -/
def hR (K : List Nat) (wb fr : Nat) : Nat → Nat → List Nat → List Nat
  | 0, _, h => h
  | n + 1, i, h => hR K wb fr n (i + 1) (h.set i (constR wb (K.getD (80 + (fr + i)) 0)))
theorem hR_len (K : List Nat) (wb fr : Nat) : ∀ n i h, (hR K wb fr n i h).length = h.length := by
  intro n; induction n with
  | zero => intros; rfl
  | succ n ih => intro i h; rw [hR, ih]; simp
theorem l8s (c : CallK) (N : Nat) (bits wb from' : Nat) (hwb : wb = if bits = 256 then 32 else 64) (hf : from' ≤ 8) (t h : Nat) (hth : t ≠ h) (K : List Nat) (hK : K.length = 96) (v a8 a9 : V) :
    ∀ (n i : Nat) (L : List Nat) (H : Heap) (fr : T V) (τ : Tape) (m : Nat), i + n = 8 → n < m → L.length = 8 → WF H → Bx H t (ws .u64 K) → Bx H h (ws .u64 L) →
    fr.get 0 = some (.ptr t 0) → fr.get 1 = some (.int .i64 (bits : Int)) → fr.get 2 = some v → fr.get 8 = some a8 → fr.get 9 = some a9 → fr.get 10 = some (.int .i64 (from' : Int)) → fr.get 11 = some (.ptr h 0) → fr.get 12 = some (.int .i64 (i : Int)) →
    ∃ H', Bx H' h (ws .u64 (hR K wb from' n i L)) ∧ Chg (fun i => i = h) H H' ∧ ∀ k, loopK (s14_l8 c N) m ⟨fr, H⟩ τ k = k (.exit 1) ⟨(T.set (T.set (T.set (T.set (T.set (T.set .leaf 0 (.ptr t 0)) 1 (.int .i64 (bits : Int))) 2 v) 8 a8) 9 a9) 11 (.ptr h 0)), H'⟩ τ := by
  intro n
  induction n with
  | zero =>
    intro i L H fr τ m hn hm hL hw hbt hbh f0 f1 f2 f8 f9 f10 f11 f12
    obtain ⟨m, rfl⟩ : ∃ j, m = j + 1 := ⟨m - 1, by omega⟩
    refine ⟨H, hbh, Chg.refl hw, fun k => ?_⟩
    have e1 : decide ((i : Int) < Int.ofNat 8) = false := decide_eq_false (by simp; omega)
    rw [loopK_succ]
    simp only [s14_l8, getK_mk f0, getK_mk f1, getK_mk f2, getK_mk f8, getK_mk f9, getK_mk f10, getK_mk f11, getK_mk f12, bin_lss, e1, condK_fn]
    rfl
  | succ n ih =>
    intro i L H fr τ m hn hm hL hw hbt hbh f0 f1 f2 f8 f9 f10 f11 f12
    obtain ⟨m, rfl⟩ : ∃ j, m = j + 1 := ⟨m - 1, by omega⟩
    have e1 : decide ((i : Int) < Int.ofNat 8) = true := decide_eq_true (by simp; omega)
    have nk : ∀ (i o : Nat), pNilck [.ptr i o] = some (.ptr i o) := fun _ _ => rfl
    have fa : pFieldAddr 80 [.ptr t 0] = some (.ptr t 80) := by simp [pFieldAddr]
    have ea : pArrIdx 16 1 [.ptr t 80, .int .i64 ((from' + i : Nat) : Int)] = some (.ptr t (80 + (from' + i))) := by
      have := arrIdx_mk (z := 1) (id := t) (off := 80) (show from' + i < 16 by omega)
      simpa using this
    have lt := load_ws hbt (show 80 + (from' + i) < K.length by omega)
    obtain ⟨H1, s1, b1, o1⟩ := hbh.word hw (i := i) (by omega) (K.getD (80 + (from' + i)) 0) τ
    have e4 : wr .i64 ((i : Int) + Int.ofNat 1) = ((i + 1 : Nat) : Int) := adN (k := 1) (by omega)
    by_cases hb : bits = 256
    · have hw32 : wb = 32 := by rw [hwb, if_pos hb]
      subst hw32
      have e3 : ((bits : Int) == Int.ofNat 256) = true := by rw [hb]; rfl
      have ld : lLoad1 [.ptr h i] H1 = some (.int .u64 ((K.getD (80 + (from' + i)) 0 : Nat) : Int)) := by
        have := load_ws b1 (show i < (L.set i (K.getD (80 + (from' + i)) 0)).length by simp; omega)
        rw [this]; simp [List.getD_eq_getElem?_getD, show i < L.length by omega]
      obtain ⟨H2, s2, b2, o2⟩ := b1.word o1.wf (i := i) (by simp; omega) (shrT .u64 (K.getD (80 + (from' + i)) 0) 32) τ
      rw [List.set_set] at b2
      have g2 : Chg (fun i => i = h) H H2 := (o1.chg (P := fun i => i = h) rfl).trans (o2.chg (P := fun i => i = h) rfl) fun _ _ q => q
      obtain ⟨H', r1, r2, r3⟩ := ih (i + 1) _ H2 (T.set (T.set (T.set (T.set (T.set (T.set (T.set (T.set (T.set (T.set (T.set .leaf 0 (.ptr t 0)) 1 (.int .i64 (bits : Int))) 2 v) 8 a8) 9 a9) 10 (.int .i64 (from' : Int))) 11 (.ptr h 0)) 12 (.int .i64 (i : Int))) 29 (.int .i64 (i : Int))) 30 (.int .i64 ((i + 1 : Nat) : Int))) 12 (.int .i64 ((i + 1 : Nat) : Int)))
        τ m (by omega) (by omega) (by simp [hL]) o2.wf (hbt.chg hw g2 hth) b2 (by simp [T.get_set]) (by simp [T.get_set]) (by simp [T.get_set]) (by simp [T.get_set]) (by simp [T.get_set]) (by simp [T.get_set]) (by simp [T.get_set]) (by simp [T.get_set])
      refine ⟨H', by rw [hR, cr32]; exact r1, g2.trans r2 fun _ _ q => q, fun k => ?_⟩
      rw [loopK_succ]
      simp only [s14_l8, getK_mk f0, getK_mk f1, getK_mk f2, getK_mk f8, getK_mk f9, getK_mk f10, getK_mk f11, getK_mk f12, bin_lss, e1, condK_tn, bin_add .i64, adN (show from' + i < 1000000 by omega), nk, someK_n, fa, ea, lt, ai8' _ (show i < 8 by omega), s1, effK_n, bin_eql, e3, ld, es32, s2, s14_j9, getK_set, ↓reduceIte, Nat.reduceEqDiff, e4]
      exact r3 k
    · have hw64 : wb = 64 := by rw [hwb, if_neg hb]
      subst hw64
      have e3 : ((bits : Int) == Int.ofNat 256) = false := by rw [beq_eq_false_iff_ne]; intro e; exact hb (Int.ofNat.inj e)
      have g2 : Chg (fun i => i = h) H H1 := o1.chg rfl
      obtain ⟨H', r1, r2, r3⟩ := ih (i + 1) _ H1 (T.set (T.set (T.set (T.set (T.set (T.set (T.set (T.set (T.set (T.set (T.set .leaf 0 (.ptr t 0)) 1 (.int .i64 (bits : Int))) 2 v) 8 a8) 9 a9) 10 (.int .i64 (from' : Int))) 11 (.ptr h 0)) 12 (.int .i64 (i : Int))) 29 (.int .i64 (i : Int))) 30 (.int .i64 ((i + 1 : Nat) : Int))) 12 (.int .i64 ((i + 1 : Nat) : Int)))
        τ m (by omega) (by omega) (by simp [hL]) o1.wf (hbt.chg hw g2 hth) b1 (by simp [T.get_set]) (by simp [T.get_set]) (by simp [T.get_set]) (by simp [T.get_set]) (by simp [T.get_set]) (by simp [T.get_set]) (by simp [T.get_set]) (by simp [T.get_set])
      refine ⟨H', by rw [hR, cr64]; exact r1, g2.trans r2 fun _ _ q => q, fun k => ?_⟩
      rw [loopK_succ]
      simp only [s14_l8, getK_mk f0, getK_mk f1, getK_mk f2, getK_mk f8, getK_mk f9, getK_mk f10, getK_mk f11, getK_mk f12, bin_lss, e1, condK_tn, bin_add .i64, adN (show from' + i < 1000000 by omega), nk, someK_n, fa, ea, lt, ai8' _ (show i < 8 by omega), s1, effK_n, bin_eql, e3, condK_fn, s14_j9, getK_set, ↓reduceIte, Nat.reduceEqDiff, e4]
      exact r3 k

def blocksR (wb size : Nat) (K x : List Nat) : Nat → Nat → List Nat → List Nat
  | 0, _, h => h
  | n + 1, i, h => blocksR wb size K x n (i + size) (blockR wb K ((x.drop i).take size) h)
theorem blocksR_len (wb size : Nat) (K x : List Nat) : ∀ n i h, (blocksR wb size K x n i h).length = h.length := by
  intro n; induction n with
  | zero => intros; rfl
  | succ n ih => intro i h; rw [blocksR, ih, blockR_len]
theorem l7s (c : CallK) (N : Nat) (h25 : Block25 c) (wb size : Nat) (hwb : wb = 32 ∧ size = 64 ∨ wb = 64 ∧ size = 128) (t w h : Nat) (hth : t ≠ h) (hwh : w ≠ h) (K : List Nat) (hK : K.length = 96) (x a1 : V) (xs : List Nat) (hx : xs.length < 90000) (hR : Roomy x) (B : Nat) :
    ∀ (n i : Nat) (L : List Nat) (H : Heap) (fr : T V) (τ : Tape) (m : Nat), i + n * size = xs.length → n < m → L.length = 8 → WF H → B ≤ H.size → Bx H t (ws .u64 K) → Bx H h (ws .u64 L) → Bx H w [.int .u64 (wb : Int)] → RdS h B 1 H x xs.length (ws .u8 xs) →
    fr.get 0 = some (.ptr t 0) → fr.get 1 = some a1 → fr.get 8 = some (.ptr w 0) → fr.get 9 = some (.int .i64 (size : Int)) → fr.get 11 = some (.ptr h 0) → fr.get 13 = some x → fr.get 14 = some (.int .i64 (i : Int)) →
    ∃ H', Bx H' h (ws .u64 (blocksR wb size K xs n i L)) ∧ Chg (fun i => i = h) H H' ∧ ∀ k, loopK (s14_l7 c N) m ⟨fr, H⟩ τ k = k (.exit 3) ⟨(T.set (T.set (T.set .leaf 1 a1) 8 (.ptr w 0)) 11 (.ptr h 0)), H'⟩ τ := by
  have hs0 : 0 < size := by omega
  intro n
  induction n with
  | zero =>
    intro i L H fr τ m hn hm hL hw hB hbt hbh hbw hRd f0 f1 f8 f9 f11 f13 f14
    obtain ⟨m, rfl⟩ : ∃ j, m = j + 1 := ⟨m - 1, by omega⟩
    refine ⟨H, hbh, Chg.refl hw, fun k => ?_⟩
    have e1 : decide ((i : Int) < (xs.length : Int)) = false := decide_eq_false (by omega)
    rw [loopK_succ]
    simp only [s14_l7, getK_mk f0, getK_mk f1, getK_mk f8, getK_mk f9, getK_mk f11, getK_mk f13, getK_mk f14, (hRd.rd hw).pLen, someK_n, bin_lss, e1, condK_fn]
    rfl
  | succ n ih =>
    intro i L H fr τ m hn hm hL hw hB hbt hbh hbw hRd f0 f1 f8 f9 f11 f13 f14
    obtain ⟨m, rfl⟩ : ∃ j, m = j + 1 := ⟨m - 1, by omega⟩
    have hin : i + size ≤ xs.length := by rw [← hn, Nat.add_mul, Nat.one_mul]; omega
    have e1 : decide ((i : Int) < (xs.length : Int)) = true := decide_eq_true (by omega)
    obtain ⟨v', c1, c2, c3, c4⟩ := hRd.cut hw hR (l := i) (m := i + size) (by omega) hin
    have hsz : i + size - i = size := by omega
    rw [hsz] at c2 c4
    have hcl : ((xs.drop i).take size).length = size := by rw [List.length_take, List.length_drop]; omega
    have c5 : RdS h B 1 H v' ((xs.drop i).take size).length (ws .u8 ((xs.drop i).take size)) := by
      rw [hcl]; simpa [ws, List.map_take, List.map_drop] using c4
    have lw : lLoadN 1 [.ptr w 0] H = some (.agg [.int .u64 (wb : Int)]) := load_cells (off := 0) (n := 1) hbw.cells (by simp)
    obtain ⟨H1, g1, k1⟩ := h25 wb t K L v' ((xs.drop i).take size) (by omega) hK hL (by rw [hcl]; omega) (by rw [hcl]; omega) H hw hbt (fun H' hh => c5 H' (hh.gx.weaken hB)) τ
    have h1 := hbh.gr g1 (hbh.lt hw)
    obtain ⟨H2, s2, b2, o2⟩ := Bx.words h1 g1.wf (blockR wb K ((xs.drop i).take size) L) (n := 8) hL (by rw [blockR_len, hL]) (by omega) τ
    have g2 : Chg (fun i => i = h) H H2 := (g1.chg (P := fun i => i = h)).trans (o2.chg (P := fun i => i = h) rfl) fun _ _ q => q
    have e4 : wr .i64 ((i : Int) + (size : Int)) = ((i + size : Nat) : Int) := adN (by omega)
    obtain ⟨H', r1, r2, r3⟩ := ih (i + size) _ H2 (T.set (T.set (T.set (T.set (T.set (T.set (T.set (T.set (T.set (T.set (T.set .leaf 0 (.ptr t 0)) 1 a1) 8 (.ptr w 0)) 9 (.int .i64 (size : Int))) 11 (.ptr h 0)) 13 x) 14 (.int .i64 (i : Int))) 56 (.int .i64 (i : Int))) 57 (.int .i64 (size : Int))) 58 (.int .i64 ((i + size : Nat) : Int))) 14 (.int .i64 ((i + size : Nat) : Int)))
      τ m (by rw [← hn, Nat.add_mul, Nat.one_mul]; omega) (by omega) (by rw [blockR_len, hL]) o2.wf (Nat.le_trans hB g2.size) (hbt.chg hw g2 hth) b2 (hbw.chg hw g2 hwh) (hRd.gx (g2.gx hB fun i _ e => e))
      (by simp [T.get_set]) (by simp [T.get_set]) (by simp [T.get_set]) (by simp [T.get_set]) (by simp [T.get_set]) (by simp [T.get_set]) (by simp [T.get_set])
    refine ⟨H', r1, g2.trans r2 fun _ _ q => q, fun k => ?_⟩
    rw [loopK_succ]
    simp only [s14_l7, getK_mk f0, getK_mk f1, getK_mk f8, getK_mk f9, getK_mk f11, getK_mk f13, getK_mk f14, (hRd.rd hw).pLen, someK_n, bin_lss, e1, condK_tn, lw, load_all hbh hL, bin_add .i64, e4, c1, k1, s2, effK_n]
    exact r3 k

/-- a word's bytes -/
theorem l6s (c : CallK) (N : Nat) (B h i : Nat) (hi : i < 8) (L : List Nat) (hL : L.length = 8) (hhB : h < B) (a1 a8 : V) :
    ∀ (n : Nat) (tl : List Nat) (t : V) (H : Heap) (fr : T V) (τ : Tape) (m : Nat), n ≤ 8 → tl.length + n < 200000 → n < m → WF H → B ≤ H.size → Bx H h (ws .u64 L) → Own H B 1 t tl.length (ws .u8 tl) →
    fr.get 1 = some a1 → fr.get 8 = some a8 → fr.get 11 = some (.ptr h 0) → fr.get 15 = some t → fr.get 16 = some (.int .i64 (i : Int)) → fr.get 17 = some (.int .i64 (8 * (n : Int) - 8)) →
    ∃ t' H' τ', Own H' B 1 t' (tl ++ wordB .u64 (L.getD i 0) n).length (ws .u8 (tl ++ wordB .u64 (L.getD i 0) n)) ∧ Gr B H H' ∧ ∀ k, loopK (s14_l6 c N) m ⟨fr, H⟩ τ k = k (.exit 7) ⟨(T.set (T.set (T.set (T.set (T.set .leaf 1 a1) 8 a8) 11 (.ptr h 0)) 15 t') 16 (.int .i64 (i : Int))), H'⟩ τ' := by
  intro n
  induction n with
  | zero =>
    intro tl t H fr τ m hn hlen hm hw hB hbh hO f1 f8 f11 f15 f16 f17
    obtain ⟨m, rfl⟩ : ∃ j, m = j + 1 := ⟨m - 1, by omega⟩
    refine ⟨t, H, τ, by simpa [wordB] using hO, Gr.refl hw, fun k => ?_⟩
    have e1 : decide (Int.ofNat 0 ≤ (8 * ((0 : Nat) : Int) - 8)) = false := by decide
    rw [loopK_succ]
    simp only [s14_l6, getK_mk f1, getK_mk f8, getK_mk f11, getK_mk f15, getK_mk f16, getK_mk f17, bin_geq, e1, condK_fn]
    rfl
  | succ n ih =>
    intro tl t H fr τ m hn hlen hm hw hB hbh hO f1 f8 f11 f15 f16 f17
    obtain ⟨m, rfl⟩ : ∃ j, m = j + 1 := ⟨m - 1, by omega⟩
    have en : (8 * ((n + 1 : Nat) : Int) - 8) = ((8 * n : Nat) : Int) := by omega
    rw [en] at f17
    have e1 : decide (Int.ofNat 0 ≤ ((8 * n : Nat) : Int)) = true := decide_eq_true (by simp; omega)
    have lt := load_ws hbh (show i < L.length by omega)
    generalize L.getD i 0 = x at lt ih ⊢
    obtain ⟨w, H1, t', H2, p1, p2, p3, p4, p5⟩ := hO.push (bytes := 1) hw hB (.int .u8 ((x / 2 ^ min (8 * n) IntKind.u64.bits % pow2 .u8 : Nat) : Int)) (.int .u8 (.ofNat 0)) rfl rfl (by omega) (by omega) τ
    rw [ws_snoc] at p3
    have q0 : Own H2 B 1 t' (tl ++ [x / 2 ^ min (8 * n) IntKind.u64.bits % pow2 .u8]).length (ws .u8 (tl ++ [x / 2 ^ min (8 * n) IntKind.u64.bits % pow2 .u8])) := by simpa using p3
    have e3' : (8 * n) % pow2 .u64 = 8 * n := by
      apply Nat.mod_eq_of_lt
      have : pow2 .u64 = 18446744073709551616 := by decide
      omega
    have e7 : wr .i64 (((8 * n : Nat) : Int) - Int.ofNat 8) = 8 * (n : Int) - 8 := by rw [wr_id (by simp; omega) (by simp; omega)]; simp
    obtain ⟨t2, H', τ', r1, r2, r3⟩ := ih (tl ++ [x / 2 ^ min (8 * n) IntKind.u64.bits % pow2 .u8]) t' H2 (τ := τ.tail) (m := m) (by omega) (by simp; omega) (by omega) p4.wf (Nat.le_trans hB p4.size) (hbh.gr p4 hhB) q0
      (fr := (T.set (T.set (T.set (T.set (T.set (T.set (T.set (T.set (T.set .leaf 1 a1) 8 a8) 11 (.ptr h 0)) 15 t') 16 (.int .i64 (i : Int))) 17 (.int .i64 ((8 * n : Nat) : Int))) 79 (.int .i64 ((8 * n : Nat) : Int))) 80 (.int .i64 (8 * (n : Int) - 8))) 17 (.int .i64 (8 * (n : Int) - 8))))
      (by simp [T.get_set]) (by simp [T.get_set]) (by simp [T.get_set]) (by simp [T.get_set]) (by simp [T.get_set]) (by simp [T.get_set])
    have ea : tl ++ [x / 2 ^ min (8 * n) IntKind.u64.bits % pow2 .u8] ++ wordB .u64 x n = tl ++ wordB .u64 x (n + 1) := by simp [wordB]
    rw [ea] at r1
    refine ⟨t2, H', τ', r1, p4.trans r2 (Nat.le_refl _), fun k => ?_⟩
    rw [loopK_succ]
    simp only [s14_l6, getK_mk f1, getK_mk f8, getK_mk f11, getK_mk f15, getK_mk f16, getK_mk f17, bin_geq, e1, condK_tn, ai8' _ hi, someK_n, lt, toInt_mk, uk64 (8 * n), e3', u_shr, uk8 _, p1, p2, effK_n, bin_sub, e7]
    exact r3 k

theorem l4s (c : CallK) (N : Nat) (hN : 1000 < N) (B h w wb : Nat) (hwb : wb = 32 ∨ wb = 64) (L : List Nat) (hL : L.length = 8) (hhB : h < B) (hwB : w < B) (a1 : V) :
    ∀ (l : List Nat) (i : Nat) (tl : List Nat) (t : V) (H : Heap) (fr : T V) (τ : Tape) (m : Nat), L.drop i = l → i ≤ 8 → tl.length + 8 * l.length < 150000 → l.length < m → WF H → B ≤ H.size → Bx H h (ws .u64 L) → Bx H w [.int .u64 (wb : Int)] → Own H B 1 t tl.length (ws .u8 tl) →
    fr.get 1 = some a1 → fr.get 8 = some (.ptr w 0) → fr.get 11 = some (.ptr h 0) → fr.get 15 = some t → fr.get 16 = some (.int .i64 (i : Int)) →
    ∃ t' H' τ', Own H' B 1 t' (tl ++ outB .u64 (wb / 8) l).length (ws .u8 (tl ++ outB .u64 (wb / 8) l)) ∧ Gr B H H' ∧ ∀ k, loopK (s14_l4 c N) m ⟨fr, H⟩ τ k = k (.exit 5) ⟨(T.set (T.set .leaf 1 a1) 15 t'), H'⟩ τ' := by
  intro l
  induction l with
  | nil =>
    intro i tl t H fr τ m hd hi hlen hm hw hB hbh hbw hO f1 f8 f11 f15 f16
    obtain ⟨m, rfl⟩ : ∃ j, m = j + 1 := ⟨m - 1, by omega⟩
    have : i = 8 := by have := congrArg List.length hd; simp at this; omega
    subst this
    refine ⟨t, H, τ, by simpa [outB] using hO, Gr.refl hw, fun k => ?_⟩
    have e1 : decide (((8 : Nat) : Int) < Int.ofNat 8) = false := by decide
    rw [loopK_succ]
    simp only [s14_l4, getK_mk f1, getK_mk f8, getK_mk f11, getK_mk f15, getK_mk f16, bin_lss, e1, condK_fn]
    rfl
  | cons x l ih =>
    intro i tl t H fr τ m hd hi hlen hm hw hB hbh hbw hO f1 f8 f11 f15 f16
    obtain ⟨m, rfl⟩ : ∃ j, m = j + 1 := ⟨m - 1, by omega⟩
    have hlt : i < 8 := by have := congrArg List.length hd; simp at this; omega
    have hx : L.getD i 0 = x := by
      have : L[i]? = some x := by have := congrArg (·[0]?) hd; simpa using this
      simp [List.getD_eq_getElem?_getD, this]
    have hd' : L.drop (i + 1) = l := by have := congrArg (List.drop 1) hd; simpa [List.drop_drop, Nat.add_comm] using this
    have e1 : decide ((i : Int) < Int.ofNat 8) = true := decide_eq_true (by simp; omega)
    have l0 : lLoad1 [.ptr w 0] H = some (.int .u64 (wb : Int)) := load_cell (off := 0) hbw.cells rfl
    have eI : wr .i64 (wb : Int) = (wb : Int) := wr_id (by omega) (by omega)
    have e8 : wr .i64 ((wb : Int) - Int.ofNat 8) = 8 * ((wb / 8 : Nat) : Int) - 8 := by rw [wr_id (by simp; omega) (by simp; omega)]; rcases hwb with rfl | rfl <;> rfl
    obtain ⟨t', H1, τ1, p1, p2, p3⟩ := l6s c N B h i hlt L hL hhB a1 (.ptr w 0) (wb / 8) tl t H (τ := τ) (m := N) (by omega) (by simp at hlen; omega) (by omega) hw hB hbh hO
      (fr := (T.set (T.set (T.set (T.set (T.set (T.set .leaf 1 a1) 8 (.ptr w 0)) 11 (.ptr h 0)) 15 t) 16 (.int .i64 (i : Int))) 17 (.int .i64 (8 * ((wb / 8 : Nat) : Int) - 8))))
      (by simp [T.get_set]) (by simp [T.get_set]) (by simp [T.get_set]) (by simp [T.get_set]) (by simp [T.get_set]) (by simp [T.get_set])
    rw [hx] at p1
    have e4 : wr .i64 ((i : Int) + Int.ofNat 1) = ((i + 1 : Nat) : Int) := adN (k := 1) (by omega)
    obtain ⟨t2, H', τ', r1, r2, r3⟩ := ih (i + 1) (tl ++ wordB .u64 x (wb / 8)) t' H1 (τ := τ1) (m := m) hd' (by omega) (by simp [wordB_len] at hlen ⊢; omega) (by simp at hm; omega) p2.wf (Nat.le_trans hB p2.size) (hbh.gr p2 hhB) (hbw.gr p2 hwB) p1
      (fr := (T.set (T.set (T.set (T.set (T.set (T.set (T.set (T.set .leaf 1 a1) 8 (.ptr w 0)) 11 (.ptr h 0)) 15 t') 16 (.int .i64 (i : Int))) 71 (.int .i64 (i : Int))) 72 (.int .i64 ((i + 1 : Nat) : Int))) 16 (.int .i64 ((i + 1 : Nat) : Int))))
      (by simp [T.get_set]) (by simp [T.get_set]) (by simp [T.get_set]) (by simp [T.get_set]) (by simp [T.get_set])
    have ea : tl ++ wordB .u64 x (wb / 8) ++ outB .u64 (wb / 8) l = tl ++ outB .u64 (wb / 8) (x :: l) := by simp [outB]
    rw [ea] at r1
    refine ⟨t2, H', τ', r1, p2.trans r2 (Nat.le_refl _), fun k => ?_⟩
    rw [loopK_succ]
    simp only [s14_l4, getK_mk f1, getK_mk f8, getK_mk f11, getK_mk f15, getK_mk f16, bin_lss, e1, condK_tn, fa0, someK_n, l0, toInt_mk, eI, bin_sub, e8]
    rw [p3]
    simp only [blockK, Nat.beq_refl, cond_true, cond_false, seqK, s14_j5, getK_set, ↓reduceIte, Nat.reduceEqDiff, bin_add, e4]
    exact r3 k
end Go.Am.AmTrydDig

namespace Go.Am.AmTrydDig
set_option linter.unusedSimpArgs false
set_option linter.unusedVariables false
def sumR0 (K : List Nat) (wb size from' : Nat) (bs : List Nat) : List Nat := outB .u64 (wb / 8) (blocksR wb size K (padR size bs) ((padR size bs).length / size) 0 (hR K wb from' 8 0 (List.replicate 8 0)))
theorem sumR0_len (K : List Nat) (wb size from' : Nat) (bs : List Nat) : (sumR0 K wb size from' bs).length = 8 * (wb / 8) := by
  unfold sumR0; rw [outB_len, blocksR_len, hR_len]; simp
abbrev Pad24 (c : CallK) : Prop := ∀ (size : Nat) (v : V) (bs : List Nat), (size = 64 ∨ size = 128) → bs.length < 80000 → ∀ (H : Heap), WF H → Rd H 1 v bs.length (ws .u8 bs) → Src H v → ∀ τ,
    ∃ v' H' τ', Own H' H.size 1 v' (padR size bs).length (ws .u8 (padR size bs)) ∧ Gr H.size H H' ∧ ∀ q, c 24 [v, .int .i64 (size : Int)] H τ q = q v' H' τ'
theorem cutHi {H : Heap} {B : Nat} {v : V} {n : Nat} {cs : List V} (h : Own H B 1 v n cs) {k : Nat} (hk : k ≤ n) (hn : 0 < n) :
    ∃ v', pSlSlice 1 false true false [v, .int .i64 (k : Int)] = some v' ∧ Rd H 1 v' k (cs.take k) := by
  rcases h with ⟨_, h0, _⟩ | ⟨id, e, room, fam, ver, pl, st, fr, rfl, h2, h3, h4, h5, h6, h7⟩
  · omega
  · have hb : bounds3 false true false [V.int .i64 (k : Int)] = some (none, some k, none) := by simp only [bounds3, optN, natOf_mk]
    have hwi : within k n (some e) = true := by rw [within_iff]; exact .inl hk
    have h0 : Nat.ble 0 k = true := Nat.ble_eq_true_of_le (Nat.zero_le _)
    have h1 : Nat.ble 0 n = true := Nat.ble_eq_true_of_le (Nat.zero_le _)
    have hc : H.cells? id = some cs := by
      simp only [Heap.cells?, h2, h3]
      rw [show Nat.ble fr ver = true from Nat.ble_eq_true_of_le h4]
      rfl
    refine ⟨.sl id 0 k n (some e) 1, ?_, .inr ⟨id, 0, n, some e, cs, rfl, hc, ?_, ?_⟩⟩
    · simp only [pSlSlice, Nat.beq_refl, cond_true, hb, slCut, Option.getD_some, Option.getD_none, hwi, h0, Bool.and_self, h1, offIn, Nat.sub_zero]
    · rw [List.drop_zero, Nat.mul_one]
    · rw [List.length_take]; omega

theorem j0s (c : CallK) (N : Nat) (hN : 1000000 < N) (h25 : Block25 c) (h24 : Pad24 c) (bits wb size from' : Nat) (hcase : bits = 256 ∧ wb = 32 ∧ size = 64 ∧ from' = 0 ∨ bits = 384 ∧ wb = 64 ∧ size = 128 ∧ from' = 8 ∨ bits = 512 ∧ wb = 64 ∧ size = 128 ∧ from' = 0)
    (t w : Nat) (K : List Nat) (hK : K.length = 96) (v : V) (bs : List Nat) (hlen : bs.length < 80000) (B : Nat) (H : Heap) (hw : WF H) (hB : B ≤ H.size) (hbt : Bx H t (ws .u64 K)) (hbw : Bx H w [.int .u64 (wb : Int)]) (hRd : ∀ H', Gr B H H' → Rd H' 1 v bs.length (ws .u8 bs) ∧ Src H' v) (τ : Tape) (fr : T V)
    (f0 : fr.get 0 = some (.ptr t 0)) (f1 : fr.get 1 = some (.int .i64 (bits : Int))) (f2 : fr.get 2 = some v) (f8 : fr.get 8 = some (.ptr w 0)) (f9 : fr.get 9 = some (.int .i64 (size : Int))) (f10 : fr.get 10 = some (.int .i64 (from' : Int))) :
    ∃ v' H' τ', Rd H' 1 v' (bits / 8) (ws .u8 ((sumR0 K wb size from' bs).take (bits / 8))) ∧ Gr B H H' ∧ ∀ q, s14_j0 c N q ⟨fr, H⟩ τ = q (.tup [v', .bool true]) H' τ' := by
  have hwb : wb = if bits = 256 then 32 else 64 := by rcases hcase with ⟨rfl, rfl, _⟩ | ⟨rfl, rfl, _⟩ | ⟨rfl, rfl, _⟩ <;> rfl
  have hws : wb = 32 ∧ size = 64 ∨ wb = 64 ∧ size = 128 := by omega
  have hsz : size = 64 ∨ size = 128 := by omega
  have ltt := hbt.lt hw
  have ltw := hbw.lt hw
  have a1 : eAlloc (repl 8 [(.int .u64 (.ofNat 0))]) [] H τ = some (.ptr H.size 0, H.new (ws .u64 (List.replicate 8 0)) 8 true, τ) := rfl
  have g1 := Gr.new hw (ws .u64 (List.replicate 8 0)) 8 true
  have h1 := Bx.new H (ws .u64 (List.replicate 8 0)) 8 true (Nat.le_refl _)
  have z1 : (H.new (ws .u64 (List.replicate 8 0)) 8 true).size = H.size + 1 := rfl
  generalize H.new (ws .u64 (List.replicate 8 0)) 8 true = H1 at a1 g1 h1 z1
  obtain ⟨H2, h2, g2, k2⟩ := l8s c N bits wb from' hwb (by omega) t H.size (by omega) K hK v (.ptr w 0) (.int .i64 (size : Int)) 8 0 (List.replicate 8 0) H1
    (T.set (T.set (T.set (T.set (T.set (T.set (T.set (T.set .leaf 0 (.ptr t 0)) 1 (.int .i64 (bits : Int))) 2 v) 8 (.ptr w 0)) 9 (.int .i64 (size : Int))) 10 (.int .i64 (from' : Int))) 11 (.ptr H.size 0)) 12 (.int .i64 (.ofNat 0)))
    τ N (by omega) (by omega) (by simp) g1.wf (hbt.gr g1 ltt) h1
    (by simp [T.get_set]) (by simp [T.get_set]) (by simp [T.get_set]) (by simp [T.get_set]) (by simp [T.get_set]) (by simp [T.get_set]) (by simp [T.get_set]) (by simp [T.get_set])
  have g12 : Gr H.size H H2 := g1.trans (g2.gr (B := H.size) (by omega) fun i hi e => by omega) (Nat.le_refl _)
  have z2 := g12.size
  have lh2 := h2.lt g2.wf
  obtain ⟨r2, sr2⟩ := hRd H2 (g12.weaken hB)
  obtain ⟨x, H3, τ3, o3, g3, k3⟩ := h24 size v bs hsz hlen H2 g2.wf r2 sr2 τ
  have g13 := g12.trans g3 g12.size
  have h3 := h2.gr g3 lh2
  have pm := padR_len size bs hsz
  have hdv : 0 + (padR size bs).length / size * size = (padR size bs).length := by
    rw [Nat.zero_add, Nat.mul_comm]; exact Nat.mul_div_cancel' (Nat.dvd_of_mod_eq_zero pm.1)
  obtain ⟨H4, h4, g4, k4⟩ := l7s c N h25 wb size hws t w H.size (by omega) (by omega) K hK x (.int .i64 (bits : Int)) (padR size bs) (by omega) o3.roomy H3.size ((padR size bs).length / size) 0 (hR K wb from' 8 0 (List.replicate 8 0)) H3
    (T.set (T.set (T.set (T.set (T.set (T.set (T.set .leaf 0 (.ptr t 0)) 1 (.int .i64 (bits : Int))) 8 (.ptr w 0)) 9 (.int .i64 (size : Int))) 11 (.ptr H.size 0)) 13 x) 14 (.int .i64 (.ofNat 0)))
    τ3 N hdv (by have := Nat.div_le_self (padR size bs).length size; omega) (by rw [hR_len]; simp) g13.wf (Nat.le_refl _) (hbt.gr g13 ltt) h3 (hbw.gr g13 ltw) (Own.rdS o3 g13.wf (by omega))
    (by simp [T.get_set]) (by simp [T.get_set]) (by simp [T.get_set]) (by simp [T.get_set]) (by simp [T.get_set]) (by simp [T.get_set]) (by simp [T.get_set])
  have g14 : Gr H.size H H4 := g13.trans (g4.gr (B := H.size) g13.size fun i hi e => by omega) (Nat.le_refl _)
  have lh4 := h4.lt g4.wf
  have hbl : (blocksR wb size K (padR size bs) ((padR size bs).length / size) 0 (hR K wb from' 8 0 (List.replicate 8 0))).length = 8 := by rw [blocksR_len, hR_len]; simp
  have w4 := hbw.gr g14 ltw
  obtain ⟨y, H5, τ5, o5, g5, k5⟩ := l4s c N (by omega) (H.size + 1) H.size w wb (by omega) _ hbl (by omega) (by omega) (.int .i64 (bits : Int)) _ 0 [] .nils H4
    (T.set (T.set (T.set (T.set (T.set .leaf 1 (.int .i64 (bits : Int))) 8 (.ptr w 0)) 11 (.ptr H.size 0)) 15 .nils) 16 (.int .i64 (.ofNat 0)))
    τ3 N (List.drop_zero ..) (by omega) (by rw [hbl]; simp) (by rw [hbl]; omega) g14.wf (by omega) h4 w4 (Own.nil _ _ _)
    (by simp [T.get_set]) (by simp [T.get_set]) (by simp [T.get_set]) (by simp [T.get_set]) (by simp [T.get_set])
  have o5' : Own H5 (H.size + 1) 1 y (sumR0 K wb size from' bs).length (ws .u8 (sumR0 K wb size from' bs)) := o5
  obtain ⟨v', c1, c2⟩ := cutHi o5' (k := bits / 8) (by rw [sumR0_len]; omega) (by rw [sumR0_len]; omega)
  have ek : (ws .u8 (sumR0 K wb size from' bs)).take (bits / 8) = ws .u8 ((sumR0 K wb size from' bs).take (bits / 8)) := by simp [ws, List.map_take]
  rw [ek] at c2
  refine ⟨v', H5, τ5, c2, (g14.weaken hB).trans (g5.weaken (by omega)) (Nat.le_refl _), fun q => ?_⟩
  have e8 : wr .i64 ((bits : Int).tdiv (Int.ofNat 8)) = ((bits / 8 : Nat) : Int) := by
    rw [show Int.ofNat 8 = ((8 : Nat) : Int) from rfl, ← Int.ofNat_tdiv, wr_id (by omega) (by omega)]
  simp only [s14_j0, getK_mk f0, getK_mk f1, getK_mk f2, getK_mk f8, getK_mk f9, getK_mk f10, a1, effK_n]
  rw [k2]
  simp only [blockK, Nat.beq_refl, cond_true, seqK, s14_j1, getK_set, ↓reduceIte, Nat.reduceEqDiff]
  rw [k3]
  rw [k4]
  simp only [blockK, Nat.beq_refl, cond_true, seqK, s14_j2, getK_set, ↓reduceIte, Nat.reduceEqDiff]
  rw [k5]
  simp only [blockK, Nat.beq_refl, cond_true, seqK, s14_j3, getK_set, ↓reduceIte, Nat.reduceEqDiff, bin_quo _ _ (Int.ofNat 8) (by decide), e8, c1, someK_n]

/-- a hash of the document's: the sizes that there are -/
def sumR (K : List Nat) (bits : Nat) (bs : List Nat) : List Nat :=
  if bits = 256 then (sumR0 K 32 64 0 bs).take 32 else if bits = 384 then (sumR0 K 64 128 8 bs).take 48 else (sumR0 K 64 128 0 bs).take 64
theorem s14_ret (c : CallK) (N : Nat) (hN : 1000000 < N) (h25 : Block25 c) (h24 : Pad24 c) (bits : Nat) (hcase : bits = 256 ∨ bits = 384 ∨ bits = 512)
    (t : Nat) (K : List Nat) (hK : K.length = 96) (v : V) (bs : List Nat) (hlen : bs.length < 80000) (H : Heap) (hw : WF H) (hbt : Bx H t (ws .u64 K)) (hRd : Rd H 1 v bs.length (ws .u8 bs)) (hsr : Src H v) (τ : Tape) :
    ∃ v' H' τ', Rd H' 1 v' (bits / 8) (ws .u8 (sumR K bits bs)) ∧ Gr H.size H H' ∧ ∀ q, s14 c N (.ptr t 0) (.int .i64 (bits : Int)) v H τ q = q (.tup [v', .bool true]) H' τ' := by
  have ltt := hbt.lt hw
  have b1 : pBuild [(.int .u64 (.ofNat 0))] [(0, 1)] [(.int .u64 (.ofNat 64))] = some (.agg [.int .u64 ((64 : Nat) : Int)]) := rfl
  have b2 : pBuild [(.int .u64 (.ofNat 0))] [(0, 1)] [(.int .u64 (.ofNat 32))] = some (.agg [.int .u64 ((32 : Nat) : Int)]) := rfl
  have a1 : eAlloc [(.int .u64 (.ofNat 0))] [] H τ = some (.ptr H.size 0, H.new (ws .u64 [0]) 1 true, τ) := rfl
  have g1 := Gr.new hw (ws .u64 [0]) 1 true
  have w1 := Bx.new H (ws .u64 [0]) 1 true (Nat.le_refl _)
  have z1 : (H.new (ws .u64 [0]) 1 true).size = H.size + 1 := rfl
  generalize H.new (ws .u64 [0]) 1 true = H1 at a1 g1 w1 z1
  obtain ⟨H2, s2, w2, o2⟩ := Bx.words w1 g1.wf [64] (n := 1) rfl rfl (by omega) τ
  have s2' : eStore 1 [.ptr H.size 0, .agg [.int .u64 ((64 : Nat) : Int)]] H1 τ = some (.tup [], H2, τ) := s2
  have z2 := o2.size
  have g12 : Gr H.size H H2 := g1.trans (o2.gr (B := H.size) (by omega)) (Nat.le_refl _)
  have rd : ∀ {K : Heap}, Gr H.size H K → ∀ H', Gr H.size K H' → Rd H' 1 v bs.length (ws .u8 bs) ∧ Src H' v := fun g H' h => ⟨hRd.gr (g.trans h (Nat.le_refl _)) hw (Nat.le_refl _), hsr.gr (g.trans h (Nat.le_refl _)) hw (Nat.le_refl _)⟩
  have t2 := hbt.gr g12 ltt
  rcases hcase with rfl | rfl | rfl
  · obtain ⟨H3, s3, w3, o3⟩ := Bx.words w2 o2.wf [32] (n := 1) rfl rfl (by omega) τ
    have s3' : eStore 1 [.ptr H.size 0, .agg [.int .u64 ((32 : Nat) : Int)]] H2 τ = some (.tup [], H3, τ) := s3
    have g13 : Gr H.size H H3 := g12.trans (o3.gr (B := H.size) (by omega)) (Nat.le_refl _)
    obtain ⟨v', H', τ', r1, r2, r3⟩ := j0s c N hN h25 h24 256 32 64 0 (by omega) t H.size K hK v bs hlen H.size H3 o3.wf g13.size (hbt.gr g13 ltt) w3 (rd g13) τ
      (T.set (T.set (T.set (T.set (T.set (T.set .leaf 0 (.ptr t 0)) 1 (.int .i64 ((256 : Nat) : Int))) 2 v) 8 (.ptr H.size 0)) 10 (.int .i64 (.ofNat 0))) 9 (.int .i64 (.ofNat 64)))
      (by simp [T.get_set]) (by simp [T.get_set]) (by simp [T.get_set]) (by simp [T.get_set]) (by simp [T.get_set]) (by simp [T.get_set])
    refine ⟨v', H', τ', r1, g13.trans r2 (Nat.le_refl _), fun q => ?_⟩
    have e1 : (((256 : Nat) : Int) == Int.ofNat 256) = true := rfl
    simp only [s14, b1, someK_n, a1, effK_n, s2', bin_eql, e1, condK_tn, b2, s3']
    exact r3 q
  · obtain ⟨v', H', τ', r1, r2, r3⟩ := j0s c N hN h25 h24 384 64 128 8 (by omega) t H.size K hK v bs hlen H.size H2 o2.wf g12.size t2 w2 (rd g12) τ
      (T.set (T.set (T.set (T.set (T.set (T.set (T.set (T.set (T.set .leaf 0 (.ptr t 0)) 1 (.int .i64 ((384 : Nat) : Int))) 2 v) 8 (.ptr H.size 0)) 9 (.int .i64 (.ofNat 128))) 10 (.int .i64 (.ofNat 0))) 19 (.int .i64 ((384 : Nat) : Int))) 23 (.bool true)) 10 (.int .i64 (.ofNat 8)))
      (by simp [T.get_set]) (by simp [T.get_set]) (by simp [T.get_set]) (by simp [T.get_set]) (by simp [T.get_set]) (by simp [T.get_set])
    refine ⟨v', H', τ', r1, g12.trans r2 (Nat.le_refl _), fun q => ?_⟩
    have e1 : (((384 : Nat) : Int) == Int.ofNat 256) = false := rfl
    have e2 : (((384 : Nat) : Int) == Int.ofNat 384) = true := rfl
    simp only [s14, b1, someK_n, a1, effK_n, s2', bin_eql, e1, condK_fn, e2, condK_tn]
    exact r3 q
  · obtain ⟨v', H', τ', r1, r2, r3⟩ := j0s c N hN h25 h24 512 64 128 0 (by omega) t H.size K hK v bs hlen H.size H2 o2.wf g12.size t2 w2 (rd g12) τ
      (T.set (T.set (T.set (T.set (T.set (T.set (T.set .leaf 0 (.ptr t 0)) 1 (.int .i64 ((512 : Nat) : Int))) 2 v) 8 (.ptr H.size 0)) 9 (.int .i64 (.ofNat 128))) 10 (.int .i64 (.ofNat 0))) 25 (.bool true))
      (by simp [T.get_set]) (by simp [T.get_set]) (by simp [T.get_set]) (by simp [T.get_set]) (by simp [T.get_set]) (by simp [T.get_set])
    refine ⟨v', H', τ', r1, g12.trans r2 (Nat.le_refl _), fun q => ?_⟩
    have e1 : (((512 : Nat) : Int) == Int.ofNat 256) = false := rfl
    have e2 : (((512 : Nat) : Int) == Int.ofNat 384) = false := rfl
    have e3 : (((512 : Nat) : Int) == Int.ofNat 512) = true := rfl
    simp only [s14, b1, someK_n, a1, effK_n, s2', bin_eql, e1, condK_fn, e2, e3, condK_tn]
    exact r3 q
theorem s14_none (c : CallK) (N : Nat) (bits : Int) (h1 : bits ≠ 256) (h2 : bits ≠ 384) (h3 : bits ≠ 512) (t v : V) (H : Heap) (hw : WF H) (τ : Tape) :
    ∃ H', Gr H.size H H' ∧ ∀ q, s14 c N t (.int .i64 bits) v H τ q = q (.tup [.nils, .bool false]) H' τ := by
  have b1 : pBuild [(.int .u64 (.ofNat 0))] [(0, 1)] [(.int .u64 (.ofNat 64))] = some (.agg [.int .u64 ((64 : Nat) : Int)]) := rfl
  have a1 : eAlloc [(.int .u64 (.ofNat 0))] [] H τ = some (.ptr H.size 0, H.new (ws .u64 [0]) 1 true, τ) := rfl
  have g1 := Gr.new hw (ws .u64 [0]) 1 true
  have w1 := Bx.new H (ws .u64 [0]) 1 true (Nat.le_refl _)
  generalize H.new (ws .u64 [0]) 1 true = H1 at a1 g1 w1
  obtain ⟨H2, s2, w2, o2⟩ := Bx.words w1 g1.wf [64] (n := 1) rfl rfl (by omega) τ
  have s2' : eStore 1 [.ptr H.size 0, .agg [.int .u64 ((64 : Nat) : Int)]] H1 τ = some (.tup [], H2, τ) := s2
  refine ⟨H2, g1.trans (o2.gr (B := H.size) (Nat.le_refl _)) (Nat.le_refl _), fun q => ?_⟩
  have e1 : (bits == Int.ofNat 256) = false := by rw [beq_eq_false_iff_ne]; exact h1
  have e2 : (bits == Int.ofNat 384) = false := by rw [beq_eq_false_iff_ne]; exact h2
  have e3 : (bits == Int.ofNat 512) = false := by rw [beq_eq_false_iff_ne]; exact h3
  simp only [s14, b1, someK_n, a1, effK_n, s2', bin_eql, e1, condK_fn, e2, e3]
end Go.Am.AmTrydDig

