/- The abstract machine, printed functions of the program, and what they are shown to be. -/
import Derived.Test.YtpigmhokjbbffaaGreatDoorHA2L3
namespace Go.Am.X
set_option linter.unusedSimpArgs false
set_option linter.unusedVariables false
set_option linter.unusedSectionVars false
set_option maxRecDepth 100000
def partV (x : UInt8) (s : Bs) : V := match cutB x s with | some (a, b) => .tup [.str a, .str b, .bool true] | none => .tup [.str s, .str [], .bool false]
theorem l_ref1_Part (c : CallK) (N : Nat) (x : UInt8) (s : Bs) (hs : s.length < 9223372036854775807) (H : Heap) : ∀ (l pre : Bs) (τ : Tape) (m : Nat), s = pre ++ l → l.length < m → ∀ (fr : T V) k, fr.get 0 = some (.str s) → fr.get 1 = some (.int .u8 (x.toNat : Int)) → fr.get 7 = some (.int .i64 (pre.length : Int)) →
    loopK (s_ref1_Part_l1 c N) m ⟨fr, H⟩ τ k = match cutB x l with
      | some (a, b) => k .ret ⟨(T.set (T.set (T.set .leaf 4 (.str (pre ++ a))) 5 (.str b)) 6 (.bool true)), H⟩ τ
      | none => k (.exit 0) ⟨(T.set .leaf 0 (.str s)), H⟩ τ := by
  intro l
  induction l with
  | nil =>
    intro pre τ m he hm fr k f0 f1 f7
    obtain ⟨m, rfl⟩ : ∃ j, m = j + 1 := ⟨m - 1, by omega⟩
    have e1 : decide (pre.length < s.length) = false := decide_eq_false (by rw [he]; simp)
    rw [loopK_succ]
    simp only [s_ref1_Part_l1, getK_mk f0, getK_mk f1, getK_mk f7, getK_set, ↓reduceIte, Nat.reduceEqDiff, someK_n, effK_n, retK, gK_do, gK_do', gK_skip, gK_skip', gK_none, pick_mk, cond_true, cond_false, condK_tn, condK_fn, bin_eql, bin_neq, bin_lss, bin_leq, bin_gtr, bin_geq, un_not, Bool.not_true, Bool.not_false, bin_str, lenS_mk, nle_l, nle_r, nle_n, nlt_l, nlt_r, nlt_n, neq_r, neq_n, nne_r, nne_n, ext0, ext1, ext30, ext31, ext32, bin_add, bin_sub, decide_true, decide_false, e1]
    rfl
  | cons y l ih =>
    intro pre τ m he hm fr k f0 f1 f7
    obtain ⟨m, rfl⟩ : ∃ j, m = j + 1 := ⟨m - 1, by omega⟩
    have hlt : pre.length < s.length := by rw [he]; simp
    have e1 : decide (pre.length < s.length) = true := decide_eq_true hlt
    have e2 : pStrIndex [.str s, .int .i64 (pre.length : Int)] = some (.int .u8 (y.toNat : Int)) := strIndex_mk (by rw [he]; simp)
    have e3 : wr .i64 ((pre.length : Int) + Int.ofNat 1) = ((pre ++ [y]).length : Int) := by rw [adI (by omega)]; simp
    have e4 : decide (y.toNat = x.toNat) = decide (y = x) := by rw [← u8beq]; rfl
    rw [loopK_succ]
    by_cases h : y = x
    · subst h
      have e5 : decide (y = y) = true := decide_eq_true rfl
      have s1 : pStrSlice false true [.str s, .int .i64 (pre.length : Int)] = some (.str pre) := by rw [strSlice_hi (by omega), he]; simp
      have s2 : pStrSlice true false [.str s, .int .i64 ((pre ++ [y]).length : Int)] = some (.str l) := by
        rw [strSlice_lo (by rw [he]; simp), he, show pre ++ y :: l = (pre ++ [y]) ++ l by simp, List.drop_left]
      simp only [s_ref1_Part_l1, getK_mk f0, getK_mk f1, getK_mk f7, getK_set, ↓reduceIte, Nat.reduceEqDiff, someK_n, effK_n, retK, gK_do, gK_do', gK_skip, gK_skip', gK_none, pick_mk, cond_true, cond_false, condK_tn, condK_fn, bin_eql, bin_neq, bin_lss, bin_leq, bin_gtr, bin_geq, un_not, Bool.not_true, Bool.not_false, bin_str, lenS_mk, nle_l, nle_r, nle_n, nlt_l, nlt_r, nlt_n, neq_r, neq_n, nne_r, nne_n, ext0, ext1, ext30, ext31, ext32, bin_add, bin_sub, decide_true, decide_false, e1, e2, e4, e5, s1, e3, s2, cutB, if_true, List.append_nil]
      rfl
    · have e5 : decide (y = x) = false := decide_eq_false h
      simp only [s_ref1_Part_l1, getK_mk f0, getK_mk f1, getK_mk f7, getK_set, ↓reduceIte, Nat.reduceEqDiff, someK_n, effK_n, retK, gK_do, gK_do', gK_skip, gK_skip', gK_none, pick_mk, cond_true, cond_false, condK_tn, condK_fn, bin_eql, bin_neq, bin_lss, bin_leq, bin_gtr, bin_geq, un_not, Bool.not_true, Bool.not_false, bin_str, lenS_mk, nle_l, nle_r, nle_n, nlt_l, nlt_r, nlt_n, neq_r, neq_n, nne_r, nne_n, ext0, ext1, ext30, ext31, ext32, bin_add, bin_sub, decide_true, decide_false, e1, e2, e4, e5, e3, cutB, h, if_false]
      refine (ih (pre ++ [y]) τ m (by rw [he]; simp) (by simp at hm; omega) _ k (by simp [T.get_set]) (by simp [T.get_set]) (by simp [T.get_set])).trans ?_
      cases cutB x l with
      | none => rfl
      | some ab => obtain ⟨a, b⟩ := ab; simp
theorem s_ref1_Part_ret (c : CallK) {N : Nat} (hN : 9223372036854775807 < N) (x : UInt8) (s : Bs) (hs : s.length ≤ 9223372036854775806) (H : Heap) (τ : Tape) (q : KV) : s_ref1_Part c N (.str s) (.int .u8 (x.toNat : Int)) H τ q = q (partV x s) H τ := by
  simp only [s_ref1_Part]
  rw [l_ref1_Part c N x s (by omega) H s [] τ N rfl (by omega) _ _ (by simp [T.get_set]) (by simp [T.get_set]) (by simp [T.get_set])]
  unfold partV
  cases cutB x s with
  | none => simp only [blockK, Nat.beq_refl, cond_true, seqK, s_ref1_Part_j0, getK_set, ↓reduceIte, Nat.reduceEqDiff, someK_n, effK_n, retK, gK_do, gK_do', gK_skip, gK_skip', gK_none, pick_mk, cond_true, cond_false, condK_tn, condK_fn, bin_eql, bin_neq, bin_lss, bin_leq, bin_gtr, bin_geq, un_not, Bool.not_true, Bool.not_false, bin_str, lenS_mk, nle_l, nle_r, nle_n, nlt_l, nlt_r, nlt_n, neq_r, neq_n, nne_r, nne_n, ext0, ext1, ext30, ext31, ext32, bin_add, bin_sub, decide_true, decide_false]
  | some ab => obtain ⟨a, b⟩ := ab; simp only [blockK, seqK, endK, List.nil_append]; rfl
abbrev PartPre : List V → Prop | [.str s, .int .u8 (.ofNat n)] => s.length ≤ 9223372036854775806 ∧ n < 256 | _ => False
abbrev PartG : List V → V | [.str s, .int .u8 (.ofNat n)] => partV (UInt8.ofNat n) s | _ => .tup []
abbrev PartR := RV PartPre PartG
theorem partV_vok (x : UInt8) (s : Bs) (H : Heap) : VOk H (partV x s) := by
  unfold partV; split <;> exact ⟨trivial, trivial, trivial, trivial⟩
theorem p_ref1_Part : ∀ base w0, PrimOk PG base w0 f_ref1_Part (outP PartR) := by
  obtain ⟨N, hN⟩ := someN
  refine primRV (N := N) (l := [Row.fn f_ref1_Part fn_ref1_Part e_ref1_Part]) (.fn ok_ref1_Part e_ref1_Part_ok (.nil _)) 1 _ (fun vs H h => ?_) (fun vs h H hw τ => ?_)
  · unfold PartPre at h; split at h
    · exact partV_vok _ _ _
    · exact h.elim
  · unfold PartPre at h; split at h
    · rename_i s n
      have e : (UInt8.ofNat n).toNat = n := by simp; omega
      have := fun q => s_ref1_Part_ret (CR [Row.fn f_ref1_Part fn_ref1_Part e_ref1_Part] N 0) hN (UInt8.ofNat n) s h.1 H τ q
      rw [e] at this
      exact ⟨H, τ, Gr.refl hw, this⟩
    · exact h.elim
abbrev PartOk (c : CallK) : Prop := ∀ (s : Bs) (n : Nat), s.length ≤ 9223372036854775806 → n < 256 → ∀ H τ q, c f_ref1_Part [.str s, .int .u8 (.ofNat n)] H τ q = q (partV (UInt8.ofNat n) s) H τ
theorem k_ref1_Part {c : CallK} (h : IsP c f_ref1_Part PartR) : PartOk c := fun s n hs hn H τ q => RV_call h (vs := [.str s, .int .u8 (.ofNat n)]) ⟨hs, hn⟩ H τ q
def begB (s p : Bs) : Bool := p.isPrefixOf s
theorem isPrefixOf_take : ∀ (s p : Bs), p.isPrefixOf s = (decide (p.length ≤ s.length) && (s.take p.length == p)) := by
  intro s p
  induction p generalizing s with
  | nil => simp
  | cons y p ih =>
    cases s with
    | nil => rfl
    | cons x s =>
      rw [List.isPrefixOf, ih s]
      simp only [List.length_cons, List.take_succ_cons]
      have e1 : decide (p.length + 1 ≤ s.length + 1) = decide (p.length ≤ s.length) := by simp
      have e2 : (x :: List.take p.length s == y :: p) = (x == y && (List.take p.length s == p)) := rfl
      have e3 : (y == x) = (x == y) := BEq.comm
      rw [e1, e2, e3]
      cases (x == y) <;> cases decide (p.length ≤ s.length) <;> simp
theorem s_ref1_Begins_ret (c : CallK) (N : Nat) (s p : Bs) (H : Heap) (τ : Tape) (q : KV) : s_ref1_Begins c N (.str s) (.str p) H τ q = q (.bool (begB s p)) H τ := by
  unfold begB
  rw [isPrefixOf_take]
  by_cases h : p.length ≤ s.length
  · have e1 : decide (p.length ≤ s.length) = true := decide_eq_true h
    have s1 : pStrSlice false true [.str s, .int .i64 (p.length : Int)] = some (.str (s.take p.length)) := strSlice_hi h
    simp only [s_ref1_Begins, getK_set, ↓reduceIte, Nat.reduceEqDiff, someK_n, effK_n, retK, gK_do, gK_do', gK_skip, gK_skip', gK_none, pick_mk, cond_true, cond_false, condK_tn, condK_fn, bin_eql, bin_neq, bin_lss, bin_leq, bin_gtr, bin_geq, un_not, Bool.not_true, Bool.not_false, bin_str, lenS_mk, nle_l, nle_r, nle_n, nlt_l, nlt_r, nlt_n, neq_r, neq_n, nne_r, nne_n, ext0, ext1, ext30, ext31, ext32, bin_add, bin_sub, decide_true, decide_false, e1, s1, str_eql, Bool.true_and]
  · have e1 : decide (p.length ≤ s.length) = false := decide_eq_false h
    simp only [s_ref1_Begins, getK_set, ↓reduceIte, Nat.reduceEqDiff, someK_n, effK_n, retK, gK_do, gK_do', gK_skip, gK_skip', gK_none, pick_mk, cond_true, cond_false, condK_tn, condK_fn, bin_eql, bin_neq, bin_lss, bin_leq, bin_gtr, bin_geq, un_not, Bool.not_true, Bool.not_false, bin_str, lenS_mk, nle_l, nle_r, nle_n, nlt_l, nlt_r, nlt_n, neq_r, neq_n, nne_r, nne_n, ext0, ext1, ext30, ext31, ext32, bin_add, bin_sub, decide_true, decide_false, e1, Bool.false_and]
theorem l_ref1_Int (c : CallK) (N : Nat) (hD : ∀ (n : Nat) H τ q, c f_ref1_Digit [.int .u8 (n : Int)] H τ q = q (.bool (digB n)) H τ) (H : Heap) (s : Bs) (hs : s.length < 9223372036854775807) : ∀ (l pre : Bs) (v : Int) (τ : Tape) (n : Nat), s = pre ++ l → 0 ≤ v → v ≤ mostI → l.length < n →
    ∀ (fr : T V) k, fr.get 0 = some (.str s) → fr.get 4 = some (.int .i64 v) → fr.get 5 = some (.int .i64 (pre.length : Int)) →
    loopK (s_ref1_Int_l1 c N) n ⟨fr, H⟩ τ k = match intL l v with
      | some m => k (.exit 0) ⟨T.set (T.set .leaf 0 (.str s)) 4 (.int .i64 m), H⟩ τ
      | none => k .ret ⟨T.set (T.set .leaf 2 (.int .i64 (.ofNat 0))) 3 (.bool false), H⟩ τ := by
  intro l
  induction l with
  | nil =>
    intro pre v τ n he h0 h1 hn fr k f0 f4 f5
    obtain ⟨n, rfl⟩ : ∃ j, n = j + 1 := ⟨n - 1, by simp at hn; omega⟩
    have e1 : decide (pre.length < s.length) = false := decide_eq_false (by rw [he]; simp)
    rw [loopK_succ]
    simp only [s_ref1_Int_l1, getK_mk f0, getK_mk f4, getK_mk f5, getK_set, ↓reduceIte, Nat.reduceEqDiff, someK_n, effK_n, retK, gK_do, gK_do', gK_skip, gK_skip', gK_none, pick_mk, cond_true, cond_false, condK_tn, condK_fn, bin_eql, bin_neq, bin_lss, bin_leq, bin_gtr, bin_geq, un_not, Bool.not_true, Bool.not_false, bin_str, lenS_mk, nle_l, nle_r, nle_n, nlt_l, nlt_r, nlt_n, neq_r, neq_n, nne_r, nne_n, ext0, ext1, ext30, ext31, ext32, bin_add, bin_sub, decide_true, decide_false, e1, intL]
    rfl
  | cons x l ih =>
    intro pre v τ n he h0 h1 hn fr k f0 f4 f5
    obtain ⟨n, rfl⟩ : ∃ j, n = j + 1 := ⟨n - 1, by simp at hn; omega⟩
    have hlt : pre.length < s.length := by rw [he]; simp
    have e1 : decide (pre.length < s.length) = true := decide_eq_true hlt
    have e2 : pStrIndex [.str s, .int .i64 (pre.length : Int)] = some (.int .u8 (x.toNat : Int)) := strIndex_mk (by rw [he]; simp)
    have e9 : wr .i64 ((pre.length : Int) + Int.ofNat 1) = ((pre ++ [x]).length : Int) := by rw [adI (by omega)]; simp
    have hx := u8_lt x
    rw [loopK_succ]
    by_cases hd : 48 ≤ x.toNat ∧ x.toNat ≤ 57
    · have ed : digB x.toNat = true := by unfold digB; simp [hd.1, hd.2]
      have e5 : wr .u8 ((x.toNat : Int) - Int.ofNat 48) = (x.toNat : Int) - 48 := by
        rw [wr_eq]; simp [IntKind.wrap, IntKind.signed, IntKind.bits]; omega
      have e6 : wr .i64 ((x.toNat : Int) - 48) = (x.toNat : Int) - 48 := wr_id (by omega) (by omega)
      have e7 : wr .i64 (Int.ofNat 9223372036854775807 - ((x.toNat : Int) - 48)) = mostI - ((x.toNat : Int) - 48) := by
        rw [wr_id (by first | (simp; done) | (simp; omega) | omega) (by first | (simp; done) | (simp; omega) | omega)]; rfl
      have e8 : wr .i64 ((mostI - ((x.toNat : Int) - 48)).tdiv (Int.ofNat 10)) = (mostI - ((x.toNat : Int) - 48)).tdiv 10 := by
        have : (mostI - ((x.toNat : Int) - 48)).tdiv (Int.ofNat 10) = (mostI - ((x.toNat : Int) - 48)).tdiv 10 := rfl
        rw [this, Int.tdiv_eq_ediv_of_nonneg (by unfold mostI; omega)]
        unfold mostI
        exact wr_id (by omega) (by omega)
      have hq10 : ∀ (y : Int) (q : V → Ans), binK .quo (.int .i64 y) (.int .i64 (Int.ofNat 10)) q = q (.int .i64 (wr .i64 (y.tdiv (Int.ofNat 10)))) := fun y q => bin_quo _ _ _ (by decide) _
      have hstep := intStep_range h0 h1 (d := (x.toNat : Int) - 48) (by omega) (by omega)
      have hI : intL (x :: l) v = intL l (intStep v ((x.toNat : Int) - 48)) := by simp only [intL, hd, and_self, if_true]
      by_cases hq : (mostI - ((x.toNat : Int) - 48)).tdiv 10 < v
      · have hI2 : intStep v ((x.toNat : Int) - 48) = mostI := by simp only [intStep, hq, if_true]
        have eq : decide ((mostI - ((x.toNat : Int) - 48)).tdiv 10 < v) = true := decide_eq_true hq
        simp only [s_ref1_Int_l1, getK_mk f0, getK_mk f4, getK_mk f5, getK_set, ↓reduceIte, Nat.reduceEqDiff, someK_n, effK_n, retK, gK_do, gK_do', gK_skip, gK_skip', gK_none, pick_mk, cond_true, cond_false, condK_tn, condK_fn, bin_eql, bin_neq, bin_lss, bin_leq, bin_gtr, bin_geq, un_not, Bool.not_true, Bool.not_false, bin_str, lenS_mk, nle_l, nle_r, nle_n, nlt_l, nlt_r, nlt_n, neq_r, neq_n, nne_r, nne_n, ext0, ext1, ext30, ext31, ext32, bin_add, bin_sub, decide_true, decide_false, e1, e2, hD, ed, e5, toInt_mk, e6, e7, hq10, e8, eq, s_ref1_Int_j2, e9, seqK]
        rw [ih (pre ++ [x]) mostI τ n (by rw [he]; simp) (by unfold mostI; omega) (Int.le_refl _) (by simp at hn; omega) _ k (by simp [T.get_set]) (by simp [T.get_set]; rfl) (by simp [T.get_set]), hI, hI2]
      · have hI2 : intStep v ((x.toNat : Int) - 48) = v * 10 + ((x.toNat : Int) - 48) := by simp only [intStep, hq, if_false]
        have eq : decide ((mostI - ((x.toNat : Int) - 48)).tdiv 10 < v) = false := decide_eq_false hq
        have hv : v * 10 + ((x.toNat : Int) - 48) ≤ mostI := by rw [← hI2]; exact hstep.2
        have e10 : wr .i64 (v * Int.ofNat 10) = v * 10 := by
          have : v * Int.ofNat 10 = v * 10 := rfl
          rw [this, wr_id (by omega) (by unfold mostI at hv; omega)]
        have e11 : wr .i64 (v * 10 + ((x.toNat : Int) - 48)) = v * 10 + ((x.toNat : Int) - 48) := wr_id (by omega) hv
        simp only [s_ref1_Int_l1, getK_mk f0, getK_mk f4, getK_mk f5, getK_set, ↓reduceIte, Nat.reduceEqDiff, someK_n, effK_n, retK, gK_do, gK_do', gK_skip, gK_skip', gK_none, pick_mk, cond_true, cond_false, condK_tn, condK_fn, bin_eql, bin_neq, bin_lss, bin_leq, bin_gtr, bin_geq, un_not, Bool.not_true, Bool.not_false, bin_str, lenS_mk, nle_l, nle_r, nle_n, nlt_l, nlt_r, nlt_n, neq_r, neq_n, nne_r, nne_n, ext0, ext1, ext30, ext31, ext32, bin_add, bin_sub, decide_true, decide_false, e1, e2, hD, ed, e5, toInt_mk, e6, e7, hq10, e8, eq, bin_mul, e10, e11, s_ref1_Int_j2, e9, seqK]
        rw [ih (pre ++ [x]) (v * 10 + ((x.toNat : Int) - 48)) τ n (by rw [he]; simp) (by omega) hv (by simp at hn; omega) _ k (by simp [T.get_set]) (by simp [T.get_set]) (by simp [T.get_set]), hI, hI2]
    · have ed : digB x.toNat = false := by
        unfold digB
        by_cases h : 48 ≤ x.toNat
        · have : ¬ x.toNat ≤ 57 := fun h' => hd ⟨h, h'⟩
          simp [h, this]
        · simp [h]
      have hI : intL (x :: l) v = none := by simp only [intL, hd, if_false]
      simp only [s_ref1_Int_l1, getK_mk f0, getK_mk f4, getK_mk f5, getK_set, ↓reduceIte, Nat.reduceEqDiff, someK_n, effK_n, retK, gK_do, gK_do', gK_skip, gK_skip', gK_none, pick_mk, cond_true, cond_false, condK_tn, condK_fn, bin_eql, bin_neq, bin_lss, bin_leq, bin_gtr, bin_geq, un_not, Bool.not_true, Bool.not_false, bin_str, lenS_mk, nle_l, nle_r, nle_n, nlt_l, nlt_r, nlt_n, neq_r, neq_n, nne_r, nne_n, ext0, ext1, ext30, ext31, ext32, bin_add, bin_sub, decide_true, decide_false, e1, e2, hD, ed, hI]
      rfl
abbrev intV (s : Bs) : V := .tup [.int .i64 (intB s).1, .bool (intB s).2]
theorem s_ref1_Int_ret (c : CallK) {N : Nat} (hN : 9223372036854775807 < N) (hD : ∀ (n : Nat) H τ q, c f_ref1_Digit [.int .u8 (n : Int)] H τ q = q (.bool (digB n)) H τ) (s : Bs) (hs : s.length ≤ 9223372036854775806) (H : Heap) (τ : Tape) (q : KV) :
    s_ref1_Int c N (.str s) H τ q = q (intV s) H τ := by
  simp only [s_ref1_Int]
  rw [l_ref1_Int c N hD H s (by omega) s [] 0 τ N rfl (Int.le_refl _) (by unfold mostI; omega) (by omega) _ _ (by simp [T.get_set]) (by simp [T.get_set]) (by simp [T.get_set])]
  unfold intV intB
  cases hI : intL s 0 with
  | none =>
    simp only [blockK, seqK, endK]
    rfl
  | some m =>
    simp only [blockK, Nat.beq_refl, cond_true, seqK, s_ref1_Int_j0, getK_set, ↓reduceIte, Nat.reduceEqDiff, someK_n, effK_n, retK, gK_do, gK_do', gK_skip, gK_skip', gK_none, pick_mk, cond_true, cond_false, condK_tn, condK_fn, bin_eql, bin_neq, bin_lss, bin_leq, bin_gtr, bin_geq, un_not, Bool.not_true, Bool.not_false, bin_str, lenS_mk, nle_l, nle_r, nle_n, nlt_l, nlt_r, nlt_n, neq_r, neq_n, nne_r, nne_n, ext0, ext1, ext30, ext31, ext32, bin_add, bin_sub, decide_true, decide_false]
abbrev IntR := RS 9223372036854775806 intV
abbrev rw_Int : List Row := [Row.fn f_ref1_Int fn_ref1_Int e_ref1_Int, Row.fn f_ref1_Digit fn_ref1_Digit e_ref1_Digit]
theorem p_ref1_Int : ∀ base w0, PrimOk PG base w0 f_ref1_Int (outP IntR) := by
  obtain ⟨N, hN⟩ := someN
  refine primRV (N := N) (l := rw_Int) (.fn ok_ref1_Int e_ref1_Int_ok (.fn ok_ref1_Digit e_ref1_Digit_ok (.nil _))) 2 _ (fun vs H h => ?_) (fun vs h H hw τ => ?_)
  · unfold strP at h; split at h
    · exact ⟨trivial, trivial, trivial⟩
    · exact h.elim
  · unfold strP at h; split at h
    · exact ⟨H, τ, Gr.refl hw, fun q => s_ref1_Int_ret (CR rw_Int N 1) hN (fun n H τ q => s_ref1_Digit_ret (CR rw_Int N 0) N n H τ q) _ h H τ q⟩
    · exact h.elim
abbrev RIntOk (c : CallK) : Prop := ∀ (s : Bs), s.length ≤ 9223372036854775806 → ∀ H τ q, c f_ref1_Int [.str s] H τ q = q (intV s) H τ
theorem k_ref1_Int {c : CallK} (h : IsP c f_ref1_Int IntR) : RIntOk c := fun s hs H τ q => callS h s hs H τ q
def blankN (n : Nat) : Bool := (((decide (n = 9) || decide (n = 10)) || decide (n = 12)) || decide (n = 13)) || decide (n = 32)
theorem s_ref1_Blank_ret (c : CallK) (N n : Nat) (H : Heap) (τ : Tape) (q : KV) : s_ref1_Blank c N (.int .u8 (n : Int)) H τ q = q (.bool (blankN n)) H τ := by
  unfold blankN
  cases h1 : decide (n = 9) <;> cases h2 : decide (n = 10) <;> cases h3 : decide (n = 12) <;> cases h4 : decide (n = 13) <;> cases h5 : decide (n = 32) <;> simp only [s_ref1_Blank, getK_set, ↓reduceIte, Nat.reduceEqDiff, someK_n, effK_n, retK, gK_do, gK_do', gK_skip, gK_skip', gK_none, pick_mk, cond_true, cond_false, condK_tn, condK_fn, bin_eql, bin_neq, bin_lss, bin_leq, bin_gtr, bin_geq, un_not, Bool.not_true, Bool.not_false, bin_str, lenS_mk, nle_l, nle_r, nle_n, nlt_l, nlt_r, nlt_n, neq_r, neq_n, nne_r, nne_n, ext0, ext1, ext30, ext31, ext32, bin_add, bin_sub, decide_true, decide_false, h1, h2, h3, h4, h5] <;> rfl
theorem blankN_eq : (fun x : UInt8 => blankN x.toNat) = blank := by
  funext x
  unfold blank
  simp only [blankN, List.contains_cons, List.contains_nil, Bool.or_false, u8beq]
  show _ = (decide (x.toNat = 9) || (decide (x.toNat = 10) || (decide (x.toNat = 12) || (decide (x.toNat = 13) || decide (x.toNat = 32)))))
  simp only [Bool.or_assoc]
abbrev BlankOk (c : CallK) : Prop := ∀ (n : Nat) (H : Heap) (τ : Tape) (q : KV), c f_ref1_Blank [.int .u8 (n : Int)] H τ q = q (.bool (blankN n)) H τ
theorem l_ref1_Strip_a (c : CallK) (N : Nat) (he : BlankOk c) (H : Heap) : ∀ (s : Bs) (fr : T V) (τ : Tape) (m : Nat), s.length < m → s.length < 9223372036854775807 → fr.get 0 = some (.str s) →
    ∀ k, loopK (s_ref1_Strip_l3 c N) m ⟨fr, H⟩ τ k = k (.exit 0) ⟨(T.set .leaf 0 (.str (s.dropWhile fun x => blankN x.toNat))), H⟩ τ := by
  intro s
  induction s with
  | nil =>
    intro fr τ m hm hs f0 k
    obtain ⟨m, rfl⟩ : ∃ j, m = j + 1 := ⟨m - 1, by omega⟩
    rw [loopK_succ]
    have e : decide (0 < ([] : Bs).length) = false := rfl
    simp only [s_ref1_Strip_l3, getK_mk f0, getK_set, ↓reduceIte, Nat.reduceEqDiff, someK_n, effK_n, retK, gK_do, gK_do', gK_skip, gK_skip', gK_none, pick_mk, cond_true, cond_false, condK_tn, condK_fn, bin_eql, bin_neq, bin_lss, bin_leq, bin_gtr, bin_geq, un_not, Bool.not_true, Bool.not_false, bin_str, lenS_mk, nle_l, nle_r, nle_n, nlt_l, nlt_r, nlt_n, neq_r, neq_n, nne_r, nne_n, ext0, ext1, ext30, ext31, ext32, bin_add, bin_sub, decide_true, decide_false, e]
    rfl
  | cons x s ih =>
    intro fr τ m hm hs f0 k
    obtain ⟨m, rfl⟩ : ∃ j, m = j + 1 := ⟨m - 1, by omega⟩
    rw [loopK_succ]
    have e : decide (0 < (x :: s).length) = true := by simp
    have e2 : pStrIndex [.str (x :: s), .int .i64 (Int.ofNat 0)] = some (.int .u8 (x.toNat : Int)) := strIdx0 rfl
    have e3 : pStrSlice true false [.str (x :: s), .int .i64 (Int.ofNat 1)] = some (.str s) := by
      have := strSlice_lo (s := x :: s) (k := .i64) (i := 1) (by simp)
      simpa using this
    cases hb : blankN x.toNat with
    | true =>
      simp only [s_ref1_Strip_l3, getK_mk f0, getK_set, ↓reduceIte, Nat.reduceEqDiff, someK_n, effK_n, retK, gK_do, gK_do', gK_skip, gK_skip', gK_none, pick_mk, cond_true, cond_false, condK_tn, condK_fn, bin_eql, bin_neq, bin_lss, bin_leq, bin_gtr, bin_geq, un_not, Bool.not_true, Bool.not_false, bin_str, lenS_mk, nle_l, nle_r, nle_n, nlt_l, nlt_r, nlt_n, neq_r, neq_n, nne_r, nne_n, ext0, ext1, ext30, ext31, ext32, bin_add, bin_sub, decide_true, decide_false, e, e2, he, hb, e3, List.dropWhile_cons]
      exact ih _ τ m (by simp at hm; omega) (by simp at hs; omega) (by simp [T.get_set]) k
    | false =>
      simp only [s_ref1_Strip_l3, getK_mk f0, getK_set, ↓reduceIte, Nat.reduceEqDiff, someK_n, effK_n, retK, gK_do, gK_do', gK_skip, gK_skip', gK_none, pick_mk, cond_true, cond_false, condK_tn, condK_fn, bin_eql, bin_neq, bin_lss, bin_leq, bin_gtr, bin_geq, un_not, Bool.not_true, Bool.not_false, bin_str, lenS_mk, nle_l, nle_r, nle_n, nlt_l, nlt_r, nlt_n, neq_r, neq_n, nne_r, nne_n, ext0, ext1, ext30, ext31, ext32, bin_add, bin_sub, decide_true, decide_false, e, e2, he, hb, List.dropWhile_cons, Bool.false_eq_true]
      rfl
theorem l_ref1_Strip_b (c : CallK) (N : Nat) (he : BlankOk c) (H : Heap) : ∀ (n : Nat) (s : Bs) (fr : T V) (τ : Tape) (m : Nat), s.length = n → n < m → n < 9223372036854775807 → fr.get 0 = some (.str s) →
    ∀ k, loopK (s_ref1_Strip_l2 c N) m ⟨fr, H⟩ τ k = k (.exit 2) ⟨(T.set .leaf 0 (.str (s.reverse.dropWhile fun x => blankN x.toNat).reverse)), H⟩ τ := by
  intro n
  induction n with
  | zero =>
    intro s fr τ m hn hm hs f0 k
    obtain rfl := List.eq_nil_of_length_eq_zero hn
    obtain ⟨m, rfl⟩ : ∃ j, m = j + 1 := ⟨m - 1, by omega⟩
    rw [loopK_succ]
    have e : decide (0 < ([] : Bs).length) = false := rfl
    simp only [s_ref1_Strip_l2, getK_mk f0, getK_set, ↓reduceIte, Nat.reduceEqDiff, someK_n, effK_n, retK, gK_do, gK_do', gK_skip, gK_skip', gK_none, pick_mk, cond_true, cond_false, condK_tn, condK_fn, bin_eql, bin_neq, bin_lss, bin_leq, bin_gtr, bin_geq, un_not, Bool.not_true, Bool.not_false, bin_str, lenS_mk, nle_l, nle_r, nle_n, nlt_l, nlt_r, nlt_n, neq_r, neq_n, nne_r, nne_n, ext0, ext1, ext30, ext31, ext32, bin_add, bin_sub, decide_true, decide_false, e]
    rfl
  | succ n ih =>
    intro s fr τ m hn hm hs f0 k
    obtain ⟨m, rfl⟩ : ∃ j, m = j + 1 := ⟨m - 1, by omega⟩
    rw [loopK_succ]
    obtain ⟨s, x, rfl⟩ : ∃ s' x, s = s' ++ [x] := ⟨s.dropLast, s.getLast (by intro h; subst h; simp at hn), (List.dropLast_concat_getLast _).symm⟩
    have hl : s.length = n := by simpa using hn
    have e : decide (0 < (s ++ [x]).length) = true := by simp
    have e1 : wr .i64 ((((s ++ [x]).length : Nat) : Int) - Int.ofNat 1) = (s.length : Int) := by rw [sbI (by simp) (by omega)]; simp
    have e2 : pStrIndex [.str (s ++ [x]), .int .i64 (s.length : Int)] = some (.int .u8 (x.toNat : Int)) := strIndex_mk (by simp)
    have e3 : pStrSlice false true [.str (s ++ [x]), .int .i64 (s.length : Int)] = some (.str s) := by
      rw [strSlice_hi (by simp)]; simp
    cases hb : blankN x.toNat with
    | true =>
      simp only [s_ref1_Strip_l2, getK_mk f0, getK_set, ↓reduceIte, Nat.reduceEqDiff, someK_n, effK_n, retK, gK_do, gK_do', gK_skip, gK_skip', gK_none, pick_mk, cond_true, cond_false, condK_tn, condK_fn, bin_eql, bin_neq, bin_lss, bin_leq, bin_gtr, bin_geq, un_not, Bool.not_true, Bool.not_false, bin_str, lenS_mk, nle_l, nle_r, nle_n, nlt_l, nlt_r, nlt_n, neq_r, neq_n, nne_r, nne_n, ext0, ext1, ext30, ext31, ext32, bin_add, bin_sub, decide_true, decide_false, e, e1, e2, he, hb, e3, List.reverse_append, List.reverse_cons, List.reverse_nil, List.nil_append, List.singleton_append, List.dropWhile_cons]
      exact ih s _ τ m hl (by omega) (by omega) (by simp [T.get_set]) k
    | false =>
      simp only [s_ref1_Strip_l2, getK_mk f0, getK_set, ↓reduceIte, Nat.reduceEqDiff, someK_n, effK_n, retK, gK_do, gK_do', gK_skip, gK_skip', gK_none, pick_mk, cond_true, cond_false, condK_tn, condK_fn, bin_eql, bin_neq, bin_lss, bin_leq, bin_gtr, bin_geq, un_not, Bool.not_true, Bool.not_false, bin_str, lenS_mk, nle_l, nle_r, nle_n, nlt_l, nlt_r, nlt_n, neq_r, neq_n, nne_r, nne_n, ext0, ext1, ext30, ext31, ext32, bin_add, bin_sub, decide_true, decide_false, e, e1, e2, he, hb, List.reverse_append, List.reverse_cons, List.reverse_nil, List.nil_append, List.singleton_append, List.dropWhile_cons, Bool.false_eq_true, List.reverse_reverse]
      rfl
theorem s_ref1_Strip_ret (c : CallK) {N : Nat} (hN : 9223372036854775807 < N) (he : BlankOk c) (s : Bs) (hs : s.length ≤ 9223372036854775806) (H : Heap) (τ : Tape) (q : KV) : s_ref1_Strip c N (.str s) H τ q = q (.str (strip s)) H τ := by
  have hd : (s.dropWhile fun x => blankN x.toNat).length ≤ s.length := (List.dropWhile_sublist _).length_le
  simp only [s_ref1_Strip]
  rw [l_ref1_Strip_a c N he H s _ τ N (by omega) (by omega) (by simp [T.get_set])]
  simp only [blockK, Nat.beq_refl, cond_true, seqK, s_ref1_Strip_j0, getK_set, ↓reduceIte, Nat.reduceEqDiff, someK_n, effK_n, retK, gK_do, gK_do', gK_skip, gK_skip', gK_none, pick_mk, cond_true, cond_false, condK_tn, condK_fn, bin_eql, bin_neq, bin_lss, bin_leq, bin_gtr, bin_geq, un_not, Bool.not_true, Bool.not_false, bin_str, lenS_mk, nle_l, nle_r, nle_n, nlt_l, nlt_r, nlt_n, neq_r, neq_n, nne_r, nne_n, ext0, ext1, ext30, ext31, ext32, bin_add, bin_sub, decide_true, decide_false]
  rw [l_ref1_Strip_b c N he H (s.dropWhile fun x => blankN x.toNat).length (s.dropWhile fun x => blankN x.toNat) _ τ N rfl (by omega) (by omega) (by simp [T.get_set])]
  simp only [blockK, Nat.beq_refl, cond_true, seqK, s_ref1_Strip_j1, getK_set, ↓reduceIte, Nat.reduceEqDiff, someK_n, effK_n, retK, gK_do, gK_do', gK_skip, gK_skip', gK_none, pick_mk, cond_true, cond_false, condK_tn, condK_fn, bin_eql, bin_neq, bin_lss, bin_leq, bin_gtr, bin_geq, un_not, Bool.not_true, Bool.not_false, bin_str, lenS_mk, nle_l, nle_r, nle_n, nlt_l, nlt_r, nlt_n, neq_r, neq_n, nne_r, nne_n, ext0, ext1, ext30, ext31, ext32, bin_add, bin_sub, decide_true, decide_false]
  rw [trim_swap, blankN_eq]; rfl
abbrev rw_Strip : List Row := [Row.fn f_ref1_Strip fn_ref1_Strip e_ref1_Strip, Row.fn f_ref1_Blank fn_ref1_Blank e_ref1_Blank]
abbrev RStripR := RS 9223372036854775806 fun s => .str (strip s)
theorem p_ref1_Strip : ∀ base w0, PrimOk PG base w0 f_ref1_Strip (outP RStripR) := by
  obtain ⟨N, hN⟩ := someN
  refine primRV (N := N) (l := rw_Strip) (.fn ok_ref1_Strip e_ref1_Strip_ok (.fn ok_ref1_Blank e_ref1_Blank_ok (.nil _))) 2 _ (fun vs H h => ?_) (fun vs h H hw τ => ?_)
  · unfold strP at h; split at h
    · trivial
    · exact h.elim
  · unfold strP at h; split at h
    · exact ⟨H, τ, Gr.refl hw, fun q => s_ref1_Strip_ret (CR rw_Strip N 1) hN (fun n H τ q => s_ref1_Blank_ret (CR rw_Strip N 0) N n H τ q) _ h H τ q⟩
    · exact h.elim
abbrev RStripOk (c : CallK) : Prop := ∀ (s : Bs), s.length ≤ 9223372036854775806 → ∀ H τ q, c f_ref1_Strip [.str s] H τ q = q (.str (strip s)) H τ
theorem k_ref1_Strip {c : CallK} (h : IsP c f_ref1_Strip RStripR) : RStripOk c := fun s hs H τ q => callS h s hs H τ q
theorem l_ref1_Has (c : CallK) (N : Nat) (lv : V) (ss : List Bs) (x : Bs) (hl : ss.length < 9223372036854775807) (H : Heap) (hr : Rd H 1 lv ss.length (ss.map V.str)) : ∀ (l pre : List Bs) (τ : Tape) (m : Nat), ss = pre ++ l → l.length < m →
    ∀ (fr : T V) k, fr.get 0 = some lv → fr.get 1 = some (.str x) → fr.get 5 = some (.int .i64 (pre.length : Int)) →
    loopK (s_ref1_Has_l1 c N) m ⟨fr, H⟩ τ k = bif l.contains x then k .ret ⟨(T.set .leaf 4 (.bool true)), H⟩ τ else k (.exit 0) ⟨.leaf, H⟩ τ := by
  intro l
  induction l with
  | nil =>
    intro pre τ m he hm fr k f0 f1 f5
    obtain ⟨m, rfl⟩ : ∃ j, m = j + 1 := ⟨m - 1, by omega⟩
    have e1 : decide (pre.length < ss.length) = false := decide_eq_false (by rw [he]; simp)
    rw [loopK_succ]
    simp only [s_ref1_Has_l1, getK_mk f0, getK_mk f1, getK_mk f5, hr.pLen, getK_set, ↓reduceIte, Nat.reduceEqDiff, someK_n, effK_n, retK, gK_do, gK_do', gK_skip, gK_skip', gK_none, pick_mk, cond_true, cond_false, condK_tn, condK_fn, bin_eql, bin_neq, bin_lss, bin_leq, bin_gtr, bin_geq, un_not, Bool.not_true, Bool.not_false, bin_str, lenS_mk, nle_l, nle_r, nle_n, nlt_l, nlt_r, nlt_n, neq_r, neq_n, nne_r, nne_n, ext0, ext1, ext30, ext31, ext32, bin_add, bin_sub, decide_true, decide_false, e1]
    rfl
  | cons y l ih =>
    intro pre τ m he hm fr k f0 f1 f5
    obtain ⟨m, rfl⟩ : ∃ j, m = j + 1 := ⟨m - 1, by omega⟩
    have hlt : pre.length < ss.length := by rw [he]; simp
    have e1 : decide (pre.length < ss.length) = true := decide_eq_true hlt
    have e3 : wr .i64 ((pre.length : Int) + Int.ofNat 1) = ((pre ++ [y]).length : Int) := by rw [adI (by omega)]; simp
    obtain ⟨p, p1, p2⟩ := hr.elem1 (i := pre.length) (x := .str y) (by rw [he]; simp)
    have ec : (y :: l).contains x = ((y == x) || l.contains x) := by
      rw [List.contains_cons]
      have : (x == y) = (y == x) := BEq.comm
      rw [this]
    rw [loopK_succ, ec]
    cases hb : (y == x) with
    | true =>
      simp only [s_ref1_Has_l1, getK_mk f0, getK_mk f1, getK_mk f5, hr.pLen, getK_set, ↓reduceIte, Nat.reduceEqDiff, someK_n, effK_n, retK, gK_do, gK_do', gK_skip, gK_skip', gK_none, pick_mk, cond_true, cond_false, condK_tn, condK_fn, bin_eql, bin_neq, bin_lss, bin_leq, bin_gtr, bin_geq, un_not, Bool.not_true, Bool.not_false, bin_str, lenS_mk, nle_l, nle_r, nle_n, nlt_l, nlt_r, nlt_n, neq_r, neq_n, nne_r, nne_n, ext0, ext1, ext30, ext31, ext32, bin_add, bin_sub, decide_true, decide_false, e1, p1, p2, str_eql, hb, Bool.true_or]
      rfl
    | false =>
      simp only [s_ref1_Has_l1, getK_mk f0, getK_mk f1, getK_mk f5, hr.pLen, getK_set, ↓reduceIte, Nat.reduceEqDiff, someK_n, effK_n, retK, gK_do, gK_do', gK_skip, gK_skip', gK_none, pick_mk, cond_true, cond_false, condK_tn, condK_fn, bin_eql, bin_neq, bin_lss, bin_leq, bin_gtr, bin_geq, un_not, Bool.not_true, Bool.not_false, bin_str, lenS_mk, nle_l, nle_r, nle_n, nlt_l, nlt_r, nlt_n, neq_r, neq_n, nne_r, nne_n, ext0, ext1, ext30, ext31, ext32, bin_add, bin_sub, decide_true, decide_false, e1, p1, p2, str_eql, hb, Bool.false_or, e3]
      exact ih (pre ++ [y]) τ m (by rw [he]; simp) (by simp at hm; omega) _ k (by simp [T.get_set]) (by simp [T.get_set]) (by simp [T.get_set])
theorem s_ref1_Has_ret (c : CallK) {N : Nat} (hN : 9223372036854775807 < N) (lv : V) (ss : List Bs) (x : Bs) (hl : ss.length ≤ 9223372036854775806) (H : Heap) (hr : Rd H 1 lv ss.length (ss.map V.str)) (τ : Tape) (q : KV) : s_ref1_Has c N lv (.str x) H τ q = q (.bool (ss.contains x)) H τ := by
  simp only [s_ref1_Has]
  rw [l_ref1_Has c N lv ss x (by omega) H hr ss [] τ N rfl (by omega) _ _ (by simp [T.get_set]) (by simp [T.get_set]) (by simp [T.get_set])]
  cases hb : ss.contains x with
  | true => simp only [cond_true, blockK, seqK, endK]; rfl
  | false => simp only [cond_false, blockK, Nat.beq_refl, cond_true, seqK, s_ref1_Has_j0]
def HasR (vs : List V) (H : Heap) (o : Out) : Prop := ∃ (lv : V) (ss : List Bs) (x : Bs), vs = [lv, .str x] ∧ Rd H 1 lv ss.length (ss.map V.str) ∧ ss.length ≤ 9223372036854775806 ∧ o = .val (.bool (ss.contains x))
theorem strs_inj {a b : List Bs} (h : a.map V.str = b.map V.str) : a = b := by
  have := congrArg (List.map fun | V.str s => s | _ => []) h
  simpa [List.map_map, Function.comp_def] using this
theorem HasR_fun : Fun1 HasR := by
  rintro vs H o o' ⟨lv, ss, x, rfl, h1, _, rfl⟩ ⟨lv', ss', x', e, h2, _, rfl⟩
  cases e
  rw [strs_inj (h1.uniq h2).2]
theorem p_ref1_Has : ∀ base w0, PrimOk PG base w0 f_ref1_Has (outP HasR) := by
  obtain ⟨N, hN⟩ := someN
  refine primOk_out mixed_ok (l := [Row.fn f_ref1_Has fn_ref1_Has e_ref1_Has]) (.fn ok_ref1_Has e_ref1_Has_ok (.nil _)) N 1 _ ?_
  rintro vs H o hw hvs ⟨lv, ss, x, rfl, hr, hl, rfl⟩ τ
  exact ⟨_, H, τ, s_ref1_Has_ret (CR [Row.fn f_ref1_Has fn_ref1_Has e_ref1_Has] N 0) hN lv ss x hl H hr τ retK, Gr.refl hw, rfl, trivial⟩
theorem k_ref1_Has {c : CallK} (h : IsP c f_ref1_Has HasR) {lv : V} {ss : List Bs} (x : Bs) {H : Heap} (hr : Rd H 1 lv ss.length (ss.map V.str)) (hl : ss.length ≤ 9223372036854775806) (τ : Tape) (q : KV) : c f_ref1_Has [lv, .str x] H τ q = q (.bool (ss.contains x)) H τ :=
  outK_val h HasR_fun ⟨lv, ss, x, rfl, hr, hl, rfl⟩ τ q
end Go.Am.X


