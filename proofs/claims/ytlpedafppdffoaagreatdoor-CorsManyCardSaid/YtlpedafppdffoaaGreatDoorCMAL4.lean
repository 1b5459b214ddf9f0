/- The abstract machine, printed functions of the program, and what they are shown to be. -/
import Derived.Test.YtlpedafppdffoaaGreatDoorCMAL3
set_option linter.unusedSimpArgs false
set_option linter.unusedVariables false
set_option linter.unusedSectionVars false
set_option maxRecDepth 100000
namespace Go.Am.X
theorem idx_has (x : UInt8) (l : Bs) : decide (Int.ofNat 0 ≤ idxB x.toNat l 0) = l.contains x := by
 by_cases h : l.contains x = true
 ·rw [h]; exact decide_eq_true (idxB_some _ _ _ ⟨x, List.contains_iff_mem.1 h, rfl⟩)
 ·have h' : l.contains x = false := by cases e : l.contains x; rfl; exact absurd e h
  rw [h', idxB_none _ _ _ (fun y hy e => h (List.contains_iff_mem.2 (by rw [← UInt8.toNat_inj.1 e]; exact hy)))]; rfl
theorem idx_hasnt (x : UInt8) (l : Bs) : decide (idxB x.toNat l 0 < Int.ofNat 0) = !l.contains x := by
 rw [← idx_has]
 by_cases h : Int.ofNat 0 ≤ idxB x.toNat l 0
 ·rw [decide_eq_true h]; exact decide_eq_false (by omega)
 ·rw [decide_eq_false h]; exact decide_eq_true (by omega)
theorem k_idx {c : CallK} (h : ∀ vs H τ q, c f_stringslite_IndexByte vs H τ q = effK (idxP vs H τ) q) (s : Bs) (x : UInt8) (H : Heap) (τ : Tape) (q : KV) : c f_stringslite_IndexByte [.str s, .int .u8 (x.toNat : Int)] H τ q = q (.int .i64 (idxB x.toNat s 0)) H τ := by
 have e4 : x.toNat % 256 = x.toNat := Nat.mod_eq_of_lt (u8_lt x)
 rw [h]
 show effK (idxP [.str s, .int .u8 (.ofNat x.toNat)] H τ) q = _
 simp only [idxP, e4, effK_n]
def unsT : Bs := [34, 40, 41, 58, 60, 62, 63, 64, 91, 92, 93, 123, 125]
def unsB (x : UInt8) : Bool := ((decide (x.toNat < 32) && !decide (x.toNat = 9)) || decide (x.toNat = 127)) || unsT.contains x
def unsafeB (s : Bs) : Bool := s.any unsB
def lngT : Bs := [32, 42, 44, 45, 46, 59, 61]
def lngB (x : UInt8) : Bool := (letB x.toNat || digB x.toNat) || lngT.contains x
def tongB (s : Bs) : Bool := s.all lngB
theorem l_headers_unsafe (c : CallK) (N : Nat) (hI : Idx70 c) (s : Bs) (hs : s.length < 9223372036854775807) (H : Heap) : ∀ (l pre : Bs) (τ : Tape) (m : Nat), s = pre ++ l → l.length < m → ∀ (fr : T V) k, fr.get 0 = some (.str s) → fr.get 6 = some (.int .i64 (s.length : Int)) → fr.get 7 = some (.int .i64 (pre.length : Int)) →
  loopK (s_headers_unsafe_l1 c N) m ⟨fr, H⟩ τ k = bif l.any unsB then k .ret ⟨(T.set .leaf 2 (.bool true)), H⟩ τ else k (.exit 0) ⟨.leaf, H⟩ τ := by
 intro l
 induction l with
 | nil =>
  intro pre τ m he hm fr k f0 f6 f7
  obtain ⟨m, rfl⟩ : ∃ j, m = j + 1 := ⟨m - 1, by omega⟩
  have e1 : decide (pre.length < s.length) = false := decide_eq_false (by rw [he]; simp)
  rw [loopK_succ]
  simp only [s_headers_unsafe_l1, getK_mk f0, getK_mk f6, getK_mk f7, getK_set, ↓reduceIte, Nat.reduceEqDiff, someK_n, effK_n, retK, gK_do, gK_do', gK_skip, gK_skip', gK_none, pick_mk, cond_true, cond_false, condK_tn, condK_fn, bin_eql, bin_neq, bin_lss, bin_leq, bin_gtr, bin_geq, un_not, Bool.not_true, Bool.not_false, bin_str, lenS_mk, nle_l, nle_r, nle_n, nlt_l, nlt_r, nlt_n, neq_r, neq_n, nne_r, nne_n, ext0, ext1, ext30, ext31, ext32, bin_add, bin_sub, decide_true, decide_false, e1]
  rfl
 | cons x l ih =>
  intro pre τ m he hm fr k f0 f6 f7
  obtain ⟨m, rfl⟩ : ∃ j, m = j + 1 := ⟨m - 1, by omega⟩
  have hlt : pre.length < s.length := by rw [he]; simp
  have e1 : decide (pre.length < s.length) = true := decide_eq_true hlt
  have e2 : pStrIndex [.str s, .int .i64 (pre.length : Int)] = some (.int .u8 (x.toNat : Int)) := strIndex_mk (by rw [he]; simp)
  have e3 : wr .i64 ((pre.length : Int) + Int.ofNat 1) = ((pre ++ [x]).length : Int) := by rw [adI (by omega)]; simp
  have k1 := hI unsT x
  have eu : bs [34, 40, 41, 58, 60, 62, 63, 64, 91, 92, 93, 123, 125] = unsT := rfl
  have ei := idx_has x unsT
  have ea : (x :: l).any unsB = (unsB x || l.any unsB) := rfl
  have eb : unsB x = (((decide (x.toNat < 32) && !decide (x.toNat = 9)) || decide (x.toNat = 127)) || unsT.contains x) := rfl
  have go := fun fr f0 f6 f7 => ih (pre ++ [x]) τ m (by rw [he]; simp) (by simp at hm; omega) fr k f0 f6 f7
  rw [loopK_succ, ea, eb]
  cases h1 : decide (x.toNat < 32) <;> cases h2 : decide (x.toNat = 9) <;> cases h3 : decide (x.toNat = 127) <;> cases h4 : unsT.contains x <;>
   simp only [s_headers_unsafe_l1, getK_mk f0, getK_mk f6, getK_mk f7, getK_set, ↓reduceIte, Nat.reduceEqDiff, someK_n, effK_n, retK, gK_do, gK_do', gK_skip, gK_skip', gK_none, pick_mk, cond_true, cond_false, condK_tn, condK_fn, bin_eql, bin_neq, bin_lss, bin_leq, bin_gtr, bin_geq, un_not, Bool.not_true, Bool.not_false, bin_str, lenS_mk, nle_l, nle_r, nle_n, nlt_l, nlt_r, nlt_n, neq_r, neq_n, nne_r, nne_n, ext0, ext1, ext30, ext31, ext32, bin_add, bin_sub, decide_true, decide_false, e1, e2, h1, h2, h3, eu, k1, ei, h4, e3, Bool.true_or, Bool.false_or, Bool.or_false, Bool.or_true, Bool.and_true, Bool.and_false, Bool.true_and, Bool.false_and] <;>
   first | rfl | exact go _ (by simp [T.get_set]) (by simp [T.get_set]) (by simp [T.get_set])
theorem s_headers_unsafe_ret (c : CallK) {N : Nat} (hN : 9223372036854775807 < N) (hI : Idx70 c) (s : Bs) (hs : s.length ≤ 9223372036854775806) (H : Heap) (τ : Tape) (q : KV) : s_headers_unsafe c N (.str s) H τ q = q (.bool (unsafeB s)) H τ := by
 unfold unsafeB
 simp only [s_headers_unsafe, lenS_mk, someK_n]
 rw [l_headers_unsafe c N hI s (by omega) H s [] τ N rfl (by omega) _ _ (by simp [T.get_set]) (by simp [T.get_set]) (by simp [T.get_set])]
 cases s.any unsB with
 | true => simp only [cond_true, blockK, seqK, endK]; rfl
 | false => simp only [cond_false, blockK, Nat.beq_refl, cond_true, seqK, s_headers_unsafe_j0]
theorem l_headers_tongues (c : CallK) (N : Nat) (hI : Idx70 c) (s : Bs) (hs : s.length < 9223372036854775807) (H : Heap) : ∀ (l pre : Bs) (τ : Tape) (m : Nat), s = pre ++ l → l.length < m → ∀ (fr : T V) k, fr.get 0 = some (.str s) → fr.get 6 = some (.int .i64 (s.length : Int)) → fr.get 7 = some (.int .i64 (pre.length : Int)) →
  loopK (s_headers_tongues_l1 c N) m ⟨fr, H⟩ τ k = bif l.all lngB then k (.exit 0) ⟨.leaf, H⟩ τ else k .ret ⟨(T.set .leaf 2 (.bool false)), H⟩ τ := by
 intro l
 induction l with
 | nil =>
  intro pre τ m he hm fr k f0 f6 f7
  obtain ⟨m, rfl⟩ : ∃ j, m = j + 1 := ⟨m - 1, by omega⟩
  have e1 : decide (pre.length < s.length) = false := decide_eq_false (by rw [he]; simp)
  rw [loopK_succ]
  simp only [s_headers_tongues_l1, getK_mk f0, getK_mk f6, getK_mk f7, getK_set, ↓reduceIte, Nat.reduceEqDiff, someK_n, effK_n, retK, gK_do, gK_do', gK_skip, gK_skip', gK_none, pick_mk, cond_true, cond_false, condK_tn, condK_fn, bin_eql, bin_neq, bin_lss, bin_leq, bin_gtr, bin_geq, un_not, Bool.not_true, Bool.not_false, bin_str, lenS_mk, nle_l, nle_r, nle_n, nlt_l, nlt_r, nlt_n, neq_r, neq_n, nne_r, nne_n, ext0, ext1, ext30, ext31, ext32, bin_add, bin_sub, decide_true, decide_false, e1]
  rfl
 | cons x l ih =>
  intro pre τ m he hm fr k f0 f6 f7
  obtain ⟨m, rfl⟩ : ∃ j, m = j + 1 := ⟨m - 1, by omega⟩
  have hlt : pre.length < s.length := by rw [he]; simp
  have e1 : decide (pre.length < s.length) = true := decide_eq_true hlt
  have e2 : pStrIndex [.str s, .int .i64 (pre.length : Int)] = some (.int .u8 (x.toNat : Int)) := strIndex_mk (by rw [he]; simp)
  have e3 : wr .i64 ((pre.length : Int) + Int.ofNat 1) = ((pre ++ [x]).length : Int) := by rw [adI (by omega)]; simp
  have k1 := hI lngT x
  have eu : bs [32, 42, 44, 45, 46, 59, 61] = lngT := rfl
  have ei := idx_hasnt x lngT
  have ea : (x :: l).all lngB = (lngB x && l.all lngB) := rfl
  have eb : lngB x = ((((decide (97 ≤ x.toNat) && decide (x.toNat ≤ 122)) || (decide (65 ≤ x.toNat) && decide (x.toNat ≤ 90))) || (decide (48 ≤ x.toNat) && decide (x.toNat ≤ 57))) || lngT.contains x) := rfl
  have go := fun fr f0 f6 f7 => ih (pre ++ [x]) τ m (by rw [he]; simp) (by simp at hm; omega) fr k f0 f6 f7
  rw [loopK_succ, ea, eb]
  simp only [s_headers_tongues_l1, getK_mk f0, getK_mk f6, getK_mk f7, getK_set, ↓reduceIte, Nat.reduceEqDiff, someK_n, effK_n, retK, gK_do, gK_do', gK_skip, gK_skip', gK_none, pick_mk, cond_true, cond_false, condK_tn, condK_fn, bin_eql, bin_neq, bin_lss, bin_leq, bin_gtr, bin_geq, un_not, Bool.not_true, Bool.not_false, bin_str, lenS_mk, nle_l, nle_r, nle_n, nlt_l, nlt_r, nlt_n, neq_r, neq_n, nne_r, nne_n, ext0, ext1, ext30, ext31, ext32, bin_add, bin_sub, decide_true, decide_false, e1, e2]
  cases h1 : decide (97 ≤ x.toNat) <;> cases h2 : decide (x.toNat ≤ 122) <;> cases h3 : decide (65 ≤ x.toNat) <;> simp only [getK_set, ↓reduceIte, Nat.reduceEqDiff, someK_n, effK_n, retK, gK_do, gK_do', gK_skip, gK_skip', gK_none, pick_mk, cond_true, cond_false, condK_tn, condK_fn, bin_eql, bin_neq, bin_lss, bin_leq, bin_gtr, bin_geq, un_not, Bool.not_true, Bool.not_false, bin_str, lenS_mk, nle_l, nle_r, nle_n, nlt_l, nlt_r, nlt_n, neq_r, neq_n, nne_r, nne_n, ext0, ext1, ext30, ext31, ext32, bin_add, bin_sub, decide_true, decide_false, h1, h2, h3] <;> cases h4 : decide (x.toNat ≤ 90) <;> cases h5 : decide (48 ≤ x.toNat) <;> cases h6 : decide (x.toNat ≤ 57) <;> cases h7 : lngT.contains x <;>
   simp only [getK_set, ↓reduceIte, Nat.reduceEqDiff, someK_n, effK_n, retK, gK_do, gK_do', gK_skip, gK_skip', gK_none, pick_mk, cond_true, cond_false, condK_tn, condK_fn, bin_eql, bin_neq, bin_lss, bin_leq, bin_gtr, bin_geq, un_not, Bool.not_true, Bool.not_false, bin_str, lenS_mk, nle_l, nle_r, nle_n, nlt_l, nlt_r, nlt_n, neq_r, neq_n, nne_r, nne_n, ext0, ext1, ext30, ext31, ext32, bin_add, bin_sub, decide_true, decide_false, h1, h2, h3, h4, h5, h6, eu, k1, ei, h7, e3, Bool.true_or, Bool.false_or, Bool.or_false, Bool.or_true, Bool.and_true, Bool.and_false, Bool.true_and, Bool.false_and] <;>
   first | rfl | exact go _ (by simp [T.get_set]) (by simp [T.get_set]) (by simp [T.get_set])
theorem s_headers_tongues_ret (c : CallK) {N : Nat} (hN : 9223372036854775807 < N) (hI : Idx70 c) (s : Bs) (hs : s.length ≤ 9223372036854775806) (H : Heap) (τ : Tape) (q : KV) : s_headers_tongues c N (.str s) H τ q = q (.bool (tongB s)) H τ := by
 unfold tongB
 simp only [s_headers_tongues, lenS_mk, someK_n]
 rw [l_headers_tongues c N hI s (by omega) H s [] τ N rfl (by omega) _ _ (by simp [T.get_set]) (by simp [T.get_set]) (by simp [T.get_set])]
 cases s.all lngB with
 | false => simp only [cond_false, blockK, seqK, endK]; rfl
 | true => simp only [blockK, Nat.beq_refl, cond_true, seqK, s_headers_tongues_j0]
theorem l_ref5_unsafe_in (c : CallK) (N : Nat) (s : Bs) (iv : V) (x : UInt8) (hx : pStrIndex [.str s, iv] = some (.int .u8 (x.toNat : Int))) (H : Heap) : ∀ (l pre : Bs) (τ : Tape) (m : Nat), unsT = pre ++ l → l.length < m → ∀ (fr : T V) k, fr.get 0 = some (.str s) → fr.get 3 = some iv → fr.get 4 = some (.int .i64 (pre.length : Int)) →
  loopK (s_ref5_unsafe_l3 c N) m ⟨fr, H⟩ τ k = bif l.contains x then k .ret ⟨(T.set .leaf 2 (.bool true)), H⟩ τ else k (.exit 2) ⟨(T.set (T.set .leaf 0 (.str s)) 3 iv), H⟩ τ := by
 intro l
 induction l with
 | nil =>
  intro pre τ m he hm fr k f0 f3 f4
  obtain ⟨m, rfl⟩ : ∃ j, m = j + 1 := ⟨m - 1, by omega⟩
  have hl := congrArg List.length he
  have e1 : decide (pre.length < 13) = false := decide_eq_false (by simp [unsT] at hl; omega)
  rw [loopK_succ]
  simp only [s_ref5_unsafe_l3, getK_mk f0, getK_mk f3, getK_mk f4, getK_set, ↓reduceIte, Nat.reduceEqDiff, someK_n, effK_n, retK, gK_do, gK_do', gK_skip, gK_skip', gK_none, pick_mk, cond_true, cond_false, condK_tn, condK_fn, bin_eql, bin_neq, bin_lss, bin_leq, bin_gtr, bin_geq, un_not, Bool.not_true, Bool.not_false, bin_str, lenS_mk, nle_l, nle_r, nle_n, nlt_l, nlt_r, nlt_n, neq_r, neq_n, nne_r, nne_n, ext0, ext1, ext30, ext31, ext32, bin_add, bin_sub, decide_true, decide_false, e1]
  rfl
 | cons y l ih =>
  intro pre τ m he hm fr k f0 f3 f4
  obtain ⟨m, rfl⟩ : ∃ j, m = j + 1 := ⟨m - 1, by omega⟩
  have hl := congrArg List.length he
  have hl' : pre.length + (l.length + 1) = 13 := by simp [unsT] at hl; omega
  have e1 : decide (pre.length < 13) = true := decide_eq_true (by omega)
  have eu : bs [34, 40, 41, 58, 60, 62, 63, 64, 91, 92, 93, 123, 125] = unsT := rfl
  have e2 : pStrIndex [.str unsT, .int .i64 (pre.length : Int)] = some (.int .u8 (y.toNat : Int)) := strIndex_mk (by rw [he]; simp)
  have e3 : wr .i64 ((pre.length : Int) + Int.ofNat 1) = ((pre ++ [y]).length : Int) := by rw [adI (by omega)]; simp
  have ec : (y :: l).contains x = (decide (x.toNat = y.toNat) || l.contains x) := by rw [List.contains_cons, u8beq]
  rw [loopK_succ, ec]
  cases hb : decide (x.toNat = y.toNat) with
  | true =>
   simp only [s_ref5_unsafe_l3, getK_mk f0, getK_mk f3, getK_mk f4, getK_set, ↓reduceIte, Nat.reduceEqDiff, someK_n, effK_n, retK, gK_do, gK_do', gK_skip, gK_skip', gK_none, pick_mk, cond_true, cond_false, condK_tn, condK_fn, bin_eql, bin_neq, bin_lss, bin_leq, bin_gtr, bin_geq, un_not, Bool.not_true, Bool.not_false, bin_str, lenS_mk, nle_l, nle_r, nle_n, nlt_l, nlt_r, nlt_n, neq_r, neq_n, nne_r, nne_n, ext0, ext1, ext30, ext31, ext32, bin_add, bin_sub, decide_true, decide_false, e1, hx, eu, e2, hb, Bool.true_or]
   rfl
  | false =>
   simp only [s_ref5_unsafe_l3, getK_mk f0, getK_mk f3, getK_mk f4, getK_set, ↓reduceIte, Nat.reduceEqDiff, someK_n, effK_n, retK, gK_do, gK_do', gK_skip, gK_skip', gK_none, pick_mk, cond_true, cond_false, condK_tn, condK_fn, bin_eql, bin_neq, bin_lss, bin_leq, bin_gtr, bin_geq, un_not, Bool.not_true, Bool.not_false, bin_str, lenS_mk, nle_l, nle_r, nle_n, nlt_l, nlt_r, nlt_n, neq_r, neq_n, nne_r, nne_n, ext0, ext1, ext30, ext31, ext32, bin_add, bin_sub, decide_true, decide_false, e1, hx, eu, e2, hb, Bool.false_or, e3]
   exact ih (pre ++ [y]) τ m (by rw [he]; simp) (by simp at hm; omega) _ k (by simp [T.get_set]) (by simp [T.get_set]) (by simp [T.get_set])
theorem l_ref5_unsafe (c : CallK) {N : Nat} (hN : 9223372036854775807 < N) (s : Bs) (hs : s.length < 9223372036854775807) (H : Heap) : ∀ (l pre : Bs) (τ : Tape) (m : Nat), s = pre ++ l → l.length < m → ∀ (fr : T V) k, fr.get 0 = some (.str s) → fr.get 3 = some (.int .i64 (pre.length : Int)) →
  loopK (s_ref5_unsafe_l1 c N) m ⟨fr, H⟩ τ k = bif l.any unsB then k .ret ⟨(T.set .leaf 2 (.bool true)), H⟩ τ else k (.exit 0) ⟨.leaf, H⟩ τ := by
 intro l
 induction l with
 | nil =>
  intro pre τ m he hm fr k f0 f3
  obtain ⟨m, rfl⟩ : ∃ j, m = j + 1 := ⟨m - 1, by omega⟩
  have e1 : decide (pre.length < s.length) = false := decide_eq_false (by rw [he]; simp)
  rw [loopK_succ]
  simp only [s_ref5_unsafe_l1, getK_mk f0, getK_mk f3, getK_set, ↓reduceIte, Nat.reduceEqDiff, someK_n, effK_n, retK, gK_do, gK_do', gK_skip, gK_skip', gK_none, pick_mk, cond_true, cond_false, condK_tn, condK_fn, bin_eql, bin_neq, bin_lss, bin_leq, bin_gtr, bin_geq, un_not, Bool.not_true, Bool.not_false, bin_str, lenS_mk, nle_l, nle_r, nle_n, nlt_l, nlt_r, nlt_n, neq_r, neq_n, nne_r, nne_n, ext0, ext1, ext30, ext31, ext32, bin_add, bin_sub, decide_true, decide_false, e1]
  rfl
 | cons x l ih =>
  intro pre τ m he hm fr k f0 f3
  obtain ⟨m, rfl⟩ : ∃ j, m = j + 1 := ⟨m - 1, by omega⟩
  have hlt : pre.length < s.length := by rw [he]; simp
  have e1 : decide (pre.length < s.length) = true := decide_eq_true hlt
  have e2 : pStrIndex [.str s, .int .i64 (pre.length : Int)] = some (.int .u8 (x.toNat : Int)) := strIndex_mk (by rw [he]; simp)
  have e3 : wr .i64 ((pre.length : Int) + Int.ofNat 1) = ((pre ++ [x]).length : Int) := by rw [adI (by omega)]; simp
  have ea : (x :: l).any unsB = (unsB x || l.any unsB) := rfl
  have eb : unsB x = (((decide (x.toNat < 32) && !decide (x.toNat = 9)) || decide (x.toNat = 127)) || unsT.contains x) := rfl
  have go := fun fr f0 f3 => ih (pre ++ [x]) τ m (by rw [he]; simp) (by simp at hm; omega) fr k f0 f3
  have inn := fun fr k => l_ref5_unsafe_in c N s _ x e2 H unsT [] τ N rfl (by simp [unsT]; omega) fr k
  rw [loopK_succ, ea, eb]
  cases h1 : decide (x.toNat < 32) <;> cases h2 : decide (x.toNat = 9) <;> cases h3 : decide (x.toNat = 127) <;>
   simp only [s_ref5_unsafe_l1, getK_mk f0, getK_mk f3, getK_set, ↓reduceIte, Nat.reduceEqDiff, someK_n, effK_n, retK, gK_do, gK_do', gK_skip, gK_skip', gK_none, pick_mk, cond_true, cond_false, condK_tn, condK_fn, bin_eql, bin_neq, bin_lss, bin_leq, bin_gtr, bin_geq, un_not, Bool.not_true, Bool.not_false, bin_str, lenS_mk, nle_l, nle_r, nle_n, nlt_l, nlt_r, nlt_n, neq_r, neq_n, nne_r, nne_n, ext0, ext1, ext30, ext31, ext32, bin_add, bin_sub, decide_true, decide_false, e1, e2, h1, h2, h3, Bool.true_or, Bool.false_or, Bool.or_false, Bool.or_true, Bool.and_true, Bool.and_false, Bool.true_and, Bool.false_and] <;>
   first
   | rfl
   | (
    rw [inn _ _ (by simp [T.get_set]) (by simp [T.get_set]) (by simp [T.get_set])]
    cases h4 : unsT.contains x with
    | true => first | rfl | (simp only [cond_true, Bool.true_or, blockK, seqK]; done) | (simp only [cond_true, Bool.true_or, blockK, seqK]; rfl)
    | false =>
     simp only [cond_false, Bool.false_or, blockK, Nat.beq_refl, cond_true, seqK, s_ref5_unsafe_j2, getK_set, ↓reduceIte, Nat.reduceEqDiff, someK_n, effK_n, retK, gK_do, gK_do', gK_skip, gK_skip', gK_none, pick_mk, cond_true, cond_false, condK_tn, condK_fn, bin_eql, bin_neq, bin_lss, bin_leq, bin_gtr, bin_geq, un_not, Bool.not_true, Bool.not_false, bin_str, lenS_mk, nle_l, nle_r, nle_n, nlt_l, nlt_r, nlt_n, neq_r, neq_n, nne_r, nne_n, ext0, ext1, ext30, ext31, ext32, bin_add, bin_sub, decide_true, decide_false, e3]
     exact go _ (by simp [T.get_set]) (by simp [T.get_set]))
theorem s_ref5_unsafe_ret (c : CallK) {N : Nat} (hN : 9223372036854775807 < N) (s : Bs) (hs : s.length ≤ 9223372036854775806) (H : Heap) (τ : Tape) (q : KV) : s_ref5_unsafe c N (.str s) H τ q = q (.bool (unsafeB s)) H τ := by
 unfold unsafeB
 simp only [s_ref5_unsafe]
 rw [l_ref5_unsafe c hN s (by omega) H s [] τ N rfl (by omega) _ _ (by simp [T.get_set]) (by simp [T.get_set])]
 cases s.any unsB with
 | true => simp only [cond_true, blockK, seqK, endK]; rfl
 | false => simp only [cond_false, blockK, Nat.beq_refl, cond_true, seqK, s_ref5_unsafe_j0]
theorem l_ref5_language_in (c : CallK) (N : Nat) (s : Bs) (iv : V) (x : UInt8) (hx : pStrIndex [.str s, iv] = some (.int .u8 (x.toNat : Int))) (H : Heap) : ∀ (l pre : Bs) (b : Bool) (τ : Tape) (m : Nat), lngT = pre ++ l → l.length < m → ∀ (fr : T V) k, fr.get 0 = some (.str s) → fr.get 3 = some iv → fr.get 4 = some (.bool b) → fr.get 5 = some (.int .i64 (pre.length : Int)) →
  loopK (s_ref5_language_l4 c N) m ⟨fr, H⟩ τ k = k (.exit 2) ⟨(T.set (T.set (T.set .leaf 0 (.str s)) 3 iv) 4 (.bool (b || l.contains x))), H⟩ τ := by
 intro l
 induction l with
 | nil =>
  intro pre b τ m he hm fr k f0 f3 f4 f5
  obtain ⟨m, rfl⟩ : ∃ j, m = j + 1 := ⟨m - 1, by omega⟩
  have hl := congrArg List.length he
  have e1 : decide (pre.length < 7) = false := decide_eq_false (by simp [lngT] at hl; omega)
  have ec : (b || ([] : Bs).contains x) = b := by simp
  rw [loopK_succ, ec]
  simp only [s_ref5_language_l4, getK_mk f0, getK_mk f3, getK_mk f4, getK_mk f5, getK_set, ↓reduceIte, Nat.reduceEqDiff, someK_n, effK_n, retK, gK_do, gK_do', gK_skip, gK_skip', gK_none, pick_mk, cond_true, cond_false, condK_tn, condK_fn, bin_eql, bin_neq, bin_lss, bin_leq, bin_gtr, bin_geq, un_not, Bool.not_true, Bool.not_false, bin_str, lenS_mk, nle_l, nle_r, nle_n, nlt_l, nlt_r, nlt_n, neq_r, neq_n, nne_r, nne_n, ext0, ext1, ext30, ext31, ext32, bin_add, bin_sub, decide_true, decide_false, e1]
  rfl
 | cons y l ih =>
  intro pre b τ m he hm fr k f0 f3 f4 f5
  obtain ⟨m, rfl⟩ : ∃ j, m = j + 1 := ⟨m - 1, by omega⟩
  have hl := congrArg List.length he
  have hl' : pre.length + (l.length + 1) = 7 := by simp [lngT] at hl; omega
  have e1 : decide (pre.length < 7) = true := decide_eq_true (by omega)
  have eu : bs [32, 42, 44, 45, 46, 59, 61] = lngT := rfl
  have e2 : pStrIndex [.str lngT, .int .i64 (pre.length : Int)] = some (.int .u8 (y.toNat : Int)) := strIndex_mk (by rw [he]; simp)
  have e3 : wr .i64 ((pre.length : Int) + Int.ofNat 1) = ((pre ++ [y]).length : Int) := by rw [adI (by omega)]; simp
  have ec : (y :: l).contains x = (decide (x.toNat = y.toNat) || l.contains x) := by rw [List.contains_cons, u8beq]
  have hi := ih (pre ++ [y]) (b || decide (x.toNat = y.toNat)) τ m (by rw [he]; simp) (by simp at hm; omega)
  rw [Bool.or_assoc, ← ec] at hi
  rw [loopK_succ]
  cases b with
  | true =>
   simp only [s_ref5_language_l4, getK_mk f0, getK_mk f3, getK_mk f4, getK_mk f5, getK_set, ↓reduceIte, Nat.reduceEqDiff, someK_n, effK_n, retK, gK_do, gK_do', gK_skip, gK_skip', gK_none, pick_mk, cond_true, cond_false, condK_tn, condK_fn, bin_eql, bin_neq, bin_lss, bin_leq, bin_gtr, bin_geq, un_not, Bool.not_true, Bool.not_false, bin_str, lenS_mk, nle_l, nle_r, nle_n, nlt_l, nlt_r, nlt_n, neq_r, neq_n, nne_r, nne_n, ext0, ext1, ext30, ext31, ext32, bin_add, bin_sub, decide_true, decide_false, e1, hx, eu, e2, e3]
   exact hi _ k (by simp [T.get_set]) (by simp [T.get_set]) (by simp [T.get_set]) (by simp [T.get_set])
  | false =>
   simp only [s_ref5_language_l4, getK_mk f0, getK_mk f3, getK_mk f4, getK_mk f5, getK_set, ↓reduceIte, Nat.reduceEqDiff, someK_n, effK_n, retK, gK_do, gK_do', gK_skip, gK_skip', gK_none, pick_mk, cond_true, cond_false, condK_tn, condK_fn, bin_eql, bin_neq, bin_lss, bin_leq, bin_gtr, bin_geq, un_not, Bool.not_true, Bool.not_false, bin_str, lenS_mk, nle_l, nle_r, nle_n, nlt_l, nlt_r, nlt_n, neq_r, neq_n, nne_r, nne_n, ext0, ext1, ext30, ext31, ext32, bin_add, bin_sub, decide_true, decide_false, e1, hx, eu, e2, e3]
   exact hi _ k (by simp [T.get_set]) (by simp [T.get_set]) (by simp [T.get_set]) (by simp [T.get_set])
theorem l_ref5_language (c : CallK) {N : Nat} (hN : 9223372036854775807 < N) (hL : ∀ (n : Nat) H τ q, c f_ref1_Letter [.int .u8 (n : Int)] H τ q = q (.bool (letB n)) H τ) (hD : ∀ (n : Nat) H τ q, c f_ref1_Digit [.int .u8 (n : Int)] H τ q = q (.bool (digB n)) H τ) (s : Bs) (hs : s.length < 9223372036854775807) (H : Heap) : ∀ (l pre : Bs) (τ : Tape) (m : Nat), s = pre ++ l → l.length < m → ∀ (fr : T V) k, fr.get 0 = some (.str s) → fr.get 3 = some (.int .i64 (pre.length : Int)) →
  loopK (s_ref5_language_l1 c N) m ⟨fr, H⟩ τ k = bif l.all lngB then k (.exit 0) ⟨.leaf, H⟩ τ else k .ret ⟨(T.set .leaf 2 (.bool false)), H⟩ τ := by
 intro l
 induction l with
 | nil =>
  intro pre τ m he hm fr k f0 f3
  obtain ⟨m, rfl⟩ : ∃ j, m = j + 1 := ⟨m - 1, by omega⟩
  have e1 : decide (pre.length < s.length) = false := decide_eq_false (by rw [he]; simp)
  rw [loopK_succ]
  simp only [s_ref5_language_l1, getK_mk f0, getK_mk f3, getK_set, ↓reduceIte, Nat.reduceEqDiff, someK_n, effK_n, retK, gK_do, gK_do', gK_skip, gK_skip', gK_none, pick_mk, cond_true, cond_false, condK_tn, condK_fn, bin_eql, bin_neq, bin_lss, bin_leq, bin_gtr, bin_geq, un_not, Bool.not_true, Bool.not_false, bin_str, lenS_mk, nle_l, nle_r, nle_n, nlt_l, nlt_r, nlt_n, neq_r, neq_n, nne_r, nne_n, ext0, ext1, ext30, ext31, ext32, bin_add, bin_sub, decide_true, decide_false, e1]
  rfl
 | cons x l ih =>
  intro pre τ m he hm fr k f0 f3
  obtain ⟨m, rfl⟩ : ∃ j, m = j + 1 := ⟨m - 1, by omega⟩
  have hlt : pre.length < s.length := by rw [he]; simp
  have e1 : decide (pre.length < s.length) = true := decide_eq_true hlt
  have e2 : pStrIndex [.str s, .int .i64 (pre.length : Int)] = some (.int .u8 (x.toNat : Int)) := strIndex_mk (by rw [he]; simp)
  have e3 : wr .i64 ((pre.length : Int) + Int.ofNat 1) = ((pre ++ [x]).length : Int) := by rw [adI (by omega)]; simp
  have ea : (x :: l).all lngB = (lngB x && l.all lngB) := rfl
  have eb : lngB x = ((letB x.toNat || digB x.toNat) || lngT.contains x) := rfl
  have go := fun fr f0 f3 => ih (pre ++ [x]) τ m (by rw [he]; simp) (by simp at hm; omega) fr k f0 f3
  have inn := fun b fr k => l_ref5_language_in c N s _ x e2 H lngT [] b τ N rfl (by simp [lngT]; omega) fr k
  rw [loopK_succ, ea]
  have fin : ∀ b : Bool, b = (letB x.toNat || digB x.toNat) → ∀ (fr : T V), fr.get 0 = some (.str s) → fr.get 3 = some (.int .i64 (pre.length : Int)) → fr.get 4 = some (.bool b) → fr.get 5 = some (.int .i64 (Int.ofNat 0)) →
    loopK (s_ref5_language_l4 c N) N ⟨fr, H⟩ τ (blockK 2 (seqK (s_ref5_language_j3 c N (seqK (fun st τ => loopK (s_ref5_language_l1 c N) m st τ k) k)) (blockK 1 (seqK (s_ref5_language_j2 c N (seqK (fun st τ => loopK (s_ref5_language_l1 c N) m st τ k) k)) (seqK (fun st τ => loopK (s_ref5_language_l1 c N) m st τ k) k))))) = bif lngB x && l.all lngB then k (.exit 0) ⟨.leaf, H⟩ τ else k .ret ⟨(T.set .leaf 2 (.bool false)), H⟩ τ := by
   intro b hb fr f0 f3 f4 f5
   rw [inn b _ _ f0 f3 f4 f5]
   rw [eb, ← hb]
   cases (b || lngT.contains x) with
   | true =>
    simp only [blockK, Nat.beq_refl, cond_true, seqK, s_ref5_language_j3, s_ref5_language_j2, getK_set, ↓reduceIte, Nat.reduceEqDiff, someK_n, effK_n, retK, gK_do, gK_do', gK_skip, gK_skip', gK_none, pick_mk, cond_true, cond_false, condK_tn, condK_fn, bin_eql, bin_neq, bin_lss, bin_leq, bin_gtr, bin_geq, un_not, Bool.not_true, Bool.not_false, bin_str, lenS_mk, nle_l, nle_r, nle_n, nlt_l, nlt_r, nlt_n, neq_r, neq_n, nne_r, nne_n, ext0, ext1, ext30, ext31, ext32, bin_add, bin_sub, decide_true, decide_false, e3, Bool.true_and]
    exact go _ (by simp [T.get_set]) (by simp [T.get_set])
   | false =>
    simp only [blockK, Nat.beq_refl, cond_true, seqK, s_ref5_language_j3, s_ref5_language_j2, getK_set, ↓reduceIte, Nat.reduceEqDiff, someK_n, effK_n, retK, gK_do, gK_do', gK_skip, gK_skip', gK_none, pick_mk, cond_true, cond_false, condK_tn, condK_fn, bin_eql, bin_neq, bin_lss, bin_leq, bin_gtr, bin_geq, un_not, Bool.not_true, Bool.not_false, bin_str, lenS_mk, nle_l, nle_r, nle_n, nlt_l, nlt_r, nlt_n, neq_r, neq_n, nne_r, nne_n, ext0, ext1, ext30, ext31, ext32, bin_add, bin_sub, decide_true, decide_false, e3, Bool.false_and]
  cases h1 : letB x.toNat with
  | true =>
   simp only [s_ref5_language_l1, getK_mk f0, getK_mk f3, getK_set, ↓reduceIte, Nat.reduceEqDiff, someK_n, effK_n, retK, gK_do, gK_do', gK_skip, gK_skip', gK_none, pick_mk, cond_true, cond_false, condK_tn, condK_fn, bin_eql, bin_neq, bin_lss, bin_leq, bin_gtr, bin_geq, un_not, Bool.not_true, Bool.not_false, bin_str, lenS_mk, nle_l, nle_r, nle_n, nlt_l, nlt_r, nlt_n, neq_r, neq_n, nne_r, nne_n, ext0, ext1, ext30, ext31, ext32, bin_add, bin_sub, decide_true, decide_false, e1, e2, hL, h1]
   exact fin true (by rw [h1]; rfl) _ (by simp [T.get_set]) (by simp [T.get_set]) (by simp [T.get_set]) (by simp [T.get_set])
  | false =>
   simp only [s_ref5_language_l1, getK_mk f0, getK_mk f3, getK_set, ↓reduceIte, Nat.reduceEqDiff, someK_n, effK_n, retK, gK_do, gK_do', gK_skip, gK_skip', gK_none, pick_mk, cond_true, cond_false, condK_tn, condK_fn, bin_eql, bin_neq, bin_lss, bin_leq, bin_gtr, bin_geq, un_not, Bool.not_true, Bool.not_false, bin_str, lenS_mk, nle_l, nle_r, nle_n, nlt_l, nlt_r, nlt_n, neq_r, neq_n, nne_r, nne_n, ext0, ext1, ext30, ext31, ext32, bin_add, bin_sub, decide_true, decide_false, e1, e2, hL, h1, hD]
   exact fin (digB x.toNat) (by rw [h1]; rfl) _ (by simp [T.get_set]) (by simp [T.get_set]) (by simp [T.get_set]) (by simp [T.get_set])
theorem s_ref5_language_ret (c : CallK) {N : Nat} (hN : 9223372036854775807 < N) (hL : ∀ (n : Nat) H τ q, c f_ref1_Letter [.int .u8 (n : Int)] H τ q = q (.bool (letB n)) H τ) (hD : ∀ (n : Nat) H τ q, c f_ref1_Digit [.int .u8 (n : Int)] H τ q = q (.bool (digB n)) H τ) (s : Bs) (hs : s.length ≤ 9223372036854775806) (H : Heap) (τ : Tape) (q : KV) : s_ref5_language c N (.str s) H τ q = q (.bool (tongB s)) H τ := by
 unfold tongB
 simp only [s_ref5_language]
 rw [l_ref5_language c hN hL hD s (by omega) H s [] τ N rfl (by omega) _ _ (by simp [T.get_set]) (by simp [T.get_set])]
 cases s.all lngB with
 | false => simp only [cond_false, blockK, seqK, endK]; rfl
 | true => simp only [blockK, Nat.beq_refl, cond_true, seqK, s_ref5_language_j0]
def partA (v : Bs) : Bs := match cutB 59 v with | some (a, _) => a | none => v
def essB (e : Bs) : Bool := (e == [97, 112, 112, 108, 105, 99, 97, 116, 105, 111, 110, 47, 120, 45, 119, 119, 119, 45, 102, 111, 114, 109, 45, 117, 114, 108, 101, 110, 99, 111, 100, 101, 100]) || ((e == [109, 117, 108, 116, 105, 112, 97, 114, 116, 47, 102, 111, 114, 109, 45, 100, 97, 116, 97]) || (e == [116, 101, 120, 116, 47, 112, 108, 97, 105, 110]))
def safeB (n v : Bs) : Bool :=
 bif decide (128 < v.length) then false else bif lower n == [97, 99, 99, 101, 112, 116] then !unsafeB v else bif (lower n == [97, 99, 99, 101, 112, 116, 45, 108, 97, 110, 103, 117, 97, 103, 101]) || (lower n == [99, 111, 110, 116, 101, 110, 116, 45, 108, 97, 110, 103, 117, 97, 103, 101]) then tongB v
 else bif lower n == [99, 111, 110, 116, 101, 110, 116, 45, 116, 121, 112, 101] then !unsafeB v && essB (lower (strip (partA v))) else bif lower n == [114, 97, 110, 103, 101] then (rng v).2.2 && decide (0 ≤ (rng v).1) else false
abbrev BoolOk (c : CallK) (f : Nat) (g : Bs → Bool) : Prop := ∀ (s : Bs), s.length ≤ 9223372036854775806 → ∀ H τ q, c f [.str s] H τ q = q (.bool (g s)) H τ
theorem partA_len (v : Bs) : (partA v).length ≤ v.length := by
 unfold partA
 split
 ·rename_i a b h; have := cutB_len 59 v a b h; omega
 ·exact Nat.le_refl _
theorem strip_len (v : Bs) : (strip v).length ≤ v.length := trimB_length _ _
theorem partV_A (v : Bs) : ∃ b d, partV 59 v = .tup [.str (partA v), b, d] := by
 unfold partV partA
 cases cutB 59 v with
 | none => exact ⟨_, _, rfl⟩
 | some ab => obtain ⟨a, b⟩ := ab; exact ⟨_, _, rfl⟩
set_option maxHeartbeats 2000000 in
theorem s_headers_Safe_ret (c : CallK) (N : Nat) (hL : NLowOk c) (hU : BoolOk c f_headers_unsafe unsafeB) (hT : BoolOk c f_headers_tongues tongB) (hC : RCutOk c) (hS : NStripOk c) (hR : RngOk c f_headers_Range) (n v : Bs) (hn : n.length ≤ 140737488355328) (H : Heap) (τ : Tape) (q : KV) : s_headers_Safe c N (.str n) (.str v) H τ q = q (.bool (safeB n v)) H τ := by
 unfold safeB
 cases h0 : decide (128 < v.length) with
 | true => simp only [s_headers_Safe, getK_set, ↓reduceIte, Nat.reduceEqDiff, someK_n, effK_n, retK, gK_do, gK_do', gK_skip, gK_skip', gK_none, pick_mk, cond_true, cond_false, condK_tn, condK_fn, bin_eql, bin_neq, bin_lss, bin_leq, bin_gtr, bin_geq, un_not, Bool.not_true, Bool.not_false, bin_str, lenS_mk, nle_l, nle_r, nle_n, nlt_l, nlt_r, nlt_n, neq_r, neq_n, nne_r, nne_n, ext0, ext1, ext30, ext31, ext32, bin_add, bin_sub, decide_true, decide_false, h0]
 | false =>
  have hv : v.length ≤ 128 := by have := of_decide_eq_false h0; omega
  have k1 := hL n hn
  generalize lower n = l at k1 ⊢
  have e1 : bs [97, 99, 99, 101, 112, 116] = [97, 99, 99, 101, 112, 116] := rfl
  have e2 : bs [97, 99, 99, 101, 112, 116, 45, 108, 97, 110, 103, 117, 97, 103, 101] = [97, 99, 99, 101, 112, 116, 45, 108, 97, 110, 103, 117, 97, 103, 101] := rfl
  have e3 : bs [99, 111, 110, 116, 101, 110, 116, 45, 108, 97, 110, 103, 117, 97, 103, 101] = [99, 111, 110, 116, 101, 110, 116, 45, 108, 97, 110, 103, 117, 97, 103, 101] := rfl
  have e4 : bs [99, 111, 110, 116, 101, 110, 116, 45, 116, 121, 112, 101] = [99, 111, 110, 116, 101, 110, 116, 45, 116, 121, 112, 101] := rfl
  have e5 : bs [114, 97, 110, 103, 101] = [114, 97, 110, 103, 101] := rfl
  have e6 : bs [97, 112, 112, 108, 105, 99, 97, 116, 105, 111, 110, 47, 120, 45, 119, 119, 119, 45, 102, 111, 114, 109, 45, 117, 114, 108, 101, 110, 99, 111, 100, 101, 100] = [97, 112, 112, 108, 105, 99, 97, 116, 105, 111, 110, 47, 120, 45, 119, 119, 119, 45, 102, 111, 114, 109, 45, 117, 114, 108, 101, 110, 99, 111, 100, 101, 100] := rfl
  have e7 : bs [109, 117, 108, 116, 105, 112, 97, 114, 116, 47, 102, 111, 114, 109, 45, 100, 97, 116, 97] = [109, 117, 108, 116, 105, 112, 97, 114, 116, 47, 102, 111, 114, 109, 45, 100, 97, 116, 97] := rfl
  have e8 : bs [116, 101, 120, 116, 47, 112, 108, 97, 105, 110] = [116, 101, 120, 116, 47, 112, 108, 97, 105, 110] := rfl
  have e9 : bs [59] = [59] := rfl
  have ku := hU v (by omega)
  have kt := hT v (by omega)
  have kc := hC v 59 (by omega)
  obtain ⟨pb, pd, hp⟩ := partV_A v
  rw [hp] at kc
  have hl := partA_len v
  have hl2 := strip_len (partA v)
  have ks := hS (partA v) (by omega)
  have kl := hL (strip (partA v)) (by omega)
  have kr := hR v (by omega)
  have zr : decide (Int.ofNat 0 ≤ (rng v).1) = decide (0 ≤ (rng v).1) := rfl
  cases h1 : (l == ([97, 99, 99, 101, 112, 116] : Bs)) with
  | true => simp only [s_headers_Safe, getK_set, ↓reduceIte, Nat.reduceEqDiff, someK_n, effK_n, retK, gK_do, gK_do', gK_skip, gK_skip', gK_none, pick_mk, cond_true, cond_false, condK_tn, condK_fn, bin_eql, bin_neq, bin_lss, bin_leq, bin_gtr, bin_geq, un_not, Bool.not_true, Bool.not_false, bin_str, lenS_mk, nle_l, nle_r, nle_n, nlt_l, nlt_r, nlt_n, neq_r, neq_n, nne_r, nne_n, ext0, ext1, ext30, ext31, ext32, bin_add, bin_sub, decide_true, decide_false, str_eql, h0, k1, e1, h1, ku]
  | false =>
   cases h2 : (l == ([97, 99, 99, 101, 112, 116, 45, 108, 97, 110, 103, 117, 97, 103, 101] : Bs)) with
   | true => simp only [s_headers_Safe, s_headers_Safe_j1, getK_set, ↓reduceIte, Nat.reduceEqDiff, someK_n, effK_n, retK, gK_do, gK_do', gK_skip, gK_skip', gK_none, pick_mk, cond_true, cond_false, condK_tn, condK_fn, bin_eql, bin_neq, bin_lss, bin_leq, bin_gtr, bin_geq, un_not, Bool.not_true, Bool.not_false, bin_str, lenS_mk, nle_l, nle_r, nle_n, nlt_l, nlt_r, nlt_n, neq_r, neq_n, nne_r, nne_n, ext0, ext1, ext30, ext31, ext32, bin_add, bin_sub, decide_true, decide_false, str_eql, h0, k1, e1, h1, e2, h2, kt, Bool.true_or]
   | false =>
    cases h3 : (l == ([99, 111, 110, 116, 101, 110, 116, 45, 108, 97, 110, 103, 117, 97, 103, 101] : Bs)) with
    | true => simp only [s_headers_Safe, s_headers_Safe_j1, getK_set, ↓reduceIte, Nat.reduceEqDiff, someK_n, effK_n, retK, gK_do, gK_do', gK_skip, gK_skip', gK_none, pick_mk, cond_true, cond_false, condK_tn, condK_fn, bin_eql, bin_neq, bin_lss, bin_leq, bin_gtr, bin_geq, un_not, Bool.not_true, Bool.not_false, bin_str, lenS_mk, nle_l, nle_r, nle_n, nlt_l, nlt_r, nlt_n, neq_r, neq_n, nne_r, nne_n, ext0, ext1, ext30, ext31, ext32, bin_add, bin_sub, decide_true, decide_false, str_eql, h0, k1, e1, h1, e2, h2, e3, h3, kt, Bool.false_or]
    | false =>
     cases h4 : (l == ([99, 111, 110, 116, 101, 110, 116, 45, 116, 121, 112, 101] : Bs)) with
     | true =>
      unfold essB
      generalize lower (strip (partA v)) = w at kl ⊢
      cases h6 : (w == ([97, 112, 112, 108, 105, 99, 97, 116, 105, 111, 110, 47, 120, 45, 119, 119, 119, 45, 102, 111, 114, 109, 45, 117, 114, 108, 101, 110, 99, 111, 100, 101, 100] : Bs)) <;> cases h7 : (w == ([109, 117, 108, 116, 105, 112, 97, 114, 116, 47, 102, 111, 114, 109, 45, 100, 97, 116, 97] : Bs)) <;> cases h8 : (w == ([116, 101, 120, 116, 47, 112, 108, 97, 105, 110] : Bs)) <;>
       simp only [s_headers_Safe, s_headers_Safe_j1, s_headers_Safe_j2, s_headers_Safe_j0, getK_set, ↓reduceIte, Nat.reduceEqDiff, someK_n, effK_n, retK, gK_do, gK_do', gK_skip, gK_skip', gK_none, pick_mk, cond_true, cond_false, condK_tn, condK_fn, bin_eql, bin_neq, bin_lss, bin_leq, bin_gtr, bin_geq, un_not, Bool.not_true, Bool.not_false, bin_str, lenS_mk, nle_l, nle_r, nle_n, nlt_l, nlt_r, nlt_n, neq_r, neq_n, nne_r, nne_n, ext0, ext1, ext30, ext31, ext32, bin_add, bin_sub, decide_true, decide_false, str_eql, h0, k1, e1, h1, e2, h2, e3, h3, e4, h4, e9, kc, ks, kl, e6, h6, e7, h7, e8, h8, ku, Bool.true_or, Bool.false_or, Bool.and_true, Bool.and_false]
     | false =>
      cases h5 : (l == ([114, 97, 110, 103, 101] : Bs)) with
      | true =>
       cases hr : (rng v).2.2 <;> simp only [s_headers_Safe, s_headers_Safe_j1, getK_set, ↓reduceIte, Nat.reduceEqDiff, someK_n, effK_n, retK, gK_do, gK_do', gK_skip, gK_skip', gK_none, pick_mk, cond_true, cond_false, condK_tn, condK_fn, bin_eql, bin_neq, bin_lss, bin_leq, bin_gtr, bin_geq, un_not, Bool.not_true, Bool.not_false, bin_str, lenS_mk, nle_l, nle_r, nle_n, nlt_l, nlt_r, nlt_n, neq_r, neq_n, nne_r, nne_n, ext0, ext1, ext30, ext31, ext32, bin_add, bin_sub, decide_true, decide_false, str_eql, h0, k1, e1, h1, e2, h2, e3, h3, e4, h4, e5, h5, kr, hr, zr, Bool.true_and, Bool.false_and, Bool.false_or]
      | false => simp only [s_headers_Safe, s_headers_Safe_j1, s_headers_Safe_j0, getK_set, ↓reduceIte, Nat.reduceEqDiff, someK_n, effK_n, retK, gK_do, gK_do', gK_skip, gK_skip', gK_none, pick_mk, cond_true, cond_false, condK_tn, condK_fn, bin_eql, bin_neq, bin_lss, bin_leq, bin_gtr, bin_geq, un_not, Bool.not_true, Bool.not_false, bin_str, lenS_mk, nle_l, nle_r, nle_n, nlt_l, nlt_r, nlt_n, neq_r, neq_n, nne_r, nne_n, ext0, ext1, ext30, ext31, ext32, bin_add, bin_sub, decide_true, decide_false, str_eql, h0, k1, e1, h1, e2, h2, e3, h3, e4, h4, e5, h5, Bool.false_or]
set_option maxHeartbeats 2000000 in
theorem s_ref5_Safe_ret (c : CallK) (N : Nat) (hL : RLowOk c) (hU : BoolOk c f_ref5_unsafe unsafeB) (hT : BoolOk c f_ref5_language tongB) (hC : PartOk c) (hS : RStripOk c) (hR : RngOk c f_ref5_Range) (n v : Bs) (hn : n.length ≤ 140737488355328) (H : Heap) (τ : Tape) (q : KV) : s_ref5_Safe c N (.str n) (.str v) H τ q = q (.bool (safeB n v)) H τ := by
 unfold safeB
 cases h0 : decide (128 < v.length) with
 | true => simp only [s_ref5_Safe, getK_set, ↓reduceIte, Nat.reduceEqDiff, someK_n, effK_n, retK, gK_do, gK_do', gK_skip, gK_skip', gK_none, pick_mk, cond_true, cond_false, condK_tn, condK_fn, bin_eql, bin_neq, bin_lss, bin_leq, bin_gtr, bin_geq, un_not, Bool.not_true, Bool.not_false, bin_str, lenS_mk, nle_l, nle_r, nle_n, nlt_l, nlt_r, nlt_n, neq_r, neq_n, nne_r, nne_n, ext0, ext1, ext30, ext31, ext32, bin_add, bin_sub, decide_true, decide_false, h0]
 | false =>
  have hv : v.length ≤ 128 := by have := of_decide_eq_false h0; omega
  have k1 := hL n hn
  generalize lower n = l at k1 ⊢
  have e1 : bs [97, 99, 99, 101, 112, 116] = [97, 99, 99, 101, 112, 116] := rfl
  have e2 : bs [97, 99, 99, 101, 112, 116, 45, 108, 97, 110, 103, 117, 97, 103, 101] = [97, 99, 99, 101, 112, 116, 45, 108, 97, 110, 103, 117, 97, 103, 101] := rfl
  have e3 : bs [99, 111, 110, 116, 101, 110, 116, 45, 108, 97, 110, 103, 117, 97, 103, 101] = [99, 111, 110, 116, 101, 110, 116, 45, 108, 97, 110, 103, 117, 97, 103, 101] := rfl
  have e4 : bs [99, 111, 110, 116, 101, 110, 116, 45, 116, 121, 112, 101] = [99, 111, 110, 116, 101, 110, 116, 45, 116, 121, 112, 101] := rfl
  have e5 : bs [114, 97, 110, 103, 101] = [114, 97, 110, 103, 101] := rfl
  have e6 : bs [97, 112, 112, 108, 105, 99, 97, 116, 105, 111, 110, 47, 120, 45, 119, 119, 119, 45, 102, 111, 114, 109, 45, 117, 114, 108, 101, 110, 99, 111, 100, 101, 100] = [97, 112, 112, 108, 105, 99, 97, 116, 105, 111, 110, 47, 120, 45, 119, 119, 119, 45, 102, 111, 114, 109, 45, 117, 114, 108, 101, 110, 99, 111, 100, 101, 100] := rfl
  have e7 : bs [109, 117, 108, 116, 105, 112, 97, 114, 116, 47, 102, 111, 114, 109, 45, 100, 97, 116, 97] = [109, 117, 108, 116, 105, 112, 97, 114, 116, 47, 102, 111, 114, 109, 45, 100, 97, 116, 97] := rfl
  have e8 : bs [116, 101, 120, 116, 47, 112, 108, 97, 105, 110] = [116, 101, 120, 116, 47, 112, 108, 97, 105, 110] := rfl
  have ku := hU v (by omega)
  have kt := hT v (by omega)
  have kc := hC v 59 (by omega) (by omega)
  have e9 : UInt8.ofNat 59 = 59 := rfl
  rw [e9] at kc
  obtain ⟨pb, pd, hp⟩ := partV_A v
  rw [hp] at kc
  have hl := partA_len v
  have hl2 := strip_len (partA v)
  have ks := hS (partA v) (by omega)
  have kl := hL (strip (partA v)) (by omega)
  have kr := hR v (by omega)
  have zr : decide (Int.ofNat 0 ≤ (rng v).1) = decide (0 ≤ (rng v).1) := rfl
  cases h1 : (l == ([97, 99, 99, 101, 112, 116] : Bs)) with
  | true => simp only [s_ref5_Safe, getK_set, ↓reduceIte, Nat.reduceEqDiff, someK_n, effK_n, retK, gK_do, gK_do', gK_skip, gK_skip', gK_none, pick_mk, cond_true, cond_false, condK_tn, condK_fn, bin_eql, bin_neq, bin_lss, bin_leq, bin_gtr, bin_geq, un_not, Bool.not_true, Bool.not_false, bin_str, lenS_mk, nle_l, nle_r, nle_n, nlt_l, nlt_r, nlt_n, neq_r, neq_n, nne_r, nne_n, ext0, ext1, ext30, ext31, ext32, bin_add, bin_sub, decide_true, decide_false, str_eql, h0, k1, e1, h1, ku]
  | false =>
   cases h2 : (l == ([97, 99, 99, 101, 112, 116, 45, 108, 97, 110, 103, 117, 97, 103, 101] : Bs)) with
   | true => simp only [s_ref5_Safe, s_ref5_Safe_j1, getK_set, ↓reduceIte, Nat.reduceEqDiff, someK_n, effK_n, retK, gK_do, gK_do', gK_skip, gK_skip', gK_none, pick_mk, cond_true, cond_false, condK_tn, condK_fn, bin_eql, bin_neq, bin_lss, bin_leq, bin_gtr, bin_geq, un_not, Bool.not_true, Bool.not_false, bin_str, lenS_mk, nle_l, nle_r, nle_n, nlt_l, nlt_r, nlt_n, neq_r, neq_n, nne_r, nne_n, ext0, ext1, ext30, ext31, ext32, bin_add, bin_sub, decide_true, decide_false, str_eql, h0, k1, e1, h1, e2, h2, kt, Bool.true_or]
   | false =>
    cases h3 : (l == ([99, 111, 110, 116, 101, 110, 116, 45, 108, 97, 110, 103, 117, 97, 103, 101] : Bs)) with
    | true => simp only [s_ref5_Safe, s_ref5_Safe_j1, getK_set, ↓reduceIte, Nat.reduceEqDiff, someK_n, effK_n, retK, gK_do, gK_do', gK_skip, gK_skip', gK_none, pick_mk, cond_true, cond_false, condK_tn, condK_fn, bin_eql, bin_neq, bin_lss, bin_leq, bin_gtr, bin_geq, un_not, Bool.not_true, Bool.not_false, bin_str, lenS_mk, nle_l, nle_r, nle_n, nlt_l, nlt_r, nlt_n, neq_r, neq_n, nne_r, nne_n, ext0, ext1, ext30, ext31, ext32, bin_add, bin_sub, decide_true, decide_false, str_eql, h0, k1, e1, h1, e2, h2, e3, h3, kt, Bool.false_or]
    | false =>
     cases h4 : (l == ([99, 111, 110, 116, 101, 110, 116, 45, 116, 121, 112, 101] : Bs)) with
     | true =>
      unfold essB
      generalize lower (strip (partA v)) = w at kl ⊢
      cases hu : unsafeB v <;> cases h6 : (w == ([97, 112, 112, 108, 105, 99, 97, 116, 105, 111, 110, 47, 120, 45, 119, 119, 119, 45, 102, 111, 114, 109, 45, 117, 114, 108, 101, 110, 99, 111, 100, 101, 100] : Bs)) <;> cases h7 : (w == ([109, 117, 108, 116, 105, 112, 97, 114, 116, 47, 102, 111, 114, 109, 45, 100, 97, 116, 97] : Bs)) <;> cases h8 : (w == ([116, 101, 120, 116, 47, 112, 108, 97, 105, 110] : Bs)) <;>
       simp only [s_ref5_Safe, s_ref5_Safe_j1, s_ref5_Safe_j0, getK_set, ↓reduceIte, Nat.reduceEqDiff, someK_n, effK_n, retK, gK_do, gK_do', gK_skip, gK_skip', gK_none, pick_mk, cond_true, cond_false, condK_tn, condK_fn, bin_eql, bin_neq, bin_lss, bin_leq, bin_gtr, bin_geq, un_not, Bool.not_true, Bool.not_false, bin_str, lenS_mk, nle_l, nle_r, nle_n, nlt_l, nlt_r, nlt_n, neq_r, neq_n, nne_r, nne_n, ext0, ext1, ext30, ext31, ext32, bin_add, bin_sub, decide_true, decide_false, str_eql, h0, k1, e1, h1, e2, h2, e3, h3, e4, h4, kc, ks, kl, e6, h6, e7, h7, e8, h8, ku, hu, Bool.true_or, Bool.false_or, Bool.and_true, Bool.and_false, Bool.true_and, Bool.false_and]
     | false =>
      cases h5 : (l == ([114, 97, 110, 103, 101] : Bs)) with
      | true =>
       cases hr : (rng v).2.2 <;> simp only [s_ref5_Safe, s_ref5_Safe_j1, getK_set, ↓reduceIte, Nat.reduceEqDiff, someK_n, effK_n, retK, gK_do, gK_do', gK_skip, gK_skip', gK_none, pick_mk, cond_true, cond_false, condK_tn, condK_fn, bin_eql, bin_neq, bin_lss, bin_leq, bin_gtr, bin_geq, un_not, Bool.not_true, Bool.not_false, bin_str, lenS_mk, nle_l, nle_r, nle_n, nlt_l, nlt_r, nlt_n, neq_r, neq_n, nne_r, nne_n, ext0, ext1, ext30, ext31, ext32, bin_add, bin_sub, decide_true, decide_false, str_eql, h0, k1, e1, h1, e2, h2, e3, h3, e4, h4, e5, h5, kr, hr, zr, Bool.true_and, Bool.false_and, Bool.false_or]
      | false => simp only [s_ref5_Safe, s_ref5_Safe_j1, s_ref5_Safe_j0, getK_set, ↓reduceIte, Nat.reduceEqDiff, someK_n, effK_n, retK, gK_do, gK_do', gK_skip, gK_skip', gK_none, pick_mk, cond_true, cond_false, condK_tn, condK_fn, bin_eql, bin_neq, bin_lss, bin_leq, bin_gtr, bin_geq, un_not, Bool.not_true, Bool.not_false, bin_str, lenS_mk, nle_l, nle_r, nle_n, nlt_l, nlt_r, nlt_n, neq_r, neq_n, nne_r, nne_n, ext0, ext1, ext30, ext31, ext32, bin_add, bin_sub, decide_true, decide_false, str_eql, h0, k1, e1, h1, e2, h2, e3, h3, e4, h4, e5, h5, Bool.false_or]
abbrev SafePre : List V → Prop | [.str n, .str _] => n.length ≤ 140737488355328 | _ => False
abbrev SafeG : List V → V | [.str n, .str v] => .bool (safeB n v) | _ => .tup []
abbrev SafeR := RV SafePre SafeG
noncomputable abbrev rw_HSafe : List Row := [Row.fn f_headers_Safe fn_headers_Safe e_headers_Safe, Row.fn f_headers_unsafe fn_headers_unsafe e_headers_unsafe, Row.fn f_headers_tongues fn_headers_tongues e_headers_tongues, Row.fn f_strings_IndexByte fn_strings_IndexByte e_strings_IndexByte, Row.prim f_stringslite_IndexByte idxP, Row.prim f_infra_Lower (outP LowR), Row.prim f_strings_Cut (outP CutR), Row.prim f_infra_Strip (outP RStripR), Row.prim f_headers_Range (outP RngR)]
theorem p_headers_Safe : ∀ base w0, PrimOk PG base w0 f_headers_Safe (outP SafeR) := by
 obtain ⟨N, hN⟩ := someN
 refine primRV (N := N) (l := rw_HSafe) (.fn ok_headers_Safe e_headers_Safe_ok (.fn ok_headers_unsafe e_headers_unsafe_ok (.fn ok_headers_tongues e_headers_tongues_ok (.fn ok_strings_IndexByte e_strings_IndexByte_ok (.prim idxP_ok (.prim p_infra_Lower (.prim p_strings_Cut (.prim p_infra_Strip (.prim p_headers_Range (.nil _)))))))))) 4 _ (fun vs H h => ?_) (fun vs h H hw τ => ?_)
 ·unfold SafePre at h; split at h
  ·trivial
  ·exact h.elim
 ·have hI : Idx70 (CR rw_HSafe N 2) := fun s x H τ q => s_strings_IndexByte_ret (CR rw_HSafe N 1) N (k_idx fun _ _ _ _ => rfl) s x H τ q
  unfold SafePre at h; split at h
  ·exact ⟨H, τ, Gr.refl hw, fun q => s_headers_Safe_ret (CR rw_HSafe N 3) N (k_infra_Lower fun _ _ _ _ => rfl) (fun s hs H τ q => s_headers_unsafe_ret (CR rw_HSafe N 2) hN hI s hs H τ q) (fun s hs H τ q => s_headers_tongues_ret (CR rw_HSafe N 2) hN hI s hs H τ q) (k_strings_Cut fun _ _ _ _ => rfl) (k_infra_Strip fun _ _ _ _ => rfl) (k_Range fun _ _ _ _ => rfl) _ _ h H τ q⟩
  ·exact h.elim
noncomputable abbrev rw_RSafe : List Row := [Row.fn f_ref5_Safe fn_ref5_Safe e_ref5_Safe, Row.fn f_ref5_unsafe fn_ref5_unsafe e_ref5_unsafe, Row.fn f_ref5_language fn_ref5_language e_ref5_language, Row.fn f_ref1_Letter fn_ref1_Letter e_ref1_Letter, Row.fn f_ref1_Digit fn_ref1_Digit e_ref1_Digit, Row.prim f_ref1_Lower (outP LowR), Row.prim f_ref1_Part (outP PartR), Row.prim f_ref1_Strip (outP RStripR), Row.prim f_ref5_Range (outP RngR)]
theorem p_ref5_Safe : ∀ base w0, PrimOk PG base w0 f_ref5_Safe (outP SafeR) := by
 obtain ⟨N, hN⟩ := someN
 refine primRV (N := N) (l := rw_RSafe) (.fn ok_ref5_Safe e_ref5_Safe_ok (.fn ok_ref5_unsafe e_ref5_unsafe_ok (.fn ok_ref5_language e_ref5_language_ok (.fn ok_ref1_Letter e_ref1_Letter_ok (.fn ok_ref1_Digit e_ref1_Digit_ok (.prim p_ref1_Lower (.prim p_ref1_Part (.prim p_ref1_Strip (.prim p_ref5_Range (.nil _)))))))))) 3 _ (fun vs H h => ?_) (fun vs h H hw τ => ?_)
 ·unfold SafePre at h; split at h
  ·trivial
  ·exact h.elim
 ·unfold SafePre at h; split at h
  ·exact ⟨H, τ, Gr.refl hw, fun q => s_ref5_Safe_ret (CR rw_RSafe N 2) N (k_ref1_Lower fun _ _ _ _ => rfl) (fun s hs H τ q => s_ref5_unsafe_ret (CR rw_RSafe N 1) hN s hs H τ q) (fun s hs H τ q => s_ref5_language_ret (CR rw_RSafe N 1) hN (fun n H τ q => s_ref1_Letter_ret (CR rw_RSafe N 0) N n H τ q) (fun n H τ q => s_ref1_Digit_ret (CR rw_RSafe N 0) N n H τ q) s hs H τ q) (k_ref1_Part fun _ _ _ _ => rfl) (k_ref1_Strip fun _ _ _ _ => rfl) (k_Range fun _ _ _ _ => rfl) _ _ h H τ q⟩
  ·exact h.elim
theorem k_Safe {c : CallK} {f : Nat} (h : IsP c f SafeR) (n v : Bs) (hn : n.length ≤ 140737488355328) (H : Heap) (τ : Tape) (q : KV) : c f [.str n, .str v] H τ q = q (.bool (safeB n v)) H τ := RV_call h (vs := [.str n, .str v]) hn H τ q
end Go.Am.X

