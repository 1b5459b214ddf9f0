/- The abstract machine, printed functions of the program, and what they are shown to be. -/
import Derived.Test.YtpigmhokjbbffaaDoorHNUL3
namespace Go.Am.X
set_option linter.unusedSimpArgs false
set_option linter.unusedVariables false
set_option linter.unusedSectionVars false
set_option maxRecDepth 100000
theorem idx_has (x : UInt8) (l : Bs) : decide (Int.ofNat 0 ≤ idxB x.toNat l 0) = l.contains x := by
  by_cases h : l.contains x = true
  · rw [h]; exact decide_eq_true (idxB_some _ _ _ ⟨x, List.contains_iff_mem.1 h, rfl⟩)
  · have h' : l.contains x = false := by cases e : l.contains x; rfl; exact absurd e h
    rw [h', idxB_none _ _ _ (fun y hy e => h (List.contains_iff_mem.2 (by rw [← UInt8.toNat_inj.1 e]; exact hy)))]; rfl
theorem idx_hasnt (x : UInt8) (l : Bs) : decide (idxB x.toNat l 0 < Int.ofNat 0) = !l.contains x := by
  rw [← idx_has]
  by_cases h : Int.ofNat 0 ≤ idxB x.toNat l 0
  · rw [decide_eq_true h]; exact decide_eq_false (by omega)
  · rw [decide_eq_false h]; exact decide_eq_true (by omega)
theorem k_idx {c : CallK} (h : ∀ vs H τ q, c f_stringslite_IndexByte vs H τ q = effK (idxP vs H τ) q) (s : Bs) (x : UInt8) (H : Heap) (τ : Tape) (q : KV) : c f_stringslite_IndexByte [.str s, .int .u8 (x.toNat : Int)] H τ q = q (.int .i64 (idxB x.toNat s 0)) H τ := by
  have e4 : x.toNat % 256 = x.toNat := Nat.mod_eq_of_lt (u8_lt x)
  rw [h]
  show effK (idxP [.str s, .int .u8 (.ofNat x.toNat)] H τ) q = _
  simp only [idxP, e4, effK_n]
def unsT : Bs := [34, 40, 41, 58, 60, 62, 63, 64, 91, 92, 93, 123, 125]
def unsB (x : UInt8) : Bool := ((decide (x.toNat < 32) && !decide (x.toNat = 9)) || decide (x.toNat = 127)) || unsT.contains x
def unsafeB (s : Bs) : Bool := s.any unsB
def lngT : Bs := [32, 42, 44, 45, 46, 59, 61]
def lngB (x : UInt8) : Bool := (letB x.toNat || digB x.toNat) || lngT.contains x
def tongB (s : Bs) : Bool := s.all lngB
theorem l_headers_unsafe (c : CallK) (N : Nat) (hI : Idx70 c) (s : Bs) (hs : s.length < 9223372036854775807) (H : Heap) : ∀ (l pre : Bs) (τ : Tape) (m : Nat), s = pre ++ l → l.length < m → ∀ (fr : T V) k, fr.get 0 = some (.str s) → fr.get 6 = some (.int .i64 (s.length : Int)) → fr.get 7 = some (.int .i64 (pre.length : Int)) →
    loopK (s_headers_unsafe_l1 c N) m ⟨fr, H⟩ τ k = bif l.any unsB then k .ret ⟨(T.set .leaf 2 (.bool true)), H⟩ τ else k (.exit 0) ⟨.leaf, H⟩ τ := by
  intro l
  induction l with
  | nil =>
    intro pre τ m he hm fr k f0 f6 f7
    obtain ⟨m, rfl⟩ : ∃ j, m = j + 1 := ⟨m - 1, by omega⟩
    have e1 : decide (pre.length < s.length) = false := decide_eq_false (by rw [he]; simp)
    rw [loopK_succ]
    simp only [s_headers_unsafe_l1, getK_mk f0, getK_mk f6, getK_mk f7, getK_set, ↓reduceIte, Nat.reduceEqDiff, someK_n, effK_n, retK, gK_do, gK_do', gK_skip, gK_skip', gK_none, pick_mk, cond_true, cond_false, condK_tn, condK_fn, bin_eql, bin_neq, bin_lss, bin_leq, bin_gtr, bin_geq, un_not, Bool.not_true, Bool.not_false, bin_str, lenS_mk, nle_l, nle_r, nle_n, nlt_l, nlt_r, nlt_n, neq_r, neq_n, nne_r, nne_n, ext0, ext1, ext30, ext31, ext32, bin_add, bin_sub, decide_true, decide_false, e1]
    rfl
  | cons x l ih =>
    intro pre τ m he hm fr k f0 f6 f7
    obtain ⟨m, rfl⟩ : ∃ j, m = j + 1 := ⟨m - 1, by omega⟩
    have hlt : pre.length < s.length := by rw [he]; simp
    have e1 : decide (pre.length < s.length) = true := decide_eq_true hlt
    have e2 : pStrIndex [.str s, .int .i64 (pre.length : Int)] = some (.int .u8 (x.toNat : Int)) := strIndex_mk (by rw [he]; simp)
    have e3 : wr .i64 ((pre.length : Int) + Int.ofNat 1) = ((pre ++ [x]).length : Int) := by rw [adI (by omega)]; simp
    have k1 := hI unsT x
    have eu : bs [34, 40, 41, 58, 60, 62, 63, 64, 91, 92, 93, 123, 125] = unsT := rfl
    have ei := idx_has x unsT
    have ea : (x :: l).any unsB = (unsB x || l.any unsB) := rfl
    have eb : unsB x = (((decide (x.toNat < 32) && !decide (x.toNat = 9)) || decide (x.toNat = 127)) || unsT.contains x) := rfl
    have go := fun fr f0 f6 f7 => ih (pre ++ [x]) τ m (by rw [he]; simp) (by simp at hm; omega) fr k f0 f6 f7
    rw [loopK_succ, ea, eb]
    cases h1 : decide (x.toNat < 32) <;> cases h2 : decide (x.toNat = 9) <;> cases h3 : decide (x.toNat = 127) <;> cases h4 : unsT.contains x <;>
      simp only [s_headers_unsafe_l1, getK_mk f0, getK_mk f6, getK_mk f7, getK_set, ↓reduceIte, Nat.reduceEqDiff, someK_n, effK_n, retK, gK_do, gK_do', gK_skip, gK_skip', gK_none, pick_mk, cond_true, cond_false, condK_tn, condK_fn, bin_eql, bin_neq, bin_lss, bin_leq, bin_gtr, bin_geq, un_not, Bool.not_true, Bool.not_false, bin_str, lenS_mk, nle_l, nle_r, nle_n, nlt_l, nlt_r, nlt_n, neq_r, neq_n, nne_r, nne_n, ext0, ext1, ext30, ext31, ext32, bin_add, bin_sub, decide_true, decide_false, e1, e2, h1, h2, h3, eu, k1, ei, h4, e3, Bool.true_or, Bool.false_or, Bool.or_false, Bool.or_true, Bool.and_true, Bool.and_false, Bool.true_and, Bool.false_and] <;>
      first | rfl | exact go _ (by simp [T.get_set]) (by simp [T.get_set]) (by simp [T.get_set])
theorem s_headers_unsafe_ret (c : CallK) {N : Nat} (hN : 9223372036854775807 < N) (hI : Idx70 c) (s : Bs) (hs : s.length ≤ 9223372036854775806) (H : Heap) (τ : Tape) (q : KV) : s_headers_unsafe c N (.str s) H τ q = q (.bool (unsafeB s)) H τ := by
  unfold unsafeB
  simp only [s_headers_unsafe, lenS_mk, someK_n]
  rw [l_headers_unsafe c N hI s (by omega) H s [] τ N rfl (by omega) _ _ (by simp [T.get_set]) (by simp [T.get_set]) (by simp [T.get_set])]
  cases s.any unsB with
  | true => simp only [cond_true, blockK, seqK, endK]; rfl
  | false => simp only [cond_false, blockK, Nat.beq_refl, cond_true, seqK, s_headers_unsafe_j0]
theorem l_headers_tongues (c : CallK) (N : Nat) (hI : Idx70 c) (s : Bs) (hs : s.length < 9223372036854775807) (H : Heap) : ∀ (l pre : Bs) (τ : Tape) (m : Nat), s = pre ++ l → l.length < m → ∀ (fr : T V) k, fr.get 0 = some (.str s) → fr.get 6 = some (.int .i64 (s.length : Int)) → fr.get 7 = some (.int .i64 (pre.length : Int)) →
    loopK (s_headers_tongues_l1 c N) m ⟨fr, H⟩ τ k = bif l.all lngB then k (.exit 0) ⟨.leaf, H⟩ τ else k .ret ⟨(T.set .leaf 2 (.bool false)), H⟩ τ := by
  intro l
  induction l with
  | nil =>
    intro pre τ m he hm fr k f0 f6 f7
    obtain ⟨m, rfl⟩ : ∃ j, m = j + 1 := ⟨m - 1, by omega⟩
    have e1 : decide (pre.length < s.length) = false := decide_eq_false (by rw [he]; simp)
    rw [loopK_succ]
    simp only [s_headers_tongues_l1, getK_mk f0, getK_mk f6, getK_mk f7, getK_set, ↓reduceIte, Nat.reduceEqDiff, someK_n, effK_n, retK, gK_do, gK_do', gK_skip, gK_skip', gK_none, pick_mk, cond_true, cond_false, condK_tn, condK_fn, bin_eql, bin_neq, bin_lss, bin_leq, bin_gtr, bin_geq, un_not, Bool.not_true, Bool.not_false, bin_str, lenS_mk, nle_l, nle_r, nle_n, nlt_l, nlt_r, nlt_n, neq_r, neq_n, nne_r, nne_n, ext0, ext1, ext30, ext31, ext32, bin_add, bin_sub, decide_true, decide_false, e1]
    rfl
  | cons x l ih =>
    intro pre τ m he hm fr k f0 f6 f7
    obtain ⟨m, rfl⟩ : ∃ j, m = j + 1 := ⟨m - 1, by omega⟩
    have hlt : pre.length < s.length := by rw [he]; simp
    have e1 : decide (pre.length < s.length) = true := decide_eq_true hlt
    have e2 : pStrIndex [.str s, .int .i64 (pre.length : Int)] = some (.int .u8 (x.toNat : Int)) := strIndex_mk (by rw [he]; simp)
    have e3 : wr .i64 ((pre.length : Int) + Int.ofNat 1) = ((pre ++ [x]).length : Int) := by rw [adI (by omega)]; simp
    have k1 := hI lngT x
    have eu : bs [32, 42, 44, 45, 46, 59, 61] = lngT := rfl
    have ei := idx_hasnt x lngT
    have ea : (x :: l).all lngB = (lngB x && l.all lngB) := rfl
    have eb : lngB x = ((((decide (97 ≤ x.toNat) && decide (x.toNat ≤ 122)) || (decide (65 ≤ x.toNat) && decide (x.toNat ≤ 90))) || (decide (48 ≤ x.toNat) && decide (x.toNat ≤ 57))) || lngT.contains x) := rfl
    have go := fun fr f0 f6 f7 => ih (pre ++ [x]) τ m (by rw [he]; simp) (by simp at hm; omega) fr k f0 f6 f7
    rw [loopK_succ, ea, eb]
    simp only [s_headers_tongues_l1, getK_mk f0, getK_mk f6, getK_mk f7, getK_set, ↓reduceIte, Nat.reduceEqDiff, someK_n, effK_n, retK, gK_do, gK_do', gK_skip, gK_skip', gK_none, pick_mk, cond_true, cond_false, condK_tn, condK_fn, bin_eql, bin_neq, bin_lss, bin_leq, bin_gtr, bin_geq, un_not, Bool.not_true, Bool.not_false, bin_str, lenS_mk, nle_l, nle_r, nle_n, nlt_l, nlt_r, nlt_n, neq_r, neq_n, nne_r, nne_n, ext0, ext1, ext30, ext31, ext32, bin_add, bin_sub, decide_true, decide_false, e1, e2]
    cases h1 : decide (97 ≤ x.toNat) <;> cases h2 : decide (x.toNat ≤ 122) <;> cases h3 : decide (65 ≤ x.toNat) <;> simp only [getK_set, ↓reduceIte, Nat.reduceEqDiff, someK_n, effK_n, retK, gK_do, gK_do', gK_skip, gK_skip', gK_none, pick_mk, cond_true, cond_false, condK_tn, condK_fn, bin_eql, bin_neq, bin_lss, bin_leq, bin_gtr, bin_geq, un_not, Bool.not_true, Bool.not_false, bin_str, lenS_mk, nle_l, nle_r, nle_n, nlt_l, nlt_r, nlt_n, neq_r, neq_n, nne_r, nne_n, ext0, ext1, ext30, ext31, ext32, bin_add, bin_sub, decide_true, decide_false, h1, h2, h3] <;> cases h4 : decide (x.toNat ≤ 90) <;> cases h5 : decide (48 ≤ x.toNat) <;> cases h6 : decide (x.toNat ≤ 57) <;> cases h7 : lngT.contains x <;>
      simp only [getK_set, ↓reduceIte, Nat.reduceEqDiff, someK_n, effK_n, retK, gK_do, gK_do', gK_skip, gK_skip', gK_none, pick_mk, cond_true, cond_false, condK_tn, condK_fn, bin_eql, bin_neq, bin_lss, bin_leq, bin_gtr, bin_geq, un_not, Bool.not_true, Bool.not_false, bin_str, lenS_mk, nle_l, nle_r, nle_n, nlt_l, nlt_r, nlt_n, neq_r, neq_n, nne_r, nne_n, ext0, ext1, ext30, ext31, ext32, bin_add, bin_sub, decide_true, decide_false, h1, h2, h3, h4, h5, h6, eu, k1, ei, h7, e3, Bool.true_or, Bool.false_or, Bool.or_false, Bool.or_true, Bool.and_true, Bool.and_false, Bool.true_and, Bool.false_and] <;>
      first | rfl | exact go _ (by simp [T.get_set]) (by simp [T.get_set]) (by simp [T.get_set])
theorem s_headers_tongues_ret (c : CallK) {N : Nat} (hN : 9223372036854775807 < N) (hI : Idx70 c) (s : Bs) (hs : s.length ≤ 9223372036854775806) (H : Heap) (τ : Tape) (q : KV) : s_headers_tongues c N (.str s) H τ q = q (.bool (tongB s)) H τ := by
  unfold tongB
  simp only [s_headers_tongues, lenS_mk, someK_n]
  rw [l_headers_tongues c N hI s (by omega) H s [] τ N rfl (by omega) _ _ (by simp [T.get_set]) (by simp [T.get_set]) (by simp [T.get_set])]
  cases s.all lngB with
  | false => simp only [cond_false, blockK, seqK, endK]; rfl
  | true => simp only [blockK, Nat.beq_refl, cond_true, seqK, s_headers_tongues_j0]
def partA (v : Bs) : Bs := match cutB 59 v with | some (a, _) => a | none => v
def essB (e : Bs) : Bool := (e == [97, 112, 112, 108, 105, 99, 97, 116, 105, 111, 110, 47, 120, 45, 119, 119, 119, 45, 102, 111, 114, 109, 45, 117, 114, 108, 101, 110, 99, 111, 100, 101, 100]) || ((e == [109, 117, 108, 116, 105, 112, 97, 114, 116, 47, 102, 111, 114, 109, 45, 100, 97, 116, 97]) || (e == [116, 101, 120, 116, 47, 112, 108, 97, 105, 110]))
def safeB (n v : Bs) : Bool :=
  bif decide (128 < v.length) then false else bif lower n == [97, 99, 99, 101, 112, 116] then !unsafeB v else bif (lower n == [97, 99, 99, 101, 112, 116, 45, 108, 97, 110, 103, 117, 97, 103, 101]) || (lower n == [99, 111, 110, 116, 101, 110, 116, 45, 108, 97, 110, 103, 117, 97, 103, 101]) then tongB v
  else bif lower n == [99, 111, 110, 116, 101, 110, 116, 45, 116, 121, 112, 101] then !unsafeB v && essB (lower (strip (partA v))) else bif lower n == [114, 97, 110, 103, 101] then (rng v).2.2 && decide (0 ≤ (rng v).1) else false
abbrev BoolOk (c : CallK) (f : Nat) (g : Bs → Bool) : Prop := ∀ (s : Bs), s.length ≤ 9223372036854775806 → ∀ H τ q, c f [.str s] H τ q = q (.bool (g s)) H τ
theorem partA_len (v : Bs) : (partA v).length ≤ v.length := by
  unfold partA
  split
  · rename_i a b h; have := cutB_len 59 v a b h; omega
  · exact Nat.le_refl _
theorem strip_len (v : Bs) : (strip v).length ≤ v.length := trimB_length _ _
theorem partV_A (v : Bs) : ∃ b d, partV 59 v = .tup [.str (partA v), b, d] := by
  unfold partV partA
  cases cutB 59 v with
  | none => exact ⟨_, _, rfl⟩
  | some ab => obtain ⟨a, b⟩ := ab; exact ⟨_, _, rfl⟩
set_option maxHeartbeats 2000000 in
theorem s_headers_Safe_ret (c : CallK) (N : Nat) (hL : NLowOk c) (hU : BoolOk c f_headers_unsafe unsafeB) (hT : BoolOk c f_headers_tongues tongB) (hC : RCutOk c) (hS : NStripOk c) (hR : RngOk c f_headers_Range) (n v : Bs) (hn : n.length ≤ 140737488355328) (H : Heap) (τ : Tape) (q : KV) : s_headers_Safe c N (.str n) (.str v) H τ q = q (.bool (safeB n v)) H τ := by
  unfold safeB
  cases h0 : decide (128 < v.length) with
  | true => simp only [s_headers_Safe, getK_set, ↓reduceIte, Nat.reduceEqDiff, someK_n, effK_n, retK, gK_do, gK_do', gK_skip, gK_skip', gK_none, pick_mk, cond_true, cond_false, condK_tn, condK_fn, bin_eql, bin_neq, bin_lss, bin_leq, bin_gtr, bin_geq, un_not, Bool.not_true, Bool.not_false, bin_str, lenS_mk, nle_l, nle_r, nle_n, nlt_l, nlt_r, nlt_n, neq_r, neq_n, nne_r, nne_n, ext0, ext1, ext30, ext31, ext32, bin_add, bin_sub, decide_true, decide_false, h0]
  | false =>
    have hv : v.length ≤ 128 := by have := of_decide_eq_false h0; omega
    have k1 := hL n hn
    generalize lower n = l at k1 ⊢
    have e1 : bs [97, 99, 99, 101, 112, 116] = [97, 99, 99, 101, 112, 116] := rfl
    have e2 : bs [97, 99, 99, 101, 112, 116, 45, 108, 97, 110, 103, 117, 97, 103, 101] = [97, 99, 99, 101, 112, 116, 45, 108, 97, 110, 103, 117, 97, 103, 101] := rfl
    have e3 : bs [99, 111, 110, 116, 101, 110, 116, 45, 108, 97, 110, 103, 117, 97, 103, 101] = [99, 111, 110, 116, 101, 110, 116, 45, 108, 97, 110, 103, 117, 97, 103, 101] := rfl
    have e4 : bs [99, 111, 110, 116, 101, 110, 116, 45, 116, 121, 112, 101] = [99, 111, 110, 116, 101, 110, 116, 45, 116, 121, 112, 101] := rfl
    have e5 : bs [114, 97, 110, 103, 101] = [114, 97, 110, 103, 101] := rfl
    have e6 : bs [97, 112, 112, 108, 105, 99, 97, 116, 105, 111, 110, 47, 120, 45, 119, 119, 119, 45, 102, 111, 114, 109, 45, 117, 114, 108, 101, 110, 99, 111, 100, 101, 100] = [97, 112, 112, 108, 105, 99, 97, 116, 105, 111, 110, 47, 120, 45, 119, 119, 119, 45, 102, 111, 114, 109, 45, 117, 114, 108, 101, 110, 99, 111, 100, 101, 100] := rfl
    have e7 : bs [109, 117, 108, 116, 105, 112, 97, 114, 116, 47, 102, 111, 114, 109, 45, 100, 97, 116, 97] = [109, 117, 108, 116, 105, 112, 97, 114, 116, 47, 102, 111, 114, 109, 45, 100, 97, 116, 97] := rfl
    have e8 : bs [116, 101, 120, 116, 47, 112, 108, 97, 105, 110] = [116, 101, 120, 116, 47, 112, 108, 97, 105, 110] := rfl
    have e9 : bs [59] = [59] := rfl
    have ku := hU v (by omega)
    have kt := hT v (by omega)
    have kc := hC v 59 (by omega)
    obtain ⟨pb, pd, hp⟩ := partV_A v
    rw [hp] at kc
    have hl := partA_len v
    have hl2 := strip_len (partA v)
    have ks := hS (partA v) (by omega)
    have kl := hL (strip (partA v)) (by omega)
    have kr := hR v (by omega)
    have zr : decide (Int.ofNat 0 ≤ (rng v).1) = decide (0 ≤ (rng v).1) := rfl
    cases h1 : (l == ([97, 99, 99, 101, 112, 116] : Bs)) with
    | true => simp only [s_headers_Safe, getK_set, ↓reduceIte, Nat.reduceEqDiff, someK_n, effK_n, retK, gK_do, gK_do', gK_skip, gK_skip', gK_none, pick_mk, cond_true, cond_false, condK_tn, condK_fn, bin_eql, bin_neq, bin_lss, bin_leq, bin_gtr, bin_geq, un_not, Bool.not_true, Bool.not_false, bin_str, lenS_mk, nle_l, nle_r, nle_n, nlt_l, nlt_r, nlt_n, neq_r, neq_n, nne_r, nne_n, ext0, ext1, ext30, ext31, ext32, bin_add, bin_sub, decide_true, decide_false, str_eql, h0, k1, e1, h1, ku]
    | false =>
      cases h2 : (l == ([97, 99, 99, 101, 112, 116, 45, 108, 97, 110, 103, 117, 97, 103, 101] : Bs)) with
      | true => simp only [s_headers_Safe, s_headers_Safe_j1, getK_set, ↓reduceIte, Nat.reduceEqDiff, someK_n, effK_n, retK, gK_do, gK_do', gK_skip, gK_skip', gK_none, pick_mk, cond_true, cond_false, condK_tn, condK_fn, bin_eql, bin_neq, bin_lss, bin_leq, bin_gtr, bin_geq, un_not, Bool.not_true, Bool.not_false, bin_str, lenS_mk, nle_l, nle_r, nle_n, nlt_l, nlt_r, nlt_n, neq_r, neq_n, nne_r, nne_n, ext0, ext1, ext30, ext31, ext32, bin_add, bin_sub, decide_true, decide_false, str_eql, h0, k1, e1, h1, e2, h2, kt, Bool.true_or]
      | false =>
        cases h3 : (l == ([99, 111, 110, 116, 101, 110, 116, 45, 108, 97, 110, 103, 117, 97, 103, 101] : Bs)) with
        | true => simp only [s_headers_Safe, s_headers_Safe_j1, getK_set, ↓reduceIte, Nat.reduceEqDiff, someK_n, effK_n, retK, gK_do, gK_do', gK_skip, gK_skip', gK_none, pick_mk, cond_true, cond_false, condK_tn, condK_fn, bin_eql, bin_neq, bin_lss, bin_leq, bin_gtr, bin_geq, un_not, Bool.not_true, Bool.not_false, bin_str, lenS_mk, nle_l, nle_r, nle_n, nlt_l, nlt_r, nlt_n, neq_r, neq_n, nne_r, nne_n, ext0, ext1, ext30, ext31, ext32, bin_add, bin_sub, decide_true, decide_false, str_eql, h0, k1, e1, h1, e2, h2, e3, h3, kt, Bool.false_or]
        | false =>
          cases h4 : (l == ([99, 111, 110, 116, 101, 110, 116, 45, 116, 121, 112, 101] : Bs)) with
          | true =>
            unfold essB
            generalize lower (strip (partA v)) = w at kl ⊢
            cases h6 : (w == ([97, 112, 112, 108, 105, 99, 97, 116, 105, 111, 110, 47, 120, 45, 119, 119, 119, 45, 102, 111, 114, 109, 45, 117, 114, 108, 101, 110, 99, 111, 100, 101, 100] : Bs)) <;> cases h7 : (w == ([109, 117, 108, 116, 105, 112, 97, 114, 116, 47, 102, 111, 114, 109, 45, 100, 97, 116, 97] : Bs)) <;> cases h8 : (w == ([116, 101, 120, 116, 47, 112, 108, 97, 105, 110] : Bs)) <;>
              simp only [s_headers_Safe, s_headers_Safe_j1, s_headers_Safe_j2, s_headers_Safe_j0, getK_set, ↓reduceIte, Nat.reduceEqDiff, someK_n, effK_n, retK, gK_do, gK_do', gK_skip, gK_skip', gK_none, pick_mk, cond_true, cond_false, condK_tn, condK_fn, bin_eql, bin_neq, bin_lss, bin_leq, bin_gtr, bin_geq, un_not, Bool.not_true, Bool.not_false, bin_str, lenS_mk, nle_l, nle_r, nle_n, nlt_l, nlt_r, nlt_n, neq_r, neq_n, nne_r, nne_n, ext0, ext1, ext30, ext31, ext32, bin_add, bin_sub, decide_true, decide_false, str_eql, h0, k1, e1, h1, e2, h2, e3, h3, e4, h4, e9, kc, ks, kl, e6, h6, e7, h7, e8, h8, ku, Bool.true_or, Bool.false_or, Bool.and_true, Bool.and_false]
          | false =>
            cases h5 : (l == ([114, 97, 110, 103, 101] : Bs)) with
            | true =>
              cases hr : (rng v).2.2 <;> simp only [s_headers_Safe, s_headers_Safe_j1, getK_set, ↓reduceIte, Nat.reduceEqDiff, someK_n, effK_n, retK, gK_do, gK_do', gK_skip, gK_skip', gK_none, pick_mk, cond_true, cond_false, condK_tn, condK_fn, bin_eql, bin_neq, bin_lss, bin_leq, bin_gtr, bin_geq, un_not, Bool.not_true, Bool.not_false, bin_str, lenS_mk, nle_l, nle_r, nle_n, nlt_l, nlt_r, nlt_n, neq_r, neq_n, nne_r, nne_n, ext0, ext1, ext30, ext31, ext32, bin_add, bin_sub, decide_true, decide_false, str_eql, h0, k1, e1, h1, e2, h2, e3, h3, e4, h4, e5, h5, kr, hr, zr, Bool.true_and, Bool.false_and, Bool.false_or]
            | false => simp only [s_headers_Safe, s_headers_Safe_j1, s_headers_Safe_j0, getK_set, ↓reduceIte, Nat.reduceEqDiff, someK_n, effK_n, retK, gK_do, gK_do', gK_skip, gK_skip', gK_none, pick_mk, cond_true, cond_false, condK_tn, condK_fn, bin_eql, bin_neq, bin_lss, bin_leq, bin_gtr, bin_geq, un_not, Bool.not_true, Bool.not_false, bin_str, lenS_mk, nle_l, nle_r, nle_n, nlt_l, nlt_r, nlt_n, neq_r, neq_n, nne_r, nne_n, ext0, ext1, ext30, ext31, ext32, bin_add, bin_sub, decide_true, decide_false, str_eql, h0, k1, e1, h1, e2, h2, e3, h3, e4, h4, e5, h5, Bool.false_or]
abbrev SafePre : List V → Prop | [.str n, .str _] => n.length ≤ 140737488355328 | _ => False
abbrev SafeG : List V → V | [.str n, .str v] => .bool (safeB n v) | _ => .tup []
abbrev SafeR := RV SafePre SafeG
noncomputable abbrev rw_HSafe : List Row := [Row.fn f_headers_Safe fn_headers_Safe e_headers_Safe, Row.fn f_headers_unsafe fn_headers_unsafe e_headers_unsafe, Row.fn f_headers_tongues fn_headers_tongues e_headers_tongues, Row.fn f_strings_IndexByte fn_strings_IndexByte e_strings_IndexByte, Row.prim f_stringslite_IndexByte idxP, Row.prim f_infra_Lower (outP LowR), Row.prim f_strings_Cut (outP CutR), Row.prim f_infra_Strip (outP RStripR), Row.prim f_headers_Range (outP RngR)]
theorem p_headers_Safe : ∀ base w0, PrimOk PG base w0 f_headers_Safe (outP SafeR) := by
  obtain ⟨N, hN⟩ := someN
  refine primRV (N := N) (l := rw_HSafe) (.fn ok_headers_Safe e_headers_Safe_ok (.fn ok_headers_unsafe e_headers_unsafe_ok (.fn ok_headers_tongues e_headers_tongues_ok (.fn ok_strings_IndexByte e_strings_IndexByte_ok (.prim idxP_ok (.prim p_infra_Lower (.prim p_strings_Cut (.prim p_infra_Strip (.prim p_headers_Range (.nil _)))))))))) 4 _ (fun vs H h => ?_) (fun vs h H hw τ => ?_)
  · unfold SafePre at h; split at h
    · trivial
    · exact h.elim
  · have hI : Idx70 (CR rw_HSafe N 2) := fun s x H τ q => s_strings_IndexByte_ret (CR rw_HSafe N 1) N (k_idx fun _ _ _ _ => rfl) s x H τ q
    unfold SafePre at h; split at h
    · exact ⟨H, τ, Gr.refl hw, fun q => s_headers_Safe_ret (CR rw_HSafe N 3) N (k_infra_Lower fun _ _ _ _ => rfl) (fun s hs H τ q => s_headers_unsafe_ret (CR rw_HSafe N 2) hN hI s hs H τ q) (fun s hs H τ q => s_headers_tongues_ret (CR rw_HSafe N 2) hN hI s hs H τ q) (k_strings_Cut fun _ _ _ _ => rfl) (k_infra_Strip fun _ _ _ _ => rfl) (k_Range fun _ _ _ _ => rfl) _ _ h H τ q⟩
    · exact h.elim
theorem k_Safe {c : CallK} {f : Nat} (h : IsP c f SafeR) (n v : Bs) (hn : n.length ≤ 140737488355328) (H : Heap) (τ : Tape) (q : KV) : c f [.str n, .str v] H τ q = q (.bool (safeB n v)) H τ := RV_call h (vs := [.str n, .str v]) hn H τ q
end Go.Am.X


namespace Go.Am.X
set_option linter.unusedSimpArgs false
set_option linter.unusedVariables false
set_option linter.unusedSectionVars false
set_option maxRecDepth 100000
def asT (n : Nat) : Bs := List.replicate n 97
theorem l_law5_long (c : CallK) (N id n : Nat) (hn : n ≤ 100000) : ∀ (m i : Nat) (H : Heap) (τ : Tape) (k0 : Nat), i + m = n → m < k0 → WF H → Blk H id id (List.replicate i (.int .u8 (.ofNat 97)) ++ List.replicate m (.int .u8 (.ofNat 0))) →
    ∃ H' τ', Blk H' id id (List.replicate n (.int .u8 (.ofNat 97))) ∧ Gr id H H' ∧ ∀ (fr : T V) k, fr.get 0 = some (.int .i64 (n : Int)) → fr.get 3 = some (.sl id 0 n n none 1) → fr.get 4 = some (.int .i64 (i : Int)) →
      loopK (s_law5_long_l1 c N) k0 ⟨fr, H⟩ τ k = k (.exit 0) ⟨(T.set .leaf 3 (.sl id 0 n n none 1)), H'⟩ τ' := by
  intro m
  induction m with
  | zero =>
    intro i H τ k0 hi hk hw hB
    obtain ⟨k0, rfl⟩ : ∃ j, k0 = j + 1 := ⟨k0 - 1, by omega⟩
    have e1 : decide (i < n) = false := decide_eq_false (by omega)
    refine ⟨H, τ, by rw [← hi]; simpa using hB, Gr.refl hw, fun fr k f0 f3 f4 => ?_⟩
    rw [loopK_succ]
    simp only [s_law5_long_l1, getK_mk f0, getK_mk f3, getK_mk f4, getK_set, ↓reduceIte, Nat.reduceEqDiff, someK_n, effK_n, retK, gK_do, gK_do', gK_skip, gK_skip', gK_none, pick_mk, cond_true, cond_false, condK_tn, condK_fn, bin_eql, bin_neq, bin_lss, bin_leq, bin_gtr, bin_geq, un_not, Bool.not_true, Bool.not_false, bin_str, lenS_mk, nle_l, nle_r, nle_n, nlt_l, nlt_r, nlt_n, neq_r, neq_n, nne_r, nne_n, ext0, ext1, ext30, ext31, ext32, bin_add, bin_sub, decide_true, decide_false, e1]
    rfl
  | succ m ih =>
    intro i H τ k0 hi hk hw hB
    obtain ⟨k0, rfl⟩ : ∃ j, k0 = j + 1 := ⟨k0 - 1, by omega⟩
    have hlt : i < n := by omega
    have e1 : decide (i < n) = true := decide_eq_true hlt
    have e2 : pSlIdx 1 [.sl id 0 n n none 1, .int .i64 (i : Int)] = some (.ptr id i) := slIdx_mk id n hlt
    have e3 : wr .i64 ((i : Int) + Int.ofNat 1) = ((i + 1 : Nat) : Int) := adI (by omega)
    obtain ⟨H1, k1, k2, k3, k4⟩ := hB.eStore hw i (.int .u8 (.ofNat 97)) 1 rfl (by simp) rfl τ
    have ec : (List.replicate i (V.int .u8 (.ofNat 97)) ++ List.replicate (m + 1) (V.int .u8 (.ofNat 0))).take i ++ (V.int .u8 (.ofNat 97)).cells ++ (List.replicate i (V.int .u8 (.ofNat 97)) ++ List.replicate (m + 1) (V.int .u8 (.ofNat 0))).drop (i + 1) = List.replicate (i + 1) (V.int .u8 (.ofNat 97)) ++ List.replicate m (V.int .u8 (.ofNat 0)) := by
      have l1 : (List.replicate i (V.int .u8 (.ofNat 97))).length = i := List.length_replicate ..
      rw [List.take_append_of_le_length (by rw [l1]; exact Nat.le_refl _), List.take_of_length_le (by rw [l1]; exact Nat.le_refl _)]
      rw [List.drop_append, l1, List.drop_of_length_le (by rw [l1]; omega), List.nil_append, show i + 1 - i = 1 by omega, List.drop_replicate, List.replicate_succ' ]
      rfl
    rw [ec] at k2
    obtain ⟨H', τ', i1, i2, i3⟩ := ih (i + 1) H1 τ k0 (by omega) (by omega) k3.wf k2
    refine ⟨H', τ', i1, k3.trans i2 (Nat.le_refl _), fun fr k f0 f3 f4 => ?_⟩
    rw [loopK_succ]
    simp only [s_law5_long_l1, getK_mk f0, getK_mk f3, getK_mk f4, getK_set, ↓reduceIte, Nat.reduceEqDiff, someK_n, effK_n, retK, gK_do, gK_do', gK_skip, gK_skip', gK_none, pick_mk, cond_true, cond_false, condK_tn, condK_fn, bin_eql, bin_neq, bin_lss, bin_leq, bin_gtr, bin_geq, un_not, Bool.not_true, Bool.not_false, bin_str, lenS_mk, nle_l, nle_r, nle_n, nlt_l, nlt_r, nlt_n, neq_r, neq_n, nne_r, nne_n, ext0, ext1, ext30, ext31, ext32, bin_add, bin_sub, decide_true, decide_false, e1, e2, k1, e3]
    exact i3 _ k (by simp [T.get_set]) (by simp [T.get_set]) (by simp [T.get_set])
theorem repl_one (n : Nat) (v : V) : repl n [v] = List.replicate n v := by
  unfold repl
  induction n with
  | zero => rfl
  | succ n ih => rw [List.replicate_succ, List.flatten_cons, ih, List.replicate_succ]; rfl
theorem s_law5_long_ret (c : CallK) {N : Nat} (hN : 9223372036854775807 < N) (n : Nat) (hn : n ≤ 100000) (H : Heap) (hw : WF H) (τ : Tape) : ∃ H' τ', Gr H.size H H' ∧ ∀ q, s_law5_long c N (.int .i64 (n : Int)) H τ q = q (.str (asT n)) H' τ' := by
  have a1 : eMakeSlice 1 1 [(.int .u8 (.ofNat 0))] [.int .i64 (n : Int), .int .i64 (n : Int)] H τ = some (.sl H.size 0 n n none 1, H.new (List.replicate n (.int .u8 (.ofNat 0))) (n * 1) false, τ) := by
    have b1 : Nat.ble n n = true := Nat.ble_eq_true_of_le (Nat.le_refl _)
    have b2 : Nat.ble (n * 1) 140737488355328 = true := Nat.ble_eq_true_of_le (by omega)
    have b3 : Nat.ble n 140737488355328 = true := Nat.ble_eq_true_of_le (by omega)
    simp only [eMakeSlice, natOf_nat, b1, b2, b3, Bool.and_self, cond_true, repl_one]
  have g1 := Gr.new hw (List.replicate n (V.int .u8 (.ofNat 0))) (n * 1) false
  have b1 := Blk.new H (List.replicate n (V.int .u8 (.ofNat 0))) (n * 1) false (by simp)
  obtain ⟨H', τ', i1, i2, i3⟩ := l_law5_long c N H.size n hn n 0 _ τ N (by omega) (by omega) g1.wf (by simpa using b1)
  have ld : lBytesStr [.sl H.size 0 n n none 1] H' = some (.str (asT n)) := by
    have hl : H'.loads H.size 0 n = some (bv (asT n)) := by
      rw [loads_cells i1.cells (by simp), List.drop_zero]
      have e : (bv (asT n)) = List.replicate n (V.int .u8 (.ofNat 97)) := by unfold bv asT; rw [List.map_replicate]; rfl
      rw [e, List.take_of_length_le (by simp)]
    simp only [lBytesStr, Nat.beq_refl, cond_true, hl, bytesOf_bv]
  refine ⟨H', τ', g1.trans i2 (Nat.le_refl _), fun q => ?_⟩
  simp only [s_law5_long, a1, effK_n]
  rw [i3 _ _ (by simp [T.get_set]) (by simp [T.get_set]) (by simp [T.get_set])]
  simp only [blockK, Nat.beq_refl, cond_true, seqK, s_law5_long_j0, getK_set, ↓reduceIte, Nat.reduceEqDiff, someK_n, effK_n, retK, gK_do, gK_do', gK_skip, gK_skip', gK_none, pick_mk, cond_true, cond_false, condK_tn, condK_fn, bin_eql, bin_neq, bin_lss, bin_leq, bin_gtr, bin_geq, un_not, Bool.not_true, Bool.not_false, bin_str, lenS_mk, nle_l, nle_r, nle_n, nlt_l, nlt_r, nlt_n, neq_r, neq_n, nne_r, nne_n, ext0, ext1, ext30, ext31, ext32, bin_add, bin_sub, decide_true, decide_false, ld]
abbrev LongPre : List V → Prop | [.int .i64 (.ofNat n)] => n ≤ 100000 | _ => False
abbrev LongG : List V → V | [.int .i64 (.ofNat n)] => .str (asT n) | _ => .tup []
theorem p_law5_long : ∀ base w0, PrimOk PG base w0 f_law5_long (outP (RV LongPre LongG)) := by
  obtain ⟨N, hN⟩ := someN
  refine primRV (N := N) (l := [Row.fn f_law5_long fn_law5_long e_law5_long]) (.fn ok_law5_long e_law5_long_ok (.nil _)) 1 _ (fun vs H h => ?_) (fun vs h H hw τ => ?_)
  · unfold LongPre at h; split at h
    · trivial
    · exact h.elim
  · unfold LongPre at h; split at h
    · exact s_law5_long_ret (CR [Row.fn f_law5_long fn_law5_long e_law5_long] N 0) hN _ h H hw τ
    · exact h.elim
theorem k_law5_long {c : CallK} (h : IsP c f_law5_long (RV LongPre LongG)) (n : Nat) (hn : n ≤ 100000) (H : Heap) (τ : Tape) (q : KV) : c f_law5_long [.int .i64 (.ofNat n)] H τ q = q (.str (asT n)) H τ := RV_call h (vs := [.int .i64 (.ofNat n)]) hn H τ q
theorem asT_val (n : Nat) : valT (asT n) = asT n ∧ valO (asT n) = true := by
  have h : valT (asT n) = asT n := trim_none _ _ fun x hx => by
    rw [List.eq_of_mem_replicate hx]; decide
  refine ⟨h, ?_⟩
  unfold valO
  rw [h, Bool.not_eq_true', List.any_eq_false]
  intro x hx
  rw [List.eq_of_mem_replicate hx]; decide
theorem addE_long : addE [120] (asT 4097) 0 = 3 := by
  have hl : (asT 4097).length = 4097 := List.length_replicate ..
  have hm : mayE [120] (asT 4097) = 3 := by
    unfold mayE
    rw [(asT_val 4097).1, (asT_val 4097).2, hl]
    have : tokT [120] = true := by decide
    rw [this]
    simp
  unfold addE
  rw [hm]; rfl
theorem safe_long (n : Bs) : safeB n (asT 129) = false := by
  unfold safeB
  have hl : (asT 129).length = 129 := List.length_replicate ..
  rw [hl]; rfl
theorem Lc_new {H : Heap} (hw : WF H) (hs : List Hd) (r : Nat) : RdH (H.new (hcells hs) r false) (.sl H.size 0 hs.length hs.length none 2) hs :=
  ⟨.inr ⟨H.size, 0, hs.length, none, hcells hs, rfl, cells_new _ _ _ _, by rw [List.drop_zero, ← hcells_length, List.take_length], hcells_length hs⟩, ⟨_, cells_new _ _ _ _⟩⟩
set_option maxHeartbeats 1000000 in
theorem s_law5_HeadersNumbers_ret (c : CallK) {N : Nat} (hAdd : IsP c f_headers_Add (RH AddPre AddG)) (hSet : IsP c f_headers_Set (RH SetPre SetG)) (hS : IsP c f_headers_Split (RH GetPre SplitG)) (hG : IsP c f_headers_Get (RH GetPre GetG)) (hR : IsP c f_headers_Range RngR) (hSa : IsP c f_headers_Safe SafeR) (hFo : IsP c f_headers_Forbidden ForbR)
    (hSame : IsP c f_book_Same_Header SameR) (hH : IsP c f_law5_h (RV HPre HG)) (hLo : IsP c f_law5_long (RV LongPre LongG)) (hKn : ∀ H τ q, c f_law5_known [] H τ q = q (.bool true) H τ) (H : Heap) (hw : WF H) (τ : Tape) :
    ∃ H' τ', Gr H.size H H' ∧ ∀ q, s_law5_HeadersNumbers c N H τ q = q (.bool true) H' τ' := by
  obtain ⟨r0, H1, τ1, g1, _, _, k1⟩ := k_headers_Add (n := []) (v := [120]) hAdd (hs := []) (by simp) (by simp) (by simp) hw (RdH.mkNil H) τ
  obtain ⟨r5, H2, τ2, g2, _, _, k2⟩ := k_headers_Add (n := [120]) (v := [97, 10, 98]) hAdd (hs := []) (by simp) (by simp) (by simp) g1.wf (RdH.mkNil H1) τ1
  have a1 : eMakeSlice 2 32 [(.str []), (.str [])] [.int .i64 (.ofNat 64), .int .i64 (.ofNat 64)] H2 τ2 = some (.sl H2.size 0 64 64 none 2, H2.new (repl 64 [.str [], .str []]) (64 * 2) false, τ2) := rfl
  rw [repl_hd] at a1
  have g3 := Gr.new g2.wf (hcells (List.replicate 64 (([], []) : Hd))) (64 * 2) false
  have d3 := Lc_new g2.wf (List.replicate 64 (([], []) : Hd)) (64 * 2)
  rw [List.length_replicate] at d3
  generalize H2.new (hcells (List.replicate 64 (([], []) : Hd))) (64 * 2) false = H3 at a1 g3 d3
  obtain ⟨r13, H4, τ4, g4, _, _, k4⟩ := k_headers_Add (n := [120]) (v := [121]) hAdd (hs := List.replicate 64 ([], [])) (by simp) (by simp) (by simp) g3.wf d3 τ2
  have k5 := fun H τ q => k_law5_long hLo 4097 (by omega) H τ q
  have hl5 : (asT 4097).length = 4097 := List.length_replicate ..
  obtain ⟨r21, H6, τ6, g6, _, _, k6⟩ := k_headers_Add (n := [120]) (v := asT 4097) hAdd (hs := []) (by simp) (by simp) (by rw [hl5]; omega) g4.wf (RdH.mkNil H4) τ4
  have kh := fun a b H τ q => k_law5_h hH a b H τ q
  have a7 : ∀ τ, eBuildSlice 3 2 (repl 6 [(.str [])]) [(0, 2), (2, 2), (4, 2)] [hv ([88], [49]), hv ([121], [50]), hv ([120], [51])] H6 τ = some (.sl H6.size 0 3 3 none 2, H6.new (hcells [([88], [49]), ([121], [50]), ([120], [51])]) (3 * 2) false, τ) := fun _ => rfl
  have g7 := Gr.new g6.wf (hcells [([88], [49]), ([121], [50]), ([120], [51])]) (3 * 2) false
  have d7 : RdH _ (.sl H6.size 0 3 3 none 2) _ := Lc_new g6.wf [([88], [49]), ([121], [50]), ([120], [51])] (3 * 2)
  generalize H6.new (hcells [([88], [49]), ([121], [50]), ([120], [51])]) (3 * 2) false = H7 at a7 g7 d7
  obtain ⟨r8, H8, τ8, g8, s8, _, k8⟩ := k_Set (n := [120]) (v := [32, 57, 32]) hSet (hs := [([88], [49]), ([121], [50]), ([120], [51])]) ⟨by simp, by simp, by simp, by simp⟩ g7.wf d7 τ6
  have e8 : setE [120] [32, 57, 32] [([88], [49]), ([121], [50]), ([120], [51])] = 0 := by decide
  have t8 : setT [120] [32, 57, 32] [([88], [49]), ([121], [50]), ([120], [51])] = [([88], [57]), ([121], [50])] := by decide
  have d8 := (s8 e8).rdH
  rw [t8] at d8
  rw [e8] at k8
  have a9 : ∀ τ, eBuildSlice 1 2 [(.str []), (.str [])] [(0, 2)] [hv ([97], [])] H8 τ = some (.sl H8.size 0 1 1 none 2, H8.new (hcells [([97], [])]) (1 * 2) false, τ) := fun _ => rfl
  have g9 := Gr.new g8.wf (hcells [([97], [])]) (1 * 2) false
  have d9 : RdH _ (.sl H8.size 0 1 1 none 2) _ := Lc_new g8.wf [([97], [])] (1 * 2)
  have d89 := d8.gr g9 g8.wf (Nat.le_refl _)
  generalize H8.new (hcells [([97], [])]) (1 * 2) false = H9 at a9 g9 d9 d89
  obtain ⟨r10, H10, τ10, o10, g10, k10⟩ := k_Split hS (hs := [([97], [])]) ⟨by simp, by simp⟩ (name := [97]) (by simp) g9.wf d9 τ8
  have t10 : splitT [97] [([97], [])] = [[]] := by decide
  have b10 : decide (0 < (sel [97] [([97], [])]).length) = true := by decide
  rw [t10] at o10
  rw [b10] at k10
  have d810 := d89.gr g10 g9.wf (Nat.le_refl _)
  have k11 := fun τ q => k_Get hG (hs := []) ⟨by simp, by simp⟩ (name := [97]) (by simp) (RdH.mkNil H10) τ q
  have b11 : getV [97] [] = .tup [.str [], .bool false] := by
    unfold getV
    have e1 : getT [97] [] = [] := by decide
    have e2 : decide (0 < (sel [97] []).length) = false := by decide
    rw [e1, e2]
  have kR := fun (s : Bs) (hs : s.length ≤ 9223372036854775806) H τ q => k_Range hR s hs H τ q
  have kR1 := fun H τ q => kR [98, 121, 116, 101, 115, 61, 45, 53] (by simp) H τ q
  have kR2 := fun H τ q => kR [98, 121, 116, 101, 115, 61, 53, 45, 52] (by simp) H τ q
  have q1 : rng [98, 121, 116, 101, 115, 61, 45, 53] = (-1, 5, true) := by decide
  have q2 : rng [98, 121, 116, 101, 115, 61, 53, 45, 52] = (0, 0, false) := by decide
  have kr1 : ∀ H τ q, c f_headers_Range [.str [98, 121, 116, 101, 115, 61, 45, 53]] H τ q = q (.tup [.int .i64 (-1), .int .i64 5, .bool true]) H τ := fun H τ q => by
    have := kR1 H τ q; unfold rngV at this; rw [q1] at this; exact this
  have kr2 : ∀ H τ q, c f_headers_Range [.str [98, 121, 116, 101, 115, 61, 53, 45, 52]] H τ q = q (.tup [.int .i64 0, .int .i64 0, .bool false]) H τ := fun H τ q => by
    have := kR2 H τ q; unfold rngV at this; rw [q2] at this; exact this
  have a12 : ∀ τ, eBuildSlice 2 2 [(.str []), (.str []), (.str []), (.str [])] [(0, 2), (2, 2)] [hv ([88], [57]), hv ([121], [50])] H10 τ = some (.sl H10.size 0 2 2 none 2, H10.new (hcells [([88], [57]), ([121], [50])]) (2 * 2) false, τ) := fun _ => rfl
  have g12 := Gr.new g10.wf (hcells [([88], [57]), ([121], [50])]) (2 * 2) false
  have d12 : RdH _ (.sl H10.size 0 2 2 none 2) _ := Lc_new g10.wf [([88], [57]), ([121], [50])] (2 * 2)
  have d812 := d810.gr g12 g10.wf (Nat.le_refl _)
  have o12 := o10.rd.gr g12 g10.wf (Nat.le_refl _)
  generalize H10.new (hcells [([88], [57]), ([121], [50])]) (2 * 2) false = H12 at a12 g12 d12 d812 o12
  have w12 := fun τ q => k_book_Same_Header hSame (hs := [([88], [57]), ([121], [50])]) (by simp) d812 d12 τ q
  have pl12 : pLen [r10] = some (.int .i64 (.ofNat 1)) := o12.pLen
  obtain ⟨pp, p1, p2⟩ := o12.elem1 (i := 0) (x := .str []) rfl
  have p1' : pSlIdx 1 [r10, .int .i64 (.ofNat 0)] = some pp := p1
  have kS1 := fun H τ q => k_Safe hSa [114, 97, 110, 103, 101] [98, 121, 116, 101, 115, 61, 45, 53] (by simp) H τ q
  have kS2 := fun H τ q => k_Safe hSa [82, 97, 110, 103, 101] [98, 121, 116, 101, 115, 61, 48, 45] (by simp) H τ q
  have kS3 := fun H τ q => k_Safe hSa [97, 99, 99, 101, 112, 116] (asT 129) (by simp) H τ q
  have kF1 := fun H τ q => k_Forbidden hFo [83, 101, 99, 45, 88] (by simp) H τ q
  have kF2 := fun H τ q => k_Forbidden hFo [67, 111, 111, 107, 105, 101] (by simp) H τ q
  have kF3 := fun H τ q => k_Forbidden hFo [120] (by simp) H τ q
  have v1 : safeB [114, 97, 110, 103, 101] [98, 121, 116, 101, 115, 61, 45, 53] = false := by decide
  have v2 : safeB [82, 97, 110, 103, 101] [98, 121, 116, 101, 115, 61, 48, 45] = true := by decide
  have v4 : forbB [83, 101, 99, 45, 88] = true := by decide
  have v5 : forbB [67, 111, 111, 107, 105, 101] = true := by decide
  have v6 : forbB [120] = false := by decide
  rw [v1] at kS1
  rw [v2] at kS2
  rw [safe_long] at kS3
  rw [v4] at kF1
  rw [v5] at kF2
  rw [v6] at kF3
  have kl2 := fun H τ q => k_law5_long hLo 129 (by omega) H τ q
  have E1 : addE [] [120] ([] : List Hd).length = 1 := by decide
  have E2 : addE [120] [97, 10, 98] ([] : List Hd).length = 1 := by decide
  have E3 : addE [120] [121] (List.replicate 64 (([], []) : Hd)).length = 4 := by rw [List.length_replicate]; decide
  have E4 : addE [120] (asT 4097) ([] : List Hd).length = 3 := addE_long
  rw [E1] at k1
  rw [E2] at k2
  rw [E3] at k4
  rw [E4] at k6
  have z1 := g1.size
  have z2 := g2.size
  have z3 := g3.size
  have z4 := g4.size
  have z6 := g6.size
  have z7 := g7.size
  have z8 := g8.size
  have z9 := g9.size
  have z10 := g10.size
  refine ⟨H12, τ10, ((((((((g1.trans g2 z1).trans g3 (by omega)).trans g4 (by omega)).trans g6 (by omega)).trans g7 (by omega)).trans g8 (by omega)).trans g9 (by omega)).trans g10 (by omega)).trans g12 (by omega), fun q => ?_⟩
  have bsx : ∀ l : List Nat, bs l = l.map UInt8.ofNat := fun _ => rfl
  have n1 : ((1 : Int) == Int.ofNat 1) = true := rfl
  have n4 : ((4 : Int) == Int.ofNat 4) = true := rfl
  have n3 : ((3 : Int) == Int.ofNat 3) = true := rfl
  have n0 : ((0 : Int) == Int.ofNat 0) = true := rfl
  have nm : ((-1 : Int) == Int.negSucc 0) = true := rfl
  have n5 : ((5 : Int) == Int.ofNat 5) = true := rfl
  have n11 : (Int.ofNat 1 == Int.ofNat 1) = true := rfl
  have ee : (([] : Bs) == []) = true := rfl
  have b1 : bs [120] = [120] := rfl
  have b2 : bs [97, 10, 98] = [97, 10, 98] := rfl
  have b3 : bs [121] = [121] := rfl
  have b4 : bs [88] = [88] := rfl
  have b5 : bs [49] = [49] := rfl
  have b6 : bs [50] = [50] := rfl
  have b7 : bs [51] = [51] := rfl
  have b8 : bs [32, 57, 32] = [32, 57, 32] := rfl
  have b9 : bs [97] = [97] := rfl
  have c1 : bs [98, 121, 116, 101, 115, 61, 45, 53] = [98, 121, 116, 101, 115, 61, 45, 53] := rfl
  have c2 : bs [98, 121, 116, 101, 115, 61, 53, 45, 52] = [98, 121, 116, 101, 115, 61, 53, 45, 52] := rfl
  have c3 : bs [57] = [57] := rfl
  have c4 : bs [114, 97, 110, 103, 101] = [114, 97, 110, 103, 101] := rfl
  have c5 : bs [82, 97, 110, 103, 101] = [82, 97, 110, 103, 101] := rfl
  have c6 : bs [98, 121, 116, 101, 115, 61, 48, 45] = [98, 121, 116, 101, 115, 61, 48, 45] := rfl
  have c7 : bs [83, 101, 99, 45, 88] = [83, 101, 99, 45, 88] := rfl
  have c8 : bs [67, 111, 111, 107, 105, 101] = [67, 111, 111, 107, 105, 101] := rfl
  have c9 : bs [97, 99, 99, 101, 112, 116] = [97, 99, 99, 101, 112, 116] := rfl
  simp only [s_law5_HeadersNumbers, b1, b2, b3, b4, b5, b6, b7, b8, b9, c1, c2, c3, c4, c5, c6, c7, c8, c9, k1, k2, a1, k4, k5, k6, kh, a7, k8, a9, k10, k11, b11, kr1, kr2, ext0, ext1, ext30, ext31, ext32, someK_n, effK_n, bin_eql, n1, n4, n3, n0, nm, n5, n11, gK_do, retK, pick_mk, cond_true, a12, w12, pl12, p1', p2, bin_str, str_eql, ee, un_not, Bool.not_false, kS1, kS2, kF1, kF2, kF3, kl2, kS3, hKn]
def HeadersNumbersR (vs : List V) (_ : Heap) (o : Out) : Prop := vs = [] ∧ o = .val (.bool true)
noncomputable abbrev rw_HeadersNumbers : List Row := [Row.fn f_law5_HeadersNumbers fn_law5_HeadersNumbers e_law5_HeadersNumbers, Row.prim f_headers_Add (outP (RH AddPre AddG)), Row.prim f_headers_Set (outP (RH SetPre SetG)), Row.prim f_headers_Split (outP (RH GetPre SplitG)), Row.prim f_headers_Get (outP (RH GetPre GetG)), Row.prim f_headers_Range (outP RngR), Row.prim f_headers_Safe (outP SafeR), Row.prim f_headers_Forbidden (outP ForbR), Row.prim f_book_Same_Header (outP SameR), Row.prim f_law5_h (outP (RV HPre HG)), Row.prim f_law5_long (outP (RV LongPre LongG)), Row.prim f_law5_known closedP]
theorem headersNumbers_ok : ∀ base w0, PrimOk PG base w0 f_law5_HeadersNumbers (outP HeadersNumbersR) := by
  obtain ⟨N, hN⟩ := someN
  refine primOk_out mixed_ok (l := rw_HeadersNumbers) (.fn ok_law5_HeadersNumbers e_law5_HeadersNumbers_ok (.prim p_headers_Add (.prim p_headers_Set (.prim p_headers_Split (.prim p_headers_Get (.prim p_headers_Range (.prim p_headers_Safe (.prim p_headers_Forbidden (.prim p_book_Same_Header (.prim p_law5_h (.prim p_law5_long (.prim closed_law5_known_ok (.nil _))))))))))))) N 2 _ ?_
  rintro vs H o hw hvs ⟨rfl, rfl⟩ τ
  obtain ⟨H', τ', g, k⟩ := s_law5_HeadersNumbers_ret (CR rw_HeadersNumbers N 1) (N := N) (fun _ _ _ _ => rfl) (fun _ _ _ _ => rfl) (fun _ _ _ _ => rfl) (fun _ _ _ _ => rfl) (fun _ _ _ _ => rfl) (fun _ _ _ _ => rfl) (fun _ _ _ _ => rfl) (fun _ _ _ _ => rfl) (fun _ _ _ _ => rfl) (fun _ _ _ _ => rfl) (closedP_call fun _ _ _ _ => rfl) H hw τ
  exact ⟨_, H', τ', k retK, g, rfl, trivial⟩
theorem headersNumbers_fun : Fun1 HeadersNumbersR := fun vs H o o' k k' => k.2.trans k'.2.symm
theorem headersNumbers_in (H : Heap) (τ : Tape) : outP HeadersNumbersR [] H τ = some (.bool true, H, τ) := outP_mk headersNumbers_fun ⟨rfl, rfl⟩ τ
end Go.Am.X


