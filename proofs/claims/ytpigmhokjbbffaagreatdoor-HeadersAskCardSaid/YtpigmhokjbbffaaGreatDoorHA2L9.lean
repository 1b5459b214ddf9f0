/- The abstract machine, printed functions of the program, and what they are shown to be. -/
import Derived.Test.YtpigmhokjbbffaaGreatDoorHA2L8
import Derived.Test.YtpigmhokjbbffaaGreatDoorHA2L3
import Derived.Test.YtpigmhokjbbffaaGreatDoorHA2L7
namespace Go.Am.X
set_option linter.unusedSimpArgs false
set_option linter.unusedVariables false
set_option linter.unusedSectionVars false
set_option maxRecDepth 100000
theorem p_headers_is : ∀ base w0, PrimOk PG base w0 f_headers_is (outP RNamedR) := by
  refine primOk_E 4 _ ?_
  rintro vs H o hw hvs ⟨hp, rfl⟩ τ
  unfold NamedPre at hp; split at hp
  · rename_i a b n
    obtain ⟨H', τ', g, k⟩ := d_headers_is nb 4 (by omega) n hp.2 a b hp.1 H hw τ retK
    exact ⟨_, H', τ', k, g, rfl, trivial⟩
  · exact hp.elim
abbrev NIsOk (c : CallK) : Prop := ∀ (h : Hd) (n : Bs), h.1.length ≤ 140737488355328 → n.length ≤ 140737488355328 → ∀ H τ q, c f_headers_is [hv h, .str n] H τ q = q (.bool (named n h)) H τ
theorem k_headers_is {c : CallK} (h : IsP c f_headers_is RNamedR) : NIsOk c := fun hd n h1 h2 H τ q => RV_call h (vs := [.agg [.str hd.1, .str hd.2], .str n]) ⟨h1, h2⟩ H τ q
def SameSR (vs : List V) (H : Heap) (o : Out) : Prop := ∃ (a b : V) (ss : List Bs), vs = [a, b] ∧ Rd H 1 a ss.length (ss.map V.str) ∧ Rd H 1 b ss.length (ss.map V.str) ∧ ss.length < 1000000 ∧ o = .val (.bool true)
theorem SameSR_fun : Fun1 SameSR := by
  rintro vs H o o' ⟨_, _, _, _, _, _, _, rfl⟩ ⟨_, _, _, _, _, _, _, rfl⟩; rfl
theorem p_book_Same_string : ∀ base w0, PrimOk PG base w0 f_book_Same_string (outP SameSR) := by
  obtain ⟨N, hN⟩ := someN
  refine primOk_out mixed_ok (l := [Row.fn f_book_Same_string fn_book_Same_string e_book_Same_string]) (.fn ok_book_Same_string e_book_Same_string_ok (.nil _)) N 1 _ ?_
  rintro vs H o hw hvs ⟨a, b, ss, rfl, ha, hb, hl, rfl⟩ τ
  exact ⟨_, H, τ, s_book_Same_string_ret (CR [Row.fn f_book_Same_string fn_book_Same_string e_book_Same_string] N 0) N hN a b ss hl H ha hb τ retK, Gr.refl hw, rfl, trivial⟩
theorem k_book_Same_string {c : CallK} (h : IsP c f_book_Same_string SameSR) {a b : V} {ss : List Bs} (hl : ss.length < 1000000) {H : Heap} (ha : Rd H 1 a ss.length (ss.map V.str)) (hb : Rd H 1 b ss.length (ss.map V.str)) (τ : Tape) (q : KV) : c f_book_Same_string [a, b] H τ q = q (.bool true) H τ :=
  outK_val h SameSR_fun ⟨a, b, ss, rfl, ha, hb, hl, rfl⟩ τ q
def scT : Bs := [115, 101, 116, 45, 99, 111, 111, 107, 105, 101]
def lowN (hs : List Hd) : List Bs := hs.map fun h => lower h.1
def oneT (hs : List Hd) (n : Bs) : List Hd := bif n == scT then (hs.filter (named n)).map (fun h => (n, h.2)) else [(n, getT n hs)]
def sortT (hs : List Hd) : List Hd := (srtT (lowN hs)).flatMap (oneT hs)
theorem oneT_len (hs : List Hd) (n : Bs) : (oneT hs n).length ≤ hs.length + 1 := by
  unfold oneT
  cases (n == scT) with
  | true => rw [cond_true, List.length_map]; have := List.length_filter_le (named n) hs; omega
  | false => simp
theorem flat_len (hs : List Hd) : ∀ (l : List Bs), (l.flatMap (oneT hs)).length ≤ l.length * (hs.length + 1) := by
  intro l
  induction l with
  | nil => simp
  | cons n l ih =>
    have := oneT_len hs n
    rw [List.flatMap_cons, List.length_append, List.length_cons, Nat.succ_mul]; omega
theorem lowN_len (hs : List Hd) : (srtT (lowN hs)).length ≤ hs.length := by
  have := (srtT_ok (lowN hs)).2.2
  simpa [lowN] using this
theorem lower_len (s : Bs) : (lower s).length = s.length := by simp [lower]
theorem lowN_small {hs : List Hd} (hS : Small hs) : ∀ n ∈ srtT (lowN hs), n.length ≤ 10000 := by
  intro n hn
  have := ((srtT_ok (lowN hs)).2.1 n).1 hn
  unfold lowN at this
  obtain ⟨h, hh, rfl⟩ := List.mem_map.1 this
  rw [lower_len]; exact (hS.all h hh).1
theorem sortT_len {hs : List Hd} (hS : hs.length ≤ 900) : (sortT hs).length ≤ 900000 := by
  have h1 := flat_len hs (srtT (lowN hs))
  have h2 := lowN_len hs
  have h4 : (srtT (lowN hs)).length * (hs.length + 1) ≤ 900 * 901 := Nat.mul_le_mul (by omega) (by omega)
  unfold sortT; omega
theorem l_ref5_Sorted_names (c : CallK) (N : Nat) (hL : RLowOk c) (hs : List Hd) (hS : Small hs) (lv : V) (B : Nat) : ∀ (l pre : List Hd) (ov : V) (H : Heap) (τ : Tape) (m : Nat), hs = pre ++ l → l.length < m → WF H → B ≤ H.size → (∀ H', Gr B H H' → RdH H' lv hs) → LsS H B ov (lowN pre) →
    ∃ ov' H' τ', LsS H' B ov' (lowN hs) ∧ Gr B H H' ∧ ∀ (fr : T V) k, fr.get 0 = some lv → fr.get 3 = some ov → fr.get 4 = some (.int .i64 (pre.length : Int)) →
      loopK (s_ref5_Sorted_l6 c N) m ⟨fr, H⟩ τ k = k (.exit 0) ⟨(T.set (T.set .leaf 0 lv) 3 ov'), H'⟩ τ' := by
  intro l
  induction l with
  | nil =>
    intro pre ov H τ m he hm hw hB hrd ho
    obtain ⟨m, rfl⟩ : ∃ j, m = j + 1 := ⟨m - 1, by omega⟩
    have e1 : decide (pre.length < hs.length) = false := decide_eq_false (by rw [he]; simp)
    have pl := (hrd H (Gr.refl hw)).1.pLen
    refine ⟨ov, H, τ, by rw [he, List.append_nil]; exact ho, Gr.refl hw, fun fr k f0 f3 f4 => ?_⟩
    rw [loopK_succ]
    simp only [s_ref5_Sorted_l6, getK_mk f0, getK_mk f3, getK_mk f4, pl, getK_set, ↓reduceIte, Nat.reduceEqDiff, someK_n, effK_n, retK, gK_do, gK_do', gK_skip, gK_skip', gK_none, pick_mk, cond_true, cond_false, condK_tn, condK_fn, bin_eql, bin_neq, bin_lss, bin_leq, bin_gtr, bin_geq, un_not, Bool.not_true, Bool.not_false, bin_str, lenS_mk, nle_l, nle_r, nle_n, nlt_l, nlt_r, nlt_n, neq_r, neq_n, nne_r, nne_n, ext0, ext1, ext30, ext31, ext32, bin_add, bin_sub, decide_true, decide_false, e1]
    rfl
  | cons x l ih =>
    intro pre ov H τ m he hm hw hB hrd ho
    obtain ⟨m, rfl⟩ : ∃ j, m = j + 1 := ⟨m - 1, by omega⟩
    have hlt : pre.length < hs.length := by rw [he]; simp
    have hl := hS.len
    have e1 : decide (pre.length < hs.length) = true := decide_eq_true hlt
    have e3 : wr .i64 ((pre.length : Int) + Int.ofNat 1) = ((pre ++ [x]).length : Int) := by rw [adI (by omega)]; simp
    have hr := (hrd H (Gr.refl hw)).1
    have pl := hr.pLen
    obtain ⟨id, o, p1, p2⟩ := hd_at (v := lv) pre x l (H := H) (by rw [← he]; exact hr)
    obtain ⟨q1, q2, q3⟩ := p2 H (by rw [← he]; exact hr)
    have pf : pFieldAddr 0 [.ptr id o] = some (.ptr id o) := rfl
    have hx := hS.all x (by rw [he]; simp)
    have kl := hL x.1 (by omega)
    obtain ⟨w, H1, v', H2, τ2, r1, r2, r3, r4⟩ := ho.put hw hB (lower x.1) (by simp [lowN]; omega) τ
    obtain ⟨ov', H', τ', i1, i2, i3⟩ := ih (pre ++ [x]) v' H2 τ2 m (by rw [he]; simp) (by simp at hm; omega) r4.wf (Nat.le_trans hB r4.size) (fun H' hg => hrd H' (r4.trans hg (Nat.le_refl _))) (by simpa [lowN] using r3)
    refine ⟨ov', H', τ', i1, r4.trans i2 (Nat.le_refl _), fun fr k f0 f3 f4 => ?_⟩
    rw [loopK_succ]
    simp only [s_ref5_Sorted_l6, getK_mk f0, getK_mk f3, getK_mk f4, pl, getK_set, ↓reduceIte, Nat.reduceEqDiff, someK_n, effK_n, retK, gK_do, gK_do', gK_skip, gK_skip', gK_none, pick_mk, cond_true, cond_false, condK_tn, condK_fn, bin_eql, bin_neq, bin_lss, bin_leq, bin_gtr, bin_geq, un_not, Bool.not_true, Bool.not_false, bin_str, lenS_mk, nle_l, nle_r, nle_n, nlt_l, nlt_r, nlt_n, neq_r, neq_n, nne_r, nne_n, ext0, ext1, ext30, ext31, ext32, bin_add, bin_sub, decide_true, decide_false, e1, p1, pf, q2, kl, r1, r2, e3]
    exact i3 _ k (by simp [T.get_set]) (by simp [T.get_set]) (by simp [T.get_set])
/-- the cookies -/
theorem l_ref5_Sorted_ck (c : CallK) (N : Nat) (hNm : RNamedOk c) (hs : List Hd) (hS : Small hs) (lv nv : V) (ns : List Bs) (n : Bs) (j : Nat) (hn : n.length ≤ 10000) (hj : (ns.map V.str)[j]? = some (.str n)) (acc : List Hd) (B : Nat) (hacc : acc.length ≤ 998000) : ∀ (l pre : List Hd) (ov : V) (H : Heap) (τ : Tape) (m : Nat), hs = pre ++ l → l.length < m → WF H → B ≤ H.size → (∀ H', Gr B H H' → RdH H' lv hs) → (∀ H', Gr B H H' → Rd H' 1 nv ns.length (ns.map V.str)) → LsH H B ov (acc ++ (pre.filter (named n)).map (fun h => (n, h.2))) →
    ∃ ov' H' τ', LsH H' B ov' (acc ++ (hs.filter (named n)).map (fun h => (n, h.2))) ∧ Gr B H H' ∧ ∀ (fr : T V) k, fr.get 0 = some lv → fr.get 3 = some nv → fr.get 5 = some ov → fr.get 6 = some (.int .i64 (j : Int)) → fr.get 9 = some (.int .i64 (pre.length : Int)) →
      loopK (s_ref5_Sorted_l4 c N) m ⟨fr, H⟩ τ k = k (.exit 4) ⟨(T.set (T.set (T.set (T.set .leaf 0 lv) 3 nv) 5 ov') 6 (.int .i64 (j : Int))), H'⟩ τ' := by
  intro l
  induction l with
  | nil =>
    intro pre ov H τ m he hm hw hB hrd hnd ho
    obtain ⟨m, rfl⟩ : ∃ j, m = j + 1 := ⟨m - 1, by omega⟩
    have e1 : decide (pre.length < hs.length) = false := decide_eq_false (by rw [he]; simp)
    have pl := (hrd H (Gr.refl hw)).1.pLen
    refine ⟨ov, H, τ, by rw [he, List.append_nil]; exact ho, Gr.refl hw, fun fr k f0 f3 f5 f6 f9 => ?_⟩
    rw [loopK_succ]
    simp only [s_ref5_Sorted_l4, getK_mk f0, getK_mk f3, getK_mk f5, getK_mk f6, getK_mk f9, pl, getK_set, ↓reduceIte, Nat.reduceEqDiff, someK_n, effK_n, retK, gK_do, gK_do', gK_skip, gK_skip', gK_none, pick_mk, cond_true, cond_false, condK_tn, condK_fn, bin_eql, bin_neq, bin_lss, bin_leq, bin_gtr, bin_geq, un_not, Bool.not_true, Bool.not_false, bin_str, lenS_mk, nle_l, nle_r, nle_n, nlt_l, nlt_r, nlt_n, neq_r, neq_n, nne_r, nne_n, ext0, ext1, ext30, ext31, ext32, bin_add, bin_sub, decide_true, decide_false, e1]
    rfl
  | cons x l ih =>
    intro pre ov H τ m he hm hw hB hrd hnd ho
    obtain ⟨m, rfl⟩ : ∃ j, m = j + 1 := ⟨m - 1, by omega⟩
    have hlt : pre.length < hs.length := by rw [he]; simp
    have hl := hS.len
    have e1 : decide (pre.length < hs.length) = true := decide_eq_true hlt
    have e3 : wr .i64 ((pre.length : Int) + Int.ofNat 1) = ((pre ++ [x]).length : Int) := by rw [adI (by omega)]; simp
    have hr := (hrd H (Gr.refl hw)).1
    have pl := hr.pLen
    obtain ⟨id, o, p1, p2⟩ := hd_at (v := lv) pre x l (H := H) (by rw [← he]; exact hr)
    obtain ⟨q1, q2, q3⟩ := p2 H (by rw [← he]; exact hr)
    have pf : pFieldAddr 1 [.ptr id o] = some (.ptr id (o + 1)) := rfl
    have hx := hS.all x (by rw [he]; simp)
    obtain ⟨pn, n1, n2⟩ := (hnd H (Gr.refl hw)).elem1 hj
    have kn := fun H τ q => hNm x n (by omega) (by omega) H τ q
    cases hb : named n x with
    | false =>
      obtain ⟨ov', H', τ', i1, i2, i3⟩ := ih (pre ++ [x]) ov H τ m (by rw [he]; simp) (by simp at hm; omega) hw hB hrd hnd (by rw [List.filter_append]; simpa [hb] using ho)
      refine ⟨ov', H', τ', i1, i2, fun fr k f0 f3 f5 f6 f9 => ?_⟩
      rw [loopK_succ]
      simp only [s_ref5_Sorted_l4, getK_mk f0, getK_mk f3, getK_mk f5, getK_mk f6, getK_mk f9, pl, getK_set, ↓reduceIte, Nat.reduceEqDiff, someK_n, effK_n, retK, gK_do, gK_do', gK_skip, gK_skip', gK_none, pick_mk, cond_true, cond_false, condK_tn, condK_fn, bin_eql, bin_neq, bin_lss, bin_leq, bin_gtr, bin_geq, un_not, Bool.not_true, Bool.not_false, bin_str, lenS_mk, nle_l, nle_r, nle_n, nlt_l, nlt_r, nlt_n, neq_r, neq_n, nne_r, nne_n, ext0, ext1, ext30, ext31, ext32, bin_add, bin_sub, decide_true, decide_false, e1, p1, q1, n1, n2, kn, hb, s_ref5_Sorted_j5, e3]
      exact i3 _ k (by simp [T.get_set]) (by simp [T.get_set]) (by simp [T.get_set]) (by simp [T.get_set]) (by simp [T.get_set])
    | true =>
      have pb : pBuild [(.str []), (.str [])] [(0, 1), (1, 1)] [.str n, .str x.2] = some (hv (n, x.2)) := rfl
      have hfl := List.length_filter_le (named n) pre
      obtain ⟨w, H1, v', H2, τ2, r1, r2, r3, r4, _, _⟩ := ho.put hw hB (n, x.2) (by simp; omega) τ
      obtain ⟨ov', H', τ', i1, i2, i3⟩ := ih (pre ++ [x]) v' H2 τ2 m (by rw [he]; simp) (by simp at hm; omega) r4.wf (Nat.le_trans hB r4.size) (fun H' hg => hrd H' (r4.trans hg (Nat.le_refl _))) (fun H' hg => hnd H' (r4.trans hg (Nat.le_refl _))) (by rw [List.filter_append]; simpa [hb] using r3)
      refine ⟨ov', H', τ', i1, r4.trans i2 (Nat.le_refl _), fun fr k f0 f3 f5 f6 f9 => ?_⟩
      rw [loopK_succ]
      simp only [s_ref5_Sorted_l4, getK_mk f0, getK_mk f3, getK_mk f5, getK_mk f6, getK_mk f9, pl, getK_set, ↓reduceIte, Nat.reduceEqDiff, someK_n, effK_n, retK, gK_do, gK_do', gK_skip, gK_skip', gK_none, pick_mk, cond_true, cond_false, condK_tn, condK_fn, bin_eql, bin_neq, bin_lss, bin_leq, bin_gtr, bin_geq, un_not, Bool.not_true, Bool.not_false, bin_str, lenS_mk, nle_l, nle_r, nle_n, nlt_l, nlt_r, nlt_n, neq_r, neq_n, nne_r, nne_n, ext0, ext1, ext30, ext31, ext32, bin_add, bin_sub, decide_true, decide_false, e1, p1, q1, n1, n2, kn, hb, pf, q3, pb, r1, r2, s_ref5_Sorted_j5, e3]
      exact i3 _ k (by simp [T.get_set]) (by simp [T.get_set]) (by simp [T.get_set]) (by simp [T.get_set]) (by simp [T.get_set])
theorem l_ref5_Sorted (c : CallK) {N : Nat} (hN : 9223372036854775807 < N) (hG : IsP c f_ref5_Get (RH GetPre GetG)) (hNm : RNamedOk c) (hs : List Hd) (hS : Small hs) (h9 : hs.length ≤ 900) (lv nv : V) (ns : List Bs) (hns : ns.length ≤ hs.length) (hnl : ∀ n ∈ ns, n.length ≤ 10000) (B : Nat) : ∀ (l pre : List Bs) (ov : V) (H : Heap) (τ : Tape) (m : Nat), ns = pre ++ l → l.length < m → WF H → B ≤ H.size → (∀ H', Gr B H H' → RdH H' lv hs) → (∀ H', Gr B H H' → Rd H' 1 nv ns.length (ns.map V.str)) → LsH H B ov (pre.flatMap (oneT hs)) →
    ∃ ov' H' τ', LsH H' B ov' (ns.flatMap (oneT hs)) ∧ Gr B H H' ∧ ∀ (fr : T V) k, fr.get 0 = some lv → fr.get 3 = some nv → fr.get 5 = some ov → fr.get 6 = some (.int .i64 (pre.length : Int)) →
      loopK (s_ref5_Sorted_l2 c N) m ⟨fr, H⟩ τ k = k (.exit 2) ⟨(T.set .leaf 5 ov'), H'⟩ τ' := by
  intro l
  induction l with
  | nil =>
    intro pre ov H τ m he hm hw hB hrd hnd ho
    obtain ⟨m, rfl⟩ : ∃ j, m = j + 1 := ⟨m - 1, by omega⟩
    have e1 : decide (pre.length < ns.length) = false := decide_eq_false (by rw [he]; simp)
    have pl := (hnd H (Gr.refl hw)).pLen
    refine ⟨ov, H, τ, by rw [he, List.append_nil]; exact ho, Gr.refl hw, fun fr k f0 f3 f5 f6 => ?_⟩
    rw [loopK_succ]
    simp only [s_ref5_Sorted_l2, getK_mk f0, getK_mk f3, getK_mk f5, getK_mk f6, pl, getK_set, ↓reduceIte, Nat.reduceEqDiff, someK_n, effK_n, retK, gK_do, gK_do', gK_skip, gK_skip', gK_none, pick_mk, cond_true, cond_false, condK_tn, condK_fn, bin_eql, bin_neq, bin_lss, bin_leq, bin_gtr, bin_geq, un_not, Bool.not_true, Bool.not_false, bin_str, lenS_mk, nle_l, nle_r, nle_n, nlt_l, nlt_r, nlt_n, neq_r, neq_n, nne_r, nne_n, ext0, ext1, ext30, ext31, ext32, bin_add, bin_sub, decide_true, decide_false, e1]
    rfl
  | cons x l ih =>
    intro pre ov H τ m he hm hw hB hrd hnd ho
    obtain ⟨m, rfl⟩ : ∃ j, m = j + 1 := ⟨m - 1, by omega⟩
    have hlt : pre.length < ns.length := by rw [he]; simp
    have hl := hS.len
    have e1 : decide (pre.length < ns.length) = true := decide_eq_true hlt
    have e3 : wr .i64 ((pre.length : Int) + Int.ofNat 1) = ((pre ++ [x]).length : Int) := by rw [adI (by omega)]; simp
    have hnr := hnd H (Gr.refl hw)
    have pl := hnr.pLen
    have hj : (ns.map V.str)[pre.length]? = some (.str x) := by rw [he]; simp
    obtain ⟨pn, n1, n2⟩ := hnr.elem1 hj
    have hx := hnl x (by rw [he]; simp)
    have hacc : (pre.flatMap (oneT hs)).length ≤ 998000 := by
      have h1 := flat_len hs pre
      have h2 : pre.length * (hs.length + 1) ≤ 900 * 901 := Nat.mul_le_mul (by omega) (by omega)
      omega
    have ek : bs [115, 101, 116, 45, 99, 111, 111, 107, 105, 101] = scT := rfl
    cases hb : (x == scT) with
    | false =>
      have en : (x != scT) = true := by rw [bne, hb]; rfl
      have kg := fun τ q => k_Get hG hS (name := x) (by omega) (hrd H (Gr.refl hw)) τ q
      have pb : pBuild [(.str []), (.str [])] [(0, 1), (1, 1)] [.str x, .str (getT x hs)] = some (hv (x, getT x hs)) := rfl
      obtain ⟨w, H1, v', H2, τ2, r1, r2, r3, r4, _, _⟩ := ho.put hw hB (x, getT x hs) (by omega) τ
      obtain ⟨ov', H', τ', i1, i2, i3⟩ := ih (pre ++ [x]) v' H2 τ2 m (by rw [he]; simp) (by simp at hm; omega) r4.wf (Nat.le_trans hB r4.size) (fun H' hg => hrd H' (r4.trans hg (Nat.le_refl _))) (fun H' hg => hnd H' (r4.trans hg (Nat.le_refl _))) (by rw [List.flatMap_append]; simpa [oneT, hb] using r3)
      refine ⟨ov', H', τ', i1, r4.trans i2 (Nat.le_refl _), fun fr k f0 f3 f5 f6 => ?_⟩
      rw [loopK_succ]
      simp only [s_ref5_Sorted_l2, getK_mk f0, getK_mk f3, getK_mk f5, getK_mk f6, pl, getK_set, ↓reduceIte, Nat.reduceEqDiff, someK_n, effK_n, retK, gK_do, gK_do', gK_skip, gK_skip', gK_none, pick_mk, cond_true, cond_false, condK_tn, condK_fn, bin_eql, bin_neq, bin_lss, bin_leq, bin_gtr, bin_geq, un_not, Bool.not_true, Bool.not_false, bin_str, lenS_mk, nle_l, nle_r, nle_n, nlt_l, nlt_r, nlt_n, neq_r, neq_n, nne_r, nne_n, ext0, ext1, ext30, ext31, ext32, bin_add, bin_sub, decide_true, decide_false, e1, n1, n2, ek, str_neq, en, kg, pb, r1, r2, s_ref5_Sorted_j3, e3]
      exact i3 _ k (by simp [T.get_set]) (by simp [T.get_set]) (by simp [T.get_set]) (by simp [T.get_set])
    | true =>
      have en : (x != scT) = false := by rw [bne, hb]; rfl
      obtain ⟨v', H2, τ2, r1, r2, r3⟩ := l_ref5_Sorted_ck c N hNm hs hS lv nv ns x pre.length hx hj (pre.flatMap (oneT hs)) B hacc hs [] ov H τ N rfl (by omega) hw hB hrd hnd (by simpa using ho)
      obtain ⟨ov', H', τ', i1, i2, i3⟩ := ih (pre ++ [x]) v' H2 τ2 m (by rw [he]; simp) (by simp at hm; omega) r2.wf (Nat.le_trans hB r2.size) (fun H' hg => hrd H' (r2.trans hg (Nat.le_refl _))) (fun H' hg => hnd H' (r2.trans hg (Nat.le_refl _))) (by rw [List.flatMap_append]; simpa [oneT, hb] using r1)
      refine ⟨ov', H', τ', i1, r2.trans i2 (Nat.le_refl _), fun fr k f0 f3 f5 f6 => ?_⟩
      rw [loopK_succ]
      simp only [s_ref5_Sorted_l2, getK_mk f0, getK_mk f3, getK_mk f5, getK_mk f6, pl, getK_set, ↓reduceIte, Nat.reduceEqDiff, someK_n, effK_n, retK, gK_do, gK_do', gK_skip, gK_skip', gK_none, pick_mk, cond_true, cond_false, condK_tn, condK_fn, bin_eql, bin_neq, bin_lss, bin_leq, bin_gtr, bin_geq, un_not, Bool.not_true, Bool.not_false, bin_str, lenS_mk, nle_l, nle_r, nle_n, nlt_l, nlt_r, nlt_n, neq_r, neq_n, nne_r, nne_n, ext0, ext1, ext30, ext31, ext32, bin_add, bin_sub, decide_true, decide_false, e1, n1, n2, ek, str_neq, en]
      rw [r3 _ _ (by simp [T.get_set]) (by simp [T.get_set]) (by simp [T.get_set]) (by simp [T.get_set]) (by simp [T.get_set])]
      simp only [blockK, Nat.beq_refl, cond_true, seqK, s_ref5_Sorted_j3, getK_set, ↓reduceIte, Nat.reduceEqDiff, someK_n, effK_n, retK, gK_do, gK_do', gK_skip, gK_skip', gK_none, pick_mk, cond_true, cond_false, condK_tn, condK_fn, bin_eql, bin_neq, bin_lss, bin_leq, bin_gtr, bin_geq, un_not, Bool.not_true, Bool.not_false, bin_str, lenS_mk, nle_l, nle_r, nle_n, nlt_l, nlt_r, nlt_n, neq_r, neq_n, nne_r, nne_n, ext0, ext1, ext30, ext31, ext32, bin_add, bin_sub, decide_true, decide_false, e3]
      exact i3 _ k (by simp [T.get_set]) (by simp [T.get_set]) (by simp [T.get_set]) (by simp [T.get_set])
theorem s_ref5_Sorted_ret (c : CallK) {N : Nat} (hN : 9223372036854775807 < N) (hL : RLowOk c) (hG : IsP c f_ref5_Get (RH GetPre GetG)) (hNm : RNamedOk c) (hSr : IsP c f_ref1_Sorted (RSs SrtPre SrtG)) (hs : List Hd) (hS : Small hs) (h9 : hs.length ≤ 900) (lv : V) (H : Heap) (hw : WF H) (hr : RdH H lv hs) (τ : Tape) :
    ∃ v' H' τ', LsH H' H.size v' (sortT hs) ∧ Gr H.size H H' ∧ ∀ q, s_ref5_Sorted c N lv H τ q = q v' H' τ' := by
  obtain ⟨v1, H1, τ1, i1, i2, i3⟩ := l_ref5_Sorted_names c N hL hs hS lv H.size hs [] .nils H τ N rfl (by omega) hw (Nat.le_refl _) (fun H' hg => hr.gr hg hw (Nat.le_refl _)) (LsS.nil _ _)
  obtain ⟨v2, H2, τ2, j1, j2, j3⟩ := k_ref1_Sorted hSr (ss := lowN hs) (by simp [lowN]; omega) i2.wf i1.rdS τ1
  have g12 := i2.trans j2 i2.size
  have hr2 := hr.gr g12 hw (Nat.le_refl _)
  obtain ⟨v3, H3, τ3, m1, m2, m3⟩ := l_ref5_Sorted c hN hG hNm hs hS h9 lv v2 (srtT (lowN hs)) (lowN_len hs) (lowN_small hS) H2.size (srtT (lowN hs)) [] .nils H2 τ2 N rfl (by have := lowN_len hs; omega) j2.wf (Nat.le_refl _) (fun H' hg => hr2.gr hg j2.wf (Nat.le_refl _)) (fun H' hg => j1.rd.gr hg j2.wf (Nat.le_refl _)) (LsH.nil _ _)
  refine ⟨v3, H3, τ3, m1.weaken g12.size, g12.trans m2 g12.size, fun q => ?_⟩
  simp only [s_ref5_Sorted]
  rw [i3 _ _ (by simp [T.get_set]) (by simp [T.get_set]) (by simp [T.get_set])]
  simp only [blockK, Nat.beq_refl, cond_true, seqK, s_ref5_Sorted_j0, getK_set, ↓reduceIte, Nat.reduceEqDiff, someK_n, effK_n, retK, gK_do, gK_do', gK_skip, gK_skip', gK_none, pick_mk, cond_true, cond_false, condK_tn, condK_fn, bin_eql, bin_neq, bin_lss, bin_leq, bin_gtr, bin_geq, un_not, Bool.not_true, Bool.not_false, bin_str, lenS_mk, nle_l, nle_r, nle_n, nlt_l, nlt_r, nlt_n, neq_r, neq_n, nne_r, nne_n, ext0, ext1, ext30, ext31, ext32, bin_add, bin_sub, decide_true, decide_false, j3]
  rw [m3 _ _ (by simp [T.get_set]) (by simp [T.get_set]) (by simp [T.get_set]) (by simp [T.get_set])]
  simp only [blockK, Nat.beq_refl, cond_true, seqK, s_ref5_Sorted_j1, getK_set, ↓reduceIte, Nat.reduceEqDiff, someK_n, effK_n, retK, gK_do, gK_do', gK_skip, gK_skip', gK_none, pick_mk, cond_true, cond_false, condK_tn, condK_fn, bin_eql, bin_neq, bin_lss, bin_leq, bin_gtr, bin_geq, un_not, Bool.not_true, Bool.not_false, bin_str, lenS_mk, nle_l, nle_r, nle_n, nlt_l, nlt_r, nlt_n, neq_r, neq_n, nne_r, nne_n, ext0, ext1, ext30, ext31, ext32, bin_add, bin_sub, decide_true, decide_false]
abbrev SortPre (hs : List Hd) : List V → Prop | [] => Small hs ∧ hs.length ≤ 900 | _ => False
abbrev SortG (_ : Bool) (hs : List Hd) : List V → Out | [] => lstO 2 (sortT hs).length (hcells (sortT hs)) (fun v => v) | _ => .val (.tup [])
noncomputable abbrev rw_RSorted : List Row := [Row.fn f_ref5_Sorted fn_ref5_Sorted e_ref5_Sorted, Row.prim f_ref1_Lower (outP LowR), Row.prim f_ref5_Get (outP (RH GetPre GetG)), Row.prim f_ref5_Named (outP RNamedR), Row.prim f_ref1_Sorted (outP (RSs SrtPre SrtG))]
theorem p_ref5_Sorted : ∀ base w0, PrimOk PG base w0 f_ref5_Sorted (outP (RH SortPre SortG)) := by
  obtain ⟨N, hN⟩ := someN
  refine primRH (N := N) (l := rw_RSorted) (.fn ok_ref5_Sorted e_ref5_Sorted_ok (.prim p_ref1_Lower (.prim p_ref5_Get (.prim p_ref5_Named (.prim p_ref1_Sorted (.nil _)))))) 2 _ (fun hs args hp lv H hw hr τ => ?_)
  unfold SortPre at hp; split at hp
  · obtain ⟨v', H', τ', h1, h2, h3⟩ := s_ref5_Sorted_ret (CR rw_RSorted N 1) hN (k_ref1_Lower fun _ _ _ _ => rfl) (fun _ _ _ _ => rfl) (k_ref5_Named fun _ _ _ _ => rfl) (fun _ _ _ _ => rfl) hs hp.1 hp.2 lv H hw hr τ
    exact ⟨_, H', τ', h2, LsH.met h1 mkOk_id trivial, h3⟩
  · exact hp.elim
theorem k_Sorted {c : CallK} {f : Nat} (h : IsP c f (RH SortPre SortG)) {hs : List Hd} (hS : Small hs) (h9 : hs.length ≤ 900) {lv : V} {H : Heap} (hw : WF H) (hr : RdH H lv hs) (τ : Tape) :
    ∃ v' H' τ', Own H' H.size 2 v' (sortT hs).length (hcells (sortT hs)) ∧ Gr H.size H H' ∧ ∀ q, c f [lv] H τ q = q v' H' τ' :=
  RH_lstO (l := []) h hr ⟨hS, h9⟩ rfl hw (by rw [hcells_length]) τ
theorem l_headers_Sorted_names (c : CallK) (N : Nat) (hL : ∀ (s : Bs), s.length ≤ 140737488355328 → ∀ H τ q, c f_infra_Lower [.str s] H τ q = q (.str (lower s)) H τ) (hs : List Hd) (hS : Small hs) (lv : V) (B : Nat) : ∀ (l pre : List Hd) (ov : V) (H : Heap) (τ : Tape) (m : Nat), hs = pre ++ l → l.length < m → WF H → B ≤ H.size → (∀ H', Gr B H H' → RdH H' lv hs) → LsS H B ov (lowN pre) →
    ∃ ov' H' τ', LsS H' B ov' (lowN hs) ∧ Gr B H H' ∧ ∀ (fr : T V) k, fr.get 0 = some lv → fr.get 3 = some ov → fr.get 13 = some lv → fr.get 14 = some (.int .i64 (hs.length : Int)) → fr.get 15 = some (.int .i64 (pre.length : Int)) →
      loopK (s_headers_Sorted_l6 c N) m ⟨fr, H⟩ τ k = k (.exit 0) ⟨(T.set (T.set .leaf 0 lv) 3 ov'), H'⟩ τ' := by
  intro l
  induction l with
  | nil =>
    intro pre ov H τ m he hm hw hB hrd ho
    obtain ⟨m, rfl⟩ : ∃ j, m = j + 1 := ⟨m - 1, by omega⟩
    have e1 : decide (pre.length < hs.length) = false := decide_eq_false (by rw [he]; simp)
    refine ⟨ov, H, τ, by rw [he, List.append_nil]; exact ho, Gr.refl hw, fun fr k f0 f3 f13 f14 f15 => ?_⟩
    rw [loopK_succ]
    simp only [s_headers_Sorted_l6, getK_mk f0, getK_mk f3, getK_mk f13, getK_mk f14, getK_mk f15, getK_set, ↓reduceIte, Nat.reduceEqDiff, someK_n, effK_n, retK, gK_do, gK_do', gK_skip, gK_skip', gK_none, pick_mk, cond_true, cond_false, condK_tn, condK_fn, bin_eql, bin_neq, bin_lss, bin_leq, bin_gtr, bin_geq, un_not, Bool.not_true, Bool.not_false, bin_str, lenS_mk, nle_l, nle_r, nle_n, nlt_l, nlt_r, nlt_n, neq_r, neq_n, nne_r, nne_n, ext0, ext1, ext30, ext31, ext32, bin_add, bin_sub, decide_true, decide_false, e1]
    rfl
  | cons x l ih =>
    intro pre ov H τ m he hm hw hB hrd ho
    obtain ⟨m, rfl⟩ : ∃ j, m = j + 1 := ⟨m - 1, by omega⟩
    have hlt : pre.length < hs.length := by rw [he]; simp
    have hl := hS.len
    have e1 : decide (pre.length < hs.length) = true := decide_eq_true hlt
    have e3 : wr .i64 ((pre.length : Int) + Int.ofNat 1) = ((pre ++ [x]).length : Int) := by rw [adI (by omega)]; simp
    have hr := (hrd H (Gr.refl hw)).1
    obtain ⟨id, o, p1, p2⟩ := hd_at (v := lv) pre x l (H := H) (by rw [← he]; exact hr)
    obtain ⟨q1, q2, q3⟩ := p2 H (by rw [← he]; exact hr)
    obtain ⟨H1, H2, a1, s1, b2, g2, lt2⟩ := box2 hw (.str x.1) (.str x.2) (.str []) (.str []) rfl rfl τ
    have s1' : eStore 2 [.ptr H.size 0, hv x] H1 τ = some (.tup [], H2, τ) := s1
    have l1a : lLoad1 [.ptr H.size 0] H2 = some (.str x.1) := load_cell b2.cells rfl
    have fa : pFieldAddr 0 [.ptr H.size 0] = some (.ptr H.size 0) := rfl
    have hx := hS.all x (by rw [he]; simp)
    have kl := hL x.1 (by omega)
    have ho2 := ho.gr g2 hw (Nat.le_refl _)
    have gB2 := g2.weaken hB
    obtain ⟨w, H3, v', H4, τ4, r1, r2, r3, r4⟩ := ho2.put g2.wf (Nat.le_trans hB g2.size) (lower x.1) (by simp [lowN]; omega) τ
    have gB4 := gB2.trans r4 (Nat.le_refl _)
    obtain ⟨ov', H', τ', i1, i2, i3⟩ := ih (pre ++ [x]) v' H4 τ4 m (by rw [he]; simp) (by simp at hm; omega) r4.wf (Nat.le_trans hB gB4.size) (fun H' hg => hrd H' (gB4.trans hg (Nat.le_refl _))) (by simpa [lowN] using r3)
    refine ⟨ov', H', τ', i1, gB4.trans i2 (Nat.le_refl _), fun fr k f0 f3 f13 f14 f15 => ?_⟩
    rw [loopK_succ]
    simp only [s_headers_Sorted_l6, getK_mk f0, getK_mk f3, getK_mk f13, getK_mk f14, getK_mk f15, getK_set, ↓reduceIte, Nat.reduceEqDiff, someK_n, effK_n, retK, gK_do, gK_do', gK_skip, gK_skip', gK_none, pick_mk, cond_true, cond_false, condK_tn, condK_fn, bin_eql, bin_neq, bin_lss, bin_leq, bin_gtr, bin_geq, un_not, Bool.not_true, Bool.not_false, bin_str, lenS_mk, nle_l, nle_r, nle_n, nlt_l, nlt_r, nlt_n, neq_r, neq_n, nne_r, nne_n, ext0, ext1, ext30, ext31, ext32, bin_add, bin_sub, decide_true, decide_false, e1, p1, q1, a1, s1', fa, l1a, kl, r1, r2, e3]
    exact i3 _ k (by simp [T.get_set]) (by simp [T.get_set]) (by simp [T.get_set]) (by simp [T.get_set]) (by simp [T.get_set])
theorem l_headers_Sorted_ck (c : CallK) (N : Nat) (hNm : NIsOk c) (hs : List Hd) (hS : Small hs) (lv v29 v30 v31 : V) (n : Bs) (hn : n.length ≤ 10000) (acc : List Hd) (B : Nat) (hacc : acc.length ≤ 998000) : ∀ (l pre : List Hd) (ov : V) (H : Heap) (τ : Tape) (m : Nat), hs = pre ++ l → l.length < m → WF H → B ≤ H.size → (∀ H', Gr B H H' → RdH H' lv hs) → LsH H B ov (acc ++ (pre.filter (named n)).map (fun h => (n, h.2))) →
    ∃ ov' H' τ', LsH H' B ov' (acc ++ (hs.filter (named n)).map (fun h => (n, h.2))) ∧ Gr B H H' ∧ ∀ (fr : T V) k, fr.get 0 = some lv → fr.get 6 = some ov → fr.get 8 = some (.str n) → fr.get 29 = some v29 → fr.get 30 = some v30 → fr.get 31 = some v31 → fr.get 49 = some lv → fr.get 50 = some (.int .i64 (hs.length : Int)) → fr.get 51 = some (.int .i64 (pre.length : Int)) →
      loopK (s_headers_Sorted_l4 c N) m ⟨fr, H⟩ τ k = k (.exit 4) ⟨(T.set (T.set (T.set (T.set (T.set .leaf 0 lv) 6 ov') 29 v29) 30 v30) 31 v31), H'⟩ τ' := by
  intro l
  induction l with
  | nil =>
    intro pre ov H τ m he hm hw hB hrd ho
    obtain ⟨m, rfl⟩ : ∃ j, m = j + 1 := ⟨m - 1, by omega⟩
    have e1 : decide (pre.length < hs.length) = false := decide_eq_false (by rw [he]; simp)
    refine ⟨ov, H, τ, by rw [he, List.append_nil]; exact ho, Gr.refl hw, fun fr k f0 f6 f8 f29 f30 f31 f49 f50 f51 => ?_⟩
    rw [loopK_succ]
    simp only [s_headers_Sorted_l4, getK_mk f0, getK_mk f6, getK_mk f8, getK_mk f29, getK_mk f30, getK_mk f31, getK_mk f49, getK_mk f50, getK_mk f51, getK_set, ↓reduceIte, Nat.reduceEqDiff, someK_n, effK_n, retK, gK_do, gK_do', gK_skip, gK_skip', gK_none, pick_mk, cond_true, cond_false, condK_tn, condK_fn, bin_eql, bin_neq, bin_lss, bin_leq, bin_gtr, bin_geq, un_not, Bool.not_true, Bool.not_false, bin_str, lenS_mk, nle_l, nle_r, nle_n, nlt_l, nlt_r, nlt_n, neq_r, neq_n, nne_r, nne_n, ext0, ext1, ext30, ext31, ext32, bin_add, bin_sub, decide_true, decide_false, e1]
    rfl
  | cons x l ih =>
    intro pre ov H τ m he hm hw hB hrd ho
    obtain ⟨m, rfl⟩ : ∃ j, m = j + 1 := ⟨m - 1, by omega⟩
    have hlt : pre.length < hs.length := by rw [he]; simp
    have hl := hS.len
    have e1 : decide (pre.length < hs.length) = true := decide_eq_true hlt
    have e3 : wr .i64 ((pre.length : Int) + Int.ofNat 1) = ((pre ++ [x]).length : Int) := by rw [adI (by omega)]; simp
    have hr := (hrd H (Gr.refl hw)).1
    obtain ⟨id, o, p1, p2⟩ := hd_at (v := lv) pre x l (H := H) (by rw [← he]; exact hr)
    obtain ⟨q1, q2, q3⟩ := p2 H (by rw [← he]; exact hr)
    obtain ⟨H1, H2, a1, s1, b2, g2, lt2⟩ := box2 hw (.str x.1) (.str x.2) (.str []) (.str []) rfl rfl τ
    have s1' : eStore 2 [.ptr H.size 0, hv x] H1 τ = some (.tup [], H2, τ) := s1
    have l1 : lLoadN 2 [.ptr H.size 0] H2 = some (hv x) := load_cells b2.cells (by simp)
    have l1b : lLoad1 [.ptr H.size 1] H2 = some (.str x.2) := load_cell b2.cells rfl
    have fa : pFieldAddr 1 [.ptr H.size 0] = some (.ptr H.size 1) := rfl
    have hx := hS.all x (by rw [he]; simp)
    have kn := fun H τ q => hNm x n (by omega) (by omega) H τ q
    have ho2 := ho.gr g2 hw (Nat.le_refl _)
    have gB2 := g2.weaken hB
    cases hb : named n x with
    | false =>
      obtain ⟨ov', H', τ', i1, i2, i3⟩ := ih (pre ++ [x]) ov H2 τ m (by rw [he]; simp) (by simp at hm; omega) g2.wf (Nat.le_trans hB g2.size) (fun H' hg => hrd H' (gB2.trans hg (Nat.le_refl _))) (by rw [List.filter_append]; simpa [hb] using ho2)
      refine ⟨ov', H', τ', i1, gB2.trans i2 (Nat.le_refl _), fun fr k f0 f6 f8 f29 f30 f31 f49 f50 f51 => ?_⟩
      rw [loopK_succ]
      simp only [s_headers_Sorted_l4, getK_mk f0, getK_mk f6, getK_mk f8, getK_mk f29, getK_mk f30, getK_mk f31, getK_mk f49, getK_mk f50, getK_mk f51, getK_set, ↓reduceIte, Nat.reduceEqDiff, someK_n, effK_n, retK, gK_do, gK_do', gK_skip, gK_skip', gK_none, pick_mk, cond_true, cond_false, condK_tn, condK_fn, bin_eql, bin_neq, bin_lss, bin_leq, bin_gtr, bin_geq, un_not, Bool.not_true, Bool.not_false, bin_str, lenS_mk, nle_l, nle_r, nle_n, nlt_l, nlt_r, nlt_n, neq_r, neq_n, nne_r, nne_n, ext0, ext1, ext30, ext31, ext32, bin_add, bin_sub, decide_true, decide_false, e1, p1, q1, a1, s1', l1, kn, hb, s_headers_Sorted_j5, e3]
      exact i3 _ k (by simp [T.get_set]) (by simp [T.get_set]) (by simp [T.get_set]) (by simp [T.get_set]) (by simp [T.get_set]) (by simp [T.get_set]) (by simp [T.get_set]) (by simp [T.get_set]) (by simp [T.get_set])
    | true =>
      have pb : pBuild [(.str []), (.str [])] [(0, 1), (1, 1)] [.str n, .str x.2] = some (hv (n, x.2)) := rfl
      have hfl := List.length_filter_le (named n) pre
      obtain ⟨w, H3, v', H4, τ4, r1, r2, r3, r4, _, _⟩ := ho2.put g2.wf (Nat.le_trans hB g2.size) (n, x.2) (by simp; omega) τ
      have gB4 := gB2.trans r4 (Nat.le_refl _)
      obtain ⟨ov', H', τ', i1, i2, i3⟩ := ih (pre ++ [x]) v' H4 τ4 m (by rw [he]; simp) (by simp at hm; omega) r4.wf (Nat.le_trans hB gB4.size) (fun H' hg => hrd H' (gB4.trans hg (Nat.le_refl _))) (by rw [List.filter_append]; simpa [hb] using r3)
      refine ⟨ov', H', τ', i1, gB4.trans i2 (Nat.le_refl _), fun fr k f0 f6 f8 f29 f30 f31 f49 f50 f51 => ?_⟩
      rw [loopK_succ]
      simp only [s_headers_Sorted_l4, getK_mk f0, getK_mk f6, getK_mk f8, getK_mk f29, getK_mk f30, getK_mk f31, getK_mk f49, getK_mk f50, getK_mk f51, getK_set, ↓reduceIte, Nat.reduceEqDiff, someK_n, effK_n, retK, gK_do, gK_do', gK_skip, gK_skip', gK_none, pick_mk, cond_true, cond_false, condK_tn, condK_fn, bin_eql, bin_neq, bin_lss, bin_leq, bin_gtr, bin_geq, un_not, Bool.not_true, Bool.not_false, bin_str, lenS_mk, nle_l, nle_r, nle_n, nlt_l, nlt_r, nlt_n, neq_r, neq_n, nne_r, nne_n, ext0, ext1, ext30, ext31, ext32, bin_add, bin_sub, decide_true, decide_false, e1, p1, q1, a1, s1', l1, kn, hb, fa, l1b, pb, r1, r2, s_headers_Sorted_j5, e3]
      exact i3 _ k (by simp [T.get_set]) (by simp [T.get_set]) (by simp [T.get_set]) (by simp [T.get_set]) (by simp [T.get_set]) (by simp [T.get_set]) (by simp [T.get_set]) (by simp [T.get_set]) (by simp [T.get_set])
theorem l_headers_Sorted (c : CallK) {N : Nat} (hN : 9223372036854775807 < N) (hG : IsP c f_headers_Get (RH GetPre GetG)) (hNm : NIsOk c) (hs : List Hd) (hS : Small hs) (h9 : hs.length ≤ 900) (lv nv : V) (ns : List Bs) (hns : ns.length ≤ hs.length) (hnl : ∀ n ∈ ns, n.length ≤ 10000) (B : Nat) : ∀ (l pre : List Bs) (ov : V) (H : Heap) (τ : Tape) (m : Nat), ns = pre ++ l → l.length < m → WF H → B ≤ H.size → (∀ H', Gr B H H' → RdH H' lv hs) → (∀ H', Gr B H H' → Rd H' 1 nv ns.length (ns.map V.str)) → LsH H B ov (pre.flatMap (oneT hs)) →
    ∃ ov' H' τ', LsH H' B ov' (ns.flatMap (oneT hs)) ∧ Gr B H H' ∧ ∀ (fr : T V) k, fr.get 0 = some lv → fr.get 6 = some ov → fr.get 29 = some nv → fr.get 30 = some (.int .i64 (ns.length : Int)) → fr.get 31 = some (.int .i64 (pre.length : Int)) →
      loopK (s_headers_Sorted_l2 c N) m ⟨fr, H⟩ τ k = k (.exit 2) ⟨(T.set .leaf 6 ov'), H'⟩ τ' := by
  intro l
  induction l with
  | nil =>
    intro pre ov H τ m he hm hw hB hrd hnd ho
    obtain ⟨m, rfl⟩ : ∃ j, m = j + 1 := ⟨m - 1, by omega⟩
    have e1 : decide (pre.length < ns.length) = false := decide_eq_false (by rw [he]; simp)
    refine ⟨ov, H, τ, by rw [he, List.append_nil]; exact ho, Gr.refl hw, fun fr k f0 f6 f29 f30 f31 => ?_⟩
    rw [loopK_succ]
    simp only [s_headers_Sorted_l2, getK_mk f0, getK_mk f6, getK_mk f29, getK_mk f30, getK_mk f31, getK_set, ↓reduceIte, Nat.reduceEqDiff, someK_n, effK_n, retK, gK_do, gK_do', gK_skip, gK_skip', gK_none, pick_mk, cond_true, cond_false, condK_tn, condK_fn, bin_eql, bin_neq, bin_lss, bin_leq, bin_gtr, bin_geq, un_not, Bool.not_true, Bool.not_false, bin_str, lenS_mk, nle_l, nle_r, nle_n, nlt_l, nlt_r, nlt_n, neq_r, neq_n, nne_r, nne_n, ext0, ext1, ext30, ext31, ext32, bin_add, bin_sub, decide_true, decide_false, e1]
    rfl
  | cons x l ih =>
    intro pre ov H τ m he hm hw hB hrd hnd ho
    obtain ⟨m, rfl⟩ : ∃ j, m = j + 1 := ⟨m - 1, by omega⟩
    have hlt : pre.length < ns.length := by rw [he]; simp
    have hl := hS.len
    have e1 : decide (pre.length < ns.length) = true := decide_eq_true hlt
    have e3 : wr .i64 ((pre.length : Int) + Int.ofNat 1) = ((pre ++ [x]).length : Int) := by rw [adI (by omega)]; simp
    have hnr := hnd H (Gr.refl hw)
    have hrl := hrd H (Gr.refl hw)
    have pl := hrl.1.pLen
    have hj : (ns.map V.str)[pre.length]? = some (.str x) := by rw [he]; simp
    obtain ⟨pn, n1, n2⟩ := hnr.elem1 hj
    have hx := hnl x (by rw [he]; simp)
    have hacc : (pre.flatMap (oneT hs)).length ≤ 998000 := by
      have h1 := flat_len hs pre
      have h2 : pre.length * (hs.length + 1) ≤ 900 * 901 := Nat.mul_le_mul (by omega) (by omega)
      omega
    have ek : bs [115, 101, 116, 45, 99, 111, 111, 107, 105, 101] = scT := rfl
    cases hb : (x == scT) with
    | false =>
      have en : (x != scT) = true := by rw [bne, hb]; rfl
      have kg := fun τ q => k_Get hG hS (name := x) (by omega) hrl τ q
      have pb : pBuild [(.str []), (.str [])] [(0, 1), (1, 1)] [.str x, .str (getT x hs)] = some (hv (x, getT x hs)) := rfl
      obtain ⟨w, H1, v', H2, τ2, r1, r2, r3, r4, _, _⟩ := ho.put hw hB (x, getT x hs) (by omega) τ
      obtain ⟨ov', H', τ', i1, i2, i3⟩ := ih (pre ++ [x]) v' H2 τ2 m (by rw [he]; simp) (by simp at hm; omega) r4.wf (Nat.le_trans hB r4.size) (fun H' hg => hrd H' (r4.trans hg (Nat.le_refl _))) (fun H' hg => hnd H' (r4.trans hg (Nat.le_refl _))) (by rw [List.flatMap_append]; simpa [oneT, hb] using r3)
      refine ⟨ov', H', τ', i1, r4.trans i2 (Nat.le_refl _), fun fr k f0 f6 f29 f30 f31 => ?_⟩
      rw [loopK_succ]
      simp only [s_headers_Sorted_l2, getK_mk f0, getK_mk f6, getK_mk f29, getK_mk f30, getK_mk f31, getK_set, ↓reduceIte, Nat.reduceEqDiff, someK_n, effK_n, retK, gK_do, gK_do', gK_skip, gK_skip', gK_none, pick_mk, cond_true, cond_false, condK_tn, condK_fn, bin_eql, bin_neq, bin_lss, bin_leq, bin_gtr, bin_geq, un_not, Bool.not_true, Bool.not_false, bin_str, lenS_mk, nle_l, nle_r, nle_n, nlt_l, nlt_r, nlt_n, neq_r, neq_n, nne_r, nne_n, ext0, ext1, ext30, ext31, ext32, bin_add, bin_sub, decide_true, decide_false, e1, n1, n2, ek, str_neq, en, kg, pb, r1, r2, s_headers_Sorted_j3, e3]
      exact i3 _ k (by simp [T.get_set]) (by simp [T.get_set]) (by simp [T.get_set]) (by simp [T.get_set]) (by simp [T.get_set])
    | true =>
      have en : (x != scT) = false := by rw [bne, hb]; rfl
      obtain ⟨v', H2, τ2, r1, r2, r3⟩ := l_headers_Sorted_ck c N hNm hs hS lv nv (.int .i64 (ns.length : Int)) (.int .i64 (pre.length : Int)) x hx (pre.flatMap (oneT hs)) B hacc hs [] ov H τ N rfl (by omega) hw hB hrd (by simpa using ho)
      obtain ⟨ov', H', τ', i1, i2, i3⟩ := ih (pre ++ [x]) v' H2 τ2 m (by rw [he]; simp) (by simp at hm; omega) r2.wf (Nat.le_trans hB r2.size) (fun H' hg => hrd H' (r2.trans hg (Nat.le_refl _))) (fun H' hg => hnd H' (r2.trans hg (Nat.le_refl _))) (by rw [List.flatMap_append]; simpa [oneT, hb] using r1)
      refine ⟨ov', H', τ', i1, r2.trans i2 (Nat.le_refl _), fun fr k f0 f6 f29 f30 f31 => ?_⟩
      rw [loopK_succ]
      simp only [s_headers_Sorted_l2, getK_mk f0, getK_mk f6, getK_mk f29, getK_mk f30, getK_mk f31, pl, getK_set, ↓reduceIte, Nat.reduceEqDiff, someK_n, effK_n, retK, gK_do, gK_do', gK_skip, gK_skip', gK_none, pick_mk, cond_true, cond_false, condK_tn, condK_fn, bin_eql, bin_neq, bin_lss, bin_leq, bin_gtr, bin_geq, un_not, Bool.not_true, Bool.not_false, bin_str, lenS_mk, nle_l, nle_r, nle_n, nlt_l, nlt_r, nlt_n, neq_r, neq_n, nne_r, nne_n, ext0, ext1, ext30, ext31, ext32, bin_add, bin_sub, decide_true, decide_false, e1, n1, n2, ek, str_neq, en]
      rw [r3 _ _ (by simp [T.get_set]) (by simp [T.get_set]) (by simp [T.get_set]) (by simp [T.get_set]) (by simp [T.get_set]) (by simp [T.get_set]) (by simp [T.get_set]) (by simp [T.get_set]) (by simp [T.get_set])]
      simp only [blockK, Nat.beq_refl, cond_true, seqK, s_headers_Sorted_j3, getK_set, ↓reduceIte, Nat.reduceEqDiff, someK_n, effK_n, retK, gK_do, gK_do', gK_skip, gK_skip', gK_none, pick_mk, cond_true, cond_false, condK_tn, condK_fn, bin_eql, bin_neq, bin_lss, bin_leq, bin_gtr, bin_geq, un_not, Bool.not_true, Bool.not_false, bin_str, lenS_mk, nle_l, nle_r, nle_n, nlt_l, nlt_r, nlt_n, neq_r, neq_n, nne_r, nne_n, ext0, ext1, ext30, ext31, ext32, bin_add, bin_sub, decide_true, decide_false, e3]
      exact i3 _ k (by simp [T.get_set]) (by simp [T.get_set]) (by simp [T.get_set]) (by simp [T.get_set]) (by simp [T.get_set])
theorem s_headers_Sorted_ret (c : CallK) {N : Nat} (hN : 9223372036854775807 < N) (hL : ∀ (s : Bs), s.length ≤ 140737488355328 → ∀ H τ q, c f_infra_Lower [.str s] H τ q = q (.str (lower s)) H τ) (hG : IsP c f_headers_Get (RH GetPre GetG)) (hNm : NIsOk c) (hSr : ∀ vs H τ q, c f_slices_Sort_string vs H τ q = effK (sortP vs H τ) q) (hCo : ∀ vs H τ q, c f_slices_Compact_string vs H τ q = effK (compactP vs H τ) q) (hs : List Hd) (hS : Small hs) (h9 : hs.length ≤ 900) (lv : V) (H : Heap) (hw : WF H) (hr : RdH H lv hs) (τ : Tape) :
    ∃ v' H' τ', LsH H' H.size v' (sortT hs) ∧ Gr H.size H H' ∧ ∀ q, s_headers_Sorted c N lv H τ q = q v' H' τ' := by
  obtain ⟨v1, H1, τ1, i1, i2, i3⟩ := l_headers_Sorted_names c N hL hs hS lv H.size hs [] .nils H τ N rfl (by omega) hw (Nat.le_refl _) (fun H' hg => hr.gr hg hw (Nat.le_refl _)) (LsS.nil _ _)
  have hll : (lowN hs).length ≤ 900 := by simp [lowN]; omega
  obtain ⟨H2, j1, j2, j3⟩ := Own.sort i1.1 i2.wf (by omega)
  have hsl := (sorted_ok (lowN hs)).2.2
  obtain ⟨v3, H3, k1, k2, k3, k4⟩ := Own.compact j2 j3.wf (by omega)
  rw [compact_sorted] at k2
  have g13 := (i2.trans j3 (Nat.le_refl _)).trans k4 (Nat.le_refl _)
  have hr3 := hr.gr g13 hw (Nat.le_refl _)
  have pl := hr.1.pLen
  have pl3 := k2.pLen
  obtain ⟨v4, H4, τ4, m1, m2, m3⟩ := l_headers_Sorted c hN hG hNm hs hS h9 lv v3 (srtT (lowN hs)) (lowN_len hs) (lowN_small hS) H3.size (srtT (lowN hs)) [] .nils H3 τ1 N rfl (by have := lowN_len hs; omega) k4.wf (Nat.le_refl _) (fun H' hg => hr3.gr hg k4.wf (Nat.le_refl _)) (fun H' hg => k2.gr hg k4.wf (Nat.le_refl _)) (LsH.nil _ _)
  refine ⟨v4, H4, τ4, m1.weaken g13.size, g13.trans m2 g13.size, fun q => ?_⟩
  simp only [s_headers_Sorted, pl, someK_n]
  rw [i3 _ _ (by simp [T.get_set]) (by simp [T.get_set]) (by simp [T.get_set]) (by simp [T.get_set]) (by simp [T.get_set])]
  simp only [blockK, Nat.beq_refl, cond_true, seqK, s_headers_Sorted_j0, getK_set, ↓reduceIte, Nat.reduceEqDiff, someK_n, effK_n, retK, gK_do, gK_do', gK_skip, gK_skip', gK_none, pick_mk, cond_true, cond_false, condK_tn, condK_fn, bin_eql, bin_neq, bin_lss, bin_leq, bin_gtr, bin_geq, un_not, Bool.not_true, Bool.not_false, bin_str, lenS_mk, nle_l, nle_r, nle_n, nlt_l, nlt_r, nlt_n, neq_r, neq_n, nne_r, nne_n, ext0, ext1, ext30, ext31, ext32, bin_add, bin_sub, decide_true, decide_false, hSr, hCo, j1, k1, pl3]
  rw [m3 _ _ (by simp [T.get_set]) (by simp [T.get_set]) (by simp [T.get_set]) (by simp [T.get_set]) (by simp [T.get_set])]
  simp only [blockK, Nat.beq_refl, cond_true, seqK, s_headers_Sorted_j1, getK_set, ↓reduceIte, Nat.reduceEqDiff, someK_n, effK_n, retK, gK_do, gK_do', gK_skip, gK_skip', gK_none, pick_mk, cond_true, cond_false, condK_tn, condK_fn, bin_eql, bin_neq, bin_lss, bin_leq, bin_gtr, bin_geq, un_not, Bool.not_true, Bool.not_false, bin_str, lenS_mk, nle_l, nle_r, nle_n, nlt_l, nlt_r, nlt_n, neq_r, neq_n, nne_r, nne_n, ext0, ext1, ext30, ext31, ext32, bin_add, bin_sub, decide_true, decide_false]
noncomputable abbrev rw_HSorted : List Row := [Row.fn f_headers_Sorted fn_headers_Sorted e_headers_Sorted, Row.prim f_infra_Lower (outP LowR), Row.prim f_headers_Get (outP (RH GetPre GetG)), Row.prim f_headers_is (outP RNamedR), Row.prim f_slices_Sort_string sortP, Row.prim f_slices_Compact_string compactP]
theorem p_headers_Sorted : ∀ base w0, PrimOk PG base w0 f_headers_Sorted (outP (RH SortPre SortG)) := by
  obtain ⟨N, hN⟩ := someN
  refine primRH (N := N) (l := rw_HSorted) (.fn ok_headers_Sorted e_headers_Sorted_ok (.prim p_infra_Lower (.prim p_headers_Get (.prim p_headers_is (.prim sortP_ok (.prim compactP_ok (.nil _))))))) 2 _ (fun hs args hp lv H hw hr τ => ?_)
  unfold SortPre at hp; split at hp
  · obtain ⟨v', H', τ', h1, h2, h3⟩ := s_headers_Sorted_ret (CR rw_HSorted N 1) hN (fun s hs H τ q => callS (c := CR rw_HSorted N 1) (f := f_infra_Lower) (M := 140737488355328) (g := fun s => .str (lower s)) (fun _ _ _ _ => rfl) s hs H τ q) (fun _ _ _ _ => rfl) (k_headers_is fun _ _ _ _ => rfl) (fun _ _ _ _ => rfl) (fun _ _ _ _ => rfl) hs hp.1 hp.2 lv H hw hr τ
    exact ⟨_, H', τ', h2, LsH.met h1 mkOk_id trivial, h3⟩
  · exact hp.elim
end Go.Am.X


namespace Go.Am.X
set_option linter.unusedSimpArgs false
set_option linter.unusedVariables false
set_option linter.unusedSectionVars false
set_option maxRecDepth 100000
theorem small_of {hs : List Hd} (h1 : hs.length ≤ 900) (h2 : ∀ h ∈ hs, h.1.length ≤ 1000 ∧ h.2.length ≤ 1000) : Small hs := ⟨by omega, fun h hh => by have := h2 h hh; omega⟩
theorem few_len (nn mm : Nat) (hs : List Hd) : (fewH nn mm hs).length ≤ nn ∧ ∀ h ∈ fewH nn mm hs, h.1.length ≤ mm ∧ h.2.length ≤ mm := by
  refine ⟨by unfold fewH; rw [List.length_map, List.length_take]; omega, fun h hh => ?_⟩
  unfold fewH at hh
  obtain ⟨y, _, rfl⟩ := List.mem_map.1 hh
  unfold fewh
  simp only [List.length_take]
  omega
theorem getT_le (n : Bs) {l : List Hd} {M : Nat} (h : ∀ x ∈ l, x.2.length ≤ M) : (getT n l).length ≤ l.length * (M + 2) := by
  have h1 : (sel n l).length ≤ l.length := by
    unfold sel; rw [List.length_map]; exact List.length_filter_le _ _
  have h2 := joinB_length [44, 32] M (sel n l) (fun x hx => by
    simp only [sel, List.mem_map, List.mem_filter] at hx
    obtain ⟨y, ⟨hy, _⟩, rfl⟩ := hx
    exact h y hy)
  exact Nat.le_trans h2 (Nat.mul_le_mul h1 (Nat.le_refl _))
theorem eqbb (b : Bool) : pEq false .bool [.bool b, .bool b] = some (.bool true) := by cases b <;> rfl
theorem Own.rdH' {H : Heap} {B : Nat} {v : V} {hs : List Hd} (h : Own H B 2 v hs.length (hcells hs)) : RdH H v hs := ⟨h.rd, h.src⟩
set_option maxHeartbeats 1000000 in
theorem s_law5_HeadersAsk_ret (c : CallK) (N : Nat) (hFew : IsP c f_keep_FewHeaders (RH FewHPre FewHG)) (hF1 : FewOk c) (hV : IsP c f_headers_Value ValueR) (hRV : IsP c f_ref5_Value RValueR) (hG : IsP c f_headers_Get (RH GetPre GetG)) (hRG : IsP c f_ref5_Get (RH GetPre GetG)) (hS : IsP c f_headers_Split (RH GetPre SplitG)) (hRS : IsP c f_ref5_Split (RH GetPre SplitG))
    (hR : IsP c f_headers_Range RngR) (hRR : IsP c f_ref5_Range RngR) (hSo : IsP c f_headers_Sorted (RH SortPre SortG)) (hRSo : IsP c f_ref5_Sorted (RH SortPre SortG)) (hFo : IsP c f_headers_Forbidden ForbR) (hRFo : IsP c f_ref5_Forbidden ForbR) (hSa : IsP c f_headers_Safe SafeR) (hRSa : IsP c f_ref5_Safe SafeR)
    (hSameS : IsP c f_book_Same_string SameSR) (hSame : IsP c f_book_Same_Header SameR) (hRoomy : IsP c f_book_Roomy_Header (RH RoomyPre RoomyG)) (hIntact : IsP c f_book_Intact_Header IntactR) (hH : IsP c f_law5_h (RV HPre HG)) (hKn : ∀ H τ q, c f_law5_known [] H τ q = q (.bool true) H τ)
    (hs : List Hd) (hl : hs.length ≤ 9223372036854775807) (n v : Bs) (lv : V) (H : Heap) (hw : WF H) (hr : RdH H lv hs) (τ : Tape) :
    ∃ H' τ', Gr H.size H H' ∧ ∀ q, s_law5_HeadersAsk c N lv (.str n) (.str v) H τ q = q (.bool true) H' τ' := by
  obtain ⟨v0, H1, τ1, o1, g1, k1⟩ := k_keep_FewHeaders hFew hl 20 300 (by omega) (by omega) hw hr τ
  obtain ⟨sm1, sm2⟩ := small_fewH 20 300 (by omega) (by omega) hs
  obtain ⟨fl1, fl2⟩ := few_len 20 300 hs
  generalize fewH 20 300 hs = l at o1 sm1 sm2 fl1 fl2
  have sm := small_of sm1 sm2
  have r0 := Own.rdH' o1
  have kf1 : ∀ H τ q, c f_keep_Few [.str n, .int .i64 (.ofNat 100)] H τ q = q (.str (n.take 100)) H τ := fun H τ q => hF1 n 100 H τ q
  have kf2 : ∀ H τ q, c f_keep_Few [.str v, .int .i64 (.ofNat 300)] H τ q = q (.str (v.take 300)) H τ := fun H τ q => hF1 v 300 H τ q
  have ln : (n.take 100).length ≤ 100 := by rw [List.length_take]; omega
  have lv' : (v.take 300).length ≤ 300 := by rw [List.length_take]; omega
  generalize n.take 100 = n at kf1 ln
  generalize v.take 300 = v at kf2 lv'
  have kh : ∀ H τ q, c f_law5_h [.str (bs [45]), .str (bs [45])] H τ q = q (hv ([45], [45])) H τ := fun H τ q => k_law5_h hH [45] [45] H τ q
  obtain ⟨v12, H2, τ2, r12, ro12, g2, k2⟩ := k_book_Roomy_Header hRoomy (by omega) ([45], [45]) g1.wf r0 τ1
  have pl := r0.1.pLen
  obtain ⟨v16, c1, c2, c3⟩ := r12.upto ro12 (i := l.length) (by simp)
  have q16 : ∀ H', RdH H' v12 (l ++ List.replicate 80 ([45], [45])) → RdH H' v16 l := fun H' h' => by have := c3 H' h'; rwa [List.take_left] at this
  have r02 := r0.gr g2 g1.wf (Nat.le_refl _)
  have kV := fun H τ q => callS hV v (by omega) H τ q
  have kRV := fun H τ q => callS hRV v (by omega) H τ q
  have kG := fun τ q => k_Get hG sm (name := n) (by omega) (q16 H2 r12) τ q
  have kRG := fun τ q => k_Get hRG sm (name := n) (by omega) r02 τ q
  obtain ⟨v37, H3, τ3, o3, g3, k3⟩ := k_Split hS sm (name := n) (by omega) g2.wf (q16 H2 r12) τ2
  have r03 := r02.gr g3 g2.wf (Nat.le_refl _)
  have r123 := r12.gr g3 g2.wf (Nat.le_refl _)
  obtain ⟨v42, H4, τ4, o4, g4, k4⟩ := k_Split hRS sm (name := n) (by omega) g3.wf r03 τ3
  have r04 := r03.gr g4 g3.wf (Nat.le_refl _)
  have r124 := r123.gr g4 g3.wf (Nat.le_refl _)
  have s3 := o3.rd.gr g4 g3.wf (Nat.le_refl _)
  have s4 := o4.rd
  have kR := fun H τ q => k_Range hR v (by omega) H τ q
  have kRR := fun H τ q => k_Range hRR v (by omega) H τ q
  have hg6 : (getT n l).length ≤ 20 * 302 := Nat.le_trans (getT_le n (M := 300) fun x hx => (fl2 x hx).2) (Nat.mul_le_mul fl1 (by omega))
  have hsl6 : (splitT n l).length < 1000000 := by
    have h2 := piecesB_len (getT n l)
    unfold splitT
    split
    · omega
    · simp
  have w1 := fun τ q => k_book_Same_string hSameS hsl6 s3 s4 τ q
  obtain ⟨v143, H5, τ5, o5, g5, k5⟩ := k_Sorted hSo sm (by omega) g4.wf (q16 H4 r124) τ4
  have r05 := r04.gr g5 g4.wf (Nat.le_refl _)
  have r125 := r124.gr g5 g4.wf (Nat.le_refl _)
  obtain ⟨v149, H6, τ6, o6, g6, k6⟩ := k_Sorted hRSo sm (by omega) g5.wf r05 τ5
  have r06 := r05.gr g6 g5.wf (Nat.le_refl _)
  have r126 := r125.gr g6 g5.wf (Nat.le_refl _)
  have w2 := fun τ q => k_book_Same_Header hSame (hs := sortT l) (by have := sortT_len sm1; omega) ((Own.rdH' o5).gr g6 g5.wf (Nat.le_refl _)) (Own.rdH' o6) τ q
  have kFo := fun H τ q => k_Forbidden hFo n (by omega) H τ q
  have kRFo := fun H τ q => k_Forbidden hRFo n (by omega) H τ q
  have kSa := fun H τ q => k_Safe hSa n v (by omega) H τ q
  have kRSa := fun H τ q => k_Safe hRSa n v (by omega) H τ q
  have w4 := fun τ q => k_book_Intact_Header hIntact (by omega) ([45], [45]) r126 r06 τ q
  have z1 := g1.size
  have z2 := g2.size
  have z3 := g3.size
  have z4 := g4.size
  have z5 := g5.size
  refine ⟨H6, τ6, ((((g1.trans g2 z1).trans g3 (by omega)).trans g4 (by omega)).trans g5 (by omega)).trans g6 (by omega), fun q => ?_⟩
  obtain ⟨a, p, hval⟩ : ∃ a p, valV v = .tup [.str a, .bool p] := by unfold valV; cases valO v <;> exact ⟨_, _, rfl⟩
  have xs : ∀ s : Bs, (s == s) = true := fun s => by simp
  have xi : ∀ i : Int, (i == i) = true := fun s => by simp
  simp only [s_law5_HeadersAsk, k1, kf1, kf2, kh, k2, pl, someK_n, c1, kV, kRV, hval, ext0, ext1, kG, kRG, k3, k4, kR, kRR, ext30, ext31, ext32, bin_str, str_eql, xs, gK_do, retK, effK_n, eqbb, pick_mk, cond_true, bin_eql, xi, w1, k5, k6, w2, kFo, kRFo, kSa, kRSa, w4, hKn]
def HeadersAskR (vs : List V) (H : Heap) (o : Out) : Prop := (∃ (lv : V) (hs : List Hd) (n v : Bs), vs = [lv, .str n, .str v] ∧ RdH H lv hs ∧ hs.length ≤ 9223372036854775807) ∧ o = .val (.bool true)
noncomputable abbrev rw_HeadersAsk : List Row := [Row.fn f_law5_HeadersAsk fn_law5_HeadersAsk e_law5_HeadersAsk, Row.fn f_keep_Few fn_keep_Few e_keep_Few, Row.prim f_keep_FewHeaders (outP (RH FewHPre FewHG)), Row.prim f_headers_Value (outP ValueR), Row.prim f_ref5_Value (outP RValueR), Row.prim f_headers_Get (outP (RH GetPre GetG)), Row.prim f_ref5_Get (outP (RH GetPre GetG)), Row.prim f_headers_Split (outP (RH GetPre SplitG)), Row.prim f_ref5_Split (outP (RH GetPre SplitG)),
  Row.prim f_headers_Range (outP RngR), Row.prim f_ref5_Range (outP RngR), Row.prim f_headers_Sorted (outP (RH SortPre SortG)), Row.prim f_ref5_Sorted (outP (RH SortPre SortG)), Row.prim f_headers_Forbidden (outP ForbR), Row.prim f_ref5_Forbidden (outP ForbR), Row.prim f_headers_Safe (outP SafeR), Row.prim f_ref5_Safe (outP SafeR),
  Row.prim f_book_Same_string (outP SameSR), Row.prim f_book_Same_Header (outP SameR), Row.prim f_book_Roomy_Header (outP (RH RoomyPre RoomyG)), Row.prim f_book_Intact_Header (outP IntactR), Row.prim f_law5_h (outP (RV HPre HG)), Row.prim f_law5_known closedP]
theorem headersAsk_ok : ∀ base w0, PrimOk PG base w0 f_law5_HeadersAsk (outP HeadersAskR) := by
  obtain ⟨N, hN⟩ := someN
  refine primOk_out mixed_ok (l := rw_HeadersAsk) (.fn ok_law5_HeadersAsk e_law5_HeadersAsk_ok (.fn ok_keep_Few e_keep_Few_ok (.prim p_keep_FewHeaders (.prim p_headers_Value (.prim p_ref5_Value (.prim p_headers_Get (.prim p_ref5_Get (.prim p_headers_Split (.prim p_ref5_Split (.prim p_headers_Range (.prim p_ref5_Range (.prim p_headers_Sorted (.prim p_ref5_Sorted (.prim p_headers_Forbidden (.prim p_ref5_Forbidden (.prim p_headers_Safe (.prim p_ref5_Safe (.prim p_book_Same_string (.prim p_book_Same_Header (.prim p_book_Roomy_Header (.prim p_book_Intact_Header (.prim p_law5_h (.prim closed_law5_known_ok (.nil _)))))))))))))))))))))))) N 2 _ ?_
  rintro vs H o hw hvs ⟨⟨lv, hs, n, v, rfl, hr, h1⟩, rfl⟩ τ
  obtain ⟨H', τ', g, k⟩ := s_law5_HeadersAsk_ret (CR rw_HeadersAsk N 1) N (fun _ _ _ _ => rfl) (fun s m H τ q => s_keep_Few_ret (CR rw_HeadersAsk N 0) N s m H τ q) (fun _ _ _ _ => rfl) (fun _ _ _ _ => rfl) (fun _ _ _ _ => rfl) (fun _ _ _ _ => rfl) (fun _ _ _ _ => rfl) (fun _ _ _ _ => rfl) (fun _ _ _ _ => rfl) (fun _ _ _ _ => rfl) (fun _ _ _ _ => rfl) (fun _ _ _ _ => rfl) (fun _ _ _ _ => rfl) (fun _ _ _ _ => rfl) (fun _ _ _ _ => rfl) (fun _ _ _ _ => rfl) (fun _ _ _ _ => rfl) (fun _ _ _ _ => rfl) (fun _ _ _ _ => rfl) (fun _ _ _ _ => rfl) (fun _ _ _ _ => rfl) (closedP_call fun _ _ _ _ => rfl) hs h1 n v lv H hw hr τ
  exact ⟨_, H', τ', k retK, g, rfl, trivial⟩
theorem headersAsk_fun : Fun1 HeadersAskR := fun vs H o o' k k' => k.2.trans k'.2.symm
theorem headersAsk_in {lv : V} {H : Heap} {hs : List Hd} (hr : RdH H lv hs) (hl : hs.length ≤ 9223372036854775807) (n v : Bs) (τ : Tape) : outP HeadersAskR [lv, .str n, .str v] H τ = some (.bool true, H, τ) :=
  outP_mk headersAsk_fun ⟨⟨lv, hs, n, v, rfl, hr, hl⟩, rfl⟩ τ
end Go.Am.X


