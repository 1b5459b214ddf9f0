/- The abstract machine, printed functions of the program, and what they are shown to be. -/
import Derived.Test.YtaikmfhjbcffiaaGreatDoorHKL3
namespace Go.Am.X
set_option linter.unusedSimpArgs false
set_option linter.unusedVariables false
set_option linter.unusedSectionVars false
set_option maxRecDepth 100000
theorem p_headers_is : ∀ base w0, PrimOk PG base w0 f_headers_is (outP RNamedR) := by
  refine primOk_E 4 _ ?_
  rintro vs H o hw hvs ⟨hp, rfl⟩ τ
  unfold NamedPre at hp; split at hp
  · rename_i a b n
    obtain ⟨H', τ', g, k⟩ := d_headers_is nb 4 (by omega) n hp.2 a b hp.1 H hw τ retK
    exact ⟨_, H', τ', k, g, rfl, trivial⟩
  · exact hp.elim
abbrev NIsOk (c : CallK) : Prop := ∀ (h : Hd) (n : Bs), h.1.length ≤ 140737488355328 → n.length ≤ 140737488355328 → ∀ H τ q, c f_headers_is [hv h, .str n] H τ q = q (.bool (named n h)) H τ
theorem k_headers_is {c : CallK} (h : IsP c f_headers_is RNamedR) : NIsOk c := fun hd n h1 h2 H τ q => RV_call h (vs := [.agg [.str hd.1, .str hd.2], .str n]) ⟨h1, h2⟩ H τ q
def SameSR (vs : List V) (H : Heap) (o : Out) : Prop := ∃ (a b : V) (ss : List Bs), vs = [a, b] ∧ Rd H 1 a ss.length (ss.map V.str) ∧ Rd H 1 b ss.length (ss.map V.str) ∧ ss.length < 1000000 ∧ o = .val (.bool true)
theorem SameSR_fun : Fun1 SameSR := by
  rintro vs H o o' ⟨_, _, _, _, _, _, _, rfl⟩ ⟨_, _, _, _, _, _, _, rfl⟩; rfl
theorem p_book_Same_string : ∀ base w0, PrimOk PG base w0 f_book_Same_string (outP SameSR) := by
  obtain ⟨N, hN⟩ := someN
  refine primOk_out mixed_ok (l := [Row.fn f_book_Same_string fn_book_Same_string e_book_Same_string]) (.fn ok_book_Same_string e_book_Same_string_ok (.nil _)) N 1 _ ?_
  rintro vs H o hw hvs ⟨a, b, ss, rfl, ha, hb, hl, rfl⟩ τ
  exact ⟨_, H, τ, s_book_Same_string_ret (CR [Row.fn f_book_Same_string fn_book_Same_string e_book_Same_string] N 0) N hN a b ss hl H ha hb τ retK, Gr.refl hw, rfl, trivial⟩
theorem k_book_Same_string {c : CallK} (h : IsP c f_book_Same_string SameSR) {a b : V} {ss : List Bs} (hl : ss.length < 1000000) {H : Heap} (ha : Rd H 1 a ss.length (ss.map V.str)) (hb : Rd H 1 b ss.length (ss.map V.str)) (τ : Tape) (q : KV) : c f_book_Same_string [a, b] H τ q = q (.bool true) H τ :=
  outK_val h SameSR_fun ⟨a, b, ss, rfl, ha, hb, hl, rfl⟩ τ q
def scT : Bs := [115, 101, 116, 45, 99, 111, 111, 107, 105, 101]
def lowN (hs : List Hd) : List Bs := hs.map fun h => lower h.1
def oneT (hs : List Hd) (n : Bs) : List Hd := bif n == scT then (hs.filter (named n)).map (fun h => (n, h.2)) else [(n, getT n hs)]
def sortT (hs : List Hd) : List Hd := (srtT (lowN hs)).flatMap (oneT hs)
theorem oneT_len (hs : List Hd) (n : Bs) : (oneT hs n).length ≤ hs.length + 1 := by
  unfold oneT
  cases (n == scT) with
  | true => rw [cond_true, List.length_map]; have := List.length_filter_le (named n) hs; omega
  | false => simp
theorem flat_len (hs : List Hd) : ∀ (l : List Bs), (l.flatMap (oneT hs)).length ≤ l.length * (hs.length + 1) := by
  intro l
  induction l with
  | nil => simp
  | cons n l ih =>
    have := oneT_len hs n
    rw [List.flatMap_cons, List.length_append, List.length_cons, Nat.succ_mul]; omega
theorem lowN_len (hs : List Hd) : (srtT (lowN hs)).length ≤ hs.length := by
  have := (srtT_ok (lowN hs)).2.2
  simpa [lowN] using this
theorem lower_len (s : Bs) : (lower s).length = s.length := by simp [lower]
theorem lowN_small {hs : List Hd} (hS : Small hs) : ∀ n ∈ srtT (lowN hs), n.length ≤ 10000 := by
  intro n hn
  have := ((srtT_ok (lowN hs)).2.1 n).1 hn
  unfold lowN at this
  obtain ⟨h, hh, rfl⟩ := List.mem_map.1 this
  rw [lower_len]; exact (hS.all h hh).1
theorem sortT_len {hs : List Hd} (hS : hs.length ≤ 900) : (sortT hs).length ≤ 900000 := by
  have h1 := flat_len hs (srtT (lowN hs))
  have h2 := lowN_len hs
  have h4 : (srtT (lowN hs)).length * (hs.length + 1) ≤ 900 * 901 := Nat.mul_le_mul (by omega) (by omega)
  unfold sortT; omega
abbrev SortPre (hs : List Hd) : List V → Prop | [] => Small hs ∧ hs.length ≤ 900 | _ => False
abbrev SortG (_ : Bool) (hs : List Hd) : List V → Out | [] => lstO 2 (sortT hs).length (hcells (sortT hs)) (fun v => v) | _ => .val (.tup [])
theorem l_headers_Sorted_names (c : CallK) (N : Nat) (hL : ∀ (s : Bs), s.length ≤ 140737488355328 → ∀ H τ q, c f_infra_Lower [.str s] H τ q = q (.str (lower s)) H τ) (hs : List Hd) (hS : Small hs) (lv : V) (B : Nat) : ∀ (l pre : List Hd) (ov : V) (H : Heap) (τ : Tape) (m : Nat), hs = pre ++ l → l.length < m → WF H → B ≤ H.size → (∀ H', Gr B H H' → RdH H' lv hs) → LsS H B ov (lowN pre) →
    ∃ ov' H' τ', LsS H' B ov' (lowN hs) ∧ Gr B H H' ∧ ∀ (fr : T V) k, fr.get 0 = some lv → fr.get 3 = some ov → fr.get 13 = some lv → fr.get 14 = some (.int .i64 (hs.length : Int)) → fr.get 15 = some (.int .i64 (pre.length : Int)) →
      loopK (s_headers_Sorted_l6 c N) m ⟨fr, H⟩ τ k = k (.exit 0) ⟨(T.set (T.set .leaf 0 lv) 3 ov'), H'⟩ τ' := by
  intro l
  induction l with
  | nil =>
    intro pre ov H τ m he hm hw hB hrd ho
    obtain ⟨m, rfl⟩ : ∃ j, m = j + 1 := ⟨m - 1, by omega⟩
    have e1 : decide (pre.length < hs.length) = false := decide_eq_false (by rw [he]; simp)
    refine ⟨ov, H, τ, by rw [he, List.append_nil]; exact ho, Gr.refl hw, fun fr k f0 f3 f13 f14 f15 => ?_⟩
    rw [loopK_succ]
    simp only [s_headers_Sorted_l6, getK_mk f0, getK_mk f3, getK_mk f13, getK_mk f14, getK_mk f15, getK_set, ↓reduceIte, Nat.reduceEqDiff, someK_n, effK_n, retK, gK_do, gK_do', gK_skip, gK_skip', gK_none, pick_mk, cond_true, cond_false, condK_tn, condK_fn, bin_eql, bin_neq, bin_lss, bin_leq, bin_gtr, bin_geq, un_not, Bool.not_true, Bool.not_false, bin_str, lenS_mk, nle_l, nle_r, nle_n, nlt_l, nlt_r, nlt_n, neq_r, neq_n, nne_r, nne_n, ext0, ext1, ext30, ext31, ext32, bin_add, bin_sub, decide_true, decide_false, e1]
    rfl
  | cons x l ih =>
    intro pre ov H τ m he hm hw hB hrd ho
    obtain ⟨m, rfl⟩ : ∃ j, m = j + 1 := ⟨m - 1, by omega⟩
    have hlt : pre.length < hs.length := by rw [he]; simp
    have hl := hS.len
    have e1 : decide (pre.length < hs.length) = true := decide_eq_true hlt
    have e3 : wr .i64 ((pre.length : Int) + Int.ofNat 1) = ((pre ++ [x]).length : Int) := by rw [adI (by omega)]; simp
    have hr := (hrd H (Gr.refl hw)).1
    obtain ⟨id, o, p1, p2⟩ := hd_at (v := lv) pre x l (H := H) (by rw [← he]; exact hr)
    obtain ⟨q1, q2, q3⟩ := p2 H (by rw [← he]; exact hr)
    obtain ⟨H1, H2, a1, s1, b2, g2, lt2⟩ := box2 hw (.str x.1) (.str x.2) (.str []) (.str []) rfl rfl τ
    have s1' : eStore 2 [.ptr H.size 0, hv x] H1 τ = some (.tup [], H2, τ) := s1
    have l1a : lLoad1 [.ptr H.size 0] H2 = some (.str x.1) := load_cell b2.cells rfl
    have fa : pFieldAddr 0 [.ptr H.size 0] = some (.ptr H.size 0) := rfl
    have hx := hS.all x (by rw [he]; simp)
    have kl := hL x.1 (by omega)
    have ho2 := ho.gr g2 hw (Nat.le_refl _)
    have gB2 := g2.weaken hB
    obtain ⟨w, H3, v', H4, τ4, r1, r2, r3, r4⟩ := ho2.put g2.wf (Nat.le_trans hB g2.size) (lower x.1) (by simp [lowN]; omega) τ
    have gB4 := gB2.trans r4 (Nat.le_refl _)
    obtain ⟨ov', H', τ', i1, i2, i3⟩ := ih (pre ++ [x]) v' H4 τ4 m (by rw [he]; simp) (by simp at hm; omega) r4.wf (Nat.le_trans hB gB4.size) (fun H' hg => hrd H' (gB4.trans hg (Nat.le_refl _))) (by simpa [lowN] using r3)
    refine ⟨ov', H', τ', i1, gB4.trans i2 (Nat.le_refl _), fun fr k f0 f3 f13 f14 f15 => ?_⟩
    rw [loopK_succ]
    simp only [s_headers_Sorted_l6, getK_mk f0, getK_mk f3, getK_mk f13, getK_mk f14, getK_mk f15, getK_set, ↓reduceIte, Nat.reduceEqDiff, someK_n, effK_n, retK, gK_do, gK_do', gK_skip, gK_skip', gK_none, pick_mk, cond_true, cond_false, condK_tn, condK_fn, bin_eql, bin_neq, bin_lss, bin_leq, bin_gtr, bin_geq, un_not, Bool.not_true, Bool.not_false, bin_str, lenS_mk, nle_l, nle_r, nle_n, nlt_l, nlt_r, nlt_n, neq_r, neq_n, nne_r, nne_n, ext0, ext1, ext30, ext31, ext32, bin_add, bin_sub, decide_true, decide_false, e1, p1, q1, a1, s1', fa, l1a, kl, r1, r2, e3]
    exact i3 _ k (by simp [T.get_set]) (by simp [T.get_set]) (by simp [T.get_set]) (by simp [T.get_set]) (by simp [T.get_set])
theorem l_headers_Sorted_ck (c : CallK) (N : Nat) (hNm : NIsOk c) (hs : List Hd) (hS : Small hs) (lv v29 v30 v31 : V) (n : Bs) (hn : n.length ≤ 10000) (acc : List Hd) (B : Nat) (hacc : acc.length ≤ 998000) : ∀ (l pre : List Hd) (ov : V) (H : Heap) (τ : Tape) (m : Nat), hs = pre ++ l → l.length < m → WF H → B ≤ H.size → (∀ H', Gr B H H' → RdH H' lv hs) → LsH H B ov (acc ++ (pre.filter (named n)).map (fun h => (n, h.2))) →
    ∃ ov' H' τ', LsH H' B ov' (acc ++ (hs.filter (named n)).map (fun h => (n, h.2))) ∧ Gr B H H' ∧ ∀ (fr : T V) k, fr.get 0 = some lv → fr.get 6 = some ov → fr.get 8 = some (.str n) → fr.get 29 = some v29 → fr.get 30 = some v30 → fr.get 31 = some v31 → fr.get 49 = some lv → fr.get 50 = some (.int .i64 (hs.length : Int)) → fr.get 51 = some (.int .i64 (pre.length : Int)) →
      loopK (s_headers_Sorted_l4 c N) m ⟨fr, H⟩ τ k = k (.exit 4) ⟨(T.set (T.set (T.set (T.set (T.set .leaf 0 lv) 6 ov') 29 v29) 30 v30) 31 v31), H'⟩ τ' := by
  intro l
  induction l with
  | nil =>
    intro pre ov H τ m he hm hw hB hrd ho
    obtain ⟨m, rfl⟩ : ∃ j, m = j + 1 := ⟨m - 1, by omega⟩
    have e1 : decide (pre.length < hs.length) = false := decide_eq_false (by rw [he]; simp)
    refine ⟨ov, H, τ, by rw [he, List.append_nil]; exact ho, Gr.refl hw, fun fr k f0 f6 f8 f29 f30 f31 f49 f50 f51 => ?_⟩
    rw [loopK_succ]
    simp only [s_headers_Sorted_l4, getK_mk f0, getK_mk f6, getK_mk f8, getK_mk f29, getK_mk f30, getK_mk f31, getK_mk f49, getK_mk f50, getK_mk f51, getK_set, ↓reduceIte, Nat.reduceEqDiff, someK_n, effK_n, retK, gK_do, gK_do', gK_skip, gK_skip', gK_none, pick_mk, cond_true, cond_false, condK_tn, condK_fn, bin_eql, bin_neq, bin_lss, bin_leq, bin_gtr, bin_geq, un_not, Bool.not_true, Bool.not_false, bin_str, lenS_mk, nle_l, nle_r, nle_n, nlt_l, nlt_r, nlt_n, neq_r, neq_n, nne_r, nne_n, ext0, ext1, ext30, ext31, ext32, bin_add, bin_sub, decide_true, decide_false, e1]
    rfl
  | cons x l ih =>
    intro pre ov H τ m he hm hw hB hrd ho
    obtain ⟨m, rfl⟩ : ∃ j, m = j + 1 := ⟨m - 1, by omega⟩
    have hlt : pre.length < hs.length := by rw [he]; simp
    have hl := hS.len
    have e1 : decide (pre.length < hs.length) = true := decide_eq_true hlt
    have e3 : wr .i64 ((pre.length : Int) + Int.ofNat 1) = ((pre ++ [x]).length : Int) := by rw [adI (by omega)]; simp
    have hr := (hrd H (Gr.refl hw)).1
    obtain ⟨id, o, p1, p2⟩ := hd_at (v := lv) pre x l (H := H) (by rw [← he]; exact hr)
    obtain ⟨q1, q2, q3⟩ := p2 H (by rw [← he]; exact hr)
    obtain ⟨H1, H2, a1, s1, b2, g2, lt2⟩ := box2 hw (.str x.1) (.str x.2) (.str []) (.str []) rfl rfl τ
    have s1' : eStore 2 [.ptr H.size 0, hv x] H1 τ = some (.tup [], H2, τ) := s1
    have l1 : lLoadN 2 [.ptr H.size 0] H2 = some (hv x) := load_cells b2.cells (by simp)
    have l1b : lLoad1 [.ptr H.size 1] H2 = some (.str x.2) := load_cell b2.cells rfl
    have fa : pFieldAddr 1 [.ptr H.size 0] = some (.ptr H.size 1) := rfl
    have hx := hS.all x (by rw [he]; simp)
    have kn := fun H τ q => hNm x n (by omega) (by omega) H τ q
    have ho2 := ho.gr g2 hw (Nat.le_refl _)
    have gB2 := g2.weaken hB
    cases hb : named n x with
    | false =>
      obtain ⟨ov', H', τ', i1, i2, i3⟩ := ih (pre ++ [x]) ov H2 τ m (by rw [he]; simp) (by simp at hm; omega) g2.wf (Nat.le_trans hB g2.size) (fun H' hg => hrd H' (gB2.trans hg (Nat.le_refl _))) (by rw [List.filter_append]; simpa [hb] using ho2)
      refine ⟨ov', H', τ', i1, gB2.trans i2 (Nat.le_refl _), fun fr k f0 f6 f8 f29 f30 f31 f49 f50 f51 => ?_⟩
      rw [loopK_succ]
      simp only [s_headers_Sorted_l4, getK_mk f0, getK_mk f6, getK_mk f8, getK_mk f29, getK_mk f30, getK_mk f31, getK_mk f49, getK_mk f50, getK_mk f51, getK_set, ↓reduceIte, Nat.reduceEqDiff, someK_n, effK_n, retK, gK_do, gK_do', gK_skip, gK_skip', gK_none, pick_mk, cond_true, cond_false, condK_tn, condK_fn, bin_eql, bin_neq, bin_lss, bin_leq, bin_gtr, bin_geq, un_not, Bool.not_true, Bool.not_false, bin_str, lenS_mk, nle_l, nle_r, nle_n, nlt_l, nlt_r, nlt_n, neq_r, neq_n, nne_r, nne_n, ext0, ext1, ext30, ext31, ext32, bin_add, bin_sub, decide_true, decide_false, e1, p1, q1, a1, s1', l1, kn, hb, s_headers_Sorted_j5, e3]
      exact i3 _ k (by simp [T.get_set]) (by simp [T.get_set]) (by simp [T.get_set]) (by simp [T.get_set]) (by simp [T.get_set]) (by simp [T.get_set]) (by simp [T.get_set]) (by simp [T.get_set]) (by simp [T.get_set])
    | true =>
      have pb : pBuild [(.str []), (.str [])] [(0, 1), (1, 1)] [.str n, .str x.2] = some (hv (n, x.2)) := rfl
      have hfl := List.length_filter_le (named n) pre
      obtain ⟨w, H3, v', H4, τ4, r1, r2, r3, r4, _, _⟩ := ho2.put g2.wf (Nat.le_trans hB g2.size) (n, x.2) (by simp; omega) τ
      have gB4 := gB2.trans r4 (Nat.le_refl _)
      obtain ⟨ov', H', τ', i1, i2, i3⟩ := ih (pre ++ [x]) v' H4 τ4 m (by rw [he]; simp) (by simp at hm; omega) r4.wf (Nat.le_trans hB gB4.size) (fun H' hg => hrd H' (gB4.trans hg (Nat.le_refl _))) (by rw [List.filter_append]; simpa [hb] using r3)
      refine ⟨ov', H', τ', i1, gB4.trans i2 (Nat.le_refl _), fun fr k f0 f6 f8 f29 f30 f31 f49 f50 f51 => ?_⟩
      rw [loopK_succ]
      simp only [s_headers_Sorted_l4, getK_mk f0, getK_mk f6, getK_mk f8, getK_mk f29, getK_mk f30, getK_mk f31, getK_mk f49, getK_mk f50, getK_mk f51, getK_set, ↓reduceIte, Nat.reduceEqDiff, someK_n, effK_n, retK, gK_do, gK_do', gK_skip, gK_skip', gK_none, pick_mk, cond_true, cond_false, condK_tn, condK_fn, bin_eql, bin_neq, bin_lss, bin_leq, bin_gtr, bin_geq, un_not, Bool.not_true, Bool.not_false, bin_str, lenS_mk, nle_l, nle_r, nle_n, nlt_l, nlt_r, nlt_n, neq_r, neq_n, nne_r, nne_n, ext0, ext1, ext30, ext31, ext32, bin_add, bin_sub, decide_true, decide_false, e1, p1, q1, a1, s1', l1, kn, hb, fa, l1b, pb, r1, r2, s_headers_Sorted_j5, e3]
      exact i3 _ k (by simp [T.get_set]) (by simp [T.get_set]) (by simp [T.get_set]) (by simp [T.get_set]) (by simp [T.get_set]) (by simp [T.get_set]) (by simp [T.get_set]) (by simp [T.get_set]) (by simp [T.get_set])
theorem l_headers_Sorted (c : CallK) {N : Nat} (hN : 9223372036854775807 < N) (hG : IsP c f_headers_Get (RH GetPre GetG)) (hNm : NIsOk c) (hs : List Hd) (hS : Small hs) (h9 : hs.length ≤ 900) (lv nv : V) (ns : List Bs) (hns : ns.length ≤ hs.length) (hnl : ∀ n ∈ ns, n.length ≤ 10000) (B : Nat) : ∀ (l pre : List Bs) (ov : V) (H : Heap) (τ : Tape) (m : Nat), ns = pre ++ l → l.length < m → WF H → B ≤ H.size → (∀ H', Gr B H H' → RdH H' lv hs) → (∀ H', Gr B H H' → Rd H' 1 nv ns.length (ns.map V.str)) → LsH H B ov (pre.flatMap (oneT hs)) →
    ∃ ov' H' τ', LsH H' B ov' (ns.flatMap (oneT hs)) ∧ Gr B H H' ∧ ∀ (fr : T V) k, fr.get 0 = some lv → fr.get 6 = some ov → fr.get 29 = some nv → fr.get 30 = some (.int .i64 (ns.length : Int)) → fr.get 31 = some (.int .i64 (pre.length : Int)) →
      loopK (s_headers_Sorted_l2 c N) m ⟨fr, H⟩ τ k = k (.exit 2) ⟨(T.set .leaf 6 ov'), H'⟩ τ' := by
  intro l
  induction l with
  | nil =>
    intro pre ov H τ m he hm hw hB hrd hnd ho
    obtain ⟨m, rfl⟩ : ∃ j, m = j + 1 := ⟨m - 1, by omega⟩
    have e1 : decide (pre.length < ns.length) = false := decide_eq_false (by rw [he]; simp)
    refine ⟨ov, H, τ, by rw [he, List.append_nil]; exact ho, Gr.refl hw, fun fr k f0 f6 f29 f30 f31 => ?_⟩
    rw [loopK_succ]
    simp only [s_headers_Sorted_l2, getK_mk f0, getK_mk f6, getK_mk f29, getK_mk f30, getK_mk f31, getK_set, ↓reduceIte, Nat.reduceEqDiff, someK_n, effK_n, retK, gK_do, gK_do', gK_skip, gK_skip', gK_none, pick_mk, cond_true, cond_false, condK_tn, condK_fn, bin_eql, bin_neq, bin_lss, bin_leq, bin_gtr, bin_geq, un_not, Bool.not_true, Bool.not_false, bin_str, lenS_mk, nle_l, nle_r, nle_n, nlt_l, nlt_r, nlt_n, neq_r, neq_n, nne_r, nne_n, ext0, ext1, ext30, ext31, ext32, bin_add, bin_sub, decide_true, decide_false, e1]
    rfl
  | cons x l ih =>
    intro pre ov H τ m he hm hw hB hrd hnd ho
    obtain ⟨m, rfl⟩ : ∃ j, m = j + 1 := ⟨m - 1, by omega⟩
    have hlt : pre.length < ns.length := by rw [he]; simp
    have hl := hS.len
    have e1 : decide (pre.length < ns.length) = true := decide_eq_true hlt
    have e3 : wr .i64 ((pre.length : Int) + Int.ofNat 1) = ((pre ++ [x]).length : Int) := by rw [adI (by omega)]; simp
    have hnr := hnd H (Gr.refl hw)
    have hrl := hrd H (Gr.refl hw)
    have pl := hrl.1.pLen
    have hj : (ns.map V.str)[pre.length]? = some (.str x) := by rw [he]; simp
    obtain ⟨pn, n1, n2⟩ := hnr.elem1 hj
    have hx := hnl x (by rw [he]; simp)
    have hacc : (pre.flatMap (oneT hs)).length ≤ 998000 := by
      have h1 := flat_len hs pre
      have h2 : pre.length * (hs.length + 1) ≤ 900 * 901 := Nat.mul_le_mul (by omega) (by omega)
      omega
    have ek : bs [115, 101, 116, 45, 99, 111, 111, 107, 105, 101] = scT := rfl
    cases hb : (x == scT) with
    | false =>
      have en : (x != scT) = true := by rw [bne, hb]; rfl
      have kg := fun τ q => k_Get hG hS (name := x) (by omega) hrl τ q
      have pb : pBuild [(.str []), (.str [])] [(0, 1), (1, 1)] [.str x, .str (getT x hs)] = some (hv (x, getT x hs)) := rfl
      obtain ⟨w, H1, v', H2, τ2, r1, r2, r3, r4, _, _⟩ := ho.put hw hB (x, getT x hs) (by omega) τ
      obtain ⟨ov', H', τ', i1, i2, i3⟩ := ih (pre ++ [x]) v' H2 τ2 m (by rw [he]; simp) (by simp at hm; omega) r4.wf (Nat.le_trans hB r4.size) (fun H' hg => hrd H' (r4.trans hg (Nat.le_refl _))) (fun H' hg => hnd H' (r4.trans hg (Nat.le_refl _))) (by rw [List.flatMap_append]; simpa [oneT, hb] using r3)
      refine ⟨ov', H', τ', i1, r4.trans i2 (Nat.le_refl _), fun fr k f0 f6 f29 f30 f31 => ?_⟩
      rw [loopK_succ]
      simp only [s_headers_Sorted_l2, getK_mk f0, getK_mk f6, getK_mk f29, getK_mk f30, getK_mk f31, getK_set, ↓reduceIte, Nat.reduceEqDiff, someK_n, effK_n, retK, gK_do, gK_do', gK_skip, gK_skip', gK_none, pick_mk, cond_true, cond_false, condK_tn, condK_fn, bin_eql, bin_neq, bin_lss, bin_leq, bin_gtr, bin_geq, un_not, Bool.not_true, Bool.not_false, bin_str, lenS_mk, nle_l, nle_r, nle_n, nlt_l, nlt_r, nlt_n, neq_r, neq_n, nne_r, nne_n, ext0, ext1, ext30, ext31, ext32, bin_add, bin_sub, decide_true, decide_false, e1, n1, n2, ek, str_neq, en, kg, pb, r1, r2, s_headers_Sorted_j3, e3]
      exact i3 _ k (by simp [T.get_set]) (by simp [T.get_set]) (by simp [T.get_set]) (by simp [T.get_set]) (by simp [T.get_set])
    | true =>
      have en : (x != scT) = false := by rw [bne, hb]; rfl
      obtain ⟨v', H2, τ2, r1, r2, r3⟩ := l_headers_Sorted_ck c N hNm hs hS lv nv (.int .i64 (ns.length : Int)) (.int .i64 (pre.length : Int)) x hx (pre.flatMap (oneT hs)) B hacc hs [] ov H τ N rfl (by omega) hw hB hrd (by simpa using ho)
      obtain ⟨ov', H', τ', i1, i2, i3⟩ := ih (pre ++ [x]) v' H2 τ2 m (by rw [he]; simp) (by simp at hm; omega) r2.wf (Nat.le_trans hB r2.size) (fun H' hg => hrd H' (r2.trans hg (Nat.le_refl _))) (fun H' hg => hnd H' (r2.trans hg (Nat.le_refl _))) (by rw [List.flatMap_append]; simpa [oneT, hb] using r1)
      refine ⟨ov', H', τ', i1, r2.trans i2 (Nat.le_refl _), fun fr k f0 f6 f29 f30 f31 => ?_⟩
      rw [loopK_succ]
      simp only [s_headers_Sorted_l2, getK_mk f0, getK_mk f6, getK_mk f29, getK_mk f30, getK_mk f31, pl, getK_set, ↓reduceIte, Nat.reduceEqDiff, someK_n, effK_n, retK, gK_do, gK_do', gK_skip, gK_skip', gK_none, pick_mk, cond_true, cond_false, condK_tn, condK_fn, bin_eql, bin_neq, bin_lss, bin_leq, bin_gtr, bin_geq, un_not, Bool.not_true, Bool.not_false, bin_str, lenS_mk, nle_l, nle_r, nle_n, nlt_l, nlt_r, nlt_n, neq_r, neq_n, nne_r, nne_n, ext0, ext1, ext30, ext31, ext32, bin_add, bin_sub, decide_true, decide_false, e1, n1, n2, ek, str_neq, en]
      rw [r3 _ _ (by simp [T.get_set]) (by simp [T.get_set]) (by simp [T.get_set]) (by simp [T.get_set]) (by simp [T.get_set]) (by simp [T.get_set]) (by simp [T.get_set]) (by simp [T.get_set]) (by simp [T.get_set])]
      simp only [blockK, Nat.beq_refl, cond_true, seqK, s_headers_Sorted_j3, getK_set, ↓reduceIte, Nat.reduceEqDiff, someK_n, effK_n, retK, gK_do, gK_do', gK_skip, gK_skip', gK_none, pick_mk, cond_true, cond_false, condK_tn, condK_fn, bin_eql, bin_neq, bin_lss, bin_leq, bin_gtr, bin_geq, un_not, Bool.not_true, Bool.not_false, bin_str, lenS_mk, nle_l, nle_r, nle_n, nlt_l, nlt_r, nlt_n, neq_r, neq_n, nne_r, nne_n, ext0, ext1, ext30, ext31, ext32, bin_add, bin_sub, decide_true, decide_false, e3]
      exact i3 _ k (by simp [T.get_set]) (by simp [T.get_set]) (by simp [T.get_set]) (by simp [T.get_set]) (by simp [T.get_set])
theorem s_headers_Sorted_ret (c : CallK) {N : Nat} (hN : 9223372036854775807 < N) (hL : ∀ (s : Bs), s.length ≤ 140737488355328 → ∀ H τ q, c f_infra_Lower [.str s] H τ q = q (.str (lower s)) H τ) (hG : IsP c f_headers_Get (RH GetPre GetG)) (hNm : NIsOk c) (hSr : ∀ vs H τ q, c f_slices_Sort_string vs H τ q = effK (sortP vs H τ) q) (hCo : ∀ vs H τ q, c f_slices_Compact_string vs H τ q = effK (compactP vs H τ) q) (hs : List Hd) (hS : Small hs) (h9 : hs.length ≤ 900) (lv : V) (H : Heap) (hw : WF H) (hr : RdH H lv hs) (τ : Tape) :
    ∃ v' H' τ', LsH H' H.size v' (sortT hs) ∧ Gr H.size H H' ∧ ∀ q, s_headers_Sorted c N lv H τ q = q v' H' τ' := by
  obtain ⟨v1, H1, τ1, i1, i2, i3⟩ := l_headers_Sorted_names c N hL hs hS lv H.size hs [] .nils H τ N rfl (by omega) hw (Nat.le_refl _) (fun H' hg => hr.gr hg hw (Nat.le_refl _)) (LsS.nil _ _)
  have hll : (lowN hs).length ≤ 900 := by simp [lowN]; omega
  obtain ⟨H2, j1, j2, j3⟩ := Own.sort i1.1 i2.wf (by omega)
  have hsl := (sorted_ok (lowN hs)).2.2
  obtain ⟨v3, H3, k1, k2, k3, k4⟩ := Own.compact j2 j3.wf (by omega)
  rw [compact_sorted] at k2
  have g13 := (i2.trans j3 (Nat.le_refl _)).trans k4 (Nat.le_refl _)
  have hr3 := hr.gr g13 hw (Nat.le_refl _)
  have pl := hr.1.pLen
  have pl3 := k2.pLen
  obtain ⟨v4, H4, τ4, m1, m2, m3⟩ := l_headers_Sorted c hN hG hNm hs hS h9 lv v3 (srtT (lowN hs)) (lowN_len hs) (lowN_small hS) H3.size (srtT (lowN hs)) [] .nils H3 τ1 N rfl (by have := lowN_len hs; omega) k4.wf (Nat.le_refl _) (fun H' hg => hr3.gr hg k4.wf (Nat.le_refl _)) (fun H' hg => k2.gr hg k4.wf (Nat.le_refl _)) (LsH.nil _ _)
  refine ⟨v4, H4, τ4, m1.weaken g13.size, g13.trans m2 g13.size, fun q => ?_⟩
  simp only [s_headers_Sorted, pl, someK_n]
  rw [i3 _ _ (by simp [T.get_set]) (by simp [T.get_set]) (by simp [T.get_set]) (by simp [T.get_set]) (by simp [T.get_set])]
  simp only [blockK, Nat.beq_refl, cond_true, seqK, s_headers_Sorted_j0, getK_set, ↓reduceIte, Nat.reduceEqDiff, someK_n, effK_n, retK, gK_do, gK_do', gK_skip, gK_skip', gK_none, pick_mk, cond_true, cond_false, condK_tn, condK_fn, bin_eql, bin_neq, bin_lss, bin_leq, bin_gtr, bin_geq, un_not, Bool.not_true, Bool.not_false, bin_str, lenS_mk, nle_l, nle_r, nle_n, nlt_l, nlt_r, nlt_n, neq_r, neq_n, nne_r, nne_n, ext0, ext1, ext30, ext31, ext32, bin_add, bin_sub, decide_true, decide_false, hSr, hCo, j1, k1, pl3]
  rw [m3 _ _ (by simp [T.get_set]) (by simp [T.get_set]) (by simp [T.get_set]) (by simp [T.get_set]) (by simp [T.get_set])]
  simp only [blockK, Nat.beq_refl, cond_true, seqK, s_headers_Sorted_j1, getK_set, ↓reduceIte, Nat.reduceEqDiff, someK_n, effK_n, retK, gK_do, gK_do', gK_skip, gK_skip', gK_none, pick_mk, cond_true, cond_false, condK_tn, condK_fn, bin_eql, bin_neq, bin_lss, bin_leq, bin_gtr, bin_geq, un_not, Bool.not_true, Bool.not_false, bin_str, lenS_mk, nle_l, nle_r, nle_n, nlt_l, nlt_r, nlt_n, neq_r, neq_n, nne_r, nne_n, ext0, ext1, ext30, ext31, ext32, bin_add, bin_sub, decide_true, decide_false]
noncomputable abbrev rw_HSorted : List Row := [Row.fn f_headers_Sorted fn_headers_Sorted e_headers_Sorted, Row.prim f_infra_Lower (outP LowR), Row.prim f_headers_Get (outP (RH GetPre GetG)), Row.prim f_headers_is (outP RNamedR), Row.prim f_slices_Sort_string sortP, Row.prim f_slices_Compact_string compactP]
theorem p_headers_Sorted : ∀ base w0, PrimOk PG base w0 f_headers_Sorted (outP (RH SortPre SortG)) := by
  obtain ⟨N, hN⟩ := someN
  refine primRH (N := N) (l := rw_HSorted) (.fn ok_headers_Sorted e_headers_Sorted_ok (.prim p_infra_Lower (.prim p_headers_Get (.prim p_headers_is (.prim sortP_ok (.prim compactP_ok (.nil _))))))) 2 _ (fun hs args hp lv H hw hr τ => ?_)
  unfold SortPre at hp; split at hp
  · obtain ⟨v', H', τ', h1, h2, h3⟩ := s_headers_Sorted_ret (CR rw_HSorted N 1) hN (fun s hs H τ q => callS (c := CR rw_HSorted N 1) (f := f_infra_Lower) (M := 140737488355328) (g := fun s => .str (lower s)) (fun _ _ _ _ => rfl) s hs H τ q) (fun _ _ _ _ => rfl) (k_headers_is fun _ _ _ _ => rfl) (fun _ _ _ _ => rfl) (fun _ _ _ _ => rfl) hs hp.1 hp.2 lv H hw hr τ
    exact ⟨_, H', τ', h2, LsH.met h1 mkOk_id trivial, h3⟩
  · exact hp.elim
end Go.Am.X

