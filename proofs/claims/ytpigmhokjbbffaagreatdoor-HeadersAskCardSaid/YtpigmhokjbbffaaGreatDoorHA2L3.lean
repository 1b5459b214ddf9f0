/- The abstract machine, printed functions of the program, and what they are shown to be. -/
import Derived.Test.YtpigmhokjbbffaaGreatDoorHA2L2
namespace Go.Am.X
set_option linter.unusedSimpArgs false
set_option linter.unusedVariables false
set_option linter.unusedSectionVars false
set_option maxRecDepth 100000
theorem primRH {N : Nat} {l : List Row} (hl : RowsOk PG l) (d f : Nat) {Pre : List Hd → List V → Prop} {g : Bool → List Hd → List V → Out} (h : ∀ hs args, Pre hs args → ∀ lv H, WF H → RdH H lv hs → ∀ τ, ∃ v H' τ', Gr H.size H H' ∧ (g (isNil lv) hs args).Met H v H' ∧ ∀ q, CR l N d f (lv :: args) H τ q = q v H' τ') : ∀ base w0, PrimOk PG base w0 f (outP (RH Pre g)) := by
  refine primOk_out mixed_ok hl N d f ?_
  rintro vs H o hw hvs ⟨lv, args, hs, rfl, hr, hp, rfl⟩ τ
  obtain ⟨v, H', τ', g1, hm, k1⟩ := h hs args hp lv H hw hr τ
  exact ⟨_, H', τ', k1 retK, g1, hm⟩
theorem LsH.lst {H : Heap} {B : Nat} {v : V} {hs : List Hd} (h : LsH H B v hs) (hn : hs ≠ []) : FreshL B H 2 hs.length (hcells hs) v := Got.lst h.1.apd.got (fun e => hn (List.eq_nil_of_length_eq_zero e))
theorem RdH.nils {H : Heap} {hs : List Hd} (h : RdH H .nils hs) : hs = [] := by
  rcases h.1 with ⟨_, h0, _⟩ | ⟨_, _, _, _, _, e, _⟩
  · exact List.eq_nil_of_length_eq_zero h0
  · cases e
theorem eq_hd (x : Hd) : pEq true (.flat [.str, .str]) [hv x, hv x] = some (.bool false) := by
  simp [pEq, hv, eqV, eqFlat, eqS, eqB_eq]
theorem l_book_Same_Header (c : CallK) (N : Nat) (a b : V) (hs : List Hd) (hl : hs.length ≤ 1000000) (H : Heap) (ha : RdH H a hs) (hb : RdH H b hs) :
    ∀ (l pre : List Hd) (fr : T V) (τ : Tape) (m : Nat), hs = pre ++ l → l.length < m → fr.get 0 = some a → fr.get 1 = some b → fr.get 5 = some (.int .i64 (pre.length : Int)) →
    ∀ k, loopK (s_book_Same_Header_l1 c N) m ⟨fr, H⟩ τ k = k (.exit 0) ⟨.leaf, H⟩ τ := by
  intro l
  induction l with
  | nil =>
    intro pre fr τ m he hm f0 f1 f5 k
    obtain ⟨m, rfl⟩ : ∃ j, m = j + 1 := ⟨m - 1, by omega⟩
    have e1 : decide (pre.length < hs.length) = false := decide_eq_false (by rw [he]; simp)
    rw [loopK_succ]
    simp only [s_book_Same_Header_l1, getK_mk f0, getK_mk f1, getK_mk f5, ha.1.pLen, getK_set, ↓reduceIte, Nat.reduceEqDiff, someK_n, effK_n, retK, gK_do, gK_do', gK_skip, gK_skip', gK_none, pick_mk, cond_true, cond_false, condK_tn, condK_fn, bin_eql, bin_neq, bin_lss, bin_leq, bin_gtr, bin_geq, un_not, Bool.not_true, Bool.not_false, bin_str, lenS_mk, nle_l, nle_r, nle_n, nlt_l, nlt_r, nlt_n, neq_r, neq_n, nne_r, nne_n, ext0, ext1, ext30, ext31, ext32, bin_add, bin_sub, decide_true, decide_false, e1]
    rfl
  | cons x l ih =>
    intro pre fr τ m he hm f0 f1 f5 k
    obtain ⟨m, rfl⟩ : ∃ j, m = j + 1 := ⟨m - 1, by omega⟩
    have hlt : pre.length < hs.length := by rw [he]; simp
    have e1 : decide (pre.length < hs.length) = true := decide_eq_true hlt
    have e3 : wr .i64 ((pre.length : Int) + Int.ofNat 1) = ((pre ++ [x]).length : Int) := by rw [adI (by omega)]; simp
    obtain ⟨id, o, p1, p2⟩ := hd_at (v := a) pre x l (H := H) (by rw [← he]; exact ha.1)
    have q1 := (p2 H (by rw [← he]; exact ha.1)).1
    obtain ⟨id', o', p3, p4⟩ := hd_at (v := b) pre x l (H := H) (by rw [← he]; exact hb.1)
    have q3 := (p4 H (by rw [← he]; exact hb.1)).1
    rw [loopK_succ]
    simp only [s_book_Same_Header_l1, getK_mk f0, getK_mk f1, getK_mk f5, ha.1.pLen, getK_set, ↓reduceIte, Nat.reduceEqDiff, someK_n, effK_n, retK, gK_do, gK_do', gK_skip, gK_skip', gK_none, pick_mk, cond_true, cond_false, condK_tn, condK_fn, bin_eql, bin_neq, bin_lss, bin_leq, bin_gtr, bin_geq, un_not, Bool.not_true, Bool.not_false, bin_str, lenS_mk, nle_l, nle_r, nle_n, nlt_l, nlt_r, nlt_n, neq_r, neq_n, nne_r, nne_n, ext0, ext1, ext30, ext31, ext32, bin_add, bin_sub, decide_true, decide_false, e1, p1, q1, p3, q3, eq_hd, e3]
    exact ih (pre ++ [x]) _ τ m (by rw [he]; simp) (by simp at hm; omega) (by simp [T.get_set]) (by simp [T.get_set]) (by simp [T.get_set]) k
theorem s_book_Same_Header_ret (c : CallK) {N : Nat} (hN : 9223372036854775807 < N) (a b : V) (hs : List Hd) (hl : hs.length ≤ 1000000) (H : Heap) (ha : RdH H a hs) (hb : RdH H b hs) (τ : Tape) (q : KV) : s_book_Same_Header c N a b H τ q = q (.bool true) H τ := by
  have e1 : ((hs.length : Int) != (hs.length : Int)) = false := by simp
  simp only [s_book_Same_Header, ha.1.pLen, hb.1.pLen, someK_n, bin_neq, e1, condK_fn]
  rw [l_book_Same_Header c N a b hs hl H ha hb hs [] _ τ N rfl (by omega) (by simp [T.get_set]) (by simp [T.get_set]) (by simp [T.get_set])]
  simp only [blockK, Nat.beq_refl, cond_true, seqK, s_book_Same_Header_j0]
def SameR (vs : List V) (H : Heap) (o : Out) : Prop := ∃ a b hs, vs = [a, b] ∧ RdH H a hs ∧ RdH H b hs ∧ hs.length ≤ 1000000 ∧ o = .val (.bool true)
theorem SameR_fun : Fun1 SameR := by
  rintro vs H o o' ⟨_, _, _, _, _, _, _, rfl⟩ ⟨_, _, _, _, _, _, _, rfl⟩; rfl
theorem p_book_Same_Header : ∀ base w0, PrimOk PG base w0 f_book_Same_Header (outP SameR) := by
  obtain ⟨N, hN⟩ := someN
  refine primOk_out mixed_ok (l := [Row.fn f_book_Same_Header fn_book_Same_Header e_book_Same_Header]) (.fn ok_book_Same_Header e_book_Same_Header_ok (.nil _)) N 1 _ ?_
  rintro vs H o hw hvs ⟨a, b, hs, rfl, ha, hb, hl, rfl⟩ τ
  exact ⟨_, H, τ, s_book_Same_Header_ret (CR [Row.fn f_book_Same_Header fn_book_Same_Header e_book_Same_Header] N 0) hN a b hs hl H ha hb τ retK, Gr.refl hw, rfl, trivial⟩
theorem k_book_Same_Header {c : CallK} (h : IsP c f_book_Same_Header SameR) {a b : V} {hs : List Hd} (hl : hs.length ≤ 1000000) {H : Heap} (ha : RdH H a hs) (hb : RdH H b hs) (τ : Tape) (q : KV) : c f_book_Same_Header [a, b] H τ q = q (.bool true) H τ :=
  outK_val h SameR_fun ⟨a, b, hs, rfl, ha, hb, hl, rfl⟩ τ q
abbrev FewHPre (hs : List Hd) : List V → Prop | [.int .i64 (.ofNat nn), .int .i64 (.ofNat mm)] => hs.length ≤ 9223372036854775807 ∧ 1 ≤ nn ∧ nn ≤ 1000 | _ => False
abbrev FewHG (_ : Bool) (hs : List Hd) : List V → Out | [.int .i64 (.ofNat nn), .int .i64 (.ofNat mm)] => lstO 2 (fewH nn mm hs).length (hcells (fewH nn mm hs)) (fun v => v) | _ => .val (.tup [])
theorem s_keep_Few_ret (c : CallK) (N : Nat) (s : Bs) (m : Nat) (H : Heap) (τ : Tape) (q : KV) : s_keep_Few c N (.str s) (.int .i64 (m : Int)) H τ q = q (.str (s.take m)) H τ := s14_eval c N s m H τ q
abbrev rw_FewH : List Row := [Row.fn f_keep_FewHeaders fn_keep_FewHeaders e_keep_FewHeaders, Row.fn f_keep_Few fn_keep_Few e_keep_Few]
theorem p_keep_FewHeaders : ∀ base w0, PrimOk PG base w0 f_keep_FewHeaders (outP (RH FewHPre FewHG)) := by
  obtain ⟨N, hN⟩ := someN
  refine primRH (N := N) (l := rw_FewH) (.fn ok_keep_FewHeaders e_keep_FewHeaders_ok (.fn ok_keep_Few e_keep_Few_ok (.nil _))) 2 _ (fun hs args hp lv H hw hr τ => ?_)
  unfold FewHPre at hp; split at hp
  · rename_i nn mm
    obtain ⟨v', H', τ', h1, h2, h3, h4⟩ := s_keep_FewHeaders_ret (CR rw_FewH N 1) N hN (fun s m H τ q => s_keep_Few_ret (CR rw_FewH N 0) N s m H τ q) hs hp.1 nn mm hp.2.2 lv H hw hr.1 τ
    refine ⟨v', H', τ', h1, ?_, h4⟩
    refine Got.met h2.apd.got (fun h0 => h3 ?_) mkOk_id (hcells_vok _ _) trivial
    have : (hs.take nn).length = 0 := by unfold fewH at h0; rw [List.length_map] at h0; exact h0
    rw [List.length_take] at this
    exact List.eq_nil_of_length_eq_zero (by omega)
  · exact hp.elim
theorem k_keep_FewHeaders {c : CallK} (h : IsP c f_keep_FewHeaders (RH FewHPre FewHG)) {hs : List Hd} (hl : hs.length ≤ 9223372036854775807) (nn mm : Nat) (h1 : 1 ≤ nn) (hn : nn ≤ 1000) {lv : V} {H : Heap} (hw : WF H) (hr : RdH H lv hs) (τ : Tape) :
    ∃ v' H' τ', Own H' H.size 2 v' (fewH nn mm hs).length (hcells (fewH nn mm hs)) ∧ Gr H.size H H' ∧ ∀ q, c f_keep_FewHeaders [lv, .int .i64 (.ofNat nn), .int .i64 (.ofNat mm)] H τ q = q v' H' τ' := by
  obtain ⟨v', H', τ', h1, h2, h3⟩ := RH_lstO (v := lv) (l := [.int .i64 (.ofNat nn), .int .i64 (.ofNat mm)]) h hr ⟨hl, h1, hn⟩ rfl hw (by rw [hcells_length]) τ
  exact ⟨v', H', τ', h1, h2, h3⟩
abbrev HPre : List V → Prop | [.str _, .str _] => True | _ => False
abbrev HG : List V → V | [.str a, .str b] => hv (a, b) | _ => .tup []
theorem p_law5_h : ∀ base w0, PrimOk PG base w0 f_law5_h (outP (RV HPre HG)) := by
  obtain ⟨N, hN⟩ := someN
  refine primRV (N := N) (l := [Row.fn f_law5_h fn_law5_h e_law5_h]) (.fn ok_law5_h e_law5_h_ok (.nil _)) 1 _ (fun vs H h => ?_) (fun vs h H hw τ => ?_)
  · unfold HPre at h; split at h
    · exact ⟨trivial, trivial, trivial⟩
    · exact h.elim
  · unfold HPre at h; split at h
    · obtain ⟨H', h1, h2⟩ := s_law5_h_ret (CR [Row.fn f_law5_h fn_law5_h e_law5_h] N 0) N _ _ H hw τ
      exact ⟨H', τ, h1, h2⟩
    · exact h.elim
theorem k_law5_h {c : CallK} (h : IsP c f_law5_h (RV HPre HG)) (a b : Bs) (H : Heap) (τ : Tape) (q : KV) : c f_law5_h [.str a, .str b] H τ q = q (hv (a, b)) H τ := RV_call h (vs := [.str a, .str b]) trivial H τ q
end Go.Am.X


namespace Go.Am.X
set_option linter.unusedSimpArgs false
set_option linter.unusedVariables false
set_option linter.unusedSectionVars false
set_option maxRecDepth 100000
theorem small_fewH (nn mm : Nat) (hn : nn ≤ 900) (hm : mm ≤ 1000) (hs : List Hd) : (fewH nn mm hs).length ≤ 900 ∧ ∀ h ∈ fewH nn mm hs, h.1.length ≤ 1000 ∧ h.2.length ≤ 1000 := by
  refine ⟨by unfold fewH; rw [List.length_map, List.length_take]; omega, fun h hh => ?_⟩
  unfold fewH at hh
  obtain ⟨x, _, rfl⟩ := List.mem_map.1 hh
  unfold fewh
  simp only [List.length_take]
  omega
theorem closedP_call {c : CallK} {f : Nat} (h : ∀ vs H τ q, c f vs H τ q = effK (closedP vs H τ) q) (H : Heap) (τ : Tape) (q : KV) : c f [] H τ q = q (.bool true) H τ := by rw [h]; rfl
end Go.Am.X


namespace Go.Am.X
set_option linter.unusedSimpArgs false
set_option linter.unusedVariables false
set_option linter.unusedSectionVars false
set_option maxRecDepth 100000
theorem repl_hd (n : Nat) : repl n [V.str [], V.str []] = hcells (List.replicate n (([], []) : Hd)) := by
  induction n with
  | zero => rfl
  | succ n ih =>
    rw [List.replicate_succ, hcells_cons, ← ih]
    unfold repl
    rw [List.replicate_succ, List.flatten_cons]; rfl
theorem hcells_take (hs : List Hd) (i : Nat) : (hcells hs).take (i * 2) = hcells (hs.take i) := by
  induction hs generalizing i with
  | nil => simp [hcells]
  | cons h l ih =>
    cases i with
    | zero => simp [hcells]
    | succ i => rw [List.take_succ_cons, hcells_cons, hcells_cons, ← ih, show (i + 1) * 2 = i * 2 + 1 + 1 by omega]; rfl
theorem RdH.upto {H : Heap} {v : V} {hs : List Hd} (h : RdH H v hs) (hr : Roomy v) {i : Nat} (hi : i ≤ hs.length) :
    ∃ v', pSlSlice 2 false true false [v, .int .i64 (i : Int)] = some v' ∧ Roomy v' ∧ ∀ H', RdH H' v hs → RdH H' v' (hs.take i) := by
  obtain ⟨v', h1, h2, h3, h4⟩ := h.1.upto hr hi
  refine ⟨v', h1, h2, fun H' h' => ⟨?_, h3 H' h'.2⟩⟩
  have := h4 H' _ h'.1
  rw [hcells_take] at this
  rw [List.length_take, Nat.min_eq_left hi]; exact this
theorem l_book_Roomy_Header (c : CallK) (N : Nat) (x : Hd) (b id M : Nat) (hM : M < 1000000000) (hb : b < id) :
    ∀ (m : Nat) (L : List Hd) (H : Heap) (τ : Tape) (n : Nat), L.length + m = M → m < n → WF H → Blk H id id (hcells (L ++ List.replicate m ([], []))) → Bx H b [.str x.1, .str x.2] →
    ∃ H' τ', Blk H' id id (hcells (L ++ List.replicate m x)) ∧ Gr id H H' ∧ ∀ (fr : T V) k, fr.get 3 = some (.ptr b 0) → fr.get 5 = some (.sl id 0 M M none 2) → fr.get 6 = some (.int .i64 (L.length : Int)) →
      loopK (s_book_Roomy_Header_l1 c N) n ⟨fr, H⟩ τ k = k (.exit 0) ⟨(T.set .leaf 5 (.sl id 0 M M none 2)), H'⟩ τ' := by
  intro m
  induction m with
  | zero =>
    intro L H τ n hL hn hw hB hbx
    obtain ⟨n, rfl⟩ : ∃ j, n = j + 1 := ⟨n - 1, by omega⟩
    have e1 : decide (L.length < M) = false := decide_eq_false (by omega)
    have pl : pLen [.sl id 0 M M none 2] = some (.int .i64 (M : Int)) := rfl
    refine ⟨H, τ, hB, Gr.refl hw, fun fr k f3 f5 f6 => ?_⟩
    rw [loopK_succ]
    simp only [s_book_Roomy_Header_l1, getK_mk f3, getK_mk f5, getK_mk f6, pl, getK_set, ↓reduceIte, Nat.reduceEqDiff, someK_n, effK_n, retK, gK_do, gK_do', gK_skip, gK_skip', gK_none, pick_mk, cond_true, cond_false, condK_tn, condK_fn, bin_eql, bin_neq, bin_lss, bin_leq, bin_gtr, bin_geq, un_not, Bool.not_true, Bool.not_false, bin_str, lenS_mk, nle_l, nle_r, nle_n, nlt_l, nlt_r, nlt_n, neq_r, neq_n, nne_r, nne_n, ext0, ext1, ext30, ext31, ext32, bin_add, bin_sub, decide_true, decide_false, e1]
    rfl
  | succ m ih =>
    intro L H τ n hL hn hw hB hbx
    obtain ⟨n, rfl⟩ : ∃ j, n = j + 1 := ⟨n - 1, by omega⟩
    have hlt : L.length < M := by omega
    have e1 : decide (L.length < M) = true := decide_eq_true hlt
    have pl : pLen [.sl id 0 M M none 2] = some (.int .i64 (M : Int)) := rfl
    have e2 : pSlIdx 2 [.sl id 0 M M none 2, .int .i64 (L.length : Int)] = some (.ptr id (L.length * 2)) := by
      have : Nat.blt L.length M = true := by simp [Nat.blt]; omega
      simp [pSlIdx, natOf_nat, this]
    have e3 : wr .i64 ((L.length : Int) + Int.ofNat 1) = ((L ++ [x]).length : Int) := by rw [adI (by omega)]; simp
    have l1 : lLoadN 2 [.ptr b 0] H = some (hv x) := load_cells hbx.cells (by simp)
    have hlen : (hcells (L ++ List.replicate (m + 1) ([], []))).length = M * 2 := by rw [hcells_length]; simp; omega
    obtain ⟨H1, k1, k2, k3, k4⟩ := hB.eStore hw (L.length * 2) (hv x) 2 rfl (by rw [hlen]; omega) rfl τ
    rw [List.replicate_succ, hcells_store] at k2
    have hbx1 := hbx.gr k3 hb
    obtain ⟨H', τ', i1, i2, i3⟩ := ih (L ++ [x]) H1 τ n (by simp; omega) (by omega) k3.wf (by simpa using k2) hbx1
    refine ⟨H', τ', by rw [List.replicate_succ]; simpa using i1, k3.trans i2 (Nat.le_refl _), fun fr k f3 f5 f6 => ?_⟩
    rw [loopK_succ]
    simp only [s_book_Roomy_Header_l1, getK_mk f3, getK_mk f5, getK_mk f6, pl, getK_set, ↓reduceIte, Nat.reduceEqDiff, someK_n, effK_n, retK, gK_do, gK_do', gK_skip, gK_skip', gK_none, pick_mk, cond_true, cond_false, condK_tn, condK_fn, bin_eql, bin_neq, bin_lss, bin_leq, bin_gtr, bin_geq, un_not, Bool.not_true, Bool.not_false, bin_str, lenS_mk, nle_l, nle_r, nle_n, nlt_l, nlt_r, nlt_n, neq_r, neq_n, nne_r, nne_n, ext0, ext1, ext30, ext31, ext32, bin_add, bin_sub, decide_true, decide_false, e1, l1, e2, k1, e3]
    exact i3 _ k (by simp [T.get_set]) (by simp [T.get_set]) (by simp [T.get_set])
theorem Blk.freshL {H : Heap} {id M : Nat} {cs : List V} (h : Blk H id id cs) {z : Nat} (hl : cs.length = M * z) (hM : M < 9223372036854775808) {B : Nat} (hB : B ≤ id) : FreshL B H z M cs (.sl id 0 M M none z) := by
  obtain ⟨room, fam, ver, pl, st, fr, h1, h2, h3, h4, h5, h6⟩ := h
  exact ⟨id, 0, M, none, cs, room, fam, ver, pl, st, fr, ver, rfl, h1, h2, h3, Nat.le_trans hB h5, by rw [List.drop_zero, ← hl, List.take_length], hl, .inr ⟨by omega, hM⟩⟩
theorem s_book_Roomy_Header_ret (c : CallK) {N : Nat} (hN : 9223372036854775807 < N) (lv : V) (hs : List Hd) (hl : hs.length ≤ 1000000) (x : Hd) (H : Heap) (hw : WF H) (hr : RdH H lv hs) (τ : Tape) :
    ∃ v' H' τ', FreshL H.size H' 2 (hs.length + 80) (hcells (hs ++ List.replicate 80 x)) v' ∧ Gr H.size H H' ∧ ∀ q, s_book_Roomy_Header c N lv (hv x) H τ q = q v' H' τ' := by
  have a1 : eBox [hv x] H τ = some (.ptr H.size 0, H.new [.str x.1, .str x.2] 2 true, τ) := rfl
  have g1 := Gr.new hw [.str x.1, .str x.2] 2 true
  have b1 := Bx.new H [.str x.1, .str x.2] 2 true (Nat.le_refl _)
  have z1 : (H.new [.str x.1, .str x.2] 2 true).size = H.size + 1 := rfl
  generalize H.new [.str x.1, .str x.2] 2 true = H1 at a1 g1 b1 z1
  have pl := hr.1.pLen
  have e4 : wr .i64 ((hs.length : Int) + Int.ofNat 80) = ((hs.length + 80 : Nat) : Int) := adI (by omega)
  have a2 : eMakeSlice 2 32 [(.str []), (.str [])] [.int .i64 ((hs.length + 80 : Nat) : Int), .int .i64 ((hs.length + 80 : Nat) : Int)] H1 τ = some (.sl H1.size 0 (hs.length + 80) (hs.length + 80) none 2, H1.new (repl (hs.length + 80) [.str [], .str []]) ((hs.length + 80) * 2) false, τ) := by
    have b1 : Nat.ble (hs.length + 80) (hs.length + 80) = true := Nat.ble_eq_true_of_le (Nat.le_refl _)
    have b2 : Nat.ble ((hs.length + 80) * 32) 140737488355328 = true := Nat.ble_eq_true_of_le (by omega)
    have b3 : Nat.ble (hs.length + 80) 140737488355328 = true := Nat.ble_eq_true_of_le (by omega)
    simp only [eMakeSlice, natOf_nat, b1, b2, b3, Bool.and_self, cond_true]
  have g2 := Gr.new g1.wf (repl (hs.length + 80) [V.str [], V.str []]) ((hs.length + 80) * 2) false
  have k2 := Blk.new H1 (repl (hs.length + 80) [V.str [], V.str []]) ((hs.length + 80) * 2) false (by rw [repl_hd, hcells_length]; simp)
  rw [repl_hd] at a2 g2 k2
  generalize H1.new (hcells (List.replicate (hs.length + 80) ([], []))) ((hs.length + 80) * 2) false = H2 at a2 g2 k2
  have hr2 : RdH H2 lv hs := (hr.gr g1 hw (Nat.le_refl _)).gr g2 g1.wf (Nat.le_refl _)
  obtain ⟨s1, s2⟩ := hr2.1.loads hr2.2
  have hlen2 : (hcells (List.replicate (hs.length + 80) (([], []) : Hd))).length = (hs.length + 80) * 2 := by rw [hcells_length]; simp
  obtain ⟨H3, m1, m2, m3, m4⟩ := k2.stores g2.wf 0 (hcells hs) (by rw [hlen2, hcells_length]; omega) (hcells_scal hs)
  have ec : (hcells (List.replicate (hs.length + 80) (([], []) : Hd))).take 0 ++ hcells hs ++ (hcells (List.replicate (hs.length + 80) (([], []) : Hd))).drop (0 + (hcells hs).length) = hcells (hs ++ List.replicate 80 ([], [])) := by
    rw [List.take_zero, List.nil_append, Nat.zero_add, ← List.replicate_append_replicate, hcells_append, hcells_append]
    congr 1
    rw [List.drop_append_of_le_length (by rw [hcells_length, hcells_length]; simp)]
    rw [List.drop_of_length_le (by rw [hcells_length, hcells_length]; simp), List.nil_append]
  rw [ec] at m2
  have a3 : eCopy 2 [.sl H1.size 0 (hs.length + 80) (hs.length + 80) none 2, lv] H2 τ = some (.int .i64 (hs.length : Int), H3, τ) := by
    have b1 : Nat.ble hs.length (hs.length + 80) = true := Nat.ble_eq_true_of_le (by omega)
    simp only [eCopy, s1, b1, cond_true, Nat.beq_refl, s2, m1]
    rfl
  have b3 : Bx H3 H.size [.str x.1, .str x.2] := (b1.gr g2 (by omega)).gr m3 (by omega)
  obtain ⟨H4, τ4, n1, n2, n3⟩ := l_book_Roomy_Header c N x H.size H1.size (hs.length + 80) (by omega) (by omega) 80 hs H3 τ N rfl (by omega) m3.wf m2 b3
  have hfl := Blk.freshL (z := 2) (M := hs.length + 80) n1 (by rw [hcells_length]; simp) (by omega) g1.size
  refine ⟨_, H4, τ4, hfl, (((g1.trans g2 g1.size).trans m3 g1.size).trans n2 g1.size), fun q => ?_⟩
  simp only [s_book_Roomy_Header, a1, pl, getK_set, ↓reduceIte, Nat.reduceEqDiff, someK_n, effK_n, retK, gK_do, gK_do', gK_skip, gK_skip', gK_none, pick_mk, cond_true, cond_false, condK_tn, condK_fn, bin_eql, bin_neq, bin_lss, bin_leq, bin_gtr, bin_geq, un_not, Bool.not_true, Bool.not_false, bin_str, lenS_mk, nle_l, nle_r, nle_n, nlt_l, nlt_r, nlt_n, neq_r, neq_n, nne_r, nne_n, ext0, ext1, ext30, ext31, ext32, bin_add, bin_sub, decide_true, decide_false, e4, a2, a3]
  rw [n3 _ _ (by simp [T.get_set]) (by simp [T.get_set]) (by simp [T.get_set])]
  simp only [blockK, Nat.beq_refl, cond_true, seqK, s_book_Roomy_Header_j0, getK_set, ↓reduceIte, Nat.reduceEqDiff, someK_n, effK_n, retK, gK_do, gK_do', gK_skip, gK_skip', gK_none, pick_mk, cond_true, cond_false, condK_tn, condK_fn, bin_eql, bin_neq, bin_lss, bin_leq, bin_gtr, bin_geq, un_not, Bool.not_true, Bool.not_false, bin_str, lenS_mk, nle_l, nle_r, nle_n, nlt_l, nlt_r, nlt_n, neq_r, neq_n, nne_r, nne_n, ext0, ext1, ext30, ext31, ext32, bin_add, bin_sub, decide_true, decide_false]
abbrev RoomyPre (hs : List Hd) : List V → Prop | [.agg [.str _, .str _]] => hs.length ≤ 1000000 | _ => False
abbrev RoomyG (_ : Bool) (hs : List Hd) : List V → Out | [.agg [.str a, .str b]] => .lst 2 (hs.length + 80) (hcells (hs ++ List.replicate 80 (a, b))) (fun v => v) | _ => .val (.tup [])
abbrev rw_Roomy : List Row := [Row.fn f_book_Roomy_Header fn_book_Roomy_Header e_book_Roomy_Header]
theorem p_book_Roomy_Header : ∀ base w0, PrimOk PG base w0 f_book_Roomy_Header (outP (RH RoomyPre RoomyG)) := by
  obtain ⟨N, hN⟩ := someN
  refine primRH (N := N) (l := rw_Roomy) (.fn ok_book_Roomy_Header e_book_Roomy_Header_ok (.nil _)) 1 _ (fun hs args hp lv H hw hr τ => ?_)
  unfold RoomyPre at hp; split at hp
  · rename_i a b
    obtain ⟨v', H', τ', h1, h2, h3⟩ := s_book_Roomy_Header_ret (CR rw_Roomy N 0) hN lv hs hp (a, b) H hw hr τ
    exact ⟨v', H', τ', h2, ⟨mkOk_id, hcells_vok _ _, v', rfl, h1⟩, h3⟩
  · exact hp.elim
theorem k_book_Roomy_Header {c : CallK} (h : IsP c f_book_Roomy_Header (RH RoomyPre RoomyG)) {hs : List Hd} (hl : hs.length ≤ 1000000) (x : Hd) {lv : V} {H : Heap} (hw : WF H) (hr : RdH H lv hs) (τ : Tape) :
    ∃ v' H' τ', RdH H' v' (hs ++ List.replicate 80 x) ∧ Roomy v' ∧ Gr H.size H H' ∧ ∀ q, c f_book_Roomy_Header [lv, hv x] H τ q = q v' H' τ' := by
  obtain ⟨v', H', τ', h1, _, h2, h3⟩ := RH_lst (v := lv) (l := [hv x]) h hr hl (z := 2) (n := hs.length + 80) (cs := hcells (hs ++ List.replicate 80 x)) (mk := fun v => v) rfl hw (by rw [hcells_length]; simp) τ
  have h1' : Own H' H.size 2 v' (hs ++ List.replicate 80 x).length (hcells (hs ++ List.replicate 80 x)) := by simpa using h1
  refine ⟨v', H', τ', Own.rdH h1', ?_, h2, h3⟩
  rcases h1 with ⟨rfl, _⟩ | ⟨id, e, room, fam, ver, pl, st, fr, rfl, _⟩
  · trivial
  · show within _ _ _ = true; rw [within_iff]; exact .inl (Nat.le_refl _)
theorem l_book_Intact_Header (c : CallK) (N : Nat) (x : Hd) (b : Nat) (v : V) (hs : List Hd) (n0 : Nat) (hl : hs.length ≤ 1000000) (H : Heap) (hr : RdH H v hs) (hb : H.cells? b = some [.str x.1, .str x.2]) :
    ∀ (l pre : List Hd) (τ : Tape) (m : Nat), hs = pre ++ l → (∀ y ∈ l, y = x) → l.length < m →
    ∀ (fr : T V) k, fr.get 0 = some v → fr.get 5 = some (.ptr b 0) → fr.get 7 = some (.int .i64 (pre.length : Int)) →
      loopK (s_book_Intact_Header_l1 c N) m ⟨fr, H⟩ τ k = k (.exit 0) ⟨.leaf, H⟩ τ := by
  intro l
  induction l with
  | nil =>
    intro pre τ m he hy hm fr k f0 f5 f7
    obtain ⟨m, rfl⟩ : ∃ j, m = j + 1 := ⟨m - 1, by omega⟩
    have e1 : decide (pre.length < hs.length) = false := decide_eq_false (by rw [he]; simp)
    rw [loopK_succ]
    simp only [s_book_Intact_Header_l1, getK_mk f0, getK_mk f5, getK_mk f7, hr.1.pLen, getK_set, ↓reduceIte, Nat.reduceEqDiff, someK_n, effK_n, retK, gK_do, gK_do', gK_skip, gK_skip', gK_none, pick_mk, cond_true, cond_false, condK_tn, condK_fn, bin_eql, bin_neq, bin_lss, bin_leq, bin_gtr, bin_geq, un_not, Bool.not_true, Bool.not_false, bin_str, lenS_mk, nle_l, nle_r, nle_n, nlt_l, nlt_r, nlt_n, neq_r, neq_n, nne_r, nne_n, ext0, ext1, ext30, ext31, ext32, bin_add, bin_sub, decide_true, decide_false, e1]
    rfl
  | cons y l ih =>
    intro pre τ m he hy hm fr k f0 f5 f7
    obtain ⟨m, rfl⟩ : ∃ j, m = j + 1 := ⟨m - 1, by omega⟩
    have hlt : pre.length < hs.length := by rw [he]; simp
    have e1 : decide (pre.length < hs.length) = true := decide_eq_true hlt
    have e3 : wr .i64 ((pre.length : Int) + Int.ofNat 1) = ((pre ++ [y]).length : Int) := by rw [adI (by omega)]; simp
    obtain ⟨id, o, p1, p2⟩ := hd_at (v := v) pre y l (H := H) (by rw [← he]; exact hr.1)
    have q1 := (p2 H (by rw [← he]; exact hr.1)).1
    have l1 : lLoadN 2 [.ptr b 0] H = some (hv x) := load_cells hb (by simp)
    have ey := hy y (by simp)
    rw [ey] at q1
    rw [loopK_succ]
    simp only [s_book_Intact_Header_l1, getK_mk f0, getK_mk f5, getK_mk f7, hr.1.pLen, getK_set, ↓reduceIte, Nat.reduceEqDiff, someK_n, effK_n, retK, gK_do, gK_do', gK_skip, gK_skip', gK_none, pick_mk, cond_true, cond_false, condK_tn, condK_fn, bin_eql, bin_neq, bin_lss, bin_leq, bin_gtr, bin_geq, un_not, Bool.not_true, Bool.not_false, bin_str, lenS_mk, nle_l, nle_r, nle_n, nlt_l, nlt_r, nlt_n, neq_r, neq_n, nne_r, nne_n, ext0, ext1, ext30, ext31, ext32, bin_add, bin_sub, decide_true, decide_false, e1, p1, q1, l1, eq_hd, e3]
    exact ih (pre ++ [y]) τ m (by rw [he]; simp) (fun z hz => hy z (by simp [hz])) (by simp at hm; omega) _ k (by simp [T.get_set]) (by simp [T.get_set]) (by simp [T.get_set])
theorem s_book_Intact_Header_ret (c : CallK) {N : Nat} (hN : 9223372036854775807 < N) (hSame : IsP c f_book_Same_Header SameR) (v lv : V) (hs : List Hd) (hl : hs.length ≤ 900000) (x : Hd) (H : Heap) (hw : WF H) (hr : RdH H v (hs ++ List.replicate 80 x)) (hv' : Roomy v) (hr2 : RdH H lv hs) (τ : Tape) :
    ∃ H' τ', Gr H.size H H' ∧ ∀ q, s_book_Intact_Header c N v lv (hv x) H τ q = q (.bool true) H' τ' := by
  have a1 : eBox [hv x] H τ = some (.ptr H.size 0, H.new [.str x.1, .str x.2] 2 true, τ) := rfl
  have g1 := Gr.new hw [.str x.1, .str x.2] 2 true
  have b1 := Bx.new H [.str x.1, .str x.2] 2 true (Nat.le_refl _)
  generalize H.new [.str x.1, .str x.2] 2 true = H1 at a1 g1 b1
  have r1 := hr.gr g1 hw (Nat.le_refl _)
  have r2 := hr2.gr g1 hw (Nat.le_refl _)
  have hlen : (hs ++ List.replicate 80 x).length = hs.length + 80 := by simp
  have pl1 : pLen [v] = some (.int .i64 ((hs.length + 80 : Nat) : Int)) := by rw [← hlen]; exact r1.1.pLen
  have pl2 := r2.1.pLen
  have e4 : wr .i64 ((hs.length : Int) + Int.ofNat 80) = ((hs.length + 80 : Nat) : Int) := adI (by omega)
  have e5 : (((hs.length + 80 : Nat) : Int) != ((hs.length + 80 : Nat) : Int)) = false := by simp
  obtain ⟨v', c1, c2, c3⟩ := r1.upto hv' (i := hs.length) (by rw [hlen]; omega)
  have r3 : RdH H1 v' hs := by have := c3 H1 r1; rwa [List.take_left] at this
  have ks := fun τ q => k_book_Same_Header hSame (by omega) r3 r2 τ q
  refine ⟨H1, τ, g1, fun q => ?_⟩
  simp only [s_book_Intact_Header, a1, effK_n, pl1, pl2, someK_n, bin_add, e4, bin_neq, e5, gK_do', retK, c1, ks, un_not, Bool.not_true, pick_mk, cond_false, condK_fn]
  rw [l_book_Intact_Header c N x H.size v (hs ++ List.replicate 80 x) hs.length (by rw [hlen]; omega) H1 r1 b1.cells (List.replicate 80 x) hs τ N rfl (fun y hy => List.eq_of_mem_replicate hy) (by simp; omega) _ _ (by simp [T.get_set]) (by simp [T.get_set]) (by simp [T.get_set])]
  simp only [blockK, Nat.beq_refl, cond_true, seqK, s_book_Intact_Header_j0]
def IntactR (vs : List V) (H : Heap) (o : Out) : Prop := ∃ v lv hs x, vs = [v, lv, hv x] ∧ RdH H v (hs ++ List.replicate 80 x) ∧ RdH H lv hs ∧ hs.length ≤ 900000 ∧ o = .val (.bool true)
theorem IntactR_fun : Fun1 IntactR := by
  rintro vs H o o' ⟨_, _, _, _, _, _, _, _, rfl⟩ ⟨_, _, _, _, _, _, _, _, rfl⟩; rfl
noncomputable abbrev rw_Intact : List Row := [Row.fn f_book_Intact_Header fn_book_Intact_Header e_book_Intact_Header, Row.prim f_book_Same_Header (outP SameR)]
theorem p_book_Intact_Header : ∀ base w0, PrimOk PG base w0 f_book_Intact_Header (outP IntactR) := by
  obtain ⟨N, hN⟩ := someN
  refine primOk_out mixed_ok (l := rw_Intact) (.fn ok_book_Intact_Header e_book_Intact_Header_ok (.prim p_book_Same_Header (.nil _))) N 2 _ ?_
  rintro vs H o hw hvs ⟨v, lv, hs, x, rfl, h1, h2, h3, rfl⟩ τ
  obtain ⟨H', τ', g, k⟩ := s_book_Intact_Header_ret (CR rw_Intact N 1) hN (fun _ _ _ _ => rfl) v lv hs h3 x H hw h1 (VOk.roomy hvs.1) h2 τ
  exact ⟨_, H', τ', k retK, g, rfl, trivial⟩
theorem k_book_Intact_Header {c : CallK} (h : IsP c f_book_Intact_Header IntactR) {v lv : V} {hs : List Hd} (hl : hs.length ≤ 900000) (x : Hd) {H : Heap} (h1 : RdH H v (hs ++ List.replicate 80 x)) (h2 : RdH H lv hs) (τ : Tape) (q : KV) : c f_book_Intact_Header [v, lv, hv x] H τ q = q (.bool true) H τ :=
  outK_val h IntactR_fun ⟨v, lv, hs, x, rfl, h1, h2, hl, rfl⟩ τ q
end Go.Am.X


