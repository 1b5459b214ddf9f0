/- The abstract machine, printed functions of the program, and what they are shown to be. -/
import Derived.Test.YtpigmhokjbbffaaDoorHCL4
namespace Go.Am.X
set_option linter.unusedSimpArgs false
set_option linter.unusedVariables false
set_option linter.unusedSectionVars false
set_option maxRecDepth 100000
theorem repl_hd (n : Nat) : repl n [V.str [], V.str []] = hcells (List.replicate n (([], []) : Hd)) := by
  induction n with
  | zero => rfl
  | succ n ih =>
    rw [List.replicate_succ, hcells_cons, ← ih]
    unfold repl
    rw [List.replicate_succ, List.flatten_cons]; rfl
theorem hcells_take (hs : List Hd) (i : Nat) : (hcells hs).take (i * 2) = hcells (hs.take i) := by
  induction hs generalizing i with
  | nil => simp [hcells]
  | cons h l ih =>
    cases i with
    | zero => simp [hcells]
    | succ i => rw [List.take_succ_cons, hcells_cons, hcells_cons, ← ih, show (i + 1) * 2 = i * 2 + 1 + 1 by omega]; rfl
theorem RdH.upto {H : Heap} {v : V} {hs : List Hd} (h : RdH H v hs) (hr : Roomy v) {i : Nat} (hi : i ≤ hs.length) :
    ∃ v', pSlSlice 2 false true false [v, .int .i64 (i : Int)] = some v' ∧ Roomy v' ∧ ∀ H', RdH H' v hs → RdH H' v' (hs.take i) := by
  obtain ⟨v', h1, h2, h3, h4⟩ := h.1.upto hr hi
  refine ⟨v', h1, h2, fun H' h' => ⟨?_, h3 H' h'.2⟩⟩
  have := h4 H' _ h'.1
  rw [hcells_take] at this
  rw [List.length_take, Nat.min_eq_left hi]; exact this
theorem l_book_Roomy_Header (c : CallK) (N : Nat) (x : Hd) (b id M : Nat) (hM : M < 1000000000) (hb : b < id) :
    ∀ (m : Nat) (L : List Hd) (H : Heap) (τ : Tape) (n : Nat), L.length + m = M → m < n → WF H → Blk H id id (hcells (L ++ List.replicate m ([], []))) → Bx H b [.str x.1, .str x.2] →
    ∃ H' τ', Blk H' id id (hcells (L ++ List.replicate m x)) ∧ Gr id H H' ∧ ∀ (fr : T V) k, fr.get 3 = some (.ptr b 0) → fr.get 5 = some (.sl id 0 M M none 2) → fr.get 6 = some (.int .i64 (L.length : Int)) →
      loopK (s_book_Roomy_Header_l1 c N) n ⟨fr, H⟩ τ k = k (.exit 0) ⟨(T.set .leaf 5 (.sl id 0 M M none 2)), H'⟩ τ' := by
  intro m
  induction m with
  | zero =>
    intro L H τ n hL hn hw hB hbx
    obtain ⟨n, rfl⟩ : ∃ j, n = j + 1 := ⟨n - 1, by omega⟩
    have e1 : decide (L.length < M) = false := decide_eq_false (by omega)
    have pl : pLen [.sl id 0 M M none 2] = some (.int .i64 (M : Int)) := rfl
    refine ⟨H, τ, hB, Gr.refl hw, fun fr k f3 f5 f6 => ?_⟩
    rw [loopK_succ]
    simp only [s_book_Roomy_Header_l1, getK_mk f3, getK_mk f5, getK_mk f6, pl, getK_set, ↓reduceIte, Nat.reduceEqDiff, someK_n, effK_n, retK, gK_do, gK_do', gK_skip, gK_skip', gK_none, pick_mk, cond_true, cond_false, condK_tn, condK_fn, bin_eql, bin_neq, bin_lss, bin_leq, bin_gtr, bin_geq, un_not, Bool.not_true, Bool.not_false, bin_str, lenS_mk, nle_l, nle_r, nle_n, nlt_l, nlt_r, nlt_n, neq_r, neq_n, nne_r, nne_n, ext0, ext1, ext30, ext31, ext32, bin_add, bin_sub, decide_true, decide_false, e1]
    rfl
  | succ m ih =>
    intro L H τ n hL hn hw hB hbx
    obtain ⟨n, rfl⟩ : ∃ j, n = j + 1 := ⟨n - 1, by omega⟩
    have hlt : L.length < M := by omega
    have e1 : decide (L.length < M) = true := decide_eq_true hlt
    have pl : pLen [.sl id 0 M M none 2] = some (.int .i64 (M : Int)) := rfl
    have e2 : pSlIdx 2 [.sl id 0 M M none 2, .int .i64 (L.length : Int)] = some (.ptr id (L.length * 2)) := by
      have : Nat.blt L.length M = true := by simp [Nat.blt]; omega
      simp [pSlIdx, natOf_nat, this]
    have e3 : wr .i64 ((L.length : Int) + Int.ofNat 1) = ((L ++ [x]).length : Int) := by rw [adI (by omega)]; simp
    have l1 : lLoadN 2 [.ptr b 0] H = some (hv x) := load_cells hbx.cells (by simp)
    have hlen : (hcells (L ++ List.replicate (m + 1) ([], []))).length = M * 2 := by rw [hcells_length]; simp; omega
    obtain ⟨H1, k1, k2, k3, k4⟩ := hB.eStore hw (L.length * 2) (hv x) 2 rfl (by rw [hlen]; omega) rfl τ
    rw [List.replicate_succ, hcells_store] at k2
    have hbx1 := hbx.gr k3 hb
    obtain ⟨H', τ', i1, i2, i3⟩ := ih (L ++ [x]) H1 τ n (by simp; omega) (by omega) k3.wf (by simpa using k2) hbx1
    refine ⟨H', τ', by rw [List.replicate_succ]; simpa using i1, k3.trans i2 (Nat.le_refl _), fun fr k f3 f5 f6 => ?_⟩
    rw [loopK_succ]
    simp only [s_book_Roomy_Header_l1, getK_mk f3, getK_mk f5, getK_mk f6, pl, getK_set, ↓reduceIte, Nat.reduceEqDiff, someK_n, effK_n, retK, gK_do, gK_do', gK_skip, gK_skip', gK_none, pick_mk, cond_true, cond_false, condK_tn, condK_fn, bin_eql, bin_neq, bin_lss, bin_leq, bin_gtr, bin_geq, un_not, Bool.not_true, Bool.not_false, bin_str, lenS_mk, nle_l, nle_r, nle_n, nlt_l, nlt_r, nlt_n, neq_r, neq_n, nne_r, nne_n, ext0, ext1, ext30, ext31, ext32, bin_add, bin_sub, decide_true, decide_false, e1, l1, e2, k1, e3]
    exact i3 _ k (by simp [T.get_set]) (by simp [T.get_set]) (by simp [T.get_set])
theorem Blk.freshL {H : Heap} {id M : Nat} {cs : List V} (h : Blk H id id cs) {z : Nat} (hl : cs.length = M * z) (hM : M < 9223372036854775808) {B : Nat} (hB : B ≤ id) : FreshL B H z M cs (.sl id 0 M M none z) := by
  obtain ⟨room, fam, ver, pl, st, fr, h1, h2, h3, h4, h5, h6⟩ := h
  exact ⟨id, 0, M, none, cs, room, fam, ver, pl, st, fr, ver, rfl, h1, h2, h3, Nat.le_trans hB h5, by rw [List.drop_zero, ← hl, List.take_length], hl, .inr ⟨by omega, hM⟩⟩
theorem s_book_Roomy_Header_ret (c : CallK) {N : Nat} (hN : 9223372036854775807 < N) (lv : V) (hs : List Hd) (hl : hs.length ≤ 1000000) (x : Hd) (H : Heap) (hw : WF H) (hr : RdH H lv hs) (τ : Tape) :
    ∃ v' H' τ', FreshL H.size H' 2 (hs.length + 80) (hcells (hs ++ List.replicate 80 x)) v' ∧ Gr H.size H H' ∧ ∀ q, s_book_Roomy_Header c N lv (hv x) H τ q = q v' H' τ' := by
  have a1 : eBox [hv x] H τ = some (.ptr H.size 0, H.new [.str x.1, .str x.2] 2 true, τ) := rfl
  have g1 := Gr.new hw [.str x.1, .str x.2] 2 true
  have b1 := Bx.new H [.str x.1, .str x.2] 2 true (Nat.le_refl _)
  have z1 : (H.new [.str x.1, .str x.2] 2 true).size = H.size + 1 := rfl
  generalize H.new [.str x.1, .str x.2] 2 true = H1 at a1 g1 b1 z1
  have pl := hr.1.pLen
  have e4 : wr .i64 ((hs.length : Int) + Int.ofNat 80) = ((hs.length + 80 : Nat) : Int) := adI (by omega)
  have a2 : eMakeSlice 2 32 [(.str []), (.str [])] [.int .i64 ((hs.length + 80 : Nat) : Int), .int .i64 ((hs.length + 80 : Nat) : Int)] H1 τ = some (.sl H1.size 0 (hs.length + 80) (hs.length + 80) none 2, H1.new (repl (hs.length + 80) [.str [], .str []]) ((hs.length + 80) * 2) false, τ) := by
    have b1 : Nat.ble (hs.length + 80) (hs.length + 80) = true := Nat.ble_eq_true_of_le (Nat.le_refl _)
    have b2 : Nat.ble ((hs.length + 80) * 32) 140737488355328 = true := Nat.ble_eq_true_of_le (by omega)
    have b3 : Nat.ble (hs.length + 80) 140737488355328 = true := Nat.ble_eq_true_of_le (by omega)
    simp only [eMakeSlice, natOf_nat, b1, b2, b3, Bool.and_self, cond_true]
  have g2 := Gr.new g1.wf (repl (hs.length + 80) [V.str [], V.str []]) ((hs.length + 80) * 2) false
  have k2 := Blk.new H1 (repl (hs.length + 80) [V.str [], V.str []]) ((hs.length + 80) * 2) false (by rw [repl_hd, hcells_length]; simp)
  rw [repl_hd] at a2 g2 k2
  generalize H1.new (hcells (List.replicate (hs.length + 80) ([], []))) ((hs.length + 80) * 2) false = H2 at a2 g2 k2
  have hr2 : RdH H2 lv hs := (hr.gr g1 hw (Nat.le_refl _)).gr g2 g1.wf (Nat.le_refl _)
  obtain ⟨s1, s2⟩ := hr2.1.loads hr2.2
  have hlen2 : (hcells (List.replicate (hs.length + 80) (([], []) : Hd))).length = (hs.length + 80) * 2 := by rw [hcells_length]; simp
  obtain ⟨H3, m1, m2, m3, m4⟩ := k2.stores g2.wf 0 (hcells hs) (by rw [hlen2, hcells_length]; omega) (hcells_scal hs)
  have ec : (hcells (List.replicate (hs.length + 80) (([], []) : Hd))).take 0 ++ hcells hs ++ (hcells (List.replicate (hs.length + 80) (([], []) : Hd))).drop (0 + (hcells hs).length) = hcells (hs ++ List.replicate 80 ([], [])) := by
    rw [List.take_zero, List.nil_append, Nat.zero_add, ← List.replicate_append_replicate, hcells_append, hcells_append]
    congr 1
    rw [List.drop_append_of_le_length (by rw [hcells_length, hcells_length]; simp)]
    rw [List.drop_of_length_le (by rw [hcells_length, hcells_length]; simp), List.nil_append]
  rw [ec] at m2
  have a3 : eCopy 2 [.sl H1.size 0 (hs.length + 80) (hs.length + 80) none 2, lv] H2 τ = some (.int .i64 (hs.length : Int), H3, τ) := by
    have b1 : Nat.ble hs.length (hs.length + 80) = true := Nat.ble_eq_true_of_le (by omega)
    simp only [eCopy, s1, b1, cond_true, Nat.beq_refl, s2, m1]
    rfl
  have b3 : Bx H3 H.size [.str x.1, .str x.2] := (b1.gr g2 (by omega)).gr m3 (by omega)
  obtain ⟨H4, τ4, n1, n2, n3⟩ := l_book_Roomy_Header c N x H.size H1.size (hs.length + 80) (by omega) (by omega) 80 hs H3 τ N rfl (by omega) m3.wf m2 b3
  have hfl := Blk.freshL (z := 2) (M := hs.length + 80) n1 (by rw [hcells_length]; simp) (by omega) g1.size
  refine ⟨_, H4, τ4, hfl, (((g1.trans g2 g1.size).trans m3 g1.size).trans n2 g1.size), fun q => ?_⟩
  simp only [s_book_Roomy_Header, a1, pl, getK_set, ↓reduceIte, Nat.reduceEqDiff, someK_n, effK_n, retK, gK_do, gK_do', gK_skip, gK_skip', gK_none, pick_mk, cond_true, cond_false, condK_tn, condK_fn, bin_eql, bin_neq, bin_lss, bin_leq, bin_gtr, bin_geq, un_not, Bool.not_true, Bool.not_false, bin_str, lenS_mk, nle_l, nle_r, nle_n, nlt_l, nlt_r, nlt_n, neq_r, neq_n, nne_r, nne_n, ext0, ext1, ext30, ext31, ext32, bin_add, bin_sub, decide_true, decide_false, e4, a2, a3]
  rw [n3 _ _ (by simp [T.get_set]) (by simp [T.get_set]) (by simp [T.get_set])]
  simp only [blockK, Nat.beq_refl, cond_true, seqK, s_book_Roomy_Header_j0, getK_set, ↓reduceIte, Nat.reduceEqDiff, someK_n, effK_n, retK, gK_do, gK_do', gK_skip, gK_skip', gK_none, pick_mk, cond_true, cond_false, condK_tn, condK_fn, bin_eql, bin_neq, bin_lss, bin_leq, bin_gtr, bin_geq, un_not, Bool.not_true, Bool.not_false, bin_str, lenS_mk, nle_l, nle_r, nle_n, nlt_l, nlt_r, nlt_n, neq_r, neq_n, nne_r, nne_n, ext0, ext1, ext30, ext31, ext32, bin_add, bin_sub, decide_true, decide_false]
abbrev RoomyPre (hs : List Hd) : List V → Prop | [.agg [.str _, .str _]] => hs.length ≤ 1000000 | _ => False
abbrev RoomyG (_ : Bool) (hs : List Hd) : List V → Out | [.agg [.str a, .str b]] => .lst 2 (hs.length + 80) (hcells (hs ++ List.replicate 80 (a, b))) (fun v => v) | _ => .val (.tup [])
abbrev rw_Roomy : List Row := [Row.fn f_book_Roomy_Header fn_book_Roomy_Header e_book_Roomy_Header]
theorem p_book_Roomy_Header : ∀ base w0, PrimOk PG base w0 f_book_Roomy_Header (outP (RH RoomyPre RoomyG)) := by
  obtain ⟨N, hN⟩ := someN
  refine primRH (N := N) (l := rw_Roomy) (.fn ok_book_Roomy_Header e_book_Roomy_Header_ok (.nil _)) 1 _ (fun hs args hp lv H hw hr τ => ?_)
  unfold RoomyPre at hp; split at hp
  · rename_i a b
    obtain ⟨v', H', τ', h1, h2, h3⟩ := s_book_Roomy_Header_ret (CR rw_Roomy N 0) hN lv hs hp (a, b) H hw hr τ
    exact ⟨v', H', τ', h2, ⟨mkOk_id, hcells_vok _ _, v', rfl, h1⟩, h3⟩
  · exact hp.elim
theorem k_book_Roomy_Header {c : CallK} (h : IsP c f_book_Roomy_Header (RH RoomyPre RoomyG)) {hs : List Hd} (hl : hs.length ≤ 1000000) (x : Hd) {lv : V} {H : Heap} (hw : WF H) (hr : RdH H lv hs) (τ : Tape) :
    ∃ v' H' τ', RdH H' v' (hs ++ List.replicate 80 x) ∧ Roomy v' ∧ Gr H.size H H' ∧ ∀ q, c f_book_Roomy_Header [lv, hv x] H τ q = q v' H' τ' := by
  obtain ⟨v', H', τ', h1, _, h2, h3⟩ := RH_lst (v := lv) (l := [hv x]) h hr hl (z := 2) (n := hs.length + 80) (cs := hcells (hs ++ List.replicate 80 x)) (mk := fun v => v) rfl hw (by rw [hcells_length]; simp) τ
  have h1' : Own H' H.size 2 v' (hs ++ List.replicate 80 x).length (hcells (hs ++ List.replicate 80 x)) := by simpa using h1
  refine ⟨v', H', τ', Own.rdH h1', ?_, h2, h3⟩
  rcases h1 with ⟨rfl, _⟩ | ⟨id, e, room, fam, ver, pl, st, fr, rfl, _⟩
  · trivial
  · show within _ _ _ = true; rw [within_iff]; exact .inl (Nat.le_refl _)
theorem l_book_Intact_Header (c : CallK) (N : Nat) (x : Hd) (b : Nat) (v : V) (hs : List Hd) (n0 : Nat) (hl : hs.length ≤ 1000000) (H : Heap) (hr : RdH H v hs) (hb : H.cells? b = some [.str x.1, .str x.2]) :
    ∀ (l pre : List Hd) (τ : Tape) (m : Nat), hs = pre ++ l → (∀ y ∈ l, y = x) → l.length < m →
    ∀ (fr : T V) k, fr.get 0 = some v → fr.get 5 = some (.ptr b 0) → fr.get 7 = some (.int .i64 (pre.length : Int)) →
      loopK (s_book_Intact_Header_l1 c N) m ⟨fr, H⟩ τ k = k (.exit 0) ⟨.leaf, H⟩ τ := by
  intro l
  induction l with
  | nil =>
    intro pre τ m he hy hm fr k f0 f5 f7
    obtain ⟨m, rfl⟩ : ∃ j, m = j + 1 := ⟨m - 1, by omega⟩
    have e1 : decide (pre.length < hs.length) = false := decide_eq_false (by rw [he]; simp)
    rw [loopK_succ]
    simp only [s_book_Intact_Header_l1, getK_mk f0, getK_mk f5, getK_mk f7, hr.1.pLen, getK_set, ↓reduceIte, Nat.reduceEqDiff, someK_n, effK_n, retK, gK_do, gK_do', gK_skip, gK_skip', gK_none, pick_mk, cond_true, cond_false, condK_tn, condK_fn, bin_eql, bin_neq, bin_lss, bin_leq, bin_gtr, bin_geq, un_not, Bool.not_true, Bool.not_false, bin_str, lenS_mk, nle_l, nle_r, nle_n, nlt_l, nlt_r, nlt_n, neq_r, neq_n, nne_r, nne_n, ext0, ext1, ext30, ext31, ext32, bin_add, bin_sub, decide_true, decide_false, e1]
    rfl
  | cons y l ih =>
    intro pre τ m he hy hm fr k f0 f5 f7
    obtain ⟨m, rfl⟩ : ∃ j, m = j + 1 := ⟨m - 1, by omega⟩
    have hlt : pre.length < hs.length := by rw [he]; simp
    have e1 : decide (pre.length < hs.length) = true := decide_eq_true hlt
    have e3 : wr .i64 ((pre.length : Int) + Int.ofNat 1) = ((pre ++ [y]).length : Int) := by rw [adI (by omega)]; simp
    obtain ⟨id, o, p1, p2⟩ := hd_at (v := v) pre y l (H := H) (by rw [← he]; exact hr.1)
    have q1 := (p2 H (by rw [← he]; exact hr.1)).1
    have l1 : lLoadN 2 [.ptr b 0] H = some (hv x) := load_cells hb (by simp)
    have ey := hy y (by simp)
    rw [ey] at q1
    rw [loopK_succ]
    simp only [s_book_Intact_Header_l1, getK_mk f0, getK_mk f5, getK_mk f7, hr.1.pLen, getK_set, ↓reduceIte, Nat.reduceEqDiff, someK_n, effK_n, retK, gK_do, gK_do', gK_skip, gK_skip', gK_none, pick_mk, cond_true, cond_false, condK_tn, condK_fn, bin_eql, bin_neq, bin_lss, bin_leq, bin_gtr, bin_geq, un_not, Bool.not_true, Bool.not_false, bin_str, lenS_mk, nle_l, nle_r, nle_n, nlt_l, nlt_r, nlt_n, neq_r, neq_n, nne_r, nne_n, ext0, ext1, ext30, ext31, ext32, bin_add, bin_sub, decide_true, decide_false, e1, p1, q1, l1, eq_hd, e3]
    exact ih (pre ++ [y]) τ m (by rw [he]; simp) (fun z hz => hy z (by simp [hz])) (by simp at hm; omega) _ k (by simp [T.get_set]) (by simp [T.get_set]) (by simp [T.get_set])
theorem s_book_Intact_Header_ret (c : CallK) {N : Nat} (hN : 9223372036854775807 < N) (hSame : IsP c f_book_Same_Header SameR) (v lv : V) (hs : List Hd) (hl : hs.length ≤ 900000) (x : Hd) (H : Heap) (hw : WF H) (hr : RdH H v (hs ++ List.replicate 80 x)) (hv' : Roomy v) (hr2 : RdH H lv hs) (τ : Tape) :
    ∃ H' τ', Gr H.size H H' ∧ ∀ q, s_book_Intact_Header c N v lv (hv x) H τ q = q (.bool true) H' τ' := by
  have a1 : eBox [hv x] H τ = some (.ptr H.size 0, H.new [.str x.1, .str x.2] 2 true, τ) := rfl
  have g1 := Gr.new hw [.str x.1, .str x.2] 2 true
  have b1 := Bx.new H [.str x.1, .str x.2] 2 true (Nat.le_refl _)
  generalize H.new [.str x.1, .str x.2] 2 true = H1 at a1 g1 b1
  have r1 := hr.gr g1 hw (Nat.le_refl _)
  have r2 := hr2.gr g1 hw (Nat.le_refl _)
  have hlen : (hs ++ List.replicate 80 x).length = hs.length + 80 := by simp
  have pl1 : pLen [v] = some (.int .i64 ((hs.length + 80 : Nat) : Int)) := by rw [← hlen]; exact r1.1.pLen
  have pl2 := r2.1.pLen
  have e4 : wr .i64 ((hs.length : Int) + Int.ofNat 80) = ((hs.length + 80 : Nat) : Int) := adI (by omega)
  have e5 : (((hs.length + 80 : Nat) : Int) != ((hs.length + 80 : Nat) : Int)) = false := by simp
  obtain ⟨v', c1, c2, c3⟩ := r1.upto hv' (i := hs.length) (by rw [hlen]; omega)
  have r3 : RdH H1 v' hs := by have := c3 H1 r1; rwa [List.take_left] at this
  have ks := fun τ q => k_book_Same_Header hSame (by omega) r3 r2 τ q
  refine ⟨H1, τ, g1, fun q => ?_⟩
  simp only [s_book_Intact_Header, a1, effK_n, pl1, pl2, someK_n, bin_add, e4, bin_neq, e5, gK_do', retK, c1, ks, un_not, Bool.not_true, pick_mk, cond_false, condK_fn]
  rw [l_book_Intact_Header c N x H.size v (hs ++ List.replicate 80 x) hs.length (by rw [hlen]; omega) H1 r1 b1.cells (List.replicate 80 x) hs τ N rfl (fun y hy => List.eq_of_mem_replicate hy) (by simp; omega) _ _ (by simp [T.get_set]) (by simp [T.get_set]) (by simp [T.get_set])]
  simp only [blockK, Nat.beq_refl, cond_true, seqK, s_book_Intact_Header_j0]
def IntactR (vs : List V) (H : Heap) (o : Out) : Prop := ∃ v lv hs x, vs = [v, lv, hv x] ∧ RdH H v (hs ++ List.replicate 80 x) ∧ RdH H lv hs ∧ hs.length ≤ 900000 ∧ o = .val (.bool true)
theorem IntactR_fun : Fun1 IntactR := by
  rintro vs H o o' ⟨_, _, _, _, _, _, _, _, rfl⟩ ⟨_, _, _, _, _, _, _, _, rfl⟩; rfl
noncomputable abbrev rw_Intact : List Row := [Row.fn f_book_Intact_Header fn_book_Intact_Header e_book_Intact_Header, Row.prim f_book_Same_Header (outP SameR)]
theorem p_book_Intact_Header : ∀ base w0, PrimOk PG base w0 f_book_Intact_Header (outP IntactR) := by
  obtain ⟨N, hN⟩ := someN
  refine primOk_out mixed_ok (l := rw_Intact) (.fn ok_book_Intact_Header e_book_Intact_Header_ok (.prim p_book_Same_Header (.nil _))) N 2 _ ?_
  rintro vs H o hw hvs ⟨v, lv, hs, x, rfl, h1, h2, h3, rfl⟩ τ
  obtain ⟨H', τ', g, k⟩ := s_book_Intact_Header_ret (CR rw_Intact N 1) hN (fun _ _ _ _ => rfl) v lv hs h3 x H hw h1 (VOk.roomy hvs.1) h2 τ
  exact ⟨_, H', τ', k retK, g, rfl, trivial⟩
theorem k_book_Intact_Header {c : CallK} (h : IsP c f_book_Intact_Header IntactR) {v lv : V} {hs : List Hd} (hl : hs.length ≤ 900000) (x : Hd) {H : Heap} (h1 : RdH H v (hs ++ List.replicate 80 x)) (h2 : RdH H lv hs) (τ : Tape) (q : KV) : c f_book_Intact_Header [v, lv, hv x] H τ q = q (.bool true) H τ :=
  outK_val h IntactR_fun ⟨v, lv, hs, x, rfl, h1, h2, hl, rfl⟩ τ q
theorem readA {r : V} {H : Heap} {B : Nat} {e : Int} {l : List Hd} (h1 : e = 0 → LsH H B r l) (h2 : e ≠ 0 → r = .nils) : RdH H r (if e = 0 then l else []) := by
  by_cases h : e = 0
  · rw [if_pos h]; exact (h1 h).rdH
  · rw [if_neg h, h2 h]; exact RdH.mkNil H
theorem s_law5_HeadersChange_j (c : CallK) (N : Nat) (hAdd : IsP c f_headers_Add (RH AddPre AddG)) (hRAdd : IsP c f_ref5_Add (RH AddPre' AddG)) (hSet : IsP c f_headers_Set (RH SetPre SetG)) (hRSet : IsP c f_ref5_Set (RH SetPre' SetG)) (hDrop : IsP c f_headers_Drop (RH DropPre DropG)) (hRDrop : IsP c f_ref5_Drop (RH DropPre RDropG))
    (hSame : IsP c f_book_Same_Header SameR) (hRoomy : IsP c f_book_Roomy_Header (RH RoomyPre RoomyG)) (hIntact : IsP c f_book_Intact_Header IntactR) (hH : IsP c f_law5_h (RV HPre HG)) (hKn : ∀ H τ q, c f_law5_known [] H τ q = q (.bool true) H τ)
    (hs : List Hd) (hl : hs.length ≤ 70) (hsz : ∀ h ∈ hs, h.1.length ≤ 140737488355328) (n v : Bs) (hn : n.length ≤ 140737488355328) (hv' : v.length ≤ 140737488355328) (lv : V) (H : Heap) (hw : WF H) (hr : RdH H lv hs) (τ : Tape) :
    ∃ H' τ', Gr H.size H H' ∧ ∀ (fr : T V) q, fr.get 0 = some lv → fr.get 1 = some (.str n) → fr.get 2 = some (.str v) → s_law5_HeadersChange_j0 c N q ⟨fr, H⟩ τ = q (.bool true) H' τ' := by
  have kh := fun H τ q => k_law5_h hH [45] [45] H τ q
  have kh' : ∀ H τ q, c f_law5_h [.str (bs [45]), .str (bs [45])] H τ q = q (hv ([45], [45])) H τ := kh
  obtain ⟨v5, H1, τ1, r5, ro5, g1, k1⟩ := k_book_Roomy_Header hRoomy (by omega) ([45], [45]) hw hr τ
  have pl := hr.1.pLen
  obtain ⟨v9, c1, c2, c3⟩ := r5.upto ro5 (i := hs.length) (by simp)
  have q9 : ∀ H', RdH H' v5 (hs ++ List.replicate 80 ([45], [45])) → RdH H' v9 hs := fun H' h' => by have := c3 H' h'; rwa [List.take_left] at this
  have d1 := hr.gr g1 hw (Nat.le_refl _)
  obtain ⟨r1, H2, τ2, g2, s1, s2, k2⟩ := k_headers_Add (n := n) (v := v) hAdd (by omega) (by omega) (by omega) g1.wf (q9 H1 r5) τ1
  have a2 := readA s1 s2
  have r52 := r5.gr g2 g1.wf (Nat.le_refl _)
  have d2 := d1.gr g2 g1.wf (Nat.le_refl _)
  obtain ⟨r2, H3, τ3, g3, s3, s4, k3⟩ := k_ref5_Add (n := n) (v := v) hRAdd (by omega) (by omega) (by omega) g2.wf d2 τ2
  have a3 := readA s3 s4
  have a23 := a2.gr g3 g2.wf (Nat.le_refl _)
  have r53 := r52.gr g3 g2.wf (Nat.le_refl _)
  have d3 := d2.gr g3 g2.wf (Nat.le_refl _)
  obtain ⟨r3, H4, τ4, g4, s5, s6, k4⟩ := k_Set (n := n) (v := v) hSet ⟨by omega, hsz, hn, by omega⟩ g3.wf (q9 H3 r53) τ3
  have a4 := readA s5 s6
  have a24 := a23.gr g4 g3.wf (Nat.le_refl _)
  have a34 := a3.gr g4 g3.wf (Nat.le_refl _)
  have r54 := r53.gr g4 g3.wf (Nat.le_refl _)
  have d4 := d3.gr g4 g3.wf (Nat.le_refl _)
  obtain ⟨r4, H5, τ5, g5, s7, s8, k5⟩ := k_Set (n := n) (v := v) hRSet ⟨by omega, hsz, hn, by omega⟩ g4.wf d4 τ4
  have a5 := readA s7 s8
  have a25 := a24.gr g5 g4.wf (Nat.le_refl _)
  have a35 := a34.gr g5 g4.wf (Nat.le_refl _)
  have a45 := a4.gr g5 g4.wf (Nat.le_refl _)
  have r55 := r54.gr g5 g4.wf (Nat.le_refl _)
  have d5 := d4.gr g5 g4.wf (Nat.le_refl _)
  have lA : (if addE n v hs.length = 0 then hs ++ [(n, valT v)] else []).length ≤ 1000000 := by split <;> simp; omega
  have lS : (if setE n v hs = 0 then setT n v hs else []).length ≤ 1000000 := by
    split
    · unfold setT
      split
      · simp; omega
      · exact Nat.le_trans (setF_len _ _ _ _ _) (by omega)
    · simp
  have w1 := fun τ q => k_book_Same_Header hSame lA a25 a35 τ q
  have w2 := fun τ q => k_book_Same_Header hSame lS a45 a5 τ q
  obtain ⟨r6, H6, τ6, e6, g6, k6⟩ := k_headers_Drop (n := n) hDrop ⟨by omega, hsz, hn⟩ g5.wf (q9 H5 r55) τ5
  have d6 := d5.gr g6 g5.wf (Nat.le_refl _)
  have r56 := r55.gr g6 g5.wf (Nat.le_refl _)
  obtain ⟨r7, H7, τ7, e7, g7, k7⟩ := k_ref5_Drop (n := n) hRDrop ⟨by omega, hsz, hn⟩ g6.wf d6 τ6
  have d7 := d6.gr g7 g6.wf (Nat.le_refl _)
  have r57 := r56.gr g7 g6.wf (Nat.le_refl _)
  have e67 := e6.gr g7 g6.wf (Nat.le_refl _)
  have w3 := fun τ q => k_book_Same_Header hSame (by have := List.length_filter_le (fun h => !named n h) hs; unfold dropT; omega) e67 e7 τ q
  have w4 := fun τ q => k_book_Intact_Header hIntact (by omega) ([45], [45]) r57 d7 τ q
  have ee : ∀ e : Int, (e == e) = true := fun e => by simp
  refine ⟨H7, τ7, ((((((g1.trans g2 g1.size).trans g3 (by have := g1.size; have := g2.size; omega)).trans g4 (by have := g1.size; have := g2.size; have := g3.size; omega)).trans g5 (by have := g1.size; have := g2.size; have := g3.size; have := g4.size; omega)).trans g6 (by have := g1.size; have := g2.size; have := g3.size; have := g4.size; have := g5.size; omega)).trans g7 (by have := g1.size; have := g2.size; have := g3.size; have := g4.size; have := g5.size; have := g6.size; omega)), fun fr q f0 f1 f2 => ?_⟩
  simp only [s_law5_HeadersChange_j0, getK_mk f0, getK_mk f1, getK_mk f2, kh', k1, pl, someK_n, c1, k2, ext0, ext1, k3, k4, k5, w1, gK_do, retK, effK_n, bin_eql, ee, pick_mk, cond_true, w2, k6, k7, w3, w4, hKn]
theorem s_law5_HeadersChange_ret (c : CallK) (N : Nat) (hAdd : IsP c f_headers_Add (RH AddPre AddG)) (hRAdd : IsP c f_ref5_Add (RH AddPre' AddG)) (hSet : IsP c f_headers_Set (RH SetPre SetG)) (hRSet : IsP c f_ref5_Set (RH SetPre' SetG)) (hDrop : IsP c f_headers_Drop (RH DropPre DropG)) (hRDrop : IsP c f_ref5_Drop (RH DropPre RDropG))
    (hSame : IsP c f_book_Same_Header SameR) (hRoomy : IsP c f_book_Roomy_Header (RH RoomyPre RoomyG)) (hIntact : IsP c f_book_Intact_Header IntactR) (hH : IsP c f_law5_h (RV HPre HG)) (hKn : ∀ H τ q, c f_law5_known [] H τ q = q (.bool true) H τ)
    (hs : List Hd) (hsz : ∀ h ∈ hs, h.1.length ≤ 140737488355328) (n v : Bs) (hn : n.length ≤ 140737488355328) (hv' : v.length ≤ 140737488355328) (lv : V) (hro : Roomy lv) (H : Heap) (hw : WF H) (hr : RdH H lv hs) (τ : Tape) :
    ∃ H' τ', Gr H.size H H' ∧ ∀ q, s_law5_HeadersChange c N lv (.str n) (.str v) H τ q = q (.bool true) H' τ' := by
  have pl := hr.1.pLen
  by_cases h70 : 70 < hs.length
  · have e1 : decide (70 < hs.length) = true := decide_eq_true h70
    obtain ⟨v', c1, c2, c3⟩ := hr.upto hro (i := 70) (by omega)
    have c1' : pSlSlice 2 false true false [lv, .int .i64 (Int.ofNat 70)] = some v' := c1
    obtain ⟨H', τ', g, k⟩ := s_law5_HeadersChange_j c N hAdd hRAdd hSet hRSet hDrop hRDrop hSame hRoomy hIntact hH hKn (hs.take 70) (by rw [List.length_take]; omega) (fun h hh => hsz h (List.mem_of_mem_take hh)) n v hn hv' v' H hw (c3 H hr) τ
    refine ⟨H', τ', g, fun q => ?_⟩
    simp only [s_law5_HeadersChange, pl, getK_set, ↓reduceIte, Nat.reduceEqDiff, someK_n, effK_n, retK, gK_do, gK_do', gK_skip, gK_skip', gK_none, pick_mk, cond_true, cond_false, condK_tn, condK_fn, bin_eql, bin_neq, bin_lss, bin_leq, bin_gtr, bin_geq, un_not, Bool.not_true, Bool.not_false, bin_str, lenS_mk, nle_l, nle_r, nle_n, nlt_l, nlt_r, nlt_n, neq_r, neq_n, nne_r, nne_n, ext0, ext1, ext30, ext31, ext32, bin_add, bin_sub, decide_true, decide_false, e1, c1']
    exact k _ q (by simp [T.get_set]) (by simp [T.get_set]) (by simp [T.get_set])
  · have e1 : decide (70 < hs.length) = false := decide_eq_false h70
    obtain ⟨H', τ', g, k⟩ := s_law5_HeadersChange_j c N hAdd hRAdd hSet hRSet hDrop hRDrop hSame hRoomy hIntact hH hKn hs (by omega) hsz n v hn hv' lv H hw hr τ
    refine ⟨H', τ', g, fun q => ?_⟩
    simp only [s_law5_HeadersChange, pl, getK_set, ↓reduceIte, Nat.reduceEqDiff, someK_n, effK_n, retK, gK_do, gK_do', gK_skip, gK_skip', gK_none, pick_mk, cond_true, cond_false, condK_tn, condK_fn, bin_eql, bin_neq, bin_lss, bin_leq, bin_gtr, bin_geq, un_not, Bool.not_true, Bool.not_false, bin_str, lenS_mk, nle_l, nle_r, nle_n, nlt_l, nlt_r, nlt_n, neq_r, neq_n, nne_r, nne_n, ext0, ext1, ext30, ext31, ext32, bin_add, bin_sub, decide_true, decide_false, e1]
    exact k _ q (by simp [T.get_set]) (by simp [T.get_set]) (by simp [T.get_set])
def HeadersChangeR (vs : List V) (H : Heap) (o : Out) : Prop := (∃ lv hs n v, vs = [lv, .str n, .str v] ∧ RdH H lv hs ∧ (∀ h ∈ hs, h.1.length ≤ 140737488355328) ∧ n.length ≤ 140737488355328 ∧ v.length ≤ 140737488355328) ∧ o = .val (.bool true)
noncomputable abbrev rw_HeadersChange : List Row := [Row.fn f_law5_HeadersChange fn_law5_HeadersChange e_law5_HeadersChange, Row.prim f_headers_Add (outP (RH AddPre AddG)), Row.prim f_ref5_Add (outP (RH AddPre' AddG)), Row.prim f_headers_Set (outP (RH SetPre SetG)), Row.prim f_ref5_Set (outP (RH SetPre' SetG)), Row.prim f_headers_Drop (outP (RH DropPre DropG)), Row.prim f_ref5_Drop (outP (RH DropPre RDropG)), Row.prim f_book_Same_Header (outP SameR), Row.prim f_book_Roomy_Header (outP (RH RoomyPre RoomyG)), Row.prim f_book_Intact_Header (outP IntactR), Row.prim f_law5_h (outP (RV HPre HG)), Row.prim f_law5_known closedP]
theorem headersChange_ok : ∀ base w0, PrimOk PG base w0 f_law5_HeadersChange (outP HeadersChangeR) := by
  obtain ⟨N, hN⟩ := someN
  refine primOk_out mixed_ok (l := rw_HeadersChange) (.fn ok_law5_HeadersChange e_law5_HeadersChange_ok (.prim p_headers_Add (.prim p_ref5_Add (.prim p_headers_Set (.prim p_ref5_Set (.prim p_headers_Drop (.prim p_ref5_Drop (.prim p_book_Same_Header (.prim p_book_Roomy_Header (.prim p_book_Intact_Header (.prim p_law5_h (.prim closed_law5_known_ok (.nil _)))))))))))) ) N 2 _ ?_
  rintro vs H o hw hvs ⟨⟨lv, hs, n, v, rfl, hr, h1, h2, h3⟩, rfl⟩ τ
  obtain ⟨H', τ', g, k⟩ := s_law5_HeadersChange_ret (CR rw_HeadersChange N 1) N (fun _ _ _ _ => rfl) (fun _ _ _ _ => rfl) (fun _ _ _ _ => rfl) (fun _ _ _ _ => rfl) (fun _ _ _ _ => rfl) (fun _ _ _ _ => rfl) (fun _ _ _ _ => rfl) (fun _ _ _ _ => rfl) (fun _ _ _ _ => rfl) (fun _ _ _ _ => rfl) (closedP_call fun _ _ _ _ => rfl) hs h1 n v h2 h3 lv (VOk.roomy hvs.1) H hw hr τ
  exact ⟨_, H', τ', k retK, g, rfl, trivial⟩
theorem headersChange_fun : Fun1 HeadersChangeR := fun vs H o o' k k' => k.2.trans k'.2.symm
theorem headersChange_in {lv : V} {H : Heap} {hs : List Hd} (hr : RdH H lv hs) {n v : Bs} (h1 : ∀ h ∈ hs, h.1.length ≤ 140737488351232 ∧ h.2.length ≤ 140737488351232) (h2 : n.length ≤ 140737488355328) (h3 : v.length ≤ 140737488355328) (τ : Tape) : outP HeadersChangeR [lv, .str n, .str v] H τ = some (.bool true, H, τ) :=
  outP_mk headersChange_fun ⟨⟨lv, hs, n, v, rfl, hr, fun h hh => by have := h1 h hh; omega, h2, h3⟩, rfl⟩ τ
end Go.Am.X


