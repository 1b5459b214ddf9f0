/- The abstract machine, printed functions of the program, and what they are shown to be. -/
import Derived.Test.YtpigmhokjbbffaaDoorHCL3
namespace Go.Am.X
set_option linter.unusedSimpArgs false
set_option linter.unusedVariables false
set_option linter.unusedSectionVars false
set_option maxRecDepth 100000
/-- a list of a run's own, nil where it has nothing -/
def LsH (H : Heap) (B : Nat) (v : V) (hs : List Hd) : Prop := Own H B 2 v hs.length (hcells hs) ∧ (hs = [] → v = .nils)
theorem LsH.nil (H : Heap) (B : Nat) : LsH H B .nils [] := ⟨Own.nil _ _ _, fun _ => rfl⟩
theorem LsH.gr {H H' : Heap} {B C : Nat} {v : V} {hs : List Hd} (h : LsH H B v hs) (hg : Gr C H H') (hw : WF H) (hC : H.size ≤ C) : LsH H' B v hs := ⟨h.1.gr hg hw hC, h.2⟩
theorem LsH.rdH {H : Heap} {B : Nat} {v : V} {hs : List Hd} (h : LsH H B v hs) : RdH H v hs := ⟨h.1.rd, h.1.src⟩
theorem LsH.weaken {H : Heap} {B C : Nat} {v : V} {hs : List Hd} (h : LsH H C v hs) (hBC : B ≤ C) : LsH H B v hs := by
  refine ⟨?_, h.2⟩
  rcases h.1 with h | ⟨id, e, room, fam, ver, pl, st, fr, h1, h2, h3, h4, h5, h6, h7⟩
  · exact .inl h
  · exact .inr ⟨id, e, room, fam, ver, pl, st, fr, h1, h2, h3, h4, Nat.le_trans hBC h5, Nat.le_trans hBC h6, h7⟩
theorem LsH.put {H : Heap} {B : Nat} {v : V} {hs : List Hd} (h : LsH H B v hs) (hw : WF H) (hB : B ≤ H.size) (x : Hd) (hn : hs.length ≤ 1000000) (τ : Tape) :
    ∃ w H1 v' H' τ', eBuildSlice 1 2 [(.str []), (.str [])] [(0, 2)] [hv x] H τ = some (w, H1, τ) ∧ eAppend 2 32 [v, w] H1 τ = some (v', H', τ') ∧ LsH H' B v' (hs ++ [x]) ∧ Gr B H H' ∧ (∀ id cs, H.cells? id = some cs → H'.cells? id = some cs) ∧ (∀ id cs, H.cells? id = some cs → H1.cells? id = some cs) := by
  obtain ⟨w, H1, v', H', τ', r1, r2, r3, r4, r5, r6⟩ := put2 h.1.apd hw hB x hn τ
  have e : H1 = H.new [.str x.1, .str x.2] (1 * 2) false := by
    have : eBuildSlice 1 2 [(.str []), (.str [])] [(0, 2)] [.agg [.str x.1, .str x.2]] H τ = some (.sl H.size 0 1 1 none 2, H.new [.str x.1, .str x.2] (1 * 2) false, τ) := rfl
    rw [this] at r1
    simp only [Option.some.injEq, Prod.mk.injEq] at r1
    exact r1.2.1.symm
  refine ⟨w, H1, v', H', τ', r1, r2, ⟨?_, fun h => by simp at h⟩, r4, r5, fun id cs hc => ?_⟩
  · have := r3.own (by omega)
    simpa using this
  · rw [e]; exact (Gr.new hw _ _ _).cells hw (Nat.le_refl _) hc
theorem LsH.met {H H' : Heap} {v : V} {hs : List Hd} {mk : V → V} (h : LsH H' H.size v hs) (hmk : MkOk mk) (hnil : VOk H (mk .nils)) : (lstO 2 hs.length (hcells hs) mk).Met H (mk v) H' := by
  refine Got.met (h.1.apd.got) (fun h0 => h.2 (List.eq_nil_of_length_eq_zero h0)) hmk (hcells_vok _ _) hnil
theorem l_ref5_Drop (c : CallK) (N : Nat) (hNm : RNamedOk c) (name : Bs) (hm : name.length ≤ 140737488355328) (hs : List Hd) (hl : hs.length ≤ 1000000) (hsz : ∀ h ∈ hs, h.1.length ≤ 140737488355328) (lv : V) (B : Nat) :
    ∀ (l pre : List Hd) (ov : V) (H : Heap) (τ : Tape) (m : Nat), hs = pre ++ l → l.length < m → WF H → B ≤ H.size → (∀ H', Gr B H H' → RdH H' lv hs) → LsH H B ov (dropT name pre) →
    ∃ ov' H' τ', LsH H' B ov' (dropT name hs) ∧ Gr B H H' ∧ ∀ (fr : T V) k, fr.get 0 = some lv → fr.get 1 = some (.str name) → fr.get 5 = some ov → fr.get 6 = some (.int .i64 (pre.length : Int)) →
      loopK (s_ref5_Drop_l1 c N) m ⟨fr, H⟩ τ k = k (.exit 0) ⟨(T.set .leaf 5 ov'), H'⟩ τ' := by
  intro l
  induction l with
  | nil =>
    intro pre ov H τ m he hmm hw hB hrd ho
    obtain ⟨m, rfl⟩ : ∃ j, m = j + 1 := ⟨m - 1, by omega⟩
    have e1 : decide (pre.length < hs.length) = false := decide_eq_false (by rw [he]; simp)
    refine ⟨ov, H, τ, by rw [he, List.append_nil]; exact ho, Gr.refl hw, fun fr k f0 f1 f5 f6 => ?_⟩
    have pl := (hrd H (Gr.refl hw)).1.pLen
    rw [loopK_succ]
    simp only [s_ref5_Drop_l1, getK_mk f0, getK_mk f1, getK_mk f5, getK_mk f6, pl, getK_set, ↓reduceIte, Nat.reduceEqDiff, someK_n, effK_n, retK, gK_do, gK_do', gK_skip, gK_skip', gK_none, pick_mk, cond_true, cond_false, condK_tn, condK_fn, bin_eql, bin_neq, bin_lss, bin_leq, bin_gtr, bin_geq, un_not, Bool.not_true, Bool.not_false, bin_str, lenS_mk, nle_l, nle_r, nle_n, nlt_l, nlt_r, nlt_n, neq_r, neq_n, nne_r, nne_n, ext0, ext1, ext30, ext31, ext32, bin_add, bin_sub, decide_true, decide_false, e1]
    rfl
  | cons x l ih =>
    intro pre ov H τ m he hmm hw hB hrd ho
    obtain ⟨m, rfl⟩ : ∃ j, m = j + 1 := ⟨m - 1, by omega⟩
    have hlt : pre.length < hs.length := by rw [he]; simp
    have e1 : decide (pre.length < hs.length) = true := decide_eq_true hlt
    have e3 : wr .i64 ((pre.length : Int) + Int.ofNat 1) = ((pre ++ [x]).length : Int) := by rw [adI (by omega)]; simp
    have hr := (hrd H (Gr.refl hw)).1
    have pl := hr.pLen
    obtain ⟨id, o, p1, p2⟩ := hd_at (v := lv) pre x l (H := H) (by rw [← he]; exact hr)
    have q1 := (p2 H (by rw [← he]; exact hr)).1
    have kn := fun H τ q => hNm x name (hsz x (by rw [he]; simp)) hm H τ q
    cases hx : named name x with
    | true =>
      have ed : dropT name (pre ++ [x]) = dropT name pre := by unfold dropT; rw [List.filter_append]; simp [hx]
      obtain ⟨ov', H', τ', i1, i2, i3⟩ := ih (pre ++ [x]) ov H τ m (by rw [he]; simp) (by simp at hmm; omega) hw hB hrd (by rw [ed]; exact ho)
      refine ⟨ov', H', τ', i1, i2, fun fr k f0 f1 f5 f6 => ?_⟩
      rw [loopK_succ]
      simp only [s_ref5_Drop_l1, getK_mk f0, getK_mk f1, getK_mk f5, getK_mk f6, pl, getK_set, ↓reduceIte, Nat.reduceEqDiff, someK_n, effK_n, retK, gK_do, gK_do', gK_skip, gK_skip', gK_none, pick_mk, cond_true, cond_false, condK_tn, condK_fn, bin_eql, bin_neq, bin_lss, bin_leq, bin_gtr, bin_geq, un_not, Bool.not_true, Bool.not_false, bin_str, lenS_mk, nle_l, nle_r, nle_n, nlt_l, nlt_r, nlt_n, neq_r, neq_n, nne_r, nne_n, ext0, ext1, ext30, ext31, ext32, bin_add, bin_sub, decide_true, decide_false, e1, p1, q1, kn, hx, s_ref5_Drop_j2, e3]
      exact i3 _ k (by simp [T.get_set]) (by simp [T.get_set]) (by simp [T.get_set]) (by simp [T.get_set])
    | false =>
      have ed : dropT name (pre ++ [x]) = dropT name pre ++ [x] := by unfold dropT; rw [List.filter_append]; simp [hx]
      have hol : (dropT name pre).length ≤ 1000000 := Nat.le_trans (List.length_filter_le _ _) (by omega)
      obtain ⟨w, H1, v', H2, τ2, r1, r2, r3, r4, _, _⟩ := ho.put hw hB x hol τ
      obtain ⟨ov', H', τ', i1, i2, i3⟩ := ih (pre ++ [x]) v' H2 τ2 m (by rw [he]; simp) (by simp at hmm; omega) r4.wf (Nat.le_trans hB r4.size) (fun H' hg => hrd H' (r4.trans hg (Nat.le_refl _))) (by rw [ed]; exact r3)
      refine ⟨ov', H', τ', i1, r4.trans i2 (Nat.le_refl _), fun fr k f0 f1 f5 f6 => ?_⟩
      rw [loopK_succ]
      simp only [s_ref5_Drop_l1, getK_mk f0, getK_mk f1, getK_mk f5, getK_mk f6, pl, getK_set, ↓reduceIte, Nat.reduceEqDiff, someK_n, effK_n, retK, gK_do, gK_do', gK_skip, gK_skip', gK_none, pick_mk, cond_true, cond_false, condK_tn, condK_fn, bin_eql, bin_neq, bin_lss, bin_leq, bin_gtr, bin_geq, un_not, Bool.not_true, Bool.not_false, bin_str, lenS_mk, nle_l, nle_r, nle_n, nlt_l, nlt_r, nlt_n, neq_r, neq_n, nne_r, nne_n, ext0, ext1, ext30, ext31, ext32, bin_add, bin_sub, decide_true, decide_false, e1, p1, q1, kn, hx, r1, r2, s_ref5_Drop_j2, e3]
      exact i3 _ k (by simp [T.get_set]) (by simp [T.get_set]) (by simp [T.get_set]) (by simp [T.get_set])
theorem s_ref5_Drop_ret (c : CallK) {N : Nat} (hN : 9223372036854775807 < N) (hNm : RNamedOk c) (name : Bs) (hm : name.length ≤ 140737488355328) (hs : List Hd) (hl : hs.length ≤ 1000000) (hsz : ∀ h ∈ hs, h.1.length ≤ 140737488355328) (lv : V) (H : Heap) (hw : WF H) (hr : RdH H lv hs) (τ : Tape) :
    ∃ v' H' τ', LsH H' H.size v' (dropT name hs) ∧ Gr H.size H H' ∧ ∀ q, s_ref5_Drop c N lv (.str name) H τ q = q v' H' τ' := by
  obtain ⟨v', H', τ', i1, i2, i3⟩ := l_ref5_Drop c N hNm name hm hs hl hsz lv H.size hs [] .nils H τ N rfl (by omega) hw (Nat.le_refl _) (fun H' hg => hr.gr hg hw (Nat.le_refl _)) (LsH.nil _ _)
  refine ⟨v', H', τ', i1, i2, fun q => ?_⟩
  simp only [s_ref5_Drop]
  rw [i3 _ _ (by simp [T.get_set]) (by simp [T.get_set]) (by simp [T.get_set]) (by simp [T.get_set])]
  simp only [blockK, Nat.beq_refl, cond_true, seqK, s_ref5_Drop_j0, getK_set, ↓reduceIte, Nat.reduceEqDiff, someK_n, effK_n, retK, gK_do, gK_do', gK_skip, gK_skip', gK_none, pick_mk, cond_true, cond_false, condK_tn, condK_fn, bin_eql, bin_neq, bin_lss, bin_leq, bin_gtr, bin_geq, un_not, Bool.not_true, Bool.not_false, bin_str, lenS_mk, nle_l, nle_r, nle_n, nlt_l, nlt_r, nlt_n, neq_r, neq_n, nne_r, nne_n, ext0, ext1, ext30, ext31, ext32, bin_add, bin_sub, decide_true, decide_false]
theorem s_ref5_Add_ret (c : CallK) (N : Nat) (hF : FitsOk c) (hs : List Hd) (hl : hs.length ≤ 1000000) (n v : Bs) (hn : n.length ≤ 9223372036854775806) (hv' : v.length ≤ 9223372036854775806) (lv : V) (H : Heap) (hw : WF H) (hr : RdH H lv hs) (τ : Tape) :
    ∃ r H' τ', Gr H.size H H' ∧ (addE n v hs.length = 0 → LsH H' H.size r (hs ++ [(n, valT v)])) ∧ (addE n v hs.length ≠ 0 → r = .nils) ∧ ∀ q, s_ref5_Add c N lv (.str n) (.str v) H τ q = q (.tup [r, .int .i64 (addE n v hs.length)]) H' τ' := by
  have k1 := hF n v hn hv' H τ
  have pl := hr.1.pLen
  unfold addE
  unfold mayV at k1
  generalize mayE n v = e at k1 ⊢
  by_cases he : e = 0
  · subst he
    have e2 : ((0 : Int) != Int.ofNat 0) = false := rfl
    rw [if_pos rfl] at k1 ⊢
    by_cases h64 : 64 ≤ hs.length
    · have e3 : decide (64 ≤ hs.length) = true := decide_eq_true h64
      rw [if_pos h64]
      refine ⟨.nils, H, τ, Gr.refl hw, fun h => absurd h (by decide), fun _ => rfl, fun q => ?_⟩
      simp only [s_ref5_Add, k1, getK_set, ↓reduceIte, Nat.reduceEqDiff, someK_n, effK_n, retK, gK_do, gK_do', gK_skip, gK_skip', gK_none, pick_mk, cond_true, cond_false, condK_tn, condK_fn, bin_eql, bin_neq, bin_lss, bin_leq, bin_gtr, bin_geq, un_not, Bool.not_true, Bool.not_false, bin_str, lenS_mk, nle_l, nle_r, nle_n, nlt_l, nlt_r, nlt_n, neq_r, neq_n, nne_r, nne_n, ext0, ext1, ext30, ext31, ext32, bin_add, bin_sub, decide_true, decide_false, e2, pl, e3]
      rfl
    · have e3 : decide (64 ≤ hs.length) = false := decide_eq_false h64
      rw [if_neg h64]
      have a1 : eBuildSlice 0 2 [] [] [] H τ = some (.sl H.size 0 0 0 none 2, H.new [] (0 * 2) false, τ) := rfl
      have g1 := Gr.new hw [] (0 * 2) false
      have o1 : Apd (H.new [] (0 * 2) false) H.size 2 (.sl H.size 0 0 0 none 2) 0 [] := .inr ⟨rfl, rfl, _, rfl, Blk.new H [] (0 * 2) false (Nat.le_refl _)⟩
      obtain ⟨v2, H2, τ2, r1, r2, r3, _⟩ := o1.append (bytes := 32) g1.wf g1.size (hr.1.gr g1 hw (Nat.le_refl _)) (hr.2.gr g1 hw (Nat.le_refl _)) (hcells_scal hs) (by omega) (by omega) τ
      rw [Nat.zero_add, List.nil_append] at r2
      obtain ⟨w, H3, v4, H4, τ4, m1, m2, m3, m4, _⟩ := put2 r2 r3.wf (Nat.le_trans g1.size r3.size) (n, valT v) hl τ2
      have pb : pBuild [(.str []), (.str [])] [(0, 1), (1, 1)] [.str n, .str (valT v)] = some (.agg [.str n, .str (valT v)]) := rfl
      refine ⟨v4, H4, τ4, (g1.trans r3 (Nat.le_refl _)).trans m4 (Nat.le_refl _), fun _ => ⟨?_, fun h => by simp at h⟩, fun h => absurd rfl h, fun q => ?_⟩
      · have := m3.own (by omega)
        simpa using this
      · simp only [s_ref5_Add, k1, getK_set, ↓reduceIte, Nat.reduceEqDiff, someK_n, effK_n, retK, gK_do, gK_do', gK_skip, gK_skip', gK_none, pick_mk, cond_true, cond_false, condK_tn, condK_fn, bin_eql, bin_neq, bin_lss, bin_leq, bin_gtr, bin_geq, un_not, Bool.not_true, Bool.not_false, bin_str, lenS_mk, nle_l, nle_r, nle_n, nlt_l, nlt_r, nlt_n, neq_r, neq_n, nne_r, nne_n, ext0, ext1, ext30, ext31, ext32, bin_add, bin_sub, decide_true, decide_false, e2, pl, e3, a1, r1, pb, m1, m2]
        rfl
  · have e2 : (e != Int.ofNat 0) = true := by rw [bne_iff_ne]; exact he
    rw [if_neg he] at k1 ⊢
    refine ⟨.nils, H, τ, Gr.refl hw, fun h => absurd h he, fun _ => rfl, fun q => ?_⟩
    simp only [s_ref5_Add, k1, getK_set, ↓reduceIte, Nat.reduceEqDiff, someK_n, effK_n, retK, gK_do, gK_do', gK_skip, gK_skip', gK_none, pick_mk, cond_true, cond_false, condK_tn, condK_fn, bin_eql, bin_neq, bin_lss, bin_leq, bin_gtr, bin_geq, un_not, Bool.not_true, Bool.not_false, bin_str, lenS_mk, nle_l, nle_r, nle_n, nlt_l, nlt_r, nlt_n, neq_r, neq_n, nne_r, nne_n, ext0, ext1, ext30, ext31, ext32, bin_add, bin_sub, decide_true, decide_false, e2]
def setL (name v : Bs) : Bool → List Hd → List Hd
  | _, [] => []
  | d, h :: l => bif named name h then (bif d then setL name v d l else (h.1, v) :: setL name v true l) else h :: setL name v d l
theorem setL_true (name v : Bs) : ∀ l, setL name v true l = dropT name l := by
  intro l
  induction l with
  | nil => rfl
  | cons h l ih =>
    unfold dropT at ih ⊢
    rw [setL, List.filter_cons, ih]
    cases named name h <;> rfl
theorem setL_app (name v : Bs) : ∀ (a l : List Hd) (d : Bool), (∀ h ∈ a, named name h = false) → setL name v d (a ++ l) = a ++ setL name v d l := by
  intro a
  induction a with
  | nil => intro l d _; rfl
  | cons h a ih => intro l d hh; rw [List.cons_append, setL, hh h (by simp), cond_false, ih l d (fun x hx => hh x (by simp [hx])), List.cons_append]
theorem setF_after (name v : Bs) (j : Nat) : ∀ (l : List Hd) (i : Nat), j < i → setF name v j l i = dropT name l := by
  intro l
  induction l with
  | nil => intro i _; rfl
  | cons h l ih =>
    intro i hi
    rw [setF, if_neg (by omega), ih (i + 1) (by omega)]
    unfold dropT
    rw [List.filter_cons]
    cases named name h <;> rfl
theorem setF_app (name v : Bs) (j : Nat) : ∀ (a l : List Hd) (i : Nat), i + a.length = j → (∀ h ∈ a, named name h = false) → setF name v j (a ++ l) i = a ++ setF name v j l j := by
  intro a
  induction a with
  | nil => intro l i hi _; simp at hi; subst hi; rfl
  | cons h a ih =>
    intro l i hi hh
    simp at hi
    rw [List.cons_append, setF, if_neg (by omega), hh h (by simp), cond_false, ih l (i + 1) (by omega) (fun x hx => hh x (by simp [hx])), List.cons_append]
theorem set_eq (n v : Bs) (hs : List Hd) : (findI n hs 0 < 0 ∧ (∀ h ∈ hs, named n h = false)) ∨ (¬ findI n hs 0 < 0 ∧ (∃ h ∈ hs, named n h = true) ∧ setF n v (findI n hs 0).toNat hs 0 = setL n v false hs) := by
  rcases findI_spec n hs 0 with ⟨h1, h2⟩ | ⟨a, h, r, h1, h2, h3, h4⟩
  · left; rw [h1]; exact ⟨by decide, h2⟩
  · right
    rw [h4, Nat.zero_add]
    refine ⟨by omega, ⟨h, by rw [h1]; simp, h3⟩, ?_⟩
    rw [show ((a.length : Nat) : Int).toNat = a.length from rfl, h1, setF_app n v a.length a (h :: r) 0 (by omega) h2, setL_app n v a (h :: r) false h2, setF, if_pos rfl, setF_after n v a.length r (a.length + 1) (by omega), setL, h3, cond_true, cond_false, setL_true]
theorem setL_len (name v : Bs) : ∀ (l : List Hd) (d : Bool), (setL name v d l).length ≤ l.length := by
  intro l
  induction l with
  | nil => intro d; exact Nat.le_refl _
  | cons h l ih =>
    intro d
    have h1 := ih d
    have h2 := ih true
    rw [setL]
    cases named name h <;> cases d <;> simp <;> omega
/-- what is behind the loop: is one of that name there? -/
def hasN (name : Bs) (d : Bool) (l : List Hd) : Bool := d || l.any (named name)
theorem setL_snoc (name v : Bs) : ∀ (pre : List Hd) (x : Hd) (d : Bool), setL name v d (pre ++ [x]) = setL name v d pre ++ setL name v (hasN name d pre) [x] := by
  intro pre
  induction pre with
  | nil => intro x d; simp [setL, hasN]
  | cons h pre ih =>
    intro x d
    rw [List.cons_append, setL, setL]
    cases hh : named name h with
    | true =>
      cases d with
      | true => rw [cond_true, cond_true, cond_true, cond_true, ih]; simp [hasN]
      | false => rw [cond_true, cond_false, cond_true, cond_false, ih, List.cons_append]; simp [hasN, hh]
    | false => rw [cond_false, cond_false, ih, List.cons_append]; simp [hasN, hh]
theorem l_ref5_Set (c : CallK) (N : Nat) (hNm : RNamedOk c) (name v : Bs) (v0 : V) (hm : name.length ≤ 140737488355328) (hs : List Hd) (hl : hs.length ≤ 1000000) (hsz : ∀ h ∈ hs, h.1.length ≤ 140737488355328) (lv : V) (B : Nat) :
    ∀ (l pre : List Hd) (ov : V) (H : Heap) (τ : Tape) (m : Nat), hs = pre ++ l → l.length < m → WF H → B ≤ H.size → (∀ H', Gr B H H' → RdH H' lv hs) → LsH H B ov (setL name v false pre) →
    ∃ ov' H' τ', LsH H' B ov' (setL name v false hs) ∧ Gr B H H' ∧ ∀ (fr : T V) k, fr.get 0 = some lv → fr.get 1 = some (.str name) → fr.get 2 = some v0 → fr.get 8 = some (.str v) → fr.get 10 = some ov → fr.get 11 = some (.bool (hasN name false pre)) → fr.get 12 = some (.int .i64 (pre.length : Int)) →
      loopK (s_ref5_Set_l1 c N) m ⟨fr, H⟩ τ k = k (.exit 0) ⟨(T.set (T.set (T.set (T.set (T.set .leaf 0 lv) 1 (.str name)) 2 v0) 10 ov') 11 (.bool (hasN name false hs))), H'⟩ τ' := by
  intro l
  induction l with
  | nil =>
    intro pre ov H τ m he hmm hw hB hrd ho
    obtain ⟨m, rfl⟩ : ∃ j, m = j + 1 := ⟨m - 1, by omega⟩
    have e1 : decide (pre.length < hs.length) = false := decide_eq_false (by rw [he]; simp)
    have ep : hs = pre := by rw [he, List.append_nil]
    refine ⟨ov, H, τ, by rw [ep]; exact ho, Gr.refl hw, fun fr k f0 f1 f2 f8 f10 f11 f12 => ?_⟩
    have pl := (hrd H (Gr.refl hw)).1.pLen
    rw [loopK_succ]
    simp only [s_ref5_Set_l1, getK_mk f0, getK_mk f1, getK_mk f2, getK_mk f8, getK_mk f10, getK_mk f11, getK_mk f12, pl, getK_set, ↓reduceIte, Nat.reduceEqDiff, someK_n, effK_n, retK, gK_do, gK_do', gK_skip, gK_skip', gK_none, pick_mk, cond_true, cond_false, condK_tn, condK_fn, bin_eql, bin_neq, bin_lss, bin_leq, bin_gtr, bin_geq, un_not, Bool.not_true, Bool.not_false, bin_str, lenS_mk, nle_l, nle_r, nle_n, nlt_l, nlt_r, nlt_n, neq_r, neq_n, nne_r, nne_n, ext0, ext1, ext30, ext31, ext32, bin_add, bin_sub, decide_true, decide_false, e1]
    rw [← ep]
    rfl
  | cons x l ih =>
    intro pre ov H τ m he hmm hw hB hrd ho
    obtain ⟨m, rfl⟩ : ∃ j, m = j + 1 := ⟨m - 1, by omega⟩
    have hlt : pre.length < hs.length := by rw [he]; simp
    have e1 : decide (pre.length < hs.length) = true := decide_eq_true hlt
    have e3 : wr .i64 ((pre.length : Int) + Int.ofNat 1) = ((pre ++ [x]).length : Int) := by rw [adI (by omega)]; simp
    have hr := (hrd H (Gr.refl hw)).1
    have pl := hr.pLen
    obtain ⟨id, o, p1, p2⟩ := hd_at (v := lv) pre x l (H := H) (by rw [← he]; exact hr)
    obtain ⟨q1, q2, _⟩ := p2 H (by rw [← he]; exact hr)
    have pf : pFieldAddr 0 [.ptr id o] = some (.ptr id o) := rfl
    have kn := fun H τ q => hNm x name (hsz x (by rw [he]; simp)) hm H τ q
    have hol : (setL name v false pre).length ≤ 1000000 := Nat.le_trans (setL_len _ _ _ _) (by omega)
    have es := setL_snoc name v pre x false
    have eh : hasN name false (pre ++ [x]) = (hasN name false pre || named name x) := by simp [hasN]
    cases hx : named name x with
    | true =>
      rw [hx, Bool.or_true] at eh
      cases hd : hasN name false pre with
      | true =>
        rw [hd, setL, hx, cond_true, cond_true, setL, List.append_nil] at es
        obtain ⟨ov', H', τ', i1, i2, i3⟩ := ih (pre ++ [x]) ov H τ m (by rw [he]; simp) (by simp at hmm; omega) hw hB hrd (by rw [es]; exact ho)
        refine ⟨ov', H', τ', i1, i2, fun fr k f0 f1 f2 f8 f10 f11 f12 => ?_⟩
        rw [loopK_succ]
        simp only [s_ref5_Set_l1, getK_mk f0, getK_mk f1, getK_mk f2, getK_mk f8, getK_mk f10, getK_mk f11, getK_mk f12, pl, getK_set, ↓reduceIte, Nat.reduceEqDiff, someK_n, effK_n, retK, gK_do, gK_do', gK_skip, gK_skip', gK_none, pick_mk, cond_true, cond_false, condK_tn, condK_fn, bin_eql, bin_neq, bin_lss, bin_leq, bin_gtr, bin_geq, un_not, Bool.not_true, Bool.not_false, bin_str, lenS_mk, nle_l, nle_r, nle_n, nlt_l, nlt_r, nlt_n, neq_r, neq_n, nne_r, nne_n, ext0, ext1, ext30, ext31, ext32, bin_add, bin_sub, decide_true, decide_false, e1, p1, q1, kn, hx, s_ref5_Set_j2, e3]
        exact i3 _ k (by simp [T.get_set]) (by simp [T.get_set]) (by simp [T.get_set]) (by simp [T.get_set]) (by simp [T.get_set]) (by simp [T.get_set, eh]) (by simp [T.get_set])
      | false =>
        rw [hd, setL, hx, cond_true, cond_false, setL] at es
        obtain ⟨w, H1, v', H2, τ2, r1, r2, r3, r4, _, _⟩ := ho.put hw hB (x.1, v) hol τ
        obtain ⟨ov', H', τ', i1, i2, i3⟩ := ih (pre ++ [x]) v' H2 τ2 m (by rw [he]; simp) (by simp at hmm; omega) r4.wf (Nat.le_trans hB r4.size) (fun H' hg => hrd H' (r4.trans hg (Nat.le_refl _))) (by rw [es]; exact r3)
        have pb : pBuild [(.str []), (.str [])] [(0, 1), (1, 1)] [.str x.1, .str v] = some (hv (x.1, v)) := rfl
        refine ⟨ov', H', τ', i1, r4.trans i2 (Nat.le_refl _), fun fr k f0 f1 f2 f8 f10 f11 f12 => ?_⟩
        rw [loopK_succ]
        simp only [s_ref5_Set_l1, getK_mk f0, getK_mk f1, getK_mk f2, getK_mk f8, getK_mk f10, getK_mk f11, getK_mk f12, pl, getK_set, ↓reduceIte, Nat.reduceEqDiff, someK_n, effK_n, retK, gK_do, gK_do', gK_skip, gK_skip', gK_none, pick_mk, cond_true, cond_false, condK_tn, condK_fn, bin_eql, bin_neq, bin_lss, bin_leq, bin_gtr, bin_geq, un_not, Bool.not_true, Bool.not_false, bin_str, lenS_mk, nle_l, nle_r, nle_n, nlt_l, nlt_r, nlt_n, neq_r, neq_n, nne_r, nne_n, ext0, ext1, ext30, ext31, ext32, bin_add, bin_sub, decide_true, decide_false, e1, p1, q1, kn, hx, pf, q2, pb, r1, r2, s_ref5_Set_j2, e3]
        exact i3 _ k (by simp [T.get_set]) (by simp [T.get_set]) (by simp [T.get_set]) (by simp [T.get_set]) (by simp [T.get_set]) (by simp [T.get_set, eh]) (by simp [T.get_set])
    | false =>
      rw [hx, Bool.or_false] at eh
      rw [setL, hx, cond_false, setL] at es
      obtain ⟨w, H1, v', H2, τ2, r1, r2, r3, r4, _, _⟩ := ho.put hw hB x hol τ
      obtain ⟨ov', H', τ', i1, i2, i3⟩ := ih (pre ++ [x]) v' H2 τ2 m (by rw [he]; simp) (by simp at hmm; omega) r4.wf (Nat.le_trans hB r4.size) (fun H' hg => hrd H' (r4.trans hg (Nat.le_refl _))) (by rw [es]; exact r3)
      refine ⟨ov', H', τ', i1, r4.trans i2 (Nat.le_refl _), fun fr k f0 f1 f2 f8 f10 f11 f12 => ?_⟩
      rw [loopK_succ]
      simp only [s_ref5_Set_l1, getK_mk f0, getK_mk f1, getK_mk f2, getK_mk f8, getK_mk f10, getK_mk f11, getK_mk f12, pl, getK_set, ↓reduceIte, Nat.reduceEqDiff, someK_n, effK_n, retK, gK_do, gK_do', gK_skip, gK_skip', gK_none, pick_mk, cond_true, cond_false, condK_tn, condK_fn, bin_eql, bin_neq, bin_lss, bin_leq, bin_gtr, bin_geq, un_not, Bool.not_true, Bool.not_false, bin_str, lenS_mk, nle_l, nle_r, nle_n, nlt_l, nlt_r, nlt_n, neq_r, neq_n, nne_r, nne_n, ext0, ext1, ext30, ext31, ext32, bin_add, bin_sub, decide_true, decide_false, e1, p1, q1, kn, hx, r1, r2, s_ref5_Set_j2, e3]
      exact i3 _ k (by simp [T.get_set]) (by simp [T.get_set]) (by simp [T.get_set]) (by simp [T.get_set]) (by simp [T.get_set]) (by simp [T.get_set, eh]) (by simp [T.get_set])
theorem setE_may {n v : Bs} {hs : List Hd} (h : mayE n v ≠ 0) : setE n v hs = mayE n v := by
  unfold setE addE
  rw [if_neg h]
  split <;> rfl
theorem s_ref5_Set_ret (c : CallK) {N : Nat} (hN : 9223372036854775807 < N) (hF : FitsOk c) (hNm : RNamedOk c) (n v : Bs) (hm : n.length ≤ 140737488355328) (hv' : v.length ≤ 9223372036854775806) (hs : List Hd) (hl : hs.length ≤ 1000000) (hsz : ∀ h ∈ hs, h.1.length ≤ 140737488355328) (lv : V) (H : Heap) (hw : WF H) (hr : RdH H lv hs) (τ : Tape)
    (hA : ∀ (H : Heap), WF H → RdH H lv hs → ∀ τ, ∃ r H' τ', Gr H.size H H' ∧ (addE n v hs.length = 0 → LsH H' H.size r (hs ++ [(n, valT v)])) ∧ (addE n v hs.length ≠ 0 → r = .nils) ∧ ∀ q, c f_ref5_Add [lv, .str n, .str v] H τ q = q (.tup [r, .int .i64 (addE n v hs.length)]) H' τ') :
    ∃ r H' τ', Gr H.size H H' ∧ (setE n v hs = 0 → LsH H' H.size r (setT n v hs)) ∧ (setE n v hs ≠ 0 → r = .nils) ∧ ∀ q, s_ref5_Set c N lv (.str n) (.str v) H τ q = q (.tup [r, .int .i64 (setE n v hs)]) H' τ' := by
  have k1 := hF n v (by omega) hv' H τ
  unfold mayV at k1
  by_cases he : mayE n v = 0
  · have e2 : ((0 : Int) != Int.ofNat 0) = false := rfl
    rw [he, if_pos rfl] at k1
    obtain ⟨o', H1, τ1, i1, i2, i3⟩ := l_ref5_Set c N hNm n (valT v) (.str v) hm hs hl hsz lv H.size hs [] .nils H τ N rfl (by omega) hw (Nat.le_refl _) (fun H' hg => hr.gr hg hw (Nat.le_refl _)) (LsH.nil _ _)
    have step : ∀ q, s_ref5_Set c N lv (.str n) (.str v) H τ q = s_ref5_Set_j0 c N q ⟨(T.set (T.set (T.set (T.set (T.set .leaf 0 lv) 1 (.str n)) 2 (.str v)) 10 o') 11 (.bool (hasN n false hs))), H1⟩ τ1 := by
      intro q
      simp only [s_ref5_Set, k1, getK_set, ↓reduceIte, Nat.reduceEqDiff, someK_n, effK_n, retK, gK_do, gK_do', gK_skip, gK_skip', gK_none, pick_mk, cond_true, cond_false, condK_tn, condK_fn, bin_eql, bin_neq, bin_lss, bin_leq, bin_gtr, bin_geq, un_not, Bool.not_true, Bool.not_false, bin_str, lenS_mk, nle_l, nle_r, nle_n, nlt_l, nlt_r, nlt_n, neq_r, neq_n, nne_r, nne_n, ext0, ext1, ext30, ext31, ext32, bin_add, bin_sub, decide_true, decide_false, e2]
      rw [i3 _ _ (by simp [T.get_set]) (by simp [T.get_set]) (by simp [T.get_set]) (by simp [T.get_set]) (by simp [T.get_set]) (by simp [T.get_set, hasN]) (by simp [T.get_set])]
      simp only [blockK, Nat.beq_refl, cond_true, seqK]
    rcases set_eq n (valT v) hs with ⟨h1, h2⟩ | ⟨h1, ⟨x, hx, hx2⟩, h3⟩
    · have eh : hasN n false hs = false := by
        simp only [hasN, Bool.false_or, List.any_eq_false]
        intro x hx; rw [h2 x hx]; exact Bool.false_ne_true
      obtain ⟨r, H2, τ2, g2, j1, j2, j3⟩ := hA H1 i2.wf (hr.gr i2 hw (Nat.le_refl _)) τ1
      have eE : setE n v hs = addE n v hs.length := by unfold setE; rw [if_pos h1]
      have eT : setT n v hs = hs ++ [(n, valT v)] := by unfold setT; rw [if_pos h1]
      rw [eE, eT]
      refine ⟨r, H2, τ2, i2.trans g2 i2.size, fun h => (j1 h).weaken i2.size, j2, fun q => ?_⟩
      rw [step, eh]
      simp only [s_ref5_Set_j0, getK_set, ↓reduceIte, Nat.reduceEqDiff, someK_n, effK_n, retK, gK_do, gK_do', gK_skip, gK_skip', gK_none, pick_mk, cond_true, cond_false, condK_tn, condK_fn, bin_eql, bin_neq, bin_lss, bin_leq, bin_gtr, bin_geq, un_not, Bool.not_true, Bool.not_false, bin_str, lenS_mk, nle_l, nle_r, nle_n, nlt_l, nlt_r, nlt_n, neq_r, neq_n, nne_r, nne_n, ext0, ext1, ext30, ext31, ext32, bin_add, bin_sub, decide_true, decide_false, j3]
    · have eh : hasN n false hs = true := by
        simp only [hasN, Bool.false_or, List.any_eq_true]
        exact ⟨x, hx, hx2⟩
      have eE : setE n v hs = 0 := by unfold setE; rw [if_neg h1, he]
      have eT : setT n v hs = setL n (valT v) false hs := by unfold setT; rw [if_neg h1, h3]
      rw [eE, eT]
      refine ⟨o', H1, τ1, i2, fun _ => i1, fun h => absurd rfl h, fun q => ?_⟩
      rw [step, eh]
      simp only [s_ref5_Set_j0, getK_set, ↓reduceIte, Nat.reduceEqDiff, someK_n, effK_n, retK, gK_do, gK_do', gK_skip, gK_skip', gK_none, pick_mk, cond_true, cond_false, condK_tn, condK_fn, bin_eql, bin_neq, bin_lss, bin_leq, bin_gtr, bin_geq, un_not, Bool.not_true, Bool.not_false, bin_str, lenS_mk, nle_l, nle_r, nle_n, nlt_l, nlt_r, nlt_n, neq_r, neq_n, nne_r, nne_n, ext0, ext1, ext30, ext31, ext32, bin_add, bin_sub, decide_true, decide_false]
      rfl
  · have e2 : (mayE n v != Int.ofNat 0) = true := by rw [bne_iff_ne]; exact he
    rw [if_neg he] at k1
    rw [setE_may he]
    refine ⟨.nils, H, τ, Gr.refl hw, fun h => absurd h he, fun _ => rfl, fun q => ?_⟩
    simp only [s_ref5_Set, k1, getK_set, ↓reduceIte, Nat.reduceEqDiff, someK_n, effK_n, retK, gK_do, gK_do', gK_skip, gK_skip', gK_none, pick_mk, cond_true, cond_false, condK_tn, condK_fn, bin_eql, bin_neq, bin_lss, bin_leq, bin_gtr, bin_geq, un_not, Bool.not_true, Bool.not_false, bin_str, lenS_mk, nle_l, nle_r, nle_n, nlt_l, nlt_r, nlt_n, neq_r, neq_n, nne_r, nne_n, ext0, ext1, ext30, ext31, ext32, bin_add, bin_sub, decide_true, decide_false, e2]
end Go.Am.X


namespace Go.Am.X
set_option linter.unusedSimpArgs false
set_option linter.unusedVariables false
set_option linter.unusedSectionVars false
set_option maxRecDepth 100000
theorem primRH {N : Nat} {l : List Row} (hl : RowsOk PG l) (d f : Nat) {Pre : List Hd → List V → Prop} {g : Bool → List Hd → List V → Out} (h : ∀ hs args, Pre hs args → ∀ lv H, WF H → RdH H lv hs → ∀ τ, ∃ v H' τ', Gr H.size H H' ∧ (g (isNil lv) hs args).Met H v H' ∧ ∀ q, CR l N d f (lv :: args) H τ q = q v H' τ') : ∀ base w0, PrimOk PG base w0 f (outP (RH Pre g)) := by
  refine primOk_out mixed_ok hl N d f ?_
  rintro vs H o hw hvs ⟨lv, args, hs, rfl, hr, hp, rfl⟩ τ
  obtain ⟨v, H', τ', g1, hm, k1⟩ := h hs args hp lv H hw hr τ
  exact ⟨_, H', τ', k1 retK, g1, hm⟩
theorem LsH.lst {H : Heap} {B : Nat} {v : V} {hs : List Hd} (h : LsH H B v hs) (hn : hs ≠ []) : FreshL B H 2 hs.length (hcells hs) v := Got.lst h.1.apd.got (fun e => hn (List.eq_nil_of_length_eq_zero e))
abbrev RDropG (_ : Bool) (hs : List Hd) : List V → Out | [.str n] => lstO 2 (dropT n hs).length (hcells (dropT n hs)) (fun v => v) | _ => .val (.tup [])
noncomputable abbrev rw_RDrop : List Row := [Row.fn f_ref5_Drop fn_ref5_Drop e_ref5_Drop, Row.prim f_ref5_Named (outP RNamedR)]
theorem p_ref5_Drop : ∀ base w0, PrimOk PG base w0 f_ref5_Drop (outP (RH DropPre RDropG)) := by
  obtain ⟨N, hN⟩ := someN
  refine primRH (N := N) (l := rw_RDrop) (.fn ok_ref5_Drop e_ref5_Drop_ok (.prim p_ref5_Named (.nil _))) 2 _ (fun hs args hp lv H hw hr τ => ?_)
  unfold DropPre at hp; split at hp
  · obtain ⟨v', H', τ', h1, h2, h3⟩ := s_ref5_Drop_ret (CR rw_RDrop N 1) hN (k_ref5_Named fun _ _ _ _ => rfl) _ hp.2.2 hs hp.1 hp.2.1 lv H hw hr τ
    exact ⟨v', H', τ', h2, h1.met mkOk_id trivial, h3⟩
  · exact hp.elim
abbrev AddPre' (hs : List Hd) : List V → Prop | [.str n, .str v] => hs.length ≤ 1000000 ∧ n.length ≤ 9223372036854775806 ∧ v.length ≤ 9223372036854775806 | _ => False
noncomputable abbrev rw_RAdd : List Row := [Row.fn f_ref5_Add fn_ref5_Add e_ref5_Add, Row.prim f_ref5_fits (outP FitsR)]
theorem p_ref5_Add : ∀ base w0, PrimOk PG base w0 f_ref5_Add (outP (RH AddPre' AddG)) := by
  obtain ⟨N, hN⟩ := someN
  refine primRH (N := N) (l := rw_RAdd) (.fn ok_ref5_Add e_ref5_Add_ok (.prim p_ref5_fits (.nil _))) 2 _ (fun hs args hp lv H hw hr τ => ?_)
  unfold AddPre' at hp; split at hp
  · rename_i n v
    obtain ⟨r, H', τ', h1, h2, h3, h4⟩ := s_ref5_Add_ret (CR rw_RAdd N 1) N (k_ref5_fits fun _ _ _ _ => rfl) hs hp.1 n v hp.2.1 hp.2.2 lv H hw hr τ
    refine ⟨_, H', τ', h1, ?_, h4⟩
    unfold AddG
    by_cases he : addE n v hs.length = 0
    · simp only [he, if_true]
      have := (h2 he).lst (by simp)
      rw [List.length_append] at this
      exact ⟨mkOk_int _ _, hcells_vok _ _, r, rfl, this⟩
    · simp only [if_neg he]
      rw [h3 he]
      exact ⟨rfl, trivial, trivial, trivial⟩
  · exact hp.elim
theorem k_ref5_Add {c : CallK} (h : IsP c f_ref5_Add (RH AddPre' AddG)) {hs : List Hd} (hl : hs.length ≤ 1000000) {n v : Bs} (hn : n.length ≤ 9223372036854775806) (hv' : v.length ≤ 9223372036854775806) {lv : V} {H : Heap} (hw : WF H) (hr : RdH H lv hs) (τ : Tape) :
    ∃ r H' τ', Gr H.size H H' ∧ (addE n v hs.length = 0 → LsH H' H.size r (hs ++ [(n, valT v)])) ∧ (addE n v hs.length ≠ 0 → r = .nils) ∧ ∀ q, c f_ref5_Add [lv, .str n, .str v] H τ q = q (.tup [r, .int .i64 (addE n v hs.length)]) H' τ' := by
  by_cases he : addE n v hs.length = 0
  · obtain ⟨r, H', τ', h1, h2, h3, h4⟩ := RH_lst (v := lv) (l := [.str n, .str v]) h hr ⟨hl, hn, hv'⟩ (if_pos he) hw (by rw [hcells_length]; simp) τ
    refine ⟨r, H', τ', h3, fun _ => ⟨by simpa using h1, fun e => by simp at e⟩, fun h => absurd he h, fun q => ?_⟩
    rw [h4, he]
  · have h4 := fun q => RH_val (v := lv) (l := [.str n, .str v]) h hr ⟨hl, hn, hv'⟩ (if_neg he) τ q
    exact ⟨.nils, H, τ, Gr.refl hw, fun h => absurd h he, fun _ => rfl, h4⟩
/-- the same of headers.Add -/
theorem k_headers_Add {c : CallK} (h : IsP c f_headers_Add (RH AddPre AddG)) {hs : List Hd} (hl : hs.length ≤ 1000000) {n v : Bs} (hn : n.length < 9223372036854775807) (hv' : v.length < 9223372036854775807) {lv : V} {H : Heap} (hw : WF H) (hr : RdH H lv hs) (τ : Tape) :
    ∃ r H' τ', Gr H.size H H' ∧ (addE n v hs.length = 0 → LsH H' H.size r (hs ++ [(n, valT v)])) ∧ (addE n v hs.length ≠ 0 → r = .nils) ∧ ∀ q, c f_headers_Add [lv, .str n, .str v] H τ q = q (.tup [r, .int .i64 (addE n v hs.length)]) H' τ' := by
  by_cases he : addE n v hs.length = 0
  · obtain ⟨r, H', τ', h1, h2, h3, h4⟩ := RH_lst (v := lv) (l := [.str n, .str v]) h hr ⟨hl, hn, hv'⟩ (if_pos he) hw (by rw [hcells_length]; simp) τ
    refine ⟨r, H', τ', h3, fun _ => ⟨by simpa using h1, fun e => by simp at e⟩, fun h => absurd he h, fun q => ?_⟩
    rw [h4, he]
  · have h4 := fun q => RH_val (v := lv) (l := [.str n, .str v]) h hr ⟨hl, hn, hv'⟩ (if_neg he) τ q
    exact ⟨.nils, H, τ, Gr.refl hw, fun h => absurd h he, fun _ => rfl, h4⟩
abbrev SetPre' (hs : List Hd) : List V → Prop | [.str n, .str v] => hs.length ≤ 1000000 ∧ (∀ h ∈ hs, h.1.length ≤ 140737488355328) ∧ n.length ≤ 140737488355328 ∧ v.length ≤ 9223372036854775806 | _ => False
noncomputable abbrev rw_RSet : List Row := [Row.fn f_ref5_Set fn_ref5_Set e_ref5_Set, Row.prim f_ref5_fits (outP FitsR), Row.prim f_ref5_Named (outP RNamedR), Row.prim f_ref5_Add (outP (RH AddPre' AddG))]
theorem setMet {n v : Bs} {hs : List Hd} {b : Bool} {r : V} {H H' : Heap} (h2 : setE n v hs = 0 → LsH H' H.size r (setT n v hs)) (h3 : setE n v hs ≠ 0 → r = .nils) : (SetG b hs [.str n, .str v]).Met H (.tup [r, .int .i64 (setE n v hs)]) H' := by
  unfold SetG
  by_cases he : setE n v hs = 0
  · simp only [he, if_true]
    exact ⟨mkOk_int _ _, hcells_vok _ _, r, rfl, (h2 he).lst (setT_ne n v hs)⟩
  · simp only [if_neg he]
    rw [h3 he]
    exact ⟨rfl, trivial, trivial, trivial⟩
theorem p_ref5_Set : ∀ base w0, PrimOk PG base w0 f_ref5_Set (outP (RH SetPre' SetG)) := by
  obtain ⟨N, hN⟩ := someN
  refine primRH (N := N) (l := rw_RSet) (.fn ok_ref5_Set e_ref5_Set_ok (.prim p_ref5_fits (.prim p_ref5_Named (.prim p_ref5_Add (.nil _))))) 2 _ (fun hs args hp lv H hw hr τ => ?_)
  unfold SetPre' at hp; split at hp
  · rename_i n v
    obtain ⟨r, H', τ', h1, h2, h3, h4⟩ := s_ref5_Set_ret (CR rw_RSet N 1) hN (k_ref5_fits fun _ _ _ _ => rfl) (k_ref5_Named fun _ _ _ _ => rfl) n v hp.2.2.1 hp.2.2.2 hs hp.1 hp.2.1 lv H hw hr τ (fun H hw hr τ => k_ref5_Add (fun _ _ _ _ => rfl) hp.1 (by omega) hp.2.2.2 hw hr τ)
    exact ⟨_, H', τ', h1, setMet h2 h3, h4⟩
  · exact hp.elim
/-- both Set -/
theorem k_Set {c : CallK} {f : Nat} {Pre : List Hd → List V → Prop} (h : IsP c f (RH Pre SetG)) {hs : List Hd} {n v : Bs} (hp : Pre hs [.str n, .str v]) {lv : V} {H : Heap} (hw : WF H) (hr : RdH H lv hs) (τ : Tape) :
    ∃ r H' τ', Gr H.size H H' ∧ (setE n v hs = 0 → LsH H' H.size r (setT n v hs)) ∧ (setE n v hs ≠ 0 → r = .nils) ∧ ∀ q, c f [lv, .str n, .str v] H τ q = q (.tup [r, .int .i64 (setE n v hs)]) H' τ' := by
  by_cases he : setE n v hs = 0
  · obtain ⟨r, H', τ', h1, h2, h3, h4⟩ := RH_lst (v := lv) (l := [.str n, .str v]) h hr hp (if_pos he) hw (by rw [hcells_length]) τ
    refine ⟨r, H', τ', h3, fun _ => ⟨h1, fun e => absurd e (setT_ne n v hs)⟩, fun h => absurd he h, fun q => ?_⟩
    rw [h4, he]
  · have h4 := fun q => RH_val (v := lv) (l := [.str n, .str v]) h hr hp (if_neg he) τ q
    exact ⟨.nils, H, τ, Gr.refl hw, fun h => absurd h he, fun _ => rfl, h4⟩
theorem k_ref5_Drop {c : CallK} (h : IsP c f_ref5_Drop (RH DropPre RDropG)) {hs : List Hd} {n : Bs} (hp : DropPre hs [.str n]) {lv : V} {H : Heap} (hw : WF H) (hr : RdH H lv hs) (τ : Tape) :
    ∃ v' H' τ', RdH H' v' (dropT n hs) ∧ Gr H.size H H' ∧ ∀ q, c f_ref5_Drop [lv, .str n] H τ q = q v' H' τ' := by
  obtain ⟨v', H', τ', h1, h2, h3⟩ := RH_lstO (v := lv) (l := [.str n]) h hr hp rfl hw (by rw [hcells_length]) τ
  exact ⟨v', H', τ', Own.rdH h1, h2, h3⟩
theorem RdH.nils {H : Heap} {hs : List Hd} (h : RdH H .nils hs) : hs = [] := by
  rcases h.1 with ⟨_, h0, _⟩ | ⟨_, _, _, _, _, e, _⟩
  · exact List.eq_nil_of_length_eq_zero h0
  · cases e
theorem RdH.mkNil (H : Heap) : RdH H .nils [] := ⟨.inl ⟨.inl rfl, rfl, rfl⟩, trivial⟩
theorem k_headers_Drop {c : CallK} (h : IsP c f_headers_Drop (RH DropPre DropG)) {hs : List Hd} {n : Bs} (hp : DropPre hs [.str n]) {lv : V} {H : Heap} (hw : WF H) (hr : RdH H lv hs) (τ : Tape) :
    ∃ v' H' τ', RdH H' v' (dropT n hs) ∧ Gr H.size H H' ∧ ∀ q, c f_headers_Drop [lv, .str n] H τ q = q v' H' τ' := by
  by_cases hn : isNil lv = true
  · have e : lv = .nils := (isNil_iff _).1 hn
    subst e
    have e2 := hr.nils
    subst e2
    have h4 := fun q => RH_val (v := .nils) (l := [.str n]) h hr hp (u := .nils) (by rfl) τ q
    exact ⟨.nils, H, τ, RdH.mkNil H, Gr.refl hw, h4⟩
  · obtain ⟨v', H', τ', h1, _, h2, h3⟩ := RH_lst (v := lv) (l := [.str n]) h hr hp (z := 2) (n := (dropT n hs).length) (cs := hcells (dropT n hs)) (mk := fun v => v) (if_neg hn) hw (by rw [hcells_length]) τ
    exact ⟨v', H', τ', Own.rdH h1, h2, h3⟩
theorem eq_hd (x : Hd) : pEq true (.flat [.str, .str]) [hv x, hv x] = some (.bool false) := by
  simp [pEq, hv, eqV, eqFlat, eqS, eqB_eq]
theorem l_book_Same_Header (c : CallK) (N : Nat) (a b : V) (hs : List Hd) (hl : hs.length ≤ 1000000) (H : Heap) (ha : RdH H a hs) (hb : RdH H b hs) :
    ∀ (l pre : List Hd) (fr : T V) (τ : Tape) (m : Nat), hs = pre ++ l → l.length < m → fr.get 0 = some a → fr.get 1 = some b → fr.get 5 = some (.int .i64 (pre.length : Int)) →
    ∀ k, loopK (s_book_Same_Header_l1 c N) m ⟨fr, H⟩ τ k = k (.exit 0) ⟨.leaf, H⟩ τ := by
  intro l
  induction l with
  | nil =>
    intro pre fr τ m he hm f0 f1 f5 k
    obtain ⟨m, rfl⟩ : ∃ j, m = j + 1 := ⟨m - 1, by omega⟩
    have e1 : decide (pre.length < hs.length) = false := decide_eq_false (by rw [he]; simp)
    rw [loopK_succ]
    simp only [s_book_Same_Header_l1, getK_mk f0, getK_mk f1, getK_mk f5, ha.1.pLen, getK_set, ↓reduceIte, Nat.reduceEqDiff, someK_n, effK_n, retK, gK_do, gK_do', gK_skip, gK_skip', gK_none, pick_mk, cond_true, cond_false, condK_tn, condK_fn, bin_eql, bin_neq, bin_lss, bin_leq, bin_gtr, bin_geq, un_not, Bool.not_true, Bool.not_false, bin_str, lenS_mk, nle_l, nle_r, nle_n, nlt_l, nlt_r, nlt_n, neq_r, neq_n, nne_r, nne_n, ext0, ext1, ext30, ext31, ext32, bin_add, bin_sub, decide_true, decide_false, e1]
    rfl
  | cons x l ih =>
    intro pre fr τ m he hm f0 f1 f5 k
    obtain ⟨m, rfl⟩ : ∃ j, m = j + 1 := ⟨m - 1, by omega⟩
    have hlt : pre.length < hs.length := by rw [he]; simp
    have e1 : decide (pre.length < hs.length) = true := decide_eq_true hlt
    have e3 : wr .i64 ((pre.length : Int) + Int.ofNat 1) = ((pre ++ [x]).length : Int) := by rw [adI (by omega)]; simp
    obtain ⟨id, o, p1, p2⟩ := hd_at (v := a) pre x l (H := H) (by rw [← he]; exact ha.1)
    have q1 := (p2 H (by rw [← he]; exact ha.1)).1
    obtain ⟨id', o', p3, p4⟩ := hd_at (v := b) pre x l (H := H) (by rw [← he]; exact hb.1)
    have q3 := (p4 H (by rw [← he]; exact hb.1)).1
    rw [loopK_succ]
    simp only [s_book_Same_Header_l1, getK_mk f0, getK_mk f1, getK_mk f5, ha.1.pLen, getK_set, ↓reduceIte, Nat.reduceEqDiff, someK_n, effK_n, retK, gK_do, gK_do', gK_skip, gK_skip', gK_none, pick_mk, cond_true, cond_false, condK_tn, condK_fn, bin_eql, bin_neq, bin_lss, bin_leq, bin_gtr, bin_geq, un_not, Bool.not_true, Bool.not_false, bin_str, lenS_mk, nle_l, nle_r, nle_n, nlt_l, nlt_r, nlt_n, neq_r, neq_n, nne_r, nne_n, ext0, ext1, ext30, ext31, ext32, bin_add, bin_sub, decide_true, decide_false, e1, p1, q1, p3, q3, eq_hd, e3]
    exact ih (pre ++ [x]) _ τ m (by rw [he]; simp) (by simp at hm; omega) (by simp [T.get_set]) (by simp [T.get_set]) (by simp [T.get_set]) k
theorem s_book_Same_Header_ret (c : CallK) {N : Nat} (hN : 9223372036854775807 < N) (a b : V) (hs : List Hd) (hl : hs.length ≤ 1000000) (H : Heap) (ha : RdH H a hs) (hb : RdH H b hs) (τ : Tape) (q : KV) : s_book_Same_Header c N a b H τ q = q (.bool true) H τ := by
  have e1 : ((hs.length : Int) != (hs.length : Int)) = false := by simp
  simp only [s_book_Same_Header, ha.1.pLen, hb.1.pLen, someK_n, bin_neq, e1, condK_fn]
  rw [l_book_Same_Header c N a b hs hl H ha hb hs [] _ τ N rfl (by omega) (by simp [T.get_set]) (by simp [T.get_set]) (by simp [T.get_set])]
  simp only [blockK, Nat.beq_refl, cond_true, seqK, s_book_Same_Header_j0]
def SameR (vs : List V) (H : Heap) (o : Out) : Prop := ∃ a b hs, vs = [a, b] ∧ RdH H a hs ∧ RdH H b hs ∧ hs.length ≤ 1000000 ∧ o = .val (.bool true)
theorem SameR_fun : Fun1 SameR := by
  rintro vs H o o' ⟨_, _, _, _, _, _, _, rfl⟩ ⟨_, _, _, _, _, _, _, rfl⟩; rfl
theorem p_book_Same_Header : ∀ base w0, PrimOk PG base w0 f_book_Same_Header (outP SameR) := by
  obtain ⟨N, hN⟩ := someN
  refine primOk_out mixed_ok (l := [Row.fn f_book_Same_Header fn_book_Same_Header e_book_Same_Header]) (.fn ok_book_Same_Header e_book_Same_Header_ok (.nil _)) N 1 _ ?_
  rintro vs H o hw hvs ⟨a, b, hs, rfl, ha, hb, hl, rfl⟩ τ
  exact ⟨_, H, τ, s_book_Same_Header_ret (CR [Row.fn f_book_Same_Header fn_book_Same_Header e_book_Same_Header] N 0) hN a b hs hl H ha hb τ retK, Gr.refl hw, rfl, trivial⟩
theorem k_book_Same_Header {c : CallK} (h : IsP c f_book_Same_Header SameR) {a b : V} {hs : List Hd} (hl : hs.length ≤ 1000000) {H : Heap} (ha : RdH H a hs) (hb : RdH H b hs) (τ : Tape) (q : KV) : c f_book_Same_Header [a, b] H τ q = q (.bool true) H τ :=
  outK_val h SameR_fun ⟨a, b, hs, rfl, ha, hb, hl, rfl⟩ τ q
abbrev HPre : List V → Prop | [.str _, .str _] => True | _ => False
abbrev HG : List V → V | [.str a, .str b] => hv (a, b) | _ => .tup []
theorem p_law5_h : ∀ base w0, PrimOk PG base w0 f_law5_h (outP (RV HPre HG)) := by
  obtain ⟨N, hN⟩ := someN
  refine primRV (N := N) (l := [Row.fn f_law5_h fn_law5_h e_law5_h]) (.fn ok_law5_h e_law5_h_ok (.nil _)) 1 _ (fun vs H h => ?_) (fun vs h H hw τ => ?_)
  · unfold HPre at h; split at h
    · exact ⟨trivial, trivial, trivial⟩
    · exact h.elim
  · unfold HPre at h; split at h
    · obtain ⟨H', h1, h2⟩ := s_law5_h_ret (CR [Row.fn f_law5_h fn_law5_h e_law5_h] N 0) N _ _ H hw τ
      exact ⟨H', τ, h1, h2⟩
    · exact h.elim
theorem k_law5_h {c : CallK} (h : IsP c f_law5_h (RV HPre HG)) (a b : Bs) (H : Heap) (τ : Tape) (q : KV) : c f_law5_h [.str a, .str b] H τ q = q (hv (a, b)) H τ := RV_call h (vs := [.str a, .str b]) trivial H τ q
end Go.Am.X


namespace Go.Am.X
set_option linter.unusedSimpArgs false
set_option linter.unusedVariables false
set_option linter.unusedSectionVars false
set_option maxRecDepth 100000
theorem closedP_call {c : CallK} {f : Nat} (h : ∀ vs H τ q, c f vs H τ q = effK (closedP vs H τ) q) (H : Heap) (τ : Tape) (q : KV) : c f [] H τ q = q (.bool true) H τ := by rw [h]; rfl
end Go.Am.X


