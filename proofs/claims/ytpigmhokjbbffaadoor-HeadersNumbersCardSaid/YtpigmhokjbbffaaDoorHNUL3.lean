/- The abstract machine, printed functions of the program, and what they are shown to be. -/
import Derived.Test.YtpigmhokjbbffaaDoorHNUL2
import Derived.Test.YtpigmhokjbbffaaDoorHNUL1
namespace Go.Am.X
set_option linter.unusedSimpArgs false
set_option linter.unusedVariables false
set_option linter.unusedSectionVars false
set_option maxRecDepth 100000
/-- the same of headers.Add -/
theorem k_headers_Add {c : CallK} (h : IsP c f_headers_Add (RH AddPre AddG)) {hs : List Hd} (hl : hs.length ≤ 1000000) {n v : Bs} (hn : n.length < 9223372036854775807) (hv' : v.length < 9223372036854775807) {lv : V} {H : Heap} (hw : WF H) (hr : RdH H lv hs) (τ : Tape) :
    ∃ r H' τ', Gr H.size H H' ∧ (addE n v hs.length = 0 → LsH H' H.size r (hs ++ [(n, valT v)])) ∧ (addE n v hs.length ≠ 0 → r = .nils) ∧ ∀ q, c f_headers_Add [lv, .str n, .str v] H τ q = q (.tup [r, .int .i64 (addE n v hs.length)]) H' τ' := by
  by_cases he : addE n v hs.length = 0
  · obtain ⟨r, H', τ', h1, h2, h3, h4⟩ := RH_lst (v := lv) (l := [.str n, .str v]) h hr ⟨hl, hn, hv'⟩ (if_pos he) hw (by rw [hcells_length]; simp) τ
    refine ⟨r, H', τ', h3, fun _ => ⟨by simpa using h1, fun e => by simp at e⟩, fun h => absurd he h, fun q => ?_⟩
    rw [h4, he]
  · have h4 := fun q => RH_val (v := lv) (l := [.str n, .str v]) h hr ⟨hl, hn, hv'⟩ (if_neg he) τ q
    exact ⟨.nils, H, τ, Gr.refl hw, fun h => absurd h he, fun _ => rfl, h4⟩
/-- both Set -/
theorem k_Set {c : CallK} {f : Nat} {Pre : List Hd → List V → Prop} (h : IsP c f (RH Pre SetG)) {hs : List Hd} {n v : Bs} (hp : Pre hs [.str n, .str v]) {lv : V} {H : Heap} (hw : WF H) (hr : RdH H lv hs) (τ : Tape) :
    ∃ r H' τ', Gr H.size H H' ∧ (setE n v hs = 0 → LsH H' H.size r (setT n v hs)) ∧ (setE n v hs ≠ 0 → r = .nils) ∧ ∀ q, c f [lv, .str n, .str v] H τ q = q (.tup [r, .int .i64 (setE n v hs)]) H' τ' := by
  by_cases he : setE n v hs = 0
  · obtain ⟨r, H', τ', h1, h2, h3, h4⟩ := RH_lst (v := lv) (l := [.str n, .str v]) h hr hp (if_pos he) hw (by rw [hcells_length]) τ
    refine ⟨r, H', τ', h3, fun _ => ⟨h1, fun e => absurd e (setT_ne n v hs)⟩, fun h => absurd he h, fun q => ?_⟩
    rw [h4, he]
  · have h4 := fun q => RH_val (v := lv) (l := [.str n, .str v]) h hr hp (if_neg he) τ q
    exact ⟨.nils, H, τ, Gr.refl hw, fun h => absurd h he, fun _ => rfl, h4⟩
theorem RdH.nils {H : Heap} {hs : List Hd} (h : RdH H .nils hs) : hs = [] := by
  rcases h.1 with ⟨_, h0, _⟩ | ⟨_, _, _, _, _, e, _⟩
  · exact List.eq_nil_of_length_eq_zero h0
  · cases e
theorem RdH.mkNil (H : Heap) : RdH H .nils [] := ⟨.inl ⟨.inl rfl, rfl, rfl⟩, trivial⟩
theorem eq_hd (x : Hd) : pEq true (.flat [.str, .str]) [hv x, hv x] = some (.bool false) := by
  simp [pEq, hv, eqV, eqFlat, eqS, eqB_eq]
theorem l_book_Same_Header (c : CallK) (N : Nat) (a b : V) (hs : List Hd) (hl : hs.length ≤ 1000000) (H : Heap) (ha : RdH H a hs) (hb : RdH H b hs) :
    ∀ (l pre : List Hd) (fr : T V) (τ : Tape) (m : Nat), hs = pre ++ l → l.length < m → fr.get 0 = some a → fr.get 1 = some b → fr.get 5 = some (.int .i64 (pre.length : Int)) →
    ∀ k, loopK (s_book_Same_Header_l1 c N) m ⟨fr, H⟩ τ k = k (.exit 0) ⟨.leaf, H⟩ τ := by
  intro l
  induction l with
  | nil =>
    intro pre fr τ m he hm f0 f1 f5 k
    obtain ⟨m, rfl⟩ : ∃ j, m = j + 1 := ⟨m - 1, by omega⟩
    have e1 : decide (pre.length < hs.length) = false := decide_eq_false (by rw [he]; simp)
    rw [loopK_succ]
    simp only [s_book_Same_Header_l1, getK_mk f0, getK_mk f1, getK_mk f5, ha.1.pLen, getK_set, ↓reduceIte, Nat.reduceEqDiff, someK_n, effK_n, retK, gK_do, gK_do', gK_skip, gK_skip', gK_none, pick_mk, cond_true, cond_false, condK_tn, condK_fn, bin_eql, bin_neq, bin_lss, bin_leq, bin_gtr, bin_geq, un_not, Bool.not_true, Bool.not_false, bin_str, lenS_mk, nle_l, nle_r, nle_n, nlt_l, nlt_r, nlt_n, neq_r, neq_n, nne_r, nne_n, ext0, ext1, ext30, ext31, ext32, bin_add, bin_sub, decide_true, decide_false, e1]
    rfl
  | cons x l ih =>
    intro pre fr τ m he hm f0 f1 f5 k
    obtain ⟨m, rfl⟩ : ∃ j, m = j + 1 := ⟨m - 1, by omega⟩
    have hlt : pre.length < hs.length := by rw [he]; simp
    have e1 : decide (pre.length < hs.length) = true := decide_eq_true hlt
    have e3 : wr .i64 ((pre.length : Int) + Int.ofNat 1) = ((pre ++ [x]).length : Int) := by rw [adI (by omega)]; simp
    obtain ⟨id, o, p1, p2⟩ := hd_at (v := a) pre x l (H := H) (by rw [← he]; exact ha.1)
    have q1 := (p2 H (by rw [← he]; exact ha.1)).1
    obtain ⟨id', o', p3, p4⟩ := hd_at (v := b) pre x l (H := H) (by rw [← he]; exact hb.1)
    have q3 := (p4 H (by rw [← he]; exact hb.1)).1
    rw [loopK_succ]
    simp only [s_book_Same_Header_l1, getK_mk f0, getK_mk f1, getK_mk f5, ha.1.pLen, getK_set, ↓reduceIte, Nat.reduceEqDiff, someK_n, effK_n, retK, gK_do, gK_do', gK_skip, gK_skip', gK_none, pick_mk, cond_true, cond_false, condK_tn, condK_fn, bin_eql, bin_neq, bin_lss, bin_leq, bin_gtr, bin_geq, un_not, Bool.not_true, Bool.not_false, bin_str, lenS_mk, nle_l, nle_r, nle_n, nlt_l, nlt_r, nlt_n, neq_r, neq_n, nne_r, nne_n, ext0, ext1, ext30, ext31, ext32, bin_add, bin_sub, decide_true, decide_false, e1, p1, q1, p3, q3, eq_hd, e3]
    exact ih (pre ++ [x]) _ τ m (by rw [he]; simp) (by simp at hm; omega) (by simp [T.get_set]) (by simp [T.get_set]) (by simp [T.get_set]) k
theorem s_book_Same_Header_ret (c : CallK) {N : Nat} (hN : 9223372036854775807 < N) (a b : V) (hs : List Hd) (hl : hs.length ≤ 1000000) (H : Heap) (ha : RdH H a hs) (hb : RdH H b hs) (τ : Tape) (q : KV) : s_book_Same_Header c N a b H τ q = q (.bool true) H τ := by
  have e1 : ((hs.length : Int) != (hs.length : Int)) = false := by simp
  simp only [s_book_Same_Header, ha.1.pLen, hb.1.pLen, someK_n, bin_neq, e1, condK_fn]
  rw [l_book_Same_Header c N a b hs hl H ha hb hs [] _ τ N rfl (by omega) (by simp [T.get_set]) (by simp [T.get_set]) (by simp [T.get_set])]
  simp only [blockK, Nat.beq_refl, cond_true, seqK, s_book_Same_Header_j0]
def SameR (vs : List V) (H : Heap) (o : Out) : Prop := ∃ a b hs, vs = [a, b] ∧ RdH H a hs ∧ RdH H b hs ∧ hs.length ≤ 1000000 ∧ o = .val (.bool true)
theorem SameR_fun : Fun1 SameR := by
  rintro vs H o o' ⟨_, _, _, _, _, _, _, rfl⟩ ⟨_, _, _, _, _, _, _, rfl⟩; rfl
theorem p_book_Same_Header : ∀ base w0, PrimOk PG base w0 f_book_Same_Header (outP SameR) := by
  obtain ⟨N, hN⟩ := someN
  refine primOk_out mixed_ok (l := [Row.fn f_book_Same_Header fn_book_Same_Header e_book_Same_Header]) (.fn ok_book_Same_Header e_book_Same_Header_ok (.nil _)) N 1 _ ?_
  rintro vs H o hw hvs ⟨a, b, hs, rfl, ha, hb, hl, rfl⟩ τ
  exact ⟨_, H, τ, s_book_Same_Header_ret (CR [Row.fn f_book_Same_Header fn_book_Same_Header e_book_Same_Header] N 0) hN a b hs hl H ha hb τ retK, Gr.refl hw, rfl, trivial⟩
theorem k_book_Same_Header {c : CallK} (h : IsP c f_book_Same_Header SameR) {a b : V} {hs : List Hd} (hl : hs.length ≤ 1000000) {H : Heap} (ha : RdH H a hs) (hb : RdH H b hs) (τ : Tape) (q : KV) : c f_book_Same_Header [a, b] H τ q = q (.bool true) H τ :=
  outK_val h SameR_fun ⟨a, b, hs, rfl, ha, hb, hl, rfl⟩ τ q
abbrev HPre : List V → Prop | [.str _, .str _] => True | _ => False
abbrev HG : List V → V | [.str a, .str b] => hv (a, b) | _ => .tup []
theorem p_law5_h : ∀ base w0, PrimOk PG base w0 f_law5_h (outP (RV HPre HG)) := by
  obtain ⟨N, hN⟩ := someN
  refine primRV (N := N) (l := [Row.fn f_law5_h fn_law5_h e_law5_h]) (.fn ok_law5_h e_law5_h_ok (.nil _)) 1 _ (fun vs H h => ?_) (fun vs h H hw τ => ?_)
  · unfold HPre at h; split at h
    · exact ⟨trivial, trivial, trivial⟩
    · exact h.elim
  · unfold HPre at h; split at h
    · obtain ⟨H', h1, h2⟩ := s_law5_h_ret (CR [Row.fn f_law5_h fn_law5_h e_law5_h] N 0) N _ _ H hw τ
      exact ⟨H', τ, h1, h2⟩
    · exact h.elim
theorem k_law5_h {c : CallK} (h : IsP c f_law5_h (RV HPre HG)) (a b : Bs) (H : Heap) (τ : Tape) (q : KV) : c f_law5_h [.str a, .str b] H τ q = q (hv (a, b)) H τ := RV_call h (vs := [.str a, .str b]) trivial H τ q
end Go.Am.X


namespace Go.Am.X
set_option linter.unusedSimpArgs false
set_option linter.unusedVariables false
set_option linter.unusedSectionVars false
set_option maxRecDepth 100000
theorem closedP_call {c : CallK} {f : Nat} (h : ∀ vs H τ q, c f vs H τ q = effK (closedP vs H τ) q) (H : Heap) (τ : Tape) (q : KV) : c f [] H τ q = q (.bool true) H τ := by rw [h]; rfl
end Go.Am.X


namespace Go.Am.X
set_option linter.unusedSimpArgs false
set_option linter.unusedVariables false
set_option linter.unusedSectionVars false
set_option maxRecDepth 100000
theorem repl_hd (n : Nat) : repl n [V.str [], V.str []] = hcells (List.replicate n (([], []) : Hd)) := by
  induction n with
  | zero => rfl
  | succ n ih =>
    rw [List.replicate_succ, hcells_cons, ← ih]
    unfold repl
    rw [List.replicate_succ, List.flatten_cons]; rfl
end Go.Am.X


namespace Go.Am.X
set_option linter.unusedSimpArgs false
set_option linter.unusedVariables false
set_option linter.unusedSectionVars false
set_option maxRecDepth 100000
def partV (x : UInt8) (s : Bs) : V := match cutB x s with | some (a, b) => .tup [.str a, .str b, .bool true] | none => .tup [.str s, .str [], .bool false]
theorem partV_vok (x : UInt8) (s : Bs) (H : Heap) : VOk H (partV x s) := by
  unfold partV; split <;> exact ⟨trivial, trivial, trivial, trivial⟩
def begB (s p : Bs) : Bool := p.isPrefixOf s
theorem isPrefixOf_take : ∀ (s p : Bs), p.isPrefixOf s = (decide (p.length ≤ s.length) && (s.take p.length == p)) := by
  intro s p
  induction p generalizing s with
  | nil => simp
  | cons y p ih =>
    cases s with
    | nil => rfl
    | cons x s =>
      rw [List.isPrefixOf, ih s]
      simp only [List.length_cons, List.take_succ_cons]
      have e1 : decide (p.length + 1 ≤ s.length + 1) = decide (p.length ≤ s.length) := by simp
      have e2 : (x :: List.take p.length s == y :: p) = (x == y && (List.take p.length s == p)) := rfl
      have e3 : (y == x) = (x == y) := BEq.comm
      rw [e1, e2, e3]
      cases (x == y) <;> cases decide (p.length ≤ s.length) <;> simp
abbrev intV (s : Bs) : V := .tup [.int .i64 (intB s).1, .bool (intB s).2]
abbrev IntR := RS 9223372036854775806 intV
abbrev RStripR := RS 9223372036854775806 fun s => .str (strip s)
end Go.Am.X


namespace Go.Am.X
set_option linter.unusedSimpArgs false
set_option linter.unusedVariables false
set_option linter.unusedSectionVars false
set_option maxRecDepth 100000
def RdS (H : Heap) (v : V) (ss : List Bs) : Prop := Rd H 1 v ss.length (ss.map V.str) ∧ Src H v
theorem RdS.gr {H H' : Heap} {B : Nat} {v : V} {ss : List Bs} (h : RdS H v ss) (hg : Gr B H H') (hw : WF H) (hB : H.size ≤ B) : RdS H' v ss := ⟨h.1.gr hg hw hB, h.2.gr hg hw hB⟩
theorem strs_vok (H : Heap) (ss : List Bs) : VsOk H (ss.map V.str) := by
  induction ss with
  | nil => trivial
  | cons h l ih => exact ⟨trivial, ih⟩
/-- a list of texts of a run's own, nil where it has nothing -/
def LsS (H : Heap) (B : Nat) (v : V) (ss : List Bs) : Prop := Own H B 1 v ss.length (ss.map V.str) ∧ (ss = [] → v = .nils)
theorem LsS.nil (H : Heap) (B : Nat) : LsS H B .nils [] := ⟨Own.nil _ _ _, fun _ => rfl⟩
theorem LsS.gr {H H' : Heap} {B C : Nat} {v : V} {ss : List Bs} (h : LsS H B v ss) (hg : Gr C H H') (hw : WF H) (hC : H.size ≤ C) : LsS H' B v ss := ⟨h.1.gr hg hw hC, h.2⟩
theorem LsS.got {H : Heap} {B : Nat} {v : V} {ss : List Bs} (h : LsS H B v ss) : Got H B 1 v ss.length (ss.map V.str) := h.1.apd.got
theorem LsS.met {H H' : Heap} {v : V} {ss : List Bs} {mk : V → V} (h : LsS H' H.size v ss) (hmk : MkOk mk) (hnil : VOk H (mk .nils)) : (lstO 1 ss.length (ss.map V.str) mk).Met H (mk v) H' :=
  Got.met h.got (fun h0 => h.2 (List.eq_nil_of_length_eq_zero h0)) hmk (strs_vok _ _) hnil
theorem Small.pre {a b : List Hd} (h : Small (a ++ b)) : Small a := ⟨by have := h.len; simp at this; omega, fun x hx => h.all x (by simp [hx])⟩
abbrev getV (name : Bs) (hs : List Hd) : V := .tup [.str (getT name hs), .bool (decide (0 < (sel name hs).length))]
theorem k_Get {c : CallK} {f : Nat} (h : IsP c f (RH GetPre GetG)) {hs : List Hd} (hS : Small hs) {name : Bs} (hm : name.length ≤ 140737488355328) {lv : V} {H : Heap} (hr : RdH H lv hs) (τ : Tape) (q : KV) : c f [lv, .str name] H τ q = q (getV name hs) H τ :=
  RH_val (l := [.str name]) h hr ⟨hS, hm⟩ rfl τ q
abbrev SplitG (_ : Bool) (hs : List Hd) : List V → Out | [.str name] => lstO 1 (splitT name hs).length ((splitT name hs).map V.str) (fun v => .tup [v, .bool (decide (0 < (sel name hs).length))]) | _ => .val (.tup [])
theorem p_headers_Split : ∀ base w0, PrimOk PG base w0 f_headers_Split (outP (RH GetPre SplitG)) := by
  refine primOk_E 6 _ ?_
  rintro vs H o hw hvs ⟨v, l, hs, rfl, ⟨h1, h2⟩, hp, rfl⟩ τ
  unfold GetPre at hp
  split at hp
  · rename_i name
    by_cases h0 : 0 < (sel name hs).length
    · obtain ⟨v', H', τ', k1, _, k2, k3⟩ := d_headers_Split nb 6 (by omega) name hp.2 hp.1 v H hw h1 τ
      refine ⟨_, H', τ', k3 retK, k2, ?_⟩
      have eT : splitT name hs = piecesB (getT name hs) := if_pos h0
      exact LsS.met ⟨k1, fun h => by rw [eT] at h; simp [piecesB] at h⟩ (mkOk_bool _) ⟨trivial, trivial, trivial⟩
    · have e0 : decide (0 < (sel name hs).length) = false := decide_eq_false h0
      have eT : splitT name hs = [] := if_neg h0
      obtain ⟨H', τ', g, k⟩ := d20' nb 5 (by omega) name hp.2 hp.1 v H hw h1 τ
      refine ⟨.tup [.nils, .bool false], H', τ', ?_, g, ?_⟩
      · show s_headers_Split (C NB 5) NB v (.str name) H τ retK = _
        simp only [s_headers_Split, k, getK_set, ↓reduceIte, Nat.reduceEqDiff, someK_n, effK_n, retK, gK_do, gK_do', gK_skip, gK_skip', gK_none, pick_mk, cond_true, cond_false, condK_tn, condK_fn, bin_eql, bin_neq, bin_lss, bin_leq, bin_gtr, bin_geq, un_not, Bool.not_true, Bool.not_false, bin_str, lenS_mk, nle_l, nle_r, nle_n, nlt_l, nlt_r, nlt_n, neq_r, neq_n, nne_r, nne_n, ext0, ext1, ext30, ext31, ext32, bin_add, bin_sub, decide_true, decide_false, e0]
      · show (lstO 1 (splitT name hs).length ((splitT name hs).map V.str) (fun v => V.tup [v, .bool (decide (0 < (sel name hs).length))])).Met H _ H'
        rw [eT, e0]; exact ⟨rfl, trivial, trivial, trivial⟩
  · exact hp.elim
theorem k_Split {c : CallK} {f : Nat} (h : IsP c f (RH GetPre SplitG)) {hs : List Hd} (hS : Small hs) {name : Bs} (hm : name.length ≤ 140737488355328) {lv : V} {H : Heap} (hw : WF H) (hr : RdH H lv hs) (τ : Tape) :
    ∃ v' H' τ', Own H' H.size 1 v' (splitT name hs).length ((splitT name hs).map V.str) ∧ Gr H.size H H' ∧ ∀ q, c f [lv, .str name] H τ q = q (.tup [v', .bool (decide (0 < (sel name hs).length))]) H' τ' :=
  RH_lstO (l := [.str name]) h hr ⟨hS, hm⟩ rfl hw (by simp) τ
end Go.Am.X


namespace Go.Am.X
set_option linter.unusedSimpArgs false
set_option linter.unusedVariables false
set_option linter.unusedSectionVars false
set_option maxRecDepth 100000
def toldB (s : Bs) : Int × Bool := if s = [] then (-1, true) else intB s
def bytesEq : Bs := [98, 121, 116, 101, 115, 61]
end Go.Am.X


namespace Go.Am.X
set_option linter.unusedSimpArgs false
set_option linter.unusedVariables false
set_option linter.unusedSectionVars false
set_option maxRecDepth 100000
theorem s_stringslite_HasPrefix_ret (c : CallK) (N : Nat) (s p : Bs) (H : Heap) (τ : Tape) (q : KV) : s_stringslite_HasPrefix c N (.str s) (.str p) H τ q = q (.bool (begB s p)) H τ := by
  unfold begB
  rw [isPrefixOf_take]
  by_cases h : p.length ≤ s.length
  · have e1 : decide (p.length ≤ s.length) = true := decide_eq_true h
    have s1 : pStrSlice false true [.str s, .int .i64 (p.length : Int)] = some (.str (s.take p.length)) := strSlice_hi h
    simp only [s_stringslite_HasPrefix, getK_set, ↓reduceIte, Nat.reduceEqDiff, someK_n, effK_n, retK, gK_do, gK_do', gK_skip, gK_skip', gK_none, pick_mk, cond_true, cond_false, condK_tn, condK_fn, bin_eql, bin_neq, bin_lss, bin_leq, bin_gtr, bin_geq, un_not, Bool.not_true, Bool.not_false, bin_str, lenS_mk, nle_l, nle_r, nle_n, nlt_l, nlt_r, nlt_n, neq_r, neq_n, nne_r, nne_n, ext0, ext1, ext30, ext31, ext32, bin_add, bin_sub, decide_true, decide_false, e1, s1, str_eql, Bool.true_and]
  · have e1 : decide (p.length ≤ s.length) = false := decide_eq_false h
    simp only [s_stringslite_HasPrefix, getK_set, ↓reduceIte, Nat.reduceEqDiff, someK_n, effK_n, retK, gK_do, gK_do', gK_skip, gK_skip', gK_none, pick_mk, cond_true, cond_false, condK_tn, condK_fn, bin_eql, bin_neq, bin_lss, bin_leq, bin_gtr, bin_geq, un_not, Bool.not_true, Bool.not_false, bin_str, lenS_mk, nle_l, nle_r, nle_n, nlt_l, nlt_r, nlt_n, neq_r, neq_n, nne_r, nne_n, ext0, ext1, ext30, ext31, ext32, bin_add, bin_sub, decide_true, decide_false, e1, Bool.false_and]
abbrev BegOk (c : CallK) (f : Nat) : Prop := ∀ (s p : Bs) (H : Heap) (τ : Tape) (q : KV), c f [.str s, .str p] H τ q = q (.bool (begB s p)) H τ
theorem s_strings_HasPrefix_ret (c : CallK) (N : Nat) (h : BegOk c f_stringslite_HasPrefix) (s p : Bs) (H : Heap) (τ : Tape) (q : KV) : s_strings_HasPrefix c N (.str s) (.str p) H τ q = q (.bool (begB s p)) H τ := by
  simp only [s_strings_HasPrefix, h s p]
def cutpV (s p : Bs) : V := bif begB s p then .tup [.str (s.drop p.length), .bool true] else .tup [.str s, .bool false]
theorem begB_len {s p : Bs} (h : begB s p = true) : p.length ≤ s.length := by
  unfold begB at h; rw [isPrefixOf_take, Bool.and_eq_true] at h; exact of_decide_eq_true h.1
theorem s_stringslite_CutPrefix_ret (c : CallK) (N : Nat) (h : BegOk c f_stringslite_HasPrefix) (s p : Bs) (H : Heap) (τ : Tape) (q : KV) : s_stringslite_CutPrefix c N (.str s) (.str p) H τ q = q (cutpV s p) H τ := by
  unfold cutpV
  cases hb : begB s p with
  | true =>
    have e2 : pStrSlice true false [.str s, .int .i64 (p.length : Int)] = some (.str (s.drop p.length)) := strSlice_lo (begB_len hb)
    simp only [s_stringslite_CutPrefix, h s p, hb, getK_set, ↓reduceIte, Nat.reduceEqDiff, someK_n, effK_n, retK, gK_do, gK_do', gK_skip, gK_skip', gK_none, pick_mk, cond_true, cond_false, condK_tn, condK_fn, bin_eql, bin_neq, bin_lss, bin_leq, bin_gtr, bin_geq, un_not, Bool.not_true, Bool.not_false, bin_str, lenS_mk, nle_l, nle_r, nle_n, nlt_l, nlt_r, nlt_n, neq_r, neq_n, nne_r, nne_n, ext0, ext1, ext30, ext31, ext32, bin_add, bin_sub, decide_true, decide_false, e2]
  | false => simp only [s_stringslite_CutPrefix, h s p, hb, getK_set, ↓reduceIte, Nat.reduceEqDiff, someK_n, effK_n, retK, gK_do, gK_do', gK_skip, gK_skip', gK_none, pick_mk, cond_true, cond_false, condK_tn, condK_fn, bin_eql, bin_neq, bin_lss, bin_leq, bin_gtr, bin_geq, un_not, Bool.not_true, Bool.not_false, bin_str, lenS_mk, nle_l, nle_r, nle_n, nlt_l, nlt_r, nlt_n, neq_r, neq_n, nne_r, nne_n, ext0, ext1, ext30, ext31, ext32, bin_add, bin_sub, decide_true, decide_false]
abbrev CutpOk (c : CallK) (f : Nat) : Prop := ∀ (s p : Bs) (H : Heap) (τ : Tape) (q : KV), c f [.str s, .str p] H τ q = q (cutpV s p) H τ
theorem s_strings_CutPrefix_ret (c : CallK) (N : Nat) (h : CutpOk c f_stringslite_CutPrefix) (s p : Bs) (H : Heap) (τ : Tape) (q : KV) : s_strings_CutPrefix c N (.str s) (.str p) H τ q = q (cutpV s p) H τ := by
  simp only [s_strings_CutPrefix, h s p]
  unfold cutpV
  cases begB s p <;> simp only [getK_set, ↓reduceIte, Nat.reduceEqDiff, someK_n, effK_n, retK, gK_do, gK_do', gK_skip, gK_skip', gK_none, pick_mk, cond_true, cond_false, condK_tn, condK_fn, bin_eql, bin_neq, bin_lss, bin_leq, bin_gtr, bin_geq, un_not, Bool.not_true, Bool.not_false, bin_str, lenS_mk, nle_l, nle_r, nle_n, nlt_l, nlt_r, nlt_n, neq_r, neq_n, nne_r, nne_n, ext0, ext1, ext30, ext31, ext32, bin_add, bin_sub, decide_true, decide_false]
abbrev CutPre : List V → Prop | [.str s, .str [_]] => s.length < 9223372036854775807 | _ => False
abbrev CutG : List V → V | [.str s, .str [x]] => partV x s | _ => .tup []
abbrev CutR := RV CutPre CutG
theorem p_strings_Cut : ∀ base w0, PrimOk PG base w0 f_strings_Cut (outP CutR) := by
  refine primOk_E 4 _ ?_
  rintro vs H o hw hvs ⟨hp, rfl⟩ τ
  unfold CutPre at hp; split at hp
  · rename_i s x
    exact ⟨_, H, τ, d_strings_Cut nb 4 (by omega) x s hp H τ retK, Gr.refl hw, rfl, partV_vok x s H⟩
  · exact hp.elim
abbrev RCutOk (c : CallK) : Prop := ∀ (s : Bs) (x : UInt8), s.length < 9223372036854775807 → ∀ H τ q, c f_strings_Cut [.str s, .str [x]] H τ q = q (partV x s) H τ
theorem k_strings_Cut {c : CallK} (h : IsP c f_strings_Cut CutR) : RCutOk c := fun s x hs H τ q => RV_call h (vs := [.str s, .str [x]]) hs H τ q
theorem p_infra_Int : ∀ base w0, PrimOk PG base w0 f_infra_Int (outP IntR) := primS 1 _ _ _ (fun _ _ => ⟨trivial, trivial, trivial⟩) fun s hs H hw τ => ⟨H, τ, Gr.refl hw, fun q => d_infra_Int nb 1 (by omega) s (by omega) H τ q⟩
abbrev NIntOk (c : CallK) : Prop := ∀ (s : Bs), s.length ≤ 9223372036854775806 → ∀ H τ q, c f_infra_Int [.str s] H τ q = q (intV s) H τ
theorem k_infra_Int {c : CallK} (h : IsP c f_infra_Int IntR) : NIntOk c := fun s hs H τ q => callS h s hs H τ q
theorem p_infra_Strip : ∀ base w0, PrimOk PG base w0 f_infra_Strip (outP RStripR) := primS 4 _ _ _ (fun _ _ => trivial) fun s hs H hw τ => by
  obtain ⟨H', τ', g, k⟩ := d42' nb 4 (by omega) s (by omega) H hw τ
  exact ⟨H', τ', g, k⟩
abbrev NStripOk (c : CallK) : Prop := ∀ (s : Bs), s.length ≤ 9223372036854775806 → ∀ H τ q, c f_infra_Strip [.str s] H τ q = q (.str (strip s)) H τ
theorem k_infra_Strip {c : CallK} (h : IsP c f_infra_Strip RStripR) : NStripOk c := fun s hs H τ q => callS h s hs H τ q
/-- two numbers, told or not, as a range -/
def rngAB (a b : Int × Bool) : Int × Int × Bool :=
  bif (a.2 && b.2) && (!(decide (a.1 < 0) && decide (b.1 < 0)) && !(decide (0 ≤ a.1) && (decide (0 ≤ b.1) && decide (b.1 < a.1)))) then (a.1, b.1, true) else (0, 0, false)
def rng (s : Bs) : Int × Int × Bool := bif begB s bytesEq then (match cutB 45 (s.drop 6) with | some (a, b) => rngAB (toldB a) (toldB b) | none => (0, 0, false)) else (0, 0, false)
abbrev rngV (s : Bs) : V := .tup [.int .i64 (rng s).1, .int .i64 (rng s).2.1, .bool (rng s).2.2]
abbrev ToldOk (c : CallK) : Prop := ∀ (s : Bs), s.length ≤ 9223372036854775806 → ∀ H τ q, c f_headers_told [.str s] H τ q = q (.tup [.int .i64 (toldB s).1, .bool (toldB s).2]) H τ
theorem s_headers_told_gen (c : CallK) (N : Nat) (h : NIntOk c) (s : Bs) (hs : s.length ≤ 9223372036854775806) (H : Heap) (τ : Tape) (q : KV) : s_headers_told c N (.str s) H τ q = q (.tup [.int .i64 (toldB s).1, .bool (toldB s).2]) H τ := by
  unfold toldB
  by_cases e : s = []
  · subst e
    have e : (([] : Bs) == []) = true := rfl
    simp only [s_headers_told, getK_set, ↓reduceIte, Nat.reduceEqDiff, someK_n, effK_n, retK, gK_do, gK_do', gK_skip, gK_skip', gK_none, pick_mk, cond_true, cond_false, condK_tn, condK_fn, bin_eql, bin_neq, bin_lss, bin_leq, bin_gtr, bin_geq, un_not, Bool.not_true, Bool.not_false, bin_str, lenS_mk, nle_l, nle_r, nle_n, nlt_l, nlt_r, nlt_n, neq_r, neq_n, nne_r, nne_n, ext0, ext1, ext30, ext31, ext32, bin_add, bin_sub, decide_true, decide_false, str_eql, e, if_true]
    rfl
  · have e' : (s == ([] : Bs)) = false := beq_eq_false_iff_ne.2 e
    simp only [s_headers_told, getK_set, ↓reduceIte, Nat.reduceEqDiff, someK_n, effK_n, retK, gK_do, gK_do', gK_skip, gK_skip', gK_none, pick_mk, cond_true, cond_false, condK_tn, condK_fn, bin_eql, bin_neq, bin_lss, bin_leq, bin_gtr, bin_geq, un_not, Bool.not_true, Bool.not_false, bin_str, lenS_mk, nle_l, nle_r, nle_n, nlt_l, nlt_r, nlt_n, neq_r, neq_n, nne_r, nne_n, ext0, ext1, ext30, ext31, ext32, bin_add, bin_sub, decide_true, decide_false, str_eql, e', if_neg e, h s hs]
theorem cutB_len (x : UInt8) : ∀ (s a b : Bs), cutB x s = some (a, b) → a.length + b.length + 1 = s.length := by
  intro s a b h
  have := ((cutB_spec x s).2 a b h).1
  rw [this]; simp; omega
set_option maxHeartbeats 2000000 in
theorem s_headers_Range_gen (c : CallK) (N : Nat) (hP : CutpOk c f_strings_CutPrefix) (hC : RCutOk c) (hT : ToldOk c) (s : Bs) (hs : s.length ≤ 9223372036854775806) (H : Heap) (τ : Tape) (q : KV) : s_headers_Range c N (.str s) H τ q = q (rngV s) H τ := by
  have k1 := fun H τ q => hP s bytesEq H τ q
  have eb : bs [98, 121, 116, 101, 115, 61] = bytesEq := rfl
  have e45 : bs [45] = [45] := rfl
  have fin : ∀ (a b : Int × Bool) (q : KV), s_headers_Range c N (.str s) H τ q = s_headers_Range c N (.str s) H τ q := fun _ _ _ => rfl
  unfold rngV rng
  unfold cutpV at k1
  cases hb : begB s bytesEq with
  | false =>
    rw [hb] at k1
    have k2 := hC s 45 (by omega)
    unfold partV at k2
    cases hc : cutB 45 s with
    | none =>
      rw [hc] at k2
      simp only [s_headers_Range, eb, e45, k1, cond_false, getK_set, ↓reduceIte, Nat.reduceEqDiff, someK_n, effK_n, retK, gK_do, gK_do', gK_skip, gK_skip', gK_none, pick_mk, cond_true, cond_false, condK_tn, condK_fn, bin_eql, bin_neq, bin_lss, bin_leq, bin_gtr, bin_geq, un_not, Bool.not_true, Bool.not_false, bin_str, lenS_mk, nle_l, nle_r, nle_n, nlt_l, nlt_r, nlt_n, neq_r, neq_n, nne_r, nne_n, ext0, ext1, ext30, ext31, ext32, bin_add, bin_sub, decide_true, decide_false, k2, hT s hs, hT [] (by simp)]
      rfl
    | some ab =>
      obtain ⟨a, b⟩ := ab
      have hl := cutB_len 45 s a b hc
      rw [hc] at k2
      simp only [s_headers_Range, eb, e45, k1, cond_false, getK_set, ↓reduceIte, Nat.reduceEqDiff, someK_n, effK_n, retK, gK_do, gK_do', gK_skip, gK_skip', gK_none, pick_mk, cond_true, cond_false, condK_tn, condK_fn, bin_eql, bin_neq, bin_lss, bin_leq, bin_gtr, bin_geq, un_not, Bool.not_true, Bool.not_false, bin_str, lenS_mk, nle_l, nle_r, nle_n, nlt_l, nlt_r, nlt_n, neq_r, neq_n, nne_r, nne_n, ext0, ext1, ext30, ext31, ext32, bin_add, bin_sub, decide_true, decide_false, k2, hT a (by omega), hT b (by omega)]
      rfl
  | true =>
    rw [hb] at k1
    have hd : (s.drop 6).length ≤ s.length := by rw [List.length_drop]; omega
    have k2 := hC (s.drop 6) 45 (by omega)
    have e6 : s.drop bytesEq.length = s.drop 6 := rfl
    unfold partV at k2
    cases hc : cutB 45 (s.drop 6) with
    | none =>
      rw [hc] at k2
      simp only [s_headers_Range, eb, e45, k1, cond_true, getK_set, ↓reduceIte, Nat.reduceEqDiff, someK_n, effK_n, retK, gK_do, gK_do', gK_skip, gK_skip', gK_none, pick_mk, cond_true, cond_false, condK_tn, condK_fn, bin_eql, bin_neq, bin_lss, bin_leq, bin_gtr, bin_geq, un_not, Bool.not_true, Bool.not_false, bin_str, lenS_mk, nle_l, nle_r, nle_n, nlt_l, nlt_r, nlt_n, neq_r, neq_n, nne_r, nne_n, ext0, ext1, ext30, ext31, ext32, bin_add, bin_sub, decide_true, decide_false, e6, k2, hT (s.drop 6) (by omega), hT [] (by simp)]
      rfl
    | some ab =>
      obtain ⟨a, b⟩ := ab
      have hl := cutB_len 45 _ a b hc
      rw [hc] at k2
      have kA := hT a (by omega)
      have kB := hT b (by omega)
      simp only [cond_true]
      generalize toldB a = ta at kA ⊢
      generalize toldB b = tb at kB ⊢
      obtain ⟨fa, ba⟩ := ta
      obtain ⟨fb, bb⟩ := tb
      simp only at kA kB
      unfold rngAB
      have z1 : decide (fa < Int.ofNat 0) = decide (fa < 0) := rfl
      have z2 : decide (fb < Int.ofNat 0) = decide (fb < 0) := rfl
      have z3 : decide (Int.ofNat 0 ≤ fa) = decide (0 ≤ fa) := rfl
      have z4 : decide (Int.ofNat 0 ≤ fb) = decide (0 ≤ fb) := rfl
      have z5 : ∀ (q : V → Ans), binK .gtr (.int .i64 fa) (.int .i64 fb) q = q (.bool (decide (fb < fa))) := fun q => bin_gtr _ _ _ _
      have d3 : decide (0 ≤ fa) = !decide (fa < 0) := by by_cases h : fa < 0 <;> simp [h] <;> omega
      have d4 : decide (0 ≤ fb) = !decide (fb < 0) := by by_cases h : fb < 0 <;> simp [h] <;> omega
      rw [d3] at z3
      rw [d4] at z4
      rw [d3, d4]
      simp only [s_headers_Range, eb, e45, k1, cond_true, getK_set, ↓reduceIte, Nat.reduceEqDiff, someK_n, effK_n, retK, gK_do, gK_do', gK_skip, gK_skip', gK_none, pick_mk, cond_true, cond_false, condK_tn, condK_fn, bin_eql, bin_neq, bin_lss, bin_leq, bin_gtr, bin_geq, un_not, Bool.not_true, Bool.not_false, bin_str, lenS_mk, nle_l, nle_r, nle_n, nlt_l, nlt_r, nlt_n, neq_r, neq_n, nne_r, nne_n, ext0, ext1, ext30, ext31, ext32, bin_add, bin_sub, decide_true, decide_false, e6, k2, kA, kB]
      cases ba <;> cases bb <;> simp only [getK_set, ↓reduceIte, Nat.reduceEqDiff, someK_n, effK_n, retK, gK_do, gK_do', gK_skip, gK_skip', gK_none, pick_mk, cond_true, cond_false, condK_tn, condK_fn, bin_eql, bin_neq, bin_lss, bin_leq, bin_gtr, bin_geq, un_not, Bool.not_true, Bool.not_false, bin_str, lenS_mk, nle_l, nle_r, nle_n, nlt_l, nlt_r, nlt_n, neq_r, neq_n, nne_r, nne_n, ext0, ext1, ext30, ext31, ext32, bin_add, bin_sub, decide_true, decide_false] <;> cases d1 : decide (fa < 0) <;> cases d2 : decide (fb < 0) <;> cases d5 : decide (fb < fa) <;>
        (simp only [getK_set, ↓reduceIte, Nat.reduceEqDiff, someK_n, effK_n, retK, gK_do, gK_do', gK_skip, gK_skip', gK_none, pick_mk, cond_true, cond_false, condK_tn, condK_fn, bin_eql, bin_neq, bin_lss, bin_leq, bin_gtr, bin_geq, un_not, Bool.not_true, Bool.not_false, bin_str, lenS_mk, nle_l, nle_r, nle_n, nlt_l, nlt_r, nlt_n, neq_r, neq_n, nne_r, nne_n, ext0, ext1, ext30, ext31, ext32, bin_add, bin_sub, decide_true, decide_false, z1, z2, z3, z4, z5, d1, d2, d5]; rfl)
abbrev RngR := RS 9223372036854775806 rngV
theorem rngV_vok (s : Bs) (H : Heap) : VOk H (rngV s) := ⟨trivial, trivial, trivial, trivial⟩
noncomputable abbrev rw_HRange : List Row := [Row.fn f_headers_Range fn_headers_Range e_headers_Range, Row.fn f_strings_CutPrefix fn_strings_CutPrefix e_strings_CutPrefix, Row.fn f_stringslite_CutPrefix fn_stringslite_CutPrefix e_stringslite_CutPrefix, Row.fn f_stringslite_HasPrefix fn_stringslite_HasPrefix e_stringslite_HasPrefix, Row.fn f_headers_told fn_headers_told e_headers_told, Row.prim f_strings_Cut (outP CutR), Row.prim f_infra_Int (outP IntR)]
theorem p_headers_Range : ∀ base w0, PrimOk PG base w0 f_headers_Range (outP RngR) := by
  obtain ⟨N, hN⟩ := someN
  refine primRV (N := N) (l := rw_HRange) (.fn ok_headers_Range e_headers_Range_ok (.fn ok_strings_CutPrefix e_strings_CutPrefix_ok (.fn ok_stringslite_CutPrefix e_stringslite_CutPrefix_ok (.fn ok_stringslite_HasPrefix e_stringslite_HasPrefix_ok (.fn ok_headers_told e_headers_told_ok (.prim p_strings_Cut (.prim p_infra_Int (.nil _)))))))) 4 _ (fun vs H h => ?_) (fun vs h H hw τ => ?_)
  · unfold strP at h; split at h
    · exact rngV_vok _ _
    · exact h.elim
  · unfold strP at h; split at h
    · exact ⟨H, τ, Gr.refl hw, fun q => s_headers_Range_gen (CR rw_HRange N 3) N (fun s p H τ q => s_strings_CutPrefix_ret (CR rw_HRange N 2) N (fun s p H τ q => s_stringslite_CutPrefix_ret (CR rw_HRange N 1) N (fun s p H τ q => s_stringslite_HasPrefix_ret (CR rw_HRange N 0) N s p H τ q) s p H τ q) s p H τ q) (k_strings_Cut fun _ _ _ _ => rfl) (fun s hs H τ q => s_headers_told_gen (CR rw_HRange N 2) N (k_infra_Int fun _ _ _ _ => rfl) s hs H τ q) _ h H τ q⟩
    · exact h.elim
abbrev RngOk (c : CallK) (f : Nat) : Prop := ∀ (s : Bs), s.length ≤ 9223372036854775806 → ∀ H τ q, c f [.str s] H τ q = q (rngV s) H τ
theorem k_Range {c : CallK} {f : Nat} (h : IsP c f RngR) : RngOk c f := fun s hs H τ q => callS h s hs H τ q
def forbT : List Bs := [[104, 111, 115, 116], [99, 111, 111, 107, 105, 101], [111, 114, 105, 103, 105, 110], [114, 101, 102, 101, 114, 101, 114], [99, 111, 110, 116, 101, 110, 116, 45, 108, 101, 110, 103, 116, 104], [99, 111, 110, 110, 101, 99, 116, 105, 111, 110], [100, 97, 116, 101], [118, 105, 97], [116, 101], [117, 112, 103, 114, 97, 100, 101], [101, 120, 112, 101, 99, 116], [100, 110, 116], [97, 99, 99, 101, 112, 116, 45, 99, 104, 97, 114, 115, 101, 116], [97, 99, 99, 101, 112, 116, 45, 101, 110, 99, 111, 100, 105, 110, 103], [97, 99, 99, 101, 115, 115, 45, 99, 111, 110, 116, 114, 111, 108, 45, 114, 101, 113, 117, 101, 115, 116, 45, 104, 101, 97, 100, 101, 114, 115], [97, 99, 99, 101, 115, 115, 45, 99, 111, 110, 116, 114, 111, 108, 45, 114, 101, 113, 117, 101, 115, 116, 45, 109, 101, 116, 104, 111, 100], [107, 101, 101, 112, 45, 97, 108, 105, 118, 101], [116, 114, 97, 105, 108, 101, 114], [116, 114, 97, 110, 115, 102, 101, 114, 45, 101, 110, 99, 111, 100, 105, 110, 103]]
def forbB (name : Bs) : Bool := forbT.contains (lower name) || (begB (lower name) [112, 114, 111, 120, 121, 45] || begB (lower name) [115, 101, 99, 45])
abbrev NLowOk (c : CallK) : Prop := ∀ (s : Bs), s.length ≤ 140737488355328 → ∀ H τ q, c f_infra_Lower [.str s] H τ q = q (.str (lower s)) H τ
theorem k_infra_Lower {c : CallK} (h : IsP c f_infra_Lower LowR) : NLowOk c := fun s hs H τ q => callS h s hs H τ q
theorem s_headers_Forbidden_ret (c : CallK) (N : Nat) (hL : NLowOk c) (hB : BegOk c f_strings_HasPrefix) (s : Bs) (hs : s.length ≤ 140737488355328) (H : Heap) (τ : Tape) (q : KV) : s_headers_Forbidden c N (.str s) H τ q = q (.bool (forbB s)) H τ := by
  unfold forbB forbT
  generalize hn : lower s = n
  have k1 := fun H τ q => (hL s hs H τ q).trans (by rw [hn])
  simp only [List.contains_cons, List.contains_nil, Bool.or_false]
  have j0 : ∀ (fr : T V) (H : Heap) (τ : Tape), fr.get 0 = some (.str n) → s_headers_Forbidden_j0 c N q ⟨fr, H⟩ τ = q (.bool (begB n [112, 114, 111, 120, 121, 45] || begB n [115, 101, 99, 45])) H τ := by
    intro fr H τ f0
    have b1 := hB n (bs [112, 114, 111, 120, 121, 45])
    have b2 := hB n (bs [115, 101, 99, 45])
    have eA : bs [112, 114, 111, 120, 121, 45] = [112, 114, 111, 120, 121, 45] := rfl
    have eB : bs [115, 101, 99, 45] = [115, 101, 99, 45] := rfl
    rw [eA] at b1
    rw [eB] at b2
    cases h1 : begB n [112, 114, 111, 120, 121, 45] <;> simp only [s_headers_Forbidden_j0, getK_mk f0, eA, eB, b1, getK_set, ↓reduceIte, Nat.reduceEqDiff, someK_n, effK_n, retK, gK_do, gK_do', gK_skip, gK_skip', gK_none, pick_mk, cond_true, cond_false, condK_tn, condK_fn, bin_eql, bin_neq, bin_lss, bin_leq, bin_gtr, bin_geq, un_not, Bool.not_true, Bool.not_false, bin_str, lenS_mk, nle_l, nle_r, nle_n, nlt_l, nlt_r, nlt_n, neq_r, neq_n, nne_r, nne_n, ext0, ext1, ext30, ext31, ext32, bin_add, bin_sub, decide_true, decide_false, b2, h1, Bool.true_or, Bool.false_or]
  have j1t : ∀ (fr : T V) (H : Heap) (τ : Tape), fr.get 0 = some (.str n) → fr.get 6 = some (.bool true) → s_headers_Forbidden_j1 c N q ⟨fr, H⟩ τ = q (.bool true) H τ := by
    intro fr H τ f0 f6
    simp only [s_headers_Forbidden_j1, getK_mk f0, getK_mk f6, getK_set, ↓reduceIte, Nat.reduceEqDiff, someK_n, effK_n, retK, gK_do, gK_do', gK_skip, gK_skip', gK_none, pick_mk, cond_true, cond_false, condK_tn, condK_fn, bin_eql, bin_neq, bin_lss, bin_leq, bin_gtr, bin_geq, un_not, Bool.not_true, Bool.not_false, bin_str, lenS_mk, nle_l, nle_r, nle_n, nlt_l, nlt_r, nlt_n, neq_r, neq_n, nne_r, nne_n, ext0, ext1, ext30, ext31, ext32, bin_add, bin_sub, decide_true, decide_false]
  have j1f : ∀ (fr : T V) (H : Heap) (τ : Tape), fr.get 0 = some (.str n) → fr.get 6 = some (.bool false) → s_headers_Forbidden_j1 c N q ⟨fr, H⟩ τ = q (.bool (begB n [112, 114, 111, 120, 121, 45] || begB n [115, 101, 99, 45])) H τ := by
    intro fr H τ f0 f6
    simp only [s_headers_Forbidden_j1, getK_mk f0, getK_mk f6, getK_set, ↓reduceIte, Nat.reduceEqDiff, someK_n, effK_n, retK, gK_do, gK_do', gK_skip, gK_skip', gK_none, pick_mk, cond_true, cond_false, condK_tn, condK_fn, bin_eql, bin_neq, bin_lss, bin_leq, bin_gtr, bin_geq, un_not, Bool.not_true, Bool.not_false, bin_str, lenS_mk, nle_l, nle_r, nle_n, nlt_l, nlt_r, nlt_n, neq_r, neq_n, nne_r, nne_n, ext0, ext1, ext30, ext31, ext32, bin_add, bin_sub, decide_true, decide_false]
    exact j0 _ _ _ (by simp [T.get_set])
  have c0 : bs [104, 111, 115, 116] = [104, 111, 115, 116] := rfl
  have c1 : bs [99, 111, 111, 107, 105, 101] = [99, 111, 111, 107, 105, 101] := rfl
  have c2 : bs [111, 114, 105, 103, 105, 110] = [111, 114, 105, 103, 105, 110] := rfl
  have c3 : bs [114, 101, 102, 101, 114, 101, 114] = [114, 101, 102, 101, 114, 101, 114] := rfl
  have c4 : bs [99, 111, 110, 116, 101, 110, 116, 45, 108, 101, 110, 103, 116, 104] = [99, 111, 110, 116, 101, 110, 116, 45, 108, 101, 110, 103, 116, 104] := rfl
  have c5 : bs [99, 111, 110, 110, 101, 99, 116, 105, 111, 110] = [99, 111, 110, 110, 101, 99, 116, 105, 111, 110] := rfl
  have c6 : bs [100, 97, 116, 101] = [100, 97, 116, 101] := rfl
  have c7 : bs [118, 105, 97] = [118, 105, 97] := rfl
  have c8 : bs [116, 101] = [116, 101] := rfl
  have c9 : bs [117, 112, 103, 114, 97, 100, 101] = [117, 112, 103, 114, 97, 100, 101] := rfl
  have c10 : bs [101, 120, 112, 101, 99, 116] = [101, 120, 112, 101, 99, 116] := rfl
  have c11 : bs [100, 110, 116] = [100, 110, 116] := rfl
  have c12 : bs [97, 99, 99, 101, 112, 116, 45, 99, 104, 97, 114, 115, 101, 116] = [97, 99, 99, 101, 112, 116, 45, 99, 104, 97, 114, 115, 101, 116] := rfl
  have c13 : bs [97, 99, 99, 101, 112, 116, 45, 101, 110, 99, 111, 100, 105, 110, 103] = [97, 99, 99, 101, 112, 116, 45, 101, 110, 99, 111, 100, 105, 110, 103] := rfl
  have c14 : bs [97, 99, 99, 101, 115, 115, 45, 99, 111, 110, 116, 114, 111, 108, 45, 114, 101, 113, 117, 101, 115, 116, 45, 104, 101, 97, 100, 101, 114, 115] = [97, 99, 99, 101, 115, 115, 45, 99, 111, 110, 116, 114, 111, 108, 45, 114, 101, 113, 117, 101, 115, 116, 45, 104, 101, 97, 100, 101, 114, 115] := rfl
  have c15 : bs [97, 99, 99, 101, 115, 115, 45, 99, 111, 110, 116, 114, 111, 108, 45, 114, 101, 113, 117, 101, 115, 116, 45, 109, 101, 116, 104, 111, 100] = [97, 99, 99, 101, 115, 115, 45, 99, 111, 110, 116, 114, 111, 108, 45, 114, 101, 113, 117, 101, 115, 116, 45, 109, 101, 116, 104, 111, 100] := rfl
  have c16 : bs [107, 101, 101, 112, 45, 97, 108, 105, 118, 101] = [107, 101, 101, 112, 45, 97, 108, 105, 118, 101] := rfl
  have c17 : bs [116, 114, 97, 105, 108, 101, 114] = [116, 114, 97, 105, 108, 101, 114] := rfl
  have c18 : bs [116, 114, 97, 110, 115, 102, 101, 114, 45, 101, 110, 99, 111, 100, 105, 110, 103] = [116, 114, 97, 110, 115, 102, 101, 114, 45, 101, 110, 99, 111, 100, 105, 110, 103] := rfl
  simp only [s_headers_Forbidden, k1, bin_str, str_eql, someK_n, c0, c1, c2, c3, c4, c5, c6, c7, c8, c9, c10, c11, c12, c13, c14, c15, c16, c17, c18]
  cases h0 : (n == ([104, 111, 115, 116] : Bs)) with
  | true =>
    simp only [condK_tn, Bool.true_or]
    exact j1t _ _ _ (by simp [T.get_set]) (by simp [T.get_set])
  | false =>
  simp only [condK_fn, Bool.false_or]
  cases h1 : (n == ([99, 111, 111, 107, 105, 101] : Bs)) with
  | true =>
    simp only [condK_tn, Bool.true_or]
    exact j1t _ _ _ (by simp [T.get_set]) (by simp [T.get_set])
  | false =>
  simp only [condK_fn, Bool.false_or]
  cases h2 : (n == ([111, 114, 105, 103, 105, 110] : Bs)) with
  | true =>
    simp only [condK_tn, Bool.true_or]
    exact j1t _ _ _ (by simp [T.get_set]) (by simp [T.get_set])
  | false =>
  simp only [condK_fn, Bool.false_or]
  cases h3 : (n == ([114, 101, 102, 101, 114, 101, 114] : Bs)) with
  | true =>
    simp only [condK_tn, Bool.true_or]
    exact j1t _ _ _ (by simp [T.get_set]) (by simp [T.get_set])
  | false =>
  simp only [condK_fn, Bool.false_or]
  cases h4 : (n == ([99, 111, 110, 116, 101, 110, 116, 45, 108, 101, 110, 103, 116, 104] : Bs)) with
  | true =>
    simp only [condK_tn, Bool.true_or]
    exact j1t _ _ _ (by simp [T.get_set]) (by simp [T.get_set])
  | false =>
  simp only [condK_fn, Bool.false_or]
  cases h5 : (n == ([99, 111, 110, 110, 101, 99, 116, 105, 111, 110] : Bs)) with
  | true =>
    simp only [condK_tn, Bool.true_or]
    exact j1t _ _ _ (by simp [T.get_set]) (by simp [T.get_set])
  | false =>
  simp only [condK_fn, Bool.false_or]
  cases h6 : (n == ([100, 97, 116, 101] : Bs)) with
  | true =>
    simp only [condK_tn, Bool.true_or]
    exact j1t _ _ _ (by simp [T.get_set]) (by simp [T.get_set])
  | false =>
  simp only [condK_fn, Bool.false_or]
  cases h7 : (n == ([118, 105, 97] : Bs)) with
  | true =>
    simp only [condK_tn, Bool.true_or]
    exact j1t _ _ _ (by simp [T.get_set]) (by simp [T.get_set])
  | false =>
  simp only [condK_fn, Bool.false_or]
  cases h8 : (n == ([116, 101] : Bs)) with
  | true =>
    simp only [condK_tn, Bool.true_or]
    exact j1t _ _ _ (by simp [T.get_set]) (by simp [T.get_set])
  | false =>
  simp only [condK_fn, Bool.false_or]
  cases h9 : (n == ([117, 112, 103, 114, 97, 100, 101] : Bs)) with
  | true =>
    simp only [condK_tn, Bool.true_or]
    exact j1t _ _ _ (by simp [T.get_set]) (by simp [T.get_set])
  | false =>
  simp only [condK_fn, Bool.false_or]
  cases h10 : (n == ([101, 120, 112, 101, 99, 116] : Bs)) with
  | true =>
    simp only [condK_tn, Bool.true_or]
    exact j1t _ _ _ (by simp [T.get_set]) (by simp [T.get_set])
  | false =>
  simp only [condK_fn, Bool.false_or]
  cases h11 : (n == ([100, 110, 116] : Bs)) with
  | true =>
    simp only [condK_tn, Bool.true_or]
    exact j1t _ _ _ (by simp [T.get_set]) (by simp [T.get_set])
  | false =>
  simp only [condK_fn, Bool.false_or]
  cases h12 : (n == ([97, 99, 99, 101, 112, 116, 45, 99, 104, 97, 114, 115, 101, 116] : Bs)) with
  | true =>
    simp only [condK_tn, Bool.true_or]
    exact j1t _ _ _ (by simp [T.get_set]) (by simp [T.get_set])
  | false =>
  simp only [condK_fn, Bool.false_or]
  cases h13 : (n == ([97, 99, 99, 101, 112, 116, 45, 101, 110, 99, 111, 100, 105, 110, 103] : Bs)) with
  | true =>
    simp only [condK_tn, Bool.true_or]
    exact j1t _ _ _ (by simp [T.get_set]) (by simp [T.get_set])
  | false =>
  simp only [condK_fn, Bool.false_or]
  cases h14 : (n == ([97, 99, 99, 101, 115, 115, 45, 99, 111, 110, 116, 114, 111, 108, 45, 114, 101, 113, 117, 101, 115, 116, 45, 104, 101, 97, 100, 101, 114, 115] : Bs)) with
  | true =>
    simp only [condK_tn, Bool.true_or]
    exact j1t _ _ _ (by simp [T.get_set]) (by simp [T.get_set])
  | false =>
  simp only [condK_fn, Bool.false_or]
  cases h15 : (n == ([97, 99, 99, 101, 115, 115, 45, 99, 111, 110, 116, 114, 111, 108, 45, 114, 101, 113, 117, 101, 115, 116, 45, 109, 101, 116, 104, 111, 100] : Bs)) with
  | true =>
    simp only [condK_tn, Bool.true_or]
    exact j1t _ _ _ (by simp [T.get_set]) (by simp [T.get_set])
  | false =>
  simp only [condK_fn, Bool.false_or]
  cases h16 : (n == ([107, 101, 101, 112, 45, 97, 108, 105, 118, 101] : Bs)) with
  | true =>
    simp only [condK_tn, Bool.true_or]
    exact j1t _ _ _ (by simp [T.get_set]) (by simp [T.get_set])
  | false =>
  simp only [condK_fn, Bool.false_or]
  cases h17 : (n == ([116, 114, 97, 105, 108, 101, 114] : Bs)) with
  | true =>
    simp only [condK_tn, Bool.true_or]
    exact j1t _ _ _ (by simp [T.get_set]) (by simp [T.get_set])
  | false =>
  simp only [condK_fn, Bool.false_or]
  cases h18 : (n == ([116, 114, 97, 110, 115, 102, 101, 114, 45, 101, 110, 99, 111, 100, 105, 110, 103] : Bs)) with
  | true =>
    simp only [Bool.true_or]
    exact j1t _ _ _ (by simp [T.get_set]) (by simp [T.get_set])
  | false =>
    simp only [Bool.false_or]
    exact j1f _ _ _ (by simp [T.get_set]) (by simp [T.get_set])
abbrev ForbR := RS 140737488355328 fun s => .bool (forbB s)
noncomputable abbrev rw_HForb : List Row := [Row.fn f_headers_Forbidden fn_headers_Forbidden e_headers_Forbidden, Row.fn f_strings_HasPrefix fn_strings_HasPrefix e_strings_HasPrefix, Row.fn f_stringslite_HasPrefix fn_stringslite_HasPrefix e_stringslite_HasPrefix, Row.prim f_infra_Lower (outP LowR)]
theorem p_headers_Forbidden : ∀ base w0, PrimOk PG base w0 f_headers_Forbidden (outP ForbR) := by
  obtain ⟨N, hN⟩ := someN
  refine primRV (N := N) (l := rw_HForb) (.fn ok_headers_Forbidden e_headers_Forbidden_ok (.fn ok_strings_HasPrefix e_strings_HasPrefix_ok (.fn ok_stringslite_HasPrefix e_stringslite_HasPrefix_ok (.prim p_infra_Lower (.nil _))))) 3 _ (fun vs H h => ?_) (fun vs h H hw τ => ?_)
  · unfold strP at h; split at h
    · trivial
    · exact h.elim
  · unfold strP at h; split at h
    · exact ⟨H, τ, Gr.refl hw, fun q => s_headers_Forbidden_ret (CR rw_HForb N 2) N (k_infra_Lower fun _ _ _ _ => rfl) (fun s p H τ q => s_strings_HasPrefix_ret (CR rw_HForb N 1) N (fun s p H τ q => s_stringslite_HasPrefix_ret (CR rw_HForb N 0) N s p H τ q) s p H τ q) _ h H τ q⟩
    · exact h.elim
theorem k_Forbidden {c : CallK} {f : Nat} (h : IsP c f ForbR) (s : Bs) (hs : s.length ≤ 140737488355328) (H : Heap) (τ : Tape) (q : KV) : c f [.str s] H τ q = q (.bool (forbB s)) H τ := callS h s hs H τ q
end Go.Am.X


