/- The abstract machine, printed functions of the program, and what they are shown to be. -/
import Derived.Test.YtlpedafppdffoaaGreatDoorFSHL2
import Derived.Test.YtlpedafppdffoaaGreatDoorFSHM4
set_option linter.unusedSimpArgs false
set_option linter.unusedVariables false
set_option linter.unusedSectionVars false
set_option maxRecDepth 100000
namespace Go.Am.X
def RdS (H : Heap) (v : V) (ss : List Bs) : Prop := Rd H 1 v ss.length (ss.map V.str) ∧ Src H v
theorem RdS.uniq {H : Heap} {v : V} {a b : List Bs} (h : RdS H v a) (k : RdS H v b) : a = b := strs_inj (h.1.uniq k.1).2
theorem RdS.gr {H H' : Heap} {B : Nat} {v : V} {ss : List Bs} (h : RdS H v ss) (hg : Gr B H H') (hw : WF H) (hB : H.size ≤ B) : RdS H' v ss := ⟨h.1.gr hg hw hB, h.2.gr hg hw hB⟩
theorem strs_vok (H : Heap) (ss : List Bs) : VsOk H (ss.map V.str) := by
 induction ss with
 | nil => trivial
 | cons h l ih => exact ⟨trivial, ih⟩
theorem strs_scal (ss : List Bs) : (ss.map V.str).all V.scal = true := by
 induction ss with
 | nil => rfl
 | cons h l ih => rw [List.map_cons, List.all_cons, ih]; rfl
def LsS (H : Heap) (B : Nat) (v : V) (ss : List Bs) : Prop := Own H B 1 v ss.length (ss.map V.str) ∧ (ss = [] → v = .nils)
theorem LsS.nil (H : Heap) (B : Nat) : LsS H B .nils [] := ⟨Own.nil _ _ _, fun _ => rfl⟩
theorem LsS.gr {H H' : Heap} {B C : Nat} {v : V} {ss : List Bs} (h : LsS H B v ss) (hg : Gr C H H') (hw : WF H) (hC : H.size ≤ C) : LsS H' B v ss := ⟨h.1.gr hg hw hC, h.2⟩
theorem LsS.rdS {H : Heap} {B : Nat} {v : V} {ss : List Bs} (h : LsS H B v ss) : RdS H v ss := ⟨h.1.rd, h.1.src⟩
theorem LsS.weaken {H : Heap} {B C : Nat} {v : V} {ss : List Bs} (h : LsS H C v ss) (hBC : B ≤ C) : LsS H B v ss := by
 refine ⟨?_, h.2⟩
 rcases h.1 with h | ⟨id, e, room, fam, ver, pl, st, fr, h1, h2, h3, h4, h5, h6, h7⟩
 ·exact .inl h
 ·exact .inr ⟨id, e, room, fam, ver, pl, st, fr, h1, h2, h3, h4, Nat.le_trans hBC h5, Nat.le_trans hBC h6, h7⟩
theorem LsS.put {H : Heap} {B : Nat} {v : V} {ss : List Bs} (h : LsS H B v ss) (hw : WF H) (hB : B ≤ H.size) (x : Bs) (hn : ss.length ≤ 4294967296) (τ : Tape) :
  ∃ w H1 v' H' τ', eBuildSlice 1 1 [(.str [])] [(0, 1)] [.str x] H τ = some (w, H1, τ) ∧ eAppend 1 16 [v, w] H1 τ = some (v', H', τ') ∧ LsS H' B v' (ss ++ [x]) ∧ Gr B H H' := by
 obtain ⟨w, H1, v', H', r1, r2, r3, r4, _⟩ := h.1.push (bytes := 16) hw hB (.str x) (.str []) rfl rfl (by omega) (by omega) τ
 refine ⟨w, H1, v', H', τ.tail, r1, r2, ⟨by simpa using r3, fun h => by simp at h⟩, r4⟩
theorem LsS.got {H : Heap} {B : Nat} {v : V} {ss : List Bs} (h : LsS H B v ss) : Got H B 1 v ss.length (ss.map V.str) := h.1.apd.got
theorem LsS.met {H H' : Heap} {v : V} {ss : List Bs} {mk : V → V} (h : LsS H' H.size v ss) (hmk : MkOk mk) (hnil : VOk H (mk .nils)) : (lstO 1 ss.length (ss.map V.str) mk).Met H (mk v) H' :=
 Got.met h.got (fun h0 => h.2 (List.eq_nil_of_length_eq_zero h0)) hmk (strs_vok _ _) hnil
theorem Small.pre {a b : List Hd} (h : Small (a ++ b)) : Small a := ⟨by have := h.len; simp at this; omega, fun x hx => h.all x (by simp [hx])⟩
theorem sel_snoc (name : Bs) (pre : List Hd) (x : Hd) : sel name (pre ++ [x]) = sel name pre ++ (if named name x = true then [x.2] else []) := by
 unfold sel
 rw [List.filter_append, List.map_append]
 congr 1
 unfold named
 cases h : (lower x.1 == lower name) <;> simp [h]
theorem l_ref5_Get (c : CallK) (N : Nat) (hNm : RNamedOk c) (name : Bs) (hm : name.length ≤ 140737488355328) (hs : List Hd) (hS : Small hs) (lv : V) (H : Heap) (hr : RdH H lv hs) : ∀ (l pre : List Hd) (τ : Tape) (m : Nat), hs = pre ++ l → l.length < m →
  ∀ (fr : T V) k, fr.get 0 = some lv → fr.get 1 = some (.str name) → fr.get 6 = some (.str (getT name pre)) → fr.get 7 = some (.bool (decide (0 < (sel name pre).length))) → fr.get 8 = some (.int .i64 (pre.length : Int)) →
  loopK (s_ref5_Get_l1 c N) m ⟨fr, H⟩ τ k = k (.exit 0) ⟨(T.set (T.set .leaf 6 (.str (getT name hs))) 7 (.bool (decide (0 < (sel name hs).length)))), H⟩ τ := by
 intro l
 induction l with
 | nil =>
  intro pre τ m he hmm fr k f0 f1 f6 f7 f8
  obtain ⟨m, rfl⟩ : ∃ j, m = j + 1 := ⟨m - 1, by omega⟩
  have e1 : decide (pre.length < hs.length) = false := decide_eq_false (by rw [he]; simp)
  have ep : hs = pre := by rw [he, List.append_nil]
  rw [loopK_succ]
  simp only [s_ref5_Get_l1, getK_mk f0, getK_mk f1, getK_mk f6, getK_mk f7, getK_mk f8, hr.1.pLen, getK_set, ↓reduceIte, Nat.reduceEqDiff, someK_n, effK_n, retK, gK_do, gK_do', gK_skip, gK_skip', gK_none, pick_mk, cond_true, cond_false, condK_tn, condK_fn, bin_eql, bin_neq, bin_lss, bin_leq, bin_gtr, bin_geq, un_not, Bool.not_true, Bool.not_false, bin_str, lenS_mk, nle_l, nle_r, nle_n, nlt_l, nlt_r, nlt_n, neq_r, neq_n, nne_r, nne_n, ext0, ext1, ext30, ext31, ext32, bin_add, bin_sub, decide_true, decide_false, e1]
  rw [← ep]; rfl
 | cons x l ih =>
  intro pre τ m he hmm fr k f0 f1 f6 f7 f8
  obtain ⟨m, rfl⟩ : ∃ j, m = j + 1 := ⟨m - 1, by omega⟩
  have hlt : pre.length < hs.length := by rw [he]; simp
  have hl := hS.len
  have e1 : decide (pre.length < hs.length) = true := decide_eq_true hlt
  have e3 : wr .i64 ((pre.length : Int) + Int.ofNat 1) = ((pre ++ [x]).length : Int) := by rw [adI (by omega)]; simp
  obtain ⟨id, o, p1, p2⟩ := hd_at (v := lv) pre x l (H := H) (by rw [← he]; exact hr.1)
  obtain ⟨q1, q2, q3⟩ := p2 H (by rw [← he]; exact hr.1)
  have pf : pFieldAddr 1 [.ptr id o] = some (.ptr id (o + 1)) := rfl
  have hx := hS.all x (by rw [he]; simp)
  have kn := fun H τ q => hNm x name (by omega) hm H τ q
  have hg := getT_small (hs := pre) (Small.pre (b := x :: l) (by rw [← he]; exact hS)) name
  rw [loopK_succ]
  cases hb : named name x with
  | false =>
   have es : sel name (pre ++ [x]) = sel name pre := by rw [sel_snoc, hb]; simp
   have eg : getT name (pre ++ [x]) = getT name pre := by unfold getT; rw [es]
   simp only [s_ref5_Get_l1, getK_mk f0, getK_mk f1, getK_mk f6, getK_mk f7, getK_mk f8, hr.1.pLen, getK_set, ↓reduceIte, Nat.reduceEqDiff, someK_n, effK_n, retK, gK_do, gK_do', gK_skip, gK_skip', gK_none, pick_mk, cond_true, cond_false, condK_tn, condK_fn, bin_eql, bin_neq, bin_lss, bin_leq, bin_gtr, bin_geq, un_not, Bool.not_true, Bool.not_false, bin_str, lenS_mk, nle_l, nle_r, nle_n, nlt_l, nlt_r, nlt_n, neq_r, neq_n, nne_r, nne_n, ext0, ext1, ext30, ext31, ext32, bin_add, bin_sub, decide_true, decide_false, e1, p1, q1, kn, hb, s_ref5_Get_j2, e3]
   exact ih (pre ++ [x]) τ m (by rw [he]; simp) (by simp at hmm; omega) _ k (by simp [T.get_set]) (by simp [T.get_set]) (by simp [T.get_set, eg]) (by simp [T.get_set, es]) (by simp [T.get_set])
  | true =>
   have es : sel name (pre ++ [x]) = sel name pre ++ [x.2] := by rw [sel_snoc, hb]; simp
   have eg : getT name (pre ++ [x]) = (if 0 < (sel name pre).length then getT name pre ++ [44, 32] else getT name pre) ++ x.2 := by unfold getT; rw [es, joinB_snoc]
   have ed : decide (0 < (sel name (pre ++ [x])).length) = true := by rw [es]; simp
   have ec : bs [44, 32] = [44, 32] := rfl
   cases h0 : decide (0 < (sel name pre).length) with
   | true =>
    have h0' := of_decide_eq_true h0
    rw [if_pos h0'] at eg
    have a1 : strBin .add (getT name pre) [44, 32] = some (.str (getT name pre ++ [44, 32])) := str_add (by simp; omega)
    have a2 : strBin .add (getT name pre ++ [44, 32]) x.2 = some (.str (getT name (pre ++ [x]))) := by rw [eg]; exact str_add (by simp; omega)
    simp only [s_ref5_Get_l1, getK_mk f0, getK_mk f1, getK_mk f6, getK_mk f7, getK_mk f8, hr.1.pLen, getK_set, ↓reduceIte, Nat.reduceEqDiff, someK_n, effK_n, retK, gK_do, gK_do', gK_skip, gK_skip', gK_none, pick_mk, cond_true, cond_false, condK_tn, condK_fn, bin_eql, bin_neq, bin_lss, bin_leq, bin_gtr, bin_geq, un_not, Bool.not_true, Bool.not_false, bin_str, lenS_mk, nle_l, nle_r, nle_n, nlt_l, nlt_r, nlt_n, neq_r, neq_n, nne_r, nne_n, ext0, ext1, ext30, ext31, ext32, bin_add, bin_sub, decide_true, decide_false, e1, p1, q1, kn, hb, h0, ec, a1, s_ref5_Get_j3, pf, q3, a2, s_ref5_Get_j2, e3]
    exact ih (pre ++ [x]) τ m (by rw [he]; simp) (by simp at hmm; omega) _ k (by simp [T.get_set]) (by simp [T.get_set]) (by simp [T.get_set]) (by simp [T.get_set, ed]) (by simp [T.get_set])
   | false =>
    have h0' := of_decide_eq_false h0
    rw [if_neg h0'] at eg
    have a2 : strBin .add (getT name pre) x.2 = some (.str (getT name (pre ++ [x]))) := by rw [eg]; exact str_add (by omega)
    simp only [s_ref5_Get_l1, getK_mk f0, getK_mk f1, getK_mk f6, getK_mk f7, getK_mk f8, hr.1.pLen, getK_set, ↓reduceIte, Nat.reduceEqDiff, someK_n, effK_n, retK, gK_do, gK_do', gK_skip, gK_skip', gK_none, pick_mk, cond_true, cond_false, condK_tn, condK_fn, bin_eql, bin_neq, bin_lss, bin_leq, bin_gtr, bin_geq, un_not, Bool.not_true, Bool.not_false, bin_str, lenS_mk, nle_l, nle_r, nle_n, nlt_l, nlt_r, nlt_n, neq_r, neq_n, nne_r, nne_n, ext0, ext1, ext30, ext31, ext32, bin_add, bin_sub, decide_true, decide_false, e1, p1, q1, kn, hb, h0, ec, s_ref5_Get_j3, pf, q3, a2, s_ref5_Get_j2, e3]
    exact ih (pre ++ [x]) τ m (by rw [he]; simp) (by simp at hmm; omega) _ k (by simp [T.get_set]) (by simp [T.get_set]) (by simp [T.get_set]) (by simp [T.get_set, ed]) (by simp [T.get_set])
abbrev getV (name : Bs) (hs : List Hd) : V := .tup [.str (getT name hs), .bool (decide (0 < (sel name hs).length))]
theorem s_ref5_Get_ret (c : CallK) {N : Nat} (hN : 9223372036854775807 < N) (hNm : RNamedOk c) (name : Bs) (hm : name.length ≤ 140737488355328) (hs : List Hd) (hS : Small hs) (lv : V) (H : Heap) (hr : RdH H lv hs) (τ : Tape) (q : KV) : s_ref5_Get c N lv (.str name) H τ q = q (getV name hs) H τ := by
 have hl := hS.len
 simp only [s_ref5_Get]
 rw [l_ref5_Get c N hNm name hm hs hS lv H hr hs [] τ N rfl (by omega) _ _ (by simp [T.get_set]) (by simp [T.get_set]) (by simp [T.get_set]; rfl) (by simp [T.get_set]; rfl) (by simp [T.get_set])]
 simp only [blockK, Nat.beq_refl, cond_true, seqK, s_ref5_Get_j0, getK_set, ↓reduceIte, Nat.reduceEqDiff, someK_n, effK_n, retK, gK_do, gK_do', gK_skip, gK_skip', gK_none, pick_mk, cond_true, cond_false, condK_tn, condK_fn, bin_eql, bin_neq, bin_lss, bin_leq, bin_gtr, bin_geq, un_not, Bool.not_true, Bool.not_false, bin_str, lenS_mk, nle_l, nle_r, nle_n, nlt_l, nlt_r, nlt_n, neq_r, neq_n, nne_r, nne_n, ext0, ext1, ext30, ext31, ext32, bin_add, bin_sub, decide_true, decide_false]
noncomputable abbrev rw_RGet : List Row := [Row.fn f_ref5_Get fn_ref5_Get e_ref5_Get, Row.prim f_ref5_Named (outP RNamedR)]
theorem p_ref5_Get : ∀ base w0, PrimOk PG base w0 f_ref5_Get (outP (RH GetPre GetG)) := by
 obtain ⟨N, hN⟩ := someN
 refine primRH (N := N) (l := rw_RGet) (.fn ok_ref5_Get e_ref5_Get_ok (.prim p_ref5_Named (.nil _))) 2 _ (fun hs args hp lv H hw hr τ => ?_)
 unfold GetPre at hp; split at hp
 ·rename_i name
  exact ⟨_, H, τ, Gr.refl hw, ⟨rfl, trivial, trivial, trivial⟩, fun q => s_ref5_Get_ret (CR rw_RGet N 1) hN (k_ref5_Named fun _ _ _ _ => rfl) name hp.2 hs hp.1 lv H hr τ q⟩
 ·exact hp.elim
theorem k_Get {c : CallK} {f : Nat} (h : IsP c f (RH GetPre GetG)) {hs : List Hd} (hS : Small hs) {name : Bs} (hm : name.length ≤ 140737488355328) {lv : V} {H : Heap} (hr : RdH H lv hs) (τ : Tape) (q : KV) : c f [lv, .str name] H τ q = q (getV name hs) H τ :=
 RH_val (l := [.str name]) h hr ⟨hS, hm⟩ rfl τ q
theorem endT_eq : (fun x : UInt8 => endB true x.toNat) = tight := by
 funext x
 unfold endB tight
 simp only [List.contains_cons, List.contains_nil, Bool.or_false, u8beq, Bool.not_true, Bool.false_and]
 rfl
theorem l_ref5_Split (c : CallK) (N : Nat) (hT : RTrimOk c) (s : Bs) (hs : s.length < 4294967296) (B : Nat) : ∀ (m : Nat) (rest : Bs), rest.length ≤ m → ∀ (q : Bool) (pre cur : Bs) (i : Nat) (ov : V) (acc : List Bs) (n : Nat) (H : Heap) (τ : Tape), WF H → B ≤ H.size → s = pre ++ cur ++ rest → i = pre.length + cur.length → LsS H B ov acc → acc.length + rest.length < 4294967296 → rest.length + 1 < n →
  ∃ ov' H' τ', LsS H' B ov' (acc ++ ((splitF q cur rest).1 ++ [(splitF q cur rest).2]).map (trimB tight)) ∧ Gr B H H' ∧ ∀ (fr : T V) k, fr.get 6 = some (.str s) → fr.get 8 = some ov → fr.get 9 = some (.int .i64 (pre.length : Int)) → fr.get 10 = some (.bool q) → fr.get 11 = some (.int .i64 (i : Int)) →
   loopK (s_ref5_Split_l1 c N) n ⟨fr, H⟩ τ k = k (.exit 0) ⟨T.set .leaf 8 ov', H'⟩ τ' := by
 have hnil : ∀ (q : Bool) (pre cur : Bs) (i : Nat) (ov : V) (acc : List Bs) (n : Nat) (H : Heap) (τ : Tape), WF H → B ≤ H.size → s = pre ++ cur → i = pre.length + cur.length → LsS H B ov acc → acc.length < 4294967296 → 1 < n →
   ∃ ov' H' τ', LsS H' B ov' (acc ++ [trimB tight cur]) ∧ Gr B H H' ∧ ∀ (fr : T V) k, fr.get 6 = some (.str s) → fr.get 8 = some ov → fr.get 9 = some (.int .i64 (pre.length : Int)) → fr.get 10 = some (.bool q) → fr.get 11 = some (.int .i64 (i : Int)) →
    loopK (s_ref5_Split_l1 c N) n ⟨fr, H⟩ τ k = k (.exit 0) ⟨T.set .leaf 8 ov', H'⟩ τ' := by
  intro q pre cur i ov acc n H τ hw hB he hi ho ha hn
  obtain ⟨n, rfl⟩ : ∃ j, n = j + 2 := ⟨n - 2, by omega⟩
  have hl : i = s.length := by rw [he, hi]; simp
  have e1 : decide (i ≤ s.length) = true := decide_eq_true (by omega)
  have e2 : decide (i = s.length) = true := decide_eq_true hl
  have e3 : pStrSlice true true [.str s, .int .i64 (pre.length : Int), .int .i64 (i : Int)] = some (.str cur) := by
   rw [strSlice_lohi (by omega) (by omega), he, hi]
   have := drop_mid pre cur []
   rw [List.append_nil] at this
   rw [this]
  have k1 := hT cur true (by rw [he] at hs; simp at hs; omega)
  rw [endT_eq] at k1
  obtain ⟨w, H1, v', H', τ', r1, r2, r3, r4⟩ := ho.put hw hB (trimB tight cur) (by omega) τ
  have e4 : wr .i64 ((i : Int) + Int.ofNat 1) = ((i + 1 : Nat) : Int) := adI (by omega)
  have e5 : decide (i + 1 ≤ s.length) = false := decide_eq_false (by omega)
  refine ⟨v', H', τ', r3, r4, fun fr k f6 f8 f9 f10 f11 => ?_⟩
  rw [loopK_succ]
  simp only [s_ref5_Split_l1, getK_mk f6, getK_mk f8, getK_mk f9, getK_mk f10, getK_mk f11, getK_set, ↓reduceIte, Nat.reduceEqDiff, someK_n, effK_n, retK, gK_do, gK_do', gK_skip, gK_skip', gK_none, pick_mk, cond_true, cond_false, condK_tn, condK_fn, bin_eql, bin_neq, bin_lss, bin_leq, bin_gtr, bin_geq, un_not, Bool.not_true, Bool.not_false, bin_str, lenS_mk, nle_l, nle_r, nle_n, nlt_l, nlt_r, nlt_n, neq_r, neq_n, nne_r, nne_n, ext0, ext1, ext30, ext31, ext32, bin_add, bin_sub, decide_true, decide_false, e1, e2, e3, k1, r1, r2, e4, s_ref5_Split_j2, seqK]
  rw [loopK_succ]
  simp only [s_ref5_Split_l1, getK_set, ↓reduceIte, Nat.reduceEqDiff, someK_n, effK_n, retK, gK_do, gK_do', gK_skip, gK_skip', gK_none, pick_mk, cond_true, cond_false, condK_tn, condK_fn, bin_eql, bin_neq, bin_lss, bin_leq, bin_gtr, bin_geq, un_not, Bool.not_true, Bool.not_false, bin_str, lenS_mk, nle_l, nle_r, nle_n, nlt_l, nlt_r, nlt_n, neq_r, neq_n, nne_r, nne_n, ext0, ext1, ext30, ext31, ext32, bin_add, bin_sub, decide_true, decide_false, e5]
  rfl
 intro m
 induction m with
 | zero =>
  intro rest hm q pre cur i ov acc n H τ hw hB he hi ho ha hn
  obtain rfl := List.eq_nil_of_length_eq_zero (by omega : rest.length = 0)
  have := hnil q pre cur i ov acc n H τ hw hB (by simpa using he) hi ho (by simpa using ha) (by simpa using hn)
  simpa only [splitF, List.nil_append, List.map_cons, List.map_nil] using this
 | succ m ih =>
  intro rest hm q pre cur i ov acc n H τ hw hB he hi ho ha hn
  cases rest with
  | nil =>
   have := hnil q pre cur i ov acc n H τ hw hB (by simpa using he) hi ho (by simpa using ha) (by simpa using hn)
   simpa only [splitF, List.nil_append, List.map_cons, List.map_nil] using this
  | cons x r =>
   obtain ⟨n, rfl⟩ : ∃ j, n = j + 1 := ⟨n - 1, by omega⟩
   have hlen : s.length = i + (r.length + 1) := by rw [he, hi]; simp; omega
   have e1 : decide (i ≤ s.length) = true := decide_eq_true (by omega)
   have e2 : decide (i = s.length) = false := decide_eq_false (by omega)
   have ex : pStrIndex [.str s, .int .i64 (i : Int)] = some (.int .u8 (x.toNat : Int)) := strIndex_mk (by
    rw [he, hi, ← List.length_append, List.getElem?_append_right (Nat.le_refl _)]; simp)
   have e4 : wr .i64 ((i : Int) + Int.ofNat 1) = ((i + 1 : Nat) : Int) := adI (by omega)
   have hra : r.length ≤ m := by simp at hm; omega
   have hrn : r.length + 1 < n := by simp at hn; omega
   have hrb : acc.length + r.length < 4294967296 := by simp at ha; omega
   have step : ∀ (q' : Bool), splitF q cur (x :: r) = splitF q' (cur ++ [x]) r → ∃ ov' H' τ', LsS H' B ov' (acc ++ ((splitF q cur (x :: r)).1 ++ [(splitF q cur (x :: r)).2]).map (trimB tight)) ∧ Gr B H H' ∧ ∀ (fr : T V) k, fr.get 6 = some (.str s) → fr.get 8 = some ov → fr.get 9 = some (.int .i64 (pre.length : Int)) → fr.get 10 = some (.bool q') → fr.get 11 = some (.int .i64 ((i + 1 : Nat) : Int)) →
     loopK (s_ref5_Split_l1 c N) n ⟨fr, H⟩ τ k = k (.exit 0) ⟨T.set .leaf 8 ov', H'⟩ τ' := by
    intro q' hf
    rw [hf]
    exact ih r hra q' pre (cur ++ [x]) (i + 1) ov acc n H τ hw hB (by rw [he]; simp) (by simp; omega) ho hrb hrn
   have d44 : decide (x.toNat = 44) = decide (x = 44) := by rw [decide_eq_decide, ← UInt8.toNat_inj]; rfl
   have d92 : decide (x.toNat = 92) = decide (x = 92) := by rw [decide_eq_decide, ← UInt8.toNat_inj]; rfl
   have d34 : decide (x.toNat = 34) = decide (x = 34) := by rw [decide_eq_decide, ← UInt8.toNat_inj]; rfl
   by_cases c34 : x = 34
   ·have b34 : decide (x = 34) = true := decide_eq_true c34
    have b44 : decide (x = 44) = false := decide_eq_false (by rw [c34]; decide)
    have b92 : decide (x = 92) = false := decide_eq_false (by rw [c34]; decide)
    obtain ⟨ov', H', τ', i1, i2, i3⟩ := step (!q) (splitF_quote q cur r c34)
    refine ⟨ov', H', τ', i1, i2, fun fr k f6 f8 f9 f10 f11 => ?_⟩
    rw [loopK_succ]
    simp only [s_ref5_Split_l1, getK_mk f6, getK_mk f8, getK_mk f9, getK_mk f10, getK_mk f11, getK_set, ↓reduceIte, Nat.reduceEqDiff, someK_n, effK_n, retK, gK_do, gK_do', gK_skip, gK_skip', gK_none, pick_mk, cond_true, cond_false, condK_tn, condK_fn, bin_eql, bin_neq, bin_lss, bin_leq, bin_gtr, bin_geq, un_not, Bool.not_true, Bool.not_false, bin_str, lenS_mk, nle_l, nle_r, nle_n, nlt_l, nlt_r, nlt_n, neq_r, neq_n, nne_r, nne_n, ext0, ext1, ext30, ext31, ext32, bin_add, bin_sub, decide_true, decide_false, e1, e2, ex, d44, d92, d34, b34, b44, b92, e4, s_ref5_Split_j2]
    exact i3 _ k (by simp [T.get_set]) (by simp [T.get_set]) (by simp [T.get_set]) (by simp [T.get_set]) (by simp [T.get_set])
   ·have b34 : decide (x = 34) = false := decide_eq_false c34
    cases q with
    | true =>
     by_cases c92 : x = 92
     ·have b92 : decide (x = 92) = true := decide_eq_true c92
      have b44 : decide (x = 44) = false := decide_eq_false (by rw [c92]; decide)
      cases r with
      | nil =>
       have e5 : decide (s.length ≤ i + 1) = true := decide_eq_true (by simp at hlen; omega)
       have e6 : wr .i64 ((s.length : Int) - Int.ofNat 1) = (i : Int) := by
        have : s.length = i + 1 := by simp at hlen; omega
        rw [sbI (by omega) (by omega), this]; simp
       obtain ⟨ov', H', τ', i1, i2, i3⟩ := hnil true pre (cur ++ [x]) (i + 1) ov acc n H τ hw hB (by rw [he]; simp) (by simp; omega) ho (by simpa using hrb) (by simpa using hrn)
       refine ⟨ov', H', τ', by rw [splitF_end cur c34 c92]; simpa using i1, i2, fun fr k f6 f8 f9 f10 f11 => ?_⟩
       rw [loopK_succ]
       simp only [s_ref5_Split_l1, getK_mk f6, getK_mk f8, getK_mk f9, getK_mk f10, getK_mk f11, getK_set, ↓reduceIte, Nat.reduceEqDiff, someK_n, effK_n, retK, gK_do, gK_do', gK_skip, gK_skip', gK_none, pick_mk, cond_true, cond_false, condK_tn, condK_fn, bin_eql, bin_neq, bin_lss, bin_leq, bin_gtr, bin_geq, un_not, Bool.not_true, Bool.not_false, bin_str, lenS_mk, nle_l, nle_r, nle_n, nlt_l, nlt_r, nlt_n, neq_r, neq_n, nne_r, nne_n, ext0, ext1, ext30, ext31, ext32, bin_add, bin_sub, decide_true, decide_false, e1, e2, ex, d44, d92, d34, b34, b44, b92, e4, e5, e6, s_ref5_Split_j2, s_ref5_Split_j4]
       exact i3 _ k (by simp [T.get_set]) (by simp [T.get_set]) (by simp [T.get_set]) (by simp [T.get_set]) (by simp [T.get_set])
      | cons y r' =>
       have e5 : decide (s.length ≤ i + 1) = false := decide_eq_false (by simp at hlen; omega)
       have e7 : wr .i64 (((i + 1 : Nat) : Int) + Int.ofNat 1) = ((i + 2 : Nat) : Int) := adI (by omega)
       obtain ⟨ov', H', τ', i1, i2, i3⟩ := ih r' (by simp at hra; omega) true pre (cur ++ [x, y]) (i + 2) ov acc n H τ hw hB (by rw [he]; simp) (by simp; omega) ho (by simp at hrb; omega) (by simp at hrn; omega)
       refine ⟨ov', H', τ', by rw [splitF_esc cur y r' c34 c92]; exact i1, i2, fun fr k f6 f8 f9 f10 f11 => ?_⟩
       rw [loopK_succ]
       simp only [s_ref5_Split_l1, getK_mk f6, getK_mk f8, getK_mk f9, getK_mk f10, getK_mk f11, getK_set, ↓reduceIte, Nat.reduceEqDiff, someK_n, effK_n, retK, gK_do, gK_do', gK_skip, gK_skip', gK_none, pick_mk, cond_true, cond_false, condK_tn, condK_fn, bin_eql, bin_neq, bin_lss, bin_leq, bin_gtr, bin_geq, un_not, Bool.not_true, Bool.not_false, bin_str, lenS_mk, nle_l, nle_r, nle_n, nlt_l, nlt_r, nlt_n, neq_r, neq_n, nne_r, nne_n, ext0, ext1, ext30, ext31, ext32, bin_add, bin_sub, decide_true, decide_false, e1, e2, ex, d44, d92, d34, b34, b44, b92, e4, e5, e7, s_ref5_Split_j2, s_ref5_Split_j4]
       exact i3 _ k (by simp [T.get_set]) (by simp [T.get_set]) (by simp [T.get_set]) (by simp [T.get_set]) (by simp [T.get_set])
     ·have b92 : decide (x = 92) = false := decide_eq_false c92
      obtain ⟨ov', H', τ', i1, i2, i3⟩ := step true (splitF_in cur r c34 c92)
      refine ⟨ov', H', τ', i1, i2, fun fr k f6 f8 f9 f10 f11 => ?_⟩
      rw [loopK_succ]
      cases b44 : decide (x = 44) <;> simp only [s_ref5_Split_l1, getK_mk f6, getK_mk f8, getK_mk f9, getK_mk f10, getK_mk f11, getK_set, ↓reduceIte, Nat.reduceEqDiff, someK_n, effK_n, retK, gK_do, gK_do', gK_skip, gK_skip', gK_none, pick_mk, cond_true, cond_false, condK_tn, condK_fn, bin_eql, bin_neq, bin_lss, bin_leq, bin_gtr, bin_geq, un_not, Bool.not_true, Bool.not_false, bin_str, lenS_mk, nle_l, nle_r, nle_n, nlt_l, nlt_r, nlt_n, neq_r, neq_n, nne_r, nne_n, ext0, ext1, ext30, ext31, ext32, bin_add, bin_sub, decide_true, decide_false, e1, e2, ex, d44, d92, d34, b34, b44, b92, e4, s_ref5_Split_j2]
      all_goals exact i3 _ k (by simp [T.get_set]) (by simp [T.get_set]) (by simp [T.get_set]) (by simp [T.get_set]) (by simp [T.get_set])
    | false =>
     by_cases c44 : x = 44
     ·have b44 : decide (x = 44) = true := decide_eq_true c44
      have e3 : pStrSlice true true [.str s, .int .i64 (pre.length : Int), .int .i64 (i : Int)] = some (.str cur) := by
       rw [strSlice_lohi (by omega) (by omega), he, hi, drop_mid]
      have k1 := hT cur true (by rw [he] at hs; simp at hs; omega)
      rw [endT_eq] at k1
      obtain ⟨w, H1, v', H2, τ2, r1, r2, r3, r4⟩ := ho.put hw hB (trimB tight cur) (by omega) τ
      obtain ⟨ov', H', τ', i1, i2, i3⟩ := ih r hra false (pre ++ cur ++ [x]) [] (i + 1) v' (acc ++ [trimB tight cur]) n H2 τ2 r4.wf (Nat.le_trans hB r4.size) (by rw [he]; simp) (by simp; omega) r3 (by simp at ha ⊢; omega) hrn
      refine ⟨ov', H', τ', by rw [splitF_comma cur r c34 c44]; simpa using i1, r4.trans i2 (Nat.le_refl _), fun fr k f6 f8 f9 f10 f11 => ?_⟩
      rw [loopK_succ]
      simp only [s_ref5_Split_l1, getK_mk f6, getK_mk f8, getK_mk f9, getK_mk f10, getK_mk f11, getK_set, ↓reduceIte, Nat.reduceEqDiff, someK_n, effK_n, retK, gK_do, gK_do', gK_skip, gK_skip', gK_none, pick_mk, cond_true, cond_false, condK_tn, condK_fn, bin_eql, bin_neq, bin_lss, bin_leq, bin_gtr, bin_geq, un_not, Bool.not_true, Bool.not_false, bin_str, lenS_mk, nle_l, nle_r, nle_n, nlt_l, nlt_r, nlt_n, neq_r, neq_n, nne_r, nne_n, ext0, ext1, ext30, ext31, ext32, bin_add, bin_sub, decide_true, decide_false, e1, e2, ex, d44, b44, e3, k1, r1, r2, e4, s_ref5_Split_j2]
      exact i3 _ k (by simp [T.get_set]) (by simp [T.get_set]) (by simp [T.get_set]; omega) (by simp [T.get_set]) (by simp [T.get_set])
     ·have b44 : decide (x = 44) = false := decide_eq_false c44
      obtain ⟨ov', H', τ', i1, i2, i3⟩ := step false (splitF_out cur r c34 c44)
      refine ⟨ov', H', τ', i1, i2, fun fr k f6 f8 f9 f10 f11 => ?_⟩
      rw [loopK_succ]
      cases b92 : decide (x = 92) <;> simp only [s_ref5_Split_l1, getK_mk f6, getK_mk f8, getK_mk f9, getK_mk f10, getK_mk f11, getK_set, ↓reduceIte, Nat.reduceEqDiff, someK_n, effK_n, retK, gK_do, gK_do', gK_skip, gK_skip', gK_none, pick_mk, cond_true, cond_false, condK_tn, condK_fn, bin_eql, bin_neq, bin_lss, bin_leq, bin_gtr, bin_geq, un_not, Bool.not_true, Bool.not_false, bin_str, lenS_mk, nle_l, nle_r, nle_n, nlt_l, nlt_r, nlt_n, neq_r, neq_n, nne_r, nne_n, ext0, ext1, ext30, ext31, ext32, bin_add, bin_sub, decide_true, decide_false, e1, e2, ex, d44, d92, d34, b34, b44, b92, e4, s_ref5_Split_j2]
      all_goals exact i3 _ k (by simp [T.get_set]) (by simp [T.get_set]) (by simp [T.get_set]) (by simp [T.get_set]) (by simp [T.get_set])
theorem splitF_len : ∀ (n : Nat) (s : Bs), s.length ≤ n → ∀ (q : Bool) (cur : Bs), (splitF q cur s).1.length ≤ s.length := by
 intro n
 induction n with
 | zero =>
  intro s hn q cur
  obtain rfl := List.eq_nil_of_length_eq_zero (by omega : s.length = 0)
  simp [splitF]
 | succ n ih =>
  intro s hn q cur
  cases s with
  | nil => simp [splitF]
  | cons x r =>
   have hr : r.length ≤ n := by simp at hn; omega
   by_cases c34 : x = 34
   ·rw [splitF_quote q cur r c34]; have := ih r hr (!q) (cur ++ [x]); simp; omega
   ·cases q with
    | true =>
     by_cases c92 : x = 92
     ·cases r with
      | nil => rw [splitF_end cur c34 c92]; simp
      | cons y r' => rw [splitF_esc cur y r' c34 c92]; have := ih r' (by simp at hr; omega) true (cur ++ [x, y]); simp; omega
     ·rw [splitF_in cur r c34 c92]; have := ih r hr true (cur ++ [x]); simp; omega
    | false =>
     by_cases c44 : x = 44
     ·rw [splitF_comma cur r c34 c44]; have := ih r hr false []; simp; omega
     ·rw [splitF_out cur r c34 c44]; have := ih r hr false (cur ++ [x]); simp; omega
theorem piecesB_len (s : Bs) : (piecesB s).length ≤ s.length + 1 := by
 unfold piecesB
 have := splitF_len s.length s (Nat.le_refl _) false []
 simp; omega
theorem s_ref5_Split_ret (c : CallK) {N : Nat} (hN : 9223372036854775807 < N) (hG : IsP c f_ref5_Get (RH GetPre GetG)) (hT : RTrimOk c) (name : Bs) (hm : name.length ≤ 140737488355328) (hs : List Hd) (hS : Small hs) (lv : V) (H : Heap) (hw : WF H) (hr : RdH H lv hs) (τ : Tape) :
  ∃ v' H' τ', LsS H' H.size v' (splitT name hs) ∧ Gr H.size H H' ∧ ∀ q, s_ref5_Split c N lv (.str name) H τ q = q (.tup [v', .bool (decide (0 < (sel name hs).length))]) H' τ' := by
 have k1 := fun H (hr : RdH H lv hs) τ q => k_Get hG hS hm hr τ q
 have hg := getT_small hS name
 by_cases hp : 0 < (sel name hs).length
 ·have e0 : decide (0 < (sel name hs).length) = true := decide_eq_true hp
  obtain ⟨v', H', τ', i1, i2, i3⟩ := l_ref5_Split c N hT (getT name hs) (by omega) H.size _ (getT name hs) (Nat.le_refl _) false [] [] 0 .nils [] N H τ hw (Nat.le_refl _) rfl rfl (LsS.nil _ _) (by simp; omega) (by omega)
  have eT : splitT name hs = piecesB (getT name hs) := if_pos hp
  refine ⟨v', H', τ', by rw [eT]; simpa [piecesB] using i1, i2, fun q => ?_⟩
  simp only [s_ref5_Split, k1 H hr, getK_set, ↓reduceIte, Nat.reduceEqDiff, someK_n, effK_n, retK, gK_do, gK_do', gK_skip, gK_skip', gK_none, pick_mk, cond_true, cond_false, condK_tn, condK_fn, bin_eql, bin_neq, bin_lss, bin_leq, bin_gtr, bin_geq, un_not, Bool.not_true, Bool.not_false, bin_str, lenS_mk, nle_l, nle_r, nle_n, nlt_l, nlt_r, nlt_n, neq_r, neq_n, nne_r, nne_n, ext0, ext1, ext30, ext31, ext32, bin_add, bin_sub, decide_true, decide_false, e0]
  rw [i3 _ _ (by simp [T.get_set]) (by simp [T.get_set]) (by simp [T.get_set]) (by simp [T.get_set]) (by simp [T.get_set])]
  simp only [blockK, Nat.beq_refl, cond_true, seqK, s_ref5_Split_j0, getK_set, ↓reduceIte, Nat.reduceEqDiff, someK_n, effK_n, retK, gK_do, gK_do', gK_skip, gK_skip', gK_none, pick_mk, cond_true, cond_false, condK_tn, condK_fn, bin_eql, bin_neq, bin_lss, bin_leq, bin_gtr, bin_geq, un_not, Bool.not_true, Bool.not_false, bin_str, lenS_mk, nle_l, nle_r, nle_n, nlt_l, nlt_r, nlt_n, neq_r, neq_n, nne_r, nne_n, ext0, ext1, ext30, ext31, ext32, bin_add, bin_sub, decide_true, decide_false]
 ·have e0 : decide (0 < (sel name hs).length) = false := decide_eq_false hp
  have eT : splitT name hs = [] := if_neg hp
  refine ⟨.nils, H, τ, by rw [eT]; exact LsS.nil _ _, Gr.refl hw, fun q => ?_⟩
  simp only [s_ref5_Split, k1 H hr, getK_set, ↓reduceIte, Nat.reduceEqDiff, someK_n, effK_n, retK, gK_do, gK_do', gK_skip, gK_skip', gK_none, pick_mk, cond_true, cond_false, condK_tn, condK_fn, bin_eql, bin_neq, bin_lss, bin_leq, bin_gtr, bin_geq, un_not, Bool.not_true, Bool.not_false, bin_str, lenS_mk, nle_l, nle_r, nle_n, nlt_l, nlt_r, nlt_n, neq_r, neq_n, nne_r, nne_n, ext0, ext1, ext30, ext31, ext32, bin_add, bin_sub, decide_true, decide_false, e0]
abbrev SplitG (_ : Bool) (hs : List Hd) : List V → Out | [.str name] => lstO 1 (splitT name hs).length ((splitT name hs).map V.str) (fun v => .tup [v, .bool (decide (0 < (sel name hs).length))]) | _ => .val (.tup [])
noncomputable abbrev rw_RSplit : List Row := [Row.fn f_ref5_Split fn_ref5_Split e_ref5_Split, Row.prim f_ref5_Get (outP (RH GetPre GetG)), Row.prim f_ref1_Trim (outP TrimR)]
theorem p_ref5_Split : ∀ base w0, PrimOk PG base w0 f_ref5_Split (outP (RH GetPre SplitG)) := by
 obtain ⟨N, hN⟩ := someN
 refine primRH (N := N) (l := rw_RSplit) (.fn ok_ref5_Split e_ref5_Split_ok (.prim p_ref5_Get (.prim p_ref1_Trim (.nil _)))) 2 _ (fun hs args hp lv H hw hr τ => ?_)
 unfold GetPre at hp; split at hp
 ·rename_i name
  obtain ⟨v', H', τ', h1, h2, h3⟩ := s_ref5_Split_ret (CR rw_RSplit N 1) hN (fun _ _ _ _ => rfl) (k_ref1_Trim fun _ _ _ _ => rfl) name hp.2 hs hp.1 lv H hw hr τ
  exact ⟨_, H', τ', h2, LsS.met h1 (mkOk_bool _) ⟨trivial, trivial, trivial⟩, h3⟩
 ·exact hp.elim
theorem p_headers_Split : ∀ base w0, PrimOk PG base w0 f_headers_Split (outP (RH GetPre SplitG)) := by
 refine primOk_E 6 _ ?_
 rintro vs H o hw hvs ⟨v, l, hs, rfl, ⟨h1, h2⟩, hp, rfl⟩ τ
 unfold GetPre at hp
 split at hp
 ·rename_i name
  by_cases h0 : 0 < (sel name hs).length
  ·obtain ⟨v', H', τ', k1, _, k2, k3⟩ := d_headers_Split nb 6 (by omega) name hp.2 hp.1 v H hw h1 τ
   refine ⟨_, H', τ', k3 retK, k2, ?_⟩
   have eT : splitT name hs = piecesB (getT name hs) := if_pos h0
   exact LsS.met ⟨k1, fun h => by rw [eT] at h; simp [piecesB] at h⟩ (mkOk_bool _) ⟨trivial, trivial, trivial⟩
  ·have e0 : decide (0 < (sel name hs).length) = false := decide_eq_false h0
   have eT : splitT name hs = [] := if_neg h0
   obtain ⟨H', τ', g, k⟩ := d20' nb 5 (by omega) name hp.2 hp.1 v H hw h1 τ
   refine ⟨.tup [.nils, .bool false], H', τ', ?_, g, ?_⟩
   ·show s_headers_Split (C NB 5) NB v (.str name) H τ retK = _
    simp only [s_headers_Split, k, getK_set, ↓reduceIte, Nat.reduceEqDiff, someK_n, effK_n, retK, gK_do, gK_do', gK_skip, gK_skip', gK_none, pick_mk, cond_true, cond_false, condK_tn, condK_fn, bin_eql, bin_neq, bin_lss, bin_leq, bin_gtr, bin_geq, un_not, Bool.not_true, Bool.not_false, bin_str, lenS_mk, nle_l, nle_r, nle_n, nlt_l, nlt_r, nlt_n, neq_r, neq_n, nne_r, nne_n, ext0, ext1, ext30, ext31, ext32, bin_add, bin_sub, decide_true, decide_false, e0]
   ·show (lstO 1 (splitT name hs).length ((splitT name hs).map V.str) (fun v => V.tup [v, .bool (decide (0 < (sel name hs).length))])).Met H _ H'
    rw [eT, e0]; exact ⟨rfl, trivial, trivial, trivial⟩
 ·exact hp.elim
theorem k_Split {c : CallK} {f : Nat} (h : IsP c f (RH GetPre SplitG)) {hs : List Hd} (hS : Small hs) {name : Bs} (hm : name.length ≤ 140737488355328) {lv : V} {H : Heap} (hw : WF H) (hr : RdH H lv hs) (τ : Tape) :
  ∃ v' H' τ', Own H' H.size 1 v' (splitT name hs).length ((splitT name hs).map V.str) ∧ Gr H.size H H' ∧ ∀ q, c f [lv, .str name] H τ q = q (.tup [v', .bool (decide (0 < (sel name hs).length))]) H' τ' :=
 RH_lstO (l := [.str name]) h hr ⟨hS, hm⟩ rfl hw (by simp) τ
end Go.Am.X

namespace Go.Am.X
abbrev ltB (x y : Bs) : Prop := lessB x y = true
theorem lessB_cons (a b : UInt8) (x y : Bs) : lessB (a :: x) (b :: y) = (decide (a.toNat < b.toNat) || (decide (a.toNat = b.toNat) && lessB x y)) := by
 rw [lessB]
 have h1 : Nat.blt a.toNat b.toNat = decide (a.toNat < b.toNat) := by
  by_cases h : a.toNat < b.toNat
  ·rw [decide_eq_true h]; simp [Nat.blt]; omega
  ·rw [decide_eq_false h]; cases hb : Nat.blt a.toNat b.toNat with
   | false => rfl
   | true => exact absurd (Nat.le_of_ble_eq_true hb) h
 have h2 : Nat.beq a.toNat b.toNat = decide (a.toNat = b.toNat) := by
  by_cases h : a.toNat = b.toNat
  ·rw [decide_eq_true h, h]; exact Nat.beq_refl _
  ·rw [decide_eq_false h]; cases hb : Nat.beq a.toNat b.toNat with
   | false => rfl
   | true => exact absurd (Nat.eq_of_beq_eq_true hb) h
 rw [h1, h2]
theorem ltB_irrefl : ∀ (x : Bs), lessB x x = false := by
 intro x
 induction x with
 | nil => rfl
 | cons a x ih => rw [lessB_cons, ih]; simp
theorem ltB_no {x : Bs} (h : ltB x x) : False := by rw [ltB, ltB_irrefl] at h; cases h
theorem ltB_trans : ∀ (x y z : Bs), ltB x y → ltB y z → ltB x z := by
 intro x
 induction x with
 | nil =>
  intro y z h1 h2
  cases y with
  | nil => exact h2
  | cons b y => cases z with
   | nil => cases h2
   | cons c z => rfl
 | cons a x ih =>
  intro y z h1 h2
  cases y with
  | nil => cases h1
  | cons b y => cases z with
   | nil => cases h2
   | cons c z =>
    unfold ltB at *
    rw [lessB_cons, Bool.or_eq_true, Bool.and_eq_true, decide_eq_true_iff, decide_eq_true_iff] at h1 h2 ⊢
    rcases h1 with h1 | ⟨h1, h1'⟩ <;> rcases h2 with h2 | ⟨h2, h2'⟩
    ·exact .inl (by omega)
    ·exact .inl (by omega)
    ·exact .inl (by omega)
    ·exact .inr ⟨by omega, ih y z h1' h2'⟩
theorem ltB_tri : ∀ (x y : Bs), ltB x y ∨ x = y ∨ ltB y x := by
 intro x
 induction x with
 | nil => intro y; cases y with
  | nil => exact .inr (.inl rfl)
  | cons b y => exact .inl rfl
 | cons a x ih =>
  intro y
  cases y with
  | nil => exact .inr (.inr rfl)
  | cons b y =>
   unfold ltB
   rw [lessB_cons, lessB_cons, Bool.or_eq_true, Bool.and_eq_true, decide_eq_true_iff, decide_eq_true_iff, Bool.or_eq_true, Bool.and_eq_true, decide_eq_true_iff, decide_eq_true_iff]
   rcases Nat.lt_trichotomy a.toNat b.toNat with h | h | h
   ·exact .inl (.inl h)
   ·rcases ih y with k | k | k
    ·exact .inl (.inr ⟨h, k⟩)
    ·exact .inr (.inl (by rw [UInt8.toNat_inj.1 h, k]))
    ·exact .inr (.inr (.inr ⟨h.symm, k⟩))
   ·exact .inr (.inr (.inl h))
theorem lt_iff (x y : Bs) : x < y ↔ ltB x y := by
 induction x generalizing y with
 | nil => cases y with
  | nil => exact ⟨fun h => (by cases h), fun h => (by cases h)⟩
  | cons b y => exact ⟨fun _ => rfl, fun _ => List.Lex.nil⟩
 | cons a x ih =>
  cases y with
  | nil => exact ⟨fun h => (by cases h), fun h => (by cases h)⟩
  | cons b y =>
   unfold ltB
   rw [lessB_cons, Bool.or_eq_true, Bool.and_eq_true, decide_eq_true_iff, decide_eq_true_iff, List.cons_lt_cons_iff, ih y, UInt8.lt_iff_toNat_lt, UInt8.toNat_inj]
abbrev SrtB (l : List Bs) : Prop := l.Pairwise ltB
theorem srt_uniq : ∀ (a b : List Bs), SrtB a → SrtB b → (∀ x, x ∈ a ↔ x ∈ b) → a = b := by
 intro a
 induction a with
 | nil => intro b _ _ h; cases b with
  | nil => rfl
  | cons y b => exact absurd ((h y).2 (by simp)) (by simp)
 | cons x a ih =>
  intro b ha hb h
  cases b with
  | nil => exact absurd ((h x).1 (by simp)) (by simp)
  | cons y b =>
   rw [SrtB, List.pairwise_cons] at ha hb
   have hxy : x = y := by
    rcases List.mem_cons.1 ((h x).1 (by simp)) with e | e
    ·exact e
    ·rcases List.mem_cons.1 ((h y).2 (by simp)) with e' | e'
     ·exact e'.symm
     ·have h1 := hb.1 x e
      have h2 := ha.1 y e'
      exact (ltB_no (ltB_trans _ _ _ h1 h2)).elim
   subst hxy
   congr 1
   refine ih b ha.2 hb.2 fun z => ⟨fun hz => ?_, fun hz => ?_⟩
   ·rcases List.mem_cons.1 ((h z).1 (by simp [hz])) with e | e
    ·subst e; exact (ltB_no (ha.1 z hz)).elim
    ·exact e
   ·rcases List.mem_cons.1 ((h z).2 (by simp [hz])) with e | e
    ·subst e; exact (ltB_no (hb.1 z hz)).elim
    ·exact e
def insB (x : Bs) : List Bs → List Bs
 | [] => [x]
 | y :: l => bif lessB y x then y :: insB x l else bif y == x then y :: l else x :: y :: l
theorem insB_mem (x : Bs) : ∀ (l : List Bs) (z : Bs), z ∈ insB x l ↔ z = x ∨ z ∈ l := by
 intro l
 induction l with
 | nil => intro z; simp [insB]
 | cons y l ih =>
  intro z
  rw [insB]
  cases lessB y x with
  | true => rw [cond_true, List.mem_cons, ih z, List.mem_cons]; constructor <;> (intro h; rcases h with h | h | h <;> simp [h])
  | false =>
   rw [cond_false]
   cases h : (y == x) with
   | true => rw [cond_true, ← beq_iff_eq.1 h]; simp
   | false => rw [cond_false]; simp
theorem insB_srt (x : Bs) : ∀ (l : List Bs), SrtB l → SrtB (insB x l) := by
 intro l
 induction l with
 | nil => intro _; simp [insB]
 | cons y l ih =>
  intro h
  rw [SrtB, List.pairwise_cons] at h
  rw [insB]
  cases h1 : lessB y x with
  | true =>
   rw [cond_true, SrtB, List.pairwise_cons]
   refine ⟨fun z hz => ?_, ih h.2⟩
   rcases (insB_mem x l z).1 hz with e | e
   ·rw [e]; exact h1
   ·exact h.1 z e
  | false =>
   rw [cond_false]
   cases h2 : (y == x) with
   | true => rw [cond_true, SrtB, List.pairwise_cons]; exact h
   | false =>
    rw [cond_false, SrtB, List.pairwise_cons]
    have hxy : ltB x y := by
     rcases ltB_tri x y with k | k | k
     ·exact k
     ·exact absurd k.symm (beq_eq_false_iff_ne.1 h2)
     ·have k' : lessB y x = true := k
      rw [h1] at k'; cases k'
    refine ⟨fun z hz => ?_, by rw [List.pairwise_cons]; exact h⟩
    rcases List.mem_cons.1 hz with e | e
    ·rw [e]; exact hxy
    ·exact ltB_trans _ _ _ hxy (h.1 z e)
theorem insB_len (x : Bs) : ∀ (l : List Bs), (insB x l).length ≤ l.length + 1 := by
 intro l
 induction l with
 | nil => simp [insB]
 | cons y l ih =>
  rw [insB]
  cases lessB y x with
  | true => rw [cond_true]; simp; omega
  | false => rw [cond_false]; cases (y == x) <;> simp
def srtT (ss : List Bs) : List Bs := ss.foldl (fun acc x => insB x acc) []
theorem srtT_snoc (pre : List Bs) (x : Bs) : srtT (pre ++ [x]) = insB x (srtT pre) := by unfold srtT; rw [List.foldl_append]; rfl
theorem srtT_ok (ss : List Bs) : SrtB (srtT ss) ∧ (∀ z, z ∈ srtT ss ↔ z ∈ ss) ∧ (srtT ss).length ≤ ss.length := by
 have key : ∀ (ss acc : List Bs), SrtB acc → SrtB (ss.foldl (fun acc x => insB x acc) acc) ∧ (∀ z, z ∈ ss.foldl (fun acc x => insB x acc) acc ↔ z ∈ acc ∨ z ∈ ss) ∧ (ss.foldl (fun acc x => insB x acc) acc).length ≤ acc.length + ss.length := by
  intro ss
  induction ss with
  | nil => intro acc h; exact ⟨h, fun z => by simp, by simp⟩
  | cons x ss ih =>
   intro acc h
   obtain ⟨a, b, c⟩ := ih (insB x acc) (insB_srt x acc h)
   have := insB_len x acc
   refine ⟨a, fun z => ?_, by simp only [List.foldl_cons, List.length_cons]; omega⟩
   rw [List.foldl_cons, b z, insB_mem, List.mem_cons]
   constructor
   ·rintro ((h | h) | h) <;> simp [h]
   ·rintro (h | h | h) <;> simp [h]
 obtain ⟨a, b, c⟩ := key ss [] (by simp)
 exact ⟨a, fun z => (b z).trans (by simp), by unfold srtT; simpa using c⟩
theorem le_of_ltB (x y : Bs) : x ≤ y ↔ ¬ ltB y x := by
 rw [← List.not_lt, lt_iff]
theorem sorted_ok (ss : List Bs) : (sorted ss).Pairwise (fun a b => ¬ ltB b a) ∧ (∀ z, z ∈ sorted ss ↔ z ∈ ss) ∧ (sorted ss).length = ss.length := by
 refine ⟨?_, fun z => by rw [sorted_eq]; exact List.mem_mergeSort, by rw [sorted_eq]; exact List.length_mergeSort _⟩
 have := List.pairwise_mergeSort (le := fun x y : Bs => decide (x ≤ y)) (fun a b c h1 h2 => by
  simp only [decide_eq_true_eq, le_of_ltB] at *
  rcases ltB_tri a b with k | k | k
  ·rcases ltB_tri b c with j | j | j
   ·intro e; have := ltB_trans _ _ _ (ltB_trans _ _ _ k j) e; exact ltB_no this
   ·rw [← j]; exact h1
   ·exact absurd j h2
  ·rw [k]; exact h2
  ·exact absurd k h1) (fun a b => by
  simp only [Bool.or_eq_true, decide_eq_true_eq, le_of_ltB]
  rcases ltB_tri a b with k | k | k
  ·left; intro e; have := ltB_trans _ _ _ k e; exact ltB_no this
  ·left; rw [k, ltB, ltB_irrefl]; simp
  ·right; intro e; have := ltB_trans _ _ _ k e; exact ltB_no this) ss
 rw [sorted_eq]
 exact this.imp fun h => (le_of_ltB _ _).1 (of_decide_eq_true h)
theorem str_lss (x y : Bs) : strBin .lss x y = some (.bool (lessB x y)) := rfl
end Go.Am.X

