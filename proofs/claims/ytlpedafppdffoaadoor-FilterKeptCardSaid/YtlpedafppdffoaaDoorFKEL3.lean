/- The abstract machine, printed functions of the program, and what they are shown to be. -/
import Derived.Test.YtlpedafppdffoaaDoorFKEL2
import Derived.Test.YtlpedafppdffoaaDoorFKEL1
import Derived.Test.YtlpedafppdffoaaDoorFKEM5
set_option linter.unusedSimpArgs false
set_option linter.unusedVariables false
set_option linter.unusedSectionVars false
set_option maxRecDepth 100000
namespace Go.Am.X
def expN : Bs := [97, 99, 99, 101, 115, 115, 45, 99, 111, 110, 116, 114, 111, 108, 45, 101, 120, 112, 111, 115, 101, 45, 104, 101, 97, 100, 101, 114, 115]
def expL (ps : List Bs) : List Bs := (ps.filter tokT).map lower
theorem expL_snoc (a : List Bs) (x : Bs) : expL (a ++ [x]) = expL a ++ (if tokT x = true then [lower x] else []) := by
 unfold expL; rw [List.filter_append, List.map_append]; congr 1
 cases h : tokT x <;> simp [h]
theorem expL_len (ps : List Bs) : (expL ps).length ≤ ps.length := by unfold expL; rw [List.length_map]; exact List.length_filter_le _ _
theorem expL_mem {ps : List Bs} {x : Bs} {M : Nat} (h : ∀ p ∈ ps, p.length ≤ M) (hx : x ∈ expL ps) : x.length ≤ M := by
 unfold expL at hx
 obtain ⟨p, hp, rfl⟩ := List.mem_map.1 hx
 rw [lower_len]; exact h p (List.mem_filter.1 hp).1
abbrev TokOk (c : CallK) : Prop := ∀ (s : Bs), s.length ≤ 9223372036854775806 → ∀ H τ q, c f_infra_Token [.str s] H τ q = q (.bool (tokT s)) H τ
noncomputable abbrev rw_Tok : List Row := [Row.fn f_infra_Token fn_infra_Token e_infra_Token, Row.fn f_strings_IndexByte fn_strings_IndexByte e_strings_IndexByte, Row.prim f_stringslite_IndexByte idxP]
theorem p_infra_Token : ∀ base w0, PrimOk PG base w0 f_infra_Token (outP TokR) := by
 obtain ⟨N, hN⟩ := someN
 refine primRV (N := N) (l := rw_Tok) (.fn ok_infra_Token e_infra_Token_ok (.fn ok_strings_IndexByte e_strings_IndexByte_ok (.prim idxP_ok (.nil _)))) 3 _ (fun vs H h => ?_) (fun vs h H hw τ => ?_)
 ·unfold strP at h; split at h
  ·trivial
  ·exact h.elim
 ·unfold strP at h; split at h
  ·exact ⟨H, τ, Gr.refl hw, fun q => s_infra_Token_ret (CR rw_Tok N 2) N (Nat.le_of_lt hN) (fun s x H τ q => s_strings_IndexByte_ret (CR rw_Tok N 1) N (k_idx fun _ _ _ _ => rfl) s x H τ q) _ (by omega) H τ q⟩
  ·exact h.elim
theorem k_infra_Token {c : CallK} (h : IsP c f_infra_Token TokR) : TokOk c := fun s hs H τ q => callS h s hs H τ q
theorem l_cors_Exposed (c : CallK) (N : Nat) (hL : NLowOk c) (hT : TokOk c) (ps : List Bs) (hl : ps.length < 1000000) (hsz : ∀ p ∈ ps, p.length ≤ 900000) (pv : V) (B : Nat) : ∀ (l pre : List Bs) (m : Nat) (H : Heap) (τ : Tape) (M : Nat), ps = pre ++ l → l.length < M → WF H → B ≤ m →
  (∀ H', Gr B H H' → Rd H' 1 pv ps.length (ps.map V.str)) → Mk H m (addAll (expL pre)) →
  ∃ H' τ', Mk H' m (addAll (expL ps)) ∧ Gr B H H' ∧ ∀ (fr : T V) k, fr.get 8 = some (.map m) → fr.get 23 = some pv → fr.get 24 = some (.int .i64 (ps.length : Int)) → fr.get 25 = some (.int .i64 (pre.length : Int)) →
   loopK (s_cors_Exposed_l1 c N) M ⟨fr, H⟩ τ k = k (.exit 0) ⟨(T.set .leaf 8 (.map m)), H'⟩ τ' := by
 intro l
 induction l with
 | nil =>
  intro pre m H τ M he hm hw hB hrd h1
  obtain ⟨M, rfl⟩ : ∃ j, M = j + 1 := ⟨M - 1, by omega⟩
  have hp : ps = pre := by rw [he, List.append_nil]
  have e1 : decide (pre.length < ps.length) = false := decide_eq_false (by rw [hp]; simp)
  refine ⟨H, τ, by rw [hp]; exact h1, Gr.refl hw, fun fr k f8 f23 f24 f25 => ?_⟩
  rw [loopK_succ]
  simp only [s_cors_Exposed_l1, getK_mk f8, getK_mk f23, getK_mk f24, getK_mk f25, getK_set, ↓reduceIte, Nat.reduceEqDiff, someK_n, effK_n, retK, gK_do, gK_do', gK_skip, gK_skip', gK_none, pick_mk, cond_true, cond_false, condK_tn, condK_fn, bin_eql, bin_neq, bin_lss, bin_leq, bin_gtr, bin_geq, un_not, Bool.not_true, Bool.not_false, bin_str, lenS_mk, nle_l, nle_r, nle_n, nlt_l, nlt_r, nlt_n, neq_r, neq_n, nne_r, nne_n, ext0, ext1, ext30, ext31, ext32, bin_add, bin_sub, decide_true, decide_false, e1]
  rfl
 | cons x l ih =>
  intro pre m H τ M he hm hw hB hrd h1
  obtain ⟨M, rfl⟩ : ∃ j, M = j + 1 := ⟨M - 1, by omega⟩
  have hlt : pre.length < ps.length := by rw [he]; simp
  have e1 : decide (pre.length < ps.length) = true := decide_eq_true hlt
  have e3 : wr .i64 ((pre.length : Int) + Int.ofNat 1) = ((pre ++ [x]).length : Int) := by rw [adI (by omega)]; simp
  obtain ⟨p, p1, p2⟩ := (hrd H (Gr.refl hw)).elem1 (i := pre.length) (x := .str x) (by rw [he]; simp)
  have hx := hsz x (by rw [he]; simp)
  have kt := hT x (by omega)
  have kl := hL x (by omega)
  cases ht : tokT x with
  | false =>
   obtain ⟨H', τ', i1, i2, i3⟩ := ih (pre ++ [x]) m H τ M (by rw [he]; simp) (by simp at hm; omega) hw hB hrd (by rw [expL_snoc, if_neg (by rw [ht]; simp), List.append_nil]; exact h1)
   refine ⟨H', τ', i1, i2, fun fr k f8 f23 f24 f25 => ?_⟩
   rw [loopK_succ]
   simp only [s_cors_Exposed_l1, getK_mk f8, getK_mk f23, getK_mk f24, getK_mk f25, getK_set, ↓reduceIte, Nat.reduceEqDiff, someK_n, effK_n, retK, gK_do, gK_do', gK_skip, gK_skip', gK_none, pick_mk, cond_true, cond_false, condK_tn, condK_fn, bin_eql, bin_neq, bin_lss, bin_leq, bin_gtr, bin_geq, un_not, Bool.not_true, Bool.not_false, bin_str, lenS_mk, nle_l, nle_r, nle_n, nlt_l, nlt_r, nlt_n, neq_r, neq_n, nne_r, nne_n, ext0, ext1, ext30, ext31, ext32, bin_add, bin_sub, decide_true, decide_false, e1, p1, p2, kt, ht, s_cors_Exposed_j2, e3]
   exact i3 _ k (by simp [T.get_set]) (by simp [T.get_set]) (by simp [T.get_set]) (by simp [T.get_set])
  | true =>
   obtain ⟨n, hn⟩ := mlook_K h1 (lower x)
   obtain ⟨H3, r1, r2, r3⟩ := mput_K h1 hw (lower x) (wr .i64 (n + Int.ofNat 1)) τ
   have gB3 : Gr B H H3 := r3.gr hB
   obtain ⟨H', τ', i1, i2, i3⟩ := ih (pre ++ [x]) m H3 τ M (by rw [he]; simp) (by simp at hm; omega) r3.wf hB (fun H' hg => hrd H' (gB3.trans hg (Nat.le_refl _))) (by rw [expL_snoc, if_pos ht, addAll_snoc]; exact r2)
   refine ⟨H', τ', i1, gB3.trans i2 (Nat.le_refl _), fun fr k f8 f23 f24 f25 => ?_⟩
   rw [loopK_succ]
   simp only [s_cors_Exposed_l1, getK_mk f8, getK_mk f23, getK_mk f24, getK_mk f25, getK_set, ↓reduceIte, Nat.reduceEqDiff, someK_n, effK_n, retK, gK_do, gK_do', gK_skip, gK_skip', gK_none, pick_mk, cond_true, cond_false, condK_tn, condK_fn, bin_eql, bin_neq, bin_lss, bin_leq, bin_gtr, bin_geq, un_not, Bool.not_true, Bool.not_false, bin_str, lenS_mk, nle_l, nle_r, nle_n, nlt_l, nlt_r, nlt_n, neq_r, neq_n, nne_r, nne_n, ext0, ext1, ext30, ext31, ext32, bin_add, bin_sub, decide_true, decide_false, e1, p1, p2, kt, ht, kl, hn, r1, s_cors_Exposed_j2, e3]
   exact i3 _ k (by simp [T.get_set]) (by simp [T.get_set]) (by simp [T.get_set]) (by simp [T.get_set])
abbrev ConSOk (c : CallK) : Prop := ∀ {lv : V} {ss : List Bs} (x : Bs), ss.length < 1000000000 → ∀ {H : Heap}, Rd H 1 lv ss.length (ss.map V.str) → ∀ (τ : Tape) (q : KV), c f_slices_Contains_string [lv, .str x] H τ q = q (.bool (ss.contains x)) H τ
theorem split_ok {hs : List Hd} (hg : (getT expN hs).length ≤ 900000) : (splitT expN hs).length < 1000000 ∧ ∀ p ∈ splitT expN hs, p.length ≤ 900000 := by
 unfold splitT
 split
 ·have h1 := piecesB_len (getT expN hs)
  exact ⟨by omega, fun p hp => Nat.le_trans (piece_len hp) hg⟩
 ·exact ⟨by simp, fun p hp => by simp at hp⟩
def expAll (hs : List Hd) (cred : Bool) : Bool := !cred && (splitT expN hs).contains [42]
theorem s_cors_Exposed_all (c : CallK) {N : Nat} (hSp : IsP c f_headers_Split (RH GetPre SplitG)) (hC : ConSOk c) (hs : List Hd) (hS : Small hs) (hg : (getT expN hs).length ≤ 900000) (cred : Bool) (ha : expAll hs cred = true) (lv : V) (H : Heap) (hw : WF H) (hr : RdH H lv hs) (τ : Tape) :
  ∃ H' τ', Gr H.size H H' ∧ ∀ q, s_cors_Exposed c N lv (.bool cred) H τ q = q (.tup [.nils, .bool true]) H' τ' := by
 obtain ⟨pv, H1, τ1, o1, g1, k1⟩ := k_Split hSp hS (name := expN) (by decide) hw hr τ
 obtain ⟨l1, l2⟩ := split_ok hg
 simp only [expAll, Bool.and_eq_true, Bool.not_eq_true'] at ha
 obtain ⟨rfl, hc⟩ := ha
 have kc := fun τ q => hC [42] (by omega) o1.rd τ q
 refine ⟨H1, τ1, g1, fun q => ?_⟩
 have k1' : ∀ q, c f_headers_Split [lv, .str (bs [97, 99, 99, 101, 115, 115, 45, 99, 111, 110, 116, 114, 111, 108, 45, 101, 120, 112, 111, 115, 101, 45, 104, 101, 97, 100, 101, 114, 115])] H τ q = _ := k1
 simp only [s_cors_Exposed, k1', getK_set, ↓reduceIte, Nat.reduceEqDiff, someK_n, effK_n, retK, gK_do, gK_do', gK_skip, gK_skip', gK_none, pick_mk, cond_true, cond_false, condK_tn, condK_fn, bin_eql, bin_neq, bin_lss, bin_leq, bin_gtr, bin_geq, un_not, Bool.not_true, Bool.not_false, bin_str, lenS_mk, nle_l, nle_r, nle_n, nlt_l, nlt_r, nlt_n, neq_r, neq_n, nne_r, nne_n, ext0, ext1, ext30, ext31, ext32, bin_add, bin_sub, decide_true, decide_false, show bs [42] = [42] from rfl, kc, hc]
theorem s_cors_Exposed_some (c : CallK) {N : Nat} (hN : 9223372036854775807 < N) (hSp : IsP c f_headers_Split (RH GetPre SplitG)) (hC : ConSOk c) (hL : NLowOk c) (hT : TokOk c) (hNm : NamP c) (hs : List Hd) (hS : Small hs) (hg : (getT expN hs).length ≤ 900000) (cred : Bool) (ha : expAll hs cred = false) (lv : V) (H : Heap) (hw : WF H) (hr : RdH H lv hs) (τ : Tape) :
  ∃ v' H' τ', LsS H' H.size v' (srtT (expL (splitT expN hs))) ∧ Gr H.size H H' ∧ ∀ q, s_cors_Exposed c N lv (.bool cred) H τ q = q (.tup [v', .bool false]) H' τ' := by
 obtain ⟨pv, H1, τ1, o1, g1, k1⟩ := k_Split hSp hS (name := expN) (by decide) hw hr τ
 obtain ⟨l1, l2⟩ := split_ok hg
 generalize hps : splitT expN hs = ps at o1 l1 l2
 have kc := fun τ q => hC [42] (by omega) o1.rd τ q
 obtain ⟨H2, a2, m2, g2, z2⟩ := mk_new g1.wf τ1
 have z1 := g1.size
 have g12 : Gr H.size H H2 := g1.trans g2 z1
 obtain ⟨H3, τ3, m3, g3, k3⟩ := l_cors_Exposed c N hL hT ps l1 l2 pv H1.size ps [] H1.size H2 τ1 N rfl (by omega) g2.wf (Nat.le_refl _) (fun H' hg' => o1.rd.gr (g2.trans hg' (Nat.le_refl _)) g1.wf (Nat.le_refl _)) m2
 obtain ⟨u1, u2, u3⟩ := addAll_ok (expL ps)
 obtain ⟨ms, cl, w1, w2, w3⟩ := m3
 have hel := expL_len ps
 obtain ⟨v', H4, τ4, d1, d2, d3⟩ := names_K g3.wf w1 (L := expL ps) (by rw [w2]; exact u1) (fun x => by rw [w2, u2]) (by rw [w2]; omega) (fun x hx => by have := expL_mem l2 hx; omega) τ3
 have z12 := g12.size
 have g13 : Gr H.size H H3 := g12.trans (g3.weaken z1) (Nat.le_refl _)
 refine ⟨v', H4, τ4, d2.weaken (by have := g13.size; omega), g13.trans d3 g13.size, fun q => ?_⟩
 have k1' : ∀ q, c f_headers_Split [lv, .str (bs [97, 99, 99, 101, 115, 115, 45, 99, 111, 110, 116, 114, 111, 108, 45, 101, 120, 112, 111, 115, 101, 45, 104, 101, 97, 100, 101, 114, 115])] H τ q = _ := k1
 have pl := o1.rd.pLen
 unfold expAll at ha
 rw [hps] at ha
 cases cred with
 | true =>
  simp only [s_cors_Exposed, k1', getK_set, ↓reduceIte, Nat.reduceEqDiff, someK_n, effK_n, retK, gK_do, gK_do', gK_skip, gK_skip', gK_none, pick_mk, cond_true, cond_false, condK_tn, condK_fn, bin_eql, bin_neq, bin_lss, bin_leq, bin_gtr, bin_geq, un_not, Bool.not_true, Bool.not_false, bin_str, lenS_mk, nle_l, nle_r, nle_n, nlt_l, nlt_r, nlt_n, neq_r, neq_n, nne_r, nne_n, ext0, ext1, ext30, ext31, ext32, bin_add, bin_sub, decide_true, decide_false, a2, pl]
  rw [k3 _ _ (by simp [T.get_set]) (by simp [T.get_set]) (by simp [T.get_set]) (by simp [T.get_set])]
  simp only [blockK, Nat.beq_refl, cond_true, seqK, s_cors_Exposed_j0, getK_set, ↓reduceIte, Nat.reduceEqDiff, someK_n, effK_n, retK, gK_do, gK_do', gK_skip, gK_skip', gK_none, pick_mk, cond_true, cond_false, condK_tn, condK_fn, bin_eql, bin_neq, bin_lss, bin_leq, bin_gtr, bin_geq, un_not, Bool.not_true, Bool.not_false, bin_str, lenS_mk, nle_l, nle_r, nle_n, nlt_l, nlt_r, nlt_n, neq_r, neq_n, nne_r, nne_n, ext0, ext1, ext30, ext31, ext32, bin_add, bin_sub, decide_true, decide_false, hNm, d1]
 | false =>
  have hc : ps.contains [42] = false := by simpa using ha
  simp only [s_cors_Exposed, k1', getK_set, ↓reduceIte, Nat.reduceEqDiff, someK_n, effK_n, retK, gK_do, gK_do', gK_skip, gK_skip', gK_none, pick_mk, cond_true, cond_false, condK_tn, condK_fn, bin_eql, bin_neq, bin_lss, bin_leq, bin_gtr, bin_geq, un_not, Bool.not_true, Bool.not_false, bin_str, lenS_mk, nle_l, nle_r, nle_n, nlt_l, nlt_r, nlt_n, neq_r, neq_n, nne_r, nne_n, ext0, ext1, ext30, ext31, ext32, bin_add, bin_sub, decide_true, decide_false, show bs [42] = [42] from rfl, kc, hc, a2, pl]
  rw [k3 _ _ (by simp [T.get_set]) (by simp [T.get_set]) (by simp [T.get_set]) (by simp [T.get_set])]
  simp only [blockK, Nat.beq_refl, cond_true, seqK, s_cors_Exposed_j0, getK_set, ↓reduceIte, Nat.reduceEqDiff, someK_n, effK_n, retK, gK_do, gK_do', gK_skip, gK_skip', gK_none, pick_mk, cond_true, cond_false, condK_tn, condK_fn, bin_eql, bin_neq, bin_lss, bin_leq, bin_gtr, bin_geq, un_not, Bool.not_true, Bool.not_false, bin_str, lenS_mk, nle_l, nle_r, nle_n, nlt_l, nlt_r, nlt_n, neq_r, neq_n, nne_r, nne_n, ext0, ext1, ext30, ext31, ext32, bin_add, bin_sub, decide_true, decide_false, hNm, d1]
abbrev ExpPre (hs : List Hd) : List V → Prop | [.bool _] => Small hs ∧ (getT expN hs).length ≤ 900000 | _ => False
def ExpO (hs : List Hd) (cred : Bool) : Out := bif expAll hs cred then .val (.tup [.nils, .bool true]) else lstO 1 (srtT (expL (splitT expN hs))).length ((srtT (expL (splitT expN hs))).map V.str) (fun v => .tup [v, .bool false])
abbrev ExpG (_ : Bool) (hs : List Hd) : List V → Out | [.bool cred] => ExpO hs cred | _ => .val (.tup [])
theorem exp_met {hs : List Hd} {cred : Bool} (b : Bool) {H H' : Heap} {v : V} (h : (expAll hs cred = true ∧ v = .tup [.nils, .bool true]) ∨ (expAll hs cred = false ∧ ∃ u, v = .tup [u, .bool false] ∧ LsS H' H.size u (srtT (expL (splitT expN hs))))) : (ExpG b hs [.bool cred]).Met H v H' := by
 show (ExpO hs cred).Met H v H'
 unfold ExpO
 rcases h with ⟨h1, rfl⟩ | ⟨h1, u, rfl, h2⟩
 ·rw [h1]; exact ⟨rfl, trivial, trivial, trivial⟩
 ·rw [h1]; exact LsS.met h2 (mkOk_bool false) ⟨trivial, trivial, trivial⟩
noncomputable abbrev rw_Exp : List Row := [Row.fn f_cors_Exposed fn_cors_Exposed e_cors_Exposed, Row.prim f_headers_Split (outP (RH GetPre SplitG)), Row.fn f_slices_Contains_string fn_slices_Contains_string e_slices_Contains_string, Row.fn f_slices_Index_string fn_slices_Index_string e_slices_Index_string, Row.prim f_infra_Lower (outP LowR), Row.prim f_infra_Token (outP TokR), Row.prim f_cors_names namesP]
theorem p_cors_Exposed : ∀ base w0, PrimOk PG base w0 f_cors_Exposed (outP (RH ExpPre ExpG)) := by
 obtain ⟨N, hN⟩ := someN
 refine primRH (N := N) (l := rw_Exp) (.fn ok_cors_Exposed e_cors_Exposed_ok (.prim p_headers_Split (.fn ok_slices_Contains_string e_slices_Contains_string_ok (.fn ok_slices_Index_string e_slices_Index_string_ok (.prim p_infra_Lower (.prim p_infra_Token (.prim namesP_ok (.nil _)))))))) 4 _ (fun hs args hp lv H hw hr τ => ?_)
 have con : ConSOk (CR rw_Exp N 3) := fun x hl _ hr τ q => s_slices_Contains_string_ret (CR rw_Exp N 2) N _ _ x _ τ (s_slices_Index_string_ret (CR rw_Exp N 1) hN _ _ x hl _ hr τ) q
 unfold ExpPre at hp; split at hp
 ·rename_i cred
  cases ha : expAll hs cred with
  | true =>
   obtain ⟨H', τ', h2, h3⟩ := s_cors_Exposed_all (CR rw_Exp N 3) (N := N) (fun _ _ _ _ => rfl) con hs hp.1 hp.2 cred ha lv H hw hr τ
   exact ⟨_, H', τ', h2, exp_met _ (.inl ⟨ha, rfl⟩), h3⟩
  | false =>
   obtain ⟨v', H', τ', h1, h2, h3⟩ := s_cors_Exposed_some (CR rw_Exp N 3) hN (fun _ _ _ _ => rfl) con (k_infra_Lower fun _ _ _ _ => rfl) (k_infra_Token fun _ _ _ _ => rfl) (fun _ _ _ _ => rfl) hs hp.1 hp.2 cred ha lv H hw hr τ
   exact ⟨_, H', τ', h2, exp_met _ (.inr ⟨ha, v', rfl, h1⟩), h3⟩
 ·exact hp.elim
theorem k_Exposed_all {c : CallK} {f : Nat} (h : IsP c f (RH ExpPre ExpG)) {hs : List Hd} (hS : Small hs) (hg : (getT expN hs).length ≤ 900000) {cred : Bool} (ha : expAll hs cred = true) {lv : V} {H : Heap} (hr : RdH H lv hs) (τ : Tape) (q : KV) :
  c f [lv, .bool cred] H τ q = q (.tup [.nils, .bool true]) H τ :=
 RH_val (l := [.bool cred]) h hr ⟨hS, hg⟩ (by show ExpO hs cred = _; unfold ExpO; rw [ha]; rfl) τ q
theorem k_Exposed_some {c : CallK} {f : Nat} (h : IsP c f (RH ExpPre ExpG)) {hs : List Hd} (hS : Small hs) (hg : (getT expN hs).length ≤ 900000) {cred : Bool} (ha : expAll hs cred = false) {lv : V} {H : Heap} (hw : WF H) (hr : RdH H lv hs) (τ : Tape) :
  ∃ v' H' τ', Own H' H.size 1 v' (srtT (expL (splitT expN hs))).length ((srtT (expL (splitT expN hs))).map V.str) ∧ Gr H.size H H' ∧ ∀ q, c f [lv, .bool cred] H τ q = q (.tup [v', .bool false]) H' τ' :=
 RH_lstO (l := [.bool cred]) h hr ⟨hS, hg⟩ (by show ExpO hs cred = _; unfold ExpO; rw [ha]; rfl) hw (by simp) τ
end Go.Am.X

namespace Go.Am.X
abbrev CloneOk (c : CallK) : Prop := ∀ {v n cs H}, WF H → Rd H 1 v n cs → Src H v → n ≤ 140737488355328 → ∀ τ, ∃ v' H' τ', BodP (fun i => H.size ≤ i) H' v' n cs ∧ Gr H.size H H' ∧ ∀ q, c f_slices_Clone_byte [v] H τ q = q v' H' τ'
theorem s_slices_Clone_byte_ret (c : CallK) (N : Nat) {v : V} {n : Nat} {cs : List V} {H : Heap} (hw : WF H) (hr : Rd H 1 v n cs) (hs : Src H v) (hn : n ≤ 140737488355328) (τ : Tape) :
  ∃ v' H' τ', BodP (fun i => H.size ≤ i) H' v' n cs ∧ Gr H.size H H' ∧ ∀ q, s_slices_Clone_byte c N v H τ q = q v' H' τ' := by
 by_cases hv : v = .nils
 ·subst hv
  have h0 : n = 0 ∧ cs = [] := by
   rcases hr with ⟨_, h1, h2⟩ | ⟨_, _, _, _, _, h, _⟩
   ·exact ⟨h1, h2⟩
   ·cases h
  obtain ⟨rfl, rfl⟩ := h0
  refine ⟨.nils, H, τ, BodP.nil _ _, Gr.refl hw, fun q => ?_⟩
  have e : pEq false .slice [.nils, .nils] = some (.bool true) := rfl
  simp only [s_slices_Clone_byte, e, getK_set, ↓reduceIte, Nat.reduceEqDiff, someK_n, effK_n, retK, gK_do, gK_do', gK_skip, gK_skip', gK_none, pick_mk, cond_true, cond_false, condK_tn, condK_fn, bin_eql, bin_neq, bin_lss, bin_leq, bin_gtr, bin_geq, un_not, Bool.not_true, Bool.not_false, bin_str, lenS_mk, nle_l, nle_r, nle_n, nlt_l, nlt_r, nlt_n, neq_r, neq_n, nne_r, nne_n, ext0, ext1, ext30, ext31, ext32, bin_add, bin_sub, decide_true, decide_false]
 ·have e : pEq false .slice [v, .nils] = some (.bool false) := by
   rcases hr with ⟨rfl | ⟨id, off, lo, ex, rfl⟩, _, _⟩ | ⟨id, off, lo, ex, all, rfl, _⟩
   ·exact absurd rfl hv
   ·rfl
   ·rfl
  obtain ⟨v', H', τ', r1, r2, r3⟩ := clone1 hw hr hs hn τ
  have eb : eBuildSlice 0 1 [] [] [] H τ = some (.sl H.size 0 0 0 none 1, H.new [] 0 false, τ) := rfl
  exact ⟨v', H', τ', r2, r3, fun q => by simp only [s_slices_Clone_byte, e, getK_set, ↓reduceIte, Nat.reduceEqDiff, someK_n, effK_n, retK, gK_do, gK_do', gK_skip, gK_skip', gK_none, pick_mk, cond_true, cond_false, condK_tn, condK_fn, bin_eql, bin_neq, bin_lss, bin_leq, bin_gtr, bin_geq, un_not, Bool.not_true, Bool.not_false, bin_str, lenS_mk, nle_l, nle_r, nle_n, nlt_l, nlt_r, nlt_n, neq_r, neq_n, nne_r, nne_n, ext0, ext1, ext30, ext31, ext32, bin_add, bin_sub, decide_true, decide_false, eb, r1]⟩
theorem fa_ptr (i o k : Nat) : pFieldAddr k [.ptr i o] = some (.ptr i (o + k)) := rfl
theorem same1_self {v : V} (h : (∃ b, v = .bool b) ∨ (∃ k n, v = .int k n) ∨ (∃ s, v = .str s) ∨ v = .nils ∨ (∃ i o n l e z, v = .sl i o n l e z) ∨ (∃ i o, v = .ptr i o) ∨ (∃ i, v = .map i)) : same v v = true := by
 rcases h with ⟨b, rfl⟩ | ⟨k, n, rfl⟩ | ⟨s, rfl⟩ | rfl | ⟨i, o, n, l, e, z, rfl⟩ | ⟨i, o, rfl⟩ | ⟨i, rfl⟩
 all_goals first
  | (simp [same, same1, same0]; done)
  | (cases e <;> simp [same, same1, same0])
theorem res_c {fr : T V} {H : Heap} {a n : Nat} {p u : V} (h : fr.get a = some p) (hl : lLoadN n [p] H = some u) : results ⟨fr, H⟩ [.cell a (some n)] = some u := by
 have e : evalL (.load (some n)) [p] H = some u := hl
 simp only [results, resAll, resOf, h, e]
end Go.Am.X

namespace Go.Am.X
theorem newvar {H : Heap} (hw : WF H) (zs : List V) (u : V) (n : Nat) (hz : zs.length = n) (hn : u.cells.length = n) (hn0 : 0 < n) (hs : u.cells.all V.scal = true) (τ : Tape) :
  ∃ H1 H', eAlloc zs [] H τ = some (.ptr H.size 0, H1, τ) ∧ eStore n [.ptr H.size 0, u] H1 τ = some (.tup [], H', τ) ∧ Bx H' H.size u.cells ∧ Gr H.size H H' ∧ H'.size = H.size + 1 ∧ Gr H.size H H1 := by
 have g1 := Gr.new hw zs zs.length true
 have x1 : Bx (H.new zs zs.length true) H.size zs := Bx.new H _ _ _ (Nat.le_refl _)
 obtain ⟨H', s1, s2, s3⟩ := x1.eStore g1.wf 0 u n hn (by omega) hn0 hs τ
 refine ⟨_, H', rfl, s1, ?_, g1.trans (s3.gr (Nat.le_refl _)) (Nat.le_refl _), s3.size, g1⟩
 have : zs.drop (0 + n) = [] := List.drop_eq_nil_of_le (by omega)
 rw [this] at s2
 simpa using s2
theorem newbox {H : Heap} (hw : WF H) (u : V) (τ : Tape) : ∃ H', eBox [u] H τ = some (.ptr H.size 0, H', τ) ∧ Bx H' H.size u.cells ∧ Gr H.size H H' ∧ H'.size = H.size + 1 :=
 ⟨_, rfl, Bx.new H _ _ _ (Nat.le_refl _), Gr.new hw _ _ _, rfl⟩
theorem newcell {H : Heap} (hw : WF H) (zs : List V) (τ : Tape) : ∃ H', eAlloc zs [] H τ = some (.ptr H.size 0, H', τ) ∧ Bx H' H.size zs ∧ Gr H.size H H' ∧ H'.size = H.size + 1 :=
 ⟨_, rfl, Bx.new H _ _ _ (Nat.le_refl _), Gr.new hw _ _ _, rfl⟩
theorem rdH_sc {H : Heap} {v : V} {hs : List Hd} (h : RdH H v hs) : v.cells = [v] ∧ v.scal = true := by
 rcases h.1 with ⟨rfl | ⟨id, off, lo, ex, rfl⟩, _, _⟩ | ⟨id, off, lo, ex, all, rfl, _⟩ <;> exact ⟨rfl, rfl⟩
theorem rd_sc {H : Heap} {v : V} {z n : Nat} {cs : List V} (h : Rd H z v n cs) : v.cells = [v] ∧ v.scal = true := by
 rcases h with ⟨rfl | ⟨id, off, lo, ex, rfl⟩, _, _⟩ | ⟨id, off, lo, ex, all, rfl, _⟩ <;> exact ⟨rfl, rfl⟩
theorem LsH.only {H H' : Heap} {i B : Nat} {v : V} {hs : List Hd} (h : LsH H B v hs) (hg : Only i H H') (hi : i < B) : LsH H' B v hs := ⟨h.1.only hg hi, h.2⟩
theorem bx_load {H : Heap} {id : Nat} {cs : List V} (h : Bx H id cs) {k : Nat} {x : V} (hx : cs[k]? = some x) : lLoad1 [.ptr id k] H = some x := load_cell h.cells hx
theorem bx_loads {H : Heap} {id : Nat} {cs : List V} (h : Bx H id cs) {n : Nat} (hn : n = cs.length) : lLoadN n [.ptr id 0] H = some (.agg cs) := by
 have := load_cells (off := 0) (n := n) h.cells (by omega)
 rw [List.drop_zero, List.take_of_length_le (by omega)] at this
 exact this
def scN : Bs := [115, 101, 116, 45, 99, 111, 111, 107, 105, 101]
def sc2 : Bs := [115, 101, 116, 45, 99, 111, 111, 107, 105, 101, 50]
def cookB (n : Bs) : Bool := lower n == scN || lower n == sc2
def shwB (f : Bs → Bool) (h : Hd) : Bool := !cookB h.1 && f (lower h.1)
theorem filter_snoc {α : Type} (g : α → Bool) (a : List α) (x : α) : (a ++ [x]).filter g = if g x = true then a.filter g ++ [x] else a.filter g := by
 rw [List.filter_append, List.filter_cons]
 cases h : g x <;> simp [h]
theorem l_filter_shown (c : CallK) (N : Nat) (hL : NLowOk c) (f : Bs → Bool) (fv : V) (B0 : Nat) (H0 : Heap) (hF : ∀ x : Bs, x.length ≤ 140737488355328 → ∀ H, Gr B0 H0 H → ∀ τ q, opK c .callv [fv, .str x] H τ q = q (.bool (f x)) H τ)
  (hs : List Hd) (hS : Small hs) (lv : V) (hrd : ∀ H, Gr B0 H0 H → RdH H lv hs) {o B : Nat} (ho : B0 ≤ o) (hoB : o < B) (rp k0 k1 bv uv : V) : ∀ (l pre : List Hd) (hvv : V) (H : Heap) (τ : Tape) (M : Nat), hs = pre ++ l → l.length < M → WF H → Gr B0 H0 H → B ≤ H.size →
  Bx H o [k0, k1, hvv, bv, uv] → LsH H B hvv (pre.filter (shwB f)) →
  ∃ hv' H' τ', Bx H' o [k0, k1, hv', bv, uv] ∧ LsH H' B hv' (hs.filter (shwB f)) ∧ Gr o H H' ∧ ∀ (fr : T V) k, fr.get 3 = some fv → fr.get 8 = some rp → fr.get 9 = some (.ptr o 0) → fr.get 22 = some lv → fr.get 23 = some (.int .i64 (hs.length : Int)) → fr.get 24 = some (.int .i64 (pre.length : Int)) →
   loopK (s_filter_shown_l1 c N) M ⟨fr, H⟩ τ k = k (.exit 0) ⟨(T.set (T.set .leaf 8 rp) 9 (.ptr o 0)), H'⟩ τ' := by
 intro l
 induction l with
 | nil =>
  intro pre hvv H τ M he hM hw hg hB hx hl
  obtain ⟨M, rfl⟩ : ∃ j, M = j + 1 := ⟨M - 1, by omega⟩
  have hp : hs = pre := by rw [he, List.append_nil]
  have e1 : decide (pre.length < hs.length) = false := decide_eq_false (by rw [hp]; simp)
  refine ⟨hvv, H, τ, hx, by rw [hp]; exact hl, Gr.refl hw, fun fr k f3 f8 f9 f22 f23 f24 => ?_⟩
  rw [loopK_succ]
  simp only [s_filter_shown_l1, getK_mk f3, getK_mk f8, getK_mk f9, getK_mk f22, getK_mk f23, getK_mk f24, getK_set, ↓reduceIte, Nat.reduceEqDiff, someK_n, effK_n, retK, gK_do, gK_do', gK_skip, gK_skip', gK_none, pick_mk, cond_true, cond_false, condK_tn, condK_fn, bin_eql, bin_neq, bin_lss, bin_leq, bin_gtr, bin_geq, un_not, Bool.not_true, Bool.not_false, bin_str, lenS_mk, nle_l, nle_r, nle_n, nlt_l, nlt_r, nlt_n, neq_r, neq_n, nne_r, nne_n, ext0, ext1, ext30, ext31, ext32, bin_add, bin_sub, decide_true, decide_false, e1]
  rfl
 | cons x l ih =>
  intro pre hvv H τ M he hM hw hg hB hx hl
  obtain ⟨M, rfl⟩ : ∃ j, M = j + 1 := ⟨M - 1, by omega⟩
  have hlt : pre.length < hs.length := by rw [he]; simp
  have hle := hS.len
  have e1 : decide (pre.length < hs.length) = true := decide_eq_true hlt
  have e3 : wr .i64 ((pre.length : Int) + Int.ofNat 1) = ((pre ++ [x]).length : Int) := by rw [adI (by omega)]; simp
  have hr := (hrd H hg).1
  obtain ⟨id, off, p1, p2⟩ := hd_at (v := lv) pre x l (H := H) (by rw [← he]; exact hr)
  obtain ⟨q1, q2, q3⟩ := p2 H (by rw [← he]; exact hr)
  obtain ⟨H1, H2, a1, s1, b2, g2, z2, _⟩ := newvar hw [(.str []), (.str [])] (hv x) 2 rfl rfl (by omega) rfl τ
  have l1a : lLoad1 [.ptr H.size (0 + 0)] H2 = some (.str x.1) := bx_load b2 rfl
  have l2 : lLoadN 2 [.ptr H.size 0] H2 = some (hv x) := bx_loads b2 rfl
  have hxs := hS.all x (by rw [he]; simp)
  have kl := hL x.1 (by omega)
  have g02 : Gr B0 H0 H2 := hg.trans g2 (by omega)
  have kf := fun τ q => hF (lower x.1) (by rw [lower_len]; omega) H2 g02 τ q
  have x2 : Bx H2 o [k0, k1, hvv, bv, uv] := hx.gr g2 (by omega)
  have l2h := hl.gr g2 hw (Nat.le_refl _)
  have lo := bx_load x2 (k := 2) rfl
  have n1 : strBin .neq (lower x.1) (bs [115, 101, 116, 45, 99, 111, 111, 107, 105, 101]) = some (.bool (!(lower x.1 == scN))) := str_neq _ _
  have n2 : strBin .neq (lower x.1) (bs [115, 101, 116, 45, 99, 111, 111, 107, 105, 101, 50]) = some (.bool (!(lower x.1 == sc2))) := str_neq _ _
  have no : shwB f x = false → ∃ hv' H' τ', Bx H' o [k0, k1, hv', bv, uv] ∧ LsH H' B hv' (hs.filter (shwB f)) ∧ Gr o H H' ∧ ∀ (fr : T V) k, fr.get 3 = some fv → fr.get 8 = some rp → fr.get 9 = some (.ptr o 0) → fr.get 22 = some lv → fr.get 23 = some (.int .i64 (hs.length : Int)) → fr.get 24 = some (.int .i64 (pre.length : Int)) →
    loopK (s_filter_shown_l1 c N) (M + 1) ⟨fr, H⟩ τ k = k (.exit 0) ⟨(T.set (T.set .leaf 8 rp) 9 (.ptr o 0)), H'⟩ τ' := by
   intro hno
   obtain ⟨hv', H', τ', i1, i2, i3, i4⟩ := ih (pre ++ [x]) hvv H2 τ M (by rw [he]; simp) (by simp at hM; omega) g2.wf g02 (by omega) x2 (by rw [filter_snoc, if_neg (by rw [hno]; simp)]; exact l2h)
   refine ⟨hv', H', τ', i1, i2, (g2.weaken (by omega)).trans i3 (Nat.le_refl _), fun fr k f3 f8 f9 f22 f23 f24 => ?_⟩
   rw [loopK_succ]
   simp only [shwB, cookB, Bool.and_eq_false_iff, Bool.not_eq_false', Bool.or_eq_true] at hno
   cases h1 : (lower x.1 == scN) with
   | true =>
    simp only [s_filter_shown_l1, getK_mk f3, getK_mk f8, getK_mk f9, getK_mk f22, getK_mk f23, getK_mk f24, getK_set, ↓reduceIte, Nat.reduceEqDiff, someK_n, effK_n, retK, gK_do, gK_do', gK_skip, gK_skip', gK_none, pick_mk, cond_true, cond_false, condK_tn, condK_fn, bin_eql, bin_neq, bin_lss, bin_leq, bin_gtr, bin_geq, un_not, Bool.not_true, Bool.not_false, bin_str, lenS_mk, nle_l, nle_r, nle_n, nlt_l, nlt_r, nlt_n, neq_r, neq_n, nne_r, nne_n, ext0, ext1, ext30, ext31, ext32, bin_add, bin_sub, decide_true, decide_false, e1, p1, q1, a1, s1, fa_ptr, l1a, kl, n1, h1, s_filter_shown_j2, e3]
    exact i4 _ k (by simp [T.get_set]) (by simp [T.get_set]) (by simp [T.get_set]) (by simp [T.get_set]) (by simp [T.get_set]) (by simp [T.get_set])
   | false =>
    cases h2 : (lower x.1 == sc2) with
    | true =>
     simp only [s_filter_shown_l1, getK_mk f3, getK_mk f8, getK_mk f9, getK_mk f22, getK_mk f23, getK_mk f24, getK_set, ↓reduceIte, Nat.reduceEqDiff, someK_n, effK_n, retK, gK_do, gK_do', gK_skip, gK_skip', gK_none, pick_mk, cond_true, cond_false, condK_tn, condK_fn, bin_eql, bin_neq, bin_lss, bin_leq, bin_gtr, bin_geq, un_not, Bool.not_true, Bool.not_false, bin_str, lenS_mk, nle_l, nle_r, nle_n, nlt_l, nlt_r, nlt_n, neq_r, neq_n, nne_r, nne_n, ext0, ext1, ext30, ext31, ext32, bin_add, bin_sub, decide_true, decide_false, e1, p1, q1, a1, s1, fa_ptr, l1a, kl, n1, h1, n2, h2, s_filter_shown_j2, e3]
     exact i4 _ k (by simp [T.get_set]) (by simp [T.get_set]) (by simp [T.get_set]) (by simp [T.get_set]) (by simp [T.get_set]) (by simp [T.get_set])
    | false =>
     have h3 : f (lower x.1) = false := by
      rcases hno with (h | h) | h
      ·rw [h1] at h; cases h
      ·rw [h2] at h; cases h
      ·exact h
     simp only [s_filter_shown_l1, getK_mk f3, getK_mk f8, getK_mk f9, getK_mk f22, getK_mk f23, getK_mk f24, getK_set, ↓reduceIte, Nat.reduceEqDiff, someK_n, effK_n, retK, gK_do, gK_do', gK_skip, gK_skip', gK_none, pick_mk, cond_true, cond_false, condK_tn, condK_fn, bin_eql, bin_neq, bin_lss, bin_leq, bin_gtr, bin_geq, un_not, Bool.not_true, Bool.not_false, bin_str, lenS_mk, nle_l, nle_r, nle_n, nlt_l, nlt_r, nlt_n, neq_r, neq_n, nne_r, nne_n, ext0, ext1, ext30, ext31, ext32, bin_add, bin_sub, decide_true, decide_false, e1, p1, q1, a1, s1, fa_ptr, l1a, kl, n1, h1, n2, h2, kf, h3, s_filter_shown_j2, e3]
     exact i4 _ k (by simp [T.get_set]) (by simp [T.get_set]) (by simp [T.get_set]) (by simp [T.get_set]) (by simp [T.get_set]) (by simp [T.get_set])
  cases hsh : shwB f x with
  | false => exact no hsh
  | true =>
   have hlen : (pre.filter (shwB f)).length ≤ 1000000 := by
    have := List.length_filter_le (shwB f) pre
    omega
   obtain ⟨w, H3, v', H4, τ4, r1, r2, r3, r4, _, _⟩ := l2h.put g2.wf (by omega) x hlen τ
   have x4 : Bx H4 o [k0, k1, hvv, bv, uv] := x2.gr r4 hoB
   have sc := rdH_sc r3.rdH
   obtain ⟨H5, s4, s5, s6⟩ := x4.eStore r4.wf 2 v' 1 (by rw [sc.1]; rfl) (by simp) (by omega) (by rw [sc.1]; simp [sc.2]) τ4
   have s5' : Bx H5 o [k0, k1, v', bv, uv] := by rw [sc.1] at s5; exact s5
   have r5 := r3.only s6 hoB
   have g5 : Gr o H H5 := ((g2.weaken (B := o) (by omega)).trans (r4.weaken (B := o) (by omega)) (Nat.le_refl _)).trans (s6.gr (Nat.le_refl _)) (Nat.le_refl _)
   have z5 := g5.size
   obtain ⟨hv', H', τ', i1, i2, i3, i4⟩ := ih (pre ++ [x]) v' H5 τ4 M (by rw [he]; simp) (by simp at hM; omega) g5.wf (hg.trans g5 ho) (by omega) s5' (by rw [filter_snoc, if_pos hsh]; exact r5)
   refine ⟨hv', H', τ', i1, i2, g5.trans i3 (Nat.le_refl _), fun fr k f3 f8 f9 f22 f23 f24 => ?_⟩
   rw [loopK_succ]
   simp only [shwB, cookB, Bool.and_eq_true, Bool.not_eq_true', Bool.or_eq_false_iff] at hsh
   obtain ⟨⟨h1, h2⟩, h3⟩ := hsh
   have fa2 : pFieldAddr 2 [.ptr o 0] = some (.ptr o 2) := rfl
   simp only [s_filter_shown_l1, getK_mk f3, getK_mk f8, getK_mk f9, getK_mk f22, getK_mk f23, getK_mk f24, getK_set, ↓reduceIte, Nat.reduceEqDiff, someK_n, effK_n, retK, gK_do, gK_do', gK_skip, gK_skip', gK_none, pick_mk, cond_true, cond_false, condK_tn, condK_fn, bin_eql, bin_neq, bin_lss, bin_leq, bin_gtr, bin_geq, un_not, Bool.not_true, Bool.not_false, bin_str, lenS_mk, nle_l, nle_r, nle_n, nlt_l, nlt_r, nlt_n, neq_r, neq_n, nne_r, nne_n, ext0, ext1, ext30, ext31, ext32, bin_add, bin_sub, decide_true, decide_false, e1, p1, q1, a1, s1, fa_ptr 0, show (pFieldAddr 0 [.ptr H.size 0]) = some (.ptr H.size (0 + 0)) from rfl, l1a, kl, n1, h1, n2, h2, kf, h3, fa2, lo, l2, r1, r2, s4, s_filter_shown_j2, e3]
   exact i4 _ k (by simp [T.get_set]) (by simp [T.get_set]) (by simp [T.get_set]) (by simp [T.get_set]) (by simp [T.get_set]) (by simp [T.get_set])
end Go.Am.X

namespace Go.Am.X
theorem gr_chgO {o : Nat} {H H' : Heap} (h : Gr o H H') : Chg (fun i => o ≤ i) H H' := ⟨h.wf, h.size, fun id _ hp => h.blk id (by omega), fun f _ hp => h.fams f (by omega)⟩
structure Resp (H0 H' : Heap) (v : V) (kind st : Int) (hs : List Hd) (n : Nat) (cs : List V) (url : Bs) : Prop where
 ex : ∃ (m : Nat) (hvv bv : V), v = .agg [.int .i64 kind, .int .i64 st, hvv, bv, .str url] ∧ H0.size ≤ m ∧ m ≤ H'.size ∧ LsH H' m hvv hs ∧ BodP (fun i => H0.size ≤ i ∧ i < m) H' bv n cs
theorem s_filter_shown_ret (c : CallK) {N : Nat} (hN : 9223372036854775807 < N) (hL : NLowOk c) (hC : CloneOk c) (f : Bs → Bool) (fv : V) (hs : List Hd) (hS : Small hs) (kind st : Int) (hvr bvr : V) (url : Bs) (H : Heap) (hw : WF H) (hr : RdH H hvr hs) {n : Nat} {cs : List V} (hb : Rd H 1 bvr n cs) (hbs : Src H bvr) (hn : n ≤ 140737488355328)
  (hF : ∀ x : Bs, x.length ≤ 140737488355328 → ∀ H', Gr H.size H H' → ∀ τ q, opK c .callv [fv, .str x] H' τ q = q (.bool (f x)) H' τ) (τ : Tape) :
  ∃ v H' τ', Resp H H' v kind st (hs.filter (shwB f)) n cs url ∧ Gr H.size H H' ∧ ∀ q, s_filter_shown c N (.int .i64 kind) (.agg [.int .i64 st, hvr, bvr]) (.str url) fv H τ q = q v H' τ' := by
 obtain ⟨H1, a1, x1, g1, z1⟩ := newbox hw (.agg [.int .i64 st, hvr, bvr]) τ
 replace x1 : Bx H1 H.size [.int .i64 st, hvr, bvr] := x1
 obtain ⟨H4, a4, x4, g4, z4⟩ := newcell g1.wf [(.int .i64 (.ofNat 0)), (.int .i64 (.ofNat 0)), .nils, .nils, (.str [])] τ
 have g04 : Gr H.size H H4 := g1.trans g4 (by omega)
 have y4 := x1.gr g4 (by omega)
 obtain ⟨bv', H5, τ5, c1, c2, c3⟩ := hC g04.wf (hb.gr g04 hw (Nat.le_refl _)) (hbs.gr g04 hw (Nat.le_refl _)) hn τ
 have z5 := c2.size
 have y5 := y4.gr c2 (by omega)
 have x5 := x4.gr c2 (by omega)
 have pb : pBuild [(.int .i64 (.ofNat 0)), (.int .i64 (.ofNat 0)), .nils, .nils, (.str [])] [(0, 1), (1, 1), (3, 1), (4, 1)] [.int .i64 kind, .int .i64 st, bv', .str url] = some (.agg [.int .i64 kind, .int .i64 st, .nils, bv', .str url]) := by
  rcases c1 with ⟨rfl, _⟩ | ⟨id, lo, ex, room, fam, ver, pl, st', fr, rfl, _⟩ <;> rfl
 have sb := c1.scal
 obtain ⟨H6, H7, a6, s6, x7, g7, z7, g6⟩ := newvar c2.wf [(.int .i64 (.ofNat 0)), (.int .i64 (.ofNat 0)), .nils, .nils, (.str [])] (.agg [.int .i64 kind, .int .i64 st, .nils, bv', .str url]) 5 rfl rfl (by omega) (by show (true && (true && (true && (bv'.scal && (true && true))))) = true; rw [sb.2]; rfl) τ5
 replace x7 : Bx H7 H5.size [.int .i64 kind, .int .i64 st, .nils, bv', .str url] := x7
 have y6 := y5.gr g6 (by omega)
 have y7 := y5.gr g7 (by omega)
 have w7 := x5.gr g7 (by omega)
 have g07 : Gr H.size H H7 := (g04.trans c2 (by omega)).trans g7 (by omega)
 have ls : ∀ {H' : Heap}, Bx H' H.size [.int .i64 st, hvr, bvr] → lLoad1 [.ptr H.size (0 + 0)] H' = some (.int .i64 st) ∧ lLoad1 [.ptr H.size (0 + 1)] H' = some hvr ∧ lLoad1 [.ptr H.size (0 + 2)] H' = some bvr := fun h => ⟨bx_load h rfl, bx_load h rfl, bx_load h rfl⟩
 have hsame : same bvr bvr = true := by
  apply same1_self
  rcases hb with ⟨rfl | ⟨id, off, lo, ex, rfl⟩, _, _⟩ | ⟨id, off, lo, ex, all, rfl, _⟩
  ·exact .inr (.inr (.inr (.inl rfl)))
  ·exact .inr (.inr (.inr (.inr (.inl ⟨_, _, _, _, _, _, rfl⟩))))
  ·exact .inr (.inr (.inr (.inr (.inl ⟨_, _, _, _, _, _, rfl⟩))))
 have hc : chkLoads [H4, H5, H6, H7] (((.load none), [.ptr H.size (0 + 2)], 0, 1) :: (((.load none), [.ptr H.size (0 + 0)], 0, 2) :: [])) = true := by
  simp only [chkLoads, evalL, lLoad, List.all_cons, List.all_nil, chk1, (ls y4).1, (ls y4).2.2, (ls y5).1, (ls y5).2.2, (ls y6).1, (ls y6).2.2, (ls y7).1, (ls y7).2.2]
  simp [chk1, hsame, ls y4, ls y5, ls y6, evalL, lLoad]
  simp [same, same1, same0]
 obtain ⟨hv', H8, τ8, i1, i2, i3, i4⟩ := l_filter_shown c N hL f fv H.size H hF hs hS hvr (fun H' hg => hr.gr hg hw (Nat.le_refl _)) (o := H5.size) (B := H7.size) (by omega) (by omega) (.ptr H1.size 0) (.int .i64 kind) (.int .i64 st) bv' (.str url) hs [] .nils H7 τ5 N rfl (by have := hS.len; omega) g7.wf g07 (Nat.le_refl _) x7 (LsH.nil _ _)
 have w8 := w7.gr i3 (by omega)
 have hsc := rdH_sc i2.rdH
 obtain ⟨H9, s9, x9, o9⟩ := w8.eStore i3.wf 0 (.agg [.int .i64 kind, .int .i64 st, hv', bv', .str url]) 5 rfl (by simp) (by omega) (by show (true && (true && (hv'.scal && (bv'.scal && (true && true))))) = true; rw [sb.2, hsc.2]; rfl) τ8
 replace x9 : Bx H9 H1.size [.int .i64 kind, .int .i64 st, hv', bv', .str url] := x9
 have z8 := i3.size
 have z9 : H9.size = H8.size := o9.size
 refine ⟨.agg [.int .i64 kind, .int .i64 st, hv', bv', .str url], H9, τ8, ⟨H7.size, hv', bv', rfl, by omega, by omega, i2.only o9 (by omega), ?_⟩, (g07.trans i3 (by omega)).trans (o9.gr (B := H.size) (by omega)) (Nat.le_refl _), fun q => ?_⟩
 ·have b7 : BodP (fun i => H4.size ≤ i ∧ i < H5.size) H5 bv' n cs := c1.weaken c2.wf (fun i hi h => ⟨h, hi⟩)
  have b8 := b7.chg c2.wf ((gr_chgO g7).trans ((gr_chgO i3).weaken (Q := fun i => H5.size ≤ i) (fun i _ h => h)) (fun i _ h => h)) (fun i _ h h' => by omega)
  have b9 := b8.chg i3.wf (o9.chg (P := fun i => i = H1.size) rfl) (fun i _ h h' => by omega)
  exact b9.weaken o9.wf (fun i _ h => by omega)
 ·have e1 : lLoadN 5 [.ptr H5.size 0] H8 = some (.agg [.int .i64 kind, .int .i64 st, hv', bv', .str url]) := bx_loads i1 rfl
  have er : results ⟨T.set .leaf 8 (.ptr H1.size 0), H9⟩ [.cell 8 (some 5)] = some (.agg [.int .i64 kind, .int .i64 st, hv', bv', .str url]) := res_c (by simp [T.get_set]) (bx_loads x9 rfl)
  have pl := (hr.gr g07 hw (Nat.le_refl _)).1.pLen
  simp only [s_filter_shown, a1, effK_n, a4, fa_ptr, (ls y4).1, (ls y4).2.2, (ls y7).2.1, someK_n, c3, pb, a6, s6, hc, cond_true, pl]
  rw [i4 _ _ (by simp [T.get_set]) (by simp [T.get_set]) (by simp [T.get_set]) (by simp [T.get_set]) (by simp [T.get_set]) (by simp [T.get_set])]
  simp only [blockK, Nat.beq_refl, cond_true, seqK, s_filter_shown_j0, getK_set, ↓reduceIte, Nat.reduceEqDiff, someK_n, effK_n, retK, gK_do, gK_do', gK_skip, gK_skip', gK_none, pick_mk, cond_true, cond_false, condK_tn, condK_fn, bin_eql, bin_neq, bin_lss, bin_leq, bin_gtr, bin_geq, un_not, Bool.not_true, Bool.not_false, bin_str, lenS_mk, nle_l, nle_r, nle_n, nlt_l, nlt_r, nlt_n, neq_r, neq_n, nne_r, nne_n, ext0, ext1, ext30, ext31, ext32, bin_add, bin_sub, decide_true, decide_false, e1, s9, er]
end Go.Am.X

namespace Go.Am.X
theorem Resp.step {H00 H0 H' H'' : Heap} {v : V} {kind st : Int} {hs : List Hd} {n : Nat} {cs : List V} {url : Bs} (h : Resp H0 H' v kind st hs n cs url) (hw : WF H') {i : Nat} (ho : Only i H' H'') (hi : i < H0.size) (hz : H00.size ≤ H0.size) : Resp H00 H'' v kind st hs n cs url := by
 obtain ⟨m, hvv, bv, h1, h2, h3, h4, h5⟩ := h.ex
 exact ⟨m, hvv, bv, h1, by omega, by rw [ho.size]; exact h3, h4.only ho (by omega), (h5.chg hw (ho.chg (P := fun j => j = i) rfl) (fun j _ h h' => by omega)).weaken ho.wf (fun j _ h => by omega)⟩
theorem Resp.gr {H0 H' H'' : Heap} {v : V} {kind st : Int} {hs : List Hd} {n : Nat} {cs : List V} {url : Bs} (h : Resp H0 H' v kind st hs n cs url) (hw : WF H') (hg : Gr H'.size H' H'') : Resp H0 H'' v kind st hs n cs url := by
 obtain ⟨m, hvv, bv, h1, h2, h3, h4, h5⟩ := h.ex
 exact ⟨m, hvv, bv, h1, h2, Nat.le_trans h3 hg.size, h4.gr hg hw (Nat.le_refl _), h5.chg hw hg.chg (P := fun i => H0.size ≤ i ∧ i < m) (Q := fun _ => False) (fun _ _ _ h => h)⟩
theorem Resp.cells {H0 H' : Heap} {v : V} {kind st : Int} {hs : List Hd} {n : Nat} {cs : List V} {url : Bs} (h : Resp H0 H' v kind st hs n cs url) : v.cells.length = 5 ∧ v.cells.all V.scal = true ∧ v = .agg v.cells := by
 obtain ⟨m, hvv, bv, rfl, _, _, h4, h5⟩ := h.ex
 have s1 := rdH_sc h4.rdH
 have s2 := h5.scal
 exact ⟨rfl, (by show (true && (true && (hvv.scal && (bv.scal && (true && true))))) = true; rw [s1.2, s2.2]; rfl), rfl⟩
abbrev RepArg (H : Heap) (hvr bvr : V) (hs : List Hd) (n : Nat) (cs : List V) : Prop := RdH H hvr hs ∧ Rd H 1 bvr n cs ∧ Src H bvr
theorem RepArg.gr {H H' : Heap} {hvr bvr : V} {hs : List Hd} {n : Nat} {cs : List V} (h : RepArg H hvr bvr hs n cs) (hg : Gr H.size H H') (hw : WF H) : RepArg H' hvr bvr hs n cs := ⟨h.1.gr hg hw (Nat.le_refl _), h.2.1.gr hg hw (Nat.le_refl _), h.2.2.gr hg hw (Nat.le_refl _)⟩
theorem s_filter_Own_ret (c c0 : CallK) {N : Nat} (hN : 9223372036854775807 < N) (hSh : ∀ k r u fv H τ q, c f_filter_shown [k, r, u, fv] H τ q = s_filter_shown c0 N k r u fv H τ q) (hL : NLowOk c0) (hC : CloneOk c0) (hO : ∀ v H τ q, c0 f_filter_Own_1 [v] H τ q = q (.bool true) H τ)
  (hs : List Hd) (hS : Small hs) (st : Int) (hvr bvr : V) (url : Bs) (H : Heap) (hw : WF H) {n : Nat} {cs : List V} (ha : RepArg H hvr bvr hs n cs) (hn : n ≤ 140737488355328) (τ : Tape) :
  ∃ v H' τ', Resp H H' v 2 st (hs.filter (shwB fun _ => true)) n cs url ∧ Gr H.size H H' ∧ ∀ q, s_filter_Own c N (.agg [.int .i64 st, hvr, bvr]) (.str url) H τ q = q v H' τ' := by
 obtain ⟨H1, a1, x1, g1, z1⟩ := newbox hw (.agg [.int .i64 st, hvr, bvr]) τ
 replace x1 : Bx H1 H.size [.int .i64 st, hvr, bvr] := x1
 obtain ⟨H4, a4, x4, g4, z4⟩ := newcell g1.wf [(.int .i64 (.ofNat 0)), (.int .i64 (.ofNat 0)), .nils, .nils, (.str [])] τ
 have g04 : Gr H.size H H4 := g1.trans g4 (by omega)
 have y4 := x1.gr g4 (by omega)
 have e3 : lLoadN 3 [.ptr H.size 0] H4 = some (.agg [.int .i64 st, hvr, bvr]) := bx_loads y4 rfl
 obtain ⟨hr, hb, hbs⟩ := ha.gr g04 hw
 obtain ⟨v, H5, τ5, r1, r2, r3⟩ := s_filter_shown_ret c0 hN hL hC (fun _ => true) (.func f_filter_Own_1 [] []) hs hS 2 st hvr bvr url H4 g04.wf hr hb hbs hn (fun x _ H' _ τ q => by simp only [opK, List.nil_append, List.append_nil, hO]) τ
 obtain ⟨c1, c2, c3⟩ := r1.cells
 obtain ⟨H6, s6, x6, o6⟩ := (x4.gr r2 (by omega)).eStore r2.wf 0 v 5 c1 (by simp) (by omega) c2 τ5
 rw [show ([(.int .i64 (.ofNat 0)), (.int .i64 (.ofNat 0)), .nils, .nils, (.str [])] : List V).drop (0 + 5) = [] from rfl, List.take_zero, List.nil_append, List.append_nil] at x6
 have e5 : lLoadN 5 [.ptr H1.size 0] H6 = some v := by rw [bx_loads x6 c1.symm, ← c3]
 have er : results ⟨T.set .leaf 4 (.ptr H1.size 0), H6⟩ [.cell 4 (some 5)] = some v := res_c (by simp [T.get_set]) e5
 have r3' : ∀ q, s_filter_shown c0 N (.int .i64 (.ofNat 2)) (.agg [.int .i64 st, hvr, bvr]) (.str url) (.func f_filter_Own_1 [] []) H4 τ q = q v H5 τ5 := r3
 refine ⟨v, H6, τ5, r1.step r2.wf o6 (by omega) (by omega), (g04.trans r2 (by omega)).trans (o6.gr (B := H.size) (by omega)) (Nat.le_refl _), fun q => ?_⟩
 simp only [s_filter_Own, a1, effK_n, a4, e3, someK_n, hSh, r3', s6, er]
def shN : List Bs := [[99, 97, 99, 104, 101, 45, 99, 111, 110, 116, 114, 111, 108], [99, 111, 110, 116, 101, 110, 116, 45, 108, 97, 110, 103, 117, 97, 103, 101], [99, 111, 110, 116, 101, 110, 116, 45, 108, 101, 110, 103, 116, 104], [99, 111, 110, 116, 101, 110, 116, 45, 116, 121, 112, 101], [101, 120, 112, 105, 114, 101, 115], [108, 97, 115, 116, 45, 109, 111, 100, 105, 102, 105, 101, 100], [112, 114, 97, 103, 109, 97]]
def toldB2 (al : Bool) (ns : List Bs) (x : Bs) : Bool := shN.contains x || (al || ns.contains x)
theorem s_filter_Share_1_ret (c : CallK) (N : Nat) (hC : ConSOk c) (x : Bs) {p r : Nat} {al : Bool} {nv : V} {ns : List Bs} {H : Heap} (hp : Bx H p [.bool al]) (hr : Bx H r [nv]) (hn : Rd H 1 nv ns.length (ns.map V.str)) (hl : ns.length < 1000000000) (τ : Tape) (q : KV) :
  s_filter_Share_1 c N (.str x) (.ptr p 0) (.ptr r 0) H τ q = q (.bool (toldB2 al ns x)) H τ := by
 have l1 : lLoad1 [.ptr p 0] H = some (.bool al) := bx_load hp rfl
 have l2 : lLoad1 [.ptr r 0] H = some nv := bx_load hr rfl
 have kc := fun τ q => hC x hl hn τ q
 have j0 : ∀ (fr : T V), fr.get 0 = some (.str x) → fr.get 1 = some (.ptr p 0) → fr.get 2 = some (.ptr r 0) → ∀ τ, s_filter_Share_1_j0 c N q ⟨fr, H⟩ τ = q (.bool (al || ns.contains x)) H τ := by
  intro fr f0 f1 f2 τ
  cases al with
  | true => simp only [s_filter_Share_1_j0, getK_mk f0, getK_mk f1, getK_mk f2, l1, getK_set, ↓reduceIte, Nat.reduceEqDiff, someK_n, effK_n, retK, gK_do, gK_do', gK_skip, gK_skip', gK_none, pick_mk, cond_true, cond_false, condK_tn, condK_fn, bin_eql, bin_neq, bin_lss, bin_leq, bin_gtr, bin_geq, un_not, Bool.not_true, Bool.not_false, bin_str, lenS_mk, nle_l, nle_r, nle_n, nlt_l, nlt_r, nlt_n, neq_r, neq_n, nne_r, nne_n, ext0, ext1, ext30, ext31, ext32, bin_add, bin_sub, decide_true, decide_false, Bool.true_or]
  | false => simp only [s_filter_Share_1_j0, getK_mk f0, getK_mk f1, getK_mk f2, l1, l2, getK_set, ↓reduceIte, Nat.reduceEqDiff, someK_n, effK_n, retK, gK_do, gK_do', gK_skip, gK_skip', gK_none, pick_mk, cond_true, cond_false, condK_tn, condK_fn, bin_eql, bin_neq, bin_lss, bin_leq, bin_gtr, bin_geq, un_not, Bool.not_true, Bool.not_false, bin_str, lenS_mk, nle_l, nle_r, nle_n, nlt_l, nlt_r, nlt_n, neq_r, neq_n, nne_r, nne_n, ext0, ext1, ext30, ext31, ext32, bin_add, bin_sub, decide_true, decide_false, kc, Bool.false_or]
 have j1 : ∀ (fr : T V) (b : Bool), fr.get 0 = some (.str x) → fr.get 1 = some (.ptr p 0) → fr.get 2 = some (.ptr r 0) → fr.get 6 = some (.bool b) → ∀ τ, s_filter_Share_1_j1 c N q ⟨fr, H⟩ τ = q (.bool (b || (al || ns.contains x))) H τ := by
  intro fr b f0 f1 f2 f6 τ
  cases b with
  | true => simp only [s_filter_Share_1_j1, getK_mk f0, getK_mk f1, getK_mk f2, getK_mk f6, condK_tn, Bool.true_or]
  | false =>
   simp only [s_filter_Share_1_j1, getK_mk f0, getK_mk f1, getK_mk f2, getK_mk f6, condK_fn, Bool.false_or]
   exact j0 _ (by simp [T.get_set]) (by simp [T.get_set]) (by simp [T.get_set]) τ
 have ht : toldB2 al ns x = ((x == [99, 97, 99, 104, 101, 45, 99, 111, 110, 116, 114, 111, 108] || (x == [99, 111, 110, 116, 101, 110, 116, 45, 108, 97, 110, 103, 117, 97, 103, 101] || (x == [99, 111, 110, 116, 101, 110, 116, 45, 108, 101, 110, 103, 116, 104] || (x == [99, 111, 110, 116, 101, 110, 116, 45, 116, 121, 112, 101] || (x == [101, 120, 112, 105, 114, 101, 115] || (x == [108, 97, 115, 116, 45, 109, 111, 100, 105, 102, 105, 101, 100] || (x == [112, 114, 97, 103, 109, 97]))))))) || (al || ns.contains x)) := by
  unfold toldB2 shN
  simp only [List.contains_cons, List.contains_nil, Bool.or_false]
 rw [ht]
 have e1 : strBin .eql x (bs [99, 97, 99, 104, 101, 45, 99, 111, 110, 116, 114, 111, 108]) = some (.bool (x == [99, 97, 99, 104, 101, 45, 99, 111, 110, 116, 114, 111, 108])) := str_eql _ _
 have e2 : strBin .eql x (bs [99, 111, 110, 116, 101, 110, 116, 45, 108, 97, 110, 103, 117, 97, 103, 101]) = some (.bool (x == [99, 111, 110, 116, 101, 110, 116, 45, 108, 97, 110, 103, 117, 97, 103, 101])) := str_eql _ _
 have e3 : strBin .eql x (bs [99, 111, 110, 116, 101, 110, 116, 45, 108, 101, 110, 103, 116, 104]) = some (.bool (x == [99, 111, 110, 116, 101, 110, 116, 45, 108, 101, 110, 103, 116, 104])) := str_eql _ _
 have e4 : strBin .eql x (bs [99, 111, 110, 116, 101, 110, 116, 45, 116, 121, 112, 101]) = some (.bool (x == [99, 111, 110, 116, 101, 110, 116, 45, 116, 121, 112, 101])) := str_eql _ _
 have e5 : strBin .eql x (bs [101, 120, 112, 105, 114, 101, 115]) = some (.bool (x == [101, 120, 112, 105, 114, 101, 115])) := str_eql _ _
 have e6 : strBin .eql x (bs [108, 97, 115, 116, 45, 109, 111, 100, 105, 102, 105, 101, 100]) = some (.bool (x == [108, 97, 115, 116, 45, 109, 111, 100, 105, 102, 105, 101, 100])) := str_eql _ _
 have e7 : strBin .eql x (bs [112, 114, 97, 103, 109, 97]) = some (.bool (x == [112, 114, 97, 103, 109, 97])) := str_eql _ _
 cases h1 : (x == ([99, 97, 99, 104, 101, 45, 99, 111, 110, 116, 114, 111, 108] : Bs)) with
 | true =>
  simp only [s_filter_Share_1, bin_str, someK_n, e1, h1, condK_tn, condK_fn]
  rw [j1 _ true (by simp [T.get_set]) (by simp [T.get_set]) (by simp [T.get_set]) (by simp [T.get_set])]
  simp
 | false =>
  cases h2 : (x == ([99, 111, 110, 116, 101, 110, 116, 45, 108, 97, 110, 103, 117, 97, 103, 101] : Bs)) with
  | true =>
   simp only [s_filter_Share_1, bin_str, someK_n, e1, h1, e2, h2, condK_tn, condK_fn]
   rw [j1 _ true (by simp [T.get_set]) (by simp [T.get_set]) (by simp [T.get_set]) (by simp [T.get_set])]
   simp
  | false =>
   cases h3 : (x == ([99, 111, 110, 116, 101, 110, 116, 45, 108, 101, 110, 103, 116, 104] : Bs)) with
   | true =>
    simp only [s_filter_Share_1, bin_str, someK_n, e1, h1, e2, h2, e3, h3, condK_tn, condK_fn]
    rw [j1 _ true (by simp [T.get_set]) (by simp [T.get_set]) (by simp [T.get_set]) (by simp [T.get_set])]
    simp
   | false =>
    cases h4 : (x == ([99, 111, 110, 116, 101, 110, 116, 45, 116, 121, 112, 101] : Bs)) with
    | true =>
     simp only [s_filter_Share_1, bin_str, someK_n, e1, h1, e2, h2, e3, h3, e4, h4, condK_tn, condK_fn]
     rw [j1 _ true (by simp [T.get_set]) (by simp [T.get_set]) (by simp [T.get_set]) (by simp [T.get_set])]
     simp
    | false =>
     cases h5 : (x == ([101, 120, 112, 105, 114, 101, 115] : Bs)) with
     | true =>
      simp only [s_filter_Share_1, bin_str, someK_n, e1, h1, e2, h2, e3, h3, e4, h4, e5, h5, condK_tn, condK_fn]
      rw [j1 _ true (by simp [T.get_set]) (by simp [T.get_set]) (by simp [T.get_set]) (by simp [T.get_set])]
      simp
     | false =>
      cases h6 : (x == ([108, 97, 115, 116, 45, 109, 111, 100, 105, 102, 105, 101, 100] : Bs)) with
      | true =>
       simp only [s_filter_Share_1, bin_str, someK_n, e1, h1, e2, h2, e3, h3, e4, h4, e5, h5, e6, h6, condK_tn, condK_fn]
       rw [j1 _ true (by simp [T.get_set]) (by simp [T.get_set]) (by simp [T.get_set]) (by simp [T.get_set])]
       simp
      | false =>
       simp only [s_filter_Share_1, bin_str, someK_n, e1, h1, e2, h2, e3, h3, e4, h4, e5, h5, e6, h6, e7, condK_fn]
       rw [j1 _ _ (by simp [T.get_set]) (by simp [T.get_set]) (by simp [T.get_set]) (by simp [T.get_set]; rfl)]
       simp
end Go.Am.X

namespace Go.Am.X
def expNs (hs : List Hd) (cred : Bool) : List Bs := bif expAll hs cred then [] else srtT (expL (splitT expN hs))
theorem expNs_len {hs : List Hd} (hg : (getT expN hs).length ≤ 900000) (cred : Bool) : (expNs hs cred).length < 1000000 := by
 unfold expNs
 cases expAll hs cred with
 | true => simp
 | false =>
  rw [cond_false]
  have h1 := (srtT_ok (expL (splitT expN hs))).2.2
  have h2 := expL_len (splitT expN hs)
  have h3 := (split_ok hg).1
  omega
theorem k_Exposed {c : CallK} {f : Nat} (h : IsP c f (RH ExpPre ExpG)) {hs : List Hd} (hS : Small hs) (hg : (getT expN hs).length ≤ 900000) (cred : Bool) {lv : V} {H : Heap} (hw : WF H) (hr : RdH H lv hs) (τ : Tape) :
  ∃ nv H' τ', Own H' H.size 1 nv (expNs hs cred).length ((expNs hs cred).map V.str) ∧ Gr H.size H H' ∧ ∀ q, c f [lv, .bool cred] H τ q = q (.tup [nv, .bool (expAll hs cred)]) H' τ' := by
 unfold expNs
 cases ha : expAll hs cred with
 | true => exact ⟨.nils, H, τ, Own.nil _ _ _, Gr.refl hw, fun q => k_Exposed_all h hS hg ha hr τ q⟩
 | false => exact k_Exposed_some h hS hg ha hw hr τ
def shF (hs : List Hd) (cred : Bool) : Bs → Bool := toldB2 (expAll hs cred) (expNs hs cred)
theorem s_filter_Share_ret (c c0 : CallK) {N : Nat} (hN : 9223372036854775807 < N) (hSh : ∀ k r u fv H τ q, c f_filter_shown [k, r, u, fv] H τ q = s_filter_shown c0 N k r u fv H τ q) (hE : IsP c f_cors_Exposed (RH ExpPre ExpG)) (hL : NLowOk c0) (hC : CloneOk c0)
  (hO : ∀ (x : Bs) {p r : Nat} {al : Bool} {nv : V} {ns : List Bs} {H : Heap}, Bx H p [.bool al] → Bx H r [nv] → Rd H 1 nv ns.length (ns.map V.str) → ns.length < 1000000000 → ∀ τ q, c0 f_filter_Share_1 [.str x, .ptr p 0, .ptr r 0] H τ q = q (.bool (toldB2 al ns x)) H τ)
  (hs : List Hd) (hS : Small hs) (hg : (getT expN hs).length ≤ 900000) (cred : Bool) (st : Int) (hvr bvr : V) (url : Bs) (H : Heap) (hw : WF H) {n : Nat} {cs : List V} (ha : RepArg H hvr bvr hs n cs) (hn : n ≤ 140737488355328) (τ : Tape) :
  ∃ v H' τ', Resp H H' v 3 st (hs.filter (shwB (shF hs cred))) n cs url ∧ Gr H.size H H' ∧ ∀ q, s_filter_Share c N (.agg [.int .i64 st, hvr, bvr]) (.str url) (.bool cred) H τ q = q v H' τ' := by
 obtain ⟨H1, a1, x1, g1, z1⟩ := newbox hw (.agg [.int .i64 st, hvr, bvr]) τ
 replace x1 : Bx H1 H.size [.int .i64 st, hvr, bvr] := x1
 obtain ⟨H4, a4, x4, g4, z4⟩ := newcell g1.wf [(.int .i64 (.ofNat 0)), (.int .i64 (.ofNat 0)), .nils, .nils, (.str [])] τ
 have g04 : Gr H.size H H4 := g1.trans g4 (by omega)
 have y4 := x1.gr g4 (by omega)
 have e1 : lLoad1 [.ptr H.size (0 + 1)] H4 = some hvr := bx_load y4 rfl
 obtain ⟨nv, H9, τ9, o1, g9, k9⟩ := k_Exposed hE hS hg cred g04.wf (ha.gr g04 hw).1 τ
 have z9 := g9.size
 have nsc := rd_sc o1.rd
 obtain ⟨H14, a14, x14, g14, z14⟩ := newcell g9.wf [.nils] τ9
 obtain ⟨H17, a17, x17, g17, z17⟩ := newcell g14.wf [.bool false] τ9
 have w17 := x14.gr g17 (by omega)
 obtain ⟨H20, s20, x20, o20⟩ := w17.eStore g17.wf 0 nv 1 (by rw [nsc.1]; rfl) (by simp) (by omega) (by rw [nsc.1]; simp [nsc.2]) τ9
 replace x20 : Bx H20 H9.size [nv] := by rw [nsc.1] at x20; exact x20
 have w20 := x17.only o20 (by omega)
 have z20 : H20.size = H17.size := o20.size
 obtain ⟨H23, s23, x23, o23⟩ := w20.eStore o20.wf 0 (.bool (expAll hs cred)) 1 rfl (by simp) (by omega) rfl τ9
 replace x23 : Bx H23 H14.size [.bool (expAll hs cred)] := x23
 have w23 := x20.only o23 (by omega)
 have z23 : H23.size = H20.size := o23.size
 have g923 : Gr H9.size H9 H23 := (((g14.trans g17 (by omega)).trans (o20.gr (B := H9.size) (by omega)) (Nat.le_refl _)).trans (o23.gr (B := H9.size) (by omega)) (Nat.le_refl _))
 have g023 : Gr H.size H H23 := (g04.trans g9 (by omega)).trans g923 (by omega)
 have y23 := (y4.gr g9 (by omega)).gr g923 (by omega)
 have r23 := (x4.gr g9 (by omega)).gr g923 (by omega)
 have e3 : lLoadN 3 [.ptr H.size 0] H23 = some (.agg [.int .i64 st, hvr, bvr]) := bx_loads y23 rfl
 have n23 : Rd H23 1 nv (expNs hs cred).length ((expNs hs cred).map V.str) := o1.rd.gr g923 g9.wf (Nat.le_refl _)
 obtain ⟨hr, hb, hbs⟩ := ha.gr g023 hw
 have hnl := expNs_len hg cred
 obtain ⟨v, H5, τ5, r1, r2, r3⟩ := s_filter_shown_ret c0 hN hL hC (shF hs cred) (.func f_filter_Share_1 [] [.ptr H14.size 0, .ptr H9.size 0]) hs hS 3 st hvr bvr url H23 g023.wf hr hb hbs hn
  (fun x _ H' hg' τ q => by
   simp only [opK, List.nil_append, List.cons_append]
   exact hO x (x23.gr hg' (by omega)) (w23.gr hg' (by omega)) (n23.gr hg' g023.wf (Nat.le_refl _)) (by omega) τ q) τ9
 obtain ⟨c1, c2, c3⟩ := r1.cells
 obtain ⟨H6, s6, x6, o6⟩ := (r23.gr r2 (by omega)).eStore r2.wf 0 v 5 c1 (by simp) (by omega) c2 τ5
 rw [show ([(.int .i64 (.ofNat 0)), (.int .i64 (.ofNat 0)), .nils, .nils, (.str [])] : List V).drop (0 + 5) = [] from rfl, List.take_zero, List.nil_append, List.append_nil] at x6
 have e5 : lLoadN 5 [.ptr H1.size 0] H6 = some v := by rw [bx_loads x6 c1.symm, ← c3]
 have er : results ⟨T.set .leaf 6 (.ptr H1.size 0), H6⟩ [.cell 6 (some 5)] = some v := res_c (by simp [T.get_set]) e5
 have r3' : ∀ q, s_filter_shown c0 N (.int .i64 (.ofNat 3)) (.agg [.int .i64 st, hvr, bvr]) (.str url) (.func f_filter_Share_1 [] [.ptr H14.size 0, .ptr H9.size 0]) H23 τ9 q = q v H5 τ5 := r3
 refine ⟨v, H6, τ5, r1.step r2.wf o6 (by omega) (by omega), (g023.trans r2 (by omega)).trans (o6.gr (B := H.size) (by omega)) (Nat.le_refl _), fun q => ?_⟩
 have x0 : pExtract 0 [.tup [nv, .bool (expAll hs cred)]] = some nv := rfl
 have x1' : pExtract 1 [.tup [nv, .bool (expAll hs cred)]] = some (.bool (expAll hs cred)) := rfl
 have eT : List.take 0 [V.ptr H14.size 0, V.ptr H9.size 0] = [] := rfl
 have eD : List.drop 0 [V.ptr H14.size 0, V.ptr H9.size 0] = [.ptr H14.size 0, .ptr H9.size 0] := rfl
 simp only [s_filter_Share, a1, effK_n, a4, fa_ptr, e1, k9, x0, x1', a14, a17, s20, s23, e3, eT, eD, someK_n, hSh, r3', s6, er]
end Go.Am.X

namespace Go.Am.X
theorem same_rd {H : Heap} {v : V} {z n : Nat} {cs : List V} (hb : Rd H z v n cs) : same v v = true := by
 apply same1_self
 rcases hb with ⟨rfl | ⟨id, off, lo, ex, rfl⟩, _, _⟩ | ⟨id, off, lo, ex, all, rfl, _⟩
 ·exact .inr (.inr (.inr (.inl rfl)))
 ·exact .inr (.inr (.inr (.inr (.inl ⟨_, _, _, _, _, _, rfl⟩))))
 ·exact .inr (.inr (.inr (.inr (.inl ⟨_, _, _, _, _, _, rfl⟩))))
def keptB (h : Hd) : Bool := !cookB h.1
end Go.Am.X

namespace Go.Am.X
def sharB (al : Bool) (ns : List Bs) (h : Hd) : Bool := al || ns.contains (lower h.1)
end Go.Am.X

namespace Go.Am.X
theorem own_P {H : Heap} {B z : Nat} {v : V} {n : Nat} {cs : List V} (h : Own H B z v n cs) (hw : WF H) : OwnP (fun i => B ≤ i ∧ i < H.size) H z v n cs :=
 OwnP.weaken (P := fun i => B ≤ i) h hw (fun i hi hp => ⟨hp, hi⟩)
theorem ownP_rdH {P : Nat → Prop} {H : Heap} {v : V} {hs : List Hd} (h : OwnP P H 2 v hs.length (hcells hs)) : RdH H v hs := ⟨h.own0.rd, h.own0.src⟩
def shrB (hs : List Hd) (cred : Bool) (h : Hd) : Bool := sharB (expAll hs cred) (expNs hs cred ++ shN) h
end Go.Am.X

