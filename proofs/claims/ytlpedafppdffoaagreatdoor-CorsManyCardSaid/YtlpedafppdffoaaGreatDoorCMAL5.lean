/- The abstract machine, printed functions of the program, and what they are shown to be. -/
import Derived.Test.YtlpedafppdffoaaGreatDoorCMAL2
import Derived.Test.YtlpedafppdffoaaGreatDoorCMAL4
import Derived.Test.YtlpedafppdffoaaGreatDoorCMAL0
set_option linter.unusedSimpArgs false
set_option linter.unusedVariables false
set_option linter.unusedSectionVars false
set_option maxRecDepth 100000
namespace Go.Am.X
def safeH (h : Hd) : Bool := safeB h.1 h.2
def outN (hs : List Hd) : List Bs := (hs.filter fun h => !safeH h).map fun h => lower h.1
def safN (hs : List Hd) : List Bs := (hs.filter safeH).map fun h => lower h.1
def szN (hs : List Hd) : Nat := ((hs.filter safeH).map fun h => h.2.length).sum
def unsL (hs : List Hd) : List Bs := if 1024 < szN hs then outN hs ++ safN hs else outN hs
theorem outN_snoc (a : List Hd) (x : Hd) : outN (a ++ [x]) = outN a ++ (if safeH x = true then [] else [lower x.1]) := by
 unfold outN; rw [List.filter_append, List.map_append]; congr 1
 cases h : safeH x <;> simp [h]
theorem safN_snoc (a : List Hd) (x : Hd) : safN (a ++ [x]) = safN a ++ (if safeH x = true then [lower x.1] else []) := by
 unfold safN; rw [List.filter_append, List.map_append]; congr 1
 cases h : safeH x <;> simp [h]
theorem szN_snoc (a : List Hd) (x : Hd) : szN (a ++ [x]) = szN a + (if safeH x = true then x.2.length else 0) := by
 unfold szN; rw [List.filter_append, List.map_append, List.sum_append]; congr 1
 cases h : safeH x <;> simp [h]
theorem szN_le : ∀ (hs : List Hd), (∀ h ∈ hs, h.2.length ≤ 10000) → szN hs ≤ hs.length * 10000 := by
 intro hs
 induction hs with
 | nil => intro _; simp [szN]
 | cons x l ih =>
  intro h
  have h1 := ih fun y hy => h y (List.mem_cons_of_mem _ hy)
  have h2 := h x List.mem_cons_self
  unfold szN at *
  rw [List.filter_cons]
  split
  ·simp only [List.map_cons, List.sum_cons, List.length_cons]; omega
  ·simp only [List.length_cons]; omega
theorem names_le {hs : List Hd} (hS : Small hs) : (outN hs).length + (safN hs).length ≤ 1000 ∧ (∀ x ∈ outN hs, x.length ≤ 10000) ∧ ∀ x ∈ safN hs, x.length ≤ 10000 := by
 have hl := hS.len
 refine ⟨?_, fun x hx => ?_, fun x hx => ?_⟩
 ·have : ∀ hs : List Hd, (outN hs).length + (safN hs).length = hs.length := by
   intro hs
   induction hs with
   | nil => rfl
   | cons y l ih =>
    unfold outN safN at *
    rw [List.filter_cons, List.filter_cons]
    cases h : safeH y <;> simp [h] at ih ⊢ <;> omega
  rw [this]; exact hl
 ·obtain ⟨y, hy, rfl⟩ := List.mem_map.1 hx
  rw [lower_len]; exact (hS.all y (List.mem_filter.1 hy).1).1
 ·obtain ⟨y, hy, rfl⟩ := List.mem_map.1 hx
  rw [lower_len]; exact (hS.all y (List.mem_filter.1 hy).1).1
theorem l_cors_Unsafe (c : CallK) (N : Nat) (hL : NLowOk c) (hSf : IsP c f_headers_Safe SafeR) (hs : List Hd) (hS : Small hs) (lv : V) (B : Nat) : ∀ (l pre : List Hd) (m1 m2 : Nat) (H : Heap) (τ : Tape) (M : Nat), hs = pre ++ l → l.length < M → WF H → B ≤ m1 → B ≤ m2 → m1 ≠ m2 →
  (∀ H', Gr B H H' → RdH H' lv hs) → Mk H m1 (addAll (outN pre)) → Mk H m2 (addAll (safN pre)) →
  ∃ H' τ', Mk H' m1 (addAll (outN hs)) ∧ Mk H' m2 (addAll (safN hs)) ∧ Gr B H H' ∧ ∀ (fr : T V) k, fr.get 3 = some (.map m1) → fr.get 4 = some (.map m2) → fr.get 5 = some (.int .i64 (szN pre : Int)) → fr.get 11 = some lv → fr.get 12 = some (.int .i64 (hs.length : Int)) → fr.get 13 = some (.int .i64 (pre.length : Int)) →
   loopK (s_cors_Unsafe_l2 c N) M ⟨fr, H⟩ τ k = k (.exit 0) ⟨(T.set (T.set (T.set .leaf 3 (.map m1)) 4 (.map m2)) 5 (.int .i64 (szN hs : Int))), H'⟩ τ' := by
 intro l
 induction l with
 | nil =>
  intro pre m1 m2 H τ M he hm hw hB1 hB2 hne hrd h1 h2
  obtain ⟨M, rfl⟩ : ∃ j, M = j + 1 := ⟨M - 1, by omega⟩
  have hp : hs = pre := by rw [he, List.append_nil]
  have e1 : decide (pre.length < hs.length) = false := decide_eq_false (by rw [hp]; simp)
  refine ⟨H, τ, by rw [hp]; exact h1, by rw [hp]; exact h2, Gr.refl hw, fun fr k f3 f4 f5 f11 f12 f13 => ?_⟩
  rw [loopK_succ]
  simp only [s_cors_Unsafe_l2, getK_mk f3, getK_mk f4, getK_mk f5, getK_mk f11, getK_mk f12, getK_mk f13, getK_set, ↓reduceIte, Nat.reduceEqDiff, someK_n, effK_n, retK, gK_do, gK_do', gK_skip, gK_skip', gK_none, pick_mk, cond_true, cond_false, condK_tn, condK_fn, bin_eql, bin_neq, bin_lss, bin_leq, bin_gtr, bin_geq, un_not, Bool.not_true, Bool.not_false, bin_str, lenS_mk, nle_l, nle_r, nle_n, nlt_l, nlt_r, nlt_n, neq_r, neq_n, nne_r, nne_n, ext0, ext1, ext30, ext31, ext32, bin_add, bin_sub, decide_true, decide_false, e1]
  rw [hp]
  rfl
 | cons x l ih =>
  intro pre m1 m2 H τ M he hm hw hB1 hB2 hne hrd h1 h2
  obtain ⟨M, rfl⟩ : ∃ j, M = j + 1 := ⟨M - 1, by omega⟩
  have hlt : pre.length < hs.length := by rw [he]; simp
  have hl := hS.len
  have e1 : decide (pre.length < hs.length) = true := decide_eq_true hlt
  have e3 : wr .i64 ((pre.length : Int) + Int.ofNat 1) = ((pre ++ [x]).length : Int) := by rw [adI (by omega)]; simp
  have hr := (hrd H (Gr.refl hw)).1
  obtain ⟨id, o, p1, p2⟩ := hd_at (v := lv) pre x l (H := H) (by rw [← he]; exact hr)
  obtain ⟨q1, q2, q3⟩ := p2 H (by rw [← he]; exact hr)
  obtain ⟨H1, H2, a1, s1, b2, g2, lt2⟩ := box2 hw (.str x.1) (.str x.2) (.str []) (.str []) rfl rfl τ
  have s1' : eStore 2 [.ptr H.size 0, hv x] H1 τ = some (.tup [], H2, τ) := s1
  have l1a : lLoad1 [.ptr H.size 0] H2 = some (.str x.1) := load_cell b2.cells rfl
  have l1b : lLoad1 [.ptr H.size 1] H2 = some (.str x.2) := load_cell b2.cells rfl
  have fa : pFieldAddr 0 [.ptr H.size 0] = some (.ptr H.size 0) := rfl
  have fb : pFieldAddr 1 [.ptr H.size 0] = some (.ptr H.size 1) := rfl
  have hx := hS.all x (by rw [he]; simp)
  have kl := hL x.1 (by omega)
  have ks := fun H τ q => k_Safe hSf x.1 x.2 (by omega) H τ q
  have lt1 := h1.lt hw
  have lt2' := h2.lt hw
  have k1 := h1.gr g2 lt1
  have k2 := h2.gr g2 lt2'
  have hB : B ≤ H.size := by omega
  have gB2 := g2.weaken hB
  have hsz := szN_le pre fun y hy => (hS.all y (by rw [he]; simp [hy])).2
  have hpl : pre.length ≤ 1000 := by omega
  cases hsf : safeH x with
  | false =>
   have hsf' : safeB x.1 x.2 = false := hsf
   obtain ⟨n, hn⟩ := mlook_K k1 (lower x.1)
   obtain ⟨H3, r1, r2, r3⟩ := mput_K k1 g2.wf (lower x.1) (wr .i64 (n + Int.ofNat 1)) τ
   have gB3 : Gr B H H3 := gB2.trans (r3.gr hB1) (Nat.le_refl _)
   obtain ⟨H', τ', i1, i2, i3, i4⟩ := ih (pre ++ [x]) m1 m2 H3 τ M (by rw [he]; simp) (by simp at hm; omega) r3.wf hB1 hB2 hne (fun H' hg => hrd H' (gB3.trans hg (Nat.le_refl _)))
    (by rw [outN_snoc, if_neg (by rw [hsf]; simp), addAll_snoc]; exact r2) (by rw [safN_snoc, if_neg (by rw [hsf]; simp), List.append_nil]; exact k2.only r3 (Ne.symm hne))
   refine ⟨H', τ', i1, i2, gB3.trans i3 (Nat.le_refl _), fun fr k f3 f4 f5 f11 f12 f13 => ?_⟩
   rw [loopK_succ]
   simp only [s_cors_Unsafe_l2, getK_mk f3, getK_mk f4, getK_mk f5, getK_mk f11, getK_mk f12, getK_mk f13, getK_set, ↓reduceIte, Nat.reduceEqDiff, someK_n, effK_n, retK, gK_do, gK_do', gK_skip, gK_skip', gK_none, pick_mk, cond_true, cond_false, condK_tn, condK_fn, bin_eql, bin_neq, bin_lss, bin_leq, bin_gtr, bin_geq, un_not, Bool.not_true, Bool.not_false, bin_str, lenS_mk, nle_l, nle_r, nle_n, nlt_l, nlt_r, nlt_n, neq_r, neq_n, nne_r, nne_n, ext0, ext1, ext30, ext31, ext32, bin_add, bin_sub, decide_true, decide_false, e1, p1, q1, a1, s1', fa, fb, l1a, l1b, kl, ks, hsf', hn, r1, s_cors_Unsafe_j3, e3]
   refine i4 _ k (by simp [T.get_set]) (by simp [T.get_set]) ?_ (by simp [T.get_set]) (by simp [T.get_set]) (by simp [T.get_set])
   rw [szN_snoc, if_neg (by rw [hsf]; simp)]
   simp [T.get_set]
  | true =>
   have hsf' : safeB x.1 x.2 = true := hsf
   obtain ⟨n, hn⟩ := mlook_K k2 (lower x.1)
   obtain ⟨H3, r1, r2, r3⟩ := mput_K k2 g2.wf (lower x.1) (wr .i64 (n + Int.ofNat 1)) τ
   have b3 : Bx H3 H.size [.str x.1, .str x.2] := b2.only r3 (by omega)
   have l3b : lLoad1 [.ptr H.size 1] H3 = some (.str x.2) := load_cell b3.cells rfl
   have e5 : wr .i64 ((szN pre : Int) + (x.2.length : Int)) = ((szN (pre ++ [x]) : Nat) : Int) := by
    rw [szN_snoc, if_pos hsf, wr_id (by omega) (by omega)]; omega
   have gB3 : Gr B H H3 := gB2.trans (r3.gr hB2) (Nat.le_refl _)
   obtain ⟨H', τ', i1, i2, i3, i4⟩ := ih (pre ++ [x]) m1 m2 H3 τ M (by rw [he]; simp) (by simp at hm; omega) r3.wf hB1 hB2 hne (fun H' hg => hrd H' (gB3.trans hg (Nat.le_refl _)))
    (by rw [outN_snoc, if_pos hsf, List.append_nil]; exact k1.only r3 hne) (by rw [safN_snoc, if_pos hsf, addAll_snoc]; exact r2)
   refine ⟨H', τ', i1, i2, gB3.trans i3 (Nat.le_refl _), fun fr k f3 f4 f5 f11 f12 f13 => ?_⟩
   rw [loopK_succ]
   simp only [s_cors_Unsafe_l2, getK_mk f3, getK_mk f4, getK_mk f5, getK_mk f11, getK_mk f12, getK_mk f13, getK_set, ↓reduceIte, Nat.reduceEqDiff, someK_n, effK_n, retK, gK_do, gK_do', gK_skip, gK_skip', gK_none, pick_mk, cond_true, cond_false, condK_tn, condK_fn, bin_eql, bin_neq, bin_lss, bin_leq, bin_gtr, bin_geq, un_not, Bool.not_true, Bool.not_false, bin_str, lenS_mk, nle_l, nle_r, nle_n, nlt_l, nlt_r, nlt_n, neq_r, neq_n, nne_r, nne_n, ext0, ext1, ext30, ext31, ext32, bin_add, bin_sub, decide_true, decide_false, e1, p1, q1, a1, s1', fa, fb, l1a, l1b, kl, ks, hsf', hn, r1, l3b, e5, s_cors_Unsafe_j3, e3]
   exact i4 _ k (by simp [T.get_set]) (by simp [T.get_set]) (by simp [T.get_set]) (by simp [T.get_set]) (by simp [T.get_set]) (by simp [T.get_set])
abbrev NamP (c : CallK) : Prop := ∀ vs H τ q, c f_cors_names vs H τ q = effK (namesP vs H τ) q
abbrev CpyP (c : CallK) : Prop := ∀ vs H τ q, c f_maps_Copy_int vs H τ q = effK (copyP vs H τ) q
theorem s_cors_Unsafe_ret (c : CallK) {N : Nat} (hN : 9223372036854775807 < N) (hL : NLowOk c) (hSf : IsP c f_headers_Safe SafeR) (hNm : NamP c) (hCp : CpyP c) (hs : List Hd) (hS : Small hs) (lv : V) (H : Heap) (hw : WF H) (hr : RdH H lv hs) (τ : Tape) :
  ∃ v' H' τ', LsS H' H.size v' (srtT (unsL hs)) ∧ Gr H.size H H' ∧ ∀ q, s_cors_Unsafe c N lv H τ q = q v' H' τ' := by
 obtain ⟨H1, a1, k1, g1, z1⟩ := mk_new hw τ
 obtain ⟨H2, a2, k2, g2, z2⟩ := mk_new g1.wf τ
 have k1' := k1.gr g2 (by omega)
 have g12 : Gr H.size H H2 := g1.trans g2 (by omega)
 have hl := hS.len
 obtain ⟨H3, τ3, m1, m2, g3, k3⟩ := l_cors_Unsafe c N hL hSf hs hS lv H.size hs [] H.size H1.size H2 τ N rfl (by omega) g2.wf (Nat.le_refl _) (by omega) (by omega) (fun H' hg => hr.gr (g12.trans hg (Nat.le_refl _)) hw (Nat.le_refl _)) k1' k2
 obtain ⟨n1, n2, n3⟩ := names_le hS
 obtain ⟨u1, u2, u3⟩ := addAll_ok (outN hs)
 obtain ⟨v1, v2, v3⟩ := addAll_ok (safN hs)
 have g03 := g12.trans g3 (Nat.le_refl _)
 have pl := hr.1.pLen
 by_cases hbig : 1024 < szN hs
 ·have eb : decide (Int.ofNat 1024 < (szN hs : Int)) = true := decide_eq_true (by have : Int.ofNat 1024 = 1024 := rfl; omega)
  obtain ⟨H4, es, c1, c2, c3, c4, c5, c6⟩ := copy_K g3.wf m1 m2 (by omega) (by omega) (by omega) (fun x hx => by have := n2 x ((u2 x).1 hx); omega) (fun x hx => by have := n3 x ((v2 x).1 hx); omega) u1 τ3
  obtain ⟨v', H5, τ5, d1, d2, d3⟩ := names_K c6.wf c2 (L := unsL hs) c3 (fun x => by rw [c4, u2, v2]; unfold unsL; rw [if_pos hbig, List.mem_append]) (by omega) (fun x hx => by
   unfold unsL at hx; rw [if_pos hbig] at hx
   rcases List.mem_append.1 hx with h | h
   ·have := n2 x h; omega
   ·have := n3 x h; omega) τ3
  have g34 : Gr H.size H H4 := g03.trans (c6.gr (Nat.le_refl _)) (Nat.le_refl _)
  refine ⟨v', H5, τ5, d2.weaken (by have := g34.size; omega), g34.trans d3 (by have := g34.size; omega), fun q => ?_⟩
  simp only [s_cors_Unsafe, a1, a2, effK_n, pl, someK_n]
  rw [k3 _ _ (by simp [T.get_set]) (by simp [T.get_set]) (by simp [T.get_set, szN]) (by simp [T.get_set]) (by simp [T.get_set]) (by simp [T.get_set])]
  simp only [blockK, Nat.beq_refl, cond_true, seqK, s_cors_Unsafe_j0, s_cors_Unsafe_j1, getK_set, ↓reduceIte, Nat.reduceEqDiff, someK_n, effK_n, retK, gK_do, gK_do', gK_skip, gK_skip', gK_none, pick_mk, cond_true, cond_false, condK_tn, condK_fn, bin_eql, bin_neq, bin_lss, bin_leq, bin_gtr, bin_geq, un_not, Bool.not_true, Bool.not_false, bin_str, lenS_mk, nle_l, nle_r, nle_n, nlt_l, nlt_r, nlt_n, neq_r, neq_n, nne_r, nne_n, ext0, ext1, ext30, ext31, ext32, bin_add, bin_sub, decide_true, decide_false, eb, hCp, c1, hNm, d1]
 ·have eb : decide (Int.ofNat 1024 < (szN hs : Int)) = false := decide_eq_false (by have : Int.ofNat 1024 = 1024 := rfl; omega)
  obtain ⟨ms, cl, w1, w2, w3⟩ := m1
  obtain ⟨v', H5, τ5, d1, d2, d3⟩ := names_K g3.wf w1 (L := unsL hs) (by rw [w2]; exact u1) (fun x => by rw [w2, u2]; unfold unsL; rw [if_neg hbig]) (by rw [w2]; omega) (fun x hx => by
   unfold unsL at hx; rw [if_neg hbig] at hx
   have := n2 x hx; omega) τ3
  refine ⟨v', H5, τ5, d2.weaken (by have := g03.size; omega), g03.trans d3 (by have := g03.size; omega), fun q => ?_⟩
  simp only [s_cors_Unsafe, a1, a2, effK_n, pl, someK_n]
  rw [k3 _ _ (by simp [T.get_set]) (by simp [T.get_set]) (by simp [T.get_set, szN]) (by simp [T.get_set]) (by simp [T.get_set]) (by simp [T.get_set])]
  simp only [blockK, Nat.beq_refl, cond_true, seqK, s_cors_Unsafe_j0, s_cors_Unsafe_j1, getK_set, ↓reduceIte, Nat.reduceEqDiff, someK_n, effK_n, retK, gK_do, gK_do', gK_skip, gK_skip', gK_none, pick_mk, cond_true, cond_false, condK_tn, condK_fn, bin_eql, bin_neq, bin_lss, bin_leq, bin_gtr, bin_geq, un_not, Bool.not_true, Bool.not_false, bin_str, lenS_mk, nle_l, nle_r, nle_n, nlt_l, nlt_r, nlt_n, neq_r, neq_n, nne_r, nne_n, ext0, ext1, ext30, ext31, ext32, bin_add, bin_sub, decide_true, decide_false, eb, hNm, d1]
end Go.Am.X

namespace Go.Am.X
theorem lowB2 (x : UInt8) : lowB (lowB x) = lowB x := by
 unfold lowB
 by_cases h : 65 ≤ x.toNat ∧ x.toNat ≤ 90
 ·have e : (UInt8.ofNat (x.toNat + 32)).toNat = x.toNat + 32 := by simp; omega
  rw [if_pos h, if_neg (by rw [e]; omega)]
 ·rw [if_neg h, if_neg h]
theorem lower2 (s : Bs) : lower (lower s) = lower s := by
 unfold lower; rw [List.map_map]; exact List.map_congr_left fun x _ => lowB2 x
theorem safeB_low (n v : Bs) : safeB (lower n) v = safeB n v := by unfold safeB; simp only [lower2]
theorem k_srtL {c : CallK} (h : IsP c f_ref1_Sorted (RSs SrtPre SrtG)) {ss : List Bs} (hl : ss.length < 1000000) {lv : V} {H : Heap} (hw : WF H) (hr : RdS H lv ss) (τ : Tape) :
  ∃ v' H' τ', LsS H' H.size v' (srtT ss) ∧ Gr H.size H H' ∧ ∀ q, c f_ref1_Sorted [lv] H τ q = q v' H' τ' := by
 by_cases h0 : (srtT ss).length = 0
 ·have hR : RSs SrtPre SrtG [lv] H (.val .nils) := ⟨lv, [], ss, rfl, hr, hl, (if_pos h0).symm⟩
  have e := List.eq_nil_of_length_eq_zero h0
  exact ⟨.nils, H, τ, by rw [e]; exact LsS.nil _ _, Gr.refl hw, fun q => outK_val h (RSs_fun _ _) hR τ q⟩
 ·have hR : RSs SrtPre SrtG [lv] H (.lst 1 (srtT ss).length ((srtT ss).map V.str) (fun v => v)) := ⟨lv, [], ss, rfl, hr, hl, (if_neg h0).symm⟩
  obtain ⟨v', H', τ', h1, _, h2, h3⟩ := outK_lst h (RSs_fun _ _) hR hw (by simp) τ
  exact ⟨v', H', τ', ⟨h1, fun e => absurd (by rw [e]; rfl) h0⟩, h2, h3⟩
theorem ownB {P : Nat → Prop} {H : Heap} {B z : Nat} {v : V} {n : Nat} {cs : List V} (h : OwnP P H z v n cs) (hP : ∀ i, P i → B ≤ i) : Own H B z v n cs := by
 rcases h with h | ⟨id, e, room, fam, ver, pl, st, fr, h1, h2, h3, h4, h5, h6, h7⟩
 ·exact .inl h
 ·exact .inr ⟨id, e, room, fam, ver, pl, st, fr, h1, h2, h3, h4, hP _ h5, hP _ h6, h7⟩
structure Two (B : Nat) (H : Heap) (u v : V) (a b : List Bs) (P Q : Nat → Prop) : Prop where
 wf : WF H
 le : B ≤ H.size
 u : OwnP P H 1 u a.length (a.map V.str)
 v : OwnP Q H 1 v b.length (b.map V.str)
 p : ∀ x, P x → B ≤ x ∧ x < H.size
 q : ∀ x, Q x → B ≤ x ∧ x < H.size
 d : ∀ x, P x → Q x → False
theorem Two.symm {B : Nat} {H : Heap} {u v : V} {a b : List Bs} {P Q : Nat → Prop} (h : Two B H u v a b P Q) : Two B H v u b a Q P := ⟨h.wf, h.le, h.v, h.u, h.q, h.p, fun x h1 h2 => h.d x h2 h1⟩
theorem Two.gr {B : Nat} {H H' : Heap} {u v : V} {a b : List Bs} {P Q : Nat → Prop} (h : Two B H u v a b P Q) (g : Gr H.size H H') : Two B H' u v a b P Q :=
 ⟨g.wf, Nat.le_trans h.le g.size, h.u.chg h.wf (g.chg (P := fun _ => False)) fun _ _ _ => not_false, h.v.chg h.wf (g.chg (P := fun _ => False)) fun _ _ _ => not_false, fun x hx => by have := h.p x hx; have := g.size; omega, fun x hx => by have := h.q x hx; have := g.size; omega, h.d⟩
theorem Two.put {B : Nat} {H : Heap} {u v : V} {a b : List Bs} {P Q : Nat → Prop} (h : Two B H u v a b P Q) (x : Bs) (ha : a.length ≤ 100000) (τ : Tape) :
  ∃ w H1 u' H' P', eBuildSlice 1 1 [(.str [])] [(0, 1)] [.str x] H τ = some (w, H1, τ) ∧ eAppend 1 16 [u, w] H1 τ = some (u', H', τ.tail) ∧ Two B H' u' v (a ++ [x]) b P' Q ∧ Gr B H H' := by
 obtain ⟨w, H1, u', H', r1, r2, r3, r4, _, g3, r5⟩ := h.u.push (bytes := 16) h.wf (.str x) (.str []) rfl rfl (by omega) (by omega) τ
 have z4 := r4.size
 refine ⟨w, H1, u', H', fun i => ((i < H.size ∧ P i) ∨ H.size ≤ i) ∧ i < H'.size, r1, r2, ⟨r4.wf, Nat.le_trans h.le z4, ?_, h.v.chg h.wf r4 fun i _ hq hp => h.d i hp hq, fun i hi => ?_, fun i hi => by have := h.q i hi; omega, fun i hi hq => ?_⟩, r4.gr h.le fun i hi hp => by have := h.p i hp; omega⟩
 ·have r3' := r3.weaken (Q := fun i => ((i < H.size ∧ P i) ∨ H.size ≤ i) ∧ i < H'.size) r4.wf fun i hi hu => ⟨hu, hi⟩
  simpa using r3'
 ·obtain ⟨hi | hi, hl⟩ := hi
  ·have := h.p i hi.2; omega
  ·have := h.le; omega
 ·obtain ⟨hi | hi, _⟩ := hi
  ·exact h.d i hi.2 hq
  ·have := h.q i hq; omega
theorem Two.rdS {B : Nat} {H : Heap} {u v : V} {a b : List Bs} {P Q : Nat → Prop} (h : Two B H u v a b P Q) : RdS H u a := ⟨h.u.rd, (ownB (B := B) h.u fun i hi => (h.p i hi).1).src⟩
theorem l_ref18_Unsafe (c : CallK) (N : Nat) (hL : RLowOk c) (hSf : IsP c f_ref5_Safe SafeR) (hs : List Hd) (hS : Small hs) (lv : V) (B : Nat) : ∀ (l pre : List Hd) (u v : V) (P Q : Nat → Prop) (H : Heap) (τ : Tape) (M : Nat), hs = pre ++ l → l.length < M →
  (∀ H', Gr B H H' → RdH H' lv hs) → Two B H u v (outN pre) (safN pre) P Q →
  ∃ u' v' P' Q' H' τ', Two B H' u' v' (outN hs) (safN hs) P' Q' ∧ Gr B H H' ∧ ∀ (fr : T V) k, fr.get 0 = some lv → fr.get 3 = some u → fr.get 4 = some v → fr.get 5 = some (.int .i64 (szN pre : Int)) → fr.get 6 = some (.int .i64 (pre.length : Int)) →
   loopK (s_ref18_Unsafe_l2 c N) M ⟨fr, H⟩ τ k = k (.exit 0) ⟨(T.set (T.set (T.set .leaf 3 u') 4 v') 5 (.int .i64 (szN hs : Int))), H'⟩ τ' := by
 intro l
 induction l with
 | nil =>
  intro pre u v P Q H τ M he hm hrd h2
  obtain ⟨M, rfl⟩ : ∃ j, M = j + 1 := ⟨M - 1, by omega⟩
  have hp : hs = pre := by rw [he, List.append_nil]
  have e1 : decide (pre.length < hs.length) = false := decide_eq_false (by rw [hp]; simp)
  have pl := (hrd H (Gr.refl h2.wf)).1.pLen
  refine ⟨u, v, P, Q, H, τ, by rw [hp]; exact h2, Gr.refl h2.wf, fun fr k f0 f3 f4 f5 f6 => ?_⟩
  rw [loopK_succ]
  simp only [s_ref18_Unsafe_l2, getK_mk f0, getK_mk f3, getK_mk f4, getK_mk f5, getK_mk f6, pl, getK_set, ↓reduceIte, Nat.reduceEqDiff, someK_n, effK_n, retK, gK_do, gK_do', gK_skip, gK_skip', gK_none, pick_mk, cond_true, cond_false, condK_tn, condK_fn, bin_eql, bin_neq, bin_lss, bin_leq, bin_gtr, bin_geq, un_not, Bool.not_true, Bool.not_false, bin_str, lenS_mk, nle_l, nle_r, nle_n, nlt_l, nlt_r, nlt_n, neq_r, neq_n, nne_r, nne_n, ext0, ext1, ext30, ext31, ext32, bin_add, bin_sub, decide_true, decide_false, e1]
  rw [hp]
  rfl
 | cons x l ih =>
  intro pre u v P Q H τ M he hm hrd h2
  obtain ⟨M, rfl⟩ : ∃ j, M = j + 1 := ⟨M - 1, by omega⟩
  have hlt : pre.length < hs.length := by rw [he]; simp
  have hl := hS.len
  have e1 : decide (pre.length < hs.length) = true := decide_eq_true hlt
  have e3 : wr .i64 ((pre.length : Int) + Int.ofNat 1) = ((pre ++ [x]).length : Int) := by rw [adI (by omega)]; simp
  have hr := (hrd H (Gr.refl h2.wf)).1
  have pl := hr.pLen
  obtain ⟨id, o, p1, p2⟩ := hd_at (v := lv) pre x l (H := H) (by rw [← he]; exact hr)
  obtain ⟨q1, q2, q3⟩ := p2 H (by rw [← he]; exact hr)
  have fa : pFieldAddr 0 [.ptr id o] = some (.ptr id o) := rfl
  have fb : pFieldAddr 1 [.ptr id o] = some (.ptr id (o + 1)) := rfl
  have hx := hS.all x (by rw [he]; simp)
  have kl := hL x.1 (by omega)
  have ks := fun H τ q => k_Safe hSf (lower x.1) x.2 (by rw [lower_len]; omega) H τ q
  rw [safeB_low] at ks
  have hszp := szN_le pre fun y hy => (hS.all y (by rw [he]; simp [hy])).2
  have hpl : pre.length ≤ 1000 := by omega
  have hSp : Small pre := ⟨by omega, fun y hy => hS.all y (by rw [he]; simp [hy])⟩
  obtain ⟨nl, _, _⟩ := names_le hSp
  cases hsf : safeH x with
  | false =>
   have hsf' : safeB x.1 x.2 = false := hsf
   obtain ⟨w, H3, u', H4, P', r1, r2, r3, r4⟩ := h2.put (lower x.1) (by omega) τ
   obtain ⟨u2, v2, P2, Q2, H', τ', i1, i2, i3⟩ := ih (pre ++ [x]) u' v P' Q H4 τ.tail M (by rw [he]; simp) (by simp at hm; omega) (fun H' hg => hrd H' (r4.trans hg (Nat.le_refl _)))
    (by rw [outN_snoc, if_neg (by rw [hsf]; simp), safN_snoc, if_neg (by rw [hsf]; simp), List.append_nil]; exact r3)
   refine ⟨u2, v2, P2, Q2, H', τ', i1, r4.trans i2 (Nat.le_refl _), fun fr k f0 f3 f4 f5 f6 => ?_⟩
   rw [loopK_succ]
   simp only [s_ref18_Unsafe_l2, getK_mk f0, getK_mk f3, getK_mk f4, getK_mk f5, getK_mk f6, pl, getK_set, ↓reduceIte, Nat.reduceEqDiff, someK_n, effK_n, retK, gK_do, gK_do', gK_skip, gK_skip', gK_none, pick_mk, cond_true, cond_false, condK_tn, condK_fn, bin_eql, bin_neq, bin_lss, bin_leq, bin_gtr, bin_geq, un_not, Bool.not_true, Bool.not_false, bin_str, lenS_mk, nle_l, nle_r, nle_n, nlt_l, nlt_r, nlt_n, neq_r, neq_n, nne_r, nne_n, ext0, ext1, ext30, ext31, ext32, bin_add, bin_sub, decide_true, decide_false, e1, p1, fa, fb, q2, q3, kl, ks, hsf', r1, r2, s_ref18_Unsafe_j3, e3]
   refine i3 _ k (by simp [T.get_set]) (by simp [T.get_set]) (by simp [T.get_set]) ?_ (by simp [T.get_set])
   rw [szN_snoc, if_neg (by rw [hsf]; simp)]
   simp [T.get_set]
  | true =>
   have hsf' : safeB x.1 x.2 = true := hsf
   obtain ⟨w, H3, v', H4, Q', r1, r2, r3, r4⟩ := h2.symm.put (lower x.1) (by omega) τ
   have r3 := r3.symm
   have hr4 := (hrd H4 r4).1
   obtain ⟨_, _, q3'⟩ := p2 H4 (by rw [← he]; exact hr4)
   have e5 : wr .i64 ((szN pre : Int) + (x.2.length : Int)) = ((szN (pre ++ [x]) : Nat) : Int) := by
    rw [szN_snoc, if_pos hsf, wr_id (by omega) (by omega)]; omega
   obtain ⟨u2, v2, P2, Q2, H', τ', i1, i2, i3⟩ := ih (pre ++ [x]) u v' P Q' H4 τ.tail M (by rw [he]; simp) (by simp at hm; omega) (fun H' hg => hrd H' (r4.trans hg (Nat.le_refl _)))
    (by rw [outN_snoc, if_pos hsf, safN_snoc, if_pos hsf, List.append_nil]; exact r3)
   refine ⟨u2, v2, P2, Q2, H', τ', i1, r4.trans i2 (Nat.le_refl _), fun fr k f0 f3 f4 f5 f6 => ?_⟩
   rw [loopK_succ]
   simp only [s_ref18_Unsafe_l2, getK_mk f0, getK_mk f3, getK_mk f4, getK_mk f5, getK_mk f6, pl, getK_set, ↓reduceIte, Nat.reduceEqDiff, someK_n, effK_n, retK, gK_do, gK_do', gK_skip, gK_skip', gK_none, pick_mk, cond_true, cond_false, condK_tn, condK_fn, bin_eql, bin_neq, bin_lss, bin_leq, bin_gtr, bin_geq, un_not, Bool.not_true, Bool.not_false, bin_str, lenS_mk, nle_l, nle_r, nle_n, nlt_l, nlt_r, nlt_n, neq_r, neq_n, nne_r, nne_n, ext0, ext1, ext30, ext31, ext32, bin_add, bin_sub, decide_true, decide_false, e1, p1, fa, fb, q2, q3, q3', kl, ks, hsf', r1, r2, e5, s_ref18_Unsafe_j3, e3]
   exact i3 _ k (by simp [T.get_set]) (by simp [T.get_set]) (by simp [T.get_set]) (by simp [T.get_set]) (by simp [T.get_set])
theorem s_ref18_Unsafe_ret (c : CallK) {N : Nat} (hN : 9223372036854775807 < N) (hL : RLowOk c) (hSf : IsP c f_ref5_Safe SafeR) (hSr : IsP c f_ref1_Sorted (RSs SrtPre SrtG)) (hs : List Hd) (hS : Small hs) (lv : V) (H : Heap) (hw : WF H) (hr : RdH H lv hs) (τ : Tape) :
  ∃ v' H' τ', LsS H' H.size v' (srtT (unsL hs)) ∧ Gr H.size H H' ∧ ∀ q, s_ref18_Unsafe c N lv H τ q = q v' H' τ' := by
 have hl := hS.len
 obtain ⟨u, v, P, Q, H1, τ1, i1, i2, i3⟩ := l_ref18_Unsafe c N hL hSf hs hS lv H.size hs [] .nils .nils (fun _ => False) (fun _ => False) H τ N rfl (by omega) (fun H' hg => hr.gr hg hw (Nat.le_refl _))
  ⟨hw, Nat.le_refl _, OwnP.nil _ _ _, OwnP.nil _ _ _, fun _ h => h.elim, fun _ h => h.elim, fun _ h _ => h.elim⟩
 obtain ⟨n1, n2, n3⟩ := names_le hS
 by_cases hbig : 1024 < szN hs
 ·have eb : decide (Int.ofNat 1024 < (szN hs : Int)) = true := decide_eq_true (by have : Int.ofNat 1024 = 1024 := rfl; omega)
  have hcs : ((outN hs).map V.str) ++ ((safN hs).map V.str) = (unsL hs).map V.str := by unfold unsL; rw [if_pos hbig, List.map_append]
  have hln : (outN hs).length + (safN hs).length = (unsL hs).length := by unfold unsL; rw [if_pos hbig, List.length_append]
  obtain ⟨v4, H2, τ2, r1, r2, r3, _⟩ := (Own.apd (ownB (B := H.size) i1.u fun i hi => (i1.p i hi).1)).append (bytes := 16) i1.wf i1.le i1.symm.rdS.1 i1.symm.rdS.2 (by rw [List.all_eq_true]; intro y hy; obtain ⟨s, _, rfl⟩ := List.mem_map.1 hy; rfl) (by omega) (by omega) τ1
  rw [hcs, hln] at r2
  obtain ⟨v5, H3, τ3, m1, m2, m3⟩ := k_srtL hSr (ss := unsL hs) (by omega) r3.wf ⟨r2.rd, r2.src⟩ τ2
  have g2 : Gr H.size H H2 := i2.trans r3 (Nat.le_refl _)
  refine ⟨v5, H3, τ3, m1.weaken (by have := g2.size; omega), g2.trans m2 g2.size, fun q => ?_⟩
  simp only [s_ref18_Unsafe]
  rw [i3 _ _ (by simp [T.get_set]) (by simp [T.get_set]) (by simp [T.get_set]) (by simp [T.get_set, szN]) (by simp [T.get_set])]
  simp only [blockK, Nat.beq_refl, cond_true, seqK, s_ref18_Unsafe_j0, s_ref18_Unsafe_j1, getK_set, ↓reduceIte, Nat.reduceEqDiff, someK_n, effK_n, retK, gK_do, gK_do', gK_skip, gK_skip', gK_none, pick_mk, cond_true, cond_false, condK_tn, condK_fn, bin_eql, bin_neq, bin_lss, bin_leq, bin_gtr, bin_geq, un_not, Bool.not_true, Bool.not_false, bin_str, lenS_mk, nle_l, nle_r, nle_n, nlt_l, nlt_r, nlt_n, neq_r, neq_n, nne_r, nne_n, ext0, ext1, ext30, ext31, ext32, bin_add, bin_sub, decide_true, decide_false, eb, r1, m3]
 ·have eb : decide (Int.ofNat 1024 < (szN hs : Int)) = false := decide_eq_false (by have : Int.ofNat 1024 = 1024 := rfl; omega)
  have hu : outN hs = unsL hs := by unfold unsL; rw [if_neg hbig]
  have hr1 := i1.rdS
  rw [hu] at hr1
  obtain ⟨v5, H3, τ3, m1, m2, m3⟩ := k_srtL hSr (ss := unsL hs) (by rw [← hu]; omega) i1.wf hr1 τ1
  refine ⟨v5, H3, τ3, m1.weaken (by have := i2.size; omega), i2.trans m2 i2.size, fun q => ?_⟩
  simp only [s_ref18_Unsafe]
  rw [i3 _ _ (by simp [T.get_set]) (by simp [T.get_set]) (by simp [T.get_set]) (by simp [T.get_set, szN]) (by simp [T.get_set])]
  simp only [blockK, Nat.beq_refl, cond_true, seqK, s_ref18_Unsafe_j0, s_ref18_Unsafe_j1, getK_set, ↓reduceIte, Nat.reduceEqDiff, someK_n, effK_n, retK, gK_do, gK_do', gK_skip, gK_skip', gK_none, pick_mk, cond_true, cond_false, condK_tn, condK_fn, bin_eql, bin_neq, bin_lss, bin_leq, bin_gtr, bin_geq, un_not, Bool.not_true, Bool.not_false, bin_str, lenS_mk, nle_l, nle_r, nle_n, nlt_l, nlt_r, nlt_n, neq_r, neq_n, nne_r, nne_n, ext0, ext1, ext30, ext31, ext32, bin_add, bin_sub, decide_true, decide_false, eb, m3]
abbrev UnsPre (hs : List Hd) : List V → Prop | [] => Small hs | _ => False
abbrev UnsG (_ : Bool) (hs : List Hd) : List V → Out | [] => lstO 1 (srtT (unsL hs)).length ((srtT (unsL hs)).map V.str) (fun v => v) | _ => .val (.tup [])
noncomputable abbrev rw_Uns : List Row := [Row.fn f_cors_Unsafe fn_cors_Unsafe e_cors_Unsafe, Row.prim f_infra_Lower (outP LowR), Row.prim f_headers_Safe (outP SafeR), Row.prim f_cors_names namesP, Row.prim f_maps_Copy_int copyP]
theorem p_cors_Unsafe : ∀ base w0, PrimOk PG base w0 f_cors_Unsafe (outP (RH UnsPre UnsG)) := by
 obtain ⟨N, hN⟩ := someN
 refine primRH (N := N) (l := rw_Uns) (.fn ok_cors_Unsafe e_cors_Unsafe_ok (.prim p_infra_Lower (.prim p_headers_Safe (.prim namesP_ok (.prim copyP_ok (.nil _)))))) 2 _ (fun hs args hp lv H hw hr τ => ?_)
 unfold UnsPre at hp; split at hp
 ·obtain ⟨v', H', τ', h1, h2, h3⟩ := s_cors_Unsafe_ret (CR rw_Uns N 1) hN (k_infra_Lower fun _ _ _ _ => rfl) (fun _ _ _ _ => rfl) (fun _ _ _ _ => rfl) (fun _ _ _ _ => rfl) hs hp lv H hw hr τ
  exact ⟨_, H', τ', h2, LsS.met h1 mkOk_id trivial, h3⟩
 ·exact hp.elim
noncomputable abbrev rw_RUns : List Row := [Row.fn f_ref18_Unsafe fn_ref18_Unsafe e_ref18_Unsafe, Row.prim f_ref1_Lower (outP LowR), Row.prim f_ref5_Safe (outP SafeR), Row.prim f_ref1_Sorted (outP (RSs SrtPre SrtG))]
theorem p_ref18_Unsafe : ∀ base w0, PrimOk PG base w0 f_ref18_Unsafe (outP (RH UnsPre UnsG)) := by
 obtain ⟨N, hN⟩ := someN
 refine primRH (N := N) (l := rw_RUns) (.fn ok_ref18_Unsafe e_ref18_Unsafe_ok (.prim p_ref1_Lower (.prim p_ref5_Safe (.prim p_ref1_Sorted (.nil _))))) 2 _ (fun hs args hp lv H hw hr τ => ?_)
 unfold UnsPre at hp; split at hp
 ·obtain ⟨v', H', τ', h1, h2, h3⟩ := s_ref18_Unsafe_ret (CR rw_RUns N 1) hN (k_ref1_Lower fun _ _ _ _ => rfl) (fun _ _ _ _ => rfl) (fun _ _ _ _ => rfl) hs hp lv H hw hr τ
  exact ⟨_, H', τ', h2, LsS.met h1 mkOk_id trivial, h3⟩
 ·exact hp.elim
theorem k_Unsafe {c : CallK} {f : Nat} (h : IsP c f (RH UnsPre UnsG)) {hs : List Hd} (hS : Small hs) {lv : V} {H : Heap} (hw : WF H) (hr : RdH H lv hs) (τ : Tape) :
  ∃ v' H' τ', Own H' H.size 1 v' (srtT (unsL hs)).length ((srtT (unsL hs)).map V.str) ∧ Gr H.size H H' ∧ ∀ q, c f [lv] H τ q = q v' H' τ' :=
 RH_lstO (l := []) h hr hS rfl hw (by simp) τ
end Go.Am.X

namespace Go.Am.X
def toB (l : List Nat) : Bs := l.map UInt8.ofNat
theorem bytesOf_ws : ∀ l : List Nat, bytesOf (ws .u8 l) = some (toB l) := by
 intro l; induction l with
 | nil => rfl
 | cons x l ih =>
  show (match bytesOf (ws .u8 l) with | some r => some (UInt8.ofNat (x : Int).toNat :: r) | none => none) = _
  rw [ih]; rfl
theorem str_rd {H : Heap} {v : V} {n : Nat} {l : List Nat} (h : Rd H 1 v n (ws .u8 l)) (hs : Src H v) : lBytesStr [v] H = some (.str (toB l)) := by
 obtain ⟨h1, h2⟩ := h.loads hs
 rcases h with ⟨rfl | ⟨id, off, lo, ex, rfl⟩, rfl, h0⟩ | ⟨id, off, lo, ex, all, rfl, _⟩
 ·cases l with
  | nil => rfl
  | cons a l => simp [ws] at h0
 ·simp only [srcCells, Nat.beq_refl, cond_true] at h2
  rw [Nat.zero_mul] at h2
  simp only [lBytesStr, Nat.beq_refl, cond_true, h2, bytesOf_ws]
 ·simp only [srcCells, Nat.beq_refl, cond_true] at h2
  rw [Nat.mul_one] at h2
  simp only [lBytesStr, Nat.beq_refl, cond_true, h2, bytesOf_ws]
theorem s_book_Within_gen (c : CallK) (N : Nat) (n : Int) {h : Nat} (hh : h < 4611686018427387903) (H : Heap) (τ : Tape) : ∃ m : Nat, m ≤ h ∧ ∀ q, s_book_Within c N (.int .i64 n) (.int .i64 (.ofNat 0)) (.int .i64 (h : Int)) H τ q = q (.int .i64 (m : Int)) H τ := by
 have h1 := Int.tmod_lt_of_pos n (b := (h : Int) + 1) (by omega)
 have h2 := Int.lt_tmod_of_pos n (b := (h : Int) + 1) (by omega)
 have e1 : wr .i64 ((h : Int) - Int.ofNat 0) = h := by rw [wr_id (by simp <;> omega) (by simp <;> omega)]; simp
 have e2 : wr .i64 ((h : Int) + Int.ofNat 1) = (h : Int) + 1 := by rw [wr_id (by simp <;> omega) (by simp <;> omega)]; simp
 have er := bin_rem (k := .i64) n ((h : Int) + 1)
 generalize hr : n.tmod ((h : Int) + 1) = r at h1 h2
 by_cases hneg : r < 0
 ·refine ⟨(r + (h + 1)).toNat, by omega, fun q => ?_⟩
  have e3 : decide (r < Int.ofNat 0) = true := decide_eq_true hneg
  have e4 : wr .i64 (r + (h : Int)) = r + h := by rw [wr_id (by omega) (by omega)]
  have e5 : wr .i64 (r + h - Int.ofNat 0) = r + h := by rw [wr_id (by simp <;> omega) (by simp <;> omega)]; simp
  have e6 : wr .i64 (r + h + Int.ofNat 1) = r + (h + 1) := by rw [wr_id (by simp <;> omega) (by simp <;> omega)]; simp; try omega
  have e7 : wr .i64 (Int.ofNat 0 + (r + (h + 1))) = (((r + (h + 1)).toNat : Nat) : Int) := by rw [wr_id (by simp <;> omega) (by simp <;> omega)]; simp; try omega
  simp only [s_book_Within, bin_sub, e1, bin_add, e2, bin_rem _ _ ((h : Int) + 1) (by omega), hr, bin_lss, e3, condK_tn, e4, e5, e6, s_book_Within_j0, getK_set, ↓reduceIte, Nat.reduceEqDiff, e7]
 ·refine ⟨r.toNat, by omega, fun q => ?_⟩
  have e3 : decide (r < Int.ofNat 0) = false := decide_eq_false hneg
  have e7 : wr .i64 (Int.ofNat 0 + r) = ((r.toNat : Nat) : Int) := by rw [wr_id (by simp <;> omega) (by simp <;> omega)]; simp; omega
  simp only [s_book_Within, bin_sub, e1, bin_add, e2, bin_rem _ _ ((h : Int) + 1) (by omega), hr, bin_lss, e3, condK_fn, s_book_Within_j0, getK_set, ↓reduceIte, Nat.reduceEqDiff, e7]
end Go.Am.X

namespace Go.Am.X
theorem l_law18_CorsMany4 (c : CallK) (N : Nat) {b n size i : Nat} {more : Bs} {lv : V} (hsz : size ≤ 200) : ∀ (r j : Nat) (la : List Nat) (H : Heap) (τ : Tape) (M : Nat), j + r = size → r < M → la.length = size → WF H → Bx H b (ws .u8 la) →
  ∃ la' H', la'.length = size ∧ Bx H' b (ws .u8 la') ∧ Gr b H H' ∧ ∀ (fr : T V) k, fr.get 0 = some (.int .i64 (n : Int)) → fr.get 1 = some (.int .i64 (size : Int)) → fr.get 2 = some (.str more) → fr.get 7 = some lv → fr.get 8 = some (.int .i64 (i : Int)) → fr.get 9 = some (.sl b 0 size size none 1) → fr.get 10 = some (.int .i64 (j : Int)) →
   loopK (s_law18_CorsMany_l4 c N) M ⟨fr, H⟩ τ k = k (.exit 2) ⟨(T.set (T.set (T.set (T.set (T.set (T.set .leaf 0 (.int .i64 (n : Int))) 1 (.int .i64 (size : Int))) 2 (.str more)) 7 lv) 8 (.int .i64 (i : Int))) 9 (.sl b 0 size size none 1)), H'⟩ τ := by
 intro r
 induction r with
 | zero =>
  intro j la H τ M hj hM hl hw hb
  obtain ⟨M, rfl⟩ : ∃ x, M = x + 1 := ⟨M - 1, by omega⟩
  have : j = size := by omega
  subst this
  have e0 : decide (j < j) = false := decide_eq_false (by omega)
  refine ⟨la, H, hl, hb, Gr.refl hw, fun fr k f0 f1 f2 f7 f8 f9 f10 => ?_⟩
  rw [loopK_succ]
  simp only [s_law18_CorsMany_l4, getK_mk f0, getK_mk f1, getK_mk f2, getK_mk f7, getK_mk f8, getK_mk f9, getK_mk f10, getK_set, ↓reduceIte, Nat.reduceEqDiff, someK_n, effK_n, retK, gK_do, gK_do', gK_skip, gK_skip', gK_none, pick_mk, cond_true, cond_false, condK_tn, condK_fn, bin_eql, bin_neq, bin_lss, bin_leq, bin_gtr, bin_geq, un_not, Bool.not_true, Bool.not_false, bin_str, lenS_mk, nle_l, nle_r, nle_n, nlt_l, nlt_r, nlt_n, neq_r, neq_n, nne_r, nne_n, ext0, ext1, ext30, ext31, ext32, bin_add, bin_sub, decide_true, decide_false, e0]
  rfl
 | succ r ih =>
  intro j la H τ M hj hM hl hw hb
  obtain ⟨M, rfl⟩ : ∃ x, M = x + 1 := ⟨M - 1, by omega⟩
  have e0 : decide (j < size) = true := decide_eq_true (by omega)
  have e1 : pSlIdx 1 [.sl b 0 size size none 1, .int .i64 (j : Int)] = some (.ptr b j) := by
   have : Nat.blt j size = true := by simp [Nat.blt]; omega
   simp only [pSlIdx, natOf_nat, Nat.beq_refl, this, Bool.and_self, cond_true, Nat.zero_add, Nat.mul_one]
  obtain ⟨H1, s1, s2, s3⟩ := hb.word hw (i := j) (by omega) 97 τ
  have s1' : eStore 1 [.ptr b j, .int .u8 (.ofNat 97)] H τ = some (.tup [], H1, τ) := s1
  have e9 : wr .i64 ((j : Int) + Int.ofNat 1) = ((j + 1 : Nat) : Int) := adI (by omega)
  obtain ⟨la', H', i1, i2, i3, i4⟩ := ih (j + 1) (la.set j 97) H1 τ M (by omega) (by omega) (by rw [List.length_set]; exact hl) s3.wf s2
  refine ⟨la', H', i1, i2, (s3.gr (Nat.le_refl _)).trans i3 (Nat.le_refl _), fun fr k f0 f1 f2 f7 f8 f9 f10 => ?_⟩
  rw [loopK_succ]
  simp only [s_law18_CorsMany_l4, getK_mk f0, getK_mk f1, getK_mk f2, getK_mk f7, getK_mk f8, getK_mk f9, getK_mk f10, getK_set, ↓reduceIte, Nat.reduceEqDiff, someK_n, effK_n, retK, gK_do, gK_do', gK_skip, gK_skip', gK_none, pick_mk, cond_true, cond_false, condK_tn, condK_fn, bin_eql, bin_neq, bin_lss, bin_leq, bin_gtr, bin_geq, un_not, Bool.not_true, Bool.not_false, bin_str, lenS_mk, nle_l, nle_r, nle_n, nlt_l, nlt_r, nlt_n, neq_r, neq_n, nne_r, nne_n, ext0, ext1, ext30, ext31, ext32, bin_add, bin_sub, decide_true, decide_false, e0, e1, s1', e9]
  exact i4 _ k (by simp [T.get_set]) (by simp [T.get_set]) (by simp [T.get_set]) (by simp [T.get_set]) (by simp [T.get_set]) (by simp [T.get_set]) (by simp [T.get_set])
def nam3 : List Bs := [[65, 99, 99, 101, 112, 116], [97, 99, 99, 101, 112, 116, 45, 108, 97, 110, 103, 117, 97, 103, 101], [67, 111, 110, 116, 101, 110, 116, 45, 76, 97, 110, 103, 117, 97, 103, 101]]
theorem l_law18_CorsMany (c : CallK) {N : Nat} (hN : 9223372036854775807 < N) {n size : Nat} {more : Bs} (hn : n ≤ 20) (hsz : size ≤ 130) (B : Nat) : ∀ (r i : Nat) (hs : List Hd) (lv : V) (H : Heap) (τ : Tape) (M : Nat), i + r = n → r < M → WF H → B ≤ H.size → LsH H B lv hs → hs.length = i → (∀ h ∈ hs, h.1.length ≤ 200 ∧ h.2.length ≤ 200) →
  ∃ hs' lv' H' τ', LsH H' B lv' hs' ∧ hs'.length = n ∧ (∀ h ∈ hs', h.1.length ≤ 200 ∧ h.2.length ≤ 200) ∧ Gr B H H' ∧ ∀ (fr : T V) k, fr.get 0 = some (.int .i64 (n : Int)) → fr.get 1 = some (.int .i64 (size : Int)) → fr.get 2 = some (.str more) → fr.get 7 = some lv → fr.get 8 = some (.int .i64 (i : Int)) →
   loopK (s_law18_CorsMany_l1 c N) M ⟨fr, H⟩ τ k = k (.exit 0) ⟨(T.set (T.set .leaf 2 (.str more)) 7 lv'), H'⟩ τ' := by
 intro r
 induction r with
 | zero =>
  intro i hs lv H τ M hi hM hw hB hl hlen hall
  obtain ⟨M, rfl⟩ : ∃ x, M = x + 1 := ⟨M - 1, by omega⟩
  have : i = n := by omega
  subst this
  have e0 : decide (i < i) = false := decide_eq_false (by omega)
  refine ⟨hs, lv, H, τ, hl, hlen, hall, Gr.refl hw, fun fr k f0 f1 f2 f7 f8 => ?_⟩
  rw [loopK_succ]
  simp only [s_law18_CorsMany_l1, getK_mk f0, getK_mk f1, getK_mk f2, getK_mk f7, getK_mk f8, getK_set, ↓reduceIte, Nat.reduceEqDiff, someK_n, effK_n, retK, gK_do, gK_do', gK_skip, gK_skip', gK_none, pick_mk, cond_true, cond_false, condK_tn, condK_fn, bin_eql, bin_neq, bin_lss, bin_leq, bin_gtr, bin_geq, un_not, Bool.not_true, Bool.not_false, bin_str, lenS_mk, nle_l, nle_r, nle_n, nlt_l, nlt_r, nlt_n, neq_r, neq_n, nne_r, nne_n, ext0, ext1, ext30, ext31, ext32, bin_add, bin_sub, decide_true, decide_false, e0]
  rfl
 | succ r ih =>
  intro i hs lv H τ M hi hM hw hB hl hlen hall
  obtain ⟨M, rfl⟩ : ∃ x, M = x + 1 := ⟨M - 1, by omega⟩
  have e0 : decide (i < n) = true := decide_eq_true (by omega)
  have a1 : eMakeSlice 1 1 [(.int .u8 (.ofNat 0))] [.int .i64 (size : Int), .int .i64 (size : Int)] H τ = some (.sl H.size 0 size size none 1, H.new (ws .u8 (List.replicate size 0)) (size * 1) false, τ) := by
   have b1 : Nat.ble size size = true := Nat.ble_eq_true_of_le (Nat.le_refl _)
   have b2 : Nat.ble (size * 1) 140737488355328 = true := Nat.ble_eq_true_of_le (by omega)
   have b3 : Nat.ble size 140737488355328 = true := Nat.ble_eq_true_of_le (by omega)
   have b4 : ∀ k, repl k [(.int .u8 (.ofNat 0) : V)] = ws .u8 (List.replicate k 0) := by
    intro k
    induction k with
    | zero => rfl
    | succ k ih =>
     have h1 : repl (k + 1) [(.int .u8 (.ofNat 0) : V)] = .int .u8 (.ofNat 0) :: repl k [(.int .u8 (.ofNat 0) : V)] := by unfold repl; rw [List.replicate_succ, List.flatten_cons]; rfl
     rw [h1, ih, List.replicate_succ]; rfl
   simp only [eMakeSlice, natOf_nat, b1, b2, b3, Bool.and_self, cond_true, b4]
  have g1 := Gr.new hw (ws .u8 (List.replicate size 0)) (size * 1) false
  have b1 : Bx (H.new (ws .u8 (List.replicate size 0)) (size * 1) false) H.size (ws .u8 (List.replicate size 0)) := Bx.new H _ _ _ (by simp [ws])
  obtain ⟨la, H2, j1, j2, j3, j4⟩ := l_law18_CorsMany4 c N (n := n) (size := size) (i := i) (more := more) (lv := lv) (b := H.size) (by omega) size 0 _ _ τ N (by omega) (by omega) (by simp) g1.wf b1
  have g2 : Gr H.size H H2 := g1.trans j3 (Nat.le_refl _)
  have rd2 : ∀ H', Bx H' H.size (ws .u8 la) → lBytesStr [.sl H.size 0 size size none 1] H' = some (.str (toB la)) := fun H' hb => by
   refine str_rd (n := size) (.inr ⟨H.size, 0, size, none, _, rfl, hb.cells, ?_, by simp [ws, j1]⟩) ⟨_, hb.cells⟩
   rw [List.drop_zero, List.take_of_length_le (by simp [ws, j1])]
  have a3 : eBuildSlice 3 1 [(.str []), (.str []), (.str [])] [(0, 1), (1, 1), (2, 1)] [(.str (bs [65, 99, 99, 101, 112, 116])), (.str (bs [97, 99, 99, 101, 112, 116, 45, 108, 97, 110, 103, 117, 97, 103, 101])), (.str (bs [67, 111, 110, 116, 101, 110, 116, 45, 76, 97, 110, 103, 117, 97, 103, 101]))] H2 τ = some (.sl H2.size 0 3 3 none 1, H2.new (nam3.map V.str) 3 false, τ) := rfl
  have g3 := Gr.new j3.wf (nam3.map V.str) 3 false
  have b3 : Bx (H2.new (nam3.map V.str) 3 false) H2.size (nam3.map V.str) := Bx.new H2 _ _ _ (by decide)
  generalize hH3 : H2.new (nam3.map V.str) 3 false = H3 at a3 g3 b3
  have er : (i : Int).tmod (Int.ofNat 3) = ((i % 3 : Nat) : Int) := rfl
  have r3 : Rd H3 1 (.sl H2.size 0 3 3 none 1) 3 (nam3.map V.str) := .inr ⟨H2.size, 0, 3, none, _, rfl, b3.cells, rfl, rfl⟩
  obtain ⟨nm, hnm, hnl⟩ : ∃ nm : Bs, (nam3.map V.str)[i % 3]? = some (.str nm) ∧ nm.length ≤ 20 := by
   have : i % 3 < 3 := Nat.mod_lt _ (by omega)
   rcases (by omega : i % 3 = 0 ∨ i % 3 = 1 ∨ i % 3 = 2) with h | h | h <;> rw [h]
   ·exact ⟨_, rfl, by decide⟩
   ·exact ⟨_, rfl, by decide⟩
   ·exact ⟨_, rfl, by decide⟩
  obtain ⟨p, e38, e39⟩ := r3.elem1 hnm
  have z2 := g2.size
  have bx3 : Bx H3 H.size (ws .u8 la) := j2.gr g3 (j2.lt j3.wf)
  have l2 := rd2 H2 j2
  have l3 := rd2 H3 bx3
  have gB3 : Gr H.size H H3 := g2.trans g3 z2
  have hl3 := hl.gr gB3 hw (Nat.le_refl _)
  obtain ⟨w, H4, v', H5, τ5, r1, r2, r4, r5, _, _⟩ := hl3.put g3.wf (Nat.le_trans hB gB3.size) (nm, toB la) (by omega) τ
  have gB5 : Gr B H H5 := (gB3.weaken hB).trans r5 (Nat.le_refl _)
  have pb : pBuild [(.str []), (.str [])] [(0, 1), (1, 1)] [.str nm, .str (toB la)] = some (hv (nm, toB la)) := rfl
  have e9 : wr .i64 ((i : Int) + Int.ofNat 1) = ((i + 1 : Nat) : Int) := adI (by omega)
  have hc : chkLoads [H2, H3, H4, H5] ((.bytesStr, [.sl H.size 0 size size none 1], 0, 1) :: []) = true := by
   simp [chkLoads, evalL, l2, l3, chk1, same, same1, same0]
  obtain ⟨hs', lv', H', τ', i1, i2, i3, i4, i5⟩ := ih (i + 1) (hs ++ [(nm, toB la)]) v' H5 τ5 M (by omega) (by omega) r5.wf (Nat.le_trans hB gB5.size) r4 (by simp [hlen]) (fun h hh => by
   rcases List.mem_append.1 hh with h1 | h1
   ·exact hall h h1
   ·simp at h1; subst h1; simp [toB, j1]; omega)
  refine ⟨hs', lv', H', τ', i1, i2, i3, gB5.trans i4 (Nat.le_refl _), fun fr k f0 f1 f2 f7 f8 => ?_⟩
  rw [loopK_succ]
  simp only [s_law18_CorsMany_l1, getK_mk f0, getK_mk f1, getK_mk f2, getK_mk f7, getK_mk f8, getK_set, ↓reduceIte, Nat.reduceEqDiff, someK_n, effK_n, retK, gK_do, gK_do', gK_skip, gK_skip', gK_none, pick_mk, cond_true, cond_false, condK_tn, condK_fn, bin_eql, bin_neq, bin_lss, bin_leq, bin_gtr, bin_geq, un_not, Bool.not_true, Bool.not_false, bin_str, lenS_mk, nle_l, nle_r, nle_n, nlt_l, nlt_r, nlt_n, neq_r, neq_n, nne_r, nne_n, ext0, ext1, ext30, ext31, ext32, bin_add, bin_sub, decide_true, decide_false, e0, a1]
  rw [j4 _ _ (by simp [T.get_set]) (by simp [T.get_set]) (by simp [T.get_set]) (by simp [T.get_set]) (by simp [T.get_set]) (by simp [T.get_set]) (by simp [T.get_set])]
  simp only [blockK, Nat.beq_refl, cond_true, seqK, s_law18_CorsMany_j3, s_law18_CorsMany_j2, getK_set, ↓reduceIte, Nat.reduceEqDiff, someK_n, effK_n, retK, gK_do, gK_do', gK_skip, gK_skip', gK_none, pick_mk, cond_true, cond_false, condK_tn, condK_fn, bin_eql, bin_neq, bin_lss, bin_leq, bin_gtr, bin_geq, un_not, Bool.not_true, Bool.not_false, bin_str, lenS_mk, nle_l, nle_r, nle_n, nlt_l, nlt_r, nlt_n, neq_r, neq_n, nne_r, nne_n, ext0, ext1, ext30, ext31, ext32, bin_add, bin_sub, decide_true, decide_false, a3, bin_rem _ _ _ (show Int.ofNat 3 ≠ 0 by decide), er, e38, e39, l3, pb, r1, r2, hc, e9]
  exact i5 _ k (by simp [T.get_set]) (by simp [T.get_set]) (by simp [T.get_set]) (by simp [T.get_set]) (by simp [T.get_set])
theorem s_law18_CorsMany_ret (c : CallK) {N : Nat} (hN : 9223372036854775807 < N) (hW : ∀ (n : Int) {h : Nat}, h < 4611686018427387903 → ∀ (H : Heap) (τ : Tape), ∃ m : Nat, m ≤ h ∧ ∀ q, c f_book_Within [.int .i64 n, .int .i64 (.ofNat 0), .int .i64 (h : Int)] H τ q = q (.int .i64 (m : Int)) H τ)
  (hF : FewOk c) (hU : IsP c f_cors_Unsafe (RH UnsPre UnsG)) (hRU : IsP c f_ref18_Unsafe (RH UnsPre UnsG)) (hSm : IsP c f_book_Same_string SameSR) (hKn : ∀ H τ q, c f_law18_known [] H τ q = q (.bool true) H τ)
  (a b : Int) (more : Bs) (H : Heap) (hw : WF H) (τ : Tape) : ∃ H' τ', Gr H.size H H' ∧ ∀ q, s_law18_CorsMany c N (.int .i64 a) (.int .i64 b) (.str more) H τ q = q (.bool true) H' τ' := by
 obtain ⟨n, hn, w0⟩ := hW a (h := 20) (by omega) H τ
 obtain ⟨size, hsz, w1⟩ := hW b (h := 130) (by omega) H τ
 have w0' : ∀ q, c f_book_Within [.int .i64 a, .int .i64 (.ofNat 0), .int .i64 (.ofNat 20)] H τ q = q (.int .i64 (n : Int)) H τ := w0
 have w1' : ∀ q, c f_book_Within [.int .i64 b, .int .i64 (.ofNat 0), .int .i64 (.ofNat 130)] H τ q = q (.int .i64 (size : Int)) H τ := w1
 obtain ⟨hs, lv, H1, τ1, i1, i2, i3, i4, i5⟩ := l_law18_CorsMany c hN (n := n) (size := size) (more := more) hn hsz H.size n 0 [] .nils H τ N (by omega) (by omega) hw (Nat.le_refl _) (LsH.nil _ _) rfl (fun h hh => by cases hh)
 have kF : ∀ H τ q, c f_keep_Few [.str more, .int .i64 (.ofNat 30)] H τ q = q (.str (more.take 30)) H τ := fun H τ q => hF more 30 H τ q
 have hml : (more.take 30).length ≤ 30 := by rw [List.length_take]; omega
 generalize more.take 30 = mt at kF hml
 obtain ⟨w, H2, v', H3, τ3, r1, r2, r3, r4, _, _⟩ := i1.put i4.wf i4.size (mt, [120]) (by omega) τ1
 have pb : pBuild [(.str []), (.str [])] [(0, 1), (1, 1)] [.str mt, .str (bs [120])] = some (hv (mt, [120])) := rfl
 have hS : Small (hs ++ [(mt, [120])]) := ⟨by simp; omega, fun h hh => by
  rcases List.mem_append.1 hh with h1 | h1
  ·have := i3 h h1; omega
  ·simp at h1; subst h1; simp; omega⟩
 obtain ⟨u1, H4, τ4, o1, g1, k1⟩ := k_Unsafe hU hS r4.wf r3.rdH τ3
 obtain ⟨u2, H5, τ5, o2, g2, k2⟩ := k_Unsafe hRU hS g1.wf (r3.rdH.gr g1 r4.wf (Nat.le_refl _)) τ4
 have hlen : (srtT (unsL (hs ++ [(mt, [120])]))).length < 1000000 := by
  have h1 := (srtT_ok (unsL (hs ++ [(mt, [120])]))).2.2
  have h2 := (names_le hS).1
  have h3 : (unsL (hs ++ [(mt, [120])])).length ≤ 1000 := by
   unfold unsL
   split
   ·rw [List.length_append]; exact h2
   ·omega
  omega
 have ks := fun τ q => k_book_Same_string hSm hlen (o1.rd.gr g2 g1.wf (Nat.le_refl _)) o2.rd τ q
 have gg : Gr H.size H H3 := i4.trans r4 (Nat.le_refl _)
 refine ⟨H5, τ5, (gg.trans g1 gg.size).trans g2 (by have := gg.size; have := g1.size; omega), fun q => ?_⟩
 simp only [s_law18_CorsMany, w0', w1']
 rw [i5 _ _ (by simp [T.get_set]) (by simp [T.get_set]) (by simp [T.get_set]) (by simp [T.get_set]) (by simp [T.get_set])]
 simp only [blockK, Nat.beq_refl, cond_true, seqK, s_law18_CorsMany_j0, getK_set, ↓reduceIte, Nat.reduceEqDiff, someK_n, effK_n, retK, gK_do, gK_do', gK_skip, gK_skip', gK_none, pick_mk, cond_true, cond_false, condK_tn, condK_fn, bin_eql, bin_neq, bin_lss, bin_leq, bin_gtr, bin_geq, un_not, Bool.not_true, Bool.not_false, bin_str, lenS_mk, nle_l, nle_r, nle_n, nlt_l, nlt_r, nlt_n, neq_r, neq_n, nne_r, nne_n, ext0, ext1, ext30, ext31, ext32, bin_add, bin_sub, decide_true, decide_false, kF, pb, r1, r2, k1, k2, ks, hKn]
def CorsManyR (vs : List V) (_ : Heap) (o : Out) : Prop := (∃ (a b : Int) (s : Bs), vs = [.int .i64 a, .int .i64 b, .str s]) ∧ o = .val (.bool true)
noncomputable abbrev rw_CorsMany : List Row := [Row.fn f_law18_CorsMany fn_law18_CorsMany e_law18_CorsMany, Row.fn f_book_Within fn_book_Within e_book_Within, Row.fn f_keep_Few fn_keep_Few e_keep_Few, Row.prim f_cors_Unsafe (outP (RH UnsPre UnsG)), Row.prim f_ref18_Unsafe (outP (RH UnsPre UnsG)), Row.prim f_book_Same_string (outP SameSR), Row.prim f_law18_known closedP]
theorem closedP_callM {c : CallK} {f : Nat} (h : ∀ vs H τ q, c f vs H τ q = effK (closedP vs H τ) q) : ∀ H τ q, c f [] H τ q = q (.bool true) H τ := fun H τ q => by rw [h]; rfl
theorem corsMany_ok : ∀ base w0, PrimOk PG base w0 f_law18_CorsMany (outP CorsManyR) := by
 obtain ⟨N, hN⟩ := someN
 refine primOk_out mixed_ok (l := rw_CorsMany) (.fn ok_law18_CorsMany e_law18_CorsMany_ok (.fn ok_book_Within e_book_Within_ok (.fn ok_keep_Few e_keep_Few_ok (.prim p_cors_Unsafe (.prim p_ref18_Unsafe (.prim p_book_Same_string (.prim closed_law18_known_ok (.nil _)))))))) N 3 _ ?_
 rintro vs H o hw hvs ⟨⟨a, b, s, rfl⟩, rfl⟩ τ
 obtain ⟨H', τ', g, k⟩ := s_law18_CorsMany_ret (CR rw_CorsMany N 2) hN (fun n _ hh H τ => s_book_Within_gen (CR rw_CorsMany N 1) N n hh H τ) (fun s m H τ q => s_keep_Few_ret (CR rw_CorsMany N 1) N s m H τ q) (fun _ _ _ _ => rfl) (fun _ _ _ _ => rfl) (fun _ _ _ _ => rfl) (closedP_callM fun _ _ _ _ => rfl) a b s H hw τ
 exact ⟨_, H', τ', k retK, g, rfl, trivial⟩
theorem corsMany_fun : Fun1 CorsManyR := fun vs H o o' k k' => k.2.trans k'.2.symm
theorem corsMany_in {H : Heap} (a b : Int) (s : Bs) (τ : Tape) : outP CorsManyR [.int .i64 a, .int .i64 b, .str s] H τ = some (.bool true, H, τ) := outP_mk corsMany_fun ⟨⟨a, b, s, rfl⟩, rfl⟩ τ
end Go.Am.X

