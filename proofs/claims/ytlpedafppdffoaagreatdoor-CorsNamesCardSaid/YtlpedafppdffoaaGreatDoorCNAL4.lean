/- The abstract machine, printed functions of the program, and what they are shown to be. -/
import Derived.Test.YtlpedafppdffoaaGreatDoorCNAL3
import Derived.Test.YtlpedafppdffoaaGreatDoorCNAL2
set_option linter.unusedSimpArgs false
set_option linter.unusedVariables false
set_option linter.unusedSectionVars false
set_option maxRecDepth 100000
namespace Go.Am.X
def safeH (h : Hd) : Bool := safeB h.1 h.2
def outN (hs : List Hd) : List Bs := (hs.filter fun h => !safeH h).map fun h => lower h.1
def safN (hs : List Hd) : List Bs := (hs.filter safeH).map fun h => lower h.1
def szN (hs : List Hd) : Nat := ((hs.filter safeH).map fun h => h.2.length).sum
def unsL (hs : List Hd) : List Bs := if 1024 < szN hs then outN hs ++ safN hs else outN hs
theorem outN_snoc (a : List Hd) (x : Hd) : outN (a ++ [x]) = outN a ++ (if safeH x = true then [] else [lower x.1]) := by
 unfold outN; rw [List.filter_append, List.map_append]; congr 1
 cases h : safeH x <;> simp [h]
theorem safN_snoc (a : List Hd) (x : Hd) : safN (a ++ [x]) = safN a ++ (if safeH x = true then [lower x.1] else []) := by
 unfold safN; rw [List.filter_append, List.map_append]; congr 1
 cases h : safeH x <;> simp [h]
theorem szN_snoc (a : List Hd) (x : Hd) : szN (a ++ [x]) = szN a + (if safeH x = true then x.2.length else 0) := by
 unfold szN; rw [List.filter_append, List.map_append, List.sum_append]; congr 1
 cases h : safeH x <;> simp [h]
theorem szN_le : ∀ (hs : List Hd), (∀ h ∈ hs, h.2.length ≤ 10000) → szN hs ≤ hs.length * 10000 := by
 intro hs
 induction hs with
 | nil => intro _; simp [szN]
 | cons x l ih =>
  intro h
  have h1 := ih fun y hy => h y (List.mem_cons_of_mem _ hy)
  have h2 := h x List.mem_cons_self
  unfold szN at *
  rw [List.filter_cons]
  split
  ·simp only [List.map_cons, List.sum_cons, List.length_cons]; omega
  ·simp only [List.length_cons]; omega
theorem names_le {hs : List Hd} (hS : Small hs) : (outN hs).length + (safN hs).length ≤ 1000 ∧ (∀ x ∈ outN hs, x.length ≤ 10000) ∧ ∀ x ∈ safN hs, x.length ≤ 10000 := by
 have hl := hS.len
 refine ⟨?_, fun x hx => ?_, fun x hx => ?_⟩
 ·have : ∀ hs : List Hd, (outN hs).length + (safN hs).length = hs.length := by
   intro hs
   induction hs with
   | nil => rfl
   | cons y l ih =>
    unfold outN safN at *
    rw [List.filter_cons, List.filter_cons]
    cases h : safeH y <;> simp [h] at ih ⊢ <;> omega
  rw [this]; exact hl
 ·obtain ⟨y, hy, rfl⟩ := List.mem_map.1 hx
  rw [lower_len]; exact (hS.all y (List.mem_filter.1 hy).1).1
 ·obtain ⟨y, hy, rfl⟩ := List.mem_map.1 hx
  rw [lower_len]; exact (hS.all y (List.mem_filter.1 hy).1).1
theorem l_cors_Unsafe (c : CallK) (N : Nat) (hL : NLowOk c) (hSf : IsP c f_headers_Safe SafeR) (hs : List Hd) (hS : Small hs) (lv : V) (B : Nat) : ∀ (l pre : List Hd) (m1 m2 : Nat) (H : Heap) (τ : Tape) (M : Nat), hs = pre ++ l → l.length < M → WF H → B ≤ m1 → B ≤ m2 → m1 ≠ m2 →
  (∀ H', Gr B H H' → RdH H' lv hs) → Mk H m1 (addAll (outN pre)) → Mk H m2 (addAll (safN pre)) →
  ∃ H' τ', Mk H' m1 (addAll (outN hs)) ∧ Mk H' m2 (addAll (safN hs)) ∧ Gr B H H' ∧ ∀ (fr : T V) k, fr.get 3 = some (.map m1) → fr.get 4 = some (.map m2) → fr.get 5 = some (.int .i64 (szN pre : Int)) → fr.get 11 = some lv → fr.get 12 = some (.int .i64 (hs.length : Int)) → fr.get 13 = some (.int .i64 (pre.length : Int)) →
   loopK (s_cors_Unsafe_l2 c N) M ⟨fr, H⟩ τ k = k (.exit 0) ⟨(T.set (T.set (T.set .leaf 3 (.map m1)) 4 (.map m2)) 5 (.int .i64 (szN hs : Int))), H'⟩ τ' := by
 intro l
 induction l with
 | nil =>
  intro pre m1 m2 H τ M he hm hw hB1 hB2 hne hrd h1 h2
  obtain ⟨M, rfl⟩ : ∃ j, M = j + 1 := ⟨M - 1, by omega⟩
  have hp : hs = pre := by rw [he, List.append_nil]
  have e1 : decide (pre.length < hs.length) = false := decide_eq_false (by rw [hp]; simp)
  refine ⟨H, τ, by rw [hp]; exact h1, by rw [hp]; exact h2, Gr.refl hw, fun fr k f3 f4 f5 f11 f12 f13 => ?_⟩
  rw [loopK_succ]
  simp only [s_cors_Unsafe_l2, getK_mk f3, getK_mk f4, getK_mk f5, getK_mk f11, getK_mk f12, getK_mk f13, getK_set, ↓reduceIte, Nat.reduceEqDiff, someK_n, effK_n, retK, gK_do, gK_do', gK_skip, gK_skip', gK_none, pick_mk, cond_true, cond_false, condK_tn, condK_fn, bin_eql, bin_neq, bin_lss, bin_leq, bin_gtr, bin_geq, un_not, Bool.not_true, Bool.not_false, bin_str, lenS_mk, nle_l, nle_r, nle_n, nlt_l, nlt_r, nlt_n, neq_r, neq_n, nne_r, nne_n, ext0, ext1, ext30, ext31, ext32, bin_add, bin_sub, decide_true, decide_false, e1]
  rw [hp]
  rfl
 | cons x l ih =>
  intro pre m1 m2 H τ M he hm hw hB1 hB2 hne hrd h1 h2
  obtain ⟨M, rfl⟩ : ∃ j, M = j + 1 := ⟨M - 1, by omega⟩
  have hlt : pre.length < hs.length := by rw [he]; simp
  have hl := hS.len
  have e1 : decide (pre.length < hs.length) = true := decide_eq_true hlt
  have e3 : wr .i64 ((pre.length : Int) + Int.ofNat 1) = ((pre ++ [x]).length : Int) := by rw [adI (by omega)]; simp
  have hr := (hrd H (Gr.refl hw)).1
  obtain ⟨id, o, p1, p2⟩ := hd_at (v := lv) pre x l (H := H) (by rw [← he]; exact hr)
  obtain ⟨q1, q2, q3⟩ := p2 H (by rw [← he]; exact hr)
  obtain ⟨H1, H2, a1, s1, b2, g2, lt2⟩ := box2 hw (.str x.1) (.str x.2) (.str []) (.str []) rfl rfl τ
  have s1' : eStore 2 [.ptr H.size 0, hv x] H1 τ = some (.tup [], H2, τ) := s1
  have l1a : lLoad1 [.ptr H.size 0] H2 = some (.str x.1) := load_cell b2.cells rfl
  have l1b : lLoad1 [.ptr H.size 1] H2 = some (.str x.2) := load_cell b2.cells rfl
  have fa : pFieldAddr 0 [.ptr H.size 0] = some (.ptr H.size 0) := rfl
  have fb : pFieldAddr 1 [.ptr H.size 0] = some (.ptr H.size 1) := rfl
  have hx := hS.all x (by rw [he]; simp)
  have kl := hL x.1 (by omega)
  have ks := fun H τ q => k_Safe hSf x.1 x.2 (by omega) H τ q
  have lt1 := h1.lt hw
  have lt2' := h2.lt hw
  have k1 := h1.gr g2 lt1
  have k2 := h2.gr g2 lt2'
  have hB : B ≤ H.size := by omega
  have gB2 := g2.weaken hB
  have hsz := szN_le pre fun y hy => (hS.all y (by rw [he]; simp [hy])).2
  have hpl : pre.length ≤ 1000 := by omega
  cases hsf : safeH x with
  | false =>
   have hsf' : safeB x.1 x.2 = false := hsf
   obtain ⟨n, hn⟩ := mlook_K k1 (lower x.1)
   obtain ⟨H3, r1, r2, r3⟩ := mput_K k1 g2.wf (lower x.1) (wr .i64 (n + Int.ofNat 1)) τ
   have gB3 : Gr B H H3 := gB2.trans (r3.gr hB1) (Nat.le_refl _)
   obtain ⟨H', τ', i1, i2, i3, i4⟩ := ih (pre ++ [x]) m1 m2 H3 τ M (by rw [he]; simp) (by simp at hm; omega) r3.wf hB1 hB2 hne (fun H' hg => hrd H' (gB3.trans hg (Nat.le_refl _)))
    (by rw [outN_snoc, if_neg (by rw [hsf]; simp), addAll_snoc]; exact r2) (by rw [safN_snoc, if_neg (by rw [hsf]; simp), List.append_nil]; exact k2.only r3 (Ne.symm hne))
   refine ⟨H', τ', i1, i2, gB3.trans i3 (Nat.le_refl _), fun fr k f3 f4 f5 f11 f12 f13 => ?_⟩
   rw [loopK_succ]
   simp only [s_cors_Unsafe_l2, getK_mk f3, getK_mk f4, getK_mk f5, getK_mk f11, getK_mk f12, getK_mk f13, getK_set, ↓reduceIte, Nat.reduceEqDiff, someK_n, effK_n, retK, gK_do, gK_do', gK_skip, gK_skip', gK_none, pick_mk, cond_true, cond_false, condK_tn, condK_fn, bin_eql, bin_neq, bin_lss, bin_leq, bin_gtr, bin_geq, un_not, Bool.not_true, Bool.not_false, bin_str, lenS_mk, nle_l, nle_r, nle_n, nlt_l, nlt_r, nlt_n, neq_r, neq_n, nne_r, nne_n, ext0, ext1, ext30, ext31, ext32, bin_add, bin_sub, decide_true, decide_false, e1, p1, q1, a1, s1', fa, fb, l1a, l1b, kl, ks, hsf', hn, r1, s_cors_Unsafe_j3, e3]
   refine i4 _ k (by simp [T.get_set]) (by simp [T.get_set]) ?_ (by simp [T.get_set]) (by simp [T.get_set]) (by simp [T.get_set])
   rw [szN_snoc, if_neg (by rw [hsf]; simp)]
   simp [T.get_set]
  | true =>
   have hsf' : safeB x.1 x.2 = true := hsf
   obtain ⟨n, hn⟩ := mlook_K k2 (lower x.1)
   obtain ⟨H3, r1, r2, r3⟩ := mput_K k2 g2.wf (lower x.1) (wr .i64 (n + Int.ofNat 1)) τ
   have b3 : Bx H3 H.size [.str x.1, .str x.2] := b2.only r3 (by omega)
   have l3b : lLoad1 [.ptr H.size 1] H3 = some (.str x.2) := load_cell b3.cells rfl
   have e5 : wr .i64 ((szN pre : Int) + (x.2.length : Int)) = ((szN (pre ++ [x]) : Nat) : Int) := by
    rw [szN_snoc, if_pos hsf, wr_id (by omega) (by omega)]; omega
   have gB3 : Gr B H H3 := gB2.trans (r3.gr hB2) (Nat.le_refl _)
   obtain ⟨H', τ', i1, i2, i3, i4⟩ := ih (pre ++ [x]) m1 m2 H3 τ M (by rw [he]; simp) (by simp at hm; omega) r3.wf hB1 hB2 hne (fun H' hg => hrd H' (gB3.trans hg (Nat.le_refl _)))
    (by rw [outN_snoc, if_pos hsf, List.append_nil]; exact k1.only r3 hne) (by rw [safN_snoc, if_pos hsf, addAll_snoc]; exact r2)
   refine ⟨H', τ', i1, i2, gB3.trans i3 (Nat.le_refl _), fun fr k f3 f4 f5 f11 f12 f13 => ?_⟩
   rw [loopK_succ]
   simp only [s_cors_Unsafe_l2, getK_mk f3, getK_mk f4, getK_mk f5, getK_mk f11, getK_mk f12, getK_mk f13, getK_set, ↓reduceIte, Nat.reduceEqDiff, someK_n, effK_n, retK, gK_do, gK_do', gK_skip, gK_skip', gK_none, pick_mk, cond_true, cond_false, condK_tn, condK_fn, bin_eql, bin_neq, bin_lss, bin_leq, bin_gtr, bin_geq, un_not, Bool.not_true, Bool.not_false, bin_str, lenS_mk, nle_l, nle_r, nle_n, nlt_l, nlt_r, nlt_n, neq_r, neq_n, nne_r, nne_n, ext0, ext1, ext30, ext31, ext32, bin_add, bin_sub, decide_true, decide_false, e1, p1, q1, a1, s1', fa, fb, l1a, l1b, kl, ks, hsf', hn, r1, l3b, e5, s_cors_Unsafe_j3, e3]
   exact i4 _ k (by simp [T.get_set]) (by simp [T.get_set]) (by simp [T.get_set]) (by simp [T.get_set]) (by simp [T.get_set]) (by simp [T.get_set])
abbrev NamP (c : CallK) : Prop := ∀ vs H τ q, c f_cors_names vs H τ q = effK (namesP vs H τ) q
abbrev CpyP (c : CallK) : Prop := ∀ vs H τ q, c f_maps_Copy_int vs H τ q = effK (copyP vs H τ) q
theorem s_cors_Unsafe_ret (c : CallK) {N : Nat} (hN : 9223372036854775807 < N) (hL : NLowOk c) (hSf : IsP c f_headers_Safe SafeR) (hNm : NamP c) (hCp : CpyP c) (hs : List Hd) (hS : Small hs) (lv : V) (H : Heap) (hw : WF H) (hr : RdH H lv hs) (τ : Tape) :
  ∃ v' H' τ', LsS H' H.size v' (srtT (unsL hs)) ∧ Gr H.size H H' ∧ ∀ q, s_cors_Unsafe c N lv H τ q = q v' H' τ' := by
 obtain ⟨H1, a1, k1, g1, z1⟩ := mk_new hw τ
 obtain ⟨H2, a2, k2, g2, z2⟩ := mk_new g1.wf τ
 have k1' := k1.gr g2 (by omega)
 have g12 : Gr H.size H H2 := g1.trans g2 (by omega)
 have hl := hS.len
 obtain ⟨H3, τ3, m1, m2, g3, k3⟩ := l_cors_Unsafe c N hL hSf hs hS lv H.size hs [] H.size H1.size H2 τ N rfl (by omega) g2.wf (Nat.le_refl _) (by omega) (by omega) (fun H' hg => hr.gr (g12.trans hg (Nat.le_refl _)) hw (Nat.le_refl _)) k1' k2
 obtain ⟨n1, n2, n3⟩ := names_le hS
 obtain ⟨u1, u2, u3⟩ := addAll_ok (outN hs)
 obtain ⟨v1, v2, v3⟩ := addAll_ok (safN hs)
 have g03 := g12.trans g3 (Nat.le_refl _)
 have pl := hr.1.pLen
 by_cases hbig : 1024 < szN hs
 ·have eb : decide (Int.ofNat 1024 < (szN hs : Int)) = true := decide_eq_true (by have : Int.ofNat 1024 = 1024 := rfl; omega)
  obtain ⟨H4, es, c1, c2, c3, c4, c5, c6⟩ := copy_K g3.wf m1 m2 (by omega) (by omega) (by omega) (fun x hx => by have := n2 x ((u2 x).1 hx); omega) (fun x hx => by have := n3 x ((v2 x).1 hx); omega) u1 τ3
  obtain ⟨v', H5, τ5, d1, d2, d3⟩ := names_K c6.wf c2 (L := unsL hs) c3 (fun x => by rw [c4, u2, v2]; unfold unsL; rw [if_pos hbig, List.mem_append]) (by omega) (fun x hx => by
   unfold unsL at hx; rw [if_pos hbig] at hx
   rcases List.mem_append.1 hx with h | h
   ·have := n2 x h; omega
   ·have := n3 x h; omega) τ3
  have g34 : Gr H.size H H4 := g03.trans (c6.gr (Nat.le_refl _)) (Nat.le_refl _)
  refine ⟨v', H5, τ5, d2.weaken (by have := g34.size; omega), g34.trans d3 (by have := g34.size; omega), fun q => ?_⟩
  simp only [s_cors_Unsafe, a1, a2, effK_n, pl, someK_n]
  rw [k3 _ _ (by simp [T.get_set]) (by simp [T.get_set]) (by simp [T.get_set, szN]) (by simp [T.get_set]) (by simp [T.get_set]) (by simp [T.get_set])]
  simp only [blockK, Nat.beq_refl, cond_true, seqK, s_cors_Unsafe_j0, s_cors_Unsafe_j1, getK_set, ↓reduceIte, Nat.reduceEqDiff, someK_n, effK_n, retK, gK_do, gK_do', gK_skip, gK_skip', gK_none, pick_mk, cond_true, cond_false, condK_tn, condK_fn, bin_eql, bin_neq, bin_lss, bin_leq, bin_gtr, bin_geq, un_not, Bool.not_true, Bool.not_false, bin_str, lenS_mk, nle_l, nle_r, nle_n, nlt_l, nlt_r, nlt_n, neq_r, neq_n, nne_r, nne_n, ext0, ext1, ext30, ext31, ext32, bin_add, bin_sub, decide_true, decide_false, eb, hCp, c1, hNm, d1]
 ·have eb : decide (Int.ofNat 1024 < (szN hs : Int)) = false := decide_eq_false (by have : Int.ofNat 1024 = 1024 := rfl; omega)
  obtain ⟨ms, cl, w1, w2, w3⟩ := m1
  obtain ⟨v', H5, τ5, d1, d2, d3⟩ := names_K g3.wf w1 (L := unsL hs) (by rw [w2]; exact u1) (fun x => by rw [w2, u2]; unfold unsL; rw [if_neg hbig]) (by rw [w2]; omega) (fun x hx => by
   unfold unsL at hx; rw [if_neg hbig] at hx
   have := n2 x hx; omega) τ3
  refine ⟨v', H5, τ5, d2.weaken (by have := g03.size; omega), g03.trans d3 (by have := g03.size; omega), fun q => ?_⟩
  simp only [s_cors_Unsafe, a1, a2, effK_n, pl, someK_n]
  rw [k3 _ _ (by simp [T.get_set]) (by simp [T.get_set]) (by simp [T.get_set, szN]) (by simp [T.get_set]) (by simp [T.get_set]) (by simp [T.get_set])]
  simp only [blockK, Nat.beq_refl, cond_true, seqK, s_cors_Unsafe_j0, s_cors_Unsafe_j1, getK_set, ↓reduceIte, Nat.reduceEqDiff, someK_n, effK_n, retK, gK_do, gK_do', gK_skip, gK_skip', gK_none, pick_mk, cond_true, cond_false, condK_tn, condK_fn, bin_eql, bin_neq, bin_lss, bin_leq, bin_gtr, bin_geq, un_not, Bool.not_true, Bool.not_false, bin_str, lenS_mk, nle_l, nle_r, nle_n, nlt_l, nlt_r, nlt_n, neq_r, neq_n, nne_r, nne_n, ext0, ext1, ext30, ext31, ext32, bin_add, bin_sub, decide_true, decide_false, eb, hNm, d1]
end Go.Am.X

namespace Go.Am.X
structure Two (B : Nat) (H : Heap) (u v : V) (a b : List Bs) (P Q : Nat → Prop) : Prop where
 wf : WF H
 le : B ≤ H.size
 u : OwnP P H 1 u a.length (a.map V.str)
 v : OwnP Q H 1 v b.length (b.map V.str)
 p : ∀ x, P x → B ≤ x ∧ x < H.size
 q : ∀ x, Q x → B ≤ x ∧ x < H.size
 d : ∀ x, P x → Q x → False
theorem Two.symm {B : Nat} {H : Heap} {u v : V} {a b : List Bs} {P Q : Nat → Prop} (h : Two B H u v a b P Q) : Two B H v u b a Q P := ⟨h.wf, h.le, h.v, h.u, h.q, h.p, fun x h1 h2 => h.d x h2 h1⟩
theorem Two.gr {B : Nat} {H H' : Heap} {u v : V} {a b : List Bs} {P Q : Nat → Prop} (h : Two B H u v a b P Q) (g : Gr H.size H H') : Two B H' u v a b P Q :=
 ⟨g.wf, Nat.le_trans h.le g.size, h.u.chg h.wf (g.chg (P := fun _ => False)) fun _ _ _ => not_false, h.v.chg h.wf (g.chg (P := fun _ => False)) fun _ _ _ => not_false, fun x hx => by have := h.p x hx; have := g.size; omega, fun x hx => by have := h.q x hx; have := g.size; omega, h.d⟩
theorem Two.put {B : Nat} {H : Heap} {u v : V} {a b : List Bs} {P Q : Nat → Prop} (h : Two B H u v a b P Q) (x : Bs) (ha : a.length ≤ 100000) (τ : Tape) :
  ∃ w H1 u' H' P', eBuildSlice 1 1 [(.str [])] [(0, 1)] [.str x] H τ = some (w, H1, τ) ∧ eAppend 1 16 [u, w] H1 τ = some (u', H', τ.tail) ∧ Two B H' u' v (a ++ [x]) b P' Q ∧ Gr B H H' := by
 obtain ⟨w, H1, u', H', r1, r2, r3, r4, _, g3, r5⟩ := h.u.push (bytes := 16) h.wf (.str x) (.str []) rfl rfl (by omega) (by omega) τ
 have z4 := r4.size
 refine ⟨w, H1, u', H', fun i => ((i < H.size ∧ P i) ∨ H.size ≤ i) ∧ i < H'.size, r1, r2, ⟨r4.wf, Nat.le_trans h.le z4, ?_, h.v.chg h.wf r4 fun i _ hq hp => h.d i hp hq, fun i hi => ?_, fun i hi => by have := h.q i hi; omega, fun i hi hq => ?_⟩, r4.gr h.le fun i hi hp => by have := h.p i hp; omega⟩
 ·have r3' := r3.weaken (Q := fun i => ((i < H.size ∧ P i) ∨ H.size ≤ i) ∧ i < H'.size) r4.wf fun i hi hu => ⟨hu, hi⟩
  simpa using r3'
 ·obtain ⟨hi | hi, hl⟩ := hi
  ·have := h.p i hi.2; omega
  ·have := h.le; omega
 ·obtain ⟨hi | hi, _⟩ := hi
  ·exact h.d i hi.2 hq
  ·have := h.q i hq; omega
abbrev UnsPre (hs : List Hd) : List V → Prop | [] => Small hs | _ => False
abbrev UnsG (_ : Bool) (hs : List Hd) : List V → Out | [] => lstO 1 (srtT (unsL hs)).length ((srtT (unsL hs)).map V.str) (fun v => v) | _ => .val (.tup [])
noncomputable abbrev rw_Uns : List Row := [Row.fn f_cors_Unsafe fn_cors_Unsafe e_cors_Unsafe, Row.prim f_infra_Lower (outP LowR), Row.prim f_headers_Safe (outP SafeR), Row.prim f_cors_names namesP, Row.prim f_maps_Copy_int copyP]
theorem p_cors_Unsafe : ∀ base w0, PrimOk PG base w0 f_cors_Unsafe (outP (RH UnsPre UnsG)) := by
 obtain ⟨N, hN⟩ := someN
 refine primRH (N := N) (l := rw_Uns) (.fn ok_cors_Unsafe e_cors_Unsafe_ok (.prim p_infra_Lower (.prim p_headers_Safe (.prim namesP_ok (.prim copyP_ok (.nil _)))))) 2 _ (fun hs args hp lv H hw hr τ => ?_)
 unfold UnsPre at hp; split at hp
 ·obtain ⟨v', H', τ', h1, h2, h3⟩ := s_cors_Unsafe_ret (CR rw_Uns N 1) hN (k_infra_Lower fun _ _ _ _ => rfl) (fun _ _ _ _ => rfl) (fun _ _ _ _ => rfl) (fun _ _ _ _ => rfl) hs hp lv H hw hr τ
  exact ⟨_, H', τ', h2, LsS.met h1 mkOk_id trivial, h3⟩
 ·exact hp.elim
theorem k_Unsafe {c : CallK} {f : Nat} (h : IsP c f (RH UnsPre UnsG)) {hs : List Hd} (hS : Small hs) {lv : V} {H : Heap} (hw : WF H) (hr : RdH H lv hs) (τ : Tape) :
  ∃ v' H' τ', Own H' H.size 1 v' (srtT (unsL hs)).length ((srtT (unsL hs)).map V.str) ∧ Gr H.size H H' ∧ ∀ q, c f [lv] H τ q = q v' H' τ' :=
 RH_lstO (l := []) h hr hS rfl hw (by simp) τ
end Go.Am.X

namespace Go.Am.X
end Go.Am.X

namespace Go.Am.X
theorem splitF_mem : ∀ (n : Nat) (s : Bs), s.length ≤ n → ∀ (q : Bool) (cur : Bs), (∀ p ∈ (splitF q cur s).1, p.length ≤ cur.length + s.length) ∧ (splitF q cur s).2.length ≤ cur.length + s.length := by
 intro n
 induction n with
 | zero =>
  intro s hn q cur
  obtain rfl := List.eq_nil_of_length_eq_zero (by omega : s.length = 0)
  simp [splitF]
 | succ n ih =>
  intro s hn q cur
  cases s with
  | nil => simp [splitF]
  | cons x r =>
   have hr : r.length ≤ n := by simp at hn; omega
   have up : ∀ (q' : Bool) (cur' r' : Bs), r'.length ≤ n → cur'.length + r'.length ≤ cur.length + (x :: r).length → splitF q cur (x :: r) = splitF q' cur' r' → (∀ p ∈ (splitF q cur (x :: r)).1, p.length ≤ cur.length + (x :: r).length) ∧ (splitF q cur (x :: r)).2.length ≤ cur.length + (x :: r).length := by
    intro q' cur' r' h1 h2 h3
    rw [h3]
    obtain ⟨a, b⟩ := ih r' h1 q' cur'
    exact ⟨fun p hp => by have := a p hp; omega, by omega⟩
   by_cases c34 : x = 34
   ·exact up (!q) (cur ++ [x]) r hr (by simp; omega) (splitF_quote q cur r c34)
   ·cases q with
    | true =>
     by_cases c92 : x = 92
     ·cases r with
      | nil => rw [splitF_end cur c34 c92]; simp
      | cons y r' => exact up true (cur ++ [x, y]) r' (by simp at hr; omega) (by simp; omega) (splitF_esc cur y r' c34 c92)
     ·exact up true (cur ++ [x]) r hr (by simp; omega) (splitF_in cur r c34 c92)
    | false =>
     by_cases c44 : x = 44
     ·rw [splitF_comma cur r c34 c44]
      obtain ⟨a, b⟩ := ih r hr false []
      refine ⟨fun p hp => ?_, by simp at b ⊢; omega⟩
      rcases List.mem_cons.1 hp with e | e
      ·rw [e]; omega
      ·have := a p e; simp at this ⊢; omega
     ·exact up false (cur ++ [x]) r hr (by simp; omega) (splitF_out cur r c34 c44)
theorem piece_len {s p : Bs} (h : p ∈ piecesB s) : p.length ≤ s.length := by
 unfold piecesB at h
 obtain ⟨y, hy, rfl⟩ := List.mem_map.1 h
 obtain ⟨a, b⟩ := splitF_mem s.length s (Nat.le_refl _) false []
 have := trimB_length tight y
 rcases List.mem_append.1 hy with e | e
 ·have := a y e; simp at this; omega
 ·rw [List.mem_singleton] at e; subst e; simp at b; omega
end Go.Am.X

namespace Go.Am.X
end Go.Am.X

namespace Go.Am.X
end Go.Am.X

namespace Go.Am.X
theorem l_slices_Index_string (c : CallK) (N : Nat) (lv : V) (ss : List Bs) (x : Bs) (hl : ss.length < 1000000000) (H : Heap) (hr : Rd H 1 lv ss.length (ss.map V.str)) : ∀ (l pre : List Bs) (τ : Tape) (m : Nat), ss = pre ++ l → l.length < m →
  ∃ j : Nat, ∀ (fr : T V) k, fr.get 0 = some lv → fr.get 1 = some (.str x) → fr.get 7 = some (.int .i64 (ss.length : Int)) → fr.get 8 = some (.int .i64 (pre.length : Int)) →
   loopK (s_slices_Index_string_l1 c N) m ⟨fr, H⟩ τ k = bif l.contains x then k .ret ⟨(T.set .leaf 4 (.int .i64 (j : Int))), H⟩ τ else k (.exit 0) ⟨.leaf, H⟩ τ := by
 intro l
 induction l with
 | nil =>
  intro pre τ m he hm
  obtain ⟨m, rfl⟩ : ∃ j, m = j + 1 := ⟨m - 1, by omega⟩
  have e1 : decide (pre.length < ss.length) = false := decide_eq_false (by rw [he]; simp)
  refine ⟨0, fun fr k f0 f1 f7 f8 => ?_⟩
  rw [loopK_succ]
  simp only [s_slices_Index_string_l1, getK_mk f0, getK_mk f1, getK_mk f7, getK_mk f8, getK_set, ↓reduceIte, Nat.reduceEqDiff, someK_n, effK_n, retK, gK_do, gK_do', gK_skip, gK_skip', gK_none, pick_mk, cond_true, cond_false, condK_tn, condK_fn, bin_eql, bin_neq, bin_lss, bin_leq, bin_gtr, bin_geq, un_not, Bool.not_true, Bool.not_false, bin_str, lenS_mk, nle_l, nle_r, nle_n, nlt_l, nlt_r, nlt_n, neq_r, neq_n, nne_r, nne_n, ext0, ext1, ext30, ext31, ext32, bin_add, bin_sub, decide_true, decide_false, e1]
  rfl
 | cons y l ih =>
  intro pre τ m he hm
  obtain ⟨m, rfl⟩ : ∃ j, m = j + 1 := ⟨m - 1, by omega⟩
  have hlt : pre.length < ss.length := by rw [he]; simp
  have e1 : decide (pre.length < ss.length) = true := decide_eq_true hlt
  have e3 : wr .i64 ((pre.length : Int) + Int.ofNat 1) = ((pre ++ [y]).length : Int) := by rw [adI (by omega)]; simp
  obtain ⟨p, p1, p2⟩ := hr.elem1 (i := pre.length) (x := .str y) (by rw [he]; simp)
  have ec : (y :: l).contains x = ((x == y) || l.contains x) := List.contains_cons
  rw [ec]
  cases hb : (x == y) with
  | true =>
   refine ⟨pre.length, fun fr k f0 f1 f7 f8 => ?_⟩
   rw [loopK_succ]
   simp only [s_slices_Index_string_l1, getK_mk f0, getK_mk f1, getK_mk f7, getK_mk f8, getK_set, ↓reduceIte, Nat.reduceEqDiff, someK_n, effK_n, retK, gK_do, gK_do', gK_skip, gK_skip', gK_none, pick_mk, cond_true, cond_false, condK_tn, condK_fn, bin_eql, bin_neq, bin_lss, bin_leq, bin_gtr, bin_geq, un_not, Bool.not_true, Bool.not_false, bin_str, lenS_mk, nle_l, nle_r, nle_n, nlt_l, nlt_r, nlt_n, neq_r, neq_n, nne_r, nne_n, ext0, ext1, ext30, ext31, ext32, bin_add, bin_sub, decide_true, decide_false, e1, p1, p2, str_eql, hb, Bool.true_or]
   rfl
  | false =>
   obtain ⟨j, i1⟩ := ih (pre ++ [y]) τ m (by rw [he]; simp) (by simp at hm; omega)
   refine ⟨j, fun fr k f0 f1 f7 f8 => ?_⟩
   rw [loopK_succ]
   simp only [s_slices_Index_string_l1, getK_mk f0, getK_mk f1, getK_mk f7, getK_mk f8, getK_set, ↓reduceIte, Nat.reduceEqDiff, someK_n, effK_n, retK, gK_do, gK_do', gK_skip, gK_skip', gK_none, pick_mk, cond_true, cond_false, condK_tn, condK_fn, bin_eql, bin_neq, bin_lss, bin_leq, bin_gtr, bin_geq, un_not, Bool.not_true, Bool.not_false, bin_str, lenS_mk, nle_l, nle_r, nle_n, nlt_l, nlt_r, nlt_n, neq_r, neq_n, nne_r, nne_n, ext0, ext1, ext30, ext31, ext32, bin_add, bin_sub, decide_true, decide_false, e1, p1, p2, str_eql, hb, Bool.false_or, e3]
   exact i1 _ k (by simp [T.get_set]) (by simp [T.get_set]) (by simp [T.get_set]) (by simp [T.get_set])
theorem s_slices_Index_string_ret (c : CallK) {N : Nat} (hN : 9223372036854775807 < N) (lv : V) (ss : List Bs) (x : Bs) (hl : ss.length < 1000000000) (H : Heap) (hr : Rd H 1 lv ss.length (ss.map V.str)) (τ : Tape) :
  ∃ n : Int, decide (0 ≤ n) = ss.contains x ∧ ∀ q, s_slices_Index_string c N lv (.str x) H τ q = q (.int .i64 n) H τ := by
 obtain ⟨j, i1⟩ := l_slices_Index_string c N lv ss x hl H hr ss [] τ N rfl (by omega)
 have pl := hr.pLen
 cases hb : ss.contains x with
 | true =>
  rw [hb] at i1
  refine ⟨j, decide_eq_true (by omega), fun q => ?_⟩
  simp only [s_slices_Index_string, pl, someK_n]
  rw [i1 _ _ (by simp [T.get_set]) (by simp [T.get_set]) (by simp [T.get_set]) (by simp [T.get_set])]
  simp only [cond_true, blockK, seqK, endK]
  rfl
 | false =>
  rw [hb] at i1
  refine ⟨-1, rfl, fun q => ?_⟩
  simp only [s_slices_Index_string, pl, someK_n]
  rw [i1 _ _ (by simp [T.get_set]) (by simp [T.get_set]) (by simp [T.get_set]) (by simp [T.get_set])]
  simp only [cond_false, blockK, Nat.beq_refl, cond_true, seqK, s_slices_Index_string_j0]
  rfl
theorem s_slices_Contains_string_ret (c : CallK) (N : Nat) (lv : V) (ss : List Bs) (x : Bs) (H : Heap) (τ : Tape) (h : ∃ n : Int, decide (0 ≤ n) = ss.contains x ∧ ∀ q, c f_slices_Index_string [lv, .str x] H τ q = q (.int .i64 n) H τ) (q : KV) :
  s_slices_Contains_string c N lv (.str x) H τ q = q (.bool (ss.contains x)) H τ := by
 obtain ⟨n, h1, h2⟩ := h
 have z0 : decide (Int.ofNat 0 ≤ n) = decide (0 ≤ n) := rfl
 simp only [s_slices_Contains_string, h2, bin_geq, z0, h1]
end Go.Am.X

namespace Go.Am.X
def expN : Bs := [97, 99, 99, 101, 115, 115, 45, 99, 111, 110, 116, 114, 111, 108, 45, 101, 120, 112, 111, 115, 101, 45, 104, 101, 97, 100, 101, 114, 115]
def expL (ps : List Bs) : List Bs := (ps.filter tokT).map lower
theorem expL_snoc (a : List Bs) (x : Bs) : expL (a ++ [x]) = expL a ++ (if tokT x = true then [lower x] else []) := by
 unfold expL; rw [List.filter_append, List.map_append]; congr 1
 cases h : tokT x <;> simp [h]
theorem expL_len (ps : List Bs) : (expL ps).length ≤ ps.length := by unfold expL; rw [List.length_map]; exact List.length_filter_le _ _
theorem expL_mem {ps : List Bs} {x : Bs} {M : Nat} (h : ∀ p ∈ ps, p.length ≤ M) (hx : x ∈ expL ps) : x.length ≤ M := by
 unfold expL at hx
 obtain ⟨p, hp, rfl⟩ := List.mem_map.1 hx
 rw [lower_len]; exact h p (List.mem_filter.1 hp).1
abbrev TokOk (c : CallK) : Prop := ∀ (s : Bs), s.length ≤ 9223372036854775806 → ∀ H τ q, c f_infra_Token [.str s] H τ q = q (.bool (tokT s)) H τ
noncomputable abbrev rw_Tok : List Row := [Row.fn f_infra_Token fn_infra_Token e_infra_Token, Row.fn f_strings_IndexByte fn_strings_IndexByte e_strings_IndexByte, Row.prim f_stringslite_IndexByte idxP]
theorem p_infra_Token : ∀ base w0, PrimOk PG base w0 f_infra_Token (outP TokR) := by
 obtain ⟨N, hN⟩ := someN
 refine primRV (N := N) (l := rw_Tok) (.fn ok_infra_Token e_infra_Token_ok (.fn ok_strings_IndexByte e_strings_IndexByte_ok (.prim idxP_ok (.nil _)))) 3 _ (fun vs H h => ?_) (fun vs h H hw τ => ?_)
 ·unfold strP at h; split at h
  ·trivial
  ·exact h.elim
 ·unfold strP at h; split at h
  ·exact ⟨H, τ, Gr.refl hw, fun q => s_infra_Token_ret (CR rw_Tok N 2) N (Nat.le_of_lt hN) (fun s x H τ q => s_strings_IndexByte_ret (CR rw_Tok N 1) N (k_idx fun _ _ _ _ => rfl) s x H τ q) _ (by omega) H τ q⟩
  ·exact h.elim
theorem k_infra_Token {c : CallK} (h : IsP c f_infra_Token TokR) : TokOk c := fun s hs H τ q => callS h s hs H τ q
theorem l_cors_Exposed (c : CallK) (N : Nat) (hL : NLowOk c) (hT : TokOk c) (ps : List Bs) (hl : ps.length < 1000000) (hsz : ∀ p ∈ ps, p.length ≤ 900000) (pv : V) (B : Nat) : ∀ (l pre : List Bs) (m : Nat) (H : Heap) (τ : Tape) (M : Nat), ps = pre ++ l → l.length < M → WF H → B ≤ m →
  (∀ H', Gr B H H' → Rd H' 1 pv ps.length (ps.map V.str)) → Mk H m (addAll (expL pre)) →
  ∃ H' τ', Mk H' m (addAll (expL ps)) ∧ Gr B H H' ∧ ∀ (fr : T V) k, fr.get 8 = some (.map m) → fr.get 23 = some pv → fr.get 24 = some (.int .i64 (ps.length : Int)) → fr.get 25 = some (.int .i64 (pre.length : Int)) →
   loopK (s_cors_Exposed_l1 c N) M ⟨fr, H⟩ τ k = k (.exit 0) ⟨(T.set .leaf 8 (.map m)), H'⟩ τ' := by
 intro l
 induction l with
 | nil =>
  intro pre m H τ M he hm hw hB hrd h1
  obtain ⟨M, rfl⟩ : ∃ j, M = j + 1 := ⟨M - 1, by omega⟩
  have hp : ps = pre := by rw [he, List.append_nil]
  have e1 : decide (pre.length < ps.length) = false := decide_eq_false (by rw [hp]; simp)
  refine ⟨H, τ, by rw [hp]; exact h1, Gr.refl hw, fun fr k f8 f23 f24 f25 => ?_⟩
  rw [loopK_succ]
  simp only [s_cors_Exposed_l1, getK_mk f8, getK_mk f23, getK_mk f24, getK_mk f25, getK_set, ↓reduceIte, Nat.reduceEqDiff, someK_n, effK_n, retK, gK_do, gK_do', gK_skip, gK_skip', gK_none, pick_mk, cond_true, cond_false, condK_tn, condK_fn, bin_eql, bin_neq, bin_lss, bin_leq, bin_gtr, bin_geq, un_not, Bool.not_true, Bool.not_false, bin_str, lenS_mk, nle_l, nle_r, nle_n, nlt_l, nlt_r, nlt_n, neq_r, neq_n, nne_r, nne_n, ext0, ext1, ext30, ext31, ext32, bin_add, bin_sub, decide_true, decide_false, e1]
  rfl
 | cons x l ih =>
  intro pre m H τ M he hm hw hB hrd h1
  obtain ⟨M, rfl⟩ : ∃ j, M = j + 1 := ⟨M - 1, by omega⟩
  have hlt : pre.length < ps.length := by rw [he]; simp
  have e1 : decide (pre.length < ps.length) = true := decide_eq_true hlt
  have e3 : wr .i64 ((pre.length : Int) + Int.ofNat 1) = ((pre ++ [x]).length : Int) := by rw [adI (by omega)]; simp
  obtain ⟨p, p1, p2⟩ := (hrd H (Gr.refl hw)).elem1 (i := pre.length) (x := .str x) (by rw [he]; simp)
  have hx := hsz x (by rw [he]; simp)
  have kt := hT x (by omega)
  have kl := hL x (by omega)
  cases ht : tokT x with
  | false =>
   obtain ⟨H', τ', i1, i2, i3⟩ := ih (pre ++ [x]) m H τ M (by rw [he]; simp) (by simp at hm; omega) hw hB hrd (by rw [expL_snoc, if_neg (by rw [ht]; simp), List.append_nil]; exact h1)
   refine ⟨H', τ', i1, i2, fun fr k f8 f23 f24 f25 => ?_⟩
   rw [loopK_succ]
   simp only [s_cors_Exposed_l1, getK_mk f8, getK_mk f23, getK_mk f24, getK_mk f25, getK_set, ↓reduceIte, Nat.reduceEqDiff, someK_n, effK_n, retK, gK_do, gK_do', gK_skip, gK_skip', gK_none, pick_mk, cond_true, cond_false, condK_tn, condK_fn, bin_eql, bin_neq, bin_lss, bin_leq, bin_gtr, bin_geq, un_not, Bool.not_true, Bool.not_false, bin_str, lenS_mk, nle_l, nle_r, nle_n, nlt_l, nlt_r, nlt_n, neq_r, neq_n, nne_r, nne_n, ext0, ext1, ext30, ext31, ext32, bin_add, bin_sub, decide_true, decide_false, e1, p1, p2, kt, ht, s_cors_Exposed_j2, e3]
   exact i3 _ k (by simp [T.get_set]) (by simp [T.get_set]) (by simp [T.get_set]) (by simp [T.get_set])
  | true =>
   obtain ⟨n, hn⟩ := mlook_K h1 (lower x)
   obtain ⟨H3, r1, r2, r3⟩ := mput_K h1 hw (lower x) (wr .i64 (n + Int.ofNat 1)) τ
   have gB3 : Gr B H H3 := r3.gr hB
   obtain ⟨H', τ', i1, i2, i3⟩ := ih (pre ++ [x]) m H3 τ M (by rw [he]; simp) (by simp at hm; omega) r3.wf hB (fun H' hg => hrd H' (gB3.trans hg (Nat.le_refl _))) (by rw [expL_snoc, if_pos ht, addAll_snoc]; exact r2)
   refine ⟨H', τ', i1, gB3.trans i2 (Nat.le_refl _), fun fr k f8 f23 f24 f25 => ?_⟩
   rw [loopK_succ]
   simp only [s_cors_Exposed_l1, getK_mk f8, getK_mk f23, getK_mk f24, getK_mk f25, getK_set, ↓reduceIte, Nat.reduceEqDiff, someK_n, effK_n, retK, gK_do, gK_do', gK_skip, gK_skip', gK_none, pick_mk, cond_true, cond_false, condK_tn, condK_fn, bin_eql, bin_neq, bin_lss, bin_leq, bin_gtr, bin_geq, un_not, Bool.not_true, Bool.not_false, bin_str, lenS_mk, nle_l, nle_r, nle_n, nlt_l, nlt_r, nlt_n, neq_r, neq_n, nne_r, nne_n, ext0, ext1, ext30, ext31, ext32, bin_add, bin_sub, decide_true, decide_false, e1, p1, p2, kt, ht, kl, hn, r1, s_cors_Exposed_j2, e3]
   exact i3 _ k (by simp [T.get_set]) (by simp [T.get_set]) (by simp [T.get_set]) (by simp [T.get_set])
abbrev ConSOk (c : CallK) : Prop := ∀ {lv : V} {ss : List Bs} (x : Bs), ss.length < 1000000000 → ∀ {H : Heap}, Rd H 1 lv ss.length (ss.map V.str) → ∀ (τ : Tape) (q : KV), c f_slices_Contains_string [lv, .str x] H τ q = q (.bool (ss.contains x)) H τ
theorem split_ok {hs : List Hd} (hg : (getT expN hs).length ≤ 900000) : (splitT expN hs).length < 1000000 ∧ ∀ p ∈ splitT expN hs, p.length ≤ 900000 := by
 unfold splitT
 split
 ·have h1 := piecesB_len (getT expN hs)
  exact ⟨by omega, fun p hp => Nat.le_trans (piece_len hp) hg⟩
 ·exact ⟨by simp, fun p hp => by simp at hp⟩
def expAll (hs : List Hd) (cred : Bool) : Bool := !cred && (splitT expN hs).contains [42]
theorem s_cors_Exposed_all (c : CallK) {N : Nat} (hSp : IsP c f_headers_Split (RH GetPre SplitG)) (hC : ConSOk c) (hs : List Hd) (hS : Small hs) (hg : (getT expN hs).length ≤ 900000) (cred : Bool) (ha : expAll hs cred = true) (lv : V) (H : Heap) (hw : WF H) (hr : RdH H lv hs) (τ : Tape) :
  ∃ H' τ', Gr H.size H H' ∧ ∀ q, s_cors_Exposed c N lv (.bool cred) H τ q = q (.tup [.nils, .bool true]) H' τ' := by
 obtain ⟨pv, H1, τ1, o1, g1, k1⟩ := k_Split hSp hS (name := expN) (by decide) hw hr τ
 obtain ⟨l1, l2⟩ := split_ok hg
 simp only [expAll, Bool.and_eq_true, Bool.not_eq_true'] at ha
 obtain ⟨rfl, hc⟩ := ha
 have kc := fun τ q => hC [42] (by omega) o1.rd τ q
 refine ⟨H1, τ1, g1, fun q => ?_⟩
 have k1' : ∀ q, c f_headers_Split [lv, .str (bs [97, 99, 99, 101, 115, 115, 45, 99, 111, 110, 116, 114, 111, 108, 45, 101, 120, 112, 111, 115, 101, 45, 104, 101, 97, 100, 101, 114, 115])] H τ q = _ := k1
 simp only [s_cors_Exposed, k1', getK_set, ↓reduceIte, Nat.reduceEqDiff, someK_n, effK_n, retK, gK_do, gK_do', gK_skip, gK_skip', gK_none, pick_mk, cond_true, cond_false, condK_tn, condK_fn, bin_eql, bin_neq, bin_lss, bin_leq, bin_gtr, bin_geq, un_not, Bool.not_true, Bool.not_false, bin_str, lenS_mk, nle_l, nle_r, nle_n, nlt_l, nlt_r, nlt_n, neq_r, neq_n, nne_r, nne_n, ext0, ext1, ext30, ext31, ext32, bin_add, bin_sub, decide_true, decide_false, show bs [42] = [42] from rfl, kc, hc]
theorem s_cors_Exposed_some (c : CallK) {N : Nat} (hN : 9223372036854775807 < N) (hSp : IsP c f_headers_Split (RH GetPre SplitG)) (hC : ConSOk c) (hL : NLowOk c) (hT : TokOk c) (hNm : NamP c) (hs : List Hd) (hS : Small hs) (hg : (getT expN hs).length ≤ 900000) (cred : Bool) (ha : expAll hs cred = false) (lv : V) (H : Heap) (hw : WF H) (hr : RdH H lv hs) (τ : Tape) :
  ∃ v' H' τ', LsS H' H.size v' (srtT (expL (splitT expN hs))) ∧ Gr H.size H H' ∧ ∀ q, s_cors_Exposed c N lv (.bool cred) H τ q = q (.tup [v', .bool false]) H' τ' := by
 obtain ⟨pv, H1, τ1, o1, g1, k1⟩ := k_Split hSp hS (name := expN) (by decide) hw hr τ
 obtain ⟨l1, l2⟩ := split_ok hg
 generalize hps : splitT expN hs = ps at o1 l1 l2
 have kc := fun τ q => hC [42] (by omega) o1.rd τ q
 obtain ⟨H2, a2, m2, g2, z2⟩ := mk_new g1.wf τ1
 have z1 := g1.size
 have g12 : Gr H.size H H2 := g1.trans g2 z1
 obtain ⟨H3, τ3, m3, g3, k3⟩ := l_cors_Exposed c N hL hT ps l1 l2 pv H1.size ps [] H1.size H2 τ1 N rfl (by omega) g2.wf (Nat.le_refl _) (fun H' hg' => o1.rd.gr (g2.trans hg' (Nat.le_refl _)) g1.wf (Nat.le_refl _)) m2
 obtain ⟨u1, u2, u3⟩ := addAll_ok (expL ps)
 obtain ⟨ms, cl, w1, w2, w3⟩ := m3
 have hel := expL_len ps
 obtain ⟨v', H4, τ4, d1, d2, d3⟩ := names_K g3.wf w1 (L := expL ps) (by rw [w2]; exact u1) (fun x => by rw [w2, u2]) (by rw [w2]; omega) (fun x hx => by have := expL_mem l2 hx; omega) τ3
 have z12 := g12.size
 have g13 : Gr H.size H H3 := g12.trans (g3.weaken z1) (Nat.le_refl _)
 refine ⟨v', H4, τ4, d2.weaken (by have := g13.size; omega), g13.trans d3 g13.size, fun q => ?_⟩
 have k1' : ∀ q, c f_headers_Split [lv, .str (bs [97, 99, 99, 101, 115, 115, 45, 99, 111, 110, 116, 114, 111, 108, 45, 101, 120, 112, 111, 115, 101, 45, 104, 101, 97, 100, 101, 114, 115])] H τ q = _ := k1
 have pl := o1.rd.pLen
 unfold expAll at ha
 rw [hps] at ha
 cases cred with
 | true =>
  simp only [s_cors_Exposed, k1', getK_set, ↓reduceIte, Nat.reduceEqDiff, someK_n, effK_n, retK, gK_do, gK_do', gK_skip, gK_skip', gK_none, pick_mk, cond_true, cond_false, condK_tn, condK_fn, bin_eql, bin_neq, bin_lss, bin_leq, bin_gtr, bin_geq, un_not, Bool.not_true, Bool.not_false, bin_str, lenS_mk, nle_l, nle_r, nle_n, nlt_l, nlt_r, nlt_n, neq_r, neq_n, nne_r, nne_n, ext0, ext1, ext30, ext31, ext32, bin_add, bin_sub, decide_true, decide_false, a2, pl]
  rw [k3 _ _ (by simp [T.get_set]) (by simp [T.get_set]) (by simp [T.get_set]) (by simp [T.get_set])]
  simp only [blockK, Nat.beq_refl, cond_true, seqK, s_cors_Exposed_j0, getK_set, ↓reduceIte, Nat.reduceEqDiff, someK_n, effK_n, retK, gK_do, gK_do', gK_skip, gK_skip', gK_none, pick_mk, cond_true, cond_false, condK_tn, condK_fn, bin_eql, bin_neq, bin_lss, bin_leq, bin_gtr, bin_geq, un_not, Bool.not_true, Bool.not_false, bin_str, lenS_mk, nle_l, nle_r, nle_n, nlt_l, nlt_r, nlt_n, neq_r, neq_n, nne_r, nne_n, ext0, ext1, ext30, ext31, ext32, bin_add, bin_sub, decide_true, decide_false, hNm, d1]
 | false =>
  have hc : ps.contains [42] = false := by simpa using ha
  simp only [s_cors_Exposed, k1', getK_set, ↓reduceIte, Nat.reduceEqDiff, someK_n, effK_n, retK, gK_do, gK_do', gK_skip, gK_skip', gK_none, pick_mk, cond_true, cond_false, condK_tn, condK_fn, bin_eql, bin_neq, bin_lss, bin_leq, bin_gtr, bin_geq, un_not, Bool.not_true, Bool.not_false, bin_str, lenS_mk, nle_l, nle_r, nle_n, nlt_l, nlt_r, nlt_n, neq_r, neq_n, nne_r, nne_n, ext0, ext1, ext30, ext31, ext32, bin_add, bin_sub, decide_true, decide_false, show bs [42] = [42] from rfl, kc, hc, a2, pl]
  rw [k3 _ _ (by simp [T.get_set]) (by simp [T.get_set]) (by simp [T.get_set]) (by simp [T.get_set])]
  simp only [blockK, Nat.beq_refl, cond_true, seqK, s_cors_Exposed_j0, getK_set, ↓reduceIte, Nat.reduceEqDiff, someK_n, effK_n, retK, gK_do, gK_do', gK_skip, gK_skip', gK_none, pick_mk, cond_true, cond_false, condK_tn, condK_fn, bin_eql, bin_neq, bin_lss, bin_leq, bin_gtr, bin_geq, un_not, Bool.not_true, Bool.not_false, bin_str, lenS_mk, nle_l, nle_r, nle_n, nlt_l, nlt_r, nlt_n, neq_r, neq_n, nne_r, nne_n, ext0, ext1, ext30, ext31, ext32, bin_add, bin_sub, decide_true, decide_false, hNm, d1]
abbrev ExpPre (hs : List Hd) : List V → Prop | [.bool _] => Small hs ∧ (getT expN hs).length ≤ 900000 | _ => False
def ExpO (hs : List Hd) (cred : Bool) : Out := bif expAll hs cred then .val (.tup [.nils, .bool true]) else lstO 1 (srtT (expL (splitT expN hs))).length ((srtT (expL (splitT expN hs))).map V.str) (fun v => .tup [v, .bool false])
abbrev ExpG (_ : Bool) (hs : List Hd) : List V → Out | [.bool cred] => ExpO hs cred | _ => .val (.tup [])
theorem exp_met {hs : List Hd} {cred : Bool} (b : Bool) {H H' : Heap} {v : V} (h : (expAll hs cred = true ∧ v = .tup [.nils, .bool true]) ∨ (expAll hs cred = false ∧ ∃ u, v = .tup [u, .bool false] ∧ LsS H' H.size u (srtT (expL (splitT expN hs))))) : (ExpG b hs [.bool cred]).Met H v H' := by
 show (ExpO hs cred).Met H v H'
 unfold ExpO
 rcases h with ⟨h1, rfl⟩ | ⟨h1, u, rfl, h2⟩
 ·rw [h1]; exact ⟨rfl, trivial, trivial, trivial⟩
 ·rw [h1]; exact LsS.met h2 (mkOk_bool false) ⟨trivial, trivial, trivial⟩
noncomputable abbrev rw_Exp : List Row := [Row.fn f_cors_Exposed fn_cors_Exposed e_cors_Exposed, Row.prim f_headers_Split (outP (RH GetPre SplitG)), Row.fn f_slices_Contains_string fn_slices_Contains_string e_slices_Contains_string, Row.fn f_slices_Index_string fn_slices_Index_string e_slices_Index_string, Row.prim f_infra_Lower (outP LowR), Row.prim f_infra_Token (outP TokR), Row.prim f_cors_names namesP]
theorem p_cors_Exposed : ∀ base w0, PrimOk PG base w0 f_cors_Exposed (outP (RH ExpPre ExpG)) := by
 obtain ⟨N, hN⟩ := someN
 refine primRH (N := N) (l := rw_Exp) (.fn ok_cors_Exposed e_cors_Exposed_ok (.prim p_headers_Split (.fn ok_slices_Contains_string e_slices_Contains_string_ok (.fn ok_slices_Index_string e_slices_Index_string_ok (.prim p_infra_Lower (.prim p_infra_Token (.prim namesP_ok (.nil _)))))))) 4 _ (fun hs args hp lv H hw hr τ => ?_)
 have con : ConSOk (CR rw_Exp N 3) := fun x hl _ hr τ q => s_slices_Contains_string_ret (CR rw_Exp N 2) N _ _ x _ τ (s_slices_Index_string_ret (CR rw_Exp N 1) hN _ _ x hl _ hr τ) q
 unfold ExpPre at hp; split at hp
 ·rename_i cred
  cases ha : expAll hs cred with
  | true =>
   obtain ⟨H', τ', h2, h3⟩ := s_cors_Exposed_all (CR rw_Exp N 3) (N := N) (fun _ _ _ _ => rfl) con hs hp.1 hp.2 cred ha lv H hw hr τ
   exact ⟨_, H', τ', h2, exp_met _ (.inl ⟨ha, rfl⟩), h3⟩
  | false =>
   obtain ⟨v', H', τ', h1, h2, h3⟩ := s_cors_Exposed_some (CR rw_Exp N 3) hN (fun _ _ _ _ => rfl) con (k_infra_Lower fun _ _ _ _ => rfl) (k_infra_Token fun _ _ _ _ => rfl) (fun _ _ _ _ => rfl) hs hp.1 hp.2 cred ha lv H hw hr τ
   exact ⟨_, H', τ', h2, exp_met _ (.inr ⟨ha, v', rfl, h1⟩), h3⟩
 ·exact hp.elim
theorem k_Exposed_some {c : CallK} {f : Nat} (h : IsP c f (RH ExpPre ExpG)) {hs : List Hd} (hS : Small hs) (hg : (getT expN hs).length ≤ 900000) {cred : Bool} (ha : expAll hs cred = false) {lv : V} {H : Heap} (hw : WF H) (hr : RdH H lv hs) (τ : Tape) :
  ∃ v' H' τ', Own H' H.size 1 v' (srtT (expL (splitT expN hs))).length ((srtT (expL (splitT expN hs))).map V.str) ∧ Gr H.size H H' ∧ ∀ q, c f [lv, .bool cred] H τ q = q (.tup [v', .bool false]) H' τ' :=
 RH_lstO (l := [.bool cred]) h hr ⟨hS, hg⟩ (by show ExpO hs cred = _; unfold ExpO; rw [ha]; rfl) hw (by simp) τ
end Go.Am.X

namespace Go.Am.X
def xq : Bs := [120, 45, 113]
def Xq : Bs := [88, 45, 113]
theorem lower_letters {w : Bs} (h : Letters w) : lower w = w := by
 unfold lower
 conv => rhs; rw [← List.map_id w]
 refine List.map_congr_left fun x hx => ?_
 have := h x hx
 unfold lowB
 rw [if_neg (by omega)]
 rfl
theorem lower_X {w : Bs} (h : Letters w) : lower (Xq ++ w) = xq ++ w := by
 have e : lower (Xq ++ w) = lower Xq ++ lower w := by simp [lower]
 rw [e, lower_letters h]
 rfl
def Plain (w : Bs) : Prop := ∀ x ∈ w, x ≠ 34 ∧ x ≠ 44 ∧ tight x = false
theorem plain_letters {w : Bs} (h : Letters w) : Plain w := fun x hx => by
 have h1 := h x hx
 exact ⟨fun e => by subst e; revert h1; decide, fun e => by subst e; revert h1; decide, tight_letter h1⟩
theorem plain_app {a b : Bs} (ha : Plain a) (hb : Plain b) : Plain (a ++ b) := fun x hx => by
 rcases List.mem_append.1 hx with h | h
 ·exact ha x h
 ·exact hb x h
theorem plain_Xq : Plain Xq := by unfold Plain Xq; decide
theorem plain_xq : Plain xq := by unfold Plain xq; decide
theorem firm_plain {w : Bs} (h : Plain w) (hn : w ≠ []) : Firm w := by
 obtain ⟨x, t, rfl⟩ := List.exists_cons_of_ne_nil hn
 have hl := List.dropLast_concat_getLast (show x :: t ≠ [] by simp)
 exact ⟨x, t, (x :: t).getLast (by simp), (x :: t).dropLast, rfl, hl.symm, (h x (by simp)).2.2, (h _ (List.getLast_mem _)).2.2⟩
theorem split_plain : ∀ (w cur r : Bs), Plain w → splitF false cur (w ++ r) = splitF false (cur ++ w) r := by
 intro w
 induction w with
 | nil => intro cur r _; simp
 | cons x w ih =>
  intro cur r h
  have hx := h x (by simp)
  rw [List.cons_append, splitF_out _ _ hx.1 hx.2.1, ih _ _ (fun y hy => h y (by simp [hy]))]
  simp
def preS (l : List Bs) : Bs := l.flatMap fun n => n ++ [44, 32]
theorem preS_snoc (l : List Bs) (n : Bs) : preS (l ++ [n]) = (preS l ++ n) ++ [44, 32] := by simp [preS, List.flatMap_append]
theorem preS_len {l : List Bs} {M : Nat} (h : ∀ n ∈ l, n.length ≤ M) : (preS l).length ≤ l.length * (M + 2) := by
 induction l with
 | nil => simp [preS]
 | cons n l ih =>
  have h1 := h n (by simp)
  have h2 := ih fun x hx => h x (by simp [hx])
  show ((n ++ [44, 32]) ++ preS l).length ≤ _
  simp only [List.length_append, List.length_cons, List.length_nil, Nat.succ_mul]
  omega
theorem pieces_pre : ∀ (l : List Bs) (a last : Bs), Blanks a → (∀ n ∈ l, Plain n ∧ n ≠ []) → Plain last → last ≠ [] →
  ((splitF false a (preS l ++ last)).1 ++ [(splitF false a (preS l ++ last)).2]).map (trimB tight) = l ++ [last] := by
 intro l
 induction l with
 | nil =>
  intro a last ha _ hp hn
  have h1 := split_plain last a [] hp
  rw [List.append_nil] at h1
  have t0 : trimB tight (a ++ last) = last := by
   have := trim_firm a last [] ha (fun x h => by simp at h) (firm_plain hp hn)
   rwa [List.append_nil] at this
  show ((splitF false a ([] ++ last)).1 ++ [(splitF false a ([] ++ last)).2]).map (trimB tight) = [last]
  rw [List.nil_append, h1]
  show ([] ++ [a ++ last]).map (trimB tight) = [last]
  simp [t0]
 | cons n l ih =>
  intro a last ha hl hp hn
  obtain ⟨h1, h2⟩ := hl n (by simp)
  have e : preS (n :: l) ++ last = n ++ (44 :: (32 :: (preS l ++ last))) := by simp [preS]
  have t0 : trimB tight (a ++ n) = n := by
   have := trim_firm a n [] ha (fun x h => by simp at h) (firm_plain h1 h2)
   rwa [List.append_nil] at this
  have := ih [32] last (fun x h => by simp only [List.mem_singleton] at h; subst h; decide) (fun y hy => hl y (by simp [hy])) hp hn
  rw [e, split_plain _ _ _ h1, splitF_comma _ _ (by decide) rfl, splitF_out _ _ (by decide) (by decide)]
  simp only [List.nil_append, List.cons_append, List.map_cons, t0] at this ⊢
  rw [this]
theorem piecesB_pre {l : List Bs} {last : Bs} (hl : ∀ n ∈ l, Plain n ∧ n ≠ []) (hp : Plain last) (hn : last ≠ []) : piecesB (preS l ++ last) = l ++ [last] :=
 pieces_pre l [] last (fun x h => by simp at h) hl hp hn
def hdW (ws : List Bs) : List Hd := ws.flatMap fun w => [(Xq ++ w, [118]), ([65, 99, 99, 101, 112, 116], [122])]
theorem hdW_snoc (ws : List Bs) (w : Bs) : hdW (ws ++ [w]) = hdW ws ++ [(Xq ++ w, [118]), ([65, 99, 99, 101, 112, 116], [122])] := by simp [hdW, List.flatMap_append]
theorem hdW_len (ws : List Bs) : (hdW ws).length = ws.length * 2 := by
 induction ws with
 | nil => rfl
 | cons w l ih => show ([_, _] ++ hdW l).length = _; rw [List.length_append, ih]; simp; omega
theorem safe_X {w : Bs} (h : Letters w) : safeH (Xq ++ w, [118]) = false := by
 show safeB (Xq ++ w) [118] = false
 unfold safeB
 rw [lower_X h]
 rfl
theorem safe_A : safeH ([65, 99, 99, 101, 112, 116], [122]) = true := by decide
theorem uns_W {ws : List Bs} (h : ∀ w ∈ ws, Letters w) (hn : ws.length ≤ 8) : unsL (hdW ws) = ws.map fun w => xq ++ w := by
 have h1 : outN (hdW ws) = ws.map fun w => xq ++ w := by
  clear hn
  induction ws with
  | nil => rfl
  | cons w l ih =>
   have e := ih fun x hx => h x (by simp [hx])
   have e0 := safe_X (h w (by simp))
   unfold outN at e ⊢
   show (List.filter _ ([(Xq ++ w, [118]), ([65, 99, 99, 101, 112, 116], [122])] ++ hdW l)).map _ = _
   rw [List.filter_append, List.map_append, e]
   have e1 : List.filter (fun h => !safeH h) [(Xq ++ w, [118]), ([65, 99, 99, 101, 112, 116], [122])] = [(Xq ++ w, [118])] := by
    rw [List.filter_cons, List.filter_cons, e0, safe_A]; rfl
   rw [e1]
   show [lower (Xq ++ w)] ++ _ = _
   rw [lower_X (h w (by simp))]
   rfl
 have h2 : szN (hdW ws) ≤ ws.length := by
  clear hn h1
  induction ws with
  | nil => exact Nat.le_refl _
  | cons w l ih =>
   have e := ih fun x hx => h x (by simp [hx])
   have e0 := safe_X (h w (by simp))
   unfold szN at e ⊢
   show ((List.filter safeH ([(Xq ++ w, [118]), ([65, 99, 99, 101, 112, 116], [122])] ++ hdW l)).map _).sum ≤ _
   rw [List.filter_append, List.map_append, List.sum_append]
   have e1 : List.filter safeH [(Xq ++ w, [118]), ([65, 99, 99, 101, 112, 116], [122])] = [([65, 99, 99, 101, 112, 116], [122])] := by
    rw [List.filter_cons, List.filter_cons, e0, safe_A]; rfl
   rw [e1]
   show 1 + _ ≤ _
   rw [List.length_cons]
   omega
 unfold unsL
 rw [if_neg (by omega), h1]
theorem tok_letters {w : Bs} (h : Letters w) : w.all tok = true := by
 rw [List.all_eq_true]
 intro x hx
 have := h x hx
 unfold tok
 simp only [Bool.or_eq_true, Bool.and_eq_true, decide_eq_true_eq]
 try omega
theorem tok_X {w : Bs} (h : Letters w) : tokT (Xq ++ w) = true := by
 unfold tokT
 rw [List.all_append, tok_letters h, show Xq.all tok = true by decide]
 rfl
theorem exp_W {ws : List Bs} (h : ∀ w ∈ ws, Letters w) : splitT expN [(expN, preS (ws.map fun w => Xq ++ w) ++ xq)] = (ws.map fun w => Xq ++ w) ++ [xq] := by
 have e1 : sel expN [(expN, preS (ws.map fun w => Xq ++ w) ++ xq)] = [preS (ws.map fun w => Xq ++ w) ++ xq] := by
  unfold sel
  rw [List.filter_cons]
  simp
 have e2 : getT expN [(expN, preS (ws.map fun w => Xq ++ w) ++ xq)] = preS (ws.map fun w => Xq ++ w) ++ xq := by
  unfold getT; rw [e1]; simp [joinB, joinT]
 unfold splitT
 rw [e1, e2, if_pos (by simp)]
 refine piecesB_pre (fun n hn => ?_) plain_xq (by decide)
 obtain ⟨w, hw, rfl⟩ := List.mem_map.1 hn
 exact ⟨plain_app plain_Xq (plain_letters (h w hw)), by simp [Xq]⟩
theorem expL_W {ws : List Bs} (h : ∀ w ∈ ws, Letters w) : expL ((ws.map fun w => Xq ++ w) ++ [xq]) = (ws.map fun w => xq ++ w) ++ [xq] := by
 rw [expL_snoc, if_pos (by decide)]
 have e : lower xq = xq := by decide
 rw [e]
 congr 1
 induction ws with
 | nil => rfl
 | cons w l ih =>
  have h1 := ih fun x hx => h x (by simp [hx])
  unfold expL at h1 ⊢
  rw [List.map_cons, List.filter_cons, if_pos (tok_X (h w (by simp))), List.map_cons, h1, lower_X (h w (by simp))]
  rfl
theorem star_W {ws : List Bs} : ((ws.map fun w => Xq ++ w) ++ [xq]).contains [42] = false := by
 rw [← Bool.not_eq_true, List.contains_iff_mem]
 intro h
 rcases List.mem_append.1 h with h | h
 ·obtain ⟨w, _, e⟩ := List.mem_map.1 h
  simp [Xq] at e
 ·simp [xq] at h
theorem insB_cases (x : Bs) : ∀ l : List Bs, (insB x l).length = l.length ∨ (insB x l).length = l.length + 1 := by
 intro l
 induction l with
 | nil => exact .inr rfl
 | cons y l ih =>
  rw [insB]
  cases lessB y x with
  | true => rw [cond_true, List.length_cons, List.length_cons]; omega
  | false =>
   rw [cond_false]
   cases (y == x) with
   | true => exact .inl rfl
   | false => exact .inr rfl
theorem less_xq (w : Bs) : lessB (xq ++ w) xq = false := by
 cases w with
 | nil => decide
 | cons x w => rfl
theorem head_xq {l : List Bs} (h : ∀ y ∈ l, ∃ w, y = xq ++ w) : ∃ r, insB xq l = xq :: r := by
 cases l with
 | nil => exact ⟨[], rfl⟩
 | cons y l =>
  obtain ⟨w, rfl⟩ := h y (by simp)
  rw [insB, less_xq, cond_false]
  cases hb : ((xq ++ w) == xq) with
  | true =>
   have : xq ++ w = xq := by simpa using hb
   exact ⟨l, by rw [this]; rfl⟩
  | false => exact ⟨_, rfl⟩
theorem srt_leq {l : List Bs} (h : SrtB l) {i : Nat} {a b : Bs} (ha : l[i]? = some a) (hb : l[i + 1]? = some b) : strBin .leq b a = some (.bool false) := by
 obtain ⟨h1, e1⟩ := List.getElem?_eq_some_iff.1 ha
 obtain ⟨h2, e2⟩ := List.getElem?_eq_some_iff.1 hb
 have hlt : ltB a b := by
  have := List.pairwise_iff_getElem.1 h i (i + 1) h1 h2 (by omega)
  rwa [e1, e2] at this
 have n1 : lessB b a = false := by
  cases hc : lessB b a with
  | false => rfl
  | true => exact (ltB_no (ltB_trans _ _ _ hlt hc)).elim
 have n2 : eqB b a = false := by
  rw [eqB_eq]
  refine beq_eq_false_iff_ne.2 fun e => ?_
  subst e
  exact (ltB_no hlt).elim
 show some (V.bool (lessB b a || eqB b a)) = _
 rw [n1, n2]
 rfl
end Go.Am.X

