/- The abstract machine, printed functions of the program, and what they are shown to be. -/
import Derived.Test.YtlpedafppdffoaaGreatDoorCNAL4
import Derived.Test.YtlpedafppdffoaaGreatDoorCNAL2
set_option linter.unusedSimpArgs false
set_option linter.unusedVariables false
set_option linter.unusedSectionVars false
set_option maxRecDepth 100000
namespace Go.Am.X
theorem l_law18_name (c : CallK) (N : Nat) {lv hvv p : V} {S : Bs} {i : Nat} (y : Bs) (hy : y.length ≤ 9223372036854775807) (H : Heap) (hp1 : pSlIdx 1 [lv, .int .i64 (i : Int)] = some p) (hp2 : lLoad1 [p] H = some (.str y)) :
  ∀ (l pre w : Bs) (τ : Tape) (M : Nat), y = pre ++ l → l.length < M → Letters w → w.length ≤ 9 →
  ∃ w', Letters w' ∧ w'.length ≤ 9 ∧ ∀ (fr : T V) k, fr.get 0 = some lv → fr.get 3 = some hvv → fr.get 4 = some (.str S) → fr.get 5 = some (.int .i64 (i : Int)) → fr.get 6 = some (.str (Xq ++ w)) → fr.get 7 = some (.int .i64 (pre.length : Int)) →
   loopK (s_law18_CorsNames_l6 c N) M ⟨fr, H⟩ τ k = k (.exit 2) ⟨(T.set (T.set (T.set (T.set (T.set .leaf 0 lv) 3 hvv) 4 (.str S)) 5 (.int .i64 (i : Int))) 6 (.str (Xq ++ w'))), H⟩ τ := by
 intro l
 induction l with
 | nil =>
  intro pre w τ M he hM hw hwl
  obtain ⟨M, rfl⟩ : ∃ j, M = j + 1 := ⟨M - 1, by omega⟩
  have e1 : decide ((pre.length : Int) < (y.length : Int)) = false := decide_eq_false (by rw [he]; simp)
  refine ⟨w, hw, hwl, fun fr k f0 f3 f4 f5 f6 f7 => ?_⟩
  rw [loopK_succ]
  simp only [s_law18_CorsNames_l6, getK_mk f0, getK_mk f3, getK_mk f4, getK_mk f5, getK_mk f6, getK_mk f7, hp1, hp2, lenS_mk, someK_n, bin_lss, e1, gK_skip, gK_none, pick_mk, cond_false, condK_fn]
  rfl
 | cons x l ih =>
  intro pre w τ M he hM hw hwl
  obtain ⟨M, rfl⟩ : ∃ j, M = j + 1 := ⟨M - 1, by omega⟩
  have hl : pre.length < y.length := by rw [he]; simp
  have e1 : decide ((pre.length : Int) < (y.length : Int)) = true := decide_eq_true (by omega)
  have e2 : pStrIndex [.str y, .int .i64 (pre.length : Int)] = some (.int .u8 (x.toNat : Int)) := strIndex_mk (by rw [he]; simp)
  have e3 : wr .i64 ((pre.length : Int) + Int.ofNat 1) = ((pre ++ [x]).length : Int) := by
   rw [wr_id (by simp; omega) (by simp; omega)]; simp
  have hcut : pStrSlice true true [.str y, .int .i64 (pre.length : Int), .int .i64 ((pre ++ [x]).length : Int)] = some (.str [x]) := by
   rw [strSlice_lohi (by simp) (by rw [he]; simp)]
   congr 2
   rw [he, List.length_append, show pre ++ x :: l = (pre ++ [x]) ++ l by simp, List.take_left' (by simp)]
   simp
  have hXl : (Xq ++ w).length = w.length + 3 := by simp [Xq]
  by_cases h12 : w.length < 9
  ·have e4 : decide (((Xq ++ w).length : Int) < Int.ofNat 12) = true := decide_eq_true (by rw [hXl]; simp; omega)
   by_cases h97 : 97 ≤ x.toNat
   ·have e5 : decide (Int.ofNat 97 ≤ (x.toNat : Int)) = true := decide_eq_true (by simp; omega)
    by_cases h122 : x.toNat ≤ 122
    ·have e6 : decide ((x.toNat : Int) ≤ Int.ofNat 122) = true := decide_eq_true (by simp; omega)
     have ea : strBin .add (Xq ++ w) [x] = some (.str (Xq ++ (w ++ [x]))) := by rw [str_add (by rw [hXl]; simp; omega), List.append_assoc]
     obtain ⟨w', i1, i2, i3⟩ := ih (pre ++ [x]) (w ++ [x]) τ M (by rw [he]; simp) (by simp at hM; omega) (fun z hz => by
      rcases List.mem_append.1 hz with h | h
      ·exact hw z h
      ·simp at h; subst h; exact ⟨h97, h122⟩) (by simp; omega)
     refine ⟨w', i1, i2, fun fr k f0 f3 f4 f5 f6 f7 => ?_⟩
     rw [loopK_succ]
     simp only [s_law18_CorsNames_l6, getK_mk f0, getK_mk f3, getK_mk f4, getK_mk f5, getK_mk f6, getK_mk f7, hp1, hp2, lenS_mk, someK_n, bin_lss, e1, gK_do, retK, effK_n, e4, pick_mk, cond_true, condK_tn, e2, bin_geq, e5, bin_leq, e6, bin_add, e3, hcut, bin_str, ea, s_law18_CorsNames_j7, getK_set, ↓reduceIte, Nat.reduceEqDiff]
     exact i3 _ k (by simp [T.get_set]) (by simp [T.get_set]) (by simp [T.get_set]) (by simp [T.get_set]) (by simp [T.get_set]) (by simp [T.get_set])
    ·have e6 : decide ((x.toNat : Int) ≤ Int.ofNat 122) = false := decide_eq_false (by simp; omega)
     obtain ⟨w', i1, i2, i3⟩ := ih (pre ++ [x]) w τ M (by rw [he]; simp) (by simp at hM; omega) hw hwl
     refine ⟨w', i1, i2, fun fr k f0 f3 f4 f5 f6 f7 => ?_⟩
     rw [loopK_succ]
     simp only [s_law18_CorsNames_l6, getK_mk f0, getK_mk f3, getK_mk f4, getK_mk f5, getK_mk f6, getK_mk f7, hp1, hp2, lenS_mk, someK_n, bin_lss, e1, gK_do, retK, effK_n, e4, pick_mk, cond_true, condK_tn, e2, bin_geq, e5, bin_leq, e6, cond_false, condK_fn, bin_add, e3, s_law18_CorsNames_j7, getK_set, ↓reduceIte, Nat.reduceEqDiff]
     exact i3 _ k (by simp [T.get_set]) (by simp [T.get_set]) (by simp [T.get_set]) (by simp [T.get_set]) (by simp [T.get_set]) (by simp [T.get_set])
   ·have e5 : decide (Int.ofNat 97 ≤ (x.toNat : Int)) = false := decide_eq_false (by simp; omega)
    obtain ⟨w', i1, i2, i3⟩ := ih (pre ++ [x]) w τ M (by rw [he]; simp) (by simp at hM; omega) hw hwl
    refine ⟨w', i1, i2, fun fr k f0 f3 f4 f5 f6 f7 => ?_⟩
    rw [loopK_succ]
    simp only [s_law18_CorsNames_l6, getK_mk f0, getK_mk f3, getK_mk f4, getK_mk f5, getK_mk f6, getK_mk f7, hp1, hp2, lenS_mk, someK_n, bin_lss, e1, gK_do, retK, effK_n, e4, pick_mk, cond_true, condK_tn, e2, bin_geq, e5, gK_skip, gK_none, cond_false, condK_fn, bin_add, e3, s_law18_CorsNames_j7, getK_set, ↓reduceIte, Nat.reduceEqDiff]
    exact i3 _ k (by simp [T.get_set]) (by simp [T.get_set]) (by simp [T.get_set]) (by simp [T.get_set]) (by simp [T.get_set]) (by simp [T.get_set])
  ·have e4 : decide (((Xq ++ w).length : Int) < Int.ofNat 12) = false := decide_eq_false (by rw [hXl]; simp; omega)
   refine ⟨w, hw, hwl, fun fr k f0 f3 f4 f5 f6 f7 => ?_⟩
   rw [loopK_succ]
   simp only [s_law18_CorsNames_l6, getK_mk f0, getK_mk f3, getK_mk f4, getK_mk f5, getK_mk f6, getK_mk f7, hp1, hp2, lenS_mk, someK_n, bin_lss, e1, gK_do, retK, effK_n, e4, pick_mk, cond_true, cond_false, condK_fn]
   rfl
theorem put22 {H : Heap} {B : Nat} {v : V} {hs : List Hd} (h : LsH H B v hs) (hw : WF H) (hB : B ≤ H.size) (x y : Hd) (hn : hs.length ≤ 100000) (τ : Tape) :
  ∃ w H1 v' H' τ', eBuildSlice 2 2 [(.str []), (.str []), (.str []), (.str [])] [(0, 2), (2, 2)] [hv x, hv y] H τ = some (w, H1, τ) ∧ eAppend 2 32 [v, w] H1 τ = some (v', H', τ') ∧ LsH H' B v' (hs ++ [x, y]) ∧ Gr B H H' := by
 have a1 : eBuildSlice 2 2 [(.str []), (.str []), (.str []), (.str [])] [(0, 2), (2, 2)] [hv x, hv y] H τ = some (.sl H.size 0 2 2 none 2, H.new (hcells [x, y]) (2 * 2) false, τ) := rfl
 have g1 := Gr.new hw (hcells [x, y]) (2 * 2) false
 have c1 := cells_new H (hcells [x, y]) (2 * 2) false
 have rd : Rd (H.new (hcells [x, y]) (2 * 2) false) 2 (.sl H.size 0 2 2 none 2) 2 (hcells [x, y]) := .inr ⟨H.size, 0, 2, none, _, rfl, c1, rfl, rfl⟩
 obtain ⟨v', H', τ', r1, r2, r3, _⟩ := ((h.1.apd).gr g1 hw (Nat.le_refl _)).append (bytes := 32) g1.wf (Nat.le_trans hB g1.size) rd ⟨_, c1⟩ rfl (by omega) (by omega) τ
 refine ⟨_, _, v', H', τ', a1, r1, ⟨?_, fun e => by simp at e⟩, (g1.weaken hB).trans r3 (Nat.le_refl _)⟩
 have := r2.own (by omega)
 rw [hcells_append]
 simpa using this
theorem l_law18_CorsNames (c : CallK) {N : Nat} (hN : 9223372036854775808 < N) (ls : List Bs) (hsz : ∀ s ∈ ls, s.length ≤ 9223372036854775807) (lv : V) (B : Nat) : ∀ (r : Nat) (ws : List Bs) (hvv : V) (H : Heap) (τ : Tape) (M : Nat), ws.length + r = 8 → r < M → WF H → B ≤ H.size → (∀ H', Gr B H H' → Rd H' 1 lv ls.length (ls.map V.str)) →
  LsH H B hvv (hdW ws) → (∀ w ∈ ws, Letters w ∧ w.length ≤ 9) → ws.length ≤ ls.length →
  ∃ ws' hv' H' τ', LsH H' B hv' (hdW ws') ∧ (∀ w ∈ ws', Letters w ∧ w.length ≤ 9) ∧ ws'.length ≤ 8 ∧ Gr B H H' ∧ ∀ (fr : T V) k, fr.get 0 = some lv → fr.get 3 = some hvv → fr.get 4 = some (.str (preS (ws.map fun w => Xq ++ w))) → fr.get 5 = some (.int .i64 (ws.length : Int)) →
   loopK (s_law18_CorsNames_l3 c N) M ⟨fr, H⟩ τ k = k (.exit 0) ⟨(T.set (T.set .leaf 3 hv') 4 (.str (preS (ws'.map fun w => Xq ++ w)))), H'⟩ τ' := by
 intro r
 induction r with
 | zero =>
  intro ws hvv H τ M hr hM hw hB hrd hl hall hle
  obtain ⟨M, rfl⟩ : ∃ j, M = j + 1 := ⟨M - 1, by omega⟩
  have pl := (hrd H (Gr.refl hw)).pLen
  have e2 : decide ((ws.length : Int) < Int.ofNat 8) = false := decide_eq_false (by have : Int.ofNat 8 = 8 := rfl; omega)
  refine ⟨ws, hvv, H, τ, hl, hall, by omega, Gr.refl hw, fun fr k f0 f3 f4 f5 => ?_⟩
  rw [loopK_succ]
  cases hb : decide ((ws.length : Int) < (ls.length : Int)) with
  | true =>
   simp only [s_law18_CorsNames_l3, getK_mk f0, getK_mk f3, getK_mk f4, getK_mk f5, pl, someK_n, bin_lss, hb, gK_do, retK, effK_n, e2, pick_mk, cond_true, condK_fn]
   rfl
  | false =>
   simp only [s_law18_CorsNames_l3, getK_mk f0, getK_mk f3, getK_mk f4, getK_mk f5, pl, someK_n, bin_lss, hb, gK_skip, gK_none, pick_mk, cond_false, condK_fn]
   rfl
 | succ r ih =>
  intro ws hvv H τ M hr hM hw hB hrd hl hall hle
  obtain ⟨M, rfl⟩ : ∃ j, M = j + 1 := ⟨M - 1, by omega⟩
  have hrH := hrd H (Gr.refl hw)
  have pl := hrH.pLen
  have e2 : decide ((ws.length : Int) < Int.ofNat 8) = true := decide_eq_true (by have : Int.ofNat 8 = 8 := rfl; omega)
  cases hb : decide ((ws.length : Int) < (ls.length : Int)) with
  | false =>
   refine ⟨ws, hvv, H, τ, hl, hall, by omega, Gr.refl hw, fun fr k f0 f3 f4 f5 => ?_⟩
   rw [loopK_succ]
   simp only [s_law18_CorsNames_l3, getK_mk f0, getK_mk f3, getK_mk f4, getK_mk f5, pl, someK_n, bin_lss, hb, gK_skip, gK_none, pick_mk, cond_false, condK_fn]
   rfl
  | true =>
   have hlt : ws.length < ls.length := by have := of_decide_eq_true hb; omega
   have hy : ls[ws.length]? = some ls[ws.length] := List.getElem?_eq_getElem hlt
   have hys := hsz ls[ws.length] (List.getElem_mem hlt)
   obtain ⟨p, p1, p2⟩ := hrH.elem1 (i := ws.length) (x := .str ls[ws.length]) (by rw [List.getElem?_map, hy]; rfl)
   obtain ⟨w, k1, k2, k3⟩ := l_law18_name c N (lv := lv) (hvv := hvv) (S := preS (ws.map fun w => Xq ++ w)) (i := ws.length) ls[ws.length] hys H p1 p2 ls[ws.length] [] [] τ N rfl (by omega) (fun x hx => by simp at hx) (by simp)
   have hwl : (hdW ws).length ≤ 100000 := by rw [hdW_len]; omega
   obtain ⟨wv, H1, hv1, H2, τ2, r1, r2, r3, r4⟩ := put22 hl hw hB (Xq ++ w, [118]) ([65, 99, 99, 101, 112, 116], [122]) hwl τ
   rw [← hdW_snoc] at r3
   have hps : (preS (ws.map fun w => Xq ++ w)).length ≤ 8 * 14 := by
    have := preS_len (l := ws.map fun w => Xq ++ w) (M := 12) (fun n hn => by obtain ⟨z, hz, rfl⟩ := List.mem_map.1 hn; have := (hall z hz).2; simp [Xq]; omega)
    rw [List.length_map] at this
    have h8 : ws.length * 14 ≤ 8 * 14 := Nat.mul_le_mul_right _ (by omega)
    omega
   have a1 : strBin .add (preS (ws.map fun w => Xq ++ w)) (Xq ++ w) = some (.str (preS (ws.map fun w => Xq ++ w) ++ (Xq ++ w))) := str_add (by have h3 : (Xq ++ w).length ≤ 12 := (by simp [Xq]; omega); omega)
   have a2 : strBin .add (preS (ws.map fun w => Xq ++ w) ++ (Xq ++ w)) (bs [44, 32]) = some (.str (preS ((ws ++ [w]).map fun w => Xq ++ w))) := by
    rw [str_add (by have h3 : (Xq ++ w).length ≤ 12 := (by simp [Xq]; omega); have h4 : (bs [44, 32]).length = 2 := rfl; rw [List.length_append]; omega), List.map_append, List.map_cons, List.map_nil, preS_snoc]; rfl
   have e9 : wr .i64 ((ws.length : Int) + Int.ofNat 1) = ((ws ++ [w]).length : Int) := by rw [adI (by omega)]; simp
   obtain ⟨ws', hv', H', τ', i1, i2, i3, i4, i5⟩ := ih (ws ++ [w]) hv1 H2 τ2 M (by simp; omega) (by omega) r4.wf (Nat.le_trans hB r4.size) (fun H' hg => hrd H' (r4.trans hg (Nat.le_refl _))) r3 (fun z hz => by
    rcases List.mem_append.1 hz with h | h
    ·exact hall z h
    ·simp at h; subst h; exact ⟨k1, k2⟩) (by simp; omega)
   refine ⟨ws', hv', H', τ', i1, i2, i3, r4.trans i4 (Nat.le_refl _), fun fr k f0 f3 f4 f5 => ?_⟩
   have pb1 : pBuild [(.str []), (.str [])] [(0, 1), (1, 1)] [.str (Xq ++ w), .str (bs [118])] = some (hv (Xq ++ w, [118])) := rfl
   have pb2 : pBuild [(.str []), (.str [])] [(0, 1), (1, 1)] [.str (bs [65, 99, 99, 101, 112, 116]), .str (bs [122])] = some (hv ([65, 99, 99, 101, 112, 116], [122])) := rfl
   rw [loopK_succ]
   simp only [s_law18_CorsNames_l3, getK_mk f0, getK_mk f3, getK_mk f4, getK_mk f5, pl, someK_n, bin_lss, hb, gK_do, retK, effK_n, e2, pick_mk, cond_true, condK_tn]
   rw [k3 _ _ (by simp [T.get_set]) (by simp [T.get_set]) (by simp [T.get_set]) (by simp [T.get_set]) (by simp [T.get_set, Xq, bs]) (by simp [T.get_set])]
   simp only [blockK, Nat.beq_refl, cond_true, seqK, s_law18_CorsNames_j5, s_law18_CorsNames_j4, getK_set, ↓reduceIte, Nat.reduceEqDiff, someK_n, effK_n, retK, gK_do, gK_do', gK_skip, gK_skip', gK_none, pick_mk, cond_true, cond_false, condK_tn, condK_fn, bin_eql, bin_neq, bin_lss, bin_leq, bin_gtr, bin_geq, un_not, Bool.not_true, Bool.not_false, bin_str, lenS_mk, nle_l, nle_r, nle_n, nlt_l, nlt_r, nlt_n, neq_r, neq_n, nne_r, nne_n, ext0, ext1, ext30, ext31, ext32, bin_add, bin_sub, decide_true, decide_false, pb1, pb2, r1, r2, a1, a2, e9]
   exact i5 _ k (by simp [T.get_set]) (by simp [T.get_set]) (by simp [T.get_set]) (by simp [T.get_set])
theorem l_law18_look (c : CallK) (N : Nat) (us : List Bs) (hs : SrtB us) (hx : ∀ y ∈ us, ∃ w, y = xq ++ w) (hl : us.length ≤ 1000) (uv ev : V) (all : Bool) (H : Heap) (hr : Rd H 1 uv us.length (us.map V.str)) : ∀ (l pre : List Bs) (τ : Tape) (M : Nat), us = pre ++ l → l.length < M →
  ∀ (fr : T V) k, fr.get 8 = some uv → fr.get 9 = some ev → fr.get 10 = some (.bool all) → fr.get 11 = some (.int .i64 (pre.length : Int)) →
   loopK (s_law18_CorsNames_l2 c N) M ⟨fr, H⟩ τ k = k (.exit 4) ⟨(T.set (T.set (T.set .leaf 8 uv) 9 ev) 10 (.bool all)), H⟩ τ := by
 intro l
 have pl := hr.pLen
 induction l with
 | nil =>
  intro pre τ M he hM fr k f8 f9 f10 f11
  obtain ⟨M, rfl⟩ : ∃ j, M = j + 1 := ⟨M - 1, by omega⟩
  have e1 : decide (pre.length < us.length) = false := decide_eq_false (by rw [he]; simp)
  rw [loopK_succ]
  simp only [s_law18_CorsNames_l2, getK_mk f8, getK_mk f9, getK_mk f10, getK_mk f11, pl, getK_set, ↓reduceIte, Nat.reduceEqDiff, someK_n, effK_n, retK, gK_do, gK_do', gK_skip, gK_skip', gK_none, pick_mk, cond_true, cond_false, condK_tn, condK_fn, bin_eql, bin_neq, bin_lss, bin_leq, bin_gtr, bin_geq, un_not, Bool.not_true, Bool.not_false, bin_str, lenS_mk, nle_l, nle_r, nle_n, nlt_l, nlt_r, nlt_n, neq_r, neq_n, nne_r, nne_n, ext0, ext1, ext30, ext31, ext32, bin_add, bin_sub, decide_true, decide_false, e1]
  rfl
 | cons y l ih =>
  intro pre τ M he hM fr k f8 f9 f10 f11
  obtain ⟨M, rfl⟩ : ∃ j, M = j + 1 := ⟨M - 1, by omega⟩
  have hlt : pre.length < us.length := by rw [he]; simp
  have e1 : decide (pre.length < us.length) = true := decide_eq_true hlt
  have e3 : wr .i64 ((pre.length : Int) + Int.ofNat 1) = ((pre ++ [y]).length : Int) := by rw [adI (by omega)]; simp
  have hy : us[pre.length]? = some y := by rw [he]; simp
  obtain ⟨p, p1, p2⟩ := hr.elem1 (i := pre.length) (x := .str y) (by rw [List.getElem?_map, hy]; rfl)
  obtain ⟨w, hw⟩ := hx y (by rw [he]; simp)
  have c0 : pStrIndex [.str y, .int .i64 (.ofNat 0)] = some (.int .u8 (.ofNat 120)) := by rw [hw]; rfl
  have c1 : (Int.ofNat 120 != Int.ofNat 120) = false := rfl
  have next := ih (pre ++ [y]) τ M (by rw [he]; simp) (by simp at hM; omega)
  rw [loopK_succ]
  by_cases h0 : pre.length = 0
  ·have e0 : decide (Int.ofNat 0 < (pre.length : Int)) = false := decide_eq_false (by rw [h0]; decide)
   simp only [s_law18_CorsNames_l2, getK_mk f8, getK_mk f9, getK_mk f10, getK_mk f11, pl, getK_set, ↓reduceIte, Nat.reduceEqDiff, someK_n, effK_n, retK, gK_do, gK_do', gK_skip, gK_skip', gK_none, pick_mk, cond_true, cond_false, condK_tn, condK_fn, bin_eql, bin_neq, bin_lss, bin_leq, bin_gtr, bin_geq, un_not, Bool.not_true, Bool.not_false, bin_str, lenS_mk, nle_l, nle_r, nle_n, nlt_l, nlt_r, nlt_n, neq_r, neq_n, nne_r, nne_n, ext0, ext1, ext30, ext31, ext32, bin_add, bin_sub, decide_true, decide_false, e1, e0, p1, p2, c0, c1, e3]
   exact next _ k (by simp [T.get_set]) (by simp [T.get_set]) (by simp [T.get_set]) (by simp [T.get_set])
  ·have e0 : decide (Int.ofNat 0 < (pre.length : Int)) = true := decide_eq_true (by have : Int.ofNat 0 = 0 := rfl; omega)
   have e5 : wr .i64 ((pre.length : Int) - Int.ofNat 1) = ((pre.length - 1 : Nat) : Int) := by
    rw [wr_id (by simp <;> omega) (by simp <;> omega)]; simp; omega
   have hz : us[pre.length - 1]? = some us[pre.length - 1] := List.getElem?_eq_getElem (by omega)
   obtain ⟨p', p1', p2'⟩ := hr.elem1 (i := pre.length - 1) (x := .str us[pre.length - 1]) (by rw [List.getElem?_map, hz]; rfl)
   have hq := srt_leq hs hz (by rw [show pre.length - 1 + 1 = pre.length by omega]; exact hy)
   simp only [s_law18_CorsNames_l2, getK_mk f8, getK_mk f9, getK_mk f10, getK_mk f11, pl, getK_set, ↓reduceIte, Nat.reduceEqDiff, someK_n, effK_n, retK, gK_do, gK_do', gK_skip, gK_skip', gK_none, pick_mk, cond_true, cond_false, condK_tn, condK_fn, bin_eql, bin_neq, bin_lss, bin_leq, bin_gtr, bin_geq, un_not, Bool.not_true, Bool.not_false, bin_str, lenS_mk, nle_l, nle_r, nle_n, nlt_l, nlt_r, nlt_n, neq_r, neq_n, nne_r, nne_n, ext0, ext1, ext30, ext31, ext32, bin_add, bin_sub, decide_true, decide_false, e1, e0, p1, p2, e5, p1', p2', hq, c0, c1, e3]
   exact next _ k (by simp [T.get_set]) (by simp [T.get_set]) (by simp [T.get_set]) (by simp [T.get_set])
end Go.Am.X

namespace Go.Am.X
theorem xq_mem {ws : List Bs} : ∀ y ∈ srtT (ws.map fun w => xq ++ w), ∃ w, y = xq ++ w := fun y hy => by
 obtain ⟨w, _, e⟩ := List.mem_map.1 (((srtT_ok _).2.1 y).1 hy)
 exact ⟨w, e.symm⟩
theorem s_law18_CorsNames_ret (c : CallK) {N : Nat} (hN : 9223372036854775808 < N) (hU : IsP c f_cors_Unsafe (RH UnsPre UnsG)) (hE : IsP c f_cors_Exposed (RH ExpPre ExpG)) (hKn : ∀ H τ q, c f_law18_known [] H τ q = q (.bool true) H τ)
  (ls : List Bs) (hl0 : ls.length ≤ 9223372036854775807) (hsz : ∀ s ∈ ls, s.length ≤ 9223372036854775807) (lv : V) (H : Heap) (hw : WF H) (hr : Rd H 1 lv ls.length (ls.map V.str)) (τ : Tape) : ∃ H' τ', Gr H.size H H' ∧ ∀ q, s_law18_CorsNames c N lv H τ q = q (.bool true) H' τ' := by
 obtain ⟨ws, hv0, H1, τ1, i1, i2, i3, i4, i5⟩ := l_law18_CorsNames c hN ls hsz lv H.size 8 [] .nils H τ N rfl (by omega) hw (Nat.le_refl _) (fun H' hg => hr.gr hg hw (Nat.le_refl _)) (LsH.nil _ _) (fun w hw => by cases hw) (Nat.zero_le _)
 have hlet : ∀ w ∈ ws, Letters w := fun w h => (i2 w h).1
 have hS : Small (hdW ws) := by
  refine ⟨by rw [hdW_len]; omega, fun h hh => ?_⟩
  unfold hdW at hh
  obtain ⟨w, hw, h1⟩ := List.mem_flatMap.1 hh
  have := (i2 w hw).2
  simp at h1
  rcases h1 with rfl | rfl
  ·simp [Xq]; omega
  ·simp
 obtain ⟨u, H2, τ2, o1, g1, k1⟩ := k_Unsafe hU hS i4.wf i1.rdH τ1
 rw [uns_W hlet i3] at o1
 have hps : (preS (ws.map fun w => Xq ++ w)).length ≤ 8 * 14 := by
  have := preS_len (l := ws.map fun w => Xq ++ w) (M := 12) (fun n hn => by obtain ⟨z, hz, rfl⟩ := List.mem_map.1 hn; have := (i2 z hz).2; simp [Xq]; omega)
  rw [List.length_map] at this
  have h8 : ws.length * 14 ≤ 8 * 14 := Nat.mul_le_mul_right _ i3
  omega
 have ea : strBin .add (preS (ws.map fun w => Xq ++ w)) (bs [120, 45, 113]) = some (.str (preS (ws.map fun w => Xq ++ w) ++ xq)) := str_add (by have h4 : (bs [120, 45, 113]).length = 3 := rfl; omega)
 have hpl : (preS (ws.map fun w => Xq ++ w) ++ xq).length ≤ 200 := by rw [List.length_append]; have : xq.length = 3 := rfl; omega
 have hexp := exp_W hlet
 have hexl := expL_W hlet
 have hst := star_W (ws := ws)
 generalize hT : preS (ws.map fun w => Xq ++ w) ++ xq = T1 at ea hpl hexp
 have pb : pBuild [(.str []), (.str [])] [(0, 1), (1, 1)] [(.str (bs [97, 99, 99, 101, 115, 115, 45, 99, 111, 110, 116, 114, 111, 108, 45, 101, 120, 112, 111, 115, 101, 45, 104, 101, 97, 100, 101, 114, 115])), .str T1] = some (hv (expN, T1)) := rfl
 have a1 : eBuildSlice 1 2 [(.str []), (.str [])] [(0, 2)] [hv (expN, T1)] H2 τ2 = some (.sl H2.size 0 1 1 none 2, H2.new (hcells [(expN, T1)]) (1 * 2) false, τ2) := rfl
 have g2 := Gr.new g1.wf (hcells [(expN, T1)]) (1 * 2) false
 have c2 := cells_new H2 (hcells [(expN, T1)]) (1 * 2) false
 generalize hH3 : H2.new (hcells [(expN, T1)]) (1 * 2) false = H3 at a1 g2 c2
 have rd : RdH H3 (.sl H2.size 0 1 1 none 2) [(expN, T1)] := ⟨.inr ⟨H2.size, 0, 1, none, _, rfl, c2, rfl, rfl⟩, ⟨_, c2⟩⟩
 have hS1 : Small [(expN, T1)] := ⟨by simp, fun h hh => by simp at hh; subst hh; simp; exact ⟨by decide, by omega⟩⟩
 have hget : (getT expN [(expN, T1)]).length ≤ 900000 := by
  have e1 : sel expN [(expN, T1)] = [T1] := by unfold sel; rw [List.filter_cons]; simp
  have : getT expN [(expN, T1)] = T1 := by unfold getT; rw [e1]; simp [joinB, joinT]
  rw [this]; omega
 have ha : expAll [(expN, T1)] false = false := by unfold expAll; rw [hexp, hst]; rfl
 obtain ⟨ev, H4, τ4, o2, g3, k2⟩ := k_Exposed_some hE hS1 hget ha g2.wf rd τ2
 rw [hexp, hexl, srtT_snoc] at o2
 have hx := xq_mem (ws := ws)
 have hso := (srtT_ok (ws.map fun w => xq ++ w)).1
 have hul : (srtT (ws.map fun w => xq ++ w)).length ≤ 8 := by have := (srtT_ok (ws.map fun w => xq ++ w)).2.2; rw [List.length_map] at this; omega
 generalize srtT (ws.map fun w => xq ++ w) = us at o1 o2 hx hso hul
 obtain ⟨r, hr1⟩ := head_xq hx
 have hc := insB_cases xq us
 rw [hr1] at o2 hc
 have z1 := g1.size
 have z2 := g2.size
 have g23 : Gr H2.size H2 H4 := g2.trans g3 z2
 have ru := (o1.rd.gr g23 g1.wf (Nat.le_refl _))
 have pe := o2.rd.pLen
 have pu := ru.pLen
 obtain ⟨p, p1, p2⟩ := o2.rd.elem1 (i := 0) (x := .str xq) rfl
 have p1' : pSlIdx 1 [ev, .int .i64 (.ofNat 0)] = some p := p1
 have zz := i4.size
 have hl := l_law18_look c N us hso hx (by omega) u ev false H4 ru us [] τ4 N rfl (by omega)
 refine ⟨H4, τ4, (i4.trans g1 zz).trans g23 (by omega), fun q => ?_⟩
 have e0 : (((xq :: r).length : Int) == Int.ofNat 0) = false := by simp; omega
 have e1 : strBin .neq xq (bs [120, 45, 113]) = some (.bool false) := rfl
 simp only [s_law18_CorsNames]
 rw [i5 _ _ (by simp [T.get_set]) (by simp [T.get_set]) (by simp [T.get_set, preS, bs]) (by simp [T.get_set])]
 simp only [blockK, Nat.beq_refl, cond_true, seqK, s_law18_CorsNames_j0, getK_set, ↓reduceIte, Nat.reduceEqDiff, someK_n, effK_n, retK, gK_do, gK_do', gK_skip, gK_skip', gK_none, pick_mk, cond_true, cond_false, condK_tn, condK_fn, bin_eql, bin_neq, bin_lss, bin_leq, bin_gtr, bin_geq, un_not, Bool.not_true, Bool.not_false, bin_str, lenS_mk, nle_l, nle_r, nle_n, nlt_l, nlt_r, nlt_n, neq_r, neq_n, nne_r, nne_n, ext0, ext1, ext30, ext31, ext32, bin_add, bin_sub, decide_true, decide_false, k1, ea, pb, a1, k2]
 rw [hl _ _ (by simp [T.get_set]) (by simp [T.get_set]) (by simp [T.get_set]) (by simp [T.get_set])]
 rcases hc with hc | hc
 ·have e2 : ((us.length : Int) == ((xq :: r).length : Int)) = true := by rw [hc]; simp
  simp only [blockK, Nat.beq_refl, cond_true, seqK, s_law18_CorsNames_j1, getK_set, ↓reduceIte, Nat.reduceEqDiff, someK_n, effK_n, retK, gK_do, gK_do', gK_skip, gK_skip', gK_none, pick_mk, cond_true, cond_false, condK_tn, condK_fn, bin_eql, bin_neq, bin_lss, bin_leq, bin_gtr, bin_geq, un_not, Bool.not_true, Bool.not_false, bin_str, lenS_mk, nle_l, nle_r, nle_n, nlt_l, nlt_r, nlt_n, neq_r, neq_n, nne_r, nne_n, ext0, ext1, ext30, ext31, ext32, bin_add, bin_sub, decide_true, decide_false, pe, pu, e0, p1', p2, e1, e2, hKn]
 ·have e2 : ((us.length : Int) == ((xq :: r).length : Int)) = false := by rw [hc]; simp; omega
  have e3 : wr .i64 ((us.length : Int) + Int.ofNat 1) = ((us.length + 1 : Nat) : Int) := adI (by omega)
  have e4 : (((us.length + 1 : Nat) : Int) == ((xq :: r).length : Int)) = true := by rw [hc]; simp
  simp only [blockK, Nat.beq_refl, cond_true, seqK, s_law18_CorsNames_j1, getK_set, ↓reduceIte, Nat.reduceEqDiff, someK_n, effK_n, retK, gK_do, gK_do', gK_skip, gK_skip', gK_none, pick_mk, cond_true, cond_false, condK_tn, condK_fn, bin_eql, bin_neq, bin_lss, bin_leq, bin_gtr, bin_geq, un_not, Bool.not_true, Bool.not_false, bin_str, lenS_mk, nle_l, nle_r, nle_n, nlt_l, nlt_r, nlt_n, neq_r, neq_n, nne_r, nne_n, ext0, ext1, ext30, ext31, ext32, bin_add, bin_sub, decide_true, decide_false, pe, pu, e0, p1', p2, e1, e2, e3, e4, hKn]
theorem someN1 : ∃ N : Nat, 9223372036854775808 < N := ⟨9223372036854775809, by decide⟩
def CorsNamesR (vs : List V) (H : Heap) (o : Out) : Prop := (∃ (lv : V) (ls : List Bs), vs = [lv] ∧ ls.length ≤ 9223372036854775807 ∧ (∀ s ∈ ls, s.length ≤ 9223372036854775807) ∧ Rd H 1 lv ls.length (ls.map V.str)) ∧ o = .val (.bool true)
noncomputable abbrev rw_CorsNames : List Row := [Row.fn f_law18_CorsNames fn_law18_CorsNames e_law18_CorsNames, Row.prim f_cors_Unsafe (outP (RH UnsPre UnsG)), Row.prim f_cors_Exposed (outP (RH ExpPre ExpG)), Row.prim f_law18_known closedP]
theorem closedP_callN {c : CallK} {f : Nat} (h : ∀ vs H τ q, c f vs H τ q = effK (closedP vs H τ) q) : ∀ H τ q, c f [] H τ q = q (.bool true) H τ := fun H τ q => by rw [h]; rfl
theorem corsNames_ok : ∀ base w0, PrimOk PG base w0 f_law18_CorsNames (outP CorsNamesR) := by
 obtain ⟨N, hN⟩ := someN1
 refine primOk_out mixed_ok (l := rw_CorsNames) (.fn ok_law18_CorsNames e_law18_CorsNames_ok (.prim p_cors_Unsafe (.prim p_cors_Exposed (.prim closed_law18_known_ok (.nil _))))) N 2 _ ?_
 rintro vs H o hw hvs ⟨⟨lv, ls, rfl, h1, h2, h3⟩, rfl⟩ τ
 obtain ⟨H', τ', g, k⟩ := s_law18_CorsNames_ret (CR rw_CorsNames N 1) hN (fun _ _ _ _ => rfl) (fun _ _ _ _ => rfl) (closedP_callN fun _ _ _ _ => rfl) ls h1 h2 lv H hw h3 τ
 exact ⟨_, H', τ', k retK, g, rfl, trivial⟩
theorem corsNames_fun : Fun1 CorsNamesR := fun vs H o o' k k' => k.2.trans k'.2.symm
theorem corsNames_in {H : Heap} {ls : List Bs} {lv : V} (hr : Rd H 1 lv ls.length (ls.map V.str)) (h1 : ls.length ≤ 9223372036854775807) (h2 : ∀ s ∈ ls, s.length ≤ 9223372036854775807) (τ : Tape) : outP CorsNamesR [lv] H τ = some (.bool true, H, τ) := outP_mk corsNames_fun ⟨⟨lv, ls, rfl, h1, h2, hr⟩, rfl⟩ τ
end Go.Am.X

