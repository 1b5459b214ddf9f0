/- The abstract machine, printed functions of the program, and what they are shown to be. -/
import Derived.Test.YtbkhmjpamfepbaaDoorARL1
import Derived.Test.YtbkhmjpamfepbaaDoorARM3
namespace Go.Am.X
set_option linter.unusedSimpArgs false
set_option linter.unusedVariables false
set_option linter.unusedSectionVars false
set_option maxRecDepth 100000
theorem lowB_up {x : UInt8} (h1 : 65 ≤ x.toNat) (h2 : x.toNat ≤ 90) : ((x.toNat + 32 : Nat) : Int) = ((lowB x).toNat : Int) := by
  have : lowB x = UInt8.ofNat (x.toNat + 32) := by unfold lowB; rw [if_pos ⟨h1, h2⟩]
  rw [this]; simp; omega
theorem l_ref1_Lower (c : CallK) (N : Nat) {B id e m : Nat} (l : Bs) :
    ∀ (pre : Bs) (n : Nat) (fr : T V) (H : Heap) (τ : Tape), WF H → Blk H B id (bv (lower pre ++ l)) → (pre ++ l).length = m → m < 9223372036854775807 → l.length < n →
    fr.get 3 = some (.sl id 0 m m (some e) 1) → fr.get 4 = some (.int .i64 (pre.length : Int)) →
    ∃ H', Blk H' B id (bv (lower (pre ++ l))) ∧ Gr B H H' ∧ ∀ k, loopK (s_ref1_Lower_l1 c N) n ⟨fr, H⟩ τ k = k (.exit 0) ⟨T.set .leaf 3 (.sl id 0 m m (some e) 1), H'⟩ τ := by
  induction l with
  | nil =>
    intro pre n fr H τ hw hB hm hmb hn h3 h4
    obtain ⟨n, rfl⟩ : ∃ j, n = j + 1 := ⟨n - 1, by simp at hn; omega⟩
    refine ⟨H, by simpa using hB, Gr.refl hw, fun k => ?_⟩
    have e1 : decide (pre.length < m) = false := decide_eq_false (by simp at hm; omega)
    have pl : pLen [.sl id 0 m m (some e) 1] = some (.int .i64 (m : Int)) := rfl
    rw [loopK_succ]
    simp only [s_ref1_Lower_l1, getK_mk h3, getK_mk h4, pl, getK_set, ↓reduceIte, Nat.reduceEqDiff, someK_n, effK_n, retK, gK_do, gK_do', gK_skip, gK_skip', gK_none, pick_mk, cond_true, cond_false, condK_tn, condK_fn, bin_eql, bin_neq, bin_lss, bin_leq, bin_gtr, bin_geq, un_not, Bool.not_true, Bool.not_false, bin_str, lenS_mk, nle_l, nle_r, nle_n, nlt_l, nlt_r, nlt_n, neq_r, neq_n, nne_r, nne_n, ext0, ext1, ext30, ext31, ext32, bin_add, bin_sub, decide_true, decide_false, e1]
    rfl
  | cons x l ih =>
    intro pre n fr H τ hw hB hm hmb hn h3 h4
    obtain ⟨n, rfl⟩ : ∃ j, n = j + 1 := ⟨n - 1, by simp at hn; omega⟩
    have hlt : pre.length < m := by simp at hm; omega
    have e1 : decide (pre.length < m) = true := decide_eq_true hlt
    have pl : pLen [.sl id 0 m m (some e) 1] = some (.int .i64 (m : Int)) := rfl
    have e2 : pSlIdx 1 [.sl id 0 m m (some e) 1, .int .i64 (pre.length : Int)] = some (.ptr id pre.length) := by
      have : Nat.blt pre.length m = true := by simp [Nat.blt]; omega
      simp [pSlIdx, natOf_nat, this]
    have e3 : lLoad1 [.ptr id pre.length] H = some (.int .u8 (x.toNat : Int)) := by
      refine load_cell hB.cells ?_
      have : pre.length = (bv (lower pre)).length := by simp [bv, lower]
      simp [bv, lower]
    have hcells : (bv (lower pre ++ x :: l)).take pre.length ++ (V.int .u8 ((lowB x).toNat : Int)).cells ++ (bv (lower pre ++ x :: l)).drop (pre.length + 1) = bv (lower (pre ++ [x]) ++ l) := by
      have hl : pre.length = (lower pre).length := by simp [lower]
      simp only [bv, List.map_append, List.map_cons]
      rw [List.take_append_of_le_length (by simp [lower]), List.take_of_length_le (by simp [lower]), List.drop_append]
      simp [lower, V.cells]
    have e5 : wr .i64 ((pre.length : Int) + Int.ofNat 1) = ((pre ++ [x]).length : Int) := by rw [adI (by omega)]; simp
    by_cases hx : 65 ≤ x.toNat ∧ x.toNat ≤ 90
    · obtain ⟨H1, k1, k2, k3, k4⟩ := hB.eStore hw pre.length (.int .u8 ((lowB x).toNat : Int)) 1 rfl (by simp [bv, lower]) rfl τ
      rw [hcells] at k2
      have d1 : decide (65 ≤ x.toNat) = true := decide_eq_true hx.1
      have d2 : decide (x.toNat ≤ 90) = true := decide_eq_true hx.2
      have e6 : wr .u8 ((x.toNat : Int) + Int.ofNat 32) = ((lowB x).toNat : Int) := by
        rw [show ((x.toNat : Int) + Int.ofNat 32) = ((x.toNat + 32 : Nat) : Int) by simp, wr_u8, Nat.mod_eq_of_lt (by omega), lowB_up hx.1 hx.2]
      obtain ⟨H', m1, m2, m3⟩ := ih (pre ++ [x]) n (T.set (T.set (T.set (T.set (T.set .leaf 3 (.sl id 0 m m (some e) 1)) 4 (.int .i64 (pre.length : Int))) 11 (.int .i64 (pre.length : Int))) 12 (.int .i64 ((pre ++ [x]).length : Int))) 4 (.int .i64 ((pre ++ [x]).length : Int))) H1 τ k3.wf k2 (by simpa using hm) hmb (by simp at hn; omega) (by simp [T.get_set]) (by simp [T.get_set])
      refine ⟨H', by simpa using m1, k3.trans m2 (Nat.le_refl _), fun k => ?_⟩
      rw [loopK_succ]
      simp only [s_ref1_Lower_l1, getK_mk h3, getK_mk h4, pl, getK_set, ↓reduceIte, Nat.reduceEqDiff, someK_n, effK_n, retK, gK_do, gK_do', gK_skip, gK_skip', gK_none, pick_mk, cond_true, cond_false, condK_tn, condK_fn, bin_eql, bin_neq, bin_lss, bin_leq, bin_gtr, bin_geq, un_not, Bool.not_true, Bool.not_false, bin_str, lenS_mk, nle_l, nle_r, nle_n, nlt_l, nlt_r, nlt_n, neq_r, neq_n, nne_r, nne_n, ext0, ext1, ext30, ext31, ext32, bin_add, bin_sub, decide_true, decide_false, e1, e2, e3, d1, d2, e6, k1, s_ref1_Lower_j2, e5, seqK]
      exact m3 k
    · have hlx : lowB x = x := by unfold lowB; rw [if_neg hx]
      rw [hlx] at hcells
      have hB2 : Blk H B id (bv (lower (pre ++ [x]) ++ l)) := by
        have : bv (lower (pre ++ [x]) ++ l) = bv (lower pre ++ x :: l) := by simp [lower, hlx]
        rw [this]; exact hB
      obtain ⟨H', m1, m2, m3⟩ := ih (pre ++ [x]) n (T.set (T.set (T.set (T.set (T.set .leaf 3 (.sl id 0 m m (some e) 1)) 4 (.int .i64 (pre.length : Int))) 11 (.int .i64 (pre.length : Int))) 12 (.int .i64 ((pre ++ [x]).length : Int))) 4 (.int .i64 ((pre ++ [x]).length : Int))) H τ hw hB2 (by simpa using hm) hmb (by simp at hn; omega) (by simp [T.get_set]) (by simp [T.get_set])
      refine ⟨H', by simpa using m1, m2, fun k => ?_⟩
      rw [loopK_succ]
      cases d1 : decide (65 ≤ x.toNat) with
      | true =>
        have d2 : decide (x.toNat ≤ 90) = false := decide_eq_false fun h => hx ⟨of_decide_eq_true d1, h⟩
        simp only [s_ref1_Lower_l1, getK_mk h3, getK_mk h4, pl, getK_set, ↓reduceIte, Nat.reduceEqDiff, someK_n, effK_n, retK, gK_do, gK_do', gK_skip, gK_skip', gK_none, pick_mk, cond_true, cond_false, condK_tn, condK_fn, bin_eql, bin_neq, bin_lss, bin_leq, bin_gtr, bin_geq, un_not, Bool.not_true, Bool.not_false, bin_str, lenS_mk, nle_l, nle_r, nle_n, nlt_l, nlt_r, nlt_n, neq_r, neq_n, nne_r, nne_n, ext0, ext1, ext30, ext31, ext32, bin_add, bin_sub, decide_true, decide_false, e1, e2, e3, d1, d2, s_ref1_Lower_j2, e5, seqK]
        exact m3 k
      | false =>
        simp only [s_ref1_Lower_l1, getK_mk h3, getK_mk h4, pl, getK_set, ↓reduceIte, Nat.reduceEqDiff, someK_n, effK_n, retK, gK_do, gK_do', gK_skip, gK_skip', gK_none, pick_mk, cond_true, cond_false, condK_tn, condK_fn, bin_eql, bin_neq, bin_lss, bin_leq, bin_gtr, bin_geq, un_not, Bool.not_true, Bool.not_false, bin_str, lenS_mk, nle_l, nle_r, nle_n, nlt_l, nlt_r, nlt_n, neq_r, neq_n, nne_r, nne_n, ext0, ext1, ext30, ext31, ext32, bin_add, bin_sub, decide_true, decide_false, e1, e2, e3, d1, s_ref1_Lower_j2, e5, seqK]
        exact m3 k
theorem s_ref1_Lower_ret (c : CallK) {N : Nat} (hN : 9223372036854775807 < N) (s : Bs) (hs : s.length ≤ 140737488355328) (H : Heap) (hw : WF H) (τ : Tape) :
    ∃ H' τ', Gr H.size H H' ∧ ∀ q, s_ref1_Lower c N (.str s) H τ q = q (.str (lower s)) H' τ' := by
  have hB := Blk.new H (bv s) ((s.length + spare s.length (τ 0)) * 1) false (by rw [bv_length]; omega)
  have hG := Gr.new hw (bv s) ((s.length + spare s.length (τ 0)) * 1) false
  obtain ⟨H', m1, m2, m3⟩ := l_ref1_Lower c N (e := spare s.length (τ 0)) (m := s.length) s [] N (T.set (T.set .leaf 3 (.sl H.size 0 s.length s.length (some (spare s.length (τ 0))) 1)) 4 (.int .i64 0)) _ τ.tail hG.wf (by simpa [lower] using hB) (by simp) (by omega) (by omega) (by simp [T.get_set]) (by simp [T.get_set])
  refine ⟨H', τ.tail, hG.trans m2 (Nat.le_refl _), fun q => ?_⟩
  have e1 : eStrBytes [.str s] H τ = some (.sl H.size 0 s.length s.length (some (spare s.length (τ 0))) 1, H.new (bv s) ((s.length + spare s.length (τ 0)) * 1) false, τ.tail) := by
    simp only [eStrBytes, Nat.ble_eq_true_of_le hs, cond_true, fresh]
    rfl
  have e3 : lBytesStr [.sl H.size 0 s.length s.length (some (spare s.length (τ 0))) 1] H' = some (.str (lower s)) := by
    have hl : (bv (lower ([] ++ s))).length = s.length := by simp [bv, lower]
    simp only [lBytesStr, loads_cells m1.cells (show 0 + s.length ≤ _ by rw [hl]; omega), List.drop_zero]
    rw [List.take_of_length_le (by rw [hl]; omega)]
    simp [bytesOf_bv]
  simp only [s_ref1_Lower, e1, effK_n]
  rw [show (V.int IntKind.i64 (Int.ofNat 0)) = .int .i64 0 from rfl, m3]
  simp only [blockK, Nat.beq_refl, cond_true, seqK, s_ref1_Lower_j0, getK_set, ↓reduceIte, Nat.reduceEqDiff, someK_n, effK_n, retK, gK_do, gK_do', gK_skip, gK_skip', gK_none, pick_mk, cond_true, cond_false, condK_tn, condK_fn, bin_eql, bin_neq, bin_lss, bin_leq, bin_gtr, bin_geq, un_not, Bool.not_true, Bool.not_false, bin_str, lenS_mk, nle_l, nle_r, nle_n, nlt_l, nlt_r, nlt_n, neq_r, neq_n, nne_r, nne_n, ext0, ext1, ext30, ext31, ext32, bin_add, bin_sub, decide_true, decide_false, e3]
end Go.Am.X


namespace Go.Am.X
set_option linter.unusedSimpArgs false
set_option linter.unusedVariables false
set_option linter.unusedSectionVars false
set_option maxRecDepth 100000
theorem someN : ∃ N : Nat, 9223372036854775807 < N := ⟨9223372036854775808, by decide⟩
/-- a function of values, out of a list of rows -/
theorem primRV {N : Nat} {l : List Row} (hl : RowsOk PG l) (d f : Nat) {Pre : List V → Prop} {g : List V → V} (hv : ∀ vs H, Pre vs → VOk H (g vs)) (h : ∀ vs, Pre vs → ∀ H, WF H → ∀ τ, ∃ H' τ', Gr H.size H H' ∧ ∀ q, CR l N d f vs H τ q = q (g vs) H' τ') : ∀ base w0, PrimOk PG base w0 f (outP (RV Pre g)) := by
  refine primOk_out mixed_ok hl N d f ?_
  rintro vs H o hw hvs ⟨hp, rfl⟩ τ
  obtain ⟨H', τ', g1, k1⟩ := h vs hp H hw τ
  exact ⟨_, H', τ', k1 retK, g1, rfl, hv vs H hp⟩
abbrev TrimPre : List V → Prop | [.str s, .bool _] => s.length < 9223372036854775807 | _ => False
abbrev TrimG : List V → V | [.str s, .bool b] => .str (trimB (fun x => endB b x.toNat) s) | _ => .tup []
abbrev rw_Trim : List Row := [Row.fn f_ref1_Trim fn_ref1_Trim e_ref1_Trim, Row.fn f_ref1_ends fn_ref1_ends e_ref1_ends]
theorem p_ref1_Trim : ∀ base w0, PrimOk PG base w0 f_ref1_Trim (outP (RV TrimPre TrimG)) := by
  obtain ⟨N, hN⟩ := someN
  refine primRV (N := N) (l := rw_Trim) (.fn ok_ref1_Trim e_ref1_Trim_ok (.fn ok_ref1_ends e_ref1_ends_ok (.nil _))) 2 _ (fun vs H h => ?_) (fun vs h H hw τ => ?_)
  · unfold TrimPre at h; split at h
    · trivial
    · exact h.elim
  · unfold TrimPre at h; split at h
    · exact ⟨H, τ, Gr.refl hw, fun q => s_ref1_Trim_ret (CR rw_Trim N 1) hN (fun n b H τ q => s_ref1_ends_ret (CR rw_Trim N 0) N n b H τ q) _ _ h H τ q⟩
    · exact h.elim
theorem p_ref1_Lower : ∀ base w0, PrimOk PG base w0 f_ref1_Lower (outP LowR) := by
  obtain ⟨N, hN⟩ := someN
  refine primRV (N := N) (l := [Row.fn f_ref1_Lower fn_ref1_Lower e_ref1_Lower]) (.fn ok_ref1_Lower e_ref1_Lower_ok (.nil _)) 1 _ (fun vs H h => ?_) (fun vs h H hw τ => ?_)
  · unfold strP at h; split at h
    · trivial
    · exact h.elim
  · unfold strP at h; split at h
    · exact s_ref1_Lower_ret (CR [Row.fn f_ref1_Lower fn_ref1_Lower e_ref1_Lower] N 0) hN _ h H hw τ
    · exact h.elim
/-- a function that is known so -/
abbrev IsP (c : CallK) (f : Nat) (R : List V → Heap → Out → Prop) : Prop := ∀ vs H τ q, c f vs H τ q = effK (outP R vs H τ) q
abbrev TrimR := RV TrimPre TrimG
abbrev RTrimOk (c : CallK) : Prop := ∀ (s : Bs) (b : Bool), s.length < 9223372036854775807 → ∀ H τ q, c f_ref1_Trim [.str s, .bool b] H τ q = q (.str (trimB (fun x => endB b x.toNat) s)) H τ
abbrev RLowOk (c : CallK) : Prop := ∀ (s : Bs), s.length ≤ 140737488355328 → ∀ H τ q, c f_ref1_Lower [.str s] H τ q = q (.str (lower s)) H τ
theorem k_ref1_Trim {c : CallK} (h : IsP c f_ref1_Trim TrimR) : RTrimOk c := fun s b hs H τ q => RV_call h (vs := [.str s, .bool b]) hs H τ q
theorem k_ref1_Lower {c : CallK} (h : IsP c f_ref1_Lower LowR) : RLowOk c := fun s hs H τ q => callS h s hs H τ q
end Go.Am.X


namespace Go.Am.X
set_option linter.unusedSimpArgs false
set_option linter.unusedVariables false
set_option linter.unusedSectionVars false
set_option maxRecDepth 100000
theorem s_ref5_Named_ret (c : CallK) (N : Nat) (hL : RLowOk c) (h : Hd) (name : Bs) (hh : h.1.length ≤ 140737488355328) (hm : name.length ≤ 140737488355328) (H : Heap) (hw : WF H) (τ : Tape) :
    ∃ H' τ', Gr H.size H H' ∧ ∀ q, s_ref5_Named c N (hv h) (.str name) H τ q = q (.bool (named name h)) H' τ' := by
  have a1 : eBox [hv h] H τ = some (.ptr H.size 0, H.new [.str h.1, .str h.2] 2 true, τ) := rfl
  have l1 : lLoad1 [.ptr H.size 0] (H.new [.str h.1, .str h.2] 2 true) = some (.str h.1) := load_cell (cells_new H _ 2 true) rfl
  have pf : pFieldAddr 0 [.ptr H.size 0] = some (.ptr H.size 0) := rfl
  refine ⟨_, τ, Gr.new hw [.str h.1, .str h.2] 2 true, fun q => ?_⟩
  simp only [s_ref5_Named, a1, effK_n, pf, someK_n, l1, hL _ hh, hL _ hm, bin_str, str_eql]
  rfl
abbrev NamedPre : List V → Prop | [.agg [.str a, .str _], .str n] => a.length ≤ 140737488355328 ∧ n.length ≤ 140737488355328 | _ => False
abbrev NamedG : List V → V | [.agg [.str a, .str b], .str n] => .bool (named n (a, b)) | _ => .tup []
noncomputable abbrev rw_Named : List Row := [Row.fn f_ref5_Named fn_ref5_Named e_ref5_Named, Row.prim f_ref1_Lower (outP LowR)]
theorem p_ref5_Named : ∀ base w0, PrimOk PG base w0 f_ref5_Named (outP (RV NamedPre NamedG)) := by
  obtain ⟨N, hN⟩ := someN
  refine primRV (N := N) (l := rw_Named) (.fn ok_ref5_Named e_ref5_Named_ok (.prim p_ref1_Lower (.nil _))) 2 _ (fun vs H h => ?_) (fun vs h H hw τ => ?_)
  · unfold NamedPre at h; split at h
    · trivial
    · exact h.elim
  · unfold NamedPre at h; split at h
    · rename_i a b n
      exact s_ref5_Named_ret (CR rw_Named N 1) N (k_ref1_Lower fun _ _ _ _ => rfl) (a, b) n h.1 h.2 H hw τ
    · exact h.elim
abbrev RNamedR := RV NamedPre NamedG
abbrev RNamedOk (c : CallK) : Prop := ∀ (h : Hd) (n : Bs), h.1.length ≤ 140737488355328 → n.length ≤ 140737488355328 → ∀ H τ q, c f_ref5_Named [hv h, .str n] H τ q = q (.bool (named n h)) H τ
theorem k_ref5_Named {c : CallK} (h : IsP c f_ref5_Named RNamedR) : RNamedOk c := fun x n hx hn H τ q => RV_call h (vs := [hv x, .str n]) ⟨hx, hn⟩ H τ q
end Go.Am.X


namespace Go.Am.X
set_option linter.unusedSimpArgs false
set_option linter.unusedVariables false
set_option linter.unusedSectionVars false
set_option maxRecDepth 100000
/-- a list of a run's own, nil where it has nothing -/
def LsH (H : Heap) (B : Nat) (v : V) (hs : List Hd) : Prop := Own H B 2 v hs.length (hcells hs) ∧ (hs = [] → v = .nils)
theorem LsH.nil (H : Heap) (B : Nat) : LsH H B .nils [] := ⟨Own.nil _ _ _, fun _ => rfl⟩
theorem LsH.gr {H H' : Heap} {B C : Nat} {v : V} {hs : List Hd} (h : LsH H B v hs) (hg : Gr C H H') (hw : WF H) (hC : H.size ≤ C) : LsH H' B v hs := ⟨h.1.gr hg hw hC, h.2⟩
theorem LsH.weaken {H : Heap} {B C : Nat} {v : V} {hs : List Hd} (h : LsH H C v hs) (hBC : B ≤ C) : LsH H B v hs := by
  refine ⟨?_, h.2⟩
  rcases h.1 with h | ⟨id, e, room, fam, ver, pl, st, fr, h1, h2, h3, h4, h5, h6, h7⟩
  · exact .inl h
  · exact .inr ⟨id, e, room, fam, ver, pl, st, fr, h1, h2, h3, h4, Nat.le_trans hBC h5, Nat.le_trans hBC h6, h7⟩
theorem LsH.put {H : Heap} {B : Nat} {v : V} {hs : List Hd} (h : LsH H B v hs) (hw : WF H) (hB : B ≤ H.size) (x : Hd) (hn : hs.length ≤ 1000000) (τ : Tape) :
    ∃ w H1 v' H' τ', eBuildSlice 1 2 [(.str []), (.str [])] [(0, 2)] [hv x] H τ = some (w, H1, τ) ∧ eAppend 2 32 [v, w] H1 τ = some (v', H', τ') ∧ LsH H' B v' (hs ++ [x]) ∧ Gr B H H' ∧ (∀ id cs, H.cells? id = some cs → H'.cells? id = some cs) ∧ (∀ id cs, H.cells? id = some cs → H1.cells? id = some cs) := by
  obtain ⟨w, H1, v', H', τ', r1, r2, r3, r4, r5, r6⟩ := put2 h.1.apd hw hB x hn τ
  have e : H1 = H.new [.str x.1, .str x.2] (1 * 2) false := by
    have : eBuildSlice 1 2 [(.str []), (.str [])] [(0, 2)] [.agg [.str x.1, .str x.2]] H τ = some (.sl H.size 0 1 1 none 2, H.new [.str x.1, .str x.2] (1 * 2) false, τ) := rfl
    rw [this] at r1
    simp only [Option.some.injEq, Prod.mk.injEq] at r1
    exact r1.2.1.symm
  refine ⟨w, H1, v', H', τ', r1, r2, ⟨?_, fun h => by simp at h⟩, r4, r5, fun id cs hc => ?_⟩
  · have := r3.own (by omega)
    simpa using this
  · rw [e]; exact (Gr.new hw _ _ _).cells hw (Nat.le_refl _) hc
theorem LsH.met {H H' : Heap} {v : V} {hs : List Hd} {mk : V → V} (h : LsH H' H.size v hs) (hmk : MkOk mk) (hnil : VOk H (mk .nils)) : (lstO 2 hs.length (hcells hs) mk).Met H (mk v) H' := by
  refine Got.met (h.1.apd.got) (fun h0 => h.2 (List.eq_nil_of_length_eq_zero h0)) hmk (hcells_vok _ _) hnil
end Go.Am.X


namespace Go.Am.X
set_option linter.unusedSimpArgs false
set_option linter.unusedVariables false
set_option linter.unusedSectionVars false
set_option maxRecDepth 100000
theorem primRH {N : Nat} {l : List Row} (hl : RowsOk PG l) (d f : Nat) {Pre : List Hd → List V → Prop} {g : Bool → List Hd → List V → Out} (h : ∀ hs args, Pre hs args → ∀ lv H, WF H → RdH H lv hs → ∀ τ, ∃ v H' τ', Gr H.size H H' ∧ (g (isNil lv) hs args).Met H v H' ∧ ∀ q, CR l N d f (lv :: args) H τ q = q v H' τ') : ∀ base w0, PrimOk PG base w0 f (outP (RH Pre g)) := by
  refine primOk_out mixed_ok hl N d f ?_
  rintro vs H o hw hvs ⟨lv, args, hs, rfl, hr, hp, rfl⟩ τ
  obtain ⟨v, H', τ', g1, hm, k1⟩ := h hs args hp lv H hw hr τ
  exact ⟨_, H', τ', k1 retK, g1, hm⟩
theorem LsH.lst {H : Heap} {B : Nat} {v : V} {hs : List Hd} (h : LsH H B v hs) (hn : hs ≠ []) : FreshL B H 2 hs.length (hcells hs) v := Got.lst h.1.apd.got (fun e => hn (List.eq_nil_of_length_eq_zero e))
theorem RdH.nils {H : Heap} {hs : List Hd} (h : RdH H .nils hs) : hs = [] := by
  rcases h.1 with ⟨_, h0, _⟩ | ⟨_, _, _, _, _, e, _⟩
  · exact List.eq_nil_of_length_eq_zero h0
  · cases e
abbrev FewHPre (hs : List Hd) : List V → Prop | [.int .i64 (.ofNat nn), .int .i64 (.ofNat mm)] => hs.length ≤ 9223372036854775807 ∧ 1 ≤ nn ∧ nn ≤ 1000 | _ => False
abbrev FewHG (_ : Bool) (hs : List Hd) : List V → Out | [.int .i64 (.ofNat nn), .int .i64 (.ofNat mm)] => lstO 2 (fewH nn mm hs).length (hcells (fewH nn mm hs)) (fun v => v) | _ => .val (.tup [])
theorem s_keep_Few_ret (c : CallK) (N : Nat) (s : Bs) (m : Nat) (H : Heap) (τ : Tape) (q : KV) : s_keep_Few c N (.str s) (.int .i64 (m : Int)) H τ q = q (.str (s.take m)) H τ := s14_eval c N s m H τ q
abbrev rw_FewH : List Row := [Row.fn f_keep_FewHeaders fn_keep_FewHeaders e_keep_FewHeaders, Row.fn f_keep_Few fn_keep_Few e_keep_Few]
theorem p_keep_FewHeaders : ∀ base w0, PrimOk PG base w0 f_keep_FewHeaders (outP (RH FewHPre FewHG)) := by
  obtain ⟨N, hN⟩ := someN
  refine primRH (N := N) (l := rw_FewH) (.fn ok_keep_FewHeaders e_keep_FewHeaders_ok (.fn ok_keep_Few e_keep_Few_ok (.nil _))) 2 _ (fun hs args hp lv H hw hr τ => ?_)
  unfold FewHPre at hp; split at hp
  · rename_i nn mm
    obtain ⟨v', H', τ', h1, h2, h3, h4⟩ := s_keep_FewHeaders_ret (CR rw_FewH N 1) N hN (fun s m H τ q => s_keep_Few_ret (CR rw_FewH N 0) N s m H τ q) hs hp.1 nn mm hp.2.2 lv H hw hr.1 τ
    refine ⟨v', H', τ', h1, ?_, h4⟩
    refine Got.met h2.apd.got (fun h0 => h3 ?_) mkOk_id (hcells_vok _ _) trivial
    have : (hs.take nn).length = 0 := by unfold fewH at h0; rw [List.length_map] at h0; exact h0
    rw [List.length_take] at this
    exact List.eq_nil_of_length_eq_zero (by omega)
  · exact hp.elim
theorem k_keep_FewHeaders {c : CallK} (h : IsP c f_keep_FewHeaders (RH FewHPre FewHG)) {hs : List Hd} (hl : hs.length ≤ 9223372036854775807) (nn mm : Nat) (h1 : 1 ≤ nn) (hn : nn ≤ 1000) {lv : V} {H : Heap} (hw : WF H) (hr : RdH H lv hs) (τ : Tape) :
    ∃ v' H' τ', Own H' H.size 2 v' (fewH nn mm hs).length (hcells (fewH nn mm hs)) ∧ Gr H.size H H' ∧ ∀ q, c f_keep_FewHeaders [lv, .int .i64 (.ofNat nn), .int .i64 (.ofNat mm)] H τ q = q v' H' τ' := by
  obtain ⟨v', H', τ', h1, h2, h3⟩ := RH_lstO (v := lv) (l := [.int .i64 (.ofNat nn), .int .i64 (.ofNat mm)]) h hr ⟨hl, h1, hn⟩ rfl hw (by rw [hcells_length]) τ
  exact ⟨v', H', τ', h1, h2, h3⟩
end Go.Am.X


namespace Go.Am.X
set_option linter.unusedSimpArgs false
set_option linter.unusedVariables false
set_option linter.unusedSectionVars false
set_option maxRecDepth 100000
def partV (x : UInt8) (s : Bs) : V := match cutB x s with | some (a, b) => .tup [.str a, .str b, .bool true] | none => .tup [.str s, .str [], .bool false]
theorem l_ref1_Part (c : CallK) (N : Nat) (x : UInt8) (s : Bs) (hs : s.length < 9223372036854775807) (H : Heap) : ∀ (l pre : Bs) (τ : Tape) (m : Nat), s = pre ++ l → l.length < m → ∀ (fr : T V) k, fr.get 0 = some (.str s) → fr.get 1 = some (.int .u8 (x.toNat : Int)) → fr.get 7 = some (.int .i64 (pre.length : Int)) →
    loopK (s_ref1_Part_l1 c N) m ⟨fr, H⟩ τ k = match cutB x l with
      | some (a, b) => k .ret ⟨(T.set (T.set (T.set .leaf 4 (.str (pre ++ a))) 5 (.str b)) 6 (.bool true)), H⟩ τ
      | none => k (.exit 0) ⟨(T.set .leaf 0 (.str s)), H⟩ τ := by
  intro l
  induction l with
  | nil =>
    intro pre τ m he hm fr k f0 f1 f7
    obtain ⟨m, rfl⟩ : ∃ j, m = j + 1 := ⟨m - 1, by omega⟩
    have e1 : decide (pre.length < s.length) = false := decide_eq_false (by rw [he]; simp)
    rw [loopK_succ]
    simp only [s_ref1_Part_l1, getK_mk f0, getK_mk f1, getK_mk f7, getK_set, ↓reduceIte, Nat.reduceEqDiff, someK_n, effK_n, retK, gK_do, gK_do', gK_skip, gK_skip', gK_none, pick_mk, cond_true, cond_false, condK_tn, condK_fn, bin_eql, bin_neq, bin_lss, bin_leq, bin_gtr, bin_geq, un_not, Bool.not_true, Bool.not_false, bin_str, lenS_mk, nle_l, nle_r, nle_n, nlt_l, nlt_r, nlt_n, neq_r, neq_n, nne_r, nne_n, ext0, ext1, ext30, ext31, ext32, bin_add, bin_sub, decide_true, decide_false, e1]
    rfl
  | cons y l ih =>
    intro pre τ m he hm fr k f0 f1 f7
    obtain ⟨m, rfl⟩ : ∃ j, m = j + 1 := ⟨m - 1, by omega⟩
    have hlt : pre.length < s.length := by rw [he]; simp
    have e1 : decide (pre.length < s.length) = true := decide_eq_true hlt
    have e2 : pStrIndex [.str s, .int .i64 (pre.length : Int)] = some (.int .u8 (y.toNat : Int)) := strIndex_mk (by rw [he]; simp)
    have e3 : wr .i64 ((pre.length : Int) + Int.ofNat 1) = ((pre ++ [y]).length : Int) := by rw [adI (by omega)]; simp
    have e4 : decide (y.toNat = x.toNat) = decide (y = x) := by rw [← u8beq]; rfl
    rw [loopK_succ]
    by_cases h : y = x
    · subst h
      have e5 : decide (y = y) = true := decide_eq_true rfl
      have s1 : pStrSlice false true [.str s, .int .i64 (pre.length : Int)] = some (.str pre) := by rw [strSlice_hi (by omega), he]; simp
      have s2 : pStrSlice true false [.str s, .int .i64 ((pre ++ [y]).length : Int)] = some (.str l) := by
        rw [strSlice_lo (by rw [he]; simp), he, show pre ++ y :: l = (pre ++ [y]) ++ l by simp, List.drop_left]
      simp only [s_ref1_Part_l1, getK_mk f0, getK_mk f1, getK_mk f7, getK_set, ↓reduceIte, Nat.reduceEqDiff, someK_n, effK_n, retK, gK_do, gK_do', gK_skip, gK_skip', gK_none, pick_mk, cond_true, cond_false, condK_tn, condK_fn, bin_eql, bin_neq, bin_lss, bin_leq, bin_gtr, bin_geq, un_not, Bool.not_true, Bool.not_false, bin_str, lenS_mk, nle_l, nle_r, nle_n, nlt_l, nlt_r, nlt_n, neq_r, neq_n, nne_r, nne_n, ext0, ext1, ext30, ext31, ext32, bin_add, bin_sub, decide_true, decide_false, e1, e2, e4, e5, s1, e3, s2, cutB, if_true, List.append_nil]
      rfl
    · have e5 : decide (y = x) = false := decide_eq_false h
      simp only [s_ref1_Part_l1, getK_mk f0, getK_mk f1, getK_mk f7, getK_set, ↓reduceIte, Nat.reduceEqDiff, someK_n, effK_n, retK, gK_do, gK_do', gK_skip, gK_skip', gK_none, pick_mk, cond_true, cond_false, condK_tn, condK_fn, bin_eql, bin_neq, bin_lss, bin_leq, bin_gtr, bin_geq, un_not, Bool.not_true, Bool.not_false, bin_str, lenS_mk, nle_l, nle_r, nle_n, nlt_l, nlt_r, nlt_n, neq_r, neq_n, nne_r, nne_n, ext0, ext1, ext30, ext31, ext32, bin_add, bin_sub, decide_true, decide_false, e1, e2, e4, e5, e3, cutB, h, if_false]
      refine (ih (pre ++ [y]) τ m (by rw [he]; simp) (by simp at hm; omega) _ k (by simp [T.get_set]) (by simp [T.get_set]) (by simp [T.get_set])).trans ?_
      cases cutB x l with
      | none => rfl
      | some ab => obtain ⟨a, b⟩ := ab; simp
theorem s_ref1_Part_ret (c : CallK) {N : Nat} (hN : 9223372036854775807 < N) (x : UInt8) (s : Bs) (hs : s.length ≤ 9223372036854775806) (H : Heap) (τ : Tape) (q : KV) : s_ref1_Part c N (.str s) (.int .u8 (x.toNat : Int)) H τ q = q (partV x s) H τ := by
  simp only [s_ref1_Part]
  rw [l_ref1_Part c N x s (by omega) H s [] τ N rfl (by omega) _ _ (by simp [T.get_set]) (by simp [T.get_set]) (by simp [T.get_set])]
  unfold partV
  cases cutB x s with
  | none => simp only [blockK, Nat.beq_refl, cond_true, seqK, s_ref1_Part_j0, getK_set, ↓reduceIte, Nat.reduceEqDiff, someK_n, effK_n, retK, gK_do, gK_do', gK_skip, gK_skip', gK_none, pick_mk, cond_true, cond_false, condK_tn, condK_fn, bin_eql, bin_neq, bin_lss, bin_leq, bin_gtr, bin_geq, un_not, Bool.not_true, Bool.not_false, bin_str, lenS_mk, nle_l, nle_r, nle_n, nlt_l, nlt_r, nlt_n, neq_r, neq_n, nne_r, nne_n, ext0, ext1, ext30, ext31, ext32, bin_add, bin_sub, decide_true, decide_false]
  | some ab => obtain ⟨a, b⟩ := ab; simp only [blockK, seqK, endK, List.nil_append]; rfl
abbrev PartPre : List V → Prop | [.str s, .int .u8 (.ofNat n)] => s.length ≤ 9223372036854775806 ∧ n < 256 | _ => False
abbrev PartG : List V → V | [.str s, .int .u8 (.ofNat n)] => partV (UInt8.ofNat n) s | _ => .tup []
abbrev PartR := RV PartPre PartG
theorem partV_vok (x : UInt8) (s : Bs) (H : Heap) : VOk H (partV x s) := by
  unfold partV; split <;> exact ⟨trivial, trivial, trivial, trivial⟩
theorem p_ref1_Part : ∀ base w0, PrimOk PG base w0 f_ref1_Part (outP PartR) := by
  obtain ⟨N, hN⟩ := someN
  refine primRV (N := N) (l := [Row.fn f_ref1_Part fn_ref1_Part e_ref1_Part]) (.fn ok_ref1_Part e_ref1_Part_ok (.nil _)) 1 _ (fun vs H h => ?_) (fun vs h H hw τ => ?_)
  · unfold PartPre at h; split at h
    · exact partV_vok _ _ _
    · exact h.elim
  · unfold PartPre at h; split at h
    · rename_i s n
      have e : (UInt8.ofNat n).toNat = n := by simp; omega
      have := fun q => s_ref1_Part_ret (CR [Row.fn f_ref1_Part fn_ref1_Part e_ref1_Part] N 0) hN (UInt8.ofNat n) s h.1 H τ q
      rw [e] at this
      exact ⟨H, τ, Gr.refl hw, this⟩
    · exact h.elim
abbrev PartOk (c : CallK) : Prop := ∀ (s : Bs) (n : Nat), s.length ≤ 9223372036854775806 → n < 256 → ∀ H τ q, c f_ref1_Part [.str s, .int .u8 (.ofNat n)] H τ q = q (partV (UInt8.ofNat n) s) H τ
theorem k_ref1_Part {c : CallK} (h : IsP c f_ref1_Part PartR) : PartOk c := fun s n hs hn H τ q => RV_call h (vs := [.str s, .int .u8 (.ofNat n)]) ⟨hs, hn⟩ H τ q
theorem l_ref1_Int (c : CallK) (N : Nat) (hD : ∀ (n : Nat) H τ q, c f_ref1_Digit [.int .u8 (n : Int)] H τ q = q (.bool (digB n)) H τ) (H : Heap) (s : Bs) (hs : s.length < 9223372036854775807) : ∀ (l pre : Bs) (v : Int) (τ : Tape) (n : Nat), s = pre ++ l → 0 ≤ v → v ≤ mostI → l.length < n →
    ∀ (fr : T V) k, fr.get 0 = some (.str s) → fr.get 4 = some (.int .i64 v) → fr.get 5 = some (.int .i64 (pre.length : Int)) →
    loopK (s_ref1_Int_l1 c N) n ⟨fr, H⟩ τ k = match intL l v with
      | some m => k (.exit 0) ⟨T.set (T.set .leaf 0 (.str s)) 4 (.int .i64 m), H⟩ τ
      | none => k .ret ⟨T.set (T.set .leaf 2 (.int .i64 (.ofNat 0))) 3 (.bool false), H⟩ τ := by
  intro l
  induction l with
  | nil =>
    intro pre v τ n he h0 h1 hn fr k f0 f4 f5
    obtain ⟨n, rfl⟩ : ∃ j, n = j + 1 := ⟨n - 1, by simp at hn; omega⟩
    have e1 : decide (pre.length < s.length) = false := decide_eq_false (by rw [he]; simp)
    rw [loopK_succ]
    simp only [s_ref1_Int_l1, getK_mk f0, getK_mk f4, getK_mk f5, getK_set, ↓reduceIte, Nat.reduceEqDiff, someK_n, effK_n, retK, gK_do, gK_do', gK_skip, gK_skip', gK_none, pick_mk, cond_true, cond_false, condK_tn, condK_fn, bin_eql, bin_neq, bin_lss, bin_leq, bin_gtr, bin_geq, un_not, Bool.not_true, Bool.not_false, bin_str, lenS_mk, nle_l, nle_r, nle_n, nlt_l, nlt_r, nlt_n, neq_r, neq_n, nne_r, nne_n, ext0, ext1, ext30, ext31, ext32, bin_add, bin_sub, decide_true, decide_false, e1, intL]
    rfl
  | cons x l ih =>
    intro pre v τ n he h0 h1 hn fr k f0 f4 f5
    obtain ⟨n, rfl⟩ : ∃ j, n = j + 1 := ⟨n - 1, by simp at hn; omega⟩
    have hlt : pre.length < s.length := by rw [he]; simp
    have e1 : decide (pre.length < s.length) = true := decide_eq_true hlt
    have e2 : pStrIndex [.str s, .int .i64 (pre.length : Int)] = some (.int .u8 (x.toNat : Int)) := strIndex_mk (by rw [he]; simp)
    have e9 : wr .i64 ((pre.length : Int) + Int.ofNat 1) = ((pre ++ [x]).length : Int) := by rw [adI (by omega)]; simp
    have hx := u8_lt x
    rw [loopK_succ]
    by_cases hd : 48 ≤ x.toNat ∧ x.toNat ≤ 57
    · have ed : digB x.toNat = true := by unfold digB; simp [hd.1, hd.2]
      have e5 : wr .u8 ((x.toNat : Int) - Int.ofNat 48) = (x.toNat : Int) - 48 := by
        rw [wr_eq]; simp [IntKind.wrap, IntKind.signed, IntKind.bits]; omega
      have e6 : wr .i64 ((x.toNat : Int) - 48) = (x.toNat : Int) - 48 := wr_id (by omega) (by omega)
      have e7 : wr .i64 (Int.ofNat 9223372036854775807 - ((x.toNat : Int) - 48)) = mostI - ((x.toNat : Int) - 48) := by
        rw [wr_id (by first | (simp; done) | (simp; omega) | omega) (by first | (simp; done) | (simp; omega) | omega)]; rfl
      have e8 : wr .i64 ((mostI - ((x.toNat : Int) - 48)).tdiv (Int.ofNat 10)) = (mostI - ((x.toNat : Int) - 48)).tdiv 10 := by
        have : (mostI - ((x.toNat : Int) - 48)).tdiv (Int.ofNat 10) = (mostI - ((x.toNat : Int) - 48)).tdiv 10 := rfl
        rw [this, Int.tdiv_eq_ediv_of_nonneg (by unfold mostI; omega)]
        unfold mostI
        exact wr_id (by omega) (by omega)
      have hq10 : ∀ (y : Int) (q : V → Ans), binK .quo (.int .i64 y) (.int .i64 (Int.ofNat 10)) q = q (.int .i64 (wr .i64 (y.tdiv (Int.ofNat 10)))) := fun y q => bin_quo _ _ _ (by decide) _
      have hstep := intStep_range h0 h1 (d := (x.toNat : Int) - 48) (by omega) (by omega)
      have hI : intL (x :: l) v = intL l (intStep v ((x.toNat : Int) - 48)) := by simp only [intL, hd, and_self, if_true]
      by_cases hq : (mostI - ((x.toNat : Int) - 48)).tdiv 10 < v
      · have hI2 : intStep v ((x.toNat : Int) - 48) = mostI := by simp only [intStep, hq, if_true]
        have eq : decide ((mostI - ((x.toNat : Int) - 48)).tdiv 10 < v) = true := decide_eq_true hq
        simp only [s_ref1_Int_l1, getK_mk f0, getK_mk f4, getK_mk f5, getK_set, ↓reduceIte, Nat.reduceEqDiff, someK_n, effK_n, retK, gK_do, gK_do', gK_skip, gK_skip', gK_none, pick_mk, cond_true, cond_false, condK_tn, condK_fn, bin_eql, bin_neq, bin_lss, bin_leq, bin_gtr, bin_geq, un_not, Bool.not_true, Bool.not_false, bin_str, lenS_mk, nle_l, nle_r, nle_n, nlt_l, nlt_r, nlt_n, neq_r, neq_n, nne_r, nne_n, ext0, ext1, ext30, ext31, ext32, bin_add, bin_sub, decide_true, decide_false, e1, e2, hD, ed, e5, toInt_mk, e6, e7, hq10, e8, eq, s_ref1_Int_j2, e9, seqK]
        rw [ih (pre ++ [x]) mostI τ n (by rw [he]; simp) (by unfold mostI; omega) (Int.le_refl _) (by simp at hn; omega) _ k (by simp [T.get_set]) (by simp [T.get_set]; rfl) (by simp [T.get_set]), hI, hI2]
      · have hI2 : intStep v ((x.toNat : Int) - 48) = v * 10 + ((x.toNat : Int) - 48) := by simp only [intStep, hq, if_false]
        have eq : decide ((mostI - ((x.toNat : Int) - 48)).tdiv 10 < v) = false := decide_eq_false hq
        have hv : v * 10 + ((x.toNat : Int) - 48) ≤ mostI := by rw [← hI2]; exact hstep.2
        have e10 : wr .i64 (v * Int.ofNat 10) = v * 10 := by
          have : v * Int.ofNat 10 = v * 10 := rfl
          rw [this, wr_id (by omega) (by unfold mostI at hv; omega)]
        have e11 : wr .i64 (v * 10 + ((x.toNat : Int) - 48)) = v * 10 + ((x.toNat : Int) - 48) := wr_id (by omega) hv
        simp only [s_ref1_Int_l1, getK_mk f0, getK_mk f4, getK_mk f5, getK_set, ↓reduceIte, Nat.reduceEqDiff, someK_n, effK_n, retK, gK_do, gK_do', gK_skip, gK_skip', gK_none, pick_mk, cond_true, cond_false, condK_tn, condK_fn, bin_eql, bin_neq, bin_lss, bin_leq, bin_gtr, bin_geq, un_not, Bool.not_true, Bool.not_false, bin_str, lenS_mk, nle_l, nle_r, nle_n, nlt_l, nlt_r, nlt_n, neq_r, neq_n, nne_r, nne_n, ext0, ext1, ext30, ext31, ext32, bin_add, bin_sub, decide_true, decide_false, e1, e2, hD, ed, e5, toInt_mk, e6, e7, hq10, e8, eq, bin_mul, e10, e11, s_ref1_Int_j2, e9, seqK]
        rw [ih (pre ++ [x]) (v * 10 + ((x.toNat : Int) - 48)) τ n (by rw [he]; simp) (by omega) hv (by simp at hn; omega) _ k (by simp [T.get_set]) (by simp [T.get_set]) (by simp [T.get_set]), hI, hI2]
    · have ed : digB x.toNat = false := by
        unfold digB
        by_cases h : 48 ≤ x.toNat
        · have : ¬ x.toNat ≤ 57 := fun h' => hd ⟨h, h'⟩
          simp [h, this]
        · simp [h]
      have hI : intL (x :: l) v = none := by simp only [intL, hd, if_false]
      simp only [s_ref1_Int_l1, getK_mk f0, getK_mk f4, getK_mk f5, getK_set, ↓reduceIte, Nat.reduceEqDiff, someK_n, effK_n, retK, gK_do, gK_do', gK_skip, gK_skip', gK_none, pick_mk, cond_true, cond_false, condK_tn, condK_fn, bin_eql, bin_neq, bin_lss, bin_leq, bin_gtr, bin_geq, un_not, Bool.not_true, Bool.not_false, bin_str, lenS_mk, nle_l, nle_r, nle_n, nlt_l, nlt_r, nlt_n, neq_r, neq_n, nne_r, nne_n, ext0, ext1, ext30, ext31, ext32, bin_add, bin_sub, decide_true, decide_false, e1, e2, hD, ed, hI]
      rfl
abbrev intV (s : Bs) : V := .tup [.int .i64 (intB s).1, .bool (intB s).2]
theorem s_ref1_Int_ret (c : CallK) {N : Nat} (hN : 9223372036854775807 < N) (hD : ∀ (n : Nat) H τ q, c f_ref1_Digit [.int .u8 (n : Int)] H τ q = q (.bool (digB n)) H τ) (s : Bs) (hs : s.length ≤ 9223372036854775806) (H : Heap) (τ : Tape) (q : KV) :
    s_ref1_Int c N (.str s) H τ q = q (intV s) H τ := by
  simp only [s_ref1_Int]
  rw [l_ref1_Int c N hD H s (by omega) s [] 0 τ N rfl (Int.le_refl _) (by unfold mostI; omega) (by omega) _ _ (by simp [T.get_set]) (by simp [T.get_set]) (by simp [T.get_set])]
  unfold intV intB
  cases hI : intL s 0 with
  | none =>
    simp only [blockK, seqK, endK]
    rfl
  | some m =>
    simp only [blockK, Nat.beq_refl, cond_true, seqK, s_ref1_Int_j0, getK_set, ↓reduceIte, Nat.reduceEqDiff, someK_n, effK_n, retK, gK_do, gK_do', gK_skip, gK_skip', gK_none, pick_mk, cond_true, cond_false, condK_tn, condK_fn, bin_eql, bin_neq, bin_lss, bin_leq, bin_gtr, bin_geq, un_not, Bool.not_true, Bool.not_false, bin_str, lenS_mk, nle_l, nle_r, nle_n, nlt_l, nlt_r, nlt_n, neq_r, neq_n, nne_r, nne_n, ext0, ext1, ext30, ext31, ext32, bin_add, bin_sub, decide_true, decide_false]
abbrev IntR := RS 9223372036854775806 intV
abbrev rw_Int : List Row := [Row.fn f_ref1_Int fn_ref1_Int e_ref1_Int, Row.fn f_ref1_Digit fn_ref1_Digit e_ref1_Digit]
theorem p_ref1_Int : ∀ base w0, PrimOk PG base w0 f_ref1_Int (outP IntR) := by
  obtain ⟨N, hN⟩ := someN
  refine primRV (N := N) (l := rw_Int) (.fn ok_ref1_Int e_ref1_Int_ok (.fn ok_ref1_Digit e_ref1_Digit_ok (.nil _))) 2 _ (fun vs H h => ?_) (fun vs h H hw τ => ?_)
  · unfold strP at h; split at h
    · exact ⟨trivial, trivial, trivial⟩
    · exact h.elim
  · unfold strP at h; split at h
    · exact ⟨H, τ, Gr.refl hw, fun q => s_ref1_Int_ret (CR rw_Int N 1) hN (fun n H τ q => s_ref1_Digit_ret (CR rw_Int N 0) N n H τ q) _ h H τ q⟩
    · exact h.elim
abbrev RIntOk (c : CallK) : Prop := ∀ (s : Bs), s.length ≤ 9223372036854775806 → ∀ H τ q, c f_ref1_Int [.str s] H τ q = q (intV s) H τ
theorem k_ref1_Int {c : CallK} (h : IsP c f_ref1_Int IntR) : RIntOk c := fun s hs H τ q => callS h s hs H τ q
def blankN (n : Nat) : Bool := (((decide (n = 9) || decide (n = 10)) || decide (n = 12)) || decide (n = 13)) || decide (n = 32)
theorem s_ref1_Blank_ret (c : CallK) (N n : Nat) (H : Heap) (τ : Tape) (q : KV) : s_ref1_Blank c N (.int .u8 (n : Int)) H τ q = q (.bool (blankN n)) H τ := by
  unfold blankN
  cases h1 : decide (n = 9) <;> cases h2 : decide (n = 10) <;> cases h3 : decide (n = 12) <;> cases h4 : decide (n = 13) <;> cases h5 : decide (n = 32) <;> simp only [s_ref1_Blank, getK_set, ↓reduceIte, Nat.reduceEqDiff, someK_n, effK_n, retK, gK_do, gK_do', gK_skip, gK_skip', gK_none, pick_mk, cond_true, cond_false, condK_tn, condK_fn, bin_eql, bin_neq, bin_lss, bin_leq, bin_gtr, bin_geq, un_not, Bool.not_true, Bool.not_false, bin_str, lenS_mk, nle_l, nle_r, nle_n, nlt_l, nlt_r, nlt_n, neq_r, neq_n, nne_r, nne_n, ext0, ext1, ext30, ext31, ext32, bin_add, bin_sub, decide_true, decide_false, h1, h2, h3, h4, h5] <;> rfl
theorem blankN_eq : (fun x : UInt8 => blankN x.toNat) = blank := by
  funext x
  unfold blank
  simp only [blankN, List.contains_cons, List.contains_nil, Bool.or_false, u8beq]
  show _ = (decide (x.toNat = 9) || (decide (x.toNat = 10) || (decide (x.toNat = 12) || (decide (x.toNat = 13) || decide (x.toNat = 32)))))
  simp only [Bool.or_assoc]
abbrev BlankOk (c : CallK) : Prop := ∀ (n : Nat) (H : Heap) (τ : Tape) (q : KV), c f_ref1_Blank [.int .u8 (n : Int)] H τ q = q (.bool (blankN n)) H τ
theorem l_ref1_Strip_a (c : CallK) (N : Nat) (he : BlankOk c) (H : Heap) : ∀ (s : Bs) (fr : T V) (τ : Tape) (m : Nat), s.length < m → s.length < 9223372036854775807 → fr.get 0 = some (.str s) →
    ∀ k, loopK (s_ref1_Strip_l3 c N) m ⟨fr, H⟩ τ k = k (.exit 0) ⟨(T.set .leaf 0 (.str (s.dropWhile fun x => blankN x.toNat))), H⟩ τ := by
  intro s
  induction s with
  | nil =>
    intro fr τ m hm hs f0 k
    obtain ⟨m, rfl⟩ : ∃ j, m = j + 1 := ⟨m - 1, by omega⟩
    rw [loopK_succ]
    have e : decide (0 < ([] : Bs).length) = false := rfl
    simp only [s_ref1_Strip_l3, getK_mk f0, getK_set, ↓reduceIte, Nat.reduceEqDiff, someK_n, effK_n, retK, gK_do, gK_do', gK_skip, gK_skip', gK_none, pick_mk, cond_true, cond_false, condK_tn, condK_fn, bin_eql, bin_neq, bin_lss, bin_leq, bin_gtr, bin_geq, un_not, Bool.not_true, Bool.not_false, bin_str, lenS_mk, nle_l, nle_r, nle_n, nlt_l, nlt_r, nlt_n, neq_r, neq_n, nne_r, nne_n, ext0, ext1, ext30, ext31, ext32, bin_add, bin_sub, decide_true, decide_false, e]
    rfl
  | cons x s ih =>
    intro fr τ m hm hs f0 k
    obtain ⟨m, rfl⟩ : ∃ j, m = j + 1 := ⟨m - 1, by omega⟩
    rw [loopK_succ]
    have e : decide (0 < (x :: s).length) = true := by simp
    have e2 : pStrIndex [.str (x :: s), .int .i64 (Int.ofNat 0)] = some (.int .u8 (x.toNat : Int)) := strIdx0 rfl
    have e3 : pStrSlice true false [.str (x :: s), .int .i64 (Int.ofNat 1)] = some (.str s) := by
      have := strSlice_lo (s := x :: s) (k := .i64) (i := 1) (by simp)
      simpa using this
    cases hb : blankN x.toNat with
    | true =>
      simp only [s_ref1_Strip_l3, getK_mk f0, getK_set, ↓reduceIte, Nat.reduceEqDiff, someK_n, effK_n, retK, gK_do, gK_do', gK_skip, gK_skip', gK_none, pick_mk, cond_true, cond_false, condK_tn, condK_fn, bin_eql, bin_neq, bin_lss, bin_leq, bin_gtr, bin_geq, un_not, Bool.not_true, Bool.not_false, bin_str, lenS_mk, nle_l, nle_r, nle_n, nlt_l, nlt_r, nlt_n, neq_r, neq_n, nne_r, nne_n, ext0, ext1, ext30, ext31, ext32, bin_add, bin_sub, decide_true, decide_false, e, e2, he, hb, e3, List.dropWhile_cons]
      exact ih _ τ m (by simp at hm; omega) (by simp at hs; omega) (by simp [T.get_set]) k
    | false =>
      simp only [s_ref1_Strip_l3, getK_mk f0, getK_set, ↓reduceIte, Nat.reduceEqDiff, someK_n, effK_n, retK, gK_do, gK_do', gK_skip, gK_skip', gK_none, pick_mk, cond_true, cond_false, condK_tn, condK_fn, bin_eql, bin_neq, bin_lss, bin_leq, bin_gtr, bin_geq, un_not, Bool.not_true, Bool.not_false, bin_str, lenS_mk, nle_l, nle_r, nle_n, nlt_l, nlt_r, nlt_n, neq_r, neq_n, nne_r, nne_n, ext0, ext1, ext30, ext31, ext32, bin_add, bin_sub, decide_true, decide_false, e, e2, he, hb, List.dropWhile_cons, Bool.false_eq_true]
      rfl
theorem l_ref1_Strip_b (c : CallK) (N : Nat) (he : BlankOk c) (H : Heap) : ∀ (n : Nat) (s : Bs) (fr : T V) (τ : Tape) (m : Nat), s.length = n → n < m → n < 9223372036854775807 → fr.get 0 = some (.str s) →
    ∀ k, loopK (s_ref1_Strip_l2 c N) m ⟨fr, H⟩ τ k = k (.exit 2) ⟨(T.set .leaf 0 (.str (s.reverse.dropWhile fun x => blankN x.toNat).reverse)), H⟩ τ := by
  intro n
  induction n with
  | zero =>
    intro s fr τ m hn hm hs f0 k
    obtain rfl := List.eq_nil_of_length_eq_zero hn
    obtain ⟨m, rfl⟩ : ∃ j, m = j + 1 := ⟨m - 1, by omega⟩
    rw [loopK_succ]
    have e : decide (0 < ([] : Bs).length) = false := rfl
    simp only [s_ref1_Strip_l2, getK_mk f0, getK_set, ↓reduceIte, Nat.reduceEqDiff, someK_n, effK_n, retK, gK_do, gK_do', gK_skip, gK_skip', gK_none, pick_mk, cond_true, cond_false, condK_tn, condK_fn, bin_eql, bin_neq, bin_lss, bin_leq, bin_gtr, bin_geq, un_not, Bool.not_true, Bool.not_false, bin_str, lenS_mk, nle_l, nle_r, nle_n, nlt_l, nlt_r, nlt_n, neq_r, neq_n, nne_r, nne_n, ext0, ext1, ext30, ext31, ext32, bin_add, bin_sub, decide_true, decide_false, e]
    rfl
  | succ n ih =>
    intro s fr τ m hn hm hs f0 k
    obtain ⟨m, rfl⟩ : ∃ j, m = j + 1 := ⟨m - 1, by omega⟩
    rw [loopK_succ]
    obtain ⟨s, x, rfl⟩ : ∃ s' x, s = s' ++ [x] := ⟨s.dropLast, s.getLast (by intro h; subst h; simp at hn), (List.dropLast_concat_getLast _).symm⟩
    have hl : s.length = n := by simpa using hn
    have e : decide (0 < (s ++ [x]).length) = true := by simp
    have e1 : wr .i64 ((((s ++ [x]).length : Nat) : Int) - Int.ofNat 1) = (s.length : Int) := by rw [sbI (by simp) (by omega)]; simp
    have e2 : pStrIndex [.str (s ++ [x]), .int .i64 (s.length : Int)] = some (.int .u8 (x.toNat : Int)) := strIndex_mk (by simp)
    have e3 : pStrSlice false true [.str (s ++ [x]), .int .i64 (s.length : Int)] = some (.str s) := by
      rw [strSlice_hi (by simp)]; simp
    cases hb : blankN x.toNat with
    | true =>
      simp only [s_ref1_Strip_l2, getK_mk f0, getK_set, ↓reduceIte, Nat.reduceEqDiff, someK_n, effK_n, retK, gK_do, gK_do', gK_skip, gK_skip', gK_none, pick_mk, cond_true, cond_false, condK_tn, condK_fn, bin_eql, bin_neq, bin_lss, bin_leq, bin_gtr, bin_geq, un_not, Bool.not_true, Bool.not_false, bin_str, lenS_mk, nle_l, nle_r, nle_n, nlt_l, nlt_r, nlt_n, neq_r, neq_n, nne_r, nne_n, ext0, ext1, ext30, ext31, ext32, bin_add, bin_sub, decide_true, decide_false, e, e1, e2, he, hb, e3, List.reverse_append, List.reverse_cons, List.reverse_nil, List.nil_append, List.singleton_append, List.dropWhile_cons]
      exact ih s _ τ m hl (by omega) (by omega) (by simp [T.get_set]) k
    | false =>
      simp only [s_ref1_Strip_l2, getK_mk f0, getK_set, ↓reduceIte, Nat.reduceEqDiff, someK_n, effK_n, retK, gK_do, gK_do', gK_skip, gK_skip', gK_none, pick_mk, cond_true, cond_false, condK_tn, condK_fn, bin_eql, bin_neq, bin_lss, bin_leq, bin_gtr, bin_geq, un_not, Bool.not_true, Bool.not_false, bin_str, lenS_mk, nle_l, nle_r, nle_n, nlt_l, nlt_r, nlt_n, neq_r, neq_n, nne_r, nne_n, ext0, ext1, ext30, ext31, ext32, bin_add, bin_sub, decide_true, decide_false, e, e1, e2, he, hb, List.reverse_append, List.reverse_cons, List.reverse_nil, List.nil_append, List.singleton_append, List.dropWhile_cons, Bool.false_eq_true, List.reverse_reverse]
      rfl
theorem s_ref1_Strip_ret (c : CallK) {N : Nat} (hN : 9223372036854775807 < N) (he : BlankOk c) (s : Bs) (hs : s.length ≤ 9223372036854775806) (H : Heap) (τ : Tape) (q : KV) : s_ref1_Strip c N (.str s) H τ q = q (.str (strip s)) H τ := by
  have hd : (s.dropWhile fun x => blankN x.toNat).length ≤ s.length := (List.dropWhile_sublist _).length_le
  simp only [s_ref1_Strip]
  rw [l_ref1_Strip_a c N he H s _ τ N (by omega) (by omega) (by simp [T.get_set])]
  simp only [blockK, Nat.beq_refl, cond_true, seqK, s_ref1_Strip_j0, getK_set, ↓reduceIte, Nat.reduceEqDiff, someK_n, effK_n, retK, gK_do, gK_do', gK_skip, gK_skip', gK_none, pick_mk, cond_true, cond_false, condK_tn, condK_fn, bin_eql, bin_neq, bin_lss, bin_leq, bin_gtr, bin_geq, un_not, Bool.not_true, Bool.not_false, bin_str, lenS_mk, nle_l, nle_r, nle_n, nlt_l, nlt_r, nlt_n, neq_r, neq_n, nne_r, nne_n, ext0, ext1, ext30, ext31, ext32, bin_add, bin_sub, decide_true, decide_false]
  rw [l_ref1_Strip_b c N he H (s.dropWhile fun x => blankN x.toNat).length (s.dropWhile fun x => blankN x.toNat) _ τ N rfl (by omega) (by omega) (by simp [T.get_set])]
  simp only [blockK, Nat.beq_refl, cond_true, seqK, s_ref1_Strip_j1, getK_set, ↓reduceIte, Nat.reduceEqDiff, someK_n, effK_n, retK, gK_do, gK_do', gK_skip, gK_skip', gK_none, pick_mk, cond_true, cond_false, condK_tn, condK_fn, bin_eql, bin_neq, bin_lss, bin_leq, bin_gtr, bin_geq, un_not, Bool.not_true, Bool.not_false, bin_str, lenS_mk, nle_l, nle_r, nle_n, nlt_l, nlt_r, nlt_n, neq_r, neq_n, nne_r, nne_n, ext0, ext1, ext30, ext31, ext32, bin_add, bin_sub, decide_true, decide_false]
  rw [trim_swap, blankN_eq]; rfl
abbrev rw_Strip : List Row := [Row.fn f_ref1_Strip fn_ref1_Strip e_ref1_Strip, Row.fn f_ref1_Blank fn_ref1_Blank e_ref1_Blank]
abbrev RStripR := RS 9223372036854775806 fun s => .str (strip s)
theorem p_ref1_Strip : ∀ base w0, PrimOk PG base w0 f_ref1_Strip (outP RStripR) := by
  obtain ⟨N, hN⟩ := someN
  refine primRV (N := N) (l := rw_Strip) (.fn ok_ref1_Strip e_ref1_Strip_ok (.fn ok_ref1_Blank e_ref1_Blank_ok (.nil _))) 2 _ (fun vs H h => ?_) (fun vs h H hw τ => ?_)
  · unfold strP at h; split at h
    · trivial
    · exact h.elim
  · unfold strP at h; split at h
    · exact ⟨H, τ, Gr.refl hw, fun q => s_ref1_Strip_ret (CR rw_Strip N 1) hN (fun n H τ q => s_ref1_Blank_ret (CR rw_Strip N 0) N n H τ q) _ h H τ q⟩
    · exact h.elim
abbrev RStripOk (c : CallK) : Prop := ∀ (s : Bs), s.length ≤ 9223372036854775806 → ∀ H τ q, c f_ref1_Strip [.str s] H τ q = q (.str (strip s)) H τ
theorem k_ref1_Strip {c : CallK} (h : IsP c f_ref1_Strip RStripR) : RStripOk c := fun s hs H τ q => callS h s hs H τ q
theorem strs_inj {a b : List Bs} (h : a.map V.str = b.map V.str) : a = b := by
  have := congrArg (List.map fun | V.str s => s | _ => []) h
  simpa [List.map_map, Function.comp_def] using this
end Go.Am.X


