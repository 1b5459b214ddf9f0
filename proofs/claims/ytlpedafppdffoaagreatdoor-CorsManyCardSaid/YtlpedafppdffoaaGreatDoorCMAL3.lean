/- The abstract machine, printed functions of the program, and what they are shown to be. -/
import Derived.Test.YtlpedafppdffoaaGreatDoorCMAL1
import Derived.Test.YtlpedafppdffoaaGreatDoorCMAL2
set_option linter.unusedSimpArgs false
set_option linter.unusedVariables false
set_option linter.unusedSectionVars false
set_option maxRecDepth 100000
namespace Go.Am.X
theorem s_stringslite_HasPrefix_ret (c : CallK) (N : Nat) (s p : Bs) (H : Heap) (τ : Tape) (q : KV) : s_stringslite_HasPrefix c N (.str s) (.str p) H τ q = q (.bool (begB s p)) H τ := by
 unfold begB
 rw [isPrefixOf_take]
 by_cases h : p.length ≤ s.length
 ·have e1 : decide (p.length ≤ s.length) = true := decide_eq_true h
  have s1 : pStrSlice false true [.str s, .int .i64 (p.length : Int)] = some (.str (s.take p.length)) := strSlice_hi h
  simp only [s_stringslite_HasPrefix, getK_set, ↓reduceIte, Nat.reduceEqDiff, someK_n, effK_n, retK, gK_do, gK_do', gK_skip, gK_skip', gK_none, pick_mk, cond_true, cond_false, condK_tn, condK_fn, bin_eql, bin_neq, bin_lss, bin_leq, bin_gtr, bin_geq, un_not, Bool.not_true, Bool.not_false, bin_str, lenS_mk, nle_l, nle_r, nle_n, nlt_l, nlt_r, nlt_n, neq_r, neq_n, nne_r, nne_n, ext0, ext1, ext30, ext31, ext32, bin_add, bin_sub, decide_true, decide_false, e1, s1, str_eql, Bool.true_and]
 ·have e1 : decide (p.length ≤ s.length) = false := decide_eq_false h
  simp only [s_stringslite_HasPrefix, getK_set, ↓reduceIte, Nat.reduceEqDiff, someK_n, effK_n, retK, gK_do, gK_do', gK_skip, gK_skip', gK_none, pick_mk, cond_true, cond_false, condK_tn, condK_fn, bin_eql, bin_neq, bin_lss, bin_leq, bin_gtr, bin_geq, un_not, Bool.not_true, Bool.not_false, bin_str, lenS_mk, nle_l, nle_r, nle_n, nlt_l, nlt_r, nlt_n, neq_r, neq_n, nne_r, nne_n, ext0, ext1, ext30, ext31, ext32, bin_add, bin_sub, decide_true, decide_false, e1, Bool.false_and]
abbrev BegOk (c : CallK) (f : Nat) : Prop := ∀ (s p : Bs) (H : Heap) (τ : Tape) (q : KV), c f [.str s, .str p] H τ q = q (.bool (begB s p)) H τ
def cutpV (s p : Bs) : V := bif begB s p then .tup [.str (s.drop p.length), .bool true] else .tup [.str s, .bool false]
theorem begB_len {s p : Bs} (h : begB s p = true) : p.length ≤ s.length := by
 unfold begB at h; rw [isPrefixOf_take, Bool.and_eq_true] at h; exact of_decide_eq_true h.1
theorem s_stringslite_CutPrefix_ret (c : CallK) (N : Nat) (h : BegOk c f_stringslite_HasPrefix) (s p : Bs) (H : Heap) (τ : Tape) (q : KV) : s_stringslite_CutPrefix c N (.str s) (.str p) H τ q = q (cutpV s p) H τ := by
 unfold cutpV
 cases hb : begB s p with
 | true =>
  have e2 : pStrSlice true false [.str s, .int .i64 (p.length : Int)] = some (.str (s.drop p.length)) := strSlice_lo (begB_len hb)
  simp only [s_stringslite_CutPrefix, h s p, hb, getK_set, ↓reduceIte, Nat.reduceEqDiff, someK_n, effK_n, retK, gK_do, gK_do', gK_skip, gK_skip', gK_none, pick_mk, cond_true, cond_false, condK_tn, condK_fn, bin_eql, bin_neq, bin_lss, bin_leq, bin_gtr, bin_geq, un_not, Bool.not_true, Bool.not_false, bin_str, lenS_mk, nle_l, nle_r, nle_n, nlt_l, nlt_r, nlt_n, neq_r, neq_n, nne_r, nne_n, ext0, ext1, ext30, ext31, ext32, bin_add, bin_sub, decide_true, decide_false, e2]
 | false => simp only [s_stringslite_CutPrefix, h s p, hb, getK_set, ↓reduceIte, Nat.reduceEqDiff, someK_n, effK_n, retK, gK_do, gK_do', gK_skip, gK_skip', gK_none, pick_mk, cond_true, cond_false, condK_tn, condK_fn, bin_eql, bin_neq, bin_lss, bin_leq, bin_gtr, bin_geq, un_not, Bool.not_true, Bool.not_false, bin_str, lenS_mk, nle_l, nle_r, nle_n, nlt_l, nlt_r, nlt_n, neq_r, neq_n, nne_r, nne_n, ext0, ext1, ext30, ext31, ext32, bin_add, bin_sub, decide_true, decide_false]
abbrev CutpOk (c : CallK) (f : Nat) : Prop := ∀ (s p : Bs) (H : Heap) (τ : Tape) (q : KV), c f [.str s, .str p] H τ q = q (cutpV s p) H τ
theorem s_strings_CutPrefix_ret (c : CallK) (N : Nat) (h : CutpOk c f_stringslite_CutPrefix) (s p : Bs) (H : Heap) (τ : Tape) (q : KV) : s_strings_CutPrefix c N (.str s) (.str p) H τ q = q (cutpV s p) H τ := by
 simp only [s_strings_CutPrefix, h s p]
 unfold cutpV
 cases begB s p <;> simp only [getK_set, ↓reduceIte, Nat.reduceEqDiff, someK_n, effK_n, retK, gK_do, gK_do', gK_skip, gK_skip', gK_none, pick_mk, cond_true, cond_false, condK_tn, condK_fn, bin_eql, bin_neq, bin_lss, bin_leq, bin_gtr, bin_geq, un_not, Bool.not_true, Bool.not_false, bin_str, lenS_mk, nle_l, nle_r, nle_n, nlt_l, nlt_r, nlt_n, neq_r, neq_n, nne_r, nne_n, ext0, ext1, ext30, ext31, ext32, bin_add, bin_sub, decide_true, decide_false]
abbrev CutPre : List V → Prop | [.str s, .str [_]] => s.length < 9223372036854775807 | _ => False
abbrev CutG : List V → V | [.str s, .str [x]] => partV x s | _ => .tup []
abbrev CutR := RV CutPre CutG
theorem p_strings_Cut : ∀ base w0, PrimOk PG base w0 f_strings_Cut (outP CutR) := by
 refine primOk_E 4 _ ?_
 rintro vs H o hw hvs ⟨hp, rfl⟩ τ
 unfold CutPre at hp; split at hp
 ·rename_i s x
  exact ⟨_, H, τ, d_strings_Cut nb 4 (by omega) x s hp H τ retK, Gr.refl hw, rfl, partV_vok x s H⟩
 ·exact hp.elim
abbrev RCutOk (c : CallK) : Prop := ∀ (s : Bs) (x : UInt8), s.length < 9223372036854775807 → ∀ H τ q, c f_strings_Cut [.str s, .str [x]] H τ q = q (partV x s) H τ
theorem k_strings_Cut {c : CallK} (h : IsP c f_strings_Cut CutR) : RCutOk c := fun s x hs H τ q => RV_call h (vs := [.str s, .str [x]]) hs H τ q
theorem p_infra_Int : ∀ base w0, PrimOk PG base w0 f_infra_Int (outP IntR) := primS 1 _ _ _ (fun _ _ => ⟨trivial, trivial, trivial⟩) fun s hs H hw τ => ⟨H, τ, Gr.refl hw, fun q => d_infra_Int nb 1 (by omega) s (by omega) H τ q⟩
abbrev NIntOk (c : CallK) : Prop := ∀ (s : Bs), s.length ≤ 9223372036854775806 → ∀ H τ q, c f_infra_Int [.str s] H τ q = q (intV s) H τ
theorem k_infra_Int {c : CallK} (h : IsP c f_infra_Int IntR) : NIntOk c := fun s hs H τ q => callS h s hs H τ q
theorem p_infra_Strip : ∀ base w0, PrimOk PG base w0 f_infra_Strip (outP RStripR) := primS 4 _ _ _ (fun _ _ => trivial) fun s hs H hw τ => by
 obtain ⟨H', τ', g, k⟩ := d42' nb 4 (by omega) s (by omega) H hw τ
 exact ⟨H', τ', g, k⟩
abbrev NStripOk (c : CallK) : Prop := ∀ (s : Bs), s.length ≤ 9223372036854775806 → ∀ H τ q, c f_infra_Strip [.str s] H τ q = q (.str (strip s)) H τ
theorem k_infra_Strip {c : CallK} (h : IsP c f_infra_Strip RStripR) : NStripOk c := fun s hs H τ q => callS h s hs H τ q
theorem intL_nonneg : ∀ (l : Bs) (v m : Int), 0 ≤ v → v ≤ mostI → intL l v = some m → 0 ≤ m := by
 intro l
 induction l with
 | nil => intro v m h0 _ h; cases h; exact h0
 | cons x l ih =>
  intro v m h0 h1 h
  rw [intL] at h
  split at h
  ·rename_i hx
   have := intStep_range h0 h1 (d := (x.toNat : Int) - 48) (by omega) (by omega)
   exact ih _ _ this.1 this.2 h
  ·cases h
theorem intB_nonneg (s : Bs) : 0 ≤ (intB s).1 := by
 unfold intB
 cases h : intL s 0 with
 | none => exact Int.le_refl _
 | some m => exact intL_nonneg s 0 m (Int.le_refl _) (by unfold mostI; omega) h
def rngAB (a b : Int × Bool) : Int × Int × Bool :=
 bif (a.2 && b.2) && (!(decide (a.1 < 0) && decide (b.1 < 0)) && !(decide (0 ≤ a.1) && (decide (0 ≤ b.1) && decide (b.1 < a.1)))) then (a.1, b.1, true) else (0, 0, false)
def rng (s : Bs) : Int × Int × Bool := bif begB s bytesEq then (match cutB 45 (s.drop 6) with | some (a, b) => rngAB (toldB a) (toldB b) | none => (0, 0, false)) else (0, 0, false)
abbrev rngV (s : Bs) : V := .tup [.int .i64 (rng s).1, .int .i64 (rng s).2.1, .bool (rng s).2.2]
abbrev ToldOk (c : CallK) : Prop := ∀ (s : Bs), s.length ≤ 9223372036854775806 → ∀ H τ q, c f_headers_told [.str s] H τ q = q (.tup [.int .i64 (toldB s).1, .bool (toldB s).2]) H τ
theorem s_headers_told_gen (c : CallK) (N : Nat) (h : NIntOk c) (s : Bs) (hs : s.length ≤ 9223372036854775806) (H : Heap) (τ : Tape) (q : KV) : s_headers_told c N (.str s) H τ q = q (.tup [.int .i64 (toldB s).1, .bool (toldB s).2]) H τ := by
 unfold toldB
 by_cases e : s = []
 ·subst e
  have e : (([] : Bs) == []) = true := rfl
  simp only [s_headers_told, getK_set, ↓reduceIte, Nat.reduceEqDiff, someK_n, effK_n, retK, gK_do, gK_do', gK_skip, gK_skip', gK_none, pick_mk, cond_true, cond_false, condK_tn, condK_fn, bin_eql, bin_neq, bin_lss, bin_leq, bin_gtr, bin_geq, un_not, Bool.not_true, Bool.not_false, bin_str, lenS_mk, nle_l, nle_r, nle_n, nlt_l, nlt_r, nlt_n, neq_r, neq_n, nne_r, nne_n, ext0, ext1, ext30, ext31, ext32, bin_add, bin_sub, decide_true, decide_false, str_eql, e, if_true]
  rfl
 ·have e' : (s == ([] : Bs)) = false := beq_eq_false_iff_ne.2 e
  simp only [s_headers_told, getK_set, ↓reduceIte, Nat.reduceEqDiff, someK_n, effK_n, retK, gK_do, gK_do', gK_skip, gK_skip', gK_none, pick_mk, cond_true, cond_false, condK_tn, condK_fn, bin_eql, bin_neq, bin_lss, bin_leq, bin_gtr, bin_geq, un_not, Bool.not_true, Bool.not_false, bin_str, lenS_mk, nle_l, nle_r, nle_n, nlt_l, nlt_r, nlt_n, neq_r, neq_n, nne_r, nne_n, ext0, ext1, ext30, ext31, ext32, bin_add, bin_sub, decide_true, decide_false, str_eql, e', if_neg e, h s hs]
theorem cutB_len (x : UInt8) : ∀ (s a b : Bs), cutB x s = some (a, b) → a.length + b.length + 1 = s.length := by
 intro s a b h
 have := ((cutB_spec x s).2 a b h).1
 rw [this]; simp; omega
set_option maxHeartbeats 2000000 in
theorem s_headers_Range_gen (c : CallK) (N : Nat) (hP : CutpOk c f_strings_CutPrefix) (hC : RCutOk c) (hT : ToldOk c) (s : Bs) (hs : s.length ≤ 9223372036854775806) (H : Heap) (τ : Tape) (q : KV) : s_headers_Range c N (.str s) H τ q = q (rngV s) H τ := by
 have k1 := fun H τ q => hP s bytesEq H τ q
 have eb : bs [98, 121, 116, 101, 115, 61] = bytesEq := rfl
 have e45 : bs [45] = [45] := rfl
 have fin : ∀ (a b : Int × Bool) (q : KV), s_headers_Range c N (.str s) H τ q = s_headers_Range c N (.str s) H τ q := fun _ _ _ => rfl
 unfold rngV rng
 unfold cutpV at k1
 cases hb : begB s bytesEq with
 | false =>
  rw [hb] at k1
  have k2 := hC s 45 (by omega)
  unfold partV at k2
  cases hc : cutB 45 s with
  | none =>
   rw [hc] at k2
   simp only [s_headers_Range, eb, e45, k1, cond_false, getK_set, ↓reduceIte, Nat.reduceEqDiff, someK_n, effK_n, retK, gK_do, gK_do', gK_skip, gK_skip', gK_none, pick_mk, cond_true, cond_false, condK_tn, condK_fn, bin_eql, bin_neq, bin_lss, bin_leq, bin_gtr, bin_geq, un_not, Bool.not_true, Bool.not_false, bin_str, lenS_mk, nle_l, nle_r, nle_n, nlt_l, nlt_r, nlt_n, neq_r, neq_n, nne_r, nne_n, ext0, ext1, ext30, ext31, ext32, bin_add, bin_sub, decide_true, decide_false, k2, hT s hs, hT [] (by simp)]
   rfl
  | some ab =>
   obtain ⟨a, b⟩ := ab
   have hl := cutB_len 45 s a b hc
   rw [hc] at k2
   simp only [s_headers_Range, eb, e45, k1, cond_false, getK_set, ↓reduceIte, Nat.reduceEqDiff, someK_n, effK_n, retK, gK_do, gK_do', gK_skip, gK_skip', gK_none, pick_mk, cond_true, cond_false, condK_tn, condK_fn, bin_eql, bin_neq, bin_lss, bin_leq, bin_gtr, bin_geq, un_not, Bool.not_true, Bool.not_false, bin_str, lenS_mk, nle_l, nle_r, nle_n, nlt_l, nlt_r, nlt_n, neq_r, neq_n, nne_r, nne_n, ext0, ext1, ext30, ext31, ext32, bin_add, bin_sub, decide_true, decide_false, k2, hT a (by omega), hT b (by omega)]
   rfl
 | true =>
  rw [hb] at k1
  have hd : (s.drop 6).length ≤ s.length := by rw [List.length_drop]; omega
  have k2 := hC (s.drop 6) 45 (by omega)
  have e6 : s.drop bytesEq.length = s.drop 6 := rfl
  unfold partV at k2
  cases hc : cutB 45 (s.drop 6) with
  | none =>
   rw [hc] at k2
   simp only [s_headers_Range, eb, e45, k1, cond_true, getK_set, ↓reduceIte, Nat.reduceEqDiff, someK_n, effK_n, retK, gK_do, gK_do', gK_skip, gK_skip', gK_none, pick_mk, cond_true, cond_false, condK_tn, condK_fn, bin_eql, bin_neq, bin_lss, bin_leq, bin_gtr, bin_geq, un_not, Bool.not_true, Bool.not_false, bin_str, lenS_mk, nle_l, nle_r, nle_n, nlt_l, nlt_r, nlt_n, neq_r, neq_n, nne_r, nne_n, ext0, ext1, ext30, ext31, ext32, bin_add, bin_sub, decide_true, decide_false, e6, k2, hT (s.drop 6) (by omega), hT [] (by simp)]
   rfl
  | some ab =>
   obtain ⟨a, b⟩ := ab
   have hl := cutB_len 45 _ a b hc
   rw [hc] at k2
   have kA := hT a (by omega)
   have kB := hT b (by omega)
   simp only [cond_true]
   generalize toldB a = ta at kA ⊢
   generalize toldB b = tb at kB ⊢
   obtain ⟨fa, ba⟩ := ta
   obtain ⟨fb, bb⟩ := tb
   simp only at kA kB
   unfold rngAB
   have z1 : decide (fa < Int.ofNat 0) = decide (fa < 0) := rfl
   have z2 : decide (fb < Int.ofNat 0) = decide (fb < 0) := rfl
   have z3 : decide (Int.ofNat 0 ≤ fa) = decide (0 ≤ fa) := rfl
   have z4 : decide (Int.ofNat 0 ≤ fb) = decide (0 ≤ fb) := rfl
   have z5 : ∀ (q : V → Ans), binK .gtr (.int .i64 fa) (.int .i64 fb) q = q (.bool (decide (fb < fa))) := fun q => bin_gtr _ _ _ _
   have d3 : decide (0 ≤ fa) = !decide (fa < 0) := by by_cases h : fa < 0 <;> simp [h] <;> omega
   have d4 : decide (0 ≤ fb) = !decide (fb < 0) := by by_cases h : fb < 0 <;> simp [h] <;> omega
   rw [d3] at z3
   rw [d4] at z4
   rw [d3, d4]
   simp only [s_headers_Range, eb, e45, k1, cond_true, getK_set, ↓reduceIte, Nat.reduceEqDiff, someK_n, effK_n, retK, gK_do, gK_do', gK_skip, gK_skip', gK_none, pick_mk, cond_true, cond_false, condK_tn, condK_fn, bin_eql, bin_neq, bin_lss, bin_leq, bin_gtr, bin_geq, un_not, Bool.not_true, Bool.not_false, bin_str, lenS_mk, nle_l, nle_r, nle_n, nlt_l, nlt_r, nlt_n, neq_r, neq_n, nne_r, nne_n, ext0, ext1, ext30, ext31, ext32, bin_add, bin_sub, decide_true, decide_false, e6, k2, kA, kB]
   cases ba <;> cases bb <;> simp only [getK_set, ↓reduceIte, Nat.reduceEqDiff, someK_n, effK_n, retK, gK_do, gK_do', gK_skip, gK_skip', gK_none, pick_mk, cond_true, cond_false, condK_tn, condK_fn, bin_eql, bin_neq, bin_lss, bin_leq, bin_gtr, bin_geq, un_not, Bool.not_true, Bool.not_false, bin_str, lenS_mk, nle_l, nle_r, nle_n, nlt_l, nlt_r, nlt_n, neq_r, neq_n, nne_r, nne_n, ext0, ext1, ext30, ext31, ext32, bin_add, bin_sub, decide_true, decide_false] <;> cases d1 : decide (fa < 0) <;> cases d2 : decide (fb < 0) <;> cases d5 : decide (fb < fa) <;>
    (simp only [getK_set, ↓reduceIte, Nat.reduceEqDiff, someK_n, effK_n, retK, gK_do, gK_do', gK_skip, gK_skip', gK_none, pick_mk, cond_true, cond_false, condK_tn, condK_fn, bin_eql, bin_neq, bin_lss, bin_leq, bin_gtr, bin_geq, un_not, Bool.not_true, Bool.not_false, bin_str, lenS_mk, nle_l, nle_r, nle_n, nlt_l, nlt_r, nlt_n, neq_r, neq_n, nne_r, nne_n, ext0, ext1, ext30, ext31, ext32, bin_add, bin_sub, decide_true, decide_false, z1, z2, z3, z4, z5, d1, d2, d5]; rfl)
abbrev RngR := RS 9223372036854775806 rngV
theorem rngV_vok (s : Bs) (H : Heap) : VOk H (rngV s) := ⟨trivial, trivial, trivial, trivial⟩
noncomputable abbrev rw_HRange : List Row := [Row.fn f_headers_Range fn_headers_Range e_headers_Range, Row.fn f_strings_CutPrefix fn_strings_CutPrefix e_strings_CutPrefix, Row.fn f_stringslite_CutPrefix fn_stringslite_CutPrefix e_stringslite_CutPrefix, Row.fn f_stringslite_HasPrefix fn_stringslite_HasPrefix e_stringslite_HasPrefix, Row.fn f_headers_told fn_headers_told e_headers_told, Row.prim f_strings_Cut (outP CutR), Row.prim f_infra_Int (outP IntR)]
theorem p_headers_Range : ∀ base w0, PrimOk PG base w0 f_headers_Range (outP RngR) := by
 obtain ⟨N, hN⟩ := someN
 refine primRV (N := N) (l := rw_HRange) (.fn ok_headers_Range e_headers_Range_ok (.fn ok_strings_CutPrefix e_strings_CutPrefix_ok (.fn ok_stringslite_CutPrefix e_stringslite_CutPrefix_ok (.fn ok_stringslite_HasPrefix e_stringslite_HasPrefix_ok (.fn ok_headers_told e_headers_told_ok (.prim p_strings_Cut (.prim p_infra_Int (.nil _)))))))) 4 _ (fun vs H h => ?_) (fun vs h H hw τ => ?_)
 ·unfold strP at h; split at h
  ·exact rngV_vok _ _
  ·exact h.elim
 ·unfold strP at h; split at h
  ·exact ⟨H, τ, Gr.refl hw, fun q => s_headers_Range_gen (CR rw_HRange N 3) N (fun s p H τ q => s_strings_CutPrefix_ret (CR rw_HRange N 2) N (fun s p H τ q => s_stringslite_CutPrefix_ret (CR rw_HRange N 1) N (fun s p H τ q => s_stringslite_HasPrefix_ret (CR rw_HRange N 0) N s p H τ q) s p H τ q) s p H τ q) (k_strings_Cut fun _ _ _ _ => rfl) (fun s hs H τ q => s_headers_told_gen (CR rw_HRange N 2) N (k_infra_Int fun _ _ _ _ => rfl) s hs H τ q) _ h H τ q⟩
  ·exact h.elim
theorem s_ref5_Range_ret (c : CallK) (N : Nat) (hB : BegOk c f_ref1_Begins) (hP : PartOk c) (hI : RIntOk c) (s : Bs) (hs : s.length ≤ 9223372036854775806) (H : Heap) (τ : Tape) (q : KV) : s_ref5_Range c N (.str s) H τ q = q (rngV s) H τ := by
 have k1 := fun H τ q => hB s bytesEq H τ q
 have eb : bs [98, 121, 116, 101, 115, 61] = bytesEq := rfl
 unfold rngV rng
 cases hb : begB s bytesEq with
 | false =>
  rw [hb] at k1
  simp only [s_ref5_Range, eb, k1, getK_set, ↓reduceIte, Nat.reduceEqDiff, someK_n, effK_n, retK, gK_do, gK_do', gK_skip, gK_skip', gK_none, pick_mk, cond_true, cond_false, condK_tn, condK_fn, bin_eql, bin_neq, bin_lss, bin_leq, bin_gtr, bin_geq, un_not, Bool.not_true, Bool.not_false, bin_str, lenS_mk, nle_l, nle_r, nle_n, nlt_l, nlt_r, nlt_n, neq_r, neq_n, nne_r, nne_n, ext0, ext1, ext30, ext31, ext32, bin_add, bin_sub, decide_true, decide_false]
  rfl
 | true =>
  rw [hb] at k1
  have hlen := begB_len hb
  have e6 : pStrSlice true false [.str s, .int .i64 (Int.ofNat 6)] = some (.str (s.drop 6)) := strSlice_lo (i := 6) hlen
  have hd : (s.drop 6).length ≤ s.length := by rw [List.length_drop]; omega
  have k2 := hP (s.drop 6) 45 (by omega) (by omega)
  have e45 : UInt8.ofNat 45 = 45 := rfl
  rw [e45] at k2
  unfold partV at k2
  cases hc : cutB 45 (s.drop 6) with
  | none =>
   rw [hc] at k2
   simp only [s_ref5_Range, eb, k1, getK_set, ↓reduceIte, Nat.reduceEqDiff, someK_n, effK_n, retK, gK_do, gK_do', gK_skip, gK_skip', gK_none, pick_mk, cond_true, cond_false, condK_tn, condK_fn, bin_eql, bin_neq, bin_lss, bin_leq, bin_gtr, bin_geq, un_not, Bool.not_true, Bool.not_false, bin_str, lenS_mk, nle_l, nle_r, nle_n, nlt_l, nlt_r, nlt_n, neq_r, neq_n, nne_r, nne_n, ext0, ext1, ext30, ext31, ext32, bin_add, bin_sub, decide_true, decide_false, e6, k2]
   rfl
  | some ab =>
   obtain ⟨a, b⟩ := ab
   have hl := cutB_len 45 _ a b hc
   rw [hc] at k2
   have kA := hI a (by omega)
   have kB := hI b (by omega)
   have nA := intB_nonneg a
   have nB := intB_nonneg b
   have m1 : (Int.negSucc 0 : Int) = -1 := rfl
   simp only [cond_true]
   unfold rngAB toldB
   unfold intV at kA kB
   by_cases ha : a = []
   ·by_cases hb0 : b = []
    ·subst ha; subst hb0
     have e : (([] : Bs) == []) = true := rfl
     simp only [s_ref5_Range, eb, k1, getK_set, ↓reduceIte, Nat.reduceEqDiff, someK_n, effK_n, retK, gK_do, gK_do', gK_skip, gK_skip', gK_none, pick_mk, cond_true, cond_false, condK_tn, condK_fn, bin_eql, bin_neq, bin_lss, bin_leq, bin_gtr, bin_geq, un_not, Bool.not_true, Bool.not_false, bin_str, lenS_mk, nle_l, nle_r, nle_n, nlt_l, nlt_r, nlt_n, neq_r, neq_n, nne_r, nne_n, ext0, ext1, ext30, ext31, ext32, bin_add, bin_sub, decide_true, decide_false, e6, k2, str_eql, str_neq, e, if_true]
     rfl
    ·subst ha
     have e : (([] : Bs) == []) = true := rfl
     have e' : (b == ([] : Bs)) = false := beq_eq_false_iff_ne.2 hb0
     have en : (([] : Bs) != []) = false := rfl
     have en' : (b != ([] : Bs)) = true := by rw [bne, e']; rfl
     rw [if_pos rfl, if_neg hb0]
     generalize intB b = tb at kB nB ⊢
     obtain ⟨fb, bb⟩ := tb
     simp only at kB nB
     have z1 : decide (Int.ofNat 0 ≤ Int.negSucc 0) = false := rfl
     have d2 : decide (fb < 0) = false := decide_eq_false (by omega)
     have x1 : decide ((-1 : Int) < 0) = true := rfl
     have x2 : decide ((0 : Int) ≤ -1) = false := rfl
     cases bb <;> (simp only [s_ref5_Range, eb, k1, getK_set, ↓reduceIte, Nat.reduceEqDiff, someK_n, effK_n, retK, gK_do, gK_do', gK_skip, gK_skip', gK_none, pick_mk, cond_true, cond_false, condK_tn, condK_fn, bin_eql, bin_neq, bin_lss, bin_leq, bin_gtr, bin_geq, un_not, Bool.not_true, Bool.not_false, bin_str, lenS_mk, nle_l, nle_r, nle_n, nlt_l, nlt_r, nlt_n, neq_r, neq_n, nne_r, nne_n, ext0, ext1, ext30, ext31, ext32, bin_add, bin_sub, decide_true, decide_false, e6, k2, str_eql, str_neq, e, e', en, en', s_ref5_Range_j0, s_ref5_Range_j1, kB, z1, d2, x1, x2]; rfl)
   ·have e : (a == ([] : Bs)) = false := beq_eq_false_iff_ne.2 ha
    have en : (a != ([] : Bs)) = true := by rw [bne, e]; rfl
    rw [if_neg ha]
    generalize intB a = ta at kA nA ⊢
    obtain ⟨fa, ba⟩ := ta
    simp only at kA nA
    have z1 : decide (Int.ofNat 0 ≤ fa) = true := decide_eq_true nA
    have d1 : decide (fa < 0) = false := decide_eq_false (by omega)
    have d1' : decide (0 ≤ fa) = true := z1
    by_cases hb0 : b = []
    ·subst hb0
     have en' : (([] : Bs) != []) = false := rfl
     have z2 : decide (Int.ofNat 0 ≤ Int.negSucc 0) = false := rfl
     have x2 : decide ((0 : Int) ≤ -1) = false := rfl
     rw [if_pos rfl]
     cases ba <;> (simp only [s_ref5_Range, eb, k1, getK_set, ↓reduceIte, Nat.reduceEqDiff, someK_n, effK_n, retK, gK_do, gK_do', gK_skip, gK_skip', gK_none, pick_mk, cond_true, cond_false, condK_tn, condK_fn, bin_eql, bin_neq, bin_lss, bin_leq, bin_gtr, bin_geq, un_not, Bool.not_true, Bool.not_false, bin_str, lenS_mk, nle_l, nle_r, nle_n, nlt_l, nlt_r, nlt_n, neq_r, neq_n, nne_r, nne_n, ext0, ext1, ext30, ext31, ext32, bin_add, bin_sub, decide_true, decide_false, e6, k2, str_eql, str_neq, e, en, en', s_ref5_Range_j0, s_ref5_Range_j1, kA, z1, z2, d1, d1', x2]; rfl)
    ·have e' : (b == ([] : Bs)) = false := beq_eq_false_iff_ne.2 hb0
     have en' : (b != ([] : Bs)) = true := by rw [bne, e']; rfl
     rw [if_neg hb0]
     generalize intB b = tb at kB nB ⊢
     obtain ⟨fb, bb⟩ := tb
     simp only at kB nB
     have z2 : decide (Int.ofNat 0 ≤ fb) = true := decide_eq_true nB
     have d2' : decide (0 ≤ fb) = true := z2
     have z5 : ∀ (q : V → Ans), binK .gtr (.int .i64 fa) (.int .i64 fb) q = q (.bool (decide (fb < fa))) := fun q => bin_gtr _ _ _ _
     cases ba <;> cases bb <;> cases d5 : decide (fb < fa) <;> (simp only [s_ref5_Range, eb, k1, getK_set, ↓reduceIte, Nat.reduceEqDiff, someK_n, effK_n, retK, gK_do, gK_do', gK_skip, gK_skip', gK_none, pick_mk, cond_true, cond_false, condK_tn, condK_fn, bin_eql, bin_neq, bin_lss, bin_leq, bin_gtr, bin_geq, un_not, Bool.not_true, Bool.not_false, bin_str, lenS_mk, nle_l, nle_r, nle_n, nlt_l, nlt_r, nlt_n, neq_r, neq_n, nne_r, nne_n, ext0, ext1, ext30, ext31, ext32, bin_add, bin_sub, decide_true, decide_false, e6, k2, str_eql, str_neq, e, e', en, en', s_ref5_Range_j0, s_ref5_Range_j1, kA, kB, z1, z2, z5, d1, d1', d2', d5]; rfl)
noncomputable abbrev rw_RRange : List Row := [Row.fn f_ref5_Range fn_ref5_Range e_ref5_Range, Row.fn f_ref1_Begins fn_ref1_Begins e_ref1_Begins, Row.prim f_ref1_Part (outP PartR), Row.prim f_ref1_Int (outP IntR)]
theorem p_ref5_Range : ∀ base w0, PrimOk PG base w0 f_ref5_Range (outP RngR) := by
 obtain ⟨N, hN⟩ := someN
 refine primRV (N := N) (l := rw_RRange) (.fn ok_ref5_Range e_ref5_Range_ok (.fn ok_ref1_Begins e_ref1_Begins_ok (.prim p_ref1_Part (.prim p_ref1_Int (.nil _))))) 2 _ (fun vs H h => ?_) (fun vs h H hw τ => ?_)
 ·unfold strP at h; split at h
  ·exact rngV_vok _ _
  ·exact h.elim
 ·unfold strP at h; split at h
  ·exact ⟨H, τ, Gr.refl hw, fun q => s_ref5_Range_ret (CR rw_RRange N 1) N (fun s p H τ q => s_ref1_Begins_ret (CR rw_RRange N 0) N s p H τ q) (k_ref1_Part fun _ _ _ _ => rfl) (k_ref1_Int fun _ _ _ _ => rfl) _ h H τ q⟩
  ·exact h.elim
abbrev RngOk (c : CallK) (f : Nat) : Prop := ∀ (s : Bs), s.length ≤ 9223372036854775806 → ∀ H τ q, c f [.str s] H τ q = q (rngV s) H τ
theorem k_Range {c : CallK} {f : Nat} (h : IsP c f RngR) : RngOk c f := fun s hs H τ q => callS h s hs H τ q
abbrev NLowOk (c : CallK) : Prop := ∀ (s : Bs), s.length ≤ 140737488355328 → ∀ H τ q, c f_infra_Lower [.str s] H τ q = q (.str (lower s)) H τ
theorem k_infra_Lower {c : CallK} (h : IsP c f_infra_Lower LowR) : NLowOk c := fun s hs H τ q => callS h s hs H τ q
end Go.Am.X

