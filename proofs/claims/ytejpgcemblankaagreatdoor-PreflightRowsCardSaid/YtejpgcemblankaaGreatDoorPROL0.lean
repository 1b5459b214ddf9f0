/- The abstract machine, printed functions of the program, and what they are shown to be. -/
import Derived.Deep.Strs
import Derived.ChangeSlices
import Derived.Test.YtejpgcemblankaaGreatDoorPROM3
import Derived.Test.YtejpgcemblankaaGreatDoorPROM4
import Derived.Test.YtejpgcemblankaaGreatDoorPROSh1
import Derived.Test.YtejpgcemblankaaGreatDoorPROOk
import Derived.Test.YtejpgcemblankaaGreatDoorPROM5
set_option linter.unusedSimpArgs false
set_option linter.unusedVariables false
set_option linter.unusedSectionVars false
set_option maxRecDepth 100000
namespace Go.Am
open Go Go.ChangeShapes Go.WideShapes Go.RowKit
end Go.Am

namespace Go.Am
open Go Go.ChangeShapes Go.WideShapes Go.RowKit
end Go.Am

namespace Go.Am.X
abbrev Bs := List UInt8
end Go.Am.X

namespace Go.Am.X
end Go.Am.X

namespace Go.Am.X
abbrev PKey := Bs × Bs × Bool × Bool × Bs
abbrev PRow := PKey × Int
def pkC (k : PKey) : List V := [.str k.1, .str k.2.1, .bool k.2.2.1, .bool k.2.2.2.1, .str k.2.2.2.2]
def prC (x : PRow) : List V := [.str x.1.1, .str x.1.2.1, .bool x.1.2.2.1, .bool x.1.2.2.2.1, .str x.1.2.2.2.2, .int .i64 x.2]
theorem prOk : Cells prC 6 := ⟨fun _ => rfl, fun _ => rfl, by decide⟩
end Go.Am.X

namespace Go.Am.X
theorem l_slices_IndexFunc_preflight_row (c : CallK) (N : Nat) (f : PRow → Bool) (fv : V) {P : Nat → Prop} {H0 : Heap} (hw0 : WF H0) (hs : List PRow) (hl : hs.length ≤ 1000000) (v : V) (hr : Rd H0 6 v hs.length (hs.flatMap prC)) (hf : TstP c fv prC f P H0 hs) (hP : NewIn P H0) :
  ∀ (l pre : List PRow) (H : Heap) (τ : Tape) (m : Nat), hs = pre ++ l → l.length < m → Gr H0.size H0 H →
  ∃ H' τ', Gr H.size H H' ∧ ∀ (fr : T V) q, fr.get 0 = some v → fr.get 1 = some fv → fr.get 7 = some (.int .i64 (hs.length : Int)) → fr.get 8 = some (.int .i64 (pre.length : Int)) →
   loopK (s_slices_IndexFunc_preflight_row_l1 c N) m ⟨fr, H⟩ τ (blockK 0 (seqK (s_slices_IndexFunc_preflight_row_j0 c N q) (endK [(.t 4)] q))) = q (.int .i64 (findP f l pre.length)) H' τ' := by
 intro l
 induction l with
 | nil =>
  intro pre H τ m he hm hg
  obtain ⟨m, rfl⟩ : ∃ j, m = j + 1 := ⟨m - 1, by omega⟩
  refine ⟨H, τ, Gr.refl hg.wf, fun fr q f0 f1 f7 f8 => ?_⟩
  have e1 : decide ((pre.length : Int) < (hs.length : Int)) = false := decide_eq_false (by rw [he]; simp)
  rw [loopK_succ]
  simp only [s_slices_IndexFunc_preflight_row_l1, getK_mk f0, getK_mk f1, getK_mk f7, getK_mk f8, bin_lss, e1, condK_fn]
  rfl
 | cons h l ih =>
  intro pre H τ m he hm hg
  obtain ⟨m, rfl⟩ : ∃ j, m = j + 1 := ⟨m - 1, by omega⟩
  have hlt : pre.length < hs.length := by rw [he]; simp
  have e1 : decide ((pre.length : Int) < (hs.length : Int)) = true := decide_eq_true (by omega)
  have e3 : wr .i64 ((pre.length : Int) + Int.ofNat 1) = ((pre ++ [h]).length : Int) := by
   rw [wr_id (by simp; omega) (by simp; omega)]; simp
  have hrH := hr.gr hg hw0 (Nat.le_refl _)
  obtain ⟨id, o, p1, p2⟩ := Cells.at prOk (v := v) pre h l (H := H) (by rw [← he]; exact hrH)
  obtain ⟨q1, _⟩ := p2 H (by rw [← he]; exact hrH)
  obtain ⟨H1, τ1, g1, kv⟩ := hf h (by rw [he]; simp) H (hg.chg (P := P)) τ
  have hg1 := hg.trans g1 hg.size
  by_cases hn : f h = true
  ·refine ⟨H1, τ1, g1, fun fr q f0 f1 f7 f8 => ?_⟩
   rw [loopK_succ, findP, hn, cond_true]
   simp only [s_slices_IndexFunc_preflight_row_l1, getK_mk f0, getK_mk f1, getK_mk f7, getK_mk f8, bin_lss, e1, condK_tn, p1, q1, someK_n, kv, hn]
   rfl
  ·have hn' : f h = false := by simpa using hn
   obtain ⟨H2, τ2, g2, k2⟩ := ih (pre ++ [h]) H1 τ1 m (by rw [he]; simp) (by simp at hm; omega) hg1
   refine ⟨H2, τ2, g1.trans g2 g1.size, fun fr q f0 f1 f7 f8 => ?_⟩
   rw [loopK_succ, findP, hn', cond_false]
   simp only [s_slices_IndexFunc_preflight_row_l1, getK_mk f0, getK_mk f1, getK_mk f7, getK_mk f8, bin_lss, e1, condK_tn, p1, q1, someK_n, kv, hn', condK_fn, bin_add, e3]
   rw [show pre.length + 1 = (pre ++ [h]).length by simp]
   exact k2 _ q (by simp [T.get_set]) (by simp [T.get_set]) (by simp [T.get_set]) (by simp [T.get_set])
theorem s_slices_IndexFunc_preflight_row_ret (c : CallK) {N : Nat} (hN : 9223372036854775807 ≤ N) (f : PRow → Bool) (fv : V) {P : Nat → Prop} {H : Heap} (hw : WF H) (hs : List PRow) (hl : hs.length ≤ 1000000) (v : V) (hr : Rd H 6 v hs.length (hs.flatMap prC)) (hf : TstP c fv prC f P H hs) (hP : NewIn P H) (τ : Tape) :
  ∃ H' τ', Gr H.size H H' ∧ ∀ q, s_slices_IndexFunc_preflight_row c N v fv H τ q = q (.int .i64 (findP f hs 0)) H' τ' := by
 obtain ⟨H', τ', g', k⟩ := l_slices_IndexFunc_preflight_row c N f fv hw hs hl v hr hf hP hs [] H τ N rfl (by omega) (Gr.refl hw)
 refine ⟨H', τ', g', fun q => ?_⟩
 simp only [s_slices_IndexFunc_preflight_row, hr.pLen, someK_n]
 exact k _ q (by simp [T.get_set]) (by simp [T.get_set]) (by simp [T.get_set]) (by simp [T.get_set])
abbrev Idx_preflight_row (c c' : CallK) : Prop := ∀ (f : PRow → Bool) (fv : V) {P : Nat → Prop} {H : Heap}, WF H → ∀ (hs : List PRow), hs.length ≤ 1000000 → ∀ v, Rd H 6 v hs.length (hs.flatMap prC) → TstP c' fv prC f P H hs → NewIn P H → ∀ τ, ∃ H' τ', Gr H.size H H' ∧ ∀ q, c f_slices_IndexFunc_preflight_row [v, fv] H τ q = q (.int .i64 (findP f hs 0)) H' τ'
theorem s_slices_ContainsFunc_preflight_row_ret (c c' : CallK) (N : Nat) (hI : Idx_preflight_row c c') (f : PRow → Bool) (fv : V) {P : Nat → Prop} {H : Heap} (hw : WF H) (hs : List PRow) (hl : hs.length ≤ 1000000) (v : V) (hr : Rd H 6 v hs.length (hs.flatMap prC)) (hf : TstP c' fv prC f P H hs) (hP : NewIn P H) (τ : Tape) :
  ∃ H' τ', Gr H.size H H' ∧ ∀ q, s_slices_ContainsFunc_preflight_row c N v fv H τ q = q (.bool (hs.any f)) H' τ' := by
 obtain ⟨H', τ', g', k⟩ := hI f fv hw hs hl v hr hf hP τ
 refine ⟨H', τ', g', fun q => ?_⟩
 simp only [s_slices_ContainsFunc_preflight_row, k, bin_geq, findP_has]
theorem l_slices_DeleteFunc_preflight_row (c : CallK) (N : Nat) (f : PRow → Bool) (fv : V) {P : Nat → Prop} {H0 : Heap} (hw0 : WF H0) (hP : NewIn P H0) (v : V) (n : Nat) (hn : n ≤ 1000000) (hs : List PRow) (hf : TstP c fv prC f P H0 hs) :
  ∀ (rest out mid : List PRow) (H : Heap) (τ : Tape) (m : Nat), (out ++ mid ++ rest).length = n → mid ≠ [] → (∀ x ∈ rest, x ∈ hs) → rest.length < m → Chg P H0 H → GenE P H prC 6 v (out ++ mid ++ rest) →
  ∃ H' τ' mid', mid' ≠ [] ∧ GenE P H' prC 6 v (out ++ rest.filter (fun x => !f x) ++ mid') ∧ Chg P H0 H' ∧
   ∀ (fr : T V) k, fr.get 0 = some v → fr.get 1 = some fv → fr.get 5 = some (.int .i64 (out.length : Int)) → fr.get 6 = some (.int .i64 ((out ++ mid).length : Int)) →
    loopK (s_slices_DeleteFunc_preflight_row_l1 c N) m ⟨fr, H⟩ τ k = k (.exit 0) ⟨(T.set (T.set .leaf 0 v) 5 (.int .i64 ((out ++ rest.filter (fun x => !f x)).length : Int))), H'⟩ τ' := by
 intro rest
 induction rest with
 | nil =>
  intro out mid H τ m hL hmid hsub hm hg ho
  obtain ⟨m, rfl⟩ : ∃ j, m = j + 1 := ⟨m - 1, by omega⟩
  refine ⟨H, τ, mid, hmid, by simpa using ho, hg, fun fr k f0 f1 f5 f6 => ?_⟩
  have e1 : decide (((out ++ mid).length : Int) < (((out ++ mid).length : Nat) : Int)) = false := decide_eq_false (by omega)
  have pl : pLen [v] = some (.int .i64 (((out ++ mid).length : Nat) : Int)) := by have := GenL.pLen ho; rwa [List.append_nil] at this
  rw [loopK_succ]
  simp only [s_slices_DeleteFunc_preflight_row_l1, getK_mk f0, getK_mk f1, getK_mk f5, getK_mk f6, pl, someK_n, bin_lss, e1, condK_fn, seqK, List.filter_nil, List.append_nil]
 | cons x rest ih =>
  intro out mid H τ m hL hmid hsub hm hg ho
  obtain ⟨m, rfl⟩ : ∃ j, m = j + 1 := ⟨m - 1, by omega⟩
  have hw := hg.wf
  have hlt : (out ++ mid).length < (out ++ mid ++ x :: rest).length := by simp
  have e1 : decide (((out ++ mid).length : Int) < (((out ++ mid ++ x :: rest).length : Nat) : Int)) = true := decide_eq_true (by omega)
  have e3 : wr .i64 (((out ++ mid).length : Int) + Int.ofNat 1) = (((out ++ mid).length + 1 : Nat) : Int) := adI (by omega)
  obtain ⟨id, o, p1, p2⟩ := Cells.at prOk (v := v) (out ++ mid) x rest (GenL.rd ho)
  obtain ⟨q1, _⟩ := p2 H (GenL.rd ho)
  obtain ⟨H1, H2, a1, s1, b2, g2, lt2⟩ := boxN hw 6 [(.str []), (.str []), (.bool false), (.bool false), (.str []), (.int .i64 (.ofNat 0))] (prC x) rfl (Cells.len prOk x) (by omega) (Cells.scal prOk x) τ
  have l1 : lLoadN 6 [.ptr H.size 0] H2 = some (.agg (prC x)) := load_cells b2.cells (by rw [Cells.len prOk x]; omega) |>.trans (by rw [List.drop_zero, List.take_of_length_le (by rw [Cells.len prOk x]; exact Nat.le_refl _)])
  have hg2 : Chg P H0 H2 := hg.trans g2.chg fun _ _ h => h
  obtain ⟨H3, τ3, g3, kv⟩ := hf x (hsub x (by simp)) H2 hg2 τ
  have g13 : Gr H.size H H3 := g2.trans g3 g2.size
  have hg3 : Chg P H0 H3 := hg.trans g13.chg fun _ _ h => h
  have ho3 : GenE P H3 prC 6 v (out ++ mid ++ x :: rest) := GenL.gr ho hw g13
  have l3 : lLoadN 6 [.ptr H.size 0] H3 = some (.agg (prC x)) := load_cells (b2.gr g3 lt2).cells (by rw [Cells.len prOk x]; omega) |>.trans (by rw [List.drop_zero, List.take_of_length_le (by rw [Cells.len prOk x]; exact Nat.le_refl _)])
  by_cases hnm : f x = true
  ·have ed : (x :: rest).filter (fun x => !f x) = rest.filter (fun x => !f x) := by rw [List.filter_cons, hnm]; rfl
   rw [ed]
   obtain ⟨H4, τ4, mid', q1', q2', q3', q4'⟩ := ih out (mid ++ [x]) H3 τ3 m (by rw [← hL]; simp) (by simp) (fun y hy => hsub y (by simp [hy])) (by simp at hm; omega) hg3 (by simpa using ho3)
   refine ⟨H4, τ4, mid', q1', q2', q3', fun fr k f0 f1 f5 f6 => ?_⟩
   rw [loopK_succ]
   simp only [s_slices_DeleteFunc_preflight_row_l1, getK_mk f0, getK_mk f1, getK_mk f5, getK_mk f6, GenL.pLen ho, someK_n, bin_lss, e1, condK_tn, p1, q1, a1, effK_n, s1, l1, kv, hnm, un_not, Bool.not_true, condK_fn, s_slices_DeleteFunc_preflight_row_j2, getK_set, ↓reduceIte, Nat.reduceEqDiff, bin_add, e3]
   exact q4' _ k (by simp [T.get_set]) (by simp [T.get_set]) (by simp [T.get_set]) (by simp [T.get_set]; omega)
  ·have hnm' : f x = false := by simpa using hnm
   have ed : (x :: rest).filter (fun x => !f x) = x :: rest.filter (fun x => !f x) := by rw [List.filter_cons, hnm']; rfl
   rw [ed]
   obtain ⟨y, mid1, rfl⟩ := List.exists_cons_of_ne_nil hmid
   rw [show out ++ (y :: mid1) ++ x :: rest = out ++ y :: (mid1 ++ x :: rest) by simp] at ho3
   obtain ⟨p, H4, w1, w2, w3, w4⟩ := GenE.set prOk ho3 g13.wf x τ3
   have w2' := w2 6 rfl
   have e4 : wr .i64 ((out.length : Int) + Int.ofNat 1) = ((out ++ [x]).length : Int) := by
    rw [adI (by have := hL; simp at this; omega)]; simp
   obtain ⟨H5, τ5, mid', q1', q2', q3', q4'⟩ := ih (out ++ [x]) (mid1 ++ [x]) H4 τ3 m (by rw [← hL]; simp <;> omega) (by simp) (fun y hy => hsub y (by simp [hy])) (by simp at hm; omega) (hg3.trans w4 fun _ _ h => h) (by simpa using w3)
   refine ⟨H5, τ5, mid', q1', by simpa using q2', q3', fun fr k f0 f1 f5 f6 => ?_⟩
   rw [loopK_succ]
   simp only [s_slices_DeleteFunc_preflight_row_l1, getK_mk f0, getK_mk f1, getK_mk f5, getK_mk f6, GenL.pLen ho, someK_n, bin_lss, e1, condK_tn, p1, q1, a1, effK_n, s1, l1, kv, hnm', un_not, Bool.not_false, l3, w1, w2', bin_add, e4, s_slices_DeleteFunc_preflight_row_j2, getK_set, ↓reduceIte, Nat.reduceEqDiff, e3]
   rw [show out ++ [x] ++ rest.filter (fun x => !f x) = out ++ x :: rest.filter (fun x => !f x) by simp] at q4'
   exact q4' _ k (by simp [T.get_set]) (by simp [T.get_set]) (by simp [T.get_set]) (by simp [T.get_set]; omega)
theorem s_slices_DeleteFunc_preflight_row_ret (c c' : CallK) {N : Nat} (hN : 9223372036854775807 ≤ N) (hI : Idx_preflight_row c c') (f : PRow → Bool) (fv : V) {P : Nat → Prop} {H : Heap} (hw : WF H) (hs : List PRow) (hl : hs.length ≤ 1000000) (v : V) (hg : GenE P H prC 6 v hs) (hf' : TstP c' fv prC f P H hs) (hf : TstP c fv prC f P H hs) (hP : NewIn P H) (τ : Tape) :
  ∃ w H' τ', GenE P H' prC 6 w (hs.filter fun x => !f x) ∧ Chg P H H' ∧ ∀ q, s_slices_DeleteFunc_preflight_row c N v fv H τ q = q w H' τ' := by
 obtain ⟨H1, τ1, g1, k1⟩ := hI f fv hw hs hl v (GenL.rd hg) hf' hP τ
 have c1 : Chg P H H1 := g1.chg
 rcases findP_spec f hs 0 with ⟨h1, h2⟩ | ⟨a, h, r, h1, h2, h3, h4⟩
 ·rw [h1] at k1
  have e1 : ((-1 : Int) == Int.negSucc 0) = true := rfl
  have ed : (hs.filter fun x => !f x) = hs := List.filter_eq_self.2 fun x hx => by rw [h2 x hx]; rfl
  refine ⟨v, H1, τ1, by rw [ed]; exact GenL.gr hg hw g1, c1, fun q => ?_⟩
  simp only [s_slices_DeleteFunc_preflight_row, k1, bin_eql, e1, condK_tn]
 ·rw [h4, Nat.zero_add] at k1
  have hal : a.length < hs.length := by rw [h1]; simp
  have e1 : ((a.length : Int) == Int.negSucc 0) = false := by rw [beq_eq_false_iff_ne]; intro h; have : (0 : Int) ≤ (a.length : Int) := Int.natCast_nonneg _; rw [h] at this; exact absurd this (by decide)
  have e3 : wr .i64 ((a.length : Int) + Int.ofNat 1) = ((a ++ [h]).length : Int) := by rw [adI (by omega)]; simp
  have ho1 : GenE P H1 prC 6 v (a ++ [h] ++ r) := by
   rw [show a ++ [h] ++ r = hs by rw [h1]; simp]; exact GenL.gr hg hw g1
  obtain ⟨H2, τ2, mid, q1, q2, q3, q4⟩ := l_slices_DeleteFunc_preflight_row c N f fv hw hP v hs.length hl hs hf r a [h] H1 τ1 N (by rw [h1]; simp) (by simp) (fun x hx => by rw [h1]; simp [hx]) (by have : r.length < hs.length := (by rw [h1]; simp; omega); omega) c1 ho1
  have ed : (hs.filter fun x => !f x) = a ++ r.filter fun x => !f x := by
   rw [h1, List.filter_append, List.filter_cons, h3]
   have : (a.filter fun x => !f x) = a := List.filter_eq_self.2 fun x hx => by rw [h2 x hx]; rfl
   rw [this]; rfl
  rw [← ed] at q2 q4
  have hmid : 0 < mid.length := List.length_pos_iff.2 q1
  obtain ⟨w, H3, v', m1, m2, m3, m4, m5, m6⟩ := GenE.clear prOk q2 q3.wf (GenL.ne_nils q2 (by simp; omega)) [(.str []), (.str []), (.bool false), (.bool false), (.str []), (.int .i64 (.ofNat 0))] rfl rfl τ2
  refine ⟨v', H3, τ2, m5, q3.trans m6 fun _ _ h => h, fun q => ?_⟩
  simp only [s_slices_DeleteFunc_preflight_row, k1, bin_eql, e1, condK_fn, bin_add, e3]
  rw [q4 _ _ (by simp [T.get_set]) (by simp [T.get_set]) (by simp [T.get_set]) (by simp [T.get_set])]
  simp only [blockK, Nat.beq_refl, cond_true, seqK, s_slices_DeleteFunc_preflight_row_j0, getK_set, ↓reduceIte, Nat.reduceEqDiff, m1, someK_n, m2, effK_n, m3]
end Go.Am.X

namespace Go.Am.X
theorem pk_eq (a b : PKey) : pEq false (.flat [.str, .str, .bool, .bool, .str]) [.agg (pkC a), .agg (pkC b)] = some (.bool (decide (a = b))) := by
 obtain ⟨a1, a2, a3, a4, a5⟩ := a
 obtain ⟨b1, b2, b3, b4, b5⟩ := b
 have key : ∀ (x y : Bs), eqB x y = decide (x = y) := fun x y => by rw [eqB_eq, Bool.eq_iff_iff]; simp
 have kb : ∀ (x y : Bool), (x == y) = decide (x = y) := fun x y => by cases x <;> cases y <;> rfl
 by_cases h1 : a1 = b1
 ·by_cases h2 : a2 = b2
  ·by_cases h3 : a3 = b3
   ·by_cases h4 : a4 = b4
    ·by_cases h5 : a5 = b5
     ·simp [pEq, pkC, eqV, eqFlat, eqS, key, kb, h1, h2, h3, h4, h5]
     ·simp [pEq, pkC, eqV, eqFlat, eqS, key, kb, h1, h2, h3, h4, h5]
    ·simp [pEq, pkC, eqV, eqFlat, eqS, key, kb, h1, h2, h3, h4]
   ·simp [pEq, pkC, eqV, eqFlat, eqS, key, kb, h1, h2, h3]
  ·simp [pEq, pkC, eqV, eqFlat, eqS, key, kb, h1, h2]
 ·simp [pEq, pkC, eqV, eqFlat, eqS, key, kb, h1]
def mostP : Int := 9223372036854775807
def addP (a b : Int) : Int := if mostP - b < a then mostP else a + b
theorem s_age_Add_pos (c : CallK) (N : Nat) {a b : Int} (ha : 0 ≤ a) (ha' : a ≤ mostP) (hb : 0 < b) (hb' : b ≤ mostP) (H : Heap) (τ : Tape) (q : KV) : s_age_Add c N (.int .i64 a) (.int .i64 b) H τ q = q (.int .i64 (addP a b)) H τ := by
 unfold mostP at ha' hb'
 have e1 : decide (Int.ofNat 0 < b) = true := decide_eq_true hb
 have e2 : wr .i64 (Int.ofNat 9223372036854775807 - b) = mostP - b := by rw [wr_id (by simp <;> omega) (by simp <;> omega)]; rfl
 have e3 : decide (b < Int.ofNat 0) = false := decide_eq_false (by have : Int.ofNat 0 = 0 := rfl; omega)
 unfold addP
 by_cases h : mostP - b < a
 ·rw [if_pos h]
  simp only [s_age_Add, bin_gtr, e1, gK_do, retK, effK_n, bin_sub, e2, decide_eq_true h, pick_mk, cond_true, someK_n, condK_tn]
  rfl
 ·rw [if_neg h]
  unfold mostP at h
  have e4 : wr .i64 (a + b) = a + b := wr_id (by omega) (by omega)
  have e5 : pMax [.int .i64 (a + b), .int .i64 (.ofNat 0)] = some (.int .i64 (a + b)) := by
   show some (V.int .i64 (if a + b < Int.ofNat 0 then Int.ofNat 0 else a + b)) = _
   rw [if_neg (by have : Int.ofNat 0 = 0 := rfl; omega)]
  simp only [s_age_Add, bin_gtr, e1, gK_do, retK, effK_n, bin_sub, e2, decide_eq_false (show ¬ mostP - b < a by unfold mostP; omega), pick_mk, cond_true, someK_n, condK_fn, bin_lss, e3, gK_skip, gK_none, cond_false, bin_add, e4, e5]
theorem bx_gr1 {H H' : Heap} {id : Nat} {cs : List V} (h : Bx H id cs) (hw : WF H) (hg : Gr H.size H H') : Bx H' id cs := h.gr hg (h.lt hw)
theorem s_put_1_ret (c : CallK) (N : Nat) (x : PRow) (k : PKey) (b : Nat) (H : Heap) (hw : WF H) (hb : H.cells? b = some (pkC k)) (τ : Tape) :
  ∃ H' τ', Gr H.size H H' ∧ ∀ q, s_preflight_Table_put_1 c N (.agg (prC x)) (.ptr b 0) H τ q = q (.bool (decide (x.1 = k))) H' τ' := by
 have g1 := Gr.new hw (prC x) 6 true
 have c1 := cells_new H (prC x) 6 true
 have b1 := g1.cells hw (Nat.le_refl _) hb
 have a1 : eBox [.agg (prC x)] H τ = some (.ptr H.size 0, H.new (prC x) 6 true, τ) := rfl
 generalize H.new (prC x) 6 true = H1 at a1 g1 c1 b1
 have l1 : lLoadN 5 [.ptr H.size (0 + 0)] H1 = some (.agg (pkC x.1)) := load_cells c1 (by simp [prC])
 have l2 : lLoadN 5 [.ptr b 0] H1 = some (.agg (pkC k)) := load_cells b1 (by simp [pkC])
 exact ⟨H1, τ, g1, fun q => by simp only [s_preflight_Table_put_1, a1, effK_n, pFieldAddr, someK_n, l1, l2, pk_eq]⟩
def TabR (P : Nat → Prop) (H : Heap) (t : Nat) (rows : List PRow) : Prop := (∃ v, Bx H t [v] ∧ GenE P H prC 6 v rows) ∧ ¬ P t
abbrev Del_row (c c' c'' : CallK) : Prop := ∀ (f : PRow → Bool) (fv : V) {P : Nat → Prop} {H : Heap}, WF H → ∀ (hs : List PRow), hs.length ≤ 1000000 → ∀ v, GenE P H prC 6 v hs → TstP c' fv prC f P H hs → TstP c'' fv prC f P H hs → NewIn P H → ∀ τ, ∃ w H' τ', GenE P H' prC 6 w (hs.filter fun x => !f x) ∧ Chg P H H' ∧ ∀ q, c f_slices_DeleteFunc_preflight_row [v, fv] H τ q = q w H' τ'
abbrev Del0_row (c : CallK) : Prop := ∀ {P : Nat → Prop} {H : Heap} {v : V} {x : PRow} {l : List PRow}, GenE P H prC 6 v (x :: l) → WF H → 0 < l.length → l.length ≤ 1000000 → ∀ τ, ∃ v' H', GenE P H' prC 6 v' l ∧ Chg P H H' ∧ ∀ q, c f_slices_Delete_preflight_row [v, .int .i64 (.ofNat 0), .int .i64 (.ofNat 1)] H τ q = q v' H' τ
theorem s_slices_Delete_preflight_row_ret (c : CallK) (N : Nat) {P : Nat → Prop} {H : Heap} {v : V} {x : PRow} {l : List PRow} (hg : GenE P H prC 6 v (x :: l)) (hw : WF H) (hl : 0 < l.length) (hl' : l.length ≤ 1000000) (τ : Tape) :
  ∃ v' H', GenE P H' prC 6 v' l ∧ Chg P H H' ∧ ∀ q, s_slices_Delete_preflight_row c N v (.int .i64 (.ofNat 0)) (.int .i64 (.ofNat 1)) H τ q = q v' H' τ := by
 obtain ⟨a, w1, w2, v', H1, w3, H2, e1, e2, e3, e4, e5, e6, e7, e8, e9⟩ := GenE.delete0 prOk hg hw hl 64 [(.str []), (.str []), (.bool false), (.bool false), (.str []), (.int .i64 (.ofNat 0))] rfl rfl τ
 have pl : pLen [v] = some (.int .i64 ((l.length + 1 : Nat) : Int)) := GenL.pLen hg
 have e1' : pSlSlice 6 true true true [v, .int .i64 (.ofNat 0), .int .i64 (.ofNat 1), .int .i64 ((l.length + 1 : Nat) : Int)] = some a := e1
 have e2' : pSlSlice 6 false true false [v, .int .i64 (.ofNat 0)] = some w1 := e2
 have e3' : pSlSlice 6 true false false [v, .int .i64 (.ofNat 1)] = some w2 := e3
 have ne : (Int.ofNat 0 == Int.ofNat 1) = false := rfl
 exact ⟨v', H2, e8, e9, fun q => by simp only [s_slices_Delete_preflight_row, pl, someK_n, e1', bin_eql, ne, condK_fn, e2', e3', e4, effK_n, e5, e6, e7]⟩
def putP (k : PKey) (g now : Int) (rows : List PRow) : List PRow :=
 if g ≤ 0 then rows.filter fun x => !decide (x.1 = k)
 else if 32 < ((rows.filter fun x => !decide (x.1 = k)) ++ [(k, addP now g)]).length then ((rows.filter fun x => !decide (x.1 = k)) ++ [(k, addP now g)]).drop 1 else (rows.filter fun x => !decide (x.1 = k)) ++ [(k, addP now g)]
theorem same_gen {P : Nat → Prop} {H : Heap} {z : Nat} {v : V} {m : Nat} {cs : List V} (h : GenL P H z v m cs) : same v v = true := by
 rcases h with ⟨rfl, _⟩ | ⟨_, _, ex, _, rfl, _⟩
 ·rfl
 ·cases ex <;> simp [same, same1, same0]
theorem same_pk (k : PKey) : same (.agg (pkC k)) (.agg (pkC k)) = true := by
 obtain ⟨k1, k2, k3, k4, k5⟩ := k
 simp [same, sameL, same1, same0, pkC]
abbrev AddOkP (c : CallK) : Prop := ∀ {a b : Int}, 0 ≤ a → a ≤ mostP → 0 < b → b ≤ mostP → ∀ H τ q, c f_age_Add [.int .i64 a, .int .i64 b] H τ q = q (.int .i64 (addP a b)) H τ
abbrev Put1Ok (c : CallK) : Prop := ∀ (x : PRow) (k : PKey) (b : Nat) (H : Heap), WF H → H.cells? b = some (pkC k) → ∀ τ, ∃ H' τ', Gr H.size H H' ∧ ∀ q, c f_preflight_Table_put_1 [.agg (prC x), .ptr b 0] H τ q = q (.bool (decide (x.1 = k))) H' τ'
theorem s_preflight_Table_put_ret (c c' c'' : CallK) (N : Nat) (hD : Del_row c c' c'') (h1 : Put1Ok c') (h1' : Put1Ok c'') (hA : AddOkP c) (hD0 : Del0_row c) {P : Nat → Prop} {H : Heap} {t : Nat} {rows : List PRow} (ht : TabR P H t rows) (hw : WF H) (hP : NewIn P H) (hl : rows.length ≤ 32)
  (k : PKey) (m n : V) (hm : m.cells = [m] ∧ m.scal = true) (hn : n.cells = [n] ∧ n.scal = true) (all : Bool) {g now : Int} (hg' : g ≤ mostP) (h0 : 0 ≤ now) (h0' : now ≤ mostP) (τ : Tape) :
  ∃ H' τ', TabR P H' t (putP k g now rows) ∧ Chg (fun i => P i ∨ i = t) H H' ∧ ∀ q, s_preflight_Table_put c N (.ptr t 0) (.agg (pkC k)) (.agg [m, n, .bool all, .int .i64 g]) (.int .i64 now) H τ q = q (.tup []) H' τ' := by
 obtain ⟨⟨v, hb, hg⟩, hnt⟩ := ht
 have htl := hb.lt hw
 have e0 : eBox [.agg (pkC k)] H τ = some (.ptr H.size 0, H.new (pkC k) 5 true, τ) := rfl
 have g1 := Gr.new hw (pkC k) 5 true
 have b1 : Bx (H.new (pkC k) 5 true) H.size (pkC k) := Bx.new H (pkC k) 5 true (by simp [pkC])
 have z1 : (H.new (pkC k) 5 true).size = H.size + 1 := rfl
 generalize H.new (pkC k) 5 true = H1 at e0 g1 b1 z1
 have e2 : eBox [.agg [m, n, .bool all, .int .i64 g]] H1 τ = some (.ptr H1.size 0, H1.new [m, n, .bool all, .int .i64 g] 4 true, τ) := rfl
 have g2 := Gr.new g1.wf [m, n, .bool all, .int .i64 g] 4 true
 have b2 : Bx (H1.new [m, n, .bool all, .int .i64 g] 4 true) H1.size [m, n, .bool all, .int .i64 g] := Bx.new H1 _ 4 true (by simp)
 have z2 : (H1.new [m, n, .bool all, .int .i64 g] 4 true).size = H1.size + 1 := rfl
 generalize H1.new [m, n, .bool all, .int .i64 g] 4 true = H2 at e2 g2 b2 z2
 have g12 := g1.trans g2 g1.size
 have k2 : Bx H2 H.size (pkC k) := bx_gr1 b1 g1.wf g2
 have t2 : Bx H2 t [v] := bx_gr1 hb hw g12
 let P' : Nat → Prop := fun i => (i < H.size ∧ P i) ∨ H2.size ≤ i
 have hP' : NewIn P' H2 := fun i hi => .inr hi
 have hsub : ∀ i, P' i → P i := fun i h => h.elim (fun h => h.2) (fun h => hP i (by omega))
 have nk : ¬ P' H.size := fun h => h.elim (fun h => by omega) (fun h => by omega)
 have ng : ¬ P' H1.size := fun h => h.elim (fun h => by omega) (fun h => by omega)
 have nt : ¬ P' t := fun h => hnt (hsub t h)
 have hg2 : GenE P' H2 prC 6 v rows := GenL.gr (GenL.weaken hg hw (fun i hi h => .inl ⟨hi, h⟩)) hw g12
 have l2 : lLoad1 [.ptr t 0] H2 = some v := load_cell t2.cells rfl
 have tst : ∀ {c' : CallK}, Put1Ok c' → TstP c' (.func f_preflight_Table_put_1 [] [.ptr H.size 0]) prC (fun x => decide (x.1 = k)) P' H2 rows := fun h1 x hx Ha hc τa => by
  obtain ⟨Hb, τb, u1, u2⟩ := h1 x k H.size Ha hc.wf (k2.chg g2.wf hc nk).cells τa
  exact ⟨Hb, τb, u1, fun q => u2 q⟩
 obtain ⟨w, H3, τ3, d1, d2, d3⟩ := hD (fun x => decide (x.1 = k)) (.func f_preflight_Table_put_1 [] [.ptr H.size 0]) g2.wf rows (by omega) v hg2 (tst h1) (tst h1') hP' τ
 have t3 := t2.chg g2.wf d2 nt
 have k3 := k2.chg g2.wf d2 nk
 have b3 := b2.chg g2.wf d2 ng
 obtain ⟨H4, s1, s2, s3⟩ := t3.eStore d2.wf 0 w 1 (by rw [(GenL.scal d1).1]; rfl) (by simp) (by omega) (by rw [(GenL.scal d1).1]; simp [(GenL.scal d1).2]) τ3
 have s2' : Bx H4 t [w] := by rw [(GenL.scal d1).1] at s2; exact s2
 have k4 := k3.only s3 (show H.size ≠ t by omega)
 have b4 := b3.only s3 (show H1.size ≠ t by omega)
 have o4 : Chg (fun i => i = t) H3 H4 := s3.chg (P := fun i => i = t) rfl
 have d4 : GenE P' H4 prC 6 w (rows.filter fun x => !decide (x.1 = k)) := GenL.chg d1 d2.wf o4 (fun i _ h e => nt (e ▸ h))
 have c02 : Chg (fun i => P i ∨ i = t) H H2 := g12.chg
 have c04 : Chg (fun i => P i ∨ i = t) H H4 := (c02.trans d2 (fun i hi h => .inl (hsub i h))).trans o4 (fun i hi h => .inr h)
 have hsz : H2.size ≤ H4.size := by rw [s3.size]; exact d2.size
 have l4 : lLoad1 [.ptr H1.size (0 + 3)] H4 = some (.int .i64 g) := load_cell b4.cells rfl
 have lt4 : lLoad1 [.ptr t 0] H4 = some w := load_cell s2'.cells rfl
 have lk4 : lLoadN 5 [.ptr H.size 0] H4 = some (.agg (pkC k)) := load_cells k4.cells (by simp [pkC])
 have ef : V.func f_preflight_Table_put_1 (List.take 0 [V.ptr H.size 0]) (List.drop 0 [V.ptr H.size 0]) = .func f_preflight_Table_put_1 [] [.ptr H.size 0] := rfl
 have nck : ∀ i o, pNilck [.ptr i o] = some (.ptr i o) := fun _ _ => rfl
 have hfl : (rows.filter fun x => !decide (x.1 = k)).length ≤ 32 := Nat.le_trans (List.length_filter_le _ _) hl
 unfold putP
 by_cases hg0 : g ≤ 0
 ·rw [if_pos hg0]
  have eg : decide (g ≤ Int.ofNat 0) = true := decide_eq_true hg0
  refine ⟨H4, τ3, ⟨⟨w, s2', GenL.weaken d4 s3.wf (fun i _ h => hsub i h)⟩, hnt⟩, c04, fun q => ?_⟩
  simp only [s_preflight_Table_put, e0, effK_n, e2, nck, pFieldAddr, Nat.add_zero, someK_n, l2, ef, d3, s1, l4, bin_leq, eg, condK_tn]
 ·rw [if_neg hg0]
  have eg : decide (g ≤ Int.ofNat 0) = false := decide_eq_false hg0
  have ka := fun H τ q => hA h0 h0' (show 0 < g by omega) hg' H τ q
  generalize hu : addP now g = u at ka
  have pb : pBuild [(.str []), (.str []), (.bool false), (.bool false), (.str []), (.int .i64 (.ofNat 0))] [(0, 5), (5, 1)] [.agg (pkC k), .int .i64 u] = some (.agg (prC (k, u))) := rfl
  have bs : eBuildSlice 1 6 [(.str []), (.str []), (.bool false), (.bool false), (.str []), (.int .i64 (.ofNat 0))] [(0, 6)] [.agg (prC (k, u))] H4 τ3 = some (.sl H4.size 0 1 1 none 6, H4.new (prC (k, u)) 6 false, τ3) := rfl
  obtain ⟨w', H6, τ6, a1, a2, a3, a4⟩ := GenE.put prOk (bytes := 64) d4 s3.wf (fun i hi => hP' i (by omega)) (k, u) (by omega) (by omega) τ3 false
  have t6 := s2'.chg s3.wf a3 nt
  have k6 := k4.chg s3.wf a3 nk
  obtain ⟨H7, f1, f2, f3⟩ := t6.eStore a3.wf 0 w' 1 (by rw [(GenL.scal a2).1]; rfl) (by simp) (by omega) (by rw [(GenL.scal a2).1]; simp [(GenL.scal a2).2]) τ6
  have f2' : Bx H7 t [w'] := by rw [(GenL.scal a2).1] at f2; exact f2
  have o7 : Chg (fun i => i = t) H6 H7 := f3.chg (P := fun i => i = t) rfl
  have d7 : GenE P' H7 prC 6 w' ((rows.filter fun x => !decide (x.1 = k)) ++ [(k, u)]) := GenL.chg a2 a3.wf o7 (fun i _ h e => nt (e ▸ h))
  have c07 : Chg (fun i => P i ∨ i = t) H H7 := (c04.trans a3 (fun i hi h => .inl (hsub i h))).trans o7 (fun i hi h => .inr h)
  have lt7 : lLoad1 [.ptr t 0] H7 = some w' := load_cell f2'.cells rfl
  have gn := Gr.new s3.wf (prC (k, u)) 6 false
  have lt5 : lLoad1 [.ptr t 0] (H4.new (prC (k, u)) 6 false) = some w := load_cell (bx_gr1 s2' s3.wf gn).cells rfl
  have hc : chkLoads [H4, H4, H4.new (prC (k, u)) 6 false, H6, H7] (((.load (some 5)), [.ptr H.size 0], 0, 1) :: (((.load none), [.ptr t 0], 0, 2) :: [])) = true := by
   simp [chkLoads, evalL, lLoad, lk4, lt4, lt5, chk1, same_gen d4, same_pk]
  have pl7 := GenL.pLen d7
  by_cases h32 : 32 < ((rows.filter fun x => !decide (x.1 = k)) ++ [(k, u)]).length
  ·rw [if_pos h32]
   have e32 : decide (Int.ofNat 32 < ((((rows.filter fun x => !decide (x.1 = k)) ++ [(k, u)]).length : Nat) : Int)) = true := decide_eq_true (by have : Int.ofNat 32 = 32 := rfl; omega)
   obtain ⟨y, l, hyl⟩ := List.exists_cons_of_ne_nil (l := (rows.filter fun x => !decide (x.1 = k)) ++ [(k, u)]) (by simp)
   have hll : ((rows.filter fun x => !decide (x.1 = k)) ++ [(k, u)]).length = l.length + 1 := by rw [hyl]; rfl
   have hfl' : ((rows.filter fun x => !decide (x.1 = k)) ++ [(k, u)]).length ≤ 33 := by simp; omega
   rw [hyl] at d7
   obtain ⟨v8, H8, j1, j2, j3⟩ := hD0 d7 f3.wf (by omega) (by omega) τ6
   have t8 := f2'.chg f3.wf j2 nt
   obtain ⟨H9, m1, m2, m3⟩ := t8.eStore j2.wf 0 v8 1 (by rw [(GenL.scal j1).1]; rfl) (by simp) (by omega) (by rw [(GenL.scal j1).1]; simp [(GenL.scal j1).2]) τ6
   have m2' : Bx H9 t [v8] := by rw [(GenL.scal j1).1] at m2; exact m2
   have o9 : Chg (fun i => i = t) H8 H9 := m3.chg (P := fun i => i = t) rfl
   have d9 : GenE P' H9 prC 6 v8 l := GenL.chg j1 j2.wf o9 (fun i _ h e => nt (e ▸ h))
   refine ⟨H9, τ6, ⟨⟨v8, m2', ?_⟩, hnt⟩, (c07.trans j2 (fun i hi h => .inl (hsub i h))).trans o9 (fun i hi h => .inr h), fun q => ?_⟩
   ·rw [hyl, List.drop_succ_cons, List.drop_zero]
    exact GenL.weaken d9 m3.wf (fun i _ h => hsub i h)
   ·simp only [s_preflight_Table_put, e0, effK_n, e2, nck, pFieldAddr, Nat.add_zero, someK_n, l2, ef, d3, s1, l4, bin_leq, eg, condK_fn, lt4, lk4, ka, pb, bs, a1, f1, hc, cond_true, lt7, pl7, bin_gtr, e32, condK_tn, j3, m1]
  ·rw [if_neg h32]
   have e32 : decide (Int.ofNat 32 < ((((rows.filter fun x => !decide (x.1 = k)) ++ [(k, u)]).length : Nat) : Int)) = false := decide_eq_false (by have : Int.ofNat 32 = 32 := rfl; omega)
   refine ⟨H7, τ6, ⟨⟨w', f2', GenL.weaken d7 f3.wf (fun i _ h => hsub i h)⟩, hnt⟩, c07, fun q => ?_⟩
   simp only [s_preflight_Table_put, e0, effK_n, e2, nck, pFieldAddr, Nat.add_zero, someK_n, l2, ef, d3, s1, l4, bin_leq, eg, condK_fn, lt4, lk4, ka, pb, bs, a1, f1, hc, cond_true, lt7, pl7, bin_gtr, e32]
end Go.Am.X

namespace Go.Am.X
theorem s_preflight_New_ret (c : CallK) (N : Nat) (H : Heap) (hw : WF H) (τ : Tape) : ∃ H', TabR (fun i => H.size < i) H' H.size [] ∧ Gr H.size H H' ∧ H'.size = H.size + 1 ∧ ∀ q, s_preflight_New c N H τ q = q (.ptr H.size 0) H' τ := by
 have b1 : Bx (H.new [.nils] 1 true) H.size [.nils] := Bx.new H [.nils] 1 true (by simp)
 have pb : pBuild [.nils] [] [] = some (.agg [.nils]) := rfl
 have e0 : eBox [.agg [.nils]] H τ = some (.ptr H.size 0, H.new [.nils] 1 true, τ) := rfl
 exact ⟨H.new [.nils] 1 true, ⟨⟨.nils, b1, GenL.nil _ _ _⟩, Nat.lt_irrefl _⟩, Gr.new hw _ _ _, rfl, fun q => by simp only [s_preflight_New, pb, someK_n, e0, effK_n]⟩
theorem TabR.chg {P Q : Nat → Prop} {H H' : Heap} {t : Nat} {rows : List PRow} (h : TabR P H t rows) (hw : WF H) (hg : Chg Q H H') (hPQ : ∀ i, i < H.size → P i → ¬ Q i) (hq : ¬ Q t) : TabR P H' t rows := by
 obtain ⟨⟨v, h1, h2⟩, h3⟩ := h
 exact ⟨⟨v, h1.chg hw hg hq, GenL.chg h2 hw hg hPQ⟩, h3⟩
theorem TabR.gr {P : Nat → Prop} {H H' : Heap} {t : Nat} {rows : List PRow} (h : TabR P H t rows) (hw : WF H) (hg : Gr H.size H H') : TabR P H' t rows := h.chg hw (hg.chg (P := fun _ => False)) (fun _ _ _ h => h) (fun h => h)
theorem TabR.weaken {P Q : Nat → Prop} {H : Heap} {t : Nat} {rows : List PRow} (h : TabR P H t rows) (hw : WF H) (hPQ : ∀ i, i < H.size → P i → Q i) (hq : ¬ Q t) : TabR Q H t rows := by
 obtain ⟨⟨v, h1, h2⟩, h3⟩ := h
 exact ⟨⟨v, h1, GenL.weaken h2 hw hPQ⟩, hq⟩
theorem TabR.lt {P : Nat → Prop} {H : Heap} {t : Nat} {rows : List PRow} (h : TabR P H t rows) (hw : WF H) : t < H.size := by
 obtain ⟨⟨v, h1, _⟩, _⟩ := h
 exact h1.lt hw
def isOf (self url : Bs) (x : PRow) : Bool := decide (x.1.1 = self) && decide (x.1.2.1 = url)
theorem s_Drop_1_ret (c : CallK) (N : Nat) (x : PRow) (self url : Bs) (a b : Nat) (H : Heap) (hw : WF H) (ha : H.cells? a = some [.str self]) (hb : H.cells? b = some [.str url]) (τ : Tape) :
  ∃ H' τ', Gr H.size H H' ∧ ∀ q, s_preflight_Table_Drop_1 c N (.agg (prC x)) (.ptr a 0) (.ptr b 0) H τ q = q (.bool (isOf self url x)) H' τ' := by
 have g1 := Gr.new hw (prC x) 6 true
 have c1 := cells_new H (prC x) 6 true
 have a2 := g1.cells hw (Nat.le_refl _) ha
 have b2 := g1.cells hw (Nat.le_refl _) hb
 have a1 : eBox [.agg (prC x)] H τ = some (.ptr H.size 0, H.new (prC x) 6 true, τ) := rfl
 generalize H.new (prC x) 6 true = H1 at a1 g1 c1 a2 b2
 have l1 : lLoad1 [.ptr H.size 0] H1 = some (.str x.1.1) := load_cell c1 rfl
 have l2 : lLoad1 [.ptr H.size 1] H1 = some (.str x.1.2.1) := load_cell c1 rfl
 have l3 : lLoad1 [.ptr a 0] H1 = some (.str self) := load_cell a2 rfl
 have l4 : lLoad1 [.ptr b 0] H1 = some (.str url) := load_cell b2 rfl
 have se : ∀ x y : Bs, strBin .eql x y = some (.bool (decide (x = y))) := fun x y => (str_eql x y).trans (by congr 2; rw [Bool.eq_iff_iff]; simp)
 refine ⟨H1, τ, g1, fun q => ?_⟩
 unfold isOf
 by_cases h : x.1.1 = self
 ·simp only [s_preflight_Table_Drop_1, a1, effK_n, pFieldAddr, someK_n, Nat.add_zero, Nat.zero_add, l1, l3, bin_str, se, decide_eq_true h, gK_do, retK, l2, l4, pick_mk, cond_true, Bool.true_and]
 ·simp only [s_preflight_Table_Drop_1, a1, effK_n, pFieldAddr, someK_n, Nat.add_zero, Nat.zero_add, l1, l3, bin_str, se, decide_eq_false h, gK_skip, gK_none, pick_mk, cond_false, Bool.false_and]
abbrev Drop1Ok (c : CallK) : Prop := ∀ (x : PRow) (self url : Bs) (a b : Nat) (H : Heap), WF H → H.cells? a = some [.str self] → H.cells? b = some [.str url] → ∀ τ, ∃ H' τ', Gr H.size H H' ∧ ∀ q, c f_preflight_Table_Drop_1 [.agg (prC x), .ptr a 0, .ptr b 0] H τ q = q (.bool (isOf self url x)) H' τ'
theorem s_preflight_Table_Drop_ret (c c' c'' : CallK) (N : Nat) (hD : Del_row c c' c'') (h1 : Drop1Ok c') (h1' : Drop1Ok c'') {P : Nat → Prop} {H : Heap} {t : Nat} {rows : List PRow} (ht : TabR P H t rows) (hw : WF H) (hP : NewIn P H) (hl : rows.length ≤ 32) (self url : Bs) (τ : Tape) :
  ∃ H' τ', TabR P H' t (rows.filter fun x => !isOf self url x) ∧ Chg (fun i => P i ∨ i = t) H H' ∧ ∀ q, s_preflight_Table_Drop c N (.ptr t 0) (.str self) (.str url) H τ q = q (.tup []) H' τ' := by
 obtain ⟨⟨v, hb, hg⟩, hnt⟩ := ht
 have htl := hb.lt hw
 have e0 : eBox [.str self] H τ = some (.ptr H.size 0, H.new [.str self] 1 true, τ) := rfl
 have g1 := Gr.new hw [.str self] 1 true
 have b1 : Bx (H.new [.str self] 1 true) H.size [.str self] := Bx.new H [.str self] 1 true (by simp)
 have z1 : (H.new [.str self] 1 true).size = H.size + 1 := rfl
 generalize H.new [.str self] 1 true = H1 at e0 g1 b1 z1
 have e2 : eBox [.str url] H1 τ = some (.ptr H1.size 0, H1.new [.str url] 1 true, τ) := rfl
 have g2 := Gr.new g1.wf [.str url] 1 true
 have b2 : Bx (H1.new [.str url] 1 true) H1.size [.str url] := Bx.new H1 _ 1 true (by simp)
 have z2 : (H1.new [.str url] 1 true).size = H1.size + 1 := rfl
 generalize H1.new [.str url] 1 true = H2 at e2 g2 b2 z2
 have g12 := g1.trans g2 g1.size
 have k2 : Bx H2 H.size [.str self] := bx_gr1 b1 g1.wf g2
 have t2 : Bx H2 t [v] := bx_gr1 hb hw g12
 let P' : Nat → Prop := fun i => (i < H.size ∧ P i) ∨ H2.size ≤ i
 have hP' : NewIn P' H2 := fun i hi => .inr hi
 have hsub : ∀ i, P' i → P i := fun i h => h.elim (fun h => h.2) (fun h => hP i (by omega))
 have nk : ¬ P' H.size := fun h => h.elim (fun h => by omega) (fun h => by omega)
 have ng : ¬ P' H1.size := fun h => h.elim (fun h => by omega) (fun h => by omega)
 have nt : ¬ P' t := fun h => hnt (hsub t h)
 have hg2 : GenE P' H2 prC 6 v rows := GenL.gr (GenL.weaken hg hw (fun i hi h => .inl ⟨hi, h⟩)) hw g12
 have l2 : lLoad1 [.ptr t 0] H2 = some v := load_cell t2.cells rfl
 have tst : ∀ {c' : CallK}, Drop1Ok c' → TstP c' (.func f_preflight_Table_Drop_1 [] [.ptr H.size 0, .ptr H1.size 0]) prC (isOf self url) P' H2 rows := fun h1 x hx Ha hc τa => by
  obtain ⟨Hb, τb, u1, u2⟩ := h1 x self url H.size H1.size Ha hc.wf (k2.chg g2.wf hc nk).cells (b2.chg g2.wf hc ng).cells τa
  exact ⟨Hb, τb, u1, fun q => u2 q⟩
 obtain ⟨w, H3, τ3, d1, d2, d3⟩ := hD (isOf self url) (.func f_preflight_Table_Drop_1 [] [.ptr H.size 0, .ptr H1.size 0]) g2.wf rows (by omega) v hg2 (tst h1) (tst h1') hP' τ
 have t3 := t2.chg g2.wf d2 nt
 obtain ⟨H4, s1, s2, s3⟩ := t3.eStore d2.wf 0 w 1 (by rw [(GenL.scal d1).1]; rfl) (by simp) (by omega) (by rw [(GenL.scal d1).1]; simp [(GenL.scal d1).2]) τ3
 have s2' : Bx H4 t [w] := by rw [(GenL.scal d1).1] at s2; exact s2
 have o4 : Chg (fun i => i = t) H3 H4 := s3.chg (P := fun i => i = t) rfl
 have d4 : GenE P' H4 prC 6 w (rows.filter fun x => !isOf self url x) := GenL.chg d1 d2.wf o4 (fun i _ h e => nt (e ▸ h))
 have c02 : Chg (fun i => P i ∨ i = t) H H2 := g12.chg
 have nck : ∀ i o, pNilck [.ptr i o] = some (.ptr i o) := fun _ _ => rfl
 have ef : V.func f_preflight_Table_Drop_1 (List.take 0 [V.ptr H.size 0, V.ptr H1.size 0]) (List.drop 0 [V.ptr H.size 0, V.ptr H1.size 0]) = .func f_preflight_Table_Drop_1 [] [.ptr H.size 0, .ptr H1.size 0] := rfl
 refine ⟨H4, τ3, ⟨⟨w, s2', GenL.weaken d4 s3.wf (fun i _ h => hsub i h)⟩, hnt⟩, (c02.trans d2 (fun i hi h => .inl (hsub i h))).trans o4 (fun i hi h => .inr h), fun q => ?_⟩
 simp only [s_preflight_Table_Drop, e0, effK_n, e2, nck, pFieldAddr, Nat.add_zero, someK_n, l2, ef, d3, s1]
def isKey (k : PKey) (now : Int) (x : PRow) : Bool := decide (x.1 = k) && decide (now < x.2)
theorem s_holds_1_ret (c : CallK) (N : Nat) (x : PRow) (k : PKey) (now : Int) (a b : Nat) (H : Heap) (hw : WF H) (ha : H.cells? a = some (pkC k)) (hb : H.cells? b = some [.int .i64 now]) (τ : Tape) :
  ∃ H' τ', Gr H.size H H' ∧ ∀ q, s_preflight_Table_holds_1 c N (.agg (prC x)) (.ptr a 0) (.ptr b 0) H τ q = q (.bool (isKey k now x)) H' τ' := by
 have g1 := Gr.new hw (prC x) 6 true
 have c1 := cells_new H (prC x) 6 true
 have a2 := g1.cells hw (Nat.le_refl _) ha
 have b2 := g1.cells hw (Nat.le_refl _) hb
 have a1 : eBox [.agg (prC x)] H τ = some (.ptr H.size 0, H.new (prC x) 6 true, τ) := rfl
 generalize H.new (prC x) 6 true = H1 at a1 g1 c1 a2 b2
 have l1 : lLoadN 5 [.ptr H.size 0] H1 = some (.agg (pkC x.1)) := load_cells c1 (by simp [prC])
 have l2 : lLoadN 5 [.ptr a 0] H1 = some (.agg (pkC k)) := load_cells a2 (by simp [pkC])
 have l3 : lLoad1 [.ptr b 0] H1 = some (.int .i64 now) := load_cell b2 rfl
 have l4 : lLoad1 [.ptr H.size 5] H1 = some (.int .i64 x.2) := load_cell c1 rfl
 refine ⟨H1, τ, g1, fun q => ?_⟩
 unfold isKey
 by_cases h : x.1 = k
 ·simp only [s_preflight_Table_holds_1, a1, effK_n, pFieldAddr, someK_n, Nat.add_zero, Nat.zero_add, l1, l2, pk_eq, decide_eq_true h, gK_do, retK, l3, l4, bin_lss, pick_mk, cond_true, Bool.true_and]
 ·simp only [s_preflight_Table_holds_1, a1, effK_n, pFieldAddr, someK_n, Nat.add_zero, Nat.zero_add, l1, l2, pk_eq, decide_eq_false h, gK_skip, gK_none, pick_mk, cond_false, Bool.false_and]
abbrev Holds1Ok (c : CallK) : Prop := ∀ (x : PRow) (k : PKey) (now : Int) (a b : Nat) (H : Heap), WF H → H.cells? a = some (pkC k) → H.cells? b = some [.int .i64 now] → ∀ τ, ∃ H' τ', Gr H.size H H' ∧ ∀ q, c f_preflight_Table_holds_1 [.agg (prC x), .ptr a 0, .ptr b 0] H τ q = q (.bool (isKey k now x)) H' τ'
abbrev Con_row (c c' : CallK) : Prop := ∀ (f : PRow → Bool) (fv : V) {P : Nat → Prop} {H : Heap}, WF H → ∀ (hs : List PRow), hs.length ≤ 1000000 → ∀ v, Rd H 6 v hs.length (hs.flatMap prC) → TstP c' fv prC f P H hs → NewIn P H → ∀ τ, ∃ H' τ', Gr H.size H H' ∧ ∀ q, c f_slices_ContainsFunc_preflight_row [v, fv] H τ q = q (.bool (hs.any f)) H' τ'
def hasP (k : PKey) (now : Int) (rows : List PRow) : Bool := rows.any (isKey k now)
theorem s_preflight_Table_holds_ret (c c' : CallK) (N : Nat) (hC : Con_row c c') (h1 : Holds1Ok c') {P : Nat → Prop} {H : Heap} {t : Nat} {rows : List PRow} (ht : TabR P H t rows) (hw : WF H) (hl : rows.length ≤ 32) (k : PKey) (now : Int) (τ : Tape) :
  ∃ H' τ', Gr H.size H H' ∧ ∀ q, s_preflight_Table_holds c N (.ptr t 0) (.agg (pkC k)) (.int .i64 now) H τ q = q (.bool (hasP k now rows)) H' τ' := by
 obtain ⟨⟨v, hb, hg⟩, hnt⟩ := ht
 have e0 : eBox [.agg (pkC k)] H τ = some (.ptr H.size 0, H.new (pkC k) 5 true, τ) := rfl
 have g1 := Gr.new hw (pkC k) 5 true
 have b1 : Bx (H.new (pkC k) 5 true) H.size (pkC k) := Bx.new H (pkC k) 5 true (by simp [pkC])
 have z1 : (H.new (pkC k) 5 true).size = H.size + 1 := rfl
 generalize H.new (pkC k) 5 true = H1 at e0 g1 b1 z1
 have e2 : eBox [.int .i64 now] H1 τ = some (.ptr H1.size 0, H1.new [.int .i64 now] 1 true, τ) := rfl
 have g2 := Gr.new g1.wf [.int .i64 now] 1 true
 have b2 : Bx (H1.new [.int .i64 now] 1 true) H1.size [.int .i64 now] := Bx.new H1 _ 1 true (by simp)
 have z2 : (H1.new [.int .i64 now] 1 true).size = H1.size + 1 := rfl
 generalize H1.new [.int .i64 now] 1 true = H2 at e2 g2 b2 z2
 have g12 := g1.trans g2 g1.size
 have k2 : Bx H2 H.size (pkC k) := bx_gr1 b1 g1.wf g2
 have t2 : Bx H2 t [v] := bx_gr1 hb hw g12
 have l2 : lLoad1 [.ptr t 0] H2 = some v := load_cell t2.cells rfl
 obtain ⟨H3, τ3, g3, d3⟩ := hC (isKey k now) (.func f_preflight_Table_holds_1 [] [.ptr H.size 0, .ptr H1.size 0]) (P := fun i => H2.size ≤ i) g2.wf rows (by omega) v ((GenL.rd hg).gr g12 hw (Nat.le_refl _)) (fun x hx Ha hc τa => by
  obtain ⟨Hb, τb, u1, u2⟩ := h1 x k now H.size H1.size Ha hc.wf (k2.chg g2.wf hc (by omega)).cells (b2.chg g2.wf hc (by omega)).cells τa
  exact ⟨Hb, τb, u1, fun q => u2 q⟩) (fun i hi => hi) τ
 have nck : ∀ i o, pNilck [.ptr i o] = some (.ptr i o) := fun _ _ => rfl
 have ef : V.func f_preflight_Table_holds_1 (List.take 0 [V.ptr H.size 0, V.ptr H1.size 0]) (List.drop 0 [V.ptr H.size 0, V.ptr H1.size 0]) = .func f_preflight_Table_holds_1 [] [.ptr H.size 0, .ptr H1.size 0] := rfl
 refine ⟨H3, τ3, g12.trans g3 g12.size, fun q => ?_⟩
 unfold hasP
 simp only [s_preflight_Table_holds, e0, effK_n, e2, nck, pFieldAddr, Nat.add_zero, someK_n, l2, ef, d3]
def lenP (now : Int) (rows : List PRow) : Nat := (rows.filter fun x => decide (now < x.2)).length
theorem l_tlen (c : CallK) (N : Nat) (now : Int) (hs : List PRow) (hl : hs.length ≤ 1000000) (v : V) {H0 : Heap} (hw0 : WF H0) (hr : Rd H0 6 v hs.length (hs.flatMap prC)) :
  ∀ (l pre : List PRow) (n : Nat) (H : Heap) (τ : Tape) (m : Nat), hs = pre ++ l → l.length < m → Gr H0.size H0 H → n ≤ pre.length →
  ∃ H' τ', Gr H0.size H0 H' ∧ ∀ (fr : T V) k, fr.get 1 = some (.int .i64 now) → fr.get 5 = some (.int .i64 (n : Int)) → fr.get 11 = some v → fr.get 12 = some (.int .i64 (hs.length : Int)) → fr.get 13 = some (.int .i64 (pre.length : Int)) →
   loopK (s_preflight_Table_Len_l1 c N) m ⟨fr, H⟩ τ k = k (.exit 0) ⟨(T.set .leaf 5 (.int .i64 ((n + lenP now l : Nat) : Int))), H'⟩ τ' := by
 intro l
 induction l with
 | nil =>
  intro pre n H τ m he hm hg hnp
  obtain ⟨m, rfl⟩ : ∃ j, m = j + 1 := ⟨m - 1, by omega⟩
  have e1 : decide ((pre.length : Int) < (hs.length : Int)) = false := decide_eq_false (by rw [he]; simp)
  refine ⟨H, τ, hg, fun fr k f1 f5 f11 f12 f13 => ?_⟩
  rw [loopK_succ]
  simp only [s_preflight_Table_Len_l1, getK_mk f1, getK_mk f5, getK_mk f11, getK_mk f12, getK_mk f13, bin_lss, e1, condK_fn]
  rfl
 | cons x l ih =>
  intro pre n H τ m he hm hg hnp
  obtain ⟨m, rfl⟩ : ∃ j, m = j + 1 := ⟨m - 1, by omega⟩
  have hw := hg.wf
  have hlt : pre.length < hs.length := by rw [he]; simp
  have e1 : decide ((pre.length : Int) < (hs.length : Int)) = true := decide_eq_true (by omega)
  have e3 : wr .i64 ((pre.length : Int) + Int.ofNat 1) = ((pre ++ [x]).length : Int) := by rw [adI (by omega)]; simp
  have hrH := hr.gr hg hw0 (Nat.le_refl _)
  obtain ⟨id, o, p1, p2⟩ := Cells.at prOk (v := v) pre x l (H := H) (by rw [← he]; exact hrH)
  obtain ⟨q1, _⟩ := p2 H (by rw [← he]; exact hrH)
  obtain ⟨H1, H2, a1, s1, b2, g2, lt2⟩ := boxN hw 6 [(.str []), (.str []), (.bool false), (.bool false), (.str []), (.int .i64 (.ofNat 0))] (prC x) rfl rfl (by omega) rfl τ
  have l1 : lLoad1 [.ptr H.size (0 + 5)] H2 = some (.int .i64 x.2) := load_cell b2.cells rfl
  have hg2 := hg.trans (g2.weaken hg.size) (Nat.le_refl _)
  by_cases hx : now < x.2
  ·have ed : lenP now (x :: l) = lenP now l + 1 := by unfold lenP; rw [List.filter_cons, decide_eq_true hx]; simp
   have e5 : wr .i64 ((n : Int) + Int.ofNat 1) = ((n + 1 : Nat) : Int) := adI (by omega)
   obtain ⟨H', τ', r1, r2⟩ := ih (pre ++ [x]) (n + 1) H2 τ m (by rw [he]; simp) (by simp at hm; omega) hg2 (by simp; omega)
   refine ⟨H', τ', r1, fun fr k f1 f5 f11 f12 f13 => ?_⟩
   rw [loopK_succ, ed, show n + (lenP now l + 1) = n + 1 + lenP now l by omega]
   simp only [s_preflight_Table_Len_l1, getK_mk f1, getK_mk f5, getK_mk f11, getK_mk f12, getK_mk f13, bin_lss, e1, condK_tn, p1, q1, someK_n, a1, effK_n, s1, pFieldAddr, l1, decide_eq_true hx, bin_add, e5, s_preflight_Table_Len_j2, getK_set, ↓reduceIte, Nat.reduceEqDiff, e3]
   exact r2 _ k (by simp [T.get_set]) (by simp [T.get_set]) (by simp [T.get_set]) (by simp [T.get_set]) (by simp [T.get_set])
  ·have ed : lenP now (x :: l) = lenP now l := by unfold lenP; rw [List.filter_cons, decide_eq_false hx]; simp
   obtain ⟨H', τ', r1, r2⟩ := ih (pre ++ [x]) n H2 τ m (by rw [he]; simp) (by simp at hm; omega) hg2 (by simp; omega)
   refine ⟨H', τ', r1, fun fr k f1 f5 f11 f12 f13 => ?_⟩
   rw [loopK_succ, ed]
   simp only [s_preflight_Table_Len_l1, getK_mk f1, getK_mk f5, getK_mk f11, getK_mk f12, getK_mk f13, bin_lss, e1, condK_tn, p1, q1, someK_n, a1, effK_n, s1, pFieldAddr, l1, decide_eq_false hx, condK_fn, s_preflight_Table_Len_j2, getK_set, ↓reduceIte, Nat.reduceEqDiff, bin_add, e3]
   exact r2 _ k (by simp [T.get_set]) (by simp [T.get_set]) (by simp [T.get_set]) (by simp [T.get_set]) (by simp [T.get_set])
theorem s_preflight_Table_Len_ret (c : CallK) {N : Nat} (hN : 9223372036854775807 ≤ N) {P : Nat → Prop} {H : Heap} {t : Nat} {rows : List PRow} (ht : TabR P H t rows) (hw : WF H) (hl : rows.length ≤ 32) (now : Int) (τ : Tape) :
  ∃ H' τ', Gr H.size H H' ∧ ∀ q, s_preflight_Table_Len c N (.ptr t 0) (.int .i64 now) H τ q = q (.int .i64 (lenP now rows : Nat)) H' τ' := by
 obtain ⟨⟨v, hb, hg⟩, hnt⟩ := ht
 obtain ⟨H', τ', g, k⟩ := l_tlen c N now rows (by omega) v hw (GenL.rd hg) rows [] 0 H τ N rfl (by omega) (Gr.refl hw) (Nat.le_refl _)
 have l2 : lLoad1 [.ptr t 0] H = some v := load_cell hb.cells rfl
 have nck : pNilck [.ptr t 0] = some (.ptr t 0) := rfl
 have pl := GenL.pLen hg
 refine ⟨H', τ', g, fun q => ?_⟩
 simp only [s_preflight_Table_Len, nck, pFieldAddr, Nat.add_zero, someK_n, l2, pl]
 rw [k _ _ (by simp [T.get_set]) (by simp [T.get_set]) (by simp [T.get_set]) (by simp [T.get_set]) (by simp [T.get_set])]
 simp only [blockK, Nat.beq_refl, cond_true, seqK, s_preflight_Table_Len_j0, getK_set, ↓reduceIte, Nat.zero_add]
end Go.Am.X

