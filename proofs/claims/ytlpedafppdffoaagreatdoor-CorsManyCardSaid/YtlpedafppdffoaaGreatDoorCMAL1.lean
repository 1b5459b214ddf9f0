/- The abstract machine, printed functions of the program, and what they are shown to be. -/
import Derived.Test.YtlpedafppdffoaaGreatDoorCMAL0
import Derived.Test.YtlpedafppdffoaaGreatDoorCMAM4
set_option linter.unusedSimpArgs false
set_option linter.unusedVariables false
set_option linter.unusedSectionVars false
set_option maxRecDepth 100000
namespace Go.Am.X
def letB (n : Nat) : Bool := (decide (97 ≤ n) && decide (n ≤ 122)) || (decide (65 ≤ n) && decide (n ≤ 90))
def digB (n : Nat) : Bool := decide (48 ≤ n) && decide (n ≤ 57)
theorem s_ref1_Letter_ret (c : CallK) (N n : Nat) (H : Heap) (τ : Tape) (q : KV) : s_ref1_Letter c N (.int .u8 (n : Int)) H τ q = q (.bool (letB n)) H τ := by
 unfold letB
 cases h1 : decide (97 ≤ n) <;> cases h2 : decide (n ≤ 122) <;> cases h3 : decide (65 ≤ n) <;> cases h4 : decide (n ≤ 90) <;> simp only [s_ref1_Letter, getK_set, ↓reduceIte, Nat.reduceEqDiff, someK_n, effK_n, retK, gK_do, gK_do', gK_skip, gK_skip', gK_none, pick_mk, cond_true, cond_false, condK_tn, condK_fn, bin_eql, bin_neq, bin_lss, bin_leq, bin_gtr, bin_geq, un_not, Bool.not_true, Bool.not_false, bin_str, lenS_mk, nle_l, nle_r, nle_n, nlt_l, nlt_r, nlt_n, neq_r, neq_n, nne_r, nne_n, ext0, ext1, ext30, ext31, ext32, bin_add, bin_sub, decide_true, decide_false, h1, h2, h3, h4] <;> rfl
theorem s_ref1_Digit_ret (c : CallK) (N n : Nat) (H : Heap) (τ : Tape) (q : KV) : s_ref1_Digit c N (.int .u8 (n : Int)) H τ q = q (.bool (digB n)) H τ := by
 unfold digB
 cases h1 : decide (48 ≤ n) <;> cases h2 : decide (n ≤ 57) <;> simp only [s_ref1_Digit, getK_set, ↓reduceIte, Nat.reduceEqDiff, someK_n, effK_n, retK, gK_do, gK_do', gK_skip, gK_skip', gK_none, pick_mk, cond_true, cond_false, condK_tn, condK_fn, bin_eql, bin_neq, bin_lss, bin_leq, bin_gtr, bin_geq, un_not, Bool.not_true, Bool.not_false, bin_str, lenS_mk, nle_l, nle_r, nle_n, nlt_l, nlt_r, nlt_n, neq_r, neq_n, nne_r, nne_n, ext0, ext1, ext30, ext31, ext32, bin_add, bin_sub, decide_true, decide_false, h1, h2] <;> rfl
theorem trim_swap (p : UInt8 → Bool) (s : Bs) : (((s.dropWhile p).reverse.dropWhile p).reverse) = trimB p s := by
 unfold trimB
 induction s with
 | nil => rfl
 | cons x s ih =>
  cases h : p x with
  | true =>
   rw [List.dropWhile_cons_of_pos h, ih, List.reverse_cons]
   rcases List.eq_nil_or_concat (s.reverse.dropWhile p) with hn | ⟨a, b, hb⟩
   ·rw [List.dropWhile_append, hn]; simp [h]
   ·rw [List.dropWhile_append, hb]
    have : (a ++ [b]).isEmpty = false := by simp
    rw [List.concat_eq_append] at hb ⊢
    simp [h]
  | false =>
   rw [List.dropWhile_cons_of_neg (by simp [h]), List.reverse_cons, List.dropWhile_append]
   cases hn : s.reverse.dropWhile p with
   | nil => simp [h]
   | cons a l => simp [h]
end Go.Am.X

namespace Go.Am.X
theorem lowB_up {x : UInt8} (h1 : 65 ≤ x.toNat) (h2 : x.toNat ≤ 90) : ((x.toNat + 32 : Nat) : Int) = ((lowB x).toNat : Int) := by
 have : lowB x = UInt8.ofNat (x.toNat + 32) := by unfold lowB; rw [if_pos ⟨h1, h2⟩]
 rw [this]; simp; omega
theorem l_ref1_Lower (c : CallK) (N : Nat) {B id e m : Nat} (l : Bs) :
  ∀ (pre : Bs) (n : Nat) (fr : T V) (H : Heap) (τ : Tape), WF H → Blk H B id (bv (lower pre ++ l)) → (pre ++ l).length = m → m < 9223372036854775807 → l.length < n →
  fr.get 3 = some (.sl id 0 m m (some e) 1) → fr.get 4 = some (.int .i64 (pre.length : Int)) →
  ∃ H', Blk H' B id (bv (lower (pre ++ l))) ∧ Gr B H H' ∧ ∀ k, loopK (s_ref1_Lower_l1 c N) n ⟨fr, H⟩ τ k = k (.exit 0) ⟨T.set .leaf 3 (.sl id 0 m m (some e) 1), H'⟩ τ := by
 induction l with
 | nil =>
  intro pre n fr H τ hw hB hm hmb hn h3 h4
  obtain ⟨n, rfl⟩ : ∃ j, n = j + 1 := ⟨n - 1, by simp at hn; omega⟩
  refine ⟨H, by simpa using hB, Gr.refl hw, fun k => ?_⟩
  have e1 : decide (pre.length < m) = false := decide_eq_false (by simp at hm; omega)
  have pl : pLen [.sl id 0 m m (some e) 1] = some (.int .i64 (m : Int)) := rfl
  rw [loopK_succ]
  simp only [s_ref1_Lower_l1, getK_mk h3, getK_mk h4, pl, getK_set, ↓reduceIte, Nat.reduceEqDiff, someK_n, effK_n, retK, gK_do, gK_do', gK_skip, gK_skip', gK_none, pick_mk, cond_true, cond_false, condK_tn, condK_fn, bin_eql, bin_neq, bin_lss, bin_leq, bin_gtr, bin_geq, un_not, Bool.not_true, Bool.not_false, bin_str, lenS_mk, nle_l, nle_r, nle_n, nlt_l, nlt_r, nlt_n, neq_r, neq_n, nne_r, nne_n, ext0, ext1, ext30, ext31, ext32, bin_add, bin_sub, decide_true, decide_false, e1]
  rfl
 | cons x l ih =>
  intro pre n fr H τ hw hB hm hmb hn h3 h4
  obtain ⟨n, rfl⟩ : ∃ j, n = j + 1 := ⟨n - 1, by simp at hn; omega⟩
  have hlt : pre.length < m := by simp at hm; omega
  have e1 : decide (pre.length < m) = true := decide_eq_true hlt
  have pl : pLen [.sl id 0 m m (some e) 1] = some (.int .i64 (m : Int)) := rfl
  have e2 : pSlIdx 1 [.sl id 0 m m (some e) 1, .int .i64 (pre.length : Int)] = some (.ptr id pre.length) := by
   have : Nat.blt pre.length m = true := by simp [Nat.blt]; omega
   simp [pSlIdx, natOf_nat, this]
  have e3 : lLoad1 [.ptr id pre.length] H = some (.int .u8 (x.toNat : Int)) := by
   refine load_cell hB.cells ?_
   have : pre.length = (bv (lower pre)).length := by simp [bv, lower]
   simp [bv, lower]
  have hcells : (bv (lower pre ++ x :: l)).take pre.length ++ (V.int .u8 ((lowB x).toNat : Int)).cells ++ (bv (lower pre ++ x :: l)).drop (pre.length + 1) = bv (lower (pre ++ [x]) ++ l) := by
   have hl : pre.length = (lower pre).length := by simp [lower]
   simp only [bv, List.map_append, List.map_cons]
   rw [List.take_append_of_le_length (by simp [lower]), List.take_of_length_le (by simp [lower]), List.drop_append]
   simp [lower, V.cells]
  have e5 : wr .i64 ((pre.length : Int) + Int.ofNat 1) = ((pre ++ [x]).length : Int) := by rw [adI (by omega)]; simp
  by_cases hx : 65 ≤ x.toNat ∧ x.toNat ≤ 90
  ·obtain ⟨H1, k1, k2, k3, k4⟩ := hB.eStore hw pre.length (.int .u8 ((lowB x).toNat : Int)) 1 rfl (by simp [bv, lower]) rfl τ
   rw [hcells] at k2
   have d1 : decide (65 ≤ x.toNat) = true := decide_eq_true hx.1
   have d2 : decide (x.toNat ≤ 90) = true := decide_eq_true hx.2
   have e6 : wr .u8 ((x.toNat : Int) + Int.ofNat 32) = ((lowB x).toNat : Int) := by
    rw [show ((x.toNat : Int) + Int.ofNat 32) = ((x.toNat + 32 : Nat) : Int) by simp, wr_u8, Nat.mod_eq_of_lt (by omega), lowB_up hx.1 hx.2]
   obtain ⟨H', m1, m2, m3⟩ := ih (pre ++ [x]) n (T.set (T.set (T.set (T.set (T.set .leaf 3 (.sl id 0 m m (some e) 1)) 4 (.int .i64 (pre.length : Int))) 11 (.int .i64 (pre.length : Int))) 12 (.int .i64 ((pre ++ [x]).length : Int))) 4 (.int .i64 ((pre ++ [x]).length : Int))) H1 τ k3.wf k2 (by simpa using hm) hmb (by simp at hn; omega) (by simp [T.get_set]) (by simp [T.get_set])
   refine ⟨H', by simpa using m1, k3.trans m2 (Nat.le_refl _), fun k => ?_⟩
   rw [loopK_succ]
   simp only [s_ref1_Lower_l1, getK_mk h3, getK_mk h4, pl, getK_set, ↓reduceIte, Nat.reduceEqDiff, someK_n, effK_n, retK, gK_do, gK_do', gK_skip, gK_skip', gK_none, pick_mk, cond_true, cond_false, condK_tn, condK_fn, bin_eql, bin_neq, bin_lss, bin_leq, bin_gtr, bin_geq, un_not, Bool.not_true, Bool.not_false, bin_str, lenS_mk, nle_l, nle_r, nle_n, nlt_l, nlt_r, nlt_n, neq_r, neq_n, nne_r, nne_n, ext0, ext1, ext30, ext31, ext32, bin_add, bin_sub, decide_true, decide_false, e1, e2, e3, d1, d2, e6, k1, s_ref1_Lower_j2, e5, seqK]
   exact m3 k
  ·have hlx : lowB x = x := by unfold lowB; rw [if_neg hx]
   rw [hlx] at hcells
   have hB2 : Blk H B id (bv (lower (pre ++ [x]) ++ l)) := by
    have : bv (lower (pre ++ [x]) ++ l) = bv (lower pre ++ x :: l) := by simp [lower, hlx]
    rw [this]; exact hB
   obtain ⟨H', m1, m2, m3⟩ := ih (pre ++ [x]) n (T.set (T.set (T.set (T.set (T.set .leaf 3 (.sl id 0 m m (some e) 1)) 4 (.int .i64 (pre.length : Int))) 11 (.int .i64 (pre.length : Int))) 12 (.int .i64 ((pre ++ [x]).length : Int))) 4 (.int .i64 ((pre ++ [x]).length : Int))) H τ hw hB2 (by simpa using hm) hmb (by simp at hn; omega) (by simp [T.get_set]) (by simp [T.get_set])
   refine ⟨H', by simpa using m1, m2, fun k => ?_⟩
   rw [loopK_succ]
   cases d1 : decide (65 ≤ x.toNat) with
   | true =>
    have d2 : decide (x.toNat ≤ 90) = false := decide_eq_false fun h => hx ⟨of_decide_eq_true d1, h⟩
    simp only [s_ref1_Lower_l1, getK_mk h3, getK_mk h4, pl, getK_set, ↓reduceIte, Nat.reduceEqDiff, someK_n, effK_n, retK, gK_do, gK_do', gK_skip, gK_skip', gK_none, pick_mk, cond_true, cond_false, condK_tn, condK_fn, bin_eql, bin_neq, bin_lss, bin_leq, bin_gtr, bin_geq, un_not, Bool.not_true, Bool.not_false, bin_str, lenS_mk, nle_l, nle_r, nle_n, nlt_l, nlt_r, nlt_n, neq_r, neq_n, nne_r, nne_n, ext0, ext1, ext30, ext31, ext32, bin_add, bin_sub, decide_true, decide_false, e1, e2, e3, d1, d2, s_ref1_Lower_j2, e5, seqK]
    exact m3 k
   | false =>
    simp only [s_ref1_Lower_l1, getK_mk h3, getK_mk h4, pl, getK_set, ↓reduceIte, Nat.reduceEqDiff, someK_n, effK_n, retK, gK_do, gK_do', gK_skip, gK_skip', gK_none, pick_mk, cond_true, cond_false, condK_tn, condK_fn, bin_eql, bin_neq, bin_lss, bin_leq, bin_gtr, bin_geq, un_not, Bool.not_true, Bool.not_false, bin_str, lenS_mk, nle_l, nle_r, nle_n, nlt_l, nlt_r, nlt_n, neq_r, neq_n, nne_r, nne_n, ext0, ext1, ext30, ext31, ext32, bin_add, bin_sub, decide_true, decide_false, e1, e2, e3, d1, s_ref1_Lower_j2, e5, seqK]
    exact m3 k
theorem s_ref1_Lower_ret (c : CallK) {N : Nat} (hN : 9223372036854775807 < N) (s : Bs) (hs : s.length ≤ 140737488355328) (H : Heap) (hw : WF H) (τ : Tape) :
  ∃ H' τ', Gr H.size H H' ∧ ∀ q, s_ref1_Lower c N (.str s) H τ q = q (.str (lower s)) H' τ' := by
 have hB := Blk.new H (bv s) ((s.length + spare s.length (τ 0)) * 1) false (by rw [bv_length]; omega)
 have hG := Gr.new hw (bv s) ((s.length + spare s.length (τ 0)) * 1) false
 obtain ⟨H', m1, m2, m3⟩ := l_ref1_Lower c N (e := spare s.length (τ 0)) (m := s.length) s [] N (T.set (T.set .leaf 3 (.sl H.size 0 s.length s.length (some (spare s.length (τ 0))) 1)) 4 (.int .i64 0)) _ τ.tail hG.wf (by simpa [lower] using hB) (by simp) (by omega) (by omega) (by simp [T.get_set]) (by simp [T.get_set])
 refine ⟨H', τ.tail, hG.trans m2 (Nat.le_refl _), fun q => ?_⟩
 have e1 : eStrBytes [.str s] H τ = some (.sl H.size 0 s.length s.length (some (spare s.length (τ 0))) 1, H.new (bv s) ((s.length + spare s.length (τ 0)) * 1) false, τ.tail) := by
  simp only [eStrBytes, Nat.ble_eq_true_of_le hs, cond_true, fresh]
  rfl
 have e3 : lBytesStr [.sl H.size 0 s.length s.length (some (spare s.length (τ 0))) 1] H' = some (.str (lower s)) := by
  have hl : (bv (lower ([] ++ s))).length = s.length := by simp [bv, lower]
  simp only [lBytesStr, loads_cells m1.cells (show 0 + s.length ≤ _ by rw [hl]; omega), List.drop_zero]
  rw [List.take_of_length_le (by rw [hl]; omega)]
  simp [bytesOf_bv]
 simp only [s_ref1_Lower, e1, effK_n]
 rw [show (V.int IntKind.i64 (Int.ofNat 0)) = .int .i64 0 from rfl, m3]
 simp only [blockK, Nat.beq_refl, cond_true, seqK, s_ref1_Lower_j0, getK_set, ↓reduceIte, Nat.reduceEqDiff, someK_n, effK_n, retK, gK_do, gK_do', gK_skip, gK_skip', gK_none, pick_mk, cond_true, cond_false, condK_tn, condK_fn, bin_eql, bin_neq, bin_lss, bin_leq, bin_gtr, bin_geq, un_not, Bool.not_true, Bool.not_false, bin_str, lenS_mk, nle_l, nle_r, nle_n, nlt_l, nlt_r, nlt_n, neq_r, neq_n, nne_r, nne_n, ext0, ext1, ext30, ext31, ext32, bin_add, bin_sub, decide_true, decide_false, e3]
end Go.Am.X

namespace Go.Am.X
theorem someN : ∃ N : Nat, 9223372036854775807 < N := ⟨9223372036854775808, by decide⟩
theorem primRV {N : Nat} {l : List Row} (hl : RowsOk PG l) (d f : Nat) {Pre : List V → Prop} {g : List V → V} (hv : ∀ vs H, Pre vs → VOk H (g vs)) (h : ∀ vs, Pre vs → ∀ H, WF H → ∀ τ, ∃ H' τ', Gr H.size H H' ∧ ∀ q, CR l N d f vs H τ q = q (g vs) H' τ') : ∀ base w0, PrimOk PG base w0 f (outP (RV Pre g)) := by
 refine primOk_out mixed_ok hl N d f ?_
 rintro vs H o hw hvs ⟨hp, rfl⟩ τ
 obtain ⟨H', τ', g1, k1⟩ := h vs hp H hw τ
 exact ⟨_, H', τ', k1 retK, g1, rfl, hv vs H hp⟩
theorem p_ref1_Lower : ∀ base w0, PrimOk PG base w0 f_ref1_Lower (outP LowR) := by
 obtain ⟨N, hN⟩ := someN
 refine primRV (N := N) (l := [Row.fn f_ref1_Lower fn_ref1_Lower e_ref1_Lower]) (.fn ok_ref1_Lower e_ref1_Lower_ok (.nil _)) 1 _ (fun vs H h => ?_) (fun vs h H hw τ => ?_)
 ·unfold strP at h; split at h
  ·trivial
  ·exact h.elim
 ·unfold strP at h; split at h
  ·exact s_ref1_Lower_ret (CR [Row.fn f_ref1_Lower fn_ref1_Lower e_ref1_Lower] N 0) hN _ h H hw τ
  ·exact h.elim
abbrev IsP (c : CallK) (f : Nat) (R : List V → Heap → Out → Prop) : Prop := ∀ vs H τ q, c f vs H τ q = effK (outP R vs H τ) q
abbrev RLowOk (c : CallK) : Prop := ∀ (s : Bs), s.length ≤ 140737488355328 → ∀ H τ q, c f_ref1_Lower [.str s] H τ q = q (.str (lower s)) H τ
theorem k_ref1_Lower {c : CallK} (h : IsP c f_ref1_Lower LowR) : RLowOk c := fun s hs H τ q => callS h s hs H τ q
end Go.Am.X

namespace Go.Am.X
end Go.Am.X

namespace Go.Am.X
def LsH (H : Heap) (B : Nat) (v : V) (hs : List Hd) : Prop := Own H B 2 v hs.length (hcells hs) ∧ (hs = [] → v = .nils)
theorem LsH.nil (H : Heap) (B : Nat) : LsH H B .nils [] := ⟨Own.nil _ _ _, fun _ => rfl⟩
theorem LsH.gr {H H' : Heap} {B C : Nat} {v : V} {hs : List Hd} (h : LsH H B v hs) (hg : Gr C H H') (hw : WF H) (hC : H.size ≤ C) : LsH H' B v hs := ⟨h.1.gr hg hw hC, h.2⟩
theorem LsH.rdH {H : Heap} {B : Nat} {v : V} {hs : List Hd} (h : LsH H B v hs) : RdH H v hs := ⟨h.1.rd, h.1.src⟩
theorem LsH.weaken {H : Heap} {B C : Nat} {v : V} {hs : List Hd} (h : LsH H C v hs) (hBC : B ≤ C) : LsH H B v hs := by
 refine ⟨?_, h.2⟩
 rcases h.1 with h | ⟨id, e, room, fam, ver, pl, st, fr, h1, h2, h3, h4, h5, h6, h7⟩
 ·exact .inl h
 ·exact .inr ⟨id, e, room, fam, ver, pl, st, fr, h1, h2, h3, h4, Nat.le_trans hBC h5, Nat.le_trans hBC h6, h7⟩
theorem LsH.put {H : Heap} {B : Nat} {v : V} {hs : List Hd} (h : LsH H B v hs) (hw : WF H) (hB : B ≤ H.size) (x : Hd) (hn : hs.length ≤ 1000000) (τ : Tape) :
  ∃ w H1 v' H' τ', eBuildSlice 1 2 [(.str []), (.str [])] [(0, 2)] [hv x] H τ = some (w, H1, τ) ∧ eAppend 2 32 [v, w] H1 τ = some (v', H', τ') ∧ LsH H' B v' (hs ++ [x]) ∧ Gr B H H' ∧ (∀ id cs, H.cells? id = some cs → H'.cells? id = some cs) ∧ (∀ id cs, H.cells? id = some cs → H1.cells? id = some cs) := by
 obtain ⟨w, H1, v', H', τ', r1, r2, r3, r4, r5, r6⟩ := put2 h.1.apd hw hB x hn τ
 have e : H1 = H.new [.str x.1, .str x.2] (1 * 2) false := by
  have : eBuildSlice 1 2 [(.str []), (.str [])] [(0, 2)] [.agg [.str x.1, .str x.2]] H τ = some (.sl H.size 0 1 1 none 2, H.new [.str x.1, .str x.2] (1 * 2) false, τ) := rfl
  rw [this] at r1
  simp only [Option.some.injEq, Prod.mk.injEq] at r1
  exact r1.2.1.symm
 refine ⟨w, H1, v', H', τ', r1, r2, ⟨?_, fun h => by simp at h⟩, r4, r5, fun id cs hc => ?_⟩
 ·have := r3.own (by omega)
  simpa using this
 ·rw [e]; exact (Gr.new hw _ _ _).cells hw (Nat.le_refl _) hc
theorem LsH.met {H H' : Heap} {v : V} {hs : List Hd} {mk : V → V} (h : LsH H' H.size v hs) (hmk : MkOk mk) (hnil : VOk H (mk .nils)) : (lstO 2 hs.length (hcells hs) mk).Met H (mk v) H' := by
 refine Got.met (h.1.apd.got) (fun h0 => h.2 (List.eq_nil_of_length_eq_zero h0)) hmk (hcells_vok _ _) hnil
end Go.Am.X

namespace Go.Am.X
theorem primRH {N : Nat} {l : List Row} (hl : RowsOk PG l) (d f : Nat) {Pre : List Hd → List V → Prop} {g : Bool → List Hd → List V → Out} (h : ∀ hs args, Pre hs args → ∀ lv H, WF H → RdH H lv hs → ∀ τ, ∃ v H' τ', Gr H.size H H' ∧ (g (isNil lv) hs args).Met H v H' ∧ ∀ q, CR l N d f (lv :: args) H τ q = q v H' τ') : ∀ base w0, PrimOk PG base w0 f (outP (RH Pre g)) := by
 refine primOk_out mixed_ok hl N d f ?_
 rintro vs H o hw hvs ⟨lv, args, hs, rfl, hr, hp, rfl⟩ τ
 obtain ⟨v, H', τ', g1, hm, k1⟩ := h hs args hp lv H hw hr τ
 exact ⟨_, H', τ', k1 retK, g1, hm⟩
theorem LsH.lst {H : Heap} {B : Nat} {v : V} {hs : List Hd} (h : LsH H B v hs) (hn : hs ≠ []) : FreshL B H 2 hs.length (hcells hs) v := Got.lst h.1.apd.got (fun e => hn (List.eq_nil_of_length_eq_zero e))
theorem RdH.nils {H : Heap} {hs : List Hd} (h : RdH H .nils hs) : hs = [] := by
 rcases h.1 with ⟨_, h0, _⟩ | ⟨_, _, _, _, _, e, _⟩
 ·exact List.eq_nil_of_length_eq_zero h0
 ·cases e
theorem s_keep_Few_ret (c : CallK) (N : Nat) (s : Bs) (m : Nat) (H : Heap) (τ : Tape) (q : KV) : s_keep_Few c N (.str s) (.int .i64 (m : Int)) H τ q = q (.str (s.take m)) H τ := s14_eval c N s m H τ q
end Go.Am.X

namespace Go.Am.X
def partV (x : UInt8) (s : Bs) : V := match cutB x s with | some (a, b) => .tup [.str a, .str b, .bool true] | none => .tup [.str s, .str [], .bool false]
theorem l_ref1_Part (c : CallK) (N : Nat) (x : UInt8) (s : Bs) (hs : s.length < 9223372036854775807) (H : Heap) : ∀ (l pre : Bs) (τ : Tape) (m : Nat), s = pre ++ l → l.length < m → ∀ (fr : T V) k, fr.get 0 = some (.str s) → fr.get 1 = some (.int .u8 (x.toNat : Int)) → fr.get 7 = some (.int .i64 (pre.length : Int)) →
  loopK (s_ref1_Part_l1 c N) m ⟨fr, H⟩ τ k = match cutB x l with
   | some (a, b) => k .ret ⟨(T.set (T.set (T.set .leaf 4 (.str (pre ++ a))) 5 (.str b)) 6 (.bool true)), H⟩ τ
   | none => k (.exit 0) ⟨(T.set .leaf 0 (.str s)), H⟩ τ := by
 intro l
 induction l with
 | nil =>
  intro pre τ m he hm fr k f0 f1 f7
  obtain ⟨m, rfl⟩ : ∃ j, m = j + 1 := ⟨m - 1, by omega⟩
  have e1 : decide (pre.length < s.length) = false := decide_eq_false (by rw [he]; simp)
  rw [loopK_succ]
  simp only [s_ref1_Part_l1, getK_mk f0, getK_mk f1, getK_mk f7, getK_set, ↓reduceIte, Nat.reduceEqDiff, someK_n, effK_n, retK, gK_do, gK_do', gK_skip, gK_skip', gK_none, pick_mk, cond_true, cond_false, condK_tn, condK_fn, bin_eql, bin_neq, bin_lss, bin_leq, bin_gtr, bin_geq, un_not, Bool.not_true, Bool.not_false, bin_str, lenS_mk, nle_l, nle_r, nle_n, nlt_l, nlt_r, nlt_n, neq_r, neq_n, nne_r, nne_n, ext0, ext1, ext30, ext31, ext32, bin_add, bin_sub, decide_true, decide_false, e1]
  rfl
 | cons y l ih =>
  intro pre τ m he hm fr k f0 f1 f7
  obtain ⟨m, rfl⟩ : ∃ j, m = j + 1 := ⟨m - 1, by omega⟩
  have hlt : pre.length < s.length := by rw [he]; simp
  have e1 : decide (pre.length < s.length) = true := decide_eq_true hlt
  have e2 : pStrIndex [.str s, .int .i64 (pre.length : Int)] = some (.int .u8 (y.toNat : Int)) := strIndex_mk (by rw [he]; simp)
  have e3 : wr .i64 ((pre.length : Int) + Int.ofNat 1) = ((pre ++ [y]).length : Int) := by rw [adI (by omega)]; simp
  have e4 : decide (y.toNat = x.toNat) = decide (y = x) := by rw [← u8beq]; rfl
  rw [loopK_succ]
  by_cases h : y = x
  ·subst h
   have e5 : decide (y = y) = true := decide_eq_true rfl
   have s1 : pStrSlice false true [.str s, .int .i64 (pre.length : Int)] = some (.str pre) := by rw [strSlice_hi (by omega), he]; simp
   have s2 : pStrSlice true false [.str s, .int .i64 ((pre ++ [y]).length : Int)] = some (.str l) := by
    rw [strSlice_lo (by rw [he]; simp), he, show pre ++ y :: l = (pre ++ [y]) ++ l by simp, List.drop_left]
   simp only [s_ref1_Part_l1, getK_mk f0, getK_mk f1, getK_mk f7, getK_set, ↓reduceIte, Nat.reduceEqDiff, someK_n, effK_n, retK, gK_do, gK_do', gK_skip, gK_skip', gK_none, pick_mk, cond_true, cond_false, condK_tn, condK_fn, bin_eql, bin_neq, bin_lss, bin_leq, bin_gtr, bin_geq, un_not, Bool.not_true, Bool.not_false, bin_str, lenS_mk, nle_l, nle_r, nle_n, nlt_l, nlt_r, nlt_n, neq_r, neq_n, nne_r, nne_n, ext0, ext1, ext30, ext31, ext32, bin_add, bin_sub, decide_true, decide_false, e1, e2, e4, e5, s1, e3, s2, cutB, if_true, List.append_nil]
   rfl
  ·have e5 : decide (y = x) = false := decide_eq_false h
   simp only [s_ref1_Part_l1, getK_mk f0, getK_mk f1, getK_mk f7, getK_set, ↓reduceIte, Nat.reduceEqDiff, someK_n, effK_n, retK, gK_do, gK_do', gK_skip, gK_skip', gK_none, pick_mk, cond_true, cond_false, condK_tn, condK_fn, bin_eql, bin_neq, bin_lss, bin_leq, bin_gtr, bin_geq, un_not, Bool.not_true, Bool.not_false, bin_str, lenS_mk, nle_l, nle_r, nle_n, nlt_l, nlt_r, nlt_n, neq_r, neq_n, nne_r, nne_n, ext0, ext1, ext30, ext31, ext32, bin_add, bin_sub, decide_true, decide_false, e1, e2, e4, e5, e3, cutB, h, if_false]
   refine (ih (pre ++ [y]) τ m (by rw [he]; simp) (by simp at hm; omega) _ k (by simp [T.get_set]) (by simp [T.get_set]) (by simp [T.get_set])).trans ?_
   cases cutB x l with
   | none => rfl
   | some ab => obtain ⟨a, b⟩ := ab; simp
theorem s_ref1_Part_ret (c : CallK) {N : Nat} (hN : 9223372036854775807 < N) (x : UInt8) (s : Bs) (hs : s.length ≤ 9223372036854775806) (H : Heap) (τ : Tape) (q : KV) : s_ref1_Part c N (.str s) (.int .u8 (x.toNat : Int)) H τ q = q (partV x s) H τ := by
 simp only [s_ref1_Part]
 rw [l_ref1_Part c N x s (by omega) H s [] τ N rfl (by omega) _ _ (by simp [T.get_set]) (by simp [T.get_set]) (by simp [T.get_set])]
 unfold partV
 cases cutB x s with
 | none => simp only [blockK, Nat.beq_refl, cond_true, seqK, s_ref1_Part_j0, getK_set, ↓reduceIte, Nat.reduceEqDiff, someK_n, effK_n, retK, gK_do, gK_do', gK_skip, gK_skip', gK_none, pick_mk, cond_true, cond_false, condK_tn, condK_fn, bin_eql, bin_neq, bin_lss, bin_leq, bin_gtr, bin_geq, un_not, Bool.not_true, Bool.not_false, bin_str, lenS_mk, nle_l, nle_r, nle_n, nlt_l, nlt_r, nlt_n, neq_r, neq_n, nne_r, nne_n, ext0, ext1, ext30, ext31, ext32, bin_add, bin_sub, decide_true, decide_false]
 | some ab => obtain ⟨a, b⟩ := ab; simp only [blockK, seqK, endK, List.nil_append]; rfl
abbrev PartPre : List V → Prop | [.str s, .int .u8 (.ofNat n)] => s.length ≤ 9223372036854775806 ∧ n < 256 | _ => False
abbrev PartG : List V → V | [.str s, .int .u8 (.ofNat n)] => partV (UInt8.ofNat n) s | _ => .tup []
abbrev PartR := RV PartPre PartG
theorem partV_vok (x : UInt8) (s : Bs) (H : Heap) : VOk H (partV x s) := by
 unfold partV; split <;> exact ⟨trivial, trivial, trivial, trivial⟩
theorem p_ref1_Part : ∀ base w0, PrimOk PG base w0 f_ref1_Part (outP PartR) := by
 obtain ⟨N, hN⟩ := someN
 refine primRV (N := N) (l := [Row.fn f_ref1_Part fn_ref1_Part e_ref1_Part]) (.fn ok_ref1_Part e_ref1_Part_ok (.nil _)) 1 _ (fun vs H h => ?_) (fun vs h H hw τ => ?_)
 ·unfold PartPre at h; split at h
  ·exact partV_vok _ _ _
  ·exact h.elim
 ·unfold PartPre at h; split at h
  ·rename_i s n
   have e : (UInt8.ofNat n).toNat = n := by simp; omega
   have := fun q => s_ref1_Part_ret (CR [Row.fn f_ref1_Part fn_ref1_Part e_ref1_Part] N 0) hN (UInt8.ofNat n) s h.1 H τ q
   rw [e] at this
   exact ⟨H, τ, Gr.refl hw, this⟩
  ·exact h.elim
abbrev PartOk (c : CallK) : Prop := ∀ (s : Bs) (n : Nat), s.length ≤ 9223372036854775806 → n < 256 → ∀ H τ q, c f_ref1_Part [.str s, .int .u8 (.ofNat n)] H τ q = q (partV (UInt8.ofNat n) s) H τ
theorem k_ref1_Part {c : CallK} (h : IsP c f_ref1_Part PartR) : PartOk c := fun s n hs hn H τ q => RV_call h (vs := [.str s, .int .u8 (.ofNat n)]) ⟨hs, hn⟩ H τ q
def begB (s p : Bs) : Bool := p.isPrefixOf s
theorem isPrefixOf_take : ∀ (s p : Bs), p.isPrefixOf s = (decide (p.length ≤ s.length) && (s.take p.length == p)) := by
 intro s p
 induction p generalizing s with
 | nil => simp
 | cons y p ih =>
  cases s with
  | nil => rfl
  | cons x s =>
   rw [List.isPrefixOf, ih s]
   simp only [List.length_cons, List.take_succ_cons]
   have e1 : decide (p.length + 1 ≤ s.length + 1) = decide (p.length ≤ s.length) := by simp
   have e2 : (x :: List.take p.length s == y :: p) = (x == y && (List.take p.length s == p)) := rfl
   have e3 : (y == x) = (x == y) := BEq.comm
   rw [e1, e2, e3]
   cases (x == y) <;> cases decide (p.length ≤ s.length) <;> simp
theorem s_ref1_Begins_ret (c : CallK) (N : Nat) (s p : Bs) (H : Heap) (τ : Tape) (q : KV) : s_ref1_Begins c N (.str s) (.str p) H τ q = q (.bool (begB s p)) H τ := by
 unfold begB
 rw [isPrefixOf_take]
 by_cases h : p.length ≤ s.length
 ·have e1 : decide (p.length ≤ s.length) = true := decide_eq_true h
  have s1 : pStrSlice false true [.str s, .int .i64 (p.length : Int)] = some (.str (s.take p.length)) := strSlice_hi h
  simp only [s_ref1_Begins, getK_set, ↓reduceIte, Nat.reduceEqDiff, someK_n, effK_n, retK, gK_do, gK_do', gK_skip, gK_skip', gK_none, pick_mk, cond_true, cond_false, condK_tn, condK_fn, bin_eql, bin_neq, bin_lss, bin_leq, bin_gtr, bin_geq, un_not, Bool.not_true, Bool.not_false, bin_str, lenS_mk, nle_l, nle_r, nle_n, nlt_l, nlt_r, nlt_n, neq_r, neq_n, nne_r, nne_n, ext0, ext1, ext30, ext31, ext32, bin_add, bin_sub, decide_true, decide_false, e1, s1, str_eql, Bool.true_and]
 ·have e1 : decide (p.length ≤ s.length) = false := decide_eq_false h
  simp only [s_ref1_Begins, getK_set, ↓reduceIte, Nat.reduceEqDiff, someK_n, effK_n, retK, gK_do, gK_do', gK_skip, gK_skip', gK_none, pick_mk, cond_true, cond_false, condK_tn, condK_fn, bin_eql, bin_neq, bin_lss, bin_leq, bin_gtr, bin_geq, un_not, Bool.not_true, Bool.not_false, bin_str, lenS_mk, nle_l, nle_r, nle_n, nlt_l, nlt_r, nlt_n, neq_r, neq_n, nne_r, nne_n, ext0, ext1, ext30, ext31, ext32, bin_add, bin_sub, decide_true, decide_false, e1, Bool.false_and]
theorem l_ref1_Int (c : CallK) (N : Nat) (hD : ∀ (n : Nat) H τ q, c f_ref1_Digit [.int .u8 (n : Int)] H τ q = q (.bool (digB n)) H τ) (H : Heap) (s : Bs) (hs : s.length < 9223372036854775807) : ∀ (l pre : Bs) (v : Int) (τ : Tape) (n : Nat), s = pre ++ l → 0 ≤ v → v ≤ mostI → l.length < n →
  ∀ (fr : T V) k, fr.get 0 = some (.str s) → fr.get 4 = some (.int .i64 v) → fr.get 5 = some (.int .i64 (pre.length : Int)) →
  loopK (s_ref1_Int_l1 c N) n ⟨fr, H⟩ τ k = match intL l v with
   | some m => k (.exit 0) ⟨T.set (T.set .leaf 0 (.str s)) 4 (.int .i64 m), H⟩ τ
   | none => k .ret ⟨T.set (T.set .leaf 2 (.int .i64 (.ofNat 0))) 3 (.bool false), H⟩ τ := by
 intro l
 induction l with
 | nil =>
  intro pre v τ n he h0 h1 hn fr k f0 f4 f5
  obtain ⟨n, rfl⟩ : ∃ j, n = j + 1 := ⟨n - 1, by simp at hn; omega⟩
  have e1 : decide (pre.length < s.length) = false := decide_eq_false (by rw [he]; simp)
  rw [loopK_succ]
  simp only [s_ref1_Int_l1, getK_mk f0, getK_mk f4, getK_mk f5, getK_set, ↓reduceIte, Nat.reduceEqDiff, someK_n, effK_n, retK, gK_do, gK_do', gK_skip, gK_skip', gK_none, pick_mk, cond_true, cond_false, condK_tn, condK_fn, bin_eql, bin_neq, bin_lss, bin_leq, bin_gtr, bin_geq, un_not, Bool.not_true, Bool.not_false, bin_str, lenS_mk, nle_l, nle_r, nle_n, nlt_l, nlt_r, nlt_n, neq_r, neq_n, nne_r, nne_n, ext0, ext1, ext30, ext31, ext32, bin_add, bin_sub, decide_true, decide_false, e1, intL]
  rfl
 | cons x l ih =>
  intro pre v τ n he h0 h1 hn fr k f0 f4 f5
  obtain ⟨n, rfl⟩ : ∃ j, n = j + 1 := ⟨n - 1, by simp at hn; omega⟩
  have hlt : pre.length < s.length := by rw [he]; simp
  have e1 : decide (pre.length < s.length) = true := decide_eq_true hlt
  have e2 : pStrIndex [.str s, .int .i64 (pre.length : Int)] = some (.int .u8 (x.toNat : Int)) := strIndex_mk (by rw [he]; simp)
  have e9 : wr .i64 ((pre.length : Int) + Int.ofNat 1) = ((pre ++ [x]).length : Int) := by rw [adI (by omega)]; simp
  have hx := u8_lt x
  rw [loopK_succ]
  by_cases hd : 48 ≤ x.toNat ∧ x.toNat ≤ 57
  ·have ed : digB x.toNat = true := by unfold digB; simp [hd.1, hd.2]
   have e5 : wr .u8 ((x.toNat : Int) - Int.ofNat 48) = (x.toNat : Int) - 48 := by
    rw [wr_eq]; simp [IntKind.wrap, IntKind.signed, IntKind.bits]; omega
   have e6 : wr .i64 ((x.toNat : Int) - 48) = (x.toNat : Int) - 48 := wr_id (by omega) (by omega)
   have e7 : wr .i64 (Int.ofNat 9223372036854775807 - ((x.toNat : Int) - 48)) = mostI - ((x.toNat : Int) - 48) := by
    rw [wr_id (by first | (simp; done) | (simp; omega) | omega) (by first | (simp; done) | (simp; omega) | omega)]; rfl
   have e8 : wr .i64 ((mostI - ((x.toNat : Int) - 48)).tdiv (Int.ofNat 10)) = (mostI - ((x.toNat : Int) - 48)).tdiv 10 := by
    have : (mostI - ((x.toNat : Int) - 48)).tdiv (Int.ofNat 10) = (mostI - ((x.toNat : Int) - 48)).tdiv 10 := rfl
    rw [this, Int.tdiv_eq_ediv_of_nonneg (by unfold mostI; omega)]
    unfold mostI
    exact wr_id (by omega) (by omega)
   have hq10 : ∀ (y : Int) (q : V → Ans), binK .quo (.int .i64 y) (.int .i64 (Int.ofNat 10)) q = q (.int .i64 (wr .i64 (y.tdiv (Int.ofNat 10)))) := fun y q => bin_quo _ _ _ (by decide) _
   have hstep := intStep_range h0 h1 (d := (x.toNat : Int) - 48) (by omega) (by omega)
   have hI : intL (x :: l) v = intL l (intStep v ((x.toNat : Int) - 48)) := by simp only [intL, hd, and_self, if_true]
   by_cases hq : (mostI - ((x.toNat : Int) - 48)).tdiv 10 < v
   ·have hI2 : intStep v ((x.toNat : Int) - 48) = mostI := by simp only [intStep, hq, if_true]
    have eq : decide ((mostI - ((x.toNat : Int) - 48)).tdiv 10 < v) = true := decide_eq_true hq
    simp only [s_ref1_Int_l1, getK_mk f0, getK_mk f4, getK_mk f5, getK_set, ↓reduceIte, Nat.reduceEqDiff, someK_n, effK_n, retK, gK_do, gK_do', gK_skip, gK_skip', gK_none, pick_mk, cond_true, cond_false, condK_tn, condK_fn, bin_eql, bin_neq, bin_lss, bin_leq, bin_gtr, bin_geq, un_not, Bool.not_true, Bool.not_false, bin_str, lenS_mk, nle_l, nle_r, nle_n, nlt_l, nlt_r, nlt_n, neq_r, neq_n, nne_r, nne_n, ext0, ext1, ext30, ext31, ext32, bin_add, bin_sub, decide_true, decide_false, e1, e2, hD, ed, e5, toInt_mk, e6, e7, hq10, e8, eq, s_ref1_Int_j2, e9, seqK]
    rw [ih (pre ++ [x]) mostI τ n (by rw [he]; simp) (by unfold mostI; omega) (Int.le_refl _) (by simp at hn; omega) _ k (by simp [T.get_set]) (by simp [T.get_set]; rfl) (by simp [T.get_set]), hI, hI2]
   ·have hI2 : intStep v ((x.toNat : Int) - 48) = v * 10 + ((x.toNat : Int) - 48) := by simp only [intStep, hq, if_false]
    have eq : decide ((mostI - ((x.toNat : Int) - 48)).tdiv 10 < v) = false := decide_eq_false hq
    have hv : v * 10 + ((x.toNat : Int) - 48) ≤ mostI := by rw [← hI2]; exact hstep.2
    have e10 : wr .i64 (v * Int.ofNat 10) = v * 10 := by
     have : v * Int.ofNat 10 = v * 10 := rfl
     rw [this, wr_id (by omega) (by unfold mostI at hv; omega)]
    have e11 : wr .i64 (v * 10 + ((x.toNat : Int) - 48)) = v * 10 + ((x.toNat : Int) - 48) := wr_id (by omega) hv
    simp only [s_ref1_Int_l1, getK_mk f0, getK_mk f4, getK_mk f5, getK_set, ↓reduceIte, Nat.reduceEqDiff, someK_n, effK_n, retK, gK_do, gK_do', gK_skip, gK_skip', gK_none, pick_mk, cond_true, cond_false, condK_tn, condK_fn, bin_eql, bin_neq, bin_lss, bin_leq, bin_gtr, bin_geq, un_not, Bool.not_true, Bool.not_false, bin_str, lenS_mk, nle_l, nle_r, nle_n, nlt_l, nlt_r, nlt_n, neq_r, neq_n, nne_r, nne_n, ext0, ext1, ext30, ext31, ext32, bin_add, bin_sub, decide_true, decide_false, e1, e2, hD, ed, e5, toInt_mk, e6, e7, hq10, e8, eq, bin_mul, e10, e11, s_ref1_Int_j2, e9, seqK]
    rw [ih (pre ++ [x]) (v * 10 + ((x.toNat : Int) - 48)) τ n (by rw [he]; simp) (by omega) hv (by simp at hn; omega) _ k (by simp [T.get_set]) (by simp [T.get_set]) (by simp [T.get_set]), hI, hI2]
  ·have ed : digB x.toNat = false := by
    unfold digB
    by_cases h : 48 ≤ x.toNat
    ·have : ¬ x.toNat ≤ 57 := fun h' => hd ⟨h, h'⟩
     simp [h, this]
    ·simp [h]
   have hI : intL (x :: l) v = none := by simp only [intL, hd, if_false]
   simp only [s_ref1_Int_l1, getK_mk f0, getK_mk f4, getK_mk f5, getK_set, ↓reduceIte, Nat.reduceEqDiff, someK_n, effK_n, retK, gK_do, gK_do', gK_skip, gK_skip', gK_none, pick_mk, cond_true, cond_false, condK_tn, condK_fn, bin_eql, bin_neq, bin_lss, bin_leq, bin_gtr, bin_geq, un_not, Bool.not_true, Bool.not_false, bin_str, lenS_mk, nle_l, nle_r, nle_n, nlt_l, nlt_r, nlt_n, neq_r, neq_n, nne_r, nne_n, ext0, ext1, ext30, ext31, ext32, bin_add, bin_sub, decide_true, decide_false, e1, e2, hD, ed, hI]
   rfl
abbrev intV (s : Bs) : V := .tup [.int .i64 (intB s).1, .bool (intB s).2]
theorem s_ref1_Int_ret (c : CallK) {N : Nat} (hN : 9223372036854775807 < N) (hD : ∀ (n : Nat) H τ q, c f_ref1_Digit [.int .u8 (n : Int)] H τ q = q (.bool (digB n)) H τ) (s : Bs) (hs : s.length ≤ 9223372036854775806) (H : Heap) (τ : Tape) (q : KV) :
  s_ref1_Int c N (.str s) H τ q = q (intV s) H τ := by
 simp only [s_ref1_Int]
 rw [l_ref1_Int c N hD H s (by omega) s [] 0 τ N rfl (Int.le_refl _) (by unfold mostI; omega) (by omega) _ _ (by simp [T.get_set]) (by simp [T.get_set]) (by simp [T.get_set])]
 unfold intV intB
 cases hI : intL s 0 with
 | none =>
  simp only [blockK, seqK, endK]
  rfl
 | some m =>
  simp only [blockK, Nat.beq_refl, cond_true, seqK, s_ref1_Int_j0, getK_set, ↓reduceIte, Nat.reduceEqDiff, someK_n, effK_n, retK, gK_do, gK_do', gK_skip, gK_skip', gK_none, pick_mk, cond_true, cond_false, condK_tn, condK_fn, bin_eql, bin_neq, bin_lss, bin_leq, bin_gtr, bin_geq, un_not, Bool.not_true, Bool.not_false, bin_str, lenS_mk, nle_l, nle_r, nle_n, nlt_l, nlt_r, nlt_n, neq_r, neq_n, nne_r, nne_n, ext0, ext1, ext30, ext31, ext32, bin_add, bin_sub, decide_true, decide_false]
abbrev IntR := RS 9223372036854775806 intV
abbrev rw_Int : List Row := [Row.fn f_ref1_Int fn_ref1_Int e_ref1_Int, Row.fn f_ref1_Digit fn_ref1_Digit e_ref1_Digit]
theorem p_ref1_Int : ∀ base w0, PrimOk PG base w0 f_ref1_Int (outP IntR) := by
 obtain ⟨N, hN⟩ := someN
 refine primRV (N := N) (l := rw_Int) (.fn ok_ref1_Int e_ref1_Int_ok (.fn ok_ref1_Digit e_ref1_Digit_ok (.nil _))) 2 _ (fun vs H h => ?_) (fun vs h H hw τ => ?_)
 ·unfold strP at h; split at h
  ·exact ⟨trivial, trivial, trivial⟩
  ·exact h.elim
 ·unfold strP at h; split at h
  ·exact ⟨H, τ, Gr.refl hw, fun q => s_ref1_Int_ret (CR rw_Int N 1) hN (fun n H τ q => s_ref1_Digit_ret (CR rw_Int N 0) N n H τ q) _ h H τ q⟩
  ·exact h.elim
abbrev RIntOk (c : CallK) : Prop := ∀ (s : Bs), s.length ≤ 9223372036854775806 → ∀ H τ q, c f_ref1_Int [.str s] H τ q = q (intV s) H τ
theorem k_ref1_Int {c : CallK} (h : IsP c f_ref1_Int IntR) : RIntOk c := fun s hs H τ q => callS h s hs H τ q
def blankN (n : Nat) : Bool := (((decide (n = 9) || decide (n = 10)) || decide (n = 12)) || decide (n = 13)) || decide (n = 32)
theorem s_ref1_Blank_ret (c : CallK) (N n : Nat) (H : Heap) (τ : Tape) (q : KV) : s_ref1_Blank c N (.int .u8 (n : Int)) H τ q = q (.bool (blankN n)) H τ := by
 unfold blankN
 cases h1 : decide (n = 9) <;> cases h2 : decide (n = 10) <;> cases h3 : decide (n = 12) <;> cases h4 : decide (n = 13) <;> cases h5 : decide (n = 32) <;> simp only [s_ref1_Blank, getK_set, ↓reduceIte, Nat.reduceEqDiff, someK_n, effK_n, retK, gK_do, gK_do', gK_skip, gK_skip', gK_none, pick_mk, cond_true, cond_false, condK_tn, condK_fn, bin_eql, bin_neq, bin_lss, bin_leq, bin_gtr, bin_geq, un_not, Bool.not_true, Bool.not_false, bin_str, lenS_mk, nle_l, nle_r, nle_n, nlt_l, nlt_r, nlt_n, neq_r, neq_n, nne_r, nne_n, ext0, ext1, ext30, ext31, ext32, bin_add, bin_sub, decide_true, decide_false, h1, h2, h3, h4, h5] <;> rfl
theorem blankN_eq : (fun x : UInt8 => blankN x.toNat) = blank := by
 funext x
 unfold blank
 simp only [blankN, List.contains_cons, List.contains_nil, Bool.or_false, u8beq]
 show _ = (decide (x.toNat = 9) || (decide (x.toNat = 10) || (decide (x.toNat = 12) || (decide (x.toNat = 13) || decide (x.toNat = 32)))))
 simp only [Bool.or_assoc]
abbrev BlankOk (c : CallK) : Prop := ∀ (n : Nat) (H : Heap) (τ : Tape) (q : KV), c f_ref1_Blank [.int .u8 (n : Int)] H τ q = q (.bool (blankN n)) H τ
theorem l_ref1_Strip_a (c : CallK) (N : Nat) (he : BlankOk c) (H : Heap) : ∀ (s : Bs) (fr : T V) (τ : Tape) (m : Nat), s.length < m → s.length < 9223372036854775807 → fr.get 0 = some (.str s) →
  ∀ k, loopK (s_ref1_Strip_l3 c N) m ⟨fr, H⟩ τ k = k (.exit 0) ⟨(T.set .leaf 0 (.str (s.dropWhile fun x => blankN x.toNat))), H⟩ τ := by
 intro s
 induction s with
 | nil =>
  intro fr τ m hm hs f0 k
  obtain ⟨m, rfl⟩ : ∃ j, m = j + 1 := ⟨m - 1, by omega⟩
  rw [loopK_succ]
  have e : decide (0 < ([] : Bs).length) = false := rfl
  simp only [s_ref1_Strip_l3, getK_mk f0, getK_set, ↓reduceIte, Nat.reduceEqDiff, someK_n, effK_n, retK, gK_do, gK_do', gK_skip, gK_skip', gK_none, pick_mk, cond_true, cond_false, condK_tn, condK_fn, bin_eql, bin_neq, bin_lss, bin_leq, bin_gtr, bin_geq, un_not, Bool.not_true, Bool.not_false, bin_str, lenS_mk, nle_l, nle_r, nle_n, nlt_l, nlt_r, nlt_n, neq_r, neq_n, nne_r, nne_n, ext0, ext1, ext30, ext31, ext32, bin_add, bin_sub, decide_true, decide_false, e]
  rfl
 | cons x s ih =>
  intro fr τ m hm hs f0 k
  obtain ⟨m, rfl⟩ : ∃ j, m = j + 1 := ⟨m - 1, by omega⟩
  rw [loopK_succ]
  have e : decide (0 < (x :: s).length) = true := by simp
  have e2 : pStrIndex [.str (x :: s), .int .i64 (Int.ofNat 0)] = some (.int .u8 (x.toNat : Int)) := strIdx0 rfl
  have e3 : pStrSlice true false [.str (x :: s), .int .i64 (Int.ofNat 1)] = some (.str s) := by
   have := strSlice_lo (s := x :: s) (k := .i64) (i := 1) (by simp)
   simpa using this
  cases hb : blankN x.toNat with
  | true =>
   simp only [s_ref1_Strip_l3, getK_mk f0, getK_set, ↓reduceIte, Nat.reduceEqDiff, someK_n, effK_n, retK, gK_do, gK_do', gK_skip, gK_skip', gK_none, pick_mk, cond_true, cond_false, condK_tn, condK_fn, bin_eql, bin_neq, bin_lss, bin_leq, bin_gtr, bin_geq, un_not, Bool.not_true, Bool.not_false, bin_str, lenS_mk, nle_l, nle_r, nle_n, nlt_l, nlt_r, nlt_n, neq_r, neq_n, nne_r, nne_n, ext0, ext1, ext30, ext31, ext32, bin_add, bin_sub, decide_true, decide_false, e, e2, he, hb, e3, List.dropWhile_cons]
   exact ih _ τ m (by simp at hm; omega) (by simp at hs; omega) (by simp [T.get_set]) k
  | false =>
   simp only [s_ref1_Strip_l3, getK_mk f0, getK_set, ↓reduceIte, Nat.reduceEqDiff, someK_n, effK_n, retK, gK_do, gK_do', gK_skip, gK_skip', gK_none, pick_mk, cond_true, cond_false, condK_tn, condK_fn, bin_eql, bin_neq, bin_lss, bin_leq, bin_gtr, bin_geq, un_not, Bool.not_true, Bool.not_false, bin_str, lenS_mk, nle_l, nle_r, nle_n, nlt_l, nlt_r, nlt_n, neq_r, neq_n, nne_r, nne_n, ext0, ext1, ext30, ext31, ext32, bin_add, bin_sub, decide_true, decide_false, e, e2, he, hb, List.dropWhile_cons, Bool.false_eq_true]
   rfl
theorem l_ref1_Strip_b (c : CallK) (N : Nat) (he : BlankOk c) (H : Heap) : ∀ (n : Nat) (s : Bs) (fr : T V) (τ : Tape) (m : Nat), s.length = n → n < m → n < 9223372036854775807 → fr.get 0 = some (.str s) →
  ∀ k, loopK (s_ref1_Strip_l2 c N) m ⟨fr, H⟩ τ k = k (.exit 2) ⟨(T.set .leaf 0 (.str (s.reverse.dropWhile fun x => blankN x.toNat).reverse)), H⟩ τ := by
 intro n
 induction n with
 | zero =>
  intro s fr τ m hn hm hs f0 k
  obtain rfl := List.eq_nil_of_length_eq_zero hn
  obtain ⟨m, rfl⟩ : ∃ j, m = j + 1 := ⟨m - 1, by omega⟩
  rw [loopK_succ]
  have e : decide (0 < ([] : Bs).length) = false := rfl
  simp only [s_ref1_Strip_l2, getK_mk f0, getK_set, ↓reduceIte, Nat.reduceEqDiff, someK_n, effK_n, retK, gK_do, gK_do', gK_skip, gK_skip', gK_none, pick_mk, cond_true, cond_false, condK_tn, condK_fn, bin_eql, bin_neq, bin_lss, bin_leq, bin_gtr, bin_geq, un_not, Bool.not_true, Bool.not_false, bin_str, lenS_mk, nle_l, nle_r, nle_n, nlt_l, nlt_r, nlt_n, neq_r, neq_n, nne_r, nne_n, ext0, ext1, ext30, ext31, ext32, bin_add, bin_sub, decide_true, decide_false, e]
  rfl
 | succ n ih =>
  intro s fr τ m hn hm hs f0 k
  obtain ⟨m, rfl⟩ : ∃ j, m = j + 1 := ⟨m - 1, by omega⟩
  rw [loopK_succ]
  obtain ⟨s, x, rfl⟩ : ∃ s' x, s = s' ++ [x] := ⟨s.dropLast, s.getLast (by intro h; subst h; simp at hn), (List.dropLast_concat_getLast _).symm⟩
  have hl : s.length = n := by simpa using hn
  have e : decide (0 < (s ++ [x]).length) = true := by simp
  have e1 : wr .i64 ((((s ++ [x]).length : Nat) : Int) - Int.ofNat 1) = (s.length : Int) := by rw [sbI (by simp) (by omega)]; simp
  have e2 : pStrIndex [.str (s ++ [x]), .int .i64 (s.length : Int)] = some (.int .u8 (x.toNat : Int)) := strIndex_mk (by simp)
  have e3 : pStrSlice false true [.str (s ++ [x]), .int .i64 (s.length : Int)] = some (.str s) := by
   rw [strSlice_hi (by simp)]; simp
  cases hb : blankN x.toNat with
  | true =>
   simp only [s_ref1_Strip_l2, getK_mk f0, getK_set, ↓reduceIte, Nat.reduceEqDiff, someK_n, effK_n, retK, gK_do, gK_do', gK_skip, gK_skip', gK_none, pick_mk, cond_true, cond_false, condK_tn, condK_fn, bin_eql, bin_neq, bin_lss, bin_leq, bin_gtr, bin_geq, un_not, Bool.not_true, Bool.not_false, bin_str, lenS_mk, nle_l, nle_r, nle_n, nlt_l, nlt_r, nlt_n, neq_r, neq_n, nne_r, nne_n, ext0, ext1, ext30, ext31, ext32, bin_add, bin_sub, decide_true, decide_false, e, e1, e2, he, hb, e3, List.reverse_append, List.reverse_cons, List.reverse_nil, List.nil_append, List.singleton_append, List.dropWhile_cons]
   exact ih s _ τ m hl (by omega) (by omega) (by simp [T.get_set]) k
  | false =>
   simp only [s_ref1_Strip_l2, getK_mk f0, getK_set, ↓reduceIte, Nat.reduceEqDiff, someK_n, effK_n, retK, gK_do, gK_do', gK_skip, gK_skip', gK_none, pick_mk, cond_true, cond_false, condK_tn, condK_fn, bin_eql, bin_neq, bin_lss, bin_leq, bin_gtr, bin_geq, un_not, Bool.not_true, Bool.not_false, bin_str, lenS_mk, nle_l, nle_r, nle_n, nlt_l, nlt_r, nlt_n, neq_r, neq_n, nne_r, nne_n, ext0, ext1, ext30, ext31, ext32, bin_add, bin_sub, decide_true, decide_false, e, e1, e2, he, hb, List.reverse_append, List.reverse_cons, List.reverse_nil, List.nil_append, List.singleton_append, List.dropWhile_cons, Bool.false_eq_true, List.reverse_reverse]
   rfl
theorem s_ref1_Strip_ret (c : CallK) {N : Nat} (hN : 9223372036854775807 < N) (he : BlankOk c) (s : Bs) (hs : s.length ≤ 9223372036854775806) (H : Heap) (τ : Tape) (q : KV) : s_ref1_Strip c N (.str s) H τ q = q (.str (strip s)) H τ := by
 have hd : (s.dropWhile fun x => blankN x.toNat).length ≤ s.length := (List.dropWhile_sublist _).length_le
 simp only [s_ref1_Strip]
 rw [l_ref1_Strip_a c N he H s _ τ N (by omega) (by omega) (by simp [T.get_set])]
 simp only [blockK, Nat.beq_refl, cond_true, seqK, s_ref1_Strip_j0, getK_set, ↓reduceIte, Nat.reduceEqDiff, someK_n, effK_n, retK, gK_do, gK_do', gK_skip, gK_skip', gK_none, pick_mk, cond_true, cond_false, condK_tn, condK_fn, bin_eql, bin_neq, bin_lss, bin_leq, bin_gtr, bin_geq, un_not, Bool.not_true, Bool.not_false, bin_str, lenS_mk, nle_l, nle_r, nle_n, nlt_l, nlt_r, nlt_n, neq_r, neq_n, nne_r, nne_n, ext0, ext1, ext30, ext31, ext32, bin_add, bin_sub, decide_true, decide_false]
 rw [l_ref1_Strip_b c N he H (s.dropWhile fun x => blankN x.toNat).length (s.dropWhile fun x => blankN x.toNat) _ τ N rfl (by omega) (by omega) (by simp [T.get_set])]
 simp only [blockK, Nat.beq_refl, cond_true, seqK, s_ref1_Strip_j1, getK_set, ↓reduceIte, Nat.reduceEqDiff, someK_n, effK_n, retK, gK_do, gK_do', gK_skip, gK_skip', gK_none, pick_mk, cond_true, cond_false, condK_tn, condK_fn, bin_eql, bin_neq, bin_lss, bin_leq, bin_gtr, bin_geq, un_not, Bool.not_true, Bool.not_false, bin_str, lenS_mk, nle_l, nle_r, nle_n, nlt_l, nlt_r, nlt_n, neq_r, neq_n, nne_r, nne_n, ext0, ext1, ext30, ext31, ext32, bin_add, bin_sub, decide_true, decide_false]
 rw [trim_swap, blankN_eq]; rfl
abbrev rw_Strip : List Row := [Row.fn f_ref1_Strip fn_ref1_Strip e_ref1_Strip, Row.fn f_ref1_Blank fn_ref1_Blank e_ref1_Blank]
abbrev RStripR := RS 9223372036854775806 fun s => .str (strip s)
theorem p_ref1_Strip : ∀ base w0, PrimOk PG base w0 f_ref1_Strip (outP RStripR) := by
 obtain ⟨N, hN⟩ := someN
 refine primRV (N := N) (l := rw_Strip) (.fn ok_ref1_Strip e_ref1_Strip_ok (.fn ok_ref1_Blank e_ref1_Blank_ok (.nil _))) 2 _ (fun vs H h => ?_) (fun vs h H hw τ => ?_)
 ·unfold strP at h; split at h
  ·trivial
  ·exact h.elim
 ·unfold strP at h; split at h
  ·exact ⟨H, τ, Gr.refl hw, fun q => s_ref1_Strip_ret (CR rw_Strip N 1) hN (fun n H τ q => s_ref1_Blank_ret (CR rw_Strip N 0) N n H τ q) _ h H τ q⟩
  ·exact h.elim
abbrev RStripOk (c : CallK) : Prop := ∀ (s : Bs), s.length ≤ 9223372036854775806 → ∀ H τ q, c f_ref1_Strip [.str s] H τ q = q (.str (strip s)) H τ
theorem k_ref1_Strip {c : CallK} (h : IsP c f_ref1_Strip RStripR) : RStripOk c := fun s hs H τ q => callS h s hs H τ q
theorem strs_inj {a b : List Bs} (h : a.map V.str = b.map V.str) : a = b := by
 have := congrArg (List.map fun | V.str s => s | _ => []) h
 simpa [List.map_map, Function.comp_def] using this
end Go.Am.X

namespace Go.Am.X
def RdS (H : Heap) (v : V) (ss : List Bs) : Prop := Rd H 1 v ss.length (ss.map V.str) ∧ Src H v
theorem RdS.uniq {H : Heap} {v : V} {a b : List Bs} (h : RdS H v a) (k : RdS H v b) : a = b := strs_inj (h.1.uniq k.1).2
theorem RdS.gr {H H' : Heap} {B : Nat} {v : V} {ss : List Bs} (h : RdS H v ss) (hg : Gr B H H') (hw : WF H) (hB : H.size ≤ B) : RdS H' v ss := ⟨h.1.gr hg hw hB, h.2.gr hg hw hB⟩
theorem strs_vok (H : Heap) (ss : List Bs) : VsOk H (ss.map V.str) := by
 induction ss with
 | nil => trivial
 | cons h l ih => exact ⟨trivial, ih⟩
theorem strs_scal (ss : List Bs) : (ss.map V.str).all V.scal = true := by
 induction ss with
 | nil => rfl
 | cons h l ih => rw [List.map_cons, List.all_cons, ih]; rfl
def LsS (H : Heap) (B : Nat) (v : V) (ss : List Bs) : Prop := Own H B 1 v ss.length (ss.map V.str) ∧ (ss = [] → v = .nils)
theorem LsS.nil (H : Heap) (B : Nat) : LsS H B .nils [] := ⟨Own.nil _ _ _, fun _ => rfl⟩
theorem LsS.gr {H H' : Heap} {B C : Nat} {v : V} {ss : List Bs} (h : LsS H B v ss) (hg : Gr C H H') (hw : WF H) (hC : H.size ≤ C) : LsS H' B v ss := ⟨h.1.gr hg hw hC, h.2⟩
theorem LsS.rdS {H : Heap} {B : Nat} {v : V} {ss : List Bs} (h : LsS H B v ss) : RdS H v ss := ⟨h.1.rd, h.1.src⟩
theorem LsS.weaken {H : Heap} {B C : Nat} {v : V} {ss : List Bs} (h : LsS H C v ss) (hBC : B ≤ C) : LsS H B v ss := by
 refine ⟨?_, h.2⟩
 rcases h.1 with h | ⟨id, e, room, fam, ver, pl, st, fr, h1, h2, h3, h4, h5, h6, h7⟩
 ·exact .inl h
 ·exact .inr ⟨id, e, room, fam, ver, pl, st, fr, h1, h2, h3, h4, Nat.le_trans hBC h5, Nat.le_trans hBC h6, h7⟩
theorem LsS.put {H : Heap} {B : Nat} {v : V} {ss : List Bs} (h : LsS H B v ss) (hw : WF H) (hB : B ≤ H.size) (x : Bs) (hn : ss.length ≤ 4294967296) (τ : Tape) :
  ∃ w H1 v' H' τ', eBuildSlice 1 1 [(.str [])] [(0, 1)] [.str x] H τ = some (w, H1, τ) ∧ eAppend 1 16 [v, w] H1 τ = some (v', H', τ') ∧ LsS H' B v' (ss ++ [x]) ∧ Gr B H H' := by
 obtain ⟨w, H1, v', H', r1, r2, r3, r4, _⟩ := h.1.push (bytes := 16) hw hB (.str x) (.str []) rfl rfl (by omega) (by omega) τ
 refine ⟨w, H1, v', H', τ.tail, r1, r2, ⟨by simpa using r3, fun h => by simp at h⟩, r4⟩
theorem LsS.got {H : Heap} {B : Nat} {v : V} {ss : List Bs} (h : LsS H B v ss) : Got H B 1 v ss.length (ss.map V.str) := h.1.apd.got
theorem LsS.met {H H' : Heap} {v : V} {ss : List Bs} {mk : V → V} (h : LsS H' H.size v ss) (hmk : MkOk mk) (hnil : VOk H (mk .nils)) : (lstO 1 ss.length (ss.map V.str) mk).Met H (mk v) H' :=
 Got.met h.got (fun h0 => h.2 (List.eq_nil_of_length_eq_zero h0)) hmk (strs_vok _ _) hnil
theorem Small.pre {a b : List Hd} (h : Small (a ++ b)) : Small a := ⟨by have := h.len; simp at this; omega, fun x hx => h.all x (by simp [hx])⟩
end Go.Am.X

namespace Go.Am.X
abbrev ltB (x y : Bs) : Prop := lessB x y = true
theorem lessB_cons (a b : UInt8) (x y : Bs) : lessB (a :: x) (b :: y) = (decide (a.toNat < b.toNat) || (decide (a.toNat = b.toNat) && lessB x y)) := by
 rw [lessB]
 have h1 : Nat.blt a.toNat b.toNat = decide (a.toNat < b.toNat) := by
  by_cases h : a.toNat < b.toNat
  ·rw [decide_eq_true h]; simp [Nat.blt]; omega
  ·rw [decide_eq_false h]; cases hb : Nat.blt a.toNat b.toNat with
   | false => rfl
   | true => exact absurd (Nat.le_of_ble_eq_true hb) h
 have h2 : Nat.beq a.toNat b.toNat = decide (a.toNat = b.toNat) := by
  by_cases h : a.toNat = b.toNat
  ·rw [decide_eq_true h, h]; exact Nat.beq_refl _
  ·rw [decide_eq_false h]; cases hb : Nat.beq a.toNat b.toNat with
   | false => rfl
   | true => exact absurd (Nat.eq_of_beq_eq_true hb) h
 rw [h1, h2]
theorem ltB_irrefl : ∀ (x : Bs), lessB x x = false := by
 intro x
 induction x with
 | nil => rfl
 | cons a x ih => rw [lessB_cons, ih]; simp
theorem ltB_no {x : Bs} (h : ltB x x) : False := by rw [ltB, ltB_irrefl] at h; cases h
theorem ltB_trans : ∀ (x y z : Bs), ltB x y → ltB y z → ltB x z := by
 intro x
 induction x with
 | nil =>
  intro y z h1 h2
  cases y with
  | nil => exact h2
  | cons b y => cases z with
   | nil => cases h2
   | cons c z => rfl
 | cons a x ih =>
  intro y z h1 h2
  cases y with
  | nil => cases h1
  | cons b y => cases z with
   | nil => cases h2
   | cons c z =>
    unfold ltB at *
    rw [lessB_cons, Bool.or_eq_true, Bool.and_eq_true, decide_eq_true_iff, decide_eq_true_iff] at h1 h2 ⊢
    rcases h1 with h1 | ⟨h1, h1'⟩ <;> rcases h2 with h2 | ⟨h2, h2'⟩
    ·exact .inl (by omega)
    ·exact .inl (by omega)
    ·exact .inl (by omega)
    ·exact .inr ⟨by omega, ih y z h1' h2'⟩
theorem ltB_tri : ∀ (x y : Bs), ltB x y ∨ x = y ∨ ltB y x := by
 intro x
 induction x with
 | nil => intro y; cases y with
  | nil => exact .inr (.inl rfl)
  | cons b y => exact .inl rfl
 | cons a x ih =>
  intro y
  cases y with
  | nil => exact .inr (.inr rfl)
  | cons b y =>
   unfold ltB
   rw [lessB_cons, lessB_cons, Bool.or_eq_true, Bool.and_eq_true, decide_eq_true_iff, decide_eq_true_iff, Bool.or_eq_true, Bool.and_eq_true, decide_eq_true_iff, decide_eq_true_iff]
   rcases Nat.lt_trichotomy a.toNat b.toNat with h | h | h
   ·exact .inl (.inl h)
   ·rcases ih y with k | k | k
    ·exact .inl (.inr ⟨h, k⟩)
    ·exact .inr (.inl (by rw [UInt8.toNat_inj.1 h, k]))
    ·exact .inr (.inr (.inr ⟨h.symm, k⟩))
   ·exact .inr (.inr (.inl h))
theorem lt_iff (x y : Bs) : x < y ↔ ltB x y := by
 induction x generalizing y with
 | nil => cases y with
  | nil => exact ⟨fun h => (by cases h), fun h => (by cases h)⟩
  | cons b y => exact ⟨fun _ => rfl, fun _ => List.Lex.nil⟩
 | cons a x ih =>
  cases y with
  | nil => exact ⟨fun h => (by cases h), fun h => (by cases h)⟩
  | cons b y =>
   unfold ltB
   rw [lessB_cons, Bool.or_eq_true, Bool.and_eq_true, decide_eq_true_iff, decide_eq_true_iff, List.cons_lt_cons_iff, ih y, UInt8.lt_iff_toNat_lt, UInt8.toNat_inj]
abbrev SrtB (l : List Bs) : Prop := l.Pairwise ltB
theorem srt_uniq : ∀ (a b : List Bs), SrtB a → SrtB b → (∀ x, x ∈ a ↔ x ∈ b) → a = b := by
 intro a
 induction a with
 | nil => intro b _ _ h; cases b with
  | nil => rfl
  | cons y b => exact absurd ((h y).2 (by simp)) (by simp)
 | cons x a ih =>
  intro b ha hb h
  cases b with
  | nil => exact absurd ((h x).1 (by simp)) (by simp)
  | cons y b =>
   rw [SrtB, List.pairwise_cons] at ha hb
   have hxy : x = y := by
    rcases List.mem_cons.1 ((h x).1 (by simp)) with e | e
    ·exact e
    ·rcases List.mem_cons.1 ((h y).2 (by simp)) with e' | e'
     ·exact e'.symm
     ·have h1 := hb.1 x e
      have h2 := ha.1 y e'
      exact (ltB_no (ltB_trans _ _ _ h1 h2)).elim
   subst hxy
   congr 1
   refine ih b ha.2 hb.2 fun z => ⟨fun hz => ?_, fun hz => ?_⟩
   ·rcases List.mem_cons.1 ((h z).1 (by simp [hz])) with e | e
    ·subst e; exact (ltB_no (ha.1 z hz)).elim
    ·exact e
   ·rcases List.mem_cons.1 ((h z).2 (by simp [hz])) with e | e
    ·subst e; exact (ltB_no (hb.1 z hz)).elim
    ·exact e
def insB (x : Bs) : List Bs → List Bs
 | [] => [x]
 | y :: l => bif lessB y x then y :: insB x l else bif y == x then y :: l else x :: y :: l
theorem insB_mem (x : Bs) : ∀ (l : List Bs) (z : Bs), z ∈ insB x l ↔ z = x ∨ z ∈ l := by
 intro l
 induction l with
 | nil => intro z; simp [insB]
 | cons y l ih =>
  intro z
  rw [insB]
  cases lessB y x with
  | true => rw [cond_true, List.mem_cons, ih z, List.mem_cons]; constructor <;> (intro h; rcases h with h | h | h <;> simp [h])
  | false =>
   rw [cond_false]
   cases h : (y == x) with
   | true => rw [cond_true, ← beq_iff_eq.1 h]; simp
   | false => rw [cond_false]; simp
theorem insB_srt (x : Bs) : ∀ (l : List Bs), SrtB l → SrtB (insB x l) := by
 intro l
 induction l with
 | nil => intro _; simp [insB]
 | cons y l ih =>
  intro h
  rw [SrtB, List.pairwise_cons] at h
  rw [insB]
  cases h1 : lessB y x with
  | true =>
   rw [cond_true, SrtB, List.pairwise_cons]
   refine ⟨fun z hz => ?_, ih h.2⟩
   rcases (insB_mem x l z).1 hz with e | e
   ·rw [e]; exact h1
   ·exact h.1 z e
  | false =>
   rw [cond_false]
   cases h2 : (y == x) with
   | true => rw [cond_true, SrtB, List.pairwise_cons]; exact h
   | false =>
    rw [cond_false, SrtB, List.pairwise_cons]
    have hxy : ltB x y := by
     rcases ltB_tri x y with k | k | k
     ·exact k
     ·exact absurd k.symm (beq_eq_false_iff_ne.1 h2)
     ·have k' : lessB y x = true := k
      rw [h1] at k'; cases k'
    refine ⟨fun z hz => ?_, by rw [List.pairwise_cons]; exact h⟩
    rcases List.mem_cons.1 hz with e | e
    ·rw [e]; exact hxy
    ·exact ltB_trans _ _ _ hxy (h.1 z e)
theorem insB_len (x : Bs) : ∀ (l : List Bs), (insB x l).length ≤ l.length + 1 := by
 intro l
 induction l with
 | nil => simp [insB]
 | cons y l ih =>
  rw [insB]
  cases lessB y x with
  | true => rw [cond_true]; simp; omega
  | false => rw [cond_false]; cases (y == x) <;> simp
def srtT (ss : List Bs) : List Bs := ss.foldl (fun acc x => insB x acc) []
theorem srtT_snoc (pre : List Bs) (x : Bs) : srtT (pre ++ [x]) = insB x (srtT pre) := by unfold srtT; rw [List.foldl_append]; rfl
theorem srtT_ok (ss : List Bs) : SrtB (srtT ss) ∧ (∀ z, z ∈ srtT ss ↔ z ∈ ss) ∧ (srtT ss).length ≤ ss.length := by
 have key : ∀ (ss acc : List Bs), SrtB acc → SrtB (ss.foldl (fun acc x => insB x acc) acc) ∧ (∀ z, z ∈ ss.foldl (fun acc x => insB x acc) acc ↔ z ∈ acc ∨ z ∈ ss) ∧ (ss.foldl (fun acc x => insB x acc) acc).length ≤ acc.length + ss.length := by
  intro ss
  induction ss with
  | nil => intro acc h; exact ⟨h, fun z => by simp, by simp⟩
  | cons x ss ih =>
   intro acc h
   obtain ⟨a, b, c⟩ := ih (insB x acc) (insB_srt x acc h)
   have := insB_len x acc
   refine ⟨a, fun z => ?_, by simp only [List.foldl_cons, List.length_cons]; omega⟩
   rw [List.foldl_cons, b z, insB_mem, List.mem_cons]
   constructor
   ·rintro ((h | h) | h) <;> simp [h]
   ·rintro (h | h | h) <;> simp [h]
 obtain ⟨a, b, c⟩ := key ss [] (by simp)
 exact ⟨a, fun z => (b z).trans (by simp), by unfold srtT; simpa using c⟩
theorem le_of_ltB (x y : Bs) : x ≤ y ↔ ¬ ltB y x := by
 rw [← List.not_lt, lt_iff]
theorem sorted_ok (ss : List Bs) : (sorted ss).Pairwise (fun a b => ¬ ltB b a) ∧ (∀ z, z ∈ sorted ss ↔ z ∈ ss) ∧ (sorted ss).length = ss.length := by
 refine ⟨?_, fun z => by rw [sorted_eq]; exact List.mem_mergeSort, by rw [sorted_eq]; exact List.length_mergeSort _⟩
 have := List.pairwise_mergeSort (le := fun x y : Bs => decide (x ≤ y)) (fun a b c h1 h2 => by
  simp only [decide_eq_true_eq, le_of_ltB] at *
  rcases ltB_tri a b with k | k | k
  ·rcases ltB_tri b c with j | j | j
   ·intro e; have := ltB_trans _ _ _ (ltB_trans _ _ _ k j) e; exact ltB_no this
   ·rw [← j]; exact h1
   ·exact absurd j h2
  ·rw [k]; exact h2
  ·exact absurd k h1) (fun a b => by
  simp only [Bool.or_eq_true, decide_eq_true_eq, le_of_ltB]
  rcases ltB_tri a b with k | k | k
  ·left; intro e; have := ltB_trans _ _ _ k e; exact ltB_no this
  ·left; rw [k, ltB, ltB_irrefl]; simp
  ·right; intro e; have := ltB_trans _ _ _ k e; exact ltB_no this) ss
 rw [sorted_eq]
 exact this.imp fun h => (le_of_ltB _ _).1 (of_decide_eq_true h)
theorem str_lss (x y : Bs) : strBin .lss x y = some (.bool (lessB x y)) := rfl
end Go.Am.X

