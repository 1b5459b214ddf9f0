/- Texts for the law DigestSums: the machine, printed functions of the program, and what they are shown to be. -/
import Derived.Test.YtbiimljinilefaaDoorSC0
import Derived.Test.YtbiimljinilefaaDoorSM3
namespace Go.Am.AmTrydDig
set_option linter.unusedSimpArgs false
set_option linter.unusedVariables false
/-! ### a block is mixed in: the words of the schedule -/

theorem in64 (c : CallK) (N : Nat) (S B w t : Nat) (hBw : B ≤ w) (ht : t < 80) (v a0 a1 a2 a7 a26 a27 : V) (bs : List Nat) : ∀ (l pre : List Nat) (W : List Nat) (H : Heap) (fr : T V) (τ : Tape) (m : Nat),
    bs = pre ++ l → bs.length < 1000 → W.length = 80 → WF H → Bx H w (ws .u64 W) → RdS S B 1 H v bs.length (ws .u8 bs) → l.length < m →
    fr.get 0 = some a0 → fr.get 1 = some a1 → fr.get 2 = some a2 → fr.get 6 = some (.ptr w 0) → fr.get 7 = some a7 → fr.get 8 = some (.int .i64 (t : Int)) → fr.get 26 = some a26 → fr.get 27 = some a27 →
    fr.get 79 = some v → fr.get 80 = some (.int .i64 (bs.length : Int)) → fr.get 81 = some (.int .i64 (pre.length : Int)) →
    ∃ H', Bx H' w (ws .u64 (W.set t (accT .u64 (W.getD t 0) l))) ∧ Gx S B H H' ∧
      ∀ k, loopK (s29_l6 c N) m ⟨fr, H⟩ τ k = k (.exit 2) ⟨(T.set (T.set (T.set (T.set (T.set (T.set (T.set .leaf 0 a0) 1 a1) 2 a2) 6 (.ptr w 0)) 7 a7) 26 a26) 27 a27), H'⟩ τ := by
  intro l
  induction l with
  | nil =>
    intro pre W H fr τ m hbs hlen hW hw hBx hRd hm f0 f1 f2 f6 f7 f8 f26 f27 f79 f80 f81
    obtain ⟨m, rfl⟩ : ∃ j, m = j + 1 := ⟨m - 1, by omega⟩
    have e : bs.length = pre.length := by rw [hbs]; simp
    refine ⟨H, ?_, Gx.refl hw, fun k => ?_⟩
    · have : W.set t (accT .u64 (W.getD t 0) []) = W := by
        apply List.ext_getElem (by simp)
        intro i h1 h2
        rw [List.getElem_set]
        split
        · subst_vars; simp [accT, List.getD_eq_getElem?_getD, h2]
        · rfl
      rw [this]; exact hBx
    · rw [loopK_succ]
      have e1 : decide ((pre.length : Int) < (bs.length : Int)) = false := decide_eq_false (by omega)
      simp only [s29_l6, getK_mk f0, getK_mk f1, getK_mk f2, getK_mk f6, getK_mk f7, getK_mk f8, getK_mk f26, getK_mk f27, getK_mk f79, getK_mk f80, getK_mk f81, bin_lss, e1, condK_f]
      rfl
  | cons b l ih =>
    intro pre W H fr τ m hbs hlen hW hw hBx hRd hm f0 f1 f2 f6 f7 f8 f26 f27 f79 f80 f81
    obtain ⟨m, rfl⟩ : ∃ j, m = j + 1 := ⟨m - 1, by omega⟩
    have e : bs.length = pre.length + (l.length + 1) := by rw [hbs]; simp
    have e1 : decide ((pre.length : Int) < (bs.length : Int)) = true := decide_eq_true (by omega)
    obtain ⟨p, p1, p2⟩ := (hRd.rd hw).elem1 (i := pre.length) (x := .int .u8 (b : Int)) (by rw [hbs]; simp [ws])
    have l1 := load_cell hBx.cells (ws_get (k := .u64) (l := W) (i := t) (by omega))
    obtain ⟨H1, s1, s2, s3⟩ := hBx.word hw (i := t) (by omega) (lorT .u64 ((W.getD t 0 * 2 ^ min 8 IntKind.u64.bits) % pow2 .u64) (b % pow2 .u64)) τ
    have e3 : wr .i64 ((pre.length : Int) + Int.ofNat 1) = ((pre ++ [b]).length : Int) := by
      rw [wr_id (by first | (simp; done) | (simp; omega) | omega) (by first | (simp; done) | (simp; omega) | omega)]; simp
    have hg := s3.gx' (S := S) (B := B) hBw
    obtain ⟨H', r1, r2, r3⟩ := ih (pre ++ [b]) (W.set t (lorT .u64 ((W.getD t 0 * 2 ^ min 8 IntKind.u64.bits) % pow2 .u64) (b % pow2 .u64))) H1
      (T.set (T.set (T.set (T.set (T.set (T.set (T.set (T.set (T.set (T.set (T.set (T.set (T.set .leaf 0 a0) 1 a1) 2 a2) 6 (.ptr w 0)) 7 a7) 8 (.int .i64 (t : Int))) 26 a26) 27 a27) 79 v) 80 (.int .i64 (bs.length : Int))) 81 (.int .i64 (pre.length : Int))) 94 (.int .i64 ((pre ++ [b]).length : Int))) 81 (.int .i64 ((pre ++ [b]).length : Int)))
      τ m (by rw [hbs]; simp) hlen (by simp [hW]) s3.wf s2 (hRd.gx hg) (by simp at hm; omega)
      (by simp [T.get_set]) (by simp [T.get_set]) (by simp [T.get_set]) (by simp [T.get_set]) (by simp [T.get_set]) (by simp [T.get_set]) (by simp [T.get_set]) (by simp [T.get_set]) (by simp [T.get_set]) (by simp [T.get_set]) (by simp [T.get_set])
    refine ⟨H', ?_, hg.trans r2 (Nat.le_refl _), fun k => ?_⟩
    · have hq : t < W.length := by omega
      have : (W.set t (lorT .u64 ((W.getD t 0 * 2 ^ min 8 IntKind.u64.bits) % pow2 .u64) (b % pow2 .u64))).getD t 0 = lorT .u64 ((W.getD t 0 * 2 ^ min 8 IntKind.u64.bits) % pow2 .u64) (b % pow2 .u64) := by
        simp [List.getD_eq_getElem?_getD, hq]
      rw [this, List.set_set] at r1
      exact r1
    · rw [loopK_succ]
      have ea : ∀ i : Nat, i < 80 → pArrIdx 80 1 [.ptr w 0, .int .i64 (i : Int)] = some (.ptr w i) := fun i hi => by
        have := arrIdx_mk (z := 1) (id := w) (off := 0) hi
        simpa using this
      have e8 : ∀ (x : Nat) q, binK .shl (.int .u64 (x : Int)) (.int .u64 (.ofNat 8)) q = q (.int .u64 (((x * 2 ^ (min 8 IntKind.u64.bits)) % pow2 .u64 : Nat) : Int)) := fun x q => u_shl (k' := .u64) uk64 x 8 q
      simp only [s29_l6, getK_mk f0, getK_mk f1, getK_mk f2, getK_mk f6, getK_mk f7, getK_mk f8, getK_mk f26, getK_mk f27, getK_mk f79, getK_mk f80, getK_mk f81, bin_lss, e1, condK_t, p1, p2, someK_mk, ea t ht, l1, e8, toInt_mk, uk64 b, u_or uk64]
      simp only [← lorT.eq_1, s1, effK_mk, bin_add, e3]
      exact r3 k
end Go.Am.AmTrydDig

namespace Go.Am.AmTrydDig
set_option linter.unusedSimpArgs false
set_option linter.unusedVariables false
/-- one word of the schedule -/
def word64 (bs : List Nat) (t : Nat) (W : List Nat) : List Nat :=
  if 16 ≤ t then W.set t (addT .u64 (addT .u64 (addT .u64 (littleT .u64 (W.getD (t - 2) 0) 19 61 6 64) (W.getD (t - 7) 0)) (littleT .u64 (W.getD (t - 15) 0) 1 8 7 64)) (W.getD (t - 16) 0))
  else W.set t (accT .u64 (W.getD t 0) ((bs.drop (t * 8)).take 8))
theorem word64_len (bs : List Nat) (t : Nat) (W : List Nat) : (word64 bs t W).length = W.length := by unfold word64; split <;> simp

theorem step64a (c : CallK) (N : Nat) (hN : 9223372036854775807 ≤ N) (S B w K t : Nat) (hBw : B ≤ w) (ht : t < 16) (v a1 : V) (bs : List Nat) (hlen : bs.length < 100000) (h64 : 128 ≤ bs.length) (W : List Nat) (hW : W.length = 80) (H : Heap) (hw : WF H)
    (hBx : Bx H w (ws .u64 W)) (hR : Roomy v) (hRd : RdS S B 1 H v bs.length (ws .u8 bs)) (fr : T V) (τ : Tape)
    (f0 : fr.get 0 = some (.ptr K 0)) (f1 : fr.get 1 = some a1) (f2 : fr.get 2 = some v) (f6 : fr.get 6 = some (.ptr w 0)) (f7 : fr.get 7 = some (.int .i64 (8 : Nat))) (f26 : fr.get 26 = some (.int .i64 (80 : Nat))) (f27 : fr.get 27 = some (.int .i64 (t : Int))) :
    ∃ H', Bx H' w (ws .u64 (word64 bs t W)) ∧ Gx S B H H' ∧ ∀ k, s29_l4 c N ⟨fr, H⟩ τ k = k .normal ⟨(T.set (T.set (T.set (T.set (T.set (T.set (T.set (T.set (T.set .leaf 0 (.ptr K 0)) 1 a1) 2 v) 6 (.ptr w 0)) 7 (.int .i64 (8 : Nat))) 26 (.int .i64 (80 : Nat))) 27 (.int .i64 (t : Int))) 95 (.int .i64 ((t + 1 : Nat) : Int))) 27 (.int .i64 ((t + 1 : Nat) : Int))), H'⟩ τ := by
  obtain ⟨v', c1, c2, c3, c4⟩ := hRd.cut hw hR (l := t * 8) (m := (t + 1) * 8) (by omega) (by omega)
  have e0 : (t + 1) * 8 - t * 8 = 8 := by omega
  rw [e0] at c2 c4
  have c4' : RdS S B 1 H v' ((bs.drop (t * 8)).take 8).length (ws .u8 ((bs.drop (t * 8)).take 8)) := by
    have : ((bs.drop (t * 8)).take 8).length = 8 := by simp; omega
    rw [this]
    simpa [ws, List.map_take, List.map_drop] using c4
  have c5 : ((bs.drop (t * 8)).take 8).length = 8 := by simp; omega
  obtain ⟨H', r1, r2, r3⟩ := in64 c N S B w t hBw (by omega) v' (.ptr K 0) a1 v (.int .i64 (8 : Nat)) (.int .i64 (80 : Nat)) (.int .i64 (t : Int)) ((bs.drop (t * 8)).take 8) ((bs.drop (t * 8)).take 8) [] W H
    (T.set (T.set (T.set (T.set (T.set (T.set (T.set (T.set (T.set (T.set (T.set .leaf 0 (.ptr K 0)) 1 a1) 2 v) 6 (.ptr w 0)) 7 (.int .i64 (8 : Nat))) 8 (.int .i64 (t : Int))) 26 (.int .i64 (80 : Nat))) 27 (.int .i64 (t : Int))) 79 v') 80 (.int .i64 ((8 : Nat) : Int))) 81 (.int .i64 (.ofNat 0)))
    τ N (by simp) (by omega) hW hw hBx c4' (by omega)
    (by simp [T.get_set]) (by simp [T.get_set]) (by simp [T.get_set]) (by simp [T.get_set]) (by simp [T.get_set]) (by simp [T.get_set]) (by simp [T.get_set]) (by simp [T.get_set]) (by simp [T.get_set]) (by rw [c5]; simp [T.get_set]) (by simp [T.get_set])
  refine ⟨H', ?_, r2, fun k => ?_⟩
  · unfold word64; rw [if_neg (by omega)]; exact r1
  · have e1 : decide ((t : Int) < ((80 : Nat) : Int)) = true := decide_eq_true (by omega)
    have e2 : decide (Int.ofNat 16 ≤ (t : Int)) = false := decide_eq_false (by simp; omega)
    have e3 : wr .i64 ((t : Int) * ((8 : Nat) : Int)) = ((t * 8 : Nat) : Int) := by rw [wr_id (by omega) (by omega)]; simp
    have e4 : wr .i64 ((t : Int) + Int.ofNat 1) = ((t + 1 : Nat) : Int) := by rw [wr_id (by simp; omega) (by simp; omega)]; simp
    have e5 : wr .i64 (((t + 1 : Nat) : Int) * ((8 : Nat) : Int)) = (((t + 1) * 8 : Nat) : Int) := by rw [wr_id (by omega) (by omega)]; simp
    simp only [s29_l4, getK_mk f0, getK_mk f1, getK_mk f2, getK_mk f6, getK_mk f7, getK_mk f26, getK_mk f27, bin_lss, e1, condK_t, bin_geq, e2, condK_f, bin_mul, e3, bin_add, e4, e5, c1, c2, someK_mk]
    rw [r3]
    simp only [blockK, Nat.beq_refl, cond_true, cond_false, seqK, s29_j5, getK_set, ↓reduceIte, Nat.reduceEqDiff, bin_add, e4]

/-- a word that is made of four earlier ones -/
theorem step64b (c : CallK) (N : Nat) (S B w K t : Nat) (hBw : B ≤ w) (ht : 16 ≤ t) (ht' : t < 80) (v a1 : V) (bs : List Nat) (W : List Nat) (hW : W.length = 80) (H : Heap) (hw : WF H)
    (hBx : Bx H w (ws .u64 W)) (hK : Bx H K (ws .i64 largeL)) (hKS : K ≠ S) (hKw : K ≠ w)
    (h35 : ∀ (x a b d : Nat), a ≤ 64 → b ≤ 64 → d ≤ 64 → ∀ H, WF H → ∀ τ, ∃ H', Gr H.size H H' ∧ ∀ q, c 35 [.int .u64 (x : Int), .agg (by3 a b d), .int .i64 ((64 : Nat) : Int)] H τ q = q (.int .u64 (littleT .u64 x a b d 64 : Nat)) H' τ)
    (fr : T V) (τ : Tape) (hBH : B ≤ H.size)
    (f0 : fr.get 0 = some (.ptr K 0)) (f1 : fr.get 1 = some a1) (f2 : fr.get 2 = some v) (f6 : fr.get 6 = some (.ptr w 0)) (f7 : fr.get 7 = some (.int .i64 (8 : Nat))) (f26 : fr.get 26 = some (.int .i64 (80 : Nat))) (f27 : fr.get 27 = some (.int .i64 (t : Int))) :
    ∃ H', Bx H' w (ws .u64 (word64 bs t W)) ∧ Gx S B H H' ∧ ∀ k, s29_l4 c N ⟨fr, H⟩ τ k = k .normal ⟨(T.set (T.set (T.set (T.set (T.set (T.set (T.set (T.set (T.set .leaf 0 (.ptr K 0)) 1 a1) 2 v) 6 (.ptr w 0)) 7 (.int .i64 (8 : Nat))) 26 (.int .i64 (80 : Nat))) 27 (.int .i64 (t : Int))) 95 (.int .i64 ((t + 1 : Nat) : Int))) 27 (.int .i64 ((t + 1 : Nat) : Int))), H'⟩ τ := by
  obtain ⟨H1, g1, k1⟩ := h35 (W.getD (t - 2) 0) 19 61 6 (by omega) (by omega) (by omega) H hw τ
  have w1 := hBx.gr g1 (hBx.lt hw)
  have K1 := hK.gr g1 (hK.lt hw)
  obtain ⟨H2, g2, k2⟩ := h35 (W.getD (t - 15) 0) 1 8 7 (by omega) (by omega) (by omega) H1 g1.wf τ
  have w2 := w1.gr g2 (w1.lt g1.wf)
  have K2 := K1.gr g2 (K1.lt g1.wf)
  obtain ⟨H3, s1, s2, s3⟩ := w2.word g2.wf (i := t) (by omega) (addT .u64 (addT .u64 (addT .u64 (littleT .u64 (W.getD (t - 2) 0) 19 61 6 64) (W.getD (t - 7) 0)) (littleT .u64 (W.getD (t - 15) 0) 1 8 7 64)) (W.getD (t - 16) 0)) τ
  have g3 := s3.gx' (S := S) (B := B) hBw
  have K3 := K2.only s3 hKw
  refine ⟨H3, ?_, ((g1.weaken hBH).gx.trans (g2.weaken (Nat.le_trans hBH g1.size)).gx (Nat.le_refl _)).trans g3 (Nat.le_refl _), fun k => ?_⟩
  · unfold word64; rw [if_pos ht]; exact s2
  · have ea : ∀ i : Nat, i < 80 → pArrIdx 80 1 [.ptr w 0, .int .i64 (i : Int)] = some (.ptr w i) := fun i hi => by
      have := arrIdx_mk (z := 1) (id := w) (off := 0) hi
      simpa using this
    have e1 : decide ((t : Int) < ((80 : Nat) : Int)) = true := decide_eq_true (by omega)
    have e2 : decide (Int.ofNat 16 ≤ (t : Int)) = true := decide_eq_true (by simp; omega)
    have sb : ∀ j : Nat, j ≤ 16 → wr .i64 ((t : Int) - Int.ofNat j) = ((t - j : Nat) : Int) := fun j hj => by
      rw [wr_id (by simp; omega) (by simp; omega)]; simp; omega
    have e4 : wr .i64 ((t : Int) + Int.ofNat 1) = ((t + 1 : Nat) : Int) := by rw [wr_id (by simp; omega) (by simp; omega)]; simp
    have lw : ∀ {H : Heap}, Bx H w (ws .u64 W) → ∀ j, j ≤ 16 → lLoad1 [.ptr w (t - j)] H = some (.int .u64 ((W.getD (t - j) 0 : Nat) : Int)) := fun h j hj => load_ws h (by omega)
    have lb : ∀ {H : Heap}, Bx H K (ws .i64 largeL) → lLoad1 [.ptr K 0] H = some (.int .i64 ((64 : Nat) : Int)) := fun h => load_ws h (by decide)
    have l5 : ∀ {H : Heap}, Bx H K (ws .i64 largeL) → lLoadN 3 [.ptr K 5] H = some (.agg (by3 19 61 6)) := fun h => by
      simp only [lLoadN, loads_cells h.cells (show 5 + 3 ≤ (ws .i64 largeL).length by decide)]; rfl
    have l2 : ∀ {H : Heap}, Bx H K (ws .i64 largeL) → lLoadN 3 [.ptr K 2] H = some (.agg (by3 1 8 7)) := fun h => by
      simp only [lLoadN, loads_cells h.cells (show 2 + 3 ≤ (ws .i64 largeL).length by decide)]; rfl
    have nk : ∀ (i o : Nat), pNilck [.ptr i o] = some (.ptr i o) := fun _ _ => rfl
    have fa : ∀ (i o : Nat), pFieldAddr o [.ptr i 0] = some (.ptr i o) := fun _ _ => by simp [pFieldAddr]
    simp only [addT] at s1
    simp only [s29_l4, getK_mk f0, getK_mk f1, getK_mk f2, getK_mk f6, getK_mk f7, getK_mk f26, getK_mk f27, bin_lss, e1, condK_t, bin_geq, e2, bin_sub, sb 2 (by omega), sb 7 (by omega), sb 15 (by omega), sb 16 (by omega), ea (t - 2) (by omega), ea (t - 7) (by omega), ea (t - 15) (by omega), ea (t - 16) (by omega), ea t (by omega),
      someK_mk, lw hBx 2 (by omega), nk, fa, l5 hK, lb hK, k1, lw w1 7 (by omega), lw w1 15 (by omega), u_add uk64, l2 K1, lb K1, k2, lw w2 16 (by omega), s1, effK_mk]
    have w3 : Bx H3 w (ws .u64 (W.set t (addT .u64 (addT .u64 (addT .u64 (littleT .u64 (W.getD (t - 2) 0) 19 61 6 64) (W.getD (t - 7) 0)) (littleT .u64 (W.getD (t - 15) 0) 1 8 7 64)) (W.getD (t - 16) 0)))) := s2
    have hc : chkLoads [H, H1, H2, H3] (((.load none), [.ptr w (t - 16)], 0, 2) :: (((.load none), [.ptr K 0], 0, 1) :: (((.load (some 3)), [.ptr K 2], 0, 1) :: (((.load none), [.ptr w (t - 15)], 0, 1) :: (((.load none), [.ptr w (t - 7)], 0, 2) :: []))))) = true := by
      simp [chkLoads, evalL, lLoad, lw hBx 16, lw w1 16, lw w2 16, lw hBx 15, lw w1 15, lw hBx 7, lw w1 7, lw w2 7, lb hK, lb K1, l2 hK, l2 K1, chk1, same, sameL, same1, same0, by3]
    rw [hc]
    simp only [cond_true, s29_j5, getK_set, ↓reduceIte, Nat.reduceEqDiff, bin_add, e4]
end Go.Am.AmTrydDig

namespace Go.Am.AmTrydDig
set_option linter.unusedSimpArgs false
set_option linter.unusedVariables false
def sched64 (bs : List Nat) : Nat → Nat → List Nat → List Nat
  | 0, _, W => W
  | n + 1, t, W => sched64 bs n (t + 1) (word64 bs t W)
abbrev Lit35 (c : CallK) : Prop := ∀ (x a b d : Nat), a ≤ 64 → b ≤ 64 → d ≤ 64 → ∀ H, WF H → ∀ τ, ∃ H', Gr H.size H H' ∧ ∀ q, c 35 [.int .u64 (x : Int), .agg (by3 a b d), .int .i64 ((64 : Nat) : Int)] H τ q = q (.int .u64 (littleT .u64 x a b d 64 : Nat)) H' τ
theorem loop64 (c : CallK) (N : Nat) (hN : 9223372036854775807 ≤ N) (S B w K : Nat) (hBw : B ≤ w) (hKB : K < B) (hKS : K ≠ S) (v a1 : V) (bs : List Nat) (hlen : bs.length < 100000) (h64 : 128 ≤ bs.length) (hR : Roomy v) (h35 : Lit35 c) :
    ∀ (n t : Nat) (W : List Nat) (H : Heap) (fr : T V) (τ : Tape) (m : Nat), t + n = 80 → n < m → W.length = 80 → WF H → B ≤ H.size → Bx H w (ws .u64 W) → Bx H K (ws .i64 largeL) → RdS S B 1 H v bs.length (ws .u8 bs) →
    fr.get 0 = some (.ptr K 0) → fr.get 1 = some a1 → fr.get 2 = some v → fr.get 6 = some (.ptr w 0) → fr.get 7 = some (.int .i64 (8 : Nat)) → fr.get 26 = some (.int .i64 (80 : Nat)) → fr.get 27 = some (.int .i64 (t : Int)) →
    ∃ H', Bx H' w (ws .u64 (sched64 bs n t W)) ∧ Gx S B H H' ∧ ∀ k, loopK (s29_l4 c N) m ⟨fr, H⟩ τ k = k (.exit 0) ⟨(T.set (T.set (T.set .leaf 0 (.ptr K 0)) 1 a1) 6 (.ptr w 0)), H'⟩ τ := by
  intro n
  induction n with
  | zero =>
    intro t W H fr τ m ht hm hW hw hBH hBx hK hRd f0 f1 f2 f6 f7 f26 f27
    obtain ⟨m, rfl⟩ : ∃ j, m = j + 1 := ⟨m - 1, by omega⟩
    refine ⟨H, hBx, Gx.refl hw, fun k => ?_⟩
    have e1 : decide ((t : Int) < ((80 : Nat) : Int)) = false := decide_eq_false (by omega)
    rw [loopK_succ]
    simp only [s29_l4, getK_mk f0, getK_mk f1, getK_mk f2, getK_mk f6, getK_mk f7, getK_mk f26, getK_mk f27, bin_lss, e1, condK_f]
    rfl
  | succ n ih =>
    intro t W H fr τ m ht hm hW hw hBH hBx hK hRd f0 f1 f2 f6 f7 f26 f27
    obtain ⟨m, rfl⟩ : ∃ j, m = j + 1 := ⟨m - 1, by omega⟩
    obtain ⟨H1, b1, g1, k1⟩ : ∃ H', Bx H' w (ws .u64 (word64 bs t W)) ∧ Gx S B H H' ∧ ∀ k, s29_l4 c N ⟨fr, H⟩ τ k = k .normal ⟨(T.set (T.set (T.set (T.set (T.set (T.set (T.set (T.set (T.set .leaf 0 (.ptr K 0)) 1 a1) 2 v) 6 (.ptr w 0)) 7 (.int .i64 (8 : Nat))) 26 (.int .i64 (80 : Nat))) 27 (.int .i64 (t : Int))) 95 (.int .i64 ((t + 1 : Nat) : Int))) 27 (.int .i64 ((t + 1 : Nat) : Int))), H'⟩ τ := by
      by_cases h16 : t < 16
      · exact step64a c N hN S B w K t hBw h16 v a1 bs hlen h64 W hW H hw hBx hR hRd fr τ f0 f1 f2 f6 f7 f26 f27
      · exact step64b c N S B w K t hBw (by omega) (by omega) v a1 bs W hW H hw hBx hK hKS (by omega) h35 fr τ hBH f0 f1 f2 f6 f7 f26 f27
    obtain ⟨H', r1, r2, r3⟩ := ih (t + 1) (word64 bs t W) H1 (τ := τ) (m := m) (by omega) (by omega) (by rw [word64_len, hW]) g1.wf (Nat.le_trans hBH g1.size) b1 (hK.gx g1 hKB hKS) (hRd.gx g1)
      (fr := (T.set (T.set (T.set (T.set (T.set (T.set (T.set (T.set (T.set .leaf 0 (.ptr K 0)) 1 a1) 2 v) 6 (.ptr w 0)) 7 (.int .i64 (8 : Nat))) 26 (.int .i64 (80 : Nat))) 27 (.int .i64 (t : Int))) 95 (.int .i64 ((t + 1 : Nat) : Int))) 27 (.int .i64 ((t + 1 : Nat) : Int))))
      (by simp [T.get_set]) (by simp [T.get_set]) (by simp [T.get_set]) (by simp [T.get_set]) (by simp [T.get_set]) (by simp [T.get_set]) (by simp [T.get_set])
    refine ⟨H', r1, g1.trans r2 (Nat.le_refl _), fun k => ?_⟩
    rw [loopK_succ, k1]
    exact r3 k
end Go.Am.AmTrydDig

namespace Go.Am.AmTrydDig
set_option linter.unusedSimpArgs false
set_option linter.unusedVariables false
def oneT64 (C W : List Nat) (t : Nat) (s : List Nat) : Nat := addT .u64 (addT .u64 (addT .u64 (addT .u64 (s.getD 7 0) (bigT .u64 (s.getD 4 0) 14 18 41 64)) (choiceT .u64 s)) (C.getD t 0 / 2 ^ 0)) (W.getD t 0)
def twoT64 (s : List Nat) : Nat := addT .u64 (bigT .u64 (s.getD 0 0) 28 34 39 64) (mostT .u64 s)
def round64 (C W : List Nat) (t : Nat) (s : List Nat) : List Nat :=
  [addT .u64 (oneT64 C W t s) (twoT64 s), s.getD 0 0, s.getD 1 0, s.getD 2 0, addT .u64 (s.getD 3 0) (oneT64 C W t s), s.getD 4 0, s.getD 5 0, s.getD 6 0]
def rounds64 (C W : List Nat) : Nat → Nat → List Nat → List Nat
  | 0, _, s => s
  | n + 1, t, s => rounds64 C W n (t + 1) (round64 C W t s)
end Go.Am.AmTrydDig

namespace Go.Am.AmTrydDig
set_option linter.unusedSimpArgs false
set_option linter.unusedVariables false
theorem build8q (x0 x1 x2 x3 x4 x5 x6 x7 : Int) : pBuild (repl 8 [(.int .u64 (.ofNat 0))]) [(0, 1), (1, 1), (2, 1), (3, 1), (4, 1), (5, 1), (6, 1), (7, 1)] [.int .u64 x0, .int .u64 x1, .int .u64 x2, .int .u64 x3, .int .u64 x4, .int .u64 x5, .int .u64 x6, .int .u64 x7] = some (.agg [.int .u64 x0, .int .u64 x1, .int .u64 x2, .int .u64 x3, .int .u64 x4, .int .u64 x5, .int .u64 x6, .int .u64 x7]) := by
  simp [pBuild, fillC, repl, V.cells, List.replicate]
  rfl
theorem round64_step (c : CallK) (N : Nat) (S B w K X t : Nat) (hBw : B ≤ w) (hBX : B ≤ X) (hKX : K ≠ X) (hwX : w ≠ X) (ht : t < 80) (a1 : V) (C W s : List Nat) (hC : C.length = 80) (hW : W.length = 80) (hs : s.length = 8) (H : Heap) (hw : WF H)
    (hBx : Bx H w (ws .u64 W)) (hX : Bx H X (ws .u64 s)) (hK : Bx H K (ws .i64 largeL)) (hC5 : CellsS S B H 5 (ws .u64 C))
    (h36 : ∀ (x a b d : Nat), a ≤ 64 → b ≤ 64 → d ≤ 64 → ∀ H, WF H → ∀ τ, ∃ H', Gr H.size H H' ∧ ∀ q, c 36 [.int .u64 (x : Int), .agg (by3 a b d), .int .i64 ((64 : Nat) : Int)] H τ q = q (.int .u64 (bigT .u64 x a b d 64 : Nat)) H' τ)
    (fr : T V) (τ : Tape) (hBH : B ≤ H.size)
    (f0 : fr.get 0 = some (.ptr K 0)) (f1 : fr.get 1 = some a1) (f6 : fr.get 6 = some (.ptr w 0)) (f11 : fr.get 11 = some (.ptr X 0)) (f102 : fr.get 102 = some (.int .i64 (80 : Nat))) (f103 : fr.get 103 = some (.int .i64 (t : Int))) :
    ∃ H', Bx H' X (ws .u64 (round64 C W t s)) ∧ Bx H' w (ws .u64 W) ∧ Bx H' K (ws .i64 largeL) ∧ Gx S B H H' ∧ ∀ k, s29_l3 c N ⟨fr, H⟩ τ k = k .normal ⟨(T.set (T.set (T.set (T.set (T.set (T.set (T.set (T.set .leaf 0 (.ptr K 0)) 1 a1) 6 (.ptr w 0)) 11 (.ptr X 0)) 102 (.int .i64 (80 : Nat))) 103 (.int .i64 (t : Int))) 198 (.int .i64 ((t + 1 : Nat) : Int))) 103 (.int .i64 ((t + 1 : Nat) : Int))), H'⟩ τ := by
  obtain ⟨H1, g1, k1⟩ := h36 (s.getD 4 0) 14 18 41 (by omega) (by omega) (by omega) H hw τ
  have w1 := hBx.gr g1 (hBx.lt hw)
  have X1 := hX.gr g1 (hX.lt hw)
  have K1 := hK.gr g1 (hK.lt hw)
  obtain ⟨H2, g2, k2⟩ := h36 (s.getD 0 0) 28 34 39 (by omega) (by omega) (by omega) H1 g1.wf τ
  have w2 := w1.gr g2 (w1.lt g1.wf)
  have X2 := X1.gr g2 (X1.lt g1.wf)
  have K2 := K1.gr g2 (K1.lt g1.wf)
  have C0 := hC5 H (Gx.refl hw)
  have C1 := (hC5.gx (g1.weaken hBH).gx) H1 (Gx.refl g1.wf)
  obtain ⟨H3, s1, s2, s3⟩ := X2.eStore g2.wf 0 (.agg (ws .u64 (round64 C W t s))) 8 rfl (by rw [ws_len]; omega) (by omega) rfl τ
  have g3 := s3.gx' (S := S) (B := B) hBX
  have e8 : (ws .u64 s).take 0 ++ (V.agg (ws .u64 (round64 C W t s))).cells ++ (ws .u64 s).drop (0 + 8) = ws .u64 (round64 C W t s) := by
    rw [List.drop_eq_nil_of_le (by rw [ws_len]; omega)]; simp [V.cells]
  rw [e8] at s2
  refine ⟨H3, s2, w2.only s3 hwX, K2.only s3 hKX, ((g1.weaken hBH).gx.trans (g2.weaken (Nat.le_trans hBH g1.size)).gx (Nat.le_refl _)).trans g3 (Nat.le_refl _), fun k => ?_⟩
  have ea : ∀ i : Nat, i < 80 → pArrIdx 80 1 [.ptr w 0, .int .i64 (i : Int)] = some (.ptr w i) := fun i hi => by
    have := arrIdx_mk (z := 1) (id := w) (off := 0) hi
    simpa using this
  have e5 : ∀ i : Nat, i < 80 → pArrIdx 80 1 [.ptr 5 0, .int .i64 (i : Int)] = some (.ptr 5 i) := fun i hi => by
    have := arrIdx_mk (z := 1) (id := 5) (off := 0) hi
    simpa using this
  have e8 : ∀ i : Nat, i < 8 → pArrIdx 8 1 [.ptr X 0, .int .i64 (.ofNat i)] = some (.ptr X i) := fun i hi => by
    have := arrIdx_mk (z := 1) (id := X) (off := 0) hi
    simpa using this
  have e1 : decide ((t : Int) < ((80 : Nat) : Int)) = true := decide_eq_true (by omega)
  have e4 : wr .i64 ((t : Int) + Int.ofNat 1) = ((t + 1 : Nat) : Int) := by rw [wr_id (by simp; omega) (by simp; omega)]; simp
  have lx : ∀ {H : Heap}, Bx H X (ws .u64 s) → ∀ j, j < 8 → lLoad1 [.ptr X j] H = some (.int .u64 ((s.getD j 0 : Nat) : Int)) := fun h j hj => load_ws h (by omega)
  have lw : ∀ {H : Heap}, Bx H w (ws .u64 W) → lLoad1 [.ptr w t] H = some (.int .u64 ((W.getD t 0 : Nat) : Int)) := fun h => load_ws h (by omega)
  have lc : ∀ {H : Heap}, H.cells? 5 = some (ws .u64 C) → lLoad1 [.ptr 5 t] H = some (.int .u64 ((C.getD t 0 : Nat) : Int)) := fun h => load_cell h (ws_get (by omega))
  have lb : ∀ {H : Heap}, Bx H K (ws .i64 largeL) → lLoad1 [.ptr K 0] H = some (.int .i64 ((64 : Nat) : Int)) := fun h => load_ws h (by decide)
  have l11 : ∀ {H : Heap}, Bx H K (ws .i64 largeL) → lLoadN 3 [.ptr K 11] H = some (.agg (by3 14 18 41)) := fun h => by
    simp only [lLoadN, loads_cells h.cells (show 11 + 3 ≤ (ws .i64 largeL).length by decide)]; rfl
  have l8 : ∀ {H : Heap}, Bx H K (ws .i64 largeL) → lLoadN 3 [.ptr K 8] H = some (.agg (by3 28 34 39)) := fun h => by
    simp only [lLoadN, loads_cells h.cells (show 8 + 3 ≤ (ws .i64 largeL).length by decide)]; rfl
  have nk : ∀ (i o : Nat), pNilck [.ptr i o] = some (.ptr i o) := fun _ _ => rfl
  have fa : ∀ (i o : Nat), pFieldAddr o [.ptr i 0] = some (.ptr i o) := fun _ _ => by simp [pFieldAddr]
  have sh : ∀ (x : Nat) q, binK .shr (.int .u64 (x : Int)) (.int .i64 (wr .i64 (Int.ofNat 64 - ((64 : Nat) : Int)))) q = q (.int .u64 ((x / 2 ^ 0 : Nat) : Int)) := fun x q => u_shr (k := .u64) (k' := .i64) x 0 q
  simp only [s29_l3, getK_mk f0, getK_mk f1, getK_mk f6, getK_mk f11, getK_mk f102, getK_mk f103, bin_lss, e1, condK_t, e8 0 (by omega), e8 1 (by omega), e8 2 (by omega), e8 3 (by omega), e8 4 (by omega), e8 5 (by omega), e8 6 (by omega), e8 7 (by omega),
    lx hX 0 (by omega), lx hX 1 (by omega), lx hX 2 (by omega), lx hX 4 (by omega), lx hX 5 (by omega), lx hX 6 (by omega), lx hX 7 (by omega), someK_mk, u_and uk64, u_not uk64, u_xor uk64, nk, fa, l11 hK, lb hK, k1, u_add uk64, e5 t (by omega), lc C1, lb K1, bin_sub, sh, toInt_mk, uk64 _, ea t (by omega), lw w1]
  have hc : chkLoads [H, H1] (((.load none), [.ptr w t], 0, 1) :: (((.load none), [.ptr K 0], 0, 1) :: (((.load none), [.ptr 5 t], 0, 1) :: (((.load none), [.ptr X 7], 0, 1) :: [])))) = true := by
    simp [chkLoads, evalL, lLoad, lw hBx, lw w1, lb hK, lb K1, lc C0, lc C1, lx hX 7, lx X1 7, chk1, same, sameL, same1, same0]
  rw [hc]
  simp only [cond_true, lx X1 0 (by omega), someK_mk, l8 K1, lb K1, k2, u_add uk64, lx X2 0 (by omega), lx X2 1 (by omega), lx X2 2 (by omega), lx X2 3 (by omega), lx X2 4 (by omega), lx X2 5 (by omega), lx X2 6 (by omega)]
  simp only [round64, ws, List.map, oneT64, twoT64, addT, choiceT, mostT, xorT, landT, notT] at s1
  simp only [build8q, someK_mk, s1, effK_mk, bin_add, e4]
end Go.Am.AmTrydDig

namespace Go.Am.AmTrydDig
set_option linter.unusedSimpArgs false
set_option linter.unusedVariables false
abbrev Big36 (c : CallK) : Prop := ∀ (x a b d : Nat), a ≤ 64 → b ≤ 64 → d ≤ 64 → ∀ H, WF H → ∀ τ, ∃ H', Gr H.size H H' ∧ ∀ q, c 36 [.int .u64 (x : Int), .agg (by3 a b d), .int .i64 ((64 : Nat) : Int)] H τ q = q (.int .u64 (bigT .u64 x a b d 64 : Nat)) H' τ
theorem rloop64 (c : CallK) (N : Nat) (S B w K X : Nat) (hBw : B ≤ w) (hBX : B ≤ X) (hKX : K ≠ X) (hwX : w ≠ X) (a1 : V) (C W : List Nat) (hC : C.length = 80) (hW : W.length = 80) (h36 : Big36 c) :
    ∀ (n t : Nat) (s : List Nat) (H : Heap) (fr : T V) (τ : Tape) (m : Nat), t + n = 80 → n < m → s.length = 8 → WF H → B ≤ H.size → Bx H w (ws .u64 W) → Bx H X (ws .u64 s) → Bx H K (ws .i64 largeL) → CellsS S B H 5 (ws .u64 C) →
    fr.get 0 = some (.ptr K 0) → fr.get 1 = some a1 → fr.get 6 = some (.ptr w 0) → fr.get 11 = some (.ptr X 0) → fr.get 102 = some (.int .i64 (80 : Nat)) → fr.get 103 = some (.int .i64 (t : Int)) →
    ∃ H', Bx H' X (ws .u64 (rounds64 C W n t s)) ∧ Gx S B H H' ∧ ∀ k, loopK (s29_l3 c N) m ⟨fr, H⟩ τ k = k (.exit 4) ⟨(T.set (T.set .leaf 1 a1) 11 (.ptr X 0)), H'⟩ τ := by
  intro n
  induction n with
  | zero =>
    intro t s H fr τ m ht hm hs hw hBH hBx hX hK hC5 f0 f1 f6 f11 f102 f103
    obtain ⟨m, rfl⟩ : ∃ j, m = j + 1 := ⟨m - 1, by omega⟩
    refine ⟨H, hX, Gx.refl hw, fun k => ?_⟩
    have e1 : decide ((t : Int) < ((80 : Nat) : Int)) = false := decide_eq_false (by omega)
    rw [loopK_succ]
    simp only [s29_l3, getK_mk f0, getK_mk f1, getK_mk f6, getK_mk f11, getK_mk f102, getK_mk f103, bin_lss, e1, condK_f]
    rfl
  | succ n ih =>
    intro t s H fr τ m ht hm hs hw hBH hBx hX hK hC5 f0 f1 f6 f11 f102 f103
    obtain ⟨m, rfl⟩ : ∃ j, m = j + 1 := ⟨m - 1, by omega⟩
    obtain ⟨H1, b1, b2, b3, g1, k1⟩ := round64_step c N S B w K X t hBw hBX hKX hwX (by omega) a1 C W s hC hW hs H hw hBx hX hK hC5 h36 fr τ hBH f0 f1 f6 f11 f102 f103
    obtain ⟨H', r1, r2, r3⟩ := ih (t + 1) (round64 C W t s) H1 (τ := τ) (m := m) (by omega) (by omega) rfl g1.wf (Nat.le_trans hBH g1.size) b2 b1 b3 (hC5.gx g1)
      (fr := (T.set (T.set (T.set (T.set (T.set (T.set (T.set (T.set .leaf 0 (.ptr K 0)) 1 a1) 6 (.ptr w 0)) 11 (.ptr X 0)) 102 (.int .i64 (80 : Nat))) 103 (.int .i64 (t : Int))) 198 (.int .i64 ((t + 1 : Nat) : Int))) 103 (.int .i64 ((t + 1 : Nat) : Int))))
      (by simp [T.get_set]) (by simp [T.get_set]) (by simp [T.get_set]) (by simp [T.get_set]) (by simp [T.get_set]) (by simp [T.get_set])
    refine ⟨H', r1, g1.trans r2 (Nat.le_refl _), fun k => ?_⟩
    rw [loopK_succ, k1]
    exact r3 k
end Go.Am.AmTrydDig

namespace Go.Am.AmTrydDig
set_option linter.unusedSimpArgs false
set_option linter.unusedVariables false
theorem aloop64 (c : CallK) (N : Nat) (S B X : Nat) (hXS : X ≠ S) (s : List Nat) (hs : s.length = 8) :
    ∀ (n i : Nat) (st : List Nat) (H : Heap) (fr : T V) (τ : Tape) (m : Nat), i + n = 8 → n < m → st.length = 8 → WF H → Bx H S (ws .u64 st) → Bx H X (ws .u64 s) →
    fr.get 1 = some (.ptr S 0) → fr.get 11 = some (.ptr X 0) → fr.get 199 = some (.int .i64 (i : Int)) →
    ∃ H', Bx H' S (ws .u64 (addAll .u64 s n i st)) ∧ Gx S B H H' ∧ ∀ k, loopK (s29_l2 c N) m ⟨fr, H⟩ τ k = k (.exit 6) ⟨.leaf, H'⟩ τ := by
  intro n
  induction n with
  | zero =>
    intro i st H fr τ m ht hm hst hw hS hX f1 f11 f199
    obtain ⟨m, rfl⟩ : ∃ j, m = j + 1 := ⟨m - 1, by omega⟩
    refine ⟨H, hS, Gx.refl hw, fun k => ?_⟩
    have e1 : decide ((i : Int) < Int.ofNat 8) = false := decide_eq_false (by simp; omega)
    rw [loopK_succ]
    simp only [s29_l2, getK_mk f1, getK_mk f11, getK_mk f199, bin_lss, e1, condK_f]
    rfl
  | succ n ih =>
    intro i st H fr τ m ht hm hst hw hS hX f1 f11 f199
    obtain ⟨m, rfl⟩ : ∃ j, m = j + 1 := ⟨m - 1, by omega⟩
    have e1 : decide ((i : Int) < Int.ofNat 8) = true := decide_eq_true (by simp; omega)
    have e8 : ∀ (Y : Nat), pArrIdx 8 1 [.ptr Y 0, .int .i64 (i : Int)] = some (.ptr Y i) := fun Y => by
      have := arrIdx_mk (z := 1) (id := Y) (off := 0) (show i < 8 by omega)
      simpa using this
    have nk : ∀ (i o : Nat), pNilck [.ptr i o] = some (.ptr i o) := fun _ _ => rfl
    have e4 : wr .i64 ((i : Int) + Int.ofNat 1) = ((i + 1 : Nat) : Int) := by rw [wr_id (by simp; omega) (by simp; omega)]; simp
    obtain ⟨H1, s1, s2, s3⟩ := hS.word hw (i := i) (by omega) (addT .u64 (st.getD i 0) (s.getD i 0)) τ
    have g1 := s3.gx (B := B)
    obtain ⟨H', r1, r2, r3⟩ := ih (i + 1) (st.set i (addT .u64 (st.getD i 0) (s.getD i 0))) H1 (τ := τ) (m := m) (by omega) (by omega) (by simp [hst]) s3.wf s2 (hX.only s3 hXS)
      (fr := (T.set (T.set (T.set (T.set (T.set .leaf 1 (.ptr S 0)) 11 (.ptr X 0)) 199 (.int .i64 (i : Int))) 213 (.int .i64 ((i + 1 : Nat) : Int))) 199 (.int .i64 ((i + 1 : Nat) : Int))))
      (by simp [T.get_set]) (by simp [T.get_set]) (by simp [T.get_set])
    refine ⟨H', r1, g1.trans r2 (Nat.le_refl _), fun k => ?_⟩
    rw [loopK_succ]
    simp only [addT] at s1
    simp only [s29_l2, getK_mk f1, getK_mk f11, getK_mk f199, bin_lss, e1, condK_t, nk, e8, someK_mk, load_ws hS (show i < st.length by omega), load_ws hX (show i < s.length by omega), u_add uk64, s1, effK_mk, bin_add, e4]
    exact r3 k
end Go.Am.AmTrydDig

namespace Go.Am.AmTrydDig
set_option linter.unusedSimpArgs false
set_option linter.unusedVariables false
/-- a state, and a block mixed in -/
def mix64 (C bs st : List Nat) : List Nat := addAll .u64 (rounds64 C (sched64 bs 80 0 (List.replicate 80 0)) 80 0 st) 8 0 st
theorem rounds64_len (C W : List Nat) : ∀ n t s, s.length = 8 → (rounds64 C W n t s).length = 8 := by
  intro n; induction n with
  | zero => intro t s h; exact h
  | succ n ih => intro t s h; exact ih _ _ rfl
theorem sched64_len (bs : List Nat) : ∀ n t W, (sched64 bs n t W).length = W.length := by
  intro n; induction n with
  | zero => intros; rfl
  | succ n ih => intro t W; rw [sched64, ih, word64_len]
theorem s29_ret (c : CallK) (N : Nat) (hN : 9223372036854775807 ≤ N) (S K : Nat) (hKS : K ≠ S) (v : V) (bs st C : List Nat) (hlen : bs.length < 100000) (h64 : 128 ≤ bs.length) (hR : Roomy v) (hst : st.length = 8) (hC : C.length = 80) (h35 : Lit35 c) (h36 : Big36 c)
    (H : Heap) (hw : WF H) (hK : Bx H K (ws .i64 largeL)) (hS : Bx H S (ws .u64 st)) (hC5 : CellsS S H.size H 5 (ws .u64 C)) (hRd : RdS S H.size 1 H v bs.length (ws .u8 bs)) (τ : Tape) :
    ∃ H', Bx H' S (ws .u64 (mix64 C bs st)) ∧ Gx S H.size H H' ∧ ∀ q, s29 c N (.ptr K 0) (.ptr S 0) v H τ q = q (.tup []) H' τ := by
  have hKl := hK.lt hw
  have hSl := hS.lt hw
  have a1 : eAlloc (repl 80 [(.int .u64 (.ofNat 0))]) [] H τ = some (.ptr H.size 0, H.new (ws .u64 (List.replicate 80 0)) 80 true, τ) := rfl
  have g1 := Gr.new hw (ws .u64 (List.replicate 80 0)) 80 true
  have w1 := Bx.new H (ws .u64 (List.replicate 80 0)) 80 true (Nat.le_refl _)
  generalize H.new (ws .u64 (List.replicate 80 0)) 80 true = H1 at a1 g1 w1
  have K1 := hK.gr g1 hKl
  have S1 := hS.gr g1 hSl
  have hRw : RdS H.size H.size 1 H1 v bs.length (ws .u8 bs) := fun H' h => hRd H' (g1.gx.trans (h.gr (Nat.le_refl _)).gx (Nat.le_refl _))
  obtain ⟨H2, w2, g2', k2⟩ := loop64 c N hN H.size H.size H.size K (Nat.le_refl _) hKl (by omega) v (.ptr S 0) bs hlen h64 hR h35 80 0 (List.replicate 80 0) H1 (τ := τ) (m := N) (by omega) (by omega) (by simp) g1.wf g1.size w1 K1 hRw
    (fr := (T.set (T.set (T.set (T.set (T.set (T.set (T.set .leaf 0 (.ptr K 0)) 1 (.ptr S 0)) 2 v) 6 (.ptr H.size 0)) 7 (.int .i64 (8 : Nat))) 26 (.int .i64 (80 : Nat))) 27 (.int .i64 (.ofNat 0))))
    (by simp [T.get_set]) (by simp [T.get_set]) (by simp [T.get_set]) (by simp [T.get_set]) (by simp [T.get_set]) (by simp [T.get_set]) (by simp [T.get_set])
  have g2 := g2'.gr (Nat.le_refl _)
  have g12 := g1.trans g2 (Nat.le_refl _)
  have K2 := hK.gr g12 hKl
  have S2 := hS.gr g12 hSl
  have ld : lLoadN 8 [.ptr S 0] H2 = some (.agg (ws .u64 st)) := by
    simp only [lLoadN, loads_cells S2.cells (show 0 + 8 ≤ (ws .u64 st).length by rw [ws_len]; omega)]
    rw [List.drop_zero, List.take_of_length_le (by rw [ws_len]; omega)]
  have a2 : eAlloc (repl 8 [(.int .u64 (.ofNat 0))]) [] H2 τ = some (.ptr H2.size 0, H2.new (ws .u64 (List.replicate 8 0)) 8 true, τ) := rfl
  have g3 := Gr.new g12.wf (ws .u64 (List.replicate 8 0)) 8 true
  have x3 := Bx.new H2 (ws .u64 (List.replicate 8 0)) 8 true (Nat.le_refl _)
  generalize H2.new (ws .u64 (List.replicate 8 0)) 8 true = H3 at a2 g3 x3
  have w3 := w2.gr g3 (w2.lt g12.wf)
  have g13 := g12.trans g3 g12.size
  obtain ⟨H4, s1, s2, s3⟩ := x3.eStore g3.wf 0 (.agg (ws .u64 st)) 8 (by simp only [V.cells]; rw [ws_len]; exact hst) (by simp [ws_len]) (by omega) (by simp [V.cells, ws, V.scal]) τ
  have e8 : (ws .u64 (List.replicate 8 0)).take 0 ++ (V.agg (ws .u64 st)).cells ++ (ws .u64 (List.replicate 8 0)).drop (0 + 8) = ws .u64 st := by
    rw [List.drop_eq_nil_of_le (by simp [ws_len])]; simp [V.cells]
  rw [e8] at s2
  have hX : H.size ≤ H2.size := g12.size
  have hwX : H.size ≠ H2.size := by have := w2.lt g12.wf; omega
  have g14 := g13.trans (s3.gr (Nat.le_refl _)) hX
  have K4 := hK.gr g14 hKl
  have S4 := hS.gr g14 hSl
  have w4 := w3.only s3 hwX
  have C4 : CellsS H.size H.size H4 5 (ws .u64 C) := fun H' h => hC5 H' (g14.gx.trans (h.gr (Nat.le_refl _)).gx (Nat.le_refl _))
  obtain ⟨H5, x5, g5', k5⟩ := rloop64 c N H.size H.size H.size K H2.size (Nat.le_refl _) hX (by omega) hwX (.ptr S 0) C (sched64 bs 80 0 (List.replicate 80 0)) hC (by rw [sched64_len]; simp) h36 80 0 st H4 (τ := τ) (m := N) (by omega) (by omega) hst g14.wf g14.size w4 s2 K4 C4
    (fr := (T.set (T.set (T.set (T.set (T.set (T.set .leaf 0 (.ptr K 0)) 1 (.ptr S 0)) 6 (.ptr H.size 0)) 11 (.ptr H2.size 0)) 102 (.int .i64 (80 : Nat))) 103 (.int .i64 (.ofNat 0))))
    (by simp [T.get_set]) (by simp [T.get_set]) (by simp [T.get_set]) (by simp [T.get_set]) (by simp [T.get_set]) (by simp [T.get_set])
  have g15 := g14.trans (g5'.gr (Nat.le_refl _)) (Nat.le_refl _)
  have S5 := hS.gr g15 hSl
  obtain ⟨H6, r1, r2, r3⟩ := aloop64 c N S H.size H2.size (by omega) (rounds64 C (sched64 bs 80 0 (List.replicate 80 0)) 80 0 st) (rounds64_len _ _ _ _ _ hst) 8 0 st H5 (τ := τ) (m := N) (by omega) (by omega) hst g15.wf S5 x5
    (fr := (T.set (T.set (T.set .leaf 1 (.ptr S 0)) 11 (.ptr H2.size 0)) 199 (.int .i64 (.ofNat 0))))
    (by simp [T.get_set]) (by simp [T.get_set]) (by simp [T.get_set])
  refine ⟨H6, r1, g15.gx.trans r2 (Nat.le_refl _), fun q => ?_⟩
  have nk : ∀ (i o : Nat), pNilck [.ptr i o] = some (.ptr i o) := fun _ _ => rfl
  have fa : ∀ (i o : Nat), pFieldAddr o [.ptr i 0] = some (.ptr i o) := fun _ _ => by simp [pFieldAddr]
  have lb : ∀ {H : Heap}, Bx H K (ws .i64 largeL) → lLoad1 [.ptr K 0] H = some (.int .i64 ((64 : Nat) : Int)) := fun h => load_ws h (by decide)
  have lr : ∀ {H : Heap}, Bx H K (ws .i64 largeL) → lLoad1 [.ptr K 1] H = some (.int .i64 ((80 : Nat) : Int)) := fun h => load_ws h (by decide)
  have eq : wr .i64 (((64 : Nat) : Int).tdiv (Int.ofNat 8)) = ((8 : Nat) : Int) := rfl
  simp only [s29, a1, effK_mk, nk, someK_mk, fa, lb K1, lr K1]
  rw [bin_quo _ _ _ (by decide), eq, k2]
  simp only [blockK, Nat.beq_refl, cond_true, seqK, s29_j0, getK_set, ↓reduceIte, Nat.reduceEqDiff, nk, someK_mk, ld, a2, effK_mk, s1, fa, lr K4]
  rw [k5]
  simp only [blockK, Nat.beq_refl, cond_true, seqK, s29_j1, getK_set, ↓reduceIte, Nat.reduceEqDiff]
  rw [r3]
  rfl
end Go.Am.AmTrydDig

namespace Go.Am.AmTrydDig
set_option linter.unusedSimpArgs false
set_option linter.unusedVariables false
/-! ### a hash of long words: its loops -/
abbrev Mix29 (c : CallK) (C : List Nat) : Prop := ∀ (S K : Nat) (v : V) (bs st : List Nat), K ≠ S → bs.length < 100000 → 128 ≤ bs.length → Roomy v → st.length = 8 → ∀ H, WF H → Bx H K (ws .i64 largeL) → Bx H S (ws .u64 st) → CellsS S H.size H 5 (ws .u64 C) → RdS S H.size 1 H v bs.length (ws .u8 bs) → ∀ τ,
  ∃ H', Bx H' S (ws .u64 (mix64 C bs st)) ∧ Gx S H.size H H' ∧ ∀ q, c 29 [.ptr K 0, .ptr S 0, v] H τ q = q (.tup []) H' τ
def blocks64 (C : List Nat) (bs : List Nat) : Nat → Nat → List Nat → List Nat
  | 0, _, st => st
  | n + 1, i, st => blocks64 C bs n (i + 128) (mix64 C (bs.drop i) st)
theorem mix64_len (C bs st : List Nat) (h : st.length = 8) : (mix64 C bs st).length = 8 := by unfold mix64; rw [addAll_len, h]
theorem blocks64_len (C bs : List Nat) : ∀ n i st, st.length = 8 → (blocks64 C bs n i st).length = 8 := by
  intro n; induction n with
  | zero => intro i st h; exact h
  | succ n ih => intro i st h; exact ih _ _ (mix64_len _ _ _ h)
theorem fa0 (i o : Nat) : pFieldAddr o [.ptr i 0] = some (.ptr i o) := by simp [pFieldAddr]
theorem lk64 {H : Heap} {K : Nat} (h : Bx H K (ws .i64 largeL)) {i : Nat} (hi : i < 17) : lLoad1 [.ptr K i] H = some (.int .i64 ((largeL.getD i 0 : Nat) : Int)) := load_ws h (by simpa [largeL] using hi)

theorem l13_64 (c : CallK) (N : Nat) (S K B L : Nat) (hKS : K ≠ S) (v : V) (bs C : List Nat) (hlen : bs.length < 90000) (hL : L ≤ bs.length) (hR : Roomy v) (h29 : Mix29 c C) :
    ∀ (n i : Nat) (st : List Nat) (H : Heap) (fr : T V) (τ : Tape) (m : Nat), i + n * 128 = L → n < m → st.length = 8 → WF H → B ≤ H.size → Bx H K (ws .i64 largeL) → Bx H S (ws .u64 st) → CellsS S B H 5 (ws .u64 C) → RdS S B 1 H v bs.length (ws .u8 bs) →
    fr.get 2 = some v → fr.get 3 = some (.ptr K 0) → fr.get 4 = some (.ptr S 0) → fr.get 7 = some (.int .i64 (L : Int)) → fr.get 8 = some (.int .i64 (i : Int)) →
    ∃ H', Bx H' S (ws .u64 (blocks64 C bs n i st)) ∧ Gx S H.size H H' ∧ ∀ k, loopK (s21_l13 c N) m ⟨fr, H⟩ τ k = k (.exit 0) ⟨(T.set (T.set (T.set (T.set .leaf 2 v) 3 (.ptr K 0)) 4 (.ptr S 0)) 7 (.int .i64 (L : Int))), H'⟩ τ := by
  intro n
  induction n with
  | zero =>
    intro i st H fr τ m ht hm hst hw hB hK hS hC hRd f2 f3 f4 f7 f8
    obtain ⟨m, rfl⟩ : ∃ j, m = j + 1 := ⟨m - 1, by omega⟩
    refine ⟨H, hS, Gx.refl hw, fun k => ?_⟩
    have e1 : decide ((i : Int) < (L : Int)) = false := decide_eq_false (by omega)
    rw [loopK_succ]
    simp only [s21_l13, getK_mk f2, getK_mk f3, getK_mk f4, getK_mk f7, getK_mk f8, bin_lss, e1, condK_f]
    rfl
  | succ n ih =>
    intro i st H fr τ m ht hm hst hw hB hK hS hC hRd f2 f3 f4 f7 f8
    obtain ⟨m, rfl⟩ : ∃ j, m = j + 1 := ⟨m - 1, by omega⟩
    have e1 : decide ((i : Int) < (L : Int)) = true := decide_eq_true (by omega)
    obtain ⟨v', c1, c2, _, c3⟩ := (hRd.rd hw).from hR (l := i) (by omega)
    have hw8 : (ws .u8 bs).drop (i * 1) = ws .u8 (bs.drop i) := by simp [ws, List.map_drop]
    have c4 : RdS S B 1 H v' (bs.drop i).length (ws .u8 (bs.drop i)) := fun H' hg => by
      have := c3 H' _ (hRd H' hg)
      rw [hw8] at this
      simpa using this
    obtain ⟨H1, b1, g1, k1⟩ := h29 S K v' (bs.drop i) st hKS (by simp; omega) (by simp; omega) c2 hst H hw hK hS (fun H' hg => hC H' (hg.weaken hB)) (fun H' hg => c4 H' (hg.weaken hB)) τ
    have K1 := hK.gx g1 (hK.lt hw) hKS
    have e4 : wr .i64 ((i : Int) + ((128 : Nat) : Int)) = ((i + 128 : Nat) : Int) := by rw [wr_id (by omega) (by omega)]; simp
    obtain ⟨H', r1, r2, r3⟩ := ih (i + 128) (mix64 C (bs.drop i) st) H1 (τ := τ) (m := m) (by omega) (by omega) (mix64_len _ _ _ hst) g1.wf (Nat.le_trans hB g1.size) K1 b1 (hC.gx (g1.weaken hB)) (hRd.gx (g1.weaken hB))
      (fr := (T.set (T.set (T.set (T.set (T.set (T.set (T.set (T.set (T.set (T.set .leaf 2 v) 3 (.ptr K 0)) 4 (.ptr S 0)) 7 (.int .i64 (L : Int))) 8 (.int .i64 (i : Int))) 28 (.int .i64 (i : Int))) 29 (.ptr K 14)) 30 (.int .i64 ((128 : Nat) : Int))) 31 (.int .i64 ((i + 128 : Nat) : Int))) 8 (.int .i64 ((i + 128 : Nat) : Int))))
      (by simp [T.get_set]) (by simp [T.get_set]) (by simp [T.get_set]) (by simp [T.get_set]) (by simp [T.get_set])
    refine ⟨H', r1, g1.trans r2 g1.size, fun k => ?_⟩
    rw [loopK_succ]
    have l14 := lk64 K1 (i := 14) (by omega)
    simp only [largeL, List.getD_cons_succ, List.getD_cons_zero] at l14
    simp only [s21_l13, getK_mk f2, getK_mk f3, getK_mk f4, getK_mk f7, getK_mk f8, bin_lss, e1, condK_t, c1, someK_mk, k1, fa0, l14, bin_add, e4]
    exact r3 k

/-- the same over the tail -/
theorem l8_64 (c : CallK) (N : Nat) (S K B : Nat) (hKS : K ≠ S) (v : V) (bs C : List Nat) (hlen : bs.length < 90000) (hR : Roomy v) (h29 : Mix29 c C) :
    ∀ (n i : Nat) (st : List Nat) (H : Heap) (fr : T V) (τ : Tape) (m : Nat), i + n * 128 = bs.length → n < m → st.length = 8 → WF H → B ≤ H.size → Bx H K (ws .i64 largeL) → Bx H S (ws .u64 st) → CellsS S B H 5 (ws .u64 C) → RdS S B 1 H v bs.length (ws .u8 bs) →
    fr.get 3 = some (.ptr K 0) → fr.get 4 = some (.ptr S 0) → fr.get 9 = some v → fr.get 12 = some (.int .i64 (i : Int)) →
    ∃ H', Bx H' S (ws .u64 (blocks64 C bs n i st)) ∧ Gx S H.size H H' ∧ ∀ k, loopK (s21_l8 c N) m ⟨fr, H⟩ τ k = k (.exit 6) ⟨(T.set (T.set .leaf 3 (.ptr K 0)) 4 (.ptr S 0)), H'⟩ τ := by
  intro n
  induction n with
  | zero =>
    intro i st H fr τ m ht hm hst hw hB hK hS hC hRd f3 f4 f9 f12
    obtain ⟨m, rfl⟩ : ∃ j, m = j + 1 := ⟨m - 1, by omega⟩
    refine ⟨H, hS, Gx.refl hw, fun k => ?_⟩
    have e1 : decide ((i : Int) < (bs.length : Int)) = false := decide_eq_false (by omega)
    rw [loopK_succ]
    simp only [s21_l8, getK_mk f3, getK_mk f4, getK_mk f9, getK_mk f12, (hRd.rd hw).pLen, someK_mk, bin_lss, e1, condK_f]
    rfl
  | succ n ih =>
    intro i st H fr τ m ht hm hst hw hB hK hS hC hRd f3 f4 f9 f12
    obtain ⟨m, rfl⟩ : ∃ j, m = j + 1 := ⟨m - 1, by omega⟩
    have e1 : decide ((i : Int) < (bs.length : Int)) = true := decide_eq_true (by omega)
    obtain ⟨v', c1, c2, _, c3⟩ := (hRd.rd hw).from hR (l := i) (by omega)
    have hw8 : (ws .u8 bs).drop (i * 1) = ws .u8 (bs.drop i) := by simp [ws, List.map_drop]
    have c4 : RdS S B 1 H v' (bs.drop i).length (ws .u8 (bs.drop i)) := fun H' hg => by
      have := c3 H' _ (hRd H' hg)
      rw [hw8] at this
      simpa using this
    obtain ⟨H1, b1, g1, k1⟩ := h29 S K v' (bs.drop i) st hKS (by simp; omega) (by simp; omega) c2 hst H hw hK hS (fun H' hg => hC H' (hg.weaken hB)) (fun H' hg => c4 H' (hg.weaken hB)) τ
    have K1 := hK.gx g1 (hK.lt hw) hKS
    have e4 : wr .i64 ((i : Int) + ((128 : Nat) : Int)) = ((i + 128 : Nat) : Int) := by rw [wr_id (by omega) (by omega)]; simp
    obtain ⟨H', r1, r2, r3⟩ := ih (i + 128) (mix64 C (bs.drop i) st) H1 (τ := τ) (m := m) (by omega) (by omega) (mix64_len _ _ _ hst) g1.wf (Nat.le_trans hB g1.size) K1 b1 (hC.gx (g1.weaken hB)) (hRd.gx (g1.weaken hB))
      (fr := (T.set (T.set (T.set (T.set (T.set (T.set (T.set (T.set (T.set .leaf 3 (.ptr K 0)) 4 (.ptr S 0)) 9 v) 12 (.int .i64 (i : Int))) 80 (.int .i64 (i : Int))) 81 (.ptr K 14)) 82 (.int .i64 ((128 : Nat) : Int))) 83 (.int .i64 ((i + 128 : Nat) : Int))) 12 (.int .i64 ((i + 128 : Nat) : Int))))
      (by simp [T.get_set]) (by simp [T.get_set]) (by simp [T.get_set]) (by simp [T.get_set])
    refine ⟨H', r1, g1.trans r2 g1.size, fun k => ?_⟩
    rw [loopK_succ]
    have l14 := lk64 K1 (i := 14) (by omega)
    simp only [largeL, List.getD_cons_succ, List.getD_cons_zero] at l14
    simp only [s21_l8, getK_mk f3, getK_mk f4, getK_mk f9, getK_mk f12, (hRd.rd hw).pLen, bin_lss, e1, condK_t, c1, someK_mk, k1, fa0, l14, bin_add, e4]
    exact r3 k
end Go.Am.AmTrydDig

namespace Go.Am.AmTrydDig
set_option linter.unusedSimpArgs false
set_option linter.unusedVariables false
theorem ws_snoc (k : IntKind) (l : List Nat) (n : Nat) : ws k l ++ [V.int k (n : Int)] = ws k (l ++ [n]) := by simp [ws]

/-- noughts behind the tail -/
theorem l12_64 (c : CallK) (N : Nat) (S K B : Nat) (hKB : K < B) (v : V) :
    ∀ (n : Nat) (tl : List Nat) (t : V) (H : Heap) (fr : T V) (τ : Tape) (m : Nat), (tl.length + 16 + n) % 128 = 0 → n < 128 → tl.length + n < 100000 → n < m → WF H → B ≤ H.size → Own H B 1 t tl.length (ws .u8 tl) → Bx H K (ws .i64 largeL) →
    fr.get 2 = some v → fr.get 3 = some (.ptr K 0) → fr.get 4 = some (.ptr S 0) → fr.get 9 = some t →
    ∃ t' H' τ', Own H' B 1 t' (tl ++ List.replicate n 0).length (ws .u8 (tl ++ List.replicate n 0)) ∧ Gr B H H' ∧ ∀ k, loopK (s21_l12 c N) m ⟨fr, H⟩ τ k = k (.exit 2) ⟨(T.set (T.set (T.set (T.set .leaf 2 v) 3 (.ptr K 0)) 4 (.ptr S 0)) 9 t'), H'⟩ τ' := by
  intro n
  induction n with
  | zero =>
    intro tl t H fr τ m ht hn hlen hm hw hB hO hK f2 f3 f4 f9
    obtain ⟨m, rfl⟩ : ∃ j, m = j + 1 := ⟨m - 1, by omega⟩
    refine ⟨t, H, τ, by simpa using hO, Gr.refl hw, fun k => ?_⟩
    have l15 := lk64 hK (i := 15) (by omega)
    have l14 := lk64 hK (i := 14) (by omega)
    simp only [largeL, List.getD_cons_succ, List.getD_cons_zero] at l14 l15
    have e4 : wr .i64 ((tl.length : Int) + ((16 : Nat) : Int)) = ((tl.length + 16 : Nat) : Int) := by rw [wr_id (by omega) (by omega)]; simp
    have e5 : ((tl.length + 16 : Nat) : Int).tmod ((128 : Nat) : Int) = 0 := by
      rw [← Int.ofNat_tmod]; rw [show (tl.length + 16) % 128 = 0 by omega]; rfl
    have e6 : ((0 : Int) != Int.ofNat 0) = false := rfl
    rw [loopK_succ]
    simp only [s21_l12, getK_mk f2, getK_mk f3, getK_mk f4, getK_mk f9, hO.pLen, someK_mk, fa0, l15, l14, bin_add, e4, bin_rem _ _ ((128 : Nat) : Int) (by decide), e5, bin_neq, e6, condK_f]
    rfl
  | succ n ih =>
    intro tl t H fr τ m ht hn hlen hm hw hB hO hK f2 f3 f4 f9
    obtain ⟨m, rfl⟩ : ∃ j, m = j + 1 := ⟨m - 1, by omega⟩
    have l15 := lk64 hK (i := 15) (by omega)
    have l14 := lk64 hK (i := 14) (by omega)
    simp only [largeL, List.getD_cons_succ, List.getD_cons_zero] at l14 l15
    have e4 : wr .i64 ((tl.length : Int) + ((16 : Nat) : Int)) = ((tl.length + 16 : Nat) : Int) := by rw [wr_id (by omega) (by omega)]; simp
    have e5 : ((tl.length + 16 : Nat) : Int).tmod ((128 : Nat) : Int) = (((tl.length + 16) % 128 : Nat) : Int) := by
      rw [← Int.ofNat_tmod]
    have e6 : ((((tl.length + 16) % 128 : Nat) : Int) != Int.ofNat 0) = true := by
      simp only [bne_iff_ne, ne_eq]
      intro h
      have : (tl.length + 16) % 128 = 0 := Int.ofNat.inj h
      omega
    obtain ⟨w, H1, t', H2, p1, p2, p3, p4, p5⟩ := hO.push (bytes := 1) hw hB (.int .u8 ((0 : Nat) : Int)) (.int .u8 (.ofNat 0)) rfl rfl (by omega) (by omega) τ
    rw [ws_snoc] at p3
    have q0 : Own H2 B 1 t' (tl ++ [0]).length (ws .u8 (tl ++ [0])) := by simpa using p3
    obtain ⟨t2, H', τ', r1, r2, r3⟩ := ih (tl ++ [0]) t' H2 (τ := τ.tail) (m := m) (by simp; omega) (by omega) (by simp; omega) (by omega) p4.wf (Nat.le_trans hB p4.size) q0 (hK.gr p4 hKB)
      (fr := (T.set (T.set (T.set (T.set (T.set (T.set (T.set (T.set .leaf 2 v) 3 (.ptr K 0)) 4 (.ptr S 0)) 9 t) 52 t) 53 w) 54 t') 9 t'))
      (by simp [T.get_set]) (by simp [T.get_set]) (by simp [T.get_set]) (by simp [T.get_set])
    have ea : tl ++ [0] ++ List.replicate n 0 = tl ++ List.replicate (n + 1) 0 := by simp [List.replicate_succ]
    rw [ea] at r1
    refine ⟨t2, H', τ', r1, p4.trans r2 (Nat.le_refl _), fun k => ?_⟩
    rw [loopK_succ]
    have p1' : eBuildSlice 1 1 [(V.int .u8 (.ofNat 0))] [(0, 1)] [(V.int .u8 (.ofNat 0))] H τ = some (w, H1, τ) := p1
    simp only [s21_l12, getK_mk f2, getK_mk f3, getK_mk f4, getK_mk f9, hO.pLen, someK_mk, fa0, l15, l14, bin_add, e4, bin_rem _ _ ((128 : Nat) : Int) (by decide), e5, bin_neq, e6, condK_t, p1', p2, effK_mk]
    exact r3 k

def lenW (L i : Nat) : Nat := if i < 8 then (L % pow2 .u64 * 8 % pow2 .u64 / 2 ^ min (8 * i) IntKind.u64.bits) % pow2 .u8 else 0
def lens (L : Nat) : Nat → List Nat
  | 0 => []
  | n + 1 => lenW L n :: lens L n
theorem lens_len (L : Nat) : ∀ n, (lens L n).length = n := by
  intro n; induction n with
  | zero => rfl
  | succ n ih => simp [lens, ih]
/-- the text's length -/
theorem l9_64 (c : CallK) (N : Nat) (S K B L : Nat) (v : V) (hL : pLen [v] = some (.int .i64 (L : Int))) :
    ∀ (n : Nat) (tl : List Nat) (t : V) (H : Heap) (fr : T V) (τ : Tape) (m : Nat), n < 20 → tl.length + n < 200000 → n < m → WF H → B ≤ H.size → Own H B 1 t tl.length (ws .u8 tl) →
    fr.get 2 = some v → fr.get 3 = some (.ptr K 0) → fr.get 4 = some (.ptr S 0) → fr.get 9 = some t → fr.get 10 = some (.int .i64 ((n : Int) - 1)) →
    ∃ t' H' τ', Own H' B 1 t' (tl ++ lens L n).length (ws .u8 (tl ++ lens L n)) ∧ Gr B H H' ∧ ∀ k, loopK (s21_l9 c N) m ⟨fr, H⟩ τ k = k (.exit 4) ⟨(T.set (T.set (T.set .leaf 3 (.ptr K 0)) 4 (.ptr S 0)) 9 t'), H'⟩ τ' := by
  intro n
  induction n with
  | zero =>
    intro tl t H fr τ m hn hlen hm hw hB hO f2 f3 f4 f9 f10
    obtain ⟨m, rfl⟩ : ∃ j, m = j + 1 := ⟨m - 1, by omega⟩
    refine ⟨t, H, τ, by simpa [lens] using hO, Gr.refl hw, fun k => ?_⟩
    have e1 : decide (Int.ofNat 0 ≤ (((0 : Nat) : Int) - 1)) = false := by decide
    rw [loopK_succ]
    simp only [s21_l9, getK_mk f2, getK_mk f3, getK_mk f4, getK_mk f9, getK_mk f10, bin_geq, e1, condK_f]
    rfl
  | succ n ih =>
    intro tl t H fr τ m hn hlen hm hw hB hO f2 f3 f4 f9 f10
    obtain ⟨m, rfl⟩ : ∃ j, m = j + 1 := ⟨m - 1, by omega⟩
    have en : (((n + 1 : Nat) : Int) - 1) = (n : Int) := by omega
    rw [en] at f10
    have e1 : decide (Int.ofNat 0 ≤ (n : Int)) = true := decide_eq_true (by simp)
    obtain ⟨w, H1, t', H2, p1, p2, p3, p4, p5⟩ := hO.push (bytes := 1) hw hB (.int .u8 ((lenW L n : Nat) : Int)) (.int .u8 (.ofNat 0)) rfl rfl (by omega) (by omega) τ
    rw [ws_snoc] at p3
    have q0 : Own H2 B 1 t' (tl ++ [lenW L n]).length (ws .u8 (tl ++ [lenW L n])) := by simpa using p3
    have e7 : wr .i64 ((n : Int) - Int.ofNat 1) = (n : Int) - 1 := by rw [wr_id (by simp; omega) (by simp; omega)]; rfl
    obtain ⟨t2, H', τ', r1, r2, r3⟩ := ih (tl ++ [lenW L n]) t' H2 (τ := τ.tail) (m := m) (by omega) (by simp; omega) (by omega) p4.wf (Nat.le_trans hB p4.size) q0
      (fr := (T.set (T.set (T.set (T.set (T.set (T.set (T.set (T.set .leaf 2 v) 3 (.ptr K 0)) 4 (.ptr S 0)) 9 t') 10 (.int .i64 (n : Int))) 60 (.int .i64 (n : Int))) 61 (.int .i64 ((n : Int) - 1))) 10 (.int .i64 ((n : Int) - 1))))
      (by simp [T.get_set]) (by simp [T.get_set]) (by simp [T.get_set]) (by simp [T.get_set]) (by simp [T.get_set])
    have ea : tl ++ [lenW L n] ++ lens L n = tl ++ lens L (n + 1) := by simp [lens]
    rw [ea] at r1
    refine ⟨t2, H', τ', r1, p4.trans r2 (Nat.le_refl _), fun k => ?_⟩
    rw [loopK_succ]
    by_cases h8 : n < 8
    · have e2 : decide ((n : Int) < Int.ofNat 8) = true := decide_eq_true (by simp; omega)
      have e3 : wr .i64 (Int.ofNat 8 * (n : Int)) = ((8 * n : Nat) : Int) := by rw [wr_id (by simp; omega) (by simp; omega)]; simp
      have eW : lenW L n = (L % pow2 .u64 * 8 % pow2 .u64 / 2 ^ min (8 * n) IntKind.u64.bits) % pow2 .u8 := by unfold lenW; rw [if_pos h8]
      rw [eW] at p1
      have e6 : ∀ (q : V → Ans), binK .mul (.int .u64 ((L % pow2 .u64 : Nat) : Int)) (.int .u64 (.ofNat 8)) q = q (.int .u64 ((L % pow2 .u64 * 8 % pow2 .u64 : Nat) : Int)) := fun q => u_mul uk64 _ 8 q
      simp only [s21_l9, getK_mk f2, getK_mk f3, getK_mk f4, getK_mk f9, getK_mk f10, bin_geq, e1, condK_t, bin_lss, e2, hL, someK_mk, toInt_mk, uk64 L, e6, bin_mul, e3, u_shr, uk8 _, s21_j11, getK_set, ↓reduceIte, Nat.reduceEqDiff, p1, p2, effK_mk, s21_j10, bin_sub, e7]
      exact r3 k
    · have e2 : decide ((n : Int) < Int.ofNat 8) = false := decide_eq_false (by simp; omega)
      have eW : lenW L n = 0 := by unfold lenW; rw [if_neg h8]
      rw [eW] at p1
      have p1' : eBuildSlice 1 1 [(V.int .u8 (.ofNat 0))] [(0, 1)] [(V.int .u8 (.ofNat 0))] H τ = some (w, H1, τ) := p1
      simp only [s21_l9, getK_mk f2, getK_mk f3, getK_mk f4, getK_mk f9, getK_mk f10, bin_geq, e1, condK_t, bin_lss, e2, condK_f, s21_j11, getK_set, ↓reduceIte, Nat.reduceEqDiff, p1', p2, effK_mk, s21_j10, bin_sub, e7]
      exact r3 k

/-- a word's bytes -/
def wordB (k : IntKind) (x : Nat) : Nat → List Nat
  | 0 => []
  | n + 1 => (x / 2 ^ min (8 * n) k.bits % pow2 .u8) :: wordB k x n
theorem wordB_len (k : IntKind) (x : Nat) : ∀ n, (wordB k x n).length = n := by
  intro n; induction n with
  | zero => rfl
  | succ n ih => simp [wordB, ih]
theorem l7_64 (c : CallK) (N : Nat) (K B x : Nat) (a88 a89 : V) :
    ∀ (n : Nat) (tl : List Nat) (t : V) (H : Heap) (fr : T V) (τ : Tape) (m : Nat), n < 20 → tl.length + n < 200000 → n < m → WF H → B ≤ H.size → Own H B 1 t tl.length (ws .u8 tl) →
    fr.get 3 = some (.ptr K 0) → fr.get 13 = some t → fr.get 15 = some (.int .u64 (x : Int)) → fr.get 16 = some (.int .i64 (8 * (n : Int) - 8)) → fr.get 88 = some a88 → fr.get 89 = some a89 →
    ∃ t' H' τ', Own H' B 1 t' (tl ++ wordB .u64 x n).length (ws .u8 (tl ++ wordB .u64 x n)) ∧ Gr B H H' ∧ ∀ k, loopK (s21_l7 c N) m ⟨fr, H⟩ τ k = k (.exit 10) ⟨(T.set (T.set (T.set (T.set .leaf 3 (.ptr K 0)) 13 t') 88 a88) 89 a89), H'⟩ τ' := by
  intro n
  induction n with
  | zero =>
    intro tl t H fr τ m hn hlen hm hw hB hO f3 f13 f15 f16 f88 f89
    obtain ⟨m, rfl⟩ : ∃ j, m = j + 1 := ⟨m - 1, by omega⟩
    refine ⟨t, H, τ, by simpa [wordB] using hO, Gr.refl hw, fun k => ?_⟩
    have e1 : decide (Int.ofNat 0 ≤ (8 * ((0 : Nat) : Int) - 8)) = false := by decide
    rw [loopK_succ]
    simp only [s21_l7, getK_mk f3, getK_mk f13, getK_mk f15, getK_mk f16, getK_mk f88, getK_mk f89, bin_geq, e1, condK_f]
    rfl
  | succ n ih =>
    intro tl t H fr τ m hn hlen hm hw hB hO f3 f13 f15 f16 f88 f89
    obtain ⟨m, rfl⟩ : ∃ j, m = j + 1 := ⟨m - 1, by omega⟩
    have en : (8 * ((n + 1 : Nat) : Int) - 8) = ((8 * n : Nat) : Int) := by omega
    rw [en] at f16
    have e1 : decide (Int.ofNat 0 ≤ ((8 * n : Nat) : Int)) = true := decide_eq_true (by simp; omega)
    obtain ⟨w, H1, t', H2, p1, p2, p3, p4, p5⟩ := hO.push (bytes := 1) hw hB (.int .u8 ((x / 2 ^ min (8 * n) IntKind.u64.bits % pow2 .u8 : Nat) : Int)) (.int .u8 (.ofNat 0)) rfl rfl (by omega) (by omega) τ
    rw [ws_snoc] at p3
    have q0 : Own H2 B 1 t' (tl ++ [x / 2 ^ min (8 * n) IntKind.u64.bits % pow2 .u8]).length (ws .u8 (tl ++ [x / 2 ^ min (8 * n) IntKind.u64.bits % pow2 .u8])) := by simpa using p3
    have e7 : wr .i64 (((8 * n : Nat) : Int) - Int.ofNat 8) = 8 * (n : Int) - 8 := by rw [wr_id (by simp; omega) (by simp; omega)]; simp
    obtain ⟨t2, H', τ', r1, r2, r3⟩ := ih (tl ++ [x / 2 ^ min (8 * n) IntKind.u64.bits % pow2 .u8]) t' H2 (τ := τ.tail) (m := m) (by omega) (by simp; omega) (by omega) p4.wf (Nat.le_trans hB p4.size) q0
      (fr := (T.set (T.set (T.set (T.set (T.set (T.set (T.set (T.set (T.set .leaf 3 (.ptr K 0)) 13 t') 15 (.int .u64 (x : Int))) 16 (.int .i64 ((8 * n : Nat) : Int))) 88 a88) 89 a89) 97 (.int .i64 ((8 * n : Nat) : Int))) 98 (.int .i64 (8 * (n : Int) - 8))) 16 (.int .i64 (8 * (n : Int) - 8))))
      (by simp [T.get_set]) (by simp [T.get_set]) (by simp [T.get_set]) (by simp [T.get_set]) (by simp [T.get_set]) (by simp [T.get_set])
    have ea : tl ++ [x / 2 ^ min (8 * n) IntKind.u64.bits % pow2 .u8] ++ wordB .u64 x n = tl ++ wordB .u64 x (n + 1) := by simp [wordB]
    rw [ea] at r1
    refine ⟨t2, H', τ', r1, p4.trans r2 (Nat.le_refl _), fun k => ?_⟩
    rw [loopK_succ]
    simp only [s21_l7, getK_mk f3, getK_mk f13, getK_mk f15, getK_mk f16, getK_mk f88, getK_mk f89, bin_geq, e1, condK_t, u_shr, toInt_mk, uk8 _, p1, p2, effK_mk, bin_sub, e7]
    exact r3 k

def outB (k : IntKind) (n : Nat) (st : List Nat) : List Nat := st.flatMap fun x => wordB k x n
theorem outB_len (k : IntKind) (n : Nat) : ∀ st, (outB k n st).length = st.length * n := by
  intro st; induction st with
  | nil => simp [outB]
  | cons x st ih => simp only [outB, List.flatMap_cons, List.length_append, wordB_len, List.length_cons] at ih ⊢; rw [ih]; rw [Nat.add_mul]; omega
/-- the words' bytes -/
theorem l5_64 (c : CallK) (N : Nat) (hN : 20 < N) (K B : Nat) (hKB : K < B) (st : List Nat) (hst : st.length = 8) :
    ∀ (l : List Nat) (i : Nat) (tl : List Nat) (t : V) (H : Heap) (fr : T V) (τ : Tape) (m : Nat), st.drop i = l → i ≤ 8 → tl.length + 8 * l.length < 150000 → l.length < m → WF H → B ≤ H.size → Own H B 1 t tl.length (ws .u8 tl) → Bx H K (ws .i64 largeL) →
    fr.get 3 = some (.ptr K 0) → fr.get 13 = some t → fr.get 88 = some (.agg (ws .u64 st)) → fr.get 89 = some (.int .i64 (i : Int)) →
    ∃ t' H' τ', Own H' B 1 t' (tl ++ outB .u64 8 l).length (ws .u8 (tl ++ outB .u64 8 l)) ∧ Gr B H H' ∧ ∀ k, loopK (s21_l5 c N) m ⟨fr, H⟩ τ k = k (.exit 8) ⟨(T.set .leaf 13 t'), H'⟩ τ' := by
  intro l
  induction l with
  | nil =>
    intro i tl t H fr τ m hd hi hlen hm hw hB hO hK f3 f13 f88 f89
    obtain ⟨m, rfl⟩ : ∃ j, m = j + 1 := ⟨m - 1, by omega⟩
    have : i = 8 := by have := congrArg List.length hd; simp at this; omega
    subst this
    refine ⟨t, H, τ, by simpa [outB] using hO, Gr.refl hw, fun k => ?_⟩
    have e1 : decide (((8 : Nat) : Int) < Int.ofNat 8) = false := by decide
    rw [loopK_succ]
    simp only [s21_l5, getK_mk f3, getK_mk f13, getK_mk f88, getK_mk f89, bin_lss, e1, condK_f]
    rfl
  | cons x l ih =>
    intro i tl t H fr τ m hd hi hlen hm hw hB hO hK f3 f13 f88 f89
    obtain ⟨m, rfl⟩ : ∃ j, m = j + 1 := ⟨m - 1, by omega⟩
    have hlt : i < 8 := by have := congrArg List.length hd; simp at this; omega
    have hx : st[i]? = some x := by have := congrArg (·[0]?) hd; simpa using this
    have hd' : st.drop (i + 1) = l := by have := congrArg (List.drop 1) hd; simpa [List.drop_drop, Nat.add_comm] using this
    have e1 : decide ((i : Int) < Int.ofNat 8) = true := decide_eq_true (by simp; omega)
    have eI : pArrIndex 8 1 false [.agg (ws .u64 st), .int .i64 (i : Int)] = some (.int .u64 (x : Int)) := by
      have hb : Nat.blt i 8 = true := by simp [Nat.blt]; omega
      simp only [pArrIndex, natOf_nat, hb, cond_true, partOf, Nat.mul_one]
      simp [ws, hx]
    have l0 := lk64 hK (i := 0) (by omega)
    simp only [largeL, List.getD_cons_succ, List.getD_cons_zero] at l0
    have e8 : wr .i64 (((64 : Nat) : Int) - Int.ofNat 8) = 8 * ((8 : Nat) : Int) - 8 := rfl
    obtain ⟨t', H1, τ1, p1, p2, p3⟩ := l7_64 c N K B x (.agg (ws .u64 st)) (.int .i64 (i : Int)) 8 tl t H (τ := τ) (m := N) (by omega) (by simp at hlen; omega) (by omega) hw hB hO
      (fr := (T.set (T.set (T.set (T.set (T.set (T.set .leaf 3 (.ptr K 0)) 13 t) 15 (.int .u64 (x : Int))) 16 (.int .i64 (8 * ((8 : Nat) : Int) - 8))) 88 (.agg (ws .u64 st))) 89 (.int .i64 (i : Int))))
      (by simp [T.get_set]) (by simp [T.get_set]) (by simp [T.get_set]) (by simp [T.get_set]) (by simp [T.get_set]) (by simp [T.get_set])
    have e4 : wr .i64 ((i : Int) + Int.ofNat 1) = ((i + 1 : Nat) : Int) := by rw [wr_id (by simp; omega) (by simp; omega)]; simp
    obtain ⟨t2, H', τ', r1, r2, r3⟩ := ih (i + 1) (tl ++ wordB .u64 x 8) t' H1 (τ := τ1) (m := m) hd' (by omega) (by simp [wordB_len] at hlen ⊢; omega) (by simp at hm; omega) p2.wf (Nat.le_trans hB p2.size) p1 (hK.gr p2 hKB)
      (fr := (T.set (T.set (T.set (T.set (T.set (T.set .leaf 3 (.ptr K 0)) 13 t') 88 (.agg (ws .u64 st))) 89 (.int .i64 (i : Int))) 106 (.int .i64 ((i + 1 : Nat) : Int))) 89 (.int .i64 ((i + 1 : Nat) : Int))))
      (by simp [T.get_set]) (by simp [T.get_set]) (by simp [T.get_set]) (by simp [T.get_set])
    have ea : tl ++ wordB .u64 x 8 ++ outB .u64 8 l = tl ++ outB .u64 8 (x :: l) := by simp [outB]
    rw [ea] at r1
    refine ⟨t2, H', τ', r1, p2.trans r2 (Nat.le_refl _), fun k => ?_⟩
    rw [loopK_succ]
    simp only [s21_l5, getK_mk f3, getK_mk f13, getK_mk f88, getK_mk f89, bin_lss, e1, condK_t, eI, someK_mk, fa0, l0, bin_sub, e8]
    rw [p3]
    simp only [blockK, Nat.beq_refl, cond_true, cond_false, seqK, s21_j6, getK_set, ↓reduceIte, Nat.reduceEqDiff, bin_add, e4]
    exact r3 k
end Go.Am.AmTrydDig

namespace Go.Am.AmTrydDig
set_option linter.unusedSimpArgs false
set_option linter.unusedVariables false
/-- the text's last blocks -/
def tail64 (bs : List Nat) : List Nat :=
  (bs.drop (bs.length / 128 * 128) ++ [128]) ++ List.replicate ((128 - ((bs.drop (bs.length / 128 * 128) ++ [128]).length + 16) % 128) % 128) 0 ++ lens bs.length 16
def hash64 (C st bs : List Nat) : List Nat :=
  outB .u64 8 (blocks64 C (tail64 bs) ((tail64 bs).length / 128) 0 (blocks64 C bs (bs.length / 128) 0 st))
theorem hash64_len (C st bs : List Nat) (h : st.length = 8) : (hash64 C st bs).length = 64 := by
  unfold hash64; rw [outB_len, blocks64_len _ _ _ _ _ (blocks64_len _ _ _ _ _ h)]

theorem Own.rdS {S B z : Nat} {H : Heap} {v : V} {n : Nat} {cs : List V} (h : Own H B z v n cs) (hw : WF H) (hS : S < B) : RdS S H.size z H v n cs := by
  intro H' hg
  rcases h with h | ⟨id, e, room, fam, ver, pl, st, fr, h1, h2, h3, h4, h5, h6, h7⟩
  · exact .inl ⟨.inl h.1, h.2⟩
  · have := hw.blk _ _ h2
    have := hw.fams _ _ h3
    exact Own.rd (B := B) (.inr ⟨id, e, room, fam, ver, pl, st, fr, h1, by rw [hg.blk id (by omega) (by omega)]; exact h2, by rw [hg.fams fam (by omega) (by omega)]; exact h3, h4, h5, h6, h7⟩)
theorem Own.weaken {H : Heap} {B C z : Nat} {v : V} {n : Nat} {cs : List V} (h : Own H C z v n cs) (hBC : B ≤ C) : Own H B z v n cs := by
  rcases h with h | ⟨id, e, room, fam, ver, pl, st, fr, h1, h2, h3, h4, h5, h6, h7⟩
  · exact .inl h
  · exact .inr ⟨id, e, room, fam, ver, pl, st, fr, h1, h2, h3, h4, by omega, by omega, h7⟩
theorem s21_ret (c : CallK) (N : Nat) (hN : 9223372036854775807 ≤ N) (v : V) (bs st C : List Nat) (hlen : bs.length < 80000) (hR : Roomy v) (hst : st.length = 8) (h29 : Mix29 c C)
    (H : Heap) (hw : WF H) (hC : H.cells? 5 = some (ws .u64 C)) (hRd : Rd H 1 v bs.length (ws .u8 bs)) (hsr : Src H v) (τ : Tape) :
    ∃ v' H' τ', Own H' H.size 1 v' 64 (ws .u8 (hash64 C st bs)) ∧ Gr H.size H H' ∧ ∀ q, s21 c N (.agg (ws .i64 largeL)) (.agg (ws .u64 st)) v H τ q = q v' H' τ' := by
  -- the kind and the state
  have a1 : eBox [.agg (ws .i64 largeL)] H τ = some (.ptr H.size 0, H.new (ws .i64 largeL) 17 true, τ) := rfl
  have g1 := Gr.new hw (ws .i64 largeL) 17 true
  have K1 := Bx.new H (ws .i64 largeL) 17 true (by decide)
  have z1 : (H.new (ws .i64 largeL) 17 true).size = H.size + 1 := rfl
  generalize H.new (ws .i64 largeL) 17 true = H1 at a1 g1 K1 z1
  have a2 : eBox [.agg (ws .u64 st)] H1 τ = some (.ptr H1.size 0, H1.new (ws .u64 st) (ws .u64 st).length true, τ) := rfl
  have g2 := Gr.new g1.wf (ws .u64 st) (ws .u64 st).length true
  have S2 := Bx.new H1 (ws .u64 st) (ws .u64 st).length true (Nat.le_refl _)
  have z2 : (H1.new (ws .u64 st) (ws .u64 st).length true).size = H1.size + 1 := rfl
  generalize H1.new (ws .u64 st) (ws .u64 st).length true = H2 at a2 g2 S2 z2
  have K2 := K1.gr g2 (by omega)
  have g12 := g1.trans g2 (by omega)
  have hKS : H.size ≠ H1.size := by omega
  have rdS : RdS H1.size H.size 1 H2 v bs.length (ws .u8 bs) := fun H' h => hRd.gr (g12.trans (h.gr (by omega)) (Nat.le_refl _)) hw (Nat.le_refl _)
  have cS : CellsS H1.size H.size H2 5 (ws .u64 C) := fun H' h => (g12.trans (h.gr (by omega)) (Nat.le_refl _)).cells hw (Nat.le_refl _) hC
  -- whole blocks
  have hdiv : bs.length / 128 * 128 ≤ bs.length := Nat.div_mul_le_self _ _
  obtain ⟨H3, S3, g3', k3⟩ := l13_64 c N H1.size H.size H.size (bs.length / 128 * 128) hKS v bs C (by omega) hdiv hR h29 (bs.length / 128) 0 st H2 (τ := τ) (m := N) (by omega) (by omega) hst g12.wf g12.size K2 S2 cS rdS
    (fr := (T.set (T.set (T.set (T.set (T.set .leaf 2 v) 3 (.ptr H.size 0)) 4 (.ptr H1.size 0)) 7 (.int .i64 ((bs.length / 128 * 128 : Nat) : Int))) 8 (.int .i64 (.ofNat 0))))
    (by simp [T.get_set]) (by simp [T.get_set]) (by simp [T.get_set]) (by simp [T.get_set]) (by simp [T.get_set])
  have g3 : Gx H1.size H.size H2 H3 := g3'.weaken g12.size
  have g13 := g12.trans (g3.gr (by omega)) (Nat.le_refl _)
  have K3 := K2.gx g3' (by omega) hKS
  have st3 : (blocks64 C bs (bs.length / 128) 0 st).length = 8 := blocks64_len _ _ _ _ _ hst
  -- the tail
  have hsz3 : H1.size + 1 ≤ H3.size := by have := g3'.size; omega
  obtain ⟨f1, b1⟩ : ∃ H4, eBuildSlice 0 1 [] [] [] H3 τ = some (.sl H3.size 0 0 0 none 1, H4, τ) ∧ Gr H3.size H3 H4 ∧ H4.cells? H3.size = some [] := ⟨_, rfl, Gr.new g13.wf _ _ _, cells_new _ _ _ _⟩
  obtain ⟨b1, g4, e4⟩ := b1
  rename Heap => H4
  have hs4 : H1.size + 1 ≤ H4.size := by have := g4.size; omega
  have E4 : Emp H4 (H1.size + 1) (.sl H3.size 0 0 0 none 1) := ⟨_, rfl, e4, by omega⟩
  have g14 := g13.trans (g4.weaken g13.size) (Nat.le_refl _)
  have K4 := K3.gr g4 (by omega)
  have S4 := S3.gr g4 (by omega)
  have Rd4 : Rd H4 1 v bs.length (ws .u8 bs) := hRd.gr g14 hw (Nat.le_refl _)
  have Sr4 : Src H4 v := hsr.gr g14 hw (Nat.le_refl _)
  obtain ⟨v', c1, c2, c2', c3⟩ := Rd4.from hR (l := bs.length / 128 * 128) hdiv
  have c3 := c3 H4 _ Rd4
  have hw8 : (ws .u8 bs).drop (bs.length / 128 * 128 * 1) = ws .u8 (bs.drop (bs.length / 128 * 128)) := by simp [ws, List.map_drop]
  rw [hw8] at c3
  obtain ⟨t5, H5, τ5, b5, o5, g5⟩ := E4.append (bytes := 1) g14.wf (by omega) c3 (c2' _ Sr4) (by omega) (by omega) τ
  have hs5 : H1.size + 1 ≤ H5.size := by have := g5.size; omega
  have g15 := g14.trans (g5.weaken g14.size) (Nat.le_refl _)
  have K5 := K4.gr g5 (by omega)
  have S5 := S4.gr g5 (by omega)
  obtain ⟨w6, H6', t6, H6, τ6, b6, b6', o6, g6⟩ : ∃ w H1' v' H' τ', eBuildSlice 1 1 [(V.int .u8 (.ofNat 0))] [(0, 1)] [(V.int .u8 (.ofNat 128))] H5 τ5 = some (w, H1', τ5) ∧ eAppend 1 1 [t5, w] H1' τ5 = some (v', H', τ') ∧
      Own H' (H1.size + 1) 1 v' (bs.drop (bs.length / 128 * 128) ++ [128]).length (ws .u8 (bs.drop (bs.length / 128 * 128) ++ [128])) ∧ Gr (H1.size + 1) H5 H' := by
    rcases o5 with ⟨o5, hpos⟩ | ⟨hz, rfl, rfl, hz2⟩
    · obtain ⟨w, Hq, v2, H', p1, p2, p3, p4, p5⟩ := o5.push (bytes := 1) g15.wf (by omega) (.int .u8 ((128 : Nat) : Int)) (.int .u8 (.ofNat 0)) rfl rfl (by omega) (by omega) τ5
      rw [ws_snoc] at p3
      exact ⟨w, Hq, v2, H', _, p1, p2, by simpa using p3, p4⟩
    · obtain ⟨w, Hq, v2, H', τ', p1, p2, p3, p4⟩ := E4.push (bytes := 1) g15.wf (by omega) (.int .u8 ((128 : Nat) : Int)) (.int .u8 (.ofNat 0)) rfl (by omega) τ5
      have : bs.drop (bs.length / 128 * 128) = [] := by
        have := congrArg List.length hz2
        rw [ws_len] at this
        exact List.eq_nil_of_length_eq_zero this
      rw [this]
      exact ⟨w, Hq, v2, H', τ', p1, p2, p3, p4.weaken hs4⟩
  have g16 := g15.trans (g6.weaken (show H.size ≤ H1.size + 1 by omega)) (Nat.le_refl _)
  have K6 := K5.gr g6 (by omega)
  have S6 := S5.gr g6 (by omega)
  have htl : (bs.drop (bs.length / 128 * 128) ++ [128]).length ≤ 128 := by simp; omega
  generalize htd : bs.drop (bs.length / 128 * 128) ++ [128] = t0 at o6 htl
  have hs6 : H1.size + 1 ≤ H6.size := by have := g6.size; omega
  obtain ⟨t7, H7, τ7, o7, g7, k7⟩ := l12_64 c N H1.size H.size (H1.size + 1) (by omega) v ((128 - (t0.length + 16) % 128) % 128) t0 t6 H6 (τ := τ6) (m := N) (by omega) (by omega) (by omega) (by omega) g16.wf hs6 o6 K6
    (fr := (T.set (T.set (T.set (T.set .leaf 2 v) 3 (.ptr H.size 0)) 4 (.ptr H1.size 0)) 9 t6))
    (by simp [T.get_set]) (by simp [T.get_set]) (by simp [T.get_set]) (by simp [T.get_set])
  have g17 := g16.trans (g7.weaken (show H.size ≤ H1.size + 1 by omega)) (Nat.le_refl _)
  have K7 := K6.gr g7 (by omega)
  have S7 := S6.gr g7 (by omega)
  have hs7 : H1.size + 1 ≤ H7.size := by have := g7.size; omega
  have hl7 : (t0 ++ List.replicate ((128 - (t0.length + 16) % 128) % 128) 0).length ≤ 256 := by simp; omega
  obtain ⟨t8, H8, τ8, o8, g8, k8⟩ := l9_64 c N H1.size H.size (H1.size + 1) bs.length v hRd.pLen 16 _ t7 H7 (τ := τ7) (m := N) (by omega) (by omega) (by omega) g17.wf hs7 o7
    (fr := (T.set (T.set (T.set (T.set (T.set .leaf 2 v) 3 (.ptr H.size 0)) 4 (.ptr H1.size 0)) 9 t7) 10 (.int .i64 (((16 : Nat) : Int) - 1))))
    (by simp [T.get_set]) (by simp [T.get_set]) (by simp [T.get_set]) (by simp [T.get_set]) (by simp [T.get_set])
  have g18 := g17.trans (g8.weaken (show H.size ≤ H1.size + 1 by omega)) (Nat.le_refl _)
  have K8 := K7.gr g8 (by omega)
  have S8 := S7.gr g8 (by omega)
  have hs8 : H1.size + 1 ≤ H8.size := by have := g8.size; omega
  have etail : t0 ++ List.replicate ((128 - (t0.length + 16) % 128) % 128) 0 ++ lens bs.length 16 = tail64 bs := by rw [← htd]; rfl
  rw [etail] at o8
  have hmod : (tail64 bs).length % 128 = 0 := by
    rw [← etail]; simp [lens_len]; omega
  have hle : (tail64 bs).length ≤ 300 := by
    rw [← etail]; simp [lens_len] at hl7 ⊢; omega
  have rd8 := Own.rdS o8 g18.wf (show H1.size < H1.size + 1 by omega)
  have c8 : CellsS H1.size H8.size H8 5 (ws .u64 C) := fun H' h => (g18.trans ((h.weaken g18.size).gr (by omega)) (Nat.le_refl _)).cells hw (Nat.le_refl _) hC
  obtain ⟨H9, S9, g9', k9⟩ := l8_64 c N H1.size H.size H8.size hKS t8 (tail64 bs) C (by omega) o8.roomy h29 ((tail64 bs).length / 128) 0 _ H8 (τ := τ8) (m := N) (by omega) (by omega) st3 g18.wf (Nat.le_refl _) K8 S8 c8 rd8
    (fr := (T.set (T.set (T.set (T.set .leaf 3 (.ptr H.size 0)) 4 (.ptr H1.size 0)) 9 t8) 12 (.int .i64 (.ofNat 0))))
    (by simp [T.get_set]) (by simp [T.get_set]) (by simp [T.get_set]) (by simp [T.get_set])
  have g19 := g18.trans ((g9'.weaken g18.size).gr (by omega)) (Nat.le_refl _)
  have K9 := K8.gx g9' (by have := K8.lt g18.wf; omega) hKS
  have hs9 : H1.size + 1 ≤ H9.size := by have := g9'.size; omega
  have st9 := blocks64_len C (tail64 bs) ((tail64 bs).length / 128) 0 _ st3
  have ld : lLoadN 8 [.ptr H1.size 0] H9 = some (.agg (ws .u64 (blocks64 C (tail64 bs) ((tail64 bs).length / 128) 0 (blocks64 C bs (bs.length / 128) 0 st)))) := by
    rw [load_cells (off := 0) (n := 8) S9.cells (by rw [ws_len, st9]; omega), List.drop_zero, List.take_of_length_le (by rw [ws_len, st9]; omega)]
  obtain ⟨vA, HA, τA, oA, gA, kA⟩ := l5_64 c N (by omega) H.size (H1.size + 1) (by omega) _ st9 _ 0 [] .nils H9 (τ := τ8) (m := N) (List.drop_zero ..) (by omega) (by rw [st9]; simp) (by rw [st9]; omega) g19.wf hs9 (Own.nil _ _ _) K9
    (fr := (T.set (T.set (T.set (T.set .leaf 3 (.ptr H.size 0)) 13 .nils) 88 (.agg (ws .u64 (blocks64 C (tail64 bs) ((tail64 bs).length / 128) 0 (blocks64 C bs (bs.length / 128) 0 st))))) 89 (.int .i64 (.ofNat 0))))
    (by simp [T.get_set]) (by simp [T.get_set]) (by simp [T.get_set]) (by simp [T.get_set])
  have gf := g19.trans (gA.weaken (show H.size ≤ H1.size + 1 by omega)) (Nat.le_refl _)
  refine ⟨vA, HA, τA, ?_, gf, fun q => ?_⟩
  · have e64 : ([] ++ outB .u64 8 (blocks64 C (tail64 bs) ((tail64 bs).length / 128) 0 (blocks64 C bs (bs.length / 128) 0 st))) = hash64 C st bs := rfl
    rw [e64, hash64_len _ _ _ hst] at oA
    exact Own.weaken oA (show H.size ≤ H1.size + 1 by omega)
  · have l14 := lk64 K2 (i := 14) (by omega)
    have l15 := lk64 K7 (i := 15) (by omega)
    simp only [largeL, List.getD_cons_succ, List.getD_cons_zero] at l14 l15
    have eq1 : wr .i64 (((bs.length : Nat) : Int).tdiv ((128 : Nat) : Int)) = ((bs.length / 128 : Nat) : Int) := by
      rw [← Int.ofNat_tdiv, wr_id (by omega) (by omega)]
    have eq2 : wr .i64 (((bs.length / 128 : Nat) : Int) * ((128 : Nat) : Int)) = ((bs.length / 128 * 128 : Nat) : Int) := by
      rw [wr_id (by omega) (by omega)]; simp
    have eq3 : wr .i64 (((16 : Nat) : Int) - Int.ofNat 1) = (((16 : Nat) : Int) - 1) := rfl
    simp only [s21, a1, a2, effK_mk, hRd.pLen, someK_mk, fa0, l14, bin_quo _ _ ((128 : Nat) : Int) (by decide), eq1, bin_mul, eq2]
    rw [k3]
    simp only [blockK, Nat.beq_refl, cond_true, seqK, s21_j0, getK_set, ↓reduceIte, Nat.reduceEqDiff, b1, effK_mk, c1, someK_mk, b5, b6, b6']
    rw [k7]
    simp only [blockK, Nat.beq_refl, cond_true, seqK, s21_j1, getK_set, ↓reduceIte, Nat.reduceEqDiff, fa0, someK_mk, l15, bin_sub, eq3]
    rw [k8]
    simp only [blockK, Nat.beq_refl, cond_true, seqK, s21_j2, getK_set, ↓reduceIte, Nat.reduceEqDiff]
    rw [k9]
    simp only [blockK, Nat.beq_refl, cond_true, seqK, s21_j3, getK_set, ↓reduceIte, Nat.reduceEqDiff, ld, someK_mk]
    rw [kA]
    simp only [blockK, Nat.beq_refl, cond_true, seqK, s21_j4, getK_set, ↓reduceIte, Nat.reduceEqDiff]
end Go.Am.AmTrydDig

