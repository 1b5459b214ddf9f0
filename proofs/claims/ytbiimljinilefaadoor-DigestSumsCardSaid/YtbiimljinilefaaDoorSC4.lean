/- Texts for the law DigestSums: the machine, printed functions of the program, and what they are shown to be. -/
import Derived.Test.YtbiimljinilefaaDoorSC1
import Derived.Test.YtbiimljinilefaaDoorSM3
import Derived.KernelRfl
namespace Go.Am.AmTrydDig
set_option linter.unusedSimpArgs false
set_option linter.unusedVariables false
/-! ### a hash of long words: its loops -/
abbrev Mix28 (c : CallK) (C : List Nat) : Prop := ∀ (S K : Nat) (v : V) (bs st : List Nat), K ≠ S → bs.length < 100000 → 64 ≤ bs.length → Roomy v → st.length = 8 → ∀ H, WF H → Bx H K (ws .i64 smallL) → Bx H S (ws .u32 st) → CellsS S H.size H 5 (ws .u64 C) → RdS S H.size 1 H v bs.length (ws .u8 bs) → ∀ τ,
  ∃ H', Bx H' S (ws .u32 (mix32 C bs st)) ∧ Gx S H.size H H' ∧ ∀ q, c 28 [.ptr K 0, .ptr S 0, v] H τ q = q (.tup []) H' τ
def blocks32 (C : List Nat) (bs : List Nat) : Nat → Nat → List Nat → List Nat
  | 0, _, st => st
  | n + 1, i, st => blocks32 C bs n (i + 64) (mix32 C (bs.drop i) st)
theorem mix32_len (C bs st : List Nat) (h : st.length = 8) : (mix32 C bs st).length = 8 := by unfold mix32; rw [addAll_len, h]
theorem blocks32_len (C bs : List Nat) : ∀ n i st, st.length = 8 → (blocks32 C bs n i st).length = 8 := by
  intro n; induction n with
  | zero => intro i st h; exact h
  | succ n ih => intro i st h; exact ih _ _ (mix32_len _ _ _ h)
theorem lk32 {H : Heap} {K : Nat} (h : Bx H K (ws .i64 smallL)) {i : Nat} (hi : i < 17) : lLoad1 [.ptr K i] H = some (.int .i64 ((smallL.getD i 0 : Nat) : Int)) := load_ws h (by simpa [smallL] using hi)

theorem l13_32 (c : CallK) (N : Nat) (S K B L : Nat) (hKS : K ≠ S) (v : V) (bs C : List Nat) (hlen : bs.length < 90000) (hL : L ≤ bs.length) (hR : Roomy v) (h28 : Mix28 c C) :
    ∀ (n i : Nat) (st : List Nat) (H : Heap) (fr : T V) (τ : Tape) (m : Nat), i + n * 64 = L → n < m → st.length = 8 → WF H → B ≤ H.size → Bx H K (ws .i64 smallL) → Bx H S (ws .u32 st) → CellsS S B H 5 (ws .u64 C) → RdS S B 1 H v bs.length (ws .u8 bs) →
    fr.get 2 = some v → fr.get 3 = some (.ptr K 0) → fr.get 4 = some (.ptr S 0) → fr.get 7 = some (.int .i64 (L : Int)) → fr.get 8 = some (.int .i64 (i : Int)) →
    ∃ H', Bx H' S (ws .u32 (blocks32 C bs n i st)) ∧ Gx S H.size H H' ∧ ∀ k, loopK (s20_l13 c N) m ⟨fr, H⟩ τ k = k (.exit 0) ⟨(T.set (T.set (T.set (T.set .leaf 2 v) 3 (.ptr K 0)) 4 (.ptr S 0)) 7 (.int .i64 (L : Int))), H'⟩ τ := by
  intro n
  induction n with
  | zero =>
    intro i st H fr τ m ht hm hst hw hB hK hS hC hRd f2 f3 f4 f7 f8
    obtain ⟨m, rfl⟩ : ∃ j, m = j + 1 := ⟨m - 1, by omega⟩
    refine ⟨H, hS, Gx.refl hw, fun k => ?_⟩
    have e1 : decide ((i : Int) < (L : Int)) = false := decide_eq_false (by omega)
    rw [loopK_succ]
    simp only [s20_l13, getK_mk f2, getK_mk f3, getK_mk f4, getK_mk f7, getK_mk f8, bin_lss, e1, condK_f]
    rfl
  | succ n ih =>
    intro i st H fr τ m ht hm hst hw hB hK hS hC hRd f2 f3 f4 f7 f8
    obtain ⟨m, rfl⟩ : ∃ j, m = j + 1 := ⟨m - 1, by omega⟩
    have e1 : decide ((i : Int) < (L : Int)) = true := decide_eq_true (by omega)
    obtain ⟨v', c1, c2, _, c3⟩ := (hRd.rd hw).from hR (l := i) (by omega)
    have hw8 : (ws .u8 bs).drop (i * 1) = ws .u8 (bs.drop i) := by simp [ws, List.map_drop]
    have c4 : RdS S B 1 H v' (bs.drop i).length (ws .u8 (bs.drop i)) := fun H' hg => by
      have := c3 H' _ (hRd H' hg)
      rw [hw8] at this
      simpa using this
    obtain ⟨H1, b1, g1, k1⟩ := h28 S K v' (bs.drop i) st hKS (by simp; omega) (by simp; omega) c2 hst H hw hK hS (fun H' hg => hC H' (hg.weaken hB)) (fun H' hg => c4 H' (hg.weaken hB)) τ
    have K1 := hK.gx g1 (hK.lt hw) hKS
    have e4 : wr .i64 ((i : Int) + ((64 : Nat) : Int)) = ((i + 64 : Nat) : Int) := by rw [wr_id (by omega) (by omega)]; simp
    obtain ⟨H', r1, r2, r3⟩ := ih (i + 64) (mix32 C (bs.drop i) st) H1 (τ := τ) (m := m) (by omega) (by omega) (mix32_len _ _ _ hst) g1.wf (Nat.le_trans hB g1.size) K1 b1 (hC.gx (g1.weaken hB)) (hRd.gx (g1.weaken hB))
      (fr := (T.set (T.set (T.set (T.set (T.set (T.set (T.set (T.set (T.set (T.set .leaf 2 v) 3 (.ptr K 0)) 4 (.ptr S 0)) 7 (.int .i64 (L : Int))) 8 (.int .i64 (i : Int))) 28 (.int .i64 (i : Int))) 29 (.ptr K 14)) 30 (.int .i64 ((64 : Nat) : Int))) 31 (.int .i64 ((i + 64 : Nat) : Int))) 8 (.int .i64 ((i + 64 : Nat) : Int))))
      (by simp [T.get_set]) (by simp [T.get_set]) (by simp [T.get_set]) (by simp [T.get_set]) (by simp [T.get_set])
    refine ⟨H', r1, g1.trans r2 g1.size, fun k => ?_⟩
    rw [loopK_succ]
    have l14 := lk32 K1 (i := 14) (by omega)
    simp only [smallL, List.getD_cons_succ, List.getD_cons_zero] at l14
    simp only [s20_l13, getK_mk f2, getK_mk f3, getK_mk f4, getK_mk f7, getK_mk f8, bin_lss, e1, condK_t, c1, someK_mk, k1, fa0, l14, bin_add, e4]
    exact r3 k

/-- the same over the tail -/
theorem l8_32 (c : CallK) (N : Nat) (S K B : Nat) (hKS : K ≠ S) (v : V) (bs C : List Nat) (hlen : bs.length < 90000) (hR : Roomy v) (h28 : Mix28 c C) :
    ∀ (n i : Nat) (st : List Nat) (H : Heap) (fr : T V) (τ : Tape) (m : Nat), i + n * 64 = bs.length → n < m → st.length = 8 → WF H → B ≤ H.size → Bx H K (ws .i64 smallL) → Bx H S (ws .u32 st) → CellsS S B H 5 (ws .u64 C) → RdS S B 1 H v bs.length (ws .u8 bs) →
    fr.get 3 = some (.ptr K 0) → fr.get 4 = some (.ptr S 0) → fr.get 9 = some v → fr.get 12 = some (.int .i64 (i : Int)) →
    ∃ H', Bx H' S (ws .u32 (blocks32 C bs n i st)) ∧ Gx S H.size H H' ∧ ∀ k, loopK (s20_l8 c N) m ⟨fr, H⟩ τ k = k (.exit 6) ⟨(T.set (T.set .leaf 3 (.ptr K 0)) 4 (.ptr S 0)), H'⟩ τ := by
  intro n
  induction n with
  | zero =>
    intro i st H fr τ m ht hm hst hw hB hK hS hC hRd f3 f4 f9 f12
    obtain ⟨m, rfl⟩ : ∃ j, m = j + 1 := ⟨m - 1, by omega⟩
    refine ⟨H, hS, Gx.refl hw, fun k => ?_⟩
    have e1 : decide ((i : Int) < (bs.length : Int)) = false := decide_eq_false (by omega)
    rw [loopK_succ]
    simp only [s20_l8, getK_mk f3, getK_mk f4, getK_mk f9, getK_mk f12, (hRd.rd hw).pLen, someK_mk, bin_lss, e1, condK_f]
    rfl
  | succ n ih =>
    intro i st H fr τ m ht hm hst hw hB hK hS hC hRd f3 f4 f9 f12
    obtain ⟨m, rfl⟩ : ∃ j, m = j + 1 := ⟨m - 1, by omega⟩
    have e1 : decide ((i : Int) < (bs.length : Int)) = true := decide_eq_true (by omega)
    obtain ⟨v', c1, c2, _, c3⟩ := (hRd.rd hw).from hR (l := i) (by omega)
    have hw8 : (ws .u8 bs).drop (i * 1) = ws .u8 (bs.drop i) := by simp [ws, List.map_drop]
    have c4 : RdS S B 1 H v' (bs.drop i).length (ws .u8 (bs.drop i)) := fun H' hg => by
      have := c3 H' _ (hRd H' hg)
      rw [hw8] at this
      simpa using this
    obtain ⟨H1, b1, g1, k1⟩ := h28 S K v' (bs.drop i) st hKS (by simp; omega) (by simp; omega) c2 hst H hw hK hS (fun H' hg => hC H' (hg.weaken hB)) (fun H' hg => c4 H' (hg.weaken hB)) τ
    have K1 := hK.gx g1 (hK.lt hw) hKS
    have e4 : wr .i64 ((i : Int) + ((64 : Nat) : Int)) = ((i + 64 : Nat) : Int) := by rw [wr_id (by omega) (by omega)]; simp
    obtain ⟨H', r1, r2, r3⟩ := ih (i + 64) (mix32 C (bs.drop i) st) H1 (τ := τ) (m := m) (by omega) (by omega) (mix32_len _ _ _ hst) g1.wf (Nat.le_trans hB g1.size) K1 b1 (hC.gx (g1.weaken hB)) (hRd.gx (g1.weaken hB))
      (fr := (T.set (T.set (T.set (T.set (T.set (T.set (T.set (T.set (T.set .leaf 3 (.ptr K 0)) 4 (.ptr S 0)) 9 v) 12 (.int .i64 (i : Int))) 80 (.int .i64 (i : Int))) 81 (.ptr K 14)) 82 (.int .i64 ((64 : Nat) : Int))) 83 (.int .i64 ((i + 64 : Nat) : Int))) 12 (.int .i64 ((i + 64 : Nat) : Int))))
      (by simp [T.get_set]) (by simp [T.get_set]) (by simp [T.get_set]) (by simp [T.get_set])
    refine ⟨H', r1, g1.trans r2 g1.size, fun k => ?_⟩
    rw [loopK_succ]
    have l14 := lk32 K1 (i := 14) (by omega)
    simp only [smallL, List.getD_cons_succ, List.getD_cons_zero] at l14
    simp only [s20_l8, getK_mk f3, getK_mk f4, getK_mk f9, getK_mk f12, (hRd.rd hw).pLen, bin_lss, e1, condK_t, c1, someK_mk, k1, fa0, l14, bin_add, e4]
    exact r3 k
end Go.Am.AmTrydDig

namespace Go.Am.AmTrydDig
set_option linter.unusedSimpArgs false
set_option linter.unusedVariables false

/-- noughts behind the tail -/
theorem l12_32 (c : CallK) (N : Nat) (S K B : Nat) (hKB : K < B) (v : V) :
    ∀ (n : Nat) (tl : List Nat) (t : V) (H : Heap) (fr : T V) (τ : Tape) (m : Nat), (tl.length + 8 + n) % 64 = 0 → n < 64 → tl.length + n < 100000 → n < m → WF H → B ≤ H.size → Own H B 1 t tl.length (ws .u8 tl) → Bx H K (ws .i64 smallL) →
    fr.get 2 = some v → fr.get 3 = some (.ptr K 0) → fr.get 4 = some (.ptr S 0) → fr.get 9 = some t →
    ∃ t' H' τ', Own H' B 1 t' (tl ++ List.replicate n 0).length (ws .u8 (tl ++ List.replicate n 0)) ∧ Gr B H H' ∧ ∀ k, loopK (s20_l12 c N) m ⟨fr, H⟩ τ k = k (.exit 2) ⟨(T.set (T.set (T.set (T.set .leaf 2 v) 3 (.ptr K 0)) 4 (.ptr S 0)) 9 t'), H'⟩ τ' := by
  intro n
  induction n with
  | zero =>
    intro tl t H fr τ m ht hn hlen hm hw hB hO hK f2 f3 f4 f9
    obtain ⟨m, rfl⟩ : ∃ j, m = j + 1 := ⟨m - 1, by omega⟩
    refine ⟨t, H, τ, by simpa using hO, Gr.refl hw, fun k => ?_⟩
    have l15 := lk32 hK (i := 15) (by omega)
    have l14 := lk32 hK (i := 14) (by omega)
    simp only [smallL, List.getD_cons_succ, List.getD_cons_zero] at l14 l15
    have e4 : wr .i64 ((tl.length : Int) + ((8 : Nat) : Int)) = ((tl.length + 8 : Nat) : Int) := by rw [wr_id (by omega) (by omega)]; simp
    have e5 : ((tl.length + 8 : Nat) : Int).tmod ((64 : Nat) : Int) = 0 := by
      rw [← Int.ofNat_tmod]; rw [show (tl.length + 8) % 64 = 0 by omega]; rfl
    have e6 : ((0 : Int) != Int.ofNat 0) = false := rfl
    rw [loopK_succ]
    simp only [s20_l12, getK_mk f2, getK_mk f3, getK_mk f4, getK_mk f9, hO.pLen, someK_mk, fa0, l15, l14, bin_add, e4, bin_rem _ _ ((64 : Nat) : Int) (by decide), e5, bin_neq, e6, condK_f]
    rfl
  | succ n ih =>
    intro tl t H fr τ m ht hn hlen hm hw hB hO hK f2 f3 f4 f9
    obtain ⟨m, rfl⟩ : ∃ j, m = j + 1 := ⟨m - 1, by omega⟩
    have l15 := lk32 hK (i := 15) (by omega)
    have l14 := lk32 hK (i := 14) (by omega)
    simp only [smallL, List.getD_cons_succ, List.getD_cons_zero] at l14 l15
    have e4 : wr .i64 ((tl.length : Int) + ((8 : Nat) : Int)) = ((tl.length + 8 : Nat) : Int) := by rw [wr_id (by omega) (by omega)]; simp
    have e5 : ((tl.length + 8 : Nat) : Int).tmod ((64 : Nat) : Int) = (((tl.length + 8) % 64 : Nat) : Int) := by
      rw [← Int.ofNat_tmod]
    have e6 : ((((tl.length + 8) % 64 : Nat) : Int) != Int.ofNat 0) = true := by
      simp only [bne_iff_ne, ne_eq]
      intro h
      have : (tl.length + 8) % 64 = 0 := Int.ofNat.inj h
      omega
    obtain ⟨w, H1, t', H2, p1, p2, p3, p4, p5⟩ := hO.push (bytes := 1) hw hB (.int .u8 ((0 : Nat) : Int)) (.int .u8 (.ofNat 0)) rfl rfl (by omega) (by omega) τ
    rw [ws_snoc] at p3
    have q0 : Own H2 B 1 t' (tl ++ [0]).length (ws .u8 (tl ++ [0])) := by simpa using p3
    obtain ⟨t2, H', τ', r1, r2, r3⟩ := ih (tl ++ [0]) t' H2 (τ := τ.tail) (m := m) (by simp; omega) (by omega) (by simp; omega) (by omega) p4.wf (Nat.le_trans hB p4.size) q0 (hK.gr p4 hKB)
      (fr := (T.set (T.set (T.set (T.set (T.set (T.set (T.set (T.set .leaf 2 v) 3 (.ptr K 0)) 4 (.ptr S 0)) 9 t) 52 t) 53 w) 54 t') 9 t'))
      (by simp [T.get_set]) (by simp [T.get_set]) (by simp [T.get_set]) (by simp [T.get_set])
    have ea : tl ++ [0] ++ List.replicate n 0 = tl ++ List.replicate (n + 1) 0 := by simp [List.replicate_succ]
    rw [ea] at r1
    refine ⟨t2, H', τ', r1, p4.trans r2 (Nat.le_refl _), fun k => ?_⟩
    rw [loopK_succ]
    have p1' : eBuildSlice 1 1 [(V.int .u8 (.ofNat 0))] [(0, 1)] [(V.int .u8 (.ofNat 0))] H τ = some (w, H1, τ) := p1
    simp only [s20_l12, getK_mk f2, getK_mk f3, getK_mk f4, getK_mk f9, hO.pLen, someK_mk, fa0, l15, l14, bin_add, e4, bin_rem _ _ ((64 : Nat) : Int) (by decide), e5, bin_neq, e6, condK_t, p1', p2, effK_mk]
    exact r3 k

/-- the text's length -/
theorem l9_32 (c : CallK) (N : Nat) (S K B L : Nat) (v : V) (hL : pLen [v] = some (.int .i64 (L : Int))) :
    ∀ (n : Nat) (tl : List Nat) (t : V) (H : Heap) (fr : T V) (τ : Tape) (m : Nat), n < 20 → tl.length + n < 200000 → n < m → WF H → B ≤ H.size → Own H B 1 t tl.length (ws .u8 tl) →
    fr.get 2 = some v → fr.get 3 = some (.ptr K 0) → fr.get 4 = some (.ptr S 0) → fr.get 9 = some t → fr.get 10 = some (.int .i64 ((n : Int) - 1)) →
    ∃ t' H' τ', Own H' B 1 t' (tl ++ lens L n).length (ws .u8 (tl ++ lens L n)) ∧ Gr B H H' ∧ ∀ k, loopK (s20_l9 c N) m ⟨fr, H⟩ τ k = k (.exit 4) ⟨(T.set (T.set (T.set .leaf 3 (.ptr K 0)) 4 (.ptr S 0)) 9 t'), H'⟩ τ' := by
  intro n
  induction n with
  | zero =>
    intro tl t H fr τ m hn hlen hm hw hB hO f2 f3 f4 f9 f10
    obtain ⟨m, rfl⟩ : ∃ j, m = j + 1 := ⟨m - 1, by omega⟩
    refine ⟨t, H, τ, by simpa [lens] using hO, Gr.refl hw, fun k => ?_⟩
    have e1 : decide (Int.ofNat 0 ≤ (((0 : Nat) : Int) - 1)) = false := by decide
    rw [loopK_succ]
    simp only [s20_l9, getK_mk f2, getK_mk f3, getK_mk f4, getK_mk f9, getK_mk f10, bin_geq, e1, condK_f]
    rfl
  | succ n ih =>
    intro tl t H fr τ m hn hlen hm hw hB hO f2 f3 f4 f9 f10
    obtain ⟨m, rfl⟩ : ∃ j, m = j + 1 := ⟨m - 1, by omega⟩
    have en : (((n + 1 : Nat) : Int) - 1) = (n : Int) := by omega
    rw [en] at f10
    have e1 : decide (Int.ofNat 0 ≤ (n : Int)) = true := decide_eq_true (by simp)
    obtain ⟨w, H1, t', H2, p1, p2, p3, p4, p5⟩ := hO.push (bytes := 1) hw hB (.int .u8 ((lenW L n : Nat) : Int)) (.int .u8 (.ofNat 0)) rfl rfl (by omega) (by omega) τ
    rw [ws_snoc] at p3
    have q0 : Own H2 B 1 t' (tl ++ [lenW L n]).length (ws .u8 (tl ++ [lenW L n])) := by simpa using p3
    have e7 : wr .i64 ((n : Int) - Int.ofNat 1) = (n : Int) - 1 := by rw [wr_id (by simp; omega) (by simp; omega)]; rfl
    obtain ⟨t2, H', τ', r1, r2, r3⟩ := ih (tl ++ [lenW L n]) t' H2 (τ := τ.tail) (m := m) (by omega) (by simp; omega) (by omega) p4.wf (Nat.le_trans hB p4.size) q0
      (fr := (T.set (T.set (T.set (T.set (T.set (T.set (T.set (T.set .leaf 2 v) 3 (.ptr K 0)) 4 (.ptr S 0)) 9 t') 10 (.int .i64 (n : Int))) 60 (.int .i64 (n : Int))) 61 (.int .i64 ((n : Int) - 1))) 10 (.int .i64 ((n : Int) - 1))))
      (by simp [T.get_set]) (by simp [T.get_set]) (by simp [T.get_set]) (by simp [T.get_set]) (by simp [T.get_set])
    have ea : tl ++ [lenW L n] ++ lens L n = tl ++ lens L (n + 1) := by simp [lens]
    rw [ea] at r1
    refine ⟨t2, H', τ', r1, p4.trans r2 (Nat.le_refl _), fun k => ?_⟩
    rw [loopK_succ]
    by_cases h8 : n < 8
    · have e2 : decide ((n : Int) < Int.ofNat 8) = true := decide_eq_true (by simp; omega)
      have e3 : wr .i64 (Int.ofNat 8 * (n : Int)) = ((8 * n : Nat) : Int) := by rw [wr_id (by simp; omega) (by simp; omega)]; simp
      have eW : lenW L n = (L % pow2 .u64 * 8 % pow2 .u64 / 2 ^ min (8 * n) IntKind.u64.bits) % pow2 .u8 := by unfold lenW; rw [if_pos h8]
      rw [eW] at p1
      have e6 : ∀ (q : V → Ans), binK .mul (.int .u64 ((L % pow2 .u64 : Nat) : Int)) (.int .u64 (.ofNat 8)) q = q (.int .u64 ((L % pow2 .u64 * 8 % pow2 .u64 : Nat) : Int)) := fun q => u_mul uk64 _ 8 q
      simp only [s20_l9, getK_mk f2, getK_mk f3, getK_mk f4, getK_mk f9, getK_mk f10, bin_geq, e1, condK_t, bin_lss, e2, hL, someK_mk, toInt_mk, uk64 L, e6, bin_mul, e3, u_shr, uk8 _, s20_j11, getK_set, ↓reduceIte, Nat.reduceEqDiff, p1, p2, effK_mk, s20_j10, bin_sub, e7]
      exact r3 k
    · have e2 : decide ((n : Int) < Int.ofNat 8) = false := decide_eq_false (by simp; omega)
      have eW : lenW L n = 0 := by unfold lenW; rw [if_neg h8]
      rw [eW] at p1
      have p1' : eBuildSlice 1 1 [(V.int .u8 (.ofNat 0))] [(0, 1)] [(V.int .u8 (.ofNat 0))] H τ = some (w, H1, τ) := p1
      simp only [s20_l9, getK_mk f2, getK_mk f3, getK_mk f4, getK_mk f9, getK_mk f10, bin_geq, e1, condK_t, bin_lss, e2, condK_f, s20_j11, getK_set, ↓reduceIte, Nat.reduceEqDiff, p1', p2, effK_mk, s20_j10, bin_sub, e7]
      exact r3 k

theorem l7_32 (c : CallK) (N : Nat) (K B x : Nat) (a88 a89 : V) :
    ∀ (n : Nat) (tl : List Nat) (t : V) (H : Heap) (fr : T V) (τ : Tape) (m : Nat), n < 20 → tl.length + n < 200000 → n < m → WF H → B ≤ H.size → Own H B 1 t tl.length (ws .u8 tl) →
    fr.get 3 = some (.ptr K 0) → fr.get 13 = some t → fr.get 15 = some (.int .u32 (x : Int)) → fr.get 16 = some (.int .i64 (8 * (n : Int) - 8)) → fr.get 88 = some a88 → fr.get 89 = some a89 →
    ∃ t' H' τ', Own H' B 1 t' (tl ++ wordB .u32 x n).length (ws .u8 (tl ++ wordB .u32 x n)) ∧ Gr B H H' ∧ ∀ k, loopK (s20_l7 c N) m ⟨fr, H⟩ τ k = k (.exit 10) ⟨(T.set (T.set (T.set (T.set .leaf 3 (.ptr K 0)) 13 t') 88 a88) 89 a89), H'⟩ τ' := by
  intro n
  induction n with
  | zero =>
    intro tl t H fr τ m hn hlen hm hw hB hO f3 f13 f15 f16 f88 f89
    obtain ⟨m, rfl⟩ : ∃ j, m = j + 1 := ⟨m - 1, by omega⟩
    refine ⟨t, H, τ, by simpa [wordB] using hO, Gr.refl hw, fun k => ?_⟩
    have e1 : decide (Int.ofNat 0 ≤ (8 * ((0 : Nat) : Int) - 8)) = false := by decide
    rw [loopK_succ]
    simp only [s20_l7, getK_mk f3, getK_mk f13, getK_mk f15, getK_mk f16, getK_mk f88, getK_mk f89, bin_geq, e1, condK_f]
    rfl
  | succ n ih =>
    intro tl t H fr τ m hn hlen hm hw hB hO f3 f13 f15 f16 f88 f89
    obtain ⟨m, rfl⟩ : ∃ j, m = j + 1 := ⟨m - 1, by omega⟩
    have en : (8 * ((n + 1 : Nat) : Int) - 8) = ((8 * n : Nat) : Int) := by omega
    rw [en] at f16
    have e1 : decide (Int.ofNat 0 ≤ ((8 * n : Nat) : Int)) = true := decide_eq_true (by simp; omega)
    obtain ⟨w, H1, t', H2, p1, p2, p3, p4, p5⟩ := hO.push (bytes := 1) hw hB (.int .u8 ((x / 2 ^ min (8 * n) IntKind.u32.bits % pow2 .u8 : Nat) : Int)) (.int .u8 (.ofNat 0)) rfl rfl (by omega) (by omega) τ
    rw [ws_snoc] at p3
    have q0 : Own H2 B 1 t' (tl ++ [x / 2 ^ min (8 * n) IntKind.u32.bits % pow2 .u8]).length (ws .u8 (tl ++ [x / 2 ^ min (8 * n) IntKind.u32.bits % pow2 .u8])) := by simpa using p3
    have e7 : wr .i64 (((8 * n : Nat) : Int) - Int.ofNat 8) = 8 * (n : Int) - 8 := by rw [wr_id (by simp; omega) (by simp; omega)]; simp
    obtain ⟨t2, H', τ', r1, r2, r3⟩ := ih (tl ++ [x / 2 ^ min (8 * n) IntKind.u32.bits % pow2 .u8]) t' H2 (τ := τ.tail) (m := m) (by omega) (by simp; omega) (by omega) p4.wf (Nat.le_trans hB p4.size) q0
      (fr := (T.set (T.set (T.set (T.set (T.set (T.set (T.set (T.set (T.set .leaf 3 (.ptr K 0)) 13 t') 15 (.int .u32 (x : Int))) 16 (.int .i64 ((8 * n : Nat) : Int))) 88 a88) 89 a89) 97 (.int .i64 ((8 * n : Nat) : Int))) 98 (.int .i64 (8 * (n : Int) - 8))) 16 (.int .i64 (8 * (n : Int) - 8))))
      (by simp [T.get_set]) (by simp [T.get_set]) (by simp [T.get_set]) (by simp [T.get_set]) (by simp [T.get_set]) (by simp [T.get_set])
    have ea : tl ++ [x / 2 ^ min (8 * n) IntKind.u32.bits % pow2 .u8] ++ wordB .u32 x n = tl ++ wordB .u32 x (n + 1) := by simp [wordB]
    rw [ea] at r1
    refine ⟨t2, H', τ', r1, p4.trans r2 (Nat.le_refl _), fun k => ?_⟩
    rw [loopK_succ]
    simp only [s20_l7, getK_mk f3, getK_mk f13, getK_mk f15, getK_mk f16, getK_mk f88, getK_mk f89, bin_geq, e1, condK_t, u_shr, toInt_mk, uk8 _, p1, p2, effK_mk, bin_sub, e7]
    exact r3 k

/-- the words' bytes -/
theorem l5_32 (c : CallK) (N : Nat) (hN : 20 < N) (K B : Nat) (hKB : K < B) (st : List Nat) (hst : st.length = 8) :
    ∀ (l : List Nat) (i : Nat) (tl : List Nat) (t : V) (H : Heap) (fr : T V) (τ : Tape) (m : Nat), st.drop i = l → i ≤ 8 → tl.length + 8 * l.length < 150000 → l.length < m → WF H → B ≤ H.size → Own H B 1 t tl.length (ws .u8 tl) → Bx H K (ws .i64 smallL) →
    fr.get 3 = some (.ptr K 0) → fr.get 13 = some t → fr.get 88 = some (.agg (ws .u32 st)) → fr.get 89 = some (.int .i64 (i : Int)) →
    ∃ t' H' τ', Own H' B 1 t' (tl ++ outB .u32 4 l).length (ws .u8 (tl ++ outB .u32 4 l)) ∧ Gr B H H' ∧ ∀ k, loopK (s20_l5 c N) m ⟨fr, H⟩ τ k = k (.exit 8) ⟨(T.set .leaf 13 t'), H'⟩ τ' := by
  intro l
  induction l with
  | nil =>
    intro i tl t H fr τ m hd hi hlen hm hw hB hO hK f3 f13 f88 f89
    obtain ⟨m, rfl⟩ : ∃ j, m = j + 1 := ⟨m - 1, by omega⟩
    have : i = 8 := by have := congrArg List.length hd; simp at this; omega
    subst this
    refine ⟨t, H, τ, by simpa [outB] using hO, Gr.refl hw, fun k => ?_⟩
    have e1 : decide (((8 : Nat) : Int) < Int.ofNat 8) = false := by decide
    rw [loopK_succ]
    simp only [s20_l5, getK_mk f3, getK_mk f13, getK_mk f88, getK_mk f89, bin_lss, e1, condK_f]
    rfl
  | cons x l ih =>
    intro i tl t H fr τ m hd hi hlen hm hw hB hO hK f3 f13 f88 f89
    obtain ⟨m, rfl⟩ : ∃ j, m = j + 1 := ⟨m - 1, by omega⟩
    have hlt : i < 8 := by have := congrArg List.length hd; simp at this; omega
    have hx : st[i]? = some x := by have := congrArg (·[0]?) hd; simpa using this
    have hd' : st.drop (i + 1) = l := by have := congrArg (List.drop 1) hd; simpa [List.drop_drop, Nat.add_comm] using this
    have e1 : decide ((i : Int) < Int.ofNat 8) = true := decide_eq_true (by simp; omega)
    have eI : pArrIndex 8 1 false [.agg (ws .u32 st), .int .i64 (i : Int)] = some (.int .u32 (x : Int)) := by
      have hb : Nat.blt i 8 = true := by simp [Nat.blt]; omega
      simp only [pArrIndex, natOf_nat, hb, cond_true, partOf, Nat.mul_one]
      simp [ws, hx]
    have l0 := lk32 hK (i := 0) (by omega)
    simp only [smallL, List.getD_cons_succ, List.getD_cons_zero] at l0
    have e8 : wr .i64 (((32 : Nat) : Int) - Int.ofNat 8) = 8 * ((4 : Nat) : Int) - 8 := rfl
    obtain ⟨t', H1, τ1, p1, p2, p3⟩ := l7_32 c N K B x (.agg (ws .u32 st)) (.int .i64 (i : Int)) 4 tl t H (τ := τ) (m := N) (by omega) (by simp at hlen; omega) (by omega) hw hB hO
      (fr := (T.set (T.set (T.set (T.set (T.set (T.set .leaf 3 (.ptr K 0)) 13 t) 15 (.int .u32 (x : Int))) 16 (.int .i64 (8 * ((4 : Nat) : Int) - 8))) 88 (.agg (ws .u32 st))) 89 (.int .i64 (i : Int))))
      (by simp [T.get_set]) (by simp [T.get_set]) (by simp [T.get_set]) (by simp [T.get_set]) (by simp [T.get_set]) (by simp [T.get_set])
    have e4 : wr .i64 ((i : Int) + Int.ofNat 1) = ((i + 1 : Nat) : Int) := by rw [wr_id (by simp; omega) (by simp; omega)]; simp
    obtain ⟨t2, H', τ', r1, r2, r3⟩ := ih (i + 1) (tl ++ wordB .u32 x 4) t' H1 (τ := τ1) (m := m) hd' (by omega) (by simp [wordB_len] at hlen ⊢; omega) (by simp at hm; omega) p2.wf (Nat.le_trans hB p2.size) p1 (hK.gr p2 hKB)
      (fr := (T.set (T.set (T.set (T.set (T.set (T.set .leaf 3 (.ptr K 0)) 13 t') 88 (.agg (ws .u32 st))) 89 (.int .i64 (i : Int))) 106 (.int .i64 ((i + 1 : Nat) : Int))) 89 (.int .i64 ((i + 1 : Nat) : Int))))
      (by simp [T.get_set]) (by simp [T.get_set]) (by simp [T.get_set]) (by simp [T.get_set])
    have ea : tl ++ wordB .u32 x 4 ++ outB .u32 4 l = tl ++ outB .u32 4 (x :: l) := by simp [outB]
    rw [ea] at r1
    refine ⟨t2, H', τ', r1, p2.trans r2 (Nat.le_refl _), fun k => ?_⟩
    rw [loopK_succ]
    simp only [s20_l5, getK_mk f3, getK_mk f13, getK_mk f88, getK_mk f89, bin_lss, e1, condK_t, eI, someK_mk, fa0, l0, bin_sub, e8]
    rw [p3]
    simp only [blockK, Nat.beq_refl, cond_true, cond_false, seqK, s20_j6, getK_set, ↓reduceIte, Nat.reduceEqDiff, bin_add, e4]
    exact r3 k
end Go.Am.AmTrydDig

namespace Go.Am.AmTrydDig
set_option linter.unusedSimpArgs false
set_option linter.unusedVariables false
/-- the text's last blocks -/
def tail32 (bs : List Nat) : List Nat :=
  (bs.drop (bs.length / 64 * 64) ++ [128]) ++ List.replicate ((64 - ((bs.drop (bs.length / 64 * 64) ++ [128]).length + 8) % 64) % 64) 0 ++ lens bs.length 8
def hash32 (C st bs : List Nat) : List Nat :=
  outB .u32 4 (blocks32 C (tail32 bs) ((tail32 bs).length / 64) 0 (blocks32 C bs (bs.length / 64) 0 st))
theorem hash32_len (C st bs : List Nat) (h : st.length = 8) : (hash32 C st bs).length = 32 := by
  unfold hash32; rw [outB_len, blocks32_len _ _ _ _ _ (blocks32_len _ _ _ _ _ h)]

theorem s20_ret (c : CallK) (N : Nat) (hN : 9223372036854775807 ≤ N) (v : V) (bs st C : List Nat) (hlen : bs.length < 80000) (hR : Roomy v) (hst : st.length = 8) (h28 : Mix28 c C)
    (H : Heap) (hw : WF H) (hC : H.cells? 5 = some (ws .u64 C)) (hRd : Rd H 1 v bs.length (ws .u8 bs)) (hsr : Src H v) (τ : Tape) :
    ∃ v' H' τ', Own H' H.size 1 v' 32 (ws .u8 (hash32 C st bs)) ∧ Gr H.size H H' ∧ ∀ q, s20 c N (.agg (ws .i64 smallL)) (.agg (ws .u32 st)) v H τ q = q v' H' τ' := by
  -- the kind and the state
  have a1 : eBox [.agg (ws .i64 smallL)] H τ = some (.ptr H.size 0, H.new (ws .i64 smallL) 17 true, τ) := rfl
  have g1 := Gr.new hw (ws .i64 smallL) 17 true
  have K1 := Bx.new H (ws .i64 smallL) 17 true (by decide)
  have z1 : (H.new (ws .i64 smallL) 17 true).size = H.size + 1 := rfl
  generalize H.new (ws .i64 smallL) 17 true = H1 at a1 g1 K1 z1
  have a2 : eBox [.agg (ws .u32 st)] H1 τ = some (.ptr H1.size 0, H1.new (ws .u32 st) (ws .u32 st).length true, τ) := rfl
  have g2 := Gr.new g1.wf (ws .u32 st) (ws .u32 st).length true
  have S2 := Bx.new H1 (ws .u32 st) (ws .u32 st).length true (Nat.le_refl _)
  have z2 : (H1.new (ws .u32 st) (ws .u32 st).length true).size = H1.size + 1 := rfl
  generalize H1.new (ws .u32 st) (ws .u32 st).length true = H2 at a2 g2 S2 z2
  have K2 := K1.gr g2 (by omega)
  have g12 := g1.trans g2 (by omega)
  have hKS : H.size ≠ H1.size := by omega
  have rdS : RdS H1.size H.size 1 H2 v bs.length (ws .u8 bs) := fun H' h => hRd.gr (g12.trans (h.gr (by omega)) (Nat.le_refl _)) hw (Nat.le_refl _)
  have cS : CellsS H1.size H.size H2 5 (ws .u64 C) := fun H' h => (g12.trans (h.gr (by omega)) (Nat.le_refl _)).cells hw (Nat.le_refl _) hC
  -- whole blocks
  have hdiv : bs.length / 64 * 64 ≤ bs.length := Nat.div_mul_le_self _ _
  obtain ⟨H3, S3, g3', k3⟩ := l13_32 c N H1.size H.size H.size (bs.length / 64 * 64) hKS v bs C (by omega) hdiv hR h28 (bs.length / 64) 0 st H2 (τ := τ) (m := N) (by omega) (by omega) hst g12.wf g12.size K2 S2 cS rdS
    (fr := (T.set (T.set (T.set (T.set (T.set .leaf 2 v) 3 (.ptr H.size 0)) 4 (.ptr H1.size 0)) 7 (.int .i64 ((bs.length / 64 * 64 : Nat) : Int))) 8 (.int .i64 (.ofNat 0))))
    (by simp [T.get_set]) (by simp [T.get_set]) (by simp [T.get_set]) (by simp [T.get_set]) (by simp [T.get_set])
  have g3 : Gx H1.size H.size H2 H3 := g3'.weaken g12.size
  have g13 := g12.trans (g3.gr (by omega)) (Nat.le_refl _)
  have K3 := K2.gx g3' (by omega) hKS
  have st3 : (blocks32 C bs (bs.length / 64) 0 st).length = 8 := blocks32_len _ _ _ _ _ hst
  -- the tail
  have hsz3 : H1.size + 1 ≤ H3.size := by have := g3'.size; omega
  obtain ⟨f1, b1⟩ : ∃ H4, eBuildSlice 0 1 [] [] [] H3 τ = some (.sl H3.size 0 0 0 none 1, H4, τ) ∧ Gr H3.size H3 H4 ∧ H4.cells? H3.size = some [] := ⟨_, rfl, Gr.new g13.wf _ _ _, cells_new _ _ _ _⟩
  obtain ⟨b1, g4, e4⟩ := b1
  rename Heap => H4
  have hs4 : H1.size + 1 ≤ H4.size := by have := g4.size; omega
  have E4 : Emp H4 (H1.size + 1) (.sl H3.size 0 0 0 none 1) := ⟨_, rfl, e4, by omega⟩
  have g14 := g13.trans (g4.weaken g13.size) (Nat.le_refl _)
  have K4 := K3.gr g4 (by omega)
  have S4 := S3.gr g4 (by omega)
  have Rd4 : Rd H4 1 v bs.length (ws .u8 bs) := hRd.gr g14 hw (Nat.le_refl _)
  have Sr4 : Src H4 v := hsr.gr g14 hw (Nat.le_refl _)
  obtain ⟨v', c1, c2, c2', c3⟩ := Rd4.from hR (l := bs.length / 64 * 64) hdiv
  have c3 := c3 H4 _ Rd4
  have hw8 : (ws .u8 bs).drop (bs.length / 64 * 64 * 1) = ws .u8 (bs.drop (bs.length / 64 * 64)) := by simp [ws, List.map_drop]
  rw [hw8] at c3
  obtain ⟨t5, H5, τ5, b5, o5, g5⟩ := E4.append (bytes := 1) g14.wf (by omega) c3 (c2' _ Sr4) (by omega) (by omega) τ
  have hs5 : H1.size + 1 ≤ H5.size := by have := g5.size; omega
  have g15 := g14.trans (g5.weaken g14.size) (Nat.le_refl _)
  have K5 := K4.gr g5 (by omega)
  have S5 := S4.gr g5 (by omega)
  obtain ⟨w6, H6', t6, H6, τ6, b6, b6', o6, g6⟩ : ∃ w H1' v' H' τ', eBuildSlice 1 1 [(V.int .u8 (.ofNat 0))] [(0, 1)] [(V.int .u8 (.ofNat 128))] H5 τ5 = some (w, H1', τ5) ∧ eAppend 1 1 [t5, w] H1' τ5 = some (v', H', τ') ∧
      Own H' (H1.size + 1) 1 v' (bs.drop (bs.length / 64 * 64) ++ [128]).length (ws .u8 (bs.drop (bs.length / 64 * 64) ++ [128])) ∧ Gr (H1.size + 1) H5 H' := by
    rcases o5 with ⟨o5, hpos⟩ | ⟨hz, rfl, rfl, hz2⟩
    · obtain ⟨w, Hq, v2, H', p1, p2, p3, p4, p5⟩ := o5.push (bytes := 1) g15.wf (by omega) (.int .u8 ((128 : Nat) : Int)) (.int .u8 (.ofNat 0)) rfl rfl (by omega) (by omega) τ5
      rw [ws_snoc] at p3
      exact ⟨w, Hq, v2, H', _, p1, p2, by simpa using p3, p4⟩
    · obtain ⟨w, Hq, v2, H', τ', p1, p2, p3, p4⟩ := E4.push (bytes := 1) g15.wf (by omega) (.int .u8 ((128 : Nat) : Int)) (.int .u8 (.ofNat 0)) rfl (by omega) τ5
      have : bs.drop (bs.length / 64 * 64) = [] := by
        have := congrArg List.length hz2
        rw [ws_len] at this
        exact List.eq_nil_of_length_eq_zero this
      rw [this]
      exact ⟨w, Hq, v2, H', τ', p1, p2, p3, p4.weaken hs4⟩
  have g16 := g15.trans (g6.weaken (show H.size ≤ H1.size + 1 by omega)) (Nat.le_refl _)
  have K6 := K5.gr g6 (by omega)
  have S6 := S5.gr g6 (by omega)
  have htl : (bs.drop (bs.length / 64 * 64) ++ [128]).length ≤ 64 := by simp; omega
  generalize htd : bs.drop (bs.length / 64 * 64) ++ [128] = t0 at o6 htl
  have hs6 : H1.size + 1 ≤ H6.size := by have := g6.size; omega
  obtain ⟨t7, H7, τ7, o7, g7, k7⟩ := l12_32 c N H1.size H.size (H1.size + 1) (by omega) v ((64 - (t0.length + 8) % 64) % 64) t0 t6 H6 (τ := τ6) (m := N) (by omega) (by omega) (by omega) (by omega) g16.wf hs6 o6 K6
    (fr := (T.set (T.set (T.set (T.set .leaf 2 v) 3 (.ptr H.size 0)) 4 (.ptr H1.size 0)) 9 t6))
    (by simp [T.get_set]) (by simp [T.get_set]) (by simp [T.get_set]) (by simp [T.get_set])
  have g17 := g16.trans (g7.weaken (show H.size ≤ H1.size + 1 by omega)) (Nat.le_refl _)
  have K7 := K6.gr g7 (by omega)
  have S7 := S6.gr g7 (by omega)
  have hs7 : H1.size + 1 ≤ H7.size := by have := g7.size; omega
  have hl7 : (t0 ++ List.replicate ((64 - (t0.length + 8) % 64) % 64) 0).length ≤ 256 := by simp; omega
  obtain ⟨t8, H8, τ8, o8, g8, k8⟩ := l9_32 c N H1.size H.size (H1.size + 1) bs.length v hRd.pLen 8 _ t7 H7 (τ := τ7) (m := N) (by omega) (by omega) (by omega) g17.wf hs7 o7
    (fr := (T.set (T.set (T.set (T.set (T.set .leaf 2 v) 3 (.ptr H.size 0)) 4 (.ptr H1.size 0)) 9 t7) 10 (.int .i64 (((8 : Nat) : Int) - 1))))
    (by simp [T.get_set]) (by simp [T.get_set]) (by simp [T.get_set]) (by simp [T.get_set]) (by simp [T.get_set])
  have g18 := g17.trans (g8.weaken (show H.size ≤ H1.size + 1 by omega)) (Nat.le_refl _)
  have K8 := K7.gr g8 (by omega)
  have S8 := S7.gr g8 (by omega)
  have hs8 : H1.size + 1 ≤ H8.size := by have := g8.size; omega
  have etail : t0 ++ List.replicate ((64 - (t0.length + 8) % 64) % 64) 0 ++ lens bs.length 8 = tail32 bs := by rw [← htd]; rfl
  rw [etail] at o8
  have hmod : (tail32 bs).length % 64 = 0 := by
    rw [← etail]; simp [lens_len]; omega
  have hle : (tail32 bs).length ≤ 300 := by
    rw [← etail]; simp [lens_len] at hl7 ⊢; omega
  have rd8 := Own.rdS o8 g18.wf (show H1.size < H1.size + 1 by omega)
  have c8 : CellsS H1.size H8.size H8 5 (ws .u64 C) := fun H' h => (g18.trans ((h.weaken g18.size).gr (by omega)) (Nat.le_refl _)).cells hw (Nat.le_refl _) hC
  obtain ⟨H9, S9, g9', k9⟩ := l8_32 c N H1.size H.size H8.size hKS t8 (tail32 bs) C (by omega) o8.roomy h28 ((tail32 bs).length / 64) 0 _ H8 (τ := τ8) (m := N) (by omega) (by omega) st3 g18.wf (Nat.le_refl _) K8 S8 c8 rd8
    (fr := (T.set (T.set (T.set (T.set .leaf 3 (.ptr H.size 0)) 4 (.ptr H1.size 0)) 9 t8) 12 (.int .i64 (.ofNat 0))))
    (by simp [T.get_set]) (by simp [T.get_set]) (by simp [T.get_set]) (by simp [T.get_set])
  have g19 := g18.trans ((g9'.weaken g18.size).gr (by omega)) (Nat.le_refl _)
  have K9 := K8.gx g9' (by have := K8.lt g18.wf; omega) hKS
  have hs9 : H1.size + 1 ≤ H9.size := by have := g9'.size; omega
  have st9 := blocks32_len C (tail32 bs) ((tail32 bs).length / 64) 0 _ st3
  have ld : lLoadN 8 [.ptr H1.size 0] H9 = some (.agg (ws .u32 (blocks32 C (tail32 bs) ((tail32 bs).length / 64) 0 (blocks32 C bs (bs.length / 64) 0 st)))) := by
    rw [load_cells (off := 0) (n := 8) S9.cells (by rw [ws_len, st9]; omega), List.drop_zero, List.take_of_length_le (by rw [ws_len, st9]; omega)]
  obtain ⟨vA, HA, τA, oA, gA, kA⟩ := l5_32 c N (by omega) H.size (H1.size + 1) (by omega) _ st9 _ 0 [] .nils H9 (τ := τ8) (m := N) (List.drop_zero ..) (by omega) (by rw [st9]; simp) (by rw [st9]; omega) g19.wf hs9 (Own.nil _ _ _) K9
    (fr := (T.set (T.set (T.set (T.set .leaf 3 (.ptr H.size 0)) 13 .nils) 88 (.agg (ws .u32 (blocks32 C (tail32 bs) ((tail32 bs).length / 64) 0 (blocks32 C bs (bs.length / 64) 0 st))))) 89 (.int .i64 (.ofNat 0))))
    (by simp [T.get_set]) (by simp [T.get_set]) (by simp [T.get_set]) (by simp [T.get_set])
  have gf := g19.trans (gA.weaken (show H.size ≤ H1.size + 1 by omega)) (Nat.le_refl _)
  refine ⟨vA, HA, τA, ?_, gf, fun q => ?_⟩
  · have e64 : ([] ++ outB .u32 4 (blocks32 C (tail32 bs) ((tail32 bs).length / 64) 0 (blocks32 C bs (bs.length / 64) 0 st))) = hash32 C st bs := rfl
    rw [e64, hash32_len _ _ _ hst] at oA
    exact Own.weaken oA (show H.size ≤ H1.size + 1 by omega)
  · have l14 := lk32 K2 (i := 14) (by omega)
    have l15 := lk32 K7 (i := 15) (by omega)
    simp only [smallL, List.getD_cons_succ, List.getD_cons_zero] at l14 l15
    have eq1 : wr .i64 (((bs.length : Nat) : Int).tdiv ((64 : Nat) : Int)) = ((bs.length / 64 : Nat) : Int) := by
      rw [← Int.ofNat_tdiv, wr_id (by omega) (by omega)]
    have eq2 : wr .i64 (((bs.length / 64 : Nat) : Int) * ((64 : Nat) : Int)) = ((bs.length / 64 * 64 : Nat) : Int) := by
      rw [wr_id (by omega) (by omega)]; simp
    have eq3 : wr .i64 (((8 : Nat) : Int) - Int.ofNat 1) = (((8 : Nat) : Int) - 1) := rfl
    simp only [s20, a1, a2, effK_mk, hRd.pLen, someK_mk, fa0, l14, bin_quo _ _ ((64 : Nat) : Int) (by decide), eq1, bin_mul, eq2]
    rw [k3]
    simp only [blockK, Nat.beq_refl, cond_true, seqK, s20_j0, getK_set, ↓reduceIte, Nat.reduceEqDiff, b1, effK_mk, c1, someK_mk, b5, b6, b6']
    rw [k7]
    simp only [blockK, Nat.beq_refl, cond_true, seqK, s20_j1, getK_set, ↓reduceIte, Nat.reduceEqDiff, fa0, someK_mk, l15, bin_sub, eq3]
    rw [k8]
    simp only [blockK, Nat.beq_refl, cond_true, seqK, s20_j2, getK_set, ↓reduceIte, Nat.reduceEqDiff]
    rw [k9]
    simp only [blockK, Nat.beq_refl, cond_true, seqK, s20_j3, getK_set, ↓reduceIte, Nat.reduceEqDiff, ld, someK_mk]
    rw [kA]
    simp only [blockK, Nat.beq_refl, cond_true, seqK, s20_j4, getK_set, ↓reduceIte, Nat.reduceEqDiff]
end Go.Am.AmTrydDig

namespace Go.Am.AmTrydDig
set_option linter.unusedSimpArgs false
set_option linter.unusedVariables false
/-! ### the document's hash: its words -/
def cutT (bits x : Nat) : Nat := if bits = 32 then landT .u64 x 4294967295 else x
theorem s31_ret (c : CallK) (N : Nat) (bits x : Nat) (H : Heap) (hw : WF H) (τ : Tape) :
    ∃ H', Gr H.size H H' ∧ ∀ q, s31 c N (.agg [.int .u64 (bits : Int)]) (.int .u64 (x : Int)) H τ q = q (.int .u64 (cutT bits x : Nat)) H' τ := by
  refine ⟨_, Gr.new hw [.int .u64 (bits : Int)] 1 true, fun q => ?_⟩
  have hK := cells_new H [.int .u64 (bits : Int)] 1 true
  have e0 : eBox [.agg [.int .u64 (bits : Int)]] H τ = some (.ptr H.size 0, H.new [.int .u64 (bits : Int)] 1 true, τ) := rfl
  generalize H.new [.int .u64 (bits : Int)] 1 true = H1 at hK e0
  have l0 : lLoad1 [.ptr H.size 0] H1 = some (.int .u64 (bits : Int)) := load_cell (off := 0) hK rfl
  have ea : ∀ (q : V → Ans), binK .and (.int .u64 (x : Int)) (.int .u64 (.ofNat 4294967295)) q = q (.int .u64 ((landT .u64 x 4294967295 : Nat) : Int)) := fun q => u_and uk64 x 4294967295 q
  by_cases h : bits = 32
  · have e1 : ((bits : Int) == Int.ofNat 32) = true := by rw [h]; rfl
    have ec : cutT bits x = landT .u64 x 4294967295 := by unfold cutT; rw [if_pos h]
    rw [ec]
    simp only [s31, e0, effK_mk, fa0, someK_mk, l0, bin_eql, e1, condK_t, ea]
  · have e1 : ((bits : Int) == Int.ofNat 32) = false := by
      rw [beq_eq_false_iff_ne]; intro e; exact h (Int.ofNat.inj e)
    have ec : cutT bits x = x := by unfold cutT; rw [if_neg h]
    rw [ec]
    simp only [s31, e0, effK_mk, fa0, someK_mk, l0, bin_eql, e1, condK_f]
abbrev Cut31 (c : CallK) : Prop := ∀ (bits x : Nat) (H : Heap), WF H → ∀ τ, ∃ H', Gr H.size H H' ∧ ∀ q, c 31 [.agg [.int .u64 (bits : Int)], .int .u64 (x : Int)] H τ q = q (.int .u64 (cutT bits x : Nat)) H' τ
def turnT (bits x n : Nat) : Nat := cutT bits (lorT .u64 (shrT .u64 x n) ((x * 2 ^ min (bits - n) IntKind.u64.bits) % pow2 .u64))
theorem s38_ret (c : CallK) (N : Nat) (h31 : Cut31 c) (bits x n : Nat) (hn : n ≤ bits) (hb : bits ≤ 64) (H : Heap) (hw : WF H) (τ : Tape) :
    ∃ H', Gr H.size H H' ∧ ∀ q, s38 c N (.agg [.int .u64 (bits : Int)]) (.int .u64 (x : Int)) (.int .u64 (n : Int)) H τ q = q (.int .u64 (turnT bits x n : Nat)) H' τ := by
  have g1 := Gr.new hw [.int .u64 (bits : Int)] 1 true
  have hK := cells_new H [.int .u64 (bits : Int)] 1 true
  have e0 : eBox [.agg [.int .u64 (bits : Int)]] H τ = some (.ptr H.size 0, H.new [.int .u64 (bits : Int)] 1 true, τ) := rfl
  generalize H.new [.int .u64 (bits : Int)] 1 true = H1 at hK e0 g1
  have l0 : lLoad1 [.ptr H.size 0] H1 = some (.int .u64 (bits : Int)) := load_cell (off := 0) hK rfl
  have l1 : lLoadN 1 [.ptr H.size 0] H1 = some (.agg [.int .u64 (bits : Int)]) := load_cells (off := 0) (n := 1) hK (by simp)
  obtain ⟨H2, g2, k2⟩ := h31 bits (lorT .u64 (shrT .u64 x n) ((x * 2 ^ min (bits - n) IntKind.u64.bits) % pow2 .u64)) H1 g1.wf τ
  refine ⟨H2, g1.trans g2 g1.size, fun q => ?_⟩
  have es : wr .u64 ((bits : Int) - (n : Int)) = ((bits - n : Nat) : Int) := by
    rw [← Int.ofNat_sub hn, uk64]
    congr 1
    apply Nat.mod_eq_of_lt
    have : pow2 .u64 = 18446744073709551616 := by decide
    omega
  simp only [s38, e0, effK_mk, l1, someK_mk, u_shr, fa0, l0, bin_sub, es, u_shl uk64, u_or uk64]
  exact k2 q
abbrev Turn38 (c : CallK) : Prop := ∀ (bits x n : Nat), n ≤ bits → bits ≤ 64 → ∀ (H : Heap), WF H → ∀ τ, ∃ H', Gr H.size H H' ∧ ∀ q, c 38 [.agg [.int .u64 (bits : Int)], .int .u64 (x : Int), .int .u64 (n : Int)] H τ q = q (.int .u64 (turnT bits x n : Nat)) H' τ
def mixW (bits x a b d : Nat) (shift : Bool) : Nat := xorT .u64 (xorT .u64 (turnT bits x a) (turnT bits x b)) (if shift then shrT .u64 x d else turnT bits x d)
theorem s32_ret (c : CallK) (N : Nat) (h38 : Turn38 c) (bits x a b d : Nat) (shift : Bool) (ha : a ≤ bits) (hb : b ≤ bits) (hd : d ≤ bits) (h64 : bits ≤ 64) (H : Heap) (hw : WF H) (τ : Tape) :
    ∃ H', Gr H.size H H' ∧ ∀ q, s32 c N (.agg [.int .u64 (bits : Int)]) (.int .u64 (x : Int)) (.int .u64 (a : Int)) (.int .u64 (b : Int)) (.int .u64 (d : Int)) (.bool shift) H τ q = q (.int .u64 (mixW bits x a b d shift : Nat)) H' τ := by
  have g1 := Gr.new hw [.int .u64 (bits : Int)] 1 true
  have hK := cells_new H [.int .u64 (bits : Int)] 1 true
  have e0 : eBox [.agg [.int .u64 (bits : Int)]] H τ = some (.ptr H.size 0, H.new [.int .u64 (bits : Int)] 1 true, τ) := rfl
  generalize H.new [.int .u64 (bits : Int)] 1 true = H1 at hK e0 g1
  have ld : ∀ {H : Heap}, H.cells? (H.size) = H.cells? H.size → True := fun _ => trivial
  have l1 : ∀ {K : Heap}, K.cells? H.size = some [.int .u64 (bits : Int)] → lLoadN 1 [.ptr H.size 0] K = some (.agg [.int .u64 (bits : Int)]) := fun h => load_cells (off := 0) (n := 1) h (by simp)
  obtain ⟨H2, g2, k2⟩ := h38 bits x a ha h64 H1 g1.wf τ
  obtain ⟨H3, g3, k3⟩ := h38 bits x b hb h64 H2 g2.wf τ
  obtain ⟨H4, g4, k4⟩ := h38 bits x d hd h64 H3 g3.wf τ
  have c2 := g2.cells g1.wf (Nat.le_refl _) hK
  have c3 := g3.cells g2.wf (Nat.le_refl _) c2
  have c4 := g4.cells g3.wf (Nat.le_refl _) c3
  have m1 := l1 hK
  have m2 := l1 c2
  have m3 := l1 c3
  have m4 := l1 c4
  cases shift with
  | true =>
    refine ⟨H3, (g1.trans g2 g1.size).trans g3 (Nat.le_trans g1.size g2.size), fun q => ?_⟩
    have hc : chkLoads [H1, H2, H3] (((.load (some 1)), [.ptr H.size 0], 0, 1) :: []) = true := by
      simp [chkLoads, evalL, lLoad, m1, m2, m3, chk1, same, sameL, same1, same0]
    simp only [s32, e0, effK_mk, condK_t, m1, someK_mk, k2, m2, k3, u_xor uk64, u_shr, hc, cond_true, mixW, if_true]
    rfl
  | false =>
    refine ⟨H4, ((g1.trans g2 g1.size).trans g3 (Nat.le_trans g1.size g2.size)).trans g4 (Nat.le_trans (Nat.le_trans g1.size g2.size) g3.size), fun q => ?_⟩
    have hc : chkLoads [H1, H2, H3, H4] (((.load (some 1)), [.ptr H.size 0], 0, 2) :: (((.load (some 1)), [.ptr H.size 0], 0, 1) :: [])) = true := by
      simp [chkLoads, evalL, lLoad, m1, m2, m3, m4, chk1, same, sameL, same1, same0]
    simp only [s32, e0, effK_mk, condK_f, m1, someK_mk, k2, m2, k3, m3, k4, u_xor uk64, hc, cond_true, mixW]
    rfl

/-! ### products -/
def sumX (O A B : List Nat) (i k c : Nat) : Nat := ((O.getD (i + k) 0 + A.getD i 0 * B.getD k 0 % pow2 .u64) % pow2 .u64 + c) % pow2 .u64
def tInP (A B : List Nat) (i : Nat) : Nat → Nat → List Nat → Nat → List Nat × Nat
  | 0, _, O, c => (O, c)
  | n + 1, k, O, c => tInP A B i n (k + 1) (O.set (i + k) (landT .u64 (sumX O A B i k c) 65535)) (shrT .u64 (sumX O A B i k c) 16)
theorem tInP_len (A B : List Nat) (i : Nat) : ∀ n k O c, (tInP A B i n k O c).1.length = O.length := by
  intro n; induction n with
  | zero => intros; rfl
  | succ n ih => intro k O c; rw [tInP, ih]; simp
def tOutP (A B : List Nat) (n : Nat) : Nat → Nat → List Nat → List Nat
  | 0, _, O => O
  | m + 1, i, O => tOutP A B n m (i + 1) ((tInP A B i n 0 O 0).1.set (i + n) (((tInP A B i n 0 O 0).1.getD (i + n) 0 + (tInP A B i n 0 O 0).2) % pow2 .u64))
theorem tOutP_len (A B : List Nat) (n : Nat) : ∀ m i O, (tOutP A B n m i O).length = O.length := by
  intro m; induction m with
  | zero => intros; rfl
  | succ m ih => intro i O; rw [tOutP, ih]; simp [tInP_len]
def timesP (A : List Nat) (m : Nat) (B : List Nat) (n : Nat) : List Nat := tOutP A B n m 0 (List.replicate 16 0)
theorem timesP_len (A : List Nat) (m : Nat) (B : List Nat) (n : Nat) : (timesP A m B n).length = 16 := by unfold timesP; rw [tOutP_len]; simp
theorem ai16 (X : Nat) {i : Nat} (h : i < 16) : pArrIdx 16 1 [.ptr X 0, .int .i64 (i : Int)] = some (.ptr X i) := by
  have := arrIdx_mk (z := 1) (id := X) (off := 0) h
  simpa using this
theorem adN {i k : Nat} (h : i + k < 1000000) : wr .i64 ((i : Int) + (k : Int)) = ((i + k : Nat) : Int) := by rw [wr_id (by omega) (by omega)]; simp

theorem l37i (c : CallK) (N : Nat) (a b o r : Nat) (hao : a ≠ o) (hbo : b ≠ o) (A B : List Nat) (hA : A.length = 16) (hB : B.length = 16) (i n : Nat) (hin : i + n ≤ 16) (hi : i < 16) (v1 : V) :
    ∀ (j k : Nat) (O : List Nat) (cy : Nat) (H : Heap) (fr : T V) (τ : Tape) (m : Nat), k + j = n → j < m → O.length = 16 → WF H → Bx H a (ws .u64 A) → Bx H b (ws .u64 B) → Bx H o (ws .u64 O) →
    fr.get 1 = some v1 → fr.get 3 = some (.int .i64 (n : Int)) → fr.get 4 = some (.ptr a 0) → fr.get 6 = some (.ptr b 0) → fr.get 8 = some (.ptr r 0) → fr.get 9 = some (.ptr o 0) → fr.get 10 = some (.int .i64 (i : Int)) → fr.get 11 = some (.int .u64 (cy : Int)) → fr.get 12 = some (.int .i64 (k : Int)) →
    ∃ H', Bx H' o (ws .u64 (tInP A B i j k O cy).1) ∧ Chg (fun x => x = o) H H' ∧
      ∀ q, loopK (s37_l4 c N) m ⟨fr, H⟩ τ q = q (.exit 2) ⟨(T.set (T.set (T.set (T.set (T.set (T.set (T.set (T.set .leaf 1 v1) 3 (.int .i64 (n : Int))) 4 (.ptr a 0)) 6 (.ptr b 0)) 8 (.ptr r 0)) 9 (.ptr o 0)) 10 (.int .i64 (i : Int))) 11 (.int .u64 ((tInP A B i j k O cy).2 : Nat))), H'⟩ τ := by
  intro j
  induction j with
  | zero =>
    intro k O cy H fr τ m hk hm hO hw ha hb ho f1 f3 f4 f6 f8 f9 f10 f11 f12
    obtain ⟨m, rfl⟩ : ∃ j, m = j + 1 := ⟨m - 1, by omega⟩
    refine ⟨H, ho, Chg.refl hw, fun q => ?_⟩
    have e1 : decide ((k : Int) < (n : Int)) = false := decide_eq_false (by omega)
    rw [loopK_succ]
    simp only [s37_l4, getK_mk f1, getK_mk f3, getK_mk f4, getK_mk f6, getK_mk f8, getK_mk f9, getK_mk f10, getK_mk f11, getK_mk f12, bin_lss, e1, condK_f]
    rfl
  | succ j ih =>
    intro k O cy H fr τ m hk hm hO hw ha hb ho f1 f3 f4 f6 f8 f9 f10 f11 f12
    obtain ⟨m, rfl⟩ : ∃ j, m = j + 1 := ⟨m - 1, by omega⟩
    have e1 : decide ((k : Int) < (n : Int)) = true := decide_eq_true (by omega)
    obtain ⟨H1, s1, s2, s3⟩ := ho.word hw (i := i + k) (by omega) (landT .u64 (sumX O A B i k cy) 65535) τ
    have g1 : Chg (fun x => x = o) H H1 := s3.chg rfl
    obtain ⟨H', r1, r2, r3⟩ := ih (k + 1) (O.set (i + k) (landT .u64 (sumX O A B i k cy) 65535)) (shrT .u64 (sumX O A B i k cy) 16) H1
      (T.set (T.set (T.set (T.set (T.set (T.set (T.set (T.set (T.set (T.set (T.set (T.set .leaf 1 v1) 3 (.int .i64 (n : Int))) 4 (.ptr a 0)) 6 (.ptr b 0)) 8 (.ptr r 0)) 9 (.ptr o 0)) 10 (.int .i64 (i : Int))) 11 (.int .u64 ((shrT .u64 (sumX O A B i k cy) 16 : Nat) : Int))) 12 (.int .i64 (k : Int))) 22 (.int .i64 (k : Int))) 23 (.int .i64 ((k + 1 : Nat) : Int))) 12 (.int .i64 ((k + 1 : Nat) : Int)))
      τ m (by omega) (by omega) (by simp [hO]) s3.wf (ha.only s3 hao) (hb.only s3 hbo) s2
      (by simp [T.get_set]) (by simp [T.get_set]) (by simp [T.get_set]) (by simp [T.get_set]) (by simp [T.get_set]) (by simp [T.get_set]) (by simp [T.get_set]) (by simp [T.get_set]) (by simp [T.get_set])
    refine ⟨H', r1, g1.trans r2 fun _ _ q => q, fun q => ?_⟩
    have e4 : wr .i64 ((k : Int) + Int.ofNat 1) = ((k + 1 : Nat) : Int) := adN (k := 1) (by omega)
    have el : ∀ (q : V → Ans) (x : Nat), binK .and (.int .u64 (x : Int)) (.int .u64 (.ofNat 65535)) q = q (.int .u64 ((landT .u64 x 65535 : Nat) : Int)) := fun q x => u_and uk64 x 65535 q
    have es : ∀ (q : V → Ans) (x : Nat), binK .shr (.int .u64 (x : Int)) (.int .u64 (.ofNat 16)) q = q (.int .u64 ((shrT .u64 x 16 : Nat) : Int)) := fun q x => u_shr (k := .u64) (k' := .u64) x 16 q
    rw [loopK_succ]
    simp only [s37_l4, getK_mk f1, getK_mk f3, getK_mk f4, getK_mk f6, getK_mk f8, getK_mk f9, getK_mk f10, getK_mk f11, getK_mk f12, bin_lss, e1, condK_t, bin_add .i64, adN (show i + k < 1000000 by omega), ai16 _ (show i + k < 16 by omega), ai16 _ hi, ai16 _ (show k < 16 by omega), someK_mk,
      load_ws ho (show i + k < O.length by omega), load_ws ha (show i < A.length by omega), load_ws hb (show k < B.length by omega), u_mul uk64, u_add uk64, ← sumX.eq_1, el, es, s1, effK_mk, e4]
    exact r3 q

theorem l37o (c : CallK) (N : Nat) (hN : 1000 ≤ N) (a b o r : Nat) (hao : a ≠ o) (hbo : b ≠ o) (A B : List Nat) (hA : A.length = 16) (hB : B.length = 16) (M n : Nat) (hMn : M + n ≤ 16) (hn : 0 < n) :
    ∀ (j i : Nat) (O : List Nat) (H : Heap) (fr : T V) (τ : Tape) (m : Nat), i + j = M → j < m → O.length = 16 → WF H → Bx H a (ws .u64 A) → Bx H b (ws .u64 B) → Bx H o (ws .u64 O) →
    fr.get 1 = some (.int .i64 (M : Int)) → fr.get 3 = some (.int .i64 (n : Int)) → fr.get 4 = some (.ptr a 0) → fr.get 6 = some (.ptr b 0) → fr.get 8 = some (.ptr r 0) → fr.get 9 = some (.ptr o 0) → fr.get 10 = some (.int .i64 (i : Int)) →
    ∃ H', Bx H' o (ws .u64 (tOutP A B n j i O)) ∧ Chg (fun x => x = o) H H' ∧ ∀ q, loopK (s37_l1 c N) m ⟨fr, H⟩ τ q = q (.exit 0) ⟨(T.set (T.set .leaf 8 (.ptr r 0)) 9 (.ptr o 0)), H'⟩ τ := by
  intro j
  induction j with
  | zero =>
    intro i O H fr τ m hk hm hO hw ha hb ho f1 f3 f4 f6 f8 f9 f10
    obtain ⟨m, rfl⟩ : ∃ j, m = j + 1 := ⟨m - 1, by omega⟩
    refine ⟨H, ho, Chg.refl hw, fun q => ?_⟩
    have e1 : decide ((i : Int) < (M : Int)) = false := decide_eq_false (by omega)
    rw [loopK_succ]
    simp only [s37_l1, getK_mk f1, getK_mk f3, getK_mk f4, getK_mk f6, getK_mk f8, getK_mk f9, getK_mk f10, bin_lss, e1, condK_f]
    rfl
  | succ j ih =>
    intro i O H fr τ m hk hm hO hw ha hb ho f1 f3 f4 f6 f8 f9 f10
    obtain ⟨m, rfl⟩ : ∃ j, m = j + 1 := ⟨m - 1, by omega⟩
    have e1 : decide ((i : Int) < (M : Int)) = true := decide_eq_true (by omega)
    obtain ⟨H1, o1, g1, k1⟩ := l37i c N a b o r hao hbo A B hA hB i n (by omega) (by omega) (.int .i64 (M : Int)) n 0 O 0 H
      (T.set (T.set (T.set (T.set (T.set (T.set (T.set (T.set (T.set .leaf 1 (.int .i64 (M : Int))) 3 (.int .i64 (n : Int))) 4 (.ptr a 0)) 6 (.ptr b 0)) 8 (.ptr r 0)) 9 (.ptr o 0)) 10 (.int .i64 (i : Int))) 11 (.int .u64 (.ofNat 0))) 12 (.int .i64 (.ofNat 0)))
      τ N (by omega) (by omega) hO hw ha hb ho
      (by simp [T.get_set]) (by simp [T.get_set]) (by simp [T.get_set]) (by simp [T.get_set]) (by simp [T.get_set]) (by simp [T.get_set]) (by simp [T.get_set]) (by simp [T.get_set]) (by simp [T.get_set])
    have hl1 : (tInP A B i n 0 O 0).1.length = 16 := by rw [tInP_len, hO]
    obtain ⟨H2, s1, s2, s3⟩ := o1.word g1.wf (i := i + n) (by omega) (((tInP A B i n 0 O 0).1.getD (i + n) 0 + (tInP A B i n 0 O 0).2) % pow2 .u64) τ
    have g2 : Chg (fun x => x = o) H H2 := g1.trans (s3.chg (P := fun x => x = o) rfl) fun _ _ q => q
    obtain ⟨H', r1, r2, r3⟩ := ih (i + 1) _ H2
      (T.set (T.set (T.set (T.set (T.set (T.set (T.set (T.set (T.set (T.set .leaf 1 (.int .i64 (M : Int))) 3 (.int .i64 (n : Int))) 4 (.ptr a 0)) 6 (.ptr b 0)) 8 (.ptr r 0)) 9 (.ptr o 0)) 10 (.int .i64 (i : Int))) 17 (.int .i64 (i : Int))) 18 (.int .i64 ((i + 1 : Nat) : Int))) 10 (.int .i64 ((i + 1 : Nat) : Int)))
      τ m (by omega) (by omega) (by simp [hl1]) g2.wf (ha.chg hw g2 hao) (hb.chg hw g2 hbo) s2
      (by simp [T.get_set]) (by simp [T.get_set]) (by simp [T.get_set]) (by simp [T.get_set]) (by simp [T.get_set]) (by simp [T.get_set]) (by simp [T.get_set])
    refine ⟨H', r1, g2.trans r2 fun _ _ q => q, fun q => ?_⟩
    have e4 : wr .i64 ((i : Int) + Int.ofNat 1) = ((i + 1 : Nat) : Int) := adN (k := 1) (by omega)
    rw [loopK_succ]
    simp only [s37_l1, getK_mk f1, getK_mk f3, getK_mk f4, getK_mk f6, getK_mk f8, getK_mk f9, getK_mk f10, bin_lss, e1, condK_t]
    rw [k1]
    simp only [blockK, Nat.beq_refl, cond_true, cond_false, seqK, s37_j3, getK_set, ↓reduceIte, Nat.reduceEqDiff, bin_add .i64, adN (show i + n < 1000000 by omega), ai16 _ (show i + n < 16 by omega), someK_mk, load_ws o1 (show i + n < (tInP A B i n 0 O 0).1.length by omega), u_add uk64, s1, effK_mk, s37_j2, e4]
    exact r3 q

theorem s37_ret (c : CallK) (N : Nat) (hN : 1000 ≤ N) (A B : List Nat) (hA : A.length = 16) (hB : B.length = 16) (M n : Nat) (hMn : M + n ≤ 16) (hn : 0 < n) (H : Heap) (hw : WF H) (τ : Tape) :
    ∃ H', Gr H.size H H' ∧ ∀ q, s37 c N (.agg (ws .u64 A)) (.int .i64 (M : Int)) (.agg (ws .u64 B)) (.int .i64 (n : Int)) H τ q = q (.agg (ws .u64 (timesP A M B n))) H' τ := by
  have a1 : eBox [.agg (ws .u64 A)] H τ = some (.ptr H.size 0, H.new (ws .u64 A) (ws .u64 A).length true, τ) := rfl
  have g1 := Gr.new hw (ws .u64 A) (ws .u64 A).length true
  have b1 := Bx.new H (ws .u64 A) (ws .u64 A).length true (Nat.le_refl _)
  have z1 : (H.new (ws .u64 A) (ws .u64 A).length true).size = H.size + 1 := rfl
  generalize H.new (ws .u64 A) (ws .u64 A).length true = H1 at a1 g1 b1 z1
  have a2 : eBox [.agg (ws .u64 B)] H1 τ = some (.ptr H1.size 0, H1.new (ws .u64 B) (ws .u64 B).length true, τ) := rfl
  have g2 := Gr.new g1.wf (ws .u64 B) (ws .u64 B).length true
  have b2 := Bx.new H1 (ws .u64 B) (ws .u64 B).length true (Nat.le_refl _)
  have z2 : (H1.new (ws .u64 B) (ws .u64 B).length true).size = H1.size + 1 := rfl
  generalize H1.new (ws .u64 B) (ws .u64 B).length true = H2 at a2 g2 b2 z2
  have a3 : eAlloc (repl 16 [(.int .u64 (.ofNat 0))]) [] H2 τ = some (.ptr H2.size 0, H2.new (ws .u64 (List.replicate 16 0)) 16 true, τ) := rfl
  have g3 := Gr.new g2.wf (ws .u64 (List.replicate 16 0)) 16 true
  have b3 := Bx.new H2 (ws .u64 (List.replicate 16 0)) 16 true (Nat.le_refl _)
  have z3 : (H2.new (ws .u64 (List.replicate 16 0)) 16 true).size = H2.size + 1 := rfl
  generalize H2.new (ws .u64 (List.replicate 16 0)) 16 true = H3 at a3 g3 b3 z3
  have a4 : eAlloc (repl 16 [(.int .u64 (.ofNat 0))]) [] H3 τ = some (.ptr H3.size 0, H3.new (ws .u64 (List.replicate 16 0)) 16 true, τ) := rfl
  have g4 := Gr.new g3.wf (ws .u64 (List.replicate 16 0)) 16 true
  have b4 := Bx.new H3 (ws .u64 (List.replicate 16 0)) 16 true (Nat.le_refl _)
  generalize H3.new (ws .u64 (List.replicate 16 0)) 16 true = H4 at a4 g4 b4
  have z4 := g4.size
  have bA := ((b1.gr g2 (by omega)).gr g3 (by omega)).gr g4 (by omega)
  have bB := (b2.gr g3 (by omega)).gr g4 (by omega)
  have bR := b3.gr g4 (by omega)
  obtain ⟨H5, o5, g5, k5⟩ := l37o c N hN H.size H1.size H3.size H2.size (by omega) (by omega) A B hA hB M n hMn hn M 0 (List.replicate 16 0) H4
    (T.set (T.set (T.set (T.set (T.set (T.set (T.set .leaf 1 (.int .i64 (M : Int))) 3 (.int .i64 (n : Int))) 4 (.ptr H.size 0)) 6 (.ptr H1.size 0)) 8 (.ptr H2.size 0)) 9 (.ptr H3.size 0)) 10 (.int .i64 (.ofNat 0)))
    τ N (by omega) (by omega) (by simp) g4.wf bA bB b4
    (by simp [T.get_set]) (by simp [T.get_set]) (by simp [T.get_set]) (by simp [T.get_set]) (by simp [T.get_set]) (by simp [T.get_set]) (by simp [T.get_set])
  have bR5 := bR.chg g4.wf g5 (by omega)
  have hlen := timesP_len A M B n
  obtain ⟨H6, s1, s2, s3⟩ := bR5.eStore g5.wf 0 (.agg (ws .u64 (timesP A M B n))) 16 (by simp only [V.cells]; rw [ws_len, hlen]) (by simp [ws_len]) (by omega) (by simp only [V.cells]; rw [List.all_eq_true]; intro x hx; obtain ⟨_, _, rfl⟩ := List.mem_map.1 hx; rfl) τ
  have e16 : (ws .u64 (List.replicate 16 0)).take 0 ++ (V.agg (ws .u64 (timesP A M B n))).cells ++ (ws .u64 (List.replicate 16 0)).drop (0 + 16) = ws .u64 (timesP A M B n) := by
    rw [List.drop_eq_nil_of_le (by simp [ws_len])]; simp [V.cells]
  rw [e16] at s2
  have gg := ((g1.trans (g2.trans (g3.trans g4 (by omega)) (by omega)) (by omega)).trans (g5.gr (B := H.size) (by omega) fun i hi e => by omega) (Nat.le_refl _)).trans (s3.gr (B := H.size) (by omega)) (Nat.le_refl _)
  refine ⟨H6, gg, fun q => ?_⟩
  have ld : lLoadN 16 [.ptr H3.size 0] H5 = some (.agg (ws .u64 (timesP A M B n))) := by
    have : lLoadN 16 [.ptr H3.size 0] H5 = some (.agg (((ws .u64 (timesP A M B n)).drop 0).take 16)) := load_cells o5.cells (by rw [ws_len]; exact Nat.le_of_eq hlen.symm)
    rw [this, List.drop_zero, List.take_of_length_le (by rw [ws_len, hlen]; omega)]
  have hres : results ⟨(T.set .leaf 8 (.ptr H2.size 0)), H6⟩ [(.cell 8 (some 16))] = some (.agg (ws .u64 (timesP A M B n))) := by
    have hl : H6.loads H2.size 0 16 = some (ws .u64 (timesP A M B n)) := by
      rw [loads_cells s2.cells (by rw [ws_len, hlen]; omega), List.drop_zero, List.take_of_length_le (by rw [ws_len, hlen]; omega)]
    simp [results, resAll, resOf, T.get_set, evalL, lLoad, lLoadN, hl]
  simp only [s37, a1, a2, a3, a4, effK_mk]
  rw [k5]
  simp only [blockK, Nat.beq_refl, cond_true, cond_false, seqK, s37_j0, getK_set, ↓reduceIte, Nat.reduceEqDiff, ld, someK_mk, s1, effK_mk, hres]
end Go.Am.AmTrydDig

namespace Go.Am.AmTrydDig
set_option linter.unusedSimpArgs false
set_option linter.unusedVariables false
/-! ### roots -/
def cmpP (L : List Nat) (p at' : Nat) : Nat → Bool
  | 0 => true
  | i + 1 => if L.getD i 0 = (if i = at' then p else 0) then cmpP L p at' i else decide (L.getD i 0 < (if i = at' then p else 0))
def belowP (x : List Nat) (p : Nat) (cube : Bool) : Bool := if cube then cmpP (timesP (timesP x 5 x 5) 10 x 5) p 12 16 else cmpP (timesP x 5 x 5) p 8 16

theorem l30 (c : CallK) (N : Nat) (L : List Nat) (hL : L.length = 16) (p at' b : Nat) (H : Heap) (hb : Bx H b (ws .u64 L)) (q : KV) (τ : Tape) :
    ∀ (n : Nat) (fr : T V) (m : Nat), n ≤ 16 → n < m → fr.get 1 = some (.int .u64 (p : Int)) → fr.get 7 = some (.ptr b 0) → fr.get 8 = some (.int .i64 (at' : Int)) → fr.get 9 = some (.int .i64 ((n : Int) - 1)) →
    loopK (s30_l2 c N) m ⟨fr, H⟩ τ (blockK 0 (seqK (s30_j1 c N q) (endK [(.t 6)] q))) = q (.bool (cmpP L p at' n)) H τ := by
  intro n
  induction n with
  | zero =>
    intro fr m hn hm f1 f7 f8 f9
    obtain ⟨m, rfl⟩ : ∃ j, m = j + 1 := ⟨m - 1, by omega⟩
    have e1 : decide (Int.ofNat 0 ≤ (((0 : Nat) : Int) - 1)) = false := by decide
    rw [loopK_succ]
    simp only [s30_l2, getK_mk f1, getK_mk f7, getK_mk f8, getK_mk f9, bin_geq, e1, condK_f, seqK, blockK, Nat.beq_refl, cond_true, s30_j1, cmpP]
  | succ n ih =>
    intro fr m hn hm f1 f7 f8 f9
    obtain ⟨m, rfl⟩ : ∃ j, m = j + 1 := ⟨m - 1, by omega⟩
    have en : (((n + 1 : Nat) : Int) - 1) = (n : Int) := by omega
    rw [en] at f9
    have e1 : decide (Int.ofNat 0 ≤ (n : Int)) = true := decide_eq_true (by simp)
    have e7 : wr .i64 ((n : Int) - Int.ofNat 1) = (n : Int) - 1 := by rw [wr_id (by simp; omega) (by simp; omega)]; rfl
    have ld := load_ws hb (show n < L.length by omega)
    have key : ∀ (want : Nat) (fr' : T V), fr'.get 1 = some (.int .u64 (p : Int)) → fr'.get 7 = some (.ptr b 0) → fr'.get 8 = some (.int .i64 (at' : Int)) → fr'.get 9 = some (.int .i64 (n : Int)) → fr'.get 10 = some (.int .u64 (want : Int)) →
        s30_j4 c N (seqK (fun st τ => loopK (s30_l2 c N) m st τ (blockK 0 (seqK (s30_j1 c N q) (endK [(.t 6)] q)))) (blockK 0 (seqK (s30_j1 c N q) (endK [(.t 6)] q)))) ⟨fr', H⟩ τ = q (.bool (if L.getD n 0 = want then cmpP L p at' n else decide (L.getD n 0 < want))) H τ := by
      intro want fr' g1 g7 g8 g9 g10
      by_cases hw : L.getD n 0 = want
      · have e2 : (((L.getD n 0 : Nat) : Int) != (want : Int)) = false := by rw [hw]; simp
        simp only [s30_j4, getK_mk g1, getK_mk g7, getK_mk g8, getK_mk g9, getK_mk g10, ai16 _ (show n < 16 by omega), someK_mk, ld, bin_neq, e2, condK_f, s30_j3, getK_set, ↓reduceIte, Nat.reduceEqDiff, bin_sub, e7, seqK]
        rw [ih _ m (by omega) (by omega) (by simp [T.get_set]) (by simp [T.get_set]) (by simp [T.get_set]) (by simp [T.get_set]), if_pos hw]
      · have e2 : (((L.getD n 0 : Nat) : Int) != (want : Int)) = true := by simp only [bne_iff_ne, ne_eq]; intro h; exact hw (Int.ofNat.inj h)
        have e3 : decide (((L.getD n 0 : Nat) : Int) < (want : Int)) = decide (L.getD n 0 < want) := by simp
        simp only [s30_j4, getK_mk g1, getK_mk g7, getK_mk g8, getK_mk g9, getK_mk g10, ai16 _ (show n < 16 by omega), someK_mk, ld, bin_neq, e2, condK_t, bin_lss, e3, seqK, blockK]
        rw [if_neg hw]
        simp [endK, results, resAll, resOf, T.get_set, someK]
    rw [loopK_succ]
    by_cases ha : n = at'
    · have e3 : ((n : Int) == (at' : Int)) = true := by rw [ha]; simp
      simp only [s30_l2, getK_mk f1, getK_mk f7, getK_mk f8, getK_mk f9, bin_geq, e1, condK_t, bin_eql, e3]
      rw [key p _ (by simp [T.get_set]) (by simp [T.get_set]) (by simp [T.get_set]) (by simp [T.get_set]) (by simp [T.get_set]), cmpP, if_pos ha]
    · have e3 : ((n : Int) == (at' : Int)) = false := by rw [beq_eq_false_iff_ne]; intro h; exact ha (Int.ofNat.inj h)
      simp only [s30_l2, getK_mk f1, getK_mk f7, getK_mk f8, getK_mk f9, bin_geq, e1, condK_t, bin_eql, e3, condK_f]
      rw [key 0 _ (by simp [T.get_set]) (by simp [T.get_set]) (by simp [T.get_set]) (by simp [T.get_set]) (by simp [T.get_set]), cmpP, if_neg ha]

abbrev Times37 (c : CallK) : Prop := ∀ (A B : List Nat) (M n : Nat), A.length = 16 → B.length = 16 → M + n ≤ 16 → 0 < n → ∀ (H : Heap), WF H → ∀ τ, ∃ H', Gr H.size H H' ∧ ∀ q, c 37 [.agg (ws .u64 A), .int .i64 (M : Int), .agg (ws .u64 B), .int .i64 (n : Int)] H τ q = q (.agg (ws .u64 (timesP A M B n))) H' τ
theorem ws_scal' (k : IntKind) (l : List Nat) : (ws k l).all V.scal = true := by
  rw [List.all_eq_true]
  intro x hx
  obtain ⟨n, _, rfl⟩ := List.mem_map.1 hx
  rfl
/-- all words of a variable are written -/
theorem Bx.words {H : Heap} {id : Nat} {k : IntKind} {l : List Nat} (h : Bx H id (ws k l)) (hw : WF H) (l' : List Nat) {n : Nat} (hn : l.length = n) (hn' : l'.length = n) (h0 : 0 < n) (τ : Tape) :
    ∃ H', Am.eStore n [.ptr id 0, .agg (ws k l')] H τ = some (.tup [], H', τ) ∧ Bx H' id (ws k l') ∧ Only id H H' := by
  obtain ⟨H', h1, h2, h3⟩ := h.eStore hw 0 (.agg (ws k l')) n (by simp only [V.cells]; rw [ws_len, hn']) (by rw [ws_len]; omega) h0 (by simp only [V.cells]; exact ws_scal' _ _) τ
  refine ⟨H', h1, ?_, h3⟩
  have e : (ws k l).take 0 ++ (V.agg (ws k l')).cells ++ (ws k l).drop (0 + n) = ws k l' := by
    rw [List.drop_eq_nil_of_le (by rw [ws_len]; omega)]; simp [V.cells]
  rw [e] at h2
  exact h2
theorem load_all {H : Heap} {id : Nat} {k : IntKind} {l : List Nat} (h : Bx H id (ws k l)) {n : Nat} (hn : l.length = n) : lLoadN n [.ptr id 0] H = some (.agg (ws k l)) := by
  rw [load_cells (off := 0) (n := n) h.cells (by rw [ws_len]; omega), List.drop_zero, List.take_of_length_le (by rw [ws_len]; omega)]

theorem s30_ret (c : CallK) (N : Nat) (hN : 1000 ≤ N) (h37 : Times37 c) (x : List Nat) (hx : x.length = 16) (p : Nat) (cube : Bool) (H : Heap) (hw : WF H) (τ : Tape) :
    ∃ H', Gr H.size H H' ∧ ∀ q, s30 c N (.agg (ws .u64 x)) (.int .u64 (p : Int)) (.bool cube) H τ q = q (.bool (belowP x p cube)) H' τ := by
  have a1 : eBox [.agg (ws .u64 x)] H τ = some (.ptr H.size 0, H.new (ws .u64 x) (ws .u64 x).length true, τ) := rfl
  have g1 := Gr.new hw (ws .u64 x) (ws .u64 x).length true
  have b1 := Bx.new H (ws .u64 x) (ws .u64 x).length true (Nat.le_refl _)
  have z1 : (H.new (ws .u64 x) (ws .u64 x).length true).size = H.size + 1 := rfl
  generalize H.new (ws .u64 x) (ws .u64 x).length true = H1 at a1 g1 b1 z1
  obtain ⟨H2, g2, k2⟩ := h37 x x 5 5 hx hx (by omega) (by omega) H1 g1.wf τ
  have b2 := b1.gr g2 (by omega)
  have a3 : eAlloc (repl 16 [(.int .u64 (.ofNat 0))]) [] H2 τ = some (.ptr H2.size 0, H2.new (ws .u64 (List.replicate 16 0)) 16 true, τ) := rfl
  have g3 := Gr.new g2.wf (ws .u64 (List.replicate 16 0)) 16 true
  have o3 := Bx.new H2 (ws .u64 (List.replicate 16 0)) 16 true (Nat.le_refl _)
  have z3 : (H2.new (ws .u64 (List.replicate 16 0)) 16 true).size = H2.size + 1 := rfl
  generalize H2.new (ws .u64 (List.replicate 16 0)) 16 true = H3 at a3 g3 o3 z3
  have z2 := g2.size
  have b3 := b2.gr g3 (by omega)
  obtain ⟨H4, s1, s2, s3⟩ := Bx.words o3 g3.wf (timesP x 5 x 5) (n := 16) (by simp) (timesP_len _ _ _ _) (by omega) τ
  have b4 := b3.only s3 (by omega)
  have z4 := s3.size
  have g4 : Gr H.size H H4 := (g1.trans (g2.trans g3 (by omega)) (by omega)).trans (s3.gr (B := H.size) (by omega)) (Nat.le_refl _)
  have k2' : ∀ q, c 37 [.agg (ws .u64 x), .int .i64 (.ofNat 5), .agg (ws .u64 x), .int .i64 (.ofNat 5)] H1 τ q = q (.agg (ws .u64 (timesP x 5 x 5))) H2 τ := k2
  cases cube with
  | false =>
    have eb : belowP x p false = cmpP (timesP x 5 x 5) p 8 16 := by unfold belowP; exact if_neg (by decide)
    rw [eb]
    refine ⟨H4, g4, fun q => ?_⟩
    simp only [s30, a1, effK_mk, load_all b1 hx, someK_mk, k2', a3, s1, condK_f, s30_j0, getK_set, ↓reduceIte, Nat.reduceEqDiff]
    exact l30 c N (timesP x 5 x 5) (timesP_len _ _ _ _) p 8 H2.size H4 s2 q τ 16 _ N (by omega) (by omega) (by simp [T.get_set]) (by simp [T.get_set]) (by simp [T.get_set]) (by simp [T.get_set])
  | true =>
    have eb : belowP x p true = cmpP (timesP (timesP x 5 x 5) 10 x 5) p 12 16 := by unfold belowP; exact if_pos rfl
    rw [eb]
    obtain ⟨H5, g5, k5⟩ := h37 (timesP x 5 x 5) x 10 5 (timesP_len _ _ _ _) hx (by omega) (by omega) H4 g4.wf τ
    have s5 := s2.gr g5 (by omega)
    obtain ⟨H6, t1, t2, t3⟩ := Bx.words s5 g5.wf (timesP (timesP x 5 x 5) 10 x 5) (n := 16) (timesP_len _ _ _ _) (timesP_len _ _ _ _) (by omega) τ
    have k5' : ∀ q, c 37 [.agg (ws .u64 (timesP x 5 x 5)), .int .i64 (.ofNat 10), .agg (ws .u64 x), .int .i64 (.ofNat 5)] H4 τ q = q (.agg (ws .u64 (timesP (timesP x 5 x 5) 10 x 5))) H5 τ := k5
    refine ⟨H6, (g4.trans g5 g4.size).trans (t3.gr (B := H.size) (by omega)) (Nat.le_refl _), fun q => ?_⟩
    simp only [s30, a1, effK_mk, load_all b1 hx, someK_mk, k2', a3, s1, condK_t, load_all s2 (timesP_len _ _ _ _), load_all b4 hx, k5', t1, s30_j0, getK_set, ↓reduceIte, Nat.reduceEqDiff]
    exact l30 c N (timesP (timesP x 5 x 5) 10 x 5) (timesP_len _ _ _ _) p 12 H2.size H6 t2 q τ 16 _ N (by omega) (by omega) (by simp [T.get_set]) (by simp [T.get_set]) (by simp [T.get_set]) (by simp [T.get_set])

abbrev Below30 (c : CallK) : Prop := ∀ (x : List Nat) (p : Nat) (cube : Bool), x.length = 16 → ∀ (H : Heap), WF H → ∀ τ, ∃ H', Gr H.size H H' ∧ ∀ q, c 30 [.agg (ws .u64 x), .int .u64 (p : Int), .bool cube] H τ q = q (.bool (belowP x p cube)) H' τ
def bitP (lo : List Nat) (k : Nat) : List Nat := lo.set (k / 16) (lorT .u64 (lo.getD (k / 16) 0) ((1 * 2 ^ min (k % 16) IntKind.u64.bits) % pow2 .u64))
def rootLP (p : Nat) (cube : Bool) : Nat → List Nat → List Nat
  | 0, lo => lo
  | k + 1, lo => rootLP p cube k (if belowP (bitP lo k) p cube then bitP lo k else lo)
def joinP4 (L : List Nat) : Nat := lorT .u64 (lorT .u64 (lorT .u64 (L.getD 0 0) ((L.getD 1 0 * 2 ^ min 16 IntKind.u64.bits) % pow2 .u64)) ((L.getD 2 0 * 2 ^ min 32 IntKind.u64.bits) % pow2 .u64)) ((L.getD 3 0 * 2 ^ min 48 IntKind.u64.bits) % pow2 .u64)
def rootP (p : Nat) (cube : Bool) : Nat := joinP4 (rootLP p cube 72 (List.replicate 16 0))
theorem bitP_len (lo : List Nat) (k : Nat) : (bitP lo k).length = lo.length := by simp [bitP]
theorem rootLP_len (p : Nat) (cube : Bool) : ∀ k lo, (rootLP p cube k lo).length = lo.length := by
  intro k; induction k with
  | zero => intro lo; rfl
  | succ k ih => intro lo; rw [rootLP, ih]; split <;> simp [bitP_len]

theorem l23 (c : CallK) (N : Nat) (h30 : Below30 c) (p : Nat) (cube : Bool) (r : Nat) :
    ∀ (n : Nat) (lo : List Nat) (H : Heap) (fr : T V) (τ : Tape) (m : Nat), n ≤ 72 → n < m → lo.length = 16 → WF H → Bx H r (ws .u64 lo) →
    fr.get 0 = some (.int .u64 (p : Int)) → fr.get 1 = some (.bool cube) → fr.get 5 = some (.ptr r 0) → fr.get 6 = some (.int .i64 ((n : Int) - 1)) →
    ∃ H', Bx H' r (ws .u64 (rootLP p cube n lo)) ∧ Chg (fun i => i = r) H H' ∧ ∀ k, loopK (s23_l1 c N) m ⟨fr, H⟩ τ k = k (.exit 0) ⟨(T.set .leaf 5 (.ptr r 0)), H'⟩ τ := by
  intro n
  induction n with
  | zero =>
    intro lo H fr τ m hn hm hlo hw hr f0 f1 f5 f6
    obtain ⟨m, rfl⟩ : ∃ j, m = j + 1 := ⟨m - 1, by omega⟩
    refine ⟨H, hr, Chg.refl hw, fun k => ?_⟩
    have e1 : decide (Int.ofNat 0 ≤ (((0 : Nat) : Int) - 1)) = false := by decide
    rw [loopK_succ]
    simp only [s23_l1, getK_mk f0, getK_mk f1, getK_mk f5, getK_mk f6, bin_geq, e1, condK_f]
    rfl
  | succ n ih =>
    intro lo H fr τ m hn hm hlo hw hr f0 f1 f5 f6
    obtain ⟨m, rfl⟩ : ∃ j, m = j + 1 := ⟨m - 1, by omega⟩
    have en : (((n + 1 : Nat) : Int) - 1) = (n : Int) := by omega
    rw [en] at f6
    have e1 : decide (Int.ofNat 0 ≤ (n : Int)) = true := decide_eq_true (by simp)
    have hrl := hr.lt hw
    have a1 : eAlloc (repl 16 [(.int .u64 (.ofNat 0))]) [] H τ = some (.ptr H.size 0, H.new (ws .u64 (List.replicate 16 0)) 16 true, τ) := rfl
    have g1 := Gr.new hw (ws .u64 (List.replicate 16 0)) 16 true
    have x1 := Bx.new H (ws .u64 (List.replicate 16 0)) 16 true (Nat.le_refl _)
    have z1 : (H.new (ws .u64 (List.replicate 16 0)) 16 true).size = H.size + 1 := rfl
    generalize H.new (ws .u64 (List.replicate 16 0)) 16 true = H1 at a1 g1 x1 z1
    obtain ⟨H2, s1, s2, s3⟩ := Bx.words x1 g1.wf lo (n := 16) (by simp) hlo (by omega) τ
    have z2 := s3.size
    obtain ⟨H3, t1, t2, t3⟩ := s2.word s3.wf (i := n / 16) (by omega) (lorT .u64 (lo.getD (n / 16) 0) ((1 * 2 ^ min (n % 16) IntKind.u64.bits) % pow2 .u64)) τ
    have z3 := t3.size
    have t2' : Bx H3 H.size (ws .u64 (bitP lo n)) := t2
    have hbl : (bitP lo n).length = 16 := by rw [bitP_len, hlo]
    obtain ⟨H4, g4, k4⟩ := h30 (bitP lo n) p cube hbl H3 t3.wf τ
    have z4 := g4.size
    have x4 := t2'.gr g4 (by omega)
    have r4 : Bx H4 r (ws .u64 lo) := (((hr.gr g1 hrl).only s3 (by omega)).only t3 (by omega)).gr g4 (by omega)
    have gA : Gr H.size H H4 := ((g1.trans (s3.gr (B := H.size) (by omega)) (Nat.le_refl _)).trans (t3.gr (B := H.size) (by omega)) (Nat.le_refl _)).trans g4 (by omega)
    have e16 : wr .i64 ((n : Int).tdiv (Int.ofNat 16)) = ((n / 16 : Nat) : Int) := by
      rw [show Int.ofNat 16 = ((16 : Nat) : Int) from rfl, ← Int.ofNat_tdiv, wr_id (by omega) (by omega)]
    have e17 : (n : Int).tmod (Int.ofNat 16) = ((n % 16 : Nat) : Int) := by rw [show Int.ofNat 16 = ((16 : Nat) : Int) from rfl, ← Int.ofNat_tmod]
    have e18 : wr .u64 ((n % 16 : Nat) : Int) = ((n % 16 : Nat) : Int) := by
      rw [uk64]; congr 1; apply Nat.mod_eq_of_lt
      have : pow2 .u64 = 18446744073709551616 := by decide
      omega
    have e19 : ∀ (q : V → Ans), binK .shl (.int .u64 (.ofNat 1)) (.int .u64 ((n % 16 : Nat) : Int)) q = q (.int .u64 (((1 * 2 ^ min (n % 16) IntKind.u64.bits) % pow2 .u64 : Nat) : Int)) := fun q => u_shl uk64 1 (n % 16) q
    have e7 : wr .i64 ((n : Int) - Int.ofNat 1) = (n : Int) - 1 := by rw [wr_id (by simp; omega) (by simp; omega)]; rfl
    have lorE : ∀ (q : V → Ans) (x y : Nat), binK .or (.int .u64 (x : Int)) (.int .u64 (y : Int)) q = q (.int .u64 ((lorT .u64 x y : Nat) : Int)) := fun q x y => u_or uk64 x y q
    cases hbel : belowP (bitP lo n) p cube with
    | true =>
      obtain ⟨H5, u1, u2, u3⟩ := Bx.words r4 g4.wf (bitP lo n) (n := 16) hlo hbl (by omega) τ
      have g5 : Chg (fun i => i = r) H H5 := (gA.chg (P := fun i => i = r)).trans (u3.chg (P := fun i => i = r) rfl) fun _ _ q => q
      obtain ⟨H', r1, r2, r3⟩ := ih (bitP lo n) H5 (T.set (T.set (T.set (T.set (T.set (T.set (T.set .leaf 0 (.int .u64 (p : Int))) 1 (.bool cube)) 5 (.ptr r 0)) 6 (.int .i64 (n : Int))) 10 (.int .i64 (n : Int))) 11 (.int .i64 ((n : Int) - 1))) 6 (.int .i64 ((n : Int) - 1)))
        τ m (by omega) (by omega) hbl u3.wf u2 (by simp [T.get_set]) (by simp [T.get_set]) (by simp [T.get_set]) (by simp [T.get_set])
      refine ⟨H', by rw [rootLP, hbel]; exact r1, g5.trans r2 fun _ _ q => q, fun k => ?_⟩
      rw [loopK_succ]
      simp only [s23_l1, getK_mk f0, getK_mk f1, getK_mk f5, getK_mk f6, bin_geq, e1, condK_t, load_all hr hlo, someK_mk, a1, effK_mk, s1, bin_quo _ _ (Int.ofNat 16) (by decide), e16, ai16 _ (show n / 16 < 16 by omega), load_ws s2 (show n / 16 < lo.length by omega), bin_rem _ _ (Int.ofNat 16) (by decide), e17, toInt_mk, e18, e19, lorE, t1, load_all t2' hbl, k4, hbel, load_all x4 hbl, u1, s23_j2, getK_set, ↓reduceIte, Nat.reduceEqDiff, bin_sub, e7]
      exact r3 k
    | false =>
      have g5 : Chg (fun i => i = r) H H4 := gA.chg
      obtain ⟨H', r1, r2, r3⟩ := ih lo H4 (T.set (T.set (T.set (T.set (T.set (T.set (T.set .leaf 0 (.int .u64 (p : Int))) 1 (.bool cube)) 5 (.ptr r 0)) 6 (.int .i64 (n : Int))) 10 (.int .i64 (n : Int))) 11 (.int .i64 ((n : Int) - 1))) 6 (.int .i64 ((n : Int) - 1)))
        τ m (by omega) (by omega) hlo g4.wf r4 (by simp [T.get_set]) (by simp [T.get_set]) (by simp [T.get_set]) (by simp [T.get_set])
      refine ⟨H', by rw [rootLP, hbel]; exact r1, g5.trans r2 fun _ _ q => q, fun k => ?_⟩
      rw [loopK_succ]
      simp only [s23_l1, getK_mk f0, getK_mk f1, getK_mk f5, getK_mk f6, bin_geq, e1, condK_t, load_all hr hlo, someK_mk, a1, effK_mk, s1, bin_quo _ _ (Int.ofNat 16) (by decide), e16, ai16 _ (show n / 16 < 16 by omega), load_ws s2 (show n / 16 < lo.length by omega), bin_rem _ _ (Int.ofNat 16) (by decide), e17, toInt_mk, e18, e19, lorE, t1, load_all t2' hbl, k4, hbel, condK_f, s23_j2, getK_set, ↓reduceIte, Nat.reduceEqDiff, bin_sub, e7]
      exact r3 k

theorem j23 (c : CallK) (N : Nat) (L : List Nat) (hlen : L.length = 16) (r : Nat) (H : Heap) (r1 : Bx H r (ws .u64 L)) (τ : Tape) (q : KV) : s23_j0 c N q ⟨(T.set .leaf 5 (.ptr r 0)), H⟩ τ = q (.int .u64 (joinP4 L : Nat)) H τ := by
  have a0 : pArrIdx 16 1 [.ptr r 0, .int .i64 (.ofNat 0)] = some (.ptr r 0) := ai16 _ (show 0 < 16 by omega)
  have a2 : pArrIdx 16 1 [.ptr r 0, .int .i64 (.ofNat 1)] = some (.ptr r 1) := ai16 _ (show 1 < 16 by omega)
  have a3 : pArrIdx 16 1 [.ptr r 0, .int .i64 (.ofNat 2)] = some (.ptr r 2) := ai16 _ (show 2 < 16 by omega)
  have a4 : pArrIdx 16 1 [.ptr r 0, .int .i64 (.ofNat 3)] = some (.ptr r 3) := ai16 _ (show 3 < 16 by omega)
  have sh : ∀ (q : V → Ans) (x j : Nat), binK .shl (.int .u64 (x : Int)) (.int .u64 (.ofNat j)) q = q (.int .u64 (((x * 2 ^ min j IntKind.u64.bits) % pow2 .u64 : Nat) : Int)) := fun q x j => u_shl uk64 x j q
  have lorE : ∀ (q : V → Ans) (x y : Nat), binK .or (.int .u64 (x : Int)) (.int .u64 (y : Int)) q = q (.int .u64 ((lorT .u64 x y : Nat) : Int)) := fun q x y => u_or uk64 x y q
  unfold joinP4
  simp only [s23_j0, getK_set, ↓reduceIte]
  rw [a0, someK_mk, load_ws r1 (show 0 < L.length by omega), someK_mk, a2, someK_mk, load_ws r1 (show 1 < L.length by omega), someK_mk, sh, lorE, a3, someK_mk, load_ws r1 (show 2 < L.length by omega), someK_mk, sh, lorE, a4, someK_mk, load_ws r1 (show 3 < L.length by omega), someK_mk, sh, lorE]
theorem s23_ret (c : CallK) (N : Nat) (hN : 1000 ≤ N) (h30 : Below30 c) (p : Nat) (cube : Bool) (H : Heap) (hw : WF H) (τ : Tape) :
    ∃ H', Gr H.size H H' ∧ ∀ q, s23 c N (.int .u64 (p : Int)) (.bool cube) H τ q = q (.int .u64 (rootP p cube : Nat)) H' τ := by
  have a1 : eAlloc (repl 16 [(.int .u64 (.ofNat 0))]) [] H τ = some (.ptr H.size 0, H.new (ws .u64 (List.replicate 16 0)) 16 true, τ) := rfl
  have g1 := Gr.new hw (ws .u64 (List.replicate 16 0)) 16 true
  have x1 := Bx.new H (ws .u64 (List.replicate 16 0)) 16 true (Nat.le_refl _)
  have z1 : (H.new (ws .u64 (List.replicate 16 0)) 16 true).size = H.size + 1 := rfl
  generalize H.new (ws .u64 (List.replicate 16 0)) 16 true = H1 at a1 g1 x1 z1
  obtain ⟨H2, r1, r2, r3⟩ := l23 c N h30 p cube H.size 72 (List.replicate 16 0) H1 (T.set (T.set (T.set (T.set .leaf 0 (.int .u64 (p : Int))) 1 (.bool cube)) 5 (.ptr H.size 0)) 6 (.int .i64 (.ofNat 71))) τ N (by omega) (by omega) (by simp) g1.wf x1
    (by simp [T.get_set]) (by simp [T.get_set]) (by simp [T.get_set]) (by simp [T.get_set])
  have hlen : (rootLP p cube 72 (List.replicate 16 0)).length = 16 := by rw [rootLP_len]; simp
  refine ⟨H2, g1.trans (r2.gr (B := H.size) (by omega) fun i hi e => by omega) (Nat.le_refl _), fun q => ?_⟩
  unfold rootP
  generalize rootLP p cube 72 (List.replicate 16 0) = L at r1 r3 hlen ⊢
  simp only [s23, a1, effK_mk]
  rw [r3]
  simp only [blockK, Nat.beq_refl, cond_true, seqK]
  exact j23 c N L hlen H.size H2 r1 τ q
end Go.Am.AmTrydDig

namespace Go.Am.AmTrydDig
set_option linter.unusedSimpArgs false
set_option linter.unusedVariables false
/-! ### the document's table -/
def isPrime (b : Bool) (p : Nat) (l : List Nat) : Bool := l.foldl (fun b x => b && (p % x != 0)) b
def primesN : Nat → List Nat
  | 0 => []
  | n + 1 => if isPrime true (n + 2) (primesN n) then primesN n ++ [n + 2] else primesN n
def primesA : Nat → Nat → List Nat → List Nat
  | 0, _, l => l
  | k + 1, n, l => primesA k (n + 1) (if isPrime true (n + 2) l then l ++ [n + 2] else l)
theorem primesA_eq : ∀ k n, primesA k n (primesN n) = primesN (n + k) := by
  intro k; induction k with
  | zero => intro n; rfl
  | succ k ih => intro n; rw [primesA, show n + (k + 1) = (n + 1) + k by omega, ← ih (n + 1)]; rfl
theorem primesN_mono : ∀ n, (primesN n).length ≤ (primesN (n + 1)).length := by
  intro n; rw [primesN]; split <;> simp
theorem primesN_mono' : ∀ k n, (primesN n).length ≤ (primesN (n + k)).length := by
  intro k; induction k with
  | zero => intro n; exact Nat.le_refl _
  | succ k ih => intro n; exact Nat.le_trans (ih n) (primesN_mono _)
theorem primesN_pos : ∀ n x, x ∈ primesN n → 0 < x := by
  intro n; induction n with
  | zero => intro x h; simp [primesN] at h
  | succ n ih =>
    intro x h
    rw [primesN] at h
    split at h
    · simp at h; rcases h with h | h
      · exact ih x h
      · omega
    · exact ih x h
def primes80 : List Nat := [2, 3, 5, 7, 11, 13, 17, 19, 23, 29, 31, 37, 41, 43, 47, 53, 59, 61, 67, 71, 73, 79, 83, 89, 97, 101, 103, 107, 109, 113, 127, 131, 137, 139, 149, 151, 157, 163, 167, 173, 179, 181, 191, 193, 197, 199, 211, 223, 227, 229, 233, 239, 241, 251, 257, 263, 269, 271, 277, 281, 283, 293, 307, 311, 313, 317, 331, 337, 347, 349, 353, 359, 367, 373, 379, 383, 389, 397, 401, 409]
theorem primesA_408 : primesA 408 0 [] = primes80 := by kernel_rfl
theorem primesA_407 : (primesA 407 0 []).length = 79 := by kernel_rfl
theorem primes_408 : primesN 408 = primes80 := by
  have h := primesA_eq 408 0
  rw [Nat.zero_add] at h
  exact h.symm.trans primesA_408
theorem primes_407 : (primesN 407).length = 79 := by
  have h := primesA_eq 407 0
  rw [Nat.zero_add] at h
  exact (congrArg List.length h.symm).trans primesA_407
theorem primes_lt {n : Nat} (h : n < 408) : (primesN n).length < 80 := by
  have := primesN_mono' (407 - n) n
  rw [show n + (407 - n) = 407 by omega, primes_407] at this
  omega
theorem rem_u64 (x y : Nat) (hy : 0 < y) (c : V → Ans) : binK .rem (.int .u64 (x : Int)) (.int .u64 (y : Int)) c = c (.int .u64 ((x % y : Nat) : Int)) := by
  rw [bin_rem _ _ _ (by omega), ← Int.ofNat_tmod]

theorem l8n (c : CallK) (N : Nat) (t : V) (v : V) (p : Nat) (H : Heap) (l0 : List Nat) (hlen : l0.length < 1000) (hRd : Rd H 1 v l0.length (ws .u64 l0)) (hpos : ∀ x ∈ l0, 0 < x) :
    ∀ (l pre : List Nat) (b : Bool) (fr : T V) (τ : Tape) (m : Nat), l0 = pre ++ l → l.length < m →
    fr.get 1 = some t → fr.get 2 = some v → fr.get 3 = some (.int .u64 (p : Int)) → fr.get 4 = some (.bool b) → fr.get 5 = some (.int .i64 (pre.length : Int)) →
    ∀ k, loopK (s12_l8 c N) m ⟨fr, H⟩ τ k = k (.exit 2) ⟨(T.set (T.set (T.set (T.set .leaf 1 t) 2 v) 3 (.int .u64 (p : Int))) 4 (.bool (isPrime b p l))), H⟩ τ := by
  intro l
  induction l with
  | nil =>
    intro pre b fr τ m he hm f1 f2 f3 f4 f5 k
    obtain ⟨m, rfl⟩ : ∃ j, m = j + 1 := ⟨m - 1, by omega⟩
    have e1 : decide ((pre.length : Int) < (l0.length : Int)) = false := decide_eq_false (by rw [he]; simp)
    rw [loopK_succ]
    simp only [s12_l8, getK_mk f1, getK_mk f2, getK_mk f3, getK_mk f4, getK_mk f5, hRd.pLen, someK_mk, bin_lss, e1, condK_f]
    rfl
  | cons x l ih =>
    intro pre b fr τ m he hm f1 f2 f3 f4 f5 k
    obtain ⟨m, rfl⟩ : ∃ j, m = j + 1 := ⟨m - 1, by omega⟩
    have e1 : decide ((pre.length : Int) < (l0.length : Int)) = true := decide_eq_true (by rw [he]; simp; omega)
    have hx : 0 < x := hpos x (by rw [he]; simp)
    obtain ⟨q, q1, q2⟩ := hRd.elem1 (i := pre.length) (x := .int .u64 (x : Int)) (by rw [he]; simp [ws])
    have hl : pre.length < l0.length := by rw [he]; simp
    have e3 : wr .i64 ((pre.length : Int) + Int.ofNat 1) = ((pre ++ [x]).length : Int) := by
      rw [wr_id (by simp; omega) (by simp; omega)]; simp
    have e4 : (((p % x : Nat) : Int) != Int.ofNat 0) = (p % x != 0) := by
      by_cases h : p % x = 0
      · rw [h]; rfl
      · have h1 : (p % x != 0) = true := by simpa using h
        rw [h1]
        simp only [bne_iff_ne, ne_eq]
        intro e; exact h (Int.ofNat.inj e)
    have ih' := fun b' fr' => ih (pre ++ [x]) b' fr' τ m (by rw [he]; simp) (by simp at hm; omega)
    rw [loopK_succ]
    cases b with
    | true =>
      simp only [s12_l8, getK_mk f1, getK_mk f2, getK_mk f3, getK_mk f4, getK_mk f5, hRd.pLen, someK_mk, bin_lss, e1, condK_t, gK_do, retK, effK_mk, q1, q2, rem_u64 _ _ hx, bin_neq, e4, pick_mk, cond_true, bin_add, e3]
      exact ih' (p % x != 0) _ (by simp [T.get_set]) (by simp [T.get_set]) (by simp [T.get_set]) (by simp [T.get_set]) (by simp [T.get_set]) k
    | false =>
      simp only [s12_l8, getK_mk f1, getK_mk f2, getK_mk f3, getK_mk f4, getK_mk f5, hRd.pLen, someK_mk, bin_lss, e1, condK_t, gK_skip, gK_none, pick_mk, cond_false, bin_add, e3]
      have := ih' false ((T.set (T.set (T.set (T.set (T.set (T.set (T.set (T.set .leaf 1 t) 2 v) 3 (.int .u64 (p : Int))) 4 (.bool false)) 5 (.int .i64 (pre.length : Int))) 19 (.int .i64 (pre.length : Int))) 20 (.int .i64 ((pre ++ [x]).length : Int))) 5 (.int .i64 ((pre ++ [x]).length : Int)))) (by simp [T.get_set]) (by simp [T.get_set]) (by simp [T.get_set]) (by simp [T.get_set]) (by simp [T.get_set]) k
      exact this

/-- the first eighty primes -/
theorem l5n (c : CallK) (N : Nat) (hN : 1000 < N) (t B : Nat) :
    ∀ (j n : Nat) (v : V) (H : Heap) (fr : T V) (τ : Tape) (m : Nat), n + j = 408 → j < m → WF H → B ≤ H.size → Own H B 1 v (primesN n).length (ws .u64 (primesN n)) →
    fr.get 1 = some (.ptr t 0) → fr.get 2 = some v → fr.get 3 = some (.int .u64 ((n + 2 : Nat) : Int)) →
    ∃ v' H' τ', Own H' B 1 v' (primesN 408).length (ws .u64 (primesN 408)) ∧ Gr B H H' ∧ ∀ k, loopK (s12_l5 c N) m ⟨fr, H⟩ τ k = k (.exit 0) ⟨(T.set (T.set .leaf 1 (.ptr t 0)) 2 v'), H'⟩ τ' := by
  intro j
  induction j with
  | zero =>
    intro n v H fr τ m hn hm hw hB hO f1 f2 f3
    obtain ⟨m, rfl⟩ : ∃ j, m = j + 1 := ⟨m - 1, by omega⟩
    obtain rfl : n = 408 := by omega
    refine ⟨v, H, τ, hO, Gr.refl hw, fun k => ?_⟩
    have e1 : decide (((primesN 408).length : Int) < Int.ofNat 80) = false := by rw [primes_408]; rfl
    rw [loopK_succ]
    simp only [s12_l5, getK_mk f1, getK_mk f2, getK_mk f3, Own.pLen hO, someK_mk, bin_lss, e1, condK_f]
    rfl
  | succ j ih =>
    intro n v H fr τ m hn hm hw hB hO f1 f2 f3
    obtain ⟨m, rfl⟩ : ∃ j, m = j + 1 := ⟨m - 1, by omega⟩
    have hlt := primes_lt (n := n) (by omega)
    have e1 : decide (((primesN n).length : Int) < Int.ofNat 80) = true := decide_eq_true (by simp; omega)
    have hin := l8n c N (.ptr t 0) v (n + 2) H (primesN n) (by omega) (Own.rd hO) (primesN_pos n) (primesN n) [] true
      (T.set (T.set (T.set (T.set (T.set .leaf 1 (.ptr t 0)) 2 v) 3 (.int .u64 ((n + 2 : Nat) : Int))) 4 (.bool true)) 5 (.int .i64 (.ofNat 0))) τ N rfl (by omega)
      (by simp [T.get_set]) (by simp [T.get_set]) (by simp [T.get_set]) (by simp [T.get_set]) (by simp [T.get_set])
    have e2 : wr .u64 (((n + 2 : Nat) : Int) + Int.ofNat 1) = ((n + 1 + 2 : Nat) : Int) := by
      rw [show ((n + 2 : Nat) : Int) + Int.ofNat 1 = ((n + 3 : Nat) : Int) from rfl, uk64]
      congr 1; apply Nat.mod_eq_of_lt
      have : pow2 .u64 = 18446744073709551616 := by decide
      omega
    cases hp : isPrime true (n + 2) (primesN n) with
    | true =>
      obtain ⟨w, H1, v', H2, p1, p2, p3, p4, _⟩ := hO.push (bytes := 8) hw hB (.int .u64 ((n + 2 : Nat) : Int)) (.int .u64 (.ofNat 0)) rfl rfl (by omega) (by omega) τ
      rw [ws_snoc] at p3
      have ep : primesN (n + 1) = primesN n ++ [n + 2] := by rw [primesN, if_pos hp]
      have p3' : Own H2 B 1 v' (primesN (n + 1)).length (ws .u64 (primesN (n + 1))) := by rw [ep]; simpa using p3
      obtain ⟨v2, H', τ', r1, r2, r3⟩ := ih (n + 1) v' H2
        (T.set (T.set (T.set (T.set (T.set (T.set .leaf 1 (.ptr t 0)) 2 v') 3 (.int .u64 ((n + 2 : Nat) : Int))) 13 (.int .u64 ((n + 2 : Nat) : Int))) 14 (.int .u64 ((n + 1 + 2 : Nat) : Int))) 3 (.int .u64 ((n + 1 + 2 : Nat) : Int)))
        τ.tail m (by omega) (by omega) p4.wf (Nat.le_trans hB p4.size) p3' (by simp [T.get_set]) (by simp [T.get_set]) (by simp [T.get_set])
      refine ⟨v2, H', τ', r1, p4.trans r2 (Nat.le_refl _), fun k => ?_⟩
      rw [loopK_succ]
      simp only [s12_l5, getK_mk f1, getK_mk f2, getK_mk f3, Own.pLen hO, someK_mk, bin_lss, e1, condK_t]
      rw [hin]
      simp only [hp, blockK, Nat.beq_refl, cond_true, cond_false, seqK, s12_j7, getK_set, ↓reduceIte, Nat.reduceEqDiff, condK_t, p1, p2, effK_mk, s12_j6, bin_add, e2]
      exact r3 k
    | false =>
      have ep : primesN (n + 1) = primesN n := by rw [primesN, if_neg (by rw [hp]; simp)]
      obtain ⟨v2, H', τ', r1, r2, r3⟩ := ih (n + 1) v H
        (T.set (T.set (T.set (T.set (T.set (T.set .leaf 1 (.ptr t 0)) 2 v) 3 (.int .u64 ((n + 2 : Nat) : Int))) 13 (.int .u64 ((n + 2 : Nat) : Int))) 14 (.int .u64 ((n + 1 + 2 : Nat) : Int))) 3 (.int .u64 ((n + 1 + 2 : Nat) : Int)))
        τ m (by omega) (by omega) hw hB (by rw [ep]; exact hO) (by simp [T.get_set]) (by simp [T.get_set]) (by simp [T.get_set])
      refine ⟨v2, H', τ', r1, r2, fun k => ?_⟩
      rw [loopK_succ]
      simp only [s12_l5, getK_mk f1, getK_mk f2, getK_mk f3, Own.pLen hO, someK_mk, bin_lss, e1, condK_t]
      rw [hin]
      simp only [hp, blockK, Nat.beq_refl, cond_true, cond_false, seqK, s12_j7, getK_set, ↓reduceIte, Nat.reduceEqDiff, condK_f, s12_j6, bin_add, e2]
      exact r3 k

/-! ### the table is filled -/
abbrev Root23 (c : CallK) : Prop := ∀ (p : Nat) (cube : Bool) (H : Heap), WF H → ∀ τ, ∃ H', Gr H.size H H' ∧ ∀ q, c 23 [.int .u64 (p : Int), .bool cube] H τ q = q (.int .u64 (rootP p cube : Nat)) H' τ
def fillT (l : List Nat) (cube : Bool) (base : Nat) : Nat → Nat → List Nat → List Nat
  | 0, _, T => T
  | j + 1, i, T => fillT l cube base j (i + 1) (T.set (base + i) (rootP (l.getD i 0) cube))
theorem fillT_len (l : List Nat) (cube : Bool) (base : Nat) : ∀ j i T, (fillT l cube base j i T).length = T.length := by
  intro j; induction j with
  | zero => intros; rfl
  | succ j ih => intro i T; rw [fillT, ih]; simp
theorem l4n (c : CallK) (N : Nat) (h23 : Root23 c) (t : Nat) (v : V) (l : List Nat) (hl : l.length = 80) :
    ∀ (j i : Nat) (T0 : List Nat) (H : Heap) (fr : T V) (τ : Tape) (m : Nat), i + j = 80 → j < m → T0.length = 96 → WF H → Bx H t (ws .u64 T0) → (∀ H', Chg (fun x => x = t) H H' → Rd H' 1 v l.length (ws .u64 l)) →
    fr.get 1 = some (.ptr t 0) → fr.get 2 = some v → fr.get 6 = some (.int .i64 (i : Int)) →
    ∃ H', Bx H' t (ws .u64 (fillT l true 0 j i T0)) ∧ Chg (fun x => x = t) H H' ∧ ∀ k, loopK (s12_l4 c N) m ⟨fr, H⟩ τ k = k (.exit 4) ⟨(T.set (T.set .leaf 1 (.ptr t 0)) 2 v), H'⟩ τ := by
  intro j
  induction j with
  | zero =>
    intro i T0 H fr τ m hi hm hT hw hb hR f1 f2 f6
    obtain ⟨m, rfl⟩ : ∃ j, m = j + 1 := ⟨m - 1, by omega⟩
    refine ⟨H, hb, Chg.refl hw, fun k => ?_⟩
    have e1 : decide ((i : Int) < Int.ofNat 80) = false := decide_eq_false (by simp; omega)
    rw [loopK_succ]
    simp only [s12_l4, getK_mk f1, getK_mk f2, getK_mk f6, bin_lss, e1, condK_f]
    rfl
  | succ j ih =>
    intro i T0 H fr τ m hi hm hT hw hb hR f1 f2 f6
    obtain ⟨m, rfl⟩ : ∃ j, m = j + 1 := ⟨m - 1, by omega⟩
    have e1 : decide ((i : Int) < Int.ofNat 80) = true := decide_eq_true (by simp; omega)
    obtain ⟨q, q1, q2⟩ := (hR H (Chg.refl hw)).elem1 (i := i) (ws_get (k := .u64) (l := l) (i := i) (by omega))
    obtain ⟨H1, g1, k1⟩ := h23 (l.getD i 0) true H hw τ
    have b1 := hb.gr g1 (hb.lt hw)
    obtain ⟨H2, s1, s2, s3⟩ := b1.word g1.wf (i := 0 + i) (by omega) (rootP (l.getD i 0) true) τ
    have g2 : Chg (fun x => x = t) H H2 := (g1.chg (P := fun x => x = t)).trans (s3.chg (P := fun x => x = t) rfl) fun _ _ q => q
    have e4 : wr .i64 ((i : Int) + Int.ofNat 1) = ((i + 1 : Nat) : Int) := adN (k := 1) (by omega)
    obtain ⟨H', r1, r2, r3⟩ := ih (i + 1) _ H2 (T.set (T.set (T.set (T.set (T.set (T.set .leaf 1 (.ptr t 0)) 2 v) 6 (.int .i64 (i : Int))) 38 (.int .i64 (i : Int))) 39 (.int .i64 ((i + 1 : Nat) : Int))) 6 (.int .i64 ((i + 1 : Nat) : Int)))
      τ m (by omega) (by omega) (by simp [hT]) s3.wf s2 (fun H' h => hR H' (g2.trans h fun _ _ q => q)) (by simp [T.get_set]) (by simp [T.get_set]) (by simp [T.get_set])
    refine ⟨H', r1, g2.trans r2 fun _ _ q => q, fun k => ?_⟩
    have nk : ∀ (i o : Nat), pNilck [.ptr i o] = some (.ptr i o) := fun _ _ => rfl
    have ea : pArrIdx 80 1 [.ptr t 0, .int .i64 (i : Int)] = some (.ptr t (0 + i)) := by
      have := arrIdx_mk (z := 1) (id := t) (off := 0) (show i < 80 by omega)
      simpa using this
    rw [loopK_succ]
    simp only [s12_l4, getK_mk f1, getK_mk f2, getK_mk f6, bin_lss, e1, condK_t, q1, q2, someK_mk, k1, nk, fa0, ea, s1, effK_mk, bin_add, e4]
    exact r3 k
theorem l3n (c : CallK) (N : Nat) (h23 : Root23 c) (t : Nat) (v : V) (l : List Nat) (hl : l.length = 80) :
    ∀ (j i : Nat) (T0 : List Nat) (H : Heap) (fr : T V) (τ : Tape) (m : Nat), i + j = 16 → j < m → T0.length = 96 → WF H → Bx H t (ws .u64 T0) → (∀ H', Chg (fun x => x = t) H H' → Rd H' 1 v l.length (ws .u64 l)) →
    fr.get 1 = some (.ptr t 0) → fr.get 2 = some v → fr.get 7 = some (.int .i64 (i : Int)) →
    ∃ H', Bx H' t (ws .u64 (fillT l false 80 j i T0)) ∧ Chg (fun x => x = t) H H' ∧ ∀ k, loopK (s12_l3 c N) m ⟨fr, H⟩ τ k = k (.exit 6) ⟨(T.set .leaf 1 (.ptr t 0)), H'⟩ τ := by
  intro j
  induction j with
  | zero =>
    intro i T0 H fr τ m hi hm hT hw hb hR f1 f2 f7
    obtain ⟨m, rfl⟩ : ∃ j, m = j + 1 := ⟨m - 1, by omega⟩
    refine ⟨H, hb, Chg.refl hw, fun k => ?_⟩
    have e1 : decide ((i : Int) < Int.ofNat 16) = false := decide_eq_false (by simp; omega)
    rw [loopK_succ]
    simp only [s12_l3, getK_mk f1, getK_mk f2, getK_mk f7, bin_lss, e1, condK_f]
    rfl
  | succ j ih =>
    intro i T0 H fr τ m hi hm hT hw hb hR f1 f2 f7
    obtain ⟨m, rfl⟩ : ∃ j, m = j + 1 := ⟨m - 1, by omega⟩
    have e1 : decide ((i : Int) < Int.ofNat 16) = true := decide_eq_true (by simp; omega)
    obtain ⟨q, q1, q2⟩ := (hR H (Chg.refl hw)).elem1 (i := i) (ws_get (k := .u64) (l := l) (i := i) (by omega))
    obtain ⟨H1, g1, k1⟩ := h23 (l.getD i 0) false H hw τ
    have b1 := hb.gr g1 (hb.lt hw)
    obtain ⟨H2, s1, s2, s3⟩ := b1.word g1.wf (i := 80 + i) (by omega) (rootP (l.getD i 0) false) τ
    have g2 : Chg (fun x => x = t) H H2 := (g1.chg (P := fun x => x = t)).trans (s3.chg (P := fun x => x = t) rfl) fun _ _ q => q
    have e4 : wr .i64 ((i : Int) + Int.ofNat 1) = ((i + 1 : Nat) : Int) := adN (k := 1) (by omega)
    obtain ⟨H', r1, r2, r3⟩ := ih (i + 1) _ H2 (T.set (T.set (T.set (T.set (T.set (T.set .leaf 1 (.ptr t 0)) 2 v) 7 (.int .i64 (i : Int))) 52 (.int .i64 (i : Int))) 53 (.int .i64 ((i + 1 : Nat) : Int))) 7 (.int .i64 ((i + 1 : Nat) : Int)))
      τ m (by omega) (by omega) (by simp [hT]) s3.wf s2 (fun H' h => hR H' (g2.trans h fun _ _ q => q)) (by simp [T.get_set]) (by simp [T.get_set]) (by simp [T.get_set])
    refine ⟨H', r1, g2.trans r2 fun _ _ q => q, fun k => ?_⟩
    have nk : ∀ (i o : Nat), pNilck [.ptr i o] = some (.ptr i o) := fun _ _ => rfl
    have fa : pFieldAddr 80 [.ptr t 0] = some (.ptr t 80) := by simp [pFieldAddr]
    have ea : pArrIdx 16 1 [.ptr t 80, .int .i64 (i : Int)] = some (.ptr t (80 + i)) := by
      have := arrIdx_mk (z := 1) (id := t) (off := 80) (show i < 16 by omega)
      simpa using this
    rw [loopK_succ]
    simp only [s12_l3, getK_mk f1, getK_mk f2, getK_mk f7, bin_lss, e1, condK_t, q1, q2, someK_mk, k1, nk, fa, ea, s1, effK_mk, bin_add, e4]
    exact r3 k

/-- the table, as it is reckoned -/
def tableP : List Nat := fillT primes80 false 80 16 0 (fillT primes80 true 0 80 0 (List.replicate 96 0))
theorem s12_ret (c : CallK) (N : Nat) (hN : 1000 < N) (h23 : Root23 c) (H : Heap) (hw : WF H) (τ : Tape) :
    ∃ H' τ', Bx H' H.size (ws .u64 tableP) ∧ Gr H.size H H' ∧ ∀ q, s12 c N H τ q = q (.ptr H.size 0) H' τ' := by
  have a0 : pBuild (repl 96 [(.int .u64 (.ofNat 0))]) [] [] = some (.agg (ws .u64 (List.replicate 96 0))) := rfl
  have a1 : eBox [.agg (ws .u64 (List.replicate 96 0))] H τ = some (.ptr H.size 0, H.new (ws .u64 (List.replicate 96 0)) (ws .u64 (List.replicate 96 0)).length true, τ) := rfl
  have g1 := Gr.new hw (ws .u64 (List.replicate 96 0)) (ws .u64 (List.replicate 96 0)).length true
  have b1 := Bx.new H (ws .u64 (List.replicate 96 0)) (ws .u64 (List.replicate 96 0)).length true (Nat.le_refl _)
  have z1 : (H.new (ws .u64 (List.replicate 96 0)) (ws .u64 (List.replicate 96 0)).length true).size = H.size + 1 := rfl
  generalize H.new (ws .u64 (List.replicate 96 0)) (ws .u64 (List.replicate 96 0)).length true = H1 at a1 g1 b1 z1
  obtain ⟨v, H2, τ2, o2, g2, k2⟩ := l5n c N hN H.size (H.size + 1) 408 0 .nils H1
    (T.set (T.set (T.set .leaf 1 (.ptr H.size 0)) 2 .nils) 3 (.int .u64 (.ofNat 2))) τ N (by omega) (by omega) g1.wf (by omega) (Own.nil _ _ _) (by simp [T.get_set]) (by simp [T.get_set]) (by simp [T.get_set])
  rw [primes_408] at o2
  have b2 := b1.gr g2 (by omega)
  have hp : primes80.length = 80 := rfl
  have rd2 : ∀ H', Chg (fun x => x = H.size) H2 H' → Rd H' 1 v primes80.length (ws .u64 primes80) := by
    intro H' h
    have := Own.rdS o2 g2.wf (show H.size < H.size + 1 by omega)
    exact this H' (h.gx (Nat.le_refl _) fun i _ e => e)
  obtain ⟨H3, b3, g3, k3⟩ := l4n c N h23 H.size v primes80 hp 80 0 (List.replicate 96 0) H2 (T.set (T.set (T.set .leaf 1 (.ptr H.size 0)) 2 v) 6 (.int .i64 (.ofNat 0))) τ2 N (by omega) (by omega) (by simp) g2.wf b2 rd2 (by simp [T.get_set]) (by simp [T.get_set]) (by simp [T.get_set])
  obtain ⟨H4, b4, g4, k4⟩ := l3n c N h23 H.size v primes80 hp 16 0 _ H3 (T.set (T.set (T.set .leaf 1 (.ptr H.size 0)) 2 v) 7 (.int .i64 (.ofNat 0))) τ2 N (by omega) (by omega) (by rw [fillT_len]; simp) g3.wf b3 (fun H' h => rd2 H' (g3.trans h fun _ _ q => q)) (by simp [T.get_set]) (by simp [T.get_set]) (by simp [T.get_set])
  have z2 := g2.size
  have z3 := g3.size
  refine ⟨H4, τ2, b4, ((g1.trans (g2.weaken (show H.size ≤ H.size + 1 by omega)) (Nat.le_refl _)).trans (g3.gr (B := H.size) (by omega) fun i hi e => by omega) (Nat.le_refl _)).trans (g4.gr (B := H.size) (by omega) fun i hi e => by omega) (Nat.le_refl _), fun q => ?_⟩
  simp only [s12, a0, someK_mk, a1, effK_mk]
  rw [k2]
  simp only [blockK, Nat.beq_refl, cond_true, seqK, s12_j0, getK_set, ↓reduceIte, Nat.reduceEqDiff]
  rw [k3]
  simp only [blockK, Nat.beq_refl, cond_true, seqK, s12_j1, getK_set, ↓reduceIte, Nat.reduceEqDiff]
  rw [k4]
  simp only [blockK, Nat.beq_refl, cond_true, seqK, s12_j2, getK_set, ↓reduceIte, Nat.reduceEqDiff]
end Go.Am.AmTrydDig

