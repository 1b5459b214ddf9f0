/- Texts for the law DigestSums: the machine, printed functions of the program, and what they are shown to be. -/
import Derived.Test.YtbiimljinilefaaDoorSC16
namespace Go.Am.AmTrydDig
set_option linter.unusedSimpArgs false
set_option linter.unusedVariables false
set_option linter.unusedSectionVars false
/-! ### the functions, as they stand in the table -/
def toB (l : List Nat) : List UInt8 := l.map UInt8.ofNat
theorem bytesOf_ws : ∀ l : List Nat, bytesOf (ws .u8 l) = some (toB l) := by
  intro l; induction l with
  | nil => rfl
  | cons x l ih =>
    show (match bytesOf (ws .u8 l) with | some r => some (UInt8.ofNat (x : Int).toNat :: r) | none => none) = _
    rw [ih]; rfl
theorem str_rd {H : Heap} {v : V} {n : Nat} {l : List Nat} (h : Rd H 1 v n (ws .u8 l)) (hs : Src H v) : lBytesStr [v] H = some (.str (toB l)) := by
  have hl := h.len
  rcases h with ⟨rfl | ⟨id, off, lo, ex, rfl⟩, rfl, h0⟩ | ⟨id, off, lo, ex, all, rfl, h1, h2, h3⟩
  · cases l with
    | nil => rfl
    | cons a l => simp [ws] at h0
  · cases l with
    | nil =>
      obtain ⟨all, ha⟩ := hs
      have hl0 : H.loads id off 0 = some [] := by
        simp only [Heap.loads, ha]
        cases all.drop off <;> rfl
      simp only [lBytesStr, Nat.beq_refl, cond_true, hl0, bytesOf]
      rfl
    | cons a l => simp [ws] at h0
  · have hld : H.loads id off n = some (ws .u8 l) := by
      simp only [Heap.loads, h1]
      rw [Nat.mul_one] at h2
      have hle : n ≤ (all.drop off).length := by
        have := congrArg List.length h2
        rw [h3, List.length_take] at this
        omega
      rw [takeN_all _ _ hle, ← h2]
    simp only [lBytesStr, Nat.beq_refl, cond_true, hld, bytesOf_ws]
theorem Rd.src {H : Heap} {v : V} {n : Nat} {cs : List V} (h : Rd H 1 v n cs) (hn : 0 < n) : Src H v := by
  rcases h with ⟨_, h0, _⟩ | ⟨id, off, lo, ex, all, rfl, h1, _, _⟩
  · omega
  · exact ⟨all, h1⟩

section
variable {N : Nat} (hN : 9223372036854775807 ≤ N)
include hN
theorem d33 (d : Nat) (hd : 2 ≤ d) : Lit33 (C N d) := by
  intro x a b e ha hb he H hw τ
  obtain ⟨d, rfl⟩ : ∃ e, d = e + 1 + 1 := ⟨d - 2, by omega⟩
  exact s33_eval (C N (d + 1)) N ha hb he (by omega) (fun n hn H τ q => s39_eval (C N d) N hn (by omega) H τ q) H hw τ
theorem d34 (d : Nat) (hd : 2 ≤ d) : Big34 (C N d) := by
  intro x a b e ha hb he H hw τ
  obtain ⟨d, rfl⟩ : ∃ e, d = e + 1 + 1 := ⟨d - 2, by omega⟩
  exact s34_eval (C N (d + 1)) N ha hb he (by omega) (fun n hn H τ q => s39_eval (C N d) N hn (by omega) H τ q) H hw τ
theorem d28 (d : Nat) (hd : 3 ≤ d) (Cs : List Nat) (hC : Cs.length = 80) : Mix28 (C N d) Cs := by
  intro S K v bs st hKS hlen h64 hR hst H hw hK hS hC5 hRd τ
  obtain ⟨d, rfl⟩ : ∃ e, d = e + 1 := ⟨d - 1, by omega⟩
  exact s28_ret (C N d) N hN S K hKS v bs st Cs hlen h64 hR hst hC (d33 hN d (by omega)) (d34 hN d (by omega)) H hw hK hS hC5 hRd τ
/-- digest.Sum -/
theorem d7_sum (d : Nat) (hd : 5 ≤ d) {bits : Nat} (hb : bits = 256 ∨ bits = 384 ∨ bits = 512) (v : V) (bs : List Nat) (hlen : bs.length < 80000) (hR : Roomy v) (H : Heap) (hw : WF H)
    (h0 : Laid0 H) (hRd : Rd H 1 v bs.length (ws .u8 bs)) (hsr : Src H v) (τ : Tape) :
    ∃ v' H' τ', Rd H' 1 v' (bits / 8) (ws .u8 (sumT bits bs)) ∧ Gr H.size H H' ∧ ∀ q, C N d 7 [.int .i64 (bits : Int), v] H τ q = q (.tup [v', .int .i64 (.ofNat 0)]) H' τ' := by
  have h5 := h0 _ _ st0_5
  rcases hb with rfl | rfl | rfl
  · obtain ⟨d, rfl⟩ : ∃ e, d = e + 1 + 1 := ⟨d - 2, by omega⟩
    obtain ⟨v0, H', τ', r1, r2, r3⟩ := s20_ret (C N d) N hN v bs start256 consts hlen hR start256_len (d28 hN d (by omega) consts consts_len) H hw h5 hRd hsr τ
    refine ⟨v0, H', τ', ?_, r2, fun q => ?_⟩
    · have : sumT 256 bs = hash32 consts start256 bs := by unfold sumT; rw [if_pos rfl]
      rw [this]; exact Own.rd r1
    · have l2 : lLoadN 17 [.ptr 0 0] H = some (.agg (ws .i64 smallL)) := load_cells (off := 0) (n := 17) (h0 _ _ st0_0) (by decide)
      have l3 : lLoadN 8 [.ptr 1 0] H = some (.agg (ws .u32 start256)) := by
        rw [load_cells (off := 0) (n := 8) (h0 _ _ st0_1) (by rw [ws_len, start256_len]; omega), List.drop_zero, List.take_of_length_le (by rw [ws_len, start256_len]; omega)]
      have q1 : (((256 : Nat) : Int) == (Int.ofNat 256)) = true := rfl
      have r3' : ∀ q, C N (d + 1) 20 [.agg (ws .i64 smallL), .agg (ws .u32 start256), v] H τ q = q v0 H' τ' := r3
      show s7 (C N (d + 1)) N (.int .i64 ((256 : Nat) : Int)) v H τ q = _
      simp only [s7, bin_eql, q1, condK_tn, l2, l3, someK_n, r3']
  · obtain ⟨v', H', τ', r1, r2, r3, r4⟩ := d7_384 hN d hd v bs start384 consts hlen hR start384_len consts_len H hw (h0 _ _ st0_2) (h0 _ _ st0_3) h5 hRd hsr τ
    refine ⟨v', H', τ', ?_, r3, r4⟩
    have e : sumT 384 bs = (hash64 consts start384 bs).take 48 := by unfold sumT; rw [if_neg (by decide), if_pos rfl]
    have hl : (ws .u8 ((hash64 consts start384 bs).take 48)).length = 48 := by rw [ws_len, List.length_take, hash64_len _ _ _ start384_len]; rfl
    have := r1.rd (by rw [hl]; exact r2)
    rw [hl] at this
    rw [e]; exact this
  · obtain ⟨d, rfl⟩ : ∃ e, d = e + 1 + 1 := ⟨d - 2, by omega⟩
    obtain ⟨v0, H', τ', r1, r2, r3⟩ := s21_ret (C N d) N hN v bs start512 consts hlen hR start512_len (d29 hN d (by omega) consts consts_len) H hw h5 hRd hsr τ
    refine ⟨v0, H', τ', ?_, r2, fun q => ?_⟩
    · have : sumT 512 bs = hash64 consts start512 bs := by unfold sumT; rw [if_neg (by decide), if_neg (by decide)]
      rw [this]; exact Own.rd r1
    · have l2 : lLoadN 17 [.ptr 2 0] H = some (.agg (ws .i64 largeL)) := load_cells (off := 0) (n := 17) (h0 _ _ st0_2) (by decide)
      have l3 : lLoadN 8 [.ptr 4 0] H = some (.agg (ws .u64 start512)) := by
        rw [load_cells (off := 0) (n := 8) (h0 _ _ st0_4) (by rw [ws_len, start512_len]; omega), List.drop_zero, List.take_of_length_le (by rw [ws_len, start512_len]; omega)]
      have q1 : (((512 : Nat) : Int) == (Int.ofNat 256)) = false := rfl
      have q2 : (((512 : Nat) : Int) == (Int.ofNat 384)) = false := rfl
      have q3 : (((512 : Nat) : Int) == (Int.ofNat 512)) = true := rfl
      have r3' : ∀ q, C N (d + 1) 21 [.agg (ws .i64 largeL), .agg (ws .u64 start512), v] H τ q = q v0 H' τ' := r3
      show s7 (C N (d + 1)) N (.int .i64 ((512 : Nat) : Int)) v H τ q = _
      simp only [s7, bin_eql, q1, q2, q3, condK_tn, condK_fn, l2, l3, someK_n, r3']
theorem d7_none (d : Nat) (hd : 1 ≤ d) (bits : Int) (h1 : bits ≠ 256) (h2 : bits ≠ 384) (h3 : bits ≠ 512) (v : V) (H : Heap) (τ : Tape) (q : KV) : C N d 7 [.int .i64 bits, v] H τ q = q (.tup [.nils, .int .i64 (.ofNat 1)]) H τ := by
  obtain ⟨d, rfl⟩ : ∃ e, d = e + 1 := ⟨d - 1, by omega⟩
  have e1 : (bits == Int.ofNat 256) = false := by rw [beq_eq_false_iff_ne]; exact h1
  have e2 : (bits == Int.ofNat 384) = false := by rw [beq_eq_false_iff_ne]; exact h2
  have e3 : (bits == Int.ofNat 512) = false := by rw [beq_eq_false_iff_ne]; exact h3
  show s7 (C N d) N (.int .i64 bits) v H τ q = _
  simp only [s7, bin_eql, e1, e2, e3, condK_fn]
theorem d31 (d : Nat) (hd : 1 ≤ d) : Cut31 (C N d) := by
  intro bits x H hw τ
  obtain ⟨d, rfl⟩ : ∃ e, d = e + 1 := ⟨d - 1, by omega⟩
  exact s31_ret (C N d) N bits x H hw τ
theorem d38 (d : Nat) (hd : 2 ≤ d) : Turn38 (C N d) := by
  intro bits x n hn hb H hw τ
  obtain ⟨d, rfl⟩ : ∃ e, d = e + 1 := ⟨d - 1, by omega⟩
  exact s38_ret (C N d) N (d31 hN d (by omega)) bits x n hn hb H hw τ
theorem d32 (d : Nat) (hd : 3 ≤ d) : Mix32 (C N d) := by
  intro bits x a b e s ha hb he h64 H hw τ
  obtain ⟨d, rfl⟩ : ∃ e, d = e + 1 := ⟨d - 1, by omega⟩
  exact s32_ret (C N d) N (d38 hN d (by omega)) bits x a b e s ha hb he h64 H hw τ
theorem d37 (d : Nat) (hd : 1 ≤ d) : Times37 (C N d) := by
  intro A B M n hA hB hMn hn H hw τ
  obtain ⟨d, rfl⟩ : ∃ e, d = e + 1 := ⟨d - 1, by omega⟩
  exact s37_ret (C N d) N (by omega) A B hA hB M n hMn hn H hw τ
theorem d30 (d : Nat) (hd : 2 ≤ d) : Below30 (C N d) := by
  intro x p cube hx H hw τ
  obtain ⟨d, rfl⟩ : ∃ e, d = e + 1 := ⟨d - 1, by omega⟩
  exact s30_ret (C N d) N (by omega) (d37 hN d (by omega)) x hx p cube H hw τ
theorem d23 (d : Nat) (hd : 3 ≤ d) : Root23 (C N d) := by
  intro p cube H hw τ
  obtain ⟨d, rfl⟩ : ∃ e, d = e + 1 := ⟨d - 1, by omega⟩
  exact s23_ret (C N d) N (by omega) (d30 hN d (by omega)) p cube H hw τ
theorem d12 (d : Nat) (hd : 4 ≤ d) (H : Heap) (hw : WF H) (τ : Tape) : ∃ H' τ', Bx H' H.size (ws .u64 tableP) ∧ Gr H.size H H' ∧ ∀ q, C N d 12 [] H τ q = q (.ptr H.size 0) H' τ' := by
  obtain ⟨d, rfl⟩ : ∃ e, d = e + 1 := ⟨d - 1, by omega⟩
  exact s12_ret (C N d) N (by omega) (d23 hN d (by omega)) H hw τ
theorem d25 (d : Nat) (hd : 4 ≤ d) : Block25 (C N d) := by
  intro bits t K L v bs hb hK hL hlen h16 H hw hbt hRd τ
  obtain ⟨d, rfl⟩ : ∃ e, d = e + 1 := ⟨d - 1, by omega⟩
  exact s25_ret (C N d) N (by omega) (d32 hN d (by omega)) (d31 hN d (by omega)) bits hb t K L hK hL v bs hlen h16 H hw hbt hRd τ
theorem d24 (d : Nat) (hd : 1 ≤ d) : Pad24 (C N d) := by
  intro size v bs hsz hlen H hw hRd hsr τ
  obtain ⟨d, rfl⟩ : ∃ e, d = e + 1 := ⟨d - 1, by omega⟩
  exact s24_ret (C N d) N hN size hsz v bs hlen H hw hRd hsr τ
/-- Table.Sum -/
theorem d14 (d : Nat) (hd : 5 ≤ d) {bits : Nat} (hb : bits = 256 ∨ bits = 384 ∨ bits = 512) (t : Nat) (v : V) (bs : List Nat) (hbs : ∀ b ∈ bs, b < 256) (hlen : bs.length < 80000) (H : Heap) (hw : WF H) (hbt : Bx H t (ws .u64 tableP)) (hRd : Rd H 1 v bs.length (ws .u8 bs)) (hsr : Src H v) (τ : Tape) :
    ∃ v' H' τ', Rd H' 1 v' (bits / 8) (ws .u8 (sumT bits bs)) ∧ Gr H.size H H' ∧ ∀ q, C N d 14 [.ptr t 0, .int .i64 (bits : Int), v] H τ q = q (.tup [v', .bool true]) H' τ' := by
  obtain ⟨d, rfl⟩ : ∃ e, d = e + 1 := ⟨d - 1, by omega⟩
  rw [← sums_eq hb bs hbs]
  exact s14_ret (C N d) N (by omega) (d25 hN d (by omega)) (d24 hN d (by omega)) bits hb t tableP tableP_len v bs hlen H hw hbt hRd hsr τ
theorem d14_none (d : Nat) (hd : 1 ≤ d) (bits : Int) (h1 : bits ≠ 256) (h2 : bits ≠ 384) (h3 : bits ≠ 512) (t v : V) (H : Heap) (hw : WF H) (τ : Tape) : ∃ H', Gr H.size H H' ∧ ∀ q, C N d 14 [t, .int .i64 bits, v] H τ q = q (.tup [.nils, .bool false]) H' τ := by
  obtain ⟨d, rfl⟩ : ∃ e, d = e + 1 := ⟨d - 1, by omega⟩
  exact s14_none (C N d) N bits h1 h2 h3 t v H hw τ
end
end Go.Am.AmTrydDig

namespace Go.Am.AmTrydDig
set_option linter.unusedSimpArgs false
set_option linter.unusedVariables false
set_option linter.unusedSectionVars false
/-! ### texts about the ends of blocks -/
theorem tmod_261 (n : Int) : -261 < n.tmod 261 ∧ n.tmod 261 < 261 := by
  rcases Int.le_total 0 n with h | h
  · obtain ⟨k, rfl⟩ := Int.eq_ofNat_of_zero_le h
    have : ((k : Int)).tmod 261 = ((k % 261 : Nat) : Int) := by rw [show (261 : Int) = ((261 : Nat) : Int) from rfl, ← Int.ofNat_tmod]
    rw [this]; omega
  · obtain ⟨k, hk⟩ := Int.eq_ofNat_of_zero_le (show 0 ≤ -n by omega)
    have hn : n = -(k : Int) := by omega
    have : (-(k : Int)).tmod 261 = -((k % 261 : Nat) : Int) := by rw [Int.neg_tmod, show (261 : Int) = ((261 : Nat) : Int) from rfl, ← Int.ofNat_tmod]
    rw [hn, this]; omega
theorem s16_ret (c : CallK) (N : Nat) (n : Int) (H : Heap) (τ : Tape) : ∃ m : Nat, m ≤ 260 ∧ ∀ q, s16 c N (.int .i64 n) (.int .i64 (.ofNat 0)) (.int .i64 (.ofNat 260)) H τ q = q (.int .i64 (m : Int)) H τ := by
  obtain ⟨h1, h2⟩ := tmod_261 n
  have e1 : wr .i64 (Int.ofNat 260 - Int.ofNat 0) = 260 := rfl
  have e2 : wr .i64 ((260 : Int) + Int.ofNat 1) = 261 := rfl
  by_cases hneg : n.tmod 261 < 0
  · refine ⟨(n.tmod 261 + 261).toNat, by omega, fun q => ?_⟩
    have e3 : decide (n.tmod 261 < Int.ofNat 0) = true := decide_eq_true hneg
    have e4 : wr .i64 (n.tmod 261 + Int.ofNat 260) = n.tmod 261 + 260 := wr_id (by simp; omega) (by simp; omega)
    have e5 : wr .i64 (n.tmod 261 + 260 - Int.ofNat 0) = n.tmod 261 + 260 := by rw [wr_id (by simp; omega) (by simp; omega)]; simp
    have e6 : wr .i64 (n.tmod 261 + 260 + Int.ofNat 1) = n.tmod 261 + 261 := by rw [wr_id (by simp; omega) (by simp; omega)]; simp; omega
    have e7 : wr .i64 (Int.ofNat 0 + (n.tmod 261 + 261)) = (((n.tmod 261 + 261).toNat : Nat) : Int) := by rw [wr_id (by simp; omega) (by simp; omega)]; simp; omega
    simp only [s16, bin_sub, e1, bin_add, e2, bin_rem _ _ (261 : Int) (by decide), bin_lss, e3, condK_tn, e4, e5, e6, s16_j0, getK_set, ↓reduceIte, Nat.reduceEqDiff, e7]
  · refine ⟨(n.tmod 261).toNat, by omega, fun q => ?_⟩
    have e3 : decide (n.tmod 261 < Int.ofNat 0) = false := decide_eq_false hneg
    have e7 : wr .i64 (Int.ofNat 0 + n.tmod 261) = (((n.tmod 261).toNat : Nat) : Int) := by rw [wr_id (by simp; omega) (by simp; omega)]; simp; omega
    simp only [s16, bin_sub, e1, bin_add, e2, bin_rem _ _ (261 : Int) (by decide), bin_lss, e3, condK_fn, s16_j0, getK_set, ↓reduceIte, Nat.reduceEqDiff, e7]

theorem l3e (c : CallK) (N : Nat) (b M : Nat) (hM : M ≤ 260) (cc : Nat) (t : V) :
    ∀ (n i : Nat) (L : List Nat) (H : Heap) (fr : T V) (τ : Tape) (m : Nat), i + n = M → n < m → L.length = M → (∀ x ∈ L, x < 256) → WF H → Bx H b (ws .u8 L) →
    fr.get 0 = some (.int .i64 (M : Int)) → fr.get 1 = some (.int .u8 (cc : Int)) → fr.get 5 = some t → fr.get 6 = some (.sl b 0 M M none 1) → fr.get 7 = some (.int .i64 (i : Int)) →
    ∃ L' H', L'.length = M ∧ (∀ x ∈ L', x < 256) ∧ Bx H' b (ws .u8 L') ∧ Chg (fun i => i = b) H H' ∧ ∀ k, loopK (s5_l3 c N) m ⟨fr, H⟩ τ k = k (.exit 0) ⟨(T.set (T.set .leaf 5 t) 6 (.sl b 0 M M none 1)), H'⟩ τ := by
  intro n
  induction n with
  | zero =>
    intro i L H fr τ m hi hm hL hx hw hb f0 f1 f5 f6 f7
    obtain ⟨m, rfl⟩ : ∃ j, m = j + 1 := ⟨m - 1, by omega⟩
    refine ⟨L, H, hL, hx, hb, Chg.refl hw, fun k => ?_⟩
    have e1 : decide ((i : Int) < (M : Int)) = false := decide_eq_false (by omega)
    rw [loopK_succ]
    simp only [s5_l3, getK_mk f0, getK_mk f1, getK_mk f5, getK_mk f6, getK_mk f7, bin_lss, e1, condK_fn]
    rfl
  | succ n ih =>
    intro i L H fr τ m hi hm hL hx hw hb f0 f1 f5 f6 f7
    obtain ⟨m, rfl⟩ : ∃ j, m = j + 1 := ⟨m - 1, by omega⟩
    have e1 : decide ((i : Int) < (M : Int)) = true := decide_eq_true (by omega)
    have ei : pSlIdx 1 [.sl b 0 M M none 1, .int .i64 (i : Int)] = some (.ptr b i) := by
      have hbt : Nat.blt i M = true := by simp [Nat.blt]; omega
      simp [pSlIdx, natOf_nat, hbt]
    obtain ⟨H1, s1, b1, o1⟩ := hb.word hw (i := i) (by omega) ((cc + i % pow2 .u8) % pow2 .u8) τ
    have g1 : Chg (fun i => i = b) H H1 := o1.chg rfl
    have e4 : wr .i64 ((i : Int) + Int.ofNat 1) = ((i + 1 : Nat) : Int) := adN (k := 1) (by omega)
    have p8 : pow2 .u8 = 256 := by decide
    obtain ⟨L', H', r1, r2, r3, r4, r5⟩ := ih (i + 1) (L.set i ((cc + i % pow2 .u8) % pow2 .u8)) H1 (T.set (T.set (T.set (T.set (T.set (T.set (T.set (T.set .leaf 0 (.int .i64 (M : Int))) 1 (.int .u8 (cc : Int))) 5 t) 6 (.sl b 0 M M none 1)) 7 (.int .i64 (i : Int))) 22 (.int .i64 (i : Int))) 23 (.int .i64 ((i + 1 : Nat) : Int))) 7 (.int .i64 ((i + 1 : Nat) : Int)))
      τ m (by omega) (by omega) (by simp [hL]) (fun x h => by
        rcases List.mem_or_eq_of_mem_set h with h | h
        · exact hx x h
        · rw [h, p8]; exact Nat.mod_lt _ (by omega)) o1.wf b1 (by simp [T.get_set]) (by simp [T.get_set]) (by simp [T.get_set]) (by simp [T.get_set]) (by simp [T.get_set])
    refine ⟨L', H', r1, r2, r3, g1.trans r4 fun _ _ q => q, fun k => ?_⟩
    rw [loopK_succ]
    simp only [s5_l3, getK_mk f0, getK_mk f1, getK_mk f5, getK_mk f6, getK_mk f7, bin_lss, e1, condK_tn, toInt_mk, uk8 i, u_add uk8, ei, someK_n, s1, effK_n, bin_add .i64, e4]
    exact r5 k

section
variable {N : Nat} (hN : 9223372036854775807 ≤ N)
include hN
/-- what stays while sizes are gone through -/
structure Keep5 (H : Heap) (t : Nat) (v : V) (bs : List Nat) (s : V) (l0 : List Nat) : Prop where
  wf : WF H
  laid : Laid0 H
  tab : Bx H t (ws .u64 tableP)
  rd : Rd H 1 v bs.length (ws .u8 bs)
  src : Src H v
  sizes : Rd H 1 s l0.length (ws .i64 l0)
omit hN in
theorem Keep5.gr {H H' : Heap} {t : Nat} {v : V} {bs : List Nat} {s : V} {l0 : List Nat} (h : Keep5 H t v bs s l0) (hg : Gr H.size H H') : Keep5 H' t v bs s l0 :=
  ⟨hg.wf, h.laid.gr hg h.wf (Nat.le_refl _), h.tab.gr hg (h.tab.lt h.wf), h.rd.gr hg h.wf (Nat.le_refl _), h.src.gr hg h.wf (Nat.le_refl _), h.sizes.gr hg h.wf (Nat.le_refl _)⟩
theorem l2e (d : Nat) (hd : 5 ≤ d) (t : Nat) (v : V) (bs : List Nat) (hbs : ∀ b ∈ bs, b < 256) (hlen : bs.length < 80000) (hR : Roomy v) (s : V) (l0 : List Nat) (hl0 : ∀ x ∈ l0, x = 256 ∨ x = 384 ∨ x = 512) (hll : l0.length < 1000) :
    ∀ (l pre : List Nat) (H : Heap) (fr : T V) (τ : Tape) (m : Nat), l0 = pre ++ l → l.length < m → Keep5 H t v bs s l0 →
    fr.get 5 = some (.ptr t 0) → fr.get 6 = some v → fr.get 31 = some s → fr.get 32 = some (.int .i64 (l0.length : Int)) → fr.get 33 = some (.int .i64 (pre.length : Int)) →
    ∃ H' τ', Keep5 H' t v bs s l0 ∧ ∀ k, loopK (s5_l2 (C N d) N) m ⟨fr, H⟩ τ k = k (.exit 2) ⟨.leaf, H'⟩ τ' := by
  intro l
  induction l with
  | nil =>
    intro pre H fr τ m he hm hK f5 f6 f31 f32 f33
    obtain ⟨m, rfl⟩ : ∃ j, m = j + 1 := ⟨m - 1, by omega⟩
    refine ⟨H, τ, hK, fun k => ?_⟩
    have e1 : decide ((pre.length : Int) < (l0.length : Int)) = false := decide_eq_false (by rw [he]; simp)
    rw [loopK_succ]
    simp only [s5_l2, getK_mk f5, getK_mk f6, getK_mk f31, getK_mk f32, getK_mk f33, bin_lss, e1, condK_fn]
    rfl
  | cons x l ih =>
    intro pre H fr τ m he hm hK f5 f6 f31 f32 f33
    obtain ⟨m, rfl⟩ : ∃ j, m = j + 1 := ⟨m - 1, by omega⟩
    have hx := hl0 x (by rw [he]; simp)
    have hx0 : 0 < x / 8 := by omega
    have e1 : decide ((pre.length : Int) < (l0.length : Int)) = true := decide_eq_true (by rw [he]; simp; omega)
    obtain ⟨p, p1, p2⟩ := hK.sizes.elem1 (i := pre.length) (x := .int .i64 (x : Int)) (by rw [he]; simp [ws])
    obtain ⟨y, H1, τ1, y1, g1, k1⟩ := d7_sum hN d hd hx v bs hlen hR H hK.wf hK.laid hK.rd hK.src τ
    have K1 := hK.gr g1
    obtain ⟨z, H2, τ2, z1, g2, k2⟩ := d14 hN d hd hx t v bs hbs hlen H1 K1.wf K1.tab K1.rd K1.src τ1
    have K2 := K1.gr g2
    have y2 := y1.gr g2 g1.wf (Nat.le_refl _)
    have sy := str_rd y2 (Rd.src y2 hx0)
    have sz := str_rd z1 (Rd.src z1 hx0)
    have en : strBin .neq (toB (sumT x bs)) (toB (sumT x bs)) = some (.bool false) := by
      simp [strBin, eqB_eq]
    have hl : pre.length < l0.length := by rw [he]; simp
    have e3 : wr .i64 ((pre.length : Int) + Int.ofNat 1) = ((pre ++ [x]).length : Int) := by
      rw [wr_id (by simp; omega) (by simp; omega)]; simp
    have e8 : wr .i64 ((x : Int).tdiv (Int.ofNat 8)) = ((x / 8 : Nat) : Int) := by
      rw [show Int.ofNat 8 = ((8 : Nat) : Int) from rfl, ← Int.ofNat_tdiv, wr_id (by omega) (by omega)]
    have e9 : (((x / 8 : Nat) : Int) != ((x / 8 : Nat) : Int)) = false := by simp
    obtain ⟨H', τ', r1, r2⟩ := ih (pre ++ [x]) H2 (T.set (T.set (T.set (T.set (T.set (T.set (T.set .leaf 5 (.ptr t 0)) 6 v) 31 s) 32 (.int .i64 (l0.length : Int))) 33 (.int .i64 (pre.length : Int))) 62 (.int .i64 ((pre ++ [x]).length : Int))) 33 (.int .i64 ((pre ++ [x]).length : Int)))
      τ2 m (by rw [he]; simp) (by simp at hm; omega) K2 (by simp [T.get_set]) (by simp [T.get_set]) (by simp [T.get_set]) (by simp [T.get_set]) (by simp [T.get_set])
    refine ⟨H', τ', r1, fun k => ?_⟩
    have x0 : ∀ a b : V, pExtract 0 [.tup [a, b]] = some a := fun _ _ => rfl
    have x1 : ∀ a b : V, pExtract 1 [.tup [a, b]] = some b := fun _ _ => rfl
    rw [loopK_succ]
    simp only [s5_l2, getK_mk f5, getK_mk f6, getK_mk f31, getK_mk f32, getK_mk f33, bin_lss, e1, condK_tn, p1, p2, someK_n, k1, x0, x1, k2, sy, sz, bin_str, en, gK_do', retK, effK_n, y2.pLen, bin_quo _ _ (Int.ofNat 8) (by decide), e8, bin_neq, e9, pick_mk, cond_false, condK_fn, bin_add, e3]
    exact r2 k

/-- THE LAW 'DigestEdges', on the machine -/
theorem digestEdges_run (n : Int) (cc : Nat) (H : Heap) (hw : WF H) (h0 : Laid0 H) (τ : Tape) : C N 40 5 [.int .i64 n, .int .u8 (cc : Int)] H τ trueK = doneA := by
  obtain ⟨H1, τ1, t1, g1, k1⟩ := d12 hN 39 (by omega) H hw τ
  obtain ⟨M, hM, k2⟩ := s16_ret (C N 38) N n H1 τ1
  have k2' : ∀ q, C N 39 16 [.int .i64 n, .int .i64 (.ofNat 0), .int .i64 (.ofNat 260)] H1 τ1 q = q (.int .i64 (M : Int)) H1 τ1 := k2
  have hrep : repl M [(.int .u8 (.ofNat 0))] = ws .u8 (List.replicate M 0) := by rw [repl_one]; simp [ws]
  have a3 : eMakeSlice 1 1 [(.int .u8 (.ofNat 0))] [.int .i64 (M : Int), .int .i64 (M : Int)] H1 τ1 = some (.sl H1.size 0 M M none 1, H1.new (ws .u8 (List.replicate M 0)) (M * 1) false, τ1) := by
    have e1 : Nat.ble M M = true := Nat.ble_eq_true_of_le (Nat.le_refl _)
    have e2 : Nat.ble (M * 1) 274877906944 = true := Nat.ble_eq_true_of_le (by omega)
    have e3 : Nat.ble M 274877906944 = true := Nat.ble_eq_true_of_le (by omega)
    simp only [eMakeSlice, natOf_mk, e1, e2, e3, Bool.and_self, cond_true, hrep]
  have g3 := Gr.new g1.wf (ws .u8 (List.replicate M 0)) (M * 1) false
  have b3 := Bx.new H1 (ws .u8 (List.replicate M 0)) (M * 1) false (by rw [ws_len]; simp)
  generalize H1.new (ws .u8 (List.replicate M 0)) (M * 1) false = H3 at a3 g3 b3
  obtain ⟨bs, H4, hl4, hx4, b4, g4, k4⟩ := l3e (C N 39) N H1.size M hM cc (.ptr H.size 0) M 0 (List.replicate M 0) H3 (T.set (T.set (T.set (T.set (T.set .leaf 0 (.int .i64 (M : Int))) 1 (.int .u8 (cc : Int))) 5 (.ptr H.size 0)) 6 (.sl H1.size 0 M M none 1)) 7 (.int .i64 (.ofNat 0)))
    τ1 N (by omega) (by omega) (by simp) (fun x h => by simp only [List.mem_replicate] at h; omega) g3.wf b3 (by simp [T.get_set]) (by simp [T.get_set]) (by simp [T.get_set]) (by simp [T.get_set]) (by simp [T.get_set])
  have lt1 := t1.lt g1.wf
  have g34 : Gr H1.size H1 H4 := g3.trans (g4.gr (B := H1.size) g3.size fun i hi e => by omega) (Nat.le_refl _)
  have a5 : eBuildSlice 3 1 [(.int .i64 (.ofNat 0)), (.int .i64 (.ofNat 0)), (.int .i64 (.ofNat 0))] [(0, 1), (1, 1), (2, 1)] [(.int .i64 (.ofNat 256)), (.int .i64 (.ofNat 384)), (.int .i64 (.ofNat 512))] H4 τ1 = some (.sl H4.size 0 3 3 none 1, H4.new (ws .i64 [256, 384, 512]) 3 false, τ1) := rfl
  have g5 := Gr.new g34.wf (ws .i64 [256, 384, 512]) 3 false
  have c5 := cells_new H4 (ws .i64 [256, 384, 512]) 3 false
  generalize H4.new (ws .i64 [256, 384, 512]) 3 false = H5 at a5 g5 c5
  have gA : Gr H.size H H5 := (g1.trans g34 g1.size).trans g5 (Nat.le_trans g1.size g34.size)
  have hv4 : H4.cells? H1.size = some (ws .u8 bs) := b4.cells
  have hv5 := g5.cells g34.wf (Nat.le_refl _) hv4
  have hK : Keep5 H5 H.size (.sl H1.size 0 M M none 1) bs (.sl H4.size 0 3 3 none 1) [256, 384, 512] :=
    ⟨g5.wf, h0.gr gA hw (Nat.le_refl _), (t1.gr g34 lt1).gr g5 (Nat.lt_of_lt_of_le lt1 g34.size),
      .inr ⟨H1.size, 0, M, none, ws .u8 bs, by rw [hl4], hv5, by rw [List.drop_zero, List.take_of_length_le (by rw [ws_len]; omega)], by rw [ws_len]; omega⟩, ⟨_, hv5⟩,
      .inr ⟨H4.size, 0, 3, none, _, rfl, c5, rfl, rfl⟩⟩
  obtain ⟨H6, τ6, hK6, k6⟩ := l2e hN 39 (by omega) H.size (.sl H1.size 0 M M none 1) bs hx4 (by omega) (by show within M M none = true; rw [within_iff]; exact .inl (Nat.le_refl _)) (.sl H4.size 0 3 3 none 1) [256, 384, 512] (by decide) (by decide) [256, 384, 512] [] H5
    (T.set (T.set (T.set (T.set (T.set .leaf 5 (.ptr H.size 0)) 6 (.sl H1.size 0 M M none 1)) 31 (.sl H4.size 0 3 3 none 1)) 32 (.int .i64 (([256, 384, 512] : List Nat).length : Int))) 33 (.int .i64 (.ofNat 0)))
    τ1 N rfl (by simp; omega) hK (by simp [T.get_set]) (by simp [T.get_set]) (by simp [T.get_set]) (by simp [T.get_set]) (by simp [T.get_set])
  have k10 : ∀ q, C N 39 10 [] H6 τ6 q = q (.bool true) H6 τ6 := fun q => known_mk hK6.laid 38 τ6 q
  have pl : pLen [.sl H4.size 0 3 3 none 1] = some (.int .i64 (([256, 384, 512] : List Nat).length : Int)) := rfl
  show s5 (C N 39) N (.int .i64 n) (.int .u8 (cc : Int)) H τ trueK = doneA
  simp only [s5, k1, k2', a3, effK_n]
  rw [k4]
  simp only [blockK, Nat.beq_refl, cond_true, seqK, s5_j0, getK_set, ↓reduceIte, Nat.reduceEqDiff, a5, effK_n, pl, someK_n]
  rw [k6]
  simp only [blockK, Nat.beq_refl, cond_true, seqK, s5_j1, k10]
  rfl
end
end Go.Am.AmTrydDig

