/- Contracts of the functions that AgeBefore comes to, and its plain law: part 2. -/
import Derived.Test.YtpfaceclaigpgaaDoorDC1
import Derived.Test.YtpfaceclaigpgaaDoorAm29
import Derived.Test.YtpfaceclaigpgaaDoorAm36
import Derived.Deep.SlicePairs
namespace Go.Am.AmTrydAge
set_option linter.unusedSimpArgs false
set_option linter.unusedVariables false
set_option linter.unusedSectionVars false
def SplitOk (c : CallK) (name : Bs) (hs : List (Bs × Bs)) : Prop := ∀ (v : V) (H : Heap), WF H → Rd H 2 v hs.length (hcells hs) → ∀ τ,
    ∃ v' H' τ', Own H' H.size 1 v' (splitT name hs).length ((splitT name hs).map V.str) ∧ (splitT name hs).length ≤ 4294967296 ∧ Gr H.size H H' ∧ ∀ q, c 91 [v, .str name] H τ q = q (.tup [v', .bool (decide (0 < (sel name hs).length))]) H' τ'

def ccName : Bs := [99, 97, 99, 104, 101, 45, 99, 111, 110, 116, 114, 111, 108]
def parseT (hs : List (Bs × Bs)) : Ctl := (splitT ccName hs).foldl (fun st s => ctlStep st (pieceT s)) (false, false, -1)

theorem s53_ret (c : CallK) (N : Nat) (hN : 9223372036854775807 ≤ N) (hs : List (Bs × Bs)) (h79 : IntOk c) (h95 : PieceOk c) (h91 : SplitOk c ccName hs)
    (hsz : ∀ s ∈ splitT ccName hs, s.length ≤ 274877906944) (hpz : ∀ s ∈ splitT ccName hs, (pieceT s).2.length < 9223372036854775807)
    (v : V) (H : Heap) (hw : WF H) (hr : Rd H 2 v hs.length (hcells hs)) (τ : Tape) :
    ∃ H' τ', Gr H.size H H' ∧ ∀ q, s53 c N v H τ q = q (.agg (ctlC (parseT hs))) H' τ' := by
  -- two variables
  have hG1 := Gr.new hw [V.bool false, V.bool false, V.int .i64 0] 3 true
  have hA1 := Bx.new H [V.bool false, V.bool false, V.int .i64 0] 3 true (Nat.le_refl _)
  generalize hH1 : H.new [V.bool false, V.bool false, V.int .i64 0] 3 true = H1 at hG1 hA1
  have hs1 : H1.size = H.size + 1 := by rw [← hH1]; rfl
  have hG2 := Gr.new hG1.wf [V.bool false, V.bool false, V.int .i64 0] 3 true
  have hC2 := Bx.new H1 [V.bool false, V.bool false, V.int .i64 0] 3 true (Nat.le_refl _)
  have hA2 := hA1.gr hG2 (hA1.lt hG1.wf)
  generalize hH2 : H1.new [V.bool false, V.bool false, V.int .i64 0] 3 true = H2 at hG2 hA2 hC2
  have hs2 : H2.size = H1.size + 1 := by rw [← hH2]; rfl
  obtain ⟨H3, m1, m2, m3⟩ := hC2.eStore hG2.wf 0 (.agg [.bool false, .bool false, .int .i64 (-1)]) 3 rfl (by simp) (by omega) rfl τ
  have m2 : Bx H3 H1.size (ctlC (false, false, -1)) := m2
  have hA3 := hA2.only m3 (by omega)
  have hG3 : Gr H.size H H3 := hG1.trans (hG2.trans (m3.gr (Nat.le_refl _)) (Nat.le_refl _)) (by omega)
  have hr3 := hr.gr hG3 hw (Nat.le_refl _)
  obtain ⟨v', H4, τ4, p1, p2, p3, p4⟩ := h91 v H3 m3.wf hr3 τ
  have hw4 := p3.wf
  have hA4 := hA3.gr p3 (hA3.lt m3.wf)
  have hC4 := m2.gr p3 (m2.lt m3.wf)
  have hlt3 : H1.size < H3.size := m2.lt m3.wf
  obtain ⟨H5, τ5, r1, r2, r3, r4⟩ := parse_loop c N h79 h95 (B := H.size) (iA := H.size) (iC := H1.size) (Bp := H3.size) (splitT ccName hs) rfl p2 hsz hpz (by omega) (by omega) hlt3 (splitT ccName hs) [] (false, false, -1) N (T.set (T.set (T.set (T.set (T.set .leaf 2 (.ptr H.size 0)) 3 (.ptr H1.size 0)) 18 v') 19 (.int .i64 ((splitT ccName hs).length : Int))) 20 (.int .i64 0)) H4 τ4 hw4 (by have := p3.size; omega) rfl hA4 hC4 p1 (by omega) (by simp [T.get_set]) (by simp [T.get_set]) (by simp [T.get_set]) (by simp [T.get_set]) (by simp [T.get_set])
  obtain ⟨H6, u1, u2, u3⟩ := r2.eStore r1.wf 0 (.agg (ctlC (parseT hs))) 3 rfl (by simp) (by omega) rfl τ5
  have u2 : Bx H6 H.size (ctlC (parseT hs)) := u2
  refine ⟨H6, τ5, hG3.trans ((p3.weaken (by have := hG3.size; omega)).trans (r1.trans (u3.gr (Nat.le_refl _)) (Nat.le_refl _)) (Nat.le_refl _)) (Nat.le_refl _), fun q => ?_⟩
  have e1 : eAlloc [(.bool false), (.bool false), (.int .i64 (.ofNat 0))] [] H τ = some (.ptr H.size 0, H1, τ) := by rw [← hH1]; rfl
  have e2 : eAlloc [(.bool false), (.bool false), (.int .i64 (.ofNat 0))] [] H1 τ = some (.ptr H1.size 0, H2, τ) := by rw [← hH2]; rfl
  have e3 : pBuild [(.bool false), (.bool false), (.int .i64 (.ofNat 0))] [(2, 1)] [(.int .i64 (.negSucc 0))] = some (.agg [.bool false, .bool false, .int .i64 (-1)]) := rfl
  have e4 : lLoadN 3 [.ptr H1.size 0] H5 = some (.agg (ctlC (parseT hs))) := by rw [load_cells r3.cells (by simp [ctlC])]; rfl
  have e5 : lLoadN 3 [.ptr H.size 0] H6 = some (.agg (ctlC (parseT hs))) := by rw [load_cells u2.cells (by simp [ctlC])]; rfl
  simp only [s53, e1, e2, e3, effK_mk, someK_mk, m1]
  rw [show bs [99, 97, 99, 104, 101, 45, 99, 111, 110, 116, 114, 111, 108] = ccName from rfl, p4]
  simp only [pExtract, List.getElem?_cons_zero, List.getElem?_cons_succ, someK_mk, own_len p1]
  rw [show (V.int IntKind.i64 (Int.ofNat 0)) = .int .i64 0 from rfl, r4]
  simp only [blockK, Nat.beq_refl, cond_true, seqK, s53_j0, getK_set, ↓reduceIte, Nat.reduceEqDiff, e4, someK_mk, u1, effK_mk]
  simp only [results, resAll, resOf, T.get_set_same, evalL, lLoad, e5, someK_mk]

/-! ### reckoning -/
def leastI : Int := -9223372036854775808
def InI (n : Int) : Prop := leastI ≤ n ∧ n ≤ mostI
def sinceT (a b : Int) : Int := if b ≤ a then 0 else if a < 0 ∧ mostI + a < b then mostI else b - a
def addT (a b : Int) : Int := if 0 < b ∧ mostI - b < a then mostI else if b < 0 ∧ a < leastI - b then 0 else if a + b < 0 then 0 else a + b

theorem s81_eval (c : CallK) (N : Nat) {a b : Int} (ha : InI a) (hb : InI b) (H : Heap) (τ : Tape) (q : KV) : s81 c N (.int .i64 a) (.int .i64 b) H τ q = q (.int .i64 (sinceT a b)) H τ := by
  unfold InI leastI mostI at *
  by_cases h1 : b ≤ a
  · simp only [s81, bin_leq, decide_eq_true h1, condK_t, sinceT, decide_false, decide_true, h1, if_true]
    rfl
  · by_cases h2 : a < 0
    · have e1 : decide (a < Int.ofNat 0) = true := decide_eq_true h2
      have e2 : wr .i64 (Int.ofNat 9223372036854775807 + a) = mostI + a := by
        rw [wr_id (by first | (simp; done) | (simp; omega) | omega) (by first | (simp; done) | (simp; omega) | omega)]; rfl
      by_cases h3 : mostI + a < b
      · simp only [s81, bin_leq, decide_eq_false h1, condK_f, bin_lss, e1, gK_do, retK, effK_mk, bin_add, e2, bin_gtr, decide_eq_true h3, someK_mk, pick_mk, cond_true, condK_t, sinceT, decide_false, decide_true, h1, if_false, h2, h3, and_self, if_true]
        rfl
      · have e3 : wr .i64 (b - a) = b - a := wr_id (by omega) (by unfold mostI at h3; omega)
        simp only [s81, bin_leq, decide_eq_false h1, condK_f, bin_lss, e1, gK_do, retK, effK_mk, bin_add, e2, bin_gtr, decide_eq_false h3, someK_mk, pick_mk, cond_true, bin_sub, e3, sinceT, decide_false, decide_true, h1, if_false, h2, h3, and_false]
    · have e1 : decide (a < Int.ofNat 0) = false := decide_eq_false h2
      have e3 : wr .i64 (b - a) = b - a := wr_id (by omega) (by omega)
      simp only [s81, bin_leq, decide_eq_false h1, condK_f, bin_lss, e1, gK_skip, someK_mk, pick_mk, cond_false, bin_sub, e3, sinceT, decide_false, decide_true, h1, if_false, h2, false_and]

theorem s31_eval (c : CallK) (N : Nat) {a b : Int} (ha : InI a) (hb : InI b) (H : Heap) (τ : Tape) (q : KV) : s31 c N (.int .i64 a) (.int .i64 b) H τ q = q (.int .i64 (addT a b)) H τ := by
  unfold InI leastI mostI at *
  have fin : ∀ (v : Int), -9223372036854775808 ≤ v → v ≤ 9223372036854775807 → pMax [.int .i64 (wr .i64 v), .int .i64 (.ofNat 0)] = some (.int .i64 (if v < 0 then 0 else v)) := by
    intro v h1 h2
    rw [wr_id h1 h2]
    rfl
  by_cases h1 : 0 < b
  · have e1 : decide (Int.ofNat 0 < b) = true := decide_eq_true h1
    have e2 : wr .i64 (Int.ofNat 9223372036854775807 - b) = mostI - b := by
      rw [wr_id (by first | (simp; done) | (simp; omega) | omega) (by first | (simp; done) | (simp; omega) | omega)]; rfl
    have e4 : decide (b < Int.ofNat 0) = false := decide_eq_false (by first | (simp; done) | (simp; omega) | omega)
    have h1' : ¬ b < 0 := by omega
    by_cases h3 : mostI - b < a
    · simp only [s31, bin_gtr, e1, gK_do, retK, effK_mk, bin_sub, e2, decide_eq_true h3, someK_mk, pick_mk, cond_true, condK_t, addT, decide_false, decide_true, h1, h3, and_self, if_true]
      rfl
    · simp only [s31, bin_gtr, e1, gK_do, retK, effK_mk, bin_sub, e2, decide_eq_false h3, someK_mk, pick_mk, cond_true, condK_f, bin_lss, e4, gK_skip, cond_false, bin_add, fin (a + b) (by omega) (by unfold mostI at h3; omega), addT, decide_false, decide_true, h1, h3, and_false, if_false, h1', false_and]
  · have e1 : decide (Int.ofNat 0 < b) = false := decide_eq_false h1
    by_cases h2 : b < 0
    · have e2 : decide (b < Int.ofNat 0) = true := decide_eq_true h2
      have e3 : wr .i64 (Int.negSucc 9223372036854775807 - b) = leastI - b := by
        rw [wr_id (by rw [Int.negSucc_eq]; omega) (by rw [Int.negSucc_eq]; omega)]; rfl
      by_cases h4 : a < leastI - b
      · simp only [s31, bin_gtr, e1, gK_skip, someK_mk, pick_mk, cond_false, condK_f, bin_lss, e2, gK_do, retK, effK_mk, bin_sub, e3, decide_eq_true h4, cond_true, condK_t, addT, decide_false, decide_true, h1, false_and, if_false, h2, h4, and_self, if_true]
        rfl
      · simp only [s31, bin_gtr, e1, gK_skip, someK_mk, pick_mk, cond_false, condK_f, bin_lss, e2, gK_do, retK, effK_mk, bin_sub, e3, decide_eq_false h4, cond_true, bin_add, fin (a + b) (by unfold leastI at h4; omega) (by omega), addT, decide_false, decide_true, h1, false_and, if_false, h2, h4, and_false]
    · have e2 : decide (b < Int.ofNat 0) = false := decide_eq_false h2
      simp only [s31, bin_gtr, e1, gK_skip, someK_mk, pick_mk, cond_false, condK_f, bin_lss, e2, bin_add, fin (a + b) (by omega) (by omega), addT, decide_false, decide_true, h1, false_and, if_false, h2]

theorem intL_range : ∀ (s : Bs) (n m : Int), 0 ≤ n → n ≤ mostI → intL s n = some m → 0 ≤ m ∧ m ≤ mostI := by
  intro s
  induction s with
  | nil => intro n m h0 h1 h; cases h; exact ⟨h0, h1⟩
  | cons x s ih =>
    intro n m h0 h1 h
    simp only [intL] at h
    split at h
    · rename_i hx
      have := intStep_range h0 h1 (d := (x.toNat : Int) - 48) (by omega) (by omega)
      exact ih _ _ this.1 this.2 h
    · cases h
theorem intB_range (s : Bs) : 0 ≤ (intB s).1 ∧ (intB s).1 ≤ mostI := by
  unfold intB
  cases h : intL s 0 with
  | none => simp only; unfold mostI; omega
  | some m => exact intL_range s 0 m (Int.le_refl _) (by unfold mostI; omega) h
theorem sinceT_range {a b : Int} (ha : InI a) (hb : InI b) : 0 ≤ sinceT a b ∧ sinceT a b ≤ mostI := by
  unfold InI at *
  unfold sinceT leastI mostI at *
  split
  · omega
  · split <;> omega

def ageName : Bs := [97, 103, 101]
def ageT (hs : List (Bs × Bs)) (a b : Int) : Int := addT (intB (strip (getT ageName hs))).1 (sinceT a b)
abbrev GetOk' (c : CallK) (name : Bs) (hs : List (Bs × Bs)) : Prop := ∀ (v : V) (H : Heap), WF H → Rd H 2 v hs.length (hcells hs) → ∀ τ,
    ∃ H' τ', Gr H.size H H' ∧ ∀ q, c 78 [v, .str name] H τ q = q (.tup [.str (getT name hs), .bool (decide (0 < (sel name hs).length))]) H' τ'
abbrev StripOk' (c : CallK) : Prop := ∀ (s : Bs), s.length < 9223372036854775807 → ∀ (H : Heap), WF H → ∀ τ, ∃ H' τ', Gr H.size H H' ∧ ∀ q, c 80 [.str s] H τ q = q (.str (strip s)) H' τ'

theorem s29_ret (c : CallK) (N : Nat) (hs : List (Bs × Bs)) (h78 : GetOk' c ageName hs) (hj : (getT ageName hs).length < 9223372036854775807) (h80 : StripOk' c) (h79 : IntOk c)
    (h81 : ∀ a b, InI a → InI b → ∀ H τ q, c 81 [.int .i64 a, .int .i64 b] H τ q = q (.int .i64 (sinceT a b)) H τ) (h31 : ∀ a b, InI a → InI b → ∀ H τ q, c 31 [.int .i64 a, .int .i64 b] H τ q = q (.int .i64 (addT a b)) H τ)
    {a b : Int} (ha : InI a) (hb : InI b) (v : V) (H : Heap) (hw : WF H) (hr : Rd H 2 v hs.length (hcells hs)) (τ : Tape) :
    ∃ H' τ', Gr H.size H H' ∧ ∀ q, s29 c N v (.int .i64 a) (.int .i64 b) H τ q = q (.int .i64 (ageT hs a b)) H' τ' := by
  obtain ⟨H1, τ1, k1, k2⟩ := h78 v H hw hr τ
  obtain ⟨H2, τ2, m1, m2⟩ := h80 (getT ageName hs) hj H1 k1.wf τ1
  refine ⟨H2, τ2, k1.trans m1 k1.size, fun q => ?_⟩
  have hl : (strip (getT ageName hs)).length < 9223372036854775807 := by have := trimB_length blank (getT ageName hs); unfold strip; omega
  have h1 := intB_range (strip (getT ageName hs))
  have h2 := sinceT_range ha hb
  simp only [s29]
  rw [show bs [97, 103, 101] = ageName from rfl, k2]
  simp only [pExtract, List.getElem?_cons_zero, List.getElem?_cons_succ, someK_mk, m2, h79 _ hl]
  rw [h81 a b ha hb, h31 _ _ ⟨by unfold leastI; omega, h1.2⟩ ⟨by unfold leastI; omega, h2.2⟩]
  rfl

def freshT (hs : List (Bs × Bs)) (a b : Int) : Bool := !(parseT hs).2.1 && decide (ageT hs a b < (parseT hs).2.2)
theorem s30_ret (c : CallK) (N : Nat) (hs : List (Bs × Bs)) (h53 : ∀ (v : V) (H : Heap), WF H → Rd H 2 v hs.length (hcells hs) → ∀ τ, ∃ H' τ', Gr H.size H H' ∧ ∀ q, c 53 [v] H τ q = q (.agg (ctlC (parseT hs))) H' τ')
    (h29 : ∀ (a b : Int), InI a → InI b → ∀ (v : V) (H : Heap), WF H → Rd H 2 v hs.length (hcells hs) → ∀ τ, ∃ H' τ', Gr H.size H H' ∧ ∀ q, c 29 [v, .int .i64 a, .int .i64 b] H τ q = q (.int .i64 (ageT hs a b)) H' τ')
    {a b : Int} (ha : InI a) (hb : InI b) (v : V) (H : Heap) (hw : WF H) (hr : Rd H 2 v hs.length (hcells hs)) (τ : Tape) :
    ∃ H' τ', Gr H.size H H' ∧ ∀ q, s30 c N v (.int .i64 a) (.int .i64 b) H τ q = q (.bool (freshT hs a b)) H' τ' := by
  obtain ⟨H1, τ1, k1, k2⟩ := h53 v H hw hr τ
  have hG2 := Gr.new k1.wf [V.bool false, V.bool false, V.int .i64 0] 3 true
  have hC2 := Bx.new H1 [V.bool false, V.bool false, V.int .i64 0] 3 true (Nat.le_refl _)
  generalize hH2 : H1.new [V.bool false, V.bool false, V.int .i64 0] 3 true = H2 at hG2 hC2
  obtain ⟨H3, m1, m2, m3⟩ := hC2.eStore hG2.wf 0 (.agg (ctlC (parseT hs))) 3 rfl (by simp) (by omega) rfl τ1
  have m2 : Bx H3 H1.size (ctlC (parseT hs)) := m2
  have hG3 : Gr H.size H H3 := k1.trans (hG2.trans (m3.gr (Nat.le_refl _)) (Nat.le_refl _)) k1.size
  obtain ⟨H4, τ4, p1, p2⟩ := h29 a b ha hb v H3 m3.wf (hr.gr hG3 hw (Nat.le_refl _)) τ1
  have m4 := m2.gr p1 (m2.lt m3.wf)
  have e1 : eAlloc [(.bool false), (.bool false), (.int .i64 (.ofNat 0))] [] H1 τ1 = some (.ptr H1.size 0, H2, τ1) := by rw [← hH2]; rfl
  have e2 : lLoad1 [.ptr H1.size (0 + 1)] H3 = some (.bool (parseT hs).2.1) := load_cell m2.cells rfl
  cases hnc : (parseT hs).2.1 with
  | true =>
    refine ⟨H3, τ1, hG3, fun q => ?_⟩
    have hf : freshT hs a b = false := by simp [freshT, hnc]
    rw [hnc] at e2
    simp only [s30, k2, e1, effK_mk, m1, pFieldAddr, someK_mk, e2, un_not, Bool.not_true, gK_skip, pick_mk, cond_false, wantsV, hf]
    rfl
  | false =>
    refine ⟨H4, τ4, hG3.trans p1 hG3.size, fun q => ?_⟩
    have hf : freshT hs a b = decide (ageT hs a b < (parseT hs).2.2) := by simp [freshT, hnc]
    rw [hnc] at e2
    have e3 : lLoad1 [.ptr H1.size (0 + 2)] H3 = some (.int .i64 (parseT hs).2.2) := load_cell m2.cells rfl
    have e4 : lLoad1 [.ptr H1.size (0 + 2)] H4 = some (.int .i64 (parseT hs).2.2) := load_cell m4.cells rfl
    have e5 : chkLoads [H3, H4] [((.load none), [.ptr H1.size (0 + 2)], 0, 1)] = true := by
      simp [chkLoads, evalL, lLoad, e3, chk1, e4, same, same1, same0]
    simp only [s30, k2, e1, effK_mk, m1, pFieldAddr, someK_mk, e2, un_not, Bool.not_false, gK_do, retK, e3, p2, bin_gtr, pick_mk, cond_true, wantsV, hf]
    rw [show (true == true) = true from rfl]
    simp only [e5, cond_true]

def fewh (m : Nat) (h : Bs × Bs) : Bs × Bs := (h.1.take m, h.2.take m)

theorem s14_eval (c : CallK) (N : Nat) (s : Bs) (m : Nat) (H : Heap) (τ : Tape) (q : KV) : s14 c N (.str s) (.int .i64 (m : Int)) H τ q = q (.str (s.take m)) H τ := by
  simp only [s14, lenS_mk, someK_mk, bin_gtr]
  by_cases h : m < s.length
  · rw [decide_eq_true (by omega), condK_t, strSlice_hi (by omega), someK_mk]
  · rw [decide_eq_false (by omega), condK_f, List.take_of_length_le (by omega)]

abbrev FewOk (c : CallK) : Prop := ∀ (s : Bs) (m : Nat) H τ q, c 14 [.str s, .int .i64 (m : Int)] H τ q = q (.str (s.take m)) H τ

theorem few_loop (c : CallK) (N : Nat) (h14 : FewOk c) {B id off m lo nn mm : Nat} {ex : Option Nat} {all : List V} (hs : List (Bs × Bs)) (hm : hs.length = m) (hmb : m ≤ 9223372036854775807) (hnn : nn ≤ 1000)
    (hall : (all.drop off).take (m * 2) = hcells hs) (hlen : off + m * 2 ≤ all.length) (l : List (Bs × Bs)) :
    ∀ (pre : List (Bs × Bs)) (v7 : V) (acc : List (Bs × Bs)) (n : Nat) (fr : T V) (H : Heap) (τ : Tape), WF H → B ≤ H.size → hs = pre ++ l → H.cells? id = some all → Own H B 2 v7 acc.length (hcells acc) → acc.length = pre.length → pre.length ≤ nn → l.length < n →
    fr.get 0 = some (.sl id off m lo ex 2) → fr.get 1 = some (.int .i64 (nn : Int)) → fr.get 2 = some (.int .i64 (mm : Int)) → fr.get 7 = some v7 → fr.get 8 = some (.int .i64 (pre.length : Int)) →
    ∃ v7' H' τ', Gr B H H' ∧ Own H' B 2 v7' (acc ++ (l.take (nn - pre.length)).map (fewh mm)).length (hcells (acc ++ (l.take (nn - pre.length)).map (fewh mm))) ∧ ∀ k, loopK (s28_l1 c N) n ⟨fr, H⟩ τ k = k (.exit 0) ⟨T.set .leaf 7 v7', H'⟩ τ' := by
  induction l with
  | nil =>
    intro pre v7 acc n fr H τ hw hB he hc ho ha hp hn f0 f1 f2 f7 f8
    obtain ⟨n, rfl⟩ : ∃ j, n = j + 1 := ⟨n - 1, by simp at hn; omega⟩
    refine ⟨v7, H, τ, Gr.refl hw, by simpa using ho, fun k => ?_⟩
    have e0 : pLen [.sl id off m lo ex 2] = some (.int .i64 (m : Int)) := rfl
    have e1 : decide ((pre.length : Int) < (m : Int)) = false := decide_eq_false (by rw [← hm, he]; simp)
    rw [loopK_succ]
    simp only [s28_l1, getK_mk f0, getK_mk f1, getK_mk f2, getK_mk f7, getK_mk f8, e0, someK_mk, bin_lss, e1, gK_skip, pick_mk, cond_false, condK_f, seqK]
  | cons h l ih =>
    intro pre v7 acc n fr H τ hw hB he hc ho ha hp hn f0 f1 f2 f7 f8
    obtain ⟨n, rfl⟩ : ∃ j, n = j + 1 := ⟨n - 1, by simp at hn; omega⟩
    have e0 : pLen [.sl id off m lo ex 2] = some (.int .i64 (m : Int)) := rfl
    have hmm : m = pre.length + (l.length + 1) := by rw [← hm, he]; simp
    have e1 : decide ((pre.length : Int) < (m : Int)) = true := decide_eq_true (by omega)
    by_cases hlt : pre.length < nn
    · have e2 : decide ((pre.length : Int) < (nn : Int)) = true := decide_eq_true (by omega)
      have e3 : pSlIdx 2 [.sl id off m lo ex 2, .int .i64 (pre.length : Int)] = some (.ptr id (off + pre.length * 2)) := by
        have : Nat.blt pre.length m = true := by simp [Nat.blt]; omega
        simp [pSlIdx, natOf_nat, this]
      have hcell : ∀ j, j < 2 → all[off + pre.length * 2 + j]? = ([V.str h.1, V.str h.2])[j]? := by
        intro j hj
        have h1 : (hcells hs)[pre.length * 2 + j]? = ([V.str h.1, V.str h.2])[j]? := by
          rw [he, hcells_append, List.getElem?_append_right (by rw [hcells_length]; omega), hcells_length, Nat.add_sub_cancel_left, hcells_cons]
          match j, hj with
          | 0, _ => rfl
          | 1, _ => rfl
        rw [← h1, ← hall, List.getElem?_take_of_lt (by omega), List.getElem?_drop, Nat.add_assoc]
      have e4 : lLoad1 [.ptr id (off + pre.length * 2 + 0)] H = some (.str h.1) := load_cell hc (hcell 0 (by omega))
      have e5 : lLoad1 [.ptr id (off + pre.length * 2 + 1)] H = some (.str h.2) := load_cell hc (hcell 1 (by omega))
      have e6 : pBuild [(.str []), (.str [])] [(0, 1), (1, 1)] [.str (h.1.take mm), .str (h.2.take mm)] = some (.agg [.str (h.1.take mm), .str (h.2.take mm)]) := rfl
      have hG1 := Gr.new hw [V.str (h.1.take mm), V.str (h.2.take mm)] (1 * 2) false
      have ho1 := ho.gr hG1 hw (Nat.le_refl _)
      have hc1 := hG1.cells hw (Nat.le_refl _) hc
      have e7 : eBuildSlice 1 2 [(.str []), (.str [])] [(0, 2)] [.agg [.str (h.1.take mm), .str (h.2.take mm)]] H τ = some (.sl H.size 0 1 1 none 2, H.new [.str (h.1.take mm), .str (h.2.take mm)] (1 * 2) false, τ) := rfl
      obtain ⟨v28, H2, r1, r2, r3, r4⟩ := ho1.append (bytes := 32) hG1.wf (by have := hG1.size; omega) 1 [.str (h.1.take mm), .str (h.2.take mm)] (by omega) rfl rfl (by omega) (by omega) τ
      have e8 : eAppend 2 32 [v7, .sl H.size 0 1 1 none 2] (H.new [.str (h.1.take mm), .str (h.2.take mm)] (1 * 2) false) τ = some (v28, H2, τ.tail) := by
        have hl : (H.new [V.str (h.1.take mm), V.str (h.2.take mm)] (1 * 2) false).loads H.size 0 (1 * 2) = some [.str (h.1.take mm), .str (h.2.take mm)] := by
          rw [loads_cells (cells_new _ _ _ _) (by simp)]; rfl
        simp only [eAppend, srcLen, srcCells, Nat.beq_refl, cond_true, hl, r1]
      have e9 : wr .i64 ((pre.length : Int) + Int.ofNat 1) = ((pre ++ [h]).length : Int) := by
        rw [wr_id (by first | (simp; done) | (simp; omega) | omega) (by first | (simp; done) | (simp; omega) | omega)]
        simp
      have hcells : hcells acc ++ [V.str (h.1.take mm), V.str (h.2.take mm)] = hcells (acc ++ [fewh mm h]) := by
        rw [hcells_append]; rfl
      rw [hcells] at r2
      obtain ⟨v7', H', τ', q1, q2, q3⟩ := ih (pre ++ [h]) v28 (acc ++ [fewh mm h]) n (T.set (T.set (T.set (T.set (T.set (T.set (T.set (T.set .leaf 0 (.sl id off m lo ex 2)) 1 (.int .i64 (nn : Int))) 2 (.int .i64 (mm : Int))) 7 v28) 8 (.int .i64 (pre.length : Int))) 18 (.int .i64 (pre.length : Int))) 19 (.int .i64 ((pre ++ [h]).length : Int))) 8 (.int .i64 ((pre ++ [h]).length : Int))) H2 τ.tail r3.wf (by have := hG1.size; have := r3.size; omega) (by rw [he]; simp) (r4 _ _ hc1) (by simpa using r2) (by simp [ha]) (by first | (simp; done) | (simp; omega) | omega) (by simp at hn; omega) (by simp [T.get_set]) (by simp [T.get_set]) (by simp [T.get_set]) (by simp [T.get_set]) (by simp [T.get_set])
      have hq : acc ++ ((h :: l).take (nn - pre.length)).map (fewh mm) = (acc ++ [fewh mm h]) ++ (l.take (nn - (pre ++ [h]).length)).map (fewh mm) := by
        obtain ⟨j, hj⟩ : ∃ j, nn - pre.length = j + 1 := ⟨nn - pre.length - 1, by omega⟩
        rw [hj, List.take_succ_cons, show nn - (pre ++ [h]).length = j by simp; omega]
        simp
      refine ⟨v7', H', τ', (hG1.weaken hB).trans (r3.trans q1 (Nat.le_refl _)) (Nat.le_refl _), by rw [hq]; exact q2, fun k => ?_⟩
      have e10 : chkLoads [H, H, H, H.new [.str (h.1.take mm), .str (h.2.take mm)] (1 * 2) false, H2] [((.load none), [.ptr id (off + pre.length * 2 + 1)], 0, 1)] = true := by
        simp [chkLoads, evalL, lLoad, e5, chk1, same, same1, same0]
      rw [loopK_succ]
      simp only [s28_l1, getK_mk f0, getK_mk f1, getK_mk f2, getK_mk f7, getK_mk f8, e0, someK_mk, bin_lss, e1, gK_do, retK, effK_mk, e2, pick_mk, cond_true, condK_t, e3, pFieldAddr, e4, h14, e5, e6, e7, e8, e10, bin_add, e9, seqK, q3]
    · have e2 : decide ((pre.length : Int) < (nn : Int)) = false := decide_eq_false (by omega)
      refine ⟨v7, H, τ, Gr.refl hw, by rw [show nn - pre.length = 0 by omega]; simpa using ho, fun k => ?_⟩
      rw [loopK_succ]
      simp only [s28_l1, getK_mk f0, getK_mk f1, getK_mk f2, getK_mk f7, getK_mk f8, e0, someK_mk, bin_lss, e1, gK_do, retK, effK_mk, e2, pick_mk, cond_true, condK_f, seqK]

def fewH (nn mm : Nat) (hs : List (Bs × Bs)) : List (Bs × Bs) := (hs.take nn).map (fewh mm)

theorem s28_ret (c : CallK) (N : Nat) (hN : 9223372036854775807 < N) (h14 : FewOk c) (hs : List (Bs × Bs)) (hmb : hs.length ≤ 9223372036854775807) (nn mm : Nat) (hnn : nn ≤ 1000) (v : V) (H : Heap) (hw : WF H) (hr : Rd H 2 v hs.length (hcells hs)) (τ : Tape) :
    ∃ v' H' τ', Gr H.size H H' ∧ Own H' H.size 2 v' (fewH nn mm hs).length (hcells (fewH nn mm hs)) ∧ ∀ q, s28 c N v (.int .i64 (nn : Int)) (.int .i64 (mm : Int)) H τ q = q v' H' τ' := by
  by_cases h0 : hs = []
  · subst h0
    refine ⟨.nils, H, τ, Gr.refl hw, by simpa [fewH, hcells] using Own.nil H H.size 2, fun q => ?_⟩
    obtain ⟨N, rfl⟩ : ∃ j, N = j + 1 := ⟨N - 1, by omega⟩
    simp only [s28, loopK_succ, s28_l1, getK_set, ↓reduceIte, Nat.reduceEqDiff, rd_len hr, someK_mk]
    rw [bin_lss, show decide (Int.ofNat 0 < ((([] : List (Bs × Bs)).length : Nat) : Int)) = false from rfl]
    simp only [gK_skip, pick_mk, cond_false, someK_mk, condK_f, seqK, blockK, Nat.beq_refl, cond_true, s28_j0, getK_set, ↓reduceIte]
  · rcases hr with ⟨_, hz, _⟩ | ⟨id, off, lo, ex, all, rfl, hc, hall, hlen⟩
    · exact absurd (List.length_eq_zero_iff.1 hz) h0
    · have hpos : 0 < hs.length := List.length_pos_iff.2 h0
      have hl : off + hs.length * 2 ≤ all.length := by
        have := hlen
        rw [hall, List.length_take, List.length_drop] at this
        omega
      obtain ⟨v', H', τ', k1, k2, k3⟩ := few_loop c N h14 (B := H.size) (lo := lo) (ex := ex) (nn := nn) (mm := mm) hs rfl hmb hnn hall.symm hl hs [] .nils [] N (T.set (T.set (T.set (T.set (T.set .leaf 0 (.sl id off hs.length lo ex 2)) 1 (.int .i64 (nn : Int))) 2 (.int .i64 (mm : Int))) 7 .nils) 8 (.int .i64 0)) H τ hw (Nat.le_refl _) rfl hc (Own.nil _ _ _) rfl (by simp) (by omega) (by simp [T.get_set]) (by simp [T.get_set]) (by simp [T.get_set]) (by simp [T.get_set]) (by simp [T.get_set])
      refine ⟨v', H', τ', k1, by simpa [fewH] using k2, fun q => ?_⟩
      simp only [s28]
      rw [show (V.int IntKind.i64 (Int.ofNat 0)) = .int .i64 0 from rfl, k3]
      simp only [blockK, Nat.beq_refl, cond_true, seqK, s28_j0, getK_set, ↓reduceIte]

theorem sinceT_mono {a b b' : Int} (ha : InI a) (hb : InI b) (hb' : InI b') (h : b ≤ b') : sinceT a b ≤ sinceT a b' := by
  have h1 := sinceT_range ha hb
  have h2 := sinceT_range ha hb'
  unfold InI leastI mostI at *
  unfold sinceT mostI at *
  split <;> split <;> (try split) <;> (try split) <;> omega
theorem addT_mono {n d d' : Int} (hn : 0 ≤ n) (hn' : n ≤ mostI) (hd : 0 ≤ d) (hd' : d' ≤ mostI) (h : d ≤ d') : addT n d ≤ addT n d' := by
  unfold addT leastI mostI at *
  split <;> (try split) <;> (try split) <;> (try split) <;> (try split) <;> (try split) <;> omega
theorem addT_range (a b : Int) : 0 ≤ addT a b := by
  unfold addT mostI
  split
  · omega
  · split
    · omega
    · split <;> omega
theorem addT_comm {a b : Int} (ha : InI a) (hb : InI b) : addT a b = addT b a := by
  unfold InI at *
  unfold addT leastI mostI at *
  split <;> split <;> (try split) <;> (try split) <;> (try split) <;> (try split) <;> omega
theorem addT_ge {a b : Int} (ha : InI a) (hb : InI b) (h1 : 0 ≤ a) (h2 : 0 ≤ b) : a ≤ addT a b ∧ b ≤ addT a b := by
  unfold InI at *
  unfold addT leastI mostI at *
  split <;> (try split) <;> (try split) <;> omega
theorem ageT_mono (hs : List (Bs × Bs)) {a b b' : Int} (ha : InI a) (hb : InI b) (hb' : InI b') (h : b ≤ b') : ageT hs a b ≤ ageT hs a b' := by
  have h1 := intB_range (strip (getT ageName hs))
  exact addT_mono h1.1 h1.2 (sinceT_range ha hb).1 (sinceT_range ha hb').2 (sinceT_mono ha hb hb' h)
theorem freshT_mono (hs : List (Bs × Bs)) {a b b' : Int} (ha : InI a) (hb : InI b) (hb' : InI b') (h : b ≤ b') (hf : freshT hs a b' = true) : freshT hs a b = true := by
  have := ageT_mono hs ha hb hb' h
  unfold freshT at *
  simp only [Bool.and_eq_true, decide_eq_true_eq] at hf ⊢
  exact ⟨hf.1, by omega⟩

abbrev AgeOk (c : CallK) (hs : List (Bs × Bs)) : Prop := ∀ (a b : Int), InI a → InI b → ∀ (v : V) (H : Heap), WF H → Rd H 2 v hs.length (hcells hs) → ∀ τ, ∃ H' τ', Gr H.size H H' ∧ ∀ q, c 29 [v, .int .i64 a, .int .i64 b] H τ q = q (.int .i64 (ageT hs a b)) H' τ'
abbrev FreshOk (c : CallK) (hs : List (Bs × Bs)) : Prop := ∀ (a b : Int), InI a → InI b → ∀ (v : V) (H : Heap), WF H → Rd H 2 v hs.length (hcells hs) → ∀ τ, ∃ H' τ', Gr H.size H H' ∧ ∀ q, c 30 [v, .int .i64 a, .int .i64 b] H τ q = q (.bool (freshT hs a b)) H' τ'

theorem s5_j0_ret (c : CallK) (N : Nat) (hs : List (Bs × Bs)) (h29 : AgeOk c hs) (h30 : FreshOk c hs)
    (h31 : ∀ a b, InI a → InI b → ∀ H τ q, c 31 [.int .i64 a, .int .i64 b] H τ q = q (.int .i64 (addT a b)) H τ) (h32 : ∀ vs H τ q, c 32 vs H τ q = effK (closedP vs H τ) q)
    {a n b : Int} (ha : InI a) (hn : InI n) (hb : InI b) (hbn : b ≤ n) (v : V) (H : Heap) (hw : WF H) (hr : Rd H 2 v hs.length (hcells hs)) (fr : T V) (f0 : fr.get 0 = some v) (f1 : fr.get 1 = some (.int .i64 a)) (f2 : fr.get 2 = some (.int .i64 n)) (f3 : fr.get 3 = some (.int .i64 b)) (τ : Tape) :
    ∃ H' τ', ∀ q, s5_j0 c N q ⟨fr, H⟩ τ = q (.bool true) H' τ' := by
  obtain ⟨H1, τ1, k1, e1⟩ := h29 a b ha hb v H hw hr τ
  have hr1 := hr.gr k1 hw (Nat.le_refl _)
  obtain ⟨H2, τ2, k2, e2⟩ := h29 a n ha hn v H1 k1.wf hr1 τ1
  have hr2 := hr1.gr k2 k1.wf (Nat.le_refl _)
  obtain ⟨H3, τ3, k3, e3⟩ := h29 a b ha hb v H2 k2.wf hr2 τ2
  have hr3 := hr2.gr k3 k2.wf (Nat.le_refl _)
  obtain ⟨H4, τ4, k4, e4⟩ := h30 a n ha hn v H3 k3.wf hr3 τ3
  have hr4 := hr3.gr k4 k3.wf (Nat.le_refl _)
  obtain ⟨H5, τ5, k5, e5⟩ := h30 a b ha hb v H4 k4.wf hr4 τ4
  have d1 : decide (ageT hs a n < ageT hs a b) = false := decide_eq_false (by have := ageT_mono hs ha hb hn hbn; omega)
  have d2 : decide (ageT hs a b < Int.ofNat 0) = false := decide_eq_false (by have := addT_range (intB (strip (getT ageName hs))).1 (sinceT a b); unfold ageT; first | (simp; omega) | omega)
  have d3 : decide (Int.ofNat 0 ≤ addT a n) = true := decide_eq_true (by have := addT_range a n; first | (simp; done) | (simp; omega) | omega)
  have d4 : (addT a n == addT n a) = true := beq_iff_eq.2 (addT_comm ha hn)
  -- behind the ages
  have tail : ∀ (H' : Heap) (τ' : Tape) (q : KV), (c 31 [.int .i64 a, .int .i64 n] H' τ' fun v61 H62 τ63 =>
      binK .geq v61 (.int .i64 (.ofNat 0)) fun v64 =>
      gK v64 true (fun q' => q' v61 H62 τ63) H62 τ63 fun v65 H66 τ67 =>
      gK v64 true (fun q' => q' (.int .i64 n) H66 τ67) H66 τ67 fun v68 H69 τ70 =>
      gK v64 true (fun q' => q' (.int .i64 a) H69 τ70) H69 τ70 fun v71 H72 τ73 =>
      gK v64 true (fun q' => c 31 [v68, v71] H72 τ73 q') H72 τ73 fun v74 H75 τ76 =>
      gK v64 true (fun q' => binK .eql v65 v74 fun v => q' v H75 τ76) H75 τ76 fun v77 H78 τ79 =>
      someK (pPick [v64, v77, (.bool false)]) fun v80 =>
      gK v80 true (fun q' => q' (.int .i64 a) H78 τ79) H78 τ79 fun v81 H82 τ83 =>
      gK v80 true (fun q' => binK .lss v81 (.int .i64 (.ofNat 0)) fun v => q' v H82 τ83) H82 τ83 fun v84 H85 τ86 =>
      gK v80 true (fun q' => q' v84 H85 τ86) H85 τ86 fun v87 H88 τ89 =>
      gK v87 false (fun q' => q' (.int .i64 n) H88 τ89) H88 τ89 fun v90 H91 τ92 =>
      gK v87 false (fun q' => binK .lss v90 (.int .i64 (.ofNat 0)) fun v => q' v H91 τ92) H91 τ92 fun v93 H94 τ95 =>
      gK v80 true (fun q' => someK (pPick [v87, (.bool true), v93]) fun v => q' v H94 τ95) H94 τ95 fun v96 H97 τ98 =>
      gK v80 true (fun q' => q' v96 H97 τ98) H97 τ98 fun v99 H100 τ101 =>
      gK v99 false (fun q' => q' v61 H100 τ101) H100 τ101 fun v102 H103 τ104 =>
      gK v99 false (fun q' => q' (.int .i64 a) H103 τ104) H103 τ104 fun v105 H106 τ107 =>
      gK v99 false (fun q' => binK .geq v102 v105 fun v => q' v H106 τ107) H106 τ107 fun v108 H109 τ110 =>
      gK v99 false (fun q' => q' v108 H109 τ110) H109 τ110 fun v111 H112 τ113 =>
      gK v111 true (fun q' => q' v61 H112 τ113) H112 τ113 fun v114 H115 τ116 =>
      gK v111 true (fun q' => q' (.int .i64 n) H115 τ116) H115 τ116 fun v117 H118 τ119 =>
      gK v111 true (fun q' => binK .geq v114 v117 fun v => q' v H118 τ119) H118 τ119 fun v120 H121 τ122 =>
      gK v99 false (fun q' => someK (pPick [v111, v120, (.bool false)]) fun v => q' v H121 τ122) H121 τ122 fun v123 H124 τ125 =>
      gK v80 true (fun q' => someK (pPick [v99, (.bool true), v123]) fun v => q' v H124 τ125) H124 τ125 fun v126 H127 τ128 =>
      someK (pPick [v80, v126, (.bool false)]) fun v129 =>
      gK v129 true (fun q' => c 32 [] H127 τ128 q') H127 τ128 fun v130 H131 τ132 =>
      someK (pPick [v129, v130, (.bool false)]) fun v133 =>
      q v133 H131 τ132) = q (.bool true) H' τ' := by
    intro H' τ' q
    simp only [h31 a n ha hn, bin_geq, d3, gK_do, retK, effK_mk, h31 n a hn ha, bin_eql, d4, someK_mk, pick_mk, cond_true, bin_lss, h32, closedP]
    by_cases ca : a < 0
    · have x1 : decide (a < Int.ofNat 0) = true := decide_eq_true ca
      simp only [x1, gK_none, gK_skip', someK_mk, pick_mk, cond_true, effK_mk, gK_do, retK]
    · have x1 : decide (a < Int.ofNat 0) = false := decide_eq_false ca
      by_cases cn : n < 0
      · have x2 : decide (n < Int.ofNat 0) = true := decide_eq_true cn
        simp only [x1, gK_none, gK_do', retK, effK_mk, bin_lss, x2, someK_mk, pick_mk, cond_false, cond_true, gK_do, gK_skip', bin_geq]
      · have x2 : decide (n < Int.ofNat 0) = false := decide_eq_false cn
        have x3 := addT_ge ha hn (by omega) (by omega)
        have x4 : decide (a ≤ addT a n) = true := decide_eq_true x3.1
        have x5 : decide (n ≤ addT a n) = true := decide_eq_true x3.2
        simp only [x1, gK_none, gK_do', retK, effK_mk, bin_lss, x2, someK_mk, pick_mk, cond_false, cond_true, gK_do, bin_geq, x4, x5]
  cases hf : freshT hs a n with
  | false =>
    refine ⟨H4, τ4, fun q => ?_⟩
    simp only [s5_j0, getK_mk f0, getK_mk f1, getK_mk f2, getK_mk f3, e1, e2, bin_gtr, d1, gK_do', retK, effK_mk, e3, bin_lss, d2, someK_mk, pick_mk, cond_false, e4, hf, gK_skip, condK_f]
    exact tail H4 τ4 q
  | true =>
    have hf' := freshT_mono hs ha hb hn hbn hf
    refine ⟨H5, τ5, fun q => ?_⟩
    simp only [s5_j0, getK_mk f0, getK_mk f1, getK_mk f2, getK_mk f3, e1, e2, bin_gtr, d1, gK_do', retK, effK_mk, e3, bin_lss, d2, someK_mk, pick_mk, cond_false, e4, hf, gK_do, e5, hf', un_not, Bool.not_true, cond_true, condK_f]
    exact tail H5 τ5 q

abbrev C (N d : Nat) : CallK := callK (tabOf tabE N) d
theorem C_nat (N d : Nat) : CallNat (C N d) := tab_nat N d
section
variable {N : Nat} (hN : 9223372036854775807 < N)
include hN

theorem d171 (d : Nat) (cut : Bs) {id : Nat} {H : Heap} (hc : H.cells? id = some (mark (repl 256 [.bool false]) cut)) (x : UInt8) (τ : Tape) (q : KV) : C N (d + 1) 171 [.ptr id 0, .int .u8 (x.toNat : Int)] H τ q = q (.bool (cut.contains x)) H τ := by
  have hr : (repl 256 [V.bool false]).length = 256 := by rw [repl_length]; rfl
  have hg : ∀ i, i < 256 → (repl 256 [V.bool false])[i]? = some (.bool false) := fun i hi => by
    rw [repl_one, List.getElem?_replicate, if_pos hi]
  have := mark_get cut (repl 256 [V.bool false]) x hr (fun i hi => ⟨false, hg i hi⟩) false (hg _ (u8_lt x))
  exact s171_eval (C N d) N hc (by simpa using this) τ q
theorem d143 (d : Nat) (hd : 2 ≤ d) (cut s : Bs) (id : Nat) (H : Heap) (hs : s.length < 9223372036854775807) (hc : H.cells? id = some (mark (repl 256 [.bool false]) cut)) (τ : Tape) (q : KV) : C N d 143 [.str s, .ptr id 0] H τ q = q (.str (s.dropWhile cut.contains)) H τ := by
  obtain ⟨d, rfl⟩ : ∃ e, d = e + 1 + 1 := ⟨d - 2, by omega⟩
  show s143 (C N (d + 1)) N (.str s) (.ptr id 0) H τ q = _
  simp only [s143]
  rw [trimL_loop (C N (d + 1)) N cut.contains (fun x τ q => d171 hN d cut hc x τ q) _ s N _ τ (by omega) (by simp [T.get_set]) (by simp [T.get_set])]
  simp only [blockK, Nat.beq_refl, cond_true, seqK, s143_j0, getK_set, ↓reduceIte]
theorem d144 (d : Nat) (hd : 2 ≤ d) (cut s : Bs) (id : Nat) (H : Heap) (hs : s.length < 9223372036854775807) (hc : H.cells? id = some (mark (repl 256 [.bool false]) cut)) (τ : Tape) (q : KV) : C N d 144 [.str s, .ptr id 0] H τ q = q (.str (s.reverse.dropWhile cut.contains).reverse) H τ := by
  obtain ⟨d, rfl⟩ : ∃ e, d = e + 1 + 1 := ⟨d - 2, by omega⟩
  show s144 (C N (d + 1)) N (.str s) (.ptr id 0) H τ q = _
  simp only [s144]
  rw [trimR_loop (C N (d + 1)) N cut.contains (fun x τ q => d171 hN d cut hc x τ q) _ s.reverse N _ τ (by simpa using hs) (by simp; omega) (by simp [T.get_set]) (by simp [T.get_set])]
  simp only [blockK, Nat.beq_refl, cond_true, seqK, s144_j0, getK_set, ↓reduceIte]
theorem d114 (d : Nat) (hd : 3 ≤ d) (cut : Bs) (h2 : 2 ≤ cut.length) (h3 : cut.length < 9223372036854775807) (ha : ∀ x ∈ cut, x.toNat < 128) : TrimOk (C N d) cut := by
  intro s hs H hw τ q
  obtain ⟨d, rfl⟩ : ∃ e, d = e + 1 := ⟨d - 1, by omega⟩
  refine s114_ret (C N d) N (Nat.le_of_lt hN) cut s h2 h3 hs H hw (fun H hw τ q => ?_) (fun s id H hs hc τ q => d143 hN d (by omega) cut s id H hs hc τ q) (fun s id H hs hc τ q => d144 hN d (by omega) cut s id H hs hc τ q) τ q
  obtain ⟨d, rfl⟩ : ∃ e, d = e + 1 := ⟨d - 1, by omega⟩
  exact s142_ret (C N d) N (Nat.le_of_lt hN) cut ha h3 H hw τ q
theorem d114a (d : Nat) (hd : 3 ≤ d) : TrimOk (C N d) [9, 32] := d114 hN d hd _ (by decide) (by decide) (by decide)
theorem d80 (d : Nat) (hd : 4 ≤ d) : StripOk (C N d) := by
  intro s hs H hw τ q
  obtain ⟨d, rfl⟩ : ∃ e, d = e + 1 := ⟨d - 1, by omega⟩
  exact s80_ret (C N d) N (d114 hN d (by omega) [9, 10, 12, 13, 32] (by decide) (by decide) (by decide)) s hs H hw τ q
theorem d80' (d : Nat) (hd : 4 ≤ d) : StripOk' (C N d) := by
  intro s hs H hw τ
  obtain ⟨H', k1, k2⟩ := d80 hN d hd s hs H hw τ retK
  exact ⟨H', τ, k1, fun q => (C_nat N d).mk k2 q⟩
theorem d92 (d : Nat) (hd : 3 ≤ d) : LowOk (C N d) := by
  intro s hs H hw τ q
  obtain ⟨d, rfl⟩ : ∃ e, d = e + 1 + 1 + 1 := ⟨d - 3, by omega⟩
  obtain ⟨H', τ', k1, k2⟩ := s120_ret (C N (d + 1)) N (Nat.le_of_lt hN) s hs H hw (fun x H τ q => s121_eval (C N d) N x H τ q) τ (fun v0 H1 τ2 => q v0 H1 τ2)
  exact ⟨H', τ', k1, k2⟩
theorem d112 (d : Nat) (hd : 4 ≤ d) (name : Bs) (hm : name.length ≤ 274877906944) (n v : Bs) (hn : n.length ≤ 274877906944) (H : Heap) (hw : WF H) (τ : Tape) (q : KV) : ∃ H' τ', Gr H.size H H' ∧ C N d 112 [.agg [.str n, .str v], .str name] H τ q = q (.bool (lower n == lower name)) H' τ' := by
  obtain ⟨d, rfl⟩ : ∃ e, d = e + 1 := ⟨d - 1, by omega⟩
  exact s112_ret (C N d) N (d92 hN d (by omega)) n v name hn hm H hw τ q

end
/-- headers that are few and short -/
structure Small (hs : List (Bs × Bs)) : Prop where
  len : hs.length ≤ 1000
  all : ∀ h ∈ hs, h.1.length ≤ 1000 ∧ h.2.length ≤ 1000
section
variable {N : Nat} (hN : 9223372036854775807 < N)
include hN
omit hN in
theorem joinT_length (sep : Bs) (M : Nat) : ∀ (l : List Bs), (∀ x ∈ l, x.length ≤ M) → (joinT sep l).length ≤ l.length * (M + sep.length) := by
  intro l
  induction l with
  | nil => intro _; simp [joinT]
  | cons x l ih =>
    intro h
    have h1 := h x (by simp)
    have h2 := ih (fun y hy => h y (by simp [hy]))
    simp only [joinT, List.length_append, List.length_cons, Nat.succ_mul]
    omega
omit hN in
theorem joinB_length (sep : Bs) (M : Nat) (l : List Bs) (h : ∀ x ∈ l, x.length ≤ M) : (joinB sep l).length ≤ l.length * (M + sep.length) := by
  cases l with
  | nil => simp [joinB]
  | cons x l =>
    have h1 := h x (by simp)
    have h2 := joinT_length sep M l (fun y hy => h y (by simp [hy]))
    simp only [joinB, List.length_append, List.length_cons, Nat.succ_mul]
    omega
omit hN in
theorem getT_small {hs : List (Bs × Bs)} (h : Small hs) (name : Bs) : (getT name hs).length ≤ 1002000 := by
  have h1 : (sel name hs).length ≤ 1000 := by
    have := h.len
    simp only [sel, List.length_map]
    have := List.length_filter_le (fun h : Bs × Bs => lower h.1 == lower name) hs
    omega
  have h2 := joinB_length [44, 32] 1000 (sel name hs) (fun x hx => by
    simp only [sel, List.mem_map, List.mem_filter] at hx
    obtain ⟨y, ⟨hy, _⟩, rfl⟩ := hx
    exact (h.all y hy).2)
  have h3 : (sel name hs).length * (1000 + ([44, 32] : Bs).length) ≤ 1000 * 1002 := Nat.mul_le_mul h1 (by simp)
  unfold getT
  omega
theorem d78 (d : Nat) (hd : 5 ≤ d) (name : Bs) (hm : name.length ≤ 274877906944) {hs : List (Bs × Bs)} (h : Small hs) : GetOk (C N d) name hs := by
  intro v H hw hr τ q
  obtain ⟨d, rfl⟩ : ∃ e, d = e + 1 := ⟨d - 1, by omega⟩
  obtain ⟨d, rfl⟩ : ∃ e, d = e + 1 := ⟨d - 1, by omega⟩
  exact s78_ret (C N (d + 1)) N (Nat.le_of_lt hN) name hm hs (by have := h.len; omega) (fun x hx => by have := (h.all x hx).1; omega) (by have := getT_small h name; omega) (fun _ _ _ _ => rfl)
    (fun n v hn H hw τ q => d112 hN (d + 1) (by omega) name hm n v hn H hw τ q) v H hw hr τ q
theorem d78' (d : Nat) (hd : 5 ≤ d) (name : Bs) (hm : name.length ≤ 274877906944) {hs : List (Bs × Bs)} (h : Small hs) : GetOk' (C N d) name hs := by
  intro v H hw hr τ
  obtain ⟨H', τ', k1, k2⟩ := d78 hN d hd name hm h v H hw hr τ retK
  exact ⟨H', τ', k1, fun q => (C_nat N d).mk k2 q⟩
theorem d91 (d : Nat) (hd : 6 ≤ d) (name : Bs) (hm : name.length ≤ 274877906944) {hs : List (Bs × Bs)} (h : Small hs) : SplitOk (C N d) name hs := by
  intro v H hw hr τ
  obtain ⟨d, rfl⟩ : ∃ e, d = e + 1 := ⟨d - 1, by omega⟩
  obtain ⟨v', H', τ', k1, k2, k3, k4⟩ := s91_ret (C N d) N (Nat.le_of_lt hN) name hs (by have := getT_small h name; omega) (d78 hN d (by omega) name hm h) (d114a hN d (by omega)) v H hw hr τ retK
  exact ⟨v', H', τ', k1, k2, k3, fun q => (C_nat N (d + 1)).mk (f := 91) (vs := [v, .str name]) k4 q⟩
theorem d62 (d : Nat) (hd : 4 ≤ d) (x : UInt8) : CutOk (C N d) x := by
  intro s hs H τ q
  obtain ⟨d, rfl⟩ : ∃ e, d = e + 1 + 1 + 1 + 1 := ⟨d - 4, by omega⟩
  exact s62_one (C N (d + 1 + 1 + 1)) N s x (fun H τ q => s103_one (C N (d + 1 + 1)) N s x hs (fun s x H τ q => s130_one (C N (d + 1)) N s x (fun _ _ _ _ => rfl) H τ q) H τ q) H τ q
theorem d95 (d : Nat) (hd : 5 ≤ d) : PieceOk (C N d) := by
  intro s hs H hw τ
  obtain ⟨d, rfl⟩ : ∃ e, d = e + 1 := ⟨d - 1, by omega⟩
  obtain ⟨H', τ', k1, k2⟩ := s95_ret (C N d) N (d62 hN d (by omega) 61) (d80 hN d (by omega)) (d92 hN d (by omega)) s hs H hw τ retK
  exact ⟨H', τ', k1, fun q => (C_nat N (d + 1)).mk (f := 95) (vs := [.str s]) k2 q⟩
theorem d79 (d : Nat) (hd : 1 ≤ d) : IntOk (C N d) := by
  intro s hs H τ q
  obtain ⟨d, rfl⟩ : ∃ e, d = e + 1 := ⟨d - 1, by omega⟩
  exact s79_eval (C N d) N (Nat.le_of_lt hN) s hs H τ q
theorem d81 (d : Nat) (hd : 1 ≤ d) (a b : Int) (ha : InI a) (hb : InI b) (H : Heap) (τ : Tape) (q : KV) : C N d 81 [.int .i64 a, .int .i64 b] H τ q = q (.int .i64 (sinceT a b)) H τ := by
  obtain ⟨d, rfl⟩ : ∃ e, d = e + 1 := ⟨d - 1, by omega⟩
  exact s81_eval (C N d) N ha hb H τ q
theorem d31 (d : Nat) (hd : 1 ≤ d) (a b : Int) (ha : InI a) (hb : InI b) (H : Heap) (τ : Tape) (q : KV) : C N d 31 [.int .i64 a, .int .i64 b] H τ q = q (.int .i64 (addT a b)) H τ := by
  obtain ⟨d, rfl⟩ : ∃ e, d = e + 1 := ⟨d - 1, by omega⟩
  exact s31_eval (C N d) N ha hb H τ q
theorem d29 (d : Nat) (hd : 6 ≤ d) {hs : List (Bs × Bs)} (h : Small hs) : AgeOk (C N d) hs := by
  intro a b ha hb v H hw hr τ
  obtain ⟨d, rfl⟩ : ∃ e, d = e + 1 := ⟨d - 1, by omega⟩
  exact s29_ret (C N d) N hs (d78' hN d (by omega) ageName (by decide) h) (by have := getT_small h ageName; omega) (d80' hN d (by omega)) (d79 hN d (by omega)) (d81 hN d (by omega)) (d31 hN d (by omega)) ha hb v H hw hr τ

omit hN in
theorem splitF_length : ∀ (n : Nat) (r : Bs), r.length ≤ n → ∀ (q : Bool) (cur : Bs), (∀ s ∈ (splitF q cur r).1, s.length ≤ cur.length + r.length) ∧ (splitF q cur r).2.length ≤ cur.length + r.length := by
  intro n
  induction n with
  | zero =>
    intro r hr q cur
    have : r = [] := List.length_eq_zero_iff.1 (by omega)
    subst this
    simp [splitF]
  | succ n ih =>
    intro r hr q cur
    cases r with
    | nil => simp [splitF]
    | cons x r =>
      have hr' : r.length ≤ n := by simp at hr; omega
      by_cases c34 : x = 34
      · rw [splitF_quote q cur r c34]
        have := ih r hr' (!q) (cur ++ [x])
        simp only [List.length_append, List.length_cons, List.length_nil] at this ⊢
        exact ⟨fun s hs => by have := this.1 s hs; omega, by omega⟩
      · cases q with
        | true =>
          by_cases c92 : x = 92
          · cases r with
            | nil => rw [splitF_end cur c34 c92]; simp
            | cons y r' =>
              rw [splitF_esc cur y r' c34 c92]
              have := ih r' (by simp at hr'; omega) true (cur ++ [x, y])
              simp only [List.length_append, List.length_cons, List.length_nil] at this ⊢
              exact ⟨fun s hs => by have := this.1 s hs; omega, by omega⟩
          · rw [splitF_in cur r c34 c92]
            have := ih r hr' true (cur ++ [x])
            simp only [List.length_append, List.length_cons, List.length_nil] at this ⊢
            exact ⟨fun s hs => by have := this.1 s hs; omega, by omega⟩
        | false =>
          by_cases c44 : x = 44
          · rw [splitF_comma cur r c34 c44]
            have := ih r hr' false []
            simp only [List.length_cons, List.length_nil] at this ⊢
            refine ⟨fun s hs => ?_, by omega⟩
            rcases List.mem_cons.1 hs with rfl | hs
            · omega
            · have := this.1 s hs; omega
          · rw [splitF_out cur r c34 c44]
            have := ih r hr' false (cur ++ [x])
            simp only [List.length_append, List.length_cons, List.length_nil] at this ⊢
            exact ⟨fun s hs => by have := this.1 s hs; omega, by omega⟩
omit hN in
theorem splitT_small {hs : List (Bs × Bs)} (h : Small hs) (name : Bs) : ∀ s ∈ splitT name hs, s.length ≤ 1002000 := by
  intro s hs'
  unfold splitT at hs'
  split at hs'
  · have h1 := getT_small h name
    have h2 := splitF_length _ (getT name hs) (Nat.le_refl _) false []
    simp only [piecesB, List.mem_map, List.mem_append, List.mem_singleton] at hs'
    obtain ⟨t, ht, rfl⟩ := hs'
    have h3 := trimB_length tight t
    simp only [List.length_nil, Nat.zero_add] at h2
    rcases ht with ht | rfl
    · have := h2.1 t ht; omega
    · have := h2.2; omega
  · cases hs'
omit hN in
theorem pieceT_length (s : Bs) : (pieceT s).2.length ≤ s.length := by
  have hu : ∀ v : Bs, (unq v).length ≤ v.length := by
    intro v
    unfold unq
    split
    · rw [List.length_drop, List.length_take]; omega
    · exact Nat.le_refl _
  unfold pieceT
  cases hx : cutB 61 s with
  | none =>
    have e : unq (strip []) = [] := by simp [strip, trimB, unq]
    simp only [e]
    simp
  | some ab =>
    obtain ⟨a, b⟩ := ab
    have h0 := ((cutB_spec 61 s).2 a b hx).1
    have h1 := hu (strip b)
    have h2 := trimB_length blank b
    have h3 : b.length ≤ s.length := by rw [h0]; simp; omega
    simp only [strip] at *
    omega
theorem d53 (d : Nat) (hd : 7 ≤ d) {hs : List (Bs × Bs)} (h : Small hs) (v : V) (H : Heap) (hw : WF H) (hr : Rd H 2 v hs.length (hcells hs)) (τ : Tape) : ∃ H' τ', Gr H.size H H' ∧ ∀ q, C N d 53 [v] H τ q = q (.agg (ctlC (parseT hs))) H' τ' := by
  obtain ⟨d, rfl⟩ : ∃ e, d = e + 1 := ⟨d - 1, by omega⟩
  exact s53_ret (C N d) N (Nat.le_of_lt hN) hs (d79 hN d (by omega)) (d95 hN d (by omega)) (d91 hN d (by omega) ccName (by decide) h) (fun s hs' => by have := splitT_small h ccName s hs'; omega) (fun s hs' => by have := splitT_small h ccName s hs'; have := pieceT_length s; omega) v H hw hr τ
theorem d30 (d : Nat) (hd : 8 ≤ d) {hs : List (Bs × Bs)} (h : Small hs) : FreshOk (C N d) hs := by
  intro a b ha hb v H hw hr τ
  obtain ⟨d, rfl⟩ : ∃ e, d = e + 1 := ⟨d - 1, by omega⟩
  exact s30_ret (C N d) N hs (d53 hN d (by omega) h) (d29 hN d (by omega) h) ha hb v H hw hr τ
theorem d28 (d : Nat) (hd : 2 ≤ d) (hs : List (Bs × Bs)) (hmb : hs.length ≤ 9223372036854775807) (nn mm : Nat) (hnn : nn ≤ 1000) (v : V) (H : Heap) (hw : WF H) (hr : Rd H 2 v hs.length (hcells hs)) (τ : Tape) :
    ∃ v' H' τ', Gr H.size H H' ∧ Own H' H.size 2 v' (fewH nn mm hs).length (hcells (fewH nn mm hs)) ∧ ∀ q, C N d 28 [v, .int .i64 (nn : Int), .int .i64 (mm : Int)] H τ q = q v' H' τ' := by
  obtain ⟨d, rfl⟩ : ∃ e, d = e + 1 := ⟨d - 1, by omega⟩
  refine s28_ret (C N d) N hN (fun s m H τ q => ?_) hs hmb nn mm hnn v H hw hr τ
  obtain ⟨d, rfl⟩ : ∃ e, d = e + 1 := ⟨d - 1, by omega⟩
  exact s14_eval (C N d) N s m H τ q
omit hN in
theorem fewH_small (hs : List (Bs × Bs)) (nn mm : Nat) (hn : nn ≤ 1000) (hm : mm ≤ 1000) : Small (fewH nn mm hs) := by
  refine ⟨by simp [fewH]; omega, fun h hh => ?_⟩
  simp only [fewH, List.mem_map] at hh
  obtain ⟨y, _, rfl⟩ := hh
  simp only [fewh, List.length_take]
  omega

/-- THE LAW 'AgeBefore', on the machine -/
theorem ageBefore_run (hs : List (Bs × Bs)) (hmb : hs.length ≤ 9223372036854775807) {a n b : Int} (ha : InI a) (hn : InI n) (hb : InI b) (v : V) (H : Heap) (hw : WF H) (hr : Rd H 2 v hs.length (hcells hs)) (τ : Tape) :
    C N 40 5 [v, .int .i64 a, .int .i64 n, .int .i64 b] H τ trueK = doneA := by
  obtain ⟨v0, H1, τ1, k1, k2, k3⟩ := d28 hN 39 (by omega) hs hmb 10 100 (by omega) v H hw hr τ
  have hS := fewH_small hs 10 100 (by omega) (by omega)
  show s5 (C N 39) N v (.int .i64 a) (.int .i64 n) (.int .i64 b) H τ trueK = doneA
  simp only [s5]
  rw [show (V.int IntKind.i64 (Int.ofNat 10)) = .int .i64 ((10 : Nat) : Int) from rfl, show (V.int IntKind.i64 (Int.ofNat 100)) = .int .i64 ((100 : Nat) : Int) from rfl, k3, bin_gtr]
  by_cases hbn : n < b
  · rw [decide_eq_true hbn, condK_t]
    obtain ⟨H', τ', e⟩ := s5_j0_ret (C N 39) N (fewH 10 100 hs) (d29 hN 39 (by omega) hS) (d30 hN 39 (by omega) hS) (d31 hN 39 (by omega)) (fun _ _ _ _ => rfl) ha hb hn (by omega) v0 H1 k1.wf k2.rd (T.set (T.set (T.set (T.set (T.set (T.set (T.set (T.set (T.set .leaf 0 v0) 1 (.int .i64 a)) 2 (.int .i64 n)) 3 (.int .i64 b)) 14 (.bool true)) 15 (.int .i64 n)) 16 (.int .i64 b)) 3 (.int .i64 n)) 2 (.int .i64 b)) (by simp [T.get_set]) (by simp [T.get_set]) (by simp [T.get_set]) (by simp [T.get_set]) τ1
    rw [e]
    rfl
  · rw [decide_eq_false hbn, condK_f]
    obtain ⟨H', τ', e⟩ := s5_j0_ret (C N 39) N (fewH 10 100 hs) (d29 hN 39 (by omega) hS) (d30 hN 39 (by omega) hS) (d31 hN 39 (by omega)) (fun _ _ _ _ => rfl) ha hn hb (by omega) v0 H1 k1.wf k2.rd (T.set (T.set (T.set (T.set (T.set .leaf 0 v0) 1 (.int .i64 a)) 2 (.int .i64 n)) 3 (.int .i64 b)) 14 (.bool false)) (by simp [T.get_set]) (by simp [T.get_set]) (by simp [T.get_set]) (by simp [T.get_set]) τ1
    rw [e]
    rfl
end

theorem cell_inv {w : World} {b o : Nat} {v : Value} (h : w.cell? ⟨b, o, none⟩ = some v) : ∃ c el fz, w.heap[b]? = some (.cells c el fz) ∧ c[o]? = some v := by
  unfold World.cell? at h
  split at h
  · rename_i c el fz hh
    exact ⟨c, el, fz, hh, by simpa using h⟩
  · cases h

theorem open_headers {P : Program} {W : World} {X : Type} {enc : TypeId × Value → X} {t e : TypeId} {f0 f1 : Field} (ht : P.underlying t = some (.slice e)) (he : P.underlying e = some (.struct #[f0, f1]))
    (ce : P.cellsOf e = 2) (o0 : f0.offset = 0) (o1 : f1.offset = 1) (c0 : P.cellsOf f0.type = 1) (c1 : P.cellsOf f1.type = 1) (s0 : P.underlying f0.type = some .string) (s1 : P.underlying f1.type = some .string)
    {v : Value} {d : DataW X} {p : List MemPlace} {base : Nat} (hval : Value.okWide P W .any base t v) (hd : DataW.Trod enc P W 0 (fun _ => true) true t v d p) (n : Nat) :
    ∃ (hs : List (Bs × Bs)) (u : V) (ent : Option (List V)) (addr : Nat × Nat), hs.length ≤ 9223372036854775807 ∧ (∀ ι : Inj, ι n = addr → cv ι u = v) ∧
      (∀ cs, ent = some cs → cs = hcells hs ∧ ∀ (ι : Inj) base, ι n = addr → BOk ι base W n cs cs.length false) ∧ (∀ H : Heap, n < H.size → VOk H u) ∧
      (∀ H : Heap, (∀ cs, ent = some cs → H.cells? n = some cs) → Rd H 2 u hs.length (hcells hs)) := by
  obtain ⟨fuel, hf⟩ := hd
  have hv1 : Cell.ok P W .any base t v := by
    unfold Value.okWide at hval
    rw [ht] at hval
    unfold Cell.okWide at hval
    rw [ht] at hval
    exact hval
  have hcl : v.cells.toList = [v] := by
    cases v <;> first | rfl | (unfold Cell.ok at hv1; rw [ht] at hv1; exact hv1.elim)
  rw [hcl] at hf
  rcases Deep.open_slice_pairs ht he ce o0 o1 c0 c1 hf with ⟨hcs, _⟩ | ⟨a, len, cap, m, k, V0, V1, D0, D1, P0, P1, hcs, _, hlc, hcm, hm, _, hall⟩
  · have : v = .slice none 0 0 := by simpa using hcs
    subst this
    exact ⟨[], .nils, none, (0, 0), by simp, fun _ _ => rfl, (fun cs h => by cases h), fun _ _ => trivial, fun _ _ => .inl ⟨.inl rfl, rfl, rfl⟩⟩
  · have : v = .slice (some a) len cap := by simpa using hcs
    subst this
    have hspot : a.spot = none := by
      unfold Cell.ok at hv1
      rw [ht] at hv1
      exact hv1.2.2.2.1
    obtain ⟨ab, ao, as⟩ := a
    simp only at hspot
    subst hspot
    have hmc : m = cap := by simpa using hm
    subst hmc
    have hstr : ∀ i, i < m → ∃ x y : Bs, W.cell? ⟨ab, ao + i * 2, none⟩ = some (.string ⟨x.toArray⟩) ∧ W.cell? ⟨ab, ao + (i * 2 + 1), none⟩ = some (.string ⟨y.toArray⟩) := by
      intro i hi
      obtain ⟨h1, h2, h3, h4⟩ := hall i hi
      obtain ⟨x, hx, _, _⟩ := DataW.trod_string s0 h3
      obtain ⟨y, hy, _, _⟩ := DataW.trod_string s1 h4
      have hx' : V0 i = .string x := by simpa using hx
      have hy' : V1 i = .string y := by simpa using hy
      refine ⟨x.data.toList, y.data.toList, ?_, ?_⟩
      · rw [← add_addr, h1, hx']
      · rw [← add_addr, h2, hy']
    obtain ⟨X0, hX⟩ : ∃ X0 : Nat → Bs × Bs, ∀ i, i < m → W.cell? ⟨ab, ao + i * 2, none⟩ = some (.string ⟨(X0 i).1.toArray⟩) ∧ W.cell? ⟨ab, ao + (i * 2 + 1), none⟩ = some (.string ⟨(X0 i).2.toArray⟩) := by
      refine ⟨fun i => if h : i < m then ((hstr i h).choose, (hstr i h).choose_spec.choose) else ([], []), fun i hi => ?_⟩
      simp only [dif_pos hi]
      exact (hstr i hi).choose_spec.choose_spec
    by_cases h0 : len = 0
    · subst h0
      refine ⟨[], .sl n 0 0 m none 2, none, (ab, ao), by simp, fun ι hι => ?_, (fun cs h => by cases h), fun H hn => ⟨hn, by simp, (fun h => by cases h)⟩, fun _ _ => .inl ⟨.inr ⟨_, _, _, _, rfl⟩, rfl, rfl⟩⟩
      simp [cv, hι]
    · have hlen : ((List.range len).map X0).length = len := by simp
      refine ⟨(List.range len).map X0, .sl n 0 len m none 2, some (hcells ((List.range len).map X0)), (ab, ao), ?_, fun ι hι => ?_, fun cs h => ?_, fun H hn => ⟨hn, by simpa using hlc, (fun h => by cases h)⟩, fun H hH => ?_⟩
      · rw [hlen]
        unfold maxLen at hcm
        omega
      · simp [cv, hι]
      · cases h
        refine ⟨rfl, fun ι base hι => ?_⟩
        obtain ⟨c, el, fz, hb, _⟩ := cell_inv (hX 0 (by omega)).1
        have hget : ∀ j (u : V), (hcells ((List.range len).map X0))[j]? = some u → c[ao + j]? = some (cv ι u) := by
          intro j u hu
          have hj : j < len * 2 := by
            have := (List.getElem?_eq_some_iff.1 hu).1
            rw [hcells_length, hlen] at this
            exact this
          have key : ∀ (l : List (Bs × Bs)) (i : Nat) (h : Bs × Bs), l[i]? = some h → (hcells l)[i * 2]? = some (.str h.1) ∧ (hcells l)[i * 2 + 1]? = some (.str h.2) := by
            intro l
            induction l with
            | nil => intro i h hi; simp at hi
            | cons x l ih =>
              intro i h hi
              cases i with
              | zero => simp at hi; subst hi; exact ⟨rfl, rfl⟩
              | succ i =>
                have := ih i h (by simpa using hi)
                rw [hcells_cons, show (i + 1) * 2 = i * 2 + 1 + 1 by omega]
                exact ⟨by simpa using this.1, by simpa using this.2⟩
          have hi : j / 2 < len := by omega
          have hx : ((List.range len).map X0)[j / 2]? = some (X0 (j / 2)) := by
            rw [List.getElem?_map, List.getElem?_range hi]; rfl
          obtain ⟨k1, k2⟩ := key _ _ _ hx
          obtain ⟨w1, w2⟩ := hX (j / 2) (by omega)
          obtain ⟨c', el', fz', hb', hc'⟩ := cell_inv w1
          obtain ⟨c'', el'', fz'', hb'', hc''⟩ := cell_inv w2
          rw [hb] at hb' hb''
          cases hb'
          cases hb''
          generalize hi' : j / 2 = i at *
          rcases Nat.mod_two_eq_zero_or_one j with hj2 | hj2
          · obtain rfl : j = i * 2 := by omega
            rw [k1] at hu
            cases hu
            exact hc'
          · obtain rfl : j = i * 2 + 1 := by omega
            rw [k2] at hu
            cases hu
            exact hc''
        refine ⟨c, el, fz.1, fz.2, by rw [hι]; exact hb, ?_, fun j u hu => by rw [hι]; exact hget j u hu, (fun h => by cases h)⟩
        rw [hι, hcells_length, hlen]
        obtain ⟨c'', el'', fz'', hb'', hc''⟩ := cell_inv (hX (len - 1) (by omega)).2
        rw [hb] at hb''
        cases hb''
        have := (Array.getElem?_eq_some_iff.1 hc'').1
        simp only
        omega
      · refine .inr ⟨n, 0, m, none, hcells ((List.range len).map X0), by rw [hlen], hH _ rfl, ?_, by rw [hcells_length]⟩
        rw [List.drop_zero, List.take_of_length_le (by rw [hcells_length]; exact Nat.le_refl _)]

end Go.Am.AmTrydAge
