/- The abstract machine, printed functions of the program, and what they are shown to be. -/
import Derived.Test.YtpigmhokjbbffaaDoorHCL0
import Derived.Test.YtpigmhokjbbffaaDoorHCM3
namespace Go.Am.X
set_option linter.unusedSimpArgs false
set_option linter.unusedVariables false
set_option linter.unusedSectionVars false
set_option maxRecDepth 100000
theorem l_strings_IndexAnyb (c : CallK) (N : Nat) (cut s : Bs) (hs : s.length < 9223372036854775807) (id : Nat) (H : Heap) (h81 : ∀ (x : UInt8) τ q, c f_asciiSet_contains [.ptr id 0, .int .u8 (x.toNat : Int)] H τ q = q (.bool (cut.contains x)) H τ) (q : KV) :
    ∀ (l pre : Bs) (fr : T V) (τ : Tape) (m : Nat), s = pre ++ l → l.length < m → fr.get 0 = some (.str s) → fr.get 6 = some (.ptr id 0) → fr.get 8 = some (.int .i64 (pre.length : Int)) →
    loopK (s_strings_IndexAny_l11 c N) m ⟨fr, H⟩ τ (blockK 0 (seqK (s_strings_IndexAny_j10 c N q) (seqK (s_strings_IndexAny_j7 c N q) (endK [(.t 4)] q)))) = q (.int .i64 (anyI cut l pre.length)) H τ := by
  intro l
  induction l with
  | nil =>
    intro pre fr τ m he hm f0 f6 f8
    obtain ⟨m, rfl⟩ : ∃ j, m = j + 1 := ⟨m - 1, by omega⟩
    have e1 : decide ((pre.length : Int) < (s.length : Int)) = false := decide_eq_false (by rw [he]; simp)
    rw [loopK_succ]
    simp only [s_strings_IndexAny_l11, getK_mk f0, getK_mk f6, getK_mk f8, lenS_mk, someK_n, bin_lss, e1, condK_fn]
    rfl
  | cons x l ih =>
    intro pre fr τ m he hm f0 f6 f8
    obtain ⟨m, rfl⟩ : ∃ j, m = j + 1 := ⟨m - 1, by omega⟩
    have hl : pre.length < s.length := by rw [he]; simp
    have e1 : decide ((pre.length : Int) < (s.length : Int)) = true := decide_eq_true (by omega)
    have e2 : pStrIndex [.str s, .int .i64 (pre.length : Int)] = some (.int .u8 (x.toNat : Int)) := strIndex_mk (by rw [he]; simp)
    have e3 : wr .i64 ((pre.length : Int) + Int.ofNat 1) = ((pre ++ [x]).length : Int) := by
      rw [wr_id (by simp; omega) (by simp; omega)]; simp
    rw [loopK_succ]
    simp only [s_strings_IndexAny_l11, getK_mk f0, getK_mk f6, getK_mk f8, lenS_mk, someK_n, bin_lss, e1, condK_tn, e2, h81]
    by_cases h : cut.contains x = true
    · rw [h, anyI, if_pos h]
      simp only [condK_tn]
      rfl
    · have h' : cut.contains x = false := by simpa using h
      rw [h', anyI, if_neg h]
      simp only [condK_fn, bin_add, e3]
      have := ih (pre ++ [x]) (T.set (T.set (T.set (T.set (T.set (T.set .leaf 0 (.str s)) 6 (.ptr id 0)) 8 (.int .i64 (pre.length : Int))) 37 (.int .i64 (pre.length : Int))) 38 (.int .i64 ((pre ++ [x]).length : Int))) 8 (.int .i64 ((pre ++ [x]).length : Int))) τ m (by rw [he]; simp) (by simp at hm; omega) (by simp [T.get_set]) (by simp [T.get_set]) (by simp [T.get_set])
      rw [show (pre ++ [x]).length = pre.length + 1 by simp] at this ⊢
      exact this
abbrev Rune92 (c : CallK) (cut : Bs) : Prop := ∀ (r : Nat) (H : Heap), WF H → ∀ τ, ∃ H', Gr H.size H H' ∧ ∀ q, c f_strings_IndexRune [.str cut, .int .i32 (r : Int)] H τ q = q (.int .i64 (if r < 128 then idxB r cut 0 else -1)) H' τ
theorem l_strings_IndexAnya (c : CallK) (N : Nat) (cut s : Bs) (ha : ∀ x ∈ cut, x.toNat < 128) (hs : s.length < 9223372036854775807) (id : Nat) (h92 : Rune92 c cut) :
    ∀ (n : Nat) (l : Bs) (pos : Nat) (H : Heap) (fr : T V) (τ : Tape) (m : Nat), s.drop pos = l → l.length ≤ n → n < m → WF H → Iter H id s pos → fr.get 1 = some (.str cut) → fr.get 45 = some (.ptr id 0) →
    ∃ H', Gr id H H' ∧ ∀ q, loopK (s_strings_IndexAny_l9 c N) m ⟨fr, H⟩ τ (blockK 2 (seqK (s_strings_IndexAny_j8 c N q) (endK [(.t 4)] q))) = q (.int .i64 (anyI cut l pos)) H' τ := by
  intro n
  induction n with
  | zero =>
    intro l pos H fr τ m hd hl hm hw it f1 f45
    obtain ⟨m, rfl⟩ : ∃ j, m = j + 1 := ⟨m - 1, by omega⟩
    have hl0 : l = [] := List.eq_nil_of_length_eq_zero (by omega)
    subst hl0
    refine ⟨H, Gr.refl hw, fun q => ?_⟩
    have e := iter_end it (by simpa using hd) τ
    have x0 : pExtract 0 [.tup [V.bool false]] = some (.bool false) := rfl
    rw [loopK_succ]
    simp only [s_strings_IndexAny_l9, getK_mk f1, getK_mk f45, e, effK_n, x0, someK_n, condK_fn]
    rfl
  | succ n ih =>
    intro l pos H fr τ m hd hl hm hw it f1 f45
    obtain ⟨m, rfl⟩ : ∃ j, m = j + 1 := ⟨m - 1, by omega⟩
    cases l with
    | nil =>
      refine ⟨H, Gr.refl hw, fun q => ?_⟩
      have e := iter_end it (by simpa using hd) τ
      have x0 : pExtract 0 [.tup [V.bool false]] = some (.bool false) := rfl
      rw [loopK_succ]
      simp only [s_strings_IndexAny_l9, getK_mk f1, getK_mk f45, e, effK_n, x0, someK_n, condK_fn]
      rfl
    | cons x l =>
      have hp : pos < s.length := by
        by_cases h : pos < s.length
        · exact h
        · rw [List.drop_eq_nil_of_le (by omega)] at hd; cases hd
      obtain ⟨H1, e, g1, it1, z1⟩ := iter_next hw it hp τ
      have hid : id < H.size := it.lt hw
      have x0 : ∀ a b d : V, pExtract 0 [.tup [a, b, d]] = some a := fun _ _ _ => rfl
      have x1 : ∀ a b d : V, pExtract 1 [.tup [a, b, d]] = some b := fun _ _ _ => rfl
      have x2 : ∀ a b d : V, pExtract 2 [.tup [a, b, d]] = some d := fun _ _ _ => rfl
      rw [hd] at e it1
      obtain ⟨H2, g2, k2⟩ := h92 (decodeR (x :: l)).1 H1 g1.wf τ
      have it2 := it1.gr g2 (by omega)
      have g12 : Gr id H H2 := g1.trans g2 (by omega)
      -- what is left to do when the rune is none of them
      have go : ∀ w, 1 ≤ w → w ≤ (x :: l).length → (decodeR (x :: l)).2 = w → (if (decodeR (x :: l)).1 < 128 then idxB (decodeR (x :: l)).1 cut 0 else -1) = -1 → anyI cut (x :: l) pos = anyI cut ((x :: l).drop w) (pos + w) →
          ∃ H', Gr id H H' ∧ ∀ q, loopK (s_strings_IndexAny_l9 c N) (m + 1) ⟨fr, H⟩ τ (blockK 2 (seqK (s_strings_IndexAny_j8 c N q) (endK [(.t 4)] q))) = q (.int .i64 (anyI cut (x :: l) pos)) H' τ := by
        intro w hw1 hw2 hw' hneg hany
        rw [hw'] at it2
        obtain ⟨H3, g3, k3⟩ := ih ((x :: l).drop w) (pos + w) H2 (T.set (T.set (T.set (T.set .leaf 1 (.str cut)) 9 (.int .i64 (pos : Int))) 45 (.ptr id 0)) 53 (.bool false)) τ m (by rw [← List.drop_drop, hd]) (by rw [List.length_drop]; simp at hl hw2 ⊢; omega) (by omega) g2.wf it2 (by simp [T.get_set]) (by simp [T.get_set])
        refine ⟨H3, g12.trans g3 (Nat.le_refl _), fun q => ?_⟩
        have ef : decide (Int.ofNat 0 ≤ (-1 : Int)) = false := rfl
        rw [loopK_succ, hany]
        simp only [s_strings_IndexAny_l9, getK_mk f1, getK_mk f45, e, effK_n, x0, x1, x2, someK_n, condK_tn, k2, hneg, bin_geq, ef, condK_fn]
        exact k3 q
      by_cases hx : x.toNat < 128
      · have hdx := dec_ascii x l hx
        by_cases hc : cut.contains x = true
        · have hi : 0 ≤ idxB x.toNat cut 0 := idxB_some _ _ _ ⟨x, by simpa using hc, rfl⟩
          have ef : decide (Int.ofNat 0 ≤ idxB x.toNat cut 0) = true := decide_eq_true hi
          refine ⟨H2, g12, fun q => ?_⟩
          rw [hdx] at k2 e
          rw [if_pos hx] at k2
          rw [loopK_succ, anyI, if_pos hc]
          simp only [s_strings_IndexAny_l9, getK_mk f1, getK_mk f45, e, effK_n, x0, x1, x2, someK_n, condK_tn, k2, bin_geq, ef]
          rfl
        · refine go 1 (by omega) (by simp) (by rw [hdx]) ?_ ?_
          · rw [hdx, if_pos hx]
            exact idxB_none _ _ _ (fun y hy h => hc (by
              have : y = x := UInt8.toNat_inj.1 h
              subst this; simpa using hy))
          · rw [anyI, if_neg hc]; rfl
      · obtain ⟨d1, d2, d3, d4⟩ := dec_high x l (by omega)
        refine go _ d2 d3 rfl ?_ ?_
        · rw [if_neg (by omega)]
        · exact anyI_skip cut ha _ _ _ d3 d4
theorem s_strings_IndexAny_ret (c : CallK) (N : Nat) (hN : 9223372036854775807 ≤ N) (cut s : Bs) (ha : ∀ x ∈ cut, x.toNat < 128) (h2 : 2 ≤ cut.length) (hs : s.length < 9223372036854775807) (h92 : Rune92 c cut)
    (h93 : ∀ (n : Int) H τ q, c f_strings_shouldUseASCIISet [.int .i64 n] H τ q = q (.bool (decide (8 < n))) H τ)
    (h60 : ∀ (H : Heap), WF H → ∀ τ, ∃ H', Gr H.size H H' ∧ ∀ q, c f_strings_makeASCIISet [.str cut] H τ q = q (.tup [.agg (mark (repl 256 [.bool false]) cut), .bool true]) H' τ)
    (h81 : ∀ (id : Nat) (H : Heap), H.cells? id = some (mark (repl 256 [.bool false]) cut) → ∀ (x : UInt8) τ q, c f_asciiSet_contains [.ptr id 0, .int .u8 (x.toNat : Int)] H τ q = q (.bool (cut.contains x)) H τ)
    (H : Heap) (hw : WF H) (τ : Tape) : ∃ H', Gr H.size H H' ∧ ∀ q, s_strings_IndexAny c N (.str s) (.str cut) H τ q = q (.int .i64 (anyI cut s 0)) H' τ := by
  have e0 : (cut == ([] : Bs)) = false := beq_eq_false_iff_ne.2 (fun h => by rw [h] at h2; simp at h2)
  have e1 : ((cut.length : Int) == Int.ofNat 1) = false := by rw [beq_eq_false_iff_ne]; intro h; simp at h; omega
  by_cases h8 : (8 : Int) < (s.length : Int)
  · have e2 : decide ((8 : Int) < (s.length : Int)) = true := decide_eq_true h8
    obtain ⟨H1, k1, k2⟩ := h60 H hw τ
    have hr : (repl 256 [V.bool false]).length = 256 := by rw [repl_length]; rfl
    have hm : (mark (repl 256 [V.bool false]) cut).length = 256 := by rw [mark_length, hr]
    have hB := Blk.new H1 (repl 256 [V.bool false]) (repl 256 [V.bool false]).length true (Nat.le_refl _)
    have hG := Gr.new k1.wf (repl 256 [V.bool false]) (repl 256 [V.bool false]).length true
    have hsc : (mark (repl 256 [V.bool false]) cut).all V.scal = true := by
      have : ∀ (l : List UInt8) (cells : List V), cells.all V.scal = true → (mark cells l).all V.scal = true := by
        intro l
        induction l with
        | nil => intro cells h; exact h
        | cons x l ih =>
          intro cells h
          refine ih _ ?_
          rw [List.all_eq_true] at h ⊢
          intro v hv
          rcases List.mem_or_eq_of_mem_set hv with hv | rfl
          · exact h v hv
          · rfl
      exact this cut _ (by rw [repl_one, List.all_eq_true]; intro v hv; rw [List.eq_of_mem_replicate hv]; rfl)
    obtain ⟨H2, m1, m2, m3, m4⟩ := hB.eStore hG.wf 0 (.agg (mark (repl 256 [.bool false]) cut)) 256 hm (by rw [hr]; omega) hsc τ
    have hcells : (repl 256 [V.bool false]).take 0 ++ (V.agg (mark (repl 256 [.bool false]) cut)).cells ++ (repl 256 [V.bool false]).drop (0 + 256) = mark (repl 256 [.bool false]) cut := by
      rw [List.take_zero, List.nil_append, V.cells, List.drop_eq_nil_of_le (by rw [hr]; omega), List.append_nil]
    rw [hcells] at m2
    refine ⟨H2, k1.trans (hG.trans m3 (Nat.le_refl _)) k1.size, fun q => ?_⟩
    have x0 : ∀ a b : V, pExtract 0 [.tup [a, b]] = some a := fun _ _ => rfl
    have x1 : ∀ a b : V, pExtract 1 [.tup [a, b]] = some b := fun _ _ => rfl
    have al : eAlloc (repl 256 [(.bool false)]) [] H1 τ = some (.ptr H1.size 0, H1.new (repl 256 [V.bool false]) (repl 256 [V.bool false]).length true, τ) := rfl
    simp only [s_strings_IndexAny, bin_str, str_eql, e0, someK_n, condK_fn, lenS_mk, bin_eql, e1, h93, e2, condK_tn, k2, x0, x1, al, effK_n, m1]
    exact l_strings_IndexAnyb c N cut s hs H1.size H2 (fun x τ q => h81 H1.size H2 m2.cells x τ q) q s [] _ τ N rfl (by omega) (by simp [T.get_set]) (by simp [T.get_set]) (by simp [T.get_set])
  · have e2 : decide ((8 : Int) < (s.length : Int)) = false := decide_eq_false h8
    obtain ⟨H1, k1, g1, it⟩ := iter_start hw s τ
    obtain ⟨H2, g2, k2⟩ := l_strings_IndexAnya c N cut s ha hs H.size h92 s.length s 0 H1 (T.set (T.set .leaf 1 (.str cut)) 45 (.ptr H.size 0)) τ N rfl (Nat.le_refl _) (by omega) g1.wf it (by simp [T.get_set]) (by simp [T.get_set])
    refine ⟨H2, g1.trans g2 (Nat.le_refl _), fun q => ?_⟩
    simp only [s_strings_IndexAny, bin_str, str_eql, e0, someK_n, condK_fn, lenS_mk, bin_eql, e1, h93, e2, condK_tn, s_strings_IndexAny_j7, getK_set, ↓reduceIte, Nat.reduceEqDiff, k1, effK_n]
    exact k2 q
/-- does a text have one of some letters -/
theorem s_strings_ContainsAny_ret (c : CallK) (N : Nat) (cut s : Bs) (H H' : Heap) (τ : Tape) (h78 : ∀ q, c f_strings_IndexAny [.str s, .str cut] H τ q = q (.int .i64 (anyI cut s 0)) H' τ) (q : KV) : s_strings_ContainsAny c N (.str s) (.str cut) H τ q = q (.bool (s.any cut.contains)) H' τ := by
  have e : decide (Int.ofNat 0 ≤ anyI cut s 0) = s.any cut.contains := anyI_iff cut s 0
  simp only [s_strings_ContainsAny, h78, bin_geq, e]
/-- a value, stripped, or none -/
def valT (s : Bs) : Bs := trimB ([9, 10, 13, 32] : Bs).contains s
def valO (s : Bs) : Bool := !(valT s).any ([0, 10, 13] : Bs).contains
def valV (s : Bs) : V := bif valO s then .tup [.str (valT s), .bool true] else .tup [.str [], .bool false]
theorem s_headers_Value_ret (c : CallK) (N : Nat) (s : Bs) (H H1 H2 : Heap) (τ τ1 τ2 : Tape) (h35 : ∀ q, c f_strings_Trim [.str s, .str (bs [9, 10, 13, 32])] H τ q = q (.str (valT s)) H1 τ1)
    (h54 : ∀ q, c f_strings_ContainsAny [.str (valT s), .str (bs [0, 10, 13])] H1 τ1 q = q (.bool ((valT s).any ([0, 10, 13] : Bs).contains)) H2 τ2) (q : KV) : s_headers_Value c N (.str s) H τ q = q (valV s) H2 τ2 := by
  simp only [s_headers_Value, h35, h54, valV, valO]
  by_cases h : (valT s).any ([0, 10, 13] : Bs).contains = true
  · rw [h]; simp only [condK_tn, Bool.not_true, cond_false]
  · have h' : (valT s).any ([0, 10, 13] : Bs).contains = false := by simpa using h
    rw [h']; simp only [condK_fn, Bool.not_false, cond_true]

def tok (x : UInt8) : Bool := (decide (97 ≤ x.toNat) && decide (x.toNat ≤ 122)) || (decide (65 ≤ x.toNat) && decide (x.toNat ≤ 90)) || (decide (48 ≤ x.toNat) && decide (x.toNat ≤ 57)) || ([33, 35, 36, 37, 38, 39, 42, 43, 45, 46, 94, 95, 96, 124, 126] : Bs).contains x
def tokT (s : Bs) : Bool := s.all tok && !s.isEmpty
theorem l_infra_Token (c : CallK) (N : Nat) (h70 : Idx70 c) (s : Bs) (hs : s.length < 9223372036854775807) (H : Heap) (q : KV) : ∀ (l pre : Bs) (fr : T V) (τ : Tape) (m : Nat), s = pre ++ l → l.length < m → fr.get 0 = some (.str s) → fr.get 7 = some (.int .i64 (s.length : Int)) → fr.get 8 = some (.int .i64 (pre.length : Int)) →
    loopK (s_infra_Token_l1 c N) m ⟨fr, H⟩ τ (blockK 0 (seqK (s_infra_Token_j0 c N q) (endK [(.t 2)] q))) = q (.bool (l.all tok && !s.isEmpty)) H τ := by
  intro l
  induction l with
  | nil =>
    intro pre fr τ m he hm f0 f7 f8
    obtain ⟨m, rfl⟩ : ∃ j, m = j + 1 := ⟨m - 1, by omega⟩
    have e1 : decide ((pre.length : Int) < (s.length : Int)) = false := decide_eq_false (by rw [he]; simp)
    have e2 : (s != ([] : Bs)) = !s.isEmpty := by cases s <;> rfl
    rw [loopK_succ]
    simp only [s_infra_Token_l1, getK_mk f0, getK_mk f7, getK_mk f8, bin_lss, e1, condK_fn, seqK, blockK, Nat.beq_refl, cond_true, s_infra_Token_j0, getK_set, ↓reduceIte, bin_str, str_neq, someK_n, e2, List.all_nil, Bool.true_and]
  | cons x l ih =>
    intro pre fr τ m he hm f0 f7 f8
    obtain ⟨m, rfl⟩ : ∃ j, m = j + 1 := ⟨m - 1, by omega⟩
    have hl : pre.length < s.length := by rw [he]; simp
    have e1 : decide ((pre.length : Int) < (s.length : Int)) = true := decide_eq_true (by omega)
    have e2 : pStrIndex [.str s, .int .i64 (pre.length : Int)] = some (.int .u8 (x.toNat : Int)) := strIndex_mk (by rw [he]; simp)
    have e3 : wr .i64 ((pre.length : Int) + Int.ofNat 1) = ((pre ++ [x]).length : Int) := by
      rw [wr_id (by simp; omega) (by simp; omega)]; simp
    have yes : tok x = true → loopK (s_infra_Token_l1 c N) m ⟨(T.set (T.set (T.set (T.set (T.set .leaf 0 (.str s)) 7 (.int .i64 (s.length : Int))) 8 (.int .i64 (pre.length : Int))) 43 (.int .i64 ((pre ++ [x]).length : Int))) 8 (.int .i64 ((pre ++ [x]).length : Int))), H⟩ τ (blockK 0 (seqK (s_infra_Token_j0 c N q) (endK [(.t 2)] q))) = q (.bool ((x :: l).all tok && !s.isEmpty)) H τ := by
      intro ht
      rw [ih (pre ++ [x]) _ τ m (by rw [he]; simp) (by simp at hm; omega) (by simp [T.get_set]) (by simp [T.get_set]) (by simp [T.get_set]), List.all_cons, ht, Bool.true_and]
    rw [loopK_succ]
    have d1 : decide (Int.ofNat 97 ≤ (x.toNat : Int)) = decide (97 ≤ x.toNat) := by rw [decide_eq_decide]; simp; omega
    have d2 : decide ((x.toNat : Int) ≤ Int.ofNat 122) = decide (x.toNat ≤ 122) := by rw [decide_eq_decide]; simp; omega
    have d3 : decide (Int.ofNat 65 ≤ (x.toNat : Int)) = decide (65 ≤ x.toNat) := by rw [decide_eq_decide]; simp; omega
    have d4 : decide ((x.toNat : Int) ≤ Int.ofNat 90) = decide (x.toNat ≤ 90) := by rw [decide_eq_decide]; simp; omega
    have d5 : decide (Int.ofNat 48 ≤ (x.toNat : Int)) = decide (48 ≤ x.toNat) := by rw [decide_eq_decide]; simp; omega
    have d6 : decide ((x.toNat : Int) ≤ Int.ofNat 57) = decide (x.toNat ≤ 57) := by rw [decide_eq_decide]; simp; omega
    have step : ∀ (a1 a2 a3 a4 a5 a6 : Bool) (ix : Int), decide (97 ≤ x.toNat) = a1 → decide (x.toNat ≤ 122) = a2 → decide (65 ≤ x.toNat) = a3 → decide (x.toNat ≤ 90) = a4 → decide (48 ≤ x.toNat) = a5 → decide (x.toNat ≤ 57) = a6 → idxB x.toNat (bs [33, 35, 36, 37, 38, 39, 42, 43, 45, 46, 94, 95, 96, 124, 126]) 0 = ix →
        s_infra_Token_l1 c N ⟨fr, H⟩ τ (seqK (fun st τ => loopK (s_infra_Token_l1 c N) m st τ (blockK 0 (seqK (s_infra_Token_j0 c N q) (endK [(.t 2)] q)))) (blockK 0 (seqK (s_infra_Token_j0 c N q) (endK [(.t 2)] q)))) =
        bif ((a1 && a2) || (a3 && a4) || (a5 && a6)) || decide (0 ≤ ix) then loopK (s_infra_Token_l1 c N) m ⟨(T.set (T.set (T.set (T.set (T.set .leaf 0 (.str s)) 7 (.int .i64 (s.length : Int))) 8 (.int .i64 (pre.length : Int))) 43 (.int .i64 ((pre ++ [x]).length : Int))) 8 (.int .i64 ((pre ++ [x]).length : Int))), H⟩ τ (blockK 0 (seqK (s_infra_Token_j0 c N q) (endK [(.t 2)] q)))
        else q (.bool false) H τ := by
      intro a1 a2 a3 a4 a5 a6 ix h1 h2 h3 h4 h5 h6 hx
      simp only [s_infra_Token_l1, getK_mk f0, getK_mk f7, getK_mk f8, bin_lss, e1, condK_tn, e2, someK_n, bin_geq, bin_leq, d1, d2, d3, d4, d5, d6, h1, h2, h3, h4, h5, h6, un_not]
      have e9 : decide (ix < Int.ofNat 0) = !decide (0 ≤ ix) := by
        by_cases h : 0 ≤ ix
        · rw [decide_eq_true h, decide_eq_false (by simp; omega)]; rfl
        · rw [decide_eq_false h, decide_eq_true (by simp; omega)]; rfl
      have fin : ∀ (b : Bool), gK (.bool b) true (fun q' => q' (.int .u8 (x.toNat : Int)) H τ) H τ (fun v51 H52 τ53 =>
          gK (.bool b) true (fun q' => c f_strings_IndexByte [(.str (bs [33, 35, 36, 37, 38, 39, 42, 43, 45, 46, 94, 95, 96, 124, 126])), v51] H52 τ53 q') H52 τ53 fun v54 H55 τ56 =>
          gK (.bool b) true (fun q' => binK .lss v54 (.int .i64 (.ofNat 0)) fun v => q' v H55 τ56) H55 τ56 fun v57 H58 τ59 =>
          someK (pPick [(.bool b), v57, (.bool false)]) fun v60 =>
          condK v60
            (seqK (fun st τ => loopK (s_infra_Token_l1 c N) m st τ (blockK 0 (seqK (s_infra_Token_j0 c N q) (endK [(.t 2)] q)))) (blockK 0 (seqK (s_infra_Token_j0 c N q) (endK [(.t 2)] q))) .ret ⟨(T.set .leaf 2 (.bool false)), H58⟩ τ59)
            (binK .add (.int .i64 (pre.length : Int)) (.int .i64 (.ofNat 1)) fun v61 =>
          seqK (fun st τ => loopK (s_infra_Token_l1 c N) m st τ (blockK 0 (seqK (s_infra_Token_j0 c N q) (endK [(.t 2)] q)))) (blockK 0 (seqK (s_infra_Token_j0 c N q) (endK [(.t 2)] q))) .normal ⟨(T.set (T.set (T.set (T.set (T.set .leaf 0 (.str s)) 7 (.int .i64 (s.length : Int))) 8 (.int .i64 (pre.length : Int))) 43 v61) 8 v61), H58⟩ τ59)) =
          bif (!b) || decide (0 ≤ ix) then loopK (s_infra_Token_l1 c N) m ⟨(T.set (T.set (T.set (T.set (T.set .leaf 0 (.str s)) 7 (.int .i64 (s.length : Int))) 8 (.int .i64 (pre.length : Int))) 43 (.int .i64 ((pre ++ [x]).length : Int))) 8 (.int .i64 ((pre ++ [x]).length : Int))), H⟩ τ (blockK 0 (seqK (s_infra_Token_j0 c N q) (endK [(.t 2)] q)))
          else q (.bool false) H τ := by
        intro b
        cases b with
        | false =>
          simp only [gK_skip, gK_none, pick_mk, cond_false, someK_n, condK_fn, bin_add, e3, Bool.not_false, Bool.true_or, cond_true]
          rfl
        | true =>
          simp only [gK_do, retK, effK_n, h70, hx, bin_lss, e9, pick_mk, cond_true, someK_n, Bool.not_true, Bool.false_or]
          cases decide (0 ≤ ix) with
          | true => simp only [Bool.not_true, condK_fn, bin_add, e3, cond_true]; rfl
          | false => simp only [Bool.not_false, condK_tn, cond_false]; rfl
      have fin' := fin (!((a1 && a2) || (a3 && a4) || (a5 && a6)))
      rw [Bool.not_not] at fin'
      rw [← fin']
      cases a1 <;> cases a2 <;> cases a3 <;> cases a4 <;> cases a5 <;> cases a6 <;> simp only [bin_geq, bin_leq, d1, d2, d3, d4, d5, d6, h1, h2, h3, h4, h5, h6, un_not, gK_do, gK_do', gK_skip, gK_skip', gK_none, retK, effK_n, pick_mk, cond_true, cond_false, someK_n, Bool.and_true, Bool.and_false, Bool.true_and, Bool.false_and, Bool.or_true, Bool.or_false, Bool.true_or, Bool.false_or, Bool.not_true, Bool.not_false]
    rw [step _ _ _ _ _ _ _ rfl rfl rfl rfl rfl rfl rfl]
    have hix : decide (0 ≤ idxB x.toNat (bs [33, 35, 36, 37, 38, 39, 42, 43, 45, 46, 94, 95, 96, 124, 126]) 0) = ([33, 35, 36, 37, 38, 39, 42, 43, 45, 46, 94, 95, 96, 124, 126] : Bs).contains x := by
      by_cases h : ([33, 35, 36, 37, 38, 39, 42, 43, 45, 46, 94, 95, 96, 124, 126] : Bs).contains x = true
      · rw [h]
        exact decide_eq_true (idxB_some _ _ _ ⟨x, List.contains_iff_mem.1 h, rfl⟩)
      · have h' : ([33, 35, 36, 37, 38, 39, 42, 43, 45, 46, 94, 95, 96, 124, 126] : Bs).contains x = false := by simpa using h
        rw [h', decide_eq_false]
        have hn : idxB x.toNat (bs [33, 35, 36, 37, 38, 39, 42, 43, 45, 46, 94, 95, 96, 124, 126]) 0 = -1 := idxB_none _ _ _ (fun y hy e => h (List.contains_iff_mem.2 (by
          have : y = x := UInt8.toNat_inj.1 e
          subst this; exact hy)))
        rw [hn]; decide
    rw [hix]
    cases ht : tok x with
    | true =>
      have : ((decide (97 ≤ x.toNat) && decide (x.toNat ≤ 122)) || (decide (65 ≤ x.toNat) && decide (x.toNat ≤ 90)) || (decide (48 ≤ x.toNat) && decide (x.toNat ≤ 57)) || ([33, 35, 36, 37, 38, 39, 42, 43, 45, 46, 94, 95, 96, 124, 126] : Bs).contains x) = true := ht
      rw [this, cond_true]
      exact yes ht
    | false =>
      have : ((decide (97 ≤ x.toNat) && decide (x.toNat ≤ 122)) || (decide (65 ≤ x.toNat) && decide (x.toNat ≤ 90)) || (decide (48 ≤ x.toNat) && decide (x.toNat ≤ 57)) || ([33, 35, 36, 37, 38, 39, 42, 43, 45, 46, 94, 95, 96, 124, 126] : Bs).contains x) = false := ht
      rw [this, cond_false, List.all_cons, ht]
      simp
theorem s_infra_Token_ret (c : CallK) (N : Nat) (hN : 9223372036854775807 ≤ N) (h70 : Idx70 c) (s : Bs) (hs : s.length < 9223372036854775807) (H : Heap) (τ : Tape) (q : KV) : s_infra_Token c N (.str s) H τ q = q (.bool (tokT s)) H τ := by
  simp only [s_infra_Token, lenS_mk, someK_n]
  exact l_infra_Token c N h70 s hs H q s [] _ τ N rfl (by omega) (by simp [T.get_set]) (by simp [T.get_set]) (by simp [T.get_set])
def mayE (n v : Bs) : Int := bif valO v && tokT n then (if 4096 < n.length ∨ 4096 < (valT v).length then 3 else 0) else 1
def mayV (n v : Bs) : V := .tup [.str (if mayE n v = 0 then valT v else []), .int .i64 (mayE n v)]
theorem s_headers_may_ret (c : CallK) (N : Nat) (n v : Bs) (H H1 : Heap) (τ τ1 : Tape) (h32 : ∀ q, c f_headers_Value [.str v] H τ q = q (valV v) H1 τ1) (h71 : ∀ q, c f_infra_Token [.str n] H1 τ1 q = q (.bool (tokT n)) H1 τ1) (q : KV) : s_headers_may c N (.str n) (.str v) H τ q = q (mayV n v) H1 τ1 := by
  have x0 : ∀ a b : V, pExtract 0 [.tup [a, b]] = some a := fun _ _ => rfl
  have x1 : ∀ a b : V, pExtract 1 [.tup [a, b]] = some b := fun _ _ => rfl
  have d : ∀ k : Nat, decide (Int.ofNat 4096 < (k : Int)) = decide (4096 < k) := fun k => by rw [decide_eq_decide]; simp; omega
  unfold mayV mayE
  simp only [s_headers_may, h32, valV]
  by_cases h1 : valO v = true
  · rw [h1]
    simp only [cond_true, x0, x1, someK_n, un_not, Bool.not_true, gK_do', retK, effK_n, h71, pick_mk, cond_false, Bool.true_and]
    by_cases h2 : tokT n = true
    · rw [h2]
      simp only [Bool.not_true, condK_fn, lenS_mk, someK_n, bin_gtr, d, cond_true]
      by_cases h3 : 4096 < n.length
      · have hm : (if 4096 < n.length ∨ 4096 < (valT v).length then (3 : Int) else 0) = 3 := if_pos (.inl h3)
        rw [decide_eq_true h3, hm]
        simp only [gK_skip', gK_none, pick_mk, cond_true, someK_n, condK_tn]
        rfl
      · rw [decide_eq_false h3]
        simp only [gK_do', retK, effK_n, lenS_mk, someK_n, bin_gtr, d, pick_mk, cond_false]
        by_cases h4 : 4096 < (valT v).length
        · have hm : (if 4096 < n.length ∨ 4096 < (valT v).length then (3 : Int) else 0) = 3 := if_pos (.inr h4)
          rw [decide_eq_true h4, hm]
          simp only [condK_tn]; rfl
        · have hm : (if 4096 < n.length ∨ 4096 < (valT v).length then (3 : Int) else 0) = 0 := if_neg (by omega)
          rw [decide_eq_false h4, hm]
          simp only [condK_fn]; rfl
    · have h2' : tokT n = false := by simpa using h2
      rw [h2']
      simp only [Bool.not_false, condK_tn]
      rfl
  · have h1' : valO v = false := by simpa using h1
    rw [h1']
    simp only [cond_false, Bool.false_and, x0, x1, someK_n, un_not, Bool.not_false, gK_skip', gK_none, pick_mk, cond_true, condK_tn]
    rfl
end Go.Am.X


namespace Go.Am.X
set_option linter.unusedSimpArgs false
set_option linter.unusedVariables false
set_option linter.unusedSectionVars false
set_option maxRecDepth 100000
abbrev Hd := Bs × Bs
def hv (h : Hd) : V := .agg [.str h.1, .str h.2]
theorem hcells_scal (hs : List Hd) : (hcells hs).all V.scal = true := by
  induction hs with
  | nil => rfl
  | cons h l ih => rw [hcells_cons]; simp only [List.all_cons, ih]; rfl
theorem hcells_drop (pre l : List Hd) : (hcells (pre ++ l)).drop (pre.length * 2) = hcells l := by
  rw [hcells_append, ← hcells_length pre, List.drop_left]
theorem hcells_at (pre : List Hd) (h : Hd) (l : List Hd) : ((hcells (pre ++ h :: l)).drop (pre.length * 2)).take 2 = [.str h.1, .str h.2] := by
  rw [hcells_drop, hcells_cons]; rfl
theorem hcells_at0 (pre : List Hd) (h : Hd) (l : List Hd) : (hcells (pre ++ h :: l))[pre.length * 2 + 0]? = some (.str h.1) := by
  rw [← List.getElem?_drop, hcells_drop, hcells_cons]; rfl
theorem hcells_at1 (pre : List Hd) (h : Hd) (l : List Hd) : (hcells (pre ++ h :: l))[pre.length * 2 + 1]? = some (.str h.2) := by
  rw [← List.getElem?_drop, hcells_drop, hcells_cons]; rfl
/-- a header in a list that is read -/
theorem hd_at {H : Heap} {v : V} (pre : List Hd) (h : Hd) (l : List Hd) (hr : Rd H 2 v (pre ++ h :: l).length (hcells (pre ++ h :: l))) :
    ∃ id o, pSlIdx 2 [v, .int .i64 (pre.length : Int)] = some (.ptr id o) ∧ ∀ H', Rd H' 2 v (pre ++ h :: l).length (hcells (pre ++ h :: l)) → lLoadN 2 [.ptr id o] H' = some (hv h) ∧ lLoad1 [.ptr id o] H' = some (.str h.1) ∧ lLoad1 [.ptr id (o + 1)] H' = some (.str h.2) := by
  obtain ⟨id, o, k1, k2⟩ := hr.at (by omega) (i := pre.length) (by simp)
  refine ⟨id, o, k1, fun H' h' => ?_⟩
  obtain ⟨q1, q2⟩ := k2 H' _ h'
  rw [hcells_at] at q1
  exact ⟨q1, q2 0 _ (by omega) (hcells_at0 _ _ _), q2 1 _ (by omega) (hcells_at1 _ _ _)⟩
/-- what is appended to a list that is not nil is not nil -/
theorem append_ne_nils {z bytes id off len lo : Nat} {ex : Option Nat} {z' : Nat} {x : V} {H H' : Heap} {τ τ' : Tape} (h : eAppend z bytes [.sl id off len lo ex z', x] H τ = some (.nils, H', τ')) : False := by
  simp only [eAppend, Am.append, fresh, Bool.cond_eq_ite] at h
  repeat' (split at h)
  all_goals first | (cases h; done) | skip
theorem s_slices_Clone_Header_ret (c : CallK) (N : Nat) (hs : List Hd) (hl : hs.length ≤ 1000000) (v : V) (H : Heap) (hw : WF H) (hr : Rd H 2 v hs.length (hcells hs)) (hsr : Src H v) (τ : Tape) :
    ∃ v' H' τ', Apd H' H.size 2 v' hs.length (hcells hs) ∧ (v' = .nils ↔ v = .nils) ∧ Gr H.size H H' ∧ ∀ q, s_slices_Clone_Header c N v H τ q = q v' H' τ' := by
  by_cases hv : v = .nils
  · subst hv
    have h0 : hs.length = 0 ∧ hcells hs = [] := by
      rcases hr with ⟨_, a, b⟩ | ⟨_, _, _, _, _, e, _⟩
      · exact ⟨a, b⟩
      · cases e
    have e1 : pEq false .slice [.nils, .nils] = some (.bool true) := rfl
    refine ⟨.nils, H, τ, ?_, Iff.rfl, Gr.refl hw, fun q => ?_⟩
    · rw [h0.1, h0.2]; exact Apd.nil _ _ _
    · simp only [s_slices_Clone_Header, e1, someK_n, condK_tn]
  · have e1 : pEq false .slice [v, .nils] = some (.bool false) := by
      rcases hr with ⟨rfl | ⟨_, _, _, _, rfl⟩, _⟩ | ⟨_, _, _, _, _, rfl, _⟩
      · exact absurd rfl hv
      · rfl
      · rfl
    have a1 : eBuildSlice 0 2 [] [] [] H τ = some (.sl H.size 0 0 0 none 2, H.new [] (0 * 2) false, τ) := rfl
    have g1 := Gr.new hw [] (0 * 2) false
    have c1 := cells_new H [] (0 * 2) false
    have o1 : Apd (H.new [] (0 * 2) false) H.size 2 (.sl H.size 0 0 0 none 2) 0 [] := .inr ⟨rfl, rfl, _, rfl, Blk.new H [] (0 * 2) false (Nat.le_refl _)⟩
    obtain ⟨v', H', τ', r1, r2, r3, _⟩ := o1.append (bytes := 32) g1.wf g1.size (hr.gr g1 hw (Nat.le_refl _)) (hsr.gr g1 hw (Nat.le_refl _)) (hcells_scal hs) (by omega) (by omega) τ
    refine ⟨v', H', τ', by simpa using r2, ⟨fun h => ?_, fun h => absurd h hv⟩, g1.trans r3 (Nat.le_refl _), fun q => ?_⟩
    · exfalso; subst h; exact append_ne_nils r1
    simp only [s_slices_Clone_Header, e1, someK_n, condK_fn, a1, effK_n, r1]
/-- an element put at a list's end -/
theorem put2 {H : Heap} {B : Nat} {v : V} {hs : List Hd} {n : Nat} (h : Apd H B 2 v n (hcells hs)) (hw : WF H) (hB : B ≤ H.size) (x : Hd) (hn : n ≤ 1000000) (τ : Tape) :
    ∃ w H1 v' H' τ', eBuildSlice 1 2 [(.str []), (.str [])] [(0, 2)] [.agg [.str x.1, .str x.2]] H τ = some (w, H1, τ) ∧ eAppend 2 32 [v, w] H1 τ = some (v', H', τ') ∧ Apd H' B 2 v' (n + 1) (hcells (hs ++ [x])) ∧ Gr B H H' ∧ (∀ id cs, H.cells? id = some cs → H'.cells? id = some cs) ∧ Gr B H H1 := by
  obtain ⟨v', H', τ', r1, r2, r3, r4⟩ := h.put (bytes := 32) hw hB [.str x.1, .str x.2] rfl rfl (by omega) (by omega) τ
  refine ⟨_, _, v', H', τ', rfl, r1, ?_, r3, r4, (Gr.new hw _ _ _).weaken hB⟩
  rw [hcells_append]; exact r2
def addE (n v : Bs) (k : Nat) : Int := if mayE n v = 0 then (if 64 ≤ k then 4 else 0) else mayE n v
theorem s_headers_Add_ret (c : CallK) (N : Nat) (hs : List Hd) (hl : hs.length ≤ 1000000) (n v : Bs) (lv : V) (H : Heap) (hw : WF H) (hr : Rd H 2 lv hs.length (hcells hs)) (hsr : Src H lv) (τ : Tape)
    (h43 : ∃ H1 τ1, Gr H.size H H1 ∧ ∀ q, c f_headers_may [.str n, .str v] H τ q = q (mayV n v) H1 τ1)
    (h44 : ∀ (H : Heap), WF H → Rd H 2 lv hs.length (hcells hs) → Src H lv → ∀ τ, ∃ v' H' τ', Apd H' H.size 2 v' hs.length (hcells hs) ∧ (v' = .nils ↔ lv = .nils) ∧ Gr H.size H H' ∧ ∀ q, c f_slices_Clone_Header [lv] H τ q = q v' H' τ') :
    ∃ r H' τ', Gr H.size H H' ∧ (addE n v hs.length = 0 → Apd H' H.size 2 r (hs.length + 1) (hcells (hs ++ [(n, valT v)]))) ∧ (addE n v hs.length ≠ 0 → r = .nils) ∧ ∀ q, s_headers_Add c N lv (.str n) (.str v) H τ q = q (.tup [r, .int .i64 (addE n v hs.length)]) H' τ' := by
  obtain ⟨H1, τ1, g1, k1⟩ := h43
  have x0 : ∀ a b : V, pExtract 0 [.tup [a, b]] = some a := fun _ _ => rfl
  have x1 : ∀ a b : V, pExtract 1 [.tup [a, b]] = some b := fun _ _ => rfl
  have pl := hr.pLen
  unfold addE
  unfold mayV at k1
  generalize mayE n v = e at k1 ⊢
  by_cases he : e = 0
  · subst he
    have e1 : ((0 : Int) == Int.ofNat 0) = true := rfl
    have e2 : ((0 : Int) != Int.ofNat 0) = false := rfl
    rw [if_pos rfl] at k1 ⊢
    by_cases h64 : 64 ≤ hs.length
    · have e3 : decide (Int.ofNat 64 ≤ (hs.length : Int)) = true := decide_eq_true (by simp; omega)
      have e4 : (Int.ofNat 4 != Int.ofNat 0) = true := rfl
      rw [if_pos h64]
      refine ⟨.nils, H1, τ1, g1, fun h => absurd h (by decide), fun _ => rfl, fun q => ?_⟩
      simp only [s_headers_Add, k1, x0, x1, someK_n, bin_eql, e1, gK_do, retK, effK_n, pl, bin_geq, e3, pick_mk, cond_true, condK_tn, s_headers_Add_j0, getK_set, ↓reduceIte, Nat.reduceEqDiff, bin_neq, e4]
      rfl
    · have e3 : decide (Int.ofNat 64 ≤ (hs.length : Int)) = false := decide_eq_false (by simp; omega)
      rw [if_neg h64]
      obtain ⟨v2, H2, τ2, o2, _, g2, k2⟩ := h44 H1 g1.wf (hr.gr g1 hw (Nat.le_refl _)) (hsr.gr g1 hw (Nat.le_refl _)) τ1
      obtain ⟨w, H3, v4, H4, τ4, m1, m2, m3, m4, _⟩ := put2 o2 g2.wf g2.size (n, valT v) hl τ2
      have pb : pBuild [(.str []), (.str [])] [(0, 1), (1, 1)] [.str n, .str (valT v)] = some (.agg [.str n, .str (valT v)]) := rfl
      refine ⟨v4, H4, τ4, (g1.trans g2 g1.size).trans m4 g1.size, fun _ => ?_, fun h => absurd rfl h, fun q => ?_⟩
      · rcases m3 with m3 | ⟨h0, _⟩
        · refine .inl ?_
          rcases m3 with h | ⟨id, e, room, fam, ver, pl, st, fr, h1, h2, h3, h4, h5, h6, h7⟩
          · exact .inl h
          · exact .inr ⟨id, e, room, fam, ver, pl, st, fr, h1, h2, h3, h4, Nat.le_trans g1.size h5, Nat.le_trans g1.size h6, h7⟩
        · omega
      · simp only [s_headers_Add, k1, x0, x1, someK_n, bin_eql, e1, gK_do, retK, effK_n, pl, bin_geq, e3, pick_mk, cond_true, condK_fn, s_headers_Add_j0, getK_set, ↓reduceIte, Nat.reduceEqDiff, bin_neq, e2, k2, pb, m1, m2]
        rfl
  · have e1 : (e == Int.ofNat 0) = false := by rw [beq_eq_false_iff_ne]; exact he
    have e2 : (e != Int.ofNat 0) = true := by rw [bne_iff_ne]; exact he
    rw [if_neg he] at k1 ⊢
    refine ⟨.nils, H1, τ1, g1, fun h => absurd h he, fun _ => rfl, fun q => ?_⟩
    simp only [s_headers_Add, k1, x0, x1, someK_n, bin_eql, e1, gK_skip, gK_none, pick_mk, cond_false, condK_fn, s_headers_Add_j0, getK_set, ↓reduceIte, Nat.reduceEqDiff, bin_neq, e2, condK_tn]
def named (name : Bs) (h : Hd) : Bool := lower h.1 == lower name
def findI (name : Bs) : List Hd → Nat → Int
  | [], _ => -1
  | h :: l, i => bif named name h then (i : Int) else findI name l (i + 1)
def IsF (c : CallK) (g b : Nat) (name : Bs) : Prop := ∀ (h : Hd), h.1.length ≤ 140737488355328 → ∀ (H : Heap), WF H → H.cells? b = some [.str name] → ∀ τ, ∃ H' τ', Gr H.size H H' ∧ ∀ q, c g [hv h, .ptr b 0] H τ q = q (.bool (named name h)) H' τ'
abbrev Is45 (c : CallK) (name : Bs) : Prop := ∀ (h : Hd), h.1.length ≤ 140737488355328 → ∀ (H : Heap), WF H → ∀ τ, ∃ H' τ', Gr H.size H H' ∧ ∀ q, c f_headers_is [hv h, .str name] H τ q = q (.bool (named name h)) H' τ'
theorem s_headers_Drop_1_ret (c : CallK) (N : Nat) (b : Nat) (name : Bs) (h45 : Is45 c name) (h : Hd) (hh : h.1.length ≤ 140737488355328) (H : Heap) (hw : WF H) (hb : H.cells? b = some [.str name]) (τ : Tape) :
    ∃ H' τ', Gr H.size H H' ∧ (∀ q, s_headers_Drop_1 c N (hv h) (.ptr b 0) H τ q = q (.bool (named name h)) H' τ') ∧ (∀ q, s_headers_Set_1 c N (hv h) (.ptr b 0) H τ q = q (.bool (named name h)) H' τ') := by
  have a1 : eBox [hv h] H τ = some (.ptr H.size 0, H.new [.str h.1, .str h.2] 2 true, τ) := rfl
  have g1 := Gr.new hw [.str h.1, .str h.2] 2 true
  have c1 := cells_new H [.str h.1, .str h.2] 2 true
  have b1 := g1.cells hw (Nat.le_refl _) hb
  generalize H.new [.str h.1, .str h.2] 2 true = H1 at a1 g1 c1 b1
  have l1 : lLoadN 2 [.ptr H.size 0] H1 = some (hv h) := load_cells c1 (by simp)
  have l2 : lLoad1 [.ptr b 0] H1 = some (.str name) := load_cell b1 rfl
  obtain ⟨H2, τ2, g2, k2⟩ := h45 h hh H1 g1.wf τ
  exact ⟨H2, τ2, g1.trans g2 g1.size, fun q => by simp only [s_headers_Drop_1, a1, effK_n, l1, l2, someK_n, k2], fun q => by simp only [s_headers_Set_1, a1, effK_n, l1, l2, someK_n, k2]⟩
theorem l_slices_IndexFunc_Header (c : CallK) (N : Nat) (g b : Nat) (name : Bs) (hf : IsF c g b name) (hs : List Hd) (hl : hs.length ≤ 1000000) (hsz : ∀ h ∈ hs, h.1.length ≤ 140737488355328) (lv : V) :
    ∀ (l pre : List Hd) (H : Heap) (fr : T V) (τ : Tape) (m : Nat), hs = pre ++ l → l.length < m → WF H → Rd H 2 lv hs.length (hcells hs) → H.cells? b = some [.str name] →
    fr.get 0 = some lv → fr.get 1 = some (.func g [] [.ptr b 0]) → fr.get 7 = some (.int .i64 (hs.length : Int)) → fr.get 8 = some (.int .i64 (pre.length : Int)) →
    ∃ H' τ', Gr H.size H H' ∧ ∀ q, loopK (s_slices_IndexFunc_Header_l1 c N) m ⟨fr, H⟩ τ (blockK 0 (seqK (s_slices_IndexFunc_Header_j0 c N q) (endK [(.t 4)] q))) = q (.int .i64 (findI name l pre.length)) H' τ' := by
  intro l
  induction l with
  | nil =>
    intro pre H fr τ m he hm hw hr hb f0 f1 f7 f8
    obtain ⟨m, rfl⟩ : ∃ j, m = j + 1 := ⟨m - 1, by omega⟩
    refine ⟨H, τ, Gr.refl hw, fun q => ?_⟩
    have e1 : decide ((pre.length : Int) < (hs.length : Int)) = false := decide_eq_false (by rw [he]; simp)
    rw [loopK_succ]
    simp only [s_slices_IndexFunc_Header_l1, getK_mk f0, getK_mk f1, getK_mk f7, getK_mk f8, bin_lss, e1, condK_fn]
    rfl
  | cons h l ih =>
    intro pre H fr τ m he hm hw hr hb f0 f1 f7 f8
    obtain ⟨m, rfl⟩ : ∃ j, m = j + 1 := ⟨m - 1, by omega⟩
    have hlt : pre.length < hs.length := by rw [he]; simp
    have e1 : decide ((pre.length : Int) < (hs.length : Int)) = true := decide_eq_true (by omega)
    have e3 : wr .i64 ((pre.length : Int) + Int.ofNat 1) = ((pre ++ [h]).length : Int) := by
      rw [wr_id (by simp; omega) (by simp; omega)]; simp
    obtain ⟨id, o, p1, p2⟩ := hd_at (v := lv) pre h l (H := H) (by rw [← he]; exact hr)
    obtain ⟨q1, _, _⟩ := p2 H (by rw [← he]; exact hr)
    obtain ⟨H1, τ1, g1, k1⟩ := hf h (hsz h (by rw [he]; simp)) H hw hb τ
    have kv : ∀ q, opK c .callv [.func g [] [.ptr b 0], hv h] H τ q = q (.bool (named name h)) H1 τ1 := k1
    by_cases hn : named name h = true
    · refine ⟨H1, τ1, g1, fun q => ?_⟩
      rw [loopK_succ, findI, hn, cond_true]
      simp only [s_slices_IndexFunc_Header_l1, getK_mk f0, getK_mk f1, getK_mk f7, getK_mk f8, bin_lss, e1, condK_tn, p1, q1, someK_n, kv, hn]
      rfl
    · have hn' : named name h = false := by simpa using hn
      obtain ⟨H2, τ2, g2, k2⟩ := ih (pre ++ [h]) H1 (T.set (T.set (T.set (T.set (T.set (T.set .leaf 0 lv) 1 (.func g [] [.ptr b 0])) 7 (.int .i64 (hs.length : Int))) 8 (.int .i64 (pre.length : Int))) 18 (.int .i64 ((pre ++ [h]).length : Int))) 8 (.int .i64 ((pre ++ [h]).length : Int))) τ1 m
        (by rw [he]; simp) (by simp at hm; omega) g1.wf (hr.gr g1 hw (Nat.le_refl _)) (g1.cells hw (Nat.le_refl _) hb) (by simp [T.get_set]) (by simp [T.get_set]) (by simp [T.get_set]) (by simp [T.get_set])
      refine ⟨H2, τ2, g1.trans g2 g1.size, fun q => ?_⟩
      rw [loopK_succ, findI, hn', cond_false]
      simp only [s_slices_IndexFunc_Header_l1, getK_mk f0, getK_mk f1, getK_mk f7, getK_mk f8, bin_lss, e1, condK_tn, p1, q1, someK_n, kv, hn', condK_fn, bin_add, e3]
      rw [show pre.length + 1 = (pre ++ [h]).length by simp]
      exact k2 q
theorem s_slices_IndexFunc_Header_ret (c : CallK) (N : Nat) (hN : 9223372036854775807 ≤ N) (g b : Nat) (name : Bs) (hf : IsF c g b name) (hs : List Hd) (hl : hs.length ≤ 1000000) (hsz : ∀ h ∈ hs, h.1.length ≤ 140737488355328) (lv : V) (H : Heap) (hw : WF H)
    (hr : Rd H 2 lv hs.length (hcells hs)) (hb : H.cells? b = some [.str name]) (τ : Tape) : ∃ H' τ', Gr H.size H H' ∧ ∀ q, s_slices_IndexFunc_Header c N lv (.func g [] [.ptr b 0]) H τ q = q (.int .i64 (findI name hs 0)) H' τ' := by
  obtain ⟨H', τ', g', k⟩ := l_slices_IndexFunc_Header c N g b name hf hs hl hsz lv hs [] H (T.set (T.set (T.set (T.set .leaf 0 lv) 1 (.func g [] [.ptr b 0])) 7 (.int .i64 (hs.length : Int))) 8 (.int .i64 (.ofNat 0))) τ N rfl (by omega) hw hr hb (by simp [T.get_set]) (by simp [T.get_set]) (by simp [T.get_set]) (by simp [T.get_set])
  refine ⟨H', τ', g', fun q => ?_⟩
  simp only [s_slices_IndexFunc_Header, hr.pLen, someK_n]
  exact k q
theorem findI_spec (name : Bs) : ∀ (l : List Hd) (i : Nat), (findI name l i = -1 ∧ ∀ h ∈ l, named name h = false) ∨ ∃ a h r, l = a ++ h :: r ∧ (∀ x ∈ a, named name x = false) ∧ named name h = true ∧ findI name l i = ((i + a.length : Nat) : Int) := by
  intro l
  induction l with
  | nil => intro i; exact .inl ⟨rfl, fun h hh => by simp at hh⟩
  | cons h l ih =>
    intro i
    by_cases hn : named name h = true
    · refine .inr ⟨[], h, l, rfl, fun x hx => by simp at hx, hn, ?_⟩
      rw [findI, hn]; rfl
    · have hn' : named name h = false := by simpa using hn
      rcases ih (i + 1) with ⟨h1, h2⟩ | ⟨a, x, r, h1, h2, h3, h4⟩
      · refine .inl ⟨by rw [findI, hn']; exact h1, fun x hx => ?_⟩
        rcases List.mem_cons.1 hx with rfl | hx
        · exact hn'
        · exact h2 x hx
      · refine .inr ⟨h :: a, x, r, by rw [h1]; rfl, fun y hy => ?_, h3, ?_⟩
        · rcases List.mem_cons.1 hy with rfl | hy
          · exact hn'
          · exact h2 y hy
        · rw [findI, hn', cond_false, h4]; simp; omega
end Go.Am.X


