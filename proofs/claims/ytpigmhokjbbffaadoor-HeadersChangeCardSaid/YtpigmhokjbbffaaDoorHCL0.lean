/- The abstract machine, printed functions of the program, and what they are shown to be. -/
import Derived.Test.YtpigmhokjbbffaaDoorHCSh2
import Derived.Test.YtpigmhokjbbffaaDoorHCM3
import Derived.Deep.SlicePairs
import Derived.ChangeSlices
import Derived.SizedLaws
import Derived.Test.YtpigmhokjbbffaaDoorHCM2
namespace Go.Am.X
set_option linter.unusedSimpArgs false
set_option linter.unusedVariables false
set_option linter.unusedSectionVars false

theorem u8_lt (x : UInt8) : x.toNat < 256 := x.toNat_lt

theorem s81_eval (c : CallK) (N : Nat) {id : Nat} {cells : List V} {x : UInt8} {b : Bool} {H : Heap} (hc : H.cells? id = some cells) (hx : cells[x.toNat]? = some (.bool b)) (τ : Tape) (q : KV) :
    s_asciiSet_contains c N (.ptr id 0) (.int .u8 (x.toNat : Int)) H τ q = q (.bool b) H τ := by
  have e1 : Nat.blt x.toNat 256 = true := by have := u8_lt x; simp [Nat.blt]; omega
  simp only [s_asciiSet_contains, pNilck, someK_mk, pArrIdx, natOf_nat, e1, cond_true, Nat.mul_one, Nat.zero_add, load_cell hc hx]

theorem trimL_loop (c : CallK) (N : Nat) {id : Nat} {H : Heap} (p : UInt8 → Bool) (h171 : ∀ (x : UInt8) τ q, c f_asciiSet_contains [.ptr id 0, .int .u8 (x.toNat : Int)] H τ q = q (.bool (p x)) H τ) (k : KC) :
    ∀ (s : List UInt8) (n : Nat) (fr : T V) (τ : Tape), s.length < n → fr.get 0 = some (.str s) → fr.get 1 = some (.ptr id 0) → loopK (s_strings_trimLeftASCII_l1 c N) n ⟨fr, H⟩ τ k = k (.exit 0) ⟨T.set .leaf 0 (.str (s.dropWhile p)), H⟩ τ := by
  intro s
  induction s with
  | nil =>
    intro n fr τ hn h0 h1
    obtain ⟨n, rfl⟩ : ∃ m, n = m + 1 := ⟨n - 1, by simp at hn; omega⟩
    rw [loopK_succ]
    simp only [s_strings_trimLeftASCII_l1, getK_mk h0, getK_mk h1, lenS_mk, someK_mk, bin_gtr]
    rfl
  | cons x s ih =>
    intro n fr τ hn h0 h1
    obtain ⟨n, rfl⟩ : ∃ m, n = m + 1 := ⟨n - 1, by simp at hn; omega⟩
    rw [loopK_succ]
    have e1 : decide (Int.ofNat 0 < ((x :: s).length : Int)) = true := decide_eq_true (by first | (simp; done) | (simp; omega) | omega)
    have e2 : pStrIndex [.str (x :: s), .int .i64 (.ofNat 0)] = some (.int .u8 (x.toNat : Int)) := rfl
    have e3 : pStrSlice true false [.str (x :: s), .int .i64 (.ofNat 1)] = some (.str s) := strSlice_lo (s := x :: s) (i := 1) (by simp)
    simp only [s_strings_trimLeftASCII_l1, getK_mk h0, getK_mk h1, lenS_mk, someK_mk, bin_gtr, e1, condK_t, e2, h171, un_not]
    cases hp : p x with
    | false => simp [condK_bool, hp, seqK]
    | true =>
      simp only [Bool.not_true, condK_f, e3, someK_mk, seqK]
      rw [ih n _ τ (by simp at hn; omega) (by simp [T.get_set]) (by simp [T.get_set])]
      simp [hp]

theorem trimR_loop (c : CallK) (N : Nat) {id : Nat} {H : Heap} (p : UInt8 → Bool) (h171 : ∀ (x : UInt8) τ q, c f_asciiSet_contains [.ptr id 0, .int .u8 (x.toNat : Int)] H τ q = q (.bool (p x)) H τ) (k : KC) :
    ∀ (r : List UInt8) (n : Nat) (fr : T V) (τ : Tape), r.length < 9223372036854775807 → r.length < n → fr.get 0 = some (.str r.reverse) → fr.get 1 = some (.ptr id 0) → loopK (s_strings_trimRightASCII_l1 c N) n ⟨fr, H⟩ τ k = k (.exit 0) ⟨T.set .leaf 0 (.str (r.dropWhile p).reverse), H⟩ τ := by
  intro r
  induction r with
  | nil =>
    intro n fr τ hb hn h0 h1
    obtain ⟨n, rfl⟩ : ∃ m, n = m + 1 := ⟨n - 1, by simp at hn; omega⟩
    rw [loopK_succ]
    simp only [s_strings_trimRightASCII_l1, getK_mk h0, getK_mk h1, lenS_mk, someK_mk, bin_gtr]
    rfl
  | cons x s ih =>
    intro n fr τ hb hn h0 h1
    obtain ⟨n, rfl⟩ : ∃ m, n = m + 1 := ⟨n - 1, by simp at hn; omega⟩
    rw [loopK_succ]
    have hlen : ((x :: s).reverse.length : Int) = (s.length : Int) + 1 := by simp
    have e1 : decide (Int.ofNat 0 < ((x :: s).reverse.length : Int)) = true := decide_eq_true (by rw [hlen]; first | (simp; done) | (simp; omega))
    have e0 : wr .i64 (((x :: s).reverse.length : Int) - Int.ofNat 1) = (s.length : Int) := by
      rw [hlen, wr_id (by first | (simp; done) | (simp; omega) | omega) (by simp at hb; first | (simp; done) | (simp; omega) | omega)]
      simp
    have e2 : pStrIndex [.str (x :: s).reverse, .int .i64 (s.length : Int)] = some (.int .u8 (x.toNat : Int)) := strIndex_mk (by simp)
    have e3 : pStrSlice false true [.str (x :: s).reverse, .int .i64 (s.length : Int)] = some (.str s.reverse) := by
      rw [strSlice_hi (by simp)]
      simp
    simp only [s_strings_trimRightASCII_l1, getK_mk h0, getK_mk h1, lenS_mk, someK_mk, bin_gtr, e1, condK_t, bin_sub, e0, e2, h171, un_not]
    cases hp : p x with
    | false => simp [condK_bool, hp, seqK]
    | true =>
      simp only [Bool.not_true, condK_f, e3, someK_mk, seqK]
      rw [ih n _ τ (by simp at hb; omega) (by simp at hn; omega) (by simp [T.get_set]) (by simp [T.get_set])]
      simp [hp]

def mark (cells : List V) (l : List UInt8) : List V := l.foldl (fun cells x => cells.set x.toNat (.bool true)) cells
theorem mark_length (l : List UInt8) : ∀ cells : List V, (mark cells l).length = cells.length := by
  induction l with
  | nil => intro cells; rfl
  | cons x l ih => intro cells; exact (ih _).trans (by simp)
theorem mark_get (l : List UInt8) : ∀ (cells : List V) (x : UInt8), cells.length = 256 → (∀ i, i < 256 → ∃ b, cells[i]? = some (.bool b)) → ∀ b, cells[x.toNat]? = some (.bool b) → (mark cells l)[x.toNat]? = some (.bool (b || l.contains x)) := by
  induction l with
  | nil => intro cells x _ _ b hb; simpa [mark] using hb
  | cons y l ih =>
    intro cells x hl hc b hb
    have hx := u8_lt x
    have hy := u8_lt y
    have := ih (cells.set y.toNat (.bool true)) x (by simpa using hl) (fun i hi => by
      by_cases e : y.toNat = i
      · exact ⟨true, by rw [e]; simp [hl, hi]⟩
      · obtain ⟨b, hb⟩ := hc i hi
        exact ⟨b, by rw [List.getElem?_set_ne e]; exact hb⟩) (if x = y then true else b) (by
      by_cases e : x = y
      · subst e; simp [hl, hx]
      · rw [if_neg e, List.getElem?_set_ne (fun h => e (UInt8.toNat_inj.1 h.symm))]; exact hb)
    rw [show mark cells (y :: l) = mark (cells.set y.toNat (.bool true)) l from rfl, this]
    by_cases e : x = y
    · simp [e]
    · simp [e]

theorem set_loop (c : CallK) (N : Nat) {B id : Nat} (k : KC) (l : List UInt8) : ∀ (pre : List UInt8) (cells : List V) (n : Nat) (fr : T V) (H : Heap) (τ : Tape), WF H → Blk H B id cells → cells.length = 256 → (∀ x ∈ l, x.toNat < 128) → (pre ++ l).length < 9223372036854775807 → l.length < n →
    fr.get 0 = some (.str (pre ++ l)) → fr.get 2 = some (.ptr id 0) → fr.get 4 = some (.int .i64 (pre.length : Int)) →
    ∃ H', Blk H' B id (mark cells l) ∧ Gr B H H' ∧ H'.size = H.size ∧ loopK (s_strings_makeASCIISet_l1 c N) n ⟨fr, H⟩ τ k = k (.exit 0) ⟨T.set .leaf 2 (.ptr id 0), H'⟩ τ := by
  induction l with
  | nil =>
    intro pre cells n fr H τ hw hB hl hs hb hn h0 h2 h4
    obtain ⟨n, rfl⟩ : ∃ m, n = m + 1 := ⟨n - 1, by simp at hn; omega⟩
    refine ⟨H, hB, Gr.refl hw, rfl, ?_⟩
    rw [loopK_succ]
    simp only [s_strings_makeASCIISet_l1, getK_mk h0, getK_mk h2, getK_mk h4, lenS_mk, someK_mk, bin_lss, List.append_nil]
    simp [condK_bool, seqK]
  | cons x l ih =>
    intro pre cells n fr H τ hw hB hl hs hb hn h0 h2 h4
    obtain ⟨n, rfl⟩ : ∃ m, n = m + 1 := ⟨n - 1, by simp at hn; omega⟩
    have hx := hs x (by simp)
    obtain ⟨H1, k1, k2, k3, k4⟩ := hB.eStore hw x.toNat (.bool true) 1 rfl (by omega) rfl τ
    have hcells : cells.take x.toNat ++ (V.bool true).cells ++ cells.drop (x.toNat + 1) = cells.set x.toNat (.bool true) := by
      rw [List.set_eq_take_append_cons_drop, if_pos (by omega)]
      simp [V.cells]
    rw [hcells] at k2
    have e1 : decide ((pre.length : Int) < ((pre ++ x :: l).length : Int)) = true := decide_eq_true (by first | (simp; done) | (simp; omega) | omega)
    have e2 : pStrIndex [.str (pre ++ x :: l), .int .i64 (pre.length : Int)] = some (.int .u8 (x.toNat : Int)) := strIndex_mk (by simp)
    have e3 : decide (Int.ofNat 128 ≤ (x.toNat : Int)) = false := decide_eq_false (by first | (simp; done) | (simp; omega) | omega)
    have e4 : pArrIdx 256 1 [.ptr id 0, .int .u8 (x.toNat : Int)] = some (.ptr id x.toNat) := by
      have : Nat.blt x.toNat 256 = true := by simp [Nat.blt]; omega
      simp [pArrIdx, natOf_nat, this]
    have e5 : wr .i64 ((pre.length : Int) + Int.ofNat 1) = ((pre ++ [x]).length : Int) := by
      rw [wr_id (by first | (simp; done) | (simp; omega) | omega) (by simp at hb; first | (simp; done) | (simp; omega) | omega)]
      simp
    obtain ⟨H', m1, m2, m3, m4⟩ := ih (pre ++ [x]) (cells.set x.toNat (.bool true)) n (T.set (T.set (T.set (T.set (T.set (T.set .leaf 0 (.str (pre ++ x :: l))) 2 (.ptr id 0)) 4 (.int .i64 (pre.length : Int))) 10 (.int .i64 (pre.length : Int))) 11 (.int .i64 ((pre ++ [x]).length : Int))) 4 (.int .i64 ((pre ++ [x]).length : Int))) H1 τ k3.wf k2 (by simpa using hl) (fun y hy => hs y (by simp [hy])) (by simpa using hb) (by simp at hn; omega) (by simp [T.get_set]) (by simp [T.get_set]) (by simp [T.get_set])
    refine ⟨H', m1, k3.trans m2 (Nat.le_refl _), by omega, ?_⟩
    rw [loopK_succ]
    simp only [s_strings_makeASCIISet_l1, getK_mk h0, getK_mk h2, getK_mk h4, lenS_mk, someK_mk, bin_lss, e1, condK_t, e2, bin_geq, e3, condK_f, e4, k1, effK_mk, bin_add, e5, seqK, m4]
theorem s_strings_makeASCIISet_ret (c : CallK) (N : Nat) (hN : 9223372036854775807 ≤ N) (l : List UInt8) (hs : ∀ x ∈ l, x.toNat < 128) (hb : l.length < 9223372036854775807) (H : Heap) (hw : WF H) (τ : Tape) (q : KV) :
    ∃ H', Gr H.size H H' ∧ s_strings_makeASCIISet c N (.str l) H τ q = q (.tup [.agg (mark (repl 256 [.bool false]) l), .bool true]) H' τ := by
  have hr : (repl 256 [V.bool false]).length = 256 := by rw [repl_length]; rfl
  have hB := Blk.new H (repl 256 [V.bool false]) (repl 256 [V.bool false]).length true (Nat.le_refl _)
  have hG := Gr.new hw (repl 256 [V.bool false]) (repl 256 [V.bool false]).length true
  obtain ⟨H1, k1, k2, k3, k4⟩ := set_loop c N (blockK 0 (seqK (s_strings_makeASCIISet_j0 c N q) (endK [(.cell 2 (some 256)), (.t 3)] q))) l [] _ N (T.set (T.set (T.set .leaf 0 (.str l)) 2 (.ptr H.size 0)) 4 (.int .i64 0)) _ τ hG.wf hB hr hs (by simpa using hb) (by omega) (by simp [T.get_set]) (by simp [T.get_set]) (by simp [T.get_set])
  have hm : (mark (repl 256 [V.bool false]) l).length = 256 := by rw [mark_length, hr]
  have hsc : ∀ (cells : List V), cells.all V.scal = true → (mark cells l).all V.scal = true := by
    intro cells
    have : ∀ (l : List UInt8) (cells : List V), cells.all V.scal = true → (mark cells l).all V.scal = true := by
      intro l
      induction l with
      | nil => intro cells h; exact h
      | cons x l ih =>
        intro cells h
        refine ih _ ?_
        rw [List.all_eq_true] at h ⊢
        intro v hv
        rcases List.mem_or_eq_of_mem_set hv with hv | rfl
        · exact h v hv
        · rfl
    exact this l cells
  obtain ⟨H2, m1, m2, m3, m4⟩ := k1.eStore k2.wf 0 (.agg (mark (repl 256 [.bool false]) l)) 256 hm (by rw [hm]; omega) (hsc _ (by rw [repl_one, List.all_eq_true]; intro v hv; rw [List.eq_of_mem_replicate hv]; rfl)) τ
  have hcells : (mark (repl 256 [V.bool false]) l).take 0 ++ (V.agg (mark (repl 256 [.bool false]) l)).cells ++ (mark (repl 256 [V.bool false]) l).drop (0 + 256) = mark (repl 256 [.bool false]) l := by
    rw [List.take_zero, List.nil_append, V.cells, List.drop_eq_nil_of_le (by rw [hm]; omega), List.append_nil]
  rw [hcells] at m2
  have htake : ((mark (repl 256 [V.bool false]) l).drop 0).take 256 = mark (repl 256 [.bool false]) l := by
    rw [List.drop_zero, List.take_of_length_le (by rw [hm]; omega)]
  refine ⟨H2, hG.trans (k2.trans m3 (Nat.le_refl _)) (Nat.le_refl _), ?_⟩
  have e1 : lLoadN 256 [.ptr H.size 0] H1 = some (.agg (mark (repl 256 [.bool false]) l)) := by
    rw [load_cells k1.cells (by rw [hm]; omega), htake]
  have e2 : lLoadN 256 [.ptr H.size 0] H2 = some (.agg (mark (repl 256 [.bool false]) l)) := by
    rw [load_cells m2.cells (by rw [hm]; omega), htake]
  simp only [s_strings_makeASCIISet, eAlloc, effK_mk]
  rw [show (V.int IntKind.i64 (Int.ofNat 0)) = .int .i64 0 from rfl, k4]
  simp only [blockK, Nat.beq_refl, cond_true, seqK, s_strings_makeASCIISet_j0]
  simp only [getK_set, ↓reduceIte, Nat.reduceEqDiff]
  rw [e1, someK_mk, m1, effK_mk]
  simp only [results, resAll, resOf, T.get_set, evalL, lLoad]
  simp only [show (3 : Nat) = 2 ↔ False by decide, if_true, if_false]
  simp [e2, someK]

/-- a text without the bytes of a set at its ends -/
def trimB (p : UInt8 → Bool) (s : List UInt8) : List UInt8 := ((s.reverse.dropWhile p).reverse).dropWhile p

theorem s_strings_Trim_ret (c : CallK) (N : Nat) (hN : 9223372036854775807 ≤ N) (cut s : List UInt8) (hc2 : 2 ≤ cut.length) (hc3 : cut.length < 9223372036854775807) (hs : s.length < 9223372036854775807) (H : Heap) (hw : WF H)
    (h142 : ∀ (H : Heap), WF H → ∀ τ q, ∃ H', Gr H.size H H' ∧ c f_strings_makeASCIISet [.str cut] H τ q = q (.tup [.agg (mark (repl 256 [.bool false]) cut), .bool true]) H' τ)
    (h143 : ∀ (s : List UInt8) (id : Nat) (H : Heap), s.length < 9223372036854775807 → H.cells? id = some (mark (repl 256 [.bool false]) cut) → ∀ τ q, c f_strings_trimLeftASCII [.str s, .ptr id 0] H τ q = q (.str (s.dropWhile cut.contains)) H τ)
    (h144 : ∀ (s : List UInt8) (id : Nat) (H : Heap), s.length < 9223372036854775807 → H.cells? id = some (mark (repl 256 [.bool false]) cut) → ∀ τ q, c f_strings_trimRightASCII [.str s, .ptr id 0] H τ q = q (.str (s.reverse.dropWhile cut.contains).reverse) H τ)
    (τ : Tape) (q : KV) : ∃ H', Gr H.size H H' ∧ s_strings_Trim c N (.str s) (.str cut) H τ q = q (.str (trimB cut.contains s)) H' τ := by
  cases s with
  | nil =>
    refine ⟨H, Gr.refl hw, ?_⟩
    simp [s_strings_Trim, bin_str, str_eql, someK_mk, gK_skip', pPick, condK_t, trimB, gK]
  | cons x s =>
    obtain ⟨H1, k1, k2⟩ := h142 H hw τ (fun v28 H29 τ30 =>
      someK (pExtract 0 [v28]) fun v31 =>
      someK (pExtract 1 [v28]) fun v32 =>
      effK (eAlloc (repl 256 [(.bool false)]) [] H29 τ30) fun v33 H34 τ35 =>
      effK (eStore 256 [v33, v31] H34 τ35) fun v36 H37 τ38 =>
      condK v32
        (c f_strings_trimRightASCII [.str (x :: s), v33] H37 τ38 fun v39 H40 τ41 =>
      c f_strings_trimLeftASCII [v39, v33] H40 τ41 fun v42 H43 τ44 =>
      q v42 H43 τ44)
        (c f_strings_trimRightUnicode [.str (x :: s), .str cut] H37 τ38 fun v45 H46 τ47 =>
      c f_strings_trimLeftUnicode [v45, .str cut] H46 τ47 fun v48 H49 τ50 =>
      q v48 H49 τ50))
    have hr : (repl 256 [V.bool false]).length = 256 := by rw [repl_length]; rfl
    have hm : (mark (repl 256 [V.bool false]) cut).length = 256 := by rw [mark_length, hr]
    have hB := Blk.new H1 (repl 256 [V.bool false]) (repl 256 [V.bool false]).length true (Nat.le_refl _)
    have hG := Gr.new k1.wf (repl 256 [V.bool false]) (repl 256 [V.bool false]).length true
    have hsc : (mark (repl 256 [V.bool false]) cut).all V.scal = true := by
      have : ∀ (l : List UInt8) (cells : List V), cells.all V.scal = true → (mark cells l).all V.scal = true := by
        intro l
        induction l with
        | nil => intro cells h; exact h
        | cons x l ih =>
          intro cells h
          refine ih _ ?_
          rw [List.all_eq_true] at h ⊢
          intro v hv
          rcases List.mem_or_eq_of_mem_set hv with hv | rfl
          · exact h v hv
          · rfl
      exact this cut _ (by rw [repl_one, List.all_eq_true]; intro v hv; rw [List.eq_of_mem_replicate hv]; rfl)
    obtain ⟨H2, m1, m2, m3, m4⟩ := hB.eStore hG.wf 0 (.agg (mark (repl 256 [.bool false]) cut)) 256 hm (by rw [hr]; omega) hsc τ
    have hcells : (repl 256 [V.bool false]).take 0 ++ (V.agg (mark (repl 256 [.bool false]) cut)).cells ++ (repl 256 [V.bool false]).drop (0 + 256) = mark (repl 256 [.bool false]) cut := by
      rw [List.take_zero, List.nil_append, V.cells, List.drop_eq_nil_of_le (by rw [hr]; omega), List.append_nil]
    rw [hcells] at m2
    refine ⟨H2, k1.trans (hG.trans m3 (Nat.le_refl _)) k1.size, ?_⟩
    have e1 : ((x :: s) == ([] : List UInt8)) = false := rfl
    have e2 : (cut == ([] : List UInt8)) = false := by cases cut with
      | nil => simp at hc2
      | cons _ _ => rfl
    have e3 : ((cut.length : Int) == Int.ofNat 1) = false := by simp; omega
    simp only [s_strings_Trim, bin_str, str_eql, someK_mk, e1, gK, retK, effK_mk, e2, beq_self_eq_true, cond_true, pick_mk, cond_false, condK_f, lenS_mk, bin_eql, e3, Bool.false_eq_true, show (false == true) = false from rfl]
    rw [k2]
    simp only [pExtract, List.getElem?_cons_zero, List.getElem?_cons_succ, someK_mk, eAlloc, effK_mk, m1, condK_t]
    rw [h144 _ _ _ hs m2.cells, h143 _ _ _ (by
      have := (List.dropWhile_sublist (l := (x :: s).reverse) cut.contains).length_le
      simp only [List.length_reverse] at this ⊢
      omega) m2.cells]
    rfl
def lowB (x : UInt8) : UInt8 := if 65 ≤ x.toNat ∧ x.toNat ≤ 90 then UInt8.ofNat (x.toNat + 32) else x
def lower (s : List UInt8) : List UInt8 := s.map lowB
def bv (s : List UInt8) : List V := s.map fun c => .int .u8 (c.toNat : Int)
theorem bytesOf_bv (s : List UInt8) : bytesOf (bv s) = some s := by
  induction s with
  | nil => rfl
  | cons x s ih => simp only [bv, List.map_cons, bytesOf] at ih ⊢; rw [ih]; simp
theorem bv_length (s : List UInt8) : (bv s).length = s.length := by simp [bv]

theorem s69_eval (c : CallK) (N : Nat) (x : UInt8) (H : Heap) (τ : Tape) (q : KV) : s_infra_Lower_1 c N (.int .u8 (x.toNat : Int)) H τ q = q (.int .u8 ((lowB x).toNat : Int)) H τ := by
  have hx := u8_lt x
  by_cases h1 : 65 ≤ x.toNat
  · have e1 : decide (Int.ofNat 65 ≤ (x.toNat : Int)) = true := decide_eq_true (by first | (simp; done) | (simp; omega) | omega)
    by_cases h2 : x.toNat ≤ 90
    · have e2 : decide ((x.toNat : Int) ≤ Int.ofNat 90) = true := decide_eq_true (by first | (simp; done) | (simp; omega) | omega)
      have e3 : wr .u8 ((x.toNat : Int) + Int.ofNat 32) = ((lowB x).toNat : Int) := by
        rw [wr_eq]
        simp only [lowB, h1, h2, and_self, if_true, IntKind.wrap, IntKind.signed, IntKind.bits]
        simp <;> omega
      simp only [s_infra_Lower_1, bin_geq, e1, gK_do, effK_mk, retK, bin_leq, e2, someK_mk, pick_mk, cond_true, condK_t, bin_add, e3, s_infra_Lower_1_j0]
      simp only [getK_set, ↓reduceIte, Nat.reduceEqDiff]
    · have e2 : decide ((x.toNat : Int) ≤ Int.ofNat 90) = false := decide_eq_false (by first | (simp; done) | (simp; omega) | omega)
      have e3 : lowB x = x := by simp [lowB, h2]
      simp only [s_infra_Lower_1, bin_geq, e1, gK_do, effK_mk, retK, bin_leq, e2, someK_mk, pick_mk, cond_true, condK_f, s_infra_Lower_1_j0]
      simp only [getK_set, ↓reduceIte, Nat.reduceEqDiff]
      rw [e3]
  · have e1 : decide (Int.ofNat 65 ≤ (x.toNat : Int)) = false := decide_eq_false (by first | (simp; done) | (simp; omega) | omega)
    have e3 : lowB x = x := by simp [lowB, h1]
    simp only [s_infra_Lower_1, bin_geq, e1, gK_skip, someK_mk, pick_mk, cond_false, condK_f, s_infra_Lower_1_j0]
    simp only [getK_set, ↓reduceIte, Nat.reduceEqDiff]
    rw [e3]

theorem low_loop (c : CallK) (N : Nat) {B id e m : Nat} (k : KC) (h121 : ∀ (x : UInt8) H τ q, c f_infra_Lower_1 [.int .u8 (x.toNat : Int)] H τ q = q (.int .u8 ((lowB x).toNat : Int)) H τ) (l : List UInt8) :
    ∀ (pre : List UInt8) (n : Nat) (fr : T V) (H : Heap) (τ : Tape), WF H → Blk H B id (bv (lower pre ++ l)) → (pre ++ l).length = m → m < 9223372036854775807 → l.length < n →
    fr.get 1 = some (.func f_infra_Lower_1 [] []) → fr.get 5 = some (.sl id 0 m m (some e) 1) → fr.get 10 = some (.sl id 0 m m (some e) 1) → fr.get 11 = some (.int .i64 (m : Int)) → fr.get 12 = some (.int .i64 (pre.length : Int)) →
    ∃ H', Blk H' B id (bv (lower (pre ++ l))) ∧ Gr B H H' ∧ loopK (s_infra_mapped_l1 c N) n ⟨fr, H⟩ τ k = k (.exit 0) ⟨T.set .leaf 5 (.sl id 0 m m (some e) 1), H'⟩ τ := by
  induction l with
  | nil =>
    intro pre n fr H τ hw hB hm hmb hn h1 h5 h10 h11 h12
    obtain ⟨n, rfl⟩ : ∃ j, n = j + 1 := ⟨n - 1, by simp at hn; omega⟩
    refine ⟨H, by simpa using hB, Gr.refl hw, ?_⟩
    have e1 : decide ((pre.length : Int) < (m : Int)) = false := decide_eq_false (by simp at hm; omega)
    rw [loopK_succ]
    simp only [s_infra_mapped_l1, getK_mk h1, getK_mk h5, getK_mk h10, getK_mk h11, getK_mk h12, bin_lss, e1, condK_f, seqK]
  | cons x l ih =>
    intro pre n fr H τ hw hB hm hmb hn h1 h5 h10 h11 h12
    obtain ⟨n, rfl⟩ : ∃ j, n = j + 1 := ⟨n - 1, by simp at hn; omega⟩
    have hlt : pre.length < m := by simp at hm; omega
    have e1 : decide ((pre.length : Int) < (m : Int)) = true := decide_eq_true (by omega)
    have e2 : pSlIdx 1 [.sl id 0 m m (some e) 1, .int .i64 (pre.length : Int)] = some (.ptr id pre.length) := by
      have : Nat.blt pre.length m = true := by simp [Nat.blt]; omega
      simp [pSlIdx, natOf_nat, this]
    have e3 : lLoad1 [.ptr id pre.length] H = some (.int .u8 (x.toNat : Int)) := by
      refine load_cell hB.cells ?_
      have : pre.length = (bv (lower pre)).length := by simp [bv, lower]
      simp [bv, lower]
    obtain ⟨H1, k1, k2, k3, k4⟩ := hB.eStore hw pre.length (.int .u8 ((lowB x).toNat : Int)) 1 rfl (by simp [bv, lower]) rfl τ
    have hcells : (bv (lower pre ++ x :: l)).take pre.length ++ (V.int .u8 ((lowB x).toNat : Int)).cells ++ (bv (lower pre ++ x :: l)).drop (pre.length + 1) = bv (lower (pre ++ [x]) ++ l) := by
      have hl : pre.length = (lower pre).length := by simp [lower]
      simp only [bv, List.map_append, List.map_cons]
      rw [List.take_append_of_le_length (by simp [lower]), List.take_of_length_le (by simp [lower]), List.drop_append]
      simp [lower, V.cells]
    rw [hcells] at k2
    have e5 : wr .i64 ((pre.length : Int) + Int.ofNat 1) = ((pre ++ [x]).length : Int) := by
      rw [wr_id (by first | (simp; done) | (simp; omega) | omega) (by first | (simp; done) | (simp; omega) | omega)]
      simp
    obtain ⟨H', m1, m2, m3⟩ := ih (pre ++ [x]) n (T.set (T.set (T.set (T.set (T.set (T.set (T.set .leaf 1 (.func f_infra_Lower_1 [] [])) 5 (.sl id 0 m m (some e) 1)) 10 (.sl id 0 m m (some e) 1)) 11 (.int .i64 (m : Int))) 12 (.int .i64 (pre.length : Int))) 23 (.int .i64 ((pre ++ [x]).length : Int))) 12 (.int .i64 ((pre ++ [x]).length : Int))) H1 τ k3.wf k2 (by simpa using hm) hmb (by simp at hn; omega) (by simp [T.get_set]) (by simp [T.get_set]) (by simp [T.get_set]) (by simp [T.get_set]) (by simp [T.get_set])
    refine ⟨H', by simpa using m1, k3.trans m2 (Nat.le_refl _), ?_⟩
    rw [loopK_succ]
    simp only [s_infra_mapped_l1, getK_mk h1, getK_mk h5, getK_mk h10, getK_mk h11, getK_mk h12, bin_lss, e1, condK_t, e2, someK_mk, e3, opK, List.nil_append, List.append_nil, h121, k1, effK_mk, bin_add, e5, seqK, m3]

theorem s_infra_mapped_ret (c : CallK) (N : Nat) (hN : 9223372036854775807 ≤ N) (s : List UInt8) (hs : s.length ≤ 140737488355328) (H : Heap) (hw : WF H)
    (h121 : ∀ (x : UInt8) H τ q, c f_infra_Lower_1 [.int .u8 (x.toNat : Int)] H τ q = q (.int .u8 ((lowB x).toNat : Int)) H τ) (τ : Tape) (q : KV) :
    ∃ H' τ', Gr H.size H H' ∧ s_infra_mapped c N (.str s) (.func f_infra_Lower_1 [] []) H τ q = q (.str (lower s)) H' τ' := by
  have hB := Blk.new H (bv s) ((s.length + spare s.length (τ 0)) * 1) false (by rw [bv_length]; omega)
  have hG := Gr.new hw (bv s) ((s.length + spare s.length (τ 0)) * 1) false
  obtain ⟨H', m1, m2, m3⟩ := low_loop c N (e := spare s.length (τ 0)) (m := s.length) (blockK 0 (seqK (s_infra_mapped_j0 c N q) (endK [(.t 4)] q))) h121 s [] N (T.set (T.set (T.set (T.set (T.set .leaf 1 (.func f_infra_Lower_1 [] [])) 5 (.sl H.size 0 s.length s.length (some (spare s.length (τ 0))) 1)) 10 (.sl H.size 0 s.length s.length (some (spare s.length (τ 0))) 1)) 11 (.int .i64 (s.length : Int))) 12 (.int .i64 0)) _ τ.tail hG.wf (by simpa [lower] using hB) (by simp) (by omega) (by omega) (by simp [T.get_set]) (by simp [T.get_set]) (by simp [T.get_set]) (by simp [T.get_set]) (by simp [T.get_set])
  refine ⟨H', τ.tail, hG.trans m2 (Nat.le_refl _), ?_⟩
  have e1 : eStrBytes [.str s] H τ = some (.sl H.size 0 s.length s.length (some (spare s.length (τ 0))) 1, H.new (bv s) ((s.length + spare s.length (τ 0)) * 1) false, τ.tail) := by
    simp only [eStrBytes, Nat.ble_eq_true_of_le hs, cond_true, fresh]
    rfl
  have e2 : pLen [.sl H.size 0 s.length s.length (some (spare s.length (τ 0))) 1] = some (.int .i64 (s.length : Int)) := rfl
  have e3 : lBytesStr [.sl H.size 0 s.length s.length (some (spare s.length (τ 0))) 1] H' = some (.str (lower s)) := by
    have hl : (bv (lower ([] ++ s))).length = s.length := by simp [bv, lower]
    simp only [lBytesStr, loads_cells m1.cells (show 0 + s.length ≤ _ by rw [hl]; omega), List.drop_zero]
    rw [List.take_of_length_le (by rw [hl]; omega)]
    simp [bytesOf_bv]
  simp only [s_infra_mapped, e1, effK_mk, e2, someK_mk]
  rw [show (V.int IntKind.i64 (Int.ofNat 0)) = .int .i64 0 from rfl, m3]
  simp only [blockK, Nat.beq_refl, cond_true, seqK, s_infra_mapped_j0]
  simp only [getK_set, ↓reduceIte, Nat.reduceEqDiff]
  rw [e3, someK_mk]
abbrev Bs := List UInt8
abbrev LowOk (c : CallK) : Prop := ∀ (s : Bs), s.length ≤ 140737488355328 → ∀ (H : Heap), WF H → ∀ τ q, ∃ H' τ', Gr H.size H H' ∧ c f_infra_Lower [.str s] H τ q = q (.str (lower s)) H' τ'

theorem s_headers_is_ret (c : CallK) (N : Nat) (h92 : LowOk c) (n v name : Bs) (hn : n.length ≤ 140737488355328) (hm : name.length ≤ 140737488355328) (H : Heap) (hw : WF H) (τ : Tape) (q : KV) :
    ∃ H' τ', Gr H.size H H' ∧ s_headers_is c N (.agg [.str n, .str v]) (.str name) H τ q = q (.bool (lower n == lower name)) H' τ' := by
  have hG := Gr.new hw [V.str n, V.str v] 2 true
  have hB := Blk.new H [V.str n, V.str v] 2 true (Nat.le_refl _)
  obtain ⟨H2, τ2, k1, k2⟩ := h92 n hn _ hG.wf τ (fun v5 H6 τ7 => c f_infra_Lower [.str name] H6 τ7 fun v8 H9 τ10 => binK .eql v5 v8 fun v11 => q v11 H9 τ10)
  obtain ⟨H3, τ3, m1, m2⟩ := h92 name hm _ k1.wf τ2 (fun v8 H9 τ10 => binK .eql (.str (lower n)) v8 fun v11 => q v11 H9 τ10)
  refine ⟨H3, τ3, hG.trans (k1.trans m1 k1.size) hG.size, ?_⟩
  have e1 : eBox [.agg [.str n, .str v]] H τ = some (.ptr H.size 0, H.new [.str n, .str v] 2 true, τ) := rfl
  have e2 : lLoad1 [.ptr H.size 0] (H.new [.str n, .str v] 2 true) = some (.str n) := load_cell hB.cells rfl
  simp only [s_headers_is, e1, effK_mk, pFieldAddr, Nat.add_zero, someK_mk, e2, k2, m2, bin_str, str_eql]

def hcells (l : List (Bs × Bs)) : List V := l.flatMap fun h => [.str h.1, .str h.2]
theorem hcells_cons (h : Bs × Bs) (l : List (Bs × Bs)) : hcells (h :: l) = .str h.1 :: .str h.2 :: hcells l := rfl
theorem hcells_append (a b : List (Bs × Bs)) : hcells (a ++ b) = hcells a ++ hcells b := by simp [hcells]
theorem hcells_length (l : List (Bs × Bs)) : (hcells l).length = l.length * 2 := by
  induction l with
  | nil => rfl
  | cons h l ih => rw [hcells_cons]; simp only [List.length_cons, ih]; omega

abbrev TrimOk (c : CallK) (cut : Bs) : Prop := ∀ (s : Bs), s.length < 9223372036854775807 → ∀ (H : Heap), WF H → ∀ τ q, ∃ H', Gr H.size H H' ∧ c f_strings_Trim [.str s, .str cut] H τ q = q (.str (trimB cut.contains s)) H' τ

theorem trimB_length (p : UInt8 → Bool) (s : Bs) : (trimB p s).length ≤ s.length := by
  unfold trimB
  have h1 := (List.dropWhile_sublist (l := (s.reverse.dropWhile p).reverse) p).length_le
  have h2 := (List.dropWhile_sublist (l := s.reverse) p).length_le
  simp only [List.length_reverse] at h1 h2
  omega
end Go.Am.X



namespace Go.Am.X
open Go Go.ChangeShapes Go.WideShapes Go.RowKit
set_option linter.unusedSimpArgs false
set_option linter.unusedVariables false
theorem cell_invH {w : World} {b o : Nat} {v : Value} (h : w.cell? ⟨b, o, none⟩ = some v) : ∃ c el fz, w.heap[b]? = some (.cells c el fz) ∧ c[o]? = some v := by
  unfold World.cell? at h
  split at h
  · rename_i c el fz hh
    exact ⟨c, el, fz, hh, by simpa using h⟩
  · cases h
theorem shape_invH {w : World} {b : Nat} {x : TypeId × Nat} (h : w.shape? b = some x) : ∃ c el fz, w.heap[b]? = some (.cells c el fz) := by
  unfold World.shape? at h
  split at h
  · rename_i c el fz hh
    exact ⟨c, el, fz, hh⟩
  · cases h
theorem weightsAll_mem {X : Type} (P : Program) (e : TypeId) : ∀ (l : List (DataW X)) (d : DataW X), d ∈ l → ∀ x ∈ d.weights P e, x ∈ DataW.weightsAll P e l := by
  intro l
  induction l with
  | nil => intro d h; simp at h
  | cons a l ih =>
    intro d h x hx
    simp only [DataW.weightsAll, List.mem_append]
    rcases List.mem_cons.1 h with rfl | h
    · exact .inl hx
    · exact .inr (ih d h x hx)
theorem weightsEach_le {X : Type} {P : Program} {ts : List TypeId} {ds : List (DataW X)} (h : (DataW.weightsEach P ts ds).all (· ≤ reachBytes) = true) {j : Nat} {t : TypeId} {d : DataW X} (ht : ts[j]? = some t) (hd : ds[j]? = some d) : ∀ x ∈ d.weights P t, x ≤ reachBytes := by
  intro x hx
  have := List.all_eq_true.1 h _ (DataW.weights_mem_each ht hd x hx)
  simpa using this
theorem open_headersZ {P : Program} {W : World} {X : Type} {enc : TypeId × Value → X} {t e : TypeId} {f0 f1 : Field} (ht : P.underlying t = some (.slice e)) (he : P.underlying e = some (.struct #[f0, f1]))
    (ce : P.cellsOf e = 2) (o0 : f0.offset = 0) (o1 : f1.offset = 1) (c0 : P.cellsOf f0.type = 1) (c1 : P.cellsOf f1.type = 1) (s0 : P.underlying f0.type = some .string) (s1 : P.underlying f1.type = some .string)
    {v : Value} {d : DataW X} {p : List MemPlace} {base : Nat} (hval : Value.okWide P W .any base t v) (hd : DataW.Trod enc P W 0 (fun _ => true) true t v d p) (hwt : ∀ x ∈ d.weights P t, x ≤ reachBytes) (n : Nat) :
    ∃ (hs : List (Bs × Bs)) (u : V) (ent : Option (List V)) (addr : Nat × Nat), hs.length ≤ 9223372036854775807 ∧ (∀ h ∈ hs, h.1.length ≤ 140737488351232 ∧ h.2.length ≤ 140737488351232) ∧ (∀ ι : Inj, ι n = addr → cv ι u = v) ∧
      (∀ cs, ent = some cs → cs = hcells hs ∧ ∀ (ι : Inj) base, ι n = addr → BOk ι base W n cs cs.length false) ∧ (∀ H : Heap, n < H.size → VOk H u) ∧
      (∀ H : Heap, (∀ cs, ent = some cs → H.cells? n = some cs) → Rd H 2 u hs.length (hcells hs) ∧ Src H u) := by
  obtain ⟨fuel, hf⟩ := hd
  have hv1 : Cell.ok P W .any base t v := by
    unfold Value.okWide at hval
    rw [ht] at hval
    unfold Cell.okWide at hval
    rw [ht] at hval
    exact hval
  have hcl : v.cells.toList = [v] := by
    cases v <;> first | rfl | (unfold Cell.ok at hv1; rw [ht] at hv1; exact hv1.elim)
  rw [hcl] at hf
  rcases Deep.open_slice_pairs ht he ce o0 o1 c0 c1 hf with ⟨hcs, _⟩ | ⟨a, len, cap, m, k, V0, V1, D0, D1, P0, P1, hcs, _, hlc, hcm, hm, hxd, hall⟩
  · have : v = .slice none 0 0 := by simpa using hcs
    subst this
    exact ⟨[], .nils, none, (0, 0), by simp, (fun h hh => by simp at hh), fun _ _ => rfl, (fun cs h => by cases h), fun _ _ => trivial, fun _ _ => ⟨.inl ⟨.inl rfl, rfl, rfl⟩, trivial⟩⟩
  · have : v = .slice (some a) len cap := by simpa using hcs
    subst this
    have hhas := hv1
    unfold Cell.ok at hhas
    rw [ht] at hhas
    have hspot : a.spot = none := hhas.2.2.2.1
    obtain ⟨row, cells, hsh, _⟩ := hhas.2.2.2.2
    obtain ⟨ab, ao, as⟩ := a
    simp only at hspot hsh
    subst hspot
    obtain ⟨c0', el0, fz0, hb0⟩ := shape_invH hsh
    have hmc : m = cap := by simpa using hm
    subst hmc
    have hstr : ∀ i, i < m → ∃ x y : Bs, W.cell? ⟨ab, ao + i * 2, none⟩ = some (.string ⟨x.toArray⟩) ∧ W.cell? ⟨ab, ao + (i * 2 + 1), none⟩ = some (.string ⟨y.toArray⟩) ∧ D0 i = .lit (.string x) ∧ D1 i = .lit (.string y) := by
      intro i hi
      obtain ⟨h1, h2, h3, h4⟩ := hall i hi
      obtain ⟨x, hx, hx3, _⟩ := DataW.trod_string s0 h3
      obtain ⟨y, hy, hy3, _⟩ := DataW.trod_string s1 h4
      have hx' : V0 i = .string x := by simpa using hx
      have hy' : V1 i = .string y := by simpa using hy
      refine ⟨x.data.toList, y.data.toList, ?_, ?_, congrArg Prod.fst hx3, congrArg Prod.fst hy3⟩
      · rw [← add_addr, h1, hx']
      · rw [← add_addr, h2, hy']
    obtain ⟨X0, hX⟩ : ∃ X0 : Nat → Bs × Bs, ∀ i, i < m → W.cell? ⟨ab, ao + i * 2, none⟩ = some (.string ⟨(X0 i).1.toArray⟩) ∧ W.cell? ⟨ab, ao + (i * 2 + 1), none⟩ = some (.string ⟨(X0 i).2.toArray⟩) ∧ D0 i = .lit (.string (X0 i).1) ∧ D1 i = .lit (.string (X0 i).2) := by
      refine ⟨fun i => if h : i < m then ((hstr i h).choose, (hstr i h).choose_spec.choose) else ([], []), fun i hi => ?_⟩
      simp only [dif_pos hi]
      exact (hstr i hi).choose_spec.choose_spec
    by_cases h0 : len = 0
    · subst h0
      refine ⟨[], .sl n ao 0 m none 2, some [], (ab, 0), by simp, (fun h hh => by simp at hh), fun ι hι => ?_, (fun cs h => ?_), fun H hn => ⟨hn, by simp, (fun h => by cases h)⟩, fun H hH => ⟨.inl ⟨.inr ⟨_, _, _, _, rfl⟩, rfl, rfl⟩, ⟨[], hH _ rfl⟩⟩⟩
      · simp [cv, hι]
      · cases h
        exact ⟨rfl, fun ι base hι => ⟨c0', el0, fz0.1, fz0.2, by rw [hι]; exact hb0, by rw [hι]; simp, fun j u hu => by simp at hu, fun h => by cases h⟩⟩
    · have hlen : ((List.range len).map X0).length = len := by simp
      refine ⟨(List.range len).map X0, .sl n 0 len m none 2, some (hcells ((List.range len).map X0)), (ab, ao), ?_, ?_, fun ι hι => ?_, fun cs h => ?_, fun H hn => ⟨hn, by simpa using hlc, (fun h => by cases h)⟩, fun H hH => ?_⟩
      · rw [hlen]
        unfold maxLen at hcm
        omega
      · intro h hh
        obtain ⟨i, hi, rfl⟩ := List.mem_map.1 hh
        have hi := List.mem_range.1 hi
        obtain ⟨_, _, z1, z2⟩ := hX i (by omega)
        have hdd : d = .slice ((List.range len).map fun i => .agg [D0 i, D1 i]) ((List.range (m - len)).map fun j => .agg [D0 (len + j), D1 (len + j)]) := congrArg Prod.fst hxd
        have hmem : (DataW.agg [D0 i, D1 i] : DataW X) ∈ (List.range len).map fun i => DataW.agg [D0 i, D1 i] := List.mem_map.2 ⟨i, List.mem_range.2 hi, rfl⟩
        have hall2 := weightsAll_mem P e _ _ hmem
        have key : ∀ x, x ∈ (DataW.agg [D0 i, D1 i] : DataW X).weights P e → x ≤ reachBytes := by
          intro x hx
          refine hwt x ?_
          rw [hdd]
          simp only [DataW.weights, ht, List.mem_cons, List.mem_append]
          exact .inr (.inl (hall2 x hx))
        have kw : (DataW.agg [D0 i, D1 i] : DataW X).weights P e = [(X0 i).1.length, (X0 i).2.length] := by
          simp [DataW.weights, he, DataW.weightsEach, z1, z2]
        rw [kw] at key
        have a1 := key _ (by simp : (X0 i).1.length ∈ _)
        have a2 := key _ (by simp : (X0 i).2.length ∈ _)
        unfold reachBytes at a1 a2
        exact ⟨a1, a2⟩
      · simp [cv, hι]
      · cases h
        refine ⟨rfl, fun ι base hι => ?_⟩
        obtain ⟨c, el, fz, hb, _⟩ := cell_invH (hX 0 (by omega)).1
        have hget : ∀ j (u : V), (hcells ((List.range len).map X0))[j]? = some u → c[ao + j]? = some (cv ι u) := by
          intro j u hu
          have hj : j < len * 2 := by
            have := (List.getElem?_eq_some_iff.1 hu).1
            rw [hcells_length, hlen] at this
            exact this
          have key : ∀ (l : List (Bs × Bs)) (i : Nat) (h : Bs × Bs), l[i]? = some h → (hcells l)[i * 2]? = some (.str h.1) ∧ (hcells l)[i * 2 + 1]? = some (.str h.2) := by
            intro l
            induction l with
            | nil => intro i h hi; simp at hi
            | cons x l ih =>
              intro i h hi
              cases i with
              | zero => simp at hi; subst hi; exact ⟨rfl, rfl⟩
              | succ i =>
                have := ih i h (by simpa using hi)
                rw [hcells_cons, show (i + 1) * 2 = i * 2 + 1 + 1 by omega]
                exact ⟨by simpa using this.1, by simpa using this.2⟩
          have hi : j / 2 < len := by omega
          have hx : ((List.range len).map X0)[j / 2]? = some (X0 (j / 2)) := by
            rw [List.getElem?_map, List.getElem?_range hi]; rfl
          obtain ⟨k1, k2⟩ := key _ _ _ hx
          obtain ⟨w1, w2, _, _⟩ := hX (j / 2) (by omega)
          obtain ⟨c', el', fz', hb', hc'⟩ := cell_invH w1
          obtain ⟨c'', el'', fz'', hb'', hc''⟩ := cell_invH w2
          rw [hb] at hb' hb''
          cases hb'
          cases hb''
          generalize hi' : j / 2 = i at *
          rcases Nat.mod_two_eq_zero_or_one j with hj2 | hj2
          · obtain rfl : j = i * 2 := by omega
            rw [k1] at hu
            cases hu
            exact hc'
          · obtain rfl : j = i * 2 + 1 := by omega
            rw [k2] at hu
            cases hu
            exact hc''
        refine ⟨c, el, fz.1, fz.2, by rw [hι]; exact hb, ?_, fun j u hu => by rw [hι]; exact hget j u hu, (fun h => by cases h)⟩
        rw [hι, hcells_length, hlen]
        obtain ⟨c'', el'', fz'', hb'', hc''⟩ := cell_invH (hX (len - 1) (by omega)).2.1
        rw [hb] at hb''
        cases hb''
        have := (Array.getElem?_eq_some_iff.1 hc'').1
        simp only
        omega
      · refine ⟨.inr ⟨n, 0, m, none, hcells ((List.range len).map X0), by rw [hlen], hH _ rfl, ?_, by rw [hcells_length]⟩, ⟨_, hH _ rfl⟩⟩
        rw [List.drop_zero, List.take_of_length_le (by rw [hcells_length]; exact Nat.le_refl _)]
end Go.Am.X


namespace Go.Am.X
set_option linter.unusedSimpArgs false
end Go.Am.X


namespace Go.Am.X
set_option linter.unusedSimpArgs false
set_option linter.unusedVariables false
theorem s_law5_h_ret (c : CallK) (N : Nat) (a b : Bs) (H : Heap) (hw : WF H) (τ : Tape) : ∃ H', Gr H.size H H' ∧ ∀ q, s_law5_h c N (.str a) (.str b) H τ q = q (.agg [.str a, .str b]) H' τ := by
  have a1 : eAlloc [(.str []), (.str [])] [] H τ = some (.ptr H.size 0, H.new [.str [], .str []] 2 true, τ) := rfl
  have g1 := Gr.new hw [.str [], .str []] 2 true
  have b1 := Bx.new H [.str [], .str []] 2 true (Nat.le_refl _)
  generalize H.new [.str [], .str []] 2 true = H1 at a1 g1 b1
  obtain ⟨H2, s2, b2, o2⟩ := b1.eStore g1.wf 0 (.agg [.str a, .str b]) 2 rfl (by simp) (by omega) rfl τ
  have b2' : Bx H2 H.size [.str a, .str b] := b2
  have p3 : pBuild [(.str []), (.str [])] [(0, 1), (1, 1)] [.str a, .str b] = some (.agg [.str a, .str b]) := rfl
  have hres : results ⟨(T.set .leaf 4 (.ptr H.size 0)), H2⟩ [(.cell 4 (some 2))] = some (.agg [.str a, .str b]) := by
    have hl : H2.loads H.size 0 2 = some [.str a, .str b] := loads_cells (off := 0) (n := 2) b2'.cells (by simp)
    simp [results, resAll, resOf, T.get_set, evalL, lLoad, lLoadN, hl]
  exact ⟨H2, g1.trans (o2.gr (B := H.size) (Nat.le_refl _)) (Nat.le_refl _), fun q => by simp only [s_law5_h, a1, effK_n, p3, someK_n, s2, hres]⟩

end Go.Am.X


namespace Go.Am.X
set_option linter.unusedSimpArgs false
set_option linter.unusedVariables false
set_option linter.unusedSectionVars false
abbrev C (N d : Nat) : CallK := callK (tabOf tabE N) d
theorem C_nat (N d : Nat) : CallNat (C N d) := tab_nat N d
section
variable {N : Nat} (hN : 9223372036854775807 < N)
include hN

theorem d_asciiSet_contains (d : Nat) (cut : Bs) {id : Nat} {H : Heap} (hc : H.cells? id = some (mark (repl 256 [.bool false]) cut)) (x : UInt8) (τ : Tape) (q : KV) : C N (d + 1) f_asciiSet_contains [.ptr id 0, .int .u8 (x.toNat : Int)] H τ q = q (.bool (cut.contains x)) H τ := by
  have hr : (repl 256 [V.bool false]).length = 256 := by rw [repl_length]; rfl
  have hg : ∀ i, i < 256 → (repl 256 [V.bool false])[i]? = some (.bool false) := fun i hi => by
    rw [repl_one, List.getElem?_replicate, if_pos hi]
  have := mark_get cut (repl 256 [V.bool false]) x hr (fun i hi => ⟨false, hg i hi⟩) false (hg _ (u8_lt x))
  exact s81_eval (C N d) N hc (by simpa using this) τ q
theorem d_strings_trimLeftASCII (d : Nat) (hd : 2 ≤ d) (cut s : Bs) (id : Nat) (H : Heap) (hs : s.length < 9223372036854775807) (hc : H.cells? id = some (mark (repl 256 [.bool false]) cut)) (τ : Tape) (q : KV) : C N d f_strings_trimLeftASCII [.str s, .ptr id 0] H τ q = q (.str (s.dropWhile cut.contains)) H τ := by
  obtain ⟨d, rfl⟩ : ∃ e, d = e + 1 + 1 := ⟨d - 2, by omega⟩
  show s_strings_trimLeftASCII (C N (d + 1)) N (.str s) (.ptr id 0) H τ q = _
  simp only [s_strings_trimLeftASCII]
  rw [trimL_loop (C N (d + 1)) N cut.contains (fun x τ q => d_asciiSet_contains hN d cut hc x τ q) _ s N _ τ (by omega) (by simp [T.get_set]) (by simp [T.get_set])]
  simp only [blockK, Nat.beq_refl, cond_true, seqK, s_strings_trimLeftASCII_j0, getK_set, ↓reduceIte]
theorem d_strings_trimRightASCII (d : Nat) (hd : 2 ≤ d) (cut s : Bs) (id : Nat) (H : Heap) (hs : s.length < 9223372036854775807) (hc : H.cells? id = some (mark (repl 256 [.bool false]) cut)) (τ : Tape) (q : KV) : C N d f_strings_trimRightASCII [.str s, .ptr id 0] H τ q = q (.str (s.reverse.dropWhile cut.contains).reverse) H τ := by
  obtain ⟨d, rfl⟩ : ∃ e, d = e + 1 + 1 := ⟨d - 2, by omega⟩
  show s_strings_trimRightASCII (C N (d + 1)) N (.str s) (.ptr id 0) H τ q = _
  simp only [s_strings_trimRightASCII]
  rw [trimR_loop (C N (d + 1)) N cut.contains (fun x τ q => d_asciiSet_contains hN d cut hc x τ q) _ s.reverse N _ τ (by simpa using hs) (by simp; omega) (by simp [T.get_set]) (by simp [T.get_set])]
  simp only [blockK, Nat.beq_refl, cond_true, seqK, s_strings_trimRightASCII_j0, getK_set, ↓reduceIte]
theorem d_strings_Trim (d : Nat) (hd : 3 ≤ d) (cut : Bs) (h2 : 2 ≤ cut.length) (h3 : cut.length < 9223372036854775807) (ha : ∀ x ∈ cut, x.toNat < 128) : TrimOk (C N d) cut := by
  intro s hs H hw τ q
  obtain ⟨d, rfl⟩ : ∃ e, d = e + 1 := ⟨d - 1, by omega⟩
  refine s_strings_Trim_ret (C N d) N (Nat.le_of_lt hN) cut s h2 h3 hs H hw (fun H hw τ q => ?_) (fun s id H hs hc τ q => d_strings_trimLeftASCII hN d (by omega) cut s id H hs hc τ q) (fun s id H hs hc τ q => d_strings_trimRightASCII hN d (by omega) cut s id H hs hc τ q) τ q
  obtain ⟨d, rfl⟩ : ∃ e, d = e + 1 := ⟨d - 1, by omega⟩
  exact s_strings_makeASCIISet_ret (C N d) N (Nat.le_of_lt hN) cut ha h3 H hw τ q
theorem d_infra_Lower (d : Nat) (hd : 3 ≤ d) : LowOk (C N d) := by
  intro s hs H hw τ q
  obtain ⟨d, rfl⟩ : ∃ e, d = e + 1 + 1 + 1 := ⟨d - 3, by omega⟩
  obtain ⟨H', τ', k1, k2⟩ := s_infra_mapped_ret (C N (d + 1)) N (Nat.le_of_lt hN) s hs H hw (fun x H τ q => s69_eval (C N d) N x H τ q) τ (fun v0 H1 τ2 => q v0 H1 τ2)
  exact ⟨H', τ', k1, k2⟩
theorem d_headers_is (d : Nat) (hd : 4 ≤ d) (name : Bs) (hm : name.length ≤ 140737488355328) (n v : Bs) (hn : n.length ≤ 140737488355328) (H : Heap) (hw : WF H) (τ : Tape) (q : KV) : ∃ H' τ', Gr H.size H H' ∧ C N d f_headers_is [.agg [.str n, .str v], .str name] H τ q = q (.bool (lower n == lower name)) H' τ' := by
  obtain ⟨d, rfl⟩ : ∃ e, d = e + 1 := ⟨d - 1, by omega⟩
  exact s_headers_is_ret (C N d) N (d_infra_Lower hN d (by omega)) n v name hn hm H hw τ q

end
/-- headers that are few and short -/
structure Small (hs : List (Bs × Bs)) : Prop where
  len : hs.length ≤ 1000
  all : ∀ h ∈ hs, h.1.length ≤ 10000 ∧ h.2.length ≤ 10000
section
variable {N : Nat} (hN : 9223372036854775807 < N)
include hN
end
end Go.Am.X


namespace Go.Am.X
set_option linter.unusedSimpArgs false
set_option linter.unusedVariables false
set_option linter.unusedSectionVars false
set_option maxRecDepth 100000
theorem s_strings_shouldUseASCIISet_ret (c : CallK) (N : Nat) (n : Int) (H : Heap) (τ : Tape) (q : KV) : s_strings_shouldUseASCIISet c N (.int .i64 n) H τ q = q (.bool (decide (8 < n))) H τ := by
  have e : decide (Int.ofNat 8 < n) = decide (8 < n) := rfl
  simp only [s_strings_shouldUseASCIISet, bin_gtr, e]
theorem s_utf8_ValidRune_ret (c : CallK) (N : Nat) (n : Int) (H : Heap) (τ : Tape) : ∃ b, ∀ q, s_utf8_ValidRune c N (.int .i32 n) H τ q = q (.bool b) H τ := by
  by_cases h1 : Int.ofNat 0 ≤ n
  · by_cases h2 : n < Int.ofNat 55296
    · refine ⟨true, fun q => ?_⟩
      simp only [s_utf8_ValidRune, bin_leq, decide_eq_true h1, gK_do, retK, effK_n, bin_lss, decide_eq_true h2, pick_mk, cond_true, someK_n, condK_tn]
    · by_cases h3 : Int.ofNat 57343 < n
      · by_cases h4 : n ≤ Int.ofNat 1114111
        · refine ⟨true, fun q => ?_⟩
          simp only [s_utf8_ValidRune, bin_leq, decide_eq_true h1, gK_do, retK, effK_n, bin_lss, decide_eq_false h2, pick_mk, cond_true, someK_n, condK_fn, decide_eq_true h3, decide_eq_true h4, condK_tn]
        · refine ⟨false, fun q => ?_⟩
          simp only [s_utf8_ValidRune, bin_leq, decide_eq_true h1, gK_do, retK, effK_n, bin_lss, decide_eq_false h2, pick_mk, cond_true, someK_n, condK_fn, decide_eq_true h3, decide_eq_false h4, condK_tn]
      · refine ⟨false, fun q => ?_⟩
        simp only [s_utf8_ValidRune, bin_leq, decide_eq_true h1, gK_do, retK, effK_n, bin_lss, decide_eq_false h2, pick_mk, cond_true, cond_false, someK_n, condK_fn, decide_eq_false h3, gK_skip, gK_none]
  · by_cases h3 : Int.ofNat 57343 < n
    · exact absurd h3 (by simp at h1 ⊢; omega)
    · refine ⟨false, fun q => ?_⟩
      simp only [s_utf8_ValidRune, bin_leq, decide_eq_false h1, gK_do, retK, effK_n, bin_lss, pick_mk, cond_true, cond_false, someK_n, condK_fn, decide_eq_false h3, gK_skip, gK_none]
theorem idxB_none (x : Nat) : ∀ (l : Bs) (i : Nat), (∀ y ∈ l, y.toNat ≠ x) → idxB x l i = -1 := by
  intro l
  induction l with
  | nil => intro i _; rfl
  | cons y l ih =>
    intro i h
    have e : Nat.beq y.toNat x = false := by
      cases hb : Nat.beq y.toNat x with
      | false => rfl
      | true => exact absurd (Nat.eq_of_beq_eq_true hb) (h y (by simp))
    simp only [idxB, e, cond_false]
    exact ih _ (fun z hz => h z (by simp [hz]))
theorem idxB_some (x : Nat) : ∀ (l : Bs) (i : Nat), (∃ y ∈ l, y.toNat = x) → 0 ≤ idxB x l i := by
  intro l
  induction l with
  | nil => intro i ⟨y, h, _⟩; simp at h
  | cons y l ih =>
    intro i h
    simp only [idxB, forceN_eq]
    cases hb : Nat.beq y.toNat x with
    | true => exact Int.natCast_nonneg _
    | false =>
      rw [cond_false]
      refine ih _ ?_
      obtain ⟨z, hz, e⟩ := h
      rcases List.mem_cons.1 hz with rfl | hz
      · rw [e] at hb
        rw [Nat.beq_refl] at hb; cases hb
      · exact ⟨z, hz, e⟩
def anyI (cut : Bs) : Bs → Nat → Int
  | [], _ => -1
  | x :: l, i => if cut.contains x then (i : Int) else anyI cut l (i + 1)
theorem anyI_iff (cut : Bs) : ∀ (l : Bs) (i : Nat), (decide (0 ≤ anyI cut l i)) = l.any cut.contains := by
  intro l
  induction l with
  | nil => intro i; rfl
  | cons x l ih =>
    intro i
    rw [anyI, List.any_cons]
    by_cases h : cut.contains x = true
    · rw [if_pos h, h, decide_eq_true (Int.natCast_nonneg _)]; rfl
    · rw [if_neg h, ih]
      have : cut.contains x = false := by simpa using h
      rw [this]; rfl
theorem anyI_skip (cut : Bs) (ha : ∀ x ∈ cut, x.toNat < 128) : ∀ (w : Nat) (l : Bs) (i : Nat), w ≤ l.length → (∀ x ∈ l.take w, 128 ≤ x.toNat) → anyI cut l i = anyI cut (l.drop w) (i + w) := by
  intro w
  induction w with
  | zero => intro l i _ _; rfl
  | succ w ih =>
    intro l i hl hx
    cases l with
    | nil => simp at hl
    | cons x l =>
      have h1 : ¬ cut.contains x = true := by
        intro h
        have h1 := ha x (by simpa using h)
        have h2 := hx x (by simp)
        omega
      rw [anyI, if_neg h1, List.drop_succ_cons, ih l (i + 1) (by simpa using hl) (fun y hy => hx y (by simp [hy]))]
      congr 1; omega
abbrev Idx70 (c : CallK) : Prop := ∀ (s : Bs) (x : UInt8) H τ q, c f_strings_IndexByte [.str s, .int .u8 (x.toNat : Int)] H τ q = q (.int .i64 (idxB x.toNat s 0)) H τ
theorem s_strings_IndexByte_ret (c : CallK) (N : Nat) (h86 : ∀ (s : Bs) (x : UInt8) H τ q, c f_stringslite_IndexByte [.str s, .int .u8 (x.toNat : Int)] H τ q = q (.int .i64 (idxB x.toNat s 0)) H τ) (s : Bs) (x : UInt8) (H : Heap) (τ : Tape) (q : KV) :
    s_strings_IndexByte c N (.str s) (.int .u8 (x.toNat : Int)) H τ q = q (.int .i64 (idxB x.toNat s 0)) H τ := by
  simp only [s_strings_IndexByte, h86]
/-- no letter is the rune that stands for none -/
theorem l_strings_IndexRunea (c : CallK) (N : Nat) (chars : Bs) (ha : ∀ x ∈ chars, x.toNat < 128) (id : Nat) : ∀ (l : Bs) (pos : Nat) (H : Heap) (fr : T V) (τ : Tape) (m : Nat), chars.drop pos = l → l.length < m → WF H → Iter H id chars pos → fr.get 175 = some (.ptr id 0) →
    ∃ H', Gr id H H' ∧ ∀ k, loopK (s_strings_IndexRune_l1 c N) m ⟨fr, H⟩ τ k = k (.exit 9) ⟨.leaf, H'⟩ τ := by
  intro l
  induction l with
  | nil =>
    intro pos H fr τ m hd hm hw it f
    obtain ⟨m, rfl⟩ : ∃ j, m = j + 1 := ⟨m - 1, by omega⟩
    refine ⟨H, Gr.refl hw, fun k => ?_⟩
    have e := iter_end it (by simpa using hd) τ
    have x0 : pExtract 0 [.tup [V.bool false]] = some (.bool false) := rfl
    rw [loopK_succ]
    simp only [s_strings_IndexRune_l1, getK_mk f, e, effK_n, x0, someK_n, condK_fn]
    rfl
  | cons x l ih =>
    intro pos H fr τ m hd hm hw it f
    obtain ⟨m, rfl⟩ : ∃ j, m = j + 1 := ⟨m - 1, by omega⟩
    have hp : pos < chars.length := by
      by_cases h : pos < chars.length
      · exact h
      · rw [List.drop_eq_nil_of_le (by omega)] at hd; cases hd
    have hx := ha x (List.mem_of_mem_drop (i := pos) (by rw [hd]; simp))
    obtain ⟨H1, e, g1, it1, z1⟩ := iter_next hw it hp τ
    rw [hd, dec_ascii x l hx] at e it1
    obtain ⟨H2, g2, k2⟩ := ih (pos + 1) H1 (T.set (T.set (T.set .leaf 5 (.int .i64 (pos : Int))) 175 (.ptr id 0)) 181 (.bool false)) τ m (by rw [← List.drop_drop, hd]; rfl) (by simp at hm; omega) g1.wf it1 (by simp [T.get_set])
    refine ⟨H2, g1.trans g2 (Nat.le_refl _), fun k => ?_⟩
    have x0 : ∀ a b d : V, pExtract 0 [.tup [a, b, d]] = some a := fun _ _ _ => rfl
    have x1 : ∀ a b d : V, pExtract 1 [.tup [a, b, d]] = some b := fun _ _ _ => rfl
    have x2 : ∀ a b d : V, pExtract 2 [.tup [a, b, d]] = some d := fun _ _ _ => rfl
    have ne : ((x.toNat : Int) == Int.ofNat 65533) = false := by rw [beq_eq_false_iff_ne]; intro h; simp at h; omega
    rw [loopK_succ]
    simp only [s_strings_IndexRune_l1, getK_mk f, e, effK_n, x0, x1, x2, someK_n, condK_tn, bin_eql, ne, condK_fn]
    exact k2 k
/-- the place of a rune among letters -/
theorem s_strings_IndexRune_ret (c : CallK) (N : Nat) (hN : 1000 < N) (h70 : Idx70 c) (h114 : ∀ (n : Int) H τ, ∃ b, ∀ q, c f_utf8_ValidRune [.int .i32 n] H τ q = q (.bool b) H τ) (chars : Bs) (ha : ∀ x ∈ chars, x.toNat < 128) (hl : chars.length < 1000) (r : Nat)
    (H : Heap) (hw : WF H) (τ : Tape) : ∃ H', Gr H.size H H' ∧ ∀ q, s_strings_IndexRune c N (.str chars) (.int .i32 (r : Int)) H τ q = q (.int .i64 (if r < 128 then idxB r chars 0 else -1)) H' τ := by
  have e0 : decide (Int.ofNat 0 ≤ (r : Int)) = true := decide_eq_true (by simp)
  by_cases h : r < 128
  · have e1 : decide ((r : Int) < Int.ofNat 128) = true := decide_eq_true (by simp; omega)
    have hu : (UInt8.ofNat r).toNat = r := by rw [UInt8.toNat_ofNat']; omega
    have hwr : wr .u8 (r : Int) = ((UInt8.ofNat r).toNat : Int) := by
      rw [hu, wr_eq]
      simp only [IntKind.wrap, IntKind.signed, IntKind.bits]
      simp <;> omega
    refine ⟨H, Gr.refl hw, fun q => ?_⟩
    rw [if_pos h]
    simp only [s_strings_IndexRune, bin_leq, e0, gK_do, retK, effK_n, bin_lss, e1, pick_mk, cond_true, someK_n, condK_tn, toInt_mk, hwr, h70]
    rw [hu]
  · have e1 : decide ((r : Int) < Int.ofNat 128) = false := decide_eq_false (by simp; omega)
    rw [if_neg h]
    by_cases hr : r = 65533
    · subst hr
      have e2 : (((65533 : Nat) : Int) == Int.ofNat 65533) = true := rfl
      obtain ⟨H1, k1, g1, it⟩ := iter_start hw chars τ
      obtain ⟨H2, g2, k2⟩ := l_strings_IndexRunea c N chars ha H.size chars 0 H1 (T.set .leaf 175 (.ptr H.size 0)) τ N rfl (by omega) g1.wf it (by simp [T.get_set])
      refine ⟨H2, g1.trans g2 (Nat.le_refl _), fun q => ?_⟩
      simp only [s_strings_IndexRune, bin_leq, e0, gK_do, retK, effK_n, bin_lss, e1, pick_mk, cond_true, someK_n, condK_fn, bin_eql, e2, condK_tn, k1]
      rw [k2]
      rfl
    · have e2 : ((r : Int) == Int.ofNat 65533) = false := by rw [beq_eq_false_iff_ne]; intro h; simp at h; omega
      obtain ⟨b, hb⟩ := h114 (r : Int) H τ
      refine ⟨H, Gr.refl hw, fun q => ?_⟩
      simp only [s_strings_IndexRune, bin_leq, e0, gK_do, retK, effK_n, bin_lss, e1, pick_mk, cond_true, someK_n, condK_fn, bin_eql, e2, hb, un_not]
      cases b with
      | false => simp only [Bool.not_false, condK_tn]; rfl
      | true =>
        obtain ⟨E1, E2, E3⟩ := enc_high r (by omega)
        have er : pRuneStr [.int .i32 (r : Int)] = some (.str (encodeR (r : Int))) := rfl
        simp only [Bool.not_true, condK_fn, er, someK_n, lenS_mk]
        generalize encodeR (r : Int) = rs at E1 E2 E3
        obtain ⟨n, hn⟩ : ∃ n, rs.length = n + 1 := ⟨rs.length - 1, by have := List.length_pos_iff.2 E2; omega⟩
        have es : wr .i64 ((rs.length : Int) - Int.ofNat 1) = (n : Int) := by rw [wr_id (by simp; omega) (by simp; omega)]; simp; omega
        obtain ⟨N, rfl⟩ : ∃ M, N = M + 1 := ⟨N - 1, by omega⟩
        have f0 : ∀ j, getK (T.set (T.set (T.set (T.set .leaf 0 (.str chars)) 7 (.str rs)) 8 (.int .i64 (n : Int))) 9 (.int .i64 (n : Int))) j = getK (T.set (T.set (T.set (T.set .leaf 0 (.str chars)) 7 (.str rs)) 8 (.int .i64 (n : Int))) 9 (.int .i64 (n : Int))) j := fun _ => rfl
        simp only [bin_sub, es]
        rw [loopK_succ]
        have ir : pStrIndex [.str rs, .int .i64 (n : Int)] = some (.int .u8 ((rs[n]'(by omega)).toNat : Int)) := strIndex_mk (by rw [List.getElem?_eq_getElem])
        have hh := E1 (rs[n]'(by omega)) (List.getElem_mem _)
        by_cases hlt : n < chars.length
        · have e3 : decide ((n : Int) < (chars.length : Int)) = true := decide_eq_true (by omega)
          have ic : pStrIndex [.str chars, .int .i64 (n : Int)] = some (.int .u8 ((chars[n]'hlt).toNat : Int)) := strIndex_mk (by rw [List.getElem?_eq_getElem])
          have hc := ha (chars[n]'hlt) (List.getElem_mem _)
          have e4 : (((chars[n]'hlt).toNat : Int) != ((rs[n]'(by omega)).toNat : Int)) = true := by rw [bne_iff_ne]; omega
          have e5 : wr .i64 ((n : Int) + Int.ofNat 1) = ((n + 1 : Nat) : Int) := by rw [wr_id (by simp; omega) (by simp; omega)]; rfl
          have e6 : pStrSlice true false [.str chars, .int .i64 ((n + 1 : Nat) : Int)] = some (.str (chars.drop (n + 1))) := strSlice_lo (by omega)
          have e7 : idxB (rs[n]'(by omega)).toNat (chars.drop (n + 1)) 0 = -1 := idxB_none _ _ _ (fun y hy => by have := ha y (List.mem_of_mem_drop hy); omega)
          have e8 : decide ((-1 : Int) < Int.ofNat 0) = true := rfl
          simp only [s_strings_IndexRune_l3, getK_set, ↓reduceIte, Nat.reduceEqDiff, lenS_mk, someK_n, bin_lss, e3, condK_tn, ic, ir, bin_neq, e4, bin_add, e5, e6, h70, e7, e8]
          rfl
        · have e3 : decide ((n : Int) < (chars.length : Int)) = false := decide_eq_false (by omega)
          simp only [s_strings_IndexRune_l3, getK_set, ↓reduceIte, Nat.reduceEqDiff, lenS_mk, someK_n, bin_lss, e3, condK_fn]
          rfl
end Go.Am.X


