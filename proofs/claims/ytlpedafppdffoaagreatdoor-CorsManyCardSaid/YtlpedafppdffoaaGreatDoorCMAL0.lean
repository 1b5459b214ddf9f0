/- The abstract machine, printed functions of the program, and what they are shown to be. -/
import Derived.Test.YtlpedafppdffoaaGreatDoorCMASh1
import Derived.Test.YtlpedafppdffoaaGreatDoorCMAM4
import Derived.Deep.SlicePairs
import Derived.ChangeSlices
import Derived.SizedLaws
import Derived.Test.YtlpedafppdffoaaGreatDoorCMAM3
import Derived.Test.YtlpedafppdffoaaGreatDoorCMAOk
set_option linter.unusedSimpArgs false
set_option linter.unusedVariables false
set_option linter.unusedSectionVars false
set_option maxRecDepth 100000
namespace Go.Am.X
theorem u8_lt (x : UInt8) : x.toNat < 256 := x.toNat_lt
theorem s81_eval (c : CallK) (N : Nat) {id : Nat} {cells : List V} {x : UInt8} {b : Bool} {H : Heap} (hc : H.cells? id = some cells) (hx : cells[x.toNat]? = some (.bool b)) (τ : Tape) (q : KV) :
  s_asciiSet_contains c N (.ptr id 0) (.int .u8 (x.toNat : Int)) H τ q = q (.bool b) H τ := by
 have e1 : Nat.blt x.toNat 256 = true := by have := u8_lt x; simp [Nat.blt]; omega
 simp only [s_asciiSet_contains, pNilck, someK_mk, pArrIdx, natOf_nat, e1, cond_true, Nat.mul_one, Nat.zero_add, load_cell hc hx]
theorem trimL_loop (c : CallK) (N : Nat) {id : Nat} {H : Heap} (p : UInt8 → Bool) (h171 : ∀ (x : UInt8) τ q, c f_asciiSet_contains [.ptr id 0, .int .u8 (x.toNat : Int)] H τ q = q (.bool (p x)) H τ) (k : KC) :
  ∀ (s : List UInt8) (n : Nat) (fr : T V) (τ : Tape), s.length < n → fr.get 0 = some (.str s) → fr.get 1 = some (.ptr id 0) → loopK (s_strings_trimLeftASCII_l1 c N) n ⟨fr, H⟩ τ k = k (.exit 0) ⟨T.set .leaf 0 (.str (s.dropWhile p)), H⟩ τ := by
 intro s
 induction s with
 | nil =>
  intro n fr τ hn h0 h1
  obtain ⟨n, rfl⟩ : ∃ m, n = m + 1 := ⟨n - 1, by simp at hn; omega⟩
  rw [loopK_succ]
  simp only [s_strings_trimLeftASCII_l1, getK_mk h0, getK_mk h1, lenS_mk, someK_mk, bin_gtr]
  rfl
 | cons x s ih =>
  intro n fr τ hn h0 h1
  obtain ⟨n, rfl⟩ : ∃ m, n = m + 1 := ⟨n - 1, by simp at hn; omega⟩
  rw [loopK_succ]
  have e1 : decide (Int.ofNat 0 < ((x :: s).length : Int)) = true := decide_eq_true (by first | (simp; done) | (simp; omega) | omega)
  have e2 : pStrIndex [.str (x :: s), .int .i64 (.ofNat 0)] = some (.int .u8 (x.toNat : Int)) := rfl
  have e3 : pStrSlice true false [.str (x :: s), .int .i64 (.ofNat 1)] = some (.str s) := strSlice_lo (s := x :: s) (i := 1) (by simp)
  simp only [s_strings_trimLeftASCII_l1, getK_mk h0, getK_mk h1, lenS_mk, someK_mk, bin_gtr, e1, condK_t, e2, h171, un_not]
  cases hp : p x with
  | false => simp [condK_bool, hp, seqK]
  | true =>
   simp only [Bool.not_true, condK_f, e3, someK_mk, seqK]
   rw [ih n _ τ (by simp at hn; omega) (by simp [T.get_set]) (by simp [T.get_set])]
   simp [hp]
theorem trimR_loop (c : CallK) (N : Nat) {id : Nat} {H : Heap} (p : UInt8 → Bool) (h171 : ∀ (x : UInt8) τ q, c f_asciiSet_contains [.ptr id 0, .int .u8 (x.toNat : Int)] H τ q = q (.bool (p x)) H τ) (k : KC) :
  ∀ (r : List UInt8) (n : Nat) (fr : T V) (τ : Tape), r.length < 9223372036854775807 → r.length < n → fr.get 0 = some (.str r.reverse) → fr.get 1 = some (.ptr id 0) → loopK (s_strings_trimRightASCII_l1 c N) n ⟨fr, H⟩ τ k = k (.exit 0) ⟨T.set .leaf 0 (.str (r.dropWhile p).reverse), H⟩ τ := by
 intro r
 induction r with
 | nil =>
  intro n fr τ hb hn h0 h1
  obtain ⟨n, rfl⟩ : ∃ m, n = m + 1 := ⟨n - 1, by simp at hn; omega⟩
  rw [loopK_succ]
  simp only [s_strings_trimRightASCII_l1, getK_mk h0, getK_mk h1, lenS_mk, someK_mk, bin_gtr]
  rfl
 | cons x s ih =>
  intro n fr τ hb hn h0 h1
  obtain ⟨n, rfl⟩ : ∃ m, n = m + 1 := ⟨n - 1, by simp at hn; omega⟩
  rw [loopK_succ]
  have hlen : ((x :: s).reverse.length : Int) = (s.length : Int) + 1 := by simp
  have e1 : decide (Int.ofNat 0 < ((x :: s).reverse.length : Int)) = true := decide_eq_true (by rw [hlen]; first | (simp; done) | (simp; omega))
  have e0 : wr .i64 (((x :: s).reverse.length : Int) - Int.ofNat 1) = (s.length : Int) := by
   rw [hlen, wr_id (by first | (simp; done) | (simp; omega) | omega) (by simp at hb; first | (simp; done) | (simp; omega) | omega)]
   simp
  have e2 : pStrIndex [.str (x :: s).reverse, .int .i64 (s.length : Int)] = some (.int .u8 (x.toNat : Int)) := strIndex_mk (by simp)
  have e3 : pStrSlice false true [.str (x :: s).reverse, .int .i64 (s.length : Int)] = some (.str s.reverse) := by
   rw [strSlice_hi (by simp)]
   simp
  simp only [s_strings_trimRightASCII_l1, getK_mk h0, getK_mk h1, lenS_mk, someK_mk, bin_gtr, e1, condK_t, bin_sub, e0, e2, h171, un_not]
  cases hp : p x with
  | false => simp [condK_bool, hp, seqK]
  | true =>
   simp only [Bool.not_true, condK_f, e3, someK_mk, seqK]
   rw [ih n _ τ (by simp at hb; omega) (by simp at hn; omega) (by simp [T.get_set]) (by simp [T.get_set])]
   simp [hp]
def mark (cells : List V) (l : List UInt8) : List V := l.foldl (fun cells x => cells.set x.toNat (.bool true)) cells
theorem mark_length (l : List UInt8) : ∀ cells : List V, (mark cells l).length = cells.length := by
 induction l with
 | nil => intro cells; rfl
 | cons x l ih => intro cells; exact (ih _).trans (by simp)
theorem mark_get (l : List UInt8) : ∀ (cells : List V) (x : UInt8), cells.length = 256 → (∀ i, i < 256 → ∃ b, cells[i]? = some (.bool b)) → ∀ b, cells[x.toNat]? = some (.bool b) → (mark cells l)[x.toNat]? = some (.bool (b || l.contains x)) := by
 induction l with
 | nil => intro cells x _ _ b hb; simpa [mark] using hb
 | cons y l ih =>
  intro cells x hl hc b hb
  have hx := u8_lt x
  have hy := u8_lt y
  have := ih (cells.set y.toNat (.bool true)) x (by simpa using hl) (fun i hi => by
   by_cases e : y.toNat = i
   ·exact ⟨true, by rw [e]; simp [hl, hi]⟩
   ·obtain ⟨b, hb⟩ := hc i hi
    exact ⟨b, by rw [List.getElem?_set_ne e]; exact hb⟩) (if x = y then true else b) (by
   by_cases e : x = y
   ·subst e; simp [hl, hx]
   ·rw [if_neg e, List.getElem?_set_ne (fun h => e (UInt8.toNat_inj.1 h.symm))]; exact hb)
  rw [show mark cells (y :: l) = mark (cells.set y.toNat (.bool true)) l from rfl, this]
  by_cases e : x = y
  ·simp [e]
  ·simp [e]
theorem set_loop (c : CallK) (N : Nat) {B id : Nat} (k : KC) (l : List UInt8) : ∀ (pre : List UInt8) (cells : List V) (n : Nat) (fr : T V) (H : Heap) (τ : Tape), WF H → Blk H B id cells → cells.length = 256 → (∀ x ∈ l, x.toNat < 128) → (pre ++ l).length < 9223372036854775807 → l.length < n →
  fr.get 0 = some (.str (pre ++ l)) → fr.get 2 = some (.ptr id 0) → fr.get 4 = some (.int .i64 (pre.length : Int)) →
  ∃ H', Blk H' B id (mark cells l) ∧ Gr B H H' ∧ H'.size = H.size ∧ loopK (s_strings_makeASCIISet_l1 c N) n ⟨fr, H⟩ τ k = k (.exit 0) ⟨T.set .leaf 2 (.ptr id 0), H'⟩ τ := by
 induction l with
 | nil =>
  intro pre cells n fr H τ hw hB hl hs hb hn h0 h2 h4
  obtain ⟨n, rfl⟩ : ∃ m, n = m + 1 := ⟨n - 1, by simp at hn; omega⟩
  refine ⟨H, hB, Gr.refl hw, rfl, ?_⟩
  rw [loopK_succ]
  simp only [s_strings_makeASCIISet_l1, getK_mk h0, getK_mk h2, getK_mk h4, lenS_mk, someK_mk, bin_lss, List.append_nil]
  simp [condK_bool, seqK]
 | cons x l ih =>
  intro pre cells n fr H τ hw hB hl hs hb hn h0 h2 h4
  obtain ⟨n, rfl⟩ : ∃ m, n = m + 1 := ⟨n - 1, by simp at hn; omega⟩
  have hx := hs x (by simp)
  obtain ⟨H1, k1, k2, k3, k4⟩ := hB.eStore hw x.toNat (.bool true) 1 rfl (by omega) rfl τ
  have hcells : cells.take x.toNat ++ (V.bool true).cells ++ cells.drop (x.toNat + 1) = cells.set x.toNat (.bool true) := by
   rw [List.set_eq_take_append_cons_drop, if_pos (by omega)]
   simp [V.cells]
  rw [hcells] at k2
  have e1 : decide ((pre.length : Int) < ((pre ++ x :: l).length : Int)) = true := decide_eq_true (by first | (simp; done) | (simp; omega) | omega)
  have e2 : pStrIndex [.str (pre ++ x :: l), .int .i64 (pre.length : Int)] = some (.int .u8 (x.toNat : Int)) := strIndex_mk (by simp)
  have e3 : decide (Int.ofNat 128 ≤ (x.toNat : Int)) = false := decide_eq_false (by first | (simp; done) | (simp; omega) | omega)
  have e4 : pArrIdx 256 1 [.ptr id 0, .int .u8 (x.toNat : Int)] = some (.ptr id x.toNat) := by
   have : Nat.blt x.toNat 256 = true := by simp [Nat.blt]; omega
   simp [pArrIdx, natOf_nat, this]
  have e5 : wr .i64 ((pre.length : Int) + Int.ofNat 1) = ((pre ++ [x]).length : Int) := by
   rw [wr_id (by first | (simp; done) | (simp; omega) | omega) (by simp at hb; first | (simp; done) | (simp; omega) | omega)]
   simp
  obtain ⟨H', m1, m2, m3, m4⟩ := ih (pre ++ [x]) (cells.set x.toNat (.bool true)) n (T.set (T.set (T.set (T.set (T.set (T.set .leaf 0 (.str (pre ++ x :: l))) 2 (.ptr id 0)) 4 (.int .i64 (pre.length : Int))) 10 (.int .i64 (pre.length : Int))) 11 (.int .i64 ((pre ++ [x]).length : Int))) 4 (.int .i64 ((pre ++ [x]).length : Int))) H1 τ k3.wf k2 (by simpa using hl) (fun y hy => hs y (by simp [hy])) (by simpa using hb) (by simp at hn; omega) (by simp [T.get_set]) (by simp [T.get_set]) (by simp [T.get_set])
  refine ⟨H', m1, k3.trans m2 (Nat.le_refl _), by omega, ?_⟩
  rw [loopK_succ]
  simp only [s_strings_makeASCIISet_l1, getK_mk h0, getK_mk h2, getK_mk h4, lenS_mk, someK_mk, bin_lss, e1, condK_t, e2, bin_geq, e3, condK_f, e4, k1, effK_mk, bin_add, e5, seqK, m4]
theorem s_strings_makeASCIISet_ret (c : CallK) (N : Nat) (hN : 9223372036854775807 ≤ N) (l : List UInt8) (hs : ∀ x ∈ l, x.toNat < 128) (hb : l.length < 9223372036854775807) (H : Heap) (hw : WF H) (τ : Tape) (q : KV) :
  ∃ H', Gr H.size H H' ∧ s_strings_makeASCIISet c N (.str l) H τ q = q (.tup [.agg (mark (repl 256 [.bool false]) l), .bool true]) H' τ := by
 have hr : (repl 256 [V.bool false]).length = 256 := by rw [repl_length]; rfl
 have hB := Blk.new H (repl 256 [V.bool false]) (repl 256 [V.bool false]).length true (Nat.le_refl _)
 have hG := Gr.new hw (repl 256 [V.bool false]) (repl 256 [V.bool false]).length true
 obtain ⟨H1, k1, k2, k3, k4⟩ := set_loop c N (blockK 0 (seqK (s_strings_makeASCIISet_j0 c N q) (endK [(.cell 2 (some 256)), (.t 3)] q))) l [] _ N (T.set (T.set (T.set .leaf 0 (.str l)) 2 (.ptr H.size 0)) 4 (.int .i64 0)) _ τ hG.wf hB hr hs (by simpa using hb) (by omega) (by simp [T.get_set]) (by simp [T.get_set]) (by simp [T.get_set])
 have hm : (mark (repl 256 [V.bool false]) l).length = 256 := by rw [mark_length, hr]
 have hsc : ∀ (cells : List V), cells.all V.scal = true → (mark cells l).all V.scal = true := by
  intro cells
  have : ∀ (l : List UInt8) (cells : List V), cells.all V.scal = true → (mark cells l).all V.scal = true := by
   intro l
   induction l with
   | nil => intro cells h; exact h
   | cons x l ih =>
    intro cells h
    refine ih _ ?_
    rw [List.all_eq_true] at h ⊢
    intro v hv
    rcases List.mem_or_eq_of_mem_set hv with hv | rfl
    ·exact h v hv
    ·rfl
  exact this l cells
 obtain ⟨H2, m1, m2, m3, m4⟩ := k1.eStore k2.wf 0 (.agg (mark (repl 256 [.bool false]) l)) 256 hm (by rw [hm]; omega) (hsc _ (by rw [repl_one, List.all_eq_true]; intro v hv; rw [List.eq_of_mem_replicate hv]; rfl)) τ
 have hcells : (mark (repl 256 [V.bool false]) l).take 0 ++ (V.agg (mark (repl 256 [.bool false]) l)).cells ++ (mark (repl 256 [V.bool false]) l).drop (0 + 256) = mark (repl 256 [.bool false]) l := by
  rw [List.take_zero, List.nil_append, V.cells, List.drop_eq_nil_of_le (by rw [hm]; omega), List.append_nil]
 rw [hcells] at m2
 have htake : ((mark (repl 256 [V.bool false]) l).drop 0).take 256 = mark (repl 256 [.bool false]) l := by
  rw [List.drop_zero, List.take_of_length_le (by rw [hm]; omega)]
 refine ⟨H2, hG.trans (k2.trans m3 (Nat.le_refl _)) (Nat.le_refl _), ?_⟩
 have e1 : lLoadN 256 [.ptr H.size 0] H1 = some (.agg (mark (repl 256 [.bool false]) l)) := by
  rw [load_cells k1.cells (by rw [hm]; omega), htake]
 have e2 : lLoadN 256 [.ptr H.size 0] H2 = some (.agg (mark (repl 256 [.bool false]) l)) := by
  rw [load_cells m2.cells (by rw [hm]; omega), htake]
 simp only [s_strings_makeASCIISet, eAlloc, effK_mk]
 rw [show (V.int IntKind.i64 (Int.ofNat 0)) = .int .i64 0 from rfl, k4]
 simp only [blockK, Nat.beq_refl, cond_true, seqK, s_strings_makeASCIISet_j0]
 simp only [getK_set, ↓reduceIte, Nat.reduceEqDiff]
 rw [e1, someK_mk, m1, effK_mk]
 simp only [results, resAll, resOf, T.get_set, evalL, lLoad]
 simp only [show (3 : Nat) = 2 ↔ False by decide, if_true, if_false]
 simp [e2, someK]
def trimB (p : UInt8 → Bool) (s : List UInt8) : List UInt8 := ((s.reverse.dropWhile p).reverse).dropWhile p
theorem s_strings_Trim_ret (c : CallK) (N : Nat) (hN : 9223372036854775807 ≤ N) (cut s : List UInt8) (hc2 : 2 ≤ cut.length) (hc3 : cut.length < 9223372036854775807) (hs : s.length < 9223372036854775807) (H : Heap) (hw : WF H)
  (h142 : ∀ (H : Heap), WF H → ∀ τ q, ∃ H', Gr H.size H H' ∧ c f_strings_makeASCIISet [.str cut] H τ q = q (.tup [.agg (mark (repl 256 [.bool false]) cut), .bool true]) H' τ)
  (h143 : ∀ (s : List UInt8) (id : Nat) (H : Heap), s.length < 9223372036854775807 → H.cells? id = some (mark (repl 256 [.bool false]) cut) → ∀ τ q, c f_strings_trimLeftASCII [.str s, .ptr id 0] H τ q = q (.str (s.dropWhile cut.contains)) H τ)
  (h144 : ∀ (s : List UInt8) (id : Nat) (H : Heap), s.length < 9223372036854775807 → H.cells? id = some (mark (repl 256 [.bool false]) cut) → ∀ τ q, c f_strings_trimRightASCII [.str s, .ptr id 0] H τ q = q (.str (s.reverse.dropWhile cut.contains).reverse) H τ)
  (τ : Tape) (q : KV) : ∃ H', Gr H.size H H' ∧ s_strings_Trim c N (.str s) (.str cut) H τ q = q (.str (trimB cut.contains s)) H' τ := by
 cases s with
 | nil =>
  refine ⟨H, Gr.refl hw, ?_⟩
  simp [s_strings_Trim, bin_str, str_eql, someK_mk, gK_skip', pPick, condK_t, trimB, gK]
 | cons x s =>
  obtain ⟨H1, k1, k2⟩ := h142 H hw τ (fun v28 H29 τ30 =>
   someK (pExtract 0 [v28]) fun v31 =>
   someK (pExtract 1 [v28]) fun v32 =>
   effK (eAlloc (repl 256 [(.bool false)]) [] H29 τ30) fun v33 H34 τ35 =>
   effK (eStore 256 [v33, v31] H34 τ35) fun v36 H37 τ38 =>
   condK v32
    (c f_strings_trimRightASCII [.str (x :: s), v33] H37 τ38 fun v39 H40 τ41 =>
   c f_strings_trimLeftASCII [v39, v33] H40 τ41 fun v42 H43 τ44 =>
   q v42 H43 τ44)
    (c f_strings_trimRightUnicode [.str (x :: s), .str cut] H37 τ38 fun v45 H46 τ47 =>
   c f_strings_trimLeftUnicode [v45, .str cut] H46 τ47 fun v48 H49 τ50 =>
   q v48 H49 τ50))
  have hr : (repl 256 [V.bool false]).length = 256 := by rw [repl_length]; rfl
  have hm : (mark (repl 256 [V.bool false]) cut).length = 256 := by rw [mark_length, hr]
  have hB := Blk.new H1 (repl 256 [V.bool false]) (repl 256 [V.bool false]).length true (Nat.le_refl _)
  have hG := Gr.new k1.wf (repl 256 [V.bool false]) (repl 256 [V.bool false]).length true
  have hsc : (mark (repl 256 [V.bool false]) cut).all V.scal = true := by
   have : ∀ (l : List UInt8) (cells : List V), cells.all V.scal = true → (mark cells l).all V.scal = true := by
    intro l
    induction l with
    | nil => intro cells h; exact h
    | cons x l ih =>
     intro cells h
     refine ih _ ?_
     rw [List.all_eq_true] at h ⊢
     intro v hv
     rcases List.mem_or_eq_of_mem_set hv with hv | rfl
     ·exact h v hv
     ·rfl
   exact this cut _ (by rw [repl_one, List.all_eq_true]; intro v hv; rw [List.eq_of_mem_replicate hv]; rfl)
  obtain ⟨H2, m1, m2, m3, m4⟩ := hB.eStore hG.wf 0 (.agg (mark (repl 256 [.bool false]) cut)) 256 hm (by rw [hr]; omega) hsc τ
  have hcells : (repl 256 [V.bool false]).take 0 ++ (V.agg (mark (repl 256 [.bool false]) cut)).cells ++ (repl 256 [V.bool false]).drop (0 + 256) = mark (repl 256 [.bool false]) cut := by
   rw [List.take_zero, List.nil_append, V.cells, List.drop_eq_nil_of_le (by rw [hr]; omega), List.append_nil]
  rw [hcells] at m2
  refine ⟨H2, k1.trans (hG.trans m3 (Nat.le_refl _)) k1.size, ?_⟩
  have e1 : ((x :: s) == ([] : List UInt8)) = false := rfl
  have e2 : (cut == ([] : List UInt8)) = false := by cases cut with
   | nil => simp at hc2
   | cons _ _ => rfl
  have e3 : ((cut.length : Int) == Int.ofNat 1) = false := by simp; omega
  simp only [s_strings_Trim, bin_str, str_eql, someK_mk, e1, gK, retK, effK_mk, e2, beq_self_eq_true, cond_true, pick_mk, cond_false, condK_f, lenS_mk, bin_eql, e3, Bool.false_eq_true, show (false == true) = false from rfl]
  rw [k2]
  simp only [pExtract, List.getElem?_cons_zero, List.getElem?_cons_succ, someK_mk, eAlloc, effK_mk, m1, condK_t]
  rw [h144 _ _ _ hs m2.cells, h143 _ _ _ (by
   have := (List.dropWhile_sublist (l := (x :: s).reverse) cut.contains).length_le
   simp only [List.length_reverse] at this ⊢
   omega) m2.cells]
  rfl
def lowB (x : UInt8) : UInt8 := if 65 ≤ x.toNat ∧ x.toNat ≤ 90 then UInt8.ofNat (x.toNat + 32) else x
def lower (s : List UInt8) : List UInt8 := s.map lowB
def bv (s : List UInt8) : List V := s.map fun c => .int .u8 (c.toNat : Int)
theorem bytesOf_bv (s : List UInt8) : bytesOf (bv s) = some s := by
 induction s with
 | nil => rfl
 | cons x s ih => simp only [bv, List.map_cons, bytesOf] at ih ⊢; rw [ih]; simp
theorem bv_length (s : List UInt8) : (bv s).length = s.length := by simp [bv]
theorem s69_eval (c : CallK) (N : Nat) (x : UInt8) (H : Heap) (τ : Tape) (q : KV) : s_infra_Lower_1 c N (.int .u8 (x.toNat : Int)) H τ q = q (.int .u8 ((lowB x).toNat : Int)) H τ := by
 have hx := u8_lt x
 by_cases h1 : 65 ≤ x.toNat
 ·have e1 : decide (Int.ofNat 65 ≤ (x.toNat : Int)) = true := decide_eq_true (by first | (simp; done) | (simp; omega) | omega)
  by_cases h2 : x.toNat ≤ 90
  ·have e2 : decide ((x.toNat : Int) ≤ Int.ofNat 90) = true := decide_eq_true (by first | (simp; done) | (simp; omega) | omega)
   have e3 : wr .u8 ((x.toNat : Int) + Int.ofNat 32) = ((lowB x).toNat : Int) := by
    rw [wr_eq]
    simp only [lowB, h1, h2, and_self, if_true, IntKind.wrap, IntKind.signed, IntKind.bits]
    simp <;> omega
   simp only [s_infra_Lower_1, bin_geq, e1, gK_do, effK_mk, retK, bin_leq, e2, someK_mk, pick_mk, cond_true, condK_t, bin_add, e3, s_infra_Lower_1_j0]
   simp only [getK_set, ↓reduceIte, Nat.reduceEqDiff]
  ·have e2 : decide ((x.toNat : Int) ≤ Int.ofNat 90) = false := decide_eq_false (by first | (simp; done) | (simp; omega) | omega)
   have e3 : lowB x = x := by simp [lowB, h2]
   simp only [s_infra_Lower_1, bin_geq, e1, gK_do, effK_mk, retK, bin_leq, e2, someK_mk, pick_mk, cond_true, condK_f, s_infra_Lower_1_j0]
   simp only [getK_set, ↓reduceIte, Nat.reduceEqDiff]
   rw [e3]
 ·have e1 : decide (Int.ofNat 65 ≤ (x.toNat : Int)) = false := decide_eq_false (by first | (simp; done) | (simp; omega) | omega)
  have e3 : lowB x = x := by simp [lowB, h1]
  simp only [s_infra_Lower_1, bin_geq, e1, gK_skip, someK_mk, pick_mk, cond_false, condK_f, s_infra_Lower_1_j0]
  simp only [getK_set, ↓reduceIte, Nat.reduceEqDiff]
  rw [e3]
theorem low_loop (c : CallK) (N : Nat) {B id e m : Nat} (k : KC) (h121 : ∀ (x : UInt8) H τ q, c f_infra_Lower_1 [.int .u8 (x.toNat : Int)] H τ q = q (.int .u8 ((lowB x).toNat : Int)) H τ) (l : List UInt8) :
  ∀ (pre : List UInt8) (n : Nat) (fr : T V) (H : Heap) (τ : Tape), WF H → Blk H B id (bv (lower pre ++ l)) → (pre ++ l).length = m → m < 9223372036854775807 → l.length < n →
  fr.get 1 = some (.func f_infra_Lower_1 [] []) → fr.get 5 = some (.sl id 0 m m (some e) 1) → fr.get 10 = some (.sl id 0 m m (some e) 1) → fr.get 11 = some (.int .i64 (m : Int)) → fr.get 12 = some (.int .i64 (pre.length : Int)) →
  ∃ H', Blk H' B id (bv (lower (pre ++ l))) ∧ Gr B H H' ∧ loopK (s_infra_mapped_l1 c N) n ⟨fr, H⟩ τ k = k (.exit 0) ⟨T.set .leaf 5 (.sl id 0 m m (some e) 1), H'⟩ τ := by
 induction l with
 | nil =>
  intro pre n fr H τ hw hB hm hmb hn h1 h5 h10 h11 h12
  obtain ⟨n, rfl⟩ : ∃ j, n = j + 1 := ⟨n - 1, by simp at hn; omega⟩
  refine ⟨H, by simpa using hB, Gr.refl hw, ?_⟩
  have e1 : decide ((pre.length : Int) < (m : Int)) = false := decide_eq_false (by simp at hm; omega)
  rw [loopK_succ]
  simp only [s_infra_mapped_l1, getK_mk h1, getK_mk h5, getK_mk h10, getK_mk h11, getK_mk h12, bin_lss, e1, condK_f, seqK]
 | cons x l ih =>
  intro pre n fr H τ hw hB hm hmb hn h1 h5 h10 h11 h12
  obtain ⟨n, rfl⟩ : ∃ j, n = j + 1 := ⟨n - 1, by simp at hn; omega⟩
  have hlt : pre.length < m := by simp at hm; omega
  have e1 : decide ((pre.length : Int) < (m : Int)) = true := decide_eq_true (by omega)
  have e2 : pSlIdx 1 [.sl id 0 m m (some e) 1, .int .i64 (pre.length : Int)] = some (.ptr id pre.length) := by
   have : Nat.blt pre.length m = true := by simp [Nat.blt]; omega
   simp [pSlIdx, natOf_nat, this]
  have e3 : lLoad1 [.ptr id pre.length] H = some (.int .u8 (x.toNat : Int)) := by
   refine load_cell hB.cells ?_
   have : pre.length = (bv (lower pre)).length := by simp [bv, lower]
   simp [bv, lower]
  obtain ⟨H1, k1, k2, k3, k4⟩ := hB.eStore hw pre.length (.int .u8 ((lowB x).toNat : Int)) 1 rfl (by simp [bv, lower]) rfl τ
  have hcells : (bv (lower pre ++ x :: l)).take pre.length ++ (V.int .u8 ((lowB x).toNat : Int)).cells ++ (bv (lower pre ++ x :: l)).drop (pre.length + 1) = bv (lower (pre ++ [x]) ++ l) := by
   have hl : pre.length = (lower pre).length := by simp [lower]
   simp only [bv, List.map_append, List.map_cons]
   rw [List.take_append_of_le_length (by simp [lower]), List.take_of_length_le (by simp [lower]), List.drop_append]
   simp [lower, V.cells]
  rw [hcells] at k2
  have e5 : wr .i64 ((pre.length : Int) + Int.ofNat 1) = ((pre ++ [x]).length : Int) := by
   rw [wr_id (by first | (simp; done) | (simp; omega) | omega) (by first | (simp; done) | (simp; omega) | omega)]
   simp
  obtain ⟨H', m1, m2, m3⟩ := ih (pre ++ [x]) n (T.set (T.set (T.set (T.set (T.set (T.set (T.set .leaf 1 (.func f_infra_Lower_1 [] [])) 5 (.sl id 0 m m (some e) 1)) 10 (.sl id 0 m m (some e) 1)) 11 (.int .i64 (m : Int))) 12 (.int .i64 (pre.length : Int))) 23 (.int .i64 ((pre ++ [x]).length : Int))) 12 (.int .i64 ((pre ++ [x]).length : Int))) H1 τ k3.wf k2 (by simpa using hm) hmb (by simp at hn; omega) (by simp [T.get_set]) (by simp [T.get_set]) (by simp [T.get_set]) (by simp [T.get_set]) (by simp [T.get_set])
  refine ⟨H', by simpa using m1, k3.trans m2 (Nat.le_refl _), ?_⟩
  rw [loopK_succ]
  simp only [s_infra_mapped_l1, getK_mk h1, getK_mk h5, getK_mk h10, getK_mk h11, getK_mk h12, bin_lss, e1, condK_t, e2, someK_mk, e3, opK, List.nil_append, List.append_nil, h121, k1, effK_mk, bin_add, e5, seqK, m3]
theorem s_infra_mapped_ret (c : CallK) (N : Nat) (hN : 9223372036854775807 ≤ N) (s : List UInt8) (hs : s.length ≤ 140737488355328) (H : Heap) (hw : WF H)
  (h121 : ∀ (x : UInt8) H τ q, c f_infra_Lower_1 [.int .u8 (x.toNat : Int)] H τ q = q (.int .u8 ((lowB x).toNat : Int)) H τ) (τ : Tape) (q : KV) :
  ∃ H' τ', Gr H.size H H' ∧ s_infra_mapped c N (.str s) (.func f_infra_Lower_1 [] []) H τ q = q (.str (lower s)) H' τ' := by
 have hB := Blk.new H (bv s) ((s.length + spare s.length (τ 0)) * 1) false (by rw [bv_length]; omega)
 have hG := Gr.new hw (bv s) ((s.length + spare s.length (τ 0)) * 1) false
 obtain ⟨H', m1, m2, m3⟩ := low_loop c N (e := spare s.length (τ 0)) (m := s.length) (blockK 0 (seqK (s_infra_mapped_j0 c N q) (endK [(.t 4)] q))) h121 s [] N (T.set (T.set (T.set (T.set (T.set .leaf 1 (.func f_infra_Lower_1 [] [])) 5 (.sl H.size 0 s.length s.length (some (spare s.length (τ 0))) 1)) 10 (.sl H.size 0 s.length s.length (some (spare s.length (τ 0))) 1)) 11 (.int .i64 (s.length : Int))) 12 (.int .i64 0)) _ τ.tail hG.wf (by simpa [lower] using hB) (by simp) (by omega) (by omega) (by simp [T.get_set]) (by simp [T.get_set]) (by simp [T.get_set]) (by simp [T.get_set]) (by simp [T.get_set])
 refine ⟨H', τ.tail, hG.trans m2 (Nat.le_refl _), ?_⟩
 have e1 : eStrBytes [.str s] H τ = some (.sl H.size 0 s.length s.length (some (spare s.length (τ 0))) 1, H.new (bv s) ((s.length + spare s.length (τ 0)) * 1) false, τ.tail) := by
  simp only [eStrBytes, Nat.ble_eq_true_of_le hs, cond_true, fresh]
  rfl
 have e2 : pLen [.sl H.size 0 s.length s.length (some (spare s.length (τ 0))) 1] = some (.int .i64 (s.length : Int)) := rfl
 have e3 : lBytesStr [.sl H.size 0 s.length s.length (some (spare s.length (τ 0))) 1] H' = some (.str (lower s)) := by
  have hl : (bv (lower ([] ++ s))).length = s.length := by simp [bv, lower]
  simp only [lBytesStr, loads_cells m1.cells (show 0 + s.length ≤ _ by rw [hl]; omega), List.drop_zero]
  rw [List.take_of_length_le (by rw [hl]; omega)]
  simp [bytesOf_bv]
 simp only [s_infra_mapped, e1, effK_mk, e2, someK_mk]
 rw [show (V.int IntKind.i64 (Int.ofNat 0)) = .int .i64 0 from rfl, m3]
 simp only [blockK, Nat.beq_refl, cond_true, seqK, s_infra_mapped_j0]
 simp only [getK_set, ↓reduceIte, Nat.reduceEqDiff]
 rw [e3, someK_mk]
def mostI : Int := 9223372036854775807
def intStep (n : Int) (d : Int) : Int := if (mostI - d).tdiv 10 < n then mostI else n * 10 + d
def intL : List UInt8 → Int → Option Int
 | [], n => some n
 | x :: l, n => if 48 ≤ x.toNat ∧ x.toNat ≤ 57 then intL l (intStep n ((x.toNat : Int) - 48)) else none
theorem intStep_range {n d : Int} (h0 : 0 ≤ n) (h1 : n ≤ mostI) (hd : 0 ≤ d) (hd' : d ≤ 9) : 0 ≤ intStep n d ∧ intStep n d ≤ mostI := by
 unfold intStep mostI at *
 split
 ·omega
 ·rename_i h
  rw [Int.tdiv_eq_ediv_of_nonneg (by omega)] at h
  omega
theorem int_loop (c : CallK) (N : Nat) (k : KC) (H : Heap) (s : List UInt8) (hs : s.length < 9223372036854775807) (l : List UInt8) : ∀ (pre : List UInt8) (v : Int) (n : Nat) (fr : T V) (τ : Tape), s = pre ++ l → 0 ≤ v → v ≤ mostI → l.length < n →
  fr.get 0 = some (.str s) → fr.get 4 = some (.int .i64 v) → fr.get 9 = some (.int .i64 (s.length : Int)) → fr.get 10 = some (.int .i64 (pre.length : Int)) →
  loopK (s_infra_Int_l1 c N) n ⟨fr, H⟩ τ k = match intL l v with
   | some m => k (.exit 0) ⟨T.set (T.set .leaf 0 (.str s)) 4 (.int .i64 m), H⟩ τ
   | none => k .ret ⟨T.set (T.set .leaf 2 (.int .i64 (.ofNat 0))) 3 (.bool false), H⟩ τ := by
 induction l with
 | nil =>
  intro pre v n fr τ he h0 h1 hn f0 f4 f9 f10
  obtain ⟨n, rfl⟩ : ∃ j, n = j + 1 := ⟨n - 1, by simp at hn; omega⟩
  have e1 : decide ((pre.length : Int) < (s.length : Int)) = false := decide_eq_false (by rw [he]; simp)
  rw [loopK_succ]
  simp only [s_infra_Int_l1, getK_mk f0, getK_mk f4, getK_mk f9, getK_mk f10, bin_lss, e1, condK_f, seqK, intL]
 | cons x l ih =>
  intro pre v n fr τ he h0 h1 hn f0 f4 f9 f10
  obtain ⟨n, rfl⟩ : ∃ j, n = j + 1 := ⟨n - 1, by simp at hn; omega⟩
  have e1 : decide ((pre.length : Int) < (s.length : Int)) = true := decide_eq_true (by rw [he]; first | (simp; done) | (simp; omega))
  have e2 : pStrIndex [.str s, .int .i64 (pre.length : Int)] = some (.int .u8 (x.toNat : Int)) := strIndex_mk (by rw [he]; simp)
  have hx := u8_lt x
  rw [loopK_succ]
  simp only [s_infra_Int_l1, getK_mk f0, getK_mk f4, getK_mk f9, getK_mk f10, bin_lss, e1, condK_t, e2, someK_mk]
  by_cases h48 : 48 ≤ x.toNat
  ·have e3 : decide ((x.toNat : Int) < Int.ofNat 48) = false := decide_eq_false (by first | (simp; done) | (simp; omega) | omega)
   by_cases h57 : x.toNat ≤ 57
   ·have e4 : decide (Int.ofNat 57 < (x.toNat : Int)) = false := decide_eq_false (by first | (simp; done) | (simp; omega) | omega)
    have e5 : wr .u8 ((x.toNat : Int) - Int.ofNat 48) = (x.toNat : Int) - 48 := by
     rw [wr_eq]; simp [IntKind.wrap, IntKind.signed, IntKind.bits]; omega
    have e6 : wr .i64 ((x.toNat : Int) - 48) = (x.toNat : Int) - 48 := wr_id (by omega) (by omega)
    have e7 : wr .i64 (Int.ofNat 9223372036854775807 - ((x.toNat : Int) - 48)) = mostI - ((x.toNat : Int) - 48) := by
     rw [wr_id (by first | (simp; done) | (simp; omega) | omega) (by first | (simp; done) | (simp; omega) | omega)]; rfl
    have e8 : wr .i64 ((mostI - ((x.toNat : Int) - 48)).tdiv (Int.ofNat 10)) = (mostI - ((x.toNat : Int) - 48)).tdiv 10 := by
     have : (mostI - ((x.toNat : Int) - 48)).tdiv (Int.ofNat 10) = (mostI - ((x.toNat : Int) - 48)).tdiv 10 := rfl
     rw [this, Int.tdiv_eq_ediv_of_nonneg (by unfold mostI; omega)]
     unfold mostI
     exact wr_id (by omega) (by omega)
    have e9 : wr .i64 ((pre.length : Int) + Int.ofNat 1) = ((pre ++ [x]).length : Int) := by
     have : s.length = pre.length + (l.length + 1) := by rw [he]; simp
     rw [wr_id (by first | (simp; done) | (simp; omega) | omega) (by first | (simp; done) | (simp; omega) | omega)]
     simp
    have hstep := intStep_range h0 h1 (d := (x.toNat : Int) - 48) (by omega) (by omega)
    have hI : intL (x :: l) v = intL l (intStep v ((x.toNat : Int) - 48)) := by simp only [intL, h48, h57, and_self, if_true]
    simp only [bin_lss, e3, gK_do', effK_mk, retK, bin_gtr, e4, someK_mk, pick_mk, cond_false, condK_f, bin_sub, e5, toInt_mk, e6, e7]
    rw [bin_quo _ _ _ (by decide)]
    simp only [e8, bin_gtr]
    by_cases hq : (mostI - ((x.toNat : Int) - 48)).tdiv 10 < v
    ·have hI2 : intStep v ((x.toNat : Int) - 48) = mostI := by simp only [intStep, hq, if_true]
     rw [decide_eq_true hq]
     simp only [condK_t, s_infra_Int_j2]
     simp only [getK_set, ↓reduceIte, Nat.reduceEqDiff]
     simp only [bin_add, e9, seqK]
     rw [ih (pre ++ [x]) mostI n _ τ (by rw [he]; simp) (by unfold mostI; omega) (Int.le_refl _) (by simp at hn; omega) (by simp [T.get_set]) (by simp [T.get_set]; rfl) (by simp [T.get_set]) (by simp [T.get_set]), hI, hI2]
    ·have hI2 : intStep v ((x.toNat : Int) - 48) = v * 10 + ((x.toNat : Int) - 48) := by simp only [intStep, hq, if_false]
     rw [decide_eq_false hq]
     have hv : v * 10 + ((x.toNat : Int) - 48) ≤ mostI := by rw [← hI2]; exact hstep.2
     have e10 : wr .i64 (v * Int.ofNat 10) = v * 10 := by
      have : v * Int.ofNat 10 = v * 10 := rfl
      rw [this, wr_id (by omega) (by unfold mostI at hv; omega)]
     have e11 : wr .i64 (v * 10 + ((x.toNat : Int) - 48)) = v * 10 + ((x.toNat : Int) - 48) := wr_id (by omega) hv
     simp only [condK_f, bin_mul, e10, bin_add, e11, s_infra_Int_j2]
     simp only [getK_set, ↓reduceIte, Nat.reduceEqDiff]
     simp only [bin_add, e9, seqK]
     rw [ih (pre ++ [x]) (v * 10 + ((x.toNat : Int) - 48)) n _ τ (by rw [he]; simp) (by omega) hv (by simp at hn; omega) (by simp [T.get_set]) (by simp [T.get_set]) (by simp [T.get_set]) (by simp [T.get_set]), hI, hI2]
   ·have e4 : decide (Int.ofNat 57 < (x.toNat : Int)) = true := decide_eq_true (by first | (simp; done) | (simp; omega) | omega)
    have hI : intL (x :: l) v = none := by simp only [intL, h57, and_false, if_false]
    simp only [bin_lss, e3, gK_do', effK_mk, retK, bin_gtr, e4, someK_mk, pick_mk, cond_false, condK_t, seqK, hI]
  ·have e3 : decide ((x.toNat : Int) < Int.ofNat 48) = true := decide_eq_true (by first | (simp; done) | (simp; omega) | omega)
   have hI : intL (x :: l) v = none := by simp only [intL, h48, false_and, if_false]
   simp only [bin_lss, e3, gK_skip', someK_mk, pick_mk, cond_true, condK_t, seqK, hI]
def intB (s : List UInt8) : Int × Bool :=
 match intL s 0 with
 | some n => (n, decide (0 < s.length))
 | none => (0, false)
theorem s67_eval (c : CallK) (N : Nat) (hN : 9223372036854775807 ≤ N) (s : List UInt8) (hs : s.length < 9223372036854775807) (H : Heap) (τ : Tape) (q : KV) :
  s_infra_Int c N (.str s) H τ q = q (.tup [.int .i64 (intB s).1, .bool (intB s).2]) H τ := by
 have h := int_loop c N (blockK 0 (seqK (s_infra_Int_j0 c N q) (endK [(.t 2), (.t 3)] q))) H s hs s [] 0 N (T.set (T.set (T.set (T.set .leaf 0 (.str s)) 4 (.int .i64 0)) 9 (.int .i64 (s.length : Int))) 10 (.int .i64 0)) τ rfl (Int.le_refl _) (by unfold mostI; omega) (by omega) (by simp [T.get_set]) (by simp [T.get_set]) (by simp [T.get_set]) (by simp [T.get_set])
 simp only [s_infra_Int, lenS_mk, someK_mk]
 rw [show (V.int IntKind.i64 (Int.ofNat 0)) = .int .i64 0 from rfl, h]
 unfold intB
 cases hI : intL s 0 with
 | none =>
  simp only [blockK, seqK, endK, results, resAll, resOf, T.get_set]
  rfl
 | some m =>
  simp only [blockK, Nat.beq_refl, cond_true, seqK, s_infra_Int_j0]
  simp only [getK_set, ↓reduceIte, Nat.reduceEqDiff]
  rw [lenS_mk, someK_mk, bin_gtr]
  simp
abbrev Bs := List UInt8
abbrev LowOk (c : CallK) : Prop := ∀ (s : Bs), s.length ≤ 140737488355328 → ∀ (H : Heap), WF H → ∀ τ q, ∃ H' τ', Gr H.size H H' ∧ c f_infra_Lower [.str s] H τ q = q (.str (lower s)) H' τ'
def hcells (l : List (Bs × Bs)) : List V := l.flatMap fun h => [.str h.1, .str h.2]
theorem hcells_cons (h : Bs × Bs) (l : List (Bs × Bs)) : hcells (h :: l) = .str h.1 :: .str h.2 :: hcells l := rfl
theorem hcells_append (a b : List (Bs × Bs)) : hcells (a ++ b) = hcells a ++ hcells b := by simp [hcells]
theorem hcells_length (l : List (Bs × Bs)) : (hcells l).length = l.length * 2 := by
 induction l with
 | nil => rfl
 | cons h l ih => rw [hcells_cons]; simp only [List.length_cons, ih]; omega
abbrev TrimOk (c : CallK) (cut : Bs) : Prop := ∀ (s : Bs), s.length < 9223372036854775807 → ∀ (H : Heap), WF H → ∀ τ q, ∃ H', Gr H.size H H' ∧ c f_strings_Trim [.str s, .str cut] H τ q = q (.str (trimB cut.contains s)) H' τ
def cutB (x : UInt8) : Bs → Option (Bs × Bs)
 | [] => none
 | y :: l => if y = x then some ([], l) else match cutB x l with
  | some (a, b) => some (y :: a, b)
  | none => none
theorem cutB_spec (x : UInt8) : ∀ (s : Bs), (cutB x s = none → idxB x.toNat s 0 = -1) ∧ (∀ a b, cutB x s = some (a, b) → s = a ++ x :: b ∧ idxB x.toNat s 0 = (a.length : Int)) := by
 intro s
 have key : ∀ (s : Bs) (i : Nat), (cutB x s = none → idxB x.toNat s i = -1) ∧ (∀ a b, cutB x s = some (a, b) → s = a ++ x :: b ∧ idxB x.toNat s i = ((i + a.length : Nat) : Int)) := by
  intro s
  induction s with
  | nil => intro i; exact ⟨fun _ => rfl, fun a b h => by cases h⟩
  | cons y l ih =>
   intro i
   by_cases h : y = x
   ·subst h
    refine ⟨fun h => by simp [cutB] at h, fun a b h => ?_⟩
    simp only [cutB, if_true, Option.some.injEq, Prod.mk.injEq] at h
    obtain ⟨rfl, rfl⟩ := h
    refine ⟨rfl, ?_⟩
    simp [idxB, forceN_eq]
   ·have hb : Nat.beq y.toNat x.toNat = false := by
     cases hb : Nat.beq y.toNat x.toNat with
     | false => rfl
     | true => exact absurd (UInt8.toNat_inj.1 (Nat.eq_of_beq_eq_true hb)) h
    simp only [cutB, h, if_false, idxB, hb, cond_false]
    obtain ⟨h1, h2⟩ := ih (i + 1)
    cases hc : cutB x l with
    | none => exact ⟨fun _ => h1 hc, fun a b h => by cases h⟩
    | some ab =>
     obtain ⟨a', b'⟩ := ab
     refine ⟨fun h => (by cases h), fun a b h => ?_⟩
     cases h
     obtain ⟨h3, h4⟩ := h2 a' b' hc
     refine ⟨by rw [h3]; rfl, ?_⟩
     rw [h4]
     simp <;> omega
 have := key s 0
 simpa using this
theorem s85_one (c : CallK) (N : Nat) (s : Bs) (x : UInt8) (h131 : ∀ vs H τ q, c f_stringslite_IndexByte vs H τ q = effK (idxP vs H τ) q) (H : Heap) (τ : Tape) (q : KV) :
  s_stringslite_Index c N (.str s) (.str [x]) H τ q = q (.int .i64 (idxB x.toNat s 0)) H τ := by
 have e1 : ((([x] : Bs).length : Int) == Int.ofNat 0) = false := rfl
 have e2 : ((([x] : Bs).length : Int) == Int.ofNat 1) = true := rfl
 have e3 : pStrIndex [.str [x], .int .i64 (.ofNat 0)] = some (.int .u8 (.ofNat x.toNat)) := rfl
 have e4 : x.toNat % 256 = x.toNat := Nat.mod_eq_of_lt (u8_lt x)
 simp only [s_stringslite_Index, lenS_mk, someK_mk, bin_eql, e1, gK_do', retK, effK_mk, bin_str, str_eql, pick_mk, cond_false, e2, condK_t, e3, h131, idxP, e4]
 cases hx : ([x] == s) with
 | false => simp only [condK_f]
 | true =>
  have : s = [x] := (beq_iff_eq.1 hx).symm
  subst this
  simp [condK_t, idxB, forceN_eq]
theorem s66_one (c : CallK) (N : Nat) (s : Bs) (x : UInt8) (hs : s.length < 9223372036854775807) (h130 : ∀ (s : Bs) (x : UInt8) H τ q, c f_stringslite_Index [.str s, .str [x]] H τ q = q (.int .i64 (idxB x.toNat s 0)) H τ) (H : Heap) (τ : Tape) (q : KV) :
  s_stringslite_Cut c N (.str s) (.str [x]) H τ q = q (match cutB x s with | some (a, b) => .tup [.str a, .str b, .bool true] | none => .tup [.str s, .str [], .bool false]) H τ := by
 obtain ⟨h1, h2⟩ := cutB_spec x s
 simp only [s_stringslite_Cut, h130]
 cases hc : cutB x s with
 | none =>
  rw [h1 hc, bin_geq]
  rfl
 | some ab =>
  obtain ⟨a, b⟩ := ab
  obtain ⟨h3, h4⟩ := h2 a b hc
  have e1 : decide (Int.ofNat 0 ≤ (a.length : Int)) = true := decide_eq_true (by simp <;> omega)
  have hl : a.length < s.length := by rw [h3]; simp
  have e2 : pStrSlice false true [.str s, .int .i64 (a.length : Int)] = some (.str a) := by
   rw [strSlice_hi (by omega), h3]; simp
  have e3 : wr .i64 ((a.length : Int) + (([x] : Bs).length : Int)) = ((a.length + 1 : Nat) : Int) := by
   rw [wr_id (by simp; omega) (by simp; omega)]; simp
  have e4 : pStrSlice true false [.str s, .int .i64 ((a.length + 1 : Nat) : Int)] = some (.str b) := by
   rw [strSlice_lo (by omega), h3]; simp
  rw [h4, bin_geq, e1, condK_t, e2, someK_mk, lenS_mk, someK_mk, bin_add, e3, e4, someK_mk]
theorem s37_one (c : CallK) (N : Nat) (s : Bs) (x : UInt8) (h103 : ∀ H τ q, c f_stringslite_Cut [.str s, .str [x]] H τ q = q (match cutB x s with | some (a, b) => .tup [.str a, .str b, .bool true] | none => .tup [.str s, .str [], .bool false]) H τ) (H : Heap) (τ : Tape) (q : KV) :
  s_strings_Cut c N (.str s) (.str [x]) H τ q = q (match cutB x s with | some (a, b) => .tup [.str a, .str b, .bool true] | none => .tup [.str s, .str [], .bool false]) H τ := by
 simp only [s_strings_Cut, h103]
 cases hc : cutB x s with
 | none => rfl
 | some ab => rfl
def blank : UInt8 → Bool := ([9, 10, 12, 13, 32] : Bs).contains
def strip (s : Bs) : Bs := trimB blank s
abbrev StripOk (c : CallK) : Prop := ∀ (s : Bs), s.length < 9223372036854775807 → ∀ (H : Heap), WF H → ∀ τ q, ∃ H', Gr H.size H H' ∧ c f_infra_Strip [.str s] H τ q = q (.str (strip s)) H' τ
theorem trimB_length (p : UInt8 → Bool) (s : Bs) : (trimB p s).length ≤ s.length := by
 unfold trimB
 have h1 := (List.dropWhile_sublist (l := (s.reverse.dropWhile p).reverse) p).length_le
 have h2 := (List.dropWhile_sublist (l := s.reverse) p).length_le
 simp only [List.length_reverse] at h1 h2
 omega
theorem s_infra_Strip_ret (c : CallK) (N : Nat) (h114 : TrimOk c [9, 10, 12, 13, 32]) (s : Bs) (hs : s.length < 9223372036854775807) (H : Heap) (hw : WF H) (τ : Tape) (q : KV) : ∃ H', Gr H.size H H' ∧ s_infra_Strip c N (.str s) H τ q = q (.str (strip s)) H' τ := by
 obtain ⟨H', h1, h2⟩ := h114 s hs H hw τ (fun v0 H1 τ2 => q v0 H1 τ2)
 exact ⟨H', h1, h2⟩
end Go.Am.X

namespace Go.Am.X
open Go Go.ChangeShapes Go.WideShapes Go.RowKit
end Go.Am.X

namespace Go.Am.X
end Go.Am.X

namespace Go.Am.X
theorem l_book_Same_stringw (c : CallK) (N : Nat) (a b : V) (la : List Bs) (hlen : la.length < 1000000) (H : Heap) (ha : Rd H 1 a la.length (la.map V.str)) (hb : Rd H 1 b la.length (la.map V.str)) :
  ∀ (l pre : List Bs) (fr : T V) (τ : Tape) (m : Nat), la = pre ++ l → l.length < m → fr.get 0 = some a → fr.get 1 = some b → fr.get 5 = some (.int .i64 (pre.length : Int)) →
  ∀ k, loopK (s_book_Same_string_l1 c N) m ⟨fr, H⟩ τ k = k (.exit 0) ⟨.leaf, H⟩ τ := by
 intro l
 induction l with
 | nil =>
  intro pre fr τ m he hm f0 f1 f5 k
  obtain ⟨m, rfl⟩ : ∃ j, m = j + 1 := ⟨m - 1, by omega⟩
  have e1 : decide ((pre.length : Int) < (la.length : Int)) = false := decide_eq_false (by rw [he]; simp)
  rw [loopK_succ]
  simp only [s_book_Same_string_l1, getK_mk f0, getK_mk f1, getK_mk f5, ha.pLen, someK_n, bin_lss, e1, condK_fn]
  rfl
 | cons x l ih =>
  intro pre fr τ m he hm f0 f1 f5 k
  obtain ⟨m, rfl⟩ : ∃ j, m = j + 1 := ⟨m - 1, by omega⟩
  have e1 : decide ((pre.length : Int) < (la.length : Int)) = true := decide_eq_true (by rw [he]; simp; omega)
  obtain ⟨p, p1, p2⟩ := ha.elem1 (i := pre.length) (x := .str x) (by rw [he]; simp)
  obtain ⟨p', p3, p4⟩ := hb.elem1 (i := pre.length) (x := .str x) (by rw [he]; simp)
  have hl : pre.length < la.length := by rw [he]; simp
  have en : strBin .neq x x = some (.bool false) := by rw [str_neq]; simp
  have e3 : wr .i64 ((pre.length : Int) + Int.ofNat 1) = ((pre ++ [x]).length : Int) := by
   rw [wr_id (by simp; omega) (by simp; omega)]; simp
  rw [loopK_succ]
  simp only [s_book_Same_string_l1, getK_mk f0, getK_mk f1, getK_mk f5, ha.pLen, someK_n, bin_lss, e1, condK_tn, p1, p2, p3, p4, bin_str, en, condK_fn, bin_add .i64, e3]
  exact ih (pre ++ [x]) _ τ m (by rw [he]; simp) (by simp at hm; omega) (by simp [T.get_set]) (by simp [T.get_set]) (by simp [T.get_set]) k
theorem s_book_Same_string_ret (c : CallK) (N : Nat) (hN : 9223372036854775807 < N) (a b : V) (la : List Bs) (hlen : la.length < 1000000) (H : Heap) (ha : Rd H 1 a la.length (la.map V.str)) (hb : Rd H 1 b la.length (la.map V.str)) (τ : Tape) (q : KV) :
  s_book_Same_string c N a b H τ q = q (.bool true) H τ := by
 have e2 : ((la.length : Int) != (la.length : Int)) = false := by simp
 simp only [s_book_Same_string, ha.pLen, hb.pLen, someK_n, bin_neq, e2, condK_fn]
 rw [l_book_Same_stringw c N a b la hlen H ha hb la [] _ τ N rfl (by omega) (by simp [T.get_set]) (by simp [T.get_set]) (by simp [T.get_set])]
 simp only [blockK, Nat.beq_refl, cond_true, seqK, s_book_Same_string_j0]
end Go.Am.X

namespace Go.Am.X
abbrev StripOk' (c : CallK) : Prop := ∀ (s : Bs), s.length < 9223372036854775807 → ∀ (H : Heap), WF H → ∀ τ, ∃ H' τ', Gr H.size H H' ∧ ∀ q, c f_infra_Strip [.str s] H τ q = q (.str (strip s)) H' τ'
abbrev CutOk (c : CallK) (x : UInt8) : Prop := ∀ (s : Bs), s.length < 9223372036854775807 → ∀ H τ q, c f_strings_Cut [.str s, .str [x]] H τ q = q (match cutB x s with | some (a, b) => .tup [.str a, .str b, .bool true] | none => .tup [.str s, .str [], .bool false]) H τ
abbrev IntOk (c : CallK) : Prop := ∀ (s : Bs), s.length < 9223372036854775807 → ∀ H τ q, c f_infra_Int [.str s] H τ q = q (.tup [.int .i64 (intB s).1, .bool (intB s).2]) H τ
abbrev C (N d : Nat) : CallK := callK (tabOf tabE N) d
theorem C_nat (N d : Nat) : CallNat (C N d) := tab_nat N d
section
variable {N : Nat} (hN : 9223372036854775807 < N)
include hN
theorem d_asciiSet_contains (d : Nat) (cut : Bs) {id : Nat} {H : Heap} (hc : H.cells? id = some (mark (repl 256 [.bool false]) cut)) (x : UInt8) (τ : Tape) (q : KV) : C N (d + 1) f_asciiSet_contains [.ptr id 0, .int .u8 (x.toNat : Int)] H τ q = q (.bool (cut.contains x)) H τ := by
 have hr : (repl 256 [V.bool false]).length = 256 := by rw [repl_length]; rfl
 have hg : ∀ i, i < 256 → (repl 256 [V.bool false])[i]? = some (.bool false) := fun i hi => by
  rw [repl_one, List.getElem?_replicate, if_pos hi]
 have := mark_get cut (repl 256 [V.bool false]) x hr (fun i hi => ⟨false, hg i hi⟩) false (hg _ (u8_lt x))
 exact s81_eval (C N d) N hc (by simpa using this) τ q
theorem d_strings_trimLeftASCII (d : Nat) (hd : 2 ≤ d) (cut s : Bs) (id : Nat) (H : Heap) (hs : s.length < 9223372036854775807) (hc : H.cells? id = some (mark (repl 256 [.bool false]) cut)) (τ : Tape) (q : KV) : C N d f_strings_trimLeftASCII [.str s, .ptr id 0] H τ q = q (.str (s.dropWhile cut.contains)) H τ := by
 obtain ⟨d, rfl⟩ : ∃ e, d = e + 1 + 1 := ⟨d - 2, by omega⟩
 show s_strings_trimLeftASCII (C N (d + 1)) N (.str s) (.ptr id 0) H τ q = _
 simp only [s_strings_trimLeftASCII]
 rw [trimL_loop (C N (d + 1)) N cut.contains (fun x τ q => d_asciiSet_contains hN d cut hc x τ q) _ s N _ τ (by omega) (by simp [T.get_set]) (by simp [T.get_set])]
 simp only [blockK, Nat.beq_refl, cond_true, seqK, s_strings_trimLeftASCII_j0, getK_set, ↓reduceIte]
theorem d_strings_trimRightASCII (d : Nat) (hd : 2 ≤ d) (cut s : Bs) (id : Nat) (H : Heap) (hs : s.length < 9223372036854775807) (hc : H.cells? id = some (mark (repl 256 [.bool false]) cut)) (τ : Tape) (q : KV) : C N d f_strings_trimRightASCII [.str s, .ptr id 0] H τ q = q (.str (s.reverse.dropWhile cut.contains).reverse) H τ := by
 obtain ⟨d, rfl⟩ : ∃ e, d = e + 1 + 1 := ⟨d - 2, by omega⟩
 show s_strings_trimRightASCII (C N (d + 1)) N (.str s) (.ptr id 0) H τ q = _
 simp only [s_strings_trimRightASCII]
 rw [trimR_loop (C N (d + 1)) N cut.contains (fun x τ q => d_asciiSet_contains hN d cut hc x τ q) _ s.reverse N _ τ (by simpa using hs) (by simp; omega) (by simp [T.get_set]) (by simp [T.get_set])]
 simp only [blockK, Nat.beq_refl, cond_true, seqK, s_strings_trimRightASCII_j0, getK_set, ↓reduceIte]
theorem d_strings_Trim (d : Nat) (hd : 3 ≤ d) (cut : Bs) (h2 : 2 ≤ cut.length) (h3 : cut.length < 9223372036854775807) (ha : ∀ x ∈ cut, x.toNat < 128) : TrimOk (C N d) cut := by
 intro s hs H hw τ q
 obtain ⟨d, rfl⟩ : ∃ e, d = e + 1 := ⟨d - 1, by omega⟩
 refine s_strings_Trim_ret (C N d) N (Nat.le_of_lt hN) cut s h2 h3 hs H hw (fun H hw τ q => ?_) (fun s id H hs hc τ q => d_strings_trimLeftASCII hN d (by omega) cut s id H hs hc τ q) (fun s id H hs hc τ q => d_strings_trimRightASCII hN d (by omega) cut s id H hs hc τ q) τ q
 obtain ⟨d, rfl⟩ : ∃ e, d = e + 1 := ⟨d - 1, by omega⟩
 exact s_strings_makeASCIISet_ret (C N d) N (Nat.le_of_lt hN) cut ha h3 H hw τ q
theorem d_infra_Strip (d : Nat) (hd : 4 ≤ d) : StripOk (C N d) := by
 intro s hs H hw τ q
 obtain ⟨d, rfl⟩ : ∃ e, d = e + 1 := ⟨d - 1, by omega⟩
 exact s_infra_Strip_ret (C N d) N (d_strings_Trim hN d (by omega) [9, 10, 12, 13, 32] (by decide) (by decide) (by decide)) s hs H hw τ q
theorem d42' (d : Nat) (hd : 4 ≤ d) : StripOk' (C N d) := by
 intro s hs H hw τ
 obtain ⟨H', k1, k2⟩ := d_infra_Strip hN d hd s hs H hw τ retK
 exact ⟨H', τ, k1, fun q => (C_nat N d).mk k2 q⟩
theorem d_infra_Lower (d : Nat) (hd : 3 ≤ d) : LowOk (C N d) := by
 intro s hs H hw τ q
 obtain ⟨d, rfl⟩ : ∃ e, d = e + 1 + 1 + 1 := ⟨d - 3, by omega⟩
 obtain ⟨H', τ', k1, k2⟩ := s_infra_mapped_ret (C N (d + 1)) N (Nat.le_of_lt hN) s hs H hw (fun x H τ q => s69_eval (C N d) N x H τ q) τ (fun v0 H1 τ2 => q v0 H1 τ2)
 exact ⟨H', τ', k1, k2⟩
end
structure Small (hs : List (Bs × Bs)) : Prop where
 len : hs.length ≤ 1000
 all : ∀ h ∈ hs, h.1.length ≤ 10000 ∧ h.2.length ≤ 10000
section
variable {N : Nat} (hN : 9223372036854775807 < N)
include hN
theorem d_strings_Cut (d : Nat) (hd : 4 ≤ d) (x : UInt8) : CutOk (C N d) x := by
 intro s hs H τ q
 obtain ⟨d, rfl⟩ : ∃ e, d = e + 1 + 1 + 1 + 1 := ⟨d - 4, by omega⟩
 exact s37_one (C N (d + 1 + 1 + 1)) N s x (fun H τ q => s66_one (C N (d + 1 + 1)) N s x hs (fun s x H τ q => s85_one (C N (d + 1)) N s x (fun _ _ _ _ => rfl) H τ q) H τ q) H τ q
theorem d_infra_Int (d : Nat) (hd : 1 ≤ d) : IntOk (C N d) := by
 intro s hs H τ q
 obtain ⟨d, rfl⟩ : ∃ e, d = e + 1 := ⟨d - 1, by omega⟩
 exact s67_eval (C N d) N (Nat.le_of_lt hN) s hs H τ q
end
end Go.Am.X

namespace Go.Am.X
theorem idxB_none (x : Nat) : ∀ (l : Bs) (i : Nat), (∀ y ∈ l, y.toNat ≠ x) → idxB x l i = -1 := by
 intro l
 induction l with
 | nil => intro i _; rfl
 | cons y l ih =>
  intro i h
  have e : Nat.beq y.toNat x = false := by
   cases hb : Nat.beq y.toNat x with
   | false => rfl
   | true => exact absurd (Nat.eq_of_beq_eq_true hb) (h y (by simp))
  simp only [idxB, e, cond_false]
  exact ih _ (fun z hz => h z (by simp [hz]))
theorem idxB_some (x : Nat) : ∀ (l : Bs) (i : Nat), (∃ y ∈ l, y.toNat = x) → 0 ≤ idxB x l i := by
 intro l
 induction l with
 | nil => intro i ⟨y, h, _⟩; simp at h
 | cons y l ih =>
  intro i h
  simp only [idxB, forceN_eq]
  cases hb : Nat.beq y.toNat x with
  | true => exact Int.natCast_nonneg _
  | false =>
   rw [cond_false]
   refine ih _ ?_
   obtain ⟨z, hz, e⟩ := h
   rcases List.mem_cons.1 hz with rfl | hz
   ·rw [e] at hb
    rw [Nat.beq_refl] at hb; cases hb
   ·exact ⟨z, hz, e⟩
abbrev Idx70 (c : CallK) : Prop := ∀ (s : Bs) (x : UInt8) H τ q, c f_strings_IndexByte [.str s, .int .u8 (x.toNat : Int)] H τ q = q (.int .i64 (idxB x.toNat s 0)) H τ
theorem s_strings_IndexByte_ret (c : CallK) (N : Nat) (h86 : ∀ (s : Bs) (x : UInt8) H τ q, c f_stringslite_IndexByte [.str s, .int .u8 (x.toNat : Int)] H τ q = q (.int .i64 (idxB x.toNat s 0)) H τ) (s : Bs) (x : UInt8) (H : Heap) (τ : Tape) (q : KV) :
  s_strings_IndexByte c N (.str s) (.int .u8 (x.toNat : Int)) H τ q = q (.int .i64 (idxB x.toNat s 0)) H τ := by
 simp only [s_strings_IndexByte, h86]
end Go.Am.X

namespace Go.Am.X
end Go.Am.X

namespace Go.Am.X
abbrev Hd := Bs × Bs
def hv (h : Hd) : V := .agg [.str h.1, .str h.2]
theorem hcells_drop (pre l : List Hd) : (hcells (pre ++ l)).drop (pre.length * 2) = hcells l := by
 rw [hcells_append, ← hcells_length pre, List.drop_left]
theorem hcells_at (pre : List Hd) (h : Hd) (l : List Hd) : ((hcells (pre ++ h :: l)).drop (pre.length * 2)).take 2 = [.str h.1, .str h.2] := by
 rw [hcells_drop, hcells_cons]; rfl
theorem hcells_at0 (pre : List Hd) (h : Hd) (l : List Hd) : (hcells (pre ++ h :: l))[pre.length * 2 + 0]? = some (.str h.1) := by
 rw [← List.getElem?_drop, hcells_drop, hcells_cons]; rfl
theorem hcells_at1 (pre : List Hd) (h : Hd) (l : List Hd) : (hcells (pre ++ h :: l))[pre.length * 2 + 1]? = some (.str h.2) := by
 rw [← List.getElem?_drop, hcells_drop, hcells_cons]; rfl
theorem hd_at {H : Heap} {v : V} (pre : List Hd) (h : Hd) (l : List Hd) (hr : Rd H 2 v (pre ++ h :: l).length (hcells (pre ++ h :: l))) :
  ∃ id o, pSlIdx 2 [v, .int .i64 (pre.length : Int)] = some (.ptr id o) ∧ ∀ H', Rd H' 2 v (pre ++ h :: l).length (hcells (pre ++ h :: l)) → lLoadN 2 [.ptr id o] H' = some (hv h) ∧ lLoad1 [.ptr id o] H' = some (.str h.1) ∧ lLoad1 [.ptr id (o + 1)] H' = some (.str h.2) := by
 obtain ⟨id, o, k1, k2⟩ := hr.at (by omega) (i := pre.length) (by simp)
 refine ⟨id, o, k1, fun H' h' => ?_⟩
 obtain ⟨q1, q2⟩ := k2 H' _ h'
 rw [hcells_at] at q1
 exact ⟨q1, q2 0 _ (by omega) (hcells_at0 _ _ _), q2 1 _ (by omega) (hcells_at1 _ _ _)⟩
theorem put2 {H : Heap} {B : Nat} {v : V} {hs : List Hd} {n : Nat} (h : Apd H B 2 v n (hcells hs)) (hw : WF H) (hB : B ≤ H.size) (x : Hd) (hn : n ≤ 1000000) (τ : Tape) :
  ∃ w H1 v' H' τ', eBuildSlice 1 2 [(.str []), (.str [])] [(0, 2)] [.agg [.str x.1, .str x.2]] H τ = some (w, H1, τ) ∧ eAppend 2 32 [v, w] H1 τ = some (v', H', τ') ∧ Apd H' B 2 v' (n + 1) (hcells (hs ++ [x])) ∧ Gr B H H' ∧ (∀ id cs, H.cells? id = some cs → H'.cells? id = some cs) ∧ Gr B H H1 := by
 obtain ⟨v', H', τ', r1, r2, r3, r4⟩ := h.put (bytes := 32) hw hB [.str x.1, .str x.2] rfl rfl (by omega) (by omega) τ
 refine ⟨_, _, v', H', τ', rfl, r1, ?_, r3, r4, (Gr.new hw _ _ _).weaken hB⟩
 rw [hcells_append]; exact r2
end Go.Am.X

namespace Go.Am.X
theorem Apd.weaken {H : Heap} {B C z : Nat} {v : V} {n : Nat} {cs : List V} (h : Apd H C z v n cs) (hBC : B ≤ C) : Apd H B z v n cs := by
 rcases h with (h | ⟨id, e, room, fam, ver, pl, st, fr, h1, h2, h3, h4, h5, h6, h7⟩) | ⟨h1, h2, id, h3, h4⟩
 ·exact .inl (.inl h)
 ·exact .inl (.inr ⟨id, e, room, fam, ver, pl, st, fr, h1, h2, h3, h4, Nat.le_trans hBC h5, Nat.le_trans hBC h6, h7⟩)
 ·exact .inr ⟨h1, h2, id, h3, h4.weaken hBC⟩
end Go.Am.X

namespace Go.Am.X
section
variable {N : Nat} (hN : 9223372036854775807 < N)
include hN
end
end Go.Am.X

namespace Go.Am.X
abbrev NB : Nat := 9223372036854775808
theorem nb : 9223372036854775807 < NB := by decide
theorem tab_all (f : Nat) (d : Def) (h : tabF.get f = some d) (base : Base) (w0 : World) : DefOk PG base w0 f d := defs_ok (all_ok base w0) f d h
theorem primOk_E (d f : Nat) {R : List V → Heap → Out → Prop}
  (hR : ∀ vs H o, WF H → VsOk H vs → R vs H o → ∀ τ, ∃ v H' τ', C NB d f vs H τ retK = some (v, H', τ') ∧ Gr H.size H H' ∧ o.Met H v H') : ∀ base w0, PrimOk PG base w0 f (outP R) :=
 primOk_tab mixed_ok (tab_ok NB) tab_all d f hR
def strP (M : Nat) : List V → Prop | [.str s] => s.length ≤ M | _ => False
def strG (g : Bs → V) : List V → V | [.str s] => g s | _ => .tup []
abbrev RS (M : Nat) (g : Bs → V) := RV (strP M) (strG g)
theorem primS (d f M : Nat) (g : Bs → V) (hv : ∀ s H, VOk H (g s)) (h : ∀ s : Bs, s.length ≤ M → ∀ H, WF H → ∀ τ, ∃ H' τ', Gr H.size H H' ∧ ∀ q, C NB d f [.str s] H τ q = q (g s) H' τ') : ∀ base w0, PrimOk PG base w0 f (outP (RS M g)) := by
 refine primOk_E d f ?_
 rintro vs H o hw hvs ⟨hp, rfl⟩ τ
 unfold strP at hp
 split at hp
 ·rename_i s
  obtain ⟨H', τ', g1, k1⟩ := h s hp H hw τ
  exact ⟨_, H', τ', k1 retK, g1, rfl, hv s H⟩
 ·exact hp.elim
theorem callS {c : CallK} {f M : Nat} {g : Bs → V} (hc : ∀ vs H τ q, c f vs H τ q = effK (outP (RS M g) vs H τ) q) (s : Bs) (hs : s.length ≤ M) (H : Heap) (τ : Tape) (q : KV) : c f [.str s] H τ q = q (g s) H τ := RV_call hc (vs := [.str s]) hs H τ q
abbrev LowR := RS 140737488355328 fun s => .str (lower s)
theorem p_infra_Lower : ∀ base w0, PrimOk PG base w0 f_infra_Lower (outP LowR) := primS 3 _ _ _ (fun _ _ => trivial) fun s hs H hw τ => by
 obtain ⟨H', τ', g, k⟩ := d_infra_Lower nb 3 (by omega) s hs H hw τ retK
 exact ⟨H', τ', g, fun q => (C_nat NB 3).mk k q⟩
end Go.Am.X

namespace Go.Am.X
theorem s14_eval (c : CallK) (N : Nat) (s : Bs) (m : Nat) (H : Heap) (τ : Tape) (q : KV) : s_keep_Few c N (.str s) (.int .i64 (m : Int)) H τ q = q (.str (s.take m)) H τ := by
 simp only [s_keep_Few, lenS_mk, someK_mk, bin_gtr]
 by_cases h : m < s.length
 ·rw [decide_eq_true (by omega), condK_t, strSlice_hi (by omega), someK_mk]
 ·rw [decide_eq_false (by omega), condK_f, List.take_of_length_le (by omega)]
abbrev FewOk (c : CallK) : Prop := ∀ (s : Bs) (m : Nat) H τ q, c f_keep_Few [.str s, .int .i64 (m : Int)] H τ q = q (.str (s.take m)) H τ
end Go.Am.X

namespace Go.Am.X
def RdH (H : Heap) (v : V) (hs : List Hd) : Prop := Rd H 2 v hs.length (hcells hs) ∧ Src H v
theorem hcells_inj : ∀ {a b : List Hd}, hcells a = hcells b → a = b := by
 intro a
 induction a with
 | nil => intro b h; cases b with
  | nil => rfl
  | cons y b => rw [hcells_cons] at h; cases h
 | cons x a ih => intro b h; cases b with
  | nil => rw [hcells_cons] at h; cases h
  | cons y b =>
   rw [hcells_cons, hcells_cons] at h
   simp only [List.cons.injEq, V.str.injEq] at h
   obtain ⟨h1, h2, h3⟩ := h
   rw [ih h3]
   obtain ⟨x1, x2⟩ := x
   obtain ⟨y1, y2⟩ := y
   simp only at h1 h2
   subst h1; subst h2; rfl
theorem RdH.uniq {H : Heap} {v : V} {a b : List Hd} (h : RdH H v a) (k : RdH H v b) : a = b := hcells_inj (h.1.uniq k.1).2
theorem RdH.gr {H H' : Heap} {B : Nat} {v : V} {hs : List Hd} (h : RdH H v hs) (hg : Gr B H H') (hw : WF H) (hB : H.size ≤ B) : RdH H' v hs := ⟨h.1.gr hg hw hB, h.2.gr hg hw hB⟩
def isNil : V → Bool | .nils => true | _ => false
def RH (Pre : List Hd → List V → Prop) (g : Bool → List Hd → List V → Out) (vs : List V) (H : Heap) (o : Out) : Prop := ∃ v l hs, vs = v :: l ∧ RdH H v hs ∧ Pre hs l ∧ o = g (isNil v) hs l
theorem RH_fun (Pre : List Hd → List V → Prop) (g : Bool → List Hd → List V → Out) : Fun1 (RH Pre g) := by
 rintro vs H o o' ⟨v, l, hs, rfl, h1, _, rfl⟩ ⟨v', l', hs', e, h2, _, rfl⟩
 cases e
 rw [h1.uniq h2]
def lstO (z n : Nat) (cs : List V) (mk : V → V) : Out := if n = 0 then .val (mk .nils) else .lst z n cs mk
theorem RH_lstO {c : CallK} {f : Nat} {Pre : List Hd → List V → Prop} {g : Bool → List Hd → List V → Out} (hc : ∀ vs H τ q, c f vs H τ q = effK (outP (RH Pre g) vs H τ) q) {v : V} {l : List V} {hs : List Hd} {H : Heap} {z n : Nat} {cs : List V} {mk : V → V} (h : RdH H v hs) (hp : Pre hs l) (hg : g (isNil v) hs l = lstO z n cs mk) (hw : WF H) (hlen : cs.length = n * z) (τ : Tape) :
  ∃ lv H' τ', Own H' H.size z lv n cs ∧ Gr H.size H H' ∧ ∀ q, c f (v :: l) H τ q = q (mk lv) H' τ' := outK_list hc (RH_fun _ _) ⟨v, l, hs, rfl, h, hp, hg.symm⟩ hw hlen τ
theorem Own.rdH {H : Heap} {B : Nat} {v : V} {hs : List Hd} (h : Own H B 2 v hs.length (hcells hs)) : RdH H v hs := ⟨h.rd, h.src⟩
theorem hcells_vok (H : Heap) (hs : List Hd) : VsOk H (hcells hs) := by
 induction hs with
 | nil => trivial
 | cons h l ih => rw [hcells_cons]; exact ⟨trivial, trivial, ih⟩
theorem Got.met {H H' : Heap} {z n : Nat} {v : V} {cs : List V} {mk : V → V} (h : Got H' H.size z v n cs) (h0 : n = 0 → v = .nils) (hmk : MkOk mk) (hcs : VsOk H cs) (hnil : VOk H (mk .nils)) : (lstO z n cs mk).Met H (mk v) H' := by
 unfold lstO
 by_cases hn : n = 0
 ·rw [if_pos hn, h0 hn]; exact ⟨rfl, hnil⟩
 ·rw [if_neg hn]
  rcases h with ⟨_, h, _⟩ | h
  ·exact absurd h hn
  ·exact ⟨hmk, hcs, v, rfl, h⟩
theorem Got.lst {H : Heap} {B z : Nat} {v : V} {n : Nat} {cs : List V} (h : Got H B z v n cs) (hn : n ≠ 0) : FreshL B H z n cs v := by
 rcases h with ⟨_, h, _⟩ | h
 ·exact absurd h hn
 ·exact h
end Go.Am.X

