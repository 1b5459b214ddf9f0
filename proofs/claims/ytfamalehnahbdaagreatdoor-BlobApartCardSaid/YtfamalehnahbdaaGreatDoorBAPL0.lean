/- The abstract machine, printed functions of the program, and what they are shown to be. -/
import Derived.Deep.Strs
import Derived.ChangeSlices
import Derived.Test.YtfamalehnahbdaaGreatDoorBAPM3
import Derived.Test.YtfamalehnahbdaaGreatDoorBAPM4
import Derived.Test.YtfamalehnahbdaaGreatDoorBAPSh2
set_option linter.unusedSimpArgs false
set_option linter.unusedVariables false
set_option linter.unusedSectionVars false
set_option maxRecDepth 100000
namespace Go.Am
open Go Go.ChangeShapes Go.WideShapes Go.RowKit
end Go.Am

namespace Go.Am
open Go Go.ChangeShapes Go.WideShapes Go.RowKit
end Go.Am

namespace Go.Am.X
theorem u8_lt (x : UInt8) : x.toNat < 256 := x.toNat_lt
theorem s81_eval (c : CallK) (N : Nat) {id : Nat} {cells : List V} {x : UInt8} {b : Bool} {H : Heap} (hc : H.cells? id = some cells) (hx : cells[x.toNat]? = some (.bool b)) (τ : Tape) (q : KV) :
  s_asciiSet_contains c N (.ptr id 0) (.int .u8 (x.toNat : Int)) H τ q = q (.bool b) H τ := by
 have e1 : Nat.blt x.toNat 256 = true := by have := u8_lt x; simp [Nat.blt]; omega
 simp only [s_asciiSet_contains, pNilck, someK_mk, pArrIdx, natOf_nat, e1, cond_true, Nat.mul_one, Nat.zero_add, load_cell hc hx]
theorem trimL_loop (c : CallK) (N : Nat) {id : Nat} {H : Heap} (p : UInt8 → Bool) (h171 : ∀ (x : UInt8) τ q, c f_asciiSet_contains [.ptr id 0, .int .u8 (x.toNat : Int)] H τ q = q (.bool (p x)) H τ) (k : KC) :
  ∀ (s : List UInt8) (n : Nat) (fr : T V) (τ : Tape), s.length < n → fr.get 0 = some (.str s) → fr.get 1 = some (.ptr id 0) → loopK (s_strings_trimLeftASCII_l1 c N) n ⟨fr, H⟩ τ k = k (.exit 0) ⟨T.set .leaf 0 (.str (s.dropWhile p)), H⟩ τ := by
 intro s
 induction s with
 | nil =>
  intro n fr τ hn h0 h1
  obtain ⟨n, rfl⟩ : ∃ m, n = m + 1 := ⟨n - 1, by simp at hn; omega⟩
  rw [loopK_succ]
  simp only [s_strings_trimLeftASCII_l1, getK_mk h0, getK_mk h1, lenS_mk, someK_mk, bin_gtr]
  rfl
 | cons x s ih =>
  intro n fr τ hn h0 h1
  obtain ⟨n, rfl⟩ : ∃ m, n = m + 1 := ⟨n - 1, by simp at hn; omega⟩
  rw [loopK_succ]
  have e1 : decide (Int.ofNat 0 < ((x :: s).length : Int)) = true := decide_eq_true (by first | (simp; done) | (simp; omega) | omega)
  have e2 : pStrIndex [.str (x :: s), .int .i64 (.ofNat 0)] = some (.int .u8 (x.toNat : Int)) := rfl
  have e3 : pStrSlice true false [.str (x :: s), .int .i64 (.ofNat 1)] = some (.str s) := strSlice_lo (s := x :: s) (i := 1) (by simp)
  simp only [s_strings_trimLeftASCII_l1, getK_mk h0, getK_mk h1, lenS_mk, someK_mk, bin_gtr, e1, condK_t, e2, h171, un_not]
  cases hp : p x with
  | false => simp [condK_bool, hp, seqK]
  | true =>
   simp only [Bool.not_true, condK_f, e3, someK_mk, seqK]
   rw [ih n _ τ (by simp at hn; omega) (by simp [T.get_set]) (by simp [T.get_set])]
   simp [hp]
theorem trimR_loop (c : CallK) (N : Nat) {id : Nat} {H : Heap} (p : UInt8 → Bool) (h171 : ∀ (x : UInt8) τ q, c f_asciiSet_contains [.ptr id 0, .int .u8 (x.toNat : Int)] H τ q = q (.bool (p x)) H τ) (k : KC) :
  ∀ (r : List UInt8) (n : Nat) (fr : T V) (τ : Tape), r.length < 9223372036854775807 → r.length < n → fr.get 0 = some (.str r.reverse) → fr.get 1 = some (.ptr id 0) → loopK (s_strings_trimRightASCII_l1 c N) n ⟨fr, H⟩ τ k = k (.exit 0) ⟨T.set .leaf 0 (.str (r.dropWhile p).reverse), H⟩ τ := by
 intro r
 induction r with
 | nil =>
  intro n fr τ hb hn h0 h1
  obtain ⟨n, rfl⟩ : ∃ m, n = m + 1 := ⟨n - 1, by simp at hn; omega⟩
  rw [loopK_succ]
  simp only [s_strings_trimRightASCII_l1, getK_mk h0, getK_mk h1, lenS_mk, someK_mk, bin_gtr]
  rfl
 | cons x s ih =>
  intro n fr τ hb hn h0 h1
  obtain ⟨n, rfl⟩ : ∃ m, n = m + 1 := ⟨n - 1, by simp at hn; omega⟩
  rw [loopK_succ]
  have hlen : ((x :: s).reverse.length : Int) = (s.length : Int) + 1 := by simp
  have e1 : decide (Int.ofNat 0 < ((x :: s).reverse.length : Int)) = true := decide_eq_true (by rw [hlen]; first | (simp; done) | (simp; omega))
  have e0 : wr .i64 (((x :: s).reverse.length : Int) - Int.ofNat 1) = (s.length : Int) := by
   rw [hlen, wr_id (by first | (simp; done) | (simp; omega) | omega) (by simp at hb; first | (simp; done) | (simp; omega) | omega)]
   simp
  have e2 : pStrIndex [.str (x :: s).reverse, .int .i64 (s.length : Int)] = some (.int .u8 (x.toNat : Int)) := strIndex_mk (by simp)
  have e3 : pStrSlice false true [.str (x :: s).reverse, .int .i64 (s.length : Int)] = some (.str s.reverse) := by
   rw [strSlice_hi (by simp)]
   simp
  simp only [s_strings_trimRightASCII_l1, getK_mk h0, getK_mk h1, lenS_mk, someK_mk, bin_gtr, e1, condK_t, bin_sub, e0, e2, h171, un_not]
  cases hp : p x with
  | false => simp [condK_bool, hp, seqK]
  | true =>
   simp only [Bool.not_true, condK_f, e3, someK_mk, seqK]
   rw [ih n _ τ (by simp at hb; omega) (by simp at hn; omega) (by simp [T.get_set]) (by simp [T.get_set])]
   simp [hp]
def mark (cells : List V) (l : List UInt8) : List V := l.foldl (fun cells x => cells.set x.toNat (.bool true)) cells
theorem mark_length (l : List UInt8) : ∀ cells : List V, (mark cells l).length = cells.length := by
 induction l with
 | nil => intro cells; rfl
 | cons x l ih => intro cells; exact (ih _).trans (by simp)
theorem mark_get (l : List UInt8) : ∀ (cells : List V) (x : UInt8), cells.length = 256 → (∀ i, i < 256 → ∃ b, cells[i]? = some (.bool b)) → ∀ b, cells[x.toNat]? = some (.bool b) → (mark cells l)[x.toNat]? = some (.bool (b || l.contains x)) := by
 induction l with
 | nil => intro cells x _ _ b hb; simpa [mark] using hb
 | cons y l ih =>
  intro cells x hl hc b hb
  have hx := u8_lt x
  have hy := u8_lt y
  have := ih (cells.set y.toNat (.bool true)) x (by simpa using hl) (fun i hi => by
   by_cases e : y.toNat = i
   ·exact ⟨true, by rw [e]; simp [hl, hi]⟩
   ·obtain ⟨b, hb⟩ := hc i hi
    exact ⟨b, by rw [List.getElem?_set_ne e]; exact hb⟩) (if x = y then true else b) (by
   by_cases e : x = y
   ·subst e; simp [hl, hx]
   ·rw [if_neg e, List.getElem?_set_ne (fun h => e (UInt8.toNat_inj.1 h.symm))]; exact hb)
  rw [show mark cells (y :: l) = mark (cells.set y.toNat (.bool true)) l from rfl, this]
  by_cases e : x = y
  ·simp [e]
  ·simp [e]
theorem set_loop (c : CallK) (N : Nat) {B id : Nat} (k : KC) (l : List UInt8) : ∀ (pre : List UInt8) (cells : List V) (n : Nat) (fr : T V) (H : Heap) (τ : Tape), WF H → Blk H B id cells → cells.length = 256 → (∀ x ∈ l, x.toNat < 128) → (pre ++ l).length < 9223372036854775807 → l.length < n →
  fr.get 0 = some (.str (pre ++ l)) → fr.get 2 = some (.ptr id 0) → fr.get 4 = some (.int .i64 (pre.length : Int)) →
  ∃ H', Blk H' B id (mark cells l) ∧ Gr B H H' ∧ H'.size = H.size ∧ loopK (s_strings_makeASCIISet_l1 c N) n ⟨fr, H⟩ τ k = k (.exit 0) ⟨T.set .leaf 2 (.ptr id 0), H'⟩ τ := by
 induction l with
 | nil =>
  intro pre cells n fr H τ hw hB hl hs hb hn h0 h2 h4
  obtain ⟨n, rfl⟩ : ∃ m, n = m + 1 := ⟨n - 1, by simp at hn; omega⟩
  refine ⟨H, hB, Gr.refl hw, rfl, ?_⟩
  rw [loopK_succ]
  simp only [s_strings_makeASCIISet_l1, getK_mk h0, getK_mk h2, getK_mk h4, lenS_mk, someK_mk, bin_lss, List.append_nil]
  simp [condK_bool, seqK]
 | cons x l ih =>
  intro pre cells n fr H τ hw hB hl hs hb hn h0 h2 h4
  obtain ⟨n, rfl⟩ : ∃ m, n = m + 1 := ⟨n - 1, by simp at hn; omega⟩
  have hx := hs x (by simp)
  obtain ⟨H1, k1, k2, k3, k4⟩ := hB.eStore hw x.toNat (.bool true) 1 rfl (by omega) rfl τ
  have hcells : cells.take x.toNat ++ (V.bool true).cells ++ cells.drop (x.toNat + 1) = cells.set x.toNat (.bool true) := by
   rw [List.set_eq_take_append_cons_drop, if_pos (by omega)]
   simp [V.cells]
  rw [hcells] at k2
  have e1 : decide ((pre.length : Int) < ((pre ++ x :: l).length : Int)) = true := decide_eq_true (by first | (simp; done) | (simp; omega) | omega)
  have e2 : pStrIndex [.str (pre ++ x :: l), .int .i64 (pre.length : Int)] = some (.int .u8 (x.toNat : Int)) := strIndex_mk (by simp)
  have e3 : decide (Int.ofNat 128 ≤ (x.toNat : Int)) = false := decide_eq_false (by first | (simp; done) | (simp; omega) | omega)
  have e4 : pArrIdx 256 1 [.ptr id 0, .int .u8 (x.toNat : Int)] = some (.ptr id x.toNat) := by
   have : Nat.blt x.toNat 256 = true := by simp [Nat.blt]; omega
   simp [pArrIdx, natOf_nat, this]
  have e5 : wr .i64 ((pre.length : Int) + Int.ofNat 1) = ((pre ++ [x]).length : Int) := by
   rw [wr_id (by first | (simp; done) | (simp; omega) | omega) (by simp at hb; first | (simp; done) | (simp; omega) | omega)]
   simp
  obtain ⟨H', m1, m2, m3, m4⟩ := ih (pre ++ [x]) (cells.set x.toNat (.bool true)) n (T.set (T.set (T.set (T.set (T.set (T.set .leaf 0 (.str (pre ++ x :: l))) 2 (.ptr id 0)) 4 (.int .i64 (pre.length : Int))) 10 (.int .i64 (pre.length : Int))) 11 (.int .i64 ((pre ++ [x]).length : Int))) 4 (.int .i64 ((pre ++ [x]).length : Int))) H1 τ k3.wf k2 (by simpa using hl) (fun y hy => hs y (by simp [hy])) (by simpa using hb) (by simp at hn; omega) (by simp [T.get_set]) (by simp [T.get_set]) (by simp [T.get_set])
  refine ⟨H', m1, k3.trans m2 (Nat.le_refl _), by omega, ?_⟩
  rw [loopK_succ]
  simp only [s_strings_makeASCIISet_l1, getK_mk h0, getK_mk h2, getK_mk h4, lenS_mk, someK_mk, bin_lss, e1, condK_t, e2, bin_geq, e3, condK_f, e4, k1, effK_mk, bin_add, e5, seqK, m4]
theorem s_strings_makeASCIISet_ret (c : CallK) (N : Nat) (hN : 9223372036854775807 ≤ N) (l : List UInt8) (hs : ∀ x ∈ l, x.toNat < 128) (hb : l.length < 9223372036854775807) (H : Heap) (hw : WF H) (τ : Tape) (q : KV) :
  ∃ H', Gr H.size H H' ∧ s_strings_makeASCIISet c N (.str l) H τ q = q (.tup [.agg (mark (repl 256 [.bool false]) l), .bool true]) H' τ := by
 have hr : (repl 256 [V.bool false]).length = 256 := by rw [repl_length]; rfl
 have hB := Blk.new H (repl 256 [V.bool false]) (repl 256 [V.bool false]).length true (Nat.le_refl _)
 have hG := Gr.new hw (repl 256 [V.bool false]) (repl 256 [V.bool false]).length true
 obtain ⟨H1, k1, k2, k3, k4⟩ := set_loop c N (blockK 0 (seqK (s_strings_makeASCIISet_j0 c N q) (endK [(.cell 2 (some 256)), (.t 3)] q))) l [] _ N (T.set (T.set (T.set .leaf 0 (.str l)) 2 (.ptr H.size 0)) 4 (.int .i64 0)) _ τ hG.wf hB hr hs (by simpa using hb) (by omega) (by simp [T.get_set]) (by simp [T.get_set]) (by simp [T.get_set])
 have hm : (mark (repl 256 [V.bool false]) l).length = 256 := by rw [mark_length, hr]
 have hsc : ∀ (cells : List V), cells.all V.scal = true → (mark cells l).all V.scal = true := by
  intro cells
  have : ∀ (l : List UInt8) (cells : List V), cells.all V.scal = true → (mark cells l).all V.scal = true := by
   intro l
   induction l with
   | nil => intro cells h; exact h
   | cons x l ih =>
    intro cells h
    refine ih _ ?_
    rw [List.all_eq_true] at h ⊢
    intro v hv
    rcases List.mem_or_eq_of_mem_set hv with hv | rfl
    ·exact h v hv
    ·rfl
  exact this l cells
 obtain ⟨H2, m1, m2, m3, m4⟩ := k1.eStore k2.wf 0 (.agg (mark (repl 256 [.bool false]) l)) 256 hm (by rw [hm]; omega) (hsc _ (by rw [repl_one, List.all_eq_true]; intro v hv; rw [List.eq_of_mem_replicate hv]; rfl)) τ
 have hcells : (mark (repl 256 [V.bool false]) l).take 0 ++ (V.agg (mark (repl 256 [.bool false]) l)).cells ++ (mark (repl 256 [V.bool false]) l).drop (0 + 256) = mark (repl 256 [.bool false]) l := by
  rw [List.take_zero, List.nil_append, V.cells, List.drop_eq_nil_of_le (by rw [hm]; omega), List.append_nil]
 rw [hcells] at m2
 have htake : ((mark (repl 256 [V.bool false]) l).drop 0).take 256 = mark (repl 256 [.bool false]) l := by
  rw [List.drop_zero, List.take_of_length_le (by rw [hm]; omega)]
 refine ⟨H2, hG.trans (k2.trans m3 (Nat.le_refl _)) (Nat.le_refl _), ?_⟩
 have e1 : lLoadN 256 [.ptr H.size 0] H1 = some (.agg (mark (repl 256 [.bool false]) l)) := by
  rw [load_cells k1.cells (by rw [hm]; omega), htake]
 have e2 : lLoadN 256 [.ptr H.size 0] H2 = some (.agg (mark (repl 256 [.bool false]) l)) := by
  rw [load_cells m2.cells (by rw [hm]; omega), htake]
 simp only [s_strings_makeASCIISet, eAlloc, effK_mk]
 rw [show (V.int IntKind.i64 (Int.ofNat 0)) = .int .i64 0 from rfl, k4]
 simp only [blockK, Nat.beq_refl, cond_true, seqK, s_strings_makeASCIISet_j0]
 simp only [getK_set, ↓reduceIte, Nat.reduceEqDiff]
 rw [e1, someK_mk, m1, effK_mk]
 simp only [results, resAll, resOf, T.get_set, evalL, lLoad]
 simp only [show (3 : Nat) = 2 ↔ False by decide, if_true, if_false]
 simp [e2, someK]
def trimB (p : UInt8 → Bool) (s : List UInt8) : List UInt8 := ((s.reverse.dropWhile p).reverse).dropWhile p
theorem s_strings_Trim_ret (c : CallK) (N : Nat) (hN : 9223372036854775807 ≤ N) (cut s : List UInt8) (hc2 : 2 ≤ cut.length) (hc3 : cut.length < 9223372036854775807) (hs : s.length < 9223372036854775807) (H : Heap) (hw : WF H)
  (h142 : ∀ (H : Heap), WF H → ∀ τ q, ∃ H', Gr H.size H H' ∧ c f_strings_makeASCIISet [.str cut] H τ q = q (.tup [.agg (mark (repl 256 [.bool false]) cut), .bool true]) H' τ)
  (h143 : ∀ (s : List UInt8) (id : Nat) (H : Heap), s.length < 9223372036854775807 → H.cells? id = some (mark (repl 256 [.bool false]) cut) → ∀ τ q, c f_strings_trimLeftASCII [.str s, .ptr id 0] H τ q = q (.str (s.dropWhile cut.contains)) H τ)
  (h144 : ∀ (s : List UInt8) (id : Nat) (H : Heap), s.length < 9223372036854775807 → H.cells? id = some (mark (repl 256 [.bool false]) cut) → ∀ τ q, c f_strings_trimRightASCII [.str s, .ptr id 0] H τ q = q (.str (s.reverse.dropWhile cut.contains).reverse) H τ)
  (τ : Tape) (q : KV) : ∃ H', Gr H.size H H' ∧ s_strings_Trim c N (.str s) (.str cut) H τ q = q (.str (trimB cut.contains s)) H' τ := by
 cases s with
 | nil =>
  refine ⟨H, Gr.refl hw, ?_⟩
  simp [s_strings_Trim, bin_str, str_eql, someK_mk, gK_skip', pPick, condK_t, trimB, gK]
 | cons x s =>
  obtain ⟨H1, k1, k2⟩ := h142 H hw τ (fun v28 H29 τ30 =>
   someK (pExtract 0 [v28]) fun v31 =>
   someK (pExtract 1 [v28]) fun v32 =>
   effK (eAlloc (repl 256 [(.bool false)]) [] H29 τ30) fun v33 H34 τ35 =>
   effK (eStore 256 [v33, v31] H34 τ35) fun v36 H37 τ38 =>
   condK v32
    (c f_strings_trimRightASCII [.str (x :: s), v33] H37 τ38 fun v39 H40 τ41 =>
   c f_strings_trimLeftASCII [v39, v33] H40 τ41 fun v42 H43 τ44 =>
   q v42 H43 τ44)
    (c f_strings_trimRightUnicode [.str (x :: s), .str cut] H37 τ38 fun v45 H46 τ47 =>
   c f_strings_trimLeftUnicode [v45, .str cut] H46 τ47 fun v48 H49 τ50 =>
   q v48 H49 τ50))
  have hr : (repl 256 [V.bool false]).length = 256 := by rw [repl_length]; rfl
  have hm : (mark (repl 256 [V.bool false]) cut).length = 256 := by rw [mark_length, hr]
  have hB := Blk.new H1 (repl 256 [V.bool false]) (repl 256 [V.bool false]).length true (Nat.le_refl _)
  have hG := Gr.new k1.wf (repl 256 [V.bool false]) (repl 256 [V.bool false]).length true
  have hsc : (mark (repl 256 [V.bool false]) cut).all V.scal = true := by
   have : ∀ (l : List UInt8) (cells : List V), cells.all V.scal = true → (mark cells l).all V.scal = true := by
    intro l
    induction l with
    | nil => intro cells h; exact h
    | cons x l ih =>
     intro cells h
     refine ih _ ?_
     rw [List.all_eq_true] at h ⊢
     intro v hv
     rcases List.mem_or_eq_of_mem_set hv with hv | rfl
     ·exact h v hv
     ·rfl
   exact this cut _ (by rw [repl_one, List.all_eq_true]; intro v hv; rw [List.eq_of_mem_replicate hv]; rfl)
  obtain ⟨H2, m1, m2, m3, m4⟩ := hB.eStore hG.wf 0 (.agg (mark (repl 256 [.bool false]) cut)) 256 hm (by rw [hr]; omega) hsc τ
  have hcells : (repl 256 [V.bool false]).take 0 ++ (V.agg (mark (repl 256 [.bool false]) cut)).cells ++ (repl 256 [V.bool false]).drop (0 + 256) = mark (repl 256 [.bool false]) cut := by
   rw [List.take_zero, List.nil_append, V.cells, List.drop_eq_nil_of_le (by rw [hr]; omega), List.append_nil]
  rw [hcells] at m2
  refine ⟨H2, k1.trans (hG.trans m3 (Nat.le_refl _)) k1.size, ?_⟩
  have e1 : ((x :: s) == ([] : List UInt8)) = false := rfl
  have e2 : (cut == ([] : List UInt8)) = false := by cases cut with
   | nil => simp at hc2
   | cons _ _ => rfl
  have e3 : ((cut.length : Int) == Int.ofNat 1) = false := by simp; omega
  simp only [s_strings_Trim, bin_str, str_eql, someK_mk, e1, gK, retK, effK_mk, e2, beq_self_eq_true, cond_true, pick_mk, cond_false, condK_f, lenS_mk, bin_eql, e3, Bool.false_eq_true, show (false == true) = false from rfl]
  rw [k2]
  simp only [pExtract, List.getElem?_cons_zero, List.getElem?_cons_succ, someK_mk, eAlloc, effK_mk, m1, condK_t]
  rw [h144 _ _ _ hs m2.cells, h143 _ _ _ (by
   have := (List.dropWhile_sublist (l := (x :: s).reverse) cut.contains).length_le
   simp only [List.length_reverse] at this ⊢
   omega) m2.cells]
  rfl
def bv (s : List UInt8) : List V := s.map fun c => .int .u8 (c.toNat : Int)
def mostI : Int := 9223372036854775807
def intStep (n : Int) (d : Int) : Int := if (mostI - d).tdiv 10 < n then mostI else n * 10 + d
def intL : List UInt8 → Int → Option Int
 | [], n => some n
 | x :: l, n => if 48 ≤ x.toNat ∧ x.toNat ≤ 57 then intL l (intStep n ((x.toNat : Int) - 48)) else none
theorem intStep_range {n d : Int} (h0 : 0 ≤ n) (h1 : n ≤ mostI) (hd : 0 ≤ d) (hd' : d ≤ 9) : 0 ≤ intStep n d ∧ intStep n d ≤ mostI := by
 unfold intStep mostI at *
 split
 ·omega
 ·rename_i h
  rw [Int.tdiv_eq_ediv_of_nonneg (by omega)] at h
  omega
theorem int_loop (c : CallK) (N : Nat) (k : KC) (H : Heap) (s : List UInt8) (hs : s.length < 9223372036854775807) (l : List UInt8) : ∀ (pre : List UInt8) (v : Int) (n : Nat) (fr : T V) (τ : Tape), s = pre ++ l → 0 ≤ v → v ≤ mostI → l.length < n →
  fr.get 0 = some (.str s) → fr.get 4 = some (.int .i64 v) → fr.get 9 = some (.int .i64 (s.length : Int)) → fr.get 10 = some (.int .i64 (pre.length : Int)) →
  loopK (s_infra_Int_l1 c N) n ⟨fr, H⟩ τ k = match intL l v with
   | some m => k (.exit 0) ⟨T.set (T.set .leaf 0 (.str s)) 4 (.int .i64 m), H⟩ τ
   | none => k .ret ⟨T.set (T.set .leaf 2 (.int .i64 (.ofNat 0))) 3 (.bool false), H⟩ τ := by
 induction l with
 | nil =>
  intro pre v n fr τ he h0 h1 hn f0 f4 f9 f10
  obtain ⟨n, rfl⟩ : ∃ j, n = j + 1 := ⟨n - 1, by simp at hn; omega⟩
  have e1 : decide ((pre.length : Int) < (s.length : Int)) = false := decide_eq_false (by rw [he]; simp)
  rw [loopK_succ]
  simp only [s_infra_Int_l1, getK_mk f0, getK_mk f4, getK_mk f9, getK_mk f10, bin_lss, e1, condK_f, seqK, intL]
 | cons x l ih =>
  intro pre v n fr τ he h0 h1 hn f0 f4 f9 f10
  obtain ⟨n, rfl⟩ : ∃ j, n = j + 1 := ⟨n - 1, by simp at hn; omega⟩
  have e1 : decide ((pre.length : Int) < (s.length : Int)) = true := decide_eq_true (by rw [he]; first | (simp; done) | (simp; omega))
  have e2 : pStrIndex [.str s, .int .i64 (pre.length : Int)] = some (.int .u8 (x.toNat : Int)) := strIndex_mk (by rw [he]; simp)
  have hx := u8_lt x
  rw [loopK_succ]
  simp only [s_infra_Int_l1, getK_mk f0, getK_mk f4, getK_mk f9, getK_mk f10, bin_lss, e1, condK_t, e2, someK_mk]
  by_cases h48 : 48 ≤ x.toNat
  ·have e3 : decide ((x.toNat : Int) < Int.ofNat 48) = false := decide_eq_false (by first | (simp; done) | (simp; omega) | omega)
   by_cases h57 : x.toNat ≤ 57
   ·have e4 : decide (Int.ofNat 57 < (x.toNat : Int)) = false := decide_eq_false (by first | (simp; done) | (simp; omega) | omega)
    have e5 : wr .u8 ((x.toNat : Int) - Int.ofNat 48) = (x.toNat : Int) - 48 := by
     rw [wr_eq]; simp [IntKind.wrap, IntKind.signed, IntKind.bits]; omega
    have e6 : wr .i64 ((x.toNat : Int) - 48) = (x.toNat : Int) - 48 := wr_id (by omega) (by omega)
    have e7 : wr .i64 (Int.ofNat 9223372036854775807 - ((x.toNat : Int) - 48)) = mostI - ((x.toNat : Int) - 48) := by
     rw [wr_id (by first | (simp; done) | (simp; omega) | omega) (by first | (simp; done) | (simp; omega) | omega)]; rfl
    have e8 : wr .i64 ((mostI - ((x.toNat : Int) - 48)).tdiv (Int.ofNat 10)) = (mostI - ((x.toNat : Int) - 48)).tdiv 10 := by
     have : (mostI - ((x.toNat : Int) - 48)).tdiv (Int.ofNat 10) = (mostI - ((x.toNat : Int) - 48)).tdiv 10 := rfl
     rw [this, Int.tdiv_eq_ediv_of_nonneg (by unfold mostI; omega)]
     unfold mostI
     exact wr_id (by omega) (by omega)
    have e9 : wr .i64 ((pre.length : Int) + Int.ofNat 1) = ((pre ++ [x]).length : Int) := by
     have : s.length = pre.length + (l.length + 1) := by rw [he]; simp
     rw [wr_id (by first | (simp; done) | (simp; omega) | omega) (by first | (simp; done) | (simp; omega) | omega)]
     simp
    have hstep := intStep_range h0 h1 (d := (x.toNat : Int) - 48) (by omega) (by omega)
    have hI : intL (x :: l) v = intL l (intStep v ((x.toNat : Int) - 48)) := by simp only [intL, h48, h57, and_self, if_true]
    simp only [bin_lss, e3, gK_do', effK_mk, retK, bin_gtr, e4, someK_mk, pick_mk, cond_false, condK_f, bin_sub, e5, toInt_mk, e6, e7]
    rw [bin_quo _ _ _ (by decide)]
    simp only [e8, bin_gtr]
    by_cases hq : (mostI - ((x.toNat : Int) - 48)).tdiv 10 < v
    ·have hI2 : intStep v ((x.toNat : Int) - 48) = mostI := by simp only [intStep, hq, if_true]
     rw [decide_eq_true hq]
     simp only [condK_t, s_infra_Int_j2]
     simp only [getK_set, ↓reduceIte, Nat.reduceEqDiff]
     simp only [bin_add, e9, seqK]
     rw [ih (pre ++ [x]) mostI n _ τ (by rw [he]; simp) (by unfold mostI; omega) (Int.le_refl _) (by simp at hn; omega) (by simp [T.get_set]) (by simp [T.get_set]; rfl) (by simp [T.get_set]) (by simp [T.get_set]), hI, hI2]
    ·have hI2 : intStep v ((x.toNat : Int) - 48) = v * 10 + ((x.toNat : Int) - 48) := by simp only [intStep, hq, if_false]
     rw [decide_eq_false hq]
     have hv : v * 10 + ((x.toNat : Int) - 48) ≤ mostI := by rw [← hI2]; exact hstep.2
     have e10 : wr .i64 (v * Int.ofNat 10) = v * 10 := by
      have : v * Int.ofNat 10 = v * 10 := rfl
      rw [this, wr_id (by omega) (by unfold mostI at hv; omega)]
     have e11 : wr .i64 (v * 10 + ((x.toNat : Int) - 48)) = v * 10 + ((x.toNat : Int) - 48) := wr_id (by omega) hv
     simp only [condK_f, bin_mul, e10, bin_add, e11, s_infra_Int_j2]
     simp only [getK_set, ↓reduceIte, Nat.reduceEqDiff]
     simp only [bin_add, e9, seqK]
     rw [ih (pre ++ [x]) (v * 10 + ((x.toNat : Int) - 48)) n _ τ (by rw [he]; simp) (by omega) hv (by simp at hn; omega) (by simp [T.get_set]) (by simp [T.get_set]) (by simp [T.get_set]) (by simp [T.get_set]), hI, hI2]
   ·have e4 : decide (Int.ofNat 57 < (x.toNat : Int)) = true := decide_eq_true (by first | (simp; done) | (simp; omega) | omega)
    have hI : intL (x :: l) v = none := by simp only [intL, h57, and_false, if_false]
    simp only [bin_lss, e3, gK_do', effK_mk, retK, bin_gtr, e4, someK_mk, pick_mk, cond_false, condK_t, seqK, hI]
  ·have e3 : decide ((x.toNat : Int) < Int.ofNat 48) = true := decide_eq_true (by first | (simp; done) | (simp; omega) | omega)
   have hI : intL (x :: l) v = none := by simp only [intL, h48, false_and, if_false]
   simp only [bin_lss, e3, gK_skip', someK_mk, pick_mk, cond_true, condK_t, seqK, hI]
def intB (s : List UInt8) : Int × Bool :=
 match intL s 0 with
 | some n => (n, decide (0 < s.length))
 | none => (0, false)
theorem s67_eval (c : CallK) (N : Nat) (hN : 9223372036854775807 ≤ N) (s : List UInt8) (hs : s.length < 9223372036854775807) (H : Heap) (τ : Tape) (q : KV) :
  s_infra_Int c N (.str s) H τ q = q (.tup [.int .i64 (intB s).1, .bool (intB s).2]) H τ := by
 have h := int_loop c N (blockK 0 (seqK (s_infra_Int_j0 c N q) (endK [(.t 2), (.t 3)] q))) H s hs s [] 0 N (T.set (T.set (T.set (T.set .leaf 0 (.str s)) 4 (.int .i64 0)) 9 (.int .i64 (s.length : Int))) 10 (.int .i64 0)) τ rfl (Int.le_refl _) (by unfold mostI; omega) (by omega) (by simp [T.get_set]) (by simp [T.get_set]) (by simp [T.get_set]) (by simp [T.get_set])
 simp only [s_infra_Int, lenS_mk, someK_mk]
 rw [show (V.int IntKind.i64 (Int.ofNat 0)) = .int .i64 0 from rfl, h]
 unfold intB
 cases hI : intL s 0 with
 | none =>
  simp only [blockK, seqK, endK, results, resAll, resOf, T.get_set]
  rfl
 | some m =>
  simp only [blockK, Nat.beq_refl, cond_true, seqK, s_infra_Int_j0]
  simp only [getK_set, ↓reduceIte, Nat.reduceEqDiff]
  rw [lenS_mk, someK_mk, bin_gtr]
  simp
abbrev Bs := List UInt8
def hcells (l : List (Bs × Bs)) : List V := l.flatMap fun h => [.str h.1, .str h.2]
theorem hcells_cons (h : Bs × Bs) (l : List (Bs × Bs)) : hcells (h :: l) = .str h.1 :: .str h.2 :: hcells l := rfl
theorem hcells_append (a b : List (Bs × Bs)) : hcells (a ++ b) = hcells a ++ hcells b := by simp [hcells]
theorem hcells_length (l : List (Bs × Bs)) : (hcells l).length = l.length * 2 := by
 induction l with
 | nil => rfl
 | cons h l ih => rw [hcells_cons]; simp only [List.length_cons, ih]; omega
abbrev TrimOk (c : CallK) (cut : Bs) : Prop := ∀ (s : Bs), s.length < 9223372036854775807 → ∀ (H : Heap), WF H → ∀ τ q, ∃ H', Gr H.size H H' ∧ c f_strings_Trim [.str s, .str cut] H τ q = q (.str (trimB cut.contains s)) H' τ
def cutB (x : UInt8) : Bs → Option (Bs × Bs)
 | [] => none
 | y :: l => if y = x then some ([], l) else match cutB x l with
  | some (a, b) => some (y :: a, b)
  | none => none
theorem cutB_spec (x : UInt8) : ∀ (s : Bs), (cutB x s = none → idxB x.toNat s 0 = -1) ∧ (∀ a b, cutB x s = some (a, b) → s = a ++ x :: b ∧ idxB x.toNat s 0 = (a.length : Int)) := by
 intro s
 have key : ∀ (s : Bs) (i : Nat), (cutB x s = none → idxB x.toNat s i = -1) ∧ (∀ a b, cutB x s = some (a, b) → s = a ++ x :: b ∧ idxB x.toNat s i = ((i + a.length : Nat) : Int)) := by
  intro s
  induction s with
  | nil => intro i; exact ⟨fun _ => rfl, fun a b h => by cases h⟩
  | cons y l ih =>
   intro i
   by_cases h : y = x
   ·subst h
    refine ⟨fun h => by simp [cutB] at h, fun a b h => ?_⟩
    simp only [cutB, if_true, Option.some.injEq, Prod.mk.injEq] at h
    obtain ⟨rfl, rfl⟩ := h
    refine ⟨rfl, ?_⟩
    simp [idxB, forceN_eq]
   ·have hb : Nat.beq y.toNat x.toNat = false := by
     cases hb : Nat.beq y.toNat x.toNat with
     | false => rfl
     | true => exact absurd (UInt8.toNat_inj.1 (Nat.eq_of_beq_eq_true hb)) h
    simp only [cutB, h, if_false, idxB, hb, cond_false]
    obtain ⟨h1, h2⟩ := ih (i + 1)
    cases hc : cutB x l with
    | none => exact ⟨fun _ => h1 hc, fun a b h => by cases h⟩
    | some ab =>
     obtain ⟨a', b'⟩ := ab
     refine ⟨fun h => (by cases h), fun a b h => ?_⟩
     cases h
     obtain ⟨h3, h4⟩ := h2 a' b' hc
     refine ⟨by rw [h3]; rfl, ?_⟩
     rw [h4]
     simp <;> omega
 have := key s 0
 simpa using this
theorem s85_one (c : CallK) (N : Nat) (s : Bs) (x : UInt8) (h131 : ∀ vs H τ q, c f_stringslite_IndexByte vs H τ q = effK (idxP vs H τ) q) (H : Heap) (τ : Tape) (q : KV) :
  s_stringslite_Index c N (.str s) (.str [x]) H τ q = q (.int .i64 (idxB x.toNat s 0)) H τ := by
 have e1 : ((([x] : Bs).length : Int) == Int.ofNat 0) = false := rfl
 have e2 : ((([x] : Bs).length : Int) == Int.ofNat 1) = true := rfl
 have e3 : pStrIndex [.str [x], .int .i64 (.ofNat 0)] = some (.int .u8 (.ofNat x.toNat)) := rfl
 have e4 : x.toNat % 256 = x.toNat := Nat.mod_eq_of_lt (u8_lt x)
 simp only [s_stringslite_Index, lenS_mk, someK_mk, bin_eql, e1, gK_do', retK, effK_mk, bin_str, str_eql, pick_mk, cond_false, e2, condK_t, e3, h131, idxP, e4]
 cases hx : ([x] == s) with
 | false => simp only [condK_f]
 | true =>
  have : s = [x] := (beq_iff_eq.1 hx).symm
  subst this
  simp [condK_t, idxB, forceN_eq]
theorem s66_one (c : CallK) (N : Nat) (s : Bs) (x : UInt8) (hs : s.length < 9223372036854775807) (h130 : ∀ (s : Bs) (x : UInt8) H τ q, c f_stringslite_Index [.str s, .str [x]] H τ q = q (.int .i64 (idxB x.toNat s 0)) H τ) (H : Heap) (τ : Tape) (q : KV) :
  s_stringslite_Cut c N (.str s) (.str [x]) H τ q = q (match cutB x s with | some (a, b) => .tup [.str a, .str b, .bool true] | none => .tup [.str s, .str [], .bool false]) H τ := by
 obtain ⟨h1, h2⟩ := cutB_spec x s
 simp only [s_stringslite_Cut, h130]
 cases hc : cutB x s with
 | none =>
  rw [h1 hc, bin_geq]
  rfl
 | some ab =>
  obtain ⟨a, b⟩ := ab
  obtain ⟨h3, h4⟩ := h2 a b hc
  have e1 : decide (Int.ofNat 0 ≤ (a.length : Int)) = true := decide_eq_true (by simp <;> omega)
  have hl : a.length < s.length := by rw [h3]; simp
  have e2 : pStrSlice false true [.str s, .int .i64 (a.length : Int)] = some (.str a) := by
   rw [strSlice_hi (by omega), h3]; simp
  have e3 : wr .i64 ((a.length : Int) + (([x] : Bs).length : Int)) = ((a.length + 1 : Nat) : Int) := by
   rw [wr_id (by simp; omega) (by simp; omega)]; simp
  have e4 : pStrSlice true false [.str s, .int .i64 ((a.length + 1 : Nat) : Int)] = some (.str b) := by
   rw [strSlice_lo (by omega), h3]; simp
  rw [h4, bin_geq, e1, condK_t, e2, someK_mk, lenS_mk, someK_mk, bin_add, e3, e4, someK_mk]
theorem s37_one (c : CallK) (N : Nat) (s : Bs) (x : UInt8) (h103 : ∀ H τ q, c f_stringslite_Cut [.str s, .str [x]] H τ q = q (match cutB x s with | some (a, b) => .tup [.str a, .str b, .bool true] | none => .tup [.str s, .str [], .bool false]) H τ) (H : Heap) (τ : Tape) (q : KV) :
  s_strings_Cut c N (.str s) (.str [x]) H τ q = q (match cutB x s with | some (a, b) => .tup [.str a, .str b, .bool true] | none => .tup [.str s, .str [], .bool false]) H τ := by
 simp only [s_strings_Cut, h103]
 cases hc : cutB x s with
 | none => rfl
 | some ab => rfl
theorem trimB_length (p : UInt8 → Bool) (s : Bs) : (trimB p s).length ≤ s.length := by
 unfold trimB
 have h1 := (List.dropWhile_sublist (l := (s.reverse.dropWhile p).reverse) p).length_le
 have h2 := (List.dropWhile_sublist (l := s.reverse) p).length_le
 simp only [List.length_reverse] at h1 h2
 omega
end Go.Am.X

namespace Go.Am.X
end Go.Am.X

namespace Go.Am.X
end Go.Am.X

namespace Go.Am.X
abbrev CutOk (c : CallK) (x : UInt8) : Prop := ∀ (s : Bs), s.length < 9223372036854775807 → ∀ H τ q, c f_strings_Cut [.str s, .str [x]] H τ q = q (match cutB x s with | some (a, b) => .tup [.str a, .str b, .bool true] | none => .tup [.str s, .str [], .bool false]) H τ
abbrev IntOk (c : CallK) : Prop := ∀ (s : Bs), s.length < 9223372036854775807 → ∀ H τ q, c f_infra_Int [.str s] H τ q = q (.tup [.int .i64 (intB s).1, .bool (intB s).2]) H τ
abbrev C (N d : Nat) : CallK := callK (tabOf tabE N) d
theorem C_nat (N d : Nat) : CallNat (C N d) := tab_nat N d
section
variable {N : Nat} (hN : 9223372036854775807 < N)
include hN
theorem d_asciiSet_contains (d : Nat) (cut : Bs) {id : Nat} {H : Heap} (hc : H.cells? id = some (mark (repl 256 [.bool false]) cut)) (x : UInt8) (τ : Tape) (q : KV) : C N (d + 1) f_asciiSet_contains [.ptr id 0, .int .u8 (x.toNat : Int)] H τ q = q (.bool (cut.contains x)) H τ := by
 have hr : (repl 256 [V.bool false]).length = 256 := by rw [repl_length]; rfl
 have hg : ∀ i, i < 256 → (repl 256 [V.bool false])[i]? = some (.bool false) := fun i hi => by
  rw [repl_one, List.getElem?_replicate, if_pos hi]
 have := mark_get cut (repl 256 [V.bool false]) x hr (fun i hi => ⟨false, hg i hi⟩) false (hg _ (u8_lt x))
 exact s81_eval (C N d) N hc (by simpa using this) τ q
theorem d_strings_trimLeftASCII (d : Nat) (hd : 2 ≤ d) (cut s : Bs) (id : Nat) (H : Heap) (hs : s.length < 9223372036854775807) (hc : H.cells? id = some (mark (repl 256 [.bool false]) cut)) (τ : Tape) (q : KV) : C N d f_strings_trimLeftASCII [.str s, .ptr id 0] H τ q = q (.str (s.dropWhile cut.contains)) H τ := by
 obtain ⟨d, rfl⟩ : ∃ e, d = e + 1 + 1 := ⟨d - 2, by omega⟩
 show s_strings_trimLeftASCII (C N (d + 1)) N (.str s) (.ptr id 0) H τ q = _
 simp only [s_strings_trimLeftASCII]
 rw [trimL_loop (C N (d + 1)) N cut.contains (fun x τ q => d_asciiSet_contains hN d cut hc x τ q) _ s N _ τ (by omega) (by simp [T.get_set]) (by simp [T.get_set])]
 simp only [blockK, Nat.beq_refl, cond_true, seqK, s_strings_trimLeftASCII_j0, getK_set, ↓reduceIte]
theorem d_strings_trimRightASCII (d : Nat) (hd : 2 ≤ d) (cut s : Bs) (id : Nat) (H : Heap) (hs : s.length < 9223372036854775807) (hc : H.cells? id = some (mark (repl 256 [.bool false]) cut)) (τ : Tape) (q : KV) : C N d f_strings_trimRightASCII [.str s, .ptr id 0] H τ q = q (.str (s.reverse.dropWhile cut.contains).reverse) H τ := by
 obtain ⟨d, rfl⟩ : ∃ e, d = e + 1 + 1 := ⟨d - 2, by omega⟩
 show s_strings_trimRightASCII (C N (d + 1)) N (.str s) (.ptr id 0) H τ q = _
 simp only [s_strings_trimRightASCII]
 rw [trimR_loop (C N (d + 1)) N cut.contains (fun x τ q => d_asciiSet_contains hN d cut hc x τ q) _ s.reverse N _ τ (by simpa using hs) (by simp; omega) (by simp [T.get_set]) (by simp [T.get_set])]
 simp only [blockK, Nat.beq_refl, cond_true, seqK, s_strings_trimRightASCII_j0, getK_set, ↓reduceIte]
theorem d_strings_Trim (d : Nat) (hd : 3 ≤ d) (cut : Bs) (h2 : 2 ≤ cut.length) (h3 : cut.length < 9223372036854775807) (ha : ∀ x ∈ cut, x.toNat < 128) : TrimOk (C N d) cut := by
 intro s hs H hw τ q
 obtain ⟨d, rfl⟩ : ∃ e, d = e + 1 := ⟨d - 1, by omega⟩
 refine s_strings_Trim_ret (C N d) N (Nat.le_of_lt hN) cut s h2 h3 hs H hw (fun H hw τ q => ?_) (fun s id H hs hc τ q => d_strings_trimLeftASCII hN d (by omega) cut s id H hs hc τ q) (fun s id H hs hc τ q => d_strings_trimRightASCII hN d (by omega) cut s id H hs hc τ q) τ q
 obtain ⟨d, rfl⟩ : ∃ e, d = e + 1 := ⟨d - 1, by omega⟩
 exact s_strings_makeASCIISet_ret (C N d) N (Nat.le_of_lt hN) cut ha h3 H hw τ q
end
structure Small (hs : List (Bs × Bs)) : Prop where
 len : hs.length ≤ 1000
 all : ∀ h ∈ hs, h.1.length ≤ 10000 ∧ h.2.length ≤ 10000
section
variable {N : Nat} (hN : 9223372036854775807 < N)
include hN
theorem d_strings_Cut (d : Nat) (hd : 4 ≤ d) (x : UInt8) : CutOk (C N d) x := by
 intro s hs H τ q
 obtain ⟨d, rfl⟩ : ∃ e, d = e + 1 + 1 + 1 + 1 := ⟨d - 4, by omega⟩
 exact s37_one (C N (d + 1 + 1 + 1)) N s x (fun H τ q => s66_one (C N (d + 1 + 1)) N s x hs (fun s x H τ q => s85_one (C N (d + 1)) N s x (fun _ _ _ _ => rfl) H τ q) H τ q) H τ q
theorem d_infra_Int (d : Nat) (hd : 1 ≤ d) : IntOk (C N d) := by
 intro s hs H τ q
 obtain ⟨d, rfl⟩ : ∃ e, d = e + 1 := ⟨d - 1, by omega⟩
 exact s67_eval (C N d) N (Nat.le_of_lt hN) s hs H τ q
end
end Go.Am.X

namespace Go.Am.X
theorem s_strings_shouldUseASCIISet_ret (c : CallK) (N : Nat) (n : Int) (H : Heap) (τ : Tape) (q : KV) : s_strings_shouldUseASCIISet c N (.int .i64 n) H τ q = q (.bool (decide (8 < n))) H τ := by
 have e : decide (Int.ofNat 8 < n) = decide (8 < n) := rfl
 simp only [s_strings_shouldUseASCIISet, bin_gtr, e]
theorem s_utf8_ValidRune_ret (c : CallK) (N : Nat) (n : Int) (H : Heap) (τ : Tape) : ∃ b, ∀ q, s_utf8_ValidRune c N (.int .i32 n) H τ q = q (.bool b) H τ := by
 by_cases h1 : Int.ofNat 0 ≤ n
 ·by_cases h2 : n < Int.ofNat 55296
  ·refine ⟨true, fun q => ?_⟩
   simp only [s_utf8_ValidRune, bin_leq, decide_eq_true h1, gK_do, retK, effK_n, bin_lss, decide_eq_true h2, pick_mk, cond_true, someK_n, condK_tn]
  ·by_cases h3 : Int.ofNat 57343 < n
   ·by_cases h4 : n ≤ Int.ofNat 1114111
    ·refine ⟨true, fun q => ?_⟩
     simp only [s_utf8_ValidRune, bin_leq, decide_eq_true h1, gK_do, retK, effK_n, bin_lss, decide_eq_false h2, pick_mk, cond_true, someK_n, condK_fn, decide_eq_true h3, decide_eq_true h4, condK_tn]
    ·refine ⟨false, fun q => ?_⟩
     simp only [s_utf8_ValidRune, bin_leq, decide_eq_true h1, gK_do, retK, effK_n, bin_lss, decide_eq_false h2, pick_mk, cond_true, someK_n, condK_fn, decide_eq_true h3, decide_eq_false h4, condK_tn]
   ·refine ⟨false, fun q => ?_⟩
    simp only [s_utf8_ValidRune, bin_leq, decide_eq_true h1, gK_do, retK, effK_n, bin_lss, decide_eq_false h2, pick_mk, cond_true, cond_false, someK_n, condK_fn, decide_eq_false h3, gK_skip, gK_none]
 ·by_cases h3 : Int.ofNat 57343 < n
  ·exact absurd h3 (by simp at h1 ⊢; omega)
  ·refine ⟨false, fun q => ?_⟩
   simp only [s_utf8_ValidRune, bin_leq, decide_eq_false h1, gK_do, retK, effK_n, bin_lss, pick_mk, cond_true, cond_false, someK_n, condK_fn, decide_eq_false h3, gK_skip, gK_none]
theorem idxB_none (x : Nat) : ∀ (l : Bs) (i : Nat), (∀ y ∈ l, y.toNat ≠ x) → idxB x l i = -1 := by
 intro l
 induction l with
 | nil => intro i _; rfl
 | cons y l ih =>
  intro i h
  have e : Nat.beq y.toNat x = false := by
   cases hb : Nat.beq y.toNat x with
   | false => rfl
   | true => exact absurd (Nat.eq_of_beq_eq_true hb) (h y (by simp))
  simp only [idxB, e, cond_false]
  exact ih _ (fun z hz => h z (by simp [hz]))
theorem idxB_some (x : Nat) : ∀ (l : Bs) (i : Nat), (∃ y ∈ l, y.toNat = x) → 0 ≤ idxB x l i := by
 intro l
 induction l with
 | nil => intro i ⟨y, h, _⟩; simp at h
 | cons y l ih =>
  intro i h
  simp only [idxB, forceN_eq]
  cases hb : Nat.beq y.toNat x with
  | true => exact Int.natCast_nonneg _
  | false =>
   rw [cond_false]
   refine ih _ ?_
   obtain ⟨z, hz, e⟩ := h
   rcases List.mem_cons.1 hz with rfl | hz
   ·rw [e] at hb
    rw [Nat.beq_refl] at hb; cases hb
   ·exact ⟨z, hz, e⟩
def anyI (cut : Bs) : Bs → Nat → Int
 | [], _ => -1
 | x :: l, i => if cut.contains x then (i : Int) else anyI cut l (i + 1)
theorem anyI_iff (cut : Bs) : ∀ (l : Bs) (i : Nat), (decide (0 ≤ anyI cut l i)) = l.any cut.contains := by
 intro l
 induction l with
 | nil => intro i; rfl
 | cons x l ih =>
  intro i
  rw [anyI, List.any_cons]
  by_cases h : cut.contains x = true
  ·rw [if_pos h, h, decide_eq_true (Int.natCast_nonneg _)]; rfl
  ·rw [if_neg h, ih]
   have : cut.contains x = false := by simpa using h
   rw [this]; rfl
theorem anyI_skip (cut : Bs) (ha : ∀ x ∈ cut, x.toNat < 128) : ∀ (w : Nat) (l : Bs) (i : Nat), w ≤ l.length → (∀ x ∈ l.take w, 128 ≤ x.toNat) → anyI cut l i = anyI cut (l.drop w) (i + w) := by
 intro w
 induction w with
 | zero => intro l i _ _; rfl
 | succ w ih =>
  intro l i hl hx
  cases l with
  | nil => simp at hl
  | cons x l =>
   have h1 : ¬ cut.contains x = true := by
    intro h
    have h1 := ha x (by simpa using h)
    have h2 := hx x (by simp)
    omega
   rw [anyI, if_neg h1, List.drop_succ_cons, ih l (i + 1) (by simpa using hl) (fun y hy => hx y (by simp [hy]))]
   congr 1; omega
abbrev Idx70 (c : CallK) : Prop := ∀ (s : Bs) (x : UInt8) H τ q, c f_strings_IndexByte [.str s, .int .u8 (x.toNat : Int)] H τ q = q (.int .i64 (idxB x.toNat s 0)) H τ
theorem s_strings_IndexByte_ret (c : CallK) (N : Nat) (h86 : ∀ (s : Bs) (x : UInt8) H τ q, c f_stringslite_IndexByte [.str s, .int .u8 (x.toNat : Int)] H τ q = q (.int .i64 (idxB x.toNat s 0)) H τ) (s : Bs) (x : UInt8) (H : Heap) (τ : Tape) (q : KV) :
  s_strings_IndexByte c N (.str s) (.int .u8 (x.toNat : Int)) H τ q = q (.int .i64 (idxB x.toNat s 0)) H τ := by
 simp only [s_strings_IndexByte, h86]
theorem l_strings_IndexRunea (c : CallK) (N : Nat) (chars : Bs) (ha : ∀ x ∈ chars, x.toNat < 128) (id : Nat) : ∀ (l : Bs) (pos : Nat) (H : Heap) (fr : T V) (τ : Tape) (m : Nat), chars.drop pos = l → l.length < m → WF H → Iter H id chars pos → fr.get 175 = some (.ptr id 0) →
  ∃ H', Gr id H H' ∧ ∀ k, loopK (s_strings_IndexRune_l1 c N) m ⟨fr, H⟩ τ k = k (.exit 9) ⟨.leaf, H'⟩ τ := by
 intro l
 induction l with
 | nil =>
  intro pos H fr τ m hd hm hw it f
  obtain ⟨m, rfl⟩ : ∃ j, m = j + 1 := ⟨m - 1, by omega⟩
  refine ⟨H, Gr.refl hw, fun k => ?_⟩
  have e := iter_end it (by simpa using hd) τ
  have x0 : pExtract 0 [.tup [V.bool false]] = some (.bool false) := rfl
  rw [loopK_succ]
  simp only [s_strings_IndexRune_l1, getK_mk f, e, effK_n, x0, someK_n, condK_fn]
  rfl
 | cons x l ih =>
  intro pos H fr τ m hd hm hw it f
  obtain ⟨m, rfl⟩ : ∃ j, m = j + 1 := ⟨m - 1, by omega⟩
  have hp : pos < chars.length := by
   by_cases h : pos < chars.length
   ·exact h
   ·rw [List.drop_eq_nil_of_le (by omega)] at hd; cases hd
  have hx := ha x (List.mem_of_mem_drop (i := pos) (by rw [hd]; simp))
  obtain ⟨H1, e, g1, it1, z1⟩ := iter_next hw it hp τ
  rw [hd, dec_ascii x l hx] at e it1
  obtain ⟨H2, g2, k2⟩ := ih (pos + 1) H1 (T.set (T.set (T.set .leaf 5 (.int .i64 (pos : Int))) 175 (.ptr id 0)) 181 (.bool false)) τ m (by rw [← List.drop_drop, hd]; rfl) (by simp at hm; omega) g1.wf it1 (by simp [T.get_set])
  refine ⟨H2, g1.trans g2 (Nat.le_refl _), fun k => ?_⟩
  have x0 : ∀ a b d : V, pExtract 0 [.tup [a, b, d]] = some a := fun _ _ _ => rfl
  have x1 : ∀ a b d : V, pExtract 1 [.tup [a, b, d]] = some b := fun _ _ _ => rfl
  have x2 : ∀ a b d : V, pExtract 2 [.tup [a, b, d]] = some d := fun _ _ _ => rfl
  have ne : ((x.toNat : Int) == Int.ofNat 65533) = false := by rw [beq_eq_false_iff_ne]; intro h; simp at h; omega
  rw [loopK_succ]
  simp only [s_strings_IndexRune_l1, getK_mk f, e, effK_n, x0, x1, x2, someK_n, condK_tn, bin_eql, ne, condK_fn]
  exact k2 k
theorem s_strings_IndexRune_ret (c : CallK) (N : Nat) (hN : 1000 < N) (h70 : Idx70 c) (h114 : ∀ (n : Int) H τ, ∃ b, ∀ q, c f_utf8_ValidRune [.int .i32 n] H τ q = q (.bool b) H τ) (chars : Bs) (ha : ∀ x ∈ chars, x.toNat < 128) (hl : chars.length < 1000) (r : Nat)
  (H : Heap) (hw : WF H) (τ : Tape) : ∃ H', Gr H.size H H' ∧ ∀ q, s_strings_IndexRune c N (.str chars) (.int .i32 (r : Int)) H τ q = q (.int .i64 (if r < 128 then idxB r chars 0 else -1)) H' τ := by
 have e0 : decide (Int.ofNat 0 ≤ (r : Int)) = true := decide_eq_true (by simp)
 by_cases h : r < 128
 ·have e1 : decide ((r : Int) < Int.ofNat 128) = true := decide_eq_true (by simp; omega)
  have hu : (UInt8.ofNat r).toNat = r := by rw [UInt8.toNat_ofNat']; omega
  have hwr : wr .u8 (r : Int) = ((UInt8.ofNat r).toNat : Int) := by
   rw [hu, wr_eq]
   simp only [IntKind.wrap, IntKind.signed, IntKind.bits]
   simp <;> omega
  refine ⟨H, Gr.refl hw, fun q => ?_⟩
  rw [if_pos h]
  simp only [s_strings_IndexRune, bin_leq, e0, gK_do, retK, effK_n, bin_lss, e1, pick_mk, cond_true, someK_n, condK_tn, toInt_mk, hwr, h70]
  rw [hu]
 ·have e1 : decide ((r : Int) < Int.ofNat 128) = false := decide_eq_false (by simp; omega)
  rw [if_neg h]
  by_cases hr : r = 65533
  ·subst hr
   have e2 : (((65533 : Nat) : Int) == Int.ofNat 65533) = true := rfl
   obtain ⟨H1, k1, g1, it⟩ := iter_start hw chars τ
   obtain ⟨H2, g2, k2⟩ := l_strings_IndexRunea c N chars ha H.size chars 0 H1 (T.set .leaf 175 (.ptr H.size 0)) τ N rfl (by omega) g1.wf it (by simp [T.get_set])
   refine ⟨H2, g1.trans g2 (Nat.le_refl _), fun q => ?_⟩
   simp only [s_strings_IndexRune, bin_leq, e0, gK_do, retK, effK_n, bin_lss, e1, pick_mk, cond_true, someK_n, condK_fn, bin_eql, e2, condK_tn, k1]
   rw [k2]
   rfl
  ·have e2 : ((r : Int) == Int.ofNat 65533) = false := by rw [beq_eq_false_iff_ne]; intro h; simp at h; omega
   obtain ⟨b, hb⟩ := h114 (r : Int) H τ
   refine ⟨H, Gr.refl hw, fun q => ?_⟩
   simp only [s_strings_IndexRune, bin_leq, e0, gK_do, retK, effK_n, bin_lss, e1, pick_mk, cond_true, someK_n, condK_fn, bin_eql, e2, hb, un_not]
   cases b with
   | false => simp only [Bool.not_false, condK_tn]; rfl
   | true =>
    obtain ⟨E1, E2, E3⟩ := enc_high r (by omega)
    have er : pRuneStr [.int .i32 (r : Int)] = some (.str (encodeR (r : Int))) := rfl
    simp only [Bool.not_true, condK_fn, er, someK_n, lenS_mk]
    generalize encodeR (r : Int) = rs at E1 E2 E3
    obtain ⟨n, hn⟩ : ∃ n, rs.length = n + 1 := ⟨rs.length - 1, by have := List.length_pos_iff.2 E2; omega⟩
    have es : wr .i64 ((rs.length : Int) - Int.ofNat 1) = (n : Int) := by rw [wr_id (by simp; omega) (by simp; omega)]; simp; omega
    obtain ⟨N, rfl⟩ : ∃ M, N = M + 1 := ⟨N - 1, by omega⟩
    have f0 : ∀ j, getK (T.set (T.set (T.set (T.set .leaf 0 (.str chars)) 7 (.str rs)) 8 (.int .i64 (n : Int))) 9 (.int .i64 (n : Int))) j = getK (T.set (T.set (T.set (T.set .leaf 0 (.str chars)) 7 (.str rs)) 8 (.int .i64 (n : Int))) 9 (.int .i64 (n : Int))) j := fun _ => rfl
    simp only [bin_sub, es]
    rw [loopK_succ]
    have ir : pStrIndex [.str rs, .int .i64 (n : Int)] = some (.int .u8 ((rs[n]'(by omega)).toNat : Int)) := strIndex_mk (by rw [List.getElem?_eq_getElem])
    have hh := E1 (rs[n]'(by omega)) (List.getElem_mem _)
    by_cases hlt : n < chars.length
    ·have e3 : decide ((n : Int) < (chars.length : Int)) = true := decide_eq_true (by omega)
     have ic : pStrIndex [.str chars, .int .i64 (n : Int)] = some (.int .u8 ((chars[n]'hlt).toNat : Int)) := strIndex_mk (by rw [List.getElem?_eq_getElem])
     have hc := ha (chars[n]'hlt) (List.getElem_mem _)
     have e4 : (((chars[n]'hlt).toNat : Int) != ((rs[n]'(by omega)).toNat : Int)) = true := by rw [bne_iff_ne]; omega
     have e5 : wr .i64 ((n : Int) + Int.ofNat 1) = ((n + 1 : Nat) : Int) := by rw [wr_id (by simp; omega) (by simp; omega)]; rfl
     have e6 : pStrSlice true false [.str chars, .int .i64 ((n + 1 : Nat) : Int)] = some (.str (chars.drop (n + 1))) := strSlice_lo (by omega)
     have e7 : idxB (rs[n]'(by omega)).toNat (chars.drop (n + 1)) 0 = -1 := idxB_none _ _ _ (fun y hy => by have := ha y (List.mem_of_mem_drop hy); omega)
     have e8 : decide ((-1 : Int) < Int.ofNat 0) = true := rfl
     simp only [s_strings_IndexRune_l3, getK_set, ↓reduceIte, Nat.reduceEqDiff, lenS_mk, someK_n, bin_lss, e3, condK_tn, ic, ir, bin_neq, e4, bin_add, e5, e6, h70, e7, e8]
     rfl
    ·have e3 : decide ((n : Int) < (chars.length : Int)) = false := decide_eq_false (by omega)
     simp only [s_strings_IndexRune_l3, getK_set, ↓reduceIte, Nat.reduceEqDiff, lenS_mk, someK_n, bin_lss, e3, condK_fn]
     rfl
end Go.Am.X

namespace Go.Am.X
theorem l_strings_IndexAnyb (c : CallK) (N : Nat) (cut s : Bs) (hs : s.length < 9223372036854775807) (id : Nat) (H : Heap) (h81 : ∀ (x : UInt8) τ q, c f_asciiSet_contains [.ptr id 0, .int .u8 (x.toNat : Int)] H τ q = q (.bool (cut.contains x)) H τ) (q : KV) :
  ∀ (l pre : Bs) (fr : T V) (τ : Tape) (m : Nat), s = pre ++ l → l.length < m → fr.get 0 = some (.str s) → fr.get 6 = some (.ptr id 0) → fr.get 8 = some (.int .i64 (pre.length : Int)) →
  loopK (s_strings_IndexAny_l11 c N) m ⟨fr, H⟩ τ (blockK 0 (seqK (s_strings_IndexAny_j10 c N q) (seqK (s_strings_IndexAny_j7 c N q) (endK [(.t 4)] q)))) = q (.int .i64 (anyI cut l pre.length)) H τ := by
 intro l
 induction l with
 | nil =>
  intro pre fr τ m he hm f0 f6 f8
  obtain ⟨m, rfl⟩ : ∃ j, m = j + 1 := ⟨m - 1, by omega⟩
  have e1 : decide ((pre.length : Int) < (s.length : Int)) = false := decide_eq_false (by rw [he]; simp)
  rw [loopK_succ]
  simp only [s_strings_IndexAny_l11, getK_mk f0, getK_mk f6, getK_mk f8, lenS_mk, someK_n, bin_lss, e1, condK_fn]
  rfl
 | cons x l ih =>
  intro pre fr τ m he hm f0 f6 f8
  obtain ⟨m, rfl⟩ : ∃ j, m = j + 1 := ⟨m - 1, by omega⟩
  have hl : pre.length < s.length := by rw [he]; simp
  have e1 : decide ((pre.length : Int) < (s.length : Int)) = true := decide_eq_true (by omega)
  have e2 : pStrIndex [.str s, .int .i64 (pre.length : Int)] = some (.int .u8 (x.toNat : Int)) := strIndex_mk (by rw [he]; simp)
  have e3 : wr .i64 ((pre.length : Int) + Int.ofNat 1) = ((pre ++ [x]).length : Int) := by
   rw [wr_id (by simp; omega) (by simp; omega)]; simp
  rw [loopK_succ]
  simp only [s_strings_IndexAny_l11, getK_mk f0, getK_mk f6, getK_mk f8, lenS_mk, someK_n, bin_lss, e1, condK_tn, e2, h81]
  by_cases h : cut.contains x = true
  ·rw [h, anyI, if_pos h]
   simp only [condK_tn]
   rfl
  ·have h' : cut.contains x = false := by simpa using h
   rw [h', anyI, if_neg h]
   simp only [condK_fn, bin_add, e3]
   have := ih (pre ++ [x]) (T.set (T.set (T.set (T.set (T.set (T.set .leaf 0 (.str s)) 6 (.ptr id 0)) 8 (.int .i64 (pre.length : Int))) 37 (.int .i64 (pre.length : Int))) 38 (.int .i64 ((pre ++ [x]).length : Int))) 8 (.int .i64 ((pre ++ [x]).length : Int))) τ m (by rw [he]; simp) (by simp at hm; omega) (by simp [T.get_set]) (by simp [T.get_set]) (by simp [T.get_set])
   rw [show (pre ++ [x]).length = pre.length + 1 by simp] at this ⊢
   exact this
abbrev Rune92 (c : CallK) (cut : Bs) : Prop := ∀ (r : Nat) (H : Heap), WF H → ∀ τ, ∃ H', Gr H.size H H' ∧ ∀ q, c f_strings_IndexRune [.str cut, .int .i32 (r : Int)] H τ q = q (.int .i64 (if r < 128 then idxB r cut 0 else -1)) H' τ
theorem l_strings_IndexAnya (c : CallK) (N : Nat) (cut s : Bs) (ha : ∀ x ∈ cut, x.toNat < 128) (hs : s.length < 9223372036854775807) (id : Nat) (h92 : Rune92 c cut) :
  ∀ (n : Nat) (l : Bs) (pos : Nat) (H : Heap) (fr : T V) (τ : Tape) (m : Nat), s.drop pos = l → l.length ≤ n → n < m → WF H → Iter H id s pos → fr.get 1 = some (.str cut) → fr.get 45 = some (.ptr id 0) →
  ∃ H', Gr id H H' ∧ ∀ q, loopK (s_strings_IndexAny_l9 c N) m ⟨fr, H⟩ τ (blockK 2 (seqK (s_strings_IndexAny_j8 c N q) (endK [(.t 4)] q))) = q (.int .i64 (anyI cut l pos)) H' τ := by
 intro n
 induction n with
 | zero =>
  intro l pos H fr τ m hd hl hm hw it f1 f45
  obtain ⟨m, rfl⟩ : ∃ j, m = j + 1 := ⟨m - 1, by omega⟩
  have hl0 : l = [] := List.eq_nil_of_length_eq_zero (by omega)
  subst hl0
  refine ⟨H, Gr.refl hw, fun q => ?_⟩
  have e := iter_end it (by simpa using hd) τ
  have x0 : pExtract 0 [.tup [V.bool false]] = some (.bool false) := rfl
  rw [loopK_succ]
  simp only [s_strings_IndexAny_l9, getK_mk f1, getK_mk f45, e, effK_n, x0, someK_n, condK_fn]
  rfl
 | succ n ih =>
  intro l pos H fr τ m hd hl hm hw it f1 f45
  obtain ⟨m, rfl⟩ : ∃ j, m = j + 1 := ⟨m - 1, by omega⟩
  cases l with
  | nil =>
   refine ⟨H, Gr.refl hw, fun q => ?_⟩
   have e := iter_end it (by simpa using hd) τ
   have x0 : pExtract 0 [.tup [V.bool false]] = some (.bool false) := rfl
   rw [loopK_succ]
   simp only [s_strings_IndexAny_l9, getK_mk f1, getK_mk f45, e, effK_n, x0, someK_n, condK_fn]
   rfl
  | cons x l =>
   have hp : pos < s.length := by
    by_cases h : pos < s.length
    ·exact h
    ·rw [List.drop_eq_nil_of_le (by omega)] at hd; cases hd
   obtain ⟨H1, e, g1, it1, z1⟩ := iter_next hw it hp τ
   have hid : id < H.size := it.lt hw
   have x0 : ∀ a b d : V, pExtract 0 [.tup [a, b, d]] = some a := fun _ _ _ => rfl
   have x1 : ∀ a b d : V, pExtract 1 [.tup [a, b, d]] = some b := fun _ _ _ => rfl
   have x2 : ∀ a b d : V, pExtract 2 [.tup [a, b, d]] = some d := fun _ _ _ => rfl
   rw [hd] at e it1
   obtain ⟨H2, g2, k2⟩ := h92 (decodeR (x :: l)).1 H1 g1.wf τ
   have it2 := it1.gr g2 (by omega)
   have g12 : Gr id H H2 := g1.trans g2 (by omega)
   have go : ∀ w, 1 ≤ w → w ≤ (x :: l).length → (decodeR (x :: l)).2 = w → (if (decodeR (x :: l)).1 < 128 then idxB (decodeR (x :: l)).1 cut 0 else -1) = -1 → anyI cut (x :: l) pos = anyI cut ((x :: l).drop w) (pos + w) →
     ∃ H', Gr id H H' ∧ ∀ q, loopK (s_strings_IndexAny_l9 c N) (m + 1) ⟨fr, H⟩ τ (blockK 2 (seqK (s_strings_IndexAny_j8 c N q) (endK [(.t 4)] q))) = q (.int .i64 (anyI cut (x :: l) pos)) H' τ := by
    intro w hw1 hw2 hw' hneg hany
    rw [hw'] at it2
    obtain ⟨H3, g3, k3⟩ := ih ((x :: l).drop w) (pos + w) H2 (T.set (T.set (T.set (T.set .leaf 1 (.str cut)) 9 (.int .i64 (pos : Int))) 45 (.ptr id 0)) 53 (.bool false)) τ m (by rw [← List.drop_drop, hd]) (by rw [List.length_drop]; simp at hl hw2 ⊢; omega) (by omega) g2.wf it2 (by simp [T.get_set]) (by simp [T.get_set])
    refine ⟨H3, g12.trans g3 (Nat.le_refl _), fun q => ?_⟩
    have ef : decide (Int.ofNat 0 ≤ (-1 : Int)) = false := rfl
    rw [loopK_succ, hany]
    simp only [s_strings_IndexAny_l9, getK_mk f1, getK_mk f45, e, effK_n, x0, x1, x2, someK_n, condK_tn, k2, hneg, bin_geq, ef, condK_fn]
    exact k3 q
   by_cases hx : x.toNat < 128
   ·have hdx := dec_ascii x l hx
    by_cases hc : cut.contains x = true
    ·have hi : 0 ≤ idxB x.toNat cut 0 := idxB_some _ _ _ ⟨x, by simpa using hc, rfl⟩
     have ef : decide (Int.ofNat 0 ≤ idxB x.toNat cut 0) = true := decide_eq_true hi
     refine ⟨H2, g12, fun q => ?_⟩
     rw [hdx] at k2 e
     rw [if_pos hx] at k2
     rw [loopK_succ, anyI, if_pos hc]
     simp only [s_strings_IndexAny_l9, getK_mk f1, getK_mk f45, e, effK_n, x0, x1, x2, someK_n, condK_tn, k2, bin_geq, ef]
     rfl
    ·refine go 1 (by omega) (by simp) (by rw [hdx]) ?_ ?_
     ·rw [hdx, if_pos hx]
      exact idxB_none _ _ _ (fun y hy h => hc (by
       have : y = x := UInt8.toNat_inj.1 h
       subst this; simpa using hy))
     ·rw [anyI, if_neg hc]; rfl
   ·obtain ⟨d1, d2, d3, d4⟩ := dec_high x l (by omega)
    refine go _ d2 d3 rfl ?_ ?_
    ·rw [if_neg (by omega)]
    ·exact anyI_skip cut ha _ _ _ d3 d4
theorem s_strings_IndexAny_ret (c : CallK) (N : Nat) (hN : 9223372036854775807 ≤ N) (cut s : Bs) (ha : ∀ x ∈ cut, x.toNat < 128) (h2 : 2 ≤ cut.length) (hs : s.length < 9223372036854775807) (h92 : Rune92 c cut)
  (h93 : ∀ (n : Int) H τ q, c f_strings_shouldUseASCIISet [.int .i64 n] H τ q = q (.bool (decide (8 < n))) H τ)
  (h60 : ∀ (H : Heap), WF H → ∀ τ, ∃ H', Gr H.size H H' ∧ ∀ q, c f_strings_makeASCIISet [.str cut] H τ q = q (.tup [.agg (mark (repl 256 [.bool false]) cut), .bool true]) H' τ)
  (h81 : ∀ (id : Nat) (H : Heap), H.cells? id = some (mark (repl 256 [.bool false]) cut) → ∀ (x : UInt8) τ q, c f_asciiSet_contains [.ptr id 0, .int .u8 (x.toNat : Int)] H τ q = q (.bool (cut.contains x)) H τ)
  (H : Heap) (hw : WF H) (τ : Tape) : ∃ H', Gr H.size H H' ∧ ∀ q, s_strings_IndexAny c N (.str s) (.str cut) H τ q = q (.int .i64 (anyI cut s 0)) H' τ := by
 have e0 : (cut == ([] : Bs)) = false := beq_eq_false_iff_ne.2 (fun h => by rw [h] at h2; simp at h2)
 have e1 : ((cut.length : Int) == Int.ofNat 1) = false := by rw [beq_eq_false_iff_ne]; intro h; simp at h; omega
 by_cases h8 : (8 : Int) < (s.length : Int)
 ·have e2 : decide ((8 : Int) < (s.length : Int)) = true := decide_eq_true h8
  obtain ⟨H1, k1, k2⟩ := h60 H hw τ
  have hr : (repl 256 [V.bool false]).length = 256 := by rw [repl_length]; rfl
  have hm : (mark (repl 256 [V.bool false]) cut).length = 256 := by rw [mark_length, hr]
  have hB := Blk.new H1 (repl 256 [V.bool false]) (repl 256 [V.bool false]).length true (Nat.le_refl _)
  have hG := Gr.new k1.wf (repl 256 [V.bool false]) (repl 256 [V.bool false]).length true
  have hsc : (mark (repl 256 [V.bool false]) cut).all V.scal = true := by
   have : ∀ (l : List UInt8) (cells : List V), cells.all V.scal = true → (mark cells l).all V.scal = true := by
    intro l
    induction l with
    | nil => intro cells h; exact h
    | cons x l ih =>
     intro cells h
     refine ih _ ?_
     rw [List.all_eq_true] at h ⊢
     intro v hv
     rcases List.mem_or_eq_of_mem_set hv with hv | rfl
     ·exact h v hv
     ·rfl
   exact this cut _ (by rw [repl_one, List.all_eq_true]; intro v hv; rw [List.eq_of_mem_replicate hv]; rfl)
  obtain ⟨H2, m1, m2, m3, m4⟩ := hB.eStore hG.wf 0 (.agg (mark (repl 256 [.bool false]) cut)) 256 hm (by rw [hr]; omega) hsc τ
  have hcells : (repl 256 [V.bool false]).take 0 ++ (V.agg (mark (repl 256 [.bool false]) cut)).cells ++ (repl 256 [V.bool false]).drop (0 + 256) = mark (repl 256 [.bool false]) cut := by
   rw [List.take_zero, List.nil_append, V.cells, List.drop_eq_nil_of_le (by rw [hr]; omega), List.append_nil]
  rw [hcells] at m2
  refine ⟨H2, k1.trans (hG.trans m3 (Nat.le_refl _)) k1.size, fun q => ?_⟩
  have x0 : ∀ a b : V, pExtract 0 [.tup [a, b]] = some a := fun _ _ => rfl
  have x1 : ∀ a b : V, pExtract 1 [.tup [a, b]] = some b := fun _ _ => rfl
  have al : eAlloc (repl 256 [(.bool false)]) [] H1 τ = some (.ptr H1.size 0, H1.new (repl 256 [V.bool false]) (repl 256 [V.bool false]).length true, τ) := rfl
  simp only [s_strings_IndexAny, bin_str, str_eql, e0, someK_n, condK_fn, lenS_mk, bin_eql, e1, h93, e2, condK_tn, k2, x0, x1, al, effK_n, m1]
  exact l_strings_IndexAnyb c N cut s hs H1.size H2 (fun x τ q => h81 H1.size H2 m2.cells x τ q) q s [] _ τ N rfl (by omega) (by simp [T.get_set]) (by simp [T.get_set]) (by simp [T.get_set])
 ·have e2 : decide ((8 : Int) < (s.length : Int)) = false := decide_eq_false h8
  obtain ⟨H1, k1, g1, it⟩ := iter_start hw s τ
  obtain ⟨H2, g2, k2⟩ := l_strings_IndexAnya c N cut s ha hs H.size h92 s.length s 0 H1 (T.set (T.set .leaf 1 (.str cut)) 45 (.ptr H.size 0)) τ N rfl (Nat.le_refl _) (by omega) g1.wf it (by simp [T.get_set]) (by simp [T.get_set])
  refine ⟨H2, g1.trans g2 (Nat.le_refl _), fun q => ?_⟩
  simp only [s_strings_IndexAny, bin_str, str_eql, e0, someK_n, condK_fn, lenS_mk, bin_eql, e1, h93, e2, condK_tn, s_strings_IndexAny_j7, getK_set, ↓reduceIte, Nat.reduceEqDiff, k1, effK_n]
  exact k2 q
theorem s_strings_ContainsAny_ret (c : CallK) (N : Nat) (cut s : Bs) (H H' : Heap) (τ : Tape) (h78 : ∀ q, c f_strings_IndexAny [.str s, .str cut] H τ q = q (.int .i64 (anyI cut s 0)) H' τ) (q : KV) : s_strings_ContainsAny c N (.str s) (.str cut) H τ q = q (.bool (s.any cut.contains)) H' τ := by
 have e : decide (Int.ofNat 0 ≤ anyI cut s 0) = s.any cut.contains := anyI_iff cut s 0
 simp only [s_strings_ContainsAny, h78, bin_geq, e]
def valT (s : Bs) : Bs := trimB ([9, 10, 13, 32] : Bs).contains s
def valO (s : Bs) : Bool := !(valT s).any ([0, 10, 13] : Bs).contains
def valV (s : Bs) : V := bif valO s then .tup [.str (valT s), .bool true] else .tup [.str [], .bool false]
theorem s_headers_Value_ret (c : CallK) (N : Nat) (s : Bs) (H H1 H2 : Heap) (τ τ1 τ2 : Tape) (h35 : ∀ q, c f_strings_Trim [.str s, .str (bs [9, 10, 13, 32])] H τ q = q (.str (valT s)) H1 τ1)
  (h54 : ∀ q, c f_strings_ContainsAny [.str (valT s), .str (bs [0, 10, 13])] H1 τ1 q = q (.bool ((valT s).any ([0, 10, 13] : Bs).contains)) H2 τ2) (q : KV) : s_headers_Value c N (.str s) H τ q = q (valV s) H2 τ2 := by
 simp only [s_headers_Value, h35, h54, valV, valO]
 by_cases h : (valT s).any ([0, 10, 13] : Bs).contains = true
 ·rw [h]; simp only [condK_tn, Bool.not_true, cond_false]
 ·have h' : (valT s).any ([0, 10, 13] : Bs).contains = false := by simpa using h
  rw [h']; simp only [condK_fn, Bool.not_false, cond_true]
end Go.Am.X

namespace Go.Am.X
abbrev Hd := Bs × Bs
def hv (h : Hd) : V := .agg [.str h.1, .str h.2]
theorem put2 {H : Heap} {B : Nat} {v : V} {hs : List Hd} {n : Nat} (h : Apd H B 2 v n (hcells hs)) (hw : WF H) (hB : B ≤ H.size) (x : Hd) (hn : n ≤ 1000000) (τ : Tape) :
  ∃ w H1 v' H' τ', eBuildSlice 1 2 [(.str []), (.str [])] [(0, 2)] [.agg [.str x.1, .str x.2]] H τ = some (w, H1, τ) ∧ eAppend 2 32 [v, w] H1 τ = some (v', H', τ') ∧ Apd H' B 2 v' (n + 1) (hcells (hs ++ [x])) ∧ Gr B H H' ∧ (∀ id cs, H.cells? id = some cs → H'.cells? id = some cs) ∧ Gr B H H1 := by
 obtain ⟨v', H', τ', r1, r2, r3, r4⟩ := h.put (bytes := 32) hw hB [.str x.1, .str x.2] rfl rfl (by omega) (by omega) τ
 refine ⟨_, _, v', H', τ', rfl, r1, ?_, r3, r4, (Gr.new hw _ _ _).weaken hB⟩
 rw [hcells_append]; exact r2
end Go.Am.X

