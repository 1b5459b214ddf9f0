/- Texts for the law HeadersRanges: the machine, printed functions of the program, and what they are shown to be. -/
import Derived.Test.YtpigmhokjbbffaaDoorNC0
import Derived.Test.YtpigmhokjbbffaaDoorNM3
namespace Go.Am.AmTrydHd
set_option linter.unusedSimpArgs false
/-! ### pieces, put together -/
def wordL : Bs → Bs → Bs
  | out, [] => out
  | out, x :: s => if out.length < 12 then (if 97 ≤ x.toNat ∧ x.toNat ≤ 122 then wordL (out ++ [x]) s else wordL out s) else out
def wordT (s : Bs) : Bs := wordL [113] s
def Letters (s : Bs) : Prop := ∀ x ∈ s, 97 ≤ x.toNat ∧ x.toNat ≤ 122
theorem wordL_ok : ∀ (s out : Bs), Letters out → out ≠ [] → out.length ≤ 12 → Letters (wordL out s) ∧ wordL out s ≠ [] ∧ (wordL out s).length ≤ 12 := by
  intro s
  induction s with
  | nil => intro out h1 h2 h3; exact ⟨h1, h2, h3⟩
  | cons x s ih =>
    intro out h1 h2 h3
    rw [wordL]
    by_cases hl : out.length < 12
    · rw [if_pos hl]
      by_cases hx : 97 ≤ x.toNat ∧ x.toNat ≤ 122
      · rw [if_pos hx]
        refine ih (out ++ [x]) (fun y hy => ?_) (by simp) (by simp; omega)
        simp only [List.mem_append, List.mem_singleton] at hy
        rcases hy with hy | rfl
        · exact h1 y hy
        · exact hx
      · rw [if_neg hx]; exact ih out h1 h2 h3
    · rw [if_neg hl]; exact ⟨h1, h2, h3⟩
theorem wordT_ok (s : Bs) : Letters (wordT s) ∧ wordT s ≠ [] ∧ (wordT s).length ≤ 12 := wordL_ok s [113] (fun x hx => by simp only [List.mem_singleton] at hx; subst hx; decide) (by simp) (by simp)
def pieceX (i : Nat) (w : Bs) : Bs := if i % 3 = 2 then 34 :: (w ++ (44 :: 32 :: (w ++ [34]))) else w
def sepX (i : Nat) : Bs := if i % 3 = 0 then [44] else if i % 3 = 1 then [44, 32] else [32, 44, 9]
def joinX : Nat → List Bs → Bs
  | _, [] => []
  | i, w :: l => sepX i ++ (pieceX i w ++ joinX (i + 1) l)
def piecesX : Nat → List Bs → List Bs
  | _, [] => []
  | i, w :: l => pieceX i w :: piecesX (i + 1) l
theorem split_letters : ∀ (w cur r : Bs), Letters w → splitF false cur (w ++ r) = splitF false (cur ++ w) r := by
  intro w
  induction w with
  | nil => intro cur r _; simp
  | cons x w ih =>
    intro cur r h
    have hx := h x (by simp)
    have h34 : x ≠ 34 := fun e => by subst e; revert hx; decide
    have h44 : x ≠ 44 := fun e => by subst e; revert hx; decide
    rw [List.cons_append, splitF_out _ _ h34 h44, ih _ _ (fun y hy => h y (by simp [hy]))]
    simp
theorem split_lettersQ : ∀ (w cur r : Bs), Letters w → splitF true cur (w ++ r) = splitF true (cur ++ w) r := by
  intro w
  induction w with
  | nil => intro cur r _; simp
  | cons x w ih =>
    intro cur r h
    have hx := h x (by simp)
    have h34 : x ≠ 34 := fun e => by subst e; revert hx; decide
    have h92 : x ≠ 92 := fun e => by subst e; revert hx; decide
    rw [List.cons_append, splitF_in _ _ h34 h92, ih _ _ (fun y hy => h y (by simp [hy]))]
    simp
theorem split_piece (i : Nat) (w cur r : Bs) (h : Letters w) : splitF false cur (pieceX i w ++ r) = splitF false (cur ++ pieceX i w) r := by
  unfold pieceX
  by_cases hi : i % 3 = 2
  · rw [if_pos hi]
    have e : (34 :: (w ++ (44 :: 32 :: (w ++ [34])))) ++ r = 34 :: (w ++ (44 :: 32 :: (w ++ (34 :: r)))) := by simp
    rw [e, splitF_quote _ _ _ rfl, Bool.not_false, split_lettersQ _ _ _ h, splitF_in _ _ (by decide) (by decide), splitF_in _ _ (by decide) (by decide), split_lettersQ _ _ _ h, splitF_quote _ _ _ rfl, Bool.not_true]
    simp
  · rw [if_neg hi]; exact split_letters w cur r h
def Blanks (a : Bs) : Prop := ∀ x ∈ a, tight x = true
def Firm (p : Bs) : Prop := ∃ x t y u, p = x :: t ∧ p = u ++ [y] ∧ tight x = false ∧ tight y = false
theorem drop_blanks : ∀ (a r : Bs), Blanks a → (a ++ r).dropWhile tight = r.dropWhile tight := by
  intro a
  induction a with
  | nil => intro r _; rfl
  | cons x a ih => intro r h; rw [List.cons_append, List.dropWhile_cons, if_pos (h x (by simp)), ih r (fun y hy => h y (by simp [hy]))]
theorem trim_firm (a p b : Bs) (ha : Blanks a) (hb : Blanks b) (hp : Firm p) : trimB tight (a ++ p ++ b) = p := by
  obtain ⟨x, t, y, u, h1, h2, h3, h4⟩ := hp
  unfold trimB
  have hbr : Blanks b.reverse := fun z hz => hb z (by simpa using hz)
  have e1 : (a ++ p ++ b).reverse = b.reverse ++ (y :: (u.reverse ++ a.reverse)) := by rw [h2]; simp
  rw [e1, drop_blanks _ _ hbr, List.dropWhile_cons, if_neg (by rw [h4]; decide)]
  have e2 : (y :: (u.reverse ++ a.reverse)).reverse = a ++ p := by rw [h2]; simp
  rw [e2, drop_blanks _ _ ha, h1, List.dropWhile_cons, if_neg (by rw [h3]; decide)]
theorem tight_letter {x : UInt8} (h : 97 ≤ x.toNat ∧ x.toNat ≤ 122) : tight x = false := by
  have h9 : x ≠ 9 := fun e => by subst e; revert h; decide
  have h32 : x ≠ 32 := fun e => by subst e; revert h; decide
  simp [tight, h9, h32]
theorem firm_letters {w : Bs} (h : Letters w) (hn : w ≠ []) : Firm w := by
  obtain ⟨x, t, rfl⟩ := List.exists_cons_of_ne_nil hn
  have hl := List.dropLast_concat_getLast (show x :: t ≠ [] by simp)
  refine ⟨x, t, (x :: t).getLast (by simp), (x :: t).dropLast, rfl, hl.symm, tight_letter (h x (by simp)), tight_letter (h _ (List.getLast_mem _))⟩
theorem firm_piece (i : Nat) {w : Bs} (h : Letters w) (hn : w ≠ []) : Firm (pieceX i w) := by
  unfold pieceX
  by_cases hi : i % 3 = 2
  · rw [if_pos hi]
    exact ⟨34, w ++ (44 :: 32 :: (w ++ [34])), 34, 34 :: (w ++ (44 :: 32 :: w)), rfl, by simp, by decide, by decide⟩
  · rw [if_neg hi]; exact firm_letters h hn
theorem pieces_eq : ∀ (l : List Bs) (i : Nat) (a p : Bs), (∀ w ∈ l, Letters w ∧ w ≠ []) → Blanks a → Firm p →
    ((splitF false (a ++ p) (joinX i l)).1 ++ [(splitF false (a ++ p) (joinX i l)).2]).map (trimB tight) = p :: piecesX i l := by
  intro l
  induction l with
  | nil =>
    intro i a p _ ha hp
    have := trim_firm a p [] ha (fun x h => by simp at h) hp
    rw [List.append_nil] at this
    show ([] ++ [a ++ p]).map (trimB tight) = [p]
    simp [this]
  | cons w l ih =>
    intro i a p hl ha hp
    have hw := hl w (by simp)
    have fw := firm_piece i hw.1 hw.2
    have t0 : trimB tight (a ++ p) = p := by
      have := trim_firm a p [] ha (fun x h => by simp at h) hp
      rwa [List.append_nil] at this
    rw [joinX, piecesX]
    unfold sepX
    by_cases h0 : i % 3 = 0
    · rw [if_pos h0, List.singleton_append, splitF_comma _ _ (by decide) rfl, split_piece _ _ _ _ hw.1]
      have := ih (i + 1) [] (pieceX i w) (fun y hy => hl y (by simp [hy])) (fun x h => by simp at h) fw
      simp only [List.cons_append, List.map_cons, t0, this]
    · rw [if_neg h0]
      by_cases h1 : i % 3 = 1
      · rw [if_pos h1]
        show ((splitF false (a ++ p) (44 :: (32 :: (pieceX i w ++ joinX (i + 1) l)))).1 ++ [(splitF false (a ++ p) (44 :: (32 :: (pieceX i w ++ joinX (i + 1) l)))).2]).map (trimB tight) = _
        rw [splitF_comma _ _ (by decide) rfl, splitF_out _ _ (by decide) (by decide), split_piece _ _ _ _ hw.1]
        have := ih (i + 1) [32] (pieceX i w) (fun y hy => hl y (by simp [hy])) (fun x h => by simp only [List.mem_singleton] at h; subst h; decide) fw
        simp only [List.nil_append, List.cons_append, List.map_cons, t0] at this ⊢
        rw [this]
      · rw [if_neg h1]
        show ((splitF false (a ++ p) (32 :: (44 :: (9 :: (pieceX i w ++ joinX (i + 1) l))))).1 ++ [(splitF false (a ++ p) (32 :: (44 :: (9 :: (pieceX i w ++ joinX (i + 1) l))))).2]).map (trimB tight) = _
        have t1 : trimB tight (a ++ p ++ [32]) = p := trim_firm a p [32] ha (fun x h => by simp only [List.mem_singleton] at h; subst h; decide) hp
        rw [splitF_out _ _ (by decide) (by decide), splitF_comma _ _ (by decide) rfl, splitF_out _ _ (by decide) (by decide), split_piece _ _ _ _ hw.1]
        have := ih (i + 1) [9] (pieceX i w) (fun y hy => hl y (by simp [hy])) (fun x h => by simp only [List.mem_singleton] at h; subst h; decide) fw
        simp only [List.nil_append, List.cons_append, List.map_cons, t1] at this ⊢
        rw [this]
/-- what is put together of pieces comes apart into them -/
theorem pieces_back (w : Bs) (l : List Bs) (hw : Letters w ∧ w ≠ []) (hl : ∀ x ∈ l, Letters x ∧ x ≠ []) : piecesB (pieceX 0 w ++ joinX 1 l) = piecesX 0 (w :: l) := by
  unfold piecesB
  rw [split_piece _ _ _ _ hw.1]
  exact pieces_eq l 1 [] (pieceX 0 w) hl (fun x h => by simp at h) (firm_piece 0 hw.1 hw.2)
def buildX : Nat → Bs → List Bs → Bs
  | _, s, [] => s
  | i, s, w :: l => buildX (i + 1) (s ++ (if 0 < i then sepX i else []) ++ pieceX i w) l
theorem buildX_join : ∀ (l : List Bs) (i : Nat) (s : Bs), 0 < i → buildX i s l = s ++ joinX i l := by
  intro l
  induction l with
  | nil => intro i s _; simp [buildX, joinX]
  | cons w l ih => intro i s hi; rw [buildX, joinX, if_pos hi, ih _ _ (by omega)]; simp
theorem buildX_zero (w : Bs) (l : List Bs) : buildX 0 [] (w :: l) = pieceX 0 w ++ joinX 1 l := by
  rw [buildX, if_neg (by omega), buildX_join _ _ _ (by omega)]; simp
theorem pieceX_len (i : Nat) (w : Bs) (h : w.length ≤ 12) : (pieceX i w).length ≤ 28 := by
  unfold pieceX; split
  · simp; omega
  · omega
theorem sepX_len (i : Nat) : (sepX i).length ≤ 3 := by
  unfold sepX; split
  · simp
  · split <;> simp
theorem piecesX_len : ∀ (l : List Bs) (i : Nat), (piecesX i l).length = l.length := by
  intro l; induction l with
  | nil => intro i; rfl
  | cons w l ih => intro i; simp [piecesX, ih]
end Go.Am.AmTrydHd

namespace Go.Am.AmTrydHd
set_option linter.unusedSimpArgs false
set_option linter.unusedVariables false
/-! ### the letters of a text -/
theorem l10w (c : CallK) (N : Nat) (s : Bs) (hs : s.length ≤ 9223372036854775807) (H : Heap) :
    ∀ (l pre out : Bs) (fr : T V) (τ : Tape) (m : Nat), s = pre ++ l → l.length < m → out.length ≤ 12 → fr.get 0 = some (.str s) → fr.get 3 = some (.str out) → fr.get 4 = some (.int .i64 (pre.length : Int)) →
    ∀ k, loopK (s10_l1 c N) m ⟨fr, H⟩ τ k = k (.exit 0) ⟨(T.set .leaf 3 (.str (wordL out l))), H⟩ τ := by
  intro l
  induction l with
  | nil =>
    intro pre out fr τ m he hm ho f0 f3 f4 k
    obtain ⟨m, rfl⟩ : ∃ j, m = j + 1 := ⟨m - 1, by omega⟩
    have e1 : decide ((pre.length : Int) < (s.length : Int)) = false := decide_eq_false (by rw [he]; simp)
    rw [loopK_succ]
    simp only [s10_l1, getK_mk f0, getK_mk f3, getK_mk f4, lenS_mk, someK_n, bin_lss, e1, gK_skip, gK_none, pick_mk, cond_false, condK_fn]
    rfl
  | cons x l ih =>
    intro pre out fr τ m he hm ho f0 f3 f4 k
    obtain ⟨m, rfl⟩ : ∃ j, m = j + 1 := ⟨m - 1, by omega⟩
    have hl : pre.length < s.length := by rw [he]; simp
    have e1 : decide ((pre.length : Int) < (s.length : Int)) = true := decide_eq_true (by omega)
    have e2 : pStrIndex [.str s, .int .i64 (pre.length : Int)] = some (.int .u8 (x.toNat : Int)) := strIndex_mk (by rw [he]; simp)
    have e3 : wr .i64 ((pre.length : Int) + Int.ofNat 1) = ((pre ++ [x]).length : Int) := by
      rw [wr_id (by simp; omega) (by simp; omega)]; simp
    rw [loopK_succ]
    by_cases h12 : out.length < 12
    · have e4 : decide ((out.length : Int) < Int.ofNat 12) = true := decide_eq_true (by simp; omega)
      have fin : ∀ (b : Bool) (out' : Bs) (fr' : T V), out'.length ≤ 12 → fr'.get 0 = some (.str s) → fr'.get 3 = some (.str out') → fr'.get 4 = some (.int .i64 (pre.length : Int)) →
          s10_j2 c N (seqK (fun st τ => loopK (s10_l1 c N) m st τ k) k) ⟨fr', H⟩ τ = k (.exit 0) ⟨(T.set .leaf 3 (.str (wordL out' l))), H⟩ τ := by
        intro b out' fr' ho' g0 g3 g4
        simp only [s10_j2, getK_mk g0, getK_mk g3, getK_mk g4, bin_add, e3]
        exact ih (pre ++ [x]) out' _ τ m (by rw [he]; simp) (by simp at hm; omega) ho' (by simp [T.get_set]) (by simp [T.get_set]) (by simp [T.get_set]) k
      have hcut : pStrSlice true true [.str s, .int .i64 (pre.length : Int), .int .i64 ((pre ++ [x]).length : Int)] = some (.str [x]) := by
        rw [strSlice_lohi (by simp) (by rw [he]; simp)]
        congr 2
        rw [he, List.length_append, show pre ++ x :: l = (pre ++ [x]) ++ l by simp, List.take_left' (by simp)]
        simp
      by_cases h97 : 97 ≤ x.toNat
      · have e5 : decide (Int.ofNat 97 ≤ (x.toNat : Int)) = true := decide_eq_true (by simp; omega)
        by_cases h122 : x.toNat ≤ 122
        · have e6 : decide ((x.toNat : Int) ≤ Int.ofNat 122) = true := decide_eq_true (by simp; omega)
          have ew : wordL out (x :: l) = wordL (out ++ [x]) l := by rw [wordL, if_pos h12, if_pos ⟨h97, h122⟩]
          have ea : strBin .add out [x] = some (.str (out ++ [x])) := str_add (by simp; omega)
          simp only [s10_l1, getK_mk f0, getK_mk f3, getK_mk f4, lenS_mk, someK_n, bin_lss, e1, gK_do, retK, effK_n, e4, pick_mk, cond_true, condK_tn, e2, bin_geq, e5, bin_leq, e6, bin_add .i64, e3, hcut, bin_str, ea, ew]
          exact fin true (out ++ [x]) _ (by simp; omega) (by simp [T.get_set]) (by simp [T.get_set]) (by simp [T.get_set])
        · have e6 : decide ((x.toNat : Int) ≤ Int.ofNat 122) = false := decide_eq_false (by simp; omega)
          have ew : wordL out (x :: l) = wordL out l := by rw [wordL, if_pos h12, if_neg (fun h => h122 h.2)]
          simp only [s10_l1, getK_mk f0, getK_mk f3, getK_mk f4, lenS_mk, someK_n, bin_lss, e1, gK_do, retK, effK_n, e4, pick_mk, cond_true, condK_tn, e2, bin_geq, e5, bin_leq, e6, cond_false, condK_fn, ew]
          exact fin true out _ ho (by simp [T.get_set]) (by simp [T.get_set]) (by simp [T.get_set])
      · have e5 : decide (Int.ofNat 97 ≤ (x.toNat : Int)) = false := decide_eq_false (by simp; omega)
        have ew : wordL out (x :: l) = wordL out l := by rw [wordL, if_pos h12, if_neg (fun h => h97 h.1)]
        simp only [s10_l1, getK_mk f0, getK_mk f3, getK_mk f4, lenS_mk, someK_n, bin_lss, e1, gK_do, retK, effK_n, e4, pick_mk, cond_true, condK_tn, e2, bin_geq, e5, gK_skip, gK_none, cond_false, condK_fn, ew]
        exact fin true out _ ho (by simp [T.get_set]) (by simp [T.get_set]) (by simp [T.get_set])
    · have e4 : decide ((out.length : Int) < Int.ofNat 12) = false := decide_eq_false (by simp; omega)
      have ew : wordL out (x :: l) = out := by rw [wordL, if_neg h12]
      simp only [s10_l1, getK_mk f0, getK_mk f3, getK_mk f4, lenS_mk, someK_n, bin_lss, e1, gK_do, retK, effK_n, e4, pick_mk, cond_true, cond_false, condK_fn, ew]
      rfl
theorem s10_ret (c : CallK) (N : Nat) (hN : 9223372036854775807 < N) (s : Bs) (hs : s.length ≤ 9223372036854775807) (H : Heap) (τ : Tape) (q : KV) : s10 c N (.str s) H τ q = q (.str (wordT s)) H τ := by
  simp only [s10]
  rw [l10w c N s hs H s [] (bs [113]) _ τ N rfl (by omega) (by decide) (by simp [T.get_set]) (by simp [T.get_set]) (by simp [T.get_set])]
  simp only [blockK, Nat.beq_refl, cond_true, seqK, s10_j0, getK_set, ↓reduceIte]
  rfl
theorem s13_ret (c : CallK) (N : Nat) (a b : Bs) (H : Heap) (hw : WF H) (τ : Tape) : ∃ H', Gr H.size H H' ∧ ∀ q, s13 c N (.str a) (.str b) H τ q = q (.agg [.str a, .str b]) H' τ := by
  have a1 : eAlloc [(.str []), (.str [])] [] H τ = some (.ptr H.size 0, H.new [.str [], .str []] 2 true, τ) := rfl
  have g1 := Gr.new hw [.str [], .str []] 2 true
  have b1 := Bx.new H [.str [], .str []] 2 true (Nat.le_refl _)
  generalize H.new [.str [], .str []] 2 true = H1 at a1 g1 b1
  obtain ⟨H2, s2, b2, o2⟩ := b1.eStore g1.wf 0 (.agg [.str a, .str b]) 2 rfl (by simp) (by omega) rfl τ
  have b2' : Bx H2 H.size [.str a, .str b] := b2
  have p3 : pBuild [(.str []), (.str [])] [(0, 1), (1, 1)] [.str a, .str b] = some (.agg [.str a, .str b]) := rfl
  have hres : results ⟨(T.set .leaf 4 (.ptr H.size 0)), H2⟩ [(.cell 4 (some 2))] = some (.agg [.str a, .str b]) := by
    have hl : H2.loads H.size 0 2 = some [.str a, .str b] := loads_cells (off := 0) (n := 2) b2'.cells (by simp)
    simp [results, resAll, resOf, T.get_set, evalL, lLoad, lLoadN, hl]
  exact ⟨H2, g1.trans (o2.gr (B := H.size) (Nat.le_refl _)) (Nat.le_refl _), fun q => by simp only [s13, a1, effK_n, p3, someK_n, s2, hres]⟩

/-! ### lists of texts that are the same -/
theorem l14w (c : CallK) (N : Nat) (a b : V) (la : List Bs) (hlen : la.length < 1000000) (H : Heap) (ha : Rd H 1 a la.length (la.map V.str)) (hb : Rd H 1 b la.length (la.map V.str)) :
    ∀ (l pre : List Bs) (fr : T V) (τ : Tape) (m : Nat), la = pre ++ l → l.length < m → fr.get 0 = some a → fr.get 1 = some b → fr.get 5 = some (.int .i64 (pre.length : Int)) →
    ∀ k, loopK (s14_l1 c N) m ⟨fr, H⟩ τ k = k (.exit 0) ⟨.leaf, H⟩ τ := by
  intro l
  induction l with
  | nil =>
    intro pre fr τ m he hm f0 f1 f5 k
    obtain ⟨m, rfl⟩ : ∃ j, m = j + 1 := ⟨m - 1, by omega⟩
    have e1 : decide ((pre.length : Int) < (la.length : Int)) = false := decide_eq_false (by rw [he]; simp)
    rw [loopK_succ]
    simp only [s14_l1, getK_mk f0, getK_mk f1, getK_mk f5, ha.pLen, someK_n, bin_lss, e1, condK_fn]
    rfl
  | cons x l ih =>
    intro pre fr τ m he hm f0 f1 f5 k
    obtain ⟨m, rfl⟩ : ∃ j, m = j + 1 := ⟨m - 1, by omega⟩
    have e1 : decide ((pre.length : Int) < (la.length : Int)) = true := decide_eq_true (by rw [he]; simp; omega)
    obtain ⟨p, p1, p2⟩ := ha.elem1 (i := pre.length) (x := .str x) (by rw [he]; simp)
    obtain ⟨p', p3, p4⟩ := hb.elem1 (i := pre.length) (x := .str x) (by rw [he]; simp)
    have hl : pre.length < la.length := by rw [he]; simp
    have en : strBin .neq x x = some (.bool false) := by rw [str_neq]; simp
    have e3 : wr .i64 ((pre.length : Int) + Int.ofNat 1) = ((pre ++ [x]).length : Int) := by
      rw [wr_id (by simp; omega) (by simp; omega)]; simp
    rw [loopK_succ]
    simp only [s14_l1, getK_mk f0, getK_mk f1, getK_mk f5, ha.pLen, someK_n, bin_lss, e1, condK_tn, p1, p2, p3, p4, bin_str, en, condK_fn, bin_add .i64, e3]
    exact ih (pre ++ [x]) _ τ m (by rw [he]; simp) (by simp at hm; omega) (by simp [T.get_set]) (by simp [T.get_set]) (by simp [T.get_set]) k
theorem s14_ret (c : CallK) (N : Nat) (hN : 9223372036854775807 < N) (a b : V) (la : List Bs) (hlen : la.length < 1000000) (H : Heap) (ha : Rd H 1 a la.length (la.map V.str)) (hb : Rd H 1 b la.length (la.map V.str)) (τ : Tape) (q : KV) :
    s14 c N a b H τ q = q (.bool true) H τ := by
  have e2 : ((la.length : Int) != (la.length : Int)) = false := by simp
  simp only [s14, ha.pLen, hb.pLen, someK_n, bin_neq, e2, condK_fn]
  rw [l14w c N a b la hlen H ha hb la [] _ τ N rfl (by omega) (by simp [T.get_set]) (by simp [T.get_set]) (by simp [T.get_set])]
  simp only [blockK, Nat.beq_refl, cond_true, seqK, s14_j0]

theorem slIdx_mk (id n : Nat) {i : Nat} (h : i < n) : pSlIdx 1 [.sl id 0 n n none 1, .int .i64 (i : Int)] = some (.ptr id i) := by
  have hbt : Nat.blt i n = true := by simp [Nat.blt]; omega
  simp [pSlIdx, natOf_nat, hbt]
/-! ### the law's own loop -/
theorem l3p (c : CallK) (N : Nat) (h10 : ∀ (s : Bs), s.length ≤ 9223372036854775807 → ∀ H τ q, c 10 [.str s] H τ q = q (.str (wordT s)) H τ) (u : V) (ss : List Bs) (hss : ∀ s ∈ ss, s.length ≤ 9223372036854775807) (B : Nat) :
    ∀ (r pre : List Bs) (s : Bs) (v4 : V) (want : List Bs) (H : Heap) (fr : T V) (τ : Tape) (m : Nat), ss = pre ++ r → pre.length ≤ 8 → 10 - pre.length < m → s.length ≤ 40 * pre.length → want.length ≤ 8 → WF H → B ≤ H.size → (∀ H', Gr B H H' → Rd H' 1 u ss.length (ss.map V.str)) → Own H B 1 v4 want.length (want.map V.str) → want.length = pre.length →
    fr.get 0 = some u → fr.get 3 = some (.str s) → fr.get 4 = some v4 → fr.get 5 = some (.int .i64 (pre.length : Int)) →
    ∃ v' H' τ', Own H' B 1 v' (want ++ piecesX pre.length ((r.take (8 - pre.length)).map wordT)).length ((want ++ piecesX pre.length ((r.take (8 - pre.length)).map wordT)).map V.str) ∧ Gr B H H' ∧
      ∀ k, loopK (s3_l1 c N) m ⟨fr, H⟩ τ k = k (.exit 0) ⟨(T.set (T.set .leaf 3 (.str (buildX pre.length s ((r.take (8 - pre.length)).map wordT)))) 4 v'), H'⟩ τ' := by
  intro r
  induction r with
  | nil =>
    intro pre s v4 want H fr τ m he hp hm hs hwl hw hB hRd hO hwp f0 f3 f4 f5
    obtain ⟨m, rfl⟩ : ∃ j, m = j + 1 := ⟨m - 1, by omega⟩
    refine ⟨v4, H, τ, by simpa [piecesX] using hO, Gr.refl hw, fun k => ?_⟩
    have e1 : decide ((pre.length : Int) < (ss.length : Int)) = false := decide_eq_false (by rw [he]; simp)
    have hR := hRd H (Gr.refl hw)
    rw [loopK_succ]
    simp only [s3_l1, getK_mk f0, getK_mk f3, getK_mk f4, getK_mk f5, hR.pLen, someK_n, bin_lss, e1, gK_skip, gK_none, pick_mk, cond_false, condK_fn]
    simp [buildX, seqK]
  | cons x r ih =>
    intro pre s v4 want H fr τ m he hp hm hs hwl hw hB hRd hO hwp f0 f3 f4 f5
    obtain ⟨m, rfl⟩ : ∃ j, m = j + 1 := ⟨m - 1, by omega⟩
    have hR := hRd H (Gr.refl hw)
    have e1 : decide ((pre.length : Int) < (ss.length : Int)) = true := decide_eq_true (by rw [he]; simp; omega)
    by_cases h8 : pre.length < 8
    · have e2 : decide ((pre.length : Int) < Int.ofNat 8) = true := decide_eq_true (by simp; omega)
      obtain ⟨p, p1, p2⟩ := hR.elem1 (i := pre.length) (x := .str x) (by rw [he]; simp)
      have hx := hss x (by rw [he]; simp)
      have hwt := wordT_ok x
      have hpl := pieceX_len pre.length (wordT x) hwt.2.2
      have hsl := sepX_len pre.length
      have em : ((pre.length : Int)).tmod (Int.ofNat 3) = ((pre.length % 3 : Nat) : Int) := by rw [show Int.ofNat 3 = ((3 : Nat) : Int) from rfl, ← Int.ofNat_tmod]
      have e3 : wr .i64 ((pre.length : Int) + Int.ofNat 1) = ((pre ++ [x]).length : Int) := by
        rw [wr_id (by simp; omega) (by simp; omega)]; simp
      -- the end of a step, whatever was put ahead
      have fin : ∀ (s' : Bs) (H1 : Heap) (fr' : T V), s'.length ≤ 40 * pre.length + 3 → Gr B H H1 → fr'.get 0 = some u → fr'.get 3 = some (.str s') → fr'.get 4 = some v4 → fr'.get 5 = some (.int .i64 (pre.length : Int)) → fr'.get 6 = some (.str (pieceX pre.length (wordT x))) → s' = s ++ (if 0 < pre.length then sepX pre.length else []) → Own H1 B 1 v4 want.length (want.map V.str) →
          ∃ v' H' τ', Own H' B 1 v' (want ++ piecesX pre.length (((x :: r).take (8 - pre.length)).map wordT)).length ((want ++ piecesX pre.length (((x :: r).take (8 - pre.length)).map wordT)).map V.str) ∧ Gr B H H' ∧
            ∀ k, s3_j4 c N (seqK (fun st τ => loopK (s3_l1 c N) m st τ k) k) ⟨fr', H1⟩ τ = k (.exit 0) ⟨(T.set (T.set .leaf 3 (.str (buildX pre.length s (((x :: r).take (8 - pre.length)).map wordT)))) 4 v'), H'⟩ τ' := by
        intro s' H1 fr' hs' g1 g0 g3 g4 g5 g6 hse hO1
        obtain ⟨w, H2, v', H3, q1, q2, q3, q4, _⟩ := hO1.push (bytes := 16) g1.wf (Nat.le_trans hB g1.size) (.str (pieceX pre.length (wordT x))) (.str []) rfl rfl (by omega) (by omega) τ
        have et : (x :: r).take (8 - pre.length) = x :: r.take (8 - (pre ++ [x]).length) := by
          rw [show 8 - pre.length = (8 - (pre ++ [x]).length) + 1 by simp; omega, List.take_succ_cons]
        have q3' : Own H3 B 1 v' (want ++ [pieceX pre.length (wordT x)]).length ((want ++ [pieceX pre.length (wordT x)]).map V.str) := by simpa using q3
        have gg := g1.trans q4 (Nat.le_refl _)
        obtain ⟨v2, H', τ', r1, r2, r3⟩ := ih (pre ++ [x]) (s' ++ pieceX pre.length (wordT x)) v' (want ++ [pieceX pre.length (wordT x)]) H3
          (T.set (T.set (T.set (T.set (T.set (T.set (T.set .leaf 0 u) 3 (.str (s' ++ pieceX pre.length (wordT x)))) 4 v') 5 (.int .i64 (pre.length : Int))) 17 (.int .i64 (pre.length : Int))) 18 (.int .i64 ((pre ++ [x]).length : Int))) 5 (.int .i64 ((pre ++ [x]).length : Int)))
          τ.tail m (by rw [he]; simp) (by simp; omega) (by simp; omega) (by simp; omega) (by simp; omega) q4.wf (Nat.le_trans hB gg.size) (fun H' h => hRd H' (gg.trans h (Nat.le_refl _))) q3' (by simp; omega)
          (by simp [T.get_set]) (by simp [T.get_set]) (by simp [T.get_set]) (by simp [T.get_set])
        have hpl1 : (pre ++ [x]).length = pre.length + 1 := by simp
        refine ⟨v2, H', τ', ?_, gg.trans r2 (Nat.le_refl _), fun k => ?_⟩
        · rw [et, List.map_cons, piecesX]
          rw [hpl1] at r1 ⊢
          simpa [List.append_assoc] using r1
        · have ea : strBin .add s' (pieceX pre.length (wordT x)) = some (.str (s' ++ pieceX pre.length (wordT x))) := str_add (by omega)
          simp only [s3_j4, getK_mk g0, getK_mk g3, getK_mk g4, getK_mk g5, getK_mk g6, bin_str, ea, someK_n, q1, q2, effK_n, s3_j2, getK_set, ↓reduceIte, Nat.reduceEqDiff, bin_add .i64, e3]
          rw [et, List.map_cons, buildX, ← hse, ← hpl1]
          exact r3 k
      -- what is put ahead
      have ahead : ∀ (fr' : T V), fr'.get 0 = some u → fr'.get 3 = some (.str s) → fr'.get 4 = some v4 → fr'.get 5 = some (.int .i64 (pre.length : Int)) → fr'.get 6 = some (.str (pieceX pre.length (wordT x))) →
          ∃ v' H' τ', Own H' B 1 v' (want ++ piecesX pre.length (((x :: r).take (8 - pre.length)).map wordT)).length ((want ++ piecesX pre.length (((x :: r).take (8 - pre.length)).map wordT)).map V.str) ∧ Gr B H H' ∧
            ∀ k, s3_j3 c N (seqK (fun st τ => loopK (s3_l1 c N) m st τ k) k) ⟨fr', H⟩ τ = k (.exit 0) ⟨(T.set (T.set .leaf 3 (.str (buildX pre.length s (((x :: r).take (8 - pre.length)).map wordT)))) 4 v'), H'⟩ τ' := by
        intro fr' g0 g3 g4 g5 g6
        by_cases hp0 : 0 < pre.length
        · have e5 : decide (Int.ofNat 0 < (pre.length : Int)) = true := decide_eq_true (by simp; omega)
          have a6 : eBuildSlice 3 1 [(.str []), (.str []), (.str [])] [(0, 1), (1, 1), (2, 1)] [(.str (bs [44])), (.str (bs [44, 32])), (.str (bs [32, 44, 9]))] H τ = some (.sl H.size 0 3 3 none 1, H.new [.str [44], .str [44, 32], .str [32, 44, 9]] 3 false, τ) := rfl
          have g6' := Gr.new hw [.str [44], .str [44, 32], .str [32, 44, 9]] 3 false
          have c6 := cells_new H [.str [44], .str [44, 32], .str [32, 44, 9]] 3 false
          generalize H.new [.str [44], .str [44, 32], .str [32, 44, 9]] 3 false = H1 at a6 g6' c6
          have hcell : ([V.str [44], .str [44, 32], .str [32, 44, 9]] : List V)[pre.length % 3]? = some (.str (sepX pre.length)) := by
            have h3 : pre.length % 3 < 3 := Nat.mod_lt _ (by omega)
            unfold sepX
            rcases (show pre.length % 3 = 0 ∨ pre.length % 3 = 1 ∨ pre.length % 3 = 2 by omega) with h | h | h
            · rw [h]; rfl
            · rw [h]; rfl
            · rw [h]; rfl
          have ei := slIdx_mk H.size 3 (show pre.length % 3 < 3 from Nat.mod_lt _ (by omega))
          have ld := load_cell c6 hcell
          have ea : strBin .add s (sepX pre.length) = some (.str (s ++ sepX pre.length)) := str_add (by omega)
          obtain ⟨v', H', τ', r1, r2, r3⟩ := fin (s ++ sepX pre.length) H1 (T.set (T.set (T.set (T.set (T.set (T.set (T.set (T.set (T.set (T.set (T.set (T.set (T.set (T.set .leaf 0 u) 3 (.str s)) 4 v4) 5 (.int .i64 (pre.length : Int))) 6 (.str (pieceX pre.length (wordT x)))) 34 (.bool true)) 35 (.str s)) 36 (.sl H.size 0 3 3 none 1)) 37 (.int .i64 (pre.length : Int))) 38 (.int .i64 ((pre.length % 3 : Nat) : Int))) 39 (.ptr H.size (pre.length % 3))) 40 (.str (sepX pre.length))) 41 (.str (s ++ sepX pre.length))) 3 (.str (s ++ sepX pre.length)))
            (by simp; omega) (g6'.weaken hB) (by simp [T.get_set]) (by simp [T.get_set]) (by simp [T.get_set]) (by simp [T.get_set]) (by simp [T.get_set]) (by rw [if_pos hp0]) (hO.gr g6' hw (Nat.le_refl _))
          refine ⟨v', H', τ', r1, r2, fun k => ?_⟩
          simp only [s3_j3, getK_mk g0, getK_mk g3, getK_mk g4, getK_mk g5, getK_mk g6, bin_gtr, e5, condK_tn, a6, effK_n, bin_rem _ _ (Int.ofNat 3) (by decide), em, ei, someK_n, ld, bin_str, ea]
          exact r3 k
        · have e5 : decide (Int.ofNat 0 < (pre.length : Int)) = false := decide_eq_false (by show ¬ ((0 : Nat) : Int) < (pre.length : Int); omega)
          obtain ⟨v', H', τ', r1, r2, r3⟩ := fin s H (T.set (T.set (T.set (T.set (T.set (T.set .leaf 0 u) 3 (.str s)) 4 v4) 5 (.int .i64 (pre.length : Int))) 6 (.str (pieceX pre.length (wordT x)))) 34 (.bool false))
            (by omega) (Gr.refl hw) (by simp [T.get_set]) (by simp [T.get_set]) (by simp [T.get_set]) (by simp [T.get_set]) (by simp [T.get_set]) (by rw [if_neg hp0]; simp) hO
          refine ⟨v', H', τ', r1, r2, fun k => ?_⟩
          simp only [s3_j3, getK_mk g0, getK_mk g3, getK_mk g4, getK_mk g5, getK_mk g6, bin_gtr, e5, condK_fn]
          exact r3 k
      by_cases h2 : pre.length % 3 = 2
      · have e6 : (((pre.length % 3 : Nat) : Int) == Int.ofNat 2) = true := by rw [h2]; rfl
        have ep : pieceX pre.length (wordT x) = 34 :: (wordT x ++ (44 :: 32 :: (wordT x ++ [34]))) := by unfold pieceX; rw [if_pos h2]
        have b1 : strBin .add (bs [34]) (wordT x) = some (.str (bs [34] ++ wordT x)) := str_add (by have := hwt.2.2; simp [bs]; omega)
        have b2 : strBin .add (bs [34] ++ wordT x) (bs [44, 32]) = some (.str (bs [34] ++ wordT x ++ bs [44, 32])) := str_add (by have := hwt.2.2; simp [bs]; omega)
        have b3 : strBin .add (bs [34] ++ wordT x ++ bs [44, 32]) (wordT x) = some (.str (bs [34] ++ wordT x ++ bs [44, 32] ++ wordT x)) := str_add (by have := hwt.2.2; simp [bs]; omega)
        have b4 : strBin .add (bs [34] ++ wordT x ++ bs [44, 32] ++ wordT x) (bs [34]) = some (.str (pieceX pre.length (wordT x))) := by
          rw [str_add (by have := hwt.2.2; simp [bs]; omega), ep]; simp [bs]
        obtain ⟨v', H', τ', r1, r2, r3⟩ := ahead (T.set (T.set (T.set (T.set (T.set (T.set (T.set (T.set (T.set (T.set (T.set (T.set (T.set .leaf 0 u) 3 (.str s)) 4 v4) 5 (.int .i64 (pre.length : Int))) 6 (.str (wordT x))) 26 (.bool true)) 27 (.str (wordT x))) 28 (.str (bs [34] ++ wordT x))) 29 (.str (bs [34] ++ wordT x ++ bs [44, 32]))) 30 (.str (wordT x))) 31 (.str (bs [34] ++ wordT x ++ bs [44, 32] ++ wordT x))) 32 (.str (pieceX pre.length (wordT x)))) 6 (.str (pieceX pre.length (wordT x))))
          (by simp [T.get_set]) (by simp [T.get_set]) (by simp [T.get_set]) (by simp [T.get_set]) (by simp [T.get_set])
        refine ⟨v', H', τ', r1, r2, fun k => ?_⟩
        rw [loopK_succ]
        simp only [s3_l1, getK_mk f0, getK_mk f3, getK_mk f4, getK_mk f5, hR.pLen, someK_n, bin_lss, e1, gK_do, retK, effK_n, e2, pick_mk, cond_true, condK_tn, p1, p2, h10 x hx, bin_rem _ _ (Int.ofNat 3) (by decide), em, bin_eql, e6, bin_str, b1, b2, b3, b4]
        exact r3 k
      · have e6 : (((pre.length % 3 : Nat) : Int) == Int.ofNat 2) = false := by
          rw [beq_eq_false_iff_ne]; intro h; exact h2 (Int.ofNat.inj h)
        have ep : pieceX pre.length (wordT x) = wordT x := by unfold pieceX; rw [if_neg h2]
        obtain ⟨v', H', τ', r1, r2, r3⟩ := ahead (T.set (T.set (T.set (T.set (T.set (T.set .leaf 0 u) 3 (.str s)) 4 v4) 5 (.int .i64 (pre.length : Int))) 6 (.str (wordT x))) 26 (.bool false))
          (by simp [T.get_set]) (by simp [T.get_set]) (by simp [T.get_set]) (by simp [T.get_set]) (by rw [ep]; simp [T.get_set])
        refine ⟨v', H', τ', r1, r2, fun k => ?_⟩
        rw [loopK_succ]
        simp only [s3_l1, getK_mk f0, getK_mk f3, getK_mk f4, getK_mk f5, hR.pLen, someK_n, bin_lss, e1, gK_do, retK, effK_n, e2, pick_mk, cond_true, condK_tn, p1, p2, h10 x hx, bin_rem _ _ (Int.ofNat 3) (by decide), em, bin_eql, e6, condK_fn]
        exact r3 k
    · have e2 : decide ((pre.length : Int) < Int.ofNat 8) = false := decide_eq_false (by simp; omega)
      have et : (x :: r).take (8 - pre.length) = [] := by rw [show 8 - pre.length = 0 by omega]; rfl
      refine ⟨v4, H, τ, by rw [et]; simpa [piecesX] using hO, Gr.refl hw, fun k => ?_⟩
      rw [loopK_succ, et]
      simp only [s3_l1, getK_mk f0, getK_mk f3, getK_mk f4, getK_mk f5, hR.pLen, someK_n, bin_lss, e1, gK_do, retK, effK_n, e2, pick_mk, cond_true, cond_false, condK_fn]
      simp [buildX, seqK]
end Go.Am.AmTrydHd

namespace Go.Am.AmTrydHd
set_option linter.unusedSimpArgs false
set_option linter.unusedVariables false
set_option linter.unusedSectionVars false
def SplitOk (c : CallK) (name : Bs) (hs : List (Bs × Bs)) : Prop := ∀ (v : V) (H : Heap), WF H → Rd H 2 v hs.length (hcells hs) → ∀ τ,
    ∃ v' H' τ', Own H' H.size 1 v' (splitT name hs).length ((splitT name hs).map V.str) ∧ (splitT name hs).length ≤ 4294967296 ∧ Gr H.size H H' ∧ ∀ q, c 12 [v, .str name] H τ q = q (.tup [v', .bool (decide (0 < (sel name hs).length))]) H' τ'

abbrev GetOk' (c : CallK) (name : Bs) (hs : List (Bs × Bs)) : Prop := ∀ (v : V) (H : Heap), WF H → Rd H 2 v hs.length (hcells hs) → ∀ τ,
    ∃ H' τ', Gr H.size H H' ∧ ∀ q, c 20 [v, .str name] H τ q = q (.tup [.str (getT name hs), .bool (decide (0 < (sel name hs).length))]) H' τ'
abbrev StripOk' (c : CallK) : Prop := ∀ (s : Bs), s.length < 9223372036854775807 → ∀ (H : Heap), WF H → ∀ τ, ∃ H' τ', Gr H.size H H' ∧ ∀ q, c 42 [.str s] H τ q = q (.str (strip s)) H' τ'
abbrev CutOk (c : CallK) (x : UInt8) : Prop := ∀ (s : Bs), s.length < 9223372036854775807 → ∀ H τ q, c 37 [.str s, .str [x]] H τ q = q (match cutB x s with | some (a, b) => .tup [.str a, .str b, .bool true] | none => .tup [.str s, .str [], .bool false]) H τ
abbrev IntOk (c : CallK) : Prop := ∀ (s : Bs), s.length < 9223372036854775807 → ∀ H τ q, c 67 [.str s] H τ q = q (.tup [.int .i64 (intB s).1, .bool (intB s).2]) H τ
/-! ### the functions, as they stand in the table -/
abbrev C (N d : Nat) : CallK := callK (tabOf tabE N) d
theorem C_nat (N d : Nat) : CallNat (C N d) := tab_nat N d
section
variable {N : Nat} (hN : 9223372036854775807 < N)
include hN

theorem d81 (d : Nat) (cut : Bs) {id : Nat} {H : Heap} (hc : H.cells? id = some (mark (repl 256 [.bool false]) cut)) (x : UInt8) (τ : Tape) (q : KV) : C N (d + 1) 81 [.ptr id 0, .int .u8 (x.toNat : Int)] H τ q = q (.bool (cut.contains x)) H τ := by
  have hr : (repl 256 [V.bool false]).length = 256 := by rw [repl_length]; rfl
  have hg : ∀ i, i < 256 → (repl 256 [V.bool false])[i]? = some (.bool false) := fun i hi => by
    rw [repl_one, List.getElem?_replicate, if_pos hi]
  have := mark_get cut (repl 256 [V.bool false]) x hr (fun i hi => ⟨false, hg i hi⟩) false (hg _ (u8_lt x))
  exact s81_eval (C N d) N hc (by simpa using this) τ q
theorem d61 (d : Nat) (hd : 2 ≤ d) (cut s : Bs) (id : Nat) (H : Heap) (hs : s.length < 9223372036854775807) (hc : H.cells? id = some (mark (repl 256 [.bool false]) cut)) (τ : Tape) (q : KV) : C N d 61 [.str s, .ptr id 0] H τ q = q (.str (s.dropWhile cut.contains)) H τ := by
  obtain ⟨d, rfl⟩ : ∃ e, d = e + 1 + 1 := ⟨d - 2, by omega⟩
  show s61 (C N (d + 1)) N (.str s) (.ptr id 0) H τ q = _
  simp only [s61]
  rw [trimL_loop (C N (d + 1)) N cut.contains (fun x τ q => d81 hN d cut hc x τ q) _ s N _ τ (by omega) (by simp [T.get_set]) (by simp [T.get_set])]
  simp only [blockK, Nat.beq_refl, cond_true, seqK, s61_j0, getK_set, ↓reduceIte]
theorem d62 (d : Nat) (hd : 2 ≤ d) (cut s : Bs) (id : Nat) (H : Heap) (hs : s.length < 9223372036854775807) (hc : H.cells? id = some (mark (repl 256 [.bool false]) cut)) (τ : Tape) (q : KV) : C N d 62 [.str s, .ptr id 0] H τ q = q (.str (s.reverse.dropWhile cut.contains).reverse) H τ := by
  obtain ⟨d, rfl⟩ : ∃ e, d = e + 1 + 1 := ⟨d - 2, by omega⟩
  show s62 (C N (d + 1)) N (.str s) (.ptr id 0) H τ q = _
  simp only [s62]
  rw [trimR_loop (C N (d + 1)) N cut.contains (fun x τ q => d81 hN d cut hc x τ q) _ s.reverse N _ τ (by simpa using hs) (by simp; omega) (by simp [T.get_set]) (by simp [T.get_set])]
  simp only [blockK, Nat.beq_refl, cond_true, seqK, s62_j0, getK_set, ↓reduceIte]
theorem d35 (d : Nat) (hd : 3 ≤ d) (cut : Bs) (h2 : 2 ≤ cut.length) (h3 : cut.length < 9223372036854775807) (ha : ∀ x ∈ cut, x.toNat < 128) : TrimOk (C N d) cut := by
  intro s hs H hw τ q
  obtain ⟨d, rfl⟩ : ∃ e, d = e + 1 := ⟨d - 1, by omega⟩
  refine s35_ret (C N d) N (Nat.le_of_lt hN) cut s h2 h3 hs H hw (fun H hw τ q => ?_) (fun s id H hs hc τ q => d61 hN d (by omega) cut s id H hs hc τ q) (fun s id H hs hc τ q => d62 hN d (by omega) cut s id H hs hc τ q) τ q
  obtain ⟨d, rfl⟩ : ∃ e, d = e + 1 := ⟨d - 1, by omega⟩
  exact s60_ret (C N d) N (Nat.le_of_lt hN) cut ha h3 H hw τ q
theorem d35a (d : Nat) (hd : 3 ≤ d) : TrimOk (C N d) [9, 32] := d35 hN d hd _ (by decide) (by decide) (by decide)
theorem d42 (d : Nat) (hd : 4 ≤ d) : StripOk (C N d) := by
  intro s hs H hw τ q
  obtain ⟨d, rfl⟩ : ∃ e, d = e + 1 := ⟨d - 1, by omega⟩
  exact s42_ret (C N d) N (d35 hN d (by omega) [9, 10, 12, 13, 32] (by decide) (by decide) (by decide)) s hs H hw τ q
theorem d42' (d : Nat) (hd : 4 ≤ d) : StripOk' (C N d) := by
  intro s hs H hw τ
  obtain ⟨H', k1, k2⟩ := d42 hN d hd s hs H hw τ retK
  exact ⟨H', τ, k1, fun q => (C_nat N d).mk k2 q⟩
theorem d39 (d : Nat) (hd : 3 ≤ d) : LowOk (C N d) := by
  intro s hs H hw τ q
  obtain ⟨d, rfl⟩ : ∃ e, d = e + 1 + 1 + 1 := ⟨d - 3, by omega⟩
  obtain ⟨H', τ', k1, k2⟩ := s68_ret (C N (d + 1)) N (Nat.le_of_lt hN) s hs H hw (fun x H τ q => s69_eval (C N d) N x H τ q) τ (fun v0 H1 τ2 => q v0 H1 τ2)
  exact ⟨H', τ', k1, k2⟩
theorem d45 (d : Nat) (hd : 4 ≤ d) (name : Bs) (hm : name.length ≤ 274877906944) (n v : Bs) (hn : n.length ≤ 274877906944) (H : Heap) (hw : WF H) (τ : Tape) (q : KV) : ∃ H' τ', Gr H.size H H' ∧ C N d 45 [.agg [.str n, .str v], .str name] H τ q = q (.bool (lower n == lower name)) H' τ' := by
  obtain ⟨d, rfl⟩ : ∃ e, d = e + 1 := ⟨d - 1, by omega⟩
  exact s45_ret (C N d) N (d39 hN d (by omega)) n v name hn hm H hw τ q

end
/-- headers that are few and short -/
structure Small (hs : List (Bs × Bs)) : Prop where
  len : hs.length ≤ 1000
  all : ∀ h ∈ hs, h.1.length ≤ 1000 ∧ h.2.length ≤ 1000
section
variable {N : Nat} (hN : 9223372036854775807 < N)
include hN
omit hN in
theorem joinT_length (sep : Bs) (M : Nat) : ∀ (l : List Bs), (∀ x ∈ l, x.length ≤ M) → (joinT sep l).length ≤ l.length * (M + sep.length) := by
  intro l
  induction l with
  | nil => intro _; simp [joinT]
  | cons x l ih =>
    intro h
    have h1 := h x (by simp)
    have h2 := ih (fun y hy => h y (by simp [hy]))
    simp only [joinT, List.length_append, List.length_cons, Nat.succ_mul]
    omega
omit hN in
theorem joinB_length (sep : Bs) (M : Nat) (l : List Bs) (h : ∀ x ∈ l, x.length ≤ M) : (joinB sep l).length ≤ l.length * (M + sep.length) := by
  cases l with
  | nil => simp [joinB]
  | cons x l =>
    have h1 := h x (by simp)
    have h2 := joinT_length sep M l (fun y hy => h y (by simp [hy]))
    simp only [joinB, List.length_append, List.length_cons, Nat.succ_mul]
    omega
omit hN in
theorem getT_small {hs : List (Bs × Bs)} (h : Small hs) (name : Bs) : (getT name hs).length ≤ 1002000 := by
  have h1 : (sel name hs).length ≤ 1000 := by
    have := h.len
    simp only [sel, List.length_map]
    have := List.length_filter_le (fun h : Bs × Bs => lower h.1 == lower name) hs
    omega
  have h2 := joinB_length [44, 32] 1000 (sel name hs) (fun x hx => by
    simp only [sel, List.mem_map, List.mem_filter] at hx
    obtain ⟨y, ⟨hy, _⟩, rfl⟩ := hx
    exact (h.all y hy).2)
  have h3 : (sel name hs).length * (1000 + ([44, 32] : Bs).length) ≤ 1000 * 1002 := Nat.mul_le_mul h1 (by simp)
  unfold getT
  omega
theorem d20 (d : Nat) (hd : 5 ≤ d) (name : Bs) (hm : name.length ≤ 274877906944) {hs : List (Bs × Bs)} (h : Small hs) : GetOk (C N d) name hs := by
  intro v H hw hr τ q
  obtain ⟨d, rfl⟩ : ∃ e, d = e + 1 := ⟨d - 1, by omega⟩
  obtain ⟨d, rfl⟩ : ∃ e, d = e + 1 := ⟨d - 1, by omega⟩
  exact s20_ret (C N (d + 1)) N (Nat.le_of_lt hN) name hm hs (by have := h.len; omega) (fun x hx => by have := (h.all x hx).1; omega) (by have := getT_small h name; omega) (fun _ _ _ _ => rfl)
    (fun n v hn H hw τ q => d45 hN (d + 1) (by omega) name hm n v hn H hw τ q) v H hw hr τ q
theorem d20' (d : Nat) (hd : 5 ≤ d) (name : Bs) (hm : name.length ≤ 274877906944) {hs : List (Bs × Bs)} (h : Small hs) : GetOk' (C N d) name hs := by
  intro v H hw hr τ
  obtain ⟨H', τ', k1, k2⟩ := d20 hN d hd name hm h v H hw hr τ retK
  exact ⟨H', τ', k1, fun q => (C_nat N d).mk k2 q⟩
theorem d12 (d : Nat) (hd : 6 ≤ d) (name : Bs) (hm : name.length ≤ 274877906944) {hs : List (Bs × Bs)} (h : Small hs) : SplitOk (C N d) name hs := by
  intro v H hw hr τ
  obtain ⟨d, rfl⟩ : ∃ e, d = e + 1 := ⟨d - 1, by omega⟩
  obtain ⟨v', H', τ', k1, k2, k3, k4⟩ := s12_ret (C N d) N (Nat.le_of_lt hN) name hs (by have := getT_small h name; omega) (d20 hN d (by omega) name hm h) (d35a hN d (by omega)) v H hw hr τ retK
  exact ⟨v', H', τ', k1, k2, k3, fun q => (C_nat N (d + 1)).mk (f := 12) (vs := [v, .str name]) k4 q⟩
theorem d37 (d : Nat) (hd : 4 ≤ d) (x : UInt8) : CutOk (C N d) x := by
  intro s hs H τ q
  obtain ⟨d, rfl⟩ : ∃ e, d = e + 1 + 1 + 1 + 1 := ⟨d - 4, by omega⟩
  exact s37_one (C N (d + 1 + 1 + 1)) N s x (fun H τ q => s66_one (C N (d + 1 + 1)) N s x hs (fun s x H τ q => s85_one (C N (d + 1)) N s x (fun _ _ _ _ => rfl) H τ q) H τ q) H τ q
theorem d67 (d : Nat) (hd : 1 ≤ d) : IntOk (C N d) := by
  intro s hs H τ q
  obtain ⟨d, rfl⟩ : ∃ e, d = e + 1 := ⟨d - 1, by omega⟩
  exact s67_eval (C N d) N (Nat.le_of_lt hN) s hs H τ q
theorem d10 (d : Nat) (s : Bs) (hs : s.length ≤ 9223372036854775807) (H : Heap) (τ : Tape) (q : KV) : C N (d + 1) 10 [.str s] H τ q = q (.str (wordT s)) H τ := s10_ret (C N d) N hN s hs H τ q
theorem buildX_len : ∀ (l : List Bs) (i : Nat) (s : Bs), (∀ w ∈ l, w.length ≤ 12) → (buildX i s l).length ≤ s.length + 31 * l.length := by
  intro l
  induction l with
  | nil => intro i s _; simp [buildX]
  | cons w l ih =>
    intro i s h
    rw [buildX]
    refine Nat.le_trans (ih (i + 1) _ (fun x hx => h x (by simp [hx]))) ?_
    have h1 := pieceX_len i w (h w (by simp))
    have h2 : (if 0 < i then sepX i else []).length ≤ 3 := by
      split
      · exact sepX_len i
      · simp
    simp only [List.length_append, List.length_cons]
    omega
/-- THE LAW 'HeadersPieces', on the machine -/
theorem headersPieces_run (u : V) (ss : List Bs) (hss : ∀ s ∈ ss, s.length ≤ 9223372036854775807) (H : Heap) (hw : WF H) (hRd : Rd H 1 u ss.length (ss.map V.str)) (τ : Tape) : C N 40 3 [u] H τ trueK = doneA := by
  obtain ⟨v, H1, τ1, o1, g1, k1⟩ := l3p (C N 39) N (fun s hs H τ q => d10 hN 38 s hs H τ q) u ss hss H.size ss [] [] .nils [] H
    (T.set (T.set (T.set (T.set .leaf 0 u) 3 (.str [])) 4 .nils) 5 (.int .i64 (.ofNat 0))) τ N rfl (by simp) (by simp; omega) (by simp) (by simp) hw (Nat.le_refl _) (fun H' h => hRd.gr h hw (Nat.le_refl _)) (Own.nil _ _ _) rfl
    (by simp [T.get_set]) (by simp [T.get_set]) (by simp [T.get_set]) (by simp [T.get_set])
  have k11 : ∀ (H : Heap) (τ : Tape) (q : KV), C N 39 11 [] H τ q = q (.bool true) H τ := fun _ _ _ => rfl
  show s3 (C N 39) N u H τ trueK = doneA
  simp only [s3]
  rw [k1]
  simp only [blockK, Nat.beq_refl, cond_true, seqK, List.nil_append, List.length_nil, Nat.sub_zero] at o1 ⊢
  have hwd : ∀ w ∈ (ss.take 8).map wordT, (Letters w ∧ w ≠ []) ∧ w.length ≤ 12 := by
    intro w hw'
    obtain ⟨s, _, rfl⟩ := List.mem_map.1 hw'
    exact ⟨⟨(wordT_ok s).1, (wordT_ok s).2.1⟩, (wordT_ok s).2.2⟩
  have hl8 : ((ss.take 8).map wordT).length ≤ 8 := by rw [List.length_map, List.length_take]; omega
  generalize (ss.take 8).map wordT = wl at o1 hwd hl8 ⊢
  cases wl with
  | nil =>
    have e1 : ((0 : Int) == Int.ofNat 0) = true := rfl
    have pl : pLen [v] = some (.int .i64 ((0 : Nat) : Int)) := Own.pLen o1
    have e2 : (((0 : Nat) : Int) == Int.ofNat 0) = true := rfl
    simp only [s3_j0, getK_set, ↓reduceIte, Nat.reduceEqDiff, pl, someK_n, bin_eql, e2, condK_tn, k11]
    rfl
  | cons w l =>
    have pl : pLen [v] = some (.int .i64 ((piecesX 0 (w :: l)).length : Int)) := Own.pLen o1
    have e2 : (((piecesX 0 (w :: l)).length : Int) == Int.ofNat 0) = false := by
      rw [piecesX_len, beq_eq_false_iff_ne]; intro h; have := Int.ofNat.inj h; simp at this
    obtain ⟨H2, g2, k2⟩ := s13_ret (C N 38) N [88] (buildX 0 [] (w :: l)) H1 g1.wf τ1
    have k2' : ∀ q, C N 39 13 [.str (bs [88]), .str (buildX 0 [] (w :: l))] H1 τ1 q = q (.agg [.str [88], .str (buildX 0 [] (w :: l))]) H2 τ1 := k2
    have hbl : (buildX 0 [] (w :: l)).length ≤ 248 := by
      have := buildX_len hN (w :: l) 0 [] (fun x hx => (hwd x hx).2)
      simp only [List.length_nil, List.length_cons] at this hl8
      omega
    have a3 : eBuildSlice 1 2 [(.str []), (.str [])] [(0, 2)] [.agg [.str [88], .str (buildX 0 [] (w :: l))]] H2 τ1 = some (.sl H2.size 0 1 1 none 2, H2.new [.str [88], .str (buildX 0 [] (w :: l))] (1 * 2) false, τ1) := rfl
    have g3 := Gr.new g2.wf [.str [88], .str (buildX 0 [] (w :: l))] (1 * 2) false
    have c3 := cells_new H2 [.str [88], .str (buildX 0 [] (w :: l))] (1 * 2) false
    generalize H2.new [.str [88], .str (buildX 0 [] (w :: l))] (1 * 2) false = H3 at a3 g3 c3
    have hs : Small [([88], buildX 0 [] (w :: l))] := ⟨by simp, fun h hh => by
      simp only [List.mem_singleton] at hh; subst hh; exact ⟨by simp, by simp only; omega⟩⟩
    have r3 : Rd H3 2 (.sl H2.size 0 1 1 none 2) [([88], buildX 0 [] (w :: l))].length (hcells [([88], buildX 0 [] (w :: l))]) := .inr ⟨H2.size, 0, 1, none, _, rfl, c3, rfl, rfl⟩
    obtain ⟨v4, H4, τ4, o4, _, g4, k4⟩ := d12 hN 39 (by omega) [120] (by simp) hs (.sl H2.size 0 1 1 none 2) H3 g3.wf r3 τ1
    have hsel : sel [120] [([88], buildX 0 [] (w :: l))] = [buildX 0 [] (w :: l)] := rfl
    have hget : getT [120] [([88], buildX 0 [] (w :: l))] = buildX 0 [] (w :: l) := by
      unfold getT; rw [hsel]; simp [joinB, joinT]
    have hsp : splitT [120] [([88], buildX 0 [] (w :: l))] = piecesX 0 (w :: l) := by
      unfold splitT; rw [hsel, hget, if_pos (by simp), buildX_zero]
      exact pieces_back w l (hwd w (by simp)).1 (fun x hx => (hwd x (by simp [hx])).1)
    rw [hsp] at o4
    have k4' : ∀ q, C N 39 12 [.sl H2.size 0 1 1 none 2, .str (bs [120])] H3 τ1 q = q (.tup [v4, .bool true]) H4 τ4 := by
      intro q
      have := k4 q
      rw [hsel] at this
      exact this
    have rw4 : Rd H4 1 v (piecesX 0 (w :: l)).length ((piecesX 0 (w :: l)).map V.str) := by
      have gg : Gr H1.size H1 H4 := (g2.trans g3 g2.size).trans g4 (Nat.le_trans g2.size g3.size)
      exact (Own.rd o1).gr gg g1.wf (Nat.le_refl _)
    have hlp : (piecesX 0 (w :: l)).length < 1000000 := by rw [piecesX_len]; omega
    have k14 : ∀ q, C N 39 14 [v4, v] H4 τ4 q = q (.bool true) H4 τ4 := fun q => s14_ret (C N 38) N hN v4 v (piecesX 0 (w :: l)) hlp H4 (Own.rd o4) rw4 τ4 q
    have x0 : ∀ a b : V, pExtract 0 [.tup [a, b]] = some a := fun _ _ => rfl
    have x1 : ∀ a b : V, pExtract 1 [.tup [a, b]] = some b := fun _ _ => rfl
    simp only [s3_j0, getK_set, ↓reduceIte, Nat.reduceEqDiff, pl, someK_n, bin_eql, e2, condK_fn, k2', a3, effK_n, k4', x0, x1, gK_do, retK]
    rw [k14]
    simp only [retK, effK_n, pick_mk, cond_true, someK_n, gK_do, k11]
    rfl
end
end Go.Am.AmTrydHd

