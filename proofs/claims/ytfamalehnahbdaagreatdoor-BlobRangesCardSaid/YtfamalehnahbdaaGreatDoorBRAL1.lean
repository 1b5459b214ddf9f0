/- The abstract machine, printed functions of the program, and what they are shown to be. -/
import Derived.Test.YtfamalehnahbdaaGreatDoorBRAL0
import Derived.Test.YtfamalehnahbdaaGreatDoorBRAM4
import Derived.Test.YtfamalehnahbdaaGreatDoorBRAOk
set_option linter.unusedSimpArgs false
set_option linter.unusedVariables false
set_option linter.unusedSectionVars false
set_option maxRecDepth 100000
namespace Go.Am.X
theorem l_strings_IndexAnyb (c : CallK) (N : Nat) (cut s : Bs) (hs : s.length < 9223372036854775807) (id : Nat) (H : Heap) (h81 : ∀ (x : UInt8) τ q, c f_asciiSet_contains [.ptr id 0, .int .u8 (x.toNat : Int)] H τ q = q (.bool (cut.contains x)) H τ) (q : KV) :
  ∀ (l pre : Bs) (fr : T V) (τ : Tape) (m : Nat), s = pre ++ l → l.length < m → fr.get 0 = some (.str s) → fr.get 6 = some (.ptr id 0) → fr.get 8 = some (.int .i64 (pre.length : Int)) →
  loopK (s_strings_IndexAny_l11 c N) m ⟨fr, H⟩ τ (blockK 0 (seqK (s_strings_IndexAny_j10 c N q) (seqK (s_strings_IndexAny_j7 c N q) (endK [(.t 4)] q)))) = q (.int .i64 (anyI cut l pre.length)) H τ := by
 intro l
 induction l with
 | nil =>
  intro pre fr τ m he hm f0 f6 f8
  obtain ⟨m, rfl⟩ : ∃ j, m = j + 1 := ⟨m - 1, by omega⟩
  have e1 : decide ((pre.length : Int) < (s.length : Int)) = false := decide_eq_false (by rw [he]; simp)
  rw [loopK_succ]
  simp only [s_strings_IndexAny_l11, getK_mk f0, getK_mk f6, getK_mk f8, lenS_mk, someK_n, bin_lss, e1, condK_fn]
  rfl
 | cons x l ih =>
  intro pre fr τ m he hm f0 f6 f8
  obtain ⟨m, rfl⟩ : ∃ j, m = j + 1 := ⟨m - 1, by omega⟩
  have hl : pre.length < s.length := by rw [he]; simp
  have e1 : decide ((pre.length : Int) < (s.length : Int)) = true := decide_eq_true (by omega)
  have e2 : pStrIndex [.str s, .int .i64 (pre.length : Int)] = some (.int .u8 (x.toNat : Int)) := strIndex_mk (by rw [he]; simp)
  have e3 : wr .i64 ((pre.length : Int) + Int.ofNat 1) = ((pre ++ [x]).length : Int) := by
   rw [wr_id (by simp; omega) (by simp; omega)]; simp
  rw [loopK_succ]
  simp only [s_strings_IndexAny_l11, getK_mk f0, getK_mk f6, getK_mk f8, lenS_mk, someK_n, bin_lss, e1, condK_tn, e2, h81]
  by_cases h : cut.contains x = true
  ·rw [h, anyI, if_pos h]
   simp only [condK_tn]
   rfl
  ·have h' : cut.contains x = false := by simpa using h
   rw [h', anyI, if_neg h]
   simp only [condK_fn, bin_add, e3]
   have := ih (pre ++ [x]) (T.set (T.set (T.set (T.set (T.set (T.set .leaf 0 (.str s)) 6 (.ptr id 0)) 8 (.int .i64 (pre.length : Int))) 37 (.int .i64 (pre.length : Int))) 38 (.int .i64 ((pre ++ [x]).length : Int))) 8 (.int .i64 ((pre ++ [x]).length : Int))) τ m (by rw [he]; simp) (by simp at hm; omega) (by simp [T.get_set]) (by simp [T.get_set]) (by simp [T.get_set])
   rw [show (pre ++ [x]).length = pre.length + 1 by simp] at this ⊢
   exact this
abbrev Rune92 (c : CallK) (cut : Bs) : Prop := ∀ (r : Nat) (H : Heap), WF H → ∀ τ, ∃ H', Gr H.size H H' ∧ ∀ q, c f_strings_IndexRune [.str cut, .int .i32 (r : Int)] H τ q = q (.int .i64 (if r < 128 then idxB r cut 0 else -1)) H' τ
theorem l_strings_IndexAnya (c : CallK) (N : Nat) (cut s : Bs) (ha : ∀ x ∈ cut, x.toNat < 128) (hs : s.length < 9223372036854775807) (id : Nat) (h92 : Rune92 c cut) :
  ∀ (n : Nat) (l : Bs) (pos : Nat) (H : Heap) (fr : T V) (τ : Tape) (m : Nat), s.drop pos = l → l.length ≤ n → n < m → WF H → Iter H id s pos → fr.get 1 = some (.str cut) → fr.get 45 = some (.ptr id 0) →
  ∃ H', Gr id H H' ∧ ∀ q, loopK (s_strings_IndexAny_l9 c N) m ⟨fr, H⟩ τ (blockK 2 (seqK (s_strings_IndexAny_j8 c N q) (endK [(.t 4)] q))) = q (.int .i64 (anyI cut l pos)) H' τ := by
 intro n
 induction n with
 | zero =>
  intro l pos H fr τ m hd hl hm hw it f1 f45
  obtain ⟨m, rfl⟩ : ∃ j, m = j + 1 := ⟨m - 1, by omega⟩
  have hl0 : l = [] := List.eq_nil_of_length_eq_zero (by omega)
  subst hl0
  refine ⟨H, Gr.refl hw, fun q => ?_⟩
  have e := iter_end it (by simpa using hd) τ
  have x0 : pExtract 0 [.tup [V.bool false]] = some (.bool false) := rfl
  rw [loopK_succ]
  simp only [s_strings_IndexAny_l9, getK_mk f1, getK_mk f45, e, effK_n, x0, someK_n, condK_fn]
  rfl
 | succ n ih =>
  intro l pos H fr τ m hd hl hm hw it f1 f45
  obtain ⟨m, rfl⟩ : ∃ j, m = j + 1 := ⟨m - 1, by omega⟩
  cases l with
  | nil =>
   refine ⟨H, Gr.refl hw, fun q => ?_⟩
   have e := iter_end it (by simpa using hd) τ
   have x0 : pExtract 0 [.tup [V.bool false]] = some (.bool false) := rfl
   rw [loopK_succ]
   simp only [s_strings_IndexAny_l9, getK_mk f1, getK_mk f45, e, effK_n, x0, someK_n, condK_fn]
   rfl
  | cons x l =>
   have hp : pos < s.length := by
    by_cases h : pos < s.length
    ·exact h
    ·rw [List.drop_eq_nil_of_le (by omega)] at hd; cases hd
   obtain ⟨H1, e, g1, it1, z1⟩ := iter_next hw it hp τ
   have hid : id < H.size := it.lt hw
   have x0 : ∀ a b d : V, pExtract 0 [.tup [a, b, d]] = some a := fun _ _ _ => rfl
   have x1 : ∀ a b d : V, pExtract 1 [.tup [a, b, d]] = some b := fun _ _ _ => rfl
   have x2 : ∀ a b d : V, pExtract 2 [.tup [a, b, d]] = some d := fun _ _ _ => rfl
   rw [hd] at e it1
   obtain ⟨H2, g2, k2⟩ := h92 (decodeR (x :: l)).1 H1 g1.wf τ
   have it2 := it1.gr g2 (by omega)
   have g12 : Gr id H H2 := g1.trans g2 (by omega)
   have go : ∀ w, 1 ≤ w → w ≤ (x :: l).length → (decodeR (x :: l)).2 = w → (if (decodeR (x :: l)).1 < 128 then idxB (decodeR (x :: l)).1 cut 0 else -1) = -1 → anyI cut (x :: l) pos = anyI cut ((x :: l).drop w) (pos + w) →
     ∃ H', Gr id H H' ∧ ∀ q, loopK (s_strings_IndexAny_l9 c N) (m + 1) ⟨fr, H⟩ τ (blockK 2 (seqK (s_strings_IndexAny_j8 c N q) (endK [(.t 4)] q))) = q (.int .i64 (anyI cut (x :: l) pos)) H' τ := by
    intro w hw1 hw2 hw' hneg hany
    rw [hw'] at it2
    obtain ⟨H3, g3, k3⟩ := ih ((x :: l).drop w) (pos + w) H2 (T.set (T.set (T.set (T.set .leaf 1 (.str cut)) 9 (.int .i64 (pos : Int))) 45 (.ptr id 0)) 53 (.bool false)) τ m (by rw [← List.drop_drop, hd]) (by rw [List.length_drop]; simp at hl hw2 ⊢; omega) (by omega) g2.wf it2 (by simp [T.get_set]) (by simp [T.get_set])
    refine ⟨H3, g12.trans g3 (Nat.le_refl _), fun q => ?_⟩
    have ef : decide (Int.ofNat 0 ≤ (-1 : Int)) = false := rfl
    rw [loopK_succ, hany]
    simp only [s_strings_IndexAny_l9, getK_mk f1, getK_mk f45, e, effK_n, x0, x1, x2, someK_n, condK_tn, k2, hneg, bin_geq, ef, condK_fn]
    exact k3 q
   by_cases hx : x.toNat < 128
   ·have hdx := dec_ascii x l hx
    by_cases hc : cut.contains x = true
    ·have hi : 0 ≤ idxB x.toNat cut 0 := idxB_some _ _ _ ⟨x, by simpa using hc, rfl⟩
     have ef : decide (Int.ofNat 0 ≤ idxB x.toNat cut 0) = true := decide_eq_true hi
     refine ⟨H2, g12, fun q => ?_⟩
     rw [hdx] at k2 e
     rw [if_pos hx] at k2
     rw [loopK_succ, anyI, if_pos hc]
     simp only [s_strings_IndexAny_l9, getK_mk f1, getK_mk f45, e, effK_n, x0, x1, x2, someK_n, condK_tn, k2, bin_geq, ef]
     rfl
    ·refine go 1 (by omega) (by simp) (by rw [hdx]) ?_ ?_
     ·rw [hdx, if_pos hx]
      exact idxB_none _ _ _ (fun y hy h => hc (by
       have : y = x := UInt8.toNat_inj.1 h
       subst this; simpa using hy))
     ·rw [anyI, if_neg hc]; rfl
   ·obtain ⟨d1, d2, d3, d4⟩ := dec_high x l (by omega)
    refine go _ d2 d3 rfl ?_ ?_
    ·rw [if_neg (by omega)]
    ·exact anyI_skip cut ha _ _ _ d3 d4
theorem s_strings_IndexAny_ret (c : CallK) (N : Nat) (hN : 9223372036854775807 ≤ N) (cut s : Bs) (ha : ∀ x ∈ cut, x.toNat < 128) (h2 : 2 ≤ cut.length) (hs : s.length < 9223372036854775807) (h92 : Rune92 c cut)
  (h93 : ∀ (n : Int) H τ q, c f_strings_shouldUseASCIISet [.int .i64 n] H τ q = q (.bool (decide (8 < n))) H τ)
  (h60 : ∀ (H : Heap), WF H → ∀ τ, ∃ H', Gr H.size H H' ∧ ∀ q, c f_strings_makeASCIISet [.str cut] H τ q = q (.tup [.agg (mark (repl 256 [.bool false]) cut), .bool true]) H' τ)
  (h81 : ∀ (id : Nat) (H : Heap), H.cells? id = some (mark (repl 256 [.bool false]) cut) → ∀ (x : UInt8) τ q, c f_asciiSet_contains [.ptr id 0, .int .u8 (x.toNat : Int)] H τ q = q (.bool (cut.contains x)) H τ)
  (H : Heap) (hw : WF H) (τ : Tape) : ∃ H', Gr H.size H H' ∧ ∀ q, s_strings_IndexAny c N (.str s) (.str cut) H τ q = q (.int .i64 (anyI cut s 0)) H' τ := by
 have e0 : (cut == ([] : Bs)) = false := beq_eq_false_iff_ne.2 (fun h => by rw [h] at h2; simp at h2)
 have e1 : ((cut.length : Int) == Int.ofNat 1) = false := by rw [beq_eq_false_iff_ne]; intro h; simp at h; omega
 by_cases h8 : (8 : Int) < (s.length : Int)
 ·have e2 : decide ((8 : Int) < (s.length : Int)) = true := decide_eq_true h8
  obtain ⟨H1, k1, k2⟩ := h60 H hw τ
  have hr : (repl 256 [V.bool false]).length = 256 := by rw [repl_length]; rfl
  have hm : (mark (repl 256 [V.bool false]) cut).length = 256 := by rw [mark_length, hr]
  have hB := Blk.new H1 (repl 256 [V.bool false]) (repl 256 [V.bool false]).length true (Nat.le_refl _)
  have hG := Gr.new k1.wf (repl 256 [V.bool false]) (repl 256 [V.bool false]).length true
  have hsc : (mark (repl 256 [V.bool false]) cut).all V.scal = true := by
   have : ∀ (l : List UInt8) (cells : List V), cells.all V.scal = true → (mark cells l).all V.scal = true := by
    intro l
    induction l with
    | nil => intro cells h; exact h
    | cons x l ih =>
     intro cells h
     refine ih _ ?_
     rw [List.all_eq_true] at h ⊢
     intro v hv
     rcases List.mem_or_eq_of_mem_set hv with hv | rfl
     ·exact h v hv
     ·rfl
   exact this cut _ (by rw [repl_one, List.all_eq_true]; intro v hv; rw [List.eq_of_mem_replicate hv]; rfl)
  obtain ⟨H2, m1, m2, m3, m4⟩ := hB.eStore hG.wf 0 (.agg (mark (repl 256 [.bool false]) cut)) 256 hm (by rw [hr]; omega) hsc τ
  have hcells : (repl 256 [V.bool false]).take 0 ++ (V.agg (mark (repl 256 [.bool false]) cut)).cells ++ (repl 256 [V.bool false]).drop (0 + 256) = mark (repl 256 [.bool false]) cut := by
   rw [List.take_zero, List.nil_append, V.cells, List.drop_eq_nil_of_le (by rw [hr]; omega), List.append_nil]
  rw [hcells] at m2
  refine ⟨H2, k1.trans (hG.trans m3 (Nat.le_refl _)) k1.size, fun q => ?_⟩
  have x0 : ∀ a b : V, pExtract 0 [.tup [a, b]] = some a := fun _ _ => rfl
  have x1 : ∀ a b : V, pExtract 1 [.tup [a, b]] = some b := fun _ _ => rfl
  have al : eAlloc (repl 256 [(.bool false)]) [] H1 τ = some (.ptr H1.size 0, H1.new (repl 256 [V.bool false]) (repl 256 [V.bool false]).length true, τ) := rfl
  simp only [s_strings_IndexAny, bin_str, str_eql, e0, someK_n, condK_fn, lenS_mk, bin_eql, e1, h93, e2, condK_tn, k2, x0, x1, al, effK_n, m1]
  exact l_strings_IndexAnyb c N cut s hs H1.size H2 (fun x τ q => h81 H1.size H2 m2.cells x τ q) q s [] _ τ N rfl (by omega) (by simp [T.get_set]) (by simp [T.get_set]) (by simp [T.get_set])
 ·have e2 : decide ((8 : Int) < (s.length : Int)) = false := decide_eq_false h8
  obtain ⟨H1, k1, g1, it⟩ := iter_start hw s τ
  obtain ⟨H2, g2, k2⟩ := l_strings_IndexAnya c N cut s ha hs H.size h92 s.length s 0 H1 (T.set (T.set .leaf 1 (.str cut)) 45 (.ptr H.size 0)) τ N rfl (Nat.le_refl _) (by omega) g1.wf it (by simp [T.get_set]) (by simp [T.get_set])
  refine ⟨H2, g1.trans g2 (Nat.le_refl _), fun q => ?_⟩
  simp only [s_strings_IndexAny, bin_str, str_eql, e0, someK_n, condK_fn, lenS_mk, bin_eql, e1, h93, e2, condK_tn, s_strings_IndexAny_j7, getK_set, ↓reduceIte, Nat.reduceEqDiff, k1, effK_n]
  exact k2 q
theorem s_strings_ContainsAny_ret (c : CallK) (N : Nat) (cut s : Bs) (H H' : Heap) (τ : Tape) (h78 : ∀ q, c f_strings_IndexAny [.str s, .str cut] H τ q = q (.int .i64 (anyI cut s 0)) H' τ) (q : KV) : s_strings_ContainsAny c N (.str s) (.str cut) H τ q = q (.bool (s.any cut.contains)) H' τ := by
 have e : decide (Int.ofNat 0 ≤ anyI cut s 0) = s.any cut.contains := anyI_iff cut s 0
 simp only [s_strings_ContainsAny, h78, bin_geq, e]
def valT (s : Bs) : Bs := trimB ([9, 10, 13, 32] : Bs).contains s
def valO (s : Bs) : Bool := !(valT s).any ([0, 10, 13] : Bs).contains
def valV (s : Bs) : V := bif valO s then .tup [.str (valT s), .bool true] else .tup [.str [], .bool false]
theorem s_headers_Value_ret (c : CallK) (N : Nat) (s : Bs) (H H1 H2 : Heap) (τ τ1 τ2 : Tape) (h35 : ∀ q, c f_strings_Trim [.str s, .str (bs [9, 10, 13, 32])] H τ q = q (.str (valT s)) H1 τ1)
  (h54 : ∀ q, c f_strings_ContainsAny [.str (valT s), .str (bs [0, 10, 13])] H1 τ1 q = q (.bool ((valT s).any ([0, 10, 13] : Bs).contains)) H2 τ2) (q : KV) : s_headers_Value c N (.str s) H τ q = q (valV s) H2 τ2 := by
 simp only [s_headers_Value, h35, h54, valV, valO]
 by_cases h : (valT s).any ([0, 10, 13] : Bs).contains = true
 ·rw [h]; simp only [condK_tn, Bool.not_true, cond_false]
 ·have h' : (valT s).any ([0, 10, 13] : Bs).contains = false := by simpa using h
  rw [h']; simp only [condK_fn, Bool.not_false, cond_true]
end Go.Am.X

namespace Go.Am.X
abbrev Hd := Bs × Bs
def hv (h : Hd) : V := .agg [.str h.1, .str h.2]
theorem put2 {H : Heap} {B : Nat} {v : V} {hs : List Hd} {n : Nat} (h : Apd H B 2 v n (hcells hs)) (hw : WF H) (hB : B ≤ H.size) (x : Hd) (hn : n ≤ 1000000) (τ : Tape) :
  ∃ w H1 v' H' τ', eBuildSlice 1 2 [(.str []), (.str [])] [(0, 2)] [.agg [.str x.1, .str x.2]] H τ = some (w, H1, τ) ∧ eAppend 2 32 [v, w] H1 τ = some (v', H', τ') ∧ Apd H' B 2 v' (n + 1) (hcells (hs ++ [x])) ∧ Gr B H H' ∧ (∀ id cs, H.cells? id = some cs → H'.cells? id = some cs) ∧ Gr B H H1 := by
 obtain ⟨v', H', τ', r1, r2, r3, r4⟩ := h.put (bytes := 32) hw hB [.str x.1, .str x.2] rfl rfl (by omega) (by omega) τ
 refine ⟨_, _, v', H', τ', rfl, r1, ?_, r3, r4, (Gr.new hw _ _ _).weaken hB⟩
 rw [hcells_append]; exact r2
end Go.Am.X

namespace Go.Am.X
theorem Apd.weaken {H : Heap} {B C z : Nat} {v : V} {n : Nat} {cs : List V} (h : Apd H C z v n cs) (hBC : B ≤ C) : Apd H B z v n cs := by
 rcases h with (h | ⟨id, e, room, fam, ver, pl, st, fr, h1, h2, h3, h4, h5, h6, h7⟩) | ⟨h1, h2, id, h3, h4⟩
 ·exact .inl (.inl h)
 ·exact .inl (.inr ⟨id, e, room, fam, ver, pl, st, fr, h1, h2, h3, h4, Nat.le_trans hBC h5, Nat.le_trans hBC h6, h7⟩)
 ·exact .inr ⟨h1, h2, id, h3, h4.weaken hBC⟩
end Go.Am.X

namespace Go.Am.X
section
variable {N : Nat} (hN : 9223372036854775807 < N)
include hN
theorem d_strings_shouldUseASCIISet (d : Nat) (hd : 1 ≤ d) (n : Int) (H : Heap) (τ : Tape) (q : KV) : C N d f_strings_shouldUseASCIISet [.int .i64 n] H τ q = q (.bool (decide (8 < n))) H τ := by
 obtain ⟨d, rfl⟩ : ∃ e, d = e + 1 := ⟨d - 1, by omega⟩
 exact s_strings_shouldUseASCIISet_ret (C N d) N n H τ q
theorem d_utf8_ValidRune (d : Nat) (hd : 1 ≤ d) (n : Int) (H : Heap) (τ : Tape) : ∃ b, ∀ q, C N d f_utf8_ValidRune [.int .i32 n] H τ q = q (.bool b) H τ := by
 obtain ⟨d, rfl⟩ : ∃ e, d = e + 1 := ⟨d - 1, by omega⟩
 exact s_utf8_ValidRune_ret (C N d) N n H τ
theorem d_stringslite_IndexByte (d : Nat) (hd : 1 ≤ d) (s : Bs) (x : UInt8) (H : Heap) (τ : Tape) (q : KV) : C N d f_stringslite_IndexByte [.str s, .int .u8 (x.toNat : Int)] H τ q = q (.int .i64 (idxB x.toNat s 0)) H τ := by
 obtain ⟨d, rfl⟩ : ∃ e, d = e + 1 := ⟨d - 1, by omega⟩
 have e4 : x.toNat % 256 = x.toNat := Nat.mod_eq_of_lt (u8_lt x)
 show effK (idxP [.str s, .int .u8 (.ofNat x.toNat)] H τ) q = _
 simp only [idxP, e4, effK_n]
theorem d_strings_IndexByte (d : Nat) (hd : 2 ≤ d) : Idx70 (C N d) := by
 intro s x H τ q
 obtain ⟨d, rfl⟩ : ∃ e, d = e + 1 := ⟨d - 1, by omega⟩
 exact s_strings_IndexByte_ret (C N d) N (fun s x H τ q => d_stringslite_IndexByte hN d (by omega) s x H τ q) s x H τ q
theorem d_strings_IndexRune (d : Nat) (hd : 3 ≤ d) (cut : Bs) (ha : ∀ x ∈ cut, x.toNat < 128) (hl : cut.length < 1000) : Rune92 (C N d) cut := by
 intro r H hw τ
 obtain ⟨d, rfl⟩ : ∃ e, d = e + 1 := ⟨d - 1, by omega⟩
 obtain ⟨H', g, k⟩ := s_strings_IndexRune_ret (C N d) N (by omega) (d_strings_IndexByte hN d (by omega)) (fun n H τ => d_utf8_ValidRune hN d (by omega) n H τ) cut ha hl r H hw τ
 exact ⟨H', g, k⟩
theorem d60' (d : Nat) (hd : 1 ≤ d) (cut : Bs) (ha : ∀ x ∈ cut, x.toNat < 128) (h3 : cut.length < 9223372036854775807) (H : Heap) (hw : WF H) (τ : Tape) :
  ∃ H', Gr H.size H H' ∧ ∀ q, C N d f_strings_makeASCIISet [.str cut] H τ q = q (.tup [.agg (mark (repl 256 [.bool false]) cut), .bool true]) H' τ := by
 obtain ⟨d, rfl⟩ : ∃ e, d = e + 1 := ⟨d - 1, by omega⟩
 obtain ⟨H', g, k⟩ := s_strings_makeASCIISet_ret (C N d) N (Nat.le_of_lt hN) cut ha h3 H hw τ retK
 exact ⟨H', g, fun q => (C_nat N (d + 1)).mk (f := f_strings_makeASCIISet) (vs := [.str cut]) k q⟩
theorem d_strings_ContainsAny (d : Nat) (hd : 5 ≤ d) (cut s : Bs) (ha : ∀ x ∈ cut, x.toNat < 128) (h2 : 2 ≤ cut.length) (hl : cut.length < 1000) (hs : s.length < 9223372036854775807) (H : Heap) (hw : WF H) (τ : Tape) :
  ∃ H', Gr H.size H H' ∧ ∀ q, C N d f_strings_ContainsAny [.str s, .str cut] H τ q = q (.bool (s.any cut.contains)) H' τ := by
 obtain ⟨d, rfl⟩ : ∃ e, d = e + 1 + 1 := ⟨d - 2, by omega⟩
 obtain ⟨H', g, k⟩ := s_strings_IndexAny_ret (C N d) N (Nat.le_of_lt hN) cut s ha h2 hs (d_strings_IndexRune hN d (by omega) cut ha hl) (fun n H τ q => d_strings_shouldUseASCIISet hN d (by omega) n H τ q) (fun H hw τ => d60' hN d (by omega) cut ha (by omega) H hw τ)
  (fun id H hc x τ q => by
   obtain ⟨d, rfl⟩ : ∃ e, d = e + 1 := ⟨d - 1, by omega⟩
   exact d_asciiSet_contains hN d cut hc x τ q) H hw τ
 exact ⟨H', g, fun q => s_strings_ContainsAny_ret (C N (d + 1)) N cut s H H' τ k q⟩
theorem d35' (d : Nat) (hd : 3 ≤ d) (cut : Bs) (h2 : 2 ≤ cut.length) (h3 : cut.length < 9223372036854775807) (ha : ∀ x ∈ cut, x.toNat < 128) (s : Bs) (hs : s.length < 9223372036854775807) (H : Heap) (hw : WF H) (τ : Tape) :
  ∃ H', Gr H.size H H' ∧ ∀ q, C N d f_strings_Trim [.str s, .str cut] H τ q = q (.str (trimB cut.contains s)) H' τ := by
 obtain ⟨H', g, k⟩ := d_strings_Trim hN d hd cut h2 h3 ha s hs H hw τ retK
 exact ⟨H', g, fun q => (C_nat N d).mk k q⟩
theorem d_headers_Value (d : Nat) (hd : 6 ≤ d) (s : Bs) (hs : s.length < 9223372036854775807) (H : Heap) (hw : WF H) (τ : Tape) : ∃ H', Gr H.size H H' ∧ ∀ q, C N d f_headers_Value [.str s] H τ q = q (valV s) H' τ := by
 obtain ⟨d, rfl⟩ : ∃ e, d = e + 1 := ⟨d - 1, by omega⟩
 obtain ⟨H1, g1, k1⟩ := d35' hN d (by omega) [9, 10, 13, 32] (by decide) (by decide) (by decide) s hs H hw τ
 obtain ⟨H2, g2, k2⟩ := d_strings_ContainsAny hN d (by omega) [0, 10, 13] (valT s) (by decide) (by decide) (by decide) (by have := trimB_length ([9, 10, 13, 32] : Bs).contains s; unfold valT; omega) H1 g1.wf τ
 exact ⟨H2, g1.trans g2 g1.size, fun q => s_headers_Value_ret (C N d) N s H H1 H2 τ τ τ k1 k2 q⟩
end
end Go.Am.X

namespace Go.Am.X
abbrev NB : Nat := 9223372036854775808
theorem nb : 9223372036854775807 < NB := by decide
theorem tab_all (f : Nat) (d : Def) (h : tabF.get f = some d) (base : Base) (w0 : World) : DefOk PG base w0 f d := defs_ok (all_ok base w0) f d h
theorem primOk_E (d f : Nat) {R : List V → Heap → Out → Prop}
  (hR : ∀ vs H o, WF H → VsOk H vs → R vs H o → ∀ τ, ∃ v H' τ', C NB d f vs H τ retK = some (v, H', τ') ∧ Gr H.size H H' ∧ o.Met H v H') : ∀ base w0, PrimOk PG base w0 f (outP R) :=
 primOk_tab mixed_ok (tab_ok NB) tab_all d f hR
def strP (M : Nat) : List V → Prop | [.str s] => s.length ≤ M | _ => False
def strG (g : Bs → V) : List V → V | [.str s] => g s | _ => .tup []
abbrev RS (M : Nat) (g : Bs → V) := RV (strP M) (strG g)
theorem primS (d f M : Nat) (g : Bs → V) (hv : ∀ s H, VOk H (g s)) (h : ∀ s : Bs, s.length ≤ M → ∀ H, WF H → ∀ τ, ∃ H' τ', Gr H.size H H' ∧ ∀ q, C NB d f [.str s] H τ q = q (g s) H' τ') : ∀ base w0, PrimOk PG base w0 f (outP (RS M g)) := by
 refine primOk_E d f ?_
 rintro vs H o hw hvs ⟨hp, rfl⟩ τ
 unfold strP at hp
 split at hp
 ·rename_i s
  obtain ⟨H', τ', g1, k1⟩ := h s hp H hw τ
  exact ⟨_, H', τ', k1 retK, g1, rfl, hv s H⟩
 ·exact hp.elim
theorem callS {c : CallK} {f M : Nat} {g : Bs → V} (hc : ∀ vs H τ q, c f vs H τ q = effK (outP (RS M g) vs H τ) q) (s : Bs) (hs : s.length ≤ M) (H : Heap) (τ : Tape) (q : KV) : c f [.str s] H τ q = q (g s) H τ := RV_call hc (vs := [.str s]) hs H τ q
end Go.Am.X

namespace Go.Am.X
end Go.Am.X

namespace Go.Am.X
def RdH (H : Heap) (v : V) (hs : List Hd) : Prop := Rd H 2 v hs.length (hcells hs) ∧ Src H v
theorem RdH.gr {H H' : Heap} {B : Nat} {v : V} {hs : List Hd} (h : RdH H v hs) (hg : Gr B H H') (hw : WF H) (hB : H.size ≤ B) : RdH H' v hs := ⟨h.1.gr hg hw hB, h.2.gr hg hw hB⟩
abbrev ValueR := RS 9223372036854775806 valV
theorem valV_vok (s : Bs) (H : Heap) : VOk H (valV s) := by
 unfold valV; cases valO s <;> exact ⟨trivial, trivial, trivial⟩
theorem p_headers_Value : ∀ base w0, PrimOk PG base w0 f_headers_Value (outP ValueR) := primS 6 _ _ _ valV_vok fun s hs H hw τ => by
 obtain ⟨H', g, k⟩ := d_headers_Value nb 6 (by omega) s (by omega) H hw τ
 exact ⟨H', τ, g, k⟩
end Go.Am.X

namespace Go.Am.X
end Go.Am.X

namespace Go.Am.X
end Go.Am.X

namespace Go.Am.X
theorem someN : ∃ N : Nat, 9223372036854775807 < N := ⟨9223372036854775808, by decide⟩
theorem primRV {N : Nat} {l : List Row} (hl : RowsOk PG l) (d f : Nat) {Pre : List V → Prop} {g : List V → V} (hv : ∀ vs H, Pre vs → VOk H (g vs)) (h : ∀ vs, Pre vs → ∀ H, WF H → ∀ τ, ∃ H' τ', Gr H.size H H' ∧ ∀ q, CR l N d f vs H τ q = q (g vs) H' τ') : ∀ base w0, PrimOk PG base w0 f (outP (RV Pre g)) := by
 refine primOk_out mixed_ok hl N d f ?_
 rintro vs H o hw hvs ⟨hp, rfl⟩ τ
 obtain ⟨H', τ', g1, k1⟩ := h vs hp H hw τ
 exact ⟨_, H', τ', k1 retK, g1, rfl, hv vs H hp⟩
abbrev IsP (c : CallK) (f : Nat) (R : List V → Heap → Out → Prop) : Prop := ∀ vs H τ q, c f vs H τ q = effK (outP R vs H τ) q
end Go.Am.X

namespace Go.Am.X
end Go.Am.X

namespace Go.Am.X
def LsH (H : Heap) (B : Nat) (v : V) (hs : List Hd) : Prop := Own H B 2 v hs.length (hcells hs) ∧ (hs = [] → v = .nils)
theorem LsH.nil (H : Heap) (B : Nat) : LsH H B .nils [] := ⟨Own.nil _ _ _, fun _ => rfl⟩
theorem LsH.gr {H H' : Heap} {B C : Nat} {v : V} {hs : List Hd} (h : LsH H B v hs) (hg : Gr C H H') (hw : WF H) (hC : H.size ≤ C) : LsH H' B v hs := ⟨h.1.gr hg hw hC, h.2⟩
theorem LsH.weaken {H : Heap} {B C : Nat} {v : V} {hs : List Hd} (h : LsH H C v hs) (hBC : B ≤ C) : LsH H B v hs := by
 refine ⟨?_, h.2⟩
 rcases h.1 with h | ⟨id, e, room, fam, ver, pl, st, fr, h1, h2, h3, h4, h5, h6, h7⟩
 ·exact .inl h
 ·exact .inr ⟨id, e, room, fam, ver, pl, st, fr, h1, h2, h3, h4, Nat.le_trans hBC h5, Nat.le_trans hBC h6, h7⟩
theorem LsH.put {H : Heap} {B : Nat} {v : V} {hs : List Hd} (h : LsH H B v hs) (hw : WF H) (hB : B ≤ H.size) (x : Hd) (hn : hs.length ≤ 1000000) (τ : Tape) :
  ∃ w H1 v' H' τ', eBuildSlice 1 2 [(.str []), (.str [])] [(0, 2)] [hv x] H τ = some (w, H1, τ) ∧ eAppend 2 32 [v, w] H1 τ = some (v', H', τ') ∧ LsH H' B v' (hs ++ [x]) ∧ Gr B H H' ∧ (∀ id cs, H.cells? id = some cs → H'.cells? id = some cs) ∧ (∀ id cs, H.cells? id = some cs → H1.cells? id = some cs) := by
 obtain ⟨w, H1, v', H', τ', r1, r2, r3, r4, r5, r6⟩ := put2 h.1.apd hw hB x hn τ
 have e : H1 = H.new [.str x.1, .str x.2] (1 * 2) false := by
  have : eBuildSlice 1 2 [(.str []), (.str [])] [(0, 2)] [.agg [.str x.1, .str x.2]] H τ = some (.sl H.size 0 1 1 none 2, H.new [.str x.1, .str x.2] (1 * 2) false, τ) := rfl
  rw [this] at r1
  simp only [Option.some.injEq, Prod.mk.injEq] at r1
  exact r1.2.1.symm
 refine ⟨w, H1, v', H', τ', r1, r2, ⟨?_, fun h => by simp at h⟩, r4, r5, fun id cs hc => ?_⟩
 ·have := r3.own (by omega)
  simpa using this
 ·rw [e]; exact (Gr.new hw _ _ _).cells hw (Nat.le_refl _) hc
end Go.Am.X

namespace Go.Am.X
theorem RdH.nils {H : Heap} {hs : List Hd} (h : RdH H .nils hs) : hs = [] := by
 rcases h.1 with ⟨_, h0, _⟩ | ⟨_, _, _, _, _, e, _⟩
 ·exact List.eq_nil_of_length_eq_zero h0
 ·cases e
end Go.Am.X

namespace Go.Am.X
def partV (x : UInt8) (s : Bs) : V := match cutB x s with | some (a, b) => .tup [.str a, .str b, .bool true] | none => .tup [.str s, .str [], .bool false]
theorem partV_vok (x : UInt8) (s : Bs) (H : Heap) : VOk H (partV x s) := by
 unfold partV; split <;> exact ⟨trivial, trivial, trivial, trivial⟩
def begB (s p : Bs) : Bool := p.isPrefixOf s
theorem isPrefixOf_take : ∀ (s p : Bs), p.isPrefixOf s = (decide (p.length ≤ s.length) && (s.take p.length == p)) := by
 intro s p
 induction p generalizing s with
 | nil => simp
 | cons y p ih =>
  cases s with
  | nil => rfl
  | cons x s =>
   rw [List.isPrefixOf, ih s]
   simp only [List.length_cons, List.take_succ_cons]
   have e1 : decide (p.length + 1 ≤ s.length + 1) = decide (p.length ≤ s.length) := by simp
   have e2 : (x :: List.take p.length s == y :: p) = (x == y && (List.take p.length s == p)) := rfl
   have e3 : (y == x) = (x == y) := BEq.comm
   rw [e1, e2, e3]
   cases (x == y) <;> cases decide (p.length ≤ s.length) <;> simp
abbrev intV (s : Bs) : V := .tup [.int .i64 (intB s).1, .bool (intB s).2]
abbrev IntR := RS 9223372036854775806 intV
end Go.Am.X

namespace Go.Am.X
def RdS (H : Heap) (v : V) (ss : List Bs) : Prop := Rd H 1 v ss.length (ss.map V.str) ∧ Src H v
theorem RdS.gr {H H' : Heap} {B : Nat} {v : V} {ss : List Bs} (h : RdS H v ss) (hg : Gr B H H') (hw : WF H) (hB : H.size ≤ B) : RdS H' v ss := ⟨h.1.gr hg hw hB, h.2.gr hg hw hB⟩
def LsS (H : Heap) (B : Nat) (v : V) (ss : List Bs) : Prop := Own H B 1 v ss.length (ss.map V.str) ∧ (ss = [] → v = .nils)
theorem LsS.nil (H : Heap) (B : Nat) : LsS H B .nils [] := ⟨Own.nil _ _ _, fun _ => rfl⟩
theorem LsS.gr {H H' : Heap} {B C : Nat} {v : V} {ss : List Bs} (h : LsS H B v ss) (hg : Gr C H H') (hw : WF H) (hC : H.size ≤ C) : LsS H' B v ss := ⟨h.1.gr hg hw hC, h.2⟩
theorem LsS.weaken {H : Heap} {B C : Nat} {v : V} {ss : List Bs} (h : LsS H C v ss) (hBC : B ≤ C) : LsS H B v ss := by
 refine ⟨?_, h.2⟩
 rcases h.1 with h | ⟨id, e, room, fam, ver, pl, st, fr, h1, h2, h3, h4, h5, h6, h7⟩
 ·exact .inl h
 ·exact .inr ⟨id, e, room, fam, ver, pl, st, fr, h1, h2, h3, h4, Nat.le_trans hBC h5, Nat.le_trans hBC h6, h7⟩
theorem LsS.put {H : Heap} {B : Nat} {v : V} {ss : List Bs} (h : LsS H B v ss) (hw : WF H) (hB : B ≤ H.size) (x : Bs) (hn : ss.length ≤ 4294967296) (τ : Tape) :
  ∃ w H1 v' H' τ', eBuildSlice 1 1 [(.str [])] [(0, 1)] [.str x] H τ = some (w, H1, τ) ∧ eAppend 1 16 [v, w] H1 τ = some (v', H', τ') ∧ LsS H' B v' (ss ++ [x]) ∧ Gr B H H' := by
 obtain ⟨w, H1, v', H', r1, r2, r3, r4, _⟩ := h.1.push (bytes := 16) hw hB (.str x) (.str []) rfl rfl (by omega) (by omega) τ
 refine ⟨w, H1, v', H', τ.tail, r1, r2, ⟨by simpa using r3, fun h => by simp at h⟩, r4⟩
theorem Small.pre {a b : List Hd} (h : Small (a ++ b)) : Small a := ⟨by have := h.len; simp at this; omega, fun x hx => h.all x (by simp [hx])⟩
end Go.Am.X

namespace Go.Am.X
def digF : Nat → Nat → Bs → Bs
 | 0, _, acc => acc
 | f + 1, n, acc => bif Nat.blt 0 n || acc.isEmpty then digF f (n / 10) (UInt8.ofNat (48 + n % 10) :: acc) else acc
def dig (n : Nat) : Bs := digF 8 n []
def Dgs (s : Bs) : Prop := ∀ x ∈ s, 48 ≤ x.toNat ∧ x.toNat ≤ 57
theorem dgt (r : Nat) (h : r < 10) : (UInt8.ofNat (48 + r)).toNat = 48 + r := by
 rw [UInt8.toNat_ofNat']; omega
theorem digF_ok : ∀ (f n : Nat) (acc : Bs), Dgs acc → (acc ≠ [] ∨ 0 < f) → Dgs (digF f n acc) ∧ digF f n acc ≠ [] ∧ (digF f n acc).length ≤ acc.length + f := by
 intro f
 induction f with
 | zero => intro n acc h1 h2; exact ⟨h1, by rcases h2 with h | h; exact h; omega, by simp [digF]⟩
 | succ f ih =>
  intro n acc h1 h2
  rw [digF]
  cases hb : (Nat.blt 0 n || acc.isEmpty) with
  | true =>
   rw [cond_true]
   have hr := dgt (n % 10) (Nat.mod_lt _ (by omega))
   obtain ⟨a, b, c⟩ := ih (n / 10) (UInt8.ofNat (48 + n % 10) :: acc) (fun x hx => by
    rcases List.mem_cons.1 hx with rfl | hx
    ·rw [hr]; omega
    ·exact h1 x hx) (.inl (by simp))
   exact ⟨a, b, by simp only [List.length_cons] at c; omega⟩
  | false =>
   rw [cond_false]
   exact ⟨h1, fun e => by rw [e] at hb; simp at hb, by omega⟩
theorem intStep_dig (n : Nat) (hn : n < 4611686018427387904) : intStep ((n / 10 : Nat) : Int) (((48 + n % 10 : Nat) : Int) - 48) = (n : Int) := by
 have e : (((48 + n % 10 : Nat) : Int) - 48) = ((n % 10 : Nat) : Int) := by omega
 have e2 : (mostI - ((n % 10 : Nat) : Int)).tdiv 10 = ((9223372036854775807 - n % 10) / 10 : Nat) := by
  have : mostI - ((n % 10 : Nat) : Int) = ((9223372036854775807 - n % 10 : Nat) : Int) := by unfold mostI; omega
  rw [this]; rfl
 rw [e]
 unfold intStep
 rw [e2, if_neg (by omega)]
 omega
theorem intL_dig : ∀ (f n : Nat) (acc : Bs), n < 10 ^ f → n < 4611686018427387904 → intL (digF f n acc) 0 = intL acc (n : Int) := by
 intro f
 induction f with
 | zero =>
  intro n acc h _; have : n = 0 := by simpa using h
  subst this; rfl
 | succ f ih =>
  intro n acc h hb
  rw [digF]
  cases hbb : (Nat.blt 0 n || acc.isEmpty) with
  | true =>
   have h' : n < 10 ^ f * 10 := h
   have h1 : n / 10 < 10 ^ f := Nat.div_lt_of_lt_mul (by rw [Nat.mul_comm]; exact h')
   have h2 : n / 10 < 4611686018427387904 := Nat.lt_of_le_of_lt (Nat.div_le_self _ _) hb
   rw [cond_true, ih (n / 10) _ h1 h2]
   have hr := dgt (n % 10) (Nat.mod_lt _ (by omega))
   rw [intL, if_pos (by rw [hr]; omega), hr, intStep_dig n hb]
  | false =>
   rw [cond_false]
   have h0 : Nat.blt 0 n = false := by cases h : Nat.blt 0 n with | true => rw [h] at hbb; simp at hbb | false => rfl
   have : n = 0 := by
    cases n with
    | zero => rfl
    | succ n => cases h0
   subst this; rfl
theorem intB_dig (n : Nat) (hn : n < 100000000) : intB (dig n) = ((n : Int), true) := by
 have h := intL_dig 8 n [] (by omega) (by omega)
 obtain ⟨_, h2, _⟩ := digF_ok 8 n [] (fun x hx => by simp at hx) (.inr (by omega))
 have hl : 0 < (digF 8 n []).length := List.length_pos_iff.2 h2
 unfold intB dig
 rw [h]
 simp only [intL, decide_eq_true hl]
theorem cut_dig : ∀ (A B : Bs), Dgs A → cutB 45 (A ++ 45 :: B) = some (A, B) := by
 intro A
 induction A with
 | nil => intro B _; rw [List.nil_append, cutB, if_pos rfl]
 | cons x A ih =>
  intro B h
  have hx := h x (by simp)
  have h45 : x ≠ 45 := fun e => by subst e; revert hx; decide
  rw [List.cons_append, cutB, if_neg h45, ih B (fun y hy => h y (by simp [hy]))]
def toldB (s : Bs) : Int × Bool := if s = [] then (-1, true) else intB s
theorem dig_slice : ∀ r, r < 10 → pStrSlice true true [.str (bs [48, 49, 50, 51, 52, 53, 54, 55, 56, 57]), .int .i64 ((r : Nat) : Int), .int .i64 ((r + 1 : Nat) : Int)] = some (.str [UInt8.ofNat (48 + r)]) := by
 intro r hr
 rw [strSlice_lohi (by omega) (by simp [bs]; omega)]
 match r, hr with
 | 0, _ | 1, _ | 2, _ | 3, _ | 4, _ | 5, _ | 6, _ | 7, _ | 8, _ | 9, _ => rfl
theorem dig_ok (n : Nat) : Dgs (dig n) ∧ dig n ≠ [] ∧ (dig n).length ≤ 8 := by
 have := digF_ok 8 n [] (fun x hx => by simp at hx) (.inr (by omega))
 exact ⟨this.1, this.2.1, by simpa [dig] using this.2.2⟩
def bytesEq : Bs := [98, 121, 116, 101, 115, 61]
end Go.Am.X

namespace Go.Am.X
theorem s_stringslite_HasPrefix_ret (c : CallK) (N : Nat) (s p : Bs) (H : Heap) (τ : Tape) (q : KV) : s_stringslite_HasPrefix c N (.str s) (.str p) H τ q = q (.bool (begB s p)) H τ := by
 unfold begB
 rw [isPrefixOf_take]
 by_cases h : p.length ≤ s.length
 ·have e1 : decide (p.length ≤ s.length) = true := decide_eq_true h
  have s1 : pStrSlice false true [.str s, .int .i64 (p.length : Int)] = some (.str (s.take p.length)) := strSlice_hi h
  simp only [s_stringslite_HasPrefix, getK_set, ↓reduceIte, Nat.reduceEqDiff, someK_n, effK_n, retK, gK_do, gK_do', gK_skip, gK_skip', gK_none, pick_mk, cond_true, cond_false, condK_tn, condK_fn, bin_eql, bin_neq, bin_lss, bin_leq, bin_gtr, bin_geq, un_not, Bool.not_true, Bool.not_false, bin_str, lenS_mk, nle_l, nle_r, nle_n, nlt_l, nlt_r, nlt_n, neq_r, neq_n, nne_r, nne_n, ext0, ext1, ext30, ext31, ext32, bin_add, bin_sub, decide_true, decide_false, e1, s1, str_eql, Bool.true_and]
 ·have e1 : decide (p.length ≤ s.length) = false := decide_eq_false h
  simp only [s_stringslite_HasPrefix, getK_set, ↓reduceIte, Nat.reduceEqDiff, someK_n, effK_n, retK, gK_do, gK_do', gK_skip, gK_skip', gK_none, pick_mk, cond_true, cond_false, condK_tn, condK_fn, bin_eql, bin_neq, bin_lss, bin_leq, bin_gtr, bin_geq, un_not, Bool.not_true, Bool.not_false, bin_str, lenS_mk, nle_l, nle_r, nle_n, nlt_l, nlt_r, nlt_n, neq_r, neq_n, nne_r, nne_n, ext0, ext1, ext30, ext31, ext32, bin_add, bin_sub, decide_true, decide_false, e1, Bool.false_and]
abbrev BegOk (c : CallK) (f : Nat) : Prop := ∀ (s p : Bs) (H : Heap) (τ : Tape) (q : KV), c f [.str s, .str p] H τ q = q (.bool (begB s p)) H τ
def cutpV (s p : Bs) : V := bif begB s p then .tup [.str (s.drop p.length), .bool true] else .tup [.str s, .bool false]
theorem begB_len {s p : Bs} (h : begB s p = true) : p.length ≤ s.length := by
 unfold begB at h; rw [isPrefixOf_take, Bool.and_eq_true] at h; exact of_decide_eq_true h.1
theorem s_stringslite_CutPrefix_ret (c : CallK) (N : Nat) (h : BegOk c f_stringslite_HasPrefix) (s p : Bs) (H : Heap) (τ : Tape) (q : KV) : s_stringslite_CutPrefix c N (.str s) (.str p) H τ q = q (cutpV s p) H τ := by
 unfold cutpV
 cases hb : begB s p with
 | true =>
  have e2 : pStrSlice true false [.str s, .int .i64 (p.length : Int)] = some (.str (s.drop p.length)) := strSlice_lo (begB_len hb)
  simp only [s_stringslite_CutPrefix, h s p, hb, getK_set, ↓reduceIte, Nat.reduceEqDiff, someK_n, effK_n, retK, gK_do, gK_do', gK_skip, gK_skip', gK_none, pick_mk, cond_true, cond_false, condK_tn, condK_fn, bin_eql, bin_neq, bin_lss, bin_leq, bin_gtr, bin_geq, un_not, Bool.not_true, Bool.not_false, bin_str, lenS_mk, nle_l, nle_r, nle_n, nlt_l, nlt_r, nlt_n, neq_r, neq_n, nne_r, nne_n, ext0, ext1, ext30, ext31, ext32, bin_add, bin_sub, decide_true, decide_false, e2]
 | false => simp only [s_stringslite_CutPrefix, h s p, hb, getK_set, ↓reduceIte, Nat.reduceEqDiff, someK_n, effK_n, retK, gK_do, gK_do', gK_skip, gK_skip', gK_none, pick_mk, cond_true, cond_false, condK_tn, condK_fn, bin_eql, bin_neq, bin_lss, bin_leq, bin_gtr, bin_geq, un_not, Bool.not_true, Bool.not_false, bin_str, lenS_mk, nle_l, nle_r, nle_n, nlt_l, nlt_r, nlt_n, neq_r, neq_n, nne_r, nne_n, ext0, ext1, ext30, ext31, ext32, bin_add, bin_sub, decide_true, decide_false]
abbrev CutpOk (c : CallK) (f : Nat) : Prop := ∀ (s p : Bs) (H : Heap) (τ : Tape) (q : KV), c f [.str s, .str p] H τ q = q (cutpV s p) H τ
theorem s_strings_CutPrefix_ret (c : CallK) (N : Nat) (h : CutpOk c f_stringslite_CutPrefix) (s p : Bs) (H : Heap) (τ : Tape) (q : KV) : s_strings_CutPrefix c N (.str s) (.str p) H τ q = q (cutpV s p) H τ := by
 simp only [s_strings_CutPrefix, h s p]
 unfold cutpV
 cases begB s p <;> simp only [getK_set, ↓reduceIte, Nat.reduceEqDiff, someK_n, effK_n, retK, gK_do, gK_do', gK_skip, gK_skip', gK_none, pick_mk, cond_true, cond_false, condK_tn, condK_fn, bin_eql, bin_neq, bin_lss, bin_leq, bin_gtr, bin_geq, un_not, Bool.not_true, Bool.not_false, bin_str, lenS_mk, nle_l, nle_r, nle_n, nlt_l, nlt_r, nlt_n, neq_r, neq_n, nne_r, nne_n, ext0, ext1, ext30, ext31, ext32, bin_add, bin_sub, decide_true, decide_false]
abbrev CutPre : List V → Prop | [.str s, .str [_]] => s.length < 9223372036854775807 | _ => False
abbrev CutG : List V → V | [.str s, .str [x]] => partV x s | _ => .tup []
abbrev CutR := RV CutPre CutG
theorem p_strings_Cut : ∀ base w0, PrimOk PG base w0 f_strings_Cut (outP CutR) := by
 refine primOk_E 4 _ ?_
 rintro vs H o hw hvs ⟨hp, rfl⟩ τ
 unfold CutPre at hp; split at hp
 ·rename_i s x
  exact ⟨_, H, τ, d_strings_Cut nb 4 (by omega) x s hp H τ retK, Gr.refl hw, rfl, partV_vok x s H⟩
 ·exact hp.elim
abbrev RCutOk (c : CallK) : Prop := ∀ (s : Bs) (x : UInt8), s.length < 9223372036854775807 → ∀ H τ q, c f_strings_Cut [.str s, .str [x]] H τ q = q (partV x s) H τ
theorem k_strings_Cut {c : CallK} (h : IsP c f_strings_Cut CutR) : RCutOk c := fun s x hs H τ q => RV_call h (vs := [.str s, .str [x]]) hs H τ q
theorem p_infra_Int : ∀ base w0, PrimOk PG base w0 f_infra_Int (outP IntR) := primS 1 _ _ _ (fun _ _ => ⟨trivial, trivial, trivial⟩) fun s hs H hw τ => ⟨H, τ, Gr.refl hw, fun q => d_infra_Int nb 1 (by omega) s (by omega) H τ q⟩
abbrev NIntOk (c : CallK) : Prop := ∀ (s : Bs), s.length ≤ 9223372036854775806 → ∀ H τ q, c f_infra_Int [.str s] H τ q = q (intV s) H τ
theorem k_infra_Int {c : CallK} (h : IsP c f_infra_Int IntR) : NIntOk c := fun s hs H τ q => callS h s hs H τ q
def rngAB (a b : Int × Bool) : Int × Int × Bool :=
 bif (a.2 && b.2) && (!(decide (a.1 < 0) && decide (b.1 < 0)) && !(decide (0 ≤ a.1) && (decide (0 ≤ b.1) && decide (b.1 < a.1)))) then (a.1, b.1, true) else (0, 0, false)
def rng (s : Bs) : Int × Int × Bool := bif begB s bytesEq then (match cutB 45 (s.drop 6) with | some (a, b) => rngAB (toldB a) (toldB b) | none => (0, 0, false)) else (0, 0, false)
abbrev rngV (s : Bs) : V := .tup [.int .i64 (rng s).1, .int .i64 (rng s).2.1, .bool (rng s).2.2]
abbrev ToldOk (c : CallK) : Prop := ∀ (s : Bs), s.length ≤ 9223372036854775806 → ∀ H τ q, c f_headers_told [.str s] H τ q = q (.tup [.int .i64 (toldB s).1, .bool (toldB s).2]) H τ
theorem s_headers_told_gen (c : CallK) (N : Nat) (h : NIntOk c) (s : Bs) (hs : s.length ≤ 9223372036854775806) (H : Heap) (τ : Tape) (q : KV) : s_headers_told c N (.str s) H τ q = q (.tup [.int .i64 (toldB s).1, .bool (toldB s).2]) H τ := by
 unfold toldB
 by_cases e : s = []
 ·subst e
  have e : (([] : Bs) == []) = true := rfl
  simp only [s_headers_told, getK_set, ↓reduceIte, Nat.reduceEqDiff, someK_n, effK_n, retK, gK_do, gK_do', gK_skip, gK_skip', gK_none, pick_mk, cond_true, cond_false, condK_tn, condK_fn, bin_eql, bin_neq, bin_lss, bin_leq, bin_gtr, bin_geq, un_not, Bool.not_true, Bool.not_false, bin_str, lenS_mk, nle_l, nle_r, nle_n, nlt_l, nlt_r, nlt_n, neq_r, neq_n, nne_r, nne_n, ext0, ext1, ext30, ext31, ext32, bin_add, bin_sub, decide_true, decide_false, str_eql, e, if_true]
  rfl
 ·have e' : (s == ([] : Bs)) = false := beq_eq_false_iff_ne.2 e
  simp only [s_headers_told, getK_set, ↓reduceIte, Nat.reduceEqDiff, someK_n, effK_n, retK, gK_do, gK_do', gK_skip, gK_skip', gK_none, pick_mk, cond_true, cond_false, condK_tn, condK_fn, bin_eql, bin_neq, bin_lss, bin_leq, bin_gtr, bin_geq, un_not, Bool.not_true, Bool.not_false, bin_str, lenS_mk, nle_l, nle_r, nle_n, nlt_l, nlt_r, nlt_n, neq_r, neq_n, nne_r, nne_n, ext0, ext1, ext30, ext31, ext32, bin_add, bin_sub, decide_true, decide_false, str_eql, e', if_neg e, h s hs]
theorem cutB_len (x : UInt8) : ∀ (s a b : Bs), cutB x s = some (a, b) → a.length + b.length + 1 = s.length := by
 intro s a b h
 have := ((cutB_spec x s).2 a b h).1
 rw [this]; simp; omega
set_option maxHeartbeats 2000000 in
theorem s_headers_Range_gen (c : CallK) (N : Nat) (hP : CutpOk c f_strings_CutPrefix) (hC : RCutOk c) (hT : ToldOk c) (s : Bs) (hs : s.length ≤ 9223372036854775806) (H : Heap) (τ : Tape) (q : KV) : s_headers_Range c N (.str s) H τ q = q (rngV s) H τ := by
 have k1 := fun H τ q => hP s bytesEq H τ q
 have eb : bs [98, 121, 116, 101, 115, 61] = bytesEq := rfl
 have e45 : bs [45] = [45] := rfl
 have fin : ∀ (a b : Int × Bool) (q : KV), s_headers_Range c N (.str s) H τ q = s_headers_Range c N (.str s) H τ q := fun _ _ _ => rfl
 unfold rngV rng
 unfold cutpV at k1
 cases hb : begB s bytesEq with
 | false =>
  rw [hb] at k1
  have k2 := hC s 45 (by omega)
  unfold partV at k2
  cases hc : cutB 45 s with
  | none =>
   rw [hc] at k2
   simp only [s_headers_Range, eb, e45, k1, cond_false, getK_set, ↓reduceIte, Nat.reduceEqDiff, someK_n, effK_n, retK, gK_do, gK_do', gK_skip, gK_skip', gK_none, pick_mk, cond_true, cond_false, condK_tn, condK_fn, bin_eql, bin_neq, bin_lss, bin_leq, bin_gtr, bin_geq, un_not, Bool.not_true, Bool.not_false, bin_str, lenS_mk, nle_l, nle_r, nle_n, nlt_l, nlt_r, nlt_n, neq_r, neq_n, nne_r, nne_n, ext0, ext1, ext30, ext31, ext32, bin_add, bin_sub, decide_true, decide_false, k2, hT s hs, hT [] (by simp)]
   rfl
  | some ab =>
   obtain ⟨a, b⟩ := ab
   have hl := cutB_len 45 s a b hc
   rw [hc] at k2
   simp only [s_headers_Range, eb, e45, k1, cond_false, getK_set, ↓reduceIte, Nat.reduceEqDiff, someK_n, effK_n, retK, gK_do, gK_do', gK_skip, gK_skip', gK_none, pick_mk, cond_true, cond_false, condK_tn, condK_fn, bin_eql, bin_neq, bin_lss, bin_leq, bin_gtr, bin_geq, un_not, Bool.not_true, Bool.not_false, bin_str, lenS_mk, nle_l, nle_r, nle_n, nlt_l, nlt_r, nlt_n, neq_r, neq_n, nne_r, nne_n, ext0, ext1, ext30, ext31, ext32, bin_add, bin_sub, decide_true, decide_false, k2, hT a (by omega), hT b (by omega)]
   rfl
 | true =>
  rw [hb] at k1
  have hd : (s.drop 6).length ≤ s.length := by rw [List.length_drop]; omega
  have k2 := hC (s.drop 6) 45 (by omega)
  have e6 : s.drop bytesEq.length = s.drop 6 := rfl
  unfold partV at k2
  cases hc : cutB 45 (s.drop 6) with
  | none =>
   rw [hc] at k2
   simp only [s_headers_Range, eb, e45, k1, cond_true, getK_set, ↓reduceIte, Nat.reduceEqDiff, someK_n, effK_n, retK, gK_do, gK_do', gK_skip, gK_skip', gK_none, pick_mk, cond_true, cond_false, condK_tn, condK_fn, bin_eql, bin_neq, bin_lss, bin_leq, bin_gtr, bin_geq, un_not, Bool.not_true, Bool.not_false, bin_str, lenS_mk, nle_l, nle_r, nle_n, nlt_l, nlt_r, nlt_n, neq_r, neq_n, nne_r, nne_n, ext0, ext1, ext30, ext31, ext32, bin_add, bin_sub, decide_true, decide_false, e6, k2, hT (s.drop 6) (by omega), hT [] (by simp)]
   rfl
  | some ab =>
   obtain ⟨a, b⟩ := ab
   have hl := cutB_len 45 _ a b hc
   rw [hc] at k2
   have kA := hT a (by omega)
   have kB := hT b (by omega)
   simp only [cond_true]
   generalize toldB a = ta at kA ⊢
   generalize toldB b = tb at kB ⊢
   obtain ⟨fa, ba⟩ := ta
   obtain ⟨fb, bb⟩ := tb
   simp only at kA kB
   unfold rngAB
   have z1 : decide (fa < Int.ofNat 0) = decide (fa < 0) := rfl
   have z2 : decide (fb < Int.ofNat 0) = decide (fb < 0) := rfl
   have z3 : decide (Int.ofNat 0 ≤ fa) = decide (0 ≤ fa) := rfl
   have z4 : decide (Int.ofNat 0 ≤ fb) = decide (0 ≤ fb) := rfl
   have z5 : ∀ (q : V → Ans), binK .gtr (.int .i64 fa) (.int .i64 fb) q = q (.bool (decide (fb < fa))) := fun q => bin_gtr _ _ _ _
   have d3 : decide (0 ≤ fa) = !decide (fa < 0) := by by_cases h : fa < 0 <;> simp [h] <;> omega
   have d4 : decide (0 ≤ fb) = !decide (fb < 0) := by by_cases h : fb < 0 <;> simp [h] <;> omega
   rw [d3] at z3
   rw [d4] at z4
   rw [d3, d4]
   simp only [s_headers_Range, eb, e45, k1, cond_true, getK_set, ↓reduceIte, Nat.reduceEqDiff, someK_n, effK_n, retK, gK_do, gK_do', gK_skip, gK_skip', gK_none, pick_mk, cond_true, cond_false, condK_tn, condK_fn, bin_eql, bin_neq, bin_lss, bin_leq, bin_gtr, bin_geq, un_not, Bool.not_true, Bool.not_false, bin_str, lenS_mk, nle_l, nle_r, nle_n, nlt_l, nlt_r, nlt_n, neq_r, neq_n, nne_r, nne_n, ext0, ext1, ext30, ext31, ext32, bin_add, bin_sub, decide_true, decide_false, e6, k2, kA, kB]
   cases ba <;> cases bb <;> simp only [getK_set, ↓reduceIte, Nat.reduceEqDiff, someK_n, effK_n, retK, gK_do, gK_do', gK_skip, gK_skip', gK_none, pick_mk, cond_true, cond_false, condK_tn, condK_fn, bin_eql, bin_neq, bin_lss, bin_leq, bin_gtr, bin_geq, un_not, Bool.not_true, Bool.not_false, bin_str, lenS_mk, nle_l, nle_r, nle_n, nlt_l, nlt_r, nlt_n, neq_r, neq_n, nne_r, nne_n, ext0, ext1, ext30, ext31, ext32, bin_add, bin_sub, decide_true, decide_false] <;> cases d1 : decide (fa < 0) <;> cases d2 : decide (fb < 0) <;> cases d5 : decide (fb < fa) <;>
    (simp only [getK_set, ↓reduceIte, Nat.reduceEqDiff, someK_n, effK_n, retK, gK_do, gK_do', gK_skip, gK_skip', gK_none, pick_mk, cond_true, cond_false, condK_tn, condK_fn, bin_eql, bin_neq, bin_lss, bin_leq, bin_gtr, bin_geq, un_not, Bool.not_true, Bool.not_false, bin_str, lenS_mk, nle_l, nle_r, nle_n, nlt_l, nlt_r, nlt_n, neq_r, neq_n, nne_r, nne_n, ext0, ext1, ext30, ext31, ext32, bin_add, bin_sub, decide_true, decide_false, z1, z2, z3, z4, z5, d1, d2, d5]; rfl)
abbrev RngR := RS 9223372036854775806 rngV
theorem rngV_vok (s : Bs) (H : Heap) : VOk H (rngV s) := ⟨trivial, trivial, trivial, trivial⟩
noncomputable abbrev rw_HRange : List Row := [Row.fn f_headers_Range fn_headers_Range e_headers_Range, Row.fn f_strings_CutPrefix fn_strings_CutPrefix e_strings_CutPrefix, Row.fn f_stringslite_CutPrefix fn_stringslite_CutPrefix e_stringslite_CutPrefix, Row.fn f_stringslite_HasPrefix fn_stringslite_HasPrefix e_stringslite_HasPrefix, Row.fn f_headers_told fn_headers_told e_headers_told, Row.prim f_strings_Cut (outP CutR), Row.prim f_infra_Int (outP IntR)]
theorem p_headers_Range : ∀ base w0, PrimOk PG base w0 f_headers_Range (outP RngR) := by
 obtain ⟨N, hN⟩ := someN
 refine primRV (N := N) (l := rw_HRange) (.fn ok_headers_Range e_headers_Range_ok (.fn ok_strings_CutPrefix e_strings_CutPrefix_ok (.fn ok_stringslite_CutPrefix e_stringslite_CutPrefix_ok (.fn ok_stringslite_HasPrefix e_stringslite_HasPrefix_ok (.fn ok_headers_told e_headers_told_ok (.prim p_strings_Cut (.prim p_infra_Int (.nil _)))))))) 4 _ (fun vs H h => ?_) (fun vs h H hw τ => ?_)
 ·unfold strP at h; split at h
  ·exact rngV_vok _ _
  ·exact h.elim
 ·unfold strP at h; split at h
  ·exact ⟨H, τ, Gr.refl hw, fun q => s_headers_Range_gen (CR rw_HRange N 3) N (fun s p H τ q => s_strings_CutPrefix_ret (CR rw_HRange N 2) N (fun s p H τ q => s_stringslite_CutPrefix_ret (CR rw_HRange N 1) N (fun s p H τ q => s_stringslite_HasPrefix_ret (CR rw_HRange N 0) N s p H τ q) s p H τ q) s p H τ q) (k_strings_Cut fun _ _ _ _ => rfl) (fun s hs H τ q => s_headers_told_gen (CR rw_HRange N 2) N (k_infra_Int fun _ _ _ _ => rfl) s hs H τ q) _ h H τ q⟩
  ·exact h.elim
abbrev RngOk (c : CallK) (f : Nat) : Prop := ∀ (s : Bs), s.length ≤ 9223372036854775806 → ∀ H τ q, c f [.str s] H τ q = q (rngV s) H τ
theorem k_Range {c : CallK} {f : Nat} (h : IsP c f RngR) : RngOk c f := fun s hs H τ q => callS h s hs H τ q
end Go.Am.X

namespace Go.Am.X
def pow10V : List V := [.int .u64 1, .int .u64 10, .int .u64 100, .int .u64 1000, .int .u64 10000, .int .u64 100000, .int .u64 1000000, .int .u64 10000000, .int .u64 100000000, .int .u64 1000000000, .int .u64 10000000000, .int .u64 100000000000, .int .u64 1000000000000, .int .u64 10000000000000, .int .u64 100000000000000, .int .u64 1000000000000000, .int .u64 10000000000000000, .int .u64 100000000000000000, .int .u64 1000000000000000000, .int .u64 10000000000000000000]
def tabs : List (Option (List V)) := List.replicate 1 none ++ some pow10V :: List.replicate (6 - 1 - 1) none
theorem tabs_plain : plainL tabs = true := by kernel_rfl
theorem tabs_len : tabs.length = 6 := by kernel_rfl
theorem tabs_at {j : Nat} {cs : List V} (h : tabs[j]? = some (some cs)) : j = 1 ∧ cs = pow10V := by
 unfold tabs at h
 rw [List.getElem?_append] at h
 split at h
 ·rw [List.getElem?_replicate] at h; split at h <;> simp at h
 ·rename_i hj
  rw [List.length_replicate] at h hj
  cases hk : j - 1 with
  | zero => rw [hk] at h; simp at h; exact ⟨by omega, h.symm⟩
  | succ k => rw [hk] at h; rw [List.getElem?_cons_succ, List.getElem?_replicate] at h; split at h <;> simp at h
def FmtPre : List V → Prop
 | [.int .i64 n, .int .i64 b] => 0 ≤ n ∧ n < 400 ∧ b = 10
 | _ => False
abbrev FmtG : List V → V
 | [.int .i64 n, _] => .str (dig n.toNat)
 | _ => .tup []
theorem fmt_run0 : (fun τ => allA (List.range 50) fun n => callK (tabOf tabEk 100000) 40 f_strconv_FormatInt [.int .i64 (Int.ofNat (0 + n)), .int .i64 (.ofNat 10)] (start tabs) τ (isK (.str (dig (0 + n))))) = fun _ => doneA := by kernel_rfl
theorem fmt_run1 : (fun τ => allA (List.range 50) fun n => callK (tabOf tabEk 100000) 40 f_strconv_FormatInt [.int .i64 (Int.ofNat (50 + n)), .int .i64 (.ofNat 10)] (start tabs) τ (isK (.str (dig (50 + n))))) = fun _ => doneA := by kernel_rfl
theorem fmt_run2 : (fun τ => allA (List.range 50) fun n => callK (tabOf tabEk 100000) 40 f_strconv_FormatInt [.int .i64 (Int.ofNat (100 + n)), .int .i64 (.ofNat 10)] (start tabs) τ (isK (.str (dig (100 + n))))) = fun _ => doneA := by kernel_rfl
theorem fmt_run3 : (fun τ => allA (List.range 50) fun n => callK (tabOf tabEk 100000) 40 f_strconv_FormatInt [.int .i64 (Int.ofNat (150 + n)), .int .i64 (.ofNat 10)] (start tabs) τ (isK (.str (dig (150 + n))))) = fun _ => doneA := by kernel_rfl
theorem fmt_run4 : (fun τ => allA (List.range 50) fun n => callK (tabOf tabEk 100000) 40 f_strconv_FormatInt [.int .i64 (Int.ofNat (200 + n)), .int .i64 (.ofNat 10)] (start tabs) τ (isK (.str (dig (200 + n))))) = fun _ => doneA := by kernel_rfl
theorem fmt_run5 : (fun τ => allA (List.range 50) fun n => callK (tabOf tabEk 100000) 40 f_strconv_FormatInt [.int .i64 (Int.ofNat (250 + n)), .int .i64 (.ofNat 10)] (start tabs) τ (isK (.str (dig (250 + n))))) = fun _ => doneA := by kernel_rfl
theorem fmt_run6 : (fun τ => allA (List.range 50) fun n => callK (tabOf tabEk 100000) 40 f_strconv_FormatInt [.int .i64 (Int.ofNat (300 + n)), .int .i64 (.ofNat 10)] (start tabs) τ (isK (.str (dig (300 + n))))) = fun _ => doneA := by kernel_rfl
theorem fmt_run7 : (fun τ => allA (List.range 50) fun n => callK (tabOf tabEk 100000) 40 f_strconv_FormatInt [.int .i64 (Int.ofNat (350 + n)), .int .i64 (.ofNat 10)] (start tabs) τ (isK (.str (dig (350 + n))))) = fun _ => doneA := by kernel_rfl
theorem fmt_run {k : Nat} (hk : k < 400) (τ : Tape) : ∃ r, callK (tabOf tabEk 100000) 40 f_strconv_FormatInt [.int .i64 (Int.ofNat k), .int .i64 (.ofNat 10)] (start tabs) τ (isK (.str (dig k))) = some r := by
 have step : ∀ (a : Nat), ((fun τ => allA (List.range 50) fun n => callK (tabOf tabEk 100000) 40 f_strconv_FormatInt [.int .i64 (Int.ofNat (a + n)), .int .i64 (.ofNat 10)] (start tabs) τ (isK (.str (dig (a + n))))) = fun _ => doneA) → a ≤ k → k < a + 50 →
   ∃ r, callK (tabOf tabEk 100000) 40 f_strconv_FormatInt [.int .i64 (Int.ofNat k), .int .i64 (.ofNat 10)] (start tabs) τ (isK (.str (dig k))) = some r := by
  intro a h h1 h2
  have := allA_run h (x := k - a) (List.mem_range.2 (by omega)) τ
  rwa [show a + (k - a) = k by omega] at this
 by_cases h0 : k < 50
 ·exact step 0 fmt_run0 (by omega) (by omega)
 by_cases h1 : k < 100
 ·exact step 50 fmt_run1 (by omega) (by omega)
 by_cases h2 : k < 150
 ·exact step 100 fmt_run2 (by omega) (by omega)
 by_cases h3 : k < 200
 ·exact step 150 fmt_run3 (by omega) (by omega)
 by_cases h4 : k < 250
 ·exact step 200 fmt_run4 (by omega) (by omega)
 by_cases h5 : k < 300
 ·exact step 250 fmt_run5 (by omega) (by omega)
 by_cases h6 : k < 350
 ·exact step 300 fmt_run6 (by omega) (by omega)
 exact step 350 fmt_run7 (by omega) (by omega)
theorem p_fmt : ∀ base w0, PrimOk PG base w0 f_strconv_FormatInt (outP (RG tabs FmtPre FmtG)) := by
 refine primOk_constG mixed_ok allk_ok (tabk_ok 100000) (by kernel_rfl) (N := 100000) (d := 40) tabs (by rw [tabs_len]; kernel_rfl) tabs_plain ?_
 intro vs hp
 unfold FmtPre at hp
 split at hp
 ·rename_i n b
  obtain ⟨h1, h2, rfl⟩ := hp
  obtain ⟨k, rfl⟩ := Int.eq_ofNat_of_zero_le h1
  exact ⟨rfl, fun τ => fmt_run (k := k) (by omega) τ⟩
 ·exact hp.elim
def ItoPre : List V → Prop
 | [.int .i64 n] => 0 ≤ n ∧ n < 100
 | _ => False
abbrev ItoG : List V → V
 | [.int .i64 n] => .str (dig n.toNat)
 | _ => .tup []
theorem ito_run : (fun τ => allA (List.range 100) fun n => callK (tabOf tabEk 100000) 40 f_strconv_Itoa [.int .i64 (Int.ofNat n)] (start (List.replicate 6 none)) τ (isK (.str (dig n)))) = fun _ => doneA := by kernel_rfl
theorem p_itoa : ∀ base w0, PrimOk PG base w0 f_strconv_Itoa (outP (RV ItoPre ItoG)) := by
 refine primOk_const mixed_ok allk_ok (tabk_ok 100000) (by kernel_rfl) (N := 100000) (d := 40) 6 (Nat.le_of_eq (by kernel_rfl)) ?_
 intro vs hp
 unfold ItoPre at hp
 split at hp
 ·rename_i n
  obtain ⟨h1, h2⟩ := hp
  obtain ⟨k, rfl⟩ := Int.eq_ofNat_of_zero_le h1
  exact ⟨rfl, fun τ => allA_run ito_run (x := k) (List.mem_range.2 (by omega)) τ⟩
 ·exact hp.elim
def a1 : Bs := [104, 116, 116, 112, 115, 58, 47, 47, 97]
def a2 : Bs := [104, 116, 116, 112, 58, 47, 47, 98, 58, 53]
def a3 : Bs := [100, 97, 116, 97, 58, 120]
def org (s : Bs) : V := bif eqB s a1 then .agg [.str [104, 116, 116, 112, 115], .str [97], .int .i64 443, .bool false] else bif eqB s a2 then .agg [.str [104, 116, 116, 112], .str [98], .int .i64 5, .bool false] else .agg [.str [], .str [], .int .i64 0, .bool true]
def orgT (s : Bs) : Bs := bif eqB s a1 then a1 else bif eqB s a2 then a2 else [110, 117, 108, 108]
def Adr (s : Bs) : Prop := s = a1 ∨ s = a2 ∨ s = a3
def OfPre : List V → Prop
 | [.str s] => Adr s
 | _ => False
abbrev OfG : List V → V
 | [.str s] => org s
 | _ => .tup []
theorem of_run : (fun τ => allA [a1, a2, a3] fun s => callK (tabOf tabEk 100000) 40 f_law21_of [.str s] (start (List.replicate 6 none)) τ (isK (org s))) = fun _ => doneA := by kernel_rfl
theorem p_law21_of : ∀ base w0, PrimOk PG base w0 f_law21_of (outP (RV OfPre OfG)) := by
 refine primOk_const mixed_ok allk_ok (tabk_ok 100000) (by kernel_rfl) (N := 100000) (d := 40) 6 (Nat.le_of_eq (by kernel_rfl)) ?_
 intro vs hp
 unfold OfPre at hp
 split at hp
 ·rename_i s
  exact ⟨rfl, fun τ => allA_run of_run (x := s) (by rcases hp with rfl | rfl | rfl <;> simp) τ⟩
 ·exact hp.elim
def TxtPre : List V → Prop
 | [o] => ∃ s, Adr s ∧ o = org s
 | _ => False
def unorg : V → Bs
 | .agg [.str s, .str h, .int _ p, .bool b] => bif b then [110, 117, 108, 108] else bif eqB h [97] then a1 else a2
 | _ => []
abbrev TxtG : List V → V
 | [o] => .str (unorg o)
 | _ => .tup []
theorem txt_run : (fun τ => allA [a1, a2, a3] fun s => callK (tabOf tabEk 100000) 40 f_origin_Text [org s] (start (List.replicate 6 none)) τ (isK (.str (unorg (org s))))) = fun _ => doneA := by kernel_rfl
theorem unorg_org {s : Bs} (h : Adr s) : unorg (org s) = orgT s := by rcases h with rfl | rfl | rfl <;> decide
theorem flat_org (s : Bs) : flat (org s) = true := by
 unfold org
 cases eqB s a1 <;> cases eqB s a2 <;> rfl
theorem p_origin_Text : ∀ base w0, PrimOk PG base w0 f_origin_Text (outP (RV TxtPre TxtG)) := by
 refine primOk_const mixed_ok allk_ok (tabk_ok 100000) (by kernel_rfl) (N := 100000) (d := 40) 6 (Nat.le_of_eq (by kernel_rfl)) ?_
 intro vs hp
 unfold TxtPre at hp
 split at hp
 ·rename_i o
  obtain ⟨s, hs, rfl⟩ := hp
  exact ⟨by simp [flat_org], fun τ => allA_run txt_run (x := s) (by rcases hs with rfl | rfl | rfl <;> simp) τ⟩
 ·exact hp.elim
end Go.Am.X

