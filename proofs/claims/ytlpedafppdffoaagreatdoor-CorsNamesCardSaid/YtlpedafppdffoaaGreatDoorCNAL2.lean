/- The abstract machine, printed functions of the program, and what they are shown to be. -/
import Derived.Test.YtlpedafppdffoaaGreatDoorCNAL1
import Derived.Test.YtlpedafppdffoaaGreatDoorCNAM4
import Derived.Test.YtlpedafppdffoaaGreatDoorCNAOk
set_option linter.unusedSimpArgs false
set_option linter.unusedVariables false
set_option linter.unusedSectionVars false
set_option maxRecDepth 100000
namespace Go.Am.X
def Letters (s : Bs) : Prop := ∀ x ∈ s, 97 ≤ x.toNat ∧ x.toNat ≤ 122
def Blanks (a : Bs) : Prop := ∀ x ∈ a, tight x = true
def Firm (p : Bs) : Prop := ∃ x t y u, p = x :: t ∧ p = u ++ [y] ∧ tight x = false ∧ tight y = false
theorem drop_blanks : ∀ (a r : Bs), Blanks a → (a ++ r).dropWhile tight = r.dropWhile tight := by
 intro a
 induction a with
 | nil => intro r _; rfl
 | cons x a ih => intro r h; rw [List.cons_append, List.dropWhile_cons, if_pos (h x (by simp)), ih r (fun y hy => h y (by simp [hy]))]
theorem trim_firm (a p b : Bs) (ha : Blanks a) (hb : Blanks b) (hp : Firm p) : trimB tight (a ++ p ++ b) = p := by
 obtain ⟨x, t, y, u, h1, h2, h3, h4⟩ := hp
 unfold trimB
 have hbr : Blanks b.reverse := fun z hz => hb z (by simpa using hz)
 have e1 : (a ++ p ++ b).reverse = b.reverse ++ (y :: (u.reverse ++ a.reverse)) := by rw [h2]; simp
 rw [e1, drop_blanks _ _ hbr, List.dropWhile_cons, if_neg (by rw [h4]; decide)]
 have e2 : (y :: (u.reverse ++ a.reverse)).reverse = a ++ p := by rw [h2]; simp
 rw [e2, drop_blanks _ _ ha, h1, List.dropWhile_cons, if_neg (by rw [h3]; decide)]
theorem tight_letter {x : UInt8} (h : 97 ≤ x.toNat ∧ x.toNat ≤ 122) : tight x = false := by
 have h9 : x ≠ 9 := fun e => by subst e; revert h; decide
 have h32 : x ≠ 32 := fun e => by subst e; revert h; decide
 simp [tight, h9, h32]
end Go.Am.X

namespace Go.Am.X
end Go.Am.X

namespace Go.Am.X
def SplitOk (c : CallK) (name : Bs) (hs : List (Bs × Bs)) : Prop := ∀ (v : V) (H : Heap), WF H → Rd H 2 v hs.length (hcells hs) → ∀ τ,
  ∃ v' H' τ', Own H' H.size 1 v' (splitT name hs).length ((splitT name hs).map V.str) ∧ (splitT name hs).length ≤ 4294967296 ∧ Gr H.size H H' ∧ ∀ q, c f_headers_Split [v, .str name] H τ q = q (.tup [v', .bool (decide (0 < (sel name hs).length))]) H' τ'
abbrev GetOk' (c : CallK) (name : Bs) (hs : List (Bs × Bs)) : Prop := ∀ (v : V) (H : Heap), WF H → Rd H 2 v hs.length (hcells hs) → ∀ τ,
  ∃ H' τ', Gr H.size H H' ∧ ∀ q, c f_headers_Get [v, .str name] H τ q = q (.tup [.str (getT name hs), .bool (decide (0 < (sel name hs).length))]) H' τ'
abbrev StripOk' (c : CallK) : Prop := ∀ (s : Bs), s.length < 9223372036854775807 → ∀ (H : Heap), WF H → ∀ τ, ∃ H' τ', Gr H.size H H' ∧ ∀ q, c f_infra_Strip [.str s] H τ q = q (.str (strip s)) H' τ'
abbrev CutOk (c : CallK) (x : UInt8) : Prop := ∀ (s : Bs), s.length < 9223372036854775807 → ∀ H τ q, c f_strings_Cut [.str s, .str [x]] H τ q = q (match cutB x s with | some (a, b) => .tup [.str a, .str b, .bool true] | none => .tup [.str s, .str [], .bool false]) H τ
abbrev IntOk (c : CallK) : Prop := ∀ (s : Bs), s.length < 9223372036854775807 → ∀ H τ q, c f_infra_Int [.str s] H τ q = q (.tup [.int .i64 (intB s).1, .bool (intB s).2]) H τ
abbrev C (N d : Nat) : CallK := callK (tabOf tabE N) d
theorem C_nat (N d : Nat) : CallNat (C N d) := tab_nat N d
section
variable {N : Nat} (hN : 9223372036854775807 < N)
include hN
theorem d_asciiSet_contains (d : Nat) (cut : Bs) {id : Nat} {H : Heap} (hc : H.cells? id = some (mark (repl 256 [.bool false]) cut)) (x : UInt8) (τ : Tape) (q : KV) : C N (d + 1) f_asciiSet_contains [.ptr id 0, .int .u8 (x.toNat : Int)] H τ q = q (.bool (cut.contains x)) H τ := by
 have hr : (repl 256 [V.bool false]).length = 256 := by rw [repl_length]; rfl
 have hg : ∀ i, i < 256 → (repl 256 [V.bool false])[i]? = some (.bool false) := fun i hi => by
  rw [repl_one, List.getElem?_replicate, if_pos hi]
 have := mark_get cut (repl 256 [V.bool false]) x hr (fun i hi => ⟨false, hg i hi⟩) false (hg _ (u8_lt x))
 exact s81_eval (C N d) N hc (by simpa using this) τ q
theorem d_strings_trimLeftASCII (d : Nat) (hd : 2 ≤ d) (cut s : Bs) (id : Nat) (H : Heap) (hs : s.length < 9223372036854775807) (hc : H.cells? id = some (mark (repl 256 [.bool false]) cut)) (τ : Tape) (q : KV) : C N d f_strings_trimLeftASCII [.str s, .ptr id 0] H τ q = q (.str (s.dropWhile cut.contains)) H τ := by
 obtain ⟨d, rfl⟩ : ∃ e, d = e + 1 + 1 := ⟨d - 2, by omega⟩
 show s_strings_trimLeftASCII (C N (d + 1)) N (.str s) (.ptr id 0) H τ q = _
 simp only [s_strings_trimLeftASCII]
 rw [trimL_loop (C N (d + 1)) N cut.contains (fun x τ q => d_asciiSet_contains hN d cut hc x τ q) _ s N _ τ (by omega) (by simp [T.get_set]) (by simp [T.get_set])]
 simp only [blockK, Nat.beq_refl, cond_true, seqK, s_strings_trimLeftASCII_j0, getK_set, ↓reduceIte]
theorem d_strings_trimRightASCII (d : Nat) (hd : 2 ≤ d) (cut s : Bs) (id : Nat) (H : Heap) (hs : s.length < 9223372036854775807) (hc : H.cells? id = some (mark (repl 256 [.bool false]) cut)) (τ : Tape) (q : KV) : C N d f_strings_trimRightASCII [.str s, .ptr id 0] H τ q = q (.str (s.reverse.dropWhile cut.contains).reverse) H τ := by
 obtain ⟨d, rfl⟩ : ∃ e, d = e + 1 + 1 := ⟨d - 2, by omega⟩
 show s_strings_trimRightASCII (C N (d + 1)) N (.str s) (.ptr id 0) H τ q = _
 simp only [s_strings_trimRightASCII]
 rw [trimR_loop (C N (d + 1)) N cut.contains (fun x τ q => d_asciiSet_contains hN d cut hc x τ q) _ s.reverse N _ τ (by simpa using hs) (by simp; omega) (by simp [T.get_set]) (by simp [T.get_set])]
 simp only [blockK, Nat.beq_refl, cond_true, seqK, s_strings_trimRightASCII_j0, getK_set, ↓reduceIte]
theorem d_strings_Trim (d : Nat) (hd : 3 ≤ d) (cut : Bs) (h2 : 2 ≤ cut.length) (h3 : cut.length < 9223372036854775807) (ha : ∀ x ∈ cut, x.toNat < 128) : TrimOk (C N d) cut := by
 intro s hs H hw τ q
 obtain ⟨d, rfl⟩ : ∃ e, d = e + 1 := ⟨d - 1, by omega⟩
 refine s_strings_Trim_ret (C N d) N (Nat.le_of_lt hN) cut s h2 h3 hs H hw (fun H hw τ q => ?_) (fun s id H hs hc τ q => d_strings_trimLeftASCII hN d (by omega) cut s id H hs hc τ q) (fun s id H hs hc τ q => d_strings_trimRightASCII hN d (by omega) cut s id H hs hc τ q) τ q
 obtain ⟨d, rfl⟩ : ∃ e, d = e + 1 := ⟨d - 1, by omega⟩
 exact s_strings_makeASCIISet_ret (C N d) N (Nat.le_of_lt hN) cut ha h3 H hw τ q
theorem d_strings_Trima (d : Nat) (hd : 3 ≤ d) : TrimOk (C N d) [9, 32] := d_strings_Trim hN d hd _ (by decide) (by decide) (by decide)
theorem d_infra_Strip (d : Nat) (hd : 4 ≤ d) : StripOk (C N d) := by
 intro s hs H hw τ q
 obtain ⟨d, rfl⟩ : ∃ e, d = e + 1 := ⟨d - 1, by omega⟩
 exact s_infra_Strip_ret (C N d) N (d_strings_Trim hN d (by omega) [9, 10, 12, 13, 32] (by decide) (by decide) (by decide)) s hs H hw τ q
theorem d42' (d : Nat) (hd : 4 ≤ d) : StripOk' (C N d) := by
 intro s hs H hw τ
 obtain ⟨H', k1, k2⟩ := d_infra_Strip hN d hd s hs H hw τ retK
 exact ⟨H', τ, k1, fun q => (C_nat N d).mk k2 q⟩
theorem d_infra_Lower (d : Nat) (hd : 3 ≤ d) : LowOk (C N d) := by
 intro s hs H hw τ q
 obtain ⟨d, rfl⟩ : ∃ e, d = e + 1 + 1 + 1 := ⟨d - 3, by omega⟩
 obtain ⟨H', τ', k1, k2⟩ := s_infra_mapped_ret (C N (d + 1)) N (Nat.le_of_lt hN) s hs H hw (fun x H τ q => s69_eval (C N d) N x H τ q) τ (fun v0 H1 τ2 => q v0 H1 τ2)
 exact ⟨H', τ', k1, k2⟩
theorem d_headers_is (d : Nat) (hd : 4 ≤ d) (name : Bs) (hm : name.length ≤ 140737488355328) (n v : Bs) (hn : n.length ≤ 140737488355328) (H : Heap) (hw : WF H) (τ : Tape) (q : KV) : ∃ H' τ', Gr H.size H H' ∧ C N d f_headers_is [.agg [.str n, .str v], .str name] H τ q = q (.bool (lower n == lower name)) H' τ' := by
 obtain ⟨d, rfl⟩ : ∃ e, d = e + 1 := ⟨d - 1, by omega⟩
 exact s_headers_is_ret (C N d) N (d_infra_Lower hN d (by omega)) n v name hn hm H hw τ q
end
structure Small (hs : List (Bs × Bs)) : Prop where
 len : hs.length ≤ 1000
 all : ∀ h ∈ hs, h.1.length ≤ 10000 ∧ h.2.length ≤ 10000
section
variable {N : Nat} (hN : 9223372036854775807 < N)
include hN
omit hN in
theorem joinT_length (sep : Bs) (M : Nat) : ∀ (l : List Bs), (∀ x ∈ l, x.length ≤ M) → (joinT sep l).length ≤ l.length * (M + sep.length) := by
 intro l
 induction l with
 | nil => intro _; simp [joinT]
 | cons x l ih =>
  intro h
  have h1 := h x (by simp)
  have h2 := ih (fun y hy => h y (by simp [hy]))
  simp only [joinT, List.length_append, List.length_cons, Nat.succ_mul]
  omega
omit hN in
theorem joinB_length (sep : Bs) (M : Nat) (l : List Bs) (h : ∀ x ∈ l, x.length ≤ M) : (joinB sep l).length ≤ l.length * (M + sep.length) := by
 cases l with
 | nil => simp [joinB]
 | cons x l =>
  have h1 := h x (by simp)
  have h2 := joinT_length sep M l (fun y hy => h y (by simp [hy]))
  simp only [joinB, List.length_append, List.length_cons, Nat.succ_mul]
  omega
omit hN in
theorem getT_small {hs : List (Bs × Bs)} (h : Small hs) (name : Bs) : (getT name hs).length ≤ 10002000 := by
 have h1 : (sel name hs).length ≤ 1000 := by
  have := h.len
  simp only [sel, List.length_map]
  have := List.length_filter_le (fun h : Bs × Bs => lower h.1 == lower name) hs
  omega
 have h2 := joinB_length [44, 32] 10000 (sel name hs) (fun x hx => by
  simp only [sel, List.mem_map, List.mem_filter] at hx
  obtain ⟨y, ⟨hy, _⟩, rfl⟩ := hx
  exact (h.all y hy).2)
 have h3 : (sel name hs).length * (10000 + ([44, 32] : Bs).length) ≤ 1000 * 10002 := Nat.mul_le_mul h1 (by simp)
 unfold getT
 omega
theorem d_headers_Get (d : Nat) (hd : 5 ≤ d) (name : Bs) (hm : name.length ≤ 140737488355328) {hs : List (Bs × Bs)} (h : Small hs) : GetOk (C N d) name hs := by
 intro v H hw hr τ q
 obtain ⟨d, rfl⟩ : ∃ e, d = e + 1 := ⟨d - 1, by omega⟩
 obtain ⟨d, rfl⟩ : ∃ e, d = e + 1 := ⟨d - 1, by omega⟩
 exact s_headers_Get_ret (C N (d + 1)) N (Nat.le_of_lt hN) name hm hs (by have := h.len; omega) (fun x hx => by have := (h.all x hx).1; omega) (by have := getT_small h name; omega) (fun _ _ _ _ => rfl)
  (fun n v hn H hw τ q => d_headers_is hN (d + 1) (by omega) name hm n v hn H hw τ q) v H hw hr τ q
theorem d20' (d : Nat) (hd : 5 ≤ d) (name : Bs) (hm : name.length ≤ 140737488355328) {hs : List (Bs × Bs)} (h : Small hs) : GetOk' (C N d) name hs := by
 intro v H hw hr τ
 obtain ⟨H', τ', k1, k2⟩ := d_headers_Get hN d hd name hm h v H hw hr τ retK
 exact ⟨H', τ', k1, fun q => (C_nat N d).mk k2 q⟩
theorem d_headers_Split (d : Nat) (hd : 6 ≤ d) (name : Bs) (hm : name.length ≤ 140737488355328) {hs : List (Bs × Bs)} (h : Small hs) : SplitOk (C N d) name hs := by
 intro v H hw hr τ
 obtain ⟨d, rfl⟩ : ∃ e, d = e + 1 := ⟨d - 1, by omega⟩
 obtain ⟨v', H', τ', k1, k2, k3, k4⟩ := s_headers_Split_ret (C N d) N (Nat.le_of_lt hN) name hs (by have := getT_small h name; omega) (d_headers_Get hN d (by omega) name hm h) (d_strings_Trima hN d (by omega)) v H hw hr τ retK
 exact ⟨v', H', τ', k1, k2, k3, fun q => (C_nat N (d + 1)).mk (f := f_headers_Split) (vs := [v, .str name]) k4 q⟩
theorem d_strings_Cut (d : Nat) (hd : 4 ≤ d) (x : UInt8) : CutOk (C N d) x := by
 intro s hs H τ q
 obtain ⟨d, rfl⟩ : ∃ e, d = e + 1 + 1 + 1 + 1 := ⟨d - 4, by omega⟩
 exact s37_one (C N (d + 1 + 1 + 1)) N s x (fun H τ q => s66_one (C N (d + 1 + 1)) N s x hs (fun s x H τ q => s85_one (C N (d + 1)) N s x (fun _ _ _ _ => rfl) H τ q) H τ q) H τ q
theorem d_infra_Int (d : Nat) (hd : 1 ≤ d) : IntOk (C N d) := by
 intro s hs H τ q
 obtain ⟨d, rfl⟩ : ∃ e, d = e + 1 := ⟨d - 1, by omega⟩
 exact s67_eval (C N d) N (Nat.le_of_lt hN) s hs H τ q
end
end Go.Am.X

namespace Go.Am.X
theorem idxB_none (x : Nat) : ∀ (l : Bs) (i : Nat), (∀ y ∈ l, y.toNat ≠ x) → idxB x l i = -1 := by
 intro l
 induction l with
 | nil => intro i _; rfl
 | cons y l ih =>
  intro i h
  have e : Nat.beq y.toNat x = false := by
   cases hb : Nat.beq y.toNat x with
   | false => rfl
   | true => exact absurd (Nat.eq_of_beq_eq_true hb) (h y (by simp))
  simp only [idxB, e, cond_false]
  exact ih _ (fun z hz => h z (by simp [hz]))
theorem idxB_some (x : Nat) : ∀ (l : Bs) (i : Nat), (∃ y ∈ l, y.toNat = x) → 0 ≤ idxB x l i := by
 intro l
 induction l with
 | nil => intro i ⟨y, h, _⟩; simp at h
 | cons y l ih =>
  intro i h
  simp only [idxB, forceN_eq]
  cases hb : Nat.beq y.toNat x with
  | true => exact Int.natCast_nonneg _
  | false =>
   rw [cond_false]
   refine ih _ ?_
   obtain ⟨z, hz, e⟩ := h
   rcases List.mem_cons.1 hz with rfl | hz
   ·rw [e] at hb
    rw [Nat.beq_refl] at hb; cases hb
   ·exact ⟨z, hz, e⟩
abbrev Idx70 (c : CallK) : Prop := ∀ (s : Bs) (x : UInt8) H τ q, c f_strings_IndexByte [.str s, .int .u8 (x.toNat : Int)] H τ q = q (.int .i64 (idxB x.toNat s 0)) H τ
theorem s_strings_IndexByte_ret (c : CallK) (N : Nat) (h86 : ∀ (s : Bs) (x : UInt8) H τ q, c f_stringslite_IndexByte [.str s, .int .u8 (x.toNat : Int)] H τ q = q (.int .i64 (idxB x.toNat s 0)) H τ) (s : Bs) (x : UInt8) (H : Heap) (τ : Tape) (q : KV) :
  s_strings_IndexByte c N (.str s) (.int .u8 (x.toNat : Int)) H τ q = q (.int .i64 (idxB x.toNat s 0)) H τ := by
 simp only [s_strings_IndexByte, h86]
end Go.Am.X

namespace Go.Am.X
def tok (x : UInt8) : Bool := (decide (97 ≤ x.toNat) && decide (x.toNat ≤ 122)) || (decide (65 ≤ x.toNat) && decide (x.toNat ≤ 90)) || (decide (48 ≤ x.toNat) && decide (x.toNat ≤ 57)) || ([33, 35, 36, 37, 38, 39, 42, 43, 45, 46, 94, 95, 96, 124, 126] : Bs).contains x
def tokT (s : Bs) : Bool := s.all tok && !s.isEmpty
theorem l_infra_Token (c : CallK) (N : Nat) (h70 : Idx70 c) (s : Bs) (hs : s.length < 9223372036854775807) (H : Heap) (q : KV) : ∀ (l pre : Bs) (fr : T V) (τ : Tape) (m : Nat), s = pre ++ l → l.length < m → fr.get 0 = some (.str s) → fr.get 7 = some (.int .i64 (s.length : Int)) → fr.get 8 = some (.int .i64 (pre.length : Int)) →
  loopK (s_infra_Token_l1 c N) m ⟨fr, H⟩ τ (blockK 0 (seqK (s_infra_Token_j0 c N q) (endK [(.t 2)] q))) = q (.bool (l.all tok && !s.isEmpty)) H τ := by
 intro l
 induction l with
 | nil =>
  intro pre fr τ m he hm f0 f7 f8
  obtain ⟨m, rfl⟩ : ∃ j, m = j + 1 := ⟨m - 1, by omega⟩
  have e1 : decide ((pre.length : Int) < (s.length : Int)) = false := decide_eq_false (by rw [he]; simp)
  have e2 : (s != ([] : Bs)) = !s.isEmpty := by cases s <;> rfl
  rw [loopK_succ]
  simp only [s_infra_Token_l1, getK_mk f0, getK_mk f7, getK_mk f8, bin_lss, e1, condK_fn, seqK, blockK, Nat.beq_refl, cond_true, s_infra_Token_j0, getK_set, ↓reduceIte, bin_str, str_neq, someK_n, e2, List.all_nil, Bool.true_and]
 | cons x l ih =>
  intro pre fr τ m he hm f0 f7 f8
  obtain ⟨m, rfl⟩ : ∃ j, m = j + 1 := ⟨m - 1, by omega⟩
  have hl : pre.length < s.length := by rw [he]; simp
  have e1 : decide ((pre.length : Int) < (s.length : Int)) = true := decide_eq_true (by omega)
  have e2 : pStrIndex [.str s, .int .i64 (pre.length : Int)] = some (.int .u8 (x.toNat : Int)) := strIndex_mk (by rw [he]; simp)
  have e3 : wr .i64 ((pre.length : Int) + Int.ofNat 1) = ((pre ++ [x]).length : Int) := by
   rw [wr_id (by simp; omega) (by simp; omega)]; simp
  have yes : tok x = true → loopK (s_infra_Token_l1 c N) m ⟨(T.set (T.set (T.set (T.set (T.set .leaf 0 (.str s)) 7 (.int .i64 (s.length : Int))) 8 (.int .i64 (pre.length : Int))) 43 (.int .i64 ((pre ++ [x]).length : Int))) 8 (.int .i64 ((pre ++ [x]).length : Int))), H⟩ τ (blockK 0 (seqK (s_infra_Token_j0 c N q) (endK [(.t 2)] q))) = q (.bool ((x :: l).all tok && !s.isEmpty)) H τ := by
   intro ht
   rw [ih (pre ++ [x]) _ τ m (by rw [he]; simp) (by simp at hm; omega) (by simp [T.get_set]) (by simp [T.get_set]) (by simp [T.get_set]), List.all_cons, ht, Bool.true_and]
  rw [loopK_succ]
  have d1 : decide (Int.ofNat 97 ≤ (x.toNat : Int)) = decide (97 ≤ x.toNat) := by rw [decide_eq_decide]; simp; omega
  have d2 : decide ((x.toNat : Int) ≤ Int.ofNat 122) = decide (x.toNat ≤ 122) := by rw [decide_eq_decide]; simp; omega
  have d3 : decide (Int.ofNat 65 ≤ (x.toNat : Int)) = decide (65 ≤ x.toNat) := by rw [decide_eq_decide]; simp; omega
  have d4 : decide ((x.toNat : Int) ≤ Int.ofNat 90) = decide (x.toNat ≤ 90) := by rw [decide_eq_decide]; simp; omega
  have d5 : decide (Int.ofNat 48 ≤ (x.toNat : Int)) = decide (48 ≤ x.toNat) := by rw [decide_eq_decide]; simp; omega
  have d6 : decide ((x.toNat : Int) ≤ Int.ofNat 57) = decide (x.toNat ≤ 57) := by rw [decide_eq_decide]; simp; omega
  have step : ∀ (a1 a2 a3 a4 a5 a6 : Bool) (ix : Int), decide (97 ≤ x.toNat) = a1 → decide (x.toNat ≤ 122) = a2 → decide (65 ≤ x.toNat) = a3 → decide (x.toNat ≤ 90) = a4 → decide (48 ≤ x.toNat) = a5 → decide (x.toNat ≤ 57) = a6 → idxB x.toNat (bs [33, 35, 36, 37, 38, 39, 42, 43, 45, 46, 94, 95, 96, 124, 126]) 0 = ix →
    s_infra_Token_l1 c N ⟨fr, H⟩ τ (seqK (fun st τ => loopK (s_infra_Token_l1 c N) m st τ (blockK 0 (seqK (s_infra_Token_j0 c N q) (endK [(.t 2)] q)))) (blockK 0 (seqK (s_infra_Token_j0 c N q) (endK [(.t 2)] q)))) =
    bif ((a1 && a2) || (a3 && a4) || (a5 && a6)) || decide (0 ≤ ix) then loopK (s_infra_Token_l1 c N) m ⟨(T.set (T.set (T.set (T.set (T.set .leaf 0 (.str s)) 7 (.int .i64 (s.length : Int))) 8 (.int .i64 (pre.length : Int))) 43 (.int .i64 ((pre ++ [x]).length : Int))) 8 (.int .i64 ((pre ++ [x]).length : Int))), H⟩ τ (blockK 0 (seqK (s_infra_Token_j0 c N q) (endK [(.t 2)] q)))
    else q (.bool false) H τ := by
   intro a1 a2 a3 a4 a5 a6 ix h1 h2 h3 h4 h5 h6 hx
   simp only [s_infra_Token_l1, getK_mk f0, getK_mk f7, getK_mk f8, bin_lss, e1, condK_tn, e2, someK_n, bin_geq, bin_leq, d1, d2, d3, d4, d5, d6, h1, h2, h3, h4, h5, h6, un_not]
   have e9 : decide (ix < Int.ofNat 0) = !decide (0 ≤ ix) := by
    by_cases h : 0 ≤ ix
    ·rw [decide_eq_true h, decide_eq_false (by simp; omega)]; rfl
    ·rw [decide_eq_false h, decide_eq_true (by simp; omega)]; rfl
   have fin : ∀ (b : Bool), gK (.bool b) true (fun q' => q' (.int .u8 (x.toNat : Int)) H τ) H τ (fun v51 H52 τ53 =>
     gK (.bool b) true (fun q' => c f_strings_IndexByte [(.str (bs [33, 35, 36, 37, 38, 39, 42, 43, 45, 46, 94, 95, 96, 124, 126])), v51] H52 τ53 q') H52 τ53 fun v54 H55 τ56 =>
     gK (.bool b) true (fun q' => binK .lss v54 (.int .i64 (.ofNat 0)) fun v => q' v H55 τ56) H55 τ56 fun v57 H58 τ59 =>
     someK (pPick [(.bool b), v57, (.bool false)]) fun v60 =>
     condK v60
      (seqK (fun st τ => loopK (s_infra_Token_l1 c N) m st τ (blockK 0 (seqK (s_infra_Token_j0 c N q) (endK [(.t 2)] q)))) (blockK 0 (seqK (s_infra_Token_j0 c N q) (endK [(.t 2)] q))) .ret ⟨(T.set .leaf 2 (.bool false)), H58⟩ τ59)
      (binK .add (.int .i64 (pre.length : Int)) (.int .i64 (.ofNat 1)) fun v61 =>
     seqK (fun st τ => loopK (s_infra_Token_l1 c N) m st τ (blockK 0 (seqK (s_infra_Token_j0 c N q) (endK [(.t 2)] q)))) (blockK 0 (seqK (s_infra_Token_j0 c N q) (endK [(.t 2)] q))) .normal ⟨(T.set (T.set (T.set (T.set (T.set .leaf 0 (.str s)) 7 (.int .i64 (s.length : Int))) 8 (.int .i64 (pre.length : Int))) 43 v61) 8 v61), H58⟩ τ59)) =
     bif (!b) || decide (0 ≤ ix) then loopK (s_infra_Token_l1 c N) m ⟨(T.set (T.set (T.set (T.set (T.set .leaf 0 (.str s)) 7 (.int .i64 (s.length : Int))) 8 (.int .i64 (pre.length : Int))) 43 (.int .i64 ((pre ++ [x]).length : Int))) 8 (.int .i64 ((pre ++ [x]).length : Int))), H⟩ τ (blockK 0 (seqK (s_infra_Token_j0 c N q) (endK [(.t 2)] q)))
     else q (.bool false) H τ := by
    intro b
    cases b with
    | false =>
     simp only [gK_skip, gK_none, pick_mk, cond_false, someK_n, condK_fn, bin_add, e3, Bool.not_false, Bool.true_or, cond_true]
     rfl
    | true =>
     simp only [gK_do, retK, effK_n, h70, hx, bin_lss, e9, pick_mk, cond_true, someK_n, Bool.not_true, Bool.false_or]
     cases decide (0 ≤ ix) with
     | true => simp only [Bool.not_true, condK_fn, bin_add, e3, cond_true]; rfl
     | false => simp only [Bool.not_false, condK_tn, cond_false]; rfl
   have fin' := fin (!((a1 && a2) || (a3 && a4) || (a5 && a6)))
   rw [Bool.not_not] at fin'
   rw [← fin']
   cases a1 <;> cases a2 <;> cases a3 <;> cases a4 <;> cases a5 <;> cases a6 <;> simp only [bin_geq, bin_leq, d1, d2, d3, d4, d5, d6, h1, h2, h3, h4, h5, h6, un_not, gK_do, gK_do', gK_skip, gK_skip', gK_none, retK, effK_n, pick_mk, cond_true, cond_false, someK_n, Bool.and_true, Bool.and_false, Bool.true_and, Bool.false_and, Bool.or_true, Bool.or_false, Bool.true_or, Bool.false_or, Bool.not_true, Bool.not_false]
  rw [step _ _ _ _ _ _ _ rfl rfl rfl rfl rfl rfl rfl]
  have hix : decide (0 ≤ idxB x.toNat (bs [33, 35, 36, 37, 38, 39, 42, 43, 45, 46, 94, 95, 96, 124, 126]) 0) = ([33, 35, 36, 37, 38, 39, 42, 43, 45, 46, 94, 95, 96, 124, 126] : Bs).contains x := by
   by_cases h : ([33, 35, 36, 37, 38, 39, 42, 43, 45, 46, 94, 95, 96, 124, 126] : Bs).contains x = true
   ·rw [h]
    exact decide_eq_true (idxB_some _ _ _ ⟨x, List.contains_iff_mem.1 h, rfl⟩)
   ·have h' : ([33, 35, 36, 37, 38, 39, 42, 43, 45, 46, 94, 95, 96, 124, 126] : Bs).contains x = false := by simpa using h
    rw [h', decide_eq_false]
    have hn : idxB x.toNat (bs [33, 35, 36, 37, 38, 39, 42, 43, 45, 46, 94, 95, 96, 124, 126]) 0 = -1 := idxB_none _ _ _ (fun y hy e => h (List.contains_iff_mem.2 (by
     have : y = x := UInt8.toNat_inj.1 e
     subst this; exact hy)))
    rw [hn]; decide
  rw [hix]
  cases ht : tok x with
  | true =>
   have : ((decide (97 ≤ x.toNat) && decide (x.toNat ≤ 122)) || (decide (65 ≤ x.toNat) && decide (x.toNat ≤ 90)) || (decide (48 ≤ x.toNat) && decide (x.toNat ≤ 57)) || ([33, 35, 36, 37, 38, 39, 42, 43, 45, 46, 94, 95, 96, 124, 126] : Bs).contains x) = true := ht
   rw [this, cond_true]
   exact yes ht
  | false =>
   have : ((decide (97 ≤ x.toNat) && decide (x.toNat ≤ 122)) || (decide (65 ≤ x.toNat) && decide (x.toNat ≤ 90)) || (decide (48 ≤ x.toNat) && decide (x.toNat ≤ 57)) || ([33, 35, 36, 37, 38, 39, 42, 43, 45, 46, 94, 95, 96, 124, 126] : Bs).contains x) = false := ht
   rw [this, cond_false, List.all_cons, ht]
   simp
theorem s_infra_Token_ret (c : CallK) (N : Nat) (hN : 9223372036854775807 ≤ N) (h70 : Idx70 c) (s : Bs) (hs : s.length < 9223372036854775807) (H : Heap) (τ : Tape) (q : KV) : s_infra_Token c N (.str s) H τ q = q (.bool (tokT s)) H τ := by
 simp only [s_infra_Token, lenS_mk, someK_n]
 exact l_infra_Token c N h70 s hs H q s [] _ τ N rfl (by omega) (by simp [T.get_set]) (by simp [T.get_set]) (by simp [T.get_set])
end Go.Am.X

namespace Go.Am.X
abbrev Hd := Bs × Bs
def hv (h : Hd) : V := .agg [.str h.1, .str h.2]
theorem hcells_drop (pre l : List Hd) : (hcells (pre ++ l)).drop (pre.length * 2) = hcells l := by
 rw [hcells_append, ← hcells_length pre, List.drop_left]
theorem hcells_at (pre : List Hd) (h : Hd) (l : List Hd) : ((hcells (pre ++ h :: l)).drop (pre.length * 2)).take 2 = [.str h.1, .str h.2] := by
 rw [hcells_drop, hcells_cons]; rfl
theorem hcells_at0 (pre : List Hd) (h : Hd) (l : List Hd) : (hcells (pre ++ h :: l))[pre.length * 2 + 0]? = some (.str h.1) := by
 rw [← List.getElem?_drop, hcells_drop, hcells_cons]; rfl
theorem hcells_at1 (pre : List Hd) (h : Hd) (l : List Hd) : (hcells (pre ++ h :: l))[pre.length * 2 + 1]? = some (.str h.2) := by
 rw [← List.getElem?_drop, hcells_drop, hcells_cons]; rfl
theorem hd_at {H : Heap} {v : V} (pre : List Hd) (h : Hd) (l : List Hd) (hr : Rd H 2 v (pre ++ h :: l).length (hcells (pre ++ h :: l))) :
  ∃ id o, pSlIdx 2 [v, .int .i64 (pre.length : Int)] = some (.ptr id o) ∧ ∀ H', Rd H' 2 v (pre ++ h :: l).length (hcells (pre ++ h :: l)) → lLoadN 2 [.ptr id o] H' = some (hv h) ∧ lLoad1 [.ptr id o] H' = some (.str h.1) ∧ lLoad1 [.ptr id (o + 1)] H' = some (.str h.2) := by
 obtain ⟨id, o, k1, k2⟩ := hr.at (by omega) (i := pre.length) (by simp)
 refine ⟨id, o, k1, fun H' h' => ?_⟩
 obtain ⟨q1, q2⟩ := k2 H' _ h'
 rw [hcells_at] at q1
 exact ⟨q1, q2 0 _ (by omega) (hcells_at0 _ _ _), q2 1 _ (by omega) (hcells_at1 _ _ _)⟩
theorem put2 {H : Heap} {B : Nat} {v : V} {hs : List Hd} {n : Nat} (h : Apd H B 2 v n (hcells hs)) (hw : WF H) (hB : B ≤ H.size) (x : Hd) (hn : n ≤ 1000000) (τ : Tape) :
  ∃ w H1 v' H' τ', eBuildSlice 1 2 [(.str []), (.str [])] [(0, 2)] [.agg [.str x.1, .str x.2]] H τ = some (w, H1, τ) ∧ eAppend 2 32 [v, w] H1 τ = some (v', H', τ') ∧ Apd H' B 2 v' (n + 1) (hcells (hs ++ [x])) ∧ Gr B H H' ∧ (∀ id cs, H.cells? id = some cs → H'.cells? id = some cs) ∧ Gr B H H1 := by
 obtain ⟨v', H', τ', r1, r2, r3, r4⟩ := h.put (bytes := 32) hw hB [.str x.1, .str x.2] rfl rfl (by omega) (by omega) τ
 refine ⟨_, _, v', H', τ', rfl, r1, ?_, r3, r4, (Gr.new hw _ _ _).weaken hB⟩
 rw [hcells_append]; exact r2
end Go.Am.X

namespace Go.Am.X
theorem Apd.weaken {H : Heap} {B C z : Nat} {v : V} {n : Nat} {cs : List V} (h : Apd H C z v n cs) (hBC : B ≤ C) : Apd H B z v n cs := by
 rcases h with (h | ⟨id, e, room, fam, ver, pl, st, fr, h1, h2, h3, h4, h5, h6, h7⟩) | ⟨h1, h2, id, h3, h4⟩
 ·exact .inl (.inl h)
 ·exact .inl (.inr ⟨id, e, room, fam, ver, pl, st, fr, h1, h2, h3, h4, Nat.le_trans hBC h5, Nat.le_trans hBC h6, h7⟩)
 ·exact .inr ⟨h1, h2, id, h3, h4.weaken hBC⟩
end Go.Am.X

namespace Go.Am.X
section
variable {N : Nat} (hN : 9223372036854775807 < N)
include hN
end
end Go.Am.X

namespace Go.Am.X
abbrev NB : Nat := 9223372036854775808
theorem nb : 9223372036854775807 < NB := by decide
theorem tab_all (f : Nat) (d : Def) (h : tabF.get f = some d) (base : Base) (w0 : World) : DefOk PG base w0 f d := defs_ok (all_ok base w0) f d h
theorem primOk_E (d f : Nat) {R : List V → Heap → Out → Prop}
  (hR : ∀ vs H o, WF H → VsOk H vs → R vs H o → ∀ τ, ∃ v H' τ', C NB d f vs H τ retK = some (v, H', τ') ∧ Gr H.size H H' ∧ o.Met H v H') : ∀ base w0, PrimOk PG base w0 f (outP R) :=
 primOk_tab mixed_ok (tab_ok NB) tab_all d f hR
def strP (M : Nat) : List V → Prop | [.str s] => s.length ≤ M | _ => False
def strG (g : Bs → V) : List V → V | [.str s] => g s | _ => .tup []
abbrev RS (M : Nat) (g : Bs → V) := RV (strP M) (strG g)
theorem primS (d f M : Nat) (g : Bs → V) (hv : ∀ s H, VOk H (g s)) (h : ∀ s : Bs, s.length ≤ M → ∀ H, WF H → ∀ τ, ∃ H' τ', Gr H.size H H' ∧ ∀ q, C NB d f [.str s] H τ q = q (g s) H' τ') : ∀ base w0, PrimOk PG base w0 f (outP (RS M g)) := by
 refine primOk_E d f ?_
 rintro vs H o hw hvs ⟨hp, rfl⟩ τ
 unfold strP at hp
 split at hp
 ·rename_i s
  obtain ⟨H', τ', g1, k1⟩ := h s hp H hw τ
  exact ⟨_, H', τ', k1 retK, g1, rfl, hv s H⟩
 ·exact hp.elim
theorem callS {c : CallK} {f M : Nat} {g : Bs → V} (hc : ∀ vs H τ q, c f vs H τ q = effK (outP (RS M g) vs H τ) q) (s : Bs) (hs : s.length ≤ M) (H : Heap) (τ : Tape) (q : KV) : c f [.str s] H τ q = q (g s) H τ := RV_call hc (vs := [.str s]) hs H τ q
abbrev LowR := RS 140737488355328 fun s => .str (lower s)
theorem p_infra_Lower : ∀ base w0, PrimOk PG base w0 f_infra_Lower (outP LowR) := primS 3 _ _ _ (fun _ _ => trivial) fun s hs H hw τ => by
 obtain ⟨H', τ', g, k⟩ := d_infra_Lower nb 3 (by omega) s hs H hw τ retK
 exact ⟨H', τ', g, fun q => (C_nat NB 3).mk k q⟩
end Go.Am.X

namespace Go.Am.X
end Go.Am.X

namespace Go.Am.X
def RdH (H : Heap) (v : V) (hs : List Hd) : Prop := Rd H 2 v hs.length (hcells hs) ∧ Src H v
theorem hcells_inj : ∀ {a b : List Hd}, hcells a = hcells b → a = b := by
 intro a
 induction a with
 | nil => intro b h; cases b with
  | nil => rfl
  | cons y b => rw [hcells_cons] at h; cases h
 | cons x a ih => intro b h; cases b with
  | nil => rw [hcells_cons] at h; cases h
  | cons y b =>
   rw [hcells_cons, hcells_cons] at h
   simp only [List.cons.injEq, V.str.injEq] at h
   obtain ⟨h1, h2, h3⟩ := h
   rw [ih h3]
   obtain ⟨x1, x2⟩ := x
   obtain ⟨y1, y2⟩ := y
   simp only at h1 h2
   subst h1; subst h2; rfl
theorem RdH.uniq {H : Heap} {v : V} {a b : List Hd} (h : RdH H v a) (k : RdH H v b) : a = b := hcells_inj (h.1.uniq k.1).2
theorem RdH.gr {H H' : Heap} {B : Nat} {v : V} {hs : List Hd} (h : RdH H v hs) (hg : Gr B H H') (hw : WF H) (hB : H.size ≤ B) : RdH H' v hs := ⟨h.1.gr hg hw hB, h.2.gr hg hw hB⟩
def isNil : V → Bool | .nils => true | _ => false
def RH (Pre : List Hd → List V → Prop) (g : Bool → List Hd → List V → Out) (vs : List V) (H : Heap) (o : Out) : Prop := ∃ v l hs, vs = v :: l ∧ RdH H v hs ∧ Pre hs l ∧ o = g (isNil v) hs l
theorem RH_fun (Pre : List Hd → List V → Prop) (g : Bool → List Hd → List V → Out) : Fun1 (RH Pre g) := by
 rintro vs H o o' ⟨v, l, hs, rfl, h1, _, rfl⟩ ⟨v', l', hs', e, h2, _, rfl⟩
 cases e
 rw [h1.uniq h2]
def lstO (z n : Nat) (cs : List V) (mk : V → V) : Out := if n = 0 then .val (mk .nils) else .lst z n cs mk
theorem RH_lstO {c : CallK} {f : Nat} {Pre : List Hd → List V → Prop} {g : Bool → List Hd → List V → Out} (hc : ∀ vs H τ q, c f vs H τ q = effK (outP (RH Pre g) vs H τ) q) {v : V} {l : List V} {hs : List Hd} {H : Heap} {z n : Nat} {cs : List V} {mk : V → V} (h : RdH H v hs) (hp : Pre hs l) (hg : g (isNil v) hs l = lstO z n cs mk) (hw : WF H) (hlen : cs.length = n * z) (τ : Tape) :
  ∃ lv H' τ', Own H' H.size z lv n cs ∧ Gr H.size H H' ∧ ∀ q, c f (v :: l) H τ q = q (mk lv) H' τ' := outK_list hc (RH_fun _ _) ⟨v, l, hs, rfl, h, hp, hg.symm⟩ hw hlen τ
theorem Own.rdH {H : Heap} {B : Nat} {v : V} {hs : List Hd} (h : Own H B 2 v hs.length (hcells hs)) : RdH H v hs := ⟨h.rd, h.src⟩
theorem hcells_vok (H : Heap) (hs : List Hd) : VsOk H (hcells hs) := by
 induction hs with
 | nil => trivial
 | cons h l ih => rw [hcells_cons]; exact ⟨trivial, trivial, ih⟩
theorem Got.met {H H' : Heap} {z n : Nat} {v : V} {cs : List V} {mk : V → V} (h : Got H' H.size z v n cs) (h0 : n = 0 → v = .nils) (hmk : MkOk mk) (hcs : VsOk H cs) (hnil : VOk H (mk .nils)) : (lstO z n cs mk).Met H (mk v) H' := by
 unfold lstO
 by_cases hn : n = 0
 ·rw [if_pos hn, h0 hn]; exact ⟨rfl, hnil⟩
 ·rw [if_neg hn]
  rcases h with ⟨_, h, _⟩ | h
  ·exact absurd h hn
  ·exact ⟨hmk, hcs, v, rfl, h⟩
abbrev GetPre (hs : List Hd) : List V → Prop | [.str name] => Small hs ∧ name.length ≤ 140737488355328 | _ => False
end Go.Am.X

namespace Go.Am.X
def letB (n : Nat) : Bool := (decide (97 ≤ n) && decide (n ≤ 122)) || (decide (65 ≤ n) && decide (n ≤ 90))
def digB (n : Nat) : Bool := decide (48 ≤ n) && decide (n ≤ 57)
end Go.Am.X

namespace Go.Am.X
end Go.Am.X

namespace Go.Am.X
theorem someN : ∃ N : Nat, 9223372036854775807 < N := ⟨9223372036854775808, by decide⟩
theorem primRV {N : Nat} {l : List Row} (hl : RowsOk PG l) (d f : Nat) {Pre : List V → Prop} {g : List V → V} (hv : ∀ vs H, Pre vs → VOk H (g vs)) (h : ∀ vs, Pre vs → ∀ H, WF H → ∀ τ, ∃ H' τ', Gr H.size H H' ∧ ∀ q, CR l N d f vs H τ q = q (g vs) H' τ') : ∀ base w0, PrimOk PG base w0 f (outP (RV Pre g)) := by
 refine primOk_out mixed_ok hl N d f ?_
 rintro vs H o hw hvs ⟨hp, rfl⟩ τ
 obtain ⟨H', τ', g1, k1⟩ := h vs hp H hw τ
 exact ⟨_, H', τ', k1 retK, g1, rfl, hv vs H hp⟩
abbrev IsP (c : CallK) (f : Nat) (R : List V → Heap → Out → Prop) : Prop := ∀ vs H τ q, c f vs H τ q = effK (outP R vs H τ) q
abbrev TokR := RS 9223372036854775806 fun s => .bool (tokT s)
end Go.Am.X

namespace Go.Am.X
end Go.Am.X

namespace Go.Am.X
def LsH (H : Heap) (B : Nat) (v : V) (hs : List Hd) : Prop := Own H B 2 v hs.length (hcells hs) ∧ (hs = [] → v = .nils)
theorem LsH.nil (H : Heap) (B : Nat) : LsH H B .nils [] := ⟨Own.nil _ _ _, fun _ => rfl⟩
theorem LsH.gr {H H' : Heap} {B C : Nat} {v : V} {hs : List Hd} (h : LsH H B v hs) (hg : Gr C H H') (hw : WF H) (hC : H.size ≤ C) : LsH H' B v hs := ⟨h.1.gr hg hw hC, h.2⟩
theorem LsH.rdH {H : Heap} {B : Nat} {v : V} {hs : List Hd} (h : LsH H B v hs) : RdH H v hs := ⟨h.1.rd, h.1.src⟩
theorem LsH.weaken {H : Heap} {B C : Nat} {v : V} {hs : List Hd} (h : LsH H C v hs) (hBC : B ≤ C) : LsH H B v hs := by
 refine ⟨?_, h.2⟩
 rcases h.1 with h | ⟨id, e, room, fam, ver, pl, st, fr, h1, h2, h3, h4, h5, h6, h7⟩
 ·exact .inl h
 ·exact .inr ⟨id, e, room, fam, ver, pl, st, fr, h1, h2, h3, h4, Nat.le_trans hBC h5, Nat.le_trans hBC h6, h7⟩
theorem LsH.put {H : Heap} {B : Nat} {v : V} {hs : List Hd} (h : LsH H B v hs) (hw : WF H) (hB : B ≤ H.size) (x : Hd) (hn : hs.length ≤ 1000000) (τ : Tape) :
  ∃ w H1 v' H' τ', eBuildSlice 1 2 [(.str []), (.str [])] [(0, 2)] [hv x] H τ = some (w, H1, τ) ∧ eAppend 2 32 [v, w] H1 τ = some (v', H', τ') ∧ LsH H' B v' (hs ++ [x]) ∧ Gr B H H' ∧ (∀ id cs, H.cells? id = some cs → H'.cells? id = some cs) ∧ (∀ id cs, H.cells? id = some cs → H1.cells? id = some cs) := by
 obtain ⟨w, H1, v', H', τ', r1, r2, r3, r4, r5, r6⟩ := put2 h.1.apd hw hB x hn τ
 have e : H1 = H.new [.str x.1, .str x.2] (1 * 2) false := by
  have : eBuildSlice 1 2 [(.str []), (.str [])] [(0, 2)] [.agg [.str x.1, .str x.2]] H τ = some (.sl H.size 0 1 1 none 2, H.new [.str x.1, .str x.2] (1 * 2) false, τ) := rfl
  rw [this] at r1
  simp only [Option.some.injEq, Prod.mk.injEq] at r1
  exact r1.2.1.symm
 refine ⟨w, H1, v', H', τ', r1, r2, ⟨?_, fun h => by simp at h⟩, r4, r5, fun id cs hc => ?_⟩
 ·have := r3.own (by omega)
  simpa using this
 ·rw [e]; exact (Gr.new hw _ _ _).cells hw (Nat.le_refl _) hc
theorem LsH.met {H H' : Heap} {v : V} {hs : List Hd} {mk : V → V} (h : LsH H' H.size v hs) (hmk : MkOk mk) (hnil : VOk H (mk .nils)) : (lstO 2 hs.length (hcells hs) mk).Met H (mk v) H' := by
 refine Got.met (h.1.apd.got) (fun h0 => h.2 (List.eq_nil_of_length_eq_zero h0)) hmk (hcells_vok _ _) hnil
end Go.Am.X

namespace Go.Am.X
theorem primRH {N : Nat} {l : List Row} (hl : RowsOk PG l) (d f : Nat) {Pre : List Hd → List V → Prop} {g : Bool → List Hd → List V → Out} (h : ∀ hs args, Pre hs args → ∀ lv H, WF H → RdH H lv hs → ∀ τ, ∃ v H' τ', Gr H.size H H' ∧ (g (isNil lv) hs args).Met H v H' ∧ ∀ q, CR l N d f (lv :: args) H τ q = q v H' τ') : ∀ base w0, PrimOk PG base w0 f (outP (RH Pre g)) := by
 refine primOk_out mixed_ok hl N d f ?_
 rintro vs H o hw hvs ⟨lv, args, hs, rfl, hr, hp, rfl⟩ τ
 obtain ⟨v, H', τ', g1, hm, k1⟩ := h hs args hp lv H hw hr τ
 exact ⟨_, H', τ', k1 retK, g1, hm⟩
theorem RdH.nils {H : Heap} {hs : List Hd} (h : RdH H .nils hs) : hs = [] := by
 rcases h.1 with ⟨_, h0, _⟩ | ⟨_, _, _, _, _, e, _⟩
 ·exact List.eq_nil_of_length_eq_zero h0
 ·cases e
end Go.Am.X

namespace Go.Am.X
def partV (x : UInt8) (s : Bs) : V := match cutB x s with | some (a, b) => .tup [.str a, .str b, .bool true] | none => .tup [.str s, .str [], .bool false]
theorem partV_vok (x : UInt8) (s : Bs) (H : Heap) : VOk H (partV x s) := by
 unfold partV; split <;> exact ⟨trivial, trivial, trivial, trivial⟩
def begB (s p : Bs) : Bool := p.isPrefixOf s
theorem isPrefixOf_take : ∀ (s p : Bs), p.isPrefixOf s = (decide (p.length ≤ s.length) && (s.take p.length == p)) := by
 intro s p
 induction p generalizing s with
 | nil => simp
 | cons y p ih =>
  cases s with
  | nil => rfl
  | cons x s =>
   rw [List.isPrefixOf, ih s]
   simp only [List.length_cons, List.take_succ_cons]
   have e1 : decide (p.length + 1 ≤ s.length + 1) = decide (p.length ≤ s.length) := by simp
   have e2 : (x :: List.take p.length s == y :: p) = (x == y && (List.take p.length s == p)) := rfl
   have e3 : (y == x) = (x == y) := BEq.comm
   rw [e1, e2, e3]
   cases (x == y) <;> cases decide (p.length ≤ s.length) <;> simp
abbrev intV (s : Bs) : V := .tup [.int .i64 (intB s).1, .bool (intB s).2]
abbrev IntR := RS 9223372036854775806 intV
abbrev RStripR := RS 9223372036854775806 fun s => .str (strip s)
end Go.Am.X

namespace Go.Am.X
def RdS (H : Heap) (v : V) (ss : List Bs) : Prop := Rd H 1 v ss.length (ss.map V.str) ∧ Src H v
theorem RdS.gr {H H' : Heap} {B : Nat} {v : V} {ss : List Bs} (h : RdS H v ss) (hg : Gr B H H') (hw : WF H) (hB : H.size ≤ B) : RdS H' v ss := ⟨h.1.gr hg hw hB, h.2.gr hg hw hB⟩
theorem strs_vok (H : Heap) (ss : List Bs) : VsOk H (ss.map V.str) := by
 induction ss with
 | nil => trivial
 | cons h l ih => exact ⟨trivial, ih⟩
def LsS (H : Heap) (B : Nat) (v : V) (ss : List Bs) : Prop := Own H B 1 v ss.length (ss.map V.str) ∧ (ss = [] → v = .nils)
theorem LsS.nil (H : Heap) (B : Nat) : LsS H B .nils [] := ⟨Own.nil _ _ _, fun _ => rfl⟩
theorem LsS.gr {H H' : Heap} {B C : Nat} {v : V} {ss : List Bs} (h : LsS H B v ss) (hg : Gr C H H') (hw : WF H) (hC : H.size ≤ C) : LsS H' B v ss := ⟨h.1.gr hg hw hC, h.2⟩
theorem LsS.weaken {H : Heap} {B C : Nat} {v : V} {ss : List Bs} (h : LsS H C v ss) (hBC : B ≤ C) : LsS H B v ss := by
 refine ⟨?_, h.2⟩
 rcases h.1 with h | ⟨id, e, room, fam, ver, pl, st, fr, h1, h2, h3, h4, h5, h6, h7⟩
 ·exact .inl h
 ·exact .inr ⟨id, e, room, fam, ver, pl, st, fr, h1, h2, h3, h4, Nat.le_trans hBC h5, Nat.le_trans hBC h6, h7⟩
theorem LsS.put {H : Heap} {B : Nat} {v : V} {ss : List Bs} (h : LsS H B v ss) (hw : WF H) (hB : B ≤ H.size) (x : Bs) (hn : ss.length ≤ 4294967296) (τ : Tape) :
  ∃ w H1 v' H' τ', eBuildSlice 1 1 [(.str [])] [(0, 1)] [.str x] H τ = some (w, H1, τ) ∧ eAppend 1 16 [v, w] H1 τ = some (v', H', τ') ∧ LsS H' B v' (ss ++ [x]) ∧ Gr B H H' := by
 obtain ⟨w, H1, v', H', r1, r2, r3, r4, _⟩ := h.1.push (bytes := 16) hw hB (.str x) (.str []) rfl rfl (by omega) (by omega) τ
 refine ⟨w, H1, v', H', τ.tail, r1, r2, ⟨by simpa using r3, fun h => by simp at h⟩, r4⟩
theorem LsS.got {H : Heap} {B : Nat} {v : V} {ss : List Bs} (h : LsS H B v ss) : Got H B 1 v ss.length (ss.map V.str) := h.1.apd.got
theorem LsS.met {H H' : Heap} {v : V} {ss : List Bs} {mk : V → V} (h : LsS H' H.size v ss) (hmk : MkOk mk) (hnil : VOk H (mk .nils)) : (lstO 1 ss.length (ss.map V.str) mk).Met H (mk v) H' :=
 Got.met h.got (fun h0 => h.2 (List.eq_nil_of_length_eq_zero h0)) hmk (strs_vok _ _) hnil
theorem Small.pre {a b : List Hd} (h : Small (a ++ b)) : Small a := ⟨by have := h.len; simp at this; omega, fun x hx => h.all x (by simp [hx])⟩
theorem splitF_len : ∀ (n : Nat) (s : Bs), s.length ≤ n → ∀ (q : Bool) (cur : Bs), (splitF q cur s).1.length ≤ s.length := by
 intro n
 induction n with
 | zero =>
  intro s hn q cur
  obtain rfl := List.eq_nil_of_length_eq_zero (by omega : s.length = 0)
  simp [splitF]
 | succ n ih =>
  intro s hn q cur
  cases s with
  | nil => simp [splitF]
  | cons x r =>
   have hr : r.length ≤ n := by simp at hn; omega
   by_cases c34 : x = 34
   ·rw [splitF_quote q cur r c34]; have := ih r hr (!q) (cur ++ [x]); simp; omega
   ·cases q with
    | true =>
     by_cases c92 : x = 92
     ·cases r with
      | nil => rw [splitF_end cur c34 c92]; simp
      | cons y r' => rw [splitF_esc cur y r' c34 c92]; have := ih r' (by simp at hr; omega) true (cur ++ [x, y]); simp; omega
     ·rw [splitF_in cur r c34 c92]; have := ih r hr true (cur ++ [x]); simp; omega
    | false =>
     by_cases c44 : x = 44
     ·rw [splitF_comma cur r c34 c44]; have := ih r hr false []; simp; omega
     ·rw [splitF_out cur r c34 c44]; have := ih r hr false (cur ++ [x]); simp; omega
theorem piecesB_len (s : Bs) : (piecesB s).length ≤ s.length + 1 := by
 unfold piecesB
 have := splitF_len s.length s (Nat.le_refl _) false []
 simp; omega
abbrev SplitG (_ : Bool) (hs : List Hd) : List V → Out | [.str name] => lstO 1 (splitT name hs).length ((splitT name hs).map V.str) (fun v => .tup [v, .bool (decide (0 < (sel name hs).length))]) | _ => .val (.tup [])
theorem p_headers_Split : ∀ base w0, PrimOk PG base w0 f_headers_Split (outP (RH GetPre SplitG)) := by
 refine primOk_E 6 _ ?_
 rintro vs H o hw hvs ⟨v, l, hs, rfl, ⟨h1, h2⟩, hp, rfl⟩ τ
 unfold GetPre at hp
 split at hp
 ·rename_i name
  by_cases h0 : 0 < (sel name hs).length
  ·obtain ⟨v', H', τ', k1, _, k2, k3⟩ := d_headers_Split nb 6 (by omega) name hp.2 hp.1 v H hw h1 τ
   refine ⟨_, H', τ', k3 retK, k2, ?_⟩
   have eT : splitT name hs = piecesB (getT name hs) := if_pos h0
   exact LsS.met ⟨k1, fun h => by rw [eT] at h; simp [piecesB] at h⟩ (mkOk_bool _) ⟨trivial, trivial, trivial⟩
  ·have e0 : decide (0 < (sel name hs).length) = false := decide_eq_false h0
   have eT : splitT name hs = [] := if_neg h0
   obtain ⟨H', τ', g, k⟩ := d20' nb 5 (by omega) name hp.2 hp.1 v H hw h1 τ
   refine ⟨.tup [.nils, .bool false], H', τ', ?_, g, ?_⟩
   ·show s_headers_Split (C NB 5) NB v (.str name) H τ retK = _
    simp only [s_headers_Split, k, getK_set, ↓reduceIte, Nat.reduceEqDiff, someK_n, effK_n, retK, gK_do, gK_do', gK_skip, gK_skip', gK_none, pick_mk, cond_true, cond_false, condK_tn, condK_fn, bin_eql, bin_neq, bin_lss, bin_leq, bin_gtr, bin_geq, un_not, Bool.not_true, Bool.not_false, bin_str, lenS_mk, nle_l, nle_r, nle_n, nlt_l, nlt_r, nlt_n, neq_r, neq_n, nne_r, nne_n, ext0, ext1, ext30, ext31, ext32, bin_add, bin_sub, decide_true, decide_false, e0]
   ·show (lstO 1 (splitT name hs).length ((splitT name hs).map V.str) (fun v => V.tup [v, .bool (decide (0 < (sel name hs).length))])).Met H _ H'
    rw [eT, e0]; exact ⟨rfl, trivial, trivial, trivial⟩
 ·exact hp.elim
theorem k_Split {c : CallK} {f : Nat} (h : IsP c f (RH GetPre SplitG)) {hs : List Hd} (hS : Small hs) {name : Bs} (hm : name.length ≤ 140737488355328) {lv : V} {H : Heap} (hw : WF H) (hr : RdH H lv hs) (τ : Tape) :
  ∃ v' H' τ', Own H' H.size 1 v' (splitT name hs).length ((splitT name hs).map V.str) ∧ Gr H.size H H' ∧ ∀ q, c f [lv, .str name] H τ q = q (.tup [v', .bool (decide (0 < (sel name hs).length))]) H' τ' :=
 RH_lstO (l := [.str name]) h hr ⟨hS, hm⟩ rfl hw (by simp) τ
end Go.Am.X

namespace Go.Am.X
abbrev ltB (x y : Bs) : Prop := lessB x y = true
theorem lessB_cons (a b : UInt8) (x y : Bs) : lessB (a :: x) (b :: y) = (decide (a.toNat < b.toNat) || (decide (a.toNat = b.toNat) && lessB x y)) := by
 rw [lessB]
 have h1 : Nat.blt a.toNat b.toNat = decide (a.toNat < b.toNat) := by
  by_cases h : a.toNat < b.toNat
  ·rw [decide_eq_true h]; simp [Nat.blt]; omega
  ·rw [decide_eq_false h]; cases hb : Nat.blt a.toNat b.toNat with
   | false => rfl
   | true => exact absurd (Nat.le_of_ble_eq_true hb) h
 have h2 : Nat.beq a.toNat b.toNat = decide (a.toNat = b.toNat) := by
  by_cases h : a.toNat = b.toNat
  ·rw [decide_eq_true h, h]; exact Nat.beq_refl _
  ·rw [decide_eq_false h]; cases hb : Nat.beq a.toNat b.toNat with
   | false => rfl
   | true => exact absurd (Nat.eq_of_beq_eq_true hb) h
 rw [h1, h2]
theorem ltB_irrefl : ∀ (x : Bs), lessB x x = false := by
 intro x
 induction x with
 | nil => rfl
 | cons a x ih => rw [lessB_cons, ih]; simp
theorem ltB_no {x : Bs} (h : ltB x x) : False := by rw [ltB, ltB_irrefl] at h; cases h
theorem ltB_trans : ∀ (x y z : Bs), ltB x y → ltB y z → ltB x z := by
 intro x
 induction x with
 | nil =>
  intro y z h1 h2
  cases y with
  | nil => exact h2
  | cons b y => cases z with
   | nil => cases h2
   | cons c z => rfl
 | cons a x ih =>
  intro y z h1 h2
  cases y with
  | nil => cases h1
  | cons b y => cases z with
   | nil => cases h2
   | cons c z =>
    unfold ltB at *
    rw [lessB_cons, Bool.or_eq_true, Bool.and_eq_true, decide_eq_true_iff, decide_eq_true_iff] at h1 h2 ⊢
    rcases h1 with h1 | ⟨h1, h1'⟩ <;> rcases h2 with h2 | ⟨h2, h2'⟩
    ·exact .inl (by omega)
    ·exact .inl (by omega)
    ·exact .inl (by omega)
    ·exact .inr ⟨by omega, ih y z h1' h2'⟩
theorem ltB_tri : ∀ (x y : Bs), ltB x y ∨ x = y ∨ ltB y x := by
 intro x
 induction x with
 | nil => intro y; cases y with
  | nil => exact .inr (.inl rfl)
  | cons b y => exact .inl rfl
 | cons a x ih =>
  intro y
  cases y with
  | nil => exact .inr (.inr rfl)
  | cons b y =>
   unfold ltB
   rw [lessB_cons, lessB_cons, Bool.or_eq_true, Bool.and_eq_true, decide_eq_true_iff, decide_eq_true_iff, Bool.or_eq_true, Bool.and_eq_true, decide_eq_true_iff, decide_eq_true_iff]
   rcases Nat.lt_trichotomy a.toNat b.toNat with h | h | h
   ·exact .inl (.inl h)
   ·rcases ih y with k | k | k
    ·exact .inl (.inr ⟨h, k⟩)
    ·exact .inr (.inl (by rw [UInt8.toNat_inj.1 h, k]))
    ·exact .inr (.inr (.inr ⟨h.symm, k⟩))
   ·exact .inr (.inr (.inl h))
theorem lt_iff (x y : Bs) : x < y ↔ ltB x y := by
 induction x generalizing y with
 | nil => cases y with
  | nil => exact ⟨fun h => (by cases h), fun h => (by cases h)⟩
  | cons b y => exact ⟨fun _ => rfl, fun _ => List.Lex.nil⟩
 | cons a x ih =>
  cases y with
  | nil => exact ⟨fun h => (by cases h), fun h => (by cases h)⟩
  | cons b y =>
   unfold ltB
   rw [lessB_cons, Bool.or_eq_true, Bool.and_eq_true, decide_eq_true_iff, decide_eq_true_iff, List.cons_lt_cons_iff, ih y, UInt8.lt_iff_toNat_lt, UInt8.toNat_inj]
abbrev SrtB (l : List Bs) : Prop := l.Pairwise ltB
theorem srt_uniq : ∀ (a b : List Bs), SrtB a → SrtB b → (∀ x, x ∈ a ↔ x ∈ b) → a = b := by
 intro a
 induction a with
 | nil => intro b _ _ h; cases b with
  | nil => rfl
  | cons y b => exact absurd ((h y).2 (by simp)) (by simp)
 | cons x a ih =>
  intro b ha hb h
  cases b with
  | nil => exact absurd ((h x).1 (by simp)) (by simp)
  | cons y b =>
   rw [SrtB, List.pairwise_cons] at ha hb
   have hxy : x = y := by
    rcases List.mem_cons.1 ((h x).1 (by simp)) with e | e
    ·exact e
    ·rcases List.mem_cons.1 ((h y).2 (by simp)) with e' | e'
     ·exact e'.symm
     ·have h1 := hb.1 x e
      have h2 := ha.1 y e'
      exact (ltB_no (ltB_trans _ _ _ h1 h2)).elim
   subst hxy
   congr 1
   refine ih b ha.2 hb.2 fun z => ⟨fun hz => ?_, fun hz => ?_⟩
   ·rcases List.mem_cons.1 ((h z).1 (by simp [hz])) with e | e
    ·subst e; exact (ltB_no (ha.1 z hz)).elim
    ·exact e
   ·rcases List.mem_cons.1 ((h z).2 (by simp [hz])) with e | e
    ·subst e; exact (ltB_no (hb.1 z hz)).elim
    ·exact e
def insB (x : Bs) : List Bs → List Bs
 | [] => [x]
 | y :: l => bif lessB y x then y :: insB x l else bif y == x then y :: l else x :: y :: l
theorem insB_mem (x : Bs) : ∀ (l : List Bs) (z : Bs), z ∈ insB x l ↔ z = x ∨ z ∈ l := by
 intro l
 induction l with
 | nil => intro z; simp [insB]
 | cons y l ih =>
  intro z
  rw [insB]
  cases lessB y x with
  | true => rw [cond_true, List.mem_cons, ih z, List.mem_cons]; constructor <;> (intro h; rcases h with h | h | h <;> simp [h])
  | false =>
   rw [cond_false]
   cases h : (y == x) with
   | true => rw [cond_true, ← beq_iff_eq.1 h]; simp
   | false => rw [cond_false]; simp
theorem insB_srt (x : Bs) : ∀ (l : List Bs), SrtB l → SrtB (insB x l) := by
 intro l
 induction l with
 | nil => intro _; simp [insB]
 | cons y l ih =>
  intro h
  rw [SrtB, List.pairwise_cons] at h
  rw [insB]
  cases h1 : lessB y x with
  | true =>
   rw [cond_true, SrtB, List.pairwise_cons]
   refine ⟨fun z hz => ?_, ih h.2⟩
   rcases (insB_mem x l z).1 hz with e | e
   ·rw [e]; exact h1
   ·exact h.1 z e
  | false =>
   rw [cond_false]
   cases h2 : (y == x) with
   | true => rw [cond_true, SrtB, List.pairwise_cons]; exact h
   | false =>
    rw [cond_false, SrtB, List.pairwise_cons]
    have hxy : ltB x y := by
     rcases ltB_tri x y with k | k | k
     ·exact k
     ·exact absurd k.symm (beq_eq_false_iff_ne.1 h2)
     ·have k' : lessB y x = true := k
      rw [h1] at k'; cases k'
    refine ⟨fun z hz => ?_, by rw [List.pairwise_cons]; exact h⟩
    rcases List.mem_cons.1 hz with e | e
    ·rw [e]; exact hxy
    ·exact ltB_trans _ _ _ hxy (h.1 z e)
theorem insB_len (x : Bs) : ∀ (l : List Bs), (insB x l).length ≤ l.length + 1 := by
 intro l
 induction l with
 | nil => simp [insB]
 | cons y l ih =>
  rw [insB]
  cases lessB y x with
  | true => rw [cond_true]; simp; omega
  | false => rw [cond_false]; cases (y == x) <;> simp
def srtT (ss : List Bs) : List Bs := ss.foldl (fun acc x => insB x acc) []
theorem srtT_snoc (pre : List Bs) (x : Bs) : srtT (pre ++ [x]) = insB x (srtT pre) := by unfold srtT; rw [List.foldl_append]; rfl
theorem srtT_ok (ss : List Bs) : SrtB (srtT ss) ∧ (∀ z, z ∈ srtT ss ↔ z ∈ ss) ∧ (srtT ss).length ≤ ss.length := by
 have key : ∀ (ss acc : List Bs), SrtB acc → SrtB (ss.foldl (fun acc x => insB x acc) acc) ∧ (∀ z, z ∈ ss.foldl (fun acc x => insB x acc) acc ↔ z ∈ acc ∨ z ∈ ss) ∧ (ss.foldl (fun acc x => insB x acc) acc).length ≤ acc.length + ss.length := by
  intro ss
  induction ss with
  | nil => intro acc h; exact ⟨h, fun z => by simp, by simp⟩
  | cons x ss ih =>
   intro acc h
   obtain ⟨a, b, c⟩ := ih (insB x acc) (insB_srt x acc h)
   have := insB_len x acc
   refine ⟨a, fun z => ?_, by simp only [List.foldl_cons, List.length_cons]; omega⟩
   rw [List.foldl_cons, b z, insB_mem, List.mem_cons]
   constructor
   ·rintro ((h | h) | h) <;> simp [h]
   ·rintro (h | h | h) <;> simp [h]
 obtain ⟨a, b, c⟩ := key ss [] (by simp)
 exact ⟨a, fun z => (b z).trans (by simp), by unfold srtT; simpa using c⟩
theorem le_of_ltB (x y : Bs) : x ≤ y ↔ ¬ ltB y x := by
 rw [← List.not_lt, lt_iff]
theorem sorted_ok (ss : List Bs) : (sorted ss).Pairwise (fun a b => ¬ ltB b a) ∧ (∀ z, z ∈ sorted ss ↔ z ∈ ss) ∧ (sorted ss).length = ss.length := by
 refine ⟨?_, fun z => by rw [sorted_eq]; exact List.mem_mergeSort, by rw [sorted_eq]; exact List.length_mergeSort _⟩
 have := List.pairwise_mergeSort (le := fun x y : Bs => decide (x ≤ y)) (fun a b c h1 h2 => by
  simp only [decide_eq_true_eq, le_of_ltB] at *
  rcases ltB_tri a b with k | k | k
  ·rcases ltB_tri b c with j | j | j
   ·intro e; have := ltB_trans _ _ _ (ltB_trans _ _ _ k j) e; exact ltB_no this
   ·rw [← j]; exact h1
   ·exact absurd j h2
  ·rw [k]; exact h2
  ·exact absurd k h1) (fun a b => by
  simp only [Bool.or_eq_true, decide_eq_true_eq, le_of_ltB]
  rcases ltB_tri a b with k | k | k
  ·left; intro e; have := ltB_trans _ _ _ k e; exact ltB_no this
  ·left; rw [k, ltB, ltB_irrefl]; simp
  ·right; intro e; have := ltB_trans _ _ _ k e; exact ltB_no this) ss
 rw [sorted_eq]
 exact this.imp fun h => (le_of_ltB _ _).1 (of_decide_eq_true h)
end Go.Am.X

namespace Go.Am.X
end Go.Am.X

namespace Go.Am.X
theorem lower_len (s : Bs) : (lower s).length = s.length := by simp [lower]
end Go.Am.X

