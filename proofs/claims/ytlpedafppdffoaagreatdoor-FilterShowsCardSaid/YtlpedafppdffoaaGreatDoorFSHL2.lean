/- The abstract machine, printed functions of the program, and what they are shown to be. -/
import Derived.Test.YtlpedafppdffoaaGreatDoorFSHL1
import Derived.Test.YtlpedafppdffoaaGreatDoorFSHM4
set_option linter.unusedSimpArgs false
set_option linter.unusedVariables false
set_option linter.unusedSectionVars false
set_option maxRecDepth 100000
namespace Go.Am.X
def RdH (H : Heap) (v : V) (hs : List Hd) : Prop := Rd H 2 v hs.length (hcells hs) ∧ Src H v
theorem hcells_inj : ∀ {a b : List Hd}, hcells a = hcells b → a = b := by
 intro a
 induction a with
 | nil => intro b h; cases b with
  | nil => rfl
  | cons y b => rw [hcells_cons] at h; cases h
 | cons x a ih => intro b h; cases b with
  | nil => rw [hcells_cons] at h; cases h
  | cons y b =>
   rw [hcells_cons, hcells_cons] at h
   simp only [List.cons.injEq, V.str.injEq] at h
   obtain ⟨h1, h2, h3⟩ := h
   rw [ih h3]
   obtain ⟨x1, x2⟩ := x
   obtain ⟨y1, y2⟩ := y
   simp only at h1 h2
   subst h1; subst h2; rfl
theorem RdH.uniq {H : Heap} {v : V} {a b : List Hd} (h : RdH H v a) (k : RdH H v b) : a = b := hcells_inj (h.1.uniq k.1).2
theorem RdH.gr {H H' : Heap} {B : Nat} {v : V} {hs : List Hd} (h : RdH H v hs) (hg : Gr B H H') (hw : WF H) (hB : H.size ≤ B) : RdH H' v hs := ⟨h.1.gr hg hw hB, h.2.gr hg hw hB⟩
def isNil : V → Bool | .nils => true | _ => false
def RH (Pre : List Hd → List V → Prop) (g : Bool → List Hd → List V → Out) (vs : List V) (H : Heap) (o : Out) : Prop := ∃ v l hs, vs = v :: l ∧ RdH H v hs ∧ Pre hs l ∧ o = g (isNil v) hs l
theorem RH_fun (Pre : List Hd → List V → Prop) (g : Bool → List Hd → List V → Out) : Fun1 (RH Pre g) := by
 rintro vs H o o' ⟨v, l, hs, rfl, h1, _, rfl⟩ ⟨v', l', hs', e, h2, _, rfl⟩
 cases e
 rw [h1.uniq h2]
theorem RH_val {c : CallK} {f : Nat} {Pre : List Hd → List V → Prop} {g : Bool → List Hd → List V → Out} (hc : ∀ vs H τ q, c f vs H τ q = effK (outP (RH Pre g) vs H τ) q) {v : V} {l : List V} {hs : List Hd} {H : Heap} {u : V} (h : RdH H v hs) (hp : Pre hs l) (hg : g (isNil v) hs l = .val u) (τ : Tape) (q : KV) :
  c f (v :: l) H τ q = q u H τ := outK_val hc (RH_fun _ _) ⟨v, l, hs, rfl, h, hp, hg.symm⟩ τ q
def lstO (z n : Nat) (cs : List V) (mk : V → V) : Out := if n = 0 then .val (mk .nils) else .lst z n cs mk
theorem RH_lstO {c : CallK} {f : Nat} {Pre : List Hd → List V → Prop} {g : Bool → List Hd → List V → Out} (hc : ∀ vs H τ q, c f vs H τ q = effK (outP (RH Pre g) vs H τ) q) {v : V} {l : List V} {hs : List Hd} {H : Heap} {z n : Nat} {cs : List V} {mk : V → V} (h : RdH H v hs) (hp : Pre hs l) (hg : g (isNil v) hs l = lstO z n cs mk) (hw : WF H) (hlen : cs.length = n * z) (τ : Tape) :
  ∃ lv H' τ', Own H' H.size z lv n cs ∧ Gr H.size H H' ∧ ∀ q, c f (v :: l) H τ q = q (mk lv) H' τ' := outK_list hc (RH_fun _ _) ⟨v, l, hs, rfl, h, hp, hg.symm⟩ hw hlen τ
theorem Own.rdH {H : Heap} {B : Nat} {v : V} {hs : List Hd} (h : Own H B 2 v hs.length (hcells hs)) : RdH H v hs := ⟨h.rd, h.src⟩
theorem hcells_vok (H : Heap) (hs : List Hd) : VsOk H (hcells hs) := by
 induction hs with
 | nil => trivial
 | cons h l ih => rw [hcells_cons]; exact ⟨trivial, trivial, ih⟩
theorem Got.met {H H' : Heap} {z n : Nat} {v : V} {cs : List V} {mk : V → V} (h : Got H' H.size z v n cs) (h0 : n = 0 → v = .nils) (hmk : MkOk mk) (hcs : VsOk H cs) (hnil : VOk H (mk .nils)) : (lstO z n cs mk).Met H (mk v) H' := by
 unfold lstO
 by_cases hn : n = 0
 ·rw [if_pos hn, h0 hn]; exact ⟨rfl, hnil⟩
 ·rw [if_neg hn]
  rcases h with ⟨_, h, _⟩ | h
  ·exact absurd h hn
  ·exact ⟨hmk, hcs, v, rfl, h⟩
abbrev GetPre (hs : List Hd) : List V → Prop | [.str name] => Small hs ∧ name.length ≤ 140737488355328 | _ => False
abbrev GetG (_ : Bool) (hs : List Hd) : List V → Out | [.str name] => .val (.tup [.str (getT name hs), .bool (decide (0 < (sel name hs).length))]) | _ => .val (.tup [])
theorem Got.lst {H : Heap} {B z : Nat} {v : V} {n : Nat} {cs : List V} (h : Got H B z v n cs) (hn : n ≠ 0) : FreshL B H z n cs v := by
 rcases h with ⟨_, h, _⟩ | h
 ·exact absurd h hn
 ·exact h
end Go.Am.X

namespace Go.Am.X
def letB (n : Nat) : Bool := (decide (97 ≤ n) && decide (n ≤ 122)) || (decide (65 ≤ n) && decide (n ≤ 90))
def digB (n : Nat) : Bool := decide (48 ≤ n) && decide (n ≤ 57)
theorem s_ref1_Letter_ret (c : CallK) (N n : Nat) (H : Heap) (τ : Tape) (q : KV) : s_ref1_Letter c N (.int .u8 (n : Int)) H τ q = q (.bool (letB n)) H τ := by
 unfold letB
 cases h1 : decide (97 ≤ n) <;> cases h2 : decide (n ≤ 122) <;> cases h3 : decide (65 ≤ n) <;> cases h4 : decide (n ≤ 90) <;> simp only [s_ref1_Letter, getK_set, ↓reduceIte, Nat.reduceEqDiff, someK_n, effK_n, retK, gK_do, gK_do', gK_skip, gK_skip', gK_none, pick_mk, cond_true, cond_false, condK_tn, condK_fn, bin_eql, bin_neq, bin_lss, bin_leq, bin_gtr, bin_geq, un_not, Bool.not_true, Bool.not_false, bin_str, lenS_mk, nle_l, nle_r, nle_n, nlt_l, nlt_r, nlt_n, neq_r, neq_n, nne_r, nne_n, ext0, ext1, ext30, ext31, ext32, bin_add, bin_sub, decide_true, decide_false, h1, h2, h3, h4] <;> rfl
theorem s_ref1_Digit_ret (c : CallK) (N n : Nat) (H : Heap) (τ : Tape) (q : KV) : s_ref1_Digit c N (.int .u8 (n : Int)) H τ q = q (.bool (digB n)) H τ := by
 unfold digB
 cases h1 : decide (48 ≤ n) <;> cases h2 : decide (n ≤ 57) <;> simp only [s_ref1_Digit, getK_set, ↓reduceIte, Nat.reduceEqDiff, someK_n, effK_n, retK, gK_do, gK_do', gK_skip, gK_skip', gK_none, pick_mk, cond_true, cond_false, condK_tn, condK_fn, bin_eql, bin_neq, bin_lss, bin_leq, bin_gtr, bin_geq, un_not, Bool.not_true, Bool.not_false, bin_str, lenS_mk, nle_l, nle_r, nle_n, nlt_l, nlt_r, nlt_n, neq_r, neq_n, nne_r, nne_n, ext0, ext1, ext30, ext31, ext32, bin_add, bin_sub, decide_true, decide_false, h1, h2] <;> rfl
def endB (b : Bool) (n : Nat) : Bool := (decide (n = 9) || decide (n = 32)) || (!b && (decide (n = 10) || decide (n = 13)))
theorem s_ref1_ends_ret (c : CallK) (N n : Nat) (b : Bool) (H : Heap) (τ : Tape) (q : KV) : s_ref1_ends c N (.int .u8 (n : Int)) (.bool b) H τ q = q (.bool (endB b n)) H τ := by
 unfold endB
 cases h1 : decide (n = 9) <;> cases h2 : decide (n = 32) <;> cases b <;> cases h4 : decide (n = 10) <;> cases h5 : decide (n = 13) <;> simp only [s_ref1_ends, getK_set, ↓reduceIte, Nat.reduceEqDiff, someK_n, effK_n, retK, gK_do, gK_do', gK_skip, gK_skip', gK_none, pick_mk, cond_true, cond_false, condK_tn, condK_fn, bin_eql, bin_neq, bin_lss, bin_leq, bin_gtr, bin_geq, un_not, Bool.not_true, Bool.not_false, bin_str, lenS_mk, nle_l, nle_r, nle_n, nlt_l, nlt_r, nlt_n, neq_r, neq_n, nne_r, nne_n, ext0, ext1, ext30, ext31, ext32, bin_add, bin_sub, decide_true, decide_false, h1, h2, h4, h5] <;> rfl
abbrev EndsOk (c : CallK) : Prop := ∀ (n : Nat) (b : Bool) (H : Heap) (τ : Tape) (q : KV), c f_ref1_ends [.int .u8 (n : Int), .bool b] H τ q = q (.bool (endB b n)) H τ
theorem l_ref1_Trim_a (c : CallK) (N : Nat) (he : EndsOk c) (b : Bool) (H : Heap) : ∀ (s : Bs) (fr : T V) (τ : Tape) (m : Nat), s.length < m → s.length < 9223372036854775807 → fr.get 0 = some (.str s) → fr.get 1 = some (.bool b) →
  ∀ k, loopK (s_ref1_Trim_l3 c N) m ⟨fr, H⟩ τ k = k (.exit 0) ⟨(T.set (T.set .leaf 0 (.str (s.dropWhile fun x => endB b x.toNat))) 1 (.bool b)), H⟩ τ := by
 intro s
 induction s with
 | nil =>
  intro fr τ m hm hs f0 f1 k
  obtain ⟨m, rfl⟩ : ∃ j, m = j + 1 := ⟨m - 1, by omega⟩
  rw [loopK_succ]
  have e : decide (0 < ([] : Bs).length) = false := rfl
  simp only [s_ref1_Trim_l3, getK_mk f0, getK_mk f1, getK_set, ↓reduceIte, Nat.reduceEqDiff, someK_n, effK_n, retK, gK_do, gK_do', gK_skip, gK_skip', gK_none, pick_mk, cond_true, cond_false, condK_tn, condK_fn, bin_eql, bin_neq, bin_lss, bin_leq, bin_gtr, bin_geq, un_not, Bool.not_true, Bool.not_false, bin_str, lenS_mk, nle_l, nle_r, nle_n, nlt_l, nlt_r, nlt_n, neq_r, neq_n, nne_r, nne_n, ext0, ext1, ext30, ext31, ext32, bin_add, bin_sub, decide_true, decide_false, e]
  rfl
 | cons x s ih =>
  intro fr τ m hm hs f0 f1 k
  obtain ⟨m, rfl⟩ : ∃ j, m = j + 1 := ⟨m - 1, by omega⟩
  rw [loopK_succ]
  have e : decide (0 < (x :: s).length) = true := by simp
  have e2 : pStrIndex [.str (x :: s), .int .i64 (Int.ofNat 0)] = some (.int .u8 (x.toNat : Int)) := strIdx0 rfl
  have e3 : pStrSlice true false [.str (x :: s), .int .i64 (Int.ofNat 1)] = some (.str s) := by
   have := strSlice_lo (s := x :: s) (k := .i64) (i := 1) (by simp)
   simpa using this
  cases hb : endB b x.toNat with
  | true =>
   simp only [s_ref1_Trim_l3, getK_mk f0, getK_mk f1, getK_set, ↓reduceIte, Nat.reduceEqDiff, someK_n, effK_n, retK, gK_do, gK_do', gK_skip, gK_skip', gK_none, pick_mk, cond_true, cond_false, condK_tn, condK_fn, bin_eql, bin_neq, bin_lss, bin_leq, bin_gtr, bin_geq, un_not, Bool.not_true, Bool.not_false, bin_str, lenS_mk, nle_l, nle_r, nle_n, nlt_l, nlt_r, nlt_n, neq_r, neq_n, nne_r, nne_n, ext0, ext1, ext30, ext31, ext32, bin_add, bin_sub, decide_true, decide_false, e, e2, he, hb, e3, List.dropWhile_cons]
   exact ih _ τ m (by simp at hm; omega) (by simp at hs; omega) (by simp [T.get_set]) (by simp [T.get_set]) k
  | false =>
   simp only [s_ref1_Trim_l3, getK_mk f0, getK_mk f1, getK_set, ↓reduceIte, Nat.reduceEqDiff, someK_n, effK_n, retK, gK_do, gK_do', gK_skip, gK_skip', gK_none, pick_mk, cond_true, cond_false, condK_tn, condK_fn, bin_eql, bin_neq, bin_lss, bin_leq, bin_gtr, bin_geq, un_not, Bool.not_true, Bool.not_false, bin_str, lenS_mk, nle_l, nle_r, nle_n, nlt_l, nlt_r, nlt_n, neq_r, neq_n, nne_r, nne_n, ext0, ext1, ext30, ext31, ext32, bin_add, bin_sub, decide_true, decide_false, e, e2, he, hb, List.dropWhile_cons, Bool.false_eq_true]
   rfl
theorem l_ref1_Trim_b (c : CallK) (N : Nat) (he : EndsOk c) (b : Bool) (H : Heap) : ∀ (n : Nat) (s : Bs) (fr : T V) (τ : Tape) (m : Nat), s.length = n → n < m → n < 9223372036854775807 → fr.get 0 = some (.str s) → fr.get 1 = some (.bool b) →
  ∀ k, loopK (s_ref1_Trim_l2 c N) m ⟨fr, H⟩ τ k = k (.exit 2) ⟨(T.set .leaf 0 (.str (s.reverse.dropWhile fun x => endB b x.toNat).reverse)), H⟩ τ := by
 intro n
 induction n with
 | zero =>
  intro s fr τ m hn hm hs f0 f1 k
  obtain rfl := List.eq_nil_of_length_eq_zero hn
  obtain ⟨m, rfl⟩ : ∃ j, m = j + 1 := ⟨m - 1, by omega⟩
  rw [loopK_succ]
  have e : decide (0 < ([] : Bs).length) = false := rfl
  simp only [s_ref1_Trim_l2, getK_mk f0, getK_mk f1, getK_set, ↓reduceIte, Nat.reduceEqDiff, someK_n, effK_n, retK, gK_do, gK_do', gK_skip, gK_skip', gK_none, pick_mk, cond_true, cond_false, condK_tn, condK_fn, bin_eql, bin_neq, bin_lss, bin_leq, bin_gtr, bin_geq, un_not, Bool.not_true, Bool.not_false, bin_str, lenS_mk, nle_l, nle_r, nle_n, nlt_l, nlt_r, nlt_n, neq_r, neq_n, nne_r, nne_n, ext0, ext1, ext30, ext31, ext32, bin_add, bin_sub, decide_true, decide_false, e]
  rfl
 | succ n ih =>
  intro s fr τ m hn hm hs f0 f1 k
  obtain ⟨m, rfl⟩ : ∃ j, m = j + 1 := ⟨m - 1, by omega⟩
  rw [loopK_succ]
  obtain ⟨s, x, rfl⟩ : ∃ s' x, s = s' ++ [x] := ⟨s.dropLast, s.getLast (by intro h; subst h; simp at hn), (List.dropLast_concat_getLast _).symm⟩
  have hl : s.length = n := by simpa using hn
  have e : decide (0 < (s ++ [x]).length) = true := by simp
  have e1 : wr .i64 ((((s ++ [x]).length : Nat) : Int) - Int.ofNat 1) = (s.length : Int) := by rw [sbI (by simp) (by omega)]; simp
  have e2 : pStrIndex [.str (s ++ [x]), .int .i64 (s.length : Int)] = some (.int .u8 (x.toNat : Int)) := strIndex_mk (by simp)
  have e3 : pStrSlice false true [.str (s ++ [x]), .int .i64 (s.length : Int)] = some (.str s) := by
   rw [strSlice_hi (by simp)]; simp
  cases hb : endB b x.toNat with
  | true =>
   simp only [s_ref1_Trim_l2, getK_mk f0, getK_mk f1, getK_set, ↓reduceIte, Nat.reduceEqDiff, someK_n, effK_n, retK, gK_do, gK_do', gK_skip, gK_skip', gK_none, pick_mk, cond_true, cond_false, condK_tn, condK_fn, bin_eql, bin_neq, bin_lss, bin_leq, bin_gtr, bin_geq, un_not, Bool.not_true, Bool.not_false, bin_str, lenS_mk, nle_l, nle_r, nle_n, nlt_l, nlt_r, nlt_n, neq_r, neq_n, nne_r, nne_n, ext0, ext1, ext30, ext31, ext32, bin_add, bin_sub, decide_true, decide_false, e, e1, e2, he, hb, e3, List.reverse_append, List.reverse_cons, List.reverse_nil, List.nil_append, List.singleton_append, List.dropWhile_cons]
   exact ih s _ τ m hl (by omega) (by omega) (by simp [T.get_set]) (by simp [T.get_set]) k
  | false =>
   simp only [s_ref1_Trim_l2, getK_mk f0, getK_mk f1, getK_set, ↓reduceIte, Nat.reduceEqDiff, someK_n, effK_n, retK, gK_do, gK_do', gK_skip, gK_skip', gK_none, pick_mk, cond_true, cond_false, condK_tn, condK_fn, bin_eql, bin_neq, bin_lss, bin_leq, bin_gtr, bin_geq, un_not, Bool.not_true, Bool.not_false, bin_str, lenS_mk, nle_l, nle_r, nle_n, nlt_l, nlt_r, nlt_n, neq_r, neq_n, nne_r, nne_n, ext0, ext1, ext30, ext31, ext32, bin_add, bin_sub, decide_true, decide_false, e, e1, e2, he, hb, List.reverse_append, List.reverse_cons, List.reverse_nil, List.nil_append, List.singleton_append, List.dropWhile_cons, Bool.false_eq_true, List.reverse_reverse]
   rfl
theorem trim_swap (p : UInt8 → Bool) (s : Bs) : (((s.dropWhile p).reverse.dropWhile p).reverse) = trimB p s := by
 unfold trimB
 induction s with
 | nil => rfl
 | cons x s ih =>
  cases h : p x with
  | true =>
   rw [List.dropWhile_cons_of_pos h, ih, List.reverse_cons]
   rcases List.eq_nil_or_concat (s.reverse.dropWhile p) with hn | ⟨a, b, hb⟩
   ·rw [List.dropWhile_append, hn]; simp [h]
   ·rw [List.dropWhile_append, hb]
    have : (a ++ [b]).isEmpty = false := by simp
    rw [List.concat_eq_append] at hb ⊢
    simp [h]
  | false =>
   rw [List.dropWhile_cons_of_neg (by simp [h]), List.reverse_cons, List.dropWhile_append]
   cases hn : s.reverse.dropWhile p with
   | nil => simp [h]
   | cons a l => simp [h]
theorem s_ref1_Trim_ret (c : CallK) {N : Nat} (hN : 9223372036854775807 < N) (he : EndsOk c) (b : Bool) (s : Bs) (hs : s.length < 9223372036854775807) (H : Heap) (τ : Tape) (q : KV) : s_ref1_Trim c N (.str s) (.bool b) H τ q = q (.str (trimB (fun x => endB b x.toNat) s)) H τ := by
 have hd : (s.dropWhile fun x => endB b x.toNat).length ≤ s.length := (List.dropWhile_sublist _).length_le
 simp only [s_ref1_Trim]
 rw [l_ref1_Trim_a c N he b H s _ τ N (by omega) hs (by simp [T.get_set]) (by simp [T.get_set])]
 simp only [blockK, Nat.beq_refl, cond_true, seqK, s_ref1_Trim_j0, getK_set, ↓reduceIte, Nat.reduceEqDiff, someK_n, effK_n, retK, gK_do, gK_do', gK_skip, gK_skip', gK_none, pick_mk, cond_true, cond_false, condK_tn, condK_fn, bin_eql, bin_neq, bin_lss, bin_leq, bin_gtr, bin_geq, un_not, Bool.not_true, Bool.not_false, bin_str, lenS_mk, nle_l, nle_r, nle_n, nlt_l, nlt_r, nlt_n, neq_r, neq_n, nne_r, nne_n, ext0, ext1, ext30, ext31, ext32, bin_add, bin_sub, decide_true, decide_false]
 rw [l_ref1_Trim_b c N he b H (s.dropWhile fun x => endB b x.toNat).length (s.dropWhile fun x => endB b x.toNat) _ τ N rfl (by omega) (by omega) (by simp [T.get_set]) (by simp [T.get_set])]
 simp only [blockK, Nat.beq_refl, cond_true, seqK, s_ref1_Trim_j1, getK_set, ↓reduceIte, Nat.reduceEqDiff, someK_n, effK_n, retK, gK_do, gK_do', gK_skip, gK_skip', gK_none, pick_mk, cond_true, cond_false, condK_tn, condK_fn, bin_eql, bin_neq, bin_lss, bin_leq, bin_gtr, bin_geq, un_not, Bool.not_true, Bool.not_false, bin_str, lenS_mk, nle_l, nle_r, nle_n, nlt_l, nlt_r, nlt_n, neq_r, neq_n, nne_r, nne_n, ext0, ext1, ext30, ext31, ext32, bin_add, bin_sub, decide_true, decide_false]
 rw [trim_swap]
end Go.Am.X

namespace Go.Am.X
theorem lowB_up {x : UInt8} (h1 : 65 ≤ x.toNat) (h2 : x.toNat ≤ 90) : ((x.toNat + 32 : Nat) : Int) = ((lowB x).toNat : Int) := by
 have : lowB x = UInt8.ofNat (x.toNat + 32) := by unfold lowB; rw [if_pos ⟨h1, h2⟩]
 rw [this]; simp; omega
theorem l_ref1_Lower (c : CallK) (N : Nat) {B id e m : Nat} (l : Bs) :
  ∀ (pre : Bs) (n : Nat) (fr : T V) (H : Heap) (τ : Tape), WF H → Blk H B id (bv (lower pre ++ l)) → (pre ++ l).length = m → m < 9223372036854775807 → l.length < n →
  fr.get 3 = some (.sl id 0 m m (some e) 1) → fr.get 4 = some (.int .i64 (pre.length : Int)) →
  ∃ H', Blk H' B id (bv (lower (pre ++ l))) ∧ Gr B H H' ∧ ∀ k, loopK (s_ref1_Lower_l1 c N) n ⟨fr, H⟩ τ k = k (.exit 0) ⟨T.set .leaf 3 (.sl id 0 m m (some e) 1), H'⟩ τ := by
 induction l with
 | nil =>
  intro pre n fr H τ hw hB hm hmb hn h3 h4
  obtain ⟨n, rfl⟩ : ∃ j, n = j + 1 := ⟨n - 1, by simp at hn; omega⟩
  refine ⟨H, by simpa using hB, Gr.refl hw, fun k => ?_⟩
  have e1 : decide (pre.length < m) = false := decide_eq_false (by simp at hm; omega)
  have pl : pLen [.sl id 0 m m (some e) 1] = some (.int .i64 (m : Int)) := rfl
  rw [loopK_succ]
  simp only [s_ref1_Lower_l1, getK_mk h3, getK_mk h4, pl, getK_set, ↓reduceIte, Nat.reduceEqDiff, someK_n, effK_n, retK, gK_do, gK_do', gK_skip, gK_skip', gK_none, pick_mk, cond_true, cond_false, condK_tn, condK_fn, bin_eql, bin_neq, bin_lss, bin_leq, bin_gtr, bin_geq, un_not, Bool.not_true, Bool.not_false, bin_str, lenS_mk, nle_l, nle_r, nle_n, nlt_l, nlt_r, nlt_n, neq_r, neq_n, nne_r, nne_n, ext0, ext1, ext30, ext31, ext32, bin_add, bin_sub, decide_true, decide_false, e1]
  rfl
 | cons x l ih =>
  intro pre n fr H τ hw hB hm hmb hn h3 h4
  obtain ⟨n, rfl⟩ : ∃ j, n = j + 1 := ⟨n - 1, by simp at hn; omega⟩
  have hlt : pre.length < m := by simp at hm; omega
  have e1 : decide (pre.length < m) = true := decide_eq_true hlt
  have pl : pLen [.sl id 0 m m (some e) 1] = some (.int .i64 (m : Int)) := rfl
  have e2 : pSlIdx 1 [.sl id 0 m m (some e) 1, .int .i64 (pre.length : Int)] = some (.ptr id pre.length) := by
   have : Nat.blt pre.length m = true := by simp [Nat.blt]; omega
   simp [pSlIdx, natOf_nat, this]
  have e3 : lLoad1 [.ptr id pre.length] H = some (.int .u8 (x.toNat : Int)) := by
   refine load_cell hB.cells ?_
   have : pre.length = (bv (lower pre)).length := by simp [bv, lower]
   simp [bv, lower]
  have hcells : (bv (lower pre ++ x :: l)).take pre.length ++ (V.int .u8 ((lowB x).toNat : Int)).cells ++ (bv (lower pre ++ x :: l)).drop (pre.length + 1) = bv (lower (pre ++ [x]) ++ l) := by
   have hl : pre.length = (lower pre).length := by simp [lower]
   simp only [bv, List.map_append, List.map_cons]
   rw [List.take_append_of_le_length (by simp [lower]), List.take_of_length_le (by simp [lower]), List.drop_append]
   simp [lower, V.cells]
  have e5 : wr .i64 ((pre.length : Int) + Int.ofNat 1) = ((pre ++ [x]).length : Int) := by rw [adI (by omega)]; simp
  by_cases hx : 65 ≤ x.toNat ∧ x.toNat ≤ 90
  ·obtain ⟨H1, k1, k2, k3, k4⟩ := hB.eStore hw pre.length (.int .u8 ((lowB x).toNat : Int)) 1 rfl (by simp [bv, lower]) rfl τ
   rw [hcells] at k2
   have d1 : decide (65 ≤ x.toNat) = true := decide_eq_true hx.1
   have d2 : decide (x.toNat ≤ 90) = true := decide_eq_true hx.2
   have e6 : wr .u8 ((x.toNat : Int) + Int.ofNat 32) = ((lowB x).toNat : Int) := by
    rw [show ((x.toNat : Int) + Int.ofNat 32) = ((x.toNat + 32 : Nat) : Int) by simp, wr_u8, Nat.mod_eq_of_lt (by omega), lowB_up hx.1 hx.2]
   obtain ⟨H', m1, m2, m3⟩ := ih (pre ++ [x]) n (T.set (T.set (T.set (T.set (T.set .leaf 3 (.sl id 0 m m (some e) 1)) 4 (.int .i64 (pre.length : Int))) 11 (.int .i64 (pre.length : Int))) 12 (.int .i64 ((pre ++ [x]).length : Int))) 4 (.int .i64 ((pre ++ [x]).length : Int))) H1 τ k3.wf k2 (by simpa using hm) hmb (by simp at hn; omega) (by simp [T.get_set]) (by simp [T.get_set])
   refine ⟨H', by simpa using m1, k3.trans m2 (Nat.le_refl _), fun k => ?_⟩
   rw [loopK_succ]
   simp only [s_ref1_Lower_l1, getK_mk h3, getK_mk h4, pl, getK_set, ↓reduceIte, Nat.reduceEqDiff, someK_n, effK_n, retK, gK_do, gK_do', gK_skip, gK_skip', gK_none, pick_mk, cond_true, cond_false, condK_tn, condK_fn, bin_eql, bin_neq, bin_lss, bin_leq, bin_gtr, bin_geq, un_not, Bool.not_true, Bool.not_false, bin_str, lenS_mk, nle_l, nle_r, nle_n, nlt_l, nlt_r, nlt_n, neq_r, neq_n, nne_r, nne_n, ext0, ext1, ext30, ext31, ext32, bin_add, bin_sub, decide_true, decide_false, e1, e2, e3, d1, d2, e6, k1, s_ref1_Lower_j2, e5, seqK]
   exact m3 k
  ·have hlx : lowB x = x := by unfold lowB; rw [if_neg hx]
   rw [hlx] at hcells
   have hB2 : Blk H B id (bv (lower (pre ++ [x]) ++ l)) := by
    have : bv (lower (pre ++ [x]) ++ l) = bv (lower pre ++ x :: l) := by simp [lower, hlx]
    rw [this]; exact hB
   obtain ⟨H', m1, m2, m3⟩ := ih (pre ++ [x]) n (T.set (T.set (T.set (T.set (T.set .leaf 3 (.sl id 0 m m (some e) 1)) 4 (.int .i64 (pre.length : Int))) 11 (.int .i64 (pre.length : Int))) 12 (.int .i64 ((pre ++ [x]).length : Int))) 4 (.int .i64 ((pre ++ [x]).length : Int))) H τ hw hB2 (by simpa using hm) hmb (by simp at hn; omega) (by simp [T.get_set]) (by simp [T.get_set])
   refine ⟨H', by simpa using m1, m2, fun k => ?_⟩
   rw [loopK_succ]
   cases d1 : decide (65 ≤ x.toNat) with
   | true =>
    have d2 : decide (x.toNat ≤ 90) = false := decide_eq_false fun h => hx ⟨of_decide_eq_true d1, h⟩
    simp only [s_ref1_Lower_l1, getK_mk h3, getK_mk h4, pl, getK_set, ↓reduceIte, Nat.reduceEqDiff, someK_n, effK_n, retK, gK_do, gK_do', gK_skip, gK_skip', gK_none, pick_mk, cond_true, cond_false, condK_tn, condK_fn, bin_eql, bin_neq, bin_lss, bin_leq, bin_gtr, bin_geq, un_not, Bool.not_true, Bool.not_false, bin_str, lenS_mk, nle_l, nle_r, nle_n, nlt_l, nlt_r, nlt_n, neq_r, neq_n, nne_r, nne_n, ext0, ext1, ext30, ext31, ext32, bin_add, bin_sub, decide_true, decide_false, e1, e2, e3, d1, d2, s_ref1_Lower_j2, e5, seqK]
    exact m3 k
   | false =>
    simp only [s_ref1_Lower_l1, getK_mk h3, getK_mk h4, pl, getK_set, ↓reduceIte, Nat.reduceEqDiff, someK_n, effK_n, retK, gK_do, gK_do', gK_skip, gK_skip', gK_none, pick_mk, cond_true, cond_false, condK_tn, condK_fn, bin_eql, bin_neq, bin_lss, bin_leq, bin_gtr, bin_geq, un_not, Bool.not_true, Bool.not_false, bin_str, lenS_mk, nle_l, nle_r, nle_n, nlt_l, nlt_r, nlt_n, neq_r, neq_n, nne_r, nne_n, ext0, ext1, ext30, ext31, ext32, bin_add, bin_sub, decide_true, decide_false, e1, e2, e3, d1, s_ref1_Lower_j2, e5, seqK]
    exact m3 k
theorem s_ref1_Lower_ret (c : CallK) {N : Nat} (hN : 9223372036854775807 < N) (s : Bs) (hs : s.length ≤ 140737488355328) (H : Heap) (hw : WF H) (τ : Tape) :
  ∃ H' τ', Gr H.size H H' ∧ ∀ q, s_ref1_Lower c N (.str s) H τ q = q (.str (lower s)) H' τ' := by
 have hB := Blk.new H (bv s) ((s.length + spare s.length (τ 0)) * 1) false (by rw [bv_length]; omega)
 have hG := Gr.new hw (bv s) ((s.length + spare s.length (τ 0)) * 1) false
 obtain ⟨H', m1, m2, m3⟩ := l_ref1_Lower c N (e := spare s.length (τ 0)) (m := s.length) s [] N (T.set (T.set .leaf 3 (.sl H.size 0 s.length s.length (some (spare s.length (τ 0))) 1)) 4 (.int .i64 0)) _ τ.tail hG.wf (by simpa [lower] using hB) (by simp) (by omega) (by omega) (by simp [T.get_set]) (by simp [T.get_set])
 refine ⟨H', τ.tail, hG.trans m2 (Nat.le_refl _), fun q => ?_⟩
 have e1 : eStrBytes [.str s] H τ = some (.sl H.size 0 s.length s.length (some (spare s.length (τ 0))) 1, H.new (bv s) ((s.length + spare s.length (τ 0)) * 1) false, τ.tail) := by
  simp only [eStrBytes, Nat.ble_eq_true_of_le hs, cond_true, fresh]
  rfl
 have e3 : lBytesStr [.sl H.size 0 s.length s.length (some (spare s.length (τ 0))) 1] H' = some (.str (lower s)) := by
  have hl : (bv (lower ([] ++ s))).length = s.length := by simp [bv, lower]
  simp only [lBytesStr, loads_cells m1.cells (show 0 + s.length ≤ _ by rw [hl]; omega), List.drop_zero]
  rw [List.take_of_length_le (by rw [hl]; omega)]
  simp [bytesOf_bv]
 simp only [s_ref1_Lower, e1, effK_n]
 rw [show (V.int IntKind.i64 (Int.ofNat 0)) = .int .i64 0 from rfl, m3]
 simp only [blockK, Nat.beq_refl, cond_true, seqK, s_ref1_Lower_j0, getK_set, ↓reduceIte, Nat.reduceEqDiff, someK_n, effK_n, retK, gK_do, gK_do', gK_skip, gK_skip', gK_none, pick_mk, cond_true, cond_false, condK_tn, condK_fn, bin_eql, bin_neq, bin_lss, bin_leq, bin_gtr, bin_geq, un_not, Bool.not_true, Bool.not_false, bin_str, lenS_mk, nle_l, nle_r, nle_n, nlt_l, nlt_r, nlt_n, neq_r, neq_n, nne_r, nne_n, ext0, ext1, ext30, ext31, ext32, bin_add, bin_sub, decide_true, decide_false, e3]
end Go.Am.X

namespace Go.Am.X
theorem someN : ∃ N : Nat, 9223372036854775807 < N := ⟨9223372036854775808, by decide⟩
theorem primRV {N : Nat} {l : List Row} (hl : RowsOk PG l) (d f : Nat) {Pre : List V → Prop} {g : List V → V} (hv : ∀ vs H, Pre vs → VOk H (g vs)) (h : ∀ vs, Pre vs → ∀ H, WF H → ∀ τ, ∃ H' τ', Gr H.size H H' ∧ ∀ q, CR l N d f vs H τ q = q (g vs) H' τ') : ∀ base w0, PrimOk PG base w0 f (outP (RV Pre g)) := by
 refine primOk_out mixed_ok hl N d f ?_
 rintro vs H o hw hvs ⟨hp, rfl⟩ τ
 obtain ⟨H', τ', g1, k1⟩ := h vs hp H hw τ
 exact ⟨_, H', τ', k1 retK, g1, rfl, hv vs H hp⟩
abbrev TrimPre : List V → Prop | [.str s, .bool _] => s.length < 9223372036854775807 | _ => False
abbrev TrimG : List V → V | [.str s, .bool b] => .str (trimB (fun x => endB b x.toNat) s) | _ => .tup []
abbrev rw_Trim : List Row := [Row.fn f_ref1_Trim fn_ref1_Trim e_ref1_Trim, Row.fn f_ref1_ends fn_ref1_ends e_ref1_ends]
theorem p_ref1_Trim : ∀ base w0, PrimOk PG base w0 f_ref1_Trim (outP (RV TrimPre TrimG)) := by
 obtain ⟨N, hN⟩ := someN
 refine primRV (N := N) (l := rw_Trim) (.fn ok_ref1_Trim e_ref1_Trim_ok (.fn ok_ref1_ends e_ref1_ends_ok (.nil _))) 2 _ (fun vs H h => ?_) (fun vs h H hw τ => ?_)
 ·unfold TrimPre at h; split at h
  ·trivial
  ·exact h.elim
 ·unfold TrimPre at h; split at h
  ·exact ⟨H, τ, Gr.refl hw, fun q => s_ref1_Trim_ret (CR rw_Trim N 1) hN (fun n b H τ q => s_ref1_ends_ret (CR rw_Trim N 0) N n b H τ q) _ _ h H τ q⟩
  ·exact h.elim
theorem p_ref1_Lower : ∀ base w0, PrimOk PG base w0 f_ref1_Lower (outP LowR) := by
 obtain ⟨N, hN⟩ := someN
 refine primRV (N := N) (l := [Row.fn f_ref1_Lower fn_ref1_Lower e_ref1_Lower]) (.fn ok_ref1_Lower e_ref1_Lower_ok (.nil _)) 1 _ (fun vs H h => ?_) (fun vs h H hw τ => ?_)
 ·unfold strP at h; split at h
  ·trivial
  ·exact h.elim
 ·unfold strP at h; split at h
  ·exact s_ref1_Lower_ret (CR [Row.fn f_ref1_Lower fn_ref1_Lower e_ref1_Lower] N 0) hN _ h H hw τ
  ·exact h.elim
def spT : Bs := [33, 35, 36, 37, 38, 39, 42, 43, 45, 46, 94, 95, 96, 124, 126]
theorem l_ref1_Token_in (c : CallK) (N : Nat) (s : Bs) (iv : V) (x : UInt8) (H : Heap) : ∀ (rest pre : Bs) (b : Bool) (fr : T V) (τ : Tape) (m : Nat), spT = pre ++ rest → rest.length < m → fr.get 0 = some (.str s) → fr.get 3 = some iv → fr.get 4 = some (.int .u8 (x.toNat : Int)) → fr.get 5 = some (.bool b) → fr.get 6 = some (.int .i64 (pre.length : Int)) →
  ∀ k, loopK (s_ref1_Token_l4 c N) m ⟨fr, H⟩ τ k = k (.exit 2) ⟨(T.set (T.set (T.set .leaf 0 (.str s)) 3 iv) 5 (.bool (b || rest.contains x))), H⟩ τ := by
 intro rest
 induction rest with
 | nil =>
  intro pre b fr τ m he hm f0 f3 f4 f5 f6 k
  obtain ⟨m, rfl⟩ : ∃ j, m = j + 1 := ⟨m - 1, by omega⟩
  have hl : pre.length = 15 := by have := congrArg List.length he; simpa [spT] using this.symm
  have e1 : decide (pre.length < 15) = false := decide_eq_false (by omega)
  rw [loopK_succ]
  simp only [s_ref1_Token_l4, getK_mk f0, getK_mk f3, getK_mk f4, getK_mk f5, getK_mk f6, getK_set, ↓reduceIte, Nat.reduceEqDiff, someK_n, effK_n, retK, gK_do, gK_do', gK_skip, gK_skip', gK_none, pick_mk, cond_true, cond_false, condK_tn, condK_fn, bin_eql, bin_neq, bin_lss, bin_leq, bin_gtr, bin_geq, un_not, Bool.not_true, Bool.not_false, bin_str, lenS_mk, nle_l, nle_r, nle_n, nlt_l, nlt_r, nlt_n, neq_r, neq_n, nne_r, nne_n, ext0, ext1, ext30, ext31, ext32, bin_add, bin_sub, decide_true, decide_false, e1, List.contains_nil, Bool.or_false]
  rfl
 | cons y rest ih =>
  intro pre b fr τ m he hm f0 f3 f4 f5 f6 k
  obtain ⟨m, rfl⟩ : ∃ j, m = j + 1 := ⟨m - 1, by omega⟩
  have hl : pre.length + (rest.length + 1) = 15 := by have := congrArg List.length he; simpa [spT] using this.symm
  have e1 : decide (pre.length < 15) = true := decide_eq_true (by omega)
  have e2 : pStrIndex [.str (bs [33, 35, 36, 37, 38, 39, 42, 43, 45, 46, 94, 95, 96, 124, 126]), .int .i64 (pre.length : Int)] = some (.int .u8 (y.toNat : Int)) := strIndex_mk (by
   show spT[pre.length]? = _
   rw [he]; simp)
  have e3 : wr .i64 ((pre.length : Int) + Int.ofNat 1) = ((pre ++ [y]).length : Int) := by rw [adI (by omega)]; simp
  have e4 : decide (x.toNat = y.toNat) = (x == y) := by
   by_cases h : x = y
   ·subst h; simp
   ·rw [decide_eq_false (fun e => h (UInt8.toNat_inj.1 e))]; symm; simpa using h
  rw [loopK_succ]
  have fin : ∀ (b' : Bool), b' = (b || (x == y)) → ∀ fr', fr'.get 0 = some (.str s) → fr'.get 3 = some iv → fr'.get 4 = some (.int .u8 (x.toNat : Int)) → fr'.get 5 = some (.bool b') → fr'.get 6 = some (.int .i64 ((pre ++ [y]).length : Int)) →
    loopK (s_ref1_Token_l4 c N) m ⟨fr', H⟩ τ k = k (.exit 2) ⟨(T.set (T.set (T.set .leaf 0 (.str s)) 3 iv) 5 (.bool (b || (y :: rest).contains x))), H⟩ τ := by
   intro b' hb' fr' g0 g3 g4 g5 g6
   rw [ih (pre ++ [y]) b' fr' τ m (by rw [he]; simp) (by simp at hm; omega) g0 g3 g4 g5 g6 k, hb', List.contains_cons, Bool.or_assoc]
  cases b with
  | true =>
   simp only [s_ref1_Token_l4, getK_mk f0, getK_mk f3, getK_mk f4, getK_mk f5, getK_mk f6, getK_set, ↓reduceIte, Nat.reduceEqDiff, someK_n, effK_n, retK, gK_do, gK_do', gK_skip, gK_skip', gK_none, pick_mk, cond_true, cond_false, condK_tn, condK_fn, bin_eql, bin_neq, bin_lss, bin_leq, bin_gtr, bin_geq, un_not, Bool.not_true, Bool.not_false, bin_str, lenS_mk, nle_l, nle_r, nle_n, nlt_l, nlt_r, nlt_n, neq_r, neq_n, nne_r, nne_n, ext0, ext1, ext30, ext31, ext32, bin_add, bin_sub, decide_true, decide_false, e1, e3]
   exact fin true rfl _ (by simp [T.get_set]) (by simp [T.get_set]) (by simp [T.get_set]) (by simp [T.get_set]) (by simp [T.get_set])
  | false =>
   simp only [s_ref1_Token_l4, getK_mk f0, getK_mk f3, getK_mk f4, getK_mk f5, getK_mk f6, getK_set, ↓reduceIte, Nat.reduceEqDiff, someK_n, effK_n, retK, gK_do, gK_do', gK_skip, gK_skip', gK_none, pick_mk, cond_true, cond_false, condK_tn, condK_fn, bin_eql, bin_neq, bin_lss, bin_leq, bin_gtr, bin_geq, un_not, Bool.not_true, Bool.not_false, bin_str, lenS_mk, nle_l, nle_r, nle_n, nlt_l, nlt_r, nlt_n, neq_r, neq_n, nne_r, nne_n, ext0, ext1, ext30, ext31, ext32, bin_add, bin_sub, decide_true, decide_false, e1, e2, e3, e4]
   exact fin (x == y) rfl _ (by simp [T.get_set]) (by simp [T.get_set]) (by simp [T.get_set]) (by simp [T.get_set]) (by simp [T.get_set])
theorem tok_eq (x : UInt8) : tok x = ((letB x.toNat || digB x.toNat) || spT.contains x) := rfl
theorem l_ref1_Token (c : CallK) {N : Nat} (hN : 9223372036854775807 < N) (hL : ∀ (n : Nat) H τ q, c f_ref1_Letter [.int .u8 (n : Int)] H τ q = q (.bool (letB n)) H τ) (hD : ∀ (n : Nat) H τ q, c f_ref1_Digit [.int .u8 (n : Int)] H τ q = q (.bool (digB n)) H τ) (s : Bs) (hs : s.length < 9223372036854775807) (H : Heap) :
  ∀ (l pre : Bs) (fr : T V) (τ : Tape) (m : Nat), s = pre ++ l → l.length < m → fr.get 0 = some (.str s) → fr.get 3 = some (.int .i64 (pre.length : Int)) →
  ∀ k, loopK (s_ref1_Token_l1 c N) m ⟨fr, H⟩ τ k = bif l.all tok then k (.exit 0) ⟨(T.set .leaf 0 (.str s)), H⟩ τ else k .ret ⟨(T.set .leaf 2 (.bool false)), H⟩ τ := by
 intro l
 induction l with
 | nil =>
  intro pre fr τ m he hm f0 f3 k
  obtain ⟨m, rfl⟩ : ∃ j, m = j + 1 := ⟨m - 1, by omega⟩
  have e1 : decide (pre.length < s.length) = false := decide_eq_false (by rw [he]; simp)
  rw [loopK_succ]
  simp only [s_ref1_Token_l1, getK_mk f0, getK_mk f3, getK_set, ↓reduceIte, Nat.reduceEqDiff, someK_n, effK_n, retK, gK_do, gK_do', gK_skip, gK_skip', gK_none, pick_mk, cond_true, cond_false, condK_tn, condK_fn, bin_eql, bin_neq, bin_lss, bin_leq, bin_gtr, bin_geq, un_not, Bool.not_true, Bool.not_false, bin_str, lenS_mk, nle_l, nle_r, nle_n, nlt_l, nlt_r, nlt_n, neq_r, neq_n, nne_r, nne_n, ext0, ext1, ext30, ext31, ext32, bin_add, bin_sub, decide_true, decide_false, e1, List.all_nil]
  rfl
 | cons x l ih =>
  intro pre fr τ m he hm f0 f3 k
  obtain ⟨m, rfl⟩ : ∃ j, m = j + 1 := ⟨m - 1, by omega⟩
  have hl : pre.length < s.length := by rw [he]; simp
  have e1 : decide (pre.length < s.length) = true := decide_eq_true hl
  have e2 : pStrIndex [.str s, .int .i64 (pre.length : Int)] = some (.int .u8 (x.toNat : Int)) := strIndex_mk (by rw [he]; simp)
  have e3 : wr .i64 ((pre.length : Int) + Int.ofNat 1) = ((pre ++ [x]).length : Int) := by rw [adI (by omega)]; simp
  rw [loopK_succ]
  have fin : ∀ b, b = (letB x.toNat || digB x.toNat) → ∀ fr', fr'.get 0 = some (.str s) → fr'.get 3 = some (.int .i64 (pre.length : Int)) → fr'.get 4 = some (.int .u8 (x.toNat : Int)) → fr'.get 5 = some (.bool b) → fr'.get 6 = some (.int .i64 ((([] : Bs).length : Nat) : Int)) → ∀ k', k' = seqK (fun st τ => loopK (s_ref1_Token_l1 c N) m st τ k) k →
    loopK (s_ref1_Token_l4 c N) N ⟨fr', H⟩ τ (blockK 2 (seqK (s_ref1_Token_j3 c N k') (blockK 1 (seqK (s_ref1_Token_j2 c N k') k')))) = bif (x :: l).all tok then k (.exit 0) ⟨(T.set .leaf 0 (.str s)), H⟩ τ else k .ret ⟨(T.set .leaf 2 (.bool false)), H⟩ τ := by
   rintro b rfl fr' g0 g3 g4 g5 g6 k' rfl
   rw [l_ref1_Token_in c N s (.int .i64 (pre.length : Int)) x H spT [] _ fr' τ N rfl (by show 15 < N; omega) g0 g3 g4 g5 g6, ← tok_eq]
   simp only [blockK, Nat.beq_refl, cond_true, seqK, s_ref1_Token_j3, getK_set, ↓reduceIte, Nat.reduceEqDiff, someK_n, effK_n, retK, gK_do, gK_do', gK_skip, gK_skip', gK_none, pick_mk, cond_true, cond_false, condK_tn, condK_fn, bin_eql, bin_neq, bin_lss, bin_leq, bin_gtr, bin_geq, un_not, Bool.not_true, Bool.not_false, bin_str, lenS_mk, nle_l, nle_r, nle_n, nlt_l, nlt_r, nlt_n, neq_r, neq_n, nne_r, nne_n, ext0, ext1, ext30, ext31, ext32, bin_add, bin_sub, decide_true, decide_false, List.all_cons]
   cases ht : tok x with
   | true =>
    simp only [getK_set, ↓reduceIte, Nat.reduceEqDiff, someK_n, effK_n, retK, gK_do, gK_do', gK_skip, gK_skip', gK_none, pick_mk, cond_true, cond_false, condK_tn, condK_fn, bin_eql, bin_neq, bin_lss, bin_leq, bin_gtr, bin_geq, un_not, Bool.not_true, Bool.not_false, bin_str, lenS_mk, nle_l, nle_r, nle_n, nlt_l, nlt_r, nlt_n, neq_r, neq_n, nne_r, nne_n, ext0, ext1, ext30, ext31, ext32, bin_add, bin_sub, decide_true, decide_false, s_ref1_Token_j2, e3, Bool.true_and, seqK]
    exact ih (pre ++ [x]) _ τ m (by rw [he]; simp) (by simp at hm; omega) (by simp [T.get_set]) (by simp [T.get_set]) k
   | false =>
    simp only [getK_set, ↓reduceIte, Nat.reduceEqDiff, someK_n, effK_n, retK, gK_do, gK_do', gK_skip, gK_skip', gK_none, pick_mk, cond_true, cond_false, condK_tn, condK_fn, bin_eql, bin_neq, bin_lss, bin_leq, bin_gtr, bin_geq, un_not, Bool.not_true, Bool.not_false, bin_str, lenS_mk, nle_l, nle_r, nle_n, nlt_l, nlt_r, nlt_n, neq_r, neq_n, nne_r, nne_n, ext0, ext1, ext30, ext31, ext32, bin_add, bin_sub, decide_true, decide_false, Bool.false_and]
  cases hb : letB x.toNat with
  | true =>
   simp only [s_ref1_Token_l1, getK_mk f0, getK_mk f3, getK_set, ↓reduceIte, Nat.reduceEqDiff, someK_n, effK_n, retK, gK_do, gK_do', gK_skip, gK_skip', gK_none, pick_mk, cond_true, cond_false, condK_tn, condK_fn, bin_eql, bin_neq, bin_lss, bin_leq, bin_gtr, bin_geq, un_not, Bool.not_true, Bool.not_false, bin_str, lenS_mk, nle_l, nle_r, nle_n, nlt_l, nlt_r, nlt_n, neq_r, neq_n, nne_r, nne_n, ext0, ext1, ext30, ext31, ext32, bin_add, bin_sub, decide_true, decide_false, e1, e2, hL, hb]
   exact fin true (by rw [hb]; rfl) _ (by simp [T.get_set]) (by simp [T.get_set]) (by simp [T.get_set]) (by simp [T.get_set]) (by simp [T.get_set]) _ rfl
  | false =>
   simp only [s_ref1_Token_l1, getK_mk f0, getK_mk f3, getK_set, ↓reduceIte, Nat.reduceEqDiff, someK_n, effK_n, retK, gK_do, gK_do', gK_skip, gK_skip', gK_none, pick_mk, cond_true, cond_false, condK_tn, condK_fn, bin_eql, bin_neq, bin_lss, bin_leq, bin_gtr, bin_geq, un_not, Bool.not_true, Bool.not_false, bin_str, lenS_mk, nle_l, nle_r, nle_n, nlt_l, nlt_r, nlt_n, neq_r, neq_n, nne_r, nne_n, ext0, ext1, ext30, ext31, ext32, bin_add, bin_sub, decide_true, decide_false, e1, e2, hL, hb, hD]
   exact fin (digB x.toNat) (by rw [hb]; rfl) _ (by simp [T.get_set]) (by simp [T.get_set]) (by simp [T.get_set]) (by simp [T.get_set]) (by simp [T.get_set]) _ rfl
theorem s_ref1_Token_ret (c : CallK) {N : Nat} (hN : 9223372036854775807 < N) (hL : ∀ (n : Nat) H τ q, c f_ref1_Letter [.int .u8 (n : Int)] H τ q = q (.bool (letB n)) H τ) (hD : ∀ (n : Nat) H τ q, c f_ref1_Digit [.int .u8 (n : Int)] H τ q = q (.bool (digB n)) H τ) (s : Bs) (hs : s.length ≤ 9223372036854775806) (H : Heap) (τ : Tape) (q : KV) :
  s_ref1_Token c N (.str s) H τ q = q (.bool (tokT s)) H τ := by
 simp only [s_ref1_Token]
 rw [l_ref1_Token c hN hL hD s (by omega) H s [] _ τ N rfl (by omega) (by simp [T.get_set]) (by simp [T.get_set])]
 unfold tokT
 cases ha : s.all tok with
 | true =>
  simp only [blockK, Nat.beq_refl, cond_true, seqK, s_ref1_Token_j0, getK_set, ↓reduceIte, Nat.reduceEqDiff, someK_n, effK_n, retK, gK_do, gK_do', gK_skip, gK_skip', gK_none, pick_mk, cond_true, cond_false, condK_tn, condK_fn, bin_eql, bin_neq, bin_lss, bin_leq, bin_gtr, bin_geq, un_not, Bool.not_true, Bool.not_false, bin_str, lenS_mk, nle_l, nle_r, nle_n, nlt_l, nlt_r, nlt_n, neq_r, neq_n, nne_r, nne_n, ext0, ext1, ext30, ext31, ext32, bin_add, bin_sub, decide_true, decide_false, Bool.true_and]
  cases s with
  | nil => rfl
  | cons x l => simp
 | false =>
  simp only [cond_false, blockK, seqK, endK, Bool.false_and]
  rfl
abbrev rw_Token : List Row := [Row.fn f_ref1_Token fn_ref1_Token e_ref1_Token, Row.fn f_ref1_Letter fn_ref1_Letter e_ref1_Letter, Row.fn f_ref1_Digit fn_ref1_Digit e_ref1_Digit]
theorem p_ref1_Token : ∀ base w0, PrimOk PG base w0 f_ref1_Token (outP (RS 9223372036854775806 fun s => .bool (tokT s))) := by
 obtain ⟨N, hN⟩ := someN
 refine primRV (N := N) (l := rw_Token) (.fn ok_ref1_Token e_ref1_Token_ok (.fn ok_ref1_Letter e_ref1_Letter_ok (.fn ok_ref1_Digit e_ref1_Digit_ok (.nil _)))) 2 _ (fun vs H h => ?_) (fun vs h H hw τ => ?_)
 ·unfold strP at h; split at h
  ·trivial
  ·exact h.elim
 ·unfold strP at h; split at h
  ·exact ⟨H, τ, Gr.refl hw, fun q => s_ref1_Token_ret (CR rw_Token N 1) hN (fun n H τ q => s_ref1_Letter_ret (CR rw_Token N 0) N n H τ q) (fun n H τ q => s_ref1_Digit_ret (CR rw_Token N 0) N n H τ q) _ h H τ q⟩
  ·exact h.elim
abbrev IsP (c : CallK) (f : Nat) (R : List V → Heap → Out → Prop) : Prop := ∀ vs H τ q, c f vs H τ q = effK (outP R vs H τ) q
abbrev TrimR := RV TrimPre TrimG
abbrev TokR := RS 9223372036854775806 fun s => .bool (tokT s)
abbrev RTrimOk (c : CallK) : Prop := ∀ (s : Bs) (b : Bool), s.length < 9223372036854775807 → ∀ H τ q, c f_ref1_Trim [.str s, .bool b] H τ q = q (.str (trimB (fun x => endB b x.toNat) s)) H τ
abbrev RLowOk (c : CallK) : Prop := ∀ (s : Bs), s.length ≤ 140737488355328 → ∀ H τ q, c f_ref1_Lower [.str s] H τ q = q (.str (lower s)) H τ
abbrev RTokOk (c : CallK) : Prop := ∀ (s : Bs), s.length ≤ 9223372036854775806 → ∀ H τ q, c f_ref1_Token [.str s] H τ q = q (.bool (tokT s)) H τ
theorem k_ref1_Trim {c : CallK} (h : IsP c f_ref1_Trim TrimR) : RTrimOk c := fun s b hs H τ q => RV_call h (vs := [.str s, .bool b]) hs H τ q
theorem k_ref1_Lower {c : CallK} (h : IsP c f_ref1_Lower LowR) : RLowOk c := fun s hs H τ q => callS h s hs H τ q
theorem k_ref1_Token {c : CallK} (h : IsP c f_ref1_Token TokR) : RTokOk c := fun s hs H τ q => callS h s hs H τ q
end Go.Am.X

namespace Go.Am.X
theorem s_ref5_Named_ret (c : CallK) (N : Nat) (hL : RLowOk c) (h : Hd) (name : Bs) (hh : h.1.length ≤ 140737488355328) (hm : name.length ≤ 140737488355328) (H : Heap) (hw : WF H) (τ : Tape) :
  ∃ H' τ', Gr H.size H H' ∧ ∀ q, s_ref5_Named c N (hv h) (.str name) H τ q = q (.bool (named name h)) H' τ' := by
 have a1 : eBox [hv h] H τ = some (.ptr H.size 0, H.new [.str h.1, .str h.2] 2 true, τ) := rfl
 have l1 : lLoad1 [.ptr H.size 0] (H.new [.str h.1, .str h.2] 2 true) = some (.str h.1) := load_cell (cells_new H _ 2 true) rfl
 have pf : pFieldAddr 0 [.ptr H.size 0] = some (.ptr H.size 0) := rfl
 refine ⟨_, τ, Gr.new hw [.str h.1, .str h.2] 2 true, fun q => ?_⟩
 simp only [s_ref5_Named, a1, effK_n, pf, someK_n, l1, hL _ hh, hL _ hm, bin_str, str_eql]
 rfl
abbrev NamedPre : List V → Prop | [.agg [.str a, .str _], .str n] => a.length ≤ 140737488355328 ∧ n.length ≤ 140737488355328 | _ => False
abbrev NamedG : List V → V | [.agg [.str a, .str b], .str n] => .bool (named n (a, b)) | _ => .tup []
noncomputable abbrev rw_Named : List Row := [Row.fn f_ref5_Named fn_ref5_Named e_ref5_Named, Row.prim f_ref1_Lower (outP LowR)]
theorem p_ref5_Named : ∀ base w0, PrimOk PG base w0 f_ref5_Named (outP (RV NamedPre NamedG)) := by
 obtain ⟨N, hN⟩ := someN
 refine primRV (N := N) (l := rw_Named) (.fn ok_ref5_Named e_ref5_Named_ok (.prim p_ref1_Lower (.nil _))) 2 _ (fun vs H h => ?_) (fun vs h H hw τ => ?_)
 ·unfold NamedPre at h; split at h
  ·trivial
  ·exact h.elim
 ·unfold NamedPre at h; split at h
  ·rename_i a b n
   exact s_ref5_Named_ret (CR rw_Named N 1) N (k_ref1_Lower fun _ _ _ _ => rfl) (a, b) n h.1 h.2 H hw τ
  ·exact h.elim
abbrev RNamedR := RV NamedPre NamedG
abbrev RNamedOk (c : CallK) : Prop := ∀ (h : Hd) (n : Bs), h.1.length ≤ 140737488355328 → n.length ≤ 140737488355328 → ∀ H τ q, c f_ref5_Named [hv h, .str n] H τ q = q (.bool (named n h)) H τ
theorem k_ref5_Named {c : CallK} (h : IsP c f_ref5_Named RNamedR) : RNamedOk c := fun x n hx hn H τ q => RV_call h (vs := [hv x, .str n]) ⟨hx, hn⟩ H τ q
end Go.Am.X

namespace Go.Am.X
def LsH (H : Heap) (B : Nat) (v : V) (hs : List Hd) : Prop := Own H B 2 v hs.length (hcells hs) ∧ (hs = [] → v = .nils)
theorem LsH.nil (H : Heap) (B : Nat) : LsH H B .nils [] := ⟨Own.nil _ _ _, fun _ => rfl⟩
theorem LsH.gr {H H' : Heap} {B C : Nat} {v : V} {hs : List Hd} (h : LsH H B v hs) (hg : Gr C H H') (hw : WF H) (hC : H.size ≤ C) : LsH H' B v hs := ⟨h.1.gr hg hw hC, h.2⟩
theorem LsH.rdH {H : Heap} {B : Nat} {v : V} {hs : List Hd} (h : LsH H B v hs) : RdH H v hs := ⟨h.1.rd, h.1.src⟩
theorem LsH.weaken {H : Heap} {B C : Nat} {v : V} {hs : List Hd} (h : LsH H C v hs) (hBC : B ≤ C) : LsH H B v hs := by
 refine ⟨?_, h.2⟩
 rcases h.1 with h | ⟨id, e, room, fam, ver, pl, st, fr, h1, h2, h3, h4, h5, h6, h7⟩
 ·exact .inl h
 ·exact .inr ⟨id, e, room, fam, ver, pl, st, fr, h1, h2, h3, h4, Nat.le_trans hBC h5, Nat.le_trans hBC h6, h7⟩
theorem LsH.put {H : Heap} {B : Nat} {v : V} {hs : List Hd} (h : LsH H B v hs) (hw : WF H) (hB : B ≤ H.size) (x : Hd) (hn : hs.length ≤ 1000000) (τ : Tape) :
  ∃ w H1 v' H' τ', eBuildSlice 1 2 [(.str []), (.str [])] [(0, 2)] [hv x] H τ = some (w, H1, τ) ∧ eAppend 2 32 [v, w] H1 τ = some (v', H', τ') ∧ LsH H' B v' (hs ++ [x]) ∧ Gr B H H' ∧ (∀ id cs, H.cells? id = some cs → H'.cells? id = some cs) ∧ (∀ id cs, H.cells? id = some cs → H1.cells? id = some cs) := by
 obtain ⟨w, H1, v', H', τ', r1, r2, r3, r4, r5, r6⟩ := put2 h.1.apd hw hB x hn τ
 have e : H1 = H.new [.str x.1, .str x.2] (1 * 2) false := by
  have : eBuildSlice 1 2 [(.str []), (.str [])] [(0, 2)] [.agg [.str x.1, .str x.2]] H τ = some (.sl H.size 0 1 1 none 2, H.new [.str x.1, .str x.2] (1 * 2) false, τ) := rfl
  rw [this] at r1
  simp only [Option.some.injEq, Prod.mk.injEq] at r1
  exact r1.2.1.symm
 refine ⟨w, H1, v', H', τ', r1, r2, ⟨?_, fun h => by simp at h⟩, r4, r5, fun id cs hc => ?_⟩
 ·have := r3.own (by omega)
  simpa using this
 ·rw [e]; exact (Gr.new hw _ _ _).cells hw (Nat.le_refl _) hc
theorem LsH.met {H H' : Heap} {v : V} {hs : List Hd} {mk : V → V} (h : LsH H' H.size v hs) (hmk : MkOk mk) (hnil : VOk H (mk .nils)) : (lstO 2 hs.length (hcells hs) mk).Met H (mk v) H' := by
 refine Got.met (h.1.apd.got) (fun h0 => h.2 (List.eq_nil_of_length_eq_zero h0)) hmk (hcells_vok _ _) hnil
end Go.Am.X

namespace Go.Am.X
theorem primRH {N : Nat} {l : List Row} (hl : RowsOk PG l) (d f : Nat) {Pre : List Hd → List V → Prop} {g : Bool → List Hd → List V → Out} (h : ∀ hs args, Pre hs args → ∀ lv H, WF H → RdH H lv hs → ∀ τ, ∃ v H' τ', Gr H.size H H' ∧ (g (isNil lv) hs args).Met H v H' ∧ ∀ q, CR l N d f (lv :: args) H τ q = q v H' τ') : ∀ base w0, PrimOk PG base w0 f (outP (RH Pre g)) := by
 refine primOk_out mixed_ok hl N d f ?_
 rintro vs H o hw hvs ⟨lv, args, hs, rfl, hr, hp, rfl⟩ τ
 obtain ⟨v, H', τ', g1, hm, k1⟩ := h hs args hp lv H hw hr τ
 exact ⟨_, H', τ', k1 retK, g1, hm⟩
theorem LsH.lst {H : Heap} {B : Nat} {v : V} {hs : List Hd} (h : LsH H B v hs) (hn : hs ≠ []) : FreshL B H 2 hs.length (hcells hs) v := Got.lst h.1.apd.got (fun e => hn (List.eq_nil_of_length_eq_zero e))
theorem RdH.nils {H : Heap} {hs : List Hd} (h : RdH H .nils hs) : hs = [] := by
 rcases h.1 with ⟨_, h0, _⟩ | ⟨_, _, _, _, _, e, _⟩
 ·exact List.eq_nil_of_length_eq_zero h0
 ·cases e
theorem eq_hd (x : Hd) : pEq true (.flat [.str, .str]) [hv x, hv x] = some (.bool false) := by
 simp [pEq, hv, eqV, eqFlat, eqS, eqB_eq]
theorem l_book_Same_Header (c : CallK) (N : Nat) (a b : V) (hs : List Hd) (hl : hs.length ≤ 1000000) (H : Heap) (ha : RdH H a hs) (hb : RdH H b hs) :
  ∀ (l pre : List Hd) (fr : T V) (τ : Tape) (m : Nat), hs = pre ++ l → l.length < m → fr.get 0 = some a → fr.get 1 = some b → fr.get 5 = some (.int .i64 (pre.length : Int)) →
  ∀ k, loopK (s_book_Same_Header_l1 c N) m ⟨fr, H⟩ τ k = k (.exit 0) ⟨.leaf, H⟩ τ := by
 intro l
 induction l with
 | nil =>
  intro pre fr τ m he hm f0 f1 f5 k
  obtain ⟨m, rfl⟩ : ∃ j, m = j + 1 := ⟨m - 1, by omega⟩
  have e1 : decide (pre.length < hs.length) = false := decide_eq_false (by rw [he]; simp)
  rw [loopK_succ]
  simp only [s_book_Same_Header_l1, getK_mk f0, getK_mk f1, getK_mk f5, ha.1.pLen, getK_set, ↓reduceIte, Nat.reduceEqDiff, someK_n, effK_n, retK, gK_do, gK_do', gK_skip, gK_skip', gK_none, pick_mk, cond_true, cond_false, condK_tn, condK_fn, bin_eql, bin_neq, bin_lss, bin_leq, bin_gtr, bin_geq, un_not, Bool.not_true, Bool.not_false, bin_str, lenS_mk, nle_l, nle_r, nle_n, nlt_l, nlt_r, nlt_n, neq_r, neq_n, nne_r, nne_n, ext0, ext1, ext30, ext31, ext32, bin_add, bin_sub, decide_true, decide_false, e1]
  rfl
 | cons x l ih =>
  intro pre fr τ m he hm f0 f1 f5 k
  obtain ⟨m, rfl⟩ : ∃ j, m = j + 1 := ⟨m - 1, by omega⟩
  have hlt : pre.length < hs.length := by rw [he]; simp
  have e1 : decide (pre.length < hs.length) = true := decide_eq_true hlt
  have e3 : wr .i64 ((pre.length : Int) + Int.ofNat 1) = ((pre ++ [x]).length : Int) := by rw [adI (by omega)]; simp
  obtain ⟨id, o, p1, p2⟩ := hd_at (v := a) pre x l (H := H) (by rw [← he]; exact ha.1)
  have q1 := (p2 H (by rw [← he]; exact ha.1)).1
  obtain ⟨id', o', p3, p4⟩ := hd_at (v := b) pre x l (H := H) (by rw [← he]; exact hb.1)
  have q3 := (p4 H (by rw [← he]; exact hb.1)).1
  rw [loopK_succ]
  simp only [s_book_Same_Header_l1, getK_mk f0, getK_mk f1, getK_mk f5, ha.1.pLen, getK_set, ↓reduceIte, Nat.reduceEqDiff, someK_n, effK_n, retK, gK_do, gK_do', gK_skip, gK_skip', gK_none, pick_mk, cond_true, cond_false, condK_tn, condK_fn, bin_eql, bin_neq, bin_lss, bin_leq, bin_gtr, bin_geq, un_not, Bool.not_true, Bool.not_false, bin_str, lenS_mk, nle_l, nle_r, nle_n, nlt_l, nlt_r, nlt_n, neq_r, neq_n, nne_r, nne_n, ext0, ext1, ext30, ext31, ext32, bin_add, bin_sub, decide_true, decide_false, e1, p1, q1, p3, q3, eq_hd, e3]
  exact ih (pre ++ [x]) _ τ m (by rw [he]; simp) (by simp at hm; omega) (by simp [T.get_set]) (by simp [T.get_set]) (by simp [T.get_set]) k
theorem s_book_Same_Header_ret (c : CallK) {N : Nat} (hN : 9223372036854775807 < N) (a b : V) (hs : List Hd) (hl : hs.length ≤ 1000000) (H : Heap) (ha : RdH H a hs) (hb : RdH H b hs) (τ : Tape) (q : KV) : s_book_Same_Header c N a b H τ q = q (.bool true) H τ := by
 have e1 : ((hs.length : Int) != (hs.length : Int)) = false := by simp
 simp only [s_book_Same_Header, ha.1.pLen, hb.1.pLen, someK_n, bin_neq, e1, condK_fn]
 rw [l_book_Same_Header c N a b hs hl H ha hb hs [] _ τ N rfl (by omega) (by simp [T.get_set]) (by simp [T.get_set]) (by simp [T.get_set])]
 simp only [blockK, Nat.beq_refl, cond_true, seqK, s_book_Same_Header_j0]
def SameR (vs : List V) (H : Heap) (o : Out) : Prop := ∃ a b hs, vs = [a, b] ∧ RdH H a hs ∧ RdH H b hs ∧ hs.length ≤ 1000000 ∧ o = .val (.bool true)
theorem SameR_fun : Fun1 SameR := by
 rintro vs H o o' ⟨_, _, _, _, _, _, _, rfl⟩ ⟨_, _, _, _, _, _, _, rfl⟩; rfl
theorem p_book_Same_Header : ∀ base w0, PrimOk PG base w0 f_book_Same_Header (outP SameR) := by
 obtain ⟨N, hN⟩ := someN
 refine primOk_out mixed_ok (l := [Row.fn f_book_Same_Header fn_book_Same_Header e_book_Same_Header]) (.fn ok_book_Same_Header e_book_Same_Header_ok (.nil _)) N 1 _ ?_
 rintro vs H o hw hvs ⟨a, b, hs, rfl, ha, hb, hl, rfl⟩ τ
 exact ⟨_, H, τ, s_book_Same_Header_ret (CR [Row.fn f_book_Same_Header fn_book_Same_Header e_book_Same_Header] N 0) hN a b hs hl H ha hb τ retK, Gr.refl hw, rfl, trivial⟩
theorem k_book_Same_Header {c : CallK} (h : IsP c f_book_Same_Header SameR) {a b : V} {hs : List Hd} (hl : hs.length ≤ 1000000) {H : Heap} (ha : RdH H a hs) (hb : RdH H b hs) (τ : Tape) (q : KV) : c f_book_Same_Header [a, b] H τ q = q (.bool true) H τ :=
 outK_val h SameR_fun ⟨a, b, hs, rfl, ha, hb, hl, rfl⟩ τ q
abbrev FewHPre (hs : List Hd) : List V → Prop | [.int .i64 (.ofNat nn), .int .i64 (.ofNat mm)] => hs.length ≤ 9223372036854775807 ∧ 1 ≤ nn ∧ nn ≤ 1000 | _ => False
abbrev FewHG (_ : Bool) (hs : List Hd) : List V → Out | [.int .i64 (.ofNat nn), .int .i64 (.ofNat mm)] => lstO 2 (fewH nn mm hs).length (hcells (fewH nn mm hs)) (fun v => v) | _ => .val (.tup [])
theorem s_keep_Few_ret (c : CallK) (N : Nat) (s : Bs) (m : Nat) (H : Heap) (τ : Tape) (q : KV) : s_keep_Few c N (.str s) (.int .i64 (m : Int)) H τ q = q (.str (s.take m)) H τ := s14_eval c N s m H τ q
abbrev rw_FewH : List Row := [Row.fn f_keep_FewHeaders fn_keep_FewHeaders e_keep_FewHeaders, Row.fn f_keep_Few fn_keep_Few e_keep_Few]
theorem p_keep_FewHeaders : ∀ base w0, PrimOk PG base w0 f_keep_FewHeaders (outP (RH FewHPre FewHG)) := by
 obtain ⟨N, hN⟩ := someN
 refine primRH (N := N) (l := rw_FewH) (.fn ok_keep_FewHeaders e_keep_FewHeaders_ok (.fn ok_keep_Few e_keep_Few_ok (.nil _))) 2 _ (fun hs args hp lv H hw hr τ => ?_)
 unfold FewHPre at hp; split at hp
 ·rename_i nn mm
  obtain ⟨v', H', τ', h1, h2, h3, h4⟩ := s_keep_FewHeaders_ret (CR rw_FewH N 1) N hN (fun s m H τ q => s_keep_Few_ret (CR rw_FewH N 0) N s m H τ q) hs hp.1 nn mm hp.2.2 lv H hw hr.1 τ
  refine ⟨v', H', τ', h1, ?_, h4⟩
  refine Got.met h2.apd.got (fun h0 => h3 ?_) mkOk_id (hcells_vok _ _) trivial
  have : (hs.take nn).length = 0 := by unfold fewH at h0; rw [List.length_map] at h0; exact h0
  rw [List.length_take] at this
  exact List.eq_nil_of_length_eq_zero (by omega)
 ·exact hp.elim
theorem k_keep_FewHeaders {c : CallK} (h : IsP c f_keep_FewHeaders (RH FewHPre FewHG)) {hs : List Hd} (hl : hs.length ≤ 9223372036854775807) (nn mm : Nat) (h1 : 1 ≤ nn) (hn : nn ≤ 1000) {lv : V} {H : Heap} (hw : WF H) (hr : RdH H lv hs) (τ : Tape) :
  ∃ v' H' τ', Own H' H.size 2 v' (fewH nn mm hs).length (hcells (fewH nn mm hs)) ∧ Gr H.size H H' ∧ ∀ q, c f_keep_FewHeaders [lv, .int .i64 (.ofNat nn), .int .i64 (.ofNat mm)] H τ q = q v' H' τ' := by
 obtain ⟨v', H', τ', h1, h2, h3⟩ := RH_lstO (v := lv) (l := [.int .i64 (.ofNat nn), .int .i64 (.ofNat mm)]) h hr ⟨hl, h1, hn⟩ rfl hw (by rw [hcells_length]) τ
 exact ⟨v', H', τ', h1, h2, h3⟩
end Go.Am.X

namespace Go.Am.X
theorem l_ref1_Has (c : CallK) (N : Nat) (lv : V) (ss : List Bs) (x : Bs) (hl : ss.length < 9223372036854775807) (H : Heap) (hr : Rd H 1 lv ss.length (ss.map V.str)) : ∀ (l pre : List Bs) (τ : Tape) (m : Nat), ss = pre ++ l → l.length < m →
  ∀ (fr : T V) k, fr.get 0 = some lv → fr.get 1 = some (.str x) → fr.get 5 = some (.int .i64 (pre.length : Int)) →
  loopK (s_ref1_Has_l1 c N) m ⟨fr, H⟩ τ k = bif l.contains x then k .ret ⟨(T.set .leaf 4 (.bool true)), H⟩ τ else k (.exit 0) ⟨.leaf, H⟩ τ := by
 intro l
 induction l with
 | nil =>
  intro pre τ m he hm fr k f0 f1 f5
  obtain ⟨m, rfl⟩ : ∃ j, m = j + 1 := ⟨m - 1, by omega⟩
  have e1 : decide (pre.length < ss.length) = false := decide_eq_false (by rw [he]; simp)
  rw [loopK_succ]
  simp only [s_ref1_Has_l1, getK_mk f0, getK_mk f1, getK_mk f5, hr.pLen, getK_set, ↓reduceIte, Nat.reduceEqDiff, someK_n, effK_n, retK, gK_do, gK_do', gK_skip, gK_skip', gK_none, pick_mk, cond_true, cond_false, condK_tn, condK_fn, bin_eql, bin_neq, bin_lss, bin_leq, bin_gtr, bin_geq, un_not, Bool.not_true, Bool.not_false, bin_str, lenS_mk, nle_l, nle_r, nle_n, nlt_l, nlt_r, nlt_n, neq_r, neq_n, nne_r, nne_n, ext0, ext1, ext30, ext31, ext32, bin_add, bin_sub, decide_true, decide_false, e1]
  rfl
 | cons y l ih =>
  intro pre τ m he hm fr k f0 f1 f5
  obtain ⟨m, rfl⟩ : ∃ j, m = j + 1 := ⟨m - 1, by omega⟩
  have hlt : pre.length < ss.length := by rw [he]; simp
  have e1 : decide (pre.length < ss.length) = true := decide_eq_true hlt
  have e3 : wr .i64 ((pre.length : Int) + Int.ofNat 1) = ((pre ++ [y]).length : Int) := by rw [adI (by omega)]; simp
  obtain ⟨p, p1, p2⟩ := hr.elem1 (i := pre.length) (x := .str y) (by rw [he]; simp)
  have ec : (y :: l).contains x = ((y == x) || l.contains x) := by
   rw [List.contains_cons]
   have : (x == y) = (y == x) := BEq.comm
   rw [this]
  rw [loopK_succ, ec]
  cases hb : (y == x) with
  | true =>
   simp only [s_ref1_Has_l1, getK_mk f0, getK_mk f1, getK_mk f5, hr.pLen, getK_set, ↓reduceIte, Nat.reduceEqDiff, someK_n, effK_n, retK, gK_do, gK_do', gK_skip, gK_skip', gK_none, pick_mk, cond_true, cond_false, condK_tn, condK_fn, bin_eql, bin_neq, bin_lss, bin_leq, bin_gtr, bin_geq, un_not, Bool.not_true, Bool.not_false, bin_str, lenS_mk, nle_l, nle_r, nle_n, nlt_l, nlt_r, nlt_n, neq_r, neq_n, nne_r, nne_n, ext0, ext1, ext30, ext31, ext32, bin_add, bin_sub, decide_true, decide_false, e1, p1, p2, str_eql, hb, Bool.true_or]
   rfl
  | false =>
   simp only [s_ref1_Has_l1, getK_mk f0, getK_mk f1, getK_mk f5, hr.pLen, getK_set, ↓reduceIte, Nat.reduceEqDiff, someK_n, effK_n, retK, gK_do, gK_do', gK_skip, gK_skip', gK_none, pick_mk, cond_true, cond_false, condK_tn, condK_fn, bin_eql, bin_neq, bin_lss, bin_leq, bin_gtr, bin_geq, un_not, Bool.not_true, Bool.not_false, bin_str, lenS_mk, nle_l, nle_r, nle_n, nlt_l, nlt_r, nlt_n, neq_r, neq_n, nne_r, nne_n, ext0, ext1, ext30, ext31, ext32, bin_add, bin_sub, decide_true, decide_false, e1, p1, p2, str_eql, hb, Bool.false_or, e3]
   exact ih (pre ++ [y]) τ m (by rw [he]; simp) (by simp at hm; omega) _ k (by simp [T.get_set]) (by simp [T.get_set]) (by simp [T.get_set])
theorem s_ref1_Has_ret (c : CallK) {N : Nat} (hN : 9223372036854775807 < N) (lv : V) (ss : List Bs) (x : Bs) (hl : ss.length ≤ 9223372036854775806) (H : Heap) (hr : Rd H 1 lv ss.length (ss.map V.str)) (τ : Tape) (q : KV) : s_ref1_Has c N lv (.str x) H τ q = q (.bool (ss.contains x)) H τ := by
 simp only [s_ref1_Has]
 rw [l_ref1_Has c N lv ss x (by omega) H hr ss [] τ N rfl (by omega) _ _ (by simp [T.get_set]) (by simp [T.get_set]) (by simp [T.get_set])]
 cases hb : ss.contains x with
 | true => simp only [cond_true, blockK, seqK, endK]; rfl
 | false => simp only [cond_false, blockK, Nat.beq_refl, cond_true, seqK, s_ref1_Has_j0]
def HasR (vs : List V) (H : Heap) (o : Out) : Prop := ∃ (lv : V) (ss : List Bs) (x : Bs), vs = [lv, .str x] ∧ Rd H 1 lv ss.length (ss.map V.str) ∧ ss.length ≤ 9223372036854775806 ∧ o = .val (.bool (ss.contains x))
theorem strs_inj {a b : List Bs} (h : a.map V.str = b.map V.str) : a = b := by
 have := congrArg (List.map fun | V.str s => s | _ => []) h
 simpa [List.map_map, Function.comp_def] using this
theorem HasR_fun : Fun1 HasR := by
 rintro vs H o o' ⟨lv, ss, x, rfl, h1, _, rfl⟩ ⟨lv', ss', x', e, h2, _, rfl⟩
 cases e
 rw [strs_inj (h1.uniq h2).2]
theorem p_ref1_Has : ∀ base w0, PrimOk PG base w0 f_ref1_Has (outP HasR) := by
 obtain ⟨N, hN⟩ := someN
 refine primOk_out mixed_ok (l := [Row.fn f_ref1_Has fn_ref1_Has e_ref1_Has]) (.fn ok_ref1_Has e_ref1_Has_ok (.nil _)) N 1 _ ?_
 rintro vs H o hw hvs ⟨lv, ss, x, rfl, hr, hl, rfl⟩ τ
 exact ⟨_, H, τ, s_ref1_Has_ret (CR [Row.fn f_ref1_Has fn_ref1_Has e_ref1_Has] N 0) hN lv ss x hl H hr τ retK, Gr.refl hw, rfl, trivial⟩
theorem k_ref1_Has {c : CallK} (h : IsP c f_ref1_Has HasR) {lv : V} {ss : List Bs} (x : Bs) {H : Heap} (hr : Rd H 1 lv ss.length (ss.map V.str)) (hl : ss.length ≤ 9223372036854775806) (τ : Tape) (q : KV) : c f_ref1_Has [lv, .str x] H τ q = q (.bool (ss.contains x)) H τ :=
 outK_val h HasR_fun ⟨lv, ss, x, rfl, hr, hl, rfl⟩ τ q
end Go.Am.X

