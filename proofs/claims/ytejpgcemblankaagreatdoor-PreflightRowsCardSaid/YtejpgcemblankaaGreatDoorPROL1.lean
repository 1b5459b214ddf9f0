/- The abstract machine, printed functions of the program, and what they are shown to be. -/
import Derived.Test.YtejpgcemblankaaGreatDoorPROL0
set_option linter.unusedSimpArgs false
set_option linter.unusedVariables false
set_option linter.unusedSectionVars false
set_option maxRecDepth 100000
namespace Go.Am.X
theorem putP_len {k : PKey} {g now : Int} {rows : List PRow} (h : rows.length ≤ 32) : (putP k g now rows).length ≤ 32 := by
 have hf : (rows.filter fun x => !decide (x.1 = k)).length ≤ rows.length := List.length_filter_le _ _
 unfold putP
 split
 ·omega
 ·split
  ·rw [List.length_drop, List.length_append]; simp; omega
  ·omega
def putMs (self url : Bs) (cred meth : Bool) (g now : Int) : List Bs → List PRow → List PRow
 | [], rows => rows
 | s :: l, rows => putMs self url cred meth g now l (putP (self, url, cred, meth, s) g now rows)
theorem putMs_len {self url : Bs} {cred meth : Bool} {g now : Int} : ∀ (l : List Bs) {rows : List PRow}, rows.length ≤ 32 → (putMs self url cred meth g now l rows).length ≤ 32 := by
 intro l
 induction l with
 | nil => intro rows h; exact h
 | cons s l ih => intro rows h; exact ih (putP_len h)
structure GrT where
 ms : List Bs
 ns : List Bs
 all : Bool
 age : Int
def putT (self url : Bs) (cred : Bool) (g : GrT) (now : Int) (rows : List PRow) : List PRow :=
 let r := putMs self url cred false g.age now g.ns (putMs self url cred true g.age now g.ms rows)
 if g.all then putP (self, url, cred, false, [42]) g.age now r else r
abbrev TCh (P : Nat → Prop) (t : Nat) : Nat → Prop := fun i => P i ∨ i = t
abbrev PutOkT (c : CallK) : Prop := ∀ {P : Nat → Prop} {H : Heap} {t : Nat} {rows : List PRow}, TabR P H t rows → WF H → NewIn P H → rows.length ≤ 32 → ∀ (k : PKey) (m n : V), m.cells = [m] ∧ m.scal = true → n.cells = [n] ∧ n.scal = true → ∀ (all : Bool) {g now : Int}, g ≤ mostP → 0 ≤ now → now ≤ mostP → ∀ τ,
  ∃ H' τ', TabR P H' t (putP k g now rows) ∧ Chg (fun i => P i ∨ i = t) H H' ∧ ∀ q, c f_preflight_Table_put [.ptr t 0, .agg (pkC k), .agg [m, n, .bool all, .int .i64 g], .int .i64 now] H τ q = q (.tup []) H' τ'
section
variable (c : CallK) (N : Nat) (hPut : PutOkT c) (self url : Bs) (cred : Bool) (m n : V) (hm : m.cells = [m] ∧ m.scal = true) (hn : n.cells = [n] ∧ n.scal = true) (all : Bool) {g now : Int} (hg : g ≤ mostP) (h0 : 0 ≤ now) (h0' : now ≤ mostP)
 {P : Nat → Prop} {H0 : Heap} (hw0 : WF H0) (hP : NewIn P H0) (t b : Nat) (hb : Bx H0 b [m, n, .bool all, .int .i64 g]) (hbP : ¬ P b) (hbt : b ≠ t)
include hPut hm hn hg h0 h0' hw0 hP hb hbP hbt
theorem l_tput3 (ms : List Bs) (hml : ms.length ≤ 1000000) (hr : ∀ H', Chg (TCh P t) H0 H' → Rd H' 1 m ms.length (ms.map V.str)) :
  ∀ (l pre : List Bs) (rows : List PRow) (H : Heap) (τ : Tape) (M : Nat), ms = pre ++ l → l.length < M → Chg (TCh P t) H0 H → TabR P H t rows → rows.length ≤ 32 →
  ∃ H' τ', TabR P H' t (putMs self url cred true g now l rows) ∧ Chg (TCh P t) H0 H' ∧ ∀ (fr : T V) k, fr.get 0 = some (.ptr t 0) → fr.get 1 = some (.str self) → fr.get 2 = some (.str url) → fr.get 3 = some (.bool cred) → fr.get 5 = some (.int .i64 now) → fr.get 10 = some (.ptr b 0) → fr.get 17 = some m → fr.get 18 = some (.int .i64 (ms.length : Int)) → fr.get 19 = some (.int .i64 (pre.length : Int)) →
   loopK (s_preflight_Table_Put_l3 c N) M ⟨fr, H⟩ τ k = k (.exit 0) ⟨(T.set (T.set (T.set (T.set (T.set (T.set .leaf 0 (.ptr t 0)) 1 (.str self)) 2 (.str url)) 3 (.bool cred)) 5 (.int .i64 now)) 10 (.ptr b 0)), H'⟩ τ' := by
 intro l
 induction l with
 | nil =>
  intro pre rows H τ M he hM hc ht hl
  obtain ⟨M, rfl⟩ : ∃ j, M = j + 1 := ⟨M - 1, by omega⟩
  have e1 : decide ((pre.length : Int) < (ms.length : Int)) = false := decide_eq_false (by rw [he]; simp)
  refine ⟨H, τ, ht, hc, fun fr k f0 f1 f2 f3 f5 f10 f17 f18 f19 => ?_⟩
  rw [loopK_succ]
  simp only [s_preflight_Table_Put_l3, getK_mk f0, getK_mk f1, getK_mk f2, getK_mk f3, getK_mk f5, getK_mk f10, getK_mk f17, getK_mk f18, getK_mk f19, bin_lss, e1, condK_fn]
  rfl
 | cons s l ih =>
  intro pre rows H τ M he hM hc ht hl
  obtain ⟨M, rfl⟩ : ∃ j, M = j + 1 := ⟨M - 1, by omega⟩
  have hlt : pre.length < ms.length := by rw [he]; simp
  have e1 : decide ((pre.length : Int) < (ms.length : Int)) = true := decide_eq_true (by omega)
  have e3 : wr .i64 ((pre.length : Int) + Int.ofNat 1) = ((pre ++ [s]).length : Int) := by rw [adI (by omega)]; simp
  obtain ⟨p, p1, p2⟩ := (hr H hc).elem1 (i := pre.length) (x := .str s) (by rw [he]; simp)
  have hbH := hb.chg hw0 hc (fun h => h.elim hbP hbt)
  have pb : pBuild [(.str []), (.str []), (.bool false), (.bool false), (.str [])] [(0, 1), (1, 1), (2, 1), (3, 1), (4, 1)] [.str self, .str url, .bool cred, (.bool true), .str s] = some (.agg (pkC (self, url, cred, true, s))) := rfl
  have lg : lLoadN 4 [.ptr b 0] H = some (.agg [m, n, .bool all, .int .i64 g]) := load_cells hbH.cells (by simp)
  obtain ⟨H1, τ1, u1, u2, u3⟩ := hPut ht hc.wf (fun i hi => hP i (Nat.le_trans hc.size hi)) hl (self, url, cred, true, s) m n hm hn all hg h0 h0' τ
  have hc1 : Chg (TCh P t) H0 H1 := hc.trans u2 fun _ _ h => h
  obtain ⟨H', τ', r1, r2, r3⟩ := ih (pre ++ [s]) (putP (self, url, cred, true, s) g now rows) H1 τ1 M (by rw [he]; simp) (by simp at hM; omega) hc1 u1 (putP_len hl)
  refine ⟨H', τ', r1, r2, fun fr k f0 f1 f2 f3 f5 f10 f17 f18 f19 => ?_⟩
  rw [loopK_succ]
  simp only [s_preflight_Table_Put_l3, getK_mk f0, getK_mk f1, getK_mk f2, getK_mk f3, getK_mk f5, getK_mk f10, getK_mk f17, getK_mk f18, getK_mk f19, bin_lss, e1, condK_tn, p1, p2, someK_n, pb, lg, u3, bin_add, e3]
  exact r3 _ k (by simp [T.get_set]) (by simp [T.get_set]) (by simp [T.get_set]) (by simp [T.get_set]) (by simp [T.get_set]) (by simp [T.get_set]) (by simp [T.get_set]) (by simp [T.get_set]) (by simp [T.get_set])
theorem l_tput2 (ms : List Bs) (hml : ms.length ≤ 1000000) (hr : ∀ H', Chg (TCh P t) H0 H' → Rd H' 1 n ms.length (ms.map V.str)) :
  ∀ (l pre : List Bs) (rows : List PRow) (H : Heap) (τ : Tape) (M : Nat), ms = pre ++ l → l.length < M → Chg (TCh P t) H0 H → TabR P H t rows → rows.length ≤ 32 →
  ∃ H' τ', TabR P H' t (putMs self url cred false g now l rows) ∧ Chg (TCh P t) H0 H' ∧ ∀ (fr : T V) k, fr.get 0 = some (.ptr t 0) → fr.get 1 = some (.str self) → fr.get 2 = some (.str url) → fr.get 3 = some (.bool cred) → fr.get 5 = some (.int .i64 now) → fr.get 10 = some (.ptr b 0) → fr.get 34 = some n → fr.get 35 = some (.int .i64 (ms.length : Int)) → fr.get 36 = some (.int .i64 (pre.length : Int)) →
   loopK (s_preflight_Table_Put_l2 c N) M ⟨fr, H⟩ τ k = k (.exit 2) ⟨(T.set (T.set (T.set (T.set (T.set (T.set .leaf 0 (.ptr t 0)) 1 (.str self)) 2 (.str url)) 3 (.bool cred)) 5 (.int .i64 now)) 10 (.ptr b 0)), H'⟩ τ' := by
 intro l
 induction l with
 | nil =>
  intro pre rows H τ M he hM hc ht hl
  obtain ⟨M, rfl⟩ : ∃ j, M = j + 1 := ⟨M - 1, by omega⟩
  have e1 : decide ((pre.length : Int) < (ms.length : Int)) = false := decide_eq_false (by rw [he]; simp)
  refine ⟨H, τ, ht, hc, fun fr k f0 f1 f2 f3 f5 f10 f17 f18 f19 => ?_⟩
  rw [loopK_succ]
  simp only [s_preflight_Table_Put_l2, getK_mk f0, getK_mk f1, getK_mk f2, getK_mk f3, getK_mk f5, getK_mk f10, getK_mk f17, getK_mk f18, getK_mk f19, bin_lss, e1, condK_fn]
  rfl
 | cons s l ih =>
  intro pre rows H τ M he hM hc ht hl
  obtain ⟨M, rfl⟩ : ∃ j, M = j + 1 := ⟨M - 1, by omega⟩
  have hlt : pre.length < ms.length := by rw [he]; simp
  have e1 : decide ((pre.length : Int) < (ms.length : Int)) = true := decide_eq_true (by omega)
  have e3 : wr .i64 ((pre.length : Int) + Int.ofNat 1) = ((pre ++ [s]).length : Int) := by rw [adI (by omega)]; simp
  obtain ⟨p, p1, p2⟩ := (hr H hc).elem1 (i := pre.length) (x := .str s) (by rw [he]; simp)
  have hbH := hb.chg hw0 hc (fun h => h.elim hbP hbt)
  have pb : pBuild [(.str []), (.str []), (.bool false), (.bool false), (.str [])] [(0, 1), (1, 1), (2, 1), (3, 1), (4, 1)] [.str self, .str url, .bool cred, (.bool false), .str s] = some (.agg (pkC (self, url, cred, false, s))) := rfl
  have lg : lLoadN 4 [.ptr b 0] H = some (.agg [m, n, .bool all, .int .i64 g]) := load_cells hbH.cells (by simp)
  obtain ⟨H1, τ1, u1, u2, u3⟩ := hPut ht hc.wf (fun i hi => hP i (Nat.le_trans hc.size hi)) hl (self, url, cred, false, s) m n hm hn all hg h0 h0' τ
  have hc1 : Chg (TCh P t) H0 H1 := hc.trans u2 fun _ _ h => h
  obtain ⟨H', τ', r1, r2, r3⟩ := ih (pre ++ [s]) (putP (self, url, cred, false, s) g now rows) H1 τ1 M (by rw [he]; simp) (by simp at hM; omega) hc1 u1 (putP_len hl)
  refine ⟨H', τ', r1, r2, fun fr k f0 f1 f2 f3 f5 f10 f17 f18 f19 => ?_⟩
  rw [loopK_succ]
  simp only [s_preflight_Table_Put_l2, getK_mk f0, getK_mk f1, getK_mk f2, getK_mk f3, getK_mk f5, getK_mk f10, getK_mk f17, getK_mk f18, getK_mk f19, bin_lss, e1, condK_tn, p1, p2, someK_n, pb, lg, u3, bin_add, e3]
  exact r3 _ k (by simp [T.get_set]) (by simp [T.get_set]) (by simp [T.get_set]) (by simp [T.get_set]) (by simp [T.get_set]) (by simp [T.get_set]) (by simp [T.get_set]) (by simp [T.get_set]) (by simp [T.get_set])
end
theorem s_preflight_Table_Put_ret (c : CallK) {N : Nat} (hN : 9223372036854775807 ≤ N) (hPut : PutOkT c) {P : Nat → Prop} {H : Heap} {t : Nat} {rows : List PRow} (ht : TabR P H t rows) (hw : WF H) (hP : NewIn P H) (hl : rows.length ≤ 32) (self url : Bs) (cred : Bool) (gr : GrT) (m n : V)
  (hm : m.cells = [m] ∧ m.scal = true) (hn : n.cells = [n] ∧ n.scal = true) (hml : gr.ms.length ≤ 1000000) (hnl : gr.ns.length ≤ 1000000) (hrm : ∀ H', Chg (TCh P t) H H' → Rd H' 1 m gr.ms.length (gr.ms.map V.str)) (hrn : ∀ H', Chg (TCh P t) H H' → Rd H' 1 n gr.ns.length (gr.ns.map V.str))
  (hg : gr.age ≤ mostP) {now : Int} (h0 : 0 ≤ now) (h0' : now ≤ mostP) (τ : Tape) :
  ∃ H' τ', TabR P H' t (putT self url cred gr now rows) ∧ Chg (TCh P t) H H' ∧ ∀ q, s_preflight_Table_Put c N (.ptr t 0) (.str self) (.str url) (.bool cred) (.agg [m, n, .bool gr.all, .int .i64 gr.age]) (.int .i64 now) H τ q = q (.tup []) H' τ' := by
 have htl := ht.lt hw
 have e0 : eBox [.agg [m, n, .bool gr.all, .int .i64 gr.age]] H τ = some (.ptr H.size 0, H.new [m, n, .bool gr.all, .int .i64 gr.age] 4 true, τ) := rfl
 have g1 := Gr.new hw [m, n, .bool gr.all, .int .i64 gr.age] 4 true
 have b1 : Bx (H.new [m, n, .bool gr.all, .int .i64 gr.age] 4 true) H.size [m, n, .bool gr.all, .int .i64 gr.age] := Bx.new H _ 4 true (by simp)
 have z1 : (H.new [m, n, .bool gr.all, .int .i64 gr.age] 4 true).size = H.size + 1 := rfl
 generalize H.new [m, n, .bool gr.all, .int .i64 gr.age] 4 true = H1 at e0 g1 b1 z1
 let P' : Nat → Prop := fun i => (i < H.size ∧ P i) ∨ H1.size ≤ i
 have hP' : NewIn P' H1 := fun i hi => .inr hi
 have hsub : ∀ i, P' i → P i := fun i h => h.elim (fun h => h.2) (fun h => hP i (by omega))
 have hbP : ¬ P' H.size := fun h => h.elim (fun h => by omega) (fun h => by omega)
 have hbt : H.size ≠ t := by omega
 have nt : ¬ P' t := fun h => ht.2 (hsub t h)
 have t1 : TabR P' H1 t rows := (ht.weaken hw (fun i hi h => .inl ⟨hi, h⟩) nt).gr hw g1
 have lift : ∀ H', Chg (TCh P' t) H1 H' → Chg (TCh P t) H H' := fun H' hc => (g1.chg (P := TCh P t)).trans hc fun i _ h => h.elim (fun h => .inl (hsub i h)) .inr
 obtain ⟨H2, τ2, a1, a2, a3⟩ := l_tput3 c N hPut self url cred m n hm hn gr.all hg h0 h0' g1.wf hP' t H.size b1 hbP hbt gr.ms hml (fun H' hc => hrm H' (lift H' hc)) gr.ms [] rows H1 τ N rfl (by omega) (Chg.refl g1.wf) t1 hl
 obtain ⟨H3, τ3, c1, c2, c3⟩ := l_tput2 c N hPut self url cred m n hm hn gr.all hg h0 h0' g1.wf hP' t H.size b1 hbP hbt gr.ns hnl (fun H' hc => hrn H' (lift H' hc)) gr.ns [] _ H2 τ2 N rfl (by omega) a2 a1 (putMs_len _ hl)
 have b2 := b1.chg g1.wf a2 (fun h => h.elim hbP hbt)
 have b3 := b1.chg g1.wf c2 (fun h => h.elim hbP hbt)
 have l1 : lLoad1 [.ptr H.size (0 + 0)] H1 = some m := load_cell b1.cells rfl
 have l2 : lLoad1 [.ptr H.size (0 + 1)] H2 = some n := load_cell b2.cells rfl
 have l3 : lLoad1 [.ptr H.size (0 + 2)] H3 = some (.bool gr.all) := load_cell b3.cells rfl
 have l4 : lLoadN 4 [.ptr H.size 0] H3 = some (.agg [m, n, .bool gr.all, .int .i64 gr.age]) := load_cells b3.cells (by simp)
 have pm := (hrm H1 (lift H1 (Chg.refl g1.wf))).pLen
 have pn := (hrn H2 (lift H2 a2)).pLen
 have start : ∀ q, s_preflight_Table_Put c N (.ptr t 0) (.str self) (.str url) (.bool cred) (.agg [m, n, .bool gr.all, .int .i64 gr.age]) (.int .i64 now) H τ q = s_preflight_Table_Put_j1 c N q ⟨(T.set (T.set (T.set (T.set (T.set (T.set .leaf 0 (.ptr t 0)) 1 (.str self)) 2 (.str url)) 3 (.bool cred)) 5 (.int .i64 now)) 10 (.ptr H.size 0)), H3⟩ τ3 := fun q => by
  simp only [s_preflight_Table_Put, e0, effK_n, pFieldAddr, someK_n, l1, pm]
  rw [a3 _ _ (by simp [T.get_set]) (by simp [T.get_set]) (by simp [T.get_set]) (by simp [T.get_set]) (by simp [T.get_set]) (by simp [T.get_set]) (by simp [T.get_set]) (by simp [T.get_set]) (by simp [T.get_set])]
  simp only [blockK, Nat.beq_refl, cond_true, seqK, s_preflight_Table_Put_j0, getK_set, ↓reduceIte, Nat.reduceEqDiff, pFieldAddr, someK_n, l2, pn]
  rw [c3 _ _ (by simp [T.get_set]) (by simp [T.get_set]) (by simp [T.get_set]) (by simp [T.get_set]) (by simp [T.get_set]) (by simp [T.get_set]) (by simp [T.get_set]) (by simp [T.get_set]) (by simp [T.get_set])]
  simp only [blockK, Nat.beq_refl, cond_true, seqK]
 unfold putT
 simp only
 cases hall : gr.all with
 | false =>
  rw [hall] at l3 start
  refine ⟨H3, τ3, c1.weaken c2.wf (fun i _ h => hsub i h) ht.2, lift H3 c2, fun q => ?_⟩
  rw [start q]
  simp only [s_preflight_Table_Put_j1, getK_set, ↓reduceIte, Nat.reduceEqDiff, pFieldAddr, someK_n, l3, condK_fn]
 | true =>
  have pb : pBuild [(.str []), (.str []), (.bool false), (.bool false), (.str [])] [(0, 1), (1, 1), (2, 1), (3, 1), (4, 1)] [.str self, .str url, .bool cred, (.bool false), (.str (bs [42]))] = some (.agg (pkC (self, url, cred, false, [42]))) := rfl
  obtain ⟨H4, τ4, u1, u2, u3⟩ := hPut c1 c2.wf (fun i hi => hP' i (Nat.le_trans c2.size hi)) (putMs_len _ (putMs_len _ hl)) (self, url, cred, false, [42]) m n hm hn gr.all hg h0 h0' τ3
  rw [hall] at l3 start l4 u3
  have c4 : Chg (TCh P' t) H1 H4 := c2.trans u2 fun _ _ h => h
  refine ⟨H4, τ4, ?_, lift H4 c4, fun q => ?_⟩
  ·rw [if_pos rfl]; exact u1.weaken c4.wf (fun i _ h => hsub i h) ht.2
  ·rw [start q]
   simp only [s_preflight_Table_Put_j1, getK_set, ↓reduceIte, Nat.reduceEqDiff, pFieldAddr, someK_n, l3, condK_tn, pb, l4, u3]
end Go.Am.X

namespace Go.Am.X
def simpT (s : Bs) : Bool := decide (s = [71, 69, 84]) || decide (s = [72, 69, 65, 68]) || decide (s = [80, 79, 83, 84])
theorem seqd (x y : Bs) : strBin .eql x y = some (.bool (decide (x = y))) := (str_eql x y).trans (by congr 2; rw [Bool.eq_iff_iff]; simp)
theorem s_cors_Simple_tab (c : CallK) (N : Nat) (s : Bs) (H : Heap) (τ : Tape) (q : KV) : s_cors_Simple c N (.str s) H τ q = q (.bool (simpT s)) H τ := by
 have b1 : bs [71, 69, 84] = [71, 69, 84] := rfl
 have b2 : bs [72, 69, 65, 68] = [72, 69, 65, 68] := rfl
 have b3 : bs [80, 79, 83, 84] = [80, 79, 83, 84] := rfl
 unfold simpT
 by_cases h1 : s = [71, 69, 84]
 ·simp only [s_cors_Simple, b1, b2, b3, bin_str, seqd, decide_eq_true h1, gK_skip', gK_none, someK_n, pick_mk, cond_true, Bool.true_or]
 ·by_cases h2 : s = [72, 69, 65, 68]
  ·simp only [s_cors_Simple, b1, b2, b3, bin_str, seqd, decide_eq_false h1, decide_eq_true h2, gK_do', gK_skip', gK_none, retK, effK_n, someK_n, pick_mk, cond_true, cond_false, Bool.false_or, Bool.true_or]
  ·by_cases h3 : s = [80, 79, 83, 84]
   ·simp only [s_cors_Simple, b1, b2, b3, bin_str, seqd, decide_eq_false h1, decide_eq_false h2, decide_eq_true h3, gK_do', gK_skip', gK_none, retK, effK_n, someK_n, pick_mk, cond_true, cond_false, Bool.false_or]
   ·simp only [s_cors_Simple, b1, b2, b3, bin_str, seqd, decide_eq_false h1, decide_eq_false h2, decide_eq_false h3, gK_do', gK_skip', gK_none, retK, effK_n, someK_n, pick_mk, cond_true, cond_false, Bool.or_false]
def okName (self url : Bs) (cred : Bool) (now : Int) (rows : List PRow) (n : Bs) : Bool :=
 hasP (self, url, cred, false, n) now rows || (!cred && !decide (n = [97, 117, 116, 104, 111, 114, 105, 122, 97, 116, 105, 111, 110]) && hasP (self, url, cred, false, [42]) now rows)
def okMeth (self url : Bs) (cred : Bool) (now : Int) (rows : List PRow) (m : Bs) : Bool :=
 simpT m || hasP (self, url, cred, true, m) now rows || (!cred && hasP (self, url, cred, true, [42]) now rows)
def allowsT (self url : Bs) (cred : Bool) (m : Bs) (us : List Bs) (now : Int) (rows : List PRow) : Bool := okMeth self url cred now rows m && us.all (okName self url cred now rows)
abbrev HldT (c : CallK) : Prop := ∀ {P : Nat → Prop} {H : Heap} {t : Nat} {rows : List PRow}, TabR P H t rows → WF H → rows.length ≤ 32 → ∀ (k : PKey) (now : Int) (τ : Tape), ∃ H' τ', Gr H.size H H' ∧ ∀ q, c f_preflight_Table_holds [.ptr t 0, .agg (pkC k), .int .i64 now] H τ q = q (.bool (hasP k now rows)) H' τ'
structure ClT (H : Heap) (b t : Nat) (sf url : Bs) (cred : Bool) (now : Int) : Prop where
 c0 : Bx H b [.ptr t 0]
 c1 : Bx H (b + 1) [.str sf]
 c2 : Bx H (b + 2) [.str url]
 c3 : Bx H (b + 3) [.bool cred]
 c4 : Bx H (b + 4) [.int .i64 now]
theorem ClT.gr {H H' : Heap} {b t : Nat} {self url : Bs} {cred : Bool} {now : Int} (h : ClT H b t self url cred now) (hw : WF H) (hg : Gr H.size H H') : ClT H' b t self url cred now :=
 ⟨bx_gr1 h.c0 hw hg, bx_gr1 h.c1 hw hg, bx_gr1 h.c2 hw hg, bx_gr1 h.c3 hw hg, bx_gr1 h.c4 hw hg⟩
theorem s_Allows_1_ret (c : CallK) (N : Nat) (hH : HldT c) {P : Nat → Prop} {H : Heap} {t b : Nat} {rows : List PRow} (ht : TabR P H t rows) (hw : WF H) (hl : rows.length ≤ 32) {self url : Bs} {cred : Bool} {now : Int} (hc : ClT H b t self url cred now) (meth : Bool) (name : Bs) (τ : Tape) :
  ∃ H' τ', Gr H.size H H' ∧ ∀ q, s_preflight_Table_Allows_1 c N (.bool meth) (.str name) (.ptr b 0) (.ptr (b + 1) 0) (.ptr (b + 2) 0) (.ptr (b + 3) 0) (.ptr (b + 4) 0) H τ q = q (.bool (hasP (self, url, cred, meth, name) now rows)) H' τ' := by
 obtain ⟨H', τ', g, k⟩ := hH ht hw hl (self, url, cred, meth, name) now τ
 have l0 : lLoad1 [.ptr b 0] H = some (.ptr t 0) := load_cell hc.c0.cells rfl
 have l1 : lLoad1 [.ptr (b + 1) 0] H = some (.str self) := load_cell hc.c1.cells rfl
 have l2 : lLoad1 [.ptr (b + 2) 0] H = some (.str url) := load_cell hc.c2.cells rfl
 have l3 : lLoad1 [.ptr (b + 3) 0] H = some (.bool cred) := load_cell hc.c3.cells rfl
 have l4 : lLoad1 [.ptr (b + 4) 0] H = some (.int .i64 now) := load_cell hc.c4.cells rfl
 have pb : pBuild [(.str []), (.str []), (.bool false), (.bool false), (.str [])] [(0, 1), (1, 1), (2, 1), (3, 1), (4, 1)] [.str self, .str url, .bool cred, .bool meth, .str name] = some (.agg (pkC (self, url, cred, meth, name))) := rfl
 exact ⟨H', τ', g, fun q => by simp only [s_preflight_Table_Allows_1, l0, l1, l2, l3, l4, someK_n, pb, k]⟩
abbrev Al1Ok (c : CallK) : Prop := ∀ {P : Nat → Prop} {H : Heap} {t b : Nat} {rows : List PRow}, TabR P H t rows → WF H → rows.length ≤ 32 → ∀ {self url : Bs} {cred : Bool} {now : Int}, ClT H b t self url cred now → ∀ (meth : Bool) (name : Bs) (τ : Tape),
  ∃ H' τ', Gr H.size H H' ∧ ∀ q, opK c .callv [.func f_preflight_Table_Allows_1 [] [.ptr b 0, .ptr (b + 1) 0, .ptr (b + 2) 0, .ptr (b + 3) 0, .ptr (b + 4) 0], .bool meth, .str name] H τ q = q (.bool (hasP (self, url, cred, meth, name) now rows)) H' τ'
abbrev fvT (b : Nat) : V := .func f_preflight_Table_Allows_1 [] [.ptr b 0, .ptr (b + 1) 0, .ptr (b + 2) 0, .ptr (b + 3) 0, .ptr (b + 4) 0]
theorem l_allow (c : CallK) (N : Nat) (hA : Al1Ok c) {P : Nat → Prop} {H0 : Heap} (hw0 : WF H0) {t b : Nat} {rows : List PRow} (ht : TabR P H0 t rows) (hl : rows.length ≤ 32) {self url : Bs} {cred : Bool} {now : Int} (hc : ClT H0 b t self url cred now) (us : List Bs) (hul : us.length ≤ 1000000) (v : V) (hr : Rd H0 1 v us.length (us.map V.str)) :
  ∀ (l pre : List Bs) (H : Heap) (τ : Tape) (M : Nat), us = pre ++ l → l.length < M → Gr H0.size H0 H →
  ∃ H' τ', Gr H0.size H0 H' ∧ ∀ (fr : T V) k, fr.get 10 = some (.ptr (b + 3) 0) → fr.get 15 = some (fvT b) → fr.get 36 = some v → fr.get 37 = some (.int .i64 (us.length : Int)) → fr.get 38 = some (.int .i64 (pre.length : Int)) →
   loopK (s_preflight_Table_Allows_l1 c N) M ⟨fr, H⟩ τ k = if l.all (okName self url cred now rows) = true then k (.exit 0) ⟨.leaf, H'⟩ τ' else k .ret ⟨(T.set .leaf 14 (.bool false)), H'⟩ τ' := by
 intro l
 induction l with
 | nil =>
  intro pre H τ M he hM hg
  obtain ⟨M, rfl⟩ : ∃ j, M = j + 1 := ⟨M - 1, by omega⟩
  have e1 : decide ((pre.length : Int) < (us.length : Int)) = false := decide_eq_false (by rw [he]; simp)
  refine ⟨H, τ, hg, fun fr k f10 f15 f36 f37 f38 => ?_⟩
  rw [loopK_succ, if_pos (by rfl)]
  simp only [s_preflight_Table_Allows_l1, getK_mk f10, getK_mk f15, getK_mk f36, getK_mk f37, getK_mk f38, bin_lss, e1, condK_fn]
  rfl
 | cons n l ih =>
  intro pre H τ M he hM hg
  obtain ⟨M, rfl⟩ : ∃ j, M = j + 1 := ⟨M - 1, by omega⟩
  have hw := hg.wf
  have hlt : pre.length < us.length := by rw [he]; simp
  have e1 : decide ((pre.length : Int) < (us.length : Int)) = true := decide_eq_true (by omega)
  have e3 : wr .i64 ((pre.length : Int) + Int.ofNat 1) = ((pre ++ [n]).length : Int) := by rw [adI (by omega)]; simp
  obtain ⟨p, p1, p2⟩ := (hr.gr hg hw0 (Nat.le_refl _)).elem1 (i := pre.length) (x := .str n) (by rw [he]; simp)
  have hcH := hc.gr hw0 hg
  obtain ⟨H1, τ1, g1, k1⟩ := hA (ht.gr hw0 hg) hw hl hcH false n τ
  have hg1 := hg.trans g1 hg.size
  have hcH1 := hc.gr hw0 hg1
  have lc : lLoad1 [.ptr (b + 3) 0] H1 = some (.bool cred) := load_cell hcH1.c3.cells rfl
  have ba : bs [97, 117, 116, 104, 111, 114, 105, 122, 97, 116, 105, 111, 110] = [97, 117, 116, 104, 111, 114, 105, 122, 97, 116, 105, 111, 110] := rfl
  have bst : bs [42] = [42] := rfl
  have next : ∀ (H2 : Heap) (τ2 : Tape), Gr H0.size H0 H2 → okName self url cred now rows n = true →
    (∀ (fr : T V) k, fr.get 10 = some (.ptr (b + 3) 0) → fr.get 15 = some (fvT b) → fr.get 36 = some v → fr.get 37 = some (.int .i64 (us.length : Int)) → fr.get 38 = some (.int .i64 (pre.length : Int)) →
     loopK (s_preflight_Table_Allows_l1 c N) (M + 1) ⟨fr, H⟩ τ k = loopK (s_preflight_Table_Allows_l1 c N) M ⟨(T.set (T.set (T.set (T.set (T.set (T.set (T.set .leaf 10 (.ptr (b + 3) 0)) 15 (fvT b)) 36 v) 37 (.int .i64 (us.length : Int))) 38 (.int .i64 (pre.length : Int))) 58 (.int .i64 ((pre ++ [n]).length : Int))) 38 (.int .i64 ((pre ++ [n]).length : Int))), H2⟩ τ2 k) →
    ∃ H' τ', Gr H0.size H0 H' ∧ ∀ (fr : T V) k, fr.get 10 = some (.ptr (b + 3) 0) → fr.get 15 = some (fvT b) → fr.get 36 = some v → fr.get 37 = some (.int .i64 (us.length : Int)) → fr.get 38 = some (.int .i64 (pre.length : Int)) →
     loopK (s_preflight_Table_Allows_l1 c N) (M + 1) ⟨fr, H⟩ τ k = if (n :: l).all (okName self url cred now rows) = true then k (.exit 0) ⟨.leaf, H'⟩ τ' else k .ret ⟨(T.set .leaf 14 (.bool false)), H'⟩ τ' := by
   intro H2 τ2 hg2 hok step
   obtain ⟨H', τ', r1, r2⟩ := ih (pre ++ [n]) H2 τ2 M (by rw [he]; simp) (by simp at hM; omega) hg2
   refine ⟨H', τ', r1, fun fr k f10 f15 f36 f37 f38 => ?_⟩
   rw [step fr k f10 f15 f36 f37 f38, r2 _ k (by simp [T.get_set]) (by simp [T.get_set]) (by simp [T.get_set]) (by simp [T.get_set]) (by simp [T.get_set]), List.all_cons, hok, Bool.true_and]
  cases hn : hasP (self, url, cred, false, n) now rows with
  | true =>
   rw [hn] at k1
   refine next H1 τ1 hg1 (by unfold okName; rw [hn, Bool.true_or]) fun fr k f10 f15 f36 f37 f38 => ?_
   rw [loopK_succ]
   simp only [s_preflight_Table_Allows_l1, getK_mk f10, getK_mk f15, getK_mk f36, getK_mk f37, getK_mk f38, bin_lss, e1, condK_tn, p1, p2, someK_n, k1, un_not, Bool.not_true, gK_skip, gK_none, pick_mk, cond_false, condK_fn, bin_add, e3]
   rfl
  | false =>
   rw [hn] at k1
   have stop : ∀ (H2 : Heap) (τ2 : Tape), Gr H0.size H0 H2 → okName self url cred now rows n = false →
     (∀ (fr : T V) k, fr.get 10 = some (.ptr (b + 3) 0) → fr.get 15 = some (fvT b) → fr.get 36 = some v → fr.get 37 = some (.int .i64 (us.length : Int)) → fr.get 38 = some (.int .i64 (pre.length : Int)) →
      loopK (s_preflight_Table_Allows_l1 c N) (M + 1) ⟨fr, H⟩ τ k = k .ret ⟨(T.set .leaf 14 (.bool false)), H2⟩ τ2) →
     ∃ H' τ', Gr H0.size H0 H' ∧ ∀ (fr : T V) k, fr.get 10 = some (.ptr (b + 3) 0) → fr.get 15 = some (fvT b) → fr.get 36 = some v → fr.get 37 = some (.int .i64 (us.length : Int)) → fr.get 38 = some (.int .i64 (pre.length : Int)) →
      loopK (s_preflight_Table_Allows_l1 c N) (M + 1) ⟨fr, H⟩ τ k = if (n :: l).all (okName self url cred now rows) = true then k (.exit 0) ⟨.leaf, H'⟩ τ' else k .ret ⟨(T.set .leaf 14 (.bool false)), H'⟩ τ' := by
    intro H2 τ2 hg2 hok step
    refine ⟨H2, τ2, hg2, fun fr k f10 f15 f36 f37 f38 => ?_⟩
    rw [step fr k f10 f15 f36 f37 f38, List.all_cons, hok, Bool.false_and, if_neg (by decide)]
   cases hcr : cred with
   | true =>
    refine hcr ▸ stop H1 τ1 hg1 (by unfold okName; rw [hn, hcr]; rfl) fun fr k f10 f15 f36 f37 f38 => ?_
    rw [hcr] at lc
    rw [loopK_succ]
    simp only [s_preflight_Table_Allows_l1, getK_mk f10, getK_mk f15, getK_mk f36, getK_mk f37, getK_mk f38, bin_lss, e1, condK_tn, p1, p2, someK_n, k1, un_not, Bool.not_false, gK_do, gK_skip', retK, effK_n, lc, gK_none, pick_mk, cond_true]
    rfl
   | false =>
    rw [hcr] at lc
    by_cases hau : n = [97, 117, 116, 104, 111, 114, 105, 122, 97, 116, 105, 111, 110]
    ·refine hcr ▸ stop H1 τ1 hg1 (by unfold okName; rw [hn, hcr, decide_eq_true hau]; rfl) fun fr k f10 f15 f36 f37 f38 => ?_
     rw [loopK_succ]
     simp only [s_preflight_Table_Allows_l1, getK_mk f10, getK_mk f15, getK_mk f36, getK_mk f37, getK_mk f38, bin_lss, e1, condK_tn, p1, p2, someK_n, k1, un_not, Bool.not_false, gK_do, gK_do', gK_skip', retK, effK_n, lc, ba, bin_str, seqd, decide_eq_true hau, gK_none, pick_mk, cond_true, cond_false]
     rfl
    ·obtain ⟨H2, τ2, g2, k2⟩ := hA (ht.gr hw0 hg1) g1.wf hl hcH1 false [42] τ1
     have hg2 := hg1.trans g2 hg1.size
     cases hs : hasP (self, url, cred, false, [42]) now rows with
     | true =>
      rw [hs] at k2
      refine hcr ▸ next H2 τ2 hg2 (by unfold okName; rw [hn, hs, hcr, decide_eq_false hau]; rfl) fun fr k f10 f15 f36 f37 f38 => ?_
      rw [loopK_succ]
      simp only [s_preflight_Table_Allows_l1, getK_mk f10, getK_mk f15, getK_mk f36, getK_mk f37, getK_mk f38, bin_lss, e1, condK_tn, p1, p2, someK_n, k1, un_not, Bool.not_false, gK_do, gK_do', gK_skip', retK, effK_n, lc, ba, bst, bin_str, seqd, decide_eq_false hau, gK_none, pick_mk, cond_true, cond_false, k2, Bool.not_true, condK_fn, bin_add, e3]
      rfl
     | false =>
      rw [hs] at k2
      refine hcr ▸ stop H2 τ2 hg2 (by unfold okName; rw [hn, hs, hcr]; simp) fun fr k f10 f15 f36 f37 f38 => ?_
      rw [loopK_succ]
      simp only [s_preflight_Table_Allows_l1, getK_mk f10, getK_mk f15, getK_mk f36, getK_mk f37, getK_mk f38, bin_lss, e1, condK_tn, p1, p2, someK_n, k1, un_not, Bool.not_false, gK_do, gK_do', gK_skip', retK, effK_n, lc, ba, bst, bin_str, seqd, decide_eq_false hau, gK_none, pick_mk, cond_true, cond_false, k2]
      rfl
abbrev SimOk (c : CallK) : Prop := ∀ (s : Bs) H τ q, c f_cors_Simple [.str s] H τ q = q (.bool (simpT s)) H τ
theorem s_preflight_Table_Allows_ret (c : CallK) {N : Nat} (hN : 9223372036854775807 ≤ N) (hA : Al1Ok c) (hS : SimOk c) {P : Nat → Prop} {H : Heap} {t : Nat} {rows : List PRow} (ht : TabR P H t rows) (hw : WF H) (hl : rows.length ≤ 32) (self url : Bs) (cred : Bool) (m : Bs) (us : List Bs) (hul : us.length ≤ 1000000) (v : V) (hr : Rd H 1 v us.length (us.map V.str)) (now : Int) (τ : Tape) :
  ∃ H' τ', Gr H.size H H' ∧ ∀ q, s_preflight_Table_Allows c N (.ptr t 0) (.str self) (.str url) (.bool cred) (.str m) v (.int .i64 now) H τ q = q (.bool (allowsT self url cred m us now rows)) H' τ' := by
 have e0 : eBox [.ptr t 0] H τ = some (.ptr H.size 0, H.new [.ptr t 0] 1 true, τ) := rfl
 have g1 := Gr.new hw [.ptr t 0] 1 true
 have b1 : Bx (H.new [.ptr t 0] 1 true) H.size [.ptr t 0] := Bx.new H _ 1 true (by simp)
 have z1 : (H.new [.ptr t 0] 1 true).size = H.size + 1 := rfl
 generalize H.new [.ptr t 0] 1 true = H1 at e0 g1 b1 z1
 have e1 : eBox [.str self] H1 τ = some (.ptr (H.size + 1) 0, H1.new [.str self] 1 true, τ) := by rw [← z1]; rfl
 have g2 := Gr.new g1.wf [.str self] 1 true
 have b2 : Bx (H1.new [.str self] 1 true) (H.size + 1) [.str self] := by rw [← z1]; exact Bx.new H1 _ 1 true (by simp)
 have z2 : (H1.new [.str self] 1 true).size = H.size + 2 := by rw [show (H1.new [.str self] 1 true).size = H1.size + 1 from rfl, z1]
 generalize H1.new [.str self] 1 true = H2 at e1 g2 b2 z2
 have e2 : eBox [.str url] H2 τ = some (.ptr (H.size + 2) 0, H2.new [.str url] 1 true, τ) := by rw [← z2]; rfl
 have g3 := Gr.new g2.wf [.str url] 1 true
 have b3 : Bx (H2.new [.str url] 1 true) (H.size + 2) [.str url] := by rw [← z2]; exact Bx.new H2 _ 1 true (by simp)
 have z3 : (H2.new [.str url] 1 true).size = H.size + 3 := by rw [show (H2.new [.str url] 1 true).size = H2.size + 1 from rfl, z2]
 generalize H2.new [.str url] 1 true = H3 at e2 g3 b3 z3
 have e3 : eBox [.bool cred] H3 τ = some (.ptr (H.size + 3) 0, H3.new [.bool cred] 1 true, τ) := by rw [← z3]; rfl
 have g4 := Gr.new g3.wf [.bool cred] 1 true
 have b4 : Bx (H3.new [.bool cred] 1 true) (H.size + 3) [.bool cred] := by rw [← z3]; exact Bx.new H3 _ 1 true (by simp)
 have z4 : (H3.new [.bool cred] 1 true).size = H.size + 4 := by rw [show (H3.new [.bool cred] 1 true).size = H3.size + 1 from rfl, z3]
 generalize H3.new [.bool cred] 1 true = H4 at e3 g4 b4 z4
 have e4 : eBox [.int .i64 now] H4 τ = some (.ptr (H.size + 4) 0, H4.new [.int .i64 now] 1 true, τ) := by rw [← z4]; rfl
 have g5 := Gr.new g4.wf [.int .i64 now] 1 true
 have b5 : Bx (H4.new [.int .i64 now] 1 true) (H.size + 4) [.int .i64 now] := by rw [← z4]; exact Bx.new H4 _ 1 true (by simp)
 generalize H4.new [.int .i64 now] 1 true = H5 at e4 g5 b5
 have hc : ClT H5 H.size t self url cred now := ⟨bx_gr1 (bx_gr1 (bx_gr1 (bx_gr1 b1 g1.wf g2) g2.wf g3) g3.wf g4) g4.wf g5, bx_gr1 (bx_gr1 (bx_gr1 b2 g2.wf g3) g3.wf g4) g4.wf g5, bx_gr1 (bx_gr1 b3 g3.wf g4) g4.wf g5, bx_gr1 b4 g4.wf g5, b5⟩
 have g15 : Gr H.size H H5 := (((g1.trans g2 g1.size).trans g3 (Nat.le_trans g1.size g2.size)).trans g4 (Nat.le_trans g1.size (Nat.le_trans g2.size g3.size))).trans g5 (Nat.le_trans g1.size (Nat.le_trans g2.size (Nat.le_trans g3.size g4.size)))
 have t5 := ht.gr hw g15
 have r5 := hr.gr g15 hw (Nat.le_refl _)
 have ef : V.func f_preflight_Table_Allows_1 (List.take 0 [V.ptr H.size 0, V.ptr (H.size + 1) 0, V.ptr (H.size + 2) 0, V.ptr (H.size + 3) 0, V.ptr (H.size + 4) 0]) (List.drop 0 [V.ptr H.size 0, V.ptr (H.size + 1) 0, V.ptr (H.size + 2) 0, V.ptr (H.size + 3) 0, V.ptr (H.size + 4) 0]) = fvT H.size := rfl
 have bst : bs [42] = [42] := rfl
 have tail : ∀ (H6 : Heap) (τ6 : Tape), Gr H5.size H5 H6 → ∃ H' τ', Gr H.size H H' ∧ ∀ q, loopK (s_preflight_Table_Allows_l1 c N) N ⟨(T.set (T.set (T.set (T.set (T.set .leaf 10 (.ptr (H.size + 3) 0)) 15 (fvT H.size)) 36 v) 37 (.int .i64 (us.length : Int))) 38 (.int .i64 (.ofNat 0))), H6⟩ τ6 (blockK 0 (seqK (s_preflight_Table_Allows_j0 c N q) (endK [(.t 14)] q))) = q (.bool (us.all (okName self url cred now rows))) H' τ' := by
  intro H6 τ6 hg6
  obtain ⟨H', τ', r1, r2⟩ := l_allow c N hA g5.wf t5 hl hc us hul v r5 us [] H6 τ6 N rfl (by omega) hg6
  refine ⟨H', τ', g15.trans r1 g15.size, fun q => ?_⟩
  rw [r2 _ _ (by simp [T.get_set]) (by simp [T.get_set]) (by simp [T.get_set]) (by simp [T.get_set]) (by simp [T.get_set])]
  cases ha : us.all (okName self url cred now rows) with
  | true => rw [if_pos rfl]; simp only [blockK, Nat.beq_refl, cond_true, seqK, s_preflight_Table_Allows_j0]
  | false => rw [if_neg (by decide)]; simp only [blockK, seqK, endK]; rfl
 have r6 : ∀ {H6}, Gr H5.size H5 H6 → pLen [v] = some (.int .i64 (us.length : Int)) := fun _ => hr.pLen
 have plv := hr.pLen
 unfold allowsT okMeth
 cases hs : simpT m with
 | true =>
  obtain ⟨H', τ', u1, u2⟩ := tail H5 τ (Gr.refl g5.wf)
  refine ⟨H', τ', u1, fun q => ?_⟩
  have kS := fun H τ q => hS m H τ q
  rw [hs] at kS
  simp only [s_preflight_Table_Allows, e0, e1, e2, e3, e4, effK_n, ef, someK_n, kS, un_not, Bool.not_true, gK_skip, gK_none, pick_mk, cond_false, condK_fn, plv, Bool.true_or, Bool.true_and]
  exact u2 q
 | false =>
  have kS := fun H τ q => hS m H τ q
  rw [hs] at kS
  obtain ⟨H6, τ6, g6, k6⟩ := hA t5 g5.wf hl hc true m τ
  have lc : lLoad1 [.ptr (H.size + 3) 0] H6 = some (.bool cred) := load_cell (hc.gr g5.wf g6).c3.cells rfl
  cases hm : hasP (self, url, cred, true, m) now rows with
  | true =>
   rw [hm] at k6
   obtain ⟨H', τ', u1, u2⟩ := tail H6 τ6 g6
   refine ⟨H', τ', u1, fun q => ?_⟩
   simp only [s_preflight_Table_Allows, e0, e1, e2, e3, e4, effK_n, ef, someK_n, kS, un_not, Bool.not_false, gK_do, retK, k6, Bool.not_true, pick_mk, cond_true, gK_skip, gK_none, cond_false, condK_fn, plv, Bool.or_true, Bool.true_or, Bool.true_and]
   exact u2 q
  | false =>
   rw [hm] at k6
   cases hcr : cred with
   | true =>
    rw [hcr] at lc e3
    refine ⟨H6, τ6, g15.trans g6 g15.size, fun q => ?_⟩
    simp only [s_preflight_Table_Allows, e0, e1, e2, e3, e4, effK_n, ef, someK_n, kS, un_not, Bool.not_false, gK_do, retK, k6, pick_mk, cond_true, lc, gK_skip', gK_none, condK_tn, Bool.not_true, Bool.false_and, Bool.or_false]
   | false =>
    obtain ⟨H7, τ7, g7, k7⟩ := hA (t5.gr g5.wf g6) g6.wf hl (hc.gr g5.wf g6) true [42] τ6
    have g67 := g6.trans g7 g6.size
    cases hst : hasP (self, url, cred, true, [42]) now rows with
    | true =>
     rw [hst] at k7
     obtain ⟨H', τ', u1, u2⟩ := tail H7 τ7 g67
     rw [hcr] at lc e3 hst u2
     refine ⟨H', τ', u1, fun q => ?_⟩
     simp only [s_preflight_Table_Allows, e0, e1, e2, e3, e4, effK_n, ef, someK_n, kS, un_not, Bool.not_false, gK_do, gK_do', retK, k6, pick_mk, cond_true, lc, bst, k7, Bool.not_true, cond_false, condK_fn, plv, hst, Bool.and_self, Bool.or_true, Bool.true_and]
     exact u2 q
    | false =>
     rw [hst] at k7
     rw [hcr] at lc e3 hst
     refine ⟨H7, τ7, g15.trans g67 g15.size, fun q => ?_⟩
     simp only [s_preflight_Table_Allows, e0, e1, e2, e3, e4, effK_n, ef, someK_n, kS, un_not, Bool.not_false, gK_do, gK_do', retK, k6, pick_mk, cond_true, lc, bst, k7, cond_false, condK_tn, hst, Bool.and_false, Bool.or_false, Bool.false_and]
end Go.Am.X

namespace Go.Am.X
theorem s_book_Within_gen (c : CallK) (N : Nat) (n : Int) {h : Nat} (hh : h < 4611686018427387903) (H : Heap) (τ : Tape) : ∃ m : Nat, m ≤ h ∧ ∀ q, s_book_Within c N (.int .i64 n) (.int .i64 (.ofNat 0)) (.int .i64 (h : Int)) H τ q = q (.int .i64 (m : Int)) H τ := by
 have h1 := Int.tmod_lt_of_pos n (b := (h : Int) + 1) (by omega)
 have h2 := Int.lt_tmod_of_pos n (b := (h : Int) + 1) (by omega)
 have e1 : wr .i64 ((h : Int) - Int.ofNat 0) = h := by rw [wr_id (by simp <;> omega) (by simp <;> omega)]; simp
 have e2 : wr .i64 ((h : Int) + Int.ofNat 1) = (h : Int) + 1 := by rw [wr_id (by simp <;> omega) (by simp <;> omega)]; simp
 have er := bin_rem (k := .i64) n ((h : Int) + 1)
 generalize hr : n.tmod ((h : Int) + 1) = r at h1 h2
 by_cases hneg : r < 0
 ·refine ⟨(r + (h + 1)).toNat, by omega, fun q => ?_⟩
  have e3 : decide (r < Int.ofNat 0) = true := decide_eq_true hneg
  have e4 : wr .i64 (r + (h : Int)) = r + h := by rw [wr_id (by omega) (by omega)]
  have e5 : wr .i64 (r + h - Int.ofNat 0) = r + h := by rw [wr_id (by simp <;> omega) (by simp <;> omega)]; simp
  have e6 : wr .i64 (r + h + Int.ofNat 1) = r + (h + 1) := by rw [wr_id (by simp <;> omega) (by simp <;> omega)]; simp; try omega
  have e7 : wr .i64 (Int.ofNat 0 + (r + (h + 1))) = (((r + (h + 1)).toNat : Nat) : Int) := by rw [wr_id (by simp <;> omega) (by simp <;> omega)]; simp; try omega
  simp only [s_book_Within, bin_sub, e1, bin_add, e2, bin_rem _ _ ((h : Int) + 1) (by omega), hr, bin_lss, e3, condK_tn, e4, e5, e6, s_book_Within_j0, getK_set, ↓reduceIte, Nat.reduceEqDiff, e7]
 ·refine ⟨r.toNat, by omega, fun q => ?_⟩
  have e3 : decide (r < Int.ofNat 0) = false := decide_eq_false hneg
  have e7 : wr .i64 (Int.ofNat 0 + r) = ((r.toNat : Nat) : Int) := by rw [wr_id (by simp <;> omega) (by simp <;> omega)]; simp; omega
  simp only [s_book_Within, bin_sub, e1, bin_add, e2, bin_rem _ _ ((h : Int) + 1) (by omega), hr, bin_lss, e3, condK_fn, s_book_Within_j0, getK_set, ↓reduceIte, Nat.reduceEqDiff, e7]
end Go.Am.X

namespace Go.Am.X
def nmP (i : Nat) : Bs := 77 :: encodeR ((97 + i : Nat) : Int)
theorem nm_run : ((List.range 60).all fun i => !simpT (nmP i) && !decide (nmP i = [42]) && (List.range 60).all fun j => !decide (nmP i = nmP j) || decide (i = j)) = true := by kernel_rfl
theorem nm_at {i : Nat} (h : i < 60) : simpT (nmP i) = false ∧ nmP i ≠ [42] ∧ ∀ j, j < 60 → nmP i = nmP j → i = j := by
 have := List.all_eq_true.1 nm_run i (List.mem_range.2 h)
 simp only [Bool.and_eq_true, Bool.not_eq_true', decide_eq_false_iff_not] at this
 obtain ⟨⟨h1, h2⟩, h3⟩ := this
 refine ⟨h1, h2, fun j hj e => ?_⟩
 have := List.all_eq_true.1 h3 j (List.mem_range.2 hj)
 simp only [Bool.or_eq_true, Bool.not_eq_true', decide_eq_false_iff_not, decide_eq_true_eq] at this
 exact this.resolve_left fun h => h e
def keyP (cred : Bool) (i : Nat) : PKey := ([115], [117], cred, true, nmP i)
theorem key_inj {cred : Bool} {i j : Nat} (hi : i < 60) (hj : j < 60) (h : keyP cred i = keyP cred j) : i = j := by
 unfold keyP at h
 simp only [Prod.mk.injEq, true_and] at h
 exact (nm_at hi).2.2 j hj h
def allP (cred : Bool) (n : Nat) : List PRow := (List.range n).map fun i => (keyP cred i, 100)
theorem allP_len (cred : Bool) (n : Nat) : (allP cred n).length = n := by unfold allP; simp
theorem allP_succ (cred : Bool) (n : Nat) : allP cred (n + 1) = allP cred n ++ [(keyP cred n, 100)] := by unfold allP; rw [List.range_succ, List.map_append]; rfl
def rowsP (cred : Bool) (n : Nat) : List PRow := (allP cred n).drop (n - 32)
theorem rowsP_len (cred : Bool) (n : Nat) : (rowsP cred n).length = min n 32 := by unfold rowsP; rw [List.length_drop, allP_len]; omega
theorem rowsP_mem {cred : Bool} {n : Nat} {x : PRow} (h : x ∈ rowsP cred n) : ∃ i, i < n ∧ n ≤ i + 32 ∧ x = (keyP cred i, 100) := by
 unfold rowsP at h
 obtain ⟨j, hj, rfl⟩ := List.mem_iff_getElem.1 h
 rw [List.length_drop, allP_len] at hj
 refine ⟨n - 32 + j, by omega, by omega, ?_⟩
 rw [List.getElem_drop]
 unfold allP
 simp
theorem rowsP_has {cred : Bool} {n i : Nat} (h : i < n) (h' : n ≤ i + 32) : (keyP cred i, (100 : Int)) ∈ rowsP cred n := by
 unfold rowsP
 refine List.mem_iff_getElem.2 ⟨i - (n - 32), by rw [List.length_drop, allP_len]; omega, ?_⟩
 rw [List.getElem_drop]
 unfold allP
 simp only [List.getElem_map, List.getElem_range, Prod.mk.injEq, and_true]
 congr 1; omega
theorem putT_rows {cred : Bool} {n : Nat} (h : n < 60) : putT [115] [117] cred ⟨[nmP n], [], false, 100⟩ 0 (rowsP cred n) = rowsP cred (n + 1) := by
 have hf : (rowsP cred n).filter (fun x => !decide (x.1 = keyP cred n)) = rowsP cred n := List.filter_eq_self.2 fun x hx => by
  obtain ⟨i, hi, _, rfl⟩ := rowsP_mem hx
  have : keyP cred i ≠ keyP cred n := fun e => by have := key_inj (by omega) h e; omega
  simp [this]
 have hp : putT [115] [117] cred ⟨[nmP n], [], false, 100⟩ 0 (rowsP cred n) = putP (keyP cred n) 100 0 (rowsP cred n) := rfl
 have ha : addP 0 100 = 100 := by decide
 rw [hp]
 unfold putP
 rw [hf, ha, if_neg (by decide), List.length_append, rowsP_len]
 have hs : rowsP cred (n + 1) = (allP cred n ++ [(keyP cred n, 100)]).drop (n + 1 - 32) := by unfold rowsP; rw [allP_succ]
 rw [hs]
 by_cases h32 : n < 32
 ·rw [if_neg (by simp; omega)]
  unfold rowsP
  rw [show n + 1 - 32 = 0 by omega, show n - 32 = 0 by omega, List.drop_zero, List.drop_zero]
 ·rw [if_pos (by simp; omega)]
  unfold rowsP
  have e : ∀ (L : List PRow) (x : PRow) (k : Nat), k ≤ L.length → (L.drop k ++ [x]).drop 1 = (L ++ [x]).drop (k + 1) := fun L x k hk => by rw [← List.drop_append_of_le_length hk, List.drop_drop]
  rw [show n + 1 - 32 = (n - 32) + 1 by omega]
  exact e _ _ _ (by rw [allP_len]; omega)
theorem lenP_rows (cred : Bool) (n : Nat) : lenP 0 (rowsP cred n) = min n 32 := by
 unfold lenP
 rw [List.filter_eq_self.2 fun x hx => by obtain ⟨i, _, _, rfl⟩ := rowsP_mem hx; simp, rowsP_len]
theorem hasP_rows {cred : Bool} {n i : Nat} (hn : n ≤ 60) (hi : i < 60) {now : Int} (hnow : now < 100) : hasP (keyP cred i) now (rowsP cred n) = decide (i < n ∧ n ≤ i + 32) := by
 unfold hasP
 rw [Bool.eq_iff_iff, List.any_eq_true, decide_eq_true_eq]
 constructor
 ·rintro ⟨x, hx, h⟩
  obtain ⟨j, h1, h2, rfl⟩ := rowsP_mem hx
  unfold isKey at h
  simp only [Bool.and_eq_true, decide_eq_true_eq] at h
  have := key_inj (by omega) hi h.1
  subst this; exact ⟨h1, h2⟩
 ·rintro ⟨h1, h2⟩
  refine ⟨_, rowsP_has h1 h2, ?_⟩
  unfold isKey
  simp [hnow]
theorem hasP_star {cred : Bool} {n : Nat} (hn : n ≤ 60) (now : Int) : hasP ([115], [117], cred, true, [42]) now (rowsP cred n) = false := by
 unfold hasP
 rw [List.any_eq_false]
 intro x hx
 obtain ⟨j, h1, h2, rfl⟩ := rowsP_mem hx
 have := (nm_at (show j < 60 by omega)).2.1
 unfold isKey keyP
 simp [this]
theorem allows_rows {cred : Bool} {n i : Nat} (hn : n ≤ 60) (hi : i < 60) {now : Int} (hnow : now < 100) : allowsT [115] [117] cred (nmP i) [] now (rowsP cred n) = decide (i < n ∧ n ≤ i + 32) := by
 unfold allowsT okMeth
 rw [(nm_at hi).1, hasP_star hn, Bool.and_false, Bool.or_false, Bool.false_or, List.all_nil, Bool.and_true]
 exact hasP_rows hn hi hnow
theorem drop_rows (cred : Bool) (n : Nat) : (rowsP cred n).filter (fun x => !isOf [115] [117] x) = [] := by
 rw [List.filter_eq_nil_iff]
 intro x hx
 obtain ⟨j, _, _, rfl⟩ := rowsP_mem hx
 simp [isOf, keyP]
def TabE (B : Nat) (H : Heap) (t : Nat) (rows : List PRow) : Prop := ∃ P, TabR P H t rows ∧ NewIn P H ∧ (∀ i, i < B → ¬ P i) ∧ B ≤ t
theorem TabE.gr {B : Nat} {H H' : Heap} {t : Nat} {rows : List PRow} (h : TabE B H t rows) (hw : WF H) (hg : Gr H.size H H') : TabE B H' t rows := by
 obtain ⟨P, h1, h2, h3⟩ := h
 exact ⟨P, h1.gr hw hg, fun i hi => h2 i (Nat.le_trans hg.size hi), h3⟩
theorem TabE.le {B : Nat} {H : Heap} {t : Nat} {rows : List PRow} (h : TabE B H t rows) (hw : WF H) : B ≤ H.size := by
 obtain ⟨P, h1, h2, h3, h4⟩ := h
 have := h1.lt hw
 omega
abbrev PutOkE (c : CallK) : Prop := ∀ {P : Nat → Prop} {H : Heap} {t : Nat} {rows : List PRow}, TabR P H t rows → WF H → NewIn P H → rows.length ≤ 32 → ∀ (self url : Bs) (cred : Bool) (gr : GrT) (m n : V), m.cells = [m] ∧ m.scal = true → n.cells = [n] ∧ n.scal = true → gr.ms.length ≤ 1000000 → gr.ns.length ≤ 1000000 → (∀ H', Chg (TCh P t) H H' → Rd H' 1 m gr.ms.length (gr.ms.map V.str)) → (∀ H', Chg (TCh P t) H H' → Rd H' 1 n gr.ns.length (gr.ns.map V.str)) →
  gr.age ≤ mostP → ∀ {now : Int}, 0 ≤ now → now ≤ mostP → ∀ τ, ∃ H' τ', TabR P H' t (putT self url cred gr now rows) ∧ Chg (TCh P t) H H' ∧ ∀ q, c f_preflight_Table_Put [.ptr t 0, .str self, .str url, .bool cred, .agg [m, n, .bool gr.all, .int .i64 gr.age], .int .i64 now] H τ q = q (.tup []) H' τ'
abbrev AlwOk (c : CallK) : Prop := ∀ {P : Nat → Prop} {H : Heap} {t : Nat} {rows : List PRow}, TabR P H t rows → WF H → rows.length ≤ 32 → ∀ (self url : Bs) (cred : Bool) (m : Bs) (us : List Bs), us.length ≤ 1000000 → ∀ v, Rd H 1 v us.length (us.map V.str) → ∀ (now : Int) τ,
  ∃ H' τ', Gr H.size H H' ∧ ∀ q, c f_preflight_Table_Allows [.ptr t 0, .str self, .str url, .bool cred, .str m, v, .int .i64 now] H τ q = q (.bool (allowsT self url cred m us now rows)) H' τ'
abbrev LenOkT (c : CallK) : Prop := ∀ {P : Nat → Prop} {H : Heap} {t : Nat} {rows : List PRow}, TabR P H t rows → WF H → rows.length ≤ 32 → ∀ (now : Int) τ, ∃ H' τ', Gr H.size H H' ∧ ∀ q, c f_preflight_Table_Len [.ptr t 0, .int .i64 now] H τ q = q (.int .i64 (lenP now rows : Nat)) H' τ'
abbrev DrpOkT (c : CallK) : Prop := ∀ {P : Nat → Prop} {H : Heap} {t : Nat} {rows : List PRow}, TabR P H t rows → WF H → NewIn P H → rows.length ≤ 32 → ∀ (self url : Bs) τ, ∃ H' τ', TabR P H' t (rows.filter fun x => !isOf self url x) ∧ Chg (TCh P t) H H' ∧ ∀ q, c f_preflight_Table_Drop [.ptr t 0, .str self, .str url] H τ q = q (.tup []) H' τ'
abbrev NewOkT (c : CallK) : Prop := ∀ H, WF H → ∀ τ, ∃ H', TabR (fun i => H.size < i) H' H.size [] ∧ Gr H.size H H' ∧ H'.size = H.size + 1 ∧ ∀ q, c f_preflight_New [] H τ q = q (.ptr H.size 0) H' τ
theorem lit1 {H : Heap} (hw : WF H) (s : Bs) (τ : Tape) : ∃ H1, eBuildSlice 1 1 [(.str [])] [(0, 1)] [.str s] H τ = some (.sl H.size 0 1 1 none 1, H1, τ) ∧ Gr H.size H H1 ∧ H1.size = H.size + 1 ∧ Bx H1 H.size [.str s] :=
 ⟨H.new [.str s] 1 false, rfl, Gr.new hw _ _ _, rfl, Bx.new H _ 1 false (by simp)⟩
theorem nm_step {i : Nat} (h : i < 60) : wr .i64 (Int.ofNat 97 + (i : Int)) = ((97 + i : Nat) : Int) ∧ (∀ k : V → Ans, toIntK .i32 (.int .i64 ((97 + i : Nat) : Int)) k = k (.int .i32 ((97 + i : Nat) : Int))) ∧ pRuneStr [.int .i32 ((97 + i : Nat) : Int)] = some (.str (encodeR ((97 + i : Nat) : Int))) ∧ strBin .add (bs [77]) (encodeR ((97 + i : Nat) : Int)) = some (.str (nmP i)) := by
 refine ⟨?_, fun k => ?_, rfl, ?_⟩
 ·have : Int.ofNat 97 = 97 := rfl
  rw [wr_id (by omega) (by omega)]; omega
 ·rw [toInt_mk, show wr .i32 ((97 + i : Nat) : Int) = ((97 + i : Nat) : Int) from (show ∀ i : Fin 60, wr .i32 ((97 + i.1 : Nat) : Int) = ((97 + i.1 : Nat) : Int) by decide) ⟨i, h⟩]
 ·have h4 : (encodeR ((97 + i : Nat) : Int)).length ≤ 4 := by
   have := (show ∀ i : Fin 60, (encodeR ((97 + i.1 : Nat) : Int)).length ≤ 4 by decide) ⟨i, h⟩
   exact this
  exact str_add (by rw [show (bs [77]).length = 1 from rfl]; omega)
end Go.Am.X

namespace Go.Am.X
section
variable (c : CallK) {N B : Nat} (hPut : PutOkE c) (hAl : AlwOk c) (hLen : LenOkT c) (cred : Bool)
include hPut hAl hLen
theorem rows_put {H : Heap} (hw : WF H) {t i : Nat} (hi : i < 60) (ht : TabE B H t (rowsP cred i)) (τ : Tape) :
  ∃ H1 H' τ', eBuildSlice 1 1 [(.str [])] [(0, 1)] [.str (nmP i)] H τ = some (.sl H.size 0 1 1 none 1, H1, τ) ∧ Gr B H H' ∧ TabE B H' t (rowsP cred (i + 1)) ∧ ∀ q, c f_preflight_Table_Put [.ptr t 0, .str [115], .str [117], .bool cred, .agg [.sl H.size 0 1 1 none 1, .nils, .bool false, .int .i64 100], .int .i64 0] H1 τ q = q (.tup []) H' τ' := by
 have hB := ht.le hw
 obtain ⟨P, h1, h2, h3, h4⟩ := ht
 have htl := h1.lt hw
 obtain ⟨H1, e1, g1, z1, b1⟩ := lit1 hw (nmP i) τ
 let P' : Nat → Prop := fun j => (j < H.size ∧ P j) ∨ H1.size ≤ j
 have nb : ¬ P' H.size := fun h => h.elim (fun h => by omega) (fun h => by omega)
 have nt : ¬ P' t := fun h => h.elim (fun h => h1.2 h.2) (fun h => by omega)
 have t1 : TabR P' H1 t (rowsP cred i) := (h1.weaken hw (fun j hj h => .inl ⟨hj, h⟩) nt).gr hw g1
 have hl : (rowsP cred i).length ≤ 32 := by rw [rowsP_len]; omega
 obtain ⟨H', τ', u1, u2, u3⟩ := hPut t1 g1.wf (fun j hj => .inr hj) hl [115] [117] cred ⟨[nmP i], [], false, 100⟩ (.sl H.size 0 1 1 none 1) .nils ⟨rfl, rfl⟩ ⟨rfl, rfl⟩ (by simp) (by simp) (fun H' hc => by
  have b := b1.chg g1.wf hc (fun h => h.elim nb (fun h => by omega))
  exact .inr ⟨H.size, 0, 1, none, [.str (nmP i)], rfl, b.cells, rfl, rfl⟩) (fun H' hc => .inl ⟨.inl rfl, rfl, rfl⟩) (by show (100 : Int) ≤ mostP; decide) (now := 0) (by omega) (by decide) τ
 rw [putT_rows hi] at u1
 have nB : ∀ j, j < B → ¬ P' j := fun j hj h => h.elim (fun h => h3 j hj h.2) (fun h => by omega)
 refine ⟨H1, H', τ', e1, (g1.weaken hB).trans (u2.gr (by omega) (fun j hj h => h.elim (nB j hj) (fun h => by omega))) (Nat.le_refl _), ⟨P', u1, fun j hj => .inr (Nat.le_trans u2.size hj), nB, h4⟩, fun q => u3 q⟩
theorem rows_allow {H : Heap} (hw : WF H) {t n i : Nat} (hn : n ≤ 60) (hi : i < 60) (ht : TabE B H t (rowsP cred n)) {now : Int} (hnow : now < 100) (τ : Tape) :
  ∃ H' τ', TabE B H' t (rowsP cred n) ∧ Gr B H H' ∧ ∀ q, c f_preflight_Table_Allows [.ptr t 0, .str [115], .str [117], .bool cred, .str (nmP i), .nils, .int .i64 now] H τ q = q (.bool (decide (i < n ∧ n ≤ i + 32))) H' τ' := by
 have ht' := ht
 have hB := ht.le hw
 obtain ⟨P, h1, h2, h3⟩ := ht
 obtain ⟨H', τ', g, k⟩ := hAl h1 hw (by rw [rowsP_len]; omega) [115] [117] cred (nmP i) [] (by simp) .nils (.inl ⟨.inl rfl, rfl, rfl⟩) now τ
 rw [allows_rows hn hi hnow] at k
 exact ⟨H', τ', ht'.gr hw g, g.weaken hB, k⟩
theorem rows_len {H : Heap} (hw : WF H) {t n : Nat} (ht : TabE B H t (rowsP cred n)) (τ : Tape) :
  ∃ H' τ', TabE B H' t (rowsP cred n) ∧ Gr B H H' ∧ ∀ q, c f_preflight_Table_Len [.ptr t 0, .int .i64 (.ofNat 0)] H τ q = q (.int .i64 ((min n 32 : Nat) : Int)) H' τ' := by
 have ht' := ht
 have hB := ht.le hw
 obtain ⟨P, h1, h2, h3⟩ := ht
 obtain ⟨H', τ', g, k⟩ := hLen h1 hw (by rw [rowsP_len]; omega) 0 τ
 rw [lenP_rows] at k
 exact ⟨H', τ', ht'.gr hw g, g.weaken hB, k⟩
theorem l_prows (n : Nat) (hn : n ≤ 60) (t : Nat) : ∀ (r i : Nat) (H : Heap) (τ : Tape) (M : Nat), i + r = n → r < M → WF H → TabE B H t (rowsP cred i) →
  ∃ H' τ', Gr B H H' ∧ TabE B H' t (rowsP cred n) ∧ ∀ (fr : T V) k, fr.get 0 = some (.int .i64 (n : Int)) → fr.get 1 = some (.bool cred) → fr.get 5 = some (.ptr t 0) → fr.get 6 = some (.int .i64 (i : Int)) →
   loopK (s_law19_PreflightRows_l3 c N) M ⟨fr, H⟩ τ k = k (.exit 0) ⟨(T.set (T.set (T.set .leaf 0 (.int .i64 (n : Int))) 1 (.bool cred)) 5 (.ptr t 0)), H'⟩ τ' := by
 intro r
 induction r with
 | zero =>
  intro i H τ M hi hM hw ht
  obtain ⟨M, rfl⟩ : ∃ j, M = j + 1 := ⟨M - 1, by omega⟩
  obtain rfl : i = n := by omega
  have e1 : decide ((i : Int) < (i : Int)) = false := decide_eq_false (by omega)
  refine ⟨H, τ, Gr.refl hw, ht, fun fr k f0 f1 f5 f6 => ?_⟩
  rw [loopK_succ]
  simp only [s_law19_PreflightRows_l3, getK_mk f0, getK_mk f1, getK_mk f5, getK_mk f6, bin_lss, e1, condK_fn]
  rfl
 | succ r ih =>
  intro i H τ M hi hM hw ht
  obtain ⟨M, rfl⟩ : ∃ j, M = j + 1 := ⟨M - 1, by omega⟩
  have hi60 : i < 60 := by omega
  have e1 : decide ((i : Int) < (n : Int)) = true := decide_eq_true (by omega)
  have e3 : wr .i64 ((i : Int) + Int.ofNat 1) = ((i + 1 : Nat) : Int) := adI (by omega)
  obtain ⟨s1, s2, s3, s4⟩ := nm_step hi60
  obtain ⟨H1, H2, τ2, a1, a2, a3, a4⟩ := rows_put c hPut hAl hLen cred hw hi60 ht τ
  have a4' : ∀ q, c f_preflight_Table_Put [.ptr t 0, .str (bs [115]), .str (bs [117]), .bool cred, .agg [.sl H.size 0 1 1 none 1, .nils, .bool false, .int .i64 (.ofNat 100)], .int .i64 (.ofNat 0)] H1 τ q = q (.tup []) H2 τ2 := a4
  obtain ⟨H3, τ3, b1, b2, b3⟩ := rows_len c hPut hAl hLen cred a2.wf a3 τ2
  obtain ⟨H4, τ4, d1, d2, d3⟩ := rows_allow c hPut hAl hLen cred b2.wf (show i + 1 ≤ 60 by omega) hi60 b1 (now := 0) (by omega) τ3
  have dt : decide (i < i + 1 ∧ i + 1 ≤ i + 32) = true := decide_eq_true (by omega)
  rw [dt] at d3
  have d3' : ∀ q, c f_preflight_Table_Allows [.ptr t 0, .str (bs [115]), .str (bs [117]), .bool cred, .str (nmP i), .nils, .int .i64 (.ofNat 0)] H3 τ3 q = q (.bool true) H4 τ4 := d3
  obtain ⟨H', τ', r1, r2, r3⟩ := ih (i + 1) H4 τ4 M (by omega) (by omega) d2.wf d1
  have pb : pBuild [.nils, .nils, (.bool false), (.int .i64 (.ofNat 0))] [(0, 1), (3, 1)] [.sl H.size 0 1 1 none 1, (.int .i64 (.ofNat 100))] = some (.agg [.sl H.size 0 1 1 none 1, .nils, .bool false, .int .i64 (.ofNat 100)]) := rfl
  refine ⟨H', τ', ((a2.trans b2 (Nat.le_refl _)).trans d2 (Nat.le_refl _)).trans r1 (Nat.le_refl _), r2, fun fr k f0 f1 f5 f6 => ?_⟩
  rw [loopK_succ]
  by_cases h32 : 32 < i + 1
  ·have e4 : decide (Int.ofNat 32 < ((i + 1 : Nat) : Int)) = true := decide_eq_true (by have : Int.ofNat 32 = 32 := rfl; omega)
   have e5 : (((min (i + 1) 32 : Nat) : Int) != Int.ofNat 32) = false := by rw [bne_eq_false_iff_eq]; have : Int.ofNat 32 = 32 := rfl; omega
   simp only [s_law19_PreflightRows_l3, getK_mk f0, getK_mk f1, getK_mk f5, getK_mk f6, bin_lss, e1, condK_tn, bin_add, s1, s2, s3, someK_n, bin_str, s4, a1, effK_n, pb, a4', e3, bin_gtr, e4, s_law19_PreflightRows_j5, getK_set, ↓reduceIte, Nat.reduceEqDiff, b3, bin_neq, e5, gK_do', retK, d3', un_not, Bool.not_true, pick_mk, cond_false, condK_fn, s_law19_PreflightRows_j4]
   exact r3 _ k (by simp [T.get_set]) (by simp [T.get_set]) (by simp [T.get_set]) (by simp [T.get_set])
  ·have e4 : decide (Int.ofNat 32 < ((i + 1 : Nat) : Int)) = false := decide_eq_false (by have : Int.ofNat 32 = 32 := rfl; omega)
   have e5 : (((min (i + 1) 32 : Nat) : Int) != ((i + 1 : Nat) : Int)) = false := by rw [bne_eq_false_iff_eq]; omega
   simp only [s_law19_PreflightRows_l3, getK_mk f0, getK_mk f1, getK_mk f5, getK_mk f6, bin_lss, e1, condK_tn, bin_add, s1, s2, s3, someK_n, bin_str, s4, a1, effK_n, pb, a4', e3, bin_gtr, e4, s_law19_PreflightRows_j5, getK_set, ↓reduceIte, Nat.reduceEqDiff, b3, bin_neq, e5, gK_do', retK, d3', un_not, Bool.not_true, pick_mk, cond_false, condK_fn, s_law19_PreflightRows_j4]
   exact r3 _ k (by simp [T.get_set]) (by simp [T.get_set]) (by simp [T.get_set]) (by simp [T.get_set])
theorem l_prows2 (n : Nat) (hn : n ≤ 60) (t : Nat) : ∀ (r i : Nat) (H : Heap) (τ : Tape) (M : Nat), i + r = n → r < M → WF H → TabE B H t (rowsP cred n) →
  ∃ H' τ', Gr B H H' ∧ TabE B H' t (rowsP cred n) ∧ ∀ (fr : T V) k, fr.get 0 = some (.int .i64 (n : Int)) → fr.get 1 = some (.bool cred) → fr.get 5 = some (.ptr t 0) → fr.get 8 = some (.int .i64 (i : Int)) →
   loopK (s_law19_PreflightRows_l2 c N) M ⟨fr, H⟩ τ k = k (.exit 2) ⟨(T.set .leaf 5 (.ptr t 0)), H'⟩ τ' := by
 intro r
 induction r with
 | zero =>
  intro i H τ M hi hM hw ht
  obtain ⟨M, rfl⟩ : ∃ j, M = j + 1 := ⟨M - 1, by omega⟩
  obtain rfl : i = n := by omega
  have e1 : decide ((i : Int) < (i : Int)) = false := decide_eq_false (by omega)
  refine ⟨H, τ, Gr.refl hw, ht, fun fr k f0 f1 f5 f8 => ?_⟩
  rw [loopK_succ]
  simp only [s_law19_PreflightRows_l2, getK_mk f0, getK_mk f1, getK_mk f5, getK_mk f8, bin_lss, e1, condK_fn]
  rfl
 | succ r ih =>
  intro i H τ M hi hM hw ht
  obtain ⟨M, rfl⟩ : ∃ j, M = j + 1 := ⟨M - 1, by omega⟩
  have hi60 : i < 60 := by omega
  have e1 : decide ((i : Int) < (n : Int)) = true := decide_eq_true (by omega)
  have e3 : wr .i64 ((i : Int) + Int.ofNat 1) = ((i + 1 : Nat) : Int) := adI (by omega)
  obtain ⟨s1, s2, s3, s4⟩ := nm_step hi60
  obtain ⟨H4, τ4, d1, d2, d3⟩ := rows_allow c hPut hAl hLen cred hw hn hi60 ht (now := 99) (by omega) τ
  have d3' : ∀ q, c f_preflight_Table_Allows [.ptr t 0, .str (bs [115]), .str (bs [117]), .bool cred, .str (nmP i), .nils, .int .i64 (.ofNat 99)] H τ q = q (.bool (decide (i < n ∧ n ≤ i + 32))) H4 τ4 := d3
  obtain ⟨H', τ', r1, r2, r3⟩ := ih (i + 1) H4 τ4 M (by omega) (by omega) d2.wf d1
  have e6 : wr .i64 ((n : Int) - Int.ofNat 32) = (n : Int) - 32 := by have : Int.ofNat 32 = 32 := rfl; rw [wr_id (by omega) (by omega)]; rfl
  have e7 : decide ((n : Int) - 32 ≤ (i : Int)) = decide (i < n ∧ n ≤ i + 32) := by rw [Bool.eq_iff_iff, decide_eq_true_eq, decide_eq_true_eq]; omega
  have e8 : ∀ b : Bool, pEq true .bool [.bool b, .bool b] = some (.bool false) := fun b => by cases b <;> rfl
  refine ⟨H', τ', d2.trans r1 (Nat.le_refl _), r2, fun fr k f0 f1 f5 f8 => ?_⟩
  rw [loopK_succ]
  simp only [s_law19_PreflightRows_l2, getK_mk f0, getK_mk f1, getK_mk f5, getK_mk f8, bin_lss, e1, condK_tn, bin_add, s1, s2, s3, someK_n, bin_str, s4, d3', bin_sub, e6, bin_geq, e7, e8, condK_fn, e3]
  exact r3 _ k (by simp [T.get_set]) (by simp [T.get_set]) (by simp [T.get_set]) (by simp [T.get_set])
end
abbrev WithinOkP (c : CallK) : Prop := ∀ (n : Int) {h : Nat}, h < 4611686018427387903 → ∀ (H : Heap) (τ : Tape), ∃ m : Nat, m ≤ h ∧ ∀ q, c f_book_Within [.int .i64 n, .int .i64 (.ofNat 0), .int .i64 (h : Int)] H τ q = q (.int .i64 (m : Int)) H τ
theorem s_law19_PreflightRows_ret (c : CallK) {N : Nat} (hN : 9223372036854775807 ≤ N) (hNew : NewOkT c) (hPut : PutOkE c) (hAl : AlwOk c) (hLen : LenOkT c) (hDrop : DrpOkT c) (hW : WithinOkP c) (hK : ∀ H τ q, c f_law19_known [] H τ q = q (.bool true) H τ) (n : Int) (cred : Bool) (H : Heap) (hw : WF H) (τ : Tape) :
  ∃ H' τ', Gr H.size H H' ∧ ∀ q, s_law19_PreflightRows c N (.int .i64 n) (.bool cred) H τ q = q (.bool true) H' τ' := by
 obtain ⟨H1, a1, a2, a3, a4⟩ := hNew H hw τ
 have en : lPeq false [.ptr H.size 0, .nilp] H1 = some (.bool false) := rfl
 obtain ⟨m, hm, kw⟩ := hW n (h := 60) (by omega) H1 τ
 have kw' : ∀ q, c f_book_Within [.int .i64 n, .int .i64 (.ofNat 0), .int .i64 (.ofNat 60)] H1 τ q = q (.int .i64 (m : Int)) H1 τ := kw
 have t1 : TabE H.size H1 H.size (rowsP cred 0) := ⟨_, a1, fun j hj => show H.size < j by omega, fun j hj h => by omega, Nat.le_refl _⟩
 obtain ⟨H2, τ2, b1, b2, b3⟩ := l_prows c hPut hAl hLen cred (N := N) m hm H.size m 0 H1 τ N (by omega) (by omega) a2.wf t1
 obtain ⟨H3, τ3, d1, d2, d3⟩ := l_prows2 c hPut hAl hLen cred (N := N) m hm H.size m 0 H2 τ2 N (by omega) (by omega) b1.wf b2
 have hB3 := d2.le d1.wf
 obtain ⟨P, x1, x2, x3, x4⟩ := d2
 obtain ⟨H4, τ4, f1, f2, f3⟩ := hDrop x1 d1.wf x2 (by rw [rowsP_len]; omega) [115] [117] τ3
 rw [drop_rows] at f1
 have f3' : ∀ q, c f_preflight_Table_Drop [.ptr H.size 0, .str (bs [115]), .str (bs [117])] H3 τ3 q = q (.tup []) H4 τ4 := f3
 obtain ⟨H5, τ5, g1, g2⟩ := hLen f1 f2.wf (by simp) 0 τ4
 have g2' : ∀ q, c f_preflight_Table_Len [.ptr H.size 0, .int .i64 (.ofNat 0)] H4 τ4 q = q (.int .i64 (.ofNat 0)) H5 τ5 := g2
 have ez : (Int.ofNat 0 == Int.ofNat 0) = true := rfl
 have gd : Gr H.size H3 H4 := f2.gr hB3 (fun j hj h => h.elim (x3 j hj) (fun h => by omega))
 have g5 : Gr H.size H4 H5 := g1.weaken (Nat.le_trans hB3 gd.size)
 refine ⟨H5, τ5, (((a2.trans b1 (Nat.le_refl _)).trans d1 (Nat.le_refl _)).trans gd (Nat.le_refl _)).trans g5 (Nat.le_refl _), fun q => ?_⟩
 simp only [s_law19_PreflightRows, a4, en, someK_n, condK_fn, kw']
 rw [b3 _ _ (by simp [T.get_set]) (by simp [T.get_set]) (by simp [T.get_set]) (by simp [T.get_set])]
 simp only [blockK, Nat.beq_refl, cond_true, seqK, s_law19_PreflightRows_j0, getK_set, ↓reduceIte, Nat.reduceEqDiff]
 rw [d3 _ _ (by simp [T.get_set]) (by simp [T.get_set]) (by simp [T.get_set]) (by simp [T.get_set])]
 simp only [blockK, Nat.beq_refl, cond_true, seqK, s_law19_PreflightRows_j1, getK_set, ↓reduceIte, Nat.reduceEqDiff, f3', g2', bin_eql, ez, gK_do, hK, retK, effK_n, pick_mk, someK_n]
end Go.Am.X

