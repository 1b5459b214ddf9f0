/- The abstract machine, printed functions of the program, and what they are shown to be. -/
import Derived.Test.YtpigmhokjbbffaaGreatDoorHA2L1
import Derived.Test.YtpigmhokjbbffaaGreatDoorHA2Ok
import Derived.Test.YtpigmhokjbbffaaGreatDoorHA2M3
import Derived.Test.YtpigmhokjbbffaaGreatDoorHA2L0
namespace Go.Am.X
set_option linter.unusedSimpArgs false
set_option linter.unusedVariables false
set_option linter.unusedSectionVars false
set_option maxRecDepth 100000
abbrev NB : Nat := 9223372036854775808
theorem nb : 9223372036854775807 < NB := by decide
theorem tab_all (f : Nat) (d : Def) (h : tabF.get f = some d) (base : Nat) (w0 : World) : DefOk PG base w0 f d := defs_ok (all_ok base w0) f d h
/-- out of the great table -/
theorem primOk_E (d f : Nat) {R : List V → Heap → Out → Prop}
    (hR : ∀ vs H o, WF H → VsOk H vs → R vs H o → ∀ τ, ∃ v H' τ', C NB d f vs H τ retK = some (v, H', τ') ∧ Gr H.size H H' ∧ o.Met H v H') : ∀ base w0, PrimOk PG base w0 f (outP R) :=
  primOk_tab mixed_ok (tab_ok NB) tab_all d f hR
def strP (M : Nat) : List V → Prop | [.str s] => s.length ≤ M | _ => False
def strG (g : Bs → V) : List V → V | [.str s] => g s | _ => .tup []
/-- a function of one text -/
abbrev RS (M : Nat) (g : Bs → V) := RV (strP M) (strG g)
theorem primS (d f M : Nat) (g : Bs → V) (hv : ∀ s H, VOk H (g s)) (h : ∀ s : Bs, s.length ≤ M → ∀ H, WF H → ∀ τ, ∃ H' τ', Gr H.size H H' ∧ ∀ q, C NB d f [.str s] H τ q = q (g s) H' τ') : ∀ base w0, PrimOk PG base w0 f (outP (RS M g)) := by
  refine primOk_E d f ?_
  rintro vs H o hw hvs ⟨hp, rfl⟩ τ
  unfold strP at hp
  split at hp
  · rename_i s
    obtain ⟨H', τ', g1, k1⟩ := h s hp H hw τ
    exact ⟨_, H', τ', k1 retK, g1, rfl, hv s H⟩
  · exact hp.elim
theorem callS {c : CallK} {f M : Nat} {g : Bs → V} (hc : ∀ vs H τ q, c f vs H τ q = effK (outP (RS M g) vs H τ) q) (s : Bs) (hs : s.length ≤ M) (H : Heap) (τ : Tape) (q : KV) : c f [.str s] H τ q = q (g s) H τ := RV_call hc (vs := [.str s]) hs H τ q
abbrev LowR := RS 140737488355328 fun s => .str (lower s)
theorem p_infra_Lower : ∀ base w0, PrimOk PG base w0 f_infra_Lower (outP LowR) := primS 3 _ _ _ (fun _ _ => trivial) fun s hs H hw τ => by
  obtain ⟨H', τ', g, k⟩ := d_infra_Lower nb 3 (by omega) s hs H hw τ retK
  exact ⟨H', τ', g, fun q => (C_nat NB 3).mk k q⟩
end Go.Am.X


namespace Go.Am.X
set_option linter.unusedSimpArgs false
set_option linter.unusedVariables false
set_option linter.unusedSectionVars false
set_option maxRecDepth 100000
def fewh (m : Nat) (h : Bs × Bs) : Bs × Bs := (h.1.take m, h.2.take m)

theorem s14_eval (c : CallK) (N : Nat) (s : Bs) (m : Nat) (H : Heap) (τ : Tape) (q : KV) : s_keep_Few c N (.str s) (.int .i64 (m : Int)) H τ q = q (.str (s.take m)) H τ := by
  simp only [s_keep_Few, lenS_mk, someK_mk, bin_gtr]
  by_cases h : m < s.length
  · rw [decide_eq_true (by omega), condK_t, strSlice_hi (by omega), someK_mk]
  · rw [decide_eq_false (by omega), condK_f, List.take_of_length_le (by omega)]

abbrev FewOk (c : CallK) : Prop := ∀ (s : Bs) (m : Nat) H τ q, c f_keep_Few [.str s, .int .i64 (m : Int)] H τ q = q (.str (s.take m)) H τ

theorem few_loop (c : CallK) (N : Nat) (h14 : FewOk c) {B id off m lo nn mm : Nat} {ex : Option Nat} {all : List V} (hs : List (Bs × Bs)) (hm : hs.length = m) (hmb : m ≤ 9223372036854775807) (hnn : nn ≤ 1000)
    (hall : (all.drop off).take (m * 2) = hcells hs) (hlen : off + m * 2 ≤ all.length) (l : List (Bs × Bs)) :
    ∀ (pre : List (Bs × Bs)) (v7 : V) (acc : List (Bs × Bs)) (n : Nat) (fr : T V) (H : Heap) (τ : Tape), WF H → B ≤ H.size → hs = pre ++ l → H.cells? id = some all → Own H B 2 v7 acc.length (hcells acc) → acc.length = pre.length → pre.length ≤ nn → l.length < n →
    fr.get 0 = some (.sl id off m lo ex 2) → fr.get 1 = some (.int .i64 (nn : Int)) → fr.get 2 = some (.int .i64 (mm : Int)) → fr.get 7 = some v7 → fr.get 8 = some (.int .i64 (pre.length : Int)) →
    ∃ v7' H' τ', Gr B H H' ∧ Own H' B 2 v7' (acc ++ (l.take (nn - pre.length)).map (fewh mm)).length (hcells (acc ++ (l.take (nn - pre.length)).map (fewh mm))) ∧ ∀ k, loopK (s_keep_FewHeaders_l1 c N) n ⟨fr, H⟩ τ k = k (.exit 0) ⟨T.set .leaf 7 v7', H'⟩ τ' := by
  induction l with
  | nil =>
    intro pre v7 acc n fr H τ hw hB he hc ho ha hp hn f0 f1 f2 f7 f8
    obtain ⟨n, rfl⟩ : ∃ j, n = j + 1 := ⟨n - 1, by simp at hn; omega⟩
    refine ⟨v7, H, τ, Gr.refl hw, by simpa using ho, fun k => ?_⟩
    have e0 : pLen [.sl id off m lo ex 2] = some (.int .i64 (m : Int)) := rfl
    have e1 : decide ((pre.length : Int) < (m : Int)) = false := decide_eq_false (by rw [← hm, he]; simp)
    rw [loopK_succ]
    simp only [s_keep_FewHeaders_l1, getK_mk f0, getK_mk f1, getK_mk f2, getK_mk f7, getK_mk f8, e0, someK_mk, bin_lss, e1, gK_skip, pick_mk, cond_false, condK_f, seqK]
  | cons h l ih =>
    intro pre v7 acc n fr H τ hw hB he hc ho ha hp hn f0 f1 f2 f7 f8
    obtain ⟨n, rfl⟩ : ∃ j, n = j + 1 := ⟨n - 1, by simp at hn; omega⟩
    have e0 : pLen [.sl id off m lo ex 2] = some (.int .i64 (m : Int)) := rfl
    have hmm : m = pre.length + (l.length + 1) := by rw [← hm, he]; simp
    have e1 : decide ((pre.length : Int) < (m : Int)) = true := decide_eq_true (by omega)
    by_cases hlt : pre.length < nn
    · have e2 : decide ((pre.length : Int) < (nn : Int)) = true := decide_eq_true (by omega)
      have e3 : pSlIdx 2 [.sl id off m lo ex 2, .int .i64 (pre.length : Int)] = some (.ptr id (off + pre.length * 2)) := by
        have : Nat.blt pre.length m = true := by simp [Nat.blt]; omega
        simp [pSlIdx, natOf_nat, this]
      have hcell : ∀ j, j < 2 → all[off + pre.length * 2 + j]? = ([V.str h.1, V.str h.2])[j]? := by
        intro j hj
        have h1 : (hcells hs)[pre.length * 2 + j]? = ([V.str h.1, V.str h.2])[j]? := by
          rw [he, hcells_append, List.getElem?_append_right (by rw [hcells_length]; omega), hcells_length, Nat.add_sub_cancel_left, hcells_cons]
          match j, hj with
          | 0, _ => rfl
          | 1, _ => rfl
        rw [← h1, ← hall, List.getElem?_take_of_lt (by omega), List.getElem?_drop, Nat.add_assoc]
      have e4 : lLoad1 [.ptr id (off + pre.length * 2 + 0)] H = some (.str h.1) := load_cell hc (hcell 0 (by omega))
      have e5 : lLoad1 [.ptr id (off + pre.length * 2 + 1)] H = some (.str h.2) := load_cell hc (hcell 1 (by omega))
      have e6 : pBuild [(.str []), (.str [])] [(0, 1), (1, 1)] [.str (h.1.take mm), .str (h.2.take mm)] = some (.agg [.str (h.1.take mm), .str (h.2.take mm)]) := rfl
      have hG1 := Gr.new hw [V.str (h.1.take mm), V.str (h.2.take mm)] (1 * 2) false
      have ho1 := ho.gr hG1 hw (Nat.le_refl _)
      have hc1 := hG1.cells hw (Nat.le_refl _) hc
      have e7 : eBuildSlice 1 2 [(.str []), (.str [])] [(0, 2)] [.agg [.str (h.1.take mm), .str (h.2.take mm)]] H τ = some (.sl H.size 0 1 1 none 2, H.new [.str (h.1.take mm), .str (h.2.take mm)] (1 * 2) false, τ) := rfl
      obtain ⟨v28, H2, r1, r2, r3, r4⟩ := ho1.append (bytes := 32) hG1.wf (by have := hG1.size; omega) 1 [.str (h.1.take mm), .str (h.2.take mm)] (by omega) rfl rfl (by omega) (by omega) τ
      have e8 : eAppend 2 32 [v7, .sl H.size 0 1 1 none 2] (H.new [.str (h.1.take mm), .str (h.2.take mm)] (1 * 2) false) τ = some (v28, H2, τ.tail) := by
        have hl : (H.new [V.str (h.1.take mm), V.str (h.2.take mm)] (1 * 2) false).loads H.size 0 (1 * 2) = some [.str (h.1.take mm), .str (h.2.take mm)] := by
          rw [loads_cells (cells_new _ _ _ _) (by simp)]; rfl
        simp only [eAppend, srcLen, srcCells, Nat.beq_refl, cond_true, hl, r1]
      have e9 : wr .i64 ((pre.length : Int) + Int.ofNat 1) = ((pre ++ [h]).length : Int) := by
        rw [wr_id (by first | (simp; done) | (simp; omega) | omega) (by first | (simp; done) | (simp; omega) | omega)]
        simp
      have hcells : hcells acc ++ [V.str (h.1.take mm), V.str (h.2.take mm)] = hcells (acc ++ [fewh mm h]) := by
        rw [hcells_append]; rfl
      rw [hcells] at r2
      obtain ⟨v7', H', τ', q1, q2, q3⟩ := ih (pre ++ [h]) v28 (acc ++ [fewh mm h]) n (T.set (T.set (T.set (T.set (T.set (T.set (T.set (T.set .leaf 0 (.sl id off m lo ex 2)) 1 (.int .i64 (nn : Int))) 2 (.int .i64 (mm : Int))) 7 v28) 8 (.int .i64 (pre.length : Int))) 18 (.int .i64 (pre.length : Int))) 19 (.int .i64 ((pre ++ [h]).length : Int))) 8 (.int .i64 ((pre ++ [h]).length : Int))) H2 τ.tail r3.wf (by have := hG1.size; have := r3.size; omega) (by rw [he]; simp) (r4 _ _ hc1) (by simpa using r2) (by simp [ha]) (by first | (simp; done) | (simp; omega) | omega) (by simp at hn; omega) (by simp [T.get_set]) (by simp [T.get_set]) (by simp [T.get_set]) (by simp [T.get_set]) (by simp [T.get_set])
      have hq : acc ++ ((h :: l).take (nn - pre.length)).map (fewh mm) = (acc ++ [fewh mm h]) ++ (l.take (nn - (pre ++ [h]).length)).map (fewh mm) := by
        obtain ⟨j, hj⟩ : ∃ j, nn - pre.length = j + 1 := ⟨nn - pre.length - 1, by omega⟩
        rw [hj, List.take_succ_cons, show nn - (pre ++ [h]).length = j by simp; omega]
        simp
      refine ⟨v7', H', τ', (hG1.weaken hB).trans (r3.trans q1 (Nat.le_refl _)) (Nat.le_refl _), by rw [hq]; exact q2, fun k => ?_⟩
      have e10 : chkLoads [H, H, H, H.new [.str (h.1.take mm), .str (h.2.take mm)] (1 * 2) false, H2] [((.load none), [.ptr id (off + pre.length * 2 + 1)], 0, 1)] = true := by
        simp [chkLoads, evalL, lLoad, e5, chk1, same, same1, same0]
      rw [loopK_succ]
      simp only [s_keep_FewHeaders_l1, getK_mk f0, getK_mk f1, getK_mk f2, getK_mk f7, getK_mk f8, e0, someK_mk, bin_lss, e1, gK_do, retK, effK_mk, e2, pick_mk, cond_true, condK_t, e3, pFieldAddr, e4, h14, e5, e6, e7, e8, e10, bin_add, e9, seqK, q3]
    · have e2 : decide ((pre.length : Int) < (nn : Int)) = false := decide_eq_false (by omega)
      refine ⟨v7, H, τ, Gr.refl hw, by rw [show nn - pre.length = 0 by omega]; simpa using ho, fun k => ?_⟩
      rw [loopK_succ]
      simp only [s_keep_FewHeaders_l1, getK_mk f0, getK_mk f1, getK_mk f2, getK_mk f7, getK_mk f8, e0, someK_mk, bin_lss, e1, gK_do, retK, effK_mk, e2, pick_mk, cond_true, condK_f, seqK]

def fewH (nn mm : Nat) (hs : List (Bs × Bs)) : List (Bs × Bs) := (hs.take nn).map (fewh mm)

theorem s_keep_FewHeaders_ret (c : CallK) (N : Nat) (hN : 9223372036854775807 < N) (h14 : FewOk c) (hs : List (Bs × Bs)) (hmb : hs.length ≤ 9223372036854775807) (nn mm : Nat) (hnn : nn ≤ 1000) (v : V) (H : Heap) (hw : WF H) (hr : Rd H 2 v hs.length (hcells hs)) (τ : Tape) :
    ∃ v' H' τ', Gr H.size H H' ∧ Own H' H.size 2 v' (fewH nn mm hs).length (hcells (fewH nn mm hs)) ∧ (hs = [] → v' = .nils) ∧ ∀ q, s_keep_FewHeaders c N v (.int .i64 (nn : Int)) (.int .i64 (mm : Int)) H τ q = q v' H' τ' := by
  by_cases h0 : hs = []
  · subst h0
    refine ⟨.nils, H, τ, Gr.refl hw, by simpa [fewH, hcells] using Own.nil H H.size 2, fun _ => rfl, fun q => ?_⟩
    obtain ⟨N, rfl⟩ : ∃ j, N = j + 1 := ⟨N - 1, by omega⟩
    simp only [s_keep_FewHeaders, loopK_succ, s_keep_FewHeaders_l1, getK_set, ↓reduceIte, Nat.reduceEqDiff, rd_len hr, someK_mk]
    rw [bin_lss, show decide (Int.ofNat 0 < ((([] : List (Bs × Bs)).length : Nat) : Int)) = false from rfl]
    simp only [gK_skip, pick_mk, cond_false, someK_mk, condK_f, seqK, blockK, Nat.beq_refl, cond_true, s_keep_FewHeaders_j0, getK_set, ↓reduceIte]
  · rcases hr with ⟨_, hz, _⟩ | ⟨id, off, lo, ex, all, rfl, hc, hall, hlen⟩
    · exact absurd (List.length_eq_zero_iff.1 hz) h0
    · have hpos : 0 < hs.length := List.length_pos_iff.2 h0
      have hl : off + hs.length * 2 ≤ all.length := by
        have := hlen
        rw [hall, List.length_take, List.length_drop] at this
        omega
      obtain ⟨v', H', τ', k1, k2, k3⟩ := few_loop c N h14 (B := H.size) (lo := lo) (ex := ex) (nn := nn) (mm := mm) hs rfl hmb hnn hall.symm hl hs [] .nils [] N (T.set (T.set (T.set (T.set (T.set .leaf 0 (.sl id off hs.length lo ex 2)) 1 (.int .i64 (nn : Int))) 2 (.int .i64 (mm : Int))) 7 .nils) 8 (.int .i64 0)) H τ hw (Nat.le_refl _) rfl hc (Own.nil _ _ _) rfl (by simp) (by omega) (by simp [T.get_set]) (by simp [T.get_set]) (by simp [T.get_set]) (by simp [T.get_set]) (by simp [T.get_set])
      refine ⟨v', H', τ', k1, by simpa [fewH] using k2, fun h => absurd h h0, fun q => ?_⟩
      simp only [s_keep_FewHeaders]
      rw [show (V.int IntKind.i64 (Int.ofNat 0)) = .int .i64 0 from rfl, k3]
      simp only [blockK, Nat.beq_refl, cond_true, seqK, s_keep_FewHeaders_j0, getK_set, ↓reduceIte]
end Go.Am.X


namespace Go.Am.X
set_option linter.unusedSimpArgs false
set_option linter.unusedVariables false
set_option linter.unusedSectionVars false
set_option maxRecDepth 100000
def RdH (H : Heap) (v : V) (hs : List Hd) : Prop := Rd H 2 v hs.length (hcells hs) ∧ Src H v
theorem hcells_inj : ∀ {a b : List Hd}, hcells a = hcells b → a = b := by
  intro a
  induction a with
  | nil => intro b h; cases b with
    | nil => rfl
    | cons y b => rw [hcells_cons] at h; cases h
  | cons x a ih => intro b h; cases b with
    | nil => rw [hcells_cons] at h; cases h
    | cons y b =>
      rw [hcells_cons, hcells_cons] at h
      simp only [List.cons.injEq, V.str.injEq] at h
      obtain ⟨h1, h2, h3⟩ := h
      rw [ih h3]
      obtain ⟨x1, x2⟩ := x
      obtain ⟨y1, y2⟩ := y
      simp only at h1 h2
      subst h1; subst h2; rfl
theorem RdH.uniq {H : Heap} {v : V} {a b : List Hd} (h : RdH H v a) (k : RdH H v b) : a = b := hcells_inj (h.1.uniq k.1).2
theorem RdH.gr {H H' : Heap} {B : Nat} {v : V} {hs : List Hd} (h : RdH H v hs) (hg : Gr B H H') (hw : WF H) (hB : H.size ≤ B) : RdH H' v hs := ⟨h.1.gr hg hw hB, h.2.gr hg hw hB⟩
def isNil : V → Bool | .nils => true | _ => false
/-- a function of a list of headers and of values -/
def RH (Pre : List Hd → List V → Prop) (g : Bool → List Hd → List V → Out) (vs : List V) (H : Heap) (o : Out) : Prop := ∃ v l hs, vs = v :: l ∧ RdH H v hs ∧ Pre hs l ∧ o = g (isNil v) hs l
theorem RH_fun (Pre : List Hd → List V → Prop) (g : Bool → List Hd → List V → Out) : Fun1 (RH Pre g) := by
  rintro vs H o o' ⟨v, l, hs, rfl, h1, _, rfl⟩ ⟨v', l', hs', e, h2, _, rfl⟩
  cases e
  rw [h1.uniq h2]
theorem RH_val {c : CallK} {f : Nat} {Pre : List Hd → List V → Prop} {g : Bool → List Hd → List V → Out} (hc : ∀ vs H τ q, c f vs H τ q = effK (outP (RH Pre g) vs H τ) q) {v : V} {l : List V} {hs : List Hd} {H : Heap} {u : V} (h : RdH H v hs) (hp : Pre hs l) (hg : g (isNil v) hs l = .val u) (τ : Tape) (q : KV) :
    c f (v :: l) H τ q = q u H τ := outK_val hc (RH_fun _ _) ⟨v, l, hs, rfl, h, hp, hg.symm⟩ τ q
theorem RH_lst {c : CallK} {f : Nat} {Pre : List Hd → List V → Prop} {g : Bool → List Hd → List V → Out} (hc : ∀ vs H τ q, c f vs H τ q = effK (outP (RH Pre g) vs H τ) q) {v : V} {l : List V} {hs : List Hd} {H : Heap} {z n : Nat} {cs : List V} {mk : V → V} (h : RdH H v hs) (hp : Pre hs l) (hg : g (isNil v) hs l = .lst z n cs mk) (hw : WF H) (hlen : cs.length = n * z) (τ : Tape) :
    ∃ lv H' τ', Own H' H.size z lv n cs ∧ lv ≠ .nils ∧ Gr H.size H H' ∧ ∀ q, c f (v :: l) H τ q = q (mk lv) H' τ' := outK_lst hc (RH_fun _ _) ⟨v, l, hs, rfl, h, hp, hg.symm⟩ hw hlen τ
/-- a list, nil where it has nothing -/
def lstO (z n : Nat) (cs : List V) (mk : V → V) : Out := if n = 0 then .val (mk .nils) else .lst z n cs mk
theorem RH_lstO {c : CallK} {f : Nat} {Pre : List Hd → List V → Prop} {g : Bool → List Hd → List V → Out} (hc : ∀ vs H τ q, c f vs H τ q = effK (outP (RH Pre g) vs H τ) q) {v : V} {l : List V} {hs : List Hd} {H : Heap} {z n : Nat} {cs : List V} {mk : V → V} (h : RdH H v hs) (hp : Pre hs l) (hg : g (isNil v) hs l = lstO z n cs mk) (hw : WF H) (hlen : cs.length = n * z) (τ : Tape) :
    ∃ lv H' τ', Own H' H.size z lv n cs ∧ Gr H.size H H' ∧ ∀ q, c f (v :: l) H τ q = q (mk lv) H' τ' := outK_list hc (RH_fun _ _) ⟨v, l, hs, rfl, h, hp, hg.symm⟩ hw hlen τ
theorem Own.rdH {H : Heap} {B : Nat} {v : V} {hs : List Hd} (h : Own H B 2 v hs.length (hcells hs)) : RdH H v hs := ⟨h.rd, h.src⟩
theorem hcells_vok (H : Heap) (hs : List Hd) : VsOk H (hcells hs) := by
  induction hs with
  | nil => trivial
  | cons h l ih => rw [hcells_cons]; exact ⟨trivial, trivial, ih⟩
theorem Got.met {H H' : Heap} {z n : Nat} {v : V} {cs : List V} {mk : V → V} (h : Got H' H.size z v n cs) (h0 : n = 0 → v = .nils) (hmk : MkOk mk) (hcs : VsOk H cs) (hnil : VOk H (mk .nils)) : (lstO z n cs mk).Met H (mk v) H' := by
  unfold lstO
  by_cases hn : n = 0
  · rw [if_pos hn, h0 hn]; exact ⟨rfl, hnil⟩
  · rw [if_neg hn]
    rcases h with ⟨_, h, _⟩ | h
    · exact absurd h hn
    · exact ⟨hmk, hcs, v, rfl, h⟩

abbrev GetPre (hs : List Hd) : List V → Prop | [.str name] => Small hs ∧ name.length ≤ 140737488355328 | _ => False
abbrev GetG (_ : Bool) (hs : List Hd) : List V → Out | [.str name] => .val (.tup [.str (getT name hs), .bool (decide (0 < (sel name hs).length))]) | _ => .val (.tup [])
theorem p_headers_Get : ∀ base w0, PrimOk PG base w0 f_headers_Get (outP (RH GetPre GetG)) := by
  refine primOk_E 5 _ ?_
  rintro vs H o hw hvs ⟨v, l, hs, rfl, ⟨h1, h2⟩, hp, rfl⟩ τ
  unfold GetPre at hp
  split at hp
  · rename_i name
    obtain ⟨H', τ', g, k⟩ := d20' nb 5 (by omega) name hp.2 hp.1 v H hw h1 τ
    exact ⟨_, H', τ', k retK, g, rfl, trivial, trivial, trivial⟩
  · exact hp.elim
abbrev ValueR := RS 9223372036854775806 valV
theorem valV_vok (s : Bs) (H : Heap) : VOk H (valV s) := by
  unfold valV; cases valO s <;> exact ⟨trivial, trivial, trivial⟩
theorem p_headers_Value : ∀ base w0, PrimOk PG base w0 f_headers_Value (outP ValueR) := primS 6 _ _ _ valV_vok fun s hs H hw τ => by
  obtain ⟨H', g, k⟩ := d_headers_Value nb 6 (by omega) s (by omega) H hw τ
  exact ⟨H', τ, g, k⟩
theorem Got.lst {H : Heap} {B z : Nat} {v : V} {n : Nat} {cs : List V} (h : Got H B z v n cs) (hn : n ≠ 0) : FreshL B H z n cs v := by
  rcases h with ⟨_, h, _⟩ | h
  · exact absurd h hn
  · exact h
end Go.Am.X


namespace Go.Am.X
set_option linter.unusedSimpArgs false
set_option linter.unusedVariables false
set_option linter.unusedSectionVars false
set_option maxRecDepth 100000
def letB (n : Nat) : Bool := (decide (97 ≤ n) && decide (n ≤ 122)) || (decide (65 ≤ n) && decide (n ≤ 90))
def digB (n : Nat) : Bool := decide (48 ≤ n) && decide (n ≤ 57)
theorem s_ref1_Letter_ret (c : CallK) (N n : Nat) (H : Heap) (τ : Tape) (q : KV) : s_ref1_Letter c N (.int .u8 (n : Int)) H τ q = q (.bool (letB n)) H τ := by
  unfold letB
  cases h1 : decide (97 ≤ n) <;> cases h2 : decide (n ≤ 122) <;> cases h3 : decide (65 ≤ n) <;> cases h4 : decide (n ≤ 90) <;> simp only [s_ref1_Letter, getK_set, ↓reduceIte, Nat.reduceEqDiff, someK_n, effK_n, retK, gK_do, gK_do', gK_skip, gK_skip', gK_none, pick_mk, cond_true, cond_false, condK_tn, condK_fn, bin_eql, bin_neq, bin_lss, bin_leq, bin_gtr, bin_geq, un_not, Bool.not_true, Bool.not_false, bin_str, lenS_mk, nle_l, nle_r, nle_n, nlt_l, nlt_r, nlt_n, neq_r, neq_n, nne_r, nne_n, ext0, ext1, ext30, ext31, ext32, bin_add, bin_sub, decide_true, decide_false, h1, h2, h3, h4] <;> rfl
theorem s_ref1_Digit_ret (c : CallK) (N n : Nat) (H : Heap) (τ : Tape) (q : KV) : s_ref1_Digit c N (.int .u8 (n : Int)) H τ q = q (.bool (digB n)) H τ := by
  unfold digB
  cases h1 : decide (48 ≤ n) <;> cases h2 : decide (n ≤ 57) <;> simp only [s_ref1_Digit, getK_set, ↓reduceIte, Nat.reduceEqDiff, someK_n, effK_n, retK, gK_do, gK_do', gK_skip, gK_skip', gK_none, pick_mk, cond_true, cond_false, condK_tn, condK_fn, bin_eql, bin_neq, bin_lss, bin_leq, bin_gtr, bin_geq, un_not, Bool.not_true, Bool.not_false, bin_str, lenS_mk, nle_l, nle_r, nle_n, nlt_l, nlt_r, nlt_n, neq_r, neq_n, nne_r, nne_n, ext0, ext1, ext30, ext31, ext32, bin_add, bin_sub, decide_true, decide_false, h1, h2] <;> rfl
def endB (b : Bool) (n : Nat) : Bool := (decide (n = 9) || decide (n = 32)) || (!b && (decide (n = 10) || decide (n = 13)))
theorem s_ref1_ends_ret (c : CallK) (N n : Nat) (b : Bool) (H : Heap) (τ : Tape) (q : KV) : s_ref1_ends c N (.int .u8 (n : Int)) (.bool b) H τ q = q (.bool (endB b n)) H τ := by
  unfold endB
  cases h1 : decide (n = 9) <;> cases h2 : decide (n = 32) <;> cases b <;> cases h4 : decide (n = 10) <;> cases h5 : decide (n = 13) <;> simp only [s_ref1_ends, getK_set, ↓reduceIte, Nat.reduceEqDiff, someK_n, effK_n, retK, gK_do, gK_do', gK_skip, gK_skip', gK_none, pick_mk, cond_true, cond_false, condK_tn, condK_fn, bin_eql, bin_neq, bin_lss, bin_leq, bin_gtr, bin_geq, un_not, Bool.not_true, Bool.not_false, bin_str, lenS_mk, nle_l, nle_r, nle_n, nlt_l, nlt_r, nlt_n, neq_r, neq_n, nne_r, nne_n, ext0, ext1, ext30, ext31, ext32, bin_add, bin_sub, decide_true, decide_false, h1, h2, h4, h5] <;> rfl
abbrev EndsOk (c : CallK) : Prop := ∀ (n : Nat) (b : Bool) (H : Heap) (τ : Tape) (q : KV), c f_ref1_ends [.int .u8 (n : Int), .bool b] H τ q = q (.bool (endB b n)) H τ
theorem l_ref1_Trim_a (c : CallK) (N : Nat) (he : EndsOk c) (b : Bool) (H : Heap) : ∀ (s : Bs) (fr : T V) (τ : Tape) (m : Nat), s.length < m → s.length < 9223372036854775807 → fr.get 0 = some (.str s) → fr.get 1 = some (.bool b) →
    ∀ k, loopK (s_ref1_Trim_l3 c N) m ⟨fr, H⟩ τ k = k (.exit 0) ⟨(T.set (T.set .leaf 0 (.str (s.dropWhile fun x => endB b x.toNat))) 1 (.bool b)), H⟩ τ := by
  intro s
  induction s with
  | nil =>
    intro fr τ m hm hs f0 f1 k
    obtain ⟨m, rfl⟩ : ∃ j, m = j + 1 := ⟨m - 1, by omega⟩
    rw [loopK_succ]
    have e : decide (0 < ([] : Bs).length) = false := rfl
    simp only [s_ref1_Trim_l3, getK_mk f0, getK_mk f1, getK_set, ↓reduceIte, Nat.reduceEqDiff, someK_n, effK_n, retK, gK_do, gK_do', gK_skip, gK_skip', gK_none, pick_mk, cond_true, cond_false, condK_tn, condK_fn, bin_eql, bin_neq, bin_lss, bin_leq, bin_gtr, bin_geq, un_not, Bool.not_true, Bool.not_false, bin_str, lenS_mk, nle_l, nle_r, nle_n, nlt_l, nlt_r, nlt_n, neq_r, neq_n, nne_r, nne_n, ext0, ext1, ext30, ext31, ext32, bin_add, bin_sub, decide_true, decide_false, e]
    rfl
  | cons x s ih =>
    intro fr τ m hm hs f0 f1 k
    obtain ⟨m, rfl⟩ : ∃ j, m = j + 1 := ⟨m - 1, by omega⟩
    rw [loopK_succ]
    have e : decide (0 < (x :: s).length) = true := by simp
    have e2 : pStrIndex [.str (x :: s), .int .i64 (Int.ofNat 0)] = some (.int .u8 (x.toNat : Int)) := strIdx0 rfl
    have e3 : pStrSlice true false [.str (x :: s), .int .i64 (Int.ofNat 1)] = some (.str s) := by
      have := strSlice_lo (s := x :: s) (k := .i64) (i := 1) (by simp)
      simpa using this
    cases hb : endB b x.toNat with
    | true =>
      simp only [s_ref1_Trim_l3, getK_mk f0, getK_mk f1, getK_set, ↓reduceIte, Nat.reduceEqDiff, someK_n, effK_n, retK, gK_do, gK_do', gK_skip, gK_skip', gK_none, pick_mk, cond_true, cond_false, condK_tn, condK_fn, bin_eql, bin_neq, bin_lss, bin_leq, bin_gtr, bin_geq, un_not, Bool.not_true, Bool.not_false, bin_str, lenS_mk, nle_l, nle_r, nle_n, nlt_l, nlt_r, nlt_n, neq_r, neq_n, nne_r, nne_n, ext0, ext1, ext30, ext31, ext32, bin_add, bin_sub, decide_true, decide_false, e, e2, he, hb, e3, List.dropWhile_cons]
      exact ih _ τ m (by simp at hm; omega) (by simp at hs; omega) (by simp [T.get_set]) (by simp [T.get_set]) k
    | false =>
      simp only [s_ref1_Trim_l3, getK_mk f0, getK_mk f1, getK_set, ↓reduceIte, Nat.reduceEqDiff, someK_n, effK_n, retK, gK_do, gK_do', gK_skip, gK_skip', gK_none, pick_mk, cond_true, cond_false, condK_tn, condK_fn, bin_eql, bin_neq, bin_lss, bin_leq, bin_gtr, bin_geq, un_not, Bool.not_true, Bool.not_false, bin_str, lenS_mk, nle_l, nle_r, nle_n, nlt_l, nlt_r, nlt_n, neq_r, neq_n, nne_r, nne_n, ext0, ext1, ext30, ext31, ext32, bin_add, bin_sub, decide_true, decide_false, e, e2, he, hb, List.dropWhile_cons, Bool.false_eq_true]
      rfl
theorem l_ref1_Trim_b (c : CallK) (N : Nat) (he : EndsOk c) (b : Bool) (H : Heap) : ∀ (n : Nat) (s : Bs) (fr : T V) (τ : Tape) (m : Nat), s.length = n → n < m → n < 9223372036854775807 → fr.get 0 = some (.str s) → fr.get 1 = some (.bool b) →
    ∀ k, loopK (s_ref1_Trim_l2 c N) m ⟨fr, H⟩ τ k = k (.exit 2) ⟨(T.set .leaf 0 (.str (s.reverse.dropWhile fun x => endB b x.toNat).reverse)), H⟩ τ := by
  intro n
  induction n with
  | zero =>
    intro s fr τ m hn hm hs f0 f1 k
    obtain rfl := List.eq_nil_of_length_eq_zero hn
    obtain ⟨m, rfl⟩ : ∃ j, m = j + 1 := ⟨m - 1, by omega⟩
    rw [loopK_succ]
    have e : decide (0 < ([] : Bs).length) = false := rfl
    simp only [s_ref1_Trim_l2, getK_mk f0, getK_mk f1, getK_set, ↓reduceIte, Nat.reduceEqDiff, someK_n, effK_n, retK, gK_do, gK_do', gK_skip, gK_skip', gK_none, pick_mk, cond_true, cond_false, condK_tn, condK_fn, bin_eql, bin_neq, bin_lss, bin_leq, bin_gtr, bin_geq, un_not, Bool.not_true, Bool.not_false, bin_str, lenS_mk, nle_l, nle_r, nle_n, nlt_l, nlt_r, nlt_n, neq_r, neq_n, nne_r, nne_n, ext0, ext1, ext30, ext31, ext32, bin_add, bin_sub, decide_true, decide_false, e]
    rfl
  | succ n ih =>
    intro s fr τ m hn hm hs f0 f1 k
    obtain ⟨m, rfl⟩ : ∃ j, m = j + 1 := ⟨m - 1, by omega⟩
    rw [loopK_succ]
    obtain ⟨s, x, rfl⟩ : ∃ s' x, s = s' ++ [x] := ⟨s.dropLast, s.getLast (by intro h; subst h; simp at hn), (List.dropLast_concat_getLast _).symm⟩
    have hl : s.length = n := by simpa using hn
    have e : decide (0 < (s ++ [x]).length) = true := by simp
    have e1 : wr .i64 ((((s ++ [x]).length : Nat) : Int) - Int.ofNat 1) = (s.length : Int) := by rw [sbI (by simp) (by omega)]; simp
    have e2 : pStrIndex [.str (s ++ [x]), .int .i64 (s.length : Int)] = some (.int .u8 (x.toNat : Int)) := strIndex_mk (by simp)
    have e3 : pStrSlice false true [.str (s ++ [x]), .int .i64 (s.length : Int)] = some (.str s) := by
      rw [strSlice_hi (by simp)]; simp
    cases hb : endB b x.toNat with
    | true =>
      simp only [s_ref1_Trim_l2, getK_mk f0, getK_mk f1, getK_set, ↓reduceIte, Nat.reduceEqDiff, someK_n, effK_n, retK, gK_do, gK_do', gK_skip, gK_skip', gK_none, pick_mk, cond_true, cond_false, condK_tn, condK_fn, bin_eql, bin_neq, bin_lss, bin_leq, bin_gtr, bin_geq, un_not, Bool.not_true, Bool.not_false, bin_str, lenS_mk, nle_l, nle_r, nle_n, nlt_l, nlt_r, nlt_n, neq_r, neq_n, nne_r, nne_n, ext0, ext1, ext30, ext31, ext32, bin_add, bin_sub, decide_true, decide_false, e, e1, e2, he, hb, e3, List.reverse_append, List.reverse_cons, List.reverse_nil, List.nil_append, List.singleton_append, List.dropWhile_cons]
      exact ih s _ τ m hl (by omega) (by omega) (by simp [T.get_set]) (by simp [T.get_set]) k
    | false =>
      simp only [s_ref1_Trim_l2, getK_mk f0, getK_mk f1, getK_set, ↓reduceIte, Nat.reduceEqDiff, someK_n, effK_n, retK, gK_do, gK_do', gK_skip, gK_skip', gK_none, pick_mk, cond_true, cond_false, condK_tn, condK_fn, bin_eql, bin_neq, bin_lss, bin_leq, bin_gtr, bin_geq, un_not, Bool.not_true, Bool.not_false, bin_str, lenS_mk, nle_l, nle_r, nle_n, nlt_l, nlt_r, nlt_n, neq_r, neq_n, nne_r, nne_n, ext0, ext1, ext30, ext31, ext32, bin_add, bin_sub, decide_true, decide_false, e, e1, e2, he, hb, List.reverse_append, List.reverse_cons, List.reverse_nil, List.nil_append, List.singleton_append, List.dropWhile_cons, Bool.false_eq_true, List.reverse_reverse]
      rfl
theorem trim_swap (p : UInt8 → Bool) (s : Bs) : (((s.dropWhile p).reverse.dropWhile p).reverse) = trimB p s := by
  unfold trimB
  induction s with
  | nil => rfl
  | cons x s ih =>
    cases h : p x with
    | true =>
      rw [List.dropWhile_cons_of_pos h, ih, List.reverse_cons]
      rcases List.eq_nil_or_concat (s.reverse.dropWhile p) with hn | ⟨a, b, hb⟩
      · rw [List.dropWhile_append, hn]; simp [h]
      · rw [List.dropWhile_append, hb]
        have : (a ++ [b]).isEmpty = false := by simp
        rw [List.concat_eq_append] at hb ⊢
        simp [h]
    | false =>
      rw [List.dropWhile_cons_of_neg (by simp [h]), List.reverse_cons, List.dropWhile_append]
      cases hn : s.reverse.dropWhile p with
      | nil => simp [h]
      | cons a l => simp [h]
theorem s_ref1_Trim_ret (c : CallK) {N : Nat} (hN : 9223372036854775807 < N) (he : EndsOk c) (b : Bool) (s : Bs) (hs : s.length < 9223372036854775807) (H : Heap) (τ : Tape) (q : KV) : s_ref1_Trim c N (.str s) (.bool b) H τ q = q (.str (trimB (fun x => endB b x.toNat) s)) H τ := by
  have hd : (s.dropWhile fun x => endB b x.toNat).length ≤ s.length := (List.dropWhile_sublist _).length_le
  simp only [s_ref1_Trim]
  rw [l_ref1_Trim_a c N he b H s _ τ N (by omega) hs (by simp [T.get_set]) (by simp [T.get_set])]
  simp only [blockK, Nat.beq_refl, cond_true, seqK, s_ref1_Trim_j0, getK_set, ↓reduceIte, Nat.reduceEqDiff, someK_n, effK_n, retK, gK_do, gK_do', gK_skip, gK_skip', gK_none, pick_mk, cond_true, cond_false, condK_tn, condK_fn, bin_eql, bin_neq, bin_lss, bin_leq, bin_gtr, bin_geq, un_not, Bool.not_true, Bool.not_false, bin_str, lenS_mk, nle_l, nle_r, nle_n, nlt_l, nlt_r, nlt_n, neq_r, neq_n, nne_r, nne_n, ext0, ext1, ext30, ext31, ext32, bin_add, bin_sub, decide_true, decide_false]
  rw [l_ref1_Trim_b c N he b H (s.dropWhile fun x => endB b x.toNat).length (s.dropWhile fun x => endB b x.toNat) _ τ N rfl (by omega) (by omega) (by simp [T.get_set]) (by simp [T.get_set])]
  simp only [blockK, Nat.beq_refl, cond_true, seqK, s_ref1_Trim_j1, getK_set, ↓reduceIte, Nat.reduceEqDiff, someK_n, effK_n, retK, gK_do, gK_do', gK_skip, gK_skip', gK_none, pick_mk, cond_true, cond_false, condK_tn, condK_fn, bin_eql, bin_neq, bin_lss, bin_leq, bin_gtr, bin_geq, un_not, Bool.not_true, Bool.not_false, bin_str, lenS_mk, nle_l, nle_r, nle_n, nlt_l, nlt_r, nlt_n, neq_r, neq_n, nne_r, nne_n, ext0, ext1, ext30, ext31, ext32, bin_add, bin_sub, decide_true, decide_false]
  rw [trim_swap]
end Go.Am.X


namespace Go.Am.X
set_option linter.unusedSimpArgs false
set_option linter.unusedVariables false
set_option linter.unusedSectionVars false
set_option maxRecDepth 100000
theorem lowB_up {x : UInt8} (h1 : 65 ≤ x.toNat) (h2 : x.toNat ≤ 90) : ((x.toNat + 32 : Nat) : Int) = ((lowB x).toNat : Int) := by
  have : lowB x = UInt8.ofNat (x.toNat + 32) := by unfold lowB; rw [if_pos ⟨h1, h2⟩]
  rw [this]; simp; omega
theorem l_ref1_Lower (c : CallK) (N : Nat) {B id e m : Nat} (l : Bs) :
    ∀ (pre : Bs) (n : Nat) (fr : T V) (H : Heap) (τ : Tape), WF H → Blk H B id (bv (lower pre ++ l)) → (pre ++ l).length = m → m < 9223372036854775807 → l.length < n →
    fr.get 3 = some (.sl id 0 m m (some e) 1) → fr.get 4 = some (.int .i64 (pre.length : Int)) →
    ∃ H', Blk H' B id (bv (lower (pre ++ l))) ∧ Gr B H H' ∧ ∀ k, loopK (s_ref1_Lower_l1 c N) n ⟨fr, H⟩ τ k = k (.exit 0) ⟨T.set .leaf 3 (.sl id 0 m m (some e) 1), H'⟩ τ := by
  induction l with
  | nil =>
    intro pre n fr H τ hw hB hm hmb hn h3 h4
    obtain ⟨n, rfl⟩ : ∃ j, n = j + 1 := ⟨n - 1, by simp at hn; omega⟩
    refine ⟨H, by simpa using hB, Gr.refl hw, fun k => ?_⟩
    have e1 : decide (pre.length < m) = false := decide_eq_false (by simp at hm; omega)
    have pl : pLen [.sl id 0 m m (some e) 1] = some (.int .i64 (m : Int)) := rfl
    rw [loopK_succ]
    simp only [s_ref1_Lower_l1, getK_mk h3, getK_mk h4, pl, getK_set, ↓reduceIte, Nat.reduceEqDiff, someK_n, effK_n, retK, gK_do, gK_do', gK_skip, gK_skip', gK_none, pick_mk, cond_true, cond_false, condK_tn, condK_fn, bin_eql, bin_neq, bin_lss, bin_leq, bin_gtr, bin_geq, un_not, Bool.not_true, Bool.not_false, bin_str, lenS_mk, nle_l, nle_r, nle_n, nlt_l, nlt_r, nlt_n, neq_r, neq_n, nne_r, nne_n, ext0, ext1, ext30, ext31, ext32, bin_add, bin_sub, decide_true, decide_false, e1]
    rfl
  | cons x l ih =>
    intro pre n fr H τ hw hB hm hmb hn h3 h4
    obtain ⟨n, rfl⟩ : ∃ j, n = j + 1 := ⟨n - 1, by simp at hn; omega⟩
    have hlt : pre.length < m := by simp at hm; omega
    have e1 : decide (pre.length < m) = true := decide_eq_true hlt
    have pl : pLen [.sl id 0 m m (some e) 1] = some (.int .i64 (m : Int)) := rfl
    have e2 : pSlIdx 1 [.sl id 0 m m (some e) 1, .int .i64 (pre.length : Int)] = some (.ptr id pre.length) := by
      have : Nat.blt pre.length m = true := by simp [Nat.blt]; omega
      simp [pSlIdx, natOf_nat, this]
    have e3 : lLoad1 [.ptr id pre.length] H = some (.int .u8 (x.toNat : Int)) := by
      refine load_cell hB.cells ?_
      have : pre.length = (bv (lower pre)).length := by simp [bv, lower]
      simp [bv, lower]
    have hcells : (bv (lower pre ++ x :: l)).take pre.length ++ (V.int .u8 ((lowB x).toNat : Int)).cells ++ (bv (lower pre ++ x :: l)).drop (pre.length + 1) = bv (lower (pre ++ [x]) ++ l) := by
      have hl : pre.length = (lower pre).length := by simp [lower]
      simp only [bv, List.map_append, List.map_cons]
      rw [List.take_append_of_le_length (by simp [lower]), List.take_of_length_le (by simp [lower]), List.drop_append]
      simp [lower, V.cells]
    have e5 : wr .i64 ((pre.length : Int) + Int.ofNat 1) = ((pre ++ [x]).length : Int) := by rw [adI (by omega)]; simp
    by_cases hx : 65 ≤ x.toNat ∧ x.toNat ≤ 90
    · obtain ⟨H1, k1, k2, k3, k4⟩ := hB.eStore hw pre.length (.int .u8 ((lowB x).toNat : Int)) 1 rfl (by simp [bv, lower]) rfl τ
      rw [hcells] at k2
      have d1 : decide (65 ≤ x.toNat) = true := decide_eq_true hx.1
      have d2 : decide (x.toNat ≤ 90) = true := decide_eq_true hx.2
      have e6 : wr .u8 ((x.toNat : Int) + Int.ofNat 32) = ((lowB x).toNat : Int) := by
        rw [show ((x.toNat : Int) + Int.ofNat 32) = ((x.toNat + 32 : Nat) : Int) by simp, wr_u8, Nat.mod_eq_of_lt (by omega), lowB_up hx.1 hx.2]
      obtain ⟨H', m1, m2, m3⟩ := ih (pre ++ [x]) n (T.set (T.set (T.set (T.set (T.set .leaf 3 (.sl id 0 m m (some e) 1)) 4 (.int .i64 (pre.length : Int))) 11 (.int .i64 (pre.length : Int))) 12 (.int .i64 ((pre ++ [x]).length : Int))) 4 (.int .i64 ((pre ++ [x]).length : Int))) H1 τ k3.wf k2 (by simpa using hm) hmb (by simp at hn; omega) (by simp [T.get_set]) (by simp [T.get_set])
      refine ⟨H', by simpa using m1, k3.trans m2 (Nat.le_refl _), fun k => ?_⟩
      rw [loopK_succ]
      simp only [s_ref1_Lower_l1, getK_mk h3, getK_mk h4, pl, getK_set, ↓reduceIte, Nat.reduceEqDiff, someK_n, effK_n, retK, gK_do, gK_do', gK_skip, gK_skip', gK_none, pick_mk, cond_true, cond_false, condK_tn, condK_fn, bin_eql, bin_neq, bin_lss, bin_leq, bin_gtr, bin_geq, un_not, Bool.not_true, Bool.not_false, bin_str, lenS_mk, nle_l, nle_r, nle_n, nlt_l, nlt_r, nlt_n, neq_r, neq_n, nne_r, nne_n, ext0, ext1, ext30, ext31, ext32, bin_add, bin_sub, decide_true, decide_false, e1, e2, e3, d1, d2, e6, k1, s_ref1_Lower_j2, e5, seqK]
      exact m3 k
    · have hlx : lowB x = x := by unfold lowB; rw [if_neg hx]
      rw [hlx] at hcells
      have hB2 : Blk H B id (bv (lower (pre ++ [x]) ++ l)) := by
        have : bv (lower (pre ++ [x]) ++ l) = bv (lower pre ++ x :: l) := by simp [lower, hlx]
        rw [this]; exact hB
      obtain ⟨H', m1, m2, m3⟩ := ih (pre ++ [x]) n (T.set (T.set (T.set (T.set (T.set .leaf 3 (.sl id 0 m m (some e) 1)) 4 (.int .i64 (pre.length : Int))) 11 (.int .i64 (pre.length : Int))) 12 (.int .i64 ((pre ++ [x]).length : Int))) 4 (.int .i64 ((pre ++ [x]).length : Int))) H τ hw hB2 (by simpa using hm) hmb (by simp at hn; omega) (by simp [T.get_set]) (by simp [T.get_set])
      refine ⟨H', by simpa using m1, m2, fun k => ?_⟩
      rw [loopK_succ]
      cases d1 : decide (65 ≤ x.toNat) with
      | true =>
        have d2 : decide (x.toNat ≤ 90) = false := decide_eq_false fun h => hx ⟨of_decide_eq_true d1, h⟩
        simp only [s_ref1_Lower_l1, getK_mk h3, getK_mk h4, pl, getK_set, ↓reduceIte, Nat.reduceEqDiff, someK_n, effK_n, retK, gK_do, gK_do', gK_skip, gK_skip', gK_none, pick_mk, cond_true, cond_false, condK_tn, condK_fn, bin_eql, bin_neq, bin_lss, bin_leq, bin_gtr, bin_geq, un_not, Bool.not_true, Bool.not_false, bin_str, lenS_mk, nle_l, nle_r, nle_n, nlt_l, nlt_r, nlt_n, neq_r, neq_n, nne_r, nne_n, ext0, ext1, ext30, ext31, ext32, bin_add, bin_sub, decide_true, decide_false, e1, e2, e3, d1, d2, s_ref1_Lower_j2, e5, seqK]
        exact m3 k
      | false =>
        simp only [s_ref1_Lower_l1, getK_mk h3, getK_mk h4, pl, getK_set, ↓reduceIte, Nat.reduceEqDiff, someK_n, effK_n, retK, gK_do, gK_do', gK_skip, gK_skip', gK_none, pick_mk, cond_true, cond_false, condK_tn, condK_fn, bin_eql, bin_neq, bin_lss, bin_leq, bin_gtr, bin_geq, un_not, Bool.not_true, Bool.not_false, bin_str, lenS_mk, nle_l, nle_r, nle_n, nlt_l, nlt_r, nlt_n, neq_r, neq_n, nne_r, nne_n, ext0, ext1, ext30, ext31, ext32, bin_add, bin_sub, decide_true, decide_false, e1, e2, e3, d1, s_ref1_Lower_j2, e5, seqK]
        exact m3 k
theorem s_ref1_Lower_ret (c : CallK) {N : Nat} (hN : 9223372036854775807 < N) (s : Bs) (hs : s.length ≤ 140737488355328) (H : Heap) (hw : WF H) (τ : Tape) :
    ∃ H' τ', Gr H.size H H' ∧ ∀ q, s_ref1_Lower c N (.str s) H τ q = q (.str (lower s)) H' τ' := by
  have hB := Blk.new H (bv s) ((s.length + spare s.length (τ 0)) * 1) false (by rw [bv_length]; omega)
  have hG := Gr.new hw (bv s) ((s.length + spare s.length (τ 0)) * 1) false
  obtain ⟨H', m1, m2, m3⟩ := l_ref1_Lower c N (e := spare s.length (τ 0)) (m := s.length) s [] N (T.set (T.set .leaf 3 (.sl H.size 0 s.length s.length (some (spare s.length (τ 0))) 1)) 4 (.int .i64 0)) _ τ.tail hG.wf (by simpa [lower] using hB) (by simp) (by omega) (by omega) (by simp [T.get_set]) (by simp [T.get_set])
  refine ⟨H', τ.tail, hG.trans m2 (Nat.le_refl _), fun q => ?_⟩
  have e1 : eStrBytes [.str s] H τ = some (.sl H.size 0 s.length s.length (some (spare s.length (τ 0))) 1, H.new (bv s) ((s.length + spare s.length (τ 0)) * 1) false, τ.tail) := by
    simp only [eStrBytes, Nat.ble_eq_true_of_le hs, cond_true, fresh]
    rfl
  have e3 : lBytesStr [.sl H.size 0 s.length s.length (some (spare s.length (τ 0))) 1] H' = some (.str (lower s)) := by
    have hl : (bv (lower ([] ++ s))).length = s.length := by simp [bv, lower]
    simp only [lBytesStr, loads_cells m1.cells (show 0 + s.length ≤ _ by rw [hl]; omega), List.drop_zero]
    rw [List.take_of_length_le (by rw [hl]; omega)]
    simp [bytesOf_bv]
  simp only [s_ref1_Lower, e1, effK_n]
  rw [show (V.int IntKind.i64 (Int.ofNat 0)) = .int .i64 0 from rfl, m3]
  simp only [blockK, Nat.beq_refl, cond_true, seqK, s_ref1_Lower_j0, getK_set, ↓reduceIte, Nat.reduceEqDiff, someK_n, effK_n, retK, gK_do, gK_do', gK_skip, gK_skip', gK_none, pick_mk, cond_true, cond_false, condK_tn, condK_fn, bin_eql, bin_neq, bin_lss, bin_leq, bin_gtr, bin_geq, un_not, Bool.not_true, Bool.not_false, bin_str, lenS_mk, nle_l, nle_r, nle_n, nlt_l, nlt_r, nlt_n, neq_r, neq_n, nne_r, nne_n, ext0, ext1, ext30, ext31, ext32, bin_add, bin_sub, decide_true, decide_false, e3]
end Go.Am.X


namespace Go.Am.X
set_option linter.unusedSimpArgs false
set_option linter.unusedVariables false
set_option linter.unusedSectionVars false
set_option maxRecDepth 100000
theorem someN : ∃ N : Nat, 9223372036854775807 < N := ⟨9223372036854775808, by decide⟩
/-- a function of values, out of a list of rows -/
theorem primRV {N : Nat} {l : List Row} (hl : RowsOk PG l) (d f : Nat) {Pre : List V → Prop} {g : List V → V} (hv : ∀ vs H, Pre vs → VOk H (g vs)) (h : ∀ vs, Pre vs → ∀ H, WF H → ∀ τ, ∃ H' τ', Gr H.size H H' ∧ ∀ q, CR l N d f vs H τ q = q (g vs) H' τ') : ∀ base w0, PrimOk PG base w0 f (outP (RV Pre g)) := by
  refine primOk_out mixed_ok hl N d f ?_
  rintro vs H o hw hvs ⟨hp, rfl⟩ τ
  obtain ⟨H', τ', g1, k1⟩ := h vs hp H hw τ
  exact ⟨_, H', τ', k1 retK, g1, rfl, hv vs H hp⟩
abbrev TrimPre : List V → Prop | [.str s, .bool _] => s.length < 9223372036854775807 | _ => False
abbrev TrimG : List V → V | [.str s, .bool b] => .str (trimB (fun x => endB b x.toNat) s) | _ => .tup []
abbrev rw_Trim : List Row := [Row.fn f_ref1_Trim fn_ref1_Trim e_ref1_Trim, Row.fn f_ref1_ends fn_ref1_ends e_ref1_ends]
theorem p_ref1_Trim : ∀ base w0, PrimOk PG base w0 f_ref1_Trim (outP (RV TrimPre TrimG)) := by
  obtain ⟨N, hN⟩ := someN
  refine primRV (N := N) (l := rw_Trim) (.fn ok_ref1_Trim e_ref1_Trim_ok (.fn ok_ref1_ends e_ref1_ends_ok (.nil _))) 2 _ (fun vs H h => ?_) (fun vs h H hw τ => ?_)
  · unfold TrimPre at h; split at h
    · trivial
    · exact h.elim
  · unfold TrimPre at h; split at h
    · exact ⟨H, τ, Gr.refl hw, fun q => s_ref1_Trim_ret (CR rw_Trim N 1) hN (fun n b H τ q => s_ref1_ends_ret (CR rw_Trim N 0) N n b H τ q) _ _ h H τ q⟩
    · exact h.elim
theorem p_ref1_Lower : ∀ base w0, PrimOk PG base w0 f_ref1_Lower (outP LowR) := by
  obtain ⟨N, hN⟩ := someN
  refine primRV (N := N) (l := [Row.fn f_ref1_Lower fn_ref1_Lower e_ref1_Lower]) (.fn ok_ref1_Lower e_ref1_Lower_ok (.nil _)) 1 _ (fun vs H h => ?_) (fun vs h H hw τ => ?_)
  · unfold strP at h; split at h
    · trivial
    · exact h.elim
  · unfold strP at h; split at h
    · exact s_ref1_Lower_ret (CR [Row.fn f_ref1_Lower fn_ref1_Lower e_ref1_Lower] N 0) hN _ h H hw τ
    · exact h.elim
/-- a function that is known so -/
abbrev IsP (c : CallK) (f : Nat) (R : List V → Heap → Out → Prop) : Prop := ∀ vs H τ q, c f vs H τ q = effK (outP R vs H τ) q
abbrev TrimR := RV TrimPre TrimG
abbrev RTrimOk (c : CallK) : Prop := ∀ (s : Bs) (b : Bool), s.length < 9223372036854775807 → ∀ H τ q, c f_ref1_Trim [.str s, .bool b] H τ q = q (.str (trimB (fun x => endB b x.toNat) s)) H τ
abbrev RLowOk (c : CallK) : Prop := ∀ (s : Bs), s.length ≤ 140737488355328 → ∀ H τ q, c f_ref1_Lower [.str s] H τ q = q (.str (lower s)) H τ
theorem k_ref1_Trim {c : CallK} (h : IsP c f_ref1_Trim TrimR) : RTrimOk c := fun s b hs H τ q => RV_call h (vs := [.str s, .bool b]) hs H τ q
theorem k_ref1_Lower {c : CallK} (h : IsP c f_ref1_Lower LowR) : RLowOk c := fun s hs H τ q => callS h s hs H τ q
end Go.Am.X


namespace Go.Am.X
set_option linter.unusedSimpArgs false
set_option linter.unusedVariables false
set_option linter.unusedSectionVars false
set_option maxRecDepth 100000
theorem endF_eq : (fun x : UInt8 => endB false x.toNat) = ([9, 10, 13, 32] : Bs).contains := by
  funext x
  simp only [endB, List.contains_cons, List.contains_nil, Bool.or_false, u8beq, Bool.not_false, Bool.true_and]
  show _ = (decide (x.toNat = 9) || (decide (x.toNat = 10) || (decide (x.toNat = 13) || decide (x.toNat = 32))))
  cases decide (x.toNat = 9) <;> cases decide (x.toNat = 10) <;> cases decide (x.toNat = 13) <;> cases decide (x.toNat = 32) <;> rfl
theorem l_ref5_Value (c : CallK) (N : Nat) (s : Bs) (hs : s.length < 9223372036854775807) (H : Heap) : ∀ (l pre : Bs) (fr : T V) (τ : Tape) (m : Nat), s = pre ++ l → l.length < m → fr.get 0 = some (.str s) → fr.get 4 = some (.int .i64 (pre.length : Int)) →
    ∀ k, loopK (s_ref5_Value_l1 c N) m ⟨fr, H⟩ τ k = bif l.any ([0, 10, 13] : Bs).contains then k .ret ⟨(T.set (T.set .leaf 2 (.str [])) 3 (.bool false)), H⟩ τ else k (.exit 0) ⟨(T.set .leaf 0 (.str s)), H⟩ τ := by
  intro l
  induction l with
  | nil =>
    intro pre fr τ m he hm f0 f4 k
    obtain ⟨m, rfl⟩ : ∃ j, m = j + 1 := ⟨m - 1, by omega⟩
    have e1 : decide (pre.length < s.length) = false := decide_eq_false (by rw [he]; simp)
    rw [loopK_succ]
    simp only [s_ref5_Value_l1, getK_mk f0, getK_mk f4, getK_set, ↓reduceIte, Nat.reduceEqDiff, someK_n, effK_n, retK, gK_do, gK_do', gK_skip, gK_skip', gK_none, pick_mk, cond_true, cond_false, condK_tn, condK_fn, bin_eql, bin_neq, bin_lss, bin_leq, bin_gtr, bin_geq, un_not, Bool.not_true, Bool.not_false, bin_str, lenS_mk, nle_l, nle_r, nle_n, nlt_l, nlt_r, nlt_n, neq_r, neq_n, nne_r, nne_n, ext0, ext1, ext30, ext31, ext32, bin_add, bin_sub, decide_true, decide_false, e1, List.any_nil]
    rfl
  | cons x l ih =>
    intro pre fr τ m he hm f0 f4 k
    obtain ⟨m, rfl⟩ : ∃ j, m = j + 1 := ⟨m - 1, by omega⟩
    have hl : pre.length < s.length := by rw [he]; simp
    have e1 : decide (pre.length < s.length) = true := decide_eq_true hl
    have e2 : pStrIndex [.str s, .int .i64 (pre.length : Int)] = some (.int .u8 (x.toNat : Int)) := strIndex_mk (by rw [he]; simp)
    have e3 : wr .i64 ((pre.length : Int) + Int.ofNat 1) = ((pre ++ [x]).length : Int) := by rw [adI (by omega)]; simp
    have ec : ([0, 10, 13] : Bs).contains x = (decide (x.toNat = 0) || (decide (x.toNat = 10) || decide (x.toNat = 13))) := by
      simp only [List.contains_cons, List.contains_nil, Bool.or_false, u8beq]; rfl
    rw [loopK_succ, List.any_cons, ec]
    have rest := fun fr' g0 g4 => ih (pre ++ [x]) fr' τ m (by rw [he]; simp) (by simp at hm; omega) g0 g4 k
    cases h1 : decide (x.toNat = 0) with
    | true => simp only [s_ref5_Value_l1, getK_mk f0, getK_mk f4, getK_set, ↓reduceIte, Nat.reduceEqDiff, someK_n, effK_n, retK, gK_do, gK_do', gK_skip, gK_skip', gK_none, pick_mk, cond_true, cond_false, condK_tn, condK_fn, bin_eql, bin_neq, bin_lss, bin_leq, bin_gtr, bin_geq, un_not, Bool.not_true, Bool.not_false, bin_str, lenS_mk, nle_l, nle_r, nle_n, nlt_l, nlt_r, nlt_n, neq_r, neq_n, nne_r, nne_n, ext0, ext1, ext30, ext31, ext32, bin_add, bin_sub, decide_true, decide_false, e1, e2, h1, Bool.true_or]; rfl
    | false =>
      cases h2 : decide (x.toNat = 10) with
      | true => simp only [s_ref5_Value_l1, getK_mk f0, getK_mk f4, getK_set, ↓reduceIte, Nat.reduceEqDiff, someK_n, effK_n, retK, gK_do, gK_do', gK_skip, gK_skip', gK_none, pick_mk, cond_true, cond_false, condK_tn, condK_fn, bin_eql, bin_neq, bin_lss, bin_leq, bin_gtr, bin_geq, un_not, Bool.not_true, Bool.not_false, bin_str, lenS_mk, nle_l, nle_r, nle_n, nlt_l, nlt_r, nlt_n, neq_r, neq_n, nne_r, nne_n, ext0, ext1, ext30, ext31, ext32, bin_add, bin_sub, decide_true, decide_false, e1, e2, h1, h2, Bool.true_or, Bool.false_or]; rfl
      | false =>
        cases h3 : decide (x.toNat = 13) with
        | true => simp only [s_ref5_Value_l1, getK_mk f0, getK_mk f4, getK_set, ↓reduceIte, Nat.reduceEqDiff, someK_n, effK_n, retK, gK_do, gK_do', gK_skip, gK_skip', gK_none, pick_mk, cond_true, cond_false, condK_tn, condK_fn, bin_eql, bin_neq, bin_lss, bin_leq, bin_gtr, bin_geq, un_not, Bool.not_true, Bool.not_false, bin_str, lenS_mk, nle_l, nle_r, nle_n, nlt_l, nlt_r, nlt_n, neq_r, neq_n, nne_r, nne_n, ext0, ext1, ext30, ext31, ext32, bin_add, bin_sub, decide_true, decide_false, e1, e2, h1, h2, h3, Bool.true_or, Bool.false_or]; rfl
        | false =>
          simp only [s_ref5_Value_l1, getK_mk f0, getK_mk f4, getK_set, ↓reduceIte, Nat.reduceEqDiff, someK_n, effK_n, retK, gK_do, gK_do', gK_skip, gK_skip', gK_none, pick_mk, cond_true, cond_false, condK_tn, condK_fn, bin_eql, bin_neq, bin_lss, bin_leq, bin_gtr, bin_geq, un_not, Bool.not_true, Bool.not_false, bin_str, lenS_mk, nle_l, nle_r, nle_n, nlt_l, nlt_r, nlt_n, neq_r, neq_n, nne_r, nne_n, ext0, ext1, ext30, ext31, ext32, bin_add, bin_sub, decide_true, decide_false, e1, e2, h1, h2, h3, Bool.false_or, e3]
          exact rest _ (by simp [T.get_set]) (by simp [T.get_set])
theorem trimB_len (p : UInt8 → Bool) (s : Bs) : (trimB p s).length ≤ s.length := trimB_length p s
theorem s_ref5_Value_ret (c : CallK) {N : Nat} (hN : 9223372036854775807 < N) (hT : RTrimOk c) (s : Bs) (hs : s.length ≤ 9223372036854775806) (H : Heap) (τ : Tape) (q : KV) : s_ref5_Value c N (.str s) H τ q = q (valV s) H τ := by
  have hv : (valT s).length ≤ s.length := trimB_len _ _
  have kt : ∀ q, c f_ref1_Trim [.str s, .bool false] H τ q = q (.str (valT s)) H τ := fun q => by rw [hT s false (by omega), endF_eq]; rfl
  simp only [s_ref5_Value, kt]
  rw [l_ref5_Value c N (valT s) (by omega) H (valT s) [] _ τ N rfl (by omega) (by simp [T.get_set]) (by simp [T.get_set])]
  unfold valV valO
  cases ha : (valT s).any ([0, 10, 13] : Bs).contains with
  | true => simp only [cond_true, Bool.not_true, cond_false, blockK, seqK, endK]; rfl
  | false => simp only [cond_false, Bool.not_false, cond_true, blockK, Nat.beq_refl, seqK, s_ref5_Value_j0, getK_set, ↓reduceIte, Nat.reduceEqDiff, someK_n, effK_n, retK, gK_do, gK_do', gK_skip, gK_skip', gK_none, pick_mk, cond_true, cond_false, condK_tn, condK_fn, bin_eql, bin_neq, bin_lss, bin_leq, bin_gtr, bin_geq, un_not, Bool.not_true, Bool.not_false, bin_str, lenS_mk, nle_l, nle_r, nle_n, nlt_l, nlt_r, nlt_n, neq_r, neq_n, nne_r, nne_n, ext0, ext1, ext30, ext31, ext32, bin_add, bin_sub, decide_true, decide_false]
abbrev RValueR := RS 9223372036854775806 valV
noncomputable abbrev rw_Value : List Row := [Row.fn f_ref5_Value fn_ref5_Value e_ref5_Value, Row.prim f_ref1_Trim (outP (RV TrimPre TrimG))]
theorem p_ref5_Value : ∀ base w0, PrimOk PG base w0 f_ref5_Value (outP (RS 9223372036854775806 valV)) := by
  obtain ⟨N, hN⟩ := someN
  refine primRV (N := N) (l := rw_Value) (.fn ok_ref5_Value e_ref5_Value_ok (.prim p_ref1_Trim (.nil _))) 2 _ (fun vs H h => ?_) (fun vs h H hw τ => ?_)
  · unfold strP at h; split at h
    · exact valV_vok _ _
    · exact h.elim
  · unfold strP at h; split at h
    · exact ⟨H, τ, Gr.refl hw, fun q => s_ref5_Value_ret (CR rw_Value N 1) hN (k_ref1_Trim fun _ _ _ _ => rfl) _ h H τ q⟩
    · exact h.elim
theorem s_ref5_Named_ret (c : CallK) (N : Nat) (hL : RLowOk c) (h : Hd) (name : Bs) (hh : h.1.length ≤ 140737488355328) (hm : name.length ≤ 140737488355328) (H : Heap) (hw : WF H) (τ : Tape) :
    ∃ H' τ', Gr H.size H H' ∧ ∀ q, s_ref5_Named c N (hv h) (.str name) H τ q = q (.bool (named name h)) H' τ' := by
  have a1 : eBox [hv h] H τ = some (.ptr H.size 0, H.new [.str h.1, .str h.2] 2 true, τ) := rfl
  have l1 : lLoad1 [.ptr H.size 0] (H.new [.str h.1, .str h.2] 2 true) = some (.str h.1) := load_cell (cells_new H _ 2 true) rfl
  have pf : pFieldAddr 0 [.ptr H.size 0] = some (.ptr H.size 0) := rfl
  refine ⟨_, τ, Gr.new hw [.str h.1, .str h.2] 2 true, fun q => ?_⟩
  simp only [s_ref5_Named, a1, effK_n, pf, someK_n, l1, hL _ hh, hL _ hm, bin_str, str_eql]
  rfl
abbrev NamedPre : List V → Prop | [.agg [.str a, .str _], .str n] => a.length ≤ 140737488355328 ∧ n.length ≤ 140737488355328 | _ => False
abbrev NamedG : List V → V | [.agg [.str a, .str b], .str n] => .bool (named n (a, b)) | _ => .tup []
noncomputable abbrev rw_Named : List Row := [Row.fn f_ref5_Named fn_ref5_Named e_ref5_Named, Row.prim f_ref1_Lower (outP LowR)]
theorem p_ref5_Named : ∀ base w0, PrimOk PG base w0 f_ref5_Named (outP (RV NamedPre NamedG)) := by
  obtain ⟨N, hN⟩ := someN
  refine primRV (N := N) (l := rw_Named) (.fn ok_ref5_Named e_ref5_Named_ok (.prim p_ref1_Lower (.nil _))) 2 _ (fun vs H h => ?_) (fun vs h H hw τ => ?_)
  · unfold NamedPre at h; split at h
    · trivial
    · exact h.elim
  · unfold NamedPre at h; split at h
    · rename_i a b n
      exact s_ref5_Named_ret (CR rw_Named N 1) N (k_ref1_Lower fun _ _ _ _ => rfl) (a, b) n h.1 h.2 H hw τ
    · exact h.elim
abbrev RNamedR := RV NamedPre NamedG
abbrev RNamedOk (c : CallK) : Prop := ∀ (h : Hd) (n : Bs), h.1.length ≤ 140737488355328 → n.length ≤ 140737488355328 → ∀ H τ q, c f_ref5_Named [hv h, .str n] H τ q = q (.bool (named n h)) H τ
theorem k_ref5_Named {c : CallK} (h : IsP c f_ref5_Named RNamedR) : RNamedOk c := fun x n hx hn H τ q => RV_call h (vs := [hv x, .str n]) ⟨hx, hn⟩ H τ q
end Go.Am.X


namespace Go.Am.X
set_option linter.unusedSimpArgs false
set_option linter.unusedVariables false
set_option linter.unusedSectionVars false
set_option maxRecDepth 100000
/-- a list of a run's own, nil where it has nothing -/
def LsH (H : Heap) (B : Nat) (v : V) (hs : List Hd) : Prop := Own H B 2 v hs.length (hcells hs) ∧ (hs = [] → v = .nils)
theorem LsH.nil (H : Heap) (B : Nat) : LsH H B .nils [] := ⟨Own.nil _ _ _, fun _ => rfl⟩
theorem LsH.gr {H H' : Heap} {B C : Nat} {v : V} {hs : List Hd} (h : LsH H B v hs) (hg : Gr C H H') (hw : WF H) (hC : H.size ≤ C) : LsH H' B v hs := ⟨h.1.gr hg hw hC, h.2⟩
theorem LsH.rdH {H : Heap} {B : Nat} {v : V} {hs : List Hd} (h : LsH H B v hs) : RdH H v hs := ⟨h.1.rd, h.1.src⟩
theorem LsH.weaken {H : Heap} {B C : Nat} {v : V} {hs : List Hd} (h : LsH H C v hs) (hBC : B ≤ C) : LsH H B v hs := by
  refine ⟨?_, h.2⟩
  rcases h.1 with h | ⟨id, e, room, fam, ver, pl, st, fr, h1, h2, h3, h4, h5, h6, h7⟩
  · exact .inl h
  · exact .inr ⟨id, e, room, fam, ver, pl, st, fr, h1, h2, h3, h4, Nat.le_trans hBC h5, Nat.le_trans hBC h6, h7⟩
theorem LsH.put {H : Heap} {B : Nat} {v : V} {hs : List Hd} (h : LsH H B v hs) (hw : WF H) (hB : B ≤ H.size) (x : Hd) (hn : hs.length ≤ 1000000) (τ : Tape) :
    ∃ w H1 v' H' τ', eBuildSlice 1 2 [(.str []), (.str [])] [(0, 2)] [hv x] H τ = some (w, H1, τ) ∧ eAppend 2 32 [v, w] H1 τ = some (v', H', τ') ∧ LsH H' B v' (hs ++ [x]) ∧ Gr B H H' ∧ (∀ id cs, H.cells? id = some cs → H'.cells? id = some cs) ∧ (∀ id cs, H.cells? id = some cs → H1.cells? id = some cs) := by
  obtain ⟨w, H1, v', H', τ', r1, r2, r3, r4, r5, r6⟩ := put2 h.1.apd hw hB x hn τ
  have e : H1 = H.new [.str x.1, .str x.2] (1 * 2) false := by
    have : eBuildSlice 1 2 [(.str []), (.str [])] [(0, 2)] [.agg [.str x.1, .str x.2]] H τ = some (.sl H.size 0 1 1 none 2, H.new [.str x.1, .str x.2] (1 * 2) false, τ) := rfl
    rw [this] at r1
    simp only [Option.some.injEq, Prod.mk.injEq] at r1
    exact r1.2.1.symm
  refine ⟨w, H1, v', H', τ', r1, r2, ⟨?_, fun h => by simp at h⟩, r4, r5, fun id cs hc => ?_⟩
  · have := r3.own (by omega)
    simpa using this
  · rw [e]; exact (Gr.new hw _ _ _).cells hw (Nat.le_refl _) hc
theorem LsH.met {H H' : Heap} {v : V} {hs : List Hd} {mk : V → V} (h : LsH H' H.size v hs) (hmk : MkOk mk) (hnil : VOk H (mk .nils)) : (lstO 2 hs.length (hcells hs) mk).Met H (mk v) H' := by
  refine Got.met (h.1.apd.got) (fun h0 => h.2 (List.eq_nil_of_length_eq_zero h0)) hmk (hcells_vok _ _) hnil
end Go.Am.X


