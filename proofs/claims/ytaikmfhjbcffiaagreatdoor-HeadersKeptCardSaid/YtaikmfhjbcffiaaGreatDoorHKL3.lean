/- The abstract machine, printed functions of the program, and what they are shown to be. -/
import Derived.Test.YtaikmfhjbcffiaaGreatDoorHKL0
import Derived.Test.YtaikmfhjbcffiaaGreatDoorHKM3
import Derived.Test.YtaikmfhjbcffiaaGreatDoorHKL2
import Derived.Test.YtaikmfhjbcffiaaGreatDoorHKM4
namespace Go.Am.X
set_option linter.unusedSimpArgs false
set_option linter.unusedVariables false
set_option linter.unusedSectionVars false
set_option maxRecDepth 100000
def fewh (m : Nat) (h : Bs × Bs) : Bs × Bs := (h.1.take m, h.2.take m)
theorem s14_eval (c : CallK) (N : Nat) (s : Bs) (m : Nat) (H : Heap) (τ : Tape) (q : KV) : s_keep_Few c N (.str s) (.int .i64 (m : Int)) H τ q = q (.str (s.take m)) H τ := by
  simp only [s_keep_Few, lenS_mk, someK_mk, bin_gtr]
  by_cases h : m < s.length
  · rw [decide_eq_true (by omega), condK_t, strSlice_hi (by omega), someK_mk]
  · rw [decide_eq_false (by omega), condK_f, List.take_of_length_le (by omega)]
abbrev FewOk (c : CallK) : Prop := ∀ (s : Bs) (m : Nat) H τ q, c f_keep_Few [.str s, .int .i64 (m : Int)] H τ q = q (.str (s.take m)) H τ
theorem few_loop (c : CallK) (N : Nat) (h14 : FewOk c) {B id off m lo nn mm : Nat} {ex : Option Nat} {all : List V} (hs : List (Bs × Bs)) (hm : hs.length = m) (hmb : m ≤ 9223372036854775807) (hnn : nn ≤ 1000)
    (hall : (all.drop off).take (m * 2) = hcells hs) (hlen : off + m * 2 ≤ all.length) (l : List (Bs × Bs)) :
    ∀ (pre : List (Bs × Bs)) (v7 : V) (acc : List (Bs × Bs)) (n : Nat) (fr : T V) (H : Heap) (τ : Tape), WF H → B ≤ H.size → hs = pre ++ l → H.cells? id = some all → Own H B 2 v7 acc.length (hcells acc) → acc.length = pre.length → pre.length ≤ nn → l.length < n →
    fr.get 0 = some (.sl id off m lo ex 2) → fr.get 1 = some (.int .i64 (nn : Int)) → fr.get 2 = some (.int .i64 (mm : Int)) → fr.get 7 = some v7 → fr.get 8 = some (.int .i64 (pre.length : Int)) →
    ∃ v7' H' τ', Gr B H H' ∧ Own H' B 2 v7' (acc ++ (l.take (nn - pre.length)).map (fewh mm)).length (hcells (acc ++ (l.take (nn - pre.length)).map (fewh mm))) ∧ ∀ k, loopK (s_keep_FewHeaders_l1 c N) n ⟨fr, H⟩ τ k = k (.exit 0) ⟨T.set .leaf 7 v7', H'⟩ τ' := by
  induction l with
  | nil =>
    intro pre v7 acc n fr H τ hw hB he hc ho ha hp hn f0 f1 f2 f7 f8
    obtain ⟨n, rfl⟩ : ∃ j, n = j + 1 := ⟨n - 1, by simp at hn; omega⟩
    refine ⟨v7, H, τ, Gr.refl hw, by simpa using ho, fun k => ?_⟩
    have e0 : pLen [.sl id off m lo ex 2] = some (.int .i64 (m : Int)) := rfl
    have e1 : decide ((pre.length : Int) < (m : Int)) = false := decide_eq_false (by rw [← hm, he]; simp)
    rw [loopK_succ]
    simp only [s_keep_FewHeaders_l1, getK_mk f0, getK_mk f1, getK_mk f2, getK_mk f7, getK_mk f8, e0, someK_mk, bin_lss, e1, gK_skip, pick_mk, cond_false, condK_f, seqK]
  | cons h l ih =>
    intro pre v7 acc n fr H τ hw hB he hc ho ha hp hn f0 f1 f2 f7 f8
    obtain ⟨n, rfl⟩ : ∃ j, n = j + 1 := ⟨n - 1, by simp at hn; omega⟩
    have e0 : pLen [.sl id off m lo ex 2] = some (.int .i64 (m : Int)) := rfl
    have hmm : m = pre.length + (l.length + 1) := by rw [← hm, he]; simp
    have e1 : decide ((pre.length : Int) < (m : Int)) = true := decide_eq_true (by omega)
    by_cases hlt : pre.length < nn
    · have e2 : decide ((pre.length : Int) < (nn : Int)) = true := decide_eq_true (by omega)
      have e3 : pSlIdx 2 [.sl id off m lo ex 2, .int .i64 (pre.length : Int)] = some (.ptr id (off + pre.length * 2)) := by
        have : Nat.blt pre.length m = true := by simp [Nat.blt]; omega
        simp [pSlIdx, natOf_nat, this]
      have hcell : ∀ j, j < 2 → all[off + pre.length * 2 + j]? = ([V.str h.1, V.str h.2])[j]? := by
        intro j hj
        have h1 : (hcells hs)[pre.length * 2 + j]? = ([V.str h.1, V.str h.2])[j]? := by
          rw [he, hcells_append, List.getElem?_append_right (by rw [hcells_length]; omega), hcells_length, Nat.add_sub_cancel_left, hcells_cons]
          match j, hj with
          | 0, _ => rfl
          | 1, _ => rfl
        rw [← h1, ← hall, List.getElem?_take_of_lt (by omega), List.getElem?_drop, Nat.add_assoc]
      have e4 : lLoad1 [.ptr id (off + pre.length * 2 + 0)] H = some (.str h.1) := load_cell hc (hcell 0 (by omega))
      have e5 : lLoad1 [.ptr id (off + pre.length * 2 + 1)] H = some (.str h.2) := load_cell hc (hcell 1 (by omega))
      have e6 : pBuild [(.str []), (.str [])] [(0, 1), (1, 1)] [.str (h.1.take mm), .str (h.2.take mm)] = some (.agg [.str (h.1.take mm), .str (h.2.take mm)]) := rfl
      have hG1 := Gr.new hw [V.str (h.1.take mm), V.str (h.2.take mm)] (1 * 2) false
      have ho1 := ho.gr hG1 hw (Nat.le_refl _)
      have hc1 := hG1.cells hw (Nat.le_refl _) hc
      have e7 : eBuildSlice 1 2 [(.str []), (.str [])] [(0, 2)] [.agg [.str (h.1.take mm), .str (h.2.take mm)]] H τ = some (.sl H.size 0 1 1 none 2, H.new [.str (h.1.take mm), .str (h.2.take mm)] (1 * 2) false, τ) := rfl
      obtain ⟨v28, H2, r1, r2, r3, r4⟩ := ho1.append (bytes := 32) hG1.wf (by have := hG1.size; omega) 1 [.str (h.1.take mm), .str (h.2.take mm)] (by omega) rfl rfl (by omega) (by omega) τ
      have e8 : eAppend 2 32 [v7, .sl H.size 0 1 1 none 2] (H.new [.str (h.1.take mm), .str (h.2.take mm)] (1 * 2) false) τ = some (v28, H2, τ.tail) := by
        have hl : (H.new [V.str (h.1.take mm), V.str (h.2.take mm)] (1 * 2) false).loads H.size 0 (1 * 2) = some [.str (h.1.take mm), .str (h.2.take mm)] := by
          rw [loads_cells (cells_new _ _ _ _) (by simp)]; rfl
        simp only [eAppend, srcLen, srcCells, Nat.beq_refl, cond_true, hl, r1]
      have e9 : wr .i64 ((pre.length : Int) + Int.ofNat 1) = ((pre ++ [h]).length : Int) := by
        rw [wr_id (by first | (simp; done) | (simp; omega) | omega) (by first | (simp; done) | (simp; omega) | omega)]
        simp
      have hcells : hcells acc ++ [V.str (h.1.take mm), V.str (h.2.take mm)] = hcells (acc ++ [fewh mm h]) := by
        rw [hcells_append]; rfl
      rw [hcells] at r2
      obtain ⟨v7', H', τ', q1, q2, q3⟩ := ih (pre ++ [h]) v28 (acc ++ [fewh mm h]) n (T.set (T.set (T.set (T.set (T.set (T.set (T.set (T.set .leaf 0 (.sl id off m lo ex 2)) 1 (.int .i64 (nn : Int))) 2 (.int .i64 (mm : Int))) 7 v28) 8 (.int .i64 (pre.length : Int))) 18 (.int .i64 (pre.length : Int))) 19 (.int .i64 ((pre ++ [h]).length : Int))) 8 (.int .i64 ((pre ++ [h]).length : Int))) H2 τ.tail r3.wf (by have := hG1.size; have := r3.size; omega) (by rw [he]; simp) (r4 _ _ hc1) (by simpa using r2) (by simp [ha]) (by first | (simp; done) | (simp; omega) | omega) (by simp at hn; omega) (by simp [T.get_set]) (by simp [T.get_set]) (by simp [T.get_set]) (by simp [T.get_set]) (by simp [T.get_set])
      have hq : acc ++ ((h :: l).take (nn - pre.length)).map (fewh mm) = (acc ++ [fewh mm h]) ++ (l.take (nn - (pre ++ [h]).length)).map (fewh mm) := by
        obtain ⟨j, hj⟩ : ∃ j, nn - pre.length = j + 1 := ⟨nn - pre.length - 1, by omega⟩
        rw [hj, List.take_succ_cons, show nn - (pre ++ [h]).length = j by simp; omega]
        simp
      refine ⟨v7', H', τ', (hG1.weaken hB).trans (r3.trans q1 (Nat.le_refl _)) (Nat.le_refl _), by rw [hq]; exact q2, fun k => ?_⟩
      have e10 : chkLoads [H, H, H, H.new [.str (h.1.take mm), .str (h.2.take mm)] (1 * 2) false, H2] [((.load none), [.ptr id (off + pre.length * 2 + 1)], 0, 1)] = true := by
        simp [chkLoads, evalL, lLoad, e5, chk1, same, same1, same0]
      rw [loopK_succ]
      simp only [s_keep_FewHeaders_l1, getK_mk f0, getK_mk f1, getK_mk f2, getK_mk f7, getK_mk f8, e0, someK_mk, bin_lss, e1, gK_do, retK, effK_mk, e2, pick_mk, cond_true, condK_t, e3, pFieldAddr, e4, h14, e5, e6, e7, e8, e10, bin_add, e9, seqK, q3]
    · have e2 : decide ((pre.length : Int) < (nn : Int)) = false := decide_eq_false (by omega)
      refine ⟨v7, H, τ, Gr.refl hw, by rw [show nn - pre.length = 0 by omega]; simpa using ho, fun k => ?_⟩
      rw [loopK_succ]
      simp only [s_keep_FewHeaders_l1, getK_mk f0, getK_mk f1, getK_mk f2, getK_mk f7, getK_mk f8, e0, someK_mk, bin_lss, e1, gK_do, retK, effK_mk, e2, pick_mk, cond_true, condK_f, seqK]
def fewH (nn mm : Nat) (hs : List (Bs × Bs)) : List (Bs × Bs) := (hs.take nn).map (fewh mm)
theorem s_keep_FewHeaders_ret (c : CallK) (N : Nat) (hN : 9223372036854775807 < N) (h14 : FewOk c) (hs : List (Bs × Bs)) (hmb : hs.length ≤ 9223372036854775807) (nn mm : Nat) (hnn : nn ≤ 1000) (v : V) (H : Heap) (hw : WF H) (hr : Rd H 2 v hs.length (hcells hs)) (τ : Tape) :
    ∃ v' H' τ', Gr H.size H H' ∧ Own H' H.size 2 v' (fewH nn mm hs).length (hcells (fewH nn mm hs)) ∧ (hs = [] → v' = .nils) ∧ ∀ q, s_keep_FewHeaders c N v (.int .i64 (nn : Int)) (.int .i64 (mm : Int)) H τ q = q v' H' τ' := by
  by_cases h0 : hs = []
  · subst h0
    refine ⟨.nils, H, τ, Gr.refl hw, by simpa [fewH, hcells] using Own.nil H H.size 2, fun _ => rfl, fun q => ?_⟩
    obtain ⟨N, rfl⟩ : ∃ j, N = j + 1 := ⟨N - 1, by omega⟩
    simp only [s_keep_FewHeaders, loopK_succ, s_keep_FewHeaders_l1, getK_set, ↓reduceIte, Nat.reduceEqDiff, rd_len hr, someK_mk]
    rw [bin_lss, show decide (Int.ofNat 0 < ((([] : List (Bs × Bs)).length : Nat) : Int)) = false from rfl]
    simp only [gK_skip, pick_mk, cond_false, someK_mk, condK_f, seqK, blockK, Nat.beq_refl, cond_true, s_keep_FewHeaders_j0, getK_set, ↓reduceIte]
  · rcases hr with ⟨_, hz, _⟩ | ⟨id, off, lo, ex, all, rfl, hc, hall, hlen⟩
    · exact absurd (List.length_eq_zero_iff.1 hz) h0
    · have hpos : 0 < hs.length := List.length_pos_iff.2 h0
      have hl : off + hs.length * 2 ≤ all.length := by
        have := hlen
        rw [hall, List.length_take, List.length_drop] at this
        omega
      obtain ⟨v', H', τ', k1, k2, k3⟩ := few_loop c N h14 (B := H.size) (lo := lo) (ex := ex) (nn := nn) (mm := mm) hs rfl hmb hnn hall.symm hl hs [] .nils [] N (T.set (T.set (T.set (T.set (T.set .leaf 0 (.sl id off hs.length lo ex 2)) 1 (.int .i64 (nn : Int))) 2 (.int .i64 (mm : Int))) 7 .nils) 8 (.int .i64 0)) H τ hw (Nat.le_refl _) rfl hc (Own.nil _ _ _) rfl (by simp) (by omega) (by simp [T.get_set]) (by simp [T.get_set]) (by simp [T.get_set]) (by simp [T.get_set]) (by simp [T.get_set])
      refine ⟨v', H', τ', k1, by simpa [fewH] using k2, fun h => absurd h h0, fun q => ?_⟩
      simp only [s_keep_FewHeaders]
      rw [show (V.int IntKind.i64 (Int.ofNat 0)) = .int .i64 0 from rfl, k3]
      simp only [blockK, Nat.beq_refl, cond_true, seqK, s_keep_FewHeaders_j0, getK_set, ↓reduceIte]
end Go.Am.X

namespace Go.Am.X
set_option linter.unusedSimpArgs false
set_option linter.unusedVariables false
set_option linter.unusedSectionVars false
set_option maxRecDepth 100000
def RdH (H : Heap) (v : V) (hs : List Hd) : Prop := Rd H 2 v hs.length (hcells hs) ∧ Src H v
theorem hcells_inj : ∀ {a b : List Hd}, hcells a = hcells b → a = b := by
  intro a
  induction a with
  | nil => intro b h; cases b with
    | nil => rfl
    | cons y b => rw [hcells_cons] at h; cases h
  | cons x a ih => intro b h; cases b with
    | nil => rw [hcells_cons] at h; cases h
    | cons y b =>
      rw [hcells_cons, hcells_cons] at h
      simp only [List.cons.injEq, V.str.injEq] at h
      obtain ⟨h1, h2, h3⟩ := h
      rw [ih h3]
      obtain ⟨x1, x2⟩ := x
      obtain ⟨y1, y2⟩ := y
      simp only at h1 h2
      subst h1; subst h2; rfl
theorem RdH.uniq {H : Heap} {v : V} {a b : List Hd} (h : RdH H v a) (k : RdH H v b) : a = b := hcells_inj (h.1.uniq k.1).2
theorem RdH.gr {H H' : Heap} {B : Nat} {v : V} {hs : List Hd} (h : RdH H v hs) (hg : Gr B H H') (hw : WF H) (hB : H.size ≤ B) : RdH H' v hs := ⟨h.1.gr hg hw hB, h.2.gr hg hw hB⟩
def isNil : V → Bool | .nils => true | _ => false
def RH (Pre : List Hd → List V → Prop) (g : Bool → List Hd → List V → Out) (vs : List V) (H : Heap) (o : Out) : Prop := ∃ v l hs, vs = v :: l ∧ RdH H v hs ∧ Pre hs l ∧ o = g (isNil v) hs l
theorem RH_fun (Pre : List Hd → List V → Prop) (g : Bool → List Hd → List V → Out) : Fun1 (RH Pre g) := by
  rintro vs H o o' ⟨v, l, hs, rfl, h1, _, rfl⟩ ⟨v', l', hs', e, h2, _, rfl⟩
  cases e
  rw [h1.uniq h2]
theorem RH_val {c : CallK} {f : Nat} {Pre : List Hd → List V → Prop} {g : Bool → List Hd → List V → Out} (hc : ∀ vs H τ q, c f vs H τ q = effK (outP (RH Pre g) vs H τ) q) {v : V} {l : List V} {hs : List Hd} {H : Heap} {u : V} (h : RdH H v hs) (hp : Pre hs l) (hg : g (isNil v) hs l = .val u) (τ : Tape) (q : KV) :
    c f (v :: l) H τ q = q u H τ := outK_val hc (RH_fun _ _) ⟨v, l, hs, rfl, h, hp, hg.symm⟩ τ q
def lstO (z n : Nat) (cs : List V) (mk : V → V) : Out := if n = 0 then .val (mk .nils) else .lst z n cs mk
theorem hcells_vok (H : Heap) (hs : List Hd) : VsOk H (hcells hs) := by
  induction hs with
  | nil => trivial
  | cons h l ih => rw [hcells_cons]; exact ⟨trivial, trivial, ih⟩
theorem Got.met {H H' : Heap} {z n : Nat} {v : V} {cs : List V} {mk : V → V} (h : Got H' H.size z v n cs) (h0 : n = 0 → v = .nils) (hmk : MkOk mk) (hcs : VsOk H cs) (hnil : VOk H (mk .nils)) : (lstO z n cs mk).Met H (mk v) H' := by
  unfold lstO
  by_cases hn : n = 0
  · rw [if_pos hn, h0 hn]; exact ⟨rfl, hnil⟩
  · rw [if_neg hn]
    rcases h with ⟨_, h, _⟩ | h
    · exact absurd h hn
    · exact ⟨hmk, hcs, v, rfl, h⟩
abbrev GetPre (hs : List Hd) : List V → Prop | [.str name] => Small hs ∧ name.length ≤ 140737488355328 | _ => False
abbrev GetG (_ : Bool) (hs : List Hd) : List V → Out | [.str name] => .val (.tup [.str (getT name hs), .bool (decide (0 < (sel name hs).length))]) | _ => .val (.tup [])
theorem p_headers_Get : ∀ base w0, PrimOk PG base w0 f_headers_Get (outP (RH GetPre GetG)) := by
  refine primOk_E 5 _ ?_
  rintro vs H o hw hvs ⟨v, l, hs, rfl, ⟨h1, h2⟩, hp, rfl⟩ τ
  unfold GetPre at hp
  split at hp
  · rename_i name
    obtain ⟨H', τ', g, k⟩ := d20' nb 5 (by omega) name hp.2 hp.1 v H hw h1 τ
    exact ⟨_, H', τ', k retK, g, rfl, trivial, trivial, trivial⟩
  · exact hp.elim
abbrev SetPre (hs : List Hd) : List V → Prop | [.str n, .str v] => hs.length < 1000000 ∧ (∀ h ∈ hs, h.1.length ≤ 140737488355328) ∧ n.length ≤ 140737488355328 ∧ v.length < 9223372036854775807 | _ => False
abbrev SetG (_ : Bool) (hs : List Hd) : List V → Out
  | [.str n, .str v] => if setE n v hs = 0 then .lst 2 (setT n v hs).length (hcells (setT n v hs)) (fun lv => .tup [lv, .int .i64 0]) else .val (.tup [.nils, .int .i64 (setE n v hs)])
  | _ => .val (.tup [])
theorem setF_pos (name v : Bs) : ∀ (l : List Hd) (i j : Nat), i ≤ j → j < i + l.length → setF name v j l i ≠ [] := by
  intro l
  induction l with
  | nil => intro i j h1 h2; simp at h2; omega
  | cons h l ih =>
    intro i j h1 h2
    rw [setF]
    by_cases e : i = j
    · rw [if_pos e]; simp
    · rw [if_neg e]
      have := ih (i + 1) j (by omega) (by simp at h2; omega)
      cases named name h with
      | true => rw [cond_true]; exact this
      | false => rw [cond_false]; simp
theorem setT_ne (n v : Bs) (hs : List Hd) : setT n v hs ≠ [] := by
  unfold setT
  split
  · simp
  · rename_i h
    rcases findI_spec n hs 0 with ⟨h1, _⟩ | ⟨a, x, r, h1, _, _, h2⟩
    · rw [h1] at h; exact absurd (by decide) h
    · rw [h2]
      refine setF_pos _ _ _ _ _ (Nat.zero_le _) ?_
      rw [h1]; simp
theorem Got.lst {H : Heap} {B z : Nat} {v : V} {n : Nat} {cs : List V} (h : Got H B z v n cs) (hn : n ≠ 0) : FreshL B H z n cs v := by
  rcases h with ⟨_, h, _⟩ | h
  · exact absurd h hn
  · exact h
theorem p_headers_Set : ∀ base w0, PrimOk PG base w0 f_headers_Set (outP (RH SetPre SetG)) := by
  refine primOk_E 9 _ ?_
  rintro vs H o hw hvs ⟨lv, l, hs, rfl, ⟨h1, h2⟩, hp, rfl⟩ τ
  unfold SetPre at hp
  split at hp
  · rename_i n v
    obtain ⟨r, H', τ', g, k1, k2, k3⟩ := d_headers_Set nb 9 (by omega) hs hp.1 hp.2.1 n v hp.2.2.1 hp.2.2.2 lv H hw h1 h2 τ
    refine ⟨_, H', τ', k3 retK, g, ?_⟩
    unfold SetG
    by_cases he : setE n v hs = 0
    · simp only [he, if_true]
      have hne : (setT n v hs).length ≠ 0 := fun h => setT_ne n v hs (List.eq_nil_of_length_eq_zero h)
      exact ⟨mkOk_int _ _, hcells_vok _ _, r, rfl, Got.lst (k1 he).got hne⟩
    · simp only [if_neg he]
      rw [k2 he]
      exact ⟨rfl, trivial, trivial, trivial⟩
  · exact hp.elim
abbrev DropPre (hs : List Hd) : List V → Prop | [.str n] => hs.length ≤ 1000000 ∧ (∀ h ∈ hs, h.1.length ≤ 140737488355328) ∧ n.length ≤ 140737488355328 | _ => False
abbrev DropG (b : Bool) (hs : List Hd) : List V → Out | [.str n] => if b = true then .val .nils else .lst 2 (dropT n hs).length (hcells (dropT n hs)) (fun v => v) | _ => .val (.tup [])
theorem isNil_iff (v : V) : isNil v = true ↔ v = .nils := by cases v <;> simp [isNil]
theorem p_headers_Drop : ∀ base w0, PrimOk PG base w0 f_headers_Drop (outP (RH DropPre DropG)) := by
  refine primOk_E 8 _ ?_
  rintro vs H o hw hvs ⟨lv, l, hs, rfl, ⟨h1, h2⟩, hp, rfl⟩ τ
  unfold DropPre at hp
  split at hp
  · rename_i n
    obtain ⟨w, H', τ', k1, k2, g, k3⟩ := d_headers_Drop nb 8 (by omega) n hp.2.2 hs hp.1 hp.2.1 lv H hw h1 h2 τ
    refine ⟨_, H', τ', k3 retK, g, ?_⟩
    unfold DropG
    by_cases he : isNil lv = true
    · simp only [he, if_true]
      exact ⟨k2.2 ((isNil_iff _).1 he), trivial⟩
    · simp only [if_neg he]
      rcases k1 with ⟨hn, _⟩ | hf
      · exact absurd ((isNil_iff _).2 (k2.1 hn)) he
      · exact ⟨mkOk_id, hcells_vok _ _, w, rfl, hf⟩
  · exact hp.elim
abbrev AddPre (hs : List Hd) : List V → Prop | [.str n, .str v] => hs.length ≤ 1000000 ∧ n.length < 9223372036854775807 ∧ v.length < 9223372036854775807 | _ => False
abbrev AddG (_ : Bool) (hs : List Hd) : List V → Out
  | [.str n, .str v] => if addE n v hs.length = 0 then .lst 2 (hs.length + 1) (hcells (hs ++ [(n, valT v)])) (fun lv => .tup [lv, .int .i64 0]) else .val (.tup [.nils, .int .i64 (addE n v hs.length)])
  | _ => .val (.tup [])
theorem p_headers_Add : ∀ base w0, PrimOk PG base w0 f_headers_Add (outP (RH AddPre AddG)) := by
  refine primOk_E 8 _ ?_
  rintro vs H o hw hvs ⟨lv, l, hs, rfl, ⟨h1, h2⟩, hp, rfl⟩ τ
  unfold AddPre at hp
  split at hp
  · rename_i n v
    obtain ⟨r, H', τ', g, k1, k2, k3⟩ := d_headers_Add nb 8 (by omega) hs hp.1 n v hp.2.1 hp.2.2 lv H hw h1 h2 τ
    refine ⟨_, H', τ', k3 retK, g, ?_⟩
    unfold AddG
    by_cases he : addE n v hs.length = 0
    · simp only [he, if_true]
      exact ⟨mkOk_int _ _, hcells_vok _ _, r, rfl, Got.lst (k1 he).got (by omega)⟩
    · simp only [if_neg he]
      rw [k2 he]
      exact ⟨rfl, trivial, trivial, trivial⟩
  · exact hp.elim
end Go.Am.X

namespace Go.Am.X
set_option linter.unusedSimpArgs false
set_option linter.unusedVariables false
set_option linter.unusedSectionVars false
set_option maxRecDepth 100000
end Go.Am.X

namespace Go.Am.X
set_option linter.unusedSimpArgs false
set_option linter.unusedVariables false
set_option linter.unusedSectionVars false
set_option maxRecDepth 100000
end Go.Am.X

namespace Go.Am.X
set_option linter.unusedSimpArgs false
set_option linter.unusedVariables false
set_option linter.unusedSectionVars false
set_option maxRecDepth 100000
theorem someN : ∃ N : Nat, 9223372036854775807 < N := ⟨9223372036854775808, by decide⟩
theorem primRV {N : Nat} {l : List Row} (hl : RowsOk PG l) (d f : Nat) {Pre : List V → Prop} {g : List V → V} (hv : ∀ vs H, Pre vs → VOk H (g vs)) (h : ∀ vs, Pre vs → ∀ H, WF H → ∀ τ, ∃ H' τ', Gr H.size H H' ∧ ∀ q, CR l N d f vs H τ q = q (g vs) H' τ') : ∀ base w0, PrimOk PG base w0 f (outP (RV Pre g)) := by
  refine primOk_out mixed_ok hl N d f ?_
  rintro vs H o hw hvs ⟨hp, rfl⟩ τ
  obtain ⟨H', τ', g1, k1⟩ := h vs hp H hw τ
  exact ⟨_, H', τ', k1 retK, g1, rfl, hv vs H hp⟩
abbrev IsP (c : CallK) (f : Nat) (R : List V → Heap → Out → Prop) : Prop := ∀ vs H τ q, c f vs H τ q = effK (outP R vs H τ) q
end Go.Am.X

namespace Go.Am.X
set_option linter.unusedSimpArgs false
set_option linter.unusedVariables false
set_option linter.unusedSectionVars false
set_option maxRecDepth 100000
abbrev NamedPre : List V → Prop | [.agg [.str a, .str _], .str n] => a.length ≤ 140737488355328 ∧ n.length ≤ 140737488355328 | _ => False
abbrev NamedG : List V → V | [.agg [.str a, .str b], .str n] => .bool (named n (a, b)) | _ => .tup []
abbrev RNamedR := RV NamedPre NamedG
end Go.Am.X

namespace Go.Am.X
set_option linter.unusedSimpArgs false
set_option linter.unusedVariables false
set_option linter.unusedSectionVars false
set_option maxRecDepth 100000
def LsH (H : Heap) (B : Nat) (v : V) (hs : List Hd) : Prop := Own H B 2 v hs.length (hcells hs) ∧ (hs = [] → v = .nils)
theorem LsH.nil (H : Heap) (B : Nat) : LsH H B .nils [] := ⟨Own.nil _ _ _, fun _ => rfl⟩
theorem LsH.gr {H H' : Heap} {B C : Nat} {v : V} {hs : List Hd} (h : LsH H B v hs) (hg : Gr C H H') (hw : WF H) (hC : H.size ≤ C) : LsH H' B v hs := ⟨h.1.gr hg hw hC, h.2⟩
theorem LsH.weaken {H : Heap} {B C : Nat} {v : V} {hs : List Hd} (h : LsH H C v hs) (hBC : B ≤ C) : LsH H B v hs := by
  refine ⟨?_, h.2⟩
  rcases h.1 with h | ⟨id, e, room, fam, ver, pl, st, fr, h1, h2, h3, h4, h5, h6, h7⟩
  · exact .inl h
  · exact .inr ⟨id, e, room, fam, ver, pl, st, fr, h1, h2, h3, h4, Nat.le_trans hBC h5, Nat.le_trans hBC h6, h7⟩
theorem LsH.put {H : Heap} {B : Nat} {v : V} {hs : List Hd} (h : LsH H B v hs) (hw : WF H) (hB : B ≤ H.size) (x : Hd) (hn : hs.length ≤ 1000000) (τ : Tape) :
    ∃ w H1 v' H' τ', eBuildSlice 1 2 [(.str []), (.str [])] [(0, 2)] [hv x] H τ = some (w, H1, τ) ∧ eAppend 2 32 [v, w] H1 τ = some (v', H', τ') ∧ LsH H' B v' (hs ++ [x]) ∧ Gr B H H' ∧ (∀ id cs, H.cells? id = some cs → H'.cells? id = some cs) ∧ (∀ id cs, H.cells? id = some cs → H1.cells? id = some cs) := by
  obtain ⟨w, H1, v', H', τ', r1, r2, r3, r4, r5, r6⟩ := put2 h.1.apd hw hB x hn τ
  have e : H1 = H.new [.str x.1, .str x.2] (1 * 2) false := by
    have : eBuildSlice 1 2 [(.str []), (.str [])] [(0, 2)] [.agg [.str x.1, .str x.2]] H τ = some (.sl H.size 0 1 1 none 2, H.new [.str x.1, .str x.2] (1 * 2) false, τ) := rfl
    rw [this] at r1
    simp only [Option.some.injEq, Prod.mk.injEq] at r1
    exact r1.2.1.symm
  refine ⟨w, H1, v', H', τ', r1, r2, ⟨?_, fun h => by simp at h⟩, r4, r5, fun id cs hc => ?_⟩
  · have := r3.own (by omega)
    simpa using this
  · rw [e]; exact (Gr.new hw _ _ _).cells hw (Nat.le_refl _) hc
theorem LsH.met {H H' : Heap} {v : V} {hs : List Hd} {mk : V → V} (h : LsH H' H.size v hs) (hmk : MkOk mk) (hnil : VOk H (mk .nils)) : (lstO 2 hs.length (hcells hs) mk).Met H (mk v) H' := by
  refine Got.met (h.1.apd.got) (fun h0 => h.2 (List.eq_nil_of_length_eq_zero h0)) hmk (hcells_vok _ _) hnil
end Go.Am.X

namespace Go.Am.X
set_option linter.unusedSimpArgs false
set_option linter.unusedVariables false
set_option linter.unusedSectionVars false
set_option maxRecDepth 100000
theorem primRH {N : Nat} {l : List Row} (hl : RowsOk PG l) (d f : Nat) {Pre : List Hd → List V → Prop} {g : Bool → List Hd → List V → Out} (h : ∀ hs args, Pre hs args → ∀ lv H, WF H → RdH H lv hs → ∀ τ, ∃ v H' τ', Gr H.size H H' ∧ (g (isNil lv) hs args).Met H v H' ∧ ∀ q, CR l N d f (lv :: args) H τ q = q v H' τ') : ∀ base w0, PrimOk PG base w0 f (outP (RH Pre g)) := by
  refine primOk_out mixed_ok hl N d f ?_
  rintro vs H o hw hvs ⟨lv, args, hs, rfl, hr, hp, rfl⟩ τ
  obtain ⟨v, H', τ', g1, hm, k1⟩ := h hs args hp lv H hw hr τ
  exact ⟨_, H', τ', k1 retK, g1, hm⟩
theorem LsH.lst {H : Heap} {B : Nat} {v : V} {hs : List Hd} (h : LsH H B v hs) (hn : hs ≠ []) : FreshL B H 2 hs.length (hcells hs) v := Got.lst h.1.apd.got (fun e => hn (List.eq_nil_of_length_eq_zero e))
theorem RdH.nils {H : Heap} {hs : List Hd} (h : RdH H .nils hs) : hs = [] := by
  rcases h.1 with ⟨_, h0, _⟩ | ⟨_, _, _, _, _, e, _⟩
  · exact List.eq_nil_of_length_eq_zero h0
  · cases e
theorem eq_hd (x : Hd) : pEq true (.flat [.str, .str]) [hv x, hv x] = some (.bool false) := by
  simp [pEq, hv, eqV, eqFlat, eqS, eqB_eq]
theorem l_book_Same_Header (c : CallK) (N : Nat) (a b : V) (hs : List Hd) (hl : hs.length ≤ 1000000) (H : Heap) (ha : RdH H a hs) (hb : RdH H b hs) :
    ∀ (l pre : List Hd) (fr : T V) (τ : Tape) (m : Nat), hs = pre ++ l → l.length < m → fr.get 0 = some a → fr.get 1 = some b → fr.get 5 = some (.int .i64 (pre.length : Int)) →
    ∀ k, loopK (s_book_Same_Header_l1 c N) m ⟨fr, H⟩ τ k = k (.exit 0) ⟨.leaf, H⟩ τ := by
  intro l
  induction l with
  | nil =>
    intro pre fr τ m he hm f0 f1 f5 k
    obtain ⟨m, rfl⟩ : ∃ j, m = j + 1 := ⟨m - 1, by omega⟩
    have e1 : decide (pre.length < hs.length) = false := decide_eq_false (by rw [he]; simp)
    rw [loopK_succ]
    simp only [s_book_Same_Header_l1, getK_mk f0, getK_mk f1, getK_mk f5, ha.1.pLen, getK_set, ↓reduceIte, Nat.reduceEqDiff, someK_n, effK_n, retK, gK_do, gK_do', gK_skip, gK_skip', gK_none, pick_mk, cond_true, cond_false, condK_tn, condK_fn, bin_eql, bin_neq, bin_lss, bin_leq, bin_gtr, bin_geq, un_not, Bool.not_true, Bool.not_false, bin_str, lenS_mk, nle_l, nle_r, nle_n, nlt_l, nlt_r, nlt_n, neq_r, neq_n, nne_r, nne_n, ext0, ext1, ext30, ext31, ext32, bin_add, bin_sub, decide_true, decide_false, e1]
    rfl
  | cons x l ih =>
    intro pre fr τ m he hm f0 f1 f5 k
    obtain ⟨m, rfl⟩ : ∃ j, m = j + 1 := ⟨m - 1, by omega⟩
    have hlt : pre.length < hs.length := by rw [he]; simp
    have e1 : decide (pre.length < hs.length) = true := decide_eq_true hlt
    have e3 : wr .i64 ((pre.length : Int) + Int.ofNat 1) = ((pre ++ [x]).length : Int) := by rw [adI (by omega)]; simp
    obtain ⟨id, o, p1, p2⟩ := hd_at (v := a) pre x l (H := H) (by rw [← he]; exact ha.1)
    have q1 := (p2 H (by rw [← he]; exact ha.1)).1
    obtain ⟨id', o', p3, p4⟩ := hd_at (v := b) pre x l (H := H) (by rw [← he]; exact hb.1)
    have q3 := (p4 H (by rw [← he]; exact hb.1)).1
    rw [loopK_succ]
    simp only [s_book_Same_Header_l1, getK_mk f0, getK_mk f1, getK_mk f5, ha.1.pLen, getK_set, ↓reduceIte, Nat.reduceEqDiff, someK_n, effK_n, retK, gK_do, gK_do', gK_skip, gK_skip', gK_none, pick_mk, cond_true, cond_false, condK_tn, condK_fn, bin_eql, bin_neq, bin_lss, bin_leq, bin_gtr, bin_geq, un_not, Bool.not_true, Bool.not_false, bin_str, lenS_mk, nle_l, nle_r, nle_n, nlt_l, nlt_r, nlt_n, neq_r, neq_n, nne_r, nne_n, ext0, ext1, ext30, ext31, ext32, bin_add, bin_sub, decide_true, decide_false, e1, p1, q1, p3, q3, eq_hd, e3]
    exact ih (pre ++ [x]) _ τ m (by rw [he]; simp) (by simp at hm; omega) (by simp [T.get_set]) (by simp [T.get_set]) (by simp [T.get_set]) k
theorem s_book_Same_Header_ret (c : CallK) {N : Nat} (hN : 9223372036854775807 < N) (a b : V) (hs : List Hd) (hl : hs.length ≤ 1000000) (H : Heap) (ha : RdH H a hs) (hb : RdH H b hs) (τ : Tape) (q : KV) : s_book_Same_Header c N a b H τ q = q (.bool true) H τ := by
  have e1 : ((hs.length : Int) != (hs.length : Int)) = false := by simp
  simp only [s_book_Same_Header, ha.1.pLen, hb.1.pLen, someK_n, bin_neq, e1, condK_fn]
  rw [l_book_Same_Header c N a b hs hl H ha hb hs [] _ τ N rfl (by omega) (by simp [T.get_set]) (by simp [T.get_set]) (by simp [T.get_set])]
  simp only [blockK, Nat.beq_refl, cond_true, seqK, s_book_Same_Header_j0]
def SameR (vs : List V) (H : Heap) (o : Out) : Prop := ∃ a b hs, vs = [a, b] ∧ RdH H a hs ∧ RdH H b hs ∧ hs.length ≤ 1000000 ∧ o = .val (.bool true)
theorem SameR_fun : Fun1 SameR := by
  rintro vs H o o' ⟨_, _, _, _, _, _, _, rfl⟩ ⟨_, _, _, _, _, _, _, rfl⟩; rfl
theorem p_book_Same_Header : ∀ base w0, PrimOk PG base w0 f_book_Same_Header (outP SameR) := by
  obtain ⟨N, hN⟩ := someN
  refine primOk_out mixed_ok (l := [Row.fn f_book_Same_Header fn_book_Same_Header e_book_Same_Header]) (.fn ok_book_Same_Header e_book_Same_Header_ok (.nil _)) N 1 _ ?_
  rintro vs H o hw hvs ⟨a, b, hs, rfl, ha, hb, hl, rfl⟩ τ
  exact ⟨_, H, τ, s_book_Same_Header_ret (CR [Row.fn f_book_Same_Header fn_book_Same_Header e_book_Same_Header] N 0) hN a b hs hl H ha hb τ retK, Gr.refl hw, rfl, trivial⟩
theorem k_book_Same_Header {c : CallK} (h : IsP c f_book_Same_Header SameR) {a b : V} {hs : List Hd} (hl : hs.length ≤ 1000000) {H : Heap} (ha : RdH H a hs) (hb : RdH H b hs) (τ : Tape) (q : KV) : c f_book_Same_Header [a, b] H τ q = q (.bool true) H τ :=
  outK_val h SameR_fun ⟨a, b, hs, rfl, ha, hb, hl, rfl⟩ τ q
abbrev FewHPre (hs : List Hd) : List V → Prop | [.int .i64 (.ofNat nn), .int .i64 (.ofNat mm)] => hs.length ≤ 9223372036854775807 ∧ 1 ≤ nn ∧ nn ≤ 1000 | _ => False
abbrev FewHG (_ : Bool) (hs : List Hd) : List V → Out | [.int .i64 (.ofNat nn), .int .i64 (.ofNat mm)] => lstO 2 (fewH nn mm hs).length (hcells (fewH nn mm hs)) (fun v => v) | _ => .val (.tup [])
theorem s_keep_Few_ret (c : CallK) (N : Nat) (s : Bs) (m : Nat) (H : Heap) (τ : Tape) (q : KV) : s_keep_Few c N (.str s) (.int .i64 (m : Int)) H τ q = q (.str (s.take m)) H τ := s14_eval c N s m H τ q
abbrev rw_FewH : List Row := [Row.fn f_keep_FewHeaders fn_keep_FewHeaders e_keep_FewHeaders, Row.fn f_keep_Few fn_keep_Few e_keep_Few]
theorem p_keep_FewHeaders : ∀ base w0, PrimOk PG base w0 f_keep_FewHeaders (outP (RH FewHPre FewHG)) := by
  obtain ⟨N, hN⟩ := someN
  refine primRH (N := N) (l := rw_FewH) (.fn ok_keep_FewHeaders e_keep_FewHeaders_ok (.fn ok_keep_Few e_keep_Few_ok (.nil _))) 2 _ (fun hs args hp lv H hw hr τ => ?_)
  unfold FewHPre at hp; split at hp
  · rename_i nn mm
    obtain ⟨v', H', τ', h1, h2, h3, h4⟩ := s_keep_FewHeaders_ret (CR rw_FewH N 1) N hN (fun s m H τ q => s_keep_Few_ret (CR rw_FewH N 0) N s m H τ q) hs hp.1 nn mm hp.2.2 lv H hw hr.1 τ
    refine ⟨v', H', τ', h1, ?_, h4⟩
    refine Got.met h2.apd.got (fun h0 => h3 ?_) mkOk_id (hcells_vok _ _) trivial
    have : (hs.take nn).length = 0 := by unfold fewH at h0; rw [List.length_map] at h0; exact h0
    rw [List.length_take] at this
    exact List.eq_nil_of_length_eq_zero (by omega)
  · exact hp.elim
abbrev HPre : List V → Prop | [.str _, .str _] => True | _ => False
abbrev HG : List V → V | [.str a, .str b] => hv (a, b) | _ => .tup []
theorem p_law5_h : ∀ base w0, PrimOk PG base w0 f_law5_h (outP (RV HPre HG)) := by
  obtain ⟨N, hN⟩ := someN
  refine primRV (N := N) (l := [Row.fn f_law5_h fn_law5_h e_law5_h]) (.fn ok_law5_h e_law5_h_ok (.nil _)) 1 _ (fun vs H h => ?_) (fun vs h H hw τ => ?_)
  · unfold HPre at h; split at h
    · exact ⟨trivial, trivial, trivial⟩
    · exact h.elim
  · unfold HPre at h; split at h
    · obtain ⟨H', h1, h2⟩ := s_law5_h_ret (CR [Row.fn f_law5_h fn_law5_h e_law5_h] N 0) N _ _ H hw τ
      exact ⟨H', τ, h1, h2⟩
    · exact h.elim
theorem k_law5_h {c : CallK} (h : IsP c f_law5_h (RV HPre HG)) (a b : Bs) (H : Heap) (τ : Tape) (q : KV) : c f_law5_h [.str a, .str b] H τ q = q (hv (a, b)) H τ := RV_call h (vs := [.str a, .str b]) trivial H τ q
end Go.Am.X

namespace Go.Am.X
set_option linter.unusedSimpArgs false
set_option linter.unusedVariables false
set_option linter.unusedSectionVars false
set_option maxRecDepth 100000
end Go.Am.X

namespace Go.Am.X
set_option linter.unusedSimpArgs false
set_option linter.unusedVariables false
set_option linter.unusedSectionVars false
set_option maxRecDepth 100000
def RdS (H : Heap) (v : V) (ss : List Bs) : Prop := Rd H 1 v ss.length (ss.map V.str) ∧ Src H v
theorem RdS.gr {H H' : Heap} {B : Nat} {v : V} {ss : List Bs} (h : RdS H v ss) (hg : Gr B H H') (hw : WF H) (hB : H.size ≤ B) : RdS H' v ss := ⟨h.1.gr hg hw hB, h.2.gr hg hw hB⟩
theorem strs_vok (H : Heap) (ss : List Bs) : VsOk H (ss.map V.str) := by
  induction ss with
  | nil => trivial
  | cons h l ih => exact ⟨trivial, ih⟩
theorem strs_scal (ss : List Bs) : (ss.map V.str).all V.scal = true := by
  induction ss with
  | nil => rfl
  | cons h l ih => rw [List.map_cons, List.all_cons, ih]; rfl
def LsS (H : Heap) (B : Nat) (v : V) (ss : List Bs) : Prop := Own H B 1 v ss.length (ss.map V.str) ∧ (ss = [] → v = .nils)
theorem LsS.nil (H : Heap) (B : Nat) : LsS H B .nils [] := ⟨Own.nil _ _ _, fun _ => rfl⟩
theorem LsS.gr {H H' : Heap} {B C : Nat} {v : V} {ss : List Bs} (h : LsS H B v ss) (hg : Gr C H H') (hw : WF H) (hC : H.size ≤ C) : LsS H' B v ss := ⟨h.1.gr hg hw hC, h.2⟩
theorem LsS.weaken {H : Heap} {B C : Nat} {v : V} {ss : List Bs} (h : LsS H C v ss) (hBC : B ≤ C) : LsS H B v ss := by
  refine ⟨?_, h.2⟩
  rcases h.1 with h | ⟨id, e, room, fam, ver, pl, st, fr, h1, h2, h3, h4, h5, h6, h7⟩
  · exact .inl h
  · exact .inr ⟨id, e, room, fam, ver, pl, st, fr, h1, h2, h3, h4, Nat.le_trans hBC h5, Nat.le_trans hBC h6, h7⟩
theorem LsS.put {H : Heap} {B : Nat} {v : V} {ss : List Bs} (h : LsS H B v ss) (hw : WF H) (hB : B ≤ H.size) (x : Bs) (hn : ss.length ≤ 4294967296) (τ : Tape) :
    ∃ w H1 v' H' τ', eBuildSlice 1 1 [(.str [])] [(0, 1)] [.str x] H τ = some (w, H1, τ) ∧ eAppend 1 16 [v, w] H1 τ = some (v', H', τ') ∧ LsS H' B v' (ss ++ [x]) ∧ Gr B H H' := by
  obtain ⟨w, H1, v', H', r1, r2, r3, r4, _⟩ := h.1.push (bytes := 16) hw hB (.str x) (.str []) rfl rfl (by omega) (by omega) τ
  refine ⟨w, H1, v', H', τ.tail, r1, r2, ⟨by simpa using r3, fun h => by simp at h⟩, r4⟩
theorem LsS.got {H : Heap} {B : Nat} {v : V} {ss : List Bs} (h : LsS H B v ss) : Got H B 1 v ss.length (ss.map V.str) := h.1.apd.got
theorem LsS.met {H H' : Heap} {v : V} {ss : List Bs} {mk : V → V} (h : LsS H' H.size v ss) (hmk : MkOk mk) (hnil : VOk H (mk .nils)) : (lstO 1 ss.length (ss.map V.str) mk).Met H (mk v) H' :=
  Got.met h.got (fun h0 => h.2 (List.eq_nil_of_length_eq_zero h0)) hmk (strs_vok _ _) hnil
theorem Small.pre {a b : List Hd} (h : Small (a ++ b)) : Small a := ⟨by have := h.len; simp at this; omega, fun x hx => h.all x (by simp [hx])⟩
abbrev getV (name : Bs) (hs : List Hd) : V := .tup [.str (getT name hs), .bool (decide (0 < (sel name hs).length))]
theorem k_Get {c : CallK} {f : Nat} (h : IsP c f (RH GetPre GetG)) {hs : List Hd} (hS : Small hs) {name : Bs} (hm : name.length ≤ 140737488355328) {lv : V} {H : Heap} (hr : RdH H lv hs) (τ : Tape) (q : KV) : c f [lv, .str name] H τ q = q (getV name hs) H τ :=
  RH_val (l := [.str name]) h hr ⟨hS, hm⟩ rfl τ q
theorem splitF_len : ∀ (n : Nat) (s : Bs), s.length ≤ n → ∀ (q : Bool) (cur : Bs), (splitF q cur s).1.length ≤ s.length := by
  intro n
  induction n with
  | zero =>
    intro s hn q cur
    obtain rfl := List.eq_nil_of_length_eq_zero (by omega : s.length = 0)
    simp [splitF]
  | succ n ih =>
    intro s hn q cur
    cases s with
    | nil => simp [splitF]
    | cons x r =>
      have hr : r.length ≤ n := by simp at hn; omega
      by_cases c34 : x = 34
      · rw [splitF_quote q cur r c34]; have := ih r hr (!q) (cur ++ [x]); simp; omega
      · cases q with
        | true =>
          by_cases c92 : x = 92
          · cases r with
            | nil => rw [splitF_end cur c34 c92]; simp
            | cons y r' => rw [splitF_esc cur y r' c34 c92]; have := ih r' (by simp at hr; omega) true (cur ++ [x, y]); simp; omega
          · rw [splitF_in cur r c34 c92]; have := ih r hr true (cur ++ [x]); simp; omega
        | false =>
          by_cases c44 : x = 44
          · rw [splitF_comma cur r c34 c44]; have := ih r hr false []; simp; omega
          · rw [splitF_out cur r c34 c44]; have := ih r hr false (cur ++ [x]); simp; omega
theorem piecesB_len (s : Bs) : (piecesB s).length ≤ s.length + 1 := by
  unfold piecesB
  have := splitF_len s.length s (Nat.le_refl _) false []
  simp; omega
abbrev SplitG (_ : Bool) (hs : List Hd) : List V → Out | [.str name] => lstO 1 (splitT name hs).length ((splitT name hs).map V.str) (fun v => .tup [v, .bool (decide (0 < (sel name hs).length))]) | _ => .val (.tup [])
theorem p_headers_Split : ∀ base w0, PrimOk PG base w0 f_headers_Split (outP (RH GetPre SplitG)) := by
  refine primOk_E 6 _ ?_
  rintro vs H o hw hvs ⟨v, l, hs, rfl, ⟨h1, h2⟩, hp, rfl⟩ τ
  unfold GetPre at hp
  split at hp
  · rename_i name
    by_cases h0 : 0 < (sel name hs).length
    · obtain ⟨v', H', τ', k1, _, k2, k3⟩ := d_headers_Split nb 6 (by omega) name hp.2 hp.1 v H hw h1 τ
      refine ⟨_, H', τ', k3 retK, k2, ?_⟩
      have eT : splitT name hs = piecesB (getT name hs) := if_pos h0
      exact LsS.met ⟨k1, fun h => by rw [eT] at h; simp [piecesB] at h⟩ (mkOk_bool _) ⟨trivial, trivial, trivial⟩
    · have e0 : decide (0 < (sel name hs).length) = false := decide_eq_false h0
      have eT : splitT name hs = [] := if_neg h0
      obtain ⟨H', τ', g, k⟩ := d20' nb 5 (by omega) name hp.2 hp.1 v H hw h1 τ
      refine ⟨.tup [.nils, .bool false], H', τ', ?_, g, ?_⟩
      · show s_headers_Split (C NB 5) NB v (.str name) H τ retK = _
        simp only [s_headers_Split, k, getK_set, ↓reduceIte, Nat.reduceEqDiff, someK_n, effK_n, retK, gK_do, gK_do', gK_skip, gK_skip', gK_none, pick_mk, cond_true, cond_false, condK_tn, condK_fn, bin_eql, bin_neq, bin_lss, bin_leq, bin_gtr, bin_geq, un_not, Bool.not_true, Bool.not_false, bin_str, lenS_mk, nle_l, nle_r, nle_n, nlt_l, nlt_r, nlt_n, neq_r, neq_n, nne_r, nne_n, ext0, ext1, ext30, ext31, ext32, bin_add, bin_sub, decide_true, decide_false, e0]
      · show (lstO 1 (splitT name hs).length ((splitT name hs).map V.str) (fun v => V.tup [v, .bool (decide (0 < (sel name hs).length))])).Met H _ H'
        rw [eT, e0]; exact ⟨rfl, trivial, trivial, trivial⟩
  · exact hp.elim
end Go.Am.X

namespace Go.Am.X
set_option linter.unusedSimpArgs false
set_option linter.unusedVariables false
set_option linter.unusedSectionVars false
set_option maxRecDepth 100000
abbrev ltB (x y : Bs) : Prop := lessB x y = true
theorem lessB_cons (a b : UInt8) (x y : Bs) : lessB (a :: x) (b :: y) = (decide (a.toNat < b.toNat) || (decide (a.toNat = b.toNat) && lessB x y)) := by
  rw [lessB]
  have h1 : Nat.blt a.toNat b.toNat = decide (a.toNat < b.toNat) := by
    by_cases h : a.toNat < b.toNat
    · rw [decide_eq_true h]; simp [Nat.blt]; omega
    · rw [decide_eq_false h]; cases hb : Nat.blt a.toNat b.toNat with
      | false => rfl
      | true => exact absurd (Nat.le_of_ble_eq_true hb) h
  have h2 : Nat.beq a.toNat b.toNat = decide (a.toNat = b.toNat) := by
    by_cases h : a.toNat = b.toNat
    · rw [decide_eq_true h, h]; exact Nat.beq_refl _
    · rw [decide_eq_false h]; cases hb : Nat.beq a.toNat b.toNat with
      | false => rfl
      | true => exact absurd (Nat.eq_of_beq_eq_true hb) h
  rw [h1, h2]
theorem ltB_irrefl : ∀ (x : Bs), lessB x x = false := by
  intro x
  induction x with
  | nil => rfl
  | cons a x ih => rw [lessB_cons, ih]; simp
theorem ltB_no {x : Bs} (h : ltB x x) : False := by rw [ltB, ltB_irrefl] at h; cases h
theorem ltB_trans : ∀ (x y z : Bs), ltB x y → ltB y z → ltB x z := by
  intro x
  induction x with
  | nil =>
    intro y z h1 h2
    cases y with
    | nil => exact h2
    | cons b y => cases z with
      | nil => cases h2
      | cons c z => rfl
  | cons a x ih =>
    intro y z h1 h2
    cases y with
    | nil => cases h1
    | cons b y => cases z with
      | nil => cases h2
      | cons c z =>
        unfold ltB at *
        rw [lessB_cons, Bool.or_eq_true, Bool.and_eq_true, decide_eq_true_iff, decide_eq_true_iff] at h1 h2 ⊢
        rcases h1 with h1 | ⟨h1, h1'⟩ <;> rcases h2 with h2 | ⟨h2, h2'⟩
        · exact .inl (by omega)
        · exact .inl (by omega)
        · exact .inl (by omega)
        · exact .inr ⟨by omega, ih y z h1' h2'⟩
theorem ltB_tri : ∀ (x y : Bs), ltB x y ∨ x = y ∨ ltB y x := by
  intro x
  induction x with
  | nil => intro y; cases y with
    | nil => exact .inr (.inl rfl)
    | cons b y => exact .inl rfl
  | cons a x ih =>
    intro y
    cases y with
    | nil => exact .inr (.inr rfl)
    | cons b y =>
      unfold ltB
      rw [lessB_cons, lessB_cons, Bool.or_eq_true, Bool.and_eq_true, decide_eq_true_iff, decide_eq_true_iff, Bool.or_eq_true, Bool.and_eq_true, decide_eq_true_iff, decide_eq_true_iff]
      rcases Nat.lt_trichotomy a.toNat b.toNat with h | h | h
      · exact .inl (.inl h)
      · rcases ih y with k | k | k
        · exact .inl (.inr ⟨h, k⟩)
        · exact .inr (.inl (by rw [UInt8.toNat_inj.1 h, k]))
        · exact .inr (.inr (.inr ⟨h.symm, k⟩))
      · exact .inr (.inr (.inl h))
theorem lt_iff (x y : Bs) : x < y ↔ ltB x y := by
  induction x generalizing y with
  | nil => cases y with
    | nil => exact ⟨fun h => (by cases h), fun h => (by cases h)⟩
    | cons b y => exact ⟨fun _ => rfl, fun _ => List.Lex.nil⟩
  | cons a x ih =>
    cases y with
    | nil => exact ⟨fun h => (by cases h), fun h => (by cases h)⟩
    | cons b y =>
      unfold ltB
      rw [lessB_cons, Bool.or_eq_true, Bool.and_eq_true, decide_eq_true_iff, decide_eq_true_iff, List.cons_lt_cons_iff, ih y, UInt8.lt_iff_toNat_lt, UInt8.toNat_inj]
abbrev SrtB (l : List Bs) : Prop := l.Pairwise ltB
theorem srt_uniq : ∀ (a b : List Bs), SrtB a → SrtB b → (∀ x, x ∈ a ↔ x ∈ b) → a = b := by
  intro a
  induction a with
  | nil => intro b _ _ h; cases b with
    | nil => rfl
    | cons y b => exact absurd ((h y).2 (by simp)) (by simp)
  | cons x a ih =>
    intro b ha hb h
    cases b with
    | nil => exact absurd ((h x).1 (by simp)) (by simp)
    | cons y b =>
      rw [SrtB, List.pairwise_cons] at ha hb
      have hxy : x = y := by
        rcases List.mem_cons.1 ((h x).1 (by simp)) with e | e
        · exact e
        · rcases List.mem_cons.1 ((h y).2 (by simp)) with e' | e'
          · exact e'.symm
          · have h1 := hb.1 x e
            have h2 := ha.1 y e'
            exact (ltB_no (ltB_trans _ _ _ h1 h2)).elim
      subst hxy
      congr 1
      refine ih b ha.2 hb.2 fun z => ⟨fun hz => ?_, fun hz => ?_⟩
      · rcases List.mem_cons.1 ((h z).1 (by simp [hz])) with e | e
        · subst e; exact (ltB_no (ha.1 z hz)).elim
        · exact e
      · rcases List.mem_cons.1 ((h z).2 (by simp [hz])) with e | e
        · subst e; exact (ltB_no (hb.1 z hz)).elim
        · exact e
def insB (x : Bs) : List Bs → List Bs
  | [] => [x]
  | y :: l => bif lessB y x then y :: insB x l else bif y == x then y :: l else x :: y :: l
theorem insB_mem (x : Bs) : ∀ (l : List Bs) (z : Bs), z ∈ insB x l ↔ z = x ∨ z ∈ l := by
  intro l
  induction l with
  | nil => intro z; simp [insB]
  | cons y l ih =>
    intro z
    rw [insB]
    cases lessB y x with
    | true => rw [cond_true, List.mem_cons, ih z, List.mem_cons]; constructor <;> (intro h; rcases h with h | h | h <;> simp [h])
    | false =>
      rw [cond_false]
      cases h : (y == x) with
      | true => rw [cond_true, ← beq_iff_eq.1 h]; simp
      | false => rw [cond_false]; simp
theorem insB_srt (x : Bs) : ∀ (l : List Bs), SrtB l → SrtB (insB x l) := by
  intro l
  induction l with
  | nil => intro _; simp [insB]
  | cons y l ih =>
    intro h
    rw [SrtB, List.pairwise_cons] at h
    rw [insB]
    cases h1 : lessB y x with
    | true =>
      rw [cond_true, SrtB, List.pairwise_cons]
      refine ⟨fun z hz => ?_, ih h.2⟩
      rcases (insB_mem x l z).1 hz with e | e
      · rw [e]; exact h1
      · exact h.1 z e
    | false =>
      rw [cond_false]
      cases h2 : (y == x) with
      | true => rw [cond_true, SrtB, List.pairwise_cons]; exact h
      | false =>
        rw [cond_false, SrtB, List.pairwise_cons]
        have hxy : ltB x y := by
          rcases ltB_tri x y with k | k | k
          · exact k
          · exact absurd k.symm (beq_eq_false_iff_ne.1 h2)
          · have k' : lessB y x = true := k
            rw [h1] at k'; cases k'
        refine ⟨fun z hz => ?_, by rw [List.pairwise_cons]; exact h⟩
        rcases List.mem_cons.1 hz with e | e
        · rw [e]; exact hxy
        · exact ltB_trans _ _ _ hxy (h.1 z e)
theorem insB_len (x : Bs) : ∀ (l : List Bs), (insB x l).length ≤ l.length + 1 := by
  intro l
  induction l with
  | nil => simp [insB]
  | cons y l ih =>
    rw [insB]
    cases lessB y x with
    | true => rw [cond_true]; simp; omega
    | false => rw [cond_false]; cases (y == x) <;> simp
def srtT (ss : List Bs) : List Bs := ss.foldl (fun acc x => insB x acc) []
theorem srtT_ok (ss : List Bs) : SrtB (srtT ss) ∧ (∀ z, z ∈ srtT ss ↔ z ∈ ss) ∧ (srtT ss).length ≤ ss.length := by
  have key : ∀ (ss acc : List Bs), SrtB acc → SrtB (ss.foldl (fun acc x => insB x acc) acc) ∧ (∀ z, z ∈ ss.foldl (fun acc x => insB x acc) acc ↔ z ∈ acc ∨ z ∈ ss) ∧ (ss.foldl (fun acc x => insB x acc) acc).length ≤ acc.length + ss.length := by
    intro ss
    induction ss with
    | nil => intro acc h; exact ⟨h, fun z => by simp, by simp⟩
    | cons x ss ih =>
      intro acc h
      obtain ⟨a, b, c⟩ := ih (insB x acc) (insB_srt x acc h)
      have := insB_len x acc
      refine ⟨a, fun z => ?_, by simp only [List.foldl_cons, List.length_cons]; omega⟩
      rw [List.foldl_cons, b z, insB_mem, List.mem_cons]
      constructor
      · rintro ((h | h) | h) <;> simp [h]
      · rintro (h | h | h) <;> simp [h]
  obtain ⟨a, b, c⟩ := key ss [] (by simp)
  exact ⟨a, fun z => (b z).trans (by simp), by unfold srtT; simpa using c⟩
theorem compL_ok (zs : List Bs) (h : zs.Pairwise fun a b => ¬ ltB b a) : SrtB (compL zs) ∧ ∀ z, z ∈ compL zs ↔ z ∈ zs := by
  have hget : ∀ j, j < zs.length → zs.toArray[j]! = zs[j]! := fun j hj => by simp
  have hle : ∀ i j, i < j → j < zs.length → ¬ ltB (zs.toArray[j]!) (zs.toArray[i]!) := by
    intro i j hij hj
    have := List.pairwise_iff_getElem.1 h i j (by omega) hj hij
    simpa [getElem!_pos, hj, (show i < zs.length by omega)] using this
  have key : ∀ m, m ≤ zs.length → SrtB (Lib.compactUpTo zs.toArray m) ∧ ∀ z, z ∈ Lib.compactUpTo zs.toArray m ↔ ∃ j, j < m ∧ zs.toArray[j]! = z := by
    intro m
    induction m with
    | zero => intro _; exact ⟨by simp [Lib.compactUpTo], fun z => by simp [Lib.compactUpTo]⟩
    | succ m ih =>
      intro hm
      obtain ⟨a, b⟩ := ih (by omega)
      rw [Lib.compactUpTo_succ]
      cases hk : Lib.keeps zs.toArray m with
      | true =>
        rw [if_pos rfl]
        refine ⟨?_, fun z => ?_⟩
        · rw [SrtB, List.pairwise_append]
          refine ⟨a, by simp, fun x hx y hy => ?_⟩
          obtain ⟨j, hj, rfl⟩ := (b x).1 hx
          rw [List.mem_singleton] at hy
          subst hy
          have hne : zs.toArray[m]! ≠ zs.toArray[m - 1]! := by
            have := of_decide_eq_true hk
            rcases this with h0 | h0
            · omega
            · exact h0
          have h1 : ltB (zs.toArray[m - 1]!) (zs.toArray[m]!) := by
            rcases ltB_tri (zs.toArray[m - 1]!) (zs.toArray[m]!) with k | k | k
            · exact k
            · exact absurd k.symm hne
            · exact absurd k (hle (m - 1) m (by omega) (by omega))
          by_cases e : j = m - 1
          · rw [e]; exact h1
          · rcases ltB_tri (zs.toArray[j]!) (zs.toArray[m - 1]!) with k | k | k
            · exact ltB_trans _ _ _ k h1
            · rw [k]; exact h1
            · exact absurd k (hle j (m - 1) (by omega) (by omega))
        · rw [List.mem_append, b z, List.mem_singleton]
          constructor
          · rintro (⟨j, hj, e⟩ | e)
            · exact ⟨j, by omega, e⟩
            · exact ⟨m, by omega, e.symm⟩
          · rintro ⟨j, hj, e⟩
            by_cases hjm : j = m
            · exact .inr (by rw [← e, hjm])
            · exact .inl ⟨j, by omega, e⟩
      | false =>
        rw [if_neg (by simp), List.append_nil]
        refine ⟨a, fun z => ?_⟩
        rw [b z]
        constructor
        · rintro ⟨j, hj, e⟩; exact ⟨j, by omega, e⟩
        · rintro ⟨j, hj, e⟩
          by_cases hjm : j = m
          · have := of_decide_eq_false hk
            have h0 : ¬ m = 0 := fun h => this (.inl h)
            have h1 : zs.toArray[m]! = zs.toArray[m - 1]! := by
              by_cases h : zs.toArray[m]! = zs.toArray[m - 1]!
              · exact h
              · exact absurd (.inr h) this
            exact ⟨m - 1, by omega, by rw [← h1, ← e, hjm]⟩
          · exact ⟨j, by omega, e⟩
  obtain ⟨a, b⟩ := key zs.length (Nat.le_refl _)
  refine ⟨a, fun z => ?_⟩
  have : compL zs = Lib.compactUpTo zs.toArray zs.length := rfl
  rw [this, b z]
  constructor
  · rintro ⟨j, hj, e⟩
    rw [hget j hj, getElem!_pos zs j hj] at e
    rw [← e]; exact List.getElem_mem hj
  · intro hz
    obtain ⟨j, hj, e⟩ := List.getElem_of_mem hz
    exact ⟨j, hj, by rw [hget j hj, getElem!_pos zs j hj]; exact e⟩
theorem le_of_ltB (x y : Bs) : x ≤ y ↔ ¬ ltB y x := by
  rw [← List.not_lt, lt_iff]
theorem sorted_ok (ss : List Bs) : (sorted ss).Pairwise (fun a b => ¬ ltB b a) ∧ (∀ z, z ∈ sorted ss ↔ z ∈ ss) ∧ (sorted ss).length = ss.length := by
  refine ⟨?_, fun z => by unfold sorted; exact List.mem_mergeSort, by unfold sorted; exact List.length_mergeSort _⟩
  have := List.pairwise_mergeSort (le := fun x y : Bs => decide (x ≤ y)) (fun a b c h1 h2 => by
    simp only [decide_eq_true_eq, le_of_ltB] at *
    rcases ltB_tri a b with k | k | k
    · rcases ltB_tri b c with j | j | j
      · intro e; have := ltB_trans _ _ _ (ltB_trans _ _ _ k j) e; exact ltB_no this
      · rw [← j]; exact h1
      · exact absurd j h2
    · rw [k]; exact h2
    · exact absurd k h1) (fun a b => by
    simp only [Bool.or_eq_true, decide_eq_true_eq, le_of_ltB]
    rcases ltB_tri a b with k | k | k
    · left; intro e; have := ltB_trans _ _ _ k e; exact ltB_no this
    · left; rw [k, ltB, ltB_irrefl]; simp
    · right; intro e; have := ltB_trans _ _ _ k e; exact ltB_no this) ss
  unfold sorted
  exact this.imp fun h => (le_of_ltB _ _).1 (of_decide_eq_true h)
theorem compact_sorted (ss : List Bs) : compL (sorted ss) = srtT ss := by
  obtain ⟨h1, h2, _⟩ := sorted_ok ss
  obtain ⟨h3, h4⟩ := compL_ok (sorted ss) h1
  obtain ⟨h5, h6, _⟩ := srtT_ok ss
  exact srt_uniq _ _ h3 h5 fun x => by rw [h4, h2, h6]
end Go.Am.X

namespace Go.Am.X
set_option linter.unusedSimpArgs false
set_option linter.unusedVariables false
set_option linter.unusedSectionVars false
set_option maxRecDepth 100000
theorem Own.stores {H : Heap} {B z id n e : Nat} {cs : List V} (h : Own H B z (.sl id 0 n n (some e) z) n cs) (hw : WF H) (off : Nat) (vs : List V) (hl : off + vs.length ≤ cs.length) (hs : vs.all V.scal = true) :
    ∃ H', H.stores id off vs = some H' ∧ Own H' B z (.sl id 0 n n (some e) z) n (cs.take off ++ vs ++ cs.drop (off + vs.length)) ∧ Gr B H H' := by
  rcases h with ⟨h, _⟩ | ⟨id', e', room, fam, ver, pl, st, fr, q, h1, h2, h3, h4, h5, h7⟩
  · cases h
  · cases q
    cases vs with
    | nil => exact ⟨H, rfl, by simpa using .inr ⟨id, e, room, fam, ver, pl, st, fr, rfl, h1, h2, h3, h4, h5, h7⟩, Gr.refl hw⟩
    | cons v vs =>
      have hroom : H.room? id = room := by simp only [Heap.room?, h1]
      have hov := over_in off room (v :: vs) cs hl
      refine ⟨{ size := H.size, blk := H.blk.set id (.mem (cs.take off ++ (v :: vs) ++ cs.drop (off + (v :: vs).length)) room fam ver true pl (st + 1)), fams := H.fams.set fam (ver, ver) }, ?_, ?_, ?_⟩
      · simp only [Heap.stores, hs, cond_true, Heap.write, h1, h2, hroom, hov]
        rw [show Nat.beq ver ver = true from Nat.beq_refl ver, show Nat.ble fr ver = true from Nat.ble_eq_true_of_le h3]
        rfl
      · refine .inr ⟨id, e, room, fam, ver, pl, st + 1, ver, rfl, T.get_set_same _ _ _, T.get_set_same _ _ _, Nat.le_refl _, h4, h5, ?_⟩
        rw [← h7]
        simp only [List.length_append, List.length_take, List.length_drop]
        omega
      · have hid := hw.blk _ _ h1
        have hfam := hw.fams _ _ h2
        refine ⟨⟨?_, ?_, ?_⟩, Nat.le_refl _, fun i hi => ?_, fun f hf => ?_⟩
        · intro i b hb
          simp only [T.get_set] at hb ⊢
          split at hb
          · omega
          · exact hw.blk _ _ hb
        · intro f x hf
          simp only [T.get_set] at hf ⊢
          split at hf
          · omega
          · exact hw.fams _ _ hf
        · intro i c r f v' w p s hb
          simp only [T.get_set] at hb ⊢
          split at hb
          · cases hb; exact hfam
          · exact hw.fam _ _ _ _ _ _ _ _ hb
        · simp only [T.get_set]; rw [if_neg (by omega)]
        · simp only [T.get_set]; rw [if_neg (by omega)]
theorem Own.cellsQ {H : Heap} {B z id n e : Nat} {cs : List V} (h : Own H B z (.sl id 0 n n (some e) z) n cs) : H.cells? id = some cs := by
  rcases h with ⟨h, _⟩ | ⟨id', e', room, fam, ver, pl, st, fr, q, h1, h2, h3, h4, h5, h7⟩
  · cases h
  · cases q
    simp only [Heap.cells?, h1, h2]
    rw [show Nat.ble fr ver = true from Nat.ble_eq_true_of_le h3]
    rfl
theorem Own.form {H : Heap} {B z : Nat} {v : V} {n : Nat} {cs : List V} (h : Own H B z v n cs) (hn : 0 < n) : ∃ id e, v = .sl id 0 n n (some e) z := by
  rcases h with ⟨_, h, _⟩ | ⟨id', e', room, fam, ver, pl, st, fr, q, _⟩
  · omega
  · exact ⟨id', e', q⟩
theorem Own.sort {H : Heap} {B : Nat} {v : V} {ss : List Bs} (h : Own H B 1 v ss.length (ss.map V.str)) (hw : WF H) (hl : ss.length < 4611686018427387904) :
    ∃ H', (∀ τ, sortP [v] H τ = some (.tup [], H', τ)) ∧ Own H' B 1 v (sorted ss).length ((sorted ss).map V.str) ∧ Gr B H H' := by
  have hlen : (sorted ss).length = ss.length := (sorted_ok ss).2.2
  by_cases h0 : ss = []
  · subst h0
    have hs : sorted [] = [] := by unfold sorted; simp
    refine ⟨H, fun τ => ?_, by rw [hs]; exact h, Gr.refl hw⟩
    rcases h with ⟨rfl, _, _⟩ | ⟨id, e, room, fam, ver, pl, st, fr, rfl, _⟩ <;> rfl
  · have hpos := List.length_pos_iff.2 h0
    obtain ⟨id, e, rfl⟩ := Own.form h hpos
    obtain ⟨H', s1, o1, g1⟩ := Own.stores h hw 0 ((sorted ss).map V.str) (by simp [hlen]) (strs_scal _)
    have hld : H.loads id 0 ss.length = some (ss.map V.str) := by
      rw [loads_cells (Own.cellsQ h) (by simp), List.drop_zero]
      rw [show ss.length = (ss.map V.str).length by simp, List.take_length]
    refine ⟨H', fun τ => ?_, ?_, g1⟩
    · obtain ⟨m, hm⟩ : ∃ m, ss.length = m + 1 := ⟨ss.length - 1, by omega⟩
      have hb : Nat.blt ss.length 4611686018427387904 = true := by simp [Nat.blt]; omega
      rw [hm] at hld hb ⊢
      simp only [sortP, Nat.beq_refl, hb, Bool.and_self, cond_true, hld, strsOf_map, s1]
    · rw [hlen]
      have : (List.map V.str ss).take 0 ++ List.map V.str (sorted ss) ++ (List.map V.str ss).drop (0 + (List.map V.str (sorted ss)).length) = List.map V.str (sorted ss) := by
        rw [List.drop_eq_nil_of_le (by simp [hlen])]; simp
      rw [this] at o1
      exact o1
theorem Own.compact {H : Heap} {B : Nat} {v : V} {ss : List Bs} (h : Own H B 1 v ss.length (ss.map V.str)) (hw : WF H) (hl : ss.length < 4611686018427387904) :
    ∃ v' H', (∀ τ, compactP [v] H τ = some (v', H', τ)) ∧ Rd H' 1 v' (compL ss).length ((compL ss).map V.str) ∧ Src H' v' ∧ Gr B H H' := by
  have hle := compL_le ss
  by_cases h0 : ss = []
  · subst h0
    have hs : compL [] = [] := List.eq_nil_of_length_eq_zero (by simpa using hle)
    rw [hs]
    refine ⟨v, H, fun τ => ?_, h.rd, h.src, Gr.refl hw⟩
    rcases h with ⟨rfl, _, _⟩ | ⟨id, e, room, fam, ver, pl, st, fr, rfl, _⟩ <;> rfl
  · have hpos := List.length_pos_iff.2 h0
    obtain ⟨id, e, rfl⟩ := Own.form h hpos
    have hpl : ((compL ss ++ List.replicate (ss.length - (compL ss).length) []).map V.str).length = (ss.map V.str).length := by
      rw [List.length_map, List.length_map, List.length_append, List.length_replicate]; omega
    obtain ⟨H', s1, o1, g1⟩ := Own.stores h hw 0 ((compL ss ++ List.replicate (ss.length - (compL ss).length) []).map V.str) (by rw [hpl]; omega) (strs_scal _)
    have hld : H.loads id 0 ss.length = some (ss.map V.str) := by
      rw [loads_cells (Own.cellsQ h) (by simp), List.drop_zero]
      rw [show ss.length = (ss.map V.str).length by simp, List.take_length]
    have hcs : H'.cells? id = some ((compL ss ++ List.replicate (ss.length - (compL ss).length) []).map V.str) := by
      have := Own.cellsQ o1
      rw [List.take_zero, List.nil_append, Nat.zero_add, hpl, List.drop_length, List.append_nil] at this
      exact this
    refine ⟨.sl id 0 (compL ss).length ss.length (some e) 1, H', fun τ => ?_, .inr ⟨id, 0, _, _, _, rfl, hcs, ?_, by simp⟩, ⟨_, hcs⟩, g1⟩
    · obtain ⟨m, hm⟩ : ∃ m, ss.length = m + 1 := ⟨ss.length - 1, by omega⟩
      have hb : Nat.ble ss.length 9223372036854775807 = true := Nat.ble_eq_true_of_le (by omega)
      rw [hm] at hb hld
      rw [hm]
      simp only [compactP, Nat.beq_refl, hb, Bool.and_self, cond_true, hld, strsOf_map, s1]
    · rw [List.drop_zero, Nat.mul_one, List.map_append]
      have : (compL ss).length = ((compL ss).map V.str).length := by simp
      rw [this, List.take_left]
end Go.Am.X

