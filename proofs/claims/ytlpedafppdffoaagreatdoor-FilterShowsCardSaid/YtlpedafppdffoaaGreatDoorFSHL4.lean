/- The abstract machine, printed functions of the program, and what they are shown to be. -/
import Derived.Test.YtlpedafppdffoaaGreatDoorFSHL3
import Derived.Test.YtlpedafppdffoaaGreatDoorFSHL2
import Derived.Test.YtlpedafppdffoaaGreatDoorFSHM5
import Derived.Test.YtlpedafppdffoaaGreatDoorFSHL1
set_option linter.unusedSimpArgs false
set_option linter.unusedVariables false
set_option linter.unusedSectionVars false
set_option maxRecDepth 100000
namespace Go.Am.X
theorem Own.stores {H : Heap} {B z id n e : Nat} {cs : List V} (h : Own H B z (.sl id 0 n n (some e) z) n cs) (hw : WF H) (off : Nat) (vs : List V) (hl : off + vs.length ≤ cs.length) (hs : vs.all V.scal = true) :
  ∃ H', H.stores id off vs = some H' ∧ Own H' B z (.sl id 0 n n (some e) z) n (cs.take off ++ vs ++ cs.drop (off + vs.length)) ∧ Gr B H H' := by
 rcases h with ⟨h, _⟩ | ⟨id', e', room, fam, ver, pl, st, fr, q, h1, h2, h3, h4, h5, h7⟩
 ·cases h
 ·cases q
  cases vs with
  | nil => exact ⟨H, rfl, by simpa using .inr ⟨id, e, room, fam, ver, pl, st, fr, rfl, h1, h2, h3, h4, h5, h7⟩, Gr.refl hw⟩
  | cons v vs =>
   have hroom : H.room? id = room := by simp only [Heap.room?, h1]
   have hov := over_in off room (v :: vs) cs hl
   refine ⟨{ size := H.size, blk := H.blk.set id (.mem (cs.take off ++ (v :: vs) ++ cs.drop (off + (v :: vs).length)) room fam ver true pl (st + 1)), fams := H.fams.set fam (ver, ver) }, ?_, ?_, ?_⟩
   ·simp only [Heap.stores, hs, cond_true, Heap.write, h1, h2, hroom, hov]
    rw [show Nat.beq ver ver = true from Nat.beq_refl ver, show Nat.ble fr ver = true from Nat.ble_eq_true_of_le h3]
    rfl
   ·refine .inr ⟨id, e, room, fam, ver, pl, st + 1, ver, rfl, T.get_set_same _ _ _, T.get_set_same _ _ _, Nat.le_refl _, h4, h5, ?_⟩
    rw [← h7]
    simp only [List.length_append, List.length_take, List.length_drop]
    omega
   ·have hid := hw.blk _ _ h1
    have hfam := hw.fams _ _ h2
    refine ⟨⟨?_, ?_, ?_⟩, Nat.le_refl _, fun i hi => ?_, fun f hf => ?_⟩
    ·intro i b hb
     simp only [T.get_set] at hb ⊢
     split at hb
     ·omega
     ·exact hw.blk _ _ hb
    ·intro f x hf
     simp only [T.get_set] at hf ⊢
     split at hf
     ·omega
     ·exact hw.fams _ _ hf
    ·intro i c r f v' w p s hb
     simp only [T.get_set] at hb ⊢
     split at hb
     ·cases hb; exact hfam
     ·exact hw.fam _ _ _ _ _ _ _ _ hb
    ·simp only [T.get_set]; rw [if_neg (by omega)]
    ·simp only [T.get_set]; rw [if_neg (by omega)]
theorem Own.cellsQ {H : Heap} {B z id n e : Nat} {cs : List V} (h : Own H B z (.sl id 0 n n (some e) z) n cs) : H.cells? id = some cs := by
 rcases h with ⟨h, _⟩ | ⟨id', e', room, fam, ver, pl, st, fr, q, h1, h2, h3, h4, h5, h7⟩
 ·cases h
 ·cases q
  simp only [Heap.cells?, h1, h2]
  rw [show Nat.ble fr ver = true from Nat.ble_eq_true_of_le h3]
  rfl
theorem Own.form {H : Heap} {B z : Nat} {v : V} {n : Nat} {cs : List V} (h : Own H B z v n cs) (hn : 0 < n) : ∃ id e, v = .sl id 0 n n (some e) z := by
 rcases h with ⟨_, h, _⟩ | ⟨id', e', room, fam, ver, pl, st, fr, q, _⟩
 ·omega
 ·exact ⟨id', e', q⟩
theorem Own.slide {H : Heap} {B : Nat} {v : V} {a r : List V} {z x : V} (h : Own H B 1 v (a.length + r.length + 1) (a ++ r ++ [z])) (hw : WF H) (hr : r.all V.scal = true) (hx : x.cells = [x]) (hxs : x.scal = true) :
  ∃ v40 v41 n H1 p H2, pSlSlice 1 true false false [v, .int .i64 ((a.length + 1 : Nat) : Int)] = some v40 ∧ pSlSlice 1 true false false [v, .int .i64 (a.length : Int)] = some v41 ∧ (∀ τ, eCopy 1 [v40, v41] H τ = some (n, H1, τ)) ∧ Gr B H H1 ∧
   pSlIdx 1 [v, .int .i64 (a.length : Int)] = some p ∧ (∀ τ, eStore 1 [p, x] H1 τ = some (.tup [], H2, τ)) ∧ Own H2 B 1 v (a.length + r.length + 1) (a ++ x :: r) ∧ Gr B H H2 := by
 obtain ⟨id, e, rfl⟩ := Own.form h (by omega)
 have hwi : within (a.length + r.length + 1) (a.length + r.length + 1) (some e) = true := by rw [within_iff]; exact .inl (Nat.le_refl _)
 obtain ⟨o40, l40, e40, p40, q40, _⟩ := from_mk (id := id) (off := 0) (z := 1) hwi (show a.length + 1 ≤ a.length + r.length + 1 by omega)
 obtain ⟨o41, l41, e41, p41, q41, _⟩ := from_mk (id := id) (off := 0) (z := 1) hwi (show a.length ≤ a.length + r.length + 1 by omega)
 have e1 : o41 = a.length := by have := q41 (by omega); omega
 subst e1
 have hc := Own.cellsQ h
 have hsrc : H.loads id a.length (r.length * 1) = some r := by
  rw [loads_cells hc (by simp <;> omega), List.append_assoc, List.drop_left, Nat.mul_one, List.take_left]
 have hlenr : (a ++ r ++ [z]).length = a.length + r.length + 1 := by simp; omega
 obtain ⟨H1, s1, own1, g1⟩ := Own.stores h hw (a.length + 1) r (by simp; omega) hr
 have hst : H.stores id o40 r = some H1 := by
  by_cases h0 : r = []
  ·subst h0; exact s1
  ·have hpos := List.length_pos_iff.2 h0
   have := q40 (by omega)
   rw [show o40 = a.length + 1 by omega]; exact s1
 have hcopy : ∀ τ, eCopy 1 [.sl id o40 (a.length + r.length + 1 - (a.length + 1)) l40 e40 1, .sl id a.length (a.length + r.length + 1 - a.length) l41 e41 1] H τ = some (.int .i64 (.ofNat r.length), H1, τ) := by
  intro τ
  have n1 : a.length + r.length + 1 - (a.length + 1) = r.length := by omega
  have n2 : a.length + r.length + 1 - a.length = r.length + 1 := by omega
  have nb : Nat.ble (r.length + 1) r.length = false := by
   cases hb : Nat.ble (r.length + 1) r.length with
   | false => rfl
   | true => have := Nat.le_of_ble_eq_true hb; omega
  simp only [eCopy, srcLen, srcCells, n1, n2, nb, cond_false, Nat.beq_refl, cond_true, hsrc, hst]
 have hbt : Nat.blt a.length (a.length + r.length + 1) = true := by simp [Nat.blt] <;> omega
 have hidx : pSlIdx 1 [.sl id 0 (a.length + r.length + 1) (a.length + r.length + 1) (some e) 1, .int .i64 (a.length : Int)] = some (.ptr id a.length) := by simp [pSlIdx, natOf_nat, hbt]
 have hlen1 : ((a ++ r ++ [z]).take (a.length + 1) ++ r ++ (a ++ r ++ [z]).drop (a.length + 1 + r.length)).length = a.length + r.length + 1 := by
  simp only [List.length_append, List.length_take, List.length_drop, hlenr]; simp <;> omega
 obtain ⟨H2, s2, own2, g2⟩ := Own.stores own1 g1.wf a.length [x] (by rw [hlen1]; simp <;> omega) (by simp [hxs])
 have hsto : ∀ τ, eStore 1 [.ptr id a.length, x] H1 τ = some (.tup [], H2, τ) := by
  intro τ
  simp only [eStore, hx, s2]
  rfl
 have hfin : ((a ++ r ++ [z]).take (a.length + 1) ++ r ++ (a ++ r ++ [z]).drop (a.length + 1 + r.length)).take a.length ++ [x] ++ ((a ++ r ++ [z]).take (a.length + 1) ++ r ++ (a ++ r ++ [z]).drop (a.length + 1 + r.length)).drop (a.length + [x].length) = a ++ x :: r := by
  have d1 : (a ++ r ++ [z]).drop (a.length + 1 + r.length) = [] := List.drop_eq_nil_of_le (by rw [hlenr]; omega)
  have t1 : (a ++ r ++ [z]).take (a.length + 1) = a ++ (r ++ [z]).take 1 := by rw [List.append_assoc, List.take_length_add_append]
  have l1 : (a ++ (r ++ [z]).take 1).length = a.length + 1 := by simp
  have t2 : (a ++ (r ++ [z]).take 1 ++ r).take a.length = a := by rw [List.append_assoc, List.take_left]
  have d2 : (a ++ (r ++ [z]).take 1 ++ r).drop (a.length + [x].length) = r := by
   rw [show a.length + [x].length = (a ++ (r ++ [z]).take 1).length by rw [l1]; rfl, List.drop_left]
  rw [d1, t1, List.append_nil, t2, d2]; simp
 rw [hfin] at own2
 exact ⟨_, _, _, H1, _, H2, p40, p41, hcopy, g1, hidx, hsto, own2, g1.trans g2 (Nat.le_refl _)⟩
theorem insB_go (x : Bs) : ∀ (a r : List Bs), (∀ y ∈ a, lessB y x = true) → insB x (a ++ r) = a ++ insB x r := by
 intro a
 induction a with
 | nil => intro r _; rfl
 | cons y a ih => intro r h; rw [List.cons_append, insB, h y (by simp), cond_true, ih r fun z hz => h z (by simp [hz])]; rfl
theorem l_ref1_Sorted_in (c : CallK) (N : Nat) (lv ov iv : V) (i : Nat) (ss acc : List Bs) (x : Bs) (H : Heap) (hiv : iv = .int .i64 (i : Int)) (hx : (ss.map V.str)[i]? = some (.str x)) (hr : Rd H 1 lv ss.length (ss.map V.str)) (ho : Rd H 1 ov acc.length (acc.map V.str)) (hl : acc.length < 1000000) (τ : Tape) : ∀ (r a : List Bs) (m : Nat), acc = a ++ r → (∀ y ∈ a, lessB y x = true) → r.length < m →
  ∃ a' r', acc = a' ++ r' ∧ (∀ y ∈ a', lessB y x = true) ∧ (∀ y l, r' = y :: l → lessB y x = false) ∧ ∀ (fr : T V) k, fr.get 0 = some lv → fr.get 3 = some ov → fr.get 4 = some iv → fr.get 5 = some (.int .i64 (a.length : Int)) →
   loopK (s_ref1_Sorted_l4 c N) m ⟨fr, H⟩ τ k = k (.exit 2) ⟨(T.set (T.set (T.set (T.set .leaf 0 lv) 3 ov) 4 iv) 5 (.int .i64 (a'.length : Int))), H⟩ τ := by
 intro r
 induction r with
 | nil =>
  intro a m he ha hm
  obtain ⟨m, rfl⟩ : ∃ j, m = j + 1 := ⟨m - 1, by omega⟩
  have e1 : decide (a.length < acc.length) = false := decide_eq_false (by rw [he]; simp)
  refine ⟨a, [], he, ha, fun y l h => (by cases h), fun fr k f0 f3 f4 f5 => ?_⟩
  rw [loopK_succ]
  simp only [s_ref1_Sorted_l4, getK_mk f0, getK_mk f3, getK_mk f4, getK_mk f5, ho.pLen, getK_set, ↓reduceIte, Nat.reduceEqDiff, someK_n, effK_n, retK, gK_do, gK_do', gK_skip, gK_skip', gK_none, pick_mk, cond_true, cond_false, condK_tn, condK_fn, bin_eql, bin_neq, bin_lss, bin_leq, bin_gtr, bin_geq, un_not, Bool.not_true, Bool.not_false, bin_str, lenS_mk, nle_l, nle_r, nle_n, nlt_l, nlt_r, nlt_n, neq_r, neq_n, nne_r, nne_n, ext0, ext1, ext30, ext31, ext32, bin_add, bin_sub, decide_true, decide_false, e1]
  rfl
 | cons y r ih =>
  intro a m he ha hm
  obtain ⟨m, rfl⟩ : ∃ j, m = j + 1 := ⟨m - 1, by omega⟩
  have e1 : decide (a.length < acc.length) = true := decide_eq_true (by rw [he]; simp)
  obtain ⟨p, p1, p2⟩ := ho.elem1 (i := a.length) (x := .str y) (by rw [he]; simp)
  obtain ⟨p', p3, p4⟩ := hr.elem1 (i := i) (x := .str x) hx
  have e3 : wr .i64 ((a.length : Int) + Int.ofNat 1) = ((a ++ [y]).length : Int) := by
   rw [adI (by rw [he] at hl; simp at hl; omega)]; simp
  subst hiv
  cases hy : lessB y x with
  | true =>
   obtain ⟨a', r', i1, i2, i3, i4⟩ := ih (a ++ [y]) m (by rw [he]; simp) (fun z hz => by rcases List.mem_append.1 hz with h | h; exact ha z h; simp at h; rw [h]; exact hy) (by simp at hm; omega)
   refine ⟨a', r', i1, i2, i3, fun fr k f0 f3 f4 f5 => ?_⟩
   rw [loopK_succ]
   simp only [s_ref1_Sorted_l4, getK_mk f0, getK_mk f3, getK_mk f4, getK_mk f5, ho.pLen, getK_set, ↓reduceIte, Nat.reduceEqDiff, someK_n, effK_n, retK, gK_do, gK_do', gK_skip, gK_skip', gK_none, pick_mk, cond_true, cond_false, condK_tn, condK_fn, bin_eql, bin_neq, bin_lss, bin_leq, bin_gtr, bin_geq, un_not, Bool.not_true, Bool.not_false, bin_str, lenS_mk, nle_l, nle_r, nle_n, nlt_l, nlt_r, nlt_n, neq_r, neq_n, nne_r, nne_n, ext0, ext1, ext30, ext31, ext32, bin_add, bin_sub, decide_true, decide_false, e1, p1, p2, p3, p4, str_lss, hy, e3]
   exact i4 _ k (by simp [T.get_set]) (by simp [T.get_set]) (by simp [T.get_set]) (by simp [T.get_set])
  | false =>
   refine ⟨a, y :: r, he, ha, fun z l h => (by cases h; exact hy), fun fr k f0 f3 f4 f5 => ?_⟩
   rw [loopK_succ]
   simp only [s_ref1_Sorted_l4, getK_mk f0, getK_mk f3, getK_mk f4, getK_mk f5, ho.pLen, getK_set, ↓reduceIte, Nat.reduceEqDiff, someK_n, effK_n, retK, gK_do, gK_do', gK_skip, gK_skip', gK_none, pick_mk, cond_true, cond_false, condK_tn, condK_fn, bin_eql, bin_neq, bin_lss, bin_leq, bin_gtr, bin_geq, un_not, Bool.not_true, Bool.not_false, bin_str, lenS_mk, nle_l, nle_r, nle_n, nlt_l, nlt_r, nlt_n, neq_r, neq_n, nne_r, nne_n, ext0, ext1, ext30, ext31, ext32, bin_add, bin_sub, decide_true, decide_false, e1, p1, p2, p3, p4, str_lss, hy]
   rfl
theorem l_ref1_Sorted (c : CallK) {N : Nat} (hN : 9223372036854775807 < N) (lv : V) (ss : List Bs) (hl : ss.length < 1000000) (B : Nat) : ∀ (l pre : List Bs) (ov : V) (H : Heap) (τ : Tape) (m : Nat), ss = pre ++ l → l.length < m → WF H → B ≤ H.size → (∀ H', Gr B H H' → Rd H' 1 lv ss.length (ss.map V.str)) → LsS H B ov (srtT pre) →
  ∃ ov' H' τ', LsS H' B ov' (srtT ss) ∧ Gr B H H' ∧ ∀ (fr : T V) k, fr.get 0 = some lv → fr.get 3 = some ov → fr.get 4 = some (.int .i64 (pre.length : Int)) →
   loopK (s_ref1_Sorted_l1 c N) m ⟨fr, H⟩ τ k = k (.exit 0) ⟨(T.set .leaf 3 ov'), H'⟩ τ' := by
 intro l
 induction l with
 | nil =>
  intro pre ov H τ m he hm hw hB hrd ho
  obtain ⟨m, rfl⟩ : ∃ j, m = j + 1 := ⟨m - 1, by omega⟩
  have e1 : decide (pre.length < ss.length) = false := decide_eq_false (by rw [he]; simp)
  have pl := (hrd H (Gr.refl hw)).pLen
  refine ⟨ov, H, τ, by rw [he, List.append_nil]; exact ho, Gr.refl hw, fun fr k f0 f3 f4 => ?_⟩
  rw [loopK_succ]
  simp only [s_ref1_Sorted_l1, getK_mk f0, getK_mk f3, getK_mk f4, pl, getK_set, ↓reduceIte, Nat.reduceEqDiff, someK_n, effK_n, retK, gK_do, gK_do', gK_skip, gK_skip', gK_none, pick_mk, cond_true, cond_false, condK_tn, condK_fn, bin_eql, bin_neq, bin_lss, bin_leq, bin_gtr, bin_geq, un_not, Bool.not_true, Bool.not_false, bin_str, lenS_mk, nle_l, nle_r, nle_n, nlt_l, nlt_r, nlt_n, neq_r, neq_n, nne_r, nne_n, ext0, ext1, ext30, ext31, ext32, bin_add, bin_sub, decide_true, decide_false, e1]
  rfl
 | cons x l ih =>
  intro pre ov H τ m he hm hw hB hrd ho
  obtain ⟨m, rfl⟩ : ∃ j, m = j + 1 := ⟨m - 1, by omega⟩
  have hlt : pre.length < ss.length := by rw [he]; simp
  have e1 : decide (pre.length < ss.length) = true := decide_eq_true hlt
  have e3 : wr .i64 ((pre.length : Int) + Int.ofNat 1) = ((pre ++ [x]).length : Int) := by rw [adI (by omega)]; simp
  have hr := hrd H (Gr.refl hw)
  have pl := hr.pLen
  have hx : (ss.map V.str)[pre.length]? = some (.str x) := by rw [he]; simp
  have hsl := (srtT_ok pre).2.2
  have ors := ho.rdS.1
  obtain ⟨a, r, i1, i2, i3, i4⟩ := l_ref1_Sorted_in c N lv ov _ pre.length ss (srtT pre) x H rfl hx hr ors (by omega) τ (srtT pre) [] N rfl (fun y hy => by simp at hy) (by omega)
  have hins : insB x (srtT pre) = a ++ insB x r := by rw [i1]; exact insB_go x a r i2
  have hal : (srtT pre).length = a.length + r.length := by rw [i1]; simp
  obtain ⟨p', p3, p4⟩ := hr.elem1 hx
  have fin : ∀ (ov2 : V) (H2 : Heap) (τ2 : Tape), LsS H2 B ov2 (insB x (srtT pre)) → Gr B H H2 → ∃ ov' H' τ', LsS H' B ov' (srtT ss) ∧ Gr B H H' ∧ ∀ (fr : T V) k, fr.get 0 = some lv → fr.get 3 = some ov2 → fr.get 4 = some (.int .i64 ((pre ++ [x]).length : Int)) →
    loopK (s_ref1_Sorted_l1 c N) m ⟨fr, H2⟩ τ2 k = k (.exit 0) ⟨(T.set .leaf 3 ov'), H'⟩ τ' := by
   intro ov2 H2 τ2 h2 g2
   obtain ⟨ov', H', τ', j1, j2, j3⟩ := ih (pre ++ [x]) ov2 H2 τ2 m (by rw [he]; simp) (by simp at hm; omega) g2.wf (Nat.le_trans hB g2.size) (fun H' hg => hrd H' (g2.trans hg (Nat.le_refl _))) (by rw [srtT_snoc]; exact h2)
   exact ⟨ov', H', τ', j1, g2.trans j2 (Nat.le_refl _), j3⟩
  have putin : insB x r = x :: r → (∀ y l', r = y :: l' → (y == x) = false) → ∃ ov' H' τ', LsS H' B ov' (srtT ss) ∧ Gr B H H' ∧ ∀ (fr : T V) k, fr.get 0 = some lv → fr.get 3 = some ov → fr.get 4 = some (.int .i64 (pre.length : Int)) →
    loopK (s_ref1_Sorted_l1 c N) (m + 1) ⟨fr, H⟩ τ k = k (.exit 0) ⟨(T.set .leaf 3 ov'), H'⟩ τ' := by
   intro hput hne
   obtain ⟨w, H1, v36, H3, τ3, r1, r2, r3, r4⟩ := ho.put hw hB [] (by omega) τ
   have hown : Own H3 B 1 v36 ((a.map V.str).length + (r.map V.str).length + 1) (a.map V.str ++ r.map V.str ++ [V.str []]) := by
    have := r3.1
    rw [i1] at this
    simpa [Nat.add_assoc] using this
   obtain ⟨v40, v41, nn, H4, pp, H5, t1, t2, t3, t4, t5, t6, t7, t8⟩ := Own.slide hown (x := .str x) r4.wf (strs_scal r) rfl rfl
   rw [List.length_map] at t1 t2 t5 t7
   have hr4 := hrd H4 (r4.trans t4 (Nat.le_refl _))
   obtain ⟨p5, p6, p7⟩ := hr4.elem1 hx
   obtain rfl : p5 = p' := Option.some.inj (p6.symm.trans p3)
   have o5 : LsS H5 B v36 (insB x (srtT pre)) := by
    rw [hins, hput]
    refine ⟨?_, fun h => by simp at h⟩
    have hlr : (r.map V.str).length = r.length := List.length_map ..
    rw [hlr] at t7
    have e : (a ++ x :: r).length = a.length + r.length + 1 := by simp; omega
    rw [e]
    simpa using t7
   obtain ⟨ov', H', τ', j1, j2, j3⟩ := fin v36 H5 τ3 o5 (r4.trans t8 (Nat.le_refl _))
   refine ⟨ov', H', τ', j1, j2, fun fr k f0 f3 f4 => ?_⟩
   have e5 : wr .i64 ((a.length : Int) + Int.ofNat 1) = ((a.length + 1 : Nat) : Int) := adI (by omega)
   rw [loopK_succ]
   simp only [s_ref1_Sorted_l1, getK_mk f0, getK_mk f3, getK_mk f4, pl, getK_set, ↓reduceIte, Nat.reduceEqDiff, someK_n, effK_n, retK, gK_do, gK_do', gK_skip, gK_skip', gK_none, pick_mk, cond_true, cond_false, condK_tn, condK_fn, bin_eql, bin_neq, bin_lss, bin_leq, bin_gtr, bin_geq, un_not, Bool.not_true, Bool.not_false, bin_str, lenS_mk, nle_l, nle_r, nle_n, nlt_l, nlt_r, nlt_n, neq_r, neq_n, nne_r, nne_n, ext0, ext1, ext30, ext31, ext32, bin_add, bin_sub, decide_true, decide_false, e1]
   rw [i4 _ _ (by simp [T.get_set]) (by simp [T.get_set]) (by simp [T.get_set]) (by simp [T.get_set])]
   simp only [blockK, Nat.beq_refl, cond_true, seqK]
   cases hrr : r with
   | nil =>
    have e2 : decide (a.length < (srtT pre).length) = false := decide_eq_false (by rw [hal, hrr]; simp)
    simp only [s_ref1_Sorted_j3, getK_set, ↓reduceIte, Nat.reduceEqDiff, someK_n, effK_n, retK, gK_do, gK_do', gK_skip, gK_skip', gK_none, pick_mk, cond_true, cond_false, condK_tn, condK_fn, bin_eql, bin_neq, bin_lss, bin_leq, bin_gtr, bin_geq, un_not, Bool.not_true, Bool.not_false, bin_str, lenS_mk, nle_l, nle_r, nle_n, nlt_l, nlt_r, nlt_n, neq_r, neq_n, nne_r, nne_n, ext0, ext1, ext30, ext31, ext32, bin_add, bin_sub, decide_true, decide_false, ors.pLen, e2, r1, r2, e5, t1, t2, t3, p6, p7, t5, t6, s_ref1_Sorted_j2, e3]
    exact j3 _ k (by simp [T.get_set]) (by simp [T.get_set]) (by simp [T.get_set])
   | cons y r' =>
    have e2 : decide (a.length < (srtT pre).length) = true := decide_eq_true (by rw [hal, hrr]; simp)
    obtain ⟨py, py1, py2⟩ := ors.elem1 (i := a.length) (x := .str y) (by rw [i1, hrr]; simp)
    have hy := hne y r' hrr
    simp only [s_ref1_Sorted_j3, getK_set, ↓reduceIte, Nat.reduceEqDiff, someK_n, effK_n, retK, gK_do, gK_do', gK_skip, gK_skip', gK_none, pick_mk, cond_true, cond_false, condK_tn, condK_fn, bin_eql, bin_neq, bin_lss, bin_leq, bin_gtr, bin_geq, un_not, Bool.not_true, Bool.not_false, bin_str, lenS_mk, nle_l, nle_r, nle_n, nlt_l, nlt_r, nlt_n, neq_r, neq_n, nne_r, nne_n, ext0, ext1, ext30, ext31, ext32, bin_add, bin_sub, decide_true, decide_false, ors.pLen, e2, py1, py2, p3, p4, str_eql, hy, r1, r2, e5, t1, t2, t3, p6, p7, t5, t6, s_ref1_Sorted_j2, e3]
    exact j3 _ k (by simp [T.get_set]) (by simp [T.get_set]) (by simp [T.get_set])
  cases hrr : r with
  | nil => exact putin (by rw [hrr]; rfl) (fun y l' h => by rw [hrr] at h; cases h)
  | cons y r' =>
   have hly := i3 y r' hrr
   cases hyx : (y == x) with
   | false => exact putin (by rw [hrr, insB, hly, cond_false, hyx, cond_false]) (fun z l' h => by rw [hrr] at h; cases h; exact hyx)
   | true =>
    have hsame : insB x (srtT pre) = srtT pre := by rw [hins, hrr, insB, hly, cond_false, hyx, cond_true, ← hrr, ← i1]
    obtain ⟨ov', H', τ', j1, j2, j3⟩ := fin ov H τ (by rw [hsame]; exact ho) (Gr.refl hw)
    refine ⟨ov', H', τ', j1, j2, fun fr k f0 f3 f4 => ?_⟩
    have e2 : decide (a.length < (srtT pre).length) = true := decide_eq_true (by rw [hal, hrr]; simp)
    obtain ⟨py, py1, py2⟩ := ors.elem1 (i := a.length) (x := .str y) (by rw [i1, hrr]; simp)
    rw [loopK_succ]
    simp only [s_ref1_Sorted_l1, getK_mk f0, getK_mk f3, getK_mk f4, pl, getK_set, ↓reduceIte, Nat.reduceEqDiff, someK_n, effK_n, retK, gK_do, gK_do', gK_skip, gK_skip', gK_none, pick_mk, cond_true, cond_false, condK_tn, condK_fn, bin_eql, bin_neq, bin_lss, bin_leq, bin_gtr, bin_geq, un_not, Bool.not_true, Bool.not_false, bin_str, lenS_mk, nle_l, nle_r, nle_n, nlt_l, nlt_r, nlt_n, neq_r, neq_n, nne_r, nne_n, ext0, ext1, ext30, ext31, ext32, bin_add, bin_sub, decide_true, decide_false, e1]
    rw [i4 _ _ (by simp [T.get_set]) (by simp [T.get_set]) (by simp [T.get_set]) (by simp [T.get_set])]
    simp only [blockK, Nat.beq_refl, cond_true, seqK, s_ref1_Sorted_j3, getK_set, ↓reduceIte, Nat.reduceEqDiff, someK_n, effK_n, retK, gK_do, gK_do', gK_skip, gK_skip', gK_none, pick_mk, cond_true, cond_false, condK_tn, condK_fn, bin_eql, bin_neq, bin_lss, bin_leq, bin_gtr, bin_geq, un_not, Bool.not_true, Bool.not_false, bin_str, lenS_mk, nle_l, nle_r, nle_n, nlt_l, nlt_r, nlt_n, neq_r, neq_n, nne_r, nne_n, ext0, ext1, ext30, ext31, ext32, bin_add, bin_sub, decide_true, decide_false, ors.pLen, e2, py1, py2, p3, p4, str_eql, hyx, s_ref1_Sorted_j2, e3]
    exact j3 _ k (by simp [T.get_set]) (by simp [T.get_set]) (by simp [T.get_set])
theorem s_ref1_Sorted_ret (c : CallK) {N : Nat} (hN : 9223372036854775807 < N) (lv : V) (ss : List Bs) (hl : ss.length < 1000000) (H : Heap) (hw : WF H) (hr : RdS H lv ss) (τ : Tape) :
  ∃ v' H' τ', LsS H' H.size v' (srtT ss) ∧ Gr H.size H H' ∧ ∀ q, s_ref1_Sorted c N lv H τ q = q v' H' τ' := by
 obtain ⟨v', H', τ', i1, i2, i3⟩ := l_ref1_Sorted c hN lv ss hl H.size ss [] .nils H τ N rfl (by omega) hw (Nat.le_refl _) (fun H' hg => hr.1.gr hg hw (Nat.le_refl _)) (LsS.nil _ _)
 refine ⟨v', H', τ', i1, i2, fun q => ?_⟩
 simp only [s_ref1_Sorted]
 rw [i3 _ _ (by simp [T.get_set]) (by simp [T.get_set]) (by simp [T.get_set])]
 simp only [blockK, Nat.beq_refl, cond_true, seqK, s_ref1_Sorted_j0, getK_set, ↓reduceIte, Nat.reduceEqDiff, someK_n, effK_n, retK, gK_do, gK_do', gK_skip, gK_skip', gK_none, pick_mk, cond_true, cond_false, condK_tn, condK_fn, bin_eql, bin_neq, bin_lss, bin_leq, bin_gtr, bin_geq, un_not, Bool.not_true, Bool.not_false, bin_str, lenS_mk, nle_l, nle_r, nle_n, nlt_l, nlt_r, nlt_n, neq_r, neq_n, nne_r, nne_n, ext0, ext1, ext30, ext31, ext32, bin_add, bin_sub, decide_true, decide_false]
def RSs (Pre : List Bs → List V → Prop) (g : Bool → List Bs → List V → Out) (vs : List V) (H : Heap) (o : Out) : Prop := ∃ v l ss, vs = v :: l ∧ RdS H v ss ∧ Pre ss l ∧ o = g (isNil v) ss l
theorem RSs_fun (Pre : List Bs → List V → Prop) (g : Bool → List Bs → List V → Out) : Fun1 (RSs Pre g) := by
 rintro vs H o o' ⟨v, l, ss, rfl, h1, _, rfl⟩ ⟨v', l', ss', e, h2, _, rfl⟩
 cases e
 rw [h1.uniq h2]
theorem primRSs {N : Nat} {l : List Row} (hl : RowsOk PG l) (d f : Nat) {Pre : List Bs → List V → Prop} {g : Bool → List Bs → List V → Out} (h : ∀ ss args, Pre ss args → ∀ lv H, WF H → RdS H lv ss → ∀ τ, ∃ v H' τ', Gr H.size H H' ∧ (g (isNil lv) ss args).Met H v H' ∧ ∀ q, CR l N d f (lv :: args) H τ q = q v H' τ') : ∀ base w0, PrimOk PG base w0 f (outP (RSs Pre g)) := by
 refine primOk_out mixed_ok hl N d f ?_
 rintro vs H o hw hvs ⟨lv, args, ss, rfl, hr, hp, rfl⟩ τ
 obtain ⟨v, H', τ', g1, m1, k1⟩ := h ss args hp lv H hw hr τ
 exact ⟨v, H', τ', k1 retK, g1, m1⟩
abbrev SrtPre (ss : List Bs) : List V → Prop | [] => ss.length < 1000000 | _ => False
abbrev SrtG (_ : Bool) (ss : List Bs) : List V → Out | [] => lstO 1 (srtT ss).length ((srtT ss).map V.str) (fun v => v) | _ => .val (.tup [])
theorem p_ref1_Sorted : ∀ base w0, PrimOk PG base w0 f_ref1_Sorted (outP (RSs SrtPre SrtG)) := by
 obtain ⟨N, hN⟩ := someN
 refine primRSs (N := N) (l := [Row.fn f_ref1_Sorted fn_ref1_Sorted e_ref1_Sorted]) (.fn ok_ref1_Sorted e_ref1_Sorted_ok (.nil _)) 1 _ (fun ss args hp lv H hw hr τ => ?_)
 unfold SrtPre at hp; split at hp
 ·obtain ⟨v', H', τ', h1, h2, h3⟩ := s_ref1_Sorted_ret (CR [Row.fn f_ref1_Sorted fn_ref1_Sorted e_ref1_Sorted] N 0) hN lv ss hp H hw hr τ
  exact ⟨_, H', τ', h2, LsS.met h1 mkOk_id trivial, h3⟩
 ·exact hp.elim
end Go.Am.X

namespace Go.Am.X
theorem lower_len (s : Bs) : (lower s).length = s.length := by simp [lower]
end Go.Am.X

namespace Go.Am.X
def addK (k : Bs) (ks : List Bs) : List Bs := if k ∈ ks then ks else ks ++ [k]
def addAll (l : List Bs) : List Bs := l.foldl (fun a k => addK k a) []
theorem addAll_snoc (l : List Bs) (x : Bs) : addAll (l ++ [x]) = addK x (addAll l) := by unfold addAll; rw [List.foldl_append]; rfl
theorem addK_mem {k : Bs} {ks : List Bs} {x : Bs} : x ∈ addK k ks ↔ x ∈ ks ∨ x = k := by
 unfold addK
 split
 ·rename_i h
  constructor
  ·exact .inl
  ·rintro (h1 | rfl)
   ·exact h1
   ·exact h
 ·simp
theorem addK_nodup {k : Bs} {ks : List Bs} (h : ks.Nodup) : (addK k ks).Nodup := by
 unfold addK
 split
 ·exact h
 ·rename_i hk
  exact List.nodup_append.2 ⟨h, by simp, fun a ha b hb e => by simp at hb; subst hb; subst e; exact hk ha⟩
theorem addK_len (k : Bs) (ks : List Bs) : (addK k ks).length ≤ ks.length + 1 := by unfold addK; split <;> simp
theorem addAll_ok (l : List Bs) : (addAll l).Nodup ∧ (∀ x, x ∈ addAll l ↔ x ∈ l) ∧ (addAll l).length ≤ l.length := by
 have key : ∀ (l a : List Bs), a.Nodup → (l.foldl (fun a k => addK k a) a).Nodup ∧ (∀ x, x ∈ l.foldl (fun a k => addK k a) a ↔ x ∈ a ∨ x ∈ l) ∧ (l.foldl (fun a k => addK k a) a).length ≤ a.length + l.length := by
  intro l
  induction l with
  | nil => intro a h; exact ⟨h, fun x => by simp, by simp⟩
  | cons y l ih =>
   intro a h
   obtain ⟨h1, h2, h3⟩ := ih (addK y a) (addK_nodup h)
   refine ⟨h1, fun x => ?_, ?_⟩
   ·rw [List.foldl_cons, h2, addK_mem, List.mem_cons]
    constructor
    ·rintro ((h | h) | h)
     ·exact .inl h
     ·exact .inr (.inl h)
     ·exact .inr (.inr h)
    ·rintro (h | h | h)
     ·exact .inl (.inl h)
     ·exact .inl (.inr h)
     ·exact .inr h
   ·have := addK_len y a
    rw [List.foldl_cons, List.length_cons]
    omega
 obtain ⟨h1, h2, h3⟩ := key l [] List.nodup_nil
 exact ⟨h1, fun x => by rw [addAll, h2]; simp, by simpa [addAll] using h3⟩
def Mk (H : Heap) (m : Nat) (ks : List Bs) : Prop := ∃ ms c, H.blk.get m = some (.mapb ms (some c)) ∧ keysE ms = ks ∧ ∀ p ∈ ms, ∃ x : Int, p.2.1 = .int .i64 x
theorem Mk.gr {H H' : Heap} {m C : Nat} {ks : List Bs} (h : Mk H m ks) (hg : Gr C H H') (hm : m < C) : Mk H' m ks := by
 obtain ⟨ms, c, h1, h2⟩ := h
 exact ⟨ms, c, by rw [hg.blk m hm]; exact h1, h2⟩
theorem Mk.only {H H' : Heap} {m i : Nat} {ks : List Bs} (h : Mk H m ks) (hg : Only i H H') (hm : m ≠ i) : Mk H' m ks := by
 obtain ⟨ms, c, h1, h2⟩ := h
 exact ⟨ms, c, by rw [hg.blk m hm]; exact h1, h2⟩
theorem Mk.lt {H : Heap} {m : Nat} {ks : List Bs} (h : Mk H m ks) (hw : WF H) : m < H.size := by
 obtain ⟨ms, c, h1, _⟩ := h
 exact hw.blk _ _ h1
theorem mk_new {H : Heap} (hw : WF H) (τ : Tape) : ∃ H', eMkMap [] H τ = some (.map H.size, H', τ) ∧ Mk H' H.size [] ∧ Gr H.size H H' ∧ H'.size = H.size + 1 := by
 refine ⟨{ size := H.size + 1, blk := H.blk.set H.size (.mapb [] (some 0)), fams := H.fams }, rfl, ⟨[], 0, T.get_set_same _ _ _, rfl, fun p hp => by cases hp⟩, ⟨?_, Nat.le_succ _, fun id hid => T.get_set_ne _ _ (by omega), fun f _ => rfl⟩, rfl⟩
 refine ⟨fun id b hb => ?_, fun f x hx => Nat.lt_succ_of_lt (hw.fams _ _ hx), fun id cs room fam ver wr pl st hb => ?_⟩
 ·by_cases e : H.size = id
  ·subst e; exact Nat.lt_succ_self _
  ·simp only [T.get_set_ne _ _ e] at hb; exact Nat.lt_succ_of_lt (hw.blk _ _ hb)
 ·by_cases e : H.size = id
  ·subst e; simp only [T.get_set_same] at hb; cases hb
  ·simp only [T.get_set_ne _ _ e] at hb; exact Nat.lt_succ_of_lt (hw.fam _ _ _ _ _ _ _ _ hb)
theorem findS_key {k : Bs} : ∀ {ms : List (Bs × V × Nat)}, (findS k ms = none ↔ k ∉ keysE ms) ∧ ∀ v, findS k ms = some v → ∃ p ∈ ms, p.2 = v := by
 intro ms
 induction ms with
 | nil => exact ⟨by simp [findS, keysE], fun v h => by cases h⟩
 | cons p r ih =>
  obtain ⟨k', u⟩ := p
  cases hb : eqB k k' with
  | true =>
   have hk : k = k' := by rw [eqB_eq] at hb; simpa using hb
   subst hk
   refine ⟨by simp [findS, hb, keysE], fun v h => ?_⟩
   simp only [findS, hb, cond_true, Option.some.injEq] at h
   exact ⟨_, List.mem_cons_self, h⟩
  | false =>
   have hk : k ≠ k' := fun e => by subst e; rw [eqB_eq] at hb; simp at hb
   refine ⟨?_, fun v h => ?_⟩
   ·simp only [findS, hb, cond_false, ih.1, keysE, List.map_cons, List.mem_cons, not_or]
    exact ⟨fun h => ⟨hk, h⟩, fun h => h.2⟩
   ·simp only [findS, hb, cond_false] at h
    obtain ⟨p, hp, e⟩ := ih.2 v h
    exact ⟨p, List.mem_cons_of_mem _ hp, e⟩
theorem mlook_K {H : Heap} {m : Nat} {ks : List Bs} (h : Mk H m ks) (k : Bs) : ∃ x : Int, lLook (.int .i64 (.ofNat 0)) false [.map m, .str k] H = some (.int .i64 x) := by
 obtain ⟨ms, c, h1, h2, h3⟩ := h
 cases hf : findS k ms with
 | none => exact ⟨0, by simp only [lLook, h1, hf]; rfl⟩
 | some v =>
  obtain ⟨p, hp, e⟩ := findS_key.2 v hf
  obtain ⟨x, hx⟩ := h3 p hp
  refine ⟨x, ?_⟩
  simp only [lLook, h1, hf, lookV]
  rw [← e, hx]
theorem keysE_put (k : Bs) (v : V) (c : Nat) : ∀ (ms : List (Bs × V × Nat)), keysE (putS k v c ms) = addK k (keysE ms) := by
 intro ms
 induction ms with
 | nil => simp [putS, keysE, addK]
 | cons p r ih =>
  obtain ⟨k', u, b⟩ := p
  cases hb : eqB k k' with
  | true =>
   have hk : k = k' := by rw [eqB_eq] at hb; simpa using hb
   subst hk
   simp [putS, hb, keysE, addK]
  | false =>
   have hk : k ≠ k' := fun e => by subst e; rw [eqB_eq] at hb; simp at hb
   have e1 : keysE (putS k v c ((k', u, b) :: r)) = k' :: keysE (putS k v c r) := by simp only [putS, hb, cond_false]; rfl
   have e2 : keysE ((k', u, b) :: r) = k' :: keysE r := rfl
   rw [e1, ih, e2]
   unfold addK
   by_cases hm : k ∈ keysE r
   ·rw [if_pos hm, if_pos (List.mem_cons_of_mem _ hm)]
   ·rw [if_neg hm, if_neg (by simp only [List.mem_cons, not_or]; exact ⟨hk, hm⟩)]
    rfl
theorem putS_mem' {k : Bs} {v : V} {c : Nat} : ∀ {es : List (Bs × V × Nat)} {p : Bs × V × Nat}, p ∈ putS k v c es → p.2.1 = v ∨ p ∈ es := by
 intro es
 induction es with
 | nil => intro p h; simp [putS] at h; exact .inl (by rw [h])
 | cons q es ih =>
  intro p h
  obtain ⟨k', u, b'⟩ := q
  cases hb : eqB k k' with
  | true =>
   simp only [putS, hb, cond_true, List.mem_cons] at h
   rcases h with rfl | h
   ·exact .inl rfl
   ·exact .inr (by simp [h])
  | false =>
   simp only [putS, hb, cond_false, List.mem_cons] at h
   rcases h with rfl | h
   ·exact .inr (by simp)
   ·rcases ih h with h | h
    ·exact .inl h
    ·exact .inr (by simp [h])
theorem only_map {H : Heap} {m : Nat} {es es' : List (Bs × V × Nat)} {c c' : Option Nat} (h : H.blk.get m = some (.mapb es c)) (hw : WF H) : Only m H { size := H.size, blk := H.blk.set m (.mapb es' c'), fams := H.fams } := by
 refine ⟨⟨?_, hw.fams, ?_⟩, rfl, fun id hid => T.get_set_ne _ _ (Ne.symm hid), fun _ _ => rfl⟩
 ·intro id b hb
  by_cases e : m = id
  ·subst e; exact hw.blk _ _ h
  ·simp only [T.get_set_ne _ _ e] at hb; exact hw.blk _ _ hb
 ·intro id cs room fam ver wr pl st hb
  by_cases e : m = id
  ·subst e; simp only [T.get_set_same] at hb; cases hb
  ·simp only [T.get_set_ne _ _ e] at hb; exact hw.fam _ _ _ _ _ _ _ _ hb
theorem mput_K {H : Heap} {m : Nat} {ks : List Bs} (h : Mk H m ks) (hw : WF H) (k : Bs) (x : Int) (τ : Tape) : ∃ H', eMput [.map m, .str k, .int .i64 x] H τ = some (.tup [], H', τ) ∧ Mk H' m (addK k ks) ∧ Only m H H' := by
 obtain ⟨ms, c, h1, h2, h3⟩ := h
 refine ⟨_, by simp only [eMput, h1, forceN_eq]; rfl, ⟨_, _, T.get_set_same _ _ _, by rw [keysE_put, h2], fun p hp => ?_⟩, only_map h1 hw⟩
 rcases putS_mem' hp with e | hp
 ·exact ⟨x, e⟩
 ·exact h3 p hp
theorem sorted_set {ks L : List Bs} (hn : ks.Nodup) (hm : ∀ x, x ∈ ks ↔ x ∈ L) : sorted ks = srtT L := by
 obtain ⟨h1, h2, _⟩ := srtT_ok L
 obtain ⟨h3, h4, _⟩ := srtT_ok ks
 have e1 : srtT ks = srtT L := srt_uniq _ _ h3 h1 fun x => by rw [h4, h2, hm]
 have hp : (sorted ks).Perm ks := by rw [sorted_eq]; exact List.mergeSort_perm ks _
 obtain ⟨s1, s2, _⟩ := sorted_ok ks
 have hnd : (sorted ks).Nodup := hp.nodup_iff.2 hn
 refine srt_uniq _ _ ?_ h1 fun x => by rw [h2, ← hm]; exact hp.mem_iff
 exact (s1.and hnd).imp fun {a b} h => by
  rcases ltB_tri a b with k | k | k
  ·exact k
  ·exact absurd k h.2
  ·exact absurd k h.1
theorem names_K {H : Heap} {m : Nat} {es : List (Bs × V × Nat)} {clk : Option Nat} (hw : WF H) (h : H.blk.get m = some (.mapb es clk)) {L : List Bs} (hn : (keysE es).Nodup) (hm : ∀ x, x ∈ keysE es ↔ x ∈ L) (hl : (keysE es).length ≤ 1000000) (hk : ∀ x ∈ L, x.length ≤ 1000000) (τ : Tape) :
  ∃ v H' τ', namesP [.map m] H τ = some (v, H', τ') ∧ LsS H' H.size v (srtT L) ∧ Gr H.size H H' := by
 have hok : okKeys es = true := by
  simp only [okKeys, Bool.and_eq_true, List.all_eq_true]
  refine ⟨Nat.ble_eq_true_of_le (by have : es.length = (keysE es).length := (by simp [keysE]); omega), fun p hp => Nat.ble_eq_true_of_le ?_⟩
  have := hk p.1 ((hm _).1 (List.mem_map.2 ⟨p, hp, rfl⟩))
  omega
 have hs := sorted_set hn hm
 cases es with
 | nil =>
  have e0 : srtT L = [] := by rw [← hs]; rfl
  refine ⟨.nils, H, τ, by simp only [namesP, h, hok, cond_true], by rw [e0]; exact LsS.nil _ _, Gr.refl hw⟩
 | cons p r =>
  have hlen : (srtT L).length = r.length + 1 := by
   rw [← hs, sorted_eq, List.length_mergeSort]; simp [keysE]
  refine ⟨_, _, τ.tail, by simp only [namesP, h, hok, cond_true]; rfl, ⟨?_, fun e => by rw [e] at hlen; simp at hlen⟩, Gr.new hw _ _ _⟩
  rw [hs, hlen]
  refine .inr ⟨H.size, _, _, H.size, 0, false, 0, 0, rfl, T.get_set_same _ _ _, T.get_set_same _ _ _, Nat.le_refl _, Nat.le_refl _, Nat.le_refl _, by rw [List.length_map, hlen]; omega⟩
end Go.Am.X

namespace Go.Am.X
end Go.Am.X

namespace Go.Am.X
abbrev NLowOk (c : CallK) : Prop := ∀ (s : Bs), s.length ≤ 140737488355328 → ∀ H τ q, c f_infra_Lower [.str s] H τ q = q (.str (lower s)) H τ
theorem k_infra_Lower {c : CallK} (h : IsP c f_infra_Lower LowR) : NLowOk c := fun s hs H τ q => callS h s hs H τ q
end Go.Am.X

namespace Go.Am.X
theorem k_idx {c : CallK} (h : ∀ vs H τ q, c f_stringslite_IndexByte vs H τ q = effK (idxP vs H τ) q) (s : Bs) (x : UInt8) (H : Heap) (τ : Tape) (q : KV) : c f_stringslite_IndexByte [.str s, .int .u8 (x.toNat : Int)] H τ q = q (.int .i64 (idxB x.toNat s 0)) H τ := by
 have e4 : x.toNat % 256 = x.toNat := Nat.mod_eq_of_lt (u8_lt x)
 rw [h]
 show effK (idxP [.str s, .int .u8 (.ofNat x.toNat)] H τ) q = _
 simp only [idxP, e4, effK_n]
end Go.Am.X

namespace Go.Am.X
abbrev NamP (c : CallK) : Prop := ∀ vs H τ q, c f_cors_names vs H τ q = effK (namesP vs H τ) q
end Go.Am.X

namespace Go.Am.X
theorem k_srtL {c : CallK} (h : IsP c f_ref1_Sorted (RSs SrtPre SrtG)) {ss : List Bs} (hl : ss.length < 1000000) {lv : V} {H : Heap} (hw : WF H) (hr : RdS H lv ss) (τ : Tape) :
  ∃ v' H' τ', LsS H' H.size v' (srtT ss) ∧ Gr H.size H H' ∧ ∀ q, c f_ref1_Sorted [lv] H τ q = q v' H' τ' := by
 by_cases h0 : (srtT ss).length = 0
 ·have hR : RSs SrtPre SrtG [lv] H (.val .nils) := ⟨lv, [], ss, rfl, hr, hl, (if_pos h0).symm⟩
  have e := List.eq_nil_of_length_eq_zero h0
  exact ⟨.nils, H, τ, by rw [e]; exact LsS.nil _ _, Gr.refl hw, fun q => outK_val h (RSs_fun _ _) hR τ q⟩
 ·have hR : RSs SrtPre SrtG [lv] H (.lst 1 (srtT ss).length ((srtT ss).map V.str) (fun v => v)) := ⟨lv, [], ss, rfl, hr, hl, (if_neg h0).symm⟩
  obtain ⟨v', H', τ', h1, _, h2, h3⟩ := outK_lst h (RSs_fun _ _) hR hw (by simp) τ
  exact ⟨v', H', τ', ⟨h1, fun e => absurd (by rw [e]; rfl) h0⟩, h2, h3⟩
theorem ownB {P : Nat → Prop} {H : Heap} {B z : Nat} {v : V} {n : Nat} {cs : List V} (h : OwnP P H z v n cs) (hP : ∀ i, P i → B ≤ i) : Own H B z v n cs := by
 rcases h with h | ⟨id, e, room, fam, ver, pl, st, fr, h1, h2, h3, h4, h5, h6, h7⟩
 ·exact .inl h
 ·exact .inr ⟨id, e, room, fam, ver, pl, st, fr, h1, h2, h3, h4, hP _ h5, hP _ h6, h7⟩
structure Two (B : Nat) (H : Heap) (u v : V) (a b : List Bs) (P Q : Nat → Prop) : Prop where
 wf : WF H
 le : B ≤ H.size
 u : OwnP P H 1 u a.length (a.map V.str)
 v : OwnP Q H 1 v b.length (b.map V.str)
 p : ∀ x, P x → B ≤ x ∧ x < H.size
 q : ∀ x, Q x → B ≤ x ∧ x < H.size
 d : ∀ x, P x → Q x → False
theorem Two.symm {B : Nat} {H : Heap} {u v : V} {a b : List Bs} {P Q : Nat → Prop} (h : Two B H u v a b P Q) : Two B H v u b a Q P := ⟨h.wf, h.le, h.v, h.u, h.q, h.p, fun x h1 h2 => h.d x h2 h1⟩
theorem Two.gr {B : Nat} {H H' : Heap} {u v : V} {a b : List Bs} {P Q : Nat → Prop} (h : Two B H u v a b P Q) (g : Gr H.size H H') : Two B H' u v a b P Q :=
 ⟨g.wf, Nat.le_trans h.le g.size, h.u.chg h.wf (g.chg (P := fun _ => False)) fun _ _ _ => not_false, h.v.chg h.wf (g.chg (P := fun _ => False)) fun _ _ _ => not_false, fun x hx => by have := h.p x hx; have := g.size; omega, fun x hx => by have := h.q x hx; have := g.size; omega, h.d⟩
theorem Two.put {B : Nat} {H : Heap} {u v : V} {a b : List Bs} {P Q : Nat → Prop} (h : Two B H u v a b P Q) (x : Bs) (ha : a.length ≤ 100000) (τ : Tape) :
  ∃ w H1 u' H' P', eBuildSlice 1 1 [(.str [])] [(0, 1)] [.str x] H τ = some (w, H1, τ) ∧ eAppend 1 16 [u, w] H1 τ = some (u', H', τ.tail) ∧ Two B H' u' v (a ++ [x]) b P' Q ∧ Gr B H H' := by
 obtain ⟨w, H1, u', H', r1, r2, r3, r4, _, g3, r5⟩ := h.u.push (bytes := 16) h.wf (.str x) (.str []) rfl rfl (by omega) (by omega) τ
 have z4 := r4.size
 refine ⟨w, H1, u', H', fun i => ((i < H.size ∧ P i) ∨ H.size ≤ i) ∧ i < H'.size, r1, r2, ⟨r4.wf, Nat.le_trans h.le z4, ?_, h.v.chg h.wf r4 fun i _ hq hp => h.d i hp hq, fun i hi => ?_, fun i hi => by have := h.q i hi; omega, fun i hi hq => ?_⟩, r4.gr h.le fun i hi hp => by have := h.p i hp; omega⟩
 ·have r3' := r3.weaken (Q := fun i => ((i < H.size ∧ P i) ∨ H.size ≤ i) ∧ i < H'.size) r4.wf fun i hi hu => ⟨hu, hi⟩
  simpa using r3'
 ·obtain ⟨hi | hi, hl⟩ := hi
  ·have := h.p i hi.2; omega
  ·have := h.le; omega
 ·obtain ⟨hi | hi, _⟩ := hi
  ·exact h.d i hi.2 hq
  ·have := h.q i hq; omega
theorem Two.rdS {B : Nat} {H : Heap} {u v : V} {a b : List Bs} {P Q : Nat → Prop} (h : Two B H u v a b P Q) : RdS H u a := ⟨h.u.rd, (ownB (B := B) h.u fun i hi => (h.p i hi).1).src⟩
end Go.Am.X

namespace Go.Am.X
end Go.Am.X

namespace Go.Am.X
theorem splitF_mem : ∀ (n : Nat) (s : Bs), s.length ≤ n → ∀ (q : Bool) (cur : Bs), (∀ p ∈ (splitF q cur s).1, p.length ≤ cur.length + s.length) ∧ (splitF q cur s).2.length ≤ cur.length + s.length := by
 intro n
 induction n with
 | zero =>
  intro s hn q cur
  obtain rfl := List.eq_nil_of_length_eq_zero (by omega : s.length = 0)
  simp [splitF]
 | succ n ih =>
  intro s hn q cur
  cases s with
  | nil => simp [splitF]
  | cons x r =>
   have hr : r.length ≤ n := by simp at hn; omega
   have up : ∀ (q' : Bool) (cur' r' : Bs), r'.length ≤ n → cur'.length + r'.length ≤ cur.length + (x :: r).length → splitF q cur (x :: r) = splitF q' cur' r' → (∀ p ∈ (splitF q cur (x :: r)).1, p.length ≤ cur.length + (x :: r).length) ∧ (splitF q cur (x :: r)).2.length ≤ cur.length + (x :: r).length := by
    intro q' cur' r' h1 h2 h3
    rw [h3]
    obtain ⟨a, b⟩ := ih r' h1 q' cur'
    exact ⟨fun p hp => by have := a p hp; omega, by omega⟩
   by_cases c34 : x = 34
   ·exact up (!q) (cur ++ [x]) r hr (by simp; omega) (splitF_quote q cur r c34)
   ·cases q with
    | true =>
     by_cases c92 : x = 92
     ·cases r with
      | nil => rw [splitF_end cur c34 c92]; simp
      | cons y r' => exact up true (cur ++ [x, y]) r' (by simp at hr; omega) (by simp; omega) (splitF_esc cur y r' c34 c92)
     ·exact up true (cur ++ [x]) r hr (by simp; omega) (splitF_in cur r c34 c92)
    | false =>
     by_cases c44 : x = 44
     ·rw [splitF_comma cur r c34 c44]
      obtain ⟨a, b⟩ := ih r hr false []
      refine ⟨fun p hp => ?_, by simp at b ⊢; omega⟩
      rcases List.mem_cons.1 hp with e | e
      ·rw [e]; omega
      ·have := a p e; simp at this ⊢; omega
     ·exact up false (cur ++ [x]) r hr (by simp; omega) (splitF_out cur r c34 c44)
theorem piece_len {s p : Bs} (h : p ∈ piecesB s) : p.length ≤ s.length := by
 unfold piecesB at h
 obtain ⟨y, hy, rfl⟩ := List.mem_map.1 h
 obtain ⟨a, b⟩ := splitF_mem s.length s (Nat.le_refl _) false []
 have := trimB_length tight y
 rcases List.mem_append.1 hy with e | e
 ·have := a y e; simp at this; omega
 ·rw [List.mem_singleton] at e; subst e; simp at b; omega
end Go.Am.X

namespace Go.Am.X
end Go.Am.X

namespace Go.Am.X
end Go.Am.X

namespace Go.Am.X
theorem l_slices_Index_string (c : CallK) (N : Nat) (lv : V) (ss : List Bs) (x : Bs) (hl : ss.length < 1000000000) (H : Heap) (hr : Rd H 1 lv ss.length (ss.map V.str)) : ∀ (l pre : List Bs) (τ : Tape) (m : Nat), ss = pre ++ l → l.length < m →
  ∃ j : Nat, ∀ (fr : T V) k, fr.get 0 = some lv → fr.get 1 = some (.str x) → fr.get 7 = some (.int .i64 (ss.length : Int)) → fr.get 8 = some (.int .i64 (pre.length : Int)) →
   loopK (s_slices_Index_string_l1 c N) m ⟨fr, H⟩ τ k = bif l.contains x then k .ret ⟨(T.set .leaf 4 (.int .i64 (j : Int))), H⟩ τ else k (.exit 0) ⟨.leaf, H⟩ τ := by
 intro l
 induction l with
 | nil =>
  intro pre τ m he hm
  obtain ⟨m, rfl⟩ : ∃ j, m = j + 1 := ⟨m - 1, by omega⟩
  have e1 : decide (pre.length < ss.length) = false := decide_eq_false (by rw [he]; simp)
  refine ⟨0, fun fr k f0 f1 f7 f8 => ?_⟩
  rw [loopK_succ]
  simp only [s_slices_Index_string_l1, getK_mk f0, getK_mk f1, getK_mk f7, getK_mk f8, getK_set, ↓reduceIte, Nat.reduceEqDiff, someK_n, effK_n, retK, gK_do, gK_do', gK_skip, gK_skip', gK_none, pick_mk, cond_true, cond_false, condK_tn, condK_fn, bin_eql, bin_neq, bin_lss, bin_leq, bin_gtr, bin_geq, un_not, Bool.not_true, Bool.not_false, bin_str, lenS_mk, nle_l, nle_r, nle_n, nlt_l, nlt_r, nlt_n, neq_r, neq_n, nne_r, nne_n, ext0, ext1, ext30, ext31, ext32, bin_add, bin_sub, decide_true, decide_false, e1]
  rfl
 | cons y l ih =>
  intro pre τ m he hm
  obtain ⟨m, rfl⟩ : ∃ j, m = j + 1 := ⟨m - 1, by omega⟩
  have hlt : pre.length < ss.length := by rw [he]; simp
  have e1 : decide (pre.length < ss.length) = true := decide_eq_true hlt
  have e3 : wr .i64 ((pre.length : Int) + Int.ofNat 1) = ((pre ++ [y]).length : Int) := by rw [adI (by omega)]; simp
  obtain ⟨p, p1, p2⟩ := hr.elem1 (i := pre.length) (x := .str y) (by rw [he]; simp)
  have ec : (y :: l).contains x = ((x == y) || l.contains x) := List.contains_cons
  rw [ec]
  cases hb : (x == y) with
  | true =>
   refine ⟨pre.length, fun fr k f0 f1 f7 f8 => ?_⟩
   rw [loopK_succ]
   simp only [s_slices_Index_string_l1, getK_mk f0, getK_mk f1, getK_mk f7, getK_mk f8, getK_set, ↓reduceIte, Nat.reduceEqDiff, someK_n, effK_n, retK, gK_do, gK_do', gK_skip, gK_skip', gK_none, pick_mk, cond_true, cond_false, condK_tn, condK_fn, bin_eql, bin_neq, bin_lss, bin_leq, bin_gtr, bin_geq, un_not, Bool.not_true, Bool.not_false, bin_str, lenS_mk, nle_l, nle_r, nle_n, nlt_l, nlt_r, nlt_n, neq_r, neq_n, nne_r, nne_n, ext0, ext1, ext30, ext31, ext32, bin_add, bin_sub, decide_true, decide_false, e1, p1, p2, str_eql, hb, Bool.true_or]
   rfl
  | false =>
   obtain ⟨j, i1⟩ := ih (pre ++ [y]) τ m (by rw [he]; simp) (by simp at hm; omega)
   refine ⟨j, fun fr k f0 f1 f7 f8 => ?_⟩
   rw [loopK_succ]
   simp only [s_slices_Index_string_l1, getK_mk f0, getK_mk f1, getK_mk f7, getK_mk f8, getK_set, ↓reduceIte, Nat.reduceEqDiff, someK_n, effK_n, retK, gK_do, gK_do', gK_skip, gK_skip', gK_none, pick_mk, cond_true, cond_false, condK_tn, condK_fn, bin_eql, bin_neq, bin_lss, bin_leq, bin_gtr, bin_geq, un_not, Bool.not_true, Bool.not_false, bin_str, lenS_mk, nle_l, nle_r, nle_n, nlt_l, nlt_r, nlt_n, neq_r, neq_n, nne_r, nne_n, ext0, ext1, ext30, ext31, ext32, bin_add, bin_sub, decide_true, decide_false, e1, p1, p2, str_eql, hb, Bool.false_or, e3]
   exact i1 _ k (by simp [T.get_set]) (by simp [T.get_set]) (by simp [T.get_set]) (by simp [T.get_set])
theorem s_slices_Index_string_ret (c : CallK) {N : Nat} (hN : 9223372036854775807 < N) (lv : V) (ss : List Bs) (x : Bs) (hl : ss.length < 1000000000) (H : Heap) (hr : Rd H 1 lv ss.length (ss.map V.str)) (τ : Tape) :
  ∃ n : Int, decide (0 ≤ n) = ss.contains x ∧ ∀ q, s_slices_Index_string c N lv (.str x) H τ q = q (.int .i64 n) H τ := by
 obtain ⟨j, i1⟩ := l_slices_Index_string c N lv ss x hl H hr ss [] τ N rfl (by omega)
 have pl := hr.pLen
 cases hb : ss.contains x with
 | true =>
  rw [hb] at i1
  refine ⟨j, decide_eq_true (by omega), fun q => ?_⟩
  simp only [s_slices_Index_string, pl, someK_n]
  rw [i1 _ _ (by simp [T.get_set]) (by simp [T.get_set]) (by simp [T.get_set]) (by simp [T.get_set])]
  simp only [cond_true, blockK, seqK, endK]
  rfl
 | false =>
  rw [hb] at i1
  refine ⟨-1, rfl, fun q => ?_⟩
  simp only [s_slices_Index_string, pl, someK_n]
  rw [i1 _ _ (by simp [T.get_set]) (by simp [T.get_set]) (by simp [T.get_set]) (by simp [T.get_set])]
  simp only [cond_false, blockK, Nat.beq_refl, cond_true, seqK, s_slices_Index_string_j0]
  rfl
theorem s_slices_Contains_string_ret (c : CallK) (N : Nat) (lv : V) (ss : List Bs) (x : Bs) (H : Heap) (τ : Tape) (h : ∃ n : Int, decide (0 ≤ n) = ss.contains x ∧ ∀ q, c f_slices_Index_string [lv, .str x] H τ q = q (.int .i64 n) H τ) (q : KV) :
  s_slices_Contains_string c N lv (.str x) H τ q = q (.bool (ss.contains x)) H τ := by
 obtain ⟨n, h1, h2⟩ := h
 have z0 : decide (Int.ofNat 0 ≤ n) = decide (0 ≤ n) := rfl
 simp only [s_slices_Contains_string, h2, bin_geq, z0, h1]
end Go.Am.X

