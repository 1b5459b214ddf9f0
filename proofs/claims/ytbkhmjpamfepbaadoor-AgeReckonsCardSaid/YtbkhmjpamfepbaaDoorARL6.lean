/- The abstract machine, printed functions of the program, and what they are shown to be. -/
import Derived.Test.YtbkhmjpamfepbaaDoorARL5
namespace Go.Am.X
set_option linter.unusedSimpArgs false
set_option linter.unusedVariables false
set_option linter.unusedSectionVars false
set_option maxRecDepth 100000
theorem partV_piece (s : Bs) : ∃ (a b : Bs) (d : Bool), partV 61 s = .tup [.str a, .str b, .bool d] ∧ pieceT s = (lower (strip a), unq (strip b)) ∧ a.length ≤ s.length ∧ b.length ≤ s.length ∧ (d = false → (intB (unq (strip b))).2 = false) := by
  unfold partV pieceT
  cases h : cutB 61 s with
  | none => exact ⟨s, [], false, rfl, rfl, Nat.le_refl _, by simp, fun _ => rfl⟩
  | some ab =>
    obtain ⟨a, b⟩ := ab
    have := cutB_len 61 s a b h
    exact ⟨a, b, true, rfl, rfl, by omega, by omega, fun h => by cases h⟩
abbrev nsT : Bs := [110, 111, 45, 115, 116, 111, 114, 101]
abbrev ncT : Bs := [110, 111, 45, 99, 97, 99, 104, 101]
abbrev maT : Bs := [109, 97, 120, 45, 97, 103, 101]
/-- one piece, behind its parting -/
theorem j_ref16_Parse (c : CallK) (N : Nat) (hS : RStripOk c) (hL : RLowOk c) (hI : RIntOk c) (a u : Bs) (d : Bool) (st : Ctl) (ha : a.length ≤ 100000000) (hu : u.length ≤ 100000000) (hd : d = false → (intB u).2 = false) {B iA iC Bp i : Nat} {cA : List V} {pv : V} {cs : List V} {n : Nat} (hBA : B ≤ iC) (hAC : iA < iC) (hCB : iC < Bp) (hi : i < 1000000000) (H : Heap) (τ : Tape) (hw : WF H) (hA : Bx H iA cA) (hC : Bx H iC (ctlC st)) (ho : Own H Bp 1 pv n cs) :
    ∃ H2, Gr B H H2 ∧ Bx H2 iA cA ∧ Bx H2 iC (ctlC (ctlStep st (lower (strip a), u))) ∧ Own H2 Bp 1 pv n cs ∧ H2.size = H.size ∧ ∀ (fr : T V) k, fr.get 2 = some (.ptr iA 0) → fr.get 3 = some (.ptr iC 0) → fr.get 4 = some pv → fr.get 6 = some (.int .i64 (i : Int)) → fr.get 7 = some (.str a) → fr.get 8 = some (.str u) → fr.get 9 = some (.bool d) →
      s_ref16_Parse_j3 c N k ⟨fr, H⟩ τ = k .normal ⟨(T.set (T.set (T.set (T.set (T.set (T.set (T.set .leaf 2 (.ptr iA 0)) 3 (.ptr iC 0)) 4 pv) 6 (.int .i64 (i : Int))) 22 (.int .i64 (i : Int))) 23 (.int .i64 ((i + 1 : Nat) : Int))) 6 (.int .i64 ((i + 1 : Nat) : Int))), H2⟩ τ := by
  have ks := hS a (by omega)
  have hl := strip_len a
  have kl := hL (strip a) (by omega)
  have ki := hI u (by omega)
  generalize lower (strip a) = w at kl ⊢
  have e1 : bs [110, 111, 45, 115, 116, 111, 114, 101] = nsT := rfl
  have e2 : bs [110, 111, 45, 99, 97, 99, 104, 101] = ncT := rfl
  have e3 : bs [109, 97, 120, 45, 97, 103, 101] = maT := rfl
  have e9 : wr .i64 ((i : Int) + Int.ofNat 1) = ((i + 1 : Nat) : Int) := adI (by omega)
  have pf0 : pFieldAddr 0 [.ptr iC 0] = some (.ptr iC 0) := rfl
  have pf1 : pFieldAddr 1 [.ptr iC 0] = some (.ptr iC 1) := rfl
  have pf2 : pFieldAddr 2 [.ptr iC 0] = some (.ptr iC 2) := rfl
  by_cases c1 : w = nsT
  · have b1 : (w == nsT) = true := beq_iff_eq.2 c1
    obtain ⟨H2, m1, m2, m3⟩ := hC.eStore hw 0 (.bool true) 1 rfl (by simp [ctlC]) (by omega) rfl τ
    have es : ctlStep st (w, u) = (true, st.2.1, st.2.2) := by unfold ctlStep; rw [if_pos c1]
    refine ⟨H2, m3.gr hBA, hA.only m3 (by omega), by rw [es]; exact m2, ho.only m3 hCB, m3.size, fun fr k f2 f3 f4 f6 f7 f8 f9 => ?_⟩
    simp only [s_ref16_Parse_j3, getK_mk f2, getK_mk f3, getK_mk f4, getK_mk f6, getK_mk f7, getK_mk f8, getK_mk f9, ks, kl, getK_set, ↓reduceIte, Nat.reduceEqDiff, someK_n, effK_n, retK, gK_do, gK_do', gK_skip, gK_skip', gK_none, pick_mk, cond_true, cond_false, condK_tn, condK_fn, bin_eql, bin_neq, bin_lss, bin_leq, bin_gtr, bin_geq, un_not, Bool.not_true, Bool.not_false, bin_str, lenS_mk, nle_l, nle_r, nle_n, nlt_l, nlt_r, nlt_n, neq_r, neq_n, nne_r, nne_n, ext0, ext1, ext30, ext31, ext32, bin_add, bin_sub, decide_true, decide_false, e1, str_eql, b1, pf0, m1, s_ref16_Parse_j2, e9]
  · have b1 : (w == nsT) = false := beq_eq_false_iff_ne.2 c1
    by_cases c2 : w = ncT
    · have b2 : (w == ncT) = true := beq_iff_eq.2 c2
      obtain ⟨H2, m1, m2, m3⟩ := hC.eStore hw 1 (.bool true) 1 rfl (by simp [ctlC]) (by omega) rfl τ
      have es : ctlStep st (w, u) = (st.1, true, st.2.2) := by unfold ctlStep; rw [if_neg c1, if_pos c2]
      refine ⟨H2, m3.gr hBA, hA.only m3 (by omega), by rw [es]; exact m2, ho.only m3 hCB, m3.size, fun fr k f2 f3 f4 f6 f7 f8 f9 => ?_⟩
      simp only [s_ref16_Parse_j3, getK_mk f2, getK_mk f3, getK_mk f4, getK_mk f6, getK_mk f7, getK_mk f8, getK_mk f9, ks, kl, getK_set, ↓reduceIte, Nat.reduceEqDiff, someK_n, effK_n, retK, gK_do, gK_do', gK_skip, gK_skip', gK_none, pick_mk, cond_true, cond_false, condK_tn, condK_fn, bin_eql, bin_neq, bin_lss, bin_leq, bin_gtr, bin_geq, un_not, Bool.not_true, Bool.not_false, bin_str, lenS_mk, nle_l, nle_r, nle_n, nlt_l, nlt_r, nlt_n, neq_r, neq_n, nne_r, nne_n, ext0, ext1, ext30, ext31, ext32, bin_add, bin_sub, decide_true, decide_false, e1, e2, str_eql, b1, b2, pf1, m1, s_ref16_Parse_j2, e9]
    · have b2 : (w == ncT) = false := beq_eq_false_iff_ne.2 c2
      by_cases c3 : w = maT
      · have b3 : (w == maT) = true := beq_iff_eq.2 c3
        have l2 : lLoad1 [.ptr iC 2] H = some (.int .i64 st.2.2) := load_cell hC.cells rfl
        have z0 : decide (st.2.2 < Int.ofNat 0) = decide (st.2.2 < 0) := rfl
        unfold intV at ki
        by_cases c4 : (intB u).2 = true ∧ st.2.2 < 0
        · obtain ⟨H2, m1, m2, m3⟩ := hC.eStore hw 2 (.int .i64 (intB u).1) 1 rfl (by simp [ctlC]) (by omega) rfl τ
          have es : ctlStep st (w, u) = (st.1, st.2.1, (intB u).1) := by unfold ctlStep; rw [if_neg c1, if_neg c2, if_pos c3, if_pos c4]
          have ed : d = true := by cases d with
            | true => rfl
            | false => rw [hd rfl] at c4; cases c4.1
          refine ⟨H2, m3.gr hBA, hA.only m3 (by omega), by rw [es]; exact m2, ho.only m3 hCB, m3.size, fun fr k f2 f3 f4 f6 f7 f8 f9 => ?_⟩
          rw [ed] at f9
          simp only [s_ref16_Parse_j3, getK_mk f2, getK_mk f3, getK_mk f4, getK_mk f6, getK_mk f7, getK_mk f8, getK_mk f9, ks, kl, getK_set, ↓reduceIte, Nat.reduceEqDiff, someK_n, effK_n, retK, gK_do, gK_do', gK_skip, gK_skip', gK_none, pick_mk, cond_true, cond_false, condK_tn, condK_fn, bin_eql, bin_neq, bin_lss, bin_leq, bin_gtr, bin_geq, un_not, Bool.not_true, Bool.not_false, bin_str, lenS_mk, nle_l, nle_r, nle_n, nlt_l, nlt_r, nlt_n, neq_r, neq_n, nne_r, nne_n, ext0, ext1, ext30, ext31, ext32, bin_add, bin_sub, decide_true, decide_false, e1, e2, e3, str_eql, b1, b2, b3, ki, c4.1, pf2, l2, z0, decide_eq_true c4.2, m1, s_ref16_Parse_j2, e9]
        · have es : ctlStep st (w, u) = st := by unfold ctlStep; rw [if_neg c1, if_neg c2, if_pos c3, if_neg c4]
          refine ⟨H, Gr.refl hw, hA, by rw [es]; exact hC, ho, rfl, fun fr k f2 f3 f4 f6 f7 f8 f9 => ?_⟩
          cases d with
          | false => simp only [s_ref16_Parse_j3, getK_mk f2, getK_mk f3, getK_mk f4, getK_mk f6, getK_mk f7, getK_mk f8, getK_mk f9, ks, kl, getK_set, ↓reduceIte, Nat.reduceEqDiff, someK_n, effK_n, retK, gK_do, gK_do', gK_skip, gK_skip', gK_none, pick_mk, cond_true, cond_false, condK_tn, condK_fn, bin_eql, bin_neq, bin_lss, bin_leq, bin_gtr, bin_geq, un_not, Bool.not_true, Bool.not_false, bin_str, lenS_mk, nle_l, nle_r, nle_n, nlt_l, nlt_r, nlt_n, neq_r, neq_n, nne_r, nne_n, ext0, ext1, ext30, ext31, ext32, bin_add, bin_sub, decide_true, decide_false, e1, e2, e3, str_eql, b1, b2, b3, ki, s_ref16_Parse_j2, e9]
          | true =>
            cases hb : (intB u).2 with
            | false => simp only [s_ref16_Parse_j3, getK_mk f2, getK_mk f3, getK_mk f4, getK_mk f6, getK_mk f7, getK_mk f8, getK_mk f9, ks, kl, getK_set, ↓reduceIte, Nat.reduceEqDiff, someK_n, effK_n, retK, gK_do, gK_do', gK_skip, gK_skip', gK_none, pick_mk, cond_true, cond_false, condK_tn, condK_fn, bin_eql, bin_neq, bin_lss, bin_leq, bin_gtr, bin_geq, un_not, Bool.not_true, Bool.not_false, bin_str, lenS_mk, nle_l, nle_r, nle_n, nlt_l, nlt_r, nlt_n, neq_r, neq_n, nne_r, nne_n, ext0, ext1, ext30, ext31, ext32, bin_add, bin_sub, decide_true, decide_false, e1, e2, e3, str_eql, b1, b2, b3, ki, hb, s_ref16_Parse_j2, e9]
            | true =>
              have hlt : ¬ st.2.2 < 0 := fun h => c4 ⟨hb, h⟩
              simp only [s_ref16_Parse_j3, getK_mk f2, getK_mk f3, getK_mk f4, getK_mk f6, getK_mk f7, getK_mk f8, getK_mk f9, ks, kl, getK_set, ↓reduceIte, Nat.reduceEqDiff, someK_n, effK_n, retK, gK_do, gK_do', gK_skip, gK_skip', gK_none, pick_mk, cond_true, cond_false, condK_tn, condK_fn, bin_eql, bin_neq, bin_lss, bin_leq, bin_gtr, bin_geq, un_not, Bool.not_true, Bool.not_false, bin_str, lenS_mk, nle_l, nle_r, nle_n, nlt_l, nlt_r, nlt_n, neq_r, neq_n, nne_r, nne_n, ext0, ext1, ext30, ext31, ext32, bin_add, bin_sub, decide_true, decide_false, e1, e2, e3, str_eql, b1, b2, b3, ki, hb, pf2, l2, z0, decide_eq_false hlt, s_ref16_Parse_j2, e9]
      · have b3 : (w == maT) = false := beq_eq_false_iff_ne.2 c3
        have es : ctlStep st (w, u) = st := by unfold ctlStep; rw [if_neg c1, if_neg c2, if_neg c3]
        refine ⟨H, Gr.refl hw, hA, by rw [es]; exact hC, ho, rfl, fun fr k f2 f3 f4 f6 f7 f8 f9 => ?_⟩
        simp only [s_ref16_Parse_j3, getK_mk f2, getK_mk f3, getK_mk f4, getK_mk f6, getK_mk f7, getK_mk f8, getK_mk f9, ks, kl, getK_set, ↓reduceIte, Nat.reduceEqDiff, someK_n, effK_n, retK, gK_do, gK_do', gK_skip, gK_skip', gK_none, pick_mk, cond_true, cond_false, condK_tn, condK_fn, bin_eql, bin_neq, bin_lss, bin_leq, bin_gtr, bin_geq, un_not, Bool.not_true, Bool.not_false, bin_str, lenS_mk, nle_l, nle_r, nle_n, nlt_l, nlt_r, nlt_n, neq_r, neq_n, nne_r, nne_n, ext0, ext1, ext30, ext31, ext32, bin_add, bin_sub, decide_true, decide_false, e1, e2, e3, str_eql, b1, b2, b3, s_ref16_Parse_j2, e9]
theorem l_ref16_Parse (c : CallK) (N : Nat) (hP : PartOk c) (hS : RStripOk c) (hL : RLowOk c) (hI : RIntOk c) {B iA iC Bp : Nat} {cA : List V} {pv : V} (ps : List Bs) (hmb : ps.length < 1000000000) (hsz : ∀ s ∈ ps, s.length ≤ 100000000) (hBA : B ≤ iC) (hAC : iA < iC) (hCB : iC < Bp) :
    ∀ (l pre : List Bs) (st : Ctl) (H : Heap) (τ : Tape) (m : Nat), ps = pre ++ l → l.length < m → WF H → Bx H iA cA → Bx H iC (ctlC st) → Own H Bp 1 pv ps.length (ps.map V.str) →
    ∃ H', Gr B H H' ∧ Bx H' iA cA ∧ Bx H' iC (ctlC (l.foldl (fun st s => ctlStep st (pieceT s)) st)) ∧ ∀ (fr : T V) k, fr.get 2 = some (.ptr iA 0) → fr.get 3 = some (.ptr iC 0) → fr.get 4 = some pv → fr.get 6 = some (.int .i64 (pre.length : Int)) →
      loopK (s_ref16_Parse_l1 c N) m ⟨fr, H⟩ τ k = k (.exit 0) ⟨(T.set (T.set .leaf 2 (.ptr iA 0)) 3 (.ptr iC 0)), H'⟩ τ := by
  intro l
  induction l with
  | nil =>
    intro pre st H τ m he hm hw hA hC ho
    obtain ⟨m, rfl⟩ : ∃ j, m = j + 1 := ⟨m - 1, by omega⟩
    have e1 : decide (pre.length < ps.length) = false := decide_eq_false (by rw [he]; simp)
    have pl := ho.rd.pLen
    refine ⟨H, Gr.refl hw, hA, hC, fun fr k f2 f3 f4 f6 => ?_⟩
    rw [loopK_succ]
    simp only [s_ref16_Parse_l1, getK_mk f2, getK_mk f3, getK_mk f4, getK_mk f6, pl, getK_set, ↓reduceIte, Nat.reduceEqDiff, someK_n, effK_n, retK, gK_do, gK_do', gK_skip, gK_skip', gK_none, pick_mk, cond_true, cond_false, condK_tn, condK_fn, bin_eql, bin_neq, bin_lss, bin_leq, bin_gtr, bin_geq, un_not, Bool.not_true, Bool.not_false, bin_str, lenS_mk, nle_l, nle_r, nle_n, nlt_l, nlt_r, nlt_n, neq_r, neq_n, nne_r, nne_n, ext0, ext1, ext30, ext31, ext32, bin_add, bin_sub, decide_true, decide_false, e1]
    rfl
  | cons s l ih =>
    intro pre st H τ m he hm hw hA hC ho
    obtain ⟨m, rfl⟩ : ∃ j, m = j + 1 := ⟨m - 1, by omega⟩
    have e1 : decide (pre.length < ps.length) = true := decide_eq_true (by rw [he]; simp)
    have hlt : pre.length < ps.length := of_decide_eq_true e1
    have pl := ho.rd.pLen
    obtain ⟨p, p1, p2⟩ := ho.rd.elem1 (i := pre.length) (x := .str s) (by rw [he]; simp)
    have hs := hsz s (by rw [he]; simp)
    obtain ⟨a, b, d, q1, q2, q3, q4, q5⟩ := partV_piece s
    have kp := hP s 61 (by omega) (by omega)
    have e61 : UInt8.ofNat 61 = 61 := rfl
    rw [e61, q1] at kp
    have hlb := strip_len b
    have ks := hS b (by omega)
    have hlu := unq_len (strip b)
    obtain ⟨H2, g2, a2, c2, o2, z2, k2⟩ := j_ref16_Parse c N hS hL hI a (unq (strip b)) d st (by omega) (by omega) q5 (i := pre.length) hBA hAC hCB (by omega) H τ hw hA hC ho
    rw [← q2] at c2
    obtain ⟨H', i1, i2, i3, i4⟩ := ih (pre ++ [s]) (ctlStep st (pieceT s)) H2 τ m (by rw [he]; simp) (by simp at hm; omega) g2.wf a2 c2 o2
    refine ⟨H', g2.trans i1 (Nat.le_refl _), i2, i3, fun fr k f2 f3 f4 f6 => ?_⟩
    have go : ∀ (fr' : T V), fr'.get 2 = some (.ptr iA 0) → fr'.get 3 = some (.ptr iC 0) → fr'.get 4 = some pv → fr'.get 6 = some (.int .i64 (pre.length : Int)) → fr'.get 7 = some (.str a) → fr'.get 8 = some (.str (unq (strip b))) → fr'.get 9 = some (.bool d) →
        s_ref16_Parse_j3 c N (seqK (fun st τ => loopK (s_ref16_Parse_l1 c N) m st τ k) k) ⟨fr', H⟩ τ = k (.exit 0) ⟨(T.set (T.set .leaf 2 (.ptr iA 0)) 3 (.ptr iC 0)), H'⟩ τ := by
      intro fr' g2 g3 g4 g6 g7 g8 g9
      rw [k2 fr' _ g2 g3 g4 g6 g7 g8 g9]
      simp only [seqK]
      exact i4 _ k (by simp [T.get_set]) (by simp [T.get_set]) (by simp [T.get_set]) (by simp [T.get_set])
    rw [loopK_succ]
    simp only [s_ref16_Parse_l1, getK_mk f2, getK_mk f3, getK_mk f4, getK_mk f6, pl, getK_set, ↓reduceIte, Nat.reduceEqDiff, someK_n, effK_n, retK, gK_do, gK_do', gK_skip, gK_skip', gK_none, pick_mk, cond_true, cond_false, condK_tn, condK_fn, bin_eql, bin_neq, bin_lss, bin_leq, bin_gtr, bin_geq, un_not, Bool.not_true, Bool.not_false, bin_str, lenS_mk, nle_l, nle_r, nle_n, nlt_l, nlt_r, nlt_n, neq_r, neq_n, nne_r, nne_n, ext0, ext1, ext30, ext31, ext32, bin_add, bin_sub, decide_true, decide_false, e1, p1, p2, kp, ks]
    by_cases h1 : 1 < (strip b).length
    · have e2 : decide (1 < (strip b).length) = true := decide_eq_true h1
      obtain ⟨x, hx⟩ : ∃ x, (strip b)[0]? = some x := ⟨(strip b)[0], List.getElem?_eq_getElem (by omega)⟩
      obtain ⟨y, hy⟩ : ∃ y, (strip b)[(strip b).length - 1]? = some y := ⟨(strip b)[(strip b).length - 1], List.getElem?_eq_getElem (by omega)⟩
      have e3 : pStrIndex [.str (strip b), .int .i64 (.ofNat 0)] = some (.int .u8 (x.toNat : Int)) := strIdx0 hx
      have e4 : wr .i64 (((strip b).length : Int) - Int.ofNat 1) = (((strip b).length - 1 : Nat) : Int) := sbI (by omega) (by omega)
      have e5 : pStrIndex [.str (strip b), .int .i64 (((strip b).length - 1 : Nat) : Int)] = some (.int .u8 (y.toNat : Int)) := strIndex_mk hy
      have e6 : pStrSlice true true [.str (strip b), .int .i64 (.ofNat 1), .int .i64 (((strip b).length - 1 : Nat) : Int)] = some (.str (((strip b).take ((strip b).length - 1)).drop 1)) := strSlice_lohi (i := 1) (by omega) (by omega)
      have d1 : decide (x.toNat = 34) = decide (x = 34) := by rw [decide_eq_decide, ← UInt8.toNat_inj]; rfl
      have d2 : decide (y.toNat = 34) = decide (y = 34) := by rw [decide_eq_decide, ← UInt8.toNat_inj]; rfl
      by_cases x34 : x = 34
      · by_cases y34 : y = 34
        · have hun : unq (strip b) = ((strip b).take ((strip b).length - 1)).drop 1 := by
            unfold unq; rw [if_pos ⟨h1, by rw [hx, x34], by rw [hy, y34]⟩]
          simp only [getK_set, ↓reduceIte, Nat.reduceEqDiff, someK_n, effK_n, retK, gK_do, gK_do', gK_skip, gK_skip', gK_none, pick_mk, cond_true, cond_false, condK_tn, condK_fn, bin_eql, bin_neq, bin_lss, bin_leq, bin_gtr, bin_geq, un_not, Bool.not_true, Bool.not_false, bin_str, lenS_mk, nle_l, nle_r, nle_n, nlt_l, nlt_r, nlt_n, neq_r, neq_n, nne_r, nne_n, ext0, ext1, ext30, ext31, ext32, bin_add, bin_sub, decide_true, decide_false, e2, e3, d1, decide_eq_true x34, e4, e5, d2, decide_eq_true y34, e6]
          exact go _ (by simp [T.get_set]) (by simp [T.get_set]) (by simp [T.get_set]) (by simp [T.get_set]) (by simp [T.get_set]) (by simp [T.get_set, hun]) (by simp [T.get_set])
        · have hun : unq (strip b) = strip b := by
            unfold unq; rw [if_neg fun h => by have := h.2.2; rw [hy] at this; exact y34 (Option.some.inj this)]
          simp only [getK_set, ↓reduceIte, Nat.reduceEqDiff, someK_n, effK_n, retK, gK_do, gK_do', gK_skip, gK_skip', gK_none, pick_mk, cond_true, cond_false, condK_tn, condK_fn, bin_eql, bin_neq, bin_lss, bin_leq, bin_gtr, bin_geq, un_not, Bool.not_true, Bool.not_false, bin_str, lenS_mk, nle_l, nle_r, nle_n, nlt_l, nlt_r, nlt_n, neq_r, neq_n, nne_r, nne_n, ext0, ext1, ext30, ext31, ext32, bin_add, bin_sub, decide_true, decide_false, e2, e3, d1, decide_eq_true x34, e4, e5, d2, decide_eq_false y34]
          exact go _ (by simp [T.get_set]) (by simp [T.get_set]) (by simp [T.get_set]) (by simp [T.get_set]) (by simp [T.get_set]) (by simp [T.get_set, hun]) (by simp [T.get_set])
      · have hun : unq (strip b) = strip b := by
          unfold unq; rw [if_neg fun h => by have := h.2.1; rw [hx] at this; exact x34 (Option.some.inj this)]
        simp only [getK_set, ↓reduceIte, Nat.reduceEqDiff, someK_n, effK_n, retK, gK_do, gK_do', gK_skip, gK_skip', gK_none, pick_mk, cond_true, cond_false, condK_tn, condK_fn, bin_eql, bin_neq, bin_lss, bin_leq, bin_gtr, bin_geq, un_not, Bool.not_true, Bool.not_false, bin_str, lenS_mk, nle_l, nle_r, nle_n, nlt_l, nlt_r, nlt_n, neq_r, neq_n, nne_r, nne_n, ext0, ext1, ext30, ext31, ext32, bin_add, bin_sub, decide_true, decide_false, e2, e3, d1, decide_eq_false x34]
        exact go _ (by simp [T.get_set]) (by simp [T.get_set]) (by simp [T.get_set]) (by simp [T.get_set]) (by simp [T.get_set]) (by simp [T.get_set, hun]) (by simp [T.get_set])
    · have e2 : decide (1 < (strip b).length) = false := decide_eq_false h1
      have hun : unq (strip b) = strip b := by unfold unq; rw [if_neg fun h => h1 h.1]
      simp only [getK_set, ↓reduceIte, Nat.reduceEqDiff, someK_n, effK_n, retK, gK_do, gK_do', gK_skip, gK_skip', gK_none, pick_mk, cond_true, cond_false, condK_tn, condK_fn, bin_eql, bin_neq, bin_lss, bin_leq, bin_gtr, bin_geq, un_not, Bool.not_true, Bool.not_false, bin_str, lenS_mk, nle_l, nle_r, nle_n, nlt_l, nlt_r, nlt_n, neq_r, neq_n, nne_r, nne_n, ext0, ext1, ext30, ext31, ext32, bin_add, bin_sub, decide_true, decide_false, e2]
      exact go _ (by simp [T.get_set]) (by simp [T.get_set]) (by simp [T.get_set]) (by simp [T.get_set]) (by simp [T.get_set]) (by simp [T.get_set, hun]) (by simp [T.get_set])
theorem s_ref16_Parse_ret (c : CallK) {N : Nat} (hN : 9223372036854775807 < N) (hSp : IsP c f_ref5_Split (RH GetPre SplitG)) (hP : PartOk c) (hS : RStripOk c) (hL : RLowOk c) (hI : RIntOk c) (hs : List Hd) (hsm : Small hs) (v : V) (H : Heap) (hw : WF H) (hr : RdH H v hs) (τ : Tape) :
    ∃ H' τ', Gr H.size H H' ∧ ∀ q, s_ref16_Parse c N v H τ q = q (.agg (ctlC (parseT hs))) H' τ' := by
  have hG1 := Gr.new hw [V.bool false, V.bool false, V.int .i64 0] 3 true
  have hA1 := Bx.new H [V.bool false, V.bool false, V.int .i64 0] 3 true (Nat.le_refl _)
  have e1 : eAlloc [(.bool false), (.bool false), (.int .i64 (.ofNat 0))] [] H τ = some (.ptr H.size 0, H.new [V.bool false, V.bool false, V.int .i64 0] 3 true, τ) := rfl
  have hs1 : (H.new [V.bool false, V.bool false, V.int .i64 0] 3 true).size = H.size + 1 := rfl
  generalize H.new [V.bool false, V.bool false, V.int .i64 0] 3 true = H1 at hG1 hA1 e1 hs1
  have hG2 := Gr.new hG1.wf [V.bool false, V.bool false, V.int .i64 0] 3 true
  have hC2 := Bx.new H1 [V.bool false, V.bool false, V.int .i64 0] 3 true (Nat.le_refl _)
  have hA2 := hA1.gr hG2 (hA1.lt hG1.wf)
  have e2 : eAlloc [(.bool false), (.bool false), (.int .i64 (.ofNat 0))] [] H1 τ = some (.ptr H1.size 0, H1.new [V.bool false, V.bool false, V.int .i64 0] 3 true, τ) := rfl
  generalize H1.new [V.bool false, V.bool false, V.int .i64 0] 3 true = H2 at hG2 hA2 hC2 e2
  obtain ⟨H3, m1, m2, m3⟩ := hC2.eStore hG2.wf 0 (.agg [.bool false, .bool false, .int .i64 (-1)]) 3 rfl (by simp) (by omega) rfl τ
  have m2 : Bx H3 H1.size (ctlC (false, false, -1)) := m2
  have hA3 := hA2.only m3 (by omega)
  have hG3 : Gr H.size H H3 := hG1.trans (hG2.trans (m3.gr (Nat.le_refl _)) (Nat.le_refl _)) (by omega)
  have hr3 := hr.gr hG3 hw (Nat.le_refl _)
  obtain ⟨v', H4, τ4, p1, p3, p4⟩ := k_Split hSp hsm (name := ccName) (by decide) m3.wf hr3 τ
  have hA4 := hA3.gr p3 (hA3.lt m3.wf)
  have hC4 := m2.gr p3 (m2.lt m3.wf)
  have hlt3 : H1.size < H3.size := m2.lt m3.wf
  obtain ⟨H5, r1, r2, r3, r4⟩ := l_ref16_Parse c N hP hS hL hI (B := H.size) (iA := H.size) (iC := H1.size) (Bp := H3.size) (splitT ccName hs) (by have := splitT_count (name := ccName) hsm; omega) (fun s h => by have := splitT_mem hsm h; omega) (by omega) (by omega) hlt3 (splitT ccName hs) [] (false, false, -1) H4 τ4 N rfl (by have := splitT_count (name := ccName) hsm; omega) p3.wf hA4 hC4 p1
  have r3 : Bx H5 H1.size (ctlC (parseT hs)) := r3
  obtain ⟨H6, u1, u2, u3⟩ := r2.eStore r1.wf 0 (.agg (ctlC (parseT hs))) 3 rfl (by simp) (by omega) rfl τ4
  have u2 : Bx H6 H.size (ctlC (parseT hs)) := u2
  refine ⟨H6, τ4, hG3.trans ((p3.weaken (by have := hG3.size; omega)).trans (r1.trans (u3.gr (Nat.le_refl _)) (Nat.le_refl _)) (Nat.le_refl _)) (Nat.le_refl _), fun q => ?_⟩
  have e3 : pBuild [(.bool false), (.bool false), (.int .i64 (.ofNat 0))] [(2, 1)] [(.int .i64 (.negSucc 0))] = some (.agg [.bool false, .bool false, .int .i64 (-1)]) := rfl
  have e4 : lLoadN 3 [.ptr H1.size 0] H5 = some (.agg (ctlC (parseT hs))) := by rw [load_cells r3.cells (by simp [ctlC])]; rfl
  have e5 : lLoadN 3 [.ptr H.size 0] H6 = some (.agg (ctlC (parseT hs))) := by rw [load_cells u2.cells (by simp [ctlC])]; rfl
  have ec : bs [99, 97, 99, 104, 101, 45, 99, 111, 110, 116, 114, 111, 108] = ccName := rfl
  simp only [s_ref16_Parse, e1, e2, e3, effK_n, someK_n, m1, ec, p4, ext0, ext1]
  rw [r4 _ _ (by simp [T.get_set]) (by simp [T.get_set]) (by simp [T.get_set]) (by simp [T.get_set])]
  simp only [blockK, Nat.beq_refl, cond_true, seqK, s_ref16_Parse_j0, getK_set, ↓reduceIte, Nat.reduceEqDiff, e4, someK_n, u1, effK_n]
  simp only [results, resAll, resOf, T.get_set_same, evalL, lLoad, e5, someK_n]
noncomputable abbrev rw_RParse : List Row := [Row.fn f_ref16_Parse fn_ref16_Parse e_ref16_Parse, Row.prim f_ref5_Split (outP (RH GetPre SplitG)), Row.prim f_ref1_Part (outP PartR), Row.prim f_ref1_Strip (outP RStripR), Row.prim f_ref1_Lower (outP LowR), Row.prim f_ref1_Int (outP IntR)]
theorem p_ref16_Parse : ∀ base w0, PrimOk PG base w0 f_ref16_Parse (outP (RH CtlPre CtlG)) := by
  obtain ⟨N, hN⟩ := someN
  refine primRH (N := N) (l := rw_RParse) (.fn ok_ref16_Parse e_ref16_Parse_ok (.prim p_ref5_Split (.prim p_ref1_Part (.prim p_ref1_Strip (.prim p_ref1_Lower (.prim p_ref1_Int (.nil _))))))) 2 _ (fun hs args hp lv H hw hr τ => ?_)
  unfold CtlPre at hp; split at hp
  · obtain ⟨H', τ', g, k⟩ := s_ref16_Parse_ret (CR rw_RParse N 1) hN (fun _ _ _ _ => rfl) (k_ref1_Part fun _ _ _ _ => rfl) (k_ref1_Strip fun _ _ _ _ => rfl) (k_ref1_Lower fun _ _ _ _ => rfl) (k_ref1_Int fun _ _ _ _ => rfl) hs hp lv H hw hr τ
    exact ⟨_, H', τ', g, ⟨rfl, ctl_vok _ _⟩, k⟩
  · exact hp.elim
theorem s_ref16_Fresh_ret (c : CallK) (N : Nat) (hP : IsP c f_ref16_Parse (RH CtlPre CtlG)) (hA : IsP c f_ref16_Age (RH AgePre AgeG)) (hs : List Hd) (hsm : Small hs) {a b : Int} (ha : InI a) (hb : InI b) (v : V) (H1 : Heap) (hw : WF H1) (hr : RdH H1 v hs) (τ1 : Tape) :
    ∃ H' τ', Gr H1.size H1 H' ∧ ∀ q, s_ref16_Fresh c N v (.int .i64 a) (.int .i64 b) H1 τ1 q = q (.bool (freshT hs a b)) H' τ' := by
  have k2 := fun q => k_Ctl hP hsm hr τ1 q
  have hG2 := Gr.new hw [V.bool false, V.bool false, V.int .i64 0] 3 true
  have hC2 := Bx.new H1 [V.bool false, V.bool false, V.int .i64 0] 3 true (Nat.le_refl _)
  have e1 : eAlloc [(.bool false), (.bool false), (.int .i64 (.ofNat 0))] [] H1 τ1 = some (.ptr H1.size 0, H1.new [V.bool false, V.bool false, V.int .i64 0] 3 true, τ1) := rfl
  generalize H1.new [V.bool false, V.bool false, V.int .i64 0] 3 true = H2 at hG2 hC2 e1
  obtain ⟨H3, m1, m2, m3⟩ := hC2.eStore hG2.wf 0 (.agg (ctlC (parseT hs))) 3 rfl (by simp) (by omega) rfl τ1
  have m2 : Bx H3 H1.size (ctlC (parseT hs)) := m2
  have hG3 : Gr H1.size H1 H3 := hG2.trans (m3.gr (Nat.le_refl _)) (Nat.le_refl _)
  have p2 := fun q => k_Age hA hsm ha hb (hr.gr hG3 hw (Nat.le_refl _)) τ1 q
  have pf1 : pFieldAddr 1 [.ptr H1.size 0] = some (.ptr H1.size 1) := rfl
  have pf2 : pFieldAddr 2 [.ptr H1.size 0] = some (.ptr H1.size 2) := rfl
  have e2 : lLoad1 [.ptr H1.size 1] H3 = some (.bool (parseT hs).2.1) := load_cell m2.cells rfl
  refine ⟨H3, τ1, hG3, fun q => ?_⟩
  cases hnc : (parseT hs).2.1 with
  | true =>
    have hf : freshT hs a b = false := by simp [freshT, hnc]
    rw [hnc] at e2
    simp only [s_ref16_Fresh, k2, e1, getK_set, ↓reduceIte, Nat.reduceEqDiff, someK_n, effK_n, retK, gK_do, gK_do', gK_skip, gK_skip', gK_none, pick_mk, cond_true, cond_false, condK_tn, condK_fn, bin_eql, bin_neq, bin_lss, bin_leq, bin_gtr, bin_geq, un_not, Bool.not_true, Bool.not_false, bin_str, lenS_mk, nle_l, nle_r, nle_n, nlt_l, nlt_r, nlt_n, neq_r, neq_n, nne_r, nne_n, ext0, ext1, ext30, ext31, ext32, bin_add, bin_sub, decide_true, decide_false, m1, pf1, e2, wantsV, hf]
    rfl
  | false =>
    have hf : freshT hs a b = decide (ageT hs a b < (parseT hs).2.2) := by simp [freshT, hnc]
    rw [hnc] at e2
    have e3 : lLoad1 [.ptr H1.size 2] H3 = some (.int .i64 (parseT hs).2.2) := load_cell m2.cells rfl
    have e5 : chkLoads [H3, H3] [((.load none), [.ptr H1.size 2], 0, 1)] = true := by
      simp [chkLoads, evalL, lLoad, e3, chk1, same, same1, same0]
    simp only [s_ref16_Fresh, k2, e1, getK_set, ↓reduceIte, Nat.reduceEqDiff, someK_n, effK_n, retK, gK_do, gK_do', gK_skip, gK_skip', gK_none, pick_mk, cond_true, cond_false, condK_tn, condK_fn, bin_eql, bin_neq, bin_lss, bin_leq, bin_gtr, bin_geq, un_not, Bool.not_true, Bool.not_false, bin_str, lenS_mk, nle_l, nle_r, nle_n, nlt_l, nlt_r, nlt_n, neq_r, neq_n, nne_r, nne_n, ext0, ext1, ext30, ext31, ext32, bin_add, bin_sub, decide_true, decide_false, m1, pf1, pf2, e2, e3, p2, wantsV, hf]
    rw [show (true == true) = true from rfl]
    simp only [e5, cond_true]
noncomputable abbrev rw_RFresh : List Row := [Row.fn f_ref16_Fresh fn_ref16_Fresh e_ref16_Fresh, Row.prim f_ref16_Parse (outP (RH CtlPre CtlG)), Row.prim f_ref16_Age (outP (RH AgePre AgeG))]
theorem p_ref16_Fresh : ∀ base w0, PrimOk PG base w0 f_ref16_Fresh (outP (RH AgePre FreshG)) := by
  obtain ⟨N, hN⟩ := someN
  refine primRH (N := N) (l := rw_RFresh) (.fn ok_ref16_Fresh e_ref16_Fresh_ok (.prim p_ref16_Parse (.prim p_ref16_Age (.nil _)))) 2 _ (fun hs args hp lv H hw hr τ => ?_)
  obtain ⟨a, b, rfl, ha, hb, hS⟩ := hp
  obtain ⟨H', τ', g, k⟩ := s_ref16_Fresh_ret (CR rw_RFresh N 1) N (fun _ _ _ _ => rfl) (fun _ _ _ _ => rfl) hs hS ha hb lv H hw hr τ
  exact ⟨_, H', τ', g, ⟨rfl, trivial⟩, k⟩
end Go.Am.X


namespace Go.Am.X
set_option linter.unusedSimpArgs false
set_option linter.unusedVariables false
set_option linter.unusedSectionVars false
set_option maxRecDepth 100000
theorem Own.compactF {H : Heap} {B : Nat} {v : V} {ss : List Bs} (h : Own H B 1 v ss.length (ss.map V.str)) (hw : WF H) (hl : ss.length < 4611686018427387904) (h0 : ss ≠ []) :
    ∃ v' H', (∀ τ, compactP [v] H τ = some (v', H', τ)) ∧ FreshL B H' 1 (compL ss).length ((compL ss).map V.str) v' ∧ Gr B H H' := by
  have hle := compL_le ss
  have hpos := List.length_pos_iff.2 h0
  obtain ⟨id, e, rfl⟩ := Own.form h hpos
  have hpl : ((compL ss ++ List.replicate (ss.length - (compL ss).length) []).map V.str).length = (ss.map V.str).length := by
    rw [List.length_map, List.length_map, List.length_append, List.length_replicate]; omega
  obtain ⟨H', s1, o1, g1⟩ := Own.stores h hw 0 ((compL ss ++ List.replicate (ss.length - (compL ss).length) []).map V.str) (by rw [hpl]; omega) (strs_scal _)
  have hld : H.loads id 0 ss.length = some (ss.map V.str) := by
    rw [loads_cells (Own.cellsQ h) (by simp), List.drop_zero]
    rw [show ss.length = (ss.map V.str).length by simp, List.take_length]
  rw [List.take_zero, List.nil_append, Nat.zero_add, hpl, List.drop_length, List.append_nil] at o1
  refine ⟨.sl id 0 (compL ss).length ss.length (some e) 1, H', fun τ => ?_, ?_, g1⟩
  · obtain ⟨m, hm⟩ : ∃ m, ss.length = m + 1 := ⟨ss.length - 1, by omega⟩
    have hb : Nat.ble ss.length 9223372036854775807 = true := Nat.ble_eq_true_of_le (by omega)
    rw [hm] at hb hld
    rw [hm]
    simp only [compactP, Nat.beq_refl, hb, Bool.and_self, cond_true, hld, strsOf_map, s1]
  · rcases o1 with ⟨h, _⟩ | ⟨id', e', room, fam, ver, pl, st, fr, q, h1, h2, h3, h4, h5, h7⟩
    · cases h
    · cases q
      refine ⟨id, 0, ss.length, some e, _, room, fam, ver, pl, st, fr, ver, rfl, h1, h2, h3, h5, ?_, by simp, .inl rfl⟩
      rw [List.drop_zero, Nat.mul_one, List.map_append]
      have : (compL ss).length = ((compL ss).map V.str).length := by simp
      rw [this, List.take_left]
theorem l_slices_Index_string (c : CallK) (N : Nat) (lv : V) (ss : List Bs) (x : Bs) (hl : ss.length < 1000000000) (H : Heap) (hr : Rd H 1 lv ss.length (ss.map V.str)) : ∀ (l pre : List Bs) (τ : Tape) (m : Nat), ss = pre ++ l → l.length < m →
    ∃ j : Nat, ∀ (fr : T V) k, fr.get 0 = some lv → fr.get 1 = some (.str x) → fr.get 7 = some (.int .i64 (ss.length : Int)) → fr.get 8 = some (.int .i64 (pre.length : Int)) →
      loopK (s_slices_Index_string_l1 c N) m ⟨fr, H⟩ τ k = bif l.contains x then k .ret ⟨(T.set .leaf 4 (.int .i64 (j : Int))), H⟩ τ else k (.exit 0) ⟨.leaf, H⟩ τ := by
  intro l
  induction l with
  | nil =>
    intro pre τ m he hm
    obtain ⟨m, rfl⟩ : ∃ j, m = j + 1 := ⟨m - 1, by omega⟩
    have e1 : decide (pre.length < ss.length) = false := decide_eq_false (by rw [he]; simp)
    refine ⟨0, fun fr k f0 f1 f7 f8 => ?_⟩
    rw [loopK_succ]
    simp only [s_slices_Index_string_l1, getK_mk f0, getK_mk f1, getK_mk f7, getK_mk f8, getK_set, ↓reduceIte, Nat.reduceEqDiff, someK_n, effK_n, retK, gK_do, gK_do', gK_skip, gK_skip', gK_none, pick_mk, cond_true, cond_false, condK_tn, condK_fn, bin_eql, bin_neq, bin_lss, bin_leq, bin_gtr, bin_geq, un_not, Bool.not_true, Bool.not_false, bin_str, lenS_mk, nle_l, nle_r, nle_n, nlt_l, nlt_r, nlt_n, neq_r, neq_n, nne_r, nne_n, ext0, ext1, ext30, ext31, ext32, bin_add, bin_sub, decide_true, decide_false, e1]
    rfl
  | cons y l ih =>
    intro pre τ m he hm
    obtain ⟨m, rfl⟩ : ∃ j, m = j + 1 := ⟨m - 1, by omega⟩
    have hlt : pre.length < ss.length := by rw [he]; simp
    have e1 : decide (pre.length < ss.length) = true := decide_eq_true hlt
    have e3 : wr .i64 ((pre.length : Int) + Int.ofNat 1) = ((pre ++ [y]).length : Int) := by rw [adI (by omega)]; simp
    obtain ⟨p, p1, p2⟩ := hr.elem1 (i := pre.length) (x := .str y) (by rw [he]; simp)
    have ec : (y :: l).contains x = ((x == y) || l.contains x) := List.contains_cons
    rw [ec]
    cases hb : (x == y) with
    | true =>
      refine ⟨pre.length, fun fr k f0 f1 f7 f8 => ?_⟩
      rw [loopK_succ]
      simp only [s_slices_Index_string_l1, getK_mk f0, getK_mk f1, getK_mk f7, getK_mk f8, getK_set, ↓reduceIte, Nat.reduceEqDiff, someK_n, effK_n, retK, gK_do, gK_do', gK_skip, gK_skip', gK_none, pick_mk, cond_true, cond_false, condK_tn, condK_fn, bin_eql, bin_neq, bin_lss, bin_leq, bin_gtr, bin_geq, un_not, Bool.not_true, Bool.not_false, bin_str, lenS_mk, nle_l, nle_r, nle_n, nlt_l, nlt_r, nlt_n, neq_r, neq_n, nne_r, nne_n, ext0, ext1, ext30, ext31, ext32, bin_add, bin_sub, decide_true, decide_false, e1, p1, p2, str_eql, hb, Bool.true_or]
      rfl
    | false =>
      obtain ⟨j, i1⟩ := ih (pre ++ [y]) τ m (by rw [he]; simp) (by simp at hm; omega)
      refine ⟨j, fun fr k f0 f1 f7 f8 => ?_⟩
      rw [loopK_succ]
      simp only [s_slices_Index_string_l1, getK_mk f0, getK_mk f1, getK_mk f7, getK_mk f8, getK_set, ↓reduceIte, Nat.reduceEqDiff, someK_n, effK_n, retK, gK_do, gK_do', gK_skip, gK_skip', gK_none, pick_mk, cond_true, cond_false, condK_tn, condK_fn, bin_eql, bin_neq, bin_lss, bin_leq, bin_gtr, bin_geq, un_not, Bool.not_true, Bool.not_false, bin_str, lenS_mk, nle_l, nle_r, nle_n, nlt_l, nlt_r, nlt_n, neq_r, neq_n, nne_r, nne_n, ext0, ext1, ext30, ext31, ext32, bin_add, bin_sub, decide_true, decide_false, e1, p1, p2, str_eql, hb, Bool.false_or, e3]
      exact i1 _ k (by simp [T.get_set]) (by simp [T.get_set]) (by simp [T.get_set]) (by simp [T.get_set])
theorem s_slices_Index_string_ret (c : CallK) {N : Nat} (hN : 9223372036854775807 < N) (lv : V) (ss : List Bs) (x : Bs) (hl : ss.length < 1000000000) (H : Heap) (hr : Rd H 1 lv ss.length (ss.map V.str)) (τ : Tape) :
    ∃ n : Int, decide (0 ≤ n) = ss.contains x ∧ ∀ q, s_slices_Index_string c N lv (.str x) H τ q = q (.int .i64 n) H τ := by
  obtain ⟨j, i1⟩ := l_slices_Index_string c N lv ss x hl H hr ss [] τ N rfl (by omega)
  have pl := hr.pLen
  cases hb : ss.contains x with
  | true =>
    rw [hb] at i1
    refine ⟨j, decide_eq_true (by omega), fun q => ?_⟩
    simp only [s_slices_Index_string, pl, someK_n]
    rw [i1 _ _ (by simp [T.get_set]) (by simp [T.get_set]) (by simp [T.get_set]) (by simp [T.get_set])]
    simp only [cond_true, blockK, seqK, endK]
    rfl
  | false =>
    rw [hb] at i1
    refine ⟨-1, rfl, fun q => ?_⟩
    simp only [s_slices_Index_string, pl, someK_n]
    rw [i1 _ _ (by simp [T.get_set]) (by simp [T.get_set]) (by simp [T.get_set]) (by simp [T.get_set])]
    simp only [cond_false, blockK, Nat.beq_refl, cond_true, seqK, s_slices_Index_string_j0]
    rfl
theorem s_slices_Contains_string_ret (c : CallK) (N : Nat) (lv : V) (ss : List Bs) (x : Bs) (H : Heap) (τ : Tape) (h : ∃ n : Int, decide (0 ≤ n) = ss.contains x ∧ ∀ q, c f_slices_Index_string [lv, .str x] H τ q = q (.int .i64 n) H τ) (q : KV) :
    s_slices_Contains_string c N lv (.str x) H τ q = q (.bool (ss.contains x)) H τ := by
  obtain ⟨n, h1, h2⟩ := h
  have z0 : decide (Int.ofNat 0 ≤ n) = decide (0 ≤ n) := rfl
  simp only [s_slices_Contains_string, h2, bin_geq, z0, h1]
def varyN : Bs := [118, 97, 114, 121]
def nonE (p : Bs) : Bool := p != []
def varL (ps : List Bs) : List Bs := (ps.filter nonE).map lower
theorem lower_nonE (p : Bs) : (lower p != []) = nonE p := by
  unfold nonE
  cases p with
  | nil => rfl
  | cons x p => rfl
theorem lower_star (p : Bs) : lower p = [42] ↔ p = [42] := by
  constructor
  · intro h
    cases p with
    | nil => cases h
    | cons x p =>
      cases p with
      | cons y p => simp [lower] at h
      | nil =>
        have e : lowB x = 42 := by simpa [lower] using h
        have : x = 42 := by
          unfold lowB at e
          split at e
          · rename_i hx
            have := congrArg UInt8.toNat e
            rw [show (UInt8.ofNat (x.toNat + 32)).toNat = x.toNat + 32 by simp; omega] at this
            have h42 : (42 : UInt8).toNat = 42 := rfl
            omega
          · exact e
        rw [this]
  · intro h; rw [h]; rfl
theorem varL_star (ps : List Bs) : (varL ps).contains [42] = ps.contains [42] := by
  rw [Bool.eq_iff_iff, List.contains_iff_mem, List.contains_iff_mem]
  unfold varL
  constructor
  · intro h
    obtain ⟨p, hp, e⟩ := List.mem_map.1 h
    rw [lower_star] at e
    rw [← e]; exact (List.mem_filter.1 hp).1
  · intro h
    exact List.mem_map.2 ⟨[42], List.mem_filter.2 ⟨h, rfl⟩, rfl⟩
theorem varL_snoc (pre : List Bs) (p : Bs) : varL (pre ++ [p]) = varL pre ++ (if nonE p = true then [lower p] else []) := by
  unfold varL
  rw [List.filter_append, List.map_append]
  congr 1
  cases h : nonE p <;> simp [h]
theorem varL_len (ps : List Bs) : (varL ps).length ≤ ps.length := by
  unfold varL; rw [List.length_map]; exact List.length_filter_le _ _
theorem l_age_Vary (c : CallK) (N : Nat) (hL : NLowOk c) (pv : V) (ps : List Bs) (hl : ps.length < 20000000) (hsz : ∀ s ∈ ps, s.length ≤ 100000000) (B : Nat) : ∀ (l pre : List Bs) (ov : V) (H : Heap) (τ : Tape) (m : Nat), ps = pre ++ l → l.length < m → WF H → B ≤ H.size → (∀ H', Gr B H H' → Rd H' 1 pv ps.length (ps.map V.str)) → LsS H B ov (varL pre) →
    ∃ ov' H' τ', LsS H' B ov' (varL ps) ∧ Gr B H H' ∧ ∀ (fr : T V) k, fr.get 6 = some ov → fr.get 14 = some pv → fr.get 15 = some (.int .i64 (ps.length : Int)) → fr.get 16 = some (.int .i64 (pre.length : Int)) →
      loopK (s_age_Vary_l1 c N) m ⟨fr, H⟩ τ k = k (.exit 0) ⟨(T.set .leaf 6 ov'), H'⟩ τ' := by
  intro l
  induction l with
  | nil =>
    intro pre ov H τ m he hm hw hB hrd ho
    obtain ⟨m, rfl⟩ : ∃ j, m = j + 1 := ⟨m - 1, by omega⟩
    have e1 : decide (pre.length < ps.length) = false := decide_eq_false (by rw [he]; simp)
    refine ⟨ov, H, τ, by rw [he, List.append_nil]; exact ho, Gr.refl hw, fun fr k f6 f14 f15 f16 => ?_⟩
    rw [loopK_succ]
    simp only [s_age_Vary_l1, getK_mk f6, getK_mk f14, getK_mk f15, getK_mk f16, getK_set, ↓reduceIte, Nat.reduceEqDiff, someK_n, effK_n, retK, gK_do, gK_do', gK_skip, gK_skip', gK_none, pick_mk, cond_true, cond_false, condK_tn, condK_fn, bin_eql, bin_neq, bin_lss, bin_leq, bin_gtr, bin_geq, un_not, Bool.not_true, Bool.not_false, bin_str, lenS_mk, nle_l, nle_r, nle_n, nlt_l, nlt_r, nlt_n, neq_r, neq_n, nne_r, nne_n, ext0, ext1, ext30, ext31, ext32, bin_add, bin_sub, decide_true, decide_false, e1]
    rfl
  | cons x l ih =>
    intro pre ov H τ m he hm hw hB hrd ho
    obtain ⟨m, rfl⟩ : ∃ j, m = j + 1 := ⟨m - 1, by omega⟩
    have hlt : pre.length < ps.length := by rw [he]; simp
    have e1 : decide (pre.length < ps.length) = true := decide_eq_true hlt
    have e3 : wr .i64 ((pre.length : Int) + Int.ofNat 1) = ((pre ++ [x]).length : Int) := by rw [adI (by omega)]; simp
    obtain ⟨p, p1, p2⟩ := (hrd H (Gr.refl hw)).elem1 (i := pre.length) (x := .str x) (by rw [he]; simp)
    have hx := hsz x (by rw [he]; simp)
    have kl := hL x (by omega)
    have hne := lower_nonE x
    cases hb : nonE x with
    | false =>
      rw [hb] at hne
      obtain ⟨ov', H', τ', i1, i2, i3⟩ := ih (pre ++ [x]) ov H τ m (by rw [he]; simp) (by simp at hm; omega) hw hB hrd (by rw [varL_snoc, hb]; simpa using ho)
      refine ⟨ov', H', τ', i1, i2, fun fr k f6 f14 f15 f16 => ?_⟩
      rw [loopK_succ]
      simp only [s_age_Vary_l1, getK_mk f6, getK_mk f14, getK_mk f15, getK_mk f16, getK_set, ↓reduceIte, Nat.reduceEqDiff, someK_n, effK_n, retK, gK_do, gK_do', gK_skip, gK_skip', gK_none, pick_mk, cond_true, cond_false, condK_tn, condK_fn, bin_eql, bin_neq, bin_lss, bin_leq, bin_gtr, bin_geq, un_not, Bool.not_true, Bool.not_false, bin_str, lenS_mk, nle_l, nle_r, nle_n, nlt_l, nlt_r, nlt_n, neq_r, neq_n, nne_r, nne_n, ext0, ext1, ext30, ext31, ext32, bin_add, bin_sub, decide_true, decide_false, e1, p1, p2, kl, str_neq, hne, s_age_Vary_j2, e3]
      exact i3 _ k (by simp [T.get_set]) (by simp [T.get_set]) (by simp [T.get_set]) (by simp [T.get_set])
    | true =>
      rw [hb] at hne
      have hvl := varL_len pre
      obtain ⟨w, H1, v', H2, τ2, r1, r2, r3, r4⟩ := ho.put hw hB (lower x) (by omega) τ
      obtain ⟨ov', H', τ', i1, i2, i3⟩ := ih (pre ++ [x]) v' H2 τ2 m (by rw [he]; simp) (by simp at hm; omega) r4.wf (Nat.le_trans hB r4.size) (fun H' hg => hrd H' (r4.trans hg (Nat.le_refl _))) (by rw [varL_snoc, hb]; simpa using r3)
      refine ⟨ov', H', τ', i1, r4.trans i2 (Nat.le_refl _), fun fr k f6 f14 f15 f16 => ?_⟩
      rw [loopK_succ]
      simp only [s_age_Vary_l1, getK_mk f6, getK_mk f14, getK_mk f15, getK_mk f16, getK_set, ↓reduceIte, Nat.reduceEqDiff, someK_n, effK_n, retK, gK_do, gK_do', gK_skip, gK_skip', gK_none, pick_mk, cond_true, cond_false, condK_tn, condK_fn, bin_eql, bin_neq, bin_lss, bin_leq, bin_gtr, bin_geq, un_not, Bool.not_true, Bool.not_false, bin_str, lenS_mk, nle_l, nle_r, nle_n, nlt_l, nlt_r, nlt_n, neq_r, neq_n, nne_r, nne_n, ext0, ext1, ext30, ext31, ext32, bin_add, bin_sub, decide_true, decide_false, e1, p1, p2, kl, str_neq, hne, r1, r2, s_age_Vary_j2, e3]
      exact i3 _ k (by simp [T.get_set]) (by simp [T.get_set]) (by simp [T.get_set]) (by simp [T.get_set])
/-- what Vary answers -/
def varyO (hs : List Hd) : Out := if (splitT varyN hs).contains [42] = true then .val (.tup [.nils, .bool false]) else lstO 1 (srtT (varL (splitT varyN hs))).length ((srtT (varL (splitT varyN hs))).map V.str) (fun v => .tup [v, .bool true])
abbrev VaryG (_ : Bool) (hs : List Hd) : List V → Out | [] => varyO hs | _ => .val (.tup [])
theorem s_age_Vary_ret (c : CallK) {N : Nat} (hN : 9223372036854775807 < N) (hSp : IsP c f_headers_Split (RH GetPre SplitG)) (hL : NLowOk c) (hSr : ∀ vs H τ q, c f_slices_Sort_string vs H τ q = effK (sortP vs H τ) q) (hCo : ∀ vs H τ q, c f_slices_Compact_string vs H τ q = effK (compactP vs H τ) q)
    (hCn : ∀ (lv : V) (ss : List Bs) (x : Bs) (H : Heap), ss.length < 1000000000 → Rd H 1 lv ss.length (ss.map V.str) → ∀ τ q, c f_slices_Contains_string [lv, .str x] H τ q = q (.bool (ss.contains x)) H τ)
    (hs : List Hd) (hsm : Small hs) (lv : V) (H : Heap) (hw : WF H) (hr : RdH H lv hs) (τ : Tape) :
    ∃ v H' τ', Gr H.size H H' ∧ (varyO hs).Met H v H' ∧ ∀ q, s_age_Vary c N lv H τ q = q v H' τ' := by
  obtain ⟨pv, H1, τ1, o1, g1, k1⟩ := k_Split hSp hsm (name := varyN) (by decide) hw hr τ
  have hcnt := splitT_count (name := varyN) hsm
  have hmem := fun s (h : s ∈ splitT varyN hs) => splitT_mem hsm h
  unfold varyO
  generalize splitT varyN hs = ps at o1 hcnt hmem ⊢
  obtain ⟨ov, H2, τ2, i1, i2, i3⟩ := l_age_Vary c N hL pv ps (by omega) (fun s h => by have := hmem s h; omega) H1.size ps [] .nils H1 τ1 N rfl (by omega) g1.wf (Nat.le_refl _) (fun H' hg => o1.rd.gr hg g1.wf (Nat.le_refl _)) (LsS.nil _ _)
  have hvl := varL_len ps
  obtain ⟨H3, j1, j2, j3⟩ := Own.sort i1.1 i2.wf (by omega)
  have hso := sorted_ok (varL ps)
  have kc := fun τ q => hCn ov (sorted (varL ps)) [42] H3 (by rw [hso.2.2]; omega) j2.rd τ q
  have hst : (sorted (varL ps)).contains [42] = ps.contains [42] := by
    rw [← varL_star ps, Bool.eq_iff_iff, List.contains_iff_mem, List.contains_iff_mem, hso.2.1]
  rw [hst] at kc
  have g13 := (g1.trans i2 g1.size).trans (j3.weaken g1.size) (by have := g1.size; have := i2.size; omega)
  have pl := o1.rd.pLen
  have en : bs [118, 97, 114, 121] = varyN := rfl
  have e42 : bs [42] = [42] := rfl
  cases hb : ps.contains [42] with
  | true =>
    rw [if_pos rfl]
    refine ⟨.tup [.nils, .bool false], H3, τ2, g13, ⟨rfl, trivial, trivial, trivial⟩, fun q => ?_⟩
    rw [hb] at kc
    simp only [s_age_Vary, en, k1, ext0, ext1, pl, someK_n]
    rw [i3 _ _ (by simp [T.get_set]) (by simp [T.get_set]) (by simp [T.get_set]) (by simp [T.get_set])]
    simp only [blockK, Nat.beq_refl, cond_true, seqK, s_age_Vary_j0, getK_set, ↓reduceIte, Nat.reduceEqDiff, someK_n, effK_n, retK, gK_do, gK_do', gK_skip, gK_skip', gK_none, pick_mk, cond_true, cond_false, condK_tn, condK_fn, bin_eql, bin_neq, bin_lss, bin_leq, bin_gtr, bin_geq, un_not, Bool.not_true, Bool.not_false, bin_str, lenS_mk, nle_l, nle_r, nle_n, nlt_l, nlt_r, nlt_n, neq_r, neq_n, nne_r, nne_n, ext0, ext1, ext30, ext31, ext32, bin_add, bin_sub, decide_true, decide_false, hSr, j1, e42, kc]
  | false =>
    rw [if_neg (by simp)]
    rw [hb] at kc
    by_cases h0 : varL ps = []
    · have hov := i1.2 h0
      subst hov
      have hs0 : srtT (varL ps) = [] := by rw [h0]; rfl
      have hc0 : ∀ H τ, compactP [.nils] H τ = some (.nils, H, τ) := fun _ _ => rfl
      refine ⟨.tup [.nils, .bool true], H3, τ2, g13, ?_, fun q => ?_⟩
      · rw [hs0]; exact ⟨rfl, trivial, trivial, trivial⟩
      · simp only [s_age_Vary, en, k1, ext0, ext1, pl, someK_n]
        rw [i3 _ _ (by simp [T.get_set]) (by simp [T.get_set]) (by simp [T.get_set]) (by simp [T.get_set])]
        simp only [blockK, Nat.beq_refl, cond_true, seqK, s_age_Vary_j0, getK_set, ↓reduceIte, Nat.reduceEqDiff, someK_n, effK_n, retK, gK_do, gK_do', gK_skip, gK_skip', gK_none, pick_mk, cond_true, cond_false, condK_tn, condK_fn, bin_eql, bin_neq, bin_lss, bin_leq, bin_gtr, bin_geq, un_not, Bool.not_true, Bool.not_false, bin_str, lenS_mk, nle_l, nle_r, nle_n, nlt_l, nlt_r, nlt_n, neq_r, neq_n, nne_r, nne_n, ext0, ext1, ext30, ext31, ext32, bin_add, bin_sub, decide_true, decide_false, hSr, j1, e42, kc, hCo, hc0]
    · have hsn : sorted (varL ps) ≠ [] := fun e => h0 (List.eq_nil_of_length_eq_zero (by rw [← hso.2.2, e]; rfl))
      obtain ⟨v3, H4, k2, k3, k4⟩ := Own.compactF j2 j3.wf (by rw [hso.2.2]; omega) hsn
      rw [compact_sorted] at k3
      refine ⟨.tup [v3, .bool true], H4, τ2, g13.trans (k4.weaken g1.size) (by have := g13.size; omega), ?_, fun q => ?_⟩
      · have hne : (srtT (varL ps)).length ≠ 0 := by
          intro e
          have h2 := List.eq_nil_of_length_eq_zero e
          obtain ⟨z, hz⟩ := List.exists_mem_of_ne_nil _ h0
          have := ((srtT_ok (varL ps)).2.1 z).2 hz
          rw [h2] at this; simp at this
        refine Got.met (mk := fun v => .tup [v, .bool true]) (.inr ?_) (fun h => absurd h hne) (mkOk_bool _) (strs_vok _ _) ⟨trivial, trivial, trivial⟩
        obtain ⟨id, off, lo, ex, all, room, fam, ver, pl', st, fr, la, h1, h2, h3, h4, h5, h6⟩ := k3
        exact ⟨id, off, lo, ex, all, room, fam, ver, pl', st, fr, la, h1, h2, h3, h4, Nat.le_trans g1.size h5, h6⟩
      · simp only [s_age_Vary, en, k1, ext0, ext1, pl, someK_n]
        rw [i3 _ _ (by simp [T.get_set]) (by simp [T.get_set]) (by simp [T.get_set]) (by simp [T.get_set])]
        simp only [blockK, Nat.beq_refl, cond_true, seqK, s_age_Vary_j0, getK_set, ↓reduceIte, Nat.reduceEqDiff, someK_n, effK_n, retK, gK_do, gK_do', gK_skip, gK_skip', gK_none, pick_mk, cond_true, cond_false, condK_tn, condK_fn, bin_eql, bin_neq, bin_lss, bin_leq, bin_gtr, bin_geq, un_not, Bool.not_true, Bool.not_false, bin_str, lenS_mk, nle_l, nle_r, nle_n, nlt_l, nlt_r, nlt_n, neq_r, neq_n, nne_r, nne_n, ext0, ext1, ext30, ext31, ext32, bin_add, bin_sub, decide_true, decide_false, hSr, j1, e42, kc, hCo, k2]
noncomputable abbrev rw_Vary : List Row := [Row.fn f_age_Vary fn_age_Vary e_age_Vary, Row.fn f_slices_Contains_string fn_slices_Contains_string e_slices_Contains_string, Row.fn f_slices_Index_string fn_slices_Index_string e_slices_Index_string, Row.prim f_headers_Split (outP (RH GetPre SplitG)), Row.prim f_infra_Lower (outP LowR), Row.prim f_slices_Sort_string sortP, Row.prim f_slices_Compact_string compactP]
theorem p_age_Vary : ∀ base w0, PrimOk PG base w0 f_age_Vary (outP (RH CtlPre VaryG)) := by
  obtain ⟨N, hN⟩ := someN
  refine primRH (N := N) (l := rw_Vary) (.fn ok_age_Vary e_age_Vary_ok (.fn ok_slices_Contains_string e_slices_Contains_string_ok (.fn ok_slices_Index_string e_slices_Index_string_ok (.prim p_headers_Split (.prim p_infra_Lower (.prim sortP_ok (.prim compactP_ok (.nil _)))))))) 3 _ (fun hs args hp lv H hw hr τ => ?_)
  unfold CtlPre at hp; split at hp
  · exact s_age_Vary_ret (CR rw_Vary N 2) hN (fun _ _ _ _ => rfl) (k_infra_Lower fun _ _ _ _ => rfl) (fun _ _ _ _ => rfl) (fun _ _ _ _ => rfl) (fun lv ss x H hl hr τ q => s_slices_Contains_string_ret (CR rw_Vary N 1) N lv ss x H τ (s_slices_Index_string_ret (CR rw_Vary N 0) hN lv ss x hl H hr τ) q) hs hp lv H hw hr τ
  · exact hp.elim
theorem k_ref1_SortedL {c : CallK} (h : IsP c f_ref1_Sorted (RSs SrtPre SrtG)) {ss : List Bs} (hl : ss.length < 1000000) {lv : V} {H : Heap} (hw : WF H) (hr : RdS H lv ss) (τ : Tape) :
    ∃ v' H' τ', LsS H' H.size v' (srtT ss) ∧ Gr H.size H H' ∧ ∀ q, c f_ref1_Sorted [lv] H τ q = q v' H' τ' := by
  by_cases h0 : (srtT ss).length = 0
  · have hR : RSs SrtPre SrtG [lv] H (.val .nils) := ⟨lv, [], ss, rfl, hr, hl, (if_pos h0).symm⟩
    have e := List.eq_nil_of_length_eq_zero h0
    exact ⟨.nils, H, τ, by rw [e]; exact LsS.nil _ _, Gr.refl hw, fun q => outK_val h (RSs_fun _ _) hR τ q⟩
  · have hR : RSs SrtPre SrtG [lv] H (.lst 1 (srtT ss).length ((srtT ss).map V.str) (fun v => v)) := ⟨lv, [], ss, rfl, hr, hl, (if_neg h0).symm⟩
    obtain ⟨v', H', τ', h1, _, h2, h3⟩ := outK_lst h (RSs_fun _ _) hR hw (by simp) τ
    exact ⟨v', H', τ', ⟨h1, fun e => absurd (by rw [e]; rfl) h0⟩, h2, h3⟩
theorem l_ref16_Vary (c : CallK) (N : Nat) (hL : RLowOk c) (pv : V) (ps : List Bs) (hl : ps.length < 20000000) (hsz : ∀ s ∈ ps, s.length ≤ 100000000) (B : Nat) : ∀ (l pre : List Bs) (ov : V) (H : Heap) (τ : Tape) (m : Nat), ps = pre ++ l → l.length < m → WF H → B ≤ H.size → (∀ H', Gr B H H' → Rd H' 1 pv ps.length (ps.map V.str)) → LsS H B ov (varL pre) →
    ∃ ov' H' τ', (l.contains [42] = false → LsS H' B ov' (varL ps)) ∧ Gr B H H' ∧ ∀ (fr : T V) k, fr.get 4 = some pv → fr.get 6 = some ov → fr.get 7 = some (.int .i64 (pre.length : Int)) →
      loopK (s_ref16_Vary_l1 c N) m ⟨fr, H⟩ τ k = bif l.contains [42] then k .ret ⟨(T.set (T.set .leaf 2 .nils) 3 (.bool false)), H'⟩ τ' else k (.exit 0) ⟨(T.set .leaf 6 ov'), H'⟩ τ' := by
  intro l
  induction l with
  | nil =>
    intro pre ov H τ m he hm hw hB hrd ho
    obtain ⟨m, rfl⟩ : ∃ j, m = j + 1 := ⟨m - 1, by omega⟩
    have e1 : decide (pre.length < ps.length) = false := decide_eq_false (by rw [he]; simp)
    have pl := (hrd H (Gr.refl hw)).pLen
    refine ⟨ov, H, τ, fun _ => by rw [he, List.append_nil]; exact ho, Gr.refl hw, fun fr k f4 f6 f7 => ?_⟩
    rw [loopK_succ]
    simp only [s_ref16_Vary_l1, getK_mk f4, getK_mk f6, getK_mk f7, pl, getK_set, ↓reduceIte, Nat.reduceEqDiff, someK_n, effK_n, retK, gK_do, gK_do', gK_skip, gK_skip', gK_none, pick_mk, cond_true, cond_false, condK_tn, condK_fn, bin_eql, bin_neq, bin_lss, bin_leq, bin_gtr, bin_geq, un_not, Bool.not_true, Bool.not_false, bin_str, lenS_mk, nle_l, nle_r, nle_n, nlt_l, nlt_r, nlt_n, neq_r, neq_n, nne_r, nne_n, ext0, ext1, ext30, ext31, ext32, bin_add, bin_sub, decide_true, decide_false, e1]
    rfl
  | cons x l ih =>
    intro pre ov H τ m he hm hw hB hrd ho
    obtain ⟨m, rfl⟩ : ∃ j, m = j + 1 := ⟨m - 1, by omega⟩
    have hlt : pre.length < ps.length := by rw [he]; simp
    have e1 : decide (pre.length < ps.length) = true := decide_eq_true hlt
    have e3 : wr .i64 ((pre.length : Int) + Int.ofNat 1) = ((pre ++ [x]).length : Int) := by rw [adI (by omega)]; simp
    have pl := (hrd H (Gr.refl hw)).pLen
    obtain ⟨p, p1, p2⟩ := (hrd H (Gr.refl hw)).elem1 (i := pre.length) (x := .str x) (by rw [he]; simp)
    have hx := hsz x (by rw [he]; simp)
    have kl := hL x (by omega)
    have e42 : bs [42] = [42] := rfl
    have ec : (x :: l).contains [42] = ((x == [42]) || l.contains [42]) := by rw [List.contains_cons]; congr 1; exact BEq.comm
    rw [ec]
    cases hs : (x == ([42] : Bs)) with
    | true =>
      refine ⟨ov, H, τ, fun h => by simp at h, Gr.refl hw, fun fr k f4 f6 f7 => ?_⟩
      rw [loopK_succ]
      simp only [s_ref16_Vary_l1, getK_mk f4, getK_mk f6, getK_mk f7, pl, getK_set, ↓reduceIte, Nat.reduceEqDiff, someK_n, effK_n, retK, gK_do, gK_do', gK_skip, gK_skip', gK_none, pick_mk, cond_true, cond_false, condK_tn, condK_fn, bin_eql, bin_neq, bin_lss, bin_leq, bin_gtr, bin_geq, un_not, Bool.not_true, Bool.not_false, bin_str, lenS_mk, nle_l, nle_r, nle_n, nlt_l, nlt_r, nlt_n, neq_r, neq_n, nne_r, nne_n, ext0, ext1, ext30, ext31, ext32, bin_add, bin_sub, decide_true, decide_false, e1, p1, p2, e42, str_eql, hs, Bool.true_or]
      rfl
    | false =>
      have hne : (x != ([] : Bs)) = nonE x := rfl
      cases hb : nonE x with
      | false =>
        rw [hb] at hne
        obtain ⟨ov', H', τ', i1, i2, i3⟩ := ih (pre ++ [x]) ov H τ m (by rw [he]; simp) (by simp at hm; omega) hw hB hrd (by rw [varL_snoc, hb]; simpa using ho)
        refine ⟨ov', H', τ', fun h => i1 (by simpa using h), i2, fun fr k f4 f6 f7 => ?_⟩
        rw [loopK_succ]
        simp only [s_ref16_Vary_l1, getK_mk f4, getK_mk f6, getK_mk f7, pl, getK_set, ↓reduceIte, Nat.reduceEqDiff, someK_n, effK_n, retK, gK_do, gK_do', gK_skip, gK_skip', gK_none, pick_mk, cond_true, cond_false, condK_tn, condK_fn, bin_eql, bin_neq, bin_lss, bin_leq, bin_gtr, bin_geq, un_not, Bool.not_true, Bool.not_false, bin_str, lenS_mk, nle_l, nle_r, nle_n, nlt_l, nlt_r, nlt_n, neq_r, neq_n, nne_r, nne_n, ext0, ext1, ext30, ext31, ext32, bin_add, bin_sub, decide_true, decide_false, e1, p1, p2, e42, str_eql, hs, Bool.false_or, str_neq, hne, s_ref16_Vary_j2, e3]
        exact i3 _ k (by simp [T.get_set]) (by simp [T.get_set]) (by simp [T.get_set])
      | true =>
        rw [hb] at hne
        have hvl := varL_len pre
        obtain ⟨w, H1, v', H2, τ2, r1, r2, r3, r4⟩ := ho.put hw hB (lower x) (by omega) τ
        obtain ⟨ov', H', τ', i1, i2, i3⟩ := ih (pre ++ [x]) v' H2 τ2 m (by rw [he]; simp) (by simp at hm; omega) r4.wf (Nat.le_trans hB r4.size) (fun H' hg => hrd H' (r4.trans hg (Nat.le_refl _))) (by rw [varL_snoc, hb]; simpa using r3)
        refine ⟨ov', H', τ', fun h => i1 (by simpa using h), r4.trans i2 (Nat.le_refl _), fun fr k f4 f6 f7 => ?_⟩
        rw [loopK_succ]
        simp only [s_ref16_Vary_l1, getK_mk f4, getK_mk f6, getK_mk f7, pl, getK_set, ↓reduceIte, Nat.reduceEqDiff, someK_n, effK_n, retK, gK_do, gK_do', gK_skip, gK_skip', gK_none, pick_mk, cond_true, cond_false, condK_tn, condK_fn, bin_eql, bin_neq, bin_lss, bin_leq, bin_gtr, bin_geq, un_not, Bool.not_true, Bool.not_false, bin_str, lenS_mk, nle_l, nle_r, nle_n, nlt_l, nlt_r, nlt_n, neq_r, neq_n, nne_r, nne_n, ext0, ext1, ext30, ext31, ext32, bin_add, bin_sub, decide_true, decide_false, e1, p1, p2, e42, str_eql, hs, Bool.false_or, str_neq, hne, kl, r1, r2, s_ref16_Vary_j2, e3]
        exact i3 _ k (by simp [T.get_set]) (by simp [T.get_set]) (by simp [T.get_set])
theorem s_ref16_Vary_ret (c : CallK) {N : Nat} (hN : 9223372036854775807 < N) (hSp : IsP c f_ref5_Split (RH GetPre SplitG)) (hL : RLowOk c) (hSr : IsP c f_ref1_Sorted (RSs SrtPre SrtG))
    (hs : List Hd) (hsm : Small hs) (hfew : (splitT varyN hs).length < 1000000) (lv : V) (H : Heap) (hw : WF H) (hr : RdH H lv hs) (τ : Tape) :
    ∃ v H' τ', Gr H.size H H' ∧ (varyO hs).Met H v H' ∧ ∀ q, s_ref16_Vary c N lv H τ q = q v H' τ' := by
  obtain ⟨pv, H1, τ1, o1, g1, k1⟩ := k_Split hSp hsm (name := varyN) (by decide) hw hr τ
  have hmem := fun s (h : s ∈ splitT varyN hs) => splitT_mem hsm h
  unfold varyO
  generalize splitT varyN hs = ps at o1 hfew hmem ⊢
  obtain ⟨ov, H2, τ2, i1, i2, i3⟩ := l_ref16_Vary c N hL pv ps (by omega) (fun s h => by have := hmem s h; omega) H1.size ps [] .nils H1 τ1 N rfl (by omega) g1.wf (Nat.le_refl _) (fun H' hg => o1.rd.gr hg g1.wf (Nat.le_refl _)) (LsS.nil _ _)
  have hvl := varL_len ps
  have pl := o1.rd.pLen
  have en : bs [118, 97, 114, 121] = varyN := rfl
  have g12 := g1.trans i2 g1.size
  cases hb : ps.contains [42] with
  | true =>
    rw [hb] at i3
    rw [if_pos rfl]
    refine ⟨.tup [.nils, .bool false], H2, τ2, g12, ⟨rfl, trivial, trivial, trivial⟩, fun q => ?_⟩
    simp only [s_ref16_Vary, en, k1, ext0, ext1, someK_n]
    rw [i3 _ _ (by simp [T.get_set]) (by simp [T.get_set]) (by simp [T.get_set])]
    simp only [cond_true, blockK, seqK, endK]
    rfl
  | false =>
    rw [hb] at i3
    rw [if_neg (by simp)]
    have o2 := i1 hb
    obtain ⟨v3, H3, τ3, m1, m2, m3⟩ := k_ref1_SortedL hSr (ss := varL ps) (by omega) i2.wf o2.rdS τ2
    refine ⟨.tup [v3, .bool true], H3, τ3, g12.trans m2 g12.size, LsS.met (mk := fun v => .tup [v, .bool true]) (m1.weaken g12.size) (mkOk_bool _) ⟨trivial, trivial, trivial⟩, fun q => ?_⟩
    simp only [s_ref16_Vary, en, k1, ext0, ext1, someK_n]
    rw [i3 _ _ (by simp [T.get_set]) (by simp [T.get_set]) (by simp [T.get_set])]
    simp only [cond_false, blockK, Nat.beq_refl, cond_true, seqK, s_ref16_Vary_j0, getK_set, ↓reduceIte, Nat.reduceEqDiff, someK_n, effK_n, retK, gK_do, gK_do', gK_skip, gK_skip', gK_none, pick_mk, cond_true, cond_false, condK_tn, condK_fn, bin_eql, bin_neq, bin_lss, bin_leq, bin_gtr, bin_geq, un_not, Bool.not_true, Bool.not_false, bin_str, lenS_mk, nle_l, nle_r, nle_n, nlt_l, nlt_r, nlt_n, neq_r, neq_n, nne_r, nne_n, ext0, ext1, ext30, ext31, ext32, bin_add, bin_sub, decide_true, decide_false, m3]
abbrev VaryPre (hs : List Hd) : List V → Prop | [] => Small hs ∧ (splitT varyN hs).length < 1000000 | _ => False
noncomputable abbrev rw_RVary : List Row := [Row.fn f_ref16_Vary fn_ref16_Vary e_ref16_Vary, Row.prim f_ref5_Split (outP (RH GetPre SplitG)), Row.prim f_ref1_Lower (outP LowR), Row.prim f_ref1_Sorted (outP (RSs SrtPre SrtG))]
theorem p_ref16_Vary : ∀ base w0, PrimOk PG base w0 f_ref16_Vary (outP (RH VaryPre VaryG)) := by
  obtain ⟨N, hN⟩ := someN
  refine primRH (N := N) (l := rw_RVary) (.fn ok_ref16_Vary e_ref16_Vary_ok (.prim p_ref5_Split (.prim p_ref1_Lower (.prim p_ref1_Sorted (.nil _))))) 2 _ (fun hs args hp lv H hw hr τ => ?_)
  unfold VaryPre at hp; split at hp
  · exact s_ref16_Vary_ret (CR rw_RVary N 1) hN (fun _ _ _ _ => rfl) (k_ref1_Lower fun _ _ _ _ => rfl) (fun _ _ _ _ => rfl) hs hp.1 hp.2 lv H hw hr τ
  · exact hp.elim
/-- a call of Vary -/
theorem k_Vary {c : CallK} {f : Nat} {Pre : List Hd → List V → Prop} (h : IsP c f (RH Pre VaryG)) {hs : List Hd} (hp : Pre hs []) {lv : V} {H : Heap} (hw : WF H) (hr : RdH H lv hs) (τ : Tape) :
    ∃ v' H' τ', Rd H' 1 v' (bif (splitT varyN hs).contains [42] then [] else srtT (varL (splitT varyN hs))).length ((bif (splitT varyN hs).contains [42] then [] else srtT (varL (splitT varyN hs))).map V.str) ∧ Gr H.size H H' ∧ ∀ q, c f [lv] H τ q = q (.tup [v', .bool (!(splitT varyN hs).contains [42])]) H' τ' := by
  cases hb : (splitT varyN hs).contains [42] with
  | true =>
    have hg : VaryG (isNil lv) hs [] = .val (.tup [.nils, .bool false]) := if_pos hb
    exact ⟨.nils, H, τ, .inl ⟨.inl rfl, rfl, rfl⟩, Gr.refl hw, fun q => RH_val (l := []) h hr hp hg τ q⟩
  | false =>
    have hg : VaryG (isNil lv) hs [] = lstO 1 (srtT (varL (splitT varyN hs))).length ((srtT (varL (splitT varyN hs))).map V.str) (fun v => .tup [v, .bool true]) := if_neg (by rw [hb]; simp)
    obtain ⟨v', H', τ', h1, h2, h3⟩ := RH_lstO (l := []) h hr hp hg hw (by simp) τ
    exact ⟨v', H', τ', h1.rd, h2, h3⟩
end Go.Am.X


