/- The abstract machine, printed functions of the program, and what they are shown to be. -/
import Derived.Test.YtbkhmjpamfepbaaDoorARL3
import Derived.Test.YtbkhmjpamfepbaaDoorARL4
namespace Go.Am.X
set_option linter.unusedSimpArgs false
set_option linter.unusedVariables false
set_option linter.unusedSectionVars false
set_option maxRecDepth 100000

def unq (v : Bs) : Bs := if 1 < v.length ∧ v[0]? = some 34 ∧ v[v.length - 1]? = some 34 then (v.take (v.length - 1)).drop 1 else v
def pieceT (s : Bs) : Bs × Bs :=
  match cutB 61 s with
  | some (a, b) => (lower (strip a), unq (strip b))
  | none => (lower (strip s), unq (strip []))

abbrev SplitOkS (c : CallK) (name : Bs) (hs : List Hd) : Prop := ∀ (v : V) (H : Heap), WF H → RdH H v hs → ∀ τ, ∃ v' H' τ', Own H' H.size 1 v' (splitT name hs).length ((splitT name hs).map V.str) ∧ (splitT name hs).length ≤ 4294967296 ∧ Gr H.size H H' ∧ ∀ q, c f_headers_Split [v, .str name] H τ q = q (.tup [v', .bool (decide (0 < (sel name hs).length))]) H' τ'
abbrev GetOkS (c : CallK) (name : Bs) (hs : List Hd) : Prop := ∀ (v : V) (H : Heap), WF H → RdH H v hs → ∀ τ, ∃ H' τ', Gr H.size H H' ∧ ∀ q, c f_headers_Get [v, .str name] H τ q = q (.tup [.str (getT name hs), .bool (decide (0 < (sel name hs).length))]) H' τ'
theorem s_age_piece_ret (c : CallK) (N : Nat) (h62 : CutOk c 61) (h80 : StripOk c) (h92 : LowOk c) (s : Bs) (hs : s.length ≤ 140737488355328) (H : Heap) (hw : WF H) (τ : Tape) (q : KV) :
    ∃ H' τ', Gr H.size H H' ∧ s_age_piece c N (.str s) H τ q = q (.tup [.str (pieceT s).1, .str (pieceT s).2]) H' τ' := by
  obtain ⟨a, b, hab, ha, hb, hc⟩ : ∃ a b : Bs, (∃ d, (match cutB 61 s with | some (a, b) => V.tup [.str a, .str b, .bool true] | none => V.tup [.str s, .str [], .bool false]) = .tup [.str a, .str b, .bool d]) ∧ a.length ≤ s.length ∧ b.length ≤ s.length ∧ pieceT s = (lower (strip a), unq (strip b)) := by
    unfold pieceT
    cases hx : cutB 61 s with
    | none => exact ⟨s, [], ⟨false, rfl⟩, Nat.le_refl _, by simp, rfl⟩
    | some ab =>
      obtain ⟨a, b⟩ := ab
      have := ((cutB_spec 61 s).2 a b hx).1
      exact ⟨a, b, ⟨true, rfl⟩, by rw [this]; simp, by rw [this]; simp; omega, rfl⟩
  obtain ⟨d, hab⟩ := hab
  have h62' : ∀ H τ q, c f_strings_Cut [.str s, .str [61]] H τ q = q (.tup [.str a, .str b, .bool d]) H τ := fun H τ q => (h62 s (by omega) H τ q).trans (congrArg (fun v => q v H τ) hab)
  -- what comes behind the value
  have hjoin : ∀ (w : Bs) (H1 : Heap) (fr : T V), WF H1 → fr.get 4 = some (.str a) → fr.get 5 = some (.str w) → ∃ H' τ', Gr H1.size H1 H' ∧ s_age_piece_j0 c N q ⟨fr, H1⟩ τ = q (.tup [.str (lower (strip a)), .str w]) H' τ' := by
    intro w H1 fr hw1 f4 f5
    obtain ⟨H2, p1, p2⟩ := h80 a (by omega) H1 hw1 τ (fun v40 H41 τ42 => c f_infra_Lower [v40] H41 τ42 fun v43 H44 τ45 => q (.tup [v43, .str w]) H44 τ45)
    obtain ⟨H3, τ3, r1, r2⟩ := h92 (strip a) (by have := trimB_length blank a; unfold strip; omega) H2 p1.wf τ (fun v43 H44 τ45 => q (.tup [v43, .str w]) H44 τ45)
    refine ⟨H3, τ3, p1.trans r1 p1.size, ?_⟩
    simp only [s_age_piece_j0, getK_mk f4, getK_mk f5, p2, r2]
  obtain ⟨H1, k1, k2⟩ := h80 b (by omega) H hw τ (fun v6 H7 τ8 =>
    someK (pLenS [v6]) fun v9 =>
    binK .gtr v9 (.int .i64 (.ofNat 1)) fun v10 =>
    gK v10 true (fun q' => q' v6 H7 τ8) H7 τ8 fun v11 H12 τ13 =>
    gK v10 true (fun q' => someK (pStrIndex [v11, (.int .i64 (.ofNat 0))]) fun v => q' v H12 τ13) H12 τ13 fun v14 H15 τ16 =>
    gK v10 true (fun q' => binK .eql v14 (.int .u8 (.ofNat 34)) fun v => q' v H15 τ16) H15 τ16 fun v17 H18 τ19 =>
    someK (pPick [v10, v17, (.bool false)]) fun v20 =>
    gK v20 true (fun q' => q' v6 H18 τ19) H18 τ19 fun v21 H22 τ23 =>
    gK v20 true (fun q' => q' v6 H22 τ23) H22 τ23 fun v24 H25 τ26 =>
    gK v20 true (fun q' => someK (pLenS [v24]) fun v => q' v H25 τ26) H25 τ26 fun v27 H28 τ29 =>
    gK v20 true (fun q' => binK .sub v27 (.int .i64 (.ofNat 1)) fun v => q' v H28 τ29) H28 τ29 fun v30 H31 τ32 =>
    gK v20 true (fun q' => someK (pStrIndex [v21, v30]) fun v => q' v H31 τ32) H31 τ32 fun v33 H34 τ35 =>
    gK v20 true (fun q' => binK .eql v33 (.int .u8 (.ofNat 34)) fun v => q' v H34 τ35) H34 τ35 fun v36 H37 τ38 =>
    someK (pPick [v20, v36, (.bool false)]) fun v39 =>
    condK v39
      (someK (pLenS [v6]) fun v46 =>
    binK .sub v46 (.int .i64 (.ofNat 1)) fun v47 =>
    someK (pStrSlice true true [v6, (.int .i64 (.ofNat 1)), v47]) fun v48 =>
    s_age_piece_j0 c N q ⟨(T.set (T.set (T.set (T.set (T.set (T.set (T.set (T.set (T.set .leaf 4 (.str a)) 5 v6) 30 v39) 31 v6) 32 v6) 33 v46) 34 v47) 35 v48) 5 v48), H37⟩ τ38)
      (s_age_piece_j0 c N q ⟨(T.set (T.set (T.set .leaf 4 (.str a)) 5 v6) 30 v39), H37⟩ τ38))
  have hvl : (strip b).length ≤ s.length := by have := trimB_length blank b; unfold strip; omega
  have fin : ∀ (w : Bs) (fr : T V), w = unq (strip b) → fr.get 4 = some (.str a) → fr.get 5 = some (.str w) → s_age_piece c N (.str s) H τ q = s_age_piece_j0 c N q ⟨fr, H1⟩ τ → ∃ H' τ', Gr H.size H H' ∧ s_age_piece c N (.str s) H τ q = q (.tup [.str (pieceT s).1, .str (pieceT s).2]) H' τ' := by
    intro w fr hw' f4 f5 he
    obtain ⟨H', τ', r1, r2⟩ := hjoin w H1 fr k1.wf f4 f5
    exact ⟨H', τ', k1.trans r1 k1.size, by rw [he, r2, hc, hw']⟩
  have hst := Eq.trans (a := s_age_piece c N (.str s) H τ q) (by
    simp only [s_age_piece]
    rw [show bs [61] = [61] from rfl, h62']
    simp only [pExtract, List.getElem?_cons_zero, List.getElem?_cons_succ, someK_mk]) k2
  rw [hst] at fin ⊢
  simp only [lenS_mk, someK_mk, bin_gtr] at fin ⊢
  by_cases h1 : 1 < (strip b).length
  · have e1 : decide (Int.ofNat 1 < ((strip b).length : Int)) = true := decide_eq_true (by first | (simp; done) | (simp; omega) | omega)
    obtain ⟨x, hx⟩ : ∃ x, (strip b)[0]? = some x := ⟨(strip b)[0], List.getElem?_eq_getElem (by omega)⟩
    obtain ⟨y, hy⟩ : ∃ y, (strip b)[(strip b).length - 1]? = some y := ⟨(strip b)[(strip b).length - 1], List.getElem?_eq_getElem (by omega)⟩
    have e2 : pStrIndex [.str (strip b), .int .i64 (.ofNat 0)] = some (.int .u8 (x.toNat : Int)) := strIndex_mk (i := 0) hx
    have e3 : wr .i64 (((strip b).length : Int) - Int.ofNat 1) = (((strip b).length - 1 : Nat) : Int) := by
      have e0 : ((strip b).length : Int) - Int.ofNat 1 = (((strip b).length - 1 : Nat) : Int) := by
        rw [Int.ofNat_sub (by omega)]; rfl
      rw [e0]
      exact wr_id (by omega) (by omega)
    have e4 : pStrIndex [.str (strip b), .int .i64 (((strip b).length - 1 : Nat) : Int)] = some (.int .u8 (y.toNat : Int)) := strIndex_mk hy
    have e5 : pStrSlice true true [.str (strip b), .int .i64 (.ofNat 1), .int .i64 (((strip b).length - 1 : Nat) : Int)] = some (.str (((strip b).take ((strip b).length - 1)).drop 1)) := strSlice_lohi (i := 1) (by omega) (by omega)
    have hx34 : ((x.toNat : Int) == Int.ofNat 34) = decide (x = 34) := by
      rw [Bool.eq_iff_iff]; simp [← UInt8.toNat_inj]; omega
    have hy34 : ((y.toNat : Int) == Int.ofNat 34) = decide (y = 34) := by
      rw [Bool.eq_iff_iff]; simp [← UInt8.toNat_inj]; omega
    simp only [e1, gK_do, retK, effK_mk, e2, someK_mk, bin_eql, hx34, pick_mk, cond_true] at fin ⊢
    by_cases cx : x = 34
    · simp only [decide_eq_true cx, gK_do, retK, effK_mk, lenS_mk, someK_mk, bin_sub, e3, e4, bin_eql, hy34, pick_mk, cond_true] at fin ⊢
      by_cases cy : y = 34
      · simp only [decide_eq_true cy, condK_t, e5, someK_mk] at fin ⊢
        refine fin (((strip b).take ((strip b).length - 1)).drop 1) _ ?_ (by simp [T.get_set]) (by simp [T.get_set]) rfl
        rw [unq, if_pos ⟨h1, by rw [hx, cx], by rw [hy, cy]⟩]
      · simp only [decide_eq_false cy, condK_f] at fin ⊢
        refine fin (strip b) _ ?_ (by simp [T.get_set]) (by simp [T.get_set]) rfl
        rw [unq, if_neg (fun h => cy (by have := h.2.2; rw [hy] at this; simpa using this))]
    · simp only [decide_eq_false cx, gK_skip, pick_mk, cond_false, someK_mk, condK_f] at fin ⊢
      refine fin (strip b) _ ?_ (by simp [T.get_set]) (by simp [T.get_set]) rfl
      rw [unq, if_neg (fun h => cx (by have := h.2.1; rw [hx] at this; simpa using this))]
  · have e1 : decide (Int.ofNat 1 < ((strip b).length : Int)) = false := decide_eq_false (by first | (simp; done) | (simp; omega) | omega)
    simp only [e1, gK_skip, pick_mk, cond_false, someK_mk, condK_f] at fin ⊢
    refine fin (strip b) _ ?_ (by simp [T.get_set]) (by simp [T.get_set]) rfl
    rw [unq, if_neg (fun h => h1 h.1)]

abbrev Ctl := Bool × Bool × Int
def ctlStep (st : Ctl) (p : Bs × Bs) : Ctl :=
  if p.1 = [110, 111, 45, 115, 116, 111, 114, 101] then (true, st.2.1, st.2.2)
  else if p.1 = [110, 111, 45, 99, 97, 99, 104, 101] then (st.1, true, st.2.2)
  else if p.1 = [109, 97, 120, 45, 97, 103, 101] then (st.1, st.2.1, if (intB p.2).2 = true ∧ st.2.2 < 0 then (intB p.2).1 else st.2.2)
  else st
def ctlC (st : Ctl) : List V := [.bool st.1, .bool st.2.1, .int .i64 st.2.2]

abbrev PieceOk (c : CallK) : Prop := ∀ (s : Bs), s.length ≤ 140737488355328 → ∀ (H : Heap), WF H → ∀ τ, ∃ H' τ', Gr H.size H H' ∧ ∀ q, c f_age_piece [.str s] H τ q = q (.tup [.str (pieceT s).1, .str (pieceT s).2]) H' τ'

theorem parse_loop (c : CallK) (N : Nat) (h79 : IntOk c) (h95 : PieceOk c) {B iA iC Bp m : Nat} {cA : List V} {v18 : V} (ps : List Bs) (hm : ps.length = m) (hmb : m ≤ 4294967296) (hsz : ∀ s ∈ ps, s.length ≤ 140737488355328) (hpz : ∀ s ∈ ps, (pieceT s).2.length < 9223372036854775807) (hBA : B ≤ iC) (hAC : iA < iC) (hCB : iC < Bp) (l : List Bs) :
    ∀ (pre : List Bs) (st : Ctl) (n : Nat) (fr : T V) (H : Heap) (τ : Tape), WF H → B ≤ H.size → ps = pre ++ l → Bx H iA cA → Bx H iC (ctlC st) → Own H Bp 1 v18 m (ps.map V.str) → l.length < n →
    fr.get 2 = some (.ptr iA 0) → fr.get 3 = some (.ptr iC 0) → fr.get 18 = some v18 → fr.get 19 = some (.int .i64 (m : Int)) → fr.get 20 = some (.int .i64 (pre.length : Int)) →
    ∃ H' τ', Gr B H H' ∧ Bx H' iA cA ∧ Bx H' iC (ctlC (l.foldl (fun st s => ctlStep st (pieceT s)) st)) ∧ ∀ k, loopK (s_age_Parse_l1 c N) n ⟨fr, H⟩ τ k = k (.exit 0) ⟨T.set (T.set .leaf 2 (.ptr iA 0)) 3 (.ptr iC 0), H'⟩ τ' := by
  induction l with
  | nil =>
    intro pre st n fr H τ hw hB he hA hC ho hn f2 f3 f18 f19 f20
    obtain ⟨n, rfl⟩ : ∃ j, n = j + 1 := ⟨n - 1, by simp at hn; omega⟩
    refine ⟨H, τ, Gr.refl hw, hA, hC, fun k => ?_⟩
    have e1 : decide ((pre.length : Int) < (m : Int)) = false := decide_eq_false (by rw [← hm, he]; simp)
    rw [loopK_succ]
    simp only [s_age_Parse_l1, getK_mk f2, getK_mk f3, getK_mk f18, getK_mk f19, getK_mk f20, bin_lss, e1, condK_f, seqK]
  | cons s l ih =>
    intro pre st n fr H τ hw hB he hA hC ho hn f2 f3 f18 f19 f20
    obtain ⟨n, rfl⟩ : ∃ j, n = j + 1 := ⟨n - 1, by simp at hn; omega⟩
    have hmm : m = pre.length + (l.length + 1) := by rw [← hm, he]; simp
    have e1 : decide ((pre.length : Int) < (m : Int)) = true := decide_eq_true (by omega)
    obtain ⟨p, e2, e3⟩ := ho.rd.elem1 (i := pre.length) (x := .str s) (by rw [he]; simp)
    have hs : s ∈ ps := by rw [he]; simp
    obtain ⟨H1, τ1, k1, k2⟩ := h95 s (hsz s hs) H hw τ
    have hw1 := k1.wf
    have hA1 := hA.gr k1 (hA.lt hw)
    have hC1 := hC.gr k1 (hC.lt hw)
    have ho1 := ho.gr k1 hw (Nat.le_refl _)
    have e9 : wr .i64 ((pre.length : Int) + Int.ofNat 1) = ((pre ++ [s]).length : Int) := by
      rw [wr_id (by first | (simp; done) | (simp; omega) | omega) (by first | (simp; done) | (simp; omega) | omega)]
      simp
    -- the rest, from a memory on
    have rest : ∀ (st' : Ctl) (H2 : Heap) (fr' : T V), ctlStep st (pieceT s) = st' → WF H2 → B ≤ H2.size → Bx H2 iA cA → Bx H2 iC (ctlC st') → Own H2 Bp 1 v18 m (ps.map V.str) → Gr B H1 H2 →
        fr'.get 2 = some (.ptr iA 0) → fr'.get 3 = some (.ptr iC 0) → fr'.get 18 = some v18 → fr'.get 19 = some (.int .i64 (m : Int)) → fr'.get 20 = some (.int .i64 (pre.length : Int)) →
        ∃ H' τ', Gr B H H' ∧ Bx H' iA cA ∧ Bx H' iC (ctlC ((s :: l).foldl (fun st s => ctlStep st (pieceT s)) st)) ∧ ∀ k, s_age_Parse_j2 c N (seqK (fun st τ => loopK (s_age_Parse_l1 c N) n st τ k) k) ⟨fr', H2⟩ τ1 = k (.exit 0) ⟨T.set (T.set .leaf 2 (.ptr iA 0)) 3 (.ptr iC 0), H'⟩ τ' := by
      intro st' H2 fr' hst hw2 hB2 hA2 hC2 ho2 hG2 g2 g3 g18 g19 g20
      obtain ⟨H', τ', q1, q2, q3, q4⟩ := ih (pre ++ [s]) st' n (T.set (T.set (T.set (T.set (T.set (T.set (T.set .leaf 2 (.ptr iA 0)) 3 (.ptr iC 0)) 18 v18) 19 (.int .i64 (m : Int))) 20 (.int .i64 (pre.length : Int))) 51 (.int .i64 ((pre ++ [s]).length : Int))) 20 (.int .i64 ((pre ++ [s]).length : Int))) H2 τ1 hw2 hB2 (by rw [he]; simp) hA2 hC2 ho2 (by simp at hn; omega) (by simp [T.get_set]) (by simp [T.get_set]) (by simp [T.get_set]) (by simp [T.get_set]) (by simp [T.get_set])
      refine ⟨H', τ', (k1.weaken hB).trans (hG2.trans q1 (Nat.le_refl _)) (Nat.le_refl _), q2, by rw [List.foldl_cons, hst]; exact q3, fun k => ?_⟩
      simp only [s_age_Parse_j2, getK_mk g2, getK_mk g3, getK_mk g18, getK_mk g19, getK_mk g20, bin_add, e9, seqK]
      exact q4 k
    have hB1 : B ≤ H1.size := by have := k1.size; omega
    by_cases c1 : (pieceT s).1 = [110, 111, 45, 115, 116, 111, 114, 101]
    · obtain ⟨H2, m1, m2, m3⟩ := hC1.eStore hw1 0 (.bool true) 1 rfl (by simp [ctlC]) (by omega) rfl τ1
      obtain ⟨H', τ', q1, q2, q3, q4⟩ := rest (true, st.2.1, st.2.2) H2 (T.set (T.set (T.set (T.set (T.set (T.set (T.set (T.set (T.set .leaf 2 (.ptr iA 0)) 3 (.ptr iC 0)) 9 (.str (pieceT s).2)) 18 v18) 19 (.int .i64 (m : Int))) 20 (.int .i64 (pre.length : Int))) 29 (.str (pieceT s).1)) 30 (.bool true)) 32 (.ptr iC 0)) (by rw [ctlStep, if_pos c1]) m3.wf (by rw [m3.size]; exact hB1) (hA1.only m3 (by omega)) m2 (ho1.only m3 hCB) (m3.gr hBA) (by simp [T.get_set]) (by simp [T.get_set]) (by simp [T.get_set]) (by simp [T.get_set]) (by simp [T.get_set])
      refine ⟨H', τ', q1, q2, q3, fun k => ?_⟩
      rw [loopK_succ]
      simp only [s_age_Parse_l1, getK_mk f2, getK_mk f3, getK_mk f18, getK_mk f19, getK_mk f20, bin_lss, e1, condK_t, e2, someK_mk, e3, k2, pExtract, List.getElem?_cons_zero, List.getElem?_cons_succ, bin_str, str_eql, show ((pieceT s).1 == bs [110, 111, 45, 115, 116, 111, 114, 101]) = true from beq_iff_eq.2 c1, pFieldAddr, Nat.add_zero, m1, effK_mk]
      exact q4 k
    · have b1 : ((pieceT s).1 == bs [110, 111, 45, 115, 116, 111, 114, 101]) = false := beq_eq_false_iff_ne.2 c1
      by_cases c2 : (pieceT s).1 = [110, 111, 45, 99, 97, 99, 104, 101]
      · obtain ⟨H2, m1, m2, m3⟩ := hC1.eStore hw1 1 (.bool true) 1 rfl (by simp [ctlC]) (by omega) rfl τ1
        obtain ⟨H', τ', q1, q2, q3, q4⟩ := rest (st.1, true, st.2.2) H2 (T.set (T.set (T.set (T.set (T.set (T.set (T.set (T.set (T.set .leaf 2 (.ptr iA 0)) 3 (.ptr iC 0)) 9 (.str (pieceT s).2)) 18 v18) 19 (.int .i64 (m : Int))) 20 (.int .i64 (pre.length : Int))) 29 (.str (pieceT s).1)) 33 (.bool true)) 35 (.ptr iC 1)) (by rw [ctlStep, if_neg c1, if_pos c2]) m3.wf (by rw [m3.size]; exact hB1) (hA1.only m3 (by omega)) m2 (ho1.only m3 hCB) (m3.gr hBA) (by simp [T.get_set]) (by simp [T.get_set]) (by simp [T.get_set]) (by simp [T.get_set]) (by simp [T.get_set])
        refine ⟨H', τ', q1, q2, q3, fun k => ?_⟩
        rw [loopK_succ]
        simp only [s_age_Parse_l1, getK_mk f2, getK_mk f3, getK_mk f18, getK_mk f19, getK_mk f20, bin_lss, e1, condK_t, e2, someK_mk, e3, k2, pExtract, List.getElem?_cons_zero, List.getElem?_cons_succ, bin_str, str_eql, b1, condK_f, show ((pieceT s).1 == bs [110, 111, 45, 99, 97, 99, 104, 101]) = true from beq_iff_eq.2 c2, pFieldAddr, Nat.zero_add, m1, effK_mk]
        exact q4 k
      · have b2 : ((pieceT s).1 == bs [110, 111, 45, 99, 97, 99, 104, 101]) = false := beq_eq_false_iff_ne.2 c2
        by_cases c3 : (pieceT s).1 = [109, 97, 120, 45, 97, 103, 101]
        · have b3 : ((pieceT s).1 == bs [109, 97, 120, 45, 97, 103, 101]) = true := beq_iff_eq.2 c3
          have e5 : lLoad1 [.ptr iC 2] H1 = some (.int .i64 st.2.2) := load_cell hC1.cells rfl
          have e6 : decide (st.2.2 < Int.ofNat 0) = decide (st.2.2 < 0) := rfl
          by_cases c4 : (intB (pieceT s).2).2 = true ∧ st.2.2 < 0
          · obtain ⟨H2, m1, m2, m3⟩ := hC1.eStore hw1 2 (.int .i64 (intB (pieceT s).2).1) 1 rfl (by simp [ctlC]) (by omega) rfl τ1
            obtain ⟨H', τ', q1, q2, q3, q4⟩ := rest (st.1, st.2.1, (intB (pieceT s).2).1) H2 (T.set (T.set (T.set (T.set (T.set (T.set (T.set (T.set (T.set .leaf 2 (.ptr iA 0)) 3 (.ptr iC 0)) 10 (.int .i64 (intB (pieceT s).2).1)) 18 v18) 19 (.int .i64 (m : Int))) 20 (.int .i64 (pre.length : Int))) 48 (.bool true)) 49 (.int .i64 (intB (pieceT s).2).1)) 50 (.ptr iC 2)) (by rw [ctlStep, if_neg c1, if_neg c2, if_pos c3, if_pos c4]) m3.wf (by rw [m3.size]; exact hB1) (hA1.only m3 (by omega)) m2 (ho1.only m3 hCB) (m3.gr hBA) (by simp [T.get_set]) (by simp [T.get_set]) (by simp [T.get_set]) (by simp [T.get_set]) (by simp [T.get_set])
            refine ⟨H', τ', q1, q2, q3, fun k => ?_⟩
            rw [loopK_succ]
            simp only [s_age_Parse_l1, getK_mk f2, getK_mk f3, getK_mk f18, getK_mk f19, getK_mk f20, bin_lss, e1, condK_t, e2, someK_mk, e3, k2, pExtract, List.getElem?_cons_zero, List.getElem?_cons_succ, bin_str, str_eql, b1, b2, b3, condK_f, h79 _ (hpz s hs), c4.1, gK_do, retK, effK_mk, pFieldAddr, Nat.zero_add, e5, e6, decide_eq_true c4.2, pick_mk, cond_true, m1]
            exact q4 k
          · obtain ⟨H', τ', q1, q2, q3, q4⟩ := rest st H1 (T.set (T.set (T.set (T.set (T.set (T.set (T.set .leaf 2 (.ptr iA 0)) 3 (.ptr iC 0)) 10 (.int .i64 (intB (pieceT s).2).1)) 18 v18) 19 (.int .i64 (m : Int))) 20 (.int .i64 (pre.length : Int))) 48 (.bool false)) (by rw [ctlStep, if_neg c1, if_neg c2, if_pos c3, if_neg c4]) hw1 hB1 hA1 hC1 ho1 (Gr.refl hw1) (by simp [T.get_set]) (by simp [T.get_set]) (by simp [T.get_set]) (by simp [T.get_set]) (by simp [T.get_set])
            refine ⟨H', τ', q1, q2, q3, fun k => ?_⟩
            rw [loopK_succ]
            simp only [s_age_Parse_l1, getK_mk f2, getK_mk f3, getK_mk f18, getK_mk f19, getK_mk f20, bin_lss, e1, condK_t, e2, someK_mk, e3, k2, pExtract, List.getElem?_cons_zero, List.getElem?_cons_succ, bin_str, str_eql, b1, b2, b3, condK_f, h79 _ (hpz s hs)]
            cases hb : (intB (pieceT s).2).2 with
            | false =>
              simp only [gK_skip, someK_mk, pick_mk, cond_false, condK_f]
              exact q4 k
            | true =>
              have hlt : ¬ st.2.2 < 0 := fun h => c4 ⟨hb, h⟩
              simp only [gK_do, retK, effK_mk, pFieldAddr, Nat.zero_add, someK_mk, e5, bin_lss, e6, decide_eq_false hlt, pick_mk, cond_true, condK_f]
              exact q4 k
        · have b3 : ((pieceT s).1 == bs [109, 97, 120, 45, 97, 103, 101]) = false := beq_eq_false_iff_ne.2 c3
          obtain ⟨H', τ', q1, q2, q3, q4⟩ := rest st H1 (T.set (T.set (T.set (T.set (T.set (T.set (T.set .leaf 2 (.ptr iA 0)) 3 (.ptr iC 0)) 9 (.str (pieceT s).2)) 18 v18) 19 (.int .i64 (m : Int))) 20 (.int .i64 (pre.length : Int))) 36 (.bool false)) (by rw [ctlStep, if_neg c1, if_neg c2, if_neg c3]) hw1 hB1 hA1 hC1 ho1 (Gr.refl hw1) (by simp [T.get_set]) (by simp [T.get_set]) (by simp [T.get_set]) (by simp [T.get_set]) (by simp [T.get_set])
          refine ⟨H', τ', q1, q2, q3, fun k => ?_⟩
          rw [loopK_succ]
          simp only [s_age_Parse_l1, getK_mk f2, getK_mk f3, getK_mk f18, getK_mk f19, getK_mk f20, bin_lss, e1, condK_t, e2, someK_mk, e3, k2, pExtract, List.getElem?_cons_zero, List.getElem?_cons_succ, bin_str, str_eql, b1, b2, b3, condK_f]
          exact q4 k

def ccName : Bs := [99, 97, 99, 104, 101, 45, 99, 111, 110, 116, 114, 111, 108]
def parseT (hs : List (Bs × Bs)) : Ctl := (splitT ccName hs).foldl (fun st s => ctlStep st (pieceT s)) (false, false, -1)

theorem s_age_Parse_ret (c : CallK) (N : Nat) (hN : 9223372036854775807 ≤ N) (hs : List (Bs × Bs)) (h79 : IntOk c) (h95 : PieceOk c) (h91 : SplitOkS c ccName hs)
    (hsz : ∀ s ∈ splitT ccName hs, s.length ≤ 140737488355328) (hpz : ∀ s ∈ splitT ccName hs, (pieceT s).2.length < 9223372036854775807)
    (v : V) (H : Heap) (hw : WF H) (hr : RdH H v hs) (τ : Tape) :
    ∃ H' τ', Gr H.size H H' ∧ ∀ q, s_age_Parse c N v H τ q = q (.agg (ctlC (parseT hs))) H' τ' := by
  -- two variables
  have hG1 := Gr.new hw [V.bool false, V.bool false, V.int .i64 0] 3 true
  have hA1 := Bx.new H [V.bool false, V.bool false, V.int .i64 0] 3 true (Nat.le_refl _)
  generalize hH1 : H.new [V.bool false, V.bool false, V.int .i64 0] 3 true = H1 at hG1 hA1
  have hs1 : H1.size = H.size + 1 := by rw [← hH1]; rfl
  have hG2 := Gr.new hG1.wf [V.bool false, V.bool false, V.int .i64 0] 3 true
  have hC2 := Bx.new H1 [V.bool false, V.bool false, V.int .i64 0] 3 true (Nat.le_refl _)
  have hA2 := hA1.gr hG2 (hA1.lt hG1.wf)
  generalize hH2 : H1.new [V.bool false, V.bool false, V.int .i64 0] 3 true = H2 at hG2 hA2 hC2
  have hs2 : H2.size = H1.size + 1 := by rw [← hH2]; rfl
  obtain ⟨H3, m1, m2, m3⟩ := hC2.eStore hG2.wf 0 (.agg [.bool false, .bool false, .int .i64 (-1)]) 3 rfl (by simp) (by omega) rfl τ
  have m2 : Bx H3 H1.size (ctlC (false, false, -1)) := m2
  have hA3 := hA2.only m3 (by omega)
  have hG3 : Gr H.size H H3 := hG1.trans (hG2.trans (m3.gr (Nat.le_refl _)) (Nat.le_refl _)) (by omega)
  have hr3 := hr.gr hG3 hw (Nat.le_refl _)
  obtain ⟨v', H4, τ4, p1, p2, p3, p4⟩ := h91 v H3 m3.wf hr3 τ
  have hw4 := p3.wf
  have hA4 := hA3.gr p3 (hA3.lt m3.wf)
  have hC4 := m2.gr p3 (m2.lt m3.wf)
  have hlt3 : H1.size < H3.size := m2.lt m3.wf
  obtain ⟨H5, τ5, r1, r2, r3, r4⟩ := parse_loop c N h79 h95 (B := H.size) (iA := H.size) (iC := H1.size) (Bp := H3.size) (splitT ccName hs) rfl p2 hsz hpz (by omega) (by omega) hlt3 (splitT ccName hs) [] (false, false, -1) N (T.set (T.set (T.set (T.set (T.set .leaf 2 (.ptr H.size 0)) 3 (.ptr H1.size 0)) 18 v') 19 (.int .i64 ((splitT ccName hs).length : Int))) 20 (.int .i64 0)) H4 τ4 hw4 (by have := p3.size; omega) rfl hA4 hC4 p1 (by omega) (by simp [T.get_set]) (by simp [T.get_set]) (by simp [T.get_set]) (by simp [T.get_set]) (by simp [T.get_set])
  obtain ⟨H6, u1, u2, u3⟩ := r2.eStore r1.wf 0 (.agg (ctlC (parseT hs))) 3 rfl (by simp) (by omega) rfl τ5
  have u2 : Bx H6 H.size (ctlC (parseT hs)) := u2
  refine ⟨H6, τ5, hG3.trans ((p3.weaken (by have := hG3.size; omega)).trans (r1.trans (u3.gr (Nat.le_refl _)) (Nat.le_refl _)) (Nat.le_refl _)) (Nat.le_refl _), fun q => ?_⟩
  have e1 : eAlloc [(.bool false), (.bool false), (.int .i64 (.ofNat 0))] [] H τ = some (.ptr H.size 0, H1, τ) := by rw [← hH1]; rfl
  have e2 : eAlloc [(.bool false), (.bool false), (.int .i64 (.ofNat 0))] [] H1 τ = some (.ptr H1.size 0, H2, τ) := by rw [← hH2]; rfl
  have e3 : pBuild [(.bool false), (.bool false), (.int .i64 (.ofNat 0))] [(2, 1)] [(.int .i64 (.negSucc 0))] = some (.agg [.bool false, .bool false, .int .i64 (-1)]) := rfl
  have e4 : lLoadN 3 [.ptr H1.size 0] H5 = some (.agg (ctlC (parseT hs))) := by rw [load_cells r3.cells (by simp [ctlC])]; rfl
  have e5 : lLoadN 3 [.ptr H.size 0] H6 = some (.agg (ctlC (parseT hs))) := by rw [load_cells u2.cells (by simp [ctlC])]; rfl
  simp only [s_age_Parse, e1, e2, e3, effK_mk, someK_mk, m1]
  rw [show bs [99, 97, 99, 104, 101, 45, 99, 111, 110, 116, 114, 111, 108] = ccName from rfl, p4]
  simp only [pExtract, List.getElem?_cons_zero, List.getElem?_cons_succ, someK_mk, own_len p1]
  rw [show (V.int IntKind.i64 (Int.ofNat 0)) = .int .i64 0 from rfl, r4]
  simp only [blockK, Nat.beq_refl, cond_true, seqK, s_age_Parse_j0, getK_set, ↓reduceIte, Nat.reduceEqDiff, e4, someK_mk, u1, effK_mk]
  simp only [results, resAll, resOf, T.get_set_same, evalL, lLoad, e5, someK_mk]

def leastI : Int := -9223372036854775808
def InI (n : Int) : Prop := leastI ≤ n ∧ n ≤ mostI
def sinceT (a b : Int) : Int := if b ≤ a then 0 else if a < 0 ∧ mostI + a < b then mostI else b - a
def addT (a b : Int) : Int := if 0 < b ∧ mostI - b < a then mostI else if b < 0 ∧ a < leastI - b then 0 else if a + b < 0 then 0 else a + b

theorem s_age_since_ev (c : CallK) (N : Nat) {a b : Int} (ha : InI a) (hb : InI b) (H : Heap) (τ : Tape) (q : KV) : s_age_since c N (.int .i64 a) (.int .i64 b) H τ q = q (.int .i64 (sinceT a b)) H τ := by
  unfold InI leastI mostI at *
  by_cases h1 : b ≤ a
  · simp only [s_age_since, bin_leq, decide_eq_true h1, condK_t, sinceT, decide_false, decide_true, h1, if_true]
    rfl
  · by_cases h2 : a < 0
    · have e1 : decide (a < Int.ofNat 0) = true := decide_eq_true h2
      have e2 : wr .i64 (Int.ofNat 9223372036854775807 + a) = mostI + a := by
        rw [wr_id (by first | (simp; done) | (simp; omega) | omega) (by first | (simp; done) | (simp; omega) | omega)]; rfl
      by_cases h3 : mostI + a < b
      · simp only [s_age_since, bin_leq, decide_eq_false h1, condK_f, bin_lss, e1, gK_do, retK, effK_mk, bin_add, e2, bin_gtr, decide_eq_true h3, someK_mk, pick_mk, cond_true, condK_t, sinceT, decide_false, decide_true, h1, if_false, h2, h3, and_self, if_true]
        rfl
      · have e3 : wr .i64 (b - a) = b - a := wr_id (by omega) (by unfold mostI at h3; omega)
        simp only [s_age_since, bin_leq, decide_eq_false h1, condK_f, bin_lss, e1, gK_do, retK, effK_mk, bin_add, e2, bin_gtr, decide_eq_false h3, someK_mk, pick_mk, cond_true, bin_sub, e3, sinceT, decide_false, decide_true, h1, if_false, h2, h3, and_false]
    · have e1 : decide (a < Int.ofNat 0) = false := decide_eq_false h2
      have e3 : wr .i64 (b - a) = b - a := wr_id (by omega) (by omega)
      simp only [s_age_since, bin_leq, decide_eq_false h1, condK_f, bin_lss, e1, gK_skip, someK_mk, pick_mk, cond_false, bin_sub, e3, sinceT, decide_false, decide_true, h1, if_false, h2, false_and]

theorem s_age_Add_ev (c : CallK) (N : Nat) {a b : Int} (ha : InI a) (hb : InI b) (H : Heap) (τ : Tape) (q : KV) : s_age_Add c N (.int .i64 a) (.int .i64 b) H τ q = q (.int .i64 (addT a b)) H τ := by
  unfold InI leastI mostI at *
  have fin : ∀ (v : Int), -9223372036854775808 ≤ v → v ≤ 9223372036854775807 → pMax [.int .i64 (wr .i64 v), .int .i64 (.ofNat 0)] = some (.int .i64 (if v < 0 then 0 else v)) := by
    intro v h1 h2
    rw [wr_id h1 h2]
    rfl
  by_cases h1 : 0 < b
  · have e1 : decide (Int.ofNat 0 < b) = true := decide_eq_true h1
    have e2 : wr .i64 (Int.ofNat 9223372036854775807 - b) = mostI - b := by
      rw [wr_id (by first | (simp; done) | (simp; omega) | omega) (by first | (simp; done) | (simp; omega) | omega)]; rfl
    have e4 : decide (b < Int.ofNat 0) = false := decide_eq_false (by first | (simp; done) | (simp; omega) | omega)
    have h1' : ¬ b < 0 := by omega
    by_cases h3 : mostI - b < a
    · simp only [s_age_Add, bin_gtr, e1, gK_do, retK, effK_mk, bin_sub, e2, decide_eq_true h3, someK_mk, pick_mk, cond_true, condK_t, addT, decide_false, decide_true, h1, h3, and_self, if_true]
      rfl
    · simp only [s_age_Add, bin_gtr, e1, gK_do, retK, effK_mk, bin_sub, e2, decide_eq_false h3, someK_mk, pick_mk, cond_true, condK_f, bin_lss, e4, gK_skip, cond_false, bin_add, fin (a + b) (by omega) (by unfold mostI at h3; omega), addT, decide_false, decide_true, h1, h3, and_false, if_false, h1', false_and]
  · have e1 : decide (Int.ofNat 0 < b) = false := decide_eq_false h1
    by_cases h2 : b < 0
    · have e2 : decide (b < Int.ofNat 0) = true := decide_eq_true h2
      have e3 : wr .i64 (Int.negSucc 9223372036854775807 - b) = leastI - b := by
        rw [wr_id (by rw [Int.negSucc_eq]; omega) (by rw [Int.negSucc_eq]; omega)]; rfl
      by_cases h4 : a < leastI - b
      · simp only [s_age_Add, bin_gtr, e1, gK_skip, someK_mk, pick_mk, cond_false, condK_f, bin_lss, e2, gK_do, retK, effK_mk, bin_sub, e3, decide_eq_true h4, cond_true, condK_t, addT, decide_false, decide_true, h1, false_and, if_false, h2, h4, and_self, if_true]
        rfl
      · simp only [s_age_Add, bin_gtr, e1, gK_skip, someK_mk, pick_mk, cond_false, condK_f, bin_lss, e2, gK_do, retK, effK_mk, bin_sub, e3, decide_eq_false h4, cond_true, bin_add, fin (a + b) (by unfold leastI at h4; omega) (by omega), addT, decide_false, decide_true, h1, false_and, if_false, h2, h4, and_false]
    · have e2 : decide (b < Int.ofNat 0) = false := decide_eq_false h2
      simp only [s_age_Add, bin_gtr, e1, gK_skip, someK_mk, pick_mk, cond_false, condK_f, bin_lss, e2, bin_add, fin (a + b) (by omega) (by omega), addT, decide_false, decide_true, h1, false_and, if_false, h2]

theorem intL_range : ∀ (s : Bs) (n m : Int), 0 ≤ n → n ≤ mostI → intL s n = some m → 0 ≤ m ∧ m ≤ mostI := by
  intro s
  induction s with
  | nil => intro n m h0 h1 h; cases h; exact ⟨h0, h1⟩
  | cons x s ih =>
    intro n m h0 h1 h
    simp only [intL] at h
    split at h
    · rename_i hx
      have := intStep_range h0 h1 (d := (x.toNat : Int) - 48) (by omega) (by omega)
      exact ih _ _ this.1 this.2 h
    · cases h
theorem intB_range (s : Bs) : 0 ≤ (intB s).1 ∧ (intB s).1 ≤ mostI := by
  unfold intB
  cases h : intL s 0 with
  | none => simp only; unfold mostI; omega
  | some m => exact intL_range s 0 m (Int.le_refl _) (by unfold mostI; omega) h
theorem sinceT_range {a b : Int} (ha : InI a) (hb : InI b) : 0 ≤ sinceT a b ∧ sinceT a b ≤ mostI := by
  unfold InI at *
  unfold sinceT leastI mostI at *
  split
  · omega
  · split <;> omega

def ageName : Bs := [97, 103, 101]
def ageT (hs : List (Bs × Bs)) (a b : Int) : Int := addT (intB (strip (getT ageName hs))).1 (sinceT a b)
theorem s_age_Age_ret (c : CallK) (N : Nat) (hs : List (Bs × Bs)) (h78 : GetOkS c ageName hs) (hj : (getT ageName hs).length < 9223372036854775807) (h80 : StripOk' c) (h79 : IntOk c)
    (h81 : ∀ a b, InI a → InI b → ∀ H τ q, c f_age_since [.int .i64 a, .int .i64 b] H τ q = q (.int .i64 (sinceT a b)) H τ) (h31 : ∀ a b, InI a → InI b → ∀ H τ q, c f_age_Add [.int .i64 a, .int .i64 b] H τ q = q (.int .i64 (addT a b)) H τ)
    {a b : Int} (ha : InI a) (hb : InI b) (v : V) (H : Heap) (hw : WF H) (hr : RdH H v hs) (τ : Tape) :
    ∃ H' τ', Gr H.size H H' ∧ ∀ q, s_age_Age c N v (.int .i64 a) (.int .i64 b) H τ q = q (.int .i64 (ageT hs a b)) H' τ' := by
  obtain ⟨H1, τ1, k1, k2⟩ := h78 v H hw hr τ
  obtain ⟨H2, τ2, m1, m2⟩ := h80 (getT ageName hs) hj H1 k1.wf τ1
  refine ⟨H2, τ2, k1.trans m1 k1.size, fun q => ?_⟩
  have hl : (strip (getT ageName hs)).length < 9223372036854775807 := by have := trimB_length blank (getT ageName hs); unfold strip; omega
  have h1 := intB_range (strip (getT ageName hs))
  have h2 := sinceT_range ha hb
  simp only [s_age_Age]
  rw [show bs [97, 103, 101] = ageName from rfl, k2]
  simp only [pExtract, List.getElem?_cons_zero, List.getElem?_cons_succ, someK_mk, m2, h79 _ hl]
  rw [h81 a b ha hb, h31 _ _ ⟨by unfold leastI; omega, h1.2⟩ ⟨by unfold leastI; omega, h2.2⟩]
  rfl

def freshT (hs : List (Bs × Bs)) (a b : Int) : Bool := !(parseT hs).2.1 && decide (ageT hs a b < (parseT hs).2.2)
theorem s_age_Fresh_ret (c : CallK) (N : Nat) (hs : List (Bs × Bs)) (h53 : ∀ (v : V) (H : Heap), WF H → RdH H v hs → ∀ τ, ∃ H' τ', Gr H.size H H' ∧ ∀ q, c f_age_Parse [v] H τ q = q (.agg (ctlC (parseT hs))) H' τ')
    (h29 : ∀ (a b : Int), InI a → InI b → ∀ (v : V) (H : Heap), WF H → RdH H v hs → ∀ τ, ∃ H' τ', Gr H.size H H' ∧ ∀ q, c f_age_Age [v, .int .i64 a, .int .i64 b] H τ q = q (.int .i64 (ageT hs a b)) H' τ')
    {a b : Int} (ha : InI a) (hb : InI b) (v : V) (H : Heap) (hw : WF H) (hr : RdH H v hs) (τ : Tape) :
    ∃ H' τ', Gr H.size H H' ∧ ∀ q, s_age_Fresh c N v (.int .i64 a) (.int .i64 b) H τ q = q (.bool (freshT hs a b)) H' τ' := by
  obtain ⟨H1, τ1, k1, k2⟩ := h53 v H hw hr τ
  have hG2 := Gr.new k1.wf [V.bool false, V.bool false, V.int .i64 0] 3 true
  have hC2 := Bx.new H1 [V.bool false, V.bool false, V.int .i64 0] 3 true (Nat.le_refl _)
  generalize hH2 : H1.new [V.bool false, V.bool false, V.int .i64 0] 3 true = H2 at hG2 hC2
  obtain ⟨H3, m1, m2, m3⟩ := hC2.eStore hG2.wf 0 (.agg (ctlC (parseT hs))) 3 rfl (by simp) (by omega) rfl τ1
  have m2 : Bx H3 H1.size (ctlC (parseT hs)) := m2
  have hG3 : Gr H.size H H3 := k1.trans (hG2.trans (m3.gr (Nat.le_refl _)) (Nat.le_refl _)) k1.size
  obtain ⟨H4, τ4, p1, p2⟩ := h29 a b ha hb v H3 m3.wf (hr.gr hG3 hw (Nat.le_refl _)) τ1
  have m4 := m2.gr p1 (m2.lt m3.wf)
  have e1 : eAlloc [(.bool false), (.bool false), (.int .i64 (.ofNat 0))] [] H1 τ1 = some (.ptr H1.size 0, H2, τ1) := by rw [← hH2]; rfl
  have e2 : lLoad1 [.ptr H1.size (0 + 1)] H3 = some (.bool (parseT hs).2.1) := load_cell m2.cells rfl
  cases hnc : (parseT hs).2.1 with
  | true =>
    refine ⟨H3, τ1, hG3, fun q => ?_⟩
    have hf : freshT hs a b = false := by simp [freshT, hnc]
    rw [hnc] at e2
    simp only [s_age_Fresh, k2, e1, effK_mk, m1, pFieldAddr, someK_mk, e2, un_not, Bool.not_true, gK_skip, pick_mk, cond_false, wantsV, hf]
    rfl
  | false =>
    refine ⟨H4, τ4, hG3.trans p1 hG3.size, fun q => ?_⟩
    have hf : freshT hs a b = decide (ageT hs a b < (parseT hs).2.2) := by simp [freshT, hnc]
    rw [hnc] at e2
    have e3 : lLoad1 [.ptr H1.size (0 + 2)] H3 = some (.int .i64 (parseT hs).2.2) := load_cell m2.cells rfl
    have e4 : lLoad1 [.ptr H1.size (0 + 2)] H4 = some (.int .i64 (parseT hs).2.2) := load_cell m4.cells rfl
    have e5 : chkLoads [H3, H4] [((.load none), [.ptr H1.size (0 + 2)], 0, 1)] = true := by
      simp [chkLoads, evalL, lLoad, e3, chk1, e4, same, same1, same0]
    simp only [s_age_Fresh, k2, e1, effK_mk, m1, pFieldAddr, someK_mk, e2, un_not, Bool.not_false, gK_do, retK, e3, p2, bin_gtr, pick_mk, cond_true, wantsV, hf]
    rw [show (true == true) = true from rfl]
    simp only [e5, cond_true]

end Go.Am.X


namespace Go.Am.X
set_option linter.unusedSimpArgs false
set_option linter.unusedVariables false
set_option linter.unusedSectionVars false
set_option maxRecDepth 100000
theorem splitF_mem : ∀ (n : Nat) (s : Bs), s.length ≤ n → ∀ (q : Bool) (cur : Bs), (∀ p ∈ (splitF q cur s).1, p.length ≤ cur.length + s.length) ∧ (splitF q cur s).2.length ≤ cur.length + s.length := by
  intro n
  induction n with
  | zero =>
    intro s hn q cur
    obtain rfl := List.eq_nil_of_length_eq_zero (by omega : s.length = 0)
    simp [splitF]
  | succ n ih =>
    intro s hn q cur
    cases s with
    | nil => simp [splitF]
    | cons x r =>
      have hr : r.length ≤ n := by simp at hn; omega
      have up : ∀ (q' : Bool) (cur' r' : Bs), r'.length ≤ n → cur'.length + r'.length ≤ cur.length + (x :: r).length → splitF q cur (x :: r) = splitF q' cur' r' → (∀ p ∈ (splitF q cur (x :: r)).1, p.length ≤ cur.length + (x :: r).length) ∧ (splitF q cur (x :: r)).2.length ≤ cur.length + (x :: r).length := by
        intro q' cur' r' h1 h2 h3
        rw [h3]
        obtain ⟨a, b⟩ := ih r' h1 q' cur'
        exact ⟨fun p hp => by have := a p hp; omega, by omega⟩
      by_cases c34 : x = 34
      · exact up (!q) (cur ++ [x]) r hr (by simp; omega) (splitF_quote q cur r c34)
      · cases q with
        | true =>
          by_cases c92 : x = 92
          · cases r with
            | nil => rw [splitF_end cur c34 c92]; simp
            | cons y r' => exact up true (cur ++ [x, y]) r' (by simp at hr; omega) (by simp; omega) (splitF_esc cur y r' c34 c92)
          · exact up true (cur ++ [x]) r hr (by simp; omega) (splitF_in cur r c34 c92)
        | false =>
          by_cases c44 : x = 44
          · rw [splitF_comma cur r c34 c44]
            obtain ⟨a, b⟩ := ih r hr false []
            refine ⟨fun p hp => ?_, by simp at b ⊢; omega⟩
            rcases List.mem_cons.1 hp with e | e
            · rw [e]; omega
            · have := a p e; simp at this ⊢; omega
          · exact up false (cur ++ [x]) r hr (by simp; omega) (splitF_out cur r c34 c44)
theorem piece_len {s p : Bs} (h : p ∈ piecesB s) : p.length ≤ s.length := by
  unfold piecesB at h
  obtain ⟨y, hy, rfl⟩ := List.mem_map.1 h
  obtain ⟨a, b⟩ := splitF_mem s.length s (Nat.le_refl _) false []
  have := trimB_length tight y
  rcases List.mem_append.1 hy with e | e
  · have := a y e; simp at this; omega
  · rw [List.mem_singleton] at e; subst e; simp at b; omega
theorem splitT_mem {name : Bs} {hs : List Hd} (hS : Small hs) {p : Bs} (h : p ∈ splitT name hs) : p.length ≤ 10002000 := by
  unfold splitT at h
  split at h
  · have := piece_len h; have := getT_small hS name; omega
  · simp at h
theorem splitT_count {name : Bs} {hs : List Hd} (hS : Small hs) : (splitT name hs).length ≤ 10002001 := by
  unfold splitT
  split
  · have := piecesB_len (getT name hs); have := getT_small hS name; omega
  · simp
theorem unq_len (v : Bs) : (unq v).length ≤ v.length := by
  unfold unq
  split
  · rw [List.length_drop, List.length_take]; omega
  · exact Nat.le_refl _
theorem pieceT_len (s : Bs) : (pieceT s).1.length ≤ s.length ∧ (pieceT s).2.length ≤ s.length := by
  unfold pieceT
  cases h : cutB 61 s with
  | none =>
    have h1 := strip_len s
    have h2 := strip_len ([] : Bs)
    have h3 := unq_len (strip [])
    exact ⟨by rw [lower_len]; exact h1, by simp at h2; simp only; rw [h2] at h3 ⊢; simp at h3; simp [h3]⟩
  | some ab =>
    obtain ⟨a, b⟩ := ab
    have h0 := cutB_len 61 s a b h
    have h1 := strip_len a
    have h2 := strip_len b
    have h3 := unq_len (strip b)
    exact ⟨by simp only; rw [lower_len]; omega, by simp only; omega⟩
theorem cutOk_of {c : CallK} (h : RCutOk c) (x : UInt8) : CutOk c x := fun s hs H τ q => h s x hs H τ q
theorem stripOk_of {c : CallK} (h : NStripOk c) : StripOk c := fun s hs H hw τ q => ⟨H, Gr.refl hw, h s (by omega) H τ q⟩
theorem stripOk'_of {c : CallK} (h : NStripOk c) : StripOk' c := fun s hs H hw τ => ⟨H, τ, Gr.refl hw, fun q => h s (by omega) H τ q⟩
theorem lowOk_of {c : CallK} (h : NLowOk c) : LowOk c := fun s hs H hw τ q => ⟨H, τ, Gr.refl hw, h s hs H τ q⟩
theorem intOk_of {c : CallK} (h : NIntOk c) : IntOk c := fun s hs H τ q => h s (by omega) H τ q
abbrev PieceR := RS 140737488355328 fun s => .tup [.str (pieceT s).1, .str (pieceT s).2]
noncomputable abbrev rw_piece : List Row := [Row.fn f_age_piece fn_age_piece e_age_piece, Row.prim f_strings_Cut (outP CutR), Row.prim f_infra_Strip (outP RStripR), Row.prim f_infra_Lower (outP LowR)]
theorem p_age_piece : ∀ base w0, PrimOk PG base w0 f_age_piece (outP PieceR) := by
  obtain ⟨N, hN⟩ := someN
  refine primOk_out mixed_ok (l := rw_piece) (.fn ok_age_piece e_age_piece_ok (.prim p_strings_Cut (.prim p_infra_Strip (.prim p_infra_Lower (.nil _))))) N 2 _ ?_
  rintro vs H o hw hvs ⟨hp, rfl⟩ τ
  unfold strP at hp; split at hp
  · obtain ⟨H', τ', g, k⟩ := s_age_piece_ret (CR rw_piece N 1) N (cutOk_of (k_strings_Cut fun _ _ _ _ => rfl) 61) (stripOk_of (k_infra_Strip fun _ _ _ _ => rfl)) (lowOk_of (k_infra_Lower fun _ _ _ _ => rfl)) _ hp H hw τ retK
    exact ⟨_, H', τ', k, g, rfl, trivial, trivial, trivial⟩
  · exact hp.elim
abbrev CtlPre (hs : List Hd) : List V → Prop | [] => Small hs | _ => False
abbrev CtlG (_ : Bool) (hs : List Hd) : List V → Out | [] => .val (.agg (ctlC (parseT hs))) | _ => .val (.tup [])
theorem ctl_vok (H : Heap) (st : Ctl) : VOk H (.agg (ctlC st)) := ⟨trivial, trivial, trivial, trivial⟩
noncomputable abbrev rw_Parse : List Row := [Row.fn f_age_Parse fn_age_Parse e_age_Parse, Row.prim f_headers_Split (outP (RH GetPre SplitG)), Row.prim f_age_piece (outP PieceR), Row.prim f_infra_Int (outP IntR)]
theorem p_age_Parse : ∀ base w0, PrimOk PG base w0 f_age_Parse (outP (RH CtlPre CtlG)) := by
  obtain ⟨N, hN⟩ := someN
  refine primRH (N := N) (l := rw_Parse) (.fn ok_age_Parse e_age_Parse_ok (.prim p_headers_Split (.prim p_age_piece (.prim p_infra_Int (.nil _))))) 2 _ (fun hs args hp lv H hw hr τ => ?_)
  unfold CtlPre at hp; split at hp
  · obtain ⟨H', τ', g, k⟩ := s_age_Parse_ret (CR rw_Parse N 1) N (Nat.le_of_lt hN) hs (intOk_of (k_infra_Int fun _ _ _ _ => rfl)) (fun s hs H hw τ => ⟨H, τ, Gr.refl hw, fun q => callS (c := CR rw_Parse N 1) (f := f_age_piece) (M := 140737488355328) (g := fun s => .tup [.str (pieceT s).1, .str (pieceT s).2]) (fun _ _ _ _ => rfl) s hs H τ q⟩)
      (fun v H hw hr τ => by
        obtain ⟨v', H', τ', a1, a2, a3⟩ := k_Split (c := CR rw_Parse N 1) (f := f_headers_Split) (fun _ _ _ _ => rfl) hp (name := ccName) (by decide) hw hr τ
        exact ⟨v', H', τ', a1, by have := splitT_count (name := ccName) hp; omega, a2, a3⟩) (fun s hs' => by have := splitT_mem hp hs'; omega) (fun s hs' => by have := splitT_mem hp hs'; have := (pieceT_len s).2; omega) lv H hw hr τ
    exact ⟨_, H', τ', g, ⟨rfl, ctl_vok _ _⟩, k⟩
  · exact hp.elim
theorem k_Ctl {c : CallK} {f : Nat} (h : IsP c f (RH CtlPre CtlG)) {hs : List Hd} (hS : Small hs) {lv : V} {H : Heap} (hr : RdH H lv hs) (τ : Tape) (q : KV) : c f [lv] H τ q = q (.agg (ctlC (parseT hs))) H τ := RH_val (l := []) h hr hS rfl τ q
abbrev TwoI (vs : List V) : Prop := ∃ a b : Int, vs = [.int .i64 a, .int .i64 b] ∧ InI a ∧ InI b
abbrev AddG2 : List V → V | [.int .i64 a, .int .i64 b] => .int .i64 (addT a b) | _ => .tup []
abbrev AgeAddR := RV TwoI AddG2
theorem p_age_Add : ∀ base w0, PrimOk PG base w0 f_age_Add (outP AgeAddR) := by
  obtain ⟨N, hN⟩ := someN
  refine primRV (N := N) (l := [Row.fn f_age_Add fn_age_Add e_age_Add]) (.fn ok_age_Add e_age_Add_ok (.nil _)) 1 _ (fun vs H h => ?_) (fun vs h H hw τ => ?_)
  · obtain ⟨a, b, rfl, _⟩ := h; trivial
  · obtain ⟨a, b, rfl, ha, hb⟩ := h
    exact ⟨H, τ, Gr.refl hw, fun q => s_age_Add_ev (CR [Row.fn f_age_Add fn_age_Add e_age_Add] N 0) N ha hb H τ q⟩
theorem k_Add2 {c : CallK} {f : Nat} (h : IsP c f AgeAddR) {a b : Int} (ha : InI a) (hb : InI b) (H : Heap) (τ : Tape) (q : KV) : c f [.int .i64 a, .int .i64 b] H τ q = q (.int .i64 (addT a b)) H τ := RV_call h (vs := [.int .i64 a, .int .i64 b]) ⟨a, b, rfl, ha, hb⟩ H τ q
abbrev AgePre (hs : List Hd) (l : List V) : Prop := ∃ a b : Int, l = [.int .i64 a, .int .i64 b] ∧ InI a ∧ InI b ∧ Small hs
abbrev AgeG (_ : Bool) (hs : List Hd) : List V → Out | [.int .i64 a, .int .i64 b] => .val (.int .i64 (ageT hs a b)) | _ => .val (.tup [])
abbrev FreshG (_ : Bool) (hs : List Hd) : List V → Out | [.int .i64 a, .int .i64 b] => .val (.bool (freshT hs a b)) | _ => .val (.tup [])
noncomputable abbrev rw_Age : List Row := [Row.fn f_age_Age fn_age_Age e_age_Age, Row.fn f_age_since fn_age_since e_age_since, Row.prim f_age_Add (outP AgeAddR), Row.prim f_headers_Get (outP (RH GetPre GetG)), Row.prim f_infra_Strip (outP RStripR), Row.prim f_infra_Int (outP IntR)]
theorem p_age_Age : ∀ base w0, PrimOk PG base w0 f_age_Age (outP (RH AgePre AgeG)) := by
  obtain ⟨N, hN⟩ := someN
  refine primRH (N := N) (l := rw_Age) (.fn ok_age_Age e_age_Age_ok (.fn ok_age_since e_age_since_ok (.prim p_age_Add (.prim p_headers_Get (.prim p_infra_Strip (.prim p_infra_Int (.nil _))))))) 2 _ (fun hs args hp lv H hw hr τ => ?_)
  obtain ⟨a, b, rfl, ha, hb, hS⟩ := hp
  obtain ⟨H', τ', g, k⟩ := s_age_Age_ret (CR rw_Age N 1) N hs (fun v H hw hr τ => ⟨H, τ, Gr.refl hw, fun q => k_Get (c := CR rw_Age N 1) (f := f_headers_Get) (fun _ _ _ _ => rfl) hS (name := ageName) (by decide) hr τ q⟩) (by have := getT_small hS ageName; omega) (stripOk'_of (k_infra_Strip fun _ _ _ _ => rfl)) (intOk_of (k_infra_Int fun _ _ _ _ => rfl))
    (fun a b ha hb H τ q => s_age_since_ev (CR rw_Age N 0) N ha hb H τ q) (fun a b ha hb H τ q => k_Add2 (c := CR rw_Age N 1) (f := f_age_Add) (fun _ _ _ _ => rfl) ha hb H τ q) ha hb lv H hw hr τ
  exact ⟨_, H', τ', g, ⟨rfl, trivial⟩, k⟩
theorem k_Age {c : CallK} {f : Nat} (h : IsP c f (RH AgePre AgeG)) {hs : List Hd} (hS : Small hs) {a b : Int} (ha : InI a) (hb : InI b) {lv : V} {H : Heap} (hr : RdH H lv hs) (τ : Tape) (q : KV) : c f [lv, .int .i64 a, .int .i64 b] H τ q = q (.int .i64 (ageT hs a b)) H τ :=
  RH_val (l := [.int .i64 a, .int .i64 b]) h hr ⟨a, b, rfl, ha, hb, hS⟩ rfl τ q
noncomputable abbrev rw_Fresh : List Row := [Row.fn f_age_Fresh fn_age_Fresh e_age_Fresh, Row.prim f_age_Parse (outP (RH CtlPre CtlG)), Row.prim f_age_Age (outP (RH AgePre AgeG))]
theorem p_age_Fresh : ∀ base w0, PrimOk PG base w0 f_age_Fresh (outP (RH AgePre FreshG)) := by
  obtain ⟨N, hN⟩ := someN
  refine primRH (N := N) (l := rw_Fresh) (.fn ok_age_Fresh e_age_Fresh_ok (.prim p_age_Parse (.prim p_age_Age (.nil _)))) 2 _ (fun hs args hp lv H hw hr τ => ?_)
  obtain ⟨a, b, rfl, ha, hb, hS⟩ := hp
  obtain ⟨H', τ', g, k⟩ := s_age_Fresh_ret (CR rw_Fresh N 1) N hs (fun v H hw hr τ => ⟨H, τ, Gr.refl hw, fun q => k_Ctl (c := CR rw_Fresh N 1) (f := f_age_Parse) (fun _ _ _ _ => rfl) hS hr τ q⟩) (fun a b ha hb v H hw hr τ => ⟨H, τ, Gr.refl hw, fun q => k_Age (c := CR rw_Fresh N 1) (f := f_age_Age) (fun _ _ _ _ => rfl) hS ha hb hr τ q⟩) ha hb lv H hw hr τ
  exact ⟨_, H', τ', g, ⟨rfl, trivial⟩, k⟩
theorem k_Fresh {c : CallK} {f : Nat} (h : IsP c f (RH AgePre FreshG)) {hs : List Hd} (hS : Small hs) {a b : Int} (ha : InI a) (hb : InI b) {lv : V} {H : Heap} (hr : RdH H lv hs) (τ : Tape) (q : KV) : c f [lv, .int .i64 a, .int .i64 b] H τ q = q (.bool (freshT hs a b)) H τ :=
  RH_val (l := [.int .i64 a, .int .i64 b]) h hr ⟨a, b, rfl, ha, hb, hS⟩ rfl τ q
end Go.Am.X


namespace Go.Am.X
set_option linter.unusedSimpArgs false
set_option linter.unusedVariables false
set_option linter.unusedSectionVars false
set_option maxRecDepth 100000
theorem s_ref16_Add_ret (c : CallK) (N : Nat) {a b : Int} (ha : InI a) (hb : InI b) (H : Heap) (τ : Tape) (q : KV) : s_ref16_Add c N (.int .i64 a) (.int .i64 b) H τ q = q (.int .i64 (addT a b)) H τ := by
  unfold InI leastI mostI at *
  have fin : ∀ (v : Int), -9223372036854775808 ≤ v → v ≤ 9223372036854775807 → wr .i64 v = v := fun v h1 h2 => wr_id h1 h2
  have z0 : ∀ v : Int, decide (v < Int.ofNat 0) = decide (v < 0) := fun _ => rfl
  have z1 : decide (Int.ofNat 0 < b) = decide (0 < b) := rfl
  have m1 : (V.int IntKind.i64 (Int.ofNat 9223372036854775807)) = .int .i64 mostI := rfl
  have m2 : (V.int IntKind.i64 (Int.negSucc 9223372036854775807)) = .int .i64 leastI := rfl
  by_cases h1 : 0 < b
  · have e2 : wr .i64 (mostI - b) = mostI - b := by unfold mostI; exact wr_id (by omega) (by omega)
    have h1' : decide (b < 0) = false := decide_eq_false (by omega)
    by_cases h3 : mostI - b < a
    · have hT : addT a b = mostI := by unfold addT; rw [if_pos ⟨h1, h3⟩]
      simp only [s_ref16_Add, m1, m2, getK_set, ↓reduceIte, Nat.reduceEqDiff, someK_n, effK_n, retK, gK_do, gK_do', gK_skip, gK_skip', gK_none, pick_mk, cond_true, cond_false, condK_tn, condK_fn, bin_eql, bin_neq, bin_lss, bin_leq, bin_gtr, bin_geq, un_not, Bool.not_true, Bool.not_false, bin_str, lenS_mk, nle_l, nle_r, nle_n, nlt_l, nlt_r, nlt_n, neq_r, neq_n, nne_r, nne_n, ext0, ext1, ext30, ext31, ext32, bin_add, bin_sub, decide_true, decide_false, z0, z1, decide_eq_true h1, e2, decide_eq_true h3, hT]
    · have hT : addT a b = if a + b < 0 then 0 else a + b := by unfold addT; rw [if_neg (fun h => h3 h.2), if_neg (fun h => by omega)]
      have e3 := fin (a + b) (by omega) (by unfold mostI at h3; omega)
      rw [hT]
      by_cases h5 : a + b < 0
      · rw [if_pos h5]; simp only [s_ref16_Add, m1, m2, getK_set, ↓reduceIte, Nat.reduceEqDiff, someK_n, effK_n, retK, gK_do, gK_do', gK_skip, gK_skip', gK_none, pick_mk, cond_true, cond_false, condK_tn, condK_fn, bin_eql, bin_neq, bin_lss, bin_leq, bin_gtr, bin_geq, un_not, Bool.not_true, Bool.not_false, bin_str, lenS_mk, nle_l, nle_r, nle_n, nlt_l, nlt_r, nlt_n, neq_r, neq_n, nne_r, nne_n, ext0, ext1, ext30, ext31, ext32, bin_add, bin_sub, decide_true, decide_false, z0, z1, decide_eq_true h1, e2, decide_eq_false h3, h1', e3, decide_eq_true h5]; rfl
      · rw [if_neg h5]; simp only [s_ref16_Add, m1, m2, getK_set, ↓reduceIte, Nat.reduceEqDiff, someK_n, effK_n, retK, gK_do, gK_do', gK_skip, gK_skip', gK_none, pick_mk, cond_true, cond_false, condK_tn, condK_fn, bin_eql, bin_neq, bin_lss, bin_leq, bin_gtr, bin_geq, un_not, Bool.not_true, Bool.not_false, bin_str, lenS_mk, nle_l, nle_r, nle_n, nlt_l, nlt_r, nlt_n, neq_r, neq_n, nne_r, nne_n, ext0, ext1, ext30, ext31, ext32, bin_add, bin_sub, decide_true, decide_false, z0, z1, decide_eq_true h1, e2, decide_eq_false h3, h1', e3, decide_eq_false h5]
  · by_cases h2 : b < 0
    · have e3 : wr .i64 (leastI - b) = leastI - b := by unfold leastI; exact wr_id (by omega) (by omega)
      by_cases h4 : a < leastI - b
      · have hT : addT a b = 0 := by unfold addT; rw [if_neg (fun h => h1 h.1), if_pos ⟨h2, h4⟩]
        rw [hT]
        simp only [s_ref16_Add, m1, m2, getK_set, ↓reduceIte, Nat.reduceEqDiff, someK_n, effK_n, retK, gK_do, gK_do', gK_skip, gK_skip', gK_none, pick_mk, cond_true, cond_false, condK_tn, condK_fn, bin_eql, bin_neq, bin_lss, bin_leq, bin_gtr, bin_geq, un_not, Bool.not_true, Bool.not_false, bin_str, lenS_mk, nle_l, nle_r, nle_n, nlt_l, nlt_r, nlt_n, neq_r, neq_n, nne_r, nne_n, ext0, ext1, ext30, ext31, ext32, bin_add, bin_sub, decide_true, decide_false, z0, z1, decide_eq_false h1, decide_eq_true h2, e3, decide_eq_true h4]; rfl
      · have hT : addT a b = if a + b < 0 then 0 else a + b := by unfold addT; rw [if_neg (fun h => h1 h.1), if_neg (fun h => h4 h.2)]
        have e5 := fin (a + b) (by unfold leastI at h4; omega) (by omega)
        rw [hT]
        by_cases h5 : a + b < 0
        · rw [if_pos h5]; simp only [s_ref16_Add, m1, m2, getK_set, ↓reduceIte, Nat.reduceEqDiff, someK_n, effK_n, retK, gK_do, gK_do', gK_skip, gK_skip', gK_none, pick_mk, cond_true, cond_false, condK_tn, condK_fn, bin_eql, bin_neq, bin_lss, bin_leq, bin_gtr, bin_geq, un_not, Bool.not_true, Bool.not_false, bin_str, lenS_mk, nle_l, nle_r, nle_n, nlt_l, nlt_r, nlt_n, neq_r, neq_n, nne_r, nne_n, ext0, ext1, ext30, ext31, ext32, bin_add, bin_sub, decide_true, decide_false, z0, z1, decide_eq_false h1, decide_eq_true h2, e3, decide_eq_false h4, e5, decide_eq_true h5]; rfl
        · rw [if_neg h5]; simp only [s_ref16_Add, m1, m2, getK_set, ↓reduceIte, Nat.reduceEqDiff, someK_n, effK_n, retK, gK_do, gK_do', gK_skip, gK_skip', gK_none, pick_mk, cond_true, cond_false, condK_tn, condK_fn, bin_eql, bin_neq, bin_lss, bin_leq, bin_gtr, bin_geq, un_not, Bool.not_true, Bool.not_false, bin_str, lenS_mk, nle_l, nle_r, nle_n, nlt_l, nlt_r, nlt_n, neq_r, neq_n, nne_r, nne_n, ext0, ext1, ext30, ext31, ext32, bin_add, bin_sub, decide_true, decide_false, z0, z1, decide_eq_false h1, decide_eq_true h2, e3, decide_eq_false h4, e5, decide_eq_false h5]
    · have hT : addT a b = if a + b < 0 then 0 else a + b := by unfold addT; rw [if_neg (fun h => h1 h.1), if_neg (fun h => h2 h.1)]
      have e5 := fin (a + b) (by omega) (by omega)
      rw [hT]
      by_cases h5 : a + b < 0
      · rw [if_pos h5]; simp only [s_ref16_Add, m1, m2, getK_set, ↓reduceIte, Nat.reduceEqDiff, someK_n, effK_n, retK, gK_do, gK_do', gK_skip, gK_skip', gK_none, pick_mk, cond_true, cond_false, condK_tn, condK_fn, bin_eql, bin_neq, bin_lss, bin_leq, bin_gtr, bin_geq, un_not, Bool.not_true, Bool.not_false, bin_str, lenS_mk, nle_l, nle_r, nle_n, nlt_l, nlt_r, nlt_n, neq_r, neq_n, nne_r, nne_n, ext0, ext1, ext30, ext31, ext32, bin_add, bin_sub, decide_true, decide_false, z0, z1, decide_eq_false h1, decide_eq_false h2, e5, decide_eq_true h5]; rfl
      · rw [if_neg h5]; simp only [s_ref16_Add, m1, m2, getK_set, ↓reduceIte, Nat.reduceEqDiff, someK_n, effK_n, retK, gK_do, gK_do', gK_skip, gK_skip', gK_none, pick_mk, cond_true, cond_false, condK_tn, condK_fn, bin_eql, bin_neq, bin_lss, bin_leq, bin_gtr, bin_geq, un_not, Bool.not_true, Bool.not_false, bin_str, lenS_mk, nle_l, nle_r, nle_n, nlt_l, nlt_r, nlt_n, neq_r, neq_n, nne_r, nne_n, ext0, ext1, ext30, ext31, ext32, bin_add, bin_sub, decide_true, decide_false, z0, z1, decide_eq_false h1, decide_eq_false h2, e5, decide_eq_false h5]
theorem p_ref16_Add : ∀ base w0, PrimOk PG base w0 f_ref16_Add (outP AgeAddR) := by
  obtain ⟨N, hN⟩ := someN
  refine primRV (N := N) (l := [Row.fn f_ref16_Add fn_ref16_Add e_ref16_Add]) (.fn ok_ref16_Add e_ref16_Add_ok (.nil _)) 1 _ (fun vs H h => ?_) (fun vs h H hw τ => ?_)
  · obtain ⟨a, b, rfl, _⟩ := h; trivial
  · obtain ⟨a, b, rfl, ha, hb⟩ := h
    exact ⟨H, τ, Gr.refl hw, fun q => s_ref16_Add_ret (CR [Row.fn f_ref16_Add fn_ref16_Add e_ref16_Add] N 0) N ha hb H τ q⟩
theorem s_ref16_Age_ret (c : CallK) (N : Nat) (hG : IsP c f_ref5_Get (RH GetPre GetG)) (hS : RStripOk c) (hI : RIntOk c) (hA : IsP c f_ref16_Add AgeAddR) (hs : List Hd) (hsm : Small hs) {a b : Int} (ha : InI a) (hb : InI b) (lv : V) (H : Heap) (hr : RdH H lv hs) (τ : Tape) (q : KV) :
    s_ref16_Age c N lv (.int .i64 a) (.int .i64 b) H τ q = q (.int .i64 (ageT hs a b)) H τ := by
  have kg := fun q => k_Get hG hsm (name := ageName) (by decide) hr τ q
  have hl := getT_small hsm ageName
  have ks := hS (getT ageName hs) (by omega)
  have hl2 := strip_len (getT ageName hs)
  have ki := hI (strip (getT ageName hs)) (by omega)
  have en : bs [97, 103, 101] = ageName := rfl
  unfold ageT
  obtain ⟨n0, n1⟩ := intB_range (strip (getT ageName hs))
  unfold getV at kg
  unfold intV at ki
  generalize (intB (strip (getT ageName hs))).1 = n at ki n0 n1 ⊢
  have hn : InI n := ⟨by unfold leastI; omega, n1⟩
  by_cases h1 : b ≤ a
  · have hs0 : sinceT a b = 0 := if_pos h1
    have hT : addT n 0 = n := by unfold addT; rw [if_neg (by omega), if_neg (by omega), if_neg (by omega)]; omega
    rw [hs0, hT]
    simp only [s_ref16_Age, en, kg, getK_set, ↓reduceIte, Nat.reduceEqDiff, someK_n, effK_n, retK, gK_do, gK_do', gK_skip, gK_skip', gK_none, pick_mk, cond_true, cond_false, condK_tn, condK_fn, bin_eql, bin_neq, bin_lss, bin_leq, bin_gtr, bin_geq, un_not, Bool.not_true, Bool.not_false, bin_str, lenS_mk, nle_l, nle_r, nle_n, nlt_l, nlt_r, nlt_n, neq_r, neq_n, nne_r, nne_n, ext0, ext1, ext30, ext31, ext32, bin_add, bin_sub, decide_true, decide_false, ks, ki, decide_eq_true h1]
  · have z0 : ∀ v : Int, decide (v < Int.ofNat 0) = decide (v < 0) := fun _ => rfl
    obtain ⟨d0, d1⟩ := sinceT_range ha hb
    have ka := fun τ q => k_Add2 hA hn (b := sinceT a b) ⟨by unfold leastI; omega, d1⟩ H τ q
    have m1 : (V.int IntKind.i64 (Int.ofNat 9223372036854775807)) = .int .i64 mostI := rfl
    unfold InI leastI mostI at ha hb
    by_cases h2 : b - a ≤ 9223372036854775807
    · have ew : wr .i64 (b - a) = b - a := wr_id (by omega) h2
      have hs1 : sinceT a b = b - a := by unfold sinceT; rw [if_neg h1, if_neg (fun h => by unfold mostI at h; omega)]
      have e1 : decide (b - a < 0) = false := decide_eq_false (by omega)
      rw [hs1] at ka ⊢
      simp only [s_ref16_Age, en, kg, getK_set, ↓reduceIte, Nat.reduceEqDiff, someK_n, effK_n, retK, gK_do, gK_do', gK_skip, gK_skip', gK_none, pick_mk, cond_true, cond_false, condK_tn, condK_fn, bin_eql, bin_neq, bin_lss, bin_leq, bin_gtr, bin_geq, un_not, Bool.not_true, Bool.not_false, bin_str, lenS_mk, nle_l, nle_r, nle_n, nlt_l, nlt_r, nlt_n, neq_r, neq_n, nne_r, nne_n, ext0, ext1, ext30, ext31, ext32, bin_add, bin_sub, decide_true, decide_false, ks, ki, decide_eq_false h1, ew, z0, e1, s_ref16_Age_j0, ka]
    · have ew : wr .i64 (b - a) = b - a - 18446744073709551616 := by
        rw [wr_eq]; simp [IntKind.wrap, IntKind.signed, IntKind.bits]; omega
      have hs1 : sinceT a b = mostI := by unfold sinceT; rw [if_neg h1, if_pos (by unfold mostI; omega)]
      have e1 : decide (b - a - 18446744073709551616 < 0) = true := decide_eq_true (by omega)
      rw [hs1] at ka ⊢
      simp only [s_ref16_Age, en, kg, getK_set, ↓reduceIte, Nat.reduceEqDiff, someK_n, effK_n, retK, gK_do, gK_do', gK_skip, gK_skip', gK_none, pick_mk, cond_true, cond_false, condK_tn, condK_fn, bin_eql, bin_neq, bin_lss, bin_leq, bin_gtr, bin_geq, un_not, Bool.not_true, Bool.not_false, bin_str, lenS_mk, nle_l, nle_r, nle_n, nlt_l, nlt_r, nlt_n, neq_r, neq_n, nne_r, nne_n, ext0, ext1, ext30, ext31, ext32, bin_add, bin_sub, decide_true, decide_false, ks, ki, decide_eq_false h1, ew, z0, e1, s_ref16_Age_j0, m1, ka]
noncomputable abbrev rw_RAge : List Row := [Row.fn f_ref16_Age fn_ref16_Age e_ref16_Age, Row.prim f_ref5_Get (outP (RH GetPre GetG)), Row.prim f_ref1_Strip (outP RStripR), Row.prim f_ref1_Int (outP IntR), Row.prim f_ref16_Add (outP AgeAddR)]
theorem p_ref16_Age : ∀ base w0, PrimOk PG base w0 f_ref16_Age (outP (RH AgePre AgeG)) := by
  obtain ⟨N, hN⟩ := someN
  refine primRH (N := N) (l := rw_RAge) (.fn ok_ref16_Age e_ref16_Age_ok (.prim p_ref5_Get (.prim p_ref1_Strip (.prim p_ref1_Int (.prim p_ref16_Add (.nil _)))))) 2 _ (fun hs args hp lv H hw hr τ => ?_)
  obtain ⟨a, b, rfl, ha, hb, hS⟩ := hp
  exact ⟨_, H, τ, Gr.refl hw, ⟨rfl, trivial⟩, fun q => s_ref16_Age_ret (CR rw_RAge N 1) N (fun _ _ _ _ => rfl) (k_ref1_Strip fun _ _ _ _ => rfl) (k_ref1_Int fun _ _ _ _ => rfl) (fun _ _ _ _ => rfl) hs hS ha hb lv H hr τ q⟩
end Go.Am.X


