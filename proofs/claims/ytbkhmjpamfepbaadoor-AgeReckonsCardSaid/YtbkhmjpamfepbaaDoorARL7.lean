/- The abstract machine, printed functions of the program, and what they are shown to be. -/
import Derived.Test.YtbkhmjpamfepbaaDoorARL6
namespace Go.Am.X
set_option linter.unusedSimpArgs false
set_option linter.unusedVariables false
set_option linter.unusedSectionVars false
set_option maxRecDepth 100000
theorem few_len3 (nn mm : Nat) (hs : List Hd) : (fewH nn mm hs).length ≤ nn ∧ ∀ h ∈ fewH nn mm hs, h.1.length ≤ mm ∧ h.2.length ≤ mm := by
  refine ⟨by unfold fewH; rw [List.length_map, List.length_take]; omega, fun h hh => ?_⟩
  unfold fewH at hh
  obtain ⟨y, _, rfl⟩ := List.mem_map.1 hh
  unfold fewh
  simp only [List.length_take]
  omega
theorem getT_le3 (n : Bs) {l : List Hd} {M : Nat} (h : ∀ x ∈ l, x.2.length ≤ M) : (getT n l).length ≤ l.length * (M + 2) := by
  have h1 : (sel n l).length ≤ l.length := by
    unfold sel; rw [List.length_map]; exact List.length_filter_le _ _
  have h2 := joinB_length [44, 32] M (sel n l) (fun x hx => by
    simp only [sel, List.mem_map, List.mem_filter] at hx
    obtain ⟨y, ⟨hy, _⟩, rfl⟩ := hx
    exact h y hy)
  exact Nat.le_trans h2 (Nat.mul_le_mul h1 (Nat.le_refl _))
theorem eqCtl (st : Ctl) : pEq false (.flat [.bool, .bool, .int]) [.agg (ctlC st), .agg (ctlC st)] = some (.bool true) := by
  obtain ⟨a, b, n⟩ := st
  cases a <;> cases b <;> simp [pEq, ctlC, eqV, eqFlat, eqS]
theorem eqbb2 (b : Bool) : pEq false .bool [.bool b, .bool b] = some (.bool true) := by cases b <;> rfl
theorem closedP_call2 {c : CallK} {f : Nat} (h : ∀ vs H τ q, c f vs H τ q = effK (closedP vs H τ) q) (H : Heap) (τ : Tape) (q : KV) : c f [] H τ q = q (.bool true) H τ := by rw [h]; rfl
theorem rg_lit {n : Int} (h : (Lit.int .i64 n).wf = true) : InI n := by
  have h' : IntKind.i64.min ≤ n ∧ n ≤ IntKind.i64.max := by simpa [Lit.wf] using h
  exact h'
/-- a variable of three cells for a control -/
theorem box3 {H : Heap} (hw : WF H) (st : Ctl) (τ : Tape) :
    ∃ H1 H2, eAlloc [(.bool false), (.bool false), (.int .i64 (.ofNat 0))] [] H τ = some (.ptr H.size 0, H1, τ) ∧ eStore 3 [.ptr H.size 0, .agg (ctlC st)] H1 τ = some (.tup [], H2, τ) ∧ Bx H2 H.size (ctlC st) ∧ Gr H.size H H2 ∧ H.size < H2.size := by
  have g1 := Gr.new hw [V.bool false, V.bool false, V.int .i64 0] 3 true
  have b1 := Bx.new H [V.bool false, V.bool false, V.int .i64 0] 3 true (Nat.le_refl _)
  obtain ⟨H2, s2, b2, o2⟩ := b1.eStore g1.wf 0 (.agg (ctlC st)) 3 rfl (by simp) (by omega) rfl τ
  have b2' : Bx H2 H.size (ctlC st) := b2
  exact ⟨_, H2, rfl, s2, b2', g1.trans (o2.gr (Nat.le_refl _)) (Nat.le_refl _), b2.lt o2.wf⟩
set_option maxHeartbeats 1000000 in
theorem s_law16_AgeReckons_ret (c : CallK) (N : Nat) (hFew : IsP c f_keep_FewHeaders (RH FewHPre FewHG)) (hP : IsP c f_age_Parse (RH CtlPre CtlG)) (hRP : IsP c f_ref16_Parse (RH CtlPre CtlG)) (hV : IsP c f_age_Vary (RH CtlPre VaryG)) (hRV : IsP c f_ref16_Vary (RH VaryPre VaryG)) (hA : IsP c f_age_Add AgeAddR) (hRA : IsP c f_ref16_Add AgeAddR)
    (hAg : IsP c f_age_Age (RH AgePre AgeG)) (hRAg : IsP c f_ref16_Age (RH AgePre AgeG)) (hF : IsP c f_age_Fresh (RH AgePre FreshG)) (hRF : IsP c f_ref16_Fresh (RH AgePre FreshG)) (hSameS : IsP c f_book_Same_string SameSR) (hKn : ∀ H τ q, c f_law16_known [] H τ q = q (.bool true) H τ)
    (hs : List Hd) (hl : hs.length ≤ 9223372036854775807) {s n a b : Int} (is : InI s) (iN : InI n) (ia : InI a) (ib : InI b) (lv : V) (H : Heap) (hw : WF H) (hr : RdH H lv hs) (τ : Tape) :
    ∃ H' τ', Gr H.size H H' ∧ ∀ q, s_law16_AgeReckons c N lv (.int .i64 s) (.int .i64 n) (.int .i64 a) (.int .i64 b) H τ q = q (.bool true) H' τ' := by
  obtain ⟨v0, H1, τ1, o1, g1, k1⟩ := k_keep_FewHeaders hFew hl 10 200 (by omega) (by omega) hw hr τ
  obtain ⟨fl1, fl2⟩ := few_len3 10 200 hs
  generalize fewH 10 200 hs = l at o1 fl1 fl2
  have sm : Small l := ⟨by omega, fun h hh => by have := fl2 h hh; omega⟩
  have r1 : RdH H1 v0 l := ⟨o1.rd, o1.src⟩
  have kp := fun q => k_Ctl hP sm r1 τ1 q
  obtain ⟨H2, H3, a2, s3, b3, g3, lt3⟩ := box3 g1.wf (parseT l) τ1
  have r3 := r1.gr g3 g1.wf (Nat.le_refl _)
  have krp := fun q => k_Ctl hRP sm r3 τ1 q
  obtain ⟨H4, H5, a4, s5, b5, g5, lt5⟩ := box3 g3.wf (parseT l) τ1
  have r5 := r3.gr g5 g3.wf (Nat.le_refl _)
  have b35 := b3.gr g5 (by omega)
  obtain ⟨v24, H6, τ6, d6, g6, k6⟩ := k_Vary hV sm g5.wf r5 τ1
  have r6 := r5.gr g6 g5.wf (Nat.le_refl _)
  have b36 := b35.gr g6 (by have := g5.size; omega)
  have b56 := b5.gr g6 lt5
  have hgt : (getT varyN l).length ≤ 10 * 202 := Nat.le_trans (getT_le3 varyN (M := 200) fun x hx => (fl2 x hx).2) (Nat.mul_le_mul fl1 (by omega))
  have hfew : (splitT varyN l).length < 1000000 := by
    have := piecesB_len (getT varyN l)
    unfold splitT
    split
    · omega
    · simp
  obtain ⟨v29, H7, τ7, d7, g7, k7⟩ := k_Vary hRV ⟨sm, hfew⟩ g6.wf r6 τ6
  have r7 := r6.gr g7 g6.wf (Nat.le_refl _)
  have b37 := b36.gr g7 (b36.lt g6.wf)
  have b57 := b56.gr g7 (b56.lt g6.wf)
  have d67 := d6.gr g7 g6.wf (Nat.le_refl _)
  have hvl := varL_len (splitT varyN l)
  have hsl := (srtT_ok (varL (splitT varyN l))).2.2
  have w1 := fun τ q => k_book_Same_string hSameS (by cases (splitT varyN l).contains [42] <;> simp <;> omega) d67 d7 τ q
  have kA := fun H τ q => k_Add2 hA ia ib H τ q
  have kRA := fun H τ q => k_Add2 hRA ia ib H τ q
  have kAg := fun τ q => k_Age hAg sm is iN r7 τ q
  have kRAg := fun τ q => k_Age hRAg sm is iN r7 τ q
  have kF := fun τ q => k_Fresh hF sm is iN r7 τ q
  have kRF := fun τ q => k_Fresh hRF sm is iN r7 τ q
  have l3 : lLoadN 3 [.ptr H1.size 0] H7 = some (.agg (ctlC (parseT l))) := by rw [load_cells b37.cells (by simp [ctlC])]; rfl
  have pf0 : pFieldAddr 0 [.ptr H3.size 0] = some (.ptr H3.size 0) := rfl
  have pf1 : pFieldAddr 1 [.ptr H3.size 0] = some (.ptr H3.size 1) := rfl
  have pf2 : pFieldAddr 2 [.ptr H3.size 0] = some (.ptr H3.size 2) := rfl
  have q0 : lLoad1 [.ptr H3.size 0] H7 = some (.bool (parseT l).1) := load_cell b57.cells rfl
  have q1 : lLoad1 [.ptr H3.size 1] H7 = some (.bool (parseT l).2.1) := load_cell b57.cells rfl
  have q2 : lLoad1 [.ptr H3.size 2] H7 = some (.int .i64 (parseT l).2.2) := load_cell b57.cells rfl
  have pb : pBuild [(.bool false), (.bool false), (.int .i64 (.ofNat 0))] [(0, 1), (1, 1), (2, 1)] [.bool (parseT l).1, .bool (parseT l).2.1, .int .i64 (parseT l).2.2] = some (.agg (ctlC (parseT l))) := rfl
  have xi : ∀ i : Int, (i == i) = true := fun s => by simp
  have z1 := g1.size
  have z3 := g3.size
  have z5 := g5.size
  have z6 := g6.size
  refine ⟨H7, τ7, (((g1.trans g3 z1).trans g5 (by omega)).trans g6 (by omega)).trans g7 (by omega), fun q => ?_⟩
  simp only [s_law16_AgeReckons, k1, kp, a2, s3, krp, a4, s5, k6, k7, ext0, ext1, someK_n, effK_n, l3, pf0, pf1, pf2, q0, q1, q2, pb, eqCtl, gK_do, retK, kA, kRA, bin_eql, xi, pick_mk, cond_true, kAg, kRAg, kF, kRF, eqbb2, w1, hKn]
def AgeReckonsR (vs : List V) (H : Heap) (o : Out) : Prop := (∃ (lv : V) (hs : List Hd) (s n a b : Int), vs = [lv, .int .i64 s, .int .i64 n, .int .i64 a, .int .i64 b] ∧ RdH H lv hs ∧ hs.length ≤ 9223372036854775807 ∧ InI s ∧ InI n ∧ InI a ∧ InI b) ∧ o = .val (.bool true)
noncomputable abbrev rw_AgeReckons : List Row := [Row.fn f_law16_AgeReckons fn_law16_AgeReckons e_law16_AgeReckons, Row.prim f_keep_FewHeaders (outP (RH FewHPre FewHG)), Row.prim f_age_Parse (outP (RH CtlPre CtlG)), Row.prim f_ref16_Parse (outP (RH CtlPre CtlG)), Row.prim f_age_Vary (outP (RH CtlPre VaryG)), Row.prim f_ref16_Vary (outP (RH VaryPre VaryG)), Row.prim f_age_Add (outP AgeAddR), Row.prim f_ref16_Add (outP AgeAddR), Row.prim f_age_Age (outP (RH AgePre AgeG)), Row.prim f_ref16_Age (outP (RH AgePre AgeG)), Row.prim f_age_Fresh (outP (RH AgePre FreshG)), Row.prim f_ref16_Fresh (outP (RH AgePre FreshG)), Row.prim f_book_Same_string (outP SameSR), Row.prim f_law16_known closedP]
theorem ageReckons_ok : ∀ base w0, PrimOk PG base w0 f_law16_AgeReckons (outP AgeReckonsR) := by
  obtain ⟨N, hN⟩ := someN
  refine primOk_out mixed_ok (l := rw_AgeReckons) (.fn ok_law16_AgeReckons e_law16_AgeReckons_ok (.prim p_keep_FewHeaders (.prim p_age_Parse (.prim p_ref16_Parse (.prim p_age_Vary (.prim p_ref16_Vary (.prim p_age_Add (.prim p_ref16_Add (.prim p_age_Age (.prim p_ref16_Age (.prim p_age_Fresh (.prim p_ref16_Fresh (.prim p_book_Same_string (.prim closed_law16_known_ok (.nil _))))))))))))))) N 2 _ ?_
  rintro vs H o hw hvs ⟨⟨lv, hs, s, n, a, b, rfl, hr, h1, is, iN, ia, ib⟩, rfl⟩ τ
  obtain ⟨H', τ', g, k⟩ := s_law16_AgeReckons_ret (CR rw_AgeReckons N 1) N (fun _ _ _ _ => rfl) (fun _ _ _ _ => rfl) (fun _ _ _ _ => rfl) (fun _ _ _ _ => rfl) (fun _ _ _ _ => rfl) (fun _ _ _ _ => rfl) (fun _ _ _ _ => rfl) (fun _ _ _ _ => rfl) (fun _ _ _ _ => rfl) (fun _ _ _ _ => rfl) (fun _ _ _ _ => rfl) (fun _ _ _ _ => rfl) (closedP_call2 fun _ _ _ _ => rfl) hs h1 is iN ia ib lv H hw hr τ
  exact ⟨_, H', τ', k retK, g, rfl, trivial⟩
theorem ageReckons_fun : Fun1 AgeReckonsR := fun vs H o o' k k' => k.2.trans k'.2.symm
theorem ageReckons_in {lv : V} {H : Heap} {hs : List Hd} (hr : RdH H lv hs) (hl : hs.length ≤ 9223372036854775807) {s n a b : Int} (is : InI s) (iN : InI n) (ia : InI a) (ib : InI b) (τ : Tape) : outP AgeReckonsR [lv, .int .i64 s, .int .i64 n, .int .i64 a, .int .i64 b] H τ = some (.bool true, H, τ) :=
  outP_mk ageReckons_fun ⟨⟨lv, hs, s, n, a, b, rfl, hr, hl, is, iN, ia, ib⟩, rfl⟩ τ
end Go.Am.X


