/- The abstract machine, printed functions of the program, and what they are shown to be. -/
import Derived.Test.YtaikmfhjbcffiaaGreatDoorHKL6
namespace Go.Am.X
set_option linter.unusedSimpArgs false
set_option linter.unusedVariables false
set_option linter.unusedSectionVars false
set_option maxRecDepth 100000
abbrev Handed (c : CallK) (f : Nat) (vs : List V) (H : Heap) (τ : Tape) (L : Lab) (b key z : Nat) (G : List V → Nat → Prop) (mk : V → V) : Prop :=
  ∃ r cap m cs H' τ', G cs m ∧ cs.all V.scal = true ∧ m < 1000000000 ∧ LstZ (labN L H.size b (2 * key + 4)) b key H' r z cap m cs ∧ Gr H.size H H' ∧ ∀ q, c f vs H τ q = q (mk r) H' τ'
theorem hand_H {c : CallK} {f : Nat} {Pre : List Hd → List V → Prop} {g : Bool → List Hd → List V → Out} (h : IsP c f (RH Pre g)) {hs : List Hd} {lv : V} {args : List V} {H : Heap} (hw : WF H) (hr : RdH H lv hs) (hp : Pre hs args) {l : List Hd} {mk : V → V}
    (ho : g (isNil lv) hs args = .lst 2 l.length (hcells l) mk ∨ (g (isNil lv) hs args = .val (mk .nils) ∧ l = [])) (hl : l.length ≤ 1000000) (L : Lab) (b key : Nat) (τ : Tape) : Handed c f (lv :: args) H τ L b key 2 GoodH mk := by
  obtain ⟨r, cap, H', τ', h1, h2, h3⟩ := outK_hand h (RH_fun _ _) (vs := lv :: args) (z := 2) (n := l.length) (cs := hcells l) (mk := mk) (by
    rcases ho with ho | ⟨ho, rfl⟩
    · exact .inl ⟨lv, args, hs, rfl, hr, hp, ho.symm⟩
    · exact .inr ⟨⟨lv, args, hs, rfl, hr, hp, ho.symm⟩, rfl, rfl⟩) hw (by rw [hcells_length]) (by omega) L b key τ
  exact ⟨r, cap, _, _, H', τ', ⟨l, rfl, rfl, hl⟩, hcells_scal l, by omega, h1, h2, h3⟩
theorem hand_Add {c : CallK} (h : IsP c f_headers_Add (RH AddPre AddG)) {hs : List Hd} (hl : hs.length ≤ 1000) {n v : Bs} (hn : n.length ≤ 1000) (hv' : v.length ≤ 1000) {lv : V} {H : Heap} (hw : WF H) (hr : RdH H lv hs) (L : Lab) (b key : Nat) (τ : Tape) :
    ∃ e, Handed c f_headers_Add [lv, .str n, .str v] H τ L b key 2 GoodH (fun r => .tup [r, .int .i64 e]) := by
  by_cases he : addE n v hs.length = 0
  · exact ⟨0, hand_H h hw hr (args := [.str n, .str v]) ⟨by omega, by omega, by omega⟩ (l := hs ++ [(n, valT v)]) (.inl (by show (if _ then _ else _) = _; rw [if_pos he]; simp)) (by simp; omega) L b key τ⟩
  · exact ⟨_, hand_H h hw hr (args := [.str n, .str v]) ⟨by omega, by omega, by omega⟩ (l := []) (mk := fun r => .tup [r, .int .i64 (addE n v hs.length)]) (.inr ⟨if_neg he, rfl⟩) (by simp) L b key τ⟩
theorem hand_Set {c : CallK} (h : IsP c f_headers_Set (RH SetPre SetG)) {hs : List Hd} (hS : Small hs) (hl : hs.length ≤ 1000) {n v : Bs} (hn : n.length ≤ 1000) (hv' : v.length ≤ 1000) {lv : V} {H : Heap} (hw : WF H) (hr : RdH H lv hs) (L : Lab) (b key : Nat) (τ : Tape) :
    ∃ e, Handed c f_headers_Set [lv, .str n, .str v] H τ L b key 2 GoodH (fun r => .tup [r, .int .i64 e]) := by
  have hp : SetPre hs [.str n, .str v] := ⟨by omega, fun x hx => by have := hS.2 x hx; omega, by omega, by omega⟩
  by_cases he : setE n v hs = 0
  · refine ⟨0, hand_H h hw hr (args := [.str n, .str v]) hp (l := setT n v hs) (.inl (if_pos he)) ?_ L b key τ⟩
    unfold setT
    split
    · simp; omega
    · exact Nat.le_trans (setF_len _ _ _ _ _) (by omega)
  · exact ⟨_, hand_H h hw hr (args := [.str n, .str v]) hp (l := []) (mk := fun r => .tup [r, .int .i64 (setE n v hs)]) (.inr ⟨if_neg he, rfl⟩) (by simp) L b key τ⟩
theorem hand_Drop {c : CallK} (h : IsP c f_headers_Drop (RH DropPre DropG)) {hs : List Hd} (hS : Small hs) (hl : hs.length ≤ 1000) {n : Bs} (hn : n.length ≤ 140737488355328) {lv : V} {H : Heap} (hw : WF H) (hr : RdH H lv hs) (L : Lab) (b key : Nat) (τ : Tape) :
    Handed c f_headers_Drop [lv, .str n] H τ L b key 2 GoodH (fun r => r) := by
  have hp : DropPre hs [.str n] := ⟨by omega, fun x hx => by have := hS.2 x hx; omega, hn⟩
  by_cases he : isNil lv = true
  · exact hand_H h hw hr (args := [.str n]) hp (l := []) (.inr ⟨if_pos he, rfl⟩) (by simp) L b key τ
  · exact hand_H h hw hr (args := [.str n]) hp (l := dropT n hs) (.inl (if_neg he)) (by have := List.length_filter_le (fun h => !named n h) hs; unfold dropT; omega) L b key τ
theorem hand_Sorted {c : CallK} {f : Nat} (h : IsP c f (RH SortPre SortG)) {hs : List Hd} (hS : Small hs) (h9 : hs.length ≤ 900) {lv : V} {H : Heap} (hw : WF H) (hr : RdH H lv hs) (L : Lab) (b key : Nat) (τ : Tape) : Handed c f [lv] H τ L b key 2 GoodH (fun r => r) := by
  have hl := sortT_len (hs := hs) h9
  by_cases he : (sortT hs).length = 0
  · have e0 : sortT hs = [] := List.eq_nil_of_length_eq_zero he
    exact hand_H h hw hr (args := []) ⟨hS, h9⟩ (l := []) (mk := fun r => r) (.inr ⟨by show lstO _ _ _ _ = _; unfold lstO; exact if_pos he, rfl⟩) (by simp) L b key τ
  · exact hand_H h hw hr (args := []) ⟨hS, h9⟩ (l := sortT hs) (mk := fun r => r) (.inl (by show lstO _ _ _ _ = _; unfold lstO; exact if_neg he)) (by omega) L b key τ
theorem hand_Split {c : CallK} {f : Nat} (h : IsP c f (RH GetPre SplitG)) {hs : List Hd} (hS : Small hs) {name : Bs} (hm : name.length ≤ 140737488355328) (h6 : (splitT name hs).length < 1000000) {lv : V} {H : Heap} (hw : WF H) (hr : RdH H lv hs) (L : Lab) (b key : Nat) (τ : Tape) :
    ∃ bb, Handed c f [lv, .str name] H τ L b key 1 GoodS (fun r => .tup [r, .bool bb]) := by
  refine ⟨decide (0 < (sel name hs).length), ?_⟩
  obtain ⟨r, cap, H', τ', h1, h2, h3⟩ := outK_hand h (RH_fun _ _) (vs := [lv, .str name]) (z := 1) (n := (splitT name hs).length) (cs := (splitT name hs).map V.str) (mk := fun r => .tup [r, .bool (decide (0 < (sel name hs).length))]) (by
    by_cases h0 : (splitT name hs).length = 0
    · exact .inr ⟨⟨lv, [.str name], hs, rfl, hr, ⟨hS, hm⟩, (if_pos h0).symm⟩, h0, by rw [List.eq_nil_of_length_eq_zero h0]; rfl⟩
    · exact .inl ⟨lv, [.str name], hs, rfl, hr, ⟨hS, hm⟩, (if_neg h0).symm⟩) hw (by simp) (by omega) L b key τ
  exact ⟨r, cap, _, _, H', τ', ⟨_, rfl, rfl, h6⟩, by simp [V.scal], by omega, h1, h2, h3⟩
structure HKst (H0 : Heap) (L : Lab) (H : Heap) (K1 K2 : Nat) (i1 i2 : List ItZ) (lv : V) (cap : Nat) (hs : List Hd) (n1 n2 : Nat) : Prop where
  wf : WF H
  b1 : BookZ 2 (selL 1 L) H K1 i1
  b2 : BookZ 1 (selL 2 L) H K2 i2
  l : LstZ L 3 0 H lv 2 cap hs.length (hcells hs)
  g1 : ∀ it ∈ i1, GoodH it.cs it.n
  g2 : ∀ it ∈ i2, GoodS it.cs it.n
  k1 : ∀ it ∈ i1, it.key < n1
  k2 : ∀ it ∈ i2, it.key < n2
  l1 : i1.length ≤ n1
  l2 : i2.length ≤ n2
  z : ∀ i, i < H0.size → L i = (0, 0)
  gr : Gr H0.size H0 H
theorem HKst.rd {H0 : Heap} {L : Lab} {H : Heap} {K1 K2 : Nat} {i1 i2 : List ItZ} {lv : V} {cap : Nat} {hs : List Hd} {n1 n2 : Nat} (h : HKst H0 L H K1 K2 i1 i2 lv cap hs n1 n2) : RdH H lv hs := h.l.rd
theorem HKst.mono {H0 : Heap} {L : Lab} {H H' : Heap} {K1 K2 : Nat} {i1 i2 : List ItZ} {lv : V} {cap : Nat} {hs : List Hd} {n1 n2 : Nat} (h : HKst H0 L H K1 K2 i1 i2 lv cap hs n1 n2) (g : Gr H.size H H') (b m : Nat) : HKst H0 (labN L H.size b m) H' K1 K2 i1 i2 lv cap hs n1 n2 :=
  ⟨g.wf, h.b1.mono h.wf b m g, h.b2.mono h.wf b m g, h.l.mono h.wf b m g, h.g1, h.g2, h.k1, h.k2, h.l1, h.l2, fun i hi => by rw [labN_lt L b m (by have := h.gr.size; omega)]; exact h.z i hi, h.gr.trans g h.gr.size⟩
theorem HKst.keep1 {c : CallK} (hK : KeepZ c f_book_Book_Header_Keep 2 GoodH) {H0 : Heap} {L : Lab} {H : Heap} {K1 K2 : Nat} {i1 i2 : List ItZ} {lv : V} {cap : Nat} {hs : List Hd} {n1 n2 : Nat} (h : HKst H0 L H K1 K2 i1 i2 lv cap hs n1 n2) (hn1 : n1 < 100) {x : V} {xcap m : Nat} {cs : List V} (hx : LstZ L 1 n1 H x 2 xcap m cs) (hG : GoodH cs m) (hsc : cs.all V.scal = true) (hm : m < 1000000000) (τ : Tape) :
    ∃ i1' H' τ' L', HKst H0 L' H' K1 K2 i1' i2 lv cap hs (n1 + 1) n2 ∧ Chg (OfB L 1) H H' ∧ (∀ i, i < H.size → L' i = L i) ∧ ∀ q, c f_book_Book_Header_Keep [.ptr K1 0, x] H τ q = q (.tup []) H' τ' := by
  obtain ⟨i1', H', τ', L', a1, a2, a3, a4, a5, a6⟩ := hK L 1 K1 i1 H x xcap m cs n1 h.wf h.b1 (fun hmem => by
    obtain ⟨it, hit, e⟩ := List.mem_map.1 hmem
    have := h.k1 it hit; omega) hx hsc hm (by have := h.l1; omega) h.g1 hG τ
  refine ⟨i1', H', τ', L', ⟨a4.wf, a1, h.b2.other h.wf (by decide) (OfB.of a4) a5, h.l.kept h.wf a4 a5, fun it hit => ?_, h.g2, fun it hit => ?_, h.k2, by have := h.l1; omega, h.l2, fun i hi => by rw [a5 i (by have := h.gr.size; omega)]; exact h.z i hi, h.gr.trans (Of.gr (OfB.of a4) h.gr.size h.z) (Nat.le_refl _)⟩, a4, a5, a6⟩
  · rcases a2 it hit with e | ⟨_, e2, e3⟩
    · exact h.g1 it e
    · rw [e2, e3]; exact hG
  · rcases a2 it hit with e | ⟨e1, _⟩
    · have := h.k1 it e; omega
    · omega
theorem HKst.keep2 {c : CallK} (hK : KeepZ c f_book_Book_string_Keep 1 GoodS) {H0 : Heap} {L : Lab} {H : Heap} {K1 K2 : Nat} {i1 i2 : List ItZ} {lv : V} {cap : Nat} {hs : List Hd} {n1 n2 : Nat} (h : HKst H0 L H K1 K2 i1 i2 lv cap hs n1 n2) (hn2 : n2 < 100) {x : V} {xcap m : Nat} {cs : List V} (hx : LstZ L 2 n2 H x 1 xcap m cs) (hG : GoodS cs m) (hsc : cs.all V.scal = true) (hm : m < 1000000000) (τ : Tape) :
    ∃ i2' H' τ' L', HKst H0 L' H' K1 K2 i1 i2' lv cap hs n1 (n2 + 1) ∧ Chg (OfB L 2) H H' ∧ (∀ i, i < H.size → L' i = L i) ∧ ∀ q, c f_book_Book_string_Keep [.ptr K2 0, x] H τ q = q (.tup []) H' τ' := by
  obtain ⟨i2', H', τ', L', a1, a2, a3, a4, a5, a6⟩ := hK L 2 K2 i2 H x xcap m cs n2 h.wf h.b2 (fun hmem => by
    obtain ⟨it, hit, e⟩ := List.mem_map.1 hmem
    have := h.k2 it hit; omega) hx hsc hm (by have := h.l2; omega) h.g2 hG τ
  refine ⟨i2', H', τ', L', ⟨a4.wf, h.b1.other h.wf (by decide) (OfB.of a4) a5, a1, h.l.kept h.wf a4 a5, h.g1, fun it hit => ?_, h.k1, fun it hit => ?_, h.l1, by have := h.l2; omega, fun i hi => by rw [a5 i (by have := h.gr.size; omega)]; exact h.z i hi, h.gr.trans (Of.gr (OfB.of a4) h.gr.size h.z) (Nat.le_refl _)⟩, a4, a5, a6⟩
  · rcases a2 it hit with e | ⟨_, e2, e3⟩
    · exact h.g2 it e
    · rw [e2, e3]; exact hG
  · rcases a2 it hit with e | ⟨e1, _⟩
    · have := h.k2 it e; omega
    · omega
section
variable (c : CallK) (N : Nat) (hAdd : IsP c f_headers_Add (RH AddPre AddG)) (hSet : IsP c f_headers_Set (RH SetPre SetG)) (hDrop : IsP c f_headers_Drop (RH DropPre DropG)) (hSort : IsP c f_headers_Sorted (RH SortPre SortG)) (hSplit : IsP c f_headers_Split (RH GetPre SplitG))
  (hK1 : KeepZ c f_book_Book_Header_Keep 2 GoodH) (hK2 : KeepZ c f_book_Book_string_Keep 1 GoodS)
include hAdd hSet hDrop hSort hSplit hK1 hK2
theorem s_law5_HeadersKept_round (hs : List Hd) (hS : Small hs) (h9 : hs.length ≤ 900) (nm : Bs) (hnm : nm.length ≤ 140737488355328) (h6 : (splitT nm hs).length < 1000000) (H0 : Heap) (K1 K2 : Nat) (lv : V) (cap r : Nat) (hr : r < 2) {L : Lab} {H : Heap} {i1 i2 : List ItZ} (h : HKst H0 L H K1 K2 i1 i2 lv cap hs (4 * r) r) (τ : Tape) :
    ∃ L' H' i1' i2' τ', HKst H0 L' H' K1 K2 i1' i2' lv cap hs (4 * (r + 1)) (r + 1) ∧ ∀ (fr : T V) k, fr.get 0 = some lv → fr.get 1 = some (.str nm) → fr.get 5 = some (.ptr K1 0) → fr.get 6 = some (.ptr K2 0) → fr.get 7 = some (.int .i64 (r : Int)) →
      s_law5_HeadersKept_l1 c N ⟨fr, H⟩ τ k = k .normal ⟨(T.set (T.set (T.set (T.set (T.set (T.set (T.set (T.set .leaf 0 lv) 1 (.str nm)) 5 (.ptr K1 0)) 6 (.ptr K2 0)) 7 (.int .i64 (r : Int))) 18 (.int .i64 (r : Int))) 19 (.int .i64 ((r + 1 : Nat) : Int))) 7 (.int .i64 ((r + 1 : Nat) : Int))), H'⟩ τ' := by
  obtain ⟨e1, ra, ca, ma, csa, H1, τ1, ga1, ga2, ga3, la, g1, ka⟩ := hand_Add hAdd (n := [120]) (v := [121]) (by omega) (by decide) (by decide) h.wf h.rd L 1 (4 * r) τ
  have s1 := h.mono g1 1 (2 * (4 * r) + 4)
  obtain ⟨e2, rb, cb, mb, csb, H2, τ2, gb1, gb2, gb3, lb, g2, kb⟩ := hand_Set hSet hS (n := [120]) (v := [121]) (by omega) (by decide) (by decide) s1.wf s1.rd _ 1 (4 * r + 1) τ1
  have s2 := s1.mono g2 1 (2 * (4 * r + 1) + 4)
  have la2 := la.mono s1.wf 1 (2 * (4 * r + 1) + 4) g2
  obtain ⟨bb, rc, cc, mc, csc, H3, τ3, gc1, gc2, gc3, lc, g3, kc⟩ := hand_Split hSplit hS hnm h6 s2.wf s2.rd _ 2 r τ2
  have s3 := s2.mono g3 2 (2 * r + 4)
  have la3 := la2.mono s2.wf 2 (2 * r + 4) g3
  have lb3 := lb.mono s2.wf 2 (2 * r + 4) g3
  obtain ⟨i1a, H4, τ4, L4, s4, c4, q4, k4⟩ := s3.keep1 hK1 (by omega) la3 ga1 ga2 ga3 τ3
  have lb4 := lb3.kept s3.wf c4 q4
  have lc4 := lc.kept s3.wf c4 q4
  obtain ⟨i1b, H5, τ5, L5, s5, c5, q5, k5⟩ := s4.keep1 hK1 (by omega) lb4 gb1 gb2 gb3 τ4
  have lc5 := lc4.kept s4.wf c5 q5
  obtain ⟨rd, cd, md, csd, H6, τ6, gd1, gd2, gd3, ld, g6, kd⟩ := hand_Drop hDrop hS (by omega) hnm s5.wf s5.rd L5 1 (4 * r + 2) τ5
  have s6 := s5.mono g6 1 (2 * (4 * r + 2) + 4)
  have lc6 := lc5.mono s5.wf 1 (2 * (4 * r + 2) + 4) g6
  obtain ⟨i1c, H7, τ7, L7, s7, c7, q7, k7⟩ := s6.keep1 hK1 (by omega) ld gd1 gd2 gd3 τ6
  have lc7 := lc6.kept s6.wf c7 q7
  obtain ⟨re, ce, me, cse, H8, τ8, ge1, ge2, ge3, le, g8, ke⟩ := hand_Sorted hSort hS h9 s7.wf s7.rd L7 1 (4 * r + 3) τ7
  have s8 := s7.mono g8 1 (2 * (4 * r + 3) + 4)
  have lc8 := lc7.mono s7.wf 1 (2 * (4 * r + 3) + 4) g8
  obtain ⟨i1d, H9, τ9, L9, s9, c9, q9, k9⟩ := s8.keep1 hK1 (by omega) le ge1 ge2 ge3 τ8
  have lc9 := lc8.kept s8.wf c9 q9
  obtain ⟨i2a, HA, τA, LA, sA, cA, qA, kA⟩ := s9.keep2 hK2 (by omega) lc9 gc1 gc2 gc3 τ9
  refine ⟨LA, HA, i1d, i2a, τA, sA, fun fr k f0 f1 f5 f6 f7 => ?_⟩
  have e0 : decide (r < 2) = true := decide_eq_true hr
  have e9 : wr .i64 ((r : Int) + Int.ofNat 1) = ((r + 1 : Nat) : Int) := adI (by omega)
  have ka' : ∀ q, c f_headers_Add [lv, .str (bs [120]), .str (bs [121])] H τ q = _ := ka
  have kb' : ∀ q, c f_headers_Set [lv, .str (bs [120]), .str (bs [121])] H1 τ1 q = _ := kb
  simp only [s_law5_HeadersKept_l1, getK_mk f0, getK_mk f1, getK_mk f5, getK_mk f6, getK_mk f7, getK_set, ↓reduceIte, Nat.reduceEqDiff, someK_n, effK_n, retK, gK_do, gK_do', gK_skip, gK_skip', gK_none, pick_mk, cond_true, cond_false, condK_tn, condK_fn, bin_eql, bin_neq, bin_lss, bin_leq, bin_gtr, bin_geq, un_not, Bool.not_true, Bool.not_false, bin_str, lenS_mk, nle_l, nle_r, nle_n, nlt_l, nlt_r, nlt_n, neq_r, neq_n, nne_r, nne_n, ext0, ext1, ext30, ext31, ext32, bin_add, bin_sub, decide_true, decide_false, e0, ka', kb', kc, k4, k5, kd, k7, ke, k9, kA, e9]
end
theorem s_law5_HeadersKept_ret (c : CallK) {N : Nat} (hN : 9223372036854775808 < N) (hFew : IsP c f_keep_FewHeaders (RH FewHPre FewHG)) (hAdd : IsP c f_headers_Add (RH AddPre AddG)) (hSet : IsP c f_headers_Set (RH SetPre SetG)) (hDrop : IsP c f_headers_Drop (RH DropPre DropG)) (hSort : IsP c f_headers_Sorted (RH SortPre SortG)) (hSplit : IsP c f_headers_Split (RH GetPre SplitG))
    (hK1 : KeepZ c f_book_Book_Header_Keep 2 GoodH) (hK2 : KeepZ c f_book_Book_string_Keep 1 GoodS) (hA1 : ApartZ c f_book_Book_Header_Apart 2 f_law5_mark GoodH) (hA2 : ApartZ c f_book_Book_string_Apart 1 f_book_Strings GoodS) (hKn : ∀ H τ q, c f_law5_known [] H τ q = q (.bool true) H τ)
    (hs0 : List Hd) (hl : hs0.length ≤ 9223372036854775807) (nm : Bs) (hnm : nm.length ≤ 140737488355328) (lv0 : V) (H : Heap) (hw : WF H) (hr : RdH H lv0 hs0) (τ : Tape) :
    ∃ H' τ', Gr H.size H H' ∧ ∀ q, s_law5_HeadersKept c N lv0 (.str nm) H τ q = q (.bool true) H' τ' := by
  obtain ⟨sm1, sm2⟩ := small_fewH 10 50 (by omega) (by omega) hs0
  have fl1 : (fewH 10 50 hs0).length ≤ 10 := by unfold fewH; rw [List.length_map, List.length_take]; omega
  have fl2 : ∀ h ∈ fewH 10 50 hs0, h.2.length ≤ 50 := fun h hh => by
    unfold fewH at hh
    obtain ⟨y, _, rfl⟩ := List.mem_map.1 hh
    unfold fewh
    simp only [List.length_take]
    omega
  obtain ⟨lv, cap, H1, τ1, l1, g1, k1⟩ := outK_hand hFew (RH_fun _ _) (vs := [lv0, .int .i64 (.ofNat 10), .int .i64 (.ofNat 50)]) (z := 2) (n := (fewH 10 50 hs0).length) (cs := hcells (fewH 10 50 hs0)) (mk := fun v => v) (by
    by_cases h0 : (fewH 10 50 hs0).length = 0
    · exact .inr ⟨⟨lv0, _, hs0, rfl, hr, ⟨hl, by omega, by omega⟩, (if_pos h0).symm⟩, h0, by rw [List.eq_nil_of_length_eq_zero h0]; rfl⟩
    · exact .inl ⟨lv0, _, hs0, rfl, hr, ⟨hl, by omega, by omega⟩, (if_neg h0).symm⟩) hw (by rw [hcells_length]) (by omega) (fun _ => (0, 0)) 3 0 τ
  generalize fewH 10 50 hs0 = hs at sm1 sm2 fl1 fl2 l1
  have hS : Small hs := ⟨by omega, fun h hh => by have := sm2 h hh; omega⟩
  have hget : (getT nm hs).length ≤ 1000 := by
    have h1 : (sel nm hs).length ≤ hs.length := by
      unfold sel; rw [List.length_map]; exact List.length_filter_le _ _
    have h2 := joinB_length [44, 32] 50 (sel nm hs) (fun x hx => by
      simp only [sel, List.mem_map, List.mem_filter] at hx
      obtain ⟨y, ⟨hy, _⟩, rfl⟩ := hx
      exact fl2 y hy)
    have h3 : (sel nm hs).length * 52 ≤ 10 * 52 := Nat.mul_le_mul_right _ (by omega)
    have h4 : (getT nm hs).length ≤ (sel nm hs).length * 52 := h2
    omega
  have h6 : (splitT nm hs).length < 1000000 := by
    have h2 := piecesB_len (getT nm hs)
    unfold splitT
    split
    · omega
    · simp
  have a2 : eAlloc [.nils, .nils, (.int .i64 (.ofNat 0)), (.bool false)] [] H1 τ1 = some (.ptr H1.size 0, H1.new [.nils, .nils, .int .i64 ((0 : Nat) : Int), .bool false] 4 true, τ1) := rfl
  have g2 := Gr.new g1.wf [.nils, .nils, .int .i64 ((0 : Nat) : Int), .bool false] 4 true
  have B1 := BookZ.newL 2 1 H1 (labN (fun _ => (0, 0)) H.size 3 (2 * 0 + 4))
  have l2 := l1.mono g1.wf 1 1 g2
  generalize hH2 : H1.new [.nils, .nils, .int .i64 ((0 : Nat) : Int), .bool false] 4 true = H2 at a2 g2 B1 l2
  have a3 : eAlloc [.nils, .nils, (.int .i64 (.ofNat 0)), (.bool false)] [] H2 τ1 = some (.ptr H2.size 0, H2.new [.nils, .nils, .int .i64 ((0 : Nat) : Int), .bool false] 4 true, τ1) := rfl
  have g3 := Gr.new g2.wf [.nils, .nils, .int .i64 ((0 : Nat) : Int), .bool false] 4 true
  have B2 := BookZ.newL 1 2 H2 (labN (labN (fun _ => (0, 0)) H.size 3 (2 * 0 + 4)) H1.size 1 1)
  have l3 := l2.mono g2.wf 2 1 g3
  have B13 := B1.mono g2.wf 2 1 g3
  generalize hH3 : H2.new [.nils, .nils, .int .i64 ((0 : Nat) : Int), .bool false] 4 true = H3 at a3 g3 B2 l3 B13
  have z1 := g1.size
  have z2 := g2.size
  have z3 := g3.size
  have st : HKst H _ H3 H1.size H2.size [] [] lv cap hs (4 * 0) 0 := ⟨g3.wf, B13, B2, l3, by simp, by simp, by simp, by simp, by simp, by simp, fun i hi => by
    rw [labN_lt _ _ _ (by omega), labN_lt _ _ _ (by omega), labN_lt _ _ _ hi], (g1.trans g2 z1).trans g3 (by omega)⟩
  obtain ⟨La, Ha, ia, ja, τa, sa, ka⟩ := s_law5_HeadersKept_round c N hAdd hSet hDrop hSort hSplit hK1 hK2 hs hS (by omega) nm hnm h6 H H1.size H2.size lv cap 0 (by omega) st τ1
  obtain ⟨Lb, Hb, ib, jb, τb, sb, kb⟩ := s_law5_HeadersKept_round c N hAdd hSet hDrop hSort hSplit hK1 hK2 hs hS (by omega) nm hnm h6 H H1.size H2.size lv cap 1 (by omega) sa τa
  obtain ⟨Hc, τc, c1, kc⟩ := hA1 Lb 1 H1.size ib Hb sb.wf sb.b1 (by have := sb.l1; omega) sb.g1 τb
  have B2c := sb.b2.other sb.wf (by decide) c1 (fun _ _ => rfl)
  obtain ⟨Hd', τd, d1, kd⟩ := hA2 Lb 2 H2.size jb Hc c1.wf B2c (by have := sb.l2; omega) sb.g2 τc
  have gc := Of.gr c1 sb.gr.size sb.z
  have gd := Of.gr d1 (Nat.le_trans sb.gr.size c1.size) sb.z
  refine ⟨Hd', τd, (sb.gr.trans gc (Nat.le_refl _)).trans gd (Nat.le_refl _), fun q => ?_⟩
  obtain ⟨m, rfl⟩ : ∃ m, N = m + 1 + 1 + 1 := ⟨N - 3, by omega⟩
  simp only [s_law5_HeadersKept, k1, a2, effK_n, a3]
  rw [loopK_succ, ka _ _ (by simp [T.get_set]) (by simp [T.get_set]) (by simp [T.get_set]) (by simp [T.get_set]) (by simp [T.get_set])]
  simp only [seqK]
  rw [loopK_succ, kb _ _ (by simp [T.get_set]) (by simp [T.get_set]) (by simp [T.get_set]) (by simp [T.get_set]) (by simp [T.get_set])]
  simp only [seqK]
  rw [loopK_succ]
  have e2 : decide (((1 + 1 : Nat) : Int) < Int.ofNat 2) = false := by decide
  have e2' : decide ((1 + 1 : Nat) < 2) = false := by decide
  simp only [s_law5_HeadersKept_l1, getK_set, ↓reduceIte, Nat.reduceEqDiff, someK_n, effK_n, retK, gK_do, gK_do', gK_skip, gK_skip', gK_none, pick_mk, cond_true, cond_false, condK_tn, condK_fn, bin_eql, bin_neq, bin_lss, bin_leq, bin_gtr, bin_geq, un_not, Bool.not_true, Bool.not_false, bin_str, lenS_mk, nle_l, nle_r, nle_n, nlt_l, nlt_r, nlt_n, neq_r, neq_n, nne_r, nne_n, ext0, ext1, ext30, ext31, ext32, bin_add, bin_sub, decide_true, decide_false, e2, e2']
  simp only [seqK, blockK, Nat.beq_refl, cond_true, s_law5_HeadersKept_j0, getK_set, ↓reduceIte, Nat.reduceEqDiff, someK_n, effK_n, retK, gK_do, gK_do', gK_skip, gK_skip', gK_none, pick_mk, cond_true, cond_false, condK_tn, condK_fn, bin_eql, bin_neq, bin_lss, bin_leq, bin_gtr, bin_geq, un_not, Bool.not_true, Bool.not_false, bin_str, lenS_mk, nle_l, nle_r, nle_n, nlt_l, nlt_r, nlt_n, neq_r, neq_n, nne_r, nne_n, ext0, ext1, ext30, ext31, ext32, bin_add, bin_sub, decide_true, decide_false, kc, kd, hKn]
def HeadersKeptR (vs : List V) (H : Heap) (o : Out) : Prop := (∃ (lv : V) (hs : List Hd) (n : Bs), vs = [lv, .str n] ∧ RdH H lv hs ∧ hs.length ≤ 9223372036854775807 ∧ n.length ≤ 140737488355328) ∧ o = .val (.bool true)
noncomputable abbrev rw_HeadersKept : List Row := [Row.fn f_law5_HeadersKept fn_law5_HeadersKept e_law5_HeadersKept, Row.prim f_keep_FewHeaders (outP (RH FewHPre FewHG)), Row.prim f_headers_Add (outP (RH AddPre AddG)), Row.prim f_headers_Set (outP (RH SetPre SetG)), Row.prim f_headers_Drop (outP (RH DropPre DropG)), Row.prim f_headers_Sorted (outP (RH SortPre SortG)), Row.prim f_headers_Split (outP (RH GetPre SplitG)),
  Row.fn f_book_Book_Header_Keep fn_book_Book_Header_Keep e_book_Book_Header_Keep, Row.fn f_book_Book_string_Keep fn_book_Book_string_Keep e_book_Book_string_Keep, Row.fn f_book_Book_Header_Apart fn_book_Book_Header_Apart e_book_Book_Header_Apart, Row.fn f_book_Book_string_Apart fn_book_Book_string_Apart e_book_Book_string_Apart, Row.fn f_book_Book_Header_Stays fn_book_Book_Header_Stays e_book_Book_Header_Stays, Row.fn f_book_Book_string_Stays fn_book_Book_string_Stays e_book_Book_string_Stays,
  Row.prim f_book_Same_Header (outP SameR), Row.prim f_book_Same_string (outP SameSR), Row.prim f_law5_mark (outP (RV MarkPre2 MarkHG)), Row.prim f_book_Strings (outP (RV MarkPre StringsG)), Row.prim f_law5_known closedP]
theorem someN2 : ∃ N : Nat, 9223372036854775808 < N := ⟨9223372036854775809, by decide⟩
theorem headersKept_ok : ∀ base w0, PrimOk PG base w0 f_law5_HeadersKept (outP HeadersKeptR) := by
  obtain ⟨N, hN⟩ := someN2
  refine primOk_out mixed_ok (l := rw_HeadersKept) (.fn ok_law5_HeadersKept e_law5_HeadersKept_ok (.prim p_keep_FewHeaders (.prim p_headers_Add (.prim p_headers_Set (.prim p_headers_Drop (.prim p_headers_Sorted (.prim p_headers_Split (.fn ok_book_Book_Header_Keep e_book_Book_Header_Keep_ok (.fn ok_book_Book_string_Keep e_book_Book_string_Keep_ok (.fn ok_book_Book_Header_Apart e_book_Book_Header_Apart_ok (.fn ok_book_Book_string_Apart e_book_Book_string_Apart_ok (.fn ok_book_Book_Header_Stays e_book_Book_Header_Stays_ok (.fn ok_book_Book_string_Stays e_book_Book_string_Stays_ok (.prim p_book_Same_Header (.prim p_book_Same_string (.prim p_law5_mark (.prim p_book_Strings (.prim closed_law5_known_ok (.nil _))))))))))))))))))) N 5 _ ?_
  rintro vs H o hw hvs ⟨⟨lv, hs, n, rfl, hr, h1, h2⟩, rfl⟩ τ
  obtain ⟨H', τ', g, k⟩ := s_law5_HeadersKept_ret (CR rw_HeadersKept N 4) hN (fun _ _ _ _ => rfl) (fun _ _ _ _ => rfl) (fun _ _ _ _ => rfl) (fun _ _ _ _ => rfl) (fun _ _ _ _ => rfl) (fun _ _ _ _ => rfl)
    (keepZ_Header (c' := CR rw_HeadersKept N 3) (by omega) (fun _ _ _ _ _ => rfl) (fun _ _ _ _ => rfl)) (keepZ_string (c' := CR rw_HeadersKept N 3) (by omega) (fun _ _ _ _ _ => rfl) (fun _ _ _ _ => rfl))
    (apartZ_Header (c' := CR rw_HeadersKept N 3) (c'' := CR rw_HeadersKept N 2) (f := markH) hN (fun _ _ _ _ _ => rfl) (k_law5_mark fun _ _ _ _ => rfl) (fun _ _ _ _ => rfl) (fun _ _ _ _ => rfl)) (apartZ_string (c' := CR rw_HeadersKept N 3) (c'' := CR rw_HeadersKept N 2) (f := markS) hN (fun _ _ _ _ _ => rfl) (k_book_Strings fun _ _ _ _ => rfl) (fun _ _ _ _ => rfl) (fun _ _ _ _ => rfl))
    (closedP_call fun _ _ _ _ => rfl) hs h1 n h2 lv H hw hr τ
  exact ⟨_, H', τ', k retK, g, rfl, trivial⟩
theorem headersKept_fun : Fun1 HeadersKeptR := fun vs H o o' k k' => k.2.trans k'.2.symm
theorem headersKept_in {lv : V} {H : Heap} {hs : List Hd} (hr : RdH H lv hs) (hl : hs.length ≤ 9223372036854775807) {n : Bs} (hn : n.length ≤ 140737488355328) (τ : Tape) : outP HeadersKeptR [lv, .str n] H τ = some (.bool true, H, τ) :=
  outP_mk headersKept_fun ⟨⟨lv, hs, n, rfl, hr, hl, hn⟩, rfl⟩ τ
end Go.Am.X

