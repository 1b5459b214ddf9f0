/- The abstract machine, printed functions of the program, and what they are shown to be. -/
import Derived.Test.YtejpgcemblankaaDoorIKEL1
import Derived.Test.YtejpgcemblankaaDoorIKEL2
import Derived.Test.YtejpgcemblankaaDoorIKEM5
set_option linter.unusedSimpArgs false
set_option linter.unusedVariables false
set_option linter.unusedSectionVars false
set_option maxRecDepth 100000
namespace Go.Am.X
theorem it9C_scal (l : List It9) : (it9C l).all V.scal = true := by
 induction l with
 | nil => rfl
 | cons x l ih => simp [it9C, it9, V.scal, ih]
def GoodI (cs : List V) (n : Nat) : Prop := ∃ l : List It9, cs = it9C l ∧ n = l.length ∧ l.length ≤ 1000000
theorem eq_it9 (x : It9) : pEq true (.flat [.int, .str, .str]) [.agg (it9 x), .agg (it9 x)] = some (.bool false) := by simp [pEq, it9, eqV, eqFlat, eqS, eqB_eq]
theorem l_book_SameI (c : CallK) (N : Nat) (its : List It9) (hil : its.length ≤ 200000000000) (a b : V) (H : Heap) (ha : Rd H 3 a its.length (it9C its)) (hb : Rd H 3 b its.length (it9C its)) :
  ∀ (l pre : List It9) (M : Nat) (τ : Tape), its = pre ++ l → l.length < M →
   ∀ (fr : T V) k, fr.get 0 = some a → fr.get 1 = some b → fr.get 5 = some (.int .i64 (pre.length : Int)) →
    loopK (s_book_Same_integrity_Item_l1 c N) M ⟨fr, H⟩ τ k = k (.exit 0) ⟨.leaf, H⟩ τ := by
 intro l
 have pl := ha.pLen
 induction l with
 | nil =>
  intro pre M τ he hM fr k f0 f1 f5
  obtain ⟨M, rfl⟩ : ∃ j, M = j + 1 := ⟨M - 1, by omega⟩
  have e1 : decide ((pre.length : Int) < (its.length : Int)) = false := decide_eq_false (by rw [he]; simp)
  rw [loopK_succ]
  simp only [s_book_Same_integrity_Item_l1, getK_mk f0, getK_mk f1, getK_mk f5, pl, someK_n, bin_lss, e1, condK_fn]
  rfl
 | cons x l ih =>
  intro pre M τ he hM fr k f0 f1 f5
  obtain ⟨M, rfl⟩ : ∃ j, M = j + 1 := ⟨M - 1, by omega⟩
  have hlt : pre.length < its.length := by rw [he]; simp
  have e1 : decide ((pre.length : Int) < (its.length : Int)) = true := decide_eq_true (by omega)
  obtain ⟨id, o, p1, p2, _, _, _⟩ := it9_read pre x l (by rw [← he]; exact ha)
  obtain ⟨id', o', r1, r2, _, _, _⟩ := it9_read pre x l (by rw [← he]; exact hb)
  have e6 : wr .i64 ((pre.length : Int) + Int.ofNat 1) = ((pre ++ [x]).length : Int) := by rw [adI (by omega)]; simp
  rw [loopK_succ]
  simp only [s_book_Same_integrity_Item_l1, getK_mk f0, getK_mk f1, getK_mk f5, pl, someK_n, bin_lss, e1, condK_tn, p1, p2, r1, r2, eq_it9, condK_fn, bin_add, e6]
  exact ih (pre ++ [x]) M τ (by rw [he]; simp) (by simp at hM; omega) _ k (by simp [T.get_set]) (by simp [T.get_set]) (by simp [T.get_set])
theorem s_book_Same_integrity_Item_ret (c : CallK) {N : Nat} (hN : 9223372036854775807 ≤ N) (its : List It9) (hil : its.length ≤ 200000000000) (a b : V) (H : Heap) (ha : Rd H 3 a its.length (it9C its)) (hb : Rd H 3 b its.length (it9C its)) (τ : Tape) (q : KV) :
  s_book_Same_integrity_Item c N a b H τ q = q (.bool true) H τ := by
 have e0 : ((its.length : Int) != (its.length : Int)) = false := by simp
 simp only [s_book_Same_integrity_Item, ha.pLen, hb.pLen, someK_n, bin_neq, e0, condK_fn]
 rw [l_book_SameI c N its hil a b H ha hb its [] N τ rfl (by omega) _ _ (by simp [T.get_set]) (by simp [T.get_set]) (by simp [T.get_set])]
 simp only [blockK, Nat.beq_refl, cond_true, seqK, s_book_Same_integrity_Item_j0]
abbrev SameIOk (c c0 : CallK) (N : Nat) : Prop := ∀ a b H τ q, c f_book_Same_integrity_Item [a, b] H τ q = s_book_Same_integrity_Item c0 N a b H τ q
theorem sameAt_I {c c0 : CallK} {N : Nat} (hN : 9223372036854775807 ≤ N) (h : SameIOk c c0 N) {its : List ItZ} (hg : ∀ it ∈ its, GoodI it.cs it.n) : SameAt_integrity_Item c its := by
 intro it hit a b H ra sa rb sb τ q
 obtain ⟨l, e1, e2, e3⟩ := hg it hit
 rw [e1, e2] at ra rb
 rw [h, s_book_Same_integrity_Item_ret c0 hN l (by omega) a b H ra rb τ q]
theorem good_snocI {G : List V → Nat → Prop} {its : List ItZ} (hg : ∀ it ∈ its, G it.cs it.n) {x : V} {cap n : Nat} {cs : List V} {w : V} {key : Nat} (h : G cs n) : ∀ it ∈ its ++ [⟨x, cap, n, cs, w, key⟩], G it.cs it.n := by
 intro it hit
 rcases List.mem_append.1 hit with e | e
 ·exact hg it e
 ·rw [List.mem_singleton] at e; subst e; exact h
theorem keepZ_Item {c c' c0 : CallK} {N : Nat} (hN : 9223372036854775807 < N) (he : ∀ K x H τ q, c f_book_Book_integrity_Item_Keep [K, x] H τ q = s_book_Book_integrity_Item_Keep c' N K x H τ q) (hS : SameIOk c' c0 N) : KeepZ c f_book_Book_integrity_Item_Keep 3 GoodI :=
 KeepZ.mk fun lab H hw K its hb x cap n cs key hk hx hn hp hcap hs hlen hits hg hg' τ => by
  obtain ⟨its', H', τ', lab', h1, h2, h3, h4, h5⟩ := s_book_Book_integrity_Item_Keep_ret c' hN lab H hw K its hb x cap n cs key hk hx hn hp hcap hs hlen hits (fun w => sameAt_I (by omega) hS (good_snocI hg hg')) τ
  exact ⟨its', H', τ', lab', h1, h2, h3, h4, fun q => by rw [he]; exact h5 q⟩
def markI (i j : Nat) : Int := wr .i64 (wr .i64 (Int.negSucc 99 - wr .i64 ((i : Int) * Int.ofNat 50)) - (j : Int))
theorem s_law9_mark_ret (c : CallK) (N : Nat) (i j : Nat) (H : Heap) (hw : WF H) (τ : Tape) : ∃ H', Gr H.size H H' ∧ ∀ q, s_law9_mark c N (.int .i64 (i : Int)) (.int .i64 (j : Int)) H τ q = q (.agg [.int .i64 (markI i j), .str [], .str []]) H' τ := by
 obtain ⟨H1, H2, a1, a2, a3, a4, a5⟩ := boxN hw 3 [(.int .i64 (.ofNat 0)), (.str []), (.str [])] [.int .i64 (markI i j), .str [], .str []] rfl rfl (by omega) rfl τ
 have bb : pBuild [(.int .i64 (.ofNat 0)), (.str []), (.str [])] [(0, 1)] [.int .i64 (markI i j)] = some (.agg [.int .i64 (markI i j), .str [], .str []]) := rfl
 have ld : lLoadN 3 [.ptr H.size 0] H2 = some (.agg [.int .i64 (markI i j), .str [], .str []]) := load_cells a3.cells (by simp)
 refine ⟨H2, a4, fun q => ?_⟩
 have e : wr .i64 (wr .i64 (Int.negSucc 99 - wr .i64 ((i : Int) * Int.ofNat 50)) - (j : Int)) = markI i j := rfl
 simp only [s_law9_mark, a1, effK_n, bin_mul, bin_sub, e, bb, someK_n, a2]
 simp [results, resAll, resOf, T.get_set, evalL, lLoad, ld, someK_n]
abbrev MarkIPre (vs : List V) : Prop := ∃ i j : Nat, vs = [.int .i64 (i : Int), .int .i64 (j : Int)]
abbrev MarkIG : List V → V | [.int .i64 (.ofNat i), .int .i64 (.ofNat j)] => .agg [.int .i64 (markI i j), .str [], .str []] | _ => .tup []
theorem p_law9_mark : ∀ base w0, PrimOk PG base w0 f_law9_mark (outP (RV MarkIPre MarkIG)) := by
 obtain ⟨N, hN⟩ := someN9
 refine primOk_out mixed_ok (l := [Row.fn f_law9_mark fn_law9_mark e_law9_mark]) (.fn ok_law9_mark e_law9_mark_ok (.nil _)) N 1 _ ?_
 rintro vs H o hw hvs ⟨⟨i, j, rfl⟩, rfl⟩ τ
 obtain ⟨H', g, k⟩ := s_law9_mark_ret (CR [Row.fn f_law9_mark fn_law9_mark e_law9_mark] N 0) N i j H hw τ
 exact ⟨_, H', τ, k retK, g, rfl, trivial, trivial, trivial, trivial⟩
theorem k_law9_mark {c : CallK} (h : IsP c f_law9_mark (RV MarkIPre MarkIG)) : MarkAt_integrity_Item c f_law9_mark (fun i j => .agg [.int .i64 (markI i j), .str [], .str []]) := fun i j _ _ H τ q => RV_call h (vs := [.int .i64 (i : Int), .int .i64 (j : Int)]) ⟨i, j, rfl⟩ H τ q
theorem apartZ_Item {c c' c'' c0 : CallK} {N : Nat} (hN : 9223372036854775808 < N) (he : ∀ K x H τ q, c f_book_Book_integrity_Item_Apart [K, x] H τ q = s_book_Book_integrity_Item_Apart c' N K x H τ q) (hM : IsP c' f_law9_mark (RV MarkIPre MarkIG))
  (hSt : ∀ K H τ q, c' f_book_Book_integrity_Item_Stays [K] H τ q = s_book_Book_integrity_Item_Stays c'' N K H τ q) (hS : SameIOk c'' c0 N) : ApartZ c f_book_Book_integrity_Item_Apart 3 f_law9_mark GoodI :=
 ApartZ.mk fun lab K its hits hg H hw hb τ => by
  obtain ⟨H', h1, h2⟩ := s_book_Book_integrity_Item_Apart_ret c' hN f_law9_mark markI (k_law9_mark hM) lab K its hits (fun H hw hb τ => by
   obtain ⟨H', i1, i2, i3⟩ := s_book_Book_integrity_Item_Stays_ret c'' (N := N) (by omega) lab K its (sameAt_I (by omega) hS hg) hits H hw hb τ
   exact ⟨H', i1, i2, fun q => by rw [hSt]; exact i3 q⟩) H hw hb τ
  exact ⟨H', τ, h1, fun q => by rw [he]; exact h2 q⟩
structure IKst (H0 : Heap) (L : Lab) (H : Heap) (K : Nat) (its : List ItZ) (n : Nat) : Prop where
 wf : WF H
 b : BookZ 3 (selL 1 L) H K its
 g : ∀ it ∈ its, GoodI it.cs it.n
 k : ∀ it ∈ its, it.key < n
 l : its.length ≤ n
 z : ∀ i, i < H0.size → L i = (0, 0)
 gr : Gr H0.size H0 H
theorem IKst.mono {H0 : Heap} {L : Lab} {H H' : Heap} {K : Nat} {its : List ItZ} {n : Nat} (h : IKst H0 L H K its n) (g : Gr H.size H H') (b m : Nat) : IKst H0 (labN L H.size b m) H' K its n :=
 ⟨g.wf, h.b.mono h.wf b m g, h.g, h.k, h.l, fun i hi => by rw [labN_lt L b m (by have := h.gr.size; omega)]; exact h.z i hi, h.gr.trans g h.gr.size⟩
theorem IKst.keep {c : CallK} (hK : KeepZ c f_book_Book_integrity_Item_Keep 3 GoodI) {H0 : Heap} {L : Lab} {H : Heap} {K : Nat} {its : List ItZ} {n : Nat} (h : IKst H0 L H K its n) (hn : n < 100) {x : V} {xcap m : Nat} {cs : List V} (hx : LstZ L 1 n H x 3 xcap m cs) (hG : GoodI cs m) (hsc : cs.all V.scal = true) (hm : m < 1000000000) (τ : Tape) :
  ∃ its' H' τ' L', IKst H0 L' H' K its' (n + 1) ∧ Chg (OfB L 1) H H' ∧ (∀ i, i < H.size → L' i = L i) ∧ ∀ q, c f_book_Book_integrity_Item_Keep [.ptr K 0, x] H τ q = q (.tup []) H' τ' := by
 obtain ⟨i1', H', τ', L', a1, a2, a3, a4, a5, a6⟩ := hK L 1 K its H x xcap m cs n h.wf h.b (fun hmem => by
  obtain ⟨it, hit, e⟩ := List.mem_map.1 hmem
  have := h.k it hit; omega) hx hsc hm (by have := h.l; omega) h.g hG τ
 refine ⟨i1', H', τ', L', ⟨a4.wf, a1, fun it hit => ?_, fun it hit => ?_, by have := h.l; omega, fun i hi => by rw [a5 i (by have := h.gr.size; omega)]; exact h.z i hi, h.gr.trans (Of.gr (OfB.of a4) h.gr.size h.z) (Nat.le_refl _)⟩, a4, a5, a6⟩
 ·rcases a2 it hit with e | ⟨_, e2, e3⟩
  ·exact h.g it e
  ·rw [e2, e3]; exact hG
 ·rcases a2 it hit with e | ⟨e1, _⟩
  ·have := h.k it e; omega
  ·omega
theorem itO_hand {R : List V → Heap → Out → Prop} {vs : List V} {H : Heap} {l : List It9} (h : R vs H (itO l)) : R vs H (.lst 3 l.length (it9C l) fun v => v) ∨ (R vs H (.val .nils) ∧ l.length = 0 ∧ it9C l = []) := by
 unfold itO lstO at h
 by_cases h0 : l.length = 0
 ·rw [if_pos h0] at h; exact .inr ⟨h, h0, by rw [List.length_eq_zero_iff.1 h0]; rfl⟩
 ·rw [if_neg h0] at h; exact .inl h
theorem l_kept_round (c : CallK) (N : Nat) (hFew : ∀ (s : Bs) (m : Nat) H τ q, c f_keep_Few [.str s, .int .i64 (m : Int)] H τ q = q (.str (s.take m)) H τ) (hP : IsP c f_integrity_Parse ParR) (hS : IsP c f_integrity_Strongest StrR) (hK : KeepZ c f_book_Book_integrity_Item_Keep 3 GoodI)
  (s : Bs) (H0 : Heap) (K r : Nat) (hr : r < 2) {L : Lab} {H : Heap} {its : List ItZ} (h : IKst H0 L H K its (2 * r)) (τ : Tape) :
  ∃ L' H' its' τ', IKst H0 L' H' K its' (2 * (r + 1)) ∧ ∀ (fr : T V) k, fr.get 0 = some (.str s) → fr.get 3 = some (.ptr K 0) → fr.get 4 = some (.int .i64 (r : Int)) →
   s_law9_IntegrityKept_l1 c N ⟨fr, H⟩ τ k = k .normal ⟨(T.set (T.set (T.set (T.set (T.set (T.set .leaf 0 (.str s)) 3 (.ptr K 0)) 4 (.int .i64 (r : Int))) 8 (.int .i64 (r : Int))) 9 (.int .i64 ((r + 1 : Nat) : Int))) 4 (.int .i64 ((r + 1 : Nat) : Int))), H'⟩ τ' := by
 have hsl : (s.take 300).length ≤ 300 := by rw [List.length_take]; omega
 have kF := fun H τ q => hFew s 300 H τ q
 generalize s.take 300 = x at kF hsl
 have hpl : (parseB x).length ≤ x.length + 1 := Nat.le_trans (List.length_filterMap_le _ _) (fieldsF_len x [])
 have hstl : (strongB (parseB x)).length ≤ (parseB x).length := List.length_filter_le _ _
 obtain ⟨v1, c1, H1, τ1, l1, g1, k1⟩ := outK_hand hP (RO_fun _ _) (vs := [.str x]) (z := 3) (n := (parseB x).length) (cs := it9C (parseB x)) (mk := fun v => v) (itO_hand ⟨x, rfl, by omega, rfl⟩) h.wf (it9C_length _) (by omega) L 1 (2 * r) τ
 have s1 := h.mono g1 1 (2 * (2 * r) + 4)
 obtain ⟨ia, H2, τ2, L2, s2, ch2, q2, k2⟩ := s1.keep hK (by omega) l1 ⟨_, rfl, rfl, by omega⟩ (it9C_scal _) (by omega) τ1
 have l2 := l1.kept s1.wf ch2 q2
 obtain ⟨v3, c3, H3, τ3, l3, g3, k3⟩ := outK_hand hS (RI_fun _) (vs := [v1]) (z := 3) (n := (strongB (parseB x)).length) (cs := it9C (strongB (parseB x))) (mk := fun v => v) (itO_hand ⟨v1, parseB x, rfl, l2.rd.1, by omega, rfl⟩) s2.wf (it9C_length _) (by omega) L2 1 (2 * r + 1) τ2
 have s3 := s2.mono g3 1 (2 * (2 * r + 1) + 4)
 obtain ⟨ib, H4, τ4, L4, s4, ch4, q4, k4⟩ := s3.keep hK (by omega) l3 ⟨_, rfl, rfl, by omega⟩ (it9C_scal _) (by omega) τ3
 refine ⟨L4, H4, ib, τ4, s4, fun fr k f0 f3 f4 => ?_⟩
 have e0 : decide ((r : Int) < Int.ofNat 2) = true := decide_eq_true (by have : Int.ofNat 2 = 2 := rfl; omega)
 have e9 : wr .i64 ((r : Int) + Int.ofNat 1) = ((r + 1 : Nat) : Int) := adI (by omega)
 have kF' : ∀ H τ q, c f_keep_Few [.str s, .int .i64 (.ofNat 300)] H τ q = q (.str x) H τ := fun H τ q => kF H τ q
 simp only [s_law9_IntegrityKept_l1, getK_mk f0, getK_mk f3, getK_mk f4, bin_lss, e0, condK_tn, kF', k1, k2, k3, k4, bin_add, e9]
theorem s_law9_IntegrityKept_ret (c : CallK) {N : Nat} (hN : 9223372036854775808 < N) (hFew : ∀ (s : Bs) (m : Nat) H τ q, c f_keep_Few [.str s, .int .i64 (m : Int)] H τ q = q (.str (s.take m)) H τ) (hP : IsP c f_integrity_Parse ParR) (hS : IsP c f_integrity_Strongest StrR) (hK : KeepZ c f_book_Book_integrity_Item_Keep 3 GoodI)
  (hA : ApartZ c f_book_Book_integrity_Item_Apart 3 f_law9_mark GoodI) (hKn : ∀ H, inH H 0 tabsG = true → ∀ τ q, c f_law9_known [] H τ q = q (.bool true) H τ) (hpl : plainL tabsG = true) (s : Bs) (H : Heap) (hw : WF H) (ht : inH H 0 tabsG = true) (τ : Tape) :
  ∃ H' τ', Gr H.size H H' ∧ ∀ q, s_law9_IntegrityKept c N (.str s) H τ q = q (.bool true) H' τ' := by
 have a3 : eAlloc [.nils, .nils, (.int .i64 (.ofNat 0)), (.bool false)] [] H τ = some (.ptr H.size 0, H.new [.nils, .nils, .int .i64 ((0 : Nat) : Int), .bool false] 4 true, τ) := rfl
 have g3 := Gr.new hw [.nils, .nils, .int .i64 ((0 : Nat) : Int), .bool false] 4 true
 have B2 := BookZ.newL 3 1 H (fun _ => (0, 0))
 generalize H.new [.nils, .nils, .int .i64 ((0 : Nat) : Int), .bool false] 4 true = H3 at a3 g3 B2
 have st : IKst H _ H3 H.size [] (2 * 0) := ⟨g3.wf, B2, by simp, by simp, by simp, fun i hi => labN_lt _ _ _ hi, g3⟩
 obtain ⟨La, Ha, ia, τa, sa, ka⟩ := l_kept_round c N hFew hP hS hK s H H.size 0 (by omega) st τ
 obtain ⟨Lb, Hb, ib, τb, sb, kb⟩ := l_kept_round c N hFew hP hS hK s H H.size 1 (by omega) sa τa
 obtain ⟨Hc, τc, c1, kc⟩ := hA Lb 1 H.size ib Hb sb.wf sb.b (by have := sb.l; omega) sb.g τb
 have gc := sb.gr.trans (Of.gr c1 sb.gr.size sb.z) (Nat.le_refl _)
 refine ⟨Hc, τc, gc, fun q => ?_⟩
 obtain ⟨m, rfl⟩ : ∃ m, N = m + 1 + 1 + 1 := ⟨N - 3, by omega⟩
 simp only [s_law9_IntegrityKept, a3, effK_n]
 rw [loopK_succ, ka _ _ (by simp [T.get_set]) (by simp [T.get_set]) (by simp [T.get_set])]
 simp only [seqK]
 rw [loopK_succ, kb _ _ (by simp [T.get_set]) (by simp [T.get_set]) (by simp [T.get_set])]
 simp only [seqK]
 rw [loopK_succ]
 have e2 : decide (((1 + 1 : Nat) : Int) < Int.ofNat 2) = false := by decide
 have hk := hKn Hc (inH_gr ht hpl gc hw (Nat.le_refl _))
 simp only [s_law9_IntegrityKept_l1, getK_set, ↓reduceIte, Nat.reduceEqDiff, bin_lss, e2, condK_fn]
 simp only [seqK, blockK, Nat.beq_refl, cond_true, s_law9_IntegrityKept_j0, getK_set, ↓reduceIte, kc, gK_do, hk, retK, effK_n, pick_mk, someK_n]
end Go.Am.X

namespace Go.Am.X
theorem tabs_startK {l ents : List (Option (List V))} (h : l = tabsG) : inH (start (l ++ ents)) 0 tabsG = true := by
 subst h
 refine inH_mk tabsG 0 tabsG_plain fun j cs hj => ?_
 rw [Nat.zero_add]
 exact start_cells (by rw [List.getElem?_append_left (List.getElem?_eq_some_iff.1 hj).1]; exact hj)
theorem known_K {c : CallK} {f : Nat} (h : ∀ vs H τ q, c f vs H τ q = effK (tabsP vs H τ) q) : ∀ H, inH H 0 tabsG = true → ∀ τ q, c f [] H τ q = q (.bool true) H τ := fun H hin τ q => by
 rw [h]
 show effK (closedG tabsG [] H τ) q = _
 simp only [closedG, hin, cond_true]
 rfl
def IKeptR (vs : List V) (H : Heap) (o : Out) : Prop := (∃ (s : Bs), vs = [.str s] ∧ inH H 0 tabsG = true) ∧ o = .val (.bool true)
noncomputable abbrev rw_IKept : List Row := [Row.fn f_law9_IntegrityKept fn_law9_IntegrityKept e_law9_IntegrityKept, Row.fn f_keep_Few fn_keep_Few e_keep_Few, Row.prim f_integrity_Parse (outP ParR), Row.prim f_integrity_Strongest (outP StrR), Row.fn f_book_Book_integrity_Item_Keep fn_book_Book_integrity_Item_Keep e_book_Book_integrity_Item_Keep, Row.fn f_book_Book_integrity_Item_Apart fn_book_Book_integrity_Item_Apart e_book_Book_integrity_Item_Apart,
 Row.fn f_book_Book_integrity_Item_Stays fn_book_Book_integrity_Item_Stays e_book_Book_integrity_Item_Stays, Row.fn f_book_Same_integrity_Item fn_book_Same_integrity_Item e_book_Same_integrity_Item, Row.prim f_law9_mark (outP (RV MarkIPre MarkIG)), Row.prim f_law9_known tabsP]
theorem rows_IKept : RowsOk PG rw_IKept :=
 .fn ok_law9_IntegrityKept e_law9_IntegrityKept_ok (.fn ok_keep_Few e_keep_Few_ok (.prim p_integrity_Parse (.prim p_integrity_Strongest (.fn ok_book_Book_integrity_Item_Keep e_book_Book_integrity_Item_Keep_ok (.fn ok_book_Book_integrity_Item_Apart e_book_Book_integrity_Item_Apart_ok
 (.fn ok_book_Book_integrity_Item_Stays e_book_Book_integrity_Item_Stays_ok (.fn ok_book_Same_integrity_Item e_book_Same_integrity_Item_ok (.prim p_law9_mark (.prim closed_law9_known_ok (.nil _))))))))))
theorem integrityKept_ok : ∀ base w0, PrimOk PG base w0 f_law9_IntegrityKept (outP IKeptR) := by
 obtain ⟨N, hN⟩ := someN9
 refine primOk_out mixed_ok rows_IKept N 5 _ ?_
 rintro vs H o hw hvs ⟨⟨s, rfl, ht⟩, rfl⟩ τ
 obtain ⟨H', τ', g, k⟩ := s_law9_IntegrityKept_ret (CR rw_IKept N 4) hN (fun s m H τ q => s14_eval (CR rw_IKept N 3) N s m H τ q) (fun _ _ _ _ => rfl) (fun _ _ _ _ => rfl)
  (keepZ_Item (c' := CR rw_IKept N 3) (c0 := CR rw_IKept N 2) (by omega) (fun _ _ _ _ _ => rfl) (fun _ _ _ _ _ => rfl)) (apartZ_Item (c' := CR rw_IKept N 3) (c'' := CR rw_IKept N 2) (c0 := CR rw_IKept N 1) hN (fun _ _ _ _ _ => rfl) (fun _ _ _ _ => rfl) (fun _ _ _ _ => rfl) (fun _ _ _ _ _ => rfl))
  (known_K fun _ _ _ _ => rfl) tabsG_plain s H hw ht τ
 exact ⟨_, H', τ', k retK, g, rfl, trivial⟩
theorem ikept_fun : Fun1 IKeptR := fun vs H o o' k k' => k.2.trans k'.2.symm
theorem integrityKept_in {s : Bs} {H : Heap} (ht : inH H 0 tabsG = true) (τ : Tape) : outP IKeptR [.str s] H τ = some (.bool true, H, τ) :=
 outP_mk ikept_fun ⟨⟨s, rfl, ht⟩, rfl⟩ τ
end Go.Am.X

