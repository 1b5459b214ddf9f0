/- The abstract machine, printed functions of the program, and what they are shown to be. -/
import Derived.Test.YtlpedafppdffoaaDoorFKEL5
import Derived.Test.YtlpedafppdffoaaDoorFKEM4
set_option linter.unusedSimpArgs false
set_option linter.unusedVariables false
set_option linter.unusedSectionVars false
set_option maxRecDepth 100000
namespace Go.Am.X
theorem ws_scK (la : List Nat) : (ws .u8 la).all V.scal = true := by
 simp [ws, List.all_map, Function.comp_def, V.scal]
structure FKst (Hs : Heap) (L : Lab) (H : Heap) (K : Nat) (its : List ItZ) (r : Nat) : Prop where
 wf : WF H
 b1 : BookZ 1 (selL 1 L) H K its
 g : ∀ it ∈ its, GoodB it.cs it.n
 k : ∀ it ∈ its, it.key < 2 * r
 l : its.length ≤ 2 * r
 z : ∀ i, i < Hs.size → L i = (0, 0)
 gr : Gr Hs.size Hs H
def labR (L : Lab) (a m1 b m2 : Nat) (r : Nat) : Lab := fun i => if i < a then L i else if i < m1 then (1, 2 * (2 * r) + 4) else if i < b then (0, 0) else if i < m2 then (1, 2 * (2 * r + 1) + 4) else (0, 0)
theorem labR_lt {L : Lab} {a m1 b m2 r i : Nat} (h : i < a) : labR L a m1 b m2 r i = L i := if_pos h
theorem labR_1 {L : Lab} {a m1 b m2 r i : Nat} (h : a ≤ i) (h1 : i < m1) : labR L a m1 b m2 r i = (1, 2 * (2 * r) + 4) := by unfold labR; rw [if_neg (by omega), if_pos h1]
theorem labR_0 {L : Lab} {a m1 b m2 r i : Nat} (h : a ≤ m1) (h0 : m1 ≤ i) (h1 : i < b) : labR L a m1 b m2 r i = (0, 0) := by unfold labR; rw [if_neg (by omega), if_neg (by omega), if_pos h1]
theorem labR_2 {L : Lab} {a m1 b m2 r i : Nat} (h : a ≤ m1) (hb : m1 ≤ b) (h0 : b ≤ i) (h1 : i < m2) : labR L a m1 b m2 r i = (1, 2 * (2 * r + 1) + 4) := by unfold labR; rw [if_neg (by omega), if_neg (by omega), if_neg (by omega), if_pos h1]
theorem labR_3 {L : Lab} {a m1 b m2 r i : Nat} (h : a ≤ m1) (hb : m1 ≤ b) (hm : b ≤ m2) (h0 : m2 ≤ i) : labR L a m1 b m2 r i = (0, 0) := by unfold labR; rw [if_neg (by omega), if_neg (by omega), if_neg (by omega), if_neg (by omega)]
theorem not_ofB {L : Lab} {b i : Nat} (h : L i = (0, 0)) : ¬ OfB L b i := fun q => q.2.1 (by rw [h])
theorem sel_0 {L : Lab} {b i : Nat} (h : L i = (0, 0)) : selL b L i = 0 := by unfold selL; rw [h]; simp
theorem s_law20_FilterKept_round (c : CallK) {N : Nat} (hN : 9223372036854775807 < N) (hO : OwnROk c f_filter_Own) (hS : ShrROk c f_filter_Share) (hK : KeepZ c f_book_Book_byte_Keep 1 GoodB)
  {Hs : Heap} (hws : WF Hs) {b : Nat} {st : Int} {hv0 bv0 : V} (hx : Bx Hs b [.int .i64 st, hv0, bv0]) (hd : List Hd) (f1 : Small hd) (f3 : (getT expN hd).length ≤ 900000) (lb : List Nat) (hll : lb.length ≤ 1000) (A : RepArg Hs hv0 bv0 hd lb.length (ws .u8 lb))
  {L : Lab} {H : Heap} {K : Nat} {its : List ItZ} {r : Nat} (hr : r < 2) (h : FKst Hs L H K its r) (τ : Tape) :
  ∃ L' H' its' τ', FKst Hs L' H' K its' (r + 1) ∧ ∀ (fr : T V) k, fr.get 1 = some (.ptr b 0) → fr.get 3 = some (.ptr K 0) → fr.get 4 = some (.int .i64 (r : Int)) →
   s_law20_FilterKept_l1 c N ⟨fr, H⟩ τ k = k .normal ⟨(T.set (T.set (T.set (T.set (T.set (T.set .leaf 1 (.ptr b 0)) 3 (.ptr K 0)) 4 (.int .i64 (r : Int))) 19 (.int .i64 (r : Int))) 20 (.int .i64 ((r + 1 : Nat) : Int))) 4 (.int .i64 ((r + 1 : Nat) : Int))), H'⟩ τ' := by
 have hbl := hx.lt hws
 have hsz := h.gr.size
 have AH := A.gr h.gr hws
 have e1 : lLoadN 3 [.ptr b 0] H = some (.agg [.int .i64 st, hv0, bv0]) := bx_loads (hx.gr h.gr hbl) rfl
 obtain ⟨v69, H70, τ70, r70, g70, k70⟩ := hO hd f1 st hv0 bv0 [117] H h.wf AH (by omega) τ
 obtain ⟨c1, c2, _⟩ := r70.cells
 obtain ⟨m1, ho, bo, rfl, n1, n2, n3, n4⟩ := r70.ex
 obtain ⟨H73, H76, a73, s76, x76, g76, z76, _⟩ := newvar g70.wf [(.int .i64 (.ofNat 0)), (.int .i64 (.ofNat 0)), .nils, .nils, (.str [])] (.agg [.int .i64 2, .int .i64 st, ho, bo, .str [117]]) 5 rfl rfl (by omega) c2 τ70
 replace x76 : Bx H76 H70.size [.int .i64 2, .int .i64 st, ho, bo, .str [117]] := x76
 have gH76 : Gr H.size H H76 := g70.trans g76 g70.size
 have gs76 : Gr Hs.size Hs H76 := h.gr.trans gH76 hsz
 have e2 : lLoadN 3 [.ptr b 0] H76 = some (.agg [.int .i64 st, hv0, bv0]) := bx_loads (hx.gr gs76 hbl) rfl
 obtain ⟨v79, H80, τ80, r80, g80, k80⟩ := hS hd f1 f3 false st hv0 bv0 [117] H76 g76.wf (A.gr gs76 hws) (by omega) τ70
 obtain ⟨c3, c4, _⟩ := r80.cells
 obtain ⟨m2, hb, bb, rfl, u1, u2, u3, u4⟩ := r80.ex
 obtain ⟨H83, H86, a83, s86, x86, g86, z86, _⟩ := newvar g80.wf [(.int .i64 (.ofNat 0)), (.int .i64 (.ofNat 0)), .nils, .nils, (.str [])] (.agg [.int .i64 3, .int .i64 st, hb, bb, .str [117]]) 5 rfl rfl (by omega) c4 τ80
 replace x86 : Bx H86 H80.size [.int .i64 3, .int .i64 st, hb, bb, .str [117]] := x86
 have z70 := g70.size
 have z80 := g80.size
 have g7686 : Gr H76.size H76 H86 := g80.trans g86 z80
 have g7086 : Gr H70.size H70 H86 := g76.trans g7686 (by omega)
 have gH86 : Gr H.size H H86 := g70.trans g7086 z70
 generalize hL1 : labR L H.size m1 H76.size m2 r = L1
 have B86 : BookZ 1 (selL 1 L1) H86 K its := h.b1.grL h.wf gH86 (fun i hi => by rw [← hL1]; exact labR_lt hi)
 have y86 : Bx H86 H70.size [.int .i64 2, .int .i64 st, ho, bo, .str [117]] := x76.gr g7686 (by omega)
 have lva : L1 H70.size = (0, 0) := by rw [← hL1]; exact labR_0 n1 n2 (by omega)
 have lvb : L1 H80.size = (0, 0) := by rw [← hL1]; exact labR_3 n1 (by omega) u1 u2
 have bo86 : BodP (fun i => H.size ≤ i ∧ i < m1) H86 bo lb.length (ws .u8 lb) := n4.chg g70.wf g7086.chg (Q := fun _ => False) (fun _ _ _ q => q)
 obtain ⟨cap1, rz1, hc1⟩ := bo86.roomZ
 have X1 : LstZ L1 1 (2 * r) H86 bo 1 cap1 lb.length (ws .u8 lb) := ⟨rz1.weaken g86.wf (fun i _ hp => by rw [← hL1]; exact labR_1 hp.1 hp.2), by simp [ws], bo86.rd.pLen, hc1⟩
 have bb86 : BodP (fun i => H76.size ≤ i ∧ i < m2) H86 bb lb.length (ws .u8 lb) := u4.chg g80.wf g86.chg (Q := fun _ => False) (fun _ _ _ q => q)
 obtain ⟨cap2, rz2, hc2⟩ := bb86.roomZ
 have X2 : LstZ L1 1 (2 * r + 1) H86 bb 1 cap2 lb.length (ws .u8 lb) := ⟨rz2.weaken g86.wf (fun i _ hp => by rw [← hL1]; exact labR_2 n1 (by omega) hp.1 hp.2), by simp [ws], bb86.rd.pLen, hc2⟩
 have good : GoodB (ws .u8 lb) lb.length := ⟨lb, rfl, rfl, by omega⟩
 obtain ⟨its1, H91, τ91, L2, q1, q2, q3, q4, q5, q6⟩ := hK L1 1 K its H86 bo cap1 lb.length (ws .u8 lb) (2 * r) g86.wf B86 (fun hm => by
  obtain ⟨it, hit, e⟩ := List.mem_map.1 hm
  have := h.k it hit; omega) X1 (ws_scK lb) (by omega) (by have := h.l; omega) h.g good τ80
 have z91 := q4.size
 have X2' := X2.kept g86.wf q4 q5
 have k1 : ∀ it ∈ its1, it.key < 2 * r + 1 := fun it hit => by
  rcases q2 it hit with e | ⟨e, _⟩
  ·have := h.k it e; omega
  ·omega
 have g1 : ∀ it ∈ its1, GoodB it.cs it.n := fun it hit => by
  rcases q2 it hit with e | ⟨_, e2, e3⟩
  ·exact h.g it e
  ·rw [e2, e3]; exact good
 obtain ⟨its2, H96, τ96, L3, p1, p2, p3, p4, p5, p6⟩ := hK L2 1 K its1 H91 bb cap2 lb.length (ws .u8 lb) (2 * r + 1) q4.wf q1 (fun hm => by
  obtain ⟨it, hit, e⟩ := List.mem_map.1 hm
  have := k1 it hit; omega) X2' (ws_scK lb) (by omega) (by have := h.l; omega) g1 good τ91
 have z96 := p4.size
 have l2 : ∀ i, i < H86.size → L1 i = (0, 0) → L2 i = (0, 0) := fun i hi e => by rw [q5 i hi]; exact e
 have l3 : ∀ i, i < H86.size → L1 i = (0, 0) → L3 i = (0, 0) := fun i hi e => by rw [p5 i (by omega)]; exact l2 i hi e
 have vaH : H70.size < H86.size := by omega
 have vbH : H80.size < H86.size := by omega
 have y91a := y86.chg g86.wf q4 (not_ofB lva)
 have y91 := x86.chg g86.wf q4 (not_ofB lvb)
 have y96a := y91a.chg q4.wf p4 (not_ofB (l2 _ vaH lva))
 have y96 := y91.chg q4.wf p4 (not_ofB (l2 _ vbH lvb))
 have lab1 : ∀ i, m1 ≤ i → i < H70.size → L1 i = (0, 0) := fun i a1 a2 => by rw [← hL1]; exact labR_0 n1 a1 (by omega)
 have lab2 : ∀ i, m2 ≤ i → i < H80.size → L1 i = (0, 0) := fun i a1 a2 => by rw [← hL1]; exact labR_3 n1 (by omega) u1 a1
 have o1 : OwnP (fun i => m1 ≤ i ∧ i < H70.size) H96 2 ho (hd.filter keptB).length (hcells (hd.filter keptB)) :=
  (((own_P n3.1 g70.wf).chg g70.wf g7086.chg (Q := fun _ => False) (fun _ _ _ q => q)).chg g86.wf q4 (fun i hi hp => not_ofB (lab1 i hp.1 hp.2))).chg q4.wf p4 (fun i hi hp => not_ofB (l2 i (by omega) (lab1 i hp.1 hp.2)))
 have o2 : OwnP (fun i => m2 ≤ i ∧ i < H80.size) H96 2 hb ((hd.filter keptB).filter (shrB hd false)).length (hcells ((hd.filter keptB).filter (shrB hd false))) :=
  (((own_P u3.1 g80.wf).chg g80.wf g86.chg (Q := fun _ => False) (fun _ _ _ q => q)).chg g86.wf q4 (fun i hi hp => not_ofB (lab2 i hp.1 hp.2))).chg q4.wf p4 (fun i hi hp => not_ofB (l2 i (by omega) (lab2 i hp.1 hp.2)))
 have hl1 : (hd.filter keptB).length ≤ 1000000 := by have := List.length_filter_le keptB hd; have := f1.len; omega
 have hl2 : ((hd.filter keptB).filter (shrB hd false)).length ≤ 1000000 := by have := List.length_filter_le (shrB hd false) (hd.filter keptB); omega
 obtain ⟨H97, d1, d2, d3⟩ := l_law20_FK5 c N (va := H70.size) (P := fun i => m1 ≤ i ∧ i < H70.size) (by omega) hl1 (.ptr b 0) (.ptr K 0) (.int .i64 (r : Int)) (.ptr H80.size 0) (hd.filter keptB).length 0 _ H96 τ96 N (by omega) (by omega) p4.wf y96a o1
 have y97 := y96.chg p4.wf d1 (show ¬ (m1 ≤ H80.size ∧ H80.size < H70.size) by omega)
 have o2' := o2.chg p4.wf d1 (fun i _ hp hq => by omega)
 obtain ⟨H98, w1, w2, w3⟩ := l_law20_FK4 c N (vb := H80.size) (P := fun i => m2 ≤ i ∧ i < H80.size) (by omega) hl2 (.ptr b 0) (.ptr K 0) (.int .i64 (r : Int)) ((hd.filter keptB).filter (shrB hd false)).length 0 _ H97 τ96 N (by omega) (by omega) d1.wf y97 o2'
 have b97 : BookZ 1 (selL 1 L3) H97 K its2 := p1.chg p4.wf d1 (fun i _ hq => sel_0 (l3 i (by omega) (lab1 i hq.1 hq.2))) (fun _ _ => rfl)
 have b98 : BookZ 1 (selL 1 L3) H98 K its2 := b97.chg d1.wf w1 (fun i _ hq => sel_0 (l3 i (by omega) (lab2 i hq.1 hq.2))) (fun _ _ => rfl)
 have zL1 : ∀ i, i < Hs.size → L1 i = (0, 0) := fun i hi => by rw [← hL1, labR_lt (by omega)]; exact h.z i hi
 have zL2 : ∀ i, i < Hs.size → L2 i = (0, 0) := fun i hi => l2 i (by omega) (zL1 i hi)
 have gA : Gr Hs.size Hs H86 := h.gr.trans gH86 hsz
 have gB := gA.trans (Of.gr (OfB.of q4) (B := Hs.size) (by omega) zL1) (Nat.le_refl _)
 have gC := gB.trans (Of.gr (OfB.of p4) (B := Hs.size) (by omega) zL2) (Nat.le_refl _)
 have gD := gC.trans (d1.gr (B := Hs.size) (by omega) (fun i hi hq => by omega)) (Nat.le_refl _)
 have gE := gD.trans (w1.gr (B := Hs.size) (by omega) (fun i hi hq => by omega)) (Nat.le_refl _)
 refine ⟨L3, H98, its2, τ96, ⟨w1.wf, b98, fun it hit => ?_, fun it hit => ?_, by have := h.l; omega, fun i hi => l3 i (by omega) (zL1 i hi), gE⟩, fun fr k i1 i3 i4 => ?_⟩
 ·rcases p2 it hit with e | ⟨_, e2, e3⟩
  ·exact g1 it e
  ·rw [e2, e3]; exact good
 ·rcases p2 it hit with e | ⟨e, _⟩
  ·have := k1 it e; omega
  ·omega
 ·have e0 : decide ((r : Int) < Int.ofNat 2) = true := decide_eq_true (by have : Int.ofNat 2 = 2 := rfl; omega)
  have e9 : wr .i64 ((r : Int) + Int.ofNat 1) = ((r + 1 : Nat) : Int) := adI (by omega)
  have fo : ∀ i k, pFieldAddr k [.ptr i 0] = some (.ptr i (0 + k)) := fun _ _ => rfl
  have t1 : lLoad1 [.ptr H70.size (0 + 3)] H86 = some bo := bx_load y86 rfl
  have t2 : lLoad1 [.ptr H80.size (0 + 3)] H91 = some bb := bx_load y91 rfl
  have b117 : bs [117] = [117] := rfl
  simp only [s_law20_FilterKept_l1, getK_mk i1, getK_mk i3, getK_mk i4, bin_lss, e0, condK_tn, e1, someK_n, b117, k70, a73, s76, effK_n, e2, k80, a83, s86, fo, t1, q6, t2, p6]
  rw [d3 _ _ (by simp [T.get_set]) (by simp [T.get_set]) (by simp [T.get_set]) (by simp [T.get_set]) (by simp [T.get_set]) (by simp [T.get_set])]
  simp only [blockK, Nat.beq_refl, cond_true, seqK, s_law20_FilterKept_j3, getK_set, ↓reduceIte, Nat.reduceEqDiff, someK_n, effK_n, retK, gK_do, gK_do', gK_skip, gK_skip', gK_none, pick_mk, cond_true, cond_false, condK_tn, condK_fn, bin_eql, bin_neq, bin_lss, bin_leq, bin_gtr, bin_geq, un_not, Bool.not_true, Bool.not_false, bin_str, lenS_mk, nle_l, nle_r, nle_n, nlt_l, nlt_r, nlt_n, neq_r, neq_n, nne_r, nne_n, ext0, ext1, ext30, ext31, ext32, bin_add, bin_sub, decide_true, decide_false]
  rw [w3 _ _ (by simp [T.get_set]) (by simp [T.get_set]) (by simp [T.get_set]) (by simp [T.get_set]) (by simp [T.get_set])]
  simp only [blockK, Nat.beq_refl, cond_true, seqK, s_law20_FilterKept_j2, getK_set, ↓reduceIte, Nat.reduceEqDiff, someK_n, effK_n, retK, gK_do, gK_do', gK_skip, gK_skip', gK_none, pick_mk, cond_true, cond_false, condK_tn, condK_fn, bin_eql, bin_neq, bin_lss, bin_leq, bin_gtr, bin_geq, un_not, Bool.not_true, Bool.not_false, bin_str, lenS_mk, nle_l, nle_r, nle_n, nlt_l, nlt_r, nlt_n, neq_r, neq_n, nne_r, nne_n, ext0, ext1, ext30, ext31, ext32, bin_add, bin_sub, decide_true, decide_false, e9]
end Go.Am.X

namespace Go.Am.X
theorem few_get {hs : List Hd} (hl : hs.length ≤ 20) (ha : ∀ h ∈ hs, h.1.length ≤ 200 ∧ h.2.length ≤ 200) : Small hs ∧ (getT expN hs).length ≤ 900000 := by
 refine ⟨⟨by omega, fun h hh => by have := ha h hh; omega⟩, ?_⟩
 have h1 : (sel expN hs).length ≤ 20 := by
  simp only [sel, List.length_map]
  have := List.length_filter_le (fun h : Bs × Bs => lower h.1 == lower expN) hs
  omega
 have h2 := joinB_length [44, 32] 200 (sel expN hs) (fun x hx => by
  simp only [sel, List.mem_map, List.mem_filter] at hx
  obtain ⟨y, ⟨hy, _⟩, rfl⟩ := hx
  exact (ha y hy).2)
 have h3 : (sel expN hs).length * (200 + ([44, 32] : Bs).length) ≤ 20 * 202 := Nat.mul_le_mul h1 (by simp)
 unfold getT
 omega
theorem fewH_all (hs : List Hd) : (fewH 12 200 hs).length ≤ 12 ∧ ∀ h ∈ fewH 12 200 hs, h.1.length ≤ 200 ∧ h.2.length ≤ 200 := by
 refine ⟨by unfold fewH; rw [List.length_map, List.length_take]; omega, fun h hh => ?_⟩
 unfold fewH at hh
 obtain ⟨x, _, rfl⟩ := List.mem_map.1 hh
 unfold fewh
 simp only [List.length_take]
 omega
def exX : Hd := ([101, 120, 112, 105, 114, 101, 115], [120])
theorem s_law20_h_ret (c : CallK) (N : Nat) (a b : Bs) {H : Heap} (hw : WF H) (τ : Tape) : ∃ H', Gr H.size H H' ∧ ∀ q, s_law20_h c N (.str a) (.str b) H τ q = q (hv (a, b)) H' τ := by
 obtain ⟨H1, H2, a1, s1, x2, g2, z2, _⟩ := newvar hw [(.str []), (.str [])] (hv (a, b)) 2 rfl rfl (by omega) rfl τ
 have pb : pBuild [(.str []), (.str [])] [(0, 1), (1, 1)] [.str a, .str b] = some (hv (a, b)) := rfl
 have er : results ⟨T.set .leaf 4 (.ptr H.size 0), H2⟩ [.cell 4 (some 2)] = some (hv (a, b)) := res_c (by simp [T.get_set]) (bx_loads x2 rfl)
 exact ⟨H2, g2, fun q => by simp only [s_law20_h, a1, effK_n, pb, s1, someK_n, er]⟩
theorem s_law20_FilterKept_ret (c : CallK) {N : Nat} (hN : 9223372036854775807 < N) (hRp : RepOk c) (hO : OwnROk c f_filter_Own) (hS : ShrROk c f_filter_Share) (hK : KeepZ c f_book_Book_byte_Keep 1 GoodB) (hA : ApartZ c f_book_Book_byte_Apart 1 f_book_Bytes GoodB)
  (hH : ∀ (a b : Bs) {H : Heap}, WF H → ∀ τ, ∃ H', Gr H.size H H' ∧ ∀ q, c f_law20_h [.str a, .str b] H τ q = q (hv (a, b)) H' τ) (hKn : ∀ H τ q, c f_law20_known [] H τ q = q (.bool true) H τ)
  (hs : List Hd) (hl : hs.length ≤ 9223372036854775807) (la : List Nat) (st : Int) (hvr bvr : V) (H : Heap) (hw : WF H) (ha : RepArg H hvr bvr hs la.length (ws .u8 la)) (hro : Roomy bvr) (τ : Tape) :
  ∃ H' τ', Gr H.size H H' ∧ ∀ q, s_law20_FilterKept c N (.agg [.int .i64 st, hvr, bvr]) H τ q = q (.bool true) H' τ' := by
 obtain ⟨f2, f1⟩ := fewH_all hs
 obtain ⟨H1, a1, x1, g1, z1⟩ := newbox hw (.agg [.int .i64 st, hvr, bvr]) τ
 replace x1 : Bx H1 H.size [.int .i64 st, hvr, bvr] := x1
 have e1 : lLoadN 3 [.ptr H.size 0] H1 = some (.agg [.int .i64 st, hvr, bvr]) := bx_loads x1 rfl
 obtain ⟨v4, H5, τ5, r1, g5, k5⟩ := hRp hs hl st hvr bvr H1 g1.wf (ha.gr g1 hw) hro τ
 obtain ⟨m, hv0, bv0, rfl, m1, m2, m3, m4⟩ := r1.ex
 have z5 := g5.size
 have hlb : min la.length 300 = (la.take 300).length := by rw [List.length_take]; omega
 rw [ws_tk, hlb] at m4
 have hll : (la.take 300).length ≤ 1000 := by rw [List.length_take]; omega
 generalize hla : la.take 300 = lb at m4 hll
 generalize fewH 12 200 hs = hd at f1 f2 m3
 have sh := rd_sc m3.rd
 have sb := m4.scal
 obtain ⟨H8, s8, x8, o8⟩ := (x1.gr g5 (by omega)).eStore g5.wf 0 (.agg [.int .i64 st, hv0, bv0]) 3 rfl (by simp) (by omega) (by show (true && (hv0.scal && (bv0.scal && true))) = true; rw [sb.2, sh.2]; rfl) τ5
 replace x8 : Bx H8 H.size [.int .i64 st, hv0, bv0] := x8
 have z8 : H8.size = H5.size := o8.size
 have g8 : Gr H.size H H8 := (g1.trans g5 (by omega)).trans (o8.gr (B := H.size) (by omega)) (Nat.le_refl _)
 have q1 := m3.chg g5.wf (o8.chg (P := fun i => i = H.size) rfl) (fun i _ h h' => by omega)
 have q2 := (m4.weaken (Q := fun i => m ≤ i ∧ i < H5.size) g5.wf (fun i hi h => ⟨h, hi⟩)).chg g5.wf (o8.chg (P := fun i => i = H.size) rfl) (fun i _ h h' => by omega)
 have fo : ∀ i k, pFieldAddr k [.ptr i 0] = some (.ptr i (0 + k)) := fun _ _ => rfl
 have l8 : lLoad1 [.ptr H.size (0 + 1)] H8 = some hv0 := bx_load x8 rfl
 obtain ⟨H13, g13, k13⟩ := hH [101, 120, 112, 105, 114, 101, 115] [120] o8.wf τ5
 have z13 := g13.size
 have a16 : eBuildSlice 1 2 [(.str []), (.str [])] [(0, 2)] [hv exX] H13 τ5 = some (.sl H13.size 0 1 1 none 2, H13.new (hcells [exX]) (1 * 2) false, τ5) := rfl
 have g16 := Gr.new g13.wf (hcells [exX]) (1 * 2) false
 have c16 := cells_new H13 (hcells [exX]) (1 * 2) false
 generalize H13.new (hcells [exX]) (1 * 2) false = H16 at a16 g16 c16
 have z16 := g16.size
 have rd16 : Rd H16 2 (.sl H13.size 0 1 1 none 2) 1 (hcells [exX]) := .inr ⟨H13.size, 0, 1, none, _, rfl, c16, rfl, rfl⟩
 obtain ⟨t1, t2⟩ := rd16.loads ⟨_, c16⟩
 have g816 : Gr H8.size H8 H16 := g13.trans g16 z13
 have p1 := q1.chg o8.wf g816.chg (Q := fun _ => False) (fun _ _ _ q => q)
 have p2 := q2.chg o8.wf g816.chg (Q := fun _ => False) (fun _ _ _ q => q)
 have y16 := x8.gr g816 (by omega)
 have y13 := x8.gr g13 (by omega)
 obtain ⟨v18, H19, ap, w1, w2, w3⟩ := p1.append (bytes := 32) g816.wf 1 (hcells [exX]) (by omega) rfl rfl (by omega) (by omega) τ5
 have ap' : eAppend 2 32 [hv0, .sl H13.size 0 1 1 none 2] H16 τ5 = some (v18, H19, τ5.tail) := by
  rw [← ap]; simp only [eAppend, t1, t2]
 have z19 := w2.size
 have p3 := p2.chg g816.wf w2 (fun i _ h h' => by omega)
 have y19 := y16.chg g816.wf w2 (by omega)
 have s18 := w1.scal
 obtain ⟨H23, s23, x23, o23⟩ := y19.eStore w2.wf 1 v18 1 (by rw [s18.1]; rfl) (by simp) (by omega) (by rw [s18.1]; simp [s18.2]) τ5.tail
 replace x23 : Bx H23 H.size [.int .i64 st, v18, bv0] := by rw [s18.1] at x23; exact x23
 have z23 : H23.size = H19.size := o23.size
 have sm := same_rd q1.rd
 have l13 : lLoad1 [.ptr H.size (0 + 1)] H13 = some hv0 := bx_load y13 rfl
 have l16 : lLoad1 [.ptr H.size (0 + 1)] H16 = some hv0 := bx_load y16 rfl
 have hc : chkLoads [H8, H13, H16, H19, H23] (((.load none), [.ptr H.size (0 + 1)], 0, 2) :: []) = true := by
  simp only [Nat.zero_add] at l8 l13 l16
  simp [chkLoads, evalL, lLoad, l8, l13, l16, chk1, sm]
 have p4 := p3.chg w2.wf (o23.chg (P := fun i => i = H.size) rfl) (fun i _ h h' => by omega)
 have w4 := w1.chg w2.wf (o23.chg (P := fun i => i = H.size) rfl) (fun i _ h h' => by omega)
 rw [← hcells_append, show hd.length + 1 = (hd ++ [exX]).length by simp] at w4
 have A23 : RepArg H23 v18 bv0 (hd ++ [exX]) lb.length (ws .u8 lb) := ⟨ownP_rdH w4, p4.rd, p4.src⟩
 obtain ⟨f5, f6⟩ := few_get (hs := hd ++ [exX]) (by simp; omega) (fun h hh => by
  rcases List.mem_append.1 hh with h1 | h1
  ·exact f1 h h1
  ·simp at h1; subst h1; decide)
 have g819 : Gr H.size H8 H19 := (g816.weaken (by omega)).trans (w2.gr (B := H.size) (by omega) (fun i hi h => by omega)) (Nat.le_refl _)
 have g23 : Gr H.size H H23 := (g8.trans g819 (Nat.le_refl _)).trans (o23.gr (B := H.size) (Nat.le_refl _)) (Nat.le_refl _)
 have a26 : eAlloc [.nils, .nils, (.int .i64 (.ofNat 0)), (.bool false)] [] H23 τ5.tail = some (.ptr H23.size 0, H23.new [.nils, .nils, .int .i64 ((0 : Nat) : Int), .bool false] 4 true, τ5.tail) := rfl
 have g26 := Gr.new o23.wf [.nils, .nils, .int .i64 ((0 : Nat) : Int), .bool false] 4 true
 have B26 := BookZ.newL 1 1 H23 (fun _ => (0, 0))
 generalize H23.new [.nils, .nils, .int .i64 ((0 : Nat) : Int), .bool false] 4 true = H26 at a26 g26 B26
 have k0 : FKst H23 (labN (fun _ => (0, 0)) H23.size 1 1) H26 H23.size [] 0 := ⟨g26.wf, B26, by simp, by simp, by simp, fun i hi => labN_lt _ _ _ hi, g26⟩
 obtain ⟨La, Ha, ia, τa, ka, ra⟩ := s_law20_FilterKept_round c hN hO hS hK o23.wf x23 (hd ++ [exX]) f5 f6 lb hll A23 (r := 0) (by omega) k0 τ5.tail
 obtain ⟨Lb, Hb, ib, τb, kb, rb⟩ := s_law20_FilterKept_round c hN hO hS hK o23.wf x23 (hd ++ [exX]) f5 f6 lb hll A23 (r := 1) (by omega) ka τa
 obtain ⟨Hd, τd, d1, d2⟩ := hA Lb 1 H23.size ib Hb kb.wf kb.b1 (by have := kb.l; omega) kb.g τb
 have zb := kb.gr.size
 have gD : Gr H23.size H23 Hd := kb.gr.trans (Of.gr d1 (B := H23.size) zb kb.z) (Nat.le_refl _)
 have z823 := g23.size
 refine ⟨Hd, τd, g23.trans gD (by omega), fun q => ?_⟩
 obtain ⟨M, rfl⟩ : ∃ M, N = M + 1 + 1 + 1 := ⟨N - 3, by omega⟩
 have xd := x23.gr gD (x23.lt o23.wf)
 have ld : lLoad1 [.ptr H.size (0 + 1)] Hd = some v18 := bx_load xd rfl
 have rD := A23.1.gr gD o23.wf (Nat.le_refl _)
 have pl := rD.1.pLen
 obtain ⟨id, off, h1, h2⟩ := hd_at (v := v18) hd exX [] (H := Hd) rD.1
 obtain ⟨_, _, h3⟩ := h2 Hd rD.1
 have eS : wr .i64 (((hd ++ [exX]).length : Int) - Int.ofNat 1) = (hd.length : Int) := by
  rw [wr_id (by simp <;> omega) (by simp <;> omega)]; simp
 have fb : pFieldAddr 1 [.ptr id off] = some (.ptr id (off + 1)) := rfl
 have eX : strBin .eql exX.2 (bs [120]) = some (.bool true) := rfl
 have k13' : ∀ q, c f_law20_h [.str (bs [101, 120, 112, 105, 114, 101, 115]), .str (bs [120])] H8 τ5 q = q (hv exX) H13 τ5 := k13
 simp only [s_law20_FilterKept, a1, effK_n, e1, k5, s8, fo, l8, k13', a16, ap', s23, hc, cond_true, a26, someK_n]
 rw [loopK_succ, ra _ _ (by simp [T.get_set]) (by simp [T.get_set]) (by simp [T.get_set])]
 simp only [seqK]
 rw [loopK_succ, rb _ _ (by simp [T.get_set]) (by simp [T.get_set]) (by simp [T.get_set])]
 simp only [seqK]
 rw [loopK_succ]
 have e2 : decide (((1 + 1 : Nat) : Int) < Int.ofNat 2) = false := by decide
 simp only [s_law20_FilterKept_l1, getK_set, ↓reduceIte, Nat.reduceEqDiff, someK_n, effK_n, retK, gK_do, gK_do', gK_skip, gK_skip', gK_none, pick_mk, cond_true, cond_false, condK_tn, condK_fn, bin_eql, bin_neq, bin_lss, bin_leq, bin_gtr, bin_geq, un_not, Bool.not_true, Bool.not_false, bin_str, lenS_mk, nle_l, nle_r, nle_n, nlt_l, nlt_r, nlt_n, neq_r, neq_n, nne_r, nne_n, ext0, ext1, ext30, ext31, ext32, bin_add, bin_sub, decide_true, decide_false, bin_lss, e2]
 simp only [seqK, blockK, Nat.beq_refl, cond_true, s_law20_FilterKept_j0, getK_set, ↓reduceIte, Nat.reduceEqDiff, someK_n, effK_n, retK, gK_do, gK_do', gK_skip, gK_skip', gK_none, pick_mk, cond_true, cond_false, condK_tn, condK_fn, bin_eql, bin_neq, bin_lss, bin_leq, bin_gtr, bin_geq, un_not, Bool.not_true, Bool.not_false, bin_str, lenS_mk, nle_l, nle_r, nle_n, nlt_l, nlt_r, nlt_n, neq_r, neq_n, nne_r, nne_n, ext0, ext1, ext30, ext31, ext32, bin_add, bin_sub, decide_true, decide_false, d2, fo, ld, pl, eS, h1, fb, h3, eX, hKn]
end Go.Am.X

namespace Go.Am.X
noncomputable abbrev rw_FKept : List Row := [Row.fn f_law20_FilterKept fn_law20_FilterKept e_law20_FilterKept, Row.prim f_law20_known closedP, Row.fn f_law20_h fn_law20_h e_law20_h, Row.fn f_keep_Reply fn_keep_Reply e_keep_Reply, Row.prim f_keep_FewHeaders (outP (RH FewHPre FewHG)), Row.fn f_keep_FewBytes fn_keep_FewBytes e_keep_FewBytes,
 Row.fn f_filter_Own fn_filter_Own e_filter_Own, Row.fn f_filter_Share fn_filter_Share e_filter_Share, Row.fn f_filter_shown fn_filter_shown e_filter_shown, Row.fn f_filter_Own_1 fn_filter_Own_1 e_filter_Own_1, Row.fn f_filter_Share_1 fn_filter_Share_1 e_filter_Share_1,
 Row.fn f_slices_Clone_byte fn_slices_Clone_byte e_slices_Clone_byte, Row.fn f_slices_Contains_string fn_slices_Contains_string e_slices_Contains_string, Row.fn f_slices_Index_string fn_slices_Index_string e_slices_Index_string, Row.prim f_cors_Exposed (outP (RH ExpPre ExpG)), Row.prim f_infra_Lower (outP LowR),
 Row.fn f_book_Book_byte_Keep fn_book_Book_byte_Keep e_book_Book_byte_Keep, Row.fn f_book_Book_byte_Apart fn_book_Book_byte_Apart e_book_Book_byte_Apart, Row.fn f_book_Book_byte_Stays fn_book_Book_byte_Stays e_book_Book_byte_Stays, Row.fn f_book_Same_byte fn_book_Same_byte e_book_Same_byte, Row.fn f_book_Bytes fn_book_Bytes e_book_Bytes]
def FilterKeptR (vs : List V) (H : Heap) (o : Out) : Prop := (∃ (hs : List Hd) (la : List Nat) (st : Int) (hvr bvr : V), vs = [.agg [.int .i64 st, hvr, bvr]] ∧ RepArg H hvr bvr hs la.length (ws .u8 la) ∧ hs.length ≤ 9223372036854775807 ∧ Roomy bvr) ∧ o = .val (.bool true)
theorem closedP_callK2 {c : CallK} {f : Nat} (h : ∀ vs H τ q, c f vs H τ q = effK (closedP vs H τ) q) : ∀ H τ q, c f [] H τ q = q (.bool true) H τ := fun H τ q => by rw [h]; rfl
theorem someNK : ∃ N : Nat, 9223372036854775808 < N := ⟨9223372036854775809, by decide⟩
theorem filterKept_ok : ∀ base w0, PrimOk PG base w0 f_law20_FilterKept (outP FilterKeptR) := by
 obtain ⟨N, hN1⟩ := someNK
 have hN : 9223372036854775807 < N := by omega
 refine primOk_out mixed_ok (l := rw_FKept) (.fn ok_law20_FilterKept e_law20_FilterKept_ok (.prim closed_law20_known_ok (.fn ok_law20_h e_law20_h_ok (.fn ok_keep_Reply e_keep_Reply_ok (.prim p_keep_FewHeaders (.fn ok_keep_FewBytes e_keep_FewBytes_ok (.fn ok_filter_Own e_filter_Own_ok (.fn ok_filter_Share e_filter_Share_ok (.fn ok_filter_shown e_filter_shown_ok (.fn ok_filter_Own_1 e_filter_Own_1_ok (.fn ok_filter_Share_1 e_filter_Share_1_ok (.fn ok_slices_Clone_byte e_slices_Clone_byte_ok (.fn ok_slices_Contains_string e_slices_Contains_string_ok (.fn ok_slices_Index_string e_slices_Index_string_ok (.prim p_cors_Exposed (.prim p_infra_Lower (.fn ok_book_Book_byte_Keep e_book_Book_byte_Keep_ok (.fn ok_book_Book_byte_Apart e_book_Book_byte_Apart_ok (.fn ok_book_Book_byte_Stays e_book_Book_byte_Stays_ok (.fn ok_book_Same_byte e_book_Same_byte_ok (.fn ok_book_Bytes e_book_Bytes_ok (.nil _)))))))))))))))))))))) N 8 _ ?_
 rintro vs H o hw hvs ⟨⟨hs, la, st, hvr, bvr, rfl, h1, h2, h3⟩, rfl⟩ τ
 have con : ConSOk (CR rw_FKept N 4) := fun x hl _ hr τ q => s_slices_Contains_string_ret (CR rw_FKept N 3) N _ _ x _ τ (s_slices_Index_string_ret (CR rw_FKept N 2) hN _ _ x hl _ hr τ) q
 have nl : NLowOk (CR rw_FKept N 5) := k_infra_Lower fun _ _ _ _ => rfl
 have cl : CloneOk (CR rw_FKept N 5) := fs_clone (N := N) (c0 := CR rw_FKept N 4) fun _ _ _ _ => rfl
 obtain ⟨H', τ', g, k⟩ := s_law20_FilterKept_ret (CR rw_FKept N 7) hN (fs_rep (N := N) (c0 := CR rw_FKept N 6) (c1 := CR rw_FKept N 5) (fun _ _ _ _ => rfl) (fun _ _ _ _ _ => rfl) (fun _ _ _ _ => rfl))
  (fs_own hN (c0 := CR rw_FKept N 6) (c1 := CR rw_FKept N 5) (fun _ _ _ _ _ => rfl) (fun _ _ _ _ _ _ _ => rfl) nl cl (fun _ _ _ _ => rfl))
  (fs_shr hN (c0 := CR rw_FKept N 6) (c1 := CR rw_FKept N 5) (c2 := CR rw_FKept N 4) (fun _ _ _ _ _ _ => rfl) (fun _ _ _ _ _ _ _ => rfl) (fun _ _ _ _ => rfl) nl cl (fun _ _ _ _ _ _ => rfl) con)
  (keepZ_byte (c' := CR rw_FKept N 6) (c0 := CR rw_FKept N 5) hN (fun _ _ _ _ _ => rfl) (fun _ _ _ _ _ => rfl)) (apartZ_byte (c' := CR rw_FKept N 6) (c'' := CR rw_FKept N 5) (c0 := CR rw_FKept N 4) hN1 (fun _ _ _ _ _ => rfl) (fun _ _ _ _ _ => rfl) (fun _ _ _ _ => rfl) (fun _ _ _ _ _ => rfl))
  (fun a b {H} hw τ => s_law20_h_ret (CR rw_FKept N 6) N a b hw τ) (closedP_callK2 fun _ _ _ _ => rfl) hs h2 la st hvr bvr H hw h1 h3 τ
 exact ⟨_, H', τ', k retK, g, rfl, trivial⟩
theorem filterKept_fun : Fun1 FilterKeptR := fun vs H o o' k k' => k.2.trans k'.2.symm
theorem filterKept_in {H : Heap} {hs : List Hd} {la : List Nat} {st : Int} {hvr bvr : V} (h1 : RepArg H hvr bvr hs la.length (ws .u8 la)) (h2 : hs.length ≤ 9223372036854775807) (h3 : Roomy bvr) (τ : Tape) : outP FilterKeptR [.agg [.int .i64 st, hvr, bvr]] H τ = some (.bool true, H, τ) :=
 outP_mk filterKept_fun ⟨⟨hs, la, st, hvr, bvr, rfl, h1, h2, h3⟩, rfl⟩ τ
end Go.Am.X

