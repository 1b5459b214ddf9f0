/- The abstract machine, printed functions of the program, and what they are shown to be. -/
import Derived.Test.YtlpedafppdffoaaDoorFLEL3
import Derived.Test.YtlpedafppdffoaaDoorFLEL1
import Derived.Test.YtlpedafppdffoaaDoorFLEL0
set_option linter.unusedSimpArgs false
set_option linter.unusedVariables false
set_option linter.unusedSectionVars false
set_option maxRecDepth 100000
namespace Go.Am.X
theorem own_eqs (hs : List Hd) : hs.filter (shwB fun _ => true) = hs.filter keptB := by
 refine List.filter_congr fun h _ => ?_
 unfold shwB keptB; rw [Bool.and_true]
theorem shr_eqs (hs : List Hd) (cred : Bool) : hs.filter (shwB (shF hs cred)) = (hs.filter keptB).filter (shrB hs cred) := by
 rw [List.filter_filter]
 refine List.filter_congr fun h _ => ?_
 have hc : (expNs hs cred ++ shN).contains (lower h.1) = ((expNs hs cred).contains (lower h.1) || shN.contains (lower h.1)) := by
  rw [Bool.eq_iff_iff, Bool.or_eq_true, List.contains_iff_mem, List.contains_iff_mem, List.contains_iff_mem, List.mem_append]
 unfold shwB shF toldB2 shrB sharB keptB
 rw [hc]
 generalize expAll hs cred = a
 generalize (expNs hs cred).contains (lower h.1) = b
 generalize shN.contains (lower h.1) = d
 generalize cookB h.1 = e
 cases a <;> cases b <;> cases d <;> cases e <;> rfl
end Go.Am.X

namespace Go.Am.X
structure Rep (H0 H' : Heap) (v : V) (st : Int) (hs : List Hd) (n : Nat) (cs : List V) : Prop where
 ex : ∃ (m : Nat) (hvv bv : V), v = .agg [.int .i64 st, hvv, bv] ∧ H0.size ≤ m ∧ m ≤ H'.size ∧ OwnP (fun i => H0.size ≤ i ∧ i < m) H' 2 hvv hs.length (hcells hs) ∧ BodP (fun i => m ≤ i) H' bv n cs
theorem s_keep_Reply_ret (c : CallK) (N : Nat)
  (hFH : ∀ (hs : List Hd), hs.length ≤ 9223372036854775807 → ∀ (v : V) (H : Heap), WF H → RdH H v hs → ∀ τ, ∃ v' H' τ', Gr H.size H H' ∧ Own H' H.size 2 v' (fewH 12 200 hs).length (hcells (fewH 12 200 hs)) ∧ ∀ q, c f_keep_FewHeaders [v, .int .i64 (.ofNat 12), .int .i64 (.ofNat 200)] H τ q = q v' H' τ')
  (hFB : ∀ (v : V) (n : Nat) (cs : List V) (H : Heap), Roomy v → Rd H 1 v n cs → ∃ v', Roomy v' ∧ (Src H v → Src H v') ∧ Rd H 1 v' (min n 300) (cs.take 300) ∧ ∀ τ q, c f_keep_FewBytes [v, .int .i64 (.ofNat 300)] H τ q = q v' H τ)
  (hs : List Hd) (hl : hs.length ≤ 9223372036854775807) (st : Int) (hvr bvr : V) (H : Heap) (hw : WF H) {n : Nat} {cs : List V} (ha : RepArg H hvr bvr hs n cs) (hro : Roomy bvr) (τ : Tape) :
  ∃ v H' τ', Rep H H' v st (fewH 12 200 hs) (min n 300) (cs.take 300) ∧ Gr H.size H H' ∧ ∀ q, s_keep_Reply c N (.agg [.int .i64 st, hvr, bvr]) H τ q = q v H' τ' := by
 obtain ⟨H1, a1, x1, g1, z1⟩ := newbox hw (.agg [.int .i64 st, hvr, bvr]) τ
 replace x1 : Bx H1 H.size [.int .i64 st, hvr, bvr] := by
  have e1 := (rdH_sc ha.1).1
  exact x1
 obtain ⟨H4, a4, x4, g4, z4⟩ := newcell g1.wf [(.int .i64 (.ofNat 0)), .nils, .nils] τ
 have g04 : Gr H.size H H4 := g1.trans g4 (by omega)
 have y4 := x1.gr g4 (by omega)
 have ls : ∀ {H' : Heap}, Bx H' H.size [.int .i64 st, hvr, bvr] → lLoad1 [.ptr H.size (0 + 0)] H' = some (.int .i64 st) ∧ lLoad1 [.ptr H.size (0 + 1)] H' = some hvr ∧ lLoad1 [.ptr H.size (0 + 2)] H' = some bvr := fun h => ⟨bx_load h rfl, bx_load h rfl, bx_load h rfl⟩
 obtain ⟨hv', H11, τ11, g11, o11, k11⟩ := hFH hs hl hvr H4 g04.wf (ha.gr g04 hw).1 τ
 have z11 := g11.size
 have y11 := y4.gr g11 (by omega)
 have w11 := x4.gr g11 (by omega)
 have g011 := g04.trans g11 (by omega)
 obtain ⟨hr, hb, hbs⟩ := ha.gr g011 hw
 obtain ⟨pv, p1, p2, p3, p4⟩ := hFB bvr n cs H11 hro hb
 have hlen := p3.len
 obtain ⟨bv', H22, τ22, r1, c1, c2⟩ := clone1 g011.wf p3 (p2 hbs) (by omega) τ11
 have eb : eBuildSlice 0 1 [] [] [] H11 τ11 = some (.sl H11.size 0 0 0 none 1, H11.new [] 0 false, τ11) := rfl
 have g19 : Gr H11.size H11 (H11.new [] 0 false) := Gr.new g011.wf _ _ _
 have y19 := y11.gr g19 (by omega)
 generalize H11.new [] 0 false = H19 at eb g19 y19 r1
 have z22 := c2.size
 have y22 := y11.gr c2 (by omega)
 have w22 := w11.gr c2 (by omega)
 have sb := c1.scal
 have sh := rd_sc o11.rd
 have pb : pBuild [(.int .i64 (.ofNat 0)), .nils, .nils] [(0, 1), (1, 1), (2, 1)] [.int .i64 st, hv', bv'] = some (.agg [.int .i64 st, hv', bv']) := by
  rcases c1 with ⟨rfl, _⟩ | ⟨id, lo, ex, room, fam, ver, pl, st', fr, rfl, _⟩ <;> rcases o11 with ⟨rfl, _⟩ | ⟨id', e', room', fam', ver', pl', st'', fr', rfl, _⟩ <;> rfl
 obtain ⟨H26, s26, x26, o26⟩ := w22.eStore c2.wf 0 (.agg [.int .i64 st, hv', bv']) 3 rfl (by simp) (by omega) (by show (true && (hv'.scal && (bv'.scal && true))) = true; rw [sb.2, sh.2]; rfl) τ22
 replace x26 : Bx H26 H1.size [.int .i64 st, hv', bv'] := x26
 have z26 : H26.size = H22.size := o26.size
 have y26 := y22.only o26 (by omega)
 have s1 : same hvr hvr = true := same_rd ha.1.1
 have s2 : same bvr bvr = true := same_rd ha.2.1
 have hc : chkLoads [H4, H11, H11, H19, H22, H26] (((.load none), [.ptr H.size (0 + 2)], 0, 2) :: (((.load none), [.ptr H.size (0 + 1)], 0, 1) :: (((.load none), [.ptr H.size (0 + 0)], 0, 4) :: []))) = true := by
  simp [chkLoads, chk1, s1, s2, ls y4, ls y11, ls y19, ls y22, ls y26, evalL, lLoad]
  try simp [same, same1, same0]
 refine ⟨.agg [.int .i64 st, hv', bv'], H26, τ22, ⟨H11.size, hv', bv', rfl, by omega, by omega, ?_, ?_⟩, (g011.trans c2 (by omega)).trans (o26.gr (B := H.size) (by omega)) (Nat.le_refl _), fun q => ?_⟩
 ·have q1 := own_P o11 g11.wf
  have q2 := q1.chg g11.wf (gr_chgO c2) (fun i _ h h' => by omega)
  have q3 := q2.chg c2.wf (o26.chg (P := fun i => i = H1.size) rfl) (fun i _ h h' => by omega)
  exact q3.weaken o26.wf (fun i _ h => by omega)
 ·exact c1.chg c2.wf (o26.chg (P := fun i => i = H1.size) rfl) (fun i _ h h' => by omega)
 ·have er : results ⟨T.set .leaf 2 (.ptr H1.size 0), H26⟩ [.cell 2 (some 3)] = some (.agg [.int .i64 st, hv', bv']) := res_c (by simp [T.get_set]) (bx_loads x26 rfl)
  simp only [s_keep_Reply, a1, effK_n, a4, fa_ptr, (ls y4).1, (ls y4).2.1, (ls y11).2.2, k11, p4, eb, r1, pb, s26, someK_n, hc, cond_true, er]
end Go.Am.X

namespace Go.Am.X
theorem ne_hd (x y : Hd) : pEq true (.flat [.str, .str]) [hv x, hv y] = some (.bool (!(x == y))) := by
 obtain ⟨a, b⟩ := x
 obtain ⟨a', b'⟩ := y
 have e : ((a, b) == (a', b')) = ((a == a') && (b == b')) := rfl
 rw [e]
 simp only [pEq, hv, eqV, eqFlat, eqS, eqB_eq]
 cases (a == a') <;> cases (b == b') <;> rfl
theorem l_law20_skip (c : CallK) (N : Nat) (a b : V) (H : Heap) (as' bs' : List Hd) (hla : as'.length ≤ 1000000) (hlb : bs'.length ≤ 1000000) (ha : RdH H a as') (hb : RdH H b bs') (pa : List Hd) (x : Hd) (la : List Hd) (hea : as' = pa ++ x :: la) :
  ∀ (lb pb : List Hd) (M : Nat), bs' = pb ++ lb → lb.length < M → (x :: la).Sublist lb → ∃ pb' lb', bs' = pb' ++ x :: lb' ∧ la.Sublist lb' ∧ ∀ (fr : T V) τ k, fr.get 0 = some a → fr.get 1 = some b → fr.get 5 = some (.int .i64 (pb.length : Int)) → fr.get 6 = some (.int .i64 (pa.length : Int)) →
   loopK (s_law20_among_l4 c N) M ⟨fr, H⟩ τ k = k (.exit 2) ⟨(T.set (T.set (T.set (T.set .leaf 0 a) 1 b) 5 (.int .i64 (pb'.length : Int))) 6 (.int .i64 (pa.length : Int))), H⟩ τ := by
 intro lb
 induction lb with
 | nil => intro pb M _ _ hs; cases hs
 | cons y lb ih =>
  intro pb M he hM hs
  obtain ⟨M, rfl⟩ : ∃ j, M = j + 1 := ⟨M - 1, by omega⟩
  have hlt : pb.length < bs'.length := by rw [he]; simp
  have e1 : decide (pb.length < bs'.length) = true := decide_eq_true hlt
  have e3 : wr .i64 ((pb.length : Int) + Int.ofNat 1) = ((pb ++ [y]).length : Int) := by rw [adI (by omega)]; simp
  have pl := hb.1.pLen
  obtain ⟨id, o, p1, p2⟩ := hd_at (v := b) pb y lb (H := H) (by rw [← he]; exact hb.1)
  obtain ⟨q1, _, _⟩ := p2 H (by rw [← he]; exact hb.1)
  obtain ⟨id', o', p1', p2'⟩ := hd_at (v := a) pa x la (H := H) (by rw [← hea]; exact ha.1)
  obtain ⟨q1', _, _⟩ := p2' H (by rw [← hea]; exact ha.1)
  have ne := ne_hd y x
  cases hxy : (y == x) with
  | true =>
   have : y = x := by simpa using hxy
   subst this
   refine ⟨pb, lb, he, List.cons_sublist_cons.1 hs, fun fr τ k f0 f1 f5 f6 => ?_⟩
   rw [hxy] at ne
   rw [loopK_succ]
   simp only [s_law20_among_l4, getK_mk f0, getK_mk f1, getK_mk f5, getK_mk f6, pl, getK_set, ↓reduceIte, Nat.reduceEqDiff, someK_n, effK_n, retK, gK_do, gK_do', gK_skip, gK_skip', gK_none, pick_mk, cond_true, cond_false, condK_tn, condK_fn, bin_eql, bin_neq, bin_lss, bin_leq, bin_gtr, bin_geq, un_not, Bool.not_true, Bool.not_false, bin_str, lenS_mk, nle_l, nle_r, nle_n, nlt_l, nlt_r, nlt_n, neq_r, neq_n, nne_r, nne_n, ext0, ext1, ext30, ext31, ext32, bin_add, bin_sub, decide_true, decide_false, e1, p1, q1, p1', q1', ne]
   rfl
  | false =>
   have hs' : (x :: la).Sublist lb := by
    cases hs with
    | cons _ h => exact h
    | cons_cons _ h => simp at hxy
   obtain ⟨pb', lb', i1, i2, i3⟩ := ih (pb ++ [y]) M (by rw [he]; simp) (by simp at hM; omega) hs'
   refine ⟨pb', lb', i1, i2, fun fr τ k f0 f1 f5 f6 => ?_⟩
   rw [hxy] at ne
   rw [loopK_succ]
   simp only [s_law20_among_l4, getK_mk f0, getK_mk f1, getK_mk f5, getK_mk f6, pl, getK_set, ↓reduceIte, Nat.reduceEqDiff, someK_n, effK_n, retK, gK_do, gK_do', gK_skip, gK_skip', gK_none, pick_mk, cond_true, cond_false, condK_tn, condK_fn, bin_eql, bin_neq, bin_lss, bin_leq, bin_gtr, bin_geq, un_not, Bool.not_true, Bool.not_false, bin_str, lenS_mk, nle_l, nle_r, nle_n, nlt_l, nlt_r, nlt_n, neq_r, neq_n, nne_r, nne_n, ext0, ext1, ext30, ext31, ext32, bin_add, bin_sub, decide_true, decide_false, e1, p1, q1, p1', q1', ne, e3]
   exact i3 _ τ k (by simp [T.get_set]) (by simp [T.get_set]) (by simp [T.get_set]) (by simp [T.get_set])
def noSc (h : Hd) : Prop := h.1 ≠ scN ∧ h.1 ≠ [83, 101, 116, 45, 67, 111, 111, 107, 105, 101] ∧ h.1 ≠ sc2
theorem l_law20_among (c : CallK) (N : Nat) (hN : 9223372036854775807 < N) (a b : V) (H : Heap) (as' bs' : List Hd) (hla : as'.length ≤ 1000000) (hlb : bs'.length ≤ 1000000) (ha : RdH H a as') (hb : RdH H b bs') (hsc : ∀ h ∈ as', noSc h) :
  ∀ (la pa lb pb : List Hd) (M : Nat), as' = pa ++ la → bs' = pb ++ lb → la.Sublist lb → la.length < M → ∀ (fr : T V) τ k, fr.get 0 = some a → fr.get 1 = some b → fr.get 5 = some (.int .i64 (pb.length : Int)) → fr.get 6 = some (.int .i64 (pa.length : Int)) →
   loopK (s_law20_among_l1 c N) M ⟨fr, H⟩ τ k = k (.exit 0) ⟨.leaf, H⟩ τ := by
 intro la
 have pla := ha.1.pLen
 have plb := hb.1.pLen
 induction la with
 | nil =>
  intro pa lb pb M hea heb hs hM fr τ k f0 f1 f5 f6
  obtain ⟨M, rfl⟩ : ∃ j, M = j + 1 := ⟨M - 1, by omega⟩
  have e1 : decide (pa.length < as'.length) = false := decide_eq_false (by rw [hea]; simp)
  rw [loopK_succ]
  simp only [s_law20_among_l1, getK_mk f0, getK_mk f1, getK_mk f5, getK_mk f6, pla, getK_set, ↓reduceIte, Nat.reduceEqDiff, someK_n, effK_n, retK, gK_do, gK_do', gK_skip, gK_skip', gK_none, pick_mk, cond_true, cond_false, condK_tn, condK_fn, bin_eql, bin_neq, bin_lss, bin_leq, bin_gtr, bin_geq, un_not, Bool.not_true, Bool.not_false, bin_str, lenS_mk, nle_l, nle_r, nle_n, nlt_l, nlt_r, nlt_n, neq_r, neq_n, nne_r, nne_n, ext0, ext1, ext30, ext31, ext32, bin_add, bin_sub, decide_true, decide_false, e1]
  rfl
 | cons x la ih =>
  intro pa lb pb M hea heb hs hM fr τ k f0 f1 f5 f6
  obtain ⟨M, rfl⟩ : ∃ j, M = j + 1 := ⟨M - 1, by omega⟩
  have hlt : pa.length < as'.length := by rw [hea]; simp
  have e1 : decide (pa.length < as'.length) = true := decide_eq_true hlt
  obtain ⟨pb', lb', i1, i2, i3⟩ := l_law20_skip c N a b H as' bs' hla hlb ha hb pa x la hea lb pb N heb (by have := congrArg List.length heb; simp at this; omega) hs
  have hlt2 : pb'.length < bs'.length := by rw [i1]; simp
  have e2 : ((pb'.length : Int) == (bs'.length : Int)) = false := by simp; omega
  obtain ⟨id', o', p1', p2'⟩ := hd_at (v := a) pa x la (H := H) (by rw [← hea]; exact ha.1)
  obtain ⟨_, q2', _⟩ := p2' H (by rw [← hea]; exact ha.1)
  have fa0 : pFieldAddr 0 [.ptr id' o'] = some (.ptr id' o') := rfl
  obtain ⟨n1, n2, n3⟩ := hsc x (by rw [hea]; simp)
  have s1 : strBin .eql x.1 (bs [115, 101, 116, 45, 99, 111, 111, 107, 105, 101]) = some (.bool false) := by
   rw [str_eql]; congr 2; exact beq_eq_false_iff_ne.2 n1
  have s2 : strBin .eql x.1 (bs [83, 101, 116, 45, 67, 111, 111, 107, 105, 101]) = some (.bool false) := by
   rw [str_eql]; congr 2; exact beq_eq_false_iff_ne.2 n2
  have s3 : strBin .eql x.1 (bs [115, 101, 116, 45, 99, 111, 111, 107, 105, 101, 50]) = some (.bool false) := by
   rw [str_eql]; congr 2; exact beq_eq_false_iff_ne.2 n3
  have e3 : wr .i64 ((pb'.length : Int) + Int.ofNat 1) = ((pb' ++ [x]).length : Int) := by rw [adI (by omega)]; simp
  have e4 : wr .i64 ((pa.length : Int) + Int.ofNat 1) = ((pa ++ [x]).length : Int) := by rw [adI (by omega)]; simp
  rw [loopK_succ]
  simp only [s_law20_among_l1, getK_mk f0, getK_mk f1, getK_mk f5, getK_mk f6, pla, getK_set, ↓reduceIte, Nat.reduceEqDiff, someK_n, effK_n, retK, gK_do, gK_do', gK_skip, gK_skip', gK_none, pick_mk, cond_true, cond_false, condK_tn, condK_fn, bin_eql, bin_neq, bin_lss, bin_leq, bin_gtr, bin_geq, un_not, Bool.not_true, Bool.not_false, bin_str, lenS_mk, nle_l, nle_r, nle_n, nlt_l, nlt_r, nlt_n, neq_r, neq_n, nne_r, nne_n, ext0, ext1, ext30, ext31, ext32, bin_add, bin_sub, decide_true, decide_false, e1]
  rw [i3 _ τ _ (by simp [T.get_set]) (by simp [T.get_set]) (by simp [T.get_set]) (by simp [T.get_set])]
  simp only [blockK, Nat.beq_refl, cond_true, seqK, s_law20_among_j3, getK_set, ↓reduceIte, Nat.reduceEqDiff, someK_n, effK_n, retK, gK_do, gK_do', gK_skip, gK_skip', gK_none, pick_mk, cond_true, cond_false, condK_tn, condK_fn, bin_eql, bin_neq, bin_lss, bin_leq, bin_gtr, bin_geq, un_not, Bool.not_true, Bool.not_false, bin_str, lenS_mk, nle_l, nle_r, nle_n, nlt_l, nlt_r, nlt_n, neq_r, neq_n, nne_r, nne_n, ext0, ext1, ext30, ext31, ext32, bin_add, bin_sub, decide_true, decide_false, plb, e2, p1', fa0, q2', s1, s2, s3, e3, s_law20_among_j2, e4]
  exact ih (pa ++ [x]) lb' (pb' ++ [x]) M (by rw [hea]; simp) (by rw [i1]; simp) i2 (by simp at hM; omega) _ τ k (by simp [T.get_set]) (by simp [T.get_set]) (by simp [T.get_set]) (by simp [T.get_set])
theorem s_law20_among_ret (c : CallK) (N : Nat) (hN : 9223372036854775807 < N) (a b : V) (H : Heap) (as' bs' : List Hd) (hla : as'.length ≤ 1000000) (hlb : bs'.length ≤ 1000000) (ha : RdH H a as') (hb : RdH H b bs') (hsc : ∀ h ∈ as', noSc h) (hs : as'.Sublist bs') (τ : Tape) (q : KV) :
  s_law20_among c N a b H τ q = q (.bool true) H τ := by
 simp only [s_law20_among]
 rw [l_law20_among c N hN a b H as' bs' hla hlb ha hb hsc as' [] bs' [] N rfl rfl hs (by omega) _ τ _ (by simp [T.get_set]) (by simp [T.get_set]) (by simp [T.get_set]) (by simp [T.get_set])]
 simp only [blockK, Nat.beq_refl, cond_true, seqK, s_law20_among_j0]
end Go.Am.X

namespace Go.Am.X
theorem ws_tk (la : List Nat) (k : Nat) : (ws .u8 la).take k = ws .u8 (la.take k) := by simp [ws, List.map_take]
theorem fewH_small (hs : List Hd) : Small (fewH 12 200 hs) ∧ (fewH 12 200 hs).length ≤ 12 ∧ (getT expN (fewH 12 200 hs)).length ≤ 900000 := by
 have hl : (fewH 12 200 hs).length ≤ 12 := by unfold fewH; rw [List.length_map, List.length_take]; omega
 have ha : ∀ h ∈ fewH 12 200 hs, h.1.length ≤ 200 ∧ h.2.length ≤ 200 := fun h hh => by
  unfold fewH at hh
  obtain ⟨x, _, rfl⟩ := List.mem_map.1 hh
  unfold fewh
  simp only [List.length_take]
  omega
 refine ⟨⟨by omega, fun h hh => by have := ha h hh; omega⟩, hl, ?_⟩
 have h1 : (sel expN (fewH 12 200 hs)).length ≤ 12 := by
  simp only [sel, List.length_map]
  have := List.length_filter_le (fun h : Bs × Bs => lower h.1 == lower expN) (fewH 12 200 hs)
  omega
 have h2 := joinB_length [44, 32] 200 (sel expN (fewH 12 200 hs)) (fun x hx => by
  simp only [sel, List.mem_map, List.mem_filter] at hx
  obtain ⟨y, ⟨hy, _⟩, rfl⟩ := hx
  exact (ha y hy).2)
 have h3 : (sel expN (fewH 12 200 hs)).length * (200 + ([44, 32] : Bs).length) ≤ 12 * 202 := Nat.mul_le_mul h1 (by simp)
 unfold getT
 omega
abbrev RepOk (c : CallK) : Prop := ∀ (hs : List Hd), hs.length ≤ 9223372036854775807 → ∀ (st : Int) (hvr bvr : V) (H : Heap), WF H → ∀ {n : Nat} {cs : List V}, RepArg H hvr bvr hs n cs → Roomy bvr → ∀ τ, ∃ v H' τ', Rep H H' v st (fewH 12 200 hs) (min n 300) (cs.take 300) ∧ Gr H.size H H' ∧ ∀ q, c f_keep_Reply [.agg [.int .i64 st, hvr, bvr]] H τ q = q v H' τ'
abbrev OwnROk (c : CallK) (f : Nat) : Prop := ∀ (hs : List Hd), Small hs → ∀ (st : Int) (hvr bvr : V) (url : Bs) (H : Heap), WF H → ∀ {n : Nat} {cs : List V}, RepArg H hvr bvr hs n cs → n ≤ 1000000 → ∀ τ, ∃ v H' τ', Resp H H' v 2 st (hs.filter keptB) n cs url ∧ Gr H.size H H' ∧ ∀ q, c f [.agg [.int .i64 st, hvr, bvr], .str url] H τ q = q v H' τ'
abbrev ShrROk (c : CallK) (f : Nat) : Prop := ∀ (hs : List Hd), Small hs → (getT expN hs).length ≤ 900000 → ∀ (cred : Bool) (st : Int) (hvr bvr : V) (url : Bs) (H : Heap), WF H → ∀ {n : Nat} {cs : List V}, RepArg H hvr bvr hs n cs → n ≤ 1000000 → ∀ τ, ∃ v H' τ', Resp H H' v 3 st ((hs.filter keptB).filter (shrB hs cred)) n cs url ∧ Gr H.size H H' ∧ ∀ q, c f [.agg [.int .i64 st, hvr, bvr], .str url, .bool cred] H τ q = q v H' τ'
end Go.Am.X

namespace Go.Am.X
section
variable {N : Nat} (hN : 9223372036854775807 < N) {c c0 c1 c2 : CallK}
theorem fs_rep (hF : IsP c0 f_keep_FewHeaders (RH FewHPre FewHG)) (hB : ∀ v k H τ q, c0 f_keep_FewBytes [v, k] H τ q = s_keep_FewBytes c1 N v k H τ q) (hR : ∀ v H τ q, c f_keep_Reply [v] H τ q = s_keep_Reply c0 N v H τ q) : RepOk c := fun hs hl st hvr bvr H hw {n cs} ha hro τ => by
 obtain ⟨v, H', τ', h1, h2, h3⟩ := s_keep_Reply_ret c0 N (fun hs hl v H hw hr τ => by
  obtain ⟨v', H', τ', k1, k2, k3⟩ := k_keep_FewHeaders hF hl 12 200 (by omega) (by omega) hw hr τ
  exact ⟨v', H', τ', k2, k1, k3⟩) (fun v n cs H hro hr => by
  obtain ⟨v', k1, k2, k3, k4⟩ := s_keep_FewBytes_ret c1 N v n 300 cs (by omega) (by omega) H hro hr
  exact ⟨v', k1, k2, k3, fun τ q => (hB _ _ _ _ _).trans (k4 τ q)⟩) hs hl st hvr bvr H hw ha hro τ
 exact ⟨v, H', τ', h1, h2, fun q => (hR _ _ _ _).trans (h3 q)⟩
theorem fs_clone (hC : ∀ v H τ q, c f_slices_Clone_byte [v] H τ q = s_slices_Clone_byte c0 N v H τ q) : CloneOk c := fun {v n cs H} hw hr hs hn τ => by
 obtain ⟨v', H', τ', h1, h2, h3⟩ := s_slices_Clone_byte_ret c0 N hw hr hs hn τ
 exact ⟨v', H', τ', h1, h2, fun q => (hC _ _ _ _).trans (h3 q)⟩
include hN in
theorem fs_own (hR : ∀ v u H τ q, c f_filter_Own [v, u] H τ q = s_filter_Own c0 N v u H τ q) (hSh : ∀ k r u fv H τ q, c0 f_filter_shown [k, r, u, fv] H τ q = s_filter_shown c1 N k r u fv H τ q) (hL : NLowOk c1) (hC : CloneOk c1) (hO : ∀ v H τ q, c1 f_filter_Own_1 [v] H τ q = q (.bool true) H τ) : OwnROk c f_filter_Own := fun hs hS st hvr bvr url H hw {n cs} ha hn τ => by
 obtain ⟨v, H', τ', h1, h2, h3⟩ := s_filter_Own_ret c0 c1 hN hSh hL hC hO hs hS st hvr bvr url H hw ha (by omega) τ
 rw [own_eqs] at h1
 exact ⟨v, H', τ', h1, h2, fun q => (hR _ _ _ _ _).trans (h3 q)⟩
include hN in
theorem fs_shr (hR : ∀ v u b H τ q, c f_filter_Share [v, u, b] H τ q = s_filter_Share c0 N v u b H τ q) (hSh : ∀ k r u fv H τ q, c0 f_filter_shown [k, r, u, fv] H τ q = s_filter_shown c1 N k r u fv H τ q) (hE : IsP c0 f_cors_Exposed (RH ExpPre ExpG)) (hL : NLowOk c1) (hC : CloneOk c1) (hO : ∀ a b d H τ q, c1 f_filter_Share_1 [a, b, d] H τ q = s_filter_Share_1 c2 N a b d H τ q) (hCon : ConSOk c2) : ShrROk c f_filter_Share := fun hs hS hg cred st hvr bvr url H hw {n cs} ha hn τ => by
 obtain ⟨v, H', τ', h1, h2, h3⟩ := s_filter_Share_ret c0 c1 hN hSh hE hL hC (fun x {p r al nv ns H} hp hr hn hl τ q => (hO _ _ _ _ _ _).trans (s_filter_Share_1_ret c2 N hCon x hp hr hn hl τ q)) hs hS hg cred st hvr bvr url H hw ha (by omega) τ
 rw [shr_eqs] at h1
 exact ⟨v, H', τ', h1, h2, fun q => (hR _ _ _ _ _ _).trans (h3 q)⟩
include hN in
include hN in
include hN in
include hN in
end
end Go.Am.X

namespace Go.Am.X
def toB (l : List Nat) : Bs := l.map UInt8.ofNat
theorem bytesOf_ws : ∀ l : List Nat, bytesOf (ws .u8 l) = some (toB l) := by
 intro l; induction l with
 | nil => rfl
 | cons x l ih =>
  show (match bytesOf (ws .u8 l) with | some r => some (UInt8.ofNat (x : Int).toNat :: r) | none => none) = _
  rw [ih]; rfl
theorem str_rd {H : Heap} {v : V} {n : Nat} {l : List Nat} (h : Rd H 1 v n (ws .u8 l)) (hs : Src H v) : lBytesStr [v] H = some (.str (toB l)) := by
 obtain ⟨h1, h2⟩ := h.loads hs
 rcases h with ⟨rfl | ⟨id, off, lo, ex, rfl⟩, rfl, h0⟩ | ⟨id, off, lo, ex, all, rfl, _⟩
 ·cases l with
  | nil => rfl
  | cons a l => simp [ws] at h0
 ·simp only [srcCells, Nat.beq_refl, cond_true] at h2
  rw [Nat.zero_mul] at h2
  simp only [lBytesStr, Nat.beq_refl, cond_true, h2, bytesOf_ws]
 ·simp only [srcCells, Nat.beq_refl, cond_true] at h2
  rw [Nat.mul_one] at h2
  simp only [lBytesStr, Nat.beq_refl, cond_true, h2, bytesOf_ws]
end Go.Am.X

namespace Go.Am.X
theorem filter_mono {α : Type} (p q : α → Bool) (l : List α) (h : ∀ x, p x = true → q x = true) : (l.filter p).Sublist (l.filter q) := by
 have e : l.filter p = (l.filter q).filter p := by
  rw [List.filter_filter]
  refine List.filter_congr fun x _ => ?_
  cases hp : p x with
  | false => rfl
  | true => rw [h x hp]; rfl
 rw [e]
 exact List.filter_sublist
theorem shr_mono (hs : List Hd) (h : Hd) (hp : shrB hs true h = true) : shrB hs false h = true := by
 have h0 : expAll hs true = false := rfl
 unfold shrB sharB expNs at hp ⊢
 rw [h0] at hp
 cases he : expAll hs false with
 | true => rfl
 | false => exact hp
theorem kept_noSc (hs : List Hd) : ∀ h ∈ hs.filter keptB, noSc h := fun h hh => by
 have h1 := (List.mem_filter.1 hh).2
 unfold keptB cookB at h1
 simp only [Bool.not_or, Bool.and_eq_true, Bool.not_eq_true', beq_eq_false_iff_ne, ne_eq] at h1
 obtain ⟨h2, h3⟩ := h1
 refine ⟨fun e => h2 ?_, fun e => h2 ?_, fun e => h3 ?_⟩
 ·rw [e]; decide
 ·rw [e]; decide
 ·rw [e]; decide
abbrev AmgOk (c : CallK) : Prop := ∀ {a b : V} {H : Heap} {as' bs' : List Hd}, as'.length ≤ 1000000 → bs'.length ≤ 1000000 → RdH H a as' → RdH H b bs' → (∀ h ∈ as', noSc h) → as'.Sublist bs' → ∀ τ q, c f_law20_among [a, b] H τ q = q (.bool true) H τ
theorem s_law20_FilterLess_ret (c : CallK) (N : Nat) (hRp : RepOk c) (hO : OwnROk c f_filter_Own) (hS : ShrROk c f_filter_Share) (hA : AmgOk c) (hKn : ∀ H τ q, c f_law20_known [] H τ q = q (.bool true) H τ)
  (hs : List Hd) (hl : hs.length ≤ 9223372036854775807) (la : List Nat) (st : Int) (hvr bvr : V) (url : Bs) (H : Heap) (hw : WF H) (ha : RepArg H hvr bvr hs la.length (ws .u8 la)) (hro : Roomy bvr) (τ : Tape) :
  ∃ H' τ', Gr H.size H H' ∧ ∀ q, s_law20_FilterLess c N (.agg [.int .i64 st, hvr, bvr]) (.str url) H τ q = q (.bool true) H' τ' := by
 obtain ⟨f1, f2, f3⟩ := fewH_small hs
 obtain ⟨H1, a1, x1, g1, z1⟩ := newbox hw (.agg [.int .i64 st, hvr, bvr]) τ
 replace x1 : Bx H1 H.size [.int .i64 st, hvr, bvr] := x1
 have e1 : lLoadN 3 [.ptr H.size 0] H1 = some (.agg [.int .i64 st, hvr, bvr]) := bx_loads x1 rfl
 obtain ⟨v4, H5, τ5, r1, g5, k5⟩ := hRp hs hl st hvr bvr H1 g1.wf (ha.gr g1 hw) hro τ
 obtain ⟨m, hv0, bv0, rfl, m1, m2, m3, m4⟩ := r1.ex
 have z5 := g5.size
 have hlb : min la.length 300 = (la.take 300).length := by rw [List.length_take]; omega
 rw [ws_tk, hlb] at m4
 have hll : (la.take 300).length ≤ 1000000 := by rw [List.length_take]; omega
 generalize hla : la.take 300 = lb at m4 hll
 generalize fewH 12 200 hs = hd at f1 f2 f3 m3
 have sh := rd_sc m3.rd
 have sb := m4.scal
 obtain ⟨H8, s8, x8, o8⟩ := (x1.gr g5 (by omega)).eStore g5.wf 0 (.agg [.int .i64 st, hv0, bv0]) 3 rfl (by simp) (by omega) (by show (true && (hv0.scal && (bv0.scal && true))) = true; rw [sb.2, sh.2]; rfl) τ5
 replace x8 : Bx H8 H.size [.int .i64 st, hv0, bv0] := x8
 have z8 : H8.size = H5.size := o8.size
 have g8 : Gr H.size H H8 := (g1.trans g5 (by omega)).trans (o8.gr (B := H.size) (by omega)) (Nat.le_refl _)
 have A8 : RepArg H8 hv0 bv0 hd lb.length (ws .u8 lb) := by
  have q1 := m3.chg g5.wf (o8.chg (P := fun i => i = H.size) rfl) (fun i _ h h' => by omega)
  have q2 := m4.chg g5.wf (o8.chg (P := fun i => i = H.size) rfl) (fun i _ h h' => by omega)
  exact ⟨ownP_rdH q1, q2.rd, q2.src⟩
 have e8 : lLoadN 3 [.ptr H.size 0] H8 = some (.agg [.int .i64 st, hv0, bv0]) := bx_loads x8 rfl
 obtain ⟨v11, H12, τ12, r12, g12, k12⟩ := hO hd f1 st hv0 bv0 url H8 o8.wf A8 hll τ5
 obtain ⟨c1, c2, _⟩ := r12.cells
 obtain ⟨mo, ho, bo, rfl, _, _, n3, n4⟩ := r12.ex
 have z12 := g12.size
 obtain ⟨H15, H18, a15, s18, x18, g18, z18, _⟩ := newvar g12.wf [(.int .i64 (.ofNat 0)), (.int .i64 (.ofNat 0)), .nils, .nils, (.str [])] (.agg [.int .i64 2, .int .i64 st, ho, bo, .str url]) 5 rfl rfl (by omega) c2 τ12
 replace x18 : Bx H18 H12.size [.int .i64 2, .int .i64 st, ho, bo, .str url] := x18
 have g818 : Gr H8.size H8 H18 := g12.trans g18 (by omega)
 have e18 : lLoadN 3 [.ptr H.size 0] H18 = some (.agg [.int .i64 st, hv0, bv0]) := bx_loads (x8.gr g818 (by omega)) rfl
 obtain ⟨v21, H22, τ22, r22, g22, k22⟩ := hS hd f1 f3 true st hv0 bv0 url H18 g18.wf (A8.gr g818 o8.wf) hll τ12
 obtain ⟨c3, c4, _⟩ := r22.cells
 obtain ⟨mw, hw2, bw, rfl, _, _, w3, w4⟩ := r22.ex
 have z22 := g22.size
 obtain ⟨H25, H28, a25, s28, x28, g28, z28, _⟩ := newvar g22.wf [(.int .i64 (.ofNat 0)), (.int .i64 (.ofNat 0)), .nils, .nils, (.str [])] (.agg [.int .i64 3, .int .i64 st, hw2, bw, .str url]) 5 rfl rfl (by omega) c4 τ22
 replace x28 : Bx H28 H22.size [.int .i64 3, .int .i64 st, hw2, bw, .str url] := x28
 have g1828 : Gr H18.size H18 H28 := g22.trans g28 (by omega)
 have g828 := g818.trans g1828 (by omega)
 have e28 : lLoadN 3 [.ptr H.size 0] H28 = some (.agg [.int .i64 st, hv0, bv0]) := bx_loads (x8.gr g828 (by omega)) rfl
 obtain ⟨v31, H32, τ32, r32, g32, k32⟩ := hS hd f1 f3 false st hv0 bv0 url H28 g28.wf (A8.gr g828 o8.wf) hll τ22
 obtain ⟨c5, c6, _⟩ := r32.cells
 obtain ⟨mn, hn, bn, rfl, _, _, y3, y4⟩ := r32.ex
 have z32 := g32.size
 obtain ⟨H35, H38, a35, s38, x38, g38, z38, _⟩ := newvar g32.wf [(.int .i64 (.ofNat 0)), (.int .i64 (.ofNat 0)), .nils, .nils, (.str [])] (.agg [.int .i64 3, .int .i64 st, hn, bn, .str url]) 5 rfl rfl (by omega) c6 τ32
 replace x38 : Bx H38 H32.size [.int .i64 3, .int .i64 st, hn, bn, .str url] := x38
 have g2838 : Gr H28.size H28 H38 := g32.trans g38 (by omega)
 have g1838 := g1828.trans g2838 (by omega)
 have g838 := g818.trans g1838 (by omega)
 have A38 := A8.gr g838 o8.wf
 have y8 := x8.gr g838 (by omega)
 have y18 := x18.gr g1838 (by omega)
 have y28 := x28.gr g2838 (by omega)
 have t1 : RdH H38 ho (hd.filter keptB) := (n3.rdH.gr g18 g12.wf (Nat.le_refl _)).gr g1838 g18.wf (Nat.le_refl _)
 have t2 : RdH H38 hw2 ((hd.filter keptB).filter (shrB hd true)) := (w3.rdH.gr g28 g22.wf (Nat.le_refl _)).gr g2838 g28.wf (Nat.le_refl _)
 have t3 : RdH H38 hn ((hd.filter keptB).filter (shrB hd false)) := y3.rdH.gr g38 g32.wf (Nat.le_refl _)
 have b1 : lBytesStr [bo] H38 = some (.str (toB lb)) := str_rd ((n4.rd.gr g18 g12.wf (Nat.le_refl _)).gr g1838 g18.wf (Nat.le_refl _)) ((n4.src.gr g18 g12.wf (Nat.le_refl _)).gr g1838 g18.wf (Nat.le_refl _))
 have b2 : lBytesStr [bw] H38 = some (.str (toB lb)) := str_rd ((w4.rd.gr g28 g22.wf (Nat.le_refl _)).gr g2838 g28.wf (Nat.le_refl _)) ((w4.src.gr g28 g22.wf (Nat.le_refl _)).gr g2838 g28.wf (Nat.le_refl _))
 have l0 : (hd.filter keptB).length ≤ 1000000 := by have := List.length_filter_le keptB hd; omega
 have l1 : ((hd.filter keptB).filter (shrB hd true)).length ≤ 1000000 := by have := List.length_filter_le (shrB hd true) (hd.filter keptB); omega
 have l2 : ((hd.filter keptB).filter (shrB hd false)).length ≤ 1000000 := by have := List.length_filter_le (shrB hd false) (hd.filter keptB); omega
 have ns := kept_noSc hd
 have m1 := fun τ q => hA l1 l2 t2 t3 (fun h hh => ns h (List.mem_filter.1 hh).1) (filter_mono _ _ _ (shr_mono hd)) τ q
 have m2 := fun τ q => hA l2 l0 t3 t1 (fun h hh => ns h (List.mem_filter.1 hh).1) List.filter_sublist τ q
 have m3 := fun τ q => hA l0 (by omega) t1 A38.1 ns List.filter_sublist τ q
 have fo : ∀ i k, pFieldAddr k [.ptr i 0] = some (.ptr i (0 + k)) := fun _ _ => rfl
 have q1 : lLoad1 [.ptr H22.size (0 + 2)] H38 = some hw2 := bx_load y28 rfl
 have q2 : lLoad1 [.ptr H32.size (0 + 2)] H38 = some hn := bx_load x38 rfl
 have q3 : lLoad1 [.ptr H12.size (0 + 2)] H38 = some ho := bx_load y18 rfl
 have q4 : lLoad1 [.ptr H.size (0 + 1)] H38 = some hv0 := bx_load y8 rfl
 have q5 : lLoad1 [.ptr H12.size (0 + 3)] H38 = some bo := bx_load y18 rfl
 have q6 : lLoad1 [.ptr H22.size (0 + 3)] H38 = some bw := bx_load y28 rfl
 have q7 : lLoad1 [.ptr H12.size (0 + 1)] H38 = some (.int .i64 st) := bx_load y18 rfl
 have q8 : lLoad1 [.ptr H22.size (0 + 1)] H38 = some (.int .i64 st) := bx_load y28 rfl
 have e9 : strBin .eql (toB lb) (toB lb) = some (.bool true) := by rw [str_eql]; simp
 have e10 : (st == st) = true := beq_self_eq_true st
 refine ⟨H38, τ32, g8.trans g838 (by omega), fun q => ?_⟩
 simp only [s_law20_FilterLess, a1, effK_n, e1, k5, s8, e8, k12, a15, s18, e18, k22, a25, s28, e28, k32, a35, s38, fo, q1, q2, q3, q4, q5, q6, q7, q8, m1, m2, m3, b1, b2, bin_str, e9, bin_eql, e10, someK_n, gK_do, retK, getK_set, ↓reduceIte, Nat.reduceEqDiff, someK_n, effK_n, retK, gK_do, gK_do', gK_skip, gK_skip', gK_none, pick_mk, cond_true, cond_false, condK_tn, condK_fn, bin_eql, bin_neq, bin_lss, bin_leq, bin_gtr, bin_geq, un_not, Bool.not_true, Bool.not_false, bin_str, lenS_mk, nle_l, nle_r, nle_n, nlt_l, nlt_r, nlt_n, neq_r, neq_n, nne_r, nne_n, ext0, ext1, ext30, ext31, ext32, bin_add, bin_sub, decide_true, decide_false, hKn]
noncomputable abbrev rw_FLess : List Row := [Row.fn f_law20_FilterLess fn_law20_FilterLess e_law20_FilterLess, Row.prim f_law20_known closedP, Row.fn f_law20_among fn_law20_among e_law20_among, Row.fn f_keep_Reply fn_keep_Reply e_keep_Reply, Row.prim f_keep_FewHeaders (outP (RH FewHPre FewHG)), Row.fn f_keep_FewBytes fn_keep_FewBytes e_keep_FewBytes,
 Row.fn f_filter_Own fn_filter_Own e_filter_Own, Row.fn f_filter_Share fn_filter_Share e_filter_Share, Row.fn f_filter_shown fn_filter_shown e_filter_shown, Row.fn f_filter_Own_1 fn_filter_Own_1 e_filter_Own_1, Row.fn f_filter_Share_1 fn_filter_Share_1 e_filter_Share_1,
 Row.fn f_slices_Clone_byte fn_slices_Clone_byte e_slices_Clone_byte, Row.fn f_slices_Contains_string fn_slices_Contains_string e_slices_Contains_string, Row.fn f_slices_Index_string fn_slices_Index_string e_slices_Index_string, Row.prim f_cors_Exposed (outP (RH ExpPre ExpG)), Row.prim f_infra_Lower (outP LowR)]
def FilterLessR (vs : List V) (H : Heap) (o : Out) : Prop := (∃ (hs : List Hd) (la : List Nat) (st : Int) (hvr bvr : V) (url : Bs), vs = [.agg [.int .i64 st, hvr, bvr], .str url] ∧ RepArg H hvr bvr hs la.length (ws .u8 la) ∧ hs.length ≤ 9223372036854775807 ∧ Roomy bvr) ∧ o = .val (.bool true)
theorem closedP_callL {c : CallK} {f : Nat} (h : ∀ vs H τ q, c f vs H τ q = effK (closedP vs H τ) q) : ∀ H τ q, c f [] H τ q = q (.bool true) H τ := fun H τ q => by rw [h]; rfl
theorem filterLess_ok : ∀ base w0, PrimOk PG base w0 f_law20_FilterLess (outP FilterLessR) := by
 obtain ⟨N, hN⟩ := someN
 refine primOk_out mixed_ok (l := rw_FLess) (.fn ok_law20_FilterLess e_law20_FilterLess_ok (.prim closed_law20_known_ok (.fn ok_law20_among e_law20_among_ok (.fn ok_keep_Reply e_keep_Reply_ok (.prim p_keep_FewHeaders (.fn ok_keep_FewBytes e_keep_FewBytes_ok (.fn ok_filter_Own e_filter_Own_ok (.fn ok_filter_Share e_filter_Share_ok (.fn ok_filter_shown e_filter_shown_ok (.fn ok_filter_Own_1 e_filter_Own_1_ok (.fn ok_filter_Share_1 e_filter_Share_1_ok (.fn ok_slices_Clone_byte e_slices_Clone_byte_ok (.fn ok_slices_Contains_string e_slices_Contains_string_ok (.fn ok_slices_Index_string e_slices_Index_string_ok (.prim p_cors_Exposed (.prim p_infra_Lower (.nil _))))))))))))))))) N 8 _ ?_
 rintro vs H o hw hvs ⟨⟨hs, la, st, hvr, bvr, url, rfl, h1, h2, h3⟩, rfl⟩ τ
 have con : ConSOk (CR rw_FLess N 4) := fun x hl _ hr τ q => s_slices_Contains_string_ret (CR rw_FLess N 3) N _ _ x _ τ (s_slices_Index_string_ret (CR rw_FLess N 2) hN _ _ x hl _ hr τ) q
 have nl : NLowOk (CR rw_FLess N 5) := k_infra_Lower fun _ _ _ _ => rfl
 have cl : CloneOk (CR rw_FLess N 5) := fs_clone (N := N) (c0 := CR rw_FLess N 4) fun _ _ _ _ => rfl
 obtain ⟨H', τ', g, k⟩ := s_law20_FilterLess_ret (CR rw_FLess N 7) N (fs_rep (N := N) (c0 := CR rw_FLess N 6) (c1 := CR rw_FLess N 5) (fun _ _ _ _ => rfl) (fun _ _ _ _ _ => rfl) (fun _ _ _ _ => rfl))
  (fs_own hN (c0 := CR rw_FLess N 6) (c1 := CR rw_FLess N 5) (fun _ _ _ _ _ => rfl) (fun _ _ _ _ _ _ _ => rfl) nl cl (fun _ _ _ _ => rfl))
  (fs_shr hN (c0 := CR rw_FLess N 6) (c1 := CR rw_FLess N 5) (c2 := CR rw_FLess N 4) (fun _ _ _ _ _ _ => rfl) (fun _ _ _ _ _ _ _ => rfl) (fun _ _ _ _ => rfl) nl cl (fun _ _ _ _ _ _ => rfl) con)
  (fun {a b H as' bs'} ha hb ra rb hsc hsub τ q => s_law20_among_ret (CR rw_FLess N 6) N hN a b H as' bs' ha hb ra rb hsc hsub τ q) (closedP_callL fun _ _ _ _ => rfl) hs h2 la st hvr bvr url H hw h1 h3 τ
 exact ⟨_, H', τ', k retK, g, rfl, trivial⟩
theorem filterLess_fun : Fun1 FilterLessR := fun vs H o o' k k' => k.2.trans k'.2.symm
theorem filterLess_in {H : Heap} {hs : List Hd} {la : List Nat} {st : Int} {hvr bvr : V} (h1 : RepArg H hvr bvr hs la.length (ws .u8 la)) (h2 : hs.length ≤ 9223372036854775807) (h3 : Roomy bvr) (url : Bs) (τ : Tape) : outP FilterLessR [.agg [.int .i64 st, hvr, bvr], .str url] H τ = some (.bool true, H, τ) :=
 outP_mk filterLess_fun ⟨⟨hs, la, st, hvr, bvr, url, rfl, h1, h2, h3⟩, rfl⟩ τ
end Go.Am.X

