/- The abstract machine, printed functions of the program, and what they are shown to be. -/
import Derived.Test.YtlpedafppdffoaaGreatDoorFSHL6
import Derived.Test.YtlpedafppdffoaaGreatDoorFSHL1
set_option linter.unusedSimpArgs false
set_option linter.unusedVariables false
set_option linter.unusedSectionVars false
set_option maxRecDepth 100000
namespace Go.Am.X
theorem own_eqs (hs : List Hd) : hs.filter (shwB fun _ => true) = hs.filter keptB := by
 refine List.filter_congr fun h _ => ?_
 unfold shwB keptB; rw [Bool.and_true]
theorem shr_eqs (hs : List Hd) (cred : Bool) : hs.filter (shwB (shF hs cred)) = (hs.filter keptB).filter (shrB hs cred) := by
 rw [List.filter_filter]
 refine List.filter_congr fun h _ => ?_
 have hc : (expNs hs cred ++ shN).contains (lower h.1) = ((expNs hs cred).contains (lower h.1) || shN.contains (lower h.1)) := by
  rw [Bool.eq_iff_iff, Bool.or_eq_true, List.contains_iff_mem, List.contains_iff_mem, List.contains_iff_mem, List.mem_append]
 unfold shwB shF toldB2 shrB sharB keptB
 rw [hc]
 generalize expAll hs cred = a
 generalize (expNs hs cred).contains (lower h.1) = b
 generalize shN.contains (lower h.1) = d
 generalize cookB h.1 = e
 cases a <;> cases b <;> cases d <;> cases e <;> rfl
theorem s_keep_SameReply_true (c : CallK) (N : Nat) {st : Int} {h1 h2 b1 b2 : V} {H : Heap} (hw : WF H) (hh : ∀ H', Gr H.size H H' → ∀ τ q, c f_book_Same_Header [h1, h2] H' τ q = q (.bool true) H' τ) (hb : ∀ H', Gr H.size H H' → ∀ τ q, c f_book_Same_byte [b1, b2] H' τ q = q (.bool true) H' τ) (τ : Tape) :
  ∃ H', Gr H.size H H' ∧ ∀ q, s_keep_SameReply c N (.agg [.int .i64 st, h1, b1]) (.agg [.int .i64 st, h2, b2]) H τ q = q (.bool true) H' τ := by
 obtain ⟨H1, a1, x1, g1, z1⟩ := newbox hw (.agg [.int .i64 st, h1, b1]) τ
 replace x1 : Bx H1 H.size [.int .i64 st, h1, b1] := x1
 obtain ⟨H2, a2, x2, g2, z2⟩ := newbox g1.wf (.agg [.int .i64 st, h2, b2]) τ
 replace x2 : Bx H2 H1.size [.int .i64 st, h2, b2] := x2
 have y2 := x1.gr g2 (by omega)
 have g02 : Gr H.size H H2 := g1.trans g2 (by omega)
 have k1 := hh H2 g02
 have k2 := hb H2 g02
 have la : ∀ {k : Nat} {x : V}, [.int .i64 st, h1, b1][k]? = some x → lLoad1 [.ptr H.size (0 + k)] H2 = some x := fun h => by rw [Nat.zero_add]; exact bx_load y2 h
 have lb : ∀ {k : Nat} {x : V}, [.int .i64 st, h2, b2][k]? = some x → lLoad1 [.ptr H1.size (0 + k)] H2 = some x := fun h => by rw [Nat.zero_add]; exact bx_load x2 h
 have a0' := la (k := 0) rfl
 have a1' := la (k := 1) rfl
 have a2' := la (k := 2) rfl
 have b0' := lb (k := 0) rfl
 have b1' := lb (k := 1) rfl
 have b2' := lb (k := 2) rfl
 have e0 : (st == st) = true := beq_self_eq_true st
 refine ⟨H2, g02, fun q => ?_⟩
 simp only [s_keep_SameReply, fn_keep_SameReply, funK, List.length_cons, List.length_nil, Nat.beq_eq_true_eq, frameOf, execK, regK, insK, argsK, evOs, evO, opK, pK, evalE, evalL, lLoad, evalP, put, T.get_set, ↓reduceIte, Nat.reduceEqDiff, a1, a2, effK_n, keepK, getK_set, seqK, fa_ptr, a0', b0', a1', b1', a2', b2', bin_eql, e0, gK_do, retK, k1, k2, endK, results, resAll, resOf, someK_n, Nat.reduceAdd, Nat.beq_refl, cond_true, getK_set, ↓reduceIte, Nat.reduceEqDiff, someK_n, effK_n, retK, gK_do, gK_do', gK_skip, gK_skip', gK_none, pick_mk, cond_true, cond_false, condK_tn, condK_fn, bin_eql, bin_neq, bin_lss, bin_leq, bin_gtr, bin_geq, un_not, Bool.not_true, Bool.not_false, bin_str, lenS_mk, nle_l, nle_r, nle_n, nlt_l, nlt_r, nlt_n, neq_r, neq_n, nne_r, nne_n, ext0, ext1, ext30, ext31, ext32, bin_add, bin_sub, decide_true, decide_false]
theorem s_keep_SameResponse_true (c : CallK) (N : Nat) {kd st : Int} {h1 h2 b1 b2 : V} {u : Bs} {H : Heap} (hw : WF H) (hh : ∀ H', Gr H.size H H' → ∀ τ q, c f_book_Same_Header [h1, h2] H' τ q = q (.bool true) H' τ) (hb : ∀ H', Gr H.size H H' → ∀ τ q, c f_book_Same_byte [b1, b2] H' τ q = q (.bool true) H' τ) (τ : Tape) :
  ∃ H', Gr H.size H H' ∧ ∀ q, s_keep_SameResponse c N (.agg [.int .i64 kd, .int .i64 st, h1, b1, .str u]) (.agg [.int .i64 kd, .int .i64 st, h2, b2, .str u]) H τ q = q (.bool true) H' τ := by
 obtain ⟨H1, a1, x1, g1, z1⟩ := newbox hw (.agg [.int .i64 kd, .int .i64 st, h1, b1, .str u]) τ
 replace x1 : Bx H1 H.size [.int .i64 kd, .int .i64 st, h1, b1, .str u] := x1
 obtain ⟨H2, a2, x2, g2, z2⟩ := newbox g1.wf (.agg [.int .i64 kd, .int .i64 st, h2, b2, .str u]) τ
 replace x2 : Bx H2 H1.size [.int .i64 kd, .int .i64 st, h2, b2, .str u] := x2
 have y2 := x1.gr g2 (by omega)
 have g02 : Gr H.size H H2 := g1.trans g2 (by omega)
 have k1 := hh H2 g02
 have k2 := hb H2 g02
 have la : ∀ {k : Nat} {x : V}, [.int .i64 kd, .int .i64 st, h1, b1, .str u][k]? = some x → lLoad1 [.ptr H.size (0 + k)] H2 = some x := fun h => by rw [Nat.zero_add]; exact bx_load y2 h
 have lb : ∀ {k : Nat} {x : V}, [.int .i64 kd, .int .i64 st, h2, b2, .str u][k]? = some x → lLoad1 [.ptr H1.size (0 + k)] H2 = some x := fun h => by rw [Nat.zero_add]; exact bx_load x2 h
 have a0' := la (k := 0) rfl
 have a1' := la (k := 1) rfl
 have a2' := la (k := 2) rfl
 have a3' := la (k := 3) rfl
 have a4' := la (k := 4) rfl
 have b0' := lb (k := 0) rfl
 have b1' := lb (k := 1) rfl
 have b2' := lb (k := 2) rfl
 have b3' := lb (k := 3) rfl
 have b4' := lb (k := 4) rfl
 have e0 : (kd == kd) = true := beq_self_eq_true kd
 have e1 : (st == st) = true := beq_self_eq_true st
 have e2 : strBin .eql u u = some (.bool true) := by rw [str_eql]; simp
 refine ⟨H2, g02, fun q => ?_⟩
 simp only [s_keep_SameResponse, fn_keep_SameResponse, funK, List.length_cons, List.length_nil, Nat.beq_eq_true_eq, frameOf, execK, regK, insK, argsK, evOs, evO, opK, pK, evalE, evalL, lLoad, evalP, put, T.get_set, ↓reduceIte, Nat.reduceEqDiff, a1, a2, effK_n, keepK, getK_set, seqK, fa_ptr, a0', b0', a1', b1', a2', b2', a3', b3', a4', b4', bin_eql, bin_str, e0, e1, e2, gK_do, retK, k1, k2, endK, results, resAll, resOf, someK_n, Nat.reduceAdd, Nat.beq_refl, cond_true, getK_set, ↓reduceIte, Nat.reduceEqDiff, someK_n, effK_n, retK, gK_do, gK_do', gK_skip, gK_skip', gK_none, pick_mk, cond_true, cond_false, condK_tn, condK_fn, bin_eql, bin_neq, bin_lss, bin_leq, bin_gtr, bin_geq, un_not, Bool.not_true, Bool.not_false, bin_str, lenS_mk, nle_l, nle_r, nle_n, nlt_l, nlt_r, nlt_n, neq_r, neq_n, nne_r, nne_n, ext0, ext1, ext30, ext31, ext32, bin_add, bin_sub, decide_true, decide_false]
end Go.Am.X

namespace Go.Am.X
theorem apd_only {H H' : Heap} {i B z : Nat} {v : V} {n : Nat} {cs : List V} (h : Apd H B z v n cs) (hg : Only i H H') (hi : i < B) : Apd H' B z v n cs := by
 rcases h with h | ⟨h1, h2, id, h3, room, fam, ver, pl, st, fr, k1, k2, k3, k4, k5, k6⟩
 ·exact .inl (h.only hg hi)
 ·exact .inr ⟨h1, h2, id, h3, room, fam, ver, pl, st, fr, by rw [hg.blk id (by omega)]; exact k1, by rw [hg.fams fam (by omega)]; exact k2, k3, k4, k5, k6⟩
theorem clone2 {H : Heap} {v : V} {hs : List Hd} (hw : WF H) (hr : RdH H v hs) (hn : hs.length ≤ 1000000) (τ : Tape) :
  ∃ v' H' τ', eAppend 2 32 [.sl H.size 0 0 0 none 2, v] (H.new [] (0 * 2) false) τ = some (v', H', τ') ∧ Apd H' H.size 2 v' hs.length (hcells hs) ∧ Gr H.size H H' := by
 have g1 := Gr.new hw [] (0 * 2) false
 have o1 : Apd (H.new [] (0 * 2) false) H.size 2 (.sl H.size 0 0 0 none 2) 0 [] := .inr ⟨rfl, rfl, _, rfl, Blk.new H [] (0 * 2) false (Nat.le_refl _)⟩
 obtain ⟨v', H', τ', r1, r2, r3, _⟩ := o1.append (bytes := 32) g1.wf g1.size (hr.1.gr g1 hw (Nat.le_refl _)) (hr.2.gr g1 hw (Nat.le_refl _)) (hcells_scal hs) (by omega) (by omega) τ
 exact ⟨v', H', τ', r1, by simpa using r2, g1.trans r3 (Nat.le_refl _)⟩
structure Rep (H0 H' : Heap) (v : V) (st : Int) (hs : List Hd) (n : Nat) (cs : List V) : Prop where
 ex : ∃ (m : Nat) (hvv bv : V), v = .agg [.int .i64 st, hvv, bv] ∧ H0.size ≤ m ∧ m ≤ H'.size ∧ OwnP (fun i => H0.size ≤ i ∧ i < m) H' 2 hvv hs.length (hcells hs) ∧ BodP (fun i => m ≤ i) H' bv n cs
theorem s_keep_Reply_ret (c : CallK) (N : Nat)
  (hFH : ∀ (hs : List Hd), hs.length ≤ 9223372036854775807 → ∀ (v : V) (H : Heap), WF H → RdH H v hs → ∀ τ, ∃ v' H' τ', Gr H.size H H' ∧ Own H' H.size 2 v' (fewH 12 200 hs).length (hcells (fewH 12 200 hs)) ∧ ∀ q, c f_keep_FewHeaders [v, .int .i64 (.ofNat 12), .int .i64 (.ofNat 200)] H τ q = q v' H' τ')
  (hFB : ∀ (v : V) (n : Nat) (cs : List V) (H : Heap), Roomy v → Rd H 1 v n cs → ∃ v', Roomy v' ∧ (Src H v → Src H v') ∧ Rd H 1 v' (min n 300) (cs.take 300) ∧ ∀ τ q, c f_keep_FewBytes [v, .int .i64 (.ofNat 300)] H τ q = q v' H τ)
  (hs : List Hd) (hl : hs.length ≤ 9223372036854775807) (st : Int) (hvr bvr : V) (H : Heap) (hw : WF H) {n : Nat} {cs : List V} (ha : RepArg H hvr bvr hs n cs) (hro : Roomy bvr) (τ : Tape) :
  ∃ v H' τ', Rep H H' v st (fewH 12 200 hs) (min n 300) (cs.take 300) ∧ Gr H.size H H' ∧ ∀ q, s_keep_Reply c N (.agg [.int .i64 st, hvr, bvr]) H τ q = q v H' τ' := by
 obtain ⟨H1, a1, x1, g1, z1⟩ := newbox hw (.agg [.int .i64 st, hvr, bvr]) τ
 replace x1 : Bx H1 H.size [.int .i64 st, hvr, bvr] := by
  have e1 := (rdH_sc ha.1).1
  exact x1
 obtain ⟨H4, a4, x4, g4, z4⟩ := newcell g1.wf [(.int .i64 (.ofNat 0)), .nils, .nils] τ
 have g04 : Gr H.size H H4 := g1.trans g4 (by omega)
 have y4 := x1.gr g4 (by omega)
 have ls : ∀ {H' : Heap}, Bx H' H.size [.int .i64 st, hvr, bvr] → lLoad1 [.ptr H.size (0 + 0)] H' = some (.int .i64 st) ∧ lLoad1 [.ptr H.size (0 + 1)] H' = some hvr ∧ lLoad1 [.ptr H.size (0 + 2)] H' = some bvr := fun h => ⟨bx_load h rfl, bx_load h rfl, bx_load h rfl⟩
 obtain ⟨hv', H11, τ11, g11, o11, k11⟩ := hFH hs hl hvr H4 g04.wf (ha.gr g04 hw).1 τ
 have z11 := g11.size
 have y11 := y4.gr g11 (by omega)
 have w11 := x4.gr g11 (by omega)
 have g011 := g04.trans g11 (by omega)
 obtain ⟨hr, hb, hbs⟩ := ha.gr g011 hw
 obtain ⟨pv, p1, p2, p3, p4⟩ := hFB bvr n cs H11 hro hb
 have hlen := p3.len
 obtain ⟨bv', H22, τ22, r1, c1, c2⟩ := clone1 g011.wf p3 (p2 hbs) (by omega) τ11
 have eb : eBuildSlice 0 1 [] [] [] H11 τ11 = some (.sl H11.size 0 0 0 none 1, H11.new [] 0 false, τ11) := rfl
 have g19 : Gr H11.size H11 (H11.new [] 0 false) := Gr.new g011.wf _ _ _
 have y19 := y11.gr g19 (by omega)
 generalize H11.new [] 0 false = H19 at eb g19 y19 r1
 have z22 := c2.size
 have y22 := y11.gr c2 (by omega)
 have w22 := w11.gr c2 (by omega)
 have sb := c1.scal
 have sh := rd_sc o11.rd
 have pb : pBuild [(.int .i64 (.ofNat 0)), .nils, .nils] [(0, 1), (1, 1), (2, 1)] [.int .i64 st, hv', bv'] = some (.agg [.int .i64 st, hv', bv']) := by
  rcases c1 with ⟨rfl, _⟩ | ⟨id, lo, ex, room, fam, ver, pl, st', fr, rfl, _⟩ <;> rcases o11 with ⟨rfl, _⟩ | ⟨id', e', room', fam', ver', pl', st'', fr', rfl, _⟩ <;> rfl
 obtain ⟨H26, s26, x26, o26⟩ := w22.eStore c2.wf 0 (.agg [.int .i64 st, hv', bv']) 3 rfl (by simp) (by omega) (by show (true && (hv'.scal && (bv'.scal && true))) = true; rw [sb.2, sh.2]; rfl) τ22
 replace x26 : Bx H26 H1.size [.int .i64 st, hv', bv'] := x26
 have z26 : H26.size = H22.size := o26.size
 have y26 := y22.only o26 (by omega)
 have s1 : same hvr hvr = true := same_rd ha.1.1
 have s2 : same bvr bvr = true := same_rd ha.2.1
 have hc : chkLoads [H4, H11, H11, H19, H22, H26] (((.load none), [.ptr H.size (0 + 2)], 0, 2) :: (((.load none), [.ptr H.size (0 + 1)], 0, 1) :: (((.load none), [.ptr H.size (0 + 0)], 0, 4) :: []))) = true := by
  simp [chkLoads, chk1, s1, s2, ls y4, ls y11, ls y19, ls y22, ls y26, evalL, lLoad]
  try simp [same, same1, same0]
 refine ⟨.agg [.int .i64 st, hv', bv'], H26, τ22, ⟨H11.size, hv', bv', rfl, by omega, by omega, ?_, ?_⟩, (g011.trans c2 (by omega)).trans (o26.gr (B := H.size) (by omega)) (Nat.le_refl _), fun q => ?_⟩
 ·have q1 := own_P o11 g11.wf
  have q2 := q1.chg g11.wf (gr_chgO c2) (fun i _ h h' => by omega)
  have q3 := q2.chg c2.wf (o26.chg (P := fun i => i = H1.size) rfl) (fun i _ h h' => by omega)
  exact q3.weaken o26.wf (fun i _ h => by omega)
 ·exact c1.chg c2.wf (o26.chg (P := fun i => i = H1.size) rfl) (fun i _ h h' => by omega)
 ·have er : results ⟨T.set .leaf 2 (.ptr H1.size 0), H26⟩ [.cell 2 (some 3)] = some (.agg [.int .i64 st, hv', bv']) := res_c (by simp [T.get_set]) (bx_loads x26 rfl)
  simp only [s_keep_Reply, a1, effK_n, a4, fa_ptr, (ls y4).1, (ls y4).2.1, (ls y11).2.2, k11, p4, eb, r1, pb, s26, someK_n, hc, cond_true, er]
theorem s_keep_CopyReply_ret (c : CallK) (N : Nat) (hs : List Hd) (hl : hs.length ≤ 1000000) (st : Int) (hvr bvr : V) (H : Heap) (hw : WF H) {n : Nat} {cs : List V} (hn : n ≤ 1000000) (ha : RepArg H hvr bvr hs n cs) (τ : Tape) :
  ∃ hv' bv' H' τ', RdH H' hv' hs ∧ BodP (fun i => H.size ≤ i) H' bv' n cs ∧ Gr H.size H H' ∧ ∀ q, s_keep_CopyReply c N (.agg [.int .i64 st, hvr, bvr]) H τ q = q (.agg [.int .i64 st, hv', bv']) H' τ' := by
 obtain ⟨H1, a1, x1, g1, z1⟩ := newbox hw (.agg [.int .i64 st, hvr, bvr]) τ
 replace x1 : Bx H1 H.size [.int .i64 st, hvr, bvr] := x1
 obtain ⟨H4, a4, x4, g4, z4⟩ := newcell g1.wf [(.int .i64 (.ofNat 0)), .nils, .nils] τ
 have g04 : Gr H.size H H4 := g1.trans g4 (by omega)
 have y4 := x1.gr g4 (by omega)
 have eb : eBuildSlice 0 2 [] [] [] H4 τ = some (.sl H4.size 0 0 0 none 2, H4.new [] (0 * 2) false, τ) := rfl
 have g7 : Gr H4.size H4 (H4.new [] (0 * 2) false) := Gr.new g04.wf _ _ _
 have y7 := y4.gr g7 (by omega)
 obtain ⟨hv', H12, τ12, r1, q1, q2⟩ := clone2 g04.wf (ha.gr g04 hw).1 hl τ
 generalize H4.new [] (0 * 2) false = H7 at eb g7 y7 r1
 have z12 := q2.size
 have sh := rd_sc q1.rd
 obtain ⟨H16, s16, x16, o16⟩ := (y4.gr q2 (by omega)).eStore q2.wf 1 hv' 1 (by rw [sh.1]; rfl) (by simp) (by omega) (by rw [sh.1]; simp [sh.2]) τ12
 replace x16 : Bx H16 H.size [.int .i64 st, hv', bvr] := by rw [sh.1] at x16; exact x16
 have z16 : H16.size = H12.size := o16.size
 have w16 := (x4.gr q2 (by omega)).only o16 (by omega)
 have g016 : Gr H.size H H16 := (g04.trans q2 (by omega)).trans (o16.gr (B := H.size) (by omega)) (Nat.le_refl _)
 have eb2 : eBuildSlice 0 1 [] [] [] H16 τ12 = some (.sl H16.size 0 0 0 none 1, H16.new [] 0 false, τ12) := rfl
 have g19 : Gr H16.size H16 (H16.new [] 0 false) := Gr.new o16.wf _ _ _
 have y19 := x16.gr g19 (by omega)
 obtain ⟨bv', H24, τ24, r2, c1, c2⟩ := clone1 o16.wf (ha.gr g016 hw).2.1 (ha.gr g016 hw).2.2 (by omega) τ12
 generalize H16.new [] 0 false = H19 at eb2 g19 y19 r2
 have z24 := c2.size
 have sb := c1.scal
 obtain ⟨H28, s28, x28, o28⟩ := (x16.gr c2 (by omega)).eStore c2.wf 2 bv' 1 (by rw [sb.1]; rfl) (by simp) (by omega) (by rw [sb.1]; simp [sb.2]) τ24
 replace x28 : Bx H28 H.size [.int .i64 st, hv', bv'] := by rw [sb.1] at x28; exact x28
 have z28 : H28.size = H24.size := o28.size
 have w28 := (w16.gr c2 (by omega)).only o28 (by omega)
 obtain ⟨H32, s32, x32, o32⟩ := w28.eStore o28.wf 0 (.agg [.int .i64 st, hv', bv']) 3 rfl (by simp) (by omega) (by show (true && (hv'.scal && (bv'.scal && true))) = true; rw [sb.2, sh.2]; rfl) τ24
 replace x32 : Bx H32 H1.size [.int .i64 st, hv', bv'] := x32
 have l7 : lLoad1 [.ptr H.size (0 + 1)] H7 = some hvr := bx_load y7 rfl
 have l19 : lLoad1 [.ptr H.size (0 + 2)] H19 = some bvr := bx_load y19 rfl
 have l28 : lLoadN 3 [.ptr H.size 0] H28 = some (.agg [.int .i64 st, hv', bv']) := bx_loads x28 rfl
 have er : results ⟨T.set .leaf 2 (.ptr H1.size 0), H32⟩ [.cell 2 (some 3)] = some (.agg [.int .i64 st, hv', bv']) := res_c (by simp [T.get_set]) (bx_loads x32 rfl)
 refine ⟨hv', bv', H32, τ24, ?_, ?_, ((g016.trans c2 (by omega)).trans (o28.gr (B := H.size) (Nat.le_refl _)) (Nat.le_refl _)).trans (o32.gr (B := H.size) (by omega)) (Nat.le_refl _), fun q => ?_⟩
 ·have q3 := apd_only q1 o16 (by omega)
  have q4 := q3.gr c2 o16.wf (Nat.le_refl _)
  have q5 := apd_only (apd_only q4 o28 (by omega)) o32 (by omega)
  exact ⟨q5.rd, q5.src⟩
 ·have b1 := c1.chg c2.wf (o28.chg (P := fun i => i = H.size) rfl) (fun i _ h h' => by omega)
  have b2 := b1.chg o28.wf (o32.chg (P := fun i => i = H1.size) rfl) (fun i _ h h' => by omega)
  exact b2.weaken o32.wf (fun i _ h => by omega)
 ·have s16' : eStore 1 [.ptr H.size (0 + 1), hv'] H12 τ12 = some (.tup [], H16, τ12) := s16
  have s28' : eStore 1 [.ptr H.size (0 + 2), bv'] H24 τ24 = some (.tup [], H28, τ24) := s28
  simp only [s_keep_CopyReply, a1, effK_n, a4, eb, fa_ptr, l7, r1, s16', eb2, l19, r2, s28', l28, s32, someK_n, er]
end Go.Am.X

namespace Go.Am.X
theorem ws_tk (la : List Nat) (k : Nat) : (ws .u8 la).take k = ws .u8 (la.take k) := by simp [ws, List.map_take]
theorem fewH_small (hs : List Hd) : Small (fewH 12 200 hs) ∧ (fewH 12 200 hs).length ≤ 12 ∧ (getT expN (fewH 12 200 hs)).length ≤ 900000 := by
 have hl : (fewH 12 200 hs).length ≤ 12 := by unfold fewH; rw [List.length_map, List.length_take]; omega
 have ha : ∀ h ∈ fewH 12 200 hs, h.1.length ≤ 200 ∧ h.2.length ≤ 200 := fun h hh => by
  unfold fewH at hh
  obtain ⟨x, _, rfl⟩ := List.mem_map.1 hh
  unfold fewh
  simp only [List.length_take]
  omega
 refine ⟨⟨by omega, fun h hh => by have := ha h hh; omega⟩, hl, ?_⟩
 have h1 : (sel expN (fewH 12 200 hs)).length ≤ 12 := by
  simp only [sel, List.length_map]
  have := List.length_filter_le (fun h : Bs × Bs => lower h.1 == lower expN) (fewH 12 200 hs)
  omega
 have h2 := joinB_length [44, 32] 200 (sel expN (fewH 12 200 hs)) (fun x hx => by
  simp only [sel, List.mem_map, List.mem_filter] at hx
  obtain ⟨y, ⟨hy, _⟩, rfl⟩ := hx
  exact (ha y hy).2)
 have h3 : (sel expN (fewH 12 200 hs)).length * (200 + ([44, 32] : Bs).length) ≤ 12 * 202 := Nat.mul_le_mul h1 (by simp)
 unfold getT
 omega
theorem same1_rd {H : Heap} {v : V} {z n : Nat} {cs : List V} (h : Rd H z v n cs) : same1 v v = true := by
 rcases h with ⟨rfl | ⟨id, off, lo, ex, rfl⟩, _, _⟩ | ⟨id, off, lo, ex, all, rfl, _⟩
 ·rfl
 ·cases ex <;> simp [same1, same0]
 ·cases ex <;> simp [same1, same0]
abbrev RepOk (c : CallK) : Prop := ∀ (hs : List Hd), hs.length ≤ 9223372036854775807 → ∀ (st : Int) (hvr bvr : V) (H : Heap), WF H → ∀ {n : Nat} {cs : List V}, RepArg H hvr bvr hs n cs → Roomy bvr → ∀ τ, ∃ v H' τ', Rep H H' v st (fewH 12 200 hs) (min n 300) (cs.take 300) ∧ Gr H.size H H' ∧ ∀ q, c f_keep_Reply [.agg [.int .i64 st, hvr, bvr]] H τ q = q v H' τ'
abbrev CpyROk (c : CallK) : Prop := ∀ (hs : List Hd), hs.length ≤ 1000000 → ∀ (st : Int) (hvr bvr : V) (H : Heap), WF H → ∀ {n : Nat} {cs : List V}, n ≤ 1000000 → RepArg H hvr bvr hs n cs → ∀ τ, ∃ hv' bv' H' τ', RdH H' hv' hs ∧ BodP (fun i => H.size ≤ i) H' bv' n cs ∧ Gr H.size H H' ∧ ∀ q, c f_keep_CopyReply [.agg [.int .i64 st, hvr, bvr]] H τ q = q (.agg [.int .i64 st, hv', bv']) H' τ'
abbrev OwnROk (c : CallK) (f : Nat) : Prop := ∀ (hs : List Hd), Small hs → ∀ (st : Int) (hvr bvr : V) (url : Bs) (H : Heap), WF H → ∀ {n : Nat} {cs : List V}, RepArg H hvr bvr hs n cs → n ≤ 1000000 → ∀ τ, ∃ v H' τ', Resp H H' v 2 st (hs.filter keptB) n cs url ∧ Gr H.size H H' ∧ ∀ q, c f [.agg [.int .i64 st, hvr, bvr], .str url] H τ q = q v H' τ'
abbrev ShrROk (c : CallK) (f : Nat) : Prop := ∀ (hs : List Hd), Small hs → (getT expN hs).length ≤ 900000 → ∀ (cred : Bool) (st : Int) (hvr bvr : V) (url : Bs) (H : Heap), WF H → ∀ {n : Nat} {cs : List V}, RepArg H hvr bvr hs n cs → n ≤ 1000000 → ∀ τ, ∃ v H' τ', Resp H H' v 3 st ((hs.filter keptB).filter (shrB hs cred)) n cs url ∧ Gr H.size H H' ∧ ∀ q, c f [.agg [.int .i64 st, hvr, bvr], .str url, .bool cred] H τ q = q v H' τ'
abbrev SmOk (c : CallK) : Prop := ∀ {kd st : Int} {h1 h2 b1 b2 : V} {u : Bs} {hs : List Hd} {la : List Nat} {H : Heap}, WF H → RdH H h1 hs → RdH H h2 hs → hs.length ≤ 1000000 → Rd H 1 b1 la.length (ws .u8 la) → Rd H 1 b2 la.length (ws .u8 la) → la.length ≤ 1000000 → ∀ τ, ∃ H', Gr H.size H H' ∧ ∀ q, c f_keep_SameResponse [.agg [.int .i64 kd, .int .i64 st, h1, b1, .str u], .agg [.int .i64 kd, .int .i64 st, h2, b2, .str u]] H τ q = q (.bool true) H' τ
abbrev SmROk (c : CallK) : Prop := ∀ {st : Int} {h1 h2 b1 b2 : V} {hs : List Hd} {la : List Nat} {H : Heap}, WF H → RdH H h1 hs → RdH H h2 hs → hs.length ≤ 1000000 → Rd H 1 b1 la.length (ws .u8 la) → Rd H 1 b2 la.length (ws .u8 la) → la.length ≤ 1000000 → ∀ τ, ∃ H', Gr H.size H H' ∧ ∀ q, c f_keep_SameReply [.agg [.int .i64 st, h1, b1], .agg [.int .i64 st, h2, b2]] H τ q = q (.bool true) H' τ
abbrev HideOk (c : CallK) : Prop := ∀ (u : Bs) {H : Heap}, WF H → ∀ τ, ∃ H', Gr H.size H H' ∧ ∀ q, c f_filter_HideRedirect [.str u] H τ q = q (.agg [.int .i64 5, .int .i64 0, .nils, .nils, .str u]) H' τ
theorem s_filter_HideRedirect_ret (c : CallK) (N : Nat) (u : Bs) {H : Heap} (hw : WF H) (τ : Tape) : ∃ H', Gr H.size H H' ∧ ∀ q, s_filter_HideRedirect c N (.str u) H τ q = q (.agg [.int .i64 5, .int .i64 0, .nils, .nils, .str u]) H' τ := by
 obtain ⟨H1, H2, a1, s1, x2, g2, z2, _⟩ := newvar hw [(.int .i64 (.ofNat 0)), (.int .i64 (.ofNat 0)), .nils, .nils, (.str [])] (.agg [.int .i64 5, .int .i64 0, .nils, .nils, .str u]) 5 rfl rfl (by omega) rfl τ
 have pb : pBuild [(.int .i64 (.ofNat 0)), (.int .i64 (.ofNat 0)), .nils, .nils, (.str [])] [(0, 1), (4, 1)] [(.int .i64 (.ofNat 5)), .str u] = some (.agg [.int .i64 5, .int .i64 0, .nils, .nils, .str u]) := rfl
 have er : results ⟨T.set .leaf 2 (.ptr H.size 0), H2⟩ [.cell 2 (some 5)] = some (.agg [.int .i64 5, .int .i64 0, .nils, .nils, .str u]) := res_c (by simp [T.get_set]) (bx_loads x2 rfl)
 exact ⟨H2, g2, fun q => by simp only [s_filter_HideRedirect, a1, effK_n, pb, s1, someK_n, er]⟩
theorem s_law20_FilterShows_ret (c : CallK) (N : Nat) (hRp : RepOk c) (hCp : CpyROk c) (hFw : FewOk c) (hO : OwnROk c f_filter_Own) (hRO : OwnROk c f_ref20_Own) (hS : ShrROk c f_filter_Share) (hRS : ShrROk c f_ref20_Share) (hSm : SmOk c) (hSmR : SmROk c) (hHd : HideOk c) (hKn : ∀ H τ q, c f_law20_known [] H τ q = q (.bool true) H τ)
  (hs : List Hd) (hl : hs.length ≤ 9223372036854775807) (la : List Nat) (st : Int) (hvr bvr : V) (url0 : Bs) (cred : Bool) (H : Heap) (hw : WF H) (ha : RepArg H hvr bvr hs la.length (ws .u8 la)) (hro : Roomy bvr) (τ : Tape) :
  ∃ H' τ', Gr H.size H H' ∧ ∀ q, s_law20_FilterShows c N (.agg [.int .i64 st, hvr, bvr]) (.str url0) (.bool cred) H τ q = q (.bool true) H' τ' := by
 obtain ⟨f1, f2, f3⟩ := fewH_small hs
 obtain ⟨H1, a1, x1, g1, z1⟩ := newbox hw (.agg [.int .i64 st, hvr, bvr]) τ
 replace x1 : Bx H1 H.size [.int .i64 st, hvr, bvr] := x1
 have e1 : lLoadN 3 [.ptr H.size 0] H1 = some (.agg [.int .i64 st, hvr, bvr]) := bx_loads x1 rfl
 obtain ⟨v4, H5, τ5, r1, g5, k5⟩ := hRp hs hl st hvr bvr H1 g1.wf (ha.gr g1 hw) hro τ
 obtain ⟨m, hv0, bv0, rfl, m1, m2, m3, m4⟩ := r1.ex
 have z5 := g5.size
 have hlb : min la.length 300 = (la.take 300).length := by rw [List.length_take]; omega
 rw [ws_tk, hlb] at m4
 have hll : (la.take 300).length ≤ 1000000 := by rw [List.length_take]; omega
 generalize hla : la.take 300 = lb at m4 hll
 generalize fewH 12 200 hs = hd at f1 f2 f3 m3
 have sh := rd_sc m3.rd
 have sb := m4.scal
 obtain ⟨H8, s8, x8, o8⟩ := (x1.gr g5 (by omega)).eStore g5.wf 0 (.agg [.int .i64 st, hv0, bv0]) 3 rfl (by simp) (by omega) (by show (true && (hv0.scal && (bv0.scal && true))) = true; rw [sb.2, sh.2]; rfl) τ5
 replace x8 : Bx H8 H.size [.int .i64 st, hv0, bv0] := x8
 have z8 : H8.size = H5.size := o8.size
 have g8 : Gr H.size H H8 := (g1.trans g5 (by omega)).trans (o8.gr (B := H.size) (by omega)) (Nat.le_refl _)
 have A8 : RepArg H8 hv0 bv0 hd lb.length (ws .u8 lb) := by
  have q1 := m3.chg g5.wf (o8.chg (P := fun i => i = H.size) rfl) (fun i _ h h' => by omega)
  have q2 := m4.chg g5.wf (o8.chg (P := fun i => i = H.size) rfl) (fun i _ h h' => by omega)
  exact ⟨ownP_rdH q1, q2.rd, q2.src⟩
 have kF : ∀ H τ q, c f_keep_Few [.str url0, .int .i64 (.ofNat 100)] H τ q = q (.str (url0.take 100)) H τ := fun H τ q => hFw url0 100 H τ q
 generalize url0.take 100 = url at kF
 have e8 : lLoadN 3 [.ptr H.size 0] H8 = some (.agg [.int .i64 st, hv0, bv0]) := bx_loads x8 rfl
 obtain ⟨hv1, bv1, H15, τ15, p1, p2, g15, k15⟩ := hCp hd (by omega) st hv0 bv0 H8 o8.wf hll A8 τ5
 have z15 := g15.size
 have sh1 := rdH_sc p1
 have sb1 := p2.scal
 obtain ⟨H18, H21, a18, s21, x21, g21, z21, _⟩ := newvar g15.wf [(.int .i64 (.ofNat 0)), .nils, .nils] (.agg [.int .i64 st, hv1, bv1]) 3 rfl rfl (by omega) (by show (true && (hv1.scal && (bv1.scal && true))) = true; rw [sb1.2, sh1.2]; rfl) τ15
 replace x21 : Bx H21 H15.size [.int .i64 st, hv1, bv1] := x21
 have g821 : Gr H8.size H8 H21 := g15.trans g21 (by omega)
 have A21 := A8.gr g821 o8.wf
 have C21 : RepArg H21 hv1 bv1 hd lb.length (ws .u8 lb) := (show RepArg H15 hv1 bv1 hd lb.length (ws .u8 lb) from ⟨p1, p2.rd, p2.src⟩).gr g21 g15.wf
 have y21 := x8.gr g821 (by omega)
 obtain ⟨v24, H25, τ25, r25, g25, k25⟩ := hO hd f1 st hv0 bv0 url H21 g21.wf A21 hll τ15
 obtain ⟨ma, ha1, ba1, rfl, n1, n2, n3, n4⟩ := r25.ex
 have z25 := g25.size
 obtain ⟨v28, H29, τ29, r29, g29, k29⟩ := hRO hd f1 st hv1 bv1 url H25 g25.wf (C21.gr g25 g21.wf) hll τ25
 obtain ⟨mb, ha2, ba2, rfl, u1, u2, u3, u4⟩ := r29.ex
 have z29 := g29.size
 have hfl : (hd.filter keptB).length ≤ 1000000 := by have := List.length_filter_le keptB hd; omega
 obtain ⟨H32, g32, k32⟩ := hSm (kd := 2) (st := st) (u := url) g29.wf (n3.rdH.gr g29 g25.wf (Nat.le_refl _)) u3.rdH hfl (n4.rd.gr g29 g25.wf (Nat.le_refl _)) u4.rd hll τ29
 have z32 := g32.size
 have g2132 : Gr H21.size H21 H32 := (g25.trans g29 (by omega)).trans g32 (by omega)
 obtain ⟨v43, H44, τ44, r44, g44, k44⟩ := hS hd f1 f3 cred st hv0 bv0 url H32 g32.wf (A21.gr g2132 g21.wf) hll τ29
 obtain ⟨mc, ha3, ba3, rfl, t1, t2, t3, t4⟩ := r44.ex
 have z44 := g44.size
 have g2144 := g2132.trans g44 (by omega)
 obtain ⟨v55, H56, τ56, r56, g56, k56⟩ := hRS hd f1 f3 cred st hv1 bv1 url H44 g44.wf (C21.gr g2144 g21.wf) hll τ44
 obtain ⟨md, ha4, ba4, rfl, w1, w2, w3, w4⟩ := r56.ex
 have z56 := g56.size
 have hfl2 : ((hd.filter keptB).filter (shrB hd cred)).length ≤ 1000000 := by have := List.length_filter_le (shrB hd cred) (hd.filter keptB); omega
 obtain ⟨H59, g59, k59⟩ := hSm (kd := 3) (st := st) (u := url) g56.wf (t3.rdH.gr g56 g44.wf (Nat.le_refl _)) w3.rdH hfl2 (t4.rd.gr g56 g44.wf (Nat.le_refl _)) w4.rd hll τ56
 have z59 := g59.size
 have g2159 := (g2144.trans g56 (by omega)).trans g59 (by omega)
 have A59 := A21.gr g2159 g21.wf
 have C59 := C21.gr g2159 g21.wf
 obtain ⟨H69, g69, k69⟩ := hSmR (st := st) g59.wf A59.1 C59.1 (by omega) A59.2.1 C59.2.1 hll τ56
 have z69 := g69.size
 obtain ⟨H76, g76, k76⟩ := hHd url g69.wf τ56
 have z76 := g76.size
 have rn : RdH H76 .nils [] := ⟨.inl ⟨.inl rfl, rfl, rfl⟩, trivial⟩
 have rb : Rd H76 1 .nils ([] : List Nat).length (ws .u8 []) := .inl ⟨.inl rfl, rfl, rfl⟩
 obtain ⟨H85, g85, k85⟩ := hSm (kd := 5) (st := 0) (u := url) (hs := []) (la := []) g76.wf rn rn (by simp) rb rb (by simp) τ56
 have z85 := g85.size
 have ly : ∀ {H' : Heap}, Gr H21.size H21 H' → lLoadN 3 [.ptr H.size 0] H' = some (.agg [.int .i64 st, hv0, bv0]) := fun h => bx_loads (y21.gr h (by omega)) rfl
 have lx : ∀ {H' : Heap}, Gr H21.size H21 H' → lLoadN 3 [.ptr H15.size 0] H' = some (.agg [.int .i64 st, hv1, bv1]) := fun h => bx_loads (x21.gr h (by omega)) rfl
 have h21 := ly (Gr.refl g21.wf)
 have i21 := lx (Gr.refl g21.wf)
 have i25 := lx g25
 have i29 := lx (g25.trans g29 (by omega))
 have h32 := ly g2132
 have i32 := lx g2132
 have i44 := lx g2144
 have i56 := lx (g2144.trans g56 (by omega))
 have h59 := ly g2159
 have i59 := lx g2159
 have smv : same (.agg [.int .i64 st, hv1, bv1]) (.agg [.int .i64 st, hv1, bv1]) = true := by
  have q0 : same1 (.int .i64 st) (.int .i64 st) = true := by simp [same1, same0]
  show (same1 (.int .i64 st) (.int .i64 st) && (same1 hv1 hv1 && (same1 bv1 bv1 && true))) = true
  rw [q0, same1_rd p1.1, same1_rd p2.rd]; rfl
 have hc : chkLoads [H21, H25, H29, H32, H44, H56, H59, H69, H76, H85, H85] (((.load (some 3)), [.ptr H15.size 0], 3, 4) :: (((.load (some 3)), [.ptr H15.size 0], 0, 1) :: [])) = true := by
  simp [chkLoads, chk1, smv, i21, i25, i32, i44, evalL, lLoad]
 refine ⟨H85, τ56, ?_, fun q => ?_⟩
 ·exact (((((g8.trans g821 (by omega)).trans g2159 (by omega)).trans g69 (by omega)).trans g76 (by omega)).trans g85 (by omega))
 have pb : pBuild [(.int .i64 (.ofNat 0)), (.int .i64 (.ofNat 0)), .nils, .nils, (.str [])] [(0, 1), (4, 1)] [(.int .i64 (.ofNat 5)), .str url] = some (.agg [.int .i64 5, .int .i64 0, .nils, .nils, .str url]) := rfl
 simp only [s_law20_FilterShows, a1, effK_n, e1, k5, s8, kF, e8, k15, a18, s21, h21, k25, i25, k29, k32, someK_n, gK_do, retK, getK_set, ↓reduceIte, Nat.reduceEqDiff, someK_n, effK_n, retK, gK_do, gK_do', gK_skip, gK_skip', gK_none, pick_mk, cond_true, cond_false, condK_tn, condK_fn, bin_eql, bin_neq, bin_lss, bin_leq, bin_gtr, bin_geq, un_not, Bool.not_true, Bool.not_false, bin_str, lenS_mk, nle_l, nle_r, nle_n, nlt_l, nlt_r, nlt_n, neq_r, neq_n, nne_r, nne_n, ext0, ext1, ext30, ext31, ext32, bin_add, bin_sub, decide_true, decide_false, h32, k44, i44, k56, k59, h59, i59, k69, k76, pb, k85, hKn, show wantsV (V.bool true) true = some true from rfl, hc]
end Go.Am.X

namespace Go.Am.X
noncomputable abbrev rw_FS : List Row := [Row.fn f_keep_Reply fn_keep_Reply e_keep_Reply, Row.prim f_keep_FewHeaders (outP (RH FewHPre FewHG)), Row.fn f_keep_FewBytes fn_keep_FewBytes e_keep_FewBytes, Row.fn f_keep_CopyReply fn_keep_CopyReply e_keep_CopyReply, Row.fn f_keep_Few fn_keep_Few e_keep_Few,
 Row.fn f_filter_Own fn_filter_Own e_filter_Own, Row.fn f_filter_Share fn_filter_Share e_filter_Share, Row.fn f_filter_shown fn_filter_shown e_filter_shown, Row.fn f_filter_Own_1 fn_filter_Own_1 e_filter_Own_1, Row.fn f_filter_Share_1 fn_filter_Share_1 e_filter_Share_1, Row.fn f_filter_HideRedirect fn_filter_HideRedirect e_filter_HideRedirect,
 Row.fn f_slices_Clone_byte fn_slices_Clone_byte e_slices_Clone_byte, Row.fn f_slices_Contains_string fn_slices_Contains_string e_slices_Contains_string, Row.fn f_slices_Index_string fn_slices_Index_string e_slices_Index_string, Row.prim f_cors_Exposed (outP (RH ExpPre ExpG)), Row.prim f_infra_Lower (outP LowR),
 Row.fn f_ref20_Own fn_ref20_Own e_ref20_Own, Row.fn f_ref20_cookies fn_ref20_cookies e_ref20_cookies, Row.fn f_ref20_Share fn_ref20_Share e_ref20_Share, Row.prim f_ref18_Exposed (outP (RH ExpPre ExpG)), Row.prim f_ref1_Lower (outP LowR), Row.prim f_ref1_Has (outP HasR),
 Row.fn f_keep_SameResponse fn_keep_SameResponse e_keep_SameResponse, Row.fn f_keep_SameReply fn_keep_SameReply e_keep_SameReply, Row.prim f_book_Same_Header (outP SameR), Row.fn f_book_Same_byte fn_book_Same_byte e_book_Same_byte]
section
variable {N : Nat} (hN : 9223372036854775807 < N) {c c0 c1 c2 : CallK}
theorem fs_rep (hF : IsP c0 f_keep_FewHeaders (RH FewHPre FewHG)) (hB : ∀ v k H τ q, c0 f_keep_FewBytes [v, k] H τ q = s_keep_FewBytes c1 N v k H τ q) (hR : ∀ v H τ q, c f_keep_Reply [v] H τ q = s_keep_Reply c0 N v H τ q) : RepOk c := fun hs hl st hvr bvr H hw {n cs} ha hro τ => by
 obtain ⟨v, H', τ', h1, h2, h3⟩ := s_keep_Reply_ret c0 N (fun hs hl v H hw hr τ => by
  obtain ⟨v', H', τ', k1, k2, k3⟩ := k_keep_FewHeaders hF hl 12 200 (by omega) (by omega) hw hr τ
  exact ⟨v', H', τ', k2, k1, k3⟩) (fun v n cs H hro hr => by
  obtain ⟨v', k1, k2, k3, k4⟩ := s_keep_FewBytes_ret c1 N v n 300 cs (by omega) (by omega) H hro hr
  exact ⟨v', k1, k2, k3, fun τ q => (hB _ _ _ _ _).trans (k4 τ q)⟩) hs hl st hvr bvr H hw ha hro τ
 exact ⟨v, H', τ', h1, h2, fun q => (hR _ _ _ _).trans (h3 q)⟩
theorem fs_cpy (hR : ∀ v H τ q, c f_keep_CopyReply [v] H τ q = s_keep_CopyReply c0 N v H τ q) : CpyROk c := fun hs hl st hvr bvr H hw {n cs} hn ha τ => by
 obtain ⟨a, b, H', τ', h1, h2, h3, h4⟩ := s_keep_CopyReply_ret c0 N hs hl st hvr bvr H hw hn ha τ
 exact ⟨a, b, H', τ', h1, h2, h3, fun q => (hR _ _ _ _).trans (h4 q)⟩
theorem fs_clone (hC : ∀ v H τ q, c f_slices_Clone_byte [v] H τ q = s_slices_Clone_byte c0 N v H τ q) : CloneOk c := fun {v n cs H} hw hr hs hn τ => by
 obtain ⟨v', H', τ', h1, h2, h3⟩ := s_slices_Clone_byte_ret c0 N hw hr hs hn τ
 exact ⟨v', H', τ', h1, h2, fun q => (hC _ _ _ _).trans (h3 q)⟩
include hN in
theorem fs_own (hR : ∀ v u H τ q, c f_filter_Own [v, u] H τ q = s_filter_Own c0 N v u H τ q) (hSh : ∀ k r u fv H τ q, c0 f_filter_shown [k, r, u, fv] H τ q = s_filter_shown c1 N k r u fv H τ q) (hL : NLowOk c1) (hC : CloneOk c1) (hO : ∀ v H τ q, c1 f_filter_Own_1 [v] H τ q = q (.bool true) H τ) : OwnROk c f_filter_Own := fun hs hS st hvr bvr url H hw {n cs} ha hn τ => by
 obtain ⟨v, H', τ', h1, h2, h3⟩ := s_filter_Own_ret c0 c1 hN hSh hL hC hO hs hS st hvr bvr url H hw ha (by omega) τ
 rw [own_eqs] at h1
 exact ⟨v, H', τ', h1, h2, fun q => (hR _ _ _ _ _).trans (h3 q)⟩
include hN in
theorem fs_shr (hR : ∀ v u b H τ q, c f_filter_Share [v, u, b] H τ q = s_filter_Share c0 N v u b H τ q) (hSh : ∀ k r u fv H τ q, c0 f_filter_shown [k, r, u, fv] H τ q = s_filter_shown c1 N k r u fv H τ q) (hE : IsP c0 f_cors_Exposed (RH ExpPre ExpG)) (hL : NLowOk c1) (hC : CloneOk c1) (hO : ∀ a b d H τ q, c1 f_filter_Share_1 [a, b, d] H τ q = s_filter_Share_1 c2 N a b d H τ q) (hCon : ConSOk c2) : ShrROk c f_filter_Share := fun hs hS hg cred st hvr bvr url H hw {n cs} ha hn τ => by
 obtain ⟨v, H', τ', h1, h2, h3⟩ := s_filter_Share_ret c0 c1 hN hSh hE hL hC (fun x {p r al nv ns H} hp hr hn hl τ q => (hO _ _ _ _ _ _).trans (s_filter_Share_1_ret c2 N hCon x hp hr hn hl τ q)) hs hS hg cred st hvr bvr url H hw ha (by omega) τ
 rw [shr_eqs] at h1
 exact ⟨v, H', τ', h1, h2, fun q => (hR _ _ _ _ _ _).trans (h3 q)⟩
theorem fs_cook (hR : ∀ v H τ q, c f_ref20_cookies [v] H τ q = s_ref20_cookies c0 N v H τ q) (hL : RLowOk c0) : CookOk c := fun h hl {H} hw τ => by
 obtain ⟨H', h1, h2⟩ := s_ref20_cookies_ret c0 N hL h hl hw τ
 exact ⟨H', h1, fun q => (hR _ _ _ _).trans (h2 q)⟩
include hN in
theorem fs_rown (hR : ∀ v u H τ q, c f_ref20_Own [v, u] H τ q = s_ref20_Own c0 N v u H τ q) (hK : CookOk c0) : OwnROk c f_ref20_Own := fun hs hS st hvr bvr url H hw {n cs} ha hn τ => by
 obtain ⟨v, H', τ', h1, h2, h3⟩ := s_ref20_Own_ret c0 hN hK hs hS st hvr bvr url H hw ha (by omega) τ
 exact ⟨v, H', τ', h1, h2, fun q => (hR _ _ _ _ _).trans (h3 q)⟩
include hN in
theorem fs_rshr (hR : ∀ v u b H τ q, c f_ref20_Share [v, u, b] H τ q = s_ref20_Share c0 N v u b H τ q) (hOw : ∀ r u H τ q, c0 f_ref20_Own [r, u] H τ q = s_ref20_Own c1 N r u H τ q) (hE : IsP c0 f_ref18_Exposed (RH ExpPre ExpG)) (hL : RLowOk c0) (hH : IsP c0 f_ref1_Has HasR) (hK : CookOk c1) : ShrROk c f_ref20_Share := fun hs hS hg cred st hvr bvr url H hw {n cs} ha hn τ => by
 obtain ⟨v, H', τ', h1, h2, h3⟩ := s_ref20_Share_ret c0 c1 hN hOw hE hL (fun {lv ss} x {H} hr hl τ q => k_ref1_Has hH x hr hl τ q) hK hs hS hg cred st hvr bvr url H hw ha (by omega) τ
 exact ⟨v, H', τ', h1, h2, fun q => (hR _ _ _ _ _ _).trans (h3 q)⟩
include hN in
theorem fs_sm (hR : ∀ a b H τ q, c f_keep_SameResponse [a, b] H τ q = s_keep_SameResponse c0 N a b H τ q) (hS : IsP c0 f_book_Same_Header SameR) (hB : ∀ a b H τ q, c0 f_book_Same_byte [a, b] H τ q = s_book_Same_byte c1 N a b H τ q) : SmOk c := fun {kd st h1 h2 b1 b2 u hs la H} hw r1 r2 hl q1 q2 hla τ => by
 obtain ⟨H', k1, k2⟩ := s_keep_SameResponse_true c0 N (kd := kd) (st := st) (u := u) hw (fun H' hg τ q => k_book_Same_Header hS hl (r1.gr hg hw (Nat.le_refl _)) (r2.gr hg hw (Nat.le_refl _)) τ q) (fun H' hg τ q => by rw [hB, s_book_Same_byte_ret c1 N (Nat.le_of_lt hN) b1 b2 la la (by omega) H' (q1.gr hg hw (Nat.le_refl _)) (q2.gr hg hw (Nat.le_refl _)) τ q, decide_eq_true rfl]) τ
 exact ⟨H', k1, fun q => (hR _ _ _ _ _).trans (k2 q)⟩
include hN in
theorem fs_smr (hR : ∀ a b H τ q, c f_keep_SameReply [a, b] H τ q = s_keep_SameReply c0 N a b H τ q) (hS : IsP c0 f_book_Same_Header SameR) (hB : ∀ a b H τ q, c0 f_book_Same_byte [a, b] H τ q = s_book_Same_byte c1 N a b H τ q) : SmROk c := fun {st h1 h2 b1 b2 hs la H} hw r1 r2 hl q1 q2 hla τ => by
 obtain ⟨H', k1, k2⟩ := s_keep_SameReply_true c0 N (st := st) hw (fun H' hg τ q => k_book_Same_Header hS hl (r1.gr hg hw (Nat.le_refl _)) (r2.gr hg hw (Nat.le_refl _)) τ q) (fun H' hg τ q => by rw [hB, s_book_Same_byte_ret c1 N (Nat.le_of_lt hN) b1 b2 la la (by omega) H' (q1.gr hg hw (Nat.le_refl _)) (q2.gr hg hw (Nat.le_refl _)) τ q, decide_eq_true rfl]) τ
 exact ⟨H', k1, fun q => (hR _ _ _ _ _).trans (k2 q)⟩
theorem fs_hide (hR : ∀ u H τ q, c f_filter_HideRedirect [u] H τ q = s_filter_HideRedirect c0 N u H τ q) : HideOk c := fun u {H} hw τ => by
 obtain ⟨H', h1, h2⟩ := s_filter_HideRedirect_ret c0 N u hw τ
 exact ⟨H', h1, fun q => (hR _ _ _ _).trans (h2 q)⟩
end
noncomputable abbrev rw_FShows : List Row := Row.fn f_law20_FilterShows fn_law20_FilterShows e_law20_FilterShows :: Row.prim f_law20_known closedP :: rw_FS
abbrev RepIn (H : Heap) (v : V) : Prop := ∃ (hs : List Hd) (la : List Nat) (st : Int) (hvr bvr : V), v = .agg [.int .i64 st, hvr, bvr] ∧ RepArg H hvr bvr hs la.length (ws .u8 la) ∧ hs.length ≤ 9223372036854775807 ∧ Roomy bvr
def FilterShowsR (vs : List V) (H : Heap) (o : Out) : Prop := (∃ (v : V) (url : Bs) (cred : Bool), vs = [v, .str url, .bool cred] ∧ RepIn H v) ∧ o = .val (.bool true)
theorem closedP_callF {c : CallK} {f : Nat} (h : ∀ vs H τ q, c f vs H τ q = effK (closedP vs H τ) q) : ∀ H τ q, c f [] H τ q = q (.bool true) H τ := fun H τ q => by rw [h]; rfl
theorem filterShows_ok : ∀ base w0, PrimOk PG base w0 f_law20_FilterShows (outP FilterShowsR) := by
 obtain ⟨N, hN⟩ := someN
 refine primOk_out mixed_ok (l := rw_FShows) (.fn ok_law20_FilterShows e_law20_FilterShows_ok (.prim closed_law20_known_ok (.fn ok_keep_Reply e_keep_Reply_ok (.prim p_keep_FewHeaders (.fn ok_keep_FewBytes e_keep_FewBytes_ok (.fn ok_keep_CopyReply e_keep_CopyReply_ok (.fn ok_keep_Few e_keep_Few_ok (.fn ok_filter_Own e_filter_Own_ok (.fn ok_filter_Share e_filter_Share_ok (.fn ok_filter_shown e_filter_shown_ok (.fn ok_filter_Own_1 e_filter_Own_1_ok (.fn ok_filter_Share_1 e_filter_Share_1_ok (.fn ok_filter_HideRedirect e_filter_HideRedirect_ok (.fn ok_slices_Clone_byte e_slices_Clone_byte_ok (.fn ok_slices_Contains_string e_slices_Contains_string_ok (.fn ok_slices_Index_string e_slices_Index_string_ok (.prim p_cors_Exposed (.prim p_infra_Lower (.fn ok_ref20_Own e_ref20_Own_ok (.fn ok_ref20_cookies e_ref20_cookies_ok (.fn ok_ref20_Share e_ref20_Share_ok (.prim p_ref18_Exposed (.prim p_ref1_Lower (.prim p_ref1_Has (.fn ok_keep_SameResponse e_keep_SameResponse_ok (.fn ok_keep_SameReply e_keep_SameReply_ok (.prim p_book_Same_Header (.fn ok_book_Same_byte e_book_Same_byte_ok (.nil _))))))))))))))))))))))))))))) N 8 _ ?_
 rintro vs H o hw hvs ⟨⟨v, url, cred, rfl, hs, la, st, hvr, bvr, rfl, h1, h2, h3⟩, rfl⟩ τ
 have con : ConSOk (CR rw_FShows N 4) := fun x hl _ hr τ q => s_slices_Contains_string_ret (CR rw_FShows N 3) N _ _ x _ τ (s_slices_Index_string_ret (CR rw_FShows N 2) hN _ _ x hl _ hr τ) q
 have nl : NLowOk (CR rw_FShows N 5) := k_infra_Lower fun _ _ _ _ => rfl
 have cl : CloneOk (CR rw_FShows N 5) := fs_clone (N := N) (c0 := CR rw_FShows N 4) fun _ _ _ _ => rfl
 have ck6 : CookOk (CR rw_FShows N 6) := fs_cook (N := N) (c0 := CR rw_FShows N 5) (fun _ _ _ _ => rfl) (k_ref1_Lower fun _ _ _ _ => rfl)
 have ck5 : CookOk (CR rw_FShows N 5) := fs_cook (N := N) (c0 := CR rw_FShows N 4) (fun _ _ _ _ => rfl) (k_ref1_Lower fun _ _ _ _ => rfl)
 obtain ⟨H', τ', g, k⟩ := s_law20_FilterShows_ret (CR rw_FShows N 7) N (fs_rep (N := N) (c0 := CR rw_FShows N 6) (c1 := CR rw_FShows N 5) (fun _ _ _ _ => rfl) (fun _ _ _ _ _ => rfl) (fun _ _ _ _ => rfl)) (fs_cpy (N := N) (c0 := CR rw_FShows N 6) (fun _ _ _ _ => rfl)) (fun s m H τ q => s_keep_Few_ret (CR rw_FShows N 6) N s m H τ q)
  (fs_own hN (c0 := CR rw_FShows N 6) (c1 := CR rw_FShows N 5) (fun _ _ _ _ _ => rfl) (fun _ _ _ _ _ _ _ => rfl) nl cl (fun _ _ _ _ => rfl)) (fs_rown hN (c0 := CR rw_FShows N 6) (fun _ _ _ _ _ => rfl) ck6)
  (fs_shr hN (c0 := CR rw_FShows N 6) (c1 := CR rw_FShows N 5) (c2 := CR rw_FShows N 4) (fun _ _ _ _ _ _ => rfl) (fun _ _ _ _ _ _ _ => rfl) (fun _ _ _ _ => rfl) nl cl (fun _ _ _ _ _ _ => rfl) con)
  (fs_rshr hN (c0 := CR rw_FShows N 6) (c1 := CR rw_FShows N 5) (fun _ _ _ _ _ _ => rfl) (fun _ _ _ _ _ => rfl) (fun _ _ _ _ => rfl) (k_ref1_Lower fun _ _ _ _ => rfl) (fun _ _ _ _ => rfl) ck5)
  (fs_sm hN (c0 := CR rw_FShows N 6) (c1 := CR rw_FShows N 5) (fun _ _ _ _ _ => rfl) (fun _ _ _ _ => rfl) (fun _ _ _ _ _ => rfl)) (fs_smr hN (c0 := CR rw_FShows N 6) (c1 := CR rw_FShows N 5) (fun _ _ _ _ _ => rfl) (fun _ _ _ _ => rfl) (fun _ _ _ _ _ => rfl)) (fs_hide (N := N) (c0 := CR rw_FShows N 6) (fun _ _ _ _ => rfl)) (closedP_callF fun _ _ _ _ => rfl) hs h2 la st hvr bvr url cred H hw h1 h3 τ
 exact ⟨_, H', τ', k retK, g, rfl, trivial⟩
theorem filterShows_fun : Fun1 FilterShowsR := fun vs H o o' k k' => k.2.trans k'.2.symm
theorem filterShows_in {H : Heap} {v : V} (h : RepIn H v) (url : Bs) (cred : Bool) (τ : Tape) : outP FilterShowsR [v, .str url, .bool cred] H τ = some (.bool true, H, τ) := outP_mk filterShows_fun ⟨⟨v, url, cred, rfl, h⟩, rfl⟩ τ
end Go.Am.X

