/- The abstract machine, printed functions of the program, and what they are shown to be. -/
import Derived.Test.YtlpedafppdffoaaGreatDoorFSHL5
import Derived.Test.YtlpedafppdffoaaGreatDoorFSHL4
import Derived.Test.YtlpedafppdffoaaGreatDoorFSHM4
set_option linter.unusedSimpArgs false
set_option linter.unusedVariables false
set_option linter.unusedSectionVars false
set_option maxRecDepth 100000
namespace Go.Am.X
theorem Resp.step {H00 H0 H' H'' : Heap} {v : V} {kind st : Int} {hs : List Hd} {n : Nat} {cs : List V} {url : Bs} (h : Resp H0 H' v kind st hs n cs url) (hw : WF H') {i : Nat} (ho : Only i H' H'') (hi : i < H0.size) (hz : H00.size ≤ H0.size) : Resp H00 H'' v kind st hs n cs url := by
 obtain ⟨m, hvv, bv, h1, h2, h3, h4, h5⟩ := h.ex
 exact ⟨m, hvv, bv, h1, by omega, by rw [ho.size]; exact h3, h4.only ho (by omega), (h5.chg hw (ho.chg (P := fun j => j = i) rfl) (fun j _ h h' => by omega)).weaken ho.wf (fun j _ h => by omega)⟩
theorem Resp.gr {H0 H' H'' : Heap} {v : V} {kind st : Int} {hs : List Hd} {n : Nat} {cs : List V} {url : Bs} (h : Resp H0 H' v kind st hs n cs url) (hw : WF H') (hg : Gr H'.size H' H'') : Resp H0 H'' v kind st hs n cs url := by
 obtain ⟨m, hvv, bv, h1, h2, h3, h4, h5⟩ := h.ex
 exact ⟨m, hvv, bv, h1, h2, Nat.le_trans h3 hg.size, h4.gr hg hw (Nat.le_refl _), h5.chg hw hg.chg (P := fun i => H0.size ≤ i ∧ i < m) (Q := fun _ => False) (fun _ _ _ h => h)⟩
theorem Resp.cells {H0 H' : Heap} {v : V} {kind st : Int} {hs : List Hd} {n : Nat} {cs : List V} {url : Bs} (h : Resp H0 H' v kind st hs n cs url) : v.cells.length = 5 ∧ v.cells.all V.scal = true ∧ v = .agg v.cells := by
 obtain ⟨m, hvv, bv, rfl, _, _, h4, h5⟩ := h.ex
 have s1 := rdH_sc h4.rdH
 have s2 := h5.scal
 exact ⟨rfl, (by show (true && (true && (hvv.scal && (bv.scal && (true && true))))) = true; rw [s1.2, s2.2]; rfl), rfl⟩
abbrev RepArg (H : Heap) (hvr bvr : V) (hs : List Hd) (n : Nat) (cs : List V) : Prop := RdH H hvr hs ∧ Rd H 1 bvr n cs ∧ Src H bvr
theorem RepArg.gr {H H' : Heap} {hvr bvr : V} {hs : List Hd} {n : Nat} {cs : List V} (h : RepArg H hvr bvr hs n cs) (hg : Gr H.size H H') (hw : WF H) : RepArg H' hvr bvr hs n cs := ⟨h.1.gr hg hw (Nat.le_refl _), h.2.1.gr hg hw (Nat.le_refl _), h.2.2.gr hg hw (Nat.le_refl _)⟩
theorem s_filter_Own_ret (c c0 : CallK) {N : Nat} (hN : 9223372036854775807 < N) (hSh : ∀ k r u fv H τ q, c f_filter_shown [k, r, u, fv] H τ q = s_filter_shown c0 N k r u fv H τ q) (hL : NLowOk c0) (hC : CloneOk c0) (hO : ∀ v H τ q, c0 f_filter_Own_1 [v] H τ q = q (.bool true) H τ)
  (hs : List Hd) (hS : Small hs) (st : Int) (hvr bvr : V) (url : Bs) (H : Heap) (hw : WF H) {n : Nat} {cs : List V} (ha : RepArg H hvr bvr hs n cs) (hn : n ≤ 140737488355328) (τ : Tape) :
  ∃ v H' τ', Resp H H' v 2 st (hs.filter (shwB fun _ => true)) n cs url ∧ Gr H.size H H' ∧ ∀ q, s_filter_Own c N (.agg [.int .i64 st, hvr, bvr]) (.str url) H τ q = q v H' τ' := by
 obtain ⟨H1, a1, x1, g1, z1⟩ := newbox hw (.agg [.int .i64 st, hvr, bvr]) τ
 replace x1 : Bx H1 H.size [.int .i64 st, hvr, bvr] := x1
 obtain ⟨H4, a4, x4, g4, z4⟩ := newcell g1.wf [(.int .i64 (.ofNat 0)), (.int .i64 (.ofNat 0)), .nils, .nils, (.str [])] τ
 have g04 : Gr H.size H H4 := g1.trans g4 (by omega)
 have y4 := x1.gr g4 (by omega)
 have e3 : lLoadN 3 [.ptr H.size 0] H4 = some (.agg [.int .i64 st, hvr, bvr]) := bx_loads y4 rfl
 obtain ⟨hr, hb, hbs⟩ := ha.gr g04 hw
 obtain ⟨v, H5, τ5, r1, r2, r3⟩ := s_filter_shown_ret c0 hN hL hC (fun _ => true) (.func f_filter_Own_1 [] []) hs hS 2 st hvr bvr url H4 g04.wf hr hb hbs hn (fun x _ H' _ τ q => by simp only [opK, List.nil_append, List.append_nil, hO]) τ
 obtain ⟨c1, c2, c3⟩ := r1.cells
 obtain ⟨H6, s6, x6, o6⟩ := (x4.gr r2 (by omega)).eStore r2.wf 0 v 5 c1 (by simp) (by omega) c2 τ5
 rw [show ([(.int .i64 (.ofNat 0)), (.int .i64 (.ofNat 0)), .nils, .nils, (.str [])] : List V).drop (0 + 5) = [] from rfl, List.take_zero, List.nil_append, List.append_nil] at x6
 have e5 : lLoadN 5 [.ptr H1.size 0] H6 = some v := by rw [bx_loads x6 c1.symm, ← c3]
 have er : results ⟨T.set .leaf 4 (.ptr H1.size 0), H6⟩ [.cell 4 (some 5)] = some v := res_c (by simp [T.get_set]) e5
 have r3' : ∀ q, s_filter_shown c0 N (.int .i64 (.ofNat 2)) (.agg [.int .i64 st, hvr, bvr]) (.str url) (.func f_filter_Own_1 [] []) H4 τ q = q v H5 τ5 := r3
 refine ⟨v, H6, τ5, r1.step r2.wf o6 (by omega) (by omega), (g04.trans r2 (by omega)).trans (o6.gr (B := H.size) (by omega)) (Nat.le_refl _), fun q => ?_⟩
 simp only [s_filter_Own, a1, effK_n, a4, e3, someK_n, hSh, r3', s6, er]
def shN : List Bs := [[99, 97, 99, 104, 101, 45, 99, 111, 110, 116, 114, 111, 108], [99, 111, 110, 116, 101, 110, 116, 45, 108, 97, 110, 103, 117, 97, 103, 101], [99, 111, 110, 116, 101, 110, 116, 45, 108, 101, 110, 103, 116, 104], [99, 111, 110, 116, 101, 110, 116, 45, 116, 121, 112, 101], [101, 120, 112, 105, 114, 101, 115], [108, 97, 115, 116, 45, 109, 111, 100, 105, 102, 105, 101, 100], [112, 114, 97, 103, 109, 97]]
def toldB2 (al : Bool) (ns : List Bs) (x : Bs) : Bool := shN.contains x || (al || ns.contains x)
theorem s_filter_Share_1_ret (c : CallK) (N : Nat) (hC : ConSOk c) (x : Bs) {p r : Nat} {al : Bool} {nv : V} {ns : List Bs} {H : Heap} (hp : Bx H p [.bool al]) (hr : Bx H r [nv]) (hn : Rd H 1 nv ns.length (ns.map V.str)) (hl : ns.length < 1000000000) (τ : Tape) (q : KV) :
  s_filter_Share_1 c N (.str x) (.ptr p 0) (.ptr r 0) H τ q = q (.bool (toldB2 al ns x)) H τ := by
 have l1 : lLoad1 [.ptr p 0] H = some (.bool al) := bx_load hp rfl
 have l2 : lLoad1 [.ptr r 0] H = some nv := bx_load hr rfl
 have kc := fun τ q => hC x hl hn τ q
 have j0 : ∀ (fr : T V), fr.get 0 = some (.str x) → fr.get 1 = some (.ptr p 0) → fr.get 2 = some (.ptr r 0) → ∀ τ, s_filter_Share_1_j0 c N q ⟨fr, H⟩ τ = q (.bool (al || ns.contains x)) H τ := by
  intro fr f0 f1 f2 τ
  cases al with
  | true => simp only [s_filter_Share_1_j0, getK_mk f0, getK_mk f1, getK_mk f2, l1, getK_set, ↓reduceIte, Nat.reduceEqDiff, someK_n, effK_n, retK, gK_do, gK_do', gK_skip, gK_skip', gK_none, pick_mk, cond_true, cond_false, condK_tn, condK_fn, bin_eql, bin_neq, bin_lss, bin_leq, bin_gtr, bin_geq, un_not, Bool.not_true, Bool.not_false, bin_str, lenS_mk, nle_l, nle_r, nle_n, nlt_l, nlt_r, nlt_n, neq_r, neq_n, nne_r, nne_n, ext0, ext1, ext30, ext31, ext32, bin_add, bin_sub, decide_true, decide_false, Bool.true_or]
  | false => simp only [s_filter_Share_1_j0, getK_mk f0, getK_mk f1, getK_mk f2, l1, l2, getK_set, ↓reduceIte, Nat.reduceEqDiff, someK_n, effK_n, retK, gK_do, gK_do', gK_skip, gK_skip', gK_none, pick_mk, cond_true, cond_false, condK_tn, condK_fn, bin_eql, bin_neq, bin_lss, bin_leq, bin_gtr, bin_geq, un_not, Bool.not_true, Bool.not_false, bin_str, lenS_mk, nle_l, nle_r, nle_n, nlt_l, nlt_r, nlt_n, neq_r, neq_n, nne_r, nne_n, ext0, ext1, ext30, ext31, ext32, bin_add, bin_sub, decide_true, decide_false, kc, Bool.false_or]
 have j1 : ∀ (fr : T V) (b : Bool), fr.get 0 = some (.str x) → fr.get 1 = some (.ptr p 0) → fr.get 2 = some (.ptr r 0) → fr.get 6 = some (.bool b) → ∀ τ, s_filter_Share_1_j1 c N q ⟨fr, H⟩ τ = q (.bool (b || (al || ns.contains x))) H τ := by
  intro fr b f0 f1 f2 f6 τ
  cases b with
  | true => simp only [s_filter_Share_1_j1, getK_mk f0, getK_mk f1, getK_mk f2, getK_mk f6, condK_tn, Bool.true_or]
  | false =>
   simp only [s_filter_Share_1_j1, getK_mk f0, getK_mk f1, getK_mk f2, getK_mk f6, condK_fn, Bool.false_or]
   exact j0 _ (by simp [T.get_set]) (by simp [T.get_set]) (by simp [T.get_set]) τ
 have ht : toldB2 al ns x = ((x == [99, 97, 99, 104, 101, 45, 99, 111, 110, 116, 114, 111, 108] || (x == [99, 111, 110, 116, 101, 110, 116, 45, 108, 97, 110, 103, 117, 97, 103, 101] || (x == [99, 111, 110, 116, 101, 110, 116, 45, 108, 101, 110, 103, 116, 104] || (x == [99, 111, 110, 116, 101, 110, 116, 45, 116, 121, 112, 101] || (x == [101, 120, 112, 105, 114, 101, 115] || (x == [108, 97, 115, 116, 45, 109, 111, 100, 105, 102, 105, 101, 100] || (x == [112, 114, 97, 103, 109, 97]))))))) || (al || ns.contains x)) := by
  unfold toldB2 shN
  simp only [List.contains_cons, List.contains_nil, Bool.or_false]
 rw [ht]
 have e1 : strBin .eql x (bs [99, 97, 99, 104, 101, 45, 99, 111, 110, 116, 114, 111, 108]) = some (.bool (x == [99, 97, 99, 104, 101, 45, 99, 111, 110, 116, 114, 111, 108])) := str_eql _ _
 have e2 : strBin .eql x (bs [99, 111, 110, 116, 101, 110, 116, 45, 108, 97, 110, 103, 117, 97, 103, 101]) = some (.bool (x == [99, 111, 110, 116, 101, 110, 116, 45, 108, 97, 110, 103, 117, 97, 103, 101])) := str_eql _ _
 have e3 : strBin .eql x (bs [99, 111, 110, 116, 101, 110, 116, 45, 108, 101, 110, 103, 116, 104]) = some (.bool (x == [99, 111, 110, 116, 101, 110, 116, 45, 108, 101, 110, 103, 116, 104])) := str_eql _ _
 have e4 : strBin .eql x (bs [99, 111, 110, 116, 101, 110, 116, 45, 116, 121, 112, 101]) = some (.bool (x == [99, 111, 110, 116, 101, 110, 116, 45, 116, 121, 112, 101])) := str_eql _ _
 have e5 : strBin .eql x (bs [101, 120, 112, 105, 114, 101, 115]) = some (.bool (x == [101, 120, 112, 105, 114, 101, 115])) := str_eql _ _
 have e6 : strBin .eql x (bs [108, 97, 115, 116, 45, 109, 111, 100, 105, 102, 105, 101, 100]) = some (.bool (x == [108, 97, 115, 116, 45, 109, 111, 100, 105, 102, 105, 101, 100])) := str_eql _ _
 have e7 : strBin .eql x (bs [112, 114, 97, 103, 109, 97]) = some (.bool (x == [112, 114, 97, 103, 109, 97])) := str_eql _ _
 cases h1 : (x == ([99, 97, 99, 104, 101, 45, 99, 111, 110, 116, 114, 111, 108] : Bs)) with
 | true =>
  simp only [s_filter_Share_1, bin_str, someK_n, e1, h1, condK_tn, condK_fn]
  rw [j1 _ true (by simp [T.get_set]) (by simp [T.get_set]) (by simp [T.get_set]) (by simp [T.get_set])]
  simp
 | false =>
  cases h2 : (x == ([99, 111, 110, 116, 101, 110, 116, 45, 108, 97, 110, 103, 117, 97, 103, 101] : Bs)) with
  | true =>
   simp only [s_filter_Share_1, bin_str, someK_n, e1, h1, e2, h2, condK_tn, condK_fn]
   rw [j1 _ true (by simp [T.get_set]) (by simp [T.get_set]) (by simp [T.get_set]) (by simp [T.get_set])]
   simp
  | false =>
   cases h3 : (x == ([99, 111, 110, 116, 101, 110, 116, 45, 108, 101, 110, 103, 116, 104] : Bs)) with
   | true =>
    simp only [s_filter_Share_1, bin_str, someK_n, e1, h1, e2, h2, e3, h3, condK_tn, condK_fn]
    rw [j1 _ true (by simp [T.get_set]) (by simp [T.get_set]) (by simp [T.get_set]) (by simp [T.get_set])]
    simp
   | false =>
    cases h4 : (x == ([99, 111, 110, 116, 101, 110, 116, 45, 116, 121, 112, 101] : Bs)) with
    | true =>
     simp only [s_filter_Share_1, bin_str, someK_n, e1, h1, e2, h2, e3, h3, e4, h4, condK_tn, condK_fn]
     rw [j1 _ true (by simp [T.get_set]) (by simp [T.get_set]) (by simp [T.get_set]) (by simp [T.get_set])]
     simp
    | false =>
     cases h5 : (x == ([101, 120, 112, 105, 114, 101, 115] : Bs)) with
     | true =>
      simp only [s_filter_Share_1, bin_str, someK_n, e1, h1, e2, h2, e3, h3, e4, h4, e5, h5, condK_tn, condK_fn]
      rw [j1 _ true (by simp [T.get_set]) (by simp [T.get_set]) (by simp [T.get_set]) (by simp [T.get_set])]
      simp
     | false =>
      cases h6 : (x == ([108, 97, 115, 116, 45, 109, 111, 100, 105, 102, 105, 101, 100] : Bs)) with
      | true =>
       simp only [s_filter_Share_1, bin_str, someK_n, e1, h1, e2, h2, e3, h3, e4, h4, e5, h5, e6, h6, condK_tn, condK_fn]
       rw [j1 _ true (by simp [T.get_set]) (by simp [T.get_set]) (by simp [T.get_set]) (by simp [T.get_set])]
       simp
      | false =>
       simp only [s_filter_Share_1, bin_str, someK_n, e1, h1, e2, h2, e3, h3, e4, h4, e5, h5, e6, h6, e7, condK_fn]
       rw [j1 _ _ (by simp [T.get_set]) (by simp [T.get_set]) (by simp [T.get_set]) (by simp [T.get_set]; rfl)]
       simp
end Go.Am.X

namespace Go.Am.X
def expNs (hs : List Hd) (cred : Bool) : List Bs := bif expAll hs cred then [] else srtT (expL (splitT expN hs))
theorem expNs_len {hs : List Hd} (hg : (getT expN hs).length ≤ 900000) (cred : Bool) : (expNs hs cred).length < 1000000 := by
 unfold expNs
 cases expAll hs cred with
 | true => simp
 | false =>
  rw [cond_false]
  have h1 := (srtT_ok (expL (splitT expN hs))).2.2
  have h2 := expL_len (splitT expN hs)
  have h3 := (split_ok hg).1
  omega
theorem k_Exposed {c : CallK} {f : Nat} (h : IsP c f (RH ExpPre ExpG)) {hs : List Hd} (hS : Small hs) (hg : (getT expN hs).length ≤ 900000) (cred : Bool) {lv : V} {H : Heap} (hw : WF H) (hr : RdH H lv hs) (τ : Tape) :
  ∃ nv H' τ', Own H' H.size 1 nv (expNs hs cred).length ((expNs hs cred).map V.str) ∧ Gr H.size H H' ∧ ∀ q, c f [lv, .bool cred] H τ q = q (.tup [nv, .bool (expAll hs cred)]) H' τ' := by
 unfold expNs
 cases ha : expAll hs cred with
 | true => exact ⟨.nils, H, τ, Own.nil _ _ _, Gr.refl hw, fun q => k_Exposed_all h hS hg ha hr τ q⟩
 | false => exact k_Exposed_some h hS hg ha hw hr τ
def shF (hs : List Hd) (cred : Bool) : Bs → Bool := toldB2 (expAll hs cred) (expNs hs cred)
theorem s_filter_Share_ret (c c0 : CallK) {N : Nat} (hN : 9223372036854775807 < N) (hSh : ∀ k r u fv H τ q, c f_filter_shown [k, r, u, fv] H τ q = s_filter_shown c0 N k r u fv H τ q) (hE : IsP c f_cors_Exposed (RH ExpPre ExpG)) (hL : NLowOk c0) (hC : CloneOk c0)
  (hO : ∀ (x : Bs) {p r : Nat} {al : Bool} {nv : V} {ns : List Bs} {H : Heap}, Bx H p [.bool al] → Bx H r [nv] → Rd H 1 nv ns.length (ns.map V.str) → ns.length < 1000000000 → ∀ τ q, c0 f_filter_Share_1 [.str x, .ptr p 0, .ptr r 0] H τ q = q (.bool (toldB2 al ns x)) H τ)
  (hs : List Hd) (hS : Small hs) (hg : (getT expN hs).length ≤ 900000) (cred : Bool) (st : Int) (hvr bvr : V) (url : Bs) (H : Heap) (hw : WF H) {n : Nat} {cs : List V} (ha : RepArg H hvr bvr hs n cs) (hn : n ≤ 140737488355328) (τ : Tape) :
  ∃ v H' τ', Resp H H' v 3 st (hs.filter (shwB (shF hs cred))) n cs url ∧ Gr H.size H H' ∧ ∀ q, s_filter_Share c N (.agg [.int .i64 st, hvr, bvr]) (.str url) (.bool cred) H τ q = q v H' τ' := by
 obtain ⟨H1, a1, x1, g1, z1⟩ := newbox hw (.agg [.int .i64 st, hvr, bvr]) τ
 replace x1 : Bx H1 H.size [.int .i64 st, hvr, bvr] := x1
 obtain ⟨H4, a4, x4, g4, z4⟩ := newcell g1.wf [(.int .i64 (.ofNat 0)), (.int .i64 (.ofNat 0)), .nils, .nils, (.str [])] τ
 have g04 : Gr H.size H H4 := g1.trans g4 (by omega)
 have y4 := x1.gr g4 (by omega)
 have e1 : lLoad1 [.ptr H.size (0 + 1)] H4 = some hvr := bx_load y4 rfl
 obtain ⟨nv, H9, τ9, o1, g9, k9⟩ := k_Exposed hE hS hg cred g04.wf (ha.gr g04 hw).1 τ
 have z9 := g9.size
 have nsc := rd_sc o1.rd
 obtain ⟨H14, a14, x14, g14, z14⟩ := newcell g9.wf [.nils] τ9
 obtain ⟨H17, a17, x17, g17, z17⟩ := newcell g14.wf [.bool false] τ9
 have w17 := x14.gr g17 (by omega)
 obtain ⟨H20, s20, x20, o20⟩ := w17.eStore g17.wf 0 nv 1 (by rw [nsc.1]; rfl) (by simp) (by omega) (by rw [nsc.1]; simp [nsc.2]) τ9
 replace x20 : Bx H20 H9.size [nv] := by rw [nsc.1] at x20; exact x20
 have w20 := x17.only o20 (by omega)
 have z20 : H20.size = H17.size := o20.size
 obtain ⟨H23, s23, x23, o23⟩ := w20.eStore o20.wf 0 (.bool (expAll hs cred)) 1 rfl (by simp) (by omega) rfl τ9
 replace x23 : Bx H23 H14.size [.bool (expAll hs cred)] := x23
 have w23 := x20.only o23 (by omega)
 have z23 : H23.size = H20.size := o23.size
 have g923 : Gr H9.size H9 H23 := (((g14.trans g17 (by omega)).trans (o20.gr (B := H9.size) (by omega)) (Nat.le_refl _)).trans (o23.gr (B := H9.size) (by omega)) (Nat.le_refl _))
 have g023 : Gr H.size H H23 := (g04.trans g9 (by omega)).trans g923 (by omega)
 have y23 := (y4.gr g9 (by omega)).gr g923 (by omega)
 have r23 := (x4.gr g9 (by omega)).gr g923 (by omega)
 have e3 : lLoadN 3 [.ptr H.size 0] H23 = some (.agg [.int .i64 st, hvr, bvr]) := bx_loads y23 rfl
 have n23 : Rd H23 1 nv (expNs hs cred).length ((expNs hs cred).map V.str) := o1.rd.gr g923 g9.wf (Nat.le_refl _)
 obtain ⟨hr, hb, hbs⟩ := ha.gr g023 hw
 have hnl := expNs_len hg cred
 obtain ⟨v, H5, τ5, r1, r2, r3⟩ := s_filter_shown_ret c0 hN hL hC (shF hs cred) (.func f_filter_Share_1 [] [.ptr H14.size 0, .ptr H9.size 0]) hs hS 3 st hvr bvr url H23 g023.wf hr hb hbs hn
  (fun x _ H' hg' τ q => by
   simp only [opK, List.nil_append, List.cons_append]
   exact hO x (x23.gr hg' (by omega)) (w23.gr hg' (by omega)) (n23.gr hg' g023.wf (Nat.le_refl _)) (by omega) τ q) τ9
 obtain ⟨c1, c2, c3⟩ := r1.cells
 obtain ⟨H6, s6, x6, o6⟩ := (r23.gr r2 (by omega)).eStore r2.wf 0 v 5 c1 (by simp) (by omega) c2 τ5
 rw [show ([(.int .i64 (.ofNat 0)), (.int .i64 (.ofNat 0)), .nils, .nils, (.str [])] : List V).drop (0 + 5) = [] from rfl, List.take_zero, List.nil_append, List.append_nil] at x6
 have e5 : lLoadN 5 [.ptr H1.size 0] H6 = some v := by rw [bx_loads x6 c1.symm, ← c3]
 have er : results ⟨T.set .leaf 6 (.ptr H1.size 0), H6⟩ [.cell 6 (some 5)] = some v := res_c (by simp [T.get_set]) e5
 have r3' : ∀ q, s_filter_shown c0 N (.int .i64 (.ofNat 3)) (.agg [.int .i64 st, hvr, bvr]) (.str url) (.func f_filter_Share_1 [] [.ptr H14.size 0, .ptr H9.size 0]) H23 τ9 q = q v H5 τ5 := r3
 refine ⟨v, H6, τ5, r1.step r2.wf o6 (by omega) (by omega), (g023.trans r2 (by omega)).trans (o6.gr (B := H.size) (by omega)) (Nat.le_refl _), fun q => ?_⟩
 have x0 : pExtract 0 [.tup [nv, .bool (expAll hs cred)]] = some nv := rfl
 have x1' : pExtract 1 [.tup [nv, .bool (expAll hs cred)]] = some (.bool (expAll hs cred)) := rfl
 have eT : List.take 0 [V.ptr H14.size 0, V.ptr H9.size 0] = [] := rfl
 have eD : List.drop 0 [V.ptr H14.size 0, V.ptr H9.size 0] = [.ptr H14.size 0, .ptr H9.size 0] := rfl
 simp only [s_filter_Share, a1, effK_n, a4, fa_ptr, e1, k9, x0, x1', a14, a17, s20, s23, e3, eT, eD, someK_n, hSh, r3', s6, er]
end Go.Am.X

namespace Go.Am.X
theorem same_rd {H : Heap} {v : V} {z n : Nat} {cs : List V} (hb : Rd H z v n cs) : same v v = true := by
 apply same1_self
 rcases hb with ⟨rfl | ⟨id, off, lo, ex, rfl⟩, _, _⟩ | ⟨id, off, lo, ex, all, rfl, _⟩
 ·exact .inr (.inr (.inr (.inl rfl)))
 ·exact .inr (.inr (.inr (.inr (.inl ⟨_, _, _, _, _, _, rfl⟩))))
 ·exact .inr (.inr (.inr (.inr (.inl ⟨_, _, _, _, _, _, rfl⟩))))
abbrev CookOk (c : CallK) : Prop := ∀ (h : Hd), h.1.length ≤ 140737488355328 → ∀ {H : Heap}, WF H → ∀ τ, ∃ H', Gr H.size H H' ∧ ∀ q, c f_ref20_cookies [hv h] H τ q = q (.bool (cookB h.1)) H' τ
theorem s_ref20_cookies_ret (c : CallK) (N : Nat) (hL : RLowOk c) (h : Hd) (hl : h.1.length ≤ 140737488355328) {H : Heap} (hw : WF H) (τ : Tape) : ∃ H', Gr H.size H H' ∧ ∀ q, s_ref20_cookies c N (hv h) H τ q = q (.bool (cookB h.1)) H' τ := by
 obtain ⟨H1, a1, x1, g1, z1⟩ := newbox hw (hv h) τ
 replace x1 : Bx H1 H.size [.str h.1, .str h.2] := x1
 have l1 : lLoad1 [.ptr H.size (0 + 0)] H1 = some (.str h.1) := bx_load x1 rfl
 have n1 : strBin .eql (lower h.1) (bs [115, 101, 116, 45, 99, 111, 111, 107, 105, 101]) = some (.bool (lower h.1 == scN)) := str_eql _ _
 have n2 : strBin .eql (lower h.1) (bs [115, 101, 116, 45, 99, 111, 111, 107, 105, 101, 50]) = some (.bool (lower h.1 == sc2)) := str_eql _ _
 refine ⟨H1, g1, fun q => ?_⟩
 unfold cookB
 cases h1 : (lower h.1 == scN) with
 | true => simp only [s_ref20_cookies, a1, effK_n, fa_ptr, l1, hL h.1 hl, getK_set, ↓reduceIte, Nat.reduceEqDiff, someK_n, effK_n, retK, gK_do, gK_do', gK_skip, gK_skip', gK_none, pick_mk, cond_true, cond_false, condK_tn, condK_fn, bin_eql, bin_neq, bin_lss, bin_leq, bin_gtr, bin_geq, un_not, Bool.not_true, Bool.not_false, bin_str, lenS_mk, nle_l, nle_r, nle_n, nlt_l, nlt_r, nlt_n, neq_r, neq_n, nne_r, nne_n, ext0, ext1, ext30, ext31, ext32, bin_add, bin_sub, decide_true, decide_false, n1, h1, Bool.true_or]
 | false => simp only [s_ref20_cookies, a1, effK_n, fa_ptr, l1, hL h.1 hl, getK_set, ↓reduceIte, Nat.reduceEqDiff, someK_n, effK_n, retK, gK_do, gK_do', gK_skip, gK_skip', gK_none, pick_mk, cond_true, cond_false, condK_tn, condK_fn, bin_eql, bin_neq, bin_lss, bin_leq, bin_gtr, bin_geq, un_not, Bool.not_true, Bool.not_false, bin_str, lenS_mk, nle_l, nle_r, nle_n, nlt_l, nlt_r, nlt_n, neq_r, neq_n, nne_r, nne_n, ext0, ext1, ext30, ext31, ext32, bin_add, bin_sub, decide_true, decide_false, n1, h1, n2, Bool.false_or]
def keptB (h : Hd) : Bool := !cookB h.1
theorem l_ref20_Own (c : CallK) (N : Nat) (hK : CookOk c) (hs : List Hd) (hS : Small hs) (st : Int) (lv bvr : V) {o B b : Nat} (hbo : b < o) (hoB : o < B) (rp k0 k1 bv uv : V) (B0 : Nat) (H0 : Heap) (ho : B0 ≤ o) (hrd : ∀ H, Gr B0 H0 H → RdH H lv hs) : ∀ (l pre : List Hd) (hvv : V) (H : Heap) (τ : Tape) (M : Nat), hs = pre ++ l → l.length < M → WF H → Gr B0 H0 H → B ≤ H.size →
  Bx H b [.int .i64 st, lv, bvr] → Bx H o [k0, k1, hvv, bv, uv] → LsH H B hvv (pre.filter keptB) →
  ∃ hv' H' τ', Bx H' o [k0, k1, hv', bv, uv] ∧ LsH H' B hv' (hs.filter keptB) ∧ Gr o H H' ∧ ∀ (fr : T V) k, fr.get 2 = some (.ptr b 0) → fr.get 4 = some rp → fr.get 5 = some (.ptr o 0) → fr.get 6 = some (.int .i64 (pre.length : Int)) →
   loopK (s_ref20_Own_l1 c N) M ⟨fr, H⟩ τ k = k (.exit 0) ⟨(T.set (T.set .leaf 4 rp) 5 (.ptr o 0)), H'⟩ τ' := by
 intro l
 have fa1 : pFieldAddr 1 [.ptr b 0] = some (.ptr b 1) := rfl
 have fa2 : pFieldAddr 2 [.ptr o 0] = some (.ptr o 2) := rfl
 induction l with
 | nil =>
  intro pre hvv H τ M he hM hw hg hB hx0 hx hl
  obtain ⟨M, rfl⟩ : ∃ j, M = j + 1 := ⟨M - 1, by omega⟩
  have hr := hrd H hg
  have hp : hs = pre := by rw [he, List.append_nil]
  have e1 : decide (pre.length < hs.length) = false := decide_eq_false (by rw [hp]; simp)
  have l0 : lLoad1 [.ptr b 1] H = some lv := bx_load hx0 rfl
  have pl := hr.1.pLen
  refine ⟨hvv, H, τ, hx, by rw [hp]; exact hl, Gr.refl hw, fun fr k f2 f4 f5 f6 => ?_⟩
  rw [loopK_succ]
  simp only [s_ref20_Own_l1, getK_mk f2, getK_mk f4, getK_mk f5, getK_mk f6, fa1, l0, pl, getK_set, ↓reduceIte, Nat.reduceEqDiff, someK_n, effK_n, retK, gK_do, gK_do', gK_skip, gK_skip', gK_none, pick_mk, cond_true, cond_false, condK_tn, condK_fn, bin_eql, bin_neq, bin_lss, bin_leq, bin_gtr, bin_geq, un_not, Bool.not_true, Bool.not_false, bin_str, lenS_mk, nle_l, nle_r, nle_n, nlt_l, nlt_r, nlt_n, neq_r, neq_n, nne_r, nne_n, ext0, ext1, ext30, ext31, ext32, bin_add, bin_sub, decide_true, decide_false, e1]
  rfl
 | cons x l ih =>
  intro pre hvv H τ M he hM hw hg hB hx0 hx hl
  obtain ⟨M, rfl⟩ : ∃ j, M = j + 1 := ⟨M - 1, by omega⟩
  have hr := hrd H hg
  have hlt : pre.length < hs.length := by rw [he]; simp
  have hle := hS.len
  have e1 : decide (pre.length < hs.length) = true := decide_eq_true hlt
  have e3 : wr .i64 ((pre.length : Int) + Int.ofNat 1) = ((pre ++ [x]).length : Int) := by rw [adI (by omega)]; simp
  have l0 : lLoad1 [.ptr b 1] H = some lv := bx_load hx0 rfl
  have pl := hr.1.pLen
  obtain ⟨id, off, p1, p2⟩ := hd_at (v := lv) pre x l (H := H) (by rw [← he]; exact hr.1)
  have hxs := hS.all x (by rw [he]; simp)
  obtain ⟨q1, _, _⟩ := p2 H (by rw [← he]; exact hr.1)
  obtain ⟨H2, g2, k2⟩ := hK x (by omega) hw τ
  have z2 := g2.size
  have hr2 := hr.gr g2 hw (Nat.le_refl _)
  have y2 := hx0.gr g2 (by have := hx0.lt hw; omega)
  have x2 := hx.gr g2 (by omega)
  have l2h := hl.gr g2 hw (Nat.le_refl _)
  have l2 : lLoad1 [.ptr b 1] H2 = some lv := bx_load y2 rfl
  obtain ⟨q2, _, _⟩ := p2 H2 (by rw [← he]; exact hr2.1)
  have lo := bx_load x2 (k := 2) rfl
  cases hsh : cookB x.1 with
  | true =>
   obtain ⟨hv', H', τ', i1, i2, i3, i4⟩ := ih (pre ++ [x]) hvv H2 τ M (by rw [he]; simp) (by simp at hM; omega) g2.wf (hg.trans g2 (by omega)) (by omega) y2 x2 (by rw [filter_snoc, if_neg (by unfold keptB; rw [hsh]; simp)]; exact l2h)
   refine ⟨hv', H', τ', i1, i2, (g2.weaken (by omega)).trans i3 (Nat.le_refl _), fun fr k f2 f4 f5 f6 => ?_⟩
   rw [loopK_succ]
   simp only [s_ref20_Own_l1, getK_mk f2, getK_mk f4, getK_mk f5, getK_mk f6, fa1, l0, pl, getK_set, ↓reduceIte, Nat.reduceEqDiff, someK_n, effK_n, retK, gK_do, gK_do', gK_skip, gK_skip', gK_none, pick_mk, cond_true, cond_false, condK_tn, condK_fn, bin_eql, bin_neq, bin_lss, bin_leq, bin_gtr, bin_geq, un_not, Bool.not_true, Bool.not_false, bin_str, lenS_mk, nle_l, nle_r, nle_n, nlt_l, nlt_r, nlt_n, neq_r, neq_n, nne_r, nne_n, ext0, ext1, ext30, ext31, ext32, bin_add, bin_sub, decide_true, decide_false, e1, p1, q1, k2, hsh, s_ref20_Own_j2, e3]
   exact i4 _ k (by simp [T.get_set]) (by simp [T.get_set]) (by simp [T.get_set]) (by simp [T.get_set])
  | false =>
   have hlen : (pre.filter keptB).length ≤ 1000000 := by
    have := List.length_filter_le keptB pre
    omega
   obtain ⟨w, H3, v', H4, τ4, r1, r2, r3, r4, _, r6⟩ := l2h.put g2.wf (by omega) x hlen τ
   have x4 : Bx H4 o [k0, k1, hvv, bv, uv] := x2.gr r4 hoB
   have lo3 : lLoad1 [.ptr o 2] H3 = some hvv := load_cell (r6 _ _ x2.cells) rfl
   have sm := same_rd l2h.rdH.1
   have hc : chkLoads [H2, H3, H4] (((.load none), [.ptr o 2], 0, 1) :: []) = true := by
    simp [chkLoads, evalL, lLoad, lo, lo3, chk1, sm]
   have sc := rdH_sc r3.rdH
   obtain ⟨H5, s4, s5, s6⟩ := x4.eStore r4.wf 2 v' 1 (by rw [sc.1]; rfl) (by simp) (by omega) (by rw [sc.1]; simp [sc.2]) τ4
   have s5' : Bx H5 o [k0, k1, v', bv, uv] := by rw [sc.1] at s5; exact s5
   have hc5 : chkLoads [H2, H3, H4, H5] (((.load none), [.ptr o 2], 0, 1) :: []) = true := by
    simp [chkLoads, evalL, lLoad, lo, lo3, chk1, sm]
   have r5 := r3.only s6 hoB
   have g5 : Gr o H H5 := ((g2.weaken (B := o) (by omega)).trans (r4.weaken (B := o) (by omega)) (Nat.le_refl _)).trans (s6.gr (Nat.le_refl _)) (Nat.le_refl _)
   have z5 := g5.size
   obtain ⟨hv', H', τ', i1, i2, i3, i4⟩ := ih (pre ++ [x]) v' H5 τ4 M (by rw [he]; simp) (by simp at hM; omega) g5.wf (hg.trans g5 ho) (by omega) (hx0.gr g5 hbo) s5' (by rw [filter_snoc, if_pos (by unfold keptB; rw [hsh]; rfl)]; exact r5)
   refine ⟨hv', H', τ', i1, i2, g5.trans i3 (Nat.le_refl _), fun fr k f2 f4 f5 f6 => ?_⟩
   rw [loopK_succ]
   simp only [s_ref20_Own_l1, getK_mk f2, getK_mk f4, getK_mk f5, getK_mk f6, fa1, l0, pl, getK_set, ↓reduceIte, Nat.reduceEqDiff, someK_n, effK_n, retK, gK_do, gK_do', gK_skip, gK_skip', gK_none, pick_mk, cond_true, cond_false, condK_tn, condK_fn, bin_eql, bin_neq, bin_lss, bin_leq, bin_gtr, bin_geq, un_not, Bool.not_true, Bool.not_false, bin_str, lenS_mk, nle_l, nle_r, nle_n, nlt_l, nlt_r, nlt_n, neq_r, neq_n, nne_r, nne_n, ext0, ext1, ext30, ext31, ext32, bin_add, bin_sub, decide_true, decide_false, e1, p1, q1, k2, hsh, fa2, lo, l2, q2, r1, r2, s4, hc5, s_ref20_Own_j2, e3]
   exact i4 _ k (by simp [T.get_set]) (by simp [T.get_set]) (by simp [T.get_set]) (by simp [T.get_set])
end Go.Am.X

namespace Go.Am.X
theorem s_ref20_Own_ret (c : CallK) {N : Nat} (hN : 9223372036854775807 < N) (hK : CookOk c) (hs : List Hd) (hS : Small hs) (st : Int) (hvr bvr : V) (url : Bs) (H : Heap) (hw : WF H) {n : Nat} {cs : List V} (ha : RepArg H hvr bvr hs n cs) (hn : n ≤ 140737488355328) (τ : Tape) :
  ∃ v H' τ', Resp H H' v 2 st (hs.filter keptB) n cs url ∧ Gr H.size H H' ∧ ∀ q, s_ref20_Own c N (.agg [.int .i64 st, hvr, bvr]) (.str url) H τ q = q v H' τ' := by
 obtain ⟨H1, a1, x1, g1, z1⟩ := newbox hw (.agg [.int .i64 st, hvr, bvr]) τ
 replace x1 : Bx H1 H.size [.int .i64 st, hvr, bvr] := x1
 obtain ⟨H4, a4, x4, g4, z4⟩ := newcell g1.wf [(.int .i64 (.ofNat 0)), (.int .i64 (.ofNat 0)), .nils, .nils, (.str [])] τ
 have g04 : Gr H.size H H4 := g1.trans g4 (by omega)
 have y4 := x1.gr g4 (by omega)
 have eb : eBuildSlice 0 1 [] [] [] H4 τ = some (.sl H4.size 0 0 0 none 1, H4.new [] 0 false, τ) := rfl
 have g9 : Gr H4.size H4 (H4.new [] 0 false) := Gr.new g04.wf _ _ _
 have y9 := y4.gr g9 (by omega)
 obtain ⟨bv', H5, τ5, r1, c1, c2⟩ := clone1 g04.wf (ha.gr g04 hw).2.1 (ha.gr g04 hw).2.2 hn τ
 generalize H4.new [] 0 false = H9 at eb g9 y9 r1
 have z5 := c2.size
 have y5 := y4.gr c2 (by omega)
 have x5 := x4.gr c2 (by omega)
 have pb : pBuild [(.int .i64 (.ofNat 0)), (.int .i64 (.ofNat 0)), .nils, .nils, (.str [])] [(0, 1), (1, 1), (3, 1), (4, 1)] [.int .i64 (.ofNat 2), .int .i64 st, bv', .str url] = some (.agg [.int .i64 2, .int .i64 st, .nils, bv', .str url]) := by
  rcases c1 with ⟨rfl, _⟩ | ⟨id, lo, ex, room, fam, ver, pl, st', fr, rfl, _⟩ <;> rfl
 have sb := c1.scal
 obtain ⟨H6, H7, a6, s6, x7, g7, z7, g6⟩ := newvar c2.wf [(.int .i64 (.ofNat 0)), (.int .i64 (.ofNat 0)), .nils, .nils, (.str [])] (.agg [.int .i64 2, .int .i64 st, .nils, bv', .str url]) 5 rfl rfl (by omega) (by show (true && (true && (true && (bv'.scal && (true && true))))) = true; rw [sb.2]; rfl) τ5
 replace x7 : Bx H7 H5.size [.int .i64 2, .int .i64 st, .nils, bv', .str url] := x7
 have y6 := y5.gr g6 (by omega)
 have y7 := y5.gr g7 (by omega)
 have w7 := x5.gr g7 (by omega)
 have g07 : Gr H.size H H7 := (g04.trans c2 (by omega)).trans g7 (by omega)
 have ls : ∀ {H' : Heap}, Bx H' H.size [.int .i64 st, hvr, bvr] → lLoad1 [.ptr H.size (0 + 0)] H' = some (.int .i64 st) ∧ lLoad1 [.ptr H.size (0 + 1)] H' = some hvr ∧ lLoad1 [.ptr H.size (0 + 2)] H' = some bvr := fun h => ⟨bx_load h rfl, bx_load h rfl, bx_load h rfl⟩
 have hsame : same bvr bvr = true := same_rd ha.2.1
 have hc : chkLoads [H4, H9, H5, H6, H7] (((.load none), [.ptr H.size (0 + 2)], 0, 2) :: (((.load none), [.ptr H.size (0 + 0)], 0, 3) :: [])) = true := by
  simp [chkLoads, chk1, hsame, ls y4, ls y9, ls y5, ls y6, evalL, lLoad]
  simp [same, same1, same0]
 obtain ⟨hv', H8, τ8, i1, i2, i3, i4⟩ := l_ref20_Own c N hK hs hS st hvr bvr (o := H5.size) (B := H7.size) (b := H.size) (by omega) (by omega) (.ptr H1.size 0) (.int .i64 2) (.int .i64 st) bv' (.str url) H.size H (by omega) (fun H' hg => ha.1.gr hg hw (Nat.le_refl _)) hs [] .nils H7 τ5 N rfl (by have := hS.len; omega) g7.wf g07 (Nat.le_refl _) y7 x7 (LsH.nil _ _)
 have w8 := w7.gr i3 (by omega)
 have hsc := rdH_sc i2.rdH
 obtain ⟨H10, s9, x9, o9⟩ := w8.eStore i3.wf 0 (.agg [.int .i64 2, .int .i64 st, hv', bv', .str url]) 5 rfl (by simp) (by omega) (by show (true && (true && (hv'.scal && (bv'.scal && (true && true))))) = true; rw [sb.2, hsc.2]; rfl) τ8
 replace x9 : Bx H10 H1.size [.int .i64 2, .int .i64 st, hv', bv', .str url] := x9
 have z8 := i3.size
 have z9 : H10.size = H8.size := o9.size
 refine ⟨.agg [.int .i64 2, .int .i64 st, hv', bv', .str url], H10, τ8, ⟨H7.size, hv', bv', rfl, by omega, by omega, i2.only o9 (by omega), ?_⟩, (g07.trans i3 (by omega)).trans (o9.gr (B := H.size) (by omega)) (Nat.le_refl _), fun q => ?_⟩
 ·have b7 : BodP (fun i => H4.size ≤ i ∧ i < H5.size) H5 bv' n cs := c1.weaken c2.wf (fun i hi h => ⟨h, hi⟩)
  have b8 := b7.chg c2.wf ((gr_chgO g7).trans ((gr_chgO i3).weaken (Q := fun i => H5.size ≤ i) (fun i _ h => h)) (fun i _ h => h)) (fun i _ h h' => by omega)
  have b9 := b8.chg i3.wf (o9.chg (P := fun i => i = H1.size) rfl) (fun i _ h h' => by omega)
  exact b9.weaken o9.wf (fun i _ h => by omega)
 ·have e1 : lLoadN 5 [.ptr H5.size 0] H8 = some (.agg [.int .i64 2, .int .i64 st, hv', bv', .str url]) := bx_loads i1 rfl
  have er : results ⟨T.set .leaf 4 (.ptr H1.size 0), H10⟩ [.cell 4 (some 5)] = some (.agg [.int .i64 2, .int .i64 st, hv', bv', .str url]) := res_c (by simp [T.get_set]) (bx_loads x9 rfl)
  simp only [s_ref20_Own, a1, effK_n, a4, fa_ptr, (ls y4).1, (ls y9).2.2, eb, r1, someK_n, pb, a6, s6, hc, cond_true]
  rw [i4 _ _ (by simp [T.get_set]) (by simp [T.get_set]) (by simp [T.get_set]) (by simp [T.get_set])]
  simp only [blockK, Nat.beq_refl, cond_true, seqK, s_ref20_Own_j0, getK_set, ↓reduceIte, Nat.reduceEqDiff, someK_n, effK_n, retK, gK_do, gK_do', gK_skip, gK_skip', gK_none, pick_mk, cond_true, cond_false, condK_tn, condK_fn, bin_eql, bin_neq, bin_lss, bin_leq, bin_gtr, bin_geq, un_not, Bool.not_true, Bool.not_false, bin_str, lenS_mk, nle_l, nle_r, nle_n, nlt_l, nlt_r, nlt_n, neq_r, neq_n, nne_r, nne_n, ext0, ext1, ext30, ext31, ext32, bin_add, bin_sub, decide_true, decide_false, e1, s9, er]
abbrev Qo (o B : Nat) : Nat → Prop := fun i => i = o ∨ B ≤ i
theorem qo_gr {o B : Nat} {H H' : Heap} (h : Gr B H H') : Chg (Qo o B) H H' := ⟨h.wf, h.size, fun id _ hp => h.blk id (by unfold Qo at hp; omega), fun f _ hp => h.fams f (by unfold Qo at hp; omega)⟩
theorem qo_only {o B : Nat} {H H' : Heap} (h : Only o H H') : Chg (Qo o B) H H' := h.chg (P := Qo o B) (.inl rfl)
def sharB (al : Bool) (ns : List Bs) (h : Hd) : Bool := al || ns.contains (lower h.1)
theorem l_ref20_Share (c : CallK) (N : Nat) (hL : RLowOk c) (hH : ∀ {lv : V} {ss : List Bs} (x : Bs) {H : Heap}, Rd H 1 lv ss.length (ss.map V.str) → ss.length ≤ 9223372036854775806 → ∀ τ q, c f_ref1_Has [lv, .str x] H τ q = q (.bool (ss.contains x)) H τ)
  (hs : List Hd) (hS : Small hs) (al : Bool) (ns : List Bs) (hns : ns.length ≤ 2000000) (lv nv : V) {o B : Nat} (hoB : o < B) (rp k0 k1 bv uv : V) (H0 : Heap) (hrd : ∀ H, Chg (Qo o B) H0 H → RdH H lv hs) (hnd : ∀ H, Chg (Qo o B) H0 H → Rd H 1 nv ns.length (ns.map V.str)) : ∀ (l pre : List Hd) (hvv : V) (H : Heap) (τ : Tape) (M : Nat), hs = pre ++ l → l.length < M → WF H → Chg (Qo o B) H0 H → B ≤ H.size →
  Bx H o [k0, k1, hvv, bv, uv] → LsH H B hvv (pre.filter (sharB al ns)) →
  ∃ hv' H' τ', Bx H' o [k0, k1, hv', bv, uv] ∧ LsH H' B hv' (hs.filter (sharB al ns)) ∧ Chg (Qo o B) H H' ∧ ∀ (fr : T V) k, fr.get 6 = some rp → fr.get 7 = some (.ptr o 0) → fr.get 8 = some lv → fr.get 9 = some nv → fr.get 10 = some (.bool al) → fr.get 11 = some (.int .i64 (pre.length : Int)) →
   loopK (s_ref20_Share_l1 c N) M ⟨fr, H⟩ τ k = k (.exit 0) ⟨(T.set (T.set .leaf 6 rp) 7 (.ptr o 0)), H'⟩ τ' := by
 intro l
 have fa2 : pFieldAddr 2 [.ptr o 0] = some (.ptr o 2) := rfl
 induction l with
 | nil =>
  intro pre hvv H τ M he hM hw hg hB hx hl
  obtain ⟨M, rfl⟩ : ∃ j, M = j + 1 := ⟨M - 1, by omega⟩
  have hr := hrd H hg
  have hp : hs = pre := by rw [he, List.append_nil]
  have e1 : decide (pre.length < hs.length) = false := decide_eq_false (by rw [hp]; simp)
  have pl := hr.1.pLen
  refine ⟨hvv, H, τ, hx, by rw [hp]; exact hl, Chg.refl hw, fun fr k f6 f7 f8 f9 f10 f11 => ?_⟩
  rw [loopK_succ]
  simp only [s_ref20_Share_l1, getK_mk f6, getK_mk f7, getK_mk f8, getK_mk f9, getK_mk f10, getK_mk f11, pl, getK_set, ↓reduceIte, Nat.reduceEqDiff, someK_n, effK_n, retK, gK_do, gK_do', gK_skip, gK_skip', gK_none, pick_mk, cond_true, cond_false, condK_tn, condK_fn, bin_eql, bin_neq, bin_lss, bin_leq, bin_gtr, bin_geq, un_not, Bool.not_true, Bool.not_false, bin_str, lenS_mk, nle_l, nle_r, nle_n, nlt_l, nlt_r, nlt_n, neq_r, neq_n, nne_r, nne_n, ext0, ext1, ext30, ext31, ext32, bin_add, bin_sub, decide_true, decide_false, e1]
  rfl
 | cons x l ih =>
  intro pre hvv H τ M he hM hw hg hB hx hl
  obtain ⟨M, rfl⟩ : ∃ j, M = j + 1 := ⟨M - 1, by omega⟩
  have hr := hrd H hg
  have hlt : pre.length < hs.length := by rw [he]; simp
  have hle := hS.len
  have e1 : decide (pre.length < hs.length) = true := decide_eq_true hlt
  have e3 : wr .i64 ((pre.length : Int) + Int.ofNat 1) = ((pre ++ [x]).length : Int) := by rw [adI (by omega)]; simp
  have pl := hr.1.pLen
  obtain ⟨id, off, p1, p2⟩ := hd_at (v := lv) pre x l (H := H) (by rw [← he]; exact hr.1)
  have hxs := hS.all x (by rw [he]; simp)
  obtain ⟨q1, q2, _⟩ := p2 H (by rw [← he]; exact hr.1)
  have fa0 : pFieldAddr 0 [.ptr id off] = some (.ptr id off) := rfl
  have lo := bx_load hx (k := 2) rfl
  have kl := hL x.1 (by omega)
  have kh := fun τ q => hH (lower x.1) (hnd H hg) (by omega) τ q
  cases hsh : sharB al ns x with
  | false =>
   obtain ⟨hv', H', τ', i1, i2, i3, i4⟩ := ih (pre ++ [x]) hvv H τ M (by rw [he]; simp) (by simp at hM; omega) hw hg hB hx (by rw [filter_snoc, if_neg (by rw [hsh]; simp)]; exact hl)
   refine ⟨hv', H', τ', i1, i2, i3, fun fr k f6 f7 f8 f9 f10 f11 => ?_⟩
   obtain ⟨h1, h2⟩ : al = false ∧ ns.contains (lower x.1) = false := by
    unfold sharB at hsh; rwa [Bool.or_eq_false_iff] at hsh
   subst h1
   rw [loopK_succ]
   simp only [s_ref20_Share_l1, getK_mk f6, getK_mk f7, getK_mk f8, getK_mk f9, getK_mk f10, getK_mk f11, pl, getK_set, ↓reduceIte, Nat.reduceEqDiff, someK_n, effK_n, retK, gK_do, gK_do', gK_skip, gK_skip', gK_none, pick_mk, cond_true, cond_false, condK_tn, condK_fn, bin_eql, bin_neq, bin_lss, bin_leq, bin_gtr, bin_geq, un_not, Bool.not_true, Bool.not_false, bin_str, lenS_mk, nle_l, nle_r, nle_n, nlt_l, nlt_r, nlt_n, neq_r, neq_n, nne_r, nne_n, ext0, ext1, ext30, ext31, ext32, bin_add, bin_sub, decide_true, decide_false, e1, p1, fa0, q2, kl, kh, h2, s_ref20_Share_j2, e3]
   exact i4 _ k (by simp [T.get_set]) (by simp [T.get_set]) (by simp [T.get_set]) (by simp [T.get_set]) (by simp [T.get_set]) (by simp [T.get_set])
  | true =>
   have hlen : (pre.filter (sharB al ns)).length ≤ 1000000 := by
    have := List.length_filter_le (sharB al ns) pre
    omega
   obtain ⟨w, H3, v', H4, τ4, r1, r2, r3, r4, _, r6⟩ := hl.put hw (by omega) x hlen τ
   have x4 : Bx H4 o [k0, k1, hvv, bv, uv] := hx.gr r4 hoB
   have lo3 : lLoad1 [.ptr o 2] H3 = some hvv := load_cell (r6 _ _ hx.cells) rfl
   have sm := same_rd hl.rdH.1
   have sc := rdH_sc r3.rdH
   obtain ⟨H5, s4, s5, s6⟩ := x4.eStore r4.wf 2 v' 1 (by rw [sc.1]; rfl) (by simp) (by omega) (by rw [sc.1]; simp [sc.2]) τ4
   have s5' : Bx H5 o [k0, k1, v', bv, uv] := by rw [sc.1] at s5; exact s5
   have hc5 : chkLoads [H, H3, H4, H5] (((.load none), [.ptr o 2], 0, 1) :: []) = true := by
    simp [chkLoads, evalL, lLoad, lo, lo3, chk1, sm]
   have r5 := r3.only s6 hoB
   have g5 : Chg (Qo o B) H H5 := (qo_gr r4).trans (qo_only s6) (fun _ _ h => h)
   have z5 := g5.size
   obtain ⟨hv', H', τ', i1, i2, i3, i4⟩ := ih (pre ++ [x]) v' H5 τ4 M (by rw [he]; simp) (by simp at hM; omega) g5.wf (hg.trans g5 (fun _ _ h => h)) (by omega) s5' (by rw [filter_snoc, if_pos hsh]; exact r5)
   refine ⟨hv', H', τ', i1, i2, g5.trans i3 (fun _ _ h => h), fun fr k f6 f7 f8 f9 f10 f11 => ?_⟩
   rw [loopK_succ]
   cases al with
   | true =>
    simp only [s_ref20_Share_l1, getK_mk f6, getK_mk f7, getK_mk f8, getK_mk f9, getK_mk f10, getK_mk f11, pl, getK_set, ↓reduceIte, Nat.reduceEqDiff, someK_n, effK_n, retK, gK_do, gK_do', gK_skip, gK_skip', gK_none, pick_mk, cond_true, cond_false, condK_tn, condK_fn, bin_eql, bin_neq, bin_lss, bin_leq, bin_gtr, bin_geq, un_not, Bool.not_true, Bool.not_false, bin_str, lenS_mk, nle_l, nle_r, nle_n, nlt_l, nlt_r, nlt_n, neq_r, neq_n, nne_r, nne_n, ext0, ext1, ext30, ext31, ext32, bin_add, bin_sub, decide_true, decide_false, e1, fa2, lo, p1, q1, r1, r2, s4, hc5, s_ref20_Share_j2, e3]
    exact i4 _ k (by simp [T.get_set]) (by simp [T.get_set]) (by simp [T.get_set]) (by simp [T.get_set]) (by simp [T.get_set]) (by simp [T.get_set])
   | false =>
    have h2 : ns.contains (lower x.1) = true := by unfold sharB at hsh; rwa [Bool.false_or] at hsh
    simp only [s_ref20_Share_l1, getK_mk f6, getK_mk f7, getK_mk f8, getK_mk f9, getK_mk f10, getK_mk f11, pl, getK_set, ↓reduceIte, Nat.reduceEqDiff, someK_n, effK_n, retK, gK_do, gK_do', gK_skip, gK_skip', gK_none, pick_mk, cond_true, cond_false, condK_tn, condK_fn, bin_eql, bin_neq, bin_lss, bin_leq, bin_gtr, bin_geq, un_not, Bool.not_true, Bool.not_false, bin_str, lenS_mk, nle_l, nle_r, nle_n, nlt_l, nlt_r, nlt_n, neq_r, neq_n, nne_r, nne_n, ext0, ext1, ext30, ext31, ext32, bin_add, bin_sub, decide_true, decide_false, e1, p1, fa0, q2, kl, kh, h2, fa2, lo, q1, r1, r2, s4, hc5, s_ref20_Share_j2, e3]
    exact i4 _ k (by simp [T.get_set]) (by simp [T.get_set]) (by simp [T.get_set]) (by simp [T.get_set]) (by simp [T.get_set]) (by simp [T.get_set])
end Go.Am.X

namespace Go.Am.X
theorem own_P {H : Heap} {B z : Nat} {v : V} {n : Nat} {cs : List V} (h : Own H B z v n cs) (hw : WF H) : OwnP (fun i => B ≤ i ∧ i < H.size) H z v n cs :=
 OwnP.weaken (P := fun i => B ≤ i) h hw (fun i hi hp => ⟨hp, hi⟩)
theorem ownP_rdH {P : Nat → Prop} {H : Heap} {v : V} {hs : List Hd} (h : OwnP P H 2 v hs.length (hcells hs)) : RdH H v hs := ⟨h.own0.rd, h.own0.src⟩
def shrB (hs : List Hd) (cred : Bool) (h : Hd) : Bool := sharB (expAll hs cred) (expNs hs cred ++ shN) h
theorem s_ref20_Share_ret (c c0 : CallK) {N : Nat} (hN : 9223372036854775807 < N) (hOw : ∀ r u H τ q, c f_ref20_Own [r, u] H τ q = s_ref20_Own c0 N r u H τ q) (hE : IsP c f_ref18_Exposed (RH ExpPre ExpG)) (hL : RLowOk c) (hH : ∀ {lv : V} {ss : List Bs} (x : Bs) {H : Heap}, Rd H 1 lv ss.length (ss.map V.str) → ss.length ≤ 9223372036854775806 → ∀ τ q, c f_ref1_Has [lv, .str x] H τ q = q (.bool (ss.contains x)) H τ) (hK : CookOk c0)
  (hs : List Hd) (hS : Small hs) (hg : (getT expN hs).length ≤ 900000) (cred : Bool) (st : Int) (hvr bvr : V) (url : Bs) (H : Heap) (hw : WF H) {n : Nat} {cs : List V} (ha : RepArg H hvr bvr hs n cs) (hn : n ≤ 140737488355328) (τ : Tape) :
  ∃ v H' τ', Resp H H' v 3 st ((hs.filter keptB).filter (shrB hs cred)) n cs url ∧ Gr H.size H H' ∧ ∀ q, s_ref20_Share c N (.agg [.int .i64 st, hvr, bvr]) (.str url) (.bool cred) H τ q = q v H' τ' := by
 obtain ⟨H1, a1, x1, g1, z1⟩ := newbox hw (.agg [.int .i64 st, hvr, bvr]) τ
 replace x1 : Bx H1 H.size [.int .i64 st, hvr, bvr] := x1
 obtain ⟨H4, a4, x4, g4, z4⟩ := newcell g1.wf [(.int .i64 (.ofNat 0)), (.int .i64 (.ofNat 0)), .nils, .nils, (.str [])] τ
 have g04 : Gr H.size H H4 := g1.trans g4 (by omega)
 have y4 := x1.gr g4 (by omega)
 have e3 : lLoadN 3 [.ptr H.size 0] H4 = some (.agg [.int .i64 st, hvr, bvr]) := bx_loads y4 rfl
 obtain ⟨v7, H8, τ8, r1, r2, r3⟩ := s_ref20_Own_ret c0 hN hK hs hS st hvr bvr url H4 g04.wf (ha.gr g04 hw) hn τ
 have z8 := r2.size
 obtain ⟨c1, c2, c3⟩ := r1.cells
 obtain ⟨m, hv1, bv1, rfl, m1, m2, m3, m4⟩ := r1.ex
 have y8 := y4.gr r2 (by omega)
 have w8 := x4.gr r2 (by omega)
 obtain ⟨H11, H14, a11, s14, x14, g14, z14, _⟩ := newvar r2.wf [(.int .i64 (.ofNat 0)), (.int .i64 (.ofNat 0)), .nils, .nils, (.str [])] (.agg [.int .i64 2, .int .i64 st, hv1, bv1, .str url]) 5 rfl rfl (by omega) c2 τ8
 replace x14 : Bx H14 H8.size [.int .i64 2, .int .i64 st, hv1, bv1, .str url] := x14
 obtain ⟨H18, s18, x18, o18⟩ := x14.eStore g14.wf 0 (.int .i64 (.ofNat 3)) 1 rfl (by simp) (by omega) rfl τ8
 replace x18 : Bx H18 H8.size [.int .i64 3, .int .i64 st, hv1, bv1, .str url] := x18
 obtain ⟨H24, s24, x24, o24⟩ := x18.eStore o18.wf 2 .nils 1 rfl (by simp) (by omega) rfl τ8
 replace x24 : Bx H24 H8.size [.int .i64 3, .int .i64 st, .nils, bv1, .str url] := x24
 have z18 : H18.size = H14.size := o18.size
 have z24 : H24.size = H18.size := o24.size
 have g824 : Gr H8.size H8 H24 := (g14.trans (o18.gr (B := H8.size) (Nat.le_refl _)) (Nat.le_refl _)).trans (o24.gr (B := H8.size) (Nat.le_refl _)) (Nat.le_refl _)
 have y24 := y8.gr g824 (by omega)
 have l24 : lLoad1 [.ptr H.size (0 + 1)] H24 = some hvr := bx_load y24 rfl
 have l18 : lLoad1 [.ptr H8.size (0 + 2)] H18 = some hv1 := bx_load x18 rfl
 have g024 : Gr H.size H H24 := (g04.trans r2 (by omega)).trans g824 (by omega)
 obtain ⟨nv, H29, τ29, o1, g29, k29⟩ := k_Exposed hE hS hg cred g024.wf (ha.gr g024 hw).1 τ8
 have z29 := g29.size
 have eb : eBuildSlice 7 1 (repl 7 [(.str [])]) [(0, 1), (1, 1), (2, 1), (3, 1), (4, 1), (5, 1), (6, 1)] [(.str (bs [99, 97, 99, 104, 101, 45, 99, 111, 110, 116, 114, 111, 108])), (.str (bs [99, 111, 110, 116, 101, 110, 116, 45, 108, 97, 110, 103, 117, 97, 103, 101])), (.str (bs [99, 111, 110, 116, 101, 110, 116, 45, 108, 101, 110, 103, 116, 104])), (.str (bs [99, 111, 110, 116, 101, 110, 116, 45, 116, 121, 112, 101])), (.str (bs [101, 120, 112, 105, 114, 101, 115])), (.str (bs [108, 97, 115, 116, 45, 109, 111, 100, 105, 102, 105, 101, 100])), (.str (bs [112, 114, 97, 103, 109, 97]))] H29 τ29 = some (.sl H29.size 0 7 7 none 1, H29.new (shN.map V.str) (7 * 1) false, τ29) := rfl
 have g34 := Gr.new g29.wf (shN.map V.str) (7 * 1) false
 have c34 := cells_new H29 (shN.map V.str) (7 * 1) false
 generalize H29.new (shN.map V.str) (7 * 1) false = H34 at eb g34 c34
 have rd34 : Rd H34 1 (.sl H29.size 0 7 7 none 1) 7 (shN.map V.str) := .inr ⟨H29.size, 0, 7, none, _, rfl, c34, rfl, rfl⟩
 have z34 := g34.size
 have hnl := expNs_len hg cred
 obtain ⟨nv', H37, τ37, ap, apd, g37, _⟩ := (o1.apd.gr g34 g29.wf (Nat.le_refl _)).append (bytes := 16) g34.wf (by omega) rd34 ⟨_, c34⟩ rfl (by omega) (by omega) τ29
 have own := apd.own (by omega)
 have z37 := g37.size
 have hcs : (expNs hs cred).map V.str ++ shN.map V.str = (expNs hs cred ++ shN).map V.str := by rw [List.map_append]
 have hln : (expNs hs cred ++ shN).length = (expNs hs cred).length + 7 := by rw [List.length_append]; rfl
 rw [hcs, ← hln] at own
 have g2437 : Gr H24.size H24 H37 := (g29.trans (g34.weaken (by omega)) (Nat.le_refl _)).trans g37 (Nat.le_refl _)
 have g837 : Gr H8.size H8 H37 := g824.trans g2437 (by omega)
 have x37 := x24.gr g2437 (by have := x24.lt g024.wf; omega)
 have nP := own_P own g37.wf
 have lP : OwnP (fun i => m ≤ i ∧ i < H8.size) H37 2 hv1 (hs.filter keptB).length (hcells (hs.filter keptB)) := (own_P m3.1 r2.wf).chg r2.wf (gr_chgO g837) (fun i _ h h' => by omega)
 have hS1 : Small (hs.filter keptB) := ⟨by have := List.length_filter_le keptB hs; have := hS.len; omega, fun h hh => hS.all h (List.mem_filter.1 hh).1⟩
 obtain ⟨hv', H40, τ40, i1, i2, i3, i4⟩ := l_ref20_Share c N hL hH (hs.filter keptB) hS1 (expAll hs cred) (expNs hs cred ++ shN) (by omega) hv1 nv' (o := H8.size) (B := H37.size) (by omega) (.ptr H1.size 0) (.int .i64 3) (.int .i64 st) bv1 (.str url) H37
  (fun H' hg' => ownP_rdH (lP.chg g37.wf hg' (fun i _ h h' => by unfold Qo at h'; omega))) (fun H' hg' => (nP.chg g37.wf hg' (fun i _ h h' => by unfold Qo at h'; omega)).rd) (hs.filter keptB) [] .nils H37 τ37 N rfl (by have := hS1.len; omega) g37.wf (Chg.refl g37.wf) (Nat.le_refl _) x37 (LsH.nil _ _)
 have g40 : Gr H8.size H37 H40 := i3.gr (by omega) (fun i hi h => by unfold Qo at h; omega)
 have g840 := g837.trans g40 (Nat.le_refl _)
 have w40 := w8.gr g840 (by omega)
 have hsc := rdH_sc i2.rdH
 have sb := m4.scal
 obtain ⟨H41, s41, x41, o41⟩ := w40.eStore g40.wf 0 (.agg [.int .i64 3, .int .i64 st, hv', bv1, .str url]) 5 rfl (by simp) (by omega) (by show (true && (true && (hv'.scal && (bv1.scal && (true && true))))) = true; rw [sb.2, hsc.2]; rfl) τ40
 replace x41 : Bx H41 H1.size [.int .i64 3, .int .i64 st, hv', bv1, .str url] := x41
 have z40 := g40.size
 have z41 : H41.size = H40.size := o41.size
 refine ⟨.agg [.int .i64 3, .int .i64 st, hv', bv1, .str url], H41, τ40, ⟨H37.size, hv', bv1, rfl, by omega, by omega, i2.only o41 (by omega), ?_⟩, ((g04.trans r2 (by omega)).trans g840 (by omega)).trans (o41.gr (B := H.size) (by omega)) (Nat.le_refl _), fun q => ?_⟩
 ·have b8 := m4.chg r2.wf (gr_chgO g840) (fun i _ h h' => by omega)
  have b9 := b8.chg g40.wf (o41.chg (P := fun i => i = H1.size) rfl) (fun i _ h h' => by omega)
  exact b9.weaken o41.wf (fun i _ h => by omega)
 ·have e1 : lLoadN 5 [.ptr H8.size 0] H40 = some (.agg [.int .i64 3, .int .i64 st, hv', bv1, .str url]) := bx_loads i1 rfl
  have er : results ⟨T.set .leaf 6 (.ptr H1.size 0), H41⟩ [.cell 6 (some 5)] = some (.agg [.int .i64 3, .int .i64 st, hv', bv1, .str url]) := res_c (by simp [T.get_set]) (bx_loads x41 rfl)
  have fo : ∀ k, pFieldAddr k [.ptr H8.size 0] = some (.ptr H8.size (0 + k)) := fun _ => rfl
  have s18' : eStore 1 [.ptr H8.size (0 + 0), .int .i64 (.ofNat 3)] H14 τ8 = some (.tup [], H18, τ8) := s18
  have s24' : eStore 1 [.ptr H8.size (0 + 2), .nils] H18 τ8 = some (.tup [], H24, τ8) := s24
  have x0 : pExtract 0 [.tup [nv, .bool (expAll hs cred)]] = some nv := rfl
  have x1' : pExtract 1 [.tup [nv, .bool (expAll hs cred)]] = some (.bool (expAll hs cred)) := rfl
  simp only [s_ref20_Share, a1, effK_n, a4, e3, someK_n, hOw, r3, a11, s14, fa_ptr, s18', l18, s24', l24, k29, x0, x1', eb, ap]
  rw [i4 _ _ (by simp [T.get_set]) (by simp [T.get_set]) (by simp [T.get_set]) (by simp [T.get_set]) (by simp [T.get_set]) (by simp [T.get_set])]
  simp only [blockK, Nat.beq_refl, cond_true, seqK, s_ref20_Share_j0, getK_set, ↓reduceIte, Nat.reduceEqDiff, someK_n, effK_n, retK, gK_do, gK_do', gK_skip, gK_skip', gK_none, pick_mk, cond_true, cond_false, condK_tn, condK_fn, bin_eql, bin_neq, bin_lss, bin_leq, bin_gtr, bin_geq, un_not, Bool.not_true, Bool.not_false, bin_str, lenS_mk, nle_l, nle_r, nle_n, nlt_l, nlt_r, nlt_n, neq_r, neq_n, nne_r, nne_n, ext0, ext1, ext30, ext31, ext32, bin_add, bin_sub, decide_true, decide_false, e1, s41, er]
end Go.Am.X

namespace Go.Am.X
theorem l_book_Same_byte (c : CallK) (N : Nat) (a b : V) (la lb : List Nat) (hlen : la.length < 1000000000000) (H : Heap) (ha : Rd H 1 a la.length (ws .u8 la)) (hb : Rd H 1 b lb.length (ws .u8 lb)) (heq : la.length = lb.length) :
  ∀ (l1 l2 pre : List Nat) (fr : T V) (τ : Tape) (m : Nat), la = pre ++ l1 → lb = pre ++ l2 → l1.length < m → fr.get 0 = some a → fr.get 1 = some b → fr.get 5 = some (.int .i64 (pre.length : Int)) →
  ∀ k, loopK (s_book_Same_byte_l1 c N) m ⟨fr, H⟩ τ k = if l1 = l2 then k (.exit 0) ⟨.leaf, H⟩ τ else k .ret ⟨(T.set .leaf 4 (.bool false)), H⟩ τ := by
 intro l1
 induction l1 with
 | nil =>
  intro l2 pre fr τ m h1 h2 hm f0 f1 f5 k
  obtain ⟨m, rfl⟩ : ∃ j, m = j + 1 := ⟨m - 1, by omega⟩
  have e : l2 = [] := by
   have h3 := congrArg List.length h1
   have h4 := congrArg List.length h2
   rw [List.length_append] at h3 h4
   have : l2.length = 0 := by simp only [List.length_nil] at h3; omega
   exact List.eq_nil_of_length_eq_zero this
  subst e
  have e1 : decide ((pre.length : Int) < (la.length : Int)) = false := decide_eq_false (by rw [h1]; simp)
  rw [loopK_succ, if_pos rfl]
  simp only [s_book_Same_byte_l1, getK_mk f0, getK_mk f1, getK_mk f5, ha.pLen, someK_mk, bin_lss, e1, condK_f]
  rfl
 | cons x l1 ih =>
  intro l2 pre fr τ m h1 h2 hm f0 f1 f5 k
  obtain ⟨m, rfl⟩ : ∃ j, m = j + 1 := ⟨m - 1, by omega⟩
  cases l2 with
  | nil => exfalso; rw [h1, h2] at heq; simp at heq
  | cons y l2 =>
   have e1 : decide ((pre.length : Int) < (la.length : Int)) = true := decide_eq_true (by rw [h1]; simp; omega)
   obtain ⟨p, p1, p2⟩ := ha.elem1 (i := pre.length) (x := .int .u8 (x : Int)) (by rw [h1]; simp [ws])
   obtain ⟨p', p3, p4⟩ := hb.elem1 (i := pre.length) (x := .int .u8 (y : Int)) (by rw [h2]; simp [ws])
   rw [loopK_succ]
   by_cases hxy : x = y
   ·subst hxy
    have e2 : ((x : Int) != (x : Int)) = false := by simp
    have hl : pre.length < la.length := by rw [h1]; simp
    have e3 : wr .i64 ((pre.length : Int) + Int.ofNat 1) = ((pre ++ [x]).length : Int) := by
     rw [wr_id (by simp; omega) (by simp; omega)]; simp
    simp only [s_book_Same_byte_l1, getK_mk f0, getK_mk f1, getK_mk f5, ha.pLen, someK_mk, bin_lss, e1, condK_t, p1, p2, p3, p4, bin_neq, e2, condK_f, bin_add, e3]
    have := ih l2 (pre ++ [x]) ((T.set (T.set (T.set (T.set (T.set (T.set .leaf 0 a) 1 b) 5 (.int .i64 (pre.length : Int))) 15 (.int .i64 (pre.length : Int))) 16 (.int .i64 ((pre ++ [x]).length : Int))) 5 (.int .i64 ((pre ++ [x]).length : Int))))
     τ m (by rw [h1]; simp) (by rw [h2]; simp) (by simp at hm; omega) (by simp [T.get_set]) (by simp [T.get_set]) (by simp [T.get_set]) k
    have hif : (x :: l1 = x :: l2) = (l1 = l2) := by simp
    simp only [hif]
    exact this
   ·have e2 : ((x : Int) != (y : Int)) = true := by simp; omega
    have hif : ¬ (x :: l1 = y :: l2) := by simp [hxy]
    rw [if_neg hif]
    simp only [s_book_Same_byte_l1, getK_mk f0, getK_mk f1, getK_mk f5, ha.pLen, someK_mk, bin_lss, e1, condK_t, p1, p2, p3, p4, bin_neq, e2]
    rfl
theorem s_book_Same_byte_ret (c : CallK) (N : Nat) (hN : 9223372036854775807 ≤ N) (a b : V) (la lb : List Nat) (hlen : la.length < 1000000000000) (H : Heap) (ha : Rd H 1 a la.length (ws .u8 la)) (hb : Rd H 1 b lb.length (ws .u8 lb)) (τ : Tape) (q : KV) :
  s_book_Same_byte c N a b H τ q = q (.bool (decide (la = lb))) H τ := by
 by_cases heq : la.length = lb.length
 ·have e2 : ((la.length : Int) != (lb.length : Int)) = false := by simp; omega
  simp only [s_book_Same_byte, ha.pLen, hb.pLen, someK_mk, bin_neq, e2, condK_f]
  rw [l_book_Same_byte c N a b la lb hlen H ha hb heq la lb [] _ τ N rfl rfl (by omega) (by simp [T.get_set]) (by simp [T.get_set]) (by simp [T.get_set])]
  by_cases h : la = lb
  ·rw [if_pos h, decide_eq_true h]; rfl
  ·rw [if_neg h, decide_eq_false h]; rfl
 ·have e2 : ((la.length : Int) != (lb.length : Int)) = true := by simp; omega
  have h : ¬ la = lb := fun h => heq (by rw [h])
  simp only [s_book_Same_byte, ha.pLen, hb.pLen, someK_mk, bin_neq, e2, condK_t]
  rw [decide_eq_false h]
theorem s_keep_FewBytes_ret (c : CallK) (N : Nat) (v : V) (n k : Nat) (cs : List V) (hk : 0 < k) (hkk : k < 1000000) (H : Heap) (hR : Roomy v) (hRd : Rd H 1 v n cs) :
  ∃ v', Roomy v' ∧ (Src H v → Src H v') ∧ Rd H 1 v' (min n k) (cs.take k) ∧ ∀ τ q, s_keep_FewBytes c N v (.int .i64 (k : Int)) H τ q = q v' H τ := by
 by_cases h : k < n
 ·rcases hRd with ⟨_, h0, _⟩ | ⟨id, off, lo, ex, all, rfl, q1, q2, q3⟩
  ·omega
  ·have hb : bounds3 false true false [V.int .i64 (k : Int)] = some (none, some k, none) := by simp only [bounds3, optN, natOf_mk]
   have hwi : within k lo ex = true := by have hR : within n lo ex = true := hR; rw [within_iff] at hR ⊢; omega
   have h0 : Nat.ble 0 k = true := Nat.ble_eq_true_of_le (Nat.zero_le _)
   have h1 : Nat.ble 0 lo = true := Nat.ble_eq_true_of_le (Nat.zero_le _)
   have e1 : decide ((k : Int) < (n : Int)) = true := decide_eq_true (by omega)
   refine ⟨.sl id off k lo ex 1, hwi, fun h => h, ?_, fun τ q => ?_⟩
   ·rw [Nat.min_eq_right (by omega)]
    refine .inr ⟨id, off, lo, ex, all, rfl, q1, ?_, ?_⟩
    ·rw [q2, List.take_take]; congr 1; omega
    ·rw [List.length_take]; omega
   ·have hp : pLen [V.sl id off n lo ex 1] = some (.int .i64 (n : Int)) := rfl
    have hs : pSlSlice 1 false true false [V.sl id off n lo ex 1, V.int .i64 (k : Int)] = some (.sl id off k lo ex 1) := by
     simp only [pSlSlice, Nat.beq_refl, cond_true, hb, slCut, Option.getD_some, Option.getD_none, hwi, h0, Bool.and_self, h1, offIn, Nat.sub_zero]
    simp only [s_keep_FewBytes, hp, someK_mk, bin_gtr, e1, condK_t, hs]
 ·have e1 : decide ((k : Int) < (n : Int)) = false := decide_eq_false (by omega)
  refine ⟨v, hR, fun h => h, ?_, fun τ q => ?_⟩
  ·rw [Nat.min_eq_left (by omega), List.take_of_length_le (by have := hRd.len; omega)]
   exact hRd
  ·simp only [s_keep_FewBytes, hRd.pLen, someK_mk, bin_gtr, e1, condK_f]
end Go.Am.X

