/- The abstract machine, printed functions of the program, and what they are shown to be. -/
import Derived.Test.YtlpedafppdffoaaDoorFKEL2
import Derived.Test.YtlpedafppdffoaaDoorFKEM4
import Derived.Test.YtlpedafppdffoaaDoorFKEL3
import Derived.Test.YtlpedafppdffoaaDoorFKEL1
set_option linter.unusedSimpArgs false
set_option linter.unusedVariables false
set_option linter.unusedSectionVars false
set_option maxRecDepth 100000
namespace Go.Am.X
theorem l_book_Same_byte (c : CallK) (N : Nat) (a b : V) (la lb : List Nat) (hlen : la.length < 1000000000000) (H : Heap) (ha : Rd H 1 a la.length (ws .u8 la)) (hb : Rd H 1 b lb.length (ws .u8 lb)) (heq : la.length = lb.length) :
  ∀ (l1 l2 pre : List Nat) (fr : T V) (τ : Tape) (m : Nat), la = pre ++ l1 → lb = pre ++ l2 → l1.length < m → fr.get 0 = some a → fr.get 1 = some b → fr.get 5 = some (.int .i64 (pre.length : Int)) →
  ∀ k, loopK (s_book_Same_byte_l1 c N) m ⟨fr, H⟩ τ k = if l1 = l2 then k (.exit 0) ⟨.leaf, H⟩ τ else k .ret ⟨(T.set .leaf 4 (.bool false)), H⟩ τ := by
 intro l1
 induction l1 with
 | nil =>
  intro l2 pre fr τ m h1 h2 hm f0 f1 f5 k
  obtain ⟨m, rfl⟩ : ∃ j, m = j + 1 := ⟨m - 1, by omega⟩
  have e : l2 = [] := by
   have h3 := congrArg List.length h1
   have h4 := congrArg List.length h2
   rw [List.length_append] at h3 h4
   have : l2.length = 0 := by simp only [List.length_nil] at h3; omega
   exact List.eq_nil_of_length_eq_zero this
  subst e
  have e1 : decide ((pre.length : Int) < (la.length : Int)) = false := decide_eq_false (by rw [h1]; simp)
  rw [loopK_succ, if_pos rfl]
  simp only [s_book_Same_byte_l1, getK_mk f0, getK_mk f1, getK_mk f5, ha.pLen, someK_mk, bin_lss, e1, condK_f]
  rfl
 | cons x l1 ih =>
  intro l2 pre fr τ m h1 h2 hm f0 f1 f5 k
  obtain ⟨m, rfl⟩ : ∃ j, m = j + 1 := ⟨m - 1, by omega⟩
  cases l2 with
  | nil => exfalso; rw [h1, h2] at heq; simp at heq
  | cons y l2 =>
   have e1 : decide ((pre.length : Int) < (la.length : Int)) = true := decide_eq_true (by rw [h1]; simp; omega)
   obtain ⟨p, p1, p2⟩ := ha.elem1 (i := pre.length) (x := .int .u8 (x : Int)) (by rw [h1]; simp [ws])
   obtain ⟨p', p3, p4⟩ := hb.elem1 (i := pre.length) (x := .int .u8 (y : Int)) (by rw [h2]; simp [ws])
   rw [loopK_succ]
   by_cases hxy : x = y
   ·subst hxy
    have e2 : ((x : Int) != (x : Int)) = false := by simp
    have hl : pre.length < la.length := by rw [h1]; simp
    have e3 : wr .i64 ((pre.length : Int) + Int.ofNat 1) = ((pre ++ [x]).length : Int) := by
     rw [wr_id (by simp; omega) (by simp; omega)]; simp
    simp only [s_book_Same_byte_l1, getK_mk f0, getK_mk f1, getK_mk f5, ha.pLen, someK_mk, bin_lss, e1, condK_t, p1, p2, p3, p4, bin_neq, e2, condK_f, bin_add, e3]
    have := ih l2 (pre ++ [x]) ((T.set (T.set (T.set (T.set (T.set (T.set .leaf 0 a) 1 b) 5 (.int .i64 (pre.length : Int))) 15 (.int .i64 (pre.length : Int))) 16 (.int .i64 ((pre ++ [x]).length : Int))) 5 (.int .i64 ((pre ++ [x]).length : Int))))
     τ m (by rw [h1]; simp) (by rw [h2]; simp) (by simp at hm; omega) (by simp [T.get_set]) (by simp [T.get_set]) (by simp [T.get_set]) k
    have hif : (x :: l1 = x :: l2) = (l1 = l2) := by simp
    simp only [hif]
    exact this
   ·have e2 : ((x : Int) != (y : Int)) = true := by simp; omega
    have hif : ¬ (x :: l1 = y :: l2) := by simp [hxy]
    rw [if_neg hif]
    simp only [s_book_Same_byte_l1, getK_mk f0, getK_mk f1, getK_mk f5, ha.pLen, someK_mk, bin_lss, e1, condK_t, p1, p2, p3, p4, bin_neq, e2]
    rfl
theorem s_book_Same_byte_ret (c : CallK) (N : Nat) (hN : 9223372036854775807 ≤ N) (a b : V) (la lb : List Nat) (hlen : la.length < 1000000000000) (H : Heap) (ha : Rd H 1 a la.length (ws .u8 la)) (hb : Rd H 1 b lb.length (ws .u8 lb)) (τ : Tape) (q : KV) :
  s_book_Same_byte c N a b H τ q = q (.bool (decide (la = lb))) H τ := by
 by_cases heq : la.length = lb.length
 ·have e2 : ((la.length : Int) != (lb.length : Int)) = false := by simp; omega
  simp only [s_book_Same_byte, ha.pLen, hb.pLen, someK_mk, bin_neq, e2, condK_f]
  rw [l_book_Same_byte c N a b la lb hlen H ha hb heq la lb [] _ τ N rfl rfl (by omega) (by simp [T.get_set]) (by simp [T.get_set]) (by simp [T.get_set])]
  by_cases h : la = lb
  ·rw [if_pos h, decide_eq_true h]; rfl
  ·rw [if_neg h, decide_eq_false h]; rfl
 ·have e2 : ((la.length : Int) != (lb.length : Int)) = true := by simp; omega
  have h : ¬ la = lb := fun h => heq (by rw [h])
  simp only [s_book_Same_byte, ha.pLen, hb.pLen, someK_mk, bin_neq, e2, condK_t]
  rw [decide_eq_false h]
def markB (i j : Nat) : Nat := (i + 1) / 2 ^ (min (8 * (j % 3)) 64) % 256
theorem s_book_Bytes_ret (c : CallK) (N : Nat) (i j : Nat) (hi : i < 1000000) (hj : j < 9223372036854775808) (H : Heap) (τ : Tape) (q : KV) :
  s_book_Bytes c N (.int .i64 (i : Int)) (.int .i64 (j : Int)) H τ q = q (.int .u8 (markB i j : Nat)) H τ := by
 have e1 : wr .i64 ((i : Int) + Int.ofNat 1) = ((i + 1 : Nat) : Int) := by rw [wr_id (by simp; omega) (by simp; omega)]; simp
 have e2 : (j : Int).tmod (Int.ofNat 3) = ((j % 3 : Nat) : Int) := by rw [show Int.ofNat 3 = ((3 : Nat) : Int) from rfl, ← Int.ofNat_tmod]
 have e3 : wr .i64 (Int.ofNat 8 * ((j % 3 : Nat) : Int)) = ((8 * (j % 3) : Nat) : Int) := by rw [wr_id (by simp; omega) (by simp; omega)]; simp
 have e4 : (8 * (j % 3)) % pow2 .u64 = 8 * (j % 3) := by
  apply Nat.mod_eq_of_lt
  have : pow2 .u64 = 18446744073709551616 := by decide
  omega
 simp only [s_book_Bytes, bin_add, e1, bin_rem _ _ (Int.ofNat 3) (by decide), e2, bin_mul, e3, toInt_mk, uk64 _, e4, u_shr, uk8 _]
 rfl
theorem s_keep_FewBytes_ret (c : CallK) (N : Nat) (v : V) (n k : Nat) (cs : List V) (hk : 0 < k) (hkk : k < 1000000) (H : Heap) (hR : Roomy v) (hRd : Rd H 1 v n cs) :
  ∃ v', Roomy v' ∧ (Src H v → Src H v') ∧ Rd H 1 v' (min n k) (cs.take k) ∧ ∀ τ q, s_keep_FewBytes c N v (.int .i64 (k : Int)) H τ q = q v' H τ := by
 by_cases h : k < n
 ·rcases hRd with ⟨_, h0, _⟩ | ⟨id, off, lo, ex, all, rfl, q1, q2, q3⟩
  ·omega
  ·have hb : bounds3 false true false [V.int .i64 (k : Int)] = some (none, some k, none) := by simp only [bounds3, optN, natOf_mk]
   have hwi : within k lo ex = true := by have hR : within n lo ex = true := hR; rw [within_iff] at hR ⊢; omega
   have h0 : Nat.ble 0 k = true := Nat.ble_eq_true_of_le (Nat.zero_le _)
   have h1 : Nat.ble 0 lo = true := Nat.ble_eq_true_of_le (Nat.zero_le _)
   have e1 : decide ((k : Int) < (n : Int)) = true := decide_eq_true (by omega)
   refine ⟨.sl id off k lo ex 1, hwi, fun h => h, ?_, fun τ q => ?_⟩
   ·rw [Nat.min_eq_right (by omega)]
    refine .inr ⟨id, off, lo, ex, all, rfl, q1, ?_, ?_⟩
    ·rw [q2, List.take_take]; congr 1; omega
    ·rw [List.length_take]; omega
   ·have hp : pLen [V.sl id off n lo ex 1] = some (.int .i64 (n : Int)) := rfl
    have hs : pSlSlice 1 false true false [V.sl id off n lo ex 1, V.int .i64 (k : Int)] = some (.sl id off k lo ex 1) := by
     simp only [pSlSlice, Nat.beq_refl, cond_true, hb, slCut, Option.getD_some, Option.getD_none, hwi, h0, Bool.and_self, h1, offIn, Nat.sub_zero]
    simp only [s_keep_FewBytes, hp, someK_mk, bin_gtr, e1, condK_t, hs]
 ·have e1 : decide ((k : Int) < (n : Int)) = false := decide_eq_false (by omega)
  refine ⟨v, hR, fun h => h, ?_, fun τ q => ?_⟩
  ·rw [Nat.min_eq_left (by omega), List.take_of_length_le (by have := hRd.len; omega)]
   exact hRd
  ·simp only [s_keep_FewBytes, hRd.pLen, someK_mk, bin_gtr, e1, condK_f]
end Go.Am.X

namespace Go.Am.X
theorem own_eqs (hs : List Hd) : hs.filter (shwB fun _ => true) = hs.filter keptB := by
 refine List.filter_congr fun h _ => ?_
 unfold shwB keptB; rw [Bool.and_true]
theorem shr_eqs (hs : List Hd) (cred : Bool) : hs.filter (shwB (shF hs cred)) = (hs.filter keptB).filter (shrB hs cred) := by
 rw [List.filter_filter]
 refine List.filter_congr fun h _ => ?_
 have hc : (expNs hs cred ++ shN).contains (lower h.1) = ((expNs hs cred).contains (lower h.1) || shN.contains (lower h.1)) := by
  rw [Bool.eq_iff_iff, Bool.or_eq_true, List.contains_iff_mem, List.contains_iff_mem, List.contains_iff_mem, List.mem_append]
 unfold shwB shF toldB2 shrB sharB keptB
 rw [hc]
 generalize expAll hs cred = a
 generalize (expNs hs cred).contains (lower h.1) = b
 generalize shN.contains (lower h.1) = d
 generalize cookB h.1 = e
 cases a <;> cases b <;> cases d <;> cases e <;> rfl
end Go.Am.X

namespace Go.Am.X
structure Rep (H0 H' : Heap) (v : V) (st : Int) (hs : List Hd) (n : Nat) (cs : List V) : Prop where
 ex : ∃ (m : Nat) (hvv bv : V), v = .agg [.int .i64 st, hvv, bv] ∧ H0.size ≤ m ∧ m ≤ H'.size ∧ OwnP (fun i => H0.size ≤ i ∧ i < m) H' 2 hvv hs.length (hcells hs) ∧ BodP (fun i => m ≤ i) H' bv n cs
theorem s_keep_Reply_ret (c : CallK) (N : Nat)
  (hFH : ∀ (hs : List Hd), hs.length ≤ 9223372036854775807 → ∀ (v : V) (H : Heap), WF H → RdH H v hs → ∀ τ, ∃ v' H' τ', Gr H.size H H' ∧ Own H' H.size 2 v' (fewH 12 200 hs).length (hcells (fewH 12 200 hs)) ∧ ∀ q, c f_keep_FewHeaders [v, .int .i64 (.ofNat 12), .int .i64 (.ofNat 200)] H τ q = q v' H' τ')
  (hFB : ∀ (v : V) (n : Nat) (cs : List V) (H : Heap), Roomy v → Rd H 1 v n cs → ∃ v', Roomy v' ∧ (Src H v → Src H v') ∧ Rd H 1 v' (min n 300) (cs.take 300) ∧ ∀ τ q, c f_keep_FewBytes [v, .int .i64 (.ofNat 300)] H τ q = q v' H τ)
  (hs : List Hd) (hl : hs.length ≤ 9223372036854775807) (st : Int) (hvr bvr : V) (H : Heap) (hw : WF H) {n : Nat} {cs : List V} (ha : RepArg H hvr bvr hs n cs) (hro : Roomy bvr) (τ : Tape) :
  ∃ v H' τ', Rep H H' v st (fewH 12 200 hs) (min n 300) (cs.take 300) ∧ Gr H.size H H' ∧ ∀ q, s_keep_Reply c N (.agg [.int .i64 st, hvr, bvr]) H τ q = q v H' τ' := by
 obtain ⟨H1, a1, x1, g1, z1⟩ := newbox hw (.agg [.int .i64 st, hvr, bvr]) τ
 replace x1 : Bx H1 H.size [.int .i64 st, hvr, bvr] := by
  have e1 := (rdH_sc ha.1).1
  exact x1
 obtain ⟨H4, a4, x4, g4, z4⟩ := newcell g1.wf [(.int .i64 (.ofNat 0)), .nils, .nils] τ
 have g04 : Gr H.size H H4 := g1.trans g4 (by omega)
 have y4 := x1.gr g4 (by omega)
 have ls : ∀ {H' : Heap}, Bx H' H.size [.int .i64 st, hvr, bvr] → lLoad1 [.ptr H.size (0 + 0)] H' = some (.int .i64 st) ∧ lLoad1 [.ptr H.size (0 + 1)] H' = some hvr ∧ lLoad1 [.ptr H.size (0 + 2)] H' = some bvr := fun h => ⟨bx_load h rfl, bx_load h rfl, bx_load h rfl⟩
 obtain ⟨hv', H11, τ11, g11, o11, k11⟩ := hFH hs hl hvr H4 g04.wf (ha.gr g04 hw).1 τ
 have z11 := g11.size
 have y11 := y4.gr g11 (by omega)
 have w11 := x4.gr g11 (by omega)
 have g011 := g04.trans g11 (by omega)
 obtain ⟨hr, hb, hbs⟩ := ha.gr g011 hw
 obtain ⟨pv, p1, p2, p3, p4⟩ := hFB bvr n cs H11 hro hb
 have hlen := p3.len
 obtain ⟨bv', H22, τ22, r1, c1, c2⟩ := clone1 g011.wf p3 (p2 hbs) (by omega) τ11
 have eb : eBuildSlice 0 1 [] [] [] H11 τ11 = some (.sl H11.size 0 0 0 none 1, H11.new [] 0 false, τ11) := rfl
 have g19 : Gr H11.size H11 (H11.new [] 0 false) := Gr.new g011.wf _ _ _
 have y19 := y11.gr g19 (by omega)
 generalize H11.new [] 0 false = H19 at eb g19 y19 r1
 have z22 := c2.size
 have y22 := y11.gr c2 (by omega)
 have w22 := w11.gr c2 (by omega)
 have sb := c1.scal
 have sh := rd_sc o11.rd
 have pb : pBuild [(.int .i64 (.ofNat 0)), .nils, .nils] [(0, 1), (1, 1), (2, 1)] [.int .i64 st, hv', bv'] = some (.agg [.int .i64 st, hv', bv']) := by
  rcases c1 with ⟨rfl, _⟩ | ⟨id, lo, ex, room, fam, ver, pl, st', fr, rfl, _⟩ <;> rcases o11 with ⟨rfl, _⟩ | ⟨id', e', room', fam', ver', pl', st'', fr', rfl, _⟩ <;> rfl
 obtain ⟨H26, s26, x26, o26⟩ := w22.eStore c2.wf 0 (.agg [.int .i64 st, hv', bv']) 3 rfl (by simp) (by omega) (by show (true && (hv'.scal && (bv'.scal && true))) = true; rw [sb.2, sh.2]; rfl) τ22
 replace x26 : Bx H26 H1.size [.int .i64 st, hv', bv'] := x26
 have z26 : H26.size = H22.size := o26.size
 have y26 := y22.only o26 (by omega)
 have s1 : same hvr hvr = true := same_rd ha.1.1
 have s2 : same bvr bvr = true := same_rd ha.2.1
 have hc : chkLoads [H4, H11, H11, H19, H22, H26] (((.load none), [.ptr H.size (0 + 2)], 0, 2) :: (((.load none), [.ptr H.size (0 + 1)], 0, 1) :: (((.load none), [.ptr H.size (0 + 0)], 0, 4) :: []))) = true := by
  simp [chkLoads, chk1, s1, s2, ls y4, ls y11, ls y19, ls y22, ls y26, evalL, lLoad]
  try simp [same, same1, same0]
 refine ⟨.agg [.int .i64 st, hv', bv'], H26, τ22, ⟨H11.size, hv', bv', rfl, by omega, by omega, ?_, ?_⟩, (g011.trans c2 (by omega)).trans (o26.gr (B := H.size) (by omega)) (Nat.le_refl _), fun q => ?_⟩
 ·have q1 := own_P o11 g11.wf
  have q2 := q1.chg g11.wf (gr_chgO c2) (fun i _ h h' => by omega)
  have q3 := q2.chg c2.wf (o26.chg (P := fun i => i = H1.size) rfl) (fun i _ h h' => by omega)
  exact q3.weaken o26.wf (fun i _ h => by omega)
 ·exact c1.chg c2.wf (o26.chg (P := fun i => i = H1.size) rfl) (fun i _ h h' => by omega)
 ·have er : results ⟨T.set .leaf 2 (.ptr H1.size 0), H26⟩ [.cell 2 (some 3)] = some (.agg [.int .i64 st, hv', bv']) := res_c (by simp [T.get_set]) (bx_loads x26 rfl)
  simp only [s_keep_Reply, a1, effK_n, a4, fa_ptr, (ls y4).1, (ls y4).2.1, (ls y11).2.2, k11, p4, eb, r1, pb, s26, someK_n, hc, cond_true, er]
end Go.Am.X

namespace Go.Am.X
theorem ws_tk (la : List Nat) (k : Nat) : (ws .u8 la).take k = ws .u8 (la.take k) := by simp [ws, List.map_take]
abbrev RepOk (c : CallK) : Prop := ∀ (hs : List Hd), hs.length ≤ 9223372036854775807 → ∀ (st : Int) (hvr bvr : V) (H : Heap), WF H → ∀ {n : Nat} {cs : List V}, RepArg H hvr bvr hs n cs → Roomy bvr → ∀ τ, ∃ v H' τ', Rep H H' v st (fewH 12 200 hs) (min n 300) (cs.take 300) ∧ Gr H.size H H' ∧ ∀ q, c f_keep_Reply [.agg [.int .i64 st, hvr, bvr]] H τ q = q v H' τ'
abbrev OwnROk (c : CallK) (f : Nat) : Prop := ∀ (hs : List Hd), Small hs → ∀ (st : Int) (hvr bvr : V) (url : Bs) (H : Heap), WF H → ∀ {n : Nat} {cs : List V}, RepArg H hvr bvr hs n cs → n ≤ 1000000 → ∀ τ, ∃ v H' τ', Resp H H' v 2 st (hs.filter keptB) n cs url ∧ Gr H.size H H' ∧ ∀ q, c f [.agg [.int .i64 st, hvr, bvr], .str url] H τ q = q v H' τ'
abbrev ShrROk (c : CallK) (f : Nat) : Prop := ∀ (hs : List Hd), Small hs → (getT expN hs).length ≤ 900000 → ∀ (cred : Bool) (st : Int) (hvr bvr : V) (url : Bs) (H : Heap), WF H → ∀ {n : Nat} {cs : List V}, RepArg H hvr bvr hs n cs → n ≤ 1000000 → ∀ τ, ∃ v H' τ', Resp H H' v 3 st ((hs.filter keptB).filter (shrB hs cred)) n cs url ∧ Gr H.size H H' ∧ ∀ q, c f [.agg [.int .i64 st, hvr, bvr], .str url, .bool cred] H τ q = q v H' τ'
end Go.Am.X

namespace Go.Am.X
section
variable {N : Nat} (hN : 9223372036854775807 < N) {c c0 c1 c2 : CallK}
theorem fs_rep (hF : IsP c0 f_keep_FewHeaders (RH FewHPre FewHG)) (hB : ∀ v k H τ q, c0 f_keep_FewBytes [v, k] H τ q = s_keep_FewBytes c1 N v k H τ q) (hR : ∀ v H τ q, c f_keep_Reply [v] H τ q = s_keep_Reply c0 N v H τ q) : RepOk c := fun hs hl st hvr bvr H hw {n cs} ha hro τ => by
 obtain ⟨v, H', τ', h1, h2, h3⟩ := s_keep_Reply_ret c0 N (fun hs hl v H hw hr τ => by
  obtain ⟨v', H', τ', k1, k2, k3⟩ := k_keep_FewHeaders hF hl 12 200 (by omega) (by omega) hw hr τ
  exact ⟨v', H', τ', k2, k1, k3⟩) (fun v n cs H hro hr => by
  obtain ⟨v', k1, k2, k3, k4⟩ := s_keep_FewBytes_ret c1 N v n 300 cs (by omega) (by omega) H hro hr
  exact ⟨v', k1, k2, k3, fun τ q => (hB _ _ _ _ _).trans (k4 τ q)⟩) hs hl st hvr bvr H hw ha hro τ
 exact ⟨v, H', τ', h1, h2, fun q => (hR _ _ _ _).trans (h3 q)⟩
theorem fs_clone (hC : ∀ v H τ q, c f_slices_Clone_byte [v] H τ q = s_slices_Clone_byte c0 N v H τ q) : CloneOk c := fun {v n cs H} hw hr hs hn τ => by
 obtain ⟨v', H', τ', h1, h2, h3⟩ := s_slices_Clone_byte_ret c0 N hw hr hs hn τ
 exact ⟨v', H', τ', h1, h2, fun q => (hC _ _ _ _).trans (h3 q)⟩
include hN in
theorem fs_own (hR : ∀ v u H τ q, c f_filter_Own [v, u] H τ q = s_filter_Own c0 N v u H τ q) (hSh : ∀ k r u fv H τ q, c0 f_filter_shown [k, r, u, fv] H τ q = s_filter_shown c1 N k r u fv H τ q) (hL : NLowOk c1) (hC : CloneOk c1) (hO : ∀ v H τ q, c1 f_filter_Own_1 [v] H τ q = q (.bool true) H τ) : OwnROk c f_filter_Own := fun hs hS st hvr bvr url H hw {n cs} ha hn τ => by
 obtain ⟨v, H', τ', h1, h2, h3⟩ := s_filter_Own_ret c0 c1 hN hSh hL hC hO hs hS st hvr bvr url H hw ha (by omega) τ
 rw [own_eqs] at h1
 exact ⟨v, H', τ', h1, h2, fun q => (hR _ _ _ _ _).trans (h3 q)⟩
include hN in
theorem fs_shr (hR : ∀ v u b H τ q, c f_filter_Share [v, u, b] H τ q = s_filter_Share c0 N v u b H τ q) (hSh : ∀ k r u fv H τ q, c0 f_filter_shown [k, r, u, fv] H τ q = s_filter_shown c1 N k r u fv H τ q) (hE : IsP c0 f_cors_Exposed (RH ExpPre ExpG)) (hL : NLowOk c1) (hC : CloneOk c1) (hO : ∀ a b d H τ q, c1 f_filter_Share_1 [a, b, d] H τ q = s_filter_Share_1 c2 N a b d H τ q) (hCon : ConSOk c2) : ShrROk c f_filter_Share := fun hs hS hg cred st hvr bvr url H hw {n cs} ha hn τ => by
 obtain ⟨v, H', τ', h1, h2, h3⟩ := s_filter_Share_ret c0 c1 hN hSh hE hL hC (fun x {p r al nv ns H} hp hr hn hl τ q => (hO _ _ _ _ _ _).trans (s_filter_Share_1_ret c2 N hCon x hp hr hn hl τ q)) hs hS hg cred st hvr bvr url H hw ha (by omega) τ
 rw [shr_eqs] at h1
 exact ⟨v, H', τ', h1, h2, fun q => (hR _ _ _ _ _ _).trans (h3 q)⟩
include hN in
include hN in
include hN in
include hN in
end
end Go.Am.X

