/- Texts for the law DigestSums: the machine, printed functions of the program, and what they are shown to be. -/
import Derived.Test.YtbiimljinilefaaDoorSSh1
import Derived.Test.YtbiimljinilefaaDoorSM3
namespace Go.Am.AmTrydDig
set_option linter.unusedSimpArgs false
set_option linter.unusedVariables false
/-! ### books of lists of bytes -/
theorem l26 (c : CallK) (N : Nat) (a b : V) (la lb : List Nat) (hlen : la.length < 1000000000000) (H : Heap) (ha : Rd H 1 a la.length (ws .u8 la)) (hb : Rd H 1 b lb.length (ws .u8 lb)) (heq : la.length = lb.length) :
    ∀ (l1 l2 pre : List Nat) (fr : T V) (τ : Tape) (m : Nat), la = pre ++ l1 → lb = pre ++ l2 → l1.length < m → fr.get 0 = some a → fr.get 1 = some b → fr.get 5 = some (.int .i64 (pre.length : Int)) →
    ∀ k, loopK (s26_l1 c N) m ⟨fr, H⟩ τ k = if l1 = l2 then k (.exit 0) ⟨.leaf, H⟩ τ else k .ret ⟨(T.set .leaf 4 (.bool false)), H⟩ τ := by
  intro l1
  induction l1 with
  | nil =>
    intro l2 pre fr τ m h1 h2 hm f0 f1 f5 k
    obtain ⟨m, rfl⟩ : ∃ j, m = j + 1 := ⟨m - 1, by omega⟩
    have e : l2 = [] := by
      have h3 := congrArg List.length h1
      have h4 := congrArg List.length h2
      rw [List.length_append] at h3 h4
      have : l2.length = 0 := by simp only [List.length_nil] at h3; omega
      exact List.eq_nil_of_length_eq_zero this
    subst e
    have e1 : decide ((pre.length : Int) < (la.length : Int)) = false := decide_eq_false (by rw [h1]; simp)
    rw [loopK_succ, if_pos rfl]
    simp only [s26_l1, getK_mk f0, getK_mk f1, getK_mk f5, ha.pLen, someK_mk, bin_lss, e1, condK_f]
    rfl
  | cons x l1 ih =>
    intro l2 pre fr τ m h1 h2 hm f0 f1 f5 k
    obtain ⟨m, rfl⟩ : ∃ j, m = j + 1 := ⟨m - 1, by omega⟩
    cases l2 with
    | nil => exfalso; rw [h1, h2] at heq; simp at heq
    | cons y l2 =>
      have e1 : decide ((pre.length : Int) < (la.length : Int)) = true := decide_eq_true (by rw [h1]; simp; omega)
      obtain ⟨p, p1, p2⟩ := ha.elem1 (i := pre.length) (x := .int .u8 (x : Int)) (by rw [h1]; simp [ws])
      obtain ⟨p', p3, p4⟩ := hb.elem1 (i := pre.length) (x := .int .u8 (y : Int)) (by rw [h2]; simp [ws])
      rw [loopK_succ]
      by_cases hxy : x = y
      · subst hxy
        have e2 : ((x : Int) != (x : Int)) = false := by simp
        have hl : pre.length < la.length := by rw [h1]; simp
        have e3 : wr .i64 ((pre.length : Int) + Int.ofNat 1) = ((pre ++ [x]).length : Int) := by
          rw [wr_id (by simp; omega) (by simp; omega)]; simp
        simp only [s26_l1, getK_mk f0, getK_mk f1, getK_mk f5, ha.pLen, someK_mk, bin_lss, e1, condK_t, p1, p2, p3, p4, bin_neq, e2, condK_f, bin_add, e3]
        have := ih l2 (pre ++ [x]) ((T.set (T.set (T.set (T.set (T.set (T.set .leaf 0 a) 1 b) 5 (.int .i64 (pre.length : Int))) 15 (.int .i64 (pre.length : Int))) 16 (.int .i64 ((pre ++ [x]).length : Int))) 5 (.int .i64 ((pre ++ [x]).length : Int))))
          τ m (by rw [h1]; simp) (by rw [h2]; simp) (by simp at hm; omega) (by simp [T.get_set]) (by simp [T.get_set]) (by simp [T.get_set]) k
        have hif : (x :: l1 = x :: l2) = (l1 = l2) := by simp
        simp only [hif]
        exact this
      · have e2 : ((x : Int) != (y : Int)) = true := by simp; omega
        have hif : ¬ (x :: l1 = y :: l2) := by simp [hxy]
        rw [if_neg hif]
        simp only [s26_l1, getK_mk f0, getK_mk f1, getK_mk f5, ha.pLen, someK_mk, bin_lss, e1, condK_t, p1, p2, p3, p4, bin_neq, e2]
        rfl

theorem s26_ret (c : CallK) (N : Nat) (hN : 9223372036854775807 ≤ N) (a b : V) (la lb : List Nat) (hlen : la.length < 1000000000000) (H : Heap) (ha : Rd H 1 a la.length (ws .u8 la)) (hb : Rd H 1 b lb.length (ws .u8 lb)) (τ : Tape) (q : KV) :
    s26 c N a b H τ q = q (.bool (decide (la = lb))) H τ := by
  by_cases heq : la.length = lb.length
  · have e2 : ((la.length : Int) != (lb.length : Int)) = false := by simp; omega
    simp only [s26, ha.pLen, hb.pLen, someK_mk, bin_neq, e2, condK_f]
    rw [l26 c N a b la lb hlen H ha hb heq la lb [] _ τ N rfl rfl (by omega) (by simp [T.get_set]) (by simp [T.get_set]) (by simp [T.get_set])]
    by_cases h : la = lb
    · rw [if_pos h, decide_eq_true h]; rfl
    · rw [if_neg h, decide_eq_false h]; rfl
  · have e2 : ((la.length : Int) != (lb.length : Int)) = true := by simp; omega
    have h : ¬ la = lb := fun h => heq (by rw [h])
    simp only [s26, ha.pLen, hb.pLen, someK_mk, bin_neq, e2, condK_t]
    rw [decide_eq_false h]

/-- the marks -/
def markB (i j : Nat) : Nat := (i + 1) / 2 ^ (min (8 * (j % 3)) 64) % 256
theorem s19_ret (c : CallK) (N : Nat) (i j : Nat) (hi : i < 1000000) (hj : j < 9223372036854775807) (H : Heap) (τ : Tape) (q : KV) :
    s19 c N (.int .i64 (i : Int)) (.int .i64 (j : Int)) H τ q = q (.int .u8 (markB i j : Nat)) H τ := by
  have e1 : wr .i64 ((i : Int) + Int.ofNat 1) = ((i + 1 : Nat) : Int) := by rw [wr_id (by simp; omega) (by simp; omega)]; simp
  have e2 : (j : Int).tmod (Int.ofNat 3) = ((j % 3 : Nat) : Int) := by rw [show Int.ofNat 3 = ((3 : Nat) : Int) from rfl, ← Int.ofNat_tmod]
  have e3 : wr .i64 (Int.ofNat 8 * ((j % 3 : Nat) : Int)) = ((8 * (j % 3) : Nat) : Int) := by rw [wr_id (by simp; omega) (by simp; omega)]; simp
  have e4 : (8 * (j % 3)) % pow2 .u64 = 8 * (j % 3) := by
    apply Nat.mod_eq_of_lt
    have : pow2 .u64 = 18446744073709551616 := by decide
    omega
  simp only [s19, bin_add, e1, bin_rem _ _ (Int.ofNat 3) (by decide), e2, bin_mul, e3, toInt_mk, uk64 _, e4, u_shr, uk8 _]
  rfl

/-- the first ones of some bytes -/
theorem s11_ret (c : CallK) (N : Nat) (v : V) (n k : Nat) (cs : List V) (hk : 0 < k) (hkk : k < 1000000) (H : Heap) (hR : Roomy v) (hRd : Rd H 1 v n cs) :
    ∃ v', Roomy v' ∧ (Src H v → Src H v') ∧ Rd H 1 v' (min n k) (cs.take k) ∧ ∀ τ q, s11 c N v (.int .i64 (k : Int)) H τ q = q v' H τ := by
  by_cases h : k < n
  · rcases hRd with ⟨_, h0, _⟩ | ⟨id, off, lo, ex, all, rfl, q1, q2, q3⟩
    · omega
    · have hb : bounds3 false true false [V.int .i64 (k : Int)] = some (none, some k, none) := by simp only [bounds3, optN, natOf_mk]
      have hwi : within k lo ex = true := by have hR : within n lo ex = true := hR; rw [within_iff] at hR ⊢; omega
      have h0 : Nat.ble 0 k = true := Nat.ble_eq_true_of_le (Nat.zero_le _)
      have h1 : Nat.ble 0 lo = true := Nat.ble_eq_true_of_le (Nat.zero_le _)
      have e1 : decide ((k : Int) < (n : Int)) = true := decide_eq_true (by omega)
      refine ⟨.sl id off k lo ex 1, hwi, fun h => h, ?_, fun τ q => ?_⟩
      · rw [Nat.min_eq_right (by omega)]
        refine .inr ⟨id, off, lo, ex, all, rfl, q1, ?_, ?_⟩
        · rw [q2, List.take_take]; congr 1; omega
        · rw [List.length_take]; omega
      · have hp : pLen [V.sl id off n lo ex 1] = some (.int .i64 (n : Int)) := rfl
        have hs : pSlSlice 1 false true false [V.sl id off n lo ex 1, V.int .i64 (k : Int)] = some (.sl id off k lo ex 1) := by
          simp only [pSlSlice, Nat.beq_refl, cond_true, hb, slCut, Option.getD_some, Option.getD_none, hwi, h0, Bool.and_self, h1, offIn, Nat.sub_zero]
        simp only [s11, hp, someK_mk, bin_gtr, e1, condK_t, hs]
  · have e1 : decide ((k : Int) < (n : Int)) = false := decide_eq_false (by omega)
    refine ⟨v, hR, fun h => h, ?_, fun τ q => ?_⟩
    · rw [Nat.min_eq_left (by omega), List.take_of_length_le (by have := hRd.len; omega)]
      exact hRd
    · simp only [s11, hRd.pLen, someK_mk, bin_gtr, e1, condK_f]
end Go.Am.AmTrydDig

namespace Go.Am.AmTrydDig
set_option linter.unusedSimpArgs false
set_option linter.unusedVariables false
/-- KEEP: a list is kept, and a copy beside it -/
theorem s17_ret (c : CallK) (N : Nat) (hN : 9223372036854775807 ≤ N) (lab : Nat → Nat) (H : Heap) (hw : WF H) (K : Nat) (its : List It) (held : Nat) (h : BookI lab H K its held) (x : V) (cap : Nat) (cs : List V)
    (hx : RoomW (fun i => lab i = 2 * its.length + 4) H x cap cs) (hp : pLen [x] = some (.int .i64 (cs.length : Int))) (hs : cs.all V.scal = true) (hlen : cs.length < 1000000000) (hheld : held + cap + 1 ≤ 1000000) (hits : its.length + 1 ≤ 4000) (τ : Tape) :
    ∃ w H' τ' lab', BookI lab' H' K (its ++ [⟨x, cap, cs, w⟩]) (held + cap + 1) ∧ Chg (fun i => lab i = 1 ∨ lab i = 2 ∨ lab i = 3) H H' ∧ (∀ i, i < H.size → lab' i = lab i) ∧ ∀ q, s17 c N (.ptr K 0) x H τ q = q (.tup []) H' τ' := by
  obtain ⟨L, W, h1, h2, h3, h4, h5⟩ := h
  have hK := h1.lt hw
  -- the list is put behind the others
  obtain ⟨w1, Ha, L', Hb, b1, b2, b3, b4, _, b5, _⟩ := h3.push (bytes := 24) hw x .nils hx.scal.1 hx.scal.2 (by omega) (by omega) τ
  have Kb := h1.chg hw b4 (by rw [h2]; omega)
  obtain ⟨Hc, c1, c2, c3⟩ := Kb.eStore b4.wf 0 L' 1 (by rw [b3.scal.1]; rfl) (by simp) (by omega) (by rw [b3.scal.1]; simp [b3.scal.2]) τ.tail
  rw [b3.scal.1] at c2
  simp only [List.take_zero, List.nil_append, List.singleton_append, List.drop_succ_cons, List.drop_zero, Nat.zero_add] at c2
  have hsz : Hc.size = Hb.size := c3.size
  have g0c : Chg (fun i => lab i = 1 ∨ lab i = 2) H Hc := (b4.weaken fun i _ h => .inr h).trans (c3.chg (P := fun i => i = K) rfl) fun i hi e => by subst e; exact .inl h2
  -- the copy
  have x2 := hx.chg hw g0c fun i hi e q => by omega
  obtain ⟨w, Hd, τd, d1, d2, d3⟩ := x2.copy hp c3.wf 1 hs (by omega) (by omega) τ.tail
  have W2 := (h4.weaken (Q := fun i => i < H.size ∧ lab i = 3) hw fun i hi e => ⟨hi, e⟩).chg hw (g0c.trans (d3.chg (P := fun _ => False)) fun _ _ h => h.elim) fun i hi e q => by omega
  obtain ⟨w2, He, W', Hf, e1, e2, e3, e4, _, e5, e6⟩ := W2.push (bytes := 24) d3.wf w .nils d2.scal.1 d2.scal.2 (by omega) (by omega) τd
  have Kd := c2.gr d3 (c2.lt c3.wf)
  have Ke := Kd.gr e5 (Kd.lt d3.wf)
  have Kf := Ke.chg e5.wf e6 fun q => by rw [h2] at q; omega
  obtain ⟨Hg, f1, f2, f3⟩ := Kf.eStore e6.wf 1 W' 1 (by rw [e3.scal.1]; rfl) (by simp) (by omega) (by rw [e3.scal.1]; simp [e3.scal.2]) τd.tail
  rw [e3.scal.1] at f2
  simp only [List.take_succ_cons, List.take_zero, List.cons_append, List.nil_append, List.drop_succ_cons, List.drop_zero, Nat.reduceAdd] at f2
  obtain ⟨Hh, i1, i2, i3⟩ := f2.eStore f3.wf 2 (.int .i64 ((held + cap + 1 : Nat) : Int)) 1 rfl (by simp) (by omega) rfl τd.tail
  simp only [V.cells, List.take_succ_cons, List.take_zero, List.cons_append, List.nil_append, List.drop_succ_cons, List.drop_zero, Nat.reduceAdd] at i2
  -- the memory's changes
  have zab := b4.size
  have zcd := d3.size
  have zdf := e4.size
  have zg := f3.size
  have zh := i3.size
  have hKb : K < Hb.size := by omega
  have gbc : Chg (fun i => i = K) Hb Hc := c3.chg rfl
  have gcd : Chg (fun i => i = K) Hc Hd := d3.chg
  have gdf : Chg (fun i => i < H.size ∧ lab i = 3) Hd Hf := e4.weaken fun i _ q => q
  have gfh : Chg (fun i => i = K) Hf Hh := (f3.chg (P := fun i => i = K) rfl).trans (i3.chg (P := fun i => i = K) rfl) fun _ _ q => q
  have gbh : Chg (fun i => i = K ∨ (i < H.size ∧ lab i = 3)) Hb Hh :=
    (((gbc.trans gcd fun _ _ q => q).weaken fun i _ q => .inl q).trans gdf fun i _ q => .inr q).trans gfh fun i _ q => .inl q
  have g0h : Chg (fun i => lab i = 1 ∨ lab i = 2 ∨ lab i = 3) H Hh :=
    (b4.weaken fun i _ q => .inr (.inl q)).trans gbh fun i hi q => by rcases q with rfl | ⟨_, q⟩; exact .inl h2; exact .inr (.inr q)
  let lab' : Nat → Nat := fun i => if i < H.size then lab i else if i < Hb.size then 2 else if i < Hd.size then 2 * its.length + 5 else 3
  have l0 : ∀ i, i < H.size → lab' i = lab i := fun i hi => if_pos hi
  have l1 : ∀ i, H.size ≤ i → i < Hb.size → lab' i = 2 := fun i h1 h2 => by simp only [lab']; rw [if_neg (by omega), if_pos h2]
  have l2 : ∀ i, Hb.size ≤ i → i < Hd.size → lab' i = 2 * its.length + 5 := fun i h1 h2 => by simp only [lab']; rw [if_neg (by omega), if_neg (by omega), if_pos h2]
  have l3 : ∀ i, Hd.size ≤ i → lab' i = 3 := fun i h1 => by simp only [lab']; rw [if_neg (by omega), if_neg (by omega), if_neg (by omega)]
  have L3 : OwnP (fun i => lab' i = 2) Hh 1 L' (its.length + 1) (its.map It.v ++ [x]) := by
    have := (b3.weaken (Q := fun i => i < Hb.size ∧ lab' i = 2) b4.wf fun i hi q => by
      rcases q with ⟨a, b⟩ | a
      · exact ⟨hi, by rw [l0 i a]; exact b⟩
      · exact ⟨hi, l1 i a hi⟩).chg b4.wf gbh fun i hi q r => by
        rcases r with rfl | ⟨a, b⟩
        · have := l0 i hK; omega
        · have := l0 i a; omega
    exact this.weaken gbh.wf fun i _ q => q.2
  have W3 : OwnP (fun i => lab' i = 3) Hh 1 W' (its.length + 1) (its.map It.w ++ [w]) := by
    have := (e3.weaken (Q := fun i => lab' i = 3) e4.wf fun i hi q => by
      rcases q with ⟨a, b, c⟩ | a
      · show lab' i = 3; rw [l0 i b]; exact c
      · exact l3 i a).chg e4.wf gfh fun i hi q r => by
        have q : lab' i = 3 := q
        subst r; have := l0 i hK; omega
    exact this
  have X3 : RoomW (fun i => lab' i = 2 * its.length + 4) Hh x cap cs := by
    have := (hx.weaken (Q := fun i => i < H.size ∧ lab' i = 2 * its.length + 4) hw fun i hi q => ⟨hi, by rw [l0 i hi]; exact q⟩).chg hw g0h fun i hi q r => by
      have := l0 i hi; omega
    exact this.weaken g0h.wf fun i _ q => q.2
  have gdh : Chg (fun i => i = K ∨ (i < H.size ∧ lab i = 3)) Hd Hh := (gdf.weaken fun i _ q => .inr q).trans gfh fun i _ q => .inl q
  have w3 : OwnP (fun i => lab' i = 2 * its.length + 5) Hh 1 w cs.length cs := by
    have := (d2.weaken (Q := fun i => Hc.size ≤ i ∧ lab' i = 2 * its.length + 5) d3.wf fun i hi q => ⟨q, l2 i (by omega) hi⟩).chg d3.wf gdh fun i hi q r => by
      rcases r with rfl | ⟨a, b⟩
      · omega
      · omega
    exact this.weaken gdh.wf fun i _ q => q.2
  have K3 : lab' K = 1 := by rw [l0 K hK]; exact h2
  have B3 : BookI lab' Hh K (its ++ [⟨x, cap, cs, w⟩]) (held + cap + 1) := by
    refine ⟨L', W', i2, K3, by simpa using L3, by simpa using W3, fun j it hj => ?_⟩
    by_cases hlt : j < its.length
    · rw [List.getElem?_append_left hlt] at hj
      obtain ⟨a, b, d⟩ := h5 j it hj
      refine ⟨?_, b, ?_⟩
      · have := (a.weaken (Q := fun i => i < H.size ∧ lab' i = 2 * j + 4) hw fun i hi q => ⟨hi, by rw [l0 i hi]; exact q⟩).chg hw g0h fun i hi q r => by
          have := l0 i hi; omega
        exact this.weaken g0h.wf fun i _ q => q.2
      · have := (d.weaken (Q := fun i => i < H.size ∧ lab' i = 2 * j + 5) hw fun i hi q => ⟨hi, by rw [l0 i hi]; exact q⟩).chg hw g0h fun i hi q r => by
          have := l0 i hi; omega
        exact this.weaken g0h.wf fun i _ q => q.2
    · have hj2 := (List.getElem?_eq_some_iff.1 hj).1
      simp at hj2
      obtain rfl : j = its.length := by omega
      simp at hj
      subst hj
      exact ⟨X3, hp, w3⟩
  refine ⟨w, Hh, τd.tail, lab', B3, g0h, l0, fun q => ?_⟩
  have nk : ∀ (i o : Nat), pNilck [.ptr i o] = some (.ptr i o) := fun _ _ => rfl
  have fa : ∀ (i o : Nat), pFieldAddr o [.ptr i 0] = some (.ptr i o) := fun _ _ => by simp [pFieldAddr]
  have ld0 : lLoad1 [.ptr K 0] H = some L := load_cell h1.cells rfl
  have ld1 : ∀ {H}, Bx H K [L', W, .int .i64 (held : Int), .bool false] → lLoad1 [.ptr K 1] H = some W := fun h => load_cell h.cells rfl
  have ld2 : lLoad1 [.ptr K 2] Hg = some (.int .i64 (held : Int)) := load_cell f2.cells rfl
  have ldL : lLoad1 [.ptr K 0] Hh = some L' := load_cell i2.cells rfl
  have ldH : lLoad1 [.ptr K 2] Hh = some (.int .i64 ((held + cap + 1 : Nat) : Int)) := load_cell i2.cells rfl
  have hc : chkLoads [Hc, Hd, He, Hf, Hg] (((.load none), [.ptr K 1], 0, 2) :: []) = true := by
    simp [chkLoads, evalL, lLoad, ld1 c2, ld1 Kd, ld1 Ke, chk1]
    rcases h4 with ⟨rfl, _⟩ | ⟨id, e, room, fam, ver, pl, st, fr, rfl, _⟩ <;> simp [same, sameL, same1, same0]
  have a1 : wr .i64 ((held : Int) + (cap : Int)) = ((held + cap : Nat) : Int) := by rw [wr_id (by omega) (by omega)]; simp
  have a2 : wr .i64 (((held + cap : Nat) : Int) + Int.ofNat 1) = ((held + cap + 1 : Nat) : Int) := by rw [wr_id (by simp; omega) (by simp; omega)]; simp
  obtain ⟨N, rfl⟩ : ∃ j, N = j + 1 := ⟨N - 1, by omega⟩
  simp only [s17, nk, someK_mk, fa, ld0, b1, effK_mk, b2, c1, ld1 c2, d1, e1, e2, f1, hc, cond_true, ld2, hx.pCap, bin_add, a1, a2, i1]
  rw [loopK_succ]
  have pl : pLen [L'] = some (.int .i64 ((its.length + 1 : Nat) : Int)) := L3.rd.pLen
  simp only [s17_l0, getK_set, ↓reduceIte, nk, someK_mk, fa, ldL, pl, bin_gtr]
  by_cases h0 : its.length = 0
  · have q1 : decide (Int.ofNat 1 < ((its.length + 1 : Nat) : Int)) = false := decide_eq_false (by simp; omega)
    simp only [q1, gK_skip, gK_none, pick_mk, cond_false, someK_mk, condK_f]
    rfl
  · have q1 : decide (Int.ofNat 1 < ((its.length + 1 : Nat) : Int)) = true := decide_eq_true (by simp; omega)
    have q2 : decide (Int.ofNat 1000000 < ((held + cap + 1 : Nat) : Int)) = false := decide_eq_false (by simp; omega)
    have q3 : decide (Int.ofNat 4000 < ((its.length + 1 : Nat) : Int)) = false := decide_eq_false (by simp; omega)
    simp only [q1, gK_do, retK, effK_mk, nk, someK_mk, fa, ldH, bin_gtr, q2, gK_do', ldL, pl, q3, pick_mk, cond_false, cond_true, condK_f]
    rfl
end Go.Am.AmTrydDig

namespace Go.Am.AmTrydDig
set_option linter.unusedSimpArgs false
set_option linter.unusedVariables false
abbrev Same26 (c : CallK) : Prop := ∀ (a b : V) (la lb : List Nat) (H : Heap), la.length < 1000000000000 → Rd H 1 a la.length (ws .u8 la) → Rd H 1 b lb.length (ws .u8 lb) → ∀ τ q, c 26 [a, b] H τ q = q (.bool (decide (la = lb))) H τ
abbrev Mark19 (c : CallK) : Prop := ∀ (i j : Nat), i < 1000000 → j < 9223372036854775807 → ∀ H τ q, c 19 [.int .i64 (i : Int), .int .i64 (j : Int)] H τ q = q (.int .u8 (markB i j : Nat)) H τ
/-- lists of bytes -/
def BytesIts (its : List It) : Prop := ∀ (j : Nat) it, its[j]? = some it → it.cap ≤ 1000000 ∧ ∃ l : List Nat, it.cs = ws .u8 l ∧ l.length < 1000000000

theorem elemL {H : Heap} {P : Nat → Prop} {L : V} {vs : List V} (h : OwnP P H 1 L vs.length vs) {i : Nat} {x : V} (hi : vs[i]? = some x) : ∃ p, pSlIdx 1 [L, .int .i64 (i : Int)] = some p ∧ lLoad1 [p] H = some x := h.rd.elem1 hi

/-- is each list as it was? -/
theorem l27 (c : CallK) (N : Nat) (h26 : Same26 c) (lab : Nat → Nat) (K : Nat) (its : List It) (held : Nat) (hits : its.length < 1000000) (hB : BytesIts its) :
    ∀ (r pre : List It) (H : Heap) (fr : T V) (τ : Tape) (m : Nat), its = pre ++ r → r.length < m → WF H → BookI lab H K its held → fr.get 0 = some (.ptr K 0) → fr.get 3 = some (.int .i64 (pre.length : Int)) →
    ∃ H', BookI lab H' K its held ∧ Chg (fun i => lab i = 1) H H' ∧ ∀ k, loopK (s27_l1 c N) m ⟨fr, H⟩ τ k = k (.exit 0) ⟨(T.set .leaf 0 (.ptr K 0)), H'⟩ τ := by
  intro r
  induction r with
  | nil =>
    intro pre H fr τ m he hm hw hb f0 f3
    obtain ⟨m, rfl⟩ : ∃ j, m = j + 1 := ⟨m - 1, by omega⟩
    refine ⟨H, hb, Chg.refl hw, fun k => ?_⟩
    obtain ⟨L, W, h1, h2, h3, h4, h5⟩ := hb
    have ld0 : lLoad1 [.ptr K 0] H = some L := load_cell h1.cells rfl
    have e1 : decide ((pre.length : Int) < (its.length : Int)) = false := decide_eq_false (by rw [he]; simp)
    have nk : ∀ (i o : Nat), pNilck [.ptr i o] = some (.ptr i o) := fun _ _ => rfl
    have fa : ∀ (i o : Nat), pFieldAddr o [.ptr i 0] = some (.ptr i o) := fun _ _ => by simp [pFieldAddr]
    rw [loopK_succ]
    simp only [s27_l1, getK_mk f0, getK_mk f3, nk, someK_mk, fa, ld0, h3.rd.pLen, bin_lss, e1, condK_f]
    rfl
  | cons it r ih =>
    intro pre H fr τ m he hm hw hb f0 f3
    obtain ⟨m, rfl⟩ : ∃ j, m = j + 1 := ⟨m - 1, by omega⟩
    obtain ⟨L, W, h1, h2, h3, h4, h5⟩ := hb
    have hit : its[pre.length]? = some it := by rw [he]; simp
    obtain ⟨hcap, l, hl, hll⟩ := hB _ _ hit
    obtain ⟨a, b, d⟩ := h5 _ _ hit
    have ld0 : lLoad1 [.ptr K 0] H = some L := load_cell h1.cells rfl
    have ld1 : lLoad1 [.ptr K 1] H = some W := load_cell h1.cells rfl
    have ld3 : lLoad1 [.ptr K 3] H = some (.bool false) := load_cell h1.cells rfl
    have e1 : decide ((pre.length : Int) < (its.length : Int)) = true := decide_eq_true (by rw [he]; simp; omega)
    have nk : ∀ (i o : Nat), pNilck [.ptr i o] = some (.ptr i o) := fun _ _ => rfl
    have fa : ∀ (i o : Nat), pFieldAddr o [.ptr i 0] = some (.ptr i o) := fun _ _ => by simp [pFieldAddr]
    obtain ⟨p, p1, p2⟩ := h3.rd.elem1 (i := pre.length) (x := it.v) (by rw [List.getElem?_map, hit]; rfl)
    obtain ⟨p', p3, p4⟩ := h4.rd.elem1 (i := pre.length) (x := it.w) (by rw [List.getElem?_map, hit]; rfl)
    have ra := a.rd b
    have rb := d.rd
    rw [hl] at ra rb
    rw [ws_len] at ra rb
    have hsame := fun q => h26 it.v it.w l l H (by omega) ra rb τ q
    obtain ⟨H1, s1, s2, s3⟩ := h1.eStore hw 3 (.bool false) 1 rfl (by simp) (by omega) rfl τ
    simp only [V.cells, List.take_succ_cons, List.take_zero, List.cons_append, List.nil_append, List.drop_succ_cons, List.drop_zero, List.drop_nil, List.append_nil, Nat.reduceAdd] at s2
    have g1 : Chg (fun i => i = K) H H1 := s3.chg rfl
    have hb1 : BookI lab H1 K its held := by
      have ne : ∀ n, n ≠ 1 → ∀ i, i < H.size → lab i = n → ¬ i = K := fun n hn i _ e q => by subst q; omega
      exact ⟨L, W, s2, h2, h3.chg hw g1 (ne 2 (by omega)), h4.chg hw g1 (ne 3 (by omega)), fun j it hj => by
        obtain ⟨a, b, d⟩ := h5 j it hj
        exact ⟨a.chg hw g1 (ne _ (by omega)), b, d.chg hw g1 (ne _ (by omega))⟩⟩
    have hlen : pre.length < its.length := by rw [he]; simp
    have e3 : wr .i64 ((pre.length : Int) + Int.ofNat 1) = ((pre ++ [it]).length : Int) := by
      rw [wr_id (by simp; omega) (by simp; omega)]; simp
    obtain ⟨H', r1, r2, r3⟩ := ih (pre ++ [it]) H1 ((T.set (T.set (T.set (T.set (T.set .leaf 0 (.ptr K 0)) 3 (.int .i64 (pre.length : Int))) 11 (.int .i64 (pre.length : Int))) 12 (.int .i64 ((pre ++ [it]).length : Int))) 3 (.int .i64 ((pre ++ [it]).length : Int))))
      τ m (by rw [he]; simp) (by simp at hm; omega) s3.wf hb1 (by simp [T.get_set]) (by simp [T.get_set])
    refine ⟨H', r1, (g1.weaken fun i _ q => by subst q; exact h2).trans r2 fun _ _ q => q, fun k => ?_⟩
    rw [loopK_succ]
    simp only [s27_l1, getK_mk f0, getK_mk f3, nk, someK_mk, fa, ld0, h3.rd.pLen, bin_lss, e1, condK_t, ld3, gK_do', retK, effK_mk, ld1, p1, p2, p3, p4]
    have hnot : ∀ (c : V → Ans), unK .not (.bool true) c = c (.bool false) := fun _ => rfl
    rw [hsame]
    simp only [decide_true, retK, effK_mk, hnot, pick_mk, cond_false, someK_mk, s1, bin_add, e3]
    exact r3 k

theorem s27_ret (c : CallK) (N : Nat) (hN : 9223372036854775807 ≤ N) (h26 : Same26 c) (lab : Nat → Nat) (K : Nat) (its : List It) (held : Nat) (hits : its.length < 1000000) (hB : BytesIts its) (H : Heap) (hw : WF H) (hb : BookI lab H K its held) (τ : Tape) :
    ∃ H', BookI lab H' K its held ∧ Chg (fun i => lab i = 1) H H' ∧ ∀ q, s27 c N (.ptr K 0) H τ q = q (.bool true) H' τ := by
  obtain ⟨H', r1, r2, r3⟩ := l27 c N h26 lab K its held hits hB its [] H (T.set (T.set .leaf 0 (.ptr K 0)) 3 (.int .i64 (.ofNat 0))) τ N rfl (by omega) hw hb (by simp [T.get_set]) (by simp [T.get_set])
  refine ⟨H', r1, r2, fun q => ?_⟩
  obtain ⟨L, W, h1, _⟩ := r1
  have ld3 : lLoad1 [.ptr K 3] H' = some (.bool false) := load_cell h1.cells rfl
  have nk : ∀ (i o : Nat), pNilck [.ptr i o] = some (.ptr i o) := fun _ _ => rfl
  have fa : ∀ (i o : Nat), pFieldAddr o [.ptr i 0] = some (.ptr i o) := fun _ _ => by simp [pFieldAddr]
  have hnot : ∀ (c : V → Ans), unK .not (.bool false) c = c (.bool true) := fun _ => rfl
  simp only [s27]
  rw [r3]
  simp only [blockK, Nat.beq_refl, cond_true, seqK, s27_j0, getK_set, ↓reduceIte, nk, someK_mk, fa, ld3, hnot]

/-! ### the marks are written -/
def marks (i cap : Nat) : List V := (List.range cap).map fun j => V.int .u8 ((markB i j : Nat) : Int)
theorem marks_len (i cap : Nat) : (marks i cap).length = cap := by simp [marks]
theorem marks_get {i cap j : Nat} (h : j < cap) : (marks i cap)[j]? = some (.int .u8 ((markB i j : Nat) : Int)) := by simp [marks, h]
theorem marks_snoc {i cap j : Nat} (h : j < cap) : (marks i cap).take j ++ [V.int .u8 ((markB i j : Nat) : Int)] = (marks i cap).take (j + 1) := by
  rw [List.take_add_one, marks_get h]; rfl

theorem l18w (c : CallK) (N : Nat) (h19 : Mark19 c) (P : Nat → Prop) (v v' : V) (cap i : Nat) (hi : i < 1000000) (hcap : cap ≤ 1000000) (t0 : V) (hlen : pLen [v'] = some (.int .i64 (cap : Int)))
    (hwr : ∀ H' l', WF H' → RoomW P H' v cap l' → l'.length < cap → ∀ x : V, x.cells = [x] → x.scal = true → ∀ τ, ∃ p H'', pSlIdx 1 [v', .int .i64 (l'.length : Int)] = some p ∧ eStore 1 [p, x] H' τ = some (.tup [], H'', τ) ∧ RoomW P H'' v cap (l' ++ [x]) ∧ Chg P H' H'') :
    ∀ (n j : Nat) (H : Heap) (fr : T V) (τ : Tape) (m : Nat), j + n = cap → n < m → WF H → RoomW P H v cap ((marks i cap).take j) →
    fr.get 0 = some t0 → fr.get 1 = some (.func 19 [] []) → fr.get 5 = some (.int .i64 (i : Int)) → fr.get 6 = some v' → fr.get 7 = some (.int .i64 (j : Int)) →
    ∃ H', RoomW P H' v cap (marks i cap) ∧ Chg P H H' ∧ ∀ k, loopK (s18_l7 c N) m ⟨fr, H⟩ τ k = k (.exit 2) ⟨(T.set (T.set (T.set .leaf 0 t0) 1 (.func 19 [] [])) 5 (.int .i64 (i : Int))), H'⟩ τ := by
  intro n
  induction n with
  | zero =>
    intro j H fr τ m hj hm hw hR f0 f1 f5 f6 f7
    obtain ⟨m, rfl⟩ : ∃ j, m = j + 1 := ⟨m - 1, by omega⟩
    refine ⟨H, ?_, Chg.refl hw, fun k => ?_⟩
    · rw [List.take_of_length_le (by rw [marks_len]; omega)] at hR; exact hR
    · have e1 : decide ((j : Int) < (cap : Int)) = false := decide_eq_false (by omega)
      rw [loopK_succ]
      simp only [s18_l7, getK_mk f0, getK_mk f1, getK_mk f5, getK_mk f6, getK_mk f7, hlen, someK_mk, bin_lss, e1, condK_f]
      rfl
  | succ n ih =>
    intro j H fr τ m hj hm hw hR f0 f1 f5 f6 f7
    obtain ⟨m, rfl⟩ : ∃ j, m = j + 1 := ⟨m - 1, by omega⟩
    have e1 : decide ((j : Int) < (cap : Int)) = true := decide_eq_true (by omega)
    have hlj : ((marks i cap).take j).length = j := by rw [List.length_take, marks_len]; omega
    obtain ⟨p, H1, p1, p2, p3, p4⟩ := hwr H _ hw hR (by omega) (.int .u8 ((markB i j : Nat) : Int)) rfl rfl τ
    rw [hlj] at p1
    rw [marks_snoc (by omega)] at p3
    have e3 : wr .i64 ((j : Int) + Int.ofNat 1) = ((j + 1 : Nat) : Int) := by
      rw [wr_id (by simp; omega) (by simp; omega)]; simp
    obtain ⟨H', r1, r2, r3⟩ := ih (j + 1) H1 ((T.set (T.set (T.set (T.set (T.set (T.set (T.set (T.set .leaf 0 t0) 1 (.func 19 [] [])) 5 (.int .i64 (i : Int))) 6 v') 7 (.int .i64 (j : Int))) 43 (.int .i64 (j : Int))) 44 (.int .i64 ((j + 1 : Nat) : Int))) 7 (.int .i64 ((j + 1 : Nat) : Int))))
      τ m (by omega) (by omega) p4.wf p3 (by simp [T.get_set]) (by simp [T.get_set]) (by simp [T.get_set]) (by simp [T.get_set]) (by simp [T.get_set])
    refine ⟨H', r1, p4.trans r2 fun _ _ q => q, fun k => ?_⟩
    rw [loopK_succ]
    simp only [s18_l7, getK_mk f0, getK_mk f1, getK_mk f5, getK_mk f6, getK_mk f7, hlen, someK_mk, bin_lss, e1, condK_t, opK, List.nil_append, List.append_nil, h19 i j hi (by omega), p1, p2, effK_mk, bin_add, e3]
    exact r3 k

/-- they are all there -/
theorem l18r (c : CallK) (N : Nat) (h19 : Mark19 c) (v' : V) (cap i : Nat) (hi : i < 1000000) (hcap : cap ≤ 1000000) (t0 : V) (H : Heap) (hlen : pLen [v'] = some (.int .i64 (cap : Int)))
    (hrd : ∀ (j : Nat) x, (marks i cap)[j]? = some x → ∃ p, pSlIdx 1 [v', .int .i64 (j : Int)] = some p ∧ lLoad1 [p] H = some x) :
    ∀ (n j : Nat) (fr : T V) (τ : Tape) (m : Nat), j + n = cap → n < m →
    fr.get 0 = some t0 → fr.get 1 = some (.func 19 [] []) → fr.get 8 = some (.int .i64 (i : Int)) → fr.get 9 = some v' → fr.get 10 = some (.int .i64 (j : Int)) →
    ∀ k, loopK (s18_l4 c N) m ⟨fr, H⟩ τ k = k (.exit 6) ⟨(T.set (T.set (T.set .leaf 0 t0) 1 (.func 19 [] [])) 8 (.int .i64 (i : Int))), H⟩ τ := by
  intro n
  induction n with
  | zero =>
    intro j fr τ m hj hm f0 f1 f8 f9 f10 k
    obtain ⟨m, rfl⟩ : ∃ j, m = j + 1 := ⟨m - 1, by omega⟩
    have e1 : decide ((j : Int) < (cap : Int)) = false := decide_eq_false (by omega)
    rw [loopK_succ]
    simp only [s18_l4, getK_mk f0, getK_mk f1, getK_mk f8, getK_mk f9, getK_mk f10, hlen, someK_mk, bin_lss, e1, condK_f]
    rfl
  | succ n ih =>
    intro j fr τ m hj hm f0 f1 f8 f9 f10 k
    obtain ⟨m, rfl⟩ : ∃ j, m = j + 1 := ⟨m - 1, by omega⟩
    have e1 : decide ((j : Int) < (cap : Int)) = true := decide_eq_true (by omega)
    obtain ⟨p, p1, p2⟩ := hrd j _ (marks_get (by omega))
    have e2 : (((markB i j : Nat) : Int) != ((markB i j : Nat) : Int)) = false := by simp
    have e3 : wr .i64 ((j : Int) + Int.ofNat 1) = ((j + 1 : Nat) : Int) := by
      rw [wr_id (by simp; omega) (by simp; omega)]; simp
    have hc : chkLoads [H, H] (((.load none), [p], 0, 1) :: []) = true := by
      simp [chkLoads, evalL, lLoad, p2, chk1, same, sameL, same1, same0]
    rw [loopK_succ]
    simp only [s18_l4, getK_mk f0, getK_mk f1, getK_mk f8, getK_mk f9, getK_mk f10, hlen, someK_mk, bin_lss, e1, condK_t, p1, p2, opK, List.nil_append, List.append_nil, h19 i j hi (by omega), bin_neq, e2, hc, cond_true, condK_f, bin_add, e3]
    exact ih (j + 1) _ τ m (by omega) (by omega) (by simp [T.get_set]) (by simp [T.get_set]) (by simp [T.get_set]) (by simp [T.get_set]) (by simp [T.get_set]) k
end Go.Am.AmTrydDig

namespace Go.Am.AmTrydDig
set_option linter.unusedSimpArgs false
set_option linter.unusedVariables false
/-- all lists are written full -/
theorem l18o (c : CallK) (N : Nat) (hN : 9223372036854775807 ≤ N) (h19 : Mark19 c) (lab : Nat → Nat) (K : Nat) (its : List It) (hits : its.length < 1000000) (hcap : ∀ (j : Nat) it, its[j]? = some it → it.cap ≤ 1000000) (L W x2 x3 : V) (hK1 : lab K = 1) :
    ∀ (r pre : List It) (H : Heap) (fr : T V) (τ : Tape) (m : Nat), its = pre ++ r → r.length < m → WF H → Bx H K [L, W, x2, x3] → OwnP (fun i => lab i = 2) H 1 L its.length (its.map It.v) →
    (∀ (j : Nat) it, its[j]? = some it → RoomW (fun i => lab i = 2 * j + 4) H it.v it.cap (if j < pre.length then marks j it.cap else [])) →
    fr.get 0 = some (.ptr K 0) → fr.get 1 = some (.func 19 [] []) → fr.get 5 = some (.int .i64 (pre.length : Int)) →
    ∃ H', (∀ (j : Nat) it, its[j]? = some it → RoomW (fun i => lab i = 2 * j + 4) H' it.v it.cap (marks j it.cap)) ∧ Bx H' K [L, W, x2, x3] ∧ OwnP (fun i => lab i = 2) H' 1 L its.length (its.map It.v) ∧ Chg (fun i => 4 ≤ lab i) H H' ∧
      ∀ k, loopK (s18_l5 c N) m ⟨fr, H⟩ τ k = k (.exit 0) ⟨(T.set (T.set .leaf 0 (.ptr K 0)) 1 (.func 19 [] [])), H'⟩ τ := by
  intro r
  have nk : ∀ (i o : Nat), pNilck [.ptr i o] = some (.ptr i o) := fun _ _ => rfl
  have fa : ∀ (i o : Nat), pFieldAddr o [.ptr i 0] = some (.ptr i o) := fun _ _ => by simp [pFieldAddr]
  induction r with
  | nil =>
    intro pre H fr τ m he hm hw hK hL hR f0 f1 f5
    obtain ⟨m, rfl⟩ : ∃ j, m = j + 1 := ⟨m - 1, by omega⟩
    refine ⟨H, fun j it hj => ?_, hK, hL, Chg.refl hw, fun k => ?_⟩
    · have := hR j it hj
      rw [if_pos (by have := (List.getElem?_eq_some_iff.1 hj).1; rw [he] at this; simpa using this)] at this
      exact this
    · have ld0 : lLoad1 [.ptr K 0] H = some L := load_cell hK.cells rfl
      have e1 : decide ((pre.length : Int) < (its.length : Int)) = false := decide_eq_false (by rw [he]; simp)
      rw [loopK_succ]
      simp only [s18_l5, getK_mk f0, getK_mk f1, getK_mk f5, nk, someK_mk, fa, ld0, hL.rd.pLen, bin_lss, e1, condK_f]
      rfl
  | cons it r ih =>
    intro pre H fr τ m he hm hw hK hL hR f0 f1 f5
    obtain ⟨m, rfl⟩ : ∃ j, m = j + 1 := ⟨m - 1, by omega⟩
    have hit : its[pre.length]? = some it := by rw [he]; simp
    have hlen : pre.length < its.length := by rw [he]; simp
    have hc := hcap _ _ hit
    have ld0 : lLoad1 [.ptr K 0] H = some L := load_cell hK.cells rfl
    have e1 : decide ((pre.length : Int) < (its.length : Int)) = true := decide_eq_true (by omega)
    obtain ⟨p, p1, p2⟩ := hL.rd.elem1 (i := pre.length) (x := it.v) (by rw [List.getElem?_map, hit]; rfl)
    have hRi := hR _ _ hit
    rw [if_neg (by omega)] at hRi
    obtain ⟨v', q1, q2, q3, q4⟩ := hRi.full
    obtain ⟨H1, a1, a2, a3⟩ := l18w c N h19 (fun i => lab i = 2 * pre.length + 4) it.v v' it.cap pre.length (by omega) hc (.ptr K 0) q2 q3 it.cap 0 H
      (T.set (T.set (T.set (T.set (T.set .leaf 0 (.ptr K 0)) 1 (.func 19 [] [])) 5 (.int .i64 (pre.length : Int))) 6 v') 7 (.int .i64 (.ofNat 0))) τ N (by omega) (by omega) hw (by simpa using hRi)
      (by simp [T.get_set]) (by simp [T.get_set]) (by simp [T.get_set]) (by simp [T.get_set]) (by simp [T.get_set])
    have e3 : wr .i64 ((pre.length : Int) + Int.ofNat 1) = ((pre ++ [it]).length : Int) := by
      rw [wr_id (by simp; omega) (by simp; omega)]; simp
    obtain ⟨H', r1, r2, r3, r4, r5⟩ := ih (pre ++ [it]) H1 (T.set (T.set (T.set (T.set (T.set (T.set .leaf 0 (.ptr K 0)) 1 (.func 19 [] [])) 5 (.int .i64 (pre.length : Int))) 21 (.int .i64 (pre.length : Int))) 22 (.int .i64 ((pre ++ [it]).length : Int))) 5 (.int .i64 ((pre ++ [it]).length : Int)))
      τ m (by rw [he]; simp) (by simp at hm; omega) a2.wf (hK.chg hw a2 (by omega)) (hL.chg hw a2 fun i _ q1 q2 => by omega)
      (fun j jt hj => by
        by_cases hji : j = pre.length
        · subst hji
          rw [hit] at hj
          cases hj
          rw [if_pos (by simp)]
          exact a1
        · have := (hR j jt hj).chg hw a2 fun i _ q1 q2 => by omega
          have hif : (j < (pre ++ [it]).length) = (j < pre.length) := by
            simp only [List.length_append, List.length_singleton, eq_iff_iff]; omega
          rw [show (if j < (pre ++ [it]).length then marks j jt.cap else []) = (if j < pre.length then marks j jt.cap else []) by simp only [hif]]
          exact this)
      (by simp [T.get_set]) (by simp [T.get_set]) (by simp [T.get_set])
    refine ⟨H', r1, r2, r3, (a2.weaken fun i _ q => by omega).trans r4 fun _ _ q => q, fun k => ?_⟩
    rw [loopK_succ]
    simp only [s18_l5, getK_mk f0, getK_mk f1, getK_mk f5, nk, someK_mk, fa, ld0, hL.rd.pLen, bin_lss, e1, condK_t, p1, p2, hRi.pCap, q1]
    rw [a3]
    simp only [blockK, Nat.beq_refl, cond_true, cond_false, seqK, s18_j6, getK_set, ↓reduceIte, Nat.reduceEqDiff, bin_add, e3]
    exact r5 k

/-- each holds its own mark -/
theorem l18c (c : CallK) (N : Nat) (hN : 9223372036854775807 ≤ N) (h19 : Mark19 c) (lab : Nat → Nat) (K : Nat) (its : List It) (hits : its.length < 1000000) (hcap : ∀ (j : Nat) it, its[j]? = some it → it.cap ≤ 1000000) (L W x2 x3 : V) (H : Heap) (hK : Bx H K [L, W, x2, x3]) (hL : OwnP (fun i => lab i = 2) H 1 L its.length (its.map It.v))
    (hR : ∀ (j : Nat) it, its[j]? = some it → RoomW (fun i => lab i = 2 * j + 4) H it.v it.cap (marks j it.cap)) :
    ∀ (r pre : List It) (fr : T V) (τ : Tape) (m : Nat), its = pre ++ r → r.length < m →
    fr.get 0 = some (.ptr K 0) → fr.get 1 = some (.func 19 [] []) → fr.get 8 = some (.int .i64 (pre.length : Int)) →
    ∀ k, loopK (s18_l2 c N) m ⟨fr, H⟩ τ k = k (.exit 4) ⟨(T.set .leaf 0 (.ptr K 0)), H⟩ τ := by
  intro r
  have nk : ∀ (i o : Nat), pNilck [.ptr i o] = some (.ptr i o) := fun _ _ => rfl
  have fa : ∀ (i o : Nat), pFieldAddr o [.ptr i 0] = some (.ptr i o) := fun _ _ => by simp [pFieldAddr]
  have ld0 : lLoad1 [.ptr K 0] H = some L := load_cell hK.cells rfl
  induction r with
  | nil =>
    intro pre fr τ m he hm f0 f1 f8 k
    obtain ⟨m, rfl⟩ : ∃ j, m = j + 1 := ⟨m - 1, by omega⟩
    have e1 : decide ((pre.length : Int) < (its.length : Int)) = false := decide_eq_false (by rw [he]; simp)
    rw [loopK_succ]
    simp only [s18_l2, getK_mk f0, getK_mk f1, getK_mk f8, nk, someK_mk, fa, ld0, hL.rd.pLen, bin_lss, e1, condK_f]
    rfl
  | cons it r ih =>
    intro pre fr τ m he hm f0 f1 f8 k
    obtain ⟨m, rfl⟩ : ∃ j, m = j + 1 := ⟨m - 1, by omega⟩
    have hit : its[pre.length]? = some it := by rw [he]; simp
    have hlen : pre.length < its.length := by rw [he]; simp
    have hc := hcap _ _ hit
    have e1 : decide ((pre.length : Int) < (its.length : Int)) = true := decide_eq_true (by omega)
    obtain ⟨p, p1, p2⟩ := hL.rd.elem1 (i := pre.length) (x := it.v) (by rw [List.getElem?_map, hit]; rfl)
    have hRi := hR _ _ hit
    obtain ⟨v', q1, q2, q3, q4⟩ := hRi.full
    have a3 := l18r c N h19 v' it.cap pre.length (by omega) hc (.ptr K 0) H q2 (q4 H _ hRi) it.cap 0
      (T.set (T.set (T.set (T.set (T.set .leaf 0 (.ptr K 0)) 1 (.func 19 [] [])) 8 (.int .i64 (pre.length : Int))) 9 v') 10 (.int .i64 (.ofNat 0))) τ N (by omega) (by omega)
      (by simp [T.get_set]) (by simp [T.get_set]) (by simp [T.get_set]) (by simp [T.get_set]) (by simp [T.get_set])
    have e3 : wr .i64 ((pre.length : Int) + Int.ofNat 1) = ((pre ++ [it]).length : Int) := by
      rw [wr_id (by simp; omega) (by simp; omega)]; simp
    rw [loopK_succ]
    simp only [s18_l2, getK_mk f0, getK_mk f1, getK_mk f8, nk, someK_mk, fa, ld0, hL.rd.pLen, bin_lss, e1, condK_t, p1, p2, hRi.pCap, q1]
    rw [a3]
    simp only [blockK, Nat.beq_refl, cond_true, cond_false, seqK, s18_j3, getK_set, ↓reduceIte, Nat.reduceEqDiff, bin_add, e3]
    exact ih (pre ++ [it]) _ τ m (by rw [he]; simp) (by simp at hm; omega) (by simp [T.get_set]) (by simp [T.get_set]) (by simp [T.get_set]) k

/-- APART: the lists of a book lie apart -/
theorem s18_ret (c : CallK) (N : Nat) (hN : 9223372036854775807 ≤ N) (lab : Nat → Nat) (K : Nat) (its : List It) (held : Nat) (hits : its.length < 1000000) (hB : BytesIts its) (h19 : Mark19 c)
    (h27 : ∀ H, WF H → BookI lab H K its held → ∀ τ, ∃ H', BookI lab H' K its held ∧ Chg (fun i => lab i = 1) H H' ∧ ∀ q, c 27 [.ptr K 0] H τ q = q (.bool true) H' τ)
    (H : Heap) (hw : WF H) (hb : BookI lab H K its held) (τ : Tape) :
    ∃ H', Chg (fun i => lab i ≠ 0) H H' ∧ ∀ q, s18 c N (.ptr K 0) (.func 19 [] []) H τ q = q (.bool true) H' τ := by
  obtain ⟨H1, b1, g1, k1⟩ := h27 H hw hb τ
  obtain ⟨L, W, h1, h2, h3, h4, h5⟩ := b1
  obtain ⟨H2, a1, a2, a3, a4, a5⟩ := l18o c N hN h19 lab K its hits (fun j it hj => (hB j it hj).1) L W _ _ h2 its [] H1 (T.set (T.set (T.set .leaf 0 (.ptr K 0)) 1 (.func 19 [] [])) 5 (.int .i64 (.ofNat 0))) τ N rfl (by omega) g1.wf h1 h3
    (fun j it hj => by have := (h5 j it hj).1.take 0; simpa using this) (by simp [T.get_set]) (by simp [T.get_set]) (by simp [T.get_set])
  have a6 := l18c c N hN h19 lab K its hits (fun j it hj => (hB j it hj).1) L W _ _ H2 a2 a3 a1 its [] (T.set (T.set (T.set .leaf 0 (.ptr K 0)) 1 (.func 19 [] [])) 8 (.int .i64 (.ofNat 0))) τ N rfl (by omega)
    (by simp [T.get_set]) (by simp [T.get_set]) (by simp [T.get_set])
  obtain ⟨H3, s1, s2, s3⟩ := a2.eStore a4.wf 0 .nils 1 rfl (by simp) (by omega) rfl τ
  simp only [V.cells, List.take_zero, List.nil_append, List.singleton_append, List.drop_succ_cons, List.drop_zero, Nat.zero_add] at s2
  obtain ⟨H4, t1, t2, t3⟩ := s2.eStore s3.wf 1 .nils 1 rfl (by simp) (by omega) rfl τ
  simp only [V.cells, List.take_succ_cons, List.take_zero, List.cons_append, List.nil_append, List.drop_succ_cons, List.drop_zero, Nat.reduceAdd] at t2
  obtain ⟨H5, u1, u2, u3⟩ := t2.eStore t3.wf 2 (.int .i64 (.ofNat 0)) 1 rfl (by simp) (by omega) rfl τ
  refine ⟨H5, ?_, fun q => ?_⟩
  · have n1 : ∀ {H H'}, Only K H H' → Chg (fun i => lab i ≠ 0) H H' := fun h => h.chg (by omega)
    exact (((((g1.weaken fun i _ q => by omega).trans (a4.weaken (Q := fun i => lab i ≠ 0) fun i _ q => by omega) fun _ _ q => q)).trans (n1 s3) fun _ _ q => q).trans (n1 t3) fun _ _ q => q).trans (n1 u3) fun _ _ q => q
  · have nk : ∀ (i o : Nat), pNilck [.ptr i o] = some (.ptr i o) := fun _ _ => rfl
    have fa : ∀ (i o : Nat), pFieldAddr o [.ptr i 0] = some (.ptr i o) := fun _ _ => by simp [pFieldAddr]
    have hnot : ∀ (c : V → Ans), unK .not (.bool true) c = c (.bool false) := fun _ => rfl
    simp only [s18, k1, hnot, condK_f]
    rw [a5]
    simp only [blockK, Nat.beq_refl, cond_true, cond_false, seqK, s18_j0, getK_set, ↓reduceIte, Nat.reduceEqDiff]
    rw [a6]
    simp only [blockK, Nat.beq_refl, cond_true, cond_false, seqK, s18_j1, getK_set, ↓reduceIte, Nat.reduceEqDiff, nk, someK_mk, fa, s1, t1, u1, effK_mk]
end Go.Am.AmTrydDig

