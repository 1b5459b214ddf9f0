/- Texts for the law DigestSums: the machine, printed functions of the program, and what they are shown to be. -/
import Derived.Test.YtbiimljinilefaaDoorSC17
namespace Go.Am.AmTrydDig
set_option linter.unusedSimpArgs false
set_option linter.unusedVariables false
set_option linter.unusedSectionVars false
/-! ### digest.Same -/
def diffT : Nat → List Nat → List Nat → Nat
  | d, a :: la, b :: lb => diffT (lorT .u8 d (xorT .u8 a b)) la lb
  | d, _, _ => d
theorem p8 : pow2 .u8 = 2 ^ 8 := by decide
theorem lor8 {a b : Nat} (ha : a < 256) (hb : b < 256) : lorT .u8 a b = a ||| b := by
  unfold lorT; rw [p8, Nat.mod_eq_of_lt (show a < 2 ^ 8 by omega), Nat.mod_eq_of_lt (show b < 2 ^ 8 by omega)]
  exact Nat.mod_eq_of_lt (Nat.or_lt_two_pow (show a < 2 ^ 8 by omega) (show b < 2 ^ 8 by omega))
theorem xor8 {a b : Nat} (ha : a < 256) (hb : b < 256) : xorT .u8 a b = a ^^^ b := by
  unfold xorT; rw [p8, Nat.mod_eq_of_lt (show a < 2 ^ 8 by omega), Nat.mod_eq_of_lt (show b < 2 ^ 8 by omega)]
  exact Nat.mod_eq_of_lt (Nat.xor_lt_two_pow (show a < 2 ^ 8 by omega) (show b < 2 ^ 8 by omega))
theorem xor_zero_iff (a b : Nat) : a ^^^ b = 0 ↔ a = b := by
  constructor
  · intro h
    have h1 : (a ^^^ b) ^^^ b = a := by rw [Nat.xor_assoc, Nat.xor_self, Nat.xor_zero]
    rw [h, Nat.zero_xor] at h1
    exact h1.symm
  · intro h; rw [h, Nat.xor_self]
theorem diff_zero : ∀ (la lb : List Nat) (d : Nat), la.length = lb.length → (∀ x ∈ la, x < 256) → (∀ x ∈ lb, x < 256) → d < 256 → (diffT d la lb = 0 ↔ d = 0 ∧ la = lb) := by
  intro la
  induction la with
  | nil =>
    intro lb d h _ _ _
    have : lb = [] := List.eq_nil_of_length_eq_zero (by rw [← h]; rfl)
    subst this; simp [diffT]
  | cons a la ih =>
    intro lb d h ha hb hd
    cases lb with
    | nil => simp at h
    | cons b lb =>
      have a1 := ha a (by simp)
      have b1 := hb b (by simp)
      have hx : a ^^^ b < 256 := Nat.xor_lt_two_pow (n := 8) a1 b1
      rw [diffT, xor8 a1 b1, lor8 hd hx, ih lb _ (by simpa using h) (fun x hx => ha x (by simp [hx])) (fun x hx => hb x (by simp [hx])) (Nat.or_lt_two_pow (n := 8) hd hx)]
      rw [Nat.or_eq_zero_iff, xor_zero_iff]
      simp only [List.cons.injEq]
      exact ⟨fun ⟨⟨h1, h2⟩, h3⟩ => ⟨h1, h2, h3⟩, fun ⟨h1, h2, h3⟩ => ⟨⟨h1, h2⟩, h3⟩⟩
theorem l9q (c : CallK) (N : Nat) (a b : V) (la lb : List Nat) (hlen : la.length < 1000000) (H : Heap) (ha : Rd H 1 a la.length (ws .u8 la)) (hb : Rd H 1 b lb.length (ws .u8 lb)) (heq : la.length = lb.length) :
    ∀ (l1 l2 pre1 pre2 : List Nat) (d : Nat) (fr : T V) (τ : Tape) (m : Nat), la = pre1 ++ l1 → lb = pre2 ++ l2 → pre1.length = pre2.length → l1.length < m → fr.get 0 = some a → fr.get 1 = some b → fr.get 5 = some (.int .u8 (d : Int)) → fr.get 13 = some (.int .i64 (la.length : Int)) → fr.get 14 = some (.int .i64 (pre1.length : Int)) →
    ∀ k, loopK (s9_l1 c N) m ⟨fr, H⟩ τ k = k (.exit 0) ⟨(T.set .leaf 5 (.int .u8 ((diffT d l1 l2 : Nat) : Int))), H⟩ τ := by
  intro l1
  induction l1 with
  | nil =>
    intro l2 pre1 pre2 d fr τ m h1 h2 hp hm f0 f1 f5 f13 f14 k
    obtain ⟨m, rfl⟩ : ∃ j, m = j + 1 := ⟨m - 1, by omega⟩
    have e1 : decide ((pre1.length : Int) < (la.length : Int)) = false := decide_eq_false (by rw [h1]; simp)
    have ed : diffT d [] l2 = d := by cases l2 <;> rfl
    rw [loopK_succ, ed]
    simp only [s9_l1, getK_mk f0, getK_mk f1, getK_mk f5, getK_mk f13, getK_mk f14, bin_lss, e1, condK_fn]
    rfl
  | cons x l1 ih =>
    intro l2 pre1 pre2 d fr τ m h1 h2 hp hm f0 f1 f5 f13 f14 k
    obtain ⟨m, rfl⟩ : ∃ j, m = j + 1 := ⟨m - 1, by omega⟩
    cases l2 with
    | nil =>
      exfalso
      have q1 := congrArg List.length h1
      have q2 := congrArg List.length h2
      simp at q1 q2; omega
    | cons y l2 =>
      have e1 : decide ((pre1.length : Int) < (la.length : Int)) = true := decide_eq_true (by rw [h1]; simp; omega)
      obtain ⟨p, p1, p2⟩ := ha.elem1 (i := pre1.length) (x := .int .u8 (x : Int)) (by rw [h1]; simp [ws])
      obtain ⟨p', p3, p4⟩ := hb.elem1 (i := pre1.length) (x := .int .u8 (y : Int)) (by rw [h2, hp]; simp [ws])
      have hl : pre1.length < la.length := by rw [h1]; simp
      have e3 : wr .i64 ((pre1.length : Int) + Int.ofNat 1) = ((pre1 ++ [x]).length : Int) := by
        rw [wr_id (by simp; omega) (by simp; omega)]; simp
      have xorE : ∀ (q : V → Ans) (x y : Nat), binK .xor (.int .u8 (x : Int)) (.int .u8 (y : Int)) q = q (.int .u8 ((xorT .u8 x y : Nat) : Int)) := fun q x y => u_xor uk8 x y q
      have lorE : ∀ (q : V → Ans) (x y : Nat), binK .or (.int .u8 (x : Int)) (.int .u8 (y : Int)) q = q (.int .u8 ((lorT .u8 x y : Nat) : Int)) := fun q x y => u_or uk8 x y q
      rw [loopK_succ]
      simp only [s9_l1, getK_mk f0, getK_mk f1, getK_mk f5, getK_mk f13, getK_mk f14, bin_lss, e1, condK_tn, p1, p2, p3, p4, someK_n, xorE, lorE, bin_add, e3]
      exact ih l2 (pre1 ++ [x]) (pre2 ++ [y]) (lorT .u8 d (xorT .u8 x y)) _ τ m (by rw [h1]; simp) (by rw [h2]; simp) (by simp [hp]) (by simp at hm; omega) (by simp [T.get_set]) (by simp [T.get_set]) (by simp [T.get_set]) (by simp [T.get_set]) (by simp [T.get_set]) k
theorem s9_ret (c : CallK) (N : Nat) (hN : 9223372036854775807 ≤ N) (a b : V) (la lb : List Nat) (hlen : la.length < 1000000) (hla : ∀ x ∈ la, x < 256) (hlb : ∀ x ∈ lb, x < 256) (H : Heap) (ha : Rd H 1 a la.length (ws .u8 la)) (hb : Rd H 1 b lb.length (ws .u8 lb)) (τ : Tape) (q : KV) :
    s9 c N a b H τ q = q (.bool (decide (la = lb))) H τ := by
  by_cases heq : la.length = lb.length
  · have e2 : ((la.length : Int) != (lb.length : Int)) = false := by simp; omega
    simp only [s9, ha.pLen, hb.pLen, someK_n, bin_neq, e2, condK_fn]
    rw [l9q c N a b la lb hlen H ha hb heq la lb [] [] 0 _ τ N rfl rfl rfl (by omega) (by simp [T.get_set]) (by simp [T.get_set]) (by simp [T.get_set]) (by simp [T.get_set]) (by simp [T.get_set])]
    have hz := diff_zero la lb 0 heq hla hlb (by omega)
    have e3 : (((diffT 0 la lb : Nat) : Int) == Int.ofNat 0) = decide (la = lb) := by
      rw [Bool.eq_iff_iff, beq_iff_eq, decide_eq_true_iff]
      constructor
      · intro h; exact (hz.1 (Int.ofNat.inj h)).2
      · intro h
        rw [hz.2 ⟨rfl, h⟩]; rfl
    simp only [blockK, Nat.beq_refl, cond_true, seqK, s9_j0, getK_set, ↓reduceIte, bin_eql, e3]
  · have e2 : ((la.length : Int) != (lb.length : Int)) = true := by simp; omega
    have h : ¬ la = lb := fun h => heq (by rw [h])
    simp only [s9, ha.pLen, hb.pLen, someK_n, bin_neq, e2, condK_tn]
    rw [decide_eq_false h]

/-! ### a list with room that is the caller's -/
theorem Bx.stores {H : Heap} {id : Nat} {cs : List V} (h : Bx H id cs) (hw : WF H) (off : Nat) (vs : List V) (hl : off + vs.length ≤ cs.length) (hs : vs.all V.scal = true) :
    ∃ H', H.stores id off vs = some H' ∧ Bx H' id (cs.take off ++ vs ++ cs.drop (off + vs.length)) ∧ Only id H H' := by
  by_cases h0 : vs = []
  · subst h0
    refine ⟨H, rfl, by simpa using h, ⟨hw, rfl, fun _ _ => rfl, fun _ _ => rfl⟩⟩
  · have hpos : 0 < vs.length := List.length_pos_iff.mpr h0
    obtain ⟨H', h1, h2, h3⟩ := h.eStore hw off (.agg vs) vs.length rfl hl hpos hs (fun _ => 0)
    refine ⟨H', ?_, h2, h3⟩
    simp only [Am.eStore, V.cells, Nat.beq_refl, cond_true] at h1
    split at h1
    · rename_i H'' hst
      simp only [Option.some.injEq, Prod.mk.injEq] at h1
      rw [hst, h1.2.1]
    · cases h1
def roomL (bs : List Nat) (n : Nat) : List Nat := bs ++ List.replicate n 165
theorem l13q (c : CallK) (N : Nat) (b M : Nat) (hM : M < 1000000) :
    ∀ (n i : Nat) (L : List Nat) (H : Heap) (fr : T V) (τ : Tape) (m : Nat), i + n = M → n < m → L.length = M → WF H → Bx H b (ws .u8 L) →
    fr.get 1 = some (.int .u8 ((165 : Nat) : Int)) → fr.get 5 = some (.sl b 0 M M none 1) → fr.get 6 = some (.int .i64 (i : Int)) →
    ∃ H', Bx H' b (ws .u8 (L.take i ++ List.replicate n 165)) ∧ Chg (fun i => i = b) H H' ∧ ∀ k, loopK (s13_l1 c N) m ⟨fr, H⟩ τ k = k (.exit 0) ⟨(T.set .leaf 5 (.sl b 0 M M none 1)), H'⟩ τ := by
  intro n
  have pl : pLen [.sl b 0 M M none 1] = some (.int .i64 (M : Int)) := rfl
  induction n with
  | zero =>
    intro i L H fr τ m hi hm hL hw hb f1 f5 f6
    obtain ⟨m, rfl⟩ : ∃ j, m = j + 1 := ⟨m - 1, by omega⟩
    refine ⟨H, ?_, Chg.refl hw, fun k => ?_⟩
    · rw [List.take_of_length_le (by omega)]; simpa using hb
    · have e1 : decide ((i : Int) < (M : Int)) = false := decide_eq_false (by omega)
      rw [loopK_succ]
      simp only [s13_l1, getK_mk f1, getK_mk f5, getK_mk f6, pl, someK_n, bin_lss, e1, condK_fn]
      rfl
  | succ n ih =>
    intro i L H fr τ m hi hm hL hw hb f1 f5 f6
    obtain ⟨m, rfl⟩ : ∃ j, m = j + 1 := ⟨m - 1, by omega⟩
    have e1 : decide ((i : Int) < (M : Int)) = true := decide_eq_true (by omega)
    have ei : pSlIdx 1 [.sl b 0 M M none 1, .int .i64 (i : Int)] = some (.ptr b i) := by
      have hbt : Nat.blt i M = true := by simp [Nat.blt]; omega
      simp [pSlIdx, natOf_nat, hbt]
    obtain ⟨H1, s1, b1, o1⟩ := hb.word hw (i := i) (by omega) 165 τ
    have g1 : Chg (fun i => i = b) H H1 := o1.chg rfl
    have e4 : wr .i64 ((i : Int) + Int.ofNat 1) = ((i + 1 : Nat) : Int) := adN (k := 1) (by omega)
    obtain ⟨H', r1, r2, r3⟩ := ih (i + 1) (L.set i 165) H1 (T.set (T.set (T.set (T.set (T.set (T.set .leaf 1 (.int .u8 ((165 : Nat) : Int))) 5 (.sl b 0 M M none 1)) 6 (.int .i64 (i : Int))) 20 (.int .i64 (i : Int))) 21 (.int .i64 ((i + 1 : Nat) : Int))) 6 (.int .i64 ((i + 1 : Nat) : Int)))
      τ m (by omega) (by omega) (by simp [hL]) o1.wf b1 (by simp [T.get_set]) (by simp [T.get_set]) (by simp [T.get_set])
    have et : (L.set i 165).take (i + 1) ++ List.replicate n 165 = L.take i ++ List.replicate (n + 1) 165 := by
      rw [List.take_add_one, List.take_set_of_le (Nat.le_refl _), List.getElem?_set_self (by omega)]
      simp [List.replicate_succ]
    rw [et] at r1
    refine ⟨H', r1, g1.trans r2 fun _ _ q => q, fun k => ?_⟩
    rw [loopK_succ]
    simp only [s13_l1, getK_mk f1, getK_mk f5, getK_mk f6, pl, someK_n, bin_lss, e1, condK_tn, ei, s1, effK_n, bin_add, e4]
    exact r3 k
theorem Rd.srcCells {H : Heap} {v : V} {n : Nat} {cs : List V} (h : Rd H 1 v n cs) (hs : Src H v) : srcLen v = some n ∧ Am.srcCells H 1 n v = some cs := by
  have hl := h.len
  rcases h with ⟨rfl | ⟨id, off, lo, ex, rfl⟩, rfl, rfl⟩ | ⟨id, off, lo, ex, all, rfl, h1, h2, h3⟩
  · exact ⟨rfl, rfl⟩
  · obtain ⟨all, ha⟩ := hs
    refine ⟨rfl, ?_⟩
    simp only [Am.srcCells, Nat.beq_refl, cond_true, Heap.loads, ha, Nat.zero_mul]
    cases all.drop off <;> rfl
  · refine ⟨rfl, ?_⟩
    simp only [Am.srcCells, Nat.beq_refl, cond_true, Heap.loads, h1]
    have hle : n * 1 ≤ (all.drop off).length := by
      have := congrArg List.length h2
      rw [h3, List.length_take] at this
      omega
    rw [takeN_all _ _ hle, ← h2]
theorem s13_ret (c : CallK) (N : Nat) (hN : 9223372036854775807 ≤ N) (v : V) (bs : List Nat) (hlen : bs.length ≤ 1000) (H : Heap) (hw : WF H) (hRd : Rd H 1 v bs.length (ws .u8 bs)) (hsr : Src H v) (τ : Tape) :
    ∃ H', Bx H' H.size (ws .u8 (roomL bs 80)) ∧ Gr H.size H H' ∧ ∀ q, s13 c N v (.int .u8 (.ofNat 165)) H τ q = q (.sl H.size 0 (bs.length + 80) (bs.length + 80) none 1) H' τ := by
  have hrep : repl (bs.length + 80) [(.int .u8 (.ofNat 0))] = ws .u8 (List.replicate (bs.length + 80) 0) := by rw [repl_one]; simp [ws]
  have a3 : eMakeSlice 1 1 [(.int .u8 (.ofNat 0))] [.int .i64 ((bs.length + 80 : Nat) : Int), .int .i64 ((bs.length + 80 : Nat) : Int)] H τ = some (.sl H.size 0 (bs.length + 80) (bs.length + 80) none 1, H.new (ws .u8 (List.replicate (bs.length + 80) 0)) ((bs.length + 80) * 1) false, τ) := by
    have e1 : Nat.ble (bs.length + 80) (bs.length + 80) = true := Nat.ble_eq_true_of_le (Nat.le_refl _)
    have e2 : Nat.ble ((bs.length + 80) * 1) 274877906944 = true := Nat.ble_eq_true_of_le (by omega)
    have e3 : Nat.ble (bs.length + 80) 274877906944 = true := Nat.ble_eq_true_of_le (by omega)
    simp only [eMakeSlice, natOf_mk, e1, e2, e3, Bool.and_self, cond_true, hrep]
  have g3 := Gr.new hw (ws .u8 (List.replicate (bs.length + 80) 0)) ((bs.length + 80) * 1) false
  have b3 := Bx.new H (ws .u8 (List.replicate (bs.length + 80) 0)) ((bs.length + 80) * 1) false (by rw [ws_len]; simp)
  generalize H.new (ws .u8 (List.replicate (bs.length + 80) 0)) ((bs.length + 80) * 1) false = H3 at a3 g3 b3
  obtain ⟨q1, q2⟩ := Rd.srcCells (hRd.gr g3 hw (Nat.le_refl _)) (hsr.gr g3 hw (Nat.le_refl _))
  obtain ⟨H4, s4, b4, o4⟩ := Bx.stores b3 g3.wf 0 (ws .u8 bs) (by rw [ws_len, ws_len]; simp) (ws_scal' _ _)
  have eb : (ws .u8 (List.replicate (bs.length + 80) 0)).take 0 ++ ws .u8 bs ++ (ws .u8 (List.replicate (bs.length + 80) 0)).drop (0 + (ws .u8 bs).length) = ws .u8 (bs ++ List.replicate 80 0) := by
    rw [ws_len, Nat.zero_add, List.take_zero, List.nil_append]
    simp [ws, ← List.map_drop, List.drop_replicate]
  rw [eb] at b4
  have a4 : eCopy 1 [.sl H.size 0 (bs.length + 80) (bs.length + 80) none 1, v] H3 τ = some (.int .i64 (.ofNat bs.length), H4, τ) := by
    have e1 : Nat.ble bs.length (bs.length + 80) = true := Nat.ble_eq_true_of_le (by omega)
    simp only [eCopy, q1, e1, cond_true, Nat.beq_refl, q2, s4]
  obtain ⟨H5, b5, g5, k5⟩ := l13q c N H.size (bs.length + 80) (by omega) 80 bs.length (bs ++ List.replicate 80 0) H4 (T.set (T.set (T.set .leaf 1 (.int .u8 (.ofNat 165))) 5 (.sl H.size 0 (bs.length + 80) (bs.length + 80) none 1)) 6 (.int .i64 (bs.length : Int))) τ N rfl (by omega) (by simp) o4.wf b4
    (by simp [T.get_set]) (by simp [T.get_set]) (by simp [T.get_set])
  have e5 : (bs ++ List.replicate 80 0).take bs.length ++ List.replicate 80 165 = roomL bs 80 := by rw [List.take_left' rfl]; rfl
  rw [e5] at b5
  have z4 := o4.size
  have z3 := g3.size
  refine ⟨H5, b5, (g3.trans (o4.gr (B := H.size) (Nat.le_refl _)) (Nat.le_refl _)).trans (g5.gr (B := H.size) (by omega) fun i hi e => by omega) (Nat.le_refl _), fun q => ?_⟩
  have e80 : wr .i64 ((bs.length : Int) + Int.ofNat 80) = ((bs.length + 80 : Nat) : Int) := adN (k := 80) (by omega)
  simp only [s13, hRd.pLen, someK_n, bin_add, e80, a3, effK_n, a4]
  rw [k5]
  simp only [blockK, Nat.beq_refl, cond_true, seqK, s13_j0, getK_set, ↓reduceIte]

theorem l15q (c : CallK) (N : Nat) (v : V) (bs : List Nat) (hlen : bs.length ≤ 1000) (H : Heap) (hRd : Rd H 1 v (roomL bs 80).length (ws .u8 (roomL bs 80))) :
    ∀ (n i : Nat) (fr : T V) (τ : Tape) (m : Nat), bs.length ≤ i → i + n = (roomL bs 80).length → n < m → fr.get 0 = some v → fr.get 2 = some (.int .u8 (.ofNat 165)) → fr.get 7 = some (.int .i64 (i : Int)) →
    ∀ k, loopK (s15_l1 c N) m ⟨fr, H⟩ τ k = k (.exit 0) ⟨.leaf, H⟩ τ := by
  have hrl : (roomL bs 80).length = bs.length + 80 := by simp [roomL]
  intro n
  induction n with
  | zero =>
    intro i fr τ m hb hi hm f0 f2 f7 k
    obtain ⟨m, rfl⟩ : ∃ j, m = j + 1 := ⟨m - 1, by omega⟩
    have e1 : decide ((i : Int) < ((roomL bs 80).length : Int)) = false := decide_eq_false (by omega)
    rw [loopK_succ]
    simp only [s15_l1, getK_mk f0, getK_mk f2, getK_mk f7, hRd.pLen, someK_n, bin_lss, e1, condK_fn]
    rfl
  | succ n ih =>
    intro i fr τ m hb hi hm f0 f2 f7 k
    obtain ⟨m, rfl⟩ : ∃ j, m = j + 1 := ⟨m - 1, by omega⟩
    have e1 : decide ((i : Int) < ((roomL bs 80).length : Int)) = true := decide_eq_true (by omega)
    have hx : (roomL bs 80)[i]? = some 165 := by
      unfold roomL
      rw [List.getElem?_append_right hb, List.getElem?_replicate, if_pos (by omega)]
    obtain ⟨p, p1, p2⟩ := hRd.elem1 (i := i) (x := .int .u8 ((165 : Nat) : Int)) (by simp [ws, hx])
    have e2 : (((165 : Nat) : Int) != Int.ofNat 165) = false := rfl
    have e4 : wr .i64 ((i : Int) + Int.ofNat 1) = ((i + 1 : Nat) : Int) := adN (k := 1) (by omega)
    rw [loopK_succ]
    simp only [s15_l1, getK_mk f0, getK_mk f2, getK_mk f7, hRd.pLen, someK_n, bin_lss, e1, condK_tn, p1, p2, bin_neq, e2, condK_fn, bin_add, e4]
    exact ih (i + 1) _ τ m (by omega) (by omega) (by omega) (by simp [T.get_set]) (by simp [T.get_set]) (by simp [T.get_set]) k
theorem s15_ret (c : CallK) (N : Nat) (hN : 9223372036854775807 ≤ N) (h26 : Same26 c) (id : Nat) (v : V) (bs : List Nat) (hlen : bs.length ≤ 1000) (H : Heap) (hc : H.cells? id = some (ws .u8 (roomL bs 80))) (hRd : Rd H 1 v bs.length (ws .u8 bs)) (τ : Tape) (q : KV) :
    s15 c N (.sl id 0 (bs.length + 80) (bs.length + 80) none 1) v (.int .u8 (.ofNat 165)) H τ q = q (.bool true) H τ := by
  have hrl : (roomL bs 80).length = bs.length + 80 := by simp [roomL]
  have rdF : Rd H 1 (.sl id 0 (bs.length + 80) (bs.length + 80) none 1) (roomL bs 80).length (ws .u8 (roomL bs 80)) := .inr ⟨id, 0, _, none, _, by rw [hrl], hc, by rw [List.drop_zero, List.take_of_length_le (by rw [ws_len]; omega)], by rw [ws_len]; omega⟩
  have pl : pLen [.sl id 0 (bs.length + 80) (bs.length + 80) none 1] = some (.int .i64 ((bs.length + 80 : Nat) : Int)) := rfl
  have e80 : wr .i64 ((bs.length : Int) + Int.ofNat 80) = ((bs.length + 80 : Nat) : Int) := adN (k := 80) (by omega)
  have e2 : (((bs.length + 80 : Nat) : Int) != ((bs.length + 80 : Nat) : Int)) = false := by simp
  have hcut : pSlSlice 1 false true false [.sl id 0 (bs.length + 80) (bs.length + 80) none 1, .int .i64 (bs.length : Int)] = some (.sl id 0 bs.length (bs.length + 80) none 1) := by
    have hb : bounds3 false true false [V.int .i64 (bs.length : Int)] = some (none, some bs.length, none) := by simp only [bounds3, optN, natOf_mk]
    have hwi : within bs.length (bs.length + 80) none = true := by rw [within_iff]; exact .inl (by omega)
    have h0 : Nat.ble 0 bs.length = true := Nat.ble_eq_true_of_le (Nat.zero_le _)
    have h1 : Nat.ble 0 (bs.length + 80) = true := Nat.ble_eq_true_of_le (Nat.zero_le _)
    simp only [pSlSlice, Nat.beq_refl, cond_true, hb, slCut, Option.getD_some, Option.getD_none, hwi, h0, Bool.and_self, h1, offIn, Nat.sub_zero]
  have rdB : Rd H 1 (.sl id 0 bs.length (bs.length + 80) none 1) bs.length (ws .u8 bs) := .inr ⟨id, 0, _, none, _, rfl, hc, by
    rw [List.drop_zero, Nat.mul_one]; simp [ws, roomL], by rw [ws_len]; omega⟩
  have hs := fun q => h26 (.sl id 0 bs.length (bs.length + 80) none 1) v bs bs H (by omega) rdB hRd τ q
  have hnot : ∀ (c : V → Ans), unK .not (.bool true) c = c (.bool false) := fun _ => rfl
  simp only [s15, pl, hRd.pLen, someK_n, bin_add, e80, bin_neq, e2, gK_do', retK, effK_n, hcut]
  rw [hs]
  simp only [decide_true, retK, effK_n, hnot, pick_mk, cond_false, someK_n, condK_fn]
  rw [l15q c N _ bs hlen H rdF 80 bs.length _ τ N (Nat.le_refl _) (by omega) (by omega) (by simp [T.get_set]) (by simp [T.get_set]) (by simp [T.get_set])]
  simp only [blockK, Nat.beq_refl, cond_true, seqK, s15_j0]
end Go.Am.AmTrydDig

namespace Go.Am.AmTrydDig
set_option linter.unusedSimpArgs false
set_option linter.unusedVariables false
set_option linter.unusedSectionVars false
/-! ### every text has the hash that the document says -/
section
variable {N : Nat} (hN : 9223372036854775807 ≤ N)
include hN
/-- what stays while sizes are gone through -/
structure Keep4 (H : Heap) (t f : Nat) (v c : V) (bs lc : List Nat) (s : V) (l0 : List Int) : Prop where
  wf : WF H
  laid : Laid0 H
  tab : Bx H t (ws .u64 tableP)
  full : H.cells? f = some (ws .u8 (roomL bs 80))
  rd : Rd H 1 v bs.length (ws .u8 bs)
  src : Src H v
  rdc : Rd H 1 c lc.length (ws .u8 lc)
  srcc : Src H c
  sizes : Rd H 1 s l0.length (l0.map fun n => V.int .i64 n)
omit hN in
theorem Keep4.gr {H H' : Heap} {t f : Nat} {v c : V} {bs lc : List Nat} {s : V} {l0 : List Int} (h : Keep4 H t f v c bs lc s l0) (hg : Gr H.size H H') : Keep4 H' t f v c bs lc s l0 :=
  ⟨hg.wf, h.laid.gr hg h.wf (Nat.le_refl _), h.tab.gr hg (h.tab.lt h.wf), hg.cells h.wf (Nat.le_refl _) h.full, h.rd.gr hg h.wf (Nat.le_refl _), h.src.gr hg h.wf (Nat.le_refl _), h.rdc.gr hg h.wf (Nat.le_refl _), h.srcc.gr hg h.wf (Nat.le_refl _), h.sizes.gr hg h.wf (Nat.le_refl _)⟩
omit hN in
theorem fullCut (f n : Nat) : pSlSlice 1 false true false [.sl f 0 (n + 80) (n + 80) none 1, .int .i64 (n : Int)] = some (.sl f 0 n (n + 80) none 1) := by
  have hb : bounds3 false true false [V.int .i64 (n : Int)] = some (none, some n, none) := by simp only [bounds3, optN, natOf_mk]
  have hwi : within n (n + 80) none = true := by rw [within_iff]; exact .inl (by omega)
  have h0 : Nat.ble 0 n = true := Nat.ble_eq_true_of_le (Nat.zero_le _)
  have h1 : Nat.ble 0 (n + 80) = true := Nat.ble_eq_true_of_le (Nat.zero_le _)
  simp only [pSlSlice, Nat.beq_refl, cond_true, hb, slCut, Option.getD_some, Option.getD_none, hwi, h0, Bool.and_self, h1, offIn, Nat.sub_zero]

theorem l1m (d : Nat) (hd : 5 ≤ d) (t f : Nat) (v c : V) (bs lc : List Nat) (hbs : ∀ b ∈ bs, b < 256) (hlen : bs.length ≤ 1000) (s : V) (l0 : List Int) (hll : l0.length < 1000) :
    ∀ (l pre : List Int) (H : Heap) (fr : T V) (τ : Tape) (m : Nat), l0 = pre ++ l → l.length < m → Keep4 H t f v c bs lc s l0 →
    fr.get 1 = some v → fr.get 2 = some c → fr.get 7 = some (.ptr t 0) → fr.get 8 = some (.sl f 0 (bs.length + 80) (bs.length + 80) none 1) → fr.get 9 = some s → fr.get 10 = some (.int .i64 (pre.length : Int)) →
    ∃ H' τ', Keep4 H' t f v c bs lc s l0 ∧ ∀ k, loopK (s4_l1 (C N d) N) m ⟨fr, H⟩ τ k = k (.exit 0) ⟨(T.set (T.set (T.set .leaf 1 v) 2 c) 8 (.sl f 0 (bs.length + 80) (bs.length + 80) none 1)), H'⟩ τ' := by
  intro l
  induction l with
  | nil =>
    intro pre H fr τ m he hm hK f1 f2 f7 f8 f9 f10
    obtain ⟨m, rfl⟩ : ∃ j, m = j + 1 := ⟨m - 1, by omega⟩
    refine ⟨H, τ, hK, fun k => ?_⟩
    have e1 : decide ((pre.length : Int) < (l0.length : Int)) = false := decide_eq_false (by rw [he]; simp)
    rw [loopK_succ]
    simp only [s4_l1, getK_mk f1, getK_mk f2, getK_mk f7, getK_mk f8, getK_mk f9, getK_mk f10, hK.sizes.pLen, someK_n, bin_lss, e1, condK_fn]
    rfl
  | cons x l ih =>
    intro pre H fr τ m he hm hK f1 f2 f7 f8 f9 f10
    obtain ⟨m, rfl⟩ : ∃ j, m = j + 1 := ⟨m - 1, by omega⟩
    have e1 : decide ((pre.length : Int) < (l0.length : Int)) = true := decide_eq_true (by rw [he]; simp; omega)
    have hxi : (l0.map fun n => V.int .i64 n)[pre.length]? = some (.int .i64 x) := by rw [he]; simp
    obtain ⟨p, p1, p2⟩ := hK.sizes.elem1 hxi
    have hl : pre.length < l0.length := by rw [he]; simp
    have e3 : wr .i64 ((pre.length : Int) + Int.ofNat 1) = ((pre ++ [x]).length : Int) := by
      rw [wr_id (by simp; omega) (by simp; omega)]; simp
    have rdF : Rd H 1 (.sl f 0 bs.length (bs.length + 80) none 1) bs.length (ws .u8 bs) := .inr ⟨f, 0, _, none, _, rfl, hK.full, by
      rw [List.drop_zero, Nat.mul_one]; simp [ws, roomL], by rw [ws_len]; omega⟩
    have x0 : ∀ a b : V, pExtract 0 [.tup [a, b]] = some a := fun _ _ => rfl
    have x1 : ∀ a b : V, pExtract 1 [.tup [a, b]] = some b := fun _ _ => rfl
    have ihF := fun H2 τ2 K2 => ih (pre ++ [x]) H2 (T.set (T.set (T.set (T.set (T.set (T.set (T.set (T.set (T.set .leaf 1 v) 2 c) 7 (.ptr t 0)) 8 (.sl f 0 (bs.length + 80) (bs.length + 80) none 1)) 9 s) 10 (.int .i64 (pre.length : Int))) 26 (.int .i64 (pre.length : Int))) 27 (.int .i64 ((pre ++ [x]).length : Int))) 10 (.int .i64 ((pre ++ [x]).length : Int)))
      τ2 m (by rw [he]; simp) (by simp at hm; omega) K2 (by simp [T.get_set]) (by simp [T.get_set]) (by simp [T.get_set]) (by simp [T.get_set]) (by simp [T.get_set]) (by simp [T.get_set])
    by_cases hx : x = 256 ∨ x = 384 ∨ x = 512
    · obtain ⟨b, rfl, hb⟩ : ∃ b : Nat, x = (b : Int) ∧ (b = 256 ∨ b = 384 ∨ b = 512) := by
        rcases hx with rfl | rfl | rfl
        · exact ⟨256, rfl, .inl rfl⟩
        · exact ⟨384, rfl, .inr (.inl rfl)⟩
        · exact ⟨512, rfl, .inr (.inr rfl)⟩
      have hx0 : 0 < b / 8 := by omega
      obtain ⟨y, H1, τ1, y1, g1, k1⟩ := d7_sum hN d hd hb (.sl f 0 bs.length (bs.length + 80) none 1) bs (by omega) (by show within bs.length (bs.length + 80) none = true; rw [within_iff]; exact .inl (by omega)) H hK.wf hK.laid rdF ⟨_, hK.full⟩ τ
      have K1 := hK.gr g1
      obtain ⟨p', p3, p4⟩ := K1.sizes.elem1 hxi
      have hpp : p' = p := by rw [p1] at p3; exact (Option.some.inj p3).symm
      subst hpp
      obtain ⟨z, H2, τ2, z1, g2, k2⟩ := d14 hN d hd hb t v bs hbs (by omega) H1 K1.wf K1.tab K1.rd K1.src τ1
      have K2 := K1.gr g2
      have y2 := y1.gr g2 g1.wf (Nat.le_refl _)
      have sy := str_rd y2 (Rd.src y2 hx0)
      have sz := str_rd z1 (Rd.src z1 hx0)
      have en : strBin .neq (toB (sumT b bs)) (toB (sumT b bs)) = some (.bool false) := by simp [strBin, eqB_eq]
      have e5 : (Int.ofNat 0 == Int.ofNat 0) = true := rfl
      have e6 : pEq true .bool [.bool true, .bool true] = some (.bool false) := rfl
      have hnot : ∀ (c : V → Ans), unK .not (.bool true) c = c (.bool false) := fun _ => rfl
      obtain ⟨H', τ', r1, r2⟩ := ihF H2 τ2 K2
      refine ⟨H', τ', r1, fun k => ?_⟩
      rw [loopK_succ]
      simp only [s4_l1, getK_mk f1, getK_mk f2, getK_mk f7, getK_mk f8, getK_mk f9, getK_mk f10, hK.sizes.pLen, someK_n, bin_lss, e1, condK_tn, p1, p2, hK.rd.pLen, fullCut, k1, x0, x1, p4, k2, bin_eql, e5, e6, gK_do', retK, effK_n, sy, sz, bin_str, en, pick_mk, cond_false, hnot, gK_skip, gK_none, condK_fn, bin_add, e3]
      exact r2 k
    · have h1 : x ≠ 256 := fun h => hx (.inl h)
      have h2 : x ≠ 384 := fun h => hx (.inr (.inl h))
      have h3 : x ≠ 512 := fun h => hx (.inr (.inr h))
      have k1 := fun q => d7_none hN d (by omega) x h1 h2 h3 (.sl f 0 bs.length (bs.length + 80) none 1) H τ q
      obtain ⟨H2, g2, k2⟩ := d14_none hN d (by omega) x h1 h2 h3 (.ptr t 0) v H hK.wf τ
      have K2 := hK.gr g2
      have sn : lBytesStr [.nils] H2 = some (.str []) := rfl
      have en : strBin .neq [] [] = some (.bool false) := rfl
      have e5 : (Int.ofNat 1 == Int.ofNat 0) = false := rfl
      have e6 : pEq true .bool [.bool false, .bool false] = some (.bool false) := rfl
      have e7 : (Int.ofNat 1 != Int.ofNat 1) = false := rfl
      have hnot : ∀ (c : V → Ans), unK .not (.bool false) c = c (.bool true) := fun _ => rfl
      obtain ⟨H', τ', r1, r2⟩ := ihF H2 τ K2
      refine ⟨H', τ', r1, fun k => ?_⟩
      rw [loopK_succ]
      simp only [s4_l1, getK_mk f1, getK_mk f2, getK_mk f7, getK_mk f8, getK_mk f9, getK_mk f10, hK.sizes.pLen, someK_n, bin_lss, e1, condK_tn, p1, p2, hK.rd.pLen, fullCut, k1, x0, x1, k2, bin_eql, e5, e6, gK_do', retK, effK_n, sn, bin_str, en, pick_mk, cond_false, hnot, gK_do, bin_neq, e7, cond_true, condK_fn, bin_add, e3]
      exact r2 k

/-- THE LAW 'DigestSums', on the machine -/
theorem digestSums_run (bits : Int) (v c : V) (n : Nat) (bs lc : List Nat) (hn : n = bs.length) (hbs : ∀ b ∈ bs, b < 256) (hlc : ∀ b ∈ lc, b < 256) (hR : Roomy v) (H : Heap) (hw : WF H) (h0 : Laid0 H) (hRd : Rd H 1 v n (ws .u8 bs)) (hsr : Src H v) (hRc : Rd H 1 c lc.length (ws .u8 lc)) (hsc : Src H c) (τ : Tape) :
    C N 40 4 [.int .i64 bits, v, c] H τ trueK = doneA := by
  obtain ⟨v1, a1, a2, a3, a4⟩ := s11_ret (C N 38) N v n 1000 (ws .u8 bs) (by omega) (by omega) H hR hRd
  have a4' : ∀ τ q, C N 39 11 [v, .int .i64 (.ofNat 1000)] H τ q = q v1 H τ := a4
  have ek : (ws .u8 bs).take 1000 = ws .u8 (bs.take 1000) := by simp [ws, List.map_take]
  have hl : min n 1000 = (bs.take 1000).length := by rw [List.length_take]; omega
  rw [ek, hl] at a3
  have hs1 := a2 hsr
  have hbs' : ∀ b ∈ bs.take 1000, b < 256 := fun b h => hbs b (List.mem_of_mem_take h)
  have hle : (bs.take 1000).length ≤ 1000 := by rw [List.length_take]; omega
  generalize bs.take 1000 = ls at a3 hbs' hle
  obtain ⟨H1, τ1, t1, g1, k1⟩ := d12 hN 39 (by omega) H hw τ
  have rd1 := a3.gr g1 hw (Nat.le_refl _)
  have sr1 := hs1.gr g1 hw (Nat.le_refl _)
  obtain ⟨H2, f2, g2, k2⟩ := s13_ret (C N 38) N hN v1 ls hle H1 g1.wf rd1 sr1 τ1
  have k2' : ∀ q, C N 39 13 [v1, .int .u8 (.ofNat 165)] H1 τ1 q = q (.sl H1.size 0 (ls.length + 80) (ls.length + 80) none 1) H2 τ1 := k2
  have b3 : eBuildSlice 4 1 [(.int .i64 (.ofNat 0)), (.int .i64 (.ofNat 0)), (.int .i64 (.ofNat 0)), (.int .i64 (.ofNat 0))] [(0, 1), (1, 1), (2, 1), (3, 1)] [(.int .i64 (.ofNat 256)), (.int .i64 (.ofNat 384)), (.int .i64 (.ofNat 512)), .int .i64 bits] H2 τ1 = some (.sl H2.size 0 4 4 none 1, H2.new ([256, 384, 512, bits].map fun n => V.int .i64 n) 4 false, τ1) := rfl
  have g3 := Gr.new g2.wf ([256, 384, 512, bits].map fun n => V.int .i64 n) 4 false
  have c3 := cells_new H2 ([256, 384, 512, bits].map fun n => V.int .i64 n) 4 false
  generalize H2.new ([256, 384, 512, bits].map fun n => V.int .i64 n) 4 false = H3 at b3 g3 c3
  have lt1 := t1.lt g1.wf
  have g12 : Gr H.size H H2 := g1.trans g2 g1.size
  have g13 : Gr H.size H H3 := g12.trans g3 g12.size
  have hK : Keep4 H3 H.size H1.size v1 c ls lc (.sl H2.size 0 4 4 none 1) [256, 384, 512, bits] :=
    ⟨g3.wf, h0.gr g13 hw (Nat.le_refl _), (t1.gr g2 lt1).gr g3 (Nat.lt_of_lt_of_le lt1 g2.size), g3.cells g2.wf (Nat.le_refl _) f2.cells, a3.gr g13 hw (Nat.le_refl _), hs1.gr g13 hw (Nat.le_refl _), hRc.gr g13 hw (Nat.le_refl _), hsc.gr g13 hw (Nat.le_refl _),
      .inr ⟨H2.size, 0, 4, none, _, rfl, c3, rfl, rfl⟩⟩
  obtain ⟨H4, τ4, hK4, k4⟩ := l1m hN 39 (by omega) H.size H1.size v1 c ls lc hbs' hle (.sl H2.size 0 4 4 none 1) [256, 384, 512, bits] (by simp) [256, 384, 512, bits] [] H3
    (T.set (T.set (T.set (T.set (T.set (T.set .leaf 1 v1) 2 c) 7 (.ptr H.size 0)) 8 (.sl H1.size 0 (ls.length + 80) (ls.length + 80) none 1)) 9 (.sl H2.size 0 4 4 none 1)) 10 (.int .i64 (.ofNat 0)))
    τ1 N rfl (by simp; omega) hK (by simp [T.get_set]) (by simp [T.get_set]) (by simp [T.get_set]) (by simp [T.get_set]) (by simp [T.get_set]) (by simp [T.get_set])
  have k9 : ∀ q, C N 39 9 [v1, c] H4 τ4 q = q (.bool (decide (ls = lc))) H4 τ4 := fun q => s9_ret (C N 38) N hN v1 c ls lc (by omega) hbs' hlc H4 hK4.rd hK4.rdc τ4 q
  have k15 : ∀ q, C N 39 15 [.sl H1.size 0 (ls.length + 80) (ls.length + 80) none 1, v1, .int .u8 (.ofNat 165)] H4 τ4 q = q (.bool true) H4 τ4 := fun q => s15_ret (C N 38) N hN (d26 hN 38 (by omega)) H1.size v1 ls hle H4 hK4.full hK4.rd τ4 q
  have k10 : ∀ q, C N 39 10 [] H4 τ4 q = q (.bool true) H4 τ4 := fun q => known_mk hK4.laid 38 τ4 q
  have sb := str_rd hK4.rd hK4.src
  have sc := str_rd hK4.rdc hK4.srcc
  have toB_inj : ∀ (l m : List Nat), (∀ x ∈ l, x < 256) → (∀ x ∈ m, x < 256) → toB l = toB m → l = m := by
    intro l
    induction l with
    | nil => intro m _ _ h; cases m with | nil => rfl | cons a m => simp [toB] at h
    | cons a l ihl => intro m hl hm h; cases m with
      | nil => simp [toB] at h
      | cons b m =>
        simp only [toB, List.map_cons, List.cons.injEq] at h
        have ha := hl a (by simp)
        have hb := hm b (by simp)
        have hab : a = b := by
          have := congrArg UInt8.toNat h.1
          rw [UInt8.toNat_ofNat', UInt8.toNat_ofNat'] at this
          omega
        rw [hab, ihl m (fun x hx => hl x (by simp [hx])) (fun x hx => hm x (by simp [hx])) h.2]
  have ee : strBin .eql (toB ls) (toB lc) = some (.bool (decide (ls = lc))) := by
    simp only [strBin, eqB_eq]
    congr 2
    rw [Bool.eq_iff_iff, beq_iff_eq, decide_eq_true_iff]
    exact ⟨toB_inj ls lc hbs' hlc, fun h => by rw [h]⟩
  have e7 : pEq false .bool [.bool (decide (ls = lc)), .bool (decide (ls = lc))] = some (.bool true) := by cases decide (ls = lc) <;> rfl
  have hc : chkLoads [H4, H4, H4, H4] ((.bytesStr, [c], 0, 1) :: ((.bytesStr, [v1], 0, 1) :: [])) = true := by
    simp [chkLoads, evalL, sb, sc, chk1, same, sameL, same1, same0]
  show s4 (C N 39) N (.int .i64 bits) v c H τ trueK = doneA
  simp only [s4, a4', k1, k2', b3, effK_n]
  rw [k4]
  simp only [blockK, Nat.beq_refl, cond_true, seqK, s4_j0, getK_set, ↓reduceIte, Nat.reduceEqDiff, k9, sb, sc, someK_n, bin_str, ee, e7, gK_do, retK, effK_n]
  rw [k15]
  simp only [retK, effK_n, pick_mk, cond_true, someK_n, gK_do]
  rw [k10]
  simp only [retK, effK_n, pick_mk, cond_true, someK_n, hc]
  rfl
end
end Go.Am.AmTrydDig

