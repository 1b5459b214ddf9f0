/- Texts for the law DigestSums: the machine, printed functions of the program, and what they are shown to be. -/
import Derived.Test.YtbiimljinilefaaDoorSC1
import Derived.Test.YtbiimljinilefaaDoorSC2
import Derived.Test.YtbiimljinilefaaDoorSM3
import Derived.KernelRfl
namespace Go.Am.AmTrydDig
set_option linter.unusedSimpArgs false
set_option linter.unusedVariables false
set_option linter.unusedSectionVars false
/-! ### hashes are new memory each time -/
theorem ws_scal (k : IntKind) (l : List Nat) : (ws k l).all V.scal = true := by
  rw [List.all_eq_true]
  intro x hx
  obtain ⟨n, _, rfl⟩ := List.mem_map.1 hx
  rfl
abbrev C (N d : Nat) : CallK := callK (tabOf tabE N) d
theorem C_nat (N d : Nat) : CallNat (C N d) := tab_nat N d
def natsOf : Option (Option (List V)) → List Nat
  | some (some cs) => cs.map fun | .int _ n => n.toNat | _ => 0
  | _ => []
def start256 : List Nat := natsOf st0[1]?
def start384 : List Nat := natsOf st0[3]?
def start512 : List Nat := natsOf st0[4]?
def consts : List Nat := natsOf st0[5]?
theorem st0_0 : st0[0]? = some (some (ws .i64 smallL)) := by kernel_rfl
theorem st0_1 : st0[1]? = some (some (ws .u32 start256)) := by kernel_rfl
theorem st0_2 : st0[2]? = some (some (ws .i64 largeL)) := by kernel_rfl
theorem st0_3 : st0[3]? = some (some (ws .u64 start384)) := by kernel_rfl
theorem st0_4 : st0[4]? = some (some (ws .u64 start512)) := by kernel_rfl
theorem st0_5 : st0[5]? = some (some (ws .u64 consts)) := by kernel_rfl
theorem consts_len : consts.length = 80 := by kernel_rfl
theorem start256_len : start256.length = 8 := by kernel_rfl
theorem start384_len : start384.length = 8 := by kernel_rfl
theorem start512_len : start512.length = 8 := by kernel_rfl
theorem st0_plain : plainL st0 = true := by kernel_rfl
/-- the tables lie in memory -/
def Laid0 (H : Heap) : Prop := ∀ j cs, st0[j]? = some (some cs) → H.cells? j = some cs
theorem Laid0.gr {B : Nat} {H H' : Heap} (h : Laid0 H) (hg : Gr B H H') (hw : WF H) (hB : H.size ≤ B) : Laid0 H' := fun j cs hj => hg.cells hw hB (h j cs hj)
theorem known_mk {N : Nat} {H : Heap} (h : Laid0 H) (d : Nat) (τ : Tape) (q : KV) : C N (d + 1) 10 [] H τ q = q (.bool true) H τ := by
  have hin : inH H 0 st0 = true := inH_mk st0 0 st0_plain fun j cs hj => by rw [Nat.zero_add]; exact h j cs hj
  show effK (closedG st0 [] H τ) q = _
  simp only [closedG, hin, cond_true]
  rfl
section
variable {N : Nat} (hN : 9223372036854775807 ≤ N)
include hN
theorem d35 (d : Nat) (hd : 2 ≤ d) : Lit35 (C N d) := by
  intro x a b e ha hb he H hw τ
  obtain ⟨d, rfl⟩ : ∃ e, d = e + 1 + 1 := ⟨d - 2, by omega⟩
  exact s35_eval (C N (d + 1)) N ha hb he (Nat.le_refl _) (fun n hn H τ q => s40_eval (C N d) N hn (Nat.le_refl _) H τ q) H hw τ
theorem d36 (d : Nat) (hd : 2 ≤ d) : Big36 (C N d) := by
  intro x a b e ha hb he H hw τ
  obtain ⟨d, rfl⟩ : ∃ e, d = e + 1 + 1 := ⟨d - 2, by omega⟩
  exact s36_eval (C N (d + 1)) N ha hb he (Nat.le_refl _) (fun n hn H τ q => s40_eval (C N d) N hn (Nat.le_refl _) H τ q) H hw τ
theorem d29 (d : Nat) (hd : 3 ≤ d) (Cs : List Nat) (hC : Cs.length = 80) : Mix29 (C N d) Cs := by
  intro S K v bs st hKS hlen h128 hR hst H hw hK hS hC5 hRd τ
  obtain ⟨d, rfl⟩ : ∃ e, d = e + 1 := ⟨d - 1, by omega⟩
  exact s29_ret (C N d) N hN S K hKS v bs st Cs hlen h128 hR hst hC (d35 hN d (by omega)) (d36 hN d (by omega)) H hw hK hS hC5 hRd τ
theorem d26 (d : Nat) (hd : 1 ≤ d) : Same26 (C N d) := by
  intro a b la lb H hlen ha hb τ q
  obtain ⟨d, rfl⟩ : ∃ e, d = e + 1 := ⟨d - 1, by omega⟩
  exact s26_ret (C N d) N hN a b la lb hlen H ha hb τ q
theorem d19 (d : Nat) (hd : 1 ≤ d) : Mark19 (C N d) := by
  intro i j hi hj H τ q
  obtain ⟨d, rfl⟩ : ∃ e, d = e + 1 := ⟨d - 1, by omega⟩
  exact s19_ret (C N d) N i j hi hj H τ q
/-- a hash of 384 bits -/
theorem d7_384 (d : Nat) (hd : 5 ≤ d) (v : V) (bs st Cs : List Nat) (hlen : bs.length < 80000) (hR : Roomy v) (hst : st.length = 8) (hC : Cs.length = 80) (H : Heap) (hw : WF H)
    (h2 : H.cells? 2 = some (ws .i64 largeL)) (h3 : H.cells? 3 = some (ws .u64 st)) (h5 : H.cells? 5 = some (ws .u64 Cs)) (hRd : Rd H 1 v bs.length (ws .u8 bs)) (hsr : Src H v) (τ : Tape) :
    ∃ v' H' τ', RoomW (fun i => H.size ≤ i ∧ i < H'.size) H' v' 48 (ws .u8 ((hash64 Cs st bs).take 48)) ∧ pLen [v'] = some (.int .i64 ((48 : Nat) : Int)) ∧ Gr H.size H H' ∧ ∀ q, C N d 7 [.int .i64 (.ofNat 384), v] H τ q = q (.tup [v', .int .i64 (.ofNat 0)]) H' τ' := by
  obtain ⟨d, rfl⟩ : ∃ e, d = e + 1 + 1 := ⟨d - 2, by omega⟩
  obtain ⟨v0, H', τ', r1, r2, r3⟩ := s21_ret (C N d) N hN v bs st Cs hlen hR hst (d29 hN d (by omega) Cs hC) H hw h5 hRd hsr τ
  obtain ⟨v', c1, c2, c3, c4⟩ := (Own.ownP r1 r2.wf).cut3 (k := 48) (by omega) (by omega)
  have e48 : (ws .u8 (hash64 Cs st bs)).take 48 = ws .u8 ((hash64 Cs st bs).take 48) := by simp [ws, List.map_take]
  rw [e48] at c2 c3
  have hrd := c3 H' (by have := Own.rd r1; exact this)
  refine ⟨v', H', τ', c2, hrd.pLen, r2, fun q => ?_⟩
  have l2 : lLoadN 17 [.ptr 2 0] H = some (.agg (ws .i64 largeL)) := load_cells (off := 0) (n := 17) h2 (by decide)
  have l3 : lLoadN 8 [.ptr 3 0] H = some (.agg (ws .u64 st)) := by
    rw [load_cells (off := 0) (n := 8) h3 (by rw [ws_len]; omega), List.drop_zero, List.take_of_length_le (by rw [ws_len]; omega)]
  have q1 : ((Int.ofNat 384) == (Int.ofNat 256)) = false := by decide
  have q2 : ((Int.ofNat 384) == (Int.ofNat 384)) = true := by decide
  have r3' : ∀ q, C N (d + 1) 21 [.agg (ws .i64 largeL), .agg (ws .u64 st), v] H τ q = q v0 H' τ' := r3
  have c1' : pSlSlice 1 false true true [v0, .int .i64 (.ofNat 48), .int .i64 (.ofNat 48)] = some v' := c1
  show s7 (C N (d + 1)) N (.int .i64 (.ofNat 384)) v H τ q = _
  simp only [s7, bin_eql, q1, condK_f, q2, condK_t, l2, l3, someK_mk, r3', c1']

/-- one hash more is kept -/
theorem step6 (d : Nat) (hd : 5 ≤ d) (H0 : Heap) (v : V) (n : Nat) (bs st Cs : List Nat) (hn : n = bs.length) (hw0 : WF H0) (hR : Roomy v) (hst : st.length = 8) (hC : Cs.length = 80)
    (h2 : H0.cells? 2 = some (ws .i64 largeL)) (h3 : H0.cells? 3 = some (ws .u64 st)) (h5 : H0.cells? 5 = some (ws .u64 Cs)) (hRd : Rd H0 1 v n (ws .u8 bs)) (hsr : Src H0 v)
    (H : Heap) (hg : Gr H0.size H0 H) (lab : Nat → Nat) (hl0 : ∀ i, i < H0.size → lab i = 0) (its : List It) (held : Nat) (hb : BookI lab H H0.size its held) (hB : BytesIts its) (hi : its.length < 2) (hh : held + 49 ≤ 1000000)
    (fr : T V) (τ : Tape) (f0 : fr.get 0 = some v) (f3 : fr.get 3 = some (.ptr H0.size 0)) (f4 : fr.get 4 = some (.int .i64 (its.length : Int))) :
    ∃ H' τ' lab' it, Gr H0.size H0 H' ∧ (∀ i, i < H0.size → lab' i = 0) ∧ BookI lab' H' H0.size (its ++ [it]) (held + 49) ∧ BytesIts (its ++ [it]) ∧
      ∀ k, s6_l1 (C N d) N ⟨fr, H⟩ τ k = k .normal ⟨(T.set (T.set (T.set (T.set (T.set (T.set .leaf 0 v) 3 (.ptr H0.size 0)) 4 (.int .i64 (its.length : Int))) 9 (.int .i64 (its.length : Int))) 10 (.int .i64 ((its.length + 1 : Nat) : Int))) 4 (.int .i64 ((its.length + 1 : Nat) : Int))), H'⟩ τ' := by
  have hRd1 := hRd.gr hg hw0 (Nat.le_refl _)
  have hsr1 := hsr.gr hg hw0 (Nat.le_refl _)
  obtain ⟨v', a1, a2, a3, a4⟩ := s11_ret (C N (d - 1)) N v n 200 (ws .u8 bs) (by omega) (by omega) H hR hRd1
  have hlen : (bs.take 200).length = min n 200 := by rw [List.length_take]; omega
  have e200 : (ws .u8 bs).take 200 = ws .u8 (bs.take 200) := by simp [ws, List.map_take]
  rw [e200, ← hlen] at a3
  obtain ⟨x, H1, τ1, b1, b2, b3, b4⟩ := d7_384 hN d hd v' (bs.take 200) st Cs (by omega) a1 hst hC H hg.wf (hg.cells hw0 (Nat.le_refl _) h2) (hg.cells hw0 (Nat.le_refl _) h3) (hg.cells hw0 (Nat.le_refl _) h5) a3 (a2 hsr1) τ
  let lab1 : Nat → Nat := fun i => if i < H.size then lab i else 2 * its.length + 4
  have l1 : ∀ i, i < H.size → lab1 i = lab i := fun i hi => if_pos hi
  have l2 : ∀ i, H.size ≤ i → lab1 i = 2 * its.length + 4 := fun i hi => if_neg (by omega)
  have hb1 : BookI lab1 H1 H0.size its held := hb.chg (Q := fun _ => False) hg.wf b3.chg (fun _ _ h => h.elim) l1
  have hx : RoomW (fun i => lab1 i = 2 * its.length + 4) H1 x 48 (ws .u8 ((hash64 Cs st (bs.take 200)).take 48)) := b1.weaken b3.wf fun i _ q => l2 i q.1
  have h48 : (ws .u8 ((hash64 Cs st (bs.take 200)).take 48)).length = 48 := by rw [ws_len, List.length_take, hash64_len _ _ _ hst]; rfl
  obtain ⟨w, H2, τ2, lab2, c1, c2, c3, c4⟩ := s17_ret (C N (d - 1)) N hN lab1 H1 b3.wf H0.size its held hb1 x 48 _ hx (by rw [h48]; exact b2) (ws_scal _ _) (by omega) (by omega) (by omega) τ1
  have g2 : Gr H0.size H1 H2 := c2.gr (Nat.le_trans hg.size b3.size) fun i hi q => by
    have := l1 i (Nat.lt_of_lt_of_le hi hg.size); have := hl0 i hi; omega
  refine ⟨H2, τ2, lab2, _, (hg.trans b3 hg.size).trans g2 (Nat.le_refl _), fun i hi => ?_, c1, fun j it hj => ?_, fun k => ?_⟩
  · rw [c3 i (Nat.lt_of_lt_of_le hi (Nat.le_trans hg.size b3.size)), l1 i (Nat.lt_of_lt_of_le hi hg.size)]; exact hl0 i hi
  · by_cases hlt : j < its.length
    · rw [List.getElem?_append_left hlt] at hj
      exact hB j it hj
    · have hj2 := (List.getElem?_eq_some_iff.1 hj).1
      simp at hj2
      obtain rfl : j = its.length := by omega
      simp at hj
      subst hj
      exact ⟨by simp, _, rfl, by rw [List.length_take]; omega⟩
  · obtain ⟨d, rfl⟩ : ∃ e, d = e + 1 := ⟨d - 1, by omega⟩
    have e1 : decide ((its.length : Int) < Int.ofNat 2) = true := decide_eq_true (by simp; omega)
    have e4 : wr .i64 ((its.length : Int) + Int.ofNat 1) = ((its.length + 1 : Nat) : Int) := by rw [wr_id (by simp; omega) (by simp; omega)]; simp
    have a4' : ∀ τ q, C N (d + 1) 11 [v, .int .i64 (.ofNat 200)] H τ q = q v' H τ := a4
    have c4' : ∀ q, C N (d + 1) 17 [.ptr H0.size 0, x] H1 τ1 q = q (.tup []) H2 τ2 := c4
    have x0 : pExtract 0 [.tup [x, .int .i64 (.ofNat 0)]] = some x := rfl
    have x1 : pExtract 1 [.tup [x, .int .i64 (.ofNat 0)]] = some (.int .i64 (.ofNat 0)) := rfl
    simp only [s6_l1, getK_mk f0, getK_mk f3, getK_mk f4, bin_lss, e1, condK_t, a4', b4, x0, x1, someK_mk, c4', bin_add, e4]

/-- THE LAW 'DigestKept', on the machine -/
theorem digestKept_run (v : V) (bs : List Nat) (hR : Roomy v) (H : Heap) (hw : WF H) (h0 : Laid0 H) (hRd : Rd H 1 v bs.length (ws .u8 bs)) (hsr : Src H v) (τ : Tape) :
    C N 40 6 [v] H τ trueK = doneA := by
  have h2 := h0 _ _ st0_2
  have h3 := h0 _ _ st0_3
  have h5 := h0 _ _ st0_5
  have hst := start384_len
  have hC := consts_len
  have a1 : eAlloc [.nils, .nils, (.int .i64 (.ofNat 0)), (.bool false)] [] H τ = some (.ptr H.size 0, H.new [.nils, .nils, .int .i64 ((0 : Nat) : Int), .bool false] 4 true, τ) := rfl
  have g1 := Gr.new hw [.nils, .nils, .int .i64 ((0 : Nat) : Int), .bool false] 4 true
  have b1 := BookI.new H (fun i => if i = H.size then 1 else 0) (if_pos rfl)
  generalize H.new [.nils, .nils, .int .i64 ((0 : Nat) : Int), .bool false] 4 true = H1 at a1 g1 b1
  obtain ⟨H2, τ2, lab2, it, g2, l2, b2, B2, k2⟩ := step6 hN 39 (by omega) H v bs.length bs start384 consts rfl hw hR hst hC h2 h3 h5 hRd hsr H1 g1 _ (fun i hi => if_neg (by omega)) [] 0 b1 (fun j it hj => by simp at hj) (by simp) (by omega)
    (T.set (T.set (T.set .leaf 0 v) 3 (.ptr H.size 0)) 4 (.int .i64 (.ofNat 0))) τ (by simp [T.get_set]) (by simp [T.get_set]) (by simp [T.get_set])
  obtain ⟨H3, τ3, lab3, it', g3, l3, b3, B3, k3⟩ := step6 hN 39 (by omega) H v bs.length bs start384 consts rfl hw hR hst hC h2 h3 h5 hRd hsr H2 g2 lab2 l2 ([] ++ [it]) 49 b2 B2 (by simp) (by omega)
    (T.set (T.set (T.set (T.set (T.set (T.set .leaf 0 v) 3 (.ptr H.size 0)) 4 (.int .i64 ((([] : List It).length : Nat) : Int))) 9 (.int .i64 ((([] : List It).length : Nat) : Int))) 10 (.int .i64 (((([] : List It).length + 1 : Nat)) : Int))) 4 (.int .i64 ((([] : List It).length + 1 : Nat) : Int))) τ2 (by simp [T.get_set]) (by simp [T.get_set]) (by simp [T.get_set])
  obtain ⟨H4, g4, k4⟩ := s18_ret (C N 38) N hN lab3 H.size ([] ++ [it] ++ [it']) 98 (by simp) B3 (d19 hN 38 (by omega)) (fun H' hw' hb' τ' => s27_ret (C N 37) N hN (d26 hN 37 (by omega)) lab3 H.size _ 98 (by simp) B3 H' hw' hb' τ') H3 g3.wf b3 τ3
  have k4' : ∀ q, C N 39 18 [.ptr H.size 0, .func 19 [] []] H3 τ3 q = q (.bool true) H4 τ3 := k4
  have gf : Gr H.size H H4 := g3.trans (g4.gr g3.size fun i hi q => q (l3 i hi)) (Nat.le_refl _)
  have k10 : ∀ q, C N 39 10 [] H4 τ3 q = q (.bool true) H4 τ3 := fun q => known_mk (h0.gr gf hw (Nat.le_refl _)) 38 τ3 q
  obtain ⟨n, rfl⟩ : ∃ n, N = n + 1 + 1 + 1 := ⟨N - 3, by omega⟩
  show s6 (C (n + 1 + 1 + 1) 39) (n + 1 + 1 + 1) v H τ trueK = doneA
  have e1 : decide ((((([] : List It) ++ [it]).length + 1 : Nat) : Int) < Int.ofNat 2) = false := rfl
  simp only [s6, a1, effK_mk]
  rw [loopK_succ, k2]
  simp only [seqK]
  rw [loopK_succ]
  have k3' := k3
  rw [k3']
  simp only [seqK]
  rw [loopK_succ]
  simp only [s6_l1, getK_set, ↓reduceIte, Nat.reduceEqDiff, bin_lss, e1, condK_f, blockK, Nat.beq_refl, cond_true, seqK, s6_j0, k4', gK_do, k10, retK, effK_mk, pick_mk, someK_mk]
  rfl
end
end Go.Am.AmTrydDig

