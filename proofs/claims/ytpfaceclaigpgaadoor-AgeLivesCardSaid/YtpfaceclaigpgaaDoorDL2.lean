/- AgeLives: contracts and plain law, part L2. -/
import Derived.Test.YtpfaceclaigpgaaDoorDL1
import Derived.Test.YtpfaceclaigpgaaDoorDK0
import Derived.Test.YtpfaceclaigpgaaDoorDK1
namespace Go.Am.AmTrydAge
set_option linter.unusedSimpArgs false
set_option linter.unusedVariables false
set_option linter.unusedSectionVars false
theorem chk_all (n : Nat) (hn : n ≤ 4000) : chk n = true := by
  have key : ∀ (a k : Nat), (List.range' a k).all chk = true → ∀ n, a ≤ n → n < a + k → chk n = true := by
    intro a k h n h1 h2
    rw [List.all_eq_true] at h
    exact h n (List.mem_range'_1.2 ⟨h1, h2⟩)
  by_cases c1 : n < 1000
  · exact key 0 1000 chk_a n (by omega) (by omega)
  · by_cases c2 : n < 2000
    · exact key 1000 1000 chk_b n (by omega) (by omega)
    · by_cases c3 : n < 3000
      · exact key 2000 1000 chk_c n (by omega) (by omega)
      · exact key 3000 1001 chk_d n (by omega) (by omega)

theorem chk_spec (n : Nat) (hn : n ≤ 4000) (q : Bool) : (parseP (lifeS q n)).2.1 = false ∧ (parseP (lifeS q n)).2.2 = (n : Int) ∧ (intB (strip (dig n))).1 = (n : Int) ∧ (dig n).length < 10 := by
  have h := chk_all n hn
  simp only [chk, ctlIs, numIs, Bool.and_eq_true, Bool.not_eq_true', decide_eq_true_eq] at h
  obtain ⟨⟨⟨⟨h1, h2⟩, h3, h4⟩, h5⟩, h6⟩ := h
  have h7 : (dig n).length < 10 := by
    have h8 : (dig n).length ≤ 9 := by simpa [Nat.blt] using h6
    omega
  cases q
  · exact ⟨h3, h4, h5, h7⟩
  · exact ⟨h1, h2, h5, h7⟩

def hs2 (q : Bool) (L A : Nat) : List (Bs × Bs) := [(ccUp, lifeS q L), (ageUp, dig A)]
theorem hs2_small (q : Bool) {L A : Nat} (hL : L ≤ 4000) (hA : A ≤ 4000) : Small (hs2 q L A) := by
  refine ⟨by simp [hs2], fun h hh => ?_⟩
  have h1 := (chk_spec L hL q).2.2.2
  have h2 := (chk_spec A hA q).2.2.2
  simp only [hs2, List.mem_cons, List.not_mem_nil, or_false] at hh
  rcases hh with rfl | rfl
  · refine ⟨by simp [ccUp], ?_⟩
    cases q <;> simp [lifeS] <;> omega
  · exact ⟨by simp [ageUp], by simp only; omega⟩
theorem hs2_parse (q : Bool) (L A : Nat) : parseT (hs2 q L A) = parseP (lifeS q L) := by
  have e1 : (lower ccUp == lower ccName) = true := by decide
  have e2 : (lower ageUp == lower ccName) = false := by decide
  have hs : sel ccName (hs2 q L A) = [lifeS q L] := by simp [sel, hs2, e1, e2]
  have hg : getT ccName (hs2 q L A) = lifeS q L := by simp [getT, hs, joinB, joinT]
  simp [parseT, splitT, hs, hg, parseP]
theorem hs2_age (q : Bool) {L A : Nat} (hA : A ≤ 4000) (a b : Int) : ageT (hs2 q L A) a b = addT (A : Int) (sinceT a b) := by
  have e1 : (lower ccUp == lower ageName) = false := by decide
  have e2 : (lower ageUp == lower ageName) = true := by decide
  have hs : sel ageName (hs2 q L A) = [dig A] := by simp [sel, hs2, e1, e2]
  have hg : getT ageName (hs2 q L A) = dig A := by simp [getT, hs, joinB, joinT]
  simp only [ageT, hg, (chk_spec A hA q).2.2.1]

theorem s6_j0_ret (c : CallK) (N : Nat) {q : Bool} {L A S : Nat} (hL : L ≤ 4000) (hA : A ≤ 4000) (hS : S ≤ 4000) (h29 : AgeOk c (hs2 q L A)) (h30 : FreshOk c (hs2 q L A))
    (h34 : ∀ (n : Nat), n ≤ 4000 → ∀ H τ q, c 34 [.int .i64 (n : Int)] H τ q = q (.str (dig n)) H τ) (h35 : ∀ (s : Bs) H τ q, c 35 [.str s] H τ q = s35 c N (.str s) H τ q) (h32 : ∀ vs H τ q, c 32 vs H τ q = effK (closedP vs H τ) q)
    (H : Heap) (hw : WF H) (fr : T V) (f0 : fr.get 0 = some (.int .i64 (L : Int))) (f1 : fr.get 1 = some (.int .i64 (A : Int))) (f2 : fr.get 2 = some (.int .i64 (S : Int))) (f9 : fr.get 9 = some (.str (lifeS q L))) (τ : Tape) :
    ∃ H' τ', ∀ k, s6_j0 c N k ⟨fr, H⟩ τ = k (.bool true) H' τ' := by
  have hG1 := Gr.new hw [V.str ccUp, V.str (lifeS q L)] (1 * 2) false
  have hK1 := cells_new H [V.str ccUp, V.str (lifeS q L)] (1 * 2) false
  generalize hH1 : H.new [V.str ccUp, V.str (lifeS q L)] (1 * 2) false = H1 at hG1 hK1
  have hG2 := Gr.new hG1.wf [V.str ageUp, V.str (dig A)] (1 * 2) false
  have hK2 := cells_new H1 [V.str ageUp, V.str (dig A)] (1 * 2) false
  have hK12 := hG2.cells hG1.wf (Nat.le_refl _) hK1
  generalize hH2 : H1.new [V.str ageUp, V.str (dig A)] (1 * 2) false = H2 at hG2 hK2 hK12
  have hG3 := Gr.new hG2.wf (hcells (hs2 q L A)) ((2 + spare 2 (τ 0)) * 2) false
  have hK3 := cells_new H2 (hcells (hs2 q L A)) ((2 + spare 2 (τ 0)) * 2) false
  generalize hH3 : H2.new (hcells (hs2 q L A)) ((2 + spare 2 (τ 0)) * 2) false = H3 at hG3 hK3
  have x1 : ∀ k, c 35 [.str (lifeS q L)] H τ k = k (.sl H.size 0 1 1 none 2) H1 τ := fun k => by
    rw [h35, ← hH1]; rfl
  have x2 : pBuild [(.str []), (.str [])] [(0, 1), (1, 1)] [(.str (bs [65, 103, 101])), .str (dig A)] = some (.agg [.str ageUp, .str (dig A)]) := rfl
  have x3 : eBuildSlice 1 2 [(.str []), (.str [])] [(0, 2)] [.agg [.str ageUp, .str (dig A)]] H1 τ = some (.sl H1.size 0 1 1 none 2, H2, τ) := by rw [← hH2]; rfl
  have x4 : eAppend 2 32 [.sl H.size 0 1 1 none 2, .sl H1.size 0 1 1 none 2] H2 τ = some (.sl H2.size 0 2 2 (some (spare 2 (τ 0))) 2, H3, τ.tail) := by
    have l1 : H2.loads H.size 0 (1 * 2) = some [V.str ccUp, V.str (lifeS q L)] := by rw [loads_cells hK12 (by simp)]; rfl
    have l2 : H2.loads H1.size 0 (1 * 2) = some [V.str ageUp, V.str (dig A)] := by rw [loads_cells hK2 (by simp)]; rfl
    rw [← hH3]
    simp only [eAppend, srcLen, srcCells, Nat.beq_refl, cond_true, l2, append, l1]
    rfl
  have hr : Rd H3 2 (.sl H2.size 0 2 2 (some (spare 2 (τ 0))) 2) (hs2 q L A).length (hcells (hs2 q L A)) := .inr ⟨H2.size, 0, 2, _, _, rfl, hK3, rfl, rfl⟩
  have hw3 := hG3.wf
  obtain ⟨m1, m2, m3, _⟩ := chk_spec L hL q
  have hI : ∀ x : Int, -10000 ≤ x → x ≤ 20000 → InI x := fun x h1 h2 => ⟨by unfold leastI; omega, by unfold mostI; omega⟩
  have hfresh : ∀ t : Int, (S : Int) ≤ t → t ≤ 20000 → freshT (hs2 q L A) S t = decide ((A : Int) + (t - S) < (L : Int)) := by
    intro t h1 h2
    have hs : sinceT S t = t - S := by
      unfold sinceT mostI
      split
      · omega
      · rw [if_neg (by omega)]
    have ha : addT (A : Int) (t - S) = A + (t - S) := by
      unfold addT mostI leastI
      rw [if_neg (by omega), if_neg (by omega), if_neg (by omega)]
    simp only [freshT, hs2_parse, m1, m2, hs2_age q hA, hs, ha, Bool.not_false, Bool.true_and]
  have y1 : wr .i64 ((L : Int) - (A : Int)) = (L : Int) - A := wr_id (by omega) (by omega)
  by_cases hle : (L : Int) - A ≤ 0
  · obtain ⟨H4, τ4, k1, k2⟩ := h30 S S (hI _ (by omega) (by omega)) (hI _ (by omega) (by omega)) _ H3 hw3 hr τ.tail
    have hf : freshT (hs2 q L A) S S = false := by
      rw [hfresh S (Int.le_refl _) (by omega)]
      exact decide_eq_false (by omega)
    refine ⟨H4, τ4, fun k => ?_⟩
    simp only [s6_j0, getK_mk f0, getK_mk f1, getK_mk f2, getK_mk f9, x1, h34 A hA, x2, someK_mk, x3, effK_mk, x4, bin_sub, y1, bin_leq]
    rw [show decide ((L : Int) - A ≤ Int.ofNat 0) = true from decide_eq_true hle, condK_t, k2, hf]
    simp only [un_not, Bool.not_false, gK_do, h32, closedP, effK_mk, retK, pick_mk, cond_true, someK_mk]
  · have z1 : wr .i64 ((S : Int) + ((L : Int) - A)) = S + (L - A) := wr_id (by omega) (by omega)
    have z2 : wr .i64 ((S : Int) + ((L : Int) - A) - Int.ofNat 1) = S + (L - A) - 1 := by
      have : (S : Int) + ((L : Int) - A) - Int.ofNat 1 = S + (L - A) - 1 := rfl
      rw [this]; exact wr_id (by omega) (by omega)
    obtain ⟨H4, τ4, k1, k2⟩ := h30 S (S + (L - A) - 1) (hI _ (by omega) (by omega)) (hI _ (by omega) (by omega)) _ H3 hw3 hr τ.tail
    have hr4 := hr.gr k1 hw3 (Nat.le_refl _)
    obtain ⟨H5, τ5, p1, p2⟩ := h30 S (S + (L - A)) (hI _ (by omega) (by omega)) (hI _ (by omega) (by omega)) _ H4 k1.wf hr4 τ4
    have hr5 := hr4.gr p1 k1.wf (Nat.le_refl _)
    obtain ⟨H6, τ6, u1, u2⟩ := h29 S (S + (L - A)) (hI _ (by omega) (by omega)) (hI _ (by omega) (by omega)) _ H5 p1.wf hr5 τ5
    have hf1 : freshT (hs2 q L A) S (S + (L - A) - 1) = true := by
      rw [hfresh _ (by omega) (by omega)]
      exact decide_eq_true (by omega)
    have hf2 : freshT (hs2 q L A) S (S + (L - A)) = false := by
      rw [hfresh _ (by omega) (by omega)]
      exact decide_eq_false (by omega)
    have ha : (ageT (hs2 q L A) S (S + (L - A)) == (L : Int)) = true := by
      rw [hs2_age q hA, beq_iff_eq]
      have hs : sinceT (S : Int) (S + (L - A)) = L - A := by
        unfold sinceT mostI
        rw [if_neg (by omega), if_neg (by omega)]
        omega
      rw [hs]
      unfold addT mostI leastI
      rw [if_neg (by omega), if_neg (by omega), if_neg (by omega)]
      omega
    refine ⟨H6, τ6, fun k => ?_⟩
    simp only [s6_j0, getK_mk f0, getK_mk f1, getK_mk f2, getK_mk f9, x1, h34 A hA, x2, someK_mk, x3, effK_mk, x4, bin_sub, y1, bin_leq]
    rw [show decide ((L : Int) - A ≤ Int.ofNat 0) = false from decide_eq_false hle, condK_f]
    simp only [bin_add, z1, bin_sub, z2, k2, hf1, gK_do, retK, effK_mk, p2, hf2, un_not, Bool.not_false, someK_mk, pick_mk, cond_true, u2, bin_eql, ha, h32, closedP]

section
variable {N : Nat} (hN : 9223372036854775807 < N)
include hN
theorem d34 (d : Nat) (hd : 1 ≤ d) (n : Nat) (hn : n ≤ 4000) (H : Heap) (τ : Tape) (q : KV) : C N d 34 [.int .i64 (n : Int)] H τ q = q (.str (dig n)) H τ := by
  obtain ⟨d, rfl⟩ : ∃ e, d = e + 1 := ⟨d - 1, by omega⟩
  exact s34_eval (C N d) N (Nat.le_of_lt hN) n hn H τ q
theorem d33 (d : Nat) (hd : 1 ≤ d) (n : Int) (H : Heap) (τ : Tape) (q : KV) : C N d 33 [.int .i64 n, .int .i64 (.ofNat 0), .int .i64 (.ofNat 4000)] H τ q = q (.int .i64 (withinT n)) H τ := by
  obtain ⟨d, rfl⟩ : ∃ e, d = e + 1 := ⟨d - 1, by omega⟩
  exact s33_eval (C N d) N n H τ q

/-- THE LAW 'AgeLives', on the machine -/
theorem ageLives_run (a0 a1 a2 : Int) (qd : Bool) (H : Heap) (hw : WF H) (τ : Tape) : C N 40 6 [.int .i64 a0, .int .i64 a1, .int .i64 a2, .bool qd] H τ trueK = doneA := by
  obtain ⟨L, hL⟩ : ∃ L : Nat, withinT (a0.tmod (Int.ofNat 5000)) = (L : Int) := ⟨_, (Int.toNat_of_nonneg (withinT_range _).1).symm⟩
  obtain ⟨A, hA⟩ : ∃ A : Nat, withinT (a1.tmod (Int.ofNat 5000)) = (A : Int) := ⟨_, (Int.toNat_of_nonneg (withinT_range _).1).symm⟩
  obtain ⟨S, hS⟩ : ∃ S : Nat, withinT (a2.tmod (Int.ofNat 5000)) = (S : Int) := ⟨_, (Int.toNat_of_nonneg (withinT_range _).1).symm⟩
  have hL' : L ≤ 4000 := by have := (withinT_range (a0.tmod (Int.ofNat 5000))).2; omega
  have hA' : A ≤ 4000 := by have := (withinT_range (a1.tmod (Int.ofNat 5000))).2; omega
  have hS' : S ≤ 4000 := by have := (withinT_range (a2.tmod (Int.ofNat 5000))).2; omega
  have hdl := (chk_spec L hL' qd).2.2.2
  have j : ∀ (q : Bool) (fr : T V), fr.get 0 = some (.int .i64 (L : Int)) → fr.get 1 = some (.int .i64 (A : Int)) → fr.get 2 = some (.int .i64 (S : Int)) → fr.get 9 = some (.str (lifeS q L)) → s6_j0 (C N 39) N trueK ⟨fr, H⟩ τ = doneA := by
    intro q fr f0 f1 f2 f9
    have hSm := hs2_small q hL' hA'
    obtain ⟨H', τ', e⟩ := s6_j0_ret (C N 39) N hL' hA' hS' (d29 hN 39 (by omega) hSm) (d30 hN 39 (by omega) hSm) (d34 hN 39 (by omega)) (fun _ _ _ _ => rfl) (fun _ _ _ _ => rfl) H hw fr f0 f1 f2 f9 τ
    rw [e]
    rfl
  show s6 (C N 39) N (.int .i64 a0) (.int .i64 a1) (.int .i64 a2) (.bool qd) H τ trueK = doneA
  simp only [s6]
  rw [bin_rem _ _ _ (by decide)]
  simp only [d33 hN 39 (by omega), hL]
  rw [bin_rem _ _ _ (by decide)]
  simp only [d33 hN 39 (by omega), hA]
  rw [bin_rem _ _ _ (by decide)]
  simp only [d33 hN 39 (by omega), hS, d34 hN 39 (by omega) L hL', bin_str]
  have t1 : strBin .add (bs [109, 97, 120, 45, 97, 103, 101, 61]) (dig L) = some (.str (lifeS false L)) := str_add (by simp [bs]; omega)
  have t2 : strBin .add (bs [80, 117, 98, 108, 105, 99, 44, 32, 77, 97, 120, 45, 65, 103, 101, 61, 34]) (dig L) = some (.str (bs [80, 117, 98, 108, 105, 99, 44, 32, 77, 97, 120, 45, 65, 103, 101, 61, 34] ++ dig L)) := str_add (by simp [bs]; omega)
  have t3 : strBin .add (bs [80, 117, 98, 108, 105, 99, 44, 32, 77, 97, 120, 45, 65, 103, 101, 61, 34] ++ dig L) (bs [34]) = some (.str (lifeS true L)) := str_add (by simp [bs]; omega)
  rw [t1, someK_mk]
  cases qd with
  | true =>
    rw [condK_t, t2, someK_mk, bin_str, t3, someK_mk]
    exact j true _ (by simp [T.get_set]) (by simp [T.get_set]) (by simp [T.get_set]) (by simp [T.get_set])
  | false =>
    rw [condK_f]
    exact j false _ (by simp [T.get_set]) (by simp [T.get_set]) (by simp [T.get_set]) (by simp [T.get_set])
end
end Go.Am.AmTrydAge
