/- The abstract machine, printed functions of the program, and what they are shown to be. -/
import Derived.Test.YtaikmfhjbcffiaaGreatDoorHKL1
import Derived.Test.YtaikmfhjbcffiaaGreatDoorHKM4
import Derived.Test.YtaikmfhjbcffiaaGreatDoorHKOk
namespace Go.Am.X
set_option linter.unusedSimpArgs false
set_option linter.unusedVariables false
set_option linter.unusedSectionVars false
set_option maxRecDepth 100000
abbrev Hd := Bs × Bs
def hv (h : Hd) : V := .agg [.str h.1, .str h.2]
theorem hcells_scal (hs : List Hd) : (hcells hs).all V.scal = true := by
  induction hs with
  | nil => rfl
  | cons h l ih => rw [hcells_cons]; simp only [List.all_cons, ih]; rfl
theorem hcells_drop (pre l : List Hd) : (hcells (pre ++ l)).drop (pre.length * 2) = hcells l := by
  rw [hcells_append, ← hcells_length pre, List.drop_left]
theorem hcells_at (pre : List Hd) (h : Hd) (l : List Hd) : ((hcells (pre ++ h :: l)).drop (pre.length * 2)).take 2 = [.str h.1, .str h.2] := by
  rw [hcells_drop, hcells_cons]; rfl
theorem hcells_at0 (pre : List Hd) (h : Hd) (l : List Hd) : (hcells (pre ++ h :: l))[pre.length * 2 + 0]? = some (.str h.1) := by
  rw [← List.getElem?_drop, hcells_drop, hcells_cons]; rfl
theorem hcells_at1 (pre : List Hd) (h : Hd) (l : List Hd) : (hcells (pre ++ h :: l))[pre.length * 2 + 1]? = some (.str h.2) := by
  rw [← List.getElem?_drop, hcells_drop, hcells_cons]; rfl
theorem hd_at {H : Heap} {v : V} (pre : List Hd) (h : Hd) (l : List Hd) (hr : Rd H 2 v (pre ++ h :: l).length (hcells (pre ++ h :: l))) :
    ∃ id o, pSlIdx 2 [v, .int .i64 (pre.length : Int)] = some (.ptr id o) ∧ ∀ H', Rd H' 2 v (pre ++ h :: l).length (hcells (pre ++ h :: l)) → lLoadN 2 [.ptr id o] H' = some (hv h) ∧ lLoad1 [.ptr id o] H' = some (.str h.1) ∧ lLoad1 [.ptr id (o + 1)] H' = some (.str h.2) := by
  obtain ⟨id, o, k1, k2⟩ := hr.at (by omega) (i := pre.length) (by simp)
  refine ⟨id, o, k1, fun H' h' => ?_⟩
  obtain ⟨q1, q2⟩ := k2 H' _ h'
  rw [hcells_at] at q1
  exact ⟨q1, q2 0 _ (by omega) (hcells_at0 _ _ _), q2 1 _ (by omega) (hcells_at1 _ _ _)⟩
theorem append_ne_nils {z bytes id off len lo : Nat} {ex : Option Nat} {z' : Nat} {x : V} {H H' : Heap} {τ τ' : Tape} (h : eAppend z bytes [.sl id off len lo ex z', x] H τ = some (.nils, H', τ')) : False := by
  simp only [eAppend, Am.append, fresh, Bool.cond_eq_ite] at h
  repeat' (split at h)
  all_goals first | (cases h; done) | skip
theorem s_slices_Clone_Header_ret (c : CallK) (N : Nat) (hs : List Hd) (hl : hs.length ≤ 1000000) (v : V) (H : Heap) (hw : WF H) (hr : Rd H 2 v hs.length (hcells hs)) (hsr : Src H v) (τ : Tape) :
    ∃ v' H' τ', Apd H' H.size 2 v' hs.length (hcells hs) ∧ (v' = .nils ↔ v = .nils) ∧ Gr H.size H H' ∧ ∀ q, s_slices_Clone_Header c N v H τ q = q v' H' τ' := by
  by_cases hv : v = .nils
  · subst hv
    have h0 : hs.length = 0 ∧ hcells hs = [] := by
      rcases hr with ⟨_, a, b⟩ | ⟨_, _, _, _, _, e, _⟩
      · exact ⟨a, b⟩
      · cases e
    have e1 : pEq false .slice [.nils, .nils] = some (.bool true) := rfl
    refine ⟨.nils, H, τ, ?_, Iff.rfl, Gr.refl hw, fun q => ?_⟩
    · rw [h0.1, h0.2]; exact Apd.nil _ _ _
    · simp only [s_slices_Clone_Header, e1, someK_n, condK_tn]
  · have e1 : pEq false .slice [v, .nils] = some (.bool false) := by
      rcases hr with ⟨rfl | ⟨_, _, _, _, rfl⟩, _⟩ | ⟨_, _, _, _, _, rfl, _⟩
      · exact absurd rfl hv
      · rfl
      · rfl
    have a1 : eBuildSlice 0 2 [] [] [] H τ = some (.sl H.size 0 0 0 none 2, H.new [] (0 * 2) false, τ) := rfl
    have g1 := Gr.new hw [] (0 * 2) false
    have c1 := cells_new H [] (0 * 2) false
    have o1 : Apd (H.new [] (0 * 2) false) H.size 2 (.sl H.size 0 0 0 none 2) 0 [] := .inr ⟨rfl, rfl, _, rfl, Blk.new H [] (0 * 2) false (Nat.le_refl _)⟩
    obtain ⟨v', H', τ', r1, r2, r3, _⟩ := o1.append (bytes := 32) g1.wf g1.size (hr.gr g1 hw (Nat.le_refl _)) (hsr.gr g1 hw (Nat.le_refl _)) (hcells_scal hs) (by omega) (by omega) τ
    refine ⟨v', H', τ', by simpa using r2, ⟨fun h => ?_, fun h => absurd h hv⟩, g1.trans r3 (Nat.le_refl _), fun q => ?_⟩
    · exfalso; subst h; exact append_ne_nils r1
    simp only [s_slices_Clone_Header, e1, someK_n, condK_fn, a1, effK_n, r1]
theorem put2 {H : Heap} {B : Nat} {v : V} {hs : List Hd} {n : Nat} (h : Apd H B 2 v n (hcells hs)) (hw : WF H) (hB : B ≤ H.size) (x : Hd) (hn : n ≤ 1000000) (τ : Tape) :
    ∃ w H1 v' H' τ', eBuildSlice 1 2 [(.str []), (.str [])] [(0, 2)] [.agg [.str x.1, .str x.2]] H τ = some (w, H1, τ) ∧ eAppend 2 32 [v, w] H1 τ = some (v', H', τ') ∧ Apd H' B 2 v' (n + 1) (hcells (hs ++ [x])) ∧ Gr B H H' ∧ (∀ id cs, H.cells? id = some cs → H'.cells? id = some cs) ∧ Gr B H H1 := by
  obtain ⟨v', H', τ', r1, r2, r3, r4⟩ := h.put (bytes := 32) hw hB [.str x.1, .str x.2] rfl rfl (by omega) (by omega) τ
  refine ⟨_, _, v', H', τ', rfl, r1, ?_, r3, r4, (Gr.new hw _ _ _).weaken hB⟩
  rw [hcells_append]; exact r2
def addE (n v : Bs) (k : Nat) : Int := if mayE n v = 0 then (if 64 ≤ k then 4 else 0) else mayE n v
theorem s_headers_Add_ret (c : CallK) (N : Nat) (hs : List Hd) (hl : hs.length ≤ 1000000) (n v : Bs) (lv : V) (H : Heap) (hw : WF H) (hr : Rd H 2 lv hs.length (hcells hs)) (hsr : Src H lv) (τ : Tape)
    (h43 : ∃ H1 τ1, Gr H.size H H1 ∧ ∀ q, c f_headers_may [.str n, .str v] H τ q = q (mayV n v) H1 τ1)
    (h44 : ∀ (H : Heap), WF H → Rd H 2 lv hs.length (hcells hs) → Src H lv → ∀ τ, ∃ v' H' τ', Apd H' H.size 2 v' hs.length (hcells hs) ∧ (v' = .nils ↔ lv = .nils) ∧ Gr H.size H H' ∧ ∀ q, c f_slices_Clone_Header [lv] H τ q = q v' H' τ') :
    ∃ r H' τ', Gr H.size H H' ∧ (addE n v hs.length = 0 → Apd H' H.size 2 r (hs.length + 1) (hcells (hs ++ [(n, valT v)]))) ∧ (addE n v hs.length ≠ 0 → r = .nils) ∧ ∀ q, s_headers_Add c N lv (.str n) (.str v) H τ q = q (.tup [r, .int .i64 (addE n v hs.length)]) H' τ' := by
  obtain ⟨H1, τ1, g1, k1⟩ := h43
  have x0 : ∀ a b : V, pExtract 0 [.tup [a, b]] = some a := fun _ _ => rfl
  have x1 : ∀ a b : V, pExtract 1 [.tup [a, b]] = some b := fun _ _ => rfl
  have pl := hr.pLen
  unfold addE
  unfold mayV at k1
  generalize mayE n v = e at k1 ⊢
  by_cases he : e = 0
  · subst he
    have e1 : ((0 : Int) == Int.ofNat 0) = true := rfl
    have e2 : ((0 : Int) != Int.ofNat 0) = false := rfl
    rw [if_pos rfl] at k1 ⊢
    by_cases h64 : 64 ≤ hs.length
    · have e3 : decide (Int.ofNat 64 ≤ (hs.length : Int)) = true := decide_eq_true (by simp; omega)
      have e4 : (Int.ofNat 4 != Int.ofNat 0) = true := rfl
      rw [if_pos h64]
      refine ⟨.nils, H1, τ1, g1, fun h => absurd h (by decide), fun _ => rfl, fun q => ?_⟩
      simp only [s_headers_Add, k1, x0, x1, someK_n, bin_eql, e1, gK_do, retK, effK_n, pl, bin_geq, e3, pick_mk, cond_true, condK_tn, s_headers_Add_j0, getK_set, ↓reduceIte, Nat.reduceEqDiff, bin_neq, e4]
      rfl
    · have e3 : decide (Int.ofNat 64 ≤ (hs.length : Int)) = false := decide_eq_false (by simp; omega)
      rw [if_neg h64]
      obtain ⟨v2, H2, τ2, o2, _, g2, k2⟩ := h44 H1 g1.wf (hr.gr g1 hw (Nat.le_refl _)) (hsr.gr g1 hw (Nat.le_refl _)) τ1
      obtain ⟨w, H3, v4, H4, τ4, m1, m2, m3, m4, _⟩ := put2 o2 g2.wf g2.size (n, valT v) hl τ2
      have pb : pBuild [(.str []), (.str [])] [(0, 1), (1, 1)] [.str n, .str (valT v)] = some (.agg [.str n, .str (valT v)]) := rfl
      refine ⟨v4, H4, τ4, (g1.trans g2 g1.size).trans m4 g1.size, fun _ => ?_, fun h => absurd rfl h, fun q => ?_⟩
      · rcases m3 with m3 | ⟨h0, _⟩
        · refine .inl ?_
          rcases m3 with h | ⟨id, e, room, fam, ver, pl, st, fr, h1, h2, h3, h4, h5, h6, h7⟩
          · exact .inl h
          · exact .inr ⟨id, e, room, fam, ver, pl, st, fr, h1, h2, h3, h4, Nat.le_trans g1.size h5, Nat.le_trans g1.size h6, h7⟩
        · omega
      · simp only [s_headers_Add, k1, x0, x1, someK_n, bin_eql, e1, gK_do, retK, effK_n, pl, bin_geq, e3, pick_mk, cond_true, condK_fn, s_headers_Add_j0, getK_set, ↓reduceIte, Nat.reduceEqDiff, bin_neq, e2, k2, pb, m1, m2]
        rfl
  · have e1 : (e == Int.ofNat 0) = false := by rw [beq_eq_false_iff_ne]; exact he
    have e2 : (e != Int.ofNat 0) = true := by rw [bne_iff_ne]; exact he
    rw [if_neg he] at k1 ⊢
    refine ⟨.nils, H1, τ1, g1, fun h => absurd h he, fun _ => rfl, fun q => ?_⟩
    simp only [s_headers_Add, k1, x0, x1, someK_n, bin_eql, e1, gK_skip, gK_none, pick_mk, cond_false, condK_fn, s_headers_Add_j0, getK_set, ↓reduceIte, Nat.reduceEqDiff, bin_neq, e2, condK_tn]
def named (name : Bs) (h : Hd) : Bool := lower h.1 == lower name
def findI (name : Bs) : List Hd → Nat → Int
  | [], _ => -1
  | h :: l, i => bif named name h then (i : Int) else findI name l (i + 1)
def IsF (c : CallK) (g b : Nat) (name : Bs) : Prop := ∀ (h : Hd), h.1.length ≤ 140737488355328 → ∀ (H : Heap), WF H → H.cells? b = some [.str name] → ∀ τ, ∃ H' τ', Gr H.size H H' ∧ ∀ q, c g [hv h, .ptr b 0] H τ q = q (.bool (named name h)) H' τ'
abbrev Is45 (c : CallK) (name : Bs) : Prop := ∀ (h : Hd), h.1.length ≤ 140737488355328 → ∀ (H : Heap), WF H → ∀ τ, ∃ H' τ', Gr H.size H H' ∧ ∀ q, c f_headers_is [hv h, .str name] H τ q = q (.bool (named name h)) H' τ'
theorem s_headers_Drop_1_ret (c : CallK) (N : Nat) (b : Nat) (name : Bs) (h45 : Is45 c name) (h : Hd) (hh : h.1.length ≤ 140737488355328) (H : Heap) (hw : WF H) (hb : H.cells? b = some [.str name]) (τ : Tape) :
    ∃ H' τ', Gr H.size H H' ∧ (∀ q, s_headers_Drop_1 c N (hv h) (.ptr b 0) H τ q = q (.bool (named name h)) H' τ') ∧ (∀ q, s_headers_Set_1 c N (hv h) (.ptr b 0) H τ q = q (.bool (named name h)) H' τ') := by
  have a1 : eBox [hv h] H τ = some (.ptr H.size 0, H.new [.str h.1, .str h.2] 2 true, τ) := rfl
  have g1 := Gr.new hw [.str h.1, .str h.2] 2 true
  have c1 := cells_new H [.str h.1, .str h.2] 2 true
  have b1 := g1.cells hw (Nat.le_refl _) hb
  generalize H.new [.str h.1, .str h.2] 2 true = H1 at a1 g1 c1 b1
  have l1 : lLoadN 2 [.ptr H.size 0] H1 = some (hv h) := load_cells c1 (by simp)
  have l2 : lLoad1 [.ptr b 0] H1 = some (.str name) := load_cell b1 rfl
  obtain ⟨H2, τ2, g2, k2⟩ := h45 h hh H1 g1.wf τ
  exact ⟨H2, τ2, g1.trans g2 g1.size, fun q => by simp only [s_headers_Drop_1, a1, effK_n, l1, l2, someK_n, k2], fun q => by simp only [s_headers_Set_1, a1, effK_n, l1, l2, someK_n, k2]⟩
theorem l_slices_IndexFunc_Header (c : CallK) (N : Nat) (g b : Nat) (name : Bs) (hf : IsF c g b name) (hs : List Hd) (hl : hs.length ≤ 1000000) (hsz : ∀ h ∈ hs, h.1.length ≤ 140737488355328) (lv : V) :
    ∀ (l pre : List Hd) (H : Heap) (fr : T V) (τ : Tape) (m : Nat), hs = pre ++ l → l.length < m → WF H → Rd H 2 lv hs.length (hcells hs) → H.cells? b = some [.str name] →
    fr.get 0 = some lv → fr.get 1 = some (.func g [] [.ptr b 0]) → fr.get 7 = some (.int .i64 (hs.length : Int)) → fr.get 8 = some (.int .i64 (pre.length : Int)) →
    ∃ H' τ', Gr H.size H H' ∧ ∀ q, loopK (s_slices_IndexFunc_Header_l1 c N) m ⟨fr, H⟩ τ (blockK 0 (seqK (s_slices_IndexFunc_Header_j0 c N q) (endK [(.t 4)] q))) = q (.int .i64 (findI name l pre.length)) H' τ' := by
  intro l
  induction l with
  | nil =>
    intro pre H fr τ m he hm hw hr hb f0 f1 f7 f8
    obtain ⟨m, rfl⟩ : ∃ j, m = j + 1 := ⟨m - 1, by omega⟩
    refine ⟨H, τ, Gr.refl hw, fun q => ?_⟩
    have e1 : decide ((pre.length : Int) < (hs.length : Int)) = false := decide_eq_false (by rw [he]; simp)
    rw [loopK_succ]
    simp only [s_slices_IndexFunc_Header_l1, getK_mk f0, getK_mk f1, getK_mk f7, getK_mk f8, bin_lss, e1, condK_fn]
    rfl
  | cons h l ih =>
    intro pre H fr τ m he hm hw hr hb f0 f1 f7 f8
    obtain ⟨m, rfl⟩ : ∃ j, m = j + 1 := ⟨m - 1, by omega⟩
    have hlt : pre.length < hs.length := by rw [he]; simp
    have e1 : decide ((pre.length : Int) < (hs.length : Int)) = true := decide_eq_true (by omega)
    have e3 : wr .i64 ((pre.length : Int) + Int.ofNat 1) = ((pre ++ [h]).length : Int) := by
      rw [wr_id (by simp; omega) (by simp; omega)]; simp
    obtain ⟨id, o, p1, p2⟩ := hd_at (v := lv) pre h l (H := H) (by rw [← he]; exact hr)
    obtain ⟨q1, _, _⟩ := p2 H (by rw [← he]; exact hr)
    obtain ⟨H1, τ1, g1, k1⟩ := hf h (hsz h (by rw [he]; simp)) H hw hb τ
    have kv : ∀ q, opK c .callv [.func g [] [.ptr b 0], hv h] H τ q = q (.bool (named name h)) H1 τ1 := k1
    by_cases hn : named name h = true
    · refine ⟨H1, τ1, g1, fun q => ?_⟩
      rw [loopK_succ, findI, hn, cond_true]
      simp only [s_slices_IndexFunc_Header_l1, getK_mk f0, getK_mk f1, getK_mk f7, getK_mk f8, bin_lss, e1, condK_tn, p1, q1, someK_n, kv, hn]
      rfl
    · have hn' : named name h = false := by simpa using hn
      obtain ⟨H2, τ2, g2, k2⟩ := ih (pre ++ [h]) H1 (T.set (T.set (T.set (T.set (T.set (T.set .leaf 0 lv) 1 (.func g [] [.ptr b 0])) 7 (.int .i64 (hs.length : Int))) 8 (.int .i64 (pre.length : Int))) 18 (.int .i64 ((pre ++ [h]).length : Int))) 8 (.int .i64 ((pre ++ [h]).length : Int))) τ1 m
        (by rw [he]; simp) (by simp at hm; omega) g1.wf (hr.gr g1 hw (Nat.le_refl _)) (g1.cells hw (Nat.le_refl _) hb) (by simp [T.get_set]) (by simp [T.get_set]) (by simp [T.get_set]) (by simp [T.get_set])
      refine ⟨H2, τ2, g1.trans g2 g1.size, fun q => ?_⟩
      rw [loopK_succ, findI, hn', cond_false]
      simp only [s_slices_IndexFunc_Header_l1, getK_mk f0, getK_mk f1, getK_mk f7, getK_mk f8, bin_lss, e1, condK_tn, p1, q1, someK_n, kv, hn', condK_fn, bin_add, e3]
      rw [show pre.length + 1 = (pre ++ [h]).length by simp]
      exact k2 q
theorem s_slices_IndexFunc_Header_ret (c : CallK) (N : Nat) (hN : 9223372036854775807 ≤ N) (g b : Nat) (name : Bs) (hf : IsF c g b name) (hs : List Hd) (hl : hs.length ≤ 1000000) (hsz : ∀ h ∈ hs, h.1.length ≤ 140737488355328) (lv : V) (H : Heap) (hw : WF H)
    (hr : Rd H 2 lv hs.length (hcells hs)) (hb : H.cells? b = some [.str name]) (τ : Tape) : ∃ H' τ', Gr H.size H H' ∧ ∀ q, s_slices_IndexFunc_Header c N lv (.func g [] [.ptr b 0]) H τ q = q (.int .i64 (findI name hs 0)) H' τ' := by
  obtain ⟨H', τ', g', k⟩ := l_slices_IndexFunc_Header c N g b name hf hs hl hsz lv hs [] H (T.set (T.set (T.set (T.set .leaf 0 lv) 1 (.func g [] [.ptr b 0])) 7 (.int .i64 (hs.length : Int))) 8 (.int .i64 (.ofNat 0))) τ N rfl (by omega) hw hr hb (by simp [T.get_set]) (by simp [T.get_set]) (by simp [T.get_set]) (by simp [T.get_set])
  refine ⟨H', τ', g', fun q => ?_⟩
  simp only [s_slices_IndexFunc_Header, hr.pLen, someK_n]
  exact k q
theorem findI_spec (name : Bs) : ∀ (l : List Hd) (i : Nat), (findI name l i = -1 ∧ ∀ h ∈ l, named name h = false) ∨ ∃ a h r, l = a ++ h :: r ∧ (∀ x ∈ a, named name x = false) ∧ named name h = true ∧ findI name l i = ((i + a.length : Nat) : Int) := by
  intro l
  induction l with
  | nil => intro i; exact .inl ⟨rfl, fun h hh => by simp at hh⟩
  | cons h l ih =>
    intro i
    by_cases hn : named name h = true
    · refine .inr ⟨[], h, l, rfl, fun x hx => by simp at hx, hn, ?_⟩
      rw [findI, hn]; rfl
    · have hn' : named name h = false := by simpa using hn
      rcases ih (i + 1) with ⟨h1, h2⟩ | ⟨a, x, r, h1, h2, h3, h4⟩
      · refine .inl ⟨by rw [findI, hn']; exact h1, fun x hx => ?_⟩
        rcases List.mem_cons.1 hx with rfl | hx
        · exact hn'
        · exact h2 x hx
      · refine .inr ⟨h :: a, x, r, by rw [h1]; rfl, fun y hy => ?_, h3, ?_⟩
        · rcases List.mem_cons.1 hy with rfl | hy
          · exact hn'
          · exact h2 y hy
        · rw [findI, hn', cond_false, h4]; simp; omega
end Go.Am.X

namespace Go.Am.X
set_option linter.unusedSimpArgs false
set_option linter.unusedVariables false
set_option linter.unusedSectionVars false
set_option maxRecDepth 100000
theorem add1 {i : Nat} (h : i < 9223372036854775807) : wr .i64 ((i : Int) + Int.ofNat 1) = ((i + 1 : Nat) : Int) := by
  rw [wr_id (by simp; omega) (by simp; omega)]; simp
def dropT (name : Bs) (hs : List Hd) : List Hd := hs.filter fun h => !named name h
theorem dropT_none {name : Bs} {l : List Hd} (h : ∀ x ∈ l, named name x = false) : dropT name l = l := by
  unfold dropT; rw [List.filter_eq_self]; intro x hx; rw [h x hx]; rfl
theorem hcells_store (out : List Hd) (y x : Hd) (l : List Hd) : (hcells (out ++ y :: l)).take (out.length * 2) ++ (hv x).cells ++ (hcells (out ++ y :: l)).drop (out.length * 2 + 2) = hcells (out ++ x :: l) := by
  rw [hcells_append, hcells_append, ← hcells_length out, List.take_left, List.drop_append, hcells_cons, hcells_cons]
  simp [hv, V.cells]
theorem l_slices_DeleteFunc_Header (c : CallK) (N : Nat) (g b : Nat) (name : Bs) (hf : IsF c g b name) (lv : V) (B n : Nat) (hn : n ≤ 1000000) (hbB : b < B) :
    ∀ (rest out mid : List Hd) (H : Heap) (fr : T V) (τ : Tape) (m : Nat), (out ++ mid ++ rest).length = n → mid ≠ [] → (∀ h ∈ rest, h.1.length ≤ 140737488355328) → rest.length < m → WF H → B ≤ H.size → Own H B 2 lv n (hcells (out ++ mid ++ rest)) → Bx H b [.str name] →
    fr.get 0 = some lv → fr.get 1 = some (.func g [] [.ptr b 0]) → fr.get 5 = some (.int .i64 (out.length : Int)) → fr.get 6 = some (.int .i64 ((out ++ mid).length : Int)) →
    ∃ H' τ' mid', mid' ≠ [] ∧ (out ++ dropT name rest ++ mid').length = n ∧ Own H' B 2 lv n (hcells (out ++ dropT name rest ++ mid')) ∧ Gr B H H' ∧ ∀ k, loopK (s_slices_DeleteFunc_Header_l1 c N) m ⟨fr, H⟩ τ k = k (.exit 0) ⟨(T.set (T.set .leaf 0 lv) 5 (.int .i64 ((out ++ dropT name rest).length : Int))), H'⟩ τ' := by
  intro rest
  induction rest with
  | nil =>
    intro out mid H fr τ m hL hmid hsz hm hw hB ho hb f0 f1 f5 f6
    obtain ⟨m, rfl⟩ : ∃ j, m = j + 1 := ⟨m - 1, by omega⟩
    refine ⟨H, τ, mid, hmid, by simpa [dropT] using hL, by simpa [dropT] using ho, Gr.refl hw, fun k => ?_⟩
    have e1 : decide (((out ++ mid).length : Int) < (n : Int)) = false := decide_eq_false (by rw [← hL]; simp)
    rw [loopK_succ]
    simp only [s_slices_DeleteFunc_Header_l1, getK_mk f0, getK_mk f1, getK_mk f5, getK_mk f6, ho.pLen, someK_n, bin_lss, e1, condK_fn, seqK, dropT, List.filter_nil, List.append_nil]
  | cons x rest ih =>
    intro out mid H fr τ m hL hmid hsz hm hw hB ho hb f0 f1 f5 f6
    obtain ⟨m, rfl⟩ : ∃ j, m = j + 1 := ⟨m - 1, by omega⟩
    have hlt : (out ++ mid).length < n := by rw [← hL]; simp
    have e1 : decide (((out ++ mid).length : Int) < (n : Int)) = true := decide_eq_true (by omega)
    have e3 : wr .i64 (((out ++ mid).length : Int) + Int.ofNat 1) = (((out ++ mid).length + 1 : Nat) : Int) := add1 (by omega)
    have hr : Rd H 2 lv (out ++ mid ++ x :: rest).length (hcells (out ++ mid ++ x :: rest)) := by rw [hL]; exact ho.rd
    obtain ⟨id, o, p1, p2⟩ := hd_at (v := lv) (out ++ mid) x rest hr
    obtain ⟨q1, _, _⟩ := p2 H hr
    obtain ⟨H1, H2, a1, s1, b2, g2, lt2⟩ := box2 hw (.str x.1) (.str x.2) (.str []) (.str []) rfl rfl τ
    have s1' : eStore 2 [.ptr H.size 0, hv x] H1 τ = some (.tup [], H2, τ) := s1
    have l1 : lLoadN 2 [.ptr H.size 0] H2 = some (hv x) := load_cells b2.cells (by simp)
    have hb2 : Bx H2 b [.str name] := hb.gr g2 (by omega)
    obtain ⟨H3, τ3, g3, k3⟩ := hf x (hsz x (by simp)) H2 g2.wf hb2.cells τ
    have kv : ∀ q, opK c .callv [.func g [] [.ptr b 0], hv x] H2 τ q = q (.bool (named name x)) H3 τ3 := k3
    have g13 : Gr H.size H H3 := g2.trans g3 g2.size
    have ho3 : Own H3 B 2 lv n (hcells (out ++ mid ++ x :: rest)) := ho.gr g13 hw (Nat.le_refl _)
    have hb3 : Bx H3 b [.str name] := hb2.gr g3 (by omega)
    have l3 : lLoadN 2 [.ptr H.size 0] H3 = some (hv x) := load_cells (b2.gr g3 lt2).cells (by simp)
    by_cases hnm : named name x = true
    · have ed : dropT name (x :: rest) = dropT name rest := by unfold dropT; rw [List.filter_cons, hnm]; rfl
      rw [ed]
      obtain ⟨H4, τ4, mid', q1', q2', q3', q4', q5'⟩ := ih out (mid ++ [x]) H3 (T.set (T.set (T.set (T.set (T.set (T.set (T.set .leaf 0 lv) 1 (.func g [] [.ptr b 0])) 5 (.int .i64 (out.length : Int))) 6 (.int .i64 ((out ++ mid).length : Int))) 20 (.int .i64 ((out ++ mid).length : Int))) 21 (.int .i64 (((out ++ mid).length + 1 : Nat) : Int))) 6 (.int .i64 (((out ++ mid).length + 1 : Nat) : Int))) τ3 m
        (by rw [← hL]; simp) (by simp) (fun h hh => hsz h (by simp [hh])) (by simp at hm; omega) g13.wf (Nat.le_trans hB g13.size) (by simpa using ho3) hb3 (by simp [T.get_set]) (by simp [T.get_set]) (by simp [T.get_set]) (by simp [T.get_set]; omega)
      refine ⟨H4, τ4, mid', q1', q2', q3', (g13.weaken hB).trans q4' (Nat.le_refl _), fun k => ?_⟩
      rw [loopK_succ]
      simp only [s_slices_DeleteFunc_Header_l1, getK_mk f0, getK_mk f1, getK_mk f5, getK_mk f6, ho.pLen, someK_n, bin_lss, e1, condK_tn, p1, q1, a1, effK_n, s1', l1, kv, hnm, un_not, Bool.not_true, condK_fn, s_slices_DeleteFunc_Header_j2, getK_set, ↓reduceIte, Nat.reduceEqDiff, bin_add, e3]
      exact q5' k
    · have hnm' : named name x = false := by simpa using hnm
      have ed : dropT name (x :: rest) = x :: dropT name rest := by unfold dropT; rw [List.filter_cons, hnm']; rfl
      rw [ed]
      obtain ⟨y, mid1, rfl⟩ := List.exists_cons_of_ne_nil hmid
      have hlo : out.length < n := by rw [← hL]; simp
      obtain ⟨p, w1, w2⟩ := ho3.store g13.wf hlo
      obtain ⟨H4, w3, w4, w5, w6⟩ := w2 (hv x) rfl rfl (by omega) τ3
      have hst := hcells_store out y x (mid1 ++ x :: rest)
      rw [show out ++ (y :: mid1) ++ x :: rest = out ++ y :: (mid1 ++ x :: rest) by simp] at w4
      rw [hst] at w4
      have e4 : wr .i64 ((out.length : Int) + Int.ofNat 1) = ((out ++ [x]).length : Int) := by
        rw [wr_id (by simp; omega) (by simp; omega)]; simp
      obtain ⟨H5, τ5, mid', q1', q2', q3', q4', q5'⟩ := ih (out ++ [x]) (mid1 ++ [x]) H4 (T.set (T.set (T.set (T.set (T.set (T.set (T.set .leaf 0 lv) 1 (.func g [] [.ptr b 0])) 5 (.int .i64 ((out ++ [x]).length : Int))) 6 (.int .i64 ((out ++ y :: mid1).length : Int))) 20 (.int .i64 ((out ++ y :: mid1).length : Int))) 21 (.int .i64 (((out ++ y :: mid1).length + 1 : Nat) : Int))) 6 (.int .i64 (((out ++ y :: mid1).length + 1 : Nat) : Int))) τ3 m
        (by rw [← hL]; simp <;> omega) (by simp) (fun h hh => hsz h (by simp [hh])) (by simp at hm; omega) w5.wf (by rw [w6]; exact Nat.le_trans hB g13.size) (by simpa using w4) (hb3.gr w5 hbB) (by simp [T.get_set]) (by simp [T.get_set]) (by simp [T.get_set]) (by simp [T.get_set]; omega)
      refine ⟨H5, τ5, mid', q1', by simpa using q2', by simpa using q3', ((g13.weaken hB).trans w5 (Nat.le_refl _)).trans q4' (Nat.le_refl _), fun k => ?_⟩
      rw [loopK_succ]
      simp only [s_slices_DeleteFunc_Header_l1, getK_mk f0, getK_mk f1, getK_mk f5, getK_mk f6, ho.pLen, someK_n, bin_lss, e1, condK_tn, p1, q1, a1, effK_n, s1', l1, kv, hnm', un_not, Bool.not_false, l3, w1, w3, bin_add, e4, s_slices_DeleteFunc_Header_j2, getK_set, ↓reduceIte, Nat.reduceEqDiff, e3]
      have := q5' k
      rw [show out ++ [x] ++ dropT name rest = out ++ x :: dropT name rest by simp] at this
      exact this
theorem s_slices_DeleteFunc_Header_ret (c : CallK) (N : Nat) (hN : 9223372036854775807 ≤ N) (g b : Nat) (name : Bs) (hf : IsF c g b name) (hs : List Hd) (hl : hs.length ≤ 1000000) (hsz : ∀ h ∈ hs, h.1.length ≤ 140737488355328) (lv : V) (H : Heap) (hw : WF H) (B : Nat) (hB : B ≤ H.size) (hbB : b < B)
    (ha : Apd H B 2 lv hs.length (hcells hs)) (hb : Bx H b [.str name]) (τ : Tape)
    (h49 : ∃ H' τ', Gr H.size H H' ∧ ∀ q, c f_slices_IndexFunc_Header [lv, .func g [] [.ptr b 0]] H τ q = q (.int .i64 (findI name hs 0)) H' τ') :
    ∃ w H' τ', Got H' B 2 w (dropT name hs).length (hcells (dropT name hs)) ∧ (w = .nils ↔ lv = .nils) ∧ Gr B H H' ∧ ∀ q, s_slices_DeleteFunc_Header c N lv (.func g [] [.ptr b 0]) H τ q = q w H' τ' := by
  obtain ⟨H1, τ1, g1, k1⟩ := h49
  rcases findI_spec name hs 0 with ⟨h1, h2⟩ | ⟨a, h, r, h1, h2, h3, h4⟩
  · rw [h1] at k1
    have e1 : ((-1 : Int) == Int.negSucc 0) = true := rfl
    refine ⟨lv, H1, τ1, ?_, Iff.rfl, g1.weaken hB, fun q => ?_⟩
    · rw [dropT_none h2]; exact (ha.gr g1 hw (Nat.le_refl _)).got
    · simp only [s_slices_DeleteFunc_Header, k1, bin_eql, e1, condK_tn]
  · rw [h4, Nat.zero_add] at k1
    have e1 : ((a.length : Int) == Int.negSucc 0) = false := by rw [beq_eq_false_iff_ne]; intro h; have : (0 : Int) ≤ (a.length : Int) := Int.natCast_nonneg _; rw [h] at this; exact absurd this (by decide)
    have e3 : wr .i64 ((a.length : Int) + Int.ofNat 1) = ((a ++ [h]).length : Int) := by
      have : a.length < hs.length := by rw [h1]; simp
      rw [wr_id (by simp; omega) (by simp; omega)]; simp
    have hn0 : 0 < hs.length := by rw [h1]; simp; omega
    have hrl0 : r.length < hs.length := by rw [h1]; simp; omega
    have ho1 : Own H1 B 2 lv hs.length (hcells (a ++ [h] ++ r)) := by
      have := (ha.own hn0).gr g1 hw (Nat.le_refl _)
      rw [show a ++ [h] ++ r = hs by rw [h1]; simp]; exact this
    obtain ⟨H2, τ2, mid, q1, q2, q3, q4, q5⟩ := l_slices_DeleteFunc_Header c N g b name hf lv B hs.length hl hbB r a [h] H1 (T.set (T.set (T.set (T.set .leaf 0 lv) 1 (.func g [] [.ptr b 0])) 5 (.int .i64 (a.length : Int))) 6 (.int .i64 ((a ++ [h]).length : Int))) τ1 N
      (by rw [h1]; simp) (by simp) (fun x hx => hsz x (by rw [h1]; simp [hx])) (by omega) g1.wf (Nat.le_trans hB g1.size) ho1 (hb.gr g1 (by omega)) (by simp [T.get_set]) (by simp [T.get_set]) (by simp [T.get_set]) (by simp [T.get_set])
    have ed : dropT name hs = a ++ dropT name r := by
      rw [h1]
      show List.filter _ _ = _
      rw [List.filter_append, List.filter_cons, h3]
      have := dropT_none h2
      unfold dropT at this ⊢
      rw [this]; rfl
    rw [← ed] at q2 q3 q5
    have hlen : (dropT name hs).length < hs.length := by
      have : mid.length ≠ 0 := fun e => q1 (List.eq_nil_of_length_eq_zero e)
      rw [List.length_append] at q2; omega
    obtain ⟨id, e, rfl, hid, hsp⟩ := q3.split hn0
    obtain ⟨c2, hst⟩ := hsp H2 _ q3 q4.wf
    obtain ⟨off', lo', ex', m1, m2, m3⟩ := from_mk (id := id) (off := 0) (n := hs.length) (lo := hs.length) (z := 2) (ex := some e) (by rw [within_iff]; exact .inl (Nat.le_refl _)) (Nat.le_of_lt hlen)
    have hoff := m2 hlen
    rw [Nat.zero_add] at hoff
    subst hoff
    have hrl : (repl (hs.length - (dropT name hs).length) [V.str [], V.str []]).length = (hs.length - (dropT name hs).length) * 2 := by
      rw [repl_length]; rfl
    have hrs : (repl (hs.length - (dropT name hs).length) [V.str [], V.str []]).all V.scal = true := by
      unfold repl
      rw [List.all_eq_true]
      intro v hv'
      rw [List.mem_flatten] at hv'
      obtain ⟨l, h1', h2'⟩ := hv'
      rw [List.eq_of_mem_replicate h1'] at h2'
      simp only [List.mem_cons, List.mem_nil_iff, or_false, or_self] at h2'
      subst h2'; rfl
    obtain ⟨H3, n1, n2, n3, n4⟩ := hst ((dropT name hs).length * 2) (repl (hs.length - (dropT name hs).length) [V.str [], V.str []]) (by rw [hrl]; omega) hrs
    have ec : eClear 2 [(.str []), (.str [])] [.sl id ((dropT name hs).length * 2) (hs.length - (dropT name hs).length) lo' ex' 2] H2 τ2 = some (.tup [], H3, τ2) := by
      simp only [eClear, Nat.beq_refl, List.length_cons, List.length_nil, Bool.and_self, cond_true, n1]
    have hi := cut_hi (id := id) (n := hs.length) (e := e) (z := 2) (Nat.le_of_lt hlen)
    refine ⟨.sl id 0 (dropT name hs).length hs.length (some e) 2, H3, τ2, ?_, ⟨(fun h => by cases h), (fun h => by cases h)⟩, ((g1.weaken hB).trans q4 (Nat.le_refl _)).trans n3 (Nat.le_refl _), fun q => ?_⟩
    · refine .inr ?_
      have t0 : List.take ((dropT name hs).length * 2) (hcells (dropT name hs ++ mid)) = hcells (dropT name hs) := by
        rw [hcells_append, ← hcells_length (dropT name hs), List.take_left]
      rcases n2 with ⟨hh, _⟩ | ⟨id', e', room, fam, ver, pl, st, fr, hh, k2, k3, k4, k5, k6, k7⟩
      · cases hh
      · cases hh
        refine ⟨id, 0, hs.length, some e, _, room, fam, ver, pl, st, fr, ver, rfl, k2, k3, k4, k6, ?_, hcells_length _, .inl rfl⟩
        rw [List.drop_zero, t0, List.append_assoc, ← hcells_length (dropT name hs), List.take_left]
    · simp only [s_slices_DeleteFunc_Header, k1, bin_eql, e1, condK_fn, bin_add, e3]
      rw [q5]
      simp only [blockK, Nat.beq_refl, cond_true, seqK, s_slices_DeleteFunc_Header_j0, getK_set, ↓reduceIte, Nat.reduceEqDiff, m1, someK_n, ec, effK_n, hi]
theorem s_headers_Drop_ret (c : CallK) (N : Nat) (name : Bs) (hs : List Hd) (lv : V) (H : Heap) (hw : WF H) (hr : Rd H 2 lv hs.length (hcells hs)) (hsr : Src H lv) (τ : Tape)
    (h44 : ∀ (H : Heap), WF H → Rd H 2 lv hs.length (hcells hs) → Src H lv → ∀ τ, ∃ v' H' τ', Apd H' H.size 2 v' hs.length (hcells hs) ∧ (v' = .nils ↔ lv = .nils) ∧ Gr H.size H H' ∧ ∀ q, c f_slices_Clone_Header [lv] H τ q = q v' H' τ')
    (h47 : ∀ (b : Nat) (v : V) (H : Heap) (B : Nat), WF H → B ≤ H.size → b < B → Apd H B 2 v hs.length (hcells hs) → Bx H b [.str name] → ∀ τ, ∃ w H' τ', Got H' B 2 w (dropT name hs).length (hcells (dropT name hs)) ∧ (w = .nils ↔ v = .nils) ∧ Gr B H H' ∧ ∀ q, c f_slices_DeleteFunc_Header [v, .func f_headers_Drop_1 [] [.ptr b 0]] H τ q = q w H' τ') :
    ∃ w H' τ', Got H' H.size 2 w (dropT name hs).length (hcells (dropT name hs)) ∧ (w = .nils ↔ lv = .nils) ∧ Gr H.size H H' ∧ ∀ q, s_headers_Drop c N lv (.str name) H τ q = q w H' τ' := by
  have a1 : eBox [.str name] H τ = some (.ptr H.size 0, H.new [.str name] 1 true, τ) := rfl
  have g1 := Gr.new hw [.str name] 1 true
  have b1 := Bx.new H [.str name] 1 true (Nat.le_refl _)
  have z1 : (H.new [.str name] 1 true).size = H.size + 1 := rfl
  generalize H.new [.str name] 1 true = H1 at a1 g1 b1 z1
  obtain ⟨v2, H2, τ2, o2, j2, g2, k2⟩ := h44 H1 g1.wf (hr.gr g1 hw (Nat.le_refl _)) (hsr.gr g1 hw (Nat.le_refl _)) τ
  obtain ⟨w, H3, τ3, r3, j3, g3, k3⟩ := h47 H.size v2 H2 H1.size g2.wf g2.size (by omega) o2 (b1.gr g2 (by omega)) τ2
  have ef : V.func f_headers_Drop_1 (List.take 0 [V.ptr H.size 0]) (List.drop 0 [V.ptr H.size 0]) = .func f_headers_Drop_1 [] [.ptr H.size 0] := rfl
  refine ⟨w, H3, τ3, r3.weaken g1.size, j3.trans j2, (g1.trans g2 g1.size).trans (g3.weaken g1.size) (Nat.le_refl _), fun q => ?_⟩
  simp only [s_headers_Drop, a1, effK_n, k2, ef, someK_n, k3]
def setF (name v : Bs) (at' : Nat) : List Hd → Nat → List Hd
  | [], _ => []
  | h :: l, i => if i = at' then (h.1, v) :: setF name v at' l (i + 1) else bif named name h then setF name v at' l (i + 1) else h :: setF name v at' l (i + 1)
theorem setF_len (name v : Bs) (at' : Nat) : ∀ (l : List Hd) (i : Nat), (setF name v at' l i).length ≤ l.length := by
  intro l
  induction l with
  | nil => intro i; exact Nat.le_refl _
  | cons h l ih =>
    intro i
    have := ih (i + 1)
    rw [setF]
    split
    · simp; omega
    · cases named name h <;> simp <;> omega
theorem l_headers_Set (c : CallK) (N : Nat) (b : Nat) (name v : Bs) (h45 : Is45 c name) (hs : List Hd) (hl : hs.length ≤ 1000000) (hsz : ∀ h ∈ hs, h.1.length ≤ 140737488355328) (lv : V) (at' B : Nat) :
    ∀ (l pre out : List Hd) (o : V) (H : Heap) (fr : T V) (τ : Tape) (m : Nat), hs = pre ++ l → l.length < m → out.length + l.length ≤ 1000000 → WF H → B ≤ H.size → b < B → Bx H b [.str name] →
    (∀ H', Gr B H H' → Rd H' 2 lv hs.length (hcells hs)) → Apd H B 2 o out.length (hcells out) →
    fr.get 4 = some (.ptr b 0) → fr.get 8 = some (.int .i64 (at' : Int)) → fr.get 9 = some (.str v) → fr.get 11 = some o → fr.get 34 = some lv → fr.get 35 = some (.int .i64 (hs.length : Int)) → fr.get 36 = some (.int .i64 (pre.length : Int)) →
    ∃ o' H' τ', Apd H' B 2 o' (out ++ setF name v at' l pre.length).length (hcells (out ++ setF name v at' l pre.length)) ∧ Gr B H H' ∧ ∀ k, loopK (s_headers_Set_l1 c N) m ⟨fr, H⟩ τ k = k (.exit 0) ⟨(T.set .leaf 11 o'), H'⟩ τ' := by
  intro l
  induction l with
  | nil =>
    intro pre out o H fr τ m he hm hol hw hB hbB hb hrd ho f4 f8 f9 f11 f34 f35 f36
    obtain ⟨m, rfl⟩ : ∃ j, m = j + 1 := ⟨m - 1, by omega⟩
    have e1 : decide ((pre.length : Int) < (hs.length : Int)) = false := decide_eq_false (by rw [he]; simp)
    refine ⟨o, H, τ, by simpa [setF] using ho, Gr.refl hw, fun k => ?_⟩
    rw [loopK_succ]
    simp only [s_headers_Set_l1, getK_mk f4, getK_mk f8, getK_mk f9, getK_mk f11, getK_mk f34, getK_mk f35, getK_mk f36, bin_lss, e1, condK_fn, seqK]
  | cons h l ih =>
    intro pre out o H fr τ m he hm hol hw hB hbB hb hrd ho f4 f8 f9 f11 f34 f35 f36
    obtain ⟨m, rfl⟩ : ∃ j, m = j + 1 := ⟨m - 1, by omega⟩
    have hlt : pre.length < hs.length := by rw [he]; simp
    have e1 : decide ((pre.length : Int) < (hs.length : Int)) = true := decide_eq_true (by omega)
    have e3 : wr .i64 ((pre.length : Int) + Int.ofNat 1) = ((pre ++ [h]).length : Int) := by
      rw [wr_id (by simp; omega) (by simp; omega)]; simp
    have hr := hrd H (Gr.refl hw)
    obtain ⟨id, oo, p1, p2⟩ := hd_at (v := lv) pre h l (H := H) (by rw [← he]; exact hr)
    obtain ⟨q1, _, _⟩ := p2 H (by rw [← he]; exact hr)
    obtain ⟨H1, H2, a1, s1, b2, g2, lt2⟩ := box2 hw (.str h.1) (.str h.2) (.str []) (.str []) rfl rfl τ
    have s1' : eStore 2 [.ptr H.size 0, hv h] H1 τ = some (.tup [], H2, τ) := s1
    have l1 : lLoadN 2 [.ptr H.size 0] H2 = some (hv h) := load_cells b2.cells (by simp)
    have l1a : lLoad1 [.ptr H.size 0] H2 = some (.str h.1) := load_cell b2.cells rfl
    have fa : pFieldAddr 0 [.ptr H.size 0] = some (.ptr H.size 0) := rfl
    have hb2 : Bx H2 b [.str name] := hb.gr g2 (by omega)
    have ln : lLoad1 [.ptr b 0] H2 = some (.str name) := load_cell hb2.cells rfl
    have ho2 := ho.gr g2 hw (Nat.le_refl _)
    have elen : (pre ++ [h]).length = pre.length + 1 := by simp
    have fin : ∀ (out' : List Hd) (o' : V) (H' : Heap) (τ' : Tape), Apd H' B 2 o' out'.length (hcells out') → Gr B H H' → out'.length + l.length ≤ 1000000 → out' ++ setF name v at' l (pre.length + 1) = out ++ setF name v at' (h :: l) pre.length →
        ∃ o'' H'' τ'', Apd H'' B 2 o'' (out ++ setF name v at' (h :: l) pre.length).length (hcells (out ++ setF name v at' (h :: l) pre.length)) ∧ Gr B H H'' ∧
          ∀ (fr' : T V) k, fr'.get 4 = some (.ptr b 0) → fr'.get 8 = some (.int .i64 (at' : Int)) → fr'.get 9 = some (.str v) → fr'.get 11 = some o' → fr'.get 34 = some lv → fr'.get 35 = some (.int .i64 (hs.length : Int)) → fr'.get 36 = some (.int .i64 ((pre ++ [h]).length : Int)) →
            loopK (s_headers_Set_l1 c N) m ⟨fr', H'⟩ τ' k = k (.exit 0) ⟨(T.set .leaf 11 o''), H''⟩ τ'' := by
      intro out' o' H' τ' ho' g' hl' hs'
      have key := fun (fr' : T V) h4 h8 h9 h11 h34 h35 h36 => ih (pre ++ [h]) out' o' H' fr' τ' m (by rw [he]; simp) (by simp at hm; omega) hl' g'.wf (Nat.le_trans hB g'.size) hbB (hb.gr g' hbB) (fun H'' gg => hrd H'' (g'.trans gg (Nat.le_refl _))) ho' h4 h8 h9 h11 h34 h35 h36
      let fr0 : T V := T.set (T.set (T.set (T.set (T.set (T.set (T.set .leaf 4 (.ptr b 0)) 8 (.int .i64 (at' : Int))) 9 (.str v)) 11 o') 34 lv) 35 (.int .i64 (hs.length : Int))) 36 (.int .i64 ((pre ++ [h]).length : Int))
      obtain ⟨o'', H'', τ'', z1, z2, z3⟩ := key fr0 (by simp [fr0, T.get_set]) (by simp [fr0, T.get_set]) (by simp [fr0, T.get_set]) (by simp [fr0, T.get_set]) (by simp [fr0, T.get_set]) (by simp [fr0, T.get_set]) (by simp [fr0, T.get_set])
      rw [elen, hs'] at z1
      refine ⟨o'', H'', τ'', z1, g'.trans z2 (Nat.le_refl _), fun fr' k h4 h8 h9 h11 h34 h35 h36 => ?_⟩
      have same : ∀ m k, loopK (s_headers_Set_l1 c N) (m + 1) ⟨fr', H'⟩ τ' k = loopK (s_headers_Set_l1 c N) (m + 1) ⟨fr0, H'⟩ τ' k := by
        intro m k
        rw [loopK_succ, loopK_succ]
        have g4 : fr0.get 4 = some (.ptr b 0) := by simp [fr0, T.get_set]
        have g8 : fr0.get 8 = some (.int .i64 (at' : Int)) := by simp [fr0, T.get_set]
        have g9 : fr0.get 9 = some (.str v) := by simp [fr0, T.get_set]
        have g11 : fr0.get 11 = some o' := by simp [fr0, T.get_set]
        have g34 : fr0.get 34 = some lv := by simp [fr0, T.get_set]
        have g35 : fr0.get 35 = some (.int .i64 (hs.length : Int)) := by simp [fr0, T.get_set]
        have g36 : fr0.get 36 = some (.int .i64 ((pre ++ [h]).length : Int)) := by simp [fr0, T.get_set]
        simp only [s_headers_Set_l1, getK_mk h4, getK_mk h8, getK_mk h9, getK_mk h11, getK_mk h34, getK_mk h35, getK_mk h36, getK_mk g4, getK_mk g8, getK_mk g9, getK_mk g11, getK_mk g34, getK_mk g35, getK_mk g36]
      obtain ⟨m', rfl⟩ : ∃ j, m = j + 1 := ⟨m - 1, by simp at hm; omega⟩
      rw [same]; exact z3 k
    by_cases hat : pre.length = at'
    · have e2 : ((pre.length : Int) == (at' : Int)) = true := by rw [beq_iff_eq, hat]
      have pb : pBuild [(.str []), (.str [])] [(0, 1), (1, 1)] [.str h.1, .str v] = some (.agg [.str h.1, .str v]) := rfl
      obtain ⟨w, H3, v4, H4, τ4, m1, m2, m3, m4, _, _⟩ := put2 ho2 g2.wf (Nat.le_trans hB g2.size) (h.1, v) (by omega) τ
      obtain ⟨o'', H'', τ'', z1, z2, z3⟩ := fin (out ++ [(h.1, v)]) v4 H4 τ4 (by simpa using m3) ((g2.weaken hB).trans m4 (Nat.le_refl _)) (by simp at hol ⊢; omega) (by rw [setF, if_pos hat]; simp)
      refine ⟨o'', H'', τ'', z1, z2, fun k => ?_⟩
      rw [loopK_succ]
      simp only [s_headers_Set_l1, getK_mk f4, getK_mk f8, getK_mk f9, getK_mk f11, getK_mk f34, getK_mk f35, getK_mk f36, bin_lss, e1, condK_tn, p1, q1, someK_n, a1, effK_n, s1', bin_eql, e2, fa, l1a, pb, m1, m2, s_headers_Set_j2, getK_set, ↓reduceIte, Nat.reduceEqDiff, bin_add, e3]
      exact z3 _ k (by simp [T.get_set]) (by simp [T.get_set]) (by simp [T.get_set]) (by simp [T.get_set]) (by simp [T.get_set]) (by simp [T.get_set]) (by simp [T.get_set])
    · have e2 : ((pre.length : Int) == (at' : Int)) = false := by rw [beq_eq_false_iff_ne]; intro h; exact hat (Int.ofNat.inj h)
      obtain ⟨H3, τ3, g3, k3⟩ := h45 h (hsz h (by rw [he]; simp)) H2 g2.wf τ
      have g13 : Gr H.size H H3 := g2.trans g3 g2.size
      have ho3 := ho2.gr g3 g2.wf (Nat.le_refl _)
      have l3 : lLoadN 2 [.ptr H.size 0] H3 = some (hv h) := load_cells (b2.gr g3 lt2).cells (by simp)
      by_cases hnm : named name h = true
      · obtain ⟨o'', H'', τ'', z1, z2, z3⟩ := fin out o H3 τ3 ho3 (g13.weaken hB) (by simp at hol; omega) (by rw [setF, if_neg hat, hnm]; rfl)
        refine ⟨o'', H'', τ'', z1, z2, fun k => ?_⟩
        rw [loopK_succ]
        simp only [s_headers_Set_l1, getK_mk f4, getK_mk f8, getK_mk f9, getK_mk f11, getK_mk f34, getK_mk f35, getK_mk f36, bin_lss, e1, condK_tn, p1, q1, someK_n, a1, effK_n, s1', bin_eql, e2, condK_fn, l1, ln, k3, hnm, un_not, Bool.not_true, s_headers_Set_j2, getK_set, ↓reduceIte, Nat.reduceEqDiff, bin_add, e3]
        exact z3 _ k (by simp [T.get_set]) (by simp [T.get_set]) (by simp [T.get_set]) (by simp [T.get_set]) (by simp [T.get_set]) (by simp [T.get_set]) (by simp [T.get_set])
      · have hnm' : named name h = false := by simpa using hnm
        obtain ⟨w, H4, v5, H5, τ5, m1, m2, m3, m4, _, _⟩ := put2 ho3 g13.wf (Nat.le_trans hB g13.size) h (by omega) τ3
        have m1' : eBuildSlice 1 2 [(.str []), (.str [])] [(0, 2)] [hv h] H3 τ3 = some (w, H4, τ3) := m1
        obtain ⟨o'', H'', τ'', z1, z2, z3⟩ := fin (out ++ [h]) v5 H5 τ5 (by simpa using m3) ((g13.weaken hB).trans m4 (Nat.le_refl _)) (by simp at hol ⊢; omega) (by rw [setF, if_neg hat, hnm']; simp)
        refine ⟨o'', H'', τ'', z1, z2, fun k => ?_⟩
        rw [loopK_succ]
        simp only [s_headers_Set_l1, getK_mk f4, getK_mk f8, getK_mk f9, getK_mk f11, getK_mk f34, getK_mk f35, getK_mk f36, bin_lss, e1, condK_tn, p1, q1, someK_n, a1, effK_n, s1', bin_eql, e2, condK_fn, l1, ln, k3, hnm', un_not, Bool.not_false, l3, m1', m2, s_headers_Set_j2, getK_set, ↓reduceIte, Nat.reduceEqDiff, bin_add, e3]
        exact z3 _ k (by simp [T.get_set]) (by simp [T.get_set]) (by simp [T.get_set]) (by simp [T.get_set]) (by simp [T.get_set]) (by simp [T.get_set]) (by simp [T.get_set])
def setE (n v : Bs) (hs : List Hd) : Int := if findI n hs 0 < 0 then addE n v hs.length else mayE n v
def setT (n v : Bs) (hs : List Hd) : List Hd := if findI n hs 0 < 0 then hs ++ [(n, valT v)] else setF n (valT v) (findI n hs 0).toNat hs 0
theorem Apd.weaken {H : Heap} {B C z : Nat} {v : V} {n : Nat} {cs : List V} (h : Apd H C z v n cs) (hBC : B ≤ C) : Apd H B z v n cs := by
  rcases h with (h | ⟨id, e, room, fam, ver, pl, st, fr, h1, h2, h3, h4, h5, h6, h7⟩) | ⟨h1, h2, id, h3, h4⟩
  · exact .inl (.inl h)
  · exact .inl (.inr ⟨id, e, room, fam, ver, pl, st, fr, h1, h2, h3, h4, Nat.le_trans hBC h5, Nat.le_trans hBC h6, h7⟩)
  · exact .inr ⟨h1, h2, id, h3, h4.weaken hBC⟩
theorem s_headers_Set_ret (c : CallK) (N : Nat) (hN : 9223372036854775807 ≤ N) (hs : List Hd) (hl : hs.length < 1000000) (hsz : ∀ h ∈ hs, h.1.length ≤ 140737488355328) (n v : Bs) (lv : V) (H : Heap) (hw : WF H) (hr : Rd H 2 lv hs.length (hcells hs)) (hsr : Src H lv) (τ : Tape)
    (h45 : Is45 c n)
    (h49 : ∀ (b : Nat) (H : Heap), WF H → Rd H 2 lv hs.length (hcells hs) → H.cells? b = some [.str n] → ∀ τ, ∃ H' τ', Gr H.size H H' ∧ ∀ q, c f_slices_IndexFunc_Header [lv, .func f_headers_Set_1 [] [.ptr b 0]] H τ q = q (.int .i64 (findI n hs 0)) H' τ')
    (h43 : ∀ (H : Heap), WF H → ∀ τ, ∃ H1 τ1, Gr H.size H H1 ∧ ∀ q, c f_headers_may [.str n, .str v] H τ q = q (mayV n v) H1 τ1)
    (h19 : ∀ (H : Heap), WF H → Rd H 2 lv hs.length (hcells hs) → Src H lv → ∀ τ, ∃ r H' τ', Gr H.size H H' ∧ (addE n v hs.length = 0 → Apd H' H.size 2 r (hs.length + 1) (hcells (hs ++ [(n, valT v)]))) ∧ (addE n v hs.length ≠ 0 → r = .nils) ∧ ∀ q, c f_headers_Add [lv, .str n, .str v] H τ q = q (.tup [r, .int .i64 (addE n v hs.length)]) H' τ') :
    ∃ r H' τ', Gr H.size H H' ∧ (setE n v hs = 0 → Apd H' H.size 2 r (setT n v hs).length (hcells (setT n v hs))) ∧ (setE n v hs ≠ 0 → r = .nils) ∧ ∀ q, s_headers_Set c N lv (.str n) (.str v) H τ q = q (.tup [r, .int .i64 (setE n v hs)]) H' τ' := by
  have a1 : eBox [.str n] H τ = some (.ptr H.size 0, H.new [.str n] 1 true, τ) := rfl
  have g1 := Gr.new hw [.str n] 1 true
  have b1 := Bx.new H [.str n] 1 true (Nat.le_refl _)
  have z1 : (H.new [.str n] 1 true).size = H.size + 1 := rfl
  generalize H.new [.str n] 1 true = H1 at a1 g1 b1 z1
  have hr1 := hr.gr g1 hw (Nat.le_refl _)
  have hsr1 := hsr.gr g1 hw (Nat.le_refl _)
  obtain ⟨H2, τ2, g2, k2⟩ := h49 H.size H1 g1.wf hr1 b1.cells τ
  have hr2 := hr1.gr g2 g1.wf (Nat.le_refl _)
  have hsr2 := hsr1.gr g2 g1.wf (Nat.le_refl _)
  have b2 := b1.gr g2 (by omega)
  have g12 : Gr H.size H H2 := g1.trans g2 g1.size
  have ln : lLoad1 [.ptr H.size 0] H2 = some (.str n) := load_cell b2.cells rfl
  have x0 : ∀ a b : V, pExtract 0 [.tup [a, b]] = some a := fun _ _ => rfl
  have x1 : ∀ a b : V, pExtract 1 [.tup [a, b]] = some b := fun _ _ => rfl
  have ef : V.func f_headers_Set_1 (List.take 0 [V.ptr H.size 0]) (List.drop 0 [V.ptr H.size 0]) = .func f_headers_Set_1 [] [.ptr H.size 0] := rfl
  unfold setE setT
  by_cases hneg : findI n hs 0 < 0
  · rw [if_pos hneg, if_pos hneg]
    have e1 : decide (findI n hs 0 < Int.ofNat 0) = true := decide_eq_true hneg
    obtain ⟨r, H3, τ3, g3, r1, r2, k3⟩ := h19 H2 g2.wf hr2 hsr2 τ2
    refine ⟨r, H3, τ3, g12.trans g3 g12.size, fun h => ?_, r2, fun q => ?_⟩
    · have := Apd.weaken (r1 h) g12.size
      simpa using this
    · simp only [s_headers_Set, a1, effK_n, ef, someK_n, k2, bin_lss, e1, condK_tn, ln, k3, x0, x1]
  · rw [if_neg hneg, if_neg hneg]
    have e1 : decide (findI n hs 0 < Int.ofNat 0) = false := decide_eq_false hneg
    obtain ⟨H3, τ3, g3, k3⟩ := h43 H2 g2.wf τ2
    have g13 : Gr H.size H H3 := g12.trans g3 g12.size
    unfold mayV at k3
    generalize mayE n v = e at k3 ⊢
    by_cases he : e = 0
    · subst he
      have e2 : ((0 : Int) != Int.ofNat 0) = false := rfl
      rw [if_pos rfl] at k3
      have hat : findI n hs 0 = (((findI n hs 0).toNat : Nat) : Int) := by omega
      have hr3 := hr2.gr g3 g2.wf (Nat.le_refl _)
      obtain ⟨o', H4, τ4, o4, g4, k4⟩ := l_headers_Set c N H.size n (valT v) h45 hs (by omega) hsz lv (findI n hs 0).toNat H3.size hs [] [] .nils H3 (T.set (T.set (T.set (T.set (T.set (T.set (T.set .leaf 4 (.ptr H.size 0)) 8 (.int .i64 (findI n hs 0))) 9 (.str (valT v))) 11 .nils) 34 lv) 35 (.int .i64 (hs.length : Int))) 36 (.int .i64 (.ofNat 0))) τ3 N rfl (by omega) (by simp; omega) g3.wf (Nat.le_refl _)
        (by have := b2.lt g2.wf; have := g3.size; omega) (b2.gr g3 (b2.lt g2.wf)) (fun H' gg => hr3.gr gg g3.wf (Nat.le_refl _)) (Apd.nil _ _ _) (by simp [T.get_set]) (by rw [← hat]; simp [T.get_set]) (by simp [T.get_set]) (by simp [T.get_set]) (by simp [T.get_set]) (by simp [T.get_set]) (by simp [T.get_set])
      refine ⟨o', H4, τ4, g13.trans g4 g13.size, fun _ => (by simpa using Apd.weaken o4 g13.size), fun h => absurd rfl h, fun q => ?_⟩
      simp only [s_headers_Set, a1, effK_n, ef, someK_n, k2, bin_lss, e1, condK_fn, ln, k3, x0, x1, bin_neq, e2, hr.pLen]
      rw [k4]
      simp only [blockK, Nat.beq_refl, cond_true, seqK, s_headers_Set_j0, getK_set, ↓reduceIte]
      rfl
    · have e2 : (e != Int.ofNat 0) = true := by rw [bne_iff_ne]; exact he
      rw [if_neg he] at k3
      refine ⟨.nils, H3, τ3, g13, fun h => absurd h he, fun _ => rfl, fun q => ?_⟩
      simp only [s_headers_Set, a1, effK_n, ef, someK_n, k2, bin_lss, e1, condK_fn, ln, k3, x0, x1, bin_neq, e2, condK_tn]
end Go.Am.X

namespace Go.Am.X
set_option linter.unusedSimpArgs false
set_option linter.unusedVariables false
set_option linter.unusedSectionVars false
set_option maxRecDepth 100000
section
variable {N : Nat} (hN : 9223372036854775807 < N)
include hN
theorem d_strings_shouldUseASCIISet (d : Nat) (hd : 1 ≤ d) (n : Int) (H : Heap) (τ : Tape) (q : KV) : C N d f_strings_shouldUseASCIISet [.int .i64 n] H τ q = q (.bool (decide (8 < n))) H τ := by
  obtain ⟨d, rfl⟩ : ∃ e, d = e + 1 := ⟨d - 1, by omega⟩
  exact s_strings_shouldUseASCIISet_ret (C N d) N n H τ q
theorem d_utf8_ValidRune (d : Nat) (hd : 1 ≤ d) (n : Int) (H : Heap) (τ : Tape) : ∃ b, ∀ q, C N d f_utf8_ValidRune [.int .i32 n] H τ q = q (.bool b) H τ := by
  obtain ⟨d, rfl⟩ : ∃ e, d = e + 1 := ⟨d - 1, by omega⟩
  exact s_utf8_ValidRune_ret (C N d) N n H τ
theorem d_stringslite_IndexByte (d : Nat) (hd : 1 ≤ d) (s : Bs) (x : UInt8) (H : Heap) (τ : Tape) (q : KV) : C N d f_stringslite_IndexByte [.str s, .int .u8 (x.toNat : Int)] H τ q = q (.int .i64 (idxB x.toNat s 0)) H τ := by
  obtain ⟨d, rfl⟩ : ∃ e, d = e + 1 := ⟨d - 1, by omega⟩
  have e4 : x.toNat % 256 = x.toNat := Nat.mod_eq_of_lt (u8_lt x)
  show effK (idxP [.str s, .int .u8 (.ofNat x.toNat)] H τ) q = _
  simp only [idxP, e4, effK_n]
theorem d_strings_IndexByte (d : Nat) (hd : 2 ≤ d) : Idx70 (C N d) := by
  intro s x H τ q
  obtain ⟨d, rfl⟩ : ∃ e, d = e + 1 := ⟨d - 1, by omega⟩
  exact s_strings_IndexByte_ret (C N d) N (fun s x H τ q => d_stringslite_IndexByte hN d (by omega) s x H τ q) s x H τ q
theorem d_strings_IndexRune (d : Nat) (hd : 3 ≤ d) (cut : Bs) (ha : ∀ x ∈ cut, x.toNat < 128) (hl : cut.length < 1000) : Rune92 (C N d) cut := by
  intro r H hw τ
  obtain ⟨d, rfl⟩ : ∃ e, d = e + 1 := ⟨d - 1, by omega⟩
  obtain ⟨H', g, k⟩ := s_strings_IndexRune_ret (C N d) N (by omega) (d_strings_IndexByte hN d (by omega)) (fun n H τ => d_utf8_ValidRune hN d (by omega) n H τ) cut ha hl r H hw τ
  exact ⟨H', g, k⟩
theorem d60' (d : Nat) (hd : 1 ≤ d) (cut : Bs) (ha : ∀ x ∈ cut, x.toNat < 128) (h3 : cut.length < 9223372036854775807) (H : Heap) (hw : WF H) (τ : Tape) :
    ∃ H', Gr H.size H H' ∧ ∀ q, C N d f_strings_makeASCIISet [.str cut] H τ q = q (.tup [.agg (mark (repl 256 [.bool false]) cut), .bool true]) H' τ := by
  obtain ⟨d, rfl⟩ : ∃ e, d = e + 1 := ⟨d - 1, by omega⟩
  obtain ⟨H', g, k⟩ := s_strings_makeASCIISet_ret (C N d) N (Nat.le_of_lt hN) cut ha h3 H hw τ retK
  exact ⟨H', g, fun q => (C_nat N (d + 1)).mk (f := f_strings_makeASCIISet) (vs := [.str cut]) k q⟩
theorem d_strings_ContainsAny (d : Nat) (hd : 5 ≤ d) (cut s : Bs) (ha : ∀ x ∈ cut, x.toNat < 128) (h2 : 2 ≤ cut.length) (hl : cut.length < 1000) (hs : s.length < 9223372036854775807) (H : Heap) (hw : WF H) (τ : Tape) :
    ∃ H', Gr H.size H H' ∧ ∀ q, C N d f_strings_ContainsAny [.str s, .str cut] H τ q = q (.bool (s.any cut.contains)) H' τ := by
  obtain ⟨d, rfl⟩ : ∃ e, d = e + 1 + 1 := ⟨d - 2, by omega⟩
  obtain ⟨H', g, k⟩ := s_strings_IndexAny_ret (C N d) N (Nat.le_of_lt hN) cut s ha h2 hs (d_strings_IndexRune hN d (by omega) cut ha hl) (fun n H τ q => d_strings_shouldUseASCIISet hN d (by omega) n H τ q) (fun H hw τ => d60' hN d (by omega) cut ha (by omega) H hw τ)
    (fun id H hc x τ q => by
      obtain ⟨d, rfl⟩ : ∃ e, d = e + 1 := ⟨d - 1, by omega⟩
      exact d_asciiSet_contains hN d cut hc x τ q) H hw τ
  exact ⟨H', g, fun q => s_strings_ContainsAny_ret (C N (d + 1)) N cut s H H' τ k q⟩
theorem d35' (d : Nat) (hd : 3 ≤ d) (cut : Bs) (h2 : 2 ≤ cut.length) (h3 : cut.length < 9223372036854775807) (ha : ∀ x ∈ cut, x.toNat < 128) (s : Bs) (hs : s.length < 9223372036854775807) (H : Heap) (hw : WF H) (τ : Tape) :
    ∃ H', Gr H.size H H' ∧ ∀ q, C N d f_strings_Trim [.str s, .str cut] H τ q = q (.str (trimB cut.contains s)) H' τ := by
  obtain ⟨H', g, k⟩ := d_strings_Trim hN d hd cut h2 h3 ha s hs H hw τ retK
  exact ⟨H', g, fun q => (C_nat N d).mk k q⟩
theorem d_headers_Value (d : Nat) (hd : 6 ≤ d) (s : Bs) (hs : s.length < 9223372036854775807) (H : Heap) (hw : WF H) (τ : Tape) : ∃ H', Gr H.size H H' ∧ ∀ q, C N d f_headers_Value [.str s] H τ q = q (valV s) H' τ := by
  obtain ⟨d, rfl⟩ : ∃ e, d = e + 1 := ⟨d - 1, by omega⟩
  obtain ⟨H1, g1, k1⟩ := d35' hN d (by omega) [9, 10, 13, 32] (by decide) (by decide) (by decide) s hs H hw τ
  obtain ⟨H2, g2, k2⟩ := d_strings_ContainsAny hN d (by omega) [0, 10, 13] (valT s) (by decide) (by decide) (by decide) (by have := trimB_length ([9, 10, 13, 32] : Bs).contains s; unfold valT; omega) H1 g1.wf τ
  exact ⟨H2, g1.trans g2 g1.size, fun q => s_headers_Value_ret (C N d) N s H H1 H2 τ τ τ k1 k2 q⟩
theorem d_infra_Token (d : Nat) (hd : 3 ≤ d) (s : Bs) (hs : s.length < 9223372036854775807) (H : Heap) (τ : Tape) (q : KV) : C N d f_infra_Token [.str s] H τ q = q (.bool (tokT s)) H τ := by
  obtain ⟨d, rfl⟩ : ∃ e, d = e + 1 := ⟨d - 1, by omega⟩
  exact s_infra_Token_ret (C N d) N (Nat.le_of_lt hN) (d_strings_IndexByte hN d (by omega)) s hs H τ q
theorem d_headers_may (d : Nat) (hd : 7 ≤ d) (n v : Bs) (hn : n.length < 9223372036854775807) (hv : v.length < 9223372036854775807) (H : Heap) (hw : WF H) (τ : Tape) : ∃ H1 τ1, Gr H.size H H1 ∧ ∀ q, C N d f_headers_may [.str n, .str v] H τ q = q (mayV n v) H1 τ1 := by
  obtain ⟨d, rfl⟩ : ∃ e, d = e + 1 := ⟨d - 1, by omega⟩
  obtain ⟨H1, g1, k1⟩ := d_headers_Value hN d (by omega) v hv H hw τ
  exact ⟨H1, τ, g1, fun q => s_headers_may_ret (C N d) N n v H H1 τ τ k1 (fun q => d_infra_Token hN d (by omega) n hn H1 τ q) q⟩
theorem d_slices_Clone_Header (d : Nat) (hd : 1 ≤ d) (hs : List Hd) (hl : hs.length ≤ 1000000) (v : V) (H : Heap) (hw : WF H) (hr : Rd H 2 v hs.length (hcells hs)) (hsr : Src H v) (τ : Tape) :
    ∃ v' H' τ', Apd H' H.size 2 v' hs.length (hcells hs) ∧ (v' = .nils ↔ v = .nils) ∧ Gr H.size H H' ∧ ∀ q, C N d f_slices_Clone_Header [v] H τ q = q v' H' τ' := by
  obtain ⟨d, rfl⟩ : ∃ e, d = e + 1 := ⟨d - 1, by omega⟩
  exact s_slices_Clone_Header_ret (C N d) N hs hl v H hw hr hsr τ
theorem d_headers_Add (d : Nat) (hd : 8 ≤ d) (hs : List Hd) (hl : hs.length ≤ 1000000) (n v : Bs) (hn : n.length < 9223372036854775807) (hv : v.length < 9223372036854775807) (lv : V) (H : Heap) (hw : WF H) (hr : Rd H 2 lv hs.length (hcells hs)) (hsr : Src H lv) (τ : Tape) :
    ∃ r H' τ', Gr H.size H H' ∧ (addE n v hs.length = 0 → Apd H' H.size 2 r (hs.length + 1) (hcells (hs ++ [(n, valT v)]))) ∧ (addE n v hs.length ≠ 0 → r = .nils) ∧ ∀ q, C N d f_headers_Add [lv, .str n, .str v] H τ q = q (.tup [r, .int .i64 (addE n v hs.length)]) H' τ' := by
  obtain ⟨d, rfl⟩ : ∃ e, d = e + 1 := ⟨d - 1, by omega⟩
  exact s_headers_Add_ret (C N d) N hs hl n v lv H hw hr hsr τ (d_headers_may hN d (by omega) n v hn hv H hw τ) (fun H hw hr hsr τ => d_slices_Clone_Header hN d (by omega) hs hl lv H hw hr hsr τ)
theorem d45' (d : Nat) (hd : 4 ≤ d) (name : Bs) (hm : name.length ≤ 140737488355328) : Is45 (C N d) name := by
  intro h hh H hw τ
  obtain ⟨H', τ', g, k⟩ := d_headers_is hN d hd name hm h.1 h.2 hh H hw τ retK
  exact ⟨H', τ', g, fun q => (C_nat N d).mk k q⟩
theorem d_headers_Drop_1 (d : Nat) (hd : 5 ≤ d) (b : Nat) (name : Bs) (hm : name.length ≤ 140737488355328) : IsF (C N d) f_headers_Drop_1 b name ∧ IsF (C N d) f_headers_Set_1 b name := by
  obtain ⟨d, rfl⟩ : ∃ e, d = e + 1 := ⟨d - 1, by omega⟩
  refine ⟨fun h hh H hw hb τ => ?_, fun h hh H hw hb τ => ?_⟩
  · obtain ⟨H', τ', g, k, _⟩ := s_headers_Drop_1_ret (C N d) N b name (d45' hN d (by omega) name hm) h hh H hw hb τ
    exact ⟨H', τ', g, k⟩
  · obtain ⟨H', τ', g, _, k⟩ := s_headers_Drop_1_ret (C N d) N b name (d45' hN d (by omega) name hm) h hh H hw hb τ
    exact ⟨H', τ', g, k⟩
theorem d_slices_IndexFunc_Header (d : Nat) (hd : 6 ≤ d) (g b : Nat) (hg : g = f_headers_Drop_1 ∨ g = f_headers_Set_1) (name : Bs) (hm : name.length ≤ 140737488355328) (hs : List Hd) (hl : hs.length ≤ 1000000) (hsz : ∀ h ∈ hs, h.1.length ≤ 140737488355328) (lv : V) (H : Heap) (hw : WF H)
    (hr : Rd H 2 lv hs.length (hcells hs)) (hb : H.cells? b = some [.str name]) (τ : Tape) : ∃ H' τ', Gr H.size H H' ∧ ∀ q, C N d f_slices_IndexFunc_Header [lv, .func g [] [.ptr b 0]] H τ q = q (.int .i64 (findI name hs 0)) H' τ' := by
  obtain ⟨d, rfl⟩ : ∃ e, d = e + 1 := ⟨d - 1, by omega⟩
  refine s_slices_IndexFunc_Header_ret (C N d) N (Nat.le_of_lt hN) g b name ?_ hs hl hsz lv H hw hr hb τ
  rcases hg with rfl | rfl
  · exact (d_headers_Drop_1 hN d (by omega) b name hm).1
  · exact (d_headers_Drop_1 hN d (by omega) b name hm).2
theorem d_headers_Drop (d : Nat) (hd : 8 ≤ d) (name : Bs) (hm : name.length ≤ 140737488355328) (hs : List Hd) (hl : hs.length ≤ 1000000) (hsz : ∀ h ∈ hs, h.1.length ≤ 140737488355328) (lv : V) (H : Heap) (hw : WF H) (hr : Rd H 2 lv hs.length (hcells hs)) (hsr : Src H lv) (τ : Tape) :
    ∃ w H' τ', Got H' H.size 2 w (dropT name hs).length (hcells (dropT name hs)) ∧ (w = .nils ↔ lv = .nils) ∧ Gr H.size H H' ∧ ∀ q, C N d f_headers_Drop [lv, .str name] H τ q = q w H' τ' := by
  obtain ⟨d, rfl⟩ : ∃ e, d = e + 1 + 1 := ⟨d - 2, by omega⟩
  refine s_headers_Drop_ret (C N (d + 1)) N name hs lv H hw hr hsr τ (fun H hw hr hsr τ => d_slices_Clone_Header hN (d + 1) (by omega) hs hl lv H hw hr hsr τ) (fun b v H B hw hB hb ha hbx τ => ?_)
  exact s_slices_DeleteFunc_Header_ret (C N d) N (Nat.le_of_lt hN) f_headers_Drop_1 b name (d_headers_Drop_1 hN d (by omega) b name hm).1 hs hl hsz v H hw B hB hb ha hbx τ (d_slices_IndexFunc_Header hN d (by omega) f_headers_Drop_1 b (.inl rfl) name hm hs hl hsz v H hw ha.rd hbx.cells τ)
theorem d_headers_Set (d : Nat) (hd : 9 ≤ d) (hs : List Hd) (hl : hs.length < 1000000) (hsz : ∀ h ∈ hs, h.1.length ≤ 140737488355328) (n v : Bs) (hn : n.length ≤ 140737488355328) (hv : v.length < 9223372036854775807) (lv : V) (H : Heap) (hw : WF H) (hr : Rd H 2 lv hs.length (hcells hs)) (hsr : Src H lv) (τ : Tape) :
    ∃ r H' τ', Gr H.size H H' ∧ (setE n v hs = 0 → Apd H' H.size 2 r (setT n v hs).length (hcells (setT n v hs))) ∧ (setE n v hs ≠ 0 → r = .nils) ∧ ∀ q, C N d f_headers_Set [lv, .str n, .str v] H τ q = q (.tup [r, .int .i64 (setE n v hs)]) H' τ' := by
  obtain ⟨d, rfl⟩ : ∃ e, d = e + 1 := ⟨d - 1, by omega⟩
  exact s_headers_Set_ret (C N d) N (Nat.le_of_lt hN) hs hl hsz n v lv H hw hr hsr τ (d45' hN d (by omega) n hn) (fun b H hw hr hb τ => d_slices_IndexFunc_Header hN d (by omega) f_headers_Set_1 b (.inr rfl) n hn hs (by omega) hsz lv H hw hr hb τ)
    (fun H hw τ => d_headers_may hN d (by omega) n v (by omega) hv H hw τ) (fun H hw hr hsr τ => d_headers_Add hN d (by omega) hs (by omega) n v (by omega) hv lv H hw hr hsr τ)
end
end Go.Am.X

namespace Go.Am.X
set_option linter.unusedSimpArgs false
set_option linter.unusedVariables false
set_option linter.unusedSectionVars false
set_option maxRecDepth 100000
abbrev NB : Nat := 9223372036854775808
theorem nb : 9223372036854775807 < NB := by decide
theorem tab_all (f : Nat) (d : Def) (h : tabF.get f = some d) (base : Base) (w0 : World) : DefOk PG base w0 f d := defs_ok (all_ok base w0) f d h
theorem primOk_E (d f : Nat) {R : List V → Heap → Out → Prop}
    (hR : ∀ vs H o, WF H → VsOk H vs → R vs H o → ∀ τ, ∃ v H' τ', C NB d f vs H τ retK = some (v, H', τ') ∧ Gr H.size H H' ∧ o.Met H v H') : ∀ base w0, PrimOk PG base w0 f (outP R) :=
  primOk_tab mixed_ok (tab_ok NB) tab_all d f hR
def strP (M : Nat) : List V → Prop | [.str s] => s.length ≤ M | _ => False
def strG (g : Bs → V) : List V → V | [.str s] => g s | _ => .tup []
abbrev RS (M : Nat) (g : Bs → V) := RV (strP M) (strG g)
theorem primS (d f M : Nat) (g : Bs → V) (hv : ∀ s H, VOk H (g s)) (h : ∀ s : Bs, s.length ≤ M → ∀ H, WF H → ∀ τ, ∃ H' τ', Gr H.size H H' ∧ ∀ q, C NB d f [.str s] H τ q = q (g s) H' τ') : ∀ base w0, PrimOk PG base w0 f (outP (RS M g)) := by
  refine primOk_E d f ?_
  rintro vs H o hw hvs ⟨hp, rfl⟩ τ
  unfold strP at hp
  split at hp
  · rename_i s
    obtain ⟨H', τ', g1, k1⟩ := h s hp H hw τ
    exact ⟨_, H', τ', k1 retK, g1, rfl, hv s H⟩
  · exact hp.elim
theorem callS {c : CallK} {f M : Nat} {g : Bs → V} (hc : ∀ vs H τ q, c f vs H τ q = effK (outP (RS M g) vs H τ) q) (s : Bs) (hs : s.length ≤ M) (H : Heap) (τ : Tape) (q : KV) : c f [.str s] H τ q = q (g s) H τ := RV_call hc (vs := [.str s]) hs H τ q
abbrev LowR := RS 140737488355328 fun s => .str (lower s)
theorem p_infra_Lower : ∀ base w0, PrimOk PG base w0 f_infra_Lower (outP LowR) := primS 3 _ _ _ (fun _ _ => trivial) fun s hs H hw τ => by
  obtain ⟨H', τ', g, k⟩ := d_infra_Lower nb 3 (by omega) s hs H hw τ retK
  exact ⟨H', τ', g, fun q => (C_nat NB 3).mk k q⟩
end Go.Am.X

