/- The abstract machine, printed functions of the program, and what they are shown to be. -/
import Derived.Deep.SlicePairs
import Derived.ChangeSlices
import Derived.SizedLaws
import Derived.Test.YtaikmfhjbcffiaaGreatDoorHKL0
import Derived.Test.YtaikmfhjbcffiaaGreatDoorHKM3
namespace Go.Am.X
open Go Go.ChangeShapes Go.WideShapes Go.RowKit
set_option linter.unusedSimpArgs false
set_option linter.unusedVariables false
theorem cell_invH {w : World} {b o : Nat} {v : Value} (h : w.cell? ⟨b, o, none⟩ = some v) : ∃ c el fz, w.heap[b]? = some (.cells c el fz) ∧ c[o]? = some v := by
  unfold World.cell? at h
  split at h
  · rename_i c el fz hh
    exact ⟨c, el, fz, hh, by simpa using h⟩
  · cases h
theorem shape_invH {w : World} {b : Nat} {x : TypeId × Nat} (h : w.shape? b = some x) : ∃ c el fz, w.heap[b]? = some (.cells c el fz) := by
  unfold World.shape? at h
  split at h
  · rename_i c el fz hh
    exact ⟨c, el, fz, hh⟩
  · cases h
theorem weightsAll_mem {X : Type} (P : Program) (e : TypeId) : ∀ (l : List (DataW X)) (d : DataW X), d ∈ l → ∀ x ∈ d.weights P e, x ∈ DataW.weightsAll P e l := by
  intro l
  induction l with
  | nil => intro d h; simp at h
  | cons a l ih =>
    intro d h x hx
    simp only [DataW.weightsAll, List.mem_append]
    rcases List.mem_cons.1 h with rfl | h
    · exact .inl hx
    · exact .inr (ih d h x hx)
theorem weightsEach_le {X : Type} {P : Program} {ts : List TypeId} {ds : List (DataW X)} (h : (DataW.weightsEach P ts ds).all (· ≤ reachBytes) = true) {j : Nat} {t : TypeId} {d : DataW X} (ht : ts[j]? = some t) (hd : ds[j]? = some d) : ∀ x ∈ d.weights P t, x ≤ reachBytes := by
  intro x hx
  have := List.all_eq_true.1 h _ (DataW.weights_mem_each ht hd x hx)
  simpa using this
theorem open_headersZ {P : Program} {W : World} {X : Type} {enc : TypeId × Value → X} {t e : TypeId} {f0 f1 : Field} (ht : P.underlying t = some (.slice e)) (he : P.underlying e = some (.struct #[f0, f1]))
    (ce : P.cellsOf e = 2) (o0 : f0.offset = 0) (o1 : f1.offset = 1) (c0 : P.cellsOf f0.type = 1) (c1 : P.cellsOf f1.type = 1) (s0 : P.underlying f0.type = some .string) (s1 : P.underlying f1.type = some .string)
    {v : Value} {d : DataW X} {p : List MemPlace} {base : Nat} (hval : Value.okWide P W .any base t v) (hd : DataW.Trod enc P W 0 (fun _ => true) true t v d p) (hwt : ∀ x ∈ d.weights P t, x ≤ reachBytes) (n : Nat) :
    ∃ (hs : List (Bs × Bs)) (u : V) (ent : Option (List V)) (addr : Nat × Nat), hs.length ≤ 9223372036854775807 ∧ (∀ h ∈ hs, h.1.length ≤ 140737488351232 ∧ h.2.length ≤ 140737488351232) ∧ (∀ ι : Inj, ι n = addr → cv ι u = v) ∧
      (∀ cs, ent = some cs → cs = hcells hs ∧ ∀ (ι : Inj) base, ι n = addr → BOk ι base W n cs cs.length false) ∧ (∀ H : Heap, n < H.size → VOk H u) ∧
      (∀ H : Heap, (∀ cs, ent = some cs → H.cells? n = some cs) → Rd H 2 u hs.length (hcells hs) ∧ Src H u) := by
  obtain ⟨fuel, hf⟩ := hd
  have hv1 : Cell.ok P W .any base t v := by
    unfold Value.okWide at hval
    rw [ht] at hval
    unfold Cell.okWide at hval
    rw [ht] at hval
    exact hval
  have hcl : v.cells.toList = [v] := by
    cases v <;> first | rfl | (unfold Cell.ok at hv1; rw [ht] at hv1; exact hv1.elim)
  rw [hcl] at hf
  rcases Deep.open_slice_pairs ht he ce o0 o1 c0 c1 hf with ⟨hcs, _⟩ | ⟨a, len, cap, m, k, V0, V1, D0, D1, P0, P1, hcs, _, hlc, hcm, hm, hxd, hall⟩
  · have : v = .slice none 0 0 := by simpa using hcs
    subst this
    exact ⟨[], .nils, none, (0, 0), by simp, (fun h hh => by simp at hh), fun _ _ => rfl, (fun cs h => by cases h), fun _ _ => trivial, fun _ _ => ⟨.inl ⟨.inl rfl, rfl, rfl⟩, trivial⟩⟩
  · have : v = .slice (some a) len cap := by simpa using hcs
    subst this
    have hhas := hv1
    unfold Cell.ok at hhas
    rw [ht] at hhas
    have hspot : a.spot = none := hhas.2.2.2.1
    obtain ⟨row, cells, hsh, _⟩ := hhas.2.2.2.2
    obtain ⟨ab, ao, asp⟩ := a
    simp only at hspot hsh
    subst hspot
    obtain ⟨c0', el0, fz0, hb0⟩ := shape_invH hsh
    have hmc : m = cap := by simpa using hm
    subst hmc
    have hstr : ∀ i, i < m → ∃ x y : Bs, W.cell? ⟨ab, ao + i * 2, none⟩ = some (.string ⟨x.toArray⟩) ∧ W.cell? ⟨ab, ao + (i * 2 + 1), none⟩ = some (.string ⟨y.toArray⟩) ∧ D0 i = .lit (.string x) ∧ D1 i = .lit (.string y) := by
      intro i hi
      obtain ⟨h1, h2, h3, h4⟩ := hall i hi
      obtain ⟨x, hx, hx3, _⟩ := DataW.trod_string s0 h3
      obtain ⟨y, hy, hy3, _⟩ := DataW.trod_string s1 h4
      have hx' : V0 i = .string x := by simpa using hx
      have hy' : V1 i = .string y := by simpa using hy
      refine ⟨x.data.toList, y.data.toList, ?_, ?_, congrArg Prod.fst hx3, congrArg Prod.fst hy3⟩
      · rw [← add_addr, h1, hx']
      · rw [← add_addr, h2, hy']
    obtain ⟨X0, hX⟩ : ∃ X0 : Nat → Bs × Bs, ∀ i, i < m → W.cell? ⟨ab, ao + i * 2, none⟩ = some (.string ⟨(X0 i).1.toArray⟩) ∧ W.cell? ⟨ab, ao + (i * 2 + 1), none⟩ = some (.string ⟨(X0 i).2.toArray⟩) ∧ D0 i = .lit (.string (X0 i).1) ∧ D1 i = .lit (.string (X0 i).2) := by
      refine ⟨fun i => if h : i < m then ((hstr i h).choose, (hstr i h).choose_spec.choose) else ([], []), fun i hi => ?_⟩
      simp only [dif_pos hi]
      exact (hstr i hi).choose_spec.choose_spec
    by_cases h0 : len = 0
    · subst h0
      refine ⟨[], .sl n ao 0 m none 2, some [], (ab, 0), by simp, (fun h hh => by simp at hh), fun ι hι => ?_, (fun cs h => ?_), fun H hn => ⟨hn, by simp, (fun h => by cases h)⟩, fun H hH => ⟨.inl ⟨.inr ⟨_, _, _, _, rfl⟩, rfl, rfl⟩, ⟨[], hH _ rfl⟩⟩⟩
      · simp [cv, hι]
      · cases h
        exact ⟨rfl, fun ι base hι => ⟨c0', el0, fz0.1, fz0.2, by rw [hι]; exact hb0, by rw [hι]; simp, fun j u hu => by simp at hu, fun h => by cases h⟩⟩
    · have hlen : ((List.range len).map X0).length = len := by simp
      refine ⟨(List.range len).map X0, .sl n 0 len m none 2, some (hcells ((List.range len).map X0)), (ab, ao), ?_, ?_, fun ι hι => ?_, fun cs h => ?_, fun H hn => ⟨hn, by simpa using hlc, (fun h => by cases h)⟩, fun H hH => ?_⟩
      · rw [hlen]
        unfold maxLen at hcm
        omega
      · intro h hh
        obtain ⟨i, hi, rfl⟩ := List.mem_map.1 hh
        have hi := List.mem_range.1 hi
        obtain ⟨_, _, z1, z2⟩ := hX i (by omega)
        have hdd : d = .slice ((List.range len).map fun i => .agg [D0 i, D1 i]) ((List.range (m - len)).map fun j => .agg [D0 (len + j), D1 (len + j)]) := congrArg Prod.fst hxd
        have hmem : (DataW.agg [D0 i, D1 i] : DataW X) ∈ (List.range len).map fun i => DataW.agg [D0 i, D1 i] := List.mem_map.2 ⟨i, List.mem_range.2 hi, rfl⟩
        have hall2 := weightsAll_mem P e _ _ hmem
        have key : ∀ x, x ∈ (DataW.agg [D0 i, D1 i] : DataW X).weights P e → x ≤ reachBytes := by
          intro x hx
          refine hwt x ?_
          rw [hdd]
          simp only [DataW.weights, ht, List.mem_cons, List.mem_append]
          exact .inr (.inl (hall2 x hx))
        have kw : (DataW.agg [D0 i, D1 i] : DataW X).weights P e = [(X0 i).1.length, (X0 i).2.length] := by
          simp [DataW.weights, he, DataW.weightsEach, z1, z2]
        rw [kw] at key
        have a1 := key _ (by simp : (X0 i).1.length ∈ _)
        have a2 := key _ (by simp : (X0 i).2.length ∈ _)
        unfold reachBytes at a1 a2
        exact ⟨a1, a2⟩
      · simp [cv, hι]
      · cases h
        refine ⟨rfl, fun ι base hι => ?_⟩
        obtain ⟨c, el, fz, hb, _⟩ := cell_invH (hX 0 (by omega)).1
        have hget : ∀ j (u : V), (hcells ((List.range len).map X0))[j]? = some u → c[ao + j]? = some (cv ι u) := by
          intro j u hu
          have hj : j < len * 2 := by
            have := (List.getElem?_eq_some_iff.1 hu).1
            rw [hcells_length, hlen] at this
            exact this
          have key : ∀ (l : List (Bs × Bs)) (i : Nat) (h : Bs × Bs), l[i]? = some h → (hcells l)[i * 2]? = some (.str h.1) ∧ (hcells l)[i * 2 + 1]? = some (.str h.2) := by
            intro l
            induction l with
            | nil => intro i h hi; simp at hi
            | cons x l ih =>
              intro i h hi
              cases i with
              | zero => simp at hi; subst hi; exact ⟨rfl, rfl⟩
              | succ i =>
                have := ih i h (by simpa using hi)
                rw [hcells_cons, show (i + 1) * 2 = i * 2 + 1 + 1 by omega]
                exact ⟨by simpa using this.1, by simpa using this.2⟩
          have hi : j / 2 < len := by omega
          have hx : ((List.range len).map X0)[j / 2]? = some (X0 (j / 2)) := by
            rw [List.getElem?_map, List.getElem?_range hi]; rfl
          obtain ⟨k1, k2⟩ := key _ _ _ hx
          obtain ⟨w1, w2, _, _⟩ := hX (j / 2) (by omega)
          obtain ⟨c', el', fz', hb', hc'⟩ := cell_invH w1
          obtain ⟨c'', el'', fz'', hb'', hc''⟩ := cell_invH w2
          rw [hb] at hb' hb''
          cases hb'
          cases hb''
          generalize hi' : j / 2 = i at *
          rcases Nat.mod_two_eq_zero_or_one j with hj2 | hj2
          · obtain rfl : j = i * 2 := by omega
            rw [k1] at hu
            cases hu
            exact hc'
          · obtain rfl : j = i * 2 + 1 := by omega
            rw [k2] at hu
            cases hu
            exact hc''
        refine ⟨c, el, fz.1, fz.2, by rw [hι]; exact hb, ?_, fun j u hu => by rw [hι]; exact hget j u hu, (fun h => by cases h)⟩
        rw [hι, hcells_length, hlen]
        obtain ⟨c'', el'', fz'', hb'', hc''⟩ := cell_invH (hX (len - 1) (by omega)).2.1
        rw [hb] at hb''
        cases hb''
        have := (Array.getElem?_eq_some_iff.1 hc'').1
        simp only
        omega
      · refine ⟨.inr ⟨n, 0, m, none, hcells ((List.range len).map X0), by rw [hlen], hH _ rfl, ?_, by rw [hcells_length]⟩, ⟨_, hH _ rfl⟩⟩
        rw [List.drop_zero, List.take_of_length_le (by rw [hcells_length]; exact Nat.le_refl _)]
end Go.Am.X

namespace Go.Am.X
set_option linter.unusedSimpArgs false
end Go.Am.X

namespace Go.Am.X
set_option linter.unusedSimpArgs false
set_option linter.unusedVariables false
theorem s_law5_h_ret (c : CallK) (N : Nat) (a b : Bs) (H : Heap) (hw : WF H) (τ : Tape) : ∃ H', Gr H.size H H' ∧ ∀ q, s_law5_h c N (.str a) (.str b) H τ q = q (.agg [.str a, .str b]) H' τ := by
  have a1 : eAlloc [(.str []), (.str [])] [] H τ = some (.ptr H.size 0, H.new [.str [], .str []] 2 true, τ) := rfl
  have g1 := Gr.new hw [.str [], .str []] 2 true
  have b1 := Bx.new H [.str [], .str []] 2 true (Nat.le_refl _)
  generalize H.new [.str [], .str []] 2 true = H1 at a1 g1 b1
  obtain ⟨H2, s2, b2, o2⟩ := b1.eStore g1.wf 0 (.agg [.str a, .str b]) 2 rfl (by simp) (by omega) rfl τ
  have b2' : Bx H2 H.size [.str a, .str b] := b2
  have p3 : pBuild [(.str []), (.str [])] [(0, 1), (1, 1)] [.str a, .str b] = some (.agg [.str a, .str b]) := rfl
  have hres : results ⟨(T.set .leaf 4 (.ptr H.size 0)), H2⟩ [(.cell 4 (some 2))] = some (.agg [.str a, .str b]) := by
    have hl : H2.loads H.size 0 2 = some [.str a, .str b] := loads_cells (off := 0) (n := 2) b2'.cells (by simp)
    simp [results, resAll, resOf, T.get_set, evalL, lLoad, lLoadN, hl]
  exact ⟨H2, g1.trans (o2.gr (B := H.size) (Nat.le_refl _)) (Nat.le_refl _), fun q => by simp only [s_law5_h, a1, effK_n, p3, someK_n, s2, hres]⟩
theorem l_book_Same_stringw (c : CallK) (N : Nat) (a b : V) (la : List Bs) (hlen : la.length < 1000000) (H : Heap) (ha : Rd H 1 a la.length (la.map V.str)) (hb : Rd H 1 b la.length (la.map V.str)) :
    ∀ (l pre : List Bs) (fr : T V) (τ : Tape) (m : Nat), la = pre ++ l → l.length < m → fr.get 0 = some a → fr.get 1 = some b → fr.get 5 = some (.int .i64 (pre.length : Int)) →
    ∀ k, loopK (s_book_Same_string_l1 c N) m ⟨fr, H⟩ τ k = k (.exit 0) ⟨.leaf, H⟩ τ := by
  intro l
  induction l with
  | nil =>
    intro pre fr τ m he hm f0 f1 f5 k
    obtain ⟨m, rfl⟩ : ∃ j, m = j + 1 := ⟨m - 1, by omega⟩
    have e1 : decide ((pre.length : Int) < (la.length : Int)) = false := decide_eq_false (by rw [he]; simp)
    rw [loopK_succ]
    simp only [s_book_Same_string_l1, getK_mk f0, getK_mk f1, getK_mk f5, ha.pLen, someK_n, bin_lss, e1, condK_fn]
    rfl
  | cons x l ih =>
    intro pre fr τ m he hm f0 f1 f5 k
    obtain ⟨m, rfl⟩ : ∃ j, m = j + 1 := ⟨m - 1, by omega⟩
    have e1 : decide ((pre.length : Int) < (la.length : Int)) = true := decide_eq_true (by rw [he]; simp; omega)
    obtain ⟨p, p1, p2⟩ := ha.elem1 (i := pre.length) (x := .str x) (by rw [he]; simp)
    obtain ⟨p', p3, p4⟩ := hb.elem1 (i := pre.length) (x := .str x) (by rw [he]; simp)
    have hl : pre.length < la.length := by rw [he]; simp
    have en : strBin .neq x x = some (.bool false) := by rw [str_neq]; simp
    have e3 : wr .i64 ((pre.length : Int) + Int.ofNat 1) = ((pre ++ [x]).length : Int) := by
      rw [wr_id (by simp; omega) (by simp; omega)]; simp
    rw [loopK_succ]
    simp only [s_book_Same_string_l1, getK_mk f0, getK_mk f1, getK_mk f5, ha.pLen, someK_n, bin_lss, e1, condK_tn, p1, p2, p3, p4, bin_str, en, condK_fn, bin_add .i64, e3]
    exact ih (pre ++ [x]) _ τ m (by rw [he]; simp) (by simp at hm; omega) (by simp [T.get_set]) (by simp [T.get_set]) (by simp [T.get_set]) k
theorem s_book_Same_string_ret (c : CallK) (N : Nat) (hN : 9223372036854775807 < N) (a b : V) (la : List Bs) (hlen : la.length < 1000000) (H : Heap) (ha : Rd H 1 a la.length (la.map V.str)) (hb : Rd H 1 b la.length (la.map V.str)) (τ : Tape) (q : KV) :
    s_book_Same_string c N a b H τ q = q (.bool true) H τ := by
  have e2 : ((la.length : Int) != (la.length : Int)) = false := by simp
  simp only [s_book_Same_string, ha.pLen, hb.pLen, someK_n, bin_neq, e2, condK_fn]
  rw [l_book_Same_stringw c N a b la hlen H ha hb la [] _ τ N rfl (by omega) (by simp [T.get_set]) (by simp [T.get_set]) (by simp [T.get_set])]
  simp only [blockK, Nat.beq_refl, cond_true, seqK, s_book_Same_string_j0]
end Go.Am.X

namespace Go.Am.X
set_option linter.unusedSimpArgs false
set_option linter.unusedVariables false
set_option linter.unusedSectionVars false
def SplitOk (c : CallK) (name : Bs) (hs : List (Bs × Bs)) : Prop := ∀ (v : V) (H : Heap), WF H → Rd H 2 v hs.length (hcells hs) → ∀ τ,
    ∃ v' H' τ', Own H' H.size 1 v' (splitT name hs).length ((splitT name hs).map V.str) ∧ (splitT name hs).length ≤ 4294967296 ∧ Gr H.size H H' ∧ ∀ q, c f_headers_Split [v, .str name] H τ q = q (.tup [v', .bool (decide (0 < (sel name hs).length))]) H' τ'
abbrev GetOk' (c : CallK) (name : Bs) (hs : List (Bs × Bs)) : Prop := ∀ (v : V) (H : Heap), WF H → Rd H 2 v hs.length (hcells hs) → ∀ τ,
    ∃ H' τ', Gr H.size H H' ∧ ∀ q, c f_headers_Get [v, .str name] H τ q = q (.tup [.str (getT name hs), .bool (decide (0 < (sel name hs).length))]) H' τ'
abbrev C (N d : Nat) : CallK := callK (tabOf tabE N) d
theorem C_nat (N d : Nat) : CallNat (C N d) := tab_nat N d
section
variable {N : Nat} (hN : 9223372036854775807 < N)
include hN
theorem d_asciiSet_contains (d : Nat) (cut : Bs) {id : Nat} {H : Heap} (hc : H.cells? id = some (mark (repl 256 [.bool false]) cut)) (x : UInt8) (τ : Tape) (q : KV) : C N (d + 1) f_asciiSet_contains [.ptr id 0, .int .u8 (x.toNat : Int)] H τ q = q (.bool (cut.contains x)) H τ := by
  have hr : (repl 256 [V.bool false]).length = 256 := by rw [repl_length]; rfl
  have hg : ∀ i, i < 256 → (repl 256 [V.bool false])[i]? = some (.bool false) := fun i hi => by
    rw [repl_one, List.getElem?_replicate, if_pos hi]
  have := mark_get cut (repl 256 [V.bool false]) x hr (fun i hi => ⟨false, hg i hi⟩) false (hg _ (u8_lt x))
  exact s81_eval (C N d) N hc (by simpa using this) τ q
theorem d_strings_trimLeftASCII (d : Nat) (hd : 2 ≤ d) (cut s : Bs) (id : Nat) (H : Heap) (hs : s.length < 9223372036854775807) (hc : H.cells? id = some (mark (repl 256 [.bool false]) cut)) (τ : Tape) (q : KV) : C N d f_strings_trimLeftASCII [.str s, .ptr id 0] H τ q = q (.str (s.dropWhile cut.contains)) H τ := by
  obtain ⟨d, rfl⟩ : ∃ e, d = e + 1 + 1 := ⟨d - 2, by omega⟩
  show s_strings_trimLeftASCII (C N (d + 1)) N (.str s) (.ptr id 0) H τ q = _
  simp only [s_strings_trimLeftASCII]
  rw [trimL_loop (C N (d + 1)) N cut.contains (fun x τ q => d_asciiSet_contains hN d cut hc x τ q) _ s N _ τ (by omega) (by simp [T.get_set]) (by simp [T.get_set])]
  simp only [blockK, Nat.beq_refl, cond_true, seqK, s_strings_trimLeftASCII_j0, getK_set, ↓reduceIte]
theorem d_strings_trimRightASCII (d : Nat) (hd : 2 ≤ d) (cut s : Bs) (id : Nat) (H : Heap) (hs : s.length < 9223372036854775807) (hc : H.cells? id = some (mark (repl 256 [.bool false]) cut)) (τ : Tape) (q : KV) : C N d f_strings_trimRightASCII [.str s, .ptr id 0] H τ q = q (.str (s.reverse.dropWhile cut.contains).reverse) H τ := by
  obtain ⟨d, rfl⟩ : ∃ e, d = e + 1 + 1 := ⟨d - 2, by omega⟩
  show s_strings_trimRightASCII (C N (d + 1)) N (.str s) (.ptr id 0) H τ q = _
  simp only [s_strings_trimRightASCII]
  rw [trimR_loop (C N (d + 1)) N cut.contains (fun x τ q => d_asciiSet_contains hN d cut hc x τ q) _ s.reverse N _ τ (by simpa using hs) (by simp; omega) (by simp [T.get_set]) (by simp [T.get_set])]
  simp only [blockK, Nat.beq_refl, cond_true, seqK, s_strings_trimRightASCII_j0, getK_set, ↓reduceIte]
theorem d_strings_Trim (d : Nat) (hd : 3 ≤ d) (cut : Bs) (h2 : 2 ≤ cut.length) (h3 : cut.length < 9223372036854775807) (ha : ∀ x ∈ cut, x.toNat < 128) : TrimOk (C N d) cut := by
  intro s hs H hw τ q
  obtain ⟨d, rfl⟩ : ∃ e, d = e + 1 := ⟨d - 1, by omega⟩
  refine s_strings_Trim_ret (C N d) N (Nat.le_of_lt hN) cut s h2 h3 hs H hw (fun H hw τ q => ?_) (fun s id H hs hc τ q => d_strings_trimLeftASCII hN d (by omega) cut s id H hs hc τ q) (fun s id H hs hc τ q => d_strings_trimRightASCII hN d (by omega) cut s id H hs hc τ q) τ q
  obtain ⟨d, rfl⟩ : ∃ e, d = e + 1 := ⟨d - 1, by omega⟩
  exact s_strings_makeASCIISet_ret (C N d) N (Nat.le_of_lt hN) cut ha h3 H hw τ q
theorem d_strings_Trima (d : Nat) (hd : 3 ≤ d) : TrimOk (C N d) [9, 32] := d_strings_Trim hN d hd _ (by decide) (by decide) (by decide)
theorem d_infra_Lower (d : Nat) (hd : 3 ≤ d) : LowOk (C N d) := by
  intro s hs H hw τ q
  obtain ⟨d, rfl⟩ : ∃ e, d = e + 1 + 1 + 1 := ⟨d - 3, by omega⟩
  obtain ⟨H', τ', k1, k2⟩ := s_infra_mapped_ret (C N (d + 1)) N (Nat.le_of_lt hN) s hs H hw (fun x H τ q => s69_eval (C N d) N x H τ q) τ (fun v0 H1 τ2 => q v0 H1 τ2)
  exact ⟨H', τ', k1, k2⟩
theorem d_headers_is (d : Nat) (hd : 4 ≤ d) (name : Bs) (hm : name.length ≤ 140737488355328) (n v : Bs) (hn : n.length ≤ 140737488355328) (H : Heap) (hw : WF H) (τ : Tape) (q : KV) : ∃ H' τ', Gr H.size H H' ∧ C N d f_headers_is [.agg [.str n, .str v], .str name] H τ q = q (.bool (lower n == lower name)) H' τ' := by
  obtain ⟨d, rfl⟩ : ∃ e, d = e + 1 := ⟨d - 1, by omega⟩
  exact s_headers_is_ret (C N d) N (d_infra_Lower hN d (by omega)) n v name hn hm H hw τ q
end
structure Small (hs : List (Bs × Bs)) : Prop where
  len : hs.length ≤ 1000
  all : ∀ h ∈ hs, h.1.length ≤ 10000 ∧ h.2.length ≤ 10000
section
variable {N : Nat} (hN : 9223372036854775807 < N)
include hN
omit hN in
theorem joinT_length (sep : Bs) (M : Nat) : ∀ (l : List Bs), (∀ x ∈ l, x.length ≤ M) → (joinT sep l).length ≤ l.length * (M + sep.length) := by
  intro l
  induction l with
  | nil => intro _; simp [joinT]
  | cons x l ih =>
    intro h
    have h1 := h x (by simp)
    have h2 := ih (fun y hy => h y (by simp [hy]))
    simp only [joinT, List.length_append, List.length_cons, Nat.succ_mul]
    omega
omit hN in
theorem joinB_length (sep : Bs) (M : Nat) (l : List Bs) (h : ∀ x ∈ l, x.length ≤ M) : (joinB sep l).length ≤ l.length * (M + sep.length) := by
  cases l with
  | nil => simp [joinB]
  | cons x l =>
    have h1 := h x (by simp)
    have h2 := joinT_length sep M l (fun y hy => h y (by simp [hy]))
    simp only [joinB, List.length_append, List.length_cons, Nat.succ_mul]
    omega
omit hN in
theorem getT_small {hs : List (Bs × Bs)} (h : Small hs) (name : Bs) : (getT name hs).length ≤ 10002000 := by
  have h1 : (sel name hs).length ≤ 1000 := by
    have := h.len
    simp only [sel, List.length_map]
    have := List.length_filter_le (fun h : Bs × Bs => lower h.1 == lower name) hs
    omega
  have h2 := joinB_length [44, 32] 10000 (sel name hs) (fun x hx => by
    simp only [sel, List.mem_map, List.mem_filter] at hx
    obtain ⟨y, ⟨hy, _⟩, rfl⟩ := hx
    exact (h.all y hy).2)
  have h3 : (sel name hs).length * (10000 + ([44, 32] : Bs).length) ≤ 1000 * 10002 := Nat.mul_le_mul h1 (by simp)
  unfold getT
  omega
theorem d_headers_Get (d : Nat) (hd : 5 ≤ d) (name : Bs) (hm : name.length ≤ 140737488355328) {hs : List (Bs × Bs)} (h : Small hs) : GetOk (C N d) name hs := by
  intro v H hw hr τ q
  obtain ⟨d, rfl⟩ : ∃ e, d = e + 1 := ⟨d - 1, by omega⟩
  obtain ⟨d, rfl⟩ : ∃ e, d = e + 1 := ⟨d - 1, by omega⟩
  exact s_headers_Get_ret (C N (d + 1)) N (Nat.le_of_lt hN) name hm hs (by have := h.len; omega) (fun x hx => by have := (h.all x hx).1; omega) (by have := getT_small h name; omega) (fun _ _ _ _ => rfl)
    (fun n v hn H hw τ q => d_headers_is hN (d + 1) (by omega) name hm n v hn H hw τ q) v H hw hr τ q
theorem d20' (d : Nat) (hd : 5 ≤ d) (name : Bs) (hm : name.length ≤ 140737488355328) {hs : List (Bs × Bs)} (h : Small hs) : GetOk' (C N d) name hs := by
  intro v H hw hr τ
  obtain ⟨H', τ', k1, k2⟩ := d_headers_Get hN d hd name hm h v H hw hr τ retK
  exact ⟨H', τ', k1, fun q => (C_nat N d).mk k2 q⟩
theorem d_headers_Split (d : Nat) (hd : 6 ≤ d) (name : Bs) (hm : name.length ≤ 140737488355328) {hs : List (Bs × Bs)} (h : Small hs) : SplitOk (C N d) name hs := by
  intro v H hw hr τ
  obtain ⟨d, rfl⟩ : ∃ e, d = e + 1 := ⟨d - 1, by omega⟩
  obtain ⟨v', H', τ', k1, k2, k3, k4⟩ := s_headers_Split_ret (C N d) N (Nat.le_of_lt hN) name hs (by have := getT_small h name; omega) (d_headers_Get hN d (by omega) name hm h) (d_strings_Trima hN d (by omega)) v H hw hr τ retK
  exact ⟨v', H', τ', k1, k2, k3, fun q => (C_nat N (d + 1)).mk (f := f_headers_Split) (vs := [v, .str name]) k4 q⟩
end
end Go.Am.X

namespace Go.Am.X
set_option linter.unusedSimpArgs false
set_option linter.unusedVariables false
set_option linter.unusedSectionVars false
set_option maxRecDepth 100000
theorem s_strings_shouldUseASCIISet_ret (c : CallK) (N : Nat) (n : Int) (H : Heap) (τ : Tape) (q : KV) : s_strings_shouldUseASCIISet c N (.int .i64 n) H τ q = q (.bool (decide (8 < n))) H τ := by
  have e : decide (Int.ofNat 8 < n) = decide (8 < n) := rfl
  simp only [s_strings_shouldUseASCIISet, bin_gtr, e]
theorem s_utf8_ValidRune_ret (c : CallK) (N : Nat) (n : Int) (H : Heap) (τ : Tape) : ∃ b, ∀ q, s_utf8_ValidRune c N (.int .i32 n) H τ q = q (.bool b) H τ := by
  by_cases h1 : Int.ofNat 0 ≤ n
  · by_cases h2 : n < Int.ofNat 55296
    · refine ⟨true, fun q => ?_⟩
      simp only [s_utf8_ValidRune, bin_leq, decide_eq_true h1, gK_do, retK, effK_n, bin_lss, decide_eq_true h2, pick_mk, cond_true, someK_n, condK_tn]
    · by_cases h3 : Int.ofNat 57343 < n
      · by_cases h4 : n ≤ Int.ofNat 1114111
        · refine ⟨true, fun q => ?_⟩
          simp only [s_utf8_ValidRune, bin_leq, decide_eq_true h1, gK_do, retK, effK_n, bin_lss, decide_eq_false h2, pick_mk, cond_true, someK_n, condK_fn, decide_eq_true h3, decide_eq_true h4, condK_tn]
        · refine ⟨false, fun q => ?_⟩
          simp only [s_utf8_ValidRune, bin_leq, decide_eq_true h1, gK_do, retK, effK_n, bin_lss, decide_eq_false h2, pick_mk, cond_true, someK_n, condK_fn, decide_eq_true h3, decide_eq_false h4, condK_tn]
      · refine ⟨false, fun q => ?_⟩
        simp only [s_utf8_ValidRune, bin_leq, decide_eq_true h1, gK_do, retK, effK_n, bin_lss, decide_eq_false h2, pick_mk, cond_true, cond_false, someK_n, condK_fn, decide_eq_false h3, gK_skip, gK_none]
  · by_cases h3 : Int.ofNat 57343 < n
    · exact absurd h3 (by simp at h1 ⊢; omega)
    · refine ⟨false, fun q => ?_⟩
      simp only [s_utf8_ValidRune, bin_leq, decide_eq_false h1, gK_do, retK, effK_n, bin_lss, pick_mk, cond_true, cond_false, someK_n, condK_fn, decide_eq_false h3, gK_skip, gK_none]
theorem idxB_none (x : Nat) : ∀ (l : Bs) (i : Nat), (∀ y ∈ l, y.toNat ≠ x) → idxB x l i = -1 := by
  intro l
  induction l with
  | nil => intro i _; rfl
  | cons y l ih =>
    intro i h
    have e : Nat.beq y.toNat x = false := by
      cases hb : Nat.beq y.toNat x with
      | false => rfl
      | true => exact absurd (Nat.eq_of_beq_eq_true hb) (h y (by simp))
    simp only [idxB, e, cond_false]
    exact ih _ (fun z hz => h z (by simp [hz]))
theorem idxB_some (x : Nat) : ∀ (l : Bs) (i : Nat), (∃ y ∈ l, y.toNat = x) → 0 ≤ idxB x l i := by
  intro l
  induction l with
  | nil => intro i ⟨y, h, _⟩; simp at h
  | cons y l ih =>
    intro i h
    simp only [idxB, forceN_eq]
    cases hb : Nat.beq y.toNat x with
    | true => exact Int.natCast_nonneg _
    | false =>
      rw [cond_false]
      refine ih _ ?_
      obtain ⟨z, hz, e⟩ := h
      rcases List.mem_cons.1 hz with rfl | hz
      · rw [e] at hb
        rw [Nat.beq_refl] at hb; cases hb
      · exact ⟨z, hz, e⟩
def anyI (cut : Bs) : Bs → Nat → Int
  | [], _ => -1
  | x :: l, i => if cut.contains x then (i : Int) else anyI cut l (i + 1)
theorem anyI_iff (cut : Bs) : ∀ (l : Bs) (i : Nat), (decide (0 ≤ anyI cut l i)) = l.any cut.contains := by
  intro l
  induction l with
  | nil => intro i; rfl
  | cons x l ih =>
    intro i
    rw [anyI, List.any_cons]
    by_cases h : cut.contains x = true
    · rw [if_pos h, h, decide_eq_true (Int.natCast_nonneg _)]; rfl
    · rw [if_neg h, ih]
      have : cut.contains x = false := by simpa using h
      rw [this]; rfl
theorem anyI_skip (cut : Bs) (ha : ∀ x ∈ cut, x.toNat < 128) : ∀ (w : Nat) (l : Bs) (i : Nat), w ≤ l.length → (∀ x ∈ l.take w, 128 ≤ x.toNat) → anyI cut l i = anyI cut (l.drop w) (i + w) := by
  intro w
  induction w with
  | zero => intro l i _ _; rfl
  | succ w ih =>
    intro l i hl hx
    cases l with
    | nil => simp at hl
    | cons x l =>
      have h1 : ¬ cut.contains x = true := by
        intro h
        have h1 := ha x (by simpa using h)
        have h2 := hx x (by simp)
        omega
      rw [anyI, if_neg h1, List.drop_succ_cons, ih l (i + 1) (by simpa using hl) (fun y hy => hx y (by simp [hy]))]
      congr 1; omega
abbrev Idx70 (c : CallK) : Prop := ∀ (s : Bs) (x : UInt8) H τ q, c f_strings_IndexByte [.str s, .int .u8 (x.toNat : Int)] H τ q = q (.int .i64 (idxB x.toNat s 0)) H τ
theorem s_strings_IndexByte_ret (c : CallK) (N : Nat) (h86 : ∀ (s : Bs) (x : UInt8) H τ q, c f_stringslite_IndexByte [.str s, .int .u8 (x.toNat : Int)] H τ q = q (.int .i64 (idxB x.toNat s 0)) H τ) (s : Bs) (x : UInt8) (H : Heap) (τ : Tape) (q : KV) :
    s_strings_IndexByte c N (.str s) (.int .u8 (x.toNat : Int)) H τ q = q (.int .i64 (idxB x.toNat s 0)) H τ := by
  simp only [s_strings_IndexByte, h86]
theorem l_strings_IndexRunea (c : CallK) (N : Nat) (chars : Bs) (ha : ∀ x ∈ chars, x.toNat < 128) (id : Nat) : ∀ (l : Bs) (pos : Nat) (H : Heap) (fr : T V) (τ : Tape) (m : Nat), chars.drop pos = l → l.length < m → WF H → Iter H id chars pos → fr.get 175 = some (.ptr id 0) →
    ∃ H', Gr id H H' ∧ ∀ k, loopK (s_strings_IndexRune_l1 c N) m ⟨fr, H⟩ τ k = k (.exit 9) ⟨.leaf, H'⟩ τ := by
  intro l
  induction l with
  | nil =>
    intro pos H fr τ m hd hm hw it f
    obtain ⟨m, rfl⟩ : ∃ j, m = j + 1 := ⟨m - 1, by omega⟩
    refine ⟨H, Gr.refl hw, fun k => ?_⟩
    have e := iter_end it (by simpa using hd) τ
    have x0 : pExtract 0 [.tup [V.bool false]] = some (.bool false) := rfl
    rw [loopK_succ]
    simp only [s_strings_IndexRune_l1, getK_mk f, e, effK_n, x0, someK_n, condK_fn]
    rfl
  | cons x l ih =>
    intro pos H fr τ m hd hm hw it f
    obtain ⟨m, rfl⟩ : ∃ j, m = j + 1 := ⟨m - 1, by omega⟩
    have hp : pos < chars.length := by
      by_cases h : pos < chars.length
      · exact h
      · rw [List.drop_eq_nil_of_le (by omega)] at hd; cases hd
    have hx := ha x (List.mem_of_mem_drop (i := pos) (by rw [hd]; simp))
    obtain ⟨H1, e, g1, it1, z1⟩ := iter_next hw it hp τ
    rw [hd, dec_ascii x l hx] at e it1
    obtain ⟨H2, g2, k2⟩ := ih (pos + 1) H1 (T.set (T.set (T.set .leaf 5 (.int .i64 (pos : Int))) 175 (.ptr id 0)) 181 (.bool false)) τ m (by rw [← List.drop_drop, hd]; rfl) (by simp at hm; omega) g1.wf it1 (by simp [T.get_set])
    refine ⟨H2, g1.trans g2 (Nat.le_refl _), fun k => ?_⟩
    have x0 : ∀ a b d : V, pExtract 0 [.tup [a, b, d]] = some a := fun _ _ _ => rfl
    have x1 : ∀ a b d : V, pExtract 1 [.tup [a, b, d]] = some b := fun _ _ _ => rfl
    have x2 : ∀ a b d : V, pExtract 2 [.tup [a, b, d]] = some d := fun _ _ _ => rfl
    have ne : ((x.toNat : Int) == Int.ofNat 65533) = false := by rw [beq_eq_false_iff_ne]; intro h; simp at h; omega
    rw [loopK_succ]
    simp only [s_strings_IndexRune_l1, getK_mk f, e, effK_n, x0, x1, x2, someK_n, condK_tn, bin_eql, ne, condK_fn]
    exact k2 k
theorem s_strings_IndexRune_ret (c : CallK) (N : Nat) (hN : 1000 < N) (h70 : Idx70 c) (h114 : ∀ (n : Int) H τ, ∃ b, ∀ q, c f_utf8_ValidRune [.int .i32 n] H τ q = q (.bool b) H τ) (chars : Bs) (ha : ∀ x ∈ chars, x.toNat < 128) (hl : chars.length < 1000) (r : Nat)
    (H : Heap) (hw : WF H) (τ : Tape) : ∃ H', Gr H.size H H' ∧ ∀ q, s_strings_IndexRune c N (.str chars) (.int .i32 (r : Int)) H τ q = q (.int .i64 (if r < 128 then idxB r chars 0 else -1)) H' τ := by
  have e0 : decide (Int.ofNat 0 ≤ (r : Int)) = true := decide_eq_true (by simp)
  by_cases h : r < 128
  · have e1 : decide ((r : Int) < Int.ofNat 128) = true := decide_eq_true (by simp; omega)
    have hu : (UInt8.ofNat r).toNat = r := by rw [UInt8.toNat_ofNat']; omega
    have hwr : wr .u8 (r : Int) = ((UInt8.ofNat r).toNat : Int) := by
      rw [hu, wr_eq]
      simp only [IntKind.wrap, IntKind.signed, IntKind.bits]
      simp <;> omega
    refine ⟨H, Gr.refl hw, fun q => ?_⟩
    rw [if_pos h]
    simp only [s_strings_IndexRune, bin_leq, e0, gK_do, retK, effK_n, bin_lss, e1, pick_mk, cond_true, someK_n, condK_tn, toInt_mk, hwr, h70]
    rw [hu]
  · have e1 : decide ((r : Int) < Int.ofNat 128) = false := decide_eq_false (by simp; omega)
    rw [if_neg h]
    by_cases hr : r = 65533
    · subst hr
      have e2 : (((65533 : Nat) : Int) == Int.ofNat 65533) = true := rfl
      obtain ⟨H1, k1, g1, it⟩ := iter_start hw chars τ
      obtain ⟨H2, g2, k2⟩ := l_strings_IndexRunea c N chars ha H.size chars 0 H1 (T.set .leaf 175 (.ptr H.size 0)) τ N rfl (by omega) g1.wf it (by simp [T.get_set])
      refine ⟨H2, g1.trans g2 (Nat.le_refl _), fun q => ?_⟩
      simp only [s_strings_IndexRune, bin_leq, e0, gK_do, retK, effK_n, bin_lss, e1, pick_mk, cond_true, someK_n, condK_fn, bin_eql, e2, condK_tn, k1]
      rw [k2]
      rfl
    · have e2 : ((r : Int) == Int.ofNat 65533) = false := by rw [beq_eq_false_iff_ne]; intro h; simp at h; omega
      obtain ⟨b, hb⟩ := h114 (r : Int) H τ
      refine ⟨H, Gr.refl hw, fun q => ?_⟩
      simp only [s_strings_IndexRune, bin_leq, e0, gK_do, retK, effK_n, bin_lss, e1, pick_mk, cond_true, someK_n, condK_fn, bin_eql, e2, hb, un_not]
      cases b with
      | false => simp only [Bool.not_false, condK_tn]; rfl
      | true =>
        obtain ⟨E1, E2, E3⟩ := enc_high r (by omega)
        have er : pRuneStr [.int .i32 (r : Int)] = some (.str (encodeR (r : Int))) := rfl
        simp only [Bool.not_true, condK_fn, er, someK_n, lenS_mk]
        generalize encodeR (r : Int) = rs at E1 E2 E3
        obtain ⟨n, hn⟩ : ∃ n, rs.length = n + 1 := ⟨rs.length - 1, by have := List.length_pos_iff.2 E2; omega⟩
        have es : wr .i64 ((rs.length : Int) - Int.ofNat 1) = (n : Int) := by rw [wr_id (by simp; omega) (by simp; omega)]; simp; omega
        obtain ⟨N, rfl⟩ : ∃ M, N = M + 1 := ⟨N - 1, by omega⟩
        have f0 : ∀ j, getK (T.set (T.set (T.set (T.set .leaf 0 (.str chars)) 7 (.str rs)) 8 (.int .i64 (n : Int))) 9 (.int .i64 (n : Int))) j = getK (T.set (T.set (T.set (T.set .leaf 0 (.str chars)) 7 (.str rs)) 8 (.int .i64 (n : Int))) 9 (.int .i64 (n : Int))) j := fun _ => rfl
        simp only [bin_sub, es]
        rw [loopK_succ]
        have ir : pStrIndex [.str rs, .int .i64 (n : Int)] = some (.int .u8 ((rs[n]'(by omega)).toNat : Int)) := strIndex_mk (by rw [List.getElem?_eq_getElem])
        have hh := E1 (rs[n]'(by omega)) (List.getElem_mem _)
        by_cases hlt : n < chars.length
        · have e3 : decide ((n : Int) < (chars.length : Int)) = true := decide_eq_true (by omega)
          have ic : pStrIndex [.str chars, .int .i64 (n : Int)] = some (.int .u8 ((chars[n]'hlt).toNat : Int)) := strIndex_mk (by rw [List.getElem?_eq_getElem])
          have hc := ha (chars[n]'hlt) (List.getElem_mem _)
          have e4 : (((chars[n]'hlt).toNat : Int) != ((rs[n]'(by omega)).toNat : Int)) = true := by rw [bne_iff_ne]; omega
          have e5 : wr .i64 ((n : Int) + Int.ofNat 1) = ((n + 1 : Nat) : Int) := by rw [wr_id (by simp; omega) (by simp; omega)]; rfl
          have e6 : pStrSlice true false [.str chars, .int .i64 ((n + 1 : Nat) : Int)] = some (.str (chars.drop (n + 1))) := strSlice_lo (by omega)
          have e7 : idxB (rs[n]'(by omega)).toNat (chars.drop (n + 1)) 0 = -1 := idxB_none _ _ _ (fun y hy => by have := ha y (List.mem_of_mem_drop hy); omega)
          have e8 : decide ((-1 : Int) < Int.ofNat 0) = true := rfl
          simp only [s_strings_IndexRune_l3, getK_set, ↓reduceIte, Nat.reduceEqDiff, lenS_mk, someK_n, bin_lss, e3, condK_tn, ic, ir, bin_neq, e4, bin_add, e5, e6, h70, e7, e8]
          rfl
        · have e3 : decide ((n : Int) < (chars.length : Int)) = false := decide_eq_false (by omega)
          simp only [s_strings_IndexRune_l3, getK_set, ↓reduceIte, Nat.reduceEqDiff, lenS_mk, someK_n, bin_lss, e3, condK_fn]
          rfl
end Go.Am.X

namespace Go.Am.X
set_option linter.unusedSimpArgs false
set_option linter.unusedVariables false
set_option linter.unusedSectionVars false
set_option maxRecDepth 100000
theorem l_strings_IndexAnyb (c : CallK) (N : Nat) (cut s : Bs) (hs : s.length < 9223372036854775807) (id : Nat) (H : Heap) (h81 : ∀ (x : UInt8) τ q, c f_asciiSet_contains [.ptr id 0, .int .u8 (x.toNat : Int)] H τ q = q (.bool (cut.contains x)) H τ) (q : KV) :
    ∀ (l pre : Bs) (fr : T V) (τ : Tape) (m : Nat), s = pre ++ l → l.length < m → fr.get 0 = some (.str s) → fr.get 6 = some (.ptr id 0) → fr.get 8 = some (.int .i64 (pre.length : Int)) →
    loopK (s_strings_IndexAny_l11 c N) m ⟨fr, H⟩ τ (blockK 0 (seqK (s_strings_IndexAny_j10 c N q) (seqK (s_strings_IndexAny_j7 c N q) (endK [(.t 4)] q)))) = q (.int .i64 (anyI cut l pre.length)) H τ := by
  intro l
  induction l with
  | nil =>
    intro pre fr τ m he hm f0 f6 f8
    obtain ⟨m, rfl⟩ : ∃ j, m = j + 1 := ⟨m - 1, by omega⟩
    have e1 : decide ((pre.length : Int) < (s.length : Int)) = false := decide_eq_false (by rw [he]; simp)
    rw [loopK_succ]
    simp only [s_strings_IndexAny_l11, getK_mk f0, getK_mk f6, getK_mk f8, lenS_mk, someK_n, bin_lss, e1, condK_fn]
    rfl
  | cons x l ih =>
    intro pre fr τ m he hm f0 f6 f8
    obtain ⟨m, rfl⟩ : ∃ j, m = j + 1 := ⟨m - 1, by omega⟩
    have hl : pre.length < s.length := by rw [he]; simp
    have e1 : decide ((pre.length : Int) < (s.length : Int)) = true := decide_eq_true (by omega)
    have e2 : pStrIndex [.str s, .int .i64 (pre.length : Int)] = some (.int .u8 (x.toNat : Int)) := strIndex_mk (by rw [he]; simp)
    have e3 : wr .i64 ((pre.length : Int) + Int.ofNat 1) = ((pre ++ [x]).length : Int) := by
      rw [wr_id (by simp; omega) (by simp; omega)]; simp
    rw [loopK_succ]
    simp only [s_strings_IndexAny_l11, getK_mk f0, getK_mk f6, getK_mk f8, lenS_mk, someK_n, bin_lss, e1, condK_tn, e2, h81]
    by_cases h : cut.contains x = true
    · rw [h, anyI, if_pos h]
      simp only [condK_tn]
      rfl
    · have h' : cut.contains x = false := by simpa using h
      rw [h', anyI, if_neg h]
      simp only [condK_fn, bin_add, e3]
      have := ih (pre ++ [x]) (T.set (T.set (T.set (T.set (T.set (T.set .leaf 0 (.str s)) 6 (.ptr id 0)) 8 (.int .i64 (pre.length : Int))) 37 (.int .i64 (pre.length : Int))) 38 (.int .i64 ((pre ++ [x]).length : Int))) 8 (.int .i64 ((pre ++ [x]).length : Int))) τ m (by rw [he]; simp) (by simp at hm; omega) (by simp [T.get_set]) (by simp [T.get_set]) (by simp [T.get_set])
      rw [show (pre ++ [x]).length = pre.length + 1 by simp] at this ⊢
      exact this
abbrev Rune92 (c : CallK) (cut : Bs) : Prop := ∀ (r : Nat) (H : Heap), WF H → ∀ τ, ∃ H', Gr H.size H H' ∧ ∀ q, c f_strings_IndexRune [.str cut, .int .i32 (r : Int)] H τ q = q (.int .i64 (if r < 128 then idxB r cut 0 else -1)) H' τ
theorem l_strings_IndexAnya (c : CallK) (N : Nat) (cut s : Bs) (ha : ∀ x ∈ cut, x.toNat < 128) (hs : s.length < 9223372036854775807) (id : Nat) (h92 : Rune92 c cut) :
    ∀ (n : Nat) (l : Bs) (pos : Nat) (H : Heap) (fr : T V) (τ : Tape) (m : Nat), s.drop pos = l → l.length ≤ n → n < m → WF H → Iter H id s pos → fr.get 1 = some (.str cut) → fr.get 45 = some (.ptr id 0) →
    ∃ H', Gr id H H' ∧ ∀ q, loopK (s_strings_IndexAny_l9 c N) m ⟨fr, H⟩ τ (blockK 2 (seqK (s_strings_IndexAny_j8 c N q) (endK [(.t 4)] q))) = q (.int .i64 (anyI cut l pos)) H' τ := by
  intro n
  induction n with
  | zero =>
    intro l pos H fr τ m hd hl hm hw it f1 f45
    obtain ⟨m, rfl⟩ : ∃ j, m = j + 1 := ⟨m - 1, by omega⟩
    have hl0 : l = [] := List.eq_nil_of_length_eq_zero (by omega)
    subst hl0
    refine ⟨H, Gr.refl hw, fun q => ?_⟩
    have e := iter_end it (by simpa using hd) τ
    have x0 : pExtract 0 [.tup [V.bool false]] = some (.bool false) := rfl
    rw [loopK_succ]
    simp only [s_strings_IndexAny_l9, getK_mk f1, getK_mk f45, e, effK_n, x0, someK_n, condK_fn]
    rfl
  | succ n ih =>
    intro l pos H fr τ m hd hl hm hw it f1 f45
    obtain ⟨m, rfl⟩ : ∃ j, m = j + 1 := ⟨m - 1, by omega⟩
    cases l with
    | nil =>
      refine ⟨H, Gr.refl hw, fun q => ?_⟩
      have e := iter_end it (by simpa using hd) τ
      have x0 : pExtract 0 [.tup [V.bool false]] = some (.bool false) := rfl
      rw [loopK_succ]
      simp only [s_strings_IndexAny_l9, getK_mk f1, getK_mk f45, e, effK_n, x0, someK_n, condK_fn]
      rfl
    | cons x l =>
      have hp : pos < s.length := by
        by_cases h : pos < s.length
        · exact h
        · rw [List.drop_eq_nil_of_le (by omega)] at hd; cases hd
      obtain ⟨H1, e, g1, it1, z1⟩ := iter_next hw it hp τ
      have hid : id < H.size := it.lt hw
      have x0 : ∀ a b d : V, pExtract 0 [.tup [a, b, d]] = some a := fun _ _ _ => rfl
      have x1 : ∀ a b d : V, pExtract 1 [.tup [a, b, d]] = some b := fun _ _ _ => rfl
      have x2 : ∀ a b d : V, pExtract 2 [.tup [a, b, d]] = some d := fun _ _ _ => rfl
      rw [hd] at e it1
      obtain ⟨H2, g2, k2⟩ := h92 (decodeR (x :: l)).1 H1 g1.wf τ
      have it2 := it1.gr g2 (by omega)
      have g12 : Gr id H H2 := g1.trans g2 (by omega)
      have go : ∀ w, 1 ≤ w → w ≤ (x :: l).length → (decodeR (x :: l)).2 = w → (if (decodeR (x :: l)).1 < 128 then idxB (decodeR (x :: l)).1 cut 0 else -1) = -1 → anyI cut (x :: l) pos = anyI cut ((x :: l).drop w) (pos + w) →
          ∃ H', Gr id H H' ∧ ∀ q, loopK (s_strings_IndexAny_l9 c N) (m + 1) ⟨fr, H⟩ τ (blockK 2 (seqK (s_strings_IndexAny_j8 c N q) (endK [(.t 4)] q))) = q (.int .i64 (anyI cut (x :: l) pos)) H' τ := by
        intro w hw1 hw2 hw' hneg hany
        rw [hw'] at it2
        obtain ⟨H3, g3, k3⟩ := ih ((x :: l).drop w) (pos + w) H2 (T.set (T.set (T.set (T.set .leaf 1 (.str cut)) 9 (.int .i64 (pos : Int))) 45 (.ptr id 0)) 53 (.bool false)) τ m (by rw [← List.drop_drop, hd]) (by rw [List.length_drop]; simp at hl hw2 ⊢; omega) (by omega) g2.wf it2 (by simp [T.get_set]) (by simp [T.get_set])
        refine ⟨H3, g12.trans g3 (Nat.le_refl _), fun q => ?_⟩
        have ef : decide (Int.ofNat 0 ≤ (-1 : Int)) = false := rfl
        rw [loopK_succ, hany]
        simp only [s_strings_IndexAny_l9, getK_mk f1, getK_mk f45, e, effK_n, x0, x1, x2, someK_n, condK_tn, k2, hneg, bin_geq, ef, condK_fn]
        exact k3 q
      by_cases hx : x.toNat < 128
      · have hdx := dec_ascii x l hx
        by_cases hc : cut.contains x = true
        · have hi : 0 ≤ idxB x.toNat cut 0 := idxB_some _ _ _ ⟨x, by simpa using hc, rfl⟩
          have ef : decide (Int.ofNat 0 ≤ idxB x.toNat cut 0) = true := decide_eq_true hi
          refine ⟨H2, g12, fun q => ?_⟩
          rw [hdx] at k2 e
          rw [if_pos hx] at k2
          rw [loopK_succ, anyI, if_pos hc]
          simp only [s_strings_IndexAny_l9, getK_mk f1, getK_mk f45, e, effK_n, x0, x1, x2, someK_n, condK_tn, k2, bin_geq, ef]
          rfl
        · refine go 1 (by omega) (by simp) (by rw [hdx]) ?_ ?_
          · rw [hdx, if_pos hx]
            exact idxB_none _ _ _ (fun y hy h => hc (by
              have : y = x := UInt8.toNat_inj.1 h
              subst this; simpa using hy))
          · rw [anyI, if_neg hc]; rfl
      · obtain ⟨d1, d2, d3, d4⟩ := dec_high x l (by omega)
        refine go _ d2 d3 rfl ?_ ?_
        · rw [if_neg (by omega)]
        · exact anyI_skip cut ha _ _ _ d3 d4
theorem s_strings_IndexAny_ret (c : CallK) (N : Nat) (hN : 9223372036854775807 ≤ N) (cut s : Bs) (ha : ∀ x ∈ cut, x.toNat < 128) (h2 : 2 ≤ cut.length) (hs : s.length < 9223372036854775807) (h92 : Rune92 c cut)
    (h93 : ∀ (n : Int) H τ q, c f_strings_shouldUseASCIISet [.int .i64 n] H τ q = q (.bool (decide (8 < n))) H τ)
    (h60 : ∀ (H : Heap), WF H → ∀ τ, ∃ H', Gr H.size H H' ∧ ∀ q, c f_strings_makeASCIISet [.str cut] H τ q = q (.tup [.agg (mark (repl 256 [.bool false]) cut), .bool true]) H' τ)
    (h81 : ∀ (id : Nat) (H : Heap), H.cells? id = some (mark (repl 256 [.bool false]) cut) → ∀ (x : UInt8) τ q, c f_asciiSet_contains [.ptr id 0, .int .u8 (x.toNat : Int)] H τ q = q (.bool (cut.contains x)) H τ)
    (H : Heap) (hw : WF H) (τ : Tape) : ∃ H', Gr H.size H H' ∧ ∀ q, s_strings_IndexAny c N (.str s) (.str cut) H τ q = q (.int .i64 (anyI cut s 0)) H' τ := by
  have e0 : (cut == ([] : Bs)) = false := beq_eq_false_iff_ne.2 (fun h => by rw [h] at h2; simp at h2)
  have e1 : ((cut.length : Int) == Int.ofNat 1) = false := by rw [beq_eq_false_iff_ne]; intro h; simp at h; omega
  by_cases h8 : (8 : Int) < (s.length : Int)
  · have e2 : decide ((8 : Int) < (s.length : Int)) = true := decide_eq_true h8
    obtain ⟨H1, k1, k2⟩ := h60 H hw τ
    have hr : (repl 256 [V.bool false]).length = 256 := by rw [repl_length]; rfl
    have hm : (mark (repl 256 [V.bool false]) cut).length = 256 := by rw [mark_length, hr]
    have hB := Blk.new H1 (repl 256 [V.bool false]) (repl 256 [V.bool false]).length true (Nat.le_refl _)
    have hG := Gr.new k1.wf (repl 256 [V.bool false]) (repl 256 [V.bool false]).length true
    have hsc : (mark (repl 256 [V.bool false]) cut).all V.scal = true := by
      have : ∀ (l : List UInt8) (cells : List V), cells.all V.scal = true → (mark cells l).all V.scal = true := by
        intro l
        induction l with
        | nil => intro cells h; exact h
        | cons x l ih =>
          intro cells h
          refine ih _ ?_
          rw [List.all_eq_true] at h ⊢
          intro v hv
          rcases List.mem_or_eq_of_mem_set hv with hv | rfl
          · exact h v hv
          · rfl
      exact this cut _ (by rw [repl_one, List.all_eq_true]; intro v hv; rw [List.eq_of_mem_replicate hv]; rfl)
    obtain ⟨H2, m1, m2, m3, m4⟩ := hB.eStore hG.wf 0 (.agg (mark (repl 256 [.bool false]) cut)) 256 hm (by rw [hr]; omega) hsc τ
    have hcells : (repl 256 [V.bool false]).take 0 ++ (V.agg (mark (repl 256 [.bool false]) cut)).cells ++ (repl 256 [V.bool false]).drop (0 + 256) = mark (repl 256 [.bool false]) cut := by
      rw [List.take_zero, List.nil_append, V.cells, List.drop_eq_nil_of_le (by rw [hr]; omega), List.append_nil]
    rw [hcells] at m2
    refine ⟨H2, k1.trans (hG.trans m3 (Nat.le_refl _)) k1.size, fun q => ?_⟩
    have x0 : ∀ a b : V, pExtract 0 [.tup [a, b]] = some a := fun _ _ => rfl
    have x1 : ∀ a b : V, pExtract 1 [.tup [a, b]] = some b := fun _ _ => rfl
    have al : eAlloc (repl 256 [(.bool false)]) [] H1 τ = some (.ptr H1.size 0, H1.new (repl 256 [V.bool false]) (repl 256 [V.bool false]).length true, τ) := rfl
    simp only [s_strings_IndexAny, bin_str, str_eql, e0, someK_n, condK_fn, lenS_mk, bin_eql, e1, h93, e2, condK_tn, k2, x0, x1, al, effK_n, m1]
    exact l_strings_IndexAnyb c N cut s hs H1.size H2 (fun x τ q => h81 H1.size H2 m2.cells x τ q) q s [] _ τ N rfl (by omega) (by simp [T.get_set]) (by simp [T.get_set]) (by simp [T.get_set])
  · have e2 : decide ((8 : Int) < (s.length : Int)) = false := decide_eq_false h8
    obtain ⟨H1, k1, g1, it⟩ := iter_start hw s τ
    obtain ⟨H2, g2, k2⟩ := l_strings_IndexAnya c N cut s ha hs H.size h92 s.length s 0 H1 (T.set (T.set .leaf 1 (.str cut)) 45 (.ptr H.size 0)) τ N rfl (Nat.le_refl _) (by omega) g1.wf it (by simp [T.get_set]) (by simp [T.get_set])
    refine ⟨H2, g1.trans g2 (Nat.le_refl _), fun q => ?_⟩
    simp only [s_strings_IndexAny, bin_str, str_eql, e0, someK_n, condK_fn, lenS_mk, bin_eql, e1, h93, e2, condK_tn, s_strings_IndexAny_j7, getK_set, ↓reduceIte, Nat.reduceEqDiff, k1, effK_n]
    exact k2 q
theorem s_strings_ContainsAny_ret (c : CallK) (N : Nat) (cut s : Bs) (H H' : Heap) (τ : Tape) (h78 : ∀ q, c f_strings_IndexAny [.str s, .str cut] H τ q = q (.int .i64 (anyI cut s 0)) H' τ) (q : KV) : s_strings_ContainsAny c N (.str s) (.str cut) H τ q = q (.bool (s.any cut.contains)) H' τ := by
  have e : decide (Int.ofNat 0 ≤ anyI cut s 0) = s.any cut.contains := anyI_iff cut s 0
  simp only [s_strings_ContainsAny, h78, bin_geq, e]
def valT (s : Bs) : Bs := trimB ([9, 10, 13, 32] : Bs).contains s
def valO (s : Bs) : Bool := !(valT s).any ([0, 10, 13] : Bs).contains
def valV (s : Bs) : V := bif valO s then .tup [.str (valT s), .bool true] else .tup [.str [], .bool false]
theorem s_headers_Value_ret (c : CallK) (N : Nat) (s : Bs) (H H1 H2 : Heap) (τ τ1 τ2 : Tape) (h35 : ∀ q, c f_strings_Trim [.str s, .str (bs [9, 10, 13, 32])] H τ q = q (.str (valT s)) H1 τ1)
    (h54 : ∀ q, c f_strings_ContainsAny [.str (valT s), .str (bs [0, 10, 13])] H1 τ1 q = q (.bool ((valT s).any ([0, 10, 13] : Bs).contains)) H2 τ2) (q : KV) : s_headers_Value c N (.str s) H τ q = q (valV s) H2 τ2 := by
  simp only [s_headers_Value, h35, h54, valV, valO]
  by_cases h : (valT s).any ([0, 10, 13] : Bs).contains = true
  · rw [h]; simp only [condK_tn, Bool.not_true, cond_false]
  · have h' : (valT s).any ([0, 10, 13] : Bs).contains = false := by simpa using h
    rw [h']; simp only [condK_fn, Bool.not_false, cond_true]
def tok (x : UInt8) : Bool := (decide (97 ≤ x.toNat) && decide (x.toNat ≤ 122)) || (decide (65 ≤ x.toNat) && decide (x.toNat ≤ 90)) || (decide (48 ≤ x.toNat) && decide (x.toNat ≤ 57)) || ([33, 35, 36, 37, 38, 39, 42, 43, 45, 46, 94, 95, 96, 124, 126] : Bs).contains x
def tokT (s : Bs) : Bool := s.all tok && !s.isEmpty
theorem l_infra_Token (c : CallK) (N : Nat) (h70 : Idx70 c) (s : Bs) (hs : s.length < 9223372036854775807) (H : Heap) (q : KV) : ∀ (l pre : Bs) (fr : T V) (τ : Tape) (m : Nat), s = pre ++ l → l.length < m → fr.get 0 = some (.str s) → fr.get 7 = some (.int .i64 (s.length : Int)) → fr.get 8 = some (.int .i64 (pre.length : Int)) →
    loopK (s_infra_Token_l1 c N) m ⟨fr, H⟩ τ (blockK 0 (seqK (s_infra_Token_j0 c N q) (endK [(.t 2)] q))) = q (.bool (l.all tok && !s.isEmpty)) H τ := by
  intro l
  induction l with
  | nil =>
    intro pre fr τ m he hm f0 f7 f8
    obtain ⟨m, rfl⟩ : ∃ j, m = j + 1 := ⟨m - 1, by omega⟩
    have e1 : decide ((pre.length : Int) < (s.length : Int)) = false := decide_eq_false (by rw [he]; simp)
    have e2 : (s != ([] : Bs)) = !s.isEmpty := by cases s <;> rfl
    rw [loopK_succ]
    simp only [s_infra_Token_l1, getK_mk f0, getK_mk f7, getK_mk f8, bin_lss, e1, condK_fn, seqK, blockK, Nat.beq_refl, cond_true, s_infra_Token_j0, getK_set, ↓reduceIte, bin_str, str_neq, someK_n, e2, List.all_nil, Bool.true_and]
  | cons x l ih =>
    intro pre fr τ m he hm f0 f7 f8
    obtain ⟨m, rfl⟩ : ∃ j, m = j + 1 := ⟨m - 1, by omega⟩
    have hl : pre.length < s.length := by rw [he]; simp
    have e1 : decide ((pre.length : Int) < (s.length : Int)) = true := decide_eq_true (by omega)
    have e2 : pStrIndex [.str s, .int .i64 (pre.length : Int)] = some (.int .u8 (x.toNat : Int)) := strIndex_mk (by rw [he]; simp)
    have e3 : wr .i64 ((pre.length : Int) + Int.ofNat 1) = ((pre ++ [x]).length : Int) := by
      rw [wr_id (by simp; omega) (by simp; omega)]; simp
    have yes : tok x = true → loopK (s_infra_Token_l1 c N) m ⟨(T.set (T.set (T.set (T.set (T.set .leaf 0 (.str s)) 7 (.int .i64 (s.length : Int))) 8 (.int .i64 (pre.length : Int))) 43 (.int .i64 ((pre ++ [x]).length : Int))) 8 (.int .i64 ((pre ++ [x]).length : Int))), H⟩ τ (blockK 0 (seqK (s_infra_Token_j0 c N q) (endK [(.t 2)] q))) = q (.bool ((x :: l).all tok && !s.isEmpty)) H τ := by
      intro ht
      rw [ih (pre ++ [x]) _ τ m (by rw [he]; simp) (by simp at hm; omega) (by simp [T.get_set]) (by simp [T.get_set]) (by simp [T.get_set]), List.all_cons, ht, Bool.true_and]
    rw [loopK_succ]
    have d1 : decide (Int.ofNat 97 ≤ (x.toNat : Int)) = decide (97 ≤ x.toNat) := by rw [decide_eq_decide]; simp; omega
    have d2 : decide ((x.toNat : Int) ≤ Int.ofNat 122) = decide (x.toNat ≤ 122) := by rw [decide_eq_decide]; simp; omega
    have d3 : decide (Int.ofNat 65 ≤ (x.toNat : Int)) = decide (65 ≤ x.toNat) := by rw [decide_eq_decide]; simp; omega
    have d4 : decide ((x.toNat : Int) ≤ Int.ofNat 90) = decide (x.toNat ≤ 90) := by rw [decide_eq_decide]; simp; omega
    have d5 : decide (Int.ofNat 48 ≤ (x.toNat : Int)) = decide (48 ≤ x.toNat) := by rw [decide_eq_decide]; simp; omega
    have d6 : decide ((x.toNat : Int) ≤ Int.ofNat 57) = decide (x.toNat ≤ 57) := by rw [decide_eq_decide]; simp; omega
    have step : ∀ (a1 a2 a3 a4 a5 a6 : Bool) (ix : Int), decide (97 ≤ x.toNat) = a1 → decide (x.toNat ≤ 122) = a2 → decide (65 ≤ x.toNat) = a3 → decide (x.toNat ≤ 90) = a4 → decide (48 ≤ x.toNat) = a5 → decide (x.toNat ≤ 57) = a6 → idxB x.toNat (bs [33, 35, 36, 37, 38, 39, 42, 43, 45, 46, 94, 95, 96, 124, 126]) 0 = ix →
        s_infra_Token_l1 c N ⟨fr, H⟩ τ (seqK (fun st τ => loopK (s_infra_Token_l1 c N) m st τ (blockK 0 (seqK (s_infra_Token_j0 c N q) (endK [(.t 2)] q)))) (blockK 0 (seqK (s_infra_Token_j0 c N q) (endK [(.t 2)] q)))) =
        bif ((a1 && a2) || (a3 && a4) || (a5 && a6)) || decide (0 ≤ ix) then loopK (s_infra_Token_l1 c N) m ⟨(T.set (T.set (T.set (T.set (T.set .leaf 0 (.str s)) 7 (.int .i64 (s.length : Int))) 8 (.int .i64 (pre.length : Int))) 43 (.int .i64 ((pre ++ [x]).length : Int))) 8 (.int .i64 ((pre ++ [x]).length : Int))), H⟩ τ (blockK 0 (seqK (s_infra_Token_j0 c N q) (endK [(.t 2)] q)))
        else q (.bool false) H τ := by
      intro a1 a2 a3 a4 a5 a6 ix h1 h2 h3 h4 h5 h6 hx
      simp only [s_infra_Token_l1, getK_mk f0, getK_mk f7, getK_mk f8, bin_lss, e1, condK_tn, e2, someK_n, bin_geq, bin_leq, d1, d2, d3, d4, d5, d6, h1, h2, h3, h4, h5, h6, un_not]
      have e9 : decide (ix < Int.ofNat 0) = !decide (0 ≤ ix) := by
        by_cases h : 0 ≤ ix
        · rw [decide_eq_true h, decide_eq_false (by simp; omega)]; rfl
        · rw [decide_eq_false h, decide_eq_true (by simp; omega)]; rfl
      have fin : ∀ (b : Bool), gK (.bool b) true (fun q' => q' (.int .u8 (x.toNat : Int)) H τ) H τ (fun v51 H52 τ53 =>
          gK (.bool b) true (fun q' => c f_strings_IndexByte [(.str (bs [33, 35, 36, 37, 38, 39, 42, 43, 45, 46, 94, 95, 96, 124, 126])), v51] H52 τ53 q') H52 τ53 fun v54 H55 τ56 =>
          gK (.bool b) true (fun q' => binK .lss v54 (.int .i64 (.ofNat 0)) fun v => q' v H55 τ56) H55 τ56 fun v57 H58 τ59 =>
          someK (pPick [(.bool b), v57, (.bool false)]) fun v60 =>
          condK v60
            (seqK (fun st τ => loopK (s_infra_Token_l1 c N) m st τ (blockK 0 (seqK (s_infra_Token_j0 c N q) (endK [(.t 2)] q)))) (blockK 0 (seqK (s_infra_Token_j0 c N q) (endK [(.t 2)] q))) .ret ⟨(T.set .leaf 2 (.bool false)), H58⟩ τ59)
            (binK .add (.int .i64 (pre.length : Int)) (.int .i64 (.ofNat 1)) fun v61 =>
          seqK (fun st τ => loopK (s_infra_Token_l1 c N) m st τ (blockK 0 (seqK (s_infra_Token_j0 c N q) (endK [(.t 2)] q)))) (blockK 0 (seqK (s_infra_Token_j0 c N q) (endK [(.t 2)] q))) .normal ⟨(T.set (T.set (T.set (T.set (T.set .leaf 0 (.str s)) 7 (.int .i64 (s.length : Int))) 8 (.int .i64 (pre.length : Int))) 43 v61) 8 v61), H58⟩ τ59)) =
          bif (!b) || decide (0 ≤ ix) then loopK (s_infra_Token_l1 c N) m ⟨(T.set (T.set (T.set (T.set (T.set .leaf 0 (.str s)) 7 (.int .i64 (s.length : Int))) 8 (.int .i64 (pre.length : Int))) 43 (.int .i64 ((pre ++ [x]).length : Int))) 8 (.int .i64 ((pre ++ [x]).length : Int))), H⟩ τ (blockK 0 (seqK (s_infra_Token_j0 c N q) (endK [(.t 2)] q)))
          else q (.bool false) H τ := by
        intro b
        cases b with
        | false =>
          simp only [gK_skip, gK_none, pick_mk, cond_false, someK_n, condK_fn, bin_add, e3, Bool.not_false, Bool.true_or, cond_true]
          rfl
        | true =>
          simp only [gK_do, retK, effK_n, h70, hx, bin_lss, e9, pick_mk, cond_true, someK_n, Bool.not_true, Bool.false_or]
          cases decide (0 ≤ ix) with
          | true => simp only [Bool.not_true, condK_fn, bin_add, e3, cond_true]; rfl
          | false => simp only [Bool.not_false, condK_tn, cond_false]; rfl
      have fin' := fin (!((a1 && a2) || (a3 && a4) || (a5 && a6)))
      rw [Bool.not_not] at fin'
      rw [← fin']
      cases a1 <;> cases a2 <;> cases a3 <;> cases a4 <;> cases a5 <;> cases a6 <;> simp only [bin_geq, bin_leq, d1, d2, d3, d4, d5, d6, h1, h2, h3, h4, h5, h6, un_not, gK_do, gK_do', gK_skip, gK_skip', gK_none, retK, effK_n, pick_mk, cond_true, cond_false, someK_n, Bool.and_true, Bool.and_false, Bool.true_and, Bool.false_and, Bool.or_true, Bool.or_false, Bool.true_or, Bool.false_or, Bool.not_true, Bool.not_false]
    rw [step _ _ _ _ _ _ _ rfl rfl rfl rfl rfl rfl rfl]
    have hix : decide (0 ≤ idxB x.toNat (bs [33, 35, 36, 37, 38, 39, 42, 43, 45, 46, 94, 95, 96, 124, 126]) 0) = ([33, 35, 36, 37, 38, 39, 42, 43, 45, 46, 94, 95, 96, 124, 126] : Bs).contains x := by
      by_cases h : ([33, 35, 36, 37, 38, 39, 42, 43, 45, 46, 94, 95, 96, 124, 126] : Bs).contains x = true
      · rw [h]
        exact decide_eq_true (idxB_some _ _ _ ⟨x, List.contains_iff_mem.1 h, rfl⟩)
      · have h' : ([33, 35, 36, 37, 38, 39, 42, 43, 45, 46, 94, 95, 96, 124, 126] : Bs).contains x = false := by simpa using h
        rw [h', decide_eq_false]
        have hn : idxB x.toNat (bs [33, 35, 36, 37, 38, 39, 42, 43, 45, 46, 94, 95, 96, 124, 126]) 0 = -1 := idxB_none _ _ _ (fun y hy e => h (List.contains_iff_mem.2 (by
          have : y = x := UInt8.toNat_inj.1 e
          subst this; exact hy)))
        rw [hn]; decide
    rw [hix]
    cases ht : tok x with
    | true =>
      have : ((decide (97 ≤ x.toNat) && decide (x.toNat ≤ 122)) || (decide (65 ≤ x.toNat) && decide (x.toNat ≤ 90)) || (decide (48 ≤ x.toNat) && decide (x.toNat ≤ 57)) || ([33, 35, 36, 37, 38, 39, 42, 43, 45, 46, 94, 95, 96, 124, 126] : Bs).contains x) = true := ht
      rw [this, cond_true]
      exact yes ht
    | false =>
      have : ((decide (97 ≤ x.toNat) && decide (x.toNat ≤ 122)) || (decide (65 ≤ x.toNat) && decide (x.toNat ≤ 90)) || (decide (48 ≤ x.toNat) && decide (x.toNat ≤ 57)) || ([33, 35, 36, 37, 38, 39, 42, 43, 45, 46, 94, 95, 96, 124, 126] : Bs).contains x) = false := ht
      rw [this, cond_false, List.all_cons, ht]
      simp
theorem s_infra_Token_ret (c : CallK) (N : Nat) (hN : 9223372036854775807 ≤ N) (h70 : Idx70 c) (s : Bs) (hs : s.length < 9223372036854775807) (H : Heap) (τ : Tape) (q : KV) : s_infra_Token c N (.str s) H τ q = q (.bool (tokT s)) H τ := by
  simp only [s_infra_Token, lenS_mk, someK_n]
  exact l_infra_Token c N h70 s hs H q s [] _ τ N rfl (by omega) (by simp [T.get_set]) (by simp [T.get_set]) (by simp [T.get_set])
def mayE (n v : Bs) : Int := bif valO v && tokT n then (if 4096 < n.length ∨ 4096 < (valT v).length then 3 else 0) else 1
def mayV (n v : Bs) : V := .tup [.str (if mayE n v = 0 then valT v else []), .int .i64 (mayE n v)]
theorem s_headers_may_ret (c : CallK) (N : Nat) (n v : Bs) (H H1 : Heap) (τ τ1 : Tape) (h32 : ∀ q, c f_headers_Value [.str v] H τ q = q (valV v) H1 τ1) (h71 : ∀ q, c f_infra_Token [.str n] H1 τ1 q = q (.bool (tokT n)) H1 τ1) (q : KV) : s_headers_may c N (.str n) (.str v) H τ q = q (mayV n v) H1 τ1 := by
  have x0 : ∀ a b : V, pExtract 0 [.tup [a, b]] = some a := fun _ _ => rfl
  have x1 : ∀ a b : V, pExtract 1 [.tup [a, b]] = some b := fun _ _ => rfl
  have d : ∀ k : Nat, decide (Int.ofNat 4096 < (k : Int)) = decide (4096 < k) := fun k => by rw [decide_eq_decide]; simp; omega
  unfold mayV mayE
  simp only [s_headers_may, h32, valV]
  by_cases h1 : valO v = true
  · rw [h1]
    simp only [cond_true, x0, x1, someK_n, un_not, Bool.not_true, gK_do', retK, effK_n, h71, pick_mk, cond_false, Bool.true_and]
    by_cases h2 : tokT n = true
    · rw [h2]
      simp only [Bool.not_true, condK_fn, lenS_mk, someK_n, bin_gtr, d, cond_true]
      by_cases h3 : 4096 < n.length
      · have hm : (if 4096 < n.length ∨ 4096 < (valT v).length then (3 : Int) else 0) = 3 := if_pos (.inl h3)
        rw [decide_eq_true h3, hm]
        simp only [gK_skip', gK_none, pick_mk, cond_true, someK_n, condK_tn]
        rfl
      · rw [decide_eq_false h3]
        simp only [gK_do', retK, effK_n, lenS_mk, someK_n, bin_gtr, d, pick_mk, cond_false]
        by_cases h4 : 4096 < (valT v).length
        · have hm : (if 4096 < n.length ∨ 4096 < (valT v).length then (3 : Int) else 0) = 3 := if_pos (.inr h4)
          rw [decide_eq_true h4, hm]
          simp only [condK_tn]; rfl
        · have hm : (if 4096 < n.length ∨ 4096 < (valT v).length then (3 : Int) else 0) = 0 := if_neg (by omega)
          rw [decide_eq_false h4, hm]
          simp only [condK_fn]; rfl
    · have h2' : tokT n = false := by simpa using h2
      rw [h2']
      simp only [Bool.not_false, condK_tn]
      rfl
  · have h1' : valO v = false := by simpa using h1
    rw [h1']
    simp only [cond_false, Bool.false_and, x0, x1, someK_n, un_not, Bool.not_false, gK_skip', gK_none, pick_mk, cond_true, condK_tn]
    rfl
end Go.Am.X

