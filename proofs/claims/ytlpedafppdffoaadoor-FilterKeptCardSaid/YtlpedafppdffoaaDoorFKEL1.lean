/- The abstract machine, printed functions of the program, and what they are shown to be. -/
import Derived.Deep.SlicePairs
import Derived.ChangeSlices
import Derived.SizedLaws
import Derived.Test.YtlpedafppdffoaaDoorFKEL0
import Derived.Test.YtlpedafppdffoaaDoorFKEM3
import Derived.Test.YtlpedafppdffoaaDoorFKEM4
import Derived.Deep.Strs
import Derived.Test.YtlpedafppdffoaaDoorFKEOk
set_option linter.unusedSimpArgs false
set_option linter.unusedVariables false
set_option linter.unusedSectionVars false
set_option maxRecDepth 100000
namespace Go.Am.X
open Go Go.ChangeShapes Go.WideShapes Go.RowKit
theorem cell_invH {w : World} {b o : Nat} {v : Value} (h : w.cell? ⟨b, o, none⟩ = some v) : ∃ c el fz, w.heap[b]? = some (.cells c el fz) ∧ c[o]? = some v := by
 unfold World.cell? at h
 split at h
 ·rename_i c el fz hh
  exact ⟨c, el, fz, hh, by simpa using h⟩
 ·cases h
theorem shape_invH {w : World} {b : Nat} {x : TypeId × Nat} (h : w.shape? b = some x) : ∃ c el fz, w.heap[b]? = some (.cells c el fz) := by
 unfold World.shape? at h
 split at h
 ·rename_i c el fz hh
  exact ⟨c, el, fz, hh⟩
 ·cases h
theorem weightsAll_mem {X : Type} (P : Program) (e : TypeId) : ∀ (l : List (DataW X)) (d : DataW X), d ∈ l → ∀ x ∈ d.weights P e, x ∈ DataW.weightsAll P e l := by
 intro l
 induction l with
 | nil => intro d h; simp at h
 | cons a l ih =>
  intro d h x hx
  simp only [DataW.weightsAll, List.mem_append]
  rcases List.mem_cons.1 h with rfl | h
  ·exact .inl hx
  ·exact .inr (ih d h x hx)
theorem weightsEach_le {X : Type} {P : Program} {ts : List TypeId} {ds : List (DataW X)} (h : (DataW.weightsEach P ts ds).all (· ≤ reachBytes) = true) {j : Nat} {t : TypeId} {d : DataW X} (ht : ts[j]? = some t) (hd : ds[j]? = some d) : ∀ x ∈ d.weights P t, x ≤ reachBytes := by
 intro x hx
 have := List.all_eq_true.1 h _ (DataW.weights_mem_each ht hd x hx)
 simpa using this
theorem open_headersZ {P : Program} {W : World} {X : Type} {enc : TypeId × Value → X} {t e : TypeId} {f0 f1 : Field} (ht : P.underlying t = some (.slice e)) (he : P.underlying e = some (.struct #[f0, f1]))
  (ce : P.cellsOf e = 2) (o0 : f0.offset = 0) (o1 : f1.offset = 1) (c0 : P.cellsOf f0.type = 1) (c1 : P.cellsOf f1.type = 1) (s0 : P.underlying f0.type = some .string) (s1 : P.underlying f1.type = some .string)
  {v : Value} {d : DataW X} {p : List MemPlace} {base : Nat} (hval : Value.okWide P W .any base t v) (hd : DataW.Trod enc P W 0 (fun _ => true) true t v d p) (hwt : ∀ x ∈ d.weights P t, x ≤ reachBytes) (n : Nat) :
  ∃ (hs : List (Bs × Bs)) (u : V) (ent : Option (List V)) (addr : Nat × Nat), hs.length ≤ 9223372036854775807 ∧ (∀ h ∈ hs, h.1.length ≤ 140737488351232 ∧ h.2.length ≤ 140737488351232) ∧ (∀ ι : Inj, ι n = addr → cv ι u = v) ∧
   (∀ cs, ent = some cs → cs = hcells hs ∧ ∀ (ι : Inj) base, ι n = addr → BOk ι base W n cs cs.length false) ∧ (∀ H : Heap, n < H.size → VOk H u) ∧
   (∀ H : Heap, (∀ cs, ent = some cs → H.cells? n = some cs) → Rd H 2 u hs.length (hcells hs) ∧ Src H u) := by
 obtain ⟨fuel, hf⟩ := hd
 have hv1 : Cell.ok P W .any base t v := by
  unfold Value.okWide at hval
  rw [ht] at hval
  unfold Cell.okWide at hval
  rw [ht] at hval
  exact hval
 have hcl : v.cells.toList = [v] := by
  cases v <;> first | rfl | (unfold Cell.ok at hv1; rw [ht] at hv1; exact hv1.elim)
 rw [hcl] at hf
 rcases Deep.open_slice_pairs ht he ce o0 o1 c0 c1 hf with ⟨hcs, _⟩ | ⟨a, len, cap, m, k, V0, V1, D0, D1, P0, P1, hcs, _, hlc, hcm, hm, hxd, hall⟩
 ·have : v = .slice none 0 0 := by simpa using hcs
  subst this
  exact ⟨[], .nils, none, (0, 0), by simp, (fun h hh => by simp at hh), fun _ _ => rfl, (fun cs h => by cases h), fun _ _ => trivial, fun _ _ => ⟨.inl ⟨.inl rfl, rfl, rfl⟩, trivial⟩⟩
 ·have : v = .slice (some a) len cap := by simpa using hcs
  subst this
  have hhas := hv1
  unfold Cell.ok at hhas
  rw [ht] at hhas
  have hspot : a.spot = none := hhas.2.2.2.1
  obtain ⟨row, cells, hsh, _⟩ := hhas.2.2.2.2
  obtain ⟨ab, ao, asp⟩ := a
  simp only at hspot hsh
  subst hspot
  obtain ⟨c0', el0, fz0, hb0⟩ := shape_invH hsh
  have hmc : m = cap := by simpa using hm
  subst hmc
  have hstr : ∀ i, i < m → ∃ x y : Bs, W.cell? ⟨ab, ao + i * 2, none⟩ = some (.string ⟨x.toArray⟩) ∧ W.cell? ⟨ab, ao + (i * 2 + 1), none⟩ = some (.string ⟨y.toArray⟩) ∧ D0 i = .lit (.string x) ∧ D1 i = .lit (.string y) := by
   intro i hi
   obtain ⟨h1, h2, h3, h4⟩ := hall i hi
   obtain ⟨x, hx, hx3, _⟩ := DataW.trod_string s0 h3
   obtain ⟨y, hy, hy3, _⟩ := DataW.trod_string s1 h4
   have hx' : V0 i = .string x := by simpa using hx
   have hy' : V1 i = .string y := by simpa using hy
   refine ⟨x.data.toList, y.data.toList, ?_, ?_, congrArg Prod.fst hx3, congrArg Prod.fst hy3⟩
   ·rw [← add_addr, h1, hx']
   ·rw [← add_addr, h2, hy']
  obtain ⟨X0, hX⟩ : ∃ X0 : Nat → Bs × Bs, ∀ i, i < m → W.cell? ⟨ab, ao + i * 2, none⟩ = some (.string ⟨(X0 i).1.toArray⟩) ∧ W.cell? ⟨ab, ao + (i * 2 + 1), none⟩ = some (.string ⟨(X0 i).2.toArray⟩) ∧ D0 i = .lit (.string (X0 i).1) ∧ D1 i = .lit (.string (X0 i).2) := by
   refine ⟨fun i => if h : i < m then ((hstr i h).choose, (hstr i h).choose_spec.choose) else ([], []), fun i hi => ?_⟩
   simp only [dif_pos hi]
   exact (hstr i hi).choose_spec.choose_spec
  by_cases h0 : len = 0
  ·subst h0
   refine ⟨[], .sl n ao 0 m none 2, some [], (ab, 0), by simp, (fun h hh => by simp at hh), fun ι hι => ?_, (fun cs h => ?_), fun H hn => ⟨hn, by simp, (fun h => by cases h)⟩, fun H hH => ⟨.inl ⟨.inr ⟨_, _, _, _, rfl⟩, rfl, rfl⟩, ⟨[], hH _ rfl⟩⟩⟩
   ·simp [cv, hι]
   ·cases h
    exact ⟨rfl, fun ι base hι => ⟨c0', el0, fz0.1, fz0.2, by rw [hι]; exact hb0, by rw [hι]; simp, fun j u hu => by simp at hu, fun h => by cases h⟩⟩
  ·have hlen : ((List.range len).map X0).length = len := by simp
   refine ⟨(List.range len).map X0, .sl n 0 len m none 2, some (hcells ((List.range len).map X0)), (ab, ao), ?_, ?_, fun ι hι => ?_, fun cs h => ?_, fun H hn => ⟨hn, by simpa using hlc, (fun h => by cases h)⟩, fun H hH => ?_⟩
   ·rw [hlen]
    unfold maxLen at hcm
    omega
   ·intro h hh
    obtain ⟨i, hi, rfl⟩ := List.mem_map.1 hh
    have hi := List.mem_range.1 hi
    obtain ⟨_, _, z1, z2⟩ := hX i (by omega)
    have hdd : d = .slice ((List.range len).map fun i => .agg [D0 i, D1 i]) ((List.range (m - len)).map fun j => .agg [D0 (len + j), D1 (len + j)]) := congrArg Prod.fst hxd
    have hmem : (DataW.agg [D0 i, D1 i] : DataW X) ∈ (List.range len).map fun i => DataW.agg [D0 i, D1 i] := List.mem_map.2 ⟨i, List.mem_range.2 hi, rfl⟩
    have hall2 := weightsAll_mem P e _ _ hmem
    have key : ∀ x, x ∈ (DataW.agg [D0 i, D1 i] : DataW X).weights P e → x ≤ reachBytes := by
     intro x hx
     refine hwt x ?_
     rw [hdd]
     simp only [DataW.weights, ht, List.mem_cons, List.mem_append]
     exact .inr (.inl (hall2 x hx))
    have kw : (DataW.agg [D0 i, D1 i] : DataW X).weights P e = [(X0 i).1.length, (X0 i).2.length] := by
     simp [DataW.weights, he, DataW.weightsEach, z1, z2]
    rw [kw] at key
    have a1 := key _ (by simp : (X0 i).1.length ∈ _)
    have a2 := key _ (by simp : (X0 i).2.length ∈ _)
    unfold reachBytes at a1 a2
    exact ⟨a1, a2⟩
   ·simp [cv, hι]
   ·cases h
    refine ⟨rfl, fun ι base hι => ?_⟩
    obtain ⟨c, el, fz, hb, _⟩ := cell_invH (hX 0 (by omega)).1
    have hget : ∀ j (u : V), (hcells ((List.range len).map X0))[j]? = some u → c[ao + j]? = some (cv ι u) := by
     intro j u hu
     have hj : j < len * 2 := by
      have := (List.getElem?_eq_some_iff.1 hu).1
      rw [hcells_length, hlen] at this
      exact this
     have key : ∀ (l : List (Bs × Bs)) (i : Nat) (h : Bs × Bs), l[i]? = some h → (hcells l)[i * 2]? = some (.str h.1) ∧ (hcells l)[i * 2 + 1]? = some (.str h.2) := by
      intro l
      induction l with
      | nil => intro i h hi; simp at hi
      | cons x l ih =>
       intro i h hi
       cases i with
       | zero => simp at hi; subst hi; exact ⟨rfl, rfl⟩
       | succ i =>
        have := ih i h (by simpa using hi)
        rw [hcells_cons, show (i + 1) * 2 = i * 2 + 1 + 1 by omega]
        exact ⟨by simpa using this.1, by simpa using this.2⟩
     have hi : j / 2 < len := by omega
     have hx : ((List.range len).map X0)[j / 2]? = some (X0 (j / 2)) := by
      rw [List.getElem?_map, List.getElem?_range hi]; rfl
     obtain ⟨k1, k2⟩ := key _ _ _ hx
     obtain ⟨w1, w2, _, _⟩ := hX (j / 2) (by omega)
     obtain ⟨c', el', fz', hb', hc'⟩ := cell_invH w1
     obtain ⟨c'', el'', fz'', hb'', hc''⟩ := cell_invH w2
     rw [hb] at hb' hb''
     cases hb'
     cases hb''
     generalize hi' : j / 2 = i at *
     rcases Nat.mod_two_eq_zero_or_one j with hj2 | hj2
     ·obtain rfl : j = i * 2 := by omega
      rw [k1] at hu
      cases hu
      exact hc'
     ·obtain rfl : j = i * 2 + 1 := by omega
      rw [k2] at hu
      cases hu
      exact hc''
    refine ⟨c, el, fz.1, fz.2, by rw [hι]; exact hb, ?_, fun j u hu => by rw [hι]; exact hget j u hu, (fun h => by cases h)⟩
    rw [hι, hcells_length, hlen]
    obtain ⟨c'', el'', fz'', hb'', hc''⟩ := cell_invH (hX (len - 1) (by omega)).2.1
    rw [hb] at hb''
    cases hb''
    have := (Array.getElem?_eq_some_iff.1 hc'').1
    simp only
    omega
   ·refine ⟨.inr ⟨n, 0, m, none, hcells ((List.range len).map X0), by rw [hlen], hH _ rfl, ?_, by rw [hcells_length]⟩, ⟨_, hH _ rfl⟩⟩
    rw [List.drop_zero, List.take_of_length_le (by rw [hcells_length]; exact Nat.le_refl _)]
end Go.Am.X

namespace Go.Am
open Go Go.ChangeShapes Go.WideShapes Go.RowKit
end Go.Am

namespace Go.Am
open Go Go.ChangeShapes Go.WideShapes Go.RowKit
theorem cell_inv' {w : World} {b o : Nat} {v : Value} (h : w.cell? ⟨b, o, none⟩ = some v) : ∃ c el fz, w.heap[b]? = some (.cells c el fz) ∧ c[o]? = some v := by
 unfold World.cell? at h
 split at h
 ·rename_i c el fz hh
  exact ⟨c, el, fz, hh, by simpa using h⟩
 ·cases h
theorem shape_inv {w : World} {b : Nat} {x : TypeId × Nat} (h : w.shape? b = some x) : ∃ c el fz, w.heap[b]? = some (.cells c el fz) := by
 unfold World.shape? at h
 split at h
 ·rename_i c el fz hh
  exact ⟨c, el, fz, hh⟩
 ·cases h
theorem open_bytes {P : Program} {W : World} {X : Type} {enc : TypeId × Value → X} {t e : TypeId} (ht : P.underlying t = some (.slice e)) (he : P.underlying e = some (.int .u8))
  (ce : P.cellsOf e = 1) {v : Value} {d : DataW X} {p : List MemPlace} {base : Nat} (hval : Value.okWide P W .any base t v) (hd : DataW.Trod enc P W 0 (fun _ => true) true t v d p) (n : Nat) :
  ∃ (bs : List Nat) (u : V) (ent : Option (List V)) (addr : Nat × Nat), bs.length ≤ 9223372036854775807 ∧ (∀ x ∈ bs, x < 256) ∧ (∀ ι : Inj, ι n = addr → cv ι u = v) ∧
   (∀ cs, ent = some cs → cs = ws .u8 bs ∧ ∀ (ι : Inj) base, ι n = addr → BOk ι base W n cs cs.length false) ∧ (∀ H : Heap, n < H.size → VOk H u) ∧ Roomy u ∧
   (∀ H : Heap, (∀ cs, ent = some cs → H.cells? n = some cs) → Rd H 1 u bs.length (ws .u8 bs) ∧ Src H u) := by
 obtain ⟨fuel, hf⟩ := hd
 have hv1 : Cell.ok P W .any base t v := by
  unfold Value.okWide at hval
  rw [ht] at hval
  unfold Cell.okWide at hval
  rw [ht] at hval
  exact hval
 have hcl : v.cells.toList = [v] := by
  cases v <;> first | rfl | (unfold Cell.ok at hv1; rw [ht] at hv1; exact hv1.elim)
 rw [hcl] at hf
 rcases open_ints ht he ce hf with ⟨hcs, _⟩ | ⟨a, len, cap, zs, hcs, _, hlc, hcm, hm, _, hall, hwf⟩
 ·have : v = .slice none 0 0 := by simpa using hcs
  subst this
  exact ⟨[], .nils, none, (0, 0), by simp, by simp, fun _ _ => rfl, (fun cs h => by cases h), fun _ _ => trivial, trivial, fun _ _ => ⟨.inl ⟨.inl rfl, rfl, rfl⟩, trivial⟩⟩
 ·have : v = .slice (some a) len cap := by simpa using hcs
  subst this
  have hhas := hv1
  unfold Cell.ok at hhas
  rw [ht] at hhas
  have hspot : a.spot = none := hhas.2.2.2.1
  obtain ⟨row, cells, hsh, _⟩ := hhas.2.2.2.2
  obtain ⟨ab, ao, sp⟩ := a
  simp only at hspot hsh
  subst hspot
  have hmc : zs.length = cap := by simpa using hm
  obtain ⟨c, el, fz, hb⟩ := shape_inv hsh
  by_cases h0 : len = 0
  ·subst h0
   refine ⟨[], .sl n ao 0 cap none 1, some [], (ab, 0), by simp, by simp, fun ι hι => ?_, fun cs h => ?_, fun H hn => ⟨hn, by simp, (fun h => by cases h)⟩, ?_, fun H hH => ⟨.inl ⟨.inr ⟨_, _, _, _, rfl⟩, rfl, rfl⟩, ⟨[], hH _ rfl⟩⟩⟩
   ·simp [cv, hι]
   ·cases h
    refine ⟨rfl, fun ι base hι => ⟨c, el, fz.1, fz.2, by rw [hι]; exact hb, by rw [hι]; simp, fun j u hu => by simp at hu, fun h => by cases h⟩⟩
   ·show within 0 cap none = true
    rw [within_iff]; exact .inl (Nat.zero_le _)
  ·have hlen : ((zs.take len).map Int.toNat).length = len := by simp; omega
   have hz : ∀ i, i < cap → ∃ x : Nat, zs.getD i 0 = (x : Int) ∧ x < 256 := by
    intro i hi
    have hmem : zs.getD i 0 ∈ zs := by
     rw [List.getD_eq_getElem?_getD, List.getElem?_eq_getElem (by omega)]
     exact List.getElem_mem _
    have h := hwf _ hmem
    have h' : IntKind.u8.min ≤ zs.getD i 0 ∧ zs.getD i 0 ≤ IntKind.u8.max := by simpa [Lit.wf] using h
    have h1 : (0 : Int) ≤ zs.getD i 0 := h'.1
    have h2 : zs.getD i 0 ≤ 255 := h'.2
    exact ⟨(zs.getD i 0).toNat, by omega, by omega⟩
   have hbs : ∀ i, i < len → (ws .u8 ((zs.take len).map Int.toNat))[i]? = some (.int .u8 (zs.getD i 0)) := by
    intro i hi
    obtain ⟨x, hx, _⟩ := hz i (by omega)
    have e1 : zs[i]? = some (zs.getD i 0) := by rw [List.getD_eq_getElem?_getD, List.getElem?_eq_getElem (by omega)]; rfl
    simp only [ws, List.getElem?_map, List.getElem?_take_of_lt hi, e1, Option.map_some, hx]
    simp
   refine ⟨(zs.take len).map Int.toNat, .sl n 0 len cap none 1, some (ws .u8 ((zs.take len).map Int.toNat)), (ab, ao), ?_, ?_, fun ι hι => ?_, fun cs h => ?_, fun H hn => ⟨hn, by simpa using hlc, (fun h => by cases h)⟩, ?_, fun H hH => ?_⟩
   ·rw [hlen]
    unfold maxLen at hcm
    omega
   ·intro x hx
    obtain ⟨y, hy, rfl⟩ := List.mem_map.1 hx
    obtain ⟨i, hi, hiy⟩ := List.getElem_of_mem hy
    rw [List.length_take] at hi
    obtain ⟨x, hx, hx2⟩ := hz i (by omega)
    have : zs.getD i 0 = y := by
     rw [List.getD_eq_getElem?_getD, List.getElem?_eq_getElem (by omega)]
     simpa using hiy
    omega
   ·simp [cv, hι]
   ·cases h
    refine ⟨rfl, fun ι base hι => ?_⟩
    have hall' : ∀ i, i < zs.length → W.cell? ⟨ab, ao + i, none⟩ = some (.int .u8 (zs.getD i 0)) := fun i hi => by
     have := hall i hi
     unfold Addr.add at this
     split at this
     ·rename_i h0; subst h0; exact this
     ·exact this
    refine ⟨c, el, fz.1, fz.2, by rw [hι]; exact hb, ?_, fun j u hu => ?_, (fun h => by cases h)⟩
    ·rw [hι, ws_len, hlen]
     have : W.cell? ⟨ab, ao + (len - 1), none⟩ = _ := hall' (len - 1) (by omega)
     obtain ⟨c', el', fz', hb', hc'⟩ := cell_inv' (b := ab) (o := ao + (len - 1)) this
     rw [hb] at hb'
     cases hb'
     have := (Array.getElem?_eq_some_iff.1 hc').1
     simp only
     omega
    ·have hj : j < len := by
      have := (List.getElem?_eq_some_iff.1 hu).1
      rw [ws_len, hlen] at this
      exact this
     rw [hbs j hj] at hu
     cases hu
     have : W.cell? ⟨ab, ao + j, none⟩ = _ := hall' j (by omega)
     obtain ⟨c', el', fz', hb', hc'⟩ := cell_inv' (b := ab) (o := ao + j) this
     rw [hb] at hb'
     cases hb'
     rw [hι]
     exact hc'
   ·show within len cap none = true
    rw [within_iff]; exact .inl hlc
   ·refine ⟨.inr ⟨n, 0, cap, none, _, by rw [hlen], hH _ rfl, ?_, by rw [ws_len, Nat.mul_one]⟩, ⟨_, hH _ rfl⟩⟩
    rw [List.drop_zero, Nat.mul_one]
    exact (List.take_of_length_le (by rw [ws_len]; exact Nat.le_refl _)).symm
end Go.Am

namespace Go.Am.X
open Go Go.ChangeShapes Go.WideShapes Go.RowKit
theorem open_reply {P : Program} {W : World} {X : Type} {enc : TypeId × Value → X} {t e eb : TypeId} {f0 f1 f2 g0 g1 : Field} (ht : P.underlying t = some (.struct #[f0, f1, f2])) (ct : P.cellsOf t = 3) (ctt : P.cellTypes P.depth t = some [f0.type, f1.type, f2.type])
  (a0 : f0.offset = 0) (a1 : f1.offset = 1) (a2 : f2.offset = 2) (b0 : P.cellsOf f0.type = 1) (b1 : P.cellsOf f1.type = 1) (b2 : P.cellsOf f2.type = 1) (u0 : P.underlying f0.type = some (.int .i64)) (u1 : P.underlying f1.type = some (.slice e)) (u2 : P.underlying f2.type = some (.slice eb))
  (he : P.underlying e = some (.struct #[g0, g1])) (ce : P.cellsOf e = 2) (o0 : g0.offset = 0) (o1 : g1.offset = 1) (c0 : P.cellsOf g0.type = 1) (c1 : P.cellsOf g1.type = 1) (s0 : P.underlying g0.type = some .string) (s1 : P.underlying g1.type = some .string)
  (heb : P.underlying eb = some (.int .u8)) (ceb : P.cellsOf eb = 1)
  {v : Value} {d : DataW X} {p : List MemPlace} {base : Nat} (hval : Value.okWide P W .any base t v) (hd : DataW.Trod enc P W 0 (fun _ => true) true t v d p) (hwt : ∀ x ∈ d.weights P t, x ≤ reachBytes) (n m : Nat) :
  ∃ (st : Int) (hs : List (Bs × Bs)) (la : List Nat) (w1 w2 : V) (ent1 ent2 : Option (List V)) (addr1 addr2 : Nat × Nat), hs.length ≤ 9223372036854775807 ∧
   (∀ ι : Inj, ι n = addr1 → ι m = addr2 → cv ι (.agg [.int .i64 st, w1, w2]) = v) ∧
   (∀ cs, ent1 = some cs → cs = hcells hs ∧ ∀ (ι : Inj) base, ι n = addr1 → BOk ι base W n cs cs.length false) ∧
   (∀ cs, ent2 = some cs → cs = ws .u8 la ∧ ∀ (ι : Inj) base, ι m = addr2 → BOk ι base W m cs cs.length false) ∧
   (∀ H : Heap, n < H.size → m < H.size → VOk H (.agg [.int .i64 st, w1, w2])) ∧ Roomy w2 ∧
   (∀ H : Heap, (∀ cs, ent1 = some cs → H.cells? n = some cs) → Rd H 2 w1 hs.length (hcells hs) ∧ Src H w1) ∧
   (∀ H : Heap, (∀ cs, ent2 = some cs → H.cells? m = some cs) → Rd H 1 w2 la.length (ws .u8 la) ∧ Src H w2) := by
 unfold Value.okWide at hval
 rw [ht] at hval
 obtain ⟨cs, rfl, hsz, ts, hts, _, hall⟩ := hval
 rw [ctt] at hts
 cases hts
 obtain ⟨fuel, hf⟩ := hd
 obtain ⟨y0, y1, y2, n', hx, hl, t0, t1, t2⟩ := Deep.trod_struct3 ht hf
 have hl3 : cs.toList.length = 3 := by rw [Array.length_toList]; omega
 obtain ⟨x0, x1, x2, hcs⟩ : ∃ x0 x1 x2, cs.toList = [x0, x1, x2] := by
  match h : cs.toList, hl3 with
  | [x0, x1, x2], _ => exact ⟨x0, x1, x2, rfl⟩
 have hcs' : cs = #[x0, x1, x2] := by rw [← Array.toArray_toList (xs := cs), hcs]
 subst hcs'
 have e0 : (Value.agg #[x0, x1, x2]).cells.toList = [x0, x1, x2] := rfl
 rw [e0, a0, b0] at t0
 rw [e0, a1, b1] at t1
 rw [e0, a2, b2] at t2
 replace t0 : DataW.trod enc P W 0 (fun _ => true) true n' f0.type [x0] = some y0 := t0
 replace t1 : DataW.trod enc P W 0 (fun _ => true) true n' f1.type [x1] = some y1 := t1
 replace t2 : DataW.trod enc P W 0 (fun _ => true) true n' f2.type [x2] = some y2 := t2
 have v0 : Value.okWide P W .any base f0.type x0 := by
  obtain ⟨u, h1, h2⟩ := hall 0 x0 rfl
  cases h1
  unfold Value.okWide; rw [u0]; exact h2
 have v1 : Value.okWide P W .any base f1.type x1 := by
  obtain ⟨u, h1, h2⟩ := hall 1 x1 rfl
  cases h1
  unfold Value.okWide; rw [u1]; exact h2
 have v2 : Value.okWide P W .any base f2.type x2 := by
  obtain ⟨u, h1, h2⟩ := hall 2 x2 rfl
  cases h1
  unfold Value.okWide; rw [u2]; exact h2
 have q1 : x1.cells.toList = [x1] := by
  have h := v1
  unfold Value.okWide at h
  rw [u1] at h
  unfold Cell.okWide at h
  rw [u1] at h
  cases x1 <;> first | rfl | (unfold Cell.ok at h; rw [u1] at h; exact h.elim)
 have q2 : x2.cells.toList = [x2] := by
  have h := v2
  unfold Value.okWide at h
  rw [u2] at h
  unfold Cell.okWide at h
  rw [u2] at h
  cases x2 <;> first | rfl | (unfold Cell.ok at h; rw [u2] at h; exact h.elim)
 obtain ⟨st, rfl⟩ := okWide_int u0 v0
 have hdd : d = .agg [y0.1, y1.1, y2.1] := congrArg Prod.fst hx
 have hw1 : ∀ x ∈ y1.1.weights P f1.type, x ≤ reachBytes := fun x hxm => hwt x (by
  rw [hdd]
  simp only [DataW.weights, ht]
  exact DataW.weights_mem_each (j := 1) (t := f1.type) (d := y1.1) rfl rfl x hxm)
 obtain ⟨hs, w1, ent1, addr1, i1, i2, i3, i4, i5, i6⟩ := open_headersZ u1 he ce o0 o1 c0 c1 s0 s1 v1 (d := y1.1) (p := y1.2) ⟨n', by rw [q1]; exact t1⟩ hw1 n
 obtain ⟨la, w2, ent2, addr2, j1, j2, j3, j4, j5, j6, j7⟩ := open_bytes u2 heb ceb v2 (d := y2.1) (p := y2.2) ⟨n', by rw [q2]; exact t2⟩ m
 refine ⟨st, hs, la, w1, w2, ent1, ent2, addr1, addr2, i1, fun ι h1 h2 => ?_, i4, j4, fun H h1 h2 => ?_, j6, i6, j7⟩
 ·show Value.agg #[.int .i64 st, cv ι w1, cv ι w2] = _
  rw [i3 ι h1, j3 ι h2]
 ·exact ⟨trivial, i5 H h1, j5 H h2, trivial⟩
end Go.Am.X

namespace Go.Am.X
end Go.Am.X

namespace Go.Am.X
end Go.Am.X

namespace Go.Am.X
def SplitOk (c : CallK) (name : Bs) (hs : List (Bs × Bs)) : Prop := ∀ (v : V) (H : Heap), WF H → Rd H 2 v hs.length (hcells hs) → ∀ τ,
  ∃ v' H' τ', Own H' H.size 1 v' (splitT name hs).length ((splitT name hs).map V.str) ∧ (splitT name hs).length ≤ 4294967296 ∧ Gr H.size H H' ∧ ∀ q, c f_headers_Split [v, .str name] H τ q = q (.tup [v', .bool (decide (0 < (sel name hs).length))]) H' τ'
abbrev GetOk' (c : CallK) (name : Bs) (hs : List (Bs × Bs)) : Prop := ∀ (v : V) (H : Heap), WF H → Rd H 2 v hs.length (hcells hs) → ∀ τ,
  ∃ H' τ', Gr H.size H H' ∧ ∀ q, c f_headers_Get [v, .str name] H τ q = q (.tup [.str (getT name hs), .bool (decide (0 < (sel name hs).length))]) H' τ'
abbrev C (N d : Nat) : CallK := callK (tabOf tabE N) d
theorem C_nat (N d : Nat) : CallNat (C N d) := tab_nat N d
section
variable {N : Nat} (hN : 9223372036854775807 < N)
include hN
theorem d_asciiSet_contains (d : Nat) (cut : Bs) {id : Nat} {H : Heap} (hc : H.cells? id = some (mark (repl 256 [.bool false]) cut)) (x : UInt8) (τ : Tape) (q : KV) : C N (d + 1) f_asciiSet_contains [.ptr id 0, .int .u8 (x.toNat : Int)] H τ q = q (.bool (cut.contains x)) H τ := by
 have hr : (repl 256 [V.bool false]).length = 256 := by rw [repl_length]; rfl
 have hg : ∀ i, i < 256 → (repl 256 [V.bool false])[i]? = some (.bool false) := fun i hi => by
  rw [repl_one, List.getElem?_replicate, if_pos hi]
 have := mark_get cut (repl 256 [V.bool false]) x hr (fun i hi => ⟨false, hg i hi⟩) false (hg _ (u8_lt x))
 exact s81_eval (C N d) N hc (by simpa using this) τ q
theorem d_strings_trimLeftASCII (d : Nat) (hd : 2 ≤ d) (cut s : Bs) (id : Nat) (H : Heap) (hs : s.length < 9223372036854775807) (hc : H.cells? id = some (mark (repl 256 [.bool false]) cut)) (τ : Tape) (q : KV) : C N d f_strings_trimLeftASCII [.str s, .ptr id 0] H τ q = q (.str (s.dropWhile cut.contains)) H τ := by
 obtain ⟨d, rfl⟩ : ∃ e, d = e + 1 + 1 := ⟨d - 2, by omega⟩
 show s_strings_trimLeftASCII (C N (d + 1)) N (.str s) (.ptr id 0) H τ q = _
 simp only [s_strings_trimLeftASCII]
 rw [trimL_loop (C N (d + 1)) N cut.contains (fun x τ q => d_asciiSet_contains hN d cut hc x τ q) _ s N _ τ (by omega) (by simp [T.get_set]) (by simp [T.get_set])]
 simp only [blockK, Nat.beq_refl, cond_true, seqK, s_strings_trimLeftASCII_j0, getK_set, ↓reduceIte]
theorem d_strings_trimRightASCII (d : Nat) (hd : 2 ≤ d) (cut s : Bs) (id : Nat) (H : Heap) (hs : s.length < 9223372036854775807) (hc : H.cells? id = some (mark (repl 256 [.bool false]) cut)) (τ : Tape) (q : KV) : C N d f_strings_trimRightASCII [.str s, .ptr id 0] H τ q = q (.str (s.reverse.dropWhile cut.contains).reverse) H τ := by
 obtain ⟨d, rfl⟩ : ∃ e, d = e + 1 + 1 := ⟨d - 2, by omega⟩
 show s_strings_trimRightASCII (C N (d + 1)) N (.str s) (.ptr id 0) H τ q = _
 simp only [s_strings_trimRightASCII]
 rw [trimR_loop (C N (d + 1)) N cut.contains (fun x τ q => d_asciiSet_contains hN d cut hc x τ q) _ s.reverse N _ τ (by simpa using hs) (by simp; omega) (by simp [T.get_set]) (by simp [T.get_set])]
 simp only [blockK, Nat.beq_refl, cond_true, seqK, s_strings_trimRightASCII_j0, getK_set, ↓reduceIte]
theorem d_strings_Trim (d : Nat) (hd : 3 ≤ d) (cut : Bs) (h2 : 2 ≤ cut.length) (h3 : cut.length < 9223372036854775807) (ha : ∀ x ∈ cut, x.toNat < 128) : TrimOk (C N d) cut := by
 intro s hs H hw τ q
 obtain ⟨d, rfl⟩ : ∃ e, d = e + 1 := ⟨d - 1, by omega⟩
 refine s_strings_Trim_ret (C N d) N (Nat.le_of_lt hN) cut s h2 h3 hs H hw (fun H hw τ q => ?_) (fun s id H hs hc τ q => d_strings_trimLeftASCII hN d (by omega) cut s id H hs hc τ q) (fun s id H hs hc τ q => d_strings_trimRightASCII hN d (by omega) cut s id H hs hc τ q) τ q
 obtain ⟨d, rfl⟩ : ∃ e, d = e + 1 := ⟨d - 1, by omega⟩
 exact s_strings_makeASCIISet_ret (C N d) N (Nat.le_of_lt hN) cut ha h3 H hw τ q
theorem d_strings_Trima (d : Nat) (hd : 3 ≤ d) : TrimOk (C N d) [9, 32] := d_strings_Trim hN d hd _ (by decide) (by decide) (by decide)
theorem d_infra_Lower (d : Nat) (hd : 3 ≤ d) : LowOk (C N d) := by
 intro s hs H hw τ q
 obtain ⟨d, rfl⟩ : ∃ e, d = e + 1 + 1 + 1 := ⟨d - 3, by omega⟩
 obtain ⟨H', τ', k1, k2⟩ := s_infra_mapped_ret (C N (d + 1)) N (Nat.le_of_lt hN) s hs H hw (fun x H τ q => s69_eval (C N d) N x H τ q) τ (fun v0 H1 τ2 => q v0 H1 τ2)
 exact ⟨H', τ', k1, k2⟩
theorem d_headers_is (d : Nat) (hd : 4 ≤ d) (name : Bs) (hm : name.length ≤ 140737488355328) (n v : Bs) (hn : n.length ≤ 140737488355328) (H : Heap) (hw : WF H) (τ : Tape) (q : KV) : ∃ H' τ', Gr H.size H H' ∧ C N d f_headers_is [.agg [.str n, .str v], .str name] H τ q = q (.bool (lower n == lower name)) H' τ' := by
 obtain ⟨d, rfl⟩ : ∃ e, d = e + 1 := ⟨d - 1, by omega⟩
 exact s_headers_is_ret (C N d) N (d_infra_Lower hN d (by omega)) n v name hn hm H hw τ q
end
structure Small (hs : List (Bs × Bs)) : Prop where
 len : hs.length ≤ 1000
 all : ∀ h ∈ hs, h.1.length ≤ 10000 ∧ h.2.length ≤ 10000
section
variable {N : Nat} (hN : 9223372036854775807 < N)
include hN
omit hN in
theorem joinT_length (sep : Bs) (M : Nat) : ∀ (l : List Bs), (∀ x ∈ l, x.length ≤ M) → (joinT sep l).length ≤ l.length * (M + sep.length) := by
 intro l
 induction l with
 | nil => intro _; simp [joinT]
 | cons x l ih =>
  intro h
  have h1 := h x (by simp)
  have h2 := ih (fun y hy => h y (by simp [hy]))
  simp only [joinT, List.length_append, List.length_cons, Nat.succ_mul]
  omega
omit hN in
theorem joinB_length (sep : Bs) (M : Nat) (l : List Bs) (h : ∀ x ∈ l, x.length ≤ M) : (joinB sep l).length ≤ l.length * (M + sep.length) := by
 cases l with
 | nil => simp [joinB]
 | cons x l =>
  have h1 := h x (by simp)
  have h2 := joinT_length sep M l (fun y hy => h y (by simp [hy]))
  simp only [joinB, List.length_append, List.length_cons, Nat.succ_mul]
  omega
omit hN in
theorem getT_small {hs : List (Bs × Bs)} (h : Small hs) (name : Bs) : (getT name hs).length ≤ 10002000 := by
 have h1 : (sel name hs).length ≤ 1000 := by
  have := h.len
  simp only [sel, List.length_map]
  have := List.length_filter_le (fun h : Bs × Bs => lower h.1 == lower name) hs
  omega
 have h2 := joinB_length [44, 32] 10000 (sel name hs) (fun x hx => by
  simp only [sel, List.mem_map, List.mem_filter] at hx
  obtain ⟨y, ⟨hy, _⟩, rfl⟩ := hx
  exact (h.all y hy).2)
 have h3 : (sel name hs).length * (10000 + ([44, 32] : Bs).length) ≤ 1000 * 10002 := Nat.mul_le_mul h1 (by simp)
 unfold getT
 omega
theorem d_headers_Get (d : Nat) (hd : 5 ≤ d) (name : Bs) (hm : name.length ≤ 140737488355328) {hs : List (Bs × Bs)} (h : Small hs) : GetOk (C N d) name hs := by
 intro v H hw hr τ q
 obtain ⟨d, rfl⟩ : ∃ e, d = e + 1 := ⟨d - 1, by omega⟩
 obtain ⟨d, rfl⟩ : ∃ e, d = e + 1 := ⟨d - 1, by omega⟩
 exact s_headers_Get_ret (C N (d + 1)) N (Nat.le_of_lt hN) name hm hs (by have := h.len; omega) (fun x hx => by have := (h.all x hx).1; omega) (by have := getT_small h name; omega) (fun _ _ _ _ => rfl)
  (fun n v hn H hw τ q => d_headers_is hN (d + 1) (by omega) name hm n v hn H hw τ q) v H hw hr τ q
theorem d20' (d : Nat) (hd : 5 ≤ d) (name : Bs) (hm : name.length ≤ 140737488355328) {hs : List (Bs × Bs)} (h : Small hs) : GetOk' (C N d) name hs := by
 intro v H hw hr τ
 obtain ⟨H', τ', k1, k2⟩ := d_headers_Get hN d hd name hm h v H hw hr τ retK
 exact ⟨H', τ', k1, fun q => (C_nat N d).mk k2 q⟩
theorem d_headers_Split (d : Nat) (hd : 6 ≤ d) (name : Bs) (hm : name.length ≤ 140737488355328) {hs : List (Bs × Bs)} (h : Small hs) : SplitOk (C N d) name hs := by
 intro v H hw hr τ
 obtain ⟨d, rfl⟩ : ∃ e, d = e + 1 := ⟨d - 1, by omega⟩
 obtain ⟨v', H', τ', k1, k2, k3, k4⟩ := s_headers_Split_ret (C N d) N (Nat.le_of_lt hN) name hs (by have := getT_small h name; omega) (d_headers_Get hN d (by omega) name hm h) (d_strings_Trima hN d (by omega)) v H hw hr τ retK
 exact ⟨v', H', τ', k1, k2, k3, fun q => (C_nat N (d + 1)).mk (f := f_headers_Split) (vs := [v, .str name]) k4 q⟩
end
end Go.Am.X

namespace Go.Am.X
theorem idxB_none (x : Nat) : ∀ (l : Bs) (i : Nat), (∀ y ∈ l, y.toNat ≠ x) → idxB x l i = -1 := by
 intro l
 induction l with
 | nil => intro i _; rfl
 | cons y l ih =>
  intro i h
  have e : Nat.beq y.toNat x = false := by
   cases hb : Nat.beq y.toNat x with
   | false => rfl
   | true => exact absurd (Nat.eq_of_beq_eq_true hb) (h y (by simp))
  simp only [idxB, e, cond_false]
  exact ih _ (fun z hz => h z (by simp [hz]))
theorem idxB_some (x : Nat) : ∀ (l : Bs) (i : Nat), (∃ y ∈ l, y.toNat = x) → 0 ≤ idxB x l i := by
 intro l
 induction l with
 | nil => intro i ⟨y, h, _⟩; simp at h
 | cons y l ih =>
  intro i h
  simp only [idxB, forceN_eq]
  cases hb : Nat.beq y.toNat x with
  | true => exact Int.natCast_nonneg _
  | false =>
   rw [cond_false]
   refine ih _ ?_
   obtain ⟨z, hz, e⟩ := h
   rcases List.mem_cons.1 hz with rfl | hz
   ·rw [e] at hb
    rw [Nat.beq_refl] at hb; cases hb
   ·exact ⟨z, hz, e⟩
abbrev Idx70 (c : CallK) : Prop := ∀ (s : Bs) (x : UInt8) H τ q, c f_strings_IndexByte [.str s, .int .u8 (x.toNat : Int)] H τ q = q (.int .i64 (idxB x.toNat s 0)) H τ
theorem s_strings_IndexByte_ret (c : CallK) (N : Nat) (h86 : ∀ (s : Bs) (x : UInt8) H τ q, c f_stringslite_IndexByte [.str s, .int .u8 (x.toNat : Int)] H τ q = q (.int .i64 (idxB x.toNat s 0)) H τ) (s : Bs) (x : UInt8) (H : Heap) (τ : Tape) (q : KV) :
  s_strings_IndexByte c N (.str s) (.int .u8 (x.toNat : Int)) H τ q = q (.int .i64 (idxB x.toNat s 0)) H τ := by
 simp only [s_strings_IndexByte, h86]
end Go.Am.X

namespace Go.Am.X
def tok (x : UInt8) : Bool := (decide (97 ≤ x.toNat) && decide (x.toNat ≤ 122)) || (decide (65 ≤ x.toNat) && decide (x.toNat ≤ 90)) || (decide (48 ≤ x.toNat) && decide (x.toNat ≤ 57)) || ([33, 35, 36, 37, 38, 39, 42, 43, 45, 46, 94, 95, 96, 124, 126] : Bs).contains x
def tokT (s : Bs) : Bool := s.all tok && !s.isEmpty
theorem l_infra_Token (c : CallK) (N : Nat) (h70 : Idx70 c) (s : Bs) (hs : s.length < 9223372036854775807) (H : Heap) (q : KV) : ∀ (l pre : Bs) (fr : T V) (τ : Tape) (m : Nat), s = pre ++ l → l.length < m → fr.get 0 = some (.str s) → fr.get 7 = some (.int .i64 (s.length : Int)) → fr.get 8 = some (.int .i64 (pre.length : Int)) →
  loopK (s_infra_Token_l1 c N) m ⟨fr, H⟩ τ (blockK 0 (seqK (s_infra_Token_j0 c N q) (endK [(.t 2)] q))) = q (.bool (l.all tok && !s.isEmpty)) H τ := by
 intro l
 induction l with
 | nil =>
  intro pre fr τ m he hm f0 f7 f8
  obtain ⟨m, rfl⟩ : ∃ j, m = j + 1 := ⟨m - 1, by omega⟩
  have e1 : decide ((pre.length : Int) < (s.length : Int)) = false := decide_eq_false (by rw [he]; simp)
  have e2 : (s != ([] : Bs)) = !s.isEmpty := by cases s <;> rfl
  rw [loopK_succ]
  simp only [s_infra_Token_l1, getK_mk f0, getK_mk f7, getK_mk f8, bin_lss, e1, condK_fn, seqK, blockK, Nat.beq_refl, cond_true, s_infra_Token_j0, getK_set, ↓reduceIte, bin_str, str_neq, someK_n, e2, List.all_nil, Bool.true_and]
 | cons x l ih =>
  intro pre fr τ m he hm f0 f7 f8
  obtain ⟨m, rfl⟩ : ∃ j, m = j + 1 := ⟨m - 1, by omega⟩
  have hl : pre.length < s.length := by rw [he]; simp
  have e1 : decide ((pre.length : Int) < (s.length : Int)) = true := decide_eq_true (by omega)
  have e2 : pStrIndex [.str s, .int .i64 (pre.length : Int)] = some (.int .u8 (x.toNat : Int)) := strIndex_mk (by rw [he]; simp)
  have e3 : wr .i64 ((pre.length : Int) + Int.ofNat 1) = ((pre ++ [x]).length : Int) := by
   rw [wr_id (by simp; omega) (by simp; omega)]; simp
  have yes : tok x = true → loopK (s_infra_Token_l1 c N) m ⟨(T.set (T.set (T.set (T.set (T.set .leaf 0 (.str s)) 7 (.int .i64 (s.length : Int))) 8 (.int .i64 (pre.length : Int))) 43 (.int .i64 ((pre ++ [x]).length : Int))) 8 (.int .i64 ((pre ++ [x]).length : Int))), H⟩ τ (blockK 0 (seqK (s_infra_Token_j0 c N q) (endK [(.t 2)] q))) = q (.bool ((x :: l).all tok && !s.isEmpty)) H τ := by
   intro ht
   rw [ih (pre ++ [x]) _ τ m (by rw [he]; simp) (by simp at hm; omega) (by simp [T.get_set]) (by simp [T.get_set]) (by simp [T.get_set]), List.all_cons, ht, Bool.true_and]
  rw [loopK_succ]
  have d1 : decide (Int.ofNat 97 ≤ (x.toNat : Int)) = decide (97 ≤ x.toNat) := by rw [decide_eq_decide]; simp; omega
  have d2 : decide ((x.toNat : Int) ≤ Int.ofNat 122) = decide (x.toNat ≤ 122) := by rw [decide_eq_decide]; simp; omega
  have d3 : decide (Int.ofNat 65 ≤ (x.toNat : Int)) = decide (65 ≤ x.toNat) := by rw [decide_eq_decide]; simp; omega
  have d4 : decide ((x.toNat : Int) ≤ Int.ofNat 90) = decide (x.toNat ≤ 90) := by rw [decide_eq_decide]; simp; omega
  have d5 : decide (Int.ofNat 48 ≤ (x.toNat : Int)) = decide (48 ≤ x.toNat) := by rw [decide_eq_decide]; simp; omega
  have d6 : decide ((x.toNat : Int) ≤ Int.ofNat 57) = decide (x.toNat ≤ 57) := by rw [decide_eq_decide]; simp; omega
  have step : ∀ (a1 a2 a3 a4 a5 a6 : Bool) (ix : Int), decide (97 ≤ x.toNat) = a1 → decide (x.toNat ≤ 122) = a2 → decide (65 ≤ x.toNat) = a3 → decide (x.toNat ≤ 90) = a4 → decide (48 ≤ x.toNat) = a5 → decide (x.toNat ≤ 57) = a6 → idxB x.toNat (bs [33, 35, 36, 37, 38, 39, 42, 43, 45, 46, 94, 95, 96, 124, 126]) 0 = ix →
    s_infra_Token_l1 c N ⟨fr, H⟩ τ (seqK (fun st τ => loopK (s_infra_Token_l1 c N) m st τ (blockK 0 (seqK (s_infra_Token_j0 c N q) (endK [(.t 2)] q)))) (blockK 0 (seqK (s_infra_Token_j0 c N q) (endK [(.t 2)] q)))) =
    bif ((a1 && a2) || (a3 && a4) || (a5 && a6)) || decide (0 ≤ ix) then loopK (s_infra_Token_l1 c N) m ⟨(T.set (T.set (T.set (T.set (T.set .leaf 0 (.str s)) 7 (.int .i64 (s.length : Int))) 8 (.int .i64 (pre.length : Int))) 43 (.int .i64 ((pre ++ [x]).length : Int))) 8 (.int .i64 ((pre ++ [x]).length : Int))), H⟩ τ (blockK 0 (seqK (s_infra_Token_j0 c N q) (endK [(.t 2)] q)))
    else q (.bool false) H τ := by
   intro a1 a2 a3 a4 a5 a6 ix h1 h2 h3 h4 h5 h6 hx
   simp only [s_infra_Token_l1, getK_mk f0, getK_mk f7, getK_mk f8, bin_lss, e1, condK_tn, e2, someK_n, bin_geq, bin_leq, d1, d2, d3, d4, d5, d6, h1, h2, h3, h4, h5, h6, un_not]
   have e9 : decide (ix < Int.ofNat 0) = !decide (0 ≤ ix) := by
    by_cases h : 0 ≤ ix
    ·rw [decide_eq_true h, decide_eq_false (by simp; omega)]; rfl
    ·rw [decide_eq_false h, decide_eq_true (by simp; omega)]; rfl
   have fin : ∀ (b : Bool), gK (.bool b) true (fun q' => q' (.int .u8 (x.toNat : Int)) H τ) H τ (fun v51 H52 τ53 =>
     gK (.bool b) true (fun q' => c f_strings_IndexByte [(.str (bs [33, 35, 36, 37, 38, 39, 42, 43, 45, 46, 94, 95, 96, 124, 126])), v51] H52 τ53 q') H52 τ53 fun v54 H55 τ56 =>
     gK (.bool b) true (fun q' => binK .lss v54 (.int .i64 (.ofNat 0)) fun v => q' v H55 τ56) H55 τ56 fun v57 H58 τ59 =>
     someK (pPick [(.bool b), v57, (.bool false)]) fun v60 =>
     condK v60
      (seqK (fun st τ => loopK (s_infra_Token_l1 c N) m st τ (blockK 0 (seqK (s_infra_Token_j0 c N q) (endK [(.t 2)] q)))) (blockK 0 (seqK (s_infra_Token_j0 c N q) (endK [(.t 2)] q))) .ret ⟨(T.set .leaf 2 (.bool false)), H58⟩ τ59)
      (binK .add (.int .i64 (pre.length : Int)) (.int .i64 (.ofNat 1)) fun v61 =>
     seqK (fun st τ => loopK (s_infra_Token_l1 c N) m st τ (blockK 0 (seqK (s_infra_Token_j0 c N q) (endK [(.t 2)] q)))) (blockK 0 (seqK (s_infra_Token_j0 c N q) (endK [(.t 2)] q))) .normal ⟨(T.set (T.set (T.set (T.set (T.set .leaf 0 (.str s)) 7 (.int .i64 (s.length : Int))) 8 (.int .i64 (pre.length : Int))) 43 v61) 8 v61), H58⟩ τ59)) =
     bif (!b) || decide (0 ≤ ix) then loopK (s_infra_Token_l1 c N) m ⟨(T.set (T.set (T.set (T.set (T.set .leaf 0 (.str s)) 7 (.int .i64 (s.length : Int))) 8 (.int .i64 (pre.length : Int))) 43 (.int .i64 ((pre ++ [x]).length : Int))) 8 (.int .i64 ((pre ++ [x]).length : Int))), H⟩ τ (blockK 0 (seqK (s_infra_Token_j0 c N q) (endK [(.t 2)] q)))
     else q (.bool false) H τ := by
    intro b
    cases b with
    | false =>
     simp only [gK_skip, gK_none, pick_mk, cond_false, someK_n, condK_fn, bin_add, e3, Bool.not_false, Bool.true_or, cond_true]
     rfl
    | true =>
     simp only [gK_do, retK, effK_n, h70, hx, bin_lss, e9, pick_mk, cond_true, someK_n, Bool.not_true, Bool.false_or]
     cases decide (0 ≤ ix) with
     | true => simp only [Bool.not_true, condK_fn, bin_add, e3, cond_true]; rfl
     | false => simp only [Bool.not_false, condK_tn, cond_false]; rfl
   have fin' := fin (!((a1 && a2) || (a3 && a4) || (a5 && a6)))
   rw [Bool.not_not] at fin'
   rw [← fin']
   cases a1 <;> cases a2 <;> cases a3 <;> cases a4 <;> cases a5 <;> cases a6 <;> simp only [bin_geq, bin_leq, d1, d2, d3, d4, d5, d6, h1, h2, h3, h4, h5, h6, un_not, gK_do, gK_do', gK_skip, gK_skip', gK_none, retK, effK_n, pick_mk, cond_true, cond_false, someK_n, Bool.and_true, Bool.and_false, Bool.true_and, Bool.false_and, Bool.or_true, Bool.or_false, Bool.true_or, Bool.false_or, Bool.not_true, Bool.not_false]
  rw [step _ _ _ _ _ _ _ rfl rfl rfl rfl rfl rfl rfl]
  have hix : decide (0 ≤ idxB x.toNat (bs [33, 35, 36, 37, 38, 39, 42, 43, 45, 46, 94, 95, 96, 124, 126]) 0) = ([33, 35, 36, 37, 38, 39, 42, 43, 45, 46, 94, 95, 96, 124, 126] : Bs).contains x := by
   by_cases h : ([33, 35, 36, 37, 38, 39, 42, 43, 45, 46, 94, 95, 96, 124, 126] : Bs).contains x = true
   ·rw [h]
    exact decide_eq_true (idxB_some _ _ _ ⟨x, List.contains_iff_mem.1 h, rfl⟩)
   ·have h' : ([33, 35, 36, 37, 38, 39, 42, 43, 45, 46, 94, 95, 96, 124, 126] : Bs).contains x = false := by simpa using h
    rw [h', decide_eq_false]
    have hn : idxB x.toNat (bs [33, 35, 36, 37, 38, 39, 42, 43, 45, 46, 94, 95, 96, 124, 126]) 0 = -1 := idxB_none _ _ _ (fun y hy e => h (List.contains_iff_mem.2 (by
     have : y = x := UInt8.toNat_inj.1 e
     subst this; exact hy)))
    rw [hn]; decide
  rw [hix]
  cases ht : tok x with
  | true =>
   have : ((decide (97 ≤ x.toNat) && decide (x.toNat ≤ 122)) || (decide (65 ≤ x.toNat) && decide (x.toNat ≤ 90)) || (decide (48 ≤ x.toNat) && decide (x.toNat ≤ 57)) || ([33, 35, 36, 37, 38, 39, 42, 43, 45, 46, 94, 95, 96, 124, 126] : Bs).contains x) = true := ht
   rw [this, cond_true]
   exact yes ht
  | false =>
   have : ((decide (97 ≤ x.toNat) && decide (x.toNat ≤ 122)) || (decide (65 ≤ x.toNat) && decide (x.toNat ≤ 90)) || (decide (48 ≤ x.toNat) && decide (x.toNat ≤ 57)) || ([33, 35, 36, 37, 38, 39, 42, 43, 45, 46, 94, 95, 96, 124, 126] : Bs).contains x) = false := ht
   rw [this, cond_false, List.all_cons, ht]
   simp
theorem s_infra_Token_ret (c : CallK) (N : Nat) (hN : 9223372036854775807 ≤ N) (h70 : Idx70 c) (s : Bs) (hs : s.length < 9223372036854775807) (H : Heap) (τ : Tape) (q : KV) : s_infra_Token c N (.str s) H τ q = q (.bool (tokT s)) H τ := by
 simp only [s_infra_Token, lenS_mk, someK_n]
 exact l_infra_Token c N h70 s hs H q s [] _ τ N rfl (by omega) (by simp [T.get_set]) (by simp [T.get_set]) (by simp [T.get_set])
end Go.Am.X

namespace Go.Am.X
abbrev Hd := Bs × Bs
def hv (h : Hd) : V := .agg [.str h.1, .str h.2]
theorem hcells_drop (pre l : List Hd) : (hcells (pre ++ l)).drop (pre.length * 2) = hcells l := by
 rw [hcells_append, ← hcells_length pre, List.drop_left]
theorem hcells_at (pre : List Hd) (h : Hd) (l : List Hd) : ((hcells (pre ++ h :: l)).drop (pre.length * 2)).take 2 = [.str h.1, .str h.2] := by
 rw [hcells_drop, hcells_cons]; rfl
theorem hcells_at0 (pre : List Hd) (h : Hd) (l : List Hd) : (hcells (pre ++ h :: l))[pre.length * 2 + 0]? = some (.str h.1) := by
 rw [← List.getElem?_drop, hcells_drop, hcells_cons]; rfl
theorem hcells_at1 (pre : List Hd) (h : Hd) (l : List Hd) : (hcells (pre ++ h :: l))[pre.length * 2 + 1]? = some (.str h.2) := by
 rw [← List.getElem?_drop, hcells_drop, hcells_cons]; rfl
theorem hd_at {H : Heap} {v : V} (pre : List Hd) (h : Hd) (l : List Hd) (hr : Rd H 2 v (pre ++ h :: l).length (hcells (pre ++ h :: l))) :
  ∃ id o, pSlIdx 2 [v, .int .i64 (pre.length : Int)] = some (.ptr id o) ∧ ∀ H', Rd H' 2 v (pre ++ h :: l).length (hcells (pre ++ h :: l)) → lLoadN 2 [.ptr id o] H' = some (hv h) ∧ lLoad1 [.ptr id o] H' = some (.str h.1) ∧ lLoad1 [.ptr id (o + 1)] H' = some (.str h.2) := by
 obtain ⟨id, o, k1, k2⟩ := hr.at (by omega) (i := pre.length) (by simp)
 refine ⟨id, o, k1, fun H' h' => ?_⟩
 obtain ⟨q1, q2⟩ := k2 H' _ h'
 rw [hcells_at] at q1
 exact ⟨q1, q2 0 _ (by omega) (hcells_at0 _ _ _), q2 1 _ (by omega) (hcells_at1 _ _ _)⟩
theorem put2 {H : Heap} {B : Nat} {v : V} {hs : List Hd} {n : Nat} (h : Apd H B 2 v n (hcells hs)) (hw : WF H) (hB : B ≤ H.size) (x : Hd) (hn : n ≤ 1000000) (τ : Tape) :
  ∃ w H1 v' H' τ', eBuildSlice 1 2 [(.str []), (.str [])] [(0, 2)] [.agg [.str x.1, .str x.2]] H τ = some (w, H1, τ) ∧ eAppend 2 32 [v, w] H1 τ = some (v', H', τ') ∧ Apd H' B 2 v' (n + 1) (hcells (hs ++ [x])) ∧ Gr B H H' ∧ (∀ id cs, H.cells? id = some cs → H'.cells? id = some cs) ∧ Gr B H H1 := by
 obtain ⟨v', H', τ', r1, r2, r3, r4⟩ := h.put (bytes := 32) hw hB [.str x.1, .str x.2] rfl rfl (by omega) (by omega) τ
 refine ⟨_, _, v', H', τ', rfl, r1, ?_, r3, r4, (Gr.new hw _ _ _).weaken hB⟩
 rw [hcells_append]; exact r2
end Go.Am.X

namespace Go.Am.X
theorem Apd.weaken {H : Heap} {B C z : Nat} {v : V} {n : Nat} {cs : List V} (h : Apd H C z v n cs) (hBC : B ≤ C) : Apd H B z v n cs := by
 rcases h with (h | ⟨id, e, room, fam, ver, pl, st, fr, h1, h2, h3, h4, h5, h6, h7⟩) | ⟨h1, h2, id, h3, h4⟩
 ·exact .inl (.inl h)
 ·exact .inl (.inr ⟨id, e, room, fam, ver, pl, st, fr, h1, h2, h3, h4, Nat.le_trans hBC h5, Nat.le_trans hBC h6, h7⟩)
 ·exact .inr ⟨h1, h2, id, h3, h4.weaken hBC⟩
end Go.Am.X

namespace Go.Am.X
section
variable {N : Nat} (hN : 9223372036854775807 < N)
include hN
end
end Go.Am.X

namespace Go.Am.X
abbrev NB : Nat := 9223372036854775808
theorem nb : 9223372036854775807 < NB := by decide
theorem tab_all (f : Nat) (d : Def) (h : tabF.get f = some d) (base : Base) (w0 : World) : DefOk PG base w0 f d := defs_ok (all_ok base w0) f d h
theorem primOk_E (d f : Nat) {R : List V → Heap → Out → Prop}
  (hR : ∀ vs H o, WF H → VsOk H vs → R vs H o → ∀ τ, ∃ v H' τ', C NB d f vs H τ retK = some (v, H', τ') ∧ Gr H.size H H' ∧ o.Met H v H') : ∀ base w0, PrimOk PG base w0 f (outP R) :=
 primOk_tab mixed_ok (tab_ok NB) tab_all d f hR
def strP (M : Nat) : List V → Prop | [.str s] => s.length ≤ M | _ => False
def strG (g : Bs → V) : List V → V | [.str s] => g s | _ => .tup []
abbrev RS (M : Nat) (g : Bs → V) := RV (strP M) (strG g)
theorem primS (d f M : Nat) (g : Bs → V) (hv : ∀ s H, VOk H (g s)) (h : ∀ s : Bs, s.length ≤ M → ∀ H, WF H → ∀ τ, ∃ H' τ', Gr H.size H H' ∧ ∀ q, C NB d f [.str s] H τ q = q (g s) H' τ') : ∀ base w0, PrimOk PG base w0 f (outP (RS M g)) := by
 refine primOk_E d f ?_
 rintro vs H o hw hvs ⟨hp, rfl⟩ τ
 unfold strP at hp
 split at hp
 ·rename_i s
  obtain ⟨H', τ', g1, k1⟩ := h s hp H hw τ
  exact ⟨_, H', τ', k1 retK, g1, rfl, hv s H⟩
 ·exact hp.elim
theorem callS {c : CallK} {f M : Nat} {g : Bs → V} (hc : ∀ vs H τ q, c f vs H τ q = effK (outP (RS M g) vs H τ) q) (s : Bs) (hs : s.length ≤ M) (H : Heap) (τ : Tape) (q : KV) : c f [.str s] H τ q = q (g s) H τ := RV_call hc (vs := [.str s]) hs H τ q
abbrev LowR := RS 140737488355328 fun s => .str (lower s)
theorem p_infra_Lower : ∀ base w0, PrimOk PG base w0 f_infra_Lower (outP LowR) := primS 3 _ _ _ (fun _ _ => trivial) fun s hs H hw τ => by
 obtain ⟨H', τ', g, k⟩ := d_infra_Lower nb 3 (by omega) s hs H hw τ retK
 exact ⟨H', τ', g, fun q => (C_nat NB 3).mk k q⟩
end Go.Am.X

namespace Go.Am.X
def fewh (m : Nat) (h : Bs × Bs) : Bs × Bs := (h.1.take m, h.2.take m)
theorem s14_eval (c : CallK) (N : Nat) (s : Bs) (m : Nat) (H : Heap) (τ : Tape) (q : KV) : s_keep_Few c N (.str s) (.int .i64 (m : Int)) H τ q = q (.str (s.take m)) H τ := by
 simp only [s_keep_Few, lenS_mk, someK_mk, bin_gtr]
 by_cases h : m < s.length
 ·rw [decide_eq_true (by omega), condK_t, strSlice_hi (by omega), someK_mk]
 ·rw [decide_eq_false (by omega), condK_f, List.take_of_length_le (by omega)]
abbrev FewOk (c : CallK) : Prop := ∀ (s : Bs) (m : Nat) H τ q, c f_keep_Few [.str s, .int .i64 (m : Int)] H τ q = q (.str (s.take m)) H τ
theorem few_loop (c : CallK) (N : Nat) (h14 : FewOk c) {B id off m lo nn mm : Nat} {ex : Option Nat} {all : List V} (hs : List (Bs × Bs)) (hm : hs.length = m) (hmb : m ≤ 9223372036854775807) (hnn : nn ≤ 1000)
  (hall : (all.drop off).take (m * 2) = hcells hs) (hlen : off + m * 2 ≤ all.length) (l : List (Bs × Bs)) :
  ∀ (pre : List (Bs × Bs)) (v7 : V) (acc : List (Bs × Bs)) (n : Nat) (fr : T V) (H : Heap) (τ : Tape), WF H → B ≤ H.size → hs = pre ++ l → H.cells? id = some all → Own H B 2 v7 acc.length (hcells acc) → acc.length = pre.length → pre.length ≤ nn → l.length < n →
  fr.get 0 = some (.sl id off m lo ex 2) → fr.get 1 = some (.int .i64 (nn : Int)) → fr.get 2 = some (.int .i64 (mm : Int)) → fr.get 7 = some v7 → fr.get 8 = some (.int .i64 (pre.length : Int)) →
  ∃ v7' H' τ', Gr B H H' ∧ Own H' B 2 v7' (acc ++ (l.take (nn - pre.length)).map (fewh mm)).length (hcells (acc ++ (l.take (nn - pre.length)).map (fewh mm))) ∧ ∀ k, loopK (s_keep_FewHeaders_l1 c N) n ⟨fr, H⟩ τ k = k (.exit 0) ⟨T.set .leaf 7 v7', H'⟩ τ' := by
 induction l with
 | nil =>
  intro pre v7 acc n fr H τ hw hB he hc ho ha hp hn f0 f1 f2 f7 f8
  obtain ⟨n, rfl⟩ : ∃ j, n = j + 1 := ⟨n - 1, by simp at hn; omega⟩
  refine ⟨v7, H, τ, Gr.refl hw, by simpa using ho, fun k => ?_⟩
  have e0 : pLen [.sl id off m lo ex 2] = some (.int .i64 (m : Int)) := rfl
  have e1 : decide ((pre.length : Int) < (m : Int)) = false := decide_eq_false (by rw [← hm, he]; simp)
  rw [loopK_succ]
  simp only [s_keep_FewHeaders_l1, getK_mk f0, getK_mk f1, getK_mk f2, getK_mk f7, getK_mk f8, e0, someK_mk, bin_lss, e1, gK_skip, pick_mk, cond_false, condK_f, seqK]
 | cons h l ih =>
  intro pre v7 acc n fr H τ hw hB he hc ho ha hp hn f0 f1 f2 f7 f8
  obtain ⟨n, rfl⟩ : ∃ j, n = j + 1 := ⟨n - 1, by simp at hn; omega⟩
  have e0 : pLen [.sl id off m lo ex 2] = some (.int .i64 (m : Int)) := rfl
  have hmm : m = pre.length + (l.length + 1) := by rw [← hm, he]; simp
  have e1 : decide ((pre.length : Int) < (m : Int)) = true := decide_eq_true (by omega)
  by_cases hlt : pre.length < nn
  ·have e2 : decide ((pre.length : Int) < (nn : Int)) = true := decide_eq_true (by omega)
   have e3 : pSlIdx 2 [.sl id off m lo ex 2, .int .i64 (pre.length : Int)] = some (.ptr id (off + pre.length * 2)) := by
    have : Nat.blt pre.length m = true := by simp [Nat.blt]; omega
    simp [pSlIdx, natOf_nat, this]
   have hcell : ∀ j, j < 2 → all[off + pre.length * 2 + j]? = ([V.str h.1, V.str h.2])[j]? := by
    intro j hj
    have h1 : (hcells hs)[pre.length * 2 + j]? = ([V.str h.1, V.str h.2])[j]? := by
     rw [he, hcells_append, List.getElem?_append_right (by rw [hcells_length]; omega), hcells_length, Nat.add_sub_cancel_left, hcells_cons]
     match j, hj with
     | 0, _ => rfl
     | 1, _ => rfl
    rw [← h1, ← hall, List.getElem?_take_of_lt (by omega), List.getElem?_drop, Nat.add_assoc]
   have e4 : lLoad1 [.ptr id (off + pre.length * 2 + 0)] H = some (.str h.1) := load_cell hc (hcell 0 (by omega))
   have e5 : lLoad1 [.ptr id (off + pre.length * 2 + 1)] H = some (.str h.2) := load_cell hc (hcell 1 (by omega))
   have e6 : pBuild [(.str []), (.str [])] [(0, 1), (1, 1)] [.str (h.1.take mm), .str (h.2.take mm)] = some (.agg [.str (h.1.take mm), .str (h.2.take mm)]) := rfl
   have hG1 := Gr.new hw [V.str (h.1.take mm), V.str (h.2.take mm)] (1 * 2) false
   have ho1 := ho.gr hG1 hw (Nat.le_refl _)
   have hc1 := hG1.cells hw (Nat.le_refl _) hc
   have e7 : eBuildSlice 1 2 [(.str []), (.str [])] [(0, 2)] [.agg [.str (h.1.take mm), .str (h.2.take mm)]] H τ = some (.sl H.size 0 1 1 none 2, H.new [.str (h.1.take mm), .str (h.2.take mm)] (1 * 2) false, τ) := rfl
   obtain ⟨v28, H2, r1, r2, r3, r4⟩ := ho1.append (bytes := 32) hG1.wf (by have := hG1.size; omega) 1 [.str (h.1.take mm), .str (h.2.take mm)] (by omega) rfl rfl (by omega) (by omega) τ
   have e8 : eAppend 2 32 [v7, .sl H.size 0 1 1 none 2] (H.new [.str (h.1.take mm), .str (h.2.take mm)] (1 * 2) false) τ = some (v28, H2, τ.tail) := by
    have hl : (H.new [V.str (h.1.take mm), V.str (h.2.take mm)] (1 * 2) false).loads H.size 0 (1 * 2) = some [.str (h.1.take mm), .str (h.2.take mm)] := by
     rw [loads_cells (cells_new _ _ _ _) (by simp)]; rfl
    simp only [eAppend, srcLen, srcCells, Nat.beq_refl, cond_true, hl, r1]
   have e9 : wr .i64 ((pre.length : Int) + Int.ofNat 1) = ((pre ++ [h]).length : Int) := by
    rw [wr_id (by first | (simp; done) | (simp; omega) | omega) (by first | (simp; done) | (simp; omega) | omega)]
    simp
   have hcells : hcells acc ++ [V.str (h.1.take mm), V.str (h.2.take mm)] = hcells (acc ++ [fewh mm h]) := by
    rw [hcells_append]; rfl
   rw [hcells] at r2
   obtain ⟨v7', H', τ', q1, q2, q3⟩ := ih (pre ++ [h]) v28 (acc ++ [fewh mm h]) n (T.set (T.set (T.set (T.set (T.set (T.set (T.set (T.set .leaf 0 (.sl id off m lo ex 2)) 1 (.int .i64 (nn : Int))) 2 (.int .i64 (mm : Int))) 7 v28) 8 (.int .i64 (pre.length : Int))) 18 (.int .i64 (pre.length : Int))) 19 (.int .i64 ((pre ++ [h]).length : Int))) 8 (.int .i64 ((pre ++ [h]).length : Int))) H2 τ.tail r3.wf (by have := hG1.size; have := r3.size; omega) (by rw [he]; simp) (r4 _ _ hc1) (by simpa using r2) (by simp [ha]) (by first | (simp; done) | (simp; omega) | omega) (by simp at hn; omega) (by simp [T.get_set]) (by simp [T.get_set]) (by simp [T.get_set]) (by simp [T.get_set]) (by simp [T.get_set])
   have hq : acc ++ ((h :: l).take (nn - pre.length)).map (fewh mm) = (acc ++ [fewh mm h]) ++ (l.take (nn - (pre ++ [h]).length)).map (fewh mm) := by
    obtain ⟨j, hj⟩ : ∃ j, nn - pre.length = j + 1 := ⟨nn - pre.length - 1, by omega⟩
    rw [hj, List.take_succ_cons, show nn - (pre ++ [h]).length = j by simp; omega]
    simp
   refine ⟨v7', H', τ', (hG1.weaken hB).trans (r3.trans q1 (Nat.le_refl _)) (Nat.le_refl _), by rw [hq]; exact q2, fun k => ?_⟩
   have e10 : chkLoads [H, H, H, H.new [.str (h.1.take mm), .str (h.2.take mm)] (1 * 2) false, H2] [((.load none), [.ptr id (off + pre.length * 2 + 1)], 0, 1)] = true := by
    simp [chkLoads, evalL, lLoad, e5, chk1, same, same1, same0]
   rw [loopK_succ]
   simp only [s_keep_FewHeaders_l1, getK_mk f0, getK_mk f1, getK_mk f2, getK_mk f7, getK_mk f8, e0, someK_mk, bin_lss, e1, gK_do, retK, effK_mk, e2, pick_mk, cond_true, condK_t, e3, pFieldAddr, e4, h14, e5, e6, e7, e8, e10, bin_add, e9, seqK, q3]
  ·have e2 : decide ((pre.length : Int) < (nn : Int)) = false := decide_eq_false (by omega)
   refine ⟨v7, H, τ, Gr.refl hw, by rw [show nn - pre.length = 0 by omega]; simpa using ho, fun k => ?_⟩
   rw [loopK_succ]
   simp only [s_keep_FewHeaders_l1, getK_mk f0, getK_mk f1, getK_mk f2, getK_mk f7, getK_mk f8, e0, someK_mk, bin_lss, e1, gK_do, retK, effK_mk, e2, pick_mk, cond_true, condK_f, seqK]
def fewH (nn mm : Nat) (hs : List (Bs × Bs)) : List (Bs × Bs) := (hs.take nn).map (fewh mm)
theorem s_keep_FewHeaders_ret (c : CallK) (N : Nat) (hN : 9223372036854775807 < N) (h14 : FewOk c) (hs : List (Bs × Bs)) (hmb : hs.length ≤ 9223372036854775807) (nn mm : Nat) (hnn : nn ≤ 1000) (v : V) (H : Heap) (hw : WF H) (hr : Rd H 2 v hs.length (hcells hs)) (τ : Tape) :
  ∃ v' H' τ', Gr H.size H H' ∧ Own H' H.size 2 v' (fewH nn mm hs).length (hcells (fewH nn mm hs)) ∧ (hs = [] → v' = .nils) ∧ ∀ q, s_keep_FewHeaders c N v (.int .i64 (nn : Int)) (.int .i64 (mm : Int)) H τ q = q v' H' τ' := by
 by_cases h0 : hs = []
 ·subst h0
  refine ⟨.nils, H, τ, Gr.refl hw, by simpa [fewH, hcells] using Own.nil H H.size 2, fun _ => rfl, fun q => ?_⟩
  obtain ⟨N, rfl⟩ : ∃ j, N = j + 1 := ⟨N - 1, by omega⟩
  simp only [s_keep_FewHeaders, loopK_succ, s_keep_FewHeaders_l1, getK_set, ↓reduceIte, Nat.reduceEqDiff, rd_len hr, someK_mk]
  rw [bin_lss, show decide (Int.ofNat 0 < ((([] : List (Bs × Bs)).length : Nat) : Int)) = false from rfl]
  simp only [gK_skip, pick_mk, cond_false, someK_mk, condK_f, seqK, blockK, Nat.beq_refl, cond_true, s_keep_FewHeaders_j0, getK_set, ↓reduceIte]
 ·rcases hr with ⟨_, hz, _⟩ | ⟨id, off, lo, ex, all, rfl, hc, hall, hlen⟩
  ·exact absurd (List.length_eq_zero_iff.1 hz) h0
  ·have hpos : 0 < hs.length := List.length_pos_iff.2 h0
   have hl : off + hs.length * 2 ≤ all.length := by
    have := hlen
    rw [hall, List.length_take, List.length_drop] at this
    omega
   obtain ⟨v', H', τ', k1, k2, k3⟩ := few_loop c N h14 (B := H.size) (lo := lo) (ex := ex) (nn := nn) (mm := mm) hs rfl hmb hnn hall.symm hl hs [] .nils [] N (T.set (T.set (T.set (T.set (T.set .leaf 0 (.sl id off hs.length lo ex 2)) 1 (.int .i64 (nn : Int))) 2 (.int .i64 (mm : Int))) 7 .nils) 8 (.int .i64 0)) H τ hw (Nat.le_refl _) rfl hc (Own.nil _ _ _) rfl (by simp) (by omega) (by simp [T.get_set]) (by simp [T.get_set]) (by simp [T.get_set]) (by simp [T.get_set]) (by simp [T.get_set])
   refine ⟨v', H', τ', k1, by simpa [fewH] using k2, fun h => absurd h h0, fun q => ?_⟩
   simp only [s_keep_FewHeaders]
   rw [show (V.int IntKind.i64 (Int.ofNat 0)) = .int .i64 0 from rfl, k3]
   simp only [blockK, Nat.beq_refl, cond_true, seqK, s_keep_FewHeaders_j0, getK_set, ↓reduceIte]
end Go.Am.X

namespace Go.Am.X
def RdH (H : Heap) (v : V) (hs : List Hd) : Prop := Rd H 2 v hs.length (hcells hs) ∧ Src H v
theorem hcells_inj : ∀ {a b : List Hd}, hcells a = hcells b → a = b := by
 intro a
 induction a with
 | nil => intro b h; cases b with
  | nil => rfl
  | cons y b => rw [hcells_cons] at h; cases h
 | cons x a ih => intro b h; cases b with
  | nil => rw [hcells_cons] at h; cases h
  | cons y b =>
   rw [hcells_cons, hcells_cons] at h
   simp only [List.cons.injEq, V.str.injEq] at h
   obtain ⟨h1, h2, h3⟩ := h
   rw [ih h3]
   obtain ⟨x1, x2⟩ := x
   obtain ⟨y1, y2⟩ := y
   simp only at h1 h2
   subst h1; subst h2; rfl
theorem RdH.uniq {H : Heap} {v : V} {a b : List Hd} (h : RdH H v a) (k : RdH H v b) : a = b := hcells_inj (h.1.uniq k.1).2
theorem RdH.gr {H H' : Heap} {B : Nat} {v : V} {hs : List Hd} (h : RdH H v hs) (hg : Gr B H H') (hw : WF H) (hB : H.size ≤ B) : RdH H' v hs := ⟨h.1.gr hg hw hB, h.2.gr hg hw hB⟩
def isNil : V → Bool | .nils => true | _ => false
def RH (Pre : List Hd → List V → Prop) (g : Bool → List Hd → List V → Out) (vs : List V) (H : Heap) (o : Out) : Prop := ∃ v l hs, vs = v :: l ∧ RdH H v hs ∧ Pre hs l ∧ o = g (isNil v) hs l
theorem RH_fun (Pre : List Hd → List V → Prop) (g : Bool → List Hd → List V → Out) : Fun1 (RH Pre g) := by
 rintro vs H o o' ⟨v, l, hs, rfl, h1, _, rfl⟩ ⟨v', l', hs', e, h2, _, rfl⟩
 cases e
 rw [h1.uniq h2]
theorem RH_val {c : CallK} {f : Nat} {Pre : List Hd → List V → Prop} {g : Bool → List Hd → List V → Out} (hc : ∀ vs H τ q, c f vs H τ q = effK (outP (RH Pre g) vs H τ) q) {v : V} {l : List V} {hs : List Hd} {H : Heap} {u : V} (h : RdH H v hs) (hp : Pre hs l) (hg : g (isNil v) hs l = .val u) (τ : Tape) (q : KV) :
  c f (v :: l) H τ q = q u H τ := outK_val hc (RH_fun _ _) ⟨v, l, hs, rfl, h, hp, hg.symm⟩ τ q
def lstO (z n : Nat) (cs : List V) (mk : V → V) : Out := if n = 0 then .val (mk .nils) else .lst z n cs mk
theorem RH_lstO {c : CallK} {f : Nat} {Pre : List Hd → List V → Prop} {g : Bool → List Hd → List V → Out} (hc : ∀ vs H τ q, c f vs H τ q = effK (outP (RH Pre g) vs H τ) q) {v : V} {l : List V} {hs : List Hd} {H : Heap} {z n : Nat} {cs : List V} {mk : V → V} (h : RdH H v hs) (hp : Pre hs l) (hg : g (isNil v) hs l = lstO z n cs mk) (hw : WF H) (hlen : cs.length = n * z) (τ : Tape) :
  ∃ lv H' τ', Own H' H.size z lv n cs ∧ Gr H.size H H' ∧ ∀ q, c f (v :: l) H τ q = q (mk lv) H' τ' := outK_list hc (RH_fun _ _) ⟨v, l, hs, rfl, h, hp, hg.symm⟩ hw hlen τ
theorem Own.rdH {H : Heap} {B : Nat} {v : V} {hs : List Hd} (h : Own H B 2 v hs.length (hcells hs)) : RdH H v hs := ⟨h.rd, h.src⟩
theorem hcells_vok (H : Heap) (hs : List Hd) : VsOk H (hcells hs) := by
 induction hs with
 | nil => trivial
 | cons h l ih => rw [hcells_cons]; exact ⟨trivial, trivial, ih⟩
theorem Got.met {H H' : Heap} {z n : Nat} {v : V} {cs : List V} {mk : V → V} (h : Got H' H.size z v n cs) (h0 : n = 0 → v = .nils) (hmk : MkOk mk) (hcs : VsOk H cs) (hnil : VOk H (mk .nils)) : (lstO z n cs mk).Met H (mk v) H' := by
 unfold lstO
 by_cases hn : n = 0
 ·rw [if_pos hn, h0 hn]; exact ⟨rfl, hnil⟩
 ·rw [if_neg hn]
  rcases h with ⟨_, h, _⟩ | h
  ·exact absurd h hn
  ·exact ⟨hmk, hcs, v, rfl, h⟩
abbrev GetPre (hs : List Hd) : List V → Prop | [.str name] => Small hs ∧ name.length ≤ 140737488355328 | _ => False
end Go.Am.X

namespace Go.Am.X
end Go.Am.X

namespace Go.Am.X
end Go.Am.X

