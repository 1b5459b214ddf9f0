/- The abstract machine, printed functions of the program, and what they are shown to be. -/
import Derived.Deep.Strs
import Derived.ChangeSlices
import Derived.Test.YtlpedafppdffoaaGreatDoorCNAM3
import Derived.Test.YtlpedafppdffoaaGreatDoorCNAM4
set_option linter.unusedSimpArgs false
set_option linter.unusedVariables false
namespace Go.Am
open Go Go.ChangeShapes Go.WideShapes Go.RowKit
theorem cell_invS {w : World} {b o : Nat} {v : Value} (h : w.cell? ⟨b, o, none⟩ = some v) : ∃ c el fz, w.heap[b]? = some (.cells c el fz) ∧ c[o]? = some v := by
 unfold World.cell? at h
 split at h
 ·rename_i c el fz hh
  exact ⟨c, el, fz, hh, by simpa using h⟩
 ·cases h
theorem open_strings {P : Program} {W : World} {X : Type} {enc : TypeId × Value → X} {t e : TypeId} (ht : P.underlying t = some (.slice e)) (he : P.underlying e = some .string)
  (ce : P.cellsOf e = 1) {v : Value} {d : DataW X} {p : List MemPlace} {base : Nat} (hval : Value.okWide P W .any base t v) (hd : DataW.Trod enc P W 0 (fun _ => true) true t v d p) (n : Nat) :
  ∃ (ss : List (List UInt8)) (u : V) (ent : Option (List V)) (addr : Nat × Nat), ss.length ≤ 9223372036854775807 ∧ (∀ s ∈ ss, s.length ≤ 9223372036854775807) ∧ (∀ ι : Inj, ι n = addr → cv ι u = v) ∧
   (∀ cs, ent = some cs → cs = ss.map V.str ∧ ∀ (ι : Inj) base, ι n = addr → BOk ι base W n cs cs.length false) ∧ (∀ H : Heap, n < H.size → VOk H u) ∧
   (∀ H : Heap, (∀ cs, ent = some cs → H.cells? n = some cs) → Rd H 1 u ss.length (ss.map V.str)) := by
 obtain ⟨fuel, hf⟩ := hd
 have hv1 : Cell.ok P W .any base t v := by
  unfold Value.okWide at hval
  rw [ht] at hval
  unfold Cell.okWide at hval
  rw [ht] at hval
  exact hval
 have hcl : v.cells.toList = [v] := by
  cases v <;> first | rfl | (unfold Cell.ok at hv1; rw [ht] at hv1; exact hv1.elim)
 rw [hcl] at hf
 rcases Deep.open_strs ht he ce hf with ⟨hcs, _⟩ | ⟨a, len, cap, m, Sx, hcs, _, hlc, hcm, hm, _, hall⟩
 ·have : v = .slice none 0 0 := by simpa using hcs
  subst this
  exact ⟨[], .nils, none, (0, 0), by simp, by simp, fun _ _ => rfl, (fun cs h => by cases h), fun _ _ => trivial, fun _ _ => .inl ⟨.inl rfl, rfl, rfl⟩⟩
 ·have : v = .slice (some a) len cap := by simpa using hcs
  subst this
  have hspot : a.spot = none := by
   unfold Cell.ok at hv1
   rw [ht] at hv1
   exact hv1.2.2.2.1
  obtain ⟨ab, ao, sp⟩ := a
  simp only at hspot
  subst hspot
  have hmc : m = cap := by simpa using hm
  subst hmc
  by_cases h0 : len = 0
  ·subst h0
   refine ⟨[], .sl n 0 0 m none 1, none, (ab, ao), by simp, by simp, fun ι hι => ?_, (fun cs h => by cases h), fun H hn => ⟨hn, by simp, (fun h => by cases h)⟩, fun _ _ => .inl ⟨.inr ⟨_, _, _, _, rfl⟩, rfl, rfl⟩⟩
   simp [cv, hι]
  ·have hall' : ∀ i, i < m → W.cell? ⟨ab, ao + i, none⟩ = some (.string (Sx i)) := fun i hi => by
    rw [← add_addr]; exact (hall i hi).1
   have hlen : ((List.range len).map fun i => (Sx i).data.toList).length = len := by simp
   refine ⟨(List.range len).map fun i => (Sx i).data.toList, .sl n 0 len m none 1, some (((List.range len).map fun i => (Sx i).data.toList).map V.str), (ab, ao), ?_, ?_, fun ι hι => ?_, fun cs h => ?_, fun H hn => ⟨hn, by simpa using hlc, (fun h => by cases h)⟩, fun H hH => ?_⟩
   ·rw [hlen]
    unfold maxLen at hcm
    omega
   ·intro s hs
    obtain ⟨i, hi, rfl⟩ := List.mem_map.1 hs
    have hi := List.mem_range.1 hi
    have := (hall i (by omega)).2
    unfold maxLen at this
    show (Sx i).data.toList.length ≤ _
    rw [Array.length_toList]
    exact Nat.le_trans this (by omega)
   ·simp [cv, hι]
   ·cases h
    refine ⟨rfl, fun ι base hι => ?_⟩
    obtain ⟨c, el, fz, hb, _⟩ := cell_invS (hall' 0 (by omega))
    refine ⟨c, el, fz.1, fz.2, by rw [hι]; exact hb, ?_, fun j u hu => ?_, (fun h => by cases h)⟩
    ·rw [hι, List.length_map, hlen]
     obtain ⟨c', el', fz', hb', hc'⟩ := cell_invS (hall' (len - 1) (by omega))
     rw [hb] at hb'
     cases hb'
     have := (Array.getElem?_eq_some_iff.1 hc').1
     simp only
     omega
    ·have hj : j < len := by
      have := (List.getElem?_eq_some_iff.1 hu).1
      rw [List.length_map, hlen] at this
      exact this
     rw [List.getElem?_map, List.getElem?_map, List.getElem?_range hj] at hu
     simp only [Option.map_some, Option.some.injEq] at hu
     subst hu
     obtain ⟨c', el', fz', hb', hc'⟩ := cell_invS (hall' j (by omega))
     rw [hb] at hb'
     cases hb'
     rw [hι]
     exact hc'
   ·refine .inr ⟨n, 0, m, none, _, by rw [hlen], hH _ rfl, ?_, by rw [List.length_map, Nat.mul_one]⟩
    rw [List.drop_zero, Nat.mul_one]
    exact (List.take_of_length_le (by rw [List.length_map]; exact Nat.le_refl _)).symm
end Go.Am

