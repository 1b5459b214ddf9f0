/-
  THE ABSTRACT MACHINE 'Am', thirty-sixth part: the memory that a call finds, read forward.
-/
import Derived.Test.YtpfaceclaigpgaaDoorAm29
import Derived.Test.YtpfaceclaigpgaaDoorAm35
namespace Go.Am

theorem mkHeap_blk_old : ∀ (l : List (Option (List V))) (H : Heap) (f : Nat), f < H.size → (mkHeap l H).blk.get f = H.blk.get f := by
  intro l
  induction l with
  | nil => intro H f _; rfl
  | cons x l ih =>
    intro H f hf
    cases x with
    | none => simp only [mkHeap]; rw [ih _ f (by simp only; omega), T.get_set_ne _ _ (by omega)]
    | some cs => simp only [mkHeap]; rw [ih _ f (by simp only; omega), T.get_set_ne _ _ (by omega)]

theorem mkHeap_blk_mem : ∀ (l : List (Option (List V))) (H : Heap) (j : Nat) (cs : List V), l[j]? = some (some cs) → (mkHeap l H).blk.get (H.size + j) = some (.mem cs cs.length (H.size + j) 0 false false 0) := by
  intro l
  induction l with
  | nil => intro H j cs h; simp at h
  | cons x l ih =>
    intro H j cs h
    cases j with
    | zero =>
      simp only [List.getElem?_cons_zero, Option.some.injEq] at h
      subst h
      simp only [mkHeap]
      rw [mkHeap_blk_old _ _ _ (by simp only; omega)]
      exact T.get_set_same _ _ _
    | succ j =>
      have h' : l[j]? = some (some cs) := by simpa using h
      have e : H.size + (j + 1) = H.size + 1 + j := by omega
      rw [e]
      cases x with
      | none => exact ih { size := H.size + 1, blk := H.blk.set H.size .gone, fams := H.fams } j cs h'
      | some c => exact ih { size := H.size + 1, blk := H.blk.set H.size (.mem c c.length H.size 0 false false 0), fams := H.fams.set H.size (0, 0) } j cs h'

theorem start_cells {l : List (Option (List V))} {j : Nat} {cs : List V} (h : l[j]? = some (some cs)) : (start l).cells? j = some cs := by
  have h1 := mkHeap_blk_mem l H0 j cs h
  have h2 := mkHeap_fam_mem l H0 j cs h
  rw [show H0.size + j = j from Nat.zero_add _] at h1 h2
  simp only [Heap.cells?, start, h1, h2]
  rfl

theorem start_wf (l : List (Option (List V))) : WF (start l) := by
  refine ⟨?_, ?_, ?_⟩
  · intro id b h
    rw [start_size]
    rcases start_blk h with ⟨cs, h1, _⟩ | ⟨h1, _⟩ <;> exact (List.getElem?_eq_some_iff.1 h1).1
  · intro f x h
    rw [start_size]
    rcases mkHeap_fam l H0 f x h with h | ⟨h, _⟩
    · exact absurd h (by simp [H0, T.get])
    · simpa [H0] using h
  · intro id cs room fam ver wr pl st h
    rw [start_size]
    rcases start_blk h with ⟨cs', h1, h2⟩ | ⟨_, h2⟩
    · cases h2; exact (List.getElem?_eq_some_iff.1 h1).1
    · cases h2
end Go.Am
