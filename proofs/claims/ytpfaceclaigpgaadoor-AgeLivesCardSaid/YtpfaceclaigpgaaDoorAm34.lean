/-
  THE ABSTRACT MACHINE 'Am', thirty-fourth part: variables in memory.
-/
import Derived.Test.YtpfaceclaigpgaaDoorAm33
namespace Go.Am

/-- a variable's block, whose family is its own -/
def Bx (H : Heap) (id : Nat) (cs : List V) : Prop :=
  ∃ room ver pl st fr, H.blk.get id = some (.mem cs room id ver true pl st) ∧ H.fams.get id = some (fr, ver) ∧ fr ≤ ver ∧ cs.length ≤ room

/-- one block alone is turned -/
structure Only (i : Nat) (H H' : Heap) : Prop where
  wf : WF H'
  size : H'.size = H.size
  blk : ∀ id, id ≠ i → H'.blk.get id = H.blk.get id
  fams : ∀ f, f ≠ i → H'.fams.get f = H.fams.get f

theorem Only.gr {i B : Nat} {H H' : Heap} (h : Only i H H') (hB : B ≤ i) : Gr B H H' :=
  ⟨h.wf, by rw [h.size]; exact Nat.le_refl _, fun id hid => h.blk id (by omega), fun f hf => h.fams f (by omega)⟩

theorem Bx.blk {H : Heap} {id : Nat} {cs : List V} (h : Bx H id cs) : Blk H id id cs := by
  obtain ⟨room, ver, pl, st, fr, h1, h2, h3, h4⟩ := h
  exact ⟨room, id, ver, pl, st, fr, h1, h2, h3, Nat.le_refl _, Nat.le_refl _, h4⟩
theorem Bx.cells {H : Heap} {id : Nat} {cs : List V} (h : Bx H id cs) : H.cells? id = some cs := h.blk.cells
theorem Bx.lt {H : Heap} {id : Nat} {cs : List V} (h : Bx H id cs) (hw : WF H) : id < H.size := h.blk.lt hw
theorem Bx.new (H : Heap) (cells : List V) (room : Nat) (pl : Bool) (hr : cells.length ≤ room) : Bx (H.new cells room pl) H.size cells :=
  ⟨room, 0, pl, 0, 0, T.get_set_same _ _ _, T.get_set_same _ _ _, Nat.le_refl _, hr⟩
theorem Bx.gr {H H' : Heap} {C id : Nat} {cs : List V} (h : Bx H id cs) (hg : Gr C H H') (hC : id < C) : Bx H' id cs := by
  obtain ⟨room, ver, pl, st, fr, h1, h2, h3, h4⟩ := h
  exact ⟨room, ver, pl, st, fr, by rw [hg.blk id hC]; exact h1, by rw [hg.fams id hC]; exact h2, h3, h4⟩
theorem Bx.only {H H' : Heap} {i id : Nat} {cs : List V} (h : Bx H id cs) (hg : Only i H H') (hC : id ≠ i) : Bx H' id cs := by
  obtain ⟨room, ver, pl, st, fr, h1, h2, h3, h4⟩ := h
  exact ⟨room, ver, pl, st, fr, by rw [hg.blk id hC]; exact h1, by rw [hg.fams id hC]; exact h2, h3, h4⟩
theorem Own.only {H H' : Heap} {i B z : Nat} {v : V} {n : Nat} {cs : List V} (h : Own H B z v n cs) (hg : Only i H H') (hi : i < B) : Own H' B z v n cs := by
  rcases h with h | ⟨id, e, room, fam, ver, pl, st, fr, h1, h2, h3, h4, h5, h6, h7⟩
  · exact .inl h
  · exact .inr ⟨id, e, room, fam, ver, pl, st, fr, h1, by rw [hg.blk id (by omega)]; exact h2, by rw [hg.fams fam (by omega)]; exact h3, h4, h5, h6, h7⟩
theorem cells_only {H H' : Heap} {i id : Nat} {cs : List V} (hc : H.cells? id = some cs) (hg : Only i H H') (hi : id ≠ i) (hf : ∀ cs room fam ver wr pl st, H.blk.get id = some (.mem cs room fam ver wr pl st) → fam ≠ i) : H'.cells? id = some cs := by
  unfold Heap.cells? at hc ⊢
  rw [hg.blk id hi]
  split at hc
  · rename_i cs' room fam ver wr pl st hb
    rw [hg.fams fam (hf _ _ _ _ _ _ _ hb)]
    exact hc
  · cases hc

/-- a store into a variable -/
theorem Bx.eStore {H : Heap} {id : Nat} {cs : List V} (h : Bx H id cs) (hw : WF H) (off : Nat) (x : V) (n : Nat) (hn : x.cells.length = n) (hl : off + n ≤ cs.length) (hn0 : 0 < n) (hs : x.cells.all V.scal = true) (τ : Tape) :
    ∃ H', Am.eStore n [.ptr id off, x] H τ = some (.tup [], H', τ) ∧ Bx H' id (cs.take off ++ x.cells ++ cs.drop (off + n)) ∧ Only id H H' := by
  obtain ⟨room, ver, pl, st, fr, h1, h2, h3, h4⟩ := h
  have hroom : H.room? id = room := by simp only [Heap.room?, h1]
  have hov := over_in off room x.cells cs (by omega)
  obtain ⟨y, ys, hy⟩ : ∃ y ys, x.cells = y :: ys := by
    cases hx : x.cells with
    | nil => rw [hx] at hn; simp at hn; omega
    | cons y ys => exact ⟨y, ys, rfl⟩
  refine ⟨{ size := H.size, blk := H.blk.set id (.mem (cs.take off ++ x.cells ++ cs.drop (off + n)) room id ver true pl (st + 1)), fams := H.fams.set id (ver, ver) }, ?_, ?_, ?_⟩
  · have : H.stores id off x.cells = some { size := H.size, blk := H.blk.set id (.mem (cs.take off ++ x.cells ++ cs.drop (off + n)) room id ver true pl (st + 1)), fams := H.fams.set id (ver, ver) } := by
      rw [hy] at hs hov ⊢
      simp only [Heap.stores, hs, cond_true, Heap.write, h1, h2, hroom, hov]
      rw [show Nat.beq ver ver = true from Nat.beq_refl ver, show Nat.ble fr ver = true from Nat.ble_eq_true_of_le h3]
      rw [← hy, hn]
      rfl
    simp only [Am.eStore, hn, this]
    rw [show Nat.beq n n = true from Nat.beq_refl n]
    rfl
  · refine ⟨room, ver, pl, st + 1, ver, T.get_set_same _ _ _, T.get_set_same _ _ _, Nat.le_refl _, ?_⟩
    have : (cs.take off ++ x.cells ++ cs.drop (off + n)).length = cs.length := by
      simp only [List.length_append, List.length_take, List.length_drop]
      omega
    omega
  · have hid := hw.blk _ _ h1
    refine ⟨⟨?_, ?_, ?_⟩, rfl, fun i hi => ?_, fun f hf => ?_⟩
    · intro i b hb
      simp only [T.get_set] at hb ⊢
      split at hb
      · omega
      · exact hw.blk _ _ hb
    · intro f x hf
      simp only [T.get_set] at hf ⊢
      split at hf
      · omega
      · exact hw.fams _ _ hf
    · intro i c r f v' w p s hb
      simp only [T.get_set] at hb ⊢
      split at hb
      · cases hb; exact hid
      · exact hw.fam _ _ _ _ _ _ _ _ hb
    · simp only [T.get_set]; rw [if_neg (Ne.symm hi)]
    · simp only [T.get_set]; rw [if_neg (Ne.symm hf)]

/-- an element of a list -/
theorem Rd.elem1 {H : Heap} {v : V} {n : Nat} {cs : List V} (h : Rd H 1 v n cs) {i : Nat} {x : V} (hi : cs[i]? = some x) : ∃ p, pSlIdx 1 [v, .int .i64 (i : Int)] = some p ∧ lLoad1 [p] H = some x := by
  rcases h with ⟨_, rfl, rfl⟩ | ⟨id, off, lo, ex, all, rfl, h2, h3, h4⟩
  · simp at hi
  · have hlt : i < n := by have := (List.getElem?_eq_some_iff.1 hi).1; omega
    refine ⟨.ptr id (off + i), ?_, ?_⟩
    · have : Nat.blt i n = true := by simp [Nat.blt]; omega
      simp [pSlIdx, natOf_nat, this]
    · refine load_cell h2 ?_
      rw [h3, List.getElem?_take_of_lt (by omega), List.getElem?_drop] at hi
      exact hi
end Go.Am
