/-
  THE ABSTRACT MACHINE 'Am', thirty-third part: blocks of a call's own, read and written.
-/
import Derived.Test.YtpfaceclaigpgaaDoorAm32
namespace Go.Am

/-- a block of the call's own, from B on: it may be written -/
def Blk (H : Heap) (B id : Nat) (cs : List V) : Prop :=
  ∃ room fam ver pl st fr, H.blk.get id = some (.mem cs room fam ver true pl st) ∧ H.fams.get fam = some (fr, ver) ∧ fr ≤ ver ∧ B ≤ id ∧ B ≤ fam ∧ cs.length ≤ room

theorem Blk.cells {H : Heap} {B id : Nat} {cs : List V} (h : Blk H B id cs) : H.cells? id = some cs := by
  obtain ⟨room, fam, ver, pl, st, fr, h1, h2, h3, _, _⟩ := h
  simp only [Heap.cells?, h1, h2]
  rw [show Nat.ble fr ver = true from Nat.ble_eq_true_of_le h3]
  rfl

theorem Blk.new (H : Heap) (cells : List V) (room : Nat) (pl : Bool) (hr : cells.length ≤ room) : Blk (H.new cells room pl) H.size H.size cells :=
  ⟨room, H.size, 0, pl, 0, 0, T.get_set_same _ _ _, T.get_set_same _ _ _, Nat.le_refl _, Nat.le_refl _, Nat.le_refl _, hr⟩

theorem Blk.gr {H H' : Heap} {B C id : Nat} {cs : List V} (h : Blk H B id cs) (hg : Gr C H H') (hw : WF H) (hC : H.size ≤ C) : Blk H' B id cs := by
  obtain ⟨room, fam, ver, pl, st, fr, h1, h2, h3, h4, h5, h6⟩ := h
  have := hw.blk _ _ h1
  have := hw.fams _ _ h2
  exact ⟨room, fam, ver, pl, st, fr, by rw [hg.blk id (by omega)]; exact h1, by rw [hg.fams fam (by omega)]; exact h2, h3, h4, h5, h6⟩

theorem Blk.weaken {H : Heap} {B C id : Nat} {cs : List V} (h : Blk H C id cs) (hBC : B ≤ C) : Blk H B id cs := by
  obtain ⟨room, fam, ver, pl, st, fr, h1, h2, h3, h4, h5, h6⟩ := h
  exact ⟨room, fam, ver, pl, st, fr, h1, h2, h3, by omega, by omega, h6⟩

theorem Blk.lt {H : Heap} {B id : Nat} {cs : List V} (h : Blk H B id cs) (hw : WF H) : id < H.size := by
  obtain ⟨room, fam, ver, pl, st, fr, h1, _⟩ := h
  exact hw.blk _ _ h1

/-- cells laid over others, inside -/
theorem over_in : ∀ (off room : Nat) (vs cs : List V), off + vs.length ≤ cs.length → over room off vs cs = some (cs.take off ++ vs ++ cs.drop (off + vs.length)) := by
  intro off
  induction off with
  | zero =>
    intro room vs
    induction vs generalizing room with
    | nil => intro cs _; cases cs <;> simp [over]
    | cons v vs ih =>
      intro cs h
      cases cs with
      | nil => simp at h
      | cons c cs =>
        have := ih (room - 1) cs (by simp at h ⊢; omega)
        simp only [over, this]
        simp [Nat.add_comm]
  | succ off ih =>
    intro room vs cs h
    cases cs with
    | nil =>
      exfalso
      simp at h
    | cons c cs =>
      cases vs with
      | nil => simp [over]
      | cons v vs =>
        have := ih (room - 1) (v :: vs) cs (by simp at h ⊢; omega)
        simp only [over, this]
        simp only [List.take_succ_cons, List.cons_append, Option.some.injEq, List.cons.injEq, true_and]
        rw [show off + 1 + (v :: vs).length = (off + (v :: vs).length) + 1 by omega, List.drop_succ_cons]

/-- A STORE into a block of the call's own -/
theorem Blk.stores {H : Heap} {B id : Nat} {cs : List V} (h : Blk H B id cs) (hw : WF H) (off : Nat) (vs : List V) (hl : off + vs.length ≤ cs.length) (hs : vs.all V.scal = true) :
    ∃ H', H.stores id off vs = some H' ∧ Blk H' B id (cs.take off ++ vs ++ cs.drop (off + vs.length)) ∧ Gr B H H' ∧ H'.size = H.size := by
  obtain ⟨room, fam, ver, pl, st, fr, h1, h2, h3, h4, h5, h6⟩ := h
  cases vs with
  | nil => exact ⟨H, rfl, by simpa using ⟨room, fam, ver, pl, st, fr, h1, h2, h3, h4, h5, h6⟩, Gr.refl hw, rfl⟩
  | cons v vs =>
    have hroom : H.room? id = room := by simp only [Heap.room?, h1]
    have hov := over_in off room (v :: vs) cs hl
    refine ⟨{ size := H.size, blk := H.blk.set id (.mem (cs.take off ++ (v :: vs) ++ cs.drop (off + (v :: vs).length)) room fam ver true pl (st + 1)), fams := H.fams.set fam (ver, ver) }, ?_, ?_, ?_, rfl⟩
    · simp only [Heap.stores, hs, cond_true, Heap.write, h1, h2, hroom, hov]
      rw [show Nat.beq ver ver = true from Nat.beq_refl ver, show Nat.ble fr ver = true from Nat.ble_eq_true_of_le h3]
      rfl
    · refine ⟨room, fam, ver, pl, st + 1, ver, T.get_set_same _ _ _, T.get_set_same _ _ _, Nat.le_refl _, h4, h5, ?_⟩
      have : (cs.take off ++ (v :: vs) ++ cs.drop (off + (v :: vs).length)).length = cs.length := by
        simp only [List.length_append, List.length_take, List.length_drop]
        omega
      omega
    · have hid := hw.blk _ _ h1
      have hfam := hw.fams _ _ h2
      refine ⟨⟨?_, ?_, ?_⟩, Nat.le_refl _, fun i hi => ?_, fun f hf => ?_⟩
      · intro i b hb
        simp only [T.get_set] at hb ⊢
        split at hb
        · omega
        · exact hw.blk _ _ hb
      · intro f x hf
        simp only [T.get_set] at hf ⊢
        split at hf
        · omega
        · exact hw.fams _ _ hf
      · intro i c r f v' w p s hb
        simp only [T.get_set] at hb ⊢
        split at hb
        · cases hb; exact hfam
        · exact hw.fam _ _ _ _ _ _ _ _ hb
      · simp only [T.get_set]; rw [if_neg (by omega)]
      · simp only [T.get_set]; rw [if_neg (by omega)]

theorem Blk.eStore {H : Heap} {B id : Nat} {cs : List V} (h : Blk H B id cs) (hw : WF H) (off : Nat) (x : V) (n : Nat) (hn : x.cells.length = n) (hl : off + n ≤ cs.length) (hs : x.cells.all V.scal = true) (τ : Tape) :
    ∃ H', Am.eStore n [.ptr id off, x] H τ = some (.tup [], H', τ) ∧ Blk H' B id (cs.take off ++ x.cells ++ cs.drop (off + n)) ∧ Gr B H H' ∧ H'.size = H.size := by
  obtain ⟨H', h1, h2, h3, h4⟩ := h.stores hw off x.cells (by omega) hs
  refine ⟨H', ?_, by rw [← hn]; exact h2, h3, h4⟩
  simp only [Am.eStore, hn, h1]
  rw [show Nat.beq n n = true from Nat.beq_refl n]
  rfl

theorem load_cell {H : Heap} {id off : Nat} {cs : List V} {v : V} (h : H.cells? id = some cs) (hv : cs[off]? = some v) : lLoad1 [.ptr id off] H = some v := by
  simp [lLoad1, Heap.load, h, hv]
theorem load_cells {H : Heap} {id off n : Nat} {cs : List V} (h : H.cells? id = some cs) (hl : off + n ≤ cs.length) : lLoadN n [.ptr id off] H = some (.agg ((cs.drop off).take n)) := by
  simp only [lLoadN, Heap.loads, h]
  rw [takeN_all _ _ (by rw [List.length_drop]; omega)]
theorem loads_cells {H : Heap} {id off n : Nat} {cs : List V} (h : H.cells? id = some cs) (hl : off + n ≤ cs.length) : H.loads id off n = some ((cs.drop off).take n) := by
  simp only [Heap.loads, h]
  rw [takeN_all _ _ (by rw [List.length_drop]; omega)]

theorem strSlice_lo {s : List UInt8} {k : IntKind} {i : Nat} (h : i ≤ s.length) : pStrSlice true false [.str s, .int k (i : Int)] = some (.str (s.drop i)) := by
  simp only [pStrSlice, bounds3, optN, natOf_nat, strCut, Option.getD_none, Option.getD_some, Nat.ble_eq_true_of_le h, Nat.ble_eq_true_of_le (Nat.le_refl s.length), Bool.and_self, cond_true, List.take_length]
theorem strSlice_hi {s : List UInt8} {k : IntKind} {j : Nat} (h : j ≤ s.length) : pStrSlice false true [.str s, .int k (j : Int)] = some (.str (s.take j)) := by
  simp only [pStrSlice, bounds3, optN, natOf_nat, strCut, Option.getD_none, Option.getD_some, Nat.ble_eq_true_of_le h, Nat.ble_eq_true_of_le (Nat.zero_le j), Bool.and_self, cond_true, List.drop_zero]
theorem strSlice_lohi {s : List UInt8} {k k' : IntKind} {i j : Nat} (h1 : i ≤ j) (h2 : j ≤ s.length) : pStrSlice true true [.str s, .int k (i : Int), .int k' (j : Int)] = some (.str ((s.take j).drop i)) := by
  simp only [pStrSlice, bounds3, optN, natOf_nat, strCut, Option.getD_some, Nat.ble_eq_true_of_le h1, Nat.ble_eq_true_of_le h2, Bool.and_self, cond_true]

theorem getK_set (t : T V) (i : Nat) (v : V) (j : Nat) (c : V → Ans) : getK (T.set t i v) j c = if i = j then c v else getK t j c := by
  unfold getK
  rw [T.get_set]
  by_cases h : i = j
  · rw [if_pos h, if_pos h]
  · rw [if_neg h, if_neg h]
theorem repl_one (n : Nat) (v : V) : repl n [v] = List.replicate n v := by
  simp [repl]

/-- what a function answers, whatever the tape -/
def Ret (c : CallK) (f : Nat) (vs : List V) (H : Heap) (R : V → Heap → Prop) : Prop := ∀ τ q, ∃ v H' τ', R v H' ∧ c f vs H τ q = q v H' τ'
/-- it answers so, and memory stays -/
def Pur (c : CallK) (f : Nat) (vs : List V) (H : Heap) (v : V) : Prop := ∀ τ q, c f vs H τ q = q v H τ
end Go.Am
