/-
  THE ABSTRACT MACHINE 'Am', thirty-first part: memories that grow; lists of a call's own, appended to; lists that are read.
-/
import Derived.Test.YtpfaceclaigpgaaDoorAm28
namespace Go.Am

/-- nothing lies beyond the end -/
structure WF (H : Heap) : Prop where
  blk : ∀ id b, H.blk.get id = some b → id < H.size
  fams : ∀ f x, H.fams.get f = some x → f < H.size
  fam : ∀ id cs room fam ver wr pl st, H.blk.get id = some (.mem cs room fam ver wr pl st) → fam < H.size

/-- a memory that goes on from another: what lay below B is as it was -/
structure Gr (B : Nat) (H H' : Heap) : Prop where
  wf : WF H'
  size : H.size ≤ H'.size
  blk : ∀ id, id < B → H'.blk.get id = H.blk.get id
  fams : ∀ f, f < B → H'.fams.get f = H.fams.get f

theorem Gr.refl {B : Nat} {H : Heap} (h : WF H) : Gr B H H := ⟨h, Nat.le_refl _, fun _ _ => rfl, fun _ _ => rfl⟩
theorem Gr.trans {B C : Nat} {H H1 H2 : Heap} (h : Gr B H H1) (k : Gr C H1 H2) (hBC : B ≤ C) : Gr B H H2 :=
  ⟨k.wf, Nat.le_trans h.size k.size, fun id hid => (k.blk id (by omega)).trans (h.blk id hid), fun f hf => (k.fams f (by omega)).trans (h.fams f hf)⟩
theorem Gr.weaken {B C : Nat} {H H' : Heap} (h : Gr C H H') (hBC : B ≤ C) : Gr B H H' :=
  ⟨h.wf, h.size, fun id hid => h.blk id (by omega), fun f hf => h.fams f (by omega)⟩

theorem WF.cells_lt {H : Heap} (h : WF H) {id : Nat} {cs : List V} (hc : H.cells? id = some cs) : id < H.size := by
  unfold Heap.cells? at hc
  split at hc
  · rename_i hb; exact h.blk _ _ hb
  · cases hc

/-- what could be read below B is read so still -/
theorem Gr.cells {B : Nat} {H H' : Heap} (h : Gr B H H') (hw : WF H) (hB : H.size ≤ B) {id : Nat} {cs : List V} (hc : H.cells? id = some cs) : H'.cells? id = some cs := by
  have hlt := hw.cells_lt hc
  unfold Heap.cells? at hc ⊢
  rw [h.blk id (by omega)]
  split at hc
  · rename_i cs' room fam ver wr pl st hb
    have hf := hw.fam _ _ _ _ _ _ _ _ hb
    rw [h.fams fam (by omega)]
    exact hc
  · cases hc

theorem WF.new {H : Heap} (h : WF H) (cells : List V) (room : Nat) (pl : Bool) : WF (H.new cells room pl) := by
  refine ⟨?_, ?_, ?_⟩
  · intro id b hb
    simp only [Heap.new, T.get_set] at hb ⊢
    split at hb
    · omega
    · have := h.blk _ _ hb; omega
  · intro f x hf
    simp only [Heap.new, T.get_set] at hf ⊢
    split at hf
    · omega
    · have := h.fams _ _ hf; omega
  · intro id cs r fam ver wr p st hb
    simp only [Heap.new, T.get_set] at hb ⊢
    split at hb
    · cases hb; omega
    · have := h.fam _ _ _ _ _ _ _ _ hb; omega

theorem Gr.new {H : Heap} (h : WF H) (cells : List V) (room : Nat) (pl : Bool) : Gr H.size H (H.new cells room pl) := by
  refine ⟨h.new _ _ _, Nat.le_succ _, fun id hid => ?_, fun f hf => ?_⟩
  · simp only [Heap.new, T.get_set]; rw [if_neg (by omega)]
  · simp only [Heap.new, T.get_set]; rw [if_neg (by omega)]

theorem cells_new (H : Heap) (cells : List V) (room : Nat) (pl : Bool) : (H.new cells room pl).cells? H.size = some cells := by
  simp only [Heap.cells?, Heap.new, T.get_set_same]
  rfl

/-- a list that is read: n elements of z cells -/
def Rd (H : Heap) (z : Nat) (v : V) (n : Nat) (cs : List V) : Prop :=
  ((v = .nils ∨ ∃ id off lo ex, v = .sl id off 0 lo ex z) ∧ n = 0 ∧ cs = []) ∨ ∃ id off lo ex all, v = .sl id off n lo ex z ∧ H.cells? id = some all ∧ cs = (all.drop off).take (n * z) ∧ cs.length = n * z

theorem Rd.gr {B : Nat} {H H' : Heap} {z : Nat} {v : V} {n : Nat} {cs : List V} (h : Rd H z v n cs) (hg : Gr B H H') (hw : WF H) (hB : H.size ≤ B) : Rd H' z v n cs := by
  rcases h with h | ⟨id, off, lo, ex, all, h1, h2, h3, h4⟩
  · exact .inl h
  · exact .inr ⟨id, off, lo, ex, all, h1, hg.cells hw hB h2, h3, h4⟩

/-- a list of the call's own, its blocks from B on, that may be appended to -/
def Own (H : Heap) (B z : Nat) (v : V) (n : Nat) (cs : List V) : Prop :=
  (v = .nils ∧ n = 0 ∧ cs = []) ∨ ∃ id e room fam ver pl st fr, v = .sl id 0 n n (some e) z ∧ H.blk.get id = some (.mem cs room fam ver true pl st) ∧ H.fams.get fam = some (fr, ver) ∧ fr ≤ ver ∧ B ≤ id ∧ B ≤ fam ∧ cs.length = n * z

theorem Own.nil (H : Heap) (B z : Nat) : Own H B z .nils 0 [] := .inl ⟨rfl, rfl, rfl⟩

theorem Own.rd {H : Heap} {B z : Nat} {v : V} {n : Nat} {cs : List V} (h : Own H B z v n cs) : Rd H z v n cs := by
  rcases h with h | ⟨id, e, room, fam, ver, pl, st, fr, h1, h2, h3, h4, _, _, h7⟩
  · exact .inl ⟨.inl h.1, h.2⟩
  · refine .inr ⟨id, 0, n, some e, cs, h1, ?_, ?_, h7⟩
    · simp only [Heap.cells?, h2, h3]
      rw [show Nat.ble fr ver = true from Nat.ble_eq_true_of_le h4]
      rfl
    · simp [← h7]

theorem Own.gr {H H' : Heap} {B C z : Nat} {v : V} {n : Nat} {cs : List V} (h : Own H B z v n cs) (hg : Gr C H H') (hw : WF H) (hC : H.size ≤ C) : Own H' B z v n cs := by
  rcases h with h | ⟨id, e, room, fam, ver, pl, st, fr, h1, h2, h3, h4, h5, h6, h7⟩
  · exact .inl h
  · have := hw.blk _ _ h2
    have := hw.fams _ _ h3
    exact .inr ⟨id, e, room, fam, ver, pl, st, fr, h1, by rw [hg.blk id (by omega)]; exact h2, by rw [hg.fams fam (by omega)]; exact h3, h4, h5, h6, h7⟩

theorem takeN_all : ∀ (n : Nat) (l : List V), n ≤ l.length → takeN n l = some (l.take n) := by
  intro n
  induction n with
  | zero => intro l _; cases l <;> rfl
  | succ n ih =>
    intro l h
    cases l with
    | nil => simp at h
    | cons v l => simp only [takeN, ih l (by simpa using h)]; rfl

theorem WF.version {H : Heap} (h : WF H) (cells : List V) (room fam fr last : Nat) (hf : fam < H.size) : WF (H.version cells room fam fr last) := by
  refine ⟨?_, ?_, ?_⟩
  · intro id b hb
    simp only [Heap.version, T.get_set] at hb ⊢
    split at hb
    · omega
    · have := h.blk _ _ hb; omega
  · intro f x hf'
    simp only [Heap.version, T.get_set] at hf' ⊢
    split at hf'
    · omega
    · have := h.fams _ _ hf'; omega
  · intro id cs r fam' ver wr p st hb
    simp only [Heap.version, T.get_set] at hb ⊢
    split at hb
    · cases hb; omega
    · have := h.fam _ _ _ _ _ _ _ _ hb; omega

/-- APPEND to a list of the call's own -/
theorem Own.append {H : Heap} {B z bytes : Nat} {v : V} {m : Nat} {cs : List V} (h : Own H B z v m cs) (hw : WF H) (hB : B ≤ H.size) (n : Nat) (new : List V) (hn : 0 < n) (hl : new.length = n * z) (hs : new.all V.scal = true)
    (h1 : (m + n) * bytes ≤ 274877906944) (h2 : m + n ≤ 274877906944) (τ : Tape) :
    ∃ v' H', Am.append H z bytes v n new τ = some (v', H', τ.tail) ∧ Own H' B z v' (m + n) (cs ++ new) ∧ Gr B H H' ∧ (∀ id cs, H.cells? id = some cs → H'.cells? id = some cs) := by
  rcases h with ⟨rfl, rfl, rfl⟩ | ⟨id, e, room, fam, ver, pl, st, fr, rfl, k2, k3, k4, k5, k6, k7⟩
  · obtain ⟨k, rfl⟩ : ∃ k, n = k + 1 := ⟨n - 1, by omega⟩
    refine ⟨.sl H.size 0 (k + 1) (k + 1) (some (spare (k + 1) (τ 0))) z, H.new new ((k + 1 + spare (k + 1) (τ 0)) * z) false, ?_, ?_, (Gr.new hw _ _ _).weaken hB, ?_⟩
    · have e1 : Nat.ble ((k + 1) * bytes) 274877906944 = true := Nat.ble_eq_true_of_le (by simpa using h1)
      have e2 : Nat.ble (k + 1) 274877906944 = true := Nat.ble_eq_true_of_le (by simpa using h2)
      simp only [Am.append, e1, e2, Bool.and_self, cond_true, fresh]
    · refine .inr ⟨H.size, spare (k + 1) (τ 0), _, H.size, 0, false, 0, 0, by simp, by rw [List.nil_append]; exact T.get_set_same _ _ _, T.get_set_same _ _ _, Nat.le_refl _, hB, hB, by simpa using hl⟩
    · intro id cs hc
      exact (Gr.new hw new _ false).cells hw (Nat.le_refl _) hc
  · have hfam : fam < H.size := hw.fams _ _ k3
    have hid : id < H.size := hw.blk _ _ k2
    have hcells : H.cells? id = some cs := by
      simp only [Heap.cells?, k2, k3]
      rw [show Nat.ble fr ver = true from Nat.ble_eq_true_of_le k4]
      rfl
    have hloads : H.loads id 0 (m * z) = some cs := by
      simp only [Heap.loads, hcells, List.drop_zero]
      rw [takeN_all _ _ (by omega), ← k7, List.take_length]
    refine ⟨.sl H.size 0 (m + n) (m + n) (some (spare (m + n) (τ 0))) z, H.version (cs ++ new) ((m + n + spare (m + n) (τ 0)) * z) fam fr ver, ?_, ?_, ⟨hw.version _ _ _ _ _ hfam, Nat.le_succ _, fun i hi => ?_, fun f hf => ?_⟩, ?_⟩
    · have e1 : Nat.ble ((m + n) * bytes) 274877906944 = true := Nat.ble_eq_true_of_le h1
      have e2 : Nat.ble (m + n) 274877906944 = true := Nat.ble_eq_true_of_le h2
      have e3 : Nat.ble (m + n) m = false := by
        cases hb : Nat.ble (m + n) m with
        | false => rfl
        | true => have := Nat.le_of_ble_eq_true hb; omega
      have e4 : Nat.beq z z = true := Nat.beq_refl z
      have e5 : Nat.beq ver ver = true := Nat.beq_refl ver
      have e6 : Nat.beq (0 + m * z) cs.length = true := by rw [k7, Nat.zero_add]; exact Nat.beq_refl _
      simp only [Am.append, e4, cond_true, e3, cond_false, e1, e2, Bool.and_self, hloads, k2, k3, e5, e6, hs]
    · refine .inr ⟨H.size, spare (m + n) (τ 0), _, fam, ver + 1, false, 0, fr, rfl, T.get_set_same _ _ _, T.get_set_same _ _ _, by omega, hB, k6, by rw [List.length_append, k7, hl, Nat.add_mul]⟩
    · simp only [Heap.version, T.get_set]; rw [if_neg (by omega)]
    · simp only [Heap.version, T.get_set]; rw [if_neg (by omega)]
    · intro i c hc
      have hilt := hw.cells_lt hc
      unfold Heap.cells? at hc ⊢
      simp only [Heap.version, T.get_set]
      rw [if_neg (by omega)]
      split at hc
      · rename_i cs' room' fam' ver' wr' pl' st' hb
        by_cases he : fam = fam'
        · subst he
          rw [k3] at hc
          simpa using hc
        · rw [if_neg he]
          exact hc
      · cases hc
end Go.Am
