/-
  THE ABSTRACT MACHINE 'Am', twenty-fifth part: how a call begins.
-/
import Derived.Test.YtpfaceclaigpgaaDoorAm24
namespace Go.Am
open Go.RowKit (Below)

theorem mkHeap_size : ∀ (l : List (Option (List V))) (H : Heap), (mkHeap l H).size = H.size + l.length := by
  intro l
  induction l with
  | nil => intro H; rfl
  | cons x l ih =>
    intro H
    cases x <;> simp only [mkHeap, ih, List.length_cons] <;> omega

theorem mkHeap_blk : ∀ (l : List (Option (List V))) (H : Heap) (id : Nat) (b : B), (mkHeap l H).blk.get id = some b → H.blk.get id = some b ∨ ∃ j, id = H.size + j ∧ ((∃ cs, l[j]? = some (some cs) ∧ b = .mem cs cs.length id 0 false false 0) ∨ (l[j]? = some none ∧ b = .gone)) := by
  intro l
  induction l with
  | nil => intro H id b h; exact .inl h
  | cons x l ih =>
    intro H id b h
    cases x with
    | none =>
      simp only [mkHeap] at h
      rcases ih _ id b h with h | ⟨j, hj, h⟩
      · rw [T.get_set] at h
        split at h
        · rename_i e
          exact .inr ⟨0, by omega, .inr ⟨rfl, by cases h; rfl⟩⟩
        · exact .inl h
      · exact .inr ⟨j + 1, by simp only at hj; omega, h⟩
    | some cs =>
      simp only [mkHeap] at h
      rcases ih _ id b h with h | ⟨j, hj, h⟩
      · rw [T.get_set] at h
        split at h
        · rename_i e
          exact .inr ⟨0, by omega, .inl ⟨cs, rfl, by cases h; rw [e]⟩⟩
        · exact .inl h
      · exact .inr ⟨j + 1, by simp only at hj; omega, h⟩

theorem mkHeap_fam_old : ∀ (l : List (Option (List V))) (H : Heap) (f : Nat), f < H.size → (mkHeap l H).fams.get f = H.fams.get f := by
  intro l
  induction l with
  | nil => intro H f _; rfl
  | cons x l ih =>
    intro H f hf
    cases x with
    | none => simp only [mkHeap]; rw [ih _ f (by simp only; omega)]
    | some cs => simp only [mkHeap]; rw [ih _ f (by simp only; omega), T.get_set_ne _ _ (by omega)]

theorem mkHeap_fam_mem : ∀ (l : List (Option (List V))) (H : Heap) (j : Nat) (cs : List V), l[j]? = some (some cs) → (mkHeap l H).fams.get (H.size + j) = some (0, 0) := by
  intro l
  induction l with
  | nil => intro H j cs h; simp at h
  | cons x l ih =>
    intro H j cs h
    cases j with
    | zero =>
      simp only [List.getElem?_cons_zero, Option.some.injEq] at h
      subst h
      simp only [mkHeap]
      rw [mkHeap_fam_old _ _ _ (by simp only; omega)]
      exact T.get_set_same _ _ _
    | succ j =>
      have h' : l[j]? = some (some cs) := by simpa using h
      cases x with
      | none =>
        simp only [mkHeap]
        have := ih { size := H.size + 1, blk := H.blk.set H.size .gone, fams := H.fams } j cs h'
        rw [show H.size + (j + 1) = H.size + 1 + j by omega]
        exact this
      | some c =>
        simp only [mkHeap]
        have := ih { size := H.size + 1, blk := H.blk.set H.size (.mem c c.length H.size 0 false false 0), fams := H.fams.set H.size (0, 0) } j cs h'
        rw [show H.size + (j + 1) = H.size + 1 + j by omega]
        exact this

theorem mkHeap_fam : ∀ (l : List (Option (List V))) (H : Heap) (f : Nat) (x : Nat × Nat), (mkHeap l H).fams.get f = some x → H.fams.get f = some x ∨ (f < H.size + l.length ∧ x = (0, 0)) := by
  intro l
  induction l with
  | nil => intro H f x h; exact .inl h
  | cons y l ih =>
    intro H f x h
    cases y with
    | none =>
      simp only [mkHeap] at h
      rcases ih _ f x h with h | ⟨h1, h2⟩
      · exact .inl h
      · exact .inr ⟨by simp only [List.length_cons] at h1 ⊢; omega, h2⟩
    | some cs =>
      simp only [mkHeap] at h
      rcases ih _ f x h with h | ⟨h1, h2⟩
      · rw [T.get_set] at h
        split at h
        · rename_i e
          cases h
          exact .inr ⟨by simp only [List.length_cons]; omega, rfl⟩
        · exact .inl h
      · exact .inr ⟨by simp only [List.length_cons] at h1 ⊢; omega, h2⟩

def H0 : Heap := ⟨0, .leaf, .leaf⟩
/-- the memory that a call finds: what is read of it alone -/
def start (l : List (Option (List V))) : Heap := mkHeap l H0

theorem start_blk {l : List (Option (List V))} {id : Nat} {b : B} (h : (start l).blk.get id = some b) : (∃ cs, l[id]? = some (some cs) ∧ b = .mem cs cs.length id 0 false false 0) ∨ (l[id]? = some none ∧ b = .gone) := by
  rcases mkHeap_blk l H0 id b h with h | ⟨j, hj, h⟩
  · exact absurd h (by simp [H0, T.get])
  · have : j = id := by simp only [H0] at hj; omega
    subst this
    exact h

/-- THE START -/
theorem MRel.start (W : World) (ι : Inj) (l : List (Option (List V))) (hok : ∀ id cs, l[id]? = some (some cs) → VsOk (start l) cs ∧ BOk ι W.heap.size W id cs cs.length false) : MRel ι W.heap.size W (start l) W := by
  have hmem : ∀ {id cs room fam ver wr pl st}, (Am.start l).blk.get id = some (.mem cs room fam ver wr pl st) → l[id]? = some (some cs) ∧ room = cs.length ∧ fam = id ∧ ver = 0 ∧ wr = false := by
    intro id cs room fam ver wr pl st h
    rcases start_blk h with ⟨cs', h1, h2⟩ | ⟨_, h2⟩
    · cases h2; exact ⟨h1, rfl, rfl, rfl, rfl⟩
    · cases h2
  have hsize : (Am.start l).size = l.length := by
    unfold Am.start
    rw [mkHeap_size]
    simp [H0]
  refine ⟨Below.refl _ _, Nat.le_refl _, ?_, ?_, ?_, ?_, ?_, ?_, ?_, ?_, ?_, ?_⟩
  · intro id b h
    rw [hsize]
    rcases start_blk h with ⟨cs, h1, _⟩ | ⟨h1, _⟩ <;> exact (List.getElem?_eq_some_iff.1 h1).1
  · intro id cs room fam ver wr pl st h
    obtain ⟨h1, rfl, rfl, rfl, rfl⟩ := hmem h
    refine ⟨by rw [hsize]; exact (List.getElem?_eq_some_iff.1 h1).1, 0, 0, ?_, Nat.le_refl _⟩
    have := mkHeap_fam_mem l H0 fam cs h1
    rw [show H0.size + fam = fam from Nat.zero_add _] at this
    exact this
  · intro id cs room fam ver wr pl st h
    obtain ⟨h1, rfl, rfl, rfl, rfl⟩ := hmem h
    exact ⟨Nat.le_refl _, (hok fam cs h1).1⟩
  · intro id cs room fam ver wr pl st fr la h _ _
    obtain ⟨h1, rfl, rfl, rfl, rfl⟩ := hmem h
    exact (hok fam cs h1).2
  · intro i cs room fam ver pl st fr la j cs' room' fam' ver' wr' pl' st' fr' la' h
    obtain ⟨_, _, _, _, h5⟩ := hmem h
    cases h5
  · intro i cs room fam ver wr pl st j cs' room' wr' pl' st' h1 h2
    obtain ⟨_, _, h3, _⟩ := hmem h1
    obtain ⟨_, _, h4, _⟩ := hmem h2
    rw [← h3, ← h4]
  · intro id s pos h
    rcases start_blk h with ⟨cs, _, h2⟩ | ⟨_, h2⟩ <;> cases h2
  · intro f x h
    rcases mkHeap_fam l H0 f x h with h | ⟨h, _⟩
    · exact absurd h (by simp [H0, T.get])
    · rw [hsize]
      simpa [H0] using h
  · intro i cs room fam ver wr pl st fr la j cs' room' ver' wr' pl' st' h1 _ _ h4 _ _ _
    obtain ⟨a1, _, h3, _⟩ := hmem h1
    obtain ⟨a2, _, h4, _⟩ := hmem h4
    have e : i = j := by rw [← h3, ← h4]
    subst e
    rw [a1] at a2
    cases a2
    exact Nat.le_refl _
  · intro i s p j s' p' h
    rcases start_blk h with ⟨cs, _, h2⟩ | ⟨_, h2⟩ <;> cases h2

theorem start_size (l : List (Option (List V))) : (start l).size = l.length := by
  unfold start
  rw [mkHeap_size]
  simp [H0]

/-- A CALL FROM THE START: what the machine answers, on every tape, the model answers. -/
theorem call_start {P : Program} (hm : P.follows .mixedOrders = true) {prog : Nat → Option Def} {W : World} (hp : ∀ f d, prog f = some d → DefOk P W.heap.size W f d) (N k : Nat) (f : FuncId) (vs : List V) (l : List (Option (List V))) (ι : Inj)
    (hok : ∀ id cs, l[id]? = some (some cs) → VsOk (start l) cs ∧ BOk ι W.heap.size W id cs cs.length false) (hg : ∀ g, g < P.globals.size → ι g = (g, 0)) (hgl : P.globals.size ≤ l.length) (hvs : VsOk (start l) vs)
    (R : V → Heap → Prop) (h : ∀ τ, ∃ v H' τ', call prog N k f vs (start l) τ = some (v, H', τ') ∧ R v H') :
    Calls P f (cvl ι vs).toArray W fun e W' => ∃ v H' ι', e = .returned (cv ι' v) ∧ R v H' ∧ MRel ι' W.heap.size W H' W' ∧ VOk H' v := by
  have hM := MRel.start W ι l hok
  have hs := call_sound hm hp N k f vs (start l) ι W hM ⟨hg, by rw [start_size]; exact hgl⟩ hvs (fun τ hn => by
    obtain ⟨v, H', τ', h1, _⟩ := h τ
    rw [h1] at hn; cases hn)
  refine hs.2.mono fun e W' ⟨v, H', ι', pre, h1, h2, h3, _, _, h6⟩ => ⟨v, H', ι', h1, ?_, h3, h6⟩
  obtain ⟨v2, H2, τ2, k1, k2⟩ := h (Tape.app pre (fun _ => 0))
  rw [h2] at k1
  cases k1
  exact k2

def isTrue : Option (V × Heap × Tape) → Bool
  | some (.bool true, _, _) => true
  | _ => false

/-- THE SAME OF ONE THAT ANSWERS TRUE -/
theorem call_true {P : Program} (hm : P.follows .mixedOrders = true) {prog : Nat → Option Def} {W : World} (hp : ∀ f d, prog f = some d → DefOk P W.heap.size W f d) (N k : Nat) (f : FuncId) (vs : List V) (l : List (Option (List V))) (ι : Inj)
    (hok : ∀ id cs, l[id]? = some (some cs) → VsOk (start l) cs ∧ BOk ι W.heap.size W id cs cs.length false) (hg : ∀ g, g < P.globals.size → ι g = (g, 0)) (hgl : P.globals.size ≤ l.length) (hvs : VsOk (start l) vs)
    (h : ∀ τ, isTrue (call prog N k f vs (start l) τ) = true) :
    Calls P f (cvl ι vs).toArray W fun e W' => e = .returned (.bool true) ∧ Below W.heap.size W W' := by
  refine (call_start hm hp N k f vs l ι hok hg hgl hvs (fun v _ => v = .bool true) fun τ => ?_).mono fun e W' ⟨v, H', ι', h1, h2, h3, _⟩ => ?_
  · have := h τ
    unfold isTrue at this
    split at this
    · rename_i H' τ' hr
      exact ⟨_, _, _, hr, rfl⟩
    · cases this
  · subst h2
    exact ⟨h1, h3.below⟩
end Go.Am
