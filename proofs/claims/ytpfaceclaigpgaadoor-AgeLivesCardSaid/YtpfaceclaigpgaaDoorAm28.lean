/-
  THE ABSTRACT MACHINE 'Am', twenty-eighth part: tables of printed functions.
-/
import Derived.Test.YtpfaceclaigpgaaDoorAm27
namespace Go.Am
/-- something of all that a tree holds -/
def T.All {α : Type} (P : Nat → α → Prop) : T α → (Nat → Nat) → Prop
  | .leaf, _ => True
  | .node v l r, ix => (match v with | some a => P (ix 0) a | none => True) ∧ T.All P l (fun k => ix (2 * k + 1)) ∧ T.All P r (fun k => ix (2 * k + 2))

theorem T.All_at {α : Type} {P : Nat → α → Prop} : ∀ (t : T α) (ix : Nat → Nat), T.All P t ix → ∀ i a, t.get i = some a → P (ix i) a := by
  intro t
  induction t with
  | leaf => intro ix _ i a h; rw [T.get_leaf] at h; cases h
  | node v l r ihl ihr =>
    intro ix h i a hg
    obtain ⟨h0, h1, h2⟩ := h
    cases i with
    | zero => simp only [T.get] at hg; subst hg; exact h0
    | succ j =>
      simp only [T.get] at hg
      cases hb : Nat.beq (j % 2) 0 with
      | true =>
        rw [hb, cond_true] at hg
        have := ihl _ h1 _ _ hg
        have e : 2 * (j / 2) + 1 = j + 1 := by have := Nat.eq_of_beq_eq_true hb; omega
        simpa only [e] using this
      | false =>
        rw [hb, cond_false] at hg
        have := ihr _ h2 _ _ hg
        have e : 2 * (j / 2) + 2 = j + 1 := by have := Nat.ne_of_beq_eq_false hb; omega
        simpa only [e] using this

theorem T.All_get {α : Type} {P : Nat → α → Prop} {t : T α} (h : T.All P t (fun k => k)) {i : Nat} {a : α} (hg : t.get i = some a) : P i a := T.All_at t _ h i a hg

/-- a printed function -/
abbrev Ent := CallK → Nat → List V → Heap → Tape → KV → Ans
def EntOk (fn : Fun) (e : Ent) : Prop := ∀ call N vs H τ q r, e call N vs H τ q = some r → funK call N fn vs H τ q = some r
def tabOf (E : T Ent) (N : Nat) : Nat → CallK → List V → Heap → Tape → KV → Ans := fun f call vs H τ q =>
  match E.get f with
  | some e => e call N vs H τ q
  | none => none
theorem tabOf_ok {E : T Ent} {F : T Def} (N : Nat) (h : ∀ f e, E.get f = some e → ∃ fn, F.get f = some (.fn fn) ∧ EntOk fn e) : TabOk F.get N (tabOf E N) := by
  intro f cK vs H τ k r hr
  unfold tabOf at hr
  split at hr
  · rename_i e he
    obtain ⟨fn, h1, h2⟩ := h f e he
    exact .inl ⟨fn, h1, h2 _ _ _ _ _ _ _ hr⟩
  · cases hr

/-- true: nothing else is told -/
def trueK : KV := fun v _ _ =>
  match v with
  | .bool true => some (.bool true, ⟨0, .leaf, .leaf⟩, fun _ => 0)
  | _ => none
theorem trueK_some {v : V} {H : Heap} {τ : Tape} {r : V × Heap × Tape} (h : trueK v H τ = some r) : v = .bool true := by
  unfold trueK at h
  split at h
  · rfl
  · cases h
end Go.Am
