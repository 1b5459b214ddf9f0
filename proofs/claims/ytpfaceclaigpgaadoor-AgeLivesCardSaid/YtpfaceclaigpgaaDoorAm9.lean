/-
  THE ABSTRACT MACHINE 'Am', ninth part: what an operation's value tells of its operands.
-/
import Derived.Test.YtpfaceclaigpgaaDoorAm8
namespace Go.Am

theorem map1 {ι : Inj} {ρ : Operand → Value} {x : Operand} {vs : List V} (h : [x].map ρ = cvl ι vs) : ∃ a, vs = [a] ∧ ρ x = cv ι a := by
  cases vs with
  | nil => simp [cvl] at h
  | cons a l => cases l with
    | nil => exact ⟨a, rfl, by simpa [cvl] using h⟩
    | cons b l => simp [cvl] at h
theorem map2 {ι : Inj} {ρ : Operand → Value} {x y : Operand} {vs : List V} (h : [x, y].map ρ = cvl ι vs) : ∃ a b, vs = [a, b] ∧ ρ x = cv ι a ∧ ρ y = cv ι b := by
  cases vs with
  | nil => simp [cvl] at h
  | cons a l =>
    simp only [List.map_cons, cvl, List.cons.injEq] at h
    obtain ⟨b, rfl, hb⟩ := map1 (by simpa using h.2)
    exact ⟨a, b, rfl, h.1, hb⟩
theorem mapCons {ι : Inj} {ρ : Operand → Value} {x : Operand} {l : List Operand} {vs : List V} (h : (x :: l).map ρ = cvl ι vs) : ∃ a r, vs = a :: r ∧ ρ x = cv ι a ∧ l.map ρ = cvl ι r := by
  cases vs with
  | nil => simp [cvl] at h
  | cons a r =>
    simp only [List.map_cons, cvl, List.cons.injEq] at h
    exact ⟨a, r, rfl, h.1, h.2⟩
theorem map3 {ι : Inj} {ρ : Operand → Value} {x y z : Operand} {vs : List V} (h : [x, y, z].map ρ = cvl ι vs) : ∃ a b c, vs = [a, b, c] ∧ ρ x = cv ι a ∧ ρ y = cv ι b ∧ ρ z = cv ι c := by
  obtain ⟨a, r, rfl, ha, h⟩ := mapCons h
  obtain ⟨b, c, rfl, hb, hc⟩ := map2 h
  exact ⟨a, b, c, rfl, ha, hb, hc⟩

theorem natOf_some {n : Int} {m : Nat} (h : natOf n = some m) : n = (m : Int) := by
  cases n with
  | ofNat k => simp only [natOf, forceN_eq, Option.some.injEq] at h; subst h; rfl
  | negSucc k => cases h

theorem inv_mv {vs : List V} {v : V} (h : pMv vs = some v) : vs = [v] := by
  unfold pMv at h; split at h <;> simp_all
theorem inv_pick {vs : List V} {v : V} (h : pPick vs = some v) : ∃ c a b, vs = [.bool c, a, b] ∧ v = if c then a else b := by
  unfold pPick at h
  split at h
  · split at h <;> (cases h; exact ⟨_, _, _, rfl, rfl⟩)
  · cases h
theorem inv_bin {b : BinOp} {vs : List V} {v : V} (h : pBin b vs = some v) :
    (∃ k x k' y, vs = [.int k x, .int k' y] ∧ (((b = .shl ∨ b = .shr) ∧ shiftOp b k x y = some v) ∨ ((b ≠ .shl ∧ b ≠ .shr) ∧ k = k' ∧ intBin b k x y = some v))) ∨
    (∃ x y, vs = [.str x, .str y] ∧ strBin b x y = some v) := by
  unfold pBin at h
  split at h
  · rename_i k x k' y
    refine .inl ⟨k, x, k', y, rfl, ?_⟩
    unfold binInt at h
    split at h
    · exact .inl ⟨.inl rfl, h⟩
    · exact .inl ⟨.inr rfl, h⟩
    · rename_i h1 h2
      split at h
      · rename_i hk; exact .inr ⟨⟨h1, h2⟩, hk, h⟩
      · cases h
  · exact .inr ⟨_, _, rfl, h⟩
  · cases h
end Go.Am
