/-
  THE ABSTRACT MACHINE 'Am', eighteenth part: regions in the order of the text.
-/
import Derived.Test.YtpfaceclaigpgaaDoorAm17
namespace Go.Am
open Go.RowKit (Below)

section
variable {P : Program} {w w0 : World} {ι : Inj} {base nt : Nat}

/-- ONE OPERATION of a region -/
theorem ins_wp (c : ACall) (hc : CallSound P base w0 c) {st : St} {a : Act} (hF : FRel ι st.hp nt st.fr a) (hM : MRel ι base w0 st.hp w) (hG : GOk P ι st.hp) {ops : Array Oper} {i : Nat} {o : Oper} (ho : ops[i]? = some o)
    {ins : Ins} (ht : trIns P nt ops.toList o = some ins) (h : ∀ τ, runIns c ins st τ ≠ none) (K : Act → World → Prop) (Q : Exit → Act → World → Prop)
    (hK : ∀ a' w', After P base w0 ι st.hp nt (runIns c ins st) a' w' → K a' w') : wpOp P ops Q i K a w := by
  obtain ⟨hd, hdst, _, hg, xs, hop, hxs⟩ := trIns_inv ht
  unfold wpOp
  simp only [ho]
  unfold runIns at h
  cases hw : wants st.fr ins.guard with
  | none => simp only [hw, ne_eq, not_true, forall_const] at h
  | some b =>
    rw [wants_sound hF hg hw]
    cases b with
    | false =>
      simp only [Bool.false_eq_true, if_false]
      refine hK _ _ ⟨⟨put st.fr ins.dst (.tup []), st.hp⟩, ι, [], fun τ => ?_, ?_, hM, hG, Ext.refl _ _, Evol.refl _⟩
      · unfold runIns; simp only [hw]; rfl
      · rw [hdst]
        exact hF.put hd (v := .tup []) trivial
    | true =>
      simp only [if_true]
      simp only [hw] at h
      cases hvs : evOs st.fr ins.args with
      | none => simp only [hvs, ne_eq, not_true, forall_const] at h
      | some vs =>
        simp only [hvs] at h
        obtain ⟨hx, hok⟩ := evOs_sound hF hG xs ins.args vs hxs hvs
        refine .inl (op_wp c hc hF hM hG hd hop hx hok ?_ K Q ?_)
        · intro τ hn
          exact h τ (by rw [hn])
        · intro v H' ι' pre w' h3 hF' h4 h5 h6 h7 h8
          refine hK _ _ ⟨⟨put st.fr ins.dst v, H'⟩, ι', pre, fun τ => ?_, ?_, h4, h5, h6, h7⟩
          · unfold runIns
            simp only [hw, hvs, h3]
          · rw [hdst]; exact hF'

/-- operations one behind the other -/
theorem reg_wp (c : ACall) (hc : CallSound P base w0 c) (ops : Array Oper) (Q : Exit → Act → World → Prop) : ∀ (is : List Ins) (l : List Nat) (ι : Inj) (st : St) (a : Act) (w : World),
    FRel ι st.hp nt st.fr a → MRel ι base w0 st.hp w → GOk P ι st.hp → is.length = l.length → (∀ (j i : Nat) (ins : Ins), l[j]? = some i → is[j]? = some ins → ∃ o, ops[i]? = some o ∧ trIns P nt ops.toList o = some ins) →
    (∀ τ, runReg c is st τ ≠ none) → (∀ a' w', After P base w0 ι st.hp nt (runReg c is st) a' w' → Q .normal a' w') → wpOps P ops Q l a w := by
  intro is
  induction is with
  | nil =>
    intro l ι st a w hF hM hG hl _ _ hQ
    have : l = [] := List.eq_nil_of_length_eq_zero (by simpa using hl.symm)
    subst this
    exact hQ a w ⟨st, ι, [], fun τ => rfl, hF, hM, hG, Ext.refl _ _, Evol.refl _⟩
  | cons ins is ih =>
    intro l ι st a w hF hM hG hl ht h hQ
    cases l with
    | nil => simp at hl
    | cons i l =>
      obtain ⟨o, ho, hins⟩ := ht 0 i ins rfl rfl
      rw [wpOps_cons]
      refine ins_wp c hc hF hM hG ho hins ?_ _ Q ?_
      · intro τ hn
        exact h τ (by simp only [runReg, hn])
      · rintro a' w' ⟨st1, ι1, pre1, k1, k2, k3, k4, k5, k6⟩
        refine ih l ι1 st1 a' w' k2 k3 k4 (by simpa using hl) (fun j i' ins' hj hj' => ht (j + 1) i' ins' (by simpa using hj) (by simpa using hj')) ?_ ?_
        · intro τ hn
          refine h (Tape.app pre1 τ) ?_
          simp only [runReg, k1, hn]
        · intro a2 w2 hA
          obtain ⟨st2, ι2, pre2, m1, m2, m3, m4, m5, m6⟩ := hA
          exact hQ a2 w2 ⟨st2, ι2, pre1 ++ pre2, fun τ => by rw [← Tape.app_app]; simp only [runReg, k1]; exact m1 τ, m2, m3, m4, k5.trans m5 k6.size, k6.trans m6⟩

theorem allSome_get {α β : Type} (f : α → Option β) : ∀ (l : List α) (r : List β), allSome f l = some r → r.length = l.length ∧ ∀ (j : Nat) (x : α) (y : β), l[j]? = some x → r[j]? = some y → f x = some y := by
  intro l
  induction l with
  | nil => intro r h; simp only [allSome, Option.some.injEq] at h; subst h; exact ⟨rfl, fun j x y hx => by simp at hx⟩
  | cons a l ih =>
    intro r h
    simp only [allSome] at h
    split at h
    · rename_i b hb
      split at h
      · rename_i r' hr
        cases h
        obtain ⟨h1, h2⟩ := ih r' hr
        refine ⟨by simp [h1], fun j x y hx hy => ?_⟩
        cases j with
        | zero =>
          simp only [List.getElem?_cons_zero, Option.some.injEq] at hx hy
          subst hx hy
          exact hb
        | succ j => exact h2 j x y (by simpa using hx) (by simpa using hy)
      · cases h
    · cases h

/-- A REGION in the order of the text -/
theorem region_wp (c : ACall) (hc : CallSound P base w0 c) (id : Nat) (ops : Array Oper) {is : List Ins} (ht : allSome (trIns P nt ops.toList) ops.toList = some is) {st : St} {a : Act}
    (hF : FRel ι st.hp nt st.fr a) (hM : MRel ι base w0 st.hp w) (hG : GOk P ι st.hp) (h : ∀ τ, runReg c is st τ ≠ none) (Q : Exit → Act → World → Prop)
    (hQ : ∀ a' w', After P base w0 ι st.hp nt (runReg c is st) a' w' → Q .normal a' w') : (Code.region id ops false).wp P Q a w := by
  obtain ⟨h1, h2⟩ := allSome_get _ _ _ ht
  refine wp_region (reg_wp c hc ops Q is (List.range ops.size) ι st a w hF hM hG (by simpa using h1) ?_ h hQ)
  intro j i ins hj hi
  have hlt : j < ops.size := by have := (List.getElem?_eq_some_iff.1 hj).1; simpa using this
  have : i = j := by
    rw [List.getElem?_range hlt] at hj
    exact (Option.some.inj hj).symm
  subst this
  have ho : ops[i]? = some ops[i] := Array.getElem?_eq_getElem hlt
  exact ⟨ops[i], ho, h2 i ops[i] ins (by rw [Array.getElem?_toList]; exact ho) hi⟩
end
end Go.Am
