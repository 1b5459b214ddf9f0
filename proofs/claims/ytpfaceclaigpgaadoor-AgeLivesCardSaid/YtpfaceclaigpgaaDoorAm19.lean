/-
  THE ABSTRACT MACHINE 'Am', nineteenth part: what a region's run in the order of the text leaves.
-/
import Derived.Test.YtpfaceclaigpgaaDoorAm18
namespace Go.Am

theorem same0_eq {a b : V} (h : same0 a b = true) : a = b := by
  cases a <;> cases b <;> (try (simp [same0] at h; done)) <;> (try (simp [same0, Bool.and_eq_true] at h; simp [h]; done))
  rename_i i o n l ex z i' o' n' l' ex' z'
  cases ex <;> cases ex' <;> simp [same0, Bool.and_eq_true] at h <;> simp [h]

theorem sameL_eq {f : V → V → Bool} (hf : ∀ a b, f a b = true → a = b) : ∀ (l m : List V), sameL f l m = true → l = m := by
  intro l
  induction l with
  | nil => intro m h; cases m with | nil => rfl | cons => simp [sameL] at h
  | cons a l ih => intro m h; cases m with
    | nil => simp [sameL] at h
    | cons b m => simp only [sameL, Bool.and_eq_true] at h; rw [hf a b h.1, ih m h.2]

theorem same1_eq {a b : V} (h : same1 a b = true) : a = b := by
  unfold same1 at h
  split at h
  · simp only [Bool.and_eq_true] at h
    rw [Nat.eq_of_beq_eq_true h.1.1, sameL_eq (fun _ _ => same0_eq) _ _ h.1.2, sameL_eq (fun _ _ => same0_eq) _ _ h.2]
  · simp only [Bool.and_eq_true] at h
    rw [Nat.eq_of_beq_eq_true h.1, same0_eq h.2]
  · exact same0_eq h

theorem same_eq {a b : V} (h : same a b = true) : a = b := by
  unfold same at h
  split at h
  · rw [sameL_eq (fun _ _ => same1_eq) _ _ h]
  · exact same1_eq h

theorem runReg_append (c : ACall) : ∀ (is js : List Ins) (st : St) (τ : Tape), runReg c (is ++ js) st τ = match runReg c is st τ with | some (st, τ) => runReg c js st τ | none => none := by
  intro is
  induction is with
  | nil => intro js st τ; rfl
  | cons i is ih =>
    intro js st τ
    simp only [List.cons_append, runReg]
    cases runIns c i st τ with
    | none => rfl
    | some r => exact ih js r.1 r.2

/-- what one operation turns -/
theorem runIns_frame {c : ACall} {i : Ins} {st st' : St} {τ τ' : Tape} (h : runIns c i st τ = some (st', τ')) : ∃ v, st'.fr = put st.fr i.dst v := by
  unfold runIns at h
  split at h
  · cases h
  · cases h; exact ⟨_, rfl⟩
  · split at h
    · cases h
    · split at h
      · cases h; exact ⟨_, rfl⟩
      · cases h

theorem runIns_get {c : ACall} {i : Ins} {st st' : St} {τ τ' : Tape} (h : runIns c i st τ = some (st', τ')) {t : Nat} (ht : i.dst ≠ some t) : st'.fr.get t = st.fr.get t := by
  obtain ⟨v, hv⟩ := runIns_frame h
  rw [hv]
  cases hd : i.dst with
  | none => rfl
  | some d => exact T.get_set_ne _ _ (fun e => ht (by rw [hd, e]))

theorem runReg_get {c : ACall} : ∀ {is : List Ins} {st st' : St} {τ τ' : Tape}, runReg c is st τ = some (st', τ') → ∀ {t : Nat}, (∀ i ∈ is, i.dst ≠ some t) → st'.fr.get t = st.fr.get t := by
  intro is
  induction is with
  | nil => intro st st' τ τ' h t _; cases h; rfl
  | cons i is ih =>
    intro st st' τ τ' h t ht
    simp only [runReg] at h
    split at h
    · rename_i st1 τ1 h1
      rw [ih h fun j hj => ht j (List.mem_cons_of_mem _ hj), runIns_get h1 (ht i List.mem_cons_self)]
    · cases h

/-- an operation that is no effect -/
theorem runIns_still {c : ACall} {i : Ins} (hi : i.op.eff = false) {st st' : St} {τ τ' : Tape} (h : runIns c i st τ = some (st', τ')) : st'.hp = st.hp ∧ τ' = τ ∧ ∀ τ2, runIns c i st τ2 = some (st', τ2) := by
  unfold runIns at h ⊢
  split at h
  · cases h
  · cases h; exact ⟨rfl, rfl, fun _ => rfl⟩
  · split at h
    · cases h
    · rename_i vs _
      split at h
      · rename_i v H τ1 hv
        cases h
        cases hop : i.op with
        | p o =>
          rw [hop] at hv
          simp only [evalOp] at hv ⊢
          split at hv
          · cases hv; exact ⟨rfl, rfl, fun _ => rfl⟩
          · cases hv
        | l o =>
          rw [hop] at hv
          simp only [evalOp] at hv ⊢
          split at hv
          · cases hv; exact ⟨rfl, rfl, fun _ => rfl⟩
          · cases hv
        | _ => rw [hop] at hi; simp [AOp.eff] at hi
      · cases h

theorem runReg_still {c : ACall} : ∀ {is : List Ins}, (∀ i ∈ is, i.op.eff = false) → ∀ {st st' : St} {τ τ' : Tape}, runReg c is st τ = some (st', τ') → st'.hp = st.hp ∧ τ' = τ ∧ ∀ τ2, runReg c is st τ2 = some (st', τ2) := by
  intro is
  induction is with
  | nil => intro _ st st' τ τ' h; cases h; exact ⟨rfl, rfl, fun _ => rfl⟩
  | cons i is ih =>
    intro hi st st' τ τ' h
    simp only [runReg] at h ⊢
    split at h
    · rename_i st1 τ1 h1
      obtain ⟨a1, a2, a3⟩ := runIns_still (hi i List.mem_cons_self) h1
      obtain ⟨b1, b2, b3⟩ := ih (fun j hj => hi j (List.mem_cons_of_mem _ hj)) h
      exact ⟨b1.trans a1, b2.trans a2, fun τ2 => by simp only [a3]; exact b3 τ2⟩
    · cases h

def effN (is : List Ins) : Nat := is.countP (·.op.eff)

/-- a region that draws its order runs as one that does not, and says what it must -/
theorem runDraw_spec {c : ACall} : ∀ {is : List Ins} {st st' : St} {τ τ' : Tape} {hs hs' : List Heap} {ls ls' : List LNote}, runDraw c is st τ (st.hp :: hs) ls = some (st', τ', hs', ls') →
    runReg c is st τ = some (st', τ') ∧ (∀ x ∈ ls, x ∈ ls') ∧
    (∃ hs2, hs' = hs2 ++ st.hp :: hs) ∧
    (∀ i sti τi, i ≤ is.length → runReg c (is.take i) st τ = some (sti, τi) → hs'.reverse[hs.length + effN (is.take i)]? = some sti.hp) ∧
    (∀ i x sti τi, is[i]? = some x → runReg c (is.take i) st τ = some (sti, τi) → wants sti.fr x.guard = some true → ∀ y ∈ noted x sti [], y ∈ ls') := by
  intro is
  induction is with
  | nil =>
    intro st st' τ τ' hs hs' ls ls' h
    simp only [runDraw, Option.some.injEq, Prod.mk.injEq] at h
    obtain ⟨rfl, rfl, rfl, rfl⟩ := h
    refine ⟨rfl, fun x hx => hx, ⟨[], rfl⟩, ?_, ?_⟩
    · intro i sti τi _ hr
      simp only [List.take_nil, runReg, Option.some.injEq, Prod.mk.injEq] at hr
      simp [← hr.1, effN]
    · intro i x sti τi hx
      simp at hx
  | cons i is ih =>
    intro st st' τ τ' hs hs' ls ls' h
    simp only [runDraw] at h
    split at h
    · rename_i st1 τ1 h1
      have key : ∃ hs1, (bif i.op.eff then st1.hp :: st.hp :: hs else st.hp :: hs) = st1.hp :: hs1 ∧ hs1.length = hs.length + (if i.op.eff then 1 else 0) ∧ ∃ l, st1.hp :: hs1 = l ++ st.hp :: hs := by
        cases he : i.op.eff with
        | true => exact ⟨st.hp :: hs, rfl, by simp, [st1.hp], rfl⟩
        | false =>
          have := (runIns_still he h1).1
          exact ⟨hs, by simp [this], by simp, [], by simp [this]⟩
      obtain ⟨hs1, k1, k2, l0, k3⟩ := key
      rw [k1] at h
      obtain ⟨a1, a2, ⟨hs2, a3⟩, a4, a5⟩ := ih h
      refine ⟨by simp only [runReg, h1]; exact a1, ?_, ⟨hs2 ++ l0, by rw [a3, k3, List.append_assoc]⟩, ?_, ?_⟩
      · intro x hx
        apply a2
        split
        · unfold noted
          split
          · exact hx
          · split
            · split
              · exact List.mem_cons_of_mem _ hx
              · exact hx
            · exact hx
        · exact hx
      · intro j sti τi hj hr
        cases j with
        | zero =>
          simp only [List.take_zero, runReg, Option.some.injEq, Prod.mk.injEq] at hr
          rw [a3, k3, ← hr.1]
          simp [effN]
        | succ j =>
          simp only [List.take_succ_cons, runReg, h1] at hr
          have := a4 j sti τi (by simpa using hj) hr
          rw [k2] at this
          rw [← this]
          congr 1
          simp only [List.take_succ_cons, effN, List.countP_cons]
          omega
      · intro j x sti τi hx hr hw y hy
        cases j with
        | zero =>
          simp only [List.getElem?_cons_zero, Option.some.injEq] at hx
          subst hx
          simp only [List.take_zero, runReg, Option.some.injEq, Prod.mk.injEq] at hr
          obtain ⟨rfl, rfl⟩ := hr
          apply a2
          rw [hw]
          simp only
          unfold noted at hy ⊢
          split at hy
          · cases hy
          · split at hy
            · split at hy
              · simp only [List.mem_cons, List.not_mem_nil, or_false] at hy
                subst hy
                exact List.mem_cons_self
              · cases hy
            · cases hy
        | succ j =>
          simp only [List.take_succ_cons, runReg, h1] at hr
          exact a5 j x sti τi (by simpa using hx) hr hw y hy
    · cases h

theorem chk1_spec {op : LOp} {vs : List V} {v : V} : ∀ {hs : List Heap}, chk1 op vs v hs = true → ∀ H ∈ hs, evalL op vs H = some v := by
  intro hs
  induction hs with
  | nil => intro _ H hH; cases hH
  | cons H0 hs ih =>
    intro h H hH
    simp only [chk1, Bool.and_eq_true] at h
    rcases List.mem_cons.1 hH with rfl | hH
    · have h1 := h.1
      split at h1
      · rename_i u hu
        rw [hu, same_eq h1]
      · cases h1
    · exact ih h.2 H hH

theorem chkLoads_spec {hs : List Heap} : ∀ {ls : List LNote}, chkLoads hs ls = true → ∀ op vs lo hi, (op, vs, lo, hi) ∈ ls → ∃ v, ∀ k H, lo ≤ k → k ≤ hi → hs[k]? = some H → evalL op vs H = some v := by
  intro ls
  induction ls with
  | nil => intro _ op vs lo hi h; cases h
  | cons n ls ih =>
    intro h op vs lo hi hm
    obtain ⟨op', vs', lo', hi'⟩ := n
    simp only [chkLoads, Bool.and_eq_true] at h
    rcases List.mem_cons.1 hm with e | hm
    · cases e
      have h1 := h.1
      split at h1
      · cases h1
      · rename_i H0 hs0 hh
        split at h1
        · rename_i v hv
          refine ⟨v, fun k H hlo hhi hk => ?_⟩
          have hmem : H ∈ (hs.drop lo).take (hi + 1 - lo) := by
            refine List.mem_of_getElem? (i := k - lo) ?_
            rw [List.getElem?_take, if_pos (by omega), List.getElem?_drop]
            rw [← hk]; congr 1; omega
          rw [hh] at hmem
          rcases List.mem_cons.1 hmem with rfl | hmem
          · exact hv
          · exact chk1_spec h1 H hmem
        · cases h1
    · exact ih h.2 op vs lo hi hm
end Go.Am
