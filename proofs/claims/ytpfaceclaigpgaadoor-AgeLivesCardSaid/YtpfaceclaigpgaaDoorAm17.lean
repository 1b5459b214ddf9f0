/-
  THE ABSTRACT MACHINE 'Am', seventeenth part: operations one behind the other.
-/
import Derived.Test.YtpfaceclaigpgaaDoorAm16
namespace Go.Am
open Go.RowKit (Below)

/-- package-level variables are the first blocks -/
def GOk (P : Program) (ι : Inj) (H : Heap) : Prop := (∀ g, g < P.globals.size → ι g = (g, 0)) ∧ P.globals.size ≤ H.size

theorem GOk.step {P : Program} {ι ι' : Inj} {H H' : Heap} (h : GOk P ι H) (he : Ext H ι ι') (hv : Evol H H') : GOk P ι' H' :=
  ⟨fun g hg => (he g (Nat.lt_of_lt_of_le hg h.2)).trans (h.1 g hg), Nat.le_trans h.2 hv.size⟩

/-- a frame of the machine's, and one of the model's -/
structure FRel (ι : Inj) (H : Heap) (nt : Nat) (fr : T V) (a : Act) : Prop where
  defers : a.defers = []
  size : nt ≤ a.tmps.size
  get : ∀ t v, fr.get t = some v → a.tmps[t]? = some (cv ι v) ∧ VOk H v

theorem FRel.step {ι ι' : Inj} {H H' : Heap} {nt : Nat} {fr : T V} {a : Act} (h : FRel ι H nt fr a) (he : Ext H ι ι') (hv : Evol H H') : FRel ι' H' nt fr a :=
  ⟨h.defers, h.size, fun t v ht => by
    obtain ⟨h1, h2⟩ := h.get t v ht
    exact ⟨by rw [cv_congr he v h2]; exact h1, h2.mono hv⟩⟩

theorem FRel.put {ι : Inj} {H : Heap} {nt : Nat} {fr : T V} {a : Act} (h : FRel ι H nt fr a) {dst : Option Nat} {v : V} (hd : dst.all (· < nt) = true) (hv : VOk H v) :
    FRel ι H nt (put fr dst v) (a.put dst (cv ι v)) := by
  cases dst with
  | none => exact h
  | some d =>
    have hlt : d < nt := by simpa using hd
    refine ⟨h.defers, by simp only [Act.put, Array.size_setIfInBounds]; exact h.size, fun t u ht => ?_⟩
    simp only [Am.put] at ht
    rw [T.get_set] at ht
    by_cases e : d = t
    · rw [if_pos e] at ht
      cases ht
      subst e
      have := h.size
      refine ⟨?_, hv⟩
      simp only [Act.put]
      rw [Array.getElem?_setIfInBounds_self_of_lt (by omega)]
    · rw [if_neg e] at ht
      obtain ⟨h1, h2⟩ := h.get t u ht
      exact ⟨by simp only [Act.put]; rw [Array.getElem?_setIfInBounds_ne e]; exact h1, h2⟩

section
variable {P : Program} {w w0 : World} {ι : Inj} {base nt : Nat} {H : Heap}

theorem evO_sound {fr : T V} {a : Act} (hF : FRel ι H nt fr a) (hG : GOk P ι H) {x : Operand} {o : O} {v : V} (ht : trO P x = some o) (h : evO fr o = some v) : a.eval x = cv ι v ∧ VOk H v := by
  cases x with
  | tmp t =>
    simp only [trO, Option.some.injEq] at ht
    subst ht
    obtain ⟨h1, h2⟩ := hF.get t v h
    exact ⟨by simp [Act.eval, h1], h2⟩
  | const c =>
    simp only [trO] at ht
    split at ht
    · rename_i u hu
      cases ht
      simp only [evO, Option.some.injEq] at h
      subst h
      obtain ⟨h1, h2⟩ := cv?_sound ι hu
      exact ⟨h1.symm, h2 H⟩
    · cases ht
  | global g =>
    simp only [trO] at ht
    split at ht
    · rename_i hg
      cases ht
      simp only [evO, Option.some.injEq] at h
      subst h
      exact ⟨by simp only [Act.eval, cv, hG.1 g hg], Nat.lt_of_lt_of_le hg hG.2⟩
    · cases ht
  | func f =>
    simp only [trO, Option.some.injEq] at ht
    subst ht
    simp only [evO, Option.some.injEq] at h
    subst h
    exact ⟨rfl, trivial, trivial⟩

theorem evOs_sound {fr : T V} {a : Act} (hF : FRel ι H nt fr a) (hG : GOk P ι H) : ∀ (xs : List Operand) (os : List O) (vs : List V), allSome (trO P) xs = some os → evOs fr os = some vs →
    xs.map a.eval = cvl ι vs ∧ VsOk H vs := by
  intro xs
  induction xs with
  | nil =>
    intro os vs ht h
    simp only [allSome, Option.some.injEq] at ht
    subst ht
    simp only [evOs, Option.some.injEq] at h
    subst h
    exact ⟨rfl, trivial⟩
  | cons x xs ih =>
    intro os vs ht h
    simp only [allSome] at ht
    split at ht
    · rename_i o ho
      split at ht
      · rename_i os' hos
        cases ht
        simp only [evOs] at h
        split at h
        · rename_i v hv
          split at h
          · rename_i vs' hvs
            cases h
            obtain ⟨h1, h2⟩ := evO_sound hF hG ho hv
            obtain ⟨h3, h4⟩ := ih os' vs' hos hvs
            exact ⟨by simp only [List.map_cons, cvl, h1, h3], h2, h4⟩
          · cases h
        · cases h
      · cases ht
    · cases ht

/-- what a call of the machine's stands for -/
def CallSound (P : Program) (base : Nat) (w0 : World) (c : ACall) : Prop :=
  ∀ f vs H ι w, MRel ι base w0 H w → GOk P ι H → VsOk H vs → (∀ τ, c f vs H τ ≠ none) →
    plainCall P f = true ∧ Calls P f (cvl ι vs).toArray w fun e w' =>
      ∃ v H' ι' pre, e = .returned (cv ι' v) ∧ (∀ τ, c f vs H (Tape.app pre τ) = some (v, H', τ)) ∧ MRel ι' base w0 H' w' ∧ Ext H ι ι' ∧ Evol H H' ∧ VOk H' v

theorem callFunc_plain {f : FuncId} (h : plainCall P f = true) (args : Array Value) : (callFunc f args).run P w = .ok (.enter f args) w := by
  unfold plainCall at h
  split at h
  · rename_i fn hf
    simp only [Bool.and_eq_true, bne_iff_ne, ne_eq] at h
    have h2 : (fn.name == "runtime.NumGoroutine") = false := by simpa using h.2
    have h1 : fn.body.isNone = false := by cases hb : fn.body with | none => rw [hb] at h; cases h.1 | some b => rfl
    simp only [callFunc, Sem.run_bind, run_program, Result.andThen_ok, hf, h2, Bool.false_eq_true, if_false, h1, Sem.run_pure]
  · cases h

theorem wants_sound {ops : Array Oper} {fr : T V} {a : Act} (hF : FRel ι H nt fr a) {o : Oper} {g : Option (Nat × Bool)} {b : Bool} (ht : trGuard ops.toList o.guard = some g) (h : wants fr g = some b) :
    Region.wanted o (yielded ops a.tmps) = b := by
  unfold Region.wanted
  cases hg : o.guard with
  | none =>
    rw [hg] at ht
    simp only [trGuard, Option.some.injEq] at ht
    subst ht
    simp only [wants, Option.some.injEq] at h
    simp [h]
  | some jw =>
    obtain ⟨j, want⟩ := jw
    rw [hg] at ht
    simp only [trGuard] at ht
    split at ht
    · rename_i oj hj
      split at ht
      · rename_i d hd
        cases ht
        have hj' : ops[j]? = some oj := by rw [← Array.getElem?_toList]; exact hj
        simp only [wants] at h
        split at h
        · rename_i bb hb
          cases h
          obtain ⟨h1, _⟩ := hF.get _ _ hb
          have : yielded ops a.tmps j = some bb := by simp only [yielded, hj', hd, Option.bind_some, h1, cv]
          simp [this]
        · rename_i hb
          cases h
          obtain ⟨h1, _⟩ := hF.get _ _ hb
          have : yielded ops a.tmps j = none := by simp only [yielded, hj', hd, Option.bind_some, h1, cv]
          simp [this]
        · cases h
      · cases ht
    · cases ht

theorem trIns_inv {ops : List Oper} {o : Oper} {i : Ins} (h : trIns P nt ops o = some i) :
    o.dst.all (· < nt) = true ∧ i.dst = o.dst ∧ i.rng = none ∧ trGuard ops o.guard = some i.guard ∧ ∃ xs, trOp P o.op = some (i.op, xs) ∧ allSome (trO P) xs = some i.args := by
  unfold trIns at h
  split at h
  · rename_i hd
    split at h
    · rename_i op args g h1 h2
      split at h
      · rename_i as h3
        cases h
        exact ⟨hd, rfl, rfl, h2, args, h1, h3⟩
      · cases h
    · cases h
  · cases h

/-- what an operation leaves -/
def After (P : Program) (base : Nat) (w0 : World) (ι : Inj) (H : Heap) (nt : Nat) (run : Tape → Option (St × Tape)) (a : Act) (w : World) : Prop :=
  ∃ st' ι' pre, (∀ τ, run (Tape.app pre τ) = some (st', τ)) ∧ FRel ι' st'.hp nt st'.fr a ∧ MRel ι' base w0 st'.hp w ∧ GOk P ι' st'.hp ∧ Ext H ι ι' ∧ Evol H st'.hp

/-- ONE OPERATION that is wanted, its operands known -/
theorem op_wp (c : ACall) (hc : CallSound P base w0 c) {st : St} {a : Act} (hF : FRel ι st.hp nt st.fr a) (hM : MRel ι base w0 st.hp w) (hG : GOk P ι st.hp) {o : Oper} {ao : AOp} {xs : List Operand} {vs : List V}
    (hd : o.dst.all (· < nt) = true) (ht : trOp P o.op = some (ao, xs)) (hx : xs.map a.eval = cvl ι vs) (hok : VsOk st.hp vs) (h : ∀ τ, evalOp c ao vs st.hp τ ≠ none)
    (K : Act → World → Prop) (Q : Exit → Act → World → Prop)
    (hK : ∀ v H' ι' pre w', (∀ τ, evalOp c ao vs st.hp (Tape.app pre τ) = some (v, H', τ)) → FRel ι' H' nt (put st.fr o.dst v) (a.put o.dst (cv ι' v)) → MRel ι' base w0 H' w' → GOk P ι' H' → Ext st.hp ι ι' → Evol st.hp H' → VOk H' v →
      K (a.put o.dst (cv ι' v)) w') :
    o.wp P a w K Q := by
  unfold Oper.wp
  obtain ⟨dst, op, ty, pos, after, guard⟩ := o
  cases ao with
  | p po =>
    simp only [evalOp] at h
    cases hv : evalP po vs with
    | none => simp only [hv, ne_eq, not_true, forall_const] at h
    | some v =>
      obtain ⟨h1, h2⟩ := pop_sound (P := P) (w := w) (ρ := a.eval) op po xs vs v dst ty pos after guard ht hx hok hv
      rw [h1]
      exact hK v st.hp ι [] w (fun τ => by simp only [evalOp, hv]; rfl) (hF.put hd h2) hM hG (Ext.refl _ _) (Evol.refl _) h2
  | l lo =>
    simp only [evalOp] at h
    cases hv : evalL lo vs st.hp with
    | none => simp only [hv, ne_eq, not_true, forall_const] at h
    | some v =>
      obtain ⟨h1, h2⟩ := lop_sound (P := P) (ρ := a.eval) hM op lo xs vs v dst ty pos after guard ht hx hv
      rw [h1]
      exact hK v st.hp ι [] w (fun τ => by simp only [evalOp, hv]; rfl) (hF.put hd h2) hM hG (Ext.refl _ _) (Evol.refl _) h2
  | e eo =>
    simp only [evalOp] at h
    obtain ⟨nx, v, w', ι', H', pre, h1, h2, h3, h4, h5, h6, h7⟩ := eop_sound (P := P) (ρ := a.eval) hM op eo xs vs dst ty pos after guard ht hx hok h
    rw [h1]
    have hF' := (hF.step h5 h6).put hd h7
    rcases h2 with rfl | ⟨rfl, rfl⟩
    · exact hK v H' ι' pre w' h3 hF' h4 (hG.step h5 h6) h5 h6 h7
    · exact hK _ H' ι' pre w' h3 hF' h4 (hG.step h5 h6) h5 h6 h7
  | call f =>
    simp only [evalOp] at h
    obtain ⟨hp, hcalls⟩ := hc f vs st.hp ι w hM hG hok h
    have hrun : (execOp a.eval ⟨dst, op, ty, pos, after, guard⟩).run P w = .ok (.enter f (cvl ι vs).toArray) w := by
      cases op <;> simp only [trOp] at ht
      case call cl =>
        split at ht
        · rename_i f' hcl
          split at ht
          · cases ht
            have hargs : cl.args.map a.eval = (cvl ι vs).toArray := by rw [← hx, ← Array.toList_map]
            simp only [execOp, resolve, hcl, Act.eval, Deferred.ofValue, Sem.run_bind, Sem.run_pure, Result.andThen_ok, invoke]
            rw [hargs]
            simpa using callFunc_plain hp (cvl ι vs).toArray
          · cases ht
        · cases ht
        · split at ht
          · rename_i o' hb
            exfalso
            cases ht
            unfold trBuiltin at hb
            repeat' (split at hb)
            all_goals cases hb
          · cases ht
        · cases ht
      case next x b => cases b <;> simp only at ht <;> cases ht
      case makeFunc fn first captured => cases fn <;> simp only at ht <;> cases ht
      all_goals first
        | (cases ht; done)
        | (repeat' (split at ht)) <;> first | (cases ht; done) | (obtain ⟨_, ht⟩ := kn_some ht; cases ht; done)
    rw [hrun, Oper.upon_enter]
    refine hcalls.mono fun e w' ⟨v, H', ι', pre, he, h3, h4, h5, h6, h7⟩ => ?_
    subst he
    exact hK v H' ι' pre w' h3 ((hF.step h5 h6).put hd h7) h4 (hG.step h5 h6) h5 h6 h7
  | callv =>
    cases op <;> simp only [trOp] at ht
    case call cl =>
      split at ht
      · split at ht <;> cases ht
      · rename_i fo hnf hcl
        cases ht
        obtain ⟨fv, r, rfl, hfv, hr⟩ := mapCons hx
        simp only [evalOp] at h
        cases fv with
        | func f first cap =>
          simp only at h
          have hok' : VsOk st.hp (first ++ r ++ cap) := by
            rw [VsOk_iff]
            intro v hv
            rcases List.mem_append.1 hv with hv | hv
            · rcases List.mem_append.1 hv with hv | hv
              · exact (VsOk_iff _ _).1 hok.1.1 v hv
              · exact (VsOk_iff _ _).1 hok.2 v hv
            · exact (VsOk_iff _ _).1 hok.1.2 v hv
          obtain ⟨hp, hcalls⟩ := hc f (first ++ r ++ cap) st.hp ι w hM hG hok' h
          have hargs : cl.args.map a.eval = (cvl ι r).toArray := by rw [← hr, ← Array.toList_map]
          have hrun : (execOp a.eval ⟨dst, .call cl, ty, pos, after, guard⟩).run P w = .ok (.enter f (cvl ι (first ++ r ++ cap)).toArray) w := by
            have hres : (resolve a.eval cl ty).run P w = .ok { target := .fn (.func f) (cvl ι cap).toArray, args := (cvl ι first).toArray ++ (cvl ι r).toArray } w := by
              simp only [resolve, hcl, hfv, cv, Deferred.ofValue, Sem.run_pure, hargs]
            simp only [execOp, Sem.run_bind, hres, Result.andThen_ok, invoke]
            rw [callFunc_plain hp]
            simp [cvl_append]
          rw [hrun, Oper.upon_enter]
          refine hcalls.mono fun e w' ⟨v, H', ι', pre, he, h3, h4, h5, h6, h7⟩ => ?_
          subst he
          exact hK v H' ι' pre w' h3 ((hF.step h5 h6).put hd h7) h4 (hG.step h5 h6) h5 h6 h7
        | _ => simp at h
      · split at ht
        · rename_i o' hb
          exfalso
          cases ht
          unfold trBuiltin at hb
          repeat' (split at hb)
          all_goals cases hb
        · cases ht
      · cases ht
    case next x b => cases b <;> simp only at ht <;> cases ht
    case makeFunc fn first captured => cases fn <;> simp only at ht <;> cases ht
    all_goals first
      | (cases ht; done)
      | (repeat' (split at ht)) <;> first | (cases ht; done) | (obtain ⟨_, ht⟩ := kn_some ht; cases ht; done)
end
end Go.Am
