/-
  THE ABSTRACT MACHINE 'Am', twenty-fourth part: calls.
-/
import Derived.Calls
import Derived.Test.YtpfaceclaigpgaaDoorAm23
namespace Go.Am
open Go.RowKit (Below)

/-- one result, read -/
def resM (tmps : Array Value) : ResultVar → Sem Value
  | .tmp t => pure (tmps.getD t undef)
  | .cell a t => do loadVar t (← asAddr (tmps.getD a undef))

theorem results_eq (fn : Func) (tmps : Array Value) : Go.results fn tmps = (do let vs ← fn.results.mapM (resM tmps); pure (if h : vs.size = 1 then vs[0] else .tuple vs)) := by
  unfold Go.results
  congr 1

section
variable {P : Program} {w w0 : World} {base nt : Nat} {ι : Inj}

theorem res_sound {st : St} {a : Act} (hF : FRel ι st.hp nt st.fr a) (hM : MRel ι base w0 st.hp w) (r : ResultVar) (v : V) (hk : resOk P r = true) (hv : resOf st (trRes P r) = some v) :
    (resM a.tmps r).run P w = .ok (cv ι v) w ∧ VOk st.hp v := by
  cases r with
  | tmp t =>
    simp only [trRes, resOf] at hv
    obtain ⟨k1, k2⟩ := hF.get t v hv
    refine ⟨?_, k2⟩
    simp [resM, k1]
  | cell x t =>
    simp only [trRes, resOf] at hv
    split at hv
    · rename_i u hu
      obtain ⟨k1, _⟩ := hF.get x u hu
      obtain ⟨d, hd⟩ := Option.isSome_iff_exists.1 (show (P.underlying t).isSome = true from hk)
      have hop : trOp P (.load t (.tmp x)) = some (.l (.load (aggN P t)), [.tmp x]) := by
        simp [trOp, kn, hd]
      have e2 : a.eval (.tmp x) = cv ι u := by simp [Act.eval, k1]
      have hx : [Operand.tmp x].map a.eval = cvl ι [u] := by
        simp [e2, cvl]
      obtain ⟨m1, m2⟩ := lop_sound (P := P) (ρ := a.eval) hM (.load t (.tmp x)) _ _ [u] v none 0 "" #[] none hop hx hv
      refine ⟨?_, m2⟩
      simp only [execOp, Instr.loadAt, e2] at m1
      have e1 : a.tmps.getD x undef = cv ι u := by simp [k1]
      unfold resM
      simp only [Sem.run_bind]
      rw [e1]
      cases u with
      | ptr id off =>
        simp only [cv, asAddr, Instr.sureAddr, Sem.run_bind, Sem.run_pure, Result.andThen_ok] at m1 ⊢
        cases hr : (loadVar t { block := (ι id).1, off := (ι id).2 + off }).run P w with
        | ok v' w' =>
          rw [hr] at m1
          simpa using m1
        | halt x' w' =>
          rw [hr] at m1
          simp [Result.andThen] at m1
      | _ => simp only [evalL, aggN, lLoad] at hv; split at hv <;> simp [lLoad1, lLoadN] at hv
    · cases hv

theorem resAll_sound {st : St} {a : Act} (hF : FRel ι st.hp nt st.fr a) (hM : MRel ι base w0 st.hp w) : ∀ (rs : List ResultVar) (vs : List V), rs.all (resOk P) = true → resAll st (rs.map (trRes P)) = some vs →
    (rs.mapM (resM a.tmps)).run P w = .ok (cvl ι vs) w ∧ VsOk st.hp vs := by
  intro rs
  induction rs with
  | nil =>
    intro vs _ h
    simp only [List.map_nil, resAll, Option.some.injEq] at h
    subst h
    exact ⟨rfl, trivial⟩
  | cons r rs ih =>
    intro vs hk h
    simp only [List.map_cons, resAll] at h
    simp only [List.all_cons, Bool.and_eq_true] at hk
    split at h
    · rename_i v hv
      split at h
      · rename_i vs' hvs
        cases h
        obtain ⟨h1, h2⟩ := ih vs' hk.2 hvs
        obtain ⟨h3, h4⟩ := res_sound hF hM r v hk.1 hv
        refine ⟨?_, h4, h2⟩
        rw [List.mapM_cons]
        simp only [Sem.run_bind, h3, Result.andThen_ok, h1, Sem.run_pure, cvl]
      · cases h
    · cases h

theorem results_sound {fn : Func} {st : St} {a : Act} (hF : FRel ι st.hp nt st.fr a) (hM : MRel ι base w0 st.hp w) {v : V} (hk : fn.results.toList.all (resOk P) = true) (h : Am.results st (fn.results.toList.map (trRes P)) = some v) :
    (Go.results fn a.tmps).run P w = .ok (cv ι v) w ∧ VOk st.hp v := by
  rw [results_eq]
  have hm : ∀ vs, resAll st (fn.results.toList.map (trRes P)) = some vs → (fn.results.mapM (resM a.tmps)).run P w = .ok (cvl ι vs).toArray w ∧ VsOk st.hp vs := by
    intro vs hvs
    obtain ⟨h1, h2⟩ := resAll_sound hF hM _ vs hk hvs
    refine ⟨?_, h2⟩
    have : fn.results.mapM (resM a.tmps) = List.toArray <$> fn.results.toList.mapM (resM a.tmps) := by
      rw [← List.mapM_toArray]
    rw [this, Sem.run_map, h1]
    rfl
  unfold Am.results at h
  split at h
  · rename_i v' hvs
    cases h
    obtain ⟨h1, h2⟩ := hm _ hvs
    refine ⟨?_, h2.1⟩
    simp only [Sem.run_bind, h1, Result.andThen_ok, Sem.run_pure, cvl]
    rfl
  · rename_i vs hne hvs
    cases h
    obtain ⟨h1, h2⟩ := hm _ hvs
    refine ⟨?_, h2⟩
    simp only [Sem.run_bind, h1, Result.andThen_ok, Sem.run_pure]
    rw [dif_neg]
    · rfl
    · intro hs
      cases vs with
      | nil => simp [cvl] at hs
      | cons x xs =>
        cases xs with
        | nil => exact hne x rfl
        | cons y ys => simp [cvl] at hs
  · cases h

theorem frameOf_get : ∀ (vs : List V) (i : Nat) (fr : T V) (t : Nat) (v : V), (frameOf vs i fr).get t = some v → (i ≤ t ∧ vs[t - i]? = some v) ∨ fr.get t = some v := by
  intro vs
  induction vs with
  | nil => intro i fr t v h; exact .inr h
  | cons x vs ih =>
    intro i fr t v h
    simp only [frameOf] at h
    rcases ih (i + 1) _ t v h with ⟨h1, h2⟩ | h1
    · refine .inl ⟨by omega, ?_⟩
      rw [show t - i = (t - (i + 1)) + 1 by omega]
      exact h2
    · rw [T.get_set] at h1
      split at h1
      · rename_i e
        subst e
        exact .inl ⟨Nat.le_refl _, by simpa using h1⟩
      · exact .inr h1

/-- a function of the program's, as the machine has it -/
def FnOk (P : Program) (f : FuncId) (fn : Fun) : Prop :=
  ∃ g code, P.funcs[f]? = some g ∧ g.body = some code ∧ plainCall P f = true ∧ Tr P g.ntmps code fn.body ∧ fn.res = g.results.toList.map (trRes P) ∧ g.results.toList.all (resOk P) = true

/-- a function that is known by what it answers -/
def PrimOk (P : Program) (base : Nat) (w0 : World) (f : FuncId) (p : List V → Heap → Tape → Option (V × Heap × Tape)) : Prop :=
  ∀ vs H ι w, MRel ι base w0 H w → GOk P ι H → VsOk H vs → (∀ τ, p vs H τ ≠ none) →
    plainCall P f = true ∧ Calls P f (cvl ι vs).toArray w fun e w' =>
      ∃ v H' ι' pre, e = .returned (cv ι' v) ∧ (∀ τ, p vs H (Tape.app pre τ) = some (v, H', τ)) ∧ MRel ι' base w0 H' w' ∧ Ext H ι ι' ∧ Evol H H' ∧ VOk H' v

def DefOk (P : Program) (base : Nat) (w0 : World) (f : FuncId) : Def → Prop
  | .fn fn => FnOk P f fn
  | .prim p => PrimOk P base w0 f p

/-- CALLS -/
theorem call_sound (hm : P.follows .mixedOrders = true) {prog : Nat → Option Def} (hp : ∀ f d, prog f = some d → DefOk P base w0 f d) (N : Nat) : ∀ k, CallSound P base w0 (call prog N k) := by
  intro k
  induction k with
  | zero => intro f vs H ι w _ _ _ h; exact absurd rfl (h (fun _ => 0))
  | succ k ih =>
    intro f vs H ι w hM hG hok h
    have hcall : ∀ τ, call prog N (k + 1) f vs H τ = callDef (call prog N k) N (prog f) vs H τ := fun τ => rfl
    simp only [hcall] at h ⊢
    cases hd : prog f with
    | none => rw [hd] at h; exact absurd rfl (h (fun _ => 0))
    | some d =>
      rw [hd] at h
      have hok' := hp f d hd
      cases d with
      | prim p => exact hok' vs H ι w hM hG hok h
      | fn fn =>
        obtain ⟨g, code, hg, hb, hpl, htr, hres, hrk⟩ := hok'
        refine ⟨hpl, ?_⟩
        have hlen : Nat.beq vs.length fn.nparams = true := by
          cases hb : Nat.beq vs.length fn.nparams with
          | true => rfl
          | false =>
            have := h (fun _ => 0)
            simp only [callDef, hb, cond_false] at this
            exact absurd rfl this
        simp only [callDef, hlen, cond_true] at h ⊢
        have hF : FRel ι H g.ntmps (frameOf vs 0 .leaf) { tmps := (cvl ι vs).toArray ++ Array.replicate (g.ntmps - (cvl ι vs).toArray.size) undef, defers := [] } := by
          refine ⟨rfl, ?_, fun t v ht => ?_⟩
          · simp only [Array.size_append, Array.size_replicate]
            omega
          · rcases frameOf_get vs 0 .leaf t v ht with ⟨_, h1⟩ | h1
            · rw [Nat.sub_zero] at h1
              have hlt : t < vs.length := (List.getElem?_eq_some_iff.1 h1).1
              refine ⟨?_, (VsOk_iff H vs).1 hok v (List.mem_of_getElem? h1)⟩
              rw [Array.getElem?_append_left (by simp [cvl_length, hlt])]
              have := cvl_get ι vs t
              rw [h1] at this
              simpa using this
            · rw [T.get_leaf] at h1; cases h1
        refine calls_of_wp hg hb (wp_mono (exec_wp hm (call prog N k) ih N htr ι ⟨frameOf vs 0 .leaf, H⟩ _ w hF hM hG ?_) ?_)
        · intro τ hn
          exact h τ (by rw [hn])
        · rintro e a' w' ⟨ex, st', ι', pre, k1, rfl, k3, k4, k5, k6, k7⟩
          have hx := h (Tape.app pre (fun _ => 0))
          rw [k1] at hx
          have fin : ∀ v, Am.results st' fn.res = some v → (Go.results g a'.tmps).run P w' = .ok (cv ι' v) w' ∧ VOk st'.hp v := by
            intro v hv
            rw [hres] at hv
            exact results_sound k3 k4 hrk hv
          cases ex with
          | exit id => exact absurd rfl hx
          | normal =>
            simp only at hx
            cases hr : Am.results st' fn.res with
            | none => rw [hr] at hx; exact absurd rfl hx
            | some v =>
              obtain ⟨m1, m2⟩ := fin v hr
              exact ⟨k3.defers, cv ι' v, m1, v, st'.hp, ι', pre, rfl, fun τ => by simp only [k1, hr], k4, k6, k7, m2⟩
          | ret =>
            simp only at hx
            cases hr : Am.results st' fn.res with
            | none => rw [hr] at hx; exact absurd rfl hx
            | some v =>
              obtain ⟨m1, m2⟩ := fin v hr
              exact ⟨k3.defers, cv ι' v, m1, v, st'.hp, ι', pre, rfl, fun τ => by simp only [k1, hr], k4, k6, k7, m2⟩
end
end Go.Am
