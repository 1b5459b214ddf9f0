/-
  THE ABSTRACT MACHINE 'Am', twenty-third part: code, and calls.
-/
import Derived.LoopN
import Derived.Scope
import Derived.Test.YtpfaceclaigpgaaDoorAm22
namespace Go.Am
open Go.RowKit (Below)

/-- the model's code, and the machine's of it -/
inductive Tr (P : Program) (nt : Nat) : Code → C → Prop where
  | skip : Tr P nt .skip .skip
  | label (l : Nat) : Tr P nt (.label l) .skip
  | reg {id : Nat} {ops : Array Oper} {is : List Ins} (h : allSome (trIns P nt ops.toList) ops.toList = some is) : Tr P nt (.region id ops false) (.reg is)
  | draw {id : Nat} {ops : Array Oper} {is : List Ins} (h : trDraw P nt ops.toList = some is) : Tr P nt (.region id ops true) (.draw is)
  | seq {a b : Code} {x y : C} (h : Tr P nt a x) (k : Tr P nt b y) : Tr P nt (.seq a b) (.seq x y)
  | cond {c : Operand} {o : O} {a b : Code} {x y : C} (hc : trO P c = some o) (h : Tr P nt a x) (k : Tr P nt b y) : Tr P nt (.cond c a b) (.cond o x y)
  | block {id : Nat} {a : Code} {x : C} (h : Tr P nt a x) : Tr P nt (.block id a) (.block id x)
  | loop {a : Code} {x : C} (h : Tr P nt a x) : Tr P nt (.loop a) (.loop x)
  | scope {a : Code} {x : C} (h : Tr P nt a x) : Tr P nt (.scope a) (.scope x)
  | exit (id : Nat) : Tr P nt (.exit id) (.exit id)
  | ret : Tr P nt .ret .ret
  | keep {l : List Nat} {a : Code} {x : C} (h : Tr P nt a x) : Tr P nt a (.keep l x)
  | bad (a : Code) : Tr P nt a .bad

theorem tr_of_strip {P : Program} {nt : Nat} : ∀ (x : C) (a : Code), x.strip = trCode P nt a → Tr P nt a x := by
  intro x
  induction x with
  | bad => intro a _; exact .bad a
  | keep l x ih => intro a h; exact .keep (ih a h)
  | skip => intro a h; cases a <;> simp only [C.strip, trCode] at h <;> first | exact .skip | exact .label _ | (cases h; done) | (split at h <;> cases h; done) | (split at h <;> split at h <;> cases h; done) | skip
            all_goals (rename_i d; cases d <;> simp only [trCode] at h <;> split at h <;> cases h)
  | reg ops =>
    intro a h
    cases a <;> simp only [C.strip, trCode] at h <;> (try (cases h; done)) <;> (try (split at h <;> cases h; done))
    rename_i id o d
    cases d <;> simp only [trCode] at h <;> split at h
    · rename_i is hi; cases h; exact .reg hi
    · cases h
    · cases h
    · cases h
  | draw ops =>
    intro a h
    cases a <;> simp only [C.strip, trCode] at h <;> (try (cases h; done)) <;> (try (split at h <;> cases h; done))
    rename_i id o d
    cases d <;> simp only [trCode] at h <;> split at h
    · cases h
    · cases h
    · rename_i is hi; cases h; exact .draw hi
    · cases h
  | seq x y ihx ihy =>
    intro a h
    cases a <;> simp only [C.strip, trCode] at h <;> (try (cases h; done)) <;> (try (split at h <;> cases h; done))
    · rename_i id o d
      cases d <;> simp only [trCode] at h <;> split at h <;> cases h
    · injection h with h1 h2
      exact .seq (ihx _ h1) (ihy _ h2)
  | cond o x y ihx ihy =>
    intro a h
    cases a <;> simp only [C.strip, trCode] at h <;> (try (cases h; done))
    · rename_i id o d
      cases d <;> simp only [trCode] at h <;> split at h <;> cases h
    · split at h
      · rename_i o' ho
        injection h with h0 h1 h2
        subst h0
        exact .cond ho (ihx _ h1) (ihy _ h2)
      · cases h
  | block id x ih =>
    intro a h
    cases a <;> simp only [C.strip, trCode] at h <;> (try (cases h; done)) <;> (try (split at h <;> cases h; done))
    · rename_i id o d
      cases d <;> simp only [trCode] at h <;> split at h <;> cases h
    · injection h with h0 h1
      subst h0
      exact .block (ih _ h1)
  | loop x ih =>
    intro a h
    cases a <;> simp only [C.strip, trCode] at h <;> (try (cases h; done)) <;> (try (split at h <;> cases h; done))
    · rename_i id o d
      cases d <;> simp only [trCode] at h <;> split at h <;> cases h
    · injection h with h1
      exact .loop (ih _ h1)
  | scope x ih =>
    intro a h
    cases a <;> simp only [C.strip, trCode] at h <;> (try (cases h; done)) <;> (try (split at h <;> cases h; done))
    · rename_i id o d
      cases d <;> simp only [trCode] at h <;> split at h <;> cases h
    · injection h with h1
      exact .scope (ih _ h1)
  | exit id =>
    intro a h
    cases a <;> simp only [C.strip, trCode] at h <;> (try (cases h; done)) <;> (try (split at h <;> cases h; done))
    · rename_i id o d
      cases d <;> simp only [trCode] at h <;> split at h <;> cases h
    · injection h with h1
      subst h1
      exact .exit _
  | ret =>
    intro a h
    cases a <;> simp only [C.strip, trCode] at h <;> (try (cases h; done)) <;> (try (split at h <;> cases h; done))
    · rename_i id o d
      cases d <;> simp only [trCode] at h <;> split at h <;> cases h
    · exact .ret

def cvEx : Ex → Exit
  | .normal => .normal
  | .exit id => .exit id
  | .ret => .ret

/-- what code leaves -/
def CPost (P : Program) (base : Nat) (w0 : World) (ι : Inj) (H : Heap) (nt : Nat) (run : Tape → Option (Ex × St × Tape)) (e : Exit) (a : Act) (w : World) : Prop :=
  ∃ ex st' ι' pre, (∀ τ, run (Tape.app pre τ) = some (ex, st', τ)) ∧ e = cvEx ex ∧ FRel ι' st'.hp nt st'.fr a ∧ MRel ι' base w0 st'.hp w ∧ GOk P ι' st'.hp ∧ Ext H ι ι' ∧ Evol H st'.hp

section
variable {P : Program} {w0 : World} {base nt : Nat}

theorem CPost.comp {ι ι1 : Inj} {H H1 : Heap} {run run1 : Tape → Option (Ex × St × Tape)} {pre1 : List Nat} {e : Exit} {a : Act} {w : World} (h1 : ∀ τ, run (Tape.app pre1 τ) = run1 τ) (he : Ext H ι ι1) (hv : Evol H H1)
    (h : CPost P base w0 ι1 H1 nt run1 e a w) : CPost P base w0 ι H nt run e a w := by
  obtain ⟨ex, st', ι', pre, k1, k2, k3, k4, k5, k6, k7⟩ := h
  exact ⟨ex, st', ι', pre1 ++ pre, fun τ => by rw [← Tape.app_app, h1]; exact k1 τ, k2, k3, k4, k5, he.trans k6 hv.size, hv.trans k7⟩

theorem CPost.of_after {ι : Inj} {H : Heap} {run : Tape → Option (St × Tape)} {run1 : Tape → Option (Ex × St × Tape)} {a : Act} {w : World} (h1 : ∀ τ st τ', run τ = some (st, τ') → run1 τ = some (.normal, st, τ'))
    (h : After P base w0 ι H nt run a w) : CPost P base w0 ι H nt run1 .normal a w := by
  obtain ⟨st', ι', pre, k1, k2, k3, k4, k5, k6⟩ := h
  exact ⟨.normal, st', ι', pre, fun τ => h1 _ _ _ (k1 τ), rfl, k2, k3, k4, k5, k6⟩

theorem CPost.same {ι : Inj} {H : Heap} {run : Tape → Option (Ex × St × Tape)} {ex : Ex} {st : St} {a : Act} {w : World} (h1 : ∀ τ, run τ = some (ex, st, τ)) (hH : st.hp = H) (hF : FRel ι st.hp nt st.fr a) (hM : MRel ι base w0 st.hp w) (hG : GOk P ι st.hp) :
    CPost P base w0 ι H nt run (cvEx ex) a w :=
  ⟨ex, st, ι, [], h1, rfl, hF, hM, hG, Ext.refl _ _, by rw [hH]; exact Evol.refl _⟩

/-- CODE -/
theorem exec_wp (hm : P.follows .mixedOrders = true) (c : ACall) (hc : CallSound P base w0 c) (N : Nat) {code : Code} {x : C} (ht : Tr P nt code x) : ∀ (ι : Inj) (st : St) (a : Act) (w : World),
    FRel ι st.hp nt st.fr a → MRel ι base w0 st.hp w → GOk P ι st.hp → (∀ τ, exec c N x st τ ≠ none) → code.wp P (CPost P base w0 ι st.hp nt (exec c N x st)) a w := by
  induction ht with
  | skip => intro ι st a w hF hM hG _; exact wp_skip (CPost.same (ex := .normal) (fun τ => rfl) rfl hF hM hG)
  | label l => intro ι st a w hF hM hG _; exact wp_label (CPost.same (ex := .normal) (fun τ => rfl) rfl hF hM hG)
  | exit id => intro ι st a w hF hM hG _; exact wp_exit (CPost.same (ex := .exit id) (fun τ => rfl) rfl hF hM hG)
  | ret => intro ι st a w hF hM hG _; exact wp_ret (CPost.same (ex := .ret) (fun τ => rfl) rfl hF hM hG)
  | bad a0 => intro ι st a w _ _ _ h; exact absurd rfl (h (fun _ => 0))
  | @reg id ops is h =>
    intro ι st a w hF hM hG htot
    refine region_wp c hc id ops h hF hM hG ?_ _ fun a' w' hA => CPost.of_after (fun τ st' τ' hr => ?_) hA
    · intro τ hn
      exact htot τ (by simp only [exec, hn])
    · simp only [exec, hr]
  | @draw id ops is h =>
    intro ι st a w hF hM hG htot
    have hdraw : ∀ τ, ∃ st' τ' hs ls, runDraw c is st τ [st.hp] [] = some (st', τ', hs, ls) ∧ chkLoads hs.reverse ls = true := by
      intro τ
      have := htot τ
      simp only [exec] at this
      cases hr : runDraw c is st τ [st.hp] [] with
      | none => rw [hr] at this; exact absurd rfl this
      | some r =>
        obtain ⟨st', τ', hs, ls⟩ := r
        rw [hr] at this
        cases hk : chkLoads hs.reverse ls with
        | true => exact ⟨st', τ', hs, ls, rfl, hk⟩
        | false => simp only [hk, cond_false] at this; exact absurd rfl this
    refine draw_wp hm hc id h hF hM hG hdraw _ fun a' w' hA => CPost.of_after (fun τ st' τ' hr => ?_) hA
    obtain ⟨st2, τ2, hs, ls, h1, h2⟩ := hdraw τ
    have := (runDraw_spec h1).1
    rw [hr] at this
    cases this
    simp only [exec, h1, h2, cond_true]
  | @seq ca cb x y _ _ iha ihb =>
    intro ι st a w hF hM hG htot
    refine wp_seq (wp_mono (iha ι st a w hF hM hG fun τ hn => htot τ (by simp only [exec, hn])) ?_)
    rintro e a1 w1 ⟨ex, st1, ι1, pre1, k1, rfl, k3, k4, k5, k6, k7⟩
    cases ex with
    | normal =>
      have hr : ∀ τ, exec c N (.seq x y) st (Tape.app pre1 τ) = exec c N y st1 τ := fun τ => by simp only [exec, k1]
      refine wp_mono (ihb ι1 st1 a1 w1 k3 k4 k5 fun τ hn => htot (Tape.app pre1 τ) (by rw [hr, hn])) fun e a2 w2 h => h.comp hr k6 k7
    | exit id => exact ⟨.exit id, st1, ι1, pre1, fun τ => by simp only [exec, k1], rfl, k3, k4, k5, k6, k7⟩
    | ret => exact ⟨.ret, st1, ι1, pre1, fun τ => by simp only [exec, k1], rfl, k3, k4, k5, k6, k7⟩
  | @cond cc o ca cb x y hcc _ _ iha ihb =>
    intro ι st a w hF hM hG htot
    have h0 := htot (fun _ => 0)
    simp only [exec] at h0
    cases ho : evO st.fr o with
    | none => rw [ho] at h0; exact absurd rfl h0
    | some v =>
      rw [ho] at h0
      have hv := (evO_sound hF hG hcc ho).1
      cases v with
      | bool b =>
        cases b with
        | true =>
          refine wp_cond_true hv (wp_mono (iha ι st a w hF hM hG fun τ hn => htot τ (by simp only [exec, ho, hn])) fun e a' w' h => h.comp (pre1 := []) (fun τ => ?_) (Ext.refl _ _) (Evol.refl _))
          show exec c N (.cond o x y) st τ = _
          simp only [exec, ho]
        | false =>
          refine wp_cond_false hv (wp_mono (ihb ι st a w hF hM hG fun τ hn => htot τ (by simp only [exec, ho, hn])) fun e a' w' h => h.comp (pre1 := []) (fun τ => ?_) (Ext.refl _ _) (Evol.refl _))
          show exec c N (.cond o x y) st τ = _
          simp only [exec, ho]
      | _ => exact absurd rfl h0
  | @block id ca x _ ih =>
    intro ι st a w hF hM hG htot
    refine wp_block (wp_mono (ih ι st a w hF hM hG fun τ hn => htot τ (by simp only [exec, hn])) ?_)
    rintro e a1 w1 ⟨ex, st1, ι1, pre1, k1, rfl, k3, k4, k5, k6, k7⟩
    cases ex with
    | normal => exact ⟨.normal, st1, ι1, pre1, fun τ => by simp only [exec, k1], rfl, k3, k4, k5, k6, k7⟩
    | ret => exact ⟨.ret, st1, ι1, pre1, fun τ => by simp only [exec, k1], rfl, k3, k4, k5, k6, k7⟩
    | exit id' =>
      simp only [cvEx, Exit.inBlock]
      by_cases e : id' = id
      · rw [if_pos e]
        refine ⟨.normal, st1, ι1, pre1, fun τ => ?_, rfl, k3, k4, k5, k6, k7⟩
        simp only [exec, k1]
        subst e
        simp
      · rw [if_neg e]
        refine ⟨.exit id', st1, ι1, pre1, fun τ => ?_, rfl, k3, k4, k5, k6, k7⟩
        simp only [exec, k1]
        have : Nat.beq id' id = false := by
          cases hb : Nat.beq id' id with
          | false => rfl
          | true => exact absurd (Nat.eq_of_beq_eq_true hb) e
        rw [this]
        rfl
  | @loop ca x _ ih =>
    intro ι st a w hF hM hG htot
    have key : ∀ (n : Nat) (Q : Exit → Act → World → Prop) (ι : Inj) (st : St) (a : Act) (w : World), FRel ι st.hp nt st.fr a → MRel ι base w0 st.hp w → GOk P ι st.hp → (∀ τ, loopF (exec c N x) n st τ ≠ none) →
        (∀ e a' w', CPost P base w0 ι st.hp nt (loopF (exec c N x) n st) e a' w' → Q e a' w') → Code.rounds P ca Q n a w := by
      intro n
      induction n with
      | zero => intro Q ι st a w _ _ _ htot _; exact absurd rfl (htot (fun _ => 0))
      | succ n ihn =>
        intro Q ι st a w hF hM hG htot hQ
        rw [rounds_succ]
        refine wp_mono (ih ι st a w hF hM hG fun τ hn => htot τ (by simp only [loopF, hn])) ?_
        rintro e a1 w1 ⟨ex, st1, ι1, pre1, k1, rfl, k3, k4, k5, k6, k7⟩
        cases ex with
        | normal =>
          have hr : ∀ τ, loopF (exec c N x) (n + 1) st (Tape.app pre1 τ) = loopF (exec c N x) n st1 τ := fun τ => by simp only [loopF, k1]
          exact ihn Q ι1 st1 a1 w1 k3 k4 k5 (fun τ hn => htot (Tape.app pre1 τ) (by rw [hr, hn])) fun e a2 w2 h => hQ e a2 w2 (h.comp hr k6 k7)
        | exit id => exact hQ _ _ _ ⟨.exit id, st1, ι1, pre1, fun τ => by simp only [loopF, k1], rfl, k3, k4, k5, k6, k7⟩
        | ret => exact hQ _ _ _ ⟨.ret, st1, ι1, pre1, fun τ => by simp only [loopF, k1], rfl, k3, k4, k5, k6, k7⟩
    refine wp_loop_rounds N (key N _ ι st a w hF hM hG (fun τ hn => htot τ (by simp only [exec, hn])) fun e a' w' h => ?_)
    exact h.comp (pre1 := []) (fun τ => by show exec c N (.loop x) st τ = _; simp only [exec]) (Ext.refl _ _) (Evol.refl _)
  | @scope ca x _ ih =>
    intro ι st a w hF hM hG htot
    refine wp_scope_straight (wp_mono (ih ι st a w hF hM hG fun τ hn => htot τ (by simp only [exec, hn])) ?_)
    rintro e a1 w1 ⟨ex, st1, ι1, pre1, k1, rfl, k3, k4, k5, k6, k7⟩
    have hp : CPost P base w0 ι st.hp nt (exec c N (.scope x) st) (cvEx ex) a1 w1 := ⟨ex, st1, ι1, pre1, fun τ => by simp only [exec, k1], rfl, k3, k4, k5, k6, k7⟩
    cases ex <;> exact hp
  | @keep l ca x _ ih =>
    intro ι st a w hF hM hG htot
    have hF' : FRel ι st.hp nt (keepT l st.fr .leaf) a := ⟨hF.defers, hF.size, fun t v h => by
      rw [keepT_get] at h
      split at h
      · exact hF.get t v h
      · cases h⟩
    refine wp_mono (ih ι ⟨keepT l st.fr .leaf, st.hp⟩ a w hF' hM hG fun τ hn => htot τ (by simp only [exec, hn])) fun e a' w' h => h.comp (pre1 := []) (fun τ => ?_) (Ext.refl _ _) (Evol.refl _)
    show exec c N (.keep l x) st τ = _
    simp only [exec]
end
end Go.Am
