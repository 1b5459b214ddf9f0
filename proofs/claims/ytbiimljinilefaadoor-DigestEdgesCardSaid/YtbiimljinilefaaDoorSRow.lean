/- DigestEdges, for any number and byte: its call answers true; no condition of our own. -/
import Derived.Test.YtbiimljinilefaaDoorCards
import Derived.Test.YtbiimljinilefaaDoorTie
import Derived.ChangeSame
import Derived.ChangeVars
import Derived.JoinedOf
import Derived.RowKit
import Derived.LaidLaws
import Derived.LaidMore
import Derived.LaidHandle
import Derived.Lay
import Derived.ProofKit
import Derived.OpenShut
import Derived.Stop.Joined
import Derived.SevenTiedAt
import Derived.Test.YtbiimljinilefaaDoorSOk
import Derived.Test.YtbiimljinilefaaDoorSC17
namespace Go.Proofs.YtbiimljinilefaaDoor
open Go Go.Am Go.Am.AmTrydDig Go.ChangeShapes Go.WideShapes Go.RowKit
set_option maxRecDepth 1000000
theorem de_own : ownKnob Tryd.prog.godebug = none := by kernel_rfl
theorem de_laidOut : laidOutB Tryd.prog = true := by kernel_rfl
theorem de_nglob : Tryd.prog.globals.size = 6 := by kernel_rfl
theorem de_st : startOf Tryd.prog (Rows.digestEdgesRow.laid.map fun x => (x.1, x.2)) = st0 := by kernel_rfl
theorem de_st' : startOf Tryd.prog Rows.digestEdgesRow.laid = st0 := de_st
theorem digestEdges_lifted (os : Os) (started : os.Started) (H : Type) (enc : TypeId × Value → H) :
    ReturnsInHanded {} Tryd.checked os 5 .any (fun w args => (Rows.digestEdgesSpec.pre enc Tryd.prog Tryd.f5 [] false w args ∧ laidMetH Tryd.prog Rows.digestEdgesRow.laid w) ∧ sizedMet enc Tryd.prog Tryd.f5 (OpenSpec.ofChange Rows.digestEdgesSpec) false w args)
      (Rows.digestEdgesSpec.post enc Tryd.prog Tryd.f5 false true false false) := by
  refine returnsInHanded_of_change_and (C := Tryd.checked) (X := fun w _ => laidMetH Tryd.prog Rows.digestEdgesRow.laid w) (fun _ _ _ hh h => h.of_heap hh) de_own started (by kernel_rfl) Tryd.func5
    (ChangeSpec.witness_shaped (enc := enc) (C := Tryd.checked) (os := os) (X := fun w _ => laidMetH Tryd.prog Rows.digestEdgesRow.laid w) false (World.laidAll Tryd.prog os Rows.digestEdgesRow.laid) #[.int .i64 0, .int .u8 0] 8 (World.laidAll_os _ _ _) (World.shaped_of_ZipB (by kernel_rfl) (by kernel_rfl)) (by kernel_rfl) (by kernel_rfl) (by kernel_rfl)
      (by rw [MakeChecks.laidMetH_plain _ _ _ (by kernel_rfl)]; exact laidMet_laidAll _ (by kernel_rfl) (by kernel_rfl))) ?_
  intro W base args ds gs before hval0 hW _ _ hL _
  have hval : ∀ (j : Nat) t v, Tryd.f5.params[j]? = some t → args[j]? = some v → Value.okWide Tryd.prog W .any base t v := hval0
  have hL' : laidMet Tryd.prog Rows.digestEdgesRow.laid W := by rw [MakeChecks.laidMetH_plain _ _ _ (by kernel_rfl)] at hL; exact hL
  have hW' := hW
  obtain ⟨p, q, hA0, hV, rfl, hfz, hnd⟩ := hW
  have hA : DataW.TrodAll enc Tryd.prog W 0 (fun _ => true) true Tryd.f5.params.toList args.toList ds p := hA0
  rw [Tryd.params5] at hA hval
  obtain ⟨v0, vs1, d0, ds1, p0, q0, hargs, rfl, rfl, hd0, hA1⟩ := trodAll_cons hA
  obtain ⟨v1, vs2, d1, ds2, p1, q1, rfl, rfl, rfl, hd1, hA2⟩ := trodAll_cons hA1
  obtain ⟨rfl, rfl, rfl⟩ := trodAll_nil hA2
  obtain ⟨al⟩ := args
  simp only at hargs
  subst hargs
  obtain ⟨a, rfl, rfl, rfl, w1⟩ := open_int Tryd.underlying3 (hval 0 3 v0 rfl rfl) hd0
  obtain ⟨b, rfl, rfl, rfl, w2⟩ := open_int Tryd.underlying5 (hval 1 5 v1 rfl rfl) hd1
  obtain ⟨rfl, rfl⟩ := trodVars_none hV
  have hb : 0 ≤ b := by
    have h' : IntKind.u8.min ≤ b ∧ b ≤ IntKind.u8.max := by simpa [Lit.wf] using w2
    exact h'.1
  obtain ⟨cc, rfl⟩ := Int.eq_ofNat_of_zero_le hb
  have hlen : st0.length = 6 := by kernel_rfl
  have hok : ∀ id cs, st0[id]? = some (some cs) → VsOk (Am.start st0) cs ∧ BOk (fun id => (id, 0)) W.heap.size W id cs cs.length false := by
    intro id cs hid
    rw [← de_st'] at hid
    exact startOf_ok (P := Tryd.prog) hL' (ι := fun id => (id, 0)) (fun g _ => rfl) _ id cs hid
  have hl0 : Laid0 (Am.start st0) := fun j cs hj => start_cells hj
  have hrun := run_all (F := tabF) (E := tabE) (N := 9223372036854775808) (d := 40) (f := 5) (tab_ok _) (fun τ => digestEdges_run (by decide) a cc _ (start_wf st0) hl0 τ)
  have hcall := call_true (P := Tryd.prog) mixed_ok (W := W) (defs_ok (all_ok W.heap.size W)) 9223372036854775808 40 5 [.int .i64 a, .int .u8 (cc : Int)] st0 (fun id => (id, 0)) hok (fun g _ => rfl) (by rw [de_nglob, hlen]; decide) ⟨trivial, trivial, trivial⟩ hrun
  refine hcall.mono fun e W' ⟨he, hb⟩ => ?_
  subst he
  exact ⟨_, rfl, law_post (P := Tryd.prog) de_laidOut rfl rfl (by kernel_rfl) Tryd.underlying4 (by kernel_rfl) hW' hb⟩

theorem digestEdges_holds : Rows.DigestEdgesSaid :=
  OpenClaim.holds_of_wide 5 Tryd.f5 rfl rfl rfl rfl rfl rfl rfl ⟨rfl, rfl, rfl, rfl, rfl⟩ rfl rfl rfl rfl rfl (by kernel_rfl) Tryd.func5 (by kernel_rfl)
    (of_decide_eq_true (by kernel_rfl)) (by unfold Func.isWrapper; first | (rw [if_pos (by decide +kernel)]; kernel_rfl) | (rw [if_neg (by decide +kernel)]; exact ⟨rfl, rfl⟩))
    (fun os started H enc _ => digestEdges_lifted os started H enc)

theorem digestEdges_card : Rows.DigestEdgesCardSaid :=
  Claim7.holds_tied_plain_at .later [] _ true _ _
    digestEdges_holds (fun _ h => by cases h) (by kernel_rfl) (fun _ h => by cases h) digestEdges_row_tie rfl ⟨rfl, rfl⟩ (by kernel_rfl) rfl
    (fun f fn hf hfn => by
      obtain rfl : f = 5 := Option.some.inj ((show Tryd.prog.funcNamed "ostiary/ostiarylaw8.DigestEdges" = some 5 by kernel_rfl).symm.trans hf) |>.symm
      obtain rfl : fn = Tryd.f5 := (Option.some.inj (Tryd.func5.symm.trans hfn)).symm
      exact ⟨by kernel_rfl, fun j t ht => by
        rw [Tryd.params5] at ht
        have h3 : Tryd.prog.wantsStandIn 3 = false := by kernel_rfl
        have h5 : Tryd.prog.wantsStandIn 5 = false := by kernel_rfl
        rcases j with _ | _ | j
        · simp at ht; subst ht; exact h3
        · simp at ht; subst ht; exact h5
        · simp at ht⟩)
    (by kernel_rfl)
#print axioms digestEdges_card
end Go.Proofs.YtbiimljinilefaaDoor
