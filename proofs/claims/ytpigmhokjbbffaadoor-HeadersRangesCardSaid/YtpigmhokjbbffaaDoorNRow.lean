/- HeadersRanges, for any inputs: its call answers true; no condition of our own. -/
import Derived.Test.YtpigmhokjbbffaaDoorCards
import Derived.Test.YtpigmhokjbbffaaDoorTie
import Derived.ChangeSame
import Derived.ChangeVars
import Derived.JoinedOf
import Derived.RowKit
import Derived.LaidLaws
import Derived.LaidMore
import Derived.LaidHandle
import Derived.Lay
import Derived.ProofKit
import Derived.OpenShut
import Derived.Stop.Joined
import Derived.SevenTiedAt
import Derived.Test.YtpigmhokjbbffaaDoorNOk
import Derived.Test.YtpigmhokjbbffaaDoorNC2
namespace Go.Proofs.YtpigmhokjbbffaaDoor
open Go Go.Am Go.Am.AmTrydHd Go.ChangeShapes Go.WideShapes Go.RowKit
set_option maxRecDepth 1000000
theorem hr_own : ownKnob Tryd.prog.godebug = none := by kernel_rfl
theorem hr_laidOut : laidOutB Tryd.prog = true := by kernel_rfl
theorem hr_nglob : Tryd.prog.globals.size = 3 := by kernel_rfl
theorem headersRanges_lifted (os : Os) (started : os.Started) (H : Type) (enc : TypeId × Value → H) :
    ReturnsInHanded {} Tryd.checked os 4 .any (fun w args => (Rows.headersRangesSpec.pre enc Tryd.prog Tryd.f4 [] false w args ∧ laidMetH Tryd.prog Rows.headersRangesRow.laid w) ∧ sizedMet enc Tryd.prog Tryd.f4 (OpenSpec.ofChange Rows.headersRangesSpec) false w args)
      (Rows.headersRangesSpec.post enc Tryd.prog Tryd.f4 false true false false) := by
  refine returnsInHanded_of_change_and (C := Tryd.checked) (X := fun w _ => laidMetH Tryd.prog Rows.headersRangesRow.laid w) (fun _ _ _ hh h => h.of_heap hh) hr_own started (by kernel_rfl) Tryd.func4
    (ChangeSpec.witness_shaped (enc := enc) (C := Tryd.checked) (os := os) (X := fun w _ => laidMetH Tryd.prog Rows.headersRangesRow.laid w) false (World.laidAll Tryd.prog os Rows.headersRangesRow.laid) #[.int .i64 0, .int .i64 0, .bool false, .bool false] 8 (World.laidAll_os _ _ _) (World.shaped_of_ZipB (by kernel_rfl) (by kernel_rfl)) (by kernel_rfl) (by kernel_rfl) (by kernel_rfl)
      (by rw [MakeChecks.laidMetH_plain _ _ _ (by kernel_rfl)]; exact laidMet_laidAll _ (by kernel_rfl) (by kernel_rfl))) ?_
  intro W base args ds gs before hval0 hW _ _ hL _
  have hval : ∀ (j : Nat) t v, Tryd.f4.params[j]? = some t → args[j]? = some v → Value.okWide Tryd.prog W .any base t v := hval0
  have hL' : laidMet Tryd.prog Rows.headersRangesRow.laid W := by rw [MakeChecks.laidMetH_plain _ _ _ (by kernel_rfl)] at hL; exact hL
  have hW' := hW
  obtain ⟨p, q, hA0, hV, rfl, hfz, hnd⟩ := hW
  have hA : DataW.TrodAll enc Tryd.prog W 0 (fun _ => true) true Tryd.f4.params.toList args.toList ds p := hA0
  rw [Tryd.params4] at hA hval
  obtain ⟨v0, vs1, d0, ds1, p0, q0, hargs, rfl, rfl, hd0, hA1⟩ := trodAll_cons hA
  obtain ⟨v1, vs2, d1, ds2, p1, q1, rfl, rfl, rfl, hd1, hA2⟩ := trodAll_cons hA1
  obtain ⟨v2, vs3, d2, ds3, p2, q2, rfl, rfl, rfl, hd2, hA3⟩ := trodAll_cons hA2
  obtain ⟨v3, vs4, d3, ds4, p3, q3, rfl, rfl, rfl, hd3, hA4⟩ := trodAll_cons hA3
  obtain ⟨rfl, rfl, rfl⟩ := trodAll_nil hA4
  obtain ⟨al⟩ := args
  simp only at hargs
  subst hargs
  obtain ⟨x0, rfl, rfl, rfl, w0⟩ := open_int Tryd.underlying3 (hval 0 3 v0 rfl rfl) hd0
  obtain ⟨x1, rfl, rfl, rfl, w1⟩ := open_int Tryd.underlying3 (hval 1 3 v1 rfl rfl) hd1
  obtain ⟨x2, rfl, rfl, rfl⟩ := open_bool Tryd.underlying4 (hval 2 4 v2 rfl rfl) hd2
  obtain ⟨x3, rfl, rfl, rfl⟩ := open_bool Tryd.underlying4 (hval 3 4 v3 rfl rfl) hd3
  obtain ⟨rfl, rfl⟩ := trodVars_none hV
  have hlen : (startOf Tryd.prog Rows.headersRangesRow.laid).length = 3 := by unfold startOf; rw [List.length_map, List.length_range, hr_nglob]
  have hok : ∀ id cs, (startOf Tryd.prog Rows.headersRangesRow.laid)[id]? = some (some cs) → VsOk (Am.start (startOf Tryd.prog Rows.headersRangesRow.laid)) cs ∧ BOk (fun id => (id, 0)) W.heap.size W id cs cs.length false :=
    startOf_ok (P := Tryd.prog) hL' (ι := fun id => (id, 0)) (fun g _ => rfl) _
  have hcv : cvl (fun id => (id, 0)) [.int .i64 x0, .int .i64 x1, .bool x2, .bool x3] = [.int .i64 x0, .int .i64 x1, .bool x2, .bool x3] := rfl
  have hrun := run_all (F := tabF) (E := tabE) (N := 9223372036854775808) (d := 40) (f := 4) (tab_ok _) (fun τ => headersRanges_run (by decide) x0 x1 x2 x3 _ (start_wf (startOf Tryd.prog Rows.headersRangesRow.laid)) τ)
  have hcall := call_true (P := Tryd.prog) mixed_ok (W := W) (defs_ok (all_ok W.heap.size W)) 9223372036854775808 40 4 [.int .i64 x0, .int .i64 x1, .bool x2, .bool x3] (startOf Tryd.prog Rows.headersRangesRow.laid) (fun id => (id, 0)) hok (fun g _ => rfl) (by rw [hr_nglob, hlen]; exact Nat.le_refl _) ⟨trivial, trivial, trivial, trivial, trivial⟩ hrun
  rw [hcv] at hcall
  refine hcall.mono fun e W' ⟨he, hb⟩ => ?_
  subst he
  exact ⟨_, rfl, law_post (P := Tryd.prog) hr_laidOut rfl rfl (by kernel_rfl) Tryd.underlying4 (by kernel_rfl) hW' hb⟩

theorem headersRanges_holds : Rows.HeadersRangesSaid :=
  OpenClaim.holds_of_wide 4 Tryd.f4 rfl rfl rfl rfl rfl rfl rfl ⟨rfl, rfl, rfl, rfl, rfl⟩ rfl rfl rfl rfl rfl (by kernel_rfl) Tryd.func4 (by kernel_rfl)
    (of_decide_eq_true (by kernel_rfl)) (by unfold Func.isWrapper; first | (rw [if_pos (by decide +kernel)]; kernel_rfl) | (rw [if_neg (by decide +kernel)]; exact ⟨rfl, rfl⟩))
    (fun os started H enc _ => headersRanges_lifted os started H enc)

theorem headersRanges_card : Rows.HeadersRangesCardSaid :=
  Claim7.holds_tied_plain_at .later [] _ true _ _
    headersRanges_holds (fun _ h => by cases h) (by kernel_rfl) (fun _ h => by cases h) headersRanges_row_tie rfl ⟨rfl, rfl⟩ (by kernel_rfl) rfl
    (fun f fn hf hfn => by
      obtain rfl : f = 4 := Option.some.inj ((show Tryd.prog.funcNamed "ostiary/ostiarylaw5.HeadersRanges" = some 4 by kernel_rfl).symm.trans hf) |>.symm
      obtain rfl : fn = Tryd.f4 := (Option.some.inj (Tryd.func4.symm.trans hfn)).symm
      exact ⟨by kernel_rfl, fun j t ht => by
        rw [Tryd.params4] at ht
        have h3 : Tryd.prog.wantsStandIn 3 = false := by kernel_rfl
        have h4 : Tryd.prog.wantsStandIn 4 = false := by kernel_rfl
        rcases j with _ | _ | _ | _ | j
        · simp at ht; subst ht; exact h3
        · simp at ht; subst ht; exact h3
        · simp at ht; subst ht; exact h4
        · simp at ht; subst ht; exact h4
        · simp at ht⟩)
    (by kernel_rfl)
#print axioms headersRanges_card
end Go.Proofs.YtpigmhokjbbffaaDoor
