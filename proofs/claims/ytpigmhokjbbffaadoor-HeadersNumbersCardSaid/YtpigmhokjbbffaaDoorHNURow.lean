/- HeadersNumbers, for any inputs: its call answers true; no condition of our own. -/
import Derived.Test.YtpigmhokjbbffaaDoorCards
import Derived.Test.YtpigmhokjbbffaaDoorTie
import Derived.ChangeSame
import Derived.ChangeVars
import Derived.JoinedOf
import Derived.RowKit
import Derived.LaidLaws
import Derived.LaidMore
import Derived.LaidHandle
import Derived.Lay
import Derived.ProofKit
import Derived.OpenShut
import Derived.Stop.Joined
import Derived.SevenTiedAt
import Derived.SizedLaws
import Derived.Test.YtpigmhokjbbffaaDoorHNUOk
import Derived.Test.YtpigmhokjbbffaaDoorHNUL1
import Derived.Test.YtpigmhokjbbffaaDoorHNUL4
namespace Go.Proofs.YtpigmhokjbbffaaDoor
open Go Go.Am Go.Am.X Go.ChangeShapes Go.WideShapes Go.RowKit
set_option maxRecDepth 1000000
theorem hnu_own : ownKnob Tryd.prog.godebug = none := by kernel_rfl
theorem hnu_laidOut : laidOutB Tryd.prog = true := by kernel_rfl
theorem hnu_nglob : Tryd.prog.globals.size = 3 := by kernel_rfl
theorem headersNumbers_lifted (os : Os) (started : os.Started) (H : Type) (enc : TypeId × Value → H) :
    ReturnsInHanded {} Tryd.checked os 6 .any (fun w args => (Rows.headersNumbersSpec.pre enc Tryd.prog Tryd.f6 [] false w args ∧ laidMetH Tryd.prog Rows.headersNumbersRow.laid w) ∧ sizedMet enc Tryd.prog Tryd.f6 (OpenSpec.ofChange Rows.headersNumbersSpec) false w args)
      (Rows.headersNumbersSpec.post enc Tryd.prog Tryd.f6 false true false false) := by
  refine returnsInHanded_of_change_and (C := Tryd.checked) (X := fun w _ => laidMetH Tryd.prog Rows.headersNumbersRow.laid w) (fun _ _ _ hh h => h.of_heap hh) hnu_own started (by kernel_rfl) Tryd.func6
    (ChangeSpec.witness_shaped (enc := enc) (C := Tryd.checked) (os := os) (X := fun w _ => laidMetH Tryd.prog Rows.headersNumbersRow.laid w) false (World.laidAll Tryd.prog os Rows.headersNumbersRow.laid) #[] 8 (World.laidAll_os _ _ _) (World.shaped_of_ZipB (by kernel_rfl) (by kernel_rfl)) (by kernel_rfl) (by kernel_rfl) (by kernel_rfl)
      (by rw [MakeChecks.laidMetH_plain _ _ _ (by kernel_rfl)]; exact laidMet_laidAll _ (by kernel_rfl) (by kernel_rfl))) ?_
  intro W base args ds gs before hval0 hW _ hWt hL _
  have hval : ∀ (j : Nat) t v, Tryd.f6.params[j]? = some t → args[j]? = some v → Value.okWide Tryd.prog W .any base t v := hval0
  have hL' : laidMet Tryd.prog Rows.headersNumbersRow.laid W := by rw [MakeChecks.laidMetH_plain _ _ _ (by kernel_rfl)] at hL; exact hL
  have hW' := hW
  obtain ⟨p, q, hA0, hV, rfl, hfz, hnd⟩ := hW
  have hA : DataW.TrodAll enc Tryd.prog W 0 (fun _ => true) true Tryd.f6.params.toList args.toList ds p := hA0
  rw [Tryd.params6] at hA hval hWt
  obtain ⟨hargs, rfl, rfl⟩ := trodAll_nil hA
  obtain ⟨al⟩ := args
  simp only at hargs
  subst hargs
  obtain ⟨rfl, rfl⟩ := trodVars_none hV
  have hlen : (startOf Tryd.prog Rows.headersNumbersRow.laid).length = 3 := by unfold startOf; rw [List.length_map, List.length_range, hnu_nglob]
  have hok : ∀ id cs, (startOf Tryd.prog Rows.headersNumbersRow.laid)[id]? = some (some cs) → VsOk (Am.start (startOf Tryd.prog Rows.headersNumbersRow.laid)) cs ∧ BOk (fun id => (id, 0)) W.heap.size W id cs cs.length false :=
    startOf_ok (P := Tryd.prog) hL' (ι := fun id => (id, 0)) (fun g _ => rfl) _
  have hcv : cvl (fun id => (id, 0)) [] = [] := rfl
  have hcall := law_true (P := Tryd.prog) (f := 6) (W := W) (headersNumbers_ok W.heap.size W) [] (startOf Tryd.prog Rows.headersNumbersRow.laid) (fun id => (id, 0)) hok (fun g _ => rfl) (by rw [hnu_nglob, hlen]; exact Nat.le_refl _) trivial (fun τ => headersNumbers_in _ τ)
  rw [hcv] at hcall
  refine hcall.mono fun e W' ⟨he, hb⟩ => ?_
  subst he
  exact ⟨_, rfl, law_post (P := Tryd.prog) hnu_laidOut rfl rfl (by kernel_rfl) Tryd.underlying4 (by kernel_rfl) hW' hb⟩

theorem headersNumbers_holds : Rows.HeadersNumbersSaid :=
  OpenClaim.holds_of_wide 6 Tryd.f6 rfl rfl rfl rfl rfl rfl rfl ⟨rfl, rfl, rfl, rfl, rfl⟩ rfl rfl rfl rfl rfl (by kernel_rfl) Tryd.func6 (by kernel_rfl)
    (of_decide_eq_true (by kernel_rfl)) (by unfold Func.isWrapper; first | (rw [if_pos (by decide +kernel)]; kernel_rfl) | (rw [if_neg (by decide +kernel)]; exact ⟨rfl, rfl⟩))
    (fun os started H enc _ => headersNumbers_lifted os started H enc)

theorem headersNumbers_card : Rows.HeadersNumbersCardSaid :=
  Claim7.holds_tied_plain_at .later [] _ true _ _
    headersNumbers_holds (fun _ h => by cases h) (by kernel_rfl) (fun _ h => by cases h) headersNumbers_row_tie rfl ⟨rfl, rfl⟩ (by kernel_rfl) rfl
    (fun f fn hf hfn => by
      obtain rfl : f = 6 := Option.some.inj ((show Tryd.prog.funcNamed "ostiary/ostiarylaw5.HeadersNumbers" = some 6 by kernel_rfl).symm.trans hf) |>.symm
      obtain rfl : fn = Tryd.f6 := (Option.some.inj (Tryd.func6.symm.trans hfn)).symm
      exact ⟨by kernel_rfl, fun j t ht => by
        rw [Tryd.params6] at ht

        rcases j with j

        · simp at ht⟩)
    (by kernel_rfl)
#print axioms headersNumbers_card
end Go.Proofs.YtpigmhokjbbffaaDoor
