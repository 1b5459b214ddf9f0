/- AgeNumbers, a closed sentence: its call answers true; no condition of our own. -/
import Derived.Test.YtpfaceclaigpgaaDoorCards
import Derived.Test.YtpfaceclaigpgaaDoorTie
import Derived.ChangeSame
import Derived.ChangeVars
import Derived.JoinedOf
import Derived.RowKit
import Derived.LaidLaws
import Derived.LaidMore
import Derived.LaidHandle
import Derived.Lay
import Derived.ProofKit
import Derived.OpenShut
import Derived.Stop.Joined
import Derived.SevenTiedAt
import Derived.Test.YtpfaceclaigpgaaDoorBOk
namespace Go.Proofs.YtpfaceclaigpgaaDoor
open Go Go.Am Go.Am.AmTrydAgeNumbers Go.ChangeShapes Go.WideShapes Go.RowKit
set_option maxRecDepth 1000000
def ageNumbers_st : List (Option (List V)) := [none,
  none,
  none,
  none,
  none,
  none,
  none,
  none,
  some [(.int .u8 (.ofNat 240)), (.int .u8 (.ofNat 240)), (.int .u8 (.ofNat 240)), (.int .u8 (.ofNat 240)), (.int .u8 (.ofNat 240)), (.int .u8 (.ofNat 240)), (.int .u8 (.ofNat 240)), (.int .u8 (.ofNat 240)), (.int .u8 (.ofNat 240)), (.int .u8 (.ofNat 240)), (.int .u8 (.ofNat 240)), (.int .u8 (.ofNat 240)), (.int .u8 (.ofNat 240)), (.int .u8 (.ofNat 240)), (.int .u8 (.ofNat 240)), (.int .u8 (.ofNat 240)), (.int .u8 (.ofNat 240)), (.int .u8 (.ofNat 240)), (.int .u8 (.ofNat 240)), (.int .u8 (.ofNat 240)), (.int .u8 (.ofNat 240)), (.int .u8 (.ofNat 240)), (.int .u8 (.ofNat 240)), (.int .u8 (.ofNat 240)), (.int .u8 (.ofNat 240)), (.int .u8 (.ofNat 240)), (.int .u8 (.ofNat 240)), (.int .u8 (.ofNat 240)), (.int .u8 (.ofNat 240)), (.int .u8 (.ofNat 240)), (.int .u8 (.ofNat 240)), (.int .u8 (.ofNat 240)), (.int .u8 (.ofNat 240)), (.int .u8 (.ofNat 240)), (.int .u8 (.ofNat 240)), (.int .u8 (.ofNat 240)), (.int .u8 (.ofNat 240)), (.int .u8 (.ofNat 240)), (.int .u8 (.ofNat 240)), (.int .u8 (.ofNat 240)), (.int .u8 (.ofNat 240)), (.int .u8 (.ofNat 240)), (.int .u8 (.ofNat 240)), (.int .u8 (.ofNat 240)), (.int .u8 (.ofNat 240)), (.int .u8 (.ofNat 240)), (.int .u8 (.ofNat 240)), (.int .u8 (.ofNat 240)), (.int .u8 (.ofNat 240)), (.int .u8 (.ofNat 240)), (.int .u8 (.ofNat 240)), (.int .u8 (.ofNat 240)), (.int .u8 (.ofNat 240)), (.int .u8 (.ofNat 240)), (.int .u8 (.ofNat 240)), (.int .u8 (.ofNat 240)), (.int .u8 (.ofNat 240)), (.int .u8 (.ofNat 240)), (.int .u8 (.ofNat 240)), (.int .u8 (.ofNat 240)), (.int .u8 (.ofNat 240)), (.int .u8 (.ofNat 240)), (.int .u8 (.ofNat 240)), (.int .u8 (.ofNat 240)), (.int .u8 (.ofNat 240)), (.int .u8 (.ofNat 240)), (.int .u8 (.ofNat 240)), (.int .u8 (.ofNat 240)), (.int .u8 (.ofNat 240)), (.int .u8 (.ofNat 240)), (.int .u8 (.ofNat 240)), (.int .u8 (.ofNat 240)), (.int .u8 (.ofNat 240)), (.int .u8 (.ofNat 240)), (.int .u8 (.ofNat 240)), (.int .u8 (.ofNat 240)), (.int .u8 (.ofNat 240)), (.int .u8 (.ofNat 240)), (.int .u8 (.ofNat 240)), (.int .u8 (.ofNat 240)), (.int .u8 (.ofNat 240)), (.int .u8 (.ofNat 240)), (.int .u8 (.ofNat 240)), (.int .u8 (.ofNat 240)), (.int .u8 (.ofNat 240)), (.int .u8 (.ofNat 240)), (.int .u8 (.ofNat 240)), (.int .u8 (.ofNat 240)), (.int .u8 (.ofNat 240)), (.int .u8 (.ofNat 240)), (.int .u8 (.ofNat 240)), (.int .u8 (.ofNat 240)), (.int .u8 (.ofNat 240)), (.int .u8 (.ofNat 240)), (.int .u8 (.ofNat 240)), (.int .u8 (.ofNat 240)), (.int .u8 (.ofNat 240)), (.int .u8 (.ofNat 240)), (.int .u8 (.ofNat 240)), (.int .u8 (.ofNat 240)), (.int .u8 (.ofNat 240)), (.int .u8 (.ofNat 240)), (.int .u8 (.ofNat 240)), (.int .u8 (.ofNat 240)), (.int .u8 (.ofNat 240)), (.int .u8 (.ofNat 240)), (.int .u8 (.ofNat 240)), (.int .u8 (.ofNat 240)), (.int .u8 (.ofNat 240)), (.int .u8 (.ofNat 240)), (.int .u8 (.ofNat 240)), (.int .u8 (.ofNat 240)), (.int .u8 (.ofNat 240)), (.int .u8 (.ofNat 240)), (.int .u8 (.ofNat 240)), (.int .u8 (.ofNat 240)), (.int .u8 (.ofNat 240)), (.int .u8 (.ofNat 240)), (.int .u8 (.ofNat 240)), (.int .u8 (.ofNat 240)), (.int .u8 (.ofNat 240)), (.int .u8 (.ofNat 240)), (.int .u8 (.ofNat 240)), (.int .u8 (.ofNat 240)), (.int .u8 (.ofNat 240)), (.int .u8 (.ofNat 240)), (.int .u8 (.ofNat 240)), (.int .u8 (.ofNat 240)), (.int .u8 (.ofNat 241)), (.int .u8 (.ofNat 241)), (.int .u8 (.ofNat 241)), (.int .u8 (.ofNat 241)), (.int .u8 (.ofNat 241)), (.int .u8 (.ofNat 241)), (.int .u8 (.ofNat 241)), (.int .u8 (.ofNat 241)), (.int .u8 (.ofNat 241)), (.int .u8 (.ofNat 241)), (.int .u8 (.ofNat 241)), (.int .u8 (.ofNat 241)), (.int .u8 (.ofNat 241)), (.int .u8 (.ofNat 241)), (.int .u8 (.ofNat 241)), (.int .u8 (.ofNat 241)), (.int .u8 (.ofNat 241)), (.int .u8 (.ofNat 241)), (.int .u8 (.ofNat 241)), (.int .u8 (.ofNat 241)), (.int .u8 (.ofNat 241)), (.int .u8 (.ofNat 241)), (.int .u8 (.ofNat 241)), (.int .u8 (.ofNat 241)), (.int .u8 (.ofNat 241)), (.int .u8 (.ofNat 241)), (.int .u8 (.ofNat 241)), (.int .u8 (.ofNat 241)), (.int .u8 (.ofNat 241)), (.int .u8 (.ofNat 241)), (.int .u8 (.ofNat 241)), (.int .u8 (.ofNat 241)), (.int .u8 (.ofNat 241)), (.int .u8 (.ofNat 241)), (.int .u8 (.ofNat 241)), (.int .u8 (.ofNat 241)), (.int .u8 (.ofNat 241)), (.int .u8 (.ofNat 241)), (.int .u8 (.ofNat 241)), (.int .u8 (.ofNat 241)), (.int .u8 (.ofNat 241)), (.int .u8 (.ofNat 241)), (.int .u8 (.ofNat 241)), (.int .u8 (.ofNat 241)), (.int .u8 (.ofNat 241)), (.int .u8 (.ofNat 241)), (.int .u8 (.ofNat 241)), (.int .u8 (.ofNat 241)), (.int .u8 (.ofNat 241)), (.int .u8 (.ofNat 241)), (.int .u8 (.ofNat 241)), (.int .u8 (.ofNat 241)), (.int .u8 (.ofNat 241)), (.int .u8 (.ofNat 241)), (.int .u8 (.ofNat 241)), (.int .u8 (.ofNat 241)), (.int .u8 (.ofNat 241)), (.int .u8 (.ofNat 241)), (.int .u8 (.ofNat 241)), (.int .u8 (.ofNat 241)), (.int .u8 (.ofNat 241)), (.int .u8 (.ofNat 241)), (.int .u8 (.ofNat 241)), (.int .u8 (.ofNat 241)), (.int .u8 (.ofNat 241)), (.int .u8 (.ofNat 241)), (.int .u8 (.ofNat 2)), (.int .u8 (.ofNat 2)), (.int .u8 (.ofNat 2)), (.int .u8 (.ofNat 2)), (.int .u8 (.ofNat 2)), (.int .u8 (.ofNat 2)), (.int .u8 (.ofNat 2)), (.int .u8 (.ofNat 2)), (.int .u8 (.ofNat 2)), (.int .u8 (.ofNat 2)), (.int .u8 (.ofNat 2)), (.int .u8 (.ofNat 2)), (.int .u8 (.ofNat 2)), (.int .u8 (.ofNat 2)), (.int .u8 (.ofNat 2)), (.int .u8 (.ofNat 2)), (.int .u8 (.ofNat 2)), (.int .u8 (.ofNat 2)), (.int .u8 (.ofNat 2)), (.int .u8 (.ofNat 2)), (.int .u8 (.ofNat 2)), (.int .u8 (.ofNat 2)), (.int .u8 (.ofNat 2)), (.int .u8 (.ofNat 2)), (.int .u8 (.ofNat 2)), (.int .u8 (.ofNat 2)), (.int .u8 (.ofNat 2)), (.int .u8 (.ofNat 2)), (.int .u8 (.ofNat 2)), (.int .u8 (.ofNat 2)), (.int .u8 (.ofNat 19)), (.int .u8 (.ofNat 3)), (.int .u8 (.ofNat 3)), (.int .u8 (.ofNat 3)), (.int .u8 (.ofNat 3)), (.int .u8 (.ofNat 3)), (.int .u8 (.ofNat 3)), (.int .u8 (.ofNat 3)), (.int .u8 (.ofNat 3)), (.int .u8 (.ofNat 3)), (.int .u8 (.ofNat 3)), (.int .u8 (.ofNat 3)), (.int .u8 (.ofNat 3)), (.int .u8 (.ofNat 35)), (.int .u8 (.ofNat 3)), (.int .u8 (.ofNat 3)), (.int .u8 (.ofNat 52)), (.int .u8 (.ofNat 4)), (.int .u8 (.ofNat 4)), (.int .u8 (.ofNat 4)), (.int .u8 (.ofNat 68)), (.int .u8 (.ofNat 241)), (.int .u8 (.ofNat 241)), (.int .u8 (.ofNat 241)), (.int .u8 (.ofNat 241)), (.int .u8 (.ofNat 241)), (.int .u8 (.ofNat 241)), (.int .u8 (.ofNat 241)), (.int .u8 (.ofNat 241)), (.int .u8 (.ofNat 241)), (.int .u8 (.ofNat 241)), (.int .u8 (.ofNat 241))],
  some [(.int .u8 (.ofNat 128)), (.int .u8 (.ofNat 191)), (.int .u8 (.ofNat 160)), (.int .u8 (.ofNat 191)), (.int .u8 (.ofNat 128)), (.int .u8 (.ofNat 159)), (.int .u8 (.ofNat 144)), (.int .u8 (.ofNat 191)), (.int .u8 (.ofNat 128)), (.int .u8 (.ofNat 143)), (.int .u8 (.ofNat 0)), (.int .u8 (.ofNat 0)), (.int .u8 (.ofNat 0)), (.int .u8 (.ofNat 0)), (.int .u8 (.ofNat 0)), (.int .u8 (.ofNat 0)), (.int .u8 (.ofNat 0)), (.int .u8 (.ofNat 0)), (.int .u8 (.ofNat 0)), (.int .u8 (.ofNat 0)), (.int .u8 (.ofNat 0)), (.int .u8 (.ofNat 0)), (.int .u8 (.ofNat 0)), (.int .u8 (.ofNat 0)), (.int .u8 (.ofNat 0)), (.int .u8 (.ofNat 0)), (.int .u8 (.ofNat 0)), (.int .u8 (.ofNat 0)), (.int .u8 (.ofNat 0)), (.int .u8 (.ofNat 0)), (.int .u8 (.ofNat 0)), (.int .u8 (.ofNat 0))],
  none,
  none]
theorem ageNumbers_st_eq : startOf Tryd.prog (Rows.ageNumbersRow.laid.map fun x => (x.1, x.2)) = ageNumbers_st := by kernel_rfl
theorem ageNumbers_own : ownKnob Tryd.prog.godebug = none := by kernel_rfl
theorem ageNumbers_laidOut : laidOutB Tryd.prog = true := by kernel_rfl
theorem ageNumbers_mixed : Tryd.prog.follows .mixedOrders = true := by kernel_rfl
theorem ageNumbers_nglob : Tryd.prog.globals.size = 12 := by kernel_rfl
theorem ageNumbers_run : (fun τ => callK (tabOf tabE 100000) 40 12 [] (Am.start ageNumbers_st) τ trueK) = fun _ => doneA := by kernel_rfl

theorem ageNumbers_lifted (os : Os) (started : os.Started) (H : Type) (enc : TypeId × Value → H) :
    ReturnsInHanded {} Tryd.checked os 12 .any (fun w args => (Rows.ageNumbersSpec.pre enc Tryd.prog Tryd.f12 [] false w args ∧ laidMetH Tryd.prog Rows.ageNumbersRow.laid w) ∧ sizedMet enc Tryd.prog Tryd.f12 (OpenSpec.ofChange Rows.ageNumbersSpec) false w args)
      (Rows.ageNumbersSpec.post enc Tryd.prog Tryd.f12 false true false false) := by
  refine returnsInHanded_of_change_and (C := Tryd.checked) (X := fun w _ => laidMetH Tryd.prog Rows.ageNumbersRow.laid w) (fun _ _ _ hh h => h.of_heap hh) ageNumbers_own started (by kernel_rfl) Tryd.func12
    (ChangeSpec.witness_shaped (enc := enc) (C := Tryd.checked) (os := os) (X := fun w _ => laidMetH Tryd.prog Rows.ageNumbersRow.laid w) false (World.laidAll Tryd.prog os Rows.ageNumbersRow.laid) #[] 8 (World.laidAll_os _ _ _) (World.shaped_of_ZipB (by kernel_rfl) (by kernel_rfl)) (by kernel_rfl) (by kernel_rfl) (by kernel_rfl)
      (by rw [MakeChecks.laidMetH_plain _ _ _ (by kernel_rfl)]; exact laidMet_laidAll _ (by kernel_rfl) (by kernel_rfl))) ?_
  intro W base args ds gs before hval0 hW _ _ hL _
  have hL' : laidMet Tryd.prog Rows.ageNumbersRow.laid W := by rw [MakeChecks.laidMetH_plain _ _ _ (by kernel_rfl)] at hL; exact hL
  have hW' := hW
  obtain ⟨p, q, hA0, hV, rfl, hfz, hnd⟩ := hW
  have hA : DataW.TrodAll enc Tryd.prog W 0 (fun _ => true) true Tryd.f12.params.toList args.toList ds p := hA0
  rw [Tryd.params12] at hA
  obtain ⟨rfl, rfl⟩ : args = #[] ∧ ds = [] := by
    obtain ⟨l⟩ := args
    cases l with
    | nil => cases ds with
      | nil => exact ⟨rfl, rfl⟩
      | cons d ds => exact hA.elim
    | cons a l => exact hA.elim
  obtain ⟨rfl, rfl⟩ := trodVars_none hV
  have hok := startOf_ok (P := Tryd.prog) hL' (ι := fun id => (id, 0)) (fun g _ => rfl) (Am.start ageNumbers_st)
  rw [show startOf Tryd.prog Rows.ageNumbersRow.laid = ageNumbers_st from ageNumbers_st_eq] at hok
  refine (call_true (P := Tryd.prog) ageNumbers_mixed (W := W) (defs_ok (all_ok W.heap.size W)) 100000 40 12 [] ageNumbers_st (fun id => (id, 0)) hok (fun g _ => rfl) (by rw [ageNumbers_nglob]; decide) trivial (run_true (tab_ok 100000) ageNumbers_run)).mono fun e W' ⟨he, hb⟩ => ?_
  subst he
  exact ⟨_, rfl, law_post (P := Tryd.prog) ageNumbers_laidOut rfl rfl (by kernel_rfl) Tryd.underlying4 (by kernel_rfl) hW' hb⟩

theorem ageNumbers_holds : Rows.AgeNumbersSaid :=
  OpenClaim.holds_of_wide 12 Tryd.f12 rfl rfl rfl rfl rfl rfl rfl ⟨rfl, rfl, rfl, rfl, rfl⟩ rfl rfl rfl rfl rfl (by kernel_rfl) Tryd.func12 (by kernel_rfl)
    (of_decide_eq_true (by kernel_rfl)) (by unfold Func.isWrapper; first | (rw [if_pos (by decide +kernel)]; kernel_rfl) | (rw [if_neg (by decide +kernel)]; exact ⟨rfl, rfl⟩))
    (fun os started H enc _ => ageNumbers_lifted os started H enc)

theorem ageNumbers_card : Rows.AgeNumbersCardSaid :=
  Claim7.holds_tied_plain_at .later [] _ true _ _
    ageNumbers_holds (fun _ h => by cases h) (by kernel_rfl) (fun _ h => by cases h) ageNumbers_row_tie rfl ⟨rfl, rfl⟩ (by kernel_rfl) rfl
    (fun f fn hf hfn => by
      obtain rfl : f = 12 := Option.some.inj ((show Tryd.prog.funcNamed "ostiary/ostiarylaw16.AgeNumbers" = some 12 by kernel_rfl).symm.trans hf) |>.symm
      obtain rfl : fn = Tryd.f12 := (Option.some.inj (Tryd.func12.symm.trans hfn)).symm
      exact ⟨by kernel_rfl, fun j t ht => by
        rw [Tryd.params12] at ht
        simp at ht⟩)
    (by kernel_rfl)
#print axioms ageNumbers_card
end Go.Proofs.YtpfaceclaigpgaaDoor
