/- FilterNumbers, a closed sentence: its call answers true; no condition of our own. -/
import Derived.Test.YtlpedafppdffoaaDoorCards
import Derived.Test.YtlpedafppdffoaaDoorTie
import Derived.ChangeSame
import Derived.ChangeVars
import Derived.JoinedOf
import Derived.RowKit
import Derived.LaidLaws
import Derived.LaidMore
import Derived.LaidHandle
import Derived.Lay
import Derived.ProofKit
import Derived.OpenShut
import Derived.Stop.Joined
import Derived.SevenTiedAt
import Derived.Test.YtlpedafppdffoaaDoorFNUOk
import Derived.Test.YtlpedafppdffoaaDoorFNUM4
import Derived.Test.YtlpedafppdffoaaDoorFNURun
namespace Go.Proofs.YtlpedafppdffoaaDoor
open Go Go.Am Go.Am.X Go.ChangeShapes Go.WideShapes Go.RowKit
set_option maxRecDepth 1000000
theorem filterNumbers_st_eq : startOf Tryd.prog (Rows.filterNumbersRow.laid.map fun x => (x.1, x.2)) = filterNumbers_st := by kernel_rfl
theorem filterNumbers_own : ownKnob Tryd.prog.godebug = none := by kernel_rfl
theorem filterNumbers_laidOut : laidOutB Tryd.prog = true := by kernel_rfl
theorem filterNumbers_mixed : Tryd.prog.follows .mixedOrders = true := by kernel_rfl
theorem filterNumbers_nglob : Tryd.prog.globals.size = 6 := by kernel_rfl

theorem filterNumbers_lifted (os : Os) (started : os.Started) (H : Type) (enc : TypeId × Value → H) :
    ReturnsInHanded {} Tryd.checked os 6 .any (fun w args => (Rows.filterNumbersSpec.pre enc Tryd.prog Tryd.f6 [] false w args ∧ laidMetH Tryd.prog Rows.filterNumbersRow.laid w) ∧ sizedMet enc Tryd.prog Tryd.f6 (OpenSpec.ofChange Rows.filterNumbersSpec) false w args)
      (Rows.filterNumbersSpec.post enc Tryd.prog Tryd.f6 false true false false) := by
  refine returnsInHanded_of_change_and (C := Tryd.checked) (X := fun w _ => laidMetH Tryd.prog Rows.filterNumbersRow.laid w) (fun _ _ _ hh h => h.of_heap hh) filterNumbers_own started (by kernel_rfl) Tryd.func6
    (ChangeSpec.witness_shaped (enc := enc) (C := Tryd.checked) (os := os) (X := fun w _ => laidMetH Tryd.prog Rows.filterNumbersRow.laid w) false (World.laidAll Tryd.prog os Rows.filterNumbersRow.laid) #[] 8 (World.laidAll_os _ _ _) (World.shaped_of_ZipB (by kernel_rfl) (by kernel_rfl)) (by kernel_rfl) (by kernel_rfl) (by kernel_rfl)
      (by rw [MakeChecks.laidMetH_plain _ _ _ (by kernel_rfl)]; exact laidMet_laidAll _ (by kernel_rfl) (by kernel_rfl))) ?_
  intro W base args ds gs before hval0 hW _ _ hL _
  have hL' : laidMet Tryd.prog Rows.filterNumbersRow.laid W := by rw [MakeChecks.laidMetH_plain _ _ _ (by kernel_rfl)] at hL; exact hL
  have hW' := hW
  obtain ⟨p, q, hA0, hV, rfl, hfz, hnd⟩ := hW
  have hA : DataW.TrodAll enc Tryd.prog W 0 (fun _ => true) true Tryd.f6.params.toList args.toList ds p := hA0
  rw [Tryd.params6] at hA
  obtain ⟨rfl, rfl⟩ : args = #[] ∧ ds = [] := by
    obtain ⟨l⟩ := args
    cases l with
    | nil => cases ds with
      | nil => exact ⟨rfl, rfl⟩
      | cons d ds => exact hA.elim
    | cons a l => exact hA.elim
  obtain ⟨rfl, rfl⟩ := trodVars_none hV
  have hok := startOf_ok (P := Tryd.prog) hL' (ι := fun id => (id, 0)) (fun g _ => rfl) (Am.start filterNumbers_st)
  rw [show startOf Tryd.prog Rows.filterNumbersRow.laid = filterNumbers_st from filterNumbers_st_eq] at hok
  refine (call_true (P := Tryd.prog) filterNumbers_mixed (W := W) (fun f d hd base w0 => defs_ok (all_ok base w0) f d hd) 100000 40 6 [] filterNumbers_st (fun id => (id, 0)) hok (fun g _ => rfl) (by rw [filterNumbers_nglob]; decide) trivial (run_true (tab_ok 100000) filterNumbers_run)).mono fun e W' ⟨he, hb⟩ => ?_
  subst he
  exact ⟨_, rfl, law_post (P := Tryd.prog) filterNumbers_laidOut rfl rfl (by kernel_rfl) Tryd.underlying4 (by kernel_rfl) hW' hb⟩

theorem filterNumbers_jA : jA Tryd.prog Tryd.f6 Rows.filterNumbersSpec Rows.filterNumbersRow = true := by kernel_rfl
theorem filterNumbers_jB : jB Tryd.prog 6 Rows.filterNumbersRow = true := by kernel_rfl
theorem filterNumbers_jC : jC Tryd.prog 6 Rows.filterNumbersRow = true := by kernel_rfl
theorem filterNumbers_jD : jD Tryd.prog 6 Rows.filterNumbersRow = true := by kernel_rfl
theorem filterNumbers_jE : jE Tryd.prog 6 Rows.filterNumbersRow = true := by kernel_rfl
theorem filterNumbers_jF : jF Tryd.prog Tryd.f6 Rows.filterNumbersSpec Rows.filterNumbersRow = true := by kernel_rfl
theorem filterNumbers_jG : jG Tryd.prog = true := by kernel_rfl
theorem filterNumbers_jH : jH Tryd.prog = true := by kernel_rfl
theorem filterNumbers_jI : jI Tryd.prog Tryd.f6 Rows.filterNumbersSpec Rows.filterNumbersRow = true := by kernel_rfl
theorem filterNumbers_holds : Rows.FilterNumbersSaid :=
  OpenClaim.holds_of_wide 6 Tryd.f6 rfl rfl rfl rfl rfl rfl rfl ⟨rfl, rfl, rfl, rfl, rfl⟩ rfl rfl rfl rfl rfl (by kernel_rfl) Tryd.func6 (joined_of (P := Tryd.prog) (f := 6) (fn := Tryd.f6) (s := Rows.filterNumbersSpec) (c := Rows.filterNumbersRow) filterNumbers_jA filterNumbers_jB filterNumbers_jC filterNumbers_jD filterNumbers_jE filterNumbers_jF filterNumbers_jG filterNumbers_jH filterNumbers_jI)
    (of_decide_eq_true (by kernel_rfl)) (by unfold Func.isWrapper; first | (rw [if_pos (by decide +kernel)]; kernel_rfl) | (rw [if_neg (by decide +kernel)]; exact ⟨rfl, rfl⟩))
    (fun os started H enc _ => filterNumbers_lifted os started H enc)

theorem filterNumbers_card : Rows.FilterNumbersCardSaid :=
  Claim7.holds_tied_plain_at .later [] _ true _ _
    filterNumbers_holds (fun _ h => by cases h) (by kernel_rfl) (fun _ h => by cases h) filterNumbers_row_tie rfl ⟨rfl, rfl⟩ (by kernel_rfl) rfl
    (fun f fn hf hfn => by
      obtain rfl : f = 6 := Option.some.inj ((show Tryd.prog.funcNamed "ostiary/ostiarylaw20.FilterNumbers" = some 6 by kernel_rfl).symm.trans hf) |>.symm
      obtain rfl : fn = Tryd.f6 := (Option.some.inj (Tryd.func6.symm.trans hfn)).symm
      exact ⟨by kernel_rfl, fun j t ht => by
        rw [Tryd.params6] at ht
        simp at ht⟩)
    (by kernel_rfl)
#print axioms filterNumbers_card
end Go.Proofs.YtlpedafppdffoaaDoor
