/- CorsNumbers, a closed sentence: its call answers true; no condition of our own. -/
import Derived.Test.YtlpedafppdffoaaGreatDoorCards
import Derived.Test.YtlpedafppdffoaaGreatDoorTie
import Derived.ChangeSame
import Derived.ChangeVars
import Derived.JoinedOf
import Derived.RowKit
import Derived.LaidLaws
import Derived.LaidMore
import Derived.LaidHandle
import Derived.Lay
import Derived.ProofKit
import Derived.OpenShut
import Derived.Stop.Joined
import Derived.SevenTiedAt
import Derived.Test.YtlpedafppdffoaaGreatDoorCNUOk
import Derived.Test.YtlpedafppdffoaaGreatDoorCNUM4
import Derived.Test.YtlpedafppdffoaaGreatDoorCNURun
namespace Go.Proofs.YtlpedafppdffoaaGreatDoor
open Go Go.Am Go.Am.X Go.ChangeShapes Go.WideShapes Go.RowKit
set_option maxRecDepth 1000000
theorem corsNumbers_st_eq : startOf Tryz.prog (Rows.corsNumbersRow.laid.map fun x => (x.1, x.2)) = corsNumbers_st := by kernel_rfl
theorem corsNumbers_own : ownKnob Tryz.prog.godebug = none := by kernel_rfl
theorem corsNumbers_laidOut : laidOutB Tryz.prog = true := by kernel_rfl
theorem corsNumbers_mixed : Tryz.prog.follows .mixedOrders = true := by kernel_rfl
theorem corsNumbers_nglob : Tryz.prog.globals.size = 6 := by kernel_rfl

theorem corsNumbers_lifted (os : Os) (started : os.Started) (H : Type) (enc : TypeId × Value → H) :
    ReturnsInHanded {} Tryz.checked os 7 .any (fun w args => (Rows.corsNumbersSpec.pre enc Tryz.prog Tryz.f7 [] false w args ∧ laidMetH Tryz.prog Rows.corsNumbersRow.laid w) ∧ sizedMet enc Tryz.prog Tryz.f7 (OpenSpec.ofChange Rows.corsNumbersSpec) false w args)
      (Rows.corsNumbersSpec.post enc Tryz.prog Tryz.f7 false true false false) := by
  refine returnsInHanded_of_change_and (C := Tryz.checked) (X := fun w _ => laidMetH Tryz.prog Rows.corsNumbersRow.laid w) (fun _ _ _ hh h => h.of_heap hh) corsNumbers_own started (by kernel_rfl) Tryz.func7
    (ChangeSpec.witness_shaped (enc := enc) (C := Tryz.checked) (os := os) (X := fun w _ => laidMetH Tryz.prog Rows.corsNumbersRow.laid w) false (World.laidAll Tryz.prog os Rows.corsNumbersRow.laid) #[] 8 (World.laidAll_os _ _ _) (World.shaped_of_ZipB (by kernel_rfl) (by kernel_rfl)) (by kernel_rfl) (by kernel_rfl) (by kernel_rfl)
      (by rw [MakeChecks.laidMetH_plain _ _ _ (by kernel_rfl)]; exact laidMet_laidAll _ (by kernel_rfl) (by kernel_rfl))) ?_
  intro W base args ds gs before hval0 hW _ _ hL _
  have hL' : laidMet Tryz.prog Rows.corsNumbersRow.laid W := by rw [MakeChecks.laidMetH_plain _ _ _ (by kernel_rfl)] at hL; exact hL
  have hW' := hW
  obtain ⟨p, q, hA0, hV, rfl, hfz, hnd⟩ := hW
  have hA : DataW.TrodAll enc Tryz.prog W 0 (fun _ => true) true Tryz.f7.params.toList args.toList ds p := hA0
  rw [Tryz.params7] at hA
  obtain ⟨rfl, rfl⟩ : args = #[] ∧ ds = [] := by
    obtain ⟨l⟩ := args
    cases l with
    | nil => cases ds with
      | nil => exact ⟨rfl, rfl⟩
      | cons d ds => exact hA.elim
    | cons a l => exact hA.elim
  obtain ⟨rfl, rfl⟩ := trodVars_none hV
  have hok := startOf_ok (P := Tryz.prog) hL' (ι := fun id => (id, 0)) (fun g _ => rfl) (Am.start corsNumbers_st)
  rw [show startOf Tryz.prog Rows.corsNumbersRow.laid = corsNumbers_st from corsNumbers_st_eq] at hok
  refine (call_true (P := Tryz.prog) corsNumbers_mixed (W := W) (fun f d hd base w0 => defs_ok (all_ok base w0) f d hd) 100000 40 7 [] corsNumbers_st (fun id => (id, 0)) hok (fun g _ => rfl) (by rw [corsNumbers_nglob]; decide) trivial (run_true (tab_ok 100000) corsNumbers_run)).mono fun e W' ⟨he, hb⟩ => ?_
  subst he
  exact ⟨_, rfl, law_post (P := Tryz.prog) corsNumbers_laidOut rfl rfl (by kernel_rfl) Tryz.underlying4 (by kernel_rfl) hW' hb⟩

theorem corsNumbers_jA : jA Tryz.prog Tryz.f7 Rows.corsNumbersSpec Rows.corsNumbersRow = true := by kernel_rfl
theorem corsNumbers_jB : jB Tryz.prog 7 Rows.corsNumbersRow = true := by kernel_rfl
theorem corsNumbers_jC : jC Tryz.prog 7 Rows.corsNumbersRow = true := by kernel_rfl
theorem corsNumbers_jD : jD Tryz.prog 7 Rows.corsNumbersRow = true := by kernel_rfl
theorem corsNumbers_jE : jE Tryz.prog 7 Rows.corsNumbersRow = true := by kernel_rfl
theorem corsNumbers_jF : jF Tryz.prog Tryz.f7 Rows.corsNumbersSpec Rows.corsNumbersRow = true := by kernel_rfl
theorem corsNumbers_jG : jG Tryz.prog = true := by kernel_rfl
theorem corsNumbers_jH : jH Tryz.prog = true := by kernel_rfl
theorem corsNumbers_jI : jI Tryz.prog Tryz.f7 Rows.corsNumbersSpec Rows.corsNumbersRow = true := by kernel_rfl
theorem corsNumbers_holds : Rows.CorsNumbersSaid :=
  OpenClaim.holds_of_wide 7 Tryz.f7 rfl rfl rfl rfl rfl rfl rfl ⟨rfl, rfl, rfl, rfl, rfl⟩ rfl rfl rfl rfl rfl (by kernel_rfl) Tryz.func7 (joined_of (P := Tryz.prog) (f := 7) (fn := Tryz.f7) (s := Rows.corsNumbersSpec) (c := Rows.corsNumbersRow) corsNumbers_jA corsNumbers_jB corsNumbers_jC corsNumbers_jD corsNumbers_jE corsNumbers_jF corsNumbers_jG corsNumbers_jH corsNumbers_jI)
    (of_decide_eq_true (by kernel_rfl)) (by unfold Func.isWrapper; first | (rw [if_pos (by decide +kernel)]; kernel_rfl) | (rw [if_neg (by decide +kernel)]; exact ⟨rfl, rfl⟩))
    (fun os started H enc _ => corsNumbers_lifted os started H enc)

theorem corsNumbers_card : Rows.CorsNumbersCardSaid :=
  Claim7.holds_tied_plain_at .later [] _ true _ _
    corsNumbers_holds (fun _ h => by cases h) (by kernel_rfl) (fun _ h => by cases h) corsNumbers_row_tie rfl ⟨rfl, rfl⟩ (by kernel_rfl) rfl
    (fun f fn hf hfn => by
      obtain rfl : f = 7 := Option.some.inj ((show Tryz.prog.funcNamed "ostiary/ostiarylaw18.CorsNumbers" = some 7 by kernel_rfl).symm.trans hf) |>.symm
      obtain rfl : fn = Tryz.f7 := (Option.some.inj (Tryz.func7.symm.trans hfn)).symm
      exact ⟨by kernel_rfl, fun j t ht => by
        rw [Tryz.params7] at ht
        simp at ht⟩)
    (by kernel_rfl)
#print axioms corsNumbers_card
end Go.Proofs.YtlpedafppdffoaaGreatDoor
