/- PreflightNumbers, a closed sentence: its call answers true; no condition of our own. -/
import Derived.Test.YthdglgbbkhiaaaaGreatDoorCards
import Derived.Test.YthdglgbbkhiaaaaGreatDoorTie
import Derived.ChangeSame
import Derived.ChangeVars
import Derived.JoinedOf
import Derived.RowKit
import Derived.LaidLaws
import Derived.LaidMore
import Derived.LaidHandle
import Derived.Lay
import Derived.ProofKit
import Derived.OpenShut
import Derived.Stop.Joined
import Derived.SevenTiedAt
import Derived.Test.YthdglgbbkhiaaaaGreatDoorPNUOk
import Derived.Test.YthdglgbbkhiaaaaGreatDoorPNUM4
import Derived.Test.YthdglgbbkhiaaaaGreatDoorPNURun
namespace Go.Proofs.YthdglgbbkhiaaaaGreatDoor
open Go Go.Am Go.Am.X Go.ChangeShapes Go.WideShapes Go.RowKit
set_option maxRecDepth 1000000
theorem preflightNumbers_st_eq : startOf Tryz.prog (Rows.preflightNumbersRow.laid.map fun x => (x.1, x.2)) = preflightNumbers_st := by kernel_rfl
theorem preflightNumbers_own : ownKnob Tryz.prog.godebug = none := by kernel_rfl
theorem preflightNumbers_laidOut : laidOutB Tryz.prog = true := by kernel_rfl
theorem preflightNumbers_mixed : Tryz.prog.follows .mixedOrders = true := by kernel_rfl
theorem preflightNumbers_nglob : Tryz.prog.globals.size = 6 := by kernel_rfl

theorem preflightNumbers_lifted (os : Os) (started : os.Started) (H : Type) (enc : TypeId × Value → H) :
    ReturnsInHanded {} Tryz.checked os 6 .any (fun w args => (Rows.preflightNumbersSpec.pre enc Tryz.prog Tryz.f6 [] false w args ∧ laidMetH Tryz.prog Rows.preflightNumbersRow.laid w) ∧ sizedMet enc Tryz.prog Tryz.f6 (OpenSpec.ofChange Rows.preflightNumbersSpec) false w args)
      (Rows.preflightNumbersSpec.post enc Tryz.prog Tryz.f6 false true false false) := by
  refine returnsInHanded_of_change_and (C := Tryz.checked) (X := fun w _ => laidMetH Tryz.prog Rows.preflightNumbersRow.laid w) (fun _ _ _ hh h => h.of_heap hh) preflightNumbers_own started (by kernel_rfl) Tryz.func6
    (ChangeSpec.witness_shaped (enc := enc) (C := Tryz.checked) (os := os) (X := fun w _ => laidMetH Tryz.prog Rows.preflightNumbersRow.laid w) false (World.laidAll Tryz.prog os Rows.preflightNumbersRow.laid) #[] 8 (World.laidAll_os _ _ _) (World.shaped_of_ZipB (by kernel_rfl) (by kernel_rfl)) (by kernel_rfl) (by kernel_rfl) (by kernel_rfl)
      (by rw [MakeChecks.laidMetH_plain _ _ _ (by kernel_rfl)]; exact laidMet_laidAll _ (by kernel_rfl) (by kernel_rfl))) ?_
  intro W base args ds gs before hval0 hW _ _ hL _
  have hL' : laidMet Tryz.prog Rows.preflightNumbersRow.laid W := by rw [MakeChecks.laidMetH_plain _ _ _ (by kernel_rfl)] at hL; exact hL
  have hW' := hW
  obtain ⟨p, q, hA0, hV, rfl, hfz, hnd⟩ := hW
  have hA : DataW.TrodAll enc Tryz.prog W 0 (fun _ => true) true Tryz.f6.params.toList args.toList ds p := hA0
  rw [Tryz.params6] at hA
  obtain ⟨rfl, rfl⟩ : args = #[] ∧ ds = [] := by
    obtain ⟨l⟩ := args
    cases l with
    | nil => cases ds with
      | nil => exact ⟨rfl, rfl⟩
      | cons d ds => exact hA.elim
    | cons a l => exact hA.elim
  obtain ⟨rfl, rfl⟩ := trodVars_none hV
  have hok := startOf_ok (P := Tryz.prog) hL' (ι := fun id => (id, 0)) (fun g _ => rfl) (Am.start preflightNumbers_st)
  rw [show startOf Tryz.prog Rows.preflightNumbersRow.laid = preflightNumbers_st from preflightNumbers_st_eq] at hok
  refine (call_true (P := Tryz.prog) preflightNumbers_mixed (W := W) (fun f d hd base w0 => defs_ok (all_ok base w0) f d hd) 100000 40 6 [] preflightNumbers_st (fun id => (id, 0)) hok (fun g _ => rfl) (by rw [preflightNumbers_nglob]; decide) trivial (run_true (tab_ok 100000) preflightNumbers_run)).mono fun e W' ⟨he, hb⟩ => ?_
  subst he
  exact ⟨_, rfl, law_post (P := Tryz.prog) preflightNumbers_laidOut rfl rfl (by kernel_rfl) Tryz.underlying4 (by kernel_rfl) hW' hb⟩

theorem preflightNumbers_jA : jA Tryz.prog Tryz.f6 Rows.preflightNumbersSpec Rows.preflightNumbersRow = true := by kernel_rfl
theorem preflightNumbers_jB : jB Tryz.prog 6 Rows.preflightNumbersRow = true := by kernel_rfl
theorem preflightNumbers_jC : jC Tryz.prog 6 Rows.preflightNumbersRow = true := by kernel_rfl
theorem preflightNumbers_jD : jD Tryz.prog 6 Rows.preflightNumbersRow = true := by kernel_rfl
theorem preflightNumbers_jE : jE Tryz.prog 6 Rows.preflightNumbersRow = true := by kernel_rfl
theorem preflightNumbers_jF : jF Tryz.prog Tryz.f6 Rows.preflightNumbersSpec Rows.preflightNumbersRow = true := by kernel_rfl
theorem preflightNumbers_jG : jG Tryz.prog = true := by kernel_rfl
theorem preflightNumbers_jH : jH Tryz.prog = true := by kernel_rfl
theorem preflightNumbers_jI : jI Tryz.prog Tryz.f6 Rows.preflightNumbersSpec Rows.preflightNumbersRow = true := by kernel_rfl
theorem preflightNumbers_holds : Rows.PreflightNumbersSaid :=
  OpenClaim.holds_of_wide 6 Tryz.f6 rfl rfl rfl rfl rfl rfl rfl ⟨rfl, rfl, rfl, rfl, rfl⟩ rfl rfl rfl rfl rfl (by kernel_rfl) Tryz.func6 (joined_of (P := Tryz.prog) (f := 6) (fn := Tryz.f6) (s := Rows.preflightNumbersSpec) (c := Rows.preflightNumbersRow) preflightNumbers_jA preflightNumbers_jB preflightNumbers_jC preflightNumbers_jD preflightNumbers_jE preflightNumbers_jF preflightNumbers_jG preflightNumbers_jH preflightNumbers_jI)
    (of_decide_eq_true (by kernel_rfl)) (by unfold Func.isWrapper; first | (rw [if_pos (by decide +kernel)]; kernel_rfl) | (rw [if_neg (by decide +kernel)]; exact ⟨rfl, rfl⟩))
    (fun os started H enc _ => preflightNumbers_lifted os started H enc)

theorem preflightNumbers_card : Rows.PreflightNumbersCardSaid :=
  Claim7.holds_tied_plain_at .later [] _ true _ _
    preflightNumbers_holds (fun _ h => by cases h) (by kernel_rfl) (fun _ h => by cases h) preflightNumbers_row_tie rfl ⟨rfl, rfl⟩ (by kernel_rfl) rfl
    (fun f fn hf hfn => by
      obtain rfl : f = 6 := Option.some.inj ((show Tryz.prog.funcNamed "ostiary/ostiarylaw19.PreflightNumbers" = some 6 by kernel_rfl).symm.trans hf) |>.symm
      obtain rfl : fn = Tryz.f6 := (Option.some.inj (Tryz.func6.symm.trans hfn)).symm
      exact ⟨by kernel_rfl, fun j t ht => by
        rw [Tryz.params6] at ht
        simp at ht⟩)
    (by kernel_rfl)
#print axioms preflightNumbers_card
end Go.Proofs.YthdglgbbkhiaaaaGreatDoor
