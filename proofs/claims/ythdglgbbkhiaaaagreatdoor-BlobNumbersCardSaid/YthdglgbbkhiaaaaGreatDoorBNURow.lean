/- BlobNumbers, a closed sentence: its call answers true; no condition of our own. -/
import Derived.Test.YthdglgbbkhiaaaaGreatDoorCards
import Derived.Test.YthdglgbbkhiaaaaGreatDoorTie
import Derived.ChangeSame
import Derived.ChangeVars
import Derived.JoinedOf
import Derived.RowKit
import Derived.LaidLaws
import Derived.LaidMore
import Derived.LaidHandle
import Derived.Lay
import Derived.ProofKit
import Derived.OpenShut
import Derived.Stop.Joined
import Derived.SevenTiedAt
import Derived.Test.YthdglgbbkhiaaaaGreatDoorBNUOk
import Derived.Test.YthdglgbbkhiaaaaGreatDoorBNUM4
import Derived.Test.YthdglgbbkhiaaaaGreatDoorBNURun
namespace Go.Proofs.YthdglgbbkhiaaaaGreatDoor
open Go Go.Am Go.Am.X Go.ChangeShapes Go.WideShapes Go.RowKit
set_option maxRecDepth 1000000
theorem blobNumbers_st_eq : startOf Tryz.prog (Rows.blobNumbersRow.laid.map fun x => (x.1, x.2)) = blobNumbers_st := by kernel_rfl
theorem blobNumbers_own : ownKnob Tryz.prog.godebug = none := by kernel_rfl
theorem blobNumbers_laidOut : laidOutB Tryz.prog = true := by kernel_rfl
theorem blobNumbers_mixed : Tryz.prog.follows .mixedOrders = true := by kernel_rfl
theorem blobNumbers_nglob : Tryz.prog.globals.size = 6 := by kernel_rfl

theorem blobNumbers_lifted (os : Os) (started : os.Started) (H : Type) (enc : TypeId × Value → H) :
    ReturnsInHanded {} Tryz.checked os 4 .any (fun w args => (Rows.blobNumbersSpec.pre enc Tryz.prog Tryz.f4 [] false w args ∧ laidMetH Tryz.prog Rows.blobNumbersRow.laid w) ∧ sizedMet enc Tryz.prog Tryz.f4 (OpenSpec.ofChange Rows.blobNumbersSpec) false w args)
      (Rows.blobNumbersSpec.post enc Tryz.prog Tryz.f4 false true false false) := by
  refine returnsInHanded_of_change_and (C := Tryz.checked) (X := fun w _ => laidMetH Tryz.prog Rows.blobNumbersRow.laid w) (fun _ _ _ hh h => h.of_heap hh) blobNumbers_own started (by kernel_rfl) Tryz.func4
    (ChangeSpec.witness_shaped (enc := enc) (C := Tryz.checked) (os := os) (X := fun w _ => laidMetH Tryz.prog Rows.blobNumbersRow.laid w) false (World.laidAll Tryz.prog os Rows.blobNumbersRow.laid) #[] 8 (World.laidAll_os _ _ _) (World.shaped_of_ZipB (by kernel_rfl) (by kernel_rfl)) (by kernel_rfl) (by kernel_rfl) (by kernel_rfl)
      (by rw [MakeChecks.laidMetH_plain _ _ _ (by kernel_rfl)]; exact laidMet_laidAll _ (by kernel_rfl) (by kernel_rfl))) ?_
  intro W base args ds gs before hval0 hW _ _ hL _
  have hL' : laidMet Tryz.prog Rows.blobNumbersRow.laid W := by rw [MakeChecks.laidMetH_plain _ _ _ (by kernel_rfl)] at hL; exact hL
  have hW' := hW
  obtain ⟨p, q, hA0, hV, rfl, hfz, hnd⟩ := hW
  have hA : DataW.TrodAll enc Tryz.prog W 0 (fun _ => true) true Tryz.f4.params.toList args.toList ds p := hA0
  rw [Tryz.params4] at hA
  obtain ⟨rfl, rfl⟩ : args = #[] ∧ ds = [] := by
    obtain ⟨l⟩ := args
    cases l with
    | nil => cases ds with
      | nil => exact ⟨rfl, rfl⟩
      | cons d ds => exact hA.elim
    | cons a l => exact hA.elim
  obtain ⟨rfl, rfl⟩ := trodVars_none hV
  have hok := startOf_ok (P := Tryz.prog) hL' (ι := fun id => (id, 0)) (fun g _ => rfl) (Am.start blobNumbers_st)
  rw [show startOf Tryz.prog Rows.blobNumbersRow.laid = blobNumbers_st from blobNumbers_st_eq] at hok
  refine (call_true (P := Tryz.prog) blobNumbers_mixed (W := W) (fun f d hd base w0 => defs_ok (all_ok base w0) f d hd) 100000 40 4 [] blobNumbers_st (fun id => (id, 0)) hok (fun g _ => rfl) (by rw [blobNumbers_nglob]; decide) trivial (run_true (tab_ok 100000) blobNumbers_run)).mono fun e W' ⟨he, hb⟩ => ?_
  subst he
  exact ⟨_, rfl, law_post (P := Tryz.prog) blobNumbers_laidOut rfl rfl (by kernel_rfl) Tryz.underlying4 (by kernel_rfl) hW' hb⟩

theorem blobNumbers_jA : jA Tryz.prog Tryz.f4 Rows.blobNumbersSpec Rows.blobNumbersRow = true := by kernel_rfl
theorem blobNumbers_jB : jB Tryz.prog 4 Rows.blobNumbersRow = true := by kernel_rfl
theorem blobNumbers_jC : jC Tryz.prog 4 Rows.blobNumbersRow = true := by kernel_rfl
theorem blobNumbers_jD : jD Tryz.prog 4 Rows.blobNumbersRow = true := by kernel_rfl
theorem blobNumbers_jE : jE Tryz.prog 4 Rows.blobNumbersRow = true := by kernel_rfl
theorem blobNumbers_jF : jF Tryz.prog Tryz.f4 Rows.blobNumbersSpec Rows.blobNumbersRow = true := by kernel_rfl
theorem blobNumbers_jG : jG Tryz.prog = true := by kernel_rfl
theorem blobNumbers_jH : jH Tryz.prog = true := by kernel_rfl
theorem blobNumbers_jI : jI Tryz.prog Tryz.f4 Rows.blobNumbersSpec Rows.blobNumbersRow = true := by kernel_rfl
theorem blobNumbers_holds : Rows.BlobNumbersSaid :=
  OpenClaim.holds_of_wide 4 Tryz.f4 rfl rfl rfl rfl rfl rfl rfl ⟨rfl, rfl, rfl, rfl, rfl⟩ rfl rfl rfl rfl rfl (by kernel_rfl) Tryz.func4 (joined_of (P := Tryz.prog) (f := 4) (fn := Tryz.f4) (s := Rows.blobNumbersSpec) (c := Rows.blobNumbersRow) blobNumbers_jA blobNumbers_jB blobNumbers_jC blobNumbers_jD blobNumbers_jE blobNumbers_jF blobNumbers_jG blobNumbers_jH blobNumbers_jI)
    (of_decide_eq_true (by kernel_rfl)) (by unfold Func.isWrapper; first | (rw [if_pos (by decide +kernel)]; kernel_rfl) | (rw [if_neg (by decide +kernel)]; exact ⟨rfl, rfl⟩))
    (fun os started H enc _ => blobNumbers_lifted os started H enc)

theorem blobNumbers_card : Rows.BlobNumbersCardSaid :=
  Claim7.holds_tied_plain_at .later [] _ true _ _
    blobNumbers_holds (fun _ h => by cases h) (by kernel_rfl) (fun _ h => by cases h) blobNumbers_row_tie rfl ⟨rfl, rfl⟩ (by kernel_rfl) rfl
    (fun f fn hf hfn => by
      obtain rfl : f = 4 := Option.some.inj ((show Tryz.prog.funcNamed "ostiary/ostiarylaw21.BlobNumbers" = some 4 by kernel_rfl).symm.trans hf) |>.symm
      obtain rfl : fn = Tryz.f4 := (Option.some.inj (Tryz.func4.symm.trans hfn)).symm
      exact ⟨by kernel_rfl, fun j t ht => by
        rw [Tryz.params4] at ht
        simp at ht⟩)
    (by kernel_rfl)
#print axioms blobNumbers_card
end Go.Proofs.YthdglgbbkhiaaaaGreatDoor
