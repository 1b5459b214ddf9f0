/- CacheNumbers, a closed sentence: its call answers true; no condition of our own. -/
import Derived.Test.YthdglgbbkhiaaaaGreatDoorCards
import Derived.Test.YthdglgbbkhiaaaaGreatDoorTie
import Derived.ChangeSame
import Derived.ChangeVars
import Derived.JoinedOf
import Derived.RowKit
import Derived.LaidLaws
import Derived.LaidMore
import Derived.LaidHandle
import Derived.Lay
import Derived.ProofKit
import Derived.OpenShut
import Derived.Stop.Joined
import Derived.SevenTiedAt
import Derived.Test.YthdglgbbkhiaaaaGreatDoorCNUOk
import Derived.Test.YthdglgbbkhiaaaaGreatDoorCNUM4
import Derived.Test.YthdglgbbkhiaaaaGreatDoorCNURun
namespace Go.Proofs.YthdglgbbkhiaaaaGreatDoor
open Go Go.Am Go.Am.X Go.ChangeShapes Go.WideShapes Go.RowKit
set_option maxRecDepth 1000000
theorem cacheNumbers_st_eq : startOf Tryz.prog (Rows.cacheNumbersRow.laid.map fun x => (x.1, x.2)) = cacheNumbers_st := by kernel_rfl
theorem cacheNumbers_own : ownKnob Tryz.prog.godebug = none := by kernel_rfl
theorem cacheNumbers_laidOut : laidOutB Tryz.prog = true := by kernel_rfl
theorem cacheNumbers_mixed : Tryz.prog.follows .mixedOrders = true := by kernel_rfl
theorem cacheNumbers_nglob : Tryz.prog.globals.size = 6 := by kernel_rfl

theorem cacheNumbers_lifted (os : Os) (started : os.Started) (H : Type) (enc : TypeId × Value → H) :
    ReturnsInHanded {} Tryz.checked os 3 .any (fun w args => (Rows.cacheNumbersSpec.pre enc Tryz.prog Tryz.f3 [] false w args ∧ laidMetH Tryz.prog Rows.cacheNumbersRow.laid w) ∧ sizedMet enc Tryz.prog Tryz.f3 (OpenSpec.ofChange Rows.cacheNumbersSpec) false w args)
      (Rows.cacheNumbersSpec.post enc Tryz.prog Tryz.f3 false true false false) := by
  refine returnsInHanded_of_change_and (C := Tryz.checked) (X := fun w _ => laidMetH Tryz.prog Rows.cacheNumbersRow.laid w) (fun _ _ _ hh h => h.of_heap hh) cacheNumbers_own started (by kernel_rfl) Tryz.func3
    (ChangeSpec.witness_shaped (enc := enc) (C := Tryz.checked) (os := os) (X := fun w _ => laidMetH Tryz.prog Rows.cacheNumbersRow.laid w) false (World.laidAll Tryz.prog os Rows.cacheNumbersRow.laid) #[] 8 (World.laidAll_os _ _ _) (World.shaped_of_ZipB (by kernel_rfl) (by kernel_rfl)) (by kernel_rfl) (by kernel_rfl) (by kernel_rfl)
      (by rw [MakeChecks.laidMetH_plain _ _ _ (by kernel_rfl)]; exact laidMet_laidAll _ (by kernel_rfl) (by kernel_rfl))) ?_
  intro W base args ds gs before hval0 hW _ _ hL _
  have hL' : laidMet Tryz.prog Rows.cacheNumbersRow.laid W := by rw [MakeChecks.laidMetH_plain _ _ _ (by kernel_rfl)] at hL; exact hL
  have hW' := hW
  obtain ⟨p, q, hA0, hV, rfl, hfz, hnd⟩ := hW
  have hA : DataW.TrodAll enc Tryz.prog W 0 (fun _ => true) true Tryz.f3.params.toList args.toList ds p := hA0
  rw [Tryz.params3] at hA
  obtain ⟨rfl, rfl⟩ : args = #[] ∧ ds = [] := by
    obtain ⟨l⟩ := args
    cases l with
    | nil => cases ds with
      | nil => exact ⟨rfl, rfl⟩
      | cons d ds => exact hA.elim
    | cons a l => exact hA.elim
  obtain ⟨rfl, rfl⟩ := trodVars_none hV
  have hok := startOf_ok (P := Tryz.prog) hL' (ι := fun id => (id, 0)) (fun g _ => rfl) (Am.start cacheNumbers_st)
  rw [show startOf Tryz.prog Rows.cacheNumbersRow.laid = cacheNumbers_st from cacheNumbers_st_eq] at hok
  refine (call_true (P := Tryz.prog) cacheNumbers_mixed (W := W) (fun f d hd base w0 => defs_ok (all_ok base w0) f d hd) 100000 40 3 [] cacheNumbers_st (fun id => (id, 0)) hok (fun g _ => rfl) (by rw [cacheNumbers_nglob]; decide) trivial (run_true (tab_ok 100000) cacheNumbers_run)).mono fun e W' ⟨he, hb⟩ => ?_
  subst he
  exact ⟨_, rfl, law_post (P := Tryz.prog) cacheNumbers_laidOut rfl rfl (by kernel_rfl) Tryz.underlying4 (by kernel_rfl) hW' hb⟩

theorem cacheNumbers_jA : jA Tryz.prog Tryz.f3 Rows.cacheNumbersSpec Rows.cacheNumbersRow = true := by kernel_rfl
theorem cacheNumbers_jB : jB Tryz.prog 3 Rows.cacheNumbersRow = true := by kernel_rfl
theorem cacheNumbers_jC : jC Tryz.prog 3 Rows.cacheNumbersRow = true := by kernel_rfl
theorem cacheNumbers_jD : jD Tryz.prog 3 Rows.cacheNumbersRow = true := by kernel_rfl
theorem cacheNumbers_jE : jE Tryz.prog 3 Rows.cacheNumbersRow = true := by kernel_rfl
theorem cacheNumbers_jF : jF Tryz.prog Tryz.f3 Rows.cacheNumbersSpec Rows.cacheNumbersRow = true := by kernel_rfl
theorem cacheNumbers_jG : jG Tryz.prog = true := by kernel_rfl
theorem cacheNumbers_jH : jH Tryz.prog = true := by kernel_rfl
theorem cacheNumbers_jI : jI Tryz.prog Tryz.f3 Rows.cacheNumbersSpec Rows.cacheNumbersRow = true := by kernel_rfl
theorem cacheNumbers_holds : Rows.CacheNumbersSaid :=
  OpenClaim.holds_of_wide 3 Tryz.f3 rfl rfl rfl rfl rfl rfl rfl ⟨rfl, rfl, rfl, rfl, rfl⟩ rfl rfl rfl rfl rfl (by kernel_rfl) Tryz.func3 (joined_of (P := Tryz.prog) (f := 3) (fn := Tryz.f3) (s := Rows.cacheNumbersSpec) (c := Rows.cacheNumbersRow) cacheNumbers_jA cacheNumbers_jB cacheNumbers_jC cacheNumbers_jD cacheNumbers_jE cacheNumbers_jF cacheNumbers_jG cacheNumbers_jH cacheNumbers_jI)
    (of_decide_eq_true (by kernel_rfl)) (by unfold Func.isWrapper; first | (rw [if_pos (by decide +kernel)]; kernel_rfl) | (rw [if_neg (by decide +kernel)]; exact ⟨rfl, rfl⟩))
    (fun os started H enc _ => cacheNumbers_lifted os started H enc)

theorem cacheNumbers_card : Rows.CacheNumbersCardSaid :=
  Claim7.holds_tied_plain_at .later [] _ true _ _
    cacheNumbers_holds (fun _ h => by cases h) (by kernel_rfl) (fun _ h => by cases h) cacheNumbers_row_tie rfl ⟨rfl, rfl⟩ (by kernel_rfl) rfl
    (fun f fn hf hfn => by
      obtain rfl : f = 3 := Option.some.inj ((show Tryz.prog.funcNamed "ostiary/ostiarylaw17.CacheNumbers" = some 3 by kernel_rfl).symm.trans hf) |>.symm
      obtain rfl : fn = Tryz.f3 := (Option.some.inj (Tryz.func3.symm.trans hfn)).symm
      exact ⟨by kernel_rfl, fun j t ht => by
        rw [Tryz.params3] at ht
        simp at ht⟩)
    (by kernel_rfl)
#print axioms cacheNumbers_card
end Go.Proofs.YthdglgbbkhiaaaaGreatDoor
