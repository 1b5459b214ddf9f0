/- PreflightRows, for any inputs: its call answers true; no condition of our own. -/
import Derived.Test.YtejpgcemblankaaGreatDoorCards
import Derived.Test.YtejpgcemblankaaGreatDoorTie
import Derived.ChangeSame
import Derived.ChangeVars
import Derived.JoinedOf
import Derived.RowKit
import Derived.LaidLaws
import Derived.LaidMore
import Derived.LaidHandle
import Derived.Lay
import Derived.ProofKit
import Derived.OpenShut
import Derived.Stop.Joined
import Derived.SevenTiedAt
import Derived.SizedLaws
import Derived.Test.YtejpgcemblankaaGreatDoorPROOk
import Derived.Test.YtejpgcemblankaaGreatDoorPROL0
import Derived.Test.YtejpgcemblankaaGreatDoorPROL2
import Derived.Test.YtejpgcemblankaaGreatDoorPROM5
namespace Go.Proofs.YtejpgcemblankaaGreatDoor
open Go Go.Am Go.Am.X Go.ChangeShapes Go.WideShapes Go.RowKit
set_option maxRecDepth 1000000
theorem pro_own : ownKnob Tryz.prog.godebug = none := by kernel_rfl
theorem pro_laidOut : laidOutB Tryz.prog = true := by kernel_rfl
theorem pro_nglob : Tryz.prog.globals.size = 6 := by kernel_rfl
theorem preflightRows_lifted (os : Os) (started : os.Started) (H : Type) (enc : TypeId × Value → H) :
    ReturnsInHanded {} Tryz.checked os 4 .any (fun w args => (Rows.preflightRowsSpec.pre enc Tryz.prog Tryz.f4 [] false w args ∧ laidMetH Tryz.prog Rows.preflightRowsRow.laid w) ∧ sizedMet enc Tryz.prog Tryz.f4 (OpenSpec.ofChange Rows.preflightRowsSpec) false w args)
      (Rows.preflightRowsSpec.post enc Tryz.prog Tryz.f4 false true false false) := by
  refine returnsInHanded_of_change_and (C := Tryz.checked) (X := fun w _ => laidMetH Tryz.prog Rows.preflightRowsRow.laid w) (fun _ _ _ hh h => h.of_heap hh) pro_own started (by kernel_rfl) Tryz.func4
    (ChangeSpec.witness_shaped (enc := enc) (C := Tryz.checked) (os := os) (X := fun w _ => laidMetH Tryz.prog Rows.preflightRowsRow.laid w) false (World.laidAll Tryz.prog os Rows.preflightRowsRow.laid) #[.int .i64 0, .bool false] 8 (World.laidAll_os _ _ _) (World.shaped_of_ZipB (by kernel_rfl) (by kernel_rfl)) (by kernel_rfl) (by kernel_rfl) (by kernel_rfl)
      (by rw [MakeChecks.laidMetH_plain _ _ _ (by kernel_rfl)]; exact laidMet_laidAll _ (by kernel_rfl) (by kernel_rfl))) ?_
  intro W base args ds gs before hval0 hW _ hWt hL _
  have hval : ∀ (j : Nat) t v, Tryz.f4.params[j]? = some t → args[j]? = some v → Value.okWide Tryz.prog W .any base t v := hval0
  have hL' : laidMet Tryz.prog Rows.preflightRowsRow.laid W := by rw [MakeChecks.laidMetH_plain _ _ _ (by kernel_rfl)] at hL; exact hL
  have hW' := hW
  obtain ⟨p, q, hA0, hV, rfl, hfz, hnd⟩ := hW
  have hA : DataW.TrodAll enc Tryz.prog W 0 (fun _ => true) true Tryz.f4.params.toList args.toList ds p := hA0
  rw [Tryz.params4] at hA hval hWt
  obtain ⟨v0, vs1, d0, ds1, p0, q0, hargs, rfl, rfl, hd0, hA1⟩ := trodAll_cons hA
  obtain ⟨v1, vs2, d1, ds2, p1, q1, rfl, rfl, rfl, hd1, hA2⟩ := trodAll_cons hA1
  obtain ⟨rfl, rfl, rfl⟩ := trodAll_nil hA2
  obtain ⟨al⟩ := args
  simp only at hargs
  subst hargs
  obtain ⟨rfl, rfl⟩ := trodVars_none hV
  obtain ⟨x0, rfl, rfl, rfl, w0⟩ := open_int Tryz.underlying3 (hval 0 3 v0 rfl rfl) hd0
  obtain ⟨x1, rfl, rfl, rfl⟩ := open_bool Tryz.underlying4 (hval 1 4 v1 rfl rfl) hd1
  have hlen : (startOf Tryz.prog Rows.preflightRowsRow.laid).length = 6 := by unfold startOf; rw [List.length_map, List.length_range, pro_nglob]
  have hok : ∀ id cs, (startOf Tryz.prog Rows.preflightRowsRow.laid)[id]? = some (some cs) → VsOk (Am.start (startOf Tryz.prog Rows.preflightRowsRow.laid)) cs ∧ BOk (fun id => (id, 0)) W.heap.size W id cs cs.length false :=
    startOf_ok (P := Tryz.prog) hL' (ι := fun id => (id, 0)) (fun g _ => rfl) _
  have hcv : cvl (fun id => (id, 0)) [.int .i64 x0, .bool x1] = [.int .i64 x0, .bool x1] := rfl
  have hcall := law_true (P := Tryz.prog) (f := 4) (W := W) (preflightRows_ok (baseOf W) W) [.int .i64 x0, .bool x1] (startOf Tryz.prog Rows.preflightRowsRow.laid) (fun id => (id, 0)) hok (fun g _ => rfl) (by rw [pro_nglob, hlen]; exact Nat.le_refl _) ⟨trivial, trivial, trivial⟩ (fun τ => preflightRows_in τ)
  rw [hcv] at hcall
  refine hcall.mono fun e W' ⟨he, hb⟩ => ?_
  subst he
  exact ⟨_, rfl, law_post (P := Tryz.prog) pro_laidOut rfl rfl (by kernel_rfl) Tryz.underlying4 (by kernel_rfl) hW' hb⟩

theorem preflightRows_jA : jA Tryz.prog Tryz.f4 Rows.preflightRowsSpec Rows.preflightRowsRow = true := by kernel_rfl
theorem preflightRows_jB : jB Tryz.prog 4 Rows.preflightRowsRow = true := by kernel_rfl
theorem preflightRows_jC : jC Tryz.prog 4 Rows.preflightRowsRow = true := by kernel_rfl
theorem preflightRows_jD : jD Tryz.prog 4 Rows.preflightRowsRow = true := by kernel_rfl
theorem preflightRows_jE : jE Tryz.prog 4 Rows.preflightRowsRow = true := by kernel_rfl
theorem preflightRows_jF : jF Tryz.prog Tryz.f4 Rows.preflightRowsSpec Rows.preflightRowsRow = true := by kernel_rfl
theorem preflightRows_jG : jG Tryz.prog = true := by kernel_rfl
theorem preflightRows_jH : jH Tryz.prog = true := by kernel_rfl
theorem preflightRows_jI : jI Tryz.prog Tryz.f4 Rows.preflightRowsSpec Rows.preflightRowsRow = true := by kernel_rfl
theorem preflightRows_holds : Rows.PreflightRowsSaid :=
  OpenClaim.holds_of_wide 4 Tryz.f4 rfl rfl rfl rfl rfl rfl rfl ⟨rfl, rfl, rfl, rfl, rfl⟩ rfl rfl rfl rfl rfl (by kernel_rfl) Tryz.func4 (joined_of (P := Tryz.prog) (f := 4) (fn := Tryz.f4) (s := Rows.preflightRowsSpec) (c := Rows.preflightRowsRow) preflightRows_jA preflightRows_jB preflightRows_jC preflightRows_jD preflightRows_jE preflightRows_jF preflightRows_jG preflightRows_jH preflightRows_jI)
    (of_decide_eq_true (by kernel_rfl)) (by unfold Func.isWrapper; first | (rw [if_pos (by decide +kernel)]; kernel_rfl) | (rw [if_neg (by decide +kernel)]; exact ⟨rfl, rfl⟩))
    (fun os started H enc _ => preflightRows_lifted os started H enc)

theorem preflightRows_card : Rows.PreflightRowsCardSaid :=
  Claim7.holds_tied_plain_at .later [] _ true _ _
    preflightRows_holds (fun _ h => by cases h) (by kernel_rfl) (fun _ h => by cases h) preflightRows_row_tie rfl ⟨rfl, rfl⟩ (by kernel_rfl) rfl
    (fun f fn hf hfn => by
      obtain rfl : f = 4 := Option.some.inj ((show Tryz.prog.funcNamed "ostiary/ostiarylaw19.PreflightRows" = some 4 by kernel_rfl).symm.trans hf) |>.symm
      obtain rfl : fn = Tryz.f4 := (Option.some.inj (Tryz.func4.symm.trans hfn)).symm
      exact ⟨by kernel_rfl, fun j t ht => by
        rw [Tryz.params4] at ht
        have h3 : Tryz.prog.wantsStandIn 3 = false := by kernel_rfl
        have h4 : Tryz.prog.wantsStandIn 4 = false := by kernel_rfl
        rcases j with _ | _ | j
        · simp at ht; subst ht; exact h3
        · simp at ht; subst ht; exact h4
        · simp at ht⟩)
    (by kernel_rfl)
#print axioms preflightRows_card
end Go.Proofs.YtejpgcemblankaaGreatDoor
