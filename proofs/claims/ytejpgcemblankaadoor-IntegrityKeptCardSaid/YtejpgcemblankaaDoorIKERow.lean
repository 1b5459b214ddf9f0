/- IntegrityKept, for any inputs: its call answers true; no condition of our own. -/
import Derived.Test.YtejpgcemblankaaDoorCards
import Derived.Test.YtejpgcemblankaaDoorTie
import Derived.ChangeSame
import Derived.ChangeVars
import Derived.JoinedOf
import Derived.RowKit
import Derived.LaidLaws
import Derived.LaidMore
import Derived.LaidHandle
import Derived.Lay
import Derived.ProofKit
import Derived.OpenShut
import Derived.Stop.Joined
import Derived.SevenTiedAt
import Derived.SizedLaws
import Derived.Test.YtejpgcemblankaaDoorIKEOk
import Derived.Test.YtejpgcemblankaaDoorIKEL0
import Derived.Test.YtejpgcemblankaaDoorIKEL3
import Derived.Test.YtejpgcemblankaaDoorIKEM5
namespace Go.Proofs.YtejpgcemblankaaDoor
open Go Go.Am Go.Am.X Go.ChangeShapes Go.WideShapes Go.RowKit
set_option maxRecDepth 1000000
theorem ike_own : ownKnob Tryd.prog.godebug = none := by kernel_rfl
theorem ike_laidOut : laidOutB Tryd.prog = true := by kernel_rfl
theorem ike_nglob : Tryd.prog.globals.size = 10 := by kernel_rfl
theorem integrityKept_lifted (os : Os) (started : os.Started) (H : Type) (enc : TypeId × Value → H) :
    ReturnsInHanded {} Tryd.checked os 4 .any (fun w args => (Rows.integrityKeptSpec.pre enc Tryd.prog Tryd.f4 [] false w args ∧ laidMetH Tryd.prog Rows.integrityKeptRow.laid w) ∧ sizedMet enc Tryd.prog Tryd.f4 (OpenSpec.ofChange Rows.integrityKeptSpec) false w args)
      (Rows.integrityKeptSpec.post enc Tryd.prog Tryd.f4 false true false false) := by
  refine returnsInHanded_of_change_and (C := Tryd.checked) (X := fun w _ => laidMetH Tryd.prog Rows.integrityKeptRow.laid w) (fun _ _ _ hh h => h.of_heap hh) ike_own started (by kernel_rfl) Tryd.func4
    (ChangeSpec.witness_shaped (enc := enc) (C := Tryd.checked) (os := os) (X := fun w _ => laidMetH Tryd.prog Rows.integrityKeptRow.laid w) false (World.laidAll Tryd.prog os Rows.integrityKeptRow.laid) #[.string ⟨#[]⟩] 8 (World.laidAll_os _ _ _) (World.shaped_of_ZipB (by kernel_rfl) (by kernel_rfl)) (by kernel_rfl) (by kernel_rfl) (by kernel_rfl)
      (by rw [MakeChecks.laidMetH_plain _ _ _ (by kernel_rfl)]; exact laidMet_laidAll _ (by kernel_rfl) (by kernel_rfl))) ?_
  intro W base args ds gs before hval0 hW _ hWt hL _
  have hval : ∀ (j : Nat) t v, Tryd.f4.params[j]? = some t → args[j]? = some v → Value.okWide Tryd.prog W .any base t v := hval0
  have hL' : laidMet Tryd.prog Rows.integrityKeptRow.laid W := by rw [MakeChecks.laidMetH_plain _ _ _ (by kernel_rfl)] at hL; exact hL
  have hW' := hW
  obtain ⟨p, q, hA0, hV, rfl, hfz, hnd⟩ := hW
  have hA : DataW.TrodAll enc Tryd.prog W 0 (fun _ => true) true Tryd.f4.params.toList args.toList ds p := hA0
  rw [Tryd.params4] at hA hval hWt
  obtain ⟨v0, vs1, d0, ds1, p0, q0, hargs, rfl, rfl, hd0, hA1⟩ := trodAll_cons hA
  obtain ⟨rfl, rfl, rfl⟩ := trodAll_nil hA1
  obtain ⟨al⟩ := args
  simp only at hargs
  subst hargs
  obtain ⟨rfl, rfl⟩ := trodVars_none hV
  obtain ⟨y0, rfl, rfl, rfl, w0⟩ := Go.ChangeMaps.open_string Tryd.underlying9 (hval 0 9 v0 rfl rfl) hd0
  have z0 : y0.data.toList.length ≤ 140737488351232 := sized_string hWt (j := 0) (t := 9) rfl rfl
  have hlen : (startOf Tryd.prog Rows.integrityKeptRow.laid).length = 10 := by unfold startOf; rw [List.length_map, List.length_range, ike_nglob]
  have hok : ∀ id cs, (startOf Tryd.prog Rows.integrityKeptRow.laid)[id]? = some (some cs) → VsOk (Am.start (startOf Tryd.prog Rows.integrityKeptRow.laid)) cs ∧ BOk (fun id => (id, 0)) W.heap.size W id cs cs.length false :=
    startOf_ok (P := Tryd.prog) hL' (ι := fun id => (id, 0)) (fun g _ => rfl) _
  have hcv : cvl (fun id => (id, 0)) [.str y0.data.toList] = [.string y0] := rfl
  have hcall := law_true (P := Tryd.prog) (f := 4) (W := W) (integrityKept_ok (baseOf W) W) [.str y0.data.toList] (startOf Tryd.prog Rows.integrityKeptRow.laid) (fun id => (id, 0)) hok (fun g _ => rfl) (by rw [ike_nglob, hlen]; exact Nat.le_refl _) ⟨trivial, trivial⟩ (fun τ => integrityKept_in (by have h := tabs_startK (l := startOf Tryd.prog Rows.integrityKeptRow.laid) (ents := []) (by kernel_rfl); rw [List.append_nil] at h; exact h) τ)
  rw [hcv] at hcall
  refine hcall.mono fun e W' ⟨he, hb⟩ => ?_
  subst he
  exact ⟨_, rfl, law_post (P := Tryd.prog) ike_laidOut rfl rfl (by kernel_rfl) Tryd.underlying4 (by kernel_rfl) hW' hb⟩

theorem integrityKept_jA : jA Tryd.prog Tryd.f4 Rows.integrityKeptSpec Rows.integrityKeptRow = true := by kernel_rfl
theorem integrityKept_jB : jB Tryd.prog 4 Rows.integrityKeptRow = true := by kernel_rfl
theorem integrityKept_jC : jC Tryd.prog 4 Rows.integrityKeptRow = true := by kernel_rfl
theorem integrityKept_jD : jD Tryd.prog 4 Rows.integrityKeptRow = true := by kernel_rfl
theorem integrityKept_jE : jE Tryd.prog 4 Rows.integrityKeptRow = true := by kernel_rfl
theorem integrityKept_jF : jF Tryd.prog Tryd.f4 Rows.integrityKeptSpec Rows.integrityKeptRow = true := by kernel_rfl
theorem integrityKept_jG : jG Tryd.prog = true := by kernel_rfl
theorem integrityKept_jH : jH Tryd.prog = true := by kernel_rfl
theorem integrityKept_jI : jI Tryd.prog Tryd.f4 Rows.integrityKeptSpec Rows.integrityKeptRow = true := by kernel_rfl
theorem integrityKept_holds : Rows.IntegrityKeptSaid :=
  OpenClaim.holds_of_wide 4 Tryd.f4 rfl rfl rfl rfl rfl rfl rfl ⟨rfl, rfl, rfl, rfl, rfl⟩ rfl rfl rfl rfl rfl (by kernel_rfl) Tryd.func4 (joined_of (P := Tryd.prog) (f := 4) (fn := Tryd.f4) (s := Rows.integrityKeptSpec) (c := Rows.integrityKeptRow) integrityKept_jA integrityKept_jB integrityKept_jC integrityKept_jD integrityKept_jE integrityKept_jF integrityKept_jG integrityKept_jH integrityKept_jI)
    (of_decide_eq_true (by kernel_rfl)) (by unfold Func.isWrapper; first | (rw [if_pos (by decide +kernel)]; kernel_rfl) | (rw [if_neg (by decide +kernel)]; exact ⟨rfl, rfl⟩))
    (fun os started H enc _ => integrityKept_lifted os started H enc)

theorem integrityKept_card : Rows.IntegrityKeptCardSaid :=
  Claim7.holds_tied_plain_at .later [] _ true _ _
    integrityKept_holds (fun _ h => by cases h) (by kernel_rfl) (fun _ h => by cases h) integrityKept_row_tie rfl ⟨rfl, rfl⟩ (by kernel_rfl) rfl
    (fun f fn hf hfn => by
      obtain rfl : f = 4 := Option.some.inj ((show Tryd.prog.funcNamed "ostiary/ostiarylaw9.IntegrityKept" = some 4 by kernel_rfl).symm.trans hf) |>.symm
      obtain rfl : fn = Tryd.f4 := (Option.some.inj (Tryd.func4.symm.trans hfn)).symm
      exact ⟨by kernel_rfl, fun j t ht => by
        rw [Tryd.params4] at ht
        have h9 : Tryd.prog.wantsStandIn 9 = false := by kernel_rfl
        rcases j with _ | j
        · simp at ht; subst ht; exact h9
        · simp at ht⟩)
    (by kernel_rfl)
#print axioms integrityKept_card
end Go.Proofs.YtejpgcemblankaaDoor
