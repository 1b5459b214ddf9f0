/- CacheUse, for any inputs: its call answers true; no condition of our own. -/
import Derived.Test.YtejpgcemblankaaGreatDoorCards
import Derived.Test.YtejpgcemblankaaGreatDoorTie
import Derived.ChangeSame
import Derived.ChangeVars
import Derived.JoinedOf
import Derived.RowKit
import Derived.LaidLaws
import Derived.LaidMore
import Derived.LaidHandle
import Derived.Lay
import Derived.ProofKit
import Derived.OpenShut
import Derived.Stop.Joined
import Derived.SevenTiedAt
import Derived.SizedLaws
import Derived.Test.YtejpgcemblankaaGreatDoorCUSOk
import Derived.Test.YtejpgcemblankaaGreatDoorCUSL0
import Derived.Test.YtejpgcemblankaaGreatDoorCUSL8
import Derived.Test.YtejpgcemblankaaGreatDoorCUSM4
namespace Go.Proofs.YtejpgcemblankaaGreatDoor
open Go Go.Am Go.Am.X Go.ChangeShapes Go.WideShapes Go.RowKit
set_option maxRecDepth 1000000
theorem cus_own : ownKnob Tryz.prog.godebug = none := by kernel_rfl
theorem cus_laidOut : laidOutB Tryz.prog = true := by kernel_rfl
theorem cus_nglob : Tryz.prog.globals.size = 6 := by kernel_rfl
theorem zPo (os : Os) (started : os.Started) (H : Type) (enc : TypeId × Value → H) :
    ReturnsInHanded {} Tryz.checked os 6 .any (fun w args => (Rows.cacheUseSpec.pre enc Tryz.prog Tryz.f6 [] false w args ∧ laidMetH Tryz.prog Rows.cacheUseRow.laid w) ∧ sizedMet enc Tryz.prog Tryz.f6 (OpenSpec.ofChange Rows.cacheUseSpec) false w args)
      (Rows.cacheUseSpec.post enc Tryz.prog Tryz.f6 false true false false) := by
  refine returnsInHanded_of_change_and (C := Tryz.checked) (X := fun w _ => laidMetH Tryz.prog Rows.cacheUseRow.laid w) (fun _ _ _ hh h => h.of_heap hh) cus_own started (by kernel_rfl) Tryz.func6
    (ChangeSpec.witness_shaped (enc := enc) (C := Tryz.checked) (os := os) (X := fun w _ => laidMetH Tryz.prog Rows.cacheUseRow.laid w) false (World.laidAll Tryz.prog os Rows.cacheUseRow.laid) #[.int .i64 0, .int .i64 0] 8 (World.laidAll_os _ _ _) (World.shaped_of_ZipB (by kernel_rfl) (by kernel_rfl)) (by kernel_rfl) (by kernel_rfl) (by kernel_rfl)
      (by rw [MakeChecks.laidMetH_plain _ _ _ (by kernel_rfl)]; exact laidMet_laidAll _ (by kernel_rfl) (by kernel_rfl))) ?_
  intro W base args ds gs before hval0 hW _ hWt hL _
  have hval : ∀ (j : Nat) t v, Tryz.f6.params[j]? = some t → args[j]? = some v → Value.okWide Tryz.prog W .any base t v := hval0
  have hL' : laidMet Tryz.prog Rows.cacheUseRow.laid W := by rw [MakeChecks.laidMetH_plain _ _ _ (by kernel_rfl)] at hL; exact hL
  have hW' := hW
  obtain ⟨p, q, hA0, hV, rfl, hfz, hnd⟩ := hW
  have hA : DataW.TrodAll enc Tryz.prog W 0 (fun _ => true) true Tryz.f6.params.toList args.toList ds p := hA0
  rw [Tryz.params6] at hA hval hWt
  obtain ⟨v0, vs1, d0, ds1, p0, q0, hargs, rfl, rfl, hd0, hA1⟩ := trodAll_cons hA
  obtain ⟨v1, vs2, d1, ds2, p1, q1, rfl, rfl, rfl, hd1, hA2⟩ := trodAll_cons hA1
  obtain ⟨rfl, rfl, rfl⟩ := trodAll_nil hA2
  obtain ⟨al⟩ := args
  simp only at hargs
  subst hargs
  obtain ⟨rfl, rfl⟩ := trodVars_none hV
  obtain ⟨x0, rfl, rfl, rfl, w0⟩ := open_int Tryz.underlying3 (hval 0 3 v0 rfl rfl) hd0
  obtain ⟨x1, rfl, rfl, rfl, w1⟩ := open_int Tryz.underlying3 (hval 1 3 v1 rfl rfl) hd1
  have hlen : (zNd Tryz.prog Rows.cacheUseRow.laid).length = 6 := by unfold zNd; rw [List.length_map, List.length_range, cus_nglob]
  have hok : ∀ id cs, (zNd Tryz.prog Rows.cacheUseRow.laid)[id]? = some (some cs) → VsOk (Am.start (zNd Tryz.prog Rows.cacheUseRow.laid)) cs ∧ BOk (fun id => (id, 0)) W.heap.size W id cs cs.length false :=
    startOf_ok (P := Tryz.prog) hL' (ι := fun id => (id, 0)) (fun g _ => rfl) _
  have hcv : cvl (fun id => (id, 0)) [.int .i64 x0, .int .i64 x1] = [.int .i64 x0, .int .i64 x1] := rfl
  have hcall := law_true (P := Tryz.prog) (f := 6) (W := W) (cacheUse_ok (baseOf W) W) [.int .i64 x0, .int .i64 x1] (zNd Tryz.prog Rows.cacheUseRow.laid) (fun id => (id, 0)) hok (fun g _ => rfl) (by rw [cus_nglob, hlen]; exact Nat.le_refl _) ⟨trivial, trivial, trivial⟩ (fun τ => cacheUse_in τ)
  rw [hcv] at hcall
  refine hcall.mono fun e W' ⟨he, hb⟩ => ?_
  subst he
  exact ⟨_, rfl, law_post (P := Tryz.prog) cus_laidOut rfl rfl (by kernel_rfl) Tryz.underlying4 (by kernel_rfl) hW' hb⟩

theorem cacheUse_jA : jA Tryz.prog Tryz.f6 Rows.cacheUseSpec Rows.cacheUseRow = true := by kernel_rfl
theorem cacheUse_jB : jB Tryz.prog 6 Rows.cacheUseRow = true := by kernel_rfl
theorem cacheUse_jC : jC Tryz.prog 6 Rows.cacheUseRow = true := by kernel_rfl
theorem cacheUse_jD : jD Tryz.prog 6 Rows.cacheUseRow = true := by kernel_rfl
theorem cacheUse_jE : jE Tryz.prog 6 Rows.cacheUseRow = true := by kernel_rfl
theorem cacheUse_jF : jF Tryz.prog Tryz.f6 Rows.cacheUseSpec Rows.cacheUseRow = true := by kernel_rfl
theorem cacheUse_jG : jG Tryz.prog = true := by kernel_rfl
theorem cacheUse_jH : jH Tryz.prog = true := by kernel_rfl
theorem cacheUse_jI : jI Tryz.prog Tryz.f6 Rows.cacheUseSpec Rows.cacheUseRow = true := by kernel_rfl
theorem zQe : Rows.CacheUseSaid :=
  OpenClaim.holds_of_wide 6 Tryz.f6 rfl rfl rfl rfl rfl rfl rfl ⟨rfl, rfl, rfl, rfl, rfl⟩ rfl rfl rfl rfl rfl (by kernel_rfl) Tryz.func6 (joined_of (P := Tryz.prog) (f := 6) (fn := Tryz.f6) (s := Rows.cacheUseSpec) (c := Rows.cacheUseRow) cacheUse_jA cacheUse_jB cacheUse_jC cacheUse_jD cacheUse_jE cacheUse_jF cacheUse_jG cacheUse_jH cacheUse_jI)
    (of_decide_eq_true (by kernel_rfl)) (by unfold Func.isWrapper; first | (rw [if_pos (by decide +kernel)]; kernel_rfl) | (rw [if_neg (by decide +kernel)]; exact ⟨rfl, rfl⟩))
    (fun os started H enc _ => zPo os started H enc)

theorem cacheUse_card : Rows.CacheUseCardSaid :=
  Claim7.holds_tied_plain_at .later [] _ true _ _
    zQe (fun _ h => by cases h) (by kernel_rfl) (fun _ h => by cases h) cacheUse_row_tie rfl ⟨rfl, rfl⟩ (by kernel_rfl) rfl
    (fun f fn hf hfn => by
      obtain rfl : f = 6 := Option.some.inj ((show Tryz.prog.funcNamed "ostiary/ostiarylaw17.CacheUse" = some 6 by kernel_rfl).symm.trans hf) |>.symm
      obtain rfl : fn = Tryz.f6 := (Option.some.inj (Tryz.func6.symm.trans hfn)).symm
      exact ⟨by kernel_rfl, fun j t ht => by
        rw [Tryz.params6] at ht
        have h3 : Tryz.prog.wantsStandIn 3 = false := by kernel_rfl
        rcases j with _ | _ | j
        · simp at ht; subst ht; exact h3
        · simp at ht; subst ht; exact h3
        · simp at ht⟩)
    (by kernel_rfl)
#print axioms cacheUse_card
end Go.Proofs.YtejpgcemblankaaGreatDoor
