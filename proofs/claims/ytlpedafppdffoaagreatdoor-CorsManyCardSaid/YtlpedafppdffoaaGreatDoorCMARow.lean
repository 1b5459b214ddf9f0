/- CorsMany, for any inputs: its call answers true; no condition of our own. -/
import Derived.Test.YtlpedafppdffoaaGreatDoorCards
import Derived.Test.YtlpedafppdffoaaGreatDoorTie
import Derived.ChangeSame
import Derived.ChangeVars
import Derived.JoinedOf
import Derived.RowKit
import Derived.LaidLaws
import Derived.LaidMore
import Derived.LaidHandle
import Derived.Lay
import Derived.ProofKit
import Derived.OpenShut
import Derived.Stop.Joined
import Derived.SevenTiedAt
import Derived.SizedLaws
import Derived.Test.YtlpedafppdffoaaGreatDoorCMAOk
import Derived.Test.YtlpedafppdffoaaGreatDoorCMAL0
import Derived.Test.YtlpedafppdffoaaGreatDoorCMAL5
import Derived.Test.YtlpedafppdffoaaGreatDoorCMAM5
namespace Go.Proofs.YtlpedafppdffoaaGreatDoor
open Go Go.Am Go.Am.X Go.ChangeShapes Go.WideShapes Go.RowKit
set_option maxRecDepth 1000000
theorem cma_own : ownKnob Tryz.prog.godebug = none := by kernel_rfl
theorem cma_laidOut : laidOutB Tryz.prog = true := by kernel_rfl
theorem cma_nglob : Tryz.prog.globals.size = 6 := by kernel_rfl
theorem corsMany_lifted (os : Os) (started : os.Started) (H : Type) (enc : TypeId × Value → H) :
    ReturnsInHanded {} Tryz.checked os 5 .any (fun w args => (Rows.corsManySpec.pre enc Tryz.prog Tryz.f5 [] false w args ∧ laidMetH Tryz.prog Rows.corsManyRow.laid w) ∧ sizedMet enc Tryz.prog Tryz.f5 (OpenSpec.ofChange Rows.corsManySpec) false w args)
      (Rows.corsManySpec.post enc Tryz.prog Tryz.f5 false true false false) := by
  refine returnsInHanded_of_change_and (C := Tryz.checked) (X := fun w _ => laidMetH Tryz.prog Rows.corsManyRow.laid w) (fun _ _ _ hh h => h.of_heap hh) cma_own started (by kernel_rfl) Tryz.func5
    (ChangeSpec.witness_shaped (enc := enc) (C := Tryz.checked) (os := os) (X := fun w _ => laidMetH Tryz.prog Rows.corsManyRow.laid w) false (World.laidAll Tryz.prog os Rows.corsManyRow.laid) #[.int .i64 0, .int .i64 0, .string ⟨#[]⟩] 8 (World.laidAll_os _ _ _) (World.shaped_of_ZipB (by kernel_rfl) (by kernel_rfl)) (by kernel_rfl) (by kernel_rfl) (by kernel_rfl)
      (by rw [MakeChecks.laidMetH_plain _ _ _ (by kernel_rfl)]; exact laidMet_laidAll _ (by kernel_rfl) (by kernel_rfl))) ?_
  intro W base args ds gs before hval0 hW _ hWt hL _
  have hval : ∀ (j : Nat) t v, Tryz.f5.params[j]? = some t → args[j]? = some v → Value.okWide Tryz.prog W .any base t v := hval0
  have hL' : laidMet Tryz.prog Rows.corsManyRow.laid W := by rw [MakeChecks.laidMetH_plain _ _ _ (by kernel_rfl)] at hL; exact hL
  have hW' := hW
  obtain ⟨p, q, hA0, hV, rfl, hfz, hnd⟩ := hW
  have hA : DataW.TrodAll enc Tryz.prog W 0 (fun _ => true) true Tryz.f5.params.toList args.toList ds p := hA0
  rw [Tryz.params5] at hA hval hWt
  obtain ⟨v0, vs1, d0, ds1, p0, q0, hargs, rfl, rfl, hd0, hA1⟩ := trodAll_cons hA
  obtain ⟨v1, vs2, d1, ds2, p1, q1, rfl, rfl, rfl, hd1, hA2⟩ := trodAll_cons hA1
  obtain ⟨v2, vs3, d2, ds3, p2, q2, rfl, rfl, rfl, hd2, hA3⟩ := trodAll_cons hA2
  obtain ⟨rfl, rfl, rfl⟩ := trodAll_nil hA3
  obtain ⟨al⟩ := args
  simp only at hargs
  subst hargs
  obtain ⟨rfl, rfl⟩ := trodVars_none hV
  obtain ⟨x0, rfl, rfl, rfl, w0⟩ := open_int Tryz.underlying3 (hval 0 3 v0 rfl rfl) hd0
  obtain ⟨x1, rfl, rfl, rfl, w1⟩ := open_int Tryz.underlying3 (hval 1 3 v1 rfl rfl) hd1
  obtain ⟨y2, rfl, rfl, rfl, w2⟩ := Go.ChangeMaps.open_string Tryz.underlying9 (hval 2 9 v2 rfl rfl) hd2
  have z2 : y2.data.toList.length ≤ 140737488351232 := sized_string hWt (j := 2) (t := 9) rfl rfl
  have hlen : (startOf Tryz.prog Rows.corsManyRow.laid).length = 6 := by unfold startOf; rw [List.length_map, List.length_range, cma_nglob]
  have hok : ∀ id cs, (startOf Tryz.prog Rows.corsManyRow.laid)[id]? = some (some cs) → VsOk (Am.start (startOf Tryz.prog Rows.corsManyRow.laid)) cs ∧ BOk (fun id => (id, 0)) W.heap.size W id cs cs.length false :=
    startOf_ok (P := Tryz.prog) hL' (ι := fun id => (id, 0)) (fun g _ => rfl) _
  have hcv : cvl (fun id => (id, 0)) [.int .i64 x0, .int .i64 x1, .str y2.data.toList] = [.int .i64 x0, .int .i64 x1, .string y2] := rfl
  have hcall := law_true (P := Tryz.prog) (f := 5) (W := W) (corsMany_ok (baseOf W) W) [.int .i64 x0, .int .i64 x1, .str y2.data.toList] (startOf Tryz.prog Rows.corsManyRow.laid) (fun id => (id, 0)) hok (fun g _ => rfl) (by rw [cma_nglob, hlen]; exact Nat.le_refl _) ⟨trivial, trivial, trivial, trivial⟩ (fun τ => corsMany_in _ _ _ τ)
  rw [hcv] at hcall
  refine hcall.mono fun e W' ⟨he, hb⟩ => ?_
  subst he
  exact ⟨_, rfl, law_post (P := Tryz.prog) cma_laidOut rfl rfl (by kernel_rfl) Tryz.underlying4 (by kernel_rfl) hW' hb⟩

theorem corsMany_jA : jA Tryz.prog Tryz.f5 Rows.corsManySpec Rows.corsManyRow = true := by kernel_rfl
theorem corsMany_jB : jB Tryz.prog 5 Rows.corsManyRow = true := by kernel_rfl
theorem corsMany_jC : jC Tryz.prog 5 Rows.corsManyRow = true := by kernel_rfl
theorem corsMany_jD : jD Tryz.prog 5 Rows.corsManyRow = true := by kernel_rfl
theorem corsMany_jE : jE Tryz.prog 5 Rows.corsManyRow = true := by kernel_rfl
theorem corsMany_jF : jF Tryz.prog Tryz.f5 Rows.corsManySpec Rows.corsManyRow = true := by kernel_rfl
theorem corsMany_jG : jG Tryz.prog = true := by kernel_rfl
theorem corsMany_jH : jH Tryz.prog = true := by kernel_rfl
theorem corsMany_jI : jI Tryz.prog Tryz.f5 Rows.corsManySpec Rows.corsManyRow = true := by kernel_rfl
theorem corsMany_holds : Rows.CorsManySaid :=
  OpenClaim.holds_of_wide 5 Tryz.f5 rfl rfl rfl rfl rfl rfl rfl ⟨rfl, rfl, rfl, rfl, rfl⟩ rfl rfl rfl rfl rfl (by kernel_rfl) Tryz.func5 (joined_of (P := Tryz.prog) (f := 5) (fn := Tryz.f5) (s := Rows.corsManySpec) (c := Rows.corsManyRow) corsMany_jA corsMany_jB corsMany_jC corsMany_jD corsMany_jE corsMany_jF corsMany_jG corsMany_jH corsMany_jI)
    (of_decide_eq_true (by kernel_rfl)) (by unfold Func.isWrapper; first | (rw [if_pos (by decide +kernel)]; kernel_rfl) | (rw [if_neg (by decide +kernel)]; exact ⟨rfl, rfl⟩))
    (fun os started H enc _ => corsMany_lifted os started H enc)

theorem corsMany_card : Rows.CorsManyCardSaid :=
  Claim7.holds_tied_plain_at .later [] _ true _ _
    corsMany_holds (fun _ h => by cases h) (by kernel_rfl) (fun _ h => by cases h) corsMany_row_tie rfl ⟨rfl, rfl⟩ (by kernel_rfl) rfl
    (fun f fn hf hfn => by
      obtain rfl : f = 5 := Option.some.inj ((show Tryz.prog.funcNamed "ostiary/ostiarylaw18.CorsMany" = some 5 by kernel_rfl).symm.trans hf) |>.symm
      obtain rfl : fn = Tryz.f5 := (Option.some.inj (Tryz.func5.symm.trans hfn)).symm
      exact ⟨by kernel_rfl, fun j t ht => by
        rw [Tryz.params5] at ht
        have h3 : Tryz.prog.wantsStandIn 3 = false := by kernel_rfl
        have h9 : Tryz.prog.wantsStandIn 9 = false := by kernel_rfl
        rcases j with _ | _ | _ | j
        · simp at ht; subst ht; exact h3
        · simp at ht; subst ht; exact h3
        · simp at ht; subst ht; exact h9
        · simp at ht⟩)
    (by kernel_rfl)
#print axioms corsMany_card
end Go.Proofs.YtlpedafppdffoaaGreatDoor
