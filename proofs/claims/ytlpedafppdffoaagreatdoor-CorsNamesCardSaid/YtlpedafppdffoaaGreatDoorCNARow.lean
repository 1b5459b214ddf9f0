/- CorsNames, for any inputs: its call answers true; no condition of our own. -/
import Derived.Test.YtlpedafppdffoaaGreatDoorCards
import Derived.Test.YtlpedafppdffoaaGreatDoorTie
import Derived.ChangeSame
import Derived.ChangeVars
import Derived.JoinedOf
import Derived.RowKit
import Derived.LaidLaws
import Derived.LaidMore
import Derived.LaidHandle
import Derived.Lay
import Derived.ProofKit
import Derived.OpenShut
import Derived.Stop.Joined
import Derived.SevenTiedAt
import Derived.SizedLaws
import Derived.Test.YtlpedafppdffoaaGreatDoorCNAOk
import Derived.Test.YtlpedafppdffoaaGreatDoorCNAL0
import Derived.Test.YtlpedafppdffoaaGreatDoorCNAL5
import Derived.Test.YtlpedafppdffoaaGreatDoorCNAM5
namespace Go.Proofs.YtlpedafppdffoaaGreatDoor
open Go Go.Am Go.Am.X Go.ChangeShapes Go.WideShapes Go.RowKit
set_option maxRecDepth 1000000
theorem cna_own : ownKnob Tryz.prog.godebug = none := by kernel_rfl
theorem cna_laidOut : laidOutB Tryz.prog = true := by kernel_rfl
theorem cna_nglob : Tryz.prog.globals.size = 6 := by kernel_rfl
theorem corsNames_lifted (os : Os) (started : os.Started) (H : Type) (enc : TypeId × Value → H) :
    ReturnsInHanded {} Tryz.checked os 6 .any (fun w args => (Rows.corsNamesSpec.pre enc Tryz.prog Tryz.f6 [] false w args ∧ laidMetH Tryz.prog Rows.corsNamesRow.laid w) ∧ sizedMet enc Tryz.prog Tryz.f6 (OpenSpec.ofChange Rows.corsNamesSpec) false w args)
      (Rows.corsNamesSpec.post enc Tryz.prog Tryz.f6 false true false false) := by
  refine returnsInHanded_of_change_and (C := Tryz.checked) (X := fun w _ => laidMetH Tryz.prog Rows.corsNamesRow.laid w) (fun _ _ _ hh h => h.of_heap hh) cna_own started (by kernel_rfl) Tryz.func6
    (ChangeSpec.witness_shaped (enc := enc) (C := Tryz.checked) (os := os) (X := fun w _ => laidMetH Tryz.prog Rows.corsNamesRow.laid w) false (World.laidAll Tryz.prog os Rows.corsNamesRow.laid) #[.slice none 0 0] 8 (World.laidAll_os _ _ _) (World.shaped_of_ZipB (by kernel_rfl) (by kernel_rfl)) (by kernel_rfl) (by kernel_rfl) (by kernel_rfl)
      (by rw [MakeChecks.laidMetH_plain _ _ _ (by kernel_rfl)]; exact laidMet_laidAll _ (by kernel_rfl) (by kernel_rfl))) ?_
  intro W base args ds gs before hval0 hW _ hWt hL _
  have hval : ∀ (j : Nat) t v, Tryz.f6.params[j]? = some t → args[j]? = some v → Value.okWide Tryz.prog W .any base t v := hval0
  have hL' : laidMet Tryz.prog Rows.corsNamesRow.laid W := by rw [MakeChecks.laidMetH_plain _ _ _ (by kernel_rfl)] at hL; exact hL
  have hW' := hW
  obtain ⟨p, q, hA0, hV, rfl, hfz, hnd⟩ := hW
  have hA : DataW.TrodAll enc Tryz.prog W 0 (fun _ => true) true Tryz.f6.params.toList args.toList ds p := hA0
  rw [Tryz.params6] at hA hval hWt
  obtain ⟨v0, vs1, d0, ds1, p0, q0, hargs, rfl, rfl, hd0, hA1⟩ := trodAll_cons hA
  obtain ⟨rfl, rfl, rfl⟩ := trodAll_nil hA1
  obtain ⟨al⟩ := args
  simp only at hargs
  subst hargs
  obtain ⟨rfl, rfl⟩ := trodVars_none hV
  obtain ⟨ss0, u0, ent0, addr0, hs1_0, hs2_0, h2_0, h3_0, h4_0, h5_0⟩ := open_strings (P := Tryz.prog) (W := W) Tryz.underlying43 Tryz.underlying9 (by kernel_rfl) (hval 0 43 v0 rfl rfl) hd0 6
  have hlen : (startOf Tryz.prog Rows.corsNamesRow.laid).length = 6 := by unfold startOf; rw [List.length_map, List.length_range, cna_nglob]
  have hι : ∀ g, g < 6 → (fun id => if id = 6 then addr0 else (id, 0) : Inj) g = (g, 0) := fun g hg => by simp only; rw [if_neg (by omega)]
  have hlast0 : (startOf Tryz.prog Rows.corsNamesRow.laid ++ [ent0])[6]? = some ent0 := by rw [List.getElem?_append_right (by omega), hlen]; rfl
  have hok : ∀ id cs, (startOf Tryz.prog Rows.corsNamesRow.laid ++ [ent0])[id]? = some (some cs) → VsOk (Am.start (startOf Tryz.prog Rows.corsNamesRow.laid ++ [ent0])) cs ∧ BOk (fun id => if id = 6 then addr0 else (id, 0)) W.heap.size W id cs cs.length false := by
    intro id cs hid
    by_cases hlt : id < 6
    · rw [List.getElem?_append_left (by omega)] at hid
      exact startOf_ok (P := Tryz.prog) hL' (ι := fun id => if id = 6 then addr0 else (id, 0)) (fun g hg => hι g (by rw [cna_nglob] at hg; exact hg)) _ id cs hid
    · have hlt2 : id < 7 := by
        have := (List.getElem?_eq_some_iff.1 hid).1
        rw [List.length_append, hlen] at this
        simp at this
        omega
      obtain rfl : id = 6 := by omega
      rw [hlast0] at hid
      obtain ⟨k1, k2⟩ := h3_0 cs (Option.some.inj hid)
      refine ⟨?_, k2 _ _ (by simp)⟩
      rw [k1, VsOk_iff]
      intro x hx
      obtain ⟨n, _, rfl⟩ := List.mem_map.1 hx
      trivial
  have hsz : (Am.start (startOf Tryz.prog Rows.corsNamesRow.laid ++ [ent0])).size = 7 := by rw [start_size, List.length_append, hlen]; rfl
  have hr0 := h5_0 (Am.start (startOf Tryz.prog Rows.corsNamesRow.laid ++ [ent0])) (fun cs hcs => start_cells (by rw [hlast0, hcs]))
  have hcv : cvl (fun id => if id = 6 then addr0 else (id, 0)) [u0] = [v0] := by
    simp only [cvl, h2_0 (fun id => if id = 6 then addr0 else (id, 0)) (by simp)]
    try rfl
  have hcall := law_true (P := Tryz.prog) (f := 6) (W := W) (corsNames_ok (baseOf W) W) [u0] (startOf Tryz.prog Rows.corsNamesRow.laid ++ [ent0]) (fun id => if id = 6 then addr0 else (id, 0)) hok (fun g hg => hι g (by rw [cna_nglob] at hg; exact hg)) (by rw [cna_nglob, List.length_append, hlen]; simp) ⟨h4_0 _ (by rw [hsz]; decide), trivial⟩ (fun τ => corsNames_in hr0 hs1_0 hs2_0 τ)
  rw [hcv] at hcall
  refine hcall.mono fun e W' ⟨he, hb⟩ => ?_
  subst he
  exact ⟨_, rfl, law_post (P := Tryz.prog) cna_laidOut rfl rfl (by kernel_rfl) Tryz.underlying4 (by kernel_rfl) hW' hb⟩

theorem corsNames_jA : jA Tryz.prog Tryz.f6 Rows.corsNamesSpec Rows.corsNamesRow = true := by kernel_rfl
theorem corsNames_jB : jB Tryz.prog 6 Rows.corsNamesRow = true := by kernel_rfl
theorem corsNames_jC : jC Tryz.prog 6 Rows.corsNamesRow = true := by kernel_rfl
theorem corsNames_jD : jD Tryz.prog 6 Rows.corsNamesRow = true := by kernel_rfl
theorem corsNames_jE : jE Tryz.prog 6 Rows.corsNamesRow = true := by kernel_rfl
theorem corsNames_jF : jF Tryz.prog Tryz.f6 Rows.corsNamesSpec Rows.corsNamesRow = true := by kernel_rfl
theorem corsNames_jG : jG Tryz.prog = true := by kernel_rfl
theorem corsNames_jH : jH Tryz.prog = true := by kernel_rfl
theorem corsNames_jI : jI Tryz.prog Tryz.f6 Rows.corsNamesSpec Rows.corsNamesRow = true := by kernel_rfl
theorem corsNames_holds : Rows.CorsNamesSaid :=
  OpenClaim.holds_of_wide 6 Tryz.f6 rfl rfl rfl rfl rfl rfl rfl ⟨rfl, rfl, rfl, rfl, rfl⟩ rfl rfl rfl rfl rfl (by kernel_rfl) Tryz.func6 (joined_of (P := Tryz.prog) (f := 6) (fn := Tryz.f6) (s := Rows.corsNamesSpec) (c := Rows.corsNamesRow) corsNames_jA corsNames_jB corsNames_jC corsNames_jD corsNames_jE corsNames_jF corsNames_jG corsNames_jH corsNames_jI)
    (of_decide_eq_true (by kernel_rfl)) (by unfold Func.isWrapper; first | (rw [if_pos (by decide +kernel)]; kernel_rfl) | (rw [if_neg (by decide +kernel)]; exact ⟨rfl, rfl⟩))
    (fun os started H enc _ => corsNames_lifted os started H enc)

theorem corsNames_card : Rows.CorsNamesCardSaid :=
  Claim7.holds_tied_plain_at .later [] _ true _ _
    corsNames_holds (fun _ h => by cases h) (by kernel_rfl) (fun _ h => by cases h) corsNames_row_tie rfl ⟨rfl, rfl⟩ (by kernel_rfl) rfl
    (fun f fn hf hfn => by
      obtain rfl : f = 6 := Option.some.inj ((show Tryz.prog.funcNamed "ostiary/ostiarylaw18.CorsNames" = some 6 by kernel_rfl).symm.trans hf) |>.symm
      obtain rfl : fn = Tryz.f6 := (Option.some.inj (Tryz.func6.symm.trans hfn)).symm
      exact ⟨by kernel_rfl, fun j t ht => by
        rw [Tryz.params6] at ht
        have h43 : Tryz.prog.wantsStandIn 43 = false := by kernel_rfl
        rcases j with _ | j
        · simp at ht; subst ht; exact h43
        · simp at ht⟩)
    (by kernel_rfl)
#print axioms corsNames_card
end Go.Proofs.YtlpedafppdffoaaGreatDoor
