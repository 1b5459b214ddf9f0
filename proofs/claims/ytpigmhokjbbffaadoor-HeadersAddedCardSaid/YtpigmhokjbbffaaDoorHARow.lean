/- HeadersAdded, for any inputs: its call answers true; no condition of our own. -/
import Derived.Test.YtpigmhokjbbffaaDoorCards
import Derived.Test.YtpigmhokjbbffaaDoorTie
import Derived.ChangeSame
import Derived.ChangeVars
import Derived.JoinedOf
import Derived.RowKit
import Derived.LaidLaws
import Derived.LaidMore
import Derived.LaidHandle
import Derived.Lay
import Derived.ProofKit
import Derived.OpenShut
import Derived.Stop.Joined
import Derived.SevenTiedAt
import Derived.Test.YtpigmhokjbbffaaDoorHAOk
import Derived.Test.YtpigmhokjbbffaaDoorHAL0
import Derived.Test.YtpigmhokjbbffaaDoorHAL2
namespace Go.Proofs.YtpigmhokjbbffaaDoor
open Go Go.Am Go.Am.X Go.ChangeShapes Go.WideShapes Go.RowKit
set_option maxRecDepth 1000000
theorem ha_own : ownKnob Tryd.prog.godebug = none := by kernel_rfl
theorem ha_laidOut : laidOutB Tryd.prog = true := by kernel_rfl
theorem ha_nglob : Tryd.prog.globals.size = 3 := by kernel_rfl
theorem headersAdded_lifted (os : Os) (started : os.Started) (H : Type) (enc : TypeId × Value → H) :
    ReturnsInHanded {} Tryd.checked os 5 .any (fun w args => (Rows.headersAddedSpec.pre enc Tryd.prog Tryd.f5 [] false w args ∧ laidMetH Tryd.prog Rows.headersAddedRow.laid w) ∧ sizedMet enc Tryd.prog Tryd.f5 (OpenSpec.ofChange Rows.headersAddedSpec) false w args)
      (Rows.headersAddedSpec.post enc Tryd.prog Tryd.f5 false true false false) := by
  refine returnsInHanded_of_change_and (C := Tryd.checked) (X := fun w _ => laidMetH Tryd.prog Rows.headersAddedRow.laid w) (fun _ _ _ hh h => h.of_heap hh) ha_own started (by kernel_rfl) Tryd.func5
    (ChangeSpec.witness_shaped (enc := enc) (C := Tryd.checked) (os := os) (X := fun w _ => laidMetH Tryd.prog Rows.headersAddedRow.laid w) false (World.laidAll Tryd.prog os Rows.headersAddedRow.laid) #[.slice none 0 0] 8 (World.laidAll_os _ _ _) (World.shaped_of_ZipB (by kernel_rfl) (by kernel_rfl)) (by kernel_rfl) (by kernel_rfl) (by kernel_rfl)
      (by rw [MakeChecks.laidMetH_plain _ _ _ (by kernel_rfl)]; exact laidMet_laidAll _ (by kernel_rfl) (by kernel_rfl))) ?_
  intro W base args ds gs before hval0 hW _ hWt hL _
  have hval : ∀ (j : Nat) t v, Tryd.f5.params[j]? = some t → args[j]? = some v → Value.okWide Tryd.prog W .any base t v := hval0
  have hL' : laidMet Tryd.prog Rows.headersAddedRow.laid W := by rw [MakeChecks.laidMetH_plain _ _ _ (by kernel_rfl)] at hL; exact hL
  have hW' := hW
  obtain ⟨p, q, hA0, hV, rfl, hfz, hnd⟩ := hW
  have hA : DataW.TrodAll enc Tryd.prog W 0 (fun _ => true) true Tryd.f5.params.toList args.toList ds p := hA0
  rw [Tryd.params5] at hA hval
  obtain ⟨v0, vs1, d0, ds1, p0, q0, hargs, rfl, rfl, hd0, hA1⟩ := trodAll_cons hA
  obtain ⟨rfl, rfl, rfl⟩ := trodAll_nil hA1
  obtain ⟨al⟩ := args
  simp only at hargs
  subst hargs
  obtain ⟨ss0, u0, ent0, addr0, hs1_0, hs2_0, h2_0, h3_0, h4_0, h5_0⟩ := open_strings (P := Tryd.prog) (W := W) Tryd.underlying22 Tryd.underlying9 (by kernel_rfl) (hval 0 22 v0 rfl rfl) hd0 3
  obtain ⟨rfl, rfl⟩ := trodVars_none hV
  have hlen : (startOf Tryd.prog Rows.headersAddedRow.laid).length = 3 := by unfold startOf; rw [List.length_map, List.length_range, ha_nglob]
  have hι : ∀ g, g < 3 → (fun id => if id = 3 then addr0 else (id, 0) : Inj) g = (g, 0) := fun g hg => by simp only; rw [if_neg (by omega)]
  have hlast0 : (startOf Tryd.prog Rows.headersAddedRow.laid ++ [ent0])[3]? = some ent0 := by rw [List.getElem?_append_right (by omega), hlen]; rfl
  have hok : ∀ id cs, (startOf Tryd.prog Rows.headersAddedRow.laid ++ [ent0])[id]? = some (some cs) → VsOk (Am.start (startOf Tryd.prog Rows.headersAddedRow.laid ++ [ent0])) cs ∧ BOk (fun id => if id = 3 then addr0 else (id, 0)) W.heap.size W id cs cs.length false := by
    intro id cs hid
    by_cases hlt : id < 3
    · rw [List.getElem?_append_left (by omega)] at hid
      exact startOf_ok (P := Tryd.prog) hL' (ι := fun id => if id = 3 then addr0 else (id, 0)) (fun g hg => hι g (by rw [ha_nglob] at hg; exact hg)) _ id cs hid
    · have hlt2 : id < 4 := by
        have := (List.getElem?_eq_some_iff.1 hid).1
        rw [List.length_append, hlen] at this
        simp at this
        omega
      obtain rfl : id = 3 := by omega
      rw [hlast0] at hid
      obtain ⟨k1, k2⟩ := h3_0 cs (Option.some.inj hid)
      refine ⟨?_, k2 _ _ (by simp)⟩
      rw [k1, VsOk_iff]
      intro x hx
      obtain ⟨n, _, rfl⟩ := List.mem_map.1 hx
      trivial
  have hsz : (Am.start (startOf Tryd.prog Rows.headersAddedRow.laid ++ [ent0])).size = 4 := by rw [start_size, List.length_append, hlen]; rfl
  have hr0 := h5_0 (Am.start (startOf Tryd.prog Rows.headersAddedRow.laid ++ [ent0])) (fun cs hcs => start_cells (by rw [hlast0, hcs]))
  have hcv : cvl (fun id => if id = 3 then addr0 else (id, 0)) [u0] = [v0] := by
    simp only [cvl, h2_0 (fun id => if id = 3 then addr0 else (id, 0)) (by simp)]
    try rfl
  have hrun := run_all (F := tabF) (E := tabE) (N := 9223372036854775808) (d := 40) (f := 5) (tab_ok _) (fun τ => headersAdded_run (by decide) u0 ss0 hs2_0 hs1_0 _ (start_wf (startOf Tryd.prog Rows.headersAddedRow.laid ++ [ent0])) hr0 τ)
  have hcall := call_true (P := Tryd.prog) mixed_ok (W := W) (defs_ok (all_ok W.heap.size W)) 9223372036854775808 40 5 [u0] (startOf Tryd.prog Rows.headersAddedRow.laid ++ [ent0]) (fun id => if id = 3 then addr0 else (id, 0)) hok (fun g hg => hι g (by rw [ha_nglob] at hg; exact hg)) (by rw [ha_nglob, List.length_append, hlen]; simp) ⟨h4_0 _ (by rw [hsz]; decide), trivial⟩ hrun
  rw [hcv] at hcall
  refine hcall.mono fun e W' ⟨he, hb⟩ => ?_
  subst he
  exact ⟨_, rfl, law_post (P := Tryd.prog) ha_laidOut rfl rfl (by kernel_rfl) Tryd.underlying4 (by kernel_rfl) hW' hb⟩

theorem headersAdded_holds : Rows.HeadersAddedSaid :=
  OpenClaim.holds_of_wide 5 Tryd.f5 rfl rfl rfl rfl rfl rfl rfl ⟨rfl, rfl, rfl, rfl, rfl⟩ rfl rfl rfl rfl rfl (by kernel_rfl) Tryd.func5 (by kernel_rfl)
    (of_decide_eq_true (by kernel_rfl)) (by unfold Func.isWrapper; first | (rw [if_pos (by decide +kernel)]; kernel_rfl) | (rw [if_neg (by decide +kernel)]; exact ⟨rfl, rfl⟩))
    (fun os started H enc _ => headersAdded_lifted os started H enc)

theorem headersAdded_card : Rows.HeadersAddedCardSaid :=
  Claim7.holds_tied_plain_at .later [] _ true _ _
    headersAdded_holds (fun _ h => by cases h) (by kernel_rfl) (fun _ h => by cases h) headersAdded_row_tie rfl ⟨rfl, rfl⟩ (by kernel_rfl) rfl
    (fun f fn hf hfn => by
      obtain rfl : f = 5 := Option.some.inj ((show Tryd.prog.funcNamed "ostiary/ostiarylaw5.HeadersAdded" = some 5 by kernel_rfl).symm.trans hf) |>.symm
      obtain rfl : fn = Tryd.f5 := (Option.some.inj (Tryd.func5.symm.trans hfn)).symm
      exact ⟨by kernel_rfl, fun j t ht => by
        rw [Tryd.params5] at ht
        have h22 : Tryd.prog.wantsStandIn 22 = false := by kernel_rfl
        rcases j with _ | j
        · simp at ht; subst ht; exact h22
        · simp at ht⟩)
    (by kernel_rfl)
#print axioms headersAdded_card
end Go.Proofs.YtpigmhokjbbffaaDoor
