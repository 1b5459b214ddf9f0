/- HeadersSorted, for any inputs: its call answers true; no condition of our own. -/
import Derived.Test.YtpigmhokjbbffaaDoorCards
import Derived.Test.YtpigmhokjbbffaaDoorTie
import Derived.ChangeSame
import Derived.ChangeVars
import Derived.JoinedOf
import Derived.RowKit
import Derived.LaidLaws
import Derived.LaidMore
import Derived.LaidHandle
import Derived.Lay
import Derived.ProofKit
import Derived.OpenShut
import Derived.Stop.Joined
import Derived.SevenTiedAt
import Derived.SizedLaws
import Derived.Test.YtpigmhokjbbffaaDoorHSOOk
import Derived.Test.YtpigmhokjbbffaaDoorHSOL1
import Derived.Test.YtpigmhokjbbffaaDoorHSOL4
namespace Go.Proofs.YtpigmhokjbbffaaDoor
open Go Go.Am Go.Am.X Go.ChangeShapes Go.WideShapes Go.RowKit
set_option maxRecDepth 1000000
theorem hso_own : ownKnob Tryd.prog.godebug = none := by kernel_rfl
theorem hso_laidOut : laidOutB Tryd.prog = true := by kernel_rfl
theorem hso_nglob : Tryd.prog.globals.size = 3 := by kernel_rfl
theorem headersSorted_lifted (os : Os) (started : os.Started) (H : Type) (enc : TypeId × Value → H) :
    ReturnsInHanded {} Tryd.checked os 9 .any (fun w args => (Rows.headersSortedSpec.pre enc Tryd.prog Tryd.f9 [] false w args ∧ laidMetH Tryd.prog Rows.headersSortedRow.laid w) ∧ sizedMet enc Tryd.prog Tryd.f9 (OpenSpec.ofChange Rows.headersSortedSpec) false w args)
      (Rows.headersSortedSpec.post enc Tryd.prog Tryd.f9 false true false false) := by
  refine returnsInHanded_of_change_and (C := Tryd.checked) (X := fun w _ => laidMetH Tryd.prog Rows.headersSortedRow.laid w) (fun _ _ _ hh h => h.of_heap hh) hso_own started (by kernel_rfl) Tryd.func9
    (ChangeSpec.witness_shaped (enc := enc) (C := Tryd.checked) (os := os) (X := fun w _ => laidMetH Tryd.prog Rows.headersSortedRow.laid w) false (World.laidAll Tryd.prog os Rows.headersSortedRow.laid) #[.slice none 0 0] 8 (World.laidAll_os _ _ _) (World.shaped_of_ZipB (by kernel_rfl) (by kernel_rfl)) (by kernel_rfl) (by kernel_rfl) (by kernel_rfl)
      (by rw [MakeChecks.laidMetH_plain _ _ _ (by kernel_rfl)]; exact laidMet_laidAll _ (by kernel_rfl) (by kernel_rfl))) ?_
  intro W base args ds gs before hval0 hW _ hWt hL _
  have hval : ∀ (j : Nat) t v, Tryd.f9.params[j]? = some t → args[j]? = some v → Value.okWide Tryd.prog W .any base t v := hval0
  have hL' : laidMet Tryd.prog Rows.headersSortedRow.laid W := by rw [MakeChecks.laidMetH_plain _ _ _ (by kernel_rfl)] at hL; exact hL
  have hW' := hW
  obtain ⟨p, q, hA0, hV, rfl, hfz, hnd⟩ := hW
  have hA : DataW.TrodAll enc Tryd.prog W 0 (fun _ => true) true Tryd.f9.params.toList args.toList ds p := hA0
  rw [Tryd.params9] at hA hval hWt
  obtain ⟨v0, vs1, d0, ds1, p0, q0, hargs, rfl, rfl, hd0, hA1⟩ := trodAll_cons hA
  obtain ⟨rfl, rfl, rfl⟩ := trodAll_nil hA1
  obtain ⟨al⟩ := args
  simp only at hargs
  subst hargs
  obtain ⟨rfl, rfl⟩ := trodVars_none hV
  obtain ⟨ss0, u0, ent0, addr0, hs1_0, hs2_0, h2_0, h3_0, h4_0, h5_0⟩ := open_headersZ (P := Tryd.prog) (W := W) Tryd.underlying30 Tryd.underlying28 (by kernel_rfl) (by kernel_rfl) (by kernel_rfl) (by kernel_rfl) (by kernel_rfl) (by kernel_rfl) (by kernel_rfl) (hval 0 30 v0 rfl rfl) hd0 (weightsEach_le hWt (j := 0) (t := 30) rfl rfl) 3
  have hlen : (startOf Tryd.prog Rows.headersSortedRow.laid).length = 3 := by unfold startOf; rw [List.length_map, List.length_range, hso_nglob]
  have hι : ∀ g, g < 3 → (fun id => if id = 3 then addr0 else (id, 0) : Inj) g = (g, 0) := fun g hg => by simp only; rw [if_neg (by omega)]
  have hlast0 : (startOf Tryd.prog Rows.headersSortedRow.laid ++ [ent0])[3]? = some ent0 := by rw [List.getElem?_append_right (by omega), hlen]; rfl
  have hok : ∀ id cs, (startOf Tryd.prog Rows.headersSortedRow.laid ++ [ent0])[id]? = some (some cs) → VsOk (Am.start (startOf Tryd.prog Rows.headersSortedRow.laid ++ [ent0])) cs ∧ BOk (fun id => if id = 3 then addr0 else (id, 0)) W.heap.size W id cs cs.length false := by
    intro id cs hid
    by_cases hlt : id < 3
    · rw [List.getElem?_append_left (by omega)] at hid
      exact startOf_ok (P := Tryd.prog) hL' (ι := fun id => if id = 3 then addr0 else (id, 0)) (fun g hg => hι g (by rw [hso_nglob] at hg; exact hg)) _ id cs hid
    · have hlt2 : id < 4 := by
        have := (List.getElem?_eq_some_iff.1 hid).1
        rw [List.length_append, hlen] at this
        simp at this
        omega
      obtain rfl : id = 3 := by omega
      rw [hlast0] at hid
      obtain ⟨k1, k2⟩ := h3_0 cs (Option.some.inj hid)
      refine ⟨?_, k2 _ _ (by simp)⟩
      rw [k1, VsOk_iff]
      intro x hx
      simp only [hcells, List.mem_flatMap, List.mem_cons, List.not_mem_nil, or_false] at hx
      obtain ⟨h, _, rfl | rfl⟩ := hx <;> trivial
  have hsz : (Am.start (startOf Tryd.prog Rows.headersSortedRow.laid ++ [ent0])).size = 4 := by rw [start_size, List.length_append, hlen]; rfl
  have hr0 := h5_0 (Am.start (startOf Tryd.prog Rows.headersSortedRow.laid ++ [ent0])) (fun cs hcs => start_cells (by rw [hlast0, hcs]))
  have hcv : cvl (fun id => if id = 3 then addr0 else (id, 0)) [u0] = [v0] := by
    simp only [cvl, h2_0 (fun id => if id = 3 then addr0 else (id, 0)) (by simp)]
    try rfl
  have hcall := law_true (P := Tryd.prog) (f := 9) (W := W) (headersSorted_ok W.heap.size W) [u0] (startOf Tryd.prog Rows.headersSortedRow.laid ++ [ent0]) (fun id => if id = 3 then addr0 else (id, 0)) hok (fun g hg => hι g (by rw [hso_nglob] at hg; exact hg)) (by rw [hso_nglob, List.length_append, hlen]; simp) ⟨h4_0 _ (by rw [hsz]; decide), trivial⟩ (fun τ => headersSorted_in hr0 (by omega) τ)
  rw [hcv] at hcall
  refine hcall.mono fun e W' ⟨he, hb⟩ => ?_
  subst he
  exact ⟨_, rfl, law_post (P := Tryd.prog) hso_laidOut rfl rfl (by kernel_rfl) Tryd.underlying4 (by kernel_rfl) hW' hb⟩

theorem headersSorted_holds : Rows.HeadersSortedSaid :=
  OpenClaim.holds_of_wide 9 Tryd.f9 rfl rfl rfl rfl rfl rfl rfl ⟨rfl, rfl, rfl, rfl, rfl⟩ rfl rfl rfl rfl rfl (by kernel_rfl) Tryd.func9 (by kernel_rfl)
    (of_decide_eq_true (by kernel_rfl)) (by unfold Func.isWrapper; first | (rw [if_pos (by decide +kernel)]; kernel_rfl) | (rw [if_neg (by decide +kernel)]; exact ⟨rfl, rfl⟩))
    (fun os started H enc _ => headersSorted_lifted os started H enc)

theorem headersSorted_card : Rows.HeadersSortedCardSaid :=
  Claim7.holds_tied_plain_at .later [] _ true _ _
    headersSorted_holds (fun _ h => by cases h) (by kernel_rfl) (fun _ h => by cases h) headersSorted_row_tie rfl ⟨rfl, rfl⟩ (by kernel_rfl) rfl
    (fun f fn hf hfn => by
      obtain rfl : f = 9 := Option.some.inj ((show Tryd.prog.funcNamed "ostiary/ostiarylaw5.HeadersSorted" = some 9 by kernel_rfl).symm.trans hf) |>.symm
      obtain rfl : fn = Tryd.f9 := (Option.some.inj (Tryd.func9.symm.trans hfn)).symm
      exact ⟨by kernel_rfl, fun j t ht => by
        rw [Tryd.params9] at ht
        have h30 : Tryd.prog.wantsStandIn 30 = false := by kernel_rfl
        rcases j with _ | j
        · simp at ht; subst ht; exact h30
        · simp at ht⟩)
    (by kernel_rfl)
#print axioms headersSorted_card
end Go.Proofs.YtpigmhokjbbffaaDoor
