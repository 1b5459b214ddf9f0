/- AgeReckons, for any inputs: its call answers true; no condition of our own. -/
import Derived.Test.YtbkhmjpamfepbaaDoorCards
import Derived.Test.YtbkhmjpamfepbaaDoorTie
import Derived.ChangeSame
import Derived.ChangeVars
import Derived.JoinedOf
import Derived.RowKit
import Derived.LaidLaws
import Derived.LaidMore
import Derived.LaidHandle
import Derived.Lay
import Derived.ProofKit
import Derived.OpenShut
import Derived.Stop.Joined
import Derived.SevenTiedAt
import Derived.SizedLaws
import Derived.Test.YtbkhmjpamfepbaaDoorAROk
import Derived.Test.YtbkhmjpamfepbaaDoorARL1
import Derived.Test.YtbkhmjpamfepbaaDoorARL7
namespace Go.Proofs.YtbkhmjpamfepbaaDoor
open Go Go.Am Go.Am.X Go.ChangeShapes Go.WideShapes Go.RowKit
set_option maxRecDepth 1000000
theorem ar_own : ownKnob Tryd.prog.godebug = none := by kernel_rfl
theorem ar_laidOut : laidOutB Tryd.prog = true := by kernel_rfl
theorem ar_nglob : Tryd.prog.globals.size = 12 := by kernel_rfl
theorem ageReckons_lifted (os : Os) (started : os.Started) (H : Type) (enc : TypeId × Value → H) :
    ReturnsInHanded {} Tryd.checked os 10 .any (fun w args => (Rows.ageReckonsSpec.pre enc Tryd.prog Tryd.f10 [] false w args ∧ laidMetH Tryd.prog Rows.ageReckonsRow.laid w) ∧ sizedMet enc Tryd.prog Tryd.f10 (OpenSpec.ofChange Rows.ageReckonsSpec) false w args)
      (Rows.ageReckonsSpec.post enc Tryd.prog Tryd.f10 false true false false) := by
  refine returnsInHanded_of_change_and (C := Tryd.checked) (X := fun w _ => laidMetH Tryd.prog Rows.ageReckonsRow.laid w) (fun _ _ _ hh h => h.of_heap hh) ar_own started (by kernel_rfl) Tryd.func10
    (ChangeSpec.witness_shaped (enc := enc) (C := Tryd.checked) (os := os) (X := fun w _ => laidMetH Tryd.prog Rows.ageReckonsRow.laid w) false (World.laidAll Tryd.prog os Rows.ageReckonsRow.laid) #[.slice none 0 0, .int .i64 0, .int .i64 0, .int .i64 0, .int .i64 0] 8 (World.laidAll_os _ _ _) (World.shaped_of_ZipB (by kernel_rfl) (by kernel_rfl)) (by kernel_rfl) (by kernel_rfl) (by kernel_rfl)
      (by rw [MakeChecks.laidMetH_plain _ _ _ (by kernel_rfl)]; exact laidMet_laidAll _ (by kernel_rfl) (by kernel_rfl))) ?_
  intro W base args ds gs before hval0 hW _ hWt hL _
  have hval : ∀ (j : Nat) t v, Tryd.f10.params[j]? = some t → args[j]? = some v → Value.okWide Tryd.prog W .any base t v := hval0
  have hL' : laidMet Tryd.prog Rows.ageReckonsRow.laid W := by rw [MakeChecks.laidMetH_plain _ _ _ (by kernel_rfl)] at hL; exact hL
  have hW' := hW
  obtain ⟨p, q, hA0, hV, rfl, hfz, hnd⟩ := hW
  have hA : DataW.TrodAll enc Tryd.prog W 0 (fun _ => true) true Tryd.f10.params.toList args.toList ds p := hA0
  rw [Tryd.params10] at hA hval hWt
  obtain ⟨v0, vs1, d0, ds1, p0, q0, hargs, rfl, rfl, hd0, hA1⟩ := trodAll_cons hA
  obtain ⟨v1, vs2, d1, ds2, p1, q1, rfl, rfl, rfl, hd1, hA2⟩ := trodAll_cons hA1
  obtain ⟨v2, vs3, d2, ds3, p2, q2, rfl, rfl, rfl, hd2, hA3⟩ := trodAll_cons hA2
  obtain ⟨v3, vs4, d3, ds4, p3, q3, rfl, rfl, rfl, hd3, hA4⟩ := trodAll_cons hA3
  obtain ⟨v4, vs5, d4, ds5, p4, q4, rfl, rfl, rfl, hd4, hA5⟩ := trodAll_cons hA4
  obtain ⟨rfl, rfl, rfl⟩ := trodAll_nil hA5
  obtain ⟨al⟩ := args
  simp only at hargs
  subst hargs
  obtain ⟨rfl, rfl⟩ := trodVars_none hV
  obtain ⟨ss0, u0, ent0, addr0, hs1_0, hs2_0, h2_0, h3_0, h4_0, h5_0⟩ := open_headersZ (P := Tryd.prog) (W := W) Tryd.underlying52 Tryd.underlying61 (by kernel_rfl) (by kernel_rfl) (by kernel_rfl) (by kernel_rfl) (by kernel_rfl) (by kernel_rfl) (by kernel_rfl) (hval 0 52 v0 rfl rfl) hd0 (weightsEach_le hWt (j := 0) (t := 52) rfl rfl) 12
  obtain ⟨x1, rfl, rfl, rfl, w1⟩ := open_int Tryd.underlying2 (hval 1 2 v1 rfl rfl) hd1
  obtain ⟨x2, rfl, rfl, rfl, w2⟩ := open_int Tryd.underlying2 (hval 2 2 v2 rfl rfl) hd2
  obtain ⟨x3, rfl, rfl, rfl, w3⟩ := open_int Tryd.underlying2 (hval 3 2 v3 rfl rfl) hd3
  obtain ⟨x4, rfl, rfl, rfl, w4⟩ := open_int Tryd.underlying2 (hval 4 2 v4 rfl rfl) hd4
  have hlen : (startOf Tryd.prog Rows.ageReckonsRow.laid).length = 12 := by unfold startOf; rw [List.length_map, List.length_range, ar_nglob]
  have hι : ∀ g, g < 12 → (fun id => if id = 12 then addr0 else (id, 0) : Inj) g = (g, 0) := fun g hg => by simp only; rw [if_neg (by omega)]
  have hlast0 : (startOf Tryd.prog Rows.ageReckonsRow.laid ++ [ent0])[12]? = some ent0 := by rw [List.getElem?_append_right (by omega), hlen]; rfl
  have hok : ∀ id cs, (startOf Tryd.prog Rows.ageReckonsRow.laid ++ [ent0])[id]? = some (some cs) → VsOk (Am.start (startOf Tryd.prog Rows.ageReckonsRow.laid ++ [ent0])) cs ∧ BOk (fun id => if id = 12 then addr0 else (id, 0)) W.heap.size W id cs cs.length false := by
    intro id cs hid
    by_cases hlt : id < 12
    · rw [List.getElem?_append_left (by omega)] at hid
      exact startOf_ok (P := Tryd.prog) hL' (ι := fun id => if id = 12 then addr0 else (id, 0)) (fun g hg => hι g (by rw [ar_nglob] at hg; exact hg)) _ id cs hid
    · have hlt2 : id < 13 := by
        have := (List.getElem?_eq_some_iff.1 hid).1
        rw [List.length_append, hlen] at this
        simp at this
        omega
      obtain rfl : id = 12 := by omega
      rw [hlast0] at hid
      obtain ⟨k1, k2⟩ := h3_0 cs (Option.some.inj hid)
      refine ⟨?_, k2 _ _ (by simp)⟩
      rw [k1, VsOk_iff]
      intro x hx
      simp only [hcells, List.mem_flatMap, List.mem_cons, List.not_mem_nil, or_false] at hx
      obtain ⟨h, _, rfl | rfl⟩ := hx <;> trivial
  have hsz : (Am.start (startOf Tryd.prog Rows.ageReckonsRow.laid ++ [ent0])).size = 13 := by rw [start_size, List.length_append, hlen]; rfl
  have hr0 := h5_0 (Am.start (startOf Tryd.prog Rows.ageReckonsRow.laid ++ [ent0])) (fun cs hcs => start_cells (by rw [hlast0, hcs]))
  have hcv : cvl (fun id => if id = 12 then addr0 else (id, 0)) [u0, .int .i64 x1, .int .i64 x2, .int .i64 x3, .int .i64 x4] = [v0, .int .i64 x1, .int .i64 x2, .int .i64 x3, .int .i64 x4] := by
    simp only [cvl, h2_0 (fun id => if id = 12 then addr0 else (id, 0)) (by simp)]
    try rfl
  have hcall := law_true (P := Tryd.prog) (f := 10) (W := W) (ageReckons_ok W.heap.size W) [u0, .int .i64 x1, .int .i64 x2, .int .i64 x3, .int .i64 x4] (startOf Tryd.prog Rows.ageReckonsRow.laid ++ [ent0]) (fun id => if id = 12 then addr0 else (id, 0)) hok (fun g hg => hι g (by rw [ar_nglob] at hg; exact hg)) (by rw [ar_nglob, List.length_append, hlen]; simp) ⟨h4_0 _ (by rw [hsz]; decide), trivial, trivial, trivial, trivial, trivial⟩ (fun τ => ageReckons_in hr0 (by omega) (rg_lit w1) (rg_lit w2) (rg_lit w3) (rg_lit w4) τ)
  rw [hcv] at hcall
  refine hcall.mono fun e W' ⟨he, hb⟩ => ?_
  subst he
  exact ⟨_, rfl, law_post (P := Tryd.prog) ar_laidOut rfl rfl (by kernel_rfl) Tryd.underlying4 (by kernel_rfl) hW' hb⟩

theorem ageReckons_holds : Rows.AgeReckonsSaid :=
  OpenClaim.holds_of_wide 10 Tryd.f10 rfl rfl rfl rfl rfl rfl rfl ⟨rfl, rfl, rfl, rfl, rfl⟩ rfl rfl rfl rfl rfl (by kernel_rfl) Tryd.func10 (by kernel_rfl)
    (of_decide_eq_true (by kernel_rfl)) (by unfold Func.isWrapper; first | (rw [if_pos (by decide +kernel)]; kernel_rfl) | (rw [if_neg (by decide +kernel)]; exact ⟨rfl, rfl⟩))
    (fun os started H enc _ => ageReckons_lifted os started H enc)

theorem ageReckons_card : Rows.AgeReckonsCardSaid :=
  Claim7.holds_tied_plain_at .later [] _ true _ _
    ageReckons_holds (fun _ h => by cases h) (by kernel_rfl) (fun _ h => by cases h) ageReckons_row_tie rfl ⟨rfl, rfl⟩ (by kernel_rfl) rfl
    (fun f fn hf hfn => by
      obtain rfl : f = 10 := Option.some.inj ((show Tryd.prog.funcNamed "ostiary/ostiarylaw16.AgeReckons" = some 10 by kernel_rfl).symm.trans hf) |>.symm
      obtain rfl : fn = Tryd.f10 := (Option.some.inj (Tryd.func10.symm.trans hfn)).symm
      exact ⟨by kernel_rfl, fun j t ht => by
        rw [Tryd.params10] at ht
        have h2 : Tryd.prog.wantsStandIn 2 = false := by kernel_rfl
        have h52 : Tryd.prog.wantsStandIn 52 = false := by kernel_rfl
        rcases j with _ | _ | _ | _ | _ | j
        · simp at ht; subst ht; exact h52
        · simp at ht; subst ht; exact h2
        · simp at ht; subst ht; exact h2
        · simp at ht; subst ht; exact h2
        · simp at ht; subst ht; exact h2
        · simp at ht⟩)
    (by kernel_rfl)
#print axioms ageReckons_card
end Go.Proofs.YtbkhmjpamfepbaaDoor
