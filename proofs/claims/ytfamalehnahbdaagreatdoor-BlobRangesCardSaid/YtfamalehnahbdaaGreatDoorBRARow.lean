/- BlobRanges, for any inputs: its call answers true; no condition of our own. -/
import Derived.Test.YtfamalehnahbdaaGreatDoorCards
import Derived.Test.YtfamalehnahbdaaGreatDoorTie
import Derived.ChangeSame
import Derived.ChangeVars
import Derived.JoinedOf
import Derived.RowKit
import Derived.LaidLaws
import Derived.LaidMore
import Derived.LaidHandle
import Derived.Lay
import Derived.ProofKit
import Derived.OpenShut
import Derived.Stop.Joined
import Derived.SevenTiedAt
import Derived.SizedLaws
import Derived.Test.YtfamalehnahbdaaGreatDoorBRAOk
import Derived.Test.YtfamalehnahbdaaGreatDoorBRAL0
import Derived.Test.YtfamalehnahbdaaGreatDoorBRAL3
import Derived.Test.YtfamalehnahbdaaGreatDoorBRAM5
namespace Go.Proofs.YtfamalehnahbdaaGreatDoor
open Go Go.Am Go.Am.X Go.ChangeShapes Go.WideShapes Go.RowKit
set_option maxRecDepth 1000000
theorem bra_own : ownKnob Tryz.prog.godebug = none := by kernel_rfl
theorem bra_laidOut : laidOutB Tryz.prog = true := by kernel_rfl
theorem bra_nglob : Tryz.prog.globals.size = 6 := by kernel_rfl
theorem blobRanges_lifted (os : Os) (started : os.Started) (H : Type) (enc : TypeId × Value → H) :
    ReturnsInHanded {} Tryz.checked os 3 .any (fun w args => (Rows.blobRangesSpec.pre enc Tryz.prog Tryz.f3 [] false w args ∧ laidMetH Tryz.prog Rows.blobRangesRow.laid w) ∧ sizedMet enc Tryz.prog Tryz.f3 (OpenSpec.ofChange Rows.blobRangesSpec) false w args)
      (Rows.blobRangesSpec.post enc Tryz.prog Tryz.f3 false true false false) := by
  refine returnsInHanded_of_change_and (C := Tryz.checked) (X := fun w _ => laidMetH Tryz.prog Rows.blobRangesRow.laid w) (fun _ _ _ hh h => h.of_heap hh) bra_own started (by kernel_rfl) Tryz.func3
    (ChangeSpec.witness_shaped (enc := enc) (C := Tryz.checked) (os := os) (X := fun w _ => laidMetH Tryz.prog Rows.blobRangesRow.laid w) false (World.laidAll Tryz.prog os Rows.blobRangesRow.laid) #[.slice none 0 0, .int .i64 0, .int .i64 0] 8 (World.laidAll_os _ _ _) (World.shaped_of_ZipB (by kernel_rfl) (by kernel_rfl)) (by kernel_rfl) (by kernel_rfl) (by kernel_rfl)
      (by rw [MakeChecks.laidMetH_plain _ _ _ (by kernel_rfl)]; exact laidMet_laidAll _ (by kernel_rfl) (by kernel_rfl))) ?_
  intro W base args ds gs before hval0 hW _ hWt hL _
  have hval : ∀ (j : Nat) t v, Tryz.f3.params[j]? = some t → args[j]? = some v → Value.okWide Tryz.prog W .any base t v := hval0
  have hL' : laidMet Tryz.prog Rows.blobRangesRow.laid W := by rw [MakeChecks.laidMetH_plain _ _ _ (by kernel_rfl)] at hL; exact hL
  have hW' := hW
  obtain ⟨p, q, hA0, hV, rfl, hfz, hnd⟩ := hW
  have hA : DataW.TrodAll enc Tryz.prog W 0 (fun _ => true) true Tryz.f3.params.toList args.toList ds p := hA0
  rw [Tryz.params3] at hA hval hWt
  obtain ⟨v0, vs1, d0, ds1, p0, q0, hargs, rfl, rfl, hd0, hA1⟩ := trodAll_cons hA
  obtain ⟨v1, vs2, d1, ds2, p1, q1, rfl, rfl, rfl, hd1, hA2⟩ := trodAll_cons hA1
  obtain ⟨v2, vs3, d2, ds3, p2, q2, rfl, rfl, rfl, hd2, hA3⟩ := trodAll_cons hA2
  obtain ⟨rfl, rfl, rfl⟩ := trodAll_nil hA3
  obtain ⟨al⟩ := args
  simp only at hargs
  subst hargs
  obtain ⟨rfl, rfl⟩ := trodVars_none hV
  obtain ⟨ss0, u0, ent0, addr0, hs1_0, hs2_0, h2_0, h3_0, h4_0, h6_0, h5_0⟩ := open_bytes (P := Tryz.prog) (W := W) Tryz.underlying22 Tryz.underlying5 (by kernel_rfl) (hval 0 22 v0 rfl rfl) hd0 6
  obtain ⟨x1, rfl, rfl, rfl, w1⟩ := open_int Tryz.underlying3 (hval 1 3 v1 rfl rfl) hd1
  obtain ⟨x2, rfl, rfl, rfl, w2⟩ := open_int Tryz.underlying3 (hval 2 3 v2 rfl rfl) hd2
  have hlen : (startOf Tryz.prog Rows.blobRangesRow.laid).length = 6 := by unfold startOf; rw [List.length_map, List.length_range, bra_nglob]
  have hι : ∀ g, g < 6 → (fun id => if id = 6 then addr0 else (id, 0) : Inj) g = (g, 0) := fun g hg => by simp only; rw [if_neg (by omega)]
  have hlast0 : (startOf Tryz.prog Rows.blobRangesRow.laid ++ [ent0])[6]? = some ent0 := by rw [List.getElem?_append_right (by omega), hlen]; rfl
  have hok : ∀ id cs, (startOf Tryz.prog Rows.blobRangesRow.laid ++ [ent0])[id]? = some (some cs) → VsOk (Am.start (startOf Tryz.prog Rows.blobRangesRow.laid ++ [ent0])) cs ∧ BOk (fun id => if id = 6 then addr0 else (id, 0)) W.heap.size W id cs cs.length false := by
    intro id cs hid
    by_cases hlt : id < 6
    · rw [List.getElem?_append_left (by omega)] at hid
      exact startOf_ok (P := Tryz.prog) hL' (ι := fun id => if id = 6 then addr0 else (id, 0)) (fun g hg => hι g (by rw [bra_nglob] at hg; exact hg)) _ id cs hid
    · have hlt2 : id < 7 := by
        have := (List.getElem?_eq_some_iff.1 hid).1
        rw [List.length_append, hlen] at this
        simp at this
        omega
      obtain rfl : id = 6 := by omega
      rw [hlast0] at hid
      obtain ⟨k1, k2⟩ := h3_0 cs (Option.some.inj hid)
      refine ⟨?_, k2 _ _ (by simp)⟩
      rw [k1, VsOk_iff]
      intro x hx
      obtain ⟨n, _, rfl⟩ := List.mem_map.1 hx
      trivial
  have hsz : (Am.start (startOf Tryz.prog Rows.blobRangesRow.laid ++ [ent0])).size = 7 := by rw [start_size, List.length_append, hlen]; rfl
  have hr0 := h5_0 (Am.start (startOf Tryz.prog Rows.blobRangesRow.laid ++ [ent0])) (fun cs hcs => start_cells (by rw [hlast0, hcs]))
  have hcv : cvl (fun id => if id = 6 then addr0 else (id, 0)) [u0, .int .i64 x1, .int .i64 x2] = [v0, .int .i64 x1, .int .i64 x2] := by
    simp only [cvl, h2_0 (fun id => if id = 6 then addr0 else (id, 0)) (by simp)]
    try rfl
  have hcall := law_true (P := Tryz.prog) (f := 3) (W := W) (blobRanges_ok (baseOf W) W) [u0, .int .i64 x1, .int .i64 x2] (startOf Tryz.prog Rows.blobRangesRow.laid ++ [ent0]) (fun id => if id = 6 then addr0 else (id, 0)) hok (fun g hg => hι g (by rw [bra_nglob] at hg; exact hg)) (by rw [bra_nglob, List.length_append, hlen]; simp) ⟨h4_0 _ (by rw [hsz]; decide), trivial, trivial, trivial⟩ (fun τ => blobRanges_in hr0 h6_0 _ _ (tabs_start (by rw [List.getElem?_append_left (by rw [hlen]; decide)]; kernel_rfl)) (by rw [hsz]; decide) τ)
  rw [hcv] at hcall
  refine hcall.mono fun e W' ⟨he, hb⟩ => ?_
  subst he
  exact ⟨_, rfl, law_post (P := Tryz.prog) bra_laidOut rfl rfl (by kernel_rfl) Tryz.underlying4 (by kernel_rfl) hW' hb⟩

theorem blobRanges_jA : jA Tryz.prog Tryz.f3 Rows.blobRangesSpec Rows.blobRangesRow = true := by kernel_rfl
theorem blobRanges_jB : jB Tryz.prog 3 Rows.blobRangesRow = true := by kernel_rfl
theorem blobRanges_jC : jC Tryz.prog 3 Rows.blobRangesRow = true := by kernel_rfl
theorem blobRanges_jD : jD Tryz.prog 3 Rows.blobRangesRow = true := by kernel_rfl
theorem blobRanges_jE : jE Tryz.prog 3 Rows.blobRangesRow = true := by kernel_rfl
theorem blobRanges_jF : jF Tryz.prog Tryz.f3 Rows.blobRangesSpec Rows.blobRangesRow = true := by kernel_rfl
theorem blobRanges_jG : jG Tryz.prog = true := by kernel_rfl
theorem blobRanges_jH : jH Tryz.prog = true := by kernel_rfl
theorem blobRanges_jI : jI Tryz.prog Tryz.f3 Rows.blobRangesSpec Rows.blobRangesRow = true := by kernel_rfl
theorem blobRanges_holds : Rows.BlobRangesSaid :=
  OpenClaim.holds_of_wide 3 Tryz.f3 rfl rfl rfl rfl rfl rfl rfl ⟨rfl, rfl, rfl, rfl, rfl⟩ rfl rfl rfl rfl rfl (by kernel_rfl) Tryz.func3 (joined_of (P := Tryz.prog) (f := 3) (fn := Tryz.f3) (s := Rows.blobRangesSpec) (c := Rows.blobRangesRow) blobRanges_jA blobRanges_jB blobRanges_jC blobRanges_jD blobRanges_jE blobRanges_jF blobRanges_jG blobRanges_jH blobRanges_jI)
    (of_decide_eq_true (by kernel_rfl)) (by unfold Func.isWrapper; first | (rw [if_pos (by decide +kernel)]; kernel_rfl) | (rw [if_neg (by decide +kernel)]; exact ⟨rfl, rfl⟩))
    (fun os started H enc _ => blobRanges_lifted os started H enc)

theorem blobRanges_card : Rows.BlobRangesCardSaid :=
  Claim7.holds_tied_plain_at .later [] _ true _ _
    blobRanges_holds (fun _ h => by cases h) (by kernel_rfl) (fun _ h => by cases h) blobRanges_row_tie rfl ⟨rfl, rfl⟩ (by kernel_rfl) rfl
    (fun f fn hf hfn => by
      obtain rfl : f = 3 := Option.some.inj ((show Tryz.prog.funcNamed "ostiary/ostiarylaw21.BlobRanges" = some 3 by kernel_rfl).symm.trans hf) |>.symm
      obtain rfl : fn = Tryz.f3 := (Option.some.inj (Tryz.func3.symm.trans hfn)).symm
      exact ⟨by kernel_rfl, fun j t ht => by
        rw [Tryz.params3] at ht
        have h3 : Tryz.prog.wantsStandIn 3 = false := by kernel_rfl
        have h22 : Tryz.prog.wantsStandIn 22 = false := by kernel_rfl
        rcases j with _ | _ | _ | j
        · simp at ht; subst ht; exact h22
        · simp at ht; subst ht; exact h3
        · simp at ht; subst ht; exact h3
        · simp at ht⟩)
    (by kernel_rfl)
#print axioms blobRanges_card
end Go.Proofs.YtfamalehnahbdaaGreatDoor
