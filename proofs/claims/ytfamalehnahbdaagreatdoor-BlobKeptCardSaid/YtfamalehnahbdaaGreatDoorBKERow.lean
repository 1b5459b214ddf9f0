/- BlobKept, for any inputs: its call answers true; no condition of our own. -/
import Derived.Test.YtfamalehnahbdaaGreatDoorCards
import Derived.Test.YtfamalehnahbdaaGreatDoorTie
import Derived.ChangeSame
import Derived.ChangeVars
import Derived.JoinedOf
import Derived.RowKit
import Derived.LaidLaws
import Derived.LaidMore
import Derived.LaidHandle
import Derived.Lay
import Derived.ProofKit
import Derived.OpenShut
import Derived.Stop.Joined
import Derived.SevenTiedAt
import Derived.SizedLaws
import Derived.Test.YtfamalehnahbdaaGreatDoorBKEOk
import Derived.Test.YtfamalehnahbdaaGreatDoorBKEL0
import Derived.Test.YtfamalehnahbdaaGreatDoorBKEL4
import Derived.Test.YtfamalehnahbdaaGreatDoorBKEM5
namespace Go.Proofs.YtfamalehnahbdaaGreatDoor
open Go Go.Am Go.Am.X Go.ChangeShapes Go.WideShapes Go.RowKit
set_option maxRecDepth 1000000
theorem bke_own : ownKnob Tryz.prog.godebug = none := by kernel_rfl
theorem bke_laidOut : laidOutB Tryz.prog = true := by kernel_rfl
theorem bke_nglob : Tryz.prog.globals.size = 6 := by kernel_rfl
theorem blobKept_lifted (os : Os) (started : os.Started) (H : Type) (enc : TypeId × Value → H) :
    ReturnsInHanded {} Tryz.checked os 4 .any (fun w args => (Rows.blobKeptSpec.pre enc Tryz.prog Tryz.f4 [] false w args ∧ laidMetH Tryz.prog Rows.blobKeptRow.laid w) ∧ sizedMet enc Tryz.prog Tryz.f4 (OpenSpec.ofChange Rows.blobKeptSpec) false w args)
      (Rows.blobKeptSpec.post enc Tryz.prog Tryz.f4 false true false false) := by
  refine returnsInHanded_of_change_and (C := Tryz.checked) (X := fun w _ => laidMetH Tryz.prog Rows.blobKeptRow.laid w) (fun _ _ _ hh h => h.of_heap hh) bke_own started (by kernel_rfl) Tryz.func4
    (ChangeSpec.witness_shaped (enc := enc) (C := Tryz.checked) (os := os) (X := fun w _ => laidMetH Tryz.prog Rows.blobKeptRow.laid w) false (World.laidAll Tryz.prog os Rows.blobKeptRow.laid) #[.slice none 0 0] 8 (World.laidAll_os _ _ _) (World.shaped_of_ZipB (by kernel_rfl) (by kernel_rfl)) (by kernel_rfl) (by kernel_rfl) (by kernel_rfl)
      (by rw [MakeChecks.laidMetH_plain _ _ _ (by kernel_rfl)]; exact laidMet_laidAll _ (by kernel_rfl) (by kernel_rfl))) ?_
  intro W base args ds gs before hval0 hW _ hWt hL _
  have hval : ∀ (j : Nat) t v, Tryz.f4.params[j]? = some t → args[j]? = some v → Value.okWide Tryz.prog W .any base t v := hval0
  have hL' : laidMet Tryz.prog Rows.blobKeptRow.laid W := by rw [MakeChecks.laidMetH_plain _ _ _ (by kernel_rfl)] at hL; exact hL
  have hW' := hW
  obtain ⟨p, q, hA0, hV, rfl, hfz, hnd⟩ := hW
  have hA : DataW.TrodAll enc Tryz.prog W 0 (fun _ => true) true Tryz.f4.params.toList args.toList ds p := hA0
  rw [Tryz.params4] at hA hval hWt
  obtain ⟨v0, vs1, d0, ds1, p0, q0, hargs, rfl, rfl, hd0, hA1⟩ := trodAll_cons hA
  obtain ⟨rfl, rfl, rfl⟩ := trodAll_nil hA1
  obtain ⟨al⟩ := args
  simp only at hargs
  subst hargs
  obtain ⟨rfl, rfl⟩ := trodVars_none hV
  obtain ⟨ss0, u0, ent0, addr0, hs1_0, hs2_0, h2_0, h3_0, h4_0, h6_0, h5_0⟩ := open_bytes (P := Tryz.prog) (W := W) Tryz.underlying22 Tryz.underlying5 (by kernel_rfl) (hval 0 22 v0 rfl rfl) hd0 6
  have hlen : (startOf Tryz.prog Rows.blobKeptRow.laid).length = 6 := by unfold startOf; rw [List.length_map, List.length_range, bke_nglob]
  have hι : ∀ g, g < 6 → (fun id => if id = 6 then addr0 else (id, 0) : Inj) g = (g, 0) := fun g hg => by simp only; rw [if_neg (by omega)]
  have hlast0 : (startOf Tryz.prog Rows.blobKeptRow.laid ++ [ent0])[6]? = some ent0 := by rw [List.getElem?_append_right (by omega), hlen]; rfl
  have hok : ∀ id cs, (startOf Tryz.prog Rows.blobKeptRow.laid ++ [ent0])[id]? = some (some cs) → VsOk (Am.start (startOf Tryz.prog Rows.blobKeptRow.laid ++ [ent0])) cs ∧ BOk (fun id => if id = 6 then addr0 else (id, 0)) W.heap.size W id cs cs.length false := by
    intro id cs hid
    by_cases hlt : id < 6
    · rw [List.getElem?_append_left (by omega)] at hid
      exact startOf_ok (P := Tryz.prog) hL' (ι := fun id => if id = 6 then addr0 else (id, 0)) (fun g hg => hι g (by rw [bke_nglob] at hg; exact hg)) _ id cs hid
    · have hlt2 : id < 7 := by
        have := (List.getElem?_eq_some_iff.1 hid).1
        rw [List.length_append, hlen] at this
        simp at this
        omega
      obtain rfl : id = 6 := by omega
      rw [hlast0] at hid
      obtain ⟨k1, k2⟩ := h3_0 cs (Option.some.inj hid)
      refine ⟨?_, k2 _ _ (by simp)⟩
      rw [k1, VsOk_iff]
      intro x hx
      obtain ⟨n, _, rfl⟩ := List.mem_map.1 hx
      trivial
  have hsz : (Am.start (startOf Tryz.prog Rows.blobKeptRow.laid ++ [ent0])).size = 7 := by rw [start_size, List.length_append, hlen]; rfl
  have hr0 := h5_0 (Am.start (startOf Tryz.prog Rows.blobKeptRow.laid ++ [ent0])) (fun cs hcs => start_cells (by rw [hlast0, hcs]))
  have hcv : cvl (fun id => if id = 6 then addr0 else (id, 0)) [u0] = [v0] := by
    simp only [cvl, h2_0 (fun id => if id = 6 then addr0 else (id, 0)) (by simp)]
    try rfl
  have hcall := law_true (P := Tryz.prog) (f := 4) (W := W) (blobKept_ok (baseOf W) W) [u0] (startOf Tryz.prog Rows.blobKeptRow.laid ++ [ent0]) (fun id => if id = 6 then addr0 else (id, 0)) hok (fun g hg => hι g (by rw [bke_nglob] at hg; exact hg)) (by rw [bke_nglob, List.length_append, hlen]; simp) ⟨h4_0 _ (by rw [hsz]; decide), trivial⟩ (fun τ => blobKept_in hr0 h6_0 (tabs_start (by rw [List.getElem?_append_left (by rw [hlen]; decide)]; kernel_rfl)) (by rw [hsz]; decide) τ)
  rw [hcv] at hcall
  refine hcall.mono fun e W' ⟨he, hb⟩ => ?_
  subst he
  exact ⟨_, rfl, law_post (P := Tryz.prog) bke_laidOut rfl rfl (by kernel_rfl) Tryz.underlying4 (by kernel_rfl) hW' hb⟩

theorem blobKept_jA : jA Tryz.prog Tryz.f4 Rows.blobKeptSpec Rows.blobKeptRow = true := by kernel_rfl
theorem blobKept_jB : jB Tryz.prog 4 Rows.blobKeptRow = true := by kernel_rfl
theorem blobKept_jC : jC Tryz.prog 4 Rows.blobKeptRow = true := by kernel_rfl
theorem blobKept_jD : jD Tryz.prog 4 Rows.blobKeptRow = true := by kernel_rfl
theorem blobKept_jE : jE Tryz.prog 4 Rows.blobKeptRow = true := by kernel_rfl
theorem blobKept_jF : jF Tryz.prog Tryz.f4 Rows.blobKeptSpec Rows.blobKeptRow = true := by kernel_rfl
theorem blobKept_jG : jG Tryz.prog = true := by kernel_rfl
theorem blobKept_jH : jH Tryz.prog = true := by kernel_rfl
theorem blobKept_jI : jI Tryz.prog Tryz.f4 Rows.blobKeptSpec Rows.blobKeptRow = true := by kernel_rfl
theorem blobKept_holds : Rows.BlobKeptSaid :=
  OpenClaim.holds_of_wide 4 Tryz.f4 rfl rfl rfl rfl rfl rfl rfl ⟨rfl, rfl, rfl, rfl, rfl⟩ rfl rfl rfl rfl rfl (by kernel_rfl) Tryz.func4 (joined_of (P := Tryz.prog) (f := 4) (fn := Tryz.f4) (s := Rows.blobKeptSpec) (c := Rows.blobKeptRow) blobKept_jA blobKept_jB blobKept_jC blobKept_jD blobKept_jE blobKept_jF blobKept_jG blobKept_jH blobKept_jI)
    (of_decide_eq_true (by kernel_rfl)) (by unfold Func.isWrapper; first | (rw [if_pos (by decide +kernel)]; kernel_rfl) | (rw [if_neg (by decide +kernel)]; exact ⟨rfl, rfl⟩))
    (fun os started H enc _ => blobKept_lifted os started H enc)

theorem blobKept_card : Rows.BlobKeptCardSaid :=
  Claim7.holds_tied_plain_at .later [] _ true _ _
    blobKept_holds (fun _ h => by cases h) (by kernel_rfl) (fun _ h => by cases h) blobKept_row_tie rfl ⟨rfl, rfl⟩ (by kernel_rfl) rfl
    (fun f fn hf hfn => by
      obtain rfl : f = 4 := Option.some.inj ((show Tryz.prog.funcNamed "ostiary/ostiarylaw21.BlobKept" = some 4 by kernel_rfl).symm.trans hf) |>.symm
      obtain rfl : fn = Tryz.f4 := (Option.some.inj (Tryz.func4.symm.trans hfn)).symm
      exact ⟨by kernel_rfl, fun j t ht => by
        rw [Tryz.params4] at ht
        have h22 : Tryz.prog.wantsStandIn 22 = false := by kernel_rfl
        rcases j with _ | j
        · simp at ht; subst ht; exact h22
        · simp at ht⟩)
    (by kernel_rfl)
#print axioms blobKept_card
end Go.Proofs.YtfamalehnahbdaaGreatDoor
