/- HeadersKept, for any inputs: its call answers true; no condition of our own. -/
import Derived.Test.YtaikmfhjbcffiaaGreatDoorCards
import Derived.Test.YtaikmfhjbcffiaaGreatDoorTie
import Derived.ChangeSame
import Derived.ChangeVars
import Derived.JoinedOf
import Derived.RowKit
import Derived.LaidLaws
import Derived.LaidMore
import Derived.LaidHandle
import Derived.Lay
import Derived.ProofKit
import Derived.OpenShut
import Derived.Stop.Joined
import Derived.SevenTiedAt
import Derived.SizedLaws
import Derived.Test.YtaikmfhjbcffiaaGreatDoorHKOk
import Derived.Test.YtaikmfhjbcffiaaGreatDoorHKL1
import Derived.Test.YtaikmfhjbcffiaaGreatDoorHKL7
namespace Go.Proofs.YtaikmfhjbcffiaaGreatDoor
open Go Go.Am Go.Am.X Go.ChangeShapes Go.WideShapes Go.RowKit
set_option maxRecDepth 1000000
theorem hk_own : ownKnob Tryz.prog.godebug = none := by kernel_rfl
theorem hk_laidOut : laidOutB Tryz.prog = true := by kernel_rfl
theorem hk_nglob : Tryz.prog.globals.size = 3 := by kernel_rfl
theorem headersKept_lifted (os : Os) (started : os.Started) (H : Type) (enc : TypeId × Value → H) :
    ReturnsInHanded {} Tryz.checked os 3 .any (fun w args => (Rows.headersKeptSpec.pre enc Tryz.prog Tryz.f3 [] false w args ∧ laidMetH Tryz.prog Rows.headersKeptRow.laid w) ∧ sizedMet enc Tryz.prog Tryz.f3 (OpenSpec.ofChange Rows.headersKeptSpec) false w args)
      (Rows.headersKeptSpec.post enc Tryz.prog Tryz.f3 false true false false) := by
  refine returnsInHanded_of_change_and (C := Tryz.checked) (X := fun w _ => laidMetH Tryz.prog Rows.headersKeptRow.laid w) (fun _ _ _ hh h => h.of_heap hh) hk_own started (by kernel_rfl) Tryz.func3
    (ChangeSpec.witness_shaped (enc := enc) (C := Tryz.checked) (os := os) (X := fun w _ => laidMetH Tryz.prog Rows.headersKeptRow.laid w) false (World.laidAll Tryz.prog os Rows.headersKeptRow.laid) #[.slice none 0 0, .string ⟨#[]⟩] 8 (World.laidAll_os _ _ _) (World.shaped_of_ZipB (by kernel_rfl) (by kernel_rfl)) (by kernel_rfl) (by kernel_rfl) (by kernel_rfl)
      (by rw [MakeChecks.laidMetH_plain _ _ _ (by kernel_rfl)]; exact laidMet_laidAll _ (by kernel_rfl) (by kernel_rfl))) ?_
  intro W base args ds gs before hval0 hW _ hWt hL _
  have hval : ∀ (j : Nat) t v, Tryz.f3.params[j]? = some t → args[j]? = some v → Value.okWide Tryz.prog W .any base t v := hval0
  have hL' : laidMet Tryz.prog Rows.headersKeptRow.laid W := by rw [MakeChecks.laidMetH_plain _ _ _ (by kernel_rfl)] at hL; exact hL
  have hW' := hW
  obtain ⟨p, q, hA0, hV, rfl, hfz, hnd⟩ := hW
  have hA : DataW.TrodAll enc Tryz.prog W 0 (fun _ => true) true Tryz.f3.params.toList args.toList ds p := hA0
  rw [Tryz.params3] at hA hval hWt
  obtain ⟨v0, vs1, d0, ds1, p0, q0, hargs, rfl, rfl, hd0, hA1⟩ := trodAll_cons hA
  obtain ⟨v1, vs2, d1, ds2, p1, q1, rfl, rfl, rfl, hd1, hA2⟩ := trodAll_cons hA1
  obtain ⟨rfl, rfl, rfl⟩ := trodAll_nil hA2
  obtain ⟨al⟩ := args
  simp only at hargs
  subst hargs
  obtain ⟨rfl, rfl⟩ := trodVars_none hV
  obtain ⟨ss0, u0, ent0, addr0, hs1_0, hs2_0, h2_0, h3_0, h4_0, h5_0⟩ := open_headersZ (P := Tryz.prog) (W := W) Tryz.underlying22 Tryz.underlying38 (by kernel_rfl) (by kernel_rfl) (by kernel_rfl) (by kernel_rfl) (by kernel_rfl) (by kernel_rfl) (by kernel_rfl) (hval 0 22 v0 rfl rfl) hd0 (weightsEach_le hWt (j := 0) (t := 22) rfl rfl) 3
  obtain ⟨y1, rfl, rfl, rfl, w1⟩ := Go.ChangeMaps.open_string Tryz.underlying9 (hval 1 9 v1 rfl rfl) hd1
  have z1 : y1.data.toList.length ≤ 140737488351232 := sized_string hWt (j := 1) (t := 9) rfl rfl
  have hlen : (startOf Tryz.prog Rows.headersKeptRow.laid).length = 3 := by unfold startOf; rw [List.length_map, List.length_range, hk_nglob]
  have hι : ∀ g, g < 3 → (fun id => if id = 3 then addr0 else (id, 0) : Inj) g = (g, 0) := fun g hg => by simp only; rw [if_neg (by omega)]
  have hlast0 : (startOf Tryz.prog Rows.headersKeptRow.laid ++ [ent0])[3]? = some ent0 := by rw [List.getElem?_append_right (by omega), hlen]; rfl
  have hok : ∀ id cs, (startOf Tryz.prog Rows.headersKeptRow.laid ++ [ent0])[id]? = some (some cs) → VsOk (Am.start (startOf Tryz.prog Rows.headersKeptRow.laid ++ [ent0])) cs ∧ BOk (fun id => if id = 3 then addr0 else (id, 0)) W.heap.size W id cs cs.length false := by
    intro id cs hid
    by_cases hlt : id < 3
    · rw [List.getElem?_append_left (by omega)] at hid
      exact startOf_ok (P := Tryz.prog) hL' (ι := fun id => if id = 3 then addr0 else (id, 0)) (fun g hg => hι g (by rw [hk_nglob] at hg; exact hg)) _ id cs hid
    · have hlt2 : id < 4 := by
        have := (List.getElem?_eq_some_iff.1 hid).1
        rw [List.length_append, hlen] at this
        simp at this
        omega
      obtain rfl : id = 3 := by omega
      rw [hlast0] at hid
      obtain ⟨k1, k2⟩ := h3_0 cs (Option.some.inj hid)
      refine ⟨?_, k2 _ _ (by simp)⟩
      rw [k1, VsOk_iff]
      intro x hx
      simp only [hcells, List.mem_flatMap, List.mem_cons, List.not_mem_nil, or_false] at hx
      obtain ⟨h, _, rfl | rfl⟩ := hx <;> trivial
  have hsz : (Am.start (startOf Tryz.prog Rows.headersKeptRow.laid ++ [ent0])).size = 4 := by rw [start_size, List.length_append, hlen]; rfl
  have hr0 := h5_0 (Am.start (startOf Tryz.prog Rows.headersKeptRow.laid ++ [ent0])) (fun cs hcs => start_cells (by rw [hlast0, hcs]))
  have hcv : cvl (fun id => if id = 3 then addr0 else (id, 0)) [u0, .str y1.data.toList] = [v0, .string y1] := by
    simp only [cvl, h2_0 (fun id => if id = 3 then addr0 else (id, 0)) (by simp)]
    try rfl
  have hcall := law_true (P := Tryz.prog) (f := 3) (W := W) (headersKept_ok (baseOf W) W) [u0, .str y1.data.toList] (startOf Tryz.prog Rows.headersKeptRow.laid ++ [ent0]) (fun id => if id = 3 then addr0 else (id, 0)) hok (fun g hg => hι g (by rw [hk_nglob] at hg; exact hg)) (by rw [hk_nglob, List.length_append, hlen]; simp) ⟨h4_0 _ (by rw [hsz]; decide), trivial, trivial⟩ (fun τ => headersKept_in hr0 (by omega) (by omega) τ)
  rw [hcv] at hcall
  refine hcall.mono fun e W' ⟨he, hb⟩ => ?_
  subst he
  exact ⟨_, rfl, law_post (P := Tryz.prog) hk_laidOut rfl rfl (by kernel_rfl) Tryz.underlying4 (by kernel_rfl) hW' hb⟩

theorem headersKept_holds : Rows.HeadersKeptSaid :=
  OpenClaim.holds_of_wide 3 Tryz.f3 rfl rfl rfl rfl rfl rfl rfl ⟨rfl, rfl, rfl, rfl, rfl⟩ rfl rfl rfl rfl rfl (by kernel_rfl) Tryz.func3 (by kernel_rfl)
    (of_decide_eq_true (by kernel_rfl)) (by unfold Func.isWrapper; first | (rw [if_pos (by decide +kernel)]; kernel_rfl) | (rw [if_neg (by decide +kernel)]; exact ⟨rfl, rfl⟩))
    (fun os started H enc _ => headersKept_lifted os started H enc)

theorem headersKept_card : Rows.HeadersKeptCardSaid :=
  Claim7.holds_tied_plain_at .later [] _ true _ _
    headersKept_holds (fun _ h => by cases h) (by kernel_rfl) (fun _ h => by cases h) headersKept_row_tie rfl ⟨rfl, rfl⟩ (by kernel_rfl) rfl
    (fun f fn hf hfn => by
      obtain rfl : f = 3 := Option.some.inj ((show Tryz.prog.funcNamed "ostiary/ostiarylaw5.HeadersKept" = some 3 by kernel_rfl).symm.trans hf) |>.symm
      obtain rfl : fn = Tryz.f3 := (Option.some.inj (Tryz.func3.symm.trans hfn)).symm
      exact ⟨by kernel_rfl, fun j t ht => by
        rw [Tryz.params3] at ht
        have h9 : Tryz.prog.wantsStandIn 9 = false := by kernel_rfl
        have h22 : Tryz.prog.wantsStandIn 22 = false := by kernel_rfl
        rcases j with _ | _ | j
        · simp at ht; subst ht; exact h22
        · simp at ht; subst ht; exact h9
        · simp at ht⟩)
    (by kernel_rfl)
#print axioms headersKept_card
end Go.Proofs.YtaikmfhjbcffiaaGreatDoor
