/- IntegrityMakes, for any inputs: its call answers true; no condition of our own. -/
import Derived.Test.YtejpgcemblankaaDoorCards
import Derived.Test.YtejpgcemblankaaDoorTie
import Derived.ChangeSame
import Derived.ChangeVars
import Derived.JoinedOf
import Derived.RowKit
import Derived.LaidLaws
import Derived.LaidMore
import Derived.LaidHandle
import Derived.Lay
import Derived.ProofKit
import Derived.OpenShut
import Derived.Stop.Joined
import Derived.SevenTiedAt
import Derived.SizedLaws
import Derived.Test.YtejpgcemblankaaDoorIMAOk
import Derived.Test.YtejpgcemblankaaDoorIMAL0
import Derived.Test.YtejpgcemblankaaDoorIMAL12
import Derived.Test.YtejpgcemblankaaDoorIMAM4
namespace Go.Proofs.YtejpgcemblankaaDoor
open Go Go.Am Go.Am.X Go.ChangeShapes Go.WideShapes Go.RowKit
set_option maxRecDepth 1000000
theorem ima_own : ownKnob Tryd.prog.godebug = none := by kernel_rfl
theorem ima_laidOut : laidOutB Tryd.prog = true := by kernel_rfl
theorem zO6 : Tryd.prog.globals.size = 10 := by kernel_rfl
theorem zNK (os : Os) (started : os.Started) (H : Type) (enc : TypeId × Value → H) :
    ReturnsInHanded {} Tryd.checked os 5 .any (fun w args => (Rows.integrityMakesSpec.pre enc Tryd.prog Tryd.f5 [] false w args ∧ laidMetH Tryd.prog Rows.integrityMakesRow.laid w) ∧ sizedMet enc Tryd.prog Tryd.f5 (OpenSpec.ofChange Rows.integrityMakesSpec) false w args)
      (Rows.integrityMakesSpec.post enc Tryd.prog Tryd.f5 false true false false) := by
  refine returnsInHanded_of_change_and (C := Tryd.checked) (X := fun w _ => laidMetH Tryd.prog Rows.integrityMakesRow.laid w) (fun _ _ _ hh h => h.of_heap hh) ima_own started (by kernel_rfl) Tryd.func5
    (ChangeSpec.witness_shaped (enc := enc) (C := Tryd.checked) (os := os) (X := fun w _ => laidMetH Tryd.prog Rows.integrityMakesRow.laid w) false (World.laidAll Tryd.prog os Rows.integrityMakesRow.laid) #[.slice none 0 0, .slice none 0 0, .int .i64 0] 8 (World.laidAll_os _ _ _) (World.shaped_of_ZipB (by kernel_rfl) (by kernel_rfl)) (by kernel_rfl) (by kernel_rfl) (by kernel_rfl)
      (by rw [MakeChecks.laidMetH_plain _ _ _ (by kernel_rfl)]; exact laidMet_laidAll _ (by kernel_rfl) (by kernel_rfl))) ?_
  intro W base args ds gs before hval0 hW _ hWt hL _
  have hval : ∀ (j : Nat) t v, Tryd.f5.params[j]? = some t → args[j]? = some v → Value.okWide Tryd.prog W .any base t v := hval0
  have hL' : laidMet Tryd.prog Rows.integrityMakesRow.laid W := by rw [MakeChecks.laidMetH_plain _ _ _ (by kernel_rfl)] at hL; exact hL
  have hW' := hW
  obtain ⟨p, q, hA0, hV, rfl, hfz, hnd⟩ := hW
  have hA : DataW.TrodAll enc Tryd.prog W 0 (fun _ => true) true Tryd.f5.params.toList args.toList ds p := hA0
  rw [Tryd.params5] at hA hval hWt
  obtain ⟨v0, vs1, d0, ds1, p0, q0, hargs, rfl, rfl, hd0, hA1⟩ := trodAll_cons hA
  obtain ⟨v1, vs2, d1, ds2, p1, q1, rfl, rfl, rfl, hd1, hA2⟩ := trodAll_cons hA1
  obtain ⟨v2, vs3, d2, ds3, p2, q2, rfl, rfl, rfl, hd2, hA3⟩ := trodAll_cons hA2
  obtain ⟨rfl, rfl, rfl⟩ := trodAll_nil hA3
  obtain ⟨al⟩ := args
  simp only at hargs
  subst hargs
  obtain ⟨rfl, rfl⟩ := trodVars_none hV
  obtain ⟨ss0, u0, ent0, addr0, hs1_0, hs2_0, h2_0, h3_0, h4_0, h6_0, h5_0⟩ := zSb (P := Tryd.prog) (W := W) Tryd.underlying22 Tryd.underlying5 (by kernel_rfl) (hval 0 22 v0 rfl rfl) hd0 10
  obtain ⟨ss1, u1, ent1, addr1, hs1_1, hs2_1, h2_1, h3_1, h4_1, h6_1, h5_1⟩ := zSb (P := Tryd.prog) (W := W) Tryd.underlying22 Tryd.underlying5 (by kernel_rfl) (hval 1 22 v1 rfl rfl) hd1 11
  obtain ⟨x2, rfl, rfl, rfl, w2⟩ := open_int Tryd.underlying3 (hval 2 3 v2 rfl rfl) hd2
  have hlen : (zJg Tryd.prog Rows.integrityMakesRow.laid).length = 10 := by unfold zJg; rw [List.length_map, List.length_range, zO6]
  have hU : ∀ g, g < 10 → (fun id => if id = 10 then addr0 else if id = 11 then addr1 else (id, 0) : Inj) g = (g, 0) := fun g hg => by simp only; rw [if_neg (by omega), if_neg (by omega)]
  have hlast0 : (zJg Tryd.prog Rows.integrityMakesRow.laid ++ [ent0, ent1])[10]? = some ent0 := by rw [List.getElem?_append_right (by omega), hlen]; rfl
  have hlast1 : (zJg Tryd.prog Rows.integrityMakesRow.laid ++ [ent0, ent1])[11]? = some ent1 := by rw [List.getElem?_append_right (by omega), hlen]; rfl
  have hok : ∀ id cs, (zJg Tryd.prog Rows.integrityMakesRow.laid ++ [ent0, ent1])[id]? = some (some cs) → VsOk (Am.start (zJg Tryd.prog Rows.integrityMakesRow.laid ++ [ent0, ent1])) cs ∧ BOk (fun id => if id = 10 then addr0 else if id = 11 then addr1 else (id, 0)) W.heap.size W id cs cs.length false := by
    intro id cs hid
    by_cases hlt : id < 10
    · rw [List.getElem?_append_left (by omega)] at hid
      exact startOf_ok (P := Tryd.prog) hL' (U := fun id => if id = 10 then addr0 else if id = 11 then addr1 else (id, 0)) (fun g hg => hU g (by rw [zO6] at hg; exact hg)) _ id cs hid
    · have hlt2 : id < 12 := by
        have := (List.getElem?_eq_some_iff.1 hid).1
        rw [List.length_append, hlen] at this
        simp at this
        omega
      have hor : id = 10 ∨ id = 11 := by omega
      rcases hor with rfl | rfl
      · rw [hlast0] at hid
        obtain ⟨k1, k2⟩ := h3_0 cs (Option.some.inj hid)
        refine ⟨?_, k2 _ _ (by simp)⟩
        rw [k1, zk]
        intro x hx
        obtain ⟨n, _, rfl⟩ := List.mem_map.1 hx
        trivial
      · rw [hlast1] at hid
        obtain ⟨k1, k2⟩ := h3_1 cs (Option.some.inj hid)
        refine ⟨?_, k2 _ _ (by simp)⟩
        rw [k1, zk]
        intro x hx
        obtain ⟨n, _, rfl⟩ := List.mem_map.1 hx
        trivial
  have hsz : (Am.start (zJg Tryd.prog Rows.integrityMakesRow.laid ++ [ent0, ent1])).size = 12 := by rw [zPi, List.length_append, hlen]; rfl
  have hr0 := h5_0 (Am.start (zJg Tryd.prog Rows.integrityMakesRow.laid ++ [ent0, ent1])) (fun cs hcs => zOW (by rw [hlast0, hcs]))
  have hr1 := h5_1 (Am.start (zJg Tryd.prog Rows.integrityMakesRow.laid ++ [ent0, ent1])) (fun cs hcs => zOW (by rw [hlast1, hcs]))
  have hcv : cvl (fun id => if id = 10 then addr0 else if id = 11 then addr1 else (id, 0)) [u0, u1, .int .i64 x2] = [v0, v1, .int .i64 x2] := by
    simp only [cvl, h2_0 (fun id => if id = 10 then addr0 else if id = 11 then addr1 else (id, 0)) (by simp), h2_1 (fun id => if id = 10 then addr0 else if id = 11 then addr1 else (id, 0)) (by simp)]
    try rfl
  have hcall := law_true (P := Tryd.prog) (f := 5) (W := W) (zPv (baseOf W) W) [u0, u1, .int .i64 x2] (zJg Tryd.prog Rows.integrityMakesRow.laid ++ [ent0, ent1]) (fun id => if id = 10 then addr0 else if id = 11 then addr1 else (id, 0)) hok (fun g hg => hU g (by rw [zO6] at hg; exact hg)) (by rw [zO6, List.length_append, hlen]; simp) ⟨h4_0 _ (by rw [hsz]; decide), h4_1 _ (by rw [hsz]; decide), trivial, trivial⟩ (fun Z => zQC hs2_0 hs2_1 hr0 hr1 h6_0 h6_1 (tabs_startG (by kernel_rfl)) Z)
  rw [hcv] at hcall
  refine hcall.mono fun e W' ⟨he, hb⟩ => ?_
  subst he
  exact ⟨_, rfl, law_post (P := Tryd.prog) ima_laidOut rfl rfl (by kernel_rfl) Tryd.underlying4 (by kernel_rfl) hW' hb⟩

theorem zQE : jA Tryd.prog Tryd.f5 Rows.integrityMakesSpec Rows.integrityMakesRow = true := by kernel_rfl
theorem zPu : jB Tryd.prog 5 Rows.integrityMakesRow = true := by kernel_rfl
theorem zPk : jC Tryd.prog 5 Rows.integrityMakesRow = true := by kernel_rfl
theorem zP4 : jD Tryd.prog 5 Rows.integrityMakesRow = true := by kernel_rfl
theorem zP2 : jE Tryd.prog 5 Rows.integrityMakesRow = true := by kernel_rfl
theorem zP6 : jF Tryd.prog Tryd.f5 Rows.integrityMakesSpec Rows.integrityMakesRow = true := by kernel_rfl
theorem zQF : jG Tryd.prog = true := by kernel_rfl
theorem zP1 : jH Tryd.prog = true := by kernel_rfl
theorem zPj : jI Tryd.prog Tryd.f5 Rows.integrityMakesSpec Rows.integrityMakesRow = true := by kernel_rfl
theorem zNx : Rows.IntegrityMakesSaid :=
  OpenClaim.holds_of_wide 5 Tryd.f5 rfl rfl rfl rfl rfl rfl rfl ⟨rfl, rfl, rfl, rfl, rfl⟩ rfl rfl rfl rfl rfl (by kernel_rfl) Tryd.func5 (joined_of (P := Tryd.prog) (f := 5) (fn := Tryd.f5) (s := Rows.integrityMakesSpec) (c := Rows.integrityMakesRow) zQE zPu zPk zP4 zP2 zP6 zQF zP1 zPj)
    (of_decide_eq_true (by kernel_rfl)) (by unfold Func.isWrapper; first | (rw [if_pos (by decide +kernel)]; kernel_rfl) | (rw [if_neg (by decide +kernel)]; exact ⟨rfl, rfl⟩))
    (fun os started H enc _ => zNK os started H enc)

theorem integrityMakes_card : Rows.IntegrityMakesCardSaid :=
  Claim7.holds_tied_plain_at .later [] _ true _ _
    zNx (fun _ h => by cases h) (by kernel_rfl) (fun _ h => by cases h) integrityMakes_row_tie rfl ⟨rfl, rfl⟩ (by kernel_rfl) rfl
    (fun f fn hf hfn => by
      obtain rfl : f = 5 := Option.some.inj ((show Tryd.prog.funcNamed "ostiary/ostiarylaw9.IntegrityMakes" = some 5 by kernel_rfl).symm.trans hf) |>.symm
      obtain rfl : fn = Tryd.f5 := (Option.some.inj (Tryd.func5.symm.trans hfn)).symm
      exact ⟨by kernel_rfl, fun j t ht => by
        rw [Tryd.params5] at ht
        have h3 : Tryd.prog.wantsStandIn 3 = false := by kernel_rfl
        have h22 : Tryd.prog.wantsStandIn 22 = false := by kernel_rfl
        rcases j with _ | _ | _ | j
        · simp at ht; subst ht; exact h22
        · simp at ht; subst ht; exact h22
        · simp at ht; subst ht; exact h3
        · simp at ht⟩)
    (by kernel_rfl)
#print axioms integrityMakes_card
end Go.Proofs.YtejpgcemblankaaDoor
