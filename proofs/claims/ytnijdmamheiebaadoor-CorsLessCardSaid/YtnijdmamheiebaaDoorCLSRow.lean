/- CorsLess, for any inputs: its call answers true; no condition of our own. -/
import Derived.Test.YtnijdmamheiebaaDoorCards
import Derived.Test.YtnijdmamheiebaaDoorTie
import Derived.ChangeSame
import Derived.ChangeVars
import Derived.JoinedOf
import Derived.RowKit
import Derived.LaidLaws
import Derived.LaidMore
import Derived.LaidHandle
import Derived.Lay
import Derived.ProofKit
import Derived.OpenShut
import Derived.Stop.Joined
import Derived.SevenTiedAt
import Derived.SizedLaws
import Derived.Test.YtnijdmamheiebaaDoorCLSOk
import Derived.Test.YtnijdmamheiebaaDoorCLSL0
import Derived.Test.YtnijdmamheiebaaDoorCLSL10
import Derived.Test.YtnijdmamheiebaaDoorCLSM4
namespace Go.Proofs.YtnijdmamheiebaaDoor
open Go Go.Am Go.Am.X Go.ChangeShapes Go.WideShapes Go.RowKit
set_option maxRecDepth 1000000
theorem cls_own : ownKnob Tryd.prog.godebug = none := by kernel_rfl
theorem cls_laidOut : laidOutB Tryd.prog = true := by kernel_rfl
theorem zOY : Tryd.prog.globals.size = 4 := by kernel_rfl
theorem zQv (os : Os) (started : os.Started) (H : Type) (enc : TypeId × Value → H) :
    ReturnsInHanded {} Tryd.checked os 3 .any (fun w args => (Rows.corsLessSpec.pre enc Tryd.prog Tryd.f3 [] false w args ∧ laidMetH Tryd.prog Rows.corsLessRow.laid w) ∧ sizedMet enc Tryd.prog Tryd.f3 (OpenSpec.ofChange Rows.corsLessSpec) false w args)
      (Rows.corsLessSpec.post enc Tryd.prog Tryd.f3 false true false false) := by
  refine returnsInHanded_of_change_and (C := Tryd.checked) (X := fun w _ => laidMetH Tryd.prog Rows.corsLessRow.laid w) (fun _ _ _ hh h => h.of_heap hh) cls_own started (by kernel_rfl) Tryd.func3
    (ChangeSpec.witness_shaped (enc := enc) (C := Tryd.checked) (os := os) (X := fun w _ => laidMetH Tryd.prog Rows.corsLessRow.laid w) false (World.laidAll Tryd.prog os Rows.corsLessRow.laid) #[.string ⟨#[]⟩, .string ⟨#[]⟩, .slice none 0 0, .string ⟨#[]⟩] 8 (World.laidAll_os _ _ _) (World.shaped_of_ZipB (by kernel_rfl) (by kernel_rfl)) (by kernel_rfl) (by kernel_rfl) (by kernel_rfl)
      (by rw [MakeChecks.laidMetH_plain _ _ _ (by kernel_rfl)]; exact laidMet_laidAll _ (by kernel_rfl) (by kernel_rfl))) ?_
  intro W base args ds gs before hval0 hW _ hWt hL _
  have hval : ∀ (j : Nat) t v, Tryd.f3.params[j]? = some t → args[j]? = some v → Value.okWide Tryd.prog W .any base t v := hval0
  have hL' : laidMet Tryd.prog Rows.corsLessRow.laid W := by rw [MakeChecks.laidMetH_plain _ _ _ (by kernel_rfl)] at hL; exact hL
  have hW' := hW
  obtain ⟨p, q, hA0, hV, rfl, hfz, hnd⟩ := hW
  have hA : DataW.TrodAll enc Tryd.prog W 0 (fun _ => true) true Tryd.f3.params.toList args.toList ds p := hA0
  rw [Tryd.params3] at hA hval hWt
  obtain ⟨v0, vs1, d0, ds1, p0, q0, hargs, rfl, rfl, hd0, hA1⟩ := trodAll_cons hA
  obtain ⟨v1, vs2, d1, ds2, p1, q1, rfl, rfl, rfl, hd1, hA2⟩ := trodAll_cons hA1
  obtain ⟨v2, vs3, d2, ds3, p2, q2, rfl, rfl, rfl, hd2, hA3⟩ := trodAll_cons hA2
  obtain ⟨v3, vs4, d3, ds4, p3, q3, rfl, rfl, rfl, hd3, hA4⟩ := trodAll_cons hA3
  obtain ⟨rfl, rfl, rfl⟩ := trodAll_nil hA4
  obtain ⟨al⟩ := args
  simp only at hargs
  subst hargs
  obtain ⟨rfl, rfl⟩ := trodVars_none hV
  obtain ⟨y0, rfl, rfl, rfl, w0⟩ := Go.ChangeMaps.open_string Tryd.underlying9 (hval 0 9 v0 rfl rfl) hd0
  have z0 : y0.data.toList.length ≤ 140737488351232 := sized_string hWt (j := 0) (t := 9) rfl rfl
  obtain ⟨y1, rfl, rfl, rfl, w1⟩ := Go.ChangeMaps.open_string Tryd.underlying9 (hval 1 9 v1 rfl rfl) hd1
  have z1 : y1.data.toList.length ≤ 140737488351232 := sized_string hWt (j := 1) (t := 9) rfl rfl
  obtain ⟨ss2, u2, ent2, addr2, hs1_2, hs2_2, h2_2, h3_2, h4_2, h5_2⟩ := zR5 (P := Tryd.prog) (W := W) Tryd.underlying22 Tryd.underlying35 (by kernel_rfl) (by kernel_rfl) (by kernel_rfl) (by kernel_rfl) (by kernel_rfl) (by kernel_rfl) (by kernel_rfl) (hval 2 22 v2 rfl rfl) hd2 (zRU hWt (j := 2) (t := 22) rfl rfl) 4
  obtain ⟨y3, rfl, rfl, rfl, w3⟩ := Go.ChangeMaps.open_string Tryd.underlying9 (hval 3 9 v3 rfl rfl) hd3
  have z3 : y3.data.toList.length ≤ 140737488351232 := sized_string hWt (j := 3) (t := 9) rfl rfl
  have hlen : (zJX Tryd.prog Rows.corsLessRow.laid).length = 4 := by unfold zJX; rw [List.length_map, List.length_range, zOY]
  have hU : ∀ g, g < 4 → (fun id => if id = 4 then addr2 else (id, 0) : Inj) g = (g, 0) := fun g hg => by simp only; rw [if_neg (by omega)]
  have hlast2 : (zJX Tryd.prog Rows.corsLessRow.laid ++ [ent2])[4]? = some ent2 := by rw [List.getElem?_append_right (by omega), hlen]; rfl
  have hok : ∀ id cs, (zJX Tryd.prog Rows.corsLessRow.laid ++ [ent2])[id]? = some (some cs) → VsOk (Am.start (zJX Tryd.prog Rows.corsLessRow.laid ++ [ent2])) cs ∧ BOk (fun id => if id = 4 then addr2 else (id, 0)) W.heap.size W id cs cs.length false := by
    intro id cs hid
    by_cases hlt : id < 4
    · rw [List.getElem?_append_left (by omega)] at hid
      exact startOf_ok (P := Tryd.prog) hL' (U := fun id => if id = 4 then addr2 else (id, 0)) (fun g hg => hU g (by rw [zOY] at hg; exact hg)) _ id cs hid
    · have hlt2 : id < 5 := by
        have := (List.getElem?_eq_some_iff.1 hid).1
        rw [List.length_append, hlen] at this
        simp at this
        omega
      obtain rfl : id = 4 := by omega
      rw [hlast2] at hid
      obtain ⟨k1, k2⟩ := h3_2 cs (Option.some.inj hid)
      refine ⟨?_, k2 _ _ (by simp)⟩
      rw [k1, zw]
      intro x hx
      simp only [hcells, List.mem_flatMap, List.mem_cons, List.not_mem_nil, or_false] at hx
      obtain ⟨h, _, rfl | rfl⟩ := hx <;> trivial
  have hsz : (Am.start (zJX Tryd.prog Rows.corsLessRow.laid ++ [ent2])).size = 5 := by rw [zO8, List.length_append, hlen]; rfl
  have hr2 := h5_2 (Am.start (zJX Tryd.prog Rows.corsLessRow.laid ++ [ent2])) (fun cs hcs => zQA (by rw [hlast2, hcs]))
  have hcv : cvl (fun id => if id = 4 then addr2 else (id, 0)) [.str y0.data.toList, .str y1.data.toList, u2, .str y3.data.toList] = [.string y0, .string y1, v2, .string y3] := by
    simp only [cvl, h2_2 (fun id => if id = 4 then addr2 else (id, 0)) (by simp)]
    try rfl
  have hcall := law_true (P := Tryd.prog) (f := 3) (W := W) (corsLess_ok (baseOf W) W) [.str y0.data.toList, .str y1.data.toList, u2, .str y3.data.toList] (zJX Tryd.prog Rows.corsLessRow.laid ++ [ent2]) (fun id => if id = 4 then addr2 else (id, 0)) hok (fun g hg => hU g (by rw [zOY] at hg; exact hg)) (by rw [zOY, List.length_append, hlen]; simp) ⟨trivial, trivial, h4_2 _ (by rw [hsz]; decide), trivial, trivial⟩ (fun Z => corsLess_in hr2 (by omega) _ _ _ (pow_start (by rw [List.getElem?_append_left (by rw [hlen]; decide)]; kernel_rfl)) Z)
  rw [hcv] at hcall
  refine hcall.mono fun e W' ⟨he, hb⟩ => ?_
  subst he
  exact ⟨_, rfl, law_post (P := Tryd.prog) cls_laidOut rfl rfl (by kernel_rfl) Tryd.underlying4 (by kernel_rfl) hW' hb⟩

theorem corsLess_jA : jA Tryd.prog Tryd.f3 Rows.corsLessSpec Rows.corsLessRow = true := by kernel_rfl
theorem corsLess_jB : jB Tryd.prog 3 Rows.corsLessRow = true := by kernel_rfl
theorem corsLess_jC : jC Tryd.prog 3 Rows.corsLessRow = true := by kernel_rfl
theorem corsLess_jD : jD Tryd.prog 3 Rows.corsLessRow = true := by kernel_rfl
theorem corsLess_jE : jE Tryd.prog 3 Rows.corsLessRow = true := by kernel_rfl
theorem corsLess_jF : jF Tryd.prog Tryd.f3 Rows.corsLessSpec Rows.corsLessRow = true := by kernel_rfl
theorem corsLess_jG : jG Tryd.prog = true := by kernel_rfl
theorem corsLess_jH : jH Tryd.prog = true := by kernel_rfl
theorem corsLess_jI : jI Tryd.prog Tryd.f3 Rows.corsLessSpec Rows.corsLessRow = true := by kernel_rfl
theorem zQ7 : Rows.CorsLessSaid :=
  OpenClaim.holds_of_wide 3 Tryd.f3 rfl rfl rfl rfl rfl rfl rfl ⟨rfl, rfl, rfl, rfl, rfl⟩ rfl rfl rfl rfl rfl (by kernel_rfl) Tryd.func3 (joined_of (P := Tryd.prog) (f := 3) (fn := Tryd.f3) (s := Rows.corsLessSpec) (c := Rows.corsLessRow) corsLess_jA corsLess_jB corsLess_jC corsLess_jD corsLess_jE corsLess_jF corsLess_jG corsLess_jH corsLess_jI)
    (of_decide_eq_true (by kernel_rfl)) (by unfold Func.isWrapper; first | (rw [if_pos (by decide +kernel)]; kernel_rfl) | (rw [if_neg (by decide +kernel)]; exact ⟨rfl, rfl⟩))
    (fun os started H enc _ => zQv os started H enc)

theorem corsLess_card : Rows.CorsLessCardSaid :=
  Claim7.holds_tied_plain_at .later [] _ true _ _
    zQ7 (fun _ h => by cases h) (by kernel_rfl) (fun _ h => by cases h) corsLess_row_tie rfl ⟨rfl, rfl⟩ (by kernel_rfl) rfl
    (fun f fn hf hfn => by
      obtain rfl : f = 3 := Option.some.inj ((show Tryd.prog.funcNamed "ostiary/ostiarylaw18.CorsLess" = some 3 by kernel_rfl).symm.trans hf) |>.symm
      obtain rfl : fn = Tryd.f3 := (Option.some.inj (Tryd.func3.symm.trans hfn)).symm
      exact ⟨by kernel_rfl, fun j t ht => by
        rw [Tryd.params3] at ht
        have h9 : Tryd.prog.wantsStandIn 9 = false := by kernel_rfl
        have h22 : Tryd.prog.wantsStandIn 22 = false := by kernel_rfl
        rcases j with _ | _ | _ | _ | j
        · simp at ht; subst ht; exact h9
        · simp at ht; subst ht; exact h9
        · simp at ht; subst ht; exact h22
        · simp at ht; subst ht; exact h9
        · simp at ht⟩)
    (by kernel_rfl)
#print axioms corsLess_card
end Go.Proofs.YtnijdmamheiebaaDoor
