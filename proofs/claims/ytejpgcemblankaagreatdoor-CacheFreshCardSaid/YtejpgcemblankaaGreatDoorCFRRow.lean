/- CacheFresh, for any inputs: its call answers true; no condition of our own. -/
import Derived.Test.YtejpgcemblankaaGreatDoorCards
import Derived.Test.YtejpgcemblankaaGreatDoorTie
import Derived.ChangeSame
import Derived.ChangeVars
import Derived.JoinedOf
import Derived.RowKit
import Derived.LaidLaws
import Derived.LaidMore
import Derived.LaidHandle
import Derived.Lay
import Derived.ProofKit
import Derived.OpenShut
import Derived.Stop.Joined
import Derived.SevenTiedAt
import Derived.SizedLaws
import Derived.Test.YtejpgcemblankaaGreatDoorCFROk
import Derived.Test.YtejpgcemblankaaGreatDoorCFRL0
import Derived.Test.YtejpgcemblankaaGreatDoorCFRL9
import Derived.Test.YtejpgcemblankaaGreatDoorCFRM4
namespace Go.Proofs.YtejpgcemblankaaGreatDoor
open Go Go.Am Go.Am.X Go.ChangeShapes Go.WideShapes Go.RowKit
set_option maxRecDepth 1000000
theorem cfr_own : ownKnob Tryz.prog.godebug = none := by kernel_rfl
theorem cfr_laidOut : laidOutB Tryz.prog = true := by kernel_rfl
theorem zPT : Tryz.prog.globals.size = 6 := by kernel_rfl
theorem zQU (os : Os) (started : os.Started) (H : Type) (enc : TypeId × Value → H) :
    ReturnsInHanded {} Tryz.checked os 5 .any (fun w args => (Rows.cacheFreshSpec.pre enc Tryz.prog Tryz.f5 [] false w args ∧ laidMetH Tryz.prog Rows.cacheFreshRow.laid w) ∧ sizedMet enc Tryz.prog Tryz.f5 (OpenSpec.ofChange Rows.cacheFreshSpec) false w args)
      (Rows.cacheFreshSpec.post enc Tryz.prog Tryz.f5 false true false false) := by
  refine returnsInHanded_of_change_and (C := Tryz.checked) (X := fun w _ => laidMetH Tryz.prog Rows.cacheFreshRow.laid w) (fun _ _ _ hh h => h.of_heap hh) cfr_own started (by kernel_rfl) Tryz.func5
    (ChangeSpec.witness_shaped (enc := enc) (C := Tryz.checked) (os := os) (X := fun w _ => laidMetH Tryz.prog Rows.cacheFreshRow.laid w) false (World.laidAll Tryz.prog os Rows.cacheFreshRow.laid) #[.slice none 0 0, .int .i64 0, .int .i64 0, .string ⟨#[]⟩, .string ⟨#[]⟩] 8 (World.laidAll_os _ _ _) (World.shaped_of_ZipB (by kernel_rfl) (by kernel_rfl)) (by kernel_rfl) (by kernel_rfl) (by kernel_rfl)
      (by rw [MakeChecks.laidMetH_plain _ _ _ (by kernel_rfl)]; exact laidMet_laidAll _ (by kernel_rfl) (by kernel_rfl))) ?_
  intro W base args ds gs before hval0 hW _ hWt hL _
  have hval : ∀ (j : Nat) t v, Tryz.f5.params[j]? = some t → args[j]? = some v → Value.okWide Tryz.prog W .any base t v := hval0
  have hL' : laidMet Tryz.prog Rows.cacheFreshRow.laid W := by rw [MakeChecks.laidMetH_plain _ _ _ (by kernel_rfl)] at hL; exact hL
  have hW' := hW
  obtain ⟨p, q, hA0, hV, rfl, hfz, hnd⟩ := hW
  have hA : DataW.TrodAll enc Tryz.prog W 0 (fun _ => true) true Tryz.f5.params.toList args.toList ds p := hA0
  rw [Tryz.params5] at hA hval hWt
  obtain ⟨v0, vs1, d0, ds1, p0, q0, hargs, rfl, rfl, hd0, hA1⟩ := trodAll_cons hA
  obtain ⟨v1, vs2, d1, ds2, p1, q1, rfl, rfl, rfl, hd1, hA2⟩ := trodAll_cons hA1
  obtain ⟨v2, vs3, d2, ds3, p2, q2, rfl, rfl, rfl, hd2, hA3⟩ := trodAll_cons hA2
  obtain ⟨v3, vs4, d3, ds4, p3, q3, rfl, rfl, rfl, hd3, hA4⟩ := trodAll_cons hA3
  obtain ⟨v4, vs5, d4, ds5, p4, q4, rfl, rfl, rfl, hd4, hA5⟩ := trodAll_cons hA4
  obtain ⟨rfl, rfl, rfl⟩ := trodAll_nil hA5
  obtain ⟨al⟩ := args
  simp only at hargs
  subst hargs
  obtain ⟨rfl, rfl⟩ := trodVars_none hV
  obtain ⟨ss0, u0, ent0, addr0, hs1_0, hs2_0, h2_0, h3_0, h4_0, h6_0, h5_0⟩ := open_bytes (P := Tryz.prog) (W := W) Tryz.underlying28 Tryz.underlying5 (by kernel_rfl) (hval 0 28 v0 rfl rfl) hd0 6
  obtain ⟨x1, rfl, rfl, rfl, w1⟩ := open_int Tryz.underlying2 (hval 1 2 v1 rfl rfl) hd1
  obtain ⟨x2, rfl, rfl, rfl, w2⟩ := open_int Tryz.underlying2 (hval 2 2 v2 rfl rfl) hd2
  obtain ⟨y3, rfl, rfl, rfl, w3⟩ := Go.ChangeMaps.open_string Tryz.underlying9 (hval 3 9 v3 rfl rfl) hd3
  have z3 : y3.data.toList.length ≤ 140737488351232 := sized_string hWt (j := 3) (t := 9) rfl rfl
  obtain ⟨y4, rfl, rfl, rfl, w4⟩ := Go.ChangeMaps.open_string Tryz.underlying9 (hval 4 9 v4 rfl rfl) hd4
  have z4 : y4.data.toList.length ≤ 140737488351232 := sized_string hWt (j := 4) (t := 9) rfl rfl
  have hlen : (zLh Tryz.prog Rows.cacheFreshRow.laid).length = 6 := by unfold zLh; rw [List.length_map, List.length_range, zPT]
  have hU : ∀ g, g < 6 → (fun id => if id = 6 then addr0 else (id, 0) : Inj) g = (g, 0) := fun g hg => by simp only; rw [if_neg (by omega)]
  have hlast0 : (zLh Tryz.prog Rows.cacheFreshRow.laid ++ [ent0])[6]? = some ent0 := by rw [List.getElem?_append_right (by omega), hlen]; rfl
  have hok : ∀ id cs, (zLh Tryz.prog Rows.cacheFreshRow.laid ++ [ent0])[id]? = some (some cs) → VsOk (Am.start (zLh Tryz.prog Rows.cacheFreshRow.laid ++ [ent0])) cs ∧ BOk (fun id => if id = 6 then addr0 else (id, 0)) W.heap.size W id cs cs.length false := by
    intro id cs hid
    by_cases hlt : id < 6
    · rw [List.getElem?_append_left (by omega)] at hid
      exact startOf_ok (P := Tryz.prog) hL' (U := fun id => if id = 6 then addr0 else (id, 0)) (fun g hg => hU g (by rw [zPT] at hg; exact hg)) _ id cs hid
    · have hlt2 : id < 7 := by
        have := (List.getElem?_eq_some_iff.1 hid).1
        rw [List.length_append, hlen] at this
        simp at this
        omega
      obtain rfl : id = 6 := by omega
      rw [hlast0] at hid
      obtain ⟨k1, k2⟩ := h3_0 cs (Option.some.inj hid)
      refine ⟨?_, k2 _ _ (by simp)⟩
      rw [k1, zi]
      intro x hx
      obtain ⟨n, _, rfl⟩ := List.mem_map.1 hx
      trivial
  have hsz : (Am.start (zLh Tryz.prog Rows.cacheFreshRow.laid ++ [ent0])).size = 7 := by rw [zQV, List.length_append, hlen]; rfl
  have hr0 := h5_0 (Am.start (zLh Tryz.prog Rows.cacheFreshRow.laid ++ [ent0])) (fun cs hcs => zRo (by rw [hlast0, hcs]))
  have hcv : cvl (fun id => if id = 6 then addr0 else (id, 0)) [u0, .int .i64 x1, .int .i64 x2, .str y3.data.toList, .str y4.data.toList] = [v0, .int .i64 x1, .int .i64 x2, .string y3, .string y4] := by
    simp only [cvl, h2_0 (fun id => if id = 6 then addr0 else (id, 0)) (by simp)]
    try rfl
  have hcall := law_true (P := Tryz.prog) (f := 5) (W := W) (zTF (baseOf W) W) [u0, .int .i64 x1, .int .i64 x2, .str y3.data.toList, .str y4.data.toList] (zLh Tryz.prog Rows.cacheFreshRow.laid ++ [ent0]) (fun id => if id = 6 then addr0 else (id, 0)) hok (fun g hg => hU g (by rw [zPT] at hg; exact hg)) (by rw [zPT, List.length_append, hlen]; simp) ⟨h4_0 _ (by rw [hsz]; decide), trivial, trivial, trivial, trivial, trivial⟩ (fun Z => zTO hr0 h6_0 _ _ (tabs_startF (by rw [List.getElem?_append_left (by rw [hlen]; decide)]; kernel_rfl)) z3 z4 Z)
  rw [hcv] at hcall
  refine hcall.mono fun e W' ⟨he, hb⟩ => ?_
  subst he
  exact ⟨_, rfl, law_post (P := Tryz.prog) cfr_laidOut rfl rfl (by kernel_rfl) Tryz.underlying4 (by kernel_rfl) hW' hb⟩

theorem zS1 : jA Tryz.prog Tryz.f5 Rows.cacheFreshSpec Rows.cacheFreshRow = true := by kernel_rfl
theorem zS8 : jB Tryz.prog 5 Rows.cacheFreshRow = true := by kernel_rfl
theorem zS6 : jC Tryz.prog 5 Rows.cacheFreshRow = true := by kernel_rfl
theorem zSp : jD Tryz.prog 5 Rows.cacheFreshRow = true := by kernel_rfl
theorem zTM : jE Tryz.prog 5 Rows.cacheFreshRow = true := by kernel_rfl
theorem zTP : jF Tryz.prog Tryz.f5 Rows.cacheFreshSpec Rows.cacheFreshRow = true := by kernel_rfl
theorem zTB : jG Tryz.prog = true := by kernel_rfl
theorem zSy : jH Tryz.prog = true := by kernel_rfl
theorem zSm : jI Tryz.prog Tryz.f5 Rows.cacheFreshSpec Rows.cacheFreshRow = true := by kernel_rfl
theorem zQ8 : Rows.CacheFreshSaid :=
  OpenClaim.holds_of_wide 5 Tryz.f5 rfl rfl rfl rfl rfl rfl rfl ⟨rfl, rfl, rfl, rfl, rfl⟩ rfl rfl rfl rfl rfl (by kernel_rfl) Tryz.func5 (joined_of (P := Tryz.prog) (f := 5) (fn := Tryz.f5) (s := Rows.cacheFreshSpec) (c := Rows.cacheFreshRow) zS1 zS8 zS6 zSp zTM zTP zTB zSy zSm)
    (of_decide_eq_true (by kernel_rfl)) (by unfold Func.isWrapper; first | (rw [if_pos (by decide +kernel)]; kernel_rfl) | (rw [if_neg (by decide +kernel)]; exact ⟨rfl, rfl⟩))
    (fun os started H enc _ => zQU os started H enc)

theorem cacheFresh_card : Rows.CacheFreshCardSaid :=
  Claim7.holds_tied_plain_at .later [] _ true _ _
    zQ8 (fun _ h => by cases h) (by kernel_rfl) (fun _ h => by cases h) cacheFresh_row_tie rfl ⟨rfl, rfl⟩ (by kernel_rfl) rfl
    (fun f fn hf hfn => by
      obtain rfl : f = 5 := Option.some.inj ((show Tryz.prog.funcNamed "ostiary/ostiarylaw17.CacheFresh" = some 5 by kernel_rfl).symm.trans hf) |>.symm
      obtain rfl : fn = Tryz.f5 := (Option.some.inj (Tryz.func5.symm.trans hfn)).symm
      exact ⟨by kernel_rfl, fun j t ht => by
        rw [Tryz.params5] at ht
        have h2 : Tryz.prog.wantsStandIn 2 = false := by kernel_rfl
        have h9 : Tryz.prog.wantsStandIn 9 = false := by kernel_rfl
        have h28 : Tryz.prog.wantsStandIn 28 = false := by kernel_rfl
        rcases j with _ | _ | _ | _ | _ | j
        · simp at ht; subst ht; exact h28
        · simp at ht; subst ht; exact h2
        · simp at ht; subst ht; exact h2
        · simp at ht; subst ht; exact h9
        · simp at ht; subst ht; exact h9
        · simp at ht⟩)
    (by kernel_rfl)
#print axioms cacheFresh_card
end Go.Proofs.YtejpgcemblankaaGreatDoor
