/- FilterShows, for any inputs: its call answers true; no condition of our own. -/
import Derived.Test.YtlpedafppdffoaaGreatDoorCards
import Derived.Test.YtlpedafppdffoaaGreatDoorTie
import Derived.ChangeSame
import Derived.ChangeVars
import Derived.JoinedOf
import Derived.RowKit
import Derived.LaidLaws
import Derived.LaidMore
import Derived.LaidHandle
import Derived.Lay
import Derived.ProofKit
import Derived.OpenShut
import Derived.Stop.Joined
import Derived.SevenTiedAt
import Derived.SizedLaws
import Derived.Test.YtlpedafppdffoaaGreatDoorFSHOk
import Derived.Test.YtlpedafppdffoaaGreatDoorFSHL1
import Derived.Test.YtlpedafppdffoaaGreatDoorFSHL7
import Derived.Test.YtlpedafppdffoaaGreatDoorFSHM5
namespace Go.Proofs.YtlpedafppdffoaaGreatDoor
open Go Go.Am Go.Am.X Go.ChangeShapes Go.WideShapes Go.RowKit
set_option maxRecDepth 1000000
theorem fsh_own : ownKnob Tryz.prog.godebug = none := by kernel_rfl
theorem fsh_laidOut : laidOutB Tryz.prog = true := by kernel_rfl
theorem fsh_nglob : Tryz.prog.globals.size = 6 := by kernel_rfl
theorem filterShows_lifted (os : Os) (started : os.Started) (H : Type) (enc : TypeId × Value → H) :
    ReturnsInHanded {} Tryz.checked os 3 .any (fun w args => (Rows.filterShowsSpec.pre enc Tryz.prog Tryz.f3 [] false w args ∧ laidMetH Tryz.prog Rows.filterShowsRow.laid w) ∧ sizedMet enc Tryz.prog Tryz.f3 (OpenSpec.ofChange Rows.filterShowsSpec) false w args)
      (Rows.filterShowsSpec.post enc Tryz.prog Tryz.f3 false true false false) := by
  refine returnsInHanded_of_change_and (C := Tryz.checked) (X := fun w _ => laidMetH Tryz.prog Rows.filterShowsRow.laid w) (fun _ _ _ hh h => h.of_heap hh) fsh_own started (by kernel_rfl) Tryz.func3
    (ChangeSpec.witness_shaped (enc := enc) (C := Tryz.checked) (os := os) (X := fun w _ => laidMetH Tryz.prog Rows.filterShowsRow.laid w) false (World.laidAll Tryz.prog os Rows.filterShowsRow.laid) #[.agg #[.int .i64 0, .slice none 0 0, .slice none 0 0], .string ⟨#[]⟩, .bool false] 8 (World.laidAll_os _ _ _) (World.shaped_of_ZipB (by kernel_rfl) (by kernel_rfl)) (by kernel_rfl) (by kernel_rfl) (by kernel_rfl)
      (by rw [MakeChecks.laidMetH_plain _ _ _ (by kernel_rfl)]; exact laidMet_laidAll _ (by kernel_rfl) (by kernel_rfl))) ?_
  intro W base args ds gs before hval0 hW _ hWt hL _
  have hval : ∀ (j : Nat) t v, Tryz.f3.params[j]? = some t → args[j]? = some v → Value.okWide Tryz.prog W .any base t v := hval0
  have hL' : laidMet Tryz.prog Rows.filterShowsRow.laid W := by rw [MakeChecks.laidMetH_plain _ _ _ (by kernel_rfl)] at hL; exact hL
  have hW' := hW
  obtain ⟨p, q, hA0, hV, rfl, hfz, hnd⟩ := hW
  have hA : DataW.TrodAll enc Tryz.prog W 0 (fun _ => true) true Tryz.f3.params.toList args.toList ds p := hA0
  rw [Tryz.params3] at hA hval hWt
  obtain ⟨v0, vs1, d0, ds1, p0, q0, hargs, rfl, rfl, hd0, hA1⟩ := trodAll_cons hA
  obtain ⟨v1, vs2, d1, ds2, p1, q1, rfl, rfl, rfl, hd1, hA2⟩ := trodAll_cons hA1
  obtain ⟨v2, vs3, d2, ds3, p2, q2, rfl, rfl, rfl, hd2, hA3⟩ := trodAll_cons hA2
  obtain ⟨rfl, rfl, rfl⟩ := trodAll_nil hA3
  obtain ⟨al⟩ := args
  simp only at hargs
  subst hargs
  obtain ⟨rfl, rfl⟩ := trodVars_none hV
  obtain ⟨st0, ss0, la0, u0a, u0b, ent0a, ent0b, addr0a, addr0b, hs1_0, h2_0, h3_0a, h3_0b, h4_0, h6_0, h5_0a, h5_0b⟩ := open_reply (P := Tryz.prog) (W := W) Tryz.underlying25 (by kernel_rfl) (by kernel_rfl) (by kernel_rfl) (by kernel_rfl) (by kernel_rfl) (by kernel_rfl) (by kernel_rfl) (by kernel_rfl) Tryz.underlying3 Tryz.underlying22 Tryz.underlying23 Tryz.underlying41 (by kernel_rfl) (by kernel_rfl) (by kernel_rfl) (by kernel_rfl) (by kernel_rfl) Tryz.underlying9 Tryz.underlying9 Tryz.underlying5 (by kernel_rfl) (hval 0 25 v0 rfl rfl) hd0 (weightsEach_le hWt (j := 0) (t := 25) rfl rfl) 6 7
  obtain ⟨y1, rfl, rfl, rfl, w1⟩ := Go.ChangeMaps.open_string Tryz.underlying9 (hval 1 9 v1 rfl rfl) hd1
  have z1 : y1.data.toList.length ≤ 140737488351232 := sized_string hWt (j := 1) (t := 9) rfl rfl
  obtain ⟨x2, rfl, rfl, rfl⟩ := open_bool Tryz.underlying4 (hval 2 4 v2 rfl rfl) hd2
  have hlen : (startOf Tryz.prog Rows.filterShowsRow.laid).length = 6 := by unfold startOf; rw [List.length_map, List.length_range, fsh_nglob]
  have hι : ∀ g, g < 6 → (fun id => if id = 6 then addr0a else if id = 7 then addr0b else (id, 0) : Inj) g = (g, 0) := fun g hg => by simp only; rw [if_neg (by omega), if_neg (by omega)]
  have hlast0a : (startOf Tryz.prog Rows.filterShowsRow.laid ++ [ent0a, ent0b])[6]? = some ent0a := by rw [List.getElem?_append_right (by omega), hlen]; rfl
  have hlast0b : (startOf Tryz.prog Rows.filterShowsRow.laid ++ [ent0a, ent0b])[7]? = some ent0b := by rw [List.getElem?_append_right (by omega), hlen]; rfl
  have hok : ∀ id cs, (startOf Tryz.prog Rows.filterShowsRow.laid ++ [ent0a, ent0b])[id]? = some (some cs) → VsOk (Am.start (startOf Tryz.prog Rows.filterShowsRow.laid ++ [ent0a, ent0b])) cs ∧ BOk (fun id => if id = 6 then addr0a else if id = 7 then addr0b else (id, 0)) W.heap.size W id cs cs.length false := by
    intro id cs hid
    by_cases hlt : id < 6
    · rw [List.getElem?_append_left (by omega)] at hid
      exact startOf_ok (P := Tryz.prog) hL' (ι := fun id => if id = 6 then addr0a else if id = 7 then addr0b else (id, 0)) (fun g hg => hι g (by rw [fsh_nglob] at hg; exact hg)) _ id cs hid
    · have hlt2 : id < 8 := by
        have := (List.getElem?_eq_some_iff.1 hid).1
        rw [List.length_append, hlen] at this
        simp at this
        omega
      have hor : id = 6 ∨ id = 7 := by omega
      rcases hor with rfl | rfl
      · rw [hlast0a] at hid
        obtain ⟨k1, k2⟩ := h3_0a cs (Option.some.inj hid)
        refine ⟨?_, k2 _ _ (by simp)⟩
        rw [k1, VsOk_iff]
        intro x hx
        simp only [hcells, List.mem_flatMap, List.mem_cons, List.not_mem_nil, or_false] at hx
        obtain ⟨h, _, rfl | rfl⟩ := hx <;> trivial
      · rw [hlast0b] at hid
        obtain ⟨k1, k2⟩ := h3_0b cs (Option.some.inj hid)
        refine ⟨?_, k2 _ _ (by simp)⟩
        rw [k1, VsOk_iff]
        intro x hx
        obtain ⟨n, _, rfl⟩ := List.mem_map.1 hx
        trivial
  have hsz : (Am.start (startOf Tryz.prog Rows.filterShowsRow.laid ++ [ent0a, ent0b])).size = 8 := by rw [start_size, List.length_append, hlen]; rfl
  have hr0a := h5_0a (Am.start (startOf Tryz.prog Rows.filterShowsRow.laid ++ [ent0a, ent0b])) (fun cs hcs => start_cells (by rw [hlast0a, hcs]))
  have hr0b := h5_0b (Am.start (startOf Tryz.prog Rows.filterShowsRow.laid ++ [ent0a, ent0b])) (fun cs hcs => start_cells (by rw [hlast0b, hcs]))
  have hcv : cvl (fun id => if id = 6 then addr0a else if id = 7 then addr0b else (id, 0)) [.agg [.int .i64 st0, u0a, u0b], .str y1.data.toList, .bool x2] = [v0, .string y1, .bool x2] := by
    simp only [cvl, h2_0 (fun id => if id = 6 then addr0a else if id = 7 then addr0b else (id, 0)) (by simp) (by simp)]
    try rfl
  have hcall := law_true (P := Tryz.prog) (f := 3) (W := W) (filterShows_ok (baseOf W) W) [.agg [.int .i64 st0, u0a, u0b], .str y1.data.toList, .bool x2] (startOf Tryz.prog Rows.filterShowsRow.laid ++ [ent0a, ent0b]) (fun id => if id = 6 then addr0a else if id = 7 then addr0b else (id, 0)) hok (fun g hg => hι g (by rw [fsh_nglob] at hg; exact hg)) (by rw [fsh_nglob, List.length_append, hlen]; simp) ⟨h4_0 _ (by rw [hsz]; decide) (by rw [hsz]; decide), trivial, trivial, trivial⟩ (fun τ => filterShows_in ⟨ss0, la0, st0, u0a, u0b, rfl, ⟨hr0a, hr0b.1, hr0b.2⟩, hs1_0, h6_0⟩ _ _ τ)
  rw [hcv] at hcall
  refine hcall.mono fun e W' ⟨he, hb⟩ => ?_
  subst he
  exact ⟨_, rfl, law_post (P := Tryz.prog) fsh_laidOut rfl rfl (by kernel_rfl) Tryz.underlying4 (by kernel_rfl) hW' hb⟩

theorem filterShows_jA : jA Tryz.prog Tryz.f3 Rows.filterShowsSpec Rows.filterShowsRow = true := by kernel_rfl
theorem filterShows_jB : jB Tryz.prog 3 Rows.filterShowsRow = true := by kernel_rfl
theorem filterShows_jC : jC Tryz.prog 3 Rows.filterShowsRow = true := by kernel_rfl
theorem filterShows_jD : jD Tryz.prog 3 Rows.filterShowsRow = true := by kernel_rfl
theorem filterShows_jE : jE Tryz.prog 3 Rows.filterShowsRow = true := by kernel_rfl
theorem filterShows_jF : jF Tryz.prog Tryz.f3 Rows.filterShowsSpec Rows.filterShowsRow = true := by kernel_rfl
theorem filterShows_jG : jG Tryz.prog = true := by kernel_rfl
theorem filterShows_jH : jH Tryz.prog = true := by kernel_rfl
theorem filterShows_jI : jI Tryz.prog Tryz.f3 Rows.filterShowsSpec Rows.filterShowsRow = true := by kernel_rfl
theorem filterShows_holds : Rows.FilterShowsSaid :=
  OpenClaim.holds_of_wide 3 Tryz.f3 rfl rfl rfl rfl rfl rfl rfl ⟨rfl, rfl, rfl, rfl, rfl⟩ rfl rfl rfl rfl rfl (by kernel_rfl) Tryz.func3 (joined_of (P := Tryz.prog) (f := 3) (fn := Tryz.f3) (s := Rows.filterShowsSpec) (c := Rows.filterShowsRow) filterShows_jA filterShows_jB filterShows_jC filterShows_jD filterShows_jE filterShows_jF filterShows_jG filterShows_jH filterShows_jI)
    (of_decide_eq_true (by kernel_rfl)) (by unfold Func.isWrapper; first | (rw [if_pos (by decide +kernel)]; kernel_rfl) | (rw [if_neg (by decide +kernel)]; exact ⟨rfl, rfl⟩))
    (fun os started H enc _ => filterShows_lifted os started H enc)

theorem filterShows_card : Rows.FilterShowsCardSaid :=
  Claim7.holds_tied_plain_at .later [] _ true _ _
    filterShows_holds (fun _ h => by cases h) (by kernel_rfl) (fun _ h => by cases h) filterShows_row_tie rfl ⟨rfl, rfl⟩ (by kernel_rfl) rfl
    (fun f fn hf hfn => by
      obtain rfl : f = 3 := Option.some.inj ((show Tryz.prog.funcNamed "ostiary/ostiarylaw20.FilterShows" = some 3 by kernel_rfl).symm.trans hf) |>.symm
      obtain rfl : fn = Tryz.f3 := (Option.some.inj (Tryz.func3.symm.trans hfn)).symm
      exact ⟨by kernel_rfl, fun j t ht => by
        rw [Tryz.params3] at ht
        have h4 : Tryz.prog.wantsStandIn 4 = false := by kernel_rfl
        have h9 : Tryz.prog.wantsStandIn 9 = false := by kernel_rfl
        have h25 : Tryz.prog.wantsStandIn 25 = false := by kernel_rfl
        rcases j with _ | _ | _ | j
        · simp at ht; subst ht; exact h25
        · simp at ht; subst ht; exact h9
        · simp at ht; subst ht; exact h4
        · simp at ht⟩)
    (by kernel_rfl)
#print axioms filterShows_card
end Go.Proofs.YtlpedafppdffoaaGreatDoor
