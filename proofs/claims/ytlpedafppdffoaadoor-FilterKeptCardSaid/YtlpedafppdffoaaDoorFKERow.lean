/- FilterKept, for any inputs: its call answers true; no condition of our own. -/
import Derived.Test.YtlpedafppdffoaaDoorCards
import Derived.Test.YtlpedafppdffoaaDoorTie
import Derived.ChangeSame
import Derived.ChangeVars
import Derived.JoinedOf
import Derived.RowKit
import Derived.LaidLaws
import Derived.LaidMore
import Derived.LaidHandle
import Derived.Lay
import Derived.ProofKit
import Derived.OpenShut
import Derived.Stop.Joined
import Derived.SevenTiedAt
import Derived.SizedLaws
import Derived.Test.YtlpedafppdffoaaDoorFKEOk
import Derived.Test.YtlpedafppdffoaaDoorFKEL1
import Derived.Test.YtlpedafppdffoaaDoorFKEL6
import Derived.Test.YtlpedafppdffoaaDoorFKEM5
namespace Go.Proofs.YtlpedafppdffoaaDoor
open Go Go.Am Go.Am.X Go.ChangeShapes Go.WideShapes Go.RowKit
set_option maxRecDepth 1000000
theorem fke_own : ownKnob Tryd.prog.godebug = none := by kernel_rfl
theorem fke_laidOut : laidOutB Tryd.prog = true := by kernel_rfl
theorem fke_nglob : Tryd.prog.globals.size = 6 := by kernel_rfl
theorem filterKept_lifted (os : Os) (started : os.Started) (H : Type) (enc : TypeId × Value → H) :
    ReturnsInHanded {} Tryd.checked os 5 .any (fun w args => (Rows.filterKeptSpec.pre enc Tryd.prog Tryd.f5 [] false w args ∧ laidMetH Tryd.prog Rows.filterKeptRow.laid w) ∧ sizedMet enc Tryd.prog Tryd.f5 (OpenSpec.ofChange Rows.filterKeptSpec) false w args)
      (Rows.filterKeptSpec.post enc Tryd.prog Tryd.f5 false true false false) := by
  refine returnsInHanded_of_change_and (C := Tryd.checked) (X := fun w _ => laidMetH Tryd.prog Rows.filterKeptRow.laid w) (fun _ _ _ hh h => h.of_heap hh) fke_own started (by kernel_rfl) Tryd.func5
    (ChangeSpec.witness_shaped (enc := enc) (C := Tryd.checked) (os := os) (X := fun w _ => laidMetH Tryd.prog Rows.filterKeptRow.laid w) false (World.laidAll Tryd.prog os Rows.filterKeptRow.laid) #[.agg #[.int .i64 0, .slice none 0 0, .slice none 0 0]] 8 (World.laidAll_os _ _ _) (World.shaped_of_ZipB (by kernel_rfl) (by kernel_rfl)) (by kernel_rfl) (by kernel_rfl) (by kernel_rfl)
      (by rw [MakeChecks.laidMetH_plain _ _ _ (by kernel_rfl)]; exact laidMet_laidAll _ (by kernel_rfl) (by kernel_rfl))) ?_
  intro W base args ds gs before hval0 hW _ hWt hL _
  have hval : ∀ (j : Nat) t v, Tryd.f5.params[j]? = some t → args[j]? = some v → Value.okWide Tryd.prog W .any base t v := hval0
  have hL' : laidMet Tryd.prog Rows.filterKeptRow.laid W := by rw [MakeChecks.laidMetH_plain _ _ _ (by kernel_rfl)] at hL; exact hL
  have hW' := hW
  obtain ⟨p, q, hA0, hV, rfl, hfz, hnd⟩ := hW
  have hA : DataW.TrodAll enc Tryd.prog W 0 (fun _ => true) true Tryd.f5.params.toList args.toList ds p := hA0
  rw [Tryd.params5] at hA hval hWt
  obtain ⟨v0, vs1, d0, ds1, p0, q0, hargs, rfl, rfl, hd0, hA1⟩ := trodAll_cons hA
  obtain ⟨rfl, rfl, rfl⟩ := trodAll_nil hA1
  obtain ⟨al⟩ := args
  simp only at hargs
  subst hargs
  obtain ⟨rfl, rfl⟩ := trodVars_none hV
  obtain ⟨st0, ss0, la0, u0a, u0b, ent0a, ent0b, addr0a, addr0b, hs1_0, h2_0, h3_0a, h3_0b, h4_0, h6_0, h5_0a, h5_0b⟩ := open_reply (P := Tryd.prog) (W := W) Tryd.underlying36 (by kernel_rfl) (by kernel_rfl) (by kernel_rfl) (by kernel_rfl) (by kernel_rfl) (by kernel_rfl) (by kernel_rfl) (by kernel_rfl) Tryd.underlying3 Tryd.underlying22 Tryd.underlying34 Tryd.underlying45 (by kernel_rfl) (by kernel_rfl) (by kernel_rfl) (by kernel_rfl) (by kernel_rfl) Tryd.underlying9 Tryd.underlying9 Tryd.underlying5 (by kernel_rfl) (hval 0 36 v0 rfl rfl) hd0 (weightsEach_le hWt (j := 0) (t := 36) rfl rfl) 6 7
  have hlen : (startOf Tryd.prog Rows.filterKeptRow.laid).length = 6 := by unfold startOf; rw [List.length_map, List.length_range, fke_nglob]
  have hι : ∀ g, g < 6 → (fun id => if id = 6 then addr0a else if id = 7 then addr0b else (id, 0) : Inj) g = (g, 0) := fun g hg => by simp only; rw [if_neg (by omega), if_neg (by omega)]
  have hlast0a : (startOf Tryd.prog Rows.filterKeptRow.laid ++ [ent0a, ent0b])[6]? = some ent0a := by rw [List.getElem?_append_right (by omega), hlen]; rfl
  have hlast0b : (startOf Tryd.prog Rows.filterKeptRow.laid ++ [ent0a, ent0b])[7]? = some ent0b := by rw [List.getElem?_append_right (by omega), hlen]; rfl
  have hok : ∀ id cs, (startOf Tryd.prog Rows.filterKeptRow.laid ++ [ent0a, ent0b])[id]? = some (some cs) → VsOk (Am.start (startOf Tryd.prog Rows.filterKeptRow.laid ++ [ent0a, ent0b])) cs ∧ BOk (fun id => if id = 6 then addr0a else if id = 7 then addr0b else (id, 0)) W.heap.size W id cs cs.length false := by
    intro id cs hid
    by_cases hlt : id < 6
    · rw [List.getElem?_append_left (by omega)] at hid
      exact startOf_ok (P := Tryd.prog) hL' (ι := fun id => if id = 6 then addr0a else if id = 7 then addr0b else (id, 0)) (fun g hg => hι g (by rw [fke_nglob] at hg; exact hg)) _ id cs hid
    · have hlt2 : id < 8 := by
        have := (List.getElem?_eq_some_iff.1 hid).1
        rw [List.length_append, hlen] at this
        simp at this
        omega
      have hor : id = 6 ∨ id = 7 := by omega
      rcases hor with rfl | rfl
      · rw [hlast0a] at hid
        obtain ⟨k1, k2⟩ := h3_0a cs (Option.some.inj hid)
        refine ⟨?_, k2 _ _ (by simp)⟩
        rw [k1, VsOk_iff]
        intro x hx
        simp only [hcells, List.mem_flatMap, List.mem_cons, List.not_mem_nil, or_false] at hx
        obtain ⟨h, _, rfl | rfl⟩ := hx <;> trivial
      · rw [hlast0b] at hid
        obtain ⟨k1, k2⟩ := h3_0b cs (Option.some.inj hid)
        refine ⟨?_, k2 _ _ (by simp)⟩
        rw [k1, VsOk_iff]
        intro x hx
        obtain ⟨n, _, rfl⟩ := List.mem_map.1 hx
        trivial
  have hsz : (Am.start (startOf Tryd.prog Rows.filterKeptRow.laid ++ [ent0a, ent0b])).size = 8 := by rw [start_size, List.length_append, hlen]; rfl
  have hr0a := h5_0a (Am.start (startOf Tryd.prog Rows.filterKeptRow.laid ++ [ent0a, ent0b])) (fun cs hcs => start_cells (by rw [hlast0a, hcs]))
  have hr0b := h5_0b (Am.start (startOf Tryd.prog Rows.filterKeptRow.laid ++ [ent0a, ent0b])) (fun cs hcs => start_cells (by rw [hlast0b, hcs]))
  have hcv : cvl (fun id => if id = 6 then addr0a else if id = 7 then addr0b else (id, 0)) [.agg [.int .i64 st0, u0a, u0b]] = [v0] := by
    simp only [cvl, h2_0 (fun id => if id = 6 then addr0a else if id = 7 then addr0b else (id, 0)) (by simp) (by simp)]
    try rfl
  have hcall := law_true (P := Tryd.prog) (f := 5) (W := W) (filterKept_ok (baseOf W) W) [.agg [.int .i64 st0, u0a, u0b]] (startOf Tryd.prog Rows.filterKeptRow.laid ++ [ent0a, ent0b]) (fun id => if id = 6 then addr0a else if id = 7 then addr0b else (id, 0)) hok (fun g hg => hι g (by rw [fke_nglob] at hg; exact hg)) (by rw [fke_nglob, List.length_append, hlen]; simp) ⟨h4_0 _ (by rw [hsz]; decide) (by rw [hsz]; decide), trivial⟩ (fun τ => filterKept_in ⟨hr0a, hr0b.1, hr0b.2⟩ hs1_0 h6_0 τ)
  rw [hcv] at hcall
  refine hcall.mono fun e W' ⟨he, hb⟩ => ?_
  subst he
  exact ⟨_, rfl, law_post (P := Tryd.prog) fke_laidOut rfl rfl (by kernel_rfl) Tryd.underlying4 (by kernel_rfl) hW' hb⟩

theorem filterKept_jA : jA Tryd.prog Tryd.f5 Rows.filterKeptSpec Rows.filterKeptRow = true := by kernel_rfl
theorem filterKept_jB : jB Tryd.prog 5 Rows.filterKeptRow = true := by kernel_rfl
theorem filterKept_jC : jC Tryd.prog 5 Rows.filterKeptRow = true := by kernel_rfl
theorem filterKept_jD : jD Tryd.prog 5 Rows.filterKeptRow = true := by kernel_rfl
theorem filterKept_jE : jE Tryd.prog 5 Rows.filterKeptRow = true := by kernel_rfl
theorem filterKept_jF : jF Tryd.prog Tryd.f5 Rows.filterKeptSpec Rows.filterKeptRow = true := by kernel_rfl
theorem filterKept_jG : jG Tryd.prog = true := by kernel_rfl
theorem filterKept_jH : jH Tryd.prog = true := by kernel_rfl
theorem filterKept_jI : jI Tryd.prog Tryd.f5 Rows.filterKeptSpec Rows.filterKeptRow = true := by kernel_rfl
theorem filterKept_holds : Rows.FilterKeptSaid :=
  OpenClaim.holds_of_wide 5 Tryd.f5 rfl rfl rfl rfl rfl rfl rfl ⟨rfl, rfl, rfl, rfl, rfl⟩ rfl rfl rfl rfl rfl (by kernel_rfl) Tryd.func5 (joined_of (P := Tryd.prog) (f := 5) (fn := Tryd.f5) (s := Rows.filterKeptSpec) (c := Rows.filterKeptRow) filterKept_jA filterKept_jB filterKept_jC filterKept_jD filterKept_jE filterKept_jF filterKept_jG filterKept_jH filterKept_jI)
    (of_decide_eq_true (by kernel_rfl)) (by unfold Func.isWrapper; first | (rw [if_pos (by decide +kernel)]; kernel_rfl) | (rw [if_neg (by decide +kernel)]; exact ⟨rfl, rfl⟩))
    (fun os started H enc _ => filterKept_lifted os started H enc)

theorem filterKept_card : Rows.FilterKeptCardSaid :=
  Claim7.holds_tied_plain_at .later [] _ true _ _
    filterKept_holds (fun _ h => by cases h) (by kernel_rfl) (fun _ h => by cases h) filterKept_row_tie rfl ⟨rfl, rfl⟩ (by kernel_rfl) rfl
    (fun f fn hf hfn => by
      obtain rfl : f = 5 := Option.some.inj ((show Tryd.prog.funcNamed "ostiary/ostiarylaw20.FilterKept" = some 5 by kernel_rfl).symm.trans hf) |>.symm
      obtain rfl : fn = Tryd.f5 := (Option.some.inj (Tryd.func5.symm.trans hfn)).symm
      exact ⟨by kernel_rfl, fun j t ht => by
        rw [Tryd.params5] at ht
        have h36 : Tryd.prog.wantsStandIn 36 = false := by kernel_rfl
        rcases j with _ | j
        · simp at ht; subst ht; exact h36
        · simp at ht⟩)
    (by kernel_rfl)
#print axioms filterKept_card
end Go.Proofs.YtlpedafppdffoaaDoor
