/- HeadersPieces, for any list of texts: its call answers true; no condition of our own. -/
import Derived.Test.YtpigmhokjbbffaaDoorCards
import Derived.Test.YtpigmhokjbbffaaDoorTie
import Derived.ChangeSame
import Derived.ChangeVars
import Derived.JoinedOf
import Derived.RowKit
import Derived.LaidLaws
import Derived.LaidMore
import Derived.LaidHandle
import Derived.Lay
import Derived.ProofKit
import Derived.OpenShut
import Derived.Stop.Joined
import Derived.SevenTiedAt
import Derived.Test.YtpigmhokjbbffaaDoorPOk
import Derived.Test.YtpigmhokjbbffaaDoorPC2
import Derived.Test.YtpigmhokjbbffaaDoorPC1
namespace Go.Proofs.YtpigmhokjbbffaaDoor
open Go Go.Am Go.Am.AmTrydHd Go.ChangeShapes Go.WideShapes Go.RowKit
set_option maxRecDepth 1000000
theorem hp_own : ownKnob Tryd.prog.godebug = none := by kernel_rfl
theorem hp_laidOut : laidOutB Tryd.prog = true := by kernel_rfl
theorem hp_nglob : Tryd.prog.globals.size = 3 := by kernel_rfl
theorem headersPieces_lifted (os : Os) (started : os.Started) (H : Type) (enc : TypeId × Value → H) :
    ReturnsInHanded {} Tryd.checked os 3 .any (fun w args => (Rows.headersPiecesSpec.pre enc Tryd.prog Tryd.f3 [] false w args ∧ laidMetH Tryd.prog Rows.headersPiecesRow.laid w) ∧ sizedMet enc Tryd.prog Tryd.f3 (OpenSpec.ofChange Rows.headersPiecesSpec) false w args)
      (Rows.headersPiecesSpec.post enc Tryd.prog Tryd.f3 false true false false) := by
  refine returnsInHanded_of_change_and (C := Tryd.checked) (X := fun w _ => laidMetH Tryd.prog Rows.headersPiecesRow.laid w) (fun _ _ _ hh h => h.of_heap hh) hp_own started (by kernel_rfl) Tryd.func3
    (ChangeSpec.witness_shaped (enc := enc) (C := Tryd.checked) (os := os) (X := fun w _ => laidMetH Tryd.prog Rows.headersPiecesRow.laid w) false (World.laidAll Tryd.prog os Rows.headersPiecesRow.laid) #[.slice none 0 0] 8 (World.laidAll_os _ _ _) (World.shaped_of_ZipB (by kernel_rfl) (by kernel_rfl)) (by kernel_rfl) (by kernel_rfl) (by kernel_rfl)
      (by rw [MakeChecks.laidMetH_plain _ _ _ (by kernel_rfl)]; exact laidMet_laidAll _ (by kernel_rfl) (by kernel_rfl))) ?_
  intro W base args ds gs before hval0 hW _ _ hL _
  have hval : ∀ (j : Nat) t v, Tryd.f3.params[j]? = some t → args[j]? = some v → Value.okWide Tryd.prog W .any base t v := hval0
  have hL' : laidMet Tryd.prog Rows.headersPiecesRow.laid W := by rw [MakeChecks.laidMetH_plain _ _ _ (by kernel_rfl)] at hL; exact hL
  have hW' := hW
  obtain ⟨p, q, hA0, hV, rfl, hfz, hnd⟩ := hW
  have hA : DataW.TrodAll enc Tryd.prog W 0 (fun _ => true) true Tryd.f3.params.toList args.toList ds p := hA0
  rw [Tryd.params3] at hA hval
  obtain ⟨v0, vs1, d0, ds1, p0, q0, hargs, rfl, rfl, hd0, hA1⟩ := trodAll_cons hA
  obtain ⟨rfl, rfl, rfl⟩ := trodAll_nil hA1
  obtain ⟨al⟩ := args
  simp only at hargs
  subst hargs
  obtain ⟨rfl, rfl⟩ := trodVars_none hV
  obtain ⟨ss, u, ent, addr, h1, hss, h2, h3, h4, h5⟩ := open_strings (P := Tryd.prog) (W := W) Tryd.underlying22 Tryd.underlying9 (by kernel_rfl) (hval 0 22 v0 rfl rfl) hd0 3
  have hι : ∀ g, g < 3 → (fun id => if id = 3 then addr else (id, 0) : Inj) g = (g, 0) := fun g hg => by simp only; rw [if_neg (by omega)]
  have hlen : (startOf Tryd.prog Rows.headersPiecesRow.laid).length = 3 := by unfold startOf; rw [List.length_map, List.length_range, hp_nglob]
  have hlast : (startOf Tryd.prog Rows.headersPiecesRow.laid ++ [ent])[3]? = some ent := by rw [List.getElem?_append_right (by omega), hlen]; rfl
  have hok : ∀ id cs, (startOf Tryd.prog Rows.headersPiecesRow.laid ++ [ent])[id]? = some (some cs) → VsOk (Am.start (startOf Tryd.prog Rows.headersPiecesRow.laid ++ [ent])) cs ∧ BOk (fun id => if id = 3 then addr else (id, 0)) W.heap.size W id cs cs.length false := by
    intro id cs hid
    by_cases hlt : id < 3
    · rw [List.getElem?_append_left (by omega)] at hid
      exact startOf_ok (P := Tryd.prog) hL' (ι := fun id => if id = 3 then addr else (id, 0)) (fun g hg => hι g (by rw [hp_nglob] at hg; exact hg)) _ id cs hid
    · have e : id = 3 := by
        have := (List.getElem?_eq_some_iff.1 hid).1
        rw [List.length_append, hlen] at this
        simp at this
        omega
      subst e
      rw [hlast] at hid
      obtain ⟨k1, k2⟩ := h3 cs (Option.some.inj hid)
      refine ⟨?_, k2 _ _ (by simp)⟩
      rw [k1, VsOk_iff]
      intro x hx
      obtain ⟨n, _, rfl⟩ := List.mem_map.1 hx
      trivial
  have hsz : (Am.start (startOf Tryd.prog Rows.headersPiecesRow.laid ++ [ent])).size = 4 := by rw [start_size, List.length_append, hlen]; rfl
  have hr := h5 (Am.start (startOf Tryd.prog Rows.headersPiecesRow.laid ++ [ent])) (fun cs hcs => start_cells (by rw [hlast, hcs]))
  have hcv : cvl (fun id => if id = 3 then addr else (id, 0)) [u] = [v0] := by
    simp only [cvl, h2 (fun id => if id = 3 then addr else (id, 0)) (by simp)]
  have hrun := run_all (F := tabF) (E := tabE) (N := 9223372036854775808) (d := 40) (f := 3) (tab_ok _) (fun τ => headersPieces_run (by decide) u ss hss _ (start_wf (startOf Tryd.prog Rows.headersPiecesRow.laid ++ [ent])) hr τ)
  have hcall := call_true (P := Tryd.prog) mixed_ok (W := W) (defs_ok (all_ok W.heap.size W)) 9223372036854775808 40 3 [u] (startOf Tryd.prog Rows.headersPiecesRow.laid ++ [ent]) (fun id => if id = 3 then addr else (id, 0)) hok (fun g hg => hι g (by rw [hp_nglob] at hg; exact hg)) (by rw [hp_nglob, List.length_append, hlen]; simp) ⟨h4 _ (by rw [hsz]; decide), trivial⟩ hrun
  rw [hcv] at hcall
  refine hcall.mono fun e W' ⟨he, hb⟩ => ?_
  subst he
  exact ⟨_, rfl, law_post (P := Tryd.prog) hp_laidOut rfl rfl (by kernel_rfl) Tryd.underlying4 (by kernel_rfl) hW' hb⟩

theorem headersPieces_holds : Rows.HeadersPiecesSaid :=
  OpenClaim.holds_of_wide 3 Tryd.f3 rfl rfl rfl rfl rfl rfl rfl ⟨rfl, rfl, rfl, rfl, rfl⟩ rfl rfl rfl rfl rfl (by kernel_rfl) Tryd.func3 (by kernel_rfl)
    (of_decide_eq_true (by kernel_rfl)) (by unfold Func.isWrapper; first | (rw [if_pos (by decide +kernel)]; kernel_rfl) | (rw [if_neg (by decide +kernel)]; exact ⟨rfl, rfl⟩))
    (fun os started H enc _ => headersPieces_lifted os started H enc)

theorem headersPieces_card : Rows.HeadersPiecesCardSaid :=
  Claim7.holds_tied_plain_at .later [] _ true _ _
    headersPieces_holds (fun _ h => by cases h) (by kernel_rfl) (fun _ h => by cases h) headersPieces_row_tie rfl ⟨rfl, rfl⟩ (by kernel_rfl) rfl
    (fun f fn hf hfn => by
      obtain rfl : f = 3 := Option.some.inj ((show Tryd.prog.funcNamed "ostiary/ostiarylaw5.HeadersPieces" = some 3 by kernel_rfl).symm.trans hf) |>.symm
      obtain rfl : fn = Tryd.f3 := (Option.some.inj (Tryd.func3.symm.trans hfn)).symm
      exact ⟨by kernel_rfl, fun j t ht => by
        rw [Tryd.params3] at ht
        have h22 : Tryd.prog.wantsStandIn 22 = false := by kernel_rfl
        rcases j with _ | j
        · simp at ht; subst ht; exact h22
        · simp at ht⟩)
    (by kernel_rfl)
#print axioms headersPieces_card
end Go.Proofs.YtpigmhokjbbffaaDoor
