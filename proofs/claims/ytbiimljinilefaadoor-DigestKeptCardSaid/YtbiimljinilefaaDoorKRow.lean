/- DigestKept, for any text of bytes: its call answers true; no condition of our own. -/
import Derived.Test.YtbiimljinilefaaDoorCards
import Derived.Test.YtbiimljinilefaaDoorTie
import Derived.ChangeSame
import Derived.ChangeVars
import Derived.JoinedOf
import Derived.RowKit
import Derived.LaidLaws
import Derived.LaidMore
import Derived.LaidHandle
import Derived.Lay
import Derived.ProofKit
import Derived.OpenShut
import Derived.Stop.Joined
import Derived.SevenTiedAt
import Derived.Test.YtbiimljinilefaaDoorKOk
import Derived.Test.YtbiimljinilefaaDoorKC3
import Derived.Test.YtbiimljinilefaaDoorKC4
namespace Go.Proofs.YtbiimljinilefaaDoor
open Go Go.Am Go.Am.AmTrydDig Go.ChangeShapes Go.WideShapes Go.RowKit
set_option maxRecDepth 1000000
theorem dk_own : ownKnob Tryd.prog.godebug = none := by kernel_rfl
theorem dk_laidOut : laidOutB Tryd.prog = true := by kernel_rfl
theorem dk_nglob : Tryd.prog.globals.size = 6 := by kernel_rfl
theorem dk_st : startOf Tryd.prog (Rows.digestKeptRow.laid.map fun x => (x.1, x.2)) = st0 := by kernel_rfl
theorem dk_st' : startOf Tryd.prog Rows.digestKeptRow.laid = st0 := dk_st
theorem digestKept_lifted (os : Os) (started : os.Started) (H : Type) (enc : TypeId × Value → H) :
    ReturnsInHanded {} Tryd.checked os 6 .any (fun w args => (Rows.digestKeptSpec.pre enc Tryd.prog Tryd.f6 [] false w args ∧ laidMetH Tryd.prog Rows.digestKeptRow.laid w) ∧ sizedMet enc Tryd.prog Tryd.f6 (OpenSpec.ofChange Rows.digestKeptSpec) false w args)
      (Rows.digestKeptSpec.post enc Tryd.prog Tryd.f6 false true false false) := by
  refine returnsInHanded_of_change_and (C := Tryd.checked) (X := fun w _ => laidMetH Tryd.prog Rows.digestKeptRow.laid w) (fun _ _ _ hh h => h.of_heap hh) dk_own started (by kernel_rfl) Tryd.func6
    (ChangeSpec.witness_shaped (enc := enc) (C := Tryd.checked) (os := os) (X := fun w _ => laidMetH Tryd.prog Rows.digestKeptRow.laid w) false (World.laidAll Tryd.prog os Rows.digestKeptRow.laid) #[.slice none 0 0] 8 (World.laidAll_os _ _ _) (World.shaped_of_ZipB (by kernel_rfl) (by kernel_rfl)) (by kernel_rfl) (by kernel_rfl) (by kernel_rfl)
      (by rw [MakeChecks.laidMetH_plain _ _ _ (by kernel_rfl)]; exact laidMet_laidAll _ (by kernel_rfl) (by kernel_rfl))) ?_
  intro W base args ds gs before hval0 hW _ _ hL _
  have hval : ∀ (j : Nat) t v, Tryd.f6.params[j]? = some t → args[j]? = some v → Value.okWide Tryd.prog W .any base t v := hval0
  have hL' : laidMet Tryd.prog Rows.digestKeptRow.laid W := by rw [MakeChecks.laidMetH_plain _ _ _ (by kernel_rfl)] at hL; exact hL
  have hW' := hW
  obtain ⟨p, q, hA0, hV, rfl, hfz, hnd⟩ := hW
  have hA : DataW.TrodAll enc Tryd.prog W 0 (fun _ => true) true Tryd.f6.params.toList args.toList ds p := hA0
  rw [Tryd.params6] at hA hval
  obtain ⟨v0, vs1, d0, ds1, p0, q0, hargs, rfl, rfl, hd0, hA1⟩ := trodAll_cons hA
  obtain ⟨rfl, rfl, rfl⟩ := trodAll_nil hA1
  obtain ⟨al⟩ := args
  simp only at hargs
  subst hargs
  obtain ⟨rfl, rfl⟩ := trodVars_none hV
  obtain ⟨bs, u, ent, addr, h1, _, h2, h3, h4, h5, h6⟩ := open_bytes (P := Tryd.prog) (W := W) Tryd.underlying22 Tryd.underlying5 (by kernel_rfl) (hval 0 22 v0 rfl rfl) hd0 6
  have hι : ∀ g, g < 6 → (fun id => if id = 6 then addr else (id, 0) : Inj) g = (g, 0) := fun g hg => by simp only; rw [if_neg (by omega)]
  have hlen : st0.length = 6 := by kernel_rfl
  have hlast : (st0 ++ [ent])[6]? = some ent := by rw [List.getElem?_append_right (by omega), hlen]; rfl
  have hok : ∀ id cs, (st0 ++ [ent])[id]? = some (some cs) → VsOk (Am.start (st0 ++ [ent])) cs ∧ BOk (fun id => if id = 6 then addr else (id, 0)) W.heap.size W id cs cs.length false := by
    intro id cs hid
    by_cases hlt : id < 6
    · rw [List.getElem?_append_left (by omega), ← dk_st'] at hid
      exact startOf_ok (P := Tryd.prog) hL' (ι := fun id => if id = 6 then addr else (id, 0)) (fun g hg => hι g (by rw [dk_nglob] at hg; exact hg)) _ id cs hid
    · have e : id = 6 := by
        have := (List.getElem?_eq_some_iff.1 hid).1
        rw [List.length_append, hlen] at this
        simp at this
        omega
      subst e
      rw [hlast] at hid
      obtain ⟨k1, k2⟩ := h3 cs (Option.some.inj hid)
      refine ⟨?_, k2 _ _ (by simp)⟩
      rw [k1, VsOk_iff]
      intro x hx
      obtain ⟨n, _, rfl⟩ := List.mem_map.1 hx
      trivial
  have hsz : (Am.start (st0 ++ [ent])).size = 7 := by rw [start_size, List.length_append, hlen]; rfl
  have hr := h6 (Am.start (st0 ++ [ent])) (fun cs hcs => start_cells (by rw [hlast, hcs]))
  have hl0 : Laid0 (Am.start (st0 ++ [ent])) := fun j cs hj => start_cells (by
    rw [List.getElem?_append_left ((List.getElem?_eq_some_iff.1 hj).1)]; exact hj)
  have hcv : cvl (fun id => if id = 6 then addr else (id, 0)) [u] = [v0] := by
    simp only [cvl, h2 (fun id => if id = 6 then addr else (id, 0)) (by simp)]
  have hrun := run_all (F := tabF) (E := tabE) (N := 9223372036854775808) (d := 40) (f := 6) (tab_ok _) (fun τ => digestKept_run (by decide) u bs h5 _ (start_wf (st0 ++ [ent])) hl0 hr.1 hr.2 τ)
  have hcall := call_true (P := Tryd.prog) mixed_ok (W := W) (defs_ok (all_ok W.heap.size W)) 9223372036854775808 40 6 [u] (st0 ++ [ent]) (fun id => if id = 6 then addr else (id, 0)) hok (fun g hg => hι g (by rw [dk_nglob] at hg; exact hg)) (by rw [dk_nglob, List.length_append, hlen]; simp) ⟨h4 _ (by rw [hsz]; decide), trivial⟩ hrun
  rw [hcv] at hcall
  refine hcall.mono fun e W' ⟨he, hb⟩ => ?_
  subst he
  exact ⟨_, rfl, law_post (P := Tryd.prog) dk_laidOut rfl rfl (by kernel_rfl) Tryd.underlying4 (by kernel_rfl) hW' hb⟩

theorem digestKept_holds : Rows.DigestKeptSaid :=
  OpenClaim.holds_of_wide 6 Tryd.f6 rfl rfl rfl rfl rfl rfl rfl ⟨rfl, rfl, rfl, rfl, rfl⟩ rfl rfl rfl rfl rfl (by kernel_rfl) Tryd.func6 (by kernel_rfl)
    (of_decide_eq_true (by kernel_rfl)) (by unfold Func.isWrapper; first | (rw [if_pos (by decide +kernel)]; kernel_rfl) | (rw [if_neg (by decide +kernel)]; exact ⟨rfl, rfl⟩))
    (fun os started H enc _ => digestKept_lifted os started H enc)

theorem digestKept_card : Rows.DigestKeptCardSaid :=
  Claim7.holds_tied_plain_at .later [] _ true _ _
    digestKept_holds (fun _ h => by cases h) (by kernel_rfl) (fun _ h => by cases h) digestKept_row_tie rfl ⟨rfl, rfl⟩ (by kernel_rfl) rfl
    (fun f fn hf hfn => by
      obtain rfl : f = 6 := Option.some.inj ((show Tryd.prog.funcNamed "ostiary/ostiarylaw8.DigestKept" = some 6 by kernel_rfl).symm.trans hf) |>.symm
      obtain rfl : fn = Tryd.f6 := (Option.some.inj (Tryd.func6.symm.trans hfn)).symm
      exact ⟨by kernel_rfl, fun j t ht => by
        rw [Tryd.params6] at ht
        have h22 : Tryd.prog.wantsStandIn 22 = false := by kernel_rfl
        rcases j with _ | j
        · simp at ht; subst ht; exact h22
        · simp at ht⟩)
    (by kernel_rfl)
#print axioms digestKept_card
end Go.Proofs.YtbiimljinilefaaDoor
