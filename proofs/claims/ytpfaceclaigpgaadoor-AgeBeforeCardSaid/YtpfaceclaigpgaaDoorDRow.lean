/- AgeBefore, for any headers and times: its call answers true; no condition of our own. -/
import Derived.Test.YtpfaceclaigpgaaDoorCards
import Derived.Test.YtpfaceclaigpgaaDoorTie
import Derived.ChangeSame
import Derived.ChangeVars
import Derived.JoinedOf
import Derived.RowKit
import Derived.LaidLaws
import Derived.LaidMore
import Derived.LaidHandle
import Derived.Lay
import Derived.ProofKit
import Derived.OpenShut
import Derived.Stop.Joined
import Derived.SevenTiedAt
import Derived.Test.YtpfaceclaigpgaaDoorDOk
import Derived.Test.YtpfaceclaigpgaaDoorDC2
namespace Go.Proofs.YtpfaceclaigpgaaDoor
open Go Go.Am Go.Am.AmTrydAge Go.ChangeShapes Go.WideShapes Go.RowKit
set_option maxRecDepth 1000000
theorem ab_own : ownKnob Tryd.prog.godebug = none := by kernel_rfl
theorem ab_laidOut : laidOutB Tryd.prog = true := by kernel_rfl
theorem ab_nglob : Tryd.prog.globals.size = 12 := by kernel_rfl
theorem ab_lit {n : Int} (h : (Lit.int .i64 n).wf = true) : InI n := by
  have h' : IntKind.i64.min ≤ n ∧ n ≤ IntKind.i64.max := by simpa [Lit.wf] using h
  exact h'

theorem ageBefore_lifted (os : Os) (started : os.Started) (H : Type) (enc : TypeId × Value → H) :
    ReturnsInHanded {} Tryd.checked os 5 .any (fun w args => (Rows.ageBeforeSpec.pre enc Tryd.prog Tryd.f5 [] false w args ∧ laidMetH Tryd.prog Rows.ageBeforeRow.laid w) ∧ sizedMet enc Tryd.prog Tryd.f5 (OpenSpec.ofChange Rows.ageBeforeSpec) false w args)
      (Rows.ageBeforeSpec.post enc Tryd.prog Tryd.f5 false true false false) := by
  refine returnsInHanded_of_change_and (C := Tryd.checked) (X := fun w _ => laidMetH Tryd.prog Rows.ageBeforeRow.laid w) (fun _ _ _ hh h => h.of_heap hh) ab_own started (by kernel_rfl) Tryd.func5
    (ChangeSpec.witness_shaped (enc := enc) (C := Tryd.checked) (os := os) (X := fun w _ => laidMetH Tryd.prog Rows.ageBeforeRow.laid w) false (World.laidAll Tryd.prog os Rows.ageBeforeRow.laid) #[.slice none 0 0, .int .i64 0, .int .i64 0, .int .i64 0] 8 (World.laidAll_os _ _ _) (World.shaped_of_ZipB (by kernel_rfl) (by kernel_rfl)) (by kernel_rfl) (by kernel_rfl) (by kernel_rfl)
      (by rw [MakeChecks.laidMetH_plain _ _ _ (by kernel_rfl)]; exact laidMet_laidAll _ (by kernel_rfl) (by kernel_rfl))) ?_
  intro W base args ds gs before hval0 hW _ _ hL _
  have hval : ∀ (j : Nat) t v, Tryd.f5.params[j]? = some t → args[j]? = some v → Value.okWide Tryd.prog W .any base t v := hval0
  have hL' : laidMet Tryd.prog Rows.ageBeforeRow.laid W := by rw [MakeChecks.laidMetH_plain _ _ _ (by kernel_rfl)] at hL; exact hL
  have hW' := hW
  obtain ⟨p, q, hA0, hV, rfl, hfz, hnd⟩ := hW
  have hA : DataW.TrodAll enc Tryd.prog W 0 (fun _ => true) true Tryd.f5.params.toList args.toList ds p := hA0
  rw [Tryd.params5] at hA hval
  obtain ⟨v0, vs1, d0, ds1, p0, q0, hargs, rfl, rfl, hd0, hA1⟩ := trodAll_cons hA
  obtain ⟨v1, vs2, d1, ds2, p1, q1, rfl, rfl, rfl, hd1, hA2⟩ := trodAll_cons hA1
  obtain ⟨v2, vs3, d2, ds3, p2, q2, rfl, rfl, rfl, hd2, hA3⟩ := trodAll_cons hA2
  obtain ⟨v3, vs4, d3, ds4, p3, q3, rfl, rfl, rfl, hd3, hA4⟩ := trodAll_cons hA3
  obtain ⟨rfl, rfl, rfl⟩ := trodAll_nil hA4
  obtain ⟨al⟩ := args
  simp only at hargs
  subst hargs
  obtain ⟨a, rfl, rfl, rfl, w1⟩ := open_int Tryd.underlying2 (hval 1 2 v1 rfl rfl) hd1
  obtain ⟨n, rfl, rfl, rfl, w2⟩ := open_int Tryd.underlying2 (hval 2 2 v2 rfl rfl) hd2
  obtain ⟨b, rfl, rfl, rfl, w3⟩ := open_int Tryd.underlying2 (hval 3 2 v3 rfl rfl) hd3
  obtain ⟨rfl, rfl⟩ := trodVars_none hV
  obtain ⟨hs, u, ent, addr, h1, h2, h3, h4, h5⟩ := open_headers (P := Tryd.prog) (W := W) Tryd.underlying46 Tryd.underlying56 (by kernel_rfl) (by kernel_rfl) (by kernel_rfl) (by kernel_rfl) (by kernel_rfl) (by kernel_rfl) (by kernel_rfl) (hval 0 46 v0 rfl rfl) hd0 12
  have hι : ∀ g, g < 12 → (fun id => if id = 12 then addr else (id, 0) : Inj) g = (g, 0) := fun g hg => by simp only; rw [if_neg (by omega)]
  have hlen : (startOf Tryd.prog Rows.ageBeforeRow.laid).length = 12 := by unfold startOf; rw [List.length_map, List.length_range, ab_nglob]
  have hlast : (startOf Tryd.prog Rows.ageBeforeRow.laid ++ [ent])[12]? = some ent := by rw [List.getElem?_append_right (by omega), hlen]; rfl
  have hok : ∀ id cs, (startOf Tryd.prog Rows.ageBeforeRow.laid ++ [ent])[id]? = some (some cs) → VsOk (Am.start (startOf Tryd.prog Rows.ageBeforeRow.laid ++ [ent])) cs ∧ BOk (fun id => if id = 12 then addr else (id, 0)) W.heap.size W id cs cs.length false := by
    intro id cs hid
    by_cases hlt : id < 12
    · rw [List.getElem?_append_left (by omega)] at hid
      exact startOf_ok (P := Tryd.prog) hL' (ι := fun id => if id = 12 then addr else (id, 0)) (fun g hg => hι g (by rw [ab_nglob] at hg; exact hg)) _ id cs hid
    · have e : id = 12 := by
        have := (List.getElem?_eq_some_iff.1 hid).1
        rw [List.length_append, hlen] at this
        simp at this
        omega
      subst e
      rw [hlast] at hid
      obtain ⟨k1, k2⟩ := h3 cs (Option.some.inj hid)
      refine ⟨?_, k2 _ _ (by simp)⟩
      rw [k1, VsOk_iff]
      intro x hx
      simp only [hcells, List.mem_flatMap, List.mem_cons, List.not_mem_nil, or_false] at hx
      obtain ⟨h, _, rfl | rfl⟩ := hx <;> trivial
  have hsz : (Am.start (startOf Tryd.prog Rows.ageBeforeRow.laid ++ [ent])).size = 13 := by rw [start_size, List.length_append, hlen]; rfl
  have hr := h5 (Am.start (startOf Tryd.prog Rows.ageBeforeRow.laid ++ [ent])) (fun cs hcs => start_cells (by rw [hlast, hcs]))
  have hcv : cvl (fun id => if id = 12 then addr else (id, 0)) [u, .int .i64 a, .int .i64 n, .int .i64 b] = [v0, .int .i64 a, .int .i64 n, .int .i64 b] := by
    simp only [cvl, h2 (fun id => if id = 12 then addr else (id, 0)) (by simp)]
    rfl
  have hrun := run_all (F := tabF) (E := tabE) (N := 9223372036854775808) (d := 40) (f := 5) (tab_ok _) (fun τ => ageBefore_run (by decide) hs h1 (ab_lit w1) (ab_lit w2) (ab_lit w3) u _ (start_wf (startOf Tryd.prog Rows.ageBeforeRow.laid ++ [ent])) hr τ)
  have hcall := call_true (P := Tryd.prog) mixed_ok (W := W) (defs_ok (all_ok W.heap.size W)) 9223372036854775808 40 5 [u, .int .i64 a, .int .i64 n, .int .i64 b] (startOf Tryd.prog Rows.ageBeforeRow.laid ++ [ent]) (fun id => if id = 12 then addr else (id, 0)) hok (fun g hg => hι g (by rw [ab_nglob] at hg; exact hg)) (by rw [ab_nglob, List.length_append, hlen]; simp) ⟨h4 _ (by rw [hsz]; decide), trivial, trivial, trivial, trivial⟩ hrun
  rw [hcv] at hcall
  refine hcall.mono fun e W' ⟨he, hb⟩ => ?_
  subst he
  exact ⟨_, rfl, law_post (P := Tryd.prog) ab_laidOut rfl rfl (by kernel_rfl) Tryd.underlying4 (by kernel_rfl) hW' hb⟩

theorem ageBefore_holds : Rows.AgeBeforeSaid :=
  OpenClaim.holds_of_wide 5 Tryd.f5 rfl rfl rfl rfl rfl rfl rfl ⟨rfl, rfl, rfl, rfl, rfl⟩ rfl rfl rfl rfl rfl (by kernel_rfl) Tryd.func5 (by kernel_rfl)
    (of_decide_eq_true (by kernel_rfl)) (by unfold Func.isWrapper; first | (rw [if_pos (by decide +kernel)]; kernel_rfl) | (rw [if_neg (by decide +kernel)]; exact ⟨rfl, rfl⟩))
    (fun os started H enc _ => ageBefore_lifted os started H enc)

theorem ageBefore_card : Rows.AgeBeforeCardSaid :=
  Claim7.holds_tied_plain_at .later [] _ true _ _
    ageBefore_holds (fun _ h => by cases h) (by kernel_rfl) (fun _ h => by cases h) ageBefore_row_tie rfl ⟨rfl, rfl⟩ (by kernel_rfl) rfl
    (fun f fn hf hfn => by
      obtain rfl : f = 5 := Option.some.inj ((show Tryd.prog.funcNamed "ostiary/ostiarylaw16.AgeBefore" = some 5 by kernel_rfl).symm.trans hf) |>.symm
      obtain rfl : fn = Tryd.f5 := (Option.some.inj (Tryd.func5.symm.trans hfn)).symm
      exact ⟨by kernel_rfl, fun j t ht => by
        rw [Tryd.params5] at ht
        have h46 : Tryd.prog.wantsStandIn 46 = false := by kernel_rfl
        have h2 : Tryd.prog.wantsStandIn 2 = false := by kernel_rfl
        rcases j with _ | _ | _ | _ | j
        · simp at ht; subst ht; exact h46
        · simp at ht; subst ht; exact h2
        · simp at ht; subst ht; exact h2
        · simp at ht; subst ht; exact h2
        · simp at ht⟩)
    (by kernel_rfl)
#print axioms ageBefore_card
end Go.Proofs.YtpfaceclaigpgaaDoor
