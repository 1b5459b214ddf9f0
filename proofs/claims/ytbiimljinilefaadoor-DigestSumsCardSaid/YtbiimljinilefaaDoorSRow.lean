/- DigestSums, for any number and texts of bytes: its call answers true; no condition of our own. -/
import Derived.Test.YtbiimljinilefaaDoorCards
import Derived.Test.YtbiimljinilefaaDoorTie
import Derived.ChangeSame
import Derived.ChangeVars
import Derived.JoinedOf
import Derived.RowKit
import Derived.LaidLaws
import Derived.LaidMore
import Derived.LaidHandle
import Derived.Lay
import Derived.ProofKit
import Derived.OpenShut
import Derived.Stop.Joined
import Derived.SevenTiedAt
import Derived.Test.YtbiimljinilefaaDoorSOk
import Derived.Test.YtbiimljinilefaaDoorSC19
import Derived.Test.YtbiimljinilefaaDoorSC18
namespace Go.Proofs.YtbiimljinilefaaDoor
open Go Go.Am Go.Am.AmTrydDig Go.ChangeShapes Go.WideShapes Go.RowKit
set_option maxRecDepth 1000000
theorem ds_own : ownKnob Tryd.prog.godebug = none := by kernel_rfl
theorem ds_laidOut : laidOutB Tryd.prog = true := by kernel_rfl
theorem ds_nglob : Tryd.prog.globals.size = 6 := by kernel_rfl
theorem ds_st : startOf Tryd.prog (Rows.digestSumsRow.laid.map fun x => (x.1, x.2)) = st0 := by kernel_rfl
theorem ds_st' : startOf Tryd.prog Rows.digestSumsRow.laid = st0 := ds_st
theorem digestSums_lifted (os : Os) (started : os.Started) (H : Type) (enc : TypeId × Value → H) :
    ReturnsInHanded {} Tryd.checked os 4 .any (fun w args => (Rows.digestSumsSpec.pre enc Tryd.prog Tryd.f4 [] false w args ∧ laidMetH Tryd.prog Rows.digestSumsRow.laid w) ∧ sizedMet enc Tryd.prog Tryd.f4 (OpenSpec.ofChange Rows.digestSumsSpec) false w args)
      (Rows.digestSumsSpec.post enc Tryd.prog Tryd.f4 false true false false) := by
  refine returnsInHanded_of_change_and (C := Tryd.checked) (X := fun w _ => laidMetH Tryd.prog Rows.digestSumsRow.laid w) (fun _ _ _ hh h => h.of_heap hh) ds_own started (by kernel_rfl) Tryd.func4
    (ChangeSpec.witness_shaped (enc := enc) (C := Tryd.checked) (os := os) (X := fun w _ => laidMetH Tryd.prog Rows.digestSumsRow.laid w) false (World.laidAll Tryd.prog os Rows.digestSumsRow.laid) #[.int .i64 0, .slice none 0 0, .slice none 0 0] 8 (World.laidAll_os _ _ _) (World.shaped_of_ZipB (by kernel_rfl) (by kernel_rfl)) (by kernel_rfl) (by kernel_rfl) (by kernel_rfl)
      (by rw [MakeChecks.laidMetH_plain _ _ _ (by kernel_rfl)]; exact laidMet_laidAll _ (by kernel_rfl) (by kernel_rfl))) ?_
  intro W base args ds gs before hval0 hW _ _ hL _
  have hval : ∀ (j : Nat) t v, Tryd.f4.params[j]? = some t → args[j]? = some v → Value.okWide Tryd.prog W .any base t v := hval0
  have hL' : laidMet Tryd.prog Rows.digestSumsRow.laid W := by rw [MakeChecks.laidMetH_plain _ _ _ (by kernel_rfl)] at hL; exact hL
  have hW' := hW
  obtain ⟨p, q, hA0, hV, rfl, hfz, hnd⟩ := hW
  have hA : DataW.TrodAll enc Tryd.prog W 0 (fun _ => true) true Tryd.f4.params.toList args.toList ds p := hA0
  rw [Tryd.params4] at hA hval
  obtain ⟨v0, vs1, d0, ds1, p0, q0, hargs, rfl, rfl, hd0, hA1⟩ := trodAll_cons hA
  obtain ⟨v1, vs2, d1, ds2, p1, q1, rfl, rfl, rfl, hd1, hA2⟩ := trodAll_cons hA1
  obtain ⟨v2, vs3, d2, ds3, p2, q2, rfl, rfl, rfl, hd2, hA3⟩ := trodAll_cons hA2
  obtain ⟨rfl, rfl, rfl⟩ := trodAll_nil hA3
  obtain ⟨al⟩ := args
  simp only at hargs
  subst hargs
  obtain ⟨a, rfl, rfl, rfl, w1⟩ := open_int Tryd.underlying3 (hval 0 3 v0 rfl rfl) hd0
  obtain ⟨rfl, rfl⟩ := trodVars_none hV
  obtain ⟨bs, u, ent, addr, h1, hx1, h2, h3, h4, h5, h6⟩ := open_bytes (P := Tryd.prog) (W := W) Tryd.underlying22 Tryd.underlying5 (by kernel_rfl) (hval 1 22 v1 rfl rfl) hd1 6
  obtain ⟨cs, u', ent', addr', h1', hx1', h2', h3', h4', h5', h6'⟩ := open_bytes (P := Tryd.prog) (W := W) Tryd.underlying22 Tryd.underlying5 (by kernel_rfl) (hval 2 22 v2 rfl rfl) hd2 7
  have hι : ∀ g, g < 6 → (fun id => if id = 6 then addr else if id = 7 then addr' else (id, 0) : Inj) g = (g, 0) := fun g hg => by simp only; rw [if_neg (by omega), if_neg (by omega)]
  have hlen : st0.length = 6 := by kernel_rfl
  have hlast : (st0 ++ [ent, ent'])[6]? = some ent := by rw [List.getElem?_append_right (by omega), hlen]; rfl
  have hlast' : (st0 ++ [ent, ent'])[7]? = some ent' := by rw [List.getElem?_append_right (by omega), hlen]; rfl
  have plain : ∀ (K : Heap) (l : List Nat), VsOk K (ws .u8 l) := fun K l => by
    rw [VsOk_iff]
    intro x hx
    obtain ⟨n, _, rfl⟩ := List.mem_map.1 hx
    trivial
  have hok : ∀ id xs, (st0 ++ [ent, ent'])[id]? = some (some xs) → VsOk (Am.start (st0 ++ [ent, ent'])) xs ∧ BOk (fun id => if id = 6 then addr else if id = 7 then addr' else (id, 0)) W.heap.size W id xs xs.length false := by
    intro id xs hid
    by_cases hlt : id < 6
    · rw [List.getElem?_append_left (by omega), ← ds_st'] at hid
      exact startOf_ok (P := Tryd.prog) hL' (ι := fun id => if id = 6 then addr else if id = 7 then addr' else (id, 0)) (fun g hg => hι g (by rw [ds_nglob] at hg; exact hg)) _ id xs hid
    · have hlt2 : id < 8 := by
        have := (List.getElem?_eq_some_iff.1 hid).1
        rw [List.length_append, hlen] at this
        simp at this
        omega
      by_cases e : id = 6
      · subst e
        rw [hlast] at hid
        obtain ⟨k1, k2⟩ := h3 xs (Option.some.inj hid)
        refine ⟨?_, k2 _ _ (by simp)⟩
        rw [k1]; exact plain _ _
      · obtain rfl : id = 7 := by omega
        rw [hlast'] at hid
        obtain ⟨k1, k2⟩ := h3' xs (Option.some.inj hid)
        refine ⟨?_, k2 _ _ (by simp)⟩
        rw [k1]; exact plain _ _
  have hsz : (Am.start (st0 ++ [ent, ent'])).size = 8 := by rw [start_size, List.length_append, hlen]; rfl
  have hr := h6 (Am.start (st0 ++ [ent, ent'])) (fun xs hxs => start_cells (by rw [hlast, hxs]))
  have hr' := h6' (Am.start (st0 ++ [ent, ent'])) (fun xs hxs => start_cells (by rw [hlast', hxs]))
  have hl0 : Laid0 (Am.start (st0 ++ [ent, ent'])) := fun j xs hj => start_cells (by
    rw [List.getElem?_append_left ((List.getElem?_eq_some_iff.1 hj).1)]; exact hj)
  have hcv : cvl (fun id => if id = 6 then addr else if id = 7 then addr' else (id, 0)) [.int .i64 a, u, u'] = [.int .i64 a, v1, v2] := by
    simp only [cvl, h2 (fun id => if id = 6 then addr else if id = 7 then addr' else (id, 0)) (by simp), h2' (fun id => if id = 6 then addr else if id = 7 then addr' else (id, 0)) (by simp)]
    rfl
  have hrun := run_all (F := tabF) (E := tabE) (N := 9223372036854775808) (d := 40) (f := 4) (tab_ok _) (fun τ => digestSums_run (by decide) a u u' bs.length bs cs rfl hx1 hx1' h5 _ (start_wf (st0 ++ [ent, ent'])) hl0 hr.1 hr.2 hr'.1 hr'.2 τ)
  have hcall := call_true (P := Tryd.prog) mixed_ok (W := W) (defs_ok (all_ok W.heap.size W)) 9223372036854775808 40 4 [.int .i64 a, u, u'] (st0 ++ [ent, ent']) (fun id => if id = 6 then addr else if id = 7 then addr' else (id, 0)) hok (fun g hg => hι g (by rw [ds_nglob] at hg; exact hg)) (by rw [ds_nglob, List.length_append, hlen]; simp) ⟨trivial, h4 _ (by rw [hsz]; decide), h4' _ (by rw [hsz]; decide), trivial⟩ hrun
  rw [hcv] at hcall
  refine hcall.mono fun e W' ⟨he, hb⟩ => ?_
  subst he
  exact ⟨_, rfl, law_post (P := Tryd.prog) ds_laidOut rfl rfl (by kernel_rfl) Tryd.underlying4 (by kernel_rfl) hW' hb⟩

theorem digestSums_holds : Rows.DigestSumsSaid :=
  OpenClaim.holds_of_wide 4 Tryd.f4 rfl rfl rfl rfl rfl rfl rfl ⟨rfl, rfl, rfl, rfl, rfl⟩ rfl rfl rfl rfl rfl (by kernel_rfl) Tryd.func4 (by kernel_rfl)
    (of_decide_eq_true (by kernel_rfl)) (by unfold Func.isWrapper; first | (rw [if_pos (by decide +kernel)]; kernel_rfl) | (rw [if_neg (by decide +kernel)]; exact ⟨rfl, rfl⟩))
    (fun os started H enc _ => digestSums_lifted os started H enc)

theorem digestSums_card : Rows.DigestSumsCardSaid :=
  Claim7.holds_tied_plain_at .later [] _ true _ _
    digestSums_holds (fun _ h => by cases h) (by kernel_rfl) (fun _ h => by cases h) digestSums_row_tie rfl ⟨rfl, rfl⟩ (by kernel_rfl) rfl
    (fun f fn hf hfn => by
      obtain rfl : f = 4 := Option.some.inj ((show Tryd.prog.funcNamed "ostiary/ostiarylaw8.DigestSums" = some 4 by kernel_rfl).symm.trans hf) |>.symm
      obtain rfl : fn = Tryd.f4 := (Option.some.inj (Tryd.func4.symm.trans hfn)).symm
      exact ⟨by kernel_rfl, fun j t ht => by
        rw [Tryd.params4] at ht
        have h3 : Tryd.prog.wantsStandIn 3 = false := by kernel_rfl
        have h22 : Tryd.prog.wantsStandIn 22 = false := by kernel_rfl
        rcases j with _ | _ | _ | j
        · simp at ht; subst ht; exact h3
        · simp at ht; subst ht; exact h22
        · simp at ht; subst ht; exact h22
        · simp at ht⟩)
    (by kernel_rfl)
#print axioms digestSums_card
end Go.Proofs.YtbiimljinilefaaDoor
