/- CacheKept, for any inputs: its call answers true; no condition of our own. -/
import Derived.Test.YtejpgcemblankaaGreatDoorCards
import Derived.Test.YtejpgcemblankaaGreatDoorTie
import Derived.ChangeSame
import Derived.ChangeVars
import Derived.JoinedOf
import Derived.RowKit
import Derived.LaidLaws
import Derived.LaidMore
import Derived.LaidHandle
import Derived.Lay
import Derived.ProofKit
import Derived.OpenShut
import Derived.Stop.Joined
import Derived.SevenTiedAt
import Derived.SizedLaws
import Derived.Test.YtejpgcemblankaaGreatDoorCKPOk
import Derived.Test.YtejpgcemblankaaGreatDoorCKPL0
import Derived.Test.YtejpgcemblankaaGreatDoorCKPL10
import Derived.Test.YtejpgcemblankaaGreatDoorCKPM5
namespace Go.Proofs.YtejpgcemblankaaGreatDoor
open Go Go.Am Go.Am.X Go.ChangeShapes Go.WideShapes Go.RowKit
set_option maxRecDepth 1000000
theorem ckp_own : ownKnob Tryz.prog.godebug = none := by kernel_rfl
theorem ckp_laidOut : laidOutB Tryz.prog = true := by kernel_rfl
theorem zP3 : Tryz.prog.globals.size = 6 := by kernel_rfl
theorem zQ6 (os : Os) (started : os.Started) (H : Type) (enc : TypeId × Value → H) :
    ReturnsInHanded {} Tryz.checked os 7 .any (fun w args => (Rows.cacheKeptSpec.pre enc Tryz.prog Tryz.f7 [] false w args ∧ laidMetH Tryz.prog Rows.cacheKeptRow.laid w) ∧ sizedMet enc Tryz.prog Tryz.f7 (OpenSpec.ofChange Rows.cacheKeptSpec) false w args)
      (Rows.cacheKeptSpec.post enc Tryz.prog Tryz.f7 false true false false) := by
  refine returnsInHanded_of_change_and (C := Tryz.checked) (X := fun w _ => laidMetH Tryz.prog Rows.cacheKeptRow.laid w) (fun _ _ _ hh h => h.of_heap hh) ckp_own started (by kernel_rfl) Tryz.func7
    (ChangeSpec.witness_shaped (enc := enc) (C := Tryz.checked) (os := os) (X := fun w _ => laidMetH Tryz.prog Rows.cacheKeptRow.laid w) false (World.laidAll Tryz.prog os Rows.cacheKeptRow.laid) #[.slice none 0 0] 8 (World.laidAll_os _ _ _) (World.shaped_of_ZipB (by kernel_rfl) (by kernel_rfl)) (by kernel_rfl) (by kernel_rfl) (by kernel_rfl)
      (by rw [MakeChecks.laidMetH_plain _ _ _ (by kernel_rfl)]; exact laidMet_laidAll _ (by kernel_rfl) (by kernel_rfl))) ?_
  intro W base args ds gs before hval0 hW _ hWt hL _
  have hval : ∀ (j : Nat) t v, Tryz.f7.params[j]? = some t → args[j]? = some v → Value.okWide Tryz.prog W .any base t v := hval0
  have hL' : laidMet Tryz.prog Rows.cacheKeptRow.laid W := by rw [MakeChecks.laidMetH_plain _ _ _ (by kernel_rfl)] at hL; exact hL
  have hW' := hW
  obtain ⟨p, q, hA0, hV, rfl, hfz, hnd⟩ := hW
  have hA : DataW.TrodAll enc Tryz.prog W 0 (fun _ => true) true Tryz.f7.params.toList args.toList ds p := hA0
  rw [Tryz.params7] at hA hval hWt
  obtain ⟨v0, vs1, d0, ds1, p0, q0, hargs, rfl, rfl, hd0, hA1⟩ := trodAll_cons hA
  obtain ⟨rfl, rfl, rfl⟩ := trodAll_nil hA1
  obtain ⟨al⟩ := args
  simp only at hargs
  subst hargs
  obtain ⟨rfl, rfl⟩ := trodVars_none hV
  obtain ⟨ss0, u0, ent0, addr0, hs1_0, hs2_0, h2_0, h3_0, h4_0, h6_0, h5_0⟩ := open_bytes (P := Tryz.prog) (W := W) Tryz.underlying28 Tryz.underlying5 (by kernel_rfl) (hval 0 28 v0 rfl rfl) hd0 6
  have hlen : (zLa Tryz.prog Rows.cacheKeptRow.laid).length = 6 := by unfold zLa; rw [List.length_map, List.length_range, zP3]
  have hU : ∀ g, g < 6 → (fun id => if id = 6 then addr0 else (id, 0) : Inj) g = (g, 0) := fun g hg => by simp only; rw [if_neg (by omega)]
  have hlast0 : (zLa Tryz.prog Rows.cacheKeptRow.laid ++ [ent0])[6]? = some ent0 := by rw [List.getElem?_append_right (by omega), hlen]; rfl
  have hok : ∀ id cs, (zLa Tryz.prog Rows.cacheKeptRow.laid ++ [ent0])[id]? = some (some cs) → VsOk (Am.start (zLa Tryz.prog Rows.cacheKeptRow.laid ++ [ent0])) cs ∧ BOk (fun id => if id = 6 then addr0 else (id, 0)) W.heap.size W id cs cs.length false := by
    intro id cs hid
    by_cases hlt : id < 6
    · rw [List.getElem?_append_left (by omega)] at hid
      exact startOf_ok (P := Tryz.prog) hL' (U := fun id => if id = 6 then addr0 else (id, 0)) (fun g hg => hU g (by rw [zP3] at hg; exact hg)) _ id cs hid
    · have hlt2 : id < 7 := by
        have := (List.getElem?_eq_some_iff.1 hid).1
        rw [List.length_append, hlen] at this
        simp at this
        omega
      obtain rfl : id = 6 := by omega
      rw [hlast0] at hid
      obtain ⟨k1, k2⟩ := h3_0 cs (Option.some.inj hid)
      refine ⟨?_, k2 _ _ (by simp)⟩
      rw [k1, zz]
      intro x hx
      obtain ⟨n, _, rfl⟩ := List.mem_map.1 hx
      trivial
  have hsz : (Am.start (zLa Tryz.prog Rows.cacheKeptRow.laid ++ [ent0])).size = 7 := by rw [zQQ, List.length_append, hlen]; rfl
  have hr0 := h5_0 (Am.start (zLa Tryz.prog Rows.cacheKeptRow.laid ++ [ent0])) (fun cs hcs => start_cells (by rw [hlast0, hcs]))
  have hcv : cvl (fun id => if id = 6 then addr0 else (id, 0)) [u0] = [v0] := by
    simp only [cvl, h2_0 (fun id => if id = 6 then addr0 else (id, 0)) (by simp)]
    try rfl
  have hcall := law_true (P := Tryz.prog) (f := 7) (W := W) (cacheKept_ok (baseOf W) W) [u0] (zLa Tryz.prog Rows.cacheKeptRow.laid ++ [ent0]) (fun id => if id = 6 then addr0 else (id, 0)) hok (fun g hg => hU g (by rw [zP3] at hg; exact hg)) (by rw [zP3, List.length_append, hlen]; simp) ⟨h4_0 _ (by rw [hsz]; decide), trivial⟩ (fun Z => cacheKept_in hr0 h6_0 Z)
  rw [hcv] at hcall
  refine hcall.mono fun e W' ⟨he, hb⟩ => ?_
  subst he
  exact ⟨_, rfl, law_post (P := Tryz.prog) ckp_laidOut rfl rfl (by kernel_rfl) Tryz.underlying4 (by kernel_rfl) hW' hb⟩

theorem cacheKept_jA : jA Tryz.prog Tryz.f7 Rows.cacheKeptSpec Rows.cacheKeptRow = true := by kernel_rfl
theorem cacheKept_jB : jB Tryz.prog 7 Rows.cacheKeptRow = true := by kernel_rfl
theorem cacheKept_jC : jC Tryz.prog 7 Rows.cacheKeptRow = true := by kernel_rfl
theorem cacheKept_jD : jD Tryz.prog 7 Rows.cacheKeptRow = true := by kernel_rfl
theorem cacheKept_jE : jE Tryz.prog 7 Rows.cacheKeptRow = true := by kernel_rfl
theorem cacheKept_jF : jF Tryz.prog Tryz.f7 Rows.cacheKeptSpec Rows.cacheKeptRow = true := by kernel_rfl
theorem cacheKept_jG : jG Tryz.prog = true := by kernel_rfl
theorem cacheKept_jH : jH Tryz.prog = true := by kernel_rfl
theorem cacheKept_jI : jI Tryz.prog Tryz.f7 Rows.cacheKeptSpec Rows.cacheKeptRow = true := by kernel_rfl
theorem zRf : Rows.CacheKeptSaid :=
  OpenClaim.holds_of_wide 7 Tryz.f7 rfl rfl rfl rfl rfl rfl rfl ⟨rfl, rfl, rfl, rfl, rfl⟩ rfl rfl rfl rfl rfl (by kernel_rfl) Tryz.func7 (joined_of (P := Tryz.prog) (f := 7) (fn := Tryz.f7) (s := Rows.cacheKeptSpec) (c := Rows.cacheKeptRow) cacheKept_jA cacheKept_jB cacheKept_jC cacheKept_jD cacheKept_jE cacheKept_jF cacheKept_jG cacheKept_jH cacheKept_jI)
    (of_decide_eq_true (by kernel_rfl)) (by unfold Func.isWrapper; first | (rw [if_pos (by decide +kernel)]; kernel_rfl) | (rw [if_neg (by decide +kernel)]; exact ⟨rfl, rfl⟩))
    (fun os started H enc _ => zQ6 os started H enc)

theorem cacheKept_card : Rows.CacheKeptCardSaid :=
  Claim7.holds_tied_plain_at .later [] _ true _ _
    zRf (fun _ h => by cases h) (by kernel_rfl) (fun _ h => by cases h) cacheKept_row_tie rfl ⟨rfl, rfl⟩ (by kernel_rfl) rfl
    (fun f fn hf hfn => by
      obtain rfl : f = 7 := Option.some.inj ((show Tryz.prog.funcNamed "ostiary/ostiarylaw17.CacheKept" = some 7 by kernel_rfl).symm.trans hf) |>.symm
      obtain rfl : fn = Tryz.f7 := (Option.some.inj (Tryz.func7.symm.trans hfn)).symm
      exact ⟨by kernel_rfl, fun j t ht => by
        rw [Tryz.params7] at ht
        have h28 : Tryz.prog.wantsStandIn 28 = false := by kernel_rfl
        rcases j with _ | j
        · simp at ht; subst ht; exact h28
        · simp at ht⟩)
    (by kernel_rfl)
#print axioms cacheKept_card
end Go.Proofs.YtejpgcemblankaaGreatDoor
