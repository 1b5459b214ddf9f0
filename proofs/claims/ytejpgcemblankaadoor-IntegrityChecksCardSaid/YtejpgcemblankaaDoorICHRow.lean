/- IntegrityChecks, for any inputs: its call answers true; no condition of our own. -/
import Derived.Test.YtejpgcemblankaaDoorCards
import Derived.Test.YtejpgcemblankaaDoorTie
import Derived.ChangeSame
import Derived.ChangeVars
import Derived.JoinedOf
import Derived.RowKit
import Derived.LaidLaws
import Derived.LaidMore
import Derived.LaidHandle
import Derived.Lay
import Derived.ProofKit
import Derived.OpenShut
import Derived.Stop.Joined
import Derived.SevenTiedAt
import Derived.SizedLaws
import Derived.Test.YtejpgcemblankaaDoorICHOk
import Derived.Test.YtejpgcemblankaaDoorICHL0
import Derived.Test.YtejpgcemblankaaDoorICHL11
import Derived.Test.YtejpgcemblankaaDoorICHM4
namespace Go.Proofs.YtejpgcemblankaaDoor
open Go Go.Am Go.Am.X Go.ChangeShapes Go.WideShapes Go.RowKit
set_option maxRecDepth 1000000
theorem ich_own : ownKnob Tryd.prog.godebug = none := by kernel_rfl
theorem ich_laidOut : laidOutB Tryd.prog = true := by kernel_rfl
theorem zOT : Tryd.prog.globals.size = 10 := by kernel_rfl
theorem zL0 (os : Os) (started : os.Started) (H : Type) (enc : TypeId × Value → H) :
    ReturnsInHanded {} Tryd.checked os 3 .any (fun w args => (Rows.integrityChecksSpec.pre enc Tryd.prog Tryd.f3 [] false w args ∧ laidMetH Tryd.prog Rows.integrityChecksRow.laid w) ∧ sizedMet enc Tryd.prog Tryd.f3 (OpenSpec.ofChange Rows.integrityChecksSpec) false w args)
      (Rows.integrityChecksSpec.post enc Tryd.prog Tryd.f3 false true false false) := by
  refine returnsInHanded_of_change_and (C := Tryd.checked) (X := fun w _ => laidMetH Tryd.prog Rows.integrityChecksRow.laid w) (fun _ _ _ hh h => h.of_heap hh) ich_own started (by kernel_rfl) Tryd.func3
    (ChangeSpec.witness_shaped (enc := enc) (C := Tryd.checked) (os := os) (X := fun w _ => laidMetH Tryd.prog Rows.integrityChecksRow.laid w) false (World.laidAll Tryd.prog os Rows.integrityChecksRow.laid) #[.string ⟨#[]⟩, .slice none 0 0] 8 (World.laidAll_os _ _ _) (World.shaped_of_ZipB (by kernel_rfl) (by kernel_rfl)) (by kernel_rfl) (by kernel_rfl) (by kernel_rfl)
      (by rw [MakeChecks.laidMetH_plain _ _ _ (by kernel_rfl)]; exact laidMet_laidAll _ (by kernel_rfl) (by kernel_rfl))) ?_
  intro W base args ds gs before hval0 hW _ hWt hL _
  have hval : ∀ (j : Nat) t v, Tryd.f3.params[j]? = some t → args[j]? = some v → Value.okWide Tryd.prog W .any base t v := hval0
  have hL' : laidMet Tryd.prog Rows.integrityChecksRow.laid W := by rw [MakeChecks.laidMetH_plain _ _ _ (by kernel_rfl)] at hL; exact hL
  have hW' := hW
  obtain ⟨p, q, hA0, hV, rfl, hfz, hnd⟩ := hW
  have hA : DataW.TrodAll enc Tryd.prog W 0 (fun _ => true) true Tryd.f3.params.toList args.toList ds p := hA0
  rw [Tryd.params3] at hA hval hWt
  obtain ⟨v0, vs1, d0, ds1, p0, q0, hargs, rfl, rfl, hd0, hA1⟩ := trodAll_cons hA
  obtain ⟨v1, vs2, d1, ds2, p1, q1, rfl, rfl, rfl, hd1, hA2⟩ := trodAll_cons hA1
  obtain ⟨rfl, rfl, rfl⟩ := trodAll_nil hA2
  obtain ⟨al⟩ := args
  simp only at hargs
  subst hargs
  obtain ⟨rfl, rfl⟩ := trodVars_none hV
  obtain ⟨y0, rfl, rfl, rfl, w0⟩ := Go.ChangeMaps.open_string Tryd.underlying9 (hval 0 9 v0 rfl rfl) hd0
  have z0 : y0.data.toList.length ≤ 140737488351232 := sized_string hWt (j := 0) (t := 9) rfl rfl
  obtain ⟨ss1, u1, ent1, addr1, hs1_1, hs2_1, h2_1, h3_1, h4_1, h6_1, h5_1⟩ := open_bytes (P := Tryd.prog) (W := W) Tryd.underlying22 Tryd.underlying5 (by kernel_rfl) (hval 1 22 v1 rfl rfl) hd1 10
  have hlen : (zKZ Tryd.prog Rows.integrityChecksRow.laid).length = 10 := by unfold zKZ; rw [List.length_map, List.length_range, zOT]
  have hι : ∀ g, g < 10 → (fun id => if id = 10 then addr1 else (id, 0) : Inj) g = (g, 0) := fun g hg => by simp only; rw [if_neg (by omega)]
  have hlast1 : (zKZ Tryd.prog Rows.integrityChecksRow.laid ++ [ent1])[10]? = some ent1 := by rw [List.getElem?_append_right (by omega), hlen]; rfl
  have hok : ∀ id cs, (zKZ Tryd.prog Rows.integrityChecksRow.laid ++ [ent1])[id]? = some (some cs) → VsOk (Am.start (zKZ Tryd.prog Rows.integrityChecksRow.laid ++ [ent1])) cs ∧ BOk (fun id => if id = 10 then addr1 else (id, 0)) W.heap.size W id cs cs.length false := by
    intro id cs hid
    by_cases hlt : id < 10
    · rw [List.getElem?_append_left (by omega)] at hid
      exact startOf_ok (P := Tryd.prog) hL' (ι := fun id => if id = 10 then addr1 else (id, 0)) (fun g hg => hι g (by rw [zOT] at hg; exact hg)) _ id cs hid
    · have hlt2 : id < 11 := by
        have := (List.getElem?_eq_some_iff.1 hid).1
        rw [List.length_append, hlen] at this
        simp at this
        omega
      obtain rfl : id = 10 := by omega
      rw [hlast1] at hid
      obtain ⟨k1, k2⟩ := h3_1 cs (Option.some.inj hid)
      refine ⟨?_, k2 _ _ (by simp)⟩
      rw [k1, zh]
      intro x hx
      obtain ⟨n, _, rfl⟩ := List.mem_map.1 hx
      trivial
  have hsz : (Am.start (zKZ Tryd.prog Rows.integrityChecksRow.laid ++ [ent1])).size = 11 := by rw [zO2, List.length_append, hlen]; rfl
  have hr1 := h5_1 (Am.start (zKZ Tryd.prog Rows.integrityChecksRow.laid ++ [ent1])) (fun cs hcs => zPn (by rw [hlast1, hcs]))
  have hcv : cvl (fun id => if id = 10 then addr1 else (id, 0)) [.str y0.data.toList, u1] = [.string y0, v1] := by
    simp only [cvl, h2_1 (fun id => if id = 10 then addr1 else (id, 0)) (by simp)]
    try rfl
  have hcall := law_true (P := Tryd.prog) (f := 3) (W := W) (zOb (baseOf W) W) [.str y0.data.toList, u1] (zKZ Tryd.prog Rows.integrityChecksRow.laid ++ [ent1]) (fun id => if id = 10 then addr1 else (id, 0)) hok (fun g hg => hι g (by rw [zOT] at hg; exact hg)) (by rw [zOT, List.length_append, hlen]; simp) ⟨trivial, h4_1 _ (by rw [hsz]; decide), trivial⟩ (fun τ => zNs hs2_1 hr1 h6_1 (tabs_startG (by kernel_rfl)) τ)
  rw [hcv] at hcall
  refine hcall.mono fun e W' ⟨he, hb⟩ => ?_
  subst he
  exact ⟨_, rfl, law_post (P := Tryd.prog) ich_laidOut rfl rfl (by kernel_rfl) Tryd.underlying4 (by kernel_rfl) hW' hb⟩

theorem zOP : jA Tryd.prog Tryd.f3 Rows.integrityChecksSpec Rows.integrityChecksRow = true := by kernel_rfl
theorem zNo : jB Tryd.prog 3 Rows.integrityChecksRow = true := by kernel_rfl
theorem zOX : jC Tryd.prog 3 Rows.integrityChecksRow = true := by kernel_rfl
theorem zOK : jD Tryd.prog 3 Rows.integrityChecksRow = true := by kernel_rfl
theorem zOR : jE Tryd.prog 3 Rows.integrityChecksRow = true := by kernel_rfl
theorem zNt : jF Tryd.prog Tryd.f3 Rows.integrityChecksSpec Rows.integrityChecksRow = true := by kernel_rfl
theorem zN0 : jG Tryd.prog = true := by kernel_rfl
theorem zOa : jH Tryd.prog = true := by kernel_rfl
theorem zOY : jI Tryd.prog Tryd.f3 Rows.integrityChecksSpec Rows.integrityChecksRow = true := by kernel_rfl
theorem zMN : Rows.IntegrityChecksSaid :=
  OpenClaim.holds_of_wide 3 Tryd.f3 rfl rfl rfl rfl rfl rfl rfl ⟨rfl, rfl, rfl, rfl, rfl⟩ rfl rfl rfl rfl rfl (by kernel_rfl) Tryd.func3 (joined_of (P := Tryd.prog) (f := 3) (fn := Tryd.f3) (s := Rows.integrityChecksSpec) (c := Rows.integrityChecksRow) zOP zNo zOX zOK zOR zNt zN0 zOa zOY)
    (of_decide_eq_true (by kernel_rfl)) (by unfold Func.isWrapper; first | (rw [if_pos (by decide +kernel)]; kernel_rfl) | (rw [if_neg (by decide +kernel)]; exact ⟨rfl, rfl⟩))
    (fun os started H enc _ => zL0 os started H enc)

theorem integrityChecks_card : Rows.IntegrityChecksCardSaid :=
  Claim7.holds_tied_plain_at .later [] _ true _ _
    zMN (fun _ h => by cases h) (by kernel_rfl) (fun _ h => by cases h) integrityChecks_row_tie rfl ⟨rfl, rfl⟩ (by kernel_rfl) rfl
    (fun f fn hf hfn => by
      obtain rfl : f = 3 := Option.some.inj ((show Tryd.prog.funcNamed "ostiary/ostiarylaw9.IntegrityChecks" = some 3 by kernel_rfl).symm.trans hf) |>.symm
      obtain rfl : fn = Tryd.f3 := (Option.some.inj (Tryd.func3.symm.trans hfn)).symm
      exact ⟨by kernel_rfl, fun j t ht => by
        rw [Tryd.params3] at ht
        have h9 : Tryd.prog.wantsStandIn 9 = false := by kernel_rfl
        have h22 : Tryd.prog.wantsStandIn 22 = false := by kernel_rfl
        rcases j with _ | _ | j
        · simp at ht; subst ht; exact h9
        · simp at ht; subst ht; exact h22
        · simp at ht⟩)
    (by kernel_rfl)
#print axioms integrityChecks_card
end Go.Proofs.YtejpgcemblankaaDoor
