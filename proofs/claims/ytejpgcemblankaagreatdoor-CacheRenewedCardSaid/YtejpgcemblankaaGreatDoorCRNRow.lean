/- CacheRenewed, for any inputs: its call answers true; no condition of our own. -/
import Derived.Test.YtejpgcemblankaaGreatDoorCards
import Derived.Test.YtejpgcemblankaaGreatDoorTie
import Derived.ChangeSame
import Derived.ChangeVars
import Derived.JoinedOf
import Derived.RowKit
import Derived.LaidLaws
import Derived.LaidMore
import Derived.LaidHandle
import Derived.Lay
import Derived.ProofKit
import Derived.OpenShut
import Derived.Stop.Joined
import Derived.SevenTiedAt
import Derived.SizedLaws
import Derived.Test.YtejpgcemblankaaGreatDoorCRNOk
import Derived.Test.YtejpgcemblankaaGreatDoorCRNL0
import Derived.Test.YtejpgcemblankaaGreatDoorCRNL9
import Derived.Test.YtejpgcemblankaaGreatDoorCRNM4
namespace Go.Proofs.YtejpgcemblankaaGreatDoor
open Go Go.Am Go.Am.X Go.ChangeShapes Go.WideShapes Go.RowKit
set_option maxRecDepth 1000000
theorem crn_own : ownKnob Tryz.prog.godebug = none := by kernel_rfl
theorem crn_laidOut : laidOutB Tryz.prog = true := by kernel_rfl
theorem zPc : Tryz.prog.globals.size = 6 := by kernel_rfl
theorem zPC (os : Os) (started : os.Started) (H : Type) (enc : TypeId × Value → H) :
    ReturnsInHanded {} Tryz.checked os 8 .any (fun w args => (Rows.cacheRenewedSpec.pre enc Tryz.prog Tryz.f8 [] false w args ∧ laidMetH Tryz.prog Rows.cacheRenewedRow.laid w) ∧ sizedMet enc Tryz.prog Tryz.f8 (OpenSpec.ofChange Rows.cacheRenewedSpec) false w args)
      (Rows.cacheRenewedSpec.post enc Tryz.prog Tryz.f8 false true false false) := by
  refine returnsInHanded_of_change_and (C := Tryz.checked) (X := fun w _ => laidMetH Tryz.prog Rows.cacheRenewedRow.laid w) (fun _ _ _ hh h => h.of_heap hh) crn_own started (by kernel_rfl) Tryz.func8
    (ChangeSpec.witness_shaped (enc := enc) (C := Tryz.checked) (os := os) (X := fun w _ => laidMetH Tryz.prog Rows.cacheRenewedRow.laid w) false (World.laidAll Tryz.prog os Rows.cacheRenewedRow.laid) #[.slice none 0 0, .int .i64 0, .int .i64 0] 8 (World.laidAll_os _ _ _) (World.shaped_of_ZipB (by kernel_rfl) (by kernel_rfl)) (by kernel_rfl) (by kernel_rfl) (by kernel_rfl)
      (by rw [MakeChecks.laidMetH_plain _ _ _ (by kernel_rfl)]; exact laidMet_laidAll _ (by kernel_rfl) (by kernel_rfl))) ?_
  intro W base args ds gs before hval0 hW _ hWt hL _
  have hval : ∀ (j : Nat) t v, Tryz.f8.params[j]? = some t → args[j]? = some v → Value.okWide Tryz.prog W .any base t v := hval0
  have hL' : laidMet Tryz.prog Rows.cacheRenewedRow.laid W := by rw [MakeChecks.laidMetH_plain _ _ _ (by kernel_rfl)] at hL; exact hL
  have hW' := hW
  obtain ⟨p, q, hA0, hV, rfl, hfz, hnd⟩ := hW
  have hA : DataW.TrodAll enc Tryz.prog W 0 (fun _ => true) true Tryz.f8.params.toList args.toList ds p := hA0
  rw [Tryz.params8] at hA hval hWt
  obtain ⟨v0, vs1, d0, ds1, p0, q0, hargs, rfl, rfl, hd0, hA1⟩ := trodAll_cons hA
  obtain ⟨v1, vs2, d1, ds2, p1, q1, rfl, rfl, rfl, hd1, hA2⟩ := trodAll_cons hA1
  obtain ⟨v2, vs3, d2, ds3, p2, q2, rfl, rfl, rfl, hd2, hA3⟩ := trodAll_cons hA2
  obtain ⟨rfl, rfl, rfl⟩ := trodAll_nil hA3
  obtain ⟨al⟩ := args
  simp only at hargs
  subst hargs
  obtain ⟨rfl, rfl⟩ := trodVars_none hV
  obtain ⟨ss0, u0, ent0, addr0, hs1_0, hs2_0, h2_0, h3_0, h4_0, h6_0, h5_0⟩ := open_bytes (P := Tryz.prog) (W := W) Tryz.underlying28 Tryz.underlying5 (by kernel_rfl) (hval 0 28 v0 rfl rfl) hd0 6
  obtain ⟨x1, rfl, rfl, rfl, w1⟩ := open_int Tryz.underlying2 (hval 1 2 v1 rfl rfl) hd1
  obtain ⟨x2, rfl, rfl, rfl, w2⟩ := open_int Tryz.underlying2 (hval 2 2 v2 rfl rfl) hd2
  have hlen : (zLT Tryz.prog Rows.cacheRenewedRow.laid).length = 6 := by unfold zLT; rw [List.length_map, List.length_range, zPc]
  have hU : ∀ g, g < 6 → (fun id => if id = 6 then addr0 else (id, 0) : Inj) g = (g, 0) := fun g hg => by simp only; rw [if_neg (by omega)]
  have hlast0 : (zLT Tryz.prog Rows.cacheRenewedRow.laid ++ [ent0])[6]? = some ent0 := by rw [List.getElem?_append_right (by omega), hlen]; rfl
  have hok : ∀ id cs, (zLT Tryz.prog Rows.cacheRenewedRow.laid ++ [ent0])[id]? = some (some cs) → VsOk (Am.start (zLT Tryz.prog Rows.cacheRenewedRow.laid ++ [ent0])) cs ∧ BOk (fun id => if id = 6 then addr0 else (id, 0)) W.heap.size W id cs cs.length false := by
    intro id cs hid
    by_cases hlt : id < 6
    · rw [List.getElem?_append_left (by omega)] at hid
      exact startOf_ok (P := Tryz.prog) hL' (U := fun id => if id = 6 then addr0 else (id, 0)) (fun g hg => hU g (by rw [zPc] at hg; exact hg)) _ id cs hid
    · have hlt2 : id < 7 := by
        have := (List.getElem?_eq_some_iff.1 hid).1
        rw [List.length_append, hlen] at this
        simp at this
        omega
      obtain rfl : id = 6 := by omega
      rw [hlast0] at hid
      obtain ⟨k1, k2⟩ := h3_0 cs (Option.some.inj hid)
      refine ⟨?_, k2 _ _ (by simp)⟩
      rw [k1, zi]
      intro x hx
      obtain ⟨n, _, rfl⟩ := List.mem_map.1 hx
      trivial
  have hsz : (Am.start (zLT Tryz.prog Rows.cacheRenewedRow.laid ++ [ent0])).size = 7 := by rw [zQF, List.length_append, hlen]; rfl
  have hr0 := h5_0 (Am.start (zLT Tryz.prog Rows.cacheRenewedRow.laid ++ [ent0])) (fun cs hcs => zRG (by rw [hlast0, hcs]))
  have hcv : cvl (fun id => if id = 6 then addr0 else (id, 0)) [u0, .int .i64 x1, .int .i64 x2] = [v0, .int .i64 x1, .int .i64 x2] := by
    simp only [cvl, h2_0 (fun id => if id = 6 then addr0 else (id, 0)) (by simp)]
    try rfl
  have hcall := law_true (P := Tryz.prog) (f := 8) (W := W) (zRc (baseOf W) W) [u0, .int .i64 x1, .int .i64 x2] (zLT Tryz.prog Rows.cacheRenewedRow.laid ++ [ent0]) (fun id => if id = 6 then addr0 else (id, 0)) hok (fun g hg => hU g (by rw [zPc] at hg; exact hg)) (by rw [zPc, List.length_append, hlen]; simp) ⟨h4_0 _ (by rw [hsz]; decide), trivial, trivial, trivial⟩ (fun Z => zRd hr0 h6_0 _ _ (tabs_start (by rw [List.getElem?_append_left (by rw [hlen]; decide)]; kernel_rfl)) Z)
  rw [hcv] at hcall
  refine hcall.mono fun e W' ⟨he, hb⟩ => ?_
  subst he
  exact ⟨_, rfl, law_post (P := Tryz.prog) crn_laidOut rfl rfl (by kernel_rfl) Tryz.underlying4 (by kernel_rfl) hW' hb⟩

theorem zRW : jA Tryz.prog Tryz.f8 Rows.cacheRenewedSpec Rows.cacheRenewedRow = true := by kernel_rfl
theorem zRi : jB Tryz.prog 8 Rows.cacheRenewedRow = true := by kernel_rfl
theorem zRu : jC Tryz.prog 8 Rows.cacheRenewedRow = true := by kernel_rfl
theorem zRe : jD Tryz.prog 8 Rows.cacheRenewedRow = true := by kernel_rfl
theorem zR8 : jE Tryz.prog 8 Rows.cacheRenewedRow = true := by kernel_rfl
theorem zR0 : jF Tryz.prog Tryz.f8 Rows.cacheRenewedSpec Rows.cacheRenewedRow = true := by kernel_rfl
theorem zRt : jG Tryz.prog = true := by kernel_rfl
theorem zR2 : jH Tryz.prog = true := by kernel_rfl
theorem zRf : jI Tryz.prog Tryz.f8 Rows.cacheRenewedSpec Rows.cacheRenewedRow = true := by kernel_rfl
theorem zPS : Rows.CacheRenewedSaid :=
  OpenClaim.holds_of_wide 8 Tryz.f8 rfl rfl rfl rfl rfl rfl rfl ⟨rfl, rfl, rfl, rfl, rfl⟩ rfl rfl rfl rfl rfl (by kernel_rfl) Tryz.func8 (joined_of (P := Tryz.prog) (f := 8) (fn := Tryz.f8) (s := Rows.cacheRenewedSpec) (c := Rows.cacheRenewedRow) zRW zRi zRu zRe zR8 zR0 zRt zR2 zRf)
    (of_decide_eq_true (by kernel_rfl)) (by unfold Func.isWrapper; first | (rw [if_pos (by decide +kernel)]; kernel_rfl) | (rw [if_neg (by decide +kernel)]; exact ⟨rfl, rfl⟩))
    (fun os started H enc _ => zPC os started H enc)

theorem cacheRenewed_card : Rows.CacheRenewedCardSaid :=
  Claim7.holds_tied_plain_at .later [] _ true _ _
    zPS (fun _ h => by cases h) (by kernel_rfl) (fun _ h => by cases h) cacheRenewed_row_tie rfl ⟨rfl, rfl⟩ (by kernel_rfl) rfl
    (fun f fn hf hfn => by
      obtain rfl : f = 8 := Option.some.inj ((show Tryz.prog.funcNamed "ostiary/ostiarylaw17.CacheRenewed" = some 8 by kernel_rfl).symm.trans hf) |>.symm
      obtain rfl : fn = Tryz.f8 := (Option.some.inj (Tryz.func8.symm.trans hfn)).symm
      exact ⟨by kernel_rfl, fun j t ht => by
        rw [Tryz.params8] at ht
        have h2 : Tryz.prog.wantsStandIn 2 = false := by kernel_rfl
        have h28 : Tryz.prog.wantsStandIn 28 = false := by kernel_rfl
        rcases j with _ | _ | _ | j
        · simp at ht; subst ht; exact h28
        · simp at ht; subst ht; exact h2
        · simp at ht; subst ht; exact h2
        · simp at ht⟩)
    (by kernel_rfl)
#print axioms cacheRenewed_card
end Go.Proofs.YtejpgcemblankaaGreatDoor
