/- IntegrityNumbers, a closed sentence: its call answers true; no condition of our own. -/
import Derived.Test.YtpfaceclaigpgaaDoorCards
import Derived.Test.YtpfaceclaigpgaaDoorTie
import Derived.ChangeSame
import Derived.ChangeVars
import Derived.JoinedOf
import Derived.RowKit
import Derived.LaidLaws
import Derived.LaidMore
import Derived.LaidHandle
import Derived.Lay
import Derived.ProofKit
import Derived.OpenShut
import Derived.Stop.Joined
import Derived.SevenTiedAt
import Derived.Test.YtpfaceclaigpgaaDoorCOk
namespace Go.Proofs.YtpfaceclaigpgaaDoor
open Go Go.Am Go.Am.AmTrydIntegrityNumbers Go.ChangeShapes Go.WideShapes Go.RowKit
set_option maxRecDepth 1000000
def integrityNumbers_st : List (Option (List V)) := [some [(.int .i64 (.ofNat 32)), (.int .i64 (.ofNat 64)), (.int .i64 (.ofNat 7)), (.int .i64 (.ofNat 18)), (.int .i64 (.ofNat 3)), (.int .i64 (.ofNat 17)), (.int .i64 (.ofNat 19)), (.int .i64 (.ofNat 10)), (.int .i64 (.ofNat 2)), (.int .i64 (.ofNat 13)), (.int .i64 (.ofNat 22)), (.int .i64 (.ofNat 6)), (.int .i64 (.ofNat 11)), (.int .i64 (.ofNat 25)), (.int .i64 (.ofNat 64)), (.int .i64 (.ofNat 8)), (.int .i64 (.ofNat 32))],
  some [(.int .u32 (.ofNat 1779033703)), (.int .u32 (.ofNat 3144134277)), (.int .u32 (.ofNat 1013904242)), (.int .u32 (.ofNat 2773480762)), (.int .u32 (.ofNat 1359893119)), (.int .u32 (.ofNat 2600822924)), (.int .u32 (.ofNat 528734635)), (.int .u32 (.ofNat 1541459225))],
  some [(.int .i64 (.ofNat 64)), (.int .i64 (.ofNat 80)), (.int .i64 (.ofNat 1)), (.int .i64 (.ofNat 8)), (.int .i64 (.ofNat 7)), (.int .i64 (.ofNat 19)), (.int .i64 (.ofNat 61)), (.int .i64 (.ofNat 6)), (.int .i64 (.ofNat 28)), (.int .i64 (.ofNat 34)), (.int .i64 (.ofNat 39)), (.int .i64 (.ofNat 14)), (.int .i64 (.ofNat 18)), (.int .i64 (.ofNat 41)), (.int .i64 (.ofNat 128)), (.int .i64 (.ofNat 16)), (.int .i64 (.ofNat 64))],
  some [(.int .u64 (.ofNat 14680500436340154072)), (.int .u64 (.ofNat 7105036623409894663)), (.int .u64 (.ofNat 10473403895298186519)), (.int .u64 (.ofNat 1526699215303891257)), (.int .u64 (.ofNat 7436329637833083697)), (.int .u64 (.ofNat 10282925794625328401)), (.int .u64 (.ofNat 15784041429090275239)), (.int .u64 (.ofNat 5167115440072839076))],
  some [(.int .u64 (.ofNat 7640891576956012808)), (.int .u64 (.ofNat 13503953896175478587)), (.int .u64 (.ofNat 4354685564936845355)), (.int .u64 (.ofNat 11912009170470909681)), (.int .u64 (.ofNat 5840696475078001361)), (.int .u64 (.ofNat 11170449401992604703)), (.int .u64 (.ofNat 2270897969802886507)), (.int .u64 (.ofNat 6620516959819538809))],
  none,
  some [(.int .u64 (.ofNat 4794697086780616226)), (.int .u64 (.ofNat 8158064640168781261)), (.int .u64 (.ofNat 13096744586834688815)), (.int .u64 (.ofNat 16840607885511220156)), (.int .u64 (.ofNat 4131703408338449720)), (.int .u64 (.ofNat 6480981068601479193)), (.int .u64 (.ofNat 10538285296894168987)), (.int .u64 (.ofNat 12329834152419229976)), (.int .u64 (.ofNat 15566598209576043074)), (.int .u64 (.ofNat 1334009975649890238)), (.int .u64 (.ofNat 2608012711638119052)), (.int .u64 (.ofNat 6128411473006802146)), (.int .u64 (.ofNat 8268148722764581231)), (.int .u64 (.ofNat 9286055187155687089)), (.int .u64 (.ofNat 11230858885718282805)), (.int .u64 (.ofNat 13951009754708518548)), (.int .u64 (.ofNat 16472876342353939154)), (.int .u64 (.ofNat 17275323862435702243)), (.int .u64 (.ofNat 1135362057144423861)), (.int .u64 (.ofNat 2597628984639134821)), (.int .u64 (.ofNat 3308224258029322869)), (.int .u64 (.ofNat 5365058923640841347)), (.int .u64 (.ofNat 6679025012923562964)), (.int .u64 (.ofNat 8573033837759648693)), (.int .u64 (.ofNat 10970295158949994411)), (.int .u64 (.ofNat 12119686244451234320)), (.int .u64 (.ofNat 12683024718118986047)), (.int .u64 (.ofNat 13788192230050041572)), (.int .u64 (.ofNat 14330467153632333762)), (.int .u64 (.ofNat 15395433587784984357)), (.int .u64 (.ofNat 489312712824947311)), (.int .u64 (.ofNat 1452737877330783856)), (.int .u64 (.ofNat 2861767655752347644)), (.int .u64 (.ofNat 3322285676063803686)), (.int .u64 (.ofNat 5560940570517711597)), (.int .u64 (.ofNat 5996557281743188959)), (.int .u64 (.ofNat 7280758554555802590)), (.int .u64 (.ofNat 8532644243296465576)), (.int .u64 (.ofNat 9350256976987008742)), (.int .u64 (.ofNat 10552545826968843579)), (.int .u64 (.ofNat 11727347734174303076)), (.int .u64 (.ofNat 12113106623233404929)), (.int .u64 (.ofNat 14000437183269869457)), (.int .u64 (.ofNat 14369950271660146224)), (.int .u64 (.ofNat 15101387698204529176)), (.int .u64 (.ofNat 15463397548674623760)), (.int .u64 (.ofNat 17586052441742319658)), (.int .u64 (.ofNat 1182934255886127544)), (.int .u64 (.ofNat 1847814050463011016)), (.int .u64 (.ofNat 2177327727835720531)), (.int .u64 (.ofNat 2830643537854262169)), (.int .u64 (.ofNat 3796741975233480872)), (.int .u64 (.ofNat 4115178125766777443)), (.int .u64 (.ofNat 5681478168544905931)), (.int .u64 (.ofNat 6601373596472566643)), (.int .u64 (.ofNat 7507060721942968483)), (.int .u64 (.ofNat 8399075790359081724)), (.int .u64 (.ofNat 8693463985226723168)), (.int .u64 (.ofNat 9568029438360202098)), (.int .u64 (.ofNat 10144078919501101548)), (.int .u64 (.ofNat 10430055236837252648)), (.int .u64 (.ofNat 11840083180663258601)), (.int .u64 (.ofNat 13761210420658862357)), (.int .u64 (.ofNat 14299343276471374635)), (.int .u64 (.ofNat 14566680578165727644)), (.int .u64 (.ofNat 15097957966210449927)), (.int .u64 (.ofNat 16922976911328602910)), (.int .u64 (.ofNat 17689382322260857208)), (.int .u64 (.ofNat 500013540394364858)), (.int .u64 (.ofNat 748580250866718886)), (.int .u64 (.ofNat 1242879168328830382)), (.int .u64 (.ofNat 1977374033974150939)), (.int .u64 (.ofNat 2944078676154940804)), (.int .u64 (.ofNat 3659926193048069267)), (.int .u64 (.ofNat 4368137639120453308)), (.int .u64 (.ofNat 4836135668995329356)), (.int .u64 (.ofNat 5532061633213252278)), (.int .u64 (.ofNat 6448918945643986474)), (.int .u64 (.ofNat 6902733635092675308)), (.int .u64 (.ofNat 7801388544844847127))],
  some [(.int .u64 (.ofNat 1)), (.int .u64 (.ofNat 10)), (.int .u64 (.ofNat 100)), (.int .u64 (.ofNat 1000)), (.int .u64 (.ofNat 10000)), (.int .u64 (.ofNat 100000)), (.int .u64 (.ofNat 1000000)), (.int .u64 (.ofNat 10000000)), (.int .u64 (.ofNat 100000000)), (.int .u64 (.ofNat 1000000000)), (.int .u64 (.ofNat 10000000000)), (.int .u64 (.ofNat 100000000000)), (.int .u64 (.ofNat 1000000000000)), (.int .u64 (.ofNat 10000000000000)), (.int .u64 (.ofNat 100000000000000)), (.int .u64 (.ofNat 1000000000000000)), (.int .u64 (.ofNat 10000000000000000)), (.int .u64 (.ofNat 100000000000000000)), (.int .u64 (.ofNat 1000000000000000000)), (.int .u64 (.ofNat 10000000000000000000))],
  none,
  none,
  some [(.int .u8 (.ofNat 0)), (.int .u8 (.ofNat 1)), (.int .u8 (.ofNat 28)), (.int .u8 (.ofNat 2)), (.int .u8 (.ofNat 29)), (.int .u8 (.ofNat 14)), (.int .u8 (.ofNat 24)), (.int .u8 (.ofNat 3)), (.int .u8 (.ofNat 30)), (.int .u8 (.ofNat 22)), (.int .u8 (.ofNat 20)), (.int .u8 (.ofNat 15)), (.int .u8 (.ofNat 25)), (.int .u8 (.ofNat 17)), (.int .u8 (.ofNat 4)), (.int .u8 (.ofNat 8)), (.int .u8 (.ofNat 31)), (.int .u8 (.ofNat 27)), (.int .u8 (.ofNat 13)), (.int .u8 (.ofNat 23)), (.int .u8 (.ofNat 21)), (.int .u8 (.ofNat 19)), (.int .u8 (.ofNat 16)), (.int .u8 (.ofNat 7)), (.int .u8 (.ofNat 26)), (.int .u8 (.ofNat 12)), (.int .u8 (.ofNat 18)), (.int .u8 (.ofNat 6)), (.int .u8 (.ofNat 11)), (.int .u8 (.ofNat 5)), (.int .u8 (.ofNat 10)), (.int .u8 (.ofNat 9))],
  some [(.int .u8 (.ofNat 0)), (.int .u8 (.ofNat 1)), (.int .u8 (.ofNat 56)), (.int .u8 (.ofNat 2)), (.int .u8 (.ofNat 57)), (.int .u8 (.ofNat 49)), (.int .u8 (.ofNat 28)), (.int .u8 (.ofNat 3)), (.int .u8 (.ofNat 61)), (.int .u8 (.ofNat 58)), (.int .u8 (.ofNat 42)), (.int .u8 (.ofNat 50)), (.int .u8 (.ofNat 38)), (.int .u8 (.ofNat 29)), (.int .u8 (.ofNat 17)), (.int .u8 (.ofNat 4)), (.int .u8 (.ofNat 62)), (.int .u8 (.ofNat 47)), (.int .u8 (.ofNat 59)), (.int .u8 (.ofNat 36)), (.int .u8 (.ofNat 45)), (.int .u8 (.ofNat 43)), (.int .u8 (.ofNat 51)), (.int .u8 (.ofNat 22)), (.int .u8 (.ofNat 53)), (.int .u8 (.ofNat 39)), (.int .u8 (.ofNat 33)), (.int .u8 (.ofNat 30)), (.int .u8 (.ofNat 24)), (.int .u8 (.ofNat 18)), (.int .u8 (.ofNat 12)), (.int .u8 (.ofNat 5)), (.int .u8 (.ofNat 63)), (.int .u8 (.ofNat 55)), (.int .u8 (.ofNat 48)), (.int .u8 (.ofNat 27)), (.int .u8 (.ofNat 60)), (.int .u8 (.ofNat 41)), (.int .u8 (.ofNat 37)), (.int .u8 (.ofNat 16)), (.int .u8 (.ofNat 46)), (.int .u8 (.ofNat 35)), (.int .u8 (.ofNat 44)), (.int .u8 (.ofNat 21)), (.int .u8 (.ofNat 52)), (.int .u8 (.ofNat 32)), (.int .u8 (.ofNat 23)), (.int .u8 (.ofNat 11)), (.int .u8 (.ofNat 54)), (.int .u8 (.ofNat 26)), (.int .u8 (.ofNat 40)), (.int .u8 (.ofNat 15)), (.int .u8 (.ofNat 34)), (.int .u8 (.ofNat 20)), (.int .u8 (.ofNat 31)), (.int .u8 (.ofNat 10)), (.int .u8 (.ofNat 25)), (.int .u8 (.ofNat 14)), (.int .u8 (.ofNat 19)), (.int .u8 (.ofNat 9)), (.int .u8 (.ofNat 13)), (.int .u8 (.ofNat 8)), (.int .u8 (.ofNat 7)), (.int .u8 (.ofNat 6))]]
theorem integrityNumbers_st_eq : startOf Tryd.prog (Rows.integrityNumbersRow.laid.map fun x => (x.1, x.2)) = integrityNumbers_st := by kernel_rfl
theorem integrityNumbers_own : ownKnob Tryd.prog.godebug = none := by kernel_rfl
theorem integrityNumbers_laidOut : laidOutB Tryd.prog = true := by kernel_rfl
theorem integrityNumbers_mixed : Tryd.prog.follows .mixedOrders = true := by kernel_rfl
theorem integrityNumbers_nglob : Tryd.prog.globals.size = 12 := by kernel_rfl
theorem integrityNumbers_run : (fun τ => callK (tabOf tabE 100000) 40 7 [] (Am.start integrityNumbers_st) τ trueK) = fun _ => doneA := by kernel_rfl

theorem integrityNumbers_lifted (os : Os) (started : os.Started) (H : Type) (enc : TypeId × Value → H) :
    ReturnsInHanded {} Tryd.checked os 7 .any (fun w args => (Rows.integrityNumbersSpec.pre enc Tryd.prog Tryd.f7 [] false w args ∧ laidMetH Tryd.prog Rows.integrityNumbersRow.laid w) ∧ sizedMet enc Tryd.prog Tryd.f7 (OpenSpec.ofChange Rows.integrityNumbersSpec) false w args)
      (Rows.integrityNumbersSpec.post enc Tryd.prog Tryd.f7 false true false false) := by
  refine returnsInHanded_of_change_and (C := Tryd.checked) (X := fun w _ => laidMetH Tryd.prog Rows.integrityNumbersRow.laid w) (fun _ _ _ hh h => h.of_heap hh) integrityNumbers_own started (by kernel_rfl) Tryd.func7
    (ChangeSpec.witness_shaped (enc := enc) (C := Tryd.checked) (os := os) (X := fun w _ => laidMetH Tryd.prog Rows.integrityNumbersRow.laid w) false (World.laidAll Tryd.prog os Rows.integrityNumbersRow.laid) #[] 8 (World.laidAll_os _ _ _) (World.shaped_of_ZipB (by kernel_rfl) (by kernel_rfl)) (by kernel_rfl) (by kernel_rfl) (by kernel_rfl)
      (by rw [MakeChecks.laidMetH_plain _ _ _ (by kernel_rfl)]; exact laidMet_laidAll _ (by kernel_rfl) (by kernel_rfl))) ?_
  intro W base args ds gs before hval0 hW _ _ hL _
  have hL' : laidMet Tryd.prog Rows.integrityNumbersRow.laid W := by rw [MakeChecks.laidMetH_plain _ _ _ (by kernel_rfl)] at hL; exact hL
  have hW' := hW
  obtain ⟨p, q, hA0, hV, rfl, hfz, hnd⟩ := hW
  have hA : DataW.TrodAll enc Tryd.prog W 0 (fun _ => true) true Tryd.f7.params.toList args.toList ds p := hA0
  rw [Tryd.params7] at hA
  obtain ⟨rfl, rfl⟩ : args = #[] ∧ ds = [] := by
    obtain ⟨l⟩ := args
    cases l with
    | nil => cases ds with
      | nil => exact ⟨rfl, rfl⟩
      | cons d ds => exact hA.elim
    | cons a l => exact hA.elim
  obtain ⟨rfl, rfl⟩ := trodVars_none hV
  have hok := startOf_ok (P := Tryd.prog) hL' (ι := fun id => (id, 0)) (fun g _ => rfl) (Am.start integrityNumbers_st)
  rw [show startOf Tryd.prog Rows.integrityNumbersRow.laid = integrityNumbers_st from integrityNumbers_st_eq] at hok
  refine (call_true (P := Tryd.prog) integrityNumbers_mixed (W := W) (defs_ok (all_ok W.heap.size W)) 100000 40 7 [] integrityNumbers_st (fun id => (id, 0)) hok (fun g _ => rfl) (by rw [integrityNumbers_nglob]; decide) trivial (run_true (tab_ok 100000) integrityNumbers_run)).mono fun e W' ⟨he, hb⟩ => ?_
  subst he
  exact ⟨_, rfl, law_post (P := Tryd.prog) integrityNumbers_laidOut rfl rfl (by kernel_rfl) Tryd.underlying4 (by kernel_rfl) hW' hb⟩

theorem integrityNumbers_holds : Rows.IntegrityNumbersSaid :=
  OpenClaim.holds_of_wide 7 Tryd.f7 rfl rfl rfl rfl rfl rfl rfl ⟨rfl, rfl, rfl, rfl, rfl⟩ rfl rfl rfl rfl rfl (by kernel_rfl) Tryd.func7 (by kernel_rfl)
    (of_decide_eq_true (by kernel_rfl)) (by unfold Func.isWrapper; first | (rw [if_pos (by decide +kernel)]; kernel_rfl) | (rw [if_neg (by decide +kernel)]; exact ⟨rfl, rfl⟩))
    (fun os started H enc _ => integrityNumbers_lifted os started H enc)

theorem integrityNumbers_card : Rows.IntegrityNumbersCardSaid :=
  Claim7.holds_tied_plain_at .later [] _ true _ _
    integrityNumbers_holds (fun _ h => by cases h) (by kernel_rfl) (fun _ h => by cases h) integrityNumbers_row_tie rfl ⟨rfl, rfl⟩ (by kernel_rfl) rfl
    (fun f fn hf hfn => by
      obtain rfl : f = 7 := Option.some.inj ((show Tryd.prog.funcNamed "ostiary/ostiarylaw9.IntegrityNumbers" = some 7 by kernel_rfl).symm.trans hf) |>.symm
      obtain rfl : fn = Tryd.f7 := (Option.some.inj (Tryd.func7.symm.trans hfn)).symm
      exact ⟨by kernel_rfl, fun j t ht => by
        rw [Tryd.params7] at ht
        simp at ht⟩)
    (by kernel_rfl)
#print axioms integrityNumbers_card
end Go.Proofs.YtpfaceclaigpgaaDoor
