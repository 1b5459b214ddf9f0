/- Texts for the law DigestSums: the machine, printed functions of the program, and what they are shown to be. -/
import Derived.Test.YtbiimljinilefaaDoorRows
import Derived.Test.YtbiimljinilefaaDoorSM3
import Derived.Test.YtbiimljinilefaaDoorSPr
import Derived.Test.YtbiimljinilefaaDoorSSh1
namespace Go.Am.AmTrydDig
open Go.Proofs
set_option maxRecDepth 1000000
theorem ok4 : FnOk Tryd.prog 4 fn4 := fnOk Tryd.f4 _ Tryd.func4 rfl (by kernel_rfl) (by kernel_rfl) (by kernel_rfl) (by kernel_rfl)
theorem ok5 : FnOk Tryd.prog 5 fn5 := fnOk Tryd.f5 _ Tryd.func5 rfl (by kernel_rfl) (by kernel_rfl) (by kernel_rfl) (by kernel_rfl)
theorem ok6 : FnOk Tryd.prog 6 fn6 := fnOk Tryd.f6 _ Tryd.func6 rfl (by kernel_rfl) (by kernel_rfl) (by kernel_rfl) (by kernel_rfl)
theorem ok7 : FnOk Tryd.prog 7 fn7 := fnOk Tryd.f7 _ Tryd.func7 rfl (by kernel_rfl) (by kernel_rfl) (by kernel_rfl) (by kernel_rfl)
theorem ok8 : FnOk Tryd.prog 8 fn8 := fnOk Tryd.f8 _ Tryd.func8 rfl (by kernel_rfl) (by kernel_rfl) (by kernel_rfl) (by kernel_rfl)
theorem ok9 : FnOk Tryd.prog 9 fn9 := fnOk Tryd.f9 _ Tryd.func9 rfl (by kernel_rfl) (by kernel_rfl) (by kernel_rfl) (by kernel_rfl)
theorem ok10 : FnOk Tryd.prog 10 fn10 := fnOk Tryd.f10 _ Tryd.func10 rfl (by kernel_rfl) (by kernel_rfl) (by kernel_rfl) (by kernel_rfl)
theorem ok11 : FnOk Tryd.prog 11 fn11 := fnOk Tryd.f11 _ Tryd.func11 rfl (by kernel_rfl) (by kernel_rfl) (by kernel_rfl) (by kernel_rfl)
theorem ok12 : FnOk Tryd.prog 12 fn12 := fnOk Tryd.f12 _ Tryd.func12 rfl (by kernel_rfl) (by kernel_rfl) (by kernel_rfl) (by kernel_rfl)
theorem ok13 : FnOk Tryd.prog 13 fn13 := fnOk Tryd.f13 _ Tryd.func13 rfl (by kernel_rfl) (by kernel_rfl) (by kernel_rfl) (by kernel_rfl)
theorem ok14 : FnOk Tryd.prog 14 fn14 := fnOk Tryd.f14 _ Tryd.func14 rfl (by kernel_rfl) (by kernel_rfl) (by kernel_rfl) (by kernel_rfl)
theorem ok15 : FnOk Tryd.prog 15 fn15 := fnOk Tryd.f15 _ Tryd.func15 rfl (by kernel_rfl) (by kernel_rfl) (by kernel_rfl) (by kernel_rfl)
theorem ok16 : FnOk Tryd.prog 16 fn16 := fnOk Tryd.f16 _ Tryd.func16 rfl (by kernel_rfl) (by kernel_rfl) (by kernel_rfl) (by kernel_rfl)
theorem ok17 : FnOk Tryd.prog 17 fn17 := fnOk Tryd.f17 _ Tryd.func17 rfl (by kernel_rfl) (by kernel_rfl) (by kernel_rfl) (by kernel_rfl)
theorem ok18 : FnOk Tryd.prog 18 fn18 := fnOk Tryd.f18 _ Tryd.func18 rfl (by kernel_rfl) (by kernel_rfl) (by kernel_rfl) (by kernel_rfl)
theorem ok19 : FnOk Tryd.prog 19 fn19 := fnOk Tryd.f19 _ Tryd.func19 rfl (by kernel_rfl) (by kernel_rfl) (by kernel_rfl) (by kernel_rfl)
theorem ok20 : FnOk Tryd.prog 20 fn20 := fnOk Tryd.f20 _ Tryd.func20 rfl (by kernel_rfl) (by kernel_rfl) (by kernel_rfl) (by kernel_rfl)
theorem ok21 : FnOk Tryd.prog 21 fn21 := fnOk Tryd.f21 _ Tryd.func21 rfl (by kernel_rfl) (by kernel_rfl) (by kernel_rfl) (by kernel_rfl)
theorem ok22 : FnOk Tryd.prog 22 fn22 := fnOk Tryd.f22 _ Tryd.func22 rfl (by kernel_rfl) (by kernel_rfl) (by kernel_rfl) (by kernel_rfl)
theorem ok23 : FnOk Tryd.prog 23 fn23 := fnOk Tryd.f23 _ Tryd.func23 rfl (by kernel_rfl) (by kernel_rfl) (by kernel_rfl) (by kernel_rfl)
theorem ok24 : FnOk Tryd.prog 24 fn24 := fnOk Tryd.f24 _ Tryd.func24 rfl (by kernel_rfl) (by kernel_rfl) (by kernel_rfl) (by kernel_rfl)
theorem ok25 : FnOk Tryd.prog 25 fn25 := fnOk Tryd.f25 _ Tryd.func25 rfl (by kernel_rfl) (by kernel_rfl) (by kernel_rfl) (by kernel_rfl)
theorem ok26 : FnOk Tryd.prog 26 fn26 := fnOk Tryd.f26 _ Tryd.func26 rfl (by kernel_rfl) (by kernel_rfl) (by kernel_rfl) (by kernel_rfl)
theorem ok27 : FnOk Tryd.prog 27 fn27 := fnOk Tryd.f27 _ Tryd.func27 rfl (by kernel_rfl) (by kernel_rfl) (by kernel_rfl) (by kernel_rfl)
theorem ok28 : FnOk Tryd.prog 28 fn28 := fnOk Tryd.f28 _ Tryd.func28 rfl (by kernel_rfl) (by kernel_rfl) (by kernel_rfl) (by kernel_rfl)
theorem ok29 : FnOk Tryd.prog 29 fn29 := fnOk Tryd.f29 _ Tryd.func29 rfl (by kernel_rfl) (by kernel_rfl) (by kernel_rfl) (by kernel_rfl)
theorem ok30 : FnOk Tryd.prog 30 fn30 := fnOk Tryd.f30 _ Tryd.func30 rfl (by kernel_rfl) (by kernel_rfl) (by kernel_rfl) (by kernel_rfl)
theorem ok31 : FnOk Tryd.prog 31 fn31 := fnOk Tryd.f31 _ Tryd.func31 rfl (by kernel_rfl) (by kernel_rfl) (by kernel_rfl) (by kernel_rfl)
theorem ok32 : FnOk Tryd.prog 32 fn32 := fnOk Tryd.f32 _ Tryd.func32 rfl (by kernel_rfl) (by kernel_rfl) (by kernel_rfl) (by kernel_rfl)
theorem ok33 : FnOk Tryd.prog 33 fn33 := fnOk Tryd.f33 _ Tryd.func33 rfl (by kernel_rfl) (by kernel_rfl) (by kernel_rfl) (by kernel_rfl)
theorem ok34 : FnOk Tryd.prog 34 fn34 := fnOk Tryd.f34 _ Tryd.func34 rfl (by kernel_rfl) (by kernel_rfl) (by kernel_rfl) (by kernel_rfl)
theorem ok35 : FnOk Tryd.prog 35 fn35 := fnOk Tryd.f35 _ Tryd.func35 rfl (by kernel_rfl) (by kernel_rfl) (by kernel_rfl) (by kernel_rfl)
theorem ok36 : FnOk Tryd.prog 36 fn36 := fnOk Tryd.f36 _ Tryd.func36 rfl (by kernel_rfl) (by kernel_rfl) (by kernel_rfl) (by kernel_rfl)
theorem ok37 : FnOk Tryd.prog 37 fn37 := fnOk Tryd.f37 _ Tryd.func37 rfl (by kernel_rfl) (by kernel_rfl) (by kernel_rfl) (by kernel_rfl)
theorem ok38 : FnOk Tryd.prog 38 fn38 := fnOk Tryd.f38 _ Tryd.func38 rfl (by kernel_rfl) (by kernel_rfl) (by kernel_rfl) (by kernel_rfl)
theorem ok39 : FnOk Tryd.prog 39 fn39 := fnOk Tryd.f39 _ Tryd.func39 rfl (by kernel_rfl) (by kernel_rfl) (by kernel_rfl) (by kernel_rfl)
theorem ok40 : FnOk Tryd.prog 40 fn40 := fnOk Tryd.f40 _ Tryd.func40 rfl (by kernel_rfl) (by kernel_rfl) (by kernel_rfl) (by kernel_rfl)
theorem allk_ok (base : Nat) (w0 : World) : T.All (fun f d => DefOk Tryd.prog base w0 f d) tabFk (fun k => k) := (.intro trivial (.intro (.intro trivial (.intro (.intro trivial (.intro (.intro ok7 (.intro trivial (.intro trivial (.intro (.intro ok39 (.intro trivial trivial)) trivial)))) (.intro trivial (.intro (.intro trivial (.intro (.intro ok35 (.intro trivial trivial)) trivial)) trivial)))) (.intro trivial (.intro (.intro ok9 (.intro (.intro trivial (.intro (.intro ok33 (.intro trivial trivial)) trivial)) trivial)) (.intro trivial (.intro (.intro ok21 (.intro trivial trivial)) (.intro ok29 (.intro trivial trivial)))))))) (.intro trivial (.intro (.intro trivial (.intro (.intro ok8 (.intro trivial (.intro trivial (.intro (.intro ok40 (.intro trivial trivial)) trivial)))) (.intro trivial (.intro (.intro ok20 (.intro (.intro ok36 (.intro trivial trivial)) trivial)) (.intro ok28 (.intro trivial trivial)))))) (.intro trivial (.intro (.intro ok10 (.intro (.intro trivial (.intro (.intro ok34 (.intro trivial trivial)) trivial)) trivial)) (.intro trivial (.intro (.intro ok22 (.intro trivial trivial)) trivial))))))))
theorem mixed_ok : Tryd.prog.follows .mixedOrders = true := by kernel_rfl
theorem run10 : (fun τ => callK (tabOf tabEk 100000) 40 10 [] (Am.start st0) τ trueK) = fun _ => doneA := by kernel_rfl
theorem closed10_ok (base : Nat) (w0 : World) : PrimOk Tryd.prog base w0 10 (closedG st0) := primOk_closedG mixed_ok allk_ok (tabk_ok 100000) (by kernel_rfl) st0 (by kernel_rfl) (by kernel_rfl) run10 base w0
theorem all_ok (base : Nat) (w0 : World) : T.All (fun f d => DefOk Tryd.prog base w0 f d) tabF (fun k => k) := (.intro trivial (.intro (.intro trivial (.intro (.intro trivial (.intro (.intro ok7 (.intro (.intro ok15 (.intro (.intro ok31 (.intro trivial trivial)) trivial)) (.intro ok23 (.intro (.intro ok39 (.intro trivial trivial)) trivial)))) (.intro ok11 (.intro (.intro ok19 (.intro (.intro ok35 (.intro trivial trivial)) trivial)) (.intro ok27 (.intro trivial trivial)))))) (.intro ok5 (.intro (.intro ok9 (.intro (.intro ok17 (.intro (.intro ok33 (.intro trivial trivial)) trivial)) (.intro ok25 (.intro trivial trivial)))) (.intro ok13 (.intro (.intro ok21 (.intro (.intro ok37 (.intro trivial trivial)) trivial)) (.intro ok29 (.intro trivial trivial)))))))) (.intro trivial (.intro (.intro ok4 (.intro (.intro trivial (.intro (.intro ok16 (.intro (.intro ok32 (.intro trivial trivial)) trivial)) (.intro ok24 (.intro (.intro ok40 (.intro trivial trivial)) trivial)))) (.intro ok12 (.intro (.intro ok20 (.intro (.intro ok36 (.intro trivial trivial)) trivial)) (.intro ok28 (.intro trivial trivial)))))) (.intro ok6 (.intro (.intro (closed10_ok base w0) (.intro (.intro ok18 (.intro (.intro ok34 (.intro trivial trivial)) trivial)) (.intro ok26 (.intro trivial trivial)))) (.intro ok14 (.intro (.intro trivial (.intro (.intro ok38 (.intro trivial trivial)) trivial)) (.intro ok30 (.intro trivial trivial))))))))))
end Go.Am.AmTrydDig
