/- The abstract machine's texts for the law DigestNumbers: printed functions of the program, and what they are shown to be. -/
import Derived.Test.YtbiimljinilefaaDoorRows
import Derived.Test.YtbiimljinilefaaDoorAm29
import Derived.Test.YtbiimljinilefaaDoorASh
namespace D8
open Go Go.Am Go.Proofs
set_option maxRecDepth 1000000
theorem ok3 : FnOk Tryd.prog 3 fn3 := fnOk Tryd.f3 _ Tryd.func3 rfl (by kernel_rfl) (by kernel_rfl) (by kernel_rfl) (by kernel_rfl)
theorem ok7 : FnOk Tryd.prog 7 fn7 := fnOk Tryd.f7 _ Tryd.func7 rfl (by kernel_rfl) (by kernel_rfl) (by kernel_rfl) (by kernel_rfl)
theorem ok8 : FnOk Tryd.prog 8 fn8 := fnOk Tryd.f8 _ Tryd.func8 rfl (by kernel_rfl) (by kernel_rfl) (by kernel_rfl) (by kernel_rfl)
theorem ok9 : FnOk Tryd.prog 9 fn9 := fnOk Tryd.f9 _ Tryd.func9 rfl (by kernel_rfl) (by kernel_rfl) (by kernel_rfl) (by kernel_rfl)
theorem ok10 : FnOk Tryd.prog 10 fn10 := fnOk Tryd.f10 _ Tryd.func10 rfl (by kernel_rfl) (by kernel_rfl) (by kernel_rfl) (by kernel_rfl)
theorem ok20 : FnOk Tryd.prog 20 fn20 := fnOk Tryd.f20 _ Tryd.func20 rfl (by kernel_rfl) (by kernel_rfl) (by kernel_rfl) (by kernel_rfl)
theorem ok21 : FnOk Tryd.prog 21 fn21 := fnOk Tryd.f21 _ Tryd.func21 rfl (by kernel_rfl) (by kernel_rfl) (by kernel_rfl) (by kernel_rfl)
theorem ok22 : FnOk Tryd.prog 22 fn22 := fnOk Tryd.f22 _ Tryd.func22 rfl (by kernel_rfl) (by kernel_rfl) (by kernel_rfl) (by kernel_rfl)
theorem ok28 : FnOk Tryd.prog 28 fn28 := fnOk Tryd.f28 _ Tryd.func28 rfl (by kernel_rfl) (by kernel_rfl) (by kernel_rfl) (by kernel_rfl)
theorem ok29 : FnOk Tryd.prog 29 fn29 := fnOk Tryd.f29 _ Tryd.func29 rfl (by kernel_rfl) (by kernel_rfl) (by kernel_rfl) (by kernel_rfl)
theorem ok33 : FnOk Tryd.prog 33 fn33 := fnOk Tryd.f33 _ Tryd.func33 rfl (by kernel_rfl) (by kernel_rfl) (by kernel_rfl) (by kernel_rfl)
theorem ok34 : FnOk Tryd.prog 34 fn34 := fnOk Tryd.f34 _ Tryd.func34 rfl (by kernel_rfl) (by kernel_rfl) (by kernel_rfl) (by kernel_rfl)
theorem ok35 : FnOk Tryd.prog 35 fn35 := fnOk Tryd.f35 _ Tryd.func35 rfl (by kernel_rfl) (by kernel_rfl) (by kernel_rfl) (by kernel_rfl)
theorem ok36 : FnOk Tryd.prog 36 fn36 := fnOk Tryd.f36 _ Tryd.func36 rfl (by kernel_rfl) (by kernel_rfl) (by kernel_rfl) (by kernel_rfl)
theorem ok39 : FnOk Tryd.prog 39 fn39 := fnOk Tryd.f39 _ Tryd.func39 rfl (by kernel_rfl) (by kernel_rfl) (by kernel_rfl) (by kernel_rfl)
theorem ok40 : FnOk Tryd.prog 40 fn40 := fnOk Tryd.f40 _ Tryd.func40 rfl (by kernel_rfl) (by kernel_rfl) (by kernel_rfl) (by kernel_rfl)
theorem all_ok (base : Nat) (w0 : World) : T.All (fun f d => DefOk Tryd.prog base w0 f d) tabF (fun k => k) := (.intro trivial (.intro (.intro trivial (.intro (.intro ok3 (.intro (.intro ok7 (.intro trivial (.intro trivial (.intro (.intro ok39 (.intro trivial trivial)) trivial)))) (.intro trivial (.intro (.intro trivial (.intro (.intro ok35 (.intro trivial trivial)) trivial)) trivial)))) (.intro trivial (.intro (.intro ok9 (.intro (.intro trivial (.intro (.intro ok33 (.intro trivial trivial)) trivial)) trivial)) (.intro trivial (.intro (.intro ok21 (.intro trivial trivial)) (.intro ok29 (.intro trivial trivial)))))))) (.intro trivial (.intro (.intro trivial (.intro (.intro ok8 (.intro trivial (.intro trivial (.intro (.intro ok40 (.intro trivial trivial)) trivial)))) (.intro trivial (.intro (.intro ok20 (.intro (.intro ok36 (.intro trivial trivial)) trivial)) (.intro ok28 (.intro trivial trivial)))))) (.intro trivial (.intro (.intro ok10 (.intro (.intro trivial (.intro (.intro ok34 (.intro trivial trivial)) trivial)) trivial)) (.intro trivial (.intro (.intro ok22 (.intro trivial trivial)) trivial))))))))
end D8
