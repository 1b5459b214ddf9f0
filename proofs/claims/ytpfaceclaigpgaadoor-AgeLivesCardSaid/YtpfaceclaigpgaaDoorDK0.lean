/- AgeLives: contracts and plain law, part K0. -/
import Derived.Test.YtpfaceclaigpgaaDoorDL1
import Derived.KernelRfl
namespace Go.Am.AmTrydAge
set_option maxRecDepth 1000000
theorem chk_a : (List.range' 0 1000).all chk = true := by kernel_rfl
set_option maxRecDepth 1000000
theorem chk_b : (List.range' 1000 1000).all chk = true := by kernel_rfl
end Go.Am.AmTrydAge
