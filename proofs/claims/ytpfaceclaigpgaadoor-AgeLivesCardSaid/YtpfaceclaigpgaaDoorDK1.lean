/- AgeLives: contracts and plain law, part K1. -/
import Derived.Test.YtpfaceclaigpgaaDoorDL1
import Derived.KernelRfl
namespace Go.Am.AmTrydAge
set_option maxRecDepth 1000000
theorem chk_c : (List.range' 2000 1000).all chk = true := by kernel_rfl
set_option maxRecDepth 1000000
theorem chk_d : (List.range' 3000 1001).all chk = true := by kernel_rfl
end Go.Am.AmTrydAge
