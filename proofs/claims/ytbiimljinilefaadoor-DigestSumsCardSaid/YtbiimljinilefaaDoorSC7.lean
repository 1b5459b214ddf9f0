/- Texts for the law DigestSums: the machine, printed functions of the program, and what they are shown to be. -/
import Derived.Test.YtbiimljinilefaaDoorSC5
namespace Go.Am.AmTrydDig
theorem roots1 : rootsK true [31, 37, 41, 43, 47, 53, 59, 61, 67, 71] = ([2608012711638119052, 6128411473006802146, 8268148722764581231, 9286055187155687089, 11230858885718282805, 13951009754708518548, 16472876342353939154, 17275323862435702243, 1135362057144423861, 2597628984639134821] : List Nat).map some := by kernel_rfl
end Go.Am.AmTrydDig

