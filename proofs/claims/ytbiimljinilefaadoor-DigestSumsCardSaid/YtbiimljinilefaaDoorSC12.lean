/- Texts for the law DigestSums: the machine, printed functions of the program, and what they are shown to be. -/
import Derived.Test.YtbiimljinilefaaDoorSC5
namespace Go.Am.AmTrydDig
theorem roots6 : rootsK true [283, 293, 307, 311, 313, 317, 331, 337, 347, 349] = ([10430055236837252648, 11840083180663258601, 13761210420658862357, 14299343276471374635, 14566680578165727644, 15097957966210449927, 16922976911328602910, 17689382322260857208, 500013540394364858, 748580250866718886] : List Nat).map some := by kernel_rfl
end Go.Am.AmTrydDig

