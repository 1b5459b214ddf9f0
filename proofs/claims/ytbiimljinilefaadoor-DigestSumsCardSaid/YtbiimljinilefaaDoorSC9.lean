/- Texts for the law DigestSums: the machine, printed functions of the program, and what they are shown to be. -/
import Derived.Test.YtbiimljinilefaaDoorSC5
namespace Go.Am.AmTrydDig
theorem roots3 : rootsK true [127, 131, 137, 139, 149, 151, 157, 163, 167, 173] = ([489312712824947311, 1452737877330783856, 2861767655752347644, 3322285676063803686, 5560940570517711597, 5996557281743188959, 7280758554555802590, 8532644243296465576, 9350256976987008742, 10552545826968843579] : List Nat).map some := by kernel_rfl
end Go.Am.AmTrydDig

