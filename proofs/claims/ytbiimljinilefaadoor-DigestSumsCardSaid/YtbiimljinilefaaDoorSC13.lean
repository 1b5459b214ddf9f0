/- Texts for the law DigestSums: the machine, printed functions of the program, and what they are shown to be. -/
import Derived.Test.YtbiimljinilefaaDoorSC5
namespace Go.Am.AmTrydDig
theorem roots7 : rootsK true [353, 359, 367, 373, 379, 383, 389, 397, 401, 409] = ([1242879168328830382, 1977374033974150939, 2944078676154940804, 3659926193048069267, 4368137639120453308, 4836135668995329356, 5532061633213252278, 6448918945643986474, 6902733635092675308, 7801388544844847127] : List Nat).map some := by kernel_rfl
end Go.Am.AmTrydDig

