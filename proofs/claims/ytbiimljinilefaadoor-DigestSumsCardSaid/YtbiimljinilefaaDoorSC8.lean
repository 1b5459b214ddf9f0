/- Texts for the law DigestSums: the machine, printed functions of the program, and what they are shown to be. -/
import Derived.Test.YtbiimljinilefaaDoorSC5
namespace Go.Am.AmTrydDig
theorem roots2 : rootsK true [73, 79, 83, 89, 97, 101, 103, 107, 109, 113] = ([3308224258029322869, 5365058923640841347, 6679025012923562964, 8573033837759648693, 10970295158949994411, 12119686244451234320, 12683024718118986047, 13788192230050041572, 14330467153632333762, 15395433587784984357] : List Nat).map some := by kernel_rfl
end Go.Am.AmTrydDig

