/- Texts for the law DigestSums: the machine, printed functions of the program, and what they are shown to be. -/
import Derived.Test.YtbiimljinilefaaDoorSC5
namespace Go.Am.AmTrydDig
theorem roots5 : rootsK true [233, 239, 241, 251, 257, 263, 269, 271, 277, 281] = ([2830643537854262169, 3796741975233480872, 4115178125766777443, 5681478168544905931, 6601373596472566643, 7507060721942968483, 8399075790359081724, 8693463985226723168, 9568029438360202098, 10144078919501101548] : List Nat).map some := by kernel_rfl
end Go.Am.AmTrydDig

