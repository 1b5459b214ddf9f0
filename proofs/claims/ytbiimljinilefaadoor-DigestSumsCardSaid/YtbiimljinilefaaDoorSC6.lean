/- Texts for the law DigestSums: the machine, printed functions of the program, and what they are shown to be. -/
import Derived.Test.YtbiimljinilefaaDoorSC5
namespace Go.Am.AmTrydDig
theorem roots0 : rootsK true [2, 3, 5, 7, 11, 13, 17, 19, 23, 29] = ([4794697086780616226, 8158064640168781261, 13096744586834688815, 16840607885511220156, 4131703408338449720, 6480981068601479193, 10538285296894168987, 12329834152419229976, 15566598209576043074, 1334009975649890238] : List Nat).map some := by kernel_rfl
end Go.Am.AmTrydDig

