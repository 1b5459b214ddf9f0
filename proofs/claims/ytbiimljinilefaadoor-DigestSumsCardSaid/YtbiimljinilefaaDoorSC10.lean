/- Texts for the law DigestSums: the machine, printed functions of the program, and what they are shown to be. -/
import Derived.Test.YtbiimljinilefaaDoorSC5
namespace Go.Am.AmTrydDig
theorem roots4 : rootsK true [179, 181, 191, 193, 197, 199, 211, 223, 227, 229] = ([11727347734174303076, 12113106623233404929, 14000437183269869457, 14369950271660146224, 15101387698204529176, 15463397548674623760, 17586052441742319658, 1182934255886127544, 1847814050463011016, 2177327727835720531] : List Nat).map some := by kernel_rfl
end Go.Am.AmTrydDig

