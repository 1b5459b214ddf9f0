/- The abstract machine, printed functions of the program, and what they are shown to be. -/
import Derived.Deep.Strs
import Derived.ChangeSlices
import Derived.Test.YtejpgcemblankaaGreatDoorCUSM3
import Derived.Test.YtejpgcemblankaaGreatDoorCUSM4
set_option linter.unusedSimpArgs false
set_option linter.unusedVariables false
namespace Go.Am
open Go Go.ChangeShapes Go.WideShapes Go.RowKit
end Go.Am

namespace Go.Am
open Go Go.ChangeShapes Go.WideShapes Go.RowKit
end Go.Am

