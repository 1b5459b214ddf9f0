/- Texts for the law DigestSums: the machine, printed functions of the program, and what they are shown to be. -/
import Derived.Test.YtbiimljinilefaaDoorChecked
import Derived.Lib.Strings
import Derived.Lib.Slices
import Derived.Lib.Walk
import Derived.Lib.Bytealg
import Derived.Shelf.Strings.OnBuilder
import Derived.Test.YtbiimljinilefaaDoorSM2
namespace Go.Proofs
open Go.Shelf Go.Am
open Go.RowKit (Below)
end Go.Proofs
