/- The abstract machine, printed functions of the program, and what they are shown to be. -/
import Derived.Test.YtejpgcemblankaaDoorChecked
import Derived.Lib.Strings
import Derived.Lib.Slices
import Derived.Lib.Walk
import Derived.Lib.Bytealg
import Derived.Shelf.Strings.OnBuilder
import Derived.Test.YtejpgcemblankaaDoorIMAM3
namespace Go.Proofs
open Go.Shelf Go.Am
open Go.RowKit (Below)
set_option maxHeartbeats 1000000 in
set_option maxRecDepth 100000 in
theorem Tryd.stringslite_IndexByte (s:ByteArray)(c:Int)(w:World) :
    Calls Tryd.prog 62 #[.string s,.int .u8 c] w fun e w'=>e=.returned (.int .i64 (Lib.indexByte s.data.toList c.toNat.toUInt8))/\w'=w:=by
  go_enter Tryd.func62,Tryd.ntmps62
  go_wp2
  rw[run_callFunc_extern Tryd.func70 (by kernel_rfl) (by kernel_rfl) (by kernel_rfl) (e:=Extern.BytealgIndexByte.indexByte) (by kernel_rfl),Lib.run_indexByteString]
  simp only[Result.andThen]
  rw[Oper.upon_value]
  go_wp2
  go_ret
  exact⟨rfl,rfl⟩
theorem _root_.Go.Am.X.idxP_ok (base:Base)(w0:World):zFL Tryd.prog base w0 62 idxP:=primOk_idx (by kernel_rfl) Tryd.stringslite_IndexByte base w0
end Go.Proofs
