/- The abstract machine, printed functions of the program, and what they are shown to be. -/
import Derived.Test.YtnijdmamheiebaaDoorChecked
import Derived.Lib.Strings
import Derived.Lib.Slices
import Derived.Lib.Walk
import Derived.Lib.Bytealg
import Derived.Shelf.Strings.OnBuilder
import Derived.Test.YtnijdmamheiebaaDoorCLSM3
namespace Go.Proofs
open Go.Shelf Go.Am
open Go.RowKit (Below)
set_option maxHeartbeats 1000000 in
set_option maxRecDepth 100000 in
theorem Tryd.stringslite_IndexByte (s:ByteArray)(c:Int)(w:World) :
    Calls Tryd.prog 38 #[.string s,.int .u8 c] w fun e w'=>e=.returned (.int .i64 (Lib.indexByte s.data.toList c.toNat.toUInt8))/\w'=w:=by
  go_enter Tryd.func38,Tryd.ntmps38
  go_wp2
  rw[run_callFunc_extern Tryd.func54 (by kernel_rfl) (by kernel_rfl) (by kernel_rfl) (e:=Extern.BytealgIndexByte.indexByte) (by kernel_rfl),Lib.run_indexByteString]
  simp only[Result.andThen]
  rw[Oper.upon_value]
  go_wp2
  go_ret
  exact⟨rfl,rfl⟩
theorem _root_.Go.Am.X.idxP_ok (base:Base)(w0:World):zDf Tryd.prog base w0 38 idxP:=primOk_idx (by kernel_rfl) Tryd.stringslite_IndexByte base w0
def Tryd.lays156_ren:Go.Shelf.Ren:=⟨fun | 156=>24 | 165=>34 | 166=>35 | 169=>36 | 240=>51 | 241=>52 | 276=>59 | 277=>60 | n=>n,fun | 31=>36 | 9=>9 | 3=>3 | 4=>4 | 0=>0 | 20=>20 | 72=>65 | 76=>69 | 70=>62 | 37=>63 | 75=>68 | 127=>78 | 164=>83 | 5=>5 | 80=>71 | n=>n,fun | n=>n⟩
theorem Tryd.lays156:Go.Proofs.Lays.n156 Tryd.prog Tryd.lays156_ren:={
  mixed:=by kernel_rfl
  f156:=Tryd.func24.trans (congrArg some (by kernel_rfl))
  f165:=Tryd.func34.trans (congrArg some (by kernel_rfl))
  f166:=Tryd.func35.trans (congrArg some (by kernel_rfl))
  f169:=Tryd.func36.trans (congrArg some (by kernel_rfl))
  f240:=Tryd.func51.trans (congrArg some (by kernel_rfl))
  f241:=Tryd.func52.trans (congrArg some (by kernel_rfl))
  f276:=Tryd.func59.trans (congrArg some (by kernel_rfl))
  f277:=Tryd.func60.trans (congrArg some (by kernel_rfl))
  t0:=Tryd.underlying0
  a0:=Tryd.isAgg0
  z0:=Tryd.sizeOf0
  v0:=Tryd.zeroValue0
  t3:=Tryd.underlying3
  a3:=Tryd.isAgg3
  z3:=Tryd.sizeOf3
  v3:=Tryd.zeroValue3
  t4:=Tryd.underlying4
  a4:=Tryd.isAgg4
  z4:=Tryd.sizeOf4
  v4:=Tryd.zeroValue4
  t9:=Tryd.underlying9
  a9:=Tryd.isAgg9
  z9:=Tryd.sizeOf9
  v9:=Tryd.zeroValue9
  t20:=Tryd.underlying20
  a20:=Tryd.isAgg20
  z20:=Tryd.sizeOf20
  v20:=Tryd.zeroValue20
  t31:=Tryd.underlying36
  a31:=Tryd.isAgg36
  z31:=Tryd.sizeOf36
  v31:=Tryd.zeroValue36
  t37:=Tryd.underlying63
  a37:=Tryd.isAgg63
  z37:=Tryd.sizeOf63
  v37:=Tryd.zeroValue63
  t70:=Tryd.underlying62
  a70:=Tryd.isAgg62
  z70:=Tryd.sizeOf62
  v70:=Tryd.zeroValue62
  t72:=Tryd.underlying65
  a72:=Tryd.isAgg65
  z72:=Tryd.sizeOf65
  v72:=Tryd.zeroValue65
  t75:=Tryd.underlying68
  a75:=Tryd.isAgg68
  z75:=Tryd.sizeOf68
  v75:=Tryd.zeroValue68
  t76:=Tryd.underlying69
  a76:=Tryd.isAgg69
  z76:=Tryd.sizeOf69
  v76:=Tryd.zeroValue69
  t127:=Tryd.underlying78
  a127:=Tryd.isAgg78
  z127:=Tryd.sizeOf78
  v127:=Tryd.zeroValue78
  t164:=Tryd.underlying83
  a164:=Tryd.isAgg83
  z164:=Tryd.sizeOf83
  v164:=Tryd.zeroValue83 }
theorem Tryd.Builder_Extra_156:Builder.Extra Tryd.prog Tryd.lays156_ren:={
  sizeBuilder:=by kernel_rfl
  liesBuilder:=by kernel_rfl
  t5:=Tryd.underlying5
  a5:=Tryd.isAgg5
  z5:=Tryd.sizeOf5
  v5:=Tryd.zeroValue5
  infoByte:=by kernel_rfl
  cellsByte:=by kernel_rfl
  sizeByte:=by kernel_rfl
  neB5:=by decide }
open Go.RowKit in
theorem Tryd.strings_Join_none (a:Option Addr)(c:Nat)(sep:ByteArray)(w:World) :
    Calls Tryd.prog 24 #[.slice a 0 c,.string sep] w fun e w'=>e=.returned (.string ⟨#[]⟩)/\w'=w:=Any.strings_Join_none Tryd.lays156 Tryd.Builder_Extra_156 a c sep w
open Go.RowKit in
theorem Tryd.strings_Join (bk o c:Nat)(xs:List ByteArray)(sep:ByteArray)(w:World)(hcells:∀ (j:Nat) x,xs[j]?=some x->w.cell? ⟨bk,o+j,none⟩=some (.string x))(hbk:bk<w.heap.size)(hN:xs.length<=140737488355328)(hcap:xs.length<=c)(hlen:(Lib.join (xs.map (·.data.toList)) sep.data.toList).length<=140737488355328) :
    Calls Tryd.prog 24 #[.slice (some ⟨bk,o,none⟩) xs.length c,.string sep] w fun e w'=>e=.returned (.string ⟨(Lib.join (xs.map (·.data.toList)) sep.data.toList).toArray⟩)/\Below w.heap.size w w':=Any.strings_Join Tryd.lays156 Tryd.Builder_Extra_156 bk o c xs sep w hcells hbk hN hcap hlen
theorem _root_.Go.Am.X.joinP_ok (base:Base)(w0:World):zDf Tryd.prog base w0 24 zLv:=primOk_join (by kernel_rfl) Tryd.strings_Join_none (fun bk o c xs sep w h1 h2 h3 h4 h5=>Tryd.strings_Join bk o c xs sep w h1 h2 h3 h4 h5) base w0
end Go.Proofs
