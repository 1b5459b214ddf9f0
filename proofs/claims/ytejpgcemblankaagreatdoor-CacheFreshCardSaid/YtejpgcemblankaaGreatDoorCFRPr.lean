/- The abstract machine, printed functions of the program, and what they are shown to be. -/
import Derived.Test.YtejpgcemblankaaGreatDoorChecked
import Derived.Lib.Strings
import Derived.Lib.Slices
import Derived.Lib.Walk
import Derived.Lib.Bytealg
import Derived.Shelf.Strings.OnBuilder
import Derived.Shelf.Sort.Plain
import Derived.Shelf.Slices.In.SortNone
import Derived.Test.YtejpgcemblankaaGreatDoorCFRM4
import Derived.Shelf.Slices.CompactS
import Derived.Test.YtejpgcemblankaaGreatDoorCFRM3
namespace Go.Proofs
open Go.Shelf Go.Am
open Go.RowKit (Below)
set_option maxHeartbeats 1000000 in
set_option maxRecDepth 100000 in
theorem Tryz.stringslite_IndexByte (s:ByteArray)(c:Int)(w:World) :
    Calls Tryz.prog 205 #[.string s,.int .u8 c] w fun e w'=>e=.returned (.int .i64 (Lib.indexByte s.data.toList c.toNat.toUInt8))/\w'=w:=by
  go_enter Tryz.func205,Tryz.ntmps205
  go_wp2
  rw[run_callFunc_extern Tryz.func225 (by kernel_rfl) (by kernel_rfl) (by kernel_rfl) (e:=Extern.BytealgIndexByte.indexByte) (by kernel_rfl),Lib.run_indexByteString]
  simp only[Result.andThen]
  rw[Oper.upon_value]
  go_wp2
  go_ret
  exact⟨rfl,rfl⟩
theorem _root_.Go.Am.X.idxP_ok (base:Base)(w0:World):zCA Tryz.prog base w0 205 idxP:=primOk_idx (by kernel_rfl) Tryz.stringslite_IndexByte base w0
def Tryz.lays156_ren:Go.Shelf.Ren:=⟨fun | 156=>99 | 165=>137 | 166=>138 | 169=>139 | 240=>174 | 241=>175 | 276=>202 | 277=>203 | n=>n,fun | 31=>50 | 9=>9 | 3=>3 | 4=>4 | 0=>0 | 20=>20 | 72=>189 | 76=>193 | 70=>187 | 37=>28 | 75=>192 | 127=>227 | 164=>249 | 5=>5 | 80=>195 | n=>n,fun | n=>n⟩
theorem Tryz.lays156:Go.Proofs.Lays.n156 Tryz.prog Tryz.lays156_ren:={
  mixed:=by kernel_rfl
  f156:=Tryz.func99.trans (congrArg some (by kernel_rfl))
  f165:=Tryz.func137.trans (congrArg some (by kernel_rfl))
  f166:=Tryz.func138.trans (congrArg some (by kernel_rfl))
  f169:=Tryz.func139.trans (congrArg some (by kernel_rfl))
  f240:=Tryz.func174.trans (congrArg some (by kernel_rfl))
  f241:=Tryz.func175.trans (congrArg some (by kernel_rfl))
  f276:=Tryz.func202.trans (congrArg some (by kernel_rfl))
  f277:=Tryz.func203.trans (congrArg some (by kernel_rfl))
  t0:=Tryz.underlying0
  a0:=Tryz.isAgg0
  z0:=Tryz.sizeOf0
  v0:=Tryz.zeroValue0
  t3:=Tryz.underlying3
  a3:=Tryz.isAgg3
  z3:=Tryz.sizeOf3
  v3:=Tryz.zeroValue3
  t4:=Tryz.underlying4
  a4:=Tryz.isAgg4
  z4:=Tryz.sizeOf4
  v4:=Tryz.zeroValue4
  t9:=Tryz.underlying9
  a9:=Tryz.isAgg9
  z9:=Tryz.sizeOf9
  v9:=Tryz.zeroValue9
  t20:=Tryz.underlying20
  a20:=Tryz.isAgg20
  z20:=Tryz.sizeOf20
  v20:=Tryz.zeroValue20
  t31:=Tryz.underlying50
  a31:=Tryz.isAgg50
  z31:=Tryz.sizeOf50
  v31:=Tryz.zeroValue50
  t37:=Tryz.underlying28
  a37:=Tryz.isAgg28
  z37:=Tryz.sizeOf28
  v37:=Tryz.zeroValue28
  t70:=Tryz.underlying187
  a70:=Tryz.isAgg187
  z70:=Tryz.sizeOf187
  v70:=Tryz.zeroValue187
  t72:=Tryz.underlying189
  a72:=Tryz.isAgg189
  z72:=Tryz.sizeOf189
  v72:=Tryz.zeroValue189
  t75:=Tryz.underlying192
  a75:=Tryz.isAgg192
  z75:=Tryz.sizeOf192
  v75:=Tryz.zeroValue192
  t76:=Tryz.underlying193
  a76:=Tryz.isAgg193
  z76:=Tryz.sizeOf193
  v76:=Tryz.zeroValue193
  t127:=Tryz.underlying227
  a127:=Tryz.isAgg227
  z127:=Tryz.sizeOf227
  v127:=Tryz.zeroValue227
  t164:=Tryz.underlying249
  a164:=Tryz.isAgg249
  z164:=Tryz.sizeOf249
  v164:=Tryz.zeroValue249 }
theorem Tryz.Builder_Extra_156:Builder.Extra Tryz.prog Tryz.lays156_ren:={
  sizeBuilder:=by kernel_rfl
  liesBuilder:=by kernel_rfl
  t5:=Tryz.underlying5
  a5:=Tryz.isAgg5
  z5:=Tryz.sizeOf5
  v5:=Tryz.zeroValue5
  infoByte:=by kernel_rfl
  cellsByte:=by kernel_rfl
  sizeByte:=by kernel_rfl
  neB5:=by decide }
open Go.RowKit in
theorem Tryz.strings_Join_none (a:Option Addr)(c:Nat)(sep:ByteArray)(w:World) :
    Calls Tryz.prog 99 #[.slice a 0 c,.string sep] w fun e w'=>e=.returned (.string ⟨#[]⟩)/\w'=w:=Any.strings_Join_none Tryz.lays156 Tryz.Builder_Extra_156 a c sep w
open Go.RowKit in
theorem Tryz.strings_Join (bk o c:Nat)(xs:List ByteArray)(sep:ByteArray)(w:World)(hcells:∀ (j:Nat) x,xs[j]?=some x->w.cell? ⟨bk,o+j,none⟩=some (.string x))(hbk:bk<w.heap.size)(hN:xs.length<=140737488355328)(hcap:xs.length<=c)(hlen:(Lib.join (xs.map (·.data.toList)) sep.data.toList).length<=140737488355328) :
    Calls Tryz.prog 99 #[.slice (some ⟨bk,o,none⟩) xs.length c,.string sep] w fun e w'=>e=.returned (.string ⟨(Lib.join (xs.map (·.data.toList)) sep.data.toList).toArray⟩)/\Below w.heap.size w w':=Any.strings_Join Tryz.lays156 Tryz.Builder_Extra_156 bk o c xs sep w hcells hbk hN hcap hlen
theorem _root_.Go.Am.X.joinP_ok (base:Base)(w0:World):zCA Tryz.prog base w0 99 zNW:=primOk_join (by kernel_rfl) Tryz.strings_Join_none (fun bk o c xs sep w h1 h2 h3 h4 h5=>Tryz.strings_Join bk o c xs sep w h1 h2 h3 h4 h5) base w0
def Tryz.lays190_ren:Go.Shelf.Ren:=⟨fun | 190=>90 | 125=>134 | 258=>133 | 128=>171 | 129=>172 | 302=>162 | 303=>163 | 304=>164 | 305=>165 | 306=>166 | 307=>167 | 308=>168 | 309=>169 | 310=>170 | 333=>195 | 329=>196 | 330=>197 | 334=>198 | 335=>199 | 336=>200 | 344=>220 | n=>n,fun | 31=>50 | 9=>9 | 3=>3 | 46=>148 | 0=>0 | 51=>226 | 53=>200 | 4=>4 | 183=>218 | 182=>217 | 131=>223 | 5=>5 | 218=>242 | 222=>246 | 228=>255 | 229=>256 | n=>n,fun | n=>n⟩
theorem Tryz.lays190:Go.Proofs.Lays.n190 Tryz.prog Tryz.lays190_ren:={
  mixed:=by kernel_rfl
  f125:=Tryz.func134.trans (congrArg some (by kernel_rfl))
  f128:=Tryz.func171.trans (congrArg some (by kernel_rfl))
  f129:=Tryz.func172.trans (congrArg some (by kernel_rfl))
  f190:=Tryz.func90.trans (congrArg some (by kernel_rfl))
  f258:=Tryz.func133.trans (congrArg some (by kernel_rfl))
  f302:=Tryz.func162.trans (congrArg some (by kernel_rfl))
  f303:=Tryz.func163.trans (congrArg some (by kernel_rfl))
  f304:=Tryz.func164.trans (congrArg some (by kernel_rfl))
  f305:=Tryz.func165.trans (congrArg some (by kernel_rfl))
  f306:=Tryz.func166.trans (congrArg some (by kernel_rfl))
  f307:=Tryz.func167.trans (congrArg some (by kernel_rfl))
  f308:=Tryz.func168.trans (congrArg some (by kernel_rfl))
  f309:=Tryz.func169.trans (congrArg some (by kernel_rfl))
  f310:=Tryz.func170.trans (congrArg some (by kernel_rfl))
  f329:=Tryz.func196.trans (congrArg some (by kernel_rfl))
  f330:=Tryz.func197.trans (congrArg some (by kernel_rfl))
  f333:=Tryz.func195.trans (congrArg some (by kernel_rfl))
  f334:=Tryz.func198.trans (congrArg some (by kernel_rfl))
  f335:=Tryz.func199.trans (congrArg some (by kernel_rfl))
  f336:=Tryz.func200.trans (congrArg some (by kernel_rfl))
  f344:=Tryz.func220.trans (congrArg some (by kernel_rfl))
  t0:=Tryz.underlying0
  a0:=Tryz.isAgg0
  z0:=Tryz.sizeOf0
  v0:=Tryz.zeroValue0
  t3:=Tryz.underlying3
  a3:=Tryz.isAgg3
  z3:=Tryz.sizeOf3
  v3:=Tryz.zeroValue3
  t4:=Tryz.underlying4
  a4:=Tryz.isAgg4
  z4:=Tryz.sizeOf4
  v4:=Tryz.zeroValue4
  t5:=Tryz.underlying5
  a5:=Tryz.isAgg5
  z5:=Tryz.sizeOf5
  v5:=Tryz.zeroValue5
  t9:=Tryz.underlying9
  a9:=Tryz.isAgg9
  z9:=Tryz.sizeOf9
  v9:=Tryz.zeroValue9
  t31:=Tryz.underlying50
  a31:=Tryz.isAgg50
  z31:=Tryz.sizeOf50
  v31:=Tryz.zeroValue50
  t46:=Tryz.underlying148
  a46:=Tryz.isAgg148
  z46:=Tryz.sizeOf148
  v46:=Tryz.zeroValue148
  t51:=Tryz.underlying226
  a51:=Tryz.isAgg226
  z51:=Tryz.sizeOf226
  v51:=Tryz.zeroValue226
  t53:=Tryz.underlying200
  a53:=Tryz.isAgg200
  z53:=Tryz.sizeOf200
  v53:=Tryz.zeroValue200
  t131:=Tryz.underlying223
  a131:=Tryz.isAgg223
  z131:=Tryz.sizeOf223
  v131:=Tryz.zeroValue223
  t182:=Tryz.underlying217
  a182:=Tryz.isAgg217
  z182:=Tryz.sizeOf217
  v182:=Tryz.zeroValue217
  t183:=Tryz.underlying218
  a183:=Tryz.isAgg218
  z183:=Tryz.sizeOf218
  v183:=Tryz.zeroValue218
  t218:=Tryz.underlying242
  a218:=Tryz.isAgg242
  z218:=Tryz.sizeOf242
  v218:=Tryz.zeroValue242
  t222:=Tryz.underlying246
  a222:=Tryz.isAgg246
  z222:=Tryz.sizeOf246
  v222:=Tryz.zeroValue246
  t228:=Tryz.underlying255
  a228:=Tryz.isAgg255
  z228:=Tryz.sizeOf255
  v228:=Tryz.zeroValue255
  t229:=Tryz.underlying256
  a229:=Tryz.isAgg256
  z229:=Tryz.sizeOf256
  v229:=Tryz.zeroValue256 }
open Go.Sort Go.RowKit in
theorem Tryz.slices_Sort_string (blk off cap:Nat)(ss:List (List UInt8))(w:World)(hH:Holds encStr w blk off ss.toArray)(hblk:blk<w.heap.size)(hsz:ss.length<4611686018427387904) :
    Calls Tryz.prog 90 #[.slice (some ⟨blk,off,none⟩) ss.length cap] w fun e w' =>
      e=.returned (.tuple #[])/\∃ n os,w'=grow (putRow encStr (Sort.ahead w n) blk off (ss.mergeSort fun x y=>decide (x<=y)).toArray) os:=Any.slices_Sort_string Tryz.lays190 blk off cap ss w hH hblk hsz
open Go.RowKit Go.Sort in
theorem Tryz.slices_Sort_string_none (p:Option Addr)(cap:Nat)(w:World) :
    Calls Tryz.prog 90 #[.slice p 0 cap] w fun e w'=>e=.returned (.tuple #[])/\w'=w:=Any.slices_Sort_string_none Tryz.lays190 p cap w
theorem _root_.Go.Am.X.sortP_ok (base:Base)(w0:World):zCA Tryz.prog base w0 90 zMC:=primOk_sort (by kernel_rfl) Tryz.slices_Sort_string_none Tryz.slices_Sort_string base w0
def Tryz.lays194_ren:Go.Shelf.Ren:=⟨fun | 194=>92 | n=>n,fun | 31=>50 | 9=>9 | 3=>3 | 4=>4 | 0=>0 | n=>n,fun | n=>n⟩
theorem Tryz.lays194:Go.Proofs.Lays.n194 Tryz.prog Tryz.lays194_ren:={
  mixed:=by kernel_rfl
  f194:=Tryz.func92.trans (congrArg some (by kernel_rfl))
  t0:=Tryz.underlying0
  a0:=Tryz.isAgg0
  z0:=Tryz.sizeOf0
  v0:=Tryz.zeroValue0
  t3:=Tryz.underlying3
  a3:=Tryz.isAgg3
  z3:=Tryz.sizeOf3
  v3:=Tryz.zeroValue3
  t4:=Tryz.underlying4
  a4:=Tryz.isAgg4
  z4:=Tryz.sizeOf4
  v4:=Tryz.zeroValue4
  t9:=Tryz.underlying9
  a9:=Tryz.isAgg9
  z9:=Tryz.sizeOf9
  v9:=Tryz.zeroValue9
  t31:=Tryz.underlying50
  a31:=Tryz.isAgg50
  z31:=Tryz.sizeOf50
  v31:=Tryz.zeroValue50 }
open Go.RowKit Go.Lib Go.Sort in
theorem Tryz.slices_Compact_string (blk off cap:Nat)(zs:List (List UInt8))(w:World)(hH:Holds encStr w blk off zs.toArray)(hsz:zs.length<=9223372036854775807)(hcap:zs.length<=cap) :
    Calls Tryz.prog 92 #[.slice (some ⟨blk,off,none⟩) zs.length cap] w fun e w'=>e=.returned (.slice (some ⟨blk,off,none⟩) (Lib.compact zs).length cap)/\∃ q,w'=putRow encStr (Sort.ahead w q) blk off (Lib.compact zs++List.replicate (zs.length-(Lib.compact zs).length) []).toArray:=Any.slices_Compact_string Tryz.lays194 blk off cap zs w hH hsz hcap
open Go.RowKit Go.Lib Go.Sort in
theorem Tryz.slices_Compact_string_empty (a:Option Addr)(cap:Nat)(w:World) :
    Calls Tryz.prog 92 #[.slice a 0 cap] w fun e w'=>e=.returned (.slice a 0 cap)/\w'=w:=Any.slices_Compact_string_empty Tryz.lays194 a cap w
theorem _root_.Go.Am.X.compactP_ok (base:Base)(w0:World):zCA Tryz.prog base w0 92 zCI:=zR1 (by kernel_rfl) Tryz.slices_Compact_string_empty Tryz.slices_Compact_string base w0
end Go.Proofs
