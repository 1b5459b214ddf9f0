/- The abstract machine, printed functions of the program, and what they are shown to be. -/
import Derived.Test.YtbkhmjpamfepbaaDoorChecked
import Derived.Lib.Strings
import Derived.Lib.Slices
import Derived.Lib.Walk
import Derived.Lib.Bytealg
import Derived.Shelf.Strings.OnBuilder
import Derived.Shelf.Sort.Plain
import Derived.Shelf.Slices.In.SortNone
import Derived.Test.YtbkhmjpamfepbaaDoorARM3
import Derived.Shelf.Slices.CompactS
import Derived.Test.YtbkhmjpamfepbaaDoorARM2
namespace Go.Proofs
open Go.Shelf Go.Am
open Go.RowKit (Below)
set_option maxHeartbeats 1000000 in
set_option maxRecDepth 100000 in
theorem Tryd.stringslite_IndexByte (s : ByteArray) (c : Int) (w : World) :
    Calls Tryd.prog 131 #[.string s, .int .u8 c] w fun e w' => e = .returned (.int .i64 (Lib.indexByte s.data.toList c.toNat.toUInt8)) ∧ w' = w := by
  go_enter Tryd.func131, Tryd.ntmps131
  go_wp2
  rw [run_callFunc_extern Tryd.func163 (by kernel_rfl) (by kernel_rfl) (by kernel_rfl) (e := Extern.BytealgIndexByte.indexByte) (by kernel_rfl), Lib.run_indexByteString]
  simp only [Result.andThen]
  rw [Oper.upon_value]
  go_wp2
  go_ret
  exact ⟨rfl, rfl⟩
theorem _root_.Go.Am.X.idxP_ok (base : Nat) (w0 : World) : PrimOk Tryd.prog base w0 131 idxP := primOk_idx (by kernel_rfl) Tryd.stringslite_IndexByte base w0
def Tryd.lays156_ren : Go.Shelf.Ren := ⟨fun | 156 => 114 | 165 => 138 | 166 => 139 | 169 => 140 | 240 => 173 | 241 => 174 | 276 => 193 | 277 => 194 | n => n, fun | 31 => 63 | 9 => 9 | 3 => 3 | 4 => 4 | 0 => 0 | 20 => 20 | 72 => 183 | 76 => 187 | 70 => 181 | 37 => 22 | 75 => 186 | 127 => 221 | 164 => 238 | 5 => 5 | 80 => 189 | n => n, fun | n => n⟩
theorem Tryd.lays156 : Go.Proofs.Lays.n156 Tryd.prog Tryd.lays156_ren := {
  mixed := by kernel_rfl
  f156 := Tryd.func114.trans (congrArg some (by kernel_rfl))
  f165 := Tryd.func138.trans (congrArg some (by kernel_rfl))
  f166 := Tryd.func139.trans (congrArg some (by kernel_rfl))
  f169 := Tryd.func140.trans (congrArg some (by kernel_rfl))
  f240 := Tryd.func173.trans (congrArg some (by kernel_rfl))
  f241 := Tryd.func174.trans (congrArg some (by kernel_rfl))
  f276 := Tryd.func193.trans (congrArg some (by kernel_rfl))
  f277 := Tryd.func194.trans (congrArg some (by kernel_rfl))
  t0 := Tryd.underlying0
  a0 := Tryd.isAgg0
  z0 := Tryd.sizeOf0
  v0 := Tryd.zeroValue0
  t3 := Tryd.underlying3
  a3 := Tryd.isAgg3
  z3 := Tryd.sizeOf3
  v3 := Tryd.zeroValue3
  t4 := Tryd.underlying4
  a4 := Tryd.isAgg4
  z4 := Tryd.sizeOf4
  v4 := Tryd.zeroValue4
  t9 := Tryd.underlying9
  a9 := Tryd.isAgg9
  z9 := Tryd.sizeOf9
  v9 := Tryd.zeroValue9
  t20 := Tryd.underlying20
  a20 := Tryd.isAgg20
  z20 := Tryd.sizeOf20
  v20 := Tryd.zeroValue20
  t31 := Tryd.underlying63
  a31 := Tryd.isAgg63
  z31 := Tryd.sizeOf63
  v31 := Tryd.zeroValue63
  t37 := Tryd.underlying22
  a37 := Tryd.isAgg22
  z37 := Tryd.sizeOf22
  v37 := Tryd.zeroValue22
  t70 := Tryd.underlying181
  a70 := Tryd.isAgg181
  z70 := Tryd.sizeOf181
  v70 := Tryd.zeroValue181
  t72 := Tryd.underlying183
  a72 := Tryd.isAgg183
  z72 := Tryd.sizeOf183
  v72 := Tryd.zeroValue183
  t75 := Tryd.underlying186
  a75 := Tryd.isAgg186
  z75 := Tryd.sizeOf186
  v75 := Tryd.zeroValue186
  t76 := Tryd.underlying187
  a76 := Tryd.isAgg187
  z76 := Tryd.sizeOf187
  v76 := Tryd.zeroValue187
  t127 := Tryd.underlying221
  a127 := Tryd.isAgg221
  z127 := Tryd.sizeOf221
  v127 := Tryd.zeroValue221
  t164 := Tryd.underlying238
  a164 := Tryd.isAgg238
  z164 := Tryd.sizeOf238
  v164 := Tryd.zeroValue238 }
theorem Tryd.Builder_Extra_156 : Builder.Extra Tryd.prog Tryd.lays156_ren := {
  sizeBuilder := by kernel_rfl
  liesBuilder := by kernel_rfl
  t5 := Tryd.underlying5
  a5 := Tryd.isAgg5
  z5 := Tryd.sizeOf5
  v5 := Tryd.zeroValue5
  infoByte := by kernel_rfl
  cellsByte := by kernel_rfl
  sizeByte := by kernel_rfl
  neB5 := by decide }
open Go.RowKit in
theorem Tryd.strings_Join_none (a : Option Addr) (c : Nat) (sep : ByteArray) (w : World) :
    Calls Tryd.prog 114 #[.slice a 0 c, .string sep] w fun e w' => e = .returned (.string ⟨#[]⟩) ∧ w' = w := Any.strings_Join_none Tryd.lays156 Tryd.Builder_Extra_156 a c sep w
open Go.RowKit in
theorem Tryd.strings_Join (bk o c : Nat) (xs : List ByteArray) (sep : ByteArray) (w : World) (hcells : ∀ (j : Nat) x, xs[j]? = some x → w.cell? ⟨bk, o + j, none⟩ = some (.string x)) (hbk : bk < w.heap.size) (hN : xs.length ≤ 140737488355328) (hcap : xs.length ≤ c) (hlen : (Lib.join (xs.map (·.data.toList)) sep.data.toList).length ≤ 140737488355328) :
    Calls Tryd.prog 114 #[.slice (some ⟨bk, o, none⟩) xs.length c, .string sep] w fun e w' => e = .returned (.string ⟨(Lib.join (xs.map (·.data.toList)) sep.data.toList).toArray⟩) ∧ Below w.heap.size w w' := Any.strings_Join Tryd.lays156 Tryd.Builder_Extra_156 bk o c xs sep w hcells hbk hN hcap hlen
theorem _root_.Go.Am.X.joinP_ok (base : Nat) (w0 : World) : PrimOk Tryd.prog base w0 114 joinP := primOk_join (by kernel_rfl) Tryd.strings_Join_none (fun bk o c xs sep w h1 h2 h3 h4 h5 => Tryd.strings_Join bk o c xs sep w h1 h2 h3 h4 h5) base w0
def Tryd.lays190_ren : Go.Shelf.Ren := ⟨fun | 190 => 86 | 125 => 119 | 258 => 118 | 128 => 157 | 129 => 158 | 302 => 148 | 303 => 149 | 304 => 150 | 305 => 151 | 306 => 152 | 307 => 153 | 308 => 154 | 309 => 155 | 310 => 156 | 333 => 178 | 329 => 179 | 330 => 180 | 334 => 181 | 335 => 182 | 336 => 183 | 344 => 197 | n => n, fun | 31 => 63 | 9 => 9 | 3 => 3 | 46 => 135 | 0 => 0 | 51 => 143 | 53 => 110 | 4 => 4 | 183 => 199 | 182 => 198 | 131 => 204 | 5 => 5 | 218 => 224 | 222 => 228 | 228 => 241 | 229 => 242 | n => n, fun | n => n⟩
theorem Tryd.lays190 : Go.Proofs.Lays.n190 Tryd.prog Tryd.lays190_ren := {
  mixed := by kernel_rfl
  f125 := Tryd.func119.trans (congrArg some (by kernel_rfl))
  f128 := Tryd.func157.trans (congrArg some (by kernel_rfl))
  f129 := Tryd.func158.trans (congrArg some (by kernel_rfl))
  f190 := Tryd.func86.trans (congrArg some (by kernel_rfl))
  f258 := Tryd.func118.trans (congrArg some (by kernel_rfl))
  f302 := Tryd.func148.trans (congrArg some (by kernel_rfl))
  f303 := Tryd.func149.trans (congrArg some (by kernel_rfl))
  f304 := Tryd.func150.trans (congrArg some (by kernel_rfl))
  f305 := Tryd.func151.trans (congrArg some (by kernel_rfl))
  f306 := Tryd.func152.trans (congrArg some (by kernel_rfl))
  f307 := Tryd.func153.trans (congrArg some (by kernel_rfl))
  f308 := Tryd.func154.trans (congrArg some (by kernel_rfl))
  f309 := Tryd.func155.trans (congrArg some (by kernel_rfl))
  f310 := Tryd.func156.trans (congrArg some (by kernel_rfl))
  f329 := Tryd.func179.trans (congrArg some (by kernel_rfl))
  f330 := Tryd.func180.trans (congrArg some (by kernel_rfl))
  f333 := Tryd.func178.trans (congrArg some (by kernel_rfl))
  f334 := Tryd.func181.trans (congrArg some (by kernel_rfl))
  f335 := Tryd.func182.trans (congrArg some (by kernel_rfl))
  f336 := Tryd.func183.trans (congrArg some (by kernel_rfl))
  f344 := Tryd.func197.trans (congrArg some (by kernel_rfl))
  t0 := Tryd.underlying0
  a0 := Tryd.isAgg0
  z0 := Tryd.sizeOf0
  v0 := Tryd.zeroValue0
  t3 := Tryd.underlying3
  a3 := Tryd.isAgg3
  z3 := Tryd.sizeOf3
  v3 := Tryd.zeroValue3
  t4 := Tryd.underlying4
  a4 := Tryd.isAgg4
  z4 := Tryd.sizeOf4
  v4 := Tryd.zeroValue4
  t5 := Tryd.underlying5
  a5 := Tryd.isAgg5
  z5 := Tryd.sizeOf5
  v5 := Tryd.zeroValue5
  t9 := Tryd.underlying9
  a9 := Tryd.isAgg9
  z9 := Tryd.sizeOf9
  v9 := Tryd.zeroValue9
  t31 := Tryd.underlying63
  a31 := Tryd.isAgg63
  z31 := Tryd.sizeOf63
  v31 := Tryd.zeroValue63
  t46 := Tryd.underlying135
  a46 := Tryd.isAgg135
  z46 := Tryd.sizeOf135
  v46 := Tryd.zeroValue135
  t51 := Tryd.underlying143
  a51 := Tryd.isAgg143
  z51 := Tryd.sizeOf143
  v51 := Tryd.zeroValue143
  t53 := Tryd.underlying110
  a53 := Tryd.isAgg110
  z53 := Tryd.sizeOf110
  v53 := Tryd.zeroValue110
  t131 := Tryd.underlying204
  a131 := Tryd.isAgg204
  z131 := Tryd.sizeOf204
  v131 := Tryd.zeroValue204
  t182 := Tryd.underlying198
  a182 := Tryd.isAgg198
  z182 := Tryd.sizeOf198
  v182 := Tryd.zeroValue198
  t183 := Tryd.underlying199
  a183 := Tryd.isAgg199
  z183 := Tryd.sizeOf199
  v183 := Tryd.zeroValue199
  t218 := Tryd.underlying224
  a218 := Tryd.isAgg224
  z218 := Tryd.sizeOf224
  v218 := Tryd.zeroValue224
  t222 := Tryd.underlying228
  a222 := Tryd.isAgg228
  z222 := Tryd.sizeOf228
  v222 := Tryd.zeroValue228
  t228 := Tryd.underlying241
  a228 := Tryd.isAgg241
  z228 := Tryd.sizeOf241
  v228 := Tryd.zeroValue241
  t229 := Tryd.underlying242
  a229 := Tryd.isAgg242
  z229 := Tryd.sizeOf242
  v229 := Tryd.zeroValue242 }
open Go.Sort Go.RowKit in
theorem Tryd.slices_Sort_string (blk off cap : Nat) (ss : List (List UInt8)) (w : World) (hH : Holds encStr w blk off ss.toArray) (hblk : blk < w.heap.size) (hsz : ss.length < 4611686018427387904) :
    Calls Tryd.prog 86 #[.slice (some ⟨blk, off, none⟩) ss.length cap] w fun e w' =>
      e = .returned (.tuple #[]) ∧ ∃ n os, w' = grow (putRow encStr (Sort.ahead w n) blk off (ss.mergeSort fun x y => decide (x ≤ y)).toArray) os := Any.slices_Sort_string Tryd.lays190 blk off cap ss w hH hblk hsz
open Go.RowKit Go.Sort in
theorem Tryd.slices_Sort_string_none (p : Option Addr) (cap : Nat) (w : World) :
    Calls Tryd.prog 86 #[.slice p 0 cap] w fun e w' => e = .returned (.tuple #[]) ∧ w' = w := Any.slices_Sort_string_none Tryd.lays190 p cap w
theorem _root_.Go.Am.X.sortP_ok (base : Nat) (w0 : World) : PrimOk Tryd.prog base w0 86 sortP := primOk_sort (by kernel_rfl) Tryd.slices_Sort_string_none Tryd.slices_Sort_string base w0
def Tryd.lays194_ren : Go.Shelf.Ren := ⟨fun | 194 => 88 | n => n, fun | 31 => 63 | 9 => 9 | 3 => 3 | 4 => 4 | 0 => 0 | n => n, fun | n => n⟩
theorem Tryd.lays194 : Go.Proofs.Lays.n194 Tryd.prog Tryd.lays194_ren := {
  mixed := by kernel_rfl
  f194 := Tryd.func88.trans (congrArg some (by kernel_rfl))
  t0 := Tryd.underlying0
  a0 := Tryd.isAgg0
  z0 := Tryd.sizeOf0
  v0 := Tryd.zeroValue0
  t3 := Tryd.underlying3
  a3 := Tryd.isAgg3
  z3 := Tryd.sizeOf3
  v3 := Tryd.zeroValue3
  t4 := Tryd.underlying4
  a4 := Tryd.isAgg4
  z4 := Tryd.sizeOf4
  v4 := Tryd.zeroValue4
  t9 := Tryd.underlying9
  a9 := Tryd.isAgg9
  z9 := Tryd.sizeOf9
  v9 := Tryd.zeroValue9
  t31 := Tryd.underlying63
  a31 := Tryd.isAgg63
  z31 := Tryd.sizeOf63
  v31 := Tryd.zeroValue63 }
open Go.RowKit Go.Lib Go.Sort in
theorem Tryd.slices_Compact_string (blk off cap : Nat) (zs : List (List UInt8)) (w : World) (hH : Holds encStr w blk off zs.toArray) (hsz : zs.length ≤ 9223372036854775807) (hcap : zs.length ≤ cap) :
    Calls Tryd.prog 88 #[.slice (some ⟨blk, off, none⟩) zs.length cap] w fun e w' => e = .returned (.slice (some ⟨blk, off, none⟩) (Lib.compact zs).length cap) ∧ ∃ q, w' = putRow encStr (Sort.ahead w q) blk off (Lib.compact zs ++ List.replicate (zs.length - (Lib.compact zs).length) []).toArray := Any.slices_Compact_string Tryd.lays194 blk off cap zs w hH hsz hcap
open Go.RowKit Go.Lib Go.Sort in
theorem Tryd.slices_Compact_string_empty (a : Option Addr) (cap : Nat) (w : World) :
    Calls Tryd.prog 88 #[.slice a 0 cap] w fun e w' => e = .returned (.slice a 0 cap) ∧ w' = w := Any.slices_Compact_string_empty Tryd.lays194 a cap w
theorem _root_.Go.Am.X.compactP_ok (base : Nat) (w0 : World) : PrimOk Tryd.prog base w0 88 compactP := primOk_compact (by kernel_rfl) Tryd.slices_Compact_string_empty Tryd.slices_Compact_string base w0
end Go.Proofs
