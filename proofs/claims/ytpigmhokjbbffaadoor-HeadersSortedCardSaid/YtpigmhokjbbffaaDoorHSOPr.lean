/- The abstract machine, printed functions of the program, and what they are shown to be. -/
import Derived.Test.YtpigmhokjbbffaaDoorChecked
import Derived.Lib.Strings
import Derived.Lib.Slices
import Derived.Lib.Walk
import Derived.Lib.Bytealg
import Derived.Shelf.Strings.OnBuilder
import Derived.Shelf.Sort.Plain
import Derived.Shelf.Slices.In.SortNone
import Derived.Test.YtpigmhokjbbffaaDoorHSOM3
import Derived.Shelf.Slices.CompactS
import Derived.Test.YtpigmhokjbbffaaDoorHSOM2
namespace Go.Proofs
open Go.Shelf Go.Am
open Go.RowKit (Below)
set_option maxHeartbeats 1000000 in
set_option maxRecDepth 100000 in
theorem Tryd.stringslite_IndexByte (s : ByteArray) (c : Int) (w : World) :
    Calls Tryd.prog 86 #[.string s, .int .u8 c] w fun e w' => e = .returned (.int .i64 (Lib.indexByte s.data.toList c.toNat.toUInt8)) ∧ w' = w := by
  go_enter Tryd.func86, Tryd.ntmps86
  go_wp2
  rw [run_callFunc_extern Tryd.func110 (by kernel_rfl) (by kernel_rfl) (by kernel_rfl) (e := Extern.BytealgIndexByte.indexByte) (by kernel_rfl), Lib.run_indexByteString]
  simp only [Result.andThen]
  rw [Oper.upon_value]
  go_wp2
  go_ret
  exact ⟨rfl, rfl⟩
theorem _root_.Go.Am.X.idxP_ok (base : Nat) (w0 : World) : PrimOk Tryd.prog base w0 86 idxP := primOk_idx (by kernel_rfl) Tryd.stringslite_IndexByte base w0
def Tryd.lays156_ren : Go.Shelf.Ren := ⟨fun | 156 => 46 | 165 => 72 | 166 => 73 | 169 => 74 | 240 => 87 | 241 => 88 | 276 => 111 | 277 => 112 | n => n, fun | 31 => 22 | 9 => 9 | 3 => 3 | 4 => 4 | 0 => 0 | 20 => 20 | 72 => 88 | 76 => 92 | 70 => 86 | 37 => 69 | 75 => 91 | 127 => 103 | 164 => 120 | 5 => 5 | 80 => 94 | n => n, fun | n => n⟩
theorem Tryd.lays156 : Go.Proofs.Lays.n156 Tryd.prog Tryd.lays156_ren := {
  mixed := by kernel_rfl
  f156 := Tryd.func46.trans (congrArg some (by kernel_rfl))
  f165 := Tryd.func72.trans (congrArg some (by kernel_rfl))
  f166 := Tryd.func73.trans (congrArg some (by kernel_rfl))
  f169 := Tryd.func74.trans (congrArg some (by kernel_rfl))
  f240 := Tryd.func87.trans (congrArg some (by kernel_rfl))
  f241 := Tryd.func88.trans (congrArg some (by kernel_rfl))
  f276 := Tryd.func111.trans (congrArg some (by kernel_rfl))
  f277 := Tryd.func112.trans (congrArg some (by kernel_rfl))
  t0 := Tryd.underlying0
  a0 := Tryd.isAgg0
  z0 := Tryd.sizeOf0
  v0 := Tryd.zeroValue0
  t3 := Tryd.underlying3
  a3 := Tryd.isAgg3
  z3 := Tryd.sizeOf3
  v3 := Tryd.zeroValue3
  t4 := Tryd.underlying4
  a4 := Tryd.isAgg4
  z4 := Tryd.sizeOf4
  v4 := Tryd.zeroValue4
  t9 := Tryd.underlying9
  a9 := Tryd.isAgg9
  z9 := Tryd.sizeOf9
  v9 := Tryd.zeroValue9
  t20 := Tryd.underlying20
  a20 := Tryd.isAgg20
  z20 := Tryd.sizeOf20
  v20 := Tryd.zeroValue20
  t31 := Tryd.underlying22
  a31 := Tryd.isAgg22
  z31 := Tryd.sizeOf22
  v31 := Tryd.zeroValue22
  t37 := Tryd.underlying69
  a37 := Tryd.isAgg69
  z37 := Tryd.sizeOf69
  v37 := Tryd.zeroValue69
  t70 := Tryd.underlying86
  a70 := Tryd.isAgg86
  z70 := Tryd.sizeOf86
  v70 := Tryd.zeroValue86
  t72 := Tryd.underlying88
  a72 := Tryd.isAgg88
  z72 := Tryd.sizeOf88
  v72 := Tryd.zeroValue88
  t75 := Tryd.underlying91
  a75 := Tryd.isAgg91
  z75 := Tryd.sizeOf91
  v75 := Tryd.zeroValue91
  t76 := Tryd.underlying92
  a76 := Tryd.isAgg92
  z76 := Tryd.sizeOf92
  v76 := Tryd.zeroValue92
  t127 := Tryd.underlying103
  a127 := Tryd.isAgg103
  z127 := Tryd.sizeOf103
  v127 := Tryd.zeroValue103
  t164 := Tryd.underlying120
  a164 := Tryd.isAgg120
  z164 := Tryd.sizeOf120
  v164 := Tryd.zeroValue120 }
theorem Tryd.Builder_Extra_156 : Builder.Extra Tryd.prog Tryd.lays156_ren := {
  sizeBuilder := by kernel_rfl
  liesBuilder := by kernel_rfl
  t5 := Tryd.underlying5
  a5 := Tryd.isAgg5
  z5 := Tryd.sizeOf5
  v5 := Tryd.zeroValue5
  infoByte := by kernel_rfl
  cellsByte := by kernel_rfl
  sizeByte := by kernel_rfl
  neB5 := by decide }
open Go.RowKit in
theorem Tryd.strings_Join_none (a : Option Addr) (c : Nat) (sep : ByteArray) (w : World) :
    Calls Tryd.prog 46 #[.slice a 0 c, .string sep] w fun e w' => e = .returned (.string ⟨#[]⟩) ∧ w' = w := Any.strings_Join_none Tryd.lays156 Tryd.Builder_Extra_156 a c sep w
open Go.RowKit in
theorem Tryd.strings_Join (bk o c : Nat) (xs : List ByteArray) (sep : ByteArray) (w : World) (hcells : ∀ (j : Nat) x, xs[j]? = some x → w.cell? ⟨bk, o + j, none⟩ = some (.string x)) (hbk : bk < w.heap.size) (hN : xs.length ≤ 140737488355328) (hcap : xs.length ≤ c) (hlen : (Lib.join (xs.map (·.data.toList)) sep.data.toList).length ≤ 140737488355328) :
    Calls Tryd.prog 46 #[.slice (some ⟨bk, o, none⟩) xs.length c, .string sep] w fun e w' => e = .returned (.string ⟨(Lib.join (xs.map (·.data.toList)) sep.data.toList).toArray⟩) ∧ Below w.heap.size w w' := Any.strings_Join Tryd.lays156 Tryd.Builder_Extra_156 bk o c xs sep w hcells hbk hN hcap hlen
theorem _root_.Go.Am.X.joinP_ok (base : Nat) (w0 : World) : PrimOk Tryd.prog base w0 46 joinP := primOk_join (by kernel_rfl) Tryd.strings_Join_none (fun bk o c xs sep w h1 h2 h3 h4 h5 => Tryd.strings_Join bk o c xs sep w h1 h2 h3 h4 h5) base w0
def Tryd.lays190_ren : Go.Shelf.Ren := ⟨fun | 190 => 56 | 125 => 80 | 258 => 79 | 128 => 103 | 129 => 104 | 302 => 94 | 303 => 95 | 304 => 96 | 305 => 97 | 306 => 98 | 307 => 99 | 308 => 100 | 309 => 101 | 310 => 102 | 333 => 115 | 329 => 116 | 330 => 117 | 334 => 118 | 335 => 119 | 336 => 120 | 344 => 122 | n => n, fun | 31 => 22 | 9 => 9 | 3 => 3 | 46 => 98 | 0 => 0 | 51 => 116 | 53 => 118 | 4 => 4 | 183 => 109 | 182 => 108 | 131 => 113 | 5 => 5 | 218 => 125 | 222 => 129 | 228 => 137 | 229 => 138 | n => n, fun | n => n⟩
theorem Tryd.lays190 : Go.Proofs.Lays.n190 Tryd.prog Tryd.lays190_ren := {
  mixed := by kernel_rfl
  f125 := Tryd.func80.trans (congrArg some (by kernel_rfl))
  f128 := Tryd.func103.trans (congrArg some (by kernel_rfl))
  f129 := Tryd.func104.trans (congrArg some (by kernel_rfl))
  f190 := Tryd.func56.trans (congrArg some (by kernel_rfl))
  f258 := Tryd.func79.trans (congrArg some (by kernel_rfl))
  f302 := Tryd.func94.trans (congrArg some (by kernel_rfl))
  f303 := Tryd.func95.trans (congrArg some (by kernel_rfl))
  f304 := Tryd.func96.trans (congrArg some (by kernel_rfl))
  f305 := Tryd.func97.trans (congrArg some (by kernel_rfl))
  f306 := Tryd.func98.trans (congrArg some (by kernel_rfl))
  f307 := Tryd.func99.trans (congrArg some (by kernel_rfl))
  f308 := Tryd.func100.trans (congrArg some (by kernel_rfl))
  f309 := Tryd.func101.trans (congrArg some (by kernel_rfl))
  f310 := Tryd.func102.trans (congrArg some (by kernel_rfl))
  f329 := Tryd.func116.trans (congrArg some (by kernel_rfl))
  f330 := Tryd.func117.trans (congrArg some (by kernel_rfl))
  f333 := Tryd.func115.trans (congrArg some (by kernel_rfl))
  f334 := Tryd.func118.trans (congrArg some (by kernel_rfl))
  f335 := Tryd.func119.trans (congrArg some (by kernel_rfl))
  f336 := Tryd.func120.trans (congrArg some (by kernel_rfl))
  f344 := Tryd.func122.trans (congrArg some (by kernel_rfl))
  t0 := Tryd.underlying0
  a0 := Tryd.isAgg0
  z0 := Tryd.sizeOf0
  v0 := Tryd.zeroValue0
  t3 := Tryd.underlying3
  a3 := Tryd.isAgg3
  z3 := Tryd.sizeOf3
  v3 := Tryd.zeroValue3
  t4 := Tryd.underlying4
  a4 := Tryd.isAgg4
  z4 := Tryd.sizeOf4
  v4 := Tryd.zeroValue4
  t5 := Tryd.underlying5
  a5 := Tryd.isAgg5
  z5 := Tryd.sizeOf5
  v5 := Tryd.zeroValue5
  t9 := Tryd.underlying9
  a9 := Tryd.isAgg9
  z9 := Tryd.sizeOf9
  v9 := Tryd.zeroValue9
  t31 := Tryd.underlying22
  a31 := Tryd.isAgg22
  z31 := Tryd.sizeOf22
  v31 := Tryd.zeroValue22
  t46 := Tryd.underlying98
  a46 := Tryd.isAgg98
  z46 := Tryd.sizeOf98
  v46 := Tryd.zeroValue98
  t51 := Tryd.underlying116
  a51 := Tryd.isAgg116
  z51 := Tryd.sizeOf116
  v51 := Tryd.zeroValue116
  t53 := Tryd.underlying118
  a53 := Tryd.isAgg118
  z53 := Tryd.sizeOf118
  v53 := Tryd.zeroValue118
  t131 := Tryd.underlying113
  a131 := Tryd.isAgg113
  z131 := Tryd.sizeOf113
  v131 := Tryd.zeroValue113
  t182 := Tryd.underlying108
  a182 := Tryd.isAgg108
  z182 := Tryd.sizeOf108
  v182 := Tryd.zeroValue108
  t183 := Tryd.underlying109
  a183 := Tryd.isAgg109
  z183 := Tryd.sizeOf109
  v183 := Tryd.zeroValue109
  t218 := Tryd.underlying125
  a218 := Tryd.isAgg125
  z218 := Tryd.sizeOf125
  v218 := Tryd.zeroValue125
  t222 := Tryd.underlying129
  a222 := Tryd.isAgg129
  z222 := Tryd.sizeOf129
  v222 := Tryd.zeroValue129
  t228 := Tryd.underlying137
  a228 := Tryd.isAgg137
  z228 := Tryd.sizeOf137
  v228 := Tryd.zeroValue137
  t229 := Tryd.underlying138
  a229 := Tryd.isAgg138
  z229 := Tryd.sizeOf138
  v229 := Tryd.zeroValue138 }
open Go.Sort Go.RowKit in
theorem Tryd.slices_Sort_string (blk off cap : Nat) (ss : List (List UInt8)) (w : World) (hH : Holds encStr w blk off ss.toArray) (hblk : blk < w.heap.size) (hsz : ss.length < 4611686018427387904) :
    Calls Tryd.prog 56 #[.slice (some ⟨blk, off, none⟩) ss.length cap] w fun e w' =>
      e = .returned (.tuple #[]) ∧ ∃ n os, w' = grow (putRow encStr (Sort.ahead w n) blk off (ss.mergeSort fun x y => decide (x ≤ y)).toArray) os := Any.slices_Sort_string Tryd.lays190 blk off cap ss w hH hblk hsz
open Go.RowKit Go.Sort in
theorem Tryd.slices_Sort_string_none (p : Option Addr) (cap : Nat) (w : World) :
    Calls Tryd.prog 56 #[.slice p 0 cap] w fun e w' => e = .returned (.tuple #[]) ∧ w' = w := Any.slices_Sort_string_none Tryd.lays190 p cap w
theorem _root_.Go.Am.X.sortP_ok (base : Nat) (w0 : World) : PrimOk Tryd.prog base w0 56 sortP := primOk_sort (by kernel_rfl) Tryd.slices_Sort_string_none Tryd.slices_Sort_string base w0
def Tryd.lays194_ren : Go.Shelf.Ren := ⟨fun | 194 => 57 | n => n, fun | 31 => 22 | 9 => 9 | 3 => 3 | 4 => 4 | 0 => 0 | n => n, fun | n => n⟩
theorem Tryd.lays194 : Go.Proofs.Lays.n194 Tryd.prog Tryd.lays194_ren := {
  mixed := by kernel_rfl
  f194 := Tryd.func57.trans (congrArg some (by kernel_rfl))
  t0 := Tryd.underlying0
  a0 := Tryd.isAgg0
  z0 := Tryd.sizeOf0
  v0 := Tryd.zeroValue0
  t3 := Tryd.underlying3
  a3 := Tryd.isAgg3
  z3 := Tryd.sizeOf3
  v3 := Tryd.zeroValue3
  t4 := Tryd.underlying4
  a4 := Tryd.isAgg4
  z4 := Tryd.sizeOf4
  v4 := Tryd.zeroValue4
  t9 := Tryd.underlying9
  a9 := Tryd.isAgg9
  z9 := Tryd.sizeOf9
  v9 := Tryd.zeroValue9
  t31 := Tryd.underlying22
  a31 := Tryd.isAgg22
  z31 := Tryd.sizeOf22
  v31 := Tryd.zeroValue22 }
open Go.RowKit Go.Lib Go.Sort in
theorem Tryd.slices_Compact_string (blk off cap : Nat) (zs : List (List UInt8)) (w : World) (hH : Holds encStr w blk off zs.toArray) (hsz : zs.length ≤ 9223372036854775807) (hcap : zs.length ≤ cap) :
    Calls Tryd.prog 57 #[.slice (some ⟨blk, off, none⟩) zs.length cap] w fun e w' => e = .returned (.slice (some ⟨blk, off, none⟩) (Lib.compact zs).length cap) ∧ ∃ q, w' = putRow encStr (Sort.ahead w q) blk off (Lib.compact zs ++ List.replicate (zs.length - (Lib.compact zs).length) []).toArray := Any.slices_Compact_string Tryd.lays194 blk off cap zs w hH hsz hcap
open Go.RowKit Go.Lib Go.Sort in
theorem Tryd.slices_Compact_string_empty (a : Option Addr) (cap : Nat) (w : World) :
    Calls Tryd.prog 57 #[.slice a 0 cap] w fun e w' => e = .returned (.slice a 0 cap) ∧ w' = w := Any.slices_Compact_string_empty Tryd.lays194 a cap w
theorem _root_.Go.Am.X.compactP_ok (base : Nat) (w0 : World) : PrimOk Tryd.prog base w0 57 compactP := primOk_compact (by kernel_rfl) Tryd.slices_Compact_string_empty Tryd.slices_Compact_string base w0
end Go.Proofs
