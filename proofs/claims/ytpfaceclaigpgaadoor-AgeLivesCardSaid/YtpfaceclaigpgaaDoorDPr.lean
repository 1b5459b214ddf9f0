/- The abstract machine's texts for the law AgeBefore: printed functions of the program, and what they are shown to be. -/
import Derived.Test.YtpfaceclaigpgaaDoorChecked
import Derived.Lib.Strings
import Derived.Lib.Slices
import Derived.Lib.Walk
import Derived.Lib.Bytealg
import Derived.Shelf.Strings.OnBuilder
import Derived.Test.YtpfaceclaigpgaaDoorAm30
namespace Go.Proofs
open Go.Shelf Go.Am
open Go.RowKit (Below)
set_option maxHeartbeats 1000000 in
set_option maxRecDepth 100000 in
theorem Tryd.stringslite_IndexByte (s : ByteArray) (c : Int) (w : World) :
    Calls Tryd.prog 131 #[.string s, .int .u8 c] w fun e w' => e = .returned (.int .i64 (Lib.indexByte s.data.toList c.toNat.toUInt8)) ∧ w' = w := by
  go_enter Tryd.func131, Tryd.ntmps131
  go_wp2
  rw [run_callFunc_extern Tryd.func163 (by kernel_rfl) (by kernel_rfl) (by kernel_rfl) (e := Extern.BytealgIndexByte.indexByte) (by kernel_rfl), Lib.run_indexByteString]
  simp only [Result.andThen]
  rw [Oper.upon_value]
  go_wp2
  go_ret
  exact ⟨rfl, rfl⟩
theorem idxP131_ok (base : Nat) (w0 : World) : PrimOk Tryd.prog base w0 131 idxP := primOk_idx (by kernel_rfl) Tryd.stringslite_IndexByte base w0
def Tryd.lays156_ren : Go.Shelf.Ren := ⟨fun | 156 => 113 | 165 => 137 | 166 => 138 | 169 => 139 | 240 => 169 | 241 => 170 | 276 => 189 | 277 => 190 | n => n, fun | 31 => 83 | 9 => 9 | 3 => 3 | 4 => 4 | 0 => 0 | 20 => 20 | 72 => 182 | 76 => 186 | 70 => 180 | 37 => 22 | 75 => 185 | 127 => 217 | 164 => 234 | 5 => 5 | 80 => 188 | n => n, fun | n => n⟩
theorem Tryd.lays156 : Go.Proofs.Lays.n156 Tryd.prog Tryd.lays156_ren := {
  mixed := by kernel_rfl
  f156 := Tryd.func113.trans (congrArg some (by kernel_rfl))
  f165 := Tryd.func137.trans (congrArg some (by kernel_rfl))
  f166 := Tryd.func138.trans (congrArg some (by kernel_rfl))
  f169 := Tryd.func139.trans (congrArg some (by kernel_rfl))
  f240 := Tryd.func169.trans (congrArg some (by kernel_rfl))
  f241 := Tryd.func170.trans (congrArg some (by kernel_rfl))
  f276 := Tryd.func189.trans (congrArg some (by kernel_rfl))
  f277 := Tryd.func190.trans (congrArg some (by kernel_rfl))
  t0 := Tryd.underlying0
  a0 := Tryd.isAgg0
  z0 := Tryd.sizeOf0
  v0 := Tryd.zeroValue0
  t3 := Tryd.underlying3
  a3 := Tryd.isAgg3
  z3 := Tryd.sizeOf3
  v3 := Tryd.zeroValue3
  t4 := Tryd.underlying4
  a4 := Tryd.isAgg4
  z4 := Tryd.sizeOf4
  v4 := Tryd.zeroValue4
  t9 := Tryd.underlying9
  a9 := Tryd.isAgg9
  z9 := Tryd.sizeOf9
  v9 := Tryd.zeroValue9
  t20 := Tryd.underlying20
  a20 := Tryd.isAgg20
  z20 := Tryd.sizeOf20
  v20 := Tryd.zeroValue20
  t31 := Tryd.underlying83
  a31 := Tryd.isAgg83
  z31 := Tryd.sizeOf83
  v31 := Tryd.zeroValue83
  t37 := Tryd.underlying22
  a37 := Tryd.isAgg22
  z37 := Tryd.sizeOf22
  v37 := Tryd.zeroValue22
  t70 := Tryd.underlying180
  a70 := Tryd.isAgg180
  z70 := Tryd.sizeOf180
  v70 := Tryd.zeroValue180
  t72 := Tryd.underlying182
  a72 := Tryd.isAgg182
  z72 := Tryd.sizeOf182
  v72 := Tryd.zeroValue182
  t75 := Tryd.underlying185
  a75 := Tryd.isAgg185
  z75 := Tryd.sizeOf185
  v75 := Tryd.zeroValue185
  t76 := Tryd.underlying186
  a76 := Tryd.isAgg186
  z76 := Tryd.sizeOf186
  v76 := Tryd.zeroValue186
  t127 := Tryd.underlying217
  a127 := Tryd.isAgg217
  z127 := Tryd.sizeOf217
  v127 := Tryd.zeroValue217
  t164 := Tryd.underlying234
  a164 := Tryd.isAgg234
  z164 := Tryd.sizeOf234
  v164 := Tryd.zeroValue234 }
theorem Tryd.Builder_Extra_156 : Builder.Extra Tryd.prog Tryd.lays156_ren := {
  sizeBuilder := by kernel_rfl
  liesBuilder := by kernel_rfl
  t5 := Tryd.underlying5
  a5 := Tryd.isAgg5
  z5 := Tryd.sizeOf5
  v5 := Tryd.zeroValue5
  infoByte := by kernel_rfl
  cellsByte := by kernel_rfl
  sizeByte := by kernel_rfl
  neB5 := by decide }
theorem Tryd.strings_Join_none (a : Option Addr) (c : Nat) (sep : ByteArray) (w : World) :
    Calls Tryd.prog 113 #[.slice a 0 c, .string sep] w fun e w' => e = .returned (.string ⟨#[]⟩) ∧ w' = w := Any.strings_Join_none Tryd.lays156 Tryd.Builder_Extra_156 a c sep w
theorem Tryd.strings_Join (bk o c : Nat) (xs : List ByteArray) (sep : ByteArray) (w : World) (hcells : ∀ (j : Nat) x, xs[j]? = some x → w.cell? ⟨bk, o + j, none⟩ = some (.string x)) (hbk : bk < w.heap.size) (hN : xs.length ≤ 140737488355328) (hcap : xs.length ≤ c) (hlen : (Lib.join (xs.map (·.data.toList)) sep.data.toList).length ≤ 140737488355328) :
    Calls Tryd.prog 113 #[.slice (some ⟨bk, o, none⟩) xs.length c, .string sep] w fun e w' => e = .returned (.string ⟨(Lib.join (xs.map (·.data.toList)) sep.data.toList).toArray⟩) ∧ Below w.heap.size w w' := Any.strings_Join Tryd.lays156 Tryd.Builder_Extra_156 bk o c xs sep w hcells hbk hN hcap hlen
theorem joinP113_ok (base : Nat) (w0 : World) : PrimOk Tryd.prog base w0 113 joinP := primOk_join (by kernel_rfl) Tryd.strings_Join_none (fun bk o c xs sep w h1 h2 h3 h4 h5 => Tryd.strings_Join bk o c xs sep w h1 h2 h3 h4 h5) base w0
end Go.Proofs
