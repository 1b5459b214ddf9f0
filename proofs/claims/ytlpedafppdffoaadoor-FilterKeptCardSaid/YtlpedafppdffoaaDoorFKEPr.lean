/- The abstract machine, printed functions of the program, and what they are shown to be. -/
import Derived.Test.YtlpedafppdffoaaDoorChecked
import Derived.Lib.Strings
import Derived.Lib.Slices
import Derived.Lib.Walk
import Derived.Lib.Bytealg
import Derived.Shelf.Strings.OnBuilder
import Derived.Shelf.Sort.Plain
import Derived.Shelf.Slices.In.SortNone
import Derived.Test.YtlpedafppdffoaaDoorFKEM4
import Derived.Shelf.SlIter.Nil
import Derived.Shelf.SlMaps.Copy
import Derived.Test.YtlpedafppdffoaaDoorFKEM5
import Derived.Test.YtlpedafppdffoaaDoorFKEM3
namespace Go.Proofs
open Go.Shelf Go.Am
open Go.RowKit (Below)
set_option maxHeartbeats 1000000 in
set_option maxRecDepth 100000 in
theorem Tryd.stringslite_IndexByte (s : ByteArray) (c : Int) (w : World) :
    Calls Tryd.prog 67 #[.string s, .int .u8 c] w fun e w' => e = .returned (.int .i64 (Lib.indexByte s.data.toList c.toNat.toUInt8)) ∧ w' = w := by
  go_enter Tryd.func67, Tryd.ntmps67
  go_wp2
  rw [run_callFunc_extern Tryd.func86 (by kernel_rfl) (by kernel_rfl) (by kernel_rfl) (e := Extern.BytealgIndexByte.indexByte) (by kernel_rfl), Lib.run_indexByteString]
  simp only [Result.andThen]
  rw [Oper.upon_value]
  go_wp2
  go_ret
  exact ⟨rfl, rfl⟩
theorem _root_.Go.Am.X.idxP_ok (base : Base) (w0 : World) : PrimOk Tryd.prog base w0 67 idxP := primOk_idx (by kernel_rfl) Tryd.stringslite_IndexByte base w0
def Tryd.lays156_ren : Go.Shelf.Ren := ⟨fun | 156 => 49 | 165 => 63 | 166 => 64 | 169 => 65 | 240 => 83 | 241 => 84 | 276 => 101 | 277 => 102 | n => n, fun | 31 => 57 | 9 => 9 | 3 => 3 | 4 => 4 | 0 => 0 | 20 => 20 | 72 => 98 | 76 => 102 | 70 => 96 | 37 => 34 | 75 => 101 | 127 => 116 | 164 => 129 | 5 => 5 | 80 => 104 | n => n, fun | n => n⟩
theorem Tryd.lays156 : Go.Proofs.Lays.n156 Tryd.prog Tryd.lays156_ren := {
  mixed := by kernel_rfl
  f156 := Tryd.func49.trans (congrArg some (by kernel_rfl))
  f165 := Tryd.func63.trans (congrArg some (by kernel_rfl))
  f166 := Tryd.func64.trans (congrArg some (by kernel_rfl))
  f169 := Tryd.func65.trans (congrArg some (by kernel_rfl))
  f240 := Tryd.func83.trans (congrArg some (by kernel_rfl))
  f241 := Tryd.func84.trans (congrArg some (by kernel_rfl))
  f276 := Tryd.func101.trans (congrArg some (by kernel_rfl))
  f277 := Tryd.func102.trans (congrArg some (by kernel_rfl))
  t0 := Tryd.underlying0
  a0 := Tryd.isAgg0
  z0 := Tryd.sizeOf0
  v0 := Tryd.zeroValue0
  t3 := Tryd.underlying3
  a3 := Tryd.isAgg3
  z3 := Tryd.sizeOf3
  v3 := Tryd.zeroValue3
  t4 := Tryd.underlying4
  a4 := Tryd.isAgg4
  z4 := Tryd.sizeOf4
  v4 := Tryd.zeroValue4
  t9 := Tryd.underlying9
  a9 := Tryd.isAgg9
  z9 := Tryd.sizeOf9
  v9 := Tryd.zeroValue9
  t20 := Tryd.underlying20
  a20 := Tryd.isAgg20
  z20 := Tryd.sizeOf20
  v20 := Tryd.zeroValue20
  t31 := Tryd.underlying57
  a31 := Tryd.isAgg57
  z31 := Tryd.sizeOf57
  v31 := Tryd.zeroValue57
  t37 := Tryd.underlying34
  a37 := Tryd.isAgg34
  z37 := Tryd.sizeOf34
  v37 := Tryd.zeroValue34
  t70 := Tryd.underlying96
  a70 := Tryd.isAgg96
  z70 := Tryd.sizeOf96
  v70 := Tryd.zeroValue96
  t72 := Tryd.underlying98
  a72 := Tryd.isAgg98
  z72 := Tryd.sizeOf98
  v72 := Tryd.zeroValue98
  t75 := Tryd.underlying101
  a75 := Tryd.isAgg101
  z75 := Tryd.sizeOf101
  v75 := Tryd.zeroValue101
  t76 := Tryd.underlying102
  a76 := Tryd.isAgg102
  z76 := Tryd.sizeOf102
  v76 := Tryd.zeroValue102
  t127 := Tryd.underlying116
  a127 := Tryd.isAgg116
  z127 := Tryd.sizeOf116
  v127 := Tryd.zeroValue116
  t164 := Tryd.underlying129
  a164 := Tryd.isAgg129
  z164 := Tryd.sizeOf129
  v164 := Tryd.zeroValue129 }
theorem Tryd.Builder_Extra_156 : Builder.Extra Tryd.prog Tryd.lays156_ren := {
  sizeBuilder := by kernel_rfl
  liesBuilder := by kernel_rfl
  t5 := Tryd.underlying5
  a5 := Tryd.isAgg5
  z5 := Tryd.sizeOf5
  v5 := Tryd.zeroValue5
  infoByte := by kernel_rfl
  cellsByte := by kernel_rfl
  sizeByte := by kernel_rfl
  neB5 := by decide }
open Go.RowKit in
theorem Tryd.strings_Join_none (a : Option Addr) (c : Nat) (sep : ByteArray) (w : World) :
    Calls Tryd.prog 49 #[.slice a 0 c, .string sep] w fun e w' => e = .returned (.string ⟨#[]⟩) ∧ w' = w := Any.strings_Join_none Tryd.lays156 Tryd.Builder_Extra_156 a c sep w
open Go.RowKit in
theorem Tryd.strings_Join (bk o c : Nat) (xs : List ByteArray) (sep : ByteArray) (w : World) (hcells : ∀ (j : Nat) x, xs[j]? = some x → w.cell? ⟨bk, o + j, none⟩ = some (.string x)) (hbk : bk < w.heap.size) (hN : xs.length ≤ 140737488355328) (hcap : xs.length ≤ c) (hlen : (Lib.join (xs.map (·.data.toList)) sep.data.toList).length ≤ 140737488355328) :
    Calls Tryd.prog 49 #[.slice (some ⟨bk, o, none⟩) xs.length c, .string sep] w fun e w' => e = .returned (.string ⟨(Lib.join (xs.map (·.data.toList)) sep.data.toList).toArray⟩) ∧ Below w.heap.size w w' := Any.strings_Join Tryd.lays156 Tryd.Builder_Extra_156 bk o c xs sep w hcells hbk hN hcap hlen
theorem _root_.Go.Am.X.joinP_ok (base : Base) (w0 : World) : PrimOk Tryd.prog base w0 49 joinP := primOk_join (by kernel_rfl) Tryd.strings_Join_none (fun bk o c xs sep w h1 h2 h3 h4 h5 => Tryd.strings_Join bk o c xs sep w h1 h2 h3 h4 h5) base w0
def Tryd.lays190_ren : Go.Shelf.Ren := ⟨fun | 190 => 95 | 125 => 113 | 258 => 112 | 128 => 135 | 129 => 119 | 302 => 126 | 303 => 127 | 304 => 128 | 305 => 129 | 306 => 130 | 307 => 131 | 308 => 132 | 309 => 133 | 310 => 134 | 333 => 149 | 329 => 150 | 330 => 151 | 334 => 152 | 335 => 153 | 336 => 154 | 344 => 160 | n => n, fun | 31 => 57 | 9 => 9 | 3 => 3 | 46 => 76 | 0 => 0 | 51 => 151 | 53 => 133 | 4 => 4 | 183 => 157 | 182 => 156 | 131 => 161 | 5 => 5 | 218 => 178 | 222 => 182 | 228 => 195 | 229 => 196 | n => n, fun | n => n⟩
theorem Tryd.lays190 : Go.Proofs.Lays.n190 Tryd.prog Tryd.lays190_ren := {
  mixed := by kernel_rfl
  f125 := Tryd.func113.trans (congrArg some (by kernel_rfl))
  f128 := Tryd.func135.trans (congrArg some (by kernel_rfl))
  f129 := Tryd.func119.trans (congrArg some (by kernel_rfl))
  f190 := Tryd.func95.trans (congrArg some (by kernel_rfl))
  f258 := Tryd.func112.trans (congrArg some (by kernel_rfl))
  f302 := Tryd.func126.trans (congrArg some (by kernel_rfl))
  f303 := Tryd.func127.trans (congrArg some (by kernel_rfl))
  f304 := Tryd.func128.trans (congrArg some (by kernel_rfl))
  f305 := Tryd.func129.trans (congrArg some (by kernel_rfl))
  f306 := Tryd.func130.trans (congrArg some (by kernel_rfl))
  f307 := Tryd.func131.trans (congrArg some (by kernel_rfl))
  f308 := Tryd.func132.trans (congrArg some (by kernel_rfl))
  f309 := Tryd.func133.trans (congrArg some (by kernel_rfl))
  f310 := Tryd.func134.trans (congrArg some (by kernel_rfl))
  f329 := Tryd.func150.trans (congrArg some (by kernel_rfl))
  f330 := Tryd.func151.trans (congrArg some (by kernel_rfl))
  f333 := Tryd.func149.trans (congrArg some (by kernel_rfl))
  f334 := Tryd.func152.trans (congrArg some (by kernel_rfl))
  f335 := Tryd.func153.trans (congrArg some (by kernel_rfl))
  f336 := Tryd.func154.trans (congrArg some (by kernel_rfl))
  f344 := Tryd.func160.trans (congrArg some (by kernel_rfl))
  t0 := Tryd.underlying0
  a0 := Tryd.isAgg0
  z0 := Tryd.sizeOf0
  v0 := Tryd.zeroValue0
  t3 := Tryd.underlying3
  a3 := Tryd.isAgg3
  z3 := Tryd.sizeOf3
  v3 := Tryd.zeroValue3
  t4 := Tryd.underlying4
  a4 := Tryd.isAgg4
  z4 := Tryd.sizeOf4
  v4 := Tryd.zeroValue4
  t5 := Tryd.underlying5
  a5 := Tryd.isAgg5
  z5 := Tryd.sizeOf5
  v5 := Tryd.zeroValue5
  t9 := Tryd.underlying9
  a9 := Tryd.isAgg9
  z9 := Tryd.sizeOf9
  v9 := Tryd.zeroValue9
  t31 := Tryd.underlying57
  a31 := Tryd.isAgg57
  z31 := Tryd.sizeOf57
  v31 := Tryd.zeroValue57
  t46 := Tryd.underlying76
  a46 := Tryd.isAgg76
  z46 := Tryd.sizeOf76
  v46 := Tryd.zeroValue76
  t51 := Tryd.underlying151
  a51 := Tryd.isAgg151
  z51 := Tryd.sizeOf151
  v51 := Tryd.zeroValue151
  t53 := Tryd.underlying133
  a53 := Tryd.isAgg133
  z53 := Tryd.sizeOf133
  v53 := Tryd.zeroValue133
  t131 := Tryd.underlying161
  a131 := Tryd.isAgg161
  z131 := Tryd.sizeOf161
  v131 := Tryd.zeroValue161
  t182 := Tryd.underlying156
  a182 := Tryd.isAgg156
  z182 := Tryd.sizeOf156
  v182 := Tryd.zeroValue156
  t183 := Tryd.underlying157
  a183 := Tryd.isAgg157
  z183 := Tryd.sizeOf157
  v183 := Tryd.zeroValue157
  t218 := Tryd.underlying178
  a218 := Tryd.isAgg178
  z218 := Tryd.sizeOf178
  v218 := Tryd.zeroValue178
  t222 := Tryd.underlying182
  a222 := Tryd.isAgg182
  z222 := Tryd.sizeOf182
  v222 := Tryd.zeroValue182
  t228 := Tryd.underlying195
  a228 := Tryd.isAgg195
  z228 := Tryd.sizeOf195
  v228 := Tryd.zeroValue195
  t229 := Tryd.underlying196
  a229 := Tryd.isAgg196
  z229 := Tryd.sizeOf196
  v229 := Tryd.zeroValue196 }
open Go.Sort Go.RowKit in
theorem Tryd.slices_Sort_string (blk off cap : Nat) (ss : List (List UInt8)) (w : World) (hH : Holds encStr w blk off ss.toArray) (hblk : blk < w.heap.size) (hsz : ss.length < 4611686018427387904) :
    Calls Tryd.prog 95 #[.slice (some ⟨blk, off, none⟩) ss.length cap] w fun e w' =>
      e = .returned (.tuple #[]) ∧ ∃ n os, w' = grow (putRow encStr (Sort.ahead w n) blk off (ss.mergeSort fun x y => decide (x ≤ y)).toArray) os := Any.slices_Sort_string Tryd.lays190 blk off cap ss w hH hblk hsz
open Go.RowKit Go.Sort in
theorem Tryd.slices_Sort_string_none (p : Option Addr) (cap : Nat) (w : World) :
    Calls Tryd.prog 95 #[.slice p 0 cap] w fun e w' => e = .returned (.tuple #[]) ∧ w' = w := Any.slices_Sort_string_none Tryd.lays190 p cap w
open Go.RowKit Go.Maps Go.Sort Go.Shelf
def Tryd.keys70_ren : Go.Shelf.Ren := ⟨fun | 7 => 70 | 10 => 96 | n => n, fun | 23 => 88 | 26 => 9 | 3 => 3 | 28 => 108 | 0 => 0 | 27 => 107 | 33 => 66 | 4 => 4 | n => n, fun | n => n⟩
theorem Tryd.keys70 : Go.Proofs.SlLaysZ.n7 Tryd.prog Tryd.keys70_ren := {
  mixed := by kernel_rfl
  f7 := ⟨Tryd.f70.name, by decide, Tryd.func70.trans (congrArg some (by kernel_rfl))⟩
  f10 := ⟨Tryd.f96.name, by decide, Tryd.func96.trans (congrArg some (by kernel_rfl))⟩
  t0 := Tryd.underlying0
  a0 := Tryd.isAgg0
  z0 := Tryd.sizeOf0
  v0 := Tryd.zeroValue0
  t4 := Tryd.underlying4
  a4 := Tryd.isAgg4
  z4 := Tryd.sizeOf4
  v4 := Tryd.zeroValue4
  t23 := Tryd.underlying88
  a23 := Tryd.isAgg88
  z23 := Tryd.sizeOf88
  v23 := Tryd.zeroValue88
  t26 := Tryd.underlying9
  a26 := Tryd.isAgg9
  z26 := Tryd.sizeOf9
  v26 := Tryd.zeroValue9
  t27 := Tryd.underlying107
  a27 := Tryd.isAgg107
  z27 := Tryd.sizeOf107
  v27 := Tryd.zeroValue107
  t28 := Tryd.underlying108
  a28 := Tryd.isAgg108
  z28 := Tryd.sizeOf108
  v28 := Tryd.zeroValue108
  t33 := Tryd.underlying66
  a33 := Tryd.isAgg66
  z33 := Tryd.sizeOf66
  v33 := Tryd.zeroValue66 }
def Tryd.sorted69_ren : Go.Shelf.Ren := ⟨fun | 6 => 69 | 8 => 94 | 9 => 95 | 11 => 111 | 13 => 113 | 12 => 112 | 23 => 135 | 24 => 119 | 14 => 126 | 15 => 127 | 16 => 128 | 17 => 129 | 18 => 130 | 19 => 131 | 20 => 132 | 21 => 133 | 22 => 134 | 25 => 149 | 26 => 150 | 27 => 151 | 28 => 152 | 29 => 153 | 30 => 154 | 31 => 160 | n => n, fun | 26 => 9 | 28 => 108 | 24 => 57 | 0 => 0 | 3 => 3 | 37 => 76 | 48 => 151 | 50 => 133 | 4 => 4 | 40 => 157 | 39 => 156 | 45 => 161 | 5 => 5 | 9 => 9 | 51 => 178 | 55 => 182 | 57 => 195 | 58 => 196 | 33 => 66 | n => n, fun | n => n⟩
theorem Tryd.sorted69 : Go.Proofs.SlLaysZ.n6 Tryd.prog Tryd.sorted69_ren := {
  mixed := by kernel_rfl
  f6 := ⟨Tryd.f69.name, by decide, Tryd.func69.trans (congrArg some (by kernel_rfl))⟩
  f8 := ⟨Tryd.f94.name, by decide, Tryd.func94.trans (congrArg some (by kernel_rfl))⟩
  f11 := ⟨Tryd.f111.name, by decide, Tryd.func111.trans (congrArg some (by kernel_rfl))⟩
  t0 := Tryd.underlying0
  a0 := Tryd.isAgg0
  z0 := Tryd.sizeOf0
  v0 := Tryd.zeroValue0
  t24 := Tryd.underlying57
  a24 := Tryd.isAgg57
  z24 := Tryd.sizeOf57
  v24 := Tryd.zeroValue57
  t26 := Tryd.underlying9
  a26 := Tryd.isAgg9
  z26 := Tryd.sizeOf9
  v26 := Tryd.zeroValue9
  t28 := Tryd.underlying108
  a28 := Tryd.isAgg108
  z28 := Tryd.sizeOf108
  v28 := Tryd.zeroValue108
  i26 := by kernel_rfl }
theorem Tryd.sorts69 (m : Nat) : AnyZ.SortsIn Tryd.prog Tryd.sorted69_ren Fence.wide m :=
  ⟨fun blk off cap ss W hH hblk hsz => callsIn_wide.2 (Tryd.slices_Sort_string blk off cap ss W hH hblk hsz),
   fun p cap W => callsIn_wide.2 (Tryd.slices_Sort_string_none p cap W)⟩
theorem Tryd.maps_Keys_70 (mb : Option Nat) (W : World) : CallsIn Fence.wide 5 Tryd.prog 70 #[.map mb] W fun e w' => e = .returned (.func (.func 96) #[] #[.pointer (some ⟨W.heap.size, 0, none⟩)]) ∧ w' = W.alloc (.cells #[.map mb] 88) :=
  AnyZ.keys_in Tryd.keys70 Fence.wide 5 trivial rfl mb W

set_option maxHeartbeats 1000000 in
/-- **slices.Sorted[string] AT WHAT maps.Keys[map[string]int,string,int] HANDED BACK FOR A MAP THAT IS NOT nil** ('w': the world AHEAD of maps.Keys' call): A NEW SLICE THAT HOLDS THE MAP's KEYS, SORTED; nil just where it has none; nothing that lay before has turned. -/
theorem Tryd.slices_Sorted_keys_69_70 {H : Type} (b nn : Nat) (D0 : DataW H) (R : Value → Option (DataW H × List MemPlace)) (w : World) (hown : w.ownsMap Tryd.prog 9 R b nn D0) (hmax : Maps.size D0 ≤ maxLen) (hbytes : Maps.size D0 * 16 ≤ 140737488355328) :
    CallsIn Fence.wide 5 Tryd.prog 69 #[.func (.func 96) #[] #[.pointer (some ⟨w.heap.size, 0, none⟩)]] (w.alloc (.cells #[.map (some b)] 88)) fun e w' => ∃ (v : Value) (ss : List (List UInt8)), e = .returned v ∧ ss.Perm (strKeys D0) ∧
      w'.ownsRow (w.alloc (.cells #[.map (some b)] 88)).heap.size 9 1 v ss.length ((ss.mergeSort (fun x y => decide (x ≤ y))).map encStr) ∧ (v = .slice none 0 0 ↔ ss = []) ∧ Below (w.alloc (.cells #[.map (some b)] 88)).heap.size (w.alloc (.cells #[.map (some b)] 88)) w' := by
  have hbl := hown.lt
  have hseq : SeqGives Fence.wide 2 Tryd.prog 96 #[.pointer (some ⟨w.heap.size, 0, none⟩)] encStr (fun ss => ss.Perm (strKeys D0)) (Maps.size D0) (w.alloc (.cells #[.map (some b)] 88)) :=
    AnyZ.keys_gives (ρ := Tryd.keys70_ren) { Tryd.keys70 with } Fence.wide _ trivial rfl (by omega) w.heap.size b nn D0 _ (by simp) (by simp) (by
      obtain ⟨es, clock, hb, Ft, hs, hD⟩ := hown
      exact ⟨es, clock, (Below.heap_alloc _ _ b hbl).trans hb, Ft, hs, hD⟩)
  exact AnyZ.sorted_in Tryd.sorted69 Fence.wide 5 trivial trivial trivial trivial rfl (by omega) (Tryd.sorts69 _) (enters_of Tryd.func95 (by kernel_rfl) rfl) 96 #[.pointer (some ⟨w.heap.size, 0, none⟩)] trivial (enters_of Tryd.func96 (by kernel_rfl) rfl) _ _ hmax hbytes _ hseq

set_option maxHeartbeats 1000000 in
theorem Tryd.names_own {H : Type} (b nn : Nat) (D0 : DataW H) (R : Value → Option (DataW H × List MemPlace)) (w : World) (hown : w.ownsMap Tryd.prog 9 R b nn D0) (hmax : Maps.size D0 ≤ maxLen) (hbytes : Maps.size D0 * 16 ≤ 140737488355328) :
    Calls Tryd.prog 57 #[.map (some b)] w fun e w' => ∃ (v : Value) (ss : List (List UInt8)), e = .returned v ∧ ss.Perm (strKeys D0) ∧
      w'.ownsRow w.heap.size 9 1 v ss.length ((ss.mergeSort (fun x y => decide (x ≤ y))).map encStr) ∧ (v = .slice none 0 0 ↔ ss = []) ∧ Below w.heap.size w w' := by
  refine (callsIn_wide (n := 6)).1 ?_
  have hfK : Fence.wide.fn 70 := trivial
  have hfS : Fence.wide.fn 69 := trivial
  refine callsIn_of_wp Tryd.func57 rfl trivial ?_ rfl
  simp only [Tryd.ntmps57, List.size_toArray, List.length_cons, List.length_nil, Nat.reduceAdd, Nat.reduceSub, Array.replicate_succ, Array.replicate_zero, List.push_toArray, List.append_toArray, List.nil_append, List.cons_append]
  gi_wp2_with (first
    | (gi_at_call 70; refine (Tryd.maps_Keys_70 _ _).mono ?_; rintro e w' ⟨rfl, rfl⟩)
    | (gi_at_call 69; refine (Tryd.slices_Sorted_keys_69_70 b nn D0 R w hown hmax hbytes).mono ?_; rintro e w' ⟨v, ss, rfl, hS, hrow, hnil, hb⟩))
  go_ret
  exact ⟨v, ss, rfl, hS, ownsRow_base_a hrow (by simp), hnil, ((Below.refl _ w).alloc (Nat.le_refl _) _).trans (hb.mono (by simp))⟩
theorem _root_.Go.Am.X.namesP_ok (base : Base) (w0 : World) : PrimOk Tryd.prog base w0 57 namesP := primOk_names (by kernel_rfl) (kt := 9) (et := 9) Tryd.underlying9 (fun b nn D0 w h1 h2 h3 => Tryd.names_own b nn D0 R0 w h1 h2 h3) base w0
end Go.Proofs
