/- The abstract machine, printed functions of the program, and what they are shown to be. -/
import Derived.Test.YtlpedafppdffoaaGreatDoorChecked
import Derived.Lib.Strings
import Derived.Lib.Slices
import Derived.Lib.Walk
import Derived.Lib.Bytealg
import Derived.Shelf.Strings.OnBuilder
import Derived.Shelf.Sort.Plain
import Derived.Shelf.Slices.In.SortNone
import Derived.Test.YtlpedafppdffoaaGreatDoorFSHM4
import Derived.Shelf.SlIter.Nil
import Derived.Shelf.SlMaps.Copy
import Derived.Test.YtlpedafppdffoaaGreatDoorFSHM5
import Derived.Test.YtlpedafppdffoaaGreatDoorFSHM3
namespace Go.Proofs
open Go.Shelf Go.Am
open Go.RowKit (Below)
set_option maxHeartbeats 1000000 in
set_option maxRecDepth 100000 in
theorem Tryz.stringslite_IndexByte (s : ByteArray) (c : Int) (w : World) :
    Calls Tryz.prog 145 #[.string s, .int .u8 c] w fun e w' => e = .returned (.int .i64 (Lib.indexByte s.data.toList c.toNat.toUInt8)) ∧ w' = w := by
  go_enter Tryz.func145, Tryz.ntmps145
  go_wp2
  rw [run_callFunc_extern Tryz.func175 (by kernel_rfl) (by kernel_rfl) (by kernel_rfl) (e := Extern.BytealgIndexByte.indexByte) (by kernel_rfl), Lib.run_indexByteString]
  simp only [Result.andThen]
  rw [Oper.upon_value]
  go_wp2
  go_ret
  exact ⟨rfl, rfl⟩
theorem _root_.Go.Am.X.idxP_ok (base : Base) (w0 : World) : PrimOk Tryz.prog base w0 145 idxP := primOk_idx (by kernel_rfl) Tryz.stringslite_IndexByte base w0
def Tryz.lays156_ren : Go.Shelf.Ren := ⟨fun | 156 => 88 | 165 => 122 | 166 => 123 | 169 => 124 | 240 => 159 | 241 => 160 | 276 => 183 | 277 => 184 | n => n, fun | 31 => 43 | 9 => 9 | 3 => 3 | 4 => 4 | 0 => 0 | 20 => 20 | 72 => 143 | 76 => 147 | 70 => 141 | 37 => 23 | 75 => 146 | 127 => 176 | 164 => 192 | 5 => 5 | 80 => 149 | n => n, fun | n => n⟩
theorem Tryz.lays156 : Go.Proofs.Lays.n156 Tryz.prog Tryz.lays156_ren := {
  mixed := by kernel_rfl
  f156 := Tryz.func88.trans (congrArg some (by kernel_rfl))
  f165 := Tryz.func122.trans (congrArg some (by kernel_rfl))
  f166 := Tryz.func123.trans (congrArg some (by kernel_rfl))
  f169 := Tryz.func124.trans (congrArg some (by kernel_rfl))
  f240 := Tryz.func159.trans (congrArg some (by kernel_rfl))
  f241 := Tryz.func160.trans (congrArg some (by kernel_rfl))
  f276 := Tryz.func183.trans (congrArg some (by kernel_rfl))
  f277 := Tryz.func184.trans (congrArg some (by kernel_rfl))
  t0 := Tryz.underlying0
  a0 := Tryz.isAgg0
  z0 := Tryz.sizeOf0
  v0 := Tryz.zeroValue0
  t3 := Tryz.underlying3
  a3 := Tryz.isAgg3
  z3 := Tryz.sizeOf3
  v3 := Tryz.zeroValue3
  t4 := Tryz.underlying4
  a4 := Tryz.isAgg4
  z4 := Tryz.sizeOf4
  v4 := Tryz.zeroValue4
  t9 := Tryz.underlying9
  a9 := Tryz.isAgg9
  z9 := Tryz.sizeOf9
  v9 := Tryz.zeroValue9
  t20 := Tryz.underlying20
  a20 := Tryz.isAgg20
  z20 := Tryz.sizeOf20
  v20 := Tryz.zeroValue20
  t31 := Tryz.underlying43
  a31 := Tryz.isAgg43
  z31 := Tryz.sizeOf43
  v31 := Tryz.zeroValue43
  t37 := Tryz.underlying23
  a37 := Tryz.isAgg23
  z37 := Tryz.sizeOf23
  v37 := Tryz.zeroValue23
  t70 := Tryz.underlying141
  a70 := Tryz.isAgg141
  z70 := Tryz.sizeOf141
  v70 := Tryz.zeroValue141
  t72 := Tryz.underlying143
  a72 := Tryz.isAgg143
  z72 := Tryz.sizeOf143
  v72 := Tryz.zeroValue143
  t75 := Tryz.underlying146
  a75 := Tryz.isAgg146
  z75 := Tryz.sizeOf146
  v75 := Tryz.zeroValue146
  t76 := Tryz.underlying147
  a76 := Tryz.isAgg147
  z76 := Tryz.sizeOf147
  v76 := Tryz.zeroValue147
  t127 := Tryz.underlying176
  a127 := Tryz.isAgg176
  z127 := Tryz.sizeOf176
  v127 := Tryz.zeroValue176
  t164 := Tryz.underlying192
  a164 := Tryz.isAgg192
  z164 := Tryz.sizeOf192
  v164 := Tryz.zeroValue192 }
theorem Tryz.Builder_Extra_156 : Builder.Extra Tryz.prog Tryz.lays156_ren := {
  sizeBuilder := by kernel_rfl
  liesBuilder := by kernel_rfl
  t5 := Tryz.underlying5
  a5 := Tryz.isAgg5
  z5 := Tryz.sizeOf5
  v5 := Tryz.zeroValue5
  infoByte := by kernel_rfl
  cellsByte := by kernel_rfl
  sizeByte := by kernel_rfl
  neB5 := by decide }
open Go.RowKit in
theorem Tryz.strings_Join_none (a : Option Addr) (c : Nat) (sep : ByteArray) (w : World) :
    Calls Tryz.prog 88 #[.slice a 0 c, .string sep] w fun e w' => e = .returned (.string ⟨#[]⟩) ∧ w' = w := Any.strings_Join_none Tryz.lays156 Tryz.Builder_Extra_156 a c sep w
open Go.RowKit in
theorem Tryz.strings_Join (bk o c : Nat) (xs : List ByteArray) (sep : ByteArray) (w : World) (hcells : ∀ (j : Nat) x, xs[j]? = some x → w.cell? ⟨bk, o + j, none⟩ = some (.string x)) (hbk : bk < w.heap.size) (hN : xs.length ≤ 140737488355328) (hcap : xs.length ≤ c) (hlen : (Lib.join (xs.map (·.data.toList)) sep.data.toList).length ≤ 140737488355328) :
    Calls Tryz.prog 88 #[.slice (some ⟨bk, o, none⟩) xs.length c, .string sep] w fun e w' => e = .returned (.string ⟨(Lib.join (xs.map (·.data.toList)) sep.data.toList).toArray⟩) ∧ Below w.heap.size w w' := Any.strings_Join Tryz.lays156 Tryz.Builder_Extra_156 bk o c xs sep w hcells hbk hN hcap hlen
theorem _root_.Go.Am.X.joinP_ok (base : Base) (w0 : World) : PrimOk Tryz.prog base w0 88 joinP := primOk_join (by kernel_rfl) Tryz.strings_Join_none (fun bk o c xs sep w h1 h2 h3 h4 h5 => Tryz.strings_Join bk o c xs sep w h1 h2 h3 h4 h5) base w0
def Tryz.lays190_ren : Go.Shelf.Ren := ⟨fun | 190 => 83 | 125 => 121 | 258 => 120 | 128 => 157 | 129 => 158 | 302 => 148 | 303 => 149 | 304 => 150 | 305 => 151 | 306 => 152 | 307 => 153 | 308 => 154 | 309 => 155 | 310 => 156 | 333 => 177 | 329 => 178 | 330 => 179 | 334 => 180 | 335 => 181 | 336 => 182 | 344 => 200 | n => n, fun | 31 => 43 | 9 => 9 | 3 => 3 | 46 => 97 | 0 => 0 | 51 => 173 | 53 => 175 | 4 => 4 | 183 => 166 | 182 => 165 | 131 => 170 | 5 => 5 | 218 => 186 | 222 => 190 | 228 => 204 | 229 => 205 | n => n, fun | n => n⟩
theorem Tryz.lays190 : Go.Proofs.Lays.n190 Tryz.prog Tryz.lays190_ren := {
  mixed := by kernel_rfl
  f125 := Tryz.func121.trans (congrArg some (by kernel_rfl))
  f128 := Tryz.func157.trans (congrArg some (by kernel_rfl))
  f129 := Tryz.func158.trans (congrArg some (by kernel_rfl))
  f190 := Tryz.func83.trans (congrArg some (by kernel_rfl))
  f258 := Tryz.func120.trans (congrArg some (by kernel_rfl))
  f302 := Tryz.func148.trans (congrArg some (by kernel_rfl))
  f303 := Tryz.func149.trans (congrArg some (by kernel_rfl))
  f304 := Tryz.func150.trans (congrArg some (by kernel_rfl))
  f305 := Tryz.func151.trans (congrArg some (by kernel_rfl))
  f306 := Tryz.func152.trans (congrArg some (by kernel_rfl))
  f307 := Tryz.func153.trans (congrArg some (by kernel_rfl))
  f308 := Tryz.func154.trans (congrArg some (by kernel_rfl))
  f309 := Tryz.func155.trans (congrArg some (by kernel_rfl))
  f310 := Tryz.func156.trans (congrArg some (by kernel_rfl))
  f329 := Tryz.func178.trans (congrArg some (by kernel_rfl))
  f330 := Tryz.func179.trans (congrArg some (by kernel_rfl))
  f333 := Tryz.func177.trans (congrArg some (by kernel_rfl))
  f334 := Tryz.func180.trans (congrArg some (by kernel_rfl))
  f335 := Tryz.func181.trans (congrArg some (by kernel_rfl))
  f336 := Tryz.func182.trans (congrArg some (by kernel_rfl))
  f344 := Tryz.func200.trans (congrArg some (by kernel_rfl))
  t0 := Tryz.underlying0
  a0 := Tryz.isAgg0
  z0 := Tryz.sizeOf0
  v0 := Tryz.zeroValue0
  t3 := Tryz.underlying3
  a3 := Tryz.isAgg3
  z3 := Tryz.sizeOf3
  v3 := Tryz.zeroValue3
  t4 := Tryz.underlying4
  a4 := Tryz.isAgg4
  z4 := Tryz.sizeOf4
  v4 := Tryz.zeroValue4
  t5 := Tryz.underlying5
  a5 := Tryz.isAgg5
  z5 := Tryz.sizeOf5
  v5 := Tryz.zeroValue5
  t9 := Tryz.underlying9
  a9 := Tryz.isAgg9
  z9 := Tryz.sizeOf9
  v9 := Tryz.zeroValue9
  t31 := Tryz.underlying43
  a31 := Tryz.isAgg43
  z31 := Tryz.sizeOf43
  v31 := Tryz.zeroValue43
  t46 := Tryz.underlying97
  a46 := Tryz.isAgg97
  z46 := Tryz.sizeOf97
  v46 := Tryz.zeroValue97
  t51 := Tryz.underlying173
  a51 := Tryz.isAgg173
  z51 := Tryz.sizeOf173
  v51 := Tryz.zeroValue173
  t53 := Tryz.underlying175
  a53 := Tryz.isAgg175
  z53 := Tryz.sizeOf175
  v53 := Tryz.zeroValue175
  t131 := Tryz.underlying170
  a131 := Tryz.isAgg170
  z131 := Tryz.sizeOf170
  v131 := Tryz.zeroValue170
  t182 := Tryz.underlying165
  a182 := Tryz.isAgg165
  z182 := Tryz.sizeOf165
  v182 := Tryz.zeroValue165
  t183 := Tryz.underlying166
  a183 := Tryz.isAgg166
  z183 := Tryz.sizeOf166
  v183 := Tryz.zeroValue166
  t218 := Tryz.underlying186
  a218 := Tryz.isAgg186
  z218 := Tryz.sizeOf186
  v218 := Tryz.zeroValue186
  t222 := Tryz.underlying190
  a222 := Tryz.isAgg190
  z222 := Tryz.sizeOf190
  v222 := Tryz.zeroValue190
  t228 := Tryz.underlying204
  a228 := Tryz.isAgg204
  z228 := Tryz.sizeOf204
  v228 := Tryz.zeroValue204
  t229 := Tryz.underlying205
  a229 := Tryz.isAgg205
  z229 := Tryz.sizeOf205
  v229 := Tryz.zeroValue205 }
open Go.Sort Go.RowKit in
theorem Tryz.slices_Sort_string (blk off cap : Nat) (ss : List (List UInt8)) (w : World) (hH : Holds encStr w blk off ss.toArray) (hblk : blk < w.heap.size) (hsz : ss.length < 4611686018427387904) :
    Calls Tryz.prog 83 #[.slice (some ⟨blk, off, none⟩) ss.length cap] w fun e w' =>
      e = .returned (.tuple #[]) ∧ ∃ n os, w' = grow (putRow encStr (Sort.ahead w n) blk off (ss.mergeSort fun x y => decide (x ≤ y)).toArray) os := Any.slices_Sort_string Tryz.lays190 blk off cap ss w hH hblk hsz
open Go.RowKit Go.Sort in
theorem Tryz.slices_Sort_string_none (p : Option Addr) (cap : Nat) (w : World) :
    Calls Tryz.prog 83 #[.slice p 0 cap] w fun e w' => e = .returned (.tuple #[]) ∧ w' = w := Any.slices_Sort_string_none Tryz.lays190 p cap w
open Go.RowKit Go.Maps Go.Sort Go.Shelf
def Tryz.keys104_ren : Go.Shelf.Ren := ⟨fun | 7 => 104 | 10 => 134 | n => n, fun | 23 => 100 | 26 => 9 | 3 => 3 | 28 => 129 | 0 => 0 | 27 => 128 | 33 => 69 | 4 => 4 | n => n, fun | n => n⟩
theorem Tryz.keys104 : Go.Proofs.SlLaysZ.n7 Tryz.prog Tryz.keys104_ren := {
  mixed := by kernel_rfl
  f7 := ⟨Tryz.f104.name, by decide, Tryz.func104.trans (congrArg some (by kernel_rfl))⟩
  f10 := ⟨Tryz.f134.name, by decide, Tryz.func134.trans (congrArg some (by kernel_rfl))⟩
  t0 := Tryz.underlying0
  a0 := Tryz.isAgg0
  z0 := Tryz.sizeOf0
  v0 := Tryz.zeroValue0
  t4 := Tryz.underlying4
  a4 := Tryz.isAgg4
  z4 := Tryz.sizeOf4
  v4 := Tryz.zeroValue4
  t23 := Tryz.underlying100
  a23 := Tryz.isAgg100
  z23 := Tryz.sizeOf100
  v23 := Tryz.zeroValue100
  t26 := Tryz.underlying9
  a26 := Tryz.isAgg9
  z26 := Tryz.sizeOf9
  v26 := Tryz.zeroValue9
  t27 := Tryz.underlying128
  a27 := Tryz.isAgg128
  z27 := Tryz.sizeOf128
  v27 := Tryz.zeroValue128
  t28 := Tryz.underlying129
  a28 := Tryz.isAgg129
  z28 := Tryz.sizeOf129
  v28 := Tryz.zeroValue129
  t33 := Tryz.underlying69
  a33 := Tryz.isAgg69
  z33 := Tryz.sizeOf69
  v33 := Tryz.zeroValue69 }
def Tryz.sorted103_ren : Go.Shelf.Ren := ⟨fun | 6 => 103 | 8 => 133 | 9 => 83 | 11 => 170 | 13 => 121 | 12 => 120 | 23 => 157 | 24 => 158 | 14 => 148 | 15 => 149 | 16 => 150 | 17 => 151 | 18 => 152 | 19 => 153 | 20 => 154 | 21 => 155 | 22 => 156 | 25 => 177 | 26 => 178 | 27 => 179 | 28 => 180 | 29 => 181 | 30 => 182 | 31 => 200 | n => n, fun | 26 => 9 | 28 => 129 | 24 => 43 | 0 => 0 | 3 => 3 | 37 => 97 | 48 => 173 | 50 => 175 | 4 => 4 | 40 => 166 | 39 => 165 | 45 => 170 | 5 => 5 | 9 => 9 | 51 => 186 | 55 => 190 | 57 => 204 | 58 => 205 | 33 => 69 | n => n, fun | n => n⟩
theorem Tryz.sorted103 : Go.Proofs.SlLaysZ.n6 Tryz.prog Tryz.sorted103_ren := {
  mixed := by kernel_rfl
  f6 := ⟨Tryz.f103.name, by decide, Tryz.func103.trans (congrArg some (by kernel_rfl))⟩
  f8 := ⟨Tryz.f133.name, by decide, Tryz.func133.trans (congrArg some (by kernel_rfl))⟩
  f11 := ⟨Tryz.f170.name, by decide, Tryz.func170.trans (congrArg some (by kernel_rfl))⟩
  t0 := Tryz.underlying0
  a0 := Tryz.isAgg0
  z0 := Tryz.sizeOf0
  v0 := Tryz.zeroValue0
  t24 := Tryz.underlying43
  a24 := Tryz.isAgg43
  z24 := Tryz.sizeOf43
  v24 := Tryz.zeroValue43
  t26 := Tryz.underlying9
  a26 := Tryz.isAgg9
  z26 := Tryz.sizeOf9
  v26 := Tryz.zeroValue9
  t28 := Tryz.underlying129
  a28 := Tryz.isAgg129
  z28 := Tryz.sizeOf129
  v28 := Tryz.zeroValue129
  i26 := by kernel_rfl }
theorem Tryz.sorts103 (m : Nat) : AnyZ.SortsIn Tryz.prog Tryz.sorted103_ren Fence.wide m :=
  ⟨fun blk off cap ss W hH hblk hsz => callsIn_wide.2 (Tryz.slices_Sort_string blk off cap ss W hH hblk hsz),
   fun p cap W => callsIn_wide.2 (Tryz.slices_Sort_string_none p cap W)⟩
theorem Tryz.maps_Keys_104 (mb : Option Nat) (W : World) : CallsIn Fence.wide 5 Tryz.prog 104 #[.map mb] W fun e w' => e = .returned (.func (.func 134) #[] #[.pointer (some ⟨W.heap.size, 0, none⟩)]) ∧ w' = W.alloc (.cells #[.map mb] 100) :=
  AnyZ.keys_in Tryz.keys104 Fence.wide 5 trivial rfl mb W

set_option maxHeartbeats 1000000 in
/-- **slices.Sorted[string] AT WHAT maps.Keys[map[string]int,string,int] HANDED BACK FOR A MAP THAT IS NOT nil** ('w': the world AHEAD of maps.Keys' call): A NEW SLICE THAT HOLDS THE MAP's KEYS, SORTED; nil just where it has none; nothing that lay before has turned. -/
theorem Tryz.slices_Sorted_keys_103_104 {H : Type} (b nn : Nat) (D0 : DataW H) (R : Value → Option (DataW H × List MemPlace)) (w : World) (hown : w.ownsMap Tryz.prog 9 R b nn D0) (hmax : Maps.size D0 ≤ maxLen) (hbytes : Maps.size D0 * 16 ≤ 140737488355328) :
    CallsIn Fence.wide 5 Tryz.prog 103 #[.func (.func 134) #[] #[.pointer (some ⟨w.heap.size, 0, none⟩)]] (w.alloc (.cells #[.map (some b)] 100)) fun e w' => ∃ (v : Value) (ss : List (List UInt8)), e = .returned v ∧ ss.Perm (strKeys D0) ∧
      w'.ownsRow (w.alloc (.cells #[.map (some b)] 100)).heap.size 9 1 v ss.length ((ss.mergeSort (fun x y => decide (x ≤ y))).map encStr) ∧ (v = .slice none 0 0 ↔ ss = []) ∧ Below (w.alloc (.cells #[.map (some b)] 100)).heap.size (w.alloc (.cells #[.map (some b)] 100)) w' := by
  have hbl := hown.lt
  have hseq : SeqGives Fence.wide 2 Tryz.prog 134 #[.pointer (some ⟨w.heap.size, 0, none⟩)] encStr (fun ss => ss.Perm (strKeys D0)) (Maps.size D0) (w.alloc (.cells #[.map (some b)] 100)) :=
    AnyZ.keys_gives (ρ := Tryz.keys104_ren) { Tryz.keys104 with } Fence.wide _ trivial rfl (by omega) w.heap.size b nn D0 _ (by simp) (by simp) (by
      obtain ⟨es, clock, hb, Ft, hs, hD⟩ := hown
      exact ⟨es, clock, (Below.heap_alloc _ _ b hbl).trans hb, Ft, hs, hD⟩)
  exact AnyZ.sorted_in Tryz.sorted103 Fence.wide 5 trivial trivial trivial trivial rfl (by omega) (Tryz.sorts103 _) (enters_of Tryz.func83 (by kernel_rfl) rfl) 134 #[.pointer (some ⟨w.heap.size, 0, none⟩)] trivial (enters_of Tryz.func134 (by kernel_rfl) rfl) _ _ hmax hbytes _ hseq

set_option maxHeartbeats 1000000 in
theorem Tryz.names_own {H : Type} (b nn : Nat) (D0 : DataW H) (R : Value → Option (DataW H × List MemPlace)) (w : World) (hown : w.ownsMap Tryz.prog 9 R b nn D0) (hmax : Maps.size D0 ≤ maxLen) (hbytes : Maps.size D0 * 16 ≤ 140737488355328) :
    Calls Tryz.prog 71 #[.map (some b)] w fun e w' => ∃ (v : Value) (ss : List (List UInt8)), e = .returned v ∧ ss.Perm (strKeys D0) ∧
      w'.ownsRow w.heap.size 9 1 v ss.length ((ss.mergeSort (fun x y => decide (x ≤ y))).map encStr) ∧ (v = .slice none 0 0 ↔ ss = []) ∧ Below w.heap.size w w' := by
  refine (callsIn_wide (n := 6)).1 ?_
  have hfK : Fence.wide.fn 104 := trivial
  have hfS : Fence.wide.fn 103 := trivial
  refine callsIn_of_wp Tryz.func71 rfl trivial ?_ rfl
  simp only [Tryz.ntmps71, List.size_toArray, List.length_cons, List.length_nil, Nat.reduceAdd, Nat.reduceSub, Array.replicate_succ, Array.replicate_zero, List.push_toArray, List.append_toArray, List.nil_append, List.cons_append]
  gi_wp2_with (first
    | (gi_at_call 104; refine (Tryz.maps_Keys_104 _ _).mono ?_; rintro e w' ⟨rfl, rfl⟩)
    | (gi_at_call 103; refine (Tryz.slices_Sorted_keys_103_104 b nn D0 R w hown hmax hbytes).mono ?_; rintro e w' ⟨v, ss, rfl, hS, hrow, hnil, hb⟩))
  go_ret
  exact ⟨v, ss, rfl, hS, ownsRow_base_a hrow (by simp), hnil, ((Below.refl _ w).alloc (Nat.le_refl _) _).trans (hb.mono (by simp))⟩
theorem _root_.Go.Am.X.namesP_ok (base : Base) (w0 : World) : PrimOk Tryz.prog base w0 71 namesP := primOk_names (by kernel_rfl) (kt := 9) (et := 9) Tryz.underlying9 (fun b nn D0 w h1 h2 h3 => Tryz.names_own b nn D0 R0 w h1 h2 h3) base w0
end Go.Proofs
