/- The abstract machine, printed functions of the program, and what they are shown to be. -/
import Derived.Test.YtaikmfhjbcffiaaGreatDoorHKM4
import Derived.KernelRfl
namespace Go.Am.X
set_option maxRecDepth 1000000
set_option linter.unusedVariables false
abbrev iR (n : Nat) (o : AOp) (a : List O) : Ins := ⟨some n, none, o, a, none⟩
abbrev iG (n g : Nat) (b : Bool) (o : AOp) (a : List O) : Ins := ⟨some n, some (g, b), o, a, none⟩
abbrev f_law5_HeadersKept : Nat := 3
abbrev f_keep_FewHeaders : Nat := 4
abbrev f_headers_Add : Nat := 5
abbrev f_headers_Set : Nat := 6
abbrev f_headers_Split : Nat := 7
abbrev f_book_Book_Header_Keep : Nat := 8
abbrev f_headers_Drop : Nat := 9
abbrev f_headers_Sorted : Nat := 10
abbrev f_book_Book_string_Keep : Nat := 11
abbrev f_book_Book_Header_Apart : Nat := 12
abbrev f_law5_mark : Nat := 13
abbrev f_book_Book_string_Apart : Nat := 14
abbrev f_book_Strings : Nat := 15
abbrev f_law5_known : Nat := 16
abbrev f_keep_Few : Nat := 17
abbrev f_headers_may : Nat := 18
abbrev f_slices_Clone_Header : Nat := 19
abbrev f_slices_IndexFunc_Header : Nat := 20
abbrev f_headers_Set_1 : Nat := 21
abbrev f_headers_is : Nat := 22
abbrev f_headers_Get : Nat := 23
abbrev f_strings_Trim : Nat := 24
abbrev f_book_Same_Header : Nat := 25
abbrev f_slices_DeleteFunc_Header : Nat := 26
abbrev f_headers_Drop_1 : Nat := 27
abbrev f_infra_Lower : Nat := 28
abbrev f_slices_Sort_string : Nat := 29
abbrev f_slices_Compact_string : Nat := 30
abbrev f_book_Same_string : Nat := 31
abbrev f_book_Book_Header_Stays : Nat := 32
abbrev f_law5_h : Nat := 33
abbrev f_book_Book_string_Stays : Nat := 34
abbrev f_headers_Safe : Nat := 35
abbrev f_headers_Value : Nat := 36
abbrev f_infra_Token : Nat := 37
abbrev f_strings_Join : Nat := 38
abbrev f_strings_trimLeftByte : Nat := 39
abbrev f_strings_trimRightByte : Nat := 40
abbrev f_strings_makeASCIISet : Nat := 41
abbrev f_strings_trimLeftASCII : Nat := 42
abbrev f_strings_trimRightASCII : Nat := 43
abbrev f_strings_trimLeftUnicode : Nat := 44
abbrev f_strings_trimRightUnicode : Nat := 45
abbrev f_infra_mapped : Nat := 46
abbrev f_infra_Lower_1 : Nat := 47
abbrev f_headers_unsafe : Nat := 50
abbrev f_headers_tongues : Nat := 51
abbrev f_strings_Cut : Nat := 52
abbrev f_infra_Strip : Nat := 53
abbrev f_headers_Range : Nat := 54
abbrev f_strings_ContainsAny : Nat := 55
abbrev f_strings_IndexByte : Nat := 56
abbrev f_asciiSet_contains : Nat := 60
abbrev f_utf8_DecodeRuneInString : Nat := 61
abbrev f_strings_ContainsRune : Nat := 62
abbrev f_utf8_DecodeLastRuneInString : Nat := 63
abbrev f_stringslite_Cut : Nat := 75
abbrev f_strings_CutPrefix : Nat := 76
abbrev f_headers_told : Nat := 77
abbrev f_strings_IndexAny : Nat := 78
abbrev f_stringslite_IndexByte : Nat := 79
abbrev f_utf8_decodeRuneInStringSlow : Nat := 82
abbrev f_strings_IndexRune : Nat := 83
abbrev f_utf8_RuneStart : Nat := 84
abbrev f_stringslite_Index : Nat := 91
abbrev f_stringslite_CutPrefix : Nat := 92
abbrev f_infra_Int : Nat := 93
abbrev f_strings_shouldUseASCIISet : Nat := 94
abbrev f_utf8_ValidRune : Nat := 98
abbrev f_bytealg_Cutover : Nat := 99
abbrev f_bytealg_IndexRabinKarp_string : Nat := 102
abbrev f_stringslite_HasPrefix : Nat := 103
abbrev f_bytealg_hashStr_string : Nat := 104
/-- ostiary/ostiarylaw5.HeadersKept -/
def fn_law5_HeadersKept : Fun := ⟨2, (.seq (.reg [iR 4 (.p .mv) [(.c (.bool false))]]) (.keep [0, 1] (.seq (.reg [iR 14 (.p .mv) [(.t 0)], iR 15 (.call 4) [(.t 14), (.c (.int .i64 (.ofNat 10))), (.c (.int .i64 (.ofNat 50)))], iR 0 (.p .mv) [(.t 15)]]) (.keep [0, 1] (.seq (.reg [iR 5 (.e (.alloc [.nils, .nils, (.int .i64 (.ofNat 0)), (.bool false)])) []]) (.keep [0, 1, 5] (.seq (.reg [iR 6 (.e (.alloc [.nils, .nils, (.int .i64 (.ofNat 0)), (.bool false)])) []]) (.keep [0, 1, 5, 6] (.seq (.seq (.reg [iR 7 (.p .mv) [(.c (.int .i64 (.ofNat 0)))]]) (.keep [0, 1, 5, 6, 7] (.block 0 (.loop (.keep [0, 1, 5, 6, 7] (.seq (.seq (.reg [iR 16 (.p .mv) [(.t 7)], iR 17 (.p (.bin .lss)) [(.t 16), (.c (.int .i64 (.ofNat 2)))]]) (.keep [0, 1, 5, 6, 7, 17] (.cond (.t 17) .skip (.keep [5, 6] (.exit 0))))) (.keep [0, 1, 5, 6, 7] (.seq (.block 1 (.seq (.reg [iR 21 (.p .mv) [(.t 0)],
    iR 22 (.call 5) [(.t 21), (.c (.str (bs [120]))), (.c (.str (bs [121])))], iR 20 (.p .mv) [(.t 22)], iR 23 (.p (.extract 0)) [(.t 20)], iR 24 (.p (.extract 1)) [(.t 20)], iR 8 (.p .mv) [(.t 23)], iR 9 (.p .mv) [(.t 24)]]) (.keep [0, 1, 5, 6, 7, 8] (.seq (.reg [iR 26 (.p .mv) [(.t 0)], iR 27 (.call 6) [(.t 26), (.c (.str (bs [120]))), (.c (.str (bs [121])))], iR 25 (.p .mv) [(.t 27)], iR 28 (.p (.extract 0)) [(.t 25)], iR 29 (.p (.extract 1)) [(.t 25)], iR 10 (.p .mv) [(.t 28)], iR 11 (.p .mv) [(.t 29)]]) (.keep [0, 1, 5, 6, 7, 8, 10] (.seq (.reg [iR 31 (.p .mv) [(.t 0)], iR 32 (.p .mv) [(.t 1)], iR 33 (.call 7) [(.t 31), (.t 32)], iR 30 (.p .mv) [(.t 33)], iR 34 (.p (.extract 0)) [(.t 30)], iR 35 (.p (.extract 1)) [(.t 30)], iR 12 (.p .mv) [(.t 34)], iR 13 (.p .mv) [(.t 35)]]) (.keep [0, 1, 5, 6, 7, 8, 10, 12] (.seq (.reg [iR 36 (.p .mv) [(.t 8)],
    iR 37 (.call 8) [(.t 5), (.t 36)]]) (.keep [0, 1, 5, 6, 7, 10, 12] (.seq (.reg [iR 38 (.p .mv) [(.t 10)], iR 39 (.call 8) [(.t 5), (.t 38)]]) (.keep [0, 1, 5, 6, 7, 12] (.seq (.reg [iR 40 (.p .mv) [(.t 0)], iR 41 (.p .mv) [(.t 1)], iR 42 (.call 9) [(.t 40), (.t 41)], iR 43 (.call 8) [(.t 5), (.t 42)]]) (.keep [0, 1, 5, 6, 7, 12] (.seq (.reg [iR 44 (.p .mv) [(.t 0)], iR 45 (.call 10) [(.t 44)], iR 46 (.call 8) [(.t 5), (.t 45)]]) (.keep [0, 1, 5, 6, 7, 12] (.reg [iR 47 (.p .mv) [(.t 12)], iR 48 (.call 11) [(.t 6), (.t 47)]])))))))))))))))) (.keep [0, 1, 5, 6, 7] (.reg [iR 18 (.p .mv) [(.t 7)], iR 19 (.p (.bin .add)) [(.t 18), (.c (.int .i64 (.ofNat 1)))], iR 7 (.p .mv) [(.t 19)]])))))))))) (.keep [5, 6] (.seq (.reg [iR 49 (.call 12) [(.t 5), (.c (.func 13 [] []))], iR 50 (.p .mv) [(.t 49)], iG 51 50 true (.call 14) [(.t 6), (.c (.func 15 [] []))],
    iR 52 (.p .pick) [(.t 50), (.t 51), (.c (.bool false))], iR 53 (.p .mv) [(.t 52)], iG 54 53 true (.call 16) [], iR 55 (.p .pick) [(.t 53), (.t 54), (.c (.bool false))], iR 4 (.p .mv) [(.t 55)]]) (.keep [4] (.keep [4] .ret))))))))))))), [(.t 4)]⟩
def s_law5_HeadersKept_j0 (call : CallK) (N : Nat) (q : KV) (st : St) (τ : Tape) : Ans := match st with
  | ⟨fr, H⟩ => getK fr 5 fun t5 => getK fr 6 fun t6 => call f_book_Book_Header_Apart [t5, (.func f_law5_mark [] [])] H τ fun v9 H10 τ11 => gK v9 true (fun q' => call f_book_Book_string_Apart [t6, (.func f_book_Strings [] [])] H10 τ11 q') H10 τ11 fun v12 H13 τ14 => someK (pPick [v9, v12, (.bool false)]) fun v15 => gK v15 true (fun q' => call f_law5_known [] H13 τ14 q') H13 τ14 fun v16 H17 τ18 => someK (pPick [v15, v16, (.bool false)]) fun v19 => q v19 H17 τ18
def s_law5_HeadersKept_l1 (call : CallK) (N : Nat) (st : St) (τ : Tape) (k : KC) : Ans := match st with
  | ⟨fr, H⟩ => getK fr 0 fun t0 => getK fr 1 fun t1 => getK fr 5 fun t5 => getK fr 6 fun t6 => getK fr 7 fun t7 => binK .lss t7 (.int .i64 (.ofNat 2)) fun v20 => condK v20 (call f_headers_Add [t0, (.str (bs [120])), (.str (bs [121]))] H τ fun v21 H22 τ23 => someK (pExtract 0 [v21]) fun v24 => someK (pExtract 1 [v21]) fun v25 => call f_headers_Set [t0, (.str (bs [120])), (.str (bs [121]))] H22 τ23 fun v26 H27 τ28 => someK (pExtract 0 [v26]) fun v29 => someK (pExtract 1 [v26]) fun v30 => call f_headers_Split [t0, t1] H27 τ28 fun v31 H32 τ33 => someK (pExtract 0 [v31]) fun v34 => someK (pExtract 1 [v31]) fun v35 => call f_book_Book_Header_Keep [t5, v24] H32 τ33 fun v36 H37 τ38 => call f_book_Book_Header_Keep [t5, v29] H37 τ38 fun v39 H40 τ41 => call f_headers_Drop [t0, t1] H40 τ41 fun v42 H43 τ44 => call f_book_Book_Header_Keep [t5, v42] H43 τ44 fun v45 H46 τ47 =>
    call f_headers_Sorted [t0] H46 τ47 fun v48 H49 τ50 => call f_book_Book_Header_Keep [t5, v48] H49 τ50 fun v51 H52 τ53 => call f_book_Book_string_Keep [t6, v34] H52 τ53 fun v54 H55 τ56 => binK .add t7 (.int .i64 (.ofNat 1)) fun v57 => k .normal ⟨(T.set (T.set (T.set (T.set (T.set (T.set (T.set (T.set .leaf 0 t0) 1 t1) 5 t5) 6 t6) 7 t7) 18 t7) 19 v57) 7 v57), H55⟩ τ56) (k (.exit 0) ⟨(T.set (T.set .leaf 5 t5) 6 t6), H⟩ τ)
def s_law5_HeadersKept (call : CallK) (N : Nat) (a0 a1 : V) (H : Heap) (τ : Tape) (q : KV) : Ans := call f_keep_FewHeaders [a0, (.int .i64 (.ofNat 10)), (.int .i64 (.ofNat 50))] H τ fun v0 H1 τ2 => effK (eAlloc [.nils, .nils, (.int .i64 (.ofNat 0)), (.bool false)] [] H1 τ2) fun v3 H4 τ5 => effK (eAlloc [.nils, .nils, (.int .i64 (.ofNat 0)), (.bool false)] [] H4 τ5) fun v6 H7 τ8 => loopK (s_law5_HeadersKept_l1 call N) N ⟨(T.set (T.set (T.set (T.set (T.set .leaf 0 v0) 1 a1) 5 v3) 6 v6) 7 (.int .i64 (.ofNat 0))), H7⟩ τ8 (blockK 0 (seqK (s_law5_HeadersKept_j0 call N q) (endK [(.t 4)] q)))
theorem s_law5_HeadersKept_eq (call : CallK) (N : Nat) (a0 a1 : V) (H : Heap) (τ : Tape) (q : KV) : s_law5_HeadersKept call N a0 a1 H τ q = funK call N fn_law5_HeadersKept [a0, a1] H τ q := by kernel_rfl
def e_law5_HeadersKept (call : CallK) (N : Nat) (vs : List V) (H : Heap) (τ : Tape) (q : KV) : Ans := match vs with | [a0, a1] => s_law5_HeadersKept call N a0 a1 H τ q | _ => none
theorem e_law5_HeadersKept_ok : EntOk fn_law5_HeadersKept e_law5_HeadersKept := by
  intro call N vs H τ q r h
  unfold e_law5_HeadersKept at h
  split at h
  · rw [s_law5_HeadersKept_eq] at h; exact h
  · cases h
theorem e_law5_HeadersKept_nat : EntNat e_law5_HeadersKept := by
  intro c hn N vs H τ q
  unfold e_law5_HeadersKept
  split
  · rw [s_law5_HeadersKept_eq, s_law5_HeadersKept_eq]; exact funK_ent hn _ _ _ _ _ _
  · rfl
/-- ostiary/ostiarykeep.FewHeaders -/
def fn_keep_FewHeaders : Fun := ⟨3, (.seq (.reg [iR 6 (.p .mv) [(.c .nils)]]) (.keep [0, 1, 2] (.seq (.reg [iR 7 (.p .mv) [(.c .nils)]]) (.keep [0, 1, 2, 7] (.seq (.seq (.reg [iR 8 (.p .mv) [(.c (.int .i64 (.ofNat 0)))]]) (.keep [0, 1, 2, 7, 8] (.block 0 (.loop (.keep [0, 1, 2, 7, 8] (.seq (.seq (.reg [iR 9 (.p .mv) [(.t 8)], iR 10 (.p .mv) [(.t 0)], iR 11 (.p .len) [(.t 10)], iR 12 (.p (.bin .lss)) [(.t 9), (.t 11)], iR 13 (.p .mv) [(.t 12)], iG 14 13 true (.p .mv) [(.t 8)], iG 15 13 true (.p .mv) [(.t 1)], iG 16 13 true (.p (.bin .lss)) [(.t 14), (.t 15)], iR 17 (.p .pick) [(.t 13), (.t 16), (.c (.bool false))]]) (.keep [0, 1, 2, 7, 8, 17] (.cond (.t 17) .skip (.keep [7] (.exit 0))))) (.keep [0, 1, 2, 7, 8] (.seq (.block 1 (.draw [iR 20 (.p .mv) [(.t 7)], iR 21 (.p .mv) [(.t 0)], iR 22 (.p .mv) [(.t 8)], iR 23 (.p (.slIdx 2)) [(.t 21), (.t 22)],
    iR 24 (.p (.fieldAddr 0)) [(.t 23)], iR 25 (.l (.load none)) [(.t 24)], iR 26 (.p .mv) [(.t 2)], iR 27 (.call 17) [(.t 25), (.t 26)], iR 28 (.p .mv) [(.t 0)], iR 29 (.p .mv) [(.t 8)], iR 30 (.p (.slIdx 2)) [(.t 28), (.t 29)], iR 31 (.p (.fieldAddr 1)) [(.t 30)], ⟨(some 32), none, (.l (.load none)), [(.t 31)], some (0, 1)⟩, iR 33 (.p .mv) [(.t 2)], iR 34 (.call 17) [(.t 32), (.t 33)], iR 35 (.p (.build [(.str []), (.str [])] [(0, 1), (1, 1)])) [(.t 27), (.t 34)], iR 36 (.e (.buildSlice 1 2 [(.str []), (.str [])] [(0, 2)])) [(.t 35)], iR 37 (.e (.append 2 32)) [(.t 20), (.t 36)], iR 7 (.p .mv) [(.t 37)]])) (.keep [0, 1, 2, 7, 8] (.reg [iR 18 (.p .mv) [(.t 8)], iR 19 (.p (.bin .add)) [(.t 18), (.c (.int .i64 (.ofNat 1)))], iR 8 (.p .mv) [(.t 19)]])))))))))) (.keep [7] (.seq (.reg [iR 38 (.p .mv) [(.t 7)], iR 6 (.p .mv) [(.t 38)]]) (.keep [6] (.keep [6] .ret))))))))), [(.t 6)]⟩
def s_keep_FewHeaders_j0 (call : CallK) (N : Nat) (q : KV) (st : St) (τ : Tape) : Ans := match st with
  | ⟨fr, H⟩ => getK fr 7 fun t7 => q t7 H τ
def s_keep_FewHeaders_l1 (call : CallK) (N : Nat) (st : St) (τ : Tape) (k : KC) : Ans := match st with
  | ⟨fr, H⟩ => getK fr 0 fun t0 => getK fr 1 fun t1 => getK fr 2 fun t2 => getK fr 7 fun t7 => getK fr 8 fun t8 => someK (pLen [t0]) fun v0 => binK .lss t8 v0 fun v1 => gK v1 true (fun q' => q' t8 H τ) H τ fun v2 H3 τ4 => gK v1 true (fun q' => q' t1 H3 τ4) H3 τ4 fun v5 H6 τ7 => gK v1 true (fun q' => binK .lss v2 v5 fun v => q' v H6 τ7) H6 τ7 fun v8 H9 τ10 => someK (pPick [v1, v8, (.bool false)]) fun v11 => condK v11 (someK (pSlIdx 2 [t0, t8]) fun v12 => someK (pFieldAddr 0 [v12]) fun v13 => someK (lLoad1 [v13] H9) fun v14 => call f_keep_Few [v14, t2] H9 τ10 fun v15 H16 τ17 => someK (pSlIdx 2 [t0, t8]) fun v18 => someK (pFieldAddr 1 [v18]) fun v19 => someK (lLoad1 [v19] H16) fun v20 => call f_keep_Few [v20, t2] H16 τ17 fun v21 H22 τ23 => someK (pBuild [(.str []), (.str [])] [(0, 1), (1, 1)] [v15, v21]) fun v24 =>
    effK (eBuildSlice 1 2 [(.str []), (.str [])] [(0, 2)] [v24] H22 τ23) fun v25 H26 τ27 => effK (eAppend 2 32 [t7, v25] H26 τ27) fun v28 H29 τ30 => bif chkLoads [H9, H16, H22, H26, H29] (((.load none), [v19], 0, 1) :: []) then binK .add t8 (.int .i64 (.ofNat 1)) fun v31 => k .normal ⟨(T.set (T.set (T.set (T.set (T.set (T.set (T.set (T.set .leaf 0 t0) 1 t1) 2 t2) 7 v28) 8 t8) 18 t8) 19 v31) 8 v31), H29⟩ τ30 else none) (k (.exit 0) ⟨(T.set .leaf 7 t7), H9⟩ τ10)
def s_keep_FewHeaders (call : CallK) (N : Nat) (a0 a1 a2 : V) (H : Heap) (τ : Tape) (q : KV) : Ans := loopK (s_keep_FewHeaders_l1 call N) N ⟨(T.set (T.set (T.set (T.set (T.set .leaf 0 a0) 1 a1) 2 a2) 7 .nils) 8 (.int .i64 (.ofNat 0))), H⟩ τ (blockK 0 (seqK (s_keep_FewHeaders_j0 call N q) (endK [(.t 6)] q)))
theorem s_keep_FewHeaders_eq (call : CallK) (N : Nat) (a0 a1 a2 : V) (H : Heap) (τ : Tape) (q : KV) : s_keep_FewHeaders call N a0 a1 a2 H τ q = funK call N fn_keep_FewHeaders [a0, a1, a2] H τ q := by kernel_rfl
def e_keep_FewHeaders (call : CallK) (N : Nat) (vs : List V) (H : Heap) (τ : Tape) (q : KV) : Ans := match vs with | [a0, a1, a2] => s_keep_FewHeaders call N a0 a1 a2 H τ q | _ => none
theorem e_keep_FewHeaders_ok : EntOk fn_keep_FewHeaders e_keep_FewHeaders := by
  intro call N vs H τ q r h
  unfold e_keep_FewHeaders at h
  split at h
  · rw [s_keep_FewHeaders_eq] at h; exact h
  · cases h
theorem e_keep_FewHeaders_nat : EntNat e_keep_FewHeaders := by
  intro c hn N vs H τ q
  unfold e_keep_FewHeaders
  split
  · rw [s_keep_FewHeaders_eq, s_keep_FewHeaders_eq]; exact funK_ent hn _ _ _ _ _ _
  · rfl
/-- ostiary/headers.Add -/
def fn_headers_Add : Fun := ⟨3, (.seq (.reg [iR 6 (.p .mv) [(.c .nils)], iR 7 (.p .mv) [(.c (.int .i64 (.ofNat 0)))]]) (.keep [0, 1, 2] (.seq (.reg [iR 11 (.p .mv) [(.t 1)], iR 12 (.p .mv) [(.t 2)], iR 13 (.call 18) [(.t 11), (.t 12)], iR 10 (.p .mv) [(.t 13)], iR 14 (.p (.extract 0)) [(.t 10)], iR 15 (.p (.extract 1)) [(.t 10)], iR 8 (.p .mv) [(.t 14)], iR 9 (.p .mv) [(.t 15)]]) (.keep [0, 1, 8, 9] (.seq (.seq (.reg [iR 16 (.p .mv) [(.t 9)], iR 17 (.p (.bin .eql)) [(.t 16), (.c (.int .i64 (.ofNat 0)))], iR 18 (.p .mv) [(.t 17)], iG 19 18 true (.p .mv) [(.t 0)], iG 20 18 true (.p .len) [(.t 19)], iG 21 18 true (.p (.bin .geq)) [(.t 20), (.c (.int .i64 (.ofNat 64)))], iR 22 (.p .pick) [(.t 18), (.t 21), (.c (.bool false))]]) (.keep [0, 1, 8, 9, 22] (.cond (.t 22) (.reg [iR 9 (.p .mv) [(.c (.int .i64 (.ofNat 4)))]]) .skip))) (.keep [0, 1, 8, 9] (.seq (.seq (.reg [iR 23 (.p .mv) [(.t 9)],
    iR 24 (.p (.bin .neq)) [(.t 23), (.c (.int .i64 (.ofNat 0)))]]) (.keep [0, 1, 8, 9, 24] (.cond (.t 24) (.seq (.reg [iR 25 (.p .mv) [(.t 9)], iR 6 (.p .mv) [(.c .nils)], iR 7 (.p .mv) [(.t 25)]]) (.keep [6, 7] (.keep [6, 7] .ret))) .skip))) (.keep [0, 1, 8] (.seq (.reg [iR 26 (.p .mv) [(.t 0)], iR 27 (.call 19) [(.t 26)], iR 28 (.p .mv) [(.t 1)], iR 29 (.p .mv) [(.t 8)], iR 30 (.p (.build [(.str []), (.str [])] [(0, 1), (1, 1)])) [(.t 28), (.t 29)], iR 31 (.e (.buildSlice 1 2 [(.str []), (.str [])] [(0, 2)])) [(.t 30)], iR 32 (.e (.append 2 32)) [(.t 27), (.t 31)], iR 6 (.p .mv) [(.t 32)], iR 7 (.p .mv) [(.c (.int .i64 (.ofNat 0)))]]) (.keep [6, 7] (.keep [6, 7] .ret))))))))))), [(.t 6), (.t 7)]⟩
def s_headers_Add_j0 (call : CallK) (N : Nat) (q : KV) (st : St) (τ : Tape) : Ans := match st with
  | ⟨fr, H⟩ => getK fr 0 fun t0 => getK fr 1 fun t1 => getK fr 8 fun t8 => getK fr 9 fun t9 => binK .neq t9 (.int .i64 (.ofNat 0)) fun v16 => condK v16 (q (.tup [.nils, t9]) H τ) (call f_slices_Clone_Header [t0] H τ fun v17 H18 τ19 => someK (pBuild [(.str []), (.str [])] [(0, 1), (1, 1)] [t1, t8]) fun v20 => effK (eBuildSlice 1 2 [(.str []), (.str [])] [(0, 2)] [v20] H18 τ19) fun v21 H22 τ23 => effK (eAppend 2 32 [v17, v21] H22 τ23) fun v24 H25 τ26 => q (.tup [v24, (.int .i64 (.ofNat 0))]) H25 τ26)
def s_headers_Add (call : CallK) (N : Nat) (a0 a1 a2 : V) (H : Heap) (τ : Tape) (q : KV) : Ans := call f_headers_may [a1, a2] H τ fun v0 H1 τ2 => someK (pExtract 0 [v0]) fun v3 => someK (pExtract 1 [v0]) fun v4 => binK .eql v4 (.int .i64 (.ofNat 0)) fun v5 => gK v5 true (fun q' => q' a0 H1 τ2) H1 τ2 fun v6 H7 τ8 => gK v5 true (fun q' => someK (pLen [v6]) fun v => q' v H7 τ8) H7 τ8 fun v9 H10 τ11 => gK v5 true (fun q' => binK .geq v9 (.int .i64 (.ofNat 64)) fun v => q' v H10 τ11) H10 τ11 fun v12 H13 τ14 => someK (pPick [v5, v12, (.bool false)]) fun v15 => condK v15 (s_headers_Add_j0 call N q ⟨(T.set (T.set (T.set (T.set (T.set (T.set .leaf 0 a0) 1 a1) 8 v3) 9 v4) 22 v15) 9 (.int .i64 (.ofNat 4))), H13⟩ τ14) (s_headers_Add_j0 call N q ⟨(T.set (T.set (T.set (T.set (T.set .leaf 0 a0) 1 a1) 8 v3) 9 v4) 22 v15), H13⟩ τ14)
theorem s_headers_Add_eq (call : CallK) (N : Nat) (a0 a1 a2 : V) (H : Heap) (τ : Tape) (q : KV) : s_headers_Add call N a0 a1 a2 H τ q = funK call N fn_headers_Add [a0, a1, a2] H τ q := by kernel_rfl
def e_headers_Add (call : CallK) (N : Nat) (vs : List V) (H : Heap) (τ : Tape) (q : KV) : Ans := match vs with | [a0, a1, a2] => s_headers_Add call N a0 a1 a2 H τ q | _ => none
theorem e_headers_Add_ok : EntOk fn_headers_Add e_headers_Add := by
  intro call N vs H τ q r h
  unfold e_headers_Add at h
  split at h
  · rw [s_headers_Add_eq] at h; exact h
  · cases h
theorem e_headers_Add_nat : EntNat e_headers_Add := by
  intro c hn N vs H τ q
  unfold e_headers_Add
  split
  · rw [s_headers_Add_eq, s_headers_Add_eq]; exact funK_ent hn _ _ _ _ _ _
  · rfl
/-- ostiary/headers.Set -/
def fn_headers_Set : Fun := ⟨3, (.seq (.reg [iR 4 (.e .box) [(.t 1)], iR 6 (.p .mv) [(.c .nils)], iR 7 (.p .mv) [(.c (.int .i64 (.ofNat 0)))]]) (.keep [0, 2, 4] (.seq (.reg [iR 14 (.p .mv) [(.t 0)], iR 15 (.p (.mkFunc 21 0)) [(.t 4)], iR 16 (.call 20) [(.t 14), (.t 15)], iR 8 (.p .mv) [(.t 16)]]) (.keep [0, 2, 4, 8] (.seq (.seq (.reg [iR 17 (.p .mv) [(.t 8)], iR 18 (.p (.bin .lss)) [(.t 17), (.c (.int .i64 (.ofNat 0)))]]) (.keep [0, 2, 4, 8, 18] (.cond (.t 18) (.seq (.reg [iR 19 (.p .mv) [(.t 0)], iR 20 (.l (.load none)) [(.t 4)], iR 21 (.p .mv) [(.t 2)], iR 22 (.call 5) [(.t 19), (.t 20), (.t 21)], iR 23 (.p (.extract 0)) [(.t 22)], iR 24 (.p (.extract 1)) [(.t 22)], iR 6 (.p .mv) [(.t 23)], iR 7 (.p .mv) [(.t 24)]]) (.keep [6, 7] (.keep [6, 7] .ret))) .skip))) (.keep [0, 2, 4, 8] (.seq (.reg [iR 26 (.l (.load none)) [(.t 4)], iR 27 (.p .mv) [(.t 2)],
    iR 28 (.call 18) [(.t 26), (.t 27)], iR 25 (.p .mv) [(.t 28)], iR 29 (.p (.extract 0)) [(.t 25)], iR 30 (.p (.extract 1)) [(.t 25)], iR 9 (.p .mv) [(.t 29)], iR 10 (.p .mv) [(.t 30)]]) (.keep [0, 4, 8, 9, 10] (.seq (.seq (.reg [iR 31 (.p .mv) [(.t 10)], iR 32 (.p (.bin .neq)) [(.t 31), (.c (.int .i64 (.ofNat 0)))]]) (.keep [0, 4, 8, 9, 10, 32] (.cond (.t 32) (.seq (.reg [iR 33 (.p .mv) [(.t 10)], iR 6 (.p .mv) [(.c .nils)], iR 7 (.p .mv) [(.t 33)]]) (.keep [6, 7] (.keep [6, 7] .ret))) .skip))) (.keep [0, 4, 8, 9] (.seq (.reg [iR 11 (.p .mv) [(.c .nils)]]) (.keep [0, 4, 8, 9, 11] (.seq (.seq (.reg [iR 34 (.p .mv) [(.t 0)], iR 35 (.p .len) [(.t 34)], iR 36 (.p .mv) [(.c (.int .i64 (.ofNat 0)))]]) (.keep [4, 8, 9, 11, 34, 35, 36] (.block 0 (.loop (.keep [4, 8, 9, 11, 34, 35, 36] (.seq (.reg [iR 37 (.p (.bin .lss)) [(.t 36), (.t 35)]])
    (.keep [4, 8, 9, 11, 34, 35, 36, 37] (.seq (.cond (.t 37) .skip (.keep [11] (.exit 0))) (.keep [4, 8, 9, 11, 34, 35, 36] (.seq (.block 1 (.seq (.reg [iR 38 (.p .mv) [(.t 36)], iR 39 (.p (.slIdx 2)) [(.t 34), (.t 36)], iR 40 (.l (.load (some 2))) [(.t 39)], iR 13 (.e (.alloc [(.str []), (.str [])])) [], iR 12 (.p .mv) [(.t 38)], ⟨none, none, (.e (.store 2)), [(.t 13), (.t 40)], none⟩]) (.keep [4, 8, 9, 11, 12, 13, 34, 35, 36] (.block 2 (.seq (.reg [iR 42 (.p .mv) [(.t 12)], iR 43 (.p .mv) [(.t 8)], iR 44 (.p (.bin .eql)) [(.t 42), (.t 43)], iR 41 (.p .mv) [(.t 44)]]) (.keep [4, 8, 9, 11, 13, 34, 35, 36, 41] (.cond (.t 41) (.reg [iR 45 (.p .mv) [(.t 11)], iR 46 (.p (.fieldAddr 0)) [(.t 13)], iR 47 (.l (.load none)) [(.t 46)], iR 48 (.p .mv) [(.t 9)], iR 49 (.p (.build [(.str []), (.str [])] [(0, 1), (1, 1)])) [(.t 47), (.t 48)],
    iR 50 (.e (.buildSlice 1 2 [(.str []), (.str [])] [(0, 2)])) [(.t 49)], iR 51 (.e (.append 2 32)) [(.t 45), (.t 50)], iR 11 (.p .mv) [(.t 51)]]) (.seq (.reg [iR 53 (.l (.load (some 2))) [(.t 13)], iR 54 (.l (.load none)) [(.t 4)], iR 55 (.call 22) [(.t 53), (.t 54)], iR 56 (.p (.un .not)) [(.t 55)], iR 52 (.p .mv) [(.t 56)]]) (.keep [4, 8, 9, 11, 13, 34, 35, 36, 52] (.cond (.t 52) (.reg [iR 57 (.p .mv) [(.t 11)], iR 58 (.l (.load (some 2))) [(.t 13)], iR 59 (.e (.buildSlice 1 2 [(.str []), (.str [])] [(0, 2)])) [(.t 58)], iR 60 (.e (.append 2 32)) [(.t 57), (.t 59)], iR 11 (.p .mv) [(.t 60)]]) .skip)))))))))) (.keep [4, 8, 9, 11, 34, 35, 36] (.reg [iR 61 (.p (.bin .add)) [(.t 36), (.c (.int .i64 (.ofNat 1)))], iR 36 (.p .mv) [(.t 61)]])))))))))))) (.keep [11] (.seq (.reg [iR 62 (.p .mv) [(.t 11)], iR 6 (.p .mv) [(.t 62)], iR 7 (.p .mv) [(.c (.int .i64 (.ofNat 0)))]])
    (.keep [6, 7] (.keep [6, 7] .ret))))))))))))))))), [(.t 6), (.t 7)]⟩
def s_headers_Set_j0 (call : CallK) (N : Nat) (q : KV) (st : St) (τ : Tape) : Ans := match st with
  | ⟨fr, H⟩ => getK fr 11 fun t11 => q (.tup [t11, (.int .i64 (.ofNat 0))]) H τ
def s_headers_Set_j2 (call : CallK) (N : Nat) (k : KC) (st : St) (τ : Tape) : Ans := match st with
  | ⟨fr, H⟩ => getK fr 4 fun t4 => getK fr 8 fun t8 => getK fr 9 fun t9 => getK fr 11 fun t11 => getK fr 34 fun t34 => getK fr 35 fun t35 => getK fr 36 fun t36 => binK .add t36 (.int .i64 (.ofNat 1)) fun v23 => k .normal ⟨(T.set (T.set (T.set (T.set (T.set (T.set (T.set (T.set (T.set .leaf 4 t4) 8 t8) 9 t9) 11 t11) 34 t34) 35 t35) 36 t36) 61 v23) 36 v23), H⟩ τ
def s_headers_Set_l1 (call : CallK) (N : Nat) (st : St) (τ : Tape) (k : KC) : Ans := match st with
  | ⟨fr, H⟩ => getK fr 4 fun t4 => getK fr 8 fun t8 => getK fr 9 fun t9 => getK fr 11 fun t11 => getK fr 34 fun t34 => getK fr 35 fun t35 => getK fr 36 fun t36 => binK .lss t36 t35 fun v22 => condK v22 (someK (pSlIdx 2 [t34, t36]) fun v24 => someK (lLoadN 2 [v24] H) fun v25 => effK (eAlloc [(.str []), (.str [])] [] H τ) fun v26 H27 τ28 => effK (eStore 2 [v26, v25] H27 τ28) fun v29 H30 τ31 => binK .eql t36 t8 fun v32 => condK v32 (someK (pFieldAddr 0 [v26]) fun v33 => someK (lLoad1 [v33] H30) fun v34 => someK (pBuild [(.str []), (.str [])] [(0, 1), (1, 1)] [v34, t9]) fun v35 => effK (eBuildSlice 1 2 [(.str []), (.str [])] [(0, 2)] [v35] H30 τ31) fun v36 H37 τ38 => effK (eAppend 2 32 [t11, v36] H37 τ38) fun v39 H40 τ41 =>
    s_headers_Set_j2 call N k ⟨(T.set (T.set (T.set (T.set (T.set (T.set (T.set (T.set (T.set (T.set (T.set (T.set (T.set (T.set (T.set (T.set (T.set .leaf 4 t4) 8 t8) 9 t9) 11 t11) 13 v26) 34 t34) 35 t35) 36 t36) 41 v32) 45 t11) 46 v33) 47 v34) 48 t9) 49 v35) 50 v36) 51 v39) 11 v39), H40⟩ τ41) (someK (lLoadN 2 [v26] H30) fun v42 => someK (lLoad1 [t4] H30) fun v43 => call f_headers_is [v42, v43] H30 τ31 fun v44 H45 τ46 => unK .not v44 fun v47 => condK v47 (someK (lLoadN 2 [v26] H45) fun v48 => effK (eBuildSlice 1 2 [(.str []), (.str [])] [(0, 2)] [v48] H45 τ46) fun v49 H50 τ51 => effK (eAppend 2 32 [t11, v49] H50 τ51) fun v52 H53 τ54 => s_headers_Set_j2 call N k ⟨(T.set (T.set (T.set (T.set (T.set (T.set (T.set (T.set (T.set (T.set (T.set (T.set (T.set (T.set .leaf 4 t4) 8 t8) 9 t9) 11 t11) 13 v26) 34 t34) 35 t35) 36 t36) 52 v47) 57 t11) 58 v48) 59 v49) 60 v52) 11 v52), H53⟩ τ54)
    (s_headers_Set_j2 call N k ⟨(T.set (T.set (T.set (T.set (T.set (T.set (T.set (T.set (T.set .leaf 4 t4) 8 t8) 9 t9) 11 t11) 13 v26) 34 t34) 35 t35) 36 t36) 52 v47), H45⟩ τ46))) (k (.exit 0) ⟨(T.set .leaf 11 t11), H⟩ τ)
def s_headers_Set (call : CallK) (N : Nat) (a0 a1 a2 : V) (H : Heap) (τ : Tape) (q : KV) : Ans := effK (eBox [a1] H τ) fun v0 H1 τ2 => someK (some (V.func f_headers_Set_1 (List.take 0 [v0]) (List.drop 0 [v0]))) fun v3 => call f_slices_IndexFunc_Header [a0, v3] H1 τ2 fun v4 H5 τ6 => binK .lss v4 (.int .i64 (.ofNat 0)) fun v7 => condK v7 (someK (lLoad1 [v0] H5) fun v8 => call f_headers_Add [a0, v8, a2] H5 τ6 fun v9 H10 τ11 => someK (pExtract 0 [v9]) fun v12 => someK (pExtract 1 [v9]) fun v13 => q (.tup [v12, v13]) H10 τ11) (someK (lLoad1 [v0] H5) fun v14 => call f_headers_may [v14, a2] H5 τ6 fun v15 H16 τ17 => someK (pExtract 0 [v15]) fun v18 => someK (pExtract 1 [v15]) fun v19 => binK .neq v19 (.int .i64 (.ofNat 0)) fun v20 => condK v20 (q (.tup [.nils, v19]) H16 τ17) (someK (pLen [a0]) fun v21 =>
    loopK (s_headers_Set_l1 call N) N ⟨(T.set (T.set (T.set (T.set (T.set (T.set (T.set .leaf 4 v0) 8 v4) 9 v18) 11 .nils) 34 a0) 35 v21) 36 (.int .i64 (.ofNat 0))), H16⟩ τ17 (blockK 0 (seqK (s_headers_Set_j0 call N q) (endK [(.t 6), (.t 7)] q)))))
theorem s_headers_Set_eq (call : CallK) (N : Nat) (a0 a1 a2 : V) (H : Heap) (τ : Tape) (q : KV) : s_headers_Set call N a0 a1 a2 H τ q = funK call N fn_headers_Set [a0, a1, a2] H τ q := by kernel_rfl
def e_headers_Set (call : CallK) (N : Nat) (vs : List V) (H : Heap) (τ : Tape) (q : KV) : Ans := match vs with | [a0, a1, a2] => s_headers_Set call N a0 a1 a2 H τ q | _ => none
theorem e_headers_Set_ok : EntOk fn_headers_Set e_headers_Set := by
  intro call N vs H τ q r h
  unfold e_headers_Set at h
  split at h
  · rw [s_headers_Set_eq] at h; exact h
  · cases h
theorem e_headers_Set_nat : EntNat e_headers_Set := by
  intro c hn N vs H τ q
  unfold e_headers_Set
  split
  · rw [s_headers_Set_eq, s_headers_Set_eq]; exact funK_ent hn _ _ _ _ _ _
  · rfl
/-- ostiary/headers.Split -/
def fn_headers_Split : Fun := ⟨2, (.seq (.reg [iR 4 (.p .mv) [(.c .nils)], iR 5 (.p .mv) [(.c (.bool false))]]) (.keep [0, 1] (.seq (.reg [iR 13 (.p .mv) [(.t 0)], iR 14 (.p .mv) [(.t 1)], iR 15 (.call 23) [(.t 13), (.t 14)], iR 12 (.p .mv) [(.t 15)], iR 16 (.p (.extract 0)) [(.t 12)], iR 17 (.p (.extract 1)) [(.t 12)], iR 6 (.p .mv) [(.t 16)], iR 7 (.p .mv) [(.t 17)]]) (.keep [6, 7] (.seq (.seq (.reg [iR 18 (.p .mv) [(.t 7)], iR 19 (.p (.un .not)) [(.t 18)]]) (.keep [6, 19] (.cond (.t 19) (.seq (.reg [iR 4 (.p .mv) [(.c .nils)], iR 5 (.p .mv) [(.c (.bool false))]]) (.keep [4, 5] (.keep [4, 5] .ret))) .skip))) (.keep [6] (.seq (.reg [iR 8 (.p .mv) [(.c .nils)]]) (.keep [6, 8] (.seq (.reg [iR 9 (.p .mv) [(.c (.bool false))], iR 10 (.p .mv) [(.c (.int .i64 (.ofNat 0)))]]) (.keep [6, 8, 9, 10] (.seq (.seq (.reg [iR 11 (.p .mv) [(.c (.int .i64 (.ofNat 0)))]])
    (.keep [6, 8, 9, 10, 11] (.block 0 (.loop (.keep [6, 8, 9, 10, 11] (.seq (.seq (.reg [iR 20 (.p .mv) [(.t 11)], iR 21 (.p .mv) [(.t 6)], iR 22 (.p .lenS) [(.t 21)], iR 23 (.p (.bin .lss)) [(.t 20), (.t 22)]]) (.keep [6, 8, 9, 10, 11, 23] (.cond (.t 23) .skip (.keep [6, 8, 10] (.exit 0))))) (.keep [6, 8, 9, 10, 11] (.seq (.block 1 (.block 2 (.seq (.reg [iR 27 (.p .mv) [(.t 6)], iR 28 (.p .mv) [(.t 11)], iR 29 (.p .strIndex) [(.t 27), (.t 28)], iR 30 (.p (.bin .eql)) [(.t 29), (.c (.int .u8 (.ofNat 34)))], iR 26 (.p .mv) [(.t 30)]]) (.keep [6, 8, 9, 10, 11, 26] (.cond (.t 26) (.reg [iR 31 (.p .mv) [(.t 9)], iR 32 (.p (.un .not)) [(.t 31)], iR 9 (.p .mv) [(.t 32)]]) (.seq (.reg [iR 34 (.p .mv) [(.t 9)], iR 35 (.p .mv) [(.t 34)], iG 36 35 true (.p .mv) [(.t 6)], iG 37 35 true (.p .mv) [(.t 11)], iG 38 35 true (.p .strIndex) [(.t 36), (.t 37)],
    iG 39 35 true (.p (.bin .eql)) [(.t 38), (.c (.int .u8 (.ofNat 92)))], iR 40 (.p .pick) [(.t 35), (.t 39), (.c (.bool false))], iR 33 (.p .mv) [(.t 40)]]) (.keep [6, 8, 9, 10, 11, 33] (.cond (.t 33) (.reg [iR 41 (.p .mv) [(.t 11)], iR 42 (.p (.bin .add)) [(.t 41), (.c (.int .i64 (.ofNat 1)))], iR 11 (.p .mv) [(.t 42)]]) (.seq (.reg [iR 44 (.p .mv) [(.t 9)], iR 45 (.p (.un .not)) [(.t 44)], iR 46 (.p .mv) [(.t 45)], iG 47 46 true (.p .mv) [(.t 6)], iG 48 46 true (.p .mv) [(.t 11)], iG 49 46 true (.p .strIndex) [(.t 47), (.t 48)], iG 50 46 true (.p (.bin .eql)) [(.t 49), (.c (.int .u8 (.ofNat 44)))], iR 51 (.p .pick) [(.t 46), (.t 50), (.c (.bool false))], iR 43 (.p .mv) [(.t 51)]]) (.keep [6, 8, 9, 10, 11, 43] (.cond (.t 43) (.seq (.reg [iR 52 (.p .mv) [(.t 8)], iR 53 (.p .mv) [(.t 6)], iR 54 (.p .mv) [(.t 10)], iR 55 (.p .mv) [(.t 11)],
    iR 56 (.p (.strSlice true true)) [(.t 53), (.t 54), (.t 55)], iR 57 (.call 24) [(.t 56), (.c (.str (bs [9, 32])))], iR 58 (.e (.buildSlice 1 1 [(.str [])] [(0, 1)])) [(.t 57)], iR 59 (.e (.append 1 16)) [(.t 52), (.t 58)], iR 8 (.p .mv) [(.t 59)]]) (.keep [6, 8, 9, 11] (.reg [iR 60 (.p .mv) [(.t 11)], iR 61 (.p (.bin .add)) [(.t 60), (.c (.int .i64 (.ofNat 1)))], iR 10 (.p .mv) [(.t 61)]]))) .skip))))))))))) (.keep [6, 8, 9, 10, 11] (.reg [iR 24 (.p .mv) [(.t 11)], iR 25 (.p (.bin .add)) [(.t 24), (.c (.int .i64 (.ofNat 1)))], iR 11 (.p .mv) [(.t 25)]])))))))))) (.keep [6, 8, 10] (.seq (.reg [iR 62 (.p .mv) [(.t 8)], iR 63 (.p .mv) [(.t 6)], iR 64 (.p .mv) [(.t 10)], iR 65 (.p (.strSlice true false)) [(.t 63), (.t 64)], iR 66 (.call 24) [(.t 65), (.c (.str (bs [9, 32])))], iR 67 (.e (.buildSlice 1 1 [(.str [])] [(0, 1)])) [(.t 66)], iR 68 (.e (.append 1 16)) [(.t 62), (.t 67)],
    iR 4 (.p .mv) [(.t 68)], iR 5 (.p .mv) [(.c (.bool true))]]) (.keep [4, 5] (.keep [4, 5] .ret))))))))))))))), [(.t 4), (.t 5)]⟩
def s_headers_Split_j0 (call : CallK) (N : Nat) (q : KV) (st : St) (τ : Tape) : Ans := match st with
  | ⟨fr, H⟩ => getK fr 6 fun t6 => getK fr 8 fun t8 => getK fr 10 fun t10 => someK (pStrSlice true false [t6, t10]) fun v6 => call f_strings_Trim [v6, (.str (bs [9, 32]))] H τ fun v7 H8 τ9 => effK (eBuildSlice 1 1 [(.str [])] [(0, 1)] [v7] H8 τ9) fun v10 H11 τ12 => effK (eAppend 1 16 [t8, v10] H11 τ12) fun v13 H14 τ15 => q (.tup [v13, (.bool true)]) H14 τ15
def s_headers_Split_j2 (call : CallK) (N : Nat) (k : KC) (st : St) (τ : Tape) : Ans := match st with
  | ⟨fr, H⟩ => getK fr 6 fun t6 => getK fr 8 fun t8 => getK fr 9 fun t9 => getK fr 10 fun t10 => getK fr 11 fun t11 => binK .add t11 (.int .i64 (.ofNat 1)) fun v18 => k .normal ⟨(T.set (T.set (T.set (T.set (T.set (T.set (T.set (T.set .leaf 6 t6) 8 t8) 9 t9) 10 t10) 11 t11) 24 t11) 25 v18) 11 v18), H⟩ τ
def s_headers_Split_l1 (call : CallK) (N : Nat) (st : St) (τ : Tape) (k : KC) : Ans := match st with
  | ⟨fr, H⟩ => getK fr 6 fun t6 => getK fr 8 fun t8 => getK fr 9 fun t9 => getK fr 10 fun t10 => getK fr 11 fun t11 => someK (pLenS [t6]) fun v16 => binK .lss t11 v16 fun v17 => condK v17 (someK (pStrIndex [t6, t11]) fun v19 => binK .eql v19 (.int .u8 (.ofNat 34)) fun v20 => condK v20 (unK .not t9 fun v21 => s_headers_Split_j2 call N k ⟨(T.set (T.set (T.set (T.set (T.set (T.set (T.set (T.set (T.set .leaf 6 t6) 8 t8) 9 t9) 10 t10) 11 t11) 26 v20) 31 t9) 32 v21) 9 v21), H⟩ τ) (gK t9 true (fun q' => q' t6 H τ) H τ fun v22 H23 τ24 => gK t9 true (fun q' => q' t11 H23 τ24) H23 τ24 fun v25 H26 τ27 => gK t9 true (fun q' => someK (pStrIndex [v22, v25]) fun v => q' v H26 τ27) H26 τ27 fun v28 H29 τ30 => gK t9 true (fun q' => binK .eql v28 (.int .u8 (.ofNat 92)) fun v => q' v H29 τ30) H29 τ30 fun v31 H32 τ33 => someK (pPick [t9, v31, (.bool false)]) fun v34 => condK v34
    (binK .add t11 (.int .i64 (.ofNat 1)) fun v35 => s_headers_Split_j2 call N k ⟨(T.set (T.set (T.set (T.set (T.set (T.set (T.set (T.set (T.set .leaf 6 t6) 8 t8) 9 t9) 10 t10) 11 t11) 33 v34) 41 t11) 42 v35) 11 v35), H32⟩ τ33) (unK .not t9 fun v36 => gK v36 true (fun q' => q' t6 H32 τ33) H32 τ33 fun v37 H38 τ39 => gK v36 true (fun q' => q' t11 H38 τ39) H38 τ39 fun v40 H41 τ42 => gK v36 true (fun q' => someK (pStrIndex [v37, v40]) fun v => q' v H41 τ42) H41 τ42 fun v43 H44 τ45 => gK v36 true (fun q' => binK .eql v43 (.int .u8 (.ofNat 44)) fun v => q' v H44 τ45) H44 τ45 fun v46 H47 τ48 => someK (pPick [v36, v46, (.bool false)]) fun v49 => condK v49 (someK (pStrSlice true true [t6, t10, t11]) fun v50 => call f_strings_Trim [v50, (.str (bs [9, 32]))] H47 τ48 fun v51 H52 τ53 => effK (eBuildSlice 1 1 [(.str [])] [(0, 1)] [v51] H52 τ53) fun v54 H55 τ56 =>
    effK (eAppend 1 16 [t8, v54] H55 τ56) fun v57 H58 τ59 => binK .add t11 (.int .i64 (.ofNat 1)) fun v60 => s_headers_Split_j2 call N k ⟨(T.set (T.set (T.set (T.set (T.set (T.set (T.set .leaf 6 t6) 8 v57) 9 t9) 11 t11) 60 t11) 61 v60) 10 v60), H58⟩ τ59) (s_headers_Split_j2 call N k ⟨(T.set (T.set (T.set (T.set (T.set (T.set .leaf 6 t6) 8 t8) 9 t9) 10 t10) 11 t11) 43 v49), H47⟩ τ48)))) (k (.exit 0) ⟨(T.set (T.set (T.set .leaf 6 t6) 8 t8) 10 t10), H⟩ τ)
def s_headers_Split (call : CallK) (N : Nat) (a0 a1 : V) (H : Heap) (τ : Tape) (q : KV) : Ans := call f_headers_Get [a0, a1] H τ fun v0 H1 τ2 => someK (pExtract 0 [v0]) fun v3 => someK (pExtract 1 [v0]) fun v4 => unK .not v4 fun v5 => condK v5 (q (.tup [.nils, (.bool false)]) H1 τ2) (loopK (s_headers_Split_l1 call N) N ⟨(T.set (T.set (T.set (T.set (T.set .leaf 6 v3) 8 .nils) 9 (.bool false)) 10 (.int .i64 (.ofNat 0))) 11 (.int .i64 (.ofNat 0))), H1⟩ τ2 (blockK 0 (seqK (s_headers_Split_j0 call N q) (endK [(.t 4), (.t 5)] q))))
theorem s_headers_Split_eq (call : CallK) (N : Nat) (a0 a1 : V) (H : Heap) (τ : Tape) (q : KV) : s_headers_Split call N a0 a1 H τ q = funK call N fn_headers_Split [a0, a1] H τ q := by kernel_rfl
def e_headers_Split (call : CallK) (N : Nat) (vs : List V) (H : Heap) (τ : Tape) (q : KV) : Ans := match vs with | [a0, a1] => s_headers_Split call N a0 a1 H τ q | _ => none
theorem e_headers_Split_ok : EntOk fn_headers_Split e_headers_Split := by
  intro call N vs H τ q r h
  unfold e_headers_Split at h
  split at h
  · rw [s_headers_Split_eq] at h; exact h
  · cases h
theorem e_headers_Split_nat : EntNat e_headers_Split := by
  intro c hn N vs H τ q
  unfold e_headers_Split
  split
  · rw [s_headers_Split_eq, s_headers_Split_eq]; exact funK_ent hn _ _ _ _ _ _
  · rfl
/-- (*ostiary/ostiarybook.Book[ostiary/api.Header]).Keep -/
def fn_book_Book_Header_Keep : Fun := ⟨2, (.seq (.reg [iR 4 (.p .mv) [(.t 0)], iR 5 (.p .mv) [(.t 0)], iR 6 (.p .nilck) [(.t 5)], iR 7 (.p (.fieldAddr 0)) [(.t 6)], iR 8 (.l (.load none)) [(.t 7)], iR 9 (.p .mv) [(.t 1)], iR 10 (.e (.buildSlice 1 1 [.nils] [(0, 1)])) [(.t 9)], iR 11 (.e (.append 1 24)) [(.t 8), (.t 10)], iR 12 (.p .nilck) [(.t 4)], iR 13 (.p (.fieldAddr 0)) [(.t 12)], ⟨none, none, (.e (.store 1)), [(.t 13), (.t 11)], none⟩]) (.keep [0, 1] (.seq (.draw [iR 14 (.p .mv) [(.t 0)], iR 15 (.p .mv) [(.t 0)], iR 16 (.p .nilck) [(.t 15)], iR 17 (.p (.fieldAddr 1)) [(.t 16)], ⟨(some 18), none, (.l (.load none)), [(.t 17)], some (0, 2)⟩, iR 19 (.p .mv) [(.t 1)], iR 20 (.e (.append 2 32)) [(.c .nils), (.t 19)], iR 21 (.e (.buildSlice 1 1 [.nils] [(0, 1)])) [(.t 20)], iR 22 (.e (.append 1 24)) [(.t 18), (.t 21)], iR 23 (.p .nilck) [(.t 14)], iR 24 (.p (.fieldAddr 1)) [(.t 23)],
    ⟨none, none, (.e (.store 1)), [(.t 24), (.t 22)], none⟩]) (.keep [0, 1] (.seq (.reg [iR 25 (.p .mv) [(.t 0)], iR 26 (.p .mv) [(.t 0)], iR 27 (.p .nilck) [(.t 26)], iR 28 (.p (.fieldAddr 2)) [(.t 27)], iR 29 (.l (.load none)) [(.t 28)], iR 30 (.p .mv) [(.t 1)], iR 31 (.p .cap) [(.t 30)], iR 32 (.p (.bin .add)) [(.t 29), (.t 31)], iR 33 (.p (.bin .add)) [(.t 32), (.c (.int .i64 (.ofNat 1)))], iR 34 (.p .nilck) [(.t 25)], iR 35 (.p (.fieldAddr 2)) [(.t 34)], ⟨none, none, (.e (.store 1)), [(.t 35), (.t 33)], none⟩]) (.keep [0] (.block 0 (.loop (.keep [0] (.seq (.seq (.reg [iR 36 (.p .mv) [(.t 0)], iR 37 (.p .nilck) [(.t 36)], iR 38 (.p (.fieldAddr 0)) [(.t 37)], iR 39 (.l (.load none)) [(.t 38)], iR 40 (.p .len) [(.t 39)], iR 41 (.p (.bin .gtr)) [(.t 40), (.c (.int .i64 (.ofNat 1)))], iR 42 (.p .mv) [(.t 41)], iG 43 42 true (.p .mv) [(.t 0)], iG 44 42 true (.p .nilck) [(.t 43)],
    iG 45 42 true (.p (.fieldAddr 2)) [(.t 44)], iG 46 42 true (.l (.load none)) [(.t 45)], iG 47 42 true (.p (.bin .gtr)) [(.t 46), (.c (.int .i64 (.ofNat 1000000)))], iG 48 42 true (.p .mv) [(.t 47)], iG 49 48 false (.p .mv) [(.t 0)], iG 50 48 false (.p .nilck) [(.t 49)], iG 51 48 false (.p (.fieldAddr 0)) [(.t 50)], iG 52 48 false (.l (.load none)) [(.t 51)], iG 53 48 false (.p .len) [(.t 52)], iG 54 48 false (.p (.bin .gtr)) [(.t 53), (.c (.int .i64 (.ofNat 4000)))], iG 55 42 true (.p .pick) [(.t 48), (.c (.bool true)), (.t 54)], iR 56 (.p .pick) [(.t 42), (.t 55), (.c (.bool false))]]) (.keep [0, 56] (.cond (.t 56) .skip (.keep [] (.exit 0))))) (.keep [0] (.block 1 (.seq (.draw [iR 57 (.p .mv) [(.t 0)], iR 58 (.p .mv) [(.t 0)], iR 59 (.p .nilck) [(.t 58)], iR 60 (.p (.fieldAddr 3)) [(.t 59)], iR 61 (.l (.load none)) [(.t 60)], iR 62 (.p .mv) [(.t 61)],
    iG 63 62 false (.p .mv) [(.t 0)], iG 64 62 false (.p .nilck) [(.t 63)], iG 65 62 false (.p (.fieldAddr 0)) [(.t 64)], iG 66 62 false (.l (.load none)) [(.t 65)], iG 67 62 false (.p (.slIdx 1)) [(.t 66), (.c (.int .i64 (.ofNat 0)))], iG 68 62 false (.l (.load none)) [(.t 67)], iG 69 62 false (.p .mv) [(.t 0)], iG 70 62 false (.p .nilck) [(.t 69)], iG 71 62 false (.p (.fieldAddr 1)) [(.t 70)], iG 72 62 false (.l (.load none)) [(.t 71)], iG 73 62 false (.p (.slIdx 1)) [(.t 72), (.c (.int .i64 (.ofNat 0)))], iG 74 62 false (.l (.load none)) [(.t 73)], iG 75 62 false (.call 25) [(.t 68), (.t 74)], iG 76 62 false (.p (.un .not)) [(.t 75)], iR 77 (.p .pick) [(.t 62), (.c (.bool true)), (.t 76)], iR 78 (.p .nilck) [(.t 57)], iR 79 (.p (.fieldAddr 3)) [(.t 78)], ⟨none, none, (.e (.store 1)), [(.t 79), (.t 77)], none⟩]) (.keep [0] (.seq (.draw [iR 80 (.p .mv) [(.t 0)],
    iR 81 (.p .mv) [(.t 0)], iR 82 (.p .nilck) [(.t 81)], iR 83 (.p (.fieldAddr 2)) [(.t 82)], iR 84 (.l (.load none)) [(.t 83)], iR 85 (.p .mv) [(.t 0)], iR 86 (.p .nilck) [(.t 85)], iR 87 (.p (.fieldAddr 0)) [(.t 86)], iR 88 (.l (.load none)) [(.t 87)], iR 89 (.p (.slIdx 1)) [(.t 88), (.c (.int .i64 (.ofNat 0)))], iR 90 (.l (.load none)) [(.t 89)], iR 91 (.p .cap) [(.t 90)], iR 92 (.p (.bin .sub)) [(.t 84), (.t 91)], iR 93 (.p (.bin .sub)) [(.t 92), (.c (.int .i64 (.ofNat 1)))], iR 94 (.p .nilck) [(.t 80)], iR 95 (.p (.fieldAddr 2)) [(.t 94)], ⟨none, none, (.e (.store 1)), [(.t 95), (.t 93)], none⟩]) (.keep [0] (.seq (.reg [iR 96 (.p .mv) [(.t 0)], iR 97 (.p .mv) [(.t 0)], iR 98 (.p .nilck) [(.t 97)], iR 99 (.p (.fieldAddr 0)) [(.t 98)], iR 100 (.l (.load none)) [(.t 99)], iR 101 (.p (.slSlice 1 true false false)) [(.t 100), (.c (.int .i64 (.ofNat 1)))],
    iR 102 (.p .nilck) [(.t 96)], iR 103 (.p (.fieldAddr 0)) [(.t 102)], ⟨none, none, (.e (.store 1)), [(.t 103), (.t 101)], none⟩]) (.keep [0] (.reg [iR 104 (.p .mv) [(.t 0)], iR 105 (.p .mv) [(.t 0)], iR 106 (.p .nilck) [(.t 105)], iR 107 (.p (.fieldAddr 1)) [(.t 106)], iR 108 (.l (.load none)) [(.t 107)], iR 109 (.p (.slSlice 1 true false false)) [(.t 108), (.c (.int .i64 (.ofNat 1)))], iR 110 (.p .nilck) [(.t 104)], iR 111 (.p (.fieldAddr 1)) [(.t 110)], ⟨none, none, (.e (.store 1)), [(.t 111), (.t 109)], none⟩]))))))))))))))))))), []⟩
def s_book_Book_Header_Keep_l0 (call : CallK) (N : Nat) (st : St) (τ : Tape) (k : KC) : Ans := match st with
  | ⟨fr, H⟩ => getK fr 0 fun t0 => someK (pNilck [t0]) fun v42 => someK (pFieldAddr 0 [v42]) fun v43 => someK (lLoad1 [v43] H) fun v44 => someK (pLen [v44]) fun v45 => binK .gtr v45 (.int .i64 (.ofNat 1)) fun v46 => gK v46 true (fun q' => q' t0 H τ) H τ fun v47 H48 τ49 => gK v46 true (fun q' => someK (pNilck [v47]) fun v => q' v H48 τ49) H48 τ49 fun v50 H51 τ52 => gK v46 true (fun q' => someK (pFieldAddr 2 [v50]) fun v => q' v H51 τ52) H51 τ52 fun v53 H54 τ55 => gK v46 true (fun q' => someK (lLoad1 [v53] H54) fun v => q' v H54 τ55) H54 τ55 fun v56 H57 τ58 => gK v46 true (fun q' => binK .gtr v56 (.int .i64 (.ofNat 1000000)) fun v => q' v H57 τ58) H57 τ58 fun v59 H60 τ61 => gK v46 true (fun q' => q' v59 H60 τ61) H60 τ61 fun v62 H63 τ64 => gK v62 false (fun q' => q' t0 H63 τ64) H63 τ64 fun v65 H66 τ67 =>
    gK v62 false (fun q' => someK (pNilck [v65]) fun v => q' v H66 τ67) H66 τ67 fun v68 H69 τ70 => gK v62 false (fun q' => someK (pFieldAddr 0 [v68]) fun v => q' v H69 τ70) H69 τ70 fun v71 H72 τ73 => gK v62 false (fun q' => someK (lLoad1 [v71] H72) fun v => q' v H72 τ73) H72 τ73 fun v74 H75 τ76 => gK v62 false (fun q' => someK (pLen [v74]) fun v => q' v H75 τ76) H75 τ76 fun v77 H78 τ79 => gK v62 false (fun q' => binK .gtr v77 (.int .i64 (.ofNat 4000)) fun v => q' v H78 τ79) H78 τ79 fun v80 H81 τ82 => gK v46 true (fun q' => someK (pPick [v62, (.bool true), v80]) fun v => q' v H81 τ82) H81 τ82 fun v83 H84 τ85 => someK (pPick [v46, v83, (.bool false)]) fun v86 => condK v86 (someK (pNilck [t0]) fun v87 => someK (pFieldAddr 3 [v87]) fun v88 => someK (lLoad1 [v88] H84) fun v89 => gK v89 false (fun q' => q' t0 H84 τ85) H84 τ85 fun v90 H91 τ92 =>
    gK v89 false (fun q' => someK (pNilck [v90]) fun v => q' v H91 τ92) H91 τ92 fun v93 H94 τ95 => gK v89 false (fun q' => someK (pFieldAddr 0 [v93]) fun v => q' v H94 τ95) H94 τ95 fun v96 H97 τ98 => gK v89 false (fun q' => someK (lLoad1 [v96] H97) fun v => q' v H97 τ98) H97 τ98 fun v99 H100 τ101 => gK v89 false (fun q' => someK (pSlIdx 1 [v99, (.int .i64 (.ofNat 0))]) fun v => q' v H100 τ101) H100 τ101 fun v102 H103 τ104 => gK v89 false (fun q' => someK (lLoad1 [v102] H103) fun v => q' v H103 τ104) H103 τ104 fun v105 H106 τ107 => gK v89 false (fun q' => q' t0 H106 τ107) H106 τ107 fun v108 H109 τ110 => gK v89 false (fun q' => someK (pNilck [v108]) fun v => q' v H109 τ110) H109 τ110 fun v111 H112 τ113 => gK v89 false (fun q' => someK (pFieldAddr 1 [v111]) fun v => q' v H112 τ113) H112 τ113 fun v114 H115 τ116 =>
    gK v89 false (fun q' => someK (lLoad1 [v114] H115) fun v => q' v H115 τ116) H115 τ116 fun v117 H118 τ119 => gK v89 false (fun q' => someK (pSlIdx 1 [v117, (.int .i64 (.ofNat 0))]) fun v => q' v H118 τ119) H118 τ119 fun v120 H121 τ122 => gK v89 false (fun q' => someK (lLoad1 [v120] H121) fun v => q' v H121 τ122) H121 τ122 fun v123 H124 τ125 => gK v89 false (fun q' => call f_book_Same_Header [v105, v123] H124 τ125 q') H124 τ125 fun v126 H127 τ128 => gK v89 false (fun q' => unK .not v126 fun v => q' v H127 τ128) H127 τ128 fun v129 H130 τ131 => someK (pPick [v89, (.bool true), v129]) fun v132 => someK (pNilck [t0]) fun v133 => someK (pFieldAddr 3 [v133]) fun v134 => effK (eStore 1 [v134, v132] H130 τ131) fun v135 H136 τ137 => someK (pNilck [t0]) fun v138 => someK (pFieldAddr 2 [v138]) fun v139 => someK (lLoad1 [v139] H136) fun v140 => someK (pNilck [t0]) fun v141 =>
    someK (pFieldAddr 0 [v141]) fun v142 => someK (lLoad1 [v142] H136) fun v143 => someK (pSlIdx 1 [v143, (.int .i64 (.ofNat 0))]) fun v144 => someK (lLoad1 [v144] H136) fun v145 => someK (pCap [v145]) fun v146 => binK .sub v140 v146 fun v147 => binK .sub v147 (.int .i64 (.ofNat 1)) fun v148 => someK (pNilck [t0]) fun v149 => someK (pFieldAddr 2 [v149]) fun v150 => effK (eStore 1 [v150, v148] H136 τ137) fun v151 H152 τ153 => someK (pNilck [t0]) fun v154 => someK (pFieldAddr 0 [v154]) fun v155 => someK (lLoad1 [v155] H152) fun v156 => someK (pSlSlice 1 true false false [v156, (.int .i64 (.ofNat 1))]) fun v157 => someK (pNilck [t0]) fun v158 => someK (pFieldAddr 0 [v158]) fun v159 => effK (eStore 1 [v159, v157] H152 τ153) fun v160 H161 τ162 => someK (pNilck [t0]) fun v163 => someK (pFieldAddr 1 [v163]) fun v164 => someK (lLoad1 [v164] H161) fun v165 =>
    someK (pSlSlice 1 true false false [v165, (.int .i64 (.ofNat 1))]) fun v166 => someK (pNilck [t0]) fun v167 => someK (pFieldAddr 1 [v167]) fun v168 => effK (eStore 1 [v168, v166] H161 τ162) fun v169 H170 τ171 => k .normal ⟨(T.set (T.set (T.set (T.set (T.set (T.set (T.set (T.set (T.set .leaf 0 t0) 104 t0) 105 t0) 106 v163) 107 v164) 108 v165) 109 v166) 110 v167) 111 v168), H170⟩ τ171) (k (.exit 0) ⟨.leaf, H84⟩ τ85)
def s_book_Book_Header_Keep (call : CallK) (N : Nat) (a0 a1 : V) (H : Heap) (τ : Tape) (q : KV) : Ans := someK (pNilck [a0]) fun v0 => someK (pFieldAddr 0 [v0]) fun v1 => someK (lLoad1 [v1] H) fun v2 => effK (eBuildSlice 1 1 [.nils] [(0, 1)] [a1] H τ) fun v3 H4 τ5 => effK (eAppend 1 24 [v2, v3] H4 τ5) fun v6 H7 τ8 => someK (pNilck [a0]) fun v9 => someK (pFieldAddr 0 [v9]) fun v10 => effK (eStore 1 [v10, v6] H7 τ8) fun v11 H12 τ13 => someK (pNilck [a0]) fun v14 => someK (pFieldAddr 1 [v14]) fun v15 => someK (lLoad1 [v15] H12) fun v16 => effK (eAppend 2 32 [.nils, a1] H12 τ13) fun v17 H18 τ19 => effK (eBuildSlice 1 1 [.nils] [(0, 1)] [v17] H18 τ19) fun v20 H21 τ22 => effK (eAppend 1 24 [v16, v20] H21 τ22) fun v23 H24 τ25 => someK (pNilck [a0]) fun v26 => someK (pFieldAddr 1 [v26]) fun v27 => effK (eStore 1 [v27, v23] H24 τ25) fun v28 H29 τ30 =>
    bif chkLoads [H12, H18, H21, H24, H29] (((.load none), [v15], 0, 2) :: []) then someK (pNilck [a0]) fun v31 => someK (pFieldAddr 2 [v31]) fun v32 => someK (lLoad1 [v32] H29) fun v33 => someK (pCap [a1]) fun v34 => binK .add v33 v34 fun v35 => binK .add v35 (.int .i64 (.ofNat 1)) fun v36 => someK (pNilck [a0]) fun v37 => someK (pFieldAddr 2 [v37]) fun v38 => effK (eStore 1 [v38, v36] H29 τ30) fun v39 H40 τ41 => loopK (s_book_Book_Header_Keep_l0 call N) N ⟨(T.set .leaf 0 a0), H40⟩ τ41 (blockK 0 (endK [] q)) else none
theorem s_book_Book_Header_Keep_eq (call : CallK) (N : Nat) (a0 a1 : V) (H : Heap) (τ : Tape) (q : KV) : s_book_Book_Header_Keep call N a0 a1 H τ q = funK call N fn_book_Book_Header_Keep [a0, a1] H τ q := by kernel_rfl
def e_book_Book_Header_Keep (call : CallK) (N : Nat) (vs : List V) (H : Heap) (τ : Tape) (q : KV) : Ans := match vs with | [a0, a1] => s_book_Book_Header_Keep call N a0 a1 H τ q | _ => none
theorem e_book_Book_Header_Keep_ok : EntOk fn_book_Book_Header_Keep e_book_Book_Header_Keep := by
  intro call N vs H τ q r h
  unfold e_book_Book_Header_Keep at h
  split at h
  · rw [s_book_Book_Header_Keep_eq] at h; exact h
  · cases h
theorem e_book_Book_Header_Keep_nat : EntNat e_book_Book_Header_Keep := by
  intro c hn N vs H τ q
  unfold e_book_Book_Header_Keep
  split
  · rw [s_book_Book_Header_Keep_eq, s_book_Book_Header_Keep_eq]; exact funK_ent hn _ _ _ _ _ _
  · rfl
/-- ostiary/headers.Drop -/
def fn_headers_Drop : Fun := ⟨2, (.seq (.reg [iR 3 (.e .box) [(.t 1)], iR 4 (.p .mv) [(.c .nils)]]) (.keep [0, 3] (.seq (.reg [iR 5 (.p .mv) [(.t 0)], iR 6 (.call 19) [(.t 5)], iR 7 (.p (.mkFunc 27 0)) [(.t 3)], iR 8 (.call 26) [(.t 6), (.t 7)], iR 4 (.p .mv) [(.t 8)]]) (.keep [4] (.keep [4] .ret))))), [(.t 4)]⟩
def s_headers_Drop (call : CallK) (N : Nat) (a0 a1 : V) (H : Heap) (τ : Tape) (q : KV) : Ans := effK (eBox [a1] H τ) fun v0 H1 τ2 => call f_slices_Clone_Header [a0] H1 τ2 fun v3 H4 τ5 => someK (some (V.func f_headers_Drop_1 (List.take 0 [v0]) (List.drop 0 [v0]))) fun v6 => call f_slices_DeleteFunc_Header [v3, v6] H4 τ5 fun v7 H8 τ9 => q v7 H8 τ9
theorem s_headers_Drop_eq (call : CallK) (N : Nat) (a0 a1 : V) (H : Heap) (τ : Tape) (q : KV) : s_headers_Drop call N a0 a1 H τ q = funK call N fn_headers_Drop [a0, a1] H τ q := by kernel_rfl
def e_headers_Drop (call : CallK) (N : Nat) (vs : List V) (H : Heap) (τ : Tape) (q : KV) : Ans := match vs with | [a0, a1] => s_headers_Drop call N a0 a1 H τ q | _ => none
theorem e_headers_Drop_ok : EntOk fn_headers_Drop e_headers_Drop := by
  intro call N vs H τ q r h
  unfold e_headers_Drop at h
  split at h
  · rw [s_headers_Drop_eq] at h; exact h
  · cases h
theorem e_headers_Drop_nat : EntNat e_headers_Drop := by
  intro c hn N vs H τ q
  unfold e_headers_Drop
  split
  · rw [s_headers_Drop_eq, s_headers_Drop_eq]; exact funK_ent hn _ _ _ _ _ _
  · rfl
/-- ostiary/headers.Sorted -/
def fn_headers_Sorted : Fun := ⟨1, (.seq (.reg [iR 2 (.p .mv) [(.c .nils)]]) (.keep [0] (.seq (.reg [iR 3 (.p .mv) [(.c .nils)]]) (.keep [0, 3] (.seq (.seq (.reg [iR 13 (.p .mv) [(.t 0)], iR 14 (.p .len) [(.t 13)], iR 15 (.p .mv) [(.c (.int .i64 (.ofNat 0)))]]) (.keep [0, 3, 13, 14, 15] (.block 0 (.loop (.keep [0, 3, 13, 14, 15] (.seq (.reg [iR 16 (.p (.bin .lss)) [(.t 15), (.t 14)]]) (.keep [0, 3, 13, 14, 15, 16] (.seq (.cond (.t 16) .skip (.keep [0, 3] (.exit 0))) (.keep [0, 3, 13, 14, 15] (.seq (.block 1 (.seq (.reg [iR 17 (.p (.slIdx 2)) [(.t 13), (.t 15)], iR 18 (.l (.load (some 2))) [(.t 17)], iR 5 (.e (.alloc [(.str []), (.str [])])) [], ⟨none, none, (.e (.store 2)), [(.t 5), (.t 18)], none⟩]) (.keep [0, 3, 5, 13, 14, 15] (.reg [iR 19 (.p .mv) [(.t 3)], iR 20 (.p (.fieldAddr 0)) [(.t 5)], iR 21 (.l (.load none)) [(.t 20)], iR 22 (.call 28) [(.t 21)],
    iR 23 (.e (.buildSlice 1 1 [(.str [])] [(0, 1)])) [(.t 22)], iR 24 (.e (.append 1 16)) [(.t 19), (.t 23)], iR 3 (.p .mv) [(.t 24)]])))) (.keep [0, 3, 13, 14, 15] (.reg [iR 25 (.p (.bin .add)) [(.t 15), (.c (.int .i64 (.ofNat 1)))], iR 15 (.p .mv) [(.t 25)]])))))))))))) (.keep [0, 3] (.seq (.reg [iR 26 (.p .mv) [(.t 3)], iR 27 (.call 29) [(.t 26)]]) (.keep [0, 3] (.seq (.reg [iR 6 (.p .mv) [(.c .nils)]]) (.keep [0, 3, 6] (.seq (.seq (.reg [iR 28 (.p .mv) [(.t 3)], iR 29 (.call 30) [(.t 28)], iR 30 (.p .len) [(.t 29)], iR 31 (.p .mv) [(.c (.int .i64 (.ofNat 0)))]]) (.keep [0, 6, 29, 30, 31] (.block 2 (.loop (.keep [0, 6, 29, 30, 31] (.seq (.reg [iR 32 (.p (.bin .lss)) [(.t 31), (.t 30)]]) (.keep [0, 6, 29, 30, 31, 32] (.seq (.cond (.t 32) .skip (.keep [6] (.exit 2))) (.keep [0, 6, 29, 30, 31] (.seq (.block 3 (.seq (.reg [iR 33 (.p (.slIdx 1)) [(.t 29), (.t 31)],
    iR 34 (.l (.load none)) [(.t 33)], iR 8 (.p .mv) [(.t 34)]]) (.keep [0, 6, 8, 29, 30, 31] (.seq (.seq (.reg [iR 35 (.p .mv) [(.t 8)], iR 36 (.p (.bin .neq)) [(.t 35), (.c (.str (bs [115, 101, 116, 45, 99, 111, 111, 107, 105, 101])))]]) (.keep [0, 6, 8, 29, 30, 31, 36] (.cond (.t 36) (.seq (.reg [iR 38 (.p .mv) [(.t 0)], iR 39 (.p .mv) [(.t 8)], iR 40 (.call 23) [(.t 38), (.t 39)], iR 37 (.p .mv) [(.t 40)], iR 41 (.p (.extract 0)) [(.t 37)], iR 42 (.p (.extract 1)) [(.t 37)], iR 9 (.p .mv) [(.t 41)], iR 10 (.p .mv) [(.t 42)]]) (.keep [0, 6, 8, 9, 29, 30, 31] (.seq (.reg [iR 43 (.p .mv) [(.t 6)], iR 44 (.p .mv) [(.t 8)], iR 45 (.p .mv) [(.t 9)], iR 46 (.p (.build [(.str []), (.str [])] [(0, 1), (1, 1)])) [(.t 44), (.t 45)], iR 47 (.e (.buildSlice 1 2 [(.str []), (.str [])] [(0, 2)])) [(.t 46)], iR 48 (.e (.append 2 32)) [(.t 43), (.t 47)], iR 6 (.p .mv) [(.t 48)]])
    (.keep [0, 6, 29, 30, 31] (.keep [0, 6, 29, 30, 31] (.exit 3)))))) .skip))) (.keep [0, 6, 8, 29, 30, 31] (.seq (.reg [iR 49 (.p .mv) [(.t 0)], iR 50 (.p .len) [(.t 49)], iR 51 (.p .mv) [(.c (.int .i64 (.ofNat 0)))]]) (.keep [0, 6, 8, 29, 30, 31, 49, 50, 51] (.block 4 (.loop (.keep [0, 6, 8, 29, 30, 31, 49, 50, 51] (.seq (.reg [iR 52 (.p (.bin .lss)) [(.t 51), (.t 50)]]) (.keep [0, 6, 8, 29, 30, 31, 49, 50, 51, 52] (.seq (.cond (.t 52) .skip (.keep [0, 6, 29, 30, 31] (.exit 4))) (.keep [0, 6, 8, 29, 30, 31, 49, 50, 51] (.seq (.block 5 (.seq (.reg [iR 53 (.p (.slIdx 2)) [(.t 49), (.t 51)], iR 54 (.l (.load (some 2))) [(.t 53)], iR 12 (.e (.alloc [(.str []), (.str [])])) [], ⟨none, none, (.e (.store 2)), [(.t 12), (.t 54)], none⟩]) (.keep [0, 6, 8, 12, 29, 30, 31, 49, 50, 51] (.seq (.reg [iR 55 (.l (.load (some 2))) [(.t 12)], iR 56 (.p .mv) [(.t 8)],
    iR 57 (.call 22) [(.t 55), (.t 56)]]) (.keep [0, 6, 8, 12, 29, 30, 31, 49, 50, 51, 57] (.cond (.t 57) (.reg [iR 58 (.p .mv) [(.t 6)], iR 59 (.p .mv) [(.t 8)], iR 60 (.p (.fieldAddr 1)) [(.t 12)], iR 61 (.l (.load none)) [(.t 60)], iR 62 (.p (.build [(.str []), (.str [])] [(0, 1), (1, 1)])) [(.t 59), (.t 61)], iR 63 (.e (.buildSlice 1 2 [(.str []), (.str [])] [(0, 2)])) [(.t 62)], iR 64 (.e (.append 2 32)) [(.t 58), (.t 63)], iR 6 (.p .mv) [(.t 64)]]) .skip)))))) (.keep [0, 6, 8, 29, 30, 31, 49, 50, 51] (.reg [iR 65 (.p (.bin .add)) [(.t 51), (.c (.int .i64 (.ofNat 1)))], iR 51 (.p .mv) [(.t 65)]]))))))))))))))))) (.keep [0, 6, 29, 30, 31] (.reg [iR 66 (.p (.bin .add)) [(.t 31), (.c (.int .i64 (.ofNat 1)))], iR 31 (.p .mv) [(.t 66)]])))))))))))) (.keep [6] (.seq (.reg [iR 67 (.p .mv) [(.t 6)], iR 2 (.p .mv) [(.t 67)]]) (.keep [2] (.keep [2] .ret))))))))))))))), [(.t 2)]⟩
def s_headers_Sorted_j1 (call : CallK) (N : Nat) (q : KV) (st : St) (τ : Tape) : Ans := match st with
  | ⟨fr, H⟩ => getK fr 6 fun t6 => q t6 H τ
def s_headers_Sorted_j3 (call : CallK) (N : Nat) (k : KC) (st : St) (τ : Tape) : Ans := match st with
  | ⟨fr, H⟩ => getK fr 0 fun t0 => getK fr 6 fun t6 => getK fr 29 fun t29 => getK fr 30 fun t30 => getK fr 31 fun t31 => binK .add t31 (.int .i64 (.ofNat 1)) fun v9 => k .normal ⟨(T.set (T.set (T.set (T.set (T.set (T.set (T.set .leaf 0 t0) 6 t6) 29 t29) 30 t30) 31 t31) 66 v9) 31 v9), H⟩ τ
def s_headers_Sorted_j5 (call : CallK) (N : Nat) (k : KC) (st : St) (τ : Tape) : Ans := match st with
  | ⟨fr, H⟩ => getK fr 0 fun t0 => getK fr 6 fun t6 => getK fr 8 fun t8 => getK fr 29 fun t29 => getK fr 30 fun t30 => getK fr 31 fun t31 => getK fr 49 fun t49 => getK fr 50 fun t50 => getK fr 51 fun t51 => binK .add t51 (.int .i64 (.ofNat 1)) fun v27 => k .normal ⟨(T.set (T.set (T.set (T.set (T.set (T.set (T.set (T.set (T.set (T.set (T.set .leaf 0 t0) 6 t6) 8 t8) 29 t29) 30 t30) 31 t31) 49 t49) 50 t50) 51 t51) 65 v27) 51 v27), H⟩ τ
def s_headers_Sorted_l4 (call : CallK) (N : Nat) (st : St) (τ : Tape) (k : KC) : Ans := match st with
  | ⟨fr, H⟩ => getK fr 0 fun t0 => getK fr 6 fun t6 => getK fr 8 fun t8 => getK fr 29 fun t29 => getK fr 30 fun t30 => getK fr 31 fun t31 => getK fr 49 fun t49 => getK fr 50 fun t50 => getK fr 51 fun t51 => binK .lss t51 t50 fun v26 => condK v26 (someK (pSlIdx 2 [t49, t51]) fun v28 => someK (lLoadN 2 [v28] H) fun v29 => effK (eAlloc [(.str []), (.str [])] [] H τ) fun v30 H31 τ32 => effK (eStore 2 [v30, v29] H31 τ32) fun v33 H34 τ35 => someK (lLoadN 2 [v30] H34) fun v36 => call f_headers_is [v36, t8] H34 τ35 fun v37 H38 τ39 => condK v37 (someK (pFieldAddr 1 [v30]) fun v40 => someK (lLoad1 [v40] H38) fun v41 => someK (pBuild [(.str []), (.str [])] [(0, 1), (1, 1)] [t8, v41]) fun v42 => effK (eBuildSlice 1 2 [(.str []), (.str [])] [(0, 2)] [v42] H38 τ39) fun v43 H44 τ45 => effK (eAppend 2 32 [t6, v43] H44 τ45) fun v46 H47 τ48 =>
    s_headers_Sorted_j5 call N k ⟨(T.set (T.set (T.set (T.set (T.set (T.set (T.set (T.set (T.set (T.set (T.set (T.set (T.set (T.set (T.set (T.set (T.set (T.set (T.set .leaf 0 t0) 6 t6) 8 t8) 12 v30) 29 t29) 30 t30) 31 t31) 49 t49) 50 t50) 51 t51) 57 v37) 58 t6) 59 t8) 60 v40) 61 v41) 62 v42) 63 v43) 64 v46) 6 v46), H47⟩ τ48) (s_headers_Sorted_j5 call N k ⟨(T.set (T.set (T.set (T.set (T.set (T.set (T.set (T.set (T.set (T.set (T.set .leaf 0 t0) 6 t6) 8 t8) 12 v30) 29 t29) 30 t30) 31 t31) 49 t49) 50 t50) 51 t51) 57 v37), H38⟩ τ39)) (k (.exit 4) ⟨(T.set (T.set (T.set (T.set (T.set .leaf 0 t0) 6 t6) 29 t29) 30 t30) 31 t31), H⟩ τ)
def s_headers_Sorted_l2 (call : CallK) (N : Nat) (st : St) (τ : Tape) (k : KC) : Ans := match st with
  | ⟨fr, H⟩ => getK fr 0 fun t0 => getK fr 6 fun t6 => getK fr 29 fun t29 => getK fr 30 fun t30 => getK fr 31 fun t31 => binK .lss t31 t30 fun v8 => condK v8 (someK (pSlIdx 1 [t29, t31]) fun v10 => someK (lLoad1 [v10] H) fun v11 => binK .neq v11 (.str (bs [115, 101, 116, 45, 99, 111, 111, 107, 105, 101])) fun v12 => condK v12 (call f_headers_Get [t0, v11] H τ fun v13 H14 τ15 => someK (pExtract 0 [v13]) fun v16 => someK (pExtract 1 [v13]) fun v17 => someK (pBuild [(.str []), (.str [])] [(0, 1), (1, 1)] [v11, v16]) fun v18 => effK (eBuildSlice 1 2 [(.str []), (.str [])] [(0, 2)] [v18] H14 τ15) fun v19 H20 τ21 => effK (eAppend 2 32 [t6, v19] H20 τ21) fun v22 H23 τ24 => s_headers_Sorted_j3 call N k ⟨(T.set (T.set (T.set (T.set (T.set .leaf 0 t0) 6 v22) 29 t29) 30 t30) 31 t31), H23⟩ τ24) (someK (pLen [t0]) fun v25 =>
    loopK (s_headers_Sorted_l4 call N) N ⟨(T.set (T.set (T.set (T.set (T.set (T.set (T.set (T.set (T.set .leaf 0 t0) 6 t6) 8 v11) 29 t29) 30 t30) 31 t31) 49 t0) 50 v25) 51 (.int .i64 (.ofNat 0))), H⟩ τ (blockK 4 (blockK 3 (seqK (s_headers_Sorted_j3 call N k) k))))) (k (.exit 2) ⟨(T.set .leaf 6 t6), H⟩ τ)
def s_headers_Sorted_j0 (call : CallK) (N : Nat) (q : KV) (st : St) (τ : Tape) : Ans := match st with
  | ⟨fr, H⟩ => getK fr 0 fun t0 => getK fr 3 fun t3 => call f_slices_Sort_string [t3] H τ fun v1 H2 τ3 => call f_slices_Compact_string [t3] H2 τ3 fun v4 H5 τ6 => someK (pLen [v4]) fun v7 => loopK (s_headers_Sorted_l2 call N) N ⟨(T.set (T.set (T.set (T.set (T.set .leaf 0 t0) 6 .nils) 29 v4) 30 v7) 31 (.int .i64 (.ofNat 0))), H5⟩ τ6 (blockK 2 (seqK (s_headers_Sorted_j1 call N q) (endK [(.t 2)] q)))
def s_headers_Sorted_l6 (call : CallK) (N : Nat) (st : St) (τ : Tape) (k : KC) : Ans := match st with
  | ⟨fr, H⟩ => getK fr 0 fun t0 => getK fr 3 fun t3 => getK fr 13 fun t13 => getK fr 14 fun t14 => getK fr 15 fun t15 => binK .lss t15 t14 fun v49 => condK v49 (someK (pSlIdx 2 [t13, t15]) fun v50 => someK (lLoadN 2 [v50] H) fun v51 => effK (eAlloc [(.str []), (.str [])] [] H τ) fun v52 H53 τ54 => effK (eStore 2 [v52, v51] H53 τ54) fun v55 H56 τ57 => someK (pFieldAddr 0 [v52]) fun v58 => someK (lLoad1 [v58] H56) fun v59 => call f_infra_Lower [v59] H56 τ57 fun v60 H61 τ62 => effK (eBuildSlice 1 1 [(.str [])] [(0, 1)] [v60] H61 τ62) fun v63 H64 τ65 => effK (eAppend 1 16 [t3, v63] H64 τ65) fun v66 H67 τ68 => binK .add t15 (.int .i64 (.ofNat 1)) fun v69 => k .normal ⟨(T.set (T.set (T.set (T.set (T.set (T.set (T.set .leaf 0 t0) 3 v66) 13 t13) 14 t14) 15 t15) 25 v69) 15 v69), H67⟩ τ68) (k (.exit 0) ⟨(T.set (T.set .leaf 0 t0) 3 t3), H⟩ τ)
def s_headers_Sorted (call : CallK) (N : Nat) (a0 : V) (H : Heap) (τ : Tape) (q : KV) : Ans := someK (pLen [a0]) fun v0 => loopK (s_headers_Sorted_l6 call N) N ⟨(T.set (T.set (T.set (T.set (T.set .leaf 0 a0) 3 .nils) 13 a0) 14 v0) 15 (.int .i64 (.ofNat 0))), H⟩ τ (blockK 0 (seqK (s_headers_Sorted_j0 call N q) (endK [(.t 2)] q)))
theorem s_headers_Sorted_eq (call : CallK) (N : Nat) (a0 : V) (H : Heap) (τ : Tape) (q : KV) : s_headers_Sorted call N a0 H τ q = funK call N fn_headers_Sorted [a0] H τ q := by kernel_rfl
def e_headers_Sorted (call : CallK) (N : Nat) (vs : List V) (H : Heap) (τ : Tape) (q : KV) : Ans := match vs with | [a0] => s_headers_Sorted call N a0 H τ q | _ => none
theorem e_headers_Sorted_ok : EntOk fn_headers_Sorted e_headers_Sorted := by
  intro call N vs H τ q r h
  unfold e_headers_Sorted at h
  split at h
  · rw [s_headers_Sorted_eq] at h; exact h
  · cases h
theorem e_headers_Sorted_nat : EntNat e_headers_Sorted := by
  intro c hn N vs H τ q
  unfold e_headers_Sorted
  split
  · rw [s_headers_Sorted_eq, s_headers_Sorted_eq]; exact funK_ent hn _ _ _ _ _ _
  · rfl
/-- (*ostiary/ostiarybook.Book[string]).Keep -/
def fn_book_Book_string_Keep : Fun := ⟨2, (.seq (.reg [iR 4 (.p .mv) [(.t 0)], iR 5 (.p .mv) [(.t 0)], iR 6 (.p .nilck) [(.t 5)], iR 7 (.p (.fieldAddr 0)) [(.t 6)], iR 8 (.l (.load none)) [(.t 7)], iR 9 (.p .mv) [(.t 1)], iR 10 (.e (.buildSlice 1 1 [.nils] [(0, 1)])) [(.t 9)], iR 11 (.e (.append 1 24)) [(.t 8), (.t 10)], iR 12 (.p .nilck) [(.t 4)], iR 13 (.p (.fieldAddr 0)) [(.t 12)], ⟨none, none, (.e (.store 1)), [(.t 13), (.t 11)], none⟩]) (.keep [0, 1] (.seq (.draw [iR 14 (.p .mv) [(.t 0)], iR 15 (.p .mv) [(.t 0)], iR 16 (.p .nilck) [(.t 15)], iR 17 (.p (.fieldAddr 1)) [(.t 16)], ⟨(some 18), none, (.l (.load none)), [(.t 17)], some (0, 2)⟩, iR 19 (.p .mv) [(.t 1)], iR 20 (.e (.append 1 16)) [(.c .nils), (.t 19)], iR 21 (.e (.buildSlice 1 1 [.nils] [(0, 1)])) [(.t 20)], iR 22 (.e (.append 1 24)) [(.t 18), (.t 21)], iR 23 (.p .nilck) [(.t 14)], iR 24 (.p (.fieldAddr 1)) [(.t 23)],
    ⟨none, none, (.e (.store 1)), [(.t 24), (.t 22)], none⟩]) (.keep [0, 1] (.seq (.reg [iR 25 (.p .mv) [(.t 0)], iR 26 (.p .mv) [(.t 0)], iR 27 (.p .nilck) [(.t 26)], iR 28 (.p (.fieldAddr 2)) [(.t 27)], iR 29 (.l (.load none)) [(.t 28)], iR 30 (.p .mv) [(.t 1)], iR 31 (.p .cap) [(.t 30)], iR 32 (.p (.bin .add)) [(.t 29), (.t 31)], iR 33 (.p (.bin .add)) [(.t 32), (.c (.int .i64 (.ofNat 1)))], iR 34 (.p .nilck) [(.t 25)], iR 35 (.p (.fieldAddr 2)) [(.t 34)], ⟨none, none, (.e (.store 1)), [(.t 35), (.t 33)], none⟩]) (.keep [0] (.block 0 (.loop (.keep [0] (.seq (.seq (.reg [iR 36 (.p .mv) [(.t 0)], iR 37 (.p .nilck) [(.t 36)], iR 38 (.p (.fieldAddr 0)) [(.t 37)], iR 39 (.l (.load none)) [(.t 38)], iR 40 (.p .len) [(.t 39)], iR 41 (.p (.bin .gtr)) [(.t 40), (.c (.int .i64 (.ofNat 1)))], iR 42 (.p .mv) [(.t 41)], iG 43 42 true (.p .mv) [(.t 0)], iG 44 42 true (.p .nilck) [(.t 43)],
    iG 45 42 true (.p (.fieldAddr 2)) [(.t 44)], iG 46 42 true (.l (.load none)) [(.t 45)], iG 47 42 true (.p (.bin .gtr)) [(.t 46), (.c (.int .i64 (.ofNat 1000000)))], iG 48 42 true (.p .mv) [(.t 47)], iG 49 48 false (.p .mv) [(.t 0)], iG 50 48 false (.p .nilck) [(.t 49)], iG 51 48 false (.p (.fieldAddr 0)) [(.t 50)], iG 52 48 false (.l (.load none)) [(.t 51)], iG 53 48 false (.p .len) [(.t 52)], iG 54 48 false (.p (.bin .gtr)) [(.t 53), (.c (.int .i64 (.ofNat 4000)))], iG 55 42 true (.p .pick) [(.t 48), (.c (.bool true)), (.t 54)], iR 56 (.p .pick) [(.t 42), (.t 55), (.c (.bool false))]]) (.keep [0, 56] (.cond (.t 56) .skip (.keep [] (.exit 0))))) (.keep [0] (.block 1 (.seq (.draw [iR 57 (.p .mv) [(.t 0)], iR 58 (.p .mv) [(.t 0)], iR 59 (.p .nilck) [(.t 58)], iR 60 (.p (.fieldAddr 3)) [(.t 59)], iR 61 (.l (.load none)) [(.t 60)], iR 62 (.p .mv) [(.t 61)],
    iG 63 62 false (.p .mv) [(.t 0)], iG 64 62 false (.p .nilck) [(.t 63)], iG 65 62 false (.p (.fieldAddr 0)) [(.t 64)], iG 66 62 false (.l (.load none)) [(.t 65)], iG 67 62 false (.p (.slIdx 1)) [(.t 66), (.c (.int .i64 (.ofNat 0)))], iG 68 62 false (.l (.load none)) [(.t 67)], iG 69 62 false (.p .mv) [(.t 0)], iG 70 62 false (.p .nilck) [(.t 69)], iG 71 62 false (.p (.fieldAddr 1)) [(.t 70)], iG 72 62 false (.l (.load none)) [(.t 71)], iG 73 62 false (.p (.slIdx 1)) [(.t 72), (.c (.int .i64 (.ofNat 0)))], iG 74 62 false (.l (.load none)) [(.t 73)], iG 75 62 false (.call 31) [(.t 68), (.t 74)], iG 76 62 false (.p (.un .not)) [(.t 75)], iR 77 (.p .pick) [(.t 62), (.c (.bool true)), (.t 76)], iR 78 (.p .nilck) [(.t 57)], iR 79 (.p (.fieldAddr 3)) [(.t 78)], ⟨none, none, (.e (.store 1)), [(.t 79), (.t 77)], none⟩]) (.keep [0] (.seq (.draw [iR 80 (.p .mv) [(.t 0)],
    iR 81 (.p .mv) [(.t 0)], iR 82 (.p .nilck) [(.t 81)], iR 83 (.p (.fieldAddr 2)) [(.t 82)], iR 84 (.l (.load none)) [(.t 83)], iR 85 (.p .mv) [(.t 0)], iR 86 (.p .nilck) [(.t 85)], iR 87 (.p (.fieldAddr 0)) [(.t 86)], iR 88 (.l (.load none)) [(.t 87)], iR 89 (.p (.slIdx 1)) [(.t 88), (.c (.int .i64 (.ofNat 0)))], iR 90 (.l (.load none)) [(.t 89)], iR 91 (.p .cap) [(.t 90)], iR 92 (.p (.bin .sub)) [(.t 84), (.t 91)], iR 93 (.p (.bin .sub)) [(.t 92), (.c (.int .i64 (.ofNat 1)))], iR 94 (.p .nilck) [(.t 80)], iR 95 (.p (.fieldAddr 2)) [(.t 94)], ⟨none, none, (.e (.store 1)), [(.t 95), (.t 93)], none⟩]) (.keep [0] (.seq (.reg [iR 96 (.p .mv) [(.t 0)], iR 97 (.p .mv) [(.t 0)], iR 98 (.p .nilck) [(.t 97)], iR 99 (.p (.fieldAddr 0)) [(.t 98)], iR 100 (.l (.load none)) [(.t 99)], iR 101 (.p (.slSlice 1 true false false)) [(.t 100), (.c (.int .i64 (.ofNat 1)))],
    iR 102 (.p .nilck) [(.t 96)], iR 103 (.p (.fieldAddr 0)) [(.t 102)], ⟨none, none, (.e (.store 1)), [(.t 103), (.t 101)], none⟩]) (.keep [0] (.reg [iR 104 (.p .mv) [(.t 0)], iR 105 (.p .mv) [(.t 0)], iR 106 (.p .nilck) [(.t 105)], iR 107 (.p (.fieldAddr 1)) [(.t 106)], iR 108 (.l (.load none)) [(.t 107)], iR 109 (.p (.slSlice 1 true false false)) [(.t 108), (.c (.int .i64 (.ofNat 1)))], iR 110 (.p .nilck) [(.t 104)], iR 111 (.p (.fieldAddr 1)) [(.t 110)], ⟨none, none, (.e (.store 1)), [(.t 111), (.t 109)], none⟩]))))))))))))))))))), []⟩
def s_book_Book_string_Keep_l0 (call : CallK) (N : Nat) (st : St) (τ : Tape) (k : KC) : Ans := match st with
  | ⟨fr, H⟩ => getK fr 0 fun t0 => someK (pNilck [t0]) fun v42 => someK (pFieldAddr 0 [v42]) fun v43 => someK (lLoad1 [v43] H) fun v44 => someK (pLen [v44]) fun v45 => binK .gtr v45 (.int .i64 (.ofNat 1)) fun v46 => gK v46 true (fun q' => q' t0 H τ) H τ fun v47 H48 τ49 => gK v46 true (fun q' => someK (pNilck [v47]) fun v => q' v H48 τ49) H48 τ49 fun v50 H51 τ52 => gK v46 true (fun q' => someK (pFieldAddr 2 [v50]) fun v => q' v H51 τ52) H51 τ52 fun v53 H54 τ55 => gK v46 true (fun q' => someK (lLoad1 [v53] H54) fun v => q' v H54 τ55) H54 τ55 fun v56 H57 τ58 => gK v46 true (fun q' => binK .gtr v56 (.int .i64 (.ofNat 1000000)) fun v => q' v H57 τ58) H57 τ58 fun v59 H60 τ61 => gK v46 true (fun q' => q' v59 H60 τ61) H60 τ61 fun v62 H63 τ64 => gK v62 false (fun q' => q' t0 H63 τ64) H63 τ64 fun v65 H66 τ67 =>
    gK v62 false (fun q' => someK (pNilck [v65]) fun v => q' v H66 τ67) H66 τ67 fun v68 H69 τ70 => gK v62 false (fun q' => someK (pFieldAddr 0 [v68]) fun v => q' v H69 τ70) H69 τ70 fun v71 H72 τ73 => gK v62 false (fun q' => someK (lLoad1 [v71] H72) fun v => q' v H72 τ73) H72 τ73 fun v74 H75 τ76 => gK v62 false (fun q' => someK (pLen [v74]) fun v => q' v H75 τ76) H75 τ76 fun v77 H78 τ79 => gK v62 false (fun q' => binK .gtr v77 (.int .i64 (.ofNat 4000)) fun v => q' v H78 τ79) H78 τ79 fun v80 H81 τ82 => gK v46 true (fun q' => someK (pPick [v62, (.bool true), v80]) fun v => q' v H81 τ82) H81 τ82 fun v83 H84 τ85 => someK (pPick [v46, v83, (.bool false)]) fun v86 => condK v86 (someK (pNilck [t0]) fun v87 => someK (pFieldAddr 3 [v87]) fun v88 => someK (lLoad1 [v88] H84) fun v89 => gK v89 false (fun q' => q' t0 H84 τ85) H84 τ85 fun v90 H91 τ92 =>
    gK v89 false (fun q' => someK (pNilck [v90]) fun v => q' v H91 τ92) H91 τ92 fun v93 H94 τ95 => gK v89 false (fun q' => someK (pFieldAddr 0 [v93]) fun v => q' v H94 τ95) H94 τ95 fun v96 H97 τ98 => gK v89 false (fun q' => someK (lLoad1 [v96] H97) fun v => q' v H97 τ98) H97 τ98 fun v99 H100 τ101 => gK v89 false (fun q' => someK (pSlIdx 1 [v99, (.int .i64 (.ofNat 0))]) fun v => q' v H100 τ101) H100 τ101 fun v102 H103 τ104 => gK v89 false (fun q' => someK (lLoad1 [v102] H103) fun v => q' v H103 τ104) H103 τ104 fun v105 H106 τ107 => gK v89 false (fun q' => q' t0 H106 τ107) H106 τ107 fun v108 H109 τ110 => gK v89 false (fun q' => someK (pNilck [v108]) fun v => q' v H109 τ110) H109 τ110 fun v111 H112 τ113 => gK v89 false (fun q' => someK (pFieldAddr 1 [v111]) fun v => q' v H112 τ113) H112 τ113 fun v114 H115 τ116 =>
    gK v89 false (fun q' => someK (lLoad1 [v114] H115) fun v => q' v H115 τ116) H115 τ116 fun v117 H118 τ119 => gK v89 false (fun q' => someK (pSlIdx 1 [v117, (.int .i64 (.ofNat 0))]) fun v => q' v H118 τ119) H118 τ119 fun v120 H121 τ122 => gK v89 false (fun q' => someK (lLoad1 [v120] H121) fun v => q' v H121 τ122) H121 τ122 fun v123 H124 τ125 => gK v89 false (fun q' => call f_book_Same_string [v105, v123] H124 τ125 q') H124 τ125 fun v126 H127 τ128 => gK v89 false (fun q' => unK .not v126 fun v => q' v H127 τ128) H127 τ128 fun v129 H130 τ131 => someK (pPick [v89, (.bool true), v129]) fun v132 => someK (pNilck [t0]) fun v133 => someK (pFieldAddr 3 [v133]) fun v134 => effK (eStore 1 [v134, v132] H130 τ131) fun v135 H136 τ137 => someK (pNilck [t0]) fun v138 => someK (pFieldAddr 2 [v138]) fun v139 => someK (lLoad1 [v139] H136) fun v140 => someK (pNilck [t0]) fun v141 =>
    someK (pFieldAddr 0 [v141]) fun v142 => someK (lLoad1 [v142] H136) fun v143 => someK (pSlIdx 1 [v143, (.int .i64 (.ofNat 0))]) fun v144 => someK (lLoad1 [v144] H136) fun v145 => someK (pCap [v145]) fun v146 => binK .sub v140 v146 fun v147 => binK .sub v147 (.int .i64 (.ofNat 1)) fun v148 => someK (pNilck [t0]) fun v149 => someK (pFieldAddr 2 [v149]) fun v150 => effK (eStore 1 [v150, v148] H136 τ137) fun v151 H152 τ153 => someK (pNilck [t0]) fun v154 => someK (pFieldAddr 0 [v154]) fun v155 => someK (lLoad1 [v155] H152) fun v156 => someK (pSlSlice 1 true false false [v156, (.int .i64 (.ofNat 1))]) fun v157 => someK (pNilck [t0]) fun v158 => someK (pFieldAddr 0 [v158]) fun v159 => effK (eStore 1 [v159, v157] H152 τ153) fun v160 H161 τ162 => someK (pNilck [t0]) fun v163 => someK (pFieldAddr 1 [v163]) fun v164 => someK (lLoad1 [v164] H161) fun v165 =>
    someK (pSlSlice 1 true false false [v165, (.int .i64 (.ofNat 1))]) fun v166 => someK (pNilck [t0]) fun v167 => someK (pFieldAddr 1 [v167]) fun v168 => effK (eStore 1 [v168, v166] H161 τ162) fun v169 H170 τ171 => k .normal ⟨(T.set (T.set (T.set (T.set (T.set (T.set (T.set (T.set (T.set .leaf 0 t0) 104 t0) 105 t0) 106 v163) 107 v164) 108 v165) 109 v166) 110 v167) 111 v168), H170⟩ τ171) (k (.exit 0) ⟨.leaf, H84⟩ τ85)
def s_book_Book_string_Keep (call : CallK) (N : Nat) (a0 a1 : V) (H : Heap) (τ : Tape) (q : KV) : Ans := someK (pNilck [a0]) fun v0 => someK (pFieldAddr 0 [v0]) fun v1 => someK (lLoad1 [v1] H) fun v2 => effK (eBuildSlice 1 1 [.nils] [(0, 1)] [a1] H τ) fun v3 H4 τ5 => effK (eAppend 1 24 [v2, v3] H4 τ5) fun v6 H7 τ8 => someK (pNilck [a0]) fun v9 => someK (pFieldAddr 0 [v9]) fun v10 => effK (eStore 1 [v10, v6] H7 τ8) fun v11 H12 τ13 => someK (pNilck [a0]) fun v14 => someK (pFieldAddr 1 [v14]) fun v15 => someK (lLoad1 [v15] H12) fun v16 => effK (eAppend 1 16 [.nils, a1] H12 τ13) fun v17 H18 τ19 => effK (eBuildSlice 1 1 [.nils] [(0, 1)] [v17] H18 τ19) fun v20 H21 τ22 => effK (eAppend 1 24 [v16, v20] H21 τ22) fun v23 H24 τ25 => someK (pNilck [a0]) fun v26 => someK (pFieldAddr 1 [v26]) fun v27 => effK (eStore 1 [v27, v23] H24 τ25) fun v28 H29 τ30 =>
    bif chkLoads [H12, H18, H21, H24, H29] (((.load none), [v15], 0, 2) :: []) then someK (pNilck [a0]) fun v31 => someK (pFieldAddr 2 [v31]) fun v32 => someK (lLoad1 [v32] H29) fun v33 => someK (pCap [a1]) fun v34 => binK .add v33 v34 fun v35 => binK .add v35 (.int .i64 (.ofNat 1)) fun v36 => someK (pNilck [a0]) fun v37 => someK (pFieldAddr 2 [v37]) fun v38 => effK (eStore 1 [v38, v36] H29 τ30) fun v39 H40 τ41 => loopK (s_book_Book_string_Keep_l0 call N) N ⟨(T.set .leaf 0 a0), H40⟩ τ41 (blockK 0 (endK [] q)) else none
theorem s_book_Book_string_Keep_eq (call : CallK) (N : Nat) (a0 a1 : V) (H : Heap) (τ : Tape) (q : KV) : s_book_Book_string_Keep call N a0 a1 H τ q = funK call N fn_book_Book_string_Keep [a0, a1] H τ q := by kernel_rfl
def e_book_Book_string_Keep (call : CallK) (N : Nat) (vs : List V) (H : Heap) (τ : Tape) (q : KV) : Ans := match vs with | [a0, a1] => s_book_Book_string_Keep call N a0 a1 H τ q | _ => none
theorem e_book_Book_string_Keep_ok : EntOk fn_book_Book_string_Keep e_book_Book_string_Keep := by
  intro call N vs H τ q r h
  unfold e_book_Book_string_Keep at h
  split at h
  · rw [s_book_Book_string_Keep_eq] at h; exact h
  · cases h
theorem e_book_Book_string_Keep_nat : EntNat e_book_Book_string_Keep := by
  intro c hn N vs H τ q
  unfold e_book_Book_string_Keep
  split
  · rw [s_book_Book_string_Keep_eq, s_book_Book_string_Keep_eq]; exact funK_ent hn _ _ _ _ _ _
  · rfl
/-- (*ostiary/ostiarybook.Book[ostiary/api.Header]).Apart -/
def fn_book_Book_Header_Apart : Fun := ⟨2, (.seq (.reg [iR 4 (.p .mv) [(.c (.bool false))]]) (.keep [0, 1] (.seq (.seq (.reg [iR 11 (.p .mv) [(.t 0)], iR 12 (.call 32) [(.t 11)], iR 13 (.p (.un .not)) [(.t 12)]]) (.keep [0, 1, 13] (.cond (.t 13) (.seq (.reg [iR 4 (.p .mv) [(.c (.bool false))]]) (.keep [4] (.keep [4] .ret))) .skip))) (.keep [0, 1] (.seq (.seq (.reg [iR 5 (.p .mv) [(.c (.int .i64 (.ofNat 0)))]]) (.keep [0, 1, 5] (.block 0 (.loop (.keep [0, 1, 5] (.seq (.seq (.reg [iR 14 (.p .mv) [(.t 5)], iR 15 (.p .mv) [(.t 0)], iR 16 (.p .nilck) [(.t 15)], iR 17 (.p (.fieldAddr 0)) [(.t 16)], iR 18 (.l (.load none)) [(.t 17)], iR 19 (.p .len) [(.t 18)], iR 20 (.p (.bin .lss)) [(.t 14), (.t 19)]]) (.keep [0, 1, 5, 20] (.cond (.t 20) .skip (.keep [0, 1] (.exit 0))))) (.keep [0, 1, 5] (.seq (.block 1 (.seq (.draw [iR 23 (.p .mv) [(.t 0)], iR 24 (.p .nilck) [(.t 23)],
    iR 25 (.p (.fieldAddr 0)) [(.t 24)], iR 26 (.l (.load none)) [(.t 25)], iR 27 (.p .mv) [(.t 5)], iR 28 (.p (.slIdx 1)) [(.t 26), (.t 27)], iR 29 (.l (.load none)) [(.t 28)], iR 30 (.p .mv) [(.t 0)], iR 31 (.p .nilck) [(.t 30)], iR 32 (.p (.fieldAddr 0)) [(.t 31)], iR 33 (.l (.load none)) [(.t 32)], iR 34 (.p .mv) [(.t 5)], iR 35 (.p (.slIdx 1)) [(.t 33), (.t 34)], iR 36 (.l (.load none)) [(.t 35)], iR 37 (.p .cap) [(.t 36)], iR 38 (.p (.slSlice 2 false true false)) [(.t 29), (.t 37)], iR 6 (.p .mv) [(.t 38)]]) (.keep [0, 1, 5, 6] (.seq (.reg [iR 7 (.p .mv) [(.c (.int .i64 (.ofNat 0)))]]) (.keep [0, 1, 5, 6, 7] (.block 2 (.loop (.keep [0, 1, 5, 6, 7] (.seq (.seq (.reg [iR 39 (.p .mv) [(.t 7)], iR 40 (.p .mv) [(.t 6)], iR 41 (.p .len) [(.t 40)], iR 42 (.p (.bin .lss)) [(.t 39), (.t 41)]]) (.keep [0, 1, 5, 6, 7, 42] (.cond (.t 42) .skip (.keep [0, 1, 5] (.exit 2)))))
    (.keep [0, 1, 5, 6, 7] (.seq (.block 3 (.reg [iR 45 (.p .mv) [(.t 6)], iR 46 (.p .mv) [(.t 7)], iR 47 (.p .mv) [(.t 1)], iR 48 (.p .mv) [(.t 5)], iR 49 (.p .mv) [(.t 7)], iR 50 .callv [(.t 47), (.t 48), (.t 49)], iR 51 (.p (.slIdx 2)) [(.t 45), (.t 46)], ⟨none, none, (.e (.store 2)), [(.t 51), (.t 50)], none⟩])) (.keep [0, 1, 5, 6, 7] (.reg [iR 43 (.p .mv) [(.t 7)], iR 44 (.p (.bin .add)) [(.t 43), (.c (.int .i64 (.ofNat 1)))], iR 7 (.p .mv) [(.t 44)]]))))))))))))) (.keep [0, 1, 5] (.reg [iR 21 (.p .mv) [(.t 5)], iR 22 (.p (.bin .add)) [(.t 21), (.c (.int .i64 (.ofNat 1)))], iR 5 (.p .mv) [(.t 22)]])))))))))) (.keep [0, 1] (.seq (.seq (.reg [iR 8 (.p .mv) [(.c (.int .i64 (.ofNat 0)))]]) (.keep [0, 1, 8] (.block 4 (.loop (.keep [0, 1, 8] (.seq (.seq (.reg [iR 52 (.p .mv) [(.t 8)], iR 53 (.p .mv) [(.t 0)], iR 54 (.p .nilck) [(.t 53)], iR 55 (.p (.fieldAddr 0)) [(.t 54)],
    iR 56 (.l (.load none)) [(.t 55)], iR 57 (.p .len) [(.t 56)], iR 58 (.p (.bin .lss)) [(.t 52), (.t 57)]]) (.keep [0, 1, 8, 58] (.cond (.t 58) .skip (.keep [0] (.exit 4))))) (.keep [0, 1, 8] (.seq (.block 5 (.seq (.draw [iR 61 (.p .mv) [(.t 0)], iR 62 (.p .nilck) [(.t 61)], iR 63 (.p (.fieldAddr 0)) [(.t 62)], iR 64 (.l (.load none)) [(.t 63)], iR 65 (.p .mv) [(.t 8)], iR 66 (.p (.slIdx 1)) [(.t 64), (.t 65)], iR 67 (.l (.load none)) [(.t 66)], iR 68 (.p .mv) [(.t 0)], iR 69 (.p .nilck) [(.t 68)], iR 70 (.p (.fieldAddr 0)) [(.t 69)], iR 71 (.l (.load none)) [(.t 70)], iR 72 (.p .mv) [(.t 8)], iR 73 (.p (.slIdx 1)) [(.t 71), (.t 72)], iR 74 (.l (.load none)) [(.t 73)], iR 75 (.p .cap) [(.t 74)], iR 76 (.p (.slSlice 2 false true false)) [(.t 67), (.t 75)], iR 9 (.p .mv) [(.t 76)]]) (.keep [0, 1, 8, 9] (.seq (.reg [iR 10 (.p .mv) [(.c (.int .i64 (.ofNat 0)))]])
    (.keep [0, 1, 8, 9, 10] (.block 6 (.loop (.keep [0, 1, 8, 9, 10] (.seq (.seq (.reg [iR 77 (.p .mv) [(.t 10)], iR 78 (.p .mv) [(.t 9)], iR 79 (.p .len) [(.t 78)], iR 80 (.p (.bin .lss)) [(.t 77), (.t 79)]]) (.keep [0, 1, 8, 9, 10, 80] (.cond (.t 80) .skip (.keep [0, 1, 8] (.exit 6))))) (.keep [0, 1, 8, 9, 10] (.seq (.block 7 (.seq (.draw [iR 83 (.p .mv) [(.t 9)], iR 84 (.p .mv) [(.t 10)], iR 85 (.p (.slIdx 2)) [(.t 83), (.t 84)], ⟨(some 86), none, (.l (.load (some 2))), [(.t 85)], some (0, 1)⟩, iR 87 (.p .mv) [(.t 1)], iR 88 (.p .mv) [(.t 8)], iR 89 (.p .mv) [(.t 10)], iR 90 .callv [(.t 87), (.t 88), (.t 89)], iR 91 (.p (.eq true (.flat [.str, .str]))) [(.t 86), (.t 90)]]) (.keep [0, 1, 8, 9, 10, 91] (.cond (.t 91) (.seq (.reg [iR 4 (.p .mv) [(.c (.bool false))]]) (.keep [4] (.keep [4] .ret))) .skip)))) (.keep [0, 1, 8, 9, 10] (.reg [iR 81 (.p .mv) [(.t 10)],
    iR 82 (.p (.bin .add)) [(.t 81), (.c (.int .i64 (.ofNat 1)))], iR 10 (.p .mv) [(.t 82)]]))))))))))))) (.keep [0, 1, 8] (.reg [iR 59 (.p .mv) [(.t 8)], iR 60 (.p (.bin .add)) [(.t 59), (.c (.int .i64 (.ofNat 1)))], iR 8 (.p .mv) [(.t 60)]])))))))))) (.keep [0] (.seq (.reg [iR 92 (.p .mv) [(.t 0)], iR 93 (.p .nilck) [(.t 92)], iR 94 (.p (.fieldAddr 0)) [(.t 93)], ⟨none, none, (.e (.store 1)), [(.t 94), (.c .nils)], none⟩]) (.keep [0] (.seq (.reg [iR 95 (.p .mv) [(.t 0)], iR 96 (.p .nilck) [(.t 95)], iR 97 (.p (.fieldAddr 1)) [(.t 96)], ⟨none, none, (.e (.store 1)), [(.t 97), (.c .nils)], none⟩]) (.keep [0] (.seq (.reg [iR 98 (.p .mv) [(.t 0)], iR 99 (.p .nilck) [(.t 98)], iR 100 (.p (.fieldAddr 2)) [(.t 99)], ⟨none, none, (.e (.store 1)), [(.t 100), (.c (.int .i64 (.ofNat 0)))], none⟩]) (.keep [] (.seq (.reg [iR 4 (.p .mv) [(.c (.bool true))]])
    (.keep [4] (.keep [4] .ret))))))))))))))))), [(.t 4)]⟩
def s_book_Book_Header_Apart_j1 (call : CallK) (N : Nat) (q : KV) (st : St) (τ : Tape) : Ans := match st with
  | ⟨fr, H⟩ => getK fr 0 fun t0 => someK (pNilck [t0]) fun v4 => someK (pFieldAddr 0 [v4]) fun v5 => effK (eStore 1 [v5, .nils] H τ) fun v6 H7 τ8 => someK (pNilck [t0]) fun v9 => someK (pFieldAddr 1 [v9]) fun v10 => effK (eStore 1 [v10, .nils] H7 τ8) fun v11 H12 τ13 => someK (pNilck [t0]) fun v14 => someK (pFieldAddr 2 [v14]) fun v15 => effK (eStore 1 [v15, (.int .i64 (.ofNat 0))] H12 τ13) fun v16 H17 τ18 => q (.bool true) H17 τ18
def s_book_Book_Header_Apart_j3 (call : CallK) (N : Nat) (k : KC) (st : St) (τ : Tape) : Ans := match st with
  | ⟨fr, H⟩ => getK fr 0 fun t0 => getK fr 1 fun t1 => getK fr 8 fun t8 => binK .add t8 (.int .i64 (.ofNat 1)) fun v24 => k .normal ⟨(T.set (T.set (T.set (T.set (T.set (T.set .leaf 0 t0) 1 t1) 8 t8) 59 t8) 60 v24) 8 v24), H⟩ τ
def s_book_Book_Header_Apart_l4 (call : CallK) (N : Nat) (st : St) (τ : Tape) (k : KC) : Ans := match st with
  | ⟨fr, H⟩ => getK fr 0 fun t0 => getK fr 1 fun t1 => getK fr 8 fun t8 => getK fr 9 fun t9 => getK fr 10 fun t10 => someK (pLen [t9]) fun v37 => binK .lss t10 v37 fun v38 => condK v38 (someK (pSlIdx 2 [t9, t10]) fun v39 => someK (lLoadN 2 [v39] H) fun v40 => opK call .callv [t1, t8, t10] H τ fun v41 H42 τ43 => someK (pEq true (.flat [.str, .str]) [v40, v41]) fun v44 => bif chkLoads [H, H42] (((.load (some 2)), [v39], 0, 1) :: []) then condK v44 (k .ret ⟨(T.set .leaf 4 (.bool false)), H42⟩ τ43) (binK .add t10 (.int .i64 (.ofNat 1)) fun v45 => k .normal ⟨(T.set (T.set (T.set (T.set (T.set (T.set (T.set (T.set .leaf 0 t0) 1 t1) 8 t8) 9 t9) 10 t10) 81 t10) 82 v45) 10 v45), H42⟩ τ43) else none) (k (.exit 6) ⟨(T.set (T.set (T.set .leaf 0 t0) 1 t1) 8 t8), H⟩ τ)
def s_book_Book_Header_Apart_l2 (call : CallK) (N : Nat) (st : St) (τ : Tape) (k : KC) : Ans := match st with
  | ⟨fr, H⟩ => getK fr 0 fun t0 => getK fr 1 fun t1 => getK fr 8 fun t8 => someK (pNilck [t0]) fun v19 => someK (pFieldAddr 0 [v19]) fun v20 => someK (lLoad1 [v20] H) fun v21 => someK (pLen [v21]) fun v22 => binK .lss t8 v22 fun v23 => condK v23 (someK (pNilck [t0]) fun v25 => someK (pFieldAddr 0 [v25]) fun v26 => someK (lLoad1 [v26] H) fun v27 => someK (pSlIdx 1 [v27, t8]) fun v28 => someK (lLoad1 [v28] H) fun v29 => someK (pNilck [t0]) fun v30 => someK (pFieldAddr 0 [v30]) fun v31 => someK (lLoad1 [v31] H) fun v32 => someK (pSlIdx 1 [v32, t8]) fun v33 => someK (lLoad1 [v33] H) fun v34 => someK (pCap [v34]) fun v35 => someK (pSlSlice 2 false true false [v29, v35]) fun v36 =>
    loopK (s_book_Book_Header_Apart_l4 call N) N ⟨(T.set (T.set (T.set (T.set (T.set .leaf 0 t0) 1 t1) 8 t8) 9 v36) 10 (.int .i64 (.ofNat 0))), H⟩ τ (blockK 6 (blockK 5 (seqK (s_book_Book_Header_Apart_j3 call N k) k)))) (k (.exit 4) ⟨(T.set .leaf 0 t0), H⟩ τ)
def s_book_Book_Header_Apart_j0 (call : CallK) (N : Nat) (q : KV) (st : St) (τ : Tape) : Ans := match st with
  | ⟨fr, H⟩ => getK fr 0 fun t0 => getK fr 1 fun t1 => loopK (s_book_Book_Header_Apart_l2 call N) N ⟨(T.set (T.set (T.set .leaf 0 t0) 1 t1) 8 (.int .i64 (.ofNat 0))), H⟩ τ (blockK 4 (seqK (s_book_Book_Header_Apart_j1 call N q) (endK [(.t 4)] q)))
def s_book_Book_Header_Apart_j6 (call : CallK) (N : Nat) (k : KC) (st : St) (τ : Tape) : Ans := match st with
  | ⟨fr, H⟩ => getK fr 0 fun t0 => getK fr 1 fun t1 => getK fr 5 fun t5 => binK .add t5 (.int .i64 (.ofNat 1)) fun v51 => k .normal ⟨(T.set (T.set (T.set (T.set (T.set (T.set .leaf 0 t0) 1 t1) 5 t5) 21 t5) 22 v51) 5 v51), H⟩ τ
def s_book_Book_Header_Apart_l7 (call : CallK) (N : Nat) (st : St) (τ : Tape) (k : KC) : Ans := match st with
  | ⟨fr, H⟩ => getK fr 0 fun t0 => getK fr 1 fun t1 => getK fr 5 fun t5 => getK fr 6 fun t6 => getK fr 7 fun t7 => someK (pLen [t6]) fun v64 => binK .lss t7 v64 fun v65 => condK v65 (opK call .callv [t1, t5, t7] H τ fun v66 H67 τ68 => someK (pSlIdx 2 [t6, t7]) fun v69 => effK (eStore 2 [v69, v66] H67 τ68) fun v70 H71 τ72 => binK .add t7 (.int .i64 (.ofNat 1)) fun v73 => k .normal ⟨(T.set (T.set (T.set (T.set (T.set (T.set (T.set (T.set .leaf 0 t0) 1 t1) 5 t5) 6 t6) 7 t7) 43 t7) 44 v73) 7 v73), H71⟩ τ72) (k (.exit 2) ⟨(T.set (T.set (T.set .leaf 0 t0) 1 t1) 5 t5), H⟩ τ)
def s_book_Book_Header_Apart_l5 (call : CallK) (N : Nat) (st : St) (τ : Tape) (k : KC) : Ans := match st with
  | ⟨fr, H⟩ => getK fr 0 fun t0 => getK fr 1 fun t1 => getK fr 5 fun t5 => someK (pNilck [t0]) fun v46 => someK (pFieldAddr 0 [v46]) fun v47 => someK (lLoad1 [v47] H) fun v48 => someK (pLen [v48]) fun v49 => binK .lss t5 v49 fun v50 => condK v50 (someK (pNilck [t0]) fun v52 => someK (pFieldAddr 0 [v52]) fun v53 => someK (lLoad1 [v53] H) fun v54 => someK (pSlIdx 1 [v54, t5]) fun v55 => someK (lLoad1 [v55] H) fun v56 => someK (pNilck [t0]) fun v57 => someK (pFieldAddr 0 [v57]) fun v58 => someK (lLoad1 [v58] H) fun v59 => someK (pSlIdx 1 [v59, t5]) fun v60 => someK (lLoad1 [v60] H) fun v61 => someK (pCap [v61]) fun v62 => someK (pSlSlice 2 false true false [v56, v62]) fun v63 =>
    loopK (s_book_Book_Header_Apart_l7 call N) N ⟨(T.set (T.set (T.set (T.set (T.set .leaf 0 t0) 1 t1) 5 t5) 6 v63) 7 (.int .i64 (.ofNat 0))), H⟩ τ (blockK 2 (blockK 1 (seqK (s_book_Book_Header_Apart_j6 call N k) k)))) (k (.exit 0) ⟨(T.set (T.set .leaf 0 t0) 1 t1), H⟩ τ)
def s_book_Book_Header_Apart (call : CallK) (N : Nat) (a0 a1 : V) (H : Heap) (τ : Tape) (q : KV) : Ans := call f_book_Book_Header_Stays [a0] H τ fun v0 H1 τ2 => unK .not v0 fun v3 => condK v3 (q (.bool false) H1 τ2) (loopK (s_book_Book_Header_Apart_l5 call N) N ⟨(T.set (T.set (T.set .leaf 0 a0) 1 a1) 5 (.int .i64 (.ofNat 0))), H1⟩ τ2 (blockK 0 (seqK (s_book_Book_Header_Apart_j0 call N q) (endK [(.t 4)] q))))
theorem s_book_Book_Header_Apart_eq (call : CallK) (N : Nat) (a0 a1 : V) (H : Heap) (τ : Tape) (q : KV) : s_book_Book_Header_Apart call N a0 a1 H τ q = funK call N fn_book_Book_Header_Apart [a0, a1] H τ q := by kernel_rfl
def e_book_Book_Header_Apart (call : CallK) (N : Nat) (vs : List V) (H : Heap) (τ : Tape) (q : KV) : Ans := match vs with | [a0, a1] => s_book_Book_Header_Apart call N a0 a1 H τ q | _ => none
theorem e_book_Book_Header_Apart_ok : EntOk fn_book_Book_Header_Apart e_book_Book_Header_Apart := by
  intro call N vs H τ q r h
  unfold e_book_Book_Header_Apart at h
  split at h
  · rw [s_book_Book_Header_Apart_eq] at h; exact h
  · cases h
theorem e_book_Book_Header_Apart_nat : EntNat e_book_Book_Header_Apart := by
  intro c hn N vs H τ q
  unfold e_book_Book_Header_Apart
  split
  · rw [s_book_Book_Header_Apart_eq, s_book_Book_Header_Apart_eq]; exact funK_ent hn _ _ _ _ _ _
  · rfl
/-- ostiary/ostiarylaw5.mark -/
def fn_law5_mark : Fun := ⟨2, (.seq (.reg [iR 4 (.e (.alloc [(.str []), (.str [])])) []]) (.keep [0, 1, 4] (.seq (.reg [iR 5 (.p .mv) [(.t 0)], iR 6 (.p (.bin .rem)) [(.t 5), (.c (.int .i64 (.ofNat 26)))], iR 7 (.p (.bin .add)) [(.c (.int .i64 (.ofNat 97))), (.t 6)], iR 8 (.p (.toInt .i32)) [(.t 7)], iR 9 (.p .runeStr) [(.t 8)], iR 10 (.p .mv) [(.t 1)], iR 11 (.p (.bin .rem)) [(.t 10), (.c (.int .i64 (.ofNat 26)))], iR 12 (.p (.bin .add)) [(.c (.int .i64 (.ofNat 97))), (.t 11)], iR 13 (.p (.toInt .i32)) [(.t 12)], iR 14 (.p .runeStr) [(.t 13)], iR 15 (.p (.bin .add)) [(.t 9), (.t 14)], iR 16 (.call 33) [(.c (.str (bs [109, 97, 114, 107]))), (.t 15)], ⟨none, none, (.e (.store 2)), [(.t 4), (.t 16)], none⟩]) (.keep [4] (.keep [4] .ret))))), [(.cell 4 (some 2))]⟩
def s_law5_mark (call : CallK) (N : Nat) (a0 a1 : V) (H : Heap) (τ : Tape) (q : KV) : Ans := effK (eAlloc [(.str []), (.str [])] [] H τ) fun v0 H1 τ2 => binK .rem a0 (.int .i64 (.ofNat 26)) fun v3 => binK .add (.int .i64 (.ofNat 97)) v3 fun v4 => toIntK .i32 v4 fun v5 => someK (pRuneStr [v5]) fun v6 => binK .rem a1 (.int .i64 (.ofNat 26)) fun v7 => binK .add (.int .i64 (.ofNat 97)) v7 fun v8 => toIntK .i32 v8 fun v9 => someK (pRuneStr [v9]) fun v10 => binK .add v6 v10 fun v11 => call f_law5_h [(.str (bs [109, 97, 114, 107])), v11] H1 τ2 fun v12 H13 τ14 => effK (eStore 2 [v0, v12] H13 τ14) fun v15 H16 τ17 => someK (results ⟨(T.set .leaf 4 v0), H16⟩ [(.cell 4 (some 2))]) fun v => q v H16 τ17
theorem s_law5_mark_eq (call : CallK) (N : Nat) (a0 a1 : V) (H : Heap) (τ : Tape) (q : KV) : s_law5_mark call N a0 a1 H τ q = funK call N fn_law5_mark [a0, a1] H τ q := by kernel_rfl
def e_law5_mark (call : CallK) (N : Nat) (vs : List V) (H : Heap) (τ : Tape) (q : KV) : Ans := match vs with | [a0, a1] => s_law5_mark call N a0 a1 H τ q | _ => none
theorem e_law5_mark_ok : EntOk fn_law5_mark e_law5_mark := by
  intro call N vs H τ q r h
  unfold e_law5_mark at h
  split at h
  · rw [s_law5_mark_eq] at h; exact h
  · cases h
theorem e_law5_mark_nat : EntNat e_law5_mark := by
  intro c hn N vs H τ q
  unfold e_law5_mark
  split
  · rw [s_law5_mark_eq, s_law5_mark_eq]; exact funK_ent hn _ _ _ _ _ _
  · rfl
/-- (*ostiary/ostiarybook.Book[string]).Apart -/
def fn_book_Book_string_Apart : Fun := ⟨2, (.seq (.reg [iR 4 (.p .mv) [(.c (.bool false))]]) (.keep [0, 1] (.seq (.seq (.reg [iR 11 (.p .mv) [(.t 0)], iR 12 (.call 34) [(.t 11)], iR 13 (.p (.un .not)) [(.t 12)]]) (.keep [0, 1, 13] (.cond (.t 13) (.seq (.reg [iR 4 (.p .mv) [(.c (.bool false))]]) (.keep [4] (.keep [4] .ret))) .skip))) (.keep [0, 1] (.seq (.seq (.reg [iR 5 (.p .mv) [(.c (.int .i64 (.ofNat 0)))]]) (.keep [0, 1, 5] (.block 0 (.loop (.keep [0, 1, 5] (.seq (.seq (.reg [iR 14 (.p .mv) [(.t 5)], iR 15 (.p .mv) [(.t 0)], iR 16 (.p .nilck) [(.t 15)], iR 17 (.p (.fieldAddr 0)) [(.t 16)], iR 18 (.l (.load none)) [(.t 17)], iR 19 (.p .len) [(.t 18)], iR 20 (.p (.bin .lss)) [(.t 14), (.t 19)]]) (.keep [0, 1, 5, 20] (.cond (.t 20) .skip (.keep [0, 1] (.exit 0))))) (.keep [0, 1, 5] (.seq (.block 1 (.seq (.draw [iR 23 (.p .mv) [(.t 0)], iR 24 (.p .nilck) [(.t 23)],
    iR 25 (.p (.fieldAddr 0)) [(.t 24)], iR 26 (.l (.load none)) [(.t 25)], iR 27 (.p .mv) [(.t 5)], iR 28 (.p (.slIdx 1)) [(.t 26), (.t 27)], iR 29 (.l (.load none)) [(.t 28)], iR 30 (.p .mv) [(.t 0)], iR 31 (.p .nilck) [(.t 30)], iR 32 (.p (.fieldAddr 0)) [(.t 31)], iR 33 (.l (.load none)) [(.t 32)], iR 34 (.p .mv) [(.t 5)], iR 35 (.p (.slIdx 1)) [(.t 33), (.t 34)], iR 36 (.l (.load none)) [(.t 35)], iR 37 (.p .cap) [(.t 36)], iR 38 (.p (.slSlice 1 false true false)) [(.t 29), (.t 37)], iR 6 (.p .mv) [(.t 38)]]) (.keep [0, 1, 5, 6] (.seq (.reg [iR 7 (.p .mv) [(.c (.int .i64 (.ofNat 0)))]]) (.keep [0, 1, 5, 6, 7] (.block 2 (.loop (.keep [0, 1, 5, 6, 7] (.seq (.seq (.reg [iR 39 (.p .mv) [(.t 7)], iR 40 (.p .mv) [(.t 6)], iR 41 (.p .len) [(.t 40)], iR 42 (.p (.bin .lss)) [(.t 39), (.t 41)]]) (.keep [0, 1, 5, 6, 7, 42] (.cond (.t 42) .skip (.keep [0, 1, 5] (.exit 2)))))
    (.keep [0, 1, 5, 6, 7] (.seq (.block 3 (.reg [iR 45 (.p .mv) [(.t 6)], iR 46 (.p .mv) [(.t 7)], iR 47 (.p .mv) [(.t 1)], iR 48 (.p .mv) [(.t 5)], iR 49 (.p .mv) [(.t 7)], iR 50 .callv [(.t 47), (.t 48), (.t 49)], iR 51 (.p (.slIdx 1)) [(.t 45), (.t 46)], ⟨none, none, (.e (.store 1)), [(.t 51), (.t 50)], none⟩])) (.keep [0, 1, 5, 6, 7] (.reg [iR 43 (.p .mv) [(.t 7)], iR 44 (.p (.bin .add)) [(.t 43), (.c (.int .i64 (.ofNat 1)))], iR 7 (.p .mv) [(.t 44)]]))))))))))))) (.keep [0, 1, 5] (.reg [iR 21 (.p .mv) [(.t 5)], iR 22 (.p (.bin .add)) [(.t 21), (.c (.int .i64 (.ofNat 1)))], iR 5 (.p .mv) [(.t 22)]])))))))))) (.keep [0, 1] (.seq (.seq (.reg [iR 8 (.p .mv) [(.c (.int .i64 (.ofNat 0)))]]) (.keep [0, 1, 8] (.block 4 (.loop (.keep [0, 1, 8] (.seq (.seq (.reg [iR 52 (.p .mv) [(.t 8)], iR 53 (.p .mv) [(.t 0)], iR 54 (.p .nilck) [(.t 53)], iR 55 (.p (.fieldAddr 0)) [(.t 54)],
    iR 56 (.l (.load none)) [(.t 55)], iR 57 (.p .len) [(.t 56)], iR 58 (.p (.bin .lss)) [(.t 52), (.t 57)]]) (.keep [0, 1, 8, 58] (.cond (.t 58) .skip (.keep [0] (.exit 4))))) (.keep [0, 1, 8] (.seq (.block 5 (.seq (.draw [iR 61 (.p .mv) [(.t 0)], iR 62 (.p .nilck) [(.t 61)], iR 63 (.p (.fieldAddr 0)) [(.t 62)], iR 64 (.l (.load none)) [(.t 63)], iR 65 (.p .mv) [(.t 8)], iR 66 (.p (.slIdx 1)) [(.t 64), (.t 65)], iR 67 (.l (.load none)) [(.t 66)], iR 68 (.p .mv) [(.t 0)], iR 69 (.p .nilck) [(.t 68)], iR 70 (.p (.fieldAddr 0)) [(.t 69)], iR 71 (.l (.load none)) [(.t 70)], iR 72 (.p .mv) [(.t 8)], iR 73 (.p (.slIdx 1)) [(.t 71), (.t 72)], iR 74 (.l (.load none)) [(.t 73)], iR 75 (.p .cap) [(.t 74)], iR 76 (.p (.slSlice 1 false true false)) [(.t 67), (.t 75)], iR 9 (.p .mv) [(.t 76)]]) (.keep [0, 1, 8, 9] (.seq (.reg [iR 10 (.p .mv) [(.c (.int .i64 (.ofNat 0)))]])
    (.keep [0, 1, 8, 9, 10] (.block 6 (.loop (.keep [0, 1, 8, 9, 10] (.seq (.seq (.reg [iR 77 (.p .mv) [(.t 10)], iR 78 (.p .mv) [(.t 9)], iR 79 (.p .len) [(.t 78)], iR 80 (.p (.bin .lss)) [(.t 77), (.t 79)]]) (.keep [0, 1, 8, 9, 10, 80] (.cond (.t 80) .skip (.keep [0, 1, 8] (.exit 6))))) (.keep [0, 1, 8, 9, 10] (.seq (.block 7 (.seq (.draw [iR 83 (.p .mv) [(.t 9)], iR 84 (.p .mv) [(.t 10)], iR 85 (.p (.slIdx 1)) [(.t 83), (.t 84)], ⟨(some 86), none, (.l (.load none)), [(.t 85)], some (0, 1)⟩, iR 87 (.p .mv) [(.t 1)], iR 88 (.p .mv) [(.t 8)], iR 89 (.p .mv) [(.t 10)], iR 90 .callv [(.t 87), (.t 88), (.t 89)], iR 91 (.p (.bin .neq)) [(.t 86), (.t 90)]]) (.keep [0, 1, 8, 9, 10, 91] (.cond (.t 91) (.seq (.reg [iR 4 (.p .mv) [(.c (.bool false))]]) (.keep [4] (.keep [4] .ret))) .skip)))) (.keep [0, 1, 8, 9, 10] (.reg [iR 81 (.p .mv) [(.t 10)],
    iR 82 (.p (.bin .add)) [(.t 81), (.c (.int .i64 (.ofNat 1)))], iR 10 (.p .mv) [(.t 82)]]))))))))))))) (.keep [0, 1, 8] (.reg [iR 59 (.p .mv) [(.t 8)], iR 60 (.p (.bin .add)) [(.t 59), (.c (.int .i64 (.ofNat 1)))], iR 8 (.p .mv) [(.t 60)]])))))))))) (.keep [0] (.seq (.reg [iR 92 (.p .mv) [(.t 0)], iR 93 (.p .nilck) [(.t 92)], iR 94 (.p (.fieldAddr 0)) [(.t 93)], ⟨none, none, (.e (.store 1)), [(.t 94), (.c .nils)], none⟩]) (.keep [0] (.seq (.reg [iR 95 (.p .mv) [(.t 0)], iR 96 (.p .nilck) [(.t 95)], iR 97 (.p (.fieldAddr 1)) [(.t 96)], ⟨none, none, (.e (.store 1)), [(.t 97), (.c .nils)], none⟩]) (.keep [0] (.seq (.reg [iR 98 (.p .mv) [(.t 0)], iR 99 (.p .nilck) [(.t 98)], iR 100 (.p (.fieldAddr 2)) [(.t 99)], ⟨none, none, (.e (.store 1)), [(.t 100), (.c (.int .i64 (.ofNat 0)))], none⟩]) (.keep [] (.seq (.reg [iR 4 (.p .mv) [(.c (.bool true))]])
    (.keep [4] (.keep [4] .ret))))))))))))))))), [(.t 4)]⟩
def s_book_Book_string_Apart_j1 (call : CallK) (N : Nat) (q : KV) (st : St) (τ : Tape) : Ans := match st with
  | ⟨fr, H⟩ => getK fr 0 fun t0 => someK (pNilck [t0]) fun v4 => someK (pFieldAddr 0 [v4]) fun v5 => effK (eStore 1 [v5, .nils] H τ) fun v6 H7 τ8 => someK (pNilck [t0]) fun v9 => someK (pFieldAddr 1 [v9]) fun v10 => effK (eStore 1 [v10, .nils] H7 τ8) fun v11 H12 τ13 => someK (pNilck [t0]) fun v14 => someK (pFieldAddr 2 [v14]) fun v15 => effK (eStore 1 [v15, (.int .i64 (.ofNat 0))] H12 τ13) fun v16 H17 τ18 => q (.bool true) H17 τ18
def s_book_Book_string_Apart_j3 (call : CallK) (N : Nat) (k : KC) (st : St) (τ : Tape) : Ans := match st with
  | ⟨fr, H⟩ => getK fr 0 fun t0 => getK fr 1 fun t1 => getK fr 8 fun t8 => binK .add t8 (.int .i64 (.ofNat 1)) fun v24 => k .normal ⟨(T.set (T.set (T.set (T.set (T.set (T.set .leaf 0 t0) 1 t1) 8 t8) 59 t8) 60 v24) 8 v24), H⟩ τ
def s_book_Book_string_Apart_l4 (call : CallK) (N : Nat) (st : St) (τ : Tape) (k : KC) : Ans := match st with
  | ⟨fr, H⟩ => getK fr 0 fun t0 => getK fr 1 fun t1 => getK fr 8 fun t8 => getK fr 9 fun t9 => getK fr 10 fun t10 => someK (pLen [t9]) fun v37 => binK .lss t10 v37 fun v38 => condK v38 (someK (pSlIdx 1 [t9, t10]) fun v39 => someK (lLoad1 [v39] H) fun v40 => opK call .callv [t1, t8, t10] H τ fun v41 H42 τ43 => binK .neq v40 v41 fun v44 => bif chkLoads [H, H42] (((.load none), [v39], 0, 1) :: []) then condK v44 (k .ret ⟨(T.set .leaf 4 (.bool false)), H42⟩ τ43) (binK .add t10 (.int .i64 (.ofNat 1)) fun v45 => k .normal ⟨(T.set (T.set (T.set (T.set (T.set (T.set (T.set (T.set .leaf 0 t0) 1 t1) 8 t8) 9 t9) 10 t10) 81 t10) 82 v45) 10 v45), H42⟩ τ43) else none) (k (.exit 6) ⟨(T.set (T.set (T.set .leaf 0 t0) 1 t1) 8 t8), H⟩ τ)
def s_book_Book_string_Apart_l2 (call : CallK) (N : Nat) (st : St) (τ : Tape) (k : KC) : Ans := match st with
  | ⟨fr, H⟩ => getK fr 0 fun t0 => getK fr 1 fun t1 => getK fr 8 fun t8 => someK (pNilck [t0]) fun v19 => someK (pFieldAddr 0 [v19]) fun v20 => someK (lLoad1 [v20] H) fun v21 => someK (pLen [v21]) fun v22 => binK .lss t8 v22 fun v23 => condK v23 (someK (pNilck [t0]) fun v25 => someK (pFieldAddr 0 [v25]) fun v26 => someK (lLoad1 [v26] H) fun v27 => someK (pSlIdx 1 [v27, t8]) fun v28 => someK (lLoad1 [v28] H) fun v29 => someK (pNilck [t0]) fun v30 => someK (pFieldAddr 0 [v30]) fun v31 => someK (lLoad1 [v31] H) fun v32 => someK (pSlIdx 1 [v32, t8]) fun v33 => someK (lLoad1 [v33] H) fun v34 => someK (pCap [v34]) fun v35 => someK (pSlSlice 1 false true false [v29, v35]) fun v36 =>
    loopK (s_book_Book_string_Apart_l4 call N) N ⟨(T.set (T.set (T.set (T.set (T.set .leaf 0 t0) 1 t1) 8 t8) 9 v36) 10 (.int .i64 (.ofNat 0))), H⟩ τ (blockK 6 (blockK 5 (seqK (s_book_Book_string_Apart_j3 call N k) k)))) (k (.exit 4) ⟨(T.set .leaf 0 t0), H⟩ τ)
def s_book_Book_string_Apart_j0 (call : CallK) (N : Nat) (q : KV) (st : St) (τ : Tape) : Ans := match st with
  | ⟨fr, H⟩ => getK fr 0 fun t0 => getK fr 1 fun t1 => loopK (s_book_Book_string_Apart_l2 call N) N ⟨(T.set (T.set (T.set .leaf 0 t0) 1 t1) 8 (.int .i64 (.ofNat 0))), H⟩ τ (blockK 4 (seqK (s_book_Book_string_Apart_j1 call N q) (endK [(.t 4)] q)))
def s_book_Book_string_Apart_j6 (call : CallK) (N : Nat) (k : KC) (st : St) (τ : Tape) : Ans := match st with
  | ⟨fr, H⟩ => getK fr 0 fun t0 => getK fr 1 fun t1 => getK fr 5 fun t5 => binK .add t5 (.int .i64 (.ofNat 1)) fun v51 => k .normal ⟨(T.set (T.set (T.set (T.set (T.set (T.set .leaf 0 t0) 1 t1) 5 t5) 21 t5) 22 v51) 5 v51), H⟩ τ
def s_book_Book_string_Apart_l7 (call : CallK) (N : Nat) (st : St) (τ : Tape) (k : KC) : Ans := match st with
  | ⟨fr, H⟩ => getK fr 0 fun t0 => getK fr 1 fun t1 => getK fr 5 fun t5 => getK fr 6 fun t6 => getK fr 7 fun t7 => someK (pLen [t6]) fun v64 => binK .lss t7 v64 fun v65 => condK v65 (opK call .callv [t1, t5, t7] H τ fun v66 H67 τ68 => someK (pSlIdx 1 [t6, t7]) fun v69 => effK (eStore 1 [v69, v66] H67 τ68) fun v70 H71 τ72 => binK .add t7 (.int .i64 (.ofNat 1)) fun v73 => k .normal ⟨(T.set (T.set (T.set (T.set (T.set (T.set (T.set (T.set .leaf 0 t0) 1 t1) 5 t5) 6 t6) 7 t7) 43 t7) 44 v73) 7 v73), H71⟩ τ72) (k (.exit 2) ⟨(T.set (T.set (T.set .leaf 0 t0) 1 t1) 5 t5), H⟩ τ)
def s_book_Book_string_Apart_l5 (call : CallK) (N : Nat) (st : St) (τ : Tape) (k : KC) : Ans := match st with
  | ⟨fr, H⟩ => getK fr 0 fun t0 => getK fr 1 fun t1 => getK fr 5 fun t5 => someK (pNilck [t0]) fun v46 => someK (pFieldAddr 0 [v46]) fun v47 => someK (lLoad1 [v47] H) fun v48 => someK (pLen [v48]) fun v49 => binK .lss t5 v49 fun v50 => condK v50 (someK (pNilck [t0]) fun v52 => someK (pFieldAddr 0 [v52]) fun v53 => someK (lLoad1 [v53] H) fun v54 => someK (pSlIdx 1 [v54, t5]) fun v55 => someK (lLoad1 [v55] H) fun v56 => someK (pNilck [t0]) fun v57 => someK (pFieldAddr 0 [v57]) fun v58 => someK (lLoad1 [v58] H) fun v59 => someK (pSlIdx 1 [v59, t5]) fun v60 => someK (lLoad1 [v60] H) fun v61 => someK (pCap [v61]) fun v62 => someK (pSlSlice 1 false true false [v56, v62]) fun v63 =>
    loopK (s_book_Book_string_Apart_l7 call N) N ⟨(T.set (T.set (T.set (T.set (T.set .leaf 0 t0) 1 t1) 5 t5) 6 v63) 7 (.int .i64 (.ofNat 0))), H⟩ τ (blockK 2 (blockK 1 (seqK (s_book_Book_string_Apart_j6 call N k) k)))) (k (.exit 0) ⟨(T.set (T.set .leaf 0 t0) 1 t1), H⟩ τ)
def s_book_Book_string_Apart (call : CallK) (N : Nat) (a0 a1 : V) (H : Heap) (τ : Tape) (q : KV) : Ans := call f_book_Book_string_Stays [a0] H τ fun v0 H1 τ2 => unK .not v0 fun v3 => condK v3 (q (.bool false) H1 τ2) (loopK (s_book_Book_string_Apart_l5 call N) N ⟨(T.set (T.set (T.set .leaf 0 a0) 1 a1) 5 (.int .i64 (.ofNat 0))), H1⟩ τ2 (blockK 0 (seqK (s_book_Book_string_Apart_j0 call N q) (endK [(.t 4)] q))))
theorem s_book_Book_string_Apart_eq (call : CallK) (N : Nat) (a0 a1 : V) (H : Heap) (τ : Tape) (q : KV) : s_book_Book_string_Apart call N a0 a1 H τ q = funK call N fn_book_Book_string_Apart [a0, a1] H τ q := by kernel_rfl
def e_book_Book_string_Apart (call : CallK) (N : Nat) (vs : List V) (H : Heap) (τ : Tape) (q : KV) : Ans := match vs with | [a0, a1] => s_book_Book_string_Apart call N a0 a1 H τ q | _ => none
theorem e_book_Book_string_Apart_ok : EntOk fn_book_Book_string_Apart e_book_Book_string_Apart := by
  intro call N vs H τ q r h
  unfold e_book_Book_string_Apart at h
  split at h
  · rw [s_book_Book_string_Apart_eq] at h; exact h
  · cases h
theorem e_book_Book_string_Apart_nat : EntNat e_book_Book_string_Apart := by
  intro c hn N vs H τ q
  unfold e_book_Book_string_Apart
  split
  · rw [s_book_Book_string_Apart_eq, s_book_Book_string_Apart_eq]; exact funK_ent hn _ _ _ _ _ _
  · rfl
/-- ostiary/ostiarybook.Strings -/
def fn_book_Strings : Fun := ⟨2, (.seq (.reg [iR 4 (.p .mv) [(.c (.str []))]]) (.keep [0] (.seq (.reg [iR 5 (.p .mv) [(.t 0)], iR 6 (.p (.toInt .u8)) [(.t 5)], iR 7 (.p .mv) [(.t 0)], iR 8 (.p (.bin .shr)) [(.t 7), (.c (.int .u64 (.ofNat 8)))], iR 9 (.p (.toInt .u8)) [(.t 8)], iR 10 (.p .mv) [(.t 0)], iR 11 (.p (.bin .shr)) [(.t 10), (.c (.int .u64 (.ofNat 16)))], iR 12 (.p (.toInt .u8)) [(.t 11)], iR 13 (.e (.buildSlice 3 1 [(.int .u8 (.ofNat 0)), (.int .u8 (.ofNat 0)), (.int .u8 (.ofNat 0))] [(0, 1), (1, 1), (2, 1)])) [(.t 6), (.t 9), (.t 12)], iR 14 (.l .bytesStr) [(.t 13)], iR 15 (.p (.bin .add)) [(.c (.str (bs [109, 97, 114, 107, 32]))), (.t 14)], iR 4 (.p .mv) [(.t 15)]]) (.keep [4] (.keep [4] .ret))))), [(.t 4)]⟩
def s_book_Strings (call : CallK) (N : Nat) (a0 a1 : V) (H : Heap) (τ : Tape) (q : KV) : Ans := toIntK .u8 a0 fun v0 => binK .shr a0 (.int .u64 (.ofNat 8)) fun v1 => toIntK .u8 v1 fun v2 => binK .shr a0 (.int .u64 (.ofNat 16)) fun v3 => toIntK .u8 v3 fun v4 => effK (eBuildSlice 3 1 [(.int .u8 (.ofNat 0)), (.int .u8 (.ofNat 0)), (.int .u8 (.ofNat 0))] [(0, 1), (1, 1), (2, 1)] [v0, v2, v4] H τ) fun v5 H6 τ7 => someK (lBytesStr [v5] H6) fun v8 => binK .add (.str (bs [109, 97, 114, 107, 32])) v8 fun v9 => q v9 H6 τ7
theorem s_book_Strings_eq (call : CallK) (N : Nat) (a0 a1 : V) (H : Heap) (τ : Tape) (q : KV) : s_book_Strings call N a0 a1 H τ q = funK call N fn_book_Strings [a0, a1] H τ q := by kernel_rfl
def e_book_Strings (call : CallK) (N : Nat) (vs : List V) (H : Heap) (τ : Tape) (q : KV) : Ans := match vs with | [a0, a1] => s_book_Strings call N a0 a1 H τ q | _ => none
theorem e_book_Strings_ok : EntOk fn_book_Strings e_book_Strings := by
  intro call N vs H τ q r h
  unfold e_book_Strings at h
  split at h
  · rw [s_book_Strings_eq] at h; exact h
  · cases h
theorem e_book_Strings_nat : EntNat e_book_Strings := by
  intro c hn N vs H τ q
  unfold e_book_Strings
  split
  · rw [s_book_Strings_eq, s_book_Strings_eq]; exact funK_ent hn _ _ _ _ _ _
  · rfl
/-- ostiary/ostiarylaw5.known -/
def fn_law5_known : Fun := ⟨0, (.seq (.reg [iR 0 (.p .mv) [(.c (.bool false))]]) (.keep [] (.seq (.reg [iR 6 (.call 33) [(.c (.str (bs [65]))), (.c (.str (bs [49])))], iR 7 (.call 33) [(.c (.str (bs [98]))), (.c (.str (bs [50])))], iR 8 (.call 33) [(.c (.str (bs [97]))), (.c (.str (bs [51])))], iR 9 (.e (.buildSlice 3 2 (repl 6 [(.str [])]) [(0, 2), (2, 2), (4, 2)])) [(.t 6), (.t 7), (.t 8)], iR 10 (.call 23) [(.t 9), (.c (.str (bs [97])))], iR 5 (.p .mv) [(.t 10)], iR 11 (.p (.extract 0)) [(.t 5)], iR 12 (.p (.extract 1)) [(.t 5)], iR 1 (.p .mv) [(.t 11)], iR 2 (.p .mv) [(.t 12)]]) (.keep [1, 2] (.seq (.reg [iR 14 (.call 33) [(.c (.str (bs [97]))), (.c (.str (bs [120, 44, 32, 34, 121, 44, 32, 122, 34, 32, 44, 32, 119])))], iR 15 (.e (.buildSlice 1 2 [(.str []), (.str [])] [(0, 2)])) [(.t 14)], iR 16 (.call 7) [(.t 15), (.c (.str (bs [65])))], iR 13 (.p .mv) [(.t 16)],
    iR 17 (.p (.extract 0)) [(.t 13)], iR 18 (.p (.extract 1)) [(.t 13)], iR 3 (.p .mv) [(.t 17)], iR 4 (.p .mv) [(.t 18)]]) (.keep [1, 2, 3, 4] (.seq (.reg [iR 19 (.p .mv) [(.t 2)], iR 20 (.p .mv) [(.t 19)], iG 21 20 true (.p .mv) [(.t 1)], iG 22 20 true (.p (.bin .eql)) [(.t 21), (.c (.str (bs [49, 44, 32, 51])))], iR 23 (.p .pick) [(.t 20), (.t 22), (.c (.bool false))], iR 24 (.p .mv) [(.t 23)], iG 25 24 true (.p .mv) [(.t 4)], iR 26 (.p .pick) [(.t 24), (.t 25), (.c (.bool false))], iR 27 (.p .mv) [(.t 26)], iG 28 27 true (.p .mv) [(.t 3)], iG 29 27 true (.e (.buildSlice 3 1 [(.str []), (.str []), (.str [])] [(0, 1), (1, 1), (2, 1)])) [(.c (.str (bs [120]))), (.c (.str (bs [34, 121, 44, 32, 122, 34]))), (.c (.str (bs [119])))], iG 30 27 true (.call 31) [(.t 28), (.t 29)], iR 31 (.p .pick) [(.t 27), (.t 30), (.c (.bool false))], iR 32 (.p .mv) [(.t 31)],
    iG 33 32 true (.call 35) [(.c (.str (bs [67, 111, 110, 116, 101, 110, 116, 45, 84, 121, 112, 101]))), (.c (.str (bs [116, 101, 120, 116, 47, 112, 108, 97, 105, 110, 59, 113])))], iR 34 (.p .pick) [(.t 32), (.t 33), (.c (.bool false))], iR 0 (.p .mv) [(.t 34)]]) (.keep [0] (.keep [0] .ret))))))))), [(.t 0)]⟩
def s_law5_known (call : CallK) (N : Nat) (H : Heap) (τ : Tape) (q : KV) : Ans := call f_law5_h [(.str (bs [65])), (.str (bs [49]))] H τ fun v0 H1 τ2 => call f_law5_h [(.str (bs [98])), (.str (bs [50]))] H1 τ2 fun v3 H4 τ5 => call f_law5_h [(.str (bs [97])), (.str (bs [51]))] H4 τ5 fun v6 H7 τ8 => effK (eBuildSlice 3 2 (repl 6 [(.str [])]) [(0, 2), (2, 2), (4, 2)] [v0, v3, v6] H7 τ8) fun v9 H10 τ11 => call f_headers_Get [v9, (.str (bs [97]))] H10 τ11 fun v12 H13 τ14 => someK (pExtract 0 [v12]) fun v15 => someK (pExtract 1 [v12]) fun v16 => call f_law5_h [(.str (bs [97])), (.str (bs [120, 44, 32, 34, 121, 44, 32, 122, 34, 32, 44, 32, 119]))] H13 τ14 fun v17 H18 τ19 => effK (eBuildSlice 1 2 [(.str []), (.str [])] [(0, 2)] [v17] H18 τ19) fun v20 H21 τ22 => call f_headers_Split [v20, (.str (bs [65]))] H21 τ22 fun v23 H24 τ25 => someK (pExtract 0 [v23]) fun v26 =>
    someK (pExtract 1 [v23]) fun v27 => gK v16 true (fun q' => q' v15 H24 τ25) H24 τ25 fun v28 H29 τ30 => gK v16 true (fun q' => binK .eql v28 (.str (bs [49, 44, 32, 51])) fun v => q' v H29 τ30) H29 τ30 fun v31 H32 τ33 => someK (pPick [v16, v31, (.bool false)]) fun v34 => gK v34 true (fun q' => q' v27 H32 τ33) H32 τ33 fun v35 H36 τ37 => someK (pPick [v34, v35, (.bool false)]) fun v38 => gK v38 true (fun q' => q' v26 H36 τ37) H36 τ37 fun v39 H40 τ41 => gK v38 true (fun q' => effK (eBuildSlice 3 1 [(.str []), (.str []), (.str [])] [(0, 1), (1, 1), (2, 1)] [(.str (bs [120])), (.str (bs [34, 121, 44, 32, 122, 34])), (.str (bs [119]))] H40 τ41) q') H40 τ41 fun v42 H43 τ44 => gK v38 true (fun q' => call f_book_Same_string [v39, v42] H43 τ44 q') H43 τ44 fun v45 H46 τ47 => someK (pPick [v38, v45, (.bool false)]) fun v48 =>
    gK v48 true (fun q' => call f_headers_Safe [(.str (bs [67, 111, 110, 116, 101, 110, 116, 45, 84, 121, 112, 101])), (.str (bs [116, 101, 120, 116, 47, 112, 108, 97, 105, 110, 59, 113]))] H46 τ47 q') H46 τ47 fun v49 H50 τ51 => someK (pPick [v48, v49, (.bool false)]) fun v52 => q v52 H50 τ51
theorem s_law5_known_eq (call : CallK) (N : Nat) (H : Heap) (τ : Tape) (q : KV) : s_law5_known call N  H τ q = funK call N fn_law5_known [] H τ q := by kernel_rfl
def e_law5_known (call : CallK) (N : Nat) (vs : List V) (H : Heap) (τ : Tape) (q : KV) : Ans := match vs with | [] => s_law5_known call N  H τ q | _ => none
theorem e_law5_known_ok : EntOk fn_law5_known e_law5_known := by
  intro call N vs H τ q r h
  unfold e_law5_known at h
  split at h
  · rw [s_law5_known_eq] at h; exact h
  · cases h
theorem e_law5_known_nat : EntNat e_law5_known := by
  intro c hn N vs H τ q
  unfold e_law5_known
  split
  · rw [s_law5_known_eq, s_law5_known_eq]; exact funK_ent hn _ _ _ _ _ _
  · rfl
/-- ostiary/ostiarykeep.Few -/
def fn_keep_Few : Fun := ⟨2, (.seq (.reg [iR 4 (.p .mv) [(.c (.str []))]]) (.keep [0, 1] (.seq (.seq (.reg [iR 5 (.p .mv) [(.t 0)], iR 6 (.p .lenS) [(.t 5)], iR 7 (.p .mv) [(.t 1)], iR 8 (.p (.bin .gtr)) [(.t 6), (.t 7)]]) (.keep [0, 1, 8] (.cond (.t 8) (.seq (.reg [iR 9 (.p .mv) [(.t 0)], iR 10 (.p .mv) [(.t 1)], iR 11 (.p (.strSlice false true)) [(.t 9), (.t 10)], iR 4 (.p .mv) [(.t 11)]]) (.keep [4] (.keep [4] .ret))) .skip))) (.keep [0] (.seq (.reg [iR 12 (.p .mv) [(.t 0)], iR 4 (.p .mv) [(.t 12)]]) (.keep [4] (.keep [4] .ret))))))), [(.t 4)]⟩
def s_keep_Few (call : CallK) (N : Nat) (a0 a1 : V) (H : Heap) (τ : Tape) (q : KV) : Ans := someK (pLenS [a0]) fun v0 => binK .gtr v0 a1 fun v1 => condK v1 (someK (pStrSlice false true [a0, a1]) fun v2 => q v2 H τ) (q a0 H τ)
theorem s_keep_Few_eq (call : CallK) (N : Nat) (a0 a1 : V) (H : Heap) (τ : Tape) (q : KV) : s_keep_Few call N a0 a1 H τ q = funK call N fn_keep_Few [a0, a1] H τ q := by kernel_rfl
def e_keep_Few (call : CallK) (N : Nat) (vs : List V) (H : Heap) (τ : Tape) (q : KV) : Ans := match vs with | [a0, a1] => s_keep_Few call N a0 a1 H τ q | _ => none
theorem e_keep_Few_ok : EntOk fn_keep_Few e_keep_Few := by
  intro call N vs H τ q r h
  unfold e_keep_Few at h
  split at h
  · rw [s_keep_Few_eq] at h; exact h
  · cases h
theorem e_keep_Few_nat : EntNat e_keep_Few := by
  intro c hn N vs H τ q
  unfold e_keep_Few
  split
  · rw [s_keep_Few_eq, s_keep_Few_eq]; exact funK_ent hn _ _ _ _ _ _
  · rfl
/-- ostiary/headers.may -/
def fn_headers_may : Fun := ⟨2, (.seq (.reg [iR 4 (.p .mv) [(.c (.str []))], iR 5 (.p .mv) [(.c (.int .i64 (.ofNat 0)))]]) (.keep [0, 1] (.seq (.reg [iR 9 (.p .mv) [(.t 1)], iR 10 (.call 36) [(.t 9)], iR 8 (.p .mv) [(.t 10)], iR 11 (.p (.extract 0)) [(.t 8)], iR 12 (.p (.extract 1)) [(.t 8)], iR 6 (.p .mv) [(.t 11)], iR 7 (.p .mv) [(.t 12)]]) (.keep [0, 6, 7] (.seq (.block 0 (.seq (.reg [iR 14 (.p .mv) [(.t 7)], iR 15 (.p (.un .not)) [(.t 14)], iR 16 (.p .mv) [(.t 15)], iG 17 16 false (.p .mv) [(.t 0)], iG 18 16 false (.call 37) [(.t 17)], iG 19 16 false (.p (.un .not)) [(.t 18)], iR 20 (.p .pick) [(.t 16), (.c (.bool true)), (.t 19)], iR 13 (.p .mv) [(.t 20)]]) (.keep [0, 6, 13] (.cond (.t 13) (.seq (.reg [iR 4 (.p .mv) [(.c (.str []))], iR 5 (.p .mv) [(.c (.int .i64 (.ofNat 1)))]]) (.keep [4, 5] (.keep [4, 5] .ret))) (.seq (.reg [iR 22 (.p .mv) [(.t 0)],
    iR 23 (.p .lenS) [(.t 22)], iR 24 (.p (.bin .gtr)) [(.t 23), (.c (.int .i64 (.ofNat 4096)))], iR 25 (.p .mv) [(.t 24)], iG 26 25 false (.p .mv) [(.t 6)], iG 27 25 false (.p .lenS) [(.t 26)], iG 28 25 false (.p (.bin .gtr)) [(.t 27), (.c (.int .i64 (.ofNat 4096)))], iR 29 (.p .pick) [(.t 25), (.c (.bool true)), (.t 28)], iR 21 (.p .mv) [(.t 29)]]) (.keep [6, 21] (.cond (.t 21) (.seq (.reg [iR 4 (.p .mv) [(.c (.str []))], iR 5 (.p .mv) [(.c (.int .i64 (.ofNat 3)))]]) (.keep [4, 5] (.keep [4, 5] .ret))) .skip))))))) (.keep [6] (.seq (.reg [iR 30 (.p .mv) [(.t 6)], iR 4 (.p .mv) [(.t 30)], iR 5 (.p .mv) [(.c (.int .i64 (.ofNat 0)))]]) (.keep [4, 5] (.keep [4, 5] .ret))))))))), [(.t 4), (.t 5)]⟩
def s_headers_may (call : CallK) (N : Nat) (a0 a1 : V) (H : Heap) (τ : Tape) (q : KV) : Ans := call f_headers_Value [a1] H τ fun v0 H1 τ2 => someK (pExtract 0 [v0]) fun v3 => someK (pExtract 1 [v0]) fun v4 => unK .not v4 fun v5 => gK v5 false (fun q' => q' a0 H1 τ2) H1 τ2 fun v6 H7 τ8 => gK v5 false (fun q' => call f_infra_Token [v6] H7 τ8 q') H7 τ8 fun v9 H10 τ11 => gK v5 false (fun q' => unK .not v9 fun v => q' v H10 τ11) H10 τ11 fun v12 H13 τ14 => someK (pPick [v5, (.bool true), v12]) fun v15 => condK v15 (q (.tup [(.str []), (.int .i64 (.ofNat 1))]) H13 τ14) (someK (pLenS [a0]) fun v16 => binK .gtr v16 (.int .i64 (.ofNat 4096)) fun v17 => gK v17 false (fun q' => q' v3 H13 τ14) H13 τ14 fun v18 H19 τ20 => gK v17 false (fun q' => someK (pLenS [v18]) fun v => q' v H19 τ20) H19 τ20 fun v21 H22 τ23 =>
    gK v17 false (fun q' => binK .gtr v21 (.int .i64 (.ofNat 4096)) fun v => q' v H22 τ23) H22 τ23 fun v24 H25 τ26 => someK (pPick [v17, (.bool true), v24]) fun v27 => condK v27 (q (.tup [(.str []), (.int .i64 (.ofNat 3))]) H25 τ26) (q (.tup [v3, (.int .i64 (.ofNat 0))]) H25 τ26))
theorem s_headers_may_eq (call : CallK) (N : Nat) (a0 a1 : V) (H : Heap) (τ : Tape) (q : KV) : s_headers_may call N a0 a1 H τ q = funK call N fn_headers_may [a0, a1] H τ q := by kernel_rfl
def e_headers_may (call : CallK) (N : Nat) (vs : List V) (H : Heap) (τ : Tape) (q : KV) : Ans := match vs with | [a0, a1] => s_headers_may call N a0 a1 H τ q | _ => none
theorem e_headers_may_ok : EntOk fn_headers_may e_headers_may := by
  intro call N vs H τ q r h
  unfold e_headers_may at h
  split at h
  · rw [s_headers_may_eq] at h; exact h
  · cases h
theorem e_headers_may_nat : EntNat e_headers_may := by
  intro c hn N vs H τ q
  unfold e_headers_may
  split
  · rw [s_headers_may_eq, s_headers_may_eq]; exact funK_ent hn _ _ _ _ _ _
  · rfl
/-- slices.Clone[[]ostiary/api.Header,ostiary/api.Header] -/
def fn_slices_Clone_Header : Fun := ⟨1, (.seq (.reg [iR 2 (.p .mv) [(.c .nils)]]) (.keep [0] (.seq (.seq (.reg [iR 3 (.p .mv) [(.t 0)], iR 4 (.p (.eq false .slice)) [(.t 3), (.c .nils)]]) (.keep [0, 4] (.cond (.t 4) (.seq (.reg [iR 2 (.p .mv) [(.c .nils)]]) (.keep [2] (.keep [2] .ret))) .skip))) (.keep [0] (.seq (.reg [iR 5 (.e (.buildSlice 0 2 [] [])) [], iR 6 (.p .mv) [(.t 0)], iR 7 (.e (.append 2 32)) [(.t 5), (.t 6)], iR 2 (.p .mv) [(.t 7)]]) (.keep [2] (.keep [2] .ret))))))), [(.t 2)]⟩
def s_slices_Clone_Header (call : CallK) (N : Nat) (a0 : V) (H : Heap) (τ : Tape) (q : KV) : Ans := someK (pEq false .slice [a0, .nils]) fun v0 => condK v0 (q .nils H τ) (effK (eBuildSlice 0 2 [] [] [] H τ) fun v1 H2 τ3 => effK (eAppend 2 32 [v1, a0] H2 τ3) fun v4 H5 τ6 => q v4 H5 τ6)
theorem s_slices_Clone_Header_eq (call : CallK) (N : Nat) (a0 : V) (H : Heap) (τ : Tape) (q : KV) : s_slices_Clone_Header call N a0 H τ q = funK call N fn_slices_Clone_Header [a0] H τ q := by kernel_rfl
def e_slices_Clone_Header (call : CallK) (N : Nat) (vs : List V) (H : Heap) (τ : Tape) (q : KV) : Ans := match vs with | [a0] => s_slices_Clone_Header call N a0 H τ q | _ => none
theorem e_slices_Clone_Header_ok : EntOk fn_slices_Clone_Header e_slices_Clone_Header := by
  intro call N vs H τ q r h
  unfold e_slices_Clone_Header at h
  split at h
  · rw [s_slices_Clone_Header_eq] at h; exact h
  · cases h
theorem e_slices_Clone_Header_nat : EntNat e_slices_Clone_Header := by
  intro c hn N vs H τ q
  unfold e_slices_Clone_Header
  split
  · rw [s_slices_Clone_Header_eq, s_slices_Clone_Header_eq]; exact funK_ent hn _ _ _ _ _ _
  · rfl
/-- slices.IndexFunc[[]ostiary/api.Header,ostiary/api.Header] -/
def fn_slices_IndexFunc_Header : Fun := ⟨2, (.seq (.reg [iR 4 (.p .mv) [(.c (.int .i64 (.ofNat 0)))]]) (.keep [0, 1] (.seq (.seq (.reg [iR 6 (.p .mv) [(.t 0)], iR 7 (.p .len) [(.t 6)], iR 8 (.p .mv) [(.c (.int .i64 (.ofNat 0)))]]) (.keep [0, 1, 7, 8] (.block 0 (.loop (.keep [0, 1, 7, 8] (.seq (.reg [iR 9 (.p (.bin .lss)) [(.t 8), (.t 7)]]) (.keep [0, 1, 7, 8, 9] (.seq (.cond (.t 9) .skip (.keep [] (.exit 0))) (.keep [0, 1, 7, 8] (.seq (.block 1 (.seq (.reg [iR 10 (.p .mv) [(.t 8)], iR 5 (.p .mv) [(.t 10)]]) (.keep [0, 1, 5, 7, 8] (.seq (.reg [iR 11 (.p .mv) [(.t 1)], iR 12 (.p .mv) [(.t 0)], iR 13 (.p .mv) [(.t 5)], iR 14 (.p (.slIdx 2)) [(.t 12), (.t 13)], iR 15 (.l (.load (some 2))) [(.t 14)], iR 16 .callv [(.t 11), (.t 15)]]) (.keep [0, 1, 5, 7, 8, 16] (.cond (.t 16) (.seq (.reg [iR 17 (.p .mv) [(.t 5)], iR 4 (.p .mv) [(.t 17)]]) (.keep [4] (.keep [4] .ret))) .skip))))))
    (.keep [0, 1, 7, 8] (.reg [iR 18 (.p (.bin .add)) [(.t 8), (.c (.int .i64 (.ofNat 1)))], iR 8 (.p .mv) [(.t 18)]])))))))))))) (.keep [] (.seq (.reg [iR 4 (.p .mv) [(.c (.int .i64 (.negSucc 0)))]]) (.keep [4] (.keep [4] .ret))))))), [(.t 4)]⟩
def s_slices_IndexFunc_Header_j0 (call : CallK) (N : Nat) (q : KV) (st : St) (τ : Tape) : Ans := match st with
  | ⟨fr, H⟩ => q (.int .i64 (.negSucc 0)) H τ
def s_slices_IndexFunc_Header_l1 (call : CallK) (N : Nat) (st : St) (τ : Tape) (k : KC) : Ans := match st with
  | ⟨fr, H⟩ => getK fr 0 fun t0 => getK fr 1 fun t1 => getK fr 7 fun t7 => getK fr 8 fun t8 => binK .lss t8 t7 fun v1 => condK v1 (someK (pSlIdx 2 [t0, t8]) fun v2 => someK (lLoadN 2 [v2] H) fun v3 => opK call .callv [t1, v3] H τ fun v4 H5 τ6 => condK v4 (k .ret ⟨(T.set .leaf 4 t8), H5⟩ τ6) (binK .add t8 (.int .i64 (.ofNat 1)) fun v7 => k .normal ⟨(T.set (T.set (T.set (T.set (T.set (T.set .leaf 0 t0) 1 t1) 7 t7) 8 t8) 18 v7) 8 v7), H5⟩ τ6)) (k (.exit 0) ⟨.leaf, H⟩ τ)
def s_slices_IndexFunc_Header (call : CallK) (N : Nat) (a0 a1 : V) (H : Heap) (τ : Tape) (q : KV) : Ans := someK (pLen [a0]) fun v0 => loopK (s_slices_IndexFunc_Header_l1 call N) N ⟨(T.set (T.set (T.set (T.set .leaf 0 a0) 1 a1) 7 v0) 8 (.int .i64 (.ofNat 0))), H⟩ τ (blockK 0 (seqK (s_slices_IndexFunc_Header_j0 call N q) (endK [(.t 4)] q)))
theorem s_slices_IndexFunc_Header_eq (call : CallK) (N : Nat) (a0 a1 : V) (H : Heap) (τ : Tape) (q : KV) : s_slices_IndexFunc_Header call N a0 a1 H τ q = funK call N fn_slices_IndexFunc_Header [a0, a1] H τ q := by kernel_rfl
def e_slices_IndexFunc_Header (call : CallK) (N : Nat) (vs : List V) (H : Heap) (τ : Tape) (q : KV) : Ans := match vs with | [a0, a1] => s_slices_IndexFunc_Header call N a0 a1 H τ q | _ => none
theorem e_slices_IndexFunc_Header_ok : EntOk fn_slices_IndexFunc_Header e_slices_IndexFunc_Header := by
  intro call N vs H τ q r h
  unfold e_slices_IndexFunc_Header at h
  split at h
  · rw [s_slices_IndexFunc_Header_eq] at h; exact h
  · cases h
theorem e_slices_IndexFunc_Header_nat : EntNat e_slices_IndexFunc_Header := by
  intro c hn N vs H τ q
  unfold e_slices_IndexFunc_Header
  split
  · rw [s_slices_IndexFunc_Header_eq, s_slices_IndexFunc_Header_eq]; exact funK_ent hn _ _ _ _ _ _
  · rfl
/-- ostiary/headers.Set$1 -/
def fn_headers_Set_1 : Fun := ⟨2, (.seq (.reg [iR 2 (.e .box) [(.t 0)], iR 3 (.p .mv) [(.c (.bool false))]]) (.keep [1, 2] (.seq (.reg [iR 4 (.l (.load (some 2))) [(.t 2)], iR 5 (.l (.load none)) [(.t 1)], iR 6 (.call 22) [(.t 4), (.t 5)], iR 3 (.p .mv) [(.t 6)]]) (.keep [3] (.keep [3] .ret))))), [(.t 3)]⟩
def s_headers_Set_1 (call : CallK) (N : Nat) (a0 a1 : V) (H : Heap) (τ : Tape) (q : KV) : Ans := effK (eBox [a0] H τ) fun v0 H1 τ2 => someK (lLoadN 2 [v0] H1) fun v3 => someK (lLoad1 [a1] H1) fun v4 => call f_headers_is [v3, v4] H1 τ2 fun v5 H6 τ7 => q v5 H6 τ7
theorem s_headers_Set_1_eq (call : CallK) (N : Nat) (a0 a1 : V) (H : Heap) (τ : Tape) (q : KV) : s_headers_Set_1 call N a0 a1 H τ q = funK call N fn_headers_Set_1 [a0, a1] H τ q := by kernel_rfl
def e_headers_Set_1 (call : CallK) (N : Nat) (vs : List V) (H : Heap) (τ : Tape) (q : KV) : Ans := match vs with | [a0, a1] => s_headers_Set_1 call N a0 a1 H τ q | _ => none
theorem e_headers_Set_1_ok : EntOk fn_headers_Set_1 e_headers_Set_1 := by
  intro call N vs H τ q r h
  unfold e_headers_Set_1 at h
  split at h
  · rw [s_headers_Set_1_eq] at h; exact h
  · cases h
theorem e_headers_Set_1_nat : EntNat e_headers_Set_1 := by
  intro c hn N vs H τ q
  unfold e_headers_Set_1
  split
  · rw [s_headers_Set_1_eq, s_headers_Set_1_eq]; exact funK_ent hn _ _ _ _ _ _
  · rfl
/-- ostiary/headers.is -/
def fn_headers_is : Fun := ⟨2, (.seq (.reg [iR 2 (.e .box) [(.t 0)], iR 4 (.p .mv) [(.c (.bool false))]]) (.keep [1, 2] (.seq (.reg [iR 5 (.p (.fieldAddr 0)) [(.t 2)], iR 6 (.l (.load none)) [(.t 5)], iR 7 (.call 28) [(.t 6)], iR 8 (.p .mv) [(.t 1)], iR 9 (.call 28) [(.t 8)], iR 10 (.p (.bin .eql)) [(.t 7), (.t 9)], iR 4 (.p .mv) [(.t 10)]]) (.keep [4] (.keep [4] .ret))))), [(.t 4)]⟩
def s_headers_is (call : CallK) (N : Nat) (a0 a1 : V) (H : Heap) (τ : Tape) (q : KV) : Ans := effK (eBox [a0] H τ) fun v0 H1 τ2 => someK (pFieldAddr 0 [v0]) fun v3 => someK (lLoad1 [v3] H1) fun v4 => call f_infra_Lower [v4] H1 τ2 fun v5 H6 τ7 => call f_infra_Lower [a1] H6 τ7 fun v8 H9 τ10 => binK .eql v5 v8 fun v11 => q v11 H9 τ10
theorem s_headers_is_eq (call : CallK) (N : Nat) (a0 a1 : V) (H : Heap) (τ : Tape) (q : KV) : s_headers_is call N a0 a1 H τ q = funK call N fn_headers_is [a0, a1] H τ q := by kernel_rfl
def e_headers_is (call : CallK) (N : Nat) (vs : List V) (H : Heap) (τ : Tape) (q : KV) : Ans := match vs with | [a0, a1] => s_headers_is call N a0 a1 H τ q | _ => none
theorem e_headers_is_ok : EntOk fn_headers_is e_headers_is := by
  intro call N vs H τ q r h
  unfold e_headers_is at h
  split at h
  · rw [s_headers_is_eq] at h; exact h
  · cases h
theorem e_headers_is_nat : EntNat e_headers_is := by
  intro c hn N vs H τ q
  unfold e_headers_is
  split
  · rw [s_headers_is_eq, s_headers_is_eq]; exact funK_ent hn _ _ _ _ _ _
  · rfl
/-- ostiary/headers.Get -/
def fn_headers_Get : Fun := ⟨2, (.seq (.reg [iR 4 (.p .mv) [(.c (.str []))], iR 5 (.p .mv) [(.c (.bool false))]]) (.keep [0, 1] (.seq (.reg [iR 6 (.p .mv) [(.c .nils)]]) (.keep [0, 1, 6] (.seq (.seq (.reg [iR 9 (.p .mv) [(.t 0)], iR 10 (.p .len) [(.t 9)], iR 11 (.p .mv) [(.c (.int .i64 (.ofNat 0)))]]) (.keep [1, 6, 9, 10, 11] (.block 0 (.loop (.keep [1, 6, 9, 10, 11] (.seq (.reg [iR 12 (.p (.bin .lss)) [(.t 11), (.t 10)]]) (.keep [1, 6, 9, 10, 11, 12] (.seq (.cond (.t 12) .skip (.keep [6] (.exit 0))) (.keep [1, 6, 9, 10, 11] (.seq (.block 1 (.seq (.reg [iR 13 (.p (.slIdx 2)) [(.t 9), (.t 11)], iR 14 (.l (.load (some 2))) [(.t 13)], iR 8 (.e (.alloc [(.str []), (.str [])])) [], ⟨none, none, (.e (.store 2)), [(.t 8), (.t 14)], none⟩]) (.keep [1, 6, 8, 9, 10, 11] (.seq (.reg [iR 15 (.l (.load (some 2))) [(.t 8)], iR 16 (.p .mv) [(.t 1)], iR 17 (.call 22) [(.t 15), (.t 16)]])
    (.keep [1, 6, 8, 9, 10, 11, 17] (.cond (.t 17) (.reg [iR 18 (.p .mv) [(.t 6)], iR 19 (.p (.fieldAddr 1)) [(.t 8)], iR 20 (.l (.load none)) [(.t 19)], iR 21 (.e (.buildSlice 1 1 [(.str [])] [(0, 1)])) [(.t 20)], iR 22 (.e (.append 1 16)) [(.t 18), (.t 21)], iR 6 (.p .mv) [(.t 22)]]) .skip)))))) (.keep [1, 6, 9, 10, 11] (.reg [iR 23 (.p (.bin .add)) [(.t 11), (.c (.int .i64 (.ofNat 1)))], iR 11 (.p .mv) [(.t 23)]])))))))))))) (.keep [6] (.seq (.reg [iR 24 (.p .mv) [(.t 6)], iR 25 (.call 38) [(.t 24), (.c (.str (bs [44, 32])))], iR 26 (.p .mv) [(.t 6)], iR 27 (.p .len) [(.t 26)], iR 28 (.p (.bin .gtr)) [(.t 27), (.c (.int .i64 (.ofNat 0)))], iR 4 (.p .mv) [(.t 25)], iR 5 (.p .mv) [(.t 28)]]) (.keep [4, 5] (.keep [4, 5] .ret))))))))), [(.t 4), (.t 5)]⟩
def s_headers_Get_j0 (call : CallK) (N : Nat) (q : KV) (st : St) (τ : Tape) : Ans := match st with
  | ⟨fr, H⟩ => getK fr 6 fun t6 => call f_strings_Join [t6, (.str (bs [44, 32]))] H τ fun v1 H2 τ3 => someK (pLen [t6]) fun v4 => binK .gtr v4 (.int .i64 (.ofNat 0)) fun v5 => q (.tup [v1, v5]) H2 τ3
def s_headers_Get_j2 (call : CallK) (N : Nat) (k : KC) (st : St) (τ : Tape) : Ans := match st with
  | ⟨fr, H⟩ => getK fr 1 fun t1 => getK fr 6 fun t6 => getK fr 9 fun t9 => getK fr 10 fun t10 => getK fr 11 fun t11 => binK .add t11 (.int .i64 (.ofNat 1)) fun v7 => k .normal ⟨(T.set (T.set (T.set (T.set (T.set (T.set (T.set .leaf 1 t1) 6 t6) 9 t9) 10 t10) 11 t11) 23 v7) 11 v7), H⟩ τ
def s_headers_Get_l1 (call : CallK) (N : Nat) (st : St) (τ : Tape) (k : KC) : Ans := match st with
  | ⟨fr, H⟩ => getK fr 1 fun t1 => getK fr 6 fun t6 => getK fr 9 fun t9 => getK fr 10 fun t10 => getK fr 11 fun t11 => binK .lss t11 t10 fun v6 => condK v6 (someK (pSlIdx 2 [t9, t11]) fun v8 => someK (lLoadN 2 [v8] H) fun v9 => effK (eAlloc [(.str []), (.str [])] [] H τ) fun v10 H11 τ12 => effK (eStore 2 [v10, v9] H11 τ12) fun v13 H14 τ15 => someK (lLoadN 2 [v10] H14) fun v16 => call f_headers_is [v16, t1] H14 τ15 fun v17 H18 τ19 => condK v17 (someK (pFieldAddr 1 [v10]) fun v20 => someK (lLoad1 [v20] H18) fun v21 => effK (eBuildSlice 1 1 [(.str [])] [(0, 1)] [v21] H18 τ19) fun v22 H23 τ24 => effK (eAppend 1 16 [t6, v22] H23 τ24) fun v25 H26 τ27 => s_headers_Get_j2 call N k ⟨(T.set (T.set (T.set (T.set (T.set (T.set (T.set (T.set (T.set (T.set (T.set (T.set (T.set .leaf 1 t1) 6 t6) 8 v10) 9 t9) 10 t10) 11 t11) 17 v17) 18 t6) 19 v20) 20 v21) 21 v22) 22 v25) 6 v25), H26⟩ τ27)
    (s_headers_Get_j2 call N k ⟨(T.set (T.set (T.set (T.set (T.set (T.set (T.set .leaf 1 t1) 6 t6) 8 v10) 9 t9) 10 t10) 11 t11) 17 v17), H18⟩ τ19)) (k (.exit 0) ⟨(T.set .leaf 6 t6), H⟩ τ)
def s_headers_Get (call : CallK) (N : Nat) (a0 a1 : V) (H : Heap) (τ : Tape) (q : KV) : Ans := someK (pLen [a0]) fun v0 => loopK (s_headers_Get_l1 call N) N ⟨(T.set (T.set (T.set (T.set (T.set .leaf 1 a1) 6 .nils) 9 a0) 10 v0) 11 (.int .i64 (.ofNat 0))), H⟩ τ (blockK 0 (seqK (s_headers_Get_j0 call N q) (endK [(.t 4), (.t 5)] q)))
theorem s_headers_Get_eq (call : CallK) (N : Nat) (a0 a1 : V) (H : Heap) (τ : Tape) (q : KV) : s_headers_Get call N a0 a1 H τ q = funK call N fn_headers_Get [a0, a1] H τ q := by kernel_rfl
def e_headers_Get (call : CallK) (N : Nat) (vs : List V) (H : Heap) (τ : Tape) (q : KV) : Ans := match vs with | [a0, a1] => s_headers_Get call N a0 a1 H τ q | _ => none
theorem e_headers_Get_ok : EntOk fn_headers_Get e_headers_Get := by
  intro call N vs H τ q r h
  unfold e_headers_Get at h
  split at h
  · rw [s_headers_Get_eq] at h; exact h
  · cases h
theorem e_headers_Get_nat : EntNat e_headers_Get := by
  intro c hn N vs H τ q
  unfold e_headers_Get
  split
  · rw [s_headers_Get_eq, s_headers_Get_eq]; exact funK_ent hn _ _ _ _ _ _
  · rfl
/-- strings.Trim -/
def fn_strings_Trim : Fun := ⟨2, (.seq (.reg [iR 4 (.p .mv) [(.c (.str []))]]) (.keep [0, 1] (.seq (.seq (.reg [iR 7 (.p .mv) [(.t 0)], iR 8 (.p (.bin .eql)) [(.t 7), (.c (.str []))], iR 9 (.p .mv) [(.t 8)], iG 10 9 false (.p .mv) [(.t 1)], iG 11 9 false (.p (.bin .eql)) [(.t 10), (.c (.str []))], iR 12 (.p .pick) [(.t 9), (.c (.bool true)), (.t 11)]]) (.keep [0, 1, 12] (.cond (.t 12) (.seq (.reg [iR 13 (.p .mv) [(.t 0)], iR 4 (.p .mv) [(.t 13)]]) (.keep [4] (.keep [4] .ret))) .skip))) (.keep [0, 1] (.seq (.seq (.reg [iR 14 (.p .mv) [(.t 1)], iR 15 (.p .lenS) [(.t 14)], iR 16 (.p (.bin .eql)) [(.t 15), (.c (.int .i64 (.ofNat 1)))], iR 17 (.p .mv) [(.t 16)], iG 18 17 true (.p .mv) [(.t 1)], iG 19 17 true (.p .strIndex) [(.t 18), (.c (.int .i64 (.ofNat 0)))], iG 20 17 true (.p (.bin .lss)) [(.t 19), (.c (.int .u8 (.ofNat 128)))],
    iR 21 (.p .pick) [(.t 17), (.t 20), (.c (.bool false))]]) (.keep [0, 1, 21] (.cond (.t 21) (.seq (.draw [iR 22 (.p .mv) [(.t 0)], iR 23 (.p .mv) [(.t 1)], iR 24 (.p .strIndex) [(.t 23), (.c (.int .i64 (.ofNat 0)))], iR 25 (.call 40) [(.t 22), (.t 24)], iR 26 (.p .mv) [(.t 1)], iR 27 (.p .strIndex) [(.t 26), (.c (.int .i64 (.ofNat 0)))], iR 28 (.call 39) [(.t 25), (.t 27)], iR 4 (.p .mv) [(.t 28)]]) (.keep [4] (.keep [4] .ret))) .skip))) (.keep [0, 1] (.seq (.seq (.reg [iR 30 (.p .mv) [(.t 1)], iR 31 (.call 41) [(.t 30)], iR 29 (.p .mv) [(.t 31)], iR 32 (.p (.extract 0)) [(.t 29)], iR 33 (.p (.extract 1)) [(.t 29)], iR 5 (.e (.alloc (repl 256 [(.bool false)]))) [], ⟨none, none, (.e (.store 256)), [(.t 5), (.t 32)], none⟩, iR 6 (.p .mv) [(.t 33)]]) (.keep [0, 1, 5, 6] (.seq (.reg [iR 34 (.p .mv) [(.t 6)]]) (.keep [0, 1, 5, 34] (.cond (.t 34) (.seq (.reg [iR 35 (.p .mv) [(.t 0)],
    iR 36 (.call 43) [(.t 35), (.t 5)], iR 37 (.call 42) [(.t 36), (.t 5)], iR 4 (.p .mv) [(.t 37)]]) (.keep [4] (.keep [4] .ret))) .skip))))) (.keep [0, 1] (.seq (.reg [iR 38 (.p .mv) [(.t 0)], iR 39 (.p .mv) [(.t 1)], iR 40 (.call 45) [(.t 38), (.t 39)], iR 41 (.p .mv) [(.t 1)], iR 42 (.call 44) [(.t 40), (.t 41)], iR 4 (.p .mv) [(.t 42)]]) (.keep [4] (.keep [4] .ret))))))))))), [(.t 4)]⟩
def s_strings_Trim (call : CallK) (N : Nat) (a0 a1 : V) (H : Heap) (τ : Tape) (q : KV) : Ans := binK .eql a0 (.str []) fun v0 => gK v0 false (fun q' => q' a1 H τ) H τ fun v1 H2 τ3 => gK v0 false (fun q' => binK .eql v1 (.str []) fun v => q' v H2 τ3) H2 τ3 fun v4 H5 τ6 => someK (pPick [v0, (.bool true), v4]) fun v7 => condK v7 (q a0 H5 τ6) (someK (pLenS [a1]) fun v8 => binK .eql v8 (.int .i64 (.ofNat 1)) fun v9 => gK v9 true (fun q' => q' a1 H5 τ6) H5 τ6 fun v10 H11 τ12 => gK v9 true (fun q' => someK (pStrIndex [v10, (.int .i64 (.ofNat 0))]) fun v => q' v H11 τ12) H11 τ12 fun v13 H14 τ15 => gK v9 true (fun q' => binK .lss v13 (.int .u8 (.ofNat 128)) fun v => q' v H14 τ15) H14 τ15 fun v16 H17 τ18 => someK (pPick [v9, v16, (.bool false)]) fun v19 => condK v19 (someK (pStrIndex [a1, (.int .i64 (.ofNat 0))]) fun v20 => call f_strings_trimRightByte [a0, v20] H17 τ18 fun v21 H22 τ23 =>
    someK (pStrIndex [a1, (.int .i64 (.ofNat 0))]) fun v24 => call f_strings_trimLeftByte [v21, v24] H22 τ23 fun v25 H26 τ27 => q v25 H26 τ27) (call f_strings_makeASCIISet [a1] H17 τ18 fun v28 H29 τ30 => someK (pExtract 0 [v28]) fun v31 => someK (pExtract 1 [v28]) fun v32 => effK (eAlloc (repl 256 [(.bool false)]) [] H29 τ30) fun v33 H34 τ35 => effK (eStore 256 [v33, v31] H34 τ35) fun v36 H37 τ38 => condK v32 (call f_strings_trimRightASCII [a0, v33] H37 τ38 fun v39 H40 τ41 => call f_strings_trimLeftASCII [v39, v33] H40 τ41 fun v42 H43 τ44 => q v42 H43 τ44) (call f_strings_trimRightUnicode [a0, a1] H37 τ38 fun v45 H46 τ47 => call f_strings_trimLeftUnicode [v45, a1] H46 τ47 fun v48 H49 τ50 => q v48 H49 τ50)))
theorem s_strings_Trim_eq (call : CallK) (N : Nat) (a0 a1 : V) (H : Heap) (τ : Tape) (q : KV) : s_strings_Trim call N a0 a1 H τ q = funK call N fn_strings_Trim [a0, a1] H τ q := by kernel_rfl
def e_strings_Trim (call : CallK) (N : Nat) (vs : List V) (H : Heap) (τ : Tape) (q : KV) : Ans := match vs with | [a0, a1] => s_strings_Trim call N a0 a1 H τ q | _ => none
theorem e_strings_Trim_ok : EntOk fn_strings_Trim e_strings_Trim := by
  intro call N vs H τ q r h
  unfold e_strings_Trim at h
  split at h
  · rw [s_strings_Trim_eq] at h; exact h
  · cases h
theorem e_strings_Trim_nat : EntNat e_strings_Trim := by
  intro c hn N vs H τ q
  unfold e_strings_Trim
  split
  · rw [s_strings_Trim_eq, s_strings_Trim_eq]; exact funK_ent hn _ _ _ _ _ _
  · rfl
/-- ostiary/ostiarybook.Same[ostiary/api.Header] -/
def fn_book_Same_Header : Fun := ⟨2, (.seq (.reg [iR 4 (.p .mv) [(.c (.bool false))]]) (.keep [0, 1] (.seq (.seq (.reg [iR 6 (.p .mv) [(.t 0)], iR 7 (.p .len) [(.t 6)], iR 8 (.p .mv) [(.t 1)], iR 9 (.p .len) [(.t 8)], iR 10 (.p (.bin .neq)) [(.t 7), (.t 9)]]) (.keep [0, 1, 10] (.cond (.t 10) (.seq (.reg [iR 4 (.p .mv) [(.c (.bool false))]]) (.keep [4] (.keep [4] .ret))) .skip))) (.keep [0, 1] (.seq (.seq (.reg [iR 5 (.p .mv) [(.c (.int .i64 (.ofNat 0)))]]) (.keep [0, 1, 5] (.block 0 (.loop (.keep [0, 1, 5] (.seq (.seq (.reg [iR 11 (.p .mv) [(.t 5)], iR 12 (.p .mv) [(.t 0)], iR 13 (.p .len) [(.t 12)], iR 14 (.p (.bin .lss)) [(.t 11), (.t 13)]]) (.keep [0, 1, 5, 14] (.cond (.t 14) .skip (.keep [] (.exit 0))))) (.keep [0, 1, 5] (.seq (.block 1 (.seq (.draw [iR 17 (.p .mv) [(.t 0)], iR 18 (.p .mv) [(.t 5)], iR 19 (.p (.slIdx 2)) [(.t 17), (.t 18)],
    iR 20 (.l (.load (some 2))) [(.t 19)], iR 21 (.p .mv) [(.t 1)], iR 22 (.p .mv) [(.t 5)], iR 23 (.p (.slIdx 2)) [(.t 21), (.t 22)], iR 24 (.l (.load (some 2))) [(.t 23)], iR 25 (.p (.eq true (.flat [.str, .str]))) [(.t 20), (.t 24)]]) (.keep [0, 1, 5, 25] (.cond (.t 25) (.seq (.reg [iR 4 (.p .mv) [(.c (.bool false))]]) (.keep [4] (.keep [4] .ret))) .skip)))) (.keep [0, 1, 5] (.reg [iR 15 (.p .mv) [(.t 5)], iR 16 (.p (.bin .add)) [(.t 15), (.c (.int .i64 (.ofNat 1)))], iR 5 (.p .mv) [(.t 16)]])))))))))) (.keep [] (.seq (.reg [iR 4 (.p .mv) [(.c (.bool true))]]) (.keep [4] (.keep [4] .ret))))))))), [(.t 4)]⟩
def s_book_Same_Header_j0 (call : CallK) (N : Nat) (q : KV) (st : St) (τ : Tape) : Ans := match st with
  | ⟨fr, H⟩ => q (.bool true) H τ
def s_book_Same_Header_l1 (call : CallK) (N : Nat) (st : St) (τ : Tape) (k : KC) : Ans := match st with
  | ⟨fr, H⟩ => getK fr 0 fun t0 => getK fr 1 fun t1 => getK fr 5 fun t5 => someK (pLen [t0]) fun v3 => binK .lss t5 v3 fun v4 => condK v4 (someK (pSlIdx 2 [t0, t5]) fun v5 => someK (lLoadN 2 [v5] H) fun v6 => someK (pSlIdx 2 [t1, t5]) fun v7 => someK (lLoadN 2 [v7] H) fun v8 => someK (pEq true (.flat [.str, .str]) [v6, v8]) fun v9 => condK v9 (k .ret ⟨(T.set .leaf 4 (.bool false)), H⟩ τ) (binK .add t5 (.int .i64 (.ofNat 1)) fun v10 => k .normal ⟨(T.set (T.set (T.set (T.set (T.set (T.set .leaf 0 t0) 1 t1) 5 t5) 15 t5) 16 v10) 5 v10), H⟩ τ)) (k (.exit 0) ⟨.leaf, H⟩ τ)
def s_book_Same_Header (call : CallK) (N : Nat) (a0 a1 : V) (H : Heap) (τ : Tape) (q : KV) : Ans := someK (pLen [a0]) fun v0 => someK (pLen [a1]) fun v1 => binK .neq v0 v1 fun v2 => condK v2 (q (.bool false) H τ) (loopK (s_book_Same_Header_l1 call N) N ⟨(T.set (T.set (T.set .leaf 0 a0) 1 a1) 5 (.int .i64 (.ofNat 0))), H⟩ τ (blockK 0 (seqK (s_book_Same_Header_j0 call N q) (endK [(.t 4)] q))))
theorem s_book_Same_Header_eq (call : CallK) (N : Nat) (a0 a1 : V) (H : Heap) (τ : Tape) (q : KV) : s_book_Same_Header call N a0 a1 H τ q = funK call N fn_book_Same_Header [a0, a1] H τ q := by kernel_rfl
def e_book_Same_Header (call : CallK) (N : Nat) (vs : List V) (H : Heap) (τ : Tape) (q : KV) : Ans := match vs with | [a0, a1] => s_book_Same_Header call N a0 a1 H τ q | _ => none
theorem e_book_Same_Header_ok : EntOk fn_book_Same_Header e_book_Same_Header := by
  intro call N vs H τ q r h
  unfold e_book_Same_Header at h
  split at h
  · rw [s_book_Same_Header_eq] at h; exact h
  · cases h
theorem e_book_Same_Header_nat : EntNat e_book_Same_Header := by
  intro c hn N vs H τ q
  unfold e_book_Same_Header
  split
  · rw [s_book_Same_Header_eq, s_book_Same_Header_eq]; exact funK_ent hn _ _ _ _ _ _
  · rfl
/-- slices.DeleteFunc[[]ostiary/api.Header,ostiary/api.Header] -/
def fn_slices_DeleteFunc_Header : Fun := ⟨2, (.seq (.reg [iR 4 (.p .mv) [(.c .nils)]]) (.keep [0, 1] (.seq (.reg [iR 8 (.p .mv) [(.t 0)], iR 9 (.p .mv) [(.t 1)], iR 10 (.call 20) [(.t 8), (.t 9)], iR 5 (.p .mv) [(.t 10)]]) (.keep [0, 1, 5] (.seq (.seq (.reg [iR 11 (.p .mv) [(.t 5)], iR 12 (.p (.bin .eql)) [(.t 11), (.c (.int .i64 (.negSucc 0)))]]) (.keep [0, 1, 5, 12] (.cond (.t 12) (.seq (.reg [iR 13 (.p .mv) [(.t 0)], iR 4 (.p .mv) [(.t 13)]]) (.keep [4] (.keep [4] .ret))) .skip))) (.keep [0, 1, 5] (.seq (.seq (.reg [iR 14 (.p .mv) [(.t 5)], iR 15 (.p (.bin .add)) [(.t 14), (.c (.int .i64 (.ofNat 1)))], iR 6 (.p .mv) [(.t 15)]]) (.keep [0, 1, 5, 6] (.block 0 (.loop (.keep [0, 1, 5, 6] (.seq (.seq (.reg [iR 16 (.p .mv) [(.t 6)], iR 17 (.p .mv) [(.t 0)], iR 18 (.p .len) [(.t 17)], iR 19 (.p (.bin .lss)) [(.t 16), (.t 18)]]) (.keep [0, 1, 5, 6, 19] (.cond (.t 19) .skip
    (.keep [0, 5] (.exit 0))))) (.keep [0, 1, 5, 6] (.seq (.block 1 (.seq (.reg [iR 22 (.p .mv) [(.t 0)], iR 23 (.p .mv) [(.t 6)], iR 24 (.p (.slIdx 2)) [(.t 22), (.t 23)], iR 25 (.l (.load (some 2))) [(.t 24)], iR 7 (.e (.alloc [(.str []), (.str [])])) [], ⟨none, none, (.e (.store 2)), [(.t 7), (.t 25)], none⟩]) (.keep [0, 1, 5, 6, 7] (.seq (.reg [iR 26 (.p .mv) [(.t 1)], iR 27 (.l (.load (some 2))) [(.t 7)], iR 28 .callv [(.t 26), (.t 27)], iR 29 (.p (.un .not)) [(.t 28)]]) (.keep [0, 1, 5, 6, 7, 29] (.cond (.t 29) (.seq (.reg [iR 30 (.p .mv) [(.t 0)], iR 31 (.p .mv) [(.t 5)], iR 32 (.l (.load (some 2))) [(.t 7)], iR 33 (.p (.slIdx 2)) [(.t 30), (.t 31)], ⟨none, none, (.e (.store 2)), [(.t 33), (.t 32)], none⟩]) (.keep [0, 1, 5, 6] (.reg [iR 34 (.p .mv) [(.t 5)], iR 35 (.p (.bin .add)) [(.t 34), (.c (.int .i64 (.ofNat 1)))], iR 5 (.p .mv) [(.t 35)]]))) .skip))))))
    (.keep [0, 1, 5, 6] (.reg [iR 20 (.p .mv) [(.t 6)], iR 21 (.p (.bin .add)) [(.t 20), (.c (.int .i64 (.ofNat 1)))], iR 6 (.p .mv) [(.t 21)]])))))))))) (.keep [0, 5] (.seq (.reg [iR 36 (.p .mv) [(.t 0)], iR 37 (.p .mv) [(.t 5)], iR 38 (.p (.slSlice 2 true false false)) [(.t 36), (.t 37)], ⟨none, none, (.e (.clear 2 [(.str []), (.str [])])), [(.t 38)], none⟩]) (.keep [0, 5] (.seq (.reg [iR 39 (.p .mv) [(.t 0)], iR 40 (.p .mv) [(.t 5)], iR 41 (.p (.slSlice 2 false true false)) [(.t 39), (.t 40)], iR 4 (.p .mv) [(.t 41)]]) (.keep [4] (.keep [4] .ret))))))))))))), [(.t 4)]⟩
def s_slices_DeleteFunc_Header_j0 (call : CallK) (N : Nat) (q : KV) (st : St) (τ : Tape) : Ans := match st with
  | ⟨fr, H⟩ => getK fr 0 fun t0 => getK fr 5 fun t5 => someK (pSlSlice 2 true false false [t0, t5]) fun v5 => effK (eClear 2 [(.str []), (.str [])] [v5] H τ) fun v6 H7 τ8 => someK (pSlSlice 2 false true false [t0, t5]) fun v9 => q v9 H7 τ8
def s_slices_DeleteFunc_Header_j2 (call : CallK) (N : Nat) (k : KC) (st : St) (τ : Tape) : Ans := match st with
  | ⟨fr, H⟩ => getK fr 0 fun t0 => getK fr 1 fun t1 => getK fr 5 fun t5 => getK fr 6 fun t6 => binK .add t6 (.int .i64 (.ofNat 1)) fun v12 => k .normal ⟨(T.set (T.set (T.set (T.set (T.set (T.set (T.set .leaf 0 t0) 1 t1) 5 t5) 6 t6) 20 t6) 21 v12) 6 v12), H⟩ τ
def s_slices_DeleteFunc_Header_l1 (call : CallK) (N : Nat) (st : St) (τ : Tape) (k : KC) : Ans := match st with
  | ⟨fr, H⟩ => getK fr 0 fun t0 => getK fr 1 fun t1 => getK fr 5 fun t5 => getK fr 6 fun t6 => someK (pLen [t0]) fun v10 => binK .lss t6 v10 fun v11 => condK v11 (someK (pSlIdx 2 [t0, t6]) fun v13 => someK (lLoadN 2 [v13] H) fun v14 => effK (eAlloc [(.str []), (.str [])] [] H τ) fun v15 H16 τ17 => effK (eStore 2 [v15, v14] H16 τ17) fun v18 H19 τ20 => someK (lLoadN 2 [v15] H19) fun v21 => opK call .callv [t1, v21] H19 τ20 fun v22 H23 τ24 => unK .not v22 fun v25 => condK v25 (someK (lLoadN 2 [v15] H23) fun v26 => someK (pSlIdx 2 [t0, t5]) fun v27 => effK (eStore 2 [v27, v26] H23 τ24) fun v28 H29 τ30 => binK .add t5 (.int .i64 (.ofNat 1)) fun v31 => s_slices_DeleteFunc_Header_j2 call N k ⟨(T.set (T.set (T.set (T.set (T.set (T.set (T.set .leaf 0 t0) 1 t1) 5 t5) 6 t6) 34 t5) 35 v31) 5 v31), H29⟩ τ30)
    (s_slices_DeleteFunc_Header_j2 call N k ⟨(T.set (T.set (T.set (T.set (T.set (T.set .leaf 0 t0) 1 t1) 5 t5) 6 t6) 7 v15) 29 v25), H23⟩ τ24)) (k (.exit 0) ⟨(T.set (T.set .leaf 0 t0) 5 t5), H⟩ τ)
def s_slices_DeleteFunc_Header (call : CallK) (N : Nat) (a0 a1 : V) (H : Heap) (τ : Tape) (q : KV) : Ans := call f_slices_IndexFunc_Header [a0, a1] H τ fun v0 H1 τ2 => binK .eql v0 (.int .i64 (.negSucc 0)) fun v3 => condK v3 (q a0 H1 τ2) (binK .add v0 (.int .i64 (.ofNat 1)) fun v4 => loopK (s_slices_DeleteFunc_Header_l1 call N) N ⟨(T.set (T.set (T.set (T.set .leaf 0 a0) 1 a1) 5 v0) 6 v4), H1⟩ τ2 (blockK 0 (seqK (s_slices_DeleteFunc_Header_j0 call N q) (endK [(.t 4)] q))))
theorem s_slices_DeleteFunc_Header_eq (call : CallK) (N : Nat) (a0 a1 : V) (H : Heap) (τ : Tape) (q : KV) : s_slices_DeleteFunc_Header call N a0 a1 H τ q = funK call N fn_slices_DeleteFunc_Header [a0, a1] H τ q := by kernel_rfl
def e_slices_DeleteFunc_Header (call : CallK) (N : Nat) (vs : List V) (H : Heap) (τ : Tape) (q : KV) : Ans := match vs with | [a0, a1] => s_slices_DeleteFunc_Header call N a0 a1 H τ q | _ => none
theorem e_slices_DeleteFunc_Header_ok : EntOk fn_slices_DeleteFunc_Header e_slices_DeleteFunc_Header := by
  intro call N vs H τ q r h
  unfold e_slices_DeleteFunc_Header at h
  split at h
  · rw [s_slices_DeleteFunc_Header_eq] at h; exact h
  · cases h
theorem e_slices_DeleteFunc_Header_nat : EntNat e_slices_DeleteFunc_Header := by
  intro c hn N vs H τ q
  unfold e_slices_DeleteFunc_Header
  split
  · rw [s_slices_DeleteFunc_Header_eq, s_slices_DeleteFunc_Header_eq]; exact funK_ent hn _ _ _ _ _ _
  · rfl
/-- ostiary/headers.Drop$1 -/
def fn_headers_Drop_1 : Fun := ⟨2, (.seq (.reg [iR 2 (.e .box) [(.t 0)], iR 3 (.p .mv) [(.c (.bool false))]]) (.keep [1, 2] (.seq (.reg [iR 4 (.l (.load (some 2))) [(.t 2)], iR 5 (.l (.load none)) [(.t 1)], iR 6 (.call 22) [(.t 4), (.t 5)], iR 3 (.p .mv) [(.t 6)]]) (.keep [3] (.keep [3] .ret))))), [(.t 3)]⟩
def s_headers_Drop_1 (call : CallK) (N : Nat) (a0 a1 : V) (H : Heap) (τ : Tape) (q : KV) : Ans := effK (eBox [a0] H τ) fun v0 H1 τ2 => someK (lLoadN 2 [v0] H1) fun v3 => someK (lLoad1 [a1] H1) fun v4 => call f_headers_is [v3, v4] H1 τ2 fun v5 H6 τ7 => q v5 H6 τ7
theorem s_headers_Drop_1_eq (call : CallK) (N : Nat) (a0 a1 : V) (H : Heap) (τ : Tape) (q : KV) : s_headers_Drop_1 call N a0 a1 H τ q = funK call N fn_headers_Drop_1 [a0, a1] H τ q := by kernel_rfl
def e_headers_Drop_1 (call : CallK) (N : Nat) (vs : List V) (H : Heap) (τ : Tape) (q : KV) : Ans := match vs with | [a0, a1] => s_headers_Drop_1 call N a0 a1 H τ q | _ => none
theorem e_headers_Drop_1_ok : EntOk fn_headers_Drop_1 e_headers_Drop_1 := by
  intro call N vs H τ q r h
  unfold e_headers_Drop_1 at h
  split at h
  · rw [s_headers_Drop_1_eq] at h; exact h
  · cases h
theorem e_headers_Drop_1_nat : EntNat e_headers_Drop_1 := by
  intro c hn N vs H τ q
  unfold e_headers_Drop_1
  split
  · rw [s_headers_Drop_1_eq, s_headers_Drop_1_eq]; exact funK_ent hn _ _ _ _ _ _
  · rfl
/-- ostiary/infra.Lower -/
def fn_infra_Lower : Fun := ⟨1, (.seq (.reg [iR 2 (.p .mv) [(.c (.str []))]]) (.keep [0] (.seq (.reg [iR 3 (.p .mv) [(.t 0)], iR 4 (.call 46) [(.t 3), (.c (.func 47 [] []))], iR 2 (.p .mv) [(.t 4)]]) (.keep [2] (.keep [2] .ret))))), [(.t 2)]⟩
def s_infra_Lower (call : CallK) (N : Nat) (a0 : V) (H : Heap) (τ : Tape) (q : KV) : Ans := call f_infra_mapped [a0, (.func f_infra_Lower_1 [] [])] H τ fun v0 H1 τ2 => q v0 H1 τ2
theorem s_infra_Lower_eq (call : CallK) (N : Nat) (a0 : V) (H : Heap) (τ : Tape) (q : KV) : s_infra_Lower call N a0 H τ q = funK call N fn_infra_Lower [a0] H τ q := by kernel_rfl
def e_infra_Lower (call : CallK) (N : Nat) (vs : List V) (H : Heap) (τ : Tape) (q : KV) : Ans := match vs with | [a0] => s_infra_Lower call N a0 H τ q | _ => none
theorem e_infra_Lower_ok : EntOk fn_infra_Lower e_infra_Lower := by
  intro call N vs H τ q r h
  unfold e_infra_Lower at h
  split at h
  · rw [s_infra_Lower_eq] at h; exact h
  · cases h
theorem e_infra_Lower_nat : EntNat e_infra_Lower := by
  intro c hn N vs H τ q
  unfold e_infra_Lower
  split
  · rw [s_infra_Lower_eq, s_infra_Lower_eq]; exact funK_ent hn _ _ _ _ _ _
  · rfl
/-- ostiary/ostiarybook.Same[string] -/
def fn_book_Same_string : Fun := ⟨2, (.seq (.reg [iR 4 (.p .mv) [(.c (.bool false))]]) (.keep [0, 1] (.seq (.seq (.reg [iR 6 (.p .mv) [(.t 0)], iR 7 (.p .len) [(.t 6)], iR 8 (.p .mv) [(.t 1)], iR 9 (.p .len) [(.t 8)], iR 10 (.p (.bin .neq)) [(.t 7), (.t 9)]]) (.keep [0, 1, 10] (.cond (.t 10) (.seq (.reg [iR 4 (.p .mv) [(.c (.bool false))]]) (.keep [4] (.keep [4] .ret))) .skip))) (.keep [0, 1] (.seq (.seq (.reg [iR 5 (.p .mv) [(.c (.int .i64 (.ofNat 0)))]]) (.keep [0, 1, 5] (.block 0 (.loop (.keep [0, 1, 5] (.seq (.seq (.reg [iR 11 (.p .mv) [(.t 5)], iR 12 (.p .mv) [(.t 0)], iR 13 (.p .len) [(.t 12)], iR 14 (.p (.bin .lss)) [(.t 11), (.t 13)]]) (.keep [0, 1, 5, 14] (.cond (.t 14) .skip (.keep [] (.exit 0))))) (.keep [0, 1, 5] (.seq (.block 1 (.seq (.draw [iR 17 (.p .mv) [(.t 0)], iR 18 (.p .mv) [(.t 5)], iR 19 (.p (.slIdx 1)) [(.t 17), (.t 18)], iR 20 (.l (.load none)) [(.t 19)],
    iR 21 (.p .mv) [(.t 1)], iR 22 (.p .mv) [(.t 5)], iR 23 (.p (.slIdx 1)) [(.t 21), (.t 22)], iR 24 (.l (.load none)) [(.t 23)], iR 25 (.p (.bin .neq)) [(.t 20), (.t 24)]]) (.keep [0, 1, 5, 25] (.cond (.t 25) (.seq (.reg [iR 4 (.p .mv) [(.c (.bool false))]]) (.keep [4] (.keep [4] .ret))) .skip)))) (.keep [0, 1, 5] (.reg [iR 15 (.p .mv) [(.t 5)], iR 16 (.p (.bin .add)) [(.t 15), (.c (.int .i64 (.ofNat 1)))], iR 5 (.p .mv) [(.t 16)]])))))))))) (.keep [] (.seq (.reg [iR 4 (.p .mv) [(.c (.bool true))]]) (.keep [4] (.keep [4] .ret))))))))), [(.t 4)]⟩
def s_book_Same_string_j0 (call : CallK) (N : Nat) (q : KV) (st : St) (τ : Tape) : Ans := match st with
  | ⟨fr, H⟩ => q (.bool true) H τ
def s_book_Same_string_l1 (call : CallK) (N : Nat) (st : St) (τ : Tape) (k : KC) : Ans := match st with
  | ⟨fr, H⟩ => getK fr 0 fun t0 => getK fr 1 fun t1 => getK fr 5 fun t5 => someK (pLen [t0]) fun v3 => binK .lss t5 v3 fun v4 => condK v4 (someK (pSlIdx 1 [t0, t5]) fun v5 => someK (lLoad1 [v5] H) fun v6 => someK (pSlIdx 1 [t1, t5]) fun v7 => someK (lLoad1 [v7] H) fun v8 => binK .neq v6 v8 fun v9 => condK v9 (k .ret ⟨(T.set .leaf 4 (.bool false)), H⟩ τ) (binK .add t5 (.int .i64 (.ofNat 1)) fun v10 => k .normal ⟨(T.set (T.set (T.set (T.set (T.set (T.set .leaf 0 t0) 1 t1) 5 t5) 15 t5) 16 v10) 5 v10), H⟩ τ)) (k (.exit 0) ⟨.leaf, H⟩ τ)
def s_book_Same_string (call : CallK) (N : Nat) (a0 a1 : V) (H : Heap) (τ : Tape) (q : KV) : Ans := someK (pLen [a0]) fun v0 => someK (pLen [a1]) fun v1 => binK .neq v0 v1 fun v2 => condK v2 (q (.bool false) H τ) (loopK (s_book_Same_string_l1 call N) N ⟨(T.set (T.set (T.set .leaf 0 a0) 1 a1) 5 (.int .i64 (.ofNat 0))), H⟩ τ (blockK 0 (seqK (s_book_Same_string_j0 call N q) (endK [(.t 4)] q))))
theorem s_book_Same_string_eq (call : CallK) (N : Nat) (a0 a1 : V) (H : Heap) (τ : Tape) (q : KV) : s_book_Same_string call N a0 a1 H τ q = funK call N fn_book_Same_string [a0, a1] H τ q := by kernel_rfl
def e_book_Same_string (call : CallK) (N : Nat) (vs : List V) (H : Heap) (τ : Tape) (q : KV) : Ans := match vs with | [a0, a1] => s_book_Same_string call N a0 a1 H τ q | _ => none
theorem e_book_Same_string_ok : EntOk fn_book_Same_string e_book_Same_string := by
  intro call N vs H τ q r h
  unfold e_book_Same_string at h
  split at h
  · rw [s_book_Same_string_eq] at h; exact h
  · cases h
theorem e_book_Same_string_nat : EntNat e_book_Same_string := by
  intro c hn N vs H τ q
  unfold e_book_Same_string
  split
  · rw [s_book_Same_string_eq, s_book_Same_string_eq]; exact funK_ent hn _ _ _ _ _ _
  · rfl
/-- (*ostiary/ostiarybook.Book[ostiary/api.Header]).Stays -/
def fn_book_Book_Header_Stays : Fun := ⟨1, (.seq (.reg [iR 2 (.p .mv) [(.c (.bool false))]]) (.keep [0] (.seq (.seq (.reg [iR 3 (.p .mv) [(.c (.int .i64 (.ofNat 0)))]]) (.keep [0, 3] (.block 0 (.loop (.keep [0, 3] (.seq (.seq (.reg [iR 4 (.p .mv) [(.t 3)], iR 5 (.p .mv) [(.t 0)], iR 6 (.p .nilck) [(.t 5)], iR 7 (.p (.fieldAddr 0)) [(.t 6)], iR 8 (.l (.load none)) [(.t 7)], iR 9 (.p .len) [(.t 8)], iR 10 (.p (.bin .lss)) [(.t 4), (.t 9)]]) (.keep [0, 3, 10] (.cond (.t 10) .skip (.keep [0] (.exit 0))))) (.keep [0, 3] (.seq (.block 1 (.draw [iR 13 (.p .mv) [(.t 0)], iR 14 (.p .mv) [(.t 0)], iR 15 (.p .nilck) [(.t 14)], iR 16 (.p (.fieldAddr 3)) [(.t 15)], iR 17 (.l (.load none)) [(.t 16)], iR 18 (.p .mv) [(.t 17)], iG 19 18 false (.p .mv) [(.t 0)], iG 20 18 false (.p .nilck) [(.t 19)], iG 21 18 false (.p (.fieldAddr 0)) [(.t 20)], iG 22 18 false (.l (.load none)) [(.t 21)],
    iG 23 18 false (.p .mv) [(.t 3)], iG 24 18 false (.p (.slIdx 1)) [(.t 22), (.t 23)], iG 25 18 false (.l (.load none)) [(.t 24)], iG 26 18 false (.p .mv) [(.t 0)], iG 27 18 false (.p .nilck) [(.t 26)], iG 28 18 false (.p (.fieldAddr 1)) [(.t 27)], iG 29 18 false (.l (.load none)) [(.t 28)], iG 30 18 false (.p .mv) [(.t 3)], iG 31 18 false (.p (.slIdx 1)) [(.t 29), (.t 30)], iG 32 18 false (.l (.load none)) [(.t 31)], iG 33 18 false (.call 25) [(.t 25), (.t 32)], iG 34 18 false (.p (.un .not)) [(.t 33)], iR 35 (.p .pick) [(.t 18), (.c (.bool true)), (.t 34)], iR 36 (.p .nilck) [(.t 13)], iR 37 (.p (.fieldAddr 3)) [(.t 36)], ⟨none, none, (.e (.store 1)), [(.t 37), (.t 35)], none⟩])) (.keep [0, 3] (.reg [iR 11 (.p .mv) [(.t 3)], iR 12 (.p (.bin .add)) [(.t 11), (.c (.int .i64 (.ofNat 1)))], iR 3 (.p .mv) [(.t 12)]])))))))))) (.keep [0] (.seq (.reg [iR 38 (.p .mv) [(.t 0)],
    iR 39 (.p .nilck) [(.t 38)], iR 40 (.p (.fieldAddr 3)) [(.t 39)], iR 41 (.l (.load none)) [(.t 40)], iR 42 (.p (.un .not)) [(.t 41)], iR 2 (.p .mv) [(.t 42)]]) (.keep [2] (.keep [2] .ret))))))), [(.t 2)]⟩
def s_book_Book_Header_Stays_j0 (call : CallK) (N : Nat) (q : KV) (st : St) (τ : Tape) : Ans := match st with
  | ⟨fr, H⟩ => getK fr 0 fun t0 => someK (pNilck [t0]) fun v0 => someK (pFieldAddr 3 [v0]) fun v1 => someK (lLoad1 [v1] H) fun v2 => unK .not v2 fun v3 => q v3 H τ
def s_book_Book_Header_Stays_l1 (call : CallK) (N : Nat) (st : St) (τ : Tape) (k : KC) : Ans := match st with
  | ⟨fr, H⟩ => getK fr 0 fun t0 => getK fr 3 fun t3 => someK (pNilck [t0]) fun v4 => someK (pFieldAddr 0 [v4]) fun v5 => someK (lLoad1 [v5] H) fun v6 => someK (pLen [v6]) fun v7 => binK .lss t3 v7 fun v8 => condK v8 (someK (pNilck [t0]) fun v9 => someK (pFieldAddr 3 [v9]) fun v10 => someK (lLoad1 [v10] H) fun v11 => gK v11 false (fun q' => q' t0 H τ) H τ fun v12 H13 τ14 => gK v11 false (fun q' => someK (pNilck [v12]) fun v => q' v H13 τ14) H13 τ14 fun v15 H16 τ17 => gK v11 false (fun q' => someK (pFieldAddr 0 [v15]) fun v => q' v H16 τ17) H16 τ17 fun v18 H19 τ20 => gK v11 false (fun q' => someK (lLoad1 [v18] H19) fun v => q' v H19 τ20) H19 τ20 fun v21 H22 τ23 => gK v11 false (fun q' => q' t3 H22 τ23) H22 τ23 fun v24 H25 τ26 => gK v11 false (fun q' => someK (pSlIdx 1 [v21, v24]) fun v => q' v H25 τ26) H25 τ26 fun v27 H28 τ29 =>
    gK v11 false (fun q' => someK (lLoad1 [v27] H28) fun v => q' v H28 τ29) H28 τ29 fun v30 H31 τ32 => gK v11 false (fun q' => q' t0 H31 τ32) H31 τ32 fun v33 H34 τ35 => gK v11 false (fun q' => someK (pNilck [v33]) fun v => q' v H34 τ35) H34 τ35 fun v36 H37 τ38 => gK v11 false (fun q' => someK (pFieldAddr 1 [v36]) fun v => q' v H37 τ38) H37 τ38 fun v39 H40 τ41 => gK v11 false (fun q' => someK (lLoad1 [v39] H40) fun v => q' v H40 τ41) H40 τ41 fun v42 H43 τ44 => gK v11 false (fun q' => q' t3 H43 τ44) H43 τ44 fun v45 H46 τ47 => gK v11 false (fun q' => someK (pSlIdx 1 [v42, v45]) fun v => q' v H46 τ47) H46 τ47 fun v48 H49 τ50 => gK v11 false (fun q' => someK (lLoad1 [v48] H49) fun v => q' v H49 τ50) H49 τ50 fun v51 H52 τ53 => gK v11 false (fun q' => call f_book_Same_Header [v30, v51] H52 τ53 q') H52 τ53 fun v54 H55 τ56 =>
    gK v11 false (fun q' => unK .not v54 fun v => q' v H55 τ56) H55 τ56 fun v57 H58 τ59 => someK (pPick [v11, (.bool true), v57]) fun v60 => someK (pNilck [t0]) fun v61 => someK (pFieldAddr 3 [v61]) fun v62 => effK (eStore 1 [v62, v60] H58 τ59) fun v63 H64 τ65 => binK .add t3 (.int .i64 (.ofNat 1)) fun v66 => k .normal ⟨(T.set (T.set (T.set (T.set (T.set .leaf 0 t0) 3 t3) 11 t3) 12 v66) 3 v66), H64⟩ τ65) (k (.exit 0) ⟨(T.set .leaf 0 t0), H⟩ τ)
def s_book_Book_Header_Stays (call : CallK) (N : Nat) (a0 : V) (H : Heap) (τ : Tape) (q : KV) : Ans := loopK (s_book_Book_Header_Stays_l1 call N) N ⟨(T.set (T.set .leaf 0 a0) 3 (.int .i64 (.ofNat 0))), H⟩ τ (blockK 0 (seqK (s_book_Book_Header_Stays_j0 call N q) (endK [(.t 2)] q)))
theorem s_book_Book_Header_Stays_eq (call : CallK) (N : Nat) (a0 : V) (H : Heap) (τ : Tape) (q : KV) : s_book_Book_Header_Stays call N a0 H τ q = funK call N fn_book_Book_Header_Stays [a0] H τ q := by kernel_rfl
def e_book_Book_Header_Stays (call : CallK) (N : Nat) (vs : List V) (H : Heap) (τ : Tape) (q : KV) : Ans := match vs with | [a0] => s_book_Book_Header_Stays call N a0 H τ q | _ => none
theorem e_book_Book_Header_Stays_ok : EntOk fn_book_Book_Header_Stays e_book_Book_Header_Stays := by
  intro call N vs H τ q r h
  unfold e_book_Book_Header_Stays at h
  split at h
  · rw [s_book_Book_Header_Stays_eq] at h; exact h
  · cases h
theorem e_book_Book_Header_Stays_nat : EntNat e_book_Book_Header_Stays := by
  intro c hn N vs H τ q
  unfold e_book_Book_Header_Stays
  split
  · rw [s_book_Book_Header_Stays_eq, s_book_Book_Header_Stays_eq]; exact funK_ent hn _ _ _ _ _ _
  · rfl
/-- ostiary/ostiarylaw5.h -/
def fn_law5_h : Fun := ⟨2, (.seq (.reg [iR 4 (.e (.alloc [(.str []), (.str [])])) []]) (.keep [0, 1, 4] (.seq (.reg [iR 5 (.p .mv) [(.t 0)], iR 6 (.p .mv) [(.t 1)], iR 7 (.p (.build [(.str []), (.str [])] [(0, 1), (1, 1)])) [(.t 5), (.t 6)], ⟨none, none, (.e (.store 2)), [(.t 4), (.t 7)], none⟩]) (.keep [4] (.keep [4] .ret))))), [(.cell 4 (some 2))]⟩
def s_law5_h (call : CallK) (N : Nat) (a0 a1 : V) (H : Heap) (τ : Tape) (q : KV) : Ans := effK (eAlloc [(.str []), (.str [])] [] H τ) fun v0 H1 τ2 => someK (pBuild [(.str []), (.str [])] [(0, 1), (1, 1)] [a0, a1]) fun v3 => effK (eStore 2 [v0, v3] H1 τ2) fun v4 H5 τ6 => someK (results ⟨(T.set .leaf 4 v0), H5⟩ [(.cell 4 (some 2))]) fun v => q v H5 τ6
theorem s_law5_h_eq (call : CallK) (N : Nat) (a0 a1 : V) (H : Heap) (τ : Tape) (q : KV) : s_law5_h call N a0 a1 H τ q = funK call N fn_law5_h [a0, a1] H τ q := by kernel_rfl
def e_law5_h (call : CallK) (N : Nat) (vs : List V) (H : Heap) (τ : Tape) (q : KV) : Ans := match vs with | [a0, a1] => s_law5_h call N a0 a1 H τ q | _ => none
theorem e_law5_h_ok : EntOk fn_law5_h e_law5_h := by
  intro call N vs H τ q r h
  unfold e_law5_h at h
  split at h
  · rw [s_law5_h_eq] at h; exact h
  · cases h
theorem e_law5_h_nat : EntNat e_law5_h := by
  intro c hn N vs H τ q
  unfold e_law5_h
  split
  · rw [s_law5_h_eq, s_law5_h_eq]; exact funK_ent hn _ _ _ _ _ _
  · rfl
/-- (*ostiary/ostiarybook.Book[string]).Stays -/
def fn_book_Book_string_Stays : Fun := ⟨1, (.seq (.reg [iR 2 (.p .mv) [(.c (.bool false))]]) (.keep [0] (.seq (.seq (.reg [iR 3 (.p .mv) [(.c (.int .i64 (.ofNat 0)))]]) (.keep [0, 3] (.block 0 (.loop (.keep [0, 3] (.seq (.seq (.reg [iR 4 (.p .mv) [(.t 3)], iR 5 (.p .mv) [(.t 0)], iR 6 (.p .nilck) [(.t 5)], iR 7 (.p (.fieldAddr 0)) [(.t 6)], iR 8 (.l (.load none)) [(.t 7)], iR 9 (.p .len) [(.t 8)], iR 10 (.p (.bin .lss)) [(.t 4), (.t 9)]]) (.keep [0, 3, 10] (.cond (.t 10) .skip (.keep [0] (.exit 0))))) (.keep [0, 3] (.seq (.block 1 (.draw [iR 13 (.p .mv) [(.t 0)], iR 14 (.p .mv) [(.t 0)], iR 15 (.p .nilck) [(.t 14)], iR 16 (.p (.fieldAddr 3)) [(.t 15)], iR 17 (.l (.load none)) [(.t 16)], iR 18 (.p .mv) [(.t 17)], iG 19 18 false (.p .mv) [(.t 0)], iG 20 18 false (.p .nilck) [(.t 19)], iG 21 18 false (.p (.fieldAddr 0)) [(.t 20)], iG 22 18 false (.l (.load none)) [(.t 21)],
    iG 23 18 false (.p .mv) [(.t 3)], iG 24 18 false (.p (.slIdx 1)) [(.t 22), (.t 23)], iG 25 18 false (.l (.load none)) [(.t 24)], iG 26 18 false (.p .mv) [(.t 0)], iG 27 18 false (.p .nilck) [(.t 26)], iG 28 18 false (.p (.fieldAddr 1)) [(.t 27)], iG 29 18 false (.l (.load none)) [(.t 28)], iG 30 18 false (.p .mv) [(.t 3)], iG 31 18 false (.p (.slIdx 1)) [(.t 29), (.t 30)], iG 32 18 false (.l (.load none)) [(.t 31)], iG 33 18 false (.call 31) [(.t 25), (.t 32)], iG 34 18 false (.p (.un .not)) [(.t 33)], iR 35 (.p .pick) [(.t 18), (.c (.bool true)), (.t 34)], iR 36 (.p .nilck) [(.t 13)], iR 37 (.p (.fieldAddr 3)) [(.t 36)], ⟨none, none, (.e (.store 1)), [(.t 37), (.t 35)], none⟩])) (.keep [0, 3] (.reg [iR 11 (.p .mv) [(.t 3)], iR 12 (.p (.bin .add)) [(.t 11), (.c (.int .i64 (.ofNat 1)))], iR 3 (.p .mv) [(.t 12)]])))))))))) (.keep [0] (.seq (.reg [iR 38 (.p .mv) [(.t 0)],
    iR 39 (.p .nilck) [(.t 38)], iR 40 (.p (.fieldAddr 3)) [(.t 39)], iR 41 (.l (.load none)) [(.t 40)], iR 42 (.p (.un .not)) [(.t 41)], iR 2 (.p .mv) [(.t 42)]]) (.keep [2] (.keep [2] .ret))))))), [(.t 2)]⟩
def s_book_Book_string_Stays_j0 (call : CallK) (N : Nat) (q : KV) (st : St) (τ : Tape) : Ans := match st with
  | ⟨fr, H⟩ => getK fr 0 fun t0 => someK (pNilck [t0]) fun v0 => someK (pFieldAddr 3 [v0]) fun v1 => someK (lLoad1 [v1] H) fun v2 => unK .not v2 fun v3 => q v3 H τ
def s_book_Book_string_Stays_l1 (call : CallK) (N : Nat) (st : St) (τ : Tape) (k : KC) : Ans := match st with
  | ⟨fr, H⟩ => getK fr 0 fun t0 => getK fr 3 fun t3 => someK (pNilck [t0]) fun v4 => someK (pFieldAddr 0 [v4]) fun v5 => someK (lLoad1 [v5] H) fun v6 => someK (pLen [v6]) fun v7 => binK .lss t3 v7 fun v8 => condK v8 (someK (pNilck [t0]) fun v9 => someK (pFieldAddr 3 [v9]) fun v10 => someK (lLoad1 [v10] H) fun v11 => gK v11 false (fun q' => q' t0 H τ) H τ fun v12 H13 τ14 => gK v11 false (fun q' => someK (pNilck [v12]) fun v => q' v H13 τ14) H13 τ14 fun v15 H16 τ17 => gK v11 false (fun q' => someK (pFieldAddr 0 [v15]) fun v => q' v H16 τ17) H16 τ17 fun v18 H19 τ20 => gK v11 false (fun q' => someK (lLoad1 [v18] H19) fun v => q' v H19 τ20) H19 τ20 fun v21 H22 τ23 => gK v11 false (fun q' => q' t3 H22 τ23) H22 τ23 fun v24 H25 τ26 => gK v11 false (fun q' => someK (pSlIdx 1 [v21, v24]) fun v => q' v H25 τ26) H25 τ26 fun v27 H28 τ29 =>
    gK v11 false (fun q' => someK (lLoad1 [v27] H28) fun v => q' v H28 τ29) H28 τ29 fun v30 H31 τ32 => gK v11 false (fun q' => q' t0 H31 τ32) H31 τ32 fun v33 H34 τ35 => gK v11 false (fun q' => someK (pNilck [v33]) fun v => q' v H34 τ35) H34 τ35 fun v36 H37 τ38 => gK v11 false (fun q' => someK (pFieldAddr 1 [v36]) fun v => q' v H37 τ38) H37 τ38 fun v39 H40 τ41 => gK v11 false (fun q' => someK (lLoad1 [v39] H40) fun v => q' v H40 τ41) H40 τ41 fun v42 H43 τ44 => gK v11 false (fun q' => q' t3 H43 τ44) H43 τ44 fun v45 H46 τ47 => gK v11 false (fun q' => someK (pSlIdx 1 [v42, v45]) fun v => q' v H46 τ47) H46 τ47 fun v48 H49 τ50 => gK v11 false (fun q' => someK (lLoad1 [v48] H49) fun v => q' v H49 τ50) H49 τ50 fun v51 H52 τ53 => gK v11 false (fun q' => call f_book_Same_string [v30, v51] H52 τ53 q') H52 τ53 fun v54 H55 τ56 =>
    gK v11 false (fun q' => unK .not v54 fun v => q' v H55 τ56) H55 τ56 fun v57 H58 τ59 => someK (pPick [v11, (.bool true), v57]) fun v60 => someK (pNilck [t0]) fun v61 => someK (pFieldAddr 3 [v61]) fun v62 => effK (eStore 1 [v62, v60] H58 τ59) fun v63 H64 τ65 => binK .add t3 (.int .i64 (.ofNat 1)) fun v66 => k .normal ⟨(T.set (T.set (T.set (T.set (T.set .leaf 0 t0) 3 t3) 11 t3) 12 v66) 3 v66), H64⟩ τ65) (k (.exit 0) ⟨(T.set .leaf 0 t0), H⟩ τ)
def s_book_Book_string_Stays (call : CallK) (N : Nat) (a0 : V) (H : Heap) (τ : Tape) (q : KV) : Ans := loopK (s_book_Book_string_Stays_l1 call N) N ⟨(T.set (T.set .leaf 0 a0) 3 (.int .i64 (.ofNat 0))), H⟩ τ (blockK 0 (seqK (s_book_Book_string_Stays_j0 call N q) (endK [(.t 2)] q)))
theorem s_book_Book_string_Stays_eq (call : CallK) (N : Nat) (a0 : V) (H : Heap) (τ : Tape) (q : KV) : s_book_Book_string_Stays call N a0 H τ q = funK call N fn_book_Book_string_Stays [a0] H τ q := by kernel_rfl
def e_book_Book_string_Stays (call : CallK) (N : Nat) (vs : List V) (H : Heap) (τ : Tape) (q : KV) : Ans := match vs with | [a0] => s_book_Book_string_Stays call N a0 H τ q | _ => none
theorem e_book_Book_string_Stays_ok : EntOk fn_book_Book_string_Stays e_book_Book_string_Stays := by
  intro call N vs H τ q r h
  unfold e_book_Book_string_Stays at h
  split at h
  · rw [s_book_Book_string_Stays_eq] at h; exact h
  · cases h
theorem e_book_Book_string_Stays_nat : EntNat e_book_Book_string_Stays := by
  intro c hn N vs H τ q
  unfold e_book_Book_string_Stays
  split
  · rw [s_book_Book_string_Stays_eq, s_book_Book_string_Stays_eq]; exact funK_ent hn _ _ _ _ _ _
  · rfl
/-- ostiary/headers.Safe -/
def fn_headers_Safe : Fun := ⟨2, (.seq (.reg [iR 4 (.p .mv) [(.c (.bool false))]]) (.keep [0, 1] (.seq (.seq (.reg [iR 11 (.p .mv) [(.t 1)], iR 12 (.p .lenS) [(.t 11)], iR 13 (.p (.bin .gtr)) [(.t 12), (.c (.int .i64 (.ofNat 128)))]]) (.keep [0, 1, 13] (.cond (.t 13) (.seq (.reg [iR 4 (.p .mv) [(.c (.bool false))]]) (.keep [4] (.keep [4] .ret))) .skip))) (.keep [0, 1] (.seq (.seq (.reg [iR 14 (.p .mv) [(.t 0)], iR 15 (.call 28) [(.t 14)]]) (.keep [1, 15] (.block 0 (.seq (.reg [iR 17 (.p (.bin .eql)) [(.t 15), (.c (.str (bs [97, 99, 99, 101, 112, 116])))], iR 16 (.p .mv) [(.t 17)]]) (.keep [1, 15, 16] (.cond (.t 16) (.seq (.reg [iR 18 (.p .mv) [(.t 1)], iR 19 (.call 50) [(.t 18)], iR 20 (.p (.un .not)) [(.t 19)], iR 4 (.p .mv) [(.t 20)]]) (.keep [4] (.keep [4] .ret)))
    (.seq (.seq (.reg [iR 22 (.p (.bin .eql)) [(.t 15), (.c (.str (bs [97, 99, 99, 101, 112, 116, 45, 108, 97, 110, 103, 117, 97, 103, 101])))], iR 21 (.p .mv) [(.t 22)]]) (.keep [1, 15, 21] (.cond (.t 21) .skip (.reg [iR 23 (.p (.bin .eql)) [(.t 15), (.c (.str (bs [99, 111, 110, 116, 101, 110, 116, 45, 108, 97, 110, 103, 117, 97, 103, 101])))], iR 21 (.p .mv) [(.t 23)]])))) (.keep [1, 15, 21] (.cond (.t 21) (.seq (.reg [iR 24 (.p .mv) [(.t 1)], iR 25 (.call 51) [(.t 24)], iR 4 (.p .mv) [(.t 25)]]) (.keep [4] (.keep [4] .ret))) (.seq (.reg [iR 27 (.p (.bin .eql)) [(.t 15), (.c (.str (bs [99, 111, 110, 116, 101, 110, 116, 45, 116, 121, 112, 101])))], iR 26 (.p .mv) [(.t 27)]]) (.keep [1, 15, 26] (.cond (.t 26) (.seq (.reg [iR 29 (.p .mv) [(.t 1)], iR 30 (.call 52) [(.t 29), (.c (.str (bs [59])))], iR 28 (.p .mv) [(.t 30)], iR 31 (.p (.extract 0)) [(.t 28)],
    iR 32 (.p (.extract 1)) [(.t 28)], iR 33 (.p (.extract 2)) [(.t 28)], iR 5 (.p .mv) [(.t 31)], iR 6 (.p .mv) [(.t 32)], iR 7 (.p .mv) [(.t 33)]]) (.keep [1, 5] (.seq (.reg [iR 34 (.p .mv) [(.t 5)], iR 35 (.call 53) [(.t 34)], iR 36 (.call 28) [(.t 35)]]) (.keep [1, 36] (.block 1 (.seq (.seq (.reg [iR 38 (.p (.bin .eql)) [(.t 36), (.c (.str (bs [97, 112, 112, 108, 105, 99, 97, 116, 105, 111, 110, 47, 120, 45, 119, 119, 119, 45, 102, 111, 114, 109, 45, 117, 114, 108, 101, 110, 99, 111, 100, 101, 100])))], iR 37 (.p .mv) [(.t 38)]]) (.keep [1, 36, 37] (.cond (.t 37) .skip (.seq (.reg [iR 39 (.p (.bin .eql)) [(.t 36), (.c (.str (bs [109, 117, 108, 116, 105, 112, 97, 114, 116, 47, 102, 111, 114, 109, 45, 100, 97, 116, 97])))], iR 37 (.p .mv) [(.t 39)]]) (.keep [1, 36, 37] (.cond (.t 37) .skip
    (.reg [iR 40 (.p (.bin .eql)) [(.t 36), (.c (.str (bs [116, 101, 120, 116, 47, 112, 108, 97, 105, 110])))], iR 37 (.p .mv) [(.t 40)]]))))))) (.keep [1, 37] (.cond (.t 37) (.seq (.reg [iR 41 (.p .mv) [(.t 1)], iR 42 (.call 50) [(.t 41)], iR 43 (.p (.un .not)) [(.t 42)], iR 4 (.p .mv) [(.t 43)]]) (.keep [4] (.keep [4] .ret))) .skip)))))))) (.seq (.reg [iR 45 (.p (.bin .eql)) [(.t 15), (.c (.str (bs [114, 97, 110, 103, 101])))], iR 44 (.p .mv) [(.t 45)]]) (.keep [1, 44] (.cond (.t 44) (.seq (.reg [iR 47 (.p .mv) [(.t 1)], iR 48 (.call 54) [(.t 47)], iR 46 (.p .mv) [(.t 48)], iR 49 (.p (.extract 0)) [(.t 46)], iR 50 (.p (.extract 1)) [(.t 46)], iR 51 (.p (.extract 2)) [(.t 46)], iR 8 (.p .mv) [(.t 49)], iR 9 (.p .mv) [(.t 50)], iR 10 (.p .mv) [(.t 51)]]) (.keep [8, 10] (.seq (.reg [iR 52 (.p .mv) [(.t 10)], iR 53 (.p .mv) [(.t 52)], iG 54 53 true (.p .mv) [(.t 8)],
    iG 55 53 true (.p (.bin .geq)) [(.t 54), (.c (.int .i64 (.ofNat 0)))], iR 56 (.p .pick) [(.t 53), (.t 55), (.c (.bool false))], iR 4 (.p .mv) [(.t 56)]]) (.keep [4] (.keep [4] .ret))))) .skip))))))))))))))) (.keep [] (.seq (.reg [iR 4 (.p .mv) [(.c (.bool false))]]) (.keep [4] (.keep [4] .ret))))))))), [(.t 4)]⟩
def s_headers_Safe_j0 (call : CallK) (N : Nat) (q : KV) (st : St) (τ : Tape) : Ans := match st with
  | ⟨fr, H⟩ => q (.bool false) H τ
def s_headers_Safe_j2 (call : CallK) (N : Nat) (q : KV) (st : St) (τ : Tape) : Ans := match st with
  | ⟨fr, H⟩ => getK fr 1 fun t1 => getK fr 37 fun t37 => condK t37 (call f_headers_unsafe [t1] H τ fun v28 H29 τ30 => unK .not v28 fun v31 => q v31 H29 τ30) (s_headers_Safe_j0 call N q ⟨(T.set (T.set .leaf 1 t1) 37 t37), H⟩ τ)
def s_headers_Safe_j1 (call : CallK) (N : Nat) (q : KV) (st : St) (τ : Tape) : Ans := match st with
  | ⟨fr, H⟩ => getK fr 1 fun t1 => getK fr 15 fun t15 => getK fr 21 fun t21 => condK t21 (call f_headers_tongues [t1] H τ fun v11 H12 τ13 => q v11 H12 τ13) (binK .eql t15 (.str (bs [99, 111, 110, 116, 101, 110, 116, 45, 116, 121, 112, 101])) fun v14 => condK v14 (call f_strings_Cut [t1, (.str (bs [59]))] H τ fun v15 H16 τ17 => someK (pExtract 0 [v15]) fun v18 => someK (pExtract 1 [v15]) fun v19 => someK (pExtract 2 [v15]) fun v20 => call f_infra_Strip [v18] H16 τ17 fun v21 H22 τ23 => call f_infra_Lower [v21] H22 τ23 fun v24 H25 τ26 => binK .eql v24 (.str (bs [97, 112, 112, 108, 105, 99, 97, 116, 105, 111, 110, 47, 120, 45, 119, 119, 119, 45, 102, 111, 114, 109, 45, 117, 114, 108, 101, 110, 99, 111, 100, 101, 100])) fun v27 => condK v27 (s_headers_Safe_j2 call N q ⟨(T.set (T.set (T.set .leaf 1 t1) 36 v24) 37 v27), H25⟩ τ26)
    (binK .eql v24 (.str (bs [109, 117, 108, 116, 105, 112, 97, 114, 116, 47, 102, 111, 114, 109, 45, 100, 97, 116, 97])) fun v32 => condK v32 (s_headers_Safe_j2 call N q ⟨(T.set (T.set (T.set .leaf 1 t1) 36 v24) 37 v32), H25⟩ τ26) (binK .eql v24 (.str (bs [116, 101, 120, 116, 47, 112, 108, 97, 105, 110])) fun v33 => s_headers_Safe_j2 call N q ⟨(T.set (T.set (T.set (T.set (T.set .leaf 1 t1) 36 v24) 37 v32) 40 v33) 37 v33), H25⟩ τ26))) (binK .eql t15 (.str (bs [114, 97, 110, 103, 101])) fun v34 => condK v34 (call f_headers_Range [t1] H τ fun v35 H36 τ37 => someK (pExtract 0 [v35]) fun v38 => someK (pExtract 1 [v35]) fun v39 => someK (pExtract 2 [v35]) fun v40 => gK v40 true (fun q' => q' v38 H36 τ37) H36 τ37 fun v41 H42 τ43 => gK v40 true (fun q' => binK .geq v41 (.int .i64 (.ofNat 0)) fun v => q' v H42 τ43) H42 τ43 fun v44 H45 τ46 => someK (pPick [v40, v44, (.bool false)]) fun v47 =>
    q v47 H45 τ46) (s_headers_Safe_j0 call N q ⟨(T.set (T.set .leaf 1 t1) 44 v34), H⟩ τ)))
def s_headers_Safe (call : CallK) (N : Nat) (a0 a1 : V) (H : Heap) (τ : Tape) (q : KV) : Ans := someK (pLenS [a1]) fun v0 => binK .gtr v0 (.int .i64 (.ofNat 128)) fun v1 => condK v1 (q (.bool false) H τ) (call f_infra_Lower [a0] H τ fun v2 H3 τ4 => binK .eql v2 (.str (bs [97, 99, 99, 101, 112, 116])) fun v5 => condK v5 (call f_headers_unsafe [a1] H3 τ4 fun v6 H7 τ8 => unK .not v6 fun v9 => q v9 H7 τ8) (binK .eql v2 (.str (bs [97, 99, 99, 101, 112, 116, 45, 108, 97, 110, 103, 117, 97, 103, 101])) fun v10 => condK v10 (s_headers_Safe_j1 call N q ⟨(T.set (T.set (T.set .leaf 1 a1) 15 v2) 21 v10), H3⟩ τ4) (binK .eql v2 (.str (bs [99, 111, 110, 116, 101, 110, 116, 45, 108, 97, 110, 103, 117, 97, 103, 101])) fun v48 => s_headers_Safe_j1 call N q ⟨(T.set (T.set (T.set (T.set (T.set .leaf 1 a1) 15 v2) 21 v10) 23 v48) 21 v48), H3⟩ τ4)))
theorem s_headers_Safe_eq (call : CallK) (N : Nat) (a0 a1 : V) (H : Heap) (τ : Tape) (q : KV) : s_headers_Safe call N a0 a1 H τ q = funK call N fn_headers_Safe [a0, a1] H τ q := by kernel_rfl
def e_headers_Safe (call : CallK) (N : Nat) (vs : List V) (H : Heap) (τ : Tape) (q : KV) : Ans := match vs with | [a0, a1] => s_headers_Safe call N a0 a1 H τ q | _ => none
theorem e_headers_Safe_ok : EntOk fn_headers_Safe e_headers_Safe := by
  intro call N vs H τ q r h
  unfold e_headers_Safe at h
  split at h
  · rw [s_headers_Safe_eq] at h; exact h
  · cases h
theorem e_headers_Safe_nat : EntNat e_headers_Safe := by
  intro c hn N vs H τ q
  unfold e_headers_Safe
  split
  · rw [s_headers_Safe_eq, s_headers_Safe_eq]; exact funK_ent hn _ _ _ _ _ _
  · rfl
/-- ostiary/headers.Value -/
def fn_headers_Value : Fun := ⟨1, (.seq (.reg [iR 2 (.p .mv) [(.c (.str []))], iR 3 (.p .mv) [(.c (.bool false))]]) (.keep [0] (.seq (.reg [iR 4 (.p .mv) [(.t 0)], iR 5 (.call 24) [(.t 4), (.c (.str (bs [9, 10, 13, 32])))], iR 0 (.p .mv) [(.t 5)]]) (.keep [0] (.seq (.seq (.reg [iR 6 (.p .mv) [(.t 0)], iR 7 (.call 55) [(.t 6), (.c (.str (bs [0, 10, 13])))]]) (.keep [0, 7] (.cond (.t 7) (.seq (.reg [iR 2 (.p .mv) [(.c (.str []))], iR 3 (.p .mv) [(.c (.bool false))]]) (.keep [2, 3] (.keep [2, 3] .ret))) .skip))) (.keep [0] (.seq (.reg [iR 8 (.p .mv) [(.t 0)], iR 2 (.p .mv) [(.t 8)], iR 3 (.p .mv) [(.c (.bool true))]]) (.keep [2, 3] (.keep [2, 3] .ret))))))))), [(.t 2), (.t 3)]⟩
def s_headers_Value (call : CallK) (N : Nat) (a0 : V) (H : Heap) (τ : Tape) (q : KV) : Ans := call f_strings_Trim [a0, (.str (bs [9, 10, 13, 32]))] H τ fun v0 H1 τ2 => call f_strings_ContainsAny [v0, (.str (bs [0, 10, 13]))] H1 τ2 fun v3 H4 τ5 => condK v3 (q (.tup [(.str []), (.bool false)]) H4 τ5) (q (.tup [v0, (.bool true)]) H4 τ5)
theorem s_headers_Value_eq (call : CallK) (N : Nat) (a0 : V) (H : Heap) (τ : Tape) (q : KV) : s_headers_Value call N a0 H τ q = funK call N fn_headers_Value [a0] H τ q := by kernel_rfl
def e_headers_Value (call : CallK) (N : Nat) (vs : List V) (H : Heap) (τ : Tape) (q : KV) : Ans := match vs with | [a0] => s_headers_Value call N a0 H τ q | _ => none
theorem e_headers_Value_ok : EntOk fn_headers_Value e_headers_Value := by
  intro call N vs H τ q r h
  unfold e_headers_Value at h
  split at h
  · rw [s_headers_Value_eq] at h; exact h
  · cases h
theorem e_headers_Value_nat : EntNat e_headers_Value := by
  intro c hn N vs H τ q
  unfold e_headers_Value
  split
  · rw [s_headers_Value_eq, s_headers_Value_eq]; exact funK_ent hn _ _ _ _ _ _
  · rfl
/-- ostiary/infra.Token -/
def fn_infra_Token : Fun := ⟨1, (.seq (.reg [iR 2 (.p .mv) [(.c (.bool false))]]) (.keep [0] (.seq (.seq (.reg [iR 6 (.p .mv) [(.t 0)], iR 7 (.p .lenS) [(.t 6)], iR 8 (.p .mv) [(.c (.int .i64 (.ofNat 0)))]]) (.keep [0, 7, 8] (.block 0 (.loop (.keep [0, 7, 8] (.seq (.reg [iR 9 (.p (.bin .lss)) [(.t 8), (.t 7)]]) (.keep [0, 7, 8, 9] (.seq (.cond (.t 9) .skip (.keep [0] (.exit 0))) (.keep [0, 7, 8] (.seq (.block 1 (.seq (.reg [iR 10 (.p .mv) [(.t 8)], iR 3 (.p .mv) [(.t 10)]]) (.keep [0, 3, 7, 8] (.seq (.reg [iR 11 (.p .mv) [(.t 0)], iR 12 (.p .mv) [(.t 3)], iR 13 (.p .strIndex) [(.t 11), (.t 12)], iR 4 (.p .mv) [(.t 13)]]) (.keep [0, 4, 7, 8] (.seq (.reg [iR 14 (.p .mv) [(.t 4)], iR 15 (.p (.bin .geq)) [(.t 14), (.c (.int .u8 (.ofNat 97)))], iR 16 (.p .mv) [(.t 15)], iG 17 16 true (.p .mv) [(.t 4)], iG 18 16 true (.p (.bin .leq)) [(.t 17), (.c (.int .u8 (.ofNat 122)))],
    iR 19 (.p .pick) [(.t 16), (.t 18), (.c (.bool false))], iR 20 (.p .mv) [(.t 19)], iG 21 20 false (.p .mv) [(.t 4)], iG 22 20 false (.p (.bin .geq)) [(.t 21), (.c (.int .u8 (.ofNat 65)))], iG 23 20 false (.p .mv) [(.t 22)], iG 24 23 true (.p .mv) [(.t 4)], iG 25 23 true (.p (.bin .leq)) [(.t 24), (.c (.int .u8 (.ofNat 90)))], iG 26 20 false (.p .pick) [(.t 23), (.t 25), (.c (.bool false))], iR 27 (.p .pick) [(.t 20), (.c (.bool true)), (.t 26)], iR 28 (.p .mv) [(.t 27)], iG 29 28 false (.p .mv) [(.t 4)], iG 30 28 false (.p (.bin .geq)) [(.t 29), (.c (.int .u8 (.ofNat 48)))], iG 31 28 false (.p .mv) [(.t 30)], iG 32 31 true (.p .mv) [(.t 4)], iG 33 31 true (.p (.bin .leq)) [(.t 32), (.c (.int .u8 (.ofNat 57)))], iG 34 28 false (.p .pick) [(.t 31), (.t 33), (.c (.bool false))], iR 35 (.p .pick) [(.t 28), (.c (.bool true)), (.t 34)], iR 5 (.p .mv) [(.t 35)]])
    (.keep [0, 4, 5, 7, 8] (.seq (.reg [iR 36 (.p .mv) [(.t 5)], iR 37 (.p (.un .not)) [(.t 36)], iR 38 (.p .mv) [(.t 37)], iG 39 38 true (.p .mv) [(.t 4)], iG 40 38 true (.call 56) [(.c (.str (bs [33, 35, 36, 37, 38, 39, 42, 43, 45, 46, 94, 95, 96, 124, 126]))), (.t 39)], iG 41 38 true (.p (.bin .lss)) [(.t 40), (.c (.int .i64 (.ofNat 0)))], iR 42 (.p .pick) [(.t 38), (.t 41), (.c (.bool false))]]) (.keep [0, 7, 8, 42] (.cond (.t 42) (.seq (.reg [iR 2 (.p .mv) [(.c (.bool false))]]) (.keep [2] (.keep [2] .ret))) .skip)))))))))) (.keep [0, 7, 8] (.reg [iR 43 (.p (.bin .add)) [(.t 8), (.c (.int .i64 (.ofNat 1)))], iR 8 (.p .mv) [(.t 43)]])))))))))))) (.keep [0] (.seq (.reg [iR 44 (.p .mv) [(.t 0)], iR 45 (.p (.bin .neq)) [(.t 44), (.c (.str []))], iR 2 (.p .mv) [(.t 45)]]) (.keep [2] (.keep [2] .ret))))))), [(.t 2)]⟩
def s_infra_Token_j0 (call : CallK) (N : Nat) (q : KV) (st : St) (τ : Tape) : Ans := match st with
  | ⟨fr, H⟩ => getK fr 0 fun t0 => binK .neq t0 (.str []) fun v1 => q v1 H τ
def s_infra_Token_l1 (call : CallK) (N : Nat) (st : St) (τ : Tape) (k : KC) : Ans := match st with
  | ⟨fr, H⟩ => getK fr 0 fun t0 => getK fr 7 fun t7 => getK fr 8 fun t8 => binK .lss t8 t7 fun v2 => condK v2 (someK (pStrIndex [t0, t8]) fun v3 => binK .geq v3 (.int .u8 (.ofNat 97)) fun v4 => gK v4 true (fun q' => q' v3 H τ) H τ fun v5 H6 τ7 => gK v4 true (fun q' => binK .leq v5 (.int .u8 (.ofNat 122)) fun v => q' v H6 τ7) H6 τ7 fun v8 H9 τ10 => someK (pPick [v4, v8, (.bool false)]) fun v11 => gK v11 false (fun q' => q' v3 H9 τ10) H9 τ10 fun v12 H13 τ14 => gK v11 false (fun q' => binK .geq v12 (.int .u8 (.ofNat 65)) fun v => q' v H13 τ14) H13 τ14 fun v15 H16 τ17 => gK v11 false (fun q' => q' v15 H16 τ17) H16 τ17 fun v18 H19 τ20 => gK v18 true (fun q' => q' v3 H19 τ20) H19 τ20 fun v21 H22 τ23 => gK v18 true (fun q' => binK .leq v21 (.int .u8 (.ofNat 90)) fun v => q' v H22 τ23) H22 τ23 fun v24 H25 τ26 =>
    gK v11 false (fun q' => someK (pPick [v18, v24, (.bool false)]) fun v => q' v H25 τ26) H25 τ26 fun v27 H28 τ29 => someK (pPick [v11, (.bool true), v27]) fun v30 => gK v30 false (fun q' => q' v3 H28 τ29) H28 τ29 fun v31 H32 τ33 => gK v30 false (fun q' => binK .geq v31 (.int .u8 (.ofNat 48)) fun v => q' v H32 τ33) H32 τ33 fun v34 H35 τ36 => gK v30 false (fun q' => q' v34 H35 τ36) H35 τ36 fun v37 H38 τ39 => gK v37 true (fun q' => q' v3 H38 τ39) H38 τ39 fun v40 H41 τ42 => gK v37 true (fun q' => binK .leq v40 (.int .u8 (.ofNat 57)) fun v => q' v H41 τ42) H41 τ42 fun v43 H44 τ45 => gK v30 false (fun q' => someK (pPick [v37, v43, (.bool false)]) fun v => q' v H44 τ45) H44 τ45 fun v46 H47 τ48 => someK (pPick [v30, (.bool true), v46]) fun v49 => unK .not v49 fun v50 => gK v50 true (fun q' => q' v3 H47 τ48) H47 τ48 fun v51 H52 τ53 =>
    gK v50 true (fun q' => call f_strings_IndexByte [(.str (bs [33, 35, 36, 37, 38, 39, 42, 43, 45, 46, 94, 95, 96, 124, 126])), v51] H52 τ53 q') H52 τ53 fun v54 H55 τ56 => gK v50 true (fun q' => binK .lss v54 (.int .i64 (.ofNat 0)) fun v => q' v H55 τ56) H55 τ56 fun v57 H58 τ59 => someK (pPick [v50, v57, (.bool false)]) fun v60 => condK v60 (k .ret ⟨(T.set .leaf 2 (.bool false)), H58⟩ τ59) (binK .add t8 (.int .i64 (.ofNat 1)) fun v61 => k .normal ⟨(T.set (T.set (T.set (T.set (T.set .leaf 0 t0) 7 t7) 8 t8) 43 v61) 8 v61), H58⟩ τ59)) (k (.exit 0) ⟨(T.set .leaf 0 t0), H⟩ τ)
def s_infra_Token (call : CallK) (N : Nat) (a0 : V) (H : Heap) (τ : Tape) (q : KV) : Ans := someK (pLenS [a0]) fun v0 => loopK (s_infra_Token_l1 call N) N ⟨(T.set (T.set (T.set .leaf 0 a0) 7 v0) 8 (.int .i64 (.ofNat 0))), H⟩ τ (blockK 0 (seqK (s_infra_Token_j0 call N q) (endK [(.t 2)] q)))
theorem s_infra_Token_eq (call : CallK) (N : Nat) (a0 : V) (H : Heap) (τ : Tape) (q : KV) : s_infra_Token call N a0 H τ q = funK call N fn_infra_Token [a0] H τ q := by kernel_rfl
def e_infra_Token (call : CallK) (N : Nat) (vs : List V) (H : Heap) (τ : Tape) (q : KV) : Ans := match vs with | [a0] => s_infra_Token call N a0 H τ q | _ => none
theorem e_infra_Token_ok : EntOk fn_infra_Token e_infra_Token := by
  intro call N vs H τ q r h
  unfold e_infra_Token at h
  split at h
  · rw [s_infra_Token_eq] at h; exact h
  · cases h
theorem e_infra_Token_nat : EntNat e_infra_Token := by
  intro c hn N vs H τ q
  unfold e_infra_Token
  split
  · rw [s_infra_Token_eq, s_infra_Token_eq]; exact funK_ent hn _ _ _ _ _ _
  · rfl
/-- strings.trimLeftByte -/
def fn_strings_trimLeftByte : Fun := ⟨2, (.seq (.reg [iR 4 (.p .mv) [(.c (.str []))]]) (.keep [0, 1] (.seq (.block 0 (.loop (.keep [0, 1] (.seq (.seq (.reg [iR 5 (.p .mv) [(.t 0)], iR 6 (.p .lenS) [(.t 5)], iR 7 (.p (.bin .gtr)) [(.t 6), (.c (.int .i64 (.ofNat 0)))], iR 8 (.p .mv) [(.t 7)], iG 9 8 true (.p .mv) [(.t 0)], iG 10 8 true (.p .strIndex) [(.t 9), (.c (.int .i64 (.ofNat 0)))], iG 11 8 true (.p .mv) [(.t 1)], iG 12 8 true (.p (.bin .eql)) [(.t 10), (.t 11)], iR 13 (.p .pick) [(.t 8), (.t 12), (.c (.bool false))]]) (.keep [0, 1, 13] (.cond (.t 13) .skip (.keep [0] (.exit 0))))) (.keep [0, 1] (.block 1 (.reg [iR 14 (.p .mv) [(.t 0)], iR 15 (.p (.strSlice true false)) [(.t 14), (.c (.int .i64 (.ofNat 1)))], iR 0 (.p .mv) [(.t 15)]]))))))) (.keep [0] (.seq (.reg [iR 16 (.p .mv) [(.t 0)], iR 4 (.p .mv) [(.t 16)]]) (.keep [4] (.keep [4] .ret))))))), [(.t 4)]⟩
def s_strings_trimLeftByte_j0 (call : CallK) (N : Nat) (q : KV) (st : St) (τ : Tape) : Ans := match st with
  | ⟨fr, H⟩ => getK fr 0 fun t0 => q t0 H τ
def s_strings_trimLeftByte_l1 (call : CallK) (N : Nat) (st : St) (τ : Tape) (k : KC) : Ans := match st with
  | ⟨fr, H⟩ => getK fr 0 fun t0 => getK fr 1 fun t1 => someK (pLenS [t0]) fun v0 => binK .gtr v0 (.int .i64 (.ofNat 0)) fun v1 => gK v1 true (fun q' => q' t0 H τ) H τ fun v2 H3 τ4 => gK v1 true (fun q' => someK (pStrIndex [v2, (.int .i64 (.ofNat 0))]) fun v => q' v H3 τ4) H3 τ4 fun v5 H6 τ7 => gK v1 true (fun q' => q' t1 H6 τ7) H6 τ7 fun v8 H9 τ10 => gK v1 true (fun q' => binK .eql v5 v8 fun v => q' v H9 τ10) H9 τ10 fun v11 H12 τ13 => someK (pPick [v1, v11, (.bool false)]) fun v14 => condK v14 (someK (pStrSlice true false [t0, (.int .i64 (.ofNat 1))]) fun v15 => k .normal ⟨(T.set (T.set (T.set (T.set (T.set .leaf 0 t0) 1 t1) 14 t0) 15 v15) 0 v15), H12⟩ τ13) (k (.exit 0) ⟨(T.set .leaf 0 t0), H12⟩ τ13)
def s_strings_trimLeftByte (call : CallK) (N : Nat) (a0 a1 : V) (H : Heap) (τ : Tape) (q : KV) : Ans := loopK (s_strings_trimLeftByte_l1 call N) N ⟨(T.set (T.set .leaf 0 a0) 1 a1), H⟩ τ (blockK 0 (seqK (s_strings_trimLeftByte_j0 call N q) (endK [(.t 4)] q)))
theorem s_strings_trimLeftByte_eq (call : CallK) (N : Nat) (a0 a1 : V) (H : Heap) (τ : Tape) (q : KV) : s_strings_trimLeftByte call N a0 a1 H τ q = funK call N fn_strings_trimLeftByte [a0, a1] H τ q := by kernel_rfl
def e_strings_trimLeftByte (call : CallK) (N : Nat) (vs : List V) (H : Heap) (τ : Tape) (q : KV) : Ans := match vs with | [a0, a1] => s_strings_trimLeftByte call N a0 a1 H τ q | _ => none
theorem e_strings_trimLeftByte_ok : EntOk fn_strings_trimLeftByte e_strings_trimLeftByte := by
  intro call N vs H τ q r h
  unfold e_strings_trimLeftByte at h
  split at h
  · rw [s_strings_trimLeftByte_eq] at h; exact h
  · cases h
theorem e_strings_trimLeftByte_nat : EntNat e_strings_trimLeftByte := by
  intro c hn N vs H τ q
  unfold e_strings_trimLeftByte
  split
  · rw [s_strings_trimLeftByte_eq, s_strings_trimLeftByte_eq]; exact funK_ent hn _ _ _ _ _ _
  · rfl
/-- strings.trimRightByte -/
def fn_strings_trimRightByte : Fun := ⟨2, (.seq (.reg [iR 4 (.p .mv) [(.c (.str []))]]) (.keep [0, 1] (.seq (.block 0 (.loop (.keep [0, 1] (.seq (.seq (.reg [iR 5 (.p .mv) [(.t 0)], iR 6 (.p .lenS) [(.t 5)], iR 7 (.p (.bin .gtr)) [(.t 6), (.c (.int .i64 (.ofNat 0)))], iR 8 (.p .mv) [(.t 7)], iG 9 8 true (.p .mv) [(.t 0)], iG 10 8 true (.p .mv) [(.t 0)], iG 11 8 true (.p .lenS) [(.t 10)], iG 12 8 true (.p (.bin .sub)) [(.t 11), (.c (.int .i64 (.ofNat 1)))], iG 13 8 true (.p .strIndex) [(.t 9), (.t 12)], iG 14 8 true (.p .mv) [(.t 1)], iG 15 8 true (.p (.bin .eql)) [(.t 13), (.t 14)], iR 16 (.p .pick) [(.t 8), (.t 15), (.c (.bool false))]]) (.keep [0, 1, 16] (.cond (.t 16) .skip (.keep [0] (.exit 0))))) (.keep [0, 1] (.block 1 (.reg [iR 17 (.p .mv) [(.t 0)], iR 18 (.p .mv) [(.t 0)], iR 19 (.p .lenS) [(.t 18)], iR 20 (.p (.bin .sub)) [(.t 19), (.c (.int .i64 (.ofNat 1)))],
    iR 21 (.p (.strSlice false true)) [(.t 17), (.t 20)], iR 0 (.p .mv) [(.t 21)]]))))))) (.keep [0] (.seq (.reg [iR 22 (.p .mv) [(.t 0)], iR 4 (.p .mv) [(.t 22)]]) (.keep [4] (.keep [4] .ret))))))), [(.t 4)]⟩
def s_strings_trimRightByte_j0 (call : CallK) (N : Nat) (q : KV) (st : St) (τ : Tape) : Ans := match st with
  | ⟨fr, H⟩ => getK fr 0 fun t0 => q t0 H τ
def s_strings_trimRightByte_l1 (call : CallK) (N : Nat) (st : St) (τ : Tape) (k : KC) : Ans := match st with
  | ⟨fr, H⟩ => getK fr 0 fun t0 => getK fr 1 fun t1 => someK (pLenS [t0]) fun v0 => binK .gtr v0 (.int .i64 (.ofNat 0)) fun v1 => gK v1 true (fun q' => q' t0 H τ) H τ fun v2 H3 τ4 => gK v1 true (fun q' => q' t0 H3 τ4) H3 τ4 fun v5 H6 τ7 => gK v1 true (fun q' => someK (pLenS [v5]) fun v => q' v H6 τ7) H6 τ7 fun v8 H9 τ10 => gK v1 true (fun q' => binK .sub v8 (.int .i64 (.ofNat 1)) fun v => q' v H9 τ10) H9 τ10 fun v11 H12 τ13 => gK v1 true (fun q' => someK (pStrIndex [v2, v11]) fun v => q' v H12 τ13) H12 τ13 fun v14 H15 τ16 => gK v1 true (fun q' => q' t1 H15 τ16) H15 τ16 fun v17 H18 τ19 => gK v1 true (fun q' => binK .eql v14 v17 fun v => q' v H18 τ19) H18 τ19 fun v20 H21 τ22 => someK (pPick [v1, v20, (.bool false)]) fun v23 => condK v23 (someK (pLenS [t0]) fun v24 => binK .sub v24 (.int .i64 (.ofNat 1)) fun v25 => someK (pStrSlice false true [t0, v25]) fun v26 =>
    k .normal ⟨(T.set (T.set (T.set (T.set (T.set (T.set (T.set (T.set .leaf 0 t0) 1 t1) 17 t0) 18 t0) 19 v24) 20 v25) 21 v26) 0 v26), H21⟩ τ22) (k (.exit 0) ⟨(T.set .leaf 0 t0), H21⟩ τ22)
def s_strings_trimRightByte (call : CallK) (N : Nat) (a0 a1 : V) (H : Heap) (τ : Tape) (q : KV) : Ans := loopK (s_strings_trimRightByte_l1 call N) N ⟨(T.set (T.set .leaf 0 a0) 1 a1), H⟩ τ (blockK 0 (seqK (s_strings_trimRightByte_j0 call N q) (endK [(.t 4)] q)))
theorem s_strings_trimRightByte_eq (call : CallK) (N : Nat) (a0 a1 : V) (H : Heap) (τ : Tape) (q : KV) : s_strings_trimRightByte call N a0 a1 H τ q = funK call N fn_strings_trimRightByte [a0, a1] H τ q := by kernel_rfl
def e_strings_trimRightByte (call : CallK) (N : Nat) (vs : List V) (H : Heap) (τ : Tape) (q : KV) : Ans := match vs with | [a0, a1] => s_strings_trimRightByte call N a0 a1 H τ q | _ => none
theorem e_strings_trimRightByte_ok : EntOk fn_strings_trimRightByte e_strings_trimRightByte := by
  intro call N vs H τ q r h
  unfold e_strings_trimRightByte at h
  split at h
  · rw [s_strings_trimRightByte_eq] at h; exact h
  · cases h
theorem e_strings_trimRightByte_nat : EntNat e_strings_trimRightByte := by
  intro c hn N vs H τ q
  unfold e_strings_trimRightByte
  split
  · rw [s_strings_trimRightByte_eq, s_strings_trimRightByte_eq]; exact funK_ent hn _ _ _ _ _ _
  · rfl
/-- strings.makeASCIISet -/
def fn_strings_makeASCIISet : Fun := ⟨1, (.seq (.reg [iR 2 (.e (.alloc (repl 256 [(.bool false)]))) [], iR 3 (.p .mv) [(.c (.bool false))]]) (.keep [0, 2] (.seq (.seq (.reg [iR 4 (.p .mv) [(.c (.int .i64 (.ofNat 0)))]]) (.keep [0, 2, 4] (.block 0 (.loop (.keep [0, 2, 4] (.seq (.seq (.reg [iR 6 (.p .mv) [(.t 4)], iR 7 (.p .mv) [(.t 0)], iR 8 (.p .lenS) [(.t 7)], iR 9 (.p (.bin .lss)) [(.t 6), (.t 8)]]) (.keep [0, 2, 4, 9] (.cond (.t 9) .skip (.keep [2] (.exit 0))))) (.keep [0, 2, 4] (.seq (.block 1 (.seq (.reg [iR 12 (.p .mv) [(.t 0)], iR 13 (.p .mv) [(.t 4)], iR 14 (.p .strIndex) [(.t 12), (.t 13)], iR 5 (.p .mv) [(.t 14)]]) (.keep [0, 2, 4, 5] (.seq (.seq (.reg [iR 15 (.p .mv) [(.t 5)], iR 16 (.p (.bin .geq)) [(.t 15), (.c (.int .u8 (.ofNat 128)))]]) (.keep [0, 2, 4, 5, 16] (.cond (.t 16) (.seq (.reg [iR 17 (.l (.load (some 256))) [(.t 2)],
    ⟨none, none, (.e (.store 256)), [(.t 2), (.t 17)], none⟩, iR 3 (.p .mv) [(.c (.bool false))]]) (.keep [2, 3] (.keep [2, 3] .ret))) .skip))) (.keep [0, 2, 4, 5] (.reg [iR 18 (.p .mv) [(.t 5)], iR 19 (.p (.arrIdx 256 1)) [(.t 2), (.t 18)], ⟨none, none, (.e (.store 1)), [(.t 19), (.c (.bool true))], none⟩])))))) (.keep [0, 2, 4] (.reg [iR 10 (.p .mv) [(.t 4)], iR 11 (.p (.bin .add)) [(.t 10), (.c (.int .i64 (.ofNat 1)))], iR 4 (.p .mv) [(.t 11)]])))))))))) (.keep [2] (.seq (.reg [iR 20 (.l (.load (some 256))) [(.t 2)], ⟨none, none, (.e (.store 256)), [(.t 2), (.t 20)], none⟩, iR 3 (.p .mv) [(.c (.bool true))]]) (.keep [2, 3] (.keep [2, 3] .ret))))))), [(.cell 2 (some 256)), (.t 3)]⟩
def s_strings_makeASCIISet_j0 (call : CallK) (N : Nat) (q : KV) (st : St) (τ : Tape) : Ans := match st with
  | ⟨fr, H⟩ => getK fr 2 fun t2 => someK (lLoadN 256 [t2] H) fun v3 => effK (eStore 256 [t2, v3] H τ) fun v4 H5 τ6 => someK (results ⟨(T.set (T.set .leaf 2 t2) 3 (.bool true)), H5⟩ [(.cell 2 (some 256)), (.t 3)]) fun v => q v H5 τ6
def s_strings_makeASCIISet_l1 (call : CallK) (N : Nat) (st : St) (τ : Tape) (k : KC) : Ans := match st with
  | ⟨fr, H⟩ => getK fr 0 fun t0 => getK fr 2 fun t2 => getK fr 4 fun t4 => someK (pLenS [t0]) fun v7 => binK .lss t4 v7 fun v8 => condK v8 (someK (pStrIndex [t0, t4]) fun v9 => binK .geq v9 (.int .u8 (.ofNat 128)) fun v10 => condK v10 (someK (lLoadN 256 [t2] H) fun v11 => effK (eStore 256 [t2, v11] H τ) fun v12 H13 τ14 => k .ret ⟨(T.set (T.set .leaf 2 t2) 3 (.bool false)), H13⟩ τ14) (someK (pArrIdx 256 1 [t2, v9]) fun v15 => effK (eStore 1 [v15, (.bool true)] H τ) fun v16 H17 τ18 => binK .add t4 (.int .i64 (.ofNat 1)) fun v19 => k .normal ⟨(T.set (T.set (T.set (T.set (T.set (T.set .leaf 0 t0) 2 t2) 4 t4) 10 t4) 11 v19) 4 v19), H17⟩ τ18)) (k (.exit 0) ⟨(T.set .leaf 2 t2), H⟩ τ)
def s_strings_makeASCIISet (call : CallK) (N : Nat) (a0 : V) (H : Heap) (τ : Tape) (q : KV) : Ans := effK (eAlloc (repl 256 [(.bool false)]) [] H τ) fun v0 H1 τ2 => loopK (s_strings_makeASCIISet_l1 call N) N ⟨(T.set (T.set (T.set .leaf 0 a0) 2 v0) 4 (.int .i64 (.ofNat 0))), H1⟩ τ2 (blockK 0 (seqK (s_strings_makeASCIISet_j0 call N q) (endK [(.cell 2 (some 256)), (.t 3)] q)))
theorem s_strings_makeASCIISet_eq (call : CallK) (N : Nat) (a0 : V) (H : Heap) (τ : Tape) (q : KV) : s_strings_makeASCIISet call N a0 H τ q = funK call N fn_strings_makeASCIISet [a0] H τ q := by kernel_rfl
def e_strings_makeASCIISet (call : CallK) (N : Nat) (vs : List V) (H : Heap) (τ : Tape) (q : KV) : Ans := match vs with | [a0] => s_strings_makeASCIISet call N a0 H τ q | _ => none
theorem e_strings_makeASCIISet_ok : EntOk fn_strings_makeASCIISet e_strings_makeASCIISet := by
  intro call N vs H τ q r h
  unfold e_strings_makeASCIISet at h
  split at h
  · rw [s_strings_makeASCIISet_eq] at h; exact h
  · cases h
theorem e_strings_makeASCIISet_nat : EntNat e_strings_makeASCIISet := by
  intro c hn N vs H τ q
  unfold e_strings_makeASCIISet
  split
  · rw [s_strings_makeASCIISet_eq, s_strings_makeASCIISet_eq]; exact funK_ent hn _ _ _ _ _ _
  · rfl
end Go.Am.X
