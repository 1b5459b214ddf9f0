/- The abstract machine, printed functions of the program, and what they are shown to be. -/
import Derived.Test.YthdglgbbkhiaaaaGreatDoorCNUM4
import Derived.KernelRfl
namespace Go.Am.X
set_option maxRecDepth 1000000
set_option linter.unusedVariables false
abbrev iR (n : Nat) (o : AOp) (a : List O) : Ins := ⟨some n, none, o, a, none⟩
abbrev iG (n g : Nat) (b : Bool) (o : AOp) (a : List O) : Ins := ⟨some n, some (g, b), o, a, none⟩
abbrev f_law17_CacheNumbers : Nat := 3
abbrev f_cache_New : Nat := 9
abbrev f_cache_Cache_Put : Nat := 10
abbrev f_law17_cc : Nat := 11
abbrev f_cache_Cache_Find : Nat := 12
abbrev f_cache_Cache_Renew : Nat := 13
abbrev f_book_Same_Header : Nat := 14
abbrev f_cache_Cache_Len : Nat := 15
abbrev f_cache_Cache_Urls : Nat := 16
abbrev f_law17_known : Nat := 17
abbrev f_age_Vary : Nat := 54
abbrev f_age_Parse : Nat := 55
abbrev f_slices_DeleteFunc_cache_row : Nat := 56
abbrev f_cache_meant : Nat := 57
abbrev f_slices_Delete_cache_row : Nat := 58
abbrev f_cache_copied : Nat := 59
abbrev f_headers_Get : Nat := 60
abbrev f_cache_Cache_store : Nat := 61
abbrev f_cache_Cache_find : Nat := 62
abbrev f_cache_Cache_use : Nat := 63
abbrev f_headers_Set : Nat := 64
abbrev f_strconv_FormatInt : Nat := 65
abbrev f_age_Age : Nat := 66
abbrev f_age_Fresh : Nat := 67
abbrev f_headers_Drop : Nat := 68
abbrev f_slices_Clone_Header : Nat := 69
abbrev f_cache_Cache_Drop : Nat := 70
abbrev f_headers_Value : Nat := 71
abbrev f_slices_Clone_byte : Nat := 74
abbrev f_strings_Cut : Nat := 77
abbrev f_headers_Split : Nat := 81
abbrev f_infra_Lower : Nat := 87
abbrev f_slices_Contains_string : Nat := 90
abbrev f_infra_Int : Nat := 91
abbrev f_strings_Join : Nat := 92
abbrev f_infra_Token : Nat := 96
abbrev f_slices_Sort_string : Nat := 106
abbrev f_slices_Compact_string : Nat := 107
abbrev f_age_piece : Nat := 108
abbrev f_slices_IndexFunc_cache_row : Nat := 109
abbrev f_cache_meant_1 : Nat := 110
abbrev f_headers_is : Nat := 111
abbrev f_cache_Cache_use_1 : Nat := 112
abbrev f_slices_IndexFunc_Header : Nat := 113
abbrev f_headers_Set_1 : Nat := 114
abbrev f_headers_Add : Nat := 115
abbrev f_headers_may : Nat := 116
abbrev f_strconv_FormatInt_n117 : Nat := 117
abbrev f_infra_Strip : Nat := 118
abbrev f_age_Add : Nat := 119
abbrev f_age_since : Nat := 120
abbrev f_slices_DeleteFunc_Header : Nat := 121
abbrev f_headers_Drop_1 : Nat := 122
abbrev f_cache_Cache_Drop_1 : Nat := 123
abbrev f_strings_Trim : Nat := 124
abbrev f_strings_ContainsAny : Nat := 125
abbrev f_stringslite_Cut : Nat := 132
abbrev f_infra_mapped : Nat := 140
abbrev f_infra_Lower_1 : Nat := 141
abbrev f_slices_Index_string : Nat := 142
abbrev f_strings_IndexByte : Nat := 151
abbrev f_strconv_small : Nat := 169
abbrev f_strconv_numDigits : Nat := 170
abbrev f_strconv_formatBase10 : Nat := 171
abbrev f_strconv_formatBits : Nat := 172
abbrev f_strings_trimLeftByte : Nat := 173
abbrev f_strings_trimRightByte : Nat := 174
abbrev f_strings_makeASCIISet : Nat := 175
abbrev f_strings_trimLeftASCII : Nat := 176
abbrev f_strings_trimRightASCII : Nat := 177
abbrev f_strings_trimLeftUnicode : Nat := 178
abbrev f_strings_trimRightUnicode : Nat := 179
abbrev f_strings_IndexAny : Nat := 180
abbrev f_stringslite_Index : Nat := 186
abbrev f_stringslite_IndexByte : Nat := 195
abbrev f_utf8_DecodeRuneInString : Nat := 206
abbrev f_bits_Len64 : Nat := 220
abbrev f_strconv_log10Pow2 : Nat := 221
abbrev f_strconv_bool2_int : Nat := 222
abbrev f_strconv_isPowerOfTwo : Nat := 223
abbrev f_bits_TrailingZeros : Nat := 224
abbrev f_asciiSet_contains : Nat := 225
abbrev f_strings_ContainsRune : Nat := 226
abbrev f_utf8_DecodeLastRuneInString : Nat := 227
abbrev f_strings_IndexRune : Nat := 228
abbrev f_strings_shouldUseASCIISet : Nat := 229
abbrev f_bytealg_Cutover : Nat := 243
abbrev f_bytealg_IndexRabinKarp_string : Nat := 244
abbrev f_utf8_decodeRuneInStringSlow : Nat := 252
abbrev f_bits_TrailingZeros32 : Nat := 265
abbrev f_bits_TrailingZeros64 : Nat := 266
abbrev f_utf8_RuneStart : Nat := 267
abbrev f_utf8_ValidRune : Nat := 268
abbrev f_bytealg_hashStr_string : Nat := 273
/-- ostiary/ostiarylaw17.CacheNumbers -/
def fn_law17_CacheNumbers : Fun := ⟨0, (.seq (.reg [iR 0 (.p .mv) [(.c (.bool false))]]) (.keep [] (.seq (.reg [iR 15 (.call 9) [], iR 1 (.p .mv) [(.t 15)]]) (.keep [1] (.seq (.seq (.reg [iR 16 (.p .mv) [(.t 1)], iR 17 (.l (.peq false)) [(.t 16), (.c .nilp)]]) (.keep [1, 17] (.cond (.t 17) (.seq (.reg [iR 0 (.p .mv) [(.c (.bool false))]]) (.keep [0] (.keep [0] .ret))) .skip))) (.keep [1] (.seq (.reg [iR 18 (.p .mv) [(.t 1)], iR 19 (.p (.build [(.int .i64 (.ofNat 0)), .nils, .nils] [(0, 1)])) [(.c (.int .i64 (.ofNat 404)))], iR 20 (.call 10) [(.t 18), (.c (.str (bs [117]))), (.c .nils), (.t 19), (.c (.int .i64 (.ofNat 0)))], iR 2 (.p .mv) [(.t 20)]]) (.keep [1, 2] (.seq (.reg [iR 21 (.p .mv) [(.t 1)], iR 22 (.p (.build [(.str []), (.str [])] [(0, 1), (1, 1)])) [(.c (.str (bs [86, 97, 114, 121]))), (.c (.str (bs [42])))],
    iR 23 (.e (.buildSlice 1 2 [(.str []), (.str [])] [(0, 2)])) [(.t 22)], iR 24 (.p (.build [(.int .i64 (.ofNat 0)), .nils, .nils] [(0, 1), (1, 1)])) [(.c (.int .i64 (.ofNat 200))), (.t 23)], iR 25 (.call 10) [(.t 21), (.c (.str (bs [117]))), (.c .nils), (.t 24), (.c (.int .i64 (.ofNat 0)))], iR 3 (.p .mv) [(.t 25)]]) (.keep [1, 2, 3] (.seq (.reg [iR 26 (.p .mv) [(.t 1)], iR 27 (.call 11) [(.c (.str (bs [110, 111, 45, 115, 116, 111, 114, 101])))], iR 28 (.p (.build [(.int .i64 (.ofNat 0)), .nils, .nils] [(0, 1)])) [(.c (.int .i64 (.ofNat 200)))], iR 29 (.call 10) [(.t 26), (.c (.str (bs [117]))), (.t 27), (.t 28), (.c (.int .i64 (.ofNat 0)))], iR 4 (.p .mv) [(.t 29)]]) (.keep [1, 2, 3, 4] (.seq (.reg [iR 30 (.p .mv) [(.t 1)], iR 31 (.call 11) [(.c (.str (bs [110, 111, 45, 115, 116, 111, 114, 101])))],
    iR 32 (.p (.build [(.int .i64 (.ofNat 0)), .nils, .nils] [(0, 1), (1, 1)])) [(.c (.int .i64 (.ofNat 200))), (.t 31)], iR 33 (.call 10) [(.t 30), (.c (.str (bs [117]))), (.c .nils), (.t 32), (.c (.int .i64 (.ofNat 0)))], iR 5 (.p .mv) [(.t 33)]]) (.keep [1, 2, 3, 4, 5] (.seq (.reg [iR 34 (.p .mv) [(.t 1)], iR 35 (.call 12) [(.t 34), (.c (.str (bs [117]))), (.c .nils), (.c (.int .i64 (.ofNat 0)))], iR 6 (.e (.alloc [(.int .i64 (.ofNat 0)), (.int .i64 (.ofNat 0)), .nils, .nils, .nils])) [], ⟨none, none, (.e (.store 5)), [(.t 6), (.t 35)], none⟩]) (.keep [1, 2, 3, 4, 5, 6] (.seq (.reg [iR 36 (.p .mv) [(.t 1)], iR 37 (.p (.build [(.str []), (.str [])] [(0, 1), (1, 1)])) [(.c (.str (bs [69, 84, 97, 103]))), (.c (.str (bs [120])))],
    iR 38 (.p (.build [(.str []), (.str [])] [(0, 1), (1, 1)])) [(.c (.str (bs [76, 97, 115, 116, 45, 77, 111, 100, 105, 102, 105, 101, 100]))), (.c (.str (bs [121])))], iR 39 (.e (.buildSlice 2 2 [(.str []), (.str []), (.str []), (.str [])] [(0, 2), (2, 2)])) [(.t 37), (.t 38)], iR 40 (.p (.build [(.int .i64 (.ofNat 0)), .nils, .nils] [(0, 1), (1, 1)])) [(.c (.int .i64 (.ofNat 200))), (.t 39)], iR 41 (.call 10) [(.t 36), (.c (.str (bs [117]))), (.c .nils), (.t 40), (.c (.int .i64 (.ofNat 0)))], iR 7 (.p .mv) [(.t 41)]]) (.keep [1, 2, 3, 4, 5, 6, 7] (.seq (.reg [iR 42 (.p .mv) [(.t 1)], iR 43 (.call 12) [(.t 42), (.c (.str (bs [117]))), (.c .nils), (.c (.int .i64 (.ofNat 0)))], iR 8 (.e (.alloc [(.int .i64 (.ofNat 0)), (.int .i64 (.ofNat 0)), .nils, .nils, .nils])) [], ⟨none, none, (.e (.store 5)), [(.t 8), (.t 43)], none⟩])
    (.keep [1, 2, 3, 4, 5, 6, 7, 8] (.seq (.reg [iR 45 (.p .mv) [(.t 1)], iR 46 (.p (.build [(.str []), (.str [])] [(0, 1), (1, 1)])) [(.c (.str (bs [67, 111, 110, 116, 101, 110, 116, 45, 84, 121, 112, 101]))), (.c (.str (bs [122])))], iR 47 (.p (.build [(.str []), (.str [])] [(0, 1), (1, 1)])) [(.c (.str (bs [101, 116, 97, 103]))), (.c (.str (bs [119])))], iR 48 (.p (.build [(.str []), (.str [])] [(0, 1), (1, 1)])) [(.c (.str (bs [67, 97, 99, 104, 101, 45, 67, 111, 110, 116, 114, 111, 108]))), (.c (.str (bs [109, 97, 120, 45, 97, 103, 101, 61, 57])))], iR 49 (.e (.buildSlice 3 2 (repl 6 [(.str [])]) [(0, 2), (2, 2), (4, 2)])) [(.t 46), (.t 47), (.t 48)], iR 50 (.p (.build [(.int .i64 (.ofNat 0)), .nils, .nils] [(0, 1), (1, 1)])) [(.c (.int .i64 (.ofNat 304))), (.t 49)], iR 51 (.call 13) [(.t 45), (.c (.str (bs [117]))), (.c .nils), (.t 50), (.c (.int .i64 (.ofNat 5)))],
    iR 44 (.p .mv) [(.t 51)], iR 52 (.p (.extract 0)) [(.t 44)], iR 53 (.p (.extract 1)) [(.t 44)], iR 9 (.e (.alloc [(.int .i64 (.ofNat 0)), .nils, .nils])) [], ⟨none, none, (.e (.store 3)), [(.t 9), (.t 52)], none⟩, iR 10 (.p .mv) [(.t 53)]]) (.keep [1, 2, 3, 4, 5, 6, 7, 8, 9, 10] (.seq (.reg [iR 54 (.p .mv) [(.t 1)], iR 55 (.call 12) [(.t 54), (.c (.str (bs [117]))), (.c .nils), (.c (.int .i64 (.ofNat 6)))], iR 11 (.e (.alloc [(.int .i64 (.ofNat 0)), (.int .i64 (.ofNat 0)), .nils, .nils, .nils])) [], ⟨none, none, (.e (.store 5)), [(.t 11), (.t 55)], none⟩]) (.keep [1, 2, 3, 4, 5, 6, 7, 8, 9, 10, 11] (.seq (.reg [iR 57 (.p .mv) [(.t 1)], iR 58 (.p (.build [(.int .i64 (.ofNat 0)), .nils, .nils] [])) [], iR 59 (.call 13) [(.t 57), (.c (.str (bs [118]))), (.c .nils), (.t 58), (.c (.int .i64 (.ofNat 0)))], iR 56 (.p .mv) [(.t 59)], iR 60 (.p (.extract 0)) [(.t 56)],
    iR 61 (.p (.extract 1)) [(.t 56)], iR 12 (.e (.alloc [(.int .i64 (.ofNat 0)), .nils, .nils])) [], ⟨none, none, (.e (.store 3)), [(.t 12), (.t 60)], none⟩, iR 13 (.p .mv) [(.t 61)]]) (.keep [1, 2, 3, 4, 5, 6, 7, 8, 9, 10, 11, 13] (.seq (.seq (.reg [iR 14 (.p .mv) [(.c (.int .i64 (.ofNat 0)))]]) (.keep [1, 2, 3, 4, 5, 6, 7, 8, 9, 10, 11, 13, 14] (.block 0 (.loop (.keep [1, 2, 3, 4, 5, 6, 7, 8, 9, 10, 11, 13, 14] (.seq (.seq (.reg [iR 62 (.p .mv) [(.t 14)], iR 63 (.p (.bin .lss)) [(.t 62), (.c (.int .i64 (.ofNat 20)))]]) (.keep [1, 2, 3, 4, 5, 6, 7, 8, 9, 10, 11, 13, 14, 63] (.cond (.t 63) .skip (.keep [1, 2, 3, 4, 5, 6, 7, 8, 9, 10, 11, 13] (.exit 0))))) (.keep [1, 2, 3, 4, 5, 6, 7, 8, 9, 10, 11, 13, 14] (.seq (.block 1 (.reg [iR 66 (.p .mv) [(.t 1)], iR 67 (.p .mv) [(.t 14)], iR 68 (.p (.bin .add)) [(.c (.int .i64 (.ofNat 97))), (.t 67)], iR 69 (.p (.toInt .i32)) [(.t 68)],
    iR 70 (.p .runeStr) [(.t 69)], iR 71 (.p (.build [(.int .i64 (.ofNat 0)), .nils, .nils] [(0, 1)])) [(.c (.int .i64 (.ofNat 200)))], iR 72 (.call 10) [(.t 66), (.t 70), (.c .nils), (.t 71), (.c (.int .i64 (.ofNat 0)))]])) (.keep [1, 2, 3, 4, 5, 6, 7, 8, 9, 10, 11, 13, 14] (.reg [iR 64 (.p .mv) [(.t 14)], iR 65 (.p (.bin .add)) [(.t 64), (.c (.int .i64 (.ofNat 1)))], iR 14 (.p .mv) [(.t 65)]])))))))))) (.keep [1, 2, 3, 4, 5, 6, 7, 8, 9, 10, 11, 13] (.seq (.reg [iR 73 (.p .mv) [(.t 2)], iR 74 (.p (.un .not)) [(.t 73)], iR 75 (.p .mv) [(.t 74)], iG 76 75 true (.p .mv) [(.t 3)], iG 77 75 true (.p (.un .not)) [(.t 76)], iR 78 (.p .pick) [(.t 75), (.t 77), (.c (.bool false))], iR 79 (.p .mv) [(.t 78)], iG 80 79 true (.p .mv) [(.t 4)], iG 81 79 true (.p (.un .not)) [(.t 80)], iR 82 (.p .pick) [(.t 79), (.t 81), (.c (.bool false))], iR 83 (.p .mv) [(.t 82)],
    iG 84 83 true (.p .mv) [(.t 5)], iG 85 83 true (.p (.un .not)) [(.t 84)], iR 86 (.p .pick) [(.t 83), (.t 85), (.c (.bool false))], iR 87 (.p .mv) [(.t 86)], iG 88 87 true (.p (.fieldAddr 0)) [(.t 6)], iG 89 87 true (.l (.load none)) [(.t 88)], iG 90 87 true (.p (.bin .eql)) [(.t 89), (.c (.int .i64 (.ofNat 0)))], iR 91 (.p .pick) [(.t 87), (.t 90), (.c (.bool false))], iR 92 (.p .mv) [(.t 91)], iG 93 92 true (.p .mv) [(.t 7)], iR 94 (.p .pick) [(.t 92), (.t 93), (.c (.bool false))], iR 95 (.p .mv) [(.t 94)], iG 96 95 true (.p (.fieldAddr 0)) [(.t 8)], iG 97 95 true (.l (.load none)) [(.t 96)], iG 98 95 true (.p (.bin .eql)) [(.t 97), (.c (.int .i64 (.ofNat 1)))], iR 99 (.p .pick) [(.t 95), (.t 98), (.c (.bool false))], iR 100 (.p .mv) [(.t 99)], iG 101 100 true (.p (.fieldAddr 4)) [(.t 8)], iG 102 100 true (.l (.load none)) [(.t 101)],
    iG 103 100 true (.p (.build [(.str []), (.str [])] [(0, 1), (1, 1)])) [(.c (.str (bs [105, 102, 45, 110, 111, 110, 101, 45, 109, 97, 116, 99, 104]))), (.c (.str (bs [120])))], iG 104 100 true (.p (.build [(.str []), (.str [])] [(0, 1), (1, 1)])) [(.c (.str (bs [105, 102, 45, 109, 111, 100, 105, 102, 105, 101, 100, 45, 115, 105, 110, 99, 101]))), (.c (.str (bs [121])))], iG 105 100 true (.e (.buildSlice 2 2 [(.str []), (.str []), (.str []), (.str [])] [(0, 2), (2, 2)])) [(.t 103), (.t 104)], iG 106 100 true (.call 14) [(.t 102), (.t 105)], iR 107 (.p .pick) [(.t 100), (.t 106), (.c (.bool false))], iR 108 (.p .mv) [(.t 107)], iG 109 108 true (.p .mv) [(.t 10)], iR 110 (.p .pick) [(.t 108), (.t 109), (.c (.bool false))], iR 111 (.p .mv) [(.t 110)], iG 112 111 true (.p (.fieldAddr 1)) [(.t 9)], iG 113 111 true (.l (.load none)) [(.t 112)],
    iG 114 111 true (.p (.build [(.str []), (.str [])] [(0, 1), (1, 1)])) [(.c (.str (bs [69, 84, 97, 103]))), (.c (.str (bs [119])))], iG 115 111 true (.p (.build [(.str []), (.str [])] [(0, 1), (1, 1)])) [(.c (.str (bs [76, 97, 115, 116, 45, 77, 111, 100, 105, 102, 105, 101, 100]))), (.c (.str (bs [121])))], iG 116 111 true (.p (.build [(.str []), (.str [])] [(0, 1), (1, 1)])) [(.c (.str (bs [67, 97, 99, 104, 101, 45, 67, 111, 110, 116, 114, 111, 108]))), (.c (.str (bs [109, 97, 120, 45, 97, 103, 101, 61, 57])))], iG 117 111 true (.e (.buildSlice 3 2 (repl 6 [(.str [])]) [(0, 2), (2, 2), (4, 2)])) [(.t 114), (.t 115), (.t 116)], iG 118 111 true (.call 14) [(.t 113), (.t 117)], iR 119 (.p .pick) [(.t 111), (.t 118), (.c (.bool false))], iR 120 (.p .mv) [(.t 119)], iG 121 120 true (.p (.fieldAddr 0)) [(.t 11)], iG 122 120 true (.l (.load none)) [(.t 121)],
    iG 123 120 true (.p (.bin .eql)) [(.t 122), (.c (.int .i64 (.ofNat 2)))], iR 124 (.p .pick) [(.t 120), (.t 123), (.c (.bool false))], iR 125 (.p .mv) [(.t 124)], iG 126 125 true (.p .mv) [(.t 13)], iG 127 125 true (.p (.un .not)) [(.t 126)], iR 128 (.p .pick) [(.t 125), (.t 127), (.c (.bool false))], iR 129 (.p .mv) [(.t 128)], iG 130 129 true (.p .mv) [(.t 1)], iG 131 129 true (.call 15) [(.t 130)], iG 132 129 true (.p (.bin .eql)) [(.t 131), (.c (.int .i64 (.ofNat 16)))], iR 133 (.p .pick) [(.t 129), (.t 132), (.c (.bool false))], iR 134 (.p .mv) [(.t 133)], iG 135 134 true (.p .mv) [(.t 1)], iG 136 134 true (.call 16) [(.t 135)], iG 137 134 true (.p (.slIdx 1)) [(.t 136), (.c (.int .i64 (.ofNat 0)))], iG 138 134 true (.l (.load none)) [(.t 137)], iG 139 134 true (.p (.bin .eql)) [(.t 138), (.c (.str (bs [101])))], iR 140 (.p .pick) [(.t 134), (.t 139), (.c (.bool false))],
    iR 141 (.p .mv) [(.t 140)], iG 142 141 true (.call 17) [], iR 143 (.p .pick) [(.t 141), (.t 142), (.c (.bool false))], iR 0 (.p .mv) [(.t 143)]]) (.keep [0] (.keep [0] .ret))))))))))))))))))))))))))))))), [(.t 0)]⟩
def s_law17_CacheNumbers_j0 (call : CallK) (N : Nat) (q : KV) (st : St) (τ : Tape) : Ans := match st with
  | ⟨fr, H⟩ => getK fr 1 fun t1 => getK fr 2 fun t2 => getK fr 3 fun t3 => getK fr 4 fun t4 => getK fr 5 fun t5 => getK fr 6 fun t6 => getK fr 7 fun t7 => getK fr 8 fun t8 => getK fr 9 fun t9 => getK fr 10 fun t10 => getK fr 11 fun t11 => getK fr 13 fun t13 => unK .not t2 fun v96 => gK v96 true (fun q' => q' t3 H τ) H τ fun v97 H98 τ99 => gK v96 true (fun q' => unK .not v97 fun v => q' v H98 τ99) H98 τ99 fun v100 H101 τ102 => someK (pPick [v96, v100, (.bool false)]) fun v103 => gK v103 true (fun q' => q' t4 H101 τ102) H101 τ102 fun v104 H105 τ106 => gK v103 true (fun q' => unK .not v104 fun v => q' v H105 τ106) H105 τ106 fun v107 H108 τ109 => someK (pPick [v103, v107, (.bool false)]) fun v110 => gK v110 true (fun q' => q' t5 H108 τ109) H108 τ109 fun v111 H112 τ113 => gK v110 true (fun q' => unK .not v111 fun v => q' v H112 τ113) H112 τ113 fun v114 H115 τ116 =>
    someK (pPick [v110, v114, (.bool false)]) fun v117 => gK v117 true (fun q' => someK (pFieldAddr 0 [t6]) fun v => q' v H115 τ116) H115 τ116 fun v118 H119 τ120 => gK v117 true (fun q' => someK (lLoad1 [v118] H119) fun v => q' v H119 τ120) H119 τ120 fun v121 H122 τ123 => gK v117 true (fun q' => binK .eql v121 (.int .i64 (.ofNat 0)) fun v => q' v H122 τ123) H122 τ123 fun v124 H125 τ126 => someK (pPick [v117, v124, (.bool false)]) fun v127 => gK v127 true (fun q' => q' t7 H125 τ126) H125 τ126 fun v128 H129 τ130 => someK (pPick [v127, v128, (.bool false)]) fun v131 => gK v131 true (fun q' => someK (pFieldAddr 0 [t8]) fun v => q' v H129 τ130) H129 τ130 fun v132 H133 τ134 => gK v131 true (fun q' => someK (lLoad1 [v132] H133) fun v => q' v H133 τ134) H133 τ134 fun v135 H136 τ137 =>
    gK v131 true (fun q' => binK .eql v135 (.int .i64 (.ofNat 1)) fun v => q' v H136 τ137) H136 τ137 fun v138 H139 τ140 => someK (pPick [v131, v138, (.bool false)]) fun v141 => gK v141 true (fun q' => someK (pFieldAddr 4 [t8]) fun v => q' v H139 τ140) H139 τ140 fun v142 H143 τ144 => gK v141 true (fun q' => someK (lLoad1 [v142] H143) fun v => q' v H143 τ144) H143 τ144 fun v145 H146 τ147 => gK v141 true (fun q' => someK (pBuild [(.str []), (.str [])] [(0, 1), (1, 1)] [(.str (bs [105, 102, 45, 110, 111, 110, 101, 45, 109, 97, 116, 99, 104])), (.str (bs [120]))]) fun v => q' v H146 τ147) H146 τ147 fun v148 H149 τ150 => gK v141 true (fun q' => someK (pBuild [(.str []), (.str [])] [(0, 1), (1, 1)] [(.str (bs [105, 102, 45, 109, 111, 100, 105, 102, 105, 101, 100, 45, 115, 105, 110, 99, 101])), (.str (bs [121]))]) fun v => q' v H149 τ150) H149 τ150 fun v151 H152 τ153 =>
    gK v141 true (fun q' => effK (eBuildSlice 2 2 [(.str []), (.str []), (.str []), (.str [])] [(0, 2), (2, 2)] [v148, v151] H152 τ153) q') H152 τ153 fun v154 H155 τ156 => gK v141 true (fun q' => call f_book_Same_Header [v145, v154] H155 τ156 q') H155 τ156 fun v157 H158 τ159 => someK (pPick [v141, v157, (.bool false)]) fun v160 => gK v160 true (fun q' => q' t10 H158 τ159) H158 τ159 fun v161 H162 τ163 => someK (pPick [v160, v161, (.bool false)]) fun v164 => gK v164 true (fun q' => someK (pFieldAddr 1 [t9]) fun v => q' v H162 τ163) H162 τ163 fun v165 H166 τ167 => gK v164 true (fun q' => someK (lLoad1 [v165] H166) fun v => q' v H166 τ167) H166 τ167 fun v168 H169 τ170 => gK v164 true (fun q' => someK (pBuild [(.str []), (.str [])] [(0, 1), (1, 1)] [(.str (bs [69, 84, 97, 103])), (.str (bs [119]))]) fun v => q' v H169 τ170) H169 τ170 fun v171 H172 τ173 =>
    gK v164 true (fun q' => someK (pBuild [(.str []), (.str [])] [(0, 1), (1, 1)] [(.str (bs [76, 97, 115, 116, 45, 77, 111, 100, 105, 102, 105, 101, 100])), (.str (bs [121]))]) fun v => q' v H172 τ173) H172 τ173 fun v174 H175 τ176 => gK v164 true (fun q' => someK (pBuild [(.str []), (.str [])] [(0, 1), (1, 1)] [(.str (bs [67, 97, 99, 104, 101, 45, 67, 111, 110, 116, 114, 111, 108])), (.str (bs [109, 97, 120, 45, 97, 103, 101, 61, 57]))]) fun v => q' v H175 τ176) H175 τ176 fun v177 H178 τ179 => gK v164 true (fun q' => effK (eBuildSlice 3 2 (repl 6 [(.str [])]) [(0, 2), (2, 2), (4, 2)] [v171, v174, v177] H178 τ179) q') H178 τ179 fun v180 H181 τ182 => gK v164 true (fun q' => call f_book_Same_Header [v168, v180] H181 τ182 q') H181 τ182 fun v183 H184 τ185 => someK (pPick [v164, v183, (.bool false)]) fun v186 =>
    gK v186 true (fun q' => someK (pFieldAddr 0 [t11]) fun v => q' v H184 τ185) H184 τ185 fun v187 H188 τ189 => gK v186 true (fun q' => someK (lLoad1 [v187] H188) fun v => q' v H188 τ189) H188 τ189 fun v190 H191 τ192 => gK v186 true (fun q' => binK .eql v190 (.int .i64 (.ofNat 2)) fun v => q' v H191 τ192) H191 τ192 fun v193 H194 τ195 => someK (pPick [v186, v193, (.bool false)]) fun v196 => gK v196 true (fun q' => q' t13 H194 τ195) H194 τ195 fun v197 H198 τ199 => gK v196 true (fun q' => unK .not v197 fun v => q' v H198 τ199) H198 τ199 fun v200 H201 τ202 => someK (pPick [v196, v200, (.bool false)]) fun v203 => gK v203 true (fun q' => q' t1 H201 τ202) H201 τ202 fun v204 H205 τ206 => gK v203 true (fun q' => call f_cache_Cache_Len [v204] H205 τ206 q') H205 τ206 fun v207 H208 τ209 =>
    gK v203 true (fun q' => binK .eql v207 (.int .i64 (.ofNat 16)) fun v => q' v H208 τ209) H208 τ209 fun v210 H211 τ212 => someK (pPick [v203, v210, (.bool false)]) fun v213 => gK v213 true (fun q' => q' t1 H211 τ212) H211 τ212 fun v214 H215 τ216 => gK v213 true (fun q' => call f_cache_Cache_Urls [v214] H215 τ216 q') H215 τ216 fun v217 H218 τ219 => gK v213 true (fun q' => someK (pSlIdx 1 [v217, (.int .i64 (.ofNat 0))]) fun v => q' v H218 τ219) H218 τ219 fun v220 H221 τ222 => gK v213 true (fun q' => someK (lLoad1 [v220] H221) fun v => q' v H221 τ222) H221 τ222 fun v223 H224 τ225 => gK v213 true (fun q' => binK .eql v223 (.str (bs [101])) fun v => q' v H224 τ225) H224 τ225 fun v226 H227 τ228 => someK (pPick [v213, v226, (.bool false)]) fun v229 => gK v229 true (fun q' => call f_law17_known [] H227 τ228 q') H227 τ228 fun v230 H231 τ232 =>
    someK (pPick [v229, v230, (.bool false)]) fun v233 => q v233 H231 τ232
def s_law17_CacheNumbers_l1 (call : CallK) (N : Nat) (st : St) (τ : Tape) (k : KC) : Ans := match st with
  | ⟨fr, H⟩ => getK fr 1 fun t1 => getK fr 2 fun t2 => getK fr 3 fun t3 => getK fr 4 fun t4 => getK fr 5 fun t5 => getK fr 6 fun t6 => getK fr 7 fun t7 => getK fr 8 fun t8 => getK fr 9 fun t9 => getK fr 10 fun t10 => getK fr 11 fun t11 => getK fr 13 fun t13 => getK fr 14 fun t14 => binK .lss t14 (.int .i64 (.ofNat 20)) fun v234 => condK v234 (binK .add (.int .i64 (.ofNat 97)) t14 fun v235 => toIntK .i32 v235 fun v236 => someK (pRuneStr [v236]) fun v237 => someK (pBuild [(.int .i64 (.ofNat 0)), .nils, .nils] [(0, 1)] [(.int .i64 (.ofNat 200))]) fun v238 => call f_cache_Cache_Put [t1, v237, .nils, v238, (.int .i64 (.ofNat 0))] H τ fun v239 H240 τ241 => binK .add t14 (.int .i64 (.ofNat 1)) fun v242 =>
    k .normal ⟨(T.set (T.set (T.set (T.set (T.set (T.set (T.set (T.set (T.set (T.set (T.set (T.set (T.set (T.set (T.set (T.set .leaf 1 t1) 2 t2) 3 t3) 4 t4) 5 t5) 6 t6) 7 t7) 8 t8) 9 t9) 10 t10) 11 t11) 13 t13) 14 t14) 64 t14) 65 v242) 14 v242), H240⟩ τ241) (k (.exit 0) ⟨(T.set (T.set (T.set (T.set (T.set (T.set (T.set (T.set (T.set (T.set (T.set (T.set .leaf 1 t1) 2 t2) 3 t3) 4 t4) 5 t5) 6 t6) 7 t7) 8 t8) 9 t9) 10 t10) 11 t11) 13 t13), H⟩ τ)
def s_law17_CacheNumbers (call : CallK) (N : Nat) (H : Heap) (τ : Tape) (q : KV) : Ans := call f_cache_New [] H τ fun v0 H1 τ2 => someK (lPeq false [v0, .nilp] H1) fun v3 => condK v3 (q (.bool false) H1 τ2) (someK (pBuild [(.int .i64 (.ofNat 0)), .nils, .nils] [(0, 1)] [(.int .i64 (.ofNat 404))]) fun v4 => call f_cache_Cache_Put [v0, (.str (bs [117])), .nils, v4, (.int .i64 (.ofNat 0))] H1 τ2 fun v5 H6 τ7 => someK (pBuild [(.str []), (.str [])] [(0, 1), (1, 1)] [(.str (bs [86, 97, 114, 121])), (.str (bs [42]))]) fun v8 => effK (eBuildSlice 1 2 [(.str []), (.str [])] [(0, 2)] [v8] H6 τ7) fun v9 H10 τ11 => someK (pBuild [(.int .i64 (.ofNat 0)), .nils, .nils] [(0, 1), (1, 1)] [(.int .i64 (.ofNat 200)), v9]) fun v12 => call f_cache_Cache_Put [v0, (.str (bs [117])), .nils, v12, (.int .i64 (.ofNat 0))] H10 τ11 fun v13 H14 τ15 =>
    call f_law17_cc [(.str (bs [110, 111, 45, 115, 116, 111, 114, 101]))] H14 τ15 fun v16 H17 τ18 => someK (pBuild [(.int .i64 (.ofNat 0)), .nils, .nils] [(0, 1)] [(.int .i64 (.ofNat 200))]) fun v19 => call f_cache_Cache_Put [v0, (.str (bs [117])), v16, v19, (.int .i64 (.ofNat 0))] H17 τ18 fun v20 H21 τ22 => call f_law17_cc [(.str (bs [110, 111, 45, 115, 116, 111, 114, 101]))] H21 τ22 fun v23 H24 τ25 => someK (pBuild [(.int .i64 (.ofNat 0)), .nils, .nils] [(0, 1), (1, 1)] [(.int .i64 (.ofNat 200)), v23]) fun v26 => call f_cache_Cache_Put [v0, (.str (bs [117])), .nils, v26, (.int .i64 (.ofNat 0))] H24 τ25 fun v27 H28 τ29 => call f_cache_Cache_Find [v0, (.str (bs [117])), .nils, (.int .i64 (.ofNat 0))] H28 τ29 fun v30 H31 τ32 => effK (eAlloc [(.int .i64 (.ofNat 0)), (.int .i64 (.ofNat 0)), .nils, .nils, .nils] [] H31 τ32) fun v33 H34 τ35 =>
    effK (eStore 5 [v33, v30] H34 τ35) fun v36 H37 τ38 => someK (pBuild [(.str []), (.str [])] [(0, 1), (1, 1)] [(.str (bs [69, 84, 97, 103])), (.str (bs [120]))]) fun v39 => someK (pBuild [(.str []), (.str [])] [(0, 1), (1, 1)] [(.str (bs [76, 97, 115, 116, 45, 77, 111, 100, 105, 102, 105, 101, 100])), (.str (bs [121]))]) fun v40 => effK (eBuildSlice 2 2 [(.str []), (.str []), (.str []), (.str [])] [(0, 2), (2, 2)] [v39, v40] H37 τ38) fun v41 H42 τ43 => someK (pBuild [(.int .i64 (.ofNat 0)), .nils, .nils] [(0, 1), (1, 1)] [(.int .i64 (.ofNat 200)), v41]) fun v44 => call f_cache_Cache_Put [v0, (.str (bs [117])), .nils, v44, (.int .i64 (.ofNat 0))] H42 τ43 fun v45 H46 τ47 => call f_cache_Cache_Find [v0, (.str (bs [117])), .nils, (.int .i64 (.ofNat 0))] H46 τ47 fun v48 H49 τ50 =>
    effK (eAlloc [(.int .i64 (.ofNat 0)), (.int .i64 (.ofNat 0)), .nils, .nils, .nils] [] H49 τ50) fun v51 H52 τ53 => effK (eStore 5 [v51, v48] H52 τ53) fun v54 H55 τ56 => someK (pBuild [(.str []), (.str [])] [(0, 1), (1, 1)] [(.str (bs [67, 111, 110, 116, 101, 110, 116, 45, 84, 121, 112, 101])), (.str (bs [122]))]) fun v57 => someK (pBuild [(.str []), (.str [])] [(0, 1), (1, 1)] [(.str (bs [101, 116, 97, 103])), (.str (bs [119]))]) fun v58 => someK (pBuild [(.str []), (.str [])] [(0, 1), (1, 1)] [(.str (bs [67, 97, 99, 104, 101, 45, 67, 111, 110, 116, 114, 111, 108])), (.str (bs [109, 97, 120, 45, 97, 103, 101, 61, 57]))]) fun v59 => effK (eBuildSlice 3 2 (repl 6 [(.str [])]) [(0, 2), (2, 2), (4, 2)] [v57, v58, v59] H55 τ56) fun v60 H61 τ62 => someK (pBuild [(.int .i64 (.ofNat 0)), .nils, .nils] [(0, 1), (1, 1)] [(.int .i64 (.ofNat 304)), v60]) fun v63 =>
    call f_cache_Cache_Renew [v0, (.str (bs [117])), .nils, v63, (.int .i64 (.ofNat 5))] H61 τ62 fun v64 H65 τ66 => someK (pExtract 0 [v64]) fun v67 => someK (pExtract 1 [v64]) fun v68 => effK (eAlloc [(.int .i64 (.ofNat 0)), .nils, .nils] [] H65 τ66) fun v69 H70 τ71 => effK (eStore 3 [v69, v67] H70 τ71) fun v72 H73 τ74 => call f_cache_Cache_Find [v0, (.str (bs [117])), .nils, (.int .i64 (.ofNat 6))] H73 τ74 fun v75 H76 τ77 => effK (eAlloc [(.int .i64 (.ofNat 0)), (.int .i64 (.ofNat 0)), .nils, .nils, .nils] [] H76 τ77) fun v78 H79 τ80 => effK (eStore 5 [v78, v75] H79 τ80) fun v81 H82 τ83 => someK (pBuild [(.int .i64 (.ofNat 0)), .nils, .nils] [] []) fun v84 => call f_cache_Cache_Renew [v0, (.str (bs [118])), .nils, v84, (.int .i64 (.ofNat 0))] H82 τ83 fun v85 H86 τ87 => someK (pExtract 0 [v85]) fun v88 => someK (pExtract 1 [v85]) fun v89 =>
    effK (eAlloc [(.int .i64 (.ofNat 0)), .nils, .nils] [] H86 τ87) fun v90 H91 τ92 => effK (eStore 3 [v90, v88] H91 τ92) fun v93 H94 τ95 => loopK (s_law17_CacheNumbers_l1 call N) N ⟨(T.set (T.set (T.set (T.set (T.set (T.set (T.set (T.set (T.set (T.set (T.set (T.set (T.set .leaf 1 v0) 2 v5) 3 v13) 4 v20) 5 v27) 6 v33) 7 v45) 8 v51) 9 v69) 10 v68) 11 v78) 13 v89) 14 (.int .i64 (.ofNat 0))), H94⟩ τ95 (blockK 0 (seqK (s_law17_CacheNumbers_j0 call N q) (endK [(.t 0)] q))))
theorem s_law17_CacheNumbers_eq (call : CallK) (N : Nat) (H : Heap) (τ : Tape) (q : KV) : s_law17_CacheNumbers call N  H τ q = funK call N fn_law17_CacheNumbers [] H τ q := by kernel_rfl
def e_law17_CacheNumbers (call : CallK) (N : Nat) (vs : List V) (H : Heap) (τ : Tape) (q : KV) : Ans := match vs with | [] => s_law17_CacheNumbers call N  H τ q | _ => none
theorem e_law17_CacheNumbers_ok : EntOk fn_law17_CacheNumbers e_law17_CacheNumbers := by
  intro call N vs H τ q r h
  unfold e_law17_CacheNumbers at h
  split at h
  · rw [s_law17_CacheNumbers_eq] at h; exact h
  · cases h
theorem e_law17_CacheNumbers_nat : EntNat e_law17_CacheNumbers := by
  intro c hn N vs H τ q
  unfold e_law17_CacheNumbers
  split
  · rw [s_law17_CacheNumbers_eq, s_law17_CacheNumbers_eq]; exact funK_ent hn _ _ _ _ _ _
  · rfl
/-- ostiary/cache.New -/
def fn_cache_New : Fun := ⟨0, (.seq (.reg [iR 0 (.p .mv) [(.c .nilp)]]) (.keep [] (.seq (.reg [iR 1 (.p (.build [.nils, (.int .i64 (.ofNat 0))] [])) [], iR 2 (.e .box) [(.t 1)], iR 0 (.p .mv) [(.t 2)]]) (.keep [0] (.keep [0] .ret))))), [(.t 0)]⟩
def s_cache_New (call : CallK) (N : Nat) (H : Heap) (τ : Tape) (q : KV) : Ans := someK (pBuild [.nils, (.int .i64 (.ofNat 0))] [] []) fun v0 => effK (eBox [v0] H τ) fun v1 H2 τ3 => q v1 H2 τ3
theorem s_cache_New_eq (call : CallK) (N : Nat) (H : Heap) (τ : Tape) (q : KV) : s_cache_New call N  H τ q = funK call N fn_cache_New [] H τ q := by kernel_rfl
def e_cache_New (call : CallK) (N : Nat) (vs : List V) (H : Heap) (τ : Tape) (q : KV) : Ans := match vs with | [] => s_cache_New call N  H τ q | _ => none
theorem e_cache_New_ok : EntOk fn_cache_New e_cache_New := by
  intro call N vs H τ q r h
  unfold e_cache_New at h
  split at h
  · rw [s_cache_New_eq] at h; exact h
  · cases h
theorem e_cache_New_nat : EntNat e_cache_New := by
  intro c hn N vs H τ q
  unfold e_cache_New
  split
  · rw [s_cache_New_eq, s_cache_New_eq]; exact funK_ent hn _ _ _ _ _ _
  · rfl
/-- (*ostiary/cache.Cache).Put -/
def fn_cache_Cache_Put : Fun := ⟨5, (.seq (.reg [iR 8 (.e .box) [(.t 3)], iR 10 (.p .mv) [(.c (.bool false))]]) (.keep [0, 1, 2, 4, 8] (.seq (.reg [iR 19 (.p (.fieldAddr 1)) [(.t 8)], iR 20 (.l (.load none)) [(.t 19)], iR 21 (.call 54) [(.t 20)], iR 18 (.p .mv) [(.t 21)], iR 22 (.p (.extract 0)) [(.t 18)], iR 23 (.p (.extract 1)) [(.t 18)], iR 11 (.p .mv) [(.t 22)], iR 12 (.p .mv) [(.t 23)]]) (.keep [0, 1, 2, 4, 8, 11, 12] (.seq (.seq (.reg [iR 24 (.p (.fieldAddr 0)) [(.t 8)], iR 25 (.l (.load none)) [(.t 24)], iR 26 (.p (.bin .neq)) [(.t 25), (.c (.int .i64 (.ofNat 200)))], iR 27 (.p .mv) [(.t 26)], iG 28 27 false (.p (.fieldAddr 1)) [(.t 8)], iG 29 27 false (.l (.load none)) [(.t 28)], iG 30 27 false (.call 55) [(.t 29)], iG 31 27 false (.p (.field 0 1 false)) [(.t 30)], iR 32 (.p .pick) [(.t 27), (.c (.bool true)), (.t 31)], iR 33 (.p .mv) [(.t 32)],
    iG 34 33 false (.p .mv) [(.t 12)], iG 35 33 false (.p (.un .not)) [(.t 34)], iR 36 (.p .pick) [(.t 33), (.c (.bool true)), (.t 35)], iR 37 (.p .mv) [(.t 36)], iG 38 37 false (.p .mv) [(.t 2)], iG 39 37 false (.call 55) [(.t 38)], iG 40 37 false (.p (.field 0 1 false)) [(.t 39)], iR 41 (.p .pick) [(.t 37), (.c (.bool true)), (.t 40)]]) (.keep [0, 1, 2, 4, 8, 11, 41] (.cond (.t 41) (.seq (.reg [iR 10 (.p .mv) [(.c (.bool false))]]) (.keep [10] (.keep [10] .ret))) .skip))) (.keep [0, 1, 2, 4, 8, 11] (.seq (.draw [iR 42 (.p .mv) [(.t 0)], iR 43 (.p .mv) [(.t 0)], iR 44 (.p .nilck) [(.t 43)], iR 45 (.p (.fieldAddr 0)) [(.t 44)], ⟨(some 46), none, (.l (.load none)), [(.t 45)], some (0, 1)⟩, iR 47 (.p .mv) [(.t 1)], iR 48 (.p .mv) [(.t 2)], iR 49 (.call 57) [(.t 47), (.t 48)], iR 50 (.call 56) [(.t 46), (.t 49)], iR 51 (.p .nilck) [(.t 42)], iR 52 (.p (.fieldAddr 0)) [(.t 51)],
    ⟨none, none, (.e (.store 1)), [(.t 52), (.t 50)], none⟩]) (.keep [0, 1, 2, 4, 8, 11] (.seq (.seq (.reg [iR 53 (.p .mv) [(.t 0)], iR 54 (.p .nilck) [(.t 53)], iR 55 (.p (.fieldAddr 0)) [(.t 54)], iR 56 (.l (.load none)) [(.t 55)], iR 57 (.p .len) [(.t 56)], iR 58 (.p (.bin .geq)) [(.t 57), (.c (.int .i64 (.ofNat 16)))]]) (.keep [0, 1, 2, 4, 8, 11, 58] (.cond (.t 58) (.reg [iR 59 (.p .mv) [(.t 0)], iR 60 (.p .mv) [(.t 0)], iR 61 (.p .nilck) [(.t 60)], iR 62 (.p (.fieldAddr 0)) [(.t 61)], iR 63 (.l (.load none)) [(.t 62)], iR 64 (.call 58) [(.t 63), (.c (.int .i64 (.ofNat 0))), (.c (.int .i64 (.ofNat 1)))], iR 65 (.p .nilck) [(.t 59)], iR 66 (.p (.fieldAddr 0)) [(.t 65)], ⟨none, none, (.e (.store 1)), [(.t 66), (.t 64)], none⟩]) .skip))) (.keep [0, 1, 2, 4, 8, 11] (.seq (.reg [iR 67 (.p .mv) [(.t 1)], iR 68 (.l (.load (some 3))) [(.t 8)], iR 69 (.call 59) [(.t 68)],
    iR 70 (.p (.build [(.str []), .nils, (.int .i64 (.ofNat 0)), .nils, .nils, (.int .i64 (.ofNat 0)), (.int .i64 (.ofNat 0))] [(0, 1), (2, 3)])) [(.t 67), (.t 69)], iR 71 (.e .box) [(.t 70)], iR 13 (.p .mv) [(.t 71)]]) (.keep [0, 2, 4, 11, 13] (.seq (.seq (.reg [iR 72 (.p .mv) [(.t 11)], iR 73 (.p .len) [(.t 72)], iR 74 (.p .mv) [(.c (.int .i64 (.ofNat 0)))]]) (.keep [0, 2, 4, 13, 72, 73, 74] (.block 0 (.loop (.keep [0, 2, 4, 13, 72, 73, 74] (.seq (.reg [iR 75 (.p (.bin .lss)) [(.t 74), (.t 73)]]) (.keep [0, 2, 4, 13, 72, 73, 74, 75] (.seq (.cond (.t 75) .skip (.keep [0, 4, 13] (.exit 0))) (.keep [0, 2, 4, 13, 72, 73, 74] (.seq (.block 1 (.seq (.reg [iR 76 (.p (.slIdx 1)) [(.t 72), (.t 74)], iR 77 (.l (.load none)) [(.t 76)], iR 15 (.p .mv) [(.t 77)]]) (.keep [0, 2, 4, 13, 15, 72, 73, 74] (.seq (.reg [iR 79 (.p .mv) [(.t 2)], iR 80 (.p .mv) [(.t 15)],
    iR 81 (.call 60) [(.t 79), (.t 80)], iR 78 (.p .mv) [(.t 81)], iR 82 (.p (.extract 0)) [(.t 78)], iR 83 (.p (.extract 1)) [(.t 78)], iR 16 (.p .mv) [(.t 82)], iR 17 (.p .mv) [(.t 83)]]) (.keep [0, 2, 4, 13, 15, 16, 17, 72, 73, 74] (.reg [iR 84 (.p .mv) [(.t 13)], iR 85 (.p .mv) [(.t 13)], iR 86 (.p .nilck) [(.t 85)], iR 87 (.p (.fieldAddr 1)) [(.t 86)], iR 88 (.l (.load none)) [(.t 87)], iR 89 (.p .mv) [(.t 15)], iR 90 (.p .mv) [(.t 16)], iR 91 (.p .mv) [(.t 17)], iR 92 (.p (.build [(.str []), (.str []), (.bool false)] [(0, 1), (1, 1), (2, 1)])) [(.t 89), (.t 90), (.t 91)], iR 93 (.e (.buildSlice 1 3 [(.str []), (.str []), (.bool false)] [(0, 3)])) [(.t 92)], iR 94 (.e (.append 3 40)) [(.t 88), (.t 93)], iR 95 (.p .nilck) [(.t 84)], iR 96 (.p (.fieldAddr 1)) [(.t 95)], ⟨none, none, (.e (.store 1)), [(.t 96), (.t 94)], none⟩]))))))
    (.keep [0, 2, 4, 13, 72, 73, 74] (.reg [iR 97 (.p (.bin .add)) [(.t 74), (.c (.int .i64 (.ofNat 1)))], iR 74 (.p .mv) [(.t 97)]])))))))))))) (.keep [0, 4, 13] (.seq (.reg [iR 98 (.p .mv) [(.t 0)], iR 99 (.p .mv) [(.t 13)], iR 100 (.p .mv) [(.t 4)], iR 101 (.call 61) [(.t 98), (.t 99), (.t 100)]]) (.keep [] (.seq (.reg [iR 10 (.p .mv) [(.c (.bool true))]]) (.keep [10] (.keep [10] .ret))))))))))))))))))), [(.t 10)]⟩
def s_cache_Cache_Put_j1 (call : CallK) (N : Nat) (q : KV) (st : St) (τ : Tape) : Ans := match st with
  | ⟨fr, H⟩ => getK fr 0 fun t0 => getK fr 4 fun t4 => getK fr 13 fun t13 => call f_cache_Cache_store [t0, t13, t4] H τ fun v71 H72 τ73 => q (.bool true) H72 τ73
def s_cache_Cache_Put_l2 (call : CallK) (N : Nat) (st : St) (τ : Tape) (k : KC) : Ans := match st with
  | ⟨fr, H⟩ => getK fr 0 fun t0 => getK fr 2 fun t2 => getK fr 4 fun t4 => getK fr 13 fun t13 => getK fr 72 fun t72 => getK fr 73 fun t73 => getK fr 74 fun t74 => binK .lss t74 t73 fun v74 => condK v74 (someK (pSlIdx 1 [t72, t74]) fun v75 => someK (lLoad1 [v75] H) fun v76 => call f_headers_Get [t2, v76] H τ fun v77 H78 τ79 => someK (pExtract 0 [v77]) fun v80 => someK (pExtract 1 [v77]) fun v81 => someK (pNilck [t13]) fun v82 => someK (pFieldAddr 1 [v82]) fun v83 => someK (lLoad1 [v83] H78) fun v84 => someK (pBuild [(.str []), (.str []), (.bool false)] [(0, 1), (1, 1), (2, 1)] [v76, v80, v81]) fun v85 => effK (eBuildSlice 1 3 [(.str []), (.str []), (.bool false)] [(0, 3)] [v85] H78 τ79) fun v86 H87 τ88 => effK (eAppend 3 40 [v84, v86] H87 τ88) fun v89 H90 τ91 => someK (pNilck [t13]) fun v92 => someK (pFieldAddr 1 [v92]) fun v93 => effK (eStore 1 [v93, v89] H90 τ91) fun v94 H95 τ96 =>
    binK .add t74 (.int .i64 (.ofNat 1)) fun v97 => k .normal ⟨(T.set (T.set (T.set (T.set (T.set (T.set (T.set (T.set (T.set .leaf 0 t0) 2 t2) 4 t4) 13 t13) 72 t72) 73 t73) 74 t74) 97 v97) 74 v97), H95⟩ τ96) (k (.exit 0) ⟨(T.set (T.set (T.set .leaf 0 t0) 4 t4) 13 t13), H⟩ τ)
def s_cache_Cache_Put_j0 (call : CallK) (N : Nat) (q : KV) (st : St) (τ : Tape) : Ans := match st with
  | ⟨fr, H⟩ => getK fr 0 fun t0 => getK fr 1 fun t1 => getK fr 2 fun t2 => getK fr 4 fun t4 => getK fr 8 fun t8 => getK fr 11 fun t11 => someK (lLoadN 3 [t8] H) fun v62 => call f_cache_copied [v62] H τ fun v63 H64 τ65 => someK (pBuild [(.str []), .nils, (.int .i64 (.ofNat 0)), .nils, .nils, (.int .i64 (.ofNat 0)), (.int .i64 (.ofNat 0))] [(0, 1), (2, 3)] [t1, v63]) fun v66 => effK (eBox [v66] H64 τ65) fun v67 H68 τ69 => someK (pLen [t11]) fun v70 => loopK (s_cache_Cache_Put_l2 call N) N ⟨(T.set (T.set (T.set (T.set (T.set (T.set (T.set .leaf 0 t0) 2 t2) 4 t4) 13 v67) 72 t11) 73 v70) 74 (.int .i64 (.ofNat 0))), H68⟩ τ69 (blockK 0 (seqK (s_cache_Cache_Put_j1 call N q) (endK [(.t 10)] q)))
def s_cache_Cache_Put (call : CallK) (N : Nat) (a0 a1 a2 a3 a4 : V) (H : Heap) (τ : Tape) (q : KV) : Ans := effK (eBox [a3] H τ) fun v0 H1 τ2 => someK (pFieldAddr 1 [v0]) fun v3 => someK (lLoad1 [v3] H1) fun v4 => call f_age_Vary [v4] H1 τ2 fun v5 H6 τ7 => someK (pExtract 0 [v5]) fun v8 => someK (pExtract 1 [v5]) fun v9 => someK (pFieldAddr 0 [v0]) fun v10 => someK (lLoad1 [v10] H6) fun v11 => binK .neq v11 (.int .i64 (.ofNat 200)) fun v12 => gK v12 false (fun q' => someK (pFieldAddr 1 [v0]) fun v => q' v H6 τ7) H6 τ7 fun v13 H14 τ15 => gK v12 false (fun q' => someK (lLoad1 [v13] H14) fun v => q' v H14 τ15) H14 τ15 fun v16 H17 τ18 => gK v12 false (fun q' => call f_age_Parse [v16] H17 τ18 q') H17 τ18 fun v19 H20 τ21 => gK v12 false (fun q' => someK (pField 0 1 false [v19]) fun v => q' v H20 τ21) H20 τ21 fun v22 H23 τ24 => someK (pPick [v12, (.bool true), v22]) fun v25 =>
    gK v25 false (fun q' => q' v9 H23 τ24) H23 τ24 fun v26 H27 τ28 => gK v25 false (fun q' => unK .not v26 fun v => q' v H27 τ28) H27 τ28 fun v29 H30 τ31 => someK (pPick [v25, (.bool true), v29]) fun v32 => gK v32 false (fun q' => q' a2 H30 τ31) H30 τ31 fun v33 H34 τ35 => gK v32 false (fun q' => call f_age_Parse [v33] H34 τ35 q') H34 τ35 fun v36 H37 τ38 => gK v32 false (fun q' => someK (pField 0 1 false [v36]) fun v => q' v H37 τ38) H37 τ38 fun v39 H40 τ41 => someK (pPick [v32, (.bool true), v39]) fun v42 => condK v42 (q (.bool false) H40 τ41) (someK (pNilck [a0]) fun v43 => someK (pFieldAddr 0 [v43]) fun v44 => someK (lLoad1 [v44] H40) fun v45 => call f_cache_meant [a1, a2] H40 τ41 fun v46 H47 τ48 => call f_slices_DeleteFunc_cache_row [v45, v46] H47 τ48 fun v49 H50 τ51 => someK (pNilck [a0]) fun v52 => someK (pFieldAddr 0 [v52]) fun v53 =>
    effK (eStore 1 [v53, v49] H50 τ51) fun v54 H55 τ56 => bif chkLoads [H40, H47, H50, H55] (((.load none), [v44], 0, 1) :: []) then someK (pNilck [a0]) fun v57 => someK (pFieldAddr 0 [v57]) fun v58 => someK (lLoad1 [v58] H55) fun v59 => someK (pLen [v59]) fun v60 => binK .geq v60 (.int .i64 (.ofNat 16)) fun v61 => condK v61 (someK (pNilck [a0]) fun v98 => someK (pFieldAddr 0 [v98]) fun v99 => someK (lLoad1 [v99] H55) fun v100 => call f_slices_Delete_cache_row [v100, (.int .i64 (.ofNat 0)), (.int .i64 (.ofNat 1))] H55 τ56 fun v101 H102 τ103 => someK (pNilck [a0]) fun v104 => someK (pFieldAddr 0 [v104]) fun v105 => effK (eStore 1 [v105, v101] H102 τ103) fun v106 H107 τ108 =>
    s_cache_Cache_Put_j0 call N q ⟨(T.set (T.set (T.set (T.set (T.set (T.set (T.set (T.set (T.set (T.set (T.set (T.set (T.set (T.set (T.set .leaf 0 a0) 1 a1) 2 a2) 4 a4) 8 v0) 11 v8) 58 v61) 59 a0) 60 a0) 61 v98) 62 v99) 63 v100) 64 v101) 65 v104) 66 v105), H107⟩ τ108) (s_cache_Cache_Put_j0 call N q ⟨(T.set (T.set (T.set (T.set (T.set (T.set (T.set .leaf 0 a0) 1 a1) 2 a2) 4 a4) 8 v0) 11 v8) 58 v61), H55⟩ τ56) else none)
theorem s_cache_Cache_Put_eq (call : CallK) (N : Nat) (a0 a1 a2 a3 a4 : V) (H : Heap) (τ : Tape) (q : KV) : s_cache_Cache_Put call N a0 a1 a2 a3 a4 H τ q = funK call N fn_cache_Cache_Put [a0, a1, a2, a3, a4] H τ q := by kernel_rfl
def e_cache_Cache_Put (call : CallK) (N : Nat) (vs : List V) (H : Heap) (τ : Tape) (q : KV) : Ans := match vs with | [a0, a1, a2, a3, a4] => s_cache_Cache_Put call N a0 a1 a2 a3 a4 H τ q | _ => none
theorem e_cache_Cache_Put_ok : EntOk fn_cache_Cache_Put e_cache_Cache_Put := by
  intro call N vs H τ q r h
  unfold e_cache_Cache_Put at h
  split at h
  · rw [s_cache_Cache_Put_eq] at h; exact h
  · cases h
theorem e_cache_Cache_Put_nat : EntNat e_cache_Cache_Put := by
  intro c hn N vs H τ q
  unfold e_cache_Cache_Put
  split
  · rw [s_cache_Cache_Put_eq, s_cache_Cache_Put_eq]; exact funK_ent hn _ _ _ _ _ _
  · rfl
/-- ostiary/ostiarylaw17.cc -/
def fn_law17_cc : Fun := ⟨1, (.seq (.reg [iR 2 (.p .mv) [(.c .nils)]]) (.keep [0] (.seq (.reg [iR 3 (.p .mv) [(.t 0)], iR 4 (.p (.build [(.str []), (.str [])] [(0, 1), (1, 1)])) [(.c (.str (bs [67, 97, 99, 104, 101, 45, 67, 111, 110, 116, 114, 111, 108]))), (.t 3)], iR 5 (.e (.buildSlice 1 2 [(.str []), (.str [])] [(0, 2)])) [(.t 4)], iR 2 (.p .mv) [(.t 5)]]) (.keep [2] (.keep [2] .ret))))), [(.t 2)]⟩
def s_law17_cc (call : CallK) (N : Nat) (a0 : V) (H : Heap) (τ : Tape) (q : KV) : Ans := someK (pBuild [(.str []), (.str [])] [(0, 1), (1, 1)] [(.str (bs [67, 97, 99, 104, 101, 45, 67, 111, 110, 116, 114, 111, 108])), a0]) fun v0 => effK (eBuildSlice 1 2 [(.str []), (.str [])] [(0, 2)] [v0] H τ) fun v1 H2 τ3 => q v1 H2 τ3
theorem s_law17_cc_eq (call : CallK) (N : Nat) (a0 : V) (H : Heap) (τ : Tape) (q : KV) : s_law17_cc call N a0 H τ q = funK call N fn_law17_cc [a0] H τ q := by kernel_rfl
def e_law17_cc (call : CallK) (N : Nat) (vs : List V) (H : Heap) (τ : Tape) (q : KV) : Ans := match vs with | [a0] => s_law17_cc call N a0 H τ q | _ => none
theorem e_law17_cc_ok : EntOk fn_law17_cc e_law17_cc := by
  intro call N vs H τ q r h
  unfold e_law17_cc at h
  split at h
  · rw [s_law17_cc_eq] at h; exact h
  · cases h
theorem e_law17_cc_nat : EntNat e_law17_cc := by
  intro c hn N vs H τ q
  unfold e_law17_cc
  split
  · rw [s_law17_cc_eq, s_law17_cc_eq]; exact funK_ent hn _ _ _ _ _ _
  · rfl
/-- (*ostiary/cache.Cache).Find -/
def fn_cache_Cache_Find : Fun := ⟨4, (.seq (.reg [iR 8 (.e (.alloc [(.int .i64 (.ofNat 0)), (.int .i64 (.ofNat 0)), .nils, .nils, .nils])) []]) (.keep [0, 1, 2, 3, 8] (.seq (.reg [iR 18 (.p .mv) [(.t 0)], iR 19 (.p .mv) [(.t 1)], iR 20 (.p .mv) [(.t 2)], iR 21 (.call 62) [(.t 18), (.t 19), (.t 20)], iR 9 (.p .mv) [(.t 21)]]) (.keep [0, 2, 3, 8, 9] (.seq (.seq (.reg [iR 22 (.p .mv) [(.t 9)], iR 23 (.l (.peq false)) [(.t 22), (.c .nilp)]]) (.keep [0, 2, 3, 8, 9, 23] (.cond (.t 23) (.seq (.reg [iR 24 (.p (.build [(.int .i64 (.ofNat 0)), (.int .i64 (.ofNat 0)), .nils, .nils, .nils] [])) [], ⟨none, none, (.e (.store 5)), [(.t 8), (.t 24)], none⟩]) (.keep [8] (.keep [8] .ret))) .skip))) (.keep [0, 2, 3, 8, 9] (.seq (.reg [iR 25 (.p .mv) [(.t 0)], iR 26 (.p .mv) [(.t 9)], iR 27 (.call 63) [(.t 25), (.t 26)]]) (.keep [2, 3, 8, 9] (.seq (.reg [iR 28 (.p .mv) [(.t 9)],
    iR 29 (.p .nilck) [(.t 28)], iR 30 (.p (.fieldAddr 2)) [(.t 29)], iR 31 (.l (.load (some 3))) [(.t 30)], iR 32 (.call 59) [(.t 31)], iR 33 (.p (.build [(.int .i64 (.ofNat 0)), (.int .i64 (.ofNat 0)), .nils, .nils, .nils] [(0, 1), (1, 3)])) [(.c (.int .i64 (.ofNat 2))), (.t 32)], iR 10 (.e (.alloc [(.int .i64 (.ofNat 0)), (.int .i64 (.ofNat 0)), .nils, .nils, .nils])) [], ⟨none, none, (.e (.store 5)), [(.t 10), (.t 33)], none⟩]) (.keep [2, 3, 8, 9, 10] (.seq (.reg [iR 34 (.p .mv) [(.t 9)], iR 35 (.p .nilck) [(.t 34)], iR 36 (.p (.fieldAddr 2)) [(.t 35)], iR 37 (.p (.fieldAddr 1)) [(.t 36)], iR 38 (.l (.load none)) [(.t 37)], iR 11 (.p .mv) [(.t 38)]]) (.keep [2, 3, 8, 9, 10, 11] (.seq (.seq (.reg [iR 40 (.p .mv) [(.t 11)], iR 41 (.p .mv) [(.t 11)], iR 42 (.p .mv) [(.t 9)], iR 43 (.p .nilck) [(.t 42)], iR 44 (.p (.fieldAddr 5)) [(.t 43)], iR 45 (.l (.load none)) [(.t 44)],
    iR 46 (.p .mv) [(.t 3)], iR 47 (.call 66) [(.t 41), (.t 45), (.t 46)], iR 48 (.call 65) [(.t 47), (.c (.int .i64 (.ofNat 10)))], iR 49 (.call 64) [(.t 40), (.c (.str (bs [97, 103, 101]))), (.t 48)], iR 39 (.p .mv) [(.t 49)], iR 50 (.p (.extract 0)) [(.t 39)], iR 51 (.p (.extract 1)) [(.t 39)], iR 12 (.p .mv) [(.t 50)], iR 13 (.p .mv) [(.t 51)]]) (.keep [2, 3, 8, 9, 10, 11, 12, 13] (.seq (.reg [iR 52 (.p .mv) [(.t 13)], iR 53 (.p (.bin .eql)) [(.t 52), (.c (.int .i64 (.ofNat 0)))]]) (.keep [2, 3, 8, 9, 10, 11, 12, 53] (.cond (.t 53) (.reg [iR 54 (.p .mv) [(.t 12)], iR 55 (.p (.fieldAddr 1)) [(.t 10)], iR 56 (.p (.fieldAddr 1)) [(.t 55)], ⟨none, none, (.e (.store 1)), [(.t 56), (.t 54)], none⟩]) .skip))))) (.keep [2, 3, 8, 9, 10, 11] (.seq (.seq (.reg [iR 57 (.p .mv) [(.t 11)], iR 58 (.p .mv) [(.t 9)], iR 59 (.p .nilck) [(.t 58)], iR 60 (.p (.fieldAddr 5)) [(.t 59)],
    iR 61 (.l (.load none)) [(.t 60)], iR 62 (.p .mv) [(.t 3)], iR 63 (.call 67) [(.t 57), (.t 61), (.t 62)], iR 64 (.p .mv) [(.t 63)], iG 65 64 true (.p .mv) [(.t 2)], iG 66 64 true (.call 55) [(.t 65)], iG 67 64 true (.p (.field 1 1 false)) [(.t 66)], iG 68 64 true (.p (.un .not)) [(.t 67)], iR 69 (.p .pick) [(.t 64), (.t 68), (.c (.bool false))]]) (.keep [8, 10, 11, 69] (.cond (.t 69) (.seq (.reg [iR 70 (.l (.load (some 5))) [(.t 10)], ⟨none, none, (.e (.store 5)), [(.t 8), (.t 70)], none⟩]) (.keep [8] (.keep [8] .ret))) .skip))) (.keep [8, 10, 11] (.seq (.reg [iR 71 (.p (.fieldAddr 0)) [(.t 10)], ⟨none, none, (.e (.store 1)), [(.t 71), (.c (.int .i64 (.ofNat 1)))], none⟩]) (.keep [8, 10, 11] (.seq (.seq (.reg [iR 73 (.p .mv) [(.t 11)], iR 74 (.call 60) [(.t 73), (.c (.str (bs [101, 116, 97, 103])))], iR 72 (.p .mv) [(.t 74)], iR 75 (.p (.extract 0)) [(.t 72)],
    iR 76 (.p (.extract 1)) [(.t 72)], iR 14 (.p .mv) [(.t 75)], iR 15 (.p .mv) [(.t 76)]]) (.keep [8, 10, 11, 14, 15] (.seq (.reg [iR 77 (.p .mv) [(.t 15)]]) (.keep [8, 10, 11, 14, 77] (.cond (.t 77) (.reg [iR 78 (.p (.fieldAddr 4)) [(.t 10)], iR 79 (.l (.load none)) [(.t 78)], iR 80 (.p .mv) [(.t 14)], iR 81 (.p (.build [(.str []), (.str [])] [(0, 1), (1, 1)])) [(.c (.str (bs [105, 102, 45, 110, 111, 110, 101, 45, 109, 97, 116, 99, 104]))), (.t 80)], iR 82 (.e (.buildSlice 1 2 [(.str []), (.str [])] [(0, 2)])) [(.t 81)], iR 83 (.e (.append 2 32)) [(.t 79), (.t 82)], iR 84 (.p (.fieldAddr 4)) [(.t 10)], ⟨none, none, (.e (.store 1)), [(.t 84), (.t 83)], none⟩]) .skip))))) (.keep [8, 10, 11] (.seq (.seq (.reg [iR 86 (.p .mv) [(.t 11)], iR 87 (.call 60) [(.t 86), (.c (.str (bs [108, 97, 115, 116, 45, 109, 111, 100, 105, 102, 105, 101, 100])))], iR 85 (.p .mv) [(.t 87)],
    iR 88 (.p (.extract 0)) [(.t 85)], iR 89 (.p (.extract 1)) [(.t 85)], iR 16 (.p .mv) [(.t 88)], iR 17 (.p .mv) [(.t 89)]]) (.keep [8, 10, 16, 17] (.seq (.reg [iR 90 (.p .mv) [(.t 17)]]) (.keep [8, 10, 16, 90] (.cond (.t 90) (.reg [iR 91 (.p (.fieldAddr 4)) [(.t 10)], iR 92 (.l (.load none)) [(.t 91)], iR 93 (.p .mv) [(.t 16)], iR 94 (.p (.build [(.str []), (.str [])] [(0, 1), (1, 1)])) [(.c (.str (bs [105, 102, 45, 109, 111, 100, 105, 102, 105, 101, 100, 45, 115, 105, 110, 99, 101]))), (.t 93)], iR 95 (.e (.buildSlice 1 2 [(.str []), (.str [])] [(0, 2)])) [(.t 94)], iR 96 (.e (.append 2 32)) [(.t 92), (.t 95)], iR 97 (.p (.fieldAddr 4)) [(.t 10)], ⟨none, none, (.e (.store 1)), [(.t 97), (.t 96)], none⟩]) .skip))))) (.keep [8, 10] (.seq (.reg [iR 98 (.l (.load (some 5))) [(.t 10)], ⟨none, none, (.e (.store 5)), [(.t 8), (.t 98)], none⟩])
    (.keep [8] (.keep [8] .ret))))))))))))))))))))))))), [(.cell 8 (some 5))]⟩
def s_cache_Cache_Find_j2 (call : CallK) (N : Nat) (q : KV) (st : St) (τ : Tape) : Ans := match st with
  | ⟨fr, H⟩ => getK fr 8 fun t8 => getK fr 10 fun t10 => someK (lLoadN 5 [t10] H) fun v83 => effK (eStore 5 [t8, v83] H τ) fun v84 H85 τ86 => someK (results ⟨(T.set .leaf 8 t8), H85⟩ [(.cell 8 (some 5))]) fun v => q v H85 τ86
def s_cache_Cache_Find_j1 (call : CallK) (N : Nat) (q : KV) (st : St) (τ : Tape) : Ans := match st with
  | ⟨fr, H⟩ => getK fr 8 fun t8 => getK fr 10 fun t10 => getK fr 11 fun t11 => call f_headers_Get [t11, (.str (bs [108, 97, 115, 116, 45, 109, 111, 100, 105, 102, 105, 101, 100]))] H τ fun v78 H79 τ80 => someK (pExtract 0 [v78]) fun v81 => someK (pExtract 1 [v78]) fun v82 => condK v82 (someK (pFieldAddr 4 [t10]) fun v87 => someK (lLoad1 [v87] H79) fun v88 => someK (pBuild [(.str []), (.str [])] [(0, 1), (1, 1)] [(.str (bs [105, 102, 45, 109, 111, 100, 105, 102, 105, 101, 100, 45, 115, 105, 110, 99, 101])), v81]) fun v89 => effK (eBuildSlice 1 2 [(.str []), (.str [])] [(0, 2)] [v89] H79 τ80) fun v90 H91 τ92 => effK (eAppend 2 32 [v88, v90] H91 τ92) fun v93 H94 τ95 => someK (pFieldAddr 4 [t10]) fun v96 => effK (eStore 1 [v96, v93] H94 τ95) fun v97 H98 τ99 =>
    s_cache_Cache_Find_j2 call N q ⟨(T.set (T.set (T.set (T.set (T.set (T.set (T.set (T.set (T.set (T.set (T.set .leaf 8 t8) 10 t10) 16 v81) 90 v82) 91 v87) 92 v88) 93 v81) 94 v89) 95 v90) 96 v93) 97 v96), H98⟩ τ99) (s_cache_Cache_Find_j2 call N q ⟨(T.set (T.set (T.set (T.set .leaf 8 t8) 10 t10) 16 v81) 90 v82), H79⟩ τ80)
def s_cache_Cache_Find_j0 (call : CallK) (N : Nat) (q : KV) (st : St) (τ : Tape) : Ans := match st with
  | ⟨fr, H⟩ => getK fr 2 fun t2 => getK fr 3 fun t3 => getK fr 8 fun t8 => getK fr 9 fun t9 => getK fr 10 fun t10 => getK fr 11 fun t11 => someK (pNilck [t9]) fun v46 => someK (pFieldAddr 5 [v46]) fun v47 => someK (lLoad1 [v47] H) fun v48 => call f_age_Fresh [t11, v48, t3] H τ fun v49 H50 τ51 => gK v49 true (fun q' => q' t2 H50 τ51) H50 τ51 fun v52 H53 τ54 => gK v49 true (fun q' => call f_age_Parse [v52] H53 τ54 q') H53 τ54 fun v55 H56 τ57 => gK v49 true (fun q' => someK (pField 1 1 false [v55]) fun v => q' v H56 τ57) H56 τ57 fun v58 H59 τ60 => gK v49 true (fun q' => unK .not v58 fun v => q' v H59 τ60) H59 τ60 fun v61 H62 τ63 => someK (pPick [v49, v61, (.bool false)]) fun v64 => condK v64 (someK (lLoadN 5 [t10] H62) fun v65 => effK (eStore 5 [t8, v65] H62 τ63) fun v66 H67 τ68 => someK (results ⟨(T.set .leaf 8 t8), H67⟩ [(.cell 8 (some 5))]) fun v => q v H67 τ68)
    (someK (pFieldAddr 0 [t10]) fun v69 => effK (eStore 1 [v69, (.int .i64 (.ofNat 1))] H62 τ63) fun v70 H71 τ72 => call f_headers_Get [t11, (.str (bs [101, 116, 97, 103]))] H71 τ72 fun v73 H74 τ75 => someK (pExtract 0 [v73]) fun v76 => someK (pExtract 1 [v73]) fun v77 => condK v77 (someK (pFieldAddr 4 [t10]) fun v100 => someK (lLoad1 [v100] H74) fun v101 => someK (pBuild [(.str []), (.str [])] [(0, 1), (1, 1)] [(.str (bs [105, 102, 45, 110, 111, 110, 101, 45, 109, 97, 116, 99, 104])), v76]) fun v102 => effK (eBuildSlice 1 2 [(.str []), (.str [])] [(0, 2)] [v102] H74 τ75) fun v103 H104 τ105 => effK (eAppend 2 32 [v101, v103] H104 τ105) fun v106 H107 τ108 => someK (pFieldAddr 4 [t10]) fun v109 => effK (eStore 1 [v109, v106] H107 τ108) fun v110 H111 τ112 =>
    s_cache_Cache_Find_j1 call N q ⟨(T.set (T.set (T.set (T.set (T.set (T.set (T.set (T.set (T.set (T.set (T.set (T.set .leaf 8 t8) 10 t10) 11 t11) 14 v76) 77 v77) 78 v100) 79 v101) 80 v76) 81 v102) 82 v103) 83 v106) 84 v109), H111⟩ τ112) (s_cache_Cache_Find_j1 call N q ⟨(T.set (T.set (T.set (T.set (T.set .leaf 8 t8) 10 t10) 11 t11) 14 v76) 77 v77), H74⟩ τ75))
def s_cache_Cache_Find (call : CallK) (N : Nat) (a0 a1 a2 a3 : V) (H : Heap) (τ : Tape) (q : KV) : Ans := effK (eAlloc [(.int .i64 (.ofNat 0)), (.int .i64 (.ofNat 0)), .nils, .nils, .nils] [] H τ) fun v0 H1 τ2 => call f_cache_Cache_find [a0, a1, a2] H1 τ2 fun v3 H4 τ5 => someK (lPeq false [v3, .nilp] H4) fun v6 => condK v6 (someK (pBuild [(.int .i64 (.ofNat 0)), (.int .i64 (.ofNat 0)), .nils, .nils, .nils] [] []) fun v7 => effK (eStore 5 [v0, v7] H4 τ5) fun v8 H9 τ10 => someK (results ⟨(T.set .leaf 8 v0), H9⟩ [(.cell 8 (some 5))]) fun v => q v H9 τ10) (call f_cache_Cache_use [a0, v3] H4 τ5 fun v11 H12 τ13 => someK (pNilck [v3]) fun v14 => someK (pFieldAddr 2 [v14]) fun v15 => someK (lLoadN 3 [v15] H12) fun v16 => call f_cache_copied [v16] H12 τ13 fun v17 H18 τ19 =>
    someK (pBuild [(.int .i64 (.ofNat 0)), (.int .i64 (.ofNat 0)), .nils, .nils, .nils] [(0, 1), (1, 3)] [(.int .i64 (.ofNat 2)), v17]) fun v20 => effK (eAlloc [(.int .i64 (.ofNat 0)), (.int .i64 (.ofNat 0)), .nils, .nils, .nils] [] H18 τ19) fun v21 H22 τ23 => effK (eStore 5 [v21, v20] H22 τ23) fun v24 H25 τ26 => someK (pNilck [v3]) fun v27 => someK (pFieldAddr 2 [v27]) fun v28 => someK (pFieldAddr 1 [v28]) fun v29 => someK (lLoad1 [v29] H25) fun v30 => someK (pNilck [v3]) fun v31 => someK (pFieldAddr 5 [v31]) fun v32 => someK (lLoad1 [v32] H25) fun v33 => call f_age_Age [v30, v33, a3] H25 τ26 fun v34 H35 τ36 => call f_strconv_FormatInt [v34, (.int .i64 (.ofNat 10))] H35 τ36 fun v37 H38 τ39 => call f_headers_Set [v30, (.str (bs [97, 103, 101])), v37] H38 τ39 fun v40 H41 τ42 => someK (pExtract 0 [v40]) fun v43 => someK (pExtract 1 [v40]) fun v44 =>
    binK .eql v44 (.int .i64 (.ofNat 0)) fun v45 => condK v45 (someK (pFieldAddr 1 [v21]) fun v113 => someK (pFieldAddr 1 [v113]) fun v114 => effK (eStore 1 [v114, v43] H41 τ42) fun v115 H116 τ117 => s_cache_Cache_Find_j0 call N q ⟨(T.set (T.set (T.set (T.set (T.set (T.set (T.set (T.set (T.set (T.set (T.set .leaf 2 a2) 3 a3) 8 v0) 9 v3) 10 v21) 11 v30) 12 v43) 53 v45) 54 v43) 55 v113) 56 v114), H116⟩ τ117) (s_cache_Cache_Find_j0 call N q ⟨(T.set (T.set (T.set (T.set (T.set (T.set (T.set (T.set .leaf 2 a2) 3 a3) 8 v0) 9 v3) 10 v21) 11 v30) 12 v43) 53 v45), H41⟩ τ42))
theorem s_cache_Cache_Find_eq (call : CallK) (N : Nat) (a0 a1 a2 a3 : V) (H : Heap) (τ : Tape) (q : KV) : s_cache_Cache_Find call N a0 a1 a2 a3 H τ q = funK call N fn_cache_Cache_Find [a0, a1, a2, a3] H τ q := by kernel_rfl
def e_cache_Cache_Find (call : CallK) (N : Nat) (vs : List V) (H : Heap) (τ : Tape) (q : KV) : Ans := match vs with | [a0, a1, a2, a3] => s_cache_Cache_Find call N a0 a1 a2 a3 H τ q | _ => none
theorem e_cache_Cache_Find_ok : EntOk fn_cache_Cache_Find e_cache_Cache_Find := by
  intro call N vs H τ q r h
  unfold e_cache_Cache_Find at h
  split at h
  · rw [s_cache_Cache_Find_eq] at h; exact h
  · cases h
theorem e_cache_Cache_Find_nat : EntNat e_cache_Cache_Find := by
  intro c hn N vs H τ q
  unfold e_cache_Cache_Find
  split
  · rw [s_cache_Cache_Find_eq, s_cache_Cache_Find_eq]; exact funK_ent hn _ _ _ _ _ _
  · rfl
/-- (*ostiary/cache.Cache).Renew -/
def fn_cache_Cache_Renew : Fun := ⟨5, (.seq (.reg [iR 8 (.e .box) [(.t 3)], iR 10 (.e (.alloc [(.int .i64 (.ofNat 0)), .nils, .nils])) [], iR 11 (.p .mv) [(.c (.bool false))]]) (.keep [0, 1, 2, 4, 8, 10] (.seq (.reg [iR 20 (.p .mv) [(.t 0)], iR 21 (.p .mv) [(.t 1)], iR 22 (.p .mv) [(.t 2)], iR 23 (.call 62) [(.t 20), (.t 21), (.t 22)], iR 12 (.p .mv) [(.t 23)]]) (.keep [0, 4, 8, 10, 12] (.seq (.seq (.reg [iR 24 (.p .mv) [(.t 12)], iR 25 (.l (.peq false)) [(.t 24), (.c .nilp)]]) (.keep [0, 4, 8, 10, 12, 25] (.cond (.t 25) (.seq (.reg [iR 26 (.p (.build [(.int .i64 (.ofNat 0)), .nils, .nils] [])) [], ⟨none, none, (.e (.store 3)), [(.t 10), (.t 26)], none⟩, iR 11 (.p .mv) [(.c (.bool false))]]) (.keep [10, 11] (.keep [10, 11] .ret))) .skip))) (.keep [0, 4, 8, 10, 12] (.seq (.reg [iR 27 (.p .mv) [(.t 12)], iR 28 (.p .mv) [(.t 12)], iR 29 (.p .nilck) [(.t 28)],
    iR 30 (.p (.fieldAddr 2)) [(.t 29)], iR 31 (.p (.fieldAddr 1)) [(.t 30)], iR 32 (.l (.load none)) [(.t 31)], iR 33 (.call 68) [(.t 32), (.c (.str (bs [97, 103, 101])))], iR 34 (.p .nilck) [(.t 27)], iR 35 (.p (.fieldAddr 2)) [(.t 34)], iR 36 (.p (.fieldAddr 1)) [(.t 35)], ⟨none, none, (.e (.store 1)), [(.t 36), (.t 33)], none⟩]) (.keep [0, 4, 8, 10, 12] (.seq (.reg [iR 37 (.p (.fieldAddr 1)) [(.t 8)], iR 38 (.l (.load none)) [(.t 37)], iR 39 (.call 69) [(.t 38)], iR 13 (.p .mv) [(.t 39)]])
    (.keep [0, 4, 10, 12, 13] (.seq (.seq (.reg [iR 40 (.e (.buildSlice 4 1 [(.str []), (.str []), (.str []), (.str [])] [(0, 1), (1, 1), (2, 1), (3, 1)])) [(.c (.str (bs [99, 111, 110, 116, 101, 110, 116, 45, 108, 101, 110, 103, 116, 104]))), (.c (.str (bs [99, 111, 110, 116, 101, 110, 116, 45, 101, 110, 99, 111, 100, 105, 110, 103]))), (.c (.str (bs [99, 111, 110, 116, 101, 110, 116, 45, 116, 121, 112, 101]))), (.c (.str (bs [99, 111, 110, 116, 101, 110, 116, 45, 114, 97, 110, 103, 101])))], iR 41 (.p .len) [(.t 40)], iR 42 (.p .mv) [(.c (.int .i64 (.ofNat 0)))]]) (.keep [0, 4, 10, 12, 13, 40, 41, 42] (.block 0 (.loop (.keep [0, 4, 10, 12, 13, 40, 41, 42] (.seq (.reg [iR 43 (.p (.bin .lss)) [(.t 42), (.t 41)]]) (.keep [0, 4, 10, 12, 13, 40, 41, 42, 43] (.seq (.cond (.t 43) .skip (.keep [0, 4, 10, 12, 13] (.exit 0))) (.keep [0, 4, 10, 12, 13, 40, 41, 42] (.seq (.block 1
    (.seq (.reg [iR 44 (.p (.slIdx 1)) [(.t 40), (.t 42)], iR 45 (.l (.load none)) [(.t 44)], iR 15 (.p .mv) [(.t 45)]]) (.keep [0, 4, 10, 12, 13, 15, 40, 41, 42] (.reg [iR 46 (.p .mv) [(.t 13)], iR 47 (.p .mv) [(.t 15)], iR 48 (.call 68) [(.t 46), (.t 47)], iR 13 (.p .mv) [(.t 48)]])))) (.keep [0, 4, 10, 12, 13, 40, 41, 42] (.reg [iR 49 (.p (.bin .add)) [(.t 42), (.c (.int .i64 (.ofNat 1)))], iR 42 (.p .mv) [(.t 49)]])))))))))))) (.keep [0, 4, 10, 12, 13] (.seq (.seq (.reg [iR 50 (.p .mv) [(.t 13)], iR 51 (.p .len) [(.t 50)], iR 52 (.p .mv) [(.c (.int .i64 (.ofNat 0)))]]) (.keep [0, 4, 10, 12, 50, 51, 52] (.block 2 (.loop (.keep [0, 4, 10, 12, 50, 51, 52] (.seq (.reg [iR 53 (.p (.bin .lss)) [(.t 52), (.t 51)]]) (.keep [0, 4, 10, 12, 50, 51, 52, 53] (.seq (.cond (.t 53) .skip (.keep [0, 4, 10, 12] (.exit 2))) (.keep [0, 4, 10, 12, 50, 51, 52] (.seq (.block 3
    (.seq (.reg [iR 54 (.p (.slIdx 2)) [(.t 50), (.t 52)], iR 55 (.l (.load (some 2))) [(.t 54)], iR 17 (.e (.alloc [(.str []), (.str [])])) [], ⟨none, none, (.e (.store 2)), [(.t 17), (.t 55)], none⟩]) (.keep [0, 4, 10, 12, 17, 50, 51, 52] (.seq (.draw [iR 57 (.p .mv) [(.t 12)], iR 58 (.p .nilck) [(.t 57)], iR 59 (.p (.fieldAddr 2)) [(.t 58)], iR 60 (.p (.fieldAddr 1)) [(.t 59)], iR 61 (.l (.load none)) [(.t 60)], iR 62 (.p (.fieldAddr 0)) [(.t 17)], iR 63 (.l (.load none)) [(.t 62)], iR 64 (.p (.fieldAddr 1)) [(.t 17)], iR 65 (.l (.load none)) [(.t 64)], iR 66 (.call 64) [(.t 61), (.t 63), (.t 65)], iR 56 (.p .mv) [(.t 66)], iR 67 (.p (.extract 0)) [(.t 56)], iR 68 (.p (.extract 1)) [(.t 56)], iR 18 (.p .mv) [(.t 67)], iR 19 (.p .mv) [(.t 68)]]) (.keep [0, 4, 10, 12, 18, 19, 50, 51, 52] (.seq (.reg [iR 69 (.p .mv) [(.t 19)],
    iR 70 (.p (.bin .eql)) [(.t 69), (.c (.int .i64 (.ofNat 0)))]]) (.keep [0, 4, 10, 12, 18, 50, 51, 52, 70] (.cond (.t 70) (.reg [iR 71 (.p .mv) [(.t 12)], iR 72 (.p .mv) [(.t 18)], iR 73 (.p .nilck) [(.t 71)], iR 74 (.p (.fieldAddr 2)) [(.t 73)], iR 75 (.p (.fieldAddr 1)) [(.t 74)], ⟨none, none, (.e (.store 1)), [(.t 75), (.t 72)], none⟩]) .skip)))))))) (.keep [0, 4, 10, 12, 50, 51, 52] (.reg [iR 76 (.p (.bin .add)) [(.t 52), (.c (.int .i64 (.ofNat 1)))], iR 52 (.p .mv) [(.t 76)]])))))))))))) (.keep [0, 4, 10, 12] (.seq (.reg [iR 77 (.p .mv) [(.t 0)], iR 78 (.p .mv) [(.t 12)], iR 79 (.p .mv) [(.t 4)], iR 80 (.call 61) [(.t 77), (.t 78), (.t 79)]]) (.keep [10, 12] (.seq (.reg [iR 81 (.p .mv) [(.t 12)], iR 82 (.p .nilck) [(.t 81)], iR 83 (.p (.fieldAddr 2)) [(.t 82)], iR 84 (.l (.load (some 3))) [(.t 83)], iR 85 (.call 59) [(.t 84)],
    ⟨none, none, (.e (.store 3)), [(.t 10), (.t 85)], none⟩, iR 11 (.p .mv) [(.c (.bool true))]]) (.keep [10, 11] (.keep [10, 11] .ret))))))))))))))))))), [(.cell 10 (some 3)), (.t 11)]⟩
def s_cache_Cache_Renew_j1 (call : CallK) (N : Nat) (q : KV) (st : St) (τ : Tape) : Ans := match st with
  | ⟨fr, H⟩ => getK fr 0 fun t0 => getK fr 4 fun t4 => getK fr 10 fun t10 => getK fr 12 fun t12 => call f_cache_Cache_store [t0, t12, t4] H τ fun v37 H38 τ39 => someK (pNilck [t12]) fun v40 => someK (pFieldAddr 2 [v40]) fun v41 => someK (lLoadN 3 [v41] H38) fun v42 => call f_cache_copied [v42] H38 τ39 fun v43 H44 τ45 => effK (eStore 3 [t10, v43] H44 τ45) fun v46 H47 τ48 => someK (results ⟨(T.set (T.set .leaf 10 t10) 11 (.bool true)), H47⟩ [(.cell 10 (some 3)), (.t 11)]) fun v => q v H47 τ48
def s_cache_Cache_Renew_j3 (call : CallK) (N : Nat) (k : KC) (st : St) (τ : Tape) : Ans := match st with
  | ⟨fr, H⟩ => getK fr 0 fun t0 => getK fr 4 fun t4 => getK fr 10 fun t10 => getK fr 12 fun t12 => getK fr 50 fun t50 => getK fr 51 fun t51 => getK fr 52 fun t52 => binK .add t52 (.int .i64 (.ofNat 1)) fun v50 => k .normal ⟨(T.set (T.set (T.set (T.set (T.set (T.set (T.set (T.set (T.set .leaf 0 t0) 4 t4) 10 t10) 12 t12) 50 t50) 51 t51) 52 t52) 76 v50) 52 v50), H⟩ τ
def s_cache_Cache_Renew_l2 (call : CallK) (N : Nat) (st : St) (τ : Tape) (k : KC) : Ans := match st with
  | ⟨fr, H⟩ => getK fr 0 fun t0 => getK fr 4 fun t4 => getK fr 10 fun t10 => getK fr 12 fun t12 => getK fr 50 fun t50 => getK fr 51 fun t51 => getK fr 52 fun t52 => binK .lss t52 t51 fun v49 => condK v49 (someK (pSlIdx 2 [t50, t52]) fun v51 => someK (lLoadN 2 [v51] H) fun v52 => effK (eAlloc [(.str []), (.str [])] [] H τ) fun v53 H54 τ55 => effK (eStore 2 [v53, v52] H54 τ55) fun v56 H57 τ58 => someK (pNilck [t12]) fun v59 => someK (pFieldAddr 2 [v59]) fun v60 => someK (pFieldAddr 1 [v60]) fun v61 => someK (lLoad1 [v61] H57) fun v62 => someK (pFieldAddr 0 [v53]) fun v63 => someK (lLoad1 [v63] H57) fun v64 => someK (pFieldAddr 1 [v53]) fun v65 => someK (lLoad1 [v65] H57) fun v66 => call f_headers_Set [v62, v64, v66] H57 τ58 fun v67 H68 τ69 => someK (pExtract 0 [v67]) fun v70 => someK (pExtract 1 [v67]) fun v71 => binK .eql v71 (.int .i64 (.ofNat 0)) fun v72 => condK v72
    (someK (pNilck [t12]) fun v73 => someK (pFieldAddr 2 [v73]) fun v74 => someK (pFieldAddr 1 [v74]) fun v75 => effK (eStore 1 [v75, v70] H68 τ69) fun v76 H77 τ78 => s_cache_Cache_Renew_j3 call N k ⟨(T.set (T.set (T.set (T.set (T.set (T.set (T.set (T.set (T.set (T.set (T.set (T.set (T.set (T.set .leaf 0 t0) 4 t4) 10 t10) 12 t12) 18 v70) 50 t50) 51 t51) 52 t52) 70 v72) 71 t12) 72 v70) 73 v73) 74 v74) 75 v75), H77⟩ τ78) (s_cache_Cache_Renew_j3 call N k ⟨(T.set (T.set (T.set (T.set (T.set (T.set (T.set (T.set (T.set .leaf 0 t0) 4 t4) 10 t10) 12 t12) 18 v70) 50 t50) 51 t51) 52 t52) 70 v72), H68⟩ τ69)) (k (.exit 2) ⟨(T.set (T.set (T.set (T.set .leaf 0 t0) 4 t4) 10 t10) 12 t12), H⟩ τ)
def s_cache_Cache_Renew_j0 (call : CallK) (N : Nat) (q : KV) (st : St) (τ : Tape) : Ans := match st with
  | ⟨fr, H⟩ => getK fr 0 fun t0 => getK fr 4 fun t4 => getK fr 10 fun t10 => getK fr 12 fun t12 => getK fr 13 fun t13 => someK (pLen [t13]) fun v36 => loopK (s_cache_Cache_Renew_l2 call N) N ⟨(T.set (T.set (T.set (T.set (T.set (T.set (T.set .leaf 0 t0) 4 t4) 10 t10) 12 t12) 50 t13) 51 v36) 52 (.int .i64 (.ofNat 0))), H⟩ τ (blockK 2 (seqK (s_cache_Cache_Renew_j1 call N q) (endK [(.cell 10 (some 3)), (.t 11)] q)))
def s_cache_Cache_Renew_l4 (call : CallK) (N : Nat) (st : St) (τ : Tape) (k : KC) : Ans := match st with
  | ⟨fr, H⟩ => getK fr 0 fun t0 => getK fr 4 fun t4 => getK fr 10 fun t10 => getK fr 12 fun t12 => getK fr 13 fun t13 => getK fr 40 fun t40 => getK fr 41 fun t41 => getK fr 42 fun t42 => binK .lss t42 t41 fun v79 => condK v79 (someK (pSlIdx 1 [t40, t42]) fun v80 => someK (lLoad1 [v80] H) fun v81 => call f_headers_Drop [t13, v81] H τ fun v82 H83 τ84 => binK .add t42 (.int .i64 (.ofNat 1)) fun v85 => k .normal ⟨(T.set (T.set (T.set (T.set (T.set (T.set (T.set (T.set (T.set (T.set .leaf 0 t0) 4 t4) 10 t10) 12 t12) 13 v82) 40 t40) 41 t41) 42 t42) 49 v85) 42 v85), H83⟩ τ84) (k (.exit 0) ⟨(T.set (T.set (T.set (T.set (T.set .leaf 0 t0) 4 t4) 10 t10) 12 t12) 13 t13), H⟩ τ)
def s_cache_Cache_Renew (call : CallK) (N : Nat) (a0 a1 a2 a3 a4 : V) (H : Heap) (τ : Tape) (q : KV) : Ans := effK (eBox [a3] H τ) fun v0 H1 τ2 => effK (eAlloc [(.int .i64 (.ofNat 0)), .nils, .nils] [] H1 τ2) fun v3 H4 τ5 => call f_cache_Cache_find [a0, a1, a2] H4 τ5 fun v6 H7 τ8 => someK (lPeq false [v6, .nilp] H7) fun v9 => condK v9 (someK (pBuild [(.int .i64 (.ofNat 0)), .nils, .nils] [] []) fun v10 => effK (eStore 3 [v3, v10] H7 τ8) fun v11 H12 τ13 => someK (results ⟨(T.set (T.set .leaf 10 v3) 11 (.bool false)), H12⟩ [(.cell 10 (some 3)), (.t 11)]) fun v => q v H12 τ13) (someK (pNilck [v6]) fun v14 => someK (pFieldAddr 2 [v14]) fun v15 => someK (pFieldAddr 1 [v15]) fun v16 => someK (lLoad1 [v16] H7) fun v17 => call f_headers_Drop [v17, (.str (bs [97, 103, 101]))] H7 τ8 fun v18 H19 τ20 => someK (pNilck [v6]) fun v21 => someK (pFieldAddr 2 [v21]) fun v22 =>
    someK (pFieldAddr 1 [v22]) fun v23 => effK (eStore 1 [v23, v18] H19 τ20) fun v24 H25 τ26 => someK (pFieldAddr 1 [v0]) fun v27 => someK (lLoad1 [v27] H25) fun v28 => call f_slices_Clone_Header [v28] H25 τ26 fun v29 H30 τ31 => effK (eBuildSlice 4 1 [(.str []), (.str []), (.str []), (.str [])] [(0, 1), (1, 1), (2, 1), (3, 1)] [(.str (bs [99, 111, 110, 116, 101, 110, 116, 45, 108, 101, 110, 103, 116, 104])), (.str (bs [99, 111, 110, 116, 101, 110, 116, 45, 101, 110, 99, 111, 100, 105, 110, 103])), (.str (bs [99, 111, 110, 116, 101, 110, 116, 45, 116, 121, 112, 101])), (.str (bs [99, 111, 110, 116, 101, 110, 116, 45, 114, 97, 110, 103, 101]))] H30 τ31) fun v32 H33 τ34 => someK (pLen [v32]) fun v35 =>
    loopK (s_cache_Cache_Renew_l4 call N) N ⟨(T.set (T.set (T.set (T.set (T.set (T.set (T.set (T.set .leaf 0 a0) 4 a4) 10 v3) 12 v6) 13 v29) 40 v32) 41 v35) 42 (.int .i64 (.ofNat 0))), H33⟩ τ34 (blockK 0 (seqK (s_cache_Cache_Renew_j0 call N q) (endK [(.cell 10 (some 3)), (.t 11)] q))))
theorem s_cache_Cache_Renew_eq (call : CallK) (N : Nat) (a0 a1 a2 a3 a4 : V) (H : Heap) (τ : Tape) (q : KV) : s_cache_Cache_Renew call N a0 a1 a2 a3 a4 H τ q = funK call N fn_cache_Cache_Renew [a0, a1, a2, a3, a4] H τ q := by kernel_rfl
def e_cache_Cache_Renew (call : CallK) (N : Nat) (vs : List V) (H : Heap) (τ : Tape) (q : KV) : Ans := match vs with | [a0, a1, a2, a3, a4] => s_cache_Cache_Renew call N a0 a1 a2 a3 a4 H τ q | _ => none
theorem e_cache_Cache_Renew_ok : EntOk fn_cache_Cache_Renew e_cache_Cache_Renew := by
  intro call N vs H τ q r h
  unfold e_cache_Cache_Renew at h
  split at h
  · rw [s_cache_Cache_Renew_eq] at h; exact h
  · cases h
theorem e_cache_Cache_Renew_nat : EntNat e_cache_Cache_Renew := by
  intro c hn N vs H τ q
  unfold e_cache_Cache_Renew
  split
  · rw [s_cache_Cache_Renew_eq, s_cache_Cache_Renew_eq]; exact funK_ent hn _ _ _ _ _ _
  · rfl
/-- ostiary/ostiarybook.Same[ostiary/api.Header] -/
def fn_book_Same_Header : Fun := ⟨2, (.seq (.reg [iR 4 (.p .mv) [(.c (.bool false))]]) (.keep [0, 1] (.seq (.seq (.reg [iR 6 (.p .mv) [(.t 0)], iR 7 (.p .len) [(.t 6)], iR 8 (.p .mv) [(.t 1)], iR 9 (.p .len) [(.t 8)], iR 10 (.p (.bin .neq)) [(.t 7), (.t 9)]]) (.keep [0, 1, 10] (.cond (.t 10) (.seq (.reg [iR 4 (.p .mv) [(.c (.bool false))]]) (.keep [4] (.keep [4] .ret))) .skip))) (.keep [0, 1] (.seq (.seq (.reg [iR 5 (.p .mv) [(.c (.int .i64 (.ofNat 0)))]]) (.keep [0, 1, 5] (.block 0 (.loop (.keep [0, 1, 5] (.seq (.seq (.reg [iR 11 (.p .mv) [(.t 5)], iR 12 (.p .mv) [(.t 0)], iR 13 (.p .len) [(.t 12)], iR 14 (.p (.bin .lss)) [(.t 11), (.t 13)]]) (.keep [0, 1, 5, 14] (.cond (.t 14) .skip (.keep [] (.exit 0))))) (.keep [0, 1, 5] (.seq (.block 1 (.seq (.draw [iR 17 (.p .mv) [(.t 0)], iR 18 (.p .mv) [(.t 5)], iR 19 (.p (.slIdx 2)) [(.t 17), (.t 18)],
    iR 20 (.l (.load (some 2))) [(.t 19)], iR 21 (.p .mv) [(.t 1)], iR 22 (.p .mv) [(.t 5)], iR 23 (.p (.slIdx 2)) [(.t 21), (.t 22)], iR 24 (.l (.load (some 2))) [(.t 23)], iR 25 (.p (.eq true (.flat [.str, .str]))) [(.t 20), (.t 24)]]) (.keep [0, 1, 5, 25] (.cond (.t 25) (.seq (.reg [iR 4 (.p .mv) [(.c (.bool false))]]) (.keep [4] (.keep [4] .ret))) .skip)))) (.keep [0, 1, 5] (.reg [iR 15 (.p .mv) [(.t 5)], iR 16 (.p (.bin .add)) [(.t 15), (.c (.int .i64 (.ofNat 1)))], iR 5 (.p .mv) [(.t 16)]])))))))))) (.keep [] (.seq (.reg [iR 4 (.p .mv) [(.c (.bool true))]]) (.keep [4] (.keep [4] .ret))))))))), [(.t 4)]⟩
def s_book_Same_Header_j0 (call : CallK) (N : Nat) (q : KV) (st : St) (τ : Tape) : Ans := match st with
  | ⟨fr, H⟩ => q (.bool true) H τ
def s_book_Same_Header_l1 (call : CallK) (N : Nat) (st : St) (τ : Tape) (k : KC) : Ans := match st with
  | ⟨fr, H⟩ => getK fr 0 fun t0 => getK fr 1 fun t1 => getK fr 5 fun t5 => someK (pLen [t0]) fun v3 => binK .lss t5 v3 fun v4 => condK v4 (someK (pSlIdx 2 [t0, t5]) fun v5 => someK (lLoadN 2 [v5] H) fun v6 => someK (pSlIdx 2 [t1, t5]) fun v7 => someK (lLoadN 2 [v7] H) fun v8 => someK (pEq true (.flat [.str, .str]) [v6, v8]) fun v9 => condK v9 (k .ret ⟨(T.set .leaf 4 (.bool false)), H⟩ τ) (binK .add t5 (.int .i64 (.ofNat 1)) fun v10 => k .normal ⟨(T.set (T.set (T.set (T.set (T.set (T.set .leaf 0 t0) 1 t1) 5 t5) 15 t5) 16 v10) 5 v10), H⟩ τ)) (k (.exit 0) ⟨.leaf, H⟩ τ)
def s_book_Same_Header (call : CallK) (N : Nat) (a0 a1 : V) (H : Heap) (τ : Tape) (q : KV) : Ans := someK (pLen [a0]) fun v0 => someK (pLen [a1]) fun v1 => binK .neq v0 v1 fun v2 => condK v2 (q (.bool false) H τ) (loopK (s_book_Same_Header_l1 call N) N ⟨(T.set (T.set (T.set .leaf 0 a0) 1 a1) 5 (.int .i64 (.ofNat 0))), H⟩ τ (blockK 0 (seqK (s_book_Same_Header_j0 call N q) (endK [(.t 4)] q))))
theorem s_book_Same_Header_eq (call : CallK) (N : Nat) (a0 a1 : V) (H : Heap) (τ : Tape) (q : KV) : s_book_Same_Header call N a0 a1 H τ q = funK call N fn_book_Same_Header [a0, a1] H τ q := by kernel_rfl
def e_book_Same_Header (call : CallK) (N : Nat) (vs : List V) (H : Heap) (τ : Tape) (q : KV) : Ans := match vs with | [a0, a1] => s_book_Same_Header call N a0 a1 H τ q | _ => none
theorem e_book_Same_Header_ok : EntOk fn_book_Same_Header e_book_Same_Header := by
  intro call N vs H τ q r h
  unfold e_book_Same_Header at h
  split at h
  · rw [s_book_Same_Header_eq] at h; exact h
  · cases h
theorem e_book_Same_Header_nat : EntNat e_book_Same_Header := by
  intro c hn N vs H τ q
  unfold e_book_Same_Header
  split
  · rw [s_book_Same_Header_eq, s_book_Same_Header_eq]; exact funK_ent hn _ _ _ _ _ _
  · rfl
/-- (*ostiary/cache.Cache).Len -/
def fn_cache_Cache_Len : Fun := ⟨1, (.seq (.reg [iR 2 (.p .mv) [(.c (.int .i64 (.ofNat 0)))]]) (.keep [0] (.seq (.reg [iR 3 (.p .mv) [(.t 0)], iR 4 (.p .nilck) [(.t 3)], iR 5 (.p (.fieldAddr 0)) [(.t 4)], iR 6 (.l (.load none)) [(.t 5)], iR 7 (.p .len) [(.t 6)], iR 2 (.p .mv) [(.t 7)]]) (.keep [2] (.keep [2] .ret))))), [(.t 2)]⟩
def s_cache_Cache_Len (call : CallK) (N : Nat) (a0 : V) (H : Heap) (τ : Tape) (q : KV) : Ans := someK (pNilck [a0]) fun v0 => someK (pFieldAddr 0 [v0]) fun v1 => someK (lLoad1 [v1] H) fun v2 => someK (pLen [v2]) fun v3 => q v3 H τ
theorem s_cache_Cache_Len_eq (call : CallK) (N : Nat) (a0 : V) (H : Heap) (τ : Tape) (q : KV) : s_cache_Cache_Len call N a0 H τ q = funK call N fn_cache_Cache_Len [a0] H τ q := by kernel_rfl
def e_cache_Cache_Len (call : CallK) (N : Nat) (vs : List V) (H : Heap) (τ : Tape) (q : KV) : Ans := match vs with | [a0] => s_cache_Cache_Len call N a0 H τ q | _ => none
theorem e_cache_Cache_Len_ok : EntOk fn_cache_Cache_Len e_cache_Cache_Len := by
  intro call N vs H τ q r h
  unfold e_cache_Cache_Len at h
  split at h
  · rw [s_cache_Cache_Len_eq] at h; exact h
  · cases h
theorem e_cache_Cache_Len_nat : EntNat e_cache_Cache_Len := by
  intro c hn N vs H τ q
  unfold e_cache_Cache_Len
  split
  · rw [s_cache_Cache_Len_eq, s_cache_Cache_Len_eq]; exact funK_ent hn _ _ _ _ _ _
  · rfl
/-- (*ostiary/cache.Cache).Urls -/
def fn_cache_Cache_Urls : Fun := ⟨1, (.seq (.reg [iR 2 (.p .mv) [(.c .nils)]]) (.keep [0] (.seq (.reg [iR 3 (.p .mv) [(.c .nils)]]) (.keep [0, 3] (.seq (.seq (.reg [iR 6 (.p .mv) [(.t 0)], iR 7 (.p .nilck) [(.t 6)], iR 8 (.p (.fieldAddr 0)) [(.t 7)], iR 9 (.l (.load none)) [(.t 8)], iR 10 (.p .len) [(.t 9)], iR 11 (.p .mv) [(.c (.int .i64 (.ofNat 0)))]]) (.keep [3, 9, 10, 11] (.block 0 (.loop (.keep [3, 9, 10, 11] (.seq (.reg [iR 12 (.p (.bin .lss)) [(.t 11), (.t 10)]]) (.keep [3, 9, 10, 11, 12] (.seq (.cond (.t 12) .skip (.keep [3] (.exit 0))) (.keep [3, 9, 10, 11] (.seq (.block 1 (.seq (.reg [iR 13 (.p (.slIdx 1)) [(.t 9), (.t 11)], iR 14 (.l (.load none)) [(.t 13)], iR 5 (.p .mv) [(.t 14)]]) (.keep [3, 5, 9, 10, 11] (.reg [iR 15 (.p .mv) [(.t 3)], iR 16 (.p .mv) [(.t 5)], iR 17 (.p .nilck) [(.t 16)], iR 18 (.p (.fieldAddr 0)) [(.t 17)], iR 19 (.l (.load none)) [(.t 18)],
    iR 20 (.e (.buildSlice 1 1 [(.str [])] [(0, 1)])) [(.t 19)], iR 21 (.e (.append 1 16)) [(.t 15), (.t 20)], iR 3 (.p .mv) [(.t 21)]])))) (.keep [3, 9, 10, 11] (.reg [iR 22 (.p (.bin .add)) [(.t 11), (.c (.int .i64 (.ofNat 1)))], iR 11 (.p .mv) [(.t 22)]])))))))))))) (.keep [3] (.seq (.reg [iR 23 (.p .mv) [(.t 3)], iR 2 (.p .mv) [(.t 23)]]) (.keep [2] (.keep [2] .ret))))))))), [(.t 2)]⟩
def s_cache_Cache_Urls_j0 (call : CallK) (N : Nat) (q : KV) (st : St) (τ : Tape) : Ans := match st with
  | ⟨fr, H⟩ => getK fr 3 fun t3 => q t3 H τ
def s_cache_Cache_Urls_l1 (call : CallK) (N : Nat) (st : St) (τ : Tape) (k : KC) : Ans := match st with
  | ⟨fr, H⟩ => getK fr 3 fun t3 => getK fr 9 fun t9 => getK fr 10 fun t10 => getK fr 11 fun t11 => binK .lss t11 t10 fun v4 => condK v4 (someK (pSlIdx 1 [t9, t11]) fun v5 => someK (lLoad1 [v5] H) fun v6 => someK (pNilck [v6]) fun v7 => someK (pFieldAddr 0 [v7]) fun v8 => someK (lLoad1 [v8] H) fun v9 => effK (eBuildSlice 1 1 [(.str [])] [(0, 1)] [v9] H τ) fun v10 H11 τ12 => effK (eAppend 1 16 [t3, v10] H11 τ12) fun v13 H14 τ15 => binK .add t11 (.int .i64 (.ofNat 1)) fun v16 => k .normal ⟨(T.set (T.set (T.set (T.set (T.set (T.set .leaf 3 v13) 9 t9) 10 t10) 11 t11) 22 v16) 11 v16), H14⟩ τ15) (k (.exit 0) ⟨(T.set .leaf 3 t3), H⟩ τ)
def s_cache_Cache_Urls (call : CallK) (N : Nat) (a0 : V) (H : Heap) (τ : Tape) (q : KV) : Ans := someK (pNilck [a0]) fun v0 => someK (pFieldAddr 0 [v0]) fun v1 => someK (lLoad1 [v1] H) fun v2 => someK (pLen [v2]) fun v3 => loopK (s_cache_Cache_Urls_l1 call N) N ⟨(T.set (T.set (T.set (T.set .leaf 3 .nils) 9 v2) 10 v3) 11 (.int .i64 (.ofNat 0))), H⟩ τ (blockK 0 (seqK (s_cache_Cache_Urls_j0 call N q) (endK [(.t 2)] q)))
theorem s_cache_Cache_Urls_eq (call : CallK) (N : Nat) (a0 : V) (H : Heap) (τ : Tape) (q : KV) : s_cache_Cache_Urls call N a0 H τ q = funK call N fn_cache_Cache_Urls [a0] H τ q := by kernel_rfl
def e_cache_Cache_Urls (call : CallK) (N : Nat) (vs : List V) (H : Heap) (τ : Tape) (q : KV) : Ans := match vs with | [a0] => s_cache_Cache_Urls call N a0 H τ q | _ => none
theorem e_cache_Cache_Urls_ok : EntOk fn_cache_Cache_Urls e_cache_Cache_Urls := by
  intro call N vs H τ q r h
  unfold e_cache_Cache_Urls at h
  split at h
  · rw [s_cache_Cache_Urls_eq] at h; exact h
  · cases h
theorem e_cache_Cache_Urls_nat : EntNat e_cache_Cache_Urls := by
  intro c hn N vs H τ q
  unfold e_cache_Cache_Urls
  split
  · rw [s_cache_Cache_Urls_eq, s_cache_Cache_Urls_eq]; exact funK_ent hn _ _ _ _ _ _
  · rfl
/-- ostiary/ostiarylaw17.known -/
def fn_law17_known : Fun := ⟨0, (.seq (.reg [iR 0 (.p .mv) [(.c (.bool false))]]) (.keep [] (.seq (.reg [iR 4 (.call 9) [], iR 1 (.p .mv) [(.t 4)]]) (.keep [1] (.seq (.seq (.reg [iR 5 (.p .mv) [(.t 1)], iR 6 (.l (.peq false)) [(.t 5), (.c .nilp)], iR 7 (.p .mv) [(.t 6)], iG 8 7 false (.p .mv) [(.t 1)], iG 9 7 false (.call 11) [(.c (.str (bs [109, 97, 120, 45, 97, 103, 101, 61, 53])))], iG 10 7 false (.p (.build [(.int .i64 (.ofNat 0)), .nils, .nils] [(0, 1), (1, 1)])) [(.c (.int .i64 (.ofNat 200))), (.t 9)], iG 11 7 false (.call 10) [(.t 8), (.c (.str (bs [117]))), (.c .nils), (.t 10), (.c (.int .i64 (.ofNat 0)))], iG 12 7 false (.p (.un .not)) [(.t 11)], iR 13 (.p .pick) [(.t 7), (.c (.bool true)), (.t 12)]]) (.keep [1, 13] (.cond (.t 13) (.seq (.reg [iR 0 (.p .mv) [(.c (.bool false))]]) (.keep [0] (.keep [0] .ret))) .skip))) (.keep [1] (.seq (.reg [iR 14 (.p .mv) [(.t 1)],
    iR 15 (.call 12) [(.t 14), (.c (.str (bs [117]))), (.c .nils), (.c (.int .i64 (.ofNat 4)))], iR 2 (.e (.alloc [(.int .i64 (.ofNat 0)), (.int .i64 (.ofNat 0)), .nils, .nils, .nils])) [], ⟨none, none, (.e (.store 5)), [(.t 2), (.t 15)], none⟩]) (.keep [1, 2] (.seq (.reg [iR 16 (.p .mv) [(.t 1)], iR 17 (.call 12) [(.t 16), (.c (.str (bs [117]))), (.c .nils), (.c (.int .i64 (.ofNat 5)))], iR 3 (.e (.alloc [(.int .i64 (.ofNat 0)), (.int .i64 (.ofNat 0)), .nils, .nils, .nils])) [], ⟨none, none, (.e (.store 5)), [(.t 3), (.t 17)], none⟩]) (.keep [1, 2, 3] (.seq (.reg [iR 18 (.p (.fieldAddr 0)) [(.t 2)], iR 19 (.l (.load none)) [(.t 18)], iR 20 (.p (.bin .eql)) [(.t 19), (.c (.int .i64 (.ofNat 2)))], iR 21 (.p .mv) [(.t 20)], iG 22 21 true (.p (.fieldAddr 1)) [(.t 2)], iG 23 21 true (.p (.fieldAddr 1)) [(.t 22)], iG 24 21 true (.l (.load none)) [(.t 23)],
    iG 25 21 true (.p .len) [(.t 24)], iG 26 21 true (.p (.bin .eql)) [(.t 25), (.c (.int .i64 (.ofNat 2)))], iR 27 (.p .pick) [(.t 21), (.t 26), (.c (.bool false))], iR 28 (.p .mv) [(.t 27)], iG 29 28 true (.p (.fieldAddr 1)) [(.t 2)], iG 30 28 true (.p (.fieldAddr 1)) [(.t 29)], iG 31 28 true (.l (.load none)) [(.t 30)], iG 32 28 true (.p (.slIdx 2)) [(.t 31), (.c (.int .i64 (.ofNat 1)))], iG 33 28 true (.p (.fieldAddr 1)) [(.t 32)], iG 34 28 true (.l (.load none)) [(.t 33)], iG 35 28 true (.p (.bin .eql)) [(.t 34), (.c (.str (bs [52])))], iR 36 (.p .pick) [(.t 28), (.t 35), (.c (.bool false))], iR 37 (.p .mv) [(.t 36)], iG 38 37 true (.p (.fieldAddr 0)) [(.t 3)], iG 39 37 true (.l (.load none)) [(.t 38)], iG 40 37 true (.p (.bin .eql)) [(.t 39), (.c (.int .i64 (.ofNat 1)))], iR 41 (.p .pick) [(.t 37), (.t 40), (.c (.bool false))], iR 42 (.p .mv) [(.t 41)],
    iG 43 42 true (.p .mv) [(.t 1)], iG 44 42 true (.call 70) [(.t 43), (.c (.str (bs [117])))], iG 45 42 true (.p (.bin .eql)) [(.t 44), (.c (.int .i64 (.ofNat 1)))], iR 46 (.p .pick) [(.t 42), (.t 45), (.c (.bool false))], iR 0 (.p .mv) [(.t 46)]]) (.keep [0] (.keep [0] .ret))))))))))))), [(.t 0)]⟩
def s_law17_known (call : CallK) (N : Nat) (H : Heap) (τ : Tape) (q : KV) : Ans := call f_cache_New [] H τ fun v0 H1 τ2 => someK (lPeq false [v0, .nilp] H1) fun v3 => gK v3 false (fun q' => q' v0 H1 τ2) H1 τ2 fun v4 H5 τ6 => gK v3 false (fun q' => call f_law17_cc [(.str (bs [109, 97, 120, 45, 97, 103, 101, 61, 53]))] H5 τ6 q') H5 τ6 fun v7 H8 τ9 => gK v3 false (fun q' => someK (pBuild [(.int .i64 (.ofNat 0)), .nils, .nils] [(0, 1), (1, 1)] [(.int .i64 (.ofNat 200)), v7]) fun v => q' v H8 τ9) H8 τ9 fun v10 H11 τ12 => gK v3 false (fun q' => call f_cache_Cache_Put [v4, (.str (bs [117])), .nils, v10, (.int .i64 (.ofNat 0))] H11 τ12 q') H11 τ12 fun v13 H14 τ15 => gK v3 false (fun q' => unK .not v13 fun v => q' v H14 τ15) H14 τ15 fun v16 H17 τ18 => someK (pPick [v3, (.bool true), v16]) fun v19 => condK v19 (q (.bool false) H17 τ18)
    (call f_cache_Cache_Find [v0, (.str (bs [117])), .nils, (.int .i64 (.ofNat 4))] H17 τ18 fun v20 H21 τ22 => effK (eAlloc [(.int .i64 (.ofNat 0)), (.int .i64 (.ofNat 0)), .nils, .nils, .nils] [] H21 τ22) fun v23 H24 τ25 => effK (eStore 5 [v23, v20] H24 τ25) fun v26 H27 τ28 => call f_cache_Cache_Find [v0, (.str (bs [117])), .nils, (.int .i64 (.ofNat 5))] H27 τ28 fun v29 H30 τ31 => effK (eAlloc [(.int .i64 (.ofNat 0)), (.int .i64 (.ofNat 0)), .nils, .nils, .nils] [] H30 τ31) fun v32 H33 τ34 => effK (eStore 5 [v32, v29] H33 τ34) fun v35 H36 τ37 => someK (pFieldAddr 0 [v23]) fun v38 => someK (lLoad1 [v38] H36) fun v39 => binK .eql v39 (.int .i64 (.ofNat 2)) fun v40 => gK v40 true (fun q' => someK (pFieldAddr 1 [v23]) fun v => q' v H36 τ37) H36 τ37 fun v41 H42 τ43 => gK v40 true (fun q' => someK (pFieldAddr 1 [v41]) fun v => q' v H42 τ43) H42 τ43 fun v44 H45 τ46 =>
    gK v40 true (fun q' => someK (lLoad1 [v44] H45) fun v => q' v H45 τ46) H45 τ46 fun v47 H48 τ49 => gK v40 true (fun q' => someK (pLen [v47]) fun v => q' v H48 τ49) H48 τ49 fun v50 H51 τ52 => gK v40 true (fun q' => binK .eql v50 (.int .i64 (.ofNat 2)) fun v => q' v H51 τ52) H51 τ52 fun v53 H54 τ55 => someK (pPick [v40, v53, (.bool false)]) fun v56 => gK v56 true (fun q' => someK (pFieldAddr 1 [v23]) fun v => q' v H54 τ55) H54 τ55 fun v57 H58 τ59 => gK v56 true (fun q' => someK (pFieldAddr 1 [v57]) fun v => q' v H58 τ59) H58 τ59 fun v60 H61 τ62 => gK v56 true (fun q' => someK (lLoad1 [v60] H61) fun v => q' v H61 τ62) H61 τ62 fun v63 H64 τ65 => gK v56 true (fun q' => someK (pSlIdx 2 [v63, (.int .i64 (.ofNat 1))]) fun v => q' v H64 τ65) H64 τ65 fun v66 H67 τ68 => gK v56 true (fun q' => someK (pFieldAddr 1 [v66]) fun v => q' v H67 τ68) H67 τ68 fun v69 H70 τ71 =>
    gK v56 true (fun q' => someK (lLoad1 [v69] H70) fun v => q' v H70 τ71) H70 τ71 fun v72 H73 τ74 => gK v56 true (fun q' => binK .eql v72 (.str (bs [52])) fun v => q' v H73 τ74) H73 τ74 fun v75 H76 τ77 => someK (pPick [v56, v75, (.bool false)]) fun v78 => gK v78 true (fun q' => someK (pFieldAddr 0 [v32]) fun v => q' v H76 τ77) H76 τ77 fun v79 H80 τ81 => gK v78 true (fun q' => someK (lLoad1 [v79] H80) fun v => q' v H80 τ81) H80 τ81 fun v82 H83 τ84 => gK v78 true (fun q' => binK .eql v82 (.int .i64 (.ofNat 1)) fun v => q' v H83 τ84) H83 τ84 fun v85 H86 τ87 => someK (pPick [v78, v85, (.bool false)]) fun v88 => gK v88 true (fun q' => q' v0 H86 τ87) H86 τ87 fun v89 H90 τ91 => gK v88 true (fun q' => call f_cache_Cache_Drop [v89, (.str (bs [117]))] H90 τ91 q') H90 τ91 fun v92 H93 τ94 =>
    gK v88 true (fun q' => binK .eql v92 (.int .i64 (.ofNat 1)) fun v => q' v H93 τ94) H93 τ94 fun v95 H96 τ97 => someK (pPick [v88, v95, (.bool false)]) fun v98 => q v98 H96 τ97)
theorem s_law17_known_eq (call : CallK) (N : Nat) (H : Heap) (τ : Tape) (q : KV) : s_law17_known call N  H τ q = funK call N fn_law17_known [] H τ q := by kernel_rfl
def e_law17_known (call : CallK) (N : Nat) (vs : List V) (H : Heap) (τ : Tape) (q : KV) : Ans := match vs with | [] => s_law17_known call N  H τ q | _ => none
theorem e_law17_known_ok : EntOk fn_law17_known e_law17_known := by
  intro call N vs H τ q r h
  unfold e_law17_known at h
  split at h
  · rw [s_law17_known_eq] at h; exact h
  · cases h
theorem e_law17_known_nat : EntNat e_law17_known := by
  intro c hn N vs H τ q
  unfold e_law17_known
  split
  · rw [s_law17_known_eq, s_law17_known_eq]; exact funK_ent hn _ _ _ _ _ _
  · rfl
/-- ostiary/age.Vary -/
def fn_age_Vary : Fun := ⟨1, (.seq (.reg [iR 2 (.p .mv) [(.c .nils)], iR 3 (.p .mv) [(.c (.bool false))]]) (.keep [0] (.seq (.reg [iR 10 (.p .mv) [(.t 0)], iR 11 (.call 81) [(.t 10), (.c (.str (bs [118, 97, 114, 121])))], iR 9 (.p .mv) [(.t 11)], iR 12 (.p (.extract 0)) [(.t 9)], iR 13 (.p (.extract 1)) [(.t 9)], iR 4 (.p .mv) [(.t 12)], iR 5 (.p .mv) [(.t 13)]]) (.keep [4] (.seq (.reg [iR 6 (.p .mv) [(.c .nils)]]) (.keep [4, 6] (.seq (.seq (.reg [iR 14 (.p .mv) [(.t 4)], iR 15 (.p .len) [(.t 14)], iR 16 (.p .mv) [(.c (.int .i64 (.ofNat 0)))]]) (.keep [6, 14, 15, 16] (.block 0 (.loop (.keep [6, 14, 15, 16] (.seq (.reg [iR 17 (.p (.bin .lss)) [(.t 16), (.t 15)]]) (.keep [6, 14, 15, 16, 17] (.seq (.cond (.t 17) .skip (.keep [6] (.exit 0))) (.keep [6, 14, 15, 16] (.seq (.block 1 (.seq (.reg [iR 18 (.p (.slIdx 1)) [(.t 14), (.t 16)], iR 19 (.l (.load none)) [(.t 18)],
    iR 8 (.p .mv) [(.t 19)]]) (.keep [6, 8, 14, 15, 16] (.seq (.reg [iR 20 (.p .mv) [(.t 8)], iR 21 (.call 87) [(.t 20)], iR 8 (.p .mv) [(.t 21)]]) (.keep [6, 8, 14, 15, 16] (.seq (.reg [iR 22 (.p .mv) [(.t 8)], iR 23 (.p (.bin .neq)) [(.t 22), (.c (.str []))]]) (.keep [6, 8, 14, 15, 16, 23] (.cond (.t 23) (.reg [iR 24 (.p .mv) [(.t 6)], iR 25 (.p .mv) [(.t 8)], iR 26 (.e (.buildSlice 1 1 [(.str [])] [(0, 1)])) [(.t 25)], iR 27 (.e (.append 1 16)) [(.t 24), (.t 26)], iR 6 (.p .mv) [(.t 27)]]) .skip)))))))) (.keep [6, 14, 15, 16] (.reg [iR 28 (.p (.bin .add)) [(.t 16), (.c (.int .i64 (.ofNat 1)))], iR 16 (.p .mv) [(.t 28)]])))))))))))) (.keep [6] (.seq (.reg [iR 29 (.p .mv) [(.t 6)], iR 30 (.call 106) [(.t 29)]]) (.keep [6] (.seq (.seq (.reg [iR 31 (.p .mv) [(.t 6)], iR 32 (.call 90) [(.t 31), (.c (.str (bs [42])))]]) (.keep [6, 32] (.cond (.t 32)
    (.seq (.reg [iR 2 (.p .mv) [(.c .nils)], iR 3 (.p .mv) [(.c (.bool false))]]) (.keep [2, 3] (.keep [2, 3] .ret))) .skip))) (.keep [6] (.seq (.reg [iR 33 (.p .mv) [(.t 6)], iR 34 (.call 107) [(.t 33)], iR 2 (.p .mv) [(.t 34)], iR 3 (.p .mv) [(.c (.bool true))]]) (.keep [2, 3] (.keep [2, 3] .ret))))))))))))))), [(.t 2), (.t 3)]⟩
def s_age_Vary_j0 (call : CallK) (N : Nat) (q : KV) (st : St) (τ : Tape) : Ans := match st with
  | ⟨fr, H⟩ => getK fr 6 fun t6 => call f_slices_Sort_string [t6] H τ fun v6 H7 τ8 => call f_slices_Contains_string [t6, (.str (bs [42]))] H7 τ8 fun v9 H10 τ11 => condK v9 (q (.tup [.nils, (.bool false)]) H10 τ11) (call f_slices_Compact_string [t6] H10 τ11 fun v12 H13 τ14 => q (.tup [v12, (.bool true)]) H13 τ14)
def s_age_Vary_j2 (call : CallK) (N : Nat) (k : KC) (st : St) (τ : Tape) : Ans := match st with
  | ⟨fr, H⟩ => getK fr 6 fun t6 => getK fr 14 fun t14 => getK fr 15 fun t15 => getK fr 16 fun t16 => binK .add t16 (.int .i64 (.ofNat 1)) fun v16 => k .normal ⟨(T.set (T.set (T.set (T.set (T.set (T.set .leaf 6 t6) 14 t14) 15 t15) 16 t16) 28 v16) 16 v16), H⟩ τ
def s_age_Vary_l1 (call : CallK) (N : Nat) (st : St) (τ : Tape) (k : KC) : Ans := match st with
  | ⟨fr, H⟩ => getK fr 6 fun t6 => getK fr 14 fun t14 => getK fr 15 fun t15 => getK fr 16 fun t16 => binK .lss t16 t15 fun v15 => condK v15 (someK (pSlIdx 1 [t14, t16]) fun v17 => someK (lLoad1 [v17] H) fun v18 => call f_infra_Lower [v18] H τ fun v19 H20 τ21 => binK .neq v19 (.str []) fun v22 => condK v22 (effK (eBuildSlice 1 1 [(.str [])] [(0, 1)] [v19] H20 τ21) fun v23 H24 τ25 => effK (eAppend 1 16 [t6, v23] H24 τ25) fun v26 H27 τ28 => s_age_Vary_j2 call N k ⟨(T.set (T.set (T.set (T.set (T.set (T.set (T.set (T.set (T.set (T.set (T.set .leaf 6 t6) 8 v19) 14 t14) 15 t15) 16 t16) 23 v22) 24 t6) 25 v19) 26 v23) 27 v26) 6 v26), H27⟩ τ28) (s_age_Vary_j2 call N k ⟨(T.set (T.set (T.set (T.set (T.set (T.set .leaf 6 t6) 8 v19) 14 t14) 15 t15) 16 t16) 23 v22), H20⟩ τ21)) (k (.exit 0) ⟨(T.set .leaf 6 t6), H⟩ τ)
def s_age_Vary (call : CallK) (N : Nat) (a0 : V) (H : Heap) (τ : Tape) (q : KV) : Ans := call f_headers_Split [a0, (.str (bs [118, 97, 114, 121]))] H τ fun v0 H1 τ2 => someK (pExtract 0 [v0]) fun v3 => someK (pExtract 1 [v0]) fun v4 => someK (pLen [v3]) fun v5 => loopK (s_age_Vary_l1 call N) N ⟨(T.set (T.set (T.set (T.set .leaf 6 .nils) 14 v3) 15 v5) 16 (.int .i64 (.ofNat 0))), H1⟩ τ2 (blockK 0 (seqK (s_age_Vary_j0 call N q) (endK [(.t 2), (.t 3)] q)))
theorem s_age_Vary_eq (call : CallK) (N : Nat) (a0 : V) (H : Heap) (τ : Tape) (q : KV) : s_age_Vary call N a0 H τ q = funK call N fn_age_Vary [a0] H τ q := by kernel_rfl
def e_age_Vary (call : CallK) (N : Nat) (vs : List V) (H : Heap) (τ : Tape) (q : KV) : Ans := match vs with | [a0] => s_age_Vary call N a0 H τ q | _ => none
theorem e_age_Vary_ok : EntOk fn_age_Vary e_age_Vary := by
  intro call N vs H τ q r h
  unfold e_age_Vary at h
  split at h
  · rw [s_age_Vary_eq] at h; exact h
  · cases h
theorem e_age_Vary_nat : EntNat e_age_Vary := by
  intro c hn N vs H τ q
  unfold e_age_Vary
  split
  · rw [s_age_Vary_eq, s_age_Vary_eq]; exact funK_ent hn _ _ _ _ _ _
  · rfl
/-- ostiary/age.Parse -/
def fn_age_Parse : Fun := ⟨1, (.seq (.reg [iR 2 (.e (.alloc [(.bool false), (.bool false), (.int .i64 (.ofNat 0))])) []]) (.keep [0, 2] (.seq (.reg [iR 12 (.p (.build [(.bool false), (.bool false), (.int .i64 (.ofNat 0))] [(2, 1)])) [(.c (.int .i64 (.negSucc 0)))], iR 3 (.e (.alloc [(.bool false), (.bool false), (.int .i64 (.ofNat 0))])) [], ⟨none, none, (.e (.store 3)), [(.t 3), (.t 12)], none⟩]) (.keep [0, 2, 3] (.seq (.reg [iR 14 (.p .mv) [(.t 0)], iR 15 (.call 81) [(.t 14), (.c (.str (bs [99, 97, 99, 104, 101, 45, 99, 111, 110, 116, 114, 111, 108])))], iR 13 (.p .mv) [(.t 15)], iR 16 (.p (.extract 0)) [(.t 13)], iR 17 (.p (.extract 1)) [(.t 13)], iR 4 (.p .mv) [(.t 16)], iR 5 (.p .mv) [(.t 17)]]) (.keep [2, 3, 4] (.seq (.seq (.reg [iR 18 (.p .mv) [(.t 4)], iR 19 (.p .len) [(.t 18)], iR 20 (.p .mv) [(.c (.int .i64 (.ofNat 0)))]]) (.keep [2, 3, 18, 19, 20] (.block 0 (.loop
    (.keep [2, 3, 18, 19, 20] (.seq (.reg [iR 21 (.p (.bin .lss)) [(.t 20), (.t 19)]]) (.keep [2, 3, 18, 19, 20, 21] (.seq (.cond (.t 21) .skip (.keep [2, 3] (.exit 0))) (.keep [2, 3, 18, 19, 20] (.seq (.block 1 (.seq (.reg [iR 22 (.p (.slIdx 1)) [(.t 18), (.t 20)], iR 23 (.l (.load none)) [(.t 22)], iR 7 (.p .mv) [(.t 23)]]) (.keep [2, 3, 7, 18, 19, 20] (.seq (.reg [iR 25 (.p .mv) [(.t 7)], iR 26 (.call 108) [(.t 25)], iR 24 (.p .mv) [(.t 26)], iR 27 (.p (.extract 0)) [(.t 24)], iR 28 (.p (.extract 1)) [(.t 24)], iR 8 (.p .mv) [(.t 27)], iR 9 (.p .mv) [(.t 28)]]) (.keep [2, 3, 8, 9, 18, 19, 20] (.seq (.reg [iR 29 (.p .mv) [(.t 8)]]) (.keep [2, 3, 9, 18, 19, 20, 29] (.block 2 (.seq (.reg [iR 31 (.p (.bin .eql)) [(.t 29), (.c (.str (bs [110, 111, 45, 115, 116, 111, 114, 101])))], iR 30 (.p .mv) [(.t 31)]]) (.keep [2, 3, 9, 18, 19, 20, 29, 30] (.cond (.t 30)
    (.reg [iR 32 (.p (.fieldAddr 0)) [(.t 3)], ⟨none, none, (.e (.store 1)), [(.t 32), (.c (.bool true))], none⟩]) (.seq (.reg [iR 34 (.p (.bin .eql)) [(.t 29), (.c (.str (bs [110, 111, 45, 99, 97, 99, 104, 101])))], iR 33 (.p .mv) [(.t 34)]]) (.keep [2, 3, 9, 18, 19, 20, 29, 33] (.cond (.t 33) (.reg [iR 35 (.p (.fieldAddr 1)) [(.t 3)], ⟨none, none, (.e (.store 1)), [(.t 35), (.c (.bool true))], none⟩]) (.seq (.reg [iR 37 (.p (.bin .eql)) [(.t 29), (.c (.str (bs [109, 97, 120, 45, 97, 103, 101])))], iR 36 (.p .mv) [(.t 37)]]) (.keep [2, 3, 9, 18, 19, 20, 36] (.cond (.t 36) (.seq (.reg [iR 39 (.p .mv) [(.t 9)], iR 40 (.call 91) [(.t 39)], iR 38 (.p .mv) [(.t 40)], iR 41 (.p (.extract 0)) [(.t 38)], iR 42 (.p (.extract 1)) [(.t 38)], iR 10 (.p .mv) [(.t 41)], iR 11 (.p .mv) [(.t 42)]]) (.keep [2, 3, 10, 11, 18, 19, 20] (.seq (.reg [iR 43 (.p .mv) [(.t 11)],
    iR 44 (.p .mv) [(.t 43)], iG 45 44 true (.p (.fieldAddr 2)) [(.t 3)], iG 46 44 true (.l (.load none)) [(.t 45)], iG 47 44 true (.p (.bin .lss)) [(.t 46), (.c (.int .i64 (.ofNat 0)))], iR 48 (.p .pick) [(.t 44), (.t 47), (.c (.bool false))]]) (.keep [2, 3, 10, 18, 19, 20, 48] (.cond (.t 48) (.reg [iR 49 (.p .mv) [(.t 10)], iR 50 (.p (.fieldAddr 2)) [(.t 3)], ⟨none, none, (.e (.store 1)), [(.t 50), (.t 49)], none⟩]) .skip))))) .skip))))))))))))))))) (.keep [2, 3, 18, 19, 20] (.reg [iR 51 (.p (.bin .add)) [(.t 20), (.c (.int .i64 (.ofNat 1)))], iR 20 (.p .mv) [(.t 51)]])))))))))))) (.keep [2, 3] (.seq (.reg [iR 52 (.l (.load (some 3))) [(.t 3)], ⟨none, none, (.e (.store 3)), [(.t 2), (.t 52)], none⟩]) (.keep [2] (.keep [2] .ret))))))))))), [(.cell 2 (some 3))]⟩
def s_age_Parse_j0 (call : CallK) (N : Nat) (q : KV) (st : St) (τ : Tape) : Ans := match st with
  | ⟨fr, H⟩ => getK fr 2 fun t2 => getK fr 3 fun t3 => someK (lLoadN 3 [t3] H) fun v16 => effK (eStore 3 [t2, v16] H τ) fun v17 H18 τ19 => someK (results ⟨(T.set .leaf 2 t2), H18⟩ [(.cell 2 (some 3))]) fun v => q v H18 τ19
def s_age_Parse_j2 (call : CallK) (N : Nat) (k : KC) (st : St) (τ : Tape) : Ans := match st with
  | ⟨fr, H⟩ => getK fr 2 fun t2 => getK fr 3 fun t3 => getK fr 18 fun t18 => getK fr 19 fun t19 => getK fr 20 fun t20 => binK .add t20 (.int .i64 (.ofNat 1)) fun v21 => k .normal ⟨(T.set (T.set (T.set (T.set (T.set (T.set (T.set .leaf 2 t2) 3 t3) 18 t18) 19 t19) 20 t20) 51 v21) 20 v21), H⟩ τ
def s_age_Parse_l1 (call : CallK) (N : Nat) (st : St) (τ : Tape) (k : KC) : Ans := match st with
  | ⟨fr, H⟩ => getK fr 2 fun t2 => getK fr 3 fun t3 => getK fr 18 fun t18 => getK fr 19 fun t19 => getK fr 20 fun t20 => binK .lss t20 t19 fun v20 => condK v20 (someK (pSlIdx 1 [t18, t20]) fun v22 => someK (lLoad1 [v22] H) fun v23 => call f_age_piece [v23] H τ fun v24 H25 τ26 => someK (pExtract 0 [v24]) fun v27 => someK (pExtract 1 [v24]) fun v28 => binK .eql v27 (.str (bs [110, 111, 45, 115, 116, 111, 114, 101])) fun v29 => condK v29 (someK (pFieldAddr 0 [t3]) fun v30 => effK (eStore 1 [v30, (.bool true)] H25 τ26) fun v31 H32 τ33 => s_age_Parse_j2 call N k ⟨(T.set (T.set (T.set (T.set (T.set (T.set (T.set (T.set (T.set .leaf 2 t2) 3 t3) 9 v28) 18 t18) 19 t19) 20 t20) 29 v27) 30 v29) 32 v30), H32⟩ τ33) (binK .eql v27 (.str (bs [110, 111, 45, 99, 97, 99, 104, 101])) fun v34 => condK v34 (someK (pFieldAddr 1 [t3]) fun v35 => effK (eStore 1 [v35, (.bool true)] H25 τ26) fun v36 H37 τ38 =>
    s_age_Parse_j2 call N k ⟨(T.set (T.set (T.set (T.set (T.set (T.set (T.set (T.set (T.set .leaf 2 t2) 3 t3) 9 v28) 18 t18) 19 t19) 20 t20) 29 v27) 33 v34) 35 v35), H37⟩ τ38) (binK .eql v27 (.str (bs [109, 97, 120, 45, 97, 103, 101])) fun v39 => condK v39 (call f_infra_Int [v28] H25 τ26 fun v40 H41 τ42 => someK (pExtract 0 [v40]) fun v43 => someK (pExtract 1 [v40]) fun v44 => gK v44 true (fun q' => someK (pFieldAddr 2 [t3]) fun v => q' v H41 τ42) H41 τ42 fun v45 H46 τ47 => gK v44 true (fun q' => someK (lLoad1 [v45] H46) fun v => q' v H46 τ47) H46 τ47 fun v48 H49 τ50 => gK v44 true (fun q' => binK .lss v48 (.int .i64 (.ofNat 0)) fun v => q' v H49 τ50) H49 τ50 fun v51 H52 τ53 => someK (pPick [v44, v51, (.bool false)]) fun v54 => condK v54 (someK (pFieldAddr 2 [t3]) fun v55 => effK (eStore 1 [v55, v43] H52 τ53) fun v56 H57 τ58 =>
    s_age_Parse_j2 call N k ⟨(T.set (T.set (T.set (T.set (T.set (T.set (T.set (T.set (T.set .leaf 2 t2) 3 t3) 10 v43) 18 t18) 19 t19) 20 t20) 48 v54) 49 v43) 50 v55), H57⟩ τ58) (s_age_Parse_j2 call N k ⟨(T.set (T.set (T.set (T.set (T.set (T.set (T.set .leaf 2 t2) 3 t3) 10 v43) 18 t18) 19 t19) 20 t20) 48 v54), H52⟩ τ53)) (s_age_Parse_j2 call N k ⟨(T.set (T.set (T.set (T.set (T.set (T.set (T.set .leaf 2 t2) 3 t3) 9 v28) 18 t18) 19 t19) 20 t20) 36 v39), H25⟩ τ26)))) (k (.exit 0) ⟨(T.set (T.set .leaf 2 t2) 3 t3), H⟩ τ)
def s_age_Parse (call : CallK) (N : Nat) (a0 : V) (H : Heap) (τ : Tape) (q : KV) : Ans := effK (eAlloc [(.bool false), (.bool false), (.int .i64 (.ofNat 0))] [] H τ) fun v0 H1 τ2 => someK (pBuild [(.bool false), (.bool false), (.int .i64 (.ofNat 0))] [(2, 1)] [(.int .i64 (.negSucc 0))]) fun v3 => effK (eAlloc [(.bool false), (.bool false), (.int .i64 (.ofNat 0))] [] H1 τ2) fun v4 H5 τ6 => effK (eStore 3 [v4, v3] H5 τ6) fun v7 H8 τ9 => call f_headers_Split [a0, (.str (bs [99, 97, 99, 104, 101, 45, 99, 111, 110, 116, 114, 111, 108]))] H8 τ9 fun v10 H11 τ12 => someK (pExtract 0 [v10]) fun v13 => someK (pExtract 1 [v10]) fun v14 => someK (pLen [v13]) fun v15 => loopK (s_age_Parse_l1 call N) N ⟨(T.set (T.set (T.set (T.set (T.set .leaf 2 v0) 3 v4) 18 v13) 19 v15) 20 (.int .i64 (.ofNat 0))), H11⟩ τ12 (blockK 0 (seqK (s_age_Parse_j0 call N q) (endK [(.cell 2 (some 3))] q)))
theorem s_age_Parse_eq (call : CallK) (N : Nat) (a0 : V) (H : Heap) (τ : Tape) (q : KV) : s_age_Parse call N a0 H τ q = funK call N fn_age_Parse [a0] H τ q := by kernel_rfl
def e_age_Parse (call : CallK) (N : Nat) (vs : List V) (H : Heap) (τ : Tape) (q : KV) : Ans := match vs with | [a0] => s_age_Parse call N a0 H τ q | _ => none
theorem e_age_Parse_ok : EntOk fn_age_Parse e_age_Parse := by
  intro call N vs H τ q r h
  unfold e_age_Parse at h
  split at h
  · rw [s_age_Parse_eq] at h; exact h
  · cases h
theorem e_age_Parse_nat : EntNat e_age_Parse := by
  intro c hn N vs H τ q
  unfold e_age_Parse
  split
  · rw [s_age_Parse_eq, s_age_Parse_eq]; exact funK_ent hn _ _ _ _ _ _
  · rfl
/-- slices.DeleteFunc[[]*ostiary/cache.row,*ostiary/cache.row] -/
def fn_slices_DeleteFunc_cache_row : Fun := ⟨2, (.seq (.reg [iR 4 (.p .mv) [(.c .nils)]]) (.keep [0, 1] (.seq (.reg [iR 8 (.p .mv) [(.t 0)], iR 9 (.p .mv) [(.t 1)], iR 10 (.call 109) [(.t 8), (.t 9)], iR 5 (.p .mv) [(.t 10)]]) (.keep [0, 1, 5] (.seq (.seq (.reg [iR 11 (.p .mv) [(.t 5)], iR 12 (.p (.bin .eql)) [(.t 11), (.c (.int .i64 (.negSucc 0)))]]) (.keep [0, 1, 5, 12] (.cond (.t 12) (.seq (.reg [iR 13 (.p .mv) [(.t 0)], iR 4 (.p .mv) [(.t 13)]]) (.keep [4] (.keep [4] .ret))) .skip))) (.keep [0, 1, 5] (.seq (.seq (.reg [iR 14 (.p .mv) [(.t 5)], iR 15 (.p (.bin .add)) [(.t 14), (.c (.int .i64 (.ofNat 1)))], iR 6 (.p .mv) [(.t 15)]]) (.keep [0, 1, 5, 6] (.block 0 (.loop (.keep [0, 1, 5, 6] (.seq (.seq (.reg [iR 16 (.p .mv) [(.t 6)], iR 17 (.p .mv) [(.t 0)], iR 18 (.p .len) [(.t 17)], iR 19 (.p (.bin .lss)) [(.t 16), (.t 18)]]) (.keep [0, 1, 5, 6, 19] (.cond (.t 19) .skip
    (.keep [0, 5] (.exit 0))))) (.keep [0, 1, 5, 6] (.seq (.block 1 (.seq (.reg [iR 22 (.p .mv) [(.t 0)], iR 23 (.p .mv) [(.t 6)], iR 24 (.p (.slIdx 1)) [(.t 22), (.t 23)], iR 25 (.l (.load none)) [(.t 24)], iR 7 (.p .mv) [(.t 25)]]) (.keep [0, 1, 5, 6, 7] (.seq (.reg [iR 26 (.p .mv) [(.t 1)], iR 27 (.p .mv) [(.t 7)], iR 28 .callv [(.t 26), (.t 27)], iR 29 (.p (.un .not)) [(.t 28)]]) (.keep [0, 1, 5, 6, 7, 29] (.cond (.t 29) (.seq (.reg [iR 30 (.p .mv) [(.t 0)], iR 31 (.p .mv) [(.t 5)], iR 32 (.p .mv) [(.t 7)], iR 33 (.p (.slIdx 1)) [(.t 30), (.t 31)], ⟨none, none, (.e (.store 1)), [(.t 33), (.t 32)], none⟩]) (.keep [0, 1, 5, 6] (.reg [iR 34 (.p .mv) [(.t 5)], iR 35 (.p (.bin .add)) [(.t 34), (.c (.int .i64 (.ofNat 1)))], iR 5 (.p .mv) [(.t 35)]]))) .skip)))))) (.keep [0, 1, 5, 6] (.reg [iR 20 (.p .mv) [(.t 6)], iR 21 (.p (.bin .add)) [(.t 20), (.c (.int .i64 (.ofNat 1)))],
    iR 6 (.p .mv) [(.t 21)]])))))))))) (.keep [0, 5] (.seq (.reg [iR 36 (.p .mv) [(.t 0)], iR 37 (.p .mv) [(.t 5)], iR 38 (.p (.slSlice 1 true false false)) [(.t 36), (.t 37)], ⟨none, none, (.e (.clear 1 [.nilp])), [(.t 38)], none⟩]) (.keep [0, 5] (.seq (.reg [iR 39 (.p .mv) [(.t 0)], iR 40 (.p .mv) [(.t 5)], iR 41 (.p (.slSlice 1 false true false)) [(.t 39), (.t 40)], iR 4 (.p .mv) [(.t 41)]]) (.keep [4] (.keep [4] .ret))))))))))))), [(.t 4)]⟩
def s_slices_DeleteFunc_cache_row_j0 (call : CallK) (N : Nat) (q : KV) (st : St) (τ : Tape) : Ans := match st with
  | ⟨fr, H⟩ => getK fr 0 fun t0 => getK fr 5 fun t5 => someK (pSlSlice 1 true false false [t0, t5]) fun v5 => effK (eClear 1 [.nilp] [v5] H τ) fun v6 H7 τ8 => someK (pSlSlice 1 false true false [t0, t5]) fun v9 => q v9 H7 τ8
def s_slices_DeleteFunc_cache_row_j2 (call : CallK) (N : Nat) (k : KC) (st : St) (τ : Tape) : Ans := match st with
  | ⟨fr, H⟩ => getK fr 0 fun t0 => getK fr 1 fun t1 => getK fr 5 fun t5 => getK fr 6 fun t6 => binK .add t6 (.int .i64 (.ofNat 1)) fun v12 => k .normal ⟨(T.set (T.set (T.set (T.set (T.set (T.set (T.set .leaf 0 t0) 1 t1) 5 t5) 6 t6) 20 t6) 21 v12) 6 v12), H⟩ τ
def s_slices_DeleteFunc_cache_row_l1 (call : CallK) (N : Nat) (st : St) (τ : Tape) (k : KC) : Ans := match st with
  | ⟨fr, H⟩ => getK fr 0 fun t0 => getK fr 1 fun t1 => getK fr 5 fun t5 => getK fr 6 fun t6 => someK (pLen [t0]) fun v10 => binK .lss t6 v10 fun v11 => condK v11 (someK (pSlIdx 1 [t0, t6]) fun v13 => someK (lLoad1 [v13] H) fun v14 => opK call .callv [t1, v14] H τ fun v15 H16 τ17 => unK .not v15 fun v18 => condK v18 (someK (pSlIdx 1 [t0, t5]) fun v19 => effK (eStore 1 [v19, v14] H16 τ17) fun v20 H21 τ22 => binK .add t5 (.int .i64 (.ofNat 1)) fun v23 => s_slices_DeleteFunc_cache_row_j2 call N k ⟨(T.set (T.set (T.set (T.set (T.set (T.set (T.set .leaf 0 t0) 1 t1) 5 t5) 6 t6) 34 t5) 35 v23) 5 v23), H21⟩ τ22) (s_slices_DeleteFunc_cache_row_j2 call N k ⟨(T.set (T.set (T.set (T.set (T.set (T.set .leaf 0 t0) 1 t1) 5 t5) 6 t6) 7 v14) 29 v18), H16⟩ τ17)) (k (.exit 0) ⟨(T.set (T.set .leaf 0 t0) 5 t5), H⟩ τ)
def s_slices_DeleteFunc_cache_row (call : CallK) (N : Nat) (a0 a1 : V) (H : Heap) (τ : Tape) (q : KV) : Ans := call f_slices_IndexFunc_cache_row [a0, a1] H τ fun v0 H1 τ2 => binK .eql v0 (.int .i64 (.negSucc 0)) fun v3 => condK v3 (q a0 H1 τ2) (binK .add v0 (.int .i64 (.ofNat 1)) fun v4 => loopK (s_slices_DeleteFunc_cache_row_l1 call N) N ⟨(T.set (T.set (T.set (T.set .leaf 0 a0) 1 a1) 5 v0) 6 v4), H1⟩ τ2 (blockK 0 (seqK (s_slices_DeleteFunc_cache_row_j0 call N q) (endK [(.t 4)] q))))
theorem s_slices_DeleteFunc_cache_row_eq (call : CallK) (N : Nat) (a0 a1 : V) (H : Heap) (τ : Tape) (q : KV) : s_slices_DeleteFunc_cache_row call N a0 a1 H τ q = funK call N fn_slices_DeleteFunc_cache_row [a0, a1] H τ q := by kernel_rfl
def e_slices_DeleteFunc_cache_row (call : CallK) (N : Nat) (vs : List V) (H : Heap) (τ : Tape) (q : KV) : Ans := match vs with | [a0, a1] => s_slices_DeleteFunc_cache_row call N a0 a1 H τ q | _ => none
theorem e_slices_DeleteFunc_cache_row_ok : EntOk fn_slices_DeleteFunc_cache_row e_slices_DeleteFunc_cache_row := by
  intro call N vs H τ q r h
  unfold e_slices_DeleteFunc_cache_row at h
  split at h
  · rw [s_slices_DeleteFunc_cache_row_eq] at h; exact h
  · cases h
theorem e_slices_DeleteFunc_cache_row_nat : EntNat e_slices_DeleteFunc_cache_row := by
  intro c hn N vs H τ q
  unfold e_slices_DeleteFunc_cache_row
  split
  · rw [s_slices_DeleteFunc_cache_row_eq, s_slices_DeleteFunc_cache_row_eq]; exact funK_ent hn _ _ _ _ _ _
  · rfl
/-- ostiary/cache.meant -/
def fn_cache_meant : Fun := ⟨2, (.seq (.reg [iR 2 (.e .box) [(.t 0)], iR 3 (.e .box) [(.t 1)], iR 4 (.p .mv) [(.c .nilf)]]) (.keep [2, 3] (.seq (.reg [iR 5 (.p (.mkFunc 110 0)) [(.t 2), (.t 3)], iR 4 (.p .mv) [(.t 5)]]) (.keep [4] (.keep [4] .ret))))), [(.t 4)]⟩
def s_cache_meant (call : CallK) (N : Nat) (a0 a1 : V) (H : Heap) (τ : Tape) (q : KV) : Ans := effK (eBox [a0] H τ) fun v0 H1 τ2 => effK (eBox [a1] H1 τ2) fun v3 H4 τ5 => someK (some (V.func f_cache_meant_1 (List.take 0 [v0, v3]) (List.drop 0 [v0, v3]))) fun v6 => q v6 H4 τ5
theorem s_cache_meant_eq (call : CallK) (N : Nat) (a0 a1 : V) (H : Heap) (τ : Tape) (q : KV) : s_cache_meant call N a0 a1 H τ q = funK call N fn_cache_meant [a0, a1] H τ q := by kernel_rfl
def e_cache_meant (call : CallK) (N : Nat) (vs : List V) (H : Heap) (τ : Tape) (q : KV) : Ans := match vs with | [a0, a1] => s_cache_meant call N a0 a1 H τ q | _ => none
theorem e_cache_meant_ok : EntOk fn_cache_meant e_cache_meant := by
  intro call N vs H τ q r h
  unfold e_cache_meant at h
  split at h
  · rw [s_cache_meant_eq] at h; exact h
  · cases h
theorem e_cache_meant_nat : EntNat e_cache_meant := by
  intro c hn N vs H τ q
  unfold e_cache_meant
  split
  · rw [s_cache_meant_eq, s_cache_meant_eq]; exact funK_ent hn _ _ _ _ _ _
  · rfl
/-- slices.Delete[[]*ostiary/cache.row,*ostiary/cache.row] -/
def fn_slices_Delete_cache_row : Fun := ⟨3, (.seq (.reg [iR 6 (.p .mv) [(.c .nils)]]) (.keep [0, 1, 2] (.seq (.reg [iR 8 (.p .mv) [(.t 0)], iR 9 (.p .mv) [(.t 1)], iR 10 (.p .mv) [(.t 2)], iR 11 (.p .mv) [(.t 0)], iR 12 (.p .len) [(.t 11)], iR 13 (.p (.slSlice 1 true true true)) [(.t 8), (.t 9), (.t 10), (.t 12)]]) (.keep [0, 1, 2] (.seq (.seq (.reg [iR 14 (.p .mv) [(.t 1)], iR 15 (.p .mv) [(.t 2)], iR 16 (.p (.bin .eql)) [(.t 14), (.t 15)]]) (.keep [0, 1, 2, 16] (.cond (.t 16) (.seq (.reg [iR 17 (.p .mv) [(.t 0)], iR 6 (.p .mv) [(.t 17)]]) (.keep [6] (.keep [6] .ret))) .skip))) (.keep [0, 1, 2] (.seq (.reg [iR 18 (.p .mv) [(.t 0)], iR 19 (.p .len) [(.t 18)], iR 7 (.p .mv) [(.t 19)]]) (.keep [0, 1, 2, 7] (.seq (.draw [iR 20 (.p .mv) [(.t 0)], iR 21 (.p .mv) [(.t 1)], iR 22 (.p (.slSlice 1 false true false)) [(.t 20), (.t 21)], iR 23 (.p .mv) [(.t 0)], iR 24 (.p .mv) [(.t 2)],
    iR 25 (.p (.slSlice 1 true false false)) [(.t 23), (.t 24)], iR 26 (.e (.append 1 8)) [(.t 22), (.t 25)], iR 0 (.p .mv) [(.t 26)]]) (.keep [0, 7] (.seq (.reg [iR 27 (.p .mv) [(.t 0)], iR 28 (.p .mv) [(.t 0)], iR 29 (.p .len) [(.t 28)], iR 30 (.p .mv) [(.t 7)], iR 31 (.p (.slSlice 1 true true false)) [(.t 27), (.t 29), (.t 30)], ⟨none, none, (.e (.clear 1 [.nilp])), [(.t 31)], none⟩]) (.keep [0] (.seq (.reg [iR 32 (.p .mv) [(.t 0)], iR 6 (.p .mv) [(.t 32)]]) (.keep [6] (.keep [6] .ret))))))))))))))), [(.t 6)]⟩
def s_slices_Delete_cache_row (call : CallK) (N : Nat) (a0 a1 a2 : V) (H : Heap) (τ : Tape) (q : KV) : Ans := someK (pLen [a0]) fun v0 => someK (pSlSlice 1 true true true [a0, a1, a2, v0]) fun v1 => binK .eql a1 a2 fun v2 => condK v2 (q a0 H τ) (someK (pLen [a0]) fun v3 => someK (pSlSlice 1 false true false [a0, a1]) fun v4 => someK (pSlSlice 1 true false false [a0, a2]) fun v5 => effK (eAppend 1 8 [v4, v5] H τ) fun v6 H7 τ8 => someK (pLen [v6]) fun v9 => someK (pSlSlice 1 true true false [v6, v9, v3]) fun v10 => effK (eClear 1 [.nilp] [v10] H7 τ8) fun v11 H12 τ13 => q v6 H12 τ13)
theorem s_slices_Delete_cache_row_eq (call : CallK) (N : Nat) (a0 a1 a2 : V) (H : Heap) (τ : Tape) (q : KV) : s_slices_Delete_cache_row call N a0 a1 a2 H τ q = funK call N fn_slices_Delete_cache_row [a0, a1, a2] H τ q := by kernel_rfl
def e_slices_Delete_cache_row (call : CallK) (N : Nat) (vs : List V) (H : Heap) (τ : Tape) (q : KV) : Ans := match vs with | [a0, a1, a2] => s_slices_Delete_cache_row call N a0 a1 a2 H τ q | _ => none
theorem e_slices_Delete_cache_row_ok : EntOk fn_slices_Delete_cache_row e_slices_Delete_cache_row := by
  intro call N vs H τ q r h
  unfold e_slices_Delete_cache_row at h
  split at h
  · rw [s_slices_Delete_cache_row_eq] at h; exact h
  · cases h
theorem e_slices_Delete_cache_row_nat : EntNat e_slices_Delete_cache_row := by
  intro c hn N vs H τ q
  unfold e_slices_Delete_cache_row
  split
  · rw [s_slices_Delete_cache_row_eq, s_slices_Delete_cache_row_eq]; exact funK_ent hn _ _ _ _ _ _
  · rfl
/-- ostiary/cache.copied -/
def fn_cache_copied : Fun := ⟨1, (.seq (.reg [iR 1 (.e .box) [(.t 0)], iR 2 (.e (.alloc [(.int .i64 (.ofNat 0)), .nils, .nils])) []]) (.keep [1, 2] (.seq (.draw [iR 3 (.p (.fieldAddr 1)) [(.t 1)], iR 4 (.l (.load none)) [(.t 3)], iR 5 (.call 69) [(.t 4)], iR 6 (.p (.fieldAddr 2)) [(.t 1)], ⟨(some 7), none, (.l (.load none)), [(.t 6)], some (0, 1)⟩, iR 8 (.call 74) [(.t 7)], iR 9 (.p (.fieldAddr 1)) [(.t 1)], ⟨none, none, (.e (.store 1)), [(.t 9), (.t 5)], none⟩, iR 10 (.p (.fieldAddr 2)) [(.t 1)], ⟨none, none, (.e (.store 1)), [(.t 10), (.t 8)], none⟩]) (.keep [1, 2] (.seq (.reg [iR 11 (.l (.load (some 3))) [(.t 1)], ⟨none, none, (.e (.store 3)), [(.t 2), (.t 11)], none⟩]) (.keep [2] (.keep [2] .ret))))))), [(.cell 2 (some 3))]⟩
def s_cache_copied (call : CallK) (N : Nat) (a0 : V) (H : Heap) (τ : Tape) (q : KV) : Ans := effK (eBox [a0] H τ) fun v0 H1 τ2 => effK (eAlloc [(.int .i64 (.ofNat 0)), .nils, .nils] [] H1 τ2) fun v3 H4 τ5 => someK (pFieldAddr 1 [v0]) fun v6 => someK (lLoad1 [v6] H4) fun v7 => call f_slices_Clone_Header [v7] H4 τ5 fun v8 H9 τ10 => someK (pFieldAddr 2 [v0]) fun v11 => someK (lLoad1 [v11] H9) fun v12 => call f_slices_Clone_byte [v12] H9 τ10 fun v13 H14 τ15 => someK (pFieldAddr 1 [v0]) fun v16 => effK (eStore 1 [v16, v8] H14 τ15) fun v17 H18 τ19 => someK (pFieldAddr 2 [v0]) fun v20 => effK (eStore 1 [v20, v13] H18 τ19) fun v21 H22 τ23 => bif chkLoads [H4, H9, H14, H18, H22] (((.load none), [v11], 0, 1) :: []) then someK (lLoadN 3 [v0] H22) fun v24 => effK (eStore 3 [v3, v24] H22 τ23) fun v25 H26 τ27 => someK (results ⟨(T.set .leaf 2 v3), H26⟩ [(.cell 2 (some 3))]) fun v => q v H26 τ27
    else none
theorem s_cache_copied_eq (call : CallK) (N : Nat) (a0 : V) (H : Heap) (τ : Tape) (q : KV) : s_cache_copied call N a0 H τ q = funK call N fn_cache_copied [a0] H τ q := by kernel_rfl
def e_cache_copied (call : CallK) (N : Nat) (vs : List V) (H : Heap) (τ : Tape) (q : KV) : Ans := match vs with | [a0] => s_cache_copied call N a0 H τ q | _ => none
theorem e_cache_copied_ok : EntOk fn_cache_copied e_cache_copied := by
  intro call N vs H τ q r h
  unfold e_cache_copied at h
  split at h
  · rw [s_cache_copied_eq] at h; exact h
  · cases h
theorem e_cache_copied_nat : EntNat e_cache_copied := by
  intro c hn N vs H τ q
  unfold e_cache_copied
  split
  · rw [s_cache_copied_eq, s_cache_copied_eq]; exact funK_ent hn _ _ _ _ _ _
  · rfl
/-- ostiary/headers.Get -/
def fn_headers_Get : Fun := ⟨2, (.seq (.reg [iR 4 (.p .mv) [(.c (.str []))], iR 5 (.p .mv) [(.c (.bool false))]]) (.keep [0, 1] (.seq (.reg [iR 6 (.p .mv) [(.c .nils)]]) (.keep [0, 1, 6] (.seq (.seq (.reg [iR 9 (.p .mv) [(.t 0)], iR 10 (.p .len) [(.t 9)], iR 11 (.p .mv) [(.c (.int .i64 (.ofNat 0)))]]) (.keep [1, 6, 9, 10, 11] (.block 0 (.loop (.keep [1, 6, 9, 10, 11] (.seq (.reg [iR 12 (.p (.bin .lss)) [(.t 11), (.t 10)]]) (.keep [1, 6, 9, 10, 11, 12] (.seq (.cond (.t 12) .skip (.keep [6] (.exit 0))) (.keep [1, 6, 9, 10, 11] (.seq (.block 1 (.seq (.reg [iR 13 (.p (.slIdx 2)) [(.t 9), (.t 11)], iR 14 (.l (.load (some 2))) [(.t 13)], iR 8 (.e (.alloc [(.str []), (.str [])])) [], ⟨none, none, (.e (.store 2)), [(.t 8), (.t 14)], none⟩]) (.keep [1, 6, 8, 9, 10, 11] (.seq (.reg [iR 15 (.l (.load (some 2))) [(.t 8)], iR 16 (.p .mv) [(.t 1)], iR 17 (.call 111) [(.t 15), (.t 16)]])
    (.keep [1, 6, 8, 9, 10, 11, 17] (.cond (.t 17) (.reg [iR 18 (.p .mv) [(.t 6)], iR 19 (.p (.fieldAddr 1)) [(.t 8)], iR 20 (.l (.load none)) [(.t 19)], iR 21 (.e (.buildSlice 1 1 [(.str [])] [(0, 1)])) [(.t 20)], iR 22 (.e (.append 1 16)) [(.t 18), (.t 21)], iR 6 (.p .mv) [(.t 22)]]) .skip)))))) (.keep [1, 6, 9, 10, 11] (.reg [iR 23 (.p (.bin .add)) [(.t 11), (.c (.int .i64 (.ofNat 1)))], iR 11 (.p .mv) [(.t 23)]])))))))))))) (.keep [6] (.seq (.reg [iR 24 (.p .mv) [(.t 6)], iR 25 (.call 92) [(.t 24), (.c (.str (bs [44, 32])))], iR 26 (.p .mv) [(.t 6)], iR 27 (.p .len) [(.t 26)], iR 28 (.p (.bin .gtr)) [(.t 27), (.c (.int .i64 (.ofNat 0)))], iR 4 (.p .mv) [(.t 25)], iR 5 (.p .mv) [(.t 28)]]) (.keep [4, 5] (.keep [4, 5] .ret))))))))), [(.t 4), (.t 5)]⟩
def s_headers_Get_j0 (call : CallK) (N : Nat) (q : KV) (st : St) (τ : Tape) : Ans := match st with
  | ⟨fr, H⟩ => getK fr 6 fun t6 => call f_strings_Join [t6, (.str (bs [44, 32]))] H τ fun v1 H2 τ3 => someK (pLen [t6]) fun v4 => binK .gtr v4 (.int .i64 (.ofNat 0)) fun v5 => q (.tup [v1, v5]) H2 τ3
def s_headers_Get_j2 (call : CallK) (N : Nat) (k : KC) (st : St) (τ : Tape) : Ans := match st with
  | ⟨fr, H⟩ => getK fr 1 fun t1 => getK fr 6 fun t6 => getK fr 9 fun t9 => getK fr 10 fun t10 => getK fr 11 fun t11 => binK .add t11 (.int .i64 (.ofNat 1)) fun v7 => k .normal ⟨(T.set (T.set (T.set (T.set (T.set (T.set (T.set .leaf 1 t1) 6 t6) 9 t9) 10 t10) 11 t11) 23 v7) 11 v7), H⟩ τ
def s_headers_Get_l1 (call : CallK) (N : Nat) (st : St) (τ : Tape) (k : KC) : Ans := match st with
  | ⟨fr, H⟩ => getK fr 1 fun t1 => getK fr 6 fun t6 => getK fr 9 fun t9 => getK fr 10 fun t10 => getK fr 11 fun t11 => binK .lss t11 t10 fun v6 => condK v6 (someK (pSlIdx 2 [t9, t11]) fun v8 => someK (lLoadN 2 [v8] H) fun v9 => effK (eAlloc [(.str []), (.str [])] [] H τ) fun v10 H11 τ12 => effK (eStore 2 [v10, v9] H11 τ12) fun v13 H14 τ15 => someK (lLoadN 2 [v10] H14) fun v16 => call f_headers_is [v16, t1] H14 τ15 fun v17 H18 τ19 => condK v17 (someK (pFieldAddr 1 [v10]) fun v20 => someK (lLoad1 [v20] H18) fun v21 => effK (eBuildSlice 1 1 [(.str [])] [(0, 1)] [v21] H18 τ19) fun v22 H23 τ24 => effK (eAppend 1 16 [t6, v22] H23 τ24) fun v25 H26 τ27 => s_headers_Get_j2 call N k ⟨(T.set (T.set (T.set (T.set (T.set (T.set (T.set (T.set (T.set (T.set (T.set (T.set (T.set .leaf 1 t1) 6 t6) 8 v10) 9 t9) 10 t10) 11 t11) 17 v17) 18 t6) 19 v20) 20 v21) 21 v22) 22 v25) 6 v25), H26⟩ τ27)
    (s_headers_Get_j2 call N k ⟨(T.set (T.set (T.set (T.set (T.set (T.set (T.set .leaf 1 t1) 6 t6) 8 v10) 9 t9) 10 t10) 11 t11) 17 v17), H18⟩ τ19)) (k (.exit 0) ⟨(T.set .leaf 6 t6), H⟩ τ)
def s_headers_Get (call : CallK) (N : Nat) (a0 a1 : V) (H : Heap) (τ : Tape) (q : KV) : Ans := someK (pLen [a0]) fun v0 => loopK (s_headers_Get_l1 call N) N ⟨(T.set (T.set (T.set (T.set (T.set .leaf 1 a1) 6 .nils) 9 a0) 10 v0) 11 (.int .i64 (.ofNat 0))), H⟩ τ (blockK 0 (seqK (s_headers_Get_j0 call N q) (endK [(.t 4), (.t 5)] q)))
theorem s_headers_Get_eq (call : CallK) (N : Nat) (a0 a1 : V) (H : Heap) (τ : Tape) (q : KV) : s_headers_Get call N a0 a1 H τ q = funK call N fn_headers_Get [a0, a1] H τ q := by kernel_rfl
def e_headers_Get (call : CallK) (N : Nat) (vs : List V) (H : Heap) (τ : Tape) (q : KV) : Ans := match vs with | [a0, a1] => s_headers_Get call N a0 a1 H τ q | _ => none
theorem e_headers_Get_ok : EntOk fn_headers_Get e_headers_Get := by
  intro call N vs H τ q r h
  unfold e_headers_Get at h
  split at h
  · rw [s_headers_Get_eq] at h; exact h
  · cases h
theorem e_headers_Get_nat : EntNat e_headers_Get := by
  intro c hn N vs H τ q
  unfold e_headers_Get
  split
  · rw [s_headers_Get_eq, s_headers_Get_eq]; exact funK_ent hn _ _ _ _ _ _
  · rfl
/-- (*ostiary/cache.Cache).store -/
def fn_cache_Cache_store : Fun := ⟨3, (.seq (.reg [iR 6 (.p .mv) [(.t 0)], iR 7 (.p .nilck) [(.t 6)], iR 8 (.p (.fieldAddr 1)) [(.t 7)], iR 9 (.l (.load none)) [(.t 8)], iR 10 (.p (.bin .add)) [(.t 9), (.c (.int .i64 (.ofNat 1)))], iR 11 (.p .nilck) [(.t 6)], iR 12 (.p (.fieldAddr 1)) [(.t 11)], ⟨none, none, (.e (.store 1)), [(.t 12), (.t 10)], none⟩]) (.keep [0, 1, 2] (.seq (.reg [iR 13 (.p .mv) [(.t 1)], iR 14 (.p .mv) [(.t 1)], iR 15 (.p .mv) [(.t 2)], iR 16 (.p .mv) [(.t 0)], iR 17 (.p .nilck) [(.t 16)], iR 18 (.p (.fieldAddr 1)) [(.t 17)], iR 19 (.l (.load none)) [(.t 18)], iR 20 (.p .nilck) [(.t 13)], iR 21 (.p (.fieldAddr 5)) [(.t 20)], ⟨none, none, (.e (.store 1)), [(.t 21), (.t 15)], none⟩, iR 22 (.p .nilck) [(.t 14)], iR 23 (.p (.fieldAddr 6)) [(.t 22)], ⟨none, none, (.e (.store 1)), [(.t 23), (.t 19)], none⟩]) (.keep [0, 1] (.reg [iR 24 (.p .mv) [(.t 0)],
    iR 25 (.p .mv) [(.t 1)], iR 26 (.call 63) [(.t 24), (.t 25)]]))))), []⟩
def s_cache_Cache_store (call : CallK) (N : Nat) (a0 a1 a2 : V) (H : Heap) (τ : Tape) (q : KV) : Ans := someK (pNilck [a0]) fun v0 => someK (pFieldAddr 1 [v0]) fun v1 => someK (lLoad1 [v1] H) fun v2 => binK .add v2 (.int .i64 (.ofNat 1)) fun v3 => someK (pNilck [a0]) fun v4 => someK (pFieldAddr 1 [v4]) fun v5 => effK (eStore 1 [v5, v3] H τ) fun v6 H7 τ8 => someK (pNilck [a0]) fun v9 => someK (pFieldAddr 1 [v9]) fun v10 => someK (lLoad1 [v10] H7) fun v11 => someK (pNilck [a1]) fun v12 => someK (pFieldAddr 5 [v12]) fun v13 => effK (eStore 1 [v13, a2] H7 τ8) fun v14 H15 τ16 => someK (pNilck [a1]) fun v17 => someK (pFieldAddr 6 [v17]) fun v18 => effK (eStore 1 [v18, v11] H15 τ16) fun v19 H20 τ21 => call f_cache_Cache_use [a0, a1] H20 τ21 fun v22 H23 τ24 => q (.tup []) H23 τ24
theorem s_cache_Cache_store_eq (call : CallK) (N : Nat) (a0 a1 a2 : V) (H : Heap) (τ : Tape) (q : KV) : s_cache_Cache_store call N a0 a1 a2 H τ q = funK call N fn_cache_Cache_store [a0, a1, a2] H τ q := by kernel_rfl
def e_cache_Cache_store (call : CallK) (N : Nat) (vs : List V) (H : Heap) (τ : Tape) (q : KV) : Ans := match vs with | [a0, a1, a2] => s_cache_Cache_store call N a0 a1 a2 H τ q | _ => none
theorem e_cache_Cache_store_ok : EntOk fn_cache_Cache_store e_cache_Cache_store := by
  intro call N vs H τ q r h
  unfold e_cache_Cache_store at h
  split at h
  · rw [s_cache_Cache_store_eq] at h; exact h
  · cases h
theorem e_cache_Cache_store_nat : EntNat e_cache_Cache_store := by
  intro c hn N vs H τ q
  unfold e_cache_Cache_store
  split
  · rw [s_cache_Cache_store_eq, s_cache_Cache_store_eq]; exact funK_ent hn _ _ _ _ _ _
  · rfl
/-- (*ostiary/cache.Cache).find -/
def fn_cache_Cache_find : Fun := ⟨3, (.seq (.reg [iR 6 (.p .mv) [(.c .nilp)]]) (.keep [0, 1, 2] (.seq (.reg [iR 7 (.p .mv) [(.c .nilp)]]) (.keep [0, 1, 2, 7] (.seq (.reg [iR 11 (.p .mv) [(.t 1)], iR 12 (.p .mv) [(.t 2)], iR 13 (.call 57) [(.t 11), (.t 12)], iR 8 (.p .mv) [(.t 13)]]) (.keep [0, 2, 7, 8] (.seq (.seq (.reg [iR 14 (.p .mv) [(.t 0)], iR 15 (.p .nilck) [(.t 14)], iR 16 (.p (.fieldAddr 0)) [(.t 15)], iR 17 (.l (.load none)) [(.t 16)], iR 18 (.p .len) [(.t 17)], iR 19 (.p .mv) [(.c (.int .i64 (.ofNat 0)))]]) (.keep [2, 7, 8, 17, 18, 19] (.block 0 (.loop (.keep [2, 7, 8, 17, 18, 19] (.seq (.reg [iR 20 (.p (.bin .lss)) [(.t 19), (.t 18)]]) (.keep [2, 7, 8, 17, 18, 19, 20] (.seq (.cond (.t 20) .skip (.keep [2, 7] (.exit 0))) (.keep [2, 7, 8, 17, 18, 19] (.seq (.block 1 (.seq (.reg [iR 21 (.p (.slIdx 1)) [(.t 17), (.t 19)], iR 22 (.l (.load none)) [(.t 21)],
    iR 10 (.p .mv) [(.t 22)]]) (.keep [2, 7, 8, 10, 17, 18, 19] (.seq (.draw [iR 23 (.p .mv) [(.t 8)], iR 24 (.p .mv) [(.t 10)], iR 25 .callv [(.t 23), (.t 24)], iR 26 (.p .mv) [(.t 25)], iG 27 26 true (.p .mv) [(.t 7)], iG 28 26 true (.l (.peq false)) [(.t 27), (.c .nilp)], iG 29 26 true (.p .mv) [(.t 28)], iG 30 29 false (.p .mv) [(.t 10)], iG 31 29 false (.p .nilck) [(.t 30)], iG 32 29 false (.p (.fieldAddr 6)) [(.t 31)], iG 33 29 false (.l (.load none)) [(.t 32)], iG 34 29 false (.p .mv) [(.t 7)], iG 35 29 false (.p .nilck) [(.t 34)], iG 36 29 false (.p (.fieldAddr 6)) [(.t 35)], iG 37 29 false (.l (.load none)) [(.t 36)], iG 38 29 false (.p (.bin .gtr)) [(.t 33), (.t 37)], iG 39 26 true (.p .pick) [(.t 29), (.c (.bool true)), (.t 38)], iR 40 (.p .pick) [(.t 26), (.t 39), (.c (.bool false))]]) (.keep [2, 7, 8, 10, 17, 18, 19, 40] (.cond (.t 40) (.reg [iR 41 (.p .mv) [(.t 10)],
    iR 7 (.p .mv) [(.t 41)]]) .skip)))))) (.keep [2, 7, 8, 17, 18, 19] (.reg [iR 42 (.p (.bin .add)) [(.t 19), (.c (.int .i64 (.ofNat 1)))], iR 19 (.p .mv) [(.t 42)]])))))))))))) (.keep [2, 7] (.seq (.seq (.reg [iR 43 (.p .mv) [(.t 2)], iR 44 (.call 55) [(.t 43)], iR 45 (.p (.field 0 1 false)) [(.t 44)]]) (.keep [7, 45] (.cond (.t 45) (.seq (.reg [iR 6 (.p .mv) [(.c .nilp)]]) (.keep [6] (.keep [6] .ret))) .skip))) (.keep [7] (.seq (.reg [iR 46 (.p .mv) [(.t 7)], iR 6 (.p .mv) [(.t 46)]]) (.keep [6] (.keep [6] .ret))))))))))))), [(.t 6)]⟩
def s_cache_Cache_find_j0 (call : CallK) (N : Nat) (q : KV) (st : St) (τ : Tape) : Ans := match st with
  | ⟨fr, H⟩ => getK fr 2 fun t2 => getK fr 7 fun t7 => call f_age_Parse [t2] H τ fun v7 H8 τ9 => someK (pField 0 1 false [v7]) fun v10 => condK v10 (q .nilp H8 τ9) (q t7 H8 τ9)
def s_cache_Cache_find_j2 (call : CallK) (N : Nat) (k : KC) (st : St) (τ : Tape) : Ans := match st with
  | ⟨fr, H⟩ => getK fr 2 fun t2 => getK fr 7 fun t7 => getK fr 8 fun t8 => getK fr 17 fun t17 => getK fr 18 fun t18 => getK fr 19 fun t19 => binK .add t19 (.int .i64 (.ofNat 1)) fun v12 => k .normal ⟨(T.set (T.set (T.set (T.set (T.set (T.set (T.set (T.set .leaf 2 t2) 7 t7) 8 t8) 17 t17) 18 t18) 19 t19) 42 v12) 19 v12), H⟩ τ
def s_cache_Cache_find_l1 (call : CallK) (N : Nat) (st : St) (τ : Tape) (k : KC) : Ans := match st with
  | ⟨fr, H⟩ => getK fr 2 fun t2 => getK fr 7 fun t7 => getK fr 8 fun t8 => getK fr 17 fun t17 => getK fr 18 fun t18 => getK fr 19 fun t19 => binK .lss t19 t18 fun v11 => condK v11 (someK (pSlIdx 1 [t17, t19]) fun v13 => someK (lLoad1 [v13] H) fun v14 => opK call .callv [t8, v14] H τ fun v15 H16 τ17 => gK v15 true (fun q' => q' t7 H16 τ17) H16 τ17 fun v18 H19 τ20 => gK v15 true (fun q' => someK (lPeq false [v18, .nilp] H19) fun v => q' v H19 τ20) H19 τ20 fun v21 H22 τ23 => gK v15 true (fun q' => q' v21 H22 τ23) H22 τ23 fun v24 H25 τ26 => gK v24 false (fun q' => q' v14 H25 τ26) H25 τ26 fun v27 H28 τ29 => gK v24 false (fun q' => someK (pNilck [v27]) fun v => q' v H28 τ29) H28 τ29 fun v30 H31 τ32 => gK v24 false (fun q' => someK (pFieldAddr 6 [v30]) fun v => q' v H31 τ32) H31 τ32 fun v33 H34 τ35 =>
    gK v24 false (fun q' => someK (lLoad1 [v33] H34) fun v => q' v H34 τ35) H34 τ35 fun v36 H37 τ38 => gK v24 false (fun q' => q' t7 H37 τ38) H37 τ38 fun v39 H40 τ41 => gK v24 false (fun q' => someK (pNilck [v39]) fun v => q' v H40 τ41) H40 τ41 fun v42 H43 τ44 => gK v24 false (fun q' => someK (pFieldAddr 6 [v42]) fun v => q' v H43 τ44) H43 τ44 fun v45 H46 τ47 => gK v24 false (fun q' => someK (lLoad1 [v45] H46) fun v => q' v H46 τ47) H46 τ47 fun v48 H49 τ50 => gK v24 false (fun q' => binK .gtr v36 v48 fun v => q' v H49 τ50) H49 τ50 fun v51 H52 τ53 => gK v15 true (fun q' => someK (pPick [v24, (.bool true), v51]) fun v => q' v H52 τ53) H52 τ53 fun v54 H55 τ56 => someK (pPick [v15, v54, (.bool false)]) fun v57 => condK v57
    (s_cache_Cache_find_j2 call N k ⟨(T.set (T.set (T.set (T.set (T.set (T.set (T.set (T.set (T.set (T.set .leaf 2 t2) 7 t7) 8 t8) 10 v14) 17 t17) 18 t18) 19 t19) 40 v57) 41 v14) 7 v14), H55⟩ τ56) (s_cache_Cache_find_j2 call N k ⟨(T.set (T.set (T.set (T.set (T.set (T.set (T.set (T.set .leaf 2 t2) 7 t7) 8 t8) 10 v14) 17 t17) 18 t18) 19 t19) 40 v57), H55⟩ τ56)) (k (.exit 0) ⟨(T.set (T.set .leaf 2 t2) 7 t7), H⟩ τ)
def s_cache_Cache_find (call : CallK) (N : Nat) (a0 a1 a2 : V) (H : Heap) (τ : Tape) (q : KV) : Ans := call f_cache_meant [a1, a2] H τ fun v0 H1 τ2 => someK (pNilck [a0]) fun v3 => someK (pFieldAddr 0 [v3]) fun v4 => someK (lLoad1 [v4] H1) fun v5 => someK (pLen [v5]) fun v6 => loopK (s_cache_Cache_find_l1 call N) N ⟨(T.set (T.set (T.set (T.set (T.set (T.set .leaf 2 a2) 7 .nilp) 8 v0) 17 v5) 18 v6) 19 (.int .i64 (.ofNat 0))), H1⟩ τ2 (blockK 0 (seqK (s_cache_Cache_find_j0 call N q) (endK [(.t 6)] q)))
theorem s_cache_Cache_find_eq (call : CallK) (N : Nat) (a0 a1 a2 : V) (H : Heap) (τ : Tape) (q : KV) : s_cache_Cache_find call N a0 a1 a2 H τ q = funK call N fn_cache_Cache_find [a0, a1, a2] H τ q := by kernel_rfl
def e_cache_Cache_find (call : CallK) (N : Nat) (vs : List V) (H : Heap) (τ : Tape) (q : KV) : Ans := match vs with | [a0, a1, a2] => s_cache_Cache_find call N a0 a1 a2 H τ q | _ => none
theorem e_cache_Cache_find_ok : EntOk fn_cache_Cache_find e_cache_Cache_find := by
  intro call N vs H τ q r h
  unfold e_cache_Cache_find at h
  split at h
  · rw [s_cache_Cache_find_eq] at h; exact h
  · cases h
theorem e_cache_Cache_find_nat : EntNat e_cache_Cache_find := by
  intro c hn N vs H τ q
  unfold e_cache_Cache_find
  split
  · rw [s_cache_Cache_find_eq, s_cache_Cache_find_eq]; exact funK_ent hn _ _ _ _ _ _
  · rfl
/-- (*ostiary/cache.Cache).use -/
def fn_cache_Cache_use : Fun := ⟨2, (.seq (.reg [iR 3 (.e .box) [(.t 1)]]) (.keep [0, 3] (.draw [iR 4 (.p .mv) [(.t 0)], iR 5 (.p .mv) [(.t 0)], iR 6 (.p .nilck) [(.t 5)], iR 7 (.p (.fieldAddr 0)) [(.t 6)], ⟨(some 8), none, (.l (.load none)), [(.t 7)], some (0, 1)⟩, iR 9 (.p (.mkFunc 112 0)) [(.t 3)], iR 10 (.call 56) [(.t 8), (.t 9)], ⟨(some 11), none, (.l (.load none)), [(.t 3)], some (0, 1)⟩, iR 12 (.e (.buildSlice 1 1 [.nilp] [(0, 1)])) [(.t 11)], iR 13 (.e (.append 1 8)) [(.t 10), (.t 12)], iR 14 (.p .nilck) [(.t 4)], iR 15 (.p (.fieldAddr 0)) [(.t 14)], ⟨none, none, (.e (.store 1)), [(.t 15), (.t 13)], none⟩]))), []⟩
def s_cache_Cache_use (call : CallK) (N : Nat) (a0 a1 : V) (H : Heap) (τ : Tape) (q : KV) : Ans := effK (eBox [a1] H τ) fun v0 H1 τ2 => someK (pNilck [a0]) fun v3 => someK (pFieldAddr 0 [v3]) fun v4 => someK (lLoad1 [v4] H1) fun v5 => someK (some (V.func f_cache_Cache_use_1 (List.take 0 [v0]) (List.drop 0 [v0]))) fun v6 => call f_slices_DeleteFunc_cache_row [v5, v6] H1 τ2 fun v7 H8 τ9 => someK (lLoad1 [v0] H8) fun v10 => effK (eBuildSlice 1 1 [.nilp] [(0, 1)] [v10] H8 τ9) fun v11 H12 τ13 => effK (eAppend 1 8 [v7, v11] H12 τ13) fun v14 H15 τ16 => someK (pNilck [a0]) fun v17 => someK (pFieldAddr 0 [v17]) fun v18 => effK (eStore 1 [v18, v14] H15 τ16) fun v19 H20 τ21 => bif chkLoads [H1, H8, H12, H15, H20] (((.load none), [v0], 0, 1) :: (((.load none), [v4], 0, 1) :: [])) then q (.tup []) H20 τ21 else none
theorem s_cache_Cache_use_eq (call : CallK) (N : Nat) (a0 a1 : V) (H : Heap) (τ : Tape) (q : KV) : s_cache_Cache_use call N a0 a1 H τ q = funK call N fn_cache_Cache_use [a0, a1] H τ q := by kernel_rfl
def e_cache_Cache_use (call : CallK) (N : Nat) (vs : List V) (H : Heap) (τ : Tape) (q : KV) : Ans := match vs with | [a0, a1] => s_cache_Cache_use call N a0 a1 H τ q | _ => none
theorem e_cache_Cache_use_ok : EntOk fn_cache_Cache_use e_cache_Cache_use := by
  intro call N vs H τ q r h
  unfold e_cache_Cache_use at h
  split at h
  · rw [s_cache_Cache_use_eq] at h; exact h
  · cases h
theorem e_cache_Cache_use_nat : EntNat e_cache_Cache_use := by
  intro c hn N vs H τ q
  unfold e_cache_Cache_use
  split
  · rw [s_cache_Cache_use_eq, s_cache_Cache_use_eq]; exact funK_ent hn _ _ _ _ _ _
  · rfl
/-- ostiary/headers.Set -/
def fn_headers_Set : Fun := ⟨3, (.seq (.reg [iR 4 (.e .box) [(.t 1)], iR 6 (.p .mv) [(.c .nils)], iR 7 (.p .mv) [(.c (.int .i64 (.ofNat 0)))]]) (.keep [0, 2, 4] (.seq (.reg [iR 14 (.p .mv) [(.t 0)], iR 15 (.p (.mkFunc 114 0)) [(.t 4)], iR 16 (.call 113) [(.t 14), (.t 15)], iR 8 (.p .mv) [(.t 16)]]) (.keep [0, 2, 4, 8] (.seq (.seq (.reg [iR 17 (.p .mv) [(.t 8)], iR 18 (.p (.bin .lss)) [(.t 17), (.c (.int .i64 (.ofNat 0)))]]) (.keep [0, 2, 4, 8, 18] (.cond (.t 18) (.seq (.reg [iR 19 (.p .mv) [(.t 0)], iR 20 (.l (.load none)) [(.t 4)], iR 21 (.p .mv) [(.t 2)], iR 22 (.call 115) [(.t 19), (.t 20), (.t 21)], iR 23 (.p (.extract 0)) [(.t 22)], iR 24 (.p (.extract 1)) [(.t 22)], iR 6 (.p .mv) [(.t 23)], iR 7 (.p .mv) [(.t 24)]]) (.keep [6, 7] (.keep [6, 7] .ret))) .skip))) (.keep [0, 2, 4, 8] (.seq (.reg [iR 26 (.l (.load none)) [(.t 4)], iR 27 (.p .mv) [(.t 2)],
    iR 28 (.call 116) [(.t 26), (.t 27)], iR 25 (.p .mv) [(.t 28)], iR 29 (.p (.extract 0)) [(.t 25)], iR 30 (.p (.extract 1)) [(.t 25)], iR 9 (.p .mv) [(.t 29)], iR 10 (.p .mv) [(.t 30)]]) (.keep [0, 4, 8, 9, 10] (.seq (.seq (.reg [iR 31 (.p .mv) [(.t 10)], iR 32 (.p (.bin .neq)) [(.t 31), (.c (.int .i64 (.ofNat 0)))]]) (.keep [0, 4, 8, 9, 10, 32] (.cond (.t 32) (.seq (.reg [iR 33 (.p .mv) [(.t 10)], iR 6 (.p .mv) [(.c .nils)], iR 7 (.p .mv) [(.t 33)]]) (.keep [6, 7] (.keep [6, 7] .ret))) .skip))) (.keep [0, 4, 8, 9] (.seq (.reg [iR 11 (.p .mv) [(.c .nils)]]) (.keep [0, 4, 8, 9, 11] (.seq (.seq (.reg [iR 34 (.p .mv) [(.t 0)], iR 35 (.p .len) [(.t 34)], iR 36 (.p .mv) [(.c (.int .i64 (.ofNat 0)))]]) (.keep [4, 8, 9, 11, 34, 35, 36] (.block 0 (.loop (.keep [4, 8, 9, 11, 34, 35, 36] (.seq (.reg [iR 37 (.p (.bin .lss)) [(.t 36), (.t 35)]])
    (.keep [4, 8, 9, 11, 34, 35, 36, 37] (.seq (.cond (.t 37) .skip (.keep [11] (.exit 0))) (.keep [4, 8, 9, 11, 34, 35, 36] (.seq (.block 1 (.seq (.reg [iR 38 (.p .mv) [(.t 36)], iR 39 (.p (.slIdx 2)) [(.t 34), (.t 36)], iR 40 (.l (.load (some 2))) [(.t 39)], iR 13 (.e (.alloc [(.str []), (.str [])])) [], iR 12 (.p .mv) [(.t 38)], ⟨none, none, (.e (.store 2)), [(.t 13), (.t 40)], none⟩]) (.keep [4, 8, 9, 11, 12, 13, 34, 35, 36] (.block 2 (.seq (.reg [iR 42 (.p .mv) [(.t 12)], iR 43 (.p .mv) [(.t 8)], iR 44 (.p (.bin .eql)) [(.t 42), (.t 43)], iR 41 (.p .mv) [(.t 44)]]) (.keep [4, 8, 9, 11, 13, 34, 35, 36, 41] (.cond (.t 41) (.reg [iR 45 (.p .mv) [(.t 11)], iR 46 (.p (.fieldAddr 0)) [(.t 13)], iR 47 (.l (.load none)) [(.t 46)], iR 48 (.p .mv) [(.t 9)], iR 49 (.p (.build [(.str []), (.str [])] [(0, 1), (1, 1)])) [(.t 47), (.t 48)],
    iR 50 (.e (.buildSlice 1 2 [(.str []), (.str [])] [(0, 2)])) [(.t 49)], iR 51 (.e (.append 2 32)) [(.t 45), (.t 50)], iR 11 (.p .mv) [(.t 51)]]) (.seq (.reg [iR 53 (.l (.load (some 2))) [(.t 13)], iR 54 (.l (.load none)) [(.t 4)], iR 55 (.call 111) [(.t 53), (.t 54)], iR 56 (.p (.un .not)) [(.t 55)], iR 52 (.p .mv) [(.t 56)]]) (.keep [4, 8, 9, 11, 13, 34, 35, 36, 52] (.cond (.t 52) (.reg [iR 57 (.p .mv) [(.t 11)], iR 58 (.l (.load (some 2))) [(.t 13)], iR 59 (.e (.buildSlice 1 2 [(.str []), (.str [])] [(0, 2)])) [(.t 58)], iR 60 (.e (.append 2 32)) [(.t 57), (.t 59)], iR 11 (.p .mv) [(.t 60)]]) .skip)))))))))) (.keep [4, 8, 9, 11, 34, 35, 36] (.reg [iR 61 (.p (.bin .add)) [(.t 36), (.c (.int .i64 (.ofNat 1)))], iR 36 (.p .mv) [(.t 61)]])))))))))))) (.keep [11] (.seq (.reg [iR 62 (.p .mv) [(.t 11)], iR 6 (.p .mv) [(.t 62)], iR 7 (.p .mv) [(.c (.int .i64 (.ofNat 0)))]])
    (.keep [6, 7] (.keep [6, 7] .ret))))))))))))))))), [(.t 6), (.t 7)]⟩
def s_headers_Set_j0 (call : CallK) (N : Nat) (q : KV) (st : St) (τ : Tape) : Ans := match st with
  | ⟨fr, H⟩ => getK fr 11 fun t11 => q (.tup [t11, (.int .i64 (.ofNat 0))]) H τ
def s_headers_Set_j2 (call : CallK) (N : Nat) (k : KC) (st : St) (τ : Tape) : Ans := match st with
  | ⟨fr, H⟩ => getK fr 4 fun t4 => getK fr 8 fun t8 => getK fr 9 fun t9 => getK fr 11 fun t11 => getK fr 34 fun t34 => getK fr 35 fun t35 => getK fr 36 fun t36 => binK .add t36 (.int .i64 (.ofNat 1)) fun v23 => k .normal ⟨(T.set (T.set (T.set (T.set (T.set (T.set (T.set (T.set (T.set .leaf 4 t4) 8 t8) 9 t9) 11 t11) 34 t34) 35 t35) 36 t36) 61 v23) 36 v23), H⟩ τ
def s_headers_Set_l1 (call : CallK) (N : Nat) (st : St) (τ : Tape) (k : KC) : Ans := match st with
  | ⟨fr, H⟩ => getK fr 4 fun t4 => getK fr 8 fun t8 => getK fr 9 fun t9 => getK fr 11 fun t11 => getK fr 34 fun t34 => getK fr 35 fun t35 => getK fr 36 fun t36 => binK .lss t36 t35 fun v22 => condK v22 (someK (pSlIdx 2 [t34, t36]) fun v24 => someK (lLoadN 2 [v24] H) fun v25 => effK (eAlloc [(.str []), (.str [])] [] H τ) fun v26 H27 τ28 => effK (eStore 2 [v26, v25] H27 τ28) fun v29 H30 τ31 => binK .eql t36 t8 fun v32 => condK v32 (someK (pFieldAddr 0 [v26]) fun v33 => someK (lLoad1 [v33] H30) fun v34 => someK (pBuild [(.str []), (.str [])] [(0, 1), (1, 1)] [v34, t9]) fun v35 => effK (eBuildSlice 1 2 [(.str []), (.str [])] [(0, 2)] [v35] H30 τ31) fun v36 H37 τ38 => effK (eAppend 2 32 [t11, v36] H37 τ38) fun v39 H40 τ41 =>
    s_headers_Set_j2 call N k ⟨(T.set (T.set (T.set (T.set (T.set (T.set (T.set (T.set (T.set (T.set (T.set (T.set (T.set (T.set (T.set (T.set (T.set .leaf 4 t4) 8 t8) 9 t9) 11 t11) 13 v26) 34 t34) 35 t35) 36 t36) 41 v32) 45 t11) 46 v33) 47 v34) 48 t9) 49 v35) 50 v36) 51 v39) 11 v39), H40⟩ τ41) (someK (lLoadN 2 [v26] H30) fun v42 => someK (lLoad1 [t4] H30) fun v43 => call f_headers_is [v42, v43] H30 τ31 fun v44 H45 τ46 => unK .not v44 fun v47 => condK v47 (someK (lLoadN 2 [v26] H45) fun v48 => effK (eBuildSlice 1 2 [(.str []), (.str [])] [(0, 2)] [v48] H45 τ46) fun v49 H50 τ51 => effK (eAppend 2 32 [t11, v49] H50 τ51) fun v52 H53 τ54 => s_headers_Set_j2 call N k ⟨(T.set (T.set (T.set (T.set (T.set (T.set (T.set (T.set (T.set (T.set (T.set (T.set (T.set (T.set .leaf 4 t4) 8 t8) 9 t9) 11 t11) 13 v26) 34 t34) 35 t35) 36 t36) 52 v47) 57 t11) 58 v48) 59 v49) 60 v52) 11 v52), H53⟩ τ54)
    (s_headers_Set_j2 call N k ⟨(T.set (T.set (T.set (T.set (T.set (T.set (T.set (T.set (T.set .leaf 4 t4) 8 t8) 9 t9) 11 t11) 13 v26) 34 t34) 35 t35) 36 t36) 52 v47), H45⟩ τ46))) (k (.exit 0) ⟨(T.set .leaf 11 t11), H⟩ τ)
def s_headers_Set (call : CallK) (N : Nat) (a0 a1 a2 : V) (H : Heap) (τ : Tape) (q : KV) : Ans := effK (eBox [a1] H τ) fun v0 H1 τ2 => someK (some (V.func f_headers_Set_1 (List.take 0 [v0]) (List.drop 0 [v0]))) fun v3 => call f_slices_IndexFunc_Header [a0, v3] H1 τ2 fun v4 H5 τ6 => binK .lss v4 (.int .i64 (.ofNat 0)) fun v7 => condK v7 (someK (lLoad1 [v0] H5) fun v8 => call f_headers_Add [a0, v8, a2] H5 τ6 fun v9 H10 τ11 => someK (pExtract 0 [v9]) fun v12 => someK (pExtract 1 [v9]) fun v13 => q (.tup [v12, v13]) H10 τ11) (someK (lLoad1 [v0] H5) fun v14 => call f_headers_may [v14, a2] H5 τ6 fun v15 H16 τ17 => someK (pExtract 0 [v15]) fun v18 => someK (pExtract 1 [v15]) fun v19 => binK .neq v19 (.int .i64 (.ofNat 0)) fun v20 => condK v20 (q (.tup [.nils, v19]) H16 τ17) (someK (pLen [a0]) fun v21 =>
    loopK (s_headers_Set_l1 call N) N ⟨(T.set (T.set (T.set (T.set (T.set (T.set (T.set .leaf 4 v0) 8 v4) 9 v18) 11 .nils) 34 a0) 35 v21) 36 (.int .i64 (.ofNat 0))), H16⟩ τ17 (blockK 0 (seqK (s_headers_Set_j0 call N q) (endK [(.t 6), (.t 7)] q)))))
theorem s_headers_Set_eq (call : CallK) (N : Nat) (a0 a1 a2 : V) (H : Heap) (τ : Tape) (q : KV) : s_headers_Set call N a0 a1 a2 H τ q = funK call N fn_headers_Set [a0, a1, a2] H τ q := by kernel_rfl
def e_headers_Set (call : CallK) (N : Nat) (vs : List V) (H : Heap) (τ : Tape) (q : KV) : Ans := match vs with | [a0, a1, a2] => s_headers_Set call N a0 a1 a2 H τ q | _ => none
theorem e_headers_Set_ok : EntOk fn_headers_Set e_headers_Set := by
  intro call N vs H τ q r h
  unfold e_headers_Set at h
  split at h
  · rw [s_headers_Set_eq] at h; exact h
  · cases h
theorem e_headers_Set_nat : EntNat e_headers_Set := by
  intro c hn N vs H τ q
  unfold e_headers_Set
  split
  · rw [s_headers_Set_eq, s_headers_Set_eq]; exact funK_ent hn _ _ _ _ _ _
  · rfl
/-- strconv.FormatInt -/
def fn_strconv_FormatInt : Fun := ⟨2, (.seq (.reg [iR 4 (.p .mv) [(.c (.str []))]]) (.keep [0, 1] (.seq (.reg [iR 5 (.p .mv) [(.t 0)], iR 6 (.p .mv) [(.t 1)], iR 7 (.call 117) [(.t 5), (.t 6)], iR 4 (.p .mv) [(.t 7)]]) (.keep [4] (.keep [4] .ret))))), [(.t 4)]⟩
def s_strconv_FormatInt (call : CallK) (N : Nat) (a0 a1 : V) (H : Heap) (τ : Tape) (q : KV) : Ans := call f_strconv_FormatInt_n117 [a0, a1] H τ fun v0 H1 τ2 => q v0 H1 τ2
theorem s_strconv_FormatInt_eq (call : CallK) (N : Nat) (a0 a1 : V) (H : Heap) (τ : Tape) (q : KV) : s_strconv_FormatInt call N a0 a1 H τ q = funK call N fn_strconv_FormatInt [a0, a1] H τ q := by kernel_rfl
def e_strconv_FormatInt (call : CallK) (N : Nat) (vs : List V) (H : Heap) (τ : Tape) (q : KV) : Ans := match vs with | [a0, a1] => s_strconv_FormatInt call N a0 a1 H τ q | _ => none
theorem e_strconv_FormatInt_ok : EntOk fn_strconv_FormatInt e_strconv_FormatInt := by
  intro call N vs H τ q r h
  unfold e_strconv_FormatInt at h
  split at h
  · rw [s_strconv_FormatInt_eq] at h; exact h
  · cases h
theorem e_strconv_FormatInt_nat : EntNat e_strconv_FormatInt := by
  intro c hn N vs H τ q
  unfold e_strconv_FormatInt
  split
  · rw [s_strconv_FormatInt_eq, s_strconv_FormatInt_eq]; exact funK_ent hn _ _ _ _ _ _
  · rfl
/-- ostiary/age.Age -/
def fn_age_Age : Fun := ⟨3, (.seq (.reg [iR 6 (.p .mv) [(.c (.int .i64 (.ofNat 0)))]]) (.keep [0, 1, 2] (.seq (.reg [iR 12 (.p .mv) [(.t 0)], iR 13 (.call 60) [(.t 12), (.c (.str (bs [97, 103, 101])))], iR 11 (.p .mv) [(.t 13)], iR 14 (.p (.extract 0)) [(.t 11)], iR 15 (.p (.extract 1)) [(.t 11)], iR 7 (.p .mv) [(.t 14)], iR 8 (.p .mv) [(.t 15)]]) (.keep [1, 2, 7] (.seq (.reg [iR 17 (.p .mv) [(.t 7)], iR 18 (.call 118) [(.t 17)], iR 19 (.call 91) [(.t 18)], iR 16 (.p .mv) [(.t 19)], iR 20 (.p (.extract 0)) [(.t 16)], iR 21 (.p (.extract 1)) [(.t 16)], iR 9 (.p .mv) [(.t 20)], iR 10 (.p .mv) [(.t 21)]]) (.keep [1, 2, 9] (.seq (.reg [iR 22 (.p .mv) [(.t 9)], iR 23 (.p .mv) [(.t 1)], iR 24 (.p .mv) [(.t 2)], iR 25 (.call 120) [(.t 23), (.t 24)], iR 26 (.call 119) [(.t 22), (.t 25)], iR 6 (.p .mv) [(.t 26)]]) (.keep [6] (.keep [6] .ret))))))))), [(.t 6)]⟩
def s_age_Age (call : CallK) (N : Nat) (a0 a1 a2 : V) (H : Heap) (τ : Tape) (q : KV) : Ans := call f_headers_Get [a0, (.str (bs [97, 103, 101]))] H τ fun v0 H1 τ2 => someK (pExtract 0 [v0]) fun v3 => someK (pExtract 1 [v0]) fun v4 => call f_infra_Strip [v3] H1 τ2 fun v5 H6 τ7 => call f_infra_Int [v5] H6 τ7 fun v8 H9 τ10 => someK (pExtract 0 [v8]) fun v11 => someK (pExtract 1 [v8]) fun v12 => call f_age_since [a1, a2] H9 τ10 fun v13 H14 τ15 => call f_age_Add [v11, v13] H14 τ15 fun v16 H17 τ18 => q v16 H17 τ18
theorem s_age_Age_eq (call : CallK) (N : Nat) (a0 a1 a2 : V) (H : Heap) (τ : Tape) (q : KV) : s_age_Age call N a0 a1 a2 H τ q = funK call N fn_age_Age [a0, a1, a2] H τ q := by kernel_rfl
def e_age_Age (call : CallK) (N : Nat) (vs : List V) (H : Heap) (τ : Tape) (q : KV) : Ans := match vs with | [a0, a1, a2] => s_age_Age call N a0 a1 a2 H τ q | _ => none
theorem e_age_Age_ok : EntOk fn_age_Age e_age_Age := by
  intro call N vs H τ q r h
  unfold e_age_Age at h
  split at h
  · rw [s_age_Age_eq] at h; exact h
  · cases h
theorem e_age_Age_nat : EntNat e_age_Age := by
  intro c hn N vs H τ q
  unfold e_age_Age
  split
  · rw [s_age_Age_eq, s_age_Age_eq]; exact funK_ent hn _ _ _ _ _ _
  · rfl
/-- ostiary/age.Fresh -/
def fn_age_Fresh : Fun := ⟨3, (.seq (.reg [iR 6 (.p .mv) [(.c (.bool false))]]) (.keep [0, 1, 2] (.seq (.reg [iR 8 (.p .mv) [(.t 0)], iR 9 (.call 55) [(.t 8)], iR 7 (.e (.alloc [(.bool false), (.bool false), (.int .i64 (.ofNat 0))])) [], ⟨none, none, (.e (.store 3)), [(.t 7), (.t 9)], none⟩]) (.keep [0, 1, 2, 7] (.seq (.draw [iR 10 (.p (.fieldAddr 1)) [(.t 7)], iR 11 (.l (.load none)) [(.t 10)], iR 12 (.p (.un .not)) [(.t 11)], iR 13 (.p .mv) [(.t 12)], iG 14 13 true (.p (.fieldAddr 2)) [(.t 7)], ⟨(some 15), some (13, true), (.l (.load none)), [(.t 14)], some (0, 1)⟩, iG 16 13 true (.p .mv) [(.t 0)], iG 17 13 true (.p .mv) [(.t 1)], iG 18 13 true (.p .mv) [(.t 2)], iG 19 13 true (.call 66) [(.t 16), (.t 17), (.t 18)], iG 20 13 true (.p (.bin .gtr)) [(.t 15), (.t 19)], iR 21 (.p .pick) [(.t 13), (.t 20), (.c (.bool false))], iR 6 (.p .mv) [(.t 21)]]) (.keep [6] (.keep [6] .ret))))))),
    [(.t 6)]⟩
def s_age_Fresh (call : CallK) (N : Nat) (a0 a1 a2 : V) (H : Heap) (τ : Tape) (q : KV) : Ans := call f_age_Parse [a0] H τ fun v0 H1 τ2 => effK (eAlloc [(.bool false), (.bool false), (.int .i64 (.ofNat 0))] [] H1 τ2) fun v3 H4 τ5 => effK (eStore 3 [v3, v0] H4 τ5) fun v6 H7 τ8 => someK (pFieldAddr 1 [v3]) fun v9 => someK (lLoad1 [v9] H7) fun v10 => unK .not v10 fun v11 => gK v11 true (fun q' => someK (pFieldAddr 2 [v3]) fun v => q' v H7 τ8) H7 τ8 fun v12 H13 τ14 => gK v11 true (fun q' => someK (lLoad1 [v12] H13) fun v => q' v H13 τ14) H13 τ14 fun v15 H16 τ17 => gK v11 true (fun q' => q' a0 H16 τ17) H16 τ17 fun v18 H19 τ20 => gK v11 true (fun q' => q' a1 H19 τ20) H19 τ20 fun v21 H22 τ23 => gK v11 true (fun q' => q' a2 H22 τ23) H22 τ23 fun v24 H25 τ26 => gK v11 true (fun q' => call f_age_Age [v18, v21, v24] H25 τ26 q') H25 τ26 fun v27 H28 τ29 =>
    gK v11 true (fun q' => binK .gtr v15 v27 fun v => q' v H28 τ29) H28 τ29 fun v30 H31 τ32 => someK (pPick [v11, v30, (.bool false)]) fun v33 => bif chkLoads [H7, H28] (match wantsV v11 true with | some true => (((.load none), [v12], 0, 1) :: []) | _ => []) then q v33 H31 τ32 else none
theorem s_age_Fresh_eq (call : CallK) (N : Nat) (a0 a1 a2 : V) (H : Heap) (τ : Tape) (q : KV) : s_age_Fresh call N a0 a1 a2 H τ q = funK call N fn_age_Fresh [a0, a1, a2] H τ q := by kernel_rfl
def e_age_Fresh (call : CallK) (N : Nat) (vs : List V) (H : Heap) (τ : Tape) (q : KV) : Ans := match vs with | [a0, a1, a2] => s_age_Fresh call N a0 a1 a2 H τ q | _ => none
theorem e_age_Fresh_ok : EntOk fn_age_Fresh e_age_Fresh := by
  intro call N vs H τ q r h
  unfold e_age_Fresh at h
  split at h
  · rw [s_age_Fresh_eq] at h; exact h
  · cases h
theorem e_age_Fresh_nat : EntNat e_age_Fresh := by
  intro c hn N vs H τ q
  unfold e_age_Fresh
  split
  · rw [s_age_Fresh_eq, s_age_Fresh_eq]; exact funK_ent hn _ _ _ _ _ _
  · rfl
/-- ostiary/headers.Drop -/
def fn_headers_Drop : Fun := ⟨2, (.seq (.reg [iR 3 (.e .box) [(.t 1)], iR 4 (.p .mv) [(.c .nils)]]) (.keep [0, 3] (.seq (.reg [iR 5 (.p .mv) [(.t 0)], iR 6 (.call 69) [(.t 5)], iR 7 (.p (.mkFunc 122 0)) [(.t 3)], iR 8 (.call 121) [(.t 6), (.t 7)], iR 4 (.p .mv) [(.t 8)]]) (.keep [4] (.keep [4] .ret))))), [(.t 4)]⟩
def s_headers_Drop (call : CallK) (N : Nat) (a0 a1 : V) (H : Heap) (τ : Tape) (q : KV) : Ans := effK (eBox [a1] H τ) fun v0 H1 τ2 => call f_slices_Clone_Header [a0] H1 τ2 fun v3 H4 τ5 => someK (some (V.func f_headers_Drop_1 (List.take 0 [v0]) (List.drop 0 [v0]))) fun v6 => call f_slices_DeleteFunc_Header [v3, v6] H4 τ5 fun v7 H8 τ9 => q v7 H8 τ9
theorem s_headers_Drop_eq (call : CallK) (N : Nat) (a0 a1 : V) (H : Heap) (τ : Tape) (q : KV) : s_headers_Drop call N a0 a1 H τ q = funK call N fn_headers_Drop [a0, a1] H τ q := by kernel_rfl
def e_headers_Drop (call : CallK) (N : Nat) (vs : List V) (H : Heap) (τ : Tape) (q : KV) : Ans := match vs with | [a0, a1] => s_headers_Drop call N a0 a1 H τ q | _ => none
theorem e_headers_Drop_ok : EntOk fn_headers_Drop e_headers_Drop := by
  intro call N vs H τ q r h
  unfold e_headers_Drop at h
  split at h
  · rw [s_headers_Drop_eq] at h; exact h
  · cases h
theorem e_headers_Drop_nat : EntNat e_headers_Drop := by
  intro c hn N vs H τ q
  unfold e_headers_Drop
  split
  · rw [s_headers_Drop_eq, s_headers_Drop_eq]; exact funK_ent hn _ _ _ _ _ _
  · rfl
/-- slices.Clone[[]ostiary/api.Header,ostiary/api.Header] -/
def fn_slices_Clone_Header : Fun := ⟨1, (.seq (.reg [iR 2 (.p .mv) [(.c .nils)]]) (.keep [0] (.seq (.seq (.reg [iR 3 (.p .mv) [(.t 0)], iR 4 (.p (.eq false .slice)) [(.t 3), (.c .nils)]]) (.keep [0, 4] (.cond (.t 4) (.seq (.reg [iR 2 (.p .mv) [(.c .nils)]]) (.keep [2] (.keep [2] .ret))) .skip))) (.keep [0] (.seq (.reg [iR 5 (.e (.buildSlice 0 2 [] [])) [], iR 6 (.p .mv) [(.t 0)], iR 7 (.e (.append 2 32)) [(.t 5), (.t 6)], iR 2 (.p .mv) [(.t 7)]]) (.keep [2] (.keep [2] .ret))))))), [(.t 2)]⟩
def s_slices_Clone_Header (call : CallK) (N : Nat) (a0 : V) (H : Heap) (τ : Tape) (q : KV) : Ans := someK (pEq false .slice [a0, .nils]) fun v0 => condK v0 (q .nils H τ) (effK (eBuildSlice 0 2 [] [] [] H τ) fun v1 H2 τ3 => effK (eAppend 2 32 [v1, a0] H2 τ3) fun v4 H5 τ6 => q v4 H5 τ6)
theorem s_slices_Clone_Header_eq (call : CallK) (N : Nat) (a0 : V) (H : Heap) (τ : Tape) (q : KV) : s_slices_Clone_Header call N a0 H τ q = funK call N fn_slices_Clone_Header [a0] H τ q := by kernel_rfl
def e_slices_Clone_Header (call : CallK) (N : Nat) (vs : List V) (H : Heap) (τ : Tape) (q : KV) : Ans := match vs with | [a0] => s_slices_Clone_Header call N a0 H τ q | _ => none
theorem e_slices_Clone_Header_ok : EntOk fn_slices_Clone_Header e_slices_Clone_Header := by
  intro call N vs H τ q r h
  unfold e_slices_Clone_Header at h
  split at h
  · rw [s_slices_Clone_Header_eq] at h; exact h
  · cases h
theorem e_slices_Clone_Header_nat : EntNat e_slices_Clone_Header := by
  intro c hn N vs H τ q
  unfold e_slices_Clone_Header
  split
  · rw [s_slices_Clone_Header_eq, s_slices_Clone_Header_eq]; exact funK_ent hn _ _ _ _ _ _
  · rfl
/-- (*ostiary/cache.Cache).Drop -/
def fn_cache_Cache_Drop : Fun := ⟨2, (.seq (.reg [iR 3 (.e .box) [(.t 1)], iR 4 (.p .mv) [(.c (.int .i64 (.ofNat 0)))]]) (.keep [0, 3] (.seq (.reg [iR 6 (.p .mv) [(.t 0)], iR 7 (.p .nilck) [(.t 6)], iR 8 (.p (.fieldAddr 0)) [(.t 7)], iR 9 (.l (.load none)) [(.t 8)], iR 10 (.p .len) [(.t 9)], iR 5 (.p .mv) [(.t 10)]]) (.keep [0, 3, 5] (.seq (.reg [iR 11 (.p .mv) [(.t 0)], iR 12 (.p .mv) [(.t 0)], iR 13 (.p .nilck) [(.t 12)], iR 14 (.p (.fieldAddr 0)) [(.t 13)], iR 15 (.l (.load none)) [(.t 14)], iR 16 (.p (.mkFunc 123 0)) [(.t 3)], iR 17 (.call 56) [(.t 15), (.t 16)], iR 18 (.p .nilck) [(.t 11)], iR 19 (.p (.fieldAddr 0)) [(.t 18)], ⟨none, none, (.e (.store 1)), [(.t 19), (.t 17)], none⟩]) (.keep [0, 5] (.seq (.reg [iR 20 (.p .mv) [(.t 5)], iR 21 (.p .mv) [(.t 0)], iR 22 (.p .nilck) [(.t 21)], iR 23 (.p (.fieldAddr 0)) [(.t 22)], iR 24 (.l (.load none)) [(.t 23)],
    iR 25 (.p .len) [(.t 24)], iR 26 (.p (.bin .sub)) [(.t 20), (.t 25)], iR 4 (.p .mv) [(.t 26)]]) (.keep [4] (.keep [4] .ret))))))))), [(.t 4)]⟩
def s_cache_Cache_Drop (call : CallK) (N : Nat) (a0 a1 : V) (H : Heap) (τ : Tape) (q : KV) : Ans := effK (eBox [a1] H τ) fun v0 H1 τ2 => someK (pNilck [a0]) fun v3 => someK (pFieldAddr 0 [v3]) fun v4 => someK (lLoad1 [v4] H1) fun v5 => someK (pLen [v5]) fun v6 => someK (pNilck [a0]) fun v7 => someK (pFieldAddr 0 [v7]) fun v8 => someK (lLoad1 [v8] H1) fun v9 => someK (some (V.func f_cache_Cache_Drop_1 (List.take 0 [v0]) (List.drop 0 [v0]))) fun v10 => call f_slices_DeleteFunc_cache_row [v9, v10] H1 τ2 fun v11 H12 τ13 => someK (pNilck [a0]) fun v14 => someK (pFieldAddr 0 [v14]) fun v15 => effK (eStore 1 [v15, v11] H12 τ13) fun v16 H17 τ18 => someK (pNilck [a0]) fun v19 => someK (pFieldAddr 0 [v19]) fun v20 => someK (lLoad1 [v20] H17) fun v21 => someK (pLen [v21]) fun v22 => binK .sub v6 v22 fun v23 => q v23 H17 τ18
theorem s_cache_Cache_Drop_eq (call : CallK) (N : Nat) (a0 a1 : V) (H : Heap) (τ : Tape) (q : KV) : s_cache_Cache_Drop call N a0 a1 H τ q = funK call N fn_cache_Cache_Drop [a0, a1] H τ q := by kernel_rfl
def e_cache_Cache_Drop (call : CallK) (N : Nat) (vs : List V) (H : Heap) (τ : Tape) (q : KV) : Ans := match vs with | [a0, a1] => s_cache_Cache_Drop call N a0 a1 H τ q | _ => none
theorem e_cache_Cache_Drop_ok : EntOk fn_cache_Cache_Drop e_cache_Cache_Drop := by
  intro call N vs H τ q r h
  unfold e_cache_Cache_Drop at h
  split at h
  · rw [s_cache_Cache_Drop_eq] at h; exact h
  · cases h
theorem e_cache_Cache_Drop_nat : EntNat e_cache_Cache_Drop := by
  intro c hn N vs H τ q
  unfold e_cache_Cache_Drop
  split
  · rw [s_cache_Cache_Drop_eq, s_cache_Cache_Drop_eq]; exact funK_ent hn _ _ _ _ _ _
  · rfl
/-- ostiary/headers.Value -/
def fn_headers_Value : Fun := ⟨1, (.seq (.reg [iR 2 (.p .mv) [(.c (.str []))], iR 3 (.p .mv) [(.c (.bool false))]]) (.keep [0] (.seq (.reg [iR 4 (.p .mv) [(.t 0)], iR 5 (.call 124) [(.t 4), (.c (.str (bs [9, 10, 13, 32])))], iR 0 (.p .mv) [(.t 5)]]) (.keep [0] (.seq (.seq (.reg [iR 6 (.p .mv) [(.t 0)], iR 7 (.call 125) [(.t 6), (.c (.str (bs [0, 10, 13])))]]) (.keep [0, 7] (.cond (.t 7) (.seq (.reg [iR 2 (.p .mv) [(.c (.str []))], iR 3 (.p .mv) [(.c (.bool false))]]) (.keep [2, 3] (.keep [2, 3] .ret))) .skip))) (.keep [0] (.seq (.reg [iR 8 (.p .mv) [(.t 0)], iR 2 (.p .mv) [(.t 8)], iR 3 (.p .mv) [(.c (.bool true))]]) (.keep [2, 3] (.keep [2, 3] .ret))))))))), [(.t 2), (.t 3)]⟩
def s_headers_Value (call : CallK) (N : Nat) (a0 : V) (H : Heap) (τ : Tape) (q : KV) : Ans := call f_strings_Trim [a0, (.str (bs [9, 10, 13, 32]))] H τ fun v0 H1 τ2 => call f_strings_ContainsAny [v0, (.str (bs [0, 10, 13]))] H1 τ2 fun v3 H4 τ5 => condK v3 (q (.tup [(.str []), (.bool false)]) H4 τ5) (q (.tup [v0, (.bool true)]) H4 τ5)
theorem s_headers_Value_eq (call : CallK) (N : Nat) (a0 : V) (H : Heap) (τ : Tape) (q : KV) : s_headers_Value call N a0 H τ q = funK call N fn_headers_Value [a0] H τ q := by kernel_rfl
def e_headers_Value (call : CallK) (N : Nat) (vs : List V) (H : Heap) (τ : Tape) (q : KV) : Ans := match vs with | [a0] => s_headers_Value call N a0 H τ q | _ => none
theorem e_headers_Value_ok : EntOk fn_headers_Value e_headers_Value := by
  intro call N vs H τ q r h
  unfold e_headers_Value at h
  split at h
  · rw [s_headers_Value_eq] at h; exact h
  · cases h
theorem e_headers_Value_nat : EntNat e_headers_Value := by
  intro c hn N vs H τ q
  unfold e_headers_Value
  split
  · rw [s_headers_Value_eq, s_headers_Value_eq]; exact funK_ent hn _ _ _ _ _ _
  · rfl
/-- slices.Clone[[]byte,byte] -/
def fn_slices_Clone_byte : Fun := ⟨1, (.seq (.reg [iR 2 (.p .mv) [(.c .nils)]]) (.keep [0] (.seq (.seq (.reg [iR 3 (.p .mv) [(.t 0)], iR 4 (.p (.eq false .slice)) [(.t 3), (.c .nils)]]) (.keep [0, 4] (.cond (.t 4) (.seq (.reg [iR 2 (.p .mv) [(.c .nils)]]) (.keep [2] (.keep [2] .ret))) .skip))) (.keep [0] (.seq (.reg [iR 5 (.e (.buildSlice 0 1 [] [])) [], iR 6 (.p .mv) [(.t 0)], iR 7 (.e (.append 1 1)) [(.t 5), (.t 6)], iR 2 (.p .mv) [(.t 7)]]) (.keep [2] (.keep [2] .ret))))))), [(.t 2)]⟩
def s_slices_Clone_byte (call : CallK) (N : Nat) (a0 : V) (H : Heap) (τ : Tape) (q : KV) : Ans := someK (pEq false .slice [a0, .nils]) fun v0 => condK v0 (q .nils H τ) (effK (eBuildSlice 0 1 [] [] [] H τ) fun v1 H2 τ3 => effK (eAppend 1 1 [v1, a0] H2 τ3) fun v4 H5 τ6 => q v4 H5 τ6)
theorem s_slices_Clone_byte_eq (call : CallK) (N : Nat) (a0 : V) (H : Heap) (τ : Tape) (q : KV) : s_slices_Clone_byte call N a0 H τ q = funK call N fn_slices_Clone_byte [a0] H τ q := by kernel_rfl
def e_slices_Clone_byte (call : CallK) (N : Nat) (vs : List V) (H : Heap) (τ : Tape) (q : KV) : Ans := match vs with | [a0] => s_slices_Clone_byte call N a0 H τ q | _ => none
theorem e_slices_Clone_byte_ok : EntOk fn_slices_Clone_byte e_slices_Clone_byte := by
  intro call N vs H τ q r h
  unfold e_slices_Clone_byte at h
  split at h
  · rw [s_slices_Clone_byte_eq] at h; exact h
  · cases h
theorem e_slices_Clone_byte_nat : EntNat e_slices_Clone_byte := by
  intro c hn N vs H τ q
  unfold e_slices_Clone_byte
  split
  · rw [s_slices_Clone_byte_eq, s_slices_Clone_byte_eq]; exact funK_ent hn _ _ _ _ _ _
  · rfl
/-- strings.Cut -/
def fn_strings_Cut : Fun := ⟨2, (.seq (.reg [iR 4 (.p .mv) [(.c (.str []))], iR 5 (.p .mv) [(.c (.str []))], iR 6 (.p .mv) [(.c (.bool false))]]) (.keep [0, 1] (.seq (.reg [iR 7 (.p .mv) [(.t 0)], iR 8 (.p .mv) [(.t 1)], iR 9 (.call 132) [(.t 7), (.t 8)], iR 10 (.p (.extract 0)) [(.t 9)], iR 11 (.p (.extract 1)) [(.t 9)], iR 12 (.p (.extract 2)) [(.t 9)], iR 4 (.p .mv) [(.t 10)], iR 5 (.p .mv) [(.t 11)], iR 6 (.p .mv) [(.t 12)]]) (.keep [4, 5, 6] (.keep [4, 5, 6] .ret))))), [(.t 4), (.t 5), (.t 6)]⟩
def s_strings_Cut (call : CallK) (N : Nat) (a0 a1 : V) (H : Heap) (τ : Tape) (q : KV) : Ans := call f_stringslite_Cut [a0, a1] H τ fun v0 H1 τ2 => someK (pExtract 0 [v0]) fun v3 => someK (pExtract 1 [v0]) fun v4 => someK (pExtract 2 [v0]) fun v5 => q (.tup [v3, v4, v5]) H1 τ2
theorem s_strings_Cut_eq (call : CallK) (N : Nat) (a0 a1 : V) (H : Heap) (τ : Tape) (q : KV) : s_strings_Cut call N a0 a1 H τ q = funK call N fn_strings_Cut [a0, a1] H τ q := by kernel_rfl
def e_strings_Cut (call : CallK) (N : Nat) (vs : List V) (H : Heap) (τ : Tape) (q : KV) : Ans := match vs with | [a0, a1] => s_strings_Cut call N a0 a1 H τ q | _ => none
theorem e_strings_Cut_ok : EntOk fn_strings_Cut e_strings_Cut := by
  intro call N vs H τ q r h
  unfold e_strings_Cut at h
  split at h
  · rw [s_strings_Cut_eq] at h; exact h
  · cases h
theorem e_strings_Cut_nat : EntNat e_strings_Cut := by
  intro c hn N vs H τ q
  unfold e_strings_Cut
  split
  · rw [s_strings_Cut_eq, s_strings_Cut_eq]; exact funK_ent hn _ _ _ _ _ _
  · rfl
/-- ostiary/headers.Split -/
def fn_headers_Split : Fun := ⟨2, (.seq (.reg [iR 4 (.p .mv) [(.c .nils)], iR 5 (.p .mv) [(.c (.bool false))]]) (.keep [0, 1] (.seq (.reg [iR 13 (.p .mv) [(.t 0)], iR 14 (.p .mv) [(.t 1)], iR 15 (.call 60) [(.t 13), (.t 14)], iR 12 (.p .mv) [(.t 15)], iR 16 (.p (.extract 0)) [(.t 12)], iR 17 (.p (.extract 1)) [(.t 12)], iR 6 (.p .mv) [(.t 16)], iR 7 (.p .mv) [(.t 17)]]) (.keep [6, 7] (.seq (.seq (.reg [iR 18 (.p .mv) [(.t 7)], iR 19 (.p (.un .not)) [(.t 18)]]) (.keep [6, 19] (.cond (.t 19) (.seq (.reg [iR 4 (.p .mv) [(.c .nils)], iR 5 (.p .mv) [(.c (.bool false))]]) (.keep [4, 5] (.keep [4, 5] .ret))) .skip))) (.keep [6] (.seq (.reg [iR 8 (.p .mv) [(.c .nils)]]) (.keep [6, 8] (.seq (.reg [iR 9 (.p .mv) [(.c (.bool false))], iR 10 (.p .mv) [(.c (.int .i64 (.ofNat 0)))]]) (.keep [6, 8, 9, 10] (.seq (.seq (.reg [iR 11 (.p .mv) [(.c (.int .i64 (.ofNat 0)))]])
    (.keep [6, 8, 9, 10, 11] (.block 0 (.loop (.keep [6, 8, 9, 10, 11] (.seq (.seq (.reg [iR 20 (.p .mv) [(.t 11)], iR 21 (.p .mv) [(.t 6)], iR 22 (.p .lenS) [(.t 21)], iR 23 (.p (.bin .lss)) [(.t 20), (.t 22)]]) (.keep [6, 8, 9, 10, 11, 23] (.cond (.t 23) .skip (.keep [6, 8, 10] (.exit 0))))) (.keep [6, 8, 9, 10, 11] (.seq (.block 1 (.block 2 (.seq (.reg [iR 27 (.p .mv) [(.t 6)], iR 28 (.p .mv) [(.t 11)], iR 29 (.p .strIndex) [(.t 27), (.t 28)], iR 30 (.p (.bin .eql)) [(.t 29), (.c (.int .u8 (.ofNat 34)))], iR 26 (.p .mv) [(.t 30)]]) (.keep [6, 8, 9, 10, 11, 26] (.cond (.t 26) (.reg [iR 31 (.p .mv) [(.t 9)], iR 32 (.p (.un .not)) [(.t 31)], iR 9 (.p .mv) [(.t 32)]]) (.seq (.reg [iR 34 (.p .mv) [(.t 9)], iR 35 (.p .mv) [(.t 34)], iG 36 35 true (.p .mv) [(.t 6)], iG 37 35 true (.p .mv) [(.t 11)], iG 38 35 true (.p .strIndex) [(.t 36), (.t 37)],
    iG 39 35 true (.p (.bin .eql)) [(.t 38), (.c (.int .u8 (.ofNat 92)))], iR 40 (.p .pick) [(.t 35), (.t 39), (.c (.bool false))], iR 33 (.p .mv) [(.t 40)]]) (.keep [6, 8, 9, 10, 11, 33] (.cond (.t 33) (.reg [iR 41 (.p .mv) [(.t 11)], iR 42 (.p (.bin .add)) [(.t 41), (.c (.int .i64 (.ofNat 1)))], iR 11 (.p .mv) [(.t 42)]]) (.seq (.reg [iR 44 (.p .mv) [(.t 9)], iR 45 (.p (.un .not)) [(.t 44)], iR 46 (.p .mv) [(.t 45)], iG 47 46 true (.p .mv) [(.t 6)], iG 48 46 true (.p .mv) [(.t 11)], iG 49 46 true (.p .strIndex) [(.t 47), (.t 48)], iG 50 46 true (.p (.bin .eql)) [(.t 49), (.c (.int .u8 (.ofNat 44)))], iR 51 (.p .pick) [(.t 46), (.t 50), (.c (.bool false))], iR 43 (.p .mv) [(.t 51)]]) (.keep [6, 8, 9, 10, 11, 43] (.cond (.t 43) (.seq (.reg [iR 52 (.p .mv) [(.t 8)], iR 53 (.p .mv) [(.t 6)], iR 54 (.p .mv) [(.t 10)], iR 55 (.p .mv) [(.t 11)],
    iR 56 (.p (.strSlice true true)) [(.t 53), (.t 54), (.t 55)], iR 57 (.call 124) [(.t 56), (.c (.str (bs [9, 32])))], iR 58 (.e (.buildSlice 1 1 [(.str [])] [(0, 1)])) [(.t 57)], iR 59 (.e (.append 1 16)) [(.t 52), (.t 58)], iR 8 (.p .mv) [(.t 59)]]) (.keep [6, 8, 9, 11] (.reg [iR 60 (.p .mv) [(.t 11)], iR 61 (.p (.bin .add)) [(.t 60), (.c (.int .i64 (.ofNat 1)))], iR 10 (.p .mv) [(.t 61)]]))) .skip))))))))))) (.keep [6, 8, 9, 10, 11] (.reg [iR 24 (.p .mv) [(.t 11)], iR 25 (.p (.bin .add)) [(.t 24), (.c (.int .i64 (.ofNat 1)))], iR 11 (.p .mv) [(.t 25)]])))))))))) (.keep [6, 8, 10] (.seq (.reg [iR 62 (.p .mv) [(.t 8)], iR 63 (.p .mv) [(.t 6)], iR 64 (.p .mv) [(.t 10)], iR 65 (.p (.strSlice true false)) [(.t 63), (.t 64)], iR 66 (.call 124) [(.t 65), (.c (.str (bs [9, 32])))], iR 67 (.e (.buildSlice 1 1 [(.str [])] [(0, 1)])) [(.t 66)], iR 68 (.e (.append 1 16)) [(.t 62), (.t 67)],
    iR 4 (.p .mv) [(.t 68)], iR 5 (.p .mv) [(.c (.bool true))]]) (.keep [4, 5] (.keep [4, 5] .ret))))))))))))))), [(.t 4), (.t 5)]⟩
def s_headers_Split_j0 (call : CallK) (N : Nat) (q : KV) (st : St) (τ : Tape) : Ans := match st with
  | ⟨fr, H⟩ => getK fr 6 fun t6 => getK fr 8 fun t8 => getK fr 10 fun t10 => someK (pStrSlice true false [t6, t10]) fun v6 => call f_strings_Trim [v6, (.str (bs [9, 32]))] H τ fun v7 H8 τ9 => effK (eBuildSlice 1 1 [(.str [])] [(0, 1)] [v7] H8 τ9) fun v10 H11 τ12 => effK (eAppend 1 16 [t8, v10] H11 τ12) fun v13 H14 τ15 => q (.tup [v13, (.bool true)]) H14 τ15
def s_headers_Split_j2 (call : CallK) (N : Nat) (k : KC) (st : St) (τ : Tape) : Ans := match st with
  | ⟨fr, H⟩ => getK fr 6 fun t6 => getK fr 8 fun t8 => getK fr 9 fun t9 => getK fr 10 fun t10 => getK fr 11 fun t11 => binK .add t11 (.int .i64 (.ofNat 1)) fun v18 => k .normal ⟨(T.set (T.set (T.set (T.set (T.set (T.set (T.set (T.set .leaf 6 t6) 8 t8) 9 t9) 10 t10) 11 t11) 24 t11) 25 v18) 11 v18), H⟩ τ
def s_headers_Split_l1 (call : CallK) (N : Nat) (st : St) (τ : Tape) (k : KC) : Ans := match st with
  | ⟨fr, H⟩ => getK fr 6 fun t6 => getK fr 8 fun t8 => getK fr 9 fun t9 => getK fr 10 fun t10 => getK fr 11 fun t11 => someK (pLenS [t6]) fun v16 => binK .lss t11 v16 fun v17 => condK v17 (someK (pStrIndex [t6, t11]) fun v19 => binK .eql v19 (.int .u8 (.ofNat 34)) fun v20 => condK v20 (unK .not t9 fun v21 => s_headers_Split_j2 call N k ⟨(T.set (T.set (T.set (T.set (T.set (T.set (T.set (T.set (T.set .leaf 6 t6) 8 t8) 9 t9) 10 t10) 11 t11) 26 v20) 31 t9) 32 v21) 9 v21), H⟩ τ) (gK t9 true (fun q' => q' t6 H τ) H τ fun v22 H23 τ24 => gK t9 true (fun q' => q' t11 H23 τ24) H23 τ24 fun v25 H26 τ27 => gK t9 true (fun q' => someK (pStrIndex [v22, v25]) fun v => q' v H26 τ27) H26 τ27 fun v28 H29 τ30 => gK t9 true (fun q' => binK .eql v28 (.int .u8 (.ofNat 92)) fun v => q' v H29 τ30) H29 τ30 fun v31 H32 τ33 => someK (pPick [t9, v31, (.bool false)]) fun v34 => condK v34
    (binK .add t11 (.int .i64 (.ofNat 1)) fun v35 => s_headers_Split_j2 call N k ⟨(T.set (T.set (T.set (T.set (T.set (T.set (T.set (T.set (T.set .leaf 6 t6) 8 t8) 9 t9) 10 t10) 11 t11) 33 v34) 41 t11) 42 v35) 11 v35), H32⟩ τ33) (unK .not t9 fun v36 => gK v36 true (fun q' => q' t6 H32 τ33) H32 τ33 fun v37 H38 τ39 => gK v36 true (fun q' => q' t11 H38 τ39) H38 τ39 fun v40 H41 τ42 => gK v36 true (fun q' => someK (pStrIndex [v37, v40]) fun v => q' v H41 τ42) H41 τ42 fun v43 H44 τ45 => gK v36 true (fun q' => binK .eql v43 (.int .u8 (.ofNat 44)) fun v => q' v H44 τ45) H44 τ45 fun v46 H47 τ48 => someK (pPick [v36, v46, (.bool false)]) fun v49 => condK v49 (someK (pStrSlice true true [t6, t10, t11]) fun v50 => call f_strings_Trim [v50, (.str (bs [9, 32]))] H47 τ48 fun v51 H52 τ53 => effK (eBuildSlice 1 1 [(.str [])] [(0, 1)] [v51] H52 τ53) fun v54 H55 τ56 =>
    effK (eAppend 1 16 [t8, v54] H55 τ56) fun v57 H58 τ59 => binK .add t11 (.int .i64 (.ofNat 1)) fun v60 => s_headers_Split_j2 call N k ⟨(T.set (T.set (T.set (T.set (T.set (T.set (T.set .leaf 6 t6) 8 v57) 9 t9) 11 t11) 60 t11) 61 v60) 10 v60), H58⟩ τ59) (s_headers_Split_j2 call N k ⟨(T.set (T.set (T.set (T.set (T.set (T.set .leaf 6 t6) 8 t8) 9 t9) 10 t10) 11 t11) 43 v49), H47⟩ τ48)))) (k (.exit 0) ⟨(T.set (T.set (T.set .leaf 6 t6) 8 t8) 10 t10), H⟩ τ)
def s_headers_Split (call : CallK) (N : Nat) (a0 a1 : V) (H : Heap) (τ : Tape) (q : KV) : Ans := call f_headers_Get [a0, a1] H τ fun v0 H1 τ2 => someK (pExtract 0 [v0]) fun v3 => someK (pExtract 1 [v0]) fun v4 => unK .not v4 fun v5 => condK v5 (q (.tup [.nils, (.bool false)]) H1 τ2) (loopK (s_headers_Split_l1 call N) N ⟨(T.set (T.set (T.set (T.set (T.set .leaf 6 v3) 8 .nils) 9 (.bool false)) 10 (.int .i64 (.ofNat 0))) 11 (.int .i64 (.ofNat 0))), H1⟩ τ2 (blockK 0 (seqK (s_headers_Split_j0 call N q) (endK [(.t 4), (.t 5)] q))))
theorem s_headers_Split_eq (call : CallK) (N : Nat) (a0 a1 : V) (H : Heap) (τ : Tape) (q : KV) : s_headers_Split call N a0 a1 H τ q = funK call N fn_headers_Split [a0, a1] H τ q := by kernel_rfl
def e_headers_Split (call : CallK) (N : Nat) (vs : List V) (H : Heap) (τ : Tape) (q : KV) : Ans := match vs with | [a0, a1] => s_headers_Split call N a0 a1 H τ q | _ => none
theorem e_headers_Split_ok : EntOk fn_headers_Split e_headers_Split := by
  intro call N vs H τ q r h
  unfold e_headers_Split at h
  split at h
  · rw [s_headers_Split_eq] at h; exact h
  · cases h
theorem e_headers_Split_nat : EntNat e_headers_Split := by
  intro c hn N vs H τ q
  unfold e_headers_Split
  split
  · rw [s_headers_Split_eq, s_headers_Split_eq]; exact funK_ent hn _ _ _ _ _ _
  · rfl
/-- ostiary/infra.Lower -/
def fn_infra_Lower : Fun := ⟨1, (.seq (.reg [iR 2 (.p .mv) [(.c (.str []))]]) (.keep [0] (.seq (.reg [iR 3 (.p .mv) [(.t 0)], iR 4 (.call 140) [(.t 3), (.c (.func 141 [] []))], iR 2 (.p .mv) [(.t 4)]]) (.keep [2] (.keep [2] .ret))))), [(.t 2)]⟩
def s_infra_Lower (call : CallK) (N : Nat) (a0 : V) (H : Heap) (τ : Tape) (q : KV) : Ans := call f_infra_mapped [a0, (.func f_infra_Lower_1 [] [])] H τ fun v0 H1 τ2 => q v0 H1 τ2
theorem s_infra_Lower_eq (call : CallK) (N : Nat) (a0 : V) (H : Heap) (τ : Tape) (q : KV) : s_infra_Lower call N a0 H τ q = funK call N fn_infra_Lower [a0] H τ q := by kernel_rfl
def e_infra_Lower (call : CallK) (N : Nat) (vs : List V) (H : Heap) (τ : Tape) (q : KV) : Ans := match vs with | [a0] => s_infra_Lower call N a0 H τ q | _ => none
theorem e_infra_Lower_ok : EntOk fn_infra_Lower e_infra_Lower := by
  intro call N vs H τ q r h
  unfold e_infra_Lower at h
  split at h
  · rw [s_infra_Lower_eq] at h; exact h
  · cases h
theorem e_infra_Lower_nat : EntNat e_infra_Lower := by
  intro c hn N vs H τ q
  unfold e_infra_Lower
  split
  · rw [s_infra_Lower_eq, s_infra_Lower_eq]; exact funK_ent hn _ _ _ _ _ _
  · rfl
/-- slices.Contains[[]string,string] -/
def fn_slices_Contains_string : Fun := ⟨2, (.seq (.reg [iR 4 (.p .mv) [(.c (.bool false))]]) (.keep [0, 1] (.seq (.reg [iR 5 (.p .mv) [(.t 0)], iR 6 (.p .mv) [(.t 1)], iR 7 (.call 142) [(.t 5), (.t 6)], iR 8 (.p (.bin .geq)) [(.t 7), (.c (.int .i64 (.ofNat 0)))], iR 4 (.p .mv) [(.t 8)]]) (.keep [4] (.keep [4] .ret))))), [(.t 4)]⟩
def s_slices_Contains_string (call : CallK) (N : Nat) (a0 a1 : V) (H : Heap) (τ : Tape) (q : KV) : Ans := call f_slices_Index_string [a0, a1] H τ fun v0 H1 τ2 => binK .geq v0 (.int .i64 (.ofNat 0)) fun v3 => q v3 H1 τ2
theorem s_slices_Contains_string_eq (call : CallK) (N : Nat) (a0 a1 : V) (H : Heap) (τ : Tape) (q : KV) : s_slices_Contains_string call N a0 a1 H τ q = funK call N fn_slices_Contains_string [a0, a1] H τ q := by kernel_rfl
def e_slices_Contains_string (call : CallK) (N : Nat) (vs : List V) (H : Heap) (τ : Tape) (q : KV) : Ans := match vs with | [a0, a1] => s_slices_Contains_string call N a0 a1 H τ q | _ => none
theorem e_slices_Contains_string_ok : EntOk fn_slices_Contains_string e_slices_Contains_string := by
  intro call N vs H τ q r h
  unfold e_slices_Contains_string at h
  split at h
  · rw [s_slices_Contains_string_eq] at h; exact h
  · cases h
theorem e_slices_Contains_string_nat : EntNat e_slices_Contains_string := by
  intro c hn N vs H τ q
  unfold e_slices_Contains_string
  split
  · rw [s_slices_Contains_string_eq, s_slices_Contains_string_eq]; exact funK_ent hn _ _ _ _ _ _
  · rfl
/-- ostiary/infra.Int -/
def fn_infra_Int : Fun := ⟨1, (.seq (.reg [iR 2 (.p .mv) [(.c (.int .i64 (.ofNat 0)))], iR 3 (.p .mv) [(.c (.bool false))]]) (.keep [0] (.seq (.reg [iR 4 (.p .mv) [(.c (.int .i64 (.ofNat 0)))]]) (.keep [0, 4] (.seq (.seq (.reg [iR 8 (.p .mv) [(.t 0)], iR 9 (.p .lenS) [(.t 8)], iR 10 (.p .mv) [(.c (.int .i64 (.ofNat 0)))]]) (.keep [0, 4, 9, 10] (.block 0 (.loop (.keep [0, 4, 9, 10] (.seq (.reg [iR 11 (.p (.bin .lss)) [(.t 10), (.t 9)]]) (.keep [0, 4, 9, 10, 11] (.seq (.cond (.t 11) .skip (.keep [0, 4] (.exit 0))) (.keep [0, 4, 9, 10] (.seq (.block 1 (.seq (.reg [iR 12 (.p .mv) [(.t 10)], iR 5 (.p .mv) [(.t 12)]]) (.keep [0, 4, 5, 9, 10] (.seq (.reg [iR 13 (.p .mv) [(.t 0)], iR 14 (.p .mv) [(.t 5)], iR 15 (.p .strIndex) [(.t 13), (.t 14)], iR 6 (.p .mv) [(.t 15)]]) (.keep [0, 4, 6, 9, 10] (.seq (.seq (.reg [iR 16 (.p .mv) [(.t 6)],
    iR 17 (.p (.bin .lss)) [(.t 16), (.c (.int .u8 (.ofNat 48)))], iR 18 (.p .mv) [(.t 17)], iG 19 18 false (.p .mv) [(.t 6)], iG 20 18 false (.p (.bin .gtr)) [(.t 19), (.c (.int .u8 (.ofNat 57)))], iR 21 (.p .pick) [(.t 18), (.c (.bool true)), (.t 20)]]) (.keep [0, 4, 6, 9, 10, 21] (.cond (.t 21) (.seq (.reg [iR 2 (.p .mv) [(.c (.int .i64 (.ofNat 0)))], iR 3 (.p .mv) [(.c (.bool false))]]) (.keep [2, 3] (.keep [2, 3] .ret))) .skip))) (.keep [0, 4, 6, 9, 10] (.seq (.reg [iR 22 (.p .mv) [(.t 6)], iR 23 (.p (.bin .sub)) [(.t 22), (.c (.int .u8 (.ofNat 48)))], iR 24 (.p (.toInt .i64)) [(.t 23)], iR 7 (.p .mv) [(.t 24)]]) (.keep [0, 4, 7, 9, 10] (.seq (.seq (.reg [iR 25 (.p .mv) [(.t 4)], iR 26 (.p .mv) [(.t 7)], iR 27 (.p (.bin .sub)) [(.c (.int .i64 (.ofNat 9223372036854775807))), (.t 26)], iR 28 (.p (.bin .quo)) [(.t 27), (.c (.int .i64 (.ofNat 10)))],
    iR 29 (.p (.bin .gtr)) [(.t 25), (.t 28)]]) (.keep [0, 4, 7, 9, 10, 29] (.cond (.t 29) (.seq (.reg [iR 4 (.p .mv) [(.c (.int .i64 (.ofNat 9223372036854775807)))]]) (.keep [0, 4, 9, 10] (.keep [0, 4, 9, 10] (.exit 1)))) .skip))) (.keep [0, 4, 7, 9, 10] (.reg [iR 30 (.p .mv) [(.t 4)], iR 31 (.p (.bin .mul)) [(.t 30), (.c (.int .i64 (.ofNat 10)))], iR 32 (.p .mv) [(.t 7)], iR 33 (.p (.bin .add)) [(.t 31), (.t 32)], iR 4 (.p .mv) [(.t 33)]])))))))))))) (.keep [0, 4, 9, 10] (.reg [iR 34 (.p (.bin .add)) [(.t 10), (.c (.int .i64 (.ofNat 1)))], iR 10 (.p .mv) [(.t 34)]])))))))))))) (.keep [0, 4] (.seq (.reg [iR 35 (.p .mv) [(.t 4)], iR 36 (.p .mv) [(.t 0)], iR 37 (.p .lenS) [(.t 36)], iR 38 (.p (.bin .gtr)) [(.t 37), (.c (.int .i64 (.ofNat 0)))], iR 2 (.p .mv) [(.t 35)], iR 3 (.p .mv) [(.t 38)]]) (.keep [2, 3] (.keep [2, 3] .ret))))))))), [(.t 2), (.t 3)]⟩
def s_infra_Int_j0 (call : CallK) (N : Nat) (q : KV) (st : St) (τ : Tape) : Ans := match st with
  | ⟨fr, H⟩ => getK fr 0 fun t0 => getK fr 4 fun t4 => someK (pLenS [t0]) fun v1 => binK .gtr v1 (.int .i64 (.ofNat 0)) fun v2 => q (.tup [t4, v2]) H τ
def s_infra_Int_j2 (call : CallK) (N : Nat) (k : KC) (st : St) (τ : Tape) : Ans := match st with
  | ⟨fr, H⟩ => getK fr 0 fun t0 => getK fr 4 fun t4 => getK fr 9 fun t9 => getK fr 10 fun t10 => binK .add t10 (.int .i64 (.ofNat 1)) fun v4 => k .normal ⟨(T.set (T.set (T.set (T.set (T.set (T.set .leaf 0 t0) 4 t4) 9 t9) 10 t10) 34 v4) 10 v4), H⟩ τ
def s_infra_Int_l1 (call : CallK) (N : Nat) (st : St) (τ : Tape) (k : KC) : Ans := match st with
  | ⟨fr, H⟩ => getK fr 0 fun t0 => getK fr 4 fun t4 => getK fr 9 fun t9 => getK fr 10 fun t10 => binK .lss t10 t9 fun v3 => condK v3 (someK (pStrIndex [t0, t10]) fun v5 => binK .lss v5 (.int .u8 (.ofNat 48)) fun v6 => gK v6 false (fun q' => q' v5 H τ) H τ fun v7 H8 τ9 => gK v6 false (fun q' => binK .gtr v7 (.int .u8 (.ofNat 57)) fun v => q' v H8 τ9) H8 τ9 fun v10 H11 τ12 => someK (pPick [v6, (.bool true), v10]) fun v13 => condK v13 (k .ret ⟨(T.set (T.set .leaf 2 (.int .i64 (.ofNat 0))) 3 (.bool false)), H11⟩ τ12) (binK .sub v5 (.int .u8 (.ofNat 48)) fun v14 => toIntK .i64 v14 fun v15 => binK .sub (.int .i64 (.ofNat 9223372036854775807)) v15 fun v16 => binK .quo v16 (.int .i64 (.ofNat 10)) fun v17 => binK .gtr t4 v17 fun v18 => condK v18 (s_infra_Int_j2 call N k ⟨(T.set (T.set (T.set (T.set .leaf 0 t0) 4 (.int .i64 (.ofNat 9223372036854775807))) 9 t9) 10 t10), H11⟩ τ12)
    (binK .mul t4 (.int .i64 (.ofNat 10)) fun v19 => binK .add v19 v15 fun v20 => s_infra_Int_j2 call N k ⟨(T.set (T.set (T.set (T.set (T.set (T.set (T.set (T.set (T.set (T.set .leaf 0 t0) 4 t4) 7 v15) 9 t9) 10 t10) 30 t4) 31 v19) 32 v15) 33 v20) 4 v20), H11⟩ τ12))) (k (.exit 0) ⟨(T.set (T.set .leaf 0 t0) 4 t4), H⟩ τ)
def s_infra_Int (call : CallK) (N : Nat) (a0 : V) (H : Heap) (τ : Tape) (q : KV) : Ans := someK (pLenS [a0]) fun v0 => loopK (s_infra_Int_l1 call N) N ⟨(T.set (T.set (T.set (T.set .leaf 0 a0) 4 (.int .i64 (.ofNat 0))) 9 v0) 10 (.int .i64 (.ofNat 0))), H⟩ τ (blockK 0 (seqK (s_infra_Int_j0 call N q) (endK [(.t 2), (.t 3)] q)))
theorem s_infra_Int_eq (call : CallK) (N : Nat) (a0 : V) (H : Heap) (τ : Tape) (q : KV) : s_infra_Int call N a0 H τ q = funK call N fn_infra_Int [a0] H τ q := by kernel_rfl
def e_infra_Int (call : CallK) (N : Nat) (vs : List V) (H : Heap) (τ : Tape) (q : KV) : Ans := match vs with | [a0] => s_infra_Int call N a0 H τ q | _ => none
theorem e_infra_Int_ok : EntOk fn_infra_Int e_infra_Int := by
  intro call N vs H τ q r h
  unfold e_infra_Int at h
  split at h
  · rw [s_infra_Int_eq] at h; exact h
  · cases h
theorem e_infra_Int_nat : EntNat e_infra_Int := by
  intro c hn N vs H τ q
  unfold e_infra_Int
  split
  · rw [s_infra_Int_eq, s_infra_Int_eq]; exact funK_ent hn _ _ _ _ _ _
  · rfl
/-- ostiary/infra.Token -/
def fn_infra_Token : Fun := ⟨1, (.seq (.reg [iR 2 (.p .mv) [(.c (.bool false))]]) (.keep [0] (.seq (.seq (.reg [iR 6 (.p .mv) [(.t 0)], iR 7 (.p .lenS) [(.t 6)], iR 8 (.p .mv) [(.c (.int .i64 (.ofNat 0)))]]) (.keep [0, 7, 8] (.block 0 (.loop (.keep [0, 7, 8] (.seq (.reg [iR 9 (.p (.bin .lss)) [(.t 8), (.t 7)]]) (.keep [0, 7, 8, 9] (.seq (.cond (.t 9) .skip (.keep [0] (.exit 0))) (.keep [0, 7, 8] (.seq (.block 1 (.seq (.reg [iR 10 (.p .mv) [(.t 8)], iR 3 (.p .mv) [(.t 10)]]) (.keep [0, 3, 7, 8] (.seq (.reg [iR 11 (.p .mv) [(.t 0)], iR 12 (.p .mv) [(.t 3)], iR 13 (.p .strIndex) [(.t 11), (.t 12)], iR 4 (.p .mv) [(.t 13)]]) (.keep [0, 4, 7, 8] (.seq (.reg [iR 14 (.p .mv) [(.t 4)], iR 15 (.p (.bin .geq)) [(.t 14), (.c (.int .u8 (.ofNat 97)))], iR 16 (.p .mv) [(.t 15)], iG 17 16 true (.p .mv) [(.t 4)], iG 18 16 true (.p (.bin .leq)) [(.t 17), (.c (.int .u8 (.ofNat 122)))],
    iR 19 (.p .pick) [(.t 16), (.t 18), (.c (.bool false))], iR 20 (.p .mv) [(.t 19)], iG 21 20 false (.p .mv) [(.t 4)], iG 22 20 false (.p (.bin .geq)) [(.t 21), (.c (.int .u8 (.ofNat 65)))], iG 23 20 false (.p .mv) [(.t 22)], iG 24 23 true (.p .mv) [(.t 4)], iG 25 23 true (.p (.bin .leq)) [(.t 24), (.c (.int .u8 (.ofNat 90)))], iG 26 20 false (.p .pick) [(.t 23), (.t 25), (.c (.bool false))], iR 27 (.p .pick) [(.t 20), (.c (.bool true)), (.t 26)], iR 28 (.p .mv) [(.t 27)], iG 29 28 false (.p .mv) [(.t 4)], iG 30 28 false (.p (.bin .geq)) [(.t 29), (.c (.int .u8 (.ofNat 48)))], iG 31 28 false (.p .mv) [(.t 30)], iG 32 31 true (.p .mv) [(.t 4)], iG 33 31 true (.p (.bin .leq)) [(.t 32), (.c (.int .u8 (.ofNat 57)))], iG 34 28 false (.p .pick) [(.t 31), (.t 33), (.c (.bool false))], iR 35 (.p .pick) [(.t 28), (.c (.bool true)), (.t 34)], iR 5 (.p .mv) [(.t 35)]])
    (.keep [0, 4, 5, 7, 8] (.seq (.reg [iR 36 (.p .mv) [(.t 5)], iR 37 (.p (.un .not)) [(.t 36)], iR 38 (.p .mv) [(.t 37)], iG 39 38 true (.p .mv) [(.t 4)], iG 40 38 true (.call 151) [(.c (.str (bs [33, 35, 36, 37, 38, 39, 42, 43, 45, 46, 94, 95, 96, 124, 126]))), (.t 39)], iG 41 38 true (.p (.bin .lss)) [(.t 40), (.c (.int .i64 (.ofNat 0)))], iR 42 (.p .pick) [(.t 38), (.t 41), (.c (.bool false))]]) (.keep [0, 7, 8, 42] (.cond (.t 42) (.seq (.reg [iR 2 (.p .mv) [(.c (.bool false))]]) (.keep [2] (.keep [2] .ret))) .skip)))))))))) (.keep [0, 7, 8] (.reg [iR 43 (.p (.bin .add)) [(.t 8), (.c (.int .i64 (.ofNat 1)))], iR 8 (.p .mv) [(.t 43)]])))))))))))) (.keep [0] (.seq (.reg [iR 44 (.p .mv) [(.t 0)], iR 45 (.p (.bin .neq)) [(.t 44), (.c (.str []))], iR 2 (.p .mv) [(.t 45)]]) (.keep [2] (.keep [2] .ret))))))), [(.t 2)]⟩
def s_infra_Token_j0 (call : CallK) (N : Nat) (q : KV) (st : St) (τ : Tape) : Ans := match st with
  | ⟨fr, H⟩ => getK fr 0 fun t0 => binK .neq t0 (.str []) fun v1 => q v1 H τ
def s_infra_Token_l1 (call : CallK) (N : Nat) (st : St) (τ : Tape) (k : KC) : Ans := match st with
  | ⟨fr, H⟩ => getK fr 0 fun t0 => getK fr 7 fun t7 => getK fr 8 fun t8 => binK .lss t8 t7 fun v2 => condK v2 (someK (pStrIndex [t0, t8]) fun v3 => binK .geq v3 (.int .u8 (.ofNat 97)) fun v4 => gK v4 true (fun q' => q' v3 H τ) H τ fun v5 H6 τ7 => gK v4 true (fun q' => binK .leq v5 (.int .u8 (.ofNat 122)) fun v => q' v H6 τ7) H6 τ7 fun v8 H9 τ10 => someK (pPick [v4, v8, (.bool false)]) fun v11 => gK v11 false (fun q' => q' v3 H9 τ10) H9 τ10 fun v12 H13 τ14 => gK v11 false (fun q' => binK .geq v12 (.int .u8 (.ofNat 65)) fun v => q' v H13 τ14) H13 τ14 fun v15 H16 τ17 => gK v11 false (fun q' => q' v15 H16 τ17) H16 τ17 fun v18 H19 τ20 => gK v18 true (fun q' => q' v3 H19 τ20) H19 τ20 fun v21 H22 τ23 => gK v18 true (fun q' => binK .leq v21 (.int .u8 (.ofNat 90)) fun v => q' v H22 τ23) H22 τ23 fun v24 H25 τ26 =>
    gK v11 false (fun q' => someK (pPick [v18, v24, (.bool false)]) fun v => q' v H25 τ26) H25 τ26 fun v27 H28 τ29 => someK (pPick [v11, (.bool true), v27]) fun v30 => gK v30 false (fun q' => q' v3 H28 τ29) H28 τ29 fun v31 H32 τ33 => gK v30 false (fun q' => binK .geq v31 (.int .u8 (.ofNat 48)) fun v => q' v H32 τ33) H32 τ33 fun v34 H35 τ36 => gK v30 false (fun q' => q' v34 H35 τ36) H35 τ36 fun v37 H38 τ39 => gK v37 true (fun q' => q' v3 H38 τ39) H38 τ39 fun v40 H41 τ42 => gK v37 true (fun q' => binK .leq v40 (.int .u8 (.ofNat 57)) fun v => q' v H41 τ42) H41 τ42 fun v43 H44 τ45 => gK v30 false (fun q' => someK (pPick [v37, v43, (.bool false)]) fun v => q' v H44 τ45) H44 τ45 fun v46 H47 τ48 => someK (pPick [v30, (.bool true), v46]) fun v49 => unK .not v49 fun v50 => gK v50 true (fun q' => q' v3 H47 τ48) H47 τ48 fun v51 H52 τ53 =>
    gK v50 true (fun q' => call f_strings_IndexByte [(.str (bs [33, 35, 36, 37, 38, 39, 42, 43, 45, 46, 94, 95, 96, 124, 126])), v51] H52 τ53 q') H52 τ53 fun v54 H55 τ56 => gK v50 true (fun q' => binK .lss v54 (.int .i64 (.ofNat 0)) fun v => q' v H55 τ56) H55 τ56 fun v57 H58 τ59 => someK (pPick [v50, v57, (.bool false)]) fun v60 => condK v60 (k .ret ⟨(T.set .leaf 2 (.bool false)), H58⟩ τ59) (binK .add t8 (.int .i64 (.ofNat 1)) fun v61 => k .normal ⟨(T.set (T.set (T.set (T.set (T.set .leaf 0 t0) 7 t7) 8 t8) 43 v61) 8 v61), H58⟩ τ59)) (k (.exit 0) ⟨(T.set .leaf 0 t0), H⟩ τ)
def s_infra_Token (call : CallK) (N : Nat) (a0 : V) (H : Heap) (τ : Tape) (q : KV) : Ans := someK (pLenS [a0]) fun v0 => loopK (s_infra_Token_l1 call N) N ⟨(T.set (T.set (T.set .leaf 0 a0) 7 v0) 8 (.int .i64 (.ofNat 0))), H⟩ τ (blockK 0 (seqK (s_infra_Token_j0 call N q) (endK [(.t 2)] q)))
theorem s_infra_Token_eq (call : CallK) (N : Nat) (a0 : V) (H : Heap) (τ : Tape) (q : KV) : s_infra_Token call N a0 H τ q = funK call N fn_infra_Token [a0] H τ q := by kernel_rfl
def e_infra_Token (call : CallK) (N : Nat) (vs : List V) (H : Heap) (τ : Tape) (q : KV) : Ans := match vs with | [a0] => s_infra_Token call N a0 H τ q | _ => none
theorem e_infra_Token_ok : EntOk fn_infra_Token e_infra_Token := by
  intro call N vs H τ q r h
  unfold e_infra_Token at h
  split at h
  · rw [s_infra_Token_eq] at h; exact h
  · cases h
theorem e_infra_Token_nat : EntNat e_infra_Token := by
  intro c hn N vs H τ q
  unfold e_infra_Token
  split
  · rw [s_infra_Token_eq, s_infra_Token_eq]; exact funK_ent hn _ _ _ _ _ _
  · rfl
/-- ostiary/age.piece -/
def fn_age_piece : Fun := ⟨1, (.seq (.reg [iR 2 (.p .mv) [(.c (.str []))], iR 3 (.p .mv) [(.c (.str []))]]) (.keep [0] (.seq (.reg [iR 8 (.p .mv) [(.t 0)], iR 9 (.call 77) [(.t 8), (.c (.str (bs [61])))], iR 7 (.p .mv) [(.t 9)], iR 10 (.p (.extract 0)) [(.t 7)], iR 11 (.p (.extract 1)) [(.t 7)], iR 12 (.p (.extract 2)) [(.t 7)], iR 4 (.p .mv) [(.t 10)], iR 5 (.p .mv) [(.t 11)], iR 6 (.p .mv) [(.t 12)]]) (.keep [4, 5] (.seq (.reg [iR 13 (.p .mv) [(.t 5)], iR 14 (.call 118) [(.t 13)], iR 5 (.p .mv) [(.t 14)]]) (.keep [4, 5] (.seq (.seq (.reg [iR 15 (.p .mv) [(.t 5)], iR 16 (.p .lenS) [(.t 15)], iR 17 (.p (.bin .gtr)) [(.t 16), (.c (.int .i64 (.ofNat 1)))], iR 18 (.p .mv) [(.t 17)], iG 19 18 true (.p .mv) [(.t 5)], iG 20 18 true (.p .strIndex) [(.t 19), (.c (.int .i64 (.ofNat 0)))], iG 21 18 true (.p (.bin .eql)) [(.t 20), (.c (.int .u8 (.ofNat 34)))],
    iR 22 (.p .pick) [(.t 18), (.t 21), (.c (.bool false))], iR 23 (.p .mv) [(.t 22)], iG 24 23 true (.p .mv) [(.t 5)], iG 25 23 true (.p .mv) [(.t 5)], iG 26 23 true (.p .lenS) [(.t 25)], iG 27 23 true (.p (.bin .sub)) [(.t 26), (.c (.int .i64 (.ofNat 1)))], iG 28 23 true (.p .strIndex) [(.t 24), (.t 27)], iG 29 23 true (.p (.bin .eql)) [(.t 28), (.c (.int .u8 (.ofNat 34)))], iR 30 (.p .pick) [(.t 23), (.t 29), (.c (.bool false))]]) (.keep [4, 5, 30] (.cond (.t 30) (.reg [iR 31 (.p .mv) [(.t 5)], iR 32 (.p .mv) [(.t 5)], iR 33 (.p .lenS) [(.t 32)], iR 34 (.p (.bin .sub)) [(.t 33), (.c (.int .i64 (.ofNat 1)))], iR 35 (.p (.strSlice true true)) [(.t 31), (.c (.int .i64 (.ofNat 1))), (.t 34)], iR 5 (.p .mv) [(.t 35)]]) .skip))) (.keep [4, 5] (.seq (.reg [iR 36 (.p .mv) [(.t 4)], iR 37 (.call 118) [(.t 36)], iR 38 (.call 87) [(.t 37)], iR 39 (.p .mv) [(.t 5)], iR 2 (.p .mv) [(.t 38)],
    iR 3 (.p .mv) [(.t 39)]]) (.keep [2, 3] (.keep [2, 3] .ret))))))))))), [(.t 2), (.t 3)]⟩
def s_age_piece_j0 (call : CallK) (N : Nat) (q : KV) (st : St) (τ : Tape) : Ans := match st with
  | ⟨fr, H⟩ => getK fr 4 fun t4 => getK fr 5 fun t5 => call f_infra_Strip [t4] H τ fun v40 H41 τ42 => call f_infra_Lower [v40] H41 τ42 fun v43 H44 τ45 => q (.tup [v43, t5]) H44 τ45
def s_age_piece (call : CallK) (N : Nat) (a0 : V) (H : Heap) (τ : Tape) (q : KV) : Ans := call f_strings_Cut [a0, (.str (bs [61]))] H τ fun v0 H1 τ2 => someK (pExtract 0 [v0]) fun v3 => someK (pExtract 1 [v0]) fun v4 => someK (pExtract 2 [v0]) fun v5 => call f_infra_Strip [v4] H1 τ2 fun v6 H7 τ8 => someK (pLenS [v6]) fun v9 => binK .gtr v9 (.int .i64 (.ofNat 1)) fun v10 => gK v10 true (fun q' => q' v6 H7 τ8) H7 τ8 fun v11 H12 τ13 => gK v10 true (fun q' => someK (pStrIndex [v11, (.int .i64 (.ofNat 0))]) fun v => q' v H12 τ13) H12 τ13 fun v14 H15 τ16 => gK v10 true (fun q' => binK .eql v14 (.int .u8 (.ofNat 34)) fun v => q' v H15 τ16) H15 τ16 fun v17 H18 τ19 => someK (pPick [v10, v17, (.bool false)]) fun v20 => gK v20 true (fun q' => q' v6 H18 τ19) H18 τ19 fun v21 H22 τ23 => gK v20 true (fun q' => q' v6 H22 τ23) H22 τ23 fun v24 H25 τ26 =>
    gK v20 true (fun q' => someK (pLenS [v24]) fun v => q' v H25 τ26) H25 τ26 fun v27 H28 τ29 => gK v20 true (fun q' => binK .sub v27 (.int .i64 (.ofNat 1)) fun v => q' v H28 τ29) H28 τ29 fun v30 H31 τ32 => gK v20 true (fun q' => someK (pStrIndex [v21, v30]) fun v => q' v H31 τ32) H31 τ32 fun v33 H34 τ35 => gK v20 true (fun q' => binK .eql v33 (.int .u8 (.ofNat 34)) fun v => q' v H34 τ35) H34 τ35 fun v36 H37 τ38 => someK (pPick [v20, v36, (.bool false)]) fun v39 => condK v39 (someK (pLenS [v6]) fun v46 => binK .sub v46 (.int .i64 (.ofNat 1)) fun v47 => someK (pStrSlice true true [v6, (.int .i64 (.ofNat 1)), v47]) fun v48 => s_age_piece_j0 call N q ⟨(T.set (T.set (T.set (T.set (T.set (T.set (T.set (T.set (T.set .leaf 4 v3) 5 v6) 30 v39) 31 v6) 32 v6) 33 v46) 34 v47) 35 v48) 5 v48), H37⟩ τ38) (s_age_piece_j0 call N q ⟨(T.set (T.set (T.set .leaf 4 v3) 5 v6) 30 v39), H37⟩ τ38)
theorem s_age_piece_eq (call : CallK) (N : Nat) (a0 : V) (H : Heap) (τ : Tape) (q : KV) : s_age_piece call N a0 H τ q = funK call N fn_age_piece [a0] H τ q := by kernel_rfl
def e_age_piece (call : CallK) (N : Nat) (vs : List V) (H : Heap) (τ : Tape) (q : KV) : Ans := match vs with | [a0] => s_age_piece call N a0 H τ q | _ => none
theorem e_age_piece_ok : EntOk fn_age_piece e_age_piece := by
  intro call N vs H τ q r h
  unfold e_age_piece at h
  split at h
  · rw [s_age_piece_eq] at h; exact h
  · cases h
theorem e_age_piece_nat : EntNat e_age_piece := by
  intro c hn N vs H τ q
  unfold e_age_piece
  split
  · rw [s_age_piece_eq, s_age_piece_eq]; exact funK_ent hn _ _ _ _ _ _
  · rfl
/-- slices.IndexFunc[[]*ostiary/cache.row,*ostiary/cache.row] -/
def fn_slices_IndexFunc_cache_row : Fun := ⟨2, (.seq (.reg [iR 4 (.p .mv) [(.c (.int .i64 (.ofNat 0)))]]) (.keep [0, 1] (.seq (.seq (.reg [iR 6 (.p .mv) [(.t 0)], iR 7 (.p .len) [(.t 6)], iR 8 (.p .mv) [(.c (.int .i64 (.ofNat 0)))]]) (.keep [0, 1, 7, 8] (.block 0 (.loop (.keep [0, 1, 7, 8] (.seq (.reg [iR 9 (.p (.bin .lss)) [(.t 8), (.t 7)]]) (.keep [0, 1, 7, 8, 9] (.seq (.cond (.t 9) .skip (.keep [] (.exit 0))) (.keep [0, 1, 7, 8] (.seq (.block 1 (.seq (.reg [iR 10 (.p .mv) [(.t 8)], iR 5 (.p .mv) [(.t 10)]]) (.keep [0, 1, 5, 7, 8] (.seq (.reg [iR 11 (.p .mv) [(.t 1)], iR 12 (.p .mv) [(.t 0)], iR 13 (.p .mv) [(.t 5)], iR 14 (.p (.slIdx 1)) [(.t 12), (.t 13)], iR 15 (.l (.load none)) [(.t 14)], iR 16 .callv [(.t 11), (.t 15)]]) (.keep [0, 1, 5, 7, 8, 16] (.cond (.t 16) (.seq (.reg [iR 17 (.p .mv) [(.t 5)], iR 4 (.p .mv) [(.t 17)]]) (.keep [4] (.keep [4] .ret))) .skip))))))
    (.keep [0, 1, 7, 8] (.reg [iR 18 (.p (.bin .add)) [(.t 8), (.c (.int .i64 (.ofNat 1)))], iR 8 (.p .mv) [(.t 18)]])))))))))))) (.keep [] (.seq (.reg [iR 4 (.p .mv) [(.c (.int .i64 (.negSucc 0)))]]) (.keep [4] (.keep [4] .ret))))))), [(.t 4)]⟩
def s_slices_IndexFunc_cache_row_j0 (call : CallK) (N : Nat) (q : KV) (st : St) (τ : Tape) : Ans := match st with
  | ⟨fr, H⟩ => q (.int .i64 (.negSucc 0)) H τ
def s_slices_IndexFunc_cache_row_l1 (call : CallK) (N : Nat) (st : St) (τ : Tape) (k : KC) : Ans := match st with
  | ⟨fr, H⟩ => getK fr 0 fun t0 => getK fr 1 fun t1 => getK fr 7 fun t7 => getK fr 8 fun t8 => binK .lss t8 t7 fun v1 => condK v1 (someK (pSlIdx 1 [t0, t8]) fun v2 => someK (lLoad1 [v2] H) fun v3 => opK call .callv [t1, v3] H τ fun v4 H5 τ6 => condK v4 (k .ret ⟨(T.set .leaf 4 t8), H5⟩ τ6) (binK .add t8 (.int .i64 (.ofNat 1)) fun v7 => k .normal ⟨(T.set (T.set (T.set (T.set (T.set (T.set .leaf 0 t0) 1 t1) 7 t7) 8 t8) 18 v7) 8 v7), H5⟩ τ6)) (k (.exit 0) ⟨.leaf, H⟩ τ)
def s_slices_IndexFunc_cache_row (call : CallK) (N : Nat) (a0 a1 : V) (H : Heap) (τ : Tape) (q : KV) : Ans := someK (pLen [a0]) fun v0 => loopK (s_slices_IndexFunc_cache_row_l1 call N) N ⟨(T.set (T.set (T.set (T.set .leaf 0 a0) 1 a1) 7 v0) 8 (.int .i64 (.ofNat 0))), H⟩ τ (blockK 0 (seqK (s_slices_IndexFunc_cache_row_j0 call N q) (endK [(.t 4)] q)))
theorem s_slices_IndexFunc_cache_row_eq (call : CallK) (N : Nat) (a0 a1 : V) (H : Heap) (τ : Tape) (q : KV) : s_slices_IndexFunc_cache_row call N a0 a1 H τ q = funK call N fn_slices_IndexFunc_cache_row [a0, a1] H τ q := by kernel_rfl
def e_slices_IndexFunc_cache_row (call : CallK) (N : Nat) (vs : List V) (H : Heap) (τ : Tape) (q : KV) : Ans := match vs with | [a0, a1] => s_slices_IndexFunc_cache_row call N a0 a1 H τ q | _ => none
theorem e_slices_IndexFunc_cache_row_ok : EntOk fn_slices_IndexFunc_cache_row e_slices_IndexFunc_cache_row := by
  intro call N vs H τ q r h
  unfold e_slices_IndexFunc_cache_row at h
  split at h
  · rw [s_slices_IndexFunc_cache_row_eq] at h; exact h
  · cases h
theorem e_slices_IndexFunc_cache_row_nat : EntNat e_slices_IndexFunc_cache_row := by
  intro c hn N vs H τ q
  unfold e_slices_IndexFunc_cache_row
  split
  · rw [s_slices_IndexFunc_cache_row_eq, s_slices_IndexFunc_cache_row_eq]; exact funK_ent hn _ _ _ _ _ _
  · rfl
end Go.Am.X
