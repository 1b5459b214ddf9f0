/- The abstract machine, printed functions of the program, and what they are shown to be. -/
import Derived.Test.YthdglgbbkhiaaaaGreatDoorPNUM4
import Derived.KernelRfl
namespace Go.Am.X
set_option maxRecDepth 1000000
set_option linter.unusedVariables false
abbrev iR (n : Nat) (o : AOp) (a : List O) : Ins := ⟨some n, none, o, a, none⟩
abbrev iG (n g : Nat) (b : Bool) (o : AOp) (a : List O) : Ins := ⟨some n, some (g, b), o, a, none⟩
abbrev f_law19_PreflightNumbers : Nat := 6
abbrev f_book_Same_Header : Nat := 14
abbrev f_law19_of : Nat := 32
abbrev f_law19_h : Nat := 33
abbrev f_preflight_Read : Nat := 34
abbrev f_preflight_Ask : Nat := 35
abbrev f_preflight_New : Nat := 36
abbrev f_preflight_Table_Put : Nat := 37
abbrev f_law19_same : Nat := 38
abbrev f_preflight_Table_Allows : Nat := 39
abbrev f_preflight_Table_Len : Nat := 40
abbrev f_law19_known : Nat := 41
abbrev f_cors_Check : Nat := 46
abbrev f_book_Same_string : Nat := 48
abbrev f_cors_Simple : Nat := 49
abbrev f_headers_Get : Nat := 60
abbrev f_origin_Text : Nat := 72
abbrev f_strconv_Itoa : Nat := 73
abbrev f_keep_URL : Nat := 75
abbrev f_ref4_Of : Nat := 76
abbrev f_headers_Split : Nat := 81
abbrev f_infra_Lower : Nat := 87
abbrev f_preflight_tokens : Nat := 88
abbrev f_preflight_Read_1 : Nat := 89
abbrev f_slices_Contains_string : Nat := 90
abbrev f_infra_Int : Nat := 91
abbrev f_strings_Join : Nat := 92
abbrev f_preflight_Table_put : Nat := 93
abbrev f_preflight_Table_Allows_1 : Nat := 94
abbrev f_preflight_Table_holds : Nat := 95
abbrev f_infra_Token : Nat := 96
abbrev f_slices_Sort_string : Nat := 106
abbrev f_slices_Compact_string : Nat := 107
abbrev f_headers_is : Nat := 111
abbrev f_strconv_FormatInt_n117 : Nat := 117
abbrev f_age_Add : Nat := 119
abbrev f_strings_Trim : Nat := 124
abbrev f_url_Own : Nat := 126
abbrev f_strconv_Itoa_n127 : Nat := 127
abbrev f_ref3_Parse : Nat := 128
abbrev f_keep_Few : Nat := 129
abbrev f_ref3_Special : Nat := 130
abbrev f_ref4_Port : Nat := 131
abbrev f_infra_mapped : Nat := 140
abbrev f_infra_Lower_1 : Nat := 141
abbrev f_slices_Index_string : Nat := 142
abbrev f_slices_DeleteFunc_preflight_row : Nat := 146
abbrev f_preflight_Table_put_1 : Nat := 147
abbrev f_slices_Delete_preflight_row : Nat := 148
abbrev f_slices_ContainsFunc_preflight_row : Nat := 149
abbrev f_preflight_Table_holds_1 : Nat := 150
abbrev f_strings_IndexByte : Nat := 151
abbrev f_strconv_small : Nat := 169
abbrev f_strconv_numDigits : Nat := 170
abbrev f_strconv_formatBase10 : Nat := 171
abbrev f_strconv_formatBits : Nat := 172
abbrev f_strings_trimLeftByte : Nat := 173
abbrev f_strings_trimRightByte : Nat := 174
abbrev f_strings_makeASCIISet : Nat := 175
abbrev f_strings_trimLeftASCII : Nat := 176
abbrev f_strings_trimRightASCII : Nat := 177
abbrev f_strings_trimLeftUnicode : Nat := 178
abbrev f_strings_trimRightUnicode : Nat := 179
abbrev f_ref3_split : Nat := 181
abbrev f_ref3_clean : Nat := 182
abbrev f_ref3_scheme : Nat := 183
abbrev f_ref3_full : Nat := 184
abbrev f_ref3_Own : Nat := 185
abbrev f_slices_IndexFunc_preflight_row : Nat := 194
abbrev f_stringslite_IndexByte : Nat := 195
abbrev f_utf8_DecodeRuneInString : Nat := 206
abbrev f_bits_Len64 : Nat := 220
abbrev f_strconv_log10Pow2 : Nat := 221
abbrev f_strconv_bool2_int : Nat := 222
abbrev f_strconv_isPowerOfTwo : Nat := 223
abbrev f_bits_TrailingZeros : Nat := 224
abbrev f_asciiSet_contains : Nat := 225
abbrev f_strings_ContainsRune : Nat := 226
abbrev f_utf8_DecodeLastRuneInString : Nat := 227
abbrev f_strings_IndexRune : Nat := 228
abbrev f_ref1_Part : Nat := 230
abbrev f_ref1_Percent : Nat := 231
abbrev f_ref1_Lower : Nat := 232
abbrev f_ref1_Letter : Nat := 233
abbrev f_ref1_Digit : Nat := 234
abbrev f_ref3_far : Nat := 235
abbrev f_ref3_over : Nat := 236
abbrev f_ref3_slashes : Nat := 237
abbrev f_ref1_Begins : Nat := 238
abbrev f_ref3_rest : Nat := 239
abbrev f_ref3_ahead : Nat := 240
abbrev f_ref3_query : Nat := 241
abbrev f_bytealg_Cutover : Nat := 243
abbrev f_utf8_decodeRuneInStringSlow : Nat := 252
abbrev f_bits_TrailingZeros32 : Nat := 265
abbrev f_bits_TrailingZeros64 : Nat := 266
abbrev f_utf8_RuneStart : Nat := 267
abbrev f_utf8_ValidRune : Nat := 268
abbrev f_ref1_In : Nat := 269
abbrev f_ref1_Escape : Nat := 270
abbrev f_ref3_authority : Nat := 271
abbrev f_ref3_path : Nat := 272
abbrev f_ref1_Int : Nat := 281
abbrev f_ref2_Parse : Nat := 282
abbrev f_ref1_Cut : Nat := 283
abbrev f_ref3_dots : Nat := 284
abbrev f_ref1_Ends : Nat := 294
abbrev f_ref2_Six : Nat := 295
abbrev f_ref2_Text6 : Nat := 296
abbrev f_ref2_bad : Nat := 297
abbrev f_ref1_Unpercent : Nat := 298
abbrev f_ref2_Numbered : Nat := 299
abbrev f_ref2_Four : Nat := 300
abbrev f_ref2_Text4 : Nat := 301
abbrev f_ref2_pieces : Nat := 309
abbrev f_ref2_digits : Nat := 310
abbrev f_ref1_Hex : Nat := 311
abbrev f_ref2_labels : Nat := 312
abbrev f_ref2_number : Nat := 313
abbrev f_ref1_Numeral : Nat := 314
abbrev f_ref2_decimals : Nat := 315
/-- ostiary/ostiarylaw19.PreflightNumbers -/
def fn_law19_PreflightNumbers : Fun := ⟨0, (.seq (.reg [iR 0 (.p .mv) [(.c (.bool false))]]) (.keep [] (.seq (.reg [iR 17 (.call 32) [(.c (.str (bs [104, 116, 116, 112, 115, 58, 47, 47, 97])))], iR 1 (.e (.alloc [(.str []), (.str []), (.int .i64 (.ofNat 0)), (.bool false)])) [], ⟨none, none, (.e (.store 4)), [(.t 1), (.t 17)], none⟩]) (.keep [1] (.seq (.reg [iR 18 (.call 33) [(.c (.str (bs [97, 99, 99, 101, 115, 115, 45, 99, 111, 110, 116, 114, 111, 108, 45, 97, 108, 108, 111, 119, 45, 111, 114, 105, 103, 105, 110]))), (.c (.str (bs [104, 116, 116, 112, 115, 58, 47, 47, 97])))], iR 19 (.call 33) [(.c (.str (bs [97, 99, 99, 101, 115, 115, 45, 99, 111, 110, 116, 114, 111, 108, 45, 97, 108, 108, 111, 119, 45, 99, 114, 101, 100, 101, 110, 116, 105, 97, 108, 115]))), (.c (.str (bs [116, 114, 117, 101])))],
    iR 20 (.call 33) [(.c (.str (bs [97, 99, 99, 101, 115, 115, 45, 99, 111, 110, 116, 114, 111, 108, 45, 97, 108, 108, 111, 119, 45, 109, 101, 116, 104, 111, 100, 115]))), (.c (.str (bs [42])))], iR 21 (.call 33) [(.c (.str (bs [97, 99, 99, 101, 115, 115, 45, 99, 111, 110, 116, 114, 111, 108, 45, 97, 108, 108, 111, 119, 45, 104, 101, 97, 100, 101, 114, 115]))), (.c (.str (bs [42, 44, 32, 88, 45, 97])))], iR 22 (.e (.buildSlice 4 2 (repl 8 [(.str [])]) [(0, 2), (2, 2), (4, 2), (6, 2)])) [(.t 18), (.t 19), (.t 20), (.t 21)], iR 2 (.p .mv) [(.t 22)]]) (.keep [1, 2] (.seq (.reg [iR 24 (.l (.load (some 4))) [(.t 1)], iR 25 (.p .mv) [(.t 2)], iR 26 (.p (.build [(.int .i64 (.ofNat 0)), .nils, .nils] [(0, 1), (1, 1)])) [(.c (.int .i64 (.ofNat 301))), (.t 25)], iR 27 (.call 34) [(.t 24), (.c (.bool false)), (.c (.str (bs [80, 85, 84]))), (.c .nils), (.t 26)], iR 23 (.p .mv) [(.t 27)],
    iR 28 (.p (.extract 0)) [(.t 23)], iR 29 (.p (.extract 1)) [(.t 23)], iR 3 (.e (.alloc [.nils, .nils, (.bool false), (.int .i64 (.ofNat 0))])) [], ⟨none, none, (.e (.store 4)), [(.t 3), (.t 28)], none⟩, iR 4 (.p .mv) [(.t 29)]]) (.keep [1, 2, 4] (.seq (.reg [iR 31 (.l (.load (some 4))) [(.t 1)], iR 32 (.e (.buildSlice 1 1 [(.str [])] [(0, 1)])) [(.c (.str (bs [120, 45, 98])))], iR 33 (.p .mv) [(.t 2)], iR 34 (.p (.build [(.int .i64 (.ofNat 0)), .nils, .nils] [(0, 1), (1, 1)])) [(.c (.int .i64 (.ofNat 200))), (.t 33)], iR 35 (.call 34) [(.t 31), (.c (.bool false)), (.c (.str (bs [80, 85, 84]))), (.t 32), (.t 34)], iR 30 (.p .mv) [(.t 35)], iR 36 (.p (.extract 0)) [(.t 30)], iR 37 (.p (.extract 1)) [(.t 30)], iR 5 (.e (.alloc [.nils, .nils, (.bool false), (.int .i64 (.ofNat 0))])) [], ⟨none, none, (.e (.store 4)), [(.t 5), (.t 36)], none⟩, iR 6 (.p .mv) [(.t 37)]])
    (.keep [1, 2, 4, 5, 6] (.seq (.reg [iR 39 (.l (.load (some 4))) [(.t 1)], iR 40 (.p .mv) [(.t 2)], iR 41 (.p (.build [(.int .i64 (.ofNat 0)), .nils, .nils] [(0, 1), (1, 1)])) [(.c (.int .i64 (.ofNat 200))), (.t 40)], iR 42 (.call 34) [(.t 39), (.c (.bool true)), (.c (.str (bs [80, 85, 84]))), (.c .nils), (.t 41)], iR 38 (.p .mv) [(.t 42)], iR 43 (.p (.extract 0)) [(.t 38)], iR 44 (.p (.extract 1)) [(.t 38)], iR 7 (.e (.alloc [.nils, .nils, (.bool false), (.int .i64 (.ofNat 0))])) [], ⟨none, none, (.e (.store 4)), [(.t 7), (.t 43)], none⟩, iR 8 (.p .mv) [(.t 44)]]) (.keep [1, 2, 4, 5, 6, 8] (.seq (.reg [iR 46 (.l (.load (some 4))) [(.t 1)], iR 47 (.e (.buildSlice 1 1 [(.str [])] [(0, 1)])) [(.c (.str (bs [120, 45, 98])))], iR 48 (.p .mv) [(.t 2)], iR 49 (.p (.build [(.int .i64 (.ofNat 0)), .nils, .nils] [(0, 1), (1, 1)])) [(.c (.int .i64 (.ofNat 200))), (.t 48)],
    iR 50 (.call 34) [(.t 46), (.c (.bool true)), (.c (.str (bs [71, 69, 84]))), (.t 47), (.t 49)], iR 45 (.p .mv) [(.t 50)], iR 51 (.p (.extract 0)) [(.t 45)], iR 52 (.p (.extract 1)) [(.t 45)], iR 9 (.e (.alloc [.nils, .nils, (.bool false), (.int .i64 (.ofNat 0))])) [], ⟨none, none, (.e (.store 4)), [(.t 9), (.t 51)], none⟩, iR 10 (.p .mv) [(.t 52)]]) (.keep [1, 2, 4, 5, 6, 8, 10] (.seq (.reg [iR 54 (.l (.load (some 4))) [(.t 1)], iR 55 (.e (.buildSlice 1 1 [(.str [])] [(0, 1)])) [(.c (.str (bs [120, 45, 97])))], iR 56 (.p .mv) [(.t 2)], iR 57 (.p (.build [(.int .i64 (.ofNat 0)), .nils, .nils] [(0, 1), (1, 1)])) [(.c (.int .i64 (.ofNat 200))), (.t 56)], iR 58 (.call 34) [(.t 54), (.c (.bool true)), (.c (.str (bs [71, 69, 84]))), (.t 55), (.t 57)], iR 53 (.p .mv) [(.t 58)], iR 59 (.p (.extract 0)) [(.t 53)], iR 60 (.p (.extract 1)) [(.t 53)],
    iR 11 (.e (.alloc [.nils, .nils, (.bool false), (.int .i64 (.ofNat 0))])) [], ⟨none, none, (.e (.store 4)), [(.t 11), (.t 59)], none⟩, iR 12 (.p .mv) [(.t 60)]]) (.keep [1, 2, 4, 5, 6, 8, 10, 12] (.seq (.reg [iR 62 (.l (.load (some 4))) [(.t 1)], iR 63 (.e (.buildSlice 1 1 [(.str [])] [(0, 1)])) [(.c (.str (bs [97, 117, 116, 104, 111, 114, 105, 122, 97, 116, 105, 111, 110])))], iR 64 (.p .mv) [(.t 2)], iR 65 (.p (.build [(.int .i64 (.ofNat 0)), .nils, .nils] [(0, 1), (1, 1)])) [(.c (.int .i64 (.ofNat 200))), (.t 64)], iR 66 (.call 34) [(.t 62), (.c (.bool false)), (.c (.str (bs [71, 69, 84]))), (.t 63), (.t 65)], iR 61 (.p .mv) [(.t 66)], iR 67 (.p (.extract 0)) [(.t 61)], iR 68 (.p (.extract 1)) [(.t 61)], iR 13 (.e (.alloc [.nils, .nils, (.bool false), (.int .i64 (.ofNat 0))])) [], ⟨none, none, (.e (.store 4)), [(.t 13), (.t 67)], none⟩, iR 14 (.p .mv) [(.t 68)]])
    (.keep [1, 4, 5, 6, 8, 10, 12, 14] (.seq (.reg [iR 69 (.l (.load (some 4))) [(.t 1)], iR 70 (.e (.buildSlice 2 1 [(.str []), (.str [])] [(0, 1), (1, 1)])) [(.c (.str (bs [97]))), (.c (.str (bs [98])))], iR 71 (.call 35) [(.t 69), (.c (.str (bs [80, 85, 84]))), (.t 70)], iR 15 (.p .mv) [(.t 71)]]) (.keep [1, 4, 5, 6, 8, 10, 12, 14, 15] (.seq (.reg [iR 72 (.call 36) [], iR 16 (.p .mv) [(.t 72)]]) (.keep [1, 4, 5, 6, 8, 10, 12, 14, 15, 16] (.seq (.seq (.reg [iR 73 (.p .mv) [(.t 16)], iR 74 (.l (.peq false)) [(.t 73), (.c .nilp)]]) (.keep [1, 4, 5, 6, 8, 10, 12, 14, 15, 16, 74] (.cond (.t 74) (.seq (.reg [iR 0 (.p .mv) [(.c (.bool false))]]) (.keep [0] (.keep [0] .ret))) .skip))) (.keep [1, 4, 5, 6, 8, 10, 12, 14, 15, 16] (.seq (.reg [iR 75 (.p .mv) [(.t 16)], iR 76 (.e (.buildSlice 1 1 [(.str [])] [(0, 1)])) [(.c (.str (bs [42])))],
    iR 77 (.p (.build [.nils, .nils, (.bool false), (.int .i64 (.ofNat 0))] [(1, 1), (2, 1), (3, 1)])) [(.t 76), (.c (.bool true)), (.c (.int .i64 (.ofNat 9)))], iR 78 (.call 37) [(.t 75), (.c (.str (bs [115]))), (.c (.str (bs [117]))), (.c (.bool true)), (.t 77), (.c (.int .i64 (.ofNat 0)))]]) (.keep [1, 4, 5, 6, 8, 10, 12, 14, 15, 16] (.seq (.reg [iR 79 (.p .mv) [(.t 16)], iR 80 (.e (.buildSlice 1 1 [(.str [])] [(0, 1)])) [(.c (.str (bs [120])))], iR 81 (.p (.build [.nils, .nils, (.bool false), (.int .i64 (.ofNat 0))] [(1, 1), (3, 1)])) [(.t 80), (.c (.int .i64 (.ofNat 0)))], iR 82 (.call 37) [(.t 79), (.c (.str (bs [115]))), (.c (.str (bs [118]))), (.c (.bool false)), (.t 81), (.c (.int .i64 (.ofNat 0)))]]) (.keep [1, 4, 5, 6, 8, 10, 12, 14, 15, 16] (.seq (.reg [iR 83 (.p .mv) [(.t 4)], iR 84 (.p (.un .not)) [(.t 83)], iR 85 (.p .mv) [(.t 84)], iG 86 85 true (.p .mv) [(.t 6)],
    iR 87 (.p .pick) [(.t 85), (.t 86), (.c (.bool false))], iR 88 (.p .mv) [(.t 87)], iG 89 88 true (.l (.load (some 4))) [(.t 5)], iG 90 88 true (.e (.buildSlice 1 1 [(.str [])] [(0, 1)])) [(.c (.str (bs [42])))], iG 91 88 true (.e (.buildSlice 2 1 [(.str []), (.str [])] [(0, 1), (1, 1)])) [(.c (.str (bs [42]))), (.c (.str (bs [120, 45, 97])))], iG 92 88 true (.p (.build [.nils, .nils, (.bool false), (.int .i64 (.ofNat 0))] [(0, 1), (1, 1), (2, 1), (3, 1)])) [(.t 90), (.t 91), (.c (.bool true)), (.c (.int .i64 (.ofNat 5)))], iG 93 88 true (.call 38) [(.t 89), (.t 92)], iR 94 (.p .pick) [(.t 88), (.t 93), (.c (.bool false))], iR 95 (.p .mv) [(.t 94)], iG 96 95 true (.p .mv) [(.t 8)], iG 97 95 true (.p (.un .not)) [(.t 96)], iR 98 (.p .pick) [(.t 95), (.t 97), (.c (.bool false))], iR 99 (.p .mv) [(.t 98)], iG 100 99 true (.p .mv) [(.t 10)], iG 101 99 true (.p (.un .not)) [(.t 100)],
    iR 102 (.p .pick) [(.t 99), (.t 101), (.c (.bool false))], iR 103 (.p .mv) [(.t 102)], iG 104 103 true (.p .mv) [(.t 12)], iR 105 (.p .pick) [(.t 103), (.t 104), (.c (.bool false))], iR 106 (.p .mv) [(.t 105)], iG 107 106 true (.p .mv) [(.t 14)], iG 108 106 true (.p (.un .not)) [(.t 107)], iR 109 (.p .pick) [(.t 106), (.t 108), (.c (.bool false))], iR 110 (.p .mv) [(.t 109)], iG 111 110 true (.p .mv) [(.t 15)], iG 112 110 true (.call 33) [(.c (.str (bs [97, 99, 99, 101, 112, 116]))), (.c (.str (bs [42, 47, 42])))], iG 113 110 true (.call 33) [(.c (.str (bs [97, 99, 99, 101, 115, 115, 45, 99, 111, 110, 116, 114, 111, 108, 45, 114, 101, 113, 117, 101, 115, 116, 45, 109, 101, 116, 104, 111, 100]))), (.c (.str (bs [80, 85, 84])))],
    iG 114 110 true (.call 33) [(.c (.str (bs [97, 99, 99, 101, 115, 115, 45, 99, 111, 110, 116, 114, 111, 108, 45, 114, 101, 113, 117, 101, 115, 116, 45, 104, 101, 97, 100, 101, 114, 115]))), (.c (.str (bs [97, 44, 98])))], iG 115 110 true (.call 33) [(.c (.str (bs [111, 114, 105, 103, 105, 110]))), (.c (.str (bs [104, 116, 116, 112, 115, 58, 47, 47, 97])))], iG 116 110 true (.e (.buildSlice 4 2 (repl 8 [(.str [])]) [(0, 2), (2, 2), (4, 2), (6, 2)])) [(.t 112), (.t 113), (.t 114), (.t 115)], iG 117 110 true (.call 14) [(.t 111), (.t 116)], iR 118 (.p .pick) [(.t 110), (.t 117), (.c (.bool false))], iR 119 (.p .mv) [(.t 118)], iG 120 119 true (.l (.load (some 4))) [(.t 1)], iG 121 119 true (.call 35) [(.t 120), (.c (.str (bs [80, 85, 84]))), (.c .nils)], iG 122 119 true (.p .len) [(.t 121)], iG 123 119 true (.p (.bin .eql)) [(.t 122), (.c (.int .i64 (.ofNat 3)))],
    iR 124 (.p .pick) [(.t 119), (.t 123), (.c (.bool false))], iR 125 (.p .mv) [(.t 124)], iG 126 125 true (.p .mv) [(.t 16)], iG 127 125 true (.call 39) [(.t 126), (.c (.str (bs [120]))), (.c (.str (bs [121]))), (.c (.bool true)), (.c (.str (bs [71, 69, 84]))), (.c .nils), (.c (.int .i64 (.ofNat 0)))], iR 128 (.p .pick) [(.t 125), (.t 127), (.c (.bool false))], iR 129 (.p .mv) [(.t 128)], iG 130 129 true (.p .mv) [(.t 16)], iG 131 129 true (.e (.buildSlice 1 1 [(.str [])] [(0, 1)])) [(.c (.str (bs [113])))], iG 132 129 true (.call 39) [(.t 130), (.c (.str (bs [115]))), (.c (.str (bs [117]))), (.c (.bool true)), (.c (.str (bs [71, 69, 84]))), (.t 131), (.c (.int .i64 (.ofNat 0)))], iG 133 129 true (.p (.un .not)) [(.t 132)], iR 134 (.p .pick) [(.t 129), (.t 133), (.c (.bool false))], iR 135 (.p .mv) [(.t 134)], iG 136 135 true (.p .mv) [(.t 16)],
    iG 137 135 true (.e (.buildSlice 1 1 [(.str [])] [(0, 1)])) [(.c (.str (bs [120])))], iG 138 135 true (.call 39) [(.t 136), (.c (.str (bs [115]))), (.c (.str (bs [118]))), (.c (.bool false)), (.c (.str (bs [71, 69, 84]))), (.t 137), (.c (.int .i64 (.ofNat 0)))], iG 139 135 true (.p (.un .not)) [(.t 138)], iR 140 (.p .pick) [(.t 135), (.t 139), (.c (.bool false))], iR 141 (.p .mv) [(.t 140)], iG 142 141 true (.p .mv) [(.t 16)], iG 143 141 true (.call 40) [(.t 142), (.c (.int .i64 (.ofNat 0)))], iG 144 141 true (.p (.bin .eql)) [(.t 143), (.c (.int .i64 (.ofNat 1)))], iR 145 (.p .pick) [(.t 141), (.t 144), (.c (.bool false))], iR 146 (.p .mv) [(.t 145)], iG 147 146 true (.p .mv) [(.t 16)], iG 148 146 true (.call 40) [(.t 147), (.c (.int .i64 (.ofNat 9)))], iG 149 146 true (.p (.bin .eql)) [(.t 148), (.c (.int .i64 (.ofNat 0)))],
    iR 150 (.p .pick) [(.t 146), (.t 149), (.c (.bool false))], iR 151 (.p .mv) [(.t 150)], iG 152 151 true (.call 41) [], iR 153 (.p .pick) [(.t 151), (.t 152), (.c (.bool false))], iR 0 (.p .mv) [(.t 153)]]) (.keep [0] (.keep [0] .ret))))))))))))))))))))))))))))))), [(.t 0)]⟩
def s_law19_PreflightNumbers (call : CallK) (N : Nat) (H : Heap) (τ : Tape) (q : KV) : Ans := call f_law19_of [(.str (bs [104, 116, 116, 112, 115, 58, 47, 47, 97]))] H τ fun v0 H1 τ2 => effK (eAlloc [(.str []), (.str []), (.int .i64 (.ofNat 0)), (.bool false)] [] H1 τ2) fun v3 H4 τ5 => effK (eStore 4 [v3, v0] H4 τ5) fun v6 H7 τ8 => call f_law19_h [(.str (bs [97, 99, 99, 101, 115, 115, 45, 99, 111, 110, 116, 114, 111, 108, 45, 97, 108, 108, 111, 119, 45, 111, 114, 105, 103, 105, 110])), (.str (bs [104, 116, 116, 112, 115, 58, 47, 47, 97]))] H7 τ8 fun v9 H10 τ11 => call f_law19_h [(.str (bs [97, 99, 99, 101, 115, 115, 45, 99, 111, 110, 116, 114, 111, 108, 45, 97, 108, 108, 111, 119, 45, 99, 114, 101, 100, 101, 110, 116, 105, 97, 108, 115])), (.str (bs [116, 114, 117, 101]))] H10 τ11 fun v12 H13 τ14 =>
    call f_law19_h [(.str (bs [97, 99, 99, 101, 115, 115, 45, 99, 111, 110, 116, 114, 111, 108, 45, 97, 108, 108, 111, 119, 45, 109, 101, 116, 104, 111, 100, 115])), (.str (bs [42]))] H13 τ14 fun v15 H16 τ17 => call f_law19_h [(.str (bs [97, 99, 99, 101, 115, 115, 45, 99, 111, 110, 116, 114, 111, 108, 45, 97, 108, 108, 111, 119, 45, 104, 101, 97, 100, 101, 114, 115])), (.str (bs [42, 44, 32, 88, 45, 97]))] H16 τ17 fun v18 H19 τ20 => effK (eBuildSlice 4 2 (repl 8 [(.str [])]) [(0, 2), (2, 2), (4, 2), (6, 2)] [v9, v12, v15, v18] H19 τ20) fun v21 H22 τ23 => someK (lLoadN 4 [v3] H22) fun v24 => someK (pBuild [(.int .i64 (.ofNat 0)), .nils, .nils] [(0, 1), (1, 1)] [(.int .i64 (.ofNat 301)), v21]) fun v25 => call f_preflight_Read [v24, (.bool false), (.str (bs [80, 85, 84])), .nils, v25] H22 τ23 fun v26 H27 τ28 => someK (pExtract 0 [v26]) fun v29 => someK (pExtract 1 [v26]) fun v30 =>
    effK (eAlloc [.nils, .nils, (.bool false), (.int .i64 (.ofNat 0))] [] H27 τ28) fun v31 H32 τ33 => effK (eStore 4 [v31, v29] H32 τ33) fun v34 H35 τ36 => someK (lLoadN 4 [v3] H35) fun v37 => effK (eBuildSlice 1 1 [(.str [])] [(0, 1)] [(.str (bs [120, 45, 98]))] H35 τ36) fun v38 H39 τ40 => someK (pBuild [(.int .i64 (.ofNat 0)), .nils, .nils] [(0, 1), (1, 1)] [(.int .i64 (.ofNat 200)), v21]) fun v41 => call f_preflight_Read [v37, (.bool false), (.str (bs [80, 85, 84])), v38, v41] H39 τ40 fun v42 H43 τ44 => someK (pExtract 0 [v42]) fun v45 => someK (pExtract 1 [v42]) fun v46 => effK (eAlloc [.nils, .nils, (.bool false), (.int .i64 (.ofNat 0))] [] H43 τ44) fun v47 H48 τ49 => effK (eStore 4 [v47, v45] H48 τ49) fun v50 H51 τ52 => someK (lLoadN 4 [v3] H51) fun v53 => someK (pBuild [(.int .i64 (.ofNat 0)), .nils, .nils] [(0, 1), (1, 1)] [(.int .i64 (.ofNat 200)), v21]) fun v54 =>
    call f_preflight_Read [v53, (.bool true), (.str (bs [80, 85, 84])), .nils, v54] H51 τ52 fun v55 H56 τ57 => someK (pExtract 0 [v55]) fun v58 => someK (pExtract 1 [v55]) fun v59 => effK (eAlloc [.nils, .nils, (.bool false), (.int .i64 (.ofNat 0))] [] H56 τ57) fun v60 H61 τ62 => effK (eStore 4 [v60, v58] H61 τ62) fun v63 H64 τ65 => someK (lLoadN 4 [v3] H64) fun v66 => effK (eBuildSlice 1 1 [(.str [])] [(0, 1)] [(.str (bs [120, 45, 98]))] H64 τ65) fun v67 H68 τ69 => someK (pBuild [(.int .i64 (.ofNat 0)), .nils, .nils] [(0, 1), (1, 1)] [(.int .i64 (.ofNat 200)), v21]) fun v70 => call f_preflight_Read [v66, (.bool true), (.str (bs [71, 69, 84])), v67, v70] H68 τ69 fun v71 H72 τ73 => someK (pExtract 0 [v71]) fun v74 => someK (pExtract 1 [v71]) fun v75 => effK (eAlloc [.nils, .nils, (.bool false), (.int .i64 (.ofNat 0))] [] H72 τ73) fun v76 H77 τ78 =>
    effK (eStore 4 [v76, v74] H77 τ78) fun v79 H80 τ81 => someK (lLoadN 4 [v3] H80) fun v82 => effK (eBuildSlice 1 1 [(.str [])] [(0, 1)] [(.str (bs [120, 45, 97]))] H80 τ81) fun v83 H84 τ85 => someK (pBuild [(.int .i64 (.ofNat 0)), .nils, .nils] [(0, 1), (1, 1)] [(.int .i64 (.ofNat 200)), v21]) fun v86 => call f_preflight_Read [v82, (.bool true), (.str (bs [71, 69, 84])), v83, v86] H84 τ85 fun v87 H88 τ89 => someK (pExtract 0 [v87]) fun v90 => someK (pExtract 1 [v87]) fun v91 => effK (eAlloc [.nils, .nils, (.bool false), (.int .i64 (.ofNat 0))] [] H88 τ89) fun v92 H93 τ94 => effK (eStore 4 [v92, v90] H93 τ94) fun v95 H96 τ97 => someK (lLoadN 4 [v3] H96) fun v98 => effK (eBuildSlice 1 1 [(.str [])] [(0, 1)] [(.str (bs [97, 117, 116, 104, 111, 114, 105, 122, 97, 116, 105, 111, 110]))] H96 τ97) fun v99 H100 τ101 =>
    someK (pBuild [(.int .i64 (.ofNat 0)), .nils, .nils] [(0, 1), (1, 1)] [(.int .i64 (.ofNat 200)), v21]) fun v102 => call f_preflight_Read [v98, (.bool false), (.str (bs [71, 69, 84])), v99, v102] H100 τ101 fun v103 H104 τ105 => someK (pExtract 0 [v103]) fun v106 => someK (pExtract 1 [v103]) fun v107 => effK (eAlloc [.nils, .nils, (.bool false), (.int .i64 (.ofNat 0))] [] H104 τ105) fun v108 H109 τ110 => effK (eStore 4 [v108, v106] H109 τ110) fun v111 H112 τ113 => someK (lLoadN 4 [v3] H112) fun v114 => effK (eBuildSlice 2 1 [(.str []), (.str [])] [(0, 1), (1, 1)] [(.str (bs [97])), (.str (bs [98]))] H112 τ113) fun v115 H116 τ117 => call f_preflight_Ask [v114, (.str (bs [80, 85, 84])), v115] H116 τ117 fun v118 H119 τ120 => call f_preflight_New [] H119 τ120 fun v121 H122 τ123 => someK (lPeq false [v121, .nilp] H122) fun v124 => condK v124 (q (.bool false) H122 τ123)
    (effK (eBuildSlice 1 1 [(.str [])] [(0, 1)] [(.str (bs [42]))] H122 τ123) fun v125 H126 τ127 => someK (pBuild [.nils, .nils, (.bool false), (.int .i64 (.ofNat 0))] [(1, 1), (2, 1), (3, 1)] [v125, (.bool true), (.int .i64 (.ofNat 9))]) fun v128 => call f_preflight_Table_Put [v121, (.str (bs [115])), (.str (bs [117])), (.bool true), v128, (.int .i64 (.ofNat 0))] H126 τ127 fun v129 H130 τ131 => effK (eBuildSlice 1 1 [(.str [])] [(0, 1)] [(.str (bs [120]))] H130 τ131) fun v132 H133 τ134 => someK (pBuild [.nils, .nils, (.bool false), (.int .i64 (.ofNat 0))] [(1, 1), (3, 1)] [v132, (.int .i64 (.ofNat 0))]) fun v135 => call f_preflight_Table_Put [v121, (.str (bs [115])), (.str (bs [118])), (.bool false), v135, (.int .i64 (.ofNat 0))] H133 τ134 fun v136 H137 τ138 => unK .not v30 fun v139 => gK v139 true (fun q' => q' v46 H137 τ138) H137 τ138 fun v140 H141 τ142 =>
    someK (pPick [v139, v140, (.bool false)]) fun v143 => gK v143 true (fun q' => someK (lLoadN 4 [v47] H141) fun v => q' v H141 τ142) H141 τ142 fun v144 H145 τ146 => gK v143 true (fun q' => effK (eBuildSlice 1 1 [(.str [])] [(0, 1)] [(.str (bs [42]))] H145 τ146) q') H145 τ146 fun v147 H148 τ149 => gK v143 true (fun q' => effK (eBuildSlice 2 1 [(.str []), (.str [])] [(0, 1), (1, 1)] [(.str (bs [42])), (.str (bs [120, 45, 97]))] H148 τ149) q') H148 τ149 fun v150 H151 τ152 => gK v143 true (fun q' => someK (pBuild [.nils, .nils, (.bool false), (.int .i64 (.ofNat 0))] [(0, 1), (1, 1), (2, 1), (3, 1)] [v147, v150, (.bool true), (.int .i64 (.ofNat 5))]) fun v => q' v H151 τ152) H151 τ152 fun v153 H154 τ155 => gK v143 true (fun q' => call f_law19_same [v144, v153] H154 τ155 q') H154 τ155 fun v156 H157 τ158 => someK (pPick [v143, v156, (.bool false)]) fun v159 =>
    gK v159 true (fun q' => q' v59 H157 τ158) H157 τ158 fun v160 H161 τ162 => gK v159 true (fun q' => unK .not v160 fun v => q' v H161 τ162) H161 τ162 fun v163 H164 τ165 => someK (pPick [v159, v163, (.bool false)]) fun v166 => gK v166 true (fun q' => q' v75 H164 τ165) H164 τ165 fun v167 H168 τ169 => gK v166 true (fun q' => unK .not v167 fun v => q' v H168 τ169) H168 τ169 fun v170 H171 τ172 => someK (pPick [v166, v170, (.bool false)]) fun v173 => gK v173 true (fun q' => q' v91 H171 τ172) H171 τ172 fun v174 H175 τ176 => someK (pPick [v173, v174, (.bool false)]) fun v177 => gK v177 true (fun q' => q' v107 H175 τ176) H175 τ176 fun v178 H179 τ180 => gK v177 true (fun q' => unK .not v178 fun v => q' v H179 τ180) H179 τ180 fun v181 H182 τ183 => someK (pPick [v177, v181, (.bool false)]) fun v184 => gK v184 true (fun q' => q' v118 H182 τ183) H182 τ183 fun v185 H186 τ187 =>
    gK v184 true (fun q' => call f_law19_h [(.str (bs [97, 99, 99, 101, 112, 116])), (.str (bs [42, 47, 42]))] H186 τ187 q') H186 τ187 fun v188 H189 τ190 => gK v184 true (fun q' => call f_law19_h [(.str (bs [97, 99, 99, 101, 115, 115, 45, 99, 111, 110, 116, 114, 111, 108, 45, 114, 101, 113, 117, 101, 115, 116, 45, 109, 101, 116, 104, 111, 100])), (.str (bs [80, 85, 84]))] H189 τ190 q') H189 τ190 fun v191 H192 τ193 => gK v184 true (fun q' => call f_law19_h [(.str (bs [97, 99, 99, 101, 115, 115, 45, 99, 111, 110, 116, 114, 111, 108, 45, 114, 101, 113, 117, 101, 115, 116, 45, 104, 101, 97, 100, 101, 114, 115])), (.str (bs [97, 44, 98]))] H192 τ193 q') H192 τ193 fun v194 H195 τ196 => gK v184 true (fun q' => call f_law19_h [(.str (bs [111, 114, 105, 103, 105, 110])), (.str (bs [104, 116, 116, 112, 115, 58, 47, 47, 97]))] H195 τ196 q') H195 τ196 fun v197 H198 τ199 =>
    gK v184 true (fun q' => effK (eBuildSlice 4 2 (repl 8 [(.str [])]) [(0, 2), (2, 2), (4, 2), (6, 2)] [v188, v191, v194, v197] H198 τ199) q') H198 τ199 fun v200 H201 τ202 => gK v184 true (fun q' => call f_book_Same_Header [v185, v200] H201 τ202 q') H201 τ202 fun v203 H204 τ205 => someK (pPick [v184, v203, (.bool false)]) fun v206 => gK v206 true (fun q' => someK (lLoadN 4 [v3] H204) fun v => q' v H204 τ205) H204 τ205 fun v207 H208 τ209 => gK v206 true (fun q' => call f_preflight_Ask [v207, (.str (bs [80, 85, 84])), .nils] H208 τ209 q') H208 τ209 fun v210 H211 τ212 => gK v206 true (fun q' => someK (pLen [v210]) fun v => q' v H211 τ212) H211 τ212 fun v213 H214 τ215 => gK v206 true (fun q' => binK .eql v213 (.int .i64 (.ofNat 3)) fun v => q' v H214 τ215) H214 τ215 fun v216 H217 τ218 => someK (pPick [v206, v216, (.bool false)]) fun v219 =>
    gK v219 true (fun q' => q' v121 H217 τ218) H217 τ218 fun v220 H221 τ222 => gK v219 true (fun q' => call f_preflight_Table_Allows [v220, (.str (bs [120])), (.str (bs [121])), (.bool true), (.str (bs [71, 69, 84])), .nils, (.int .i64 (.ofNat 0))] H221 τ222 q') H221 τ222 fun v223 H224 τ225 => someK (pPick [v219, v223, (.bool false)]) fun v226 => gK v226 true (fun q' => q' v121 H224 τ225) H224 τ225 fun v227 H228 τ229 => gK v226 true (fun q' => effK (eBuildSlice 1 1 [(.str [])] [(0, 1)] [(.str (bs [113]))] H228 τ229) q') H228 τ229 fun v230 H231 τ232 => gK v226 true (fun q' => call f_preflight_Table_Allows [v227, (.str (bs [115])), (.str (bs [117])), (.bool true), (.str (bs [71, 69, 84])), v230, (.int .i64 (.ofNat 0))] H231 τ232 q') H231 τ232 fun v233 H234 τ235 => gK v226 true (fun q' => unK .not v233 fun v => q' v H234 τ235) H234 τ235 fun v236 H237 τ238 =>
    someK (pPick [v226, v236, (.bool false)]) fun v239 => gK v239 true (fun q' => q' v121 H237 τ238) H237 τ238 fun v240 H241 τ242 => gK v239 true (fun q' => effK (eBuildSlice 1 1 [(.str [])] [(0, 1)] [(.str (bs [120]))] H241 τ242) q') H241 τ242 fun v243 H244 τ245 => gK v239 true (fun q' => call f_preflight_Table_Allows [v240, (.str (bs [115])), (.str (bs [118])), (.bool false), (.str (bs [71, 69, 84])), v243, (.int .i64 (.ofNat 0))] H244 τ245 q') H244 τ245 fun v246 H247 τ248 => gK v239 true (fun q' => unK .not v246 fun v => q' v H247 τ248) H247 τ248 fun v249 H250 τ251 => someK (pPick [v239, v249, (.bool false)]) fun v252 => gK v252 true (fun q' => q' v121 H250 τ251) H250 τ251 fun v253 H254 τ255 => gK v252 true (fun q' => call f_preflight_Table_Len [v253, (.int .i64 (.ofNat 0))] H254 τ255 q') H254 τ255 fun v256 H257 τ258 =>
    gK v252 true (fun q' => binK .eql v256 (.int .i64 (.ofNat 1)) fun v => q' v H257 τ258) H257 τ258 fun v259 H260 τ261 => someK (pPick [v252, v259, (.bool false)]) fun v262 => gK v262 true (fun q' => q' v121 H260 τ261) H260 τ261 fun v263 H264 τ265 => gK v262 true (fun q' => call f_preflight_Table_Len [v263, (.int .i64 (.ofNat 9))] H264 τ265 q') H264 τ265 fun v266 H267 τ268 => gK v262 true (fun q' => binK .eql v266 (.int .i64 (.ofNat 0)) fun v => q' v H267 τ268) H267 τ268 fun v269 H270 τ271 => someK (pPick [v262, v269, (.bool false)]) fun v272 => gK v272 true (fun q' => call f_law19_known [] H270 τ271 q') H270 τ271 fun v273 H274 τ275 => someK (pPick [v272, v273, (.bool false)]) fun v276 => q v276 H274 τ275)
theorem s_law19_PreflightNumbers_eq (call : CallK) (N : Nat) (H : Heap) (τ : Tape) (q : KV) : s_law19_PreflightNumbers call N  H τ q = funK call N fn_law19_PreflightNumbers [] H τ q := by kernel_rfl
def e_law19_PreflightNumbers (call : CallK) (N : Nat) (vs : List V) (H : Heap) (τ : Tape) (q : KV) : Ans := match vs with | [] => s_law19_PreflightNumbers call N  H τ q | _ => none
theorem e_law19_PreflightNumbers_ok : EntOk fn_law19_PreflightNumbers e_law19_PreflightNumbers := by
  intro call N vs H τ q r h
  unfold e_law19_PreflightNumbers at h
  split at h
  · rw [s_law19_PreflightNumbers_eq] at h; exact h
  · cases h
theorem e_law19_PreflightNumbers_nat : EntNat e_law19_PreflightNumbers := by
  intro c hn N vs H τ q
  unfold e_law19_PreflightNumbers
  split
  · rw [s_law19_PreflightNumbers_eq, s_law19_PreflightNumbers_eq]; exact funK_ent hn _ _ _ _ _ _
  · rfl
/-- ostiary/ostiarybook.Same[ostiary/api.Header] -/
def fn_book_Same_Header : Fun := ⟨2, (.seq (.reg [iR 4 (.p .mv) [(.c (.bool false))]]) (.keep [0, 1] (.seq (.seq (.reg [iR 6 (.p .mv) [(.t 0)], iR 7 (.p .len) [(.t 6)], iR 8 (.p .mv) [(.t 1)], iR 9 (.p .len) [(.t 8)], iR 10 (.p (.bin .neq)) [(.t 7), (.t 9)]]) (.keep [0, 1, 10] (.cond (.t 10) (.seq (.reg [iR 4 (.p .mv) [(.c (.bool false))]]) (.keep [4] (.keep [4] .ret))) .skip))) (.keep [0, 1] (.seq (.seq (.reg [iR 5 (.p .mv) [(.c (.int .i64 (.ofNat 0)))]]) (.keep [0, 1, 5] (.block 0 (.loop (.keep [0, 1, 5] (.seq (.seq (.reg [iR 11 (.p .mv) [(.t 5)], iR 12 (.p .mv) [(.t 0)], iR 13 (.p .len) [(.t 12)], iR 14 (.p (.bin .lss)) [(.t 11), (.t 13)]]) (.keep [0, 1, 5, 14] (.cond (.t 14) .skip (.keep [] (.exit 0))))) (.keep [0, 1, 5] (.seq (.block 1 (.seq (.draw [iR 17 (.p .mv) [(.t 0)], iR 18 (.p .mv) [(.t 5)], iR 19 (.p (.slIdx 2)) [(.t 17), (.t 18)],
    iR 20 (.l (.load (some 2))) [(.t 19)], iR 21 (.p .mv) [(.t 1)], iR 22 (.p .mv) [(.t 5)], iR 23 (.p (.slIdx 2)) [(.t 21), (.t 22)], iR 24 (.l (.load (some 2))) [(.t 23)], iR 25 (.p (.eq true (.flat [.str, .str]))) [(.t 20), (.t 24)]]) (.keep [0, 1, 5, 25] (.cond (.t 25) (.seq (.reg [iR 4 (.p .mv) [(.c (.bool false))]]) (.keep [4] (.keep [4] .ret))) .skip)))) (.keep [0, 1, 5] (.reg [iR 15 (.p .mv) [(.t 5)], iR 16 (.p (.bin .add)) [(.t 15), (.c (.int .i64 (.ofNat 1)))], iR 5 (.p .mv) [(.t 16)]])))))))))) (.keep [] (.seq (.reg [iR 4 (.p .mv) [(.c (.bool true))]]) (.keep [4] (.keep [4] .ret))))))))), [(.t 4)]⟩
def s_book_Same_Header_j0 (call : CallK) (N : Nat) (q : KV) (st : St) (τ : Tape) : Ans := match st with
  | ⟨fr, H⟩ => q (.bool true) H τ
def s_book_Same_Header_l1 (call : CallK) (N : Nat) (st : St) (τ : Tape) (k : KC) : Ans := match st with
  | ⟨fr, H⟩ => getK fr 0 fun t0 => getK fr 1 fun t1 => getK fr 5 fun t5 => someK (pLen [t0]) fun v3 => binK .lss t5 v3 fun v4 => condK v4 (someK (pSlIdx 2 [t0, t5]) fun v5 => someK (lLoadN 2 [v5] H) fun v6 => someK (pSlIdx 2 [t1, t5]) fun v7 => someK (lLoadN 2 [v7] H) fun v8 => someK (pEq true (.flat [.str, .str]) [v6, v8]) fun v9 => condK v9 (k .ret ⟨(T.set .leaf 4 (.bool false)), H⟩ τ) (binK .add t5 (.int .i64 (.ofNat 1)) fun v10 => k .normal ⟨(T.set (T.set (T.set (T.set (T.set (T.set .leaf 0 t0) 1 t1) 5 t5) 15 t5) 16 v10) 5 v10), H⟩ τ)) (k (.exit 0) ⟨.leaf, H⟩ τ)
def s_book_Same_Header (call : CallK) (N : Nat) (a0 a1 : V) (H : Heap) (τ : Tape) (q : KV) : Ans := someK (pLen [a0]) fun v0 => someK (pLen [a1]) fun v1 => binK .neq v0 v1 fun v2 => condK v2 (q (.bool false) H τ) (loopK (s_book_Same_Header_l1 call N) N ⟨(T.set (T.set (T.set .leaf 0 a0) 1 a1) 5 (.int .i64 (.ofNat 0))), H⟩ τ (blockK 0 (seqK (s_book_Same_Header_j0 call N q) (endK [(.t 4)] q))))
theorem s_book_Same_Header_eq (call : CallK) (N : Nat) (a0 a1 : V) (H : Heap) (τ : Tape) (q : KV) : s_book_Same_Header call N a0 a1 H τ q = funK call N fn_book_Same_Header [a0, a1] H τ q := by kernel_rfl
def e_book_Same_Header (call : CallK) (N : Nat) (vs : List V) (H : Heap) (τ : Tape) (q : KV) : Ans := match vs with | [a0, a1] => s_book_Same_Header call N a0 a1 H τ q | _ => none
theorem e_book_Same_Header_ok : EntOk fn_book_Same_Header e_book_Same_Header := by
  intro call N vs H τ q r h
  unfold e_book_Same_Header at h
  split at h
  · rw [s_book_Same_Header_eq] at h; exact h
  · cases h
theorem e_book_Same_Header_nat : EntNat e_book_Same_Header := by
  intro c hn N vs H τ q
  unfold e_book_Same_Header
  split
  · rw [s_book_Same_Header_eq, s_book_Same_Header_eq]; exact funK_ent hn _ _ _ _ _ _
  · rfl
/-- ostiary/ostiarylaw19.of -/
def fn_law19_of : Fun := ⟨1, (.seq (.reg [iR 2 (.e (.alloc [(.str []), (.str []), (.int .i64 (.ofNat 0)), (.bool false)])) []]) (.keep [0, 2] (.seq (.reg [iR 6 (.p .mv) [(.t 0)], iR 7 (.call 75) [(.t 6)], iR 5 (.p .mv) [(.t 7)], iR 8 (.p (.extract 0)) [(.t 5)], iR 9 (.p (.extract 1)) [(.t 5)], iR 3 (.e (.alloc [(.str []), (.str []), (.str []), (.str []), (.bool false), (.int .i64 (.ofNat 0)), (.bool false), .nils, (.str []), (.str []), (.bool false), (.bool false)])) [], ⟨none, none, (.e (.store 12)), [(.t 3), (.t 8)], none⟩, iR 4 (.p .mv) [(.t 9)]]) (.keep [2, 3] (.seq (.reg [iR 10 (.l (.load (some 12))) [(.t 3)], iR 11 (.call 76) [(.t 10)], ⟨none, none, (.e (.store 4)), [(.t 2), (.t 11)], none⟩]) (.keep [2] (.keep [2] .ret))))))), [(.cell 2 (some 4))]⟩
def s_law19_of (call : CallK) (N : Nat) (a0 : V) (H : Heap) (τ : Tape) (q : KV) : Ans := effK (eAlloc [(.str []), (.str []), (.int .i64 (.ofNat 0)), (.bool false)] [] H τ) fun v0 H1 τ2 => call f_keep_URL [a0] H1 τ2 fun v3 H4 τ5 => someK (pExtract 0 [v3]) fun v6 => someK (pExtract 1 [v3]) fun v7 => effK (eAlloc [(.str []), (.str []), (.str []), (.str []), (.bool false), (.int .i64 (.ofNat 0)), (.bool false), .nils, (.str []), (.str []), (.bool false), (.bool false)] [] H4 τ5) fun v8 H9 τ10 => effK (eStore 12 [v8, v6] H9 τ10) fun v11 H12 τ13 => someK (lLoadN 12 [v8] H12) fun v14 => call f_ref4_Of [v14] H12 τ13 fun v15 H16 τ17 => effK (eStore 4 [v0, v15] H16 τ17) fun v18 H19 τ20 => someK (results ⟨(T.set .leaf 2 v0), H19⟩ [(.cell 2 (some 4))]) fun v => q v H19 τ20
theorem s_law19_of_eq (call : CallK) (N : Nat) (a0 : V) (H : Heap) (τ : Tape) (q : KV) : s_law19_of call N a0 H τ q = funK call N fn_law19_of [a0] H τ q := by kernel_rfl
def e_law19_of (call : CallK) (N : Nat) (vs : List V) (H : Heap) (τ : Tape) (q : KV) : Ans := match vs with | [a0] => s_law19_of call N a0 H τ q | _ => none
theorem e_law19_of_ok : EntOk fn_law19_of e_law19_of := by
  intro call N vs H τ q r h
  unfold e_law19_of at h
  split at h
  · rw [s_law19_of_eq] at h; exact h
  · cases h
theorem e_law19_of_nat : EntNat e_law19_of := by
  intro c hn N vs H τ q
  unfold e_law19_of
  split
  · rw [s_law19_of_eq, s_law19_of_eq]; exact funK_ent hn _ _ _ _ _ _
  · rfl
/-- ostiary/ostiarylaw19.h -/
def fn_law19_h : Fun := ⟨2, (.seq (.reg [iR 4 (.e (.alloc [(.str []), (.str [])])) []]) (.keep [0, 1, 4] (.seq (.reg [iR 5 (.p .mv) [(.t 0)], iR 6 (.p .mv) [(.t 1)], iR 7 (.p (.build [(.str []), (.str [])] [(0, 1), (1, 1)])) [(.t 5), (.t 6)], ⟨none, none, (.e (.store 2)), [(.t 4), (.t 7)], none⟩]) (.keep [4] (.keep [4] .ret))))), [(.cell 4 (some 2))]⟩
def s_law19_h (call : CallK) (N : Nat) (a0 a1 : V) (H : Heap) (τ : Tape) (q : KV) : Ans := effK (eAlloc [(.str []), (.str [])] [] H τ) fun v0 H1 τ2 => someK (pBuild [(.str []), (.str [])] [(0, 1), (1, 1)] [a0, a1]) fun v3 => effK (eStore 2 [v0, v3] H1 τ2) fun v4 H5 τ6 => someK (results ⟨(T.set .leaf 4 v0), H5⟩ [(.cell 4 (some 2))]) fun v => q v H5 τ6
theorem s_law19_h_eq (call : CallK) (N : Nat) (a0 a1 : V) (H : Heap) (τ : Tape) (q : KV) : s_law19_h call N a0 a1 H τ q = funK call N fn_law19_h [a0, a1] H τ q := by kernel_rfl
def e_law19_h (call : CallK) (N : Nat) (vs : List V) (H : Heap) (τ : Tape) (q : KV) : Ans := match vs with | [a0, a1] => s_law19_h call N a0 a1 H τ q | _ => none
theorem e_law19_h_ok : EntOk fn_law19_h e_law19_h := by
  intro call N vs H τ q r h
  unfold e_law19_h at h
  split at h
  · rw [s_law19_h_eq] at h; exact h
  · cases h
theorem e_law19_h_nat : EntNat e_law19_h := by
  intro c hn N vs H τ q
  unfold e_law19_h
  split
  · rw [s_law19_h_eq, s_law19_h_eq]; exact funK_ent hn _ _ _ _ _ _
  · rfl
/-- ostiary/preflight.Read -/
def fn_preflight_Read : Fun := ⟨5, (.seq (.reg [iR 5 (.e .box) [(.t 0)], iR 9 (.e .box) [(.t 4)], iR 10 (.e (.alloc [.nils, .nils, (.bool false), (.int .i64 (.ofNat 0))])) [], iR 11 (.p .mv) [(.c (.bool false))]]) (.keep [1, 2, 3, 5, 9, 10] (.seq (.seq (.reg [iR 19 (.p (.fieldAddr 0)) [(.t 9)], iR 20 (.l (.load none)) [(.t 19)], iR 21 (.p (.bin .lss)) [(.t 20), (.c (.int .i64 (.ofNat 200)))], iR 22 (.p .mv) [(.t 21)], iG 23 22 false (.p (.fieldAddr 0)) [(.t 9)], iG 24 22 false (.l (.load none)) [(.t 23)], iG 25 22 false (.p (.bin .gtr)) [(.t 24), (.c (.int .i64 (.ofNat 299)))], iR 26 (.p .pick) [(.t 22), (.c (.bool true)), (.t 25)], iR 27 (.p .mv) [(.t 26)], iG 28 27 false (.l (.load (some 4))) [(.t 5)], iG 29 27 false (.p .mv) [(.t 1)], iG 30 27 false (.p (.fieldAddr 1)) [(.t 9)], iG 31 27 false (.l (.load none)) [(.t 30)], iG 32 27 false (.call 46) [(.t 28), (.t 29), (.t 31)],
    iG 33 27 false (.p (.un .not)) [(.t 32)], iR 34 (.p .pick) [(.t 27), (.c (.bool true)), (.t 33)]]) (.keep [1, 2, 3, 9, 10, 34] (.cond (.t 34) (.seq (.reg [iR 35 (.p (.build [.nils, .nils, (.bool false), (.int .i64 (.ofNat 0))] [])) [], ⟨none, none, (.e (.store 4)), [(.t 10), (.t 35)], none⟩, iR 11 (.p .mv) [(.c (.bool false))]]) (.keep [10, 11] (.keep [10, 11] .ret))) .skip))) (.keep [1, 2, 3, 9, 10] (.seq (.reg [iR 36 (.p (.build [.nils, .nils, (.bool false), (.int .i64 (.ofNat 0))] [(3, 1)])) [(.c (.int .i64 (.ofNat 5)))], iR 12 (.e (.alloc [.nils, .nils, (.bool false), (.int .i64 (.ofNat 0))])) [], ⟨none, none, (.e (.store 4)), [(.t 12), (.t 36)], none⟩]) (.keep [1, 2, 3, 9, 10, 12] (.seq (.reg [iR 37 (.p (.fieldAddr 1)) [(.t 9)], iR 38 (.l (.load none)) [(.t 37)],
    iR 39 (.call 88) [(.t 38), (.c (.str (bs [97, 99, 99, 101, 115, 115, 45, 99, 111, 110, 116, 114, 111, 108, 45, 97, 108, 108, 111, 119, 45, 109, 101, 116, 104, 111, 100, 115]))), (.c (.func 89 [] []))], iR 40 (.p (.fieldAddr 0)) [(.t 12)], ⟨none, none, (.e (.store 1)), [(.t 40), (.t 39)], none⟩]) (.keep [1, 2, 3, 9, 10, 12] (.seq (.reg [iR 41 (.p (.fieldAddr 1)) [(.t 9)], iR 42 (.l (.load none)) [(.t 41)], iR 43 (.call 88) [(.t 42), (.c (.str (bs [97, 99, 99, 101, 115, 115, 45, 99, 111, 110, 116, 114, 111, 108, 45, 97, 108, 108, 111, 119, 45, 104, 101, 97, 100, 101, 114, 115]))), (.c (.func 87 [] []))], iR 44 (.p (.fieldAddr 1)) [(.t 12)], ⟨none, none, (.e (.store 1)), [(.t 44), (.t 43)], none⟩]) (.keep [1, 2, 3, 9, 10, 12] (.seq (.reg [iR 45 (.p .mv) [(.t 1)], iR 46 (.p (.un .not)) [(.t 45)], iR 47 (.p .mv) [(.t 46)], iG 48 47 true (.p (.fieldAddr 1)) [(.t 12)],
    iG 49 47 true (.l (.load none)) [(.t 48)], iG 50 47 true (.call 90) [(.t 49), (.c (.str (bs [42])))], iR 51 (.p .pick) [(.t 47), (.t 50), (.c (.bool false))], iR 52 (.p (.fieldAddr 2)) [(.t 12)], ⟨none, none, (.e (.store 1)), [(.t 52), (.t 51)], none⟩]) (.keep [1, 2, 3, 9, 10, 12] (.seq (.seq (.reg [iR 53 (.p (.fieldAddr 0)) [(.t 12)], iR 54 (.l (.load none)) [(.t 53)], iR 55 (.p .mv) [(.t 2)], iR 56 (.call 90) [(.t 54), (.t 55)], iR 57 (.p (.un .not)) [(.t 56)], iR 58 (.p .mv) [(.t 57)], iG 59 58 true (.p .mv) [(.t 2)], iG 60 58 true (.call 49) [(.t 59)], iG 61 58 true (.p (.un .not)) [(.t 60)], iR 62 (.p .pick) [(.t 58), (.t 61), (.c (.bool false))], iR 63 (.p .mv) [(.t 62)], iG 64 63 true (.p .mv) [(.t 1)], iG 65 63 true (.p .mv) [(.t 64)], iG 66 65 false (.p (.fieldAddr 0)) [(.t 12)], iG 67 65 false (.l (.load none)) [(.t 66)],
    iG 68 65 false (.call 90) [(.t 67), (.c (.str (bs [42])))], iG 69 65 false (.p (.un .not)) [(.t 68)], iG 70 63 true (.p .pick) [(.t 65), (.c (.bool true)), (.t 69)], iR 71 (.p .pick) [(.t 63), (.t 70), (.c (.bool false))]]) (.keep [3, 9, 10, 12, 71] (.cond (.t 71) (.seq (.reg [iR 72 (.p (.build [.nils, .nils, (.bool false), (.int .i64 (.ofNat 0))] [])) [], ⟨none, none, (.e (.store 4)), [(.t 10), (.t 72)], none⟩, iR 11 (.p .mv) [(.c (.bool false))]]) (.keep [10, 11] (.keep [10, 11] .ret))) .skip))) (.keep [3, 9, 10, 12] (.seq (.seq (.reg [iR 73 (.p .mv) [(.t 3)], iR 74 (.p .len) [(.t 73)], iR 75 (.p .mv) [(.c (.int .i64 (.ofNat 0)))]]) (.keep [9, 10, 12, 73, 74, 75] (.block 0 (.loop (.keep [9, 10, 12, 73, 74, 75] (.seq (.reg [iR 76 (.p (.bin .lss)) [(.t 75), (.t 74)]]) (.keep [9, 10, 12, 73, 74, 75, 76] (.seq (.cond (.t 76) .skip (.keep [9, 10, 12] (.exit 0)))
    (.keep [9, 10, 12, 73, 74, 75] (.seq (.block 1 (.seq (.reg [iR 77 (.p (.slIdx 1)) [(.t 73), (.t 75)], iR 78 (.l (.load none)) [(.t 77)], iR 14 (.p .mv) [(.t 78)]]) (.keep [9, 10, 12, 14, 73, 74, 75] (.seq (.reg [iR 79 (.p (.fieldAddr 1)) [(.t 12)], iR 80 (.l (.load none)) [(.t 79)], iR 81 (.p .mv) [(.t 14)], iR 82 (.call 90) [(.t 80), (.t 81)], iR 83 (.p (.un .not)) [(.t 82)], iR 84 (.p .mv) [(.t 83)], iG 85 84 true (.p (.fieldAddr 2)) [(.t 12)], iG 86 84 true (.l (.load none)) [(.t 85)], iG 87 84 true (.p (.un .not)) [(.t 86)], iG 88 84 true (.p .mv) [(.t 87)], iG 89 88 false (.p .mv) [(.t 14)], iG 90 88 false (.p (.bin .eql)) [(.t 89), (.c (.str (bs [97, 117, 116, 104, 111, 114, 105, 122, 97, 116, 105, 111, 110])))], iG 91 84 true (.p .pick) [(.t 88), (.c (.bool true)), (.t 90)], iR 92 (.p .pick) [(.t 84), (.t 91), (.c (.bool false))]])
    (.keep [9, 10, 12, 73, 74, 75, 92] (.cond (.t 92) (.seq (.reg [iR 93 (.p (.build [.nils, .nils, (.bool false), (.int .i64 (.ofNat 0))] [])) [], ⟨none, none, (.e (.store 4)), [(.t 10), (.t 93)], none⟩, iR 11 (.p .mv) [(.c (.bool false))]]) (.keep [10, 11] (.keep [10, 11] .ret))) .skip)))))) (.keep [9, 10, 12, 73, 74, 75] (.reg [iR 94 (.p (.bin .add)) [(.t 75), (.c (.int .i64 (.ofNat 1)))], iR 75 (.p .mv) [(.t 94)]])))))))))))) (.keep [9, 10, 12] (.seq (.reg [iR 96 (.p (.fieldAddr 1)) [(.t 9)], iR 97 (.l (.load none)) [(.t 96)], iR 98 (.call 60) [(.t 97), (.c (.str (bs [97, 99, 99, 101, 115, 115, 45, 99, 111, 110, 116, 114, 111, 108, 45, 109, 97, 120, 45, 97, 103, 101])))], iR 95 (.p .mv) [(.t 98)], iR 99 (.p (.extract 0)) [(.t 95)], iR 100 (.p (.extract 1)) [(.t 95)], iR 15 (.p .mv) [(.t 99)], iR 16 (.p .mv) [(.t 100)]])
    (.keep [10, 12, 15] (.seq (.seq (.reg [iR 102 (.p .mv) [(.t 15)], iR 103 (.call 91) [(.t 102)], iR 101 (.p .mv) [(.t 103)], iR 104 (.p (.extract 0)) [(.t 101)], iR 105 (.p (.extract 1)) [(.t 101)], iR 17 (.p .mv) [(.t 104)], iR 18 (.p .mv) [(.t 105)]]) (.keep [10, 12, 17, 18] (.seq (.reg [iR 106 (.p .mv) [(.t 18)]]) (.keep [10, 12, 17, 106] (.cond (.t 106) (.reg [iR 107 (.p .mv) [(.t 17)], iR 108 (.p .min2) [(.t 107), (.c (.int .i64 (.ofNat 7200)))], iR 109 (.p (.fieldAddr 3)) [(.t 12)], ⟨none, none, (.e (.store 1)), [(.t 109), (.t 108)], none⟩]) .skip))))) (.keep [10, 12] (.seq (.reg [iR 110 (.l (.load (some 4))) [(.t 12)], ⟨none, none, (.e (.store 4)), [(.t 10), (.t 110)], none⟩, iR 11 (.p .mv) [(.c (.bool true))]]) (.keep [10, 11] (.keep [10, 11] .ret))))))))))))))))))))))), [(.cell 10 (some 4)), (.t 11)]⟩
def s_preflight_Read (call : CallK) (N : Nat) (a0 a1 a2 a3 a4 : V) (H : Heap) (τ : Tape) (q : KV) : Ans := funK call N fn_preflight_Read [a0, a1, a2, a3, a4] H τ q
theorem s_preflight_Read_eq (call : CallK) (N : Nat) (a0 a1 a2 a3 a4 : V) (H : Heap) (τ : Tape) (q : KV) : s_preflight_Read call N a0 a1 a2 a3 a4 H τ q = funK call N fn_preflight_Read [a0, a1, a2, a3, a4] H τ q := by kernel_rfl
def e_preflight_Read (call : CallK) (N : Nat) (vs : List V) (H : Heap) (τ : Tape) (q : KV) : Ans := match vs with | [a0, a1, a2, a3, a4] => s_preflight_Read call N a0 a1 a2 a3 a4 H τ q | _ => none
theorem e_preflight_Read_ok : EntOk fn_preflight_Read e_preflight_Read := by
  intro call N vs H τ q r h
  unfold e_preflight_Read at h
  split at h
  · rw [s_preflight_Read_eq] at h; exact h
  · cases h
theorem e_preflight_Read_nat : EntNat e_preflight_Read := by
  intro c hn N vs H τ q
  unfold e_preflight_Read
  split
  · rw [s_preflight_Read_eq, s_preflight_Read_eq]; exact funK_ent hn _ _ _ _ _ _
  · rfl
/-- ostiary/preflight.Ask -/
def fn_preflight_Ask : Fun := ⟨3, (.seq (.reg [iR 3 (.e .box) [(.t 0)], iR 6 (.p .mv) [(.c .nils)]]) (.keep [1, 2, 3] (.seq (.reg [iR 8 (.p (.build [(.str []), (.str [])] [(0, 1), (1, 1)])) [(.c (.str (bs [97, 99, 99, 101, 112, 116]))), (.c (.str (bs [42, 47, 42])))], iR 9 (.p .mv) [(.t 1)], iR 10 (.p (.build [(.str []), (.str [])] [(0, 1), (1, 1)])) [(.c (.str (bs [97, 99, 99, 101, 115, 115, 45, 99, 111, 110, 116, 114, 111, 108, 45, 114, 101, 113, 117, 101, 115, 116, 45, 109, 101, 116, 104, 111, 100]))), (.t 9)], iR 11 (.e (.buildSlice 2 2 [(.str []), (.str []), (.str []), (.str [])] [(0, 2), (2, 2)])) [(.t 8), (.t 10)], iR 7 (.p .mv) [(.t 11)]]) (.keep [2, 3, 7] (.seq (.seq (.reg [iR 12 (.p .mv) [(.t 2)], iR 13 (.p .len) [(.t 12)], iR 14 (.p (.bin .gtr)) [(.t 13), (.c (.int .i64 (.ofNat 0)))]]) (.keep [2, 3, 7, 14] (.cond (.t 14) (.reg [iR 15 (.p .mv) [(.t 7)],
    iR 16 (.p .mv) [(.t 2)], iR 17 (.call 92) [(.t 16), (.c (.str (bs [44])))], iR 18 (.p (.build [(.str []), (.str [])] [(0, 1), (1, 1)])) [(.c (.str (bs [97, 99, 99, 101, 115, 115, 45, 99, 111, 110, 116, 114, 111, 108, 45, 114, 101, 113, 117, 101, 115, 116, 45, 104, 101, 97, 100, 101, 114, 115]))), (.t 17)], iR 19 (.e (.buildSlice 1 2 [(.str []), (.str [])] [(0, 2)])) [(.t 18)], iR 20 (.e (.append 2 32)) [(.t 15), (.t 19)], iR 7 (.p .mv) [(.t 20)]]) .skip))) (.keep [3, 7] (.seq (.reg [iR 21 (.p .mv) [(.t 7)], iR 22 (.l (.load (some 4))) [(.t 3)], iR 23 (.call 72) [(.t 22)], iR 24 (.p (.build [(.str []), (.str [])] [(0, 1), (1, 1)])) [(.c (.str (bs [111, 114, 105, 103, 105, 110]))), (.t 23)], iR 25 (.e (.buildSlice 1 2 [(.str []), (.str [])] [(0, 2)])) [(.t 24)], iR 26 (.e (.append 2 32)) [(.t 21), (.t 25)], iR 6 (.p .mv) [(.t 26)]]) (.keep [6] (.keep [6] .ret))))))))), [(.t 6)]⟩
def s_preflight_Ask_j0 (call : CallK) (N : Nat) (q : KV) (st : St) (τ : Tape) : Ans := match st with
  | ⟨fr, H⟩ => getK fr 3 fun t3 => getK fr 7 fun t7 => someK (lLoadN 4 [t3] H) fun v10 => call f_origin_Text [v10] H τ fun v11 H12 τ13 => someK (pBuild [(.str []), (.str [])] [(0, 1), (1, 1)] [(.str (bs [111, 114, 105, 103, 105, 110])), v11]) fun v14 => effK (eBuildSlice 1 2 [(.str []), (.str [])] [(0, 2)] [v14] H12 τ13) fun v15 H16 τ17 => effK (eAppend 2 32 [t7, v15] H16 τ17) fun v18 H19 τ20 => q v18 H19 τ20
def s_preflight_Ask (call : CallK) (N : Nat) (a0 a1 a2 : V) (H : Heap) (τ : Tape) (q : KV) : Ans := effK (eBox [a0] H τ) fun v0 H1 τ2 => someK (pBuild [(.str []), (.str [])] [(0, 1), (1, 1)] [(.str (bs [97, 99, 99, 101, 112, 116])), (.str (bs [42, 47, 42]))]) fun v3 => someK (pBuild [(.str []), (.str [])] [(0, 1), (1, 1)] [(.str (bs [97, 99, 99, 101, 115, 115, 45, 99, 111, 110, 116, 114, 111, 108, 45, 114, 101, 113, 117, 101, 115, 116, 45, 109, 101, 116, 104, 111, 100])), a1]) fun v4 => effK (eBuildSlice 2 2 [(.str []), (.str []), (.str []), (.str [])] [(0, 2), (2, 2)] [v3, v4] H1 τ2) fun v5 H6 τ7 => someK (pLen [a2]) fun v8 => binK .gtr v8 (.int .i64 (.ofNat 0)) fun v9 => condK v9 (call f_strings_Join [a2, (.str (bs [44]))] H6 τ7 fun v21 H22 τ23 =>
    someK (pBuild [(.str []), (.str [])] [(0, 1), (1, 1)] [(.str (bs [97, 99, 99, 101, 115, 115, 45, 99, 111, 110, 116, 114, 111, 108, 45, 114, 101, 113, 117, 101, 115, 116, 45, 104, 101, 97, 100, 101, 114, 115])), v21]) fun v24 => effK (eBuildSlice 1 2 [(.str []), (.str [])] [(0, 2)] [v24] H22 τ23) fun v25 H26 τ27 => effK (eAppend 2 32 [v5, v25] H26 τ27) fun v28 H29 τ30 => s_preflight_Ask_j0 call N q ⟨(T.set (T.set (T.set (T.set (T.set (T.set (T.set (T.set (T.set (T.set (T.set .leaf 2 a2) 3 v0) 7 v5) 14 v9) 15 v5) 16 a2) 17 v21) 18 v24) 19 v25) 20 v28) 7 v28), H29⟩ τ30) (s_preflight_Ask_j0 call N q ⟨(T.set (T.set (T.set (T.set .leaf 2 a2) 3 v0) 7 v5) 14 v9), H6⟩ τ7)
theorem s_preflight_Ask_eq (call : CallK) (N : Nat) (a0 a1 a2 : V) (H : Heap) (τ : Tape) (q : KV) : s_preflight_Ask call N a0 a1 a2 H τ q = funK call N fn_preflight_Ask [a0, a1, a2] H τ q := by kernel_rfl
def e_preflight_Ask (call : CallK) (N : Nat) (vs : List V) (H : Heap) (τ : Tape) (q : KV) : Ans := match vs with | [a0, a1, a2] => s_preflight_Ask call N a0 a1 a2 H τ q | _ => none
theorem e_preflight_Ask_ok : EntOk fn_preflight_Ask e_preflight_Ask := by
  intro call N vs H τ q r h
  unfold e_preflight_Ask at h
  split at h
  · rw [s_preflight_Ask_eq] at h; exact h
  · cases h
theorem e_preflight_Ask_nat : EntNat e_preflight_Ask := by
  intro c hn N vs H τ q
  unfold e_preflight_Ask
  split
  · rw [s_preflight_Ask_eq, s_preflight_Ask_eq]; exact funK_ent hn _ _ _ _ _ _
  · rfl
/-- ostiary/preflight.New -/
def fn_preflight_New : Fun := ⟨0, (.seq (.reg [iR 0 (.p .mv) [(.c .nilp)]]) (.keep [] (.seq (.reg [iR 1 (.p (.build [.nils] [])) [], iR 2 (.e .box) [(.t 1)], iR 0 (.p .mv) [(.t 2)]]) (.keep [0] (.keep [0] .ret))))), [(.t 0)]⟩
def s_preflight_New (call : CallK) (N : Nat) (H : Heap) (τ : Tape) (q : KV) : Ans := someK (pBuild [.nils] [] []) fun v0 => effK (eBox [v0] H τ) fun v1 H2 τ3 => q v1 H2 τ3
theorem s_preflight_New_eq (call : CallK) (N : Nat) (H : Heap) (τ : Tape) (q : KV) : s_preflight_New call N  H τ q = funK call N fn_preflight_New [] H τ q := by kernel_rfl
def e_preflight_New (call : CallK) (N : Nat) (vs : List V) (H : Heap) (τ : Tape) (q : KV) : Ans := match vs with | [] => s_preflight_New call N  H τ q | _ => none
theorem e_preflight_New_ok : EntOk fn_preflight_New e_preflight_New := by
  intro call N vs H τ q r h
  unfold e_preflight_New at h
  split at h
  · rw [s_preflight_New_eq] at h; exact h
  · cases h
theorem e_preflight_New_nat : EntNat e_preflight_New := by
  intro c hn N vs H τ q
  unfold e_preflight_New
  split
  · rw [s_preflight_New_eq, s_preflight_New_eq]; exact funK_ent hn _ _ _ _ _ _
  · rfl
/-- (*ostiary/preflight.Table).Put -/
def fn_preflight_Table_Put : Fun := ⟨6, (.seq (.reg [iR 10 (.e .box) [(.t 4)]]) (.keep [0, 1, 2, 3, 5, 10] (.seq (.seq (.reg [iR 16 (.p (.fieldAddr 0)) [(.t 10)], iR 17 (.l (.load none)) [(.t 16)], iR 18 (.p .len) [(.t 17)], iR 19 (.p .mv) [(.c (.int .i64 (.ofNat 0)))]]) (.keep [0, 1, 2, 3, 5, 10, 17, 18, 19] (.block 0 (.loop (.keep [0, 1, 2, 3, 5, 10, 17, 18, 19] (.seq (.reg [iR 20 (.p (.bin .lss)) [(.t 19), (.t 18)]]) (.keep [0, 1, 2, 3, 5, 10, 17, 18, 19, 20] (.seq (.cond (.t 20) .skip (.keep [0, 1, 2, 3, 5, 10] (.exit 0))) (.keep [0, 1, 2, 3, 5, 10, 17, 18, 19] (.seq (.block 1 (.seq (.reg [iR 21 (.p (.slIdx 1)) [(.t 17), (.t 19)], iR 22 (.l (.load none)) [(.t 21)], iR 13 (.p .mv) [(.t 22)]]) (.keep [0, 1, 2, 3, 5, 10, 13, 17, 18, 19] (.reg [iR 23 (.p .mv) [(.t 0)], iR 24 (.p .mv) [(.t 1)], iR 25 (.p .mv) [(.t 2)], iR 26 (.p .mv) [(.t 3)], iR 27 (.p .mv) [(.t 13)],
    iR 28 (.p (.build [(.str []), (.str []), (.bool false), (.bool false), (.str [])] [(0, 1), (1, 1), (2, 1), (3, 1), (4, 1)])) [(.t 24), (.t 25), (.t 26), (.c (.bool true)), (.t 27)], iR 29 (.l (.load (some 4))) [(.t 10)], iR 30 (.p .mv) [(.t 5)], iR 31 (.call 93) [(.t 23), (.t 28), (.t 29), (.t 30)]])))) (.keep [0, 1, 2, 3, 5, 10, 17, 18, 19] (.reg [iR 32 (.p (.bin .add)) [(.t 19), (.c (.int .i64 (.ofNat 1)))], iR 19 (.p .mv) [(.t 32)]])))))))))))) (.keep [0, 1, 2, 3, 5, 10] (.seq (.seq (.reg [iR 33 (.p (.fieldAddr 1)) [(.t 10)], iR 34 (.l (.load none)) [(.t 33)], iR 35 (.p .len) [(.t 34)], iR 36 (.p .mv) [(.c (.int .i64 (.ofNat 0)))]]) (.keep [0, 1, 2, 3, 5, 10, 34, 35, 36] (.block 2 (.loop (.keep [0, 1, 2, 3, 5, 10, 34, 35, 36] (.seq (.reg [iR 37 (.p (.bin .lss)) [(.t 36), (.t 35)]]) (.keep [0, 1, 2, 3, 5, 10, 34, 35, 36, 37] (.seq (.cond (.t 37) .skip
    (.keep [0, 1, 2, 3, 5, 10] (.exit 2))) (.keep [0, 1, 2, 3, 5, 10, 34, 35, 36] (.seq (.block 3 (.seq (.reg [iR 38 (.p (.slIdx 1)) [(.t 34), (.t 36)], iR 39 (.l (.load none)) [(.t 38)], iR 15 (.p .mv) [(.t 39)]]) (.keep [0, 1, 2, 3, 5, 10, 15, 34, 35, 36] (.reg [iR 40 (.p .mv) [(.t 0)], iR 41 (.p .mv) [(.t 1)], iR 42 (.p .mv) [(.t 2)], iR 43 (.p .mv) [(.t 3)], iR 44 (.p .mv) [(.t 15)], iR 45 (.p (.build [(.str []), (.str []), (.bool false), (.bool false), (.str [])] [(0, 1), (1, 1), (2, 1), (3, 1), (4, 1)])) [(.t 41), (.t 42), (.t 43), (.c (.bool false)), (.t 44)], iR 46 (.l (.load (some 4))) [(.t 10)], iR 47 (.p .mv) [(.t 5)], iR 48 (.call 93) [(.t 40), (.t 45), (.t 46), (.t 47)]])))) (.keep [0, 1, 2, 3, 5, 10, 34, 35, 36] (.reg [iR 49 (.p (.bin .add)) [(.t 36), (.c (.int .i64 (.ofNat 1)))], iR 36 (.p .mv) [(.t 49)]]))))))))))))
    (.keep [0, 1, 2, 3, 5, 10] (.seq (.reg [iR 50 (.p (.fieldAddr 2)) [(.t 10)], iR 51 (.l (.load none)) [(.t 50)]]) (.keep [0, 1, 2, 3, 5, 10, 51] (.cond (.t 51) (.reg [iR 52 (.p .mv) [(.t 0)], iR 53 (.p .mv) [(.t 1)], iR 54 (.p .mv) [(.t 2)], iR 55 (.p .mv) [(.t 3)], iR 56 (.p (.build [(.str []), (.str []), (.bool false), (.bool false), (.str [])] [(0, 1), (1, 1), (2, 1), (3, 1), (4, 1)])) [(.t 53), (.t 54), (.t 55), (.c (.bool false)), (.c (.str (bs [42])))], iR 57 (.l (.load (some 4))) [(.t 10)], iR 58 (.p .mv) [(.t 5)], iR 59 (.call 93) [(.t 52), (.t 56), (.t 57), (.t 58)]]) .skip))))))))), []⟩
def s_preflight_Table_Put_j1 (call : CallK) (N : Nat) (q : KV) (st : St) (τ : Tape) : Ans := match st with
  | ⟨fr, H⟩ => getK fr 0 fun t0 => getK fr 1 fun t1 => getK fr 2 fun t2 => getK fr 3 fun t3 => getK fr 5 fun t5 => getK fr 10 fun t10 => someK (pFieldAddr 2 [t10]) fun v9 => someK (lLoad1 [v9] H) fun v10 => condK v10 (someK (pBuild [(.str []), (.str []), (.bool false), (.bool false), (.str [])] [(0, 1), (1, 1), (2, 1), (3, 1), (4, 1)] [t1, t2, t3, (.bool false), (.str (bs [42]))]) fun v11 => someK (lLoadN 4 [t10] H) fun v12 => call f_preflight_Table_put [t0, v11, v12, t5] H τ fun v13 H14 τ15 => q (.tup []) H14 τ15) (q (.tup []) H τ)
def s_preflight_Table_Put_l2 (call : CallK) (N : Nat) (st : St) (τ : Tape) (k : KC) : Ans := match st with
  | ⟨fr, H⟩ => getK fr 0 fun t0 => getK fr 1 fun t1 => getK fr 2 fun t2 => getK fr 3 fun t3 => getK fr 5 fun t5 => getK fr 10 fun t10 => getK fr 34 fun t34 => getK fr 35 fun t35 => getK fr 36 fun t36 => binK .lss t36 t35 fun v16 => condK v16 (someK (pSlIdx 1 [t34, t36]) fun v17 => someK (lLoad1 [v17] H) fun v18 => someK (pBuild [(.str []), (.str []), (.bool false), (.bool false), (.str [])] [(0, 1), (1, 1), (2, 1), (3, 1), (4, 1)] [t1, t2, t3, (.bool false), v18]) fun v19 => someK (lLoadN 4 [t10] H) fun v20 => call f_preflight_Table_put [t0, v19, v20, t5] H τ fun v21 H22 τ23 => binK .add t36 (.int .i64 (.ofNat 1)) fun v24 => k .normal ⟨(T.set (T.set (T.set (T.set (T.set (T.set (T.set (T.set (T.set (T.set (T.set .leaf 0 t0) 1 t1) 2 t2) 3 t3) 5 t5) 10 t10) 34 t34) 35 t35) 36 t36) 49 v24) 36 v24), H22⟩ τ23)
    (k (.exit 2) ⟨(T.set (T.set (T.set (T.set (T.set (T.set .leaf 0 t0) 1 t1) 2 t2) 3 t3) 5 t5) 10 t10), H⟩ τ)
def s_preflight_Table_Put_j0 (call : CallK) (N : Nat) (q : KV) (st : St) (τ : Tape) : Ans := match st with
  | ⟨fr, H⟩ => getK fr 0 fun t0 => getK fr 1 fun t1 => getK fr 2 fun t2 => getK fr 3 fun t3 => getK fr 5 fun t5 => getK fr 10 fun t10 => someK (pFieldAddr 1 [t10]) fun v6 => someK (lLoad1 [v6] H) fun v7 => someK (pLen [v7]) fun v8 => loopK (s_preflight_Table_Put_l2 call N) N ⟨(T.set (T.set (T.set (T.set (T.set (T.set (T.set (T.set (T.set .leaf 0 t0) 1 t1) 2 t2) 3 t3) 5 t5) 10 t10) 34 v7) 35 v8) 36 (.int .i64 (.ofNat 0))), H⟩ τ (blockK 2 (seqK (s_preflight_Table_Put_j1 call N q) (endK [] q)))
def s_preflight_Table_Put_l3 (call : CallK) (N : Nat) (st : St) (τ : Tape) (k : KC) : Ans := match st with
  | ⟨fr, H⟩ => getK fr 0 fun t0 => getK fr 1 fun t1 => getK fr 2 fun t2 => getK fr 3 fun t3 => getK fr 5 fun t5 => getK fr 10 fun t10 => getK fr 17 fun t17 => getK fr 18 fun t18 => getK fr 19 fun t19 => binK .lss t19 t18 fun v25 => condK v25 (someK (pSlIdx 1 [t17, t19]) fun v26 => someK (lLoad1 [v26] H) fun v27 => someK (pBuild [(.str []), (.str []), (.bool false), (.bool false), (.str [])] [(0, 1), (1, 1), (2, 1), (3, 1), (4, 1)] [t1, t2, t3, (.bool true), v27]) fun v28 => someK (lLoadN 4 [t10] H) fun v29 => call f_preflight_Table_put [t0, v28, v29, t5] H τ fun v30 H31 τ32 => binK .add t19 (.int .i64 (.ofNat 1)) fun v33 => k .normal ⟨(T.set (T.set (T.set (T.set (T.set (T.set (T.set (T.set (T.set (T.set (T.set .leaf 0 t0) 1 t1) 2 t2) 3 t3) 5 t5) 10 t10) 17 t17) 18 t18) 19 t19) 32 v33) 19 v33), H31⟩ τ32)
    (k (.exit 0) ⟨(T.set (T.set (T.set (T.set (T.set (T.set .leaf 0 t0) 1 t1) 2 t2) 3 t3) 5 t5) 10 t10), H⟩ τ)
def s_preflight_Table_Put (call : CallK) (N : Nat) (a0 a1 a2 a3 a4 a5 : V) (H : Heap) (τ : Tape) (q : KV) : Ans := effK (eBox [a4] H τ) fun v0 H1 τ2 => someK (pFieldAddr 0 [v0]) fun v3 => someK (lLoad1 [v3] H1) fun v4 => someK (pLen [v4]) fun v5 => loopK (s_preflight_Table_Put_l3 call N) N ⟨(T.set (T.set (T.set (T.set (T.set (T.set (T.set (T.set (T.set .leaf 0 a0) 1 a1) 2 a2) 3 a3) 5 a5) 10 v0) 17 v4) 18 v5) 19 (.int .i64 (.ofNat 0))), H1⟩ τ2 (blockK 0 (seqK (s_preflight_Table_Put_j0 call N q) (endK [] q)))
theorem s_preflight_Table_Put_eq (call : CallK) (N : Nat) (a0 a1 a2 a3 a4 a5 : V) (H : Heap) (τ : Tape) (q : KV) : s_preflight_Table_Put call N a0 a1 a2 a3 a4 a5 H τ q = funK call N fn_preflight_Table_Put [a0, a1, a2, a3, a4, a5] H τ q := by kernel_rfl
def e_preflight_Table_Put (call : CallK) (N : Nat) (vs : List V) (H : Heap) (τ : Tape) (q : KV) : Ans := match vs with | [a0, a1, a2, a3, a4, a5] => s_preflight_Table_Put call N a0 a1 a2 a3 a4 a5 H τ q | _ => none
theorem e_preflight_Table_Put_ok : EntOk fn_preflight_Table_Put e_preflight_Table_Put := by
  intro call N vs H τ q r h
  unfold e_preflight_Table_Put at h
  split at h
  · rw [s_preflight_Table_Put_eq] at h; exact h
  · cases h
theorem e_preflight_Table_Put_nat : EntNat e_preflight_Table_Put := by
  intro c hn N vs H τ q
  unfold e_preflight_Table_Put
  split
  · rw [s_preflight_Table_Put_eq, s_preflight_Table_Put_eq]; exact funK_ent hn _ _ _ _ _ _
  · rfl
/-- ostiary/ostiarylaw19.same -/
def fn_law19_same : Fun := ⟨2, (.seq (.reg [iR 2 (.e .box) [(.t 0)], iR 3 (.e .box) [(.t 1)], iR 4 (.p .mv) [(.c (.bool false))]]) (.keep [2, 3] (.seq (.reg [iR 5 (.p (.fieldAddr 0)) [(.t 2)], iR 6 (.l (.load none)) [(.t 5)], iR 7 (.p (.fieldAddr 0)) [(.t 3)], iR 8 (.l (.load none)) [(.t 7)], iR 9 (.call 48) [(.t 6), (.t 8)], iR 10 (.p .mv) [(.t 9)], iG 11 10 true (.p (.fieldAddr 1)) [(.t 2)], iG 12 10 true (.l (.load none)) [(.t 11)], iG 13 10 true (.p (.fieldAddr 1)) [(.t 3)], iG 14 10 true (.l (.load none)) [(.t 13)], iG 15 10 true (.call 48) [(.t 12), (.t 14)], iR 16 (.p .pick) [(.t 10), (.t 15), (.c (.bool false))], iR 17 (.p .mv) [(.t 16)], iG 18 17 true (.p (.fieldAddr 2)) [(.t 2)], iG 19 17 true (.l (.load none)) [(.t 18)], iG 20 17 true (.p (.fieldAddr 2)) [(.t 3)], iG 21 17 true (.l (.load none)) [(.t 20)], iG 22 17 true (.p (.eq false .bool)) [(.t 19), (.t 21)],
    iR 23 (.p .pick) [(.t 17), (.t 22), (.c (.bool false))], iR 24 (.p .mv) [(.t 23)], iG 25 24 true (.p (.fieldAddr 3)) [(.t 2)], iG 26 24 true (.l (.load none)) [(.t 25)], iG 27 24 true (.p (.fieldAddr 3)) [(.t 3)], iG 28 24 true (.l (.load none)) [(.t 27)], iG 29 24 true (.p (.bin .eql)) [(.t 26), (.t 28)], iR 30 (.p .pick) [(.t 24), (.t 29), (.c (.bool false))], iR 4 (.p .mv) [(.t 30)]]) (.keep [4] (.keep [4] .ret))))), [(.t 4)]⟩
def s_law19_same (call : CallK) (N : Nat) (a0 a1 : V) (H : Heap) (τ : Tape) (q : KV) : Ans := effK (eBox [a0] H τ) fun v0 H1 τ2 => effK (eBox [a1] H1 τ2) fun v3 H4 τ5 => someK (pFieldAddr 0 [v0]) fun v6 => someK (lLoad1 [v6] H4) fun v7 => someK (pFieldAddr 0 [v3]) fun v8 => someK (lLoad1 [v8] H4) fun v9 => call f_book_Same_string [v7, v9] H4 τ5 fun v10 H11 τ12 => gK v10 true (fun q' => someK (pFieldAddr 1 [v0]) fun v => q' v H11 τ12) H11 τ12 fun v13 H14 τ15 => gK v10 true (fun q' => someK (lLoad1 [v13] H14) fun v => q' v H14 τ15) H14 τ15 fun v16 H17 τ18 => gK v10 true (fun q' => someK (pFieldAddr 1 [v3]) fun v => q' v H17 τ18) H17 τ18 fun v19 H20 τ21 => gK v10 true (fun q' => someK (lLoad1 [v19] H20) fun v => q' v H20 τ21) H20 τ21 fun v22 H23 τ24 => gK v10 true (fun q' => call f_book_Same_string [v16, v22] H23 τ24 q') H23 τ24 fun v25 H26 τ27 =>
    someK (pPick [v10, v25, (.bool false)]) fun v28 => gK v28 true (fun q' => someK (pFieldAddr 2 [v0]) fun v => q' v H26 τ27) H26 τ27 fun v29 H30 τ31 => gK v28 true (fun q' => someK (lLoad1 [v29] H30) fun v => q' v H30 τ31) H30 τ31 fun v32 H33 τ34 => gK v28 true (fun q' => someK (pFieldAddr 2 [v3]) fun v => q' v H33 τ34) H33 τ34 fun v35 H36 τ37 => gK v28 true (fun q' => someK (lLoad1 [v35] H36) fun v => q' v H36 τ37) H36 τ37 fun v38 H39 τ40 => gK v28 true (fun q' => someK (pEq false .bool [v32, v38]) fun v => q' v H39 τ40) H39 τ40 fun v41 H42 τ43 => someK (pPick [v28, v41, (.bool false)]) fun v44 => gK v44 true (fun q' => someK (pFieldAddr 3 [v0]) fun v => q' v H42 τ43) H42 τ43 fun v45 H46 τ47 => gK v44 true (fun q' => someK (lLoad1 [v45] H46) fun v => q' v H46 τ47) H46 τ47 fun v48 H49 τ50 =>
    gK v44 true (fun q' => someK (pFieldAddr 3 [v3]) fun v => q' v H49 τ50) H49 τ50 fun v51 H52 τ53 => gK v44 true (fun q' => someK (lLoad1 [v51] H52) fun v => q' v H52 τ53) H52 τ53 fun v54 H55 τ56 => gK v44 true (fun q' => binK .eql v48 v54 fun v => q' v H55 τ56) H55 τ56 fun v57 H58 τ59 => someK (pPick [v44, v57, (.bool false)]) fun v60 => q v60 H58 τ59
theorem s_law19_same_eq (call : CallK) (N : Nat) (a0 a1 : V) (H : Heap) (τ : Tape) (q : KV) : s_law19_same call N a0 a1 H τ q = funK call N fn_law19_same [a0, a1] H τ q := by kernel_rfl
def e_law19_same (call : CallK) (N : Nat) (vs : List V) (H : Heap) (τ : Tape) (q : KV) : Ans := match vs with | [a0, a1] => s_law19_same call N a0 a1 H τ q | _ => none
theorem e_law19_same_ok : EntOk fn_law19_same e_law19_same := by
  intro call N vs H τ q r h
  unfold e_law19_same at h
  split at h
  · rw [s_law19_same_eq] at h; exact h
  · cases h
theorem e_law19_same_nat : EntNat e_law19_same := by
  intro c hn N vs H τ q
  unfold e_law19_same
  split
  · rw [s_law19_same_eq, s_law19_same_eq]; exact funK_ent hn _ _ _ _ _ _
  · rfl
/-- (*ostiary/preflight.Table).Allows -/
def fn_preflight_Table_Allows : Fun := ⟨7, (.seq (.reg [iR 7 (.e .box) [(.t 0)], iR 8 (.e .box) [(.t 1)], iR 9 (.e .box) [(.t 2)], iR 10 (.e .box) [(.t 3)], iR 13 (.e .box) [(.t 6)], iR 14 (.p .mv) [(.c (.bool false))]]) (.keep [4, 5, 7, 8, 9, 10, 13] (.seq (.reg [iR 18 (.p (.mkFunc 94 0)) [(.t 7), (.t 8), (.t 9), (.t 10), (.t 13)], iR 15 (.p .mv) [(.t 18)]]) (.keep [4, 5, 10, 15] (.seq (.seq (.reg [iR 19 (.p .mv) [(.t 4)], iR 20 (.call 49) [(.t 19)], iR 21 (.p (.un .not)) [(.t 20)], iR 22 (.p .mv) [(.t 21)], iG 23 22 true (.p .mv) [(.t 15)], iG 24 22 true (.p .mv) [(.t 4)], iG 25 22 true .callv [(.t 23), (.c (.bool true)), (.t 24)], iG 26 22 true (.p (.un .not)) [(.t 25)], iR 27 (.p .pick) [(.t 22), (.t 26), (.c (.bool false))], iR 28 (.p .mv) [(.t 27)], iG 29 28 true (.l (.load none)) [(.t 10)], iG 30 28 true (.p .mv) [(.t 29)], iG 31 30 false (.p .mv) [(.t 15)],
    iG 32 30 false .callv [(.t 31), (.c (.bool true)), (.c (.str (bs [42])))], iG 33 30 false (.p (.un .not)) [(.t 32)], iG 34 28 true (.p .pick) [(.t 30), (.c (.bool true)), (.t 33)], iR 35 (.p .pick) [(.t 28), (.t 34), (.c (.bool false))]]) (.keep [5, 10, 15, 35] (.cond (.t 35) (.seq (.reg [iR 14 (.p .mv) [(.c (.bool false))]]) (.keep [14] (.keep [14] .ret))) .skip))) (.keep [5, 10, 15] (.seq (.seq (.reg [iR 36 (.p .mv) [(.t 5)], iR 37 (.p .len) [(.t 36)], iR 38 (.p .mv) [(.c (.int .i64 (.ofNat 0)))]]) (.keep [10, 15, 36, 37, 38] (.block 0 (.loop (.keep [10, 15, 36, 37, 38] (.seq (.reg [iR 39 (.p (.bin .lss)) [(.t 38), (.t 37)]]) (.keep [10, 15, 36, 37, 38, 39] (.seq (.cond (.t 39) .skip (.keep [] (.exit 0))) (.keep [10, 15, 36, 37, 38] (.seq (.block 1 (.seq (.reg [iR 40 (.p (.slIdx 1)) [(.t 36), (.t 38)], iR 41 (.l (.load none)) [(.t 40)], iR 17 (.p .mv) [(.t 41)]])
    (.keep [10, 15, 17, 36, 37, 38] (.seq (.reg [iR 42 (.p .mv) [(.t 15)], iR 43 (.p .mv) [(.t 17)], iR 44 .callv [(.t 42), (.c (.bool false)), (.t 43)], iR 45 (.p (.un .not)) [(.t 44)], iR 46 (.p .mv) [(.t 45)], iG 47 46 true (.l (.load none)) [(.t 10)], iG 48 46 true (.p .mv) [(.t 47)], iG 49 48 false (.p .mv) [(.t 17)], iG 50 48 false (.p (.bin .eql)) [(.t 49), (.c (.str (bs [97, 117, 116, 104, 111, 114, 105, 122, 97, 116, 105, 111, 110])))], iG 51 46 true (.p .pick) [(.t 48), (.c (.bool true)), (.t 50)], iG 52 46 true (.p .mv) [(.t 51)], iG 53 52 false (.p .mv) [(.t 15)], iG 54 52 false .callv [(.t 53), (.c (.bool false)), (.c (.str (bs [42])))], iG 55 52 false (.p (.un .not)) [(.t 54)], iG 56 46 true (.p .pick) [(.t 52), (.c (.bool true)), (.t 55)], iR 57 (.p .pick) [(.t 46), (.t 56), (.c (.bool false))]]) (.keep [10, 15, 36, 37, 38, 57] (.cond (.t 57)
    (.seq (.reg [iR 14 (.p .mv) [(.c (.bool false))]]) (.keep [14] (.keep [14] .ret))) .skip)))))) (.keep [10, 15, 36, 37, 38] (.reg [iR 58 (.p (.bin .add)) [(.t 38), (.c (.int .i64 (.ofNat 1)))], iR 38 (.p .mv) [(.t 58)]])))))))))))) (.keep [] (.seq (.reg [iR 14 (.p .mv) [(.c (.bool true))]]) (.keep [14] (.keep [14] .ret))))))))))), [(.t 14)]⟩
def s_preflight_Table_Allows_j0 (call : CallK) (N : Nat) (q : KV) (st : St) (τ : Tape) : Ans := match st with
  | ⟨fr, H⟩ => q (.bool true) H τ
def s_preflight_Table_Allows_l1 (call : CallK) (N : Nat) (st : St) (τ : Tape) (k : KC) : Ans := match st with
  | ⟨fr, H⟩ => getK fr 10 fun t10 => getK fr 15 fun t15 => getK fr 36 fun t36 => getK fr 37 fun t37 => getK fr 38 fun t38 => binK .lss t38 t37 fun v53 => condK v53 (someK (pSlIdx 1 [t36, t38]) fun v54 => someK (lLoad1 [v54] H) fun v55 => opK call .callv [t15, (.bool false), v55] H τ fun v56 H57 τ58 => unK .not v56 fun v59 => gK v59 true (fun q' => someK (lLoad1 [t10] H57) fun v => q' v H57 τ58) H57 τ58 fun v60 H61 τ62 => gK v59 true (fun q' => q' v60 H61 τ62) H61 τ62 fun v63 H64 τ65 => gK v63 false (fun q' => q' v55 H64 τ65) H64 τ65 fun v66 H67 τ68 => gK v63 false (fun q' => binK .eql v66 (.str (bs [97, 117, 116, 104, 111, 114, 105, 122, 97, 116, 105, 111, 110])) fun v => q' v H67 τ68) H67 τ68 fun v69 H70 τ71 => gK v59 true (fun q' => someK (pPick [v63, (.bool true), v69]) fun v => q' v H70 τ71) H70 τ71 fun v72 H73 τ74 =>
    gK v59 true (fun q' => q' v72 H73 τ74) H73 τ74 fun v75 H76 τ77 => gK v75 false (fun q' => q' t15 H76 τ77) H76 τ77 fun v78 H79 τ80 => gK v75 false (fun q' => opK call .callv [v78, (.bool false), (.str (bs [42]))] H79 τ80 q') H79 τ80 fun v81 H82 τ83 => gK v75 false (fun q' => unK .not v81 fun v => q' v H82 τ83) H82 τ83 fun v84 H85 τ86 => gK v59 true (fun q' => someK (pPick [v75, (.bool true), v84]) fun v => q' v H85 τ86) H85 τ86 fun v87 H88 τ89 => someK (pPick [v59, v87, (.bool false)]) fun v90 => condK v90 (k .ret ⟨(T.set .leaf 14 (.bool false)), H88⟩ τ89) (binK .add t38 (.int .i64 (.ofNat 1)) fun v91 => k .normal ⟨(T.set (T.set (T.set (T.set (T.set (T.set (T.set .leaf 10 t10) 15 t15) 36 t36) 37 t37) 38 t38) 58 v91) 38 v91), H88⟩ τ89)) (k (.exit 0) ⟨.leaf, H⟩ τ)
def s_preflight_Table_Allows (call : CallK) (N : Nat) (a0 a1 a2 a3 a4 a5 a6 : V) (H : Heap) (τ : Tape) (q : KV) : Ans := effK (eBox [a0] H τ) fun v0 H1 τ2 => effK (eBox [a1] H1 τ2) fun v3 H4 τ5 => effK (eBox [a2] H4 τ5) fun v6 H7 τ8 => effK (eBox [a3] H7 τ8) fun v9 H10 τ11 => effK (eBox [a6] H10 τ11) fun v12 H13 τ14 => someK (some (V.func f_preflight_Table_Allows_1 (List.take 0 [v0, v3, v6, v9, v12]) (List.drop 0 [v0, v3, v6, v9, v12]))) fun v15 => call f_cors_Simple [a4] H13 τ14 fun v16 H17 τ18 => unK .not v16 fun v19 => gK v19 true (fun q' => q' v15 H17 τ18) H17 τ18 fun v20 H21 τ22 => gK v19 true (fun q' => q' a4 H21 τ22) H21 τ22 fun v23 H24 τ25 => gK v19 true (fun q' => opK call .callv [v20, (.bool true), v23] H24 τ25 q') H24 τ25 fun v26 H27 τ28 => gK v19 true (fun q' => unK .not v26 fun v => q' v H27 τ28) H27 τ28 fun v29 H30 τ31 => someK (pPick [v19, v29, (.bool false)]) fun v32 =>
    gK v32 true (fun q' => someK (lLoad1 [v9] H30) fun v => q' v H30 τ31) H30 τ31 fun v33 H34 τ35 => gK v32 true (fun q' => q' v33 H34 τ35) H34 τ35 fun v36 H37 τ38 => gK v36 false (fun q' => q' v15 H37 τ38) H37 τ38 fun v39 H40 τ41 => gK v36 false (fun q' => opK call .callv [v39, (.bool true), (.str (bs [42]))] H40 τ41 q') H40 τ41 fun v42 H43 τ44 => gK v36 false (fun q' => unK .not v42 fun v => q' v H43 τ44) H43 τ44 fun v45 H46 τ47 => gK v32 true (fun q' => someK (pPick [v36, (.bool true), v45]) fun v => q' v H46 τ47) H46 τ47 fun v48 H49 τ50 => someK (pPick [v32, v48, (.bool false)]) fun v51 => condK v51 (q (.bool false) H49 τ50) (someK (pLen [a5]) fun v52 => loopK (s_preflight_Table_Allows_l1 call N) N ⟨(T.set (T.set (T.set (T.set (T.set .leaf 10 v9) 15 v15) 36 a5) 37 v52) 38 (.int .i64 (.ofNat 0))), H49⟩ τ50 (blockK 0 (seqK (s_preflight_Table_Allows_j0 call N q) (endK [(.t 14)] q))))
theorem s_preflight_Table_Allows_eq (call : CallK) (N : Nat) (a0 a1 a2 a3 a4 a5 a6 : V) (H : Heap) (τ : Tape) (q : KV) : s_preflight_Table_Allows call N a0 a1 a2 a3 a4 a5 a6 H τ q = funK call N fn_preflight_Table_Allows [a0, a1, a2, a3, a4, a5, a6] H τ q := by kernel_rfl
def e_preflight_Table_Allows (call : CallK) (N : Nat) (vs : List V) (H : Heap) (τ : Tape) (q : KV) : Ans := match vs with | [a0, a1, a2, a3, a4, a5, a6] => s_preflight_Table_Allows call N a0 a1 a2 a3 a4 a5 a6 H τ q | _ => none
theorem e_preflight_Table_Allows_ok : EntOk fn_preflight_Table_Allows e_preflight_Table_Allows := by
  intro call N vs H τ q r h
  unfold e_preflight_Table_Allows at h
  split at h
  · rw [s_preflight_Table_Allows_eq] at h; exact h
  · cases h
theorem e_preflight_Table_Allows_nat : EntNat e_preflight_Table_Allows := by
  intro c hn N vs H τ q
  unfold e_preflight_Table_Allows
  split
  · rw [s_preflight_Table_Allows_eq, s_preflight_Table_Allows_eq]; exact funK_ent hn _ _ _ _ _ _
  · rfl
/-- (*ostiary/preflight.Table).Len -/
def fn_preflight_Table_Len : Fun := ⟨2, (.seq (.reg [iR 4 (.p .mv) [(.c (.int .i64 (.ofNat 0)))]]) (.keep [0, 1] (.seq (.reg [iR 5 (.p .mv) [(.c (.int .i64 (.ofNat 0)))]]) (.keep [0, 1, 5] (.seq (.seq (.reg [iR 8 (.p .mv) [(.t 0)], iR 9 (.p .nilck) [(.t 8)], iR 10 (.p (.fieldAddr 0)) [(.t 9)], iR 11 (.l (.load none)) [(.t 10)], iR 12 (.p .len) [(.t 11)], iR 13 (.p .mv) [(.c (.int .i64 (.ofNat 0)))]]) (.keep [1, 5, 11, 12, 13] (.block 0 (.loop (.keep [1, 5, 11, 12, 13] (.seq (.reg [iR 14 (.p (.bin .lss)) [(.t 13), (.t 12)]]) (.keep [1, 5, 11, 12, 13, 14] (.seq (.cond (.t 14) .skip (.keep [5] (.exit 0))) (.keep [1, 5, 11, 12, 13] (.seq (.block 1 (.seq (.reg [iR 15 (.p (.slIdx 6)) [(.t 11), (.t 13)], iR 16 (.l (.load (some 6))) [(.t 15)], iR 7 (.e (.alloc [(.str []), (.str []), (.bool false), (.bool false), (.str []), (.int .i64 (.ofNat 0))])) [],
    ⟨none, none, (.e (.store 6)), [(.t 7), (.t 16)], none⟩]) (.keep [1, 5, 7, 11, 12, 13] (.seq (.reg [iR 17 (.p .mv) [(.t 1)], iR 18 (.p (.fieldAddr 5)) [(.t 7)], iR 19 (.l (.load none)) [(.t 18)], iR 20 (.p (.bin .lss)) [(.t 17), (.t 19)]]) (.keep [1, 5, 11, 12, 13, 20] (.cond (.t 20) (.reg [iR 21 (.p .mv) [(.t 5)], iR 22 (.p (.bin .add)) [(.t 21), (.c (.int .i64 (.ofNat 1)))], iR 5 (.p .mv) [(.t 22)]]) .skip)))))) (.keep [1, 5, 11, 12, 13] (.reg [iR 23 (.p (.bin .add)) [(.t 13), (.c (.int .i64 (.ofNat 1)))], iR 13 (.p .mv) [(.t 23)]])))))))))))) (.keep [5] (.seq (.reg [iR 24 (.p .mv) [(.t 5)], iR 4 (.p .mv) [(.t 24)]]) (.keep [4] (.keep [4] .ret))))))))), [(.t 4)]⟩
def s_preflight_Table_Len_j0 (call : CallK) (N : Nat) (q : KV) (st : St) (τ : Tape) : Ans := match st with
  | ⟨fr, H⟩ => getK fr 5 fun t5 => q t5 H τ
def s_preflight_Table_Len_j2 (call : CallK) (N : Nat) (k : KC) (st : St) (τ : Tape) : Ans := match st with
  | ⟨fr, H⟩ => getK fr 1 fun t1 => getK fr 5 fun t5 => getK fr 11 fun t11 => getK fr 12 fun t12 => getK fr 13 fun t13 => binK .add t13 (.int .i64 (.ofNat 1)) fun v5 => k .normal ⟨(T.set (T.set (T.set (T.set (T.set (T.set (T.set .leaf 1 t1) 5 t5) 11 t11) 12 t12) 13 t13) 23 v5) 13 v5), H⟩ τ
def s_preflight_Table_Len_l1 (call : CallK) (N : Nat) (st : St) (τ : Tape) (k : KC) : Ans := match st with
  | ⟨fr, H⟩ => getK fr 1 fun t1 => getK fr 5 fun t5 => getK fr 11 fun t11 => getK fr 12 fun t12 => getK fr 13 fun t13 => binK .lss t13 t12 fun v4 => condK v4 (someK (pSlIdx 6 [t11, t13]) fun v6 => someK (lLoadN 6 [v6] H) fun v7 => effK (eAlloc [(.str []), (.str []), (.bool false), (.bool false), (.str []), (.int .i64 (.ofNat 0))] [] H τ) fun v8 H9 τ10 => effK (eStore 6 [v8, v7] H9 τ10) fun v11 H12 τ13 => someK (pFieldAddr 5 [v8]) fun v14 => someK (lLoad1 [v14] H12) fun v15 => binK .lss t1 v15 fun v16 => condK v16 (binK .add t5 (.int .i64 (.ofNat 1)) fun v17 => s_preflight_Table_Len_j2 call N k ⟨(T.set (T.set (T.set (T.set (T.set (T.set (T.set (T.set (T.set .leaf 1 t1) 5 t5) 11 t11) 12 t12) 13 t13) 20 v16) 21 t5) 22 v17) 5 v17), H12⟩ τ13) (s_preflight_Table_Len_j2 call N k ⟨(T.set (T.set (T.set (T.set (T.set (T.set .leaf 1 t1) 5 t5) 11 t11) 12 t12) 13 t13) 20 v16), H12⟩ τ13))
    (k (.exit 0) ⟨(T.set .leaf 5 t5), H⟩ τ)
def s_preflight_Table_Len (call : CallK) (N : Nat) (a0 a1 : V) (H : Heap) (τ : Tape) (q : KV) : Ans := someK (pNilck [a0]) fun v0 => someK (pFieldAddr 0 [v0]) fun v1 => someK (lLoad1 [v1] H) fun v2 => someK (pLen [v2]) fun v3 => loopK (s_preflight_Table_Len_l1 call N) N ⟨(T.set (T.set (T.set (T.set (T.set .leaf 1 a1) 5 (.int .i64 (.ofNat 0))) 11 v2) 12 v3) 13 (.int .i64 (.ofNat 0))), H⟩ τ (blockK 0 (seqK (s_preflight_Table_Len_j0 call N q) (endK [(.t 4)] q)))
theorem s_preflight_Table_Len_eq (call : CallK) (N : Nat) (a0 a1 : V) (H : Heap) (τ : Tape) (q : KV) : s_preflight_Table_Len call N a0 a1 H τ q = funK call N fn_preflight_Table_Len [a0, a1] H τ q := by kernel_rfl
def e_preflight_Table_Len (call : CallK) (N : Nat) (vs : List V) (H : Heap) (τ : Tape) (q : KV) : Ans := match vs with | [a0, a1] => s_preflight_Table_Len call N a0 a1 H τ q | _ => none
theorem e_preflight_Table_Len_ok : EntOk fn_preflight_Table_Len e_preflight_Table_Len := by
  intro call N vs H τ q r h
  unfold e_preflight_Table_Len at h
  split at h
  · rw [s_preflight_Table_Len_eq] at h; exact h
  · cases h
theorem e_preflight_Table_Len_nat : EntNat e_preflight_Table_Len := by
  intro c hn N vs H τ q
  unfold e_preflight_Table_Len
  split
  · rw [s_preflight_Table_Len_eq, s_preflight_Table_Len_eq]; exact funK_ent hn _ _ _ _ _ _
  · rfl
/-- ostiary/ostiarylaw19.known -/
def fn_law19_known : Fun := ⟨0, (.seq (.reg [iR 0 (.p .mv) [(.c (.bool false))]]) (.keep [] (.seq (.reg [iR 5 (.call 33) [(.c (.str (bs [97, 99, 99, 101, 115, 115, 45, 99, 111, 110, 116, 114, 111, 108, 45, 97, 108, 108, 111, 119, 45, 111, 114, 105, 103, 105, 110]))), (.c (.str (bs [42])))], iR 6 (.call 33) [(.c (.str (bs [97, 99, 99, 101, 115, 115, 45, 99, 111, 110, 116, 114, 111, 108, 45, 97, 108, 108, 111, 119, 45, 109, 101, 116, 104, 111, 100, 115]))), (.c (.str (bs [80, 85, 84])))], iR 7 (.e (.buildSlice 2 2 [(.str []), (.str []), (.str []), (.str [])] [(0, 2), (2, 2)])) [(.t 5), (.t 6)], iR 8 (.p (.build [(.int .i64 (.ofNat 0)), .nils, .nils] [(0, 1), (1, 1)])) [(.c (.int .i64 (.ofNat 204))), (.t 7)], iR 1 (.e (.alloc [(.int .i64 (.ofNat 0)), .nils, .nils])) [], ⟨none, none, (.e (.store 3)), [(.t 1), (.t 8)], none⟩])
    (.keep [1] (.seq (.draw [iR 10 (.call 32) [(.c (.str (bs [104, 116, 116, 112, 115, 58, 47, 47, 97])))], ⟨(some 11), none, (.l (.load (some 3))), [(.t 1)], some (0, 2)⟩, iR 12 (.call 34) [(.t 10), (.c (.bool false)), (.c (.str (bs [80, 85, 84]))), (.c .nils), (.t 11)], iR 9 (.p .mv) [(.t 12)], iR 13 (.p (.extract 0)) [(.t 9)], iR 14 (.p (.extract 1)) [(.t 9)], iR 2 (.e (.alloc [.nils, .nils, (.bool false), (.int .i64 (.ofNat 0))])) [], ⟨none, none, (.e (.store 4)), [(.t 2), (.t 13)], none⟩, iR 3 (.p .mv) [(.t 14)]]) (.keep [2, 3] (.seq (.reg [iR 15 (.call 36) [], iR 4 (.p .mv) [(.t 15)]]) (.keep [2, 3, 4] (.seq (.seq (.reg [iR 16 (.p .mv) [(.t 3)], iR 17 (.p (.un .not)) [(.t 16)], iR 18 (.p .mv) [(.t 17)], iG 19 18 false (.p .mv) [(.t 4)], iG 20 18 false (.l (.peq false)) [(.t 19), (.c .nilp)], iR 21 (.p .pick) [(.t 18), (.c (.bool true)), (.t 20)], iR 22 (.p .mv) [(.t 21)],
    iG 23 22 false (.l (.load (some 4))) [(.t 2)], iG 24 22 false (.e (.buildSlice 1 1 [(.str [])] [(0, 1)])) [(.c (.str (bs [80, 85, 84])))], iG 25 22 false (.p (.build [.nils, .nils, (.bool false), (.int .i64 (.ofNat 0))] [(0, 1), (3, 1)])) [(.t 24), (.c (.int .i64 (.ofNat 5)))], iG 26 22 false (.call 38) [(.t 23), (.t 25)], iG 27 22 false (.p (.un .not)) [(.t 26)], iR 28 (.p .pick) [(.t 22), (.c (.bool true)), (.t 27)]]) (.keep [2, 4, 28] (.cond (.t 28) (.seq (.reg [iR 0 (.p .mv) [(.c (.bool false))]]) (.keep [0] (.keep [0] .ret))) .skip))) (.keep [2, 4] (.seq (.reg [iR 29 (.p .mv) [(.t 4)], iR 30 (.l (.load (some 4))) [(.t 2)], iR 31 (.call 37) [(.t 29), (.c (.str (bs [115]))), (.c (.str (bs [117]))), (.c (.bool false)), (.t 30), (.c (.int .i64 (.ofNat 10)))]]) (.keep [4] (.seq (.reg [iR 32 (.p .mv) [(.t 4)],
    iR 33 (.call 39) [(.t 32), (.c (.str (bs [115]))), (.c (.str (bs [117]))), (.c (.bool false)), (.c (.str (bs [80, 85, 84]))), (.c .nils), (.c (.int .i64 (.ofNat 14)))], iR 34 (.p .mv) [(.t 33)], iG 35 34 true (.p .mv) [(.t 4)], iG 36 34 true (.call 39) [(.t 35), (.c (.str (bs [115]))), (.c (.str (bs [117]))), (.c (.bool false)), (.c (.str (bs [80, 85, 84]))), (.c .nils), (.c (.int .i64 (.ofNat 15)))], iG 37 34 true (.p (.un .not)) [(.t 36)], iR 38 (.p .pick) [(.t 34), (.t 37), (.c (.bool false))], iR 0 (.p .mv) [(.t 38)]]) (.keep [0] (.keep [0] .ret))))))))))))))), [(.t 0)]⟩
def s_law19_known (call : CallK) (N : Nat) (H : Heap) (τ : Tape) (q : KV) : Ans := call f_law19_h [(.str (bs [97, 99, 99, 101, 115, 115, 45, 99, 111, 110, 116, 114, 111, 108, 45, 97, 108, 108, 111, 119, 45, 111, 114, 105, 103, 105, 110])), (.str (bs [42]))] H τ fun v0 H1 τ2 => call f_law19_h [(.str (bs [97, 99, 99, 101, 115, 115, 45, 99, 111, 110, 116, 114, 111, 108, 45, 97, 108, 108, 111, 119, 45, 109, 101, 116, 104, 111, 100, 115])), (.str (bs [80, 85, 84]))] H1 τ2 fun v3 H4 τ5 => effK (eBuildSlice 2 2 [(.str []), (.str []), (.str []), (.str [])] [(0, 2), (2, 2)] [v0, v3] H4 τ5) fun v6 H7 τ8 => someK (pBuild [(.int .i64 (.ofNat 0)), .nils, .nils] [(0, 1), (1, 1)] [(.int .i64 (.ofNat 204)), v6]) fun v9 => effK (eAlloc [(.int .i64 (.ofNat 0)), .nils, .nils] [] H7 τ8) fun v10 H11 τ12 => effK (eStore 3 [v10, v9] H11 τ12) fun v13 H14 τ15 =>
    call f_law19_of [(.str (bs [104, 116, 116, 112, 115, 58, 47, 47, 97]))] H14 τ15 fun v16 H17 τ18 => someK (lLoadN 3 [v10] H17) fun v19 => call f_preflight_Read [v16, (.bool false), (.str (bs [80, 85, 84])), .nils, v19] H17 τ18 fun v20 H21 τ22 => someK (pExtract 0 [v20]) fun v23 => someK (pExtract 1 [v20]) fun v24 => effK (eAlloc [.nils, .nils, (.bool false), (.int .i64 (.ofNat 0))] [] H21 τ22) fun v25 H26 τ27 => effK (eStore 4 [v25, v23] H26 τ27) fun v28 H29 τ30 => bif chkLoads [H14, H17, H21, H26, H29] (((.load (some 3)), [v10], 0, 2) :: []) then call f_preflight_New [] H29 τ30 fun v31 H32 τ33 => unK .not v24 fun v34 => gK v34 false (fun q' => q' v31 H32 τ33) H32 τ33 fun v35 H36 τ37 => gK v34 false (fun q' => someK (lPeq false [v35, .nilp] H36) fun v => q' v H36 τ37) H36 τ37 fun v38 H39 τ40 => someK (pPick [v34, (.bool true), v38]) fun v41 =>
    gK v41 false (fun q' => someK (lLoadN 4 [v25] H39) fun v => q' v H39 τ40) H39 τ40 fun v42 H43 τ44 => gK v41 false (fun q' => effK (eBuildSlice 1 1 [(.str [])] [(0, 1)] [(.str (bs [80, 85, 84]))] H43 τ44) q') H43 τ44 fun v45 H46 τ47 => gK v41 false (fun q' => someK (pBuild [.nils, .nils, (.bool false), (.int .i64 (.ofNat 0))] [(0, 1), (3, 1)] [v45, (.int .i64 (.ofNat 5))]) fun v => q' v H46 τ47) H46 τ47 fun v48 H49 τ50 => gK v41 false (fun q' => call f_law19_same [v42, v48] H49 τ50 q') H49 τ50 fun v51 H52 τ53 => gK v41 false (fun q' => unK .not v51 fun v => q' v H52 τ53) H52 τ53 fun v54 H55 τ56 => someK (pPick [v41, (.bool true), v54]) fun v57 => condK v57 (q (.bool false) H55 τ56) (someK (lLoadN 4 [v25] H55) fun v58 => call f_preflight_Table_Put [v31, (.str (bs [115])), (.str (bs [117])), (.bool false), v58, (.int .i64 (.ofNat 10))] H55 τ56 fun v59 H60 τ61 =>
    call f_preflight_Table_Allows [v31, (.str (bs [115])), (.str (bs [117])), (.bool false), (.str (bs [80, 85, 84])), .nils, (.int .i64 (.ofNat 14))] H60 τ61 fun v62 H63 τ64 => gK v62 true (fun q' => q' v31 H63 τ64) H63 τ64 fun v65 H66 τ67 => gK v62 true (fun q' => call f_preflight_Table_Allows [v65, (.str (bs [115])), (.str (bs [117])), (.bool false), (.str (bs [80, 85, 84])), .nils, (.int .i64 (.ofNat 15))] H66 τ67 q') H66 τ67 fun v68 H69 τ70 => gK v62 true (fun q' => unK .not v68 fun v => q' v H69 τ70) H69 τ70 fun v71 H72 τ73 => someK (pPick [v62, v71, (.bool false)]) fun v74 => q v74 H72 τ73) else none
theorem s_law19_known_eq (call : CallK) (N : Nat) (H : Heap) (τ : Tape) (q : KV) : s_law19_known call N  H τ q = funK call N fn_law19_known [] H τ q := by kernel_rfl
def e_law19_known (call : CallK) (N : Nat) (vs : List V) (H : Heap) (τ : Tape) (q : KV) : Ans := match vs with | [] => s_law19_known call N  H τ q | _ => none
theorem e_law19_known_ok : EntOk fn_law19_known e_law19_known := by
  intro call N vs H τ q r h
  unfold e_law19_known at h
  split at h
  · rw [s_law19_known_eq] at h; exact h
  · cases h
theorem e_law19_known_nat : EntNat e_law19_known := by
  intro c hn N vs H τ q
  unfold e_law19_known
  split
  · rw [s_law19_known_eq, s_law19_known_eq]; exact funK_ent hn _ _ _ _ _ _
  · rfl
/-- ostiary/cors.Check -/
def fn_cors_Check : Fun := ⟨3, (.seq (.reg [iR 3 (.e .box) [(.t 0)], iR 6 (.p .mv) [(.c (.bool false))]]) (.keep [1, 2, 3] (.seq (.reg [iR 10 (.p .mv) [(.t 2)], iR 11 (.call 60) [(.t 10), (.c (.str (bs [97, 99, 99, 101, 115, 115, 45, 99, 111, 110, 116, 114, 111, 108, 45, 97, 108, 108, 111, 119, 45, 111, 114, 105, 103, 105, 110])))], iR 9 (.p .mv) [(.t 11)], iR 12 (.p (.extract 0)) [(.t 9)], iR 13 (.p (.extract 1)) [(.t 9)], iR 7 (.p .mv) [(.t 12)], iR 8 (.p .mv) [(.t 13)]]) (.keep [1, 2, 3, 7, 8] (.seq (.block 0 (.seq (.reg [iR 15 (.p .mv) [(.t 8)], iR 16 (.p (.un .not)) [(.t 15)], iR 14 (.p .mv) [(.t 16)]]) (.keep [1, 2, 3, 7, 14] (.cond (.t 14) (.seq (.reg [iR 6 (.p .mv) [(.c (.bool false))]]) (.keep [6] (.keep [6] .ret))) (.seq (.reg [iR 18 (.p .mv) [(.t 7)], iR 19 (.p (.bin .eql)) [(.t 18), (.c (.str (bs [42])))], iR 20 (.p .mv) [(.t 19)], iG 21 20 true (.p .mv) [(.t 1)],
    iG 22 20 true (.p (.un .not)) [(.t 21)], iR 23 (.p .pick) [(.t 20), (.t 22), (.c (.bool false))], iR 17 (.p .mv) [(.t 23)]]) (.keep [1, 2, 3, 7, 17] (.cond (.t 17) (.seq (.reg [iR 6 (.p .mv) [(.c (.bool true))]]) (.keep [6] (.keep [6] .ret))) (.seq (.reg [iR 25 (.p .mv) [(.t 7)], iR 26 (.l (.load (some 4))) [(.t 3)], iR 27 (.call 72) [(.t 26)], iR 28 (.p (.bin .neq)) [(.t 25), (.t 27)], iR 24 (.p .mv) [(.t 28)]]) (.keep [1, 2, 24] (.cond (.t 24) (.seq (.reg [iR 6 (.p .mv) [(.c (.bool false))]]) (.keep [6] (.keep [6] .ret))) .skip)))))))))) (.keep [1, 2] (.seq (.reg [iR 30 (.p .mv) [(.t 2)], iR 31 (.call 60) [(.t 30), (.c (.str (bs [97, 99, 99, 101, 115, 115, 45, 99, 111, 110, 116, 114, 111, 108, 45, 97, 108, 108, 111, 119, 45, 99, 114, 101, 100, 101, 110, 116, 105, 97, 108, 115])))], iR 29 (.p .mv) [(.t 31)], iR 32 (.p (.extract 0)) [(.t 29)], iR 33 (.p (.extract 1)) [(.t 29)],
    iR 7 (.p .mv) [(.t 32)]]) (.keep [1, 7] (.seq (.reg [iR 34 (.p .mv) [(.t 1)], iR 35 (.p (.un .not)) [(.t 34)], iR 36 (.p .mv) [(.t 35)], iG 37 36 false (.p .mv) [(.t 7)], iG 38 36 false (.p (.bin .eql)) [(.t 37), (.c (.str (bs [116, 114, 117, 101])))], iR 39 (.p .pick) [(.t 36), (.c (.bool true)), (.t 38)], iR 6 (.p .mv) [(.t 39)]]) (.keep [6] (.keep [6] .ret))))))))))), [(.t 6)]⟩
def s_cors_Check (call : CallK) (N : Nat) (a0 a1 a2 : V) (H : Heap) (τ : Tape) (q : KV) : Ans := effK (eBox [a0] H τ) fun v0 H1 τ2 => call f_headers_Get [a2, (.str (bs [97, 99, 99, 101, 115, 115, 45, 99, 111, 110, 116, 114, 111, 108, 45, 97, 108, 108, 111, 119, 45, 111, 114, 105, 103, 105, 110]))] H1 τ2 fun v3 H4 τ5 => someK (pExtract 0 [v3]) fun v6 => someK (pExtract 1 [v3]) fun v7 => unK .not v7 fun v8 => condK v8 (q (.bool false) H4 τ5) (binK .eql v6 (.str (bs [42])) fun v9 => gK v9 true (fun q' => q' a1 H4 τ5) H4 τ5 fun v10 H11 τ12 => gK v9 true (fun q' => unK .not v10 fun v => q' v H11 τ12) H11 τ12 fun v13 H14 τ15 => someK (pPick [v9, v13, (.bool false)]) fun v16 => condK v16 (q (.bool true) H14 τ15) (someK (lLoadN 4 [v0] H14) fun v17 => call f_origin_Text [v17] H14 τ15 fun v18 H19 τ20 => binK .neq v6 v18 fun v21 => condK v21 (q (.bool false) H19 τ20)
    (call f_headers_Get [a2, (.str (bs [97, 99, 99, 101, 115, 115, 45, 99, 111, 110, 116, 114, 111, 108, 45, 97, 108, 108, 111, 119, 45, 99, 114, 101, 100, 101, 110, 116, 105, 97, 108, 115]))] H19 τ20 fun v22 H23 τ24 => someK (pExtract 0 [v22]) fun v25 => someK (pExtract 1 [v22]) fun v26 => unK .not a1 fun v27 => gK v27 false (fun q' => q' v25 H23 τ24) H23 τ24 fun v28 H29 τ30 => gK v27 false (fun q' => binK .eql v28 (.str (bs [116, 114, 117, 101])) fun v => q' v H29 τ30) H29 τ30 fun v31 H32 τ33 => someK (pPick [v27, (.bool true), v31]) fun v34 => q v34 H32 τ33)))
theorem s_cors_Check_eq (call : CallK) (N : Nat) (a0 a1 a2 : V) (H : Heap) (τ : Tape) (q : KV) : s_cors_Check call N a0 a1 a2 H τ q = funK call N fn_cors_Check [a0, a1, a2] H τ q := by kernel_rfl
def e_cors_Check (call : CallK) (N : Nat) (vs : List V) (H : Heap) (τ : Tape) (q : KV) : Ans := match vs with | [a0, a1, a2] => s_cors_Check call N a0 a1 a2 H τ q | _ => none
theorem e_cors_Check_ok : EntOk fn_cors_Check e_cors_Check := by
  intro call N vs H τ q r h
  unfold e_cors_Check at h
  split at h
  · rw [s_cors_Check_eq] at h; exact h
  · cases h
theorem e_cors_Check_nat : EntNat e_cors_Check := by
  intro c hn N vs H τ q
  unfold e_cors_Check
  split
  · rw [s_cors_Check_eq, s_cors_Check_eq]; exact funK_ent hn _ _ _ _ _ _
  · rfl
/-- ostiary/ostiarybook.Same[string] -/
def fn_book_Same_string : Fun := ⟨2, (.seq (.reg [iR 4 (.p .mv) [(.c (.bool false))]]) (.keep [0, 1] (.seq (.seq (.reg [iR 6 (.p .mv) [(.t 0)], iR 7 (.p .len) [(.t 6)], iR 8 (.p .mv) [(.t 1)], iR 9 (.p .len) [(.t 8)], iR 10 (.p (.bin .neq)) [(.t 7), (.t 9)]]) (.keep [0, 1, 10] (.cond (.t 10) (.seq (.reg [iR 4 (.p .mv) [(.c (.bool false))]]) (.keep [4] (.keep [4] .ret))) .skip))) (.keep [0, 1] (.seq (.seq (.reg [iR 5 (.p .mv) [(.c (.int .i64 (.ofNat 0)))]]) (.keep [0, 1, 5] (.block 0 (.loop (.keep [0, 1, 5] (.seq (.seq (.reg [iR 11 (.p .mv) [(.t 5)], iR 12 (.p .mv) [(.t 0)], iR 13 (.p .len) [(.t 12)], iR 14 (.p (.bin .lss)) [(.t 11), (.t 13)]]) (.keep [0, 1, 5, 14] (.cond (.t 14) .skip (.keep [] (.exit 0))))) (.keep [0, 1, 5] (.seq (.block 1 (.seq (.draw [iR 17 (.p .mv) [(.t 0)], iR 18 (.p .mv) [(.t 5)], iR 19 (.p (.slIdx 1)) [(.t 17), (.t 18)], iR 20 (.l (.load none)) [(.t 19)],
    iR 21 (.p .mv) [(.t 1)], iR 22 (.p .mv) [(.t 5)], iR 23 (.p (.slIdx 1)) [(.t 21), (.t 22)], iR 24 (.l (.load none)) [(.t 23)], iR 25 (.p (.bin .neq)) [(.t 20), (.t 24)]]) (.keep [0, 1, 5, 25] (.cond (.t 25) (.seq (.reg [iR 4 (.p .mv) [(.c (.bool false))]]) (.keep [4] (.keep [4] .ret))) .skip)))) (.keep [0, 1, 5] (.reg [iR 15 (.p .mv) [(.t 5)], iR 16 (.p (.bin .add)) [(.t 15), (.c (.int .i64 (.ofNat 1)))], iR 5 (.p .mv) [(.t 16)]])))))))))) (.keep [] (.seq (.reg [iR 4 (.p .mv) [(.c (.bool true))]]) (.keep [4] (.keep [4] .ret))))))))), [(.t 4)]⟩
def s_book_Same_string_j0 (call : CallK) (N : Nat) (q : KV) (st : St) (τ : Tape) : Ans := match st with
  | ⟨fr, H⟩ => q (.bool true) H τ
def s_book_Same_string_l1 (call : CallK) (N : Nat) (st : St) (τ : Tape) (k : KC) : Ans := match st with
  | ⟨fr, H⟩ => getK fr 0 fun t0 => getK fr 1 fun t1 => getK fr 5 fun t5 => someK (pLen [t0]) fun v3 => binK .lss t5 v3 fun v4 => condK v4 (someK (pSlIdx 1 [t0, t5]) fun v5 => someK (lLoad1 [v5] H) fun v6 => someK (pSlIdx 1 [t1, t5]) fun v7 => someK (lLoad1 [v7] H) fun v8 => binK .neq v6 v8 fun v9 => condK v9 (k .ret ⟨(T.set .leaf 4 (.bool false)), H⟩ τ) (binK .add t5 (.int .i64 (.ofNat 1)) fun v10 => k .normal ⟨(T.set (T.set (T.set (T.set (T.set (T.set .leaf 0 t0) 1 t1) 5 t5) 15 t5) 16 v10) 5 v10), H⟩ τ)) (k (.exit 0) ⟨.leaf, H⟩ τ)
def s_book_Same_string (call : CallK) (N : Nat) (a0 a1 : V) (H : Heap) (τ : Tape) (q : KV) : Ans := someK (pLen [a0]) fun v0 => someK (pLen [a1]) fun v1 => binK .neq v0 v1 fun v2 => condK v2 (q (.bool false) H τ) (loopK (s_book_Same_string_l1 call N) N ⟨(T.set (T.set (T.set .leaf 0 a0) 1 a1) 5 (.int .i64 (.ofNat 0))), H⟩ τ (blockK 0 (seqK (s_book_Same_string_j0 call N q) (endK [(.t 4)] q))))
theorem s_book_Same_string_eq (call : CallK) (N : Nat) (a0 a1 : V) (H : Heap) (τ : Tape) (q : KV) : s_book_Same_string call N a0 a1 H τ q = funK call N fn_book_Same_string [a0, a1] H τ q := by kernel_rfl
def e_book_Same_string (call : CallK) (N : Nat) (vs : List V) (H : Heap) (τ : Tape) (q : KV) : Ans := match vs with | [a0, a1] => s_book_Same_string call N a0 a1 H τ q | _ => none
theorem e_book_Same_string_ok : EntOk fn_book_Same_string e_book_Same_string := by
  intro call N vs H τ q r h
  unfold e_book_Same_string at h
  split at h
  · rw [s_book_Same_string_eq] at h; exact h
  · cases h
theorem e_book_Same_string_nat : EntNat e_book_Same_string := by
  intro c hn N vs H τ q
  unfold e_book_Same_string
  split
  · rw [s_book_Same_string_eq, s_book_Same_string_eq]; exact funK_ent hn _ _ _ _ _ _
  · rfl
/-- ostiary/cors.Simple -/
def fn_cors_Simple : Fun := ⟨1, (.seq (.reg [iR 2 (.p .mv) [(.c (.bool false))]]) (.keep [0] (.seq (.reg [iR 3 (.p .mv) [(.t 0)], iR 4 (.p (.bin .eql)) [(.t 3), (.c (.str (bs [71, 69, 84])))], iR 5 (.p .mv) [(.t 4)], iG 6 5 false (.p .mv) [(.t 0)], iG 7 5 false (.p (.bin .eql)) [(.t 6), (.c (.str (bs [72, 69, 65, 68])))], iR 8 (.p .pick) [(.t 5), (.c (.bool true)), (.t 7)], iR 9 (.p .mv) [(.t 8)], iG 10 9 false (.p .mv) [(.t 0)], iG 11 9 false (.p (.bin .eql)) [(.t 10), (.c (.str (bs [80, 79, 83, 84])))], iR 12 (.p .pick) [(.t 9), (.c (.bool true)), (.t 11)], iR 2 (.p .mv) [(.t 12)]]) (.keep [2] (.keep [2] .ret))))), [(.t 2)]⟩
def s_cors_Simple (call : CallK) (N : Nat) (a0 : V) (H : Heap) (τ : Tape) (q : KV) : Ans := binK .eql a0 (.str (bs [71, 69, 84])) fun v0 => gK v0 false (fun q' => q' a0 H τ) H τ fun v1 H2 τ3 => gK v0 false (fun q' => binK .eql v1 (.str (bs [72, 69, 65, 68])) fun v => q' v H2 τ3) H2 τ3 fun v4 H5 τ6 => someK (pPick [v0, (.bool true), v4]) fun v7 => gK v7 false (fun q' => q' a0 H5 τ6) H5 τ6 fun v8 H9 τ10 => gK v7 false (fun q' => binK .eql v8 (.str (bs [80, 79, 83, 84])) fun v => q' v H9 τ10) H9 τ10 fun v11 H12 τ13 => someK (pPick [v7, (.bool true), v11]) fun v14 => q v14 H12 τ13
theorem s_cors_Simple_eq (call : CallK) (N : Nat) (a0 : V) (H : Heap) (τ : Tape) (q : KV) : s_cors_Simple call N a0 H τ q = funK call N fn_cors_Simple [a0] H τ q := by kernel_rfl
def e_cors_Simple (call : CallK) (N : Nat) (vs : List V) (H : Heap) (τ : Tape) (q : KV) : Ans := match vs with | [a0] => s_cors_Simple call N a0 H τ q | _ => none
theorem e_cors_Simple_ok : EntOk fn_cors_Simple e_cors_Simple := by
  intro call N vs H τ q r h
  unfold e_cors_Simple at h
  split at h
  · rw [s_cors_Simple_eq] at h; exact h
  · cases h
theorem e_cors_Simple_nat : EntNat e_cors_Simple := by
  intro c hn N vs H τ q
  unfold e_cors_Simple
  split
  · rw [s_cors_Simple_eq, s_cors_Simple_eq]; exact funK_ent hn _ _ _ _ _ _
  · rfl
/-- ostiary/headers.Get -/
def fn_headers_Get : Fun := ⟨2, (.seq (.reg [iR 4 (.p .mv) [(.c (.str []))], iR 5 (.p .mv) [(.c (.bool false))]]) (.keep [0, 1] (.seq (.reg [iR 6 (.p .mv) [(.c .nils)]]) (.keep [0, 1, 6] (.seq (.seq (.reg [iR 9 (.p .mv) [(.t 0)], iR 10 (.p .len) [(.t 9)], iR 11 (.p .mv) [(.c (.int .i64 (.ofNat 0)))]]) (.keep [1, 6, 9, 10, 11] (.block 0 (.loop (.keep [1, 6, 9, 10, 11] (.seq (.reg [iR 12 (.p (.bin .lss)) [(.t 11), (.t 10)]]) (.keep [1, 6, 9, 10, 11, 12] (.seq (.cond (.t 12) .skip (.keep [6] (.exit 0))) (.keep [1, 6, 9, 10, 11] (.seq (.block 1 (.seq (.reg [iR 13 (.p (.slIdx 2)) [(.t 9), (.t 11)], iR 14 (.l (.load (some 2))) [(.t 13)], iR 8 (.e (.alloc [(.str []), (.str [])])) [], ⟨none, none, (.e (.store 2)), [(.t 8), (.t 14)], none⟩]) (.keep [1, 6, 8, 9, 10, 11] (.seq (.reg [iR 15 (.l (.load (some 2))) [(.t 8)], iR 16 (.p .mv) [(.t 1)], iR 17 (.call 111) [(.t 15), (.t 16)]])
    (.keep [1, 6, 8, 9, 10, 11, 17] (.cond (.t 17) (.reg [iR 18 (.p .mv) [(.t 6)], iR 19 (.p (.fieldAddr 1)) [(.t 8)], iR 20 (.l (.load none)) [(.t 19)], iR 21 (.e (.buildSlice 1 1 [(.str [])] [(0, 1)])) [(.t 20)], iR 22 (.e (.append 1 16)) [(.t 18), (.t 21)], iR 6 (.p .mv) [(.t 22)]]) .skip)))))) (.keep [1, 6, 9, 10, 11] (.reg [iR 23 (.p (.bin .add)) [(.t 11), (.c (.int .i64 (.ofNat 1)))], iR 11 (.p .mv) [(.t 23)]])))))))))))) (.keep [6] (.seq (.reg [iR 24 (.p .mv) [(.t 6)], iR 25 (.call 92) [(.t 24), (.c (.str (bs [44, 32])))], iR 26 (.p .mv) [(.t 6)], iR 27 (.p .len) [(.t 26)], iR 28 (.p (.bin .gtr)) [(.t 27), (.c (.int .i64 (.ofNat 0)))], iR 4 (.p .mv) [(.t 25)], iR 5 (.p .mv) [(.t 28)]]) (.keep [4, 5] (.keep [4, 5] .ret))))))))), [(.t 4), (.t 5)]⟩
def s_headers_Get_j0 (call : CallK) (N : Nat) (q : KV) (st : St) (τ : Tape) : Ans := match st with
  | ⟨fr, H⟩ => getK fr 6 fun t6 => call f_strings_Join [t6, (.str (bs [44, 32]))] H τ fun v1 H2 τ3 => someK (pLen [t6]) fun v4 => binK .gtr v4 (.int .i64 (.ofNat 0)) fun v5 => q (.tup [v1, v5]) H2 τ3
def s_headers_Get_j2 (call : CallK) (N : Nat) (k : KC) (st : St) (τ : Tape) : Ans := match st with
  | ⟨fr, H⟩ => getK fr 1 fun t1 => getK fr 6 fun t6 => getK fr 9 fun t9 => getK fr 10 fun t10 => getK fr 11 fun t11 => binK .add t11 (.int .i64 (.ofNat 1)) fun v7 => k .normal ⟨(T.set (T.set (T.set (T.set (T.set (T.set (T.set .leaf 1 t1) 6 t6) 9 t9) 10 t10) 11 t11) 23 v7) 11 v7), H⟩ τ
def s_headers_Get_l1 (call : CallK) (N : Nat) (st : St) (τ : Tape) (k : KC) : Ans := match st with
  | ⟨fr, H⟩ => getK fr 1 fun t1 => getK fr 6 fun t6 => getK fr 9 fun t9 => getK fr 10 fun t10 => getK fr 11 fun t11 => binK .lss t11 t10 fun v6 => condK v6 (someK (pSlIdx 2 [t9, t11]) fun v8 => someK (lLoadN 2 [v8] H) fun v9 => effK (eAlloc [(.str []), (.str [])] [] H τ) fun v10 H11 τ12 => effK (eStore 2 [v10, v9] H11 τ12) fun v13 H14 τ15 => someK (lLoadN 2 [v10] H14) fun v16 => call f_headers_is [v16, t1] H14 τ15 fun v17 H18 τ19 => condK v17 (someK (pFieldAddr 1 [v10]) fun v20 => someK (lLoad1 [v20] H18) fun v21 => effK (eBuildSlice 1 1 [(.str [])] [(0, 1)] [v21] H18 τ19) fun v22 H23 τ24 => effK (eAppend 1 16 [t6, v22] H23 τ24) fun v25 H26 τ27 => s_headers_Get_j2 call N k ⟨(T.set (T.set (T.set (T.set (T.set (T.set (T.set (T.set (T.set (T.set (T.set (T.set (T.set .leaf 1 t1) 6 t6) 8 v10) 9 t9) 10 t10) 11 t11) 17 v17) 18 t6) 19 v20) 20 v21) 21 v22) 22 v25) 6 v25), H26⟩ τ27)
    (s_headers_Get_j2 call N k ⟨(T.set (T.set (T.set (T.set (T.set (T.set (T.set .leaf 1 t1) 6 t6) 8 v10) 9 t9) 10 t10) 11 t11) 17 v17), H18⟩ τ19)) (k (.exit 0) ⟨(T.set .leaf 6 t6), H⟩ τ)
def s_headers_Get (call : CallK) (N : Nat) (a0 a1 : V) (H : Heap) (τ : Tape) (q : KV) : Ans := someK (pLen [a0]) fun v0 => loopK (s_headers_Get_l1 call N) N ⟨(T.set (T.set (T.set (T.set (T.set .leaf 1 a1) 6 .nils) 9 a0) 10 v0) 11 (.int .i64 (.ofNat 0))), H⟩ τ (blockK 0 (seqK (s_headers_Get_j0 call N q) (endK [(.t 4), (.t 5)] q)))
theorem s_headers_Get_eq (call : CallK) (N : Nat) (a0 a1 : V) (H : Heap) (τ : Tape) (q : KV) : s_headers_Get call N a0 a1 H τ q = funK call N fn_headers_Get [a0, a1] H τ q := by kernel_rfl
def e_headers_Get (call : CallK) (N : Nat) (vs : List V) (H : Heap) (τ : Tape) (q : KV) : Ans := match vs with | [a0, a1] => s_headers_Get call N a0 a1 H τ q | _ => none
theorem e_headers_Get_ok : EntOk fn_headers_Get e_headers_Get := by
  intro call N vs H τ q r h
  unfold e_headers_Get at h
  split at h
  · rw [s_headers_Get_eq] at h; exact h
  · cases h
theorem e_headers_Get_nat : EntNat e_headers_Get := by
  intro c hn N vs H τ q
  unfold e_headers_Get
  split
  · rw [s_headers_Get_eq, s_headers_Get_eq]; exact funK_ent hn _ _ _ _ _ _
  · rfl
/-- ostiary/origin.Text -/
def fn_origin_Text : Fun := ⟨1, (.seq (.reg [iR 1 (.e .box) [(.t 0)], iR 2 (.p .mv) [(.c (.str []))]]) (.keep [1] (.seq (.seq (.reg [iR 4 (.p (.fieldAddr 3)) [(.t 1)], iR 5 (.l (.load none)) [(.t 4)]]) (.keep [1, 5] (.cond (.t 5) (.seq (.reg [iR 2 (.p .mv) [(.c (.str (bs [110, 117, 108, 108])))]]) (.keep [2] (.keep [2] .ret))) .skip))) (.keep [1] (.seq (.reg [iR 6 (.p (.fieldAddr 0)) [(.t 1)], iR 7 (.l (.load none)) [(.t 6)], iR 8 (.p (.bin .add)) [(.t 7), (.c (.str (bs [58, 47, 47])))], iR 9 (.p (.fieldAddr 1)) [(.t 1)], iR 10 (.l (.load none)) [(.t 9)], iR 11 (.p (.bin .add)) [(.t 8), (.t 10)], iR 3 (.p .mv) [(.t 11)]]) (.keep [1, 3] (.seq (.seq (.draw [iR 12 (.p (.fieldAddr 2)) [(.t 1)], ⟨(some 13), none, (.l (.load none)), [(.t 12)], some (0, 1)⟩, iR 14 (.p (.fieldAddr 0)) [(.t 1)], iR 15 (.l (.load none)) [(.t 14)], iR 16 (.call 126) [(.t 15)],
    iR 17 (.p (.bin .neq)) [(.t 13), (.t 16)]]) (.keep [1, 3, 17] (.cond (.t 17) (.reg [iR 18 (.p .mv) [(.t 3)], iR 19 (.p (.fieldAddr 2)) [(.t 1)], iR 20 (.l (.load none)) [(.t 19)], iR 21 (.call 73) [(.t 20)], iR 22 (.p (.bin .add)) [(.c (.str (bs [58]))), (.t 21)], iR 23 (.p (.bin .add)) [(.t 18), (.t 22)], iR 3 (.p .mv) [(.t 23)]]) .skip))) (.keep [3] (.seq (.reg [iR 24 (.p .mv) [(.t 3)], iR 2 (.p .mv) [(.t 24)]]) (.keep [2] (.keep [2] .ret))))))))))), [(.t 2)]⟩
def s_origin_Text_j0 (call : CallK) (N : Nat) (q : KV) (st : St) (τ : Tape) : Ans := match st with
  | ⟨fr, H⟩ => getK fr 3 fun t3 => q t3 H τ
def s_origin_Text (call : CallK) (N : Nat) (a0 : V) (H : Heap) (τ : Tape) (q : KV) : Ans := effK (eBox [a0] H τ) fun v0 H1 τ2 => someK (pFieldAddr 3 [v0]) fun v3 => someK (lLoad1 [v3] H1) fun v4 => condK v4 (q (.str (bs [110, 117, 108, 108])) H1 τ2) (someK (pFieldAddr 0 [v0]) fun v5 => someK (lLoad1 [v5] H1) fun v6 => binK .add v6 (.str (bs [58, 47, 47])) fun v7 => someK (pFieldAddr 1 [v0]) fun v8 => someK (lLoad1 [v8] H1) fun v9 => binK .add v7 v9 fun v10 => someK (pFieldAddr 2 [v0]) fun v11 => someK (lLoad1 [v11] H1) fun v12 => someK (pFieldAddr 0 [v0]) fun v13 => someK (lLoad1 [v13] H1) fun v14 => call f_url_Own [v14] H1 τ2 fun v15 H16 τ17 => binK .neq v12 v15 fun v18 => bif chkLoads [H1, H16] (((.load none), [v11], 0, 1) :: []) then condK v18 (someK (pFieldAddr 2 [v0]) fun v19 => someK (lLoad1 [v19] H16) fun v20 => call f_strconv_Itoa [v20] H16 τ17 fun v21 H22 τ23 =>
    binK .add (.str (bs [58])) v21 fun v24 => binK .add v10 v24 fun v25 => s_origin_Text_j0 call N q ⟨(T.set (T.set (T.set (T.set (T.set (T.set (T.set (T.set (T.set (T.set .leaf 1 v0) 3 v10) 17 v18) 18 v10) 19 v19) 20 v20) 21 v21) 22 v24) 23 v25) 3 v25), H22⟩ τ23) (s_origin_Text_j0 call N q ⟨(T.set (T.set (T.set .leaf 1 v0) 3 v10) 17 v18), H16⟩ τ17) else none)
theorem s_origin_Text_eq (call : CallK) (N : Nat) (a0 : V) (H : Heap) (τ : Tape) (q : KV) : s_origin_Text call N a0 H τ q = funK call N fn_origin_Text [a0] H τ q := by kernel_rfl
def e_origin_Text (call : CallK) (N : Nat) (vs : List V) (H : Heap) (τ : Tape) (q : KV) : Ans := match vs with | [a0] => s_origin_Text call N a0 H τ q | _ => none
theorem e_origin_Text_ok : EntOk fn_origin_Text e_origin_Text := by
  intro call N vs H τ q r h
  unfold e_origin_Text at h
  split at h
  · rw [s_origin_Text_eq] at h; exact h
  · cases h
theorem e_origin_Text_nat : EntNat e_origin_Text := by
  intro c hn N vs H τ q
  unfold e_origin_Text
  split
  · rw [s_origin_Text_eq, s_origin_Text_eq]; exact funK_ent hn _ _ _ _ _ _
  · rfl
/-- strconv.Itoa -/
def fn_strconv_Itoa : Fun := ⟨1, (.seq (.reg [iR 2 (.p .mv) [(.c (.str []))]]) (.keep [0] (.seq (.reg [iR 3 (.p .mv) [(.t 0)], iR 4 (.call 127) [(.t 3)], iR 2 (.p .mv) [(.t 4)]]) (.keep [2] (.keep [2] .ret))))), [(.t 2)]⟩
def s_strconv_Itoa (call : CallK) (N : Nat) (a0 : V) (H : Heap) (τ : Tape) (q : KV) : Ans := call f_strconv_Itoa_n127 [a0] H τ fun v0 H1 τ2 => q v0 H1 τ2
theorem s_strconv_Itoa_eq (call : CallK) (N : Nat) (a0 : V) (H : Heap) (τ : Tape) (q : KV) : s_strconv_Itoa call N a0 H τ q = funK call N fn_strconv_Itoa [a0] H τ q := by kernel_rfl
def e_strconv_Itoa (call : CallK) (N : Nat) (vs : List V) (H : Heap) (τ : Tape) (q : KV) : Ans := match vs with | [a0] => s_strconv_Itoa call N a0 H τ q | _ => none
theorem e_strconv_Itoa_ok : EntOk fn_strconv_Itoa e_strconv_Itoa := by
  intro call N vs H τ q r h
  unfold e_strconv_Itoa at h
  split at h
  · rw [s_strconv_Itoa_eq] at h; exact h
  · cases h
theorem e_strconv_Itoa_nat : EntNat e_strconv_Itoa := by
  intro c hn N vs H τ q
  unfold e_strconv_Itoa
  split
  · rw [s_strconv_Itoa_eq, s_strconv_Itoa_eq]; exact funK_ent hn _ _ _ _ _ _
  · rfl
/-- ostiary/ostiarykeep.URL -/
def fn_keep_URL : Fun := ⟨1, (.seq (.reg [iR 2 (.e (.alloc [(.str []), (.str []), (.str []), (.str []), (.bool false), (.int .i64 (.ofNat 0)), (.bool false), .nils, (.str []), (.str []), (.bool false), (.bool false)])) [], iR 3 (.p .mv) [(.c (.bool false))]]) (.keep [0, 2] (.seq (.reg [iR 7 (.p .mv) [(.t 0)], iR 8 (.call 129) [(.t 7), (.c (.int .i64 (.ofNat 300)))], iR 9 (.call 128) [(.t 8)], iR 6 (.p .mv) [(.t 9)], iR 10 (.p (.extract 0)) [(.t 6)], iR 11 (.p (.extract 1)) [(.t 6)], iR 4 (.e (.alloc [(.str []), (.str []), (.str []), (.str []), (.bool false), (.int .i64 (.ofNat 0)), (.bool false), .nils, (.str []), (.str []), (.bool false), (.bool false)])) [], ⟨none, none, (.e (.store 12)), [(.t 4), (.t 10)], none⟩, iR 5 (.p .mv) [(.t 11)]]) (.keep [2, 4, 5] (.seq (.reg [iR 12 (.l (.load (some 12))) [(.t 4)], iR 13 (.p .mv) [(.t 5)],
    iR 14 (.p (.bin .eql)) [(.t 13), (.c (.int .i64 (.ofNat 0)))], ⟨none, none, (.e (.store 12)), [(.t 2), (.t 12)], none⟩, iR 3 (.p .mv) [(.t 14)]]) (.keep [2, 3] (.keep [2, 3] .ret))))))), [(.cell 2 (some 12)), (.t 3)]⟩
def s_keep_URL (call : CallK) (N : Nat) (a0 : V) (H : Heap) (τ : Tape) (q : KV) : Ans := effK (eAlloc [(.str []), (.str []), (.str []), (.str []), (.bool false), (.int .i64 (.ofNat 0)), (.bool false), .nils, (.str []), (.str []), (.bool false), (.bool false)] [] H τ) fun v0 H1 τ2 => call f_keep_Few [a0, (.int .i64 (.ofNat 300))] H1 τ2 fun v3 H4 τ5 => call f_ref3_Parse [v3] H4 τ5 fun v6 H7 τ8 => someK (pExtract 0 [v6]) fun v9 => someK (pExtract 1 [v6]) fun v10 => effK (eAlloc [(.str []), (.str []), (.str []), (.str []), (.bool false), (.int .i64 (.ofNat 0)), (.bool false), .nils, (.str []), (.str []), (.bool false), (.bool false)] [] H7 τ8) fun v11 H12 τ13 => effK (eStore 12 [v11, v9] H12 τ13) fun v14 H15 τ16 => someK (lLoadN 12 [v11] H15) fun v17 => binK .eql v10 (.int .i64 (.ofNat 0)) fun v18 => effK (eStore 12 [v0, v17] H15 τ16) fun v19 H20 τ21 =>
    someK (results ⟨(T.set (T.set .leaf 2 v0) 3 v18), H20⟩ [(.cell 2 (some 12)), (.t 3)]) fun v => q v H20 τ21
theorem s_keep_URL_eq (call : CallK) (N : Nat) (a0 : V) (H : Heap) (τ : Tape) (q : KV) : s_keep_URL call N a0 H τ q = funK call N fn_keep_URL [a0] H τ q := by kernel_rfl
def e_keep_URL (call : CallK) (N : Nat) (vs : List V) (H : Heap) (τ : Tape) (q : KV) : Ans := match vs with | [a0] => s_keep_URL call N a0 H τ q | _ => none
theorem e_keep_URL_ok : EntOk fn_keep_URL e_keep_URL := by
  intro call N vs H τ q r h
  unfold e_keep_URL at h
  split at h
  · rw [s_keep_URL_eq] at h; exact h
  · cases h
theorem e_keep_URL_nat : EntNat e_keep_URL := by
  intro c hn N vs H τ q
  unfold e_keep_URL
  split
  · rw [s_keep_URL_eq, s_keep_URL_eq]; exact funK_ent hn _ _ _ _ _ _
  · rfl
/-- ostiary/ostiaryref4.Of -/
def fn_ref4_Of : Fun := ⟨1, (.seq (.reg [iR 1 (.e .box) [(.t 0)], iR 2 (.e (.alloc [(.str []), (.str []), (.int .i64 (.ofNat 0)), (.bool false)])) []]) (.keep [1, 2] (.seq (.seq (.reg [iR 5 (.p (.fieldAddr 0)) [(.t 1)], iR 6 (.l (.load none)) [(.t 5)], iR 7 (.p (.bin .eql)) [(.t 6), (.c (.str (bs [98, 108, 111, 98])))], iR 8 (.p .mv) [(.t 7)], iG 9 8 true (.p (.fieldAddr 6)) [(.t 1)], iG 10 8 true (.l (.load none)) [(.t 9)], iR 11 (.p .pick) [(.t 8), (.t 10), (.c (.bool false))], iR 12 (.p .mv) [(.t 11)], iG 13 12 true (.p (.fieldAddr 7)) [(.t 1)], iG 14 12 true (.l (.load none)) [(.t 13)], iG 15 12 true (.p .len) [(.t 14)], iG 16 12 true (.p (.bin .eql)) [(.t 15), (.c (.int .i64 (.ofNat 1)))], iR 17 (.p .pick) [(.t 12), (.t 16), (.c (.bool false))]]) (.keep [1, 2, 17] (.cond (.t 17) (.seq (.reg [iR 19 (.p (.fieldAddr 7)) [(.t 1)], iR 20 (.l (.load none)) [(.t 19)],
    iR 21 (.p (.slIdx 1)) [(.t 20), (.c (.int .i64 (.ofNat 0)))], iR 22 (.l (.load none)) [(.t 21)], iR 23 (.call 128) [(.t 22)], iR 18 (.p .mv) [(.t 23)], iR 24 (.p (.extract 0)) [(.t 18)], iR 25 (.p (.extract 1)) [(.t 18)], iR 3 (.e (.alloc [(.str []), (.str []), (.str []), (.str []), (.bool false), (.int .i64 (.ofNat 0)), (.bool false), .nils, (.str []), (.str []), (.bool false), (.bool false)])) [], ⟨none, none, (.e (.store 12)), [(.t 3), (.t 24)], none⟩, iR 4 (.p .mv) [(.t 25)]]) (.keep [1, 2, 3, 4] (.seq (.reg [iR 26 (.p .mv) [(.t 4)], iR 27 (.p (.bin .eql)) [(.t 26), (.c (.int .i64 (.ofNat 0)))], iR 28 (.p .mv) [(.t 27)], iG 29 28 true (.p (.fieldAddr 0)) [(.t 3)], iG 30 28 true (.l (.load none)) [(.t 29)], iG 31 28 true (.p (.bin .eql)) [(.t 30), (.c (.str (bs [104, 116, 116, 112])))], iG 32 28 true (.p .mv) [(.t 31)], iG 33 32 false (.p (.fieldAddr 0)) [(.t 3)],
    iG 34 32 false (.l (.load none)) [(.t 33)], iG 35 32 false (.p (.bin .eql)) [(.t 34), (.c (.str (bs [104, 116, 116, 112, 115])))], iG 36 28 true (.p .pick) [(.t 32), (.c (.bool true)), (.t 35)], iR 37 (.p .pick) [(.t 28), (.t 36), (.c (.bool false))]]) (.keep [1, 2, 3, 37] (.cond (.t 37) (.seq (.reg [iR 38 (.l (.load (some 12))) [(.t 3)], iR 39 (.call 76) [(.t 38)], ⟨none, none, (.e (.store 4)), [(.t 2), (.t 39)], none⟩]) (.keep [2] (.keep [2] .ret))) .skip))))) .skip))) (.keep [1, 2] (.seq (.seq (.reg [iR 40 (.p (.fieldAddr 0)) [(.t 1)], iR 41 (.l (.load none)) [(.t 40)], iR 42 (.call 130) [(.t 41)], iR 43 (.p (.un .not)) [(.t 42)]]) (.keep [1, 2, 43] (.cond (.t 43) (.seq (.reg [iR 44 (.p (.build [(.str []), (.str []), (.int .i64 (.ofNat 0)), (.bool false)] [(3, 1)])) [(.c (.bool true))], ⟨none, none, (.e (.store 4)), [(.t 2), (.t 44)], none⟩]) (.keep [2] (.keep [2] .ret)))
    .skip))) (.keep [1, 2] (.seq (.draw [iR 45 (.p (.fieldAddr 0)) [(.t 1)], ⟨(some 46), none, (.l (.load none)), [(.t 45)], some (0, 1)⟩, iR 47 (.p (.fieldAddr 3)) [(.t 1)], ⟨(some 48), none, (.l (.load none)), [(.t 47)], some (0, 1)⟩, iR 49 (.l (.load (some 12))) [(.t 1)], iR 50 (.call 131) [(.t 49)], iR 51 (.p (.build [(.str []), (.str []), (.int .i64 (.ofNat 0)), (.bool false)] [(0, 1), (1, 1), (2, 1)])) [(.t 46), (.t 48), (.t 50)], ⟨none, none, (.e (.store 4)), [(.t 2), (.t 51)], none⟩]) (.keep [2] (.keep [2] .ret))))))))), [(.cell 2 (some 4))]⟩
def s_ref4_Of_j0 (call : CallK) (N : Nat) (q : KV) (st : St) (τ : Tape) : Ans := match st with
  | ⟨fr, H⟩ => getK fr 1 fun t1 => getK fr 2 fun t2 => someK (pFieldAddr 0 [t1]) fun v29 => someK (lLoad1 [v29] H) fun v30 => call f_ref3_Special [v30] H τ fun v31 H32 τ33 => unK .not v31 fun v34 => condK v34 (someK (pBuild [(.str []), (.str []), (.int .i64 (.ofNat 0)), (.bool false)] [(3, 1)] [(.bool true)]) fun v35 => effK (eStore 4 [t2, v35] H32 τ33) fun v36 H37 τ38 => someK (results ⟨(T.set .leaf 2 t2), H37⟩ [(.cell 2 (some 4))]) fun v => q v H37 τ38) (someK (pFieldAddr 0 [t1]) fun v39 => someK (lLoad1 [v39] H32) fun v40 => someK (pFieldAddr 3 [t1]) fun v41 => someK (lLoad1 [v41] H32) fun v42 => someK (lLoadN 12 [t1] H32) fun v43 => call f_ref4_Port [v43] H32 τ33 fun v44 H45 τ46 => someK (pBuild [(.str []), (.str []), (.int .i64 (.ofNat 0)), (.bool false)] [(0, 1), (1, 1), (2, 1)] [v40, v42, v44]) fun v47 => effK (eStore 4 [t2, v47] H45 τ46) fun v48 H49 τ50 =>
    bif chkLoads [H32, H45, H49] (((.load none), [v41], 0, 1) :: (((.load none), [v39], 0, 1) :: [])) then someK (results ⟨(T.set .leaf 2 t2), H49⟩ [(.cell 2 (some 4))]) fun v => q v H49 τ50 else none)
def s_ref4_Of (call : CallK) (N : Nat) (a0 : V) (H : Heap) (τ : Tape) (q : KV) : Ans := effK (eBox [a0] H τ) fun v0 H1 τ2 => effK (eAlloc [(.str []), (.str []), (.int .i64 (.ofNat 0)), (.bool false)] [] H1 τ2) fun v3 H4 τ5 => someK (pFieldAddr 0 [v0]) fun v6 => someK (lLoad1 [v6] H4) fun v7 => binK .eql v7 (.str (bs [98, 108, 111, 98])) fun v8 => gK v8 true (fun q' => someK (pFieldAddr 6 [v0]) fun v => q' v H4 τ5) H4 τ5 fun v9 H10 τ11 => gK v8 true (fun q' => someK (lLoad1 [v9] H10) fun v => q' v H10 τ11) H10 τ11 fun v12 H13 τ14 => someK (pPick [v8, v12, (.bool false)]) fun v15 => gK v15 true (fun q' => someK (pFieldAddr 7 [v0]) fun v => q' v H13 τ14) H13 τ14 fun v16 H17 τ18 => gK v15 true (fun q' => someK (lLoad1 [v16] H17) fun v => q' v H17 τ18) H17 τ18 fun v19 H20 τ21 => gK v15 true (fun q' => someK (pLen [v19]) fun v => q' v H20 τ21) H20 τ21 fun v22 H23 τ24 =>
    gK v15 true (fun q' => binK .eql v22 (.int .i64 (.ofNat 1)) fun v => q' v H23 τ24) H23 τ24 fun v25 H26 τ27 => someK (pPick [v15, v25, (.bool false)]) fun v28 => condK v28 (someK (pFieldAddr 7 [v0]) fun v51 => someK (lLoad1 [v51] H26) fun v52 => someK (pSlIdx 1 [v52, (.int .i64 (.ofNat 0))]) fun v53 => someK (lLoad1 [v53] H26) fun v54 => call f_ref3_Parse [v54] H26 τ27 fun v55 H56 τ57 => someK (pExtract 0 [v55]) fun v58 => someK (pExtract 1 [v55]) fun v59 => effK (eAlloc [(.str []), (.str []), (.str []), (.str []), (.bool false), (.int .i64 (.ofNat 0)), (.bool false), .nils, (.str []), (.str []), (.bool false), (.bool false)] [] H56 τ57) fun v60 H61 τ62 => effK (eStore 12 [v60, v58] H61 τ62) fun v63 H64 τ65 => binK .eql v59 (.int .i64 (.ofNat 0)) fun v66 => gK v66 true (fun q' => someK (pFieldAddr 0 [v60]) fun v => q' v H64 τ65) H64 τ65 fun v67 H68 τ69 =>
    gK v66 true (fun q' => someK (lLoad1 [v67] H68) fun v => q' v H68 τ69) H68 τ69 fun v70 H71 τ72 => gK v66 true (fun q' => binK .eql v70 (.str (bs [104, 116, 116, 112])) fun v => q' v H71 τ72) H71 τ72 fun v73 H74 τ75 => gK v66 true (fun q' => q' v73 H74 τ75) H74 τ75 fun v76 H77 τ78 => gK v76 false (fun q' => someK (pFieldAddr 0 [v60]) fun v => q' v H77 τ78) H77 τ78 fun v79 H80 τ81 => gK v76 false (fun q' => someK (lLoad1 [v79] H80) fun v => q' v H80 τ81) H80 τ81 fun v82 H83 τ84 => gK v76 false (fun q' => binK .eql v82 (.str (bs [104, 116, 116, 112, 115])) fun v => q' v H83 τ84) H83 τ84 fun v85 H86 τ87 => gK v66 true (fun q' => someK (pPick [v76, (.bool true), v85]) fun v => q' v H86 τ87) H86 τ87 fun v88 H89 τ90 => someK (pPick [v66, v88, (.bool false)]) fun v91 => condK v91 (someK (lLoadN 12 [v60] H89) fun v92 => call f_ref4_Of [v92] H89 τ90 fun v93 H94 τ95 =>
    effK (eStore 4 [v3, v93] H94 τ95) fun v96 H97 τ98 => someK (results ⟨(T.set .leaf 2 v3), H97⟩ [(.cell 2 (some 4))]) fun v => q v H97 τ98) (s_ref4_Of_j0 call N q ⟨(T.set (T.set (T.set (T.set .leaf 1 v0) 2 v3) 3 v60) 37 v91), H89⟩ τ90)) (s_ref4_Of_j0 call N q ⟨(T.set (T.set (T.set .leaf 1 v0) 2 v3) 17 v28), H26⟩ τ27)
theorem s_ref4_Of_eq (call : CallK) (N : Nat) (a0 : V) (H : Heap) (τ : Tape) (q : KV) : s_ref4_Of call N a0 H τ q = funK call N fn_ref4_Of [a0] H τ q := by kernel_rfl
def e_ref4_Of (call : CallK) (N : Nat) (vs : List V) (H : Heap) (τ : Tape) (q : KV) : Ans := match vs with | [a0] => s_ref4_Of call N a0 H τ q | _ => none
theorem e_ref4_Of_ok : EntOk fn_ref4_Of e_ref4_Of := by
  intro call N vs H τ q r h
  unfold e_ref4_Of at h
  split at h
  · rw [s_ref4_Of_eq] at h; exact h
  · cases h
theorem e_ref4_Of_nat : EntNat e_ref4_Of := by
  intro c hn N vs H τ q
  unfold e_ref4_Of
  split
  · rw [s_ref4_Of_eq, s_ref4_Of_eq]; exact funK_ent hn _ _ _ _ _ _
  · rfl
/-- ostiary/headers.Split -/
def fn_headers_Split : Fun := ⟨2, (.seq (.reg [iR 4 (.p .mv) [(.c .nils)], iR 5 (.p .mv) [(.c (.bool false))]]) (.keep [0, 1] (.seq (.reg [iR 13 (.p .mv) [(.t 0)], iR 14 (.p .mv) [(.t 1)], iR 15 (.call 60) [(.t 13), (.t 14)], iR 12 (.p .mv) [(.t 15)], iR 16 (.p (.extract 0)) [(.t 12)], iR 17 (.p (.extract 1)) [(.t 12)], iR 6 (.p .mv) [(.t 16)], iR 7 (.p .mv) [(.t 17)]]) (.keep [6, 7] (.seq (.seq (.reg [iR 18 (.p .mv) [(.t 7)], iR 19 (.p (.un .not)) [(.t 18)]]) (.keep [6, 19] (.cond (.t 19) (.seq (.reg [iR 4 (.p .mv) [(.c .nils)], iR 5 (.p .mv) [(.c (.bool false))]]) (.keep [4, 5] (.keep [4, 5] .ret))) .skip))) (.keep [6] (.seq (.reg [iR 8 (.p .mv) [(.c .nils)]]) (.keep [6, 8] (.seq (.reg [iR 9 (.p .mv) [(.c (.bool false))], iR 10 (.p .mv) [(.c (.int .i64 (.ofNat 0)))]]) (.keep [6, 8, 9, 10] (.seq (.seq (.reg [iR 11 (.p .mv) [(.c (.int .i64 (.ofNat 0)))]])
    (.keep [6, 8, 9, 10, 11] (.block 0 (.loop (.keep [6, 8, 9, 10, 11] (.seq (.seq (.reg [iR 20 (.p .mv) [(.t 11)], iR 21 (.p .mv) [(.t 6)], iR 22 (.p .lenS) [(.t 21)], iR 23 (.p (.bin .lss)) [(.t 20), (.t 22)]]) (.keep [6, 8, 9, 10, 11, 23] (.cond (.t 23) .skip (.keep [6, 8, 10] (.exit 0))))) (.keep [6, 8, 9, 10, 11] (.seq (.block 1 (.block 2 (.seq (.reg [iR 27 (.p .mv) [(.t 6)], iR 28 (.p .mv) [(.t 11)], iR 29 (.p .strIndex) [(.t 27), (.t 28)], iR 30 (.p (.bin .eql)) [(.t 29), (.c (.int .u8 (.ofNat 34)))], iR 26 (.p .mv) [(.t 30)]]) (.keep [6, 8, 9, 10, 11, 26] (.cond (.t 26) (.reg [iR 31 (.p .mv) [(.t 9)], iR 32 (.p (.un .not)) [(.t 31)], iR 9 (.p .mv) [(.t 32)]]) (.seq (.reg [iR 34 (.p .mv) [(.t 9)], iR 35 (.p .mv) [(.t 34)], iG 36 35 true (.p .mv) [(.t 6)], iG 37 35 true (.p .mv) [(.t 11)], iG 38 35 true (.p .strIndex) [(.t 36), (.t 37)],
    iG 39 35 true (.p (.bin .eql)) [(.t 38), (.c (.int .u8 (.ofNat 92)))], iR 40 (.p .pick) [(.t 35), (.t 39), (.c (.bool false))], iR 33 (.p .mv) [(.t 40)]]) (.keep [6, 8, 9, 10, 11, 33] (.cond (.t 33) (.reg [iR 41 (.p .mv) [(.t 11)], iR 42 (.p (.bin .add)) [(.t 41), (.c (.int .i64 (.ofNat 1)))], iR 11 (.p .mv) [(.t 42)]]) (.seq (.reg [iR 44 (.p .mv) [(.t 9)], iR 45 (.p (.un .not)) [(.t 44)], iR 46 (.p .mv) [(.t 45)], iG 47 46 true (.p .mv) [(.t 6)], iG 48 46 true (.p .mv) [(.t 11)], iG 49 46 true (.p .strIndex) [(.t 47), (.t 48)], iG 50 46 true (.p (.bin .eql)) [(.t 49), (.c (.int .u8 (.ofNat 44)))], iR 51 (.p .pick) [(.t 46), (.t 50), (.c (.bool false))], iR 43 (.p .mv) [(.t 51)]]) (.keep [6, 8, 9, 10, 11, 43] (.cond (.t 43) (.seq (.reg [iR 52 (.p .mv) [(.t 8)], iR 53 (.p .mv) [(.t 6)], iR 54 (.p .mv) [(.t 10)], iR 55 (.p .mv) [(.t 11)],
    iR 56 (.p (.strSlice true true)) [(.t 53), (.t 54), (.t 55)], iR 57 (.call 124) [(.t 56), (.c (.str (bs [9, 32])))], iR 58 (.e (.buildSlice 1 1 [(.str [])] [(0, 1)])) [(.t 57)], iR 59 (.e (.append 1 16)) [(.t 52), (.t 58)], iR 8 (.p .mv) [(.t 59)]]) (.keep [6, 8, 9, 11] (.reg [iR 60 (.p .mv) [(.t 11)], iR 61 (.p (.bin .add)) [(.t 60), (.c (.int .i64 (.ofNat 1)))], iR 10 (.p .mv) [(.t 61)]]))) .skip))))))))))) (.keep [6, 8, 9, 10, 11] (.reg [iR 24 (.p .mv) [(.t 11)], iR 25 (.p (.bin .add)) [(.t 24), (.c (.int .i64 (.ofNat 1)))], iR 11 (.p .mv) [(.t 25)]])))))))))) (.keep [6, 8, 10] (.seq (.reg [iR 62 (.p .mv) [(.t 8)], iR 63 (.p .mv) [(.t 6)], iR 64 (.p .mv) [(.t 10)], iR 65 (.p (.strSlice true false)) [(.t 63), (.t 64)], iR 66 (.call 124) [(.t 65), (.c (.str (bs [9, 32])))], iR 67 (.e (.buildSlice 1 1 [(.str [])] [(0, 1)])) [(.t 66)], iR 68 (.e (.append 1 16)) [(.t 62), (.t 67)],
    iR 4 (.p .mv) [(.t 68)], iR 5 (.p .mv) [(.c (.bool true))]]) (.keep [4, 5] (.keep [4, 5] .ret))))))))))))))), [(.t 4), (.t 5)]⟩
def s_headers_Split_j0 (call : CallK) (N : Nat) (q : KV) (st : St) (τ : Tape) : Ans := match st with
  | ⟨fr, H⟩ => getK fr 6 fun t6 => getK fr 8 fun t8 => getK fr 10 fun t10 => someK (pStrSlice true false [t6, t10]) fun v6 => call f_strings_Trim [v6, (.str (bs [9, 32]))] H τ fun v7 H8 τ9 => effK (eBuildSlice 1 1 [(.str [])] [(0, 1)] [v7] H8 τ9) fun v10 H11 τ12 => effK (eAppend 1 16 [t8, v10] H11 τ12) fun v13 H14 τ15 => q (.tup [v13, (.bool true)]) H14 τ15
def s_headers_Split_j2 (call : CallK) (N : Nat) (k : KC) (st : St) (τ : Tape) : Ans := match st with
  | ⟨fr, H⟩ => getK fr 6 fun t6 => getK fr 8 fun t8 => getK fr 9 fun t9 => getK fr 10 fun t10 => getK fr 11 fun t11 => binK .add t11 (.int .i64 (.ofNat 1)) fun v18 => k .normal ⟨(T.set (T.set (T.set (T.set (T.set (T.set (T.set (T.set .leaf 6 t6) 8 t8) 9 t9) 10 t10) 11 t11) 24 t11) 25 v18) 11 v18), H⟩ τ
def s_headers_Split_l1 (call : CallK) (N : Nat) (st : St) (τ : Tape) (k : KC) : Ans := match st with
  | ⟨fr, H⟩ => getK fr 6 fun t6 => getK fr 8 fun t8 => getK fr 9 fun t9 => getK fr 10 fun t10 => getK fr 11 fun t11 => someK (pLenS [t6]) fun v16 => binK .lss t11 v16 fun v17 => condK v17 (someK (pStrIndex [t6, t11]) fun v19 => binK .eql v19 (.int .u8 (.ofNat 34)) fun v20 => condK v20 (unK .not t9 fun v21 => s_headers_Split_j2 call N k ⟨(T.set (T.set (T.set (T.set (T.set (T.set (T.set (T.set (T.set .leaf 6 t6) 8 t8) 9 t9) 10 t10) 11 t11) 26 v20) 31 t9) 32 v21) 9 v21), H⟩ τ) (gK t9 true (fun q' => q' t6 H τ) H τ fun v22 H23 τ24 => gK t9 true (fun q' => q' t11 H23 τ24) H23 τ24 fun v25 H26 τ27 => gK t9 true (fun q' => someK (pStrIndex [v22, v25]) fun v => q' v H26 τ27) H26 τ27 fun v28 H29 τ30 => gK t9 true (fun q' => binK .eql v28 (.int .u8 (.ofNat 92)) fun v => q' v H29 τ30) H29 τ30 fun v31 H32 τ33 => someK (pPick [t9, v31, (.bool false)]) fun v34 => condK v34
    (binK .add t11 (.int .i64 (.ofNat 1)) fun v35 => s_headers_Split_j2 call N k ⟨(T.set (T.set (T.set (T.set (T.set (T.set (T.set (T.set (T.set .leaf 6 t6) 8 t8) 9 t9) 10 t10) 11 t11) 33 v34) 41 t11) 42 v35) 11 v35), H32⟩ τ33) (unK .not t9 fun v36 => gK v36 true (fun q' => q' t6 H32 τ33) H32 τ33 fun v37 H38 τ39 => gK v36 true (fun q' => q' t11 H38 τ39) H38 τ39 fun v40 H41 τ42 => gK v36 true (fun q' => someK (pStrIndex [v37, v40]) fun v => q' v H41 τ42) H41 τ42 fun v43 H44 τ45 => gK v36 true (fun q' => binK .eql v43 (.int .u8 (.ofNat 44)) fun v => q' v H44 τ45) H44 τ45 fun v46 H47 τ48 => someK (pPick [v36, v46, (.bool false)]) fun v49 => condK v49 (someK (pStrSlice true true [t6, t10, t11]) fun v50 => call f_strings_Trim [v50, (.str (bs [9, 32]))] H47 τ48 fun v51 H52 τ53 => effK (eBuildSlice 1 1 [(.str [])] [(0, 1)] [v51] H52 τ53) fun v54 H55 τ56 =>
    effK (eAppend 1 16 [t8, v54] H55 τ56) fun v57 H58 τ59 => binK .add t11 (.int .i64 (.ofNat 1)) fun v60 => s_headers_Split_j2 call N k ⟨(T.set (T.set (T.set (T.set (T.set (T.set (T.set .leaf 6 t6) 8 v57) 9 t9) 11 t11) 60 t11) 61 v60) 10 v60), H58⟩ τ59) (s_headers_Split_j2 call N k ⟨(T.set (T.set (T.set (T.set (T.set (T.set .leaf 6 t6) 8 t8) 9 t9) 10 t10) 11 t11) 43 v49), H47⟩ τ48)))) (k (.exit 0) ⟨(T.set (T.set (T.set .leaf 6 t6) 8 t8) 10 t10), H⟩ τ)
def s_headers_Split (call : CallK) (N : Nat) (a0 a1 : V) (H : Heap) (τ : Tape) (q : KV) : Ans := call f_headers_Get [a0, a1] H τ fun v0 H1 τ2 => someK (pExtract 0 [v0]) fun v3 => someK (pExtract 1 [v0]) fun v4 => unK .not v4 fun v5 => condK v5 (q (.tup [.nils, (.bool false)]) H1 τ2) (loopK (s_headers_Split_l1 call N) N ⟨(T.set (T.set (T.set (T.set (T.set .leaf 6 v3) 8 .nils) 9 (.bool false)) 10 (.int .i64 (.ofNat 0))) 11 (.int .i64 (.ofNat 0))), H1⟩ τ2 (blockK 0 (seqK (s_headers_Split_j0 call N q) (endK [(.t 4), (.t 5)] q))))
theorem s_headers_Split_eq (call : CallK) (N : Nat) (a0 a1 : V) (H : Heap) (τ : Tape) (q : KV) : s_headers_Split call N a0 a1 H τ q = funK call N fn_headers_Split [a0, a1] H τ q := by kernel_rfl
def e_headers_Split (call : CallK) (N : Nat) (vs : List V) (H : Heap) (τ : Tape) (q : KV) : Ans := match vs with | [a0, a1] => s_headers_Split call N a0 a1 H τ q | _ => none
theorem e_headers_Split_ok : EntOk fn_headers_Split e_headers_Split := by
  intro call N vs H τ q r h
  unfold e_headers_Split at h
  split at h
  · rw [s_headers_Split_eq] at h; exact h
  · cases h
theorem e_headers_Split_nat : EntNat e_headers_Split := by
  intro c hn N vs H τ q
  unfold e_headers_Split
  split
  · rw [s_headers_Split_eq, s_headers_Split_eq]; exact funK_ent hn _ _ _ _ _ _
  · rfl
/-- ostiary/infra.Lower -/
def fn_infra_Lower : Fun := ⟨1, (.seq (.reg [iR 2 (.p .mv) [(.c (.str []))]]) (.keep [0] (.seq (.reg [iR 3 (.p .mv) [(.t 0)], iR 4 (.call 140) [(.t 3), (.c (.func 141 [] []))], iR 2 (.p .mv) [(.t 4)]]) (.keep [2] (.keep [2] .ret))))), [(.t 2)]⟩
def s_infra_Lower (call : CallK) (N : Nat) (a0 : V) (H : Heap) (τ : Tape) (q : KV) : Ans := call f_infra_mapped [a0, (.func f_infra_Lower_1 [] [])] H τ fun v0 H1 τ2 => q v0 H1 τ2
theorem s_infra_Lower_eq (call : CallK) (N : Nat) (a0 : V) (H : Heap) (τ : Tape) (q : KV) : s_infra_Lower call N a0 H τ q = funK call N fn_infra_Lower [a0] H τ q := by kernel_rfl
def e_infra_Lower (call : CallK) (N : Nat) (vs : List V) (H : Heap) (τ : Tape) (q : KV) : Ans := match vs with | [a0] => s_infra_Lower call N a0 H τ q | _ => none
theorem e_infra_Lower_ok : EntOk fn_infra_Lower e_infra_Lower := by
  intro call N vs H τ q r h
  unfold e_infra_Lower at h
  split at h
  · rw [s_infra_Lower_eq] at h; exact h
  · cases h
theorem e_infra_Lower_nat : EntNat e_infra_Lower := by
  intro c hn N vs H τ q
  unfold e_infra_Lower
  split
  · rw [s_infra_Lower_eq, s_infra_Lower_eq]; exact funK_ent hn _ _ _ _ _ _
  · rfl
/-- ostiary/preflight.tokens -/
def fn_preflight_tokens : Fun := ⟨3, (.seq (.reg [iR 6 (.p .mv) [(.c .nils)]]) (.keep [0, 1, 2] (.seq (.reg [iR 13 (.p .mv) [(.t 0)], iR 14 (.p .mv) [(.t 1)], iR 15 (.call 81) [(.t 13), (.t 14)], iR 12 (.p .mv) [(.t 15)], iR 16 (.p (.extract 0)) [(.t 12)], iR 17 (.p (.extract 1)) [(.t 12)], iR 7 (.p .mv) [(.t 16)], iR 8 (.p .mv) [(.t 17)]]) (.keep [2, 7] (.seq (.reg [iR 9 (.p .mv) [(.c .nils)]]) (.keep [2, 7, 9] (.seq (.seq (.reg [iR 18 (.p .mv) [(.t 7)], iR 19 (.p .len) [(.t 18)], iR 20 (.p .mv) [(.c (.int .i64 (.ofNat 0)))]]) (.keep [2, 9, 18, 19, 20] (.block 0 (.loop (.keep [2, 9, 18, 19, 20] (.seq (.reg [iR 21 (.p (.bin .lss)) [(.t 20), (.t 19)]]) (.keep [2, 9, 18, 19, 20, 21] (.seq (.cond (.t 21) .skip (.keep [9] (.exit 0))) (.keep [2, 9, 18, 19, 20] (.seq (.block 1 (.seq (.reg [iR 22 (.p (.slIdx 1)) [(.t 18), (.t 20)], iR 23 (.l (.load none)) [(.t 22)],
    iR 11 (.p .mv) [(.t 23)]]) (.keep [2, 9, 11, 18, 19, 20] (.seq (.reg [iR 24 (.p .mv) [(.t 11)], iR 25 (.call 96) [(.t 24)]]) (.keep [2, 9, 11, 18, 19, 20, 25] (.cond (.t 25) (.reg [iR 26 (.p .mv) [(.t 9)], iR 27 (.p .mv) [(.t 2)], iR 28 (.p .mv) [(.t 11)], iR 29 .callv [(.t 27), (.t 28)], iR 30 (.e (.buildSlice 1 1 [(.str [])] [(0, 1)])) [(.t 29)], iR 31 (.e (.append 1 16)) [(.t 26), (.t 30)], iR 9 (.p .mv) [(.t 31)]]) .skip)))))) (.keep [2, 9, 18, 19, 20] (.reg [iR 32 (.p (.bin .add)) [(.t 20), (.c (.int .i64 (.ofNat 1)))], iR 20 (.p .mv) [(.t 32)]])))))))))))) (.keep [9] (.seq (.reg [iR 33 (.p .mv) [(.t 9)], iR 34 (.call 106) [(.t 33)]]) (.keep [9] (.seq (.reg [iR 35 (.p .mv) [(.t 9)], iR 36 (.call 107) [(.t 35)], iR 6 (.p .mv) [(.t 36)]]) (.keep [6] (.keep [6] .ret))))))))))))), [(.t 6)]⟩
def s_preflight_tokens_j0 (call : CallK) (N : Nat) (q : KV) (st : St) (τ : Tape) : Ans := match st with
  | ⟨fr, H⟩ => getK fr 9 fun t9 => call f_slices_Sort_string [t9] H τ fun v6 H7 τ8 => call f_slices_Compact_string [t9] H7 τ8 fun v9 H10 τ11 => q v9 H10 τ11
def s_preflight_tokens_j2 (call : CallK) (N : Nat) (k : KC) (st : St) (τ : Tape) : Ans := match st with
  | ⟨fr, H⟩ => getK fr 2 fun t2 => getK fr 9 fun t9 => getK fr 18 fun t18 => getK fr 19 fun t19 => getK fr 20 fun t20 => binK .add t20 (.int .i64 (.ofNat 1)) fun v13 => k .normal ⟨(T.set (T.set (T.set (T.set (T.set (T.set (T.set .leaf 2 t2) 9 t9) 18 t18) 19 t19) 20 t20) 32 v13) 20 v13), H⟩ τ
def s_preflight_tokens_l1 (call : CallK) (N : Nat) (st : St) (τ : Tape) (k : KC) : Ans := match st with
  | ⟨fr, H⟩ => getK fr 2 fun t2 => getK fr 9 fun t9 => getK fr 18 fun t18 => getK fr 19 fun t19 => getK fr 20 fun t20 => binK .lss t20 t19 fun v12 => condK v12 (someK (pSlIdx 1 [t18, t20]) fun v14 => someK (lLoad1 [v14] H) fun v15 => call f_infra_Token [v15] H τ fun v16 H17 τ18 => condK v16 (opK call .callv [t2, v15] H17 τ18 fun v19 H20 τ21 => effK (eBuildSlice 1 1 [(.str [])] [(0, 1)] [v19] H20 τ21) fun v22 H23 τ24 => effK (eAppend 1 16 [t9, v22] H23 τ24) fun v25 H26 τ27 => s_preflight_tokens_j2 call N k ⟨(T.set (T.set (T.set (T.set (T.set (T.set (T.set (T.set (T.set (T.set (T.set (T.set (T.set (T.set .leaf 2 t2) 9 t9) 11 v15) 18 t18) 19 t19) 20 t20) 25 v16) 26 t9) 27 t2) 28 v15) 29 v19) 30 v22) 31 v25) 9 v25), H26⟩ τ27) (s_preflight_tokens_j2 call N k ⟨(T.set (T.set (T.set (T.set (T.set (T.set (T.set .leaf 2 t2) 9 t9) 11 v15) 18 t18) 19 t19) 20 t20) 25 v16), H17⟩ τ18))
    (k (.exit 0) ⟨(T.set .leaf 9 t9), H⟩ τ)
def s_preflight_tokens (call : CallK) (N : Nat) (a0 a1 a2 : V) (H : Heap) (τ : Tape) (q : KV) : Ans := call f_headers_Split [a0, a1] H τ fun v0 H1 τ2 => someK (pExtract 0 [v0]) fun v3 => someK (pExtract 1 [v0]) fun v4 => someK (pLen [v3]) fun v5 => loopK (s_preflight_tokens_l1 call N) N ⟨(T.set (T.set (T.set (T.set (T.set .leaf 2 a2) 9 .nils) 18 v3) 19 v5) 20 (.int .i64 (.ofNat 0))), H1⟩ τ2 (blockK 0 (seqK (s_preflight_tokens_j0 call N q) (endK [(.t 6)] q)))
theorem s_preflight_tokens_eq (call : CallK) (N : Nat) (a0 a1 a2 : V) (H : Heap) (τ : Tape) (q : KV) : s_preflight_tokens call N a0 a1 a2 H τ q = funK call N fn_preflight_tokens [a0, a1, a2] H τ q := by kernel_rfl
def e_preflight_tokens (call : CallK) (N : Nat) (vs : List V) (H : Heap) (τ : Tape) (q : KV) : Ans := match vs with | [a0, a1, a2] => s_preflight_tokens call N a0 a1 a2 H τ q | _ => none
theorem e_preflight_tokens_ok : EntOk fn_preflight_tokens e_preflight_tokens := by
  intro call N vs H τ q r h
  unfold e_preflight_tokens at h
  split at h
  · rw [s_preflight_tokens_eq] at h; exact h
  · cases h
theorem e_preflight_tokens_nat : EntNat e_preflight_tokens := by
  intro c hn N vs H τ q
  unfold e_preflight_tokens
  split
  · rw [s_preflight_tokens_eq, s_preflight_tokens_eq]; exact funK_ent hn _ _ _ _ _ _
  · rfl
/-- ostiary/preflight.Read$1 -/
def fn_preflight_Read_1 : Fun := ⟨1, (.seq (.reg [iR 2 (.p .mv) [(.c (.str []))]]) (.keep [0] (.seq (.reg [iR 3 (.p .mv) [(.t 0)], iR 2 (.p .mv) [(.t 3)]]) (.keep [2] (.keep [2] .ret))))), [(.t 2)]⟩
def s_preflight_Read_1 (call : CallK) (N : Nat) (a0 : V) (H : Heap) (τ : Tape) (q : KV) : Ans := q a0 H τ
theorem s_preflight_Read_1_eq (call : CallK) (N : Nat) (a0 : V) (H : Heap) (τ : Tape) (q : KV) : s_preflight_Read_1 call N a0 H τ q = funK call N fn_preflight_Read_1 [a0] H τ q := by kernel_rfl
def e_preflight_Read_1 (call : CallK) (N : Nat) (vs : List V) (H : Heap) (τ : Tape) (q : KV) : Ans := match vs with | [a0] => s_preflight_Read_1 call N a0 H τ q | _ => none
theorem e_preflight_Read_1_ok : EntOk fn_preflight_Read_1 e_preflight_Read_1 := by
  intro call N vs H τ q r h
  unfold e_preflight_Read_1 at h
  split at h
  · rw [s_preflight_Read_1_eq] at h; exact h
  · cases h
theorem e_preflight_Read_1_nat : EntNat e_preflight_Read_1 := by
  intro c hn N vs H τ q
  unfold e_preflight_Read_1
  split
  · rw [s_preflight_Read_1_eq, s_preflight_Read_1_eq]; exact funK_ent hn _ _ _ _ _ _
  · rfl
/-- slices.Contains[[]string,string] -/
def fn_slices_Contains_string : Fun := ⟨2, (.seq (.reg [iR 4 (.p .mv) [(.c (.bool false))]]) (.keep [0, 1] (.seq (.reg [iR 5 (.p .mv) [(.t 0)], iR 6 (.p .mv) [(.t 1)], iR 7 (.call 142) [(.t 5), (.t 6)], iR 8 (.p (.bin .geq)) [(.t 7), (.c (.int .i64 (.ofNat 0)))], iR 4 (.p .mv) [(.t 8)]]) (.keep [4] (.keep [4] .ret))))), [(.t 4)]⟩
def s_slices_Contains_string (call : CallK) (N : Nat) (a0 a1 : V) (H : Heap) (τ : Tape) (q : KV) : Ans := call f_slices_Index_string [a0, a1] H τ fun v0 H1 τ2 => binK .geq v0 (.int .i64 (.ofNat 0)) fun v3 => q v3 H1 τ2
theorem s_slices_Contains_string_eq (call : CallK) (N : Nat) (a0 a1 : V) (H : Heap) (τ : Tape) (q : KV) : s_slices_Contains_string call N a0 a1 H τ q = funK call N fn_slices_Contains_string [a0, a1] H τ q := by kernel_rfl
def e_slices_Contains_string (call : CallK) (N : Nat) (vs : List V) (H : Heap) (τ : Tape) (q : KV) : Ans := match vs with | [a0, a1] => s_slices_Contains_string call N a0 a1 H τ q | _ => none
theorem e_slices_Contains_string_ok : EntOk fn_slices_Contains_string e_slices_Contains_string := by
  intro call N vs H τ q r h
  unfold e_slices_Contains_string at h
  split at h
  · rw [s_slices_Contains_string_eq] at h; exact h
  · cases h
theorem e_slices_Contains_string_nat : EntNat e_slices_Contains_string := by
  intro c hn N vs H τ q
  unfold e_slices_Contains_string
  split
  · rw [s_slices_Contains_string_eq, s_slices_Contains_string_eq]; exact funK_ent hn _ _ _ _ _ _
  · rfl
/-- ostiary/infra.Int -/
def fn_infra_Int : Fun := ⟨1, (.seq (.reg [iR 2 (.p .mv) [(.c (.int .i64 (.ofNat 0)))], iR 3 (.p .mv) [(.c (.bool false))]]) (.keep [0] (.seq (.reg [iR 4 (.p .mv) [(.c (.int .i64 (.ofNat 0)))]]) (.keep [0, 4] (.seq (.seq (.reg [iR 8 (.p .mv) [(.t 0)], iR 9 (.p .lenS) [(.t 8)], iR 10 (.p .mv) [(.c (.int .i64 (.ofNat 0)))]]) (.keep [0, 4, 9, 10] (.block 0 (.loop (.keep [0, 4, 9, 10] (.seq (.reg [iR 11 (.p (.bin .lss)) [(.t 10), (.t 9)]]) (.keep [0, 4, 9, 10, 11] (.seq (.cond (.t 11) .skip (.keep [0, 4] (.exit 0))) (.keep [0, 4, 9, 10] (.seq (.block 1 (.seq (.reg [iR 12 (.p .mv) [(.t 10)], iR 5 (.p .mv) [(.t 12)]]) (.keep [0, 4, 5, 9, 10] (.seq (.reg [iR 13 (.p .mv) [(.t 0)], iR 14 (.p .mv) [(.t 5)], iR 15 (.p .strIndex) [(.t 13), (.t 14)], iR 6 (.p .mv) [(.t 15)]]) (.keep [0, 4, 6, 9, 10] (.seq (.seq (.reg [iR 16 (.p .mv) [(.t 6)],
    iR 17 (.p (.bin .lss)) [(.t 16), (.c (.int .u8 (.ofNat 48)))], iR 18 (.p .mv) [(.t 17)], iG 19 18 false (.p .mv) [(.t 6)], iG 20 18 false (.p (.bin .gtr)) [(.t 19), (.c (.int .u8 (.ofNat 57)))], iR 21 (.p .pick) [(.t 18), (.c (.bool true)), (.t 20)]]) (.keep [0, 4, 6, 9, 10, 21] (.cond (.t 21) (.seq (.reg [iR 2 (.p .mv) [(.c (.int .i64 (.ofNat 0)))], iR 3 (.p .mv) [(.c (.bool false))]]) (.keep [2, 3] (.keep [2, 3] .ret))) .skip))) (.keep [0, 4, 6, 9, 10] (.seq (.reg [iR 22 (.p .mv) [(.t 6)], iR 23 (.p (.bin .sub)) [(.t 22), (.c (.int .u8 (.ofNat 48)))], iR 24 (.p (.toInt .i64)) [(.t 23)], iR 7 (.p .mv) [(.t 24)]]) (.keep [0, 4, 7, 9, 10] (.seq (.seq (.reg [iR 25 (.p .mv) [(.t 4)], iR 26 (.p .mv) [(.t 7)], iR 27 (.p (.bin .sub)) [(.c (.int .i64 (.ofNat 9223372036854775807))), (.t 26)], iR 28 (.p (.bin .quo)) [(.t 27), (.c (.int .i64 (.ofNat 10)))],
    iR 29 (.p (.bin .gtr)) [(.t 25), (.t 28)]]) (.keep [0, 4, 7, 9, 10, 29] (.cond (.t 29) (.seq (.reg [iR 4 (.p .mv) [(.c (.int .i64 (.ofNat 9223372036854775807)))]]) (.keep [0, 4, 9, 10] (.keep [0, 4, 9, 10] (.exit 1)))) .skip))) (.keep [0, 4, 7, 9, 10] (.reg [iR 30 (.p .mv) [(.t 4)], iR 31 (.p (.bin .mul)) [(.t 30), (.c (.int .i64 (.ofNat 10)))], iR 32 (.p .mv) [(.t 7)], iR 33 (.p (.bin .add)) [(.t 31), (.t 32)], iR 4 (.p .mv) [(.t 33)]])))))))))))) (.keep [0, 4, 9, 10] (.reg [iR 34 (.p (.bin .add)) [(.t 10), (.c (.int .i64 (.ofNat 1)))], iR 10 (.p .mv) [(.t 34)]])))))))))))) (.keep [0, 4] (.seq (.reg [iR 35 (.p .mv) [(.t 4)], iR 36 (.p .mv) [(.t 0)], iR 37 (.p .lenS) [(.t 36)], iR 38 (.p (.bin .gtr)) [(.t 37), (.c (.int .i64 (.ofNat 0)))], iR 2 (.p .mv) [(.t 35)], iR 3 (.p .mv) [(.t 38)]]) (.keep [2, 3] (.keep [2, 3] .ret))))))))), [(.t 2), (.t 3)]⟩
def s_infra_Int_j0 (call : CallK) (N : Nat) (q : KV) (st : St) (τ : Tape) : Ans := match st with
  | ⟨fr, H⟩ => getK fr 0 fun t0 => getK fr 4 fun t4 => someK (pLenS [t0]) fun v1 => binK .gtr v1 (.int .i64 (.ofNat 0)) fun v2 => q (.tup [t4, v2]) H τ
def s_infra_Int_j2 (call : CallK) (N : Nat) (k : KC) (st : St) (τ : Tape) : Ans := match st with
  | ⟨fr, H⟩ => getK fr 0 fun t0 => getK fr 4 fun t4 => getK fr 9 fun t9 => getK fr 10 fun t10 => binK .add t10 (.int .i64 (.ofNat 1)) fun v4 => k .normal ⟨(T.set (T.set (T.set (T.set (T.set (T.set .leaf 0 t0) 4 t4) 9 t9) 10 t10) 34 v4) 10 v4), H⟩ τ
def s_infra_Int_l1 (call : CallK) (N : Nat) (st : St) (τ : Tape) (k : KC) : Ans := match st with
  | ⟨fr, H⟩ => getK fr 0 fun t0 => getK fr 4 fun t4 => getK fr 9 fun t9 => getK fr 10 fun t10 => binK .lss t10 t9 fun v3 => condK v3 (someK (pStrIndex [t0, t10]) fun v5 => binK .lss v5 (.int .u8 (.ofNat 48)) fun v6 => gK v6 false (fun q' => q' v5 H τ) H τ fun v7 H8 τ9 => gK v6 false (fun q' => binK .gtr v7 (.int .u8 (.ofNat 57)) fun v => q' v H8 τ9) H8 τ9 fun v10 H11 τ12 => someK (pPick [v6, (.bool true), v10]) fun v13 => condK v13 (k .ret ⟨(T.set (T.set .leaf 2 (.int .i64 (.ofNat 0))) 3 (.bool false)), H11⟩ τ12) (binK .sub v5 (.int .u8 (.ofNat 48)) fun v14 => toIntK .i64 v14 fun v15 => binK .sub (.int .i64 (.ofNat 9223372036854775807)) v15 fun v16 => binK .quo v16 (.int .i64 (.ofNat 10)) fun v17 => binK .gtr t4 v17 fun v18 => condK v18 (s_infra_Int_j2 call N k ⟨(T.set (T.set (T.set (T.set .leaf 0 t0) 4 (.int .i64 (.ofNat 9223372036854775807))) 9 t9) 10 t10), H11⟩ τ12)
    (binK .mul t4 (.int .i64 (.ofNat 10)) fun v19 => binK .add v19 v15 fun v20 => s_infra_Int_j2 call N k ⟨(T.set (T.set (T.set (T.set (T.set (T.set (T.set (T.set (T.set (T.set .leaf 0 t0) 4 t4) 7 v15) 9 t9) 10 t10) 30 t4) 31 v19) 32 v15) 33 v20) 4 v20), H11⟩ τ12))) (k (.exit 0) ⟨(T.set (T.set .leaf 0 t0) 4 t4), H⟩ τ)
def s_infra_Int (call : CallK) (N : Nat) (a0 : V) (H : Heap) (τ : Tape) (q : KV) : Ans := someK (pLenS [a0]) fun v0 => loopK (s_infra_Int_l1 call N) N ⟨(T.set (T.set (T.set (T.set .leaf 0 a0) 4 (.int .i64 (.ofNat 0))) 9 v0) 10 (.int .i64 (.ofNat 0))), H⟩ τ (blockK 0 (seqK (s_infra_Int_j0 call N q) (endK [(.t 2), (.t 3)] q)))
theorem s_infra_Int_eq (call : CallK) (N : Nat) (a0 : V) (H : Heap) (τ : Tape) (q : KV) : s_infra_Int call N a0 H τ q = funK call N fn_infra_Int [a0] H τ q := by kernel_rfl
def e_infra_Int (call : CallK) (N : Nat) (vs : List V) (H : Heap) (τ : Tape) (q : KV) : Ans := match vs with | [a0] => s_infra_Int call N a0 H τ q | _ => none
theorem e_infra_Int_ok : EntOk fn_infra_Int e_infra_Int := by
  intro call N vs H τ q r h
  unfold e_infra_Int at h
  split at h
  · rw [s_infra_Int_eq] at h; exact h
  · cases h
theorem e_infra_Int_nat : EntNat e_infra_Int := by
  intro c hn N vs H τ q
  unfold e_infra_Int
  split
  · rw [s_infra_Int_eq, s_infra_Int_eq]; exact funK_ent hn _ _ _ _ _ _
  · rfl
/-- (*ostiary/preflight.Table).put -/
def fn_preflight_Table_put : Fun := ⟨4, (.seq (.reg [iR 5 (.e .box) [(.t 1)], iR 6 (.e .box) [(.t 2)]]) (.keep [0, 3, 5, 6] (.seq (.reg [iR 8 (.p .mv) [(.t 0)], iR 9 (.p .mv) [(.t 0)], iR 10 (.p .nilck) [(.t 9)], iR 11 (.p (.fieldAddr 0)) [(.t 10)], iR 12 (.l (.load none)) [(.t 11)], iR 13 (.p (.mkFunc 147 0)) [(.t 5)], iR 14 (.call 146) [(.t 12), (.t 13)], iR 15 (.p .nilck) [(.t 8)], iR 16 (.p (.fieldAddr 0)) [(.t 15)], ⟨none, none, (.e (.store 1)), [(.t 16), (.t 14)], none⟩]) (.keep [0, 3, 5, 6] (.seq (.seq (.reg [iR 17 (.p (.fieldAddr 3)) [(.t 6)], iR 18 (.l (.load none)) [(.t 17)], iR 19 (.p (.bin .leq)) [(.t 18), (.c (.int .i64 (.ofNat 0)))]]) (.keep [0, 3, 5, 6, 19] (.cond (.t 19) (.keep [] .ret) .skip))) (.keep [0, 3, 5, 6] (.seq (.draw [iR 20 (.p .mv) [(.t 0)], iR 21 (.p .mv) [(.t 0)], iR 22 (.p .nilck) [(.t 21)], iR 23 (.p (.fieldAddr 0)) [(.t 22)],
    ⟨(some 24), none, (.l (.load none)), [(.t 23)], some (0, 2)⟩, ⟨(some 25), none, (.l (.load (some 5))), [(.t 5)], some (0, 1)⟩, iR 26 (.p .mv) [(.t 3)], iR 27 (.p (.fieldAddr 3)) [(.t 6)], iR 28 (.l (.load none)) [(.t 27)], iR 29 (.call 119) [(.t 26), (.t 28)], iR 30 (.p (.build [(.str []), (.str []), (.bool false), (.bool false), (.str []), (.int .i64 (.ofNat 0))] [(0, 5), (5, 1)])) [(.t 25), (.t 29)], iR 31 (.e (.buildSlice 1 6 [(.str []), (.str []), (.bool false), (.bool false), (.str []), (.int .i64 (.ofNat 0))] [(0, 6)])) [(.t 30)], iR 32 (.e (.append 6 64)) [(.t 24), (.t 31)], iR 33 (.p .nilck) [(.t 20)], iR 34 (.p (.fieldAddr 0)) [(.t 33)], ⟨none, none, (.e (.store 1)), [(.t 34), (.t 32)], none⟩]) (.keep [0] (.seq (.reg [iR 35 (.p .mv) [(.t 0)], iR 36 (.p .nilck) [(.t 35)], iR 37 (.p (.fieldAddr 0)) [(.t 36)], iR 38 (.l (.load none)) [(.t 37)], iR 39 (.p .len) [(.t 38)],
    iR 40 (.p (.bin .gtr)) [(.t 39), (.c (.int .i64 (.ofNat 32)))]]) (.keep [0, 40] (.cond (.t 40) (.reg [iR 41 (.p .mv) [(.t 0)], iR 42 (.p .mv) [(.t 0)], iR 43 (.p .nilck) [(.t 42)], iR 44 (.p (.fieldAddr 0)) [(.t 43)], iR 45 (.l (.load none)) [(.t 44)], iR 46 (.call 148) [(.t 45), (.c (.int .i64 (.ofNat 0))), (.c (.int .i64 (.ofNat 1)))], iR 47 (.p .nilck) [(.t 41)], iR 48 (.p (.fieldAddr 0)) [(.t 47)], ⟨none, none, (.e (.store 1)), [(.t 48), (.t 46)], none⟩]) .skip))))))))))), []⟩
def s_preflight_Table_put (call : CallK) (N : Nat) (a0 a1 a2 a3 : V) (H : Heap) (τ : Tape) (q : KV) : Ans := effK (eBox [a1] H τ) fun v0 H1 τ2 => effK (eBox [a2] H1 τ2) fun v3 H4 τ5 => someK (pNilck [a0]) fun v6 => someK (pFieldAddr 0 [v6]) fun v7 => someK (lLoad1 [v7] H4) fun v8 => someK (some (V.func f_preflight_Table_put_1 (List.take 0 [v0]) (List.drop 0 [v0]))) fun v9 => call f_slices_DeleteFunc_preflight_row [v8, v9] H4 τ5 fun v10 H11 τ12 => someK (pNilck [a0]) fun v13 => someK (pFieldAddr 0 [v13]) fun v14 => effK (eStore 1 [v14, v10] H11 τ12) fun v15 H16 τ17 => someK (pFieldAddr 3 [v3]) fun v18 => someK (lLoad1 [v18] H16) fun v19 => binK .leq v19 (.int .i64 (.ofNat 0)) fun v20 => condK v20 (q (.tup []) H16 τ17) (someK (pNilck [a0]) fun v21 => someK (pFieldAddr 0 [v21]) fun v22 => someK (lLoad1 [v22] H16) fun v23 => someK (lLoadN 5 [v0] H16) fun v24 =>
    someK (pFieldAddr 3 [v3]) fun v25 => someK (lLoad1 [v25] H16) fun v26 => call f_age_Add [a3, v26] H16 τ17 fun v27 H28 τ29 => someK (pBuild [(.str []), (.str []), (.bool false), (.bool false), (.str []), (.int .i64 (.ofNat 0))] [(0, 5), (5, 1)] [v24, v27]) fun v30 => effK (eBuildSlice 1 6 [(.str []), (.str []), (.bool false), (.bool false), (.str []), (.int .i64 (.ofNat 0))] [(0, 6)] [v30] H28 τ29) fun v31 H32 τ33 => effK (eAppend 6 64 [v23, v31] H32 τ33) fun v34 H35 τ36 => someK (pNilck [a0]) fun v37 => someK (pFieldAddr 0 [v37]) fun v38 => effK (eStore 1 [v38, v34] H35 τ36) fun v39 H40 τ41 => bif chkLoads [H16, H28, H32, H35, H40] (((.load (some 5)), [v0], 0, 1) :: (((.load none), [v22], 0, 2) :: [])) then someK (pNilck [a0]) fun v42 => someK (pFieldAddr 0 [v42]) fun v43 => someK (lLoad1 [v43] H40) fun v44 => someK (pLen [v44]) fun v45 =>
    binK .gtr v45 (.int .i64 (.ofNat 32)) fun v46 => condK v46 (someK (pNilck [a0]) fun v47 => someK (pFieldAddr 0 [v47]) fun v48 => someK (lLoad1 [v48] H40) fun v49 => call f_slices_Delete_preflight_row [v49, (.int .i64 (.ofNat 0)), (.int .i64 (.ofNat 1))] H40 τ41 fun v50 H51 τ52 => someK (pNilck [a0]) fun v53 => someK (pFieldAddr 0 [v53]) fun v54 => effK (eStore 1 [v54, v50] H51 τ52) fun v55 H56 τ57 => q (.tup []) H56 τ57) (q (.tup []) H40 τ41) else none)
theorem s_preflight_Table_put_eq (call : CallK) (N : Nat) (a0 a1 a2 a3 : V) (H : Heap) (τ : Tape) (q : KV) : s_preflight_Table_put call N a0 a1 a2 a3 H τ q = funK call N fn_preflight_Table_put [a0, a1, a2, a3] H τ q := by kernel_rfl
def e_preflight_Table_put (call : CallK) (N : Nat) (vs : List V) (H : Heap) (τ : Tape) (q : KV) : Ans := match vs with | [a0, a1, a2, a3] => s_preflight_Table_put call N a0 a1 a2 a3 H τ q | _ => none
theorem e_preflight_Table_put_ok : EntOk fn_preflight_Table_put e_preflight_Table_put := by
  intro call N vs H τ q r h
  unfold e_preflight_Table_put at h
  split at h
  · rw [s_preflight_Table_put_eq] at h; exact h
  · cases h
theorem e_preflight_Table_put_nat : EntNat e_preflight_Table_put := by
  intro c hn N vs H τ q
  unfold e_preflight_Table_put
  split
  · rw [s_preflight_Table_put_eq, s_preflight_Table_put_eq]; exact funK_ent hn _ _ _ _ _ _
  · rfl
/-- (*ostiary/preflight.Table).Allows$1 -/
def fn_preflight_Table_Allows_1 : Fun := ⟨7, (.seq (.reg [iR 9 (.p .mv) [(.c (.bool false))]]) (.keep [0, 1, 2, 3, 4, 5, 6] (.seq (.reg [iR 10 (.l (.load none)) [(.t 2)], iR 11 (.l (.load none)) [(.t 3)], iR 12 (.l (.load none)) [(.t 4)], iR 13 (.l (.load none)) [(.t 5)], iR 14 (.p .mv) [(.t 0)], iR 15 (.p .mv) [(.t 1)], iR 16 (.p (.build [(.str []), (.str []), (.bool false), (.bool false), (.str [])] [(0, 1), (1, 1), (2, 1), (3, 1), (4, 1)])) [(.t 11), (.t 12), (.t 13), (.t 14), (.t 15)], iR 17 (.l (.load none)) [(.t 6)], iR 18 (.call 95) [(.t 10), (.t 16), (.t 17)], iR 9 (.p .mv) [(.t 18)]]) (.keep [9] (.keep [9] .ret))))), [(.t 9)]⟩
def s_preflight_Table_Allows_1 (call : CallK) (N : Nat) (a0 a1 a2 a3 a4 a5 a6 : V) (H : Heap) (τ : Tape) (q : KV) : Ans := someK (lLoad1 [a2] H) fun v0 => someK (lLoad1 [a3] H) fun v1 => someK (lLoad1 [a4] H) fun v2 => someK (lLoad1 [a5] H) fun v3 => someK (pBuild [(.str []), (.str []), (.bool false), (.bool false), (.str [])] [(0, 1), (1, 1), (2, 1), (3, 1), (4, 1)] [v1, v2, v3, a0, a1]) fun v4 => someK (lLoad1 [a6] H) fun v5 => call f_preflight_Table_holds [v0, v4, v5] H τ fun v6 H7 τ8 => q v6 H7 τ8
theorem s_preflight_Table_Allows_1_eq (call : CallK) (N : Nat) (a0 a1 a2 a3 a4 a5 a6 : V) (H : Heap) (τ : Tape) (q : KV) : s_preflight_Table_Allows_1 call N a0 a1 a2 a3 a4 a5 a6 H τ q = funK call N fn_preflight_Table_Allows_1 [a0, a1, a2, a3, a4, a5, a6] H τ q := by kernel_rfl
def e_preflight_Table_Allows_1 (call : CallK) (N : Nat) (vs : List V) (H : Heap) (τ : Tape) (q : KV) : Ans := match vs with | [a0, a1, a2, a3, a4, a5, a6] => s_preflight_Table_Allows_1 call N a0 a1 a2 a3 a4 a5 a6 H τ q | _ => none
theorem e_preflight_Table_Allows_1_ok : EntOk fn_preflight_Table_Allows_1 e_preflight_Table_Allows_1 := by
  intro call N vs H τ q r h
  unfold e_preflight_Table_Allows_1 at h
  split at h
  · rw [s_preflight_Table_Allows_1_eq] at h; exact h
  · cases h
theorem e_preflight_Table_Allows_1_nat : EntNat e_preflight_Table_Allows_1 := by
  intro c hn N vs H τ q
  unfold e_preflight_Table_Allows_1
  split
  · rw [s_preflight_Table_Allows_1_eq, s_preflight_Table_Allows_1_eq]; exact funK_ent hn _ _ _ _ _ _
  · rfl
/-- (*ostiary/preflight.Table).holds -/
def fn_preflight_Table_holds : Fun := ⟨3, (.seq (.reg [iR 4 (.e .box) [(.t 1)], iR 5 (.e .box) [(.t 2)], iR 6 (.p .mv) [(.c (.bool false))]]) (.keep [0, 4, 5] (.seq (.reg [iR 7 (.p .mv) [(.t 0)], iR 8 (.p .nilck) [(.t 7)], iR 9 (.p (.fieldAddr 0)) [(.t 8)], iR 10 (.l (.load none)) [(.t 9)], iR 11 (.p (.mkFunc 150 0)) [(.t 4), (.t 5)], iR 12 (.call 149) [(.t 10), (.t 11)], iR 6 (.p .mv) [(.t 12)]]) (.keep [6] (.keep [6] .ret))))), [(.t 6)]⟩
def s_preflight_Table_holds (call : CallK) (N : Nat) (a0 a1 a2 : V) (H : Heap) (τ : Tape) (q : KV) : Ans := effK (eBox [a1] H τ) fun v0 H1 τ2 => effK (eBox [a2] H1 τ2) fun v3 H4 τ5 => someK (pNilck [a0]) fun v6 => someK (pFieldAddr 0 [v6]) fun v7 => someK (lLoad1 [v7] H4) fun v8 => someK (some (V.func f_preflight_Table_holds_1 (List.take 0 [v0, v3]) (List.drop 0 [v0, v3]))) fun v9 => call f_slices_ContainsFunc_preflight_row [v8, v9] H4 τ5 fun v10 H11 τ12 => q v10 H11 τ12
theorem s_preflight_Table_holds_eq (call : CallK) (N : Nat) (a0 a1 a2 : V) (H : Heap) (τ : Tape) (q : KV) : s_preflight_Table_holds call N a0 a1 a2 H τ q = funK call N fn_preflight_Table_holds [a0, a1, a2] H τ q := by kernel_rfl
def e_preflight_Table_holds (call : CallK) (N : Nat) (vs : List V) (H : Heap) (τ : Tape) (q : KV) : Ans := match vs with | [a0, a1, a2] => s_preflight_Table_holds call N a0 a1 a2 H τ q | _ => none
theorem e_preflight_Table_holds_ok : EntOk fn_preflight_Table_holds e_preflight_Table_holds := by
  intro call N vs H τ q r h
  unfold e_preflight_Table_holds at h
  split at h
  · rw [s_preflight_Table_holds_eq] at h; exact h
  · cases h
theorem e_preflight_Table_holds_nat : EntNat e_preflight_Table_holds := by
  intro c hn N vs H τ q
  unfold e_preflight_Table_holds
  split
  · rw [s_preflight_Table_holds_eq, s_preflight_Table_holds_eq]; exact funK_ent hn _ _ _ _ _ _
  · rfl
/-- ostiary/infra.Token -/
def fn_infra_Token : Fun := ⟨1, (.seq (.reg [iR 2 (.p .mv) [(.c (.bool false))]]) (.keep [0] (.seq (.seq (.reg [iR 6 (.p .mv) [(.t 0)], iR 7 (.p .lenS) [(.t 6)], iR 8 (.p .mv) [(.c (.int .i64 (.ofNat 0)))]]) (.keep [0, 7, 8] (.block 0 (.loop (.keep [0, 7, 8] (.seq (.reg [iR 9 (.p (.bin .lss)) [(.t 8), (.t 7)]]) (.keep [0, 7, 8, 9] (.seq (.cond (.t 9) .skip (.keep [0] (.exit 0))) (.keep [0, 7, 8] (.seq (.block 1 (.seq (.reg [iR 10 (.p .mv) [(.t 8)], iR 3 (.p .mv) [(.t 10)]]) (.keep [0, 3, 7, 8] (.seq (.reg [iR 11 (.p .mv) [(.t 0)], iR 12 (.p .mv) [(.t 3)], iR 13 (.p .strIndex) [(.t 11), (.t 12)], iR 4 (.p .mv) [(.t 13)]]) (.keep [0, 4, 7, 8] (.seq (.reg [iR 14 (.p .mv) [(.t 4)], iR 15 (.p (.bin .geq)) [(.t 14), (.c (.int .u8 (.ofNat 97)))], iR 16 (.p .mv) [(.t 15)], iG 17 16 true (.p .mv) [(.t 4)], iG 18 16 true (.p (.bin .leq)) [(.t 17), (.c (.int .u8 (.ofNat 122)))],
    iR 19 (.p .pick) [(.t 16), (.t 18), (.c (.bool false))], iR 20 (.p .mv) [(.t 19)], iG 21 20 false (.p .mv) [(.t 4)], iG 22 20 false (.p (.bin .geq)) [(.t 21), (.c (.int .u8 (.ofNat 65)))], iG 23 20 false (.p .mv) [(.t 22)], iG 24 23 true (.p .mv) [(.t 4)], iG 25 23 true (.p (.bin .leq)) [(.t 24), (.c (.int .u8 (.ofNat 90)))], iG 26 20 false (.p .pick) [(.t 23), (.t 25), (.c (.bool false))], iR 27 (.p .pick) [(.t 20), (.c (.bool true)), (.t 26)], iR 28 (.p .mv) [(.t 27)], iG 29 28 false (.p .mv) [(.t 4)], iG 30 28 false (.p (.bin .geq)) [(.t 29), (.c (.int .u8 (.ofNat 48)))], iG 31 28 false (.p .mv) [(.t 30)], iG 32 31 true (.p .mv) [(.t 4)], iG 33 31 true (.p (.bin .leq)) [(.t 32), (.c (.int .u8 (.ofNat 57)))], iG 34 28 false (.p .pick) [(.t 31), (.t 33), (.c (.bool false))], iR 35 (.p .pick) [(.t 28), (.c (.bool true)), (.t 34)], iR 5 (.p .mv) [(.t 35)]])
    (.keep [0, 4, 5, 7, 8] (.seq (.reg [iR 36 (.p .mv) [(.t 5)], iR 37 (.p (.un .not)) [(.t 36)], iR 38 (.p .mv) [(.t 37)], iG 39 38 true (.p .mv) [(.t 4)], iG 40 38 true (.call 151) [(.c (.str (bs [33, 35, 36, 37, 38, 39, 42, 43, 45, 46, 94, 95, 96, 124, 126]))), (.t 39)], iG 41 38 true (.p (.bin .lss)) [(.t 40), (.c (.int .i64 (.ofNat 0)))], iR 42 (.p .pick) [(.t 38), (.t 41), (.c (.bool false))]]) (.keep [0, 7, 8, 42] (.cond (.t 42) (.seq (.reg [iR 2 (.p .mv) [(.c (.bool false))]]) (.keep [2] (.keep [2] .ret))) .skip)))))))))) (.keep [0, 7, 8] (.reg [iR 43 (.p (.bin .add)) [(.t 8), (.c (.int .i64 (.ofNat 1)))], iR 8 (.p .mv) [(.t 43)]])))))))))))) (.keep [0] (.seq (.reg [iR 44 (.p .mv) [(.t 0)], iR 45 (.p (.bin .neq)) [(.t 44), (.c (.str []))], iR 2 (.p .mv) [(.t 45)]]) (.keep [2] (.keep [2] .ret))))))), [(.t 2)]⟩
def s_infra_Token_j0 (call : CallK) (N : Nat) (q : KV) (st : St) (τ : Tape) : Ans := match st with
  | ⟨fr, H⟩ => getK fr 0 fun t0 => binK .neq t0 (.str []) fun v1 => q v1 H τ
def s_infra_Token_l1 (call : CallK) (N : Nat) (st : St) (τ : Tape) (k : KC) : Ans := match st with
  | ⟨fr, H⟩ => getK fr 0 fun t0 => getK fr 7 fun t7 => getK fr 8 fun t8 => binK .lss t8 t7 fun v2 => condK v2 (someK (pStrIndex [t0, t8]) fun v3 => binK .geq v3 (.int .u8 (.ofNat 97)) fun v4 => gK v4 true (fun q' => q' v3 H τ) H τ fun v5 H6 τ7 => gK v4 true (fun q' => binK .leq v5 (.int .u8 (.ofNat 122)) fun v => q' v H6 τ7) H6 τ7 fun v8 H9 τ10 => someK (pPick [v4, v8, (.bool false)]) fun v11 => gK v11 false (fun q' => q' v3 H9 τ10) H9 τ10 fun v12 H13 τ14 => gK v11 false (fun q' => binK .geq v12 (.int .u8 (.ofNat 65)) fun v => q' v H13 τ14) H13 τ14 fun v15 H16 τ17 => gK v11 false (fun q' => q' v15 H16 τ17) H16 τ17 fun v18 H19 τ20 => gK v18 true (fun q' => q' v3 H19 τ20) H19 τ20 fun v21 H22 τ23 => gK v18 true (fun q' => binK .leq v21 (.int .u8 (.ofNat 90)) fun v => q' v H22 τ23) H22 τ23 fun v24 H25 τ26 =>
    gK v11 false (fun q' => someK (pPick [v18, v24, (.bool false)]) fun v => q' v H25 τ26) H25 τ26 fun v27 H28 τ29 => someK (pPick [v11, (.bool true), v27]) fun v30 => gK v30 false (fun q' => q' v3 H28 τ29) H28 τ29 fun v31 H32 τ33 => gK v30 false (fun q' => binK .geq v31 (.int .u8 (.ofNat 48)) fun v => q' v H32 τ33) H32 τ33 fun v34 H35 τ36 => gK v30 false (fun q' => q' v34 H35 τ36) H35 τ36 fun v37 H38 τ39 => gK v37 true (fun q' => q' v3 H38 τ39) H38 τ39 fun v40 H41 τ42 => gK v37 true (fun q' => binK .leq v40 (.int .u8 (.ofNat 57)) fun v => q' v H41 τ42) H41 τ42 fun v43 H44 τ45 => gK v30 false (fun q' => someK (pPick [v37, v43, (.bool false)]) fun v => q' v H44 τ45) H44 τ45 fun v46 H47 τ48 => someK (pPick [v30, (.bool true), v46]) fun v49 => unK .not v49 fun v50 => gK v50 true (fun q' => q' v3 H47 τ48) H47 τ48 fun v51 H52 τ53 =>
    gK v50 true (fun q' => call f_strings_IndexByte [(.str (bs [33, 35, 36, 37, 38, 39, 42, 43, 45, 46, 94, 95, 96, 124, 126])), v51] H52 τ53 q') H52 τ53 fun v54 H55 τ56 => gK v50 true (fun q' => binK .lss v54 (.int .i64 (.ofNat 0)) fun v => q' v H55 τ56) H55 τ56 fun v57 H58 τ59 => someK (pPick [v50, v57, (.bool false)]) fun v60 => condK v60 (k .ret ⟨(T.set .leaf 2 (.bool false)), H58⟩ τ59) (binK .add t8 (.int .i64 (.ofNat 1)) fun v61 => k .normal ⟨(T.set (T.set (T.set (T.set (T.set .leaf 0 t0) 7 t7) 8 t8) 43 v61) 8 v61), H58⟩ τ59)) (k (.exit 0) ⟨(T.set .leaf 0 t0), H⟩ τ)
def s_infra_Token (call : CallK) (N : Nat) (a0 : V) (H : Heap) (τ : Tape) (q : KV) : Ans := someK (pLenS [a0]) fun v0 => loopK (s_infra_Token_l1 call N) N ⟨(T.set (T.set (T.set .leaf 0 a0) 7 v0) 8 (.int .i64 (.ofNat 0))), H⟩ τ (blockK 0 (seqK (s_infra_Token_j0 call N q) (endK [(.t 2)] q)))
theorem s_infra_Token_eq (call : CallK) (N : Nat) (a0 : V) (H : Heap) (τ : Tape) (q : KV) : s_infra_Token call N a0 H τ q = funK call N fn_infra_Token [a0] H τ q := by kernel_rfl
def e_infra_Token (call : CallK) (N : Nat) (vs : List V) (H : Heap) (τ : Tape) (q : KV) : Ans := match vs with | [a0] => s_infra_Token call N a0 H τ q | _ => none
theorem e_infra_Token_ok : EntOk fn_infra_Token e_infra_Token := by
  intro call N vs H τ q r h
  unfold e_infra_Token at h
  split at h
  · rw [s_infra_Token_eq] at h; exact h
  · cases h
theorem e_infra_Token_nat : EntNat e_infra_Token := by
  intro c hn N vs H τ q
  unfold e_infra_Token
  split
  · rw [s_infra_Token_eq, s_infra_Token_eq]; exact funK_ent hn _ _ _ _ _ _
  · rfl
/-- ostiary/headers.is -/
def fn_headers_is : Fun := ⟨2, (.seq (.reg [iR 2 (.e .box) [(.t 0)], iR 4 (.p .mv) [(.c (.bool false))]]) (.keep [1, 2] (.seq (.reg [iR 5 (.p (.fieldAddr 0)) [(.t 2)], iR 6 (.l (.load none)) [(.t 5)], iR 7 (.call 87) [(.t 6)], iR 8 (.p .mv) [(.t 1)], iR 9 (.call 87) [(.t 8)], iR 10 (.p (.bin .eql)) [(.t 7), (.t 9)], iR 4 (.p .mv) [(.t 10)]]) (.keep [4] (.keep [4] .ret))))), [(.t 4)]⟩
def s_headers_is (call : CallK) (N : Nat) (a0 a1 : V) (H : Heap) (τ : Tape) (q : KV) : Ans := effK (eBox [a0] H τ) fun v0 H1 τ2 => someK (pFieldAddr 0 [v0]) fun v3 => someK (lLoad1 [v3] H1) fun v4 => call f_infra_Lower [v4] H1 τ2 fun v5 H6 τ7 => call f_infra_Lower [a1] H6 τ7 fun v8 H9 τ10 => binK .eql v5 v8 fun v11 => q v11 H9 τ10
theorem s_headers_is_eq (call : CallK) (N : Nat) (a0 a1 : V) (H : Heap) (τ : Tape) (q : KV) : s_headers_is call N a0 a1 H τ q = funK call N fn_headers_is [a0, a1] H τ q := by kernel_rfl
def e_headers_is (call : CallK) (N : Nat) (vs : List V) (H : Heap) (τ : Tape) (q : KV) : Ans := match vs with | [a0, a1] => s_headers_is call N a0 a1 H τ q | _ => none
theorem e_headers_is_ok : EntOk fn_headers_is e_headers_is := by
  intro call N vs H τ q r h
  unfold e_headers_is at h
  split at h
  · rw [s_headers_is_eq] at h; exact h
  · cases h
theorem e_headers_is_nat : EntNat e_headers_is := by
  intro c hn N vs H τ q
  unfold e_headers_is
  split
  · rw [s_headers_is_eq, s_headers_is_eq]; exact funK_ent hn _ _ _ _ _ _
  · rfl
/-- internal/strconv.FormatInt -/
def fn_strconv_FormatInt_n117 : Fun := ⟨2, (.seq (.reg [iR 4 (.p .mv) [(.c (.str []))]]) (.keep [0, 1] (.seq (.seq (.reg [iR 10 (.p .mv) [(.t 1)], iR 11 (.p (.bin .eql)) [(.t 10), (.c (.int .i64 (.ofNat 10)))]]) (.keep [0, 1, 11] (.cond (.t 11) (.seq (.seq (.reg [iR 12 (.p .mv) [(.t 0)], iR 13 (.p (.bin .leq)) [(.c (.int .i64 (.ofNat 0))), (.t 12)], iR 14 (.p .mv) [(.t 13)], iG 15 14 true (.p .mv) [(.t 0)], iG 16 14 true (.p (.bin .lss)) [(.t 15), (.c (.int .i64 (.ofNat 100)))], iR 17 (.p .pick) [(.t 14), (.t 16), (.c (.bool false))]]) (.keep [0, 17] (.cond (.t 17) (.seq (.reg [iR 18 (.p .mv) [(.t 0)], iR 19 (.call 169) [(.t 18)], iR 4 (.p .mv) [(.t 19)]]) (.keep [4] (.keep [4] .ret))) .skip))) (.keep [0] (.seq (.reg [iR 5 (.e (.alloc (repl 24 [(.int .u8 (.ofNat 0))]))) []]) (.keep [0, 5] (.seq (.reg [iR 20 (.p .mv) [(.t 0)], iR 21 (.p (.toInt .u64)) [(.t 20)],
    iR 6 (.p .mv) [(.t 21)]]) (.keep [0, 5, 6] (.seq (.seq (.reg [iR 22 (.p .mv) [(.t 0)], iR 23 (.p (.bin .lss)) [(.t 22), (.c (.int .i64 (.ofNat 0)))]]) (.keep [0, 5, 6, 23] (.cond (.t 23) (.reg [iR 24 (.p .mv) [(.t 6)], iR 25 (.p (.un .neg)) [(.t 24)], iR 6 (.p .mv) [(.t 25)]]) .skip))) (.keep [0, 5, 6] (.seq (.reg [iR 26 (.p .mv) [(.t 6)], iR 27 (.call 170) [(.t 26)], iR 7 (.p .mv) [(.t 27)]]) (.keep [0, 5, 6, 7] (.seq (.reg [iR 28 (.p .mv) [(.t 7)], iR 29 (.p (.bin .add)) [(.c (.int .i64 (.ofNat 1))), (.t 28)], iR 30 (.p (.arrSlice 24 1 true true false)) [(.t 5), (.c (.int .i64 (.ofNat 1))), (.t 29)], iR 31 (.p .mv) [(.t 6)], iR 32 (.call 171) [(.t 30), (.t 31)]]) (.keep [0, 5, 7] (.seq (.seq (.reg [iR 33 (.p .mv) [(.t 0)], iR 34 (.p (.bin .lss)) [(.t 33), (.c (.int .i64 (.ofNat 0)))]]) (.keep [5, 7, 34] (.cond (.t 34)
    (.seq (.reg [iR 35 (.p (.arrIdx 24 1)) [(.t 5), (.c (.int .i64 (.ofNat 0)))], ⟨none, none, (.e (.store 1)), [(.t 35), (.c (.int .u8 (.ofNat 45)))], none⟩]) (.keep [5, 7] (.seq (.reg [iR 36 (.p .mv) [(.t 7)], iR 37 (.p (.bin .add)) [(.c (.int .i64 (.ofNat 1))), (.t 36)], iR 38 (.p (.arrSlice 24 1 false true false)) [(.t 5), (.t 37)], iR 39 (.l .bytesStr) [(.t 38)], iR 4 (.p .mv) [(.t 39)]]) (.keep [4] (.keep [4] .ret))))) .skip))) (.keep [5, 7] (.seq (.reg [iR 40 (.p .mv) [(.t 7)], iR 41 (.p (.bin .add)) [(.c (.int .i64 (.ofNat 1))), (.t 40)], iR 42 (.p (.arrSlice 24 1 true true false)) [(.t 5), (.c (.int .i64 (.ofNat 1))), (.t 41)], iR 43 (.l .bytesStr) [(.t 42)], iR 4 (.p .mv) [(.t 43)]]) (.keep [4] (.keep [4] .ret))))))))))))))))) .skip))) (.keep [0, 1] (.seq (.reg [iR 45 (.p .mv) [(.t 0)], iR 46 (.p (.toInt .u64)) [(.t 45)], iR 47 (.p .mv) [(.t 1)], iR 48 (.p .mv) [(.t 0)],
    iR 49 (.p (.bin .lss)) [(.t 48), (.c (.int .i64 (.ofNat 0)))], iR 50 (.call 172) [(.c .nils), (.t 46), (.t 47), (.t 49), (.c (.bool false))], iR 44 (.p .mv) [(.t 50)], iR 51 (.p (.extract 0)) [(.t 44)], iR 52 (.p (.extract 1)) [(.t 44)], iR 8 (.p .mv) [(.t 51)], iR 9 (.p .mv) [(.t 52)]]) (.keep [9] (.seq (.reg [iR 53 (.p .mv) [(.t 9)], iR 4 (.p .mv) [(.t 53)]]) (.keep [4] (.keep [4] .ret))))))))), [(.t 4)]⟩
def s_strconv_FormatInt_n117_j0 (call : CallK) (N : Nat) (q : KV) (st : St) (τ : Tape) : Ans := match st with
  | ⟨fr, H⟩ => getK fr 0 fun t0 => getK fr 1 fun t1 => toIntK .u64 t0 fun v17 => binK .lss t0 (.int .i64 (.ofNat 0)) fun v18 => call f_strconv_formatBits [.nils, v17, t1, v18, (.bool false)] H τ fun v19 H20 τ21 => someK (pExtract 0 [v19]) fun v22 => someK (pExtract 1 [v19]) fun v23 => q v23 H20 τ21
def s_strconv_FormatInt_n117_j1 (call : CallK) (N : Nat) (q : KV) (st : St) (τ : Tape) : Ans := match st with
  | ⟨fr, H⟩ => getK fr 0 fun t0 => getK fr 5 fun t5 => getK fr 6 fun t6 => call f_strconv_numDigits [t6] H τ fun v24 H25 τ26 => binK .add (.int .i64 (.ofNat 1)) v24 fun v27 => someK (pArrSlice 24 1 true true false [t5, (.int .i64 (.ofNat 1)), v27]) fun v28 => call f_strconv_formatBase10 [v28, t6] H25 τ26 fun v29 H30 τ31 => binK .lss t0 (.int .i64 (.ofNat 0)) fun v32 => condK v32 (someK (pArrIdx 24 1 [t5, (.int .i64 (.ofNat 0))]) fun v33 => effK (eStore 1 [v33, (.int .u8 (.ofNat 45))] H30 τ31) fun v34 H35 τ36 => binK .add (.int .i64 (.ofNat 1)) v24 fun v37 => someK (pArrSlice 24 1 false true false [t5, v37]) fun v38 => someK (lBytesStr [v38] H35) fun v39 => q v39 H35 τ36) (binK .add (.int .i64 (.ofNat 1)) v24 fun v40 => someK (pArrSlice 24 1 true true false [t5, (.int .i64 (.ofNat 1)), v40]) fun v41 => someK (lBytesStr [v41] H30) fun v42 => q v42 H30 τ31)
def s_strconv_FormatInt_n117 (call : CallK) (N : Nat) (a0 a1 : V) (H : Heap) (τ : Tape) (q : KV) : Ans := binK .eql a1 (.int .i64 (.ofNat 10)) fun v0 => condK v0 (binK .leq (.int .i64 (.ofNat 0)) a0 fun v1 => gK v1 true (fun q' => q' a0 H τ) H τ fun v2 H3 τ4 => gK v1 true (fun q' => binK .lss v2 (.int .i64 (.ofNat 100)) fun v => q' v H3 τ4) H3 τ4 fun v5 H6 τ7 => someK (pPick [v1, v5, (.bool false)]) fun v8 => condK v8 (call f_strconv_small [a0] H6 τ7 fun v9 H10 τ11 => q v9 H10 τ11) (effK (eAlloc (repl 24 [(.int .u8 (.ofNat 0))]) [] H6 τ7) fun v12 H13 τ14 => toIntK .u64 a0 fun v15 => binK .lss a0 (.int .i64 (.ofNat 0)) fun v16 => condK v16 (unK .neg v15 fun v43 => s_strconv_FormatInt_n117_j1 call N q ⟨(T.set (T.set (T.set (T.set (T.set (T.set (T.set .leaf 0 a0) 5 v12) 6 v15) 23 v16) 24 v15) 25 v43) 6 v43), H13⟩ τ14)
    (s_strconv_FormatInt_n117_j1 call N q ⟨(T.set (T.set (T.set (T.set .leaf 0 a0) 5 v12) 6 v15) 23 v16), H13⟩ τ14))) (toIntK .u64 a0 fun v44 => binK .lss a0 (.int .i64 (.ofNat 0)) fun v45 => call f_strconv_formatBits [.nils, v44, a1, v45, (.bool false)] H τ fun v46 H47 τ48 => someK (pExtract 0 [v46]) fun v49 => someK (pExtract 1 [v46]) fun v50 => q v50 H47 τ48)
theorem s_strconv_FormatInt_n117_eq (call : CallK) (N : Nat) (a0 a1 : V) (H : Heap) (τ : Tape) (q : KV) : s_strconv_FormatInt_n117 call N a0 a1 H τ q = funK call N fn_strconv_FormatInt_n117 [a0, a1] H τ q := by kernel_rfl
def e_strconv_FormatInt_n117 (call : CallK) (N : Nat) (vs : List V) (H : Heap) (τ : Tape) (q : KV) : Ans := match vs with | [a0, a1] => s_strconv_FormatInt_n117 call N a0 a1 H τ q | _ => none
theorem e_strconv_FormatInt_n117_ok : EntOk fn_strconv_FormatInt_n117 e_strconv_FormatInt_n117 := by
  intro call N vs H τ q r h
  unfold e_strconv_FormatInt_n117 at h
  split at h
  · rw [s_strconv_FormatInt_n117_eq] at h; exact h
  · cases h
theorem e_strconv_FormatInt_n117_nat : EntNat e_strconv_FormatInt_n117 := by
  intro c hn N vs H τ q
  unfold e_strconv_FormatInt_n117
  split
  · rw [s_strconv_FormatInt_n117_eq, s_strconv_FormatInt_n117_eq]; exact funK_ent hn _ _ _ _ _ _
  · rfl
/-- ostiary/age.Add -/
def fn_age_Add : Fun := ⟨2, (.seq (.reg [iR 4 (.p .mv) [(.c (.int .i64 (.ofNat 0)))]]) (.keep [0, 1] (.seq (.block 0 (.seq (.reg [iR 6 (.p .mv) [(.t 1)], iR 7 (.p (.bin .gtr)) [(.t 6), (.c (.int .i64 (.ofNat 0)))], iR 8 (.p .mv) [(.t 7)], iG 9 8 true (.p .mv) [(.t 0)], iG 10 8 true (.p .mv) [(.t 1)], iG 11 8 true (.p (.bin .sub)) [(.c (.int .i64 (.ofNat 9223372036854775807))), (.t 10)], iG 12 8 true (.p (.bin .gtr)) [(.t 9), (.t 11)], iR 13 (.p .pick) [(.t 8), (.t 12), (.c (.bool false))], iR 5 (.p .mv) [(.t 13)]]) (.keep [0, 1, 5] (.cond (.t 5) (.seq (.reg [iR 4 (.p .mv) [(.c (.int .i64 (.ofNat 9223372036854775807)))]]) (.keep [4] (.keep [4] .ret))) (.seq (.reg [iR 15 (.p .mv) [(.t 1)], iR 16 (.p (.bin .lss)) [(.t 15), (.c (.int .i64 (.ofNat 0)))], iR 17 (.p .mv) [(.t 16)], iG 18 17 true (.p .mv) [(.t 0)], iG 19 17 true (.p .mv) [(.t 1)],
    iG 20 17 true (.p (.bin .sub)) [(.c (.int .i64 (.negSucc 9223372036854775807))), (.t 19)], iG 21 17 true (.p (.bin .lss)) [(.t 18), (.t 20)], iR 22 (.p .pick) [(.t 17), (.t 21), (.c (.bool false))], iR 14 (.p .mv) [(.t 22)]]) (.keep [0, 1, 14] (.cond (.t 14) (.seq (.reg [iR 4 (.p .mv) [(.c (.int .i64 (.ofNat 0)))]]) (.keep [4] (.keep [4] .ret))) .skip))))))) (.keep [0, 1] (.seq (.reg [iR 23 (.p .mv) [(.t 0)], iR 24 (.p .mv) [(.t 1)], iR 25 (.p (.bin .add)) [(.t 23), (.t 24)], iR 26 (.p .max2) [(.t 25), (.c (.int .i64 (.ofNat 0)))], iR 4 (.p .mv) [(.t 26)]]) (.keep [4] (.keep [4] .ret))))))), [(.t 4)]⟩
def s_age_Add (call : CallK) (N : Nat) (a0 a1 : V) (H : Heap) (τ : Tape) (q : KV) : Ans := binK .gtr a1 (.int .i64 (.ofNat 0)) fun v0 => gK v0 true (fun q' => q' a0 H τ) H τ fun v1 H2 τ3 => gK v0 true (fun q' => q' a1 H2 τ3) H2 τ3 fun v4 H5 τ6 => gK v0 true (fun q' => binK .sub (.int .i64 (.ofNat 9223372036854775807)) v4 fun v => q' v H5 τ6) H5 τ6 fun v7 H8 τ9 => gK v0 true (fun q' => binK .gtr v1 v7 fun v => q' v H8 τ9) H8 τ9 fun v10 H11 τ12 => someK (pPick [v0, v10, (.bool false)]) fun v13 => condK v13 (q (.int .i64 (.ofNat 9223372036854775807)) H11 τ12) (binK .lss a1 (.int .i64 (.ofNat 0)) fun v14 => gK v14 true (fun q' => q' a0 H11 τ12) H11 τ12 fun v15 H16 τ17 => gK v14 true (fun q' => q' a1 H16 τ17) H16 τ17 fun v18 H19 τ20 => gK v14 true (fun q' => binK .sub (.int .i64 (.negSucc 9223372036854775807)) v18 fun v => q' v H19 τ20) H19 τ20 fun v21 H22 τ23 =>
    gK v14 true (fun q' => binK .lss v15 v21 fun v => q' v H22 τ23) H22 τ23 fun v24 H25 τ26 => someK (pPick [v14, v24, (.bool false)]) fun v27 => condK v27 (q (.int .i64 (.ofNat 0)) H25 τ26) (binK .add a0 a1 fun v28 => someK (pMax [v28, (.int .i64 (.ofNat 0))]) fun v29 => q v29 H25 τ26))
theorem s_age_Add_eq (call : CallK) (N : Nat) (a0 a1 : V) (H : Heap) (τ : Tape) (q : KV) : s_age_Add call N a0 a1 H τ q = funK call N fn_age_Add [a0, a1] H τ q := by kernel_rfl
def e_age_Add (call : CallK) (N : Nat) (vs : List V) (H : Heap) (τ : Tape) (q : KV) : Ans := match vs with | [a0, a1] => s_age_Add call N a0 a1 H τ q | _ => none
theorem e_age_Add_ok : EntOk fn_age_Add e_age_Add := by
  intro call N vs H τ q r h
  unfold e_age_Add at h
  split at h
  · rw [s_age_Add_eq] at h; exact h
  · cases h
theorem e_age_Add_nat : EntNat e_age_Add := by
  intro c hn N vs H τ q
  unfold e_age_Add
  split
  · rw [s_age_Add_eq, s_age_Add_eq]; exact funK_ent hn _ _ _ _ _ _
  · rfl
/-- strings.Trim -/
def fn_strings_Trim : Fun := ⟨2, (.seq (.reg [iR 4 (.p .mv) [(.c (.str []))]]) (.keep [0, 1] (.seq (.seq (.reg [iR 7 (.p .mv) [(.t 0)], iR 8 (.p (.bin .eql)) [(.t 7), (.c (.str []))], iR 9 (.p .mv) [(.t 8)], iG 10 9 false (.p .mv) [(.t 1)], iG 11 9 false (.p (.bin .eql)) [(.t 10), (.c (.str []))], iR 12 (.p .pick) [(.t 9), (.c (.bool true)), (.t 11)]]) (.keep [0, 1, 12] (.cond (.t 12) (.seq (.reg [iR 13 (.p .mv) [(.t 0)], iR 4 (.p .mv) [(.t 13)]]) (.keep [4] (.keep [4] .ret))) .skip))) (.keep [0, 1] (.seq (.seq (.reg [iR 14 (.p .mv) [(.t 1)], iR 15 (.p .lenS) [(.t 14)], iR 16 (.p (.bin .eql)) [(.t 15), (.c (.int .i64 (.ofNat 1)))], iR 17 (.p .mv) [(.t 16)], iG 18 17 true (.p .mv) [(.t 1)], iG 19 17 true (.p .strIndex) [(.t 18), (.c (.int .i64 (.ofNat 0)))], iG 20 17 true (.p (.bin .lss)) [(.t 19), (.c (.int .u8 (.ofNat 128)))],
    iR 21 (.p .pick) [(.t 17), (.t 20), (.c (.bool false))]]) (.keep [0, 1, 21] (.cond (.t 21) (.seq (.draw [iR 22 (.p .mv) [(.t 0)], iR 23 (.p .mv) [(.t 1)], iR 24 (.p .strIndex) [(.t 23), (.c (.int .i64 (.ofNat 0)))], iR 25 (.call 174) [(.t 22), (.t 24)], iR 26 (.p .mv) [(.t 1)], iR 27 (.p .strIndex) [(.t 26), (.c (.int .i64 (.ofNat 0)))], iR 28 (.call 173) [(.t 25), (.t 27)], iR 4 (.p .mv) [(.t 28)]]) (.keep [4] (.keep [4] .ret))) .skip))) (.keep [0, 1] (.seq (.seq (.reg [iR 30 (.p .mv) [(.t 1)], iR 31 (.call 175) [(.t 30)], iR 29 (.p .mv) [(.t 31)], iR 32 (.p (.extract 0)) [(.t 29)], iR 33 (.p (.extract 1)) [(.t 29)], iR 5 (.e (.alloc (repl 256 [(.bool false)]))) [], ⟨none, none, (.e (.store 256)), [(.t 5), (.t 32)], none⟩, iR 6 (.p .mv) [(.t 33)]]) (.keep [0, 1, 5, 6] (.seq (.reg [iR 34 (.p .mv) [(.t 6)]]) (.keep [0, 1, 5, 34] (.cond (.t 34) (.seq (.reg [iR 35 (.p .mv) [(.t 0)],
    iR 36 (.call 177) [(.t 35), (.t 5)], iR 37 (.call 176) [(.t 36), (.t 5)], iR 4 (.p .mv) [(.t 37)]]) (.keep [4] (.keep [4] .ret))) .skip))))) (.keep [0, 1] (.seq (.reg [iR 38 (.p .mv) [(.t 0)], iR 39 (.p .mv) [(.t 1)], iR 40 (.call 179) [(.t 38), (.t 39)], iR 41 (.p .mv) [(.t 1)], iR 42 (.call 178) [(.t 40), (.t 41)], iR 4 (.p .mv) [(.t 42)]]) (.keep [4] (.keep [4] .ret))))))))))), [(.t 4)]⟩
def s_strings_Trim (call : CallK) (N : Nat) (a0 a1 : V) (H : Heap) (τ : Tape) (q : KV) : Ans := binK .eql a0 (.str []) fun v0 => gK v0 false (fun q' => q' a1 H τ) H τ fun v1 H2 τ3 => gK v0 false (fun q' => binK .eql v1 (.str []) fun v => q' v H2 τ3) H2 τ3 fun v4 H5 τ6 => someK (pPick [v0, (.bool true), v4]) fun v7 => condK v7 (q a0 H5 τ6) (someK (pLenS [a1]) fun v8 => binK .eql v8 (.int .i64 (.ofNat 1)) fun v9 => gK v9 true (fun q' => q' a1 H5 τ6) H5 τ6 fun v10 H11 τ12 => gK v9 true (fun q' => someK (pStrIndex [v10, (.int .i64 (.ofNat 0))]) fun v => q' v H11 τ12) H11 τ12 fun v13 H14 τ15 => gK v9 true (fun q' => binK .lss v13 (.int .u8 (.ofNat 128)) fun v => q' v H14 τ15) H14 τ15 fun v16 H17 τ18 => someK (pPick [v9, v16, (.bool false)]) fun v19 => condK v19 (someK (pStrIndex [a1, (.int .i64 (.ofNat 0))]) fun v20 => call f_strings_trimRightByte [a0, v20] H17 τ18 fun v21 H22 τ23 =>
    someK (pStrIndex [a1, (.int .i64 (.ofNat 0))]) fun v24 => call f_strings_trimLeftByte [v21, v24] H22 τ23 fun v25 H26 τ27 => q v25 H26 τ27) (call f_strings_makeASCIISet [a1] H17 τ18 fun v28 H29 τ30 => someK (pExtract 0 [v28]) fun v31 => someK (pExtract 1 [v28]) fun v32 => effK (eAlloc (repl 256 [(.bool false)]) [] H29 τ30) fun v33 H34 τ35 => effK (eStore 256 [v33, v31] H34 τ35) fun v36 H37 τ38 => condK v32 (call f_strings_trimRightASCII [a0, v33] H37 τ38 fun v39 H40 τ41 => call f_strings_trimLeftASCII [v39, v33] H40 τ41 fun v42 H43 τ44 => q v42 H43 τ44) (call f_strings_trimRightUnicode [a0, a1] H37 τ38 fun v45 H46 τ47 => call f_strings_trimLeftUnicode [v45, a1] H46 τ47 fun v48 H49 τ50 => q v48 H49 τ50)))
theorem s_strings_Trim_eq (call : CallK) (N : Nat) (a0 a1 : V) (H : Heap) (τ : Tape) (q : KV) : s_strings_Trim call N a0 a1 H τ q = funK call N fn_strings_Trim [a0, a1] H τ q := by kernel_rfl
def e_strings_Trim (call : CallK) (N : Nat) (vs : List V) (H : Heap) (τ : Tape) (q : KV) : Ans := match vs with | [a0, a1] => s_strings_Trim call N a0 a1 H τ q | _ => none
theorem e_strings_Trim_ok : EntOk fn_strings_Trim e_strings_Trim := by
  intro call N vs H τ q r h
  unfold e_strings_Trim at h
  split at h
  · rw [s_strings_Trim_eq] at h; exact h
  · cases h
theorem e_strings_Trim_nat : EntNat e_strings_Trim := by
  intro c hn N vs H τ q
  unfold e_strings_Trim
  split
  · rw [s_strings_Trim_eq, s_strings_Trim_eq]; exact funK_ent hn _ _ _ _ _ _
  · rfl
/-- ostiary/url.Own -/
def fn_url_Own : Fun := ⟨1, (.seq (.reg [iR 2 (.p .mv) [(.c (.int .i64 (.ofNat 0)))]]) (.keep [0] (.seq (.seq (.reg [iR 3 (.p .mv) [(.t 0)]]) (.keep [3] (.block 0 (.seq (.seq (.reg [iR 5 (.p (.bin .eql)) [(.t 3), (.c (.str (bs [104, 116, 116, 112])))], iR 4 (.p .mv) [(.t 5)]]) (.keep [3, 4] (.cond (.t 4) .skip (.reg [iR 6 (.p (.bin .eql)) [(.t 3), (.c (.str (bs [119, 115])))], iR 4 (.p .mv) [(.t 6)]])))) (.keep [3, 4] (.cond (.t 4) (.seq (.reg [iR 2 (.p .mv) [(.c (.int .i64 (.ofNat 80)))]]) (.keep [2] (.keep [2] .ret))) (.seq (.seq (.reg [iR 8 (.p (.bin .eql)) [(.t 3), (.c (.str (bs [104, 116, 116, 112, 115])))], iR 7 (.p .mv) [(.t 8)]]) (.keep [3, 7] (.cond (.t 7) .skip (.reg [iR 9 (.p (.bin .eql)) [(.t 3), (.c (.str (bs [119, 115, 115])))], iR 7 (.p .mv) [(.t 9)]])))) (.keep [3, 7] (.cond (.t 7) (.seq (.reg [iR 2 (.p .mv) [(.c (.int .i64 (.ofNat 443)))]])
    (.keep [2] (.keep [2] .ret))) (.seq (.reg [iR 11 (.p (.bin .eql)) [(.t 3), (.c (.str (bs [102, 116, 112])))], iR 10 (.p .mv) [(.t 11)]]) (.keep [10] (.cond (.t 10) (.seq (.reg [iR 2 (.p .mv) [(.c (.int .i64 (.ofNat 21)))]]) (.keep [2] (.keep [2] .ret))) .skip)))))))))))) (.keep [] (.seq (.reg [iR 2 (.p .mv) [(.c (.int .i64 (.negSucc 0)))]]) (.keep [2] (.keep [2] .ret))))))), [(.t 2)]⟩
def s_url_Own_j0 (call : CallK) (N : Nat) (q : KV) (st : St) (τ : Tape) : Ans := match st with
  | ⟨fr, H⟩ => q (.int .i64 (.negSucc 0)) H τ
def s_url_Own_j2 (call : CallK) (N : Nat) (q : KV) (st : St) (τ : Tape) : Ans := match st with
  | ⟨fr, H⟩ => getK fr 3 fun t3 => getK fr 7 fun t7 => condK t7 (q (.int .i64 (.ofNat 443)) H τ) (binK .eql t3 (.str (bs [102, 116, 112])) fun v2 => condK v2 (q (.int .i64 (.ofNat 21)) H τ) (s_url_Own_j0 call N q ⟨(T.set .leaf 10 v2), H⟩ τ))
def s_url_Own_j1 (call : CallK) (N : Nat) (q : KV) (st : St) (τ : Tape) : Ans := match st with
  | ⟨fr, H⟩ => getK fr 3 fun t3 => getK fr 4 fun t4 => condK t4 (q (.int .i64 (.ofNat 80)) H τ) (binK .eql t3 (.str (bs [104, 116, 116, 112, 115])) fun v1 => condK v1 (s_url_Own_j2 call N q ⟨(T.set (T.set .leaf 3 t3) 7 v1), H⟩ τ) (binK .eql t3 (.str (bs [119, 115, 115])) fun v3 => s_url_Own_j2 call N q ⟨(T.set (T.set (T.set (T.set .leaf 3 t3) 7 v1) 9 v3) 7 v3), H⟩ τ))
def s_url_Own (call : CallK) (N : Nat) (a0 : V) (H : Heap) (τ : Tape) (q : KV) : Ans := binK .eql a0 (.str (bs [104, 116, 116, 112])) fun v0 => condK v0 (s_url_Own_j1 call N q ⟨(T.set (T.set .leaf 3 a0) 4 v0), H⟩ τ) (binK .eql a0 (.str (bs [119, 115])) fun v4 => s_url_Own_j1 call N q ⟨(T.set (T.set (T.set (T.set .leaf 3 a0) 4 v0) 6 v4) 4 v4), H⟩ τ)
theorem s_url_Own_eq (call : CallK) (N : Nat) (a0 : V) (H : Heap) (τ : Tape) (q : KV) : s_url_Own call N a0 H τ q = funK call N fn_url_Own [a0] H τ q := by kernel_rfl
def e_url_Own (call : CallK) (N : Nat) (vs : List V) (H : Heap) (τ : Tape) (q : KV) : Ans := match vs with | [a0] => s_url_Own call N a0 H τ q | _ => none
theorem e_url_Own_ok : EntOk fn_url_Own e_url_Own := by
  intro call N vs H τ q r h
  unfold e_url_Own at h
  split at h
  · rw [s_url_Own_eq] at h; exact h
  · cases h
theorem e_url_Own_nat : EntNat e_url_Own := by
  intro c hn N vs H τ q
  unfold e_url_Own
  split
  · rw [s_url_Own_eq, s_url_Own_eq]; exact funK_ent hn _ _ _ _ _ _
  · rfl
/-- internal/strconv.Itoa -/
def fn_strconv_Itoa_n127 : Fun := ⟨1, (.seq (.reg [iR 2 (.p .mv) [(.c (.str []))]]) (.keep [0] (.seq (.reg [iR 3 (.p .mv) [(.t 0)], iR 4 (.call 117) [(.t 3), (.c (.int .i64 (.ofNat 10)))], iR 2 (.p .mv) [(.t 4)]]) (.keep [2] (.keep [2] .ret))))), [(.t 2)]⟩
def s_strconv_Itoa_n127 (call : CallK) (N : Nat) (a0 : V) (H : Heap) (τ : Tape) (q : KV) : Ans := call f_strconv_FormatInt_n117 [a0, (.int .i64 (.ofNat 10))] H τ fun v0 H1 τ2 => q v0 H1 τ2
theorem s_strconv_Itoa_n127_eq (call : CallK) (N : Nat) (a0 : V) (H : Heap) (τ : Tape) (q : KV) : s_strconv_Itoa_n127 call N a0 H τ q = funK call N fn_strconv_Itoa_n127 [a0] H τ q := by kernel_rfl
def e_strconv_Itoa_n127 (call : CallK) (N : Nat) (vs : List V) (H : Heap) (τ : Tape) (q : KV) : Ans := match vs with | [a0] => s_strconv_Itoa_n127 call N a0 H τ q | _ => none
theorem e_strconv_Itoa_n127_ok : EntOk fn_strconv_Itoa_n127 e_strconv_Itoa_n127 := by
  intro call N vs H τ q r h
  unfold e_strconv_Itoa_n127 at h
  split at h
  · rw [s_strconv_Itoa_n127_eq] at h; exact h
  · cases h
theorem e_strconv_Itoa_n127_nat : EntNat e_strconv_Itoa_n127 := by
  intro c hn N vs H τ q
  unfold e_strconv_Itoa_n127
  split
  · rw [s_strconv_Itoa_n127_eq, s_strconv_Itoa_n127_eq]; exact funK_ent hn _ _ _ _ _ _
  · rfl
/-- ostiary/ostiaryref3.Parse -/
def fn_ref3_Parse : Fun := ⟨1, (.seq (.reg [iR 2 (.e (.alloc [(.str []), (.str []), (.str []), (.str []), (.bool false), (.int .i64 (.ofNat 0)), (.bool false), .nils, (.str []), (.str []), (.bool false), (.bool false)])) [], iR 3 (.p .mv) [(.c (.int .i64 (.ofNat 0)))]]) (.keep [0, 2] (.seq (.seq (.reg [iR 10 (.p .mv) [(.t 0)], iR 11 (.p .lenS) [(.t 10)], iR 12 (.p (.bin .gtr)) [(.t 11), (.c (.int .i64 (.ofNat 4096)))]]) (.keep [0, 2, 12] (.cond (.t 12) (.seq (.reg [iR 13 (.p (.build [(.str []), (.str []), (.str []), (.str []), (.bool false), (.int .i64 (.ofNat 0)), (.bool false), .nils, (.str []), (.str []), (.bool false), (.bool false)] [])) [], ⟨none, none, (.e (.store 12)), [(.t 2), (.t 13)], none⟩, iR 3 (.p .mv) [(.c (.int .i64 (.ofNat 3)))]]) (.keep [2, 3] (.keep [2, 3] .ret))) .skip)))
    (.keep [0, 2] (.seq (.reg [iR 4 (.e (.alloc [(.str []), (.str []), (.str []), (.str []), (.bool false), (.int .i64 (.ofNat 0)), (.bool false), .nils, (.str []), (.str []), (.bool false), (.bool false)])) []]) (.keep [0, 2, 4] (.seq (.reg [iR 14 (.p .mv) [(.t 0)], iR 15 (.call 182) [(.t 14)], iR 16 (.call 181) [(.t 4), (.t 15)], iR 5 (.p .mv) [(.t 16)]]) (.keep [2, 4, 5] (.seq (.reg [iR 18 (.p .mv) [(.t 5)], iR 19 (.call 183) [(.t 18)], iR 17 (.p .mv) [(.t 19)], iR 20 (.p (.extract 0)) [(.t 17)], iR 21 (.p (.extract 1)) [(.t 17)], iR 22 (.p (.extract 2)) [(.t 17)], iR 6 (.p .mv) [(.t 20)], iR 7 (.p .mv) [(.t 21)], iR 8 (.p .mv) [(.t 22)]]) (.keep [2, 4, 6, 7, 8] (.seq (.seq (.reg [iR 23 (.p .mv) [(.t 8)], iR 24 (.p (.un .not)) [(.t 23)]]) (.keep [2, 4, 6, 7, 24] (.cond (.t 24)
    (.seq (.reg [iR 25 (.p (.build [(.str []), (.str []), (.str []), (.str []), (.bool false), (.int .i64 (.ofNat 0)), (.bool false), .nils, (.str []), (.str []), (.bool false), (.bool false)] [])) [], ⟨none, none, (.e (.store 12)), [(.t 2), (.t 25)], none⟩, iR 3 (.p .mv) [(.c (.int .i64 (.ofNat 12)))]]) (.keep [2, 3] (.keep [2, 3] .ret))) .skip))) (.keep [2, 4, 6, 7] (.seq (.reg [iR 26 (.p .mv) [(.t 6)], iR 27 (.p (.fieldAddr 0)) [(.t 4)], ⟨none, none, (.e (.store 1)), [(.t 27), (.t 26)], none⟩]) (.keep [2, 4, 7] (.seq (.reg [iR 28 (.p .mv) [(.t 7)], iR 29 (.call 184) [(.t 4), (.t 28)], iR 9 (.p .mv) [(.t 29)]]) (.keep [2, 4, 9] (.seq (.seq (.reg [iR 30 (.p .mv) [(.t 9)], iR 31 (.p (.bin .neq)) [(.t 30), (.c (.int .i64 (.ofNat 0)))]]) (.keep [2, 4, 9, 31] (.cond (.t 31)
    (.seq (.reg [iR 32 (.p (.build [(.str []), (.str []), (.str []), (.str []), (.bool false), (.int .i64 (.ofNat 0)), (.bool false), .nils, (.str []), (.str []), (.bool false), (.bool false)] [])) [], iR 33 (.p .mv) [(.t 9)], ⟨none, none, (.e (.store 12)), [(.t 2), (.t 32)], none⟩, iR 3 (.p .mv) [(.t 33)]]) (.keep [2, 3] (.keep [2, 3] .ret))) .skip))) (.keep [2, 4] (.seq (.reg [iR 34 (.l (.load (some 12))) [(.t 4)], ⟨none, none, (.e (.store 12)), [(.t 2), (.t 34)], none⟩, iR 3 (.p .mv) [(.c (.int .i64 (.ofNat 0)))]]) (.keep [2, 3] (.keep [2, 3] .ret))))))))))))))))))))), [(.cell 2 (some 12)), (.t 3)]⟩
def s_ref3_Parse (call : CallK) (N : Nat) (a0 : V) (H : Heap) (τ : Tape) (q : KV) : Ans := effK (eAlloc [(.str []), (.str []), (.str []), (.str []), (.bool false), (.int .i64 (.ofNat 0)), (.bool false), .nils, (.str []), (.str []), (.bool false), (.bool false)] [] H τ) fun v0 H1 τ2 => someK (pLenS [a0]) fun v3 => binK .gtr v3 (.int .i64 (.ofNat 4096)) fun v4 => condK v4 (someK (pBuild [(.str []), (.str []), (.str []), (.str []), (.bool false), (.int .i64 (.ofNat 0)), (.bool false), .nils, (.str []), (.str []), (.bool false), (.bool false)] [] []) fun v5 => effK (eStore 12 [v0, v5] H1 τ2) fun v6 H7 τ8 => someK (results ⟨(T.set (T.set .leaf 2 v0) 3 (.int .i64 (.ofNat 3))), H7⟩ [(.cell 2 (some 12)), (.t 3)]) fun v => q v H7 τ8)
    (effK (eAlloc [(.str []), (.str []), (.str []), (.str []), (.bool false), (.int .i64 (.ofNat 0)), (.bool false), .nils, (.str []), (.str []), (.bool false), (.bool false)] [] H1 τ2) fun v9 H10 τ11 => call f_ref3_clean [a0] H10 τ11 fun v12 H13 τ14 => call f_ref3_split [v9, v12] H13 τ14 fun v15 H16 τ17 => call f_ref3_scheme [v15] H16 τ17 fun v18 H19 τ20 => someK (pExtract 0 [v18]) fun v21 => someK (pExtract 1 [v18]) fun v22 => someK (pExtract 2 [v18]) fun v23 => unK .not v23 fun v24 => condK v24 (someK (pBuild [(.str []), (.str []), (.str []), (.str []), (.bool false), (.int .i64 (.ofNat 0)), (.bool false), .nils, (.str []), (.str []), (.bool false), (.bool false)] [] []) fun v25 => effK (eStore 12 [v0, v25] H19 τ20) fun v26 H27 τ28 => someK (results ⟨(T.set (T.set .leaf 2 v0) 3 (.int .i64 (.ofNat 12))), H27⟩ [(.cell 2 (some 12)), (.t 3)]) fun v => q v H27 τ28)
    (someK (pFieldAddr 0 [v9]) fun v29 => effK (eStore 1 [v29, v21] H19 τ20) fun v30 H31 τ32 => call f_ref3_full [v9, v22] H31 τ32 fun v33 H34 τ35 => binK .neq v33 (.int .i64 (.ofNat 0)) fun v36 => condK v36 (someK (pBuild [(.str []), (.str []), (.str []), (.str []), (.bool false), (.int .i64 (.ofNat 0)), (.bool false), .nils, (.str []), (.str []), (.bool false), (.bool false)] [] []) fun v37 => effK (eStore 12 [v0, v37] H34 τ35) fun v38 H39 τ40 => someK (results ⟨(T.set (T.set .leaf 2 v0) 3 v33), H39⟩ [(.cell 2 (some 12)), (.t 3)]) fun v => q v H39 τ40) (someK (lLoadN 12 [v9] H34) fun v41 => effK (eStore 12 [v0, v41] H34 τ35) fun v42 H43 τ44 => someK (results ⟨(T.set (T.set .leaf 2 v0) 3 (.int .i64 (.ofNat 0))), H43⟩ [(.cell 2 (some 12)), (.t 3)]) fun v => q v H43 τ44)))
theorem s_ref3_Parse_eq (call : CallK) (N : Nat) (a0 : V) (H : Heap) (τ : Tape) (q : KV) : s_ref3_Parse call N a0 H τ q = funK call N fn_ref3_Parse [a0] H τ q := by kernel_rfl
def e_ref3_Parse (call : CallK) (N : Nat) (vs : List V) (H : Heap) (τ : Tape) (q : KV) : Ans := match vs with | [a0] => s_ref3_Parse call N a0 H τ q | _ => none
theorem e_ref3_Parse_ok : EntOk fn_ref3_Parse e_ref3_Parse := by
  intro call N vs H τ q r h
  unfold e_ref3_Parse at h
  split at h
  · rw [s_ref3_Parse_eq] at h; exact h
  · cases h
theorem e_ref3_Parse_nat : EntNat e_ref3_Parse := by
  intro c hn N vs H τ q
  unfold e_ref3_Parse
  split
  · rw [s_ref3_Parse_eq, s_ref3_Parse_eq]; exact funK_ent hn _ _ _ _ _ _
  · rfl
/-- ostiary/ostiarykeep.Few -/
def fn_keep_Few : Fun := ⟨2, (.seq (.reg [iR 4 (.p .mv) [(.c (.str []))]]) (.keep [0, 1] (.seq (.seq (.reg [iR 5 (.p .mv) [(.t 0)], iR 6 (.p .lenS) [(.t 5)], iR 7 (.p .mv) [(.t 1)], iR 8 (.p (.bin .gtr)) [(.t 6), (.t 7)]]) (.keep [0, 1, 8] (.cond (.t 8) (.seq (.reg [iR 9 (.p .mv) [(.t 0)], iR 10 (.p .mv) [(.t 1)], iR 11 (.p (.strSlice false true)) [(.t 9), (.t 10)], iR 4 (.p .mv) [(.t 11)]]) (.keep [4] (.keep [4] .ret))) .skip))) (.keep [0] (.seq (.reg [iR 12 (.p .mv) [(.t 0)], iR 4 (.p .mv) [(.t 12)]]) (.keep [4] (.keep [4] .ret))))))), [(.t 4)]⟩
def s_keep_Few (call : CallK) (N : Nat) (a0 a1 : V) (H : Heap) (τ : Tape) (q : KV) : Ans := someK (pLenS [a0]) fun v0 => binK .gtr v0 a1 fun v1 => condK v1 (someK (pStrSlice false true [a0, a1]) fun v2 => q v2 H τ) (q a0 H τ)
theorem s_keep_Few_eq (call : CallK) (N : Nat) (a0 a1 : V) (H : Heap) (τ : Tape) (q : KV) : s_keep_Few call N a0 a1 H τ q = funK call N fn_keep_Few [a0, a1] H τ q := by kernel_rfl
def e_keep_Few (call : CallK) (N : Nat) (vs : List V) (H : Heap) (τ : Tape) (q : KV) : Ans := match vs with | [a0, a1] => s_keep_Few call N a0 a1 H τ q | _ => none
theorem e_keep_Few_ok : EntOk fn_keep_Few e_keep_Few := by
  intro call N vs H τ q r h
  unfold e_keep_Few at h
  split at h
  · rw [s_keep_Few_eq] at h; exact h
  · cases h
theorem e_keep_Few_nat : EntNat e_keep_Few := by
  intro c hn N vs H τ q
  unfold e_keep_Few
  split
  · rw [s_keep_Few_eq, s_keep_Few_eq]; exact funK_ent hn _ _ _ _ _ _
  · rfl
/-- ostiary/ostiaryref3.Special -/
def fn_ref3_Special : Fun := ⟨1, (.seq (.reg [iR 2 (.p .mv) [(.c (.bool false))]]) (.keep [0] (.seq (.reg [iR 3 (.p .mv) [(.t 0)], iR 4 (.call 185) [(.t 3)], iR 5 (.p (.bin .geq)) [(.t 4), (.c (.int .i64 (.ofNat 0)))], iR 2 (.p .mv) [(.t 5)]]) (.keep [2] (.keep [2] .ret))))), [(.t 2)]⟩
def s_ref3_Special (call : CallK) (N : Nat) (a0 : V) (H : Heap) (τ : Tape) (q : KV) : Ans := call f_ref3_Own [a0] H τ fun v0 H1 τ2 => binK .geq v0 (.int .i64 (.ofNat 0)) fun v3 => q v3 H1 τ2
theorem s_ref3_Special_eq (call : CallK) (N : Nat) (a0 : V) (H : Heap) (τ : Tape) (q : KV) : s_ref3_Special call N a0 H τ q = funK call N fn_ref3_Special [a0] H τ q := by kernel_rfl
def e_ref3_Special (call : CallK) (N : Nat) (vs : List V) (H : Heap) (τ : Tape) (q : KV) : Ans := match vs with | [a0] => s_ref3_Special call N a0 H τ q | _ => none
theorem e_ref3_Special_ok : EntOk fn_ref3_Special e_ref3_Special := by
  intro call N vs H τ q r h
  unfold e_ref3_Special at h
  split at h
  · rw [s_ref3_Special_eq] at h; exact h
  · cases h
theorem e_ref3_Special_nat : EntNat e_ref3_Special := by
  intro c hn N vs H τ q
  unfold e_ref3_Special
  split
  · rw [s_ref3_Special_eq, s_ref3_Special_eq]; exact funK_ent hn _ _ _ _ _ _
  · rfl
/-- ostiary/ostiaryref4.Port -/
def fn_ref4_Port : Fun := ⟨1, (.seq (.reg [iR 1 (.e .box) [(.t 0)], iR 2 (.p .mv) [(.c (.int .i64 (.ofNat 0)))]]) (.keep [1] (.seq (.seq (.reg [iR 3 (.p (.fieldAddr 5)) [(.t 1)], iR 4 (.l (.load none)) [(.t 3)], iR 5 (.p (.bin .eql)) [(.t 4), (.c (.int .i64 (.negSucc 0)))]]) (.keep [1, 5] (.cond (.t 5) (.seq (.reg [iR 6 (.p (.fieldAddr 0)) [(.t 1)], iR 7 (.l (.load none)) [(.t 6)], iR 8 (.call 185) [(.t 7)], iR 2 (.p .mv) [(.t 8)]]) (.keep [2] (.keep [2] .ret))) .skip))) (.keep [1] (.seq (.reg [iR 9 (.p (.fieldAddr 5)) [(.t 1)], iR 10 (.l (.load none)) [(.t 9)], iR 2 (.p .mv) [(.t 10)]]) (.keep [2] (.keep [2] .ret))))))), [(.t 2)]⟩
def s_ref4_Port (call : CallK) (N : Nat) (a0 : V) (H : Heap) (τ : Tape) (q : KV) : Ans := effK (eBox [a0] H τ) fun v0 H1 τ2 => someK (pFieldAddr 5 [v0]) fun v3 => someK (lLoad1 [v3] H1) fun v4 => binK .eql v4 (.int .i64 (.negSucc 0)) fun v5 => condK v5 (someK (pFieldAddr 0 [v0]) fun v6 => someK (lLoad1 [v6] H1) fun v7 => call f_ref3_Own [v7] H1 τ2 fun v8 H9 τ10 => q v8 H9 τ10) (someK (pFieldAddr 5 [v0]) fun v11 => someK (lLoad1 [v11] H1) fun v12 => q v12 H1 τ2)
theorem s_ref4_Port_eq (call : CallK) (N : Nat) (a0 : V) (H : Heap) (τ : Tape) (q : KV) : s_ref4_Port call N a0 H τ q = funK call N fn_ref4_Port [a0] H τ q := by kernel_rfl
def e_ref4_Port (call : CallK) (N : Nat) (vs : List V) (H : Heap) (τ : Tape) (q : KV) : Ans := match vs with | [a0] => s_ref4_Port call N a0 H τ q | _ => none
theorem e_ref4_Port_ok : EntOk fn_ref4_Port e_ref4_Port := by
  intro call N vs H τ q r h
  unfold e_ref4_Port at h
  split at h
  · rw [s_ref4_Port_eq] at h; exact h
  · cases h
theorem e_ref4_Port_nat : EntNat e_ref4_Port := by
  intro c hn N vs H τ q
  unfold e_ref4_Port
  split
  · rw [s_ref4_Port_eq, s_ref4_Port_eq]; exact funK_ent hn _ _ _ _ _ _
  · rfl
end Go.Am.X
