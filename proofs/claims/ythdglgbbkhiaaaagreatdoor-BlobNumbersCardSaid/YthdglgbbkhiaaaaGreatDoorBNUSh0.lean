/- The abstract machine, printed functions of the program, and what they are shown to be. -/
import Derived.Test.YthdglgbbkhiaaaaGreatDoorBNUM4
import Derived.KernelRfl
namespace Go.Am.X
set_option maxRecDepth 1000000
set_option linter.unusedVariables false
abbrev iR (n : Nat) (o : AOp) (a : List O) : Ins := ⟨some n, none, o, a, none⟩
abbrev iG (n g : Nat) (b : Bool) (o : AOp) (a : List O) : Ins := ⟨some n, some (g, b), o, a, none⟩
abbrev f_law21_BlobNumbers : Nat := 4
abbrev f_book_Same_Header : Nat := 14
abbrev f_blob_New : Nat := 18
abbrev f_blob_Store_Put : Nat := 19
abbrev f_law21_of : Nat := 20
abbrev f_blob_Store_Read : Nat := 21
abbrev f_blob_Store_Drop : Nat := 22
abbrev f_blob_Store_Len : Nat := 23
abbrev f_law21_get : Nat := 24
abbrev f_law21_known : Nat := 25
abbrev f_strconv_FormatInt : Nat := 65
abbrev f_headers_Value : Nat := 71
abbrev f_origin_Text : Nat := 72
abbrev f_strconv_Itoa : Nat := 73
abbrev f_slices_Clone_byte : Nat := 74
abbrev f_keep_URL : Nat := 75
abbrev f_ref4_Of : Nat := 76
abbrev f_strings_Cut : Nat := 77
abbrev f_blob_reply : Nat := 78
abbrev f_headers_Range : Nat := 79
abbrev f_blob_number : Nat := 80
abbrev f_infra_Int : Nat := 91
abbrev f_strconv_FormatInt_n117 : Nat := 117
abbrev f_strings_Trim : Nat := 124
abbrev f_strings_ContainsAny : Nat := 125
abbrev f_url_Own : Nat := 126
abbrev f_strconv_Itoa_n127 : Nat := 127
abbrev f_ref3_Parse : Nat := 128
abbrev f_keep_Few : Nat := 129
abbrev f_ref3_Special : Nat := 130
abbrev f_ref4_Port : Nat := 131
abbrev f_stringslite_Cut : Nat := 132
abbrev f_strings_CutPrefix : Nat := 133
abbrev f_headers_told : Nat := 134
abbrev f_strings_IndexByte : Nat := 151
abbrev f_strconv_small : Nat := 169
abbrev f_strconv_numDigits : Nat := 170
abbrev f_strconv_formatBase10 : Nat := 171
abbrev f_strconv_formatBits : Nat := 172
abbrev f_strings_trimLeftByte : Nat := 173
abbrev f_strings_trimRightByte : Nat := 174
abbrev f_strings_makeASCIISet : Nat := 175
abbrev f_strings_trimLeftASCII : Nat := 176
abbrev f_strings_trimRightASCII : Nat := 177
abbrev f_strings_trimLeftUnicode : Nat := 178
abbrev f_strings_trimRightUnicode : Nat := 179
abbrev f_strings_IndexAny : Nat := 180
abbrev f_ref3_split : Nat := 181
abbrev f_ref3_clean : Nat := 182
abbrev f_ref3_scheme : Nat := 183
abbrev f_ref3_full : Nat := 184
abbrev f_ref3_Own : Nat := 185
abbrev f_stringslite_Index : Nat := 186
abbrev f_stringslite_CutPrefix : Nat := 187
abbrev f_stringslite_IndexByte : Nat := 195
abbrev f_stringslite_HasPrefix : Nat := 203
abbrev f_utf8_DecodeRuneInString : Nat := 206
abbrev f_bits_Len64 : Nat := 220
abbrev f_strconv_log10Pow2 : Nat := 221
abbrev f_strconv_bool2_int : Nat := 222
abbrev f_strconv_isPowerOfTwo : Nat := 223
abbrev f_bits_TrailingZeros : Nat := 224
abbrev f_asciiSet_contains : Nat := 225
abbrev f_strings_ContainsRune : Nat := 226
abbrev f_utf8_DecodeLastRuneInString : Nat := 227
abbrev f_strings_IndexRune : Nat := 228
abbrev f_strings_shouldUseASCIISet : Nat := 229
abbrev f_ref1_Part : Nat := 230
abbrev f_ref1_Percent : Nat := 231
abbrev f_ref1_Lower : Nat := 232
abbrev f_ref1_Letter : Nat := 233
abbrev f_ref1_Digit : Nat := 234
abbrev f_ref3_far : Nat := 235
abbrev f_ref3_over : Nat := 236
abbrev f_ref3_slashes : Nat := 237
abbrev f_ref1_Begins : Nat := 238
abbrev f_ref3_rest : Nat := 239
abbrev f_ref3_ahead : Nat := 240
abbrev f_ref3_query : Nat := 241
abbrev f_bytealg_Cutover : Nat := 243
abbrev f_bytealg_IndexRabinKarp_string : Nat := 244
abbrev f_utf8_decodeRuneInStringSlow : Nat := 252
abbrev f_bits_TrailingZeros32 : Nat := 265
abbrev f_bits_TrailingZeros64 : Nat := 266
abbrev f_utf8_RuneStart : Nat := 267
abbrev f_utf8_ValidRune : Nat := 268
abbrev f_ref1_In : Nat := 269
abbrev f_ref1_Escape : Nat := 270
abbrev f_ref3_authority : Nat := 271
abbrev f_ref3_path : Nat := 272
abbrev f_bytealg_hashStr_string : Nat := 273
abbrev f_ref1_Int : Nat := 281
abbrev f_ref2_Parse : Nat := 282
abbrev f_ref1_Cut : Nat := 283
abbrev f_ref3_dots : Nat := 284
abbrev f_ref1_Ends : Nat := 294
abbrev f_ref2_Six : Nat := 295
abbrev f_ref2_Text6 : Nat := 296
abbrev f_ref2_bad : Nat := 297
abbrev f_ref1_Unpercent : Nat := 298
abbrev f_ref2_Numbered : Nat := 299
abbrev f_ref2_Four : Nat := 300
abbrev f_ref2_Text4 : Nat := 301
abbrev f_ref2_pieces : Nat := 309
abbrev f_ref2_digits : Nat := 310
abbrev f_ref1_Hex : Nat := 311
abbrev f_ref2_labels : Nat := 312
abbrev f_ref2_number : Nat := 313
abbrev f_ref1_Numeral : Nat := 314
abbrev f_ref2_decimals : Nat := 315
/-- ostiary/ostiarylaw21.BlobNumbers -/
def fn_law21_BlobNumbers : Fun := ⟨0, (.seq (.reg [iR 0 (.p .mv) [(.c (.bool false))]]) (.keep [] (.seq (.reg [iR 20 (.call 18) [], iR 1 (.p .mv) [(.t 20)]]) (.keep [1] (.seq (.seq (.reg [iR 21 (.p .mv) [(.t 1)], iR 22 (.l (.peq false)) [(.t 21), (.c .nilp)]]) (.keep [1, 22] (.cond (.t 22) (.seq (.reg [iR 0 (.p .mv) [(.c (.bool false))]]) (.keep [0] (.keep [0] .ret))) .skip))) (.keep [1] (.seq (.reg [iR 24 (.p .mv) [(.t 1)], iR 25 (.call 20) [(.c (.str (bs [100, 97, 116, 97, 58, 120])))], iR 26 (.e (.buildSlice 3 1 [(.int .u8 (.ofNat 0)), (.int .u8 (.ofNat 0)), (.int .u8 (.ofNat 0))] [(0, 1), (1, 1), (2, 1)])) [(.c (.int .u8 (.ofNat 97))), (.c (.int .u8 (.ofNat 98))), (.c (.int .u8 (.ofNat 99)))], iR 27 (.e .mark) [(.t 26)], iR 28 (.call 19) [(.t 24), (.t 25), (.c (.str (bs [32, 107, 32]))), (.t 27)], iR 23 (.p .mv) [(.t 28)], iR 29 (.p (.extract 0)) [(.t 23)],
    iR 30 (.p (.extract 1)) [(.t 23)], iR 2 (.p .mv) [(.t 29)], iR 3 (.p .mv) [(.t 30)]]) (.keep [1, 2] (.seq (.reg [iR 32 (.p .mv) [(.t 1)], iR 33 (.call 20) [(.c (.str (bs [104, 116, 116, 112, 115, 58, 47, 47, 97])))], iR 34 (.call 19) [(.t 32), (.t 33), (.c (.str (bs [97, 10, 98]))), (.c .nils)], iR 31 (.p .mv) [(.t 34)], iR 35 (.p (.extract 0)) [(.t 31)], iR 36 (.p (.extract 1)) [(.t 31)], iR 4 (.p .mv) [(.t 35)], iR 5 (.p .mv) [(.t 36)]]) (.keep [1, 2, 5] (.seq (.draw [iR 38 (.p .mv) [(.t 1)], iR 39 (.call 20) [(.c (.str (bs [104, 116, 116, 112, 115, 58, 47, 47, 97])))], iR 40 (.e (.makeSlice 1 1 [(.int .u8 (.ofNat 0))])) [(.c (.int .i64 (.ofNat 16385))), (.c (.int .i64 (.ofNat 16385)))], iR 41 (.call 19) [(.t 38), (.t 39), (.c (.str [])), (.t 40)], iR 37 (.p .mv) [(.t 41)], iR 42 (.p (.extract 0)) [(.t 37)], iR 43 (.p (.extract 1)) [(.t 37)], iR 6 (.p .mv) [(.t 42)],
    iR 7 (.p .mv) [(.t 43)]]) (.keep [1, 2, 5, 7] (.seq (.reg [iR 45 (.p .mv) [(.t 1)], iR 46 (.p .mv) [(.t 2)], iR 47 (.call 21) [(.t 45), (.t 46), (.c (.str [])), (.c (.bool false))], iR 44 (.p .mv) [(.t 47)], iR 48 (.p (.extract 0)) [(.t 44)], iR 49 (.p (.extract 1)) [(.t 44)], iR 8 (.e (.alloc [(.int .i64 (.ofNat 0)), .nils, .nils])) [], ⟨none, none, (.e (.store 3)), [(.t 8), (.t 48)], none⟩, iR 9 (.p .mv) [(.t 49)]]) (.keep [1, 2, 5, 7, 8, 9] (.seq (.reg [iR 51 (.p .mv) [(.t 1)], iR 52 (.call 20) [(.c (.str (bs [104, 116, 116, 112, 115, 58, 47, 47, 97, 58, 53])))], iR 53 (.call 19) [(.t 51), (.t 52), (.c (.str [])), (.c .nils)], iR 50 (.p .mv) [(.t 53)], iR 54 (.p (.extract 0)) [(.t 50)], iR 55 (.p (.extract 1)) [(.t 50)], iR 10 (.p .mv) [(.t 54)], iR 11 (.p .mv) [(.t 55)]]) (.keep [1, 2, 5, 7, 8, 9, 10] (.seq (.reg [iR 56 (.p .mv) [(.t 1)], iR 57 (.p .mv) [(.t 2)],
    iR 58 (.call 22) [(.t 56), (.t 57)], iR 12 (.p .mv) [(.t 58)]]) (.keep [1, 2, 5, 7, 8, 9, 10, 12] (.seq (.reg [iR 59 (.p .mv) [(.t 1)], iR 60 (.p .mv) [(.t 2)], iR 61 (.call 22) [(.t 59), (.t 60)], iR 13 (.p .mv) [(.t 61)]]) (.keep [1, 2, 5, 7, 8, 9, 10, 12, 13] (.seq (.reg [iR 63 (.p .mv) [(.t 1)], iR 64 (.call 20) [(.c (.str (bs [104, 116, 116, 112, 115, 58, 47, 47, 97])))], iR 65 (.call 19) [(.t 63), (.t 64), (.c (.str [])), (.c .nils)], iR 62 (.p .mv) [(.t 65)], iR 66 (.p (.extract 0)) [(.t 62)], iR 67 (.p (.extract 1)) [(.t 62)], iR 14 (.p .mv) [(.t 66)], iR 15 (.p .mv) [(.t 67)]]) (.keep [1, 2, 5, 7, 8, 9, 10, 12, 13, 14] (.seq (.block 0 (.loop (.keep [1, 2, 5, 7, 8, 9, 10, 12, 13, 14] (.seq (.seq (.reg [iR 68 (.p .mv) [(.t 1)], iR 69 (.call 23) [(.t 68)], iR 70 (.p (.bin .lss)) [(.t 69), (.c (.int .i64 (.ofNat 32)))]])
    (.keep [1, 2, 5, 7, 8, 9, 10, 12, 13, 14, 70] (.cond (.t 70) .skip (.keep [1, 2, 5, 7, 8, 9, 10, 12, 13, 14] (.exit 0))))) (.keep [1, 2, 5, 7, 8, 9, 10, 12, 13, 14] (.block 1 (.seq (.reg [iR 72 (.p .mv) [(.t 1)], iR 73 (.call 20) [(.c (.str (bs [104, 116, 116, 112, 115, 58, 47, 47, 97])))], iR 74 (.call 19) [(.t 72), (.t 73), (.c (.str [])), (.c .nils)], iR 71 (.p .mv) [(.t 74)], iR 75 (.p (.extract 0)) [(.t 71)], iR 76 (.p (.extract 1)) [(.t 71)], iR 16 (.p .mv) [(.t 75)], iR 17 (.p .mv) [(.t 76)]]) (.keep [1, 2, 5, 7, 8, 9, 10, 12, 13, 14, 17] (.seq (.reg [iR 77 (.p .mv) [(.t 17)], iR 78 (.p (.bin .neq)) [(.t 77), (.c (.int .i64 (.ofNat 0)))]]) (.keep [1, 2, 5, 7, 8, 9, 10, 12, 13, 14, 78] (.cond (.t 78) (.seq (.reg [iR 0 (.p .mv) [(.c (.bool false))]]) (.keep [0] (.keep [0] .ret))) .skip))))))))))) (.keep [1, 2, 5, 7, 8, 9, 10, 12, 13, 14] (.seq (.reg [iR 80 (.p .mv) [(.t 1)],
    iR 81 (.call 20) [(.c (.str (bs [104, 116, 116, 112, 115, 58, 47, 47, 97])))], iR 82 (.call 19) [(.t 80), (.t 81), (.c (.str [])), (.c .nils)], iR 79 (.p .mv) [(.t 82)], iR 83 (.p (.extract 0)) [(.t 79)], iR 84 (.p (.extract 1)) [(.t 79)], iR 18 (.p .mv) [(.t 83)], iR 19 (.p .mv) [(.t 84)]]) (.keep [1, 2, 5, 7, 8, 9, 10, 12, 13, 14, 19] (.seq (.reg [iR 85 (.p .mv) [(.t 2)], iR 86 (.p (.bin .eql)) [(.t 85), (.c (.str (bs [98, 108, 111, 98, 58, 110, 117, 108, 108, 47, 49])))], iR 87 (.p .mv) [(.t 86)], iG 88 87 true (.p .mv) [(.t 5)], iG 89 87 true (.p (.bin .eql)) [(.t 88), (.c (.int .i64 (.ofNat 1)))], iR 90 (.p .pick) [(.t 87), (.t 89), (.c (.bool false))], iR 91 (.p .mv) [(.t 90)], iG 92 91 true (.p .mv) [(.t 7)], iG 93 91 true (.p (.bin .eql)) [(.t 92), (.c (.int .i64 (.ofNat 3)))], iR 94 (.p .pick) [(.t 91), (.t 93), (.c (.bool false))], iR 95 (.p .mv) [(.t 94)],
    iG 96 95 true (.p .mv) [(.t 9)], iR 97 (.p .pick) [(.t 95), (.t 96), (.c (.bool false))], iR 98 (.p .mv) [(.t 97)], iG 99 98 true (.p (.fieldAddr 0)) [(.t 8)], iG 100 98 true (.l (.load none)) [(.t 99)], iG 101 98 true (.p (.bin .eql)) [(.t 100), (.c (.int .i64 (.ofNat 200)))], iR 102 (.p .pick) [(.t 98), (.t 101), (.c (.bool false))], iR 103 (.p .mv) [(.t 102)], iG 104 103 true (.p (.fieldAddr 1)) [(.t 8)], iG 105 103 true (.l (.load none)) [(.t 104)], iG 106 103 true (.p (.build [(.str []), (.str [])] [(0, 1), (1, 1)])) [(.c (.str (bs [99, 111, 110, 116, 101, 110, 116, 45, 108, 101, 110, 103, 116, 104]))), (.c (.str (bs [51])))], iG 107 103 true (.p (.build [(.str []), (.str [])] [(0, 1), (1, 1)])) [(.c (.str (bs [99, 111, 110, 116, 101, 110, 116, 45, 116, 121, 112, 101]))), (.c (.str (bs [107])))],
    iG 108 103 true (.e (.buildSlice 2 2 [(.str []), (.str []), (.str []), (.str [])] [(0, 2), (2, 2)])) [(.t 106), (.t 107)], iG 109 103 true (.call 14) [(.t 105), (.t 108)], iR 110 (.p .pick) [(.t 103), (.t 109), (.c (.bool false))], iR 111 (.p .mv) [(.t 110)], iG 112 111 true (.p .mv) [(.t 10)], iG 113 111 true (.p (.bin .eql)) [(.t 112), (.c (.str (bs [98, 108, 111, 98, 58, 104, 116, 116, 112, 115, 58, 47, 47, 97, 58, 53, 47, 50])))], iR 114 (.p .pick) [(.t 111), (.t 113), (.c (.bool false))], iR 115 (.p .mv) [(.t 114)], iG 116 115 true (.p .mv) [(.t 12)], iR 117 (.p .pick) [(.t 115), (.t 116), (.c (.bool false))], iR 118 (.p .mv) [(.t 117)], iG 119 118 true (.p .mv) [(.t 13)], iG 120 118 true (.p (.un .not)) [(.t 119)], iR 121 (.p .pick) [(.t 118), (.t 120), (.c (.bool false))], iR 122 (.p .mv) [(.t 121)], iG 123 122 true (.p .mv) [(.t 14)],
    iG 124 122 true (.p (.bin .eql)) [(.t 123), (.c (.str (bs [98, 108, 111, 98, 58, 104, 116, 116, 112, 115, 58, 47, 47, 97, 47, 51])))], iR 125 (.p .pick) [(.t 122), (.t 124), (.c (.bool false))], iR 126 (.p .mv) [(.t 125)], iG 127 126 true (.p .mv) [(.t 19)], iG 128 126 true (.p (.bin .eql)) [(.t 127), (.c (.int .i64 (.ofNat 4)))], iR 129 (.p .pick) [(.t 126), (.t 128), (.c (.bool false))], iR 130 (.p .mv) [(.t 129)], iG 131 130 true (.p .mv) [(.t 1)], iG 132 130 true (.p .mv) [(.t 10)], iG 133 130 true (.call 24) [(.t 131), (.t 132), (.c (.str (bs [98, 121, 116, 101, 115, 61, 48, 45]))), (.c (.bool true))], iG 134 130 true (.p (.bin .eql)) [(.t 133), (.c (.str (bs [110, 111, 110, 101])))], iR 135 (.p .pick) [(.t 130), (.t 134), (.c (.bool false))], iR 136 (.p .mv) [(.t 135)], iG 137 136 true (.p .mv) [(.t 1)],
    iG 138 136 true (.call 24) [(.t 137), (.c (.str (bs [120]))), (.c (.str [])), (.c (.bool false))], iG 139 136 true (.p (.bin .eql)) [(.t 138), (.c (.str (bs [110, 111, 110, 101])))], iR 140 (.p .pick) [(.t 136), (.t 139), (.c (.bool false))], iR 141 (.p .mv) [(.t 140)], iG 142 141 true (.call 25) [], iR 143 (.p .pick) [(.t 141), (.t 142), (.c (.bool false))], iR 0 (.p .mv) [(.t 143)]]) (.keep [0] (.keep [0] .ret))))))))))))))))))))))))))))), [(.t 0)]⟩
def s_law21_BlobNumbers_j0 (call : CallK) (N : Nat) (q : KV) (st : St) (τ : Tape) : Ans := match st with
  | ⟨fr, H⟩ => getK fr 1 fun t1 => getK fr 2 fun t2 => getK fr 5 fun t5 => getK fr 7 fun t7 => getK fr 8 fun t8 => getK fr 9 fun t9 => getK fr 10 fun t10 => getK fr 12 fun t12 => getK fr 13 fun t13 => getK fr 14 fun t14 => call f_law21_of [(.str (bs [104, 116, 116, 112, 115, 58, 47, 47, 97]))] H τ fun v70 H71 τ72 => call f_blob_Store_Put [t1, v70, (.str []), .nils] H71 τ72 fun v73 H74 τ75 => someK (pExtract 0 [v73]) fun v76 => someK (pExtract 1 [v73]) fun v77 => binK .eql t2 (.str (bs [98, 108, 111, 98, 58, 110, 117, 108, 108, 47, 49])) fun v78 => gK v78 true (fun q' => q' t5 H74 τ75) H74 τ75 fun v79 H80 τ81 => gK v78 true (fun q' => binK .eql v79 (.int .i64 (.ofNat 1)) fun v => q' v H80 τ81) H80 τ81 fun v82 H83 τ84 => someK (pPick [v78, v82, (.bool false)]) fun v85 => gK v85 true (fun q' => q' t7 H83 τ84) H83 τ84 fun v86 H87 τ88 =>
    gK v85 true (fun q' => binK .eql v86 (.int .i64 (.ofNat 3)) fun v => q' v H87 τ88) H87 τ88 fun v89 H90 τ91 => someK (pPick [v85, v89, (.bool false)]) fun v92 => gK v92 true (fun q' => q' t9 H90 τ91) H90 τ91 fun v93 H94 τ95 => someK (pPick [v92, v93, (.bool false)]) fun v96 => gK v96 true (fun q' => someK (pFieldAddr 0 [t8]) fun v => q' v H94 τ95) H94 τ95 fun v97 H98 τ99 => gK v96 true (fun q' => someK (lLoad1 [v97] H98) fun v => q' v H98 τ99) H98 τ99 fun v100 H101 τ102 => gK v96 true (fun q' => binK .eql v100 (.int .i64 (.ofNat 200)) fun v => q' v H101 τ102) H101 τ102 fun v103 H104 τ105 => someK (pPick [v96, v103, (.bool false)]) fun v106 => gK v106 true (fun q' => someK (pFieldAddr 1 [t8]) fun v => q' v H104 τ105) H104 τ105 fun v107 H108 τ109 => gK v106 true (fun q' => someK (lLoad1 [v107] H108) fun v => q' v H108 τ109) H108 τ109 fun v110 H111 τ112 =>
    gK v106 true (fun q' => someK (pBuild [(.str []), (.str [])] [(0, 1), (1, 1)] [(.str (bs [99, 111, 110, 116, 101, 110, 116, 45, 108, 101, 110, 103, 116, 104])), (.str (bs [51]))]) fun v => q' v H111 τ112) H111 τ112 fun v113 H114 τ115 => gK v106 true (fun q' => someK (pBuild [(.str []), (.str [])] [(0, 1), (1, 1)] [(.str (bs [99, 111, 110, 116, 101, 110, 116, 45, 116, 121, 112, 101])), (.str (bs [107]))]) fun v => q' v H114 τ115) H114 τ115 fun v116 H117 τ118 => gK v106 true (fun q' => effK (eBuildSlice 2 2 [(.str []), (.str []), (.str []), (.str [])] [(0, 2), (2, 2)] [v113, v116] H117 τ118) q') H117 τ118 fun v119 H120 τ121 => gK v106 true (fun q' => call f_book_Same_Header [v110, v119] H120 τ121 q') H120 τ121 fun v122 H123 τ124 => someK (pPick [v106, v122, (.bool false)]) fun v125 => gK v125 true (fun q' => q' t10 H123 τ124) H123 τ124 fun v126 H127 τ128 =>
    gK v125 true (fun q' => binK .eql v126 (.str (bs [98, 108, 111, 98, 58, 104, 116, 116, 112, 115, 58, 47, 47, 97, 58, 53, 47, 50])) fun v => q' v H127 τ128) H127 τ128 fun v129 H130 τ131 => someK (pPick [v125, v129, (.bool false)]) fun v132 => gK v132 true (fun q' => q' t12 H130 τ131) H130 τ131 fun v133 H134 τ135 => someK (pPick [v132, v133, (.bool false)]) fun v136 => gK v136 true (fun q' => q' t13 H134 τ135) H134 τ135 fun v137 H138 τ139 => gK v136 true (fun q' => unK .not v137 fun v => q' v H138 τ139) H138 τ139 fun v140 H141 τ142 => someK (pPick [v136, v140, (.bool false)]) fun v143 => gK v143 true (fun q' => q' t14 H141 τ142) H141 τ142 fun v144 H145 τ146 => gK v143 true (fun q' => binK .eql v144 (.str (bs [98, 108, 111, 98, 58, 104, 116, 116, 112, 115, 58, 47, 47, 97, 47, 51])) fun v => q' v H145 τ146) H145 τ146 fun v147 H148 τ149 =>
    someK (pPick [v143, v147, (.bool false)]) fun v150 => gK v150 true (fun q' => q' v77 H148 τ149) H148 τ149 fun v151 H152 τ153 => gK v150 true (fun q' => binK .eql v151 (.int .i64 (.ofNat 4)) fun v => q' v H152 τ153) H152 τ153 fun v154 H155 τ156 => someK (pPick [v150, v154, (.bool false)]) fun v157 => gK v157 true (fun q' => q' t1 H155 τ156) H155 τ156 fun v158 H159 τ160 => gK v157 true (fun q' => q' t10 H159 τ160) H159 τ160 fun v161 H162 τ163 => gK v157 true (fun q' => call f_law21_get [v158, v161, (.str (bs [98, 121, 116, 101, 115, 61, 48, 45])), (.bool true)] H162 τ163 q') H162 τ163 fun v164 H165 τ166 => gK v157 true (fun q' => binK .eql v164 (.str (bs [110, 111, 110, 101])) fun v => q' v H165 τ166) H165 τ166 fun v167 H168 τ169 => someK (pPick [v157, v167, (.bool false)]) fun v170 => gK v170 true (fun q' => q' t1 H168 τ169) H168 τ169 fun v171 H172 τ173 =>
    gK v170 true (fun q' => call f_law21_get [v171, (.str (bs [120])), (.str []), (.bool false)] H172 τ173 q') H172 τ173 fun v174 H175 τ176 => gK v170 true (fun q' => binK .eql v174 (.str (bs [110, 111, 110, 101])) fun v => q' v H175 τ176) H175 τ176 fun v177 H178 τ179 => someK (pPick [v170, v177, (.bool false)]) fun v180 => gK v180 true (fun q' => call f_law21_known [] H178 τ179 q') H178 τ179 fun v181 H182 τ183 => someK (pPick [v180, v181, (.bool false)]) fun v184 => q v184 H182 τ183
def s_law21_BlobNumbers_l1 (call : CallK) (N : Nat) (st : St) (τ : Tape) (k : KC) : Ans := match st with
  | ⟨fr, H⟩ => getK fr 1 fun t1 => getK fr 2 fun t2 => getK fr 5 fun t5 => getK fr 7 fun t7 => getK fr 8 fun t8 => getK fr 9 fun t9 => getK fr 10 fun t10 => getK fr 12 fun t12 => getK fr 13 fun t13 => getK fr 14 fun t14 => call f_blob_Store_Len [t1] H τ fun v185 H186 τ187 => binK .lss v185 (.int .i64 (.ofNat 32)) fun v188 => condK v188 (call f_law21_of [(.str (bs [104, 116, 116, 112, 115, 58, 47, 47, 97]))] H186 τ187 fun v189 H190 τ191 => call f_blob_Store_Put [t1, v189, (.str []), .nils] H190 τ191 fun v192 H193 τ194 => someK (pExtract 0 [v192]) fun v195 => someK (pExtract 1 [v192]) fun v196 => binK .neq v196 (.int .i64 (.ofNat 0)) fun v197 => condK v197 (k .ret ⟨(T.set .leaf 0 (.bool false)), H193⟩ τ194)
    (k .normal ⟨(T.set (T.set (T.set (T.set (T.set (T.set (T.set (T.set (T.set (T.set (T.set .leaf 1 t1) 2 t2) 5 t5) 7 t7) 8 t8) 9 t9) 10 t10) 12 t12) 13 t13) 14 t14) 78 v197), H193⟩ τ194)) (k (.exit 0) ⟨(T.set (T.set (T.set (T.set (T.set (T.set (T.set (T.set (T.set (T.set .leaf 1 t1) 2 t2) 5 t5) 7 t7) 8 t8) 9 t9) 10 t10) 12 t12) 13 t13) 14 t14), H186⟩ τ187)
def s_law21_BlobNumbers (call : CallK) (N : Nat) (H : Heap) (τ : Tape) (q : KV) : Ans := call f_blob_New [] H τ fun v0 H1 τ2 => someK (lPeq false [v0, .nilp] H1) fun v3 => condK v3 (q (.bool false) H1 τ2) (call f_law21_of [(.str (bs [100, 97, 116, 97, 58, 120]))] H1 τ2 fun v4 H5 τ6 => effK (eBuildSlice 3 1 [(.int .u8 (.ofNat 0)), (.int .u8 (.ofNat 0)), (.int .u8 (.ofNat 0))] [(0, 1), (1, 1), (2, 1)] [(.int .u8 (.ofNat 97)), (.int .u8 (.ofNat 98)), (.int .u8 (.ofNat 99))] H5 τ6) fun v7 H8 τ9 => effK (eMark [v7] H8 τ9) fun v10 H11 τ12 => call f_blob_Store_Put [v0, v4, (.str (bs [32, 107, 32])), v10] H11 τ12 fun v13 H14 τ15 => someK (pExtract 0 [v13]) fun v16 => someK (pExtract 1 [v13]) fun v17 => call f_law21_of [(.str (bs [104, 116, 116, 112, 115, 58, 47, 47, 97]))] H14 τ15 fun v18 H19 τ20 => call f_blob_Store_Put [v0, v18, (.str (bs [97, 10, 98])), .nils] H19 τ20 fun v21 H22 τ23 =>
    someK (pExtract 0 [v21]) fun v24 => someK (pExtract 1 [v21]) fun v25 => call f_law21_of [(.str (bs [104, 116, 116, 112, 115, 58, 47, 47, 97]))] H22 τ23 fun v26 H27 τ28 => effK (eMakeSlice 1 1 [(.int .u8 (.ofNat 0))] [(.int .i64 (.ofNat 16385)), (.int .i64 (.ofNat 16385))] H27 τ28) fun v29 H30 τ31 => call f_blob_Store_Put [v0, v26, (.str []), v29] H30 τ31 fun v32 H33 τ34 => someK (pExtract 0 [v32]) fun v35 => someK (pExtract 1 [v32]) fun v36 => call f_blob_Store_Read [v0, v16, (.str []), (.bool false)] H33 τ34 fun v37 H38 τ39 => someK (pExtract 0 [v37]) fun v40 => someK (pExtract 1 [v37]) fun v41 => effK (eAlloc [(.int .i64 (.ofNat 0)), .nils, .nils] [] H38 τ39) fun v42 H43 τ44 => effK (eStore 3 [v42, v40] H43 τ44) fun v45 H46 τ47 => call f_law21_of [(.str (bs [104, 116, 116, 112, 115, 58, 47, 47, 97, 58, 53]))] H46 τ47 fun v48 H49 τ50 =>
    call f_blob_Store_Put [v0, v48, (.str []), .nils] H49 τ50 fun v51 H52 τ53 => someK (pExtract 0 [v51]) fun v54 => someK (pExtract 1 [v51]) fun v55 => call f_blob_Store_Drop [v0, v16] H52 τ53 fun v56 H57 τ58 => call f_blob_Store_Drop [v0, v16] H57 τ58 fun v59 H60 τ61 => call f_law21_of [(.str (bs [104, 116, 116, 112, 115, 58, 47, 47, 97]))] H60 τ61 fun v62 H63 τ64 => call f_blob_Store_Put [v0, v62, (.str []), .nils] H63 τ64 fun v65 H66 τ67 => someK (pExtract 0 [v65]) fun v68 => someK (pExtract 1 [v65]) fun v69 => loopK (s_law21_BlobNumbers_l1 call N) N ⟨(T.set (T.set (T.set (T.set (T.set (T.set (T.set (T.set (T.set (T.set .leaf 1 v0) 2 v16) 5 v25) 7 v36) 8 v42) 9 v41) 10 v54) 12 v56) 13 v59) 14 v68), H66⟩ τ67 (blockK 0 (seqK (s_law21_BlobNumbers_j0 call N q) (endK [(.t 0)] q))))
theorem s_law21_BlobNumbers_eq (call : CallK) (N : Nat) (H : Heap) (τ : Tape) (q : KV) : s_law21_BlobNumbers call N  H τ q = funK call N fn_law21_BlobNumbers [] H τ q := by kernel_rfl
def e_law21_BlobNumbers (call : CallK) (N : Nat) (vs : List V) (H : Heap) (τ : Tape) (q : KV) : Ans := match vs with | [] => s_law21_BlobNumbers call N  H τ q | _ => none
theorem e_law21_BlobNumbers_ok : EntOk fn_law21_BlobNumbers e_law21_BlobNumbers := by
  intro call N vs H τ q r h
  unfold e_law21_BlobNumbers at h
  split at h
  · rw [s_law21_BlobNumbers_eq] at h; exact h
  · cases h
theorem e_law21_BlobNumbers_nat : EntNat e_law21_BlobNumbers := by
  intro c hn N vs H τ q
  unfold e_law21_BlobNumbers
  split
  · rw [s_law21_BlobNumbers_eq, s_law21_BlobNumbers_eq]; exact funK_ent hn _ _ _ _ _ _
  · rfl
/-- ostiary/ostiarybook.Same[ostiary/api.Header] -/
def fn_book_Same_Header : Fun := ⟨2, (.seq (.reg [iR 4 (.p .mv) [(.c (.bool false))]]) (.keep [0, 1] (.seq (.seq (.reg [iR 6 (.p .mv) [(.t 0)], iR 7 (.p .len) [(.t 6)], iR 8 (.p .mv) [(.t 1)], iR 9 (.p .len) [(.t 8)], iR 10 (.p (.bin .neq)) [(.t 7), (.t 9)]]) (.keep [0, 1, 10] (.cond (.t 10) (.seq (.reg [iR 4 (.p .mv) [(.c (.bool false))]]) (.keep [4] (.keep [4] .ret))) .skip))) (.keep [0, 1] (.seq (.seq (.reg [iR 5 (.p .mv) [(.c (.int .i64 (.ofNat 0)))]]) (.keep [0, 1, 5] (.block 0 (.loop (.keep [0, 1, 5] (.seq (.seq (.reg [iR 11 (.p .mv) [(.t 5)], iR 12 (.p .mv) [(.t 0)], iR 13 (.p .len) [(.t 12)], iR 14 (.p (.bin .lss)) [(.t 11), (.t 13)]]) (.keep [0, 1, 5, 14] (.cond (.t 14) .skip (.keep [] (.exit 0))))) (.keep [0, 1, 5] (.seq (.block 1 (.seq (.draw [iR 17 (.p .mv) [(.t 0)], iR 18 (.p .mv) [(.t 5)], iR 19 (.p (.slIdx 2)) [(.t 17), (.t 18)],
    iR 20 (.l (.load (some 2))) [(.t 19)], iR 21 (.p .mv) [(.t 1)], iR 22 (.p .mv) [(.t 5)], iR 23 (.p (.slIdx 2)) [(.t 21), (.t 22)], iR 24 (.l (.load (some 2))) [(.t 23)], iR 25 (.p (.eq true (.flat [.str, .str]))) [(.t 20), (.t 24)]]) (.keep [0, 1, 5, 25] (.cond (.t 25) (.seq (.reg [iR 4 (.p .mv) [(.c (.bool false))]]) (.keep [4] (.keep [4] .ret))) .skip)))) (.keep [0, 1, 5] (.reg [iR 15 (.p .mv) [(.t 5)], iR 16 (.p (.bin .add)) [(.t 15), (.c (.int .i64 (.ofNat 1)))], iR 5 (.p .mv) [(.t 16)]])))))))))) (.keep [] (.seq (.reg [iR 4 (.p .mv) [(.c (.bool true))]]) (.keep [4] (.keep [4] .ret))))))))), [(.t 4)]⟩
def s_book_Same_Header_j0 (call : CallK) (N : Nat) (q : KV) (st : St) (τ : Tape) : Ans := match st with
  | ⟨fr, H⟩ => q (.bool true) H τ
def s_book_Same_Header_l1 (call : CallK) (N : Nat) (st : St) (τ : Tape) (k : KC) : Ans := match st with
  | ⟨fr, H⟩ => getK fr 0 fun t0 => getK fr 1 fun t1 => getK fr 5 fun t5 => someK (pLen [t0]) fun v3 => binK .lss t5 v3 fun v4 => condK v4 (someK (pSlIdx 2 [t0, t5]) fun v5 => someK (lLoadN 2 [v5] H) fun v6 => someK (pSlIdx 2 [t1, t5]) fun v7 => someK (lLoadN 2 [v7] H) fun v8 => someK (pEq true (.flat [.str, .str]) [v6, v8]) fun v9 => condK v9 (k .ret ⟨(T.set .leaf 4 (.bool false)), H⟩ τ) (binK .add t5 (.int .i64 (.ofNat 1)) fun v10 => k .normal ⟨(T.set (T.set (T.set (T.set (T.set (T.set .leaf 0 t0) 1 t1) 5 t5) 15 t5) 16 v10) 5 v10), H⟩ τ)) (k (.exit 0) ⟨.leaf, H⟩ τ)
def s_book_Same_Header (call : CallK) (N : Nat) (a0 a1 : V) (H : Heap) (τ : Tape) (q : KV) : Ans := someK (pLen [a0]) fun v0 => someK (pLen [a1]) fun v1 => binK .neq v0 v1 fun v2 => condK v2 (q (.bool false) H τ) (loopK (s_book_Same_Header_l1 call N) N ⟨(T.set (T.set (T.set .leaf 0 a0) 1 a1) 5 (.int .i64 (.ofNat 0))), H⟩ τ (blockK 0 (seqK (s_book_Same_Header_j0 call N q) (endK [(.t 4)] q))))
theorem s_book_Same_Header_eq (call : CallK) (N : Nat) (a0 a1 : V) (H : Heap) (τ : Tape) (q : KV) : s_book_Same_Header call N a0 a1 H τ q = funK call N fn_book_Same_Header [a0, a1] H τ q := by kernel_rfl
def e_book_Same_Header (call : CallK) (N : Nat) (vs : List V) (H : Heap) (τ : Tape) (q : KV) : Ans := match vs with | [a0, a1] => s_book_Same_Header call N a0 a1 H τ q | _ => none
theorem e_book_Same_Header_ok : EntOk fn_book_Same_Header e_book_Same_Header := by
  intro call N vs H τ q r h
  unfold e_book_Same_Header at h
  split at h
  · rw [s_book_Same_Header_eq] at h; exact h
  · cases h
theorem e_book_Same_Header_nat : EntNat e_book_Same_Header := by
  intro c hn N vs H τ q
  unfold e_book_Same_Header
  split
  · rw [s_book_Same_Header_eq, s_book_Same_Header_eq]; exact funK_ent hn _ _ _ _ _ _
  · rfl
/-- ostiary/blob.New -/
def fn_blob_New : Fun := ⟨0, (.seq (.reg [iR 0 (.p .mv) [(.c .nilp)]]) (.keep [] (.seq (.reg [iR 1 (.e .mkMap) [], iR 2 (.p (.build [.nilm, (.int .i64 (.ofNat 0))] [(0, 1)])) [(.t 1)], iR 3 (.e .box) [(.t 2)], iR 0 (.p .mv) [(.t 3)]]) (.keep [0] (.keep [0] .ret))))), [(.t 0)]⟩
def s_blob_New (call : CallK) (N : Nat) (H : Heap) (τ : Tape) (q : KV) : Ans := effK (eMkMap [] H τ) fun v0 H1 τ2 => someK (pBuild [.nilm, (.int .i64 (.ofNat 0))] [(0, 1)] [v0]) fun v3 => effK (eBox [v3] H1 τ2) fun v4 H5 τ6 => q v4 H5 τ6
theorem s_blob_New_eq (call : CallK) (N : Nat) (H : Heap) (τ : Tape) (q : KV) : s_blob_New call N  H τ q = funK call N fn_blob_New [] H τ q := by kernel_rfl
def e_blob_New (call : CallK) (N : Nat) (vs : List V) (H : Heap) (τ : Tape) (q : KV) : Ans := match vs with | [] => s_blob_New call N  H τ q | _ => none
theorem e_blob_New_ok : EntOk fn_blob_New e_blob_New := by
  intro call N vs H τ q r h
  unfold e_blob_New at h
  split at h
  · rw [s_blob_New_eq] at h; exact h
  · cases h
theorem e_blob_New_nat : EntNat e_blob_New := by
  intro c hn N vs H τ q
  unfold e_blob_New
  split
  · rw [s_blob_New_eq, s_blob_New_eq]; exact funK_ent hn _ _ _ _ _ _
  · rfl
/-- (*ostiary/blob.Store).Put -/
def fn_blob_Store_Put : Fun := ⟨4, (.seq (.reg [iR 5 (.e .box) [(.t 1)], iR 8 (.p .mv) [(.c (.str []))], iR 9 (.p .mv) [(.c (.int .i64 (.ofNat 0)))]]) (.keep [0, 2, 3, 5] (.seq (.reg [iR 14 (.p .mv) [(.t 2)], iR 15 (.call 71) [(.t 14)], iR 13 (.p .mv) [(.t 15)], iR 16 (.p (.extract 0)) [(.t 13)], iR 17 (.p (.extract 1)) [(.t 13)], iR 10 (.p .mv) [(.t 16)], iR 11 (.p .mv) [(.t 17)]]) (.keep [0, 2, 3, 5, 10, 11] (.seq (.block 0 (.seq (.reg [iR 19 (.p .mv) [(.t 11)], iR 20 (.p (.un .not)) [(.t 19)], iR 18 (.p .mv) [(.t 20)]]) (.keep [0, 2, 3, 5, 10, 18] (.cond (.t 18) (.seq (.reg [iR 8 (.p .mv) [(.c (.str []))], iR 9 (.p .mv) [(.c (.int .i64 (.ofNat 1)))]]) (.keep [8, 9] (.keep [8, 9] .ret))) (.seq (.reg [iR 22 (.p .mv) [(.t 3)], iR 23 (.p .len) [(.t 22)], iR 24 (.p (.bin .gtr)) [(.t 23), (.c (.int .i64 (.ofNat 16384)))], iR 25 (.p .mv) [(.t 24)], iG 26 25 false (.p .mv) [(.t 2)],
    iG 27 25 false (.p .lenS) [(.t 26)], iG 28 25 false (.p (.bin .gtr)) [(.t 27), (.c (.int .i64 (.ofNat 4096)))], iR 29 (.p .pick) [(.t 25), (.c (.bool true)), (.t 28)], iR 21 (.p .mv) [(.t 29)]]) (.keep [0, 3, 5, 10, 21] (.cond (.t 21) (.seq (.reg [iR 8 (.p .mv) [(.c (.str []))], iR 9 (.p .mv) [(.c (.int .i64 (.ofNat 3)))]]) (.keep [8, 9] (.keep [8, 9] .ret))) (.seq (.reg [iR 31 (.p .mv) [(.t 0)], iR 32 (.p .nilck) [(.t 31)], iR 33 (.p (.fieldAddr 0)) [(.t 32)], iR 34 (.l (.load none)) [(.t 33)], iR 35 (.l .mlen) [(.t 34)], iR 36 (.p (.bin .geq)) [(.t 35), (.c (.int .i64 (.ofNat 32)))], iR 30 (.p .mv) [(.t 36)]]) (.keep [0, 3, 5, 10, 30] (.cond (.t 30) (.seq (.reg [iR 8 (.p .mv) [(.c (.str []))], iR 9 (.p .mv) [(.c (.int .i64 (.ofNat 4)))]]) (.keep [8, 9] (.keep [8, 9] .ret))) .skip)))))))))) (.keep [0, 3, 5, 10] (.seq (.reg [iR 37 (.p .mv) [(.t 0)], iR 38 (.p .nilck) [(.t 37)],
    iR 39 (.p (.fieldAddr 1)) [(.t 38)], iR 40 (.l (.load none)) [(.t 39)], iR 41 (.p (.bin .add)) [(.t 40), (.c (.int .i64 (.ofNat 1)))], iR 42 (.p .nilck) [(.t 37)], iR 43 (.p (.fieldAddr 1)) [(.t 42)], ⟨none, none, (.e (.store 1)), [(.t 43), (.t 41)], none⟩]) (.keep [0, 3, 5, 10] (.seq (.draw [iR 44 (.l (.load (some 4))) [(.t 5)], iR 45 (.call 72) [(.t 44)], iR 46 (.p (.bin .add)) [(.c (.str (bs [98, 108, 111, 98, 58]))), (.t 45)], iR 47 (.p (.bin .add)) [(.t 46), (.c (.str (bs [47])))], iR 48 (.p .mv) [(.t 0)], iR 49 (.p .nilck) [(.t 48)], iR 50 (.p (.fieldAddr 1)) [(.t 49)], ⟨(some 51), none, (.l (.load none)), [(.t 50)], some (0, 1)⟩, iR 52 (.call 73) [(.t 51)], iR 53 (.p (.bin .add)) [(.t 47), (.t 52)], iR 12 (.p .mv) [(.t 53)]]) (.keep [0, 3, 10, 12] (.seq (.draw [iR 54 (.p .mv) [(.t 0)], iR 55 (.p .nilck) [(.t 54)], iR 56 (.p (.fieldAddr 0)) [(.t 55)],
    ⟨(some 57), none, (.l (.load none)), [(.t 56)], some (0, 1)⟩, iR 58 (.p .mv) [(.t 12)], iR 59 (.p .mv) [(.t 10)], iR 60 (.p .mv) [(.t 3)], iR 61 (.call 74) [(.t 60)], iR 62 (.p (.build [(.str []), .nils] [(0, 1), (1, 1)])) [(.t 59), (.t 61)], ⟨none, none, (.e .mput), [(.t 57), (.t 58), (.t 62)], none⟩]) (.keep [12] (.seq (.reg [iR 63 (.p .mv) [(.t 12)], iR 8 (.p .mv) [(.t 63)], iR 9 (.p .mv) [(.c (.int .i64 (.ofNat 0)))]]) (.keep [8, 9] (.keep [8, 9] .ret))))))))))))))), [(.t 8), (.t 9)]⟩
def s_blob_Store_Put (call : CallK) (N : Nat) (a0 a1 a2 a3 : V) (H : Heap) (τ : Tape) (q : KV) : Ans := effK (eBox [a1] H τ) fun v0 H1 τ2 => call f_headers_Value [a2] H1 τ2 fun v3 H4 τ5 => someK (pExtract 0 [v3]) fun v6 => someK (pExtract 1 [v3]) fun v7 => unK .not v7 fun v8 => condK v8 (q (.tup [(.str []), (.int .i64 (.ofNat 1))]) H4 τ5) (someK (pLen [a3]) fun v9 => binK .gtr v9 (.int .i64 (.ofNat 16384)) fun v10 => gK v10 false (fun q' => q' a2 H4 τ5) H4 τ5 fun v11 H12 τ13 => gK v10 false (fun q' => someK (pLenS [v11]) fun v => q' v H12 τ13) H12 τ13 fun v14 H15 τ16 => gK v10 false (fun q' => binK .gtr v14 (.int .i64 (.ofNat 4096)) fun v => q' v H15 τ16) H15 τ16 fun v17 H18 τ19 => someK (pPick [v10, (.bool true), v17]) fun v20 => condK v20 (q (.tup [(.str []), (.int .i64 (.ofNat 3))]) H18 τ19) (someK (pNilck [a0]) fun v21 => someK (pFieldAddr 0 [v21]) fun v22 =>
    someK (lLoad1 [v22] H18) fun v23 => someK (lMlen [v23] H18) fun v24 => binK .geq v24 (.int .i64 (.ofNat 32)) fun v25 => condK v25 (q (.tup [(.str []), (.int .i64 (.ofNat 4))]) H18 τ19) (someK (pNilck [a0]) fun v26 => someK (pFieldAddr 1 [v26]) fun v27 => someK (lLoad1 [v27] H18) fun v28 => binK .add v28 (.int .i64 (.ofNat 1)) fun v29 => someK (pNilck [a0]) fun v30 => someK (pFieldAddr 1 [v30]) fun v31 => effK (eStore 1 [v31, v29] H18 τ19) fun v32 H33 τ34 => someK (lLoadN 4 [v0] H33) fun v35 => call f_origin_Text [v35] H33 τ34 fun v36 H37 τ38 => binK .add (.str (bs [98, 108, 111, 98, 58])) v36 fun v39 => binK .add v39 (.str (bs [47])) fun v40 => someK (pNilck [a0]) fun v41 => someK (pFieldAddr 1 [v41]) fun v42 => someK (lLoad1 [v42] H37) fun v43 => call f_strconv_Itoa [v43] H37 τ38 fun v44 H45 τ46 => binK .add v40 v44 fun v47 =>
    bif chkLoads [H33, H37, H45] (((.load none), [v42], 0, 1) :: []) then someK (pNilck [a0]) fun v48 => someK (pFieldAddr 0 [v48]) fun v49 => someK (lLoad1 [v49] H45) fun v50 => call f_slices_Clone_byte [a3] H45 τ46 fun v51 H52 τ53 => someK (pBuild [(.str []), .nils] [(0, 1), (1, 1)] [v6, v51]) fun v54 => effK (eMput [v50, v47, v54] H52 τ53) fun v55 H56 τ57 => bif chkLoads [H45, H52, H56] (((.load none), [v49], 0, 1) :: []) then q (.tup [v47, (.int .i64 (.ofNat 0))]) H56 τ57 else none else none)))
theorem s_blob_Store_Put_eq (call : CallK) (N : Nat) (a0 a1 a2 a3 : V) (H : Heap) (τ : Tape) (q : KV) : s_blob_Store_Put call N a0 a1 a2 a3 H τ q = funK call N fn_blob_Store_Put [a0, a1, a2, a3] H τ q := by kernel_rfl
def e_blob_Store_Put (call : CallK) (N : Nat) (vs : List V) (H : Heap) (τ : Tape) (q : KV) : Ans := match vs with | [a0, a1, a2, a3] => s_blob_Store_Put call N a0 a1 a2 a3 H τ q | _ => none
theorem e_blob_Store_Put_ok : EntOk fn_blob_Store_Put e_blob_Store_Put := by
  intro call N vs H τ q r h
  unfold e_blob_Store_Put at h
  split at h
  · rw [s_blob_Store_Put_eq] at h; exact h
  · cases h
theorem e_blob_Store_Put_nat : EntNat e_blob_Store_Put := by
  intro c hn N vs H τ q
  unfold e_blob_Store_Put
  split
  · rw [s_blob_Store_Put_eq, s_blob_Store_Put_eq]; exact funK_ent hn _ _ _ _ _ _
  · rfl
/-- ostiary/ostiarylaw21.of -/
def fn_law21_of : Fun := ⟨1, (.seq (.reg [iR 2 (.e (.alloc [(.str []), (.str []), (.int .i64 (.ofNat 0)), (.bool false)])) []]) (.keep [0, 2] (.seq (.reg [iR 6 (.p .mv) [(.t 0)], iR 7 (.call 75) [(.t 6)], iR 5 (.p .mv) [(.t 7)], iR 8 (.p (.extract 0)) [(.t 5)], iR 9 (.p (.extract 1)) [(.t 5)], iR 3 (.e (.alloc [(.str []), (.str []), (.str []), (.str []), (.bool false), (.int .i64 (.ofNat 0)), (.bool false), .nils, (.str []), (.str []), (.bool false), (.bool false)])) [], ⟨none, none, (.e (.store 12)), [(.t 3), (.t 8)], none⟩, iR 4 (.p .mv) [(.t 9)]]) (.keep [2, 3] (.seq (.reg [iR 10 (.l (.load (some 12))) [(.t 3)], iR 11 (.call 76) [(.t 10)], ⟨none, none, (.e (.store 4)), [(.t 2), (.t 11)], none⟩]) (.keep [2] (.keep [2] .ret))))))), [(.cell 2 (some 4))]⟩
def s_law21_of (call : CallK) (N : Nat) (a0 : V) (H : Heap) (τ : Tape) (q : KV) : Ans := effK (eAlloc [(.str []), (.str []), (.int .i64 (.ofNat 0)), (.bool false)] [] H τ) fun v0 H1 τ2 => call f_keep_URL [a0] H1 τ2 fun v3 H4 τ5 => someK (pExtract 0 [v3]) fun v6 => someK (pExtract 1 [v3]) fun v7 => effK (eAlloc [(.str []), (.str []), (.str []), (.str []), (.bool false), (.int .i64 (.ofNat 0)), (.bool false), .nils, (.str []), (.str []), (.bool false), (.bool false)] [] H4 τ5) fun v8 H9 τ10 => effK (eStore 12 [v8, v6] H9 τ10) fun v11 H12 τ13 => someK (lLoadN 12 [v8] H12) fun v14 => call f_ref4_Of [v14] H12 τ13 fun v15 H16 τ17 => effK (eStore 4 [v0, v15] H16 τ17) fun v18 H19 τ20 => someK (results ⟨(T.set .leaf 2 v0), H19⟩ [(.cell 2 (some 4))]) fun v => q v H19 τ20
theorem s_law21_of_eq (call : CallK) (N : Nat) (a0 : V) (H : Heap) (τ : Tape) (q : KV) : s_law21_of call N a0 H τ q = funK call N fn_law21_of [a0] H τ q := by kernel_rfl
def e_law21_of (call : CallK) (N : Nat) (vs : List V) (H : Heap) (τ : Tape) (q : KV) : Ans := match vs with | [a0] => s_law21_of call N a0 H τ q | _ => none
theorem e_law21_of_ok : EntOk fn_law21_of e_law21_of := by
  intro call N vs H τ q r h
  unfold e_law21_of at h
  split at h
  · rw [s_law21_of_eq] at h; exact h
  · cases h
theorem e_law21_of_nat : EntNat e_law21_of := by
  intro c hn N vs H τ q
  unfold e_law21_of
  split
  · rw [s_law21_of_eq, s_law21_of_eq]; exact funK_ent hn _ _ _ _ _ _
  · rfl
/-- (*ostiary/blob.Store).Read -/
def fn_blob_Store_Read : Fun := ⟨4, (.seq (.reg [iR 8 (.e (.alloc [(.int .i64 (.ofNat 0)), .nils, .nils])) [], iR 9 (.p .mv) [(.c (.bool false))]]) (.keep [0, 1, 2, 3, 8] (.seq (.reg [iR 17 (.p .mv) [(.t 1)], iR 18 (.call 77) [(.t 17), (.c (.str (bs [35])))], iR 16 (.p .mv) [(.t 18)], iR 19 (.p (.extract 0)) [(.t 16)], iR 20 (.p (.extract 1)) [(.t 16)], iR 21 (.p (.extract 2)) [(.t 16)], iR 1 (.p .mv) [(.t 19)]]) (.keep [0, 1, 2, 3, 8] (.seq (.reg [iR 23 (.p .mv) [(.t 0)], iR 24 (.p .nilck) [(.t 23)], iR 25 (.p (.fieldAddr 0)) [(.t 24)], iR 26 (.l (.load none)) [(.t 25)], iR 27 (.p .mv) [(.t 1)], iR 28 (.l (.mlook (.agg [(.str []), .nils]) true)) [(.t 26), (.t 27)], iR 22 (.p .mv) [(.t 28)], iR 29 (.p (.extract 0)) [(.t 22)], iR 30 (.p (.extract 1)) [(.t 22)], iR 10 (.e (.alloc [(.str []), .nils])) [], ⟨none, none, (.e (.store 2)), [(.t 10), (.t 29)], none⟩,
    iR 11 (.p .mv) [(.t 30)]]) (.keep [2, 3, 8, 10, 11] (.seq (.seq (.reg [iR 31 (.p .mv) [(.t 11)], iR 32 (.p (.un .not)) [(.t 31)]]) (.keep [2, 3, 8, 10, 32] (.cond (.t 32) (.seq (.reg [iR 33 (.p (.build [(.int .i64 (.ofNat 0)), .nils, .nils] [])) [], ⟨none, none, (.e (.store 3)), [(.t 8), (.t 33)], none⟩, iR 9 (.p .mv) [(.c (.bool false))]]) (.keep [8, 9] (.keep [8, 9] .ret))) .skip))) (.keep [2, 3, 8, 10] (.seq (.seq (.reg [iR 34 (.p .mv) [(.t 3)], iR 35 (.p (.un .not)) [(.t 34)]]) (.keep [2, 8, 10, 35] (.cond (.t 35) (.seq (.reg [iR 36 (.l (.load (some 2))) [(.t 10)], iR 37 (.p (.fieldAddr 1)) [(.t 10)], iR 38 (.l (.load none)) [(.t 37)], iR 39 (.p .len) [(.t 38)], iR 40 (.call 78) [(.c (.int .i64 (.ofNat 200))), (.t 36), (.c (.int .i64 (.ofNat 0))), (.t 39)], ⟨none, none, (.e (.store 3)), [(.t 8), (.t 40)], none⟩, iR 9 (.p .mv) [(.c (.bool true))]])
    (.keep [8, 9] (.keep [8, 9] .ret))) .skip))) (.keep [2, 8, 10] (.seq (.reg [iR 41 (.p (.fieldAddr 1)) [(.t 10)], iR 42 (.l (.load none)) [(.t 41)], iR 43 (.p .len) [(.t 42)], iR 12 (.p .mv) [(.t 43)]]) (.keep [2, 8, 10, 12] (.seq (.reg [iR 45 (.p .mv) [(.t 2)], iR 46 (.call 79) [(.t 45)], iR 44 (.p .mv) [(.t 46)], iR 47 (.p (.extract 0)) [(.t 44)], iR 48 (.p (.extract 1)) [(.t 44)], iR 49 (.p (.extract 2)) [(.t 44)], iR 13 (.p .mv) [(.t 47)], iR 14 (.p .mv) [(.t 48)], iR 11 (.p .mv) [(.t 49)]]) (.keep [8, 10, 11, 12, 13, 14] (.seq (.block 0 (.seq (.reg [iR 51 (.p .mv) [(.t 11)], iR 52 (.p (.un .not)) [(.t 51)], iR 50 (.p .mv) [(.t 52)]]) (.keep [8, 10, 12, 13, 14, 50] (.cond (.t 50) (.seq (.reg [iR 53 (.p (.build [(.int .i64 (.ofNat 0)), .nils, .nils] [])) [], ⟨none, none, (.e (.store 3)), [(.t 8), (.t 53)], none⟩, iR 9 (.p .mv) [(.c (.bool false))]])
    (.keep [8, 9] (.keep [8, 9] .ret))) (.seq (.reg [iR 55 (.p .mv) [(.t 13)], iR 56 (.p (.bin .lss)) [(.t 55), (.c (.int .i64 (.ofNat 0)))], iR 54 (.p .mv) [(.t 56)]]) (.keep [8, 10, 12, 13, 14, 54] (.cond (.t 54) (.reg [iR 57 (.p .mv) [(.t 12)], iR 58 (.p .mv) [(.t 14)], iR 59 (.p (.bin .sub)) [(.t 57), (.t 58)], iR 60 (.p .max2) [(.t 59), (.c (.int .i64 (.ofNat 0)))], iR 61 (.p .mv) [(.t 12)], iR 62 (.p (.bin .sub)) [(.t 61), (.c (.int .i64 (.ofNat 1)))], iR 13 (.p .mv) [(.t 60)], iR 14 (.p .mv) [(.t 62)]]) (.seq (.reg [iR 64 (.p .mv) [(.t 14)], iR 65 (.p (.bin .lss)) [(.t 64), (.c (.int .i64 (.ofNat 0)))], iR 63 (.p .mv) [(.t 65)]]) (.keep [8, 10, 12, 13, 14, 63] (.cond (.t 63) (.reg [iR 66 (.p .mv) [(.t 12)], iR 67 (.p (.bin .sub)) [(.t 66), (.c (.int .i64 (.ofNat 1)))], iR 14 (.p .mv) [(.t 67)]]) .skip)))))))))) (.keep [8, 10, 12, 13, 14] (.seq (.reg [iR 68 (.p .mv) [(.t 14)],
    iR 69 (.p .mv) [(.t 12)], iR 70 (.p (.bin .sub)) [(.t 69), (.c (.int .i64 (.ofNat 1)))], iR 71 (.p .min2) [(.t 68), (.t 70)], iR 14 (.p .mv) [(.t 71)]]) (.keep [8, 10, 12, 13, 14] (.seq (.seq (.reg [iR 72 (.p .mv) [(.t 13)], iR 73 (.p .mv) [(.t 14)], iR 74 (.p (.bin .gtr)) [(.t 72), (.t 73)]]) (.keep [8, 10, 12, 13, 14, 74] (.cond (.t 74) (.seq (.reg [iR 75 (.p (.build [(.int .i64 (.ofNat 0)), .nils, .nils] [])) [], ⟨none, none, (.e (.store 3)), [(.t 8), (.t 75)], none⟩, iR 9 (.p .mv) [(.c (.bool false))]]) (.keep [8, 9] (.keep [8, 9] .ret))) .skip))) (.keep [8, 10, 12, 13, 14] (.seq (.reg [iR 76 (.l (.load (some 2))) [(.t 10)], iR 77 (.p .mv) [(.t 13)], iR 78 (.p .mv) [(.t 14)], iR 79 (.p (.bin .add)) [(.t 78), (.c (.int .i64 (.ofNat 1)))], iR 80 (.call 78) [(.c (.int .i64 (.ofNat 206))), (.t 76), (.t 77), (.t 79)], iR 15 (.e (.alloc [(.int .i64 (.ofNat 0)), .nils, .nils])) [],
    ⟨none, none, (.e (.store 3)), [(.t 15), (.t 80)], none⟩]) (.keep [8, 12, 13, 14, 15] (.seq (.draw [iR 81 (.p (.fieldAddr 1)) [(.t 15)], ⟨(some 82), none, (.l (.load none)), [(.t 81)], some (0, 4)⟩, iR 83 (.p .mv) [(.t 13)], iR 84 (.call 80) [(.t 83)], iR 85 (.p (.bin .add)) [(.c (.str (bs [98, 121, 116, 101, 115, 32]))), (.t 84)], iR 86 (.p (.bin .add)) [(.t 85), (.c (.str (bs [45])))], iR 87 (.p .mv) [(.t 14)], iR 88 (.call 80) [(.t 87)], iR 89 (.p (.bin .add)) [(.t 86), (.t 88)], iR 90 (.p (.bin .add)) [(.t 89), (.c (.str (bs [47])))], iR 91 (.p .mv) [(.t 12)], iR 92 (.call 80) [(.t 91)], iR 93 (.p (.bin .add)) [(.t 90), (.t 92)], iR 94 (.p (.build [(.str []), (.str [])] [(0, 1), (1, 1)])) [(.c (.str (bs [99, 111, 110, 116, 101, 110, 116, 45, 114, 97, 110, 103, 101]))), (.t 93)], iR 95 (.e (.buildSlice 1 2 [(.str []), (.str [])] [(0, 2)])) [(.t 94)],
    iR 96 (.e (.append 2 32)) [(.t 82), (.t 95)], iR 97 (.p (.fieldAddr 1)) [(.t 15)], ⟨none, none, (.e (.store 1)), [(.t 97), (.t 96)], none⟩]) (.keep [8, 15] (.seq (.reg [iR 98 (.l (.load (some 3))) [(.t 15)], ⟨none, none, (.e (.store 3)), [(.t 8), (.t 98)], none⟩, iR 9 (.p .mv) [(.c (.bool true))]]) (.keep [8, 9] (.keep [8, 9] .ret))))))))))))))))))))))))))), [(.cell 8 (some 3)), (.t 9)]⟩
def s_blob_Store_Read_j0 (call : CallK) (N : Nat) (q : KV) (st : St) (τ : Tape) : Ans := match st with
  | ⟨fr, H⟩ => getK fr 8 fun t8 => getK fr 10 fun t10 => getK fr 12 fun t12 => getK fr 13 fun t13 => getK fr 14 fun t14 => binK .sub t12 (.int .i64 (.ofNat 1)) fun v46 => someK (pMin [t14, v46]) fun v47 => binK .gtr t13 v47 fun v48 => condK v48 (someK (pBuild [(.int .i64 (.ofNat 0)), .nils, .nils] [] []) fun v49 => effK (eStore 3 [t8, v49] H τ) fun v50 H51 τ52 => someK (results ⟨(T.set (T.set .leaf 8 t8) 9 (.bool false)), H51⟩ [(.cell 8 (some 3)), (.t 9)]) fun v => q v H51 τ52) (someK (lLoadN 2 [t10] H) fun v53 => binK .add v47 (.int .i64 (.ofNat 1)) fun v54 => call f_blob_reply [(.int .i64 (.ofNat 206)), v53, t13, v54] H τ fun v55 H56 τ57 => effK (eAlloc [(.int .i64 (.ofNat 0)), .nils, .nils] [] H56 τ57) fun v58 H59 τ60 => effK (eStore 3 [v58, v55] H59 τ60) fun v61 H62 τ63 => someK (pFieldAddr 1 [v58]) fun v64 => someK (lLoad1 [v64] H62) fun v65 =>
    call f_blob_number [t13] H62 τ63 fun v66 H67 τ68 => binK .add (.str (bs [98, 121, 116, 101, 115, 32])) v66 fun v69 => binK .add v69 (.str (bs [45])) fun v70 => call f_blob_number [v47] H67 τ68 fun v71 H72 τ73 => binK .add v70 v71 fun v74 => binK .add v74 (.str (bs [47])) fun v75 => call f_blob_number [t12] H72 τ73 fun v76 H77 τ78 => binK .add v75 v76 fun v79 => someK (pBuild [(.str []), (.str [])] [(0, 1), (1, 1)] [(.str (bs [99, 111, 110, 116, 101, 110, 116, 45, 114, 97, 110, 103, 101])), v79]) fun v80 => effK (eBuildSlice 1 2 [(.str []), (.str [])] [(0, 2)] [v80] H77 τ78) fun v81 H82 τ83 => effK (eAppend 2 32 [v65, v81] H82 τ83) fun v84 H85 τ86 => someK (pFieldAddr 1 [v58]) fun v87 => effK (eStore 1 [v87, v84] H85 τ86) fun v88 H89 τ90 => bif chkLoads [H62, H67, H72, H77, H82, H85, H89] (((.load none), [v64], 0, 4) :: []) then someK (lLoadN 3 [v58] H89) fun v91 =>
    effK (eStore 3 [t8, v91] H89 τ90) fun v92 H93 τ94 => someK (results ⟨(T.set (T.set .leaf 8 t8) 9 (.bool true)), H93⟩ [(.cell 8 (some 3)), (.t 9)]) fun v => q v H93 τ94 else none)
def s_blob_Store_Read (call : CallK) (N : Nat) (a0 a1 a2 a3 : V) (H : Heap) (τ : Tape) (q : KV) : Ans := effK (eAlloc [(.int .i64 (.ofNat 0)), .nils, .nils] [] H τ) fun v0 H1 τ2 => call f_strings_Cut [a1, (.str (bs [35]))] H1 τ2 fun v3 H4 τ5 => someK (pExtract 0 [v3]) fun v6 => someK (pExtract 1 [v3]) fun v7 => someK (pExtract 2 [v3]) fun v8 => someK (pNilck [a0]) fun v9 => someK (pFieldAddr 0 [v9]) fun v10 => someK (lLoad1 [v10] H4) fun v11 => someK (lLook (.agg [(.str []), .nils]) true [v11, v6] H4) fun v12 => someK (pExtract 0 [v12]) fun v13 => someK (pExtract 1 [v12]) fun v14 => effK (eAlloc [(.str []), .nils] [] H4 τ5) fun v15 H16 τ17 => effK (eStore 2 [v15, v13] H16 τ17) fun v18 H19 τ20 => unK .not v14 fun v21 => condK v21 (someK (pBuild [(.int .i64 (.ofNat 0)), .nils, .nils] [] []) fun v22 => effK (eStore 3 [v0, v22] H19 τ20) fun v23 H24 τ25 =>
    someK (results ⟨(T.set (T.set .leaf 8 v0) 9 (.bool false)), H24⟩ [(.cell 8 (some 3)), (.t 9)]) fun v => q v H24 τ25) (unK .not a3 fun v26 => condK v26 (someK (lLoadN 2 [v15] H19) fun v27 => someK (pFieldAddr 1 [v15]) fun v28 => someK (lLoad1 [v28] H19) fun v29 => someK (pLen [v29]) fun v30 => call f_blob_reply [(.int .i64 (.ofNat 200)), v27, (.int .i64 (.ofNat 0)), v30] H19 τ20 fun v31 H32 τ33 => effK (eStore 3 [v0, v31] H32 τ33) fun v34 H35 τ36 => someK (results ⟨(T.set (T.set .leaf 8 v0) 9 (.bool true)), H35⟩ [(.cell 8 (some 3)), (.t 9)]) fun v => q v H35 τ36) (someK (pFieldAddr 1 [v15]) fun v37 => someK (lLoad1 [v37] H19) fun v38 => someK (pLen [v38]) fun v39 => call f_headers_Range [a2] H19 τ20 fun v40 H41 τ42 => someK (pExtract 0 [v40]) fun v43 => someK (pExtract 1 [v40]) fun v44 => someK (pExtract 2 [v40]) fun v45 => unK .not v45 fun v95 => condK v95
    (someK (pBuild [(.int .i64 (.ofNat 0)), .nils, .nils] [] []) fun v96 => effK (eStore 3 [v0, v96] H41 τ42) fun v97 H98 τ99 => someK (results ⟨(T.set (T.set .leaf 8 v0) 9 (.bool false)), H98⟩ [(.cell 8 (some 3)), (.t 9)]) fun v => q v H98 τ99) (binK .lss v43 (.int .i64 (.ofNat 0)) fun v100 => condK v100 (binK .sub v39 v44 fun v101 => someK (pMax [v101, (.int .i64 (.ofNat 0))]) fun v102 => binK .sub v39 (.int .i64 (.ofNat 1)) fun v103 => s_blob_Store_Read_j0 call N q ⟨(T.set (T.set (T.set (T.set (T.set (T.set (T.set (T.set (T.set (T.set (T.set (T.set (T.set (T.set .leaf 8 v0) 10 v15) 12 v39) 13 v43) 14 v44) 54 v100) 57 v39) 58 v44) 59 v101) 60 v102) 61 v39) 62 v103) 13 v102) 14 v103), H41⟩ τ42) (binK .lss v44 (.int .i64 (.ofNat 0)) fun v104 => condK v104 (binK .sub v39 (.int .i64 (.ofNat 1)) fun v105 =>
    s_blob_Store_Read_j0 call N q ⟨(T.set (T.set (T.set (T.set (T.set (T.set (T.set (T.set (T.set .leaf 8 v0) 10 v15) 12 v39) 13 v43) 14 v44) 63 v104) 66 v39) 67 v105) 14 v105), H41⟩ τ42) (s_blob_Store_Read_j0 call N q ⟨(T.set (T.set (T.set (T.set (T.set (T.set .leaf 8 v0) 10 v15) 12 v39) 13 v43) 14 v44) 63 v104), H41⟩ τ42)))))
theorem s_blob_Store_Read_eq (call : CallK) (N : Nat) (a0 a1 a2 a3 : V) (H : Heap) (τ : Tape) (q : KV) : s_blob_Store_Read call N a0 a1 a2 a3 H τ q = funK call N fn_blob_Store_Read [a0, a1, a2, a3] H τ q := by kernel_rfl
def e_blob_Store_Read (call : CallK) (N : Nat) (vs : List V) (H : Heap) (τ : Tape) (q : KV) : Ans := match vs with | [a0, a1, a2, a3] => s_blob_Store_Read call N a0 a1 a2 a3 H τ q | _ => none
theorem e_blob_Store_Read_ok : EntOk fn_blob_Store_Read e_blob_Store_Read := by
  intro call N vs H τ q r h
  unfold e_blob_Store_Read at h
  split at h
  · rw [s_blob_Store_Read_eq] at h; exact h
  · cases h
theorem e_blob_Store_Read_nat : EntNat e_blob_Store_Read := by
  intro c hn N vs H τ q
  unfold e_blob_Store_Read
  split
  · rw [s_blob_Store_Read_eq, s_blob_Store_Read_eq]; exact funK_ent hn _ _ _ _ _ _
  · rfl
/-- (*ostiary/blob.Store).Drop -/
def fn_blob_Store_Drop : Fun := ⟨2, (.seq (.reg [iR 4 (.p .mv) [(.c (.bool false))]]) (.keep [0, 1] (.seq (.reg [iR 8 (.p .mv) [(.t 0)], iR 9 (.p .nilck) [(.t 8)], iR 10 (.p (.fieldAddr 0)) [(.t 9)], iR 11 (.l (.load none)) [(.t 10)], iR 12 (.p .mv) [(.t 1)], iR 13 (.l (.mlook (.agg [(.str []), .nils]) true)) [(.t 11), (.t 12)], iR 7 (.p .mv) [(.t 13)], iR 14 (.p (.extract 0)) [(.t 7)], iR 15 (.p (.extract 1)) [(.t 7)], iR 5 (.e (.alloc [(.str []), .nils])) [], ⟨none, none, (.e (.store 2)), [(.t 5), (.t 14)], none⟩, iR 6 (.p .mv) [(.t 15)]]) (.keep [0, 1, 6] (.seq (.reg [iR 16 (.p .mv) [(.t 0)], iR 17 (.p .nilck) [(.t 16)], iR 18 (.p (.fieldAddr 0)) [(.t 17)], iR 19 (.l (.load none)) [(.t 18)], iR 20 (.p .mv) [(.t 1)], ⟨none, none, (.e .mdel), [(.t 19), (.t 20)], none⟩]) (.keep [6] (.seq (.reg [iR 21 (.p .mv) [(.t 6)], iR 4 (.p .mv) [(.t 21)]]) (.keep [4] (.keep [4] .ret))))))))),
    [(.t 4)]⟩
def s_blob_Store_Drop (call : CallK) (N : Nat) (a0 a1 : V) (H : Heap) (τ : Tape) (q : KV) : Ans := someK (pNilck [a0]) fun v0 => someK (pFieldAddr 0 [v0]) fun v1 => someK (lLoad1 [v1] H) fun v2 => someK (lLook (.agg [(.str []), .nils]) true [v2, a1] H) fun v3 => someK (pExtract 0 [v3]) fun v4 => someK (pExtract 1 [v3]) fun v5 => effK (eAlloc [(.str []), .nils] [] H τ) fun v6 H7 τ8 => effK (eStore 2 [v6, v4] H7 τ8) fun v9 H10 τ11 => someK (pNilck [a0]) fun v12 => someK (pFieldAddr 0 [v12]) fun v13 => someK (lLoad1 [v13] H10) fun v14 => effK (eMdel [v14, a1] H10 τ11) fun v15 H16 τ17 => q v5 H16 τ17
theorem s_blob_Store_Drop_eq (call : CallK) (N : Nat) (a0 a1 : V) (H : Heap) (τ : Tape) (q : KV) : s_blob_Store_Drop call N a0 a1 H τ q = funK call N fn_blob_Store_Drop [a0, a1] H τ q := by kernel_rfl
def e_blob_Store_Drop (call : CallK) (N : Nat) (vs : List V) (H : Heap) (τ : Tape) (q : KV) : Ans := match vs with | [a0, a1] => s_blob_Store_Drop call N a0 a1 H τ q | _ => none
theorem e_blob_Store_Drop_ok : EntOk fn_blob_Store_Drop e_blob_Store_Drop := by
  intro call N vs H τ q r h
  unfold e_blob_Store_Drop at h
  split at h
  · rw [s_blob_Store_Drop_eq] at h; exact h
  · cases h
theorem e_blob_Store_Drop_nat : EntNat e_blob_Store_Drop := by
  intro c hn N vs H τ q
  unfold e_blob_Store_Drop
  split
  · rw [s_blob_Store_Drop_eq, s_blob_Store_Drop_eq]; exact funK_ent hn _ _ _ _ _ _
  · rfl
/-- (*ostiary/blob.Store).Len -/
def fn_blob_Store_Len : Fun := ⟨1, (.seq (.reg [iR 2 (.p .mv) [(.c (.int .i64 (.ofNat 0)))]]) (.keep [0] (.seq (.reg [iR 3 (.p .mv) [(.t 0)], iR 4 (.p .nilck) [(.t 3)], iR 5 (.p (.fieldAddr 0)) [(.t 4)], iR 6 (.l (.load none)) [(.t 5)], iR 7 (.l .mlen) [(.t 6)], iR 2 (.p .mv) [(.t 7)]]) (.keep [2] (.keep [2] .ret))))), [(.t 2)]⟩
def s_blob_Store_Len (call : CallK) (N : Nat) (a0 : V) (H : Heap) (τ : Tape) (q : KV) : Ans := someK (pNilck [a0]) fun v0 => someK (pFieldAddr 0 [v0]) fun v1 => someK (lLoad1 [v1] H) fun v2 => someK (lMlen [v2] H) fun v3 => q v3 H τ
theorem s_blob_Store_Len_eq (call : CallK) (N : Nat) (a0 : V) (H : Heap) (τ : Tape) (q : KV) : s_blob_Store_Len call N a0 H τ q = funK call N fn_blob_Store_Len [a0] H τ q := by kernel_rfl
def e_blob_Store_Len (call : CallK) (N : Nat) (vs : List V) (H : Heap) (τ : Tape) (q : KV) : Ans := match vs with | [a0] => s_blob_Store_Len call N a0 H τ q | _ => none
theorem e_blob_Store_Len_ok : EntOk fn_blob_Store_Len e_blob_Store_Len := by
  intro call N vs H τ q r h
  unfold e_blob_Store_Len at h
  split at h
  · rw [s_blob_Store_Len_eq] at h; exact h
  · cases h
theorem e_blob_Store_Len_nat : EntNat e_blob_Store_Len := by
  intro c hn N vs H τ q
  unfold e_blob_Store_Len
  split
  · rw [s_blob_Store_Len_eq, s_blob_Store_Len_eq]; exact funK_ent hn _ _ _ _ _ _
  · rfl
/-- ostiary/ostiarylaw21.get -/
def fn_law21_get : Fun := ⟨4, (.seq (.reg [iR 8 (.p .mv) [(.c (.str []))]]) (.keep [0, 1, 2, 3] (.seq (.reg [iR 14 (.p .mv) [(.t 0)], iR 15 (.p .mv) [(.t 1)], iR 16 (.p .mv) [(.t 2)], iR 17 (.p .mv) [(.t 3)], iR 18 (.call 21) [(.t 14), (.t 15), (.t 16), (.t 17)], iR 13 (.p .mv) [(.t 18)], iR 19 (.p (.extract 0)) [(.t 13)], iR 20 (.p (.extract 1)) [(.t 13)], iR 9 (.e (.alloc [(.int .i64 (.ofNat 0)), .nils, .nils])) [], ⟨none, none, (.e (.store 3)), [(.t 9), (.t 19)], none⟩, iR 10 (.p .mv) [(.t 20)]]) (.keep [9, 10] (.seq (.seq (.reg [iR 21 (.p .mv) [(.t 10)], iR 22 (.p (.un .not)) [(.t 21)]]) (.keep [9, 22] (.cond (.t 22) (.seq (.reg [iR 8 (.p .mv) [(.c (.str (bs [110, 111, 110, 101])))]]) (.keep [8] (.keep [8] .ret))) .skip))) (.keep [9] (.seq (.reg [iR 23 (.p (.fieldAddr 2)) [(.t 9)], iR 24 (.l (.load none)) [(.t 23)], iR 25 (.l .bytesStr) [(.t 24)], iR 11 (.p .mv) [(.t 25)]])
    (.keep [9, 11] (.seq (.seq (.reg [iR 12 (.p .mv) [(.c (.int .i64 (.ofNat 0)))]]) (.keep [9, 11, 12] (.block 0 (.loop (.keep [9, 11, 12] (.seq (.seq (.reg [iR 26 (.p .mv) [(.t 12)], iR 27 (.p (.fieldAddr 1)) [(.t 9)], iR 28 (.l (.load none)) [(.t 27)], iR 29 (.p .len) [(.t 28)], iR 30 (.p (.bin .lss)) [(.t 26), (.t 29)]]) (.keep [9, 11, 12, 30] (.cond (.t 30) .skip (.keep [11] (.exit 0))))) (.keep [9, 11, 12] (.seq (.block 1 (.seq (.reg [iR 33 (.p (.fieldAddr 1)) [(.t 9)], iR 34 (.l (.load none)) [(.t 33)], iR 35 (.p .mv) [(.t 12)], iR 36 (.p (.slIdx 2)) [(.t 34), (.t 35)], iR 37 (.p (.fieldAddr 0)) [(.t 36)], iR 38 (.l (.load none)) [(.t 37)], iR 39 (.p (.bin .eql)) [(.t 38), (.c (.str (bs [99, 111, 110, 116, 101, 110, 116, 45, 114, 97, 110, 103, 101])))]]) (.keep [9, 11, 12, 39] (.cond (.t 39) (.reg [iR 40 (.p .mv) [(.t 11)],
    iR 41 (.p (.bin .add)) [(.t 40), (.c (.str (bs [124])))], iR 42 (.p (.fieldAddr 1)) [(.t 9)], iR 43 (.l (.load none)) [(.t 42)], iR 44 (.p .mv) [(.t 12)], iR 45 (.p (.slIdx 2)) [(.t 43), (.t 44)], iR 46 (.p (.fieldAddr 1)) [(.t 45)], iR 47 (.l (.load none)) [(.t 46)], iR 48 (.p (.bin .add)) [(.t 41), (.t 47)], iR 11 (.p .mv) [(.t 48)]]) .skip)))) (.keep [9, 11, 12] (.reg [iR 31 (.p .mv) [(.t 12)], iR 32 (.p (.bin .add)) [(.t 31), (.c (.int .i64 (.ofNat 1)))], iR 12 (.p .mv) [(.t 32)]])))))))))) (.keep [11] (.seq (.reg [iR 49 (.p .mv) [(.t 11)], iR 8 (.p .mv) [(.t 49)]]) (.keep [8] (.keep [8] .ret))))))))))))), [(.t 8)]⟩
def s_law21_get_j0 (call : CallK) (N : Nat) (q : KV) (st : St) (τ : Tape) : Ans := match st with
  | ⟨fr, H⟩ => getK fr 11 fun t11 => q t11 H τ
def s_law21_get_j2 (call : CallK) (N : Nat) (k : KC) (st : St) (τ : Tape) : Ans := match st with
  | ⟨fr, H⟩ => getK fr 9 fun t9 => getK fr 11 fun t11 => getK fr 12 fun t12 => binK .add t12 (.int .i64 (.ofNat 1)) fun v19 => k .normal ⟨(T.set (T.set (T.set (T.set (T.set (T.set .leaf 9 t9) 11 t11) 12 t12) 31 t12) 32 v19) 12 v19), H⟩ τ
def s_law21_get_l1 (call : CallK) (N : Nat) (st : St) (τ : Tape) (k : KC) : Ans := match st with
  | ⟨fr, H⟩ => getK fr 9 fun t9 => getK fr 11 fun t11 => getK fr 12 fun t12 => someK (pFieldAddr 1 [t9]) fun v15 => someK (lLoad1 [v15] H) fun v16 => someK (pLen [v16]) fun v17 => binK .lss t12 v17 fun v18 => condK v18 (someK (pFieldAddr 1 [t9]) fun v20 => someK (lLoad1 [v20] H) fun v21 => someK (pSlIdx 2 [v21, t12]) fun v22 => someK (pFieldAddr 0 [v22]) fun v23 => someK (lLoad1 [v23] H) fun v24 => binK .eql v24 (.str (bs [99, 111, 110, 116, 101, 110, 116, 45, 114, 97, 110, 103, 101])) fun v25 => condK v25 (binK .add t11 (.str (bs [124])) fun v26 => someK (pFieldAddr 1 [t9]) fun v27 => someK (lLoad1 [v27] H) fun v28 => someK (pSlIdx 2 [v28, t12]) fun v29 => someK (pFieldAddr 1 [v29]) fun v30 => someK (lLoad1 [v30] H) fun v31 => binK .add v26 v31 fun v32 =>
    s_law21_get_j2 call N k ⟨(T.set (T.set (T.set (T.set (T.set (T.set (T.set (T.set (T.set (T.set (T.set (T.set (T.set (T.set .leaf 9 t9) 11 t11) 12 t12) 39 v25) 40 t11) 41 v26) 42 v27) 43 v28) 44 t12) 45 v29) 46 v30) 47 v31) 48 v32) 11 v32), H⟩ τ) (s_law21_get_j2 call N k ⟨(T.set (T.set (T.set (T.set .leaf 9 t9) 11 t11) 12 t12) 39 v25), H⟩ τ)) (k (.exit 0) ⟨(T.set .leaf 11 t11), H⟩ τ)
def s_law21_get (call : CallK) (N : Nat) (a0 a1 a2 a3 : V) (H : Heap) (τ : Tape) (q : KV) : Ans := call f_blob_Store_Read [a0, a1, a2, a3] H τ fun v0 H1 τ2 => someK (pExtract 0 [v0]) fun v3 => someK (pExtract 1 [v0]) fun v4 => effK (eAlloc [(.int .i64 (.ofNat 0)), .nils, .nils] [] H1 τ2) fun v5 H6 τ7 => effK (eStore 3 [v5, v3] H6 τ7) fun v8 H9 τ10 => unK .not v4 fun v11 => condK v11 (q (.str (bs [110, 111, 110, 101])) H9 τ10) (someK (pFieldAddr 2 [v5]) fun v12 => someK (lLoad1 [v12] H9) fun v13 => someK (lBytesStr [v13] H9) fun v14 => loopK (s_law21_get_l1 call N) N ⟨(T.set (T.set (T.set .leaf 9 v5) 11 v14) 12 (.int .i64 (.ofNat 0))), H9⟩ τ10 (blockK 0 (seqK (s_law21_get_j0 call N q) (endK [(.t 8)] q))))
theorem s_law21_get_eq (call : CallK) (N : Nat) (a0 a1 a2 a3 : V) (H : Heap) (τ : Tape) (q : KV) : s_law21_get call N a0 a1 a2 a3 H τ q = funK call N fn_law21_get [a0, a1, a2, a3] H τ q := by kernel_rfl
def e_law21_get (call : CallK) (N : Nat) (vs : List V) (H : Heap) (τ : Tape) (q : KV) : Ans := match vs with | [a0, a1, a2, a3] => s_law21_get call N a0 a1 a2 a3 H τ q | _ => none
theorem e_law21_get_ok : EntOk fn_law21_get e_law21_get := by
  intro call N vs H τ q r h
  unfold e_law21_get at h
  split at h
  · rw [s_law21_get_eq] at h; exact h
  · cases h
theorem e_law21_get_nat : EntNat e_law21_get := by
  intro c hn N vs H τ q
  unfold e_law21_get
  split
  · rw [s_law21_get_eq, s_law21_get_eq]; exact funK_ent hn _ _ _ _ _ _
  · rfl
/-- ostiary/ostiarylaw21.known -/
def fn_law21_known : Fun := ⟨0, (.seq (.reg [iR 0 (.p .mv) [(.c (.bool false))]]) (.keep [] (.seq (.reg [iR 4 (.call 18) [], iR 1 (.p .mv) [(.t 4)]]) (.keep [1] (.seq (.seq (.reg [iR 5 (.p .mv) [(.t 1)], iR 6 (.l (.peq false)) [(.t 5), (.c .nilp)]]) (.keep [1, 6] (.cond (.t 6) (.seq (.reg [iR 0 (.p .mv) [(.c (.bool false))]]) (.keep [0] (.keep [0] .ret))) .skip))) (.keep [1] (.seq (.reg [iR 8 (.p .mv) [(.t 1)], iR 9 (.call 20) [(.c (.str (bs [104, 116, 116, 112, 115, 58, 47, 47, 97])))], iR 10 (.e (.buildSlice 3 1 [(.int .u8 (.ofNat 0)), (.int .u8 (.ofNat 0)), (.int .u8 (.ofNat 0))] [(0, 1), (1, 1), (2, 1)])) [(.c (.int .u8 (.ofNat 97))), (.c (.int .u8 (.ofNat 98))), (.c (.int .u8 (.ofNat 99)))], iR 11 (.e .mark) [(.t 10)], iR 12 (.call 19) [(.t 8), (.t 9), (.c (.str (bs [116, 101, 120, 116, 47, 112, 108, 97, 105, 110]))), (.t 11)], iR 7 (.p .mv) [(.t 12)],
    iR 13 (.p (.extract 0)) [(.t 7)], iR 14 (.p (.extract 1)) [(.t 7)], iR 2 (.p .mv) [(.t 13)], iR 3 (.p .mv) [(.t 14)]]) (.keep [1, 2, 3] (.seq (.reg [iR 15 (.p .mv) [(.t 2)], iR 16 (.p (.bin .eql)) [(.t 15), (.c (.str (bs [98, 108, 111, 98, 58, 104, 116, 116, 112, 115, 58, 47, 47, 97, 47, 49])))], iR 17 (.p .mv) [(.t 16)], iG 18 17 true (.p .mv) [(.t 3)], iG 19 17 true (.p (.bin .eql)) [(.t 18), (.c (.int .i64 (.ofNat 0)))], iR 20 (.p .pick) [(.t 17), (.t 19), (.c (.bool false))], iR 21 (.p .mv) [(.t 20)], iG 22 21 true (.p .mv) [(.t 1)], iG 23 21 true (.p .mv) [(.t 2)], iG 24 21 true (.call 24) [(.t 22), (.t 23), (.c (.str (bs [98, 121, 116, 101, 115, 61, 49, 45]))), (.c (.bool true))], iG 25 21 true (.p (.bin .eql)) [(.t 24), (.c (.str (bs [98, 99, 124, 98, 121, 116, 101, 115, 32, 49, 45, 50, 47, 51])))], iR 26 (.p .pick) [(.t 21), (.t 25), (.c (.bool false))],
    iR 27 (.p .mv) [(.t 26)], iG 28 27 true (.p .mv) [(.t 1)], iG 29 27 true (.p .mv) [(.t 2)], iG 30 27 true (.call 24) [(.t 28), (.t 29), (.c (.str (bs [98, 121, 116, 101, 115, 61, 51, 45]))), (.c (.bool true))], iG 31 27 true (.p (.bin .eql)) [(.t 30), (.c (.str (bs [110, 111, 110, 101])))], iR 32 (.p .pick) [(.t 27), (.t 31), (.c (.bool false))], iR 33 (.p .mv) [(.t 32)], iG 34 33 true (.p .mv) [(.t 1)], iG 35 33 true (.p .mv) [(.t 2)], iG 36 33 true (.p (.bin .add)) [(.t 35), (.c (.str (bs [35, 120])))], iG 37 33 true (.call 24) [(.t 34), (.t 36), (.c (.str [])), (.c (.bool false))], iG 38 33 true (.p (.bin .eql)) [(.t 37), (.c (.str (bs [97, 98, 99])))], iR 39 (.p .pick) [(.t 33), (.t 38), (.c (.bool false))], iR 0 (.p .mv) [(.t 39)]]) (.keep [0] (.keep [0] .ret))))))))))), [(.t 0)]⟩
def s_law21_known (call : CallK) (N : Nat) (H : Heap) (τ : Tape) (q : KV) : Ans := call f_blob_New [] H τ fun v0 H1 τ2 => someK (lPeq false [v0, .nilp] H1) fun v3 => condK v3 (q (.bool false) H1 τ2) (call f_law21_of [(.str (bs [104, 116, 116, 112, 115, 58, 47, 47, 97]))] H1 τ2 fun v4 H5 τ6 => effK (eBuildSlice 3 1 [(.int .u8 (.ofNat 0)), (.int .u8 (.ofNat 0)), (.int .u8 (.ofNat 0))] [(0, 1), (1, 1), (2, 1)] [(.int .u8 (.ofNat 97)), (.int .u8 (.ofNat 98)), (.int .u8 (.ofNat 99))] H5 τ6) fun v7 H8 τ9 => effK (eMark [v7] H8 τ9) fun v10 H11 τ12 => call f_blob_Store_Put [v0, v4, (.str (bs [116, 101, 120, 116, 47, 112, 108, 97, 105, 110])), v10] H11 τ12 fun v13 H14 τ15 => someK (pExtract 0 [v13]) fun v16 => someK (pExtract 1 [v13]) fun v17 => binK .eql v16 (.str (bs [98, 108, 111, 98, 58, 104, 116, 116, 112, 115, 58, 47, 47, 97, 47, 49])) fun v18 =>
    gK v18 true (fun q' => q' v17 H14 τ15) H14 τ15 fun v19 H20 τ21 => gK v18 true (fun q' => binK .eql v19 (.int .i64 (.ofNat 0)) fun v => q' v H20 τ21) H20 τ21 fun v22 H23 τ24 => someK (pPick [v18, v22, (.bool false)]) fun v25 => gK v25 true (fun q' => q' v0 H23 τ24) H23 τ24 fun v26 H27 τ28 => gK v25 true (fun q' => q' v16 H27 τ28) H27 τ28 fun v29 H30 τ31 => gK v25 true (fun q' => call f_law21_get [v26, v29, (.str (bs [98, 121, 116, 101, 115, 61, 49, 45])), (.bool true)] H30 τ31 q') H30 τ31 fun v32 H33 τ34 => gK v25 true (fun q' => binK .eql v32 (.str (bs [98, 99, 124, 98, 121, 116, 101, 115, 32, 49, 45, 50, 47, 51])) fun v => q' v H33 τ34) H33 τ34 fun v35 H36 τ37 => someK (pPick [v25, v35, (.bool false)]) fun v38 => gK v38 true (fun q' => q' v0 H36 τ37) H36 τ37 fun v39 H40 τ41 => gK v38 true (fun q' => q' v16 H40 τ41) H40 τ41 fun v42 H43 τ44 =>
    gK v38 true (fun q' => call f_law21_get [v39, v42, (.str (bs [98, 121, 116, 101, 115, 61, 51, 45])), (.bool true)] H43 τ44 q') H43 τ44 fun v45 H46 τ47 => gK v38 true (fun q' => binK .eql v45 (.str (bs [110, 111, 110, 101])) fun v => q' v H46 τ47) H46 τ47 fun v48 H49 τ50 => someK (pPick [v38, v48, (.bool false)]) fun v51 => gK v51 true (fun q' => q' v0 H49 τ50) H49 τ50 fun v52 H53 τ54 => gK v51 true (fun q' => q' v16 H53 τ54) H53 τ54 fun v55 H56 τ57 => gK v51 true (fun q' => binK .add v55 (.str (bs [35, 120])) fun v => q' v H56 τ57) H56 τ57 fun v58 H59 τ60 => gK v51 true (fun q' => call f_law21_get [v52, v58, (.str []), (.bool false)] H59 τ60 q') H59 τ60 fun v61 H62 τ63 => gK v51 true (fun q' => binK .eql v61 (.str (bs [97, 98, 99])) fun v => q' v H62 τ63) H62 τ63 fun v64 H65 τ66 => someK (pPick [v51, v64, (.bool false)]) fun v67 => q v67 H65 τ66)
theorem s_law21_known_eq (call : CallK) (N : Nat) (H : Heap) (τ : Tape) (q : KV) : s_law21_known call N  H τ q = funK call N fn_law21_known [] H τ q := by kernel_rfl
def e_law21_known (call : CallK) (N : Nat) (vs : List V) (H : Heap) (τ : Tape) (q : KV) : Ans := match vs with | [] => s_law21_known call N  H τ q | _ => none
theorem e_law21_known_ok : EntOk fn_law21_known e_law21_known := by
  intro call N vs H τ q r h
  unfold e_law21_known at h
  split at h
  · rw [s_law21_known_eq] at h; exact h
  · cases h
theorem e_law21_known_nat : EntNat e_law21_known := by
  intro c hn N vs H τ q
  unfold e_law21_known
  split
  · rw [s_law21_known_eq, s_law21_known_eq]; exact funK_ent hn _ _ _ _ _ _
  · rfl
/-- strconv.FormatInt -/
def fn_strconv_FormatInt : Fun := ⟨2, (.seq (.reg [iR 4 (.p .mv) [(.c (.str []))]]) (.keep [0, 1] (.seq (.reg [iR 5 (.p .mv) [(.t 0)], iR 6 (.p .mv) [(.t 1)], iR 7 (.call 117) [(.t 5), (.t 6)], iR 4 (.p .mv) [(.t 7)]]) (.keep [4] (.keep [4] .ret))))), [(.t 4)]⟩
def s_strconv_FormatInt (call : CallK) (N : Nat) (a0 a1 : V) (H : Heap) (τ : Tape) (q : KV) : Ans := call f_strconv_FormatInt_n117 [a0, a1] H τ fun v0 H1 τ2 => q v0 H1 τ2
theorem s_strconv_FormatInt_eq (call : CallK) (N : Nat) (a0 a1 : V) (H : Heap) (τ : Tape) (q : KV) : s_strconv_FormatInt call N a0 a1 H τ q = funK call N fn_strconv_FormatInt [a0, a1] H τ q := by kernel_rfl
def e_strconv_FormatInt (call : CallK) (N : Nat) (vs : List V) (H : Heap) (τ : Tape) (q : KV) : Ans := match vs with | [a0, a1] => s_strconv_FormatInt call N a0 a1 H τ q | _ => none
theorem e_strconv_FormatInt_ok : EntOk fn_strconv_FormatInt e_strconv_FormatInt := by
  intro call N vs H τ q r h
  unfold e_strconv_FormatInt at h
  split at h
  · rw [s_strconv_FormatInt_eq] at h; exact h
  · cases h
theorem e_strconv_FormatInt_nat : EntNat e_strconv_FormatInt := by
  intro c hn N vs H τ q
  unfold e_strconv_FormatInt
  split
  · rw [s_strconv_FormatInt_eq, s_strconv_FormatInt_eq]; exact funK_ent hn _ _ _ _ _ _
  · rfl
/-- ostiary/headers.Value -/
def fn_headers_Value : Fun := ⟨1, (.seq (.reg [iR 2 (.p .mv) [(.c (.str []))], iR 3 (.p .mv) [(.c (.bool false))]]) (.keep [0] (.seq (.reg [iR 4 (.p .mv) [(.t 0)], iR 5 (.call 124) [(.t 4), (.c (.str (bs [9, 10, 13, 32])))], iR 0 (.p .mv) [(.t 5)]]) (.keep [0] (.seq (.seq (.reg [iR 6 (.p .mv) [(.t 0)], iR 7 (.call 125) [(.t 6), (.c (.str (bs [0, 10, 13])))]]) (.keep [0, 7] (.cond (.t 7) (.seq (.reg [iR 2 (.p .mv) [(.c (.str []))], iR 3 (.p .mv) [(.c (.bool false))]]) (.keep [2, 3] (.keep [2, 3] .ret))) .skip))) (.keep [0] (.seq (.reg [iR 8 (.p .mv) [(.t 0)], iR 2 (.p .mv) [(.t 8)], iR 3 (.p .mv) [(.c (.bool true))]]) (.keep [2, 3] (.keep [2, 3] .ret))))))))), [(.t 2), (.t 3)]⟩
def s_headers_Value (call : CallK) (N : Nat) (a0 : V) (H : Heap) (τ : Tape) (q : KV) : Ans := call f_strings_Trim [a0, (.str (bs [9, 10, 13, 32]))] H τ fun v0 H1 τ2 => call f_strings_ContainsAny [v0, (.str (bs [0, 10, 13]))] H1 τ2 fun v3 H4 τ5 => condK v3 (q (.tup [(.str []), (.bool false)]) H4 τ5) (q (.tup [v0, (.bool true)]) H4 τ5)
theorem s_headers_Value_eq (call : CallK) (N : Nat) (a0 : V) (H : Heap) (τ : Tape) (q : KV) : s_headers_Value call N a0 H τ q = funK call N fn_headers_Value [a0] H τ q := by kernel_rfl
def e_headers_Value (call : CallK) (N : Nat) (vs : List V) (H : Heap) (τ : Tape) (q : KV) : Ans := match vs with | [a0] => s_headers_Value call N a0 H τ q | _ => none
theorem e_headers_Value_ok : EntOk fn_headers_Value e_headers_Value := by
  intro call N vs H τ q r h
  unfold e_headers_Value at h
  split at h
  · rw [s_headers_Value_eq] at h; exact h
  · cases h
theorem e_headers_Value_nat : EntNat e_headers_Value := by
  intro c hn N vs H τ q
  unfold e_headers_Value
  split
  · rw [s_headers_Value_eq, s_headers_Value_eq]; exact funK_ent hn _ _ _ _ _ _
  · rfl
/-- ostiary/origin.Text -/
def fn_origin_Text : Fun := ⟨1, (.seq (.reg [iR 1 (.e .box) [(.t 0)], iR 2 (.p .mv) [(.c (.str []))]]) (.keep [1] (.seq (.seq (.reg [iR 4 (.p (.fieldAddr 3)) [(.t 1)], iR 5 (.l (.load none)) [(.t 4)]]) (.keep [1, 5] (.cond (.t 5) (.seq (.reg [iR 2 (.p .mv) [(.c (.str (bs [110, 117, 108, 108])))]]) (.keep [2] (.keep [2] .ret))) .skip))) (.keep [1] (.seq (.reg [iR 6 (.p (.fieldAddr 0)) [(.t 1)], iR 7 (.l (.load none)) [(.t 6)], iR 8 (.p (.bin .add)) [(.t 7), (.c (.str (bs [58, 47, 47])))], iR 9 (.p (.fieldAddr 1)) [(.t 1)], iR 10 (.l (.load none)) [(.t 9)], iR 11 (.p (.bin .add)) [(.t 8), (.t 10)], iR 3 (.p .mv) [(.t 11)]]) (.keep [1, 3] (.seq (.seq (.draw [iR 12 (.p (.fieldAddr 2)) [(.t 1)], ⟨(some 13), none, (.l (.load none)), [(.t 12)], some (0, 1)⟩, iR 14 (.p (.fieldAddr 0)) [(.t 1)], iR 15 (.l (.load none)) [(.t 14)], iR 16 (.call 126) [(.t 15)],
    iR 17 (.p (.bin .neq)) [(.t 13), (.t 16)]]) (.keep [1, 3, 17] (.cond (.t 17) (.reg [iR 18 (.p .mv) [(.t 3)], iR 19 (.p (.fieldAddr 2)) [(.t 1)], iR 20 (.l (.load none)) [(.t 19)], iR 21 (.call 73) [(.t 20)], iR 22 (.p (.bin .add)) [(.c (.str (bs [58]))), (.t 21)], iR 23 (.p (.bin .add)) [(.t 18), (.t 22)], iR 3 (.p .mv) [(.t 23)]]) .skip))) (.keep [3] (.seq (.reg [iR 24 (.p .mv) [(.t 3)], iR 2 (.p .mv) [(.t 24)]]) (.keep [2] (.keep [2] .ret))))))))))), [(.t 2)]⟩
def s_origin_Text_j0 (call : CallK) (N : Nat) (q : KV) (st : St) (τ : Tape) : Ans := match st with
  | ⟨fr, H⟩ => getK fr 3 fun t3 => q t3 H τ
def s_origin_Text (call : CallK) (N : Nat) (a0 : V) (H : Heap) (τ : Tape) (q : KV) : Ans := effK (eBox [a0] H τ) fun v0 H1 τ2 => someK (pFieldAddr 3 [v0]) fun v3 => someK (lLoad1 [v3] H1) fun v4 => condK v4 (q (.str (bs [110, 117, 108, 108])) H1 τ2) (someK (pFieldAddr 0 [v0]) fun v5 => someK (lLoad1 [v5] H1) fun v6 => binK .add v6 (.str (bs [58, 47, 47])) fun v7 => someK (pFieldAddr 1 [v0]) fun v8 => someK (lLoad1 [v8] H1) fun v9 => binK .add v7 v9 fun v10 => someK (pFieldAddr 2 [v0]) fun v11 => someK (lLoad1 [v11] H1) fun v12 => someK (pFieldAddr 0 [v0]) fun v13 => someK (lLoad1 [v13] H1) fun v14 => call f_url_Own [v14] H1 τ2 fun v15 H16 τ17 => binK .neq v12 v15 fun v18 => bif chkLoads [H1, H16] (((.load none), [v11], 0, 1) :: []) then condK v18 (someK (pFieldAddr 2 [v0]) fun v19 => someK (lLoad1 [v19] H16) fun v20 => call f_strconv_Itoa [v20] H16 τ17 fun v21 H22 τ23 =>
    binK .add (.str (bs [58])) v21 fun v24 => binK .add v10 v24 fun v25 => s_origin_Text_j0 call N q ⟨(T.set (T.set (T.set (T.set (T.set (T.set (T.set (T.set (T.set (T.set .leaf 1 v0) 3 v10) 17 v18) 18 v10) 19 v19) 20 v20) 21 v21) 22 v24) 23 v25) 3 v25), H22⟩ τ23) (s_origin_Text_j0 call N q ⟨(T.set (T.set (T.set .leaf 1 v0) 3 v10) 17 v18), H16⟩ τ17) else none)
theorem s_origin_Text_eq (call : CallK) (N : Nat) (a0 : V) (H : Heap) (τ : Tape) (q : KV) : s_origin_Text call N a0 H τ q = funK call N fn_origin_Text [a0] H τ q := by kernel_rfl
def e_origin_Text (call : CallK) (N : Nat) (vs : List V) (H : Heap) (τ : Tape) (q : KV) : Ans := match vs with | [a0] => s_origin_Text call N a0 H τ q | _ => none
theorem e_origin_Text_ok : EntOk fn_origin_Text e_origin_Text := by
  intro call N vs H τ q r h
  unfold e_origin_Text at h
  split at h
  · rw [s_origin_Text_eq] at h; exact h
  · cases h
theorem e_origin_Text_nat : EntNat e_origin_Text := by
  intro c hn N vs H τ q
  unfold e_origin_Text
  split
  · rw [s_origin_Text_eq, s_origin_Text_eq]; exact funK_ent hn _ _ _ _ _ _
  · rfl
/-- strconv.Itoa -/
def fn_strconv_Itoa : Fun := ⟨1, (.seq (.reg [iR 2 (.p .mv) [(.c (.str []))]]) (.keep [0] (.seq (.reg [iR 3 (.p .mv) [(.t 0)], iR 4 (.call 127) [(.t 3)], iR 2 (.p .mv) [(.t 4)]]) (.keep [2] (.keep [2] .ret))))), [(.t 2)]⟩
def s_strconv_Itoa (call : CallK) (N : Nat) (a0 : V) (H : Heap) (τ : Tape) (q : KV) : Ans := call f_strconv_Itoa_n127 [a0] H τ fun v0 H1 τ2 => q v0 H1 τ2
theorem s_strconv_Itoa_eq (call : CallK) (N : Nat) (a0 : V) (H : Heap) (τ : Tape) (q : KV) : s_strconv_Itoa call N a0 H τ q = funK call N fn_strconv_Itoa [a0] H τ q := by kernel_rfl
def e_strconv_Itoa (call : CallK) (N : Nat) (vs : List V) (H : Heap) (τ : Tape) (q : KV) : Ans := match vs with | [a0] => s_strconv_Itoa call N a0 H τ q | _ => none
theorem e_strconv_Itoa_ok : EntOk fn_strconv_Itoa e_strconv_Itoa := by
  intro call N vs H τ q r h
  unfold e_strconv_Itoa at h
  split at h
  · rw [s_strconv_Itoa_eq] at h; exact h
  · cases h
theorem e_strconv_Itoa_nat : EntNat e_strconv_Itoa := by
  intro c hn N vs H τ q
  unfold e_strconv_Itoa
  split
  · rw [s_strconv_Itoa_eq, s_strconv_Itoa_eq]; exact funK_ent hn _ _ _ _ _ _
  · rfl
/-- slices.Clone[[]byte,byte] -/
def fn_slices_Clone_byte : Fun := ⟨1, (.seq (.reg [iR 2 (.p .mv) [(.c .nils)]]) (.keep [0] (.seq (.seq (.reg [iR 3 (.p .mv) [(.t 0)], iR 4 (.p (.eq false .slice)) [(.t 3), (.c .nils)]]) (.keep [0, 4] (.cond (.t 4) (.seq (.reg [iR 2 (.p .mv) [(.c .nils)]]) (.keep [2] (.keep [2] .ret))) .skip))) (.keep [0] (.seq (.reg [iR 5 (.e (.buildSlice 0 1 [] [])) [], iR 6 (.p .mv) [(.t 0)], iR 7 (.e (.append 1 1)) [(.t 5), (.t 6)], iR 2 (.p .mv) [(.t 7)]]) (.keep [2] (.keep [2] .ret))))))), [(.t 2)]⟩
def s_slices_Clone_byte (call : CallK) (N : Nat) (a0 : V) (H : Heap) (τ : Tape) (q : KV) : Ans := someK (pEq false .slice [a0, .nils]) fun v0 => condK v0 (q .nils H τ) (effK (eBuildSlice 0 1 [] [] [] H τ) fun v1 H2 τ3 => effK (eAppend 1 1 [v1, a0] H2 τ3) fun v4 H5 τ6 => q v4 H5 τ6)
theorem s_slices_Clone_byte_eq (call : CallK) (N : Nat) (a0 : V) (H : Heap) (τ : Tape) (q : KV) : s_slices_Clone_byte call N a0 H τ q = funK call N fn_slices_Clone_byte [a0] H τ q := by kernel_rfl
def e_slices_Clone_byte (call : CallK) (N : Nat) (vs : List V) (H : Heap) (τ : Tape) (q : KV) : Ans := match vs with | [a0] => s_slices_Clone_byte call N a0 H τ q | _ => none
theorem e_slices_Clone_byte_ok : EntOk fn_slices_Clone_byte e_slices_Clone_byte := by
  intro call N vs H τ q r h
  unfold e_slices_Clone_byte at h
  split at h
  · rw [s_slices_Clone_byte_eq] at h; exact h
  · cases h
theorem e_slices_Clone_byte_nat : EntNat e_slices_Clone_byte := by
  intro c hn N vs H τ q
  unfold e_slices_Clone_byte
  split
  · rw [s_slices_Clone_byte_eq, s_slices_Clone_byte_eq]; exact funK_ent hn _ _ _ _ _ _
  · rfl
/-- ostiary/ostiarykeep.URL -/
def fn_keep_URL : Fun := ⟨1, (.seq (.reg [iR 2 (.e (.alloc [(.str []), (.str []), (.str []), (.str []), (.bool false), (.int .i64 (.ofNat 0)), (.bool false), .nils, (.str []), (.str []), (.bool false), (.bool false)])) [], iR 3 (.p .mv) [(.c (.bool false))]]) (.keep [0, 2] (.seq (.reg [iR 7 (.p .mv) [(.t 0)], iR 8 (.call 129) [(.t 7), (.c (.int .i64 (.ofNat 300)))], iR 9 (.call 128) [(.t 8)], iR 6 (.p .mv) [(.t 9)], iR 10 (.p (.extract 0)) [(.t 6)], iR 11 (.p (.extract 1)) [(.t 6)], iR 4 (.e (.alloc [(.str []), (.str []), (.str []), (.str []), (.bool false), (.int .i64 (.ofNat 0)), (.bool false), .nils, (.str []), (.str []), (.bool false), (.bool false)])) [], ⟨none, none, (.e (.store 12)), [(.t 4), (.t 10)], none⟩, iR 5 (.p .mv) [(.t 11)]]) (.keep [2, 4, 5] (.seq (.reg [iR 12 (.l (.load (some 12))) [(.t 4)], iR 13 (.p .mv) [(.t 5)],
    iR 14 (.p (.bin .eql)) [(.t 13), (.c (.int .i64 (.ofNat 0)))], ⟨none, none, (.e (.store 12)), [(.t 2), (.t 12)], none⟩, iR 3 (.p .mv) [(.t 14)]]) (.keep [2, 3] (.keep [2, 3] .ret))))))), [(.cell 2 (some 12)), (.t 3)]⟩
def s_keep_URL (call : CallK) (N : Nat) (a0 : V) (H : Heap) (τ : Tape) (q : KV) : Ans := effK (eAlloc [(.str []), (.str []), (.str []), (.str []), (.bool false), (.int .i64 (.ofNat 0)), (.bool false), .nils, (.str []), (.str []), (.bool false), (.bool false)] [] H τ) fun v0 H1 τ2 => call f_keep_Few [a0, (.int .i64 (.ofNat 300))] H1 τ2 fun v3 H4 τ5 => call f_ref3_Parse [v3] H4 τ5 fun v6 H7 τ8 => someK (pExtract 0 [v6]) fun v9 => someK (pExtract 1 [v6]) fun v10 => effK (eAlloc [(.str []), (.str []), (.str []), (.str []), (.bool false), (.int .i64 (.ofNat 0)), (.bool false), .nils, (.str []), (.str []), (.bool false), (.bool false)] [] H7 τ8) fun v11 H12 τ13 => effK (eStore 12 [v11, v9] H12 τ13) fun v14 H15 τ16 => someK (lLoadN 12 [v11] H15) fun v17 => binK .eql v10 (.int .i64 (.ofNat 0)) fun v18 => effK (eStore 12 [v0, v17] H15 τ16) fun v19 H20 τ21 =>
    someK (results ⟨(T.set (T.set .leaf 2 v0) 3 v18), H20⟩ [(.cell 2 (some 12)), (.t 3)]) fun v => q v H20 τ21
theorem s_keep_URL_eq (call : CallK) (N : Nat) (a0 : V) (H : Heap) (τ : Tape) (q : KV) : s_keep_URL call N a0 H τ q = funK call N fn_keep_URL [a0] H τ q := by kernel_rfl
def e_keep_URL (call : CallK) (N : Nat) (vs : List V) (H : Heap) (τ : Tape) (q : KV) : Ans := match vs with | [a0] => s_keep_URL call N a0 H τ q | _ => none
theorem e_keep_URL_ok : EntOk fn_keep_URL e_keep_URL := by
  intro call N vs H τ q r h
  unfold e_keep_URL at h
  split at h
  · rw [s_keep_URL_eq] at h; exact h
  · cases h
theorem e_keep_URL_nat : EntNat e_keep_URL := by
  intro c hn N vs H τ q
  unfold e_keep_URL
  split
  · rw [s_keep_URL_eq, s_keep_URL_eq]; exact funK_ent hn _ _ _ _ _ _
  · rfl
/-- ostiary/ostiaryref4.Of -/
def fn_ref4_Of : Fun := ⟨1, (.seq (.reg [iR 1 (.e .box) [(.t 0)], iR 2 (.e (.alloc [(.str []), (.str []), (.int .i64 (.ofNat 0)), (.bool false)])) []]) (.keep [1, 2] (.seq (.seq (.reg [iR 5 (.p (.fieldAddr 0)) [(.t 1)], iR 6 (.l (.load none)) [(.t 5)], iR 7 (.p (.bin .eql)) [(.t 6), (.c (.str (bs [98, 108, 111, 98])))], iR 8 (.p .mv) [(.t 7)], iG 9 8 true (.p (.fieldAddr 6)) [(.t 1)], iG 10 8 true (.l (.load none)) [(.t 9)], iR 11 (.p .pick) [(.t 8), (.t 10), (.c (.bool false))], iR 12 (.p .mv) [(.t 11)], iG 13 12 true (.p (.fieldAddr 7)) [(.t 1)], iG 14 12 true (.l (.load none)) [(.t 13)], iG 15 12 true (.p .len) [(.t 14)], iG 16 12 true (.p (.bin .eql)) [(.t 15), (.c (.int .i64 (.ofNat 1)))], iR 17 (.p .pick) [(.t 12), (.t 16), (.c (.bool false))]]) (.keep [1, 2, 17] (.cond (.t 17) (.seq (.reg [iR 19 (.p (.fieldAddr 7)) [(.t 1)], iR 20 (.l (.load none)) [(.t 19)],
    iR 21 (.p (.slIdx 1)) [(.t 20), (.c (.int .i64 (.ofNat 0)))], iR 22 (.l (.load none)) [(.t 21)], iR 23 (.call 128) [(.t 22)], iR 18 (.p .mv) [(.t 23)], iR 24 (.p (.extract 0)) [(.t 18)], iR 25 (.p (.extract 1)) [(.t 18)], iR 3 (.e (.alloc [(.str []), (.str []), (.str []), (.str []), (.bool false), (.int .i64 (.ofNat 0)), (.bool false), .nils, (.str []), (.str []), (.bool false), (.bool false)])) [], ⟨none, none, (.e (.store 12)), [(.t 3), (.t 24)], none⟩, iR 4 (.p .mv) [(.t 25)]]) (.keep [1, 2, 3, 4] (.seq (.reg [iR 26 (.p .mv) [(.t 4)], iR 27 (.p (.bin .eql)) [(.t 26), (.c (.int .i64 (.ofNat 0)))], iR 28 (.p .mv) [(.t 27)], iG 29 28 true (.p (.fieldAddr 0)) [(.t 3)], iG 30 28 true (.l (.load none)) [(.t 29)], iG 31 28 true (.p (.bin .eql)) [(.t 30), (.c (.str (bs [104, 116, 116, 112])))], iG 32 28 true (.p .mv) [(.t 31)], iG 33 32 false (.p (.fieldAddr 0)) [(.t 3)],
    iG 34 32 false (.l (.load none)) [(.t 33)], iG 35 32 false (.p (.bin .eql)) [(.t 34), (.c (.str (bs [104, 116, 116, 112, 115])))], iG 36 28 true (.p .pick) [(.t 32), (.c (.bool true)), (.t 35)], iR 37 (.p .pick) [(.t 28), (.t 36), (.c (.bool false))]]) (.keep [1, 2, 3, 37] (.cond (.t 37) (.seq (.reg [iR 38 (.l (.load (some 12))) [(.t 3)], iR 39 (.call 76) [(.t 38)], ⟨none, none, (.e (.store 4)), [(.t 2), (.t 39)], none⟩]) (.keep [2] (.keep [2] .ret))) .skip))))) .skip))) (.keep [1, 2] (.seq (.seq (.reg [iR 40 (.p (.fieldAddr 0)) [(.t 1)], iR 41 (.l (.load none)) [(.t 40)], iR 42 (.call 130) [(.t 41)], iR 43 (.p (.un .not)) [(.t 42)]]) (.keep [1, 2, 43] (.cond (.t 43) (.seq (.reg [iR 44 (.p (.build [(.str []), (.str []), (.int .i64 (.ofNat 0)), (.bool false)] [(3, 1)])) [(.c (.bool true))], ⟨none, none, (.e (.store 4)), [(.t 2), (.t 44)], none⟩]) (.keep [2] (.keep [2] .ret)))
    .skip))) (.keep [1, 2] (.seq (.draw [iR 45 (.p (.fieldAddr 0)) [(.t 1)], ⟨(some 46), none, (.l (.load none)), [(.t 45)], some (0, 1)⟩, iR 47 (.p (.fieldAddr 3)) [(.t 1)], ⟨(some 48), none, (.l (.load none)), [(.t 47)], some (0, 1)⟩, iR 49 (.l (.load (some 12))) [(.t 1)], iR 50 (.call 131) [(.t 49)], iR 51 (.p (.build [(.str []), (.str []), (.int .i64 (.ofNat 0)), (.bool false)] [(0, 1), (1, 1), (2, 1)])) [(.t 46), (.t 48), (.t 50)], ⟨none, none, (.e (.store 4)), [(.t 2), (.t 51)], none⟩]) (.keep [2] (.keep [2] .ret))))))))), [(.cell 2 (some 4))]⟩
def s_ref4_Of_j0 (call : CallK) (N : Nat) (q : KV) (st : St) (τ : Tape) : Ans := match st with
  | ⟨fr, H⟩ => getK fr 1 fun t1 => getK fr 2 fun t2 => someK (pFieldAddr 0 [t1]) fun v29 => someK (lLoad1 [v29] H) fun v30 => call f_ref3_Special [v30] H τ fun v31 H32 τ33 => unK .not v31 fun v34 => condK v34 (someK (pBuild [(.str []), (.str []), (.int .i64 (.ofNat 0)), (.bool false)] [(3, 1)] [(.bool true)]) fun v35 => effK (eStore 4 [t2, v35] H32 τ33) fun v36 H37 τ38 => someK (results ⟨(T.set .leaf 2 t2), H37⟩ [(.cell 2 (some 4))]) fun v => q v H37 τ38) (someK (pFieldAddr 0 [t1]) fun v39 => someK (lLoad1 [v39] H32) fun v40 => someK (pFieldAddr 3 [t1]) fun v41 => someK (lLoad1 [v41] H32) fun v42 => someK (lLoadN 12 [t1] H32) fun v43 => call f_ref4_Port [v43] H32 τ33 fun v44 H45 τ46 => someK (pBuild [(.str []), (.str []), (.int .i64 (.ofNat 0)), (.bool false)] [(0, 1), (1, 1), (2, 1)] [v40, v42, v44]) fun v47 => effK (eStore 4 [t2, v47] H45 τ46) fun v48 H49 τ50 =>
    bif chkLoads [H32, H45, H49] (((.load none), [v41], 0, 1) :: (((.load none), [v39], 0, 1) :: [])) then someK (results ⟨(T.set .leaf 2 t2), H49⟩ [(.cell 2 (some 4))]) fun v => q v H49 τ50 else none)
def s_ref4_Of (call : CallK) (N : Nat) (a0 : V) (H : Heap) (τ : Tape) (q : KV) : Ans := effK (eBox [a0] H τ) fun v0 H1 τ2 => effK (eAlloc [(.str []), (.str []), (.int .i64 (.ofNat 0)), (.bool false)] [] H1 τ2) fun v3 H4 τ5 => someK (pFieldAddr 0 [v0]) fun v6 => someK (lLoad1 [v6] H4) fun v7 => binK .eql v7 (.str (bs [98, 108, 111, 98])) fun v8 => gK v8 true (fun q' => someK (pFieldAddr 6 [v0]) fun v => q' v H4 τ5) H4 τ5 fun v9 H10 τ11 => gK v8 true (fun q' => someK (lLoad1 [v9] H10) fun v => q' v H10 τ11) H10 τ11 fun v12 H13 τ14 => someK (pPick [v8, v12, (.bool false)]) fun v15 => gK v15 true (fun q' => someK (pFieldAddr 7 [v0]) fun v => q' v H13 τ14) H13 τ14 fun v16 H17 τ18 => gK v15 true (fun q' => someK (lLoad1 [v16] H17) fun v => q' v H17 τ18) H17 τ18 fun v19 H20 τ21 => gK v15 true (fun q' => someK (pLen [v19]) fun v => q' v H20 τ21) H20 τ21 fun v22 H23 τ24 =>
    gK v15 true (fun q' => binK .eql v22 (.int .i64 (.ofNat 1)) fun v => q' v H23 τ24) H23 τ24 fun v25 H26 τ27 => someK (pPick [v15, v25, (.bool false)]) fun v28 => condK v28 (someK (pFieldAddr 7 [v0]) fun v51 => someK (lLoad1 [v51] H26) fun v52 => someK (pSlIdx 1 [v52, (.int .i64 (.ofNat 0))]) fun v53 => someK (lLoad1 [v53] H26) fun v54 => call f_ref3_Parse [v54] H26 τ27 fun v55 H56 τ57 => someK (pExtract 0 [v55]) fun v58 => someK (pExtract 1 [v55]) fun v59 => effK (eAlloc [(.str []), (.str []), (.str []), (.str []), (.bool false), (.int .i64 (.ofNat 0)), (.bool false), .nils, (.str []), (.str []), (.bool false), (.bool false)] [] H56 τ57) fun v60 H61 τ62 => effK (eStore 12 [v60, v58] H61 τ62) fun v63 H64 τ65 => binK .eql v59 (.int .i64 (.ofNat 0)) fun v66 => gK v66 true (fun q' => someK (pFieldAddr 0 [v60]) fun v => q' v H64 τ65) H64 τ65 fun v67 H68 τ69 =>
    gK v66 true (fun q' => someK (lLoad1 [v67] H68) fun v => q' v H68 τ69) H68 τ69 fun v70 H71 τ72 => gK v66 true (fun q' => binK .eql v70 (.str (bs [104, 116, 116, 112])) fun v => q' v H71 τ72) H71 τ72 fun v73 H74 τ75 => gK v66 true (fun q' => q' v73 H74 τ75) H74 τ75 fun v76 H77 τ78 => gK v76 false (fun q' => someK (pFieldAddr 0 [v60]) fun v => q' v H77 τ78) H77 τ78 fun v79 H80 τ81 => gK v76 false (fun q' => someK (lLoad1 [v79] H80) fun v => q' v H80 τ81) H80 τ81 fun v82 H83 τ84 => gK v76 false (fun q' => binK .eql v82 (.str (bs [104, 116, 116, 112, 115])) fun v => q' v H83 τ84) H83 τ84 fun v85 H86 τ87 => gK v66 true (fun q' => someK (pPick [v76, (.bool true), v85]) fun v => q' v H86 τ87) H86 τ87 fun v88 H89 τ90 => someK (pPick [v66, v88, (.bool false)]) fun v91 => condK v91 (someK (lLoadN 12 [v60] H89) fun v92 => call f_ref4_Of [v92] H89 τ90 fun v93 H94 τ95 =>
    effK (eStore 4 [v3, v93] H94 τ95) fun v96 H97 τ98 => someK (results ⟨(T.set .leaf 2 v3), H97⟩ [(.cell 2 (some 4))]) fun v => q v H97 τ98) (s_ref4_Of_j0 call N q ⟨(T.set (T.set (T.set (T.set .leaf 1 v0) 2 v3) 3 v60) 37 v91), H89⟩ τ90)) (s_ref4_Of_j0 call N q ⟨(T.set (T.set (T.set .leaf 1 v0) 2 v3) 17 v28), H26⟩ τ27)
theorem s_ref4_Of_eq (call : CallK) (N : Nat) (a0 : V) (H : Heap) (τ : Tape) (q : KV) : s_ref4_Of call N a0 H τ q = funK call N fn_ref4_Of [a0] H τ q := by kernel_rfl
def e_ref4_Of (call : CallK) (N : Nat) (vs : List V) (H : Heap) (τ : Tape) (q : KV) : Ans := match vs with | [a0] => s_ref4_Of call N a0 H τ q | _ => none
theorem e_ref4_Of_ok : EntOk fn_ref4_Of e_ref4_Of := by
  intro call N vs H τ q r h
  unfold e_ref4_Of at h
  split at h
  · rw [s_ref4_Of_eq] at h; exact h
  · cases h
theorem e_ref4_Of_nat : EntNat e_ref4_Of := by
  intro c hn N vs H τ q
  unfold e_ref4_Of
  split
  · rw [s_ref4_Of_eq, s_ref4_Of_eq]; exact funK_ent hn _ _ _ _ _ _
  · rfl
/-- strings.Cut -/
def fn_strings_Cut : Fun := ⟨2, (.seq (.reg [iR 4 (.p .mv) [(.c (.str []))], iR 5 (.p .mv) [(.c (.str []))], iR 6 (.p .mv) [(.c (.bool false))]]) (.keep [0, 1] (.seq (.reg [iR 7 (.p .mv) [(.t 0)], iR 8 (.p .mv) [(.t 1)], iR 9 (.call 132) [(.t 7), (.t 8)], iR 10 (.p (.extract 0)) [(.t 9)], iR 11 (.p (.extract 1)) [(.t 9)], iR 12 (.p (.extract 2)) [(.t 9)], iR 4 (.p .mv) [(.t 10)], iR 5 (.p .mv) [(.t 11)], iR 6 (.p .mv) [(.t 12)]]) (.keep [4, 5, 6] (.keep [4, 5, 6] .ret))))), [(.t 4), (.t 5), (.t 6)]⟩
def s_strings_Cut (call : CallK) (N : Nat) (a0 a1 : V) (H : Heap) (τ : Tape) (q : KV) : Ans := call f_stringslite_Cut [a0, a1] H τ fun v0 H1 τ2 => someK (pExtract 0 [v0]) fun v3 => someK (pExtract 1 [v0]) fun v4 => someK (pExtract 2 [v0]) fun v5 => q (.tup [v3, v4, v5]) H1 τ2
theorem s_strings_Cut_eq (call : CallK) (N : Nat) (a0 a1 : V) (H : Heap) (τ : Tape) (q : KV) : s_strings_Cut call N a0 a1 H τ q = funK call N fn_strings_Cut [a0, a1] H τ q := by kernel_rfl
def e_strings_Cut (call : CallK) (N : Nat) (vs : List V) (H : Heap) (τ : Tape) (q : KV) : Ans := match vs with | [a0, a1] => s_strings_Cut call N a0 a1 H τ q | _ => none
theorem e_strings_Cut_ok : EntOk fn_strings_Cut e_strings_Cut := by
  intro call N vs H τ q r h
  unfold e_strings_Cut at h
  split at h
  · rw [s_strings_Cut_eq] at h; exact h
  · cases h
theorem e_strings_Cut_nat : EntNat e_strings_Cut := by
  intro c hn N vs H τ q
  unfold e_strings_Cut
  split
  · rw [s_strings_Cut_eq, s_strings_Cut_eq]; exact funK_ent hn _ _ _ _ _ _
  · rfl
/-- ostiary/blob.reply -/
def fn_blob_reply : Fun := ⟨4, (.seq (.reg [iR 5 (.e .box) [(.t 1)], iR 8 (.e (.alloc [(.int .i64 (.ofNat 0)), .nils, .nils])) []]) (.keep [0, 2, 3, 5, 8] (.seq (.draw [iR 9 (.p .mv) [(.t 0)], iR 10 (.p .mv) [(.t 3)], iR 11 (.p .mv) [(.t 2)], iR 12 (.p (.bin .sub)) [(.t 10), (.t 11)], iR 13 (.call 80) [(.t 12)], iR 14 (.p (.build [(.str []), (.str [])] [(0, 1), (1, 1)])) [(.c (.str (bs [99, 111, 110, 116, 101, 110, 116, 45, 108, 101, 110, 103, 116, 104]))), (.t 13)], iR 15 (.p (.fieldAddr 0)) [(.t 5)], ⟨(some 16), none, (.l (.load none)), [(.t 15)], some (0, 2)⟩, iR 17 (.p (.build [(.str []), (.str [])] [(0, 1), (1, 1)])) [(.c (.str (bs [99, 111, 110, 116, 101, 110, 116, 45, 116, 121, 112, 101]))), (.t 16)], iR 19 (.p (.fieldAddr 1)) [(.t 5)], ⟨(some 20), none, (.l (.load none)), [(.t 19)], some (0, 2)⟩, iR 21 (.p .mv) [(.t 2)], iR 22 (.p .mv) [(.t 3)],
    iR 23 (.p (.slSlice 1 true true false)) [(.t 20), (.t 21), (.t 22)], iR 24 (.call 74) [(.t 23)], iR 18 (.e (.buildSlice 2 2 [(.str []), (.str []), (.str []), (.str [])] [(0, 2), (2, 2)])) [(.t 14), (.t 17)], iR 25 (.p (.build [(.int .i64 (.ofNat 0)), .nils, .nils] [(0, 1), (1, 1), (2, 1)])) [(.t 9), (.t 18), (.t 24)], ⟨none, none, (.e (.store 3)), [(.t 8), (.t 25)], none⟩]) (.keep [8] (.keep [8] .ret))))), [(.cell 8 (some 3))]⟩
def s_blob_reply (call : CallK) (N : Nat) (a0 a1 a2 a3 : V) (H : Heap) (τ : Tape) (q : KV) : Ans := effK (eBox [a1] H τ) fun v0 H1 τ2 => effK (eAlloc [(.int .i64 (.ofNat 0)), .nils, .nils] [] H1 τ2) fun v3 H4 τ5 => binK .sub a3 a2 fun v6 => call f_blob_number [v6] H4 τ5 fun v7 H8 τ9 => someK (pBuild [(.str []), (.str [])] [(0, 1), (1, 1)] [(.str (bs [99, 111, 110, 116, 101, 110, 116, 45, 108, 101, 110, 103, 116, 104])), v7]) fun v10 => someK (pFieldAddr 0 [v0]) fun v11 => someK (lLoad1 [v11] H8) fun v12 => someK (pBuild [(.str []), (.str [])] [(0, 1), (1, 1)] [(.str (bs [99, 111, 110, 116, 101, 110, 116, 45, 116, 121, 112, 101])), v12]) fun v13 => someK (pFieldAddr 1 [v0]) fun v14 => someK (lLoad1 [v14] H8) fun v15 => someK (pSlSlice 1 true true false [v15, a2, a3]) fun v16 => call f_slices_Clone_byte [v16] H8 τ9 fun v17 H18 τ19 =>
    effK (eBuildSlice 2 2 [(.str []), (.str []), (.str []), (.str [])] [(0, 2), (2, 2)] [v10, v13] H18 τ19) fun v20 H21 τ22 => someK (pBuild [(.int .i64 (.ofNat 0)), .nils, .nils] [(0, 1), (1, 1), (2, 1)] [a0, v20, v17]) fun v23 => effK (eStore 3 [v3, v23] H21 τ22) fun v24 H25 τ26 => bif chkLoads [H4, H8, H18, H21, H25] (((.load none), [v14], 0, 2) :: (((.load none), [v11], 0, 2) :: [])) then someK (results ⟨(T.set .leaf 8 v3), H25⟩ [(.cell 8 (some 3))]) fun v => q v H25 τ26 else none
theorem s_blob_reply_eq (call : CallK) (N : Nat) (a0 a1 a2 a3 : V) (H : Heap) (τ : Tape) (q : KV) : s_blob_reply call N a0 a1 a2 a3 H τ q = funK call N fn_blob_reply [a0, a1, a2, a3] H τ q := by kernel_rfl
def e_blob_reply (call : CallK) (N : Nat) (vs : List V) (H : Heap) (τ : Tape) (q : KV) : Ans := match vs with | [a0, a1, a2, a3] => s_blob_reply call N a0 a1 a2 a3 H τ q | _ => none
theorem e_blob_reply_ok : EntOk fn_blob_reply e_blob_reply := by
  intro call N vs H τ q r h
  unfold e_blob_reply at h
  split at h
  · rw [s_blob_reply_eq] at h; exact h
  · cases h
theorem e_blob_reply_nat : EntNat e_blob_reply := by
  intro c hn N vs H τ q
  unfold e_blob_reply
  split
  · rw [s_blob_reply_eq, s_blob_reply_eq]; exact funK_ent hn _ _ _ _ _ _
  · rfl
/-- ostiary/headers.Range -/
def fn_headers_Range : Fun := ⟨1, (.seq (.reg [iR 2 (.p .mv) [(.c (.int .i64 (.ofNat 0)))], iR 3 (.p .mv) [(.c (.int .i64 (.ofNat 0)))], iR 4 (.p .mv) [(.c (.bool false))]]) (.keep [0] (.seq (.reg [iR 15 (.p .mv) [(.t 0)], iR 16 (.call 133) [(.t 15), (.c (.str (bs [98, 121, 116, 101, 115, 61])))], iR 14 (.p .mv) [(.t 16)], iR 17 (.p (.extract 0)) [(.t 14)], iR 18 (.p (.extract 1)) [(.t 14)], iR 5 (.p .mv) [(.t 17)], iR 6 (.p .mv) [(.t 18)]]) (.keep [5, 6] (.seq (.reg [iR 20 (.p .mv) [(.t 5)], iR 21 (.call 77) [(.t 20), (.c (.str (bs [45])))], iR 19 (.p .mv) [(.t 21)], iR 22 (.p (.extract 0)) [(.t 19)], iR 23 (.p (.extract 1)) [(.t 19)], iR 24 (.p (.extract 2)) [(.t 19)], iR 7 (.p .mv) [(.t 22)], iR 8 (.p .mv) [(.t 23)], iR 9 (.p .mv) [(.t 24)]]) (.keep [6, 7, 8, 9] (.seq (.reg [iR 26 (.p .mv) [(.t 7)], iR 27 (.call 134) [(.t 26)], iR 25 (.p .mv) [(.t 27)],
    iR 28 (.p (.extract 0)) [(.t 25)], iR 29 (.p (.extract 1)) [(.t 25)], iR 10 (.p .mv) [(.t 28)], iR 11 (.p .mv) [(.t 29)]]) (.keep [6, 8, 9, 10, 11] (.seq (.reg [iR 31 (.p .mv) [(.t 8)], iR 32 (.call 134) [(.t 31)], iR 30 (.p .mv) [(.t 32)], iR 33 (.p (.extract 0)) [(.t 30)], iR 34 (.p (.extract 1)) [(.t 30)], iR 12 (.p .mv) [(.t 33)], iR 13 (.p .mv) [(.t 34)]]) (.keep [6, 9, 10, 11, 12, 13] (.seq (.seq (.reg [iR 35 (.p .mv) [(.t 6)], iR 36 (.p (.un .not)) [(.t 35)], iR 37 (.p .mv) [(.t 36)], iG 38 37 false (.p .mv) [(.t 9)], iG 39 37 false (.p (.un .not)) [(.t 38)], iR 40 (.p .pick) [(.t 37), (.c (.bool true)), (.t 39)], iR 41 (.p .mv) [(.t 40)], iG 42 41 false (.p .mv) [(.t 11)], iG 43 41 false (.p (.un .not)) [(.t 42)], iR 44 (.p .pick) [(.t 41), (.c (.bool true)), (.t 43)], iR 45 (.p .mv) [(.t 44)], iG 46 45 false (.p .mv) [(.t 13)], iG 47 45 false (.p (.un .not)) [(.t 46)],
    iR 48 (.p .pick) [(.t 45), (.c (.bool true)), (.t 47)], iR 49 (.p .mv) [(.t 48)], iG 50 49 false (.p .mv) [(.t 10)], iG 51 49 false (.p (.bin .lss)) [(.t 50), (.c (.int .i64 (.ofNat 0)))], iG 52 49 false (.p .mv) [(.t 51)], iG 53 52 true (.p .mv) [(.t 12)], iG 54 52 true (.p (.bin .lss)) [(.t 53), (.c (.int .i64 (.ofNat 0)))], iG 55 49 false (.p .pick) [(.t 52), (.t 54), (.c (.bool false))], iR 56 (.p .pick) [(.t 49), (.c (.bool true)), (.t 55)], iR 57 (.p .mv) [(.t 56)], iG 58 57 false (.p .mv) [(.t 10)], iG 59 57 false (.p (.bin .geq)) [(.t 58), (.c (.int .i64 (.ofNat 0)))], iG 60 57 false (.p .mv) [(.t 59)], iG 61 60 true (.p .mv) [(.t 12)], iG 62 60 true (.p (.bin .geq)) [(.t 61), (.c (.int .i64 (.ofNat 0)))], iG 63 57 false (.p .pick) [(.t 60), (.t 62), (.c (.bool false))], iG 64 57 false (.p .mv) [(.t 63)], iG 65 64 true (.p .mv) [(.t 10)], iG 66 64 true (.p .mv) [(.t 12)],
    iG 67 64 true (.p (.bin .gtr)) [(.t 65), (.t 66)], iG 68 57 false (.p .pick) [(.t 64), (.t 67), (.c (.bool false))], iR 69 (.p .pick) [(.t 57), (.c (.bool true)), (.t 68)]]) (.keep [10, 12, 69] (.cond (.t 69) (.seq (.reg [iR 2 (.p .mv) [(.c (.int .i64 (.ofNat 0)))], iR 3 (.p .mv) [(.c (.int .i64 (.ofNat 0)))], iR 4 (.p .mv) [(.c (.bool false))]]) (.keep [2, 3, 4] (.keep [2, 3, 4] .ret))) .skip))) (.keep [10, 12] (.seq (.reg [iR 70 (.p .mv) [(.t 10)], iR 71 (.p .mv) [(.t 12)], iR 2 (.p .mv) [(.t 70)], iR 3 (.p .mv) [(.t 71)], iR 4 (.p .mv) [(.c (.bool true))]]) (.keep [2, 3, 4] (.keep [2, 3, 4] .ret))))))))))))))), [(.t 2), (.t 3), (.t 4)]⟩
def s_headers_Range (call : CallK) (N : Nat) (a0 : V) (H : Heap) (τ : Tape) (q : KV) : Ans := call f_strings_CutPrefix [a0, (.str (bs [98, 121, 116, 101, 115, 61]))] H τ fun v0 H1 τ2 => someK (pExtract 0 [v0]) fun v3 => someK (pExtract 1 [v0]) fun v4 => call f_strings_Cut [v3, (.str (bs [45]))] H1 τ2 fun v5 H6 τ7 => someK (pExtract 0 [v5]) fun v8 => someK (pExtract 1 [v5]) fun v9 => someK (pExtract 2 [v5]) fun v10 => call f_headers_told [v8] H6 τ7 fun v11 H12 τ13 => someK (pExtract 0 [v11]) fun v14 => someK (pExtract 1 [v11]) fun v15 => call f_headers_told [v9] H12 τ13 fun v16 H17 τ18 => someK (pExtract 0 [v16]) fun v19 => someK (pExtract 1 [v16]) fun v20 => unK .not v4 fun v21 => gK v21 false (fun q' => q' v10 H17 τ18) H17 τ18 fun v22 H23 τ24 => gK v21 false (fun q' => unK .not v22 fun v => q' v H23 τ24) H23 τ24 fun v25 H26 τ27 => someK (pPick [v21, (.bool true), v25]) fun v28 =>
    gK v28 false (fun q' => q' v15 H26 τ27) H26 τ27 fun v29 H30 τ31 => gK v28 false (fun q' => unK .not v29 fun v => q' v H30 τ31) H30 τ31 fun v32 H33 τ34 => someK (pPick [v28, (.bool true), v32]) fun v35 => gK v35 false (fun q' => q' v20 H33 τ34) H33 τ34 fun v36 H37 τ38 => gK v35 false (fun q' => unK .not v36 fun v => q' v H37 τ38) H37 τ38 fun v39 H40 τ41 => someK (pPick [v35, (.bool true), v39]) fun v42 => gK v42 false (fun q' => q' v14 H40 τ41) H40 τ41 fun v43 H44 τ45 => gK v42 false (fun q' => binK .lss v43 (.int .i64 (.ofNat 0)) fun v => q' v H44 τ45) H44 τ45 fun v46 H47 τ48 => gK v42 false (fun q' => q' v46 H47 τ48) H47 τ48 fun v49 H50 τ51 => gK v49 true (fun q' => q' v19 H50 τ51) H50 τ51 fun v52 H53 τ54 => gK v49 true (fun q' => binK .lss v52 (.int .i64 (.ofNat 0)) fun v => q' v H53 τ54) H53 τ54 fun v55 H56 τ57 =>
    gK v42 false (fun q' => someK (pPick [v49, v55, (.bool false)]) fun v => q' v H56 τ57) H56 τ57 fun v58 H59 τ60 => someK (pPick [v42, (.bool true), v58]) fun v61 => gK v61 false (fun q' => q' v14 H59 τ60) H59 τ60 fun v62 H63 τ64 => gK v61 false (fun q' => binK .geq v62 (.int .i64 (.ofNat 0)) fun v => q' v H63 τ64) H63 τ64 fun v65 H66 τ67 => gK v61 false (fun q' => q' v65 H66 τ67) H66 τ67 fun v68 H69 τ70 => gK v68 true (fun q' => q' v19 H69 τ70) H69 τ70 fun v71 H72 τ73 => gK v68 true (fun q' => binK .geq v71 (.int .i64 (.ofNat 0)) fun v => q' v H72 τ73) H72 τ73 fun v74 H75 τ76 => gK v61 false (fun q' => someK (pPick [v68, v74, (.bool false)]) fun v => q' v H75 τ76) H75 τ76 fun v77 H78 τ79 => gK v61 false (fun q' => q' v77 H78 τ79) H78 τ79 fun v80 H81 τ82 => gK v80 true (fun q' => q' v14 H81 τ82) H81 τ82 fun v83 H84 τ85 =>
    gK v80 true (fun q' => q' v19 H84 τ85) H84 τ85 fun v86 H87 τ88 => gK v80 true (fun q' => binK .gtr v83 v86 fun v => q' v H87 τ88) H87 τ88 fun v89 H90 τ91 => gK v61 false (fun q' => someK (pPick [v80, v89, (.bool false)]) fun v => q' v H90 τ91) H90 τ91 fun v92 H93 τ94 => someK (pPick [v61, (.bool true), v92]) fun v95 => condK v95 (q (.tup [(.int .i64 (.ofNat 0)), (.int .i64 (.ofNat 0)), (.bool false)]) H93 τ94) (q (.tup [v14, v19, (.bool true)]) H93 τ94)
theorem s_headers_Range_eq (call : CallK) (N : Nat) (a0 : V) (H : Heap) (τ : Tape) (q : KV) : s_headers_Range call N a0 H τ q = funK call N fn_headers_Range [a0] H τ q := by kernel_rfl
def e_headers_Range (call : CallK) (N : Nat) (vs : List V) (H : Heap) (τ : Tape) (q : KV) : Ans := match vs with | [a0] => s_headers_Range call N a0 H τ q | _ => none
theorem e_headers_Range_ok : EntOk fn_headers_Range e_headers_Range := by
  intro call N vs H τ q r h
  unfold e_headers_Range at h
  split at h
  · rw [s_headers_Range_eq] at h; exact h
  · cases h
theorem e_headers_Range_nat : EntNat e_headers_Range := by
  intro c hn N vs H τ q
  unfold e_headers_Range
  split
  · rw [s_headers_Range_eq, s_headers_Range_eq]; exact funK_ent hn _ _ _ _ _ _
  · rfl
/-- ostiary/blob.number -/
def fn_blob_number : Fun := ⟨1, (.seq (.reg [iR 2 (.p .mv) [(.c (.str []))]]) (.keep [0] (.seq (.reg [iR 3 (.p .mv) [(.t 0)], iR 4 (.call 65) [(.t 3), (.c (.int .i64 (.ofNat 10)))], iR 2 (.p .mv) [(.t 4)]]) (.keep [2] (.keep [2] .ret))))), [(.t 2)]⟩
def s_blob_number (call : CallK) (N : Nat) (a0 : V) (H : Heap) (τ : Tape) (q : KV) : Ans := call f_strconv_FormatInt [a0, (.int .i64 (.ofNat 10))] H τ fun v0 H1 τ2 => q v0 H1 τ2
theorem s_blob_number_eq (call : CallK) (N : Nat) (a0 : V) (H : Heap) (τ : Tape) (q : KV) : s_blob_number call N a0 H τ q = funK call N fn_blob_number [a0] H τ q := by kernel_rfl
def e_blob_number (call : CallK) (N : Nat) (vs : List V) (H : Heap) (τ : Tape) (q : KV) : Ans := match vs with | [a0] => s_blob_number call N a0 H τ q | _ => none
theorem e_blob_number_ok : EntOk fn_blob_number e_blob_number := by
  intro call N vs H τ q r h
  unfold e_blob_number at h
  split at h
  · rw [s_blob_number_eq] at h; exact h
  · cases h
theorem e_blob_number_nat : EntNat e_blob_number := by
  intro c hn N vs H τ q
  unfold e_blob_number
  split
  · rw [s_blob_number_eq, s_blob_number_eq]; exact funK_ent hn _ _ _ _ _ _
  · rfl
/-- ostiary/infra.Int -/
def fn_infra_Int : Fun := ⟨1, (.seq (.reg [iR 2 (.p .mv) [(.c (.int .i64 (.ofNat 0)))], iR 3 (.p .mv) [(.c (.bool false))]]) (.keep [0] (.seq (.reg [iR 4 (.p .mv) [(.c (.int .i64 (.ofNat 0)))]]) (.keep [0, 4] (.seq (.seq (.reg [iR 8 (.p .mv) [(.t 0)], iR 9 (.p .lenS) [(.t 8)], iR 10 (.p .mv) [(.c (.int .i64 (.ofNat 0)))]]) (.keep [0, 4, 9, 10] (.block 0 (.loop (.keep [0, 4, 9, 10] (.seq (.reg [iR 11 (.p (.bin .lss)) [(.t 10), (.t 9)]]) (.keep [0, 4, 9, 10, 11] (.seq (.cond (.t 11) .skip (.keep [0, 4] (.exit 0))) (.keep [0, 4, 9, 10] (.seq (.block 1 (.seq (.reg [iR 12 (.p .mv) [(.t 10)], iR 5 (.p .mv) [(.t 12)]]) (.keep [0, 4, 5, 9, 10] (.seq (.reg [iR 13 (.p .mv) [(.t 0)], iR 14 (.p .mv) [(.t 5)], iR 15 (.p .strIndex) [(.t 13), (.t 14)], iR 6 (.p .mv) [(.t 15)]]) (.keep [0, 4, 6, 9, 10] (.seq (.seq (.reg [iR 16 (.p .mv) [(.t 6)],
    iR 17 (.p (.bin .lss)) [(.t 16), (.c (.int .u8 (.ofNat 48)))], iR 18 (.p .mv) [(.t 17)], iG 19 18 false (.p .mv) [(.t 6)], iG 20 18 false (.p (.bin .gtr)) [(.t 19), (.c (.int .u8 (.ofNat 57)))], iR 21 (.p .pick) [(.t 18), (.c (.bool true)), (.t 20)]]) (.keep [0, 4, 6, 9, 10, 21] (.cond (.t 21) (.seq (.reg [iR 2 (.p .mv) [(.c (.int .i64 (.ofNat 0)))], iR 3 (.p .mv) [(.c (.bool false))]]) (.keep [2, 3] (.keep [2, 3] .ret))) .skip))) (.keep [0, 4, 6, 9, 10] (.seq (.reg [iR 22 (.p .mv) [(.t 6)], iR 23 (.p (.bin .sub)) [(.t 22), (.c (.int .u8 (.ofNat 48)))], iR 24 (.p (.toInt .i64)) [(.t 23)], iR 7 (.p .mv) [(.t 24)]]) (.keep [0, 4, 7, 9, 10] (.seq (.seq (.reg [iR 25 (.p .mv) [(.t 4)], iR 26 (.p .mv) [(.t 7)], iR 27 (.p (.bin .sub)) [(.c (.int .i64 (.ofNat 9223372036854775807))), (.t 26)], iR 28 (.p (.bin .quo)) [(.t 27), (.c (.int .i64 (.ofNat 10)))],
    iR 29 (.p (.bin .gtr)) [(.t 25), (.t 28)]]) (.keep [0, 4, 7, 9, 10, 29] (.cond (.t 29) (.seq (.reg [iR 4 (.p .mv) [(.c (.int .i64 (.ofNat 9223372036854775807)))]]) (.keep [0, 4, 9, 10] (.keep [0, 4, 9, 10] (.exit 1)))) .skip))) (.keep [0, 4, 7, 9, 10] (.reg [iR 30 (.p .mv) [(.t 4)], iR 31 (.p (.bin .mul)) [(.t 30), (.c (.int .i64 (.ofNat 10)))], iR 32 (.p .mv) [(.t 7)], iR 33 (.p (.bin .add)) [(.t 31), (.t 32)], iR 4 (.p .mv) [(.t 33)]])))))))))))) (.keep [0, 4, 9, 10] (.reg [iR 34 (.p (.bin .add)) [(.t 10), (.c (.int .i64 (.ofNat 1)))], iR 10 (.p .mv) [(.t 34)]])))))))))))) (.keep [0, 4] (.seq (.reg [iR 35 (.p .mv) [(.t 4)], iR 36 (.p .mv) [(.t 0)], iR 37 (.p .lenS) [(.t 36)], iR 38 (.p (.bin .gtr)) [(.t 37), (.c (.int .i64 (.ofNat 0)))], iR 2 (.p .mv) [(.t 35)], iR 3 (.p .mv) [(.t 38)]]) (.keep [2, 3] (.keep [2, 3] .ret))))))))), [(.t 2), (.t 3)]⟩
def s_infra_Int_j0 (call : CallK) (N : Nat) (q : KV) (st : St) (τ : Tape) : Ans := match st with
  | ⟨fr, H⟩ => getK fr 0 fun t0 => getK fr 4 fun t4 => someK (pLenS [t0]) fun v1 => binK .gtr v1 (.int .i64 (.ofNat 0)) fun v2 => q (.tup [t4, v2]) H τ
def s_infra_Int_j2 (call : CallK) (N : Nat) (k : KC) (st : St) (τ : Tape) : Ans := match st with
  | ⟨fr, H⟩ => getK fr 0 fun t0 => getK fr 4 fun t4 => getK fr 9 fun t9 => getK fr 10 fun t10 => binK .add t10 (.int .i64 (.ofNat 1)) fun v4 => k .normal ⟨(T.set (T.set (T.set (T.set (T.set (T.set .leaf 0 t0) 4 t4) 9 t9) 10 t10) 34 v4) 10 v4), H⟩ τ
def s_infra_Int_l1 (call : CallK) (N : Nat) (st : St) (τ : Tape) (k : KC) : Ans := match st with
  | ⟨fr, H⟩ => getK fr 0 fun t0 => getK fr 4 fun t4 => getK fr 9 fun t9 => getK fr 10 fun t10 => binK .lss t10 t9 fun v3 => condK v3 (someK (pStrIndex [t0, t10]) fun v5 => binK .lss v5 (.int .u8 (.ofNat 48)) fun v6 => gK v6 false (fun q' => q' v5 H τ) H τ fun v7 H8 τ9 => gK v6 false (fun q' => binK .gtr v7 (.int .u8 (.ofNat 57)) fun v => q' v H8 τ9) H8 τ9 fun v10 H11 τ12 => someK (pPick [v6, (.bool true), v10]) fun v13 => condK v13 (k .ret ⟨(T.set (T.set .leaf 2 (.int .i64 (.ofNat 0))) 3 (.bool false)), H11⟩ τ12) (binK .sub v5 (.int .u8 (.ofNat 48)) fun v14 => toIntK .i64 v14 fun v15 => binK .sub (.int .i64 (.ofNat 9223372036854775807)) v15 fun v16 => binK .quo v16 (.int .i64 (.ofNat 10)) fun v17 => binK .gtr t4 v17 fun v18 => condK v18 (s_infra_Int_j2 call N k ⟨(T.set (T.set (T.set (T.set .leaf 0 t0) 4 (.int .i64 (.ofNat 9223372036854775807))) 9 t9) 10 t10), H11⟩ τ12)
    (binK .mul t4 (.int .i64 (.ofNat 10)) fun v19 => binK .add v19 v15 fun v20 => s_infra_Int_j2 call N k ⟨(T.set (T.set (T.set (T.set (T.set (T.set (T.set (T.set (T.set (T.set .leaf 0 t0) 4 t4) 7 v15) 9 t9) 10 t10) 30 t4) 31 v19) 32 v15) 33 v20) 4 v20), H11⟩ τ12))) (k (.exit 0) ⟨(T.set (T.set .leaf 0 t0) 4 t4), H⟩ τ)
def s_infra_Int (call : CallK) (N : Nat) (a0 : V) (H : Heap) (τ : Tape) (q : KV) : Ans := someK (pLenS [a0]) fun v0 => loopK (s_infra_Int_l1 call N) N ⟨(T.set (T.set (T.set (T.set .leaf 0 a0) 4 (.int .i64 (.ofNat 0))) 9 v0) 10 (.int .i64 (.ofNat 0))), H⟩ τ (blockK 0 (seqK (s_infra_Int_j0 call N q) (endK [(.t 2), (.t 3)] q)))
theorem s_infra_Int_eq (call : CallK) (N : Nat) (a0 : V) (H : Heap) (τ : Tape) (q : KV) : s_infra_Int call N a0 H τ q = funK call N fn_infra_Int [a0] H τ q := by kernel_rfl
def e_infra_Int (call : CallK) (N : Nat) (vs : List V) (H : Heap) (τ : Tape) (q : KV) : Ans := match vs with | [a0] => s_infra_Int call N a0 H τ q | _ => none
theorem e_infra_Int_ok : EntOk fn_infra_Int e_infra_Int := by
  intro call N vs H τ q r h
  unfold e_infra_Int at h
  split at h
  · rw [s_infra_Int_eq] at h; exact h
  · cases h
theorem e_infra_Int_nat : EntNat e_infra_Int := by
  intro c hn N vs H τ q
  unfold e_infra_Int
  split
  · rw [s_infra_Int_eq, s_infra_Int_eq]; exact funK_ent hn _ _ _ _ _ _
  · rfl
/-- internal/strconv.FormatInt -/
def fn_strconv_FormatInt_n117 : Fun := ⟨2, (.seq (.reg [iR 4 (.p .mv) [(.c (.str []))]]) (.keep [0, 1] (.seq (.seq (.reg [iR 10 (.p .mv) [(.t 1)], iR 11 (.p (.bin .eql)) [(.t 10), (.c (.int .i64 (.ofNat 10)))]]) (.keep [0, 1, 11] (.cond (.t 11) (.seq (.seq (.reg [iR 12 (.p .mv) [(.t 0)], iR 13 (.p (.bin .leq)) [(.c (.int .i64 (.ofNat 0))), (.t 12)], iR 14 (.p .mv) [(.t 13)], iG 15 14 true (.p .mv) [(.t 0)], iG 16 14 true (.p (.bin .lss)) [(.t 15), (.c (.int .i64 (.ofNat 100)))], iR 17 (.p .pick) [(.t 14), (.t 16), (.c (.bool false))]]) (.keep [0, 17] (.cond (.t 17) (.seq (.reg [iR 18 (.p .mv) [(.t 0)], iR 19 (.call 169) [(.t 18)], iR 4 (.p .mv) [(.t 19)]]) (.keep [4] (.keep [4] .ret))) .skip))) (.keep [0] (.seq (.reg [iR 5 (.e (.alloc (repl 24 [(.int .u8 (.ofNat 0))]))) []]) (.keep [0, 5] (.seq (.reg [iR 20 (.p .mv) [(.t 0)], iR 21 (.p (.toInt .u64)) [(.t 20)],
    iR 6 (.p .mv) [(.t 21)]]) (.keep [0, 5, 6] (.seq (.seq (.reg [iR 22 (.p .mv) [(.t 0)], iR 23 (.p (.bin .lss)) [(.t 22), (.c (.int .i64 (.ofNat 0)))]]) (.keep [0, 5, 6, 23] (.cond (.t 23) (.reg [iR 24 (.p .mv) [(.t 6)], iR 25 (.p (.un .neg)) [(.t 24)], iR 6 (.p .mv) [(.t 25)]]) .skip))) (.keep [0, 5, 6] (.seq (.reg [iR 26 (.p .mv) [(.t 6)], iR 27 (.call 170) [(.t 26)], iR 7 (.p .mv) [(.t 27)]]) (.keep [0, 5, 6, 7] (.seq (.reg [iR 28 (.p .mv) [(.t 7)], iR 29 (.p (.bin .add)) [(.c (.int .i64 (.ofNat 1))), (.t 28)], iR 30 (.p (.arrSlice 24 1 true true false)) [(.t 5), (.c (.int .i64 (.ofNat 1))), (.t 29)], iR 31 (.p .mv) [(.t 6)], iR 32 (.call 171) [(.t 30), (.t 31)]]) (.keep [0, 5, 7] (.seq (.seq (.reg [iR 33 (.p .mv) [(.t 0)], iR 34 (.p (.bin .lss)) [(.t 33), (.c (.int .i64 (.ofNat 0)))]]) (.keep [5, 7, 34] (.cond (.t 34)
    (.seq (.reg [iR 35 (.p (.arrIdx 24 1)) [(.t 5), (.c (.int .i64 (.ofNat 0)))], ⟨none, none, (.e (.store 1)), [(.t 35), (.c (.int .u8 (.ofNat 45)))], none⟩]) (.keep [5, 7] (.seq (.reg [iR 36 (.p .mv) [(.t 7)], iR 37 (.p (.bin .add)) [(.c (.int .i64 (.ofNat 1))), (.t 36)], iR 38 (.p (.arrSlice 24 1 false true false)) [(.t 5), (.t 37)], iR 39 (.l .bytesStr) [(.t 38)], iR 4 (.p .mv) [(.t 39)]]) (.keep [4] (.keep [4] .ret))))) .skip))) (.keep [5, 7] (.seq (.reg [iR 40 (.p .mv) [(.t 7)], iR 41 (.p (.bin .add)) [(.c (.int .i64 (.ofNat 1))), (.t 40)], iR 42 (.p (.arrSlice 24 1 true true false)) [(.t 5), (.c (.int .i64 (.ofNat 1))), (.t 41)], iR 43 (.l .bytesStr) [(.t 42)], iR 4 (.p .mv) [(.t 43)]]) (.keep [4] (.keep [4] .ret))))))))))))))))) .skip))) (.keep [0, 1] (.seq (.reg [iR 45 (.p .mv) [(.t 0)], iR 46 (.p (.toInt .u64)) [(.t 45)], iR 47 (.p .mv) [(.t 1)], iR 48 (.p .mv) [(.t 0)],
    iR 49 (.p (.bin .lss)) [(.t 48), (.c (.int .i64 (.ofNat 0)))], iR 50 (.call 172) [(.c .nils), (.t 46), (.t 47), (.t 49), (.c (.bool false))], iR 44 (.p .mv) [(.t 50)], iR 51 (.p (.extract 0)) [(.t 44)], iR 52 (.p (.extract 1)) [(.t 44)], iR 8 (.p .mv) [(.t 51)], iR 9 (.p .mv) [(.t 52)]]) (.keep [9] (.seq (.reg [iR 53 (.p .mv) [(.t 9)], iR 4 (.p .mv) [(.t 53)]]) (.keep [4] (.keep [4] .ret))))))))), [(.t 4)]⟩
def s_strconv_FormatInt_n117_j0 (call : CallK) (N : Nat) (q : KV) (st : St) (τ : Tape) : Ans := match st with
  | ⟨fr, H⟩ => getK fr 0 fun t0 => getK fr 1 fun t1 => toIntK .u64 t0 fun v17 => binK .lss t0 (.int .i64 (.ofNat 0)) fun v18 => call f_strconv_formatBits [.nils, v17, t1, v18, (.bool false)] H τ fun v19 H20 τ21 => someK (pExtract 0 [v19]) fun v22 => someK (pExtract 1 [v19]) fun v23 => q v23 H20 τ21
def s_strconv_FormatInt_n117_j1 (call : CallK) (N : Nat) (q : KV) (st : St) (τ : Tape) : Ans := match st with
  | ⟨fr, H⟩ => getK fr 0 fun t0 => getK fr 5 fun t5 => getK fr 6 fun t6 => call f_strconv_numDigits [t6] H τ fun v24 H25 τ26 => binK .add (.int .i64 (.ofNat 1)) v24 fun v27 => someK (pArrSlice 24 1 true true false [t5, (.int .i64 (.ofNat 1)), v27]) fun v28 => call f_strconv_formatBase10 [v28, t6] H25 τ26 fun v29 H30 τ31 => binK .lss t0 (.int .i64 (.ofNat 0)) fun v32 => condK v32 (someK (pArrIdx 24 1 [t5, (.int .i64 (.ofNat 0))]) fun v33 => effK (eStore 1 [v33, (.int .u8 (.ofNat 45))] H30 τ31) fun v34 H35 τ36 => binK .add (.int .i64 (.ofNat 1)) v24 fun v37 => someK (pArrSlice 24 1 false true false [t5, v37]) fun v38 => someK (lBytesStr [v38] H35) fun v39 => q v39 H35 τ36) (binK .add (.int .i64 (.ofNat 1)) v24 fun v40 => someK (pArrSlice 24 1 true true false [t5, (.int .i64 (.ofNat 1)), v40]) fun v41 => someK (lBytesStr [v41] H30) fun v42 => q v42 H30 τ31)
def s_strconv_FormatInt_n117 (call : CallK) (N : Nat) (a0 a1 : V) (H : Heap) (τ : Tape) (q : KV) : Ans := binK .eql a1 (.int .i64 (.ofNat 10)) fun v0 => condK v0 (binK .leq (.int .i64 (.ofNat 0)) a0 fun v1 => gK v1 true (fun q' => q' a0 H τ) H τ fun v2 H3 τ4 => gK v1 true (fun q' => binK .lss v2 (.int .i64 (.ofNat 100)) fun v => q' v H3 τ4) H3 τ4 fun v5 H6 τ7 => someK (pPick [v1, v5, (.bool false)]) fun v8 => condK v8 (call f_strconv_small [a0] H6 τ7 fun v9 H10 τ11 => q v9 H10 τ11) (effK (eAlloc (repl 24 [(.int .u8 (.ofNat 0))]) [] H6 τ7) fun v12 H13 τ14 => toIntK .u64 a0 fun v15 => binK .lss a0 (.int .i64 (.ofNat 0)) fun v16 => condK v16 (unK .neg v15 fun v43 => s_strconv_FormatInt_n117_j1 call N q ⟨(T.set (T.set (T.set (T.set (T.set (T.set (T.set .leaf 0 a0) 5 v12) 6 v15) 23 v16) 24 v15) 25 v43) 6 v43), H13⟩ τ14)
    (s_strconv_FormatInt_n117_j1 call N q ⟨(T.set (T.set (T.set (T.set .leaf 0 a0) 5 v12) 6 v15) 23 v16), H13⟩ τ14))) (toIntK .u64 a0 fun v44 => binK .lss a0 (.int .i64 (.ofNat 0)) fun v45 => call f_strconv_formatBits [.nils, v44, a1, v45, (.bool false)] H τ fun v46 H47 τ48 => someK (pExtract 0 [v46]) fun v49 => someK (pExtract 1 [v46]) fun v50 => q v50 H47 τ48)
theorem s_strconv_FormatInt_n117_eq (call : CallK) (N : Nat) (a0 a1 : V) (H : Heap) (τ : Tape) (q : KV) : s_strconv_FormatInt_n117 call N a0 a1 H τ q = funK call N fn_strconv_FormatInt_n117 [a0, a1] H τ q := by kernel_rfl
def e_strconv_FormatInt_n117 (call : CallK) (N : Nat) (vs : List V) (H : Heap) (τ : Tape) (q : KV) : Ans := match vs with | [a0, a1] => s_strconv_FormatInt_n117 call N a0 a1 H τ q | _ => none
theorem e_strconv_FormatInt_n117_ok : EntOk fn_strconv_FormatInt_n117 e_strconv_FormatInt_n117 := by
  intro call N vs H τ q r h
  unfold e_strconv_FormatInt_n117 at h
  split at h
  · rw [s_strconv_FormatInt_n117_eq] at h; exact h
  · cases h
theorem e_strconv_FormatInt_n117_nat : EntNat e_strconv_FormatInt_n117 := by
  intro c hn N vs H τ q
  unfold e_strconv_FormatInt_n117
  split
  · rw [s_strconv_FormatInt_n117_eq, s_strconv_FormatInt_n117_eq]; exact funK_ent hn _ _ _ _ _ _
  · rfl
/-- strings.Trim -/
def fn_strings_Trim : Fun := ⟨2, (.seq (.reg [iR 4 (.p .mv) [(.c (.str []))]]) (.keep [0, 1] (.seq (.seq (.reg [iR 7 (.p .mv) [(.t 0)], iR 8 (.p (.bin .eql)) [(.t 7), (.c (.str []))], iR 9 (.p .mv) [(.t 8)], iG 10 9 false (.p .mv) [(.t 1)], iG 11 9 false (.p (.bin .eql)) [(.t 10), (.c (.str []))], iR 12 (.p .pick) [(.t 9), (.c (.bool true)), (.t 11)]]) (.keep [0, 1, 12] (.cond (.t 12) (.seq (.reg [iR 13 (.p .mv) [(.t 0)], iR 4 (.p .mv) [(.t 13)]]) (.keep [4] (.keep [4] .ret))) .skip))) (.keep [0, 1] (.seq (.seq (.reg [iR 14 (.p .mv) [(.t 1)], iR 15 (.p .lenS) [(.t 14)], iR 16 (.p (.bin .eql)) [(.t 15), (.c (.int .i64 (.ofNat 1)))], iR 17 (.p .mv) [(.t 16)], iG 18 17 true (.p .mv) [(.t 1)], iG 19 17 true (.p .strIndex) [(.t 18), (.c (.int .i64 (.ofNat 0)))], iG 20 17 true (.p (.bin .lss)) [(.t 19), (.c (.int .u8 (.ofNat 128)))],
    iR 21 (.p .pick) [(.t 17), (.t 20), (.c (.bool false))]]) (.keep [0, 1, 21] (.cond (.t 21) (.seq (.draw [iR 22 (.p .mv) [(.t 0)], iR 23 (.p .mv) [(.t 1)], iR 24 (.p .strIndex) [(.t 23), (.c (.int .i64 (.ofNat 0)))], iR 25 (.call 174) [(.t 22), (.t 24)], iR 26 (.p .mv) [(.t 1)], iR 27 (.p .strIndex) [(.t 26), (.c (.int .i64 (.ofNat 0)))], iR 28 (.call 173) [(.t 25), (.t 27)], iR 4 (.p .mv) [(.t 28)]]) (.keep [4] (.keep [4] .ret))) .skip))) (.keep [0, 1] (.seq (.seq (.reg [iR 30 (.p .mv) [(.t 1)], iR 31 (.call 175) [(.t 30)], iR 29 (.p .mv) [(.t 31)], iR 32 (.p (.extract 0)) [(.t 29)], iR 33 (.p (.extract 1)) [(.t 29)], iR 5 (.e (.alloc (repl 256 [(.bool false)]))) [], ⟨none, none, (.e (.store 256)), [(.t 5), (.t 32)], none⟩, iR 6 (.p .mv) [(.t 33)]]) (.keep [0, 1, 5, 6] (.seq (.reg [iR 34 (.p .mv) [(.t 6)]]) (.keep [0, 1, 5, 34] (.cond (.t 34) (.seq (.reg [iR 35 (.p .mv) [(.t 0)],
    iR 36 (.call 177) [(.t 35), (.t 5)], iR 37 (.call 176) [(.t 36), (.t 5)], iR 4 (.p .mv) [(.t 37)]]) (.keep [4] (.keep [4] .ret))) .skip))))) (.keep [0, 1] (.seq (.reg [iR 38 (.p .mv) [(.t 0)], iR 39 (.p .mv) [(.t 1)], iR 40 (.call 179) [(.t 38), (.t 39)], iR 41 (.p .mv) [(.t 1)], iR 42 (.call 178) [(.t 40), (.t 41)], iR 4 (.p .mv) [(.t 42)]]) (.keep [4] (.keep [4] .ret))))))))))), [(.t 4)]⟩
def s_strings_Trim (call : CallK) (N : Nat) (a0 a1 : V) (H : Heap) (τ : Tape) (q : KV) : Ans := binK .eql a0 (.str []) fun v0 => gK v0 false (fun q' => q' a1 H τ) H τ fun v1 H2 τ3 => gK v0 false (fun q' => binK .eql v1 (.str []) fun v => q' v H2 τ3) H2 τ3 fun v4 H5 τ6 => someK (pPick [v0, (.bool true), v4]) fun v7 => condK v7 (q a0 H5 τ6) (someK (pLenS [a1]) fun v8 => binK .eql v8 (.int .i64 (.ofNat 1)) fun v9 => gK v9 true (fun q' => q' a1 H5 τ6) H5 τ6 fun v10 H11 τ12 => gK v9 true (fun q' => someK (pStrIndex [v10, (.int .i64 (.ofNat 0))]) fun v => q' v H11 τ12) H11 τ12 fun v13 H14 τ15 => gK v9 true (fun q' => binK .lss v13 (.int .u8 (.ofNat 128)) fun v => q' v H14 τ15) H14 τ15 fun v16 H17 τ18 => someK (pPick [v9, v16, (.bool false)]) fun v19 => condK v19 (someK (pStrIndex [a1, (.int .i64 (.ofNat 0))]) fun v20 => call f_strings_trimRightByte [a0, v20] H17 τ18 fun v21 H22 τ23 =>
    someK (pStrIndex [a1, (.int .i64 (.ofNat 0))]) fun v24 => call f_strings_trimLeftByte [v21, v24] H22 τ23 fun v25 H26 τ27 => q v25 H26 τ27) (call f_strings_makeASCIISet [a1] H17 τ18 fun v28 H29 τ30 => someK (pExtract 0 [v28]) fun v31 => someK (pExtract 1 [v28]) fun v32 => effK (eAlloc (repl 256 [(.bool false)]) [] H29 τ30) fun v33 H34 τ35 => effK (eStore 256 [v33, v31] H34 τ35) fun v36 H37 τ38 => condK v32 (call f_strings_trimRightASCII [a0, v33] H37 τ38 fun v39 H40 τ41 => call f_strings_trimLeftASCII [v39, v33] H40 τ41 fun v42 H43 τ44 => q v42 H43 τ44) (call f_strings_trimRightUnicode [a0, a1] H37 τ38 fun v45 H46 τ47 => call f_strings_trimLeftUnicode [v45, a1] H46 τ47 fun v48 H49 τ50 => q v48 H49 τ50)))
theorem s_strings_Trim_eq (call : CallK) (N : Nat) (a0 a1 : V) (H : Heap) (τ : Tape) (q : KV) : s_strings_Trim call N a0 a1 H τ q = funK call N fn_strings_Trim [a0, a1] H τ q := by kernel_rfl
def e_strings_Trim (call : CallK) (N : Nat) (vs : List V) (H : Heap) (τ : Tape) (q : KV) : Ans := match vs with | [a0, a1] => s_strings_Trim call N a0 a1 H τ q | _ => none
theorem e_strings_Trim_ok : EntOk fn_strings_Trim e_strings_Trim := by
  intro call N vs H τ q r h
  unfold e_strings_Trim at h
  split at h
  · rw [s_strings_Trim_eq] at h; exact h
  · cases h
theorem e_strings_Trim_nat : EntNat e_strings_Trim := by
  intro c hn N vs H τ q
  unfold e_strings_Trim
  split
  · rw [s_strings_Trim_eq, s_strings_Trim_eq]; exact funK_ent hn _ _ _ _ _ _
  · rfl
/-- strings.ContainsAny -/
def fn_strings_ContainsAny : Fun := ⟨2, (.seq (.reg [iR 4 (.p .mv) [(.c (.bool false))]]) (.keep [0, 1] (.seq (.reg [iR 5 (.p .mv) [(.t 0)], iR 6 (.p .mv) [(.t 1)], iR 7 (.call 180) [(.t 5), (.t 6)], iR 8 (.p (.bin .geq)) [(.t 7), (.c (.int .i64 (.ofNat 0)))], iR 4 (.p .mv) [(.t 8)]]) (.keep [4] (.keep [4] .ret))))), [(.t 4)]⟩
def s_strings_ContainsAny (call : CallK) (N : Nat) (a0 a1 : V) (H : Heap) (τ : Tape) (q : KV) : Ans := call f_strings_IndexAny [a0, a1] H τ fun v0 H1 τ2 => binK .geq v0 (.int .i64 (.ofNat 0)) fun v3 => q v3 H1 τ2
theorem s_strings_ContainsAny_eq (call : CallK) (N : Nat) (a0 a1 : V) (H : Heap) (τ : Tape) (q : KV) : s_strings_ContainsAny call N a0 a1 H τ q = funK call N fn_strings_ContainsAny [a0, a1] H τ q := by kernel_rfl
def e_strings_ContainsAny (call : CallK) (N : Nat) (vs : List V) (H : Heap) (τ : Tape) (q : KV) : Ans := match vs with | [a0, a1] => s_strings_ContainsAny call N a0 a1 H τ q | _ => none
theorem e_strings_ContainsAny_ok : EntOk fn_strings_ContainsAny e_strings_ContainsAny := by
  intro call N vs H τ q r h
  unfold e_strings_ContainsAny at h
  split at h
  · rw [s_strings_ContainsAny_eq] at h; exact h
  · cases h
theorem e_strings_ContainsAny_nat : EntNat e_strings_ContainsAny := by
  intro c hn N vs H τ q
  unfold e_strings_ContainsAny
  split
  · rw [s_strings_ContainsAny_eq, s_strings_ContainsAny_eq]; exact funK_ent hn _ _ _ _ _ _
  · rfl
/-- ostiary/url.Own -/
def fn_url_Own : Fun := ⟨1, (.seq (.reg [iR 2 (.p .mv) [(.c (.int .i64 (.ofNat 0)))]]) (.keep [0] (.seq (.seq (.reg [iR 3 (.p .mv) [(.t 0)]]) (.keep [3] (.block 0 (.seq (.seq (.reg [iR 5 (.p (.bin .eql)) [(.t 3), (.c (.str (bs [104, 116, 116, 112])))], iR 4 (.p .mv) [(.t 5)]]) (.keep [3, 4] (.cond (.t 4) .skip (.reg [iR 6 (.p (.bin .eql)) [(.t 3), (.c (.str (bs [119, 115])))], iR 4 (.p .mv) [(.t 6)]])))) (.keep [3, 4] (.cond (.t 4) (.seq (.reg [iR 2 (.p .mv) [(.c (.int .i64 (.ofNat 80)))]]) (.keep [2] (.keep [2] .ret))) (.seq (.seq (.reg [iR 8 (.p (.bin .eql)) [(.t 3), (.c (.str (bs [104, 116, 116, 112, 115])))], iR 7 (.p .mv) [(.t 8)]]) (.keep [3, 7] (.cond (.t 7) .skip (.reg [iR 9 (.p (.bin .eql)) [(.t 3), (.c (.str (bs [119, 115, 115])))], iR 7 (.p .mv) [(.t 9)]])))) (.keep [3, 7] (.cond (.t 7) (.seq (.reg [iR 2 (.p .mv) [(.c (.int .i64 (.ofNat 443)))]])
    (.keep [2] (.keep [2] .ret))) (.seq (.reg [iR 11 (.p (.bin .eql)) [(.t 3), (.c (.str (bs [102, 116, 112])))], iR 10 (.p .mv) [(.t 11)]]) (.keep [10] (.cond (.t 10) (.seq (.reg [iR 2 (.p .mv) [(.c (.int .i64 (.ofNat 21)))]]) (.keep [2] (.keep [2] .ret))) .skip)))))))))))) (.keep [] (.seq (.reg [iR 2 (.p .mv) [(.c (.int .i64 (.negSucc 0)))]]) (.keep [2] (.keep [2] .ret))))))), [(.t 2)]⟩
def s_url_Own_j0 (call : CallK) (N : Nat) (q : KV) (st : St) (τ : Tape) : Ans := match st with
  | ⟨fr, H⟩ => q (.int .i64 (.negSucc 0)) H τ
def s_url_Own_j2 (call : CallK) (N : Nat) (q : KV) (st : St) (τ : Tape) : Ans := match st with
  | ⟨fr, H⟩ => getK fr 3 fun t3 => getK fr 7 fun t7 => condK t7 (q (.int .i64 (.ofNat 443)) H τ) (binK .eql t3 (.str (bs [102, 116, 112])) fun v2 => condK v2 (q (.int .i64 (.ofNat 21)) H τ) (s_url_Own_j0 call N q ⟨(T.set .leaf 10 v2), H⟩ τ))
def s_url_Own_j1 (call : CallK) (N : Nat) (q : KV) (st : St) (τ : Tape) : Ans := match st with
  | ⟨fr, H⟩ => getK fr 3 fun t3 => getK fr 4 fun t4 => condK t4 (q (.int .i64 (.ofNat 80)) H τ) (binK .eql t3 (.str (bs [104, 116, 116, 112, 115])) fun v1 => condK v1 (s_url_Own_j2 call N q ⟨(T.set (T.set .leaf 3 t3) 7 v1), H⟩ τ) (binK .eql t3 (.str (bs [119, 115, 115])) fun v3 => s_url_Own_j2 call N q ⟨(T.set (T.set (T.set (T.set .leaf 3 t3) 7 v1) 9 v3) 7 v3), H⟩ τ))
def s_url_Own (call : CallK) (N : Nat) (a0 : V) (H : Heap) (τ : Tape) (q : KV) : Ans := binK .eql a0 (.str (bs [104, 116, 116, 112])) fun v0 => condK v0 (s_url_Own_j1 call N q ⟨(T.set (T.set .leaf 3 a0) 4 v0), H⟩ τ) (binK .eql a0 (.str (bs [119, 115])) fun v4 => s_url_Own_j1 call N q ⟨(T.set (T.set (T.set (T.set .leaf 3 a0) 4 v0) 6 v4) 4 v4), H⟩ τ)
theorem s_url_Own_eq (call : CallK) (N : Nat) (a0 : V) (H : Heap) (τ : Tape) (q : KV) : s_url_Own call N a0 H τ q = funK call N fn_url_Own [a0] H τ q := by kernel_rfl
def e_url_Own (call : CallK) (N : Nat) (vs : List V) (H : Heap) (τ : Tape) (q : KV) : Ans := match vs with | [a0] => s_url_Own call N a0 H τ q | _ => none
theorem e_url_Own_ok : EntOk fn_url_Own e_url_Own := by
  intro call N vs H τ q r h
  unfold e_url_Own at h
  split at h
  · rw [s_url_Own_eq] at h; exact h
  · cases h
theorem e_url_Own_nat : EntNat e_url_Own := by
  intro c hn N vs H τ q
  unfold e_url_Own
  split
  · rw [s_url_Own_eq, s_url_Own_eq]; exact funK_ent hn _ _ _ _ _ _
  · rfl
/-- internal/strconv.Itoa -/
def fn_strconv_Itoa_n127 : Fun := ⟨1, (.seq (.reg [iR 2 (.p .mv) [(.c (.str []))]]) (.keep [0] (.seq (.reg [iR 3 (.p .mv) [(.t 0)], iR 4 (.call 117) [(.t 3), (.c (.int .i64 (.ofNat 10)))], iR 2 (.p .mv) [(.t 4)]]) (.keep [2] (.keep [2] .ret))))), [(.t 2)]⟩
def s_strconv_Itoa_n127 (call : CallK) (N : Nat) (a0 : V) (H : Heap) (τ : Tape) (q : KV) : Ans := call f_strconv_FormatInt_n117 [a0, (.int .i64 (.ofNat 10))] H τ fun v0 H1 τ2 => q v0 H1 τ2
theorem s_strconv_Itoa_n127_eq (call : CallK) (N : Nat) (a0 : V) (H : Heap) (τ : Tape) (q : KV) : s_strconv_Itoa_n127 call N a0 H τ q = funK call N fn_strconv_Itoa_n127 [a0] H τ q := by kernel_rfl
def e_strconv_Itoa_n127 (call : CallK) (N : Nat) (vs : List V) (H : Heap) (τ : Tape) (q : KV) : Ans := match vs with | [a0] => s_strconv_Itoa_n127 call N a0 H τ q | _ => none
theorem e_strconv_Itoa_n127_ok : EntOk fn_strconv_Itoa_n127 e_strconv_Itoa_n127 := by
  intro call N vs H τ q r h
  unfold e_strconv_Itoa_n127 at h
  split at h
  · rw [s_strconv_Itoa_n127_eq] at h; exact h
  · cases h
theorem e_strconv_Itoa_n127_nat : EntNat e_strconv_Itoa_n127 := by
  intro c hn N vs H τ q
  unfold e_strconv_Itoa_n127
  split
  · rw [s_strconv_Itoa_n127_eq, s_strconv_Itoa_n127_eq]; exact funK_ent hn _ _ _ _ _ _
  · rfl
/-- ostiary/ostiaryref3.Parse -/
def fn_ref3_Parse : Fun := ⟨1, (.seq (.reg [iR 2 (.e (.alloc [(.str []), (.str []), (.str []), (.str []), (.bool false), (.int .i64 (.ofNat 0)), (.bool false), .nils, (.str []), (.str []), (.bool false), (.bool false)])) [], iR 3 (.p .mv) [(.c (.int .i64 (.ofNat 0)))]]) (.keep [0, 2] (.seq (.seq (.reg [iR 10 (.p .mv) [(.t 0)], iR 11 (.p .lenS) [(.t 10)], iR 12 (.p (.bin .gtr)) [(.t 11), (.c (.int .i64 (.ofNat 4096)))]]) (.keep [0, 2, 12] (.cond (.t 12) (.seq (.reg [iR 13 (.p (.build [(.str []), (.str []), (.str []), (.str []), (.bool false), (.int .i64 (.ofNat 0)), (.bool false), .nils, (.str []), (.str []), (.bool false), (.bool false)] [])) [], ⟨none, none, (.e (.store 12)), [(.t 2), (.t 13)], none⟩, iR 3 (.p .mv) [(.c (.int .i64 (.ofNat 3)))]]) (.keep [2, 3] (.keep [2, 3] .ret))) .skip)))
    (.keep [0, 2] (.seq (.reg [iR 4 (.e (.alloc [(.str []), (.str []), (.str []), (.str []), (.bool false), (.int .i64 (.ofNat 0)), (.bool false), .nils, (.str []), (.str []), (.bool false), (.bool false)])) []]) (.keep [0, 2, 4] (.seq (.reg [iR 14 (.p .mv) [(.t 0)], iR 15 (.call 182) [(.t 14)], iR 16 (.call 181) [(.t 4), (.t 15)], iR 5 (.p .mv) [(.t 16)]]) (.keep [2, 4, 5] (.seq (.reg [iR 18 (.p .mv) [(.t 5)], iR 19 (.call 183) [(.t 18)], iR 17 (.p .mv) [(.t 19)], iR 20 (.p (.extract 0)) [(.t 17)], iR 21 (.p (.extract 1)) [(.t 17)], iR 22 (.p (.extract 2)) [(.t 17)], iR 6 (.p .mv) [(.t 20)], iR 7 (.p .mv) [(.t 21)], iR 8 (.p .mv) [(.t 22)]]) (.keep [2, 4, 6, 7, 8] (.seq (.seq (.reg [iR 23 (.p .mv) [(.t 8)], iR 24 (.p (.un .not)) [(.t 23)]]) (.keep [2, 4, 6, 7, 24] (.cond (.t 24)
    (.seq (.reg [iR 25 (.p (.build [(.str []), (.str []), (.str []), (.str []), (.bool false), (.int .i64 (.ofNat 0)), (.bool false), .nils, (.str []), (.str []), (.bool false), (.bool false)] [])) [], ⟨none, none, (.e (.store 12)), [(.t 2), (.t 25)], none⟩, iR 3 (.p .mv) [(.c (.int .i64 (.ofNat 12)))]]) (.keep [2, 3] (.keep [2, 3] .ret))) .skip))) (.keep [2, 4, 6, 7] (.seq (.reg [iR 26 (.p .mv) [(.t 6)], iR 27 (.p (.fieldAddr 0)) [(.t 4)], ⟨none, none, (.e (.store 1)), [(.t 27), (.t 26)], none⟩]) (.keep [2, 4, 7] (.seq (.reg [iR 28 (.p .mv) [(.t 7)], iR 29 (.call 184) [(.t 4), (.t 28)], iR 9 (.p .mv) [(.t 29)]]) (.keep [2, 4, 9] (.seq (.seq (.reg [iR 30 (.p .mv) [(.t 9)], iR 31 (.p (.bin .neq)) [(.t 30), (.c (.int .i64 (.ofNat 0)))]]) (.keep [2, 4, 9, 31] (.cond (.t 31)
    (.seq (.reg [iR 32 (.p (.build [(.str []), (.str []), (.str []), (.str []), (.bool false), (.int .i64 (.ofNat 0)), (.bool false), .nils, (.str []), (.str []), (.bool false), (.bool false)] [])) [], iR 33 (.p .mv) [(.t 9)], ⟨none, none, (.e (.store 12)), [(.t 2), (.t 32)], none⟩, iR 3 (.p .mv) [(.t 33)]]) (.keep [2, 3] (.keep [2, 3] .ret))) .skip))) (.keep [2, 4] (.seq (.reg [iR 34 (.l (.load (some 12))) [(.t 4)], ⟨none, none, (.e (.store 12)), [(.t 2), (.t 34)], none⟩, iR 3 (.p .mv) [(.c (.int .i64 (.ofNat 0)))]]) (.keep [2, 3] (.keep [2, 3] .ret))))))))))))))))))))), [(.cell 2 (some 12)), (.t 3)]⟩
def s_ref3_Parse (call : CallK) (N : Nat) (a0 : V) (H : Heap) (τ : Tape) (q : KV) : Ans := effK (eAlloc [(.str []), (.str []), (.str []), (.str []), (.bool false), (.int .i64 (.ofNat 0)), (.bool false), .nils, (.str []), (.str []), (.bool false), (.bool false)] [] H τ) fun v0 H1 τ2 => someK (pLenS [a0]) fun v3 => binK .gtr v3 (.int .i64 (.ofNat 4096)) fun v4 => condK v4 (someK (pBuild [(.str []), (.str []), (.str []), (.str []), (.bool false), (.int .i64 (.ofNat 0)), (.bool false), .nils, (.str []), (.str []), (.bool false), (.bool false)] [] []) fun v5 => effK (eStore 12 [v0, v5] H1 τ2) fun v6 H7 τ8 => someK (results ⟨(T.set (T.set .leaf 2 v0) 3 (.int .i64 (.ofNat 3))), H7⟩ [(.cell 2 (some 12)), (.t 3)]) fun v => q v H7 τ8)
    (effK (eAlloc [(.str []), (.str []), (.str []), (.str []), (.bool false), (.int .i64 (.ofNat 0)), (.bool false), .nils, (.str []), (.str []), (.bool false), (.bool false)] [] H1 τ2) fun v9 H10 τ11 => call f_ref3_clean [a0] H10 τ11 fun v12 H13 τ14 => call f_ref3_split [v9, v12] H13 τ14 fun v15 H16 τ17 => call f_ref3_scheme [v15] H16 τ17 fun v18 H19 τ20 => someK (pExtract 0 [v18]) fun v21 => someK (pExtract 1 [v18]) fun v22 => someK (pExtract 2 [v18]) fun v23 => unK .not v23 fun v24 => condK v24 (someK (pBuild [(.str []), (.str []), (.str []), (.str []), (.bool false), (.int .i64 (.ofNat 0)), (.bool false), .nils, (.str []), (.str []), (.bool false), (.bool false)] [] []) fun v25 => effK (eStore 12 [v0, v25] H19 τ20) fun v26 H27 τ28 => someK (results ⟨(T.set (T.set .leaf 2 v0) 3 (.int .i64 (.ofNat 12))), H27⟩ [(.cell 2 (some 12)), (.t 3)]) fun v => q v H27 τ28)
    (someK (pFieldAddr 0 [v9]) fun v29 => effK (eStore 1 [v29, v21] H19 τ20) fun v30 H31 τ32 => call f_ref3_full [v9, v22] H31 τ32 fun v33 H34 τ35 => binK .neq v33 (.int .i64 (.ofNat 0)) fun v36 => condK v36 (someK (pBuild [(.str []), (.str []), (.str []), (.str []), (.bool false), (.int .i64 (.ofNat 0)), (.bool false), .nils, (.str []), (.str []), (.bool false), (.bool false)] [] []) fun v37 => effK (eStore 12 [v0, v37] H34 τ35) fun v38 H39 τ40 => someK (results ⟨(T.set (T.set .leaf 2 v0) 3 v33), H39⟩ [(.cell 2 (some 12)), (.t 3)]) fun v => q v H39 τ40) (someK (lLoadN 12 [v9] H34) fun v41 => effK (eStore 12 [v0, v41] H34 τ35) fun v42 H43 τ44 => someK (results ⟨(T.set (T.set .leaf 2 v0) 3 (.int .i64 (.ofNat 0))), H43⟩ [(.cell 2 (some 12)), (.t 3)]) fun v => q v H43 τ44)))
theorem s_ref3_Parse_eq (call : CallK) (N : Nat) (a0 : V) (H : Heap) (τ : Tape) (q : KV) : s_ref3_Parse call N a0 H τ q = funK call N fn_ref3_Parse [a0] H τ q := by kernel_rfl
def e_ref3_Parse (call : CallK) (N : Nat) (vs : List V) (H : Heap) (τ : Tape) (q : KV) : Ans := match vs with | [a0] => s_ref3_Parse call N a0 H τ q | _ => none
theorem e_ref3_Parse_ok : EntOk fn_ref3_Parse e_ref3_Parse := by
  intro call N vs H τ q r h
  unfold e_ref3_Parse at h
  split at h
  · rw [s_ref3_Parse_eq] at h; exact h
  · cases h
theorem e_ref3_Parse_nat : EntNat e_ref3_Parse := by
  intro c hn N vs H τ q
  unfold e_ref3_Parse
  split
  · rw [s_ref3_Parse_eq, s_ref3_Parse_eq]; exact funK_ent hn _ _ _ _ _ _
  · rfl
/-- ostiary/ostiarykeep.Few -/
def fn_keep_Few : Fun := ⟨2, (.seq (.reg [iR 4 (.p .mv) [(.c (.str []))]]) (.keep [0, 1] (.seq (.seq (.reg [iR 5 (.p .mv) [(.t 0)], iR 6 (.p .lenS) [(.t 5)], iR 7 (.p .mv) [(.t 1)], iR 8 (.p (.bin .gtr)) [(.t 6), (.t 7)]]) (.keep [0, 1, 8] (.cond (.t 8) (.seq (.reg [iR 9 (.p .mv) [(.t 0)], iR 10 (.p .mv) [(.t 1)], iR 11 (.p (.strSlice false true)) [(.t 9), (.t 10)], iR 4 (.p .mv) [(.t 11)]]) (.keep [4] (.keep [4] .ret))) .skip))) (.keep [0] (.seq (.reg [iR 12 (.p .mv) [(.t 0)], iR 4 (.p .mv) [(.t 12)]]) (.keep [4] (.keep [4] .ret))))))), [(.t 4)]⟩
def s_keep_Few (call : CallK) (N : Nat) (a0 a1 : V) (H : Heap) (τ : Tape) (q : KV) : Ans := someK (pLenS [a0]) fun v0 => binK .gtr v0 a1 fun v1 => condK v1 (someK (pStrSlice false true [a0, a1]) fun v2 => q v2 H τ) (q a0 H τ)
theorem s_keep_Few_eq (call : CallK) (N : Nat) (a0 a1 : V) (H : Heap) (τ : Tape) (q : KV) : s_keep_Few call N a0 a1 H τ q = funK call N fn_keep_Few [a0, a1] H τ q := by kernel_rfl
def e_keep_Few (call : CallK) (N : Nat) (vs : List V) (H : Heap) (τ : Tape) (q : KV) : Ans := match vs with | [a0, a1] => s_keep_Few call N a0 a1 H τ q | _ => none
theorem e_keep_Few_ok : EntOk fn_keep_Few e_keep_Few := by
  intro call N vs H τ q r h
  unfold e_keep_Few at h
  split at h
  · rw [s_keep_Few_eq] at h; exact h
  · cases h
theorem e_keep_Few_nat : EntNat e_keep_Few := by
  intro c hn N vs H τ q
  unfold e_keep_Few
  split
  · rw [s_keep_Few_eq, s_keep_Few_eq]; exact funK_ent hn _ _ _ _ _ _
  · rfl
/-- ostiary/ostiaryref3.Special -/
def fn_ref3_Special : Fun := ⟨1, (.seq (.reg [iR 2 (.p .mv) [(.c (.bool false))]]) (.keep [0] (.seq (.reg [iR 3 (.p .mv) [(.t 0)], iR 4 (.call 185) [(.t 3)], iR 5 (.p (.bin .geq)) [(.t 4), (.c (.int .i64 (.ofNat 0)))], iR 2 (.p .mv) [(.t 5)]]) (.keep [2] (.keep [2] .ret))))), [(.t 2)]⟩
def s_ref3_Special (call : CallK) (N : Nat) (a0 : V) (H : Heap) (τ : Tape) (q : KV) : Ans := call f_ref3_Own [a0] H τ fun v0 H1 τ2 => binK .geq v0 (.int .i64 (.ofNat 0)) fun v3 => q v3 H1 τ2
theorem s_ref3_Special_eq (call : CallK) (N : Nat) (a0 : V) (H : Heap) (τ : Tape) (q : KV) : s_ref3_Special call N a0 H τ q = funK call N fn_ref3_Special [a0] H τ q := by kernel_rfl
def e_ref3_Special (call : CallK) (N : Nat) (vs : List V) (H : Heap) (τ : Tape) (q : KV) : Ans := match vs with | [a0] => s_ref3_Special call N a0 H τ q | _ => none
theorem e_ref3_Special_ok : EntOk fn_ref3_Special e_ref3_Special := by
  intro call N vs H τ q r h
  unfold e_ref3_Special at h
  split at h
  · rw [s_ref3_Special_eq] at h; exact h
  · cases h
theorem e_ref3_Special_nat : EntNat e_ref3_Special := by
  intro c hn N vs H τ q
  unfold e_ref3_Special
  split
  · rw [s_ref3_Special_eq, s_ref3_Special_eq]; exact funK_ent hn _ _ _ _ _ _
  · rfl
/-- ostiary/ostiaryref4.Port -/
def fn_ref4_Port : Fun := ⟨1, (.seq (.reg [iR 1 (.e .box) [(.t 0)], iR 2 (.p .mv) [(.c (.int .i64 (.ofNat 0)))]]) (.keep [1] (.seq (.seq (.reg [iR 3 (.p (.fieldAddr 5)) [(.t 1)], iR 4 (.l (.load none)) [(.t 3)], iR 5 (.p (.bin .eql)) [(.t 4), (.c (.int .i64 (.negSucc 0)))]]) (.keep [1, 5] (.cond (.t 5) (.seq (.reg [iR 6 (.p (.fieldAddr 0)) [(.t 1)], iR 7 (.l (.load none)) [(.t 6)], iR 8 (.call 185) [(.t 7)], iR 2 (.p .mv) [(.t 8)]]) (.keep [2] (.keep [2] .ret))) .skip))) (.keep [1] (.seq (.reg [iR 9 (.p (.fieldAddr 5)) [(.t 1)], iR 10 (.l (.load none)) [(.t 9)], iR 2 (.p .mv) [(.t 10)]]) (.keep [2] (.keep [2] .ret))))))), [(.t 2)]⟩
def s_ref4_Port (call : CallK) (N : Nat) (a0 : V) (H : Heap) (τ : Tape) (q : KV) : Ans := effK (eBox [a0] H τ) fun v0 H1 τ2 => someK (pFieldAddr 5 [v0]) fun v3 => someK (lLoad1 [v3] H1) fun v4 => binK .eql v4 (.int .i64 (.negSucc 0)) fun v5 => condK v5 (someK (pFieldAddr 0 [v0]) fun v6 => someK (lLoad1 [v6] H1) fun v7 => call f_ref3_Own [v7] H1 τ2 fun v8 H9 τ10 => q v8 H9 τ10) (someK (pFieldAddr 5 [v0]) fun v11 => someK (lLoad1 [v11] H1) fun v12 => q v12 H1 τ2)
theorem s_ref4_Port_eq (call : CallK) (N : Nat) (a0 : V) (H : Heap) (τ : Tape) (q : KV) : s_ref4_Port call N a0 H τ q = funK call N fn_ref4_Port [a0] H τ q := by kernel_rfl
def e_ref4_Port (call : CallK) (N : Nat) (vs : List V) (H : Heap) (τ : Tape) (q : KV) : Ans := match vs with | [a0] => s_ref4_Port call N a0 H τ q | _ => none
theorem e_ref4_Port_ok : EntOk fn_ref4_Port e_ref4_Port := by
  intro call N vs H τ q r h
  unfold e_ref4_Port at h
  split at h
  · rw [s_ref4_Port_eq] at h; exact h
  · cases h
theorem e_ref4_Port_nat : EntNat e_ref4_Port := by
  intro c hn N vs H τ q
  unfold e_ref4_Port
  split
  · rw [s_ref4_Port_eq, s_ref4_Port_eq]; exact funK_ent hn _ _ _ _ _ _
  · rfl
/-- internal/stringslite.Cut -/
def fn_stringslite_Cut : Fun := ⟨2, (.seq (.reg [iR 4 (.p .mv) [(.c (.str []))], iR 5 (.p .mv) [(.c (.str []))], iR 6 (.p .mv) [(.c (.bool false))]]) (.keep [0, 1] (.seq (.seq (.reg [iR 8 (.p .mv) [(.t 0)], iR 9 (.p .mv) [(.t 1)], iR 10 (.call 186) [(.t 8), (.t 9)], iR 7 (.p .mv) [(.t 10)]]) (.keep [0, 1, 7] (.seq (.reg [iR 11 (.p .mv) [(.t 7)], iR 12 (.p (.bin .geq)) [(.t 11), (.c (.int .i64 (.ofNat 0)))]]) (.keep [0, 1, 7, 12] (.cond (.t 12) (.seq (.draw [iR 13 (.p .mv) [(.t 0)], iR 14 (.p .mv) [(.t 7)], iR 15 (.p (.strSlice false true)) [(.t 13), (.t 14)], iR 16 (.p .mv) [(.t 0)], iR 17 (.p .mv) [(.t 7)], iR 18 (.p .mv) [(.t 1)], iR 19 (.p .lenS) [(.t 18)], iR 20 (.p (.bin .add)) [(.t 17), (.t 19)], iR 21 (.p (.strSlice true false)) [(.t 16), (.t 20)], iR 4 (.p .mv) [(.t 15)], iR 5 (.p .mv) [(.t 21)], iR 6 (.p .mv) [(.c (.bool true))]]) (.keep [4, 5, 6] (.keep [4, 5, 6] .ret)))
    .skip))))) (.keep [0] (.seq (.reg [iR 22 (.p .mv) [(.t 0)], iR 4 (.p .mv) [(.t 22)], iR 5 (.p .mv) [(.c (.str []))], iR 6 (.p .mv) [(.c (.bool false))]]) (.keep [4, 5, 6] (.keep [4, 5, 6] .ret))))))), [(.t 4), (.t 5), (.t 6)]⟩
def s_stringslite_Cut (call : CallK) (N : Nat) (a0 a1 : V) (H : Heap) (τ : Tape) (q : KV) : Ans := call f_stringslite_Index [a0, a1] H τ fun v0 H1 τ2 => binK .geq v0 (.int .i64 (.ofNat 0)) fun v3 => condK v3 (someK (pStrSlice false true [a0, v0]) fun v4 => someK (pLenS [a1]) fun v5 => binK .add v0 v5 fun v6 => someK (pStrSlice true false [a0, v6]) fun v7 => q (.tup [v4, v7, (.bool true)]) H1 τ2) (q (.tup [a0, (.str []), (.bool false)]) H1 τ2)
theorem s_stringslite_Cut_eq (call : CallK) (N : Nat) (a0 a1 : V) (H : Heap) (τ : Tape) (q : KV) : s_stringslite_Cut call N a0 a1 H τ q = funK call N fn_stringslite_Cut [a0, a1] H τ q := by kernel_rfl
def e_stringslite_Cut (call : CallK) (N : Nat) (vs : List V) (H : Heap) (τ : Tape) (q : KV) : Ans := match vs with | [a0, a1] => s_stringslite_Cut call N a0 a1 H τ q | _ => none
theorem e_stringslite_Cut_ok : EntOk fn_stringslite_Cut e_stringslite_Cut := by
  intro call N vs H τ q r h
  unfold e_stringslite_Cut at h
  split at h
  · rw [s_stringslite_Cut_eq] at h; exact h
  · cases h
theorem e_stringslite_Cut_nat : EntNat e_stringslite_Cut := by
  intro c hn N vs H τ q
  unfold e_stringslite_Cut
  split
  · rw [s_stringslite_Cut_eq, s_stringslite_Cut_eq]; exact funK_ent hn _ _ _ _ _ _
  · rfl
/-- strings.CutPrefix -/
def fn_strings_CutPrefix : Fun := ⟨2, (.seq (.reg [iR 4 (.p .mv) [(.c (.str []))], iR 5 (.p .mv) [(.c (.bool false))]]) (.keep [0, 1] (.seq (.reg [iR 6 (.p .mv) [(.t 0)], iR 7 (.p .mv) [(.t 1)], iR 8 (.call 187) [(.t 6), (.t 7)], iR 9 (.p (.extract 0)) [(.t 8)], iR 10 (.p (.extract 1)) [(.t 8)], iR 4 (.p .mv) [(.t 9)], iR 5 (.p .mv) [(.t 10)]]) (.keep [4, 5] (.keep [4, 5] .ret))))), [(.t 4), (.t 5)]⟩
def s_strings_CutPrefix (call : CallK) (N : Nat) (a0 a1 : V) (H : Heap) (τ : Tape) (q : KV) : Ans := call f_stringslite_CutPrefix [a0, a1] H τ fun v0 H1 τ2 => someK (pExtract 0 [v0]) fun v3 => someK (pExtract 1 [v0]) fun v4 => q (.tup [v3, v4]) H1 τ2
theorem s_strings_CutPrefix_eq (call : CallK) (N : Nat) (a0 a1 : V) (H : Heap) (τ : Tape) (q : KV) : s_strings_CutPrefix call N a0 a1 H τ q = funK call N fn_strings_CutPrefix [a0, a1] H τ q := by kernel_rfl
def e_strings_CutPrefix (call : CallK) (N : Nat) (vs : List V) (H : Heap) (τ : Tape) (q : KV) : Ans := match vs with | [a0, a1] => s_strings_CutPrefix call N a0 a1 H τ q | _ => none
theorem e_strings_CutPrefix_ok : EntOk fn_strings_CutPrefix e_strings_CutPrefix := by
  intro call N vs H τ q r h
  unfold e_strings_CutPrefix at h
  split at h
  · rw [s_strings_CutPrefix_eq] at h; exact h
  · cases h
theorem e_strings_CutPrefix_nat : EntNat e_strings_CutPrefix := by
  intro c hn N vs H τ q
  unfold e_strings_CutPrefix
  split
  · rw [s_strings_CutPrefix_eq, s_strings_CutPrefix_eq]; exact funK_ent hn _ _ _ _ _ _
  · rfl
/-- ostiary/headers.told -/
def fn_headers_told : Fun := ⟨1, (.seq (.reg [iR 2 (.p .mv) [(.c (.int .i64 (.ofNat 0)))], iR 3 (.p .mv) [(.c (.bool false))]]) (.keep [0] (.seq (.seq (.reg [iR 4 (.p .mv) [(.t 0)], iR 5 (.p (.bin .eql)) [(.t 4), (.c (.str []))]]) (.keep [0, 5] (.cond (.t 5) (.seq (.reg [iR 2 (.p .mv) [(.c (.int .i64 (.negSucc 0)))], iR 3 (.p .mv) [(.c (.bool true))]]) (.keep [2, 3] (.keep [2, 3] .ret))) .skip))) (.keep [0] (.seq (.reg [iR 6 (.p .mv) [(.t 0)], iR 7 (.call 91) [(.t 6)], iR 8 (.p (.extract 0)) [(.t 7)], iR 9 (.p (.extract 1)) [(.t 7)], iR 2 (.p .mv) [(.t 8)], iR 3 (.p .mv) [(.t 9)]]) (.keep [2, 3] (.keep [2, 3] .ret))))))), [(.t 2), (.t 3)]⟩
def s_headers_told (call : CallK) (N : Nat) (a0 : V) (H : Heap) (τ : Tape) (q : KV) : Ans := binK .eql a0 (.str []) fun v0 => condK v0 (q (.tup [(.int .i64 (.negSucc 0)), (.bool true)]) H τ) (call f_infra_Int [a0] H τ fun v1 H2 τ3 => someK (pExtract 0 [v1]) fun v4 => someK (pExtract 1 [v1]) fun v5 => q (.tup [v4, v5]) H2 τ3)
theorem s_headers_told_eq (call : CallK) (N : Nat) (a0 : V) (H : Heap) (τ : Tape) (q : KV) : s_headers_told call N a0 H τ q = funK call N fn_headers_told [a0] H τ q := by kernel_rfl
def e_headers_told (call : CallK) (N : Nat) (vs : List V) (H : Heap) (τ : Tape) (q : KV) : Ans := match vs with | [a0] => s_headers_told call N a0 H τ q | _ => none
theorem e_headers_told_ok : EntOk fn_headers_told e_headers_told := by
  intro call N vs H τ q r h
  unfold e_headers_told at h
  split at h
  · rw [s_headers_told_eq] at h; exact h
  · cases h
theorem e_headers_told_nat : EntNat e_headers_told := by
  intro c hn N vs H τ q
  unfold e_headers_told
  split
  · rw [s_headers_told_eq, s_headers_told_eq]; exact funK_ent hn _ _ _ _ _ _
  · rfl
/-- strings.IndexByte -/
def fn_strings_IndexByte : Fun := ⟨2, (.seq (.reg [iR 4 (.p .mv) [(.c (.int .i64 (.ofNat 0)))]]) (.keep [0, 1] (.seq (.reg [iR 5 (.p .mv) [(.t 0)], iR 6 (.p .mv) [(.t 1)], iR 7 (.call 195) [(.t 5), (.t 6)], iR 4 (.p .mv) [(.t 7)]]) (.keep [4] (.keep [4] .ret))))), [(.t 4)]⟩
def s_strings_IndexByte (call : CallK) (N : Nat) (a0 a1 : V) (H : Heap) (τ : Tape) (q : KV) : Ans := call f_stringslite_IndexByte [a0, a1] H τ fun v0 H1 τ2 => q v0 H1 τ2
theorem s_strings_IndexByte_eq (call : CallK) (N : Nat) (a0 a1 : V) (H : Heap) (τ : Tape) (q : KV) : s_strings_IndexByte call N a0 a1 H τ q = funK call N fn_strings_IndexByte [a0, a1] H τ q := by kernel_rfl
def e_strings_IndexByte (call : CallK) (N : Nat) (vs : List V) (H : Heap) (τ : Tape) (q : KV) : Ans := match vs with | [a0, a1] => s_strings_IndexByte call N a0 a1 H τ q | _ => none
theorem e_strings_IndexByte_ok : EntOk fn_strings_IndexByte e_strings_IndexByte := by
  intro call N vs H τ q r h
  unfold e_strings_IndexByte at h
  split at h
  · rw [s_strings_IndexByte_eq] at h; exact h
  · cases h
theorem e_strings_IndexByte_nat : EntNat e_strings_IndexByte := by
  intro c hn N vs H τ q
  unfold e_strings_IndexByte
  split
  · rw [s_strings_IndexByte_eq, s_strings_IndexByte_eq]; exact funK_ent hn _ _ _ _ _ _
  · rfl
/-- internal/strconv.small -/
def fn_strconv_small : Fun := ⟨1, (.seq (.reg [iR 2 (.p .mv) [(.c (.str []))]]) (.keep [0] (.seq (.seq (.reg [iR 3 (.p .mv) [(.t 0)], iR 4 (.p (.bin .lss)) [(.t 3), (.c (.int .i64 (.ofNat 10)))]]) (.keep [0, 4] (.cond (.t 4) (.seq (.reg [iR 5 (.p .mv) [(.t 0)], iR 6 (.p .mv) [(.t 0)], iR 7 (.p (.bin .add)) [(.t 6), (.c (.int .i64 (.ofNat 1)))], iR 8 (.p (.strSlice true true)) [(.c (.str (bs [48, 49, 50, 51, 52, 53, 54, 55, 56, 57, 97, 98, 99, 100, 101, 102, 103, 104, 105, 106, 107, 108, 109, 110, 111, 112, 113, 114, 115, 116, 117, 118, 119, 120, 121, 122]))), (.t 5), (.t 7)], iR 2 (.p .mv) [(.t 8)]]) (.keep [2] (.keep [2] .ret))) .skip))) (.keep [0] (.seq (.reg [iR 9 (.p .mv) [(.t 0)], iR 10 (.p (.bin .mul)) [(.t 9), (.c (.int .i64 (.ofNat 2)))], iR 11 (.p .mv) [(.t 0)], iR 12 (.p (.bin .mul)) [(.t 11), (.c (.int .i64 (.ofNat 2)))],
    iR 13 (.p (.bin .add)) [(.t 12), (.c (.int .i64 (.ofNat 2)))],
    iR 14 (.p (.strSlice true true)) [(.c (.str (bs [48, 48, 48, 49, 48, 50, 48, 51, 48, 52, 48, 53, 48, 54, 48, 55, 48, 56, 48, 57, 49, 48, 49, 49, 49, 50, 49, 51, 49, 52, 49, 53, 49, 54, 49, 55, 49, 56, 49, 57, 50, 48, 50, 49, 50, 50, 50, 51, 50, 52, 50, 53, 50, 54, 50, 55, 50, 56, 50, 57, 51, 48, 51, 49, 51, 50, 51, 51, 51, 52, 51, 53, 51, 54, 51, 55, 51, 56, 51, 57, 52, 48, 52, 49, 52, 50, 52, 51, 52, 52, 52, 53, 52, 54, 52, 55, 52, 56, 52, 57, 53, 48, 53, 49, 53, 50, 53, 51, 53, 52, 53, 53, 53, 54, 53, 55, 53, 56, 53, 57, 54, 48, 54, 49, 54, 50, 54, 51, 54, 52, 54, 53, 54, 54, 54, 55, 54, 56, 54, 57, 55, 48, 55, 49, 55, 50, 55, 51, 55, 52, 55, 53, 55, 54, 55, 55, 55, 56, 55, 57, 56, 48, 56, 49, 56, 50, 56, 51, 56, 52, 56, 53, 56, 54, 56, 55, 56, 56, 56, 57, 57, 48, 57, 49, 57, 50, 57, 51, 57, 52, 57, 53, 57, 54, 57, 55, 57, 56, 57, 57]))), (.t 10), (.t 13)],
    iR 2 (.p .mv) [(.t 14)]]) (.keep [2] (.keep [2] .ret))))))), [(.t 2)]⟩
def s_strconv_small (call : CallK) (N : Nat) (a0 : V) (H : Heap) (τ : Tape) (q : KV) : Ans := binK .lss a0 (.int .i64 (.ofNat 10)) fun v0 => condK v0 (binK .add a0 (.int .i64 (.ofNat 1)) fun v1 => someK (pStrSlice true true [(.str (bs [48, 49, 50, 51, 52, 53, 54, 55, 56, 57, 97, 98, 99, 100, 101, 102, 103, 104, 105, 106, 107, 108, 109, 110, 111, 112, 113, 114, 115, 116, 117, 118, 119, 120, 121, 122])), a0, v1]) fun v2 => q v2 H τ) (binK .mul a0 (.int .i64 (.ofNat 2)) fun v3 => binK .mul a0 (.int .i64 (.ofNat 2)) fun v4 => binK .add v4 (.int .i64 (.ofNat 2)) fun v5 =>
    someK (pStrSlice true true [(.str (bs [48, 48, 48, 49, 48, 50, 48, 51, 48, 52, 48, 53, 48, 54, 48, 55, 48, 56, 48, 57, 49, 48, 49, 49, 49, 50, 49, 51, 49, 52, 49, 53, 49, 54, 49, 55, 49, 56, 49, 57, 50, 48, 50, 49, 50, 50, 50, 51, 50, 52, 50, 53, 50, 54, 50, 55, 50, 56, 50, 57, 51, 48, 51, 49, 51, 50, 51, 51, 51, 52, 51, 53, 51, 54, 51, 55, 51, 56, 51, 57, 52, 48, 52, 49, 52, 50, 52, 51, 52, 52, 52, 53, 52, 54, 52, 55, 52, 56, 52, 57, 53, 48, 53, 49, 53, 50, 53, 51, 53, 52, 53, 53, 53, 54, 53, 55, 53, 56, 53, 57, 54, 48, 54, 49, 54, 50, 54, 51, 54, 52, 54, 53, 54, 54, 54, 55, 54, 56, 54, 57, 55, 48, 55, 49, 55, 50, 55, 51, 55, 52, 55, 53, 55, 54, 55, 55, 55, 56, 55, 57, 56, 48, 56, 49, 56, 50, 56, 51, 56, 52, 56, 53, 56, 54, 56, 55, 56, 56, 56, 57, 57, 48, 57, 49, 57, 50, 57, 51, 57, 52, 57, 53, 57, 54, 57, 55, 57, 56, 57, 57])), v3, v5]) fun v6 => q v6 H τ)
theorem s_strconv_small_eq (call : CallK) (N : Nat) (a0 : V) (H : Heap) (τ : Tape) (q : KV) : s_strconv_small call N a0 H τ q = funK call N fn_strconv_small [a0] H τ q := by kernel_rfl
def e_strconv_small (call : CallK) (N : Nat) (vs : List V) (H : Heap) (τ : Tape) (q : KV) : Ans := match vs with | [a0] => s_strconv_small call N a0 H τ q | _ => none
theorem e_strconv_small_ok : EntOk fn_strconv_small e_strconv_small := by
  intro call N vs H τ q r h
  unfold e_strconv_small at h
  split at h
  · rw [s_strconv_small_eq] at h; exact h
  · cases h
theorem e_strconv_small_nat : EntNat e_strconv_small := by
  intro c hn N vs H τ q
  unfold e_strconv_small
  split
  · rw [s_strconv_small_eq, s_strconv_small_eq]; exact funK_ent hn _ _ _ _ _ _
  · rfl
/-- internal/strconv.numDigits -/
def fn_strconv_numDigits : Fun := ⟨1, (.seq (.reg [iR 2 (.p .mv) [(.c (.int .i64 (.ofNat 0)))]]) (.keep [0] (.seq (.reg [iR 4 (.p .mv) [(.t 0)], iR 5 (.call 220) [(.t 4)], iR 6 (.call 221) [(.t 5)], iR 3 (.p .mv) [(.t 6)]]) (.keep [0, 3] (.seq (.reg [iR 7 (.p .mv) [(.t 3)], iR 8 (.p .mv) [(.t 0)], iR 9 (.p .mv) [(.t 3)], iR 10 (.p (.arrIdx 20 1)) [(.c (.ptr 0 0)), (.t 9)], iR 11 (.l (.load none)) [(.t 10)], iR 12 (.p (.bin .geq)) [(.t 8), (.t 11)], iR 13 (.call 222) [(.t 12)], iR 14 (.p (.bin .add)) [(.t 7), (.t 13)], iR 2 (.p .mv) [(.t 14)]]) (.keep [2] (.keep [2] .ret))))))), [(.t 2)]⟩
def s_strconv_numDigits (call : CallK) (N : Nat) (a0 : V) (H : Heap) (τ : Tape) (q : KV) : Ans := call f_bits_Len64 [a0] H τ fun v0 H1 τ2 => call f_strconv_log10Pow2 [v0] H1 τ2 fun v3 H4 τ5 => someK (pArrIdx 20 1 [(.ptr 0 0), v3]) fun v6 => someK (lLoad1 [v6] H4) fun v7 => binK .geq a0 v7 fun v8 => call f_strconv_bool2_int [v8] H4 τ5 fun v9 H10 τ11 => binK .add v3 v9 fun v12 => q v12 H10 τ11
theorem s_strconv_numDigits_eq (call : CallK) (N : Nat) (a0 : V) (H : Heap) (τ : Tape) (q : KV) : s_strconv_numDigits call N a0 H τ q = funK call N fn_strconv_numDigits [a0] H τ q := by kernel_rfl
def e_strconv_numDigits (call : CallK) (N : Nat) (vs : List V) (H : Heap) (τ : Tape) (q : KV) : Ans := match vs with | [a0] => s_strconv_numDigits call N a0 H τ q | _ => none
theorem e_strconv_numDigits_ok : EntOk fn_strconv_numDigits e_strconv_numDigits := by
  intro call N vs H τ q r h
  unfold e_strconv_numDigits at h
  split at h
  · rw [s_strconv_numDigits_eq] at h; exact h
  · cases h
theorem e_strconv_numDigits_nat : EntNat e_strconv_numDigits := by
  intro c hn N vs H τ q
  unfold e_strconv_numDigits
  split
  · rw [s_strconv_numDigits_eq, s_strconv_numDigits_eq]; exact funK_ent hn _ _ _ _ _ _
  · rfl
/-- internal/strconv.formatBase10 -/
def fn_strconv_formatBase10 : Fun := ⟨2, (.seq (.reg [iR 17 (.p .mv) [(.t 0)], iR 18 (.p .len) [(.t 17)], iR 4 (.p .mv) [(.t 18)]]) (.keep [0, 1, 4] (.seq (.block 0 (.loop (.keep [0, 1, 4] (.seq (.seq (.reg [iR 19 (.p .mv) [(.t 4)], iR 20 (.p (.bin .geq)) [(.t 19), (.c (.int .i64 (.ofNat 8)))]]) (.keep [0, 1, 4, 20] (.cond (.t 20) .skip (.keep [0, 1, 4] (.exit 0))))) (.keep [0, 1, 4] (.block 1 (.seq (.reg [iR 21 (.p .mv) [(.t 1)], iR 22 (.p (.bin .rem)) [(.t 21), (.c (.int .u64 (.ofNat 100000000)))], iR 23 (.p (.toInt .u32)) [(.t 22)], iR 5 (.p .mv) [(.t 23)]]) (.keep [0, 1, 4, 5] (.seq (.reg [iR 24 (.p .mv) [(.t 1)], iR 25 (.p (.bin .quo)) [(.t 24), (.c (.int .u64 (.ofNat 100000000)))], iR 1 (.p .mv) [(.t 25)]]) (.keep [0, 1, 4, 5] (.seq (.reg [iR 26 (.p .mv) [(.t 5)], iR 27 (.p (.bin .quo)) [(.t 26), (.c (.int .u32 (.ofNat 10000)))], iR 28 (.p .mv) [(.t 5)],
    iR 29 (.p (.bin .rem)) [(.t 28), (.c (.int .u32 (.ofNat 10000)))], iR 6 (.p .mv) [(.t 27)], iR 7 (.p .mv) [(.t 29)]]) (.keep [0, 1, 4, 6, 7] (.seq (.reg [iR 30 (.p .mv) [(.t 7)], iR 31 (.p (.bin .quo)) [(.t 30), (.c (.int .u32 (.ofNat 100)))], iR 32 (.p (.bin .mul)) [(.t 31), (.c (.int .u32 (.ofNat 2)))], iR 33 (.p .mv) [(.t 7)], iR 34 (.p (.bin .rem)) [(.t 33), (.c (.int .u32 (.ofNat 100)))], iR 35 (.p (.bin .mul)) [(.t 34), (.c (.int .u32 (.ofNat 2)))], iR 8 (.p .mv) [(.t 32)], iR 9 (.p .mv) [(.t 35)]]) (.keep [0, 1, 4, 6, 8, 9] (.seq (.reg [iR 36 (.p .mv) [(.t 6)], iR 37 (.p (.bin .quo)) [(.t 36), (.c (.int .u32 (.ofNat 100)))], iR 38 (.p (.bin .mul)) [(.t 37), (.c (.int .u32 (.ofNat 2)))], iR 39 (.p .mv) [(.t 6)], iR 40 (.p (.bin .rem)) [(.t 39), (.c (.int .u32 (.ofNat 100)))], iR 41 (.p (.bin .mul)) [(.t 40), (.c (.int .u32 (.ofNat 2)))], iR 10 (.p .mv) [(.t 38)],
    iR 11 (.p .mv) [(.t 41)]]) (.keep [0, 1, 4, 8, 9, 10, 11] (.seq (.draw [iR 42 (.p .mv) [(.t 0)], iR 43 (.p .mv) [(.t 4)], iR 44 (.p (.bin .sub)) [(.t 43), (.c (.int .i64 (.ofNat 1)))], iR 45 (.p .mv) [(.t 0)], iR 46 (.p .mv) [(.t 4)], iR 47 (.p (.bin .sub)) [(.t 46), (.c (.int .i64 (.ofNat 2)))], iR 48 (.p .mv) [(.t 9)], iR 49 (.p (.bin .add)) [(.t 48), (.c (.int .u32 (.ofNat 1)))],
    iR 50 (.p .strIndex) [(.c (.str (bs [48, 48, 48, 49, 48, 50, 48, 51, 48, 52, 48, 53, 48, 54, 48, 55, 48, 56, 48, 57, 49, 48, 49, 49, 49, 50, 49, 51, 49, 52, 49, 53, 49, 54, 49, 55, 49, 56, 49, 57, 50, 48, 50, 49, 50, 50, 50, 51, 50, 52, 50, 53, 50, 54, 50, 55, 50, 56, 50, 57, 51, 48, 51, 49, 51, 50, 51, 51, 51, 52, 51, 53, 51, 54, 51, 55, 51, 56, 51, 57, 52, 48, 52, 49, 52, 50, 52, 51, 52, 52, 52, 53, 52, 54, 52, 55, 52, 56, 52, 57, 53, 48, 53, 49, 53, 50, 53, 51, 53, 52, 53, 53, 53, 54, 53, 55, 53, 56, 53, 57, 54, 48, 54, 49, 54, 50, 54, 51, 54, 52, 54, 53, 54, 54, 54, 55, 54, 56, 54, 57, 55, 48, 55, 49, 55, 50, 55, 51, 55, 52, 55, 53, 55, 54, 55, 55, 55, 56, 55, 57, 56, 48, 56, 49, 56, 50, 56, 51, 56, 52, 56, 53, 56, 54, 56, 55, 56, 56, 56, 57, 57, 48, 57, 49, 57, 50, 57, 51, 57, 52, 57, 53, 57, 54, 57, 55, 57, 56, 57, 57]))), (.t 49)], iR 51 (.p .mv) [(.t 9)],
    iR 52 (.p .strIndex) [(.c (.str (bs [48, 48, 48, 49, 48, 50, 48, 51, 48, 52, 48, 53, 48, 54, 48, 55, 48, 56, 48, 57, 49, 48, 49, 49, 49, 50, 49, 51, 49, 52, 49, 53, 49, 54, 49, 55, 49, 56, 49, 57, 50, 48, 50, 49, 50, 50, 50, 51, 50, 52, 50, 53, 50, 54, 50, 55, 50, 56, 50, 57, 51, 48, 51, 49, 51, 50, 51, 51, 51, 52, 51, 53, 51, 54, 51, 55, 51, 56, 51, 57, 52, 48, 52, 49, 52, 50, 52, 51, 52, 52, 52, 53, 52, 54, 52, 55, 52, 56, 52, 57, 53, 48, 53, 49, 53, 50, 53, 51, 53, 52, 53, 53, 53, 54, 53, 55, 53, 56, 53, 57, 54, 48, 54, 49, 54, 50, 54, 51, 54, 52, 54, 53, 54, 54, 54, 55, 54, 56, 54, 57, 55, 48, 55, 49, 55, 50, 55, 51, 55, 52, 55, 53, 55, 54, 55, 55, 55, 56, 55, 57, 56, 48, 56, 49, 56, 50, 56, 51, 56, 52, 56, 53, 56, 54, 56, 55, 56, 56, 56, 57, 57, 48, 57, 49, 57, 50, 57, 51, 57, 52, 57, 53, 57, 54, 57, 55, 57, 56, 57, 57]))), (.t 51)],
    iR 53 (.p (.slIdx 1)) [(.t 42), (.t 44)], ⟨none, none, (.e (.store 1)), [(.t 53), (.t 50)], none⟩, iR 54 (.p (.slIdx 1)) [(.t 45), (.t 47)], ⟨none, none, (.e (.store 1)), [(.t 54), (.t 52)], none⟩]) (.keep [0, 1, 4, 8, 10, 11] (.seq (.draw [iR 55 (.p .mv) [(.t 0)], iR 56 (.p .mv) [(.t 4)], iR 57 (.p (.bin .sub)) [(.t 56), (.c (.int .i64 (.ofNat 3)))], iR 58 (.p .mv) [(.t 0)], iR 59 (.p .mv) [(.t 4)], iR 60 (.p (.bin .sub)) [(.t 59), (.c (.int .i64 (.ofNat 4)))], iR 61 (.p .mv) [(.t 8)], iR 62 (.p (.bin .add)) [(.t 61), (.c (.int .u32 (.ofNat 1)))],
    iR 63 (.p .strIndex) [(.c (.str (bs [48, 48, 48, 49, 48, 50, 48, 51, 48, 52, 48, 53, 48, 54, 48, 55, 48, 56, 48, 57, 49, 48, 49, 49, 49, 50, 49, 51, 49, 52, 49, 53, 49, 54, 49, 55, 49, 56, 49, 57, 50, 48, 50, 49, 50, 50, 50, 51, 50, 52, 50, 53, 50, 54, 50, 55, 50, 56, 50, 57, 51, 48, 51, 49, 51, 50, 51, 51, 51, 52, 51, 53, 51, 54, 51, 55, 51, 56, 51, 57, 52, 48, 52, 49, 52, 50, 52, 51, 52, 52, 52, 53, 52, 54, 52, 55, 52, 56, 52, 57, 53, 48, 53, 49, 53, 50, 53, 51, 53, 52, 53, 53, 53, 54, 53, 55, 53, 56, 53, 57, 54, 48, 54, 49, 54, 50, 54, 51, 54, 52, 54, 53, 54, 54, 54, 55, 54, 56, 54, 57, 55, 48, 55, 49, 55, 50, 55, 51, 55, 52, 55, 53, 55, 54, 55, 55, 55, 56, 55, 57, 56, 48, 56, 49, 56, 50, 56, 51, 56, 52, 56, 53, 56, 54, 56, 55, 56, 56, 56, 57, 57, 48, 57, 49, 57, 50, 57, 51, 57, 52, 57, 53, 57, 54, 57, 55, 57, 56, 57, 57]))), (.t 62)], iR 64 (.p .mv) [(.t 8)],
    iR 65 (.p .strIndex) [(.c (.str (bs [48, 48, 48, 49, 48, 50, 48, 51, 48, 52, 48, 53, 48, 54, 48, 55, 48, 56, 48, 57, 49, 48, 49, 49, 49, 50, 49, 51, 49, 52, 49, 53, 49, 54, 49, 55, 49, 56, 49, 57, 50, 48, 50, 49, 50, 50, 50, 51, 50, 52, 50, 53, 50, 54, 50, 55, 50, 56, 50, 57, 51, 48, 51, 49, 51, 50, 51, 51, 51, 52, 51, 53, 51, 54, 51, 55, 51, 56, 51, 57, 52, 48, 52, 49, 52, 50, 52, 51, 52, 52, 52, 53, 52, 54, 52, 55, 52, 56, 52, 57, 53, 48, 53, 49, 53, 50, 53, 51, 53, 52, 53, 53, 53, 54, 53, 55, 53, 56, 53, 57, 54, 48, 54, 49, 54, 50, 54, 51, 54, 52, 54, 53, 54, 54, 54, 55, 54, 56, 54, 57, 55, 48, 55, 49, 55, 50, 55, 51, 55, 52, 55, 53, 55, 54, 55, 55, 55, 56, 55, 57, 56, 48, 56, 49, 56, 50, 56, 51, 56, 52, 56, 53, 56, 54, 56, 55, 56, 56, 56, 57, 57, 48, 57, 49, 57, 50, 57, 51, 57, 52, 57, 53, 57, 54, 57, 55, 57, 56, 57, 57]))), (.t 64)],
    iR 66 (.p (.slIdx 1)) [(.t 55), (.t 57)], ⟨none, none, (.e (.store 1)), [(.t 66), (.t 63)], none⟩, iR 67 (.p (.slIdx 1)) [(.t 58), (.t 60)], ⟨none, none, (.e (.store 1)), [(.t 67), (.t 65)], none⟩]) (.keep [0, 1, 4, 10, 11] (.seq (.draw [iR 68 (.p .mv) [(.t 0)], iR 69 (.p .mv) [(.t 4)], iR 70 (.p (.bin .sub)) [(.t 69), (.c (.int .i64 (.ofNat 5)))], iR 71 (.p .mv) [(.t 0)], iR 72 (.p .mv) [(.t 4)], iR 73 (.p (.bin .sub)) [(.t 72), (.c (.int .i64 (.ofNat 6)))], iR 74 (.p .mv) [(.t 11)], iR 75 (.p (.bin .add)) [(.t 74), (.c (.int .u32 (.ofNat 1)))],
    iR 76 (.p .strIndex) [(.c (.str (bs [48, 48, 48, 49, 48, 50, 48, 51, 48, 52, 48, 53, 48, 54, 48, 55, 48, 56, 48, 57, 49, 48, 49, 49, 49, 50, 49, 51, 49, 52, 49, 53, 49, 54, 49, 55, 49, 56, 49, 57, 50, 48, 50, 49, 50, 50, 50, 51, 50, 52, 50, 53, 50, 54, 50, 55, 50, 56, 50, 57, 51, 48, 51, 49, 51, 50, 51, 51, 51, 52, 51, 53, 51, 54, 51, 55, 51, 56, 51, 57, 52, 48, 52, 49, 52, 50, 52, 51, 52, 52, 52, 53, 52, 54, 52, 55, 52, 56, 52, 57, 53, 48, 53, 49, 53, 50, 53, 51, 53, 52, 53, 53, 53, 54, 53, 55, 53, 56, 53, 57, 54, 48, 54, 49, 54, 50, 54, 51, 54, 52, 54, 53, 54, 54, 54, 55, 54, 56, 54, 57, 55, 48, 55, 49, 55, 50, 55, 51, 55, 52, 55, 53, 55, 54, 55, 55, 55, 56, 55, 57, 56, 48, 56, 49, 56, 50, 56, 51, 56, 52, 56, 53, 56, 54, 56, 55, 56, 56, 56, 57, 57, 48, 57, 49, 57, 50, 57, 51, 57, 52, 57, 53, 57, 54, 57, 55, 57, 56, 57, 57]))), (.t 75)], iR 77 (.p .mv) [(.t 11)],
    iR 78 (.p .strIndex) [(.c (.str (bs [48, 48, 48, 49, 48, 50, 48, 51, 48, 52, 48, 53, 48, 54, 48, 55, 48, 56, 48, 57, 49, 48, 49, 49, 49, 50, 49, 51, 49, 52, 49, 53, 49, 54, 49, 55, 49, 56, 49, 57, 50, 48, 50, 49, 50, 50, 50, 51, 50, 52, 50, 53, 50, 54, 50, 55, 50, 56, 50, 57, 51, 48, 51, 49, 51, 50, 51, 51, 51, 52, 51, 53, 51, 54, 51, 55, 51, 56, 51, 57, 52, 48, 52, 49, 52, 50, 52, 51, 52, 52, 52, 53, 52, 54, 52, 55, 52, 56, 52, 57, 53, 48, 53, 49, 53, 50, 53, 51, 53, 52, 53, 53, 53, 54, 53, 55, 53, 56, 53, 57, 54, 48, 54, 49, 54, 50, 54, 51, 54, 52, 54, 53, 54, 54, 54, 55, 54, 56, 54, 57, 55, 48, 55, 49, 55, 50, 55, 51, 55, 52, 55, 53, 55, 54, 55, 55, 55, 56, 55, 57, 56, 48, 56, 49, 56, 50, 56, 51, 56, 52, 56, 53, 56, 54, 56, 55, 56, 56, 56, 57, 57, 48, 57, 49, 57, 50, 57, 51, 57, 52, 57, 53, 57, 54, 57, 55, 57, 56, 57, 57]))), (.t 77)],
    iR 79 (.p (.slIdx 1)) [(.t 68), (.t 70)], ⟨none, none, (.e (.store 1)), [(.t 79), (.t 76)], none⟩, iR 80 (.p (.slIdx 1)) [(.t 71), (.t 73)], ⟨none, none, (.e (.store 1)), [(.t 80), (.t 78)], none⟩]) (.keep [0, 1, 4, 10] (.seq (.draw [iR 81 (.p .mv) [(.t 0)], iR 82 (.p .mv) [(.t 4)], iR 83 (.p (.bin .sub)) [(.t 82), (.c (.int .i64 (.ofNat 7)))], iR 84 (.p .mv) [(.t 0)], iR 85 (.p .mv) [(.t 4)], iR 86 (.p (.bin .sub)) [(.t 85), (.c (.int .i64 (.ofNat 8)))], iR 87 (.p .mv) [(.t 10)], iR 88 (.p (.bin .add)) [(.t 87), (.c (.int .u32 (.ofNat 1)))],
    iR 89 (.p .strIndex) [(.c (.str (bs [48, 48, 48, 49, 48, 50, 48, 51, 48, 52, 48, 53, 48, 54, 48, 55, 48, 56, 48, 57, 49, 48, 49, 49, 49, 50, 49, 51, 49, 52, 49, 53, 49, 54, 49, 55, 49, 56, 49, 57, 50, 48, 50, 49, 50, 50, 50, 51, 50, 52, 50, 53, 50, 54, 50, 55, 50, 56, 50, 57, 51, 48, 51, 49, 51, 50, 51, 51, 51, 52, 51, 53, 51, 54, 51, 55, 51, 56, 51, 57, 52, 48, 52, 49, 52, 50, 52, 51, 52, 52, 52, 53, 52, 54, 52, 55, 52, 56, 52, 57, 53, 48, 53, 49, 53, 50, 53, 51, 53, 52, 53, 53, 53, 54, 53, 55, 53, 56, 53, 57, 54, 48, 54, 49, 54, 50, 54, 51, 54, 52, 54, 53, 54, 54, 54, 55, 54, 56, 54, 57, 55, 48, 55, 49, 55, 50, 55, 51, 55, 52, 55, 53, 55, 54, 55, 55, 55, 56, 55, 57, 56, 48, 56, 49, 56, 50, 56, 51, 56, 52, 56, 53, 56, 54, 56, 55, 56, 56, 56, 57, 57, 48, 57, 49, 57, 50, 57, 51, 57, 52, 57, 53, 57, 54, 57, 55, 57, 56, 57, 57]))), (.t 88)], iR 90 (.p .mv) [(.t 10)],
    iR 91 (.p .strIndex) [(.c (.str (bs [48, 48, 48, 49, 48, 50, 48, 51, 48, 52, 48, 53, 48, 54, 48, 55, 48, 56, 48, 57, 49, 48, 49, 49, 49, 50, 49, 51, 49, 52, 49, 53, 49, 54, 49, 55, 49, 56, 49, 57, 50, 48, 50, 49, 50, 50, 50, 51, 50, 52, 50, 53, 50, 54, 50, 55, 50, 56, 50, 57, 51, 48, 51, 49, 51, 50, 51, 51, 51, 52, 51, 53, 51, 54, 51, 55, 51, 56, 51, 57, 52, 48, 52, 49, 52, 50, 52, 51, 52, 52, 52, 53, 52, 54, 52, 55, 52, 56, 52, 57, 53, 48, 53, 49, 53, 50, 53, 51, 53, 52, 53, 53, 53, 54, 53, 55, 53, 56, 53, 57, 54, 48, 54, 49, 54, 50, 54, 51, 54, 52, 54, 53, 54, 54, 54, 55, 54, 56, 54, 57, 55, 48, 55, 49, 55, 50, 55, 51, 55, 52, 55, 53, 55, 54, 55, 55, 55, 56, 55, 57, 56, 48, 56, 49, 56, 50, 56, 51, 56, 52, 56, 53, 56, 54, 56, 55, 56, 56, 56, 57, 57, 48, 57, 49, 57, 50, 57, 51, 57, 52, 57, 53, 57, 54, 57, 55, 57, 56, 57, 57]))), (.t 90)],
    iR 92 (.p (.slIdx 1)) [(.t 81), (.t 83)], ⟨none, none, (.e (.store 1)), [(.t 92), (.t 89)], none⟩, iR 93 (.p (.slIdx 1)) [(.t 84), (.t 86)], ⟨none, none, (.e (.store 1)), [(.t 93), (.t 91)], none⟩]) (.keep [0, 1, 4] (.reg [iR 94 (.p .mv) [(.t 4)], iR 95 (.p (.bin .sub)) [(.t 94), (.c (.int .i64 (.ofNat 8)))], iR 4 (.p .mv) [(.t 95)]]))))))))))))))))))))))))) (.keep [0, 1, 4] (.seq (.reg [iR 96 (.p .mv) [(.t 1)], iR 97 (.p (.toInt .u32)) [(.t 96)], iR 12 (.p .mv) [(.t 97)]]) (.keep [0, 4, 12] (.seq (.seq (.reg [iR 98 (.p .mv) [(.t 4)], iR 99 (.p (.bin .geq)) [(.t 98), (.c (.int .i64 (.ofNat 4)))]]) (.keep [0, 4, 12, 99] (.cond (.t 99) (.seq (.reg [iR 100 (.p .mv) [(.t 12)], iR 101 (.p (.bin .rem)) [(.t 100), (.c (.int .u32 (.ofNat 10000)))], iR 13 (.p .mv) [(.t 101)]]) (.keep [0, 4, 12, 13] (.seq (.reg [iR 102 (.p .mv) [(.t 12)],
    iR 103 (.p (.bin .quo)) [(.t 102), (.c (.int .u32 (.ofNat 10000)))], iR 12 (.p .mv) [(.t 103)]]) (.keep [0, 4, 12, 13] (.seq (.reg [iR 104 (.p .mv) [(.t 13)], iR 105 (.p (.bin .quo)) [(.t 104), (.c (.int .u32 (.ofNat 100)))], iR 106 (.p (.bin .mul)) [(.t 105), (.c (.int .u32 (.ofNat 2)))], iR 107 (.p .mv) [(.t 13)], iR 108 (.p (.bin .rem)) [(.t 107), (.c (.int .u32 (.ofNat 100)))], iR 109 (.p (.bin .mul)) [(.t 108), (.c (.int .u32 (.ofNat 2)))], iR 14 (.p .mv) [(.t 106)], iR 15 (.p .mv) [(.t 109)]]) (.keep [0, 4, 12, 14, 15] (.seq (.draw [iR 110 (.p .mv) [(.t 0)], iR 111 (.p .mv) [(.t 4)], iR 112 (.p (.bin .sub)) [(.t 111), (.c (.int .i64 (.ofNat 1)))], iR 113 (.p .mv) [(.t 0)], iR 114 (.p .mv) [(.t 4)], iR 115 (.p (.bin .sub)) [(.t 114), (.c (.int .i64 (.ofNat 2)))], iR 116 (.p .mv) [(.t 15)], iR 117 (.p (.bin .add)) [(.t 116), (.c (.int .u32 (.ofNat 1)))],
    iR 118 (.p .strIndex) [(.c (.str (bs [48, 48, 48, 49, 48, 50, 48, 51, 48, 52, 48, 53, 48, 54, 48, 55, 48, 56, 48, 57, 49, 48, 49, 49, 49, 50, 49, 51, 49, 52, 49, 53, 49, 54, 49, 55, 49, 56, 49, 57, 50, 48, 50, 49, 50, 50, 50, 51, 50, 52, 50, 53, 50, 54, 50, 55, 50, 56, 50, 57, 51, 48, 51, 49, 51, 50, 51, 51, 51, 52, 51, 53, 51, 54, 51, 55, 51, 56, 51, 57, 52, 48, 52, 49, 52, 50, 52, 51, 52, 52, 52, 53, 52, 54, 52, 55, 52, 56, 52, 57, 53, 48, 53, 49, 53, 50, 53, 51, 53, 52, 53, 53, 53, 54, 53, 55, 53, 56, 53, 57, 54, 48, 54, 49, 54, 50, 54, 51, 54, 52, 54, 53, 54, 54, 54, 55, 54, 56, 54, 57, 55, 48, 55, 49, 55, 50, 55, 51, 55, 52, 55, 53, 55, 54, 55, 55, 55, 56, 55, 57, 56, 48, 56, 49, 56, 50, 56, 51, 56, 52, 56, 53, 56, 54, 56, 55, 56, 56, 56, 57, 57, 48, 57, 49, 57, 50, 57, 51, 57, 52, 57, 53, 57, 54, 57, 55, 57, 56, 57, 57]))), (.t 117)], iR 119 (.p .mv) [(.t 15)],
    iR 120 (.p .strIndex) [(.c (.str (bs [48, 48, 48, 49, 48, 50, 48, 51, 48, 52, 48, 53, 48, 54, 48, 55, 48, 56, 48, 57, 49, 48, 49, 49, 49, 50, 49, 51, 49, 52, 49, 53, 49, 54, 49, 55, 49, 56, 49, 57, 50, 48, 50, 49, 50, 50, 50, 51, 50, 52, 50, 53, 50, 54, 50, 55, 50, 56, 50, 57, 51, 48, 51, 49, 51, 50, 51, 51, 51, 52, 51, 53, 51, 54, 51, 55, 51, 56, 51, 57, 52, 48, 52, 49, 52, 50, 52, 51, 52, 52, 52, 53, 52, 54, 52, 55, 52, 56, 52, 57, 53, 48, 53, 49, 53, 50, 53, 51, 53, 52, 53, 53, 53, 54, 53, 55, 53, 56, 53, 57, 54, 48, 54, 49, 54, 50, 54, 51, 54, 52, 54, 53, 54, 54, 54, 55, 54, 56, 54, 57, 55, 48, 55, 49, 55, 50, 55, 51, 55, 52, 55, 53, 55, 54, 55, 55, 55, 56, 55, 57, 56, 48, 56, 49, 56, 50, 56, 51, 56, 52, 56, 53, 56, 54, 56, 55, 56, 56, 56, 57, 57, 48, 57, 49, 57, 50, 57, 51, 57, 52, 57, 53, 57, 54, 57, 55, 57, 56, 57, 57]))), (.t 119)],
    iR 121 (.p (.slIdx 1)) [(.t 110), (.t 112)], ⟨none, none, (.e (.store 1)), [(.t 121), (.t 118)], none⟩, iR 122 (.p (.slIdx 1)) [(.t 113), (.t 115)], ⟨none, none, (.e (.store 1)), [(.t 122), (.t 120)], none⟩]) (.keep [0, 4, 12, 14] (.seq (.draw [iR 123 (.p .mv) [(.t 0)], iR 124 (.p .mv) [(.t 4)], iR 125 (.p (.bin .sub)) [(.t 124), (.c (.int .i64 (.ofNat 3)))], iR 126 (.p .mv) [(.t 0)], iR 127 (.p .mv) [(.t 4)], iR 128 (.p (.bin .sub)) [(.t 127), (.c (.int .i64 (.ofNat 4)))], iR 129 (.p .mv) [(.t 14)], iR 130 (.p (.bin .add)) [(.t 129), (.c (.int .u32 (.ofNat 1)))],
    iR 131 (.p .strIndex) [(.c (.str (bs [48, 48, 48, 49, 48, 50, 48, 51, 48, 52, 48, 53, 48, 54, 48, 55, 48, 56, 48, 57, 49, 48, 49, 49, 49, 50, 49, 51, 49, 52, 49, 53, 49, 54, 49, 55, 49, 56, 49, 57, 50, 48, 50, 49, 50, 50, 50, 51, 50, 52, 50, 53, 50, 54, 50, 55, 50, 56, 50, 57, 51, 48, 51, 49, 51, 50, 51, 51, 51, 52, 51, 53, 51, 54, 51, 55, 51, 56, 51, 57, 52, 48, 52, 49, 52, 50, 52, 51, 52, 52, 52, 53, 52, 54, 52, 55, 52, 56, 52, 57, 53, 48, 53, 49, 53, 50, 53, 51, 53, 52, 53, 53, 53, 54, 53, 55, 53, 56, 53, 57, 54, 48, 54, 49, 54, 50, 54, 51, 54, 52, 54, 53, 54, 54, 54, 55, 54, 56, 54, 57, 55, 48, 55, 49, 55, 50, 55, 51, 55, 52, 55, 53, 55, 54, 55, 55, 55, 56, 55, 57, 56, 48, 56, 49, 56, 50, 56, 51, 56, 52, 56, 53, 56, 54, 56, 55, 56, 56, 56, 57, 57, 48, 57, 49, 57, 50, 57, 51, 57, 52, 57, 53, 57, 54, 57, 55, 57, 56, 57, 57]))), (.t 130)], iR 132 (.p .mv) [(.t 14)],
    iR 133 (.p .strIndex) [(.c (.str (bs [48, 48, 48, 49, 48, 50, 48, 51, 48, 52, 48, 53, 48, 54, 48, 55, 48, 56, 48, 57, 49, 48, 49, 49, 49, 50, 49, 51, 49, 52, 49, 53, 49, 54, 49, 55, 49, 56, 49, 57, 50, 48, 50, 49, 50, 50, 50, 51, 50, 52, 50, 53, 50, 54, 50, 55, 50, 56, 50, 57, 51, 48, 51, 49, 51, 50, 51, 51, 51, 52, 51, 53, 51, 54, 51, 55, 51, 56, 51, 57, 52, 48, 52, 49, 52, 50, 52, 51, 52, 52, 52, 53, 52, 54, 52, 55, 52, 56, 52, 57, 53, 48, 53, 49, 53, 50, 53, 51, 53, 52, 53, 53, 53, 54, 53, 55, 53, 56, 53, 57, 54, 48, 54, 49, 54, 50, 54, 51, 54, 52, 54, 53, 54, 54, 54, 55, 54, 56, 54, 57, 55, 48, 55, 49, 55, 50, 55, 51, 55, 52, 55, 53, 55, 54, 55, 55, 55, 56, 55, 57, 56, 48, 56, 49, 56, 50, 56, 51, 56, 52, 56, 53, 56, 54, 56, 55, 56, 56, 56, 57, 57, 48, 57, 49, 57, 50, 57, 51, 57, 52, 57, 53, 57, 54, 57, 55, 57, 56, 57, 57]))), (.t 132)],
    iR 134 (.p (.slIdx 1)) [(.t 123), (.t 125)], ⟨none, none, (.e (.store 1)), [(.t 134), (.t 131)], none⟩, iR 135 (.p (.slIdx 1)) [(.t 126), (.t 128)], ⟨none, none, (.e (.store 1)), [(.t 135), (.t 133)], none⟩]) (.keep [0, 4, 12] (.reg [iR 136 (.p .mv) [(.t 4)], iR 137 (.p (.bin .sub)) [(.t 136), (.c (.int .i64 (.ofNat 4)))], iR 4 (.p .mv) [(.t 137)]]))))))))))) .skip))) (.keep [0, 4, 12] (.seq (.seq (.reg [iR 138 (.p .mv) [(.t 4)], iR 139 (.p (.bin .geq)) [(.t 138), (.c (.int .i64 (.ofNat 2)))]]) (.keep [0, 4, 12, 139] (.cond (.t 139) (.seq (.reg [iR 140 (.p .mv) [(.t 12)], iR 141 (.p (.bin .rem)) [(.t 140), (.c (.int .u32 (.ofNat 100)))], iR 142 (.p (.bin .mul)) [(.t 141), (.c (.int .u32 (.ofNat 2)))], iR 16 (.p .mv) [(.t 142)]]) (.keep [0, 4, 12, 16] (.seq (.reg [iR 143 (.p .mv) [(.t 12)], iR 144 (.p (.bin .quo)) [(.t 143), (.c (.int .u32 (.ofNat 100)))],
    iR 12 (.p .mv) [(.t 144)]]) (.keep [0, 4, 12, 16] (.seq (.draw [iR 145 (.p .mv) [(.t 0)], iR 146 (.p .mv) [(.t 4)], iR 147 (.p (.bin .sub)) [(.t 146), (.c (.int .i64 (.ofNat 1)))], iR 148 (.p .mv) [(.t 0)], iR 149 (.p .mv) [(.t 4)], iR 150 (.p (.bin .sub)) [(.t 149), (.c (.int .i64 (.ofNat 2)))], iR 151 (.p .mv) [(.t 16)], iR 152 (.p (.bin .add)) [(.t 151), (.c (.int .u32 (.ofNat 1)))],
    iR 153 (.p .strIndex) [(.c (.str (bs [48, 48, 48, 49, 48, 50, 48, 51, 48, 52, 48, 53, 48, 54, 48, 55, 48, 56, 48, 57, 49, 48, 49, 49, 49, 50, 49, 51, 49, 52, 49, 53, 49, 54, 49, 55, 49, 56, 49, 57, 50, 48, 50, 49, 50, 50, 50, 51, 50, 52, 50, 53, 50, 54, 50, 55, 50, 56, 50, 57, 51, 48, 51, 49, 51, 50, 51, 51, 51, 52, 51, 53, 51, 54, 51, 55, 51, 56, 51, 57, 52, 48, 52, 49, 52, 50, 52, 51, 52, 52, 52, 53, 52, 54, 52, 55, 52, 56, 52, 57, 53, 48, 53, 49, 53, 50, 53, 51, 53, 52, 53, 53, 53, 54, 53, 55, 53, 56, 53, 57, 54, 48, 54, 49, 54, 50, 54, 51, 54, 52, 54, 53, 54, 54, 54, 55, 54, 56, 54, 57, 55, 48, 55, 49, 55, 50, 55, 51, 55, 52, 55, 53, 55, 54, 55, 55, 55, 56, 55, 57, 56, 48, 56, 49, 56, 50, 56, 51, 56, 52, 56, 53, 56, 54, 56, 55, 56, 56, 56, 57, 57, 48, 57, 49, 57, 50, 57, 51, 57, 52, 57, 53, 57, 54, 57, 55, 57, 56, 57, 57]))), (.t 152)], iR 154 (.p .mv) [(.t 16)],
    iR 155 (.p .strIndex) [(.c (.str (bs [48, 48, 48, 49, 48, 50, 48, 51, 48, 52, 48, 53, 48, 54, 48, 55, 48, 56, 48, 57, 49, 48, 49, 49, 49, 50, 49, 51, 49, 52, 49, 53, 49, 54, 49, 55, 49, 56, 49, 57, 50, 48, 50, 49, 50, 50, 50, 51, 50, 52, 50, 53, 50, 54, 50, 55, 50, 56, 50, 57, 51, 48, 51, 49, 51, 50, 51, 51, 51, 52, 51, 53, 51, 54, 51, 55, 51, 56, 51, 57, 52, 48, 52, 49, 52, 50, 52, 51, 52, 52, 52, 53, 52, 54, 52, 55, 52, 56, 52, 57, 53, 48, 53, 49, 53, 50, 53, 51, 53, 52, 53, 53, 53, 54, 53, 55, 53, 56, 53, 57, 54, 48, 54, 49, 54, 50, 54, 51, 54, 52, 54, 53, 54, 54, 54, 55, 54, 56, 54, 57, 55, 48, 55, 49, 55, 50, 55, 51, 55, 52, 55, 53, 55, 54, 55, 55, 55, 56, 55, 57, 56, 48, 56, 49, 56, 50, 56, 51, 56, 52, 56, 53, 56, 54, 56, 55, 56, 56, 56, 57, 57, 48, 57, 49, 57, 50, 57, 51, 57, 52, 57, 53, 57, 54, 57, 55, 57, 56, 57, 57]))), (.t 154)],
    iR 156 (.p (.slIdx 1)) [(.t 145), (.t 147)], ⟨none, none, (.e (.store 1)), [(.t 156), (.t 153)], none⟩, iR 157 (.p (.slIdx 1)) [(.t 148), (.t 150)], ⟨none, none, (.e (.store 1)), [(.t 157), (.t 155)], none⟩]) (.keep [0, 4, 12] (.reg [iR 158 (.p .mv) [(.t 4)], iR 159 (.p (.bin .sub)) [(.t 158), (.c (.int .i64 (.ofNat 2)))], iR 4 (.p .mv) [(.t 159)]]))))))) .skip))) (.keep [0, 4, 12] (.seq (.reg [iR 160 (.p .mv) [(.t 4)], iR 161 (.p (.bin .gtr)) [(.t 160), (.c (.int .i64 (.ofNat 0)))]]) (.keep [0, 12, 161] (.cond (.t 161) (.reg [iR 162 (.p .mv) [(.t 0)], iR 163 (.p .mv) [(.t 12)], iR 164 (.p (.bin .add)) [(.c (.int .u32 (.ofNat 48))), (.t 163)], iR 165 (.p (.toInt .u8)) [(.t 164)], iR 166 (.p (.slIdx 1)) [(.t 162), (.c (.int .i64 (.ofNat 0)))], ⟨none, none, (.e (.store 1)), [(.t 166), (.t 165)], none⟩]) .skip))))))))))))), []⟩
def s_strconv_formatBase10_j2 (call : CallK) (N : Nat) (q : KV) (st : St) (τ : Tape) : Ans := match st with
  | ⟨fr, H⟩ => getK fr 0 fun t0 => getK fr 4 fun t4 => getK fr 12 fun t12 => binK .gtr t4 (.int .i64 (.ofNat 0)) fun v4 => condK v4 (binK .add (.int .u32 (.ofNat 48)) t12 fun v5 => toIntK .u8 v5 fun v6 => someK (pSlIdx 1 [t0, (.int .i64 (.ofNat 0))]) fun v7 => effK (eStore 1 [v7, v6] H τ) fun v8 H9 τ10 => q (.tup []) H9 τ10) (q (.tup []) H τ)
def s_strconv_formatBase10_j1 (call : CallK) (N : Nat) (q : KV) (st : St) (τ : Tape) : Ans := match st with
  | ⟨fr, H⟩ => getK fr 0 fun t0 => getK fr 4 fun t4 => getK fr 12 fun t12 => binK .geq t4 (.int .i64 (.ofNat 2)) fun v3 => condK v3 (binK .rem t12 (.int .u32 (.ofNat 100)) fun v11 => binK .mul v11 (.int .u32 (.ofNat 2)) fun v12 => binK .quo t12 (.int .u32 (.ofNat 100)) fun v13 => binK .sub t4 (.int .i64 (.ofNat 1)) fun v14 => binK .sub t4 (.int .i64 (.ofNat 2)) fun v15 => binK .add v12 (.int .u32 (.ofNat 1)) fun v16 =>
    someK (pStrIndex [(.str (bs [48, 48, 48, 49, 48, 50, 48, 51, 48, 52, 48, 53, 48, 54, 48, 55, 48, 56, 48, 57, 49, 48, 49, 49, 49, 50, 49, 51, 49, 52, 49, 53, 49, 54, 49, 55, 49, 56, 49, 57, 50, 48, 50, 49, 50, 50, 50, 51, 50, 52, 50, 53, 50, 54, 50, 55, 50, 56, 50, 57, 51, 48, 51, 49, 51, 50, 51, 51, 51, 52, 51, 53, 51, 54, 51, 55, 51, 56, 51, 57, 52, 48, 52, 49, 52, 50, 52, 51, 52, 52, 52, 53, 52, 54, 52, 55, 52, 56, 52, 57, 53, 48, 53, 49, 53, 50, 53, 51, 53, 52, 53, 53, 53, 54, 53, 55, 53, 56, 53, 57, 54, 48, 54, 49, 54, 50, 54, 51, 54, 52, 54, 53, 54, 54, 54, 55, 54, 56, 54, 57, 55, 48, 55, 49, 55, 50, 55, 51, 55, 52, 55, 53, 55, 54, 55, 55, 55, 56, 55, 57, 56, 48, 56, 49, 56, 50, 56, 51, 56, 52, 56, 53, 56, 54, 56, 55, 56, 56, 56, 57, 57, 48, 57, 49, 57, 50, 57, 51, 57, 52, 57, 53, 57, 54, 57, 55, 57, 56, 57, 57])), v16]) fun v17 =>
    someK (pStrIndex [(.str (bs [48, 48, 48, 49, 48, 50, 48, 51, 48, 52, 48, 53, 48, 54, 48, 55, 48, 56, 48, 57, 49, 48, 49, 49, 49, 50, 49, 51, 49, 52, 49, 53, 49, 54, 49, 55, 49, 56, 49, 57, 50, 48, 50, 49, 50, 50, 50, 51, 50, 52, 50, 53, 50, 54, 50, 55, 50, 56, 50, 57, 51, 48, 51, 49, 51, 50, 51, 51, 51, 52, 51, 53, 51, 54, 51, 55, 51, 56, 51, 57, 52, 48, 52, 49, 52, 50, 52, 51, 52, 52, 52, 53, 52, 54, 52, 55, 52, 56, 52, 57, 53, 48, 53, 49, 53, 50, 53, 51, 53, 52, 53, 53, 53, 54, 53, 55, 53, 56, 53, 57, 54, 48, 54, 49, 54, 50, 54, 51, 54, 52, 54, 53, 54, 54, 54, 55, 54, 56, 54, 57, 55, 48, 55, 49, 55, 50, 55, 51, 55, 52, 55, 53, 55, 54, 55, 55, 55, 56, 55, 57, 56, 48, 56, 49, 56, 50, 56, 51, 56, 52, 56, 53, 56, 54, 56, 55, 56, 56, 56, 57, 57, 48, 57, 49, 57, 50, 57, 51, 57, 52, 57, 53, 57, 54, 57, 55, 57, 56, 57, 57])), v12]) fun v18 => someK (pSlIdx 1 [t0, v14]) fun v19 =>
    effK (eStore 1 [v19, v17] H τ) fun v20 H21 τ22 => someK (pSlIdx 1 [t0, v15]) fun v23 => effK (eStore 1 [v23, v18] H21 τ22) fun v24 H25 τ26 => binK .sub t4 (.int .i64 (.ofNat 2)) fun v27 => s_strconv_formatBase10_j2 call N q ⟨(T.set (T.set (T.set (T.set (T.set (T.set .leaf 0 t0) 4 t4) 12 v13) 158 t4) 159 v27) 4 v27), H25⟩ τ26) (s_strconv_formatBase10_j2 call N q ⟨(T.set (T.set (T.set (T.set .leaf 0 t0) 4 t4) 12 t12) 139 v3), H⟩ τ)
def s_strconv_formatBase10_j0 (call : CallK) (N : Nat) (q : KV) (st : St) (τ : Tape) : Ans := match st with
  | ⟨fr, H⟩ => getK fr 0 fun t0 => getK fr 1 fun t1 => getK fr 4 fun t4 => toIntK .u32 t1 fun v1 => binK .geq t4 (.int .i64 (.ofNat 4)) fun v2 => condK v2 (binK .rem v1 (.int .u32 (.ofNat 10000)) fun v28 => binK .quo v1 (.int .u32 (.ofNat 10000)) fun v29 => binK .quo v28 (.int .u32 (.ofNat 100)) fun v30 => binK .mul v30 (.int .u32 (.ofNat 2)) fun v31 => binK .rem v28 (.int .u32 (.ofNat 100)) fun v32 => binK .mul v32 (.int .u32 (.ofNat 2)) fun v33 => binK .sub t4 (.int .i64 (.ofNat 1)) fun v34 => binK .sub t4 (.int .i64 (.ofNat 2)) fun v35 => binK .add v33 (.int .u32 (.ofNat 1)) fun v36 =>
    someK (pStrIndex [(.str (bs [48, 48, 48, 49, 48, 50, 48, 51, 48, 52, 48, 53, 48, 54, 48, 55, 48, 56, 48, 57, 49, 48, 49, 49, 49, 50, 49, 51, 49, 52, 49, 53, 49, 54, 49, 55, 49, 56, 49, 57, 50, 48, 50, 49, 50, 50, 50, 51, 50, 52, 50, 53, 50, 54, 50, 55, 50, 56, 50, 57, 51, 48, 51, 49, 51, 50, 51, 51, 51, 52, 51, 53, 51, 54, 51, 55, 51, 56, 51, 57, 52, 48, 52, 49, 52, 50, 52, 51, 52, 52, 52, 53, 52, 54, 52, 55, 52, 56, 52, 57, 53, 48, 53, 49, 53, 50, 53, 51, 53, 52, 53, 53, 53, 54, 53, 55, 53, 56, 53, 57, 54, 48, 54, 49, 54, 50, 54, 51, 54, 52, 54, 53, 54, 54, 54, 55, 54, 56, 54, 57, 55, 48, 55, 49, 55, 50, 55, 51, 55, 52, 55, 53, 55, 54, 55, 55, 55, 56, 55, 57, 56, 48, 56, 49, 56, 50, 56, 51, 56, 52, 56, 53, 56, 54, 56, 55, 56, 56, 56, 57, 57, 48, 57, 49, 57, 50, 57, 51, 57, 52, 57, 53, 57, 54, 57, 55, 57, 56, 57, 57])), v36]) fun v37 =>
    someK (pStrIndex [(.str (bs [48, 48, 48, 49, 48, 50, 48, 51, 48, 52, 48, 53, 48, 54, 48, 55, 48, 56, 48, 57, 49, 48, 49, 49, 49, 50, 49, 51, 49, 52, 49, 53, 49, 54, 49, 55, 49, 56, 49, 57, 50, 48, 50, 49, 50, 50, 50, 51, 50, 52, 50, 53, 50, 54, 50, 55, 50, 56, 50, 57, 51, 48, 51, 49, 51, 50, 51, 51, 51, 52, 51, 53, 51, 54, 51, 55, 51, 56, 51, 57, 52, 48, 52, 49, 52, 50, 52, 51, 52, 52, 52, 53, 52, 54, 52, 55, 52, 56, 52, 57, 53, 48, 53, 49, 53, 50, 53, 51, 53, 52, 53, 53, 53, 54, 53, 55, 53, 56, 53, 57, 54, 48, 54, 49, 54, 50, 54, 51, 54, 52, 54, 53, 54, 54, 54, 55, 54, 56, 54, 57, 55, 48, 55, 49, 55, 50, 55, 51, 55, 52, 55, 53, 55, 54, 55, 55, 55, 56, 55, 57, 56, 48, 56, 49, 56, 50, 56, 51, 56, 52, 56, 53, 56, 54, 56, 55, 56, 56, 56, 57, 57, 48, 57, 49, 57, 50, 57, 51, 57, 52, 57, 53, 57, 54, 57, 55, 57, 56, 57, 57])), v33]) fun v38 => someK (pSlIdx 1 [t0, v34]) fun v39 =>
    effK (eStore 1 [v39, v37] H τ) fun v40 H41 τ42 => someK (pSlIdx 1 [t0, v35]) fun v43 => effK (eStore 1 [v43, v38] H41 τ42) fun v44 H45 τ46 => binK .sub t4 (.int .i64 (.ofNat 3)) fun v47 => binK .sub t4 (.int .i64 (.ofNat 4)) fun v48 => binK .add v31 (.int .u32 (.ofNat 1)) fun v49 =>
    someK (pStrIndex [(.str (bs [48, 48, 48, 49, 48, 50, 48, 51, 48, 52, 48, 53, 48, 54, 48, 55, 48, 56, 48, 57, 49, 48, 49, 49, 49, 50, 49, 51, 49, 52, 49, 53, 49, 54, 49, 55, 49, 56, 49, 57, 50, 48, 50, 49, 50, 50, 50, 51, 50, 52, 50, 53, 50, 54, 50, 55, 50, 56, 50, 57, 51, 48, 51, 49, 51, 50, 51, 51, 51, 52, 51, 53, 51, 54, 51, 55, 51, 56, 51, 57, 52, 48, 52, 49, 52, 50, 52, 51, 52, 52, 52, 53, 52, 54, 52, 55, 52, 56, 52, 57, 53, 48, 53, 49, 53, 50, 53, 51, 53, 52, 53, 53, 53, 54, 53, 55, 53, 56, 53, 57, 54, 48, 54, 49, 54, 50, 54, 51, 54, 52, 54, 53, 54, 54, 54, 55, 54, 56, 54, 57, 55, 48, 55, 49, 55, 50, 55, 51, 55, 52, 55, 53, 55, 54, 55, 55, 55, 56, 55, 57, 56, 48, 56, 49, 56, 50, 56, 51, 56, 52, 56, 53, 56, 54, 56, 55, 56, 56, 56, 57, 57, 48, 57, 49, 57, 50, 57, 51, 57, 52, 57, 53, 57, 54, 57, 55, 57, 56, 57, 57])), v49]) fun v50 =>
    someK (pStrIndex [(.str (bs [48, 48, 48, 49, 48, 50, 48, 51, 48, 52, 48, 53, 48, 54, 48, 55, 48, 56, 48, 57, 49, 48, 49, 49, 49, 50, 49, 51, 49, 52, 49, 53, 49, 54, 49, 55, 49, 56, 49, 57, 50, 48, 50, 49, 50, 50, 50, 51, 50, 52, 50, 53, 50, 54, 50, 55, 50, 56, 50, 57, 51, 48, 51, 49, 51, 50, 51, 51, 51, 52, 51, 53, 51, 54, 51, 55, 51, 56, 51, 57, 52, 48, 52, 49, 52, 50, 52, 51, 52, 52, 52, 53, 52, 54, 52, 55, 52, 56, 52, 57, 53, 48, 53, 49, 53, 50, 53, 51, 53, 52, 53, 53, 53, 54, 53, 55, 53, 56, 53, 57, 54, 48, 54, 49, 54, 50, 54, 51, 54, 52, 54, 53, 54, 54, 54, 55, 54, 56, 54, 57, 55, 48, 55, 49, 55, 50, 55, 51, 55, 52, 55, 53, 55, 54, 55, 55, 55, 56, 55, 57, 56, 48, 56, 49, 56, 50, 56, 51, 56, 52, 56, 53, 56, 54, 56, 55, 56, 56, 56, 57, 57, 48, 57, 49, 57, 50, 57, 51, 57, 52, 57, 53, 57, 54, 57, 55, 57, 56, 57, 57])), v31]) fun v51 => someK (pSlIdx 1 [t0, v47]) fun v52 =>
    effK (eStore 1 [v52, v50] H45 τ46) fun v53 H54 τ55 => someK (pSlIdx 1 [t0, v48]) fun v56 => effK (eStore 1 [v56, v51] H54 τ55) fun v57 H58 τ59 => binK .sub t4 (.int .i64 (.ofNat 4)) fun v60 => s_strconv_formatBase10_j1 call N q ⟨(T.set (T.set (T.set (T.set (T.set (T.set .leaf 0 t0) 4 t4) 12 v29) 136 t4) 137 v60) 4 v60), H58⟩ τ59) (s_strconv_formatBase10_j1 call N q ⟨(T.set (T.set (T.set (T.set .leaf 0 t0) 4 t4) 12 v1) 99 v2), H⟩ τ)
def s_strconv_formatBase10_l3 (call : CallK) (N : Nat) (st : St) (τ : Tape) (k : KC) : Ans := match st with
  | ⟨fr, H⟩ => getK fr 0 fun t0 => getK fr 1 fun t1 => getK fr 4 fun t4 => binK .geq t4 (.int .i64 (.ofNat 8)) fun v61 => condK v61 (binK .rem t1 (.int .u64 (.ofNat 100000000)) fun v62 => toIntK .u32 v62 fun v63 => binK .quo t1 (.int .u64 (.ofNat 100000000)) fun v64 => binK .quo v63 (.int .u32 (.ofNat 10000)) fun v65 => binK .rem v63 (.int .u32 (.ofNat 10000)) fun v66 => binK .quo v66 (.int .u32 (.ofNat 100)) fun v67 => binK .mul v67 (.int .u32 (.ofNat 2)) fun v68 => binK .rem v66 (.int .u32 (.ofNat 100)) fun v69 => binK .mul v69 (.int .u32 (.ofNat 2)) fun v70 => binK .quo v65 (.int .u32 (.ofNat 100)) fun v71 => binK .mul v71 (.int .u32 (.ofNat 2)) fun v72 => binK .rem v65 (.int .u32 (.ofNat 100)) fun v73 => binK .mul v73 (.int .u32 (.ofNat 2)) fun v74 => binK .sub t4 (.int .i64 (.ofNat 1)) fun v75 => binK .sub t4 (.int .i64 (.ofNat 2)) fun v76 =>
    binK .add v70 (.int .u32 (.ofNat 1)) fun v77 =>
    someK (pStrIndex [(.str (bs [48, 48, 48, 49, 48, 50, 48, 51, 48, 52, 48, 53, 48, 54, 48, 55, 48, 56, 48, 57, 49, 48, 49, 49, 49, 50, 49, 51, 49, 52, 49, 53, 49, 54, 49, 55, 49, 56, 49, 57, 50, 48, 50, 49, 50, 50, 50, 51, 50, 52, 50, 53, 50, 54, 50, 55, 50, 56, 50, 57, 51, 48, 51, 49, 51, 50, 51, 51, 51, 52, 51, 53, 51, 54, 51, 55, 51, 56, 51, 57, 52, 48, 52, 49, 52, 50, 52, 51, 52, 52, 52, 53, 52, 54, 52, 55, 52, 56, 52, 57, 53, 48, 53, 49, 53, 50, 53, 51, 53, 52, 53, 53, 53, 54, 53, 55, 53, 56, 53, 57, 54, 48, 54, 49, 54, 50, 54, 51, 54, 52, 54, 53, 54, 54, 54, 55, 54, 56, 54, 57, 55, 48, 55, 49, 55, 50, 55, 51, 55, 52, 55, 53, 55, 54, 55, 55, 55, 56, 55, 57, 56, 48, 56, 49, 56, 50, 56, 51, 56, 52, 56, 53, 56, 54, 56, 55, 56, 56, 56, 57, 57, 48, 57, 49, 57, 50, 57, 51, 57, 52, 57, 53, 57, 54, 57, 55, 57, 56, 57, 57])), v77]) fun v78 =>
    someK (pStrIndex [(.str (bs [48, 48, 48, 49, 48, 50, 48, 51, 48, 52, 48, 53, 48, 54, 48, 55, 48, 56, 48, 57, 49, 48, 49, 49, 49, 50, 49, 51, 49, 52, 49, 53, 49, 54, 49, 55, 49, 56, 49, 57, 50, 48, 50, 49, 50, 50, 50, 51, 50, 52, 50, 53, 50, 54, 50, 55, 50, 56, 50, 57, 51, 48, 51, 49, 51, 50, 51, 51, 51, 52, 51, 53, 51, 54, 51, 55, 51, 56, 51, 57, 52, 48, 52, 49, 52, 50, 52, 51, 52, 52, 52, 53, 52, 54, 52, 55, 52, 56, 52, 57, 53, 48, 53, 49, 53, 50, 53, 51, 53, 52, 53, 53, 53, 54, 53, 55, 53, 56, 53, 57, 54, 48, 54, 49, 54, 50, 54, 51, 54, 52, 54, 53, 54, 54, 54, 55, 54, 56, 54, 57, 55, 48, 55, 49, 55, 50, 55, 51, 55, 52, 55, 53, 55, 54, 55, 55, 55, 56, 55, 57, 56, 48, 56, 49, 56, 50, 56, 51, 56, 52, 56, 53, 56, 54, 56, 55, 56, 56, 56, 57, 57, 48, 57, 49, 57, 50, 57, 51, 57, 52, 57, 53, 57, 54, 57, 55, 57, 56, 57, 57])), v70]) fun v79 => someK (pSlIdx 1 [t0, v75]) fun v80 =>
    effK (eStore 1 [v80, v78] H τ) fun v81 H82 τ83 => someK (pSlIdx 1 [t0, v76]) fun v84 => effK (eStore 1 [v84, v79] H82 τ83) fun v85 H86 τ87 => binK .sub t4 (.int .i64 (.ofNat 3)) fun v88 => binK .sub t4 (.int .i64 (.ofNat 4)) fun v89 => binK .add v68 (.int .u32 (.ofNat 1)) fun v90 =>
    someK (pStrIndex [(.str (bs [48, 48, 48, 49, 48, 50, 48, 51, 48, 52, 48, 53, 48, 54, 48, 55, 48, 56, 48, 57, 49, 48, 49, 49, 49, 50, 49, 51, 49, 52, 49, 53, 49, 54, 49, 55, 49, 56, 49, 57, 50, 48, 50, 49, 50, 50, 50, 51, 50, 52, 50, 53, 50, 54, 50, 55, 50, 56, 50, 57, 51, 48, 51, 49, 51, 50, 51, 51, 51, 52, 51, 53, 51, 54, 51, 55, 51, 56, 51, 57, 52, 48, 52, 49, 52, 50, 52, 51, 52, 52, 52, 53, 52, 54, 52, 55, 52, 56, 52, 57, 53, 48, 53, 49, 53, 50, 53, 51, 53, 52, 53, 53, 53, 54, 53, 55, 53, 56, 53, 57, 54, 48, 54, 49, 54, 50, 54, 51, 54, 52, 54, 53, 54, 54, 54, 55, 54, 56, 54, 57, 55, 48, 55, 49, 55, 50, 55, 51, 55, 52, 55, 53, 55, 54, 55, 55, 55, 56, 55, 57, 56, 48, 56, 49, 56, 50, 56, 51, 56, 52, 56, 53, 56, 54, 56, 55, 56, 56, 56, 57, 57, 48, 57, 49, 57, 50, 57, 51, 57, 52, 57, 53, 57, 54, 57, 55, 57, 56, 57, 57])), v90]) fun v91 =>
    someK (pStrIndex [(.str (bs [48, 48, 48, 49, 48, 50, 48, 51, 48, 52, 48, 53, 48, 54, 48, 55, 48, 56, 48, 57, 49, 48, 49, 49, 49, 50, 49, 51, 49, 52, 49, 53, 49, 54, 49, 55, 49, 56, 49, 57, 50, 48, 50, 49, 50, 50, 50, 51, 50, 52, 50, 53, 50, 54, 50, 55, 50, 56, 50, 57, 51, 48, 51, 49, 51, 50, 51, 51, 51, 52, 51, 53, 51, 54, 51, 55, 51, 56, 51, 57, 52, 48, 52, 49, 52, 50, 52, 51, 52, 52, 52, 53, 52, 54, 52, 55, 52, 56, 52, 57, 53, 48, 53, 49, 53, 50, 53, 51, 53, 52, 53, 53, 53, 54, 53, 55, 53, 56, 53, 57, 54, 48, 54, 49, 54, 50, 54, 51, 54, 52, 54, 53, 54, 54, 54, 55, 54, 56, 54, 57, 55, 48, 55, 49, 55, 50, 55, 51, 55, 52, 55, 53, 55, 54, 55, 55, 55, 56, 55, 57, 56, 48, 56, 49, 56, 50, 56, 51, 56, 52, 56, 53, 56, 54, 56, 55, 56, 56, 56, 57, 57, 48, 57, 49, 57, 50, 57, 51, 57, 52, 57, 53, 57, 54, 57, 55, 57, 56, 57, 57])), v68]) fun v92 => someK (pSlIdx 1 [t0, v88]) fun v93 =>
    effK (eStore 1 [v93, v91] H86 τ87) fun v94 H95 τ96 => someK (pSlIdx 1 [t0, v89]) fun v97 => effK (eStore 1 [v97, v92] H95 τ96) fun v98 H99 τ100 => binK .sub t4 (.int .i64 (.ofNat 5)) fun v101 => binK .sub t4 (.int .i64 (.ofNat 6)) fun v102 => binK .add v74 (.int .u32 (.ofNat 1)) fun v103 =>
    someK (pStrIndex [(.str (bs [48, 48, 48, 49, 48, 50, 48, 51, 48, 52, 48, 53, 48, 54, 48, 55, 48, 56, 48, 57, 49, 48, 49, 49, 49, 50, 49, 51, 49, 52, 49, 53, 49, 54, 49, 55, 49, 56, 49, 57, 50, 48, 50, 49, 50, 50, 50, 51, 50, 52, 50, 53, 50, 54, 50, 55, 50, 56, 50, 57, 51, 48, 51, 49, 51, 50, 51, 51, 51, 52, 51, 53, 51, 54, 51, 55, 51, 56, 51, 57, 52, 48, 52, 49, 52, 50, 52, 51, 52, 52, 52, 53, 52, 54, 52, 55, 52, 56, 52, 57, 53, 48, 53, 49, 53, 50, 53, 51, 53, 52, 53, 53, 53, 54, 53, 55, 53, 56, 53, 57, 54, 48, 54, 49, 54, 50, 54, 51, 54, 52, 54, 53, 54, 54, 54, 55, 54, 56, 54, 57, 55, 48, 55, 49, 55, 50, 55, 51, 55, 52, 55, 53, 55, 54, 55, 55, 55, 56, 55, 57, 56, 48, 56, 49, 56, 50, 56, 51, 56, 52, 56, 53, 56, 54, 56, 55, 56, 56, 56, 57, 57, 48, 57, 49, 57, 50, 57, 51, 57, 52, 57, 53, 57, 54, 57, 55, 57, 56, 57, 57])), v103]) fun v104 =>
    someK (pStrIndex [(.str (bs [48, 48, 48, 49, 48, 50, 48, 51, 48, 52, 48, 53, 48, 54, 48, 55, 48, 56, 48, 57, 49, 48, 49, 49, 49, 50, 49, 51, 49, 52, 49, 53, 49, 54, 49, 55, 49, 56, 49, 57, 50, 48, 50, 49, 50, 50, 50, 51, 50, 52, 50, 53, 50, 54, 50, 55, 50, 56, 50, 57, 51, 48, 51, 49, 51, 50, 51, 51, 51, 52, 51, 53, 51, 54, 51, 55, 51, 56, 51, 57, 52, 48, 52, 49, 52, 50, 52, 51, 52, 52, 52, 53, 52, 54, 52, 55, 52, 56, 52, 57, 53, 48, 53, 49, 53, 50, 53, 51, 53, 52, 53, 53, 53, 54, 53, 55, 53, 56, 53, 57, 54, 48, 54, 49, 54, 50, 54, 51, 54, 52, 54, 53, 54, 54, 54, 55, 54, 56, 54, 57, 55, 48, 55, 49, 55, 50, 55, 51, 55, 52, 55, 53, 55, 54, 55, 55, 55, 56, 55, 57, 56, 48, 56, 49, 56, 50, 56, 51, 56, 52, 56, 53, 56, 54, 56, 55, 56, 56, 56, 57, 57, 48, 57, 49, 57, 50, 57, 51, 57, 52, 57, 53, 57, 54, 57, 55, 57, 56, 57, 57])), v74]) fun v105 => someK (pSlIdx 1 [t0, v101]) fun v106 =>
    effK (eStore 1 [v106, v104] H99 τ100) fun v107 H108 τ109 => someK (pSlIdx 1 [t0, v102]) fun v110 => effK (eStore 1 [v110, v105] H108 τ109) fun v111 H112 τ113 => binK .sub t4 (.int .i64 (.ofNat 7)) fun v114 => binK .sub t4 (.int .i64 (.ofNat 8)) fun v115 => binK .add v72 (.int .u32 (.ofNat 1)) fun v116 =>
    someK (pStrIndex [(.str (bs [48, 48, 48, 49, 48, 50, 48, 51, 48, 52, 48, 53, 48, 54, 48, 55, 48, 56, 48, 57, 49, 48, 49, 49, 49, 50, 49, 51, 49, 52, 49, 53, 49, 54, 49, 55, 49, 56, 49, 57, 50, 48, 50, 49, 50, 50, 50, 51, 50, 52, 50, 53, 50, 54, 50, 55, 50, 56, 50, 57, 51, 48, 51, 49, 51, 50, 51, 51, 51, 52, 51, 53, 51, 54, 51, 55, 51, 56, 51, 57, 52, 48, 52, 49, 52, 50, 52, 51, 52, 52, 52, 53, 52, 54, 52, 55, 52, 56, 52, 57, 53, 48, 53, 49, 53, 50, 53, 51, 53, 52, 53, 53, 53, 54, 53, 55, 53, 56, 53, 57, 54, 48, 54, 49, 54, 50, 54, 51, 54, 52, 54, 53, 54, 54, 54, 55, 54, 56, 54, 57, 55, 48, 55, 49, 55, 50, 55, 51, 55, 52, 55, 53, 55, 54, 55, 55, 55, 56, 55, 57, 56, 48, 56, 49, 56, 50, 56, 51, 56, 52, 56, 53, 56, 54, 56, 55, 56, 56, 56, 57, 57, 48, 57, 49, 57, 50, 57, 51, 57, 52, 57, 53, 57, 54, 57, 55, 57, 56, 57, 57])), v116]) fun v117 =>
    someK (pStrIndex [(.str (bs [48, 48, 48, 49, 48, 50, 48, 51, 48, 52, 48, 53, 48, 54, 48, 55, 48, 56, 48, 57, 49, 48, 49, 49, 49, 50, 49, 51, 49, 52, 49, 53, 49, 54, 49, 55, 49, 56, 49, 57, 50, 48, 50, 49, 50, 50, 50, 51, 50, 52, 50, 53, 50, 54, 50, 55, 50, 56, 50, 57, 51, 48, 51, 49, 51, 50, 51, 51, 51, 52, 51, 53, 51, 54, 51, 55, 51, 56, 51, 57, 52, 48, 52, 49, 52, 50, 52, 51, 52, 52, 52, 53, 52, 54, 52, 55, 52, 56, 52, 57, 53, 48, 53, 49, 53, 50, 53, 51, 53, 52, 53, 53, 53, 54, 53, 55, 53, 56, 53, 57, 54, 48, 54, 49, 54, 50, 54, 51, 54, 52, 54, 53, 54, 54, 54, 55, 54, 56, 54, 57, 55, 48, 55, 49, 55, 50, 55, 51, 55, 52, 55, 53, 55, 54, 55, 55, 55, 56, 55, 57, 56, 48, 56, 49, 56, 50, 56, 51, 56, 52, 56, 53, 56, 54, 56, 55, 56, 56, 56, 57, 57, 48, 57, 49, 57, 50, 57, 51, 57, 52, 57, 53, 57, 54, 57, 55, 57, 56, 57, 57])), v72]) fun v118 => someK (pSlIdx 1 [t0, v114]) fun v119 =>
    effK (eStore 1 [v119, v117] H112 τ113) fun v120 H121 τ122 => someK (pSlIdx 1 [t0, v115]) fun v123 => effK (eStore 1 [v123, v118] H121 τ122) fun v124 H125 τ126 => binK .sub t4 (.int .i64 (.ofNat 8)) fun v127 => k .normal ⟨(T.set (T.set (T.set (T.set (T.set (T.set .leaf 0 t0) 1 v64) 4 t4) 94 t4) 95 v127) 4 v127), H125⟩ τ126) (k (.exit 0) ⟨(T.set (T.set (T.set .leaf 0 t0) 1 t1) 4 t4), H⟩ τ)
def s_strconv_formatBase10 (call : CallK) (N : Nat) (a0 a1 : V) (H : Heap) (τ : Tape) (q : KV) : Ans := someK (pLen [a0]) fun v0 => loopK (s_strconv_formatBase10_l3 call N) N ⟨(T.set (T.set (T.set .leaf 0 a0) 1 a1) 4 v0), H⟩ τ (blockK 0 (seqK (s_strconv_formatBase10_j0 call N q) (endK [] q)))
theorem s_strconv_formatBase10_eq (call : CallK) (N : Nat) (a0 a1 : V) (H : Heap) (τ : Tape) (q : KV) : s_strconv_formatBase10 call N a0 a1 H τ q = funK call N fn_strconv_formatBase10 [a0, a1] H τ q := by kernel_rfl
def e_strconv_formatBase10 (call : CallK) (N : Nat) (vs : List V) (H : Heap) (τ : Tape) (q : KV) : Ans := match vs with | [a0, a1] => s_strconv_formatBase10 call N a0 a1 H τ q | _ => none
theorem e_strconv_formatBase10_ok : EntOk fn_strconv_formatBase10 e_strconv_formatBase10 := by
  intro call N vs H τ q r h
  unfold e_strconv_formatBase10 at h
  split at h
  · rw [s_strconv_formatBase10_eq] at h; exact h
  · cases h
theorem e_strconv_formatBase10_nat : EntNat e_strconv_formatBase10 := by
  intro c hn N vs H τ q
  unfold e_strconv_formatBase10
  split
  · rw [s_strconv_formatBase10_eq, s_strconv_formatBase10_eq]; exact funK_ent hn _ _ _ _ _ _
  · rfl
end Go.Am.X
