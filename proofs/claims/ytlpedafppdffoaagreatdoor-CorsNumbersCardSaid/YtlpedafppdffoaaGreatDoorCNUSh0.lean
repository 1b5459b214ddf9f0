/- The abstract machine, printed functions of the program, and what they are shown to be. -/
import Derived.Test.YtlpedafppdffoaaGreatDoorCNUM4
import Derived.KernelRfl
set_option linter.unusedVariables false
namespace Go.Am.X
set_option maxRecDepth 1000000
abbrev iR (n : Nat) (o : AOp) (a : List O) : Ins := ⟨some n, none, o, a, none⟩
abbrev iG (n g : Nat) (b : Bool) (o : AOp) (a : List O) : Ins := ⟨some n, some (g, b), o, a, none⟩
abbrev f_law18_CorsNumbers : Nat := 7
abbrev f_keep_Few : Nat := 10
abbrev f_book_Same_string : Nat := 31
abbrev f_cors_Unsafe : Nat := 32
abbrev f_law18_known : Nat := 34
abbrev f_cors_Exposed : Nat := 35
abbrev f_cors_Method : Nat := 36
abbrev f_law18_allow : Nat := 37
abbrev f_cors_Check : Nat := 38
abbrev f_law18_of : Nat := 39
abbrev f_cors_Simple : Nat := 40
abbrev f_slices_Contains_string : Nat := 53
abbrev f_ref1_Lower : Nat := 55
abbrev f_infra_Lower : Nat := 59
abbrev f_headers_Get : Nat := 60
abbrev f_infra_Int : Nat := 61
abbrev f_keep_URL : Nat := 62
abbrev f_ref4_Of : Nat := 63
abbrev f_headers_Safe : Nat := 69
abbrev f_maps_Copy_int : Nat := 70
abbrev f_cors_names : Nat := 71
abbrev f_headers_Split : Nat := 74
abbrev f_infra_Token : Nat := 75
abbrev f_origin_Text : Nat := 76
abbrev f_slices_Index_string : Nat := 82
abbrev f_infra_mapped : Nat := 85
abbrev f_infra_Lower_1 : Nat := 86
abbrev f_headers_is : Nat := 87
abbrev f_strings_Join : Nat := 88
abbrev f_ref3_Parse : Nat := 89
abbrev f_ref3_Special : Nat := 90
abbrev f_ref4_Port : Nat := 91
abbrev f_headers_unsafe : Nat := 98
abbrev f_headers_tongues : Nat := 99
abbrev f_strings_Cut : Nat := 100
abbrev f_infra_Strip : Nat := 101
abbrev f_headers_Range : Nat := 102
abbrev f_ref1_Part : Nat := 107
abbrev f_strings_Trim : Nat := 110
abbrev f_strings_IndexByte : Nat := 111
abbrev f_url_Own : Nat := 112
abbrev f_strconv_Itoa : Nat := 113
abbrev f_ref1_Letter : Nat := 114
abbrev f_ref1_Digit : Nat := 115
abbrev f_ref3_Own : Nat := 118
abbrev f_ref1_Numeral : Nat := 119
abbrev f_ref3_split : Nat := 125
abbrev f_ref3_clean : Nat := 126
abbrev f_ref3_scheme : Nat := 127
abbrev f_ref3_full : Nat := 128
abbrev f_stringslite_Cut : Nat := 130
abbrev f_strings_CutPrefix : Nat := 131
abbrev f_headers_told : Nat := 132
abbrev f_ref1_Begins : Nat := 136
abbrev f_ref1_Int : Nat := 137
abbrev f_strings_trimLeftByte : Nat := 138
abbrev f_strings_trimRightByte : Nat := 139
abbrev f_strings_makeASCIISet : Nat := 140
abbrev f_strings_trimLeftASCII : Nat := 141
abbrev f_strings_trimRightASCII : Nat := 142
abbrev f_strings_trimLeftUnicode : Nat := 143
abbrev f_strings_trimRightUnicode : Nat := 144
abbrev f_stringslite_IndexByte : Nat := 145
abbrev f_strconv_Itoa_n146 : Nat := 146
abbrev f_bits_Len64 : Nat := 158
abbrev f_ref1_Percent : Nat := 161
abbrev f_ref3_far : Nat := 162
abbrev f_ref3_over : Nat := 163
abbrev f_ref3_slashes : Nat := 164
abbrev f_ref3_rest : Nat := 165
abbrev f_ref3_ahead : Nat := 166
abbrev f_ref3_query : Nat := 167
abbrev f_stringslite_Index : Nat := 168
abbrev f_stringslite_CutPrefix : Nat := 169
abbrev f_asciiSet_contains : Nat := 171
abbrev f_utf8_DecodeRuneInString : Nat := 172
abbrev f_strings_ContainsRune : Nat := 173
abbrev f_utf8_DecodeLastRuneInString : Nat := 174
abbrev f_strconv_FormatInt : Nat := 176
abbrev f_ref1_In : Nat := 185
abbrev f_ref1_Escape : Nat := 186
abbrev f_ref3_authority : Nat := 187
abbrev f_ref3_path : Nat := 188
abbrev f_bytealg_Cutover : Nat := 190
abbrev f_bytealg_IndexRabinKarp_string : Nat := 191
abbrev f_stringslite_HasPrefix : Nat := 192
abbrev f_utf8_decodeRuneInStringSlow : Nat := 193
abbrev f_strings_IndexRune : Nat := 194
abbrev f_utf8_RuneStart : Nat := 195
abbrev f_strconv_small : Nat := 196
abbrev f_strconv_numDigits : Nat := 197
abbrev f_strconv_formatBase10 : Nat := 198
abbrev f_strconv_formatBits : Nat := 199
abbrev f_ref2_Parse : Nat := 201
abbrev f_ref1_Cut : Nat := 202
abbrev f_ref3_dots : Nat := 203
abbrev f_bytealg_hashStr_string : Nat := 204
abbrev f_utf8_ValidRune : Nat := 205
abbrev f_strconv_log10Pow2 : Nat := 206
abbrev f_strconv_bool2_int : Nat := 207
abbrev f_strconv_isPowerOfTwo : Nat := 208
abbrev f_bits_TrailingZeros : Nat := 209
abbrev f_ref1_Ends : Nat := 210
abbrev f_ref2_Six : Nat := 211
abbrev f_ref2_Text6 : Nat := 212
abbrev f_ref2_bad : Nat := 213
abbrev f_ref1_Unpercent : Nat := 214
abbrev f_ref2_Numbered : Nat := 215
abbrev f_ref2_Four : Nat := 216
abbrev f_ref2_Text4 : Nat := 217
abbrev f_bits_TrailingZeros32 : Nat := 218
abbrev f_bits_TrailingZeros64 : Nat := 219
abbrev f_ref2_pieces : Nat := 220
abbrev f_ref2_digits : Nat := 221
abbrev f_ref1_Hex : Nat := 222
abbrev f_ref2_labels : Nat := 223
abbrev f_ref2_number : Nat := 224
abbrev f_ref2_decimals : Nat := 225
/-- ostiary/ostiarylaw18.CorsNumbers -/
def fn_law18_CorsNumbers : Fun := ⟨0, (.seq (.reg [iR 0 (.p .mv) [(.c (.bool false))]]) (.keep [] (.seq (.reg [iR 14 (.call 36) [(.c (.str []))], iR 13 (.p .mv) [(.t 14)], iR 15 (.p (.extract 0)) [(.t 13)], iR 16 (.p (.extract 1)) [(.t 13)], iR 1 (.p .mv) [(.t 15)], iR 2 (.p .mv) [(.t 16)]]) (.keep [2] (.seq (.reg [iR 18 (.call 36) [(.c (.str (bs [97, 32, 98])))], iR 17 (.p .mv) [(.t 18)], iR 19 (.p (.extract 0)) [(.t 17)], iR 20 (.p (.extract 1)) [(.t 17)], iR 3 (.p .mv) [(.t 19)], iR 4 (.p .mv) [(.t 20)]]) (.keep [2, 4] (.seq (.reg [iR 21 (.call 37) [(.c (.str (bs [104, 116, 116, 112, 115, 58, 47, 47, 97])))], iR 22 (.p (.build [(.str []), (.str [])] [(0, 1), (1, 1)])) [(.c (.str (bs [97, 99, 99, 101, 115, 115, 45, 99, 111, 110, 116, 114, 111, 108, 45, 97, 108, 108, 111, 119, 45, 99, 114, 101, 100, 101, 110, 116, 105, 97, 108, 115]))), (.c (.str (bs [116, 114, 117, 101])))],
    iR 23 (.e (.buildSlice 1 2 [(.str []), (.str [])] [(0, 2)])) [(.t 22)], iR 24 (.e (.append 2 32)) [(.t 21), (.t 23)], iR 5 (.p .mv) [(.t 24)]]) (.keep [2, 4, 5] (.seq (.reg [iR 26 (.p (.build [(.str []), (.str [])] [(0, 1), (1, 1)])) [(.c (.str (bs [65, 99, 99, 101, 115, 115, 45, 67, 111, 110, 116, 114, 111, 108, 45, 69, 120, 112, 111, 115, 101, 45, 72, 101, 97, 100, 101, 114, 115]))), (.c (.str (bs [88, 44, 32, 97, 44, 32, 120])))], iR 27 (.e (.buildSlice 1 2 [(.str []), (.str [])] [(0, 2)])) [(.t 26)], iR 28 (.call 35) [(.t 27), (.c (.bool true))], iR 25 (.p .mv) [(.t 28)], iR 29 (.p (.extract 0)) [(.t 25)], iR 30 (.p (.extract 1)) [(.t 25)], iR 6 (.p .mv) [(.t 29)], iR 7 (.p .mv) [(.t 30)]])
    (.keep [2, 4, 5, 6, 7] (.seq (.reg [iR 32 (.p (.build [(.str []), (.str [])] [(0, 1), (1, 1)])) [(.c (.str (bs [65, 99, 99, 101, 115, 115, 45, 67, 111, 110, 116, 114, 111, 108, 45, 69, 120, 112, 111, 115, 101, 45, 72, 101, 97, 100, 101, 114, 115]))), (.c (.str (bs [88, 44, 32, 42])))], iR 33 (.e (.buildSlice 1 2 [(.str []), (.str [])] [(0, 2)])) [(.t 32)], iR 34 (.call 35) [(.t 33), (.c (.bool false))], iR 31 (.p .mv) [(.t 34)], iR 35 (.p (.extract 0)) [(.t 31)], iR 36 (.p (.extract 1)) [(.t 31)], iR 8 (.p .mv) [(.t 35)], iR 9 (.p .mv) [(.t 36)]]) (.keep [2, 4, 5, 6, 7, 9] (.seq (.reg [iR 38 (.call 35) [(.c .nils), (.c (.bool false))], iR 37 (.p .mv) [(.t 38)], iR 39 (.p (.extract 0)) [(.t 37)], iR 40 (.p (.extract 1)) [(.t 37)], iR 10 (.p .mv) [(.t 39)], iR 11 (.p .mv) [(.t 40)]])
    (.keep [2, 4, 5, 6, 7, 9, 10, 11] (.seq (.reg [iR 41 (.p (.build [(.str []), (.str [])] [(0, 1), (1, 1)])) [(.c (.str (bs [88, 45, 98]))), (.c (.str (bs [49])))], iR 42 (.p (.build [(.str []), (.str [])] [(0, 1), (1, 1)])) [(.c (.str (bs [65, 99, 99, 101, 112, 116]))), (.c (.str (bs [120])))], iR 43 (.p (.build [(.str []), (.str [])] [(0, 1), (1, 1)])) [(.c (.str (bs [120, 45, 65]))), (.c (.str (bs [50])))], iR 44 (.p (.build [(.str []), (.str [])] [(0, 1), (1, 1)])) [(.c (.str (bs [88, 45, 66]))), (.c (.str (bs [51])))], iR 45 (.e (.buildSlice 4 2 (repl 8 [(.str [])]) [(0, 2), (2, 2), (4, 2), (6, 2)])) [(.t 41), (.t 42), (.t 43), (.t 44)], iR 46 (.call 32) [(.t 45)], iR 12 (.p .mv) [(.t 46)]]) (.keep [2, 4, 5, 6, 7, 9, 10, 11, 12] (.seq (.reg [iR 47 (.p .mv) [(.t 2)], iR 48 (.p (.un .not)) [(.t 47)], iR 49 (.p .mv) [(.t 48)], iG 50 49 true (.p .mv) [(.t 4)],
    iG 51 49 true (.p (.un .not)) [(.t 50)], iR 52 (.p .pick) [(.t 49), (.t 51), (.c (.bool false))], iR 53 (.p .mv) [(.t 52)], iG 54 53 true (.call 39) [(.c (.str (bs [104, 116, 116, 112, 115, 58, 47, 47, 97])))], iG 55 53 true (.call 38) [(.t 54), (.c (.bool false)), (.c .nils)], iG 56 53 true (.p (.un .not)) [(.t 55)], iR 57 (.p .pick) [(.t 53), (.t 56), (.c (.bool false))], iR 58 (.p .mv) [(.t 57)], iG 59 58 true (.call 39) [(.c (.str (bs [104, 116, 116, 112, 115, 58, 47, 47, 97])))], iG 60 58 true (.p .mv) [(.t 5)], iG 61 58 true (.call 38) [(.t 59), (.c (.bool true)), (.t 60)], iR 62 (.p .pick) [(.t 58), (.t 61), (.c (.bool false))], iR 63 (.p .mv) [(.t 62)], iG 64 63 true (.call 39) [(.c (.str (bs [104, 116, 116, 112, 115, 58, 47, 47, 97])))], iG 65 63 true (.call 37) [(.c (.str (bs [104, 116, 116, 112, 115, 58, 47, 47, 97])))],
    iG 66 63 true (.call 38) [(.t 64), (.c (.bool true)), (.t 65)], iG 67 63 true (.p (.un .not)) [(.t 66)], iR 68 (.p .pick) [(.t 63), (.t 67), (.c (.bool false))], iR 69 (.p .mv) [(.t 68)], iG 70 69 true (.call 39) [(.c (.str (bs [104, 116, 116, 112, 115, 58, 47, 47, 98])))], iG 71 69 true (.p .mv) [(.t 5)], iG 72 69 true (.call 38) [(.t 70), (.c (.bool false)), (.t 71)], iG 73 69 true (.p (.un .not)) [(.t 72)], iR 74 (.p .pick) [(.t 69), (.t 73), (.c (.bool false))], iR 75 (.p .mv) [(.t 74)], iG 76 75 true (.call 39) [(.c (.str (bs [100, 97, 116, 97, 58, 120])))], iG 77 75 true (.call 37) [(.c (.str (bs [110, 117, 108, 108])))], iG 78 75 true (.call 38) [(.t 76), (.c (.bool false)), (.t 77)], iR 79 (.p .pick) [(.t 75), (.t 78), (.c (.bool false))], iR 80 (.p .mv) [(.t 79)], iG 81 80 true (.p .mv) [(.t 6)],
    iG 82 80 true (.e (.buildSlice 2 1 [(.str []), (.str [])] [(0, 1), (1, 1)])) [(.c (.str (bs [97]))), (.c (.str (bs [120])))], iG 83 80 true (.call 31) [(.t 81), (.t 82)], iR 84 (.p .pick) [(.t 80), (.t 83), (.c (.bool false))], iR 85 (.p .mv) [(.t 84)], iG 86 85 true (.p .mv) [(.t 7)], iG 87 85 true (.p (.un .not)) [(.t 86)], iR 88 (.p .pick) [(.t 85), (.t 87), (.c (.bool false))], iR 89 (.p .mv) [(.t 88)], iG 90 89 true (.p .mv) [(.t 9)], iR 91 (.p .pick) [(.t 89), (.t 90), (.c (.bool false))], iR 92 (.p .mv) [(.t 91)], iG 93 92 true (.p .mv) [(.t 10)], iG 94 92 true (.p .len) [(.t 93)], iG 95 92 true (.p (.bin .eql)) [(.t 94), (.c (.int .i64 (.ofNat 0)))], iR 96 (.p .pick) [(.t 92), (.t 95), (.c (.bool false))], iR 97 (.p .mv) [(.t 96)], iG 98 97 true (.p .mv) [(.t 11)], iG 99 97 true (.p (.un .not)) [(.t 98)], iR 100 (.p .pick) [(.t 97), (.t 99), (.c (.bool false))],
    iR 101 (.p .mv) [(.t 100)], iG 102 101 true (.p .mv) [(.t 12)], iG 103 101 true (.e (.buildSlice 2 1 [(.str []), (.str [])] [(0, 1), (1, 1)])) [(.c (.str (bs [120, 45, 97]))), (.c (.str (bs [120, 45, 98])))], iG 104 101 true (.call 31) [(.t 102), (.t 103)], iR 105 (.p .pick) [(.t 101), (.t 104), (.c (.bool false))], iR 106 (.p .mv) [(.t 105)], iG 107 106 true (.call 40) [(.c (.str (bs [72, 69, 65, 68])))], iR 108 (.p .pick) [(.t 106), (.t 107), (.c (.bool false))], iR 109 (.p .mv) [(.t 108)], iG 110 109 true (.call 40) [(.c (.str (bs [104, 101, 97, 100])))], iG 111 109 true (.p (.un .not)) [(.t 110)], iR 112 (.p .pick) [(.t 109), (.t 111), (.c (.bool false))], iR 113 (.p .mv) [(.t 112)], iG 114 113 true (.call 34) [], iR 115 (.p .pick) [(.t 113), (.t 114), (.c (.bool false))], iR 0 (.p .mv) [(.t 115)]]) (.keep [0] (.keep [0] .ret))))))))))))))))))), [(.t 0)]⟩
def s_law18_CorsNumbers (call : CallK) (N : Nat) (H : Heap) (τ : Tape) (q : KV) : Ans := call f_cors_Method [(.str [])] H τ fun v0 H1 τ2 => someK (pExtract 0 [v0]) fun v3 => someK (pExtract 1 [v0]) fun v4 => call f_cors_Method [(.str (bs [97, 32, 98]))] H1 τ2 fun v5 H6 τ7 => someK (pExtract 0 [v5]) fun v8 => someK (pExtract 1 [v5]) fun v9 => call f_law18_allow [(.str (bs [104, 116, 116, 112, 115, 58, 47, 47, 97]))] H6 τ7 fun v10 H11 τ12 => someK (pBuild [(.str []), (.str [])] [(0, 1), (1, 1)] [(.str (bs [97, 99, 99, 101, 115, 115, 45, 99, 111, 110, 116, 114, 111, 108, 45, 97, 108, 108, 111, 119, 45, 99, 114, 101, 100, 101, 110, 116, 105, 97, 108, 115])), (.str (bs [116, 114, 117, 101]))]) fun v13 => effK (eBuildSlice 1 2 [(.str []), (.str [])] [(0, 2)] [v13] H11 τ12) fun v14 H15 τ16 => effK (eAppend 2 32 [v10, v14] H15 τ16) fun v17 H18 τ19 =>
    someK (pBuild [(.str []), (.str [])] [(0, 1), (1, 1)] [(.str (bs [65, 99, 99, 101, 115, 115, 45, 67, 111, 110, 116, 114, 111, 108, 45, 69, 120, 112, 111, 115, 101, 45, 72, 101, 97, 100, 101, 114, 115])), (.str (bs [88, 44, 32, 97, 44, 32, 120]))]) fun v20 => effK (eBuildSlice 1 2 [(.str []), (.str [])] [(0, 2)] [v20] H18 τ19) fun v21 H22 τ23 => call f_cors_Exposed [v21, (.bool true)] H22 τ23 fun v24 H25 τ26 => someK (pExtract 0 [v24]) fun v27 => someK (pExtract 1 [v24]) fun v28 => someK (pBuild [(.str []), (.str [])] [(0, 1), (1, 1)] [(.str (bs [65, 99, 99, 101, 115, 115, 45, 67, 111, 110, 116, 114, 111, 108, 45, 69, 120, 112, 111, 115, 101, 45, 72, 101, 97, 100, 101, 114, 115])), (.str (bs [88, 44, 32, 42]))]) fun v29 => effK (eBuildSlice 1 2 [(.str []), (.str [])] [(0, 2)] [v29] H25 τ26) fun v30 H31 τ32 => call f_cors_Exposed [v30, (.bool false)] H31 τ32 fun v33 H34 τ35 =>
    someK (pExtract 0 [v33]) fun v36 => someK (pExtract 1 [v33]) fun v37 => call f_cors_Exposed [.nils, (.bool false)] H34 τ35 fun v38 H39 τ40 => someK (pExtract 0 [v38]) fun v41 => someK (pExtract 1 [v38]) fun v42 => someK (pBuild [(.str []), (.str [])] [(0, 1), (1, 1)] [(.str (bs [88, 45, 98])), (.str (bs [49]))]) fun v43 => someK (pBuild [(.str []), (.str [])] [(0, 1), (1, 1)] [(.str (bs [65, 99, 99, 101, 112, 116])), (.str (bs [120]))]) fun v44 => someK (pBuild [(.str []), (.str [])] [(0, 1), (1, 1)] [(.str (bs [120, 45, 65])), (.str (bs [50]))]) fun v45 => someK (pBuild [(.str []), (.str [])] [(0, 1), (1, 1)] [(.str (bs [88, 45, 66])), (.str (bs [51]))]) fun v46 => effK (eBuildSlice 4 2 (repl 8 [(.str [])]) [(0, 2), (2, 2), (4, 2), (6, 2)] [v43, v44, v45, v46] H39 τ40) fun v47 H48 τ49 => call f_cors_Unsafe [v47] H48 τ49 fun v50 H51 τ52 => unK .not v4 fun v53 =>
    gK v53 true (fun q' => q' v9 H51 τ52) H51 τ52 fun v54 H55 τ56 => gK v53 true (fun q' => unK .not v54 fun v => q' v H55 τ56) H55 τ56 fun v57 H58 τ59 => someK (pPick [v53, v57, (.bool false)]) fun v60 => gK v60 true (fun q' => call f_law18_of [(.str (bs [104, 116, 116, 112, 115, 58, 47, 47, 97]))] H58 τ59 q') H58 τ59 fun v61 H62 τ63 => gK v60 true (fun q' => call f_cors_Check [v61, (.bool false), .nils] H62 τ63 q') H62 τ63 fun v64 H65 τ66 => gK v60 true (fun q' => unK .not v64 fun v => q' v H65 τ66) H65 τ66 fun v67 H68 τ69 => someK (pPick [v60, v67, (.bool false)]) fun v70 => gK v70 true (fun q' => call f_law18_of [(.str (bs [104, 116, 116, 112, 115, 58, 47, 47, 97]))] H68 τ69 q') H68 τ69 fun v71 H72 τ73 => gK v70 true (fun q' => q' v17 H72 τ73) H72 τ73 fun v74 H75 τ76 => gK v70 true (fun q' => call f_cors_Check [v71, (.bool true), v74] H75 τ76 q') H75 τ76 fun v77 H78 τ79 =>
    someK (pPick [v70, v77, (.bool false)]) fun v80 => gK v80 true (fun q' => call f_law18_of [(.str (bs [104, 116, 116, 112, 115, 58, 47, 47, 97]))] H78 τ79 q') H78 τ79 fun v81 H82 τ83 => gK v80 true (fun q' => call f_law18_allow [(.str (bs [104, 116, 116, 112, 115, 58, 47, 47, 97]))] H82 τ83 q') H82 τ83 fun v84 H85 τ86 => gK v80 true (fun q' => call f_cors_Check [v81, (.bool true), v84] H85 τ86 q') H85 τ86 fun v87 H88 τ89 => gK v80 true (fun q' => unK .not v87 fun v => q' v H88 τ89) H88 τ89 fun v90 H91 τ92 => someK (pPick [v80, v90, (.bool false)]) fun v93 => gK v93 true (fun q' => call f_law18_of [(.str (bs [104, 116, 116, 112, 115, 58, 47, 47, 98]))] H91 τ92 q') H91 τ92 fun v94 H95 τ96 => gK v93 true (fun q' => q' v17 H95 τ96) H95 τ96 fun v97 H98 τ99 => gK v93 true (fun q' => call f_cors_Check [v94, (.bool false), v97] H98 τ99 q') H98 τ99 fun v100 H101 τ102 =>
    gK v93 true (fun q' => unK .not v100 fun v => q' v H101 τ102) H101 τ102 fun v103 H104 τ105 => someK (pPick [v93, v103, (.bool false)]) fun v106 => gK v106 true (fun q' => call f_law18_of [(.str (bs [100, 97, 116, 97, 58, 120]))] H104 τ105 q') H104 τ105 fun v107 H108 τ109 => gK v106 true (fun q' => call f_law18_allow [(.str (bs [110, 117, 108, 108]))] H108 τ109 q') H108 τ109 fun v110 H111 τ112 => gK v106 true (fun q' => call f_cors_Check [v107, (.bool false), v110] H111 τ112 q') H111 τ112 fun v113 H114 τ115 => someK (pPick [v106, v113, (.bool false)]) fun v116 => gK v116 true (fun q' => q' v27 H114 τ115) H114 τ115 fun v117 H118 τ119 => gK v116 true (fun q' => effK (eBuildSlice 2 1 [(.str []), (.str [])] [(0, 1), (1, 1)] [(.str (bs [97])), (.str (bs [120]))] H118 τ119) q') H118 τ119 fun v120 H121 τ122 =>
    gK v116 true (fun q' => call f_book_Same_string [v117, v120] H121 τ122 q') H121 τ122 fun v123 H124 τ125 => someK (pPick [v116, v123, (.bool false)]) fun v126 => gK v126 true (fun q' => q' v28 H124 τ125) H124 τ125 fun v127 H128 τ129 => gK v126 true (fun q' => unK .not v127 fun v => q' v H128 τ129) H128 τ129 fun v130 H131 τ132 => someK (pPick [v126, v130, (.bool false)]) fun v133 => gK v133 true (fun q' => q' v37 H131 τ132) H131 τ132 fun v134 H135 τ136 => someK (pPick [v133, v134, (.bool false)]) fun v137 => gK v137 true (fun q' => q' v41 H135 τ136) H135 τ136 fun v138 H139 τ140 => gK v137 true (fun q' => someK (pLen [v138]) fun v => q' v H139 τ140) H139 τ140 fun v141 H142 τ143 => gK v137 true (fun q' => binK .eql v141 (.int .i64 (.ofNat 0)) fun v => q' v H142 τ143) H142 τ143 fun v144 H145 τ146 => someK (pPick [v137, v144, (.bool false)]) fun v147 =>
    gK v147 true (fun q' => q' v42 H145 τ146) H145 τ146 fun v148 H149 τ150 => gK v147 true (fun q' => unK .not v148 fun v => q' v H149 τ150) H149 τ150 fun v151 H152 τ153 => someK (pPick [v147, v151, (.bool false)]) fun v154 => gK v154 true (fun q' => q' v50 H152 τ153) H152 τ153 fun v155 H156 τ157 => gK v154 true (fun q' => effK (eBuildSlice 2 1 [(.str []), (.str [])] [(0, 1), (1, 1)] [(.str (bs [120, 45, 97])), (.str (bs [120, 45, 98]))] H156 τ157) q') H156 τ157 fun v158 H159 τ160 => gK v154 true (fun q' => call f_book_Same_string [v155, v158] H159 τ160 q') H159 τ160 fun v161 H162 τ163 => someK (pPick [v154, v161, (.bool false)]) fun v164 => gK v164 true (fun q' => call f_cors_Simple [(.str (bs [72, 69, 65, 68]))] H162 τ163 q') H162 τ163 fun v165 H166 τ167 => someK (pPick [v164, v165, (.bool false)]) fun v168 =>
    gK v168 true (fun q' => call f_cors_Simple [(.str (bs [104, 101, 97, 100]))] H166 τ167 q') H166 τ167 fun v169 H170 τ171 => gK v168 true (fun q' => unK .not v169 fun v => q' v H170 τ171) H170 τ171 fun v172 H173 τ174 => someK (pPick [v168, v172, (.bool false)]) fun v175 => gK v175 true (fun q' => call f_law18_known [] H173 τ174 q') H173 τ174 fun v176 H177 τ178 => someK (pPick [v175, v176, (.bool false)]) fun v179 => q v179 H177 τ178
theorem s_law18_CorsNumbers_eq (call : CallK) (N : Nat) (H : Heap) (τ : Tape) (q : KV) : s_law18_CorsNumbers call N  H τ q = funK call N fn_law18_CorsNumbers [] H τ q := by kernel_rfl
def e_law18_CorsNumbers (call : CallK) (N : Nat) (vs : List V) (H : Heap) (τ : Tape) (q : KV) : Ans := match vs with | [] => s_law18_CorsNumbers call N  H τ q | _ => none
theorem e_law18_CorsNumbers_ok : EntOk fn_law18_CorsNumbers e_law18_CorsNumbers := by
  intro call N vs H τ q r h
  unfold e_law18_CorsNumbers at h
  split at h
  · rw [s_law18_CorsNumbers_eq] at h; exact h
  · cases h
theorem e_law18_CorsNumbers_nat : EntNat e_law18_CorsNumbers := by
  intro c hn N vs H τ q
  unfold e_law18_CorsNumbers
  split
  · rw [s_law18_CorsNumbers_eq, s_law18_CorsNumbers_eq]; exact funK_ent hn _ _ _ _ _ _
  · rfl
/-- ostiary/ostiarykeep.Few -/
def fn_keep_Few : Fun := ⟨2, (.seq (.reg [iR 4 (.p .mv) [(.c (.str []))]]) (.keep [0, 1] (.seq (.seq (.reg [iR 5 (.p .mv) [(.t 0)], iR 6 (.p .lenS) [(.t 5)], iR 7 (.p .mv) [(.t 1)], iR 8 (.p (.bin .gtr)) [(.t 6), (.t 7)]]) (.keep [0, 1, 8] (.cond (.t 8) (.seq (.reg [iR 9 (.p .mv) [(.t 0)], iR 10 (.p .mv) [(.t 1)], iR 11 (.p (.strSlice false true)) [(.t 9), (.t 10)], iR 4 (.p .mv) [(.t 11)]]) (.keep [4] (.keep [4] .ret))) .skip))) (.keep [0] (.seq (.reg [iR 12 (.p .mv) [(.t 0)], iR 4 (.p .mv) [(.t 12)]]) (.keep [4] (.keep [4] .ret))))))), [(.t 4)]⟩
def s_keep_Few (call : CallK) (N : Nat) (a0 a1 : V) (H : Heap) (τ : Tape) (q : KV) : Ans := someK (pLenS [a0]) fun v0 => binK .gtr v0 a1 fun v1 => condK v1 (someK (pStrSlice false true [a0, a1]) fun v2 => q v2 H τ) (q a0 H τ)
theorem s_keep_Few_eq (call : CallK) (N : Nat) (a0 a1 : V) (H : Heap) (τ : Tape) (q : KV) : s_keep_Few call N a0 a1 H τ q = funK call N fn_keep_Few [a0, a1] H τ q := by kernel_rfl
def e_keep_Few (call : CallK) (N : Nat) (vs : List V) (H : Heap) (τ : Tape) (q : KV) : Ans := match vs with | [a0, a1] => s_keep_Few call N a0 a1 H τ q | _ => none
theorem e_keep_Few_ok : EntOk fn_keep_Few e_keep_Few := by
  intro call N vs H τ q r h
  unfold e_keep_Few at h
  split at h
  · rw [s_keep_Few_eq] at h; exact h
  · cases h
theorem e_keep_Few_nat : EntNat e_keep_Few := by
  intro c hn N vs H τ q
  unfold e_keep_Few
  split
  · rw [s_keep_Few_eq, s_keep_Few_eq]; exact funK_ent hn _ _ _ _ _ _
  · rfl
/-- ostiary/ostiarybook.Same[string] -/
def fn_book_Same_string : Fun := ⟨2, (.seq (.reg [iR 4 (.p .mv) [(.c (.bool false))]]) (.keep [0, 1] (.seq (.seq (.reg [iR 6 (.p .mv) [(.t 0)], iR 7 (.p .len) [(.t 6)], iR 8 (.p .mv) [(.t 1)], iR 9 (.p .len) [(.t 8)], iR 10 (.p (.bin .neq)) [(.t 7), (.t 9)]]) (.keep [0, 1, 10] (.cond (.t 10) (.seq (.reg [iR 4 (.p .mv) [(.c (.bool false))]]) (.keep [4] (.keep [4] .ret))) .skip))) (.keep [0, 1] (.seq (.seq (.reg [iR 5 (.p .mv) [(.c (.int .i64 (.ofNat 0)))]]) (.keep [0, 1, 5] (.block 0 (.loop (.keep [0, 1, 5] (.seq (.seq (.reg [iR 11 (.p .mv) [(.t 5)], iR 12 (.p .mv) [(.t 0)], iR 13 (.p .len) [(.t 12)], iR 14 (.p (.bin .lss)) [(.t 11), (.t 13)]]) (.keep [0, 1, 5, 14] (.cond (.t 14) .skip (.keep [] (.exit 0))))) (.keep [0, 1, 5] (.seq (.block 1 (.seq (.draw [iR 17 (.p .mv) [(.t 0)], iR 18 (.p .mv) [(.t 5)], iR 19 (.p (.slIdx 1)) [(.t 17), (.t 18)], iR 20 (.l (.load none)) [(.t 19)],
    iR 21 (.p .mv) [(.t 1)], iR 22 (.p .mv) [(.t 5)], iR 23 (.p (.slIdx 1)) [(.t 21), (.t 22)], iR 24 (.l (.load none)) [(.t 23)], iR 25 (.p (.bin .neq)) [(.t 20), (.t 24)]]) (.keep [0, 1, 5, 25] (.cond (.t 25) (.seq (.reg [iR 4 (.p .mv) [(.c (.bool false))]]) (.keep [4] (.keep [4] .ret))) .skip)))) (.keep [0, 1, 5] (.reg [iR 15 (.p .mv) [(.t 5)], iR 16 (.p (.bin .add)) [(.t 15), (.c (.int .i64 (.ofNat 1)))], iR 5 (.p .mv) [(.t 16)]])))))))))) (.keep [] (.seq (.reg [iR 4 (.p .mv) [(.c (.bool true))]]) (.keep [4] (.keep [4] .ret))))))))), [(.t 4)]⟩
def s_book_Same_string_j0 (call : CallK) (N : Nat) (q : KV) (st : St) (τ : Tape) : Ans := match st with
  | ⟨fr, H⟩ => q (.bool true) H τ
def s_book_Same_string_l1 (call : CallK) (N : Nat) (st : St) (τ : Tape) (k : KC) : Ans := match st with
  | ⟨fr, H⟩ => getK fr 0 fun t0 => getK fr 1 fun t1 => getK fr 5 fun t5 => someK (pLen [t0]) fun v3 => binK .lss t5 v3 fun v4 => condK v4 (someK (pSlIdx 1 [t0, t5]) fun v5 => someK (lLoad1 [v5] H) fun v6 => someK (pSlIdx 1 [t1, t5]) fun v7 => someK (lLoad1 [v7] H) fun v8 => binK .neq v6 v8 fun v9 => condK v9 (k .ret ⟨(T.set .leaf 4 (.bool false)), H⟩ τ) (binK .add t5 (.int .i64 (.ofNat 1)) fun v10 => k .normal ⟨(T.set (T.set (T.set (T.set (T.set (T.set .leaf 0 t0) 1 t1) 5 t5) 15 t5) 16 v10) 5 v10), H⟩ τ)) (k (.exit 0) ⟨.leaf, H⟩ τ)
def s_book_Same_string (call : CallK) (N : Nat) (a0 a1 : V) (H : Heap) (τ : Tape) (q : KV) : Ans := someK (pLen [a0]) fun v0 => someK (pLen [a1]) fun v1 => binK .neq v0 v1 fun v2 => condK v2 (q (.bool false) H τ) (loopK (s_book_Same_string_l1 call N) N ⟨(T.set (T.set (T.set .leaf 0 a0) 1 a1) 5 (.int .i64 (.ofNat 0))), H⟩ τ (blockK 0 (seqK (s_book_Same_string_j0 call N q) (endK [(.t 4)] q))))
theorem s_book_Same_string_eq (call : CallK) (N : Nat) (a0 a1 : V) (H : Heap) (τ : Tape) (q : KV) : s_book_Same_string call N a0 a1 H τ q = funK call N fn_book_Same_string [a0, a1] H τ q := by kernel_rfl
def e_book_Same_string (call : CallK) (N : Nat) (vs : List V) (H : Heap) (τ : Tape) (q : KV) : Ans := match vs with | [a0, a1] => s_book_Same_string call N a0 a1 H τ q | _ => none
theorem e_book_Same_string_ok : EntOk fn_book_Same_string e_book_Same_string := by
  intro call N vs H τ q r h
  unfold e_book_Same_string at h
  split at h
  · rw [s_book_Same_string_eq] at h; exact h
  · cases h
theorem e_book_Same_string_nat : EntNat e_book_Same_string := by
  intro c hn N vs H τ q
  unfold e_book_Same_string
  split
  · rw [s_book_Same_string_eq, s_book_Same_string_eq]; exact funK_ent hn _ _ _ _ _ _
  · rfl
/-- ostiary/cors.Unsafe -/
def fn_cors_Unsafe : Fun := ⟨1, (.seq (.reg [iR 2 (.p .mv) [(.c .nils)]]) (.keep [0] (.seq (.reg [iR 9 (.e .mkMap) [], iR 10 (.e .mkMap) [], iR 3 (.p .mv) [(.t 9)], iR 4 (.p .mv) [(.t 10)]]) (.keep [0, 3, 4] (.seq (.reg [iR 5 (.p .mv) [(.c (.int .i64 (.ofNat 0)))]]) (.keep [0, 3, 4, 5] (.seq (.seq (.reg [iR 11 (.p .mv) [(.t 0)], iR 12 (.p .len) [(.t 11)], iR 13 (.p .mv) [(.c (.int .i64 (.ofNat 0)))]]) (.keep [3, 4, 5, 11, 12, 13] (.block 0 (.loop (.keep [3, 4, 5, 11, 12, 13] (.seq (.reg [iR 14 (.p (.bin .lss)) [(.t 13), (.t 12)]]) (.keep [3, 4, 5, 11, 12, 13, 14] (.seq (.cond (.t 14) .skip (.keep [3, 4, 5] (.exit 0))) (.keep [3, 4, 5, 11, 12, 13] (.seq (.block 1 (.seq (.reg [iR 15 (.p (.slIdx 2)) [(.t 11), (.t 13)], iR 16 (.l (.load (some 2))) [(.t 15)], iR 7 (.e (.alloc [(.str []), (.str [])])) [], ⟨none, none, (.e (.store 2)), [(.t 7), (.t 16)], none⟩])
    (.keep [3, 4, 5, 7, 11, 12, 13] (.seq (.reg [iR 17 (.p (.fieldAddr 0)) [(.t 7)], iR 18 (.l (.load none)) [(.t 17)], iR 19 (.call 59) [(.t 18)], iR 8 (.p .mv) [(.t 19)]]) (.keep [3, 4, 5, 7, 8, 11, 12, 13] (.seq (.seq (.reg [iR 20 (.p (.fieldAddr 0)) [(.t 7)], iR 21 (.l (.load none)) [(.t 20)], iR 22 (.p (.fieldAddr 1)) [(.t 7)], iR 23 (.l (.load none)) [(.t 22)], iR 24 (.call 69) [(.t 21), (.t 23)], iR 25 (.p (.un .not)) [(.t 24)]]) (.keep [3, 4, 5, 7, 8, 11, 12, 13, 25] (.cond (.t 25) (.seq (.reg [iR 26 (.p .mv) [(.t 3)], iR 27 (.p .mv) [(.t 8)], iR 28 (.l (.mlook (.int .i64 (.ofNat 0)) false)) [(.t 26), (.t 27)], iR 29 (.p (.bin .add)) [(.t 28), (.c (.int .i64 (.ofNat 1)))], ⟨none, none, (.e .mput), [(.t 26), (.t 27), (.t 29)], none⟩]) (.keep [3, 4, 5, 11, 12, 13] (.keep [3, 4, 5, 11, 12, 13] (.exit 1)))) .skip)))
    (.keep [3, 4, 5, 7, 8, 11, 12, 13] (.seq (.reg [iR 30 (.p .mv) [(.t 4)], iR 31 (.p .mv) [(.t 8)], iR 32 (.l (.mlook (.int .i64 (.ofNat 0)) false)) [(.t 30), (.t 31)], iR 33 (.p (.bin .add)) [(.t 32), (.c (.int .i64 (.ofNat 1)))], ⟨none, none, (.e .mput), [(.t 30), (.t 31), (.t 33)], none⟩]) (.keep [3, 4, 5, 7, 11, 12, 13] (.reg [iR 34 (.p .mv) [(.t 5)], iR 35 (.p (.fieldAddr 1)) [(.t 7)], iR 36 (.l (.load none)) [(.t 35)], iR 37 (.p .lenS) [(.t 36)], iR 38 (.p (.bin .add)) [(.t 34), (.t 37)], iR 5 (.p .mv) [(.t 38)]])))))))))) (.keep [3, 4, 5, 11, 12, 13] (.reg [iR 39 (.p (.bin .add)) [(.t 13), (.c (.int .i64 (.ofNat 1)))], iR 13 (.p .mv) [(.t 39)]])))))))))))) (.keep [3, 4, 5] (.seq (.seq (.reg [iR 40 (.p .mv) [(.t 5)], iR 41 (.p (.bin .gtr)) [(.t 40), (.c (.int .i64 (.ofNat 1024)))]]) (.keep [3, 4, 41] (.cond (.t 41) (.reg [iR 42 (.p .mv) [(.t 3)], iR 43 (.p .mv) [(.t 4)],
    iR 44 (.call 70) [(.t 42), (.t 43)]]) .skip))) (.keep [3] (.seq (.reg [iR 45 (.p .mv) [(.t 3)], iR 46 (.call 71) [(.t 45)], iR 2 (.p .mv) [(.t 46)]]) (.keep [2] (.keep [2] .ret))))))))))))), [(.t 2)]⟩
def s_cors_Unsafe_j1 (call : CallK) (N : Nat) (q : KV) (st : St) (τ : Tape) : Ans := match st with
  | ⟨fr, H⟩ => getK fr 3 fun t3 => call f_cors_names [t3] H τ fun v8 H9 τ10 => q v8 H9 τ10
def s_cors_Unsafe_j0 (call : CallK) (N : Nat) (q : KV) (st : St) (τ : Tape) : Ans := match st with
  | ⟨fr, H⟩ => getK fr 3 fun t3 => getK fr 4 fun t4 => getK fr 5 fun t5 => binK .gtr t5 (.int .i64 (.ofNat 1024)) fun v7 => condK v7 (call f_maps_Copy_int [t3, t4] H τ fun v11 H12 τ13 => s_cors_Unsafe_j1 call N q ⟨(T.set (T.set (T.set (T.set (T.set (T.set .leaf 3 t3) 4 t4) 41 v7) 42 t3) 43 t4) 44 v11), H12⟩ τ13) (s_cors_Unsafe_j1 call N q ⟨(T.set (T.set (T.set .leaf 3 t3) 4 t4) 41 v7), H⟩ τ)
def s_cors_Unsafe_j3 (call : CallK) (N : Nat) (k : KC) (st : St) (τ : Tape) : Ans := match st with
  | ⟨fr, H⟩ => getK fr 3 fun t3 => getK fr 4 fun t4 => getK fr 5 fun t5 => getK fr 11 fun t11 => getK fr 12 fun t12 => getK fr 13 fun t13 => binK .add t13 (.int .i64 (.ofNat 1)) fun v15 => k .normal ⟨(T.set (T.set (T.set (T.set (T.set (T.set (T.set (T.set .leaf 3 t3) 4 t4) 5 t5) 11 t11) 12 t12) 13 t13) 39 v15) 13 v15), H⟩ τ
def s_cors_Unsafe_l2 (call : CallK) (N : Nat) (st : St) (τ : Tape) (k : KC) : Ans := match st with
  | ⟨fr, H⟩ => getK fr 3 fun t3 => getK fr 4 fun t4 => getK fr 5 fun t5 => getK fr 11 fun t11 => getK fr 12 fun t12 => getK fr 13 fun t13 => binK .lss t13 t12 fun v14 => condK v14 (someK (pSlIdx 2 [t11, t13]) fun v16 => someK (lLoadN 2 [v16] H) fun v17 => effK (eAlloc [(.str []), (.str [])] [] H τ) fun v18 H19 τ20 => effK (eStore 2 [v18, v17] H19 τ20) fun v21 H22 τ23 => someK (pFieldAddr 0 [v18]) fun v24 => someK (lLoad1 [v24] H22) fun v25 => call f_infra_Lower [v25] H22 τ23 fun v26 H27 τ28 => someK (pFieldAddr 0 [v18]) fun v29 => someK (lLoad1 [v29] H27) fun v30 => someK (pFieldAddr 1 [v18]) fun v31 => someK (lLoad1 [v31] H27) fun v32 => call f_headers_Safe [v30, v32] H27 τ28 fun v33 H34 τ35 => unK .not v33 fun v36 => condK v36 (someK (lLook (.int .i64 (.ofNat 0)) false [t3, v26] H34) fun v37 => binK .add v37 (.int .i64 (.ofNat 1)) fun v38 =>
    effK (eMput [t3, v26, v38] H34 τ35) fun v39 H40 τ41 => s_cors_Unsafe_j3 call N k ⟨(T.set (T.set (T.set (T.set (T.set (T.set .leaf 3 t3) 4 t4) 5 t5) 11 t11) 12 t12) 13 t13), H40⟩ τ41) (someK (lLook (.int .i64 (.ofNat 0)) false [t4, v26] H34) fun v42 => binK .add v42 (.int .i64 (.ofNat 1)) fun v43 => effK (eMput [t4, v26, v43] H34 τ35) fun v44 H45 τ46 => someK (pFieldAddr 1 [v18]) fun v47 => someK (lLoad1 [v47] H45) fun v48 => someK (pLenS [v48]) fun v49 => binK .add t5 v49 fun v50 => s_cors_Unsafe_j3 call N k ⟨(T.set (T.set (T.set (T.set (T.set (T.set (T.set (T.set (T.set (T.set (T.set (T.set (T.set .leaf 3 t3) 4 t4) 5 t5) 7 v18) 11 t11) 12 t12) 13 t13) 34 t5) 35 v47) 36 v48) 37 v49) 38 v50) 5 v50), H45⟩ τ46)) (k (.exit 0) ⟨(T.set (T.set (T.set .leaf 3 t3) 4 t4) 5 t5), H⟩ τ)
def s_cors_Unsafe (call : CallK) (N : Nat) (a0 : V) (H : Heap) (τ : Tape) (q : KV) : Ans := effK (eMkMap [] H τ) fun v0 H1 τ2 => effK (eMkMap [] H1 τ2) fun v3 H4 τ5 => someK (pLen [a0]) fun v6 => loopK (s_cors_Unsafe_l2 call N) N ⟨(T.set (T.set (T.set (T.set (T.set (T.set .leaf 3 v0) 4 v3) 5 (.int .i64 (.ofNat 0))) 11 a0) 12 v6) 13 (.int .i64 (.ofNat 0))), H4⟩ τ5 (blockK 0 (seqK (s_cors_Unsafe_j0 call N q) (endK [(.t 2)] q)))
theorem s_cors_Unsafe_eq (call : CallK) (N : Nat) (a0 : V) (H : Heap) (τ : Tape) (q : KV) : s_cors_Unsafe call N a0 H τ q = funK call N fn_cors_Unsafe [a0] H τ q := by kernel_rfl
def e_cors_Unsafe (call : CallK) (N : Nat) (vs : List V) (H : Heap) (τ : Tape) (q : KV) : Ans := match vs with | [a0] => s_cors_Unsafe call N a0 H τ q | _ => none
theorem e_cors_Unsafe_ok : EntOk fn_cors_Unsafe e_cors_Unsafe := by
  intro call N vs H τ q r h
  unfold e_cors_Unsafe at h
  split at h
  · rw [s_cors_Unsafe_eq] at h; exact h
  · cases h
theorem e_cors_Unsafe_nat : EntNat e_cors_Unsafe := by
  intro c hn N vs H τ q
  unfold e_cors_Unsafe
  split
  · rw [s_cors_Unsafe_eq, s_cors_Unsafe_eq]; exact funK_ent hn _ _ _ _ _ _
  · rfl
/-- ostiary/ostiarylaw18.known -/
def fn_law18_known : Fun := ⟨0, (.seq (.reg [iR 0 (.p .mv) [(.c (.bool false))]]) (.keep [] (.seq (.reg [iR 8 (.call 36) [(.c (.str (bs [112, 79, 115, 116])))], iR 7 (.p .mv) [(.t 8)], iR 9 (.p (.extract 0)) [(.t 7)], iR 10 (.p (.extract 1)) [(.t 7)], iR 1 (.p .mv) [(.t 9)], iR 2 (.p .mv) [(.t 10)]]) (.keep [1, 2] (.seq (.reg [iR 12 (.call 36) [(.c (.str (bs [112, 97, 116, 99, 104])))], iR 11 (.p .mv) [(.t 12)], iR 13 (.p (.extract 0)) [(.t 11)], iR 14 (.p (.extract 1)) [(.t 11)], iR 3 (.p .mv) [(.t 13)], iR 4 (.p .mv) [(.t 14)]]) (.keep [1, 2, 3, 4] (.seq (.reg [iR 16 (.call 36) [(.c (.str (bs [84, 82, 65, 67, 69])))], iR 15 (.p .mv) [(.t 16)], iR 17 (.p (.extract 0)) [(.t 15)], iR 18 (.p (.extract 1)) [(.t 15)], iR 5 (.p .mv) [(.t 17)], iR 6 (.p .mv) [(.t 18)]]) (.keep [1, 2, 3, 4, 6] (.seq (.reg [iR 19 (.p .mv) [(.t 1)],
    iR 20 (.p (.bin .eql)) [(.t 19), (.c (.str (bs [80, 79, 83, 84])))], iR 21 (.p .mv) [(.t 20)], iG 22 21 true (.p .mv) [(.t 2)], iR 23 (.p .pick) [(.t 21), (.t 22), (.c (.bool false))], iR 24 (.p .mv) [(.t 23)], iG 25 24 true (.p .mv) [(.t 3)], iG 26 24 true (.p (.bin .eql)) [(.t 25), (.c (.str (bs [112, 97, 116, 99, 104])))], iR 27 (.p .pick) [(.t 24), (.t 26), (.c (.bool false))], iR 28 (.p .mv) [(.t 27)], iG 29 28 true (.p .mv) [(.t 4)], iR 30 (.p .pick) [(.t 28), (.t 29), (.c (.bool false))], iR 31 (.p .mv) [(.t 30)], iG 32 31 true (.p .mv) [(.t 6)], iG 33 31 true (.p (.un .not)) [(.t 32)], iR 34 (.p .pick) [(.t 31), (.t 33), (.c (.bool false))], iR 35 (.p .mv) [(.t 34)], iG 36 35 true (.call 39) [(.c (.str (bs [104, 116, 116, 112, 115, 58, 47, 47, 97])))], iG 37 35 true (.call 37) [(.c (.str (bs [42])))], iG 38 35 true (.call 38) [(.t 36), (.c (.bool true)), (.t 37)],
    iG 39 35 true (.p (.un .not)) [(.t 38)], iR 40 (.p .pick) [(.t 35), (.t 39), (.c (.bool false))], iR 41 (.p .mv) [(.t 40)], iG 42 41 true (.call 39) [(.c (.str (bs [104, 116, 116, 112, 115, 58, 47, 47, 97])))], iG 43 41 true (.call 37) [(.c (.str (bs [42])))], iG 44 41 true (.call 38) [(.t 42), (.c (.bool false)), (.t 43)], iR 45 (.p .pick) [(.t 41), (.t 44), (.c (.bool false))], iR 0 (.p .mv) [(.t 45)]]) (.keep [0] (.keep [0] .ret))))))))))), [(.t 0)]⟩
def s_law18_known (call : CallK) (N : Nat) (H : Heap) (τ : Tape) (q : KV) : Ans := call f_cors_Method [(.str (bs [112, 79, 115, 116]))] H τ fun v0 H1 τ2 => someK (pExtract 0 [v0]) fun v3 => someK (pExtract 1 [v0]) fun v4 => call f_cors_Method [(.str (bs [112, 97, 116, 99, 104]))] H1 τ2 fun v5 H6 τ7 => someK (pExtract 0 [v5]) fun v8 => someK (pExtract 1 [v5]) fun v9 => call f_cors_Method [(.str (bs [84, 82, 65, 67, 69]))] H6 τ7 fun v10 H11 τ12 => someK (pExtract 0 [v10]) fun v13 => someK (pExtract 1 [v10]) fun v14 => binK .eql v3 (.str (bs [80, 79, 83, 84])) fun v15 => gK v15 true (fun q' => q' v4 H11 τ12) H11 τ12 fun v16 H17 τ18 => someK (pPick [v15, v16, (.bool false)]) fun v19 => gK v19 true (fun q' => q' v8 H17 τ18) H17 τ18 fun v20 H21 τ22 => gK v19 true (fun q' => binK .eql v20 (.str (bs [112, 97, 116, 99, 104])) fun v => q' v H21 τ22) H21 τ22 fun v23 H24 τ25 =>
    someK (pPick [v19, v23, (.bool false)]) fun v26 => gK v26 true (fun q' => q' v9 H24 τ25) H24 τ25 fun v27 H28 τ29 => someK (pPick [v26, v27, (.bool false)]) fun v30 => gK v30 true (fun q' => q' v14 H28 τ29) H28 τ29 fun v31 H32 τ33 => gK v30 true (fun q' => unK .not v31 fun v => q' v H32 τ33) H32 τ33 fun v34 H35 τ36 => someK (pPick [v30, v34, (.bool false)]) fun v37 => gK v37 true (fun q' => call f_law18_of [(.str (bs [104, 116, 116, 112, 115, 58, 47, 47, 97]))] H35 τ36 q') H35 τ36 fun v38 H39 τ40 => gK v37 true (fun q' => call f_law18_allow [(.str (bs [42]))] H39 τ40 q') H39 τ40 fun v41 H42 τ43 => gK v37 true (fun q' => call f_cors_Check [v38, (.bool true), v41] H42 τ43 q') H42 τ43 fun v44 H45 τ46 => gK v37 true (fun q' => unK .not v44 fun v => q' v H45 τ46) H45 τ46 fun v47 H48 τ49 => someK (pPick [v37, v47, (.bool false)]) fun v50 =>
    gK v50 true (fun q' => call f_law18_of [(.str (bs [104, 116, 116, 112, 115, 58, 47, 47, 97]))] H48 τ49 q') H48 τ49 fun v51 H52 τ53 => gK v50 true (fun q' => call f_law18_allow [(.str (bs [42]))] H52 τ53 q') H52 τ53 fun v54 H55 τ56 => gK v50 true (fun q' => call f_cors_Check [v51, (.bool false), v54] H55 τ56 q') H55 τ56 fun v57 H58 τ59 => someK (pPick [v50, v57, (.bool false)]) fun v60 => q v60 H58 τ59
theorem s_law18_known_eq (call : CallK) (N : Nat) (H : Heap) (τ : Tape) (q : KV) : s_law18_known call N  H τ q = funK call N fn_law18_known [] H τ q := by kernel_rfl
def e_law18_known (call : CallK) (N : Nat) (vs : List V) (H : Heap) (τ : Tape) (q : KV) : Ans := match vs with | [] => s_law18_known call N  H τ q | _ => none
theorem e_law18_known_ok : EntOk fn_law18_known e_law18_known := by
  intro call N vs H τ q r h
  unfold e_law18_known at h
  split at h
  · rw [s_law18_known_eq] at h; exact h
  · cases h
theorem e_law18_known_nat : EntNat e_law18_known := by
  intro c hn N vs H τ q
  unfold e_law18_known
  split
  · rw [s_law18_known_eq, s_law18_known_eq]; exact funK_ent hn _ _ _ _ _ _
  · rfl
/-- ostiary/cors.Exposed -/
def fn_cors_Exposed : Fun := ⟨2, (.seq (.reg [iR 4 (.p .mv) [(.c .nils)], iR 5 (.p .mv) [(.c (.bool false))]]) (.keep [0, 1] (.seq (.reg [iR 12 (.p .mv) [(.t 0)], iR 13 (.call 74) [(.t 12), (.c (.str (bs [97, 99, 99, 101, 115, 115, 45, 99, 111, 110, 116, 114, 111, 108, 45, 101, 120, 112, 111, 115, 101, 45, 104, 101, 97, 100, 101, 114, 115])))], iR 11 (.p .mv) [(.t 13)], iR 14 (.p (.extract 0)) [(.t 11)], iR 15 (.p (.extract 1)) [(.t 11)], iR 6 (.p .mv) [(.t 14)], iR 7 (.p .mv) [(.t 15)]]) (.keep [1, 6] (.seq (.seq (.reg [iR 16 (.p .mv) [(.t 1)], iR 17 (.p (.un .not)) [(.t 16)], iR 18 (.p .mv) [(.t 17)], iG 19 18 true (.p .mv) [(.t 6)], iG 20 18 true (.call 53) [(.t 19), (.c (.str (bs [42])))], iR 21 (.p .pick) [(.t 18), (.t 20), (.c (.bool false))]]) (.keep [6, 21] (.cond (.t 21) (.seq (.reg [iR 4 (.p .mv) [(.c .nils)], iR 5 (.p .mv) [(.c (.bool true))]])
    (.keep [4, 5] (.keep [4, 5] .ret))) .skip))) (.keep [6] (.seq (.reg [iR 22 (.e .mkMap) [], iR 8 (.p .mv) [(.t 22)]]) (.keep [6, 8] (.seq (.seq (.reg [iR 23 (.p .mv) [(.t 6)], iR 24 (.p .len) [(.t 23)], iR 25 (.p .mv) [(.c (.int .i64 (.ofNat 0)))]]) (.keep [8, 23, 24, 25] (.block 0 (.loop (.keep [8, 23, 24, 25] (.seq (.reg [iR 26 (.p (.bin .lss)) [(.t 25), (.t 24)]]) (.keep [8, 23, 24, 25, 26] (.seq (.cond (.t 26) .skip (.keep [8] (.exit 0))) (.keep [8, 23, 24, 25] (.seq (.block 1 (.seq (.reg [iR 27 (.p (.slIdx 1)) [(.t 23), (.t 25)], iR 28 (.l (.load none)) [(.t 27)], iR 10 (.p .mv) [(.t 28)]]) (.keep [8, 10, 23, 24, 25] (.seq (.reg [iR 29 (.p .mv) [(.t 10)], iR 30 (.call 75) [(.t 29)]]) (.keep [8, 10, 23, 24, 25, 30] (.cond (.t 30) (.reg [iR 31 (.p .mv) [(.t 8)], iR 32 (.p .mv) [(.t 10)], iR 33 (.call 59) [(.t 32)],
    iR 34 (.l (.mlook (.int .i64 (.ofNat 0)) false)) [(.t 31), (.t 33)], iR 35 (.p (.bin .add)) [(.t 34), (.c (.int .i64 (.ofNat 1)))], ⟨none, none, (.e .mput), [(.t 31), (.t 33), (.t 35)], none⟩]) .skip)))))) (.keep [8, 23, 24, 25] (.reg [iR 36 (.p (.bin .add)) [(.t 25), (.c (.int .i64 (.ofNat 1)))], iR 25 (.p .mv) [(.t 36)]])))))))))))) (.keep [8] (.seq (.reg [iR 37 (.p .mv) [(.t 8)], iR 38 (.call 71) [(.t 37)], iR 4 (.p .mv) [(.t 38)], iR 5 (.p .mv) [(.c (.bool false))]]) (.keep [4, 5] (.keep [4, 5] .ret))))))))))))), [(.t 4), (.t 5)]⟩
def s_cors_Exposed_j0 (call : CallK) (N : Nat) (q : KV) (st : St) (τ : Tape) : Ans := match st with
  | ⟨fr, H⟩ => getK fr 8 fun t8 => call f_cors_names [t8] H τ fun v17 H18 τ19 => q (.tup [v17, (.bool false)]) H18 τ19
def s_cors_Exposed_j2 (call : CallK) (N : Nat) (k : KC) (st : St) (τ : Tape) : Ans := match st with
  | ⟨fr, H⟩ => getK fr 8 fun t8 => getK fr 23 fun t23 => getK fr 24 fun t24 => getK fr 25 fun t25 => binK .add t25 (.int .i64 (.ofNat 1)) fun v21 => k .normal ⟨(T.set (T.set (T.set (T.set (T.set (T.set .leaf 8 t8) 23 t23) 24 t24) 25 t25) 36 v21) 25 v21), H⟩ τ
def s_cors_Exposed_l1 (call : CallK) (N : Nat) (st : St) (τ : Tape) (k : KC) : Ans := match st with
  | ⟨fr, H⟩ => getK fr 8 fun t8 => getK fr 23 fun t23 => getK fr 24 fun t24 => getK fr 25 fun t25 => binK .lss t25 t24 fun v20 => condK v20 (someK (pSlIdx 1 [t23, t25]) fun v22 => someK (lLoad1 [v22] H) fun v23 => call f_infra_Token [v23] H τ fun v24 H25 τ26 => condK v24 (call f_infra_Lower [v23] H25 τ26 fun v27 H28 τ29 => someK (lLook (.int .i64 (.ofNat 0)) false [t8, v27] H28) fun v30 => binK .add v30 (.int .i64 (.ofNat 1)) fun v31 => effK (eMput [t8, v27, v31] H28 τ29) fun v32 H33 τ34 => s_cors_Exposed_j2 call N k ⟨(T.set (T.set (T.set (T.set (T.set (T.set (T.set (T.set (T.set (T.set (T.set .leaf 8 t8) 10 v23) 23 t23) 24 t24) 25 t25) 30 v24) 31 t8) 32 v23) 33 v27) 34 v30) 35 v31), H33⟩ τ34) (s_cors_Exposed_j2 call N k ⟨(T.set (T.set (T.set (T.set (T.set (T.set .leaf 8 t8) 10 v23) 23 t23) 24 t24) 25 t25) 30 v24), H25⟩ τ26)) (k (.exit 0) ⟨(T.set .leaf 8 t8), H⟩ τ)
def s_cors_Exposed (call : CallK) (N : Nat) (a0 a1 : V) (H : Heap) (τ : Tape) (q : KV) : Ans := call f_headers_Split [a0, (.str (bs [97, 99, 99, 101, 115, 115, 45, 99, 111, 110, 116, 114, 111, 108, 45, 101, 120, 112, 111, 115, 101, 45, 104, 101, 97, 100, 101, 114, 115]))] H τ fun v0 H1 τ2 => someK (pExtract 0 [v0]) fun v3 => someK (pExtract 1 [v0]) fun v4 => unK .not a1 fun v5 => gK v5 true (fun q' => q' v3 H1 τ2) H1 τ2 fun v6 H7 τ8 => gK v5 true (fun q' => call f_slices_Contains_string [v6, (.str (bs [42]))] H7 τ8 q') H7 τ8 fun v9 H10 τ11 => someK (pPick [v5, v9, (.bool false)]) fun v12 => condK v12 (q (.tup [.nils, (.bool true)]) H10 τ11) (effK (eMkMap [] H10 τ11) fun v13 H14 τ15 => someK (pLen [v3]) fun v16 =>
    loopK (s_cors_Exposed_l1 call N) N ⟨(T.set (T.set (T.set (T.set .leaf 8 v13) 23 v3) 24 v16) 25 (.int .i64 (.ofNat 0))), H14⟩ τ15 (blockK 0 (seqK (s_cors_Exposed_j0 call N q) (endK [(.t 4), (.t 5)] q))))
theorem s_cors_Exposed_eq (call : CallK) (N : Nat) (a0 a1 : V) (H : Heap) (τ : Tape) (q : KV) : s_cors_Exposed call N a0 a1 H τ q = funK call N fn_cors_Exposed [a0, a1] H τ q := by kernel_rfl
def e_cors_Exposed (call : CallK) (N : Nat) (vs : List V) (H : Heap) (τ : Tape) (q : KV) : Ans := match vs with | [a0, a1] => s_cors_Exposed call N a0 a1 H τ q | _ => none
theorem e_cors_Exposed_ok : EntOk fn_cors_Exposed e_cors_Exposed := by
  intro call N vs H τ q r h
  unfold e_cors_Exposed at h
  split at h
  · rw [s_cors_Exposed_eq] at h; exact h
  · cases h
theorem e_cors_Exposed_nat : EntNat e_cors_Exposed := by
  intro c hn N vs H τ q
  unfold e_cors_Exposed
  split
  · rw [s_cors_Exposed_eq, s_cors_Exposed_eq]; exact funK_ent hn _ _ _ _ _ _
  · rfl
/-- ostiary/cors.Method -/
def fn_cors_Method : Fun := ⟨1, (.seq (.reg [iR 2 (.p .mv) [(.c (.str []))], iR 3 (.p .mv) [(.c (.bool false))]]) (.keep [0] (.seq (.seq (.reg [iR 4 (.p .mv) [(.t 0)], iR 5 (.call 75) [(.t 4)], iR 6 (.p (.un .not)) [(.t 5)]]) (.keep [0, 6] (.cond (.t 6) (.seq (.reg [iR 2 (.p .mv) [(.c (.str []))], iR 3 (.p .mv) [(.c (.bool false))]]) (.keep [2, 3] (.keep [2, 3] .ret))) .skip))) (.keep [0] (.seq (.seq (.reg [iR 7 (.p .mv) [(.t 0)], iR 8 (.call 59) [(.t 7)]]) (.keep [0, 8] (.block 0 (.seq (.seq (.reg [iR 10 (.p (.bin .eql)) [(.t 8), (.c (.str (bs [99, 111, 110, 110, 101, 99, 116])))], iR 9 (.p .mv) [(.t 10)]]) (.keep [0, 8, 9] (.cond (.t 9) .skip (.seq (.reg [iR 11 (.p (.bin .eql)) [(.t 8), (.c (.str (bs [116, 114, 97, 99, 101])))], iR 9 (.p .mv) [(.t 11)]]) (.keep [0, 8, 9] (.cond (.t 9) .skip (.reg [iR 12 (.p (.bin .eql)) [(.t 8), (.c (.str (bs [116, 114, 97, 99, 107])))],
    iR 9 (.p .mv) [(.t 12)]]))))))) (.keep [0, 8, 9] (.cond (.t 9) (.seq (.reg [iR 2 (.p .mv) [(.c (.str []))], iR 3 (.p .mv) [(.c (.bool false))]]) (.keep [2, 3] (.keep [2, 3] .ret))) (.seq (.reg [iR 14 (.p (.bin .eql)) [(.t 8), (.c (.str (bs [100, 101, 108, 101, 116, 101])))], iR 13 (.p .mv) [(.t 14)]]) (.keep [0, 8, 13] (.cond (.t 13) (.seq (.reg [iR 2 (.p .mv) [(.c (.str (bs [68, 69, 76, 69, 84, 69])))], iR 3 (.p .mv) [(.c (.bool true))]]) (.keep [2, 3] (.keep [2, 3] .ret))) (.seq (.reg [iR 16 (.p (.bin .eql)) [(.t 8), (.c (.str (bs [103, 101, 116])))], iR 15 (.p .mv) [(.t 16)]]) (.keep [0, 8, 15] (.cond (.t 15) (.seq (.reg [iR 2 (.p .mv) [(.c (.str (bs [71, 69, 84])))], iR 3 (.p .mv) [(.c (.bool true))]]) (.keep [2, 3] (.keep [2, 3] .ret))) (.seq (.reg [iR 18 (.p (.bin .eql)) [(.t 8), (.c (.str (bs [104, 101, 97, 100])))], iR 17 (.p .mv) [(.t 18)]])
    (.keep [0, 8, 17] (.cond (.t 17) (.seq (.reg [iR 2 (.p .mv) [(.c (.str (bs [72, 69, 65, 68])))], iR 3 (.p .mv) [(.c (.bool true))]]) (.keep [2, 3] (.keep [2, 3] .ret))) (.seq (.reg [iR 20 (.p (.bin .eql)) [(.t 8), (.c (.str (bs [111, 112, 116, 105, 111, 110, 115])))], iR 19 (.p .mv) [(.t 20)]]) (.keep [0, 8, 19] (.cond (.t 19) (.seq (.reg [iR 2 (.p .mv) [(.c (.str (bs [79, 80, 84, 73, 79, 78, 83])))], iR 3 (.p .mv) [(.c (.bool true))]]) (.keep [2, 3] (.keep [2, 3] .ret))) (.seq (.reg [iR 22 (.p (.bin .eql)) [(.t 8), (.c (.str (bs [112, 111, 115, 116])))], iR 21 (.p .mv) [(.t 22)]]) (.keep [0, 8, 21] (.cond (.t 21) (.seq (.reg [iR 2 (.p .mv) [(.c (.str (bs [80, 79, 83, 84])))], iR 3 (.p .mv) [(.c (.bool true))]]) (.keep [2, 3] (.keep [2, 3] .ret))) (.seq (.reg [iR 24 (.p (.bin .eql)) [(.t 8), (.c (.str (bs [112, 117, 116])))], iR 23 (.p .mv) [(.t 24)]])
    (.keep [0, 23] (.cond (.t 23) (.seq (.reg [iR 2 (.p .mv) [(.c (.str (bs [80, 85, 84])))], iR 3 (.p .mv) [(.c (.bool true))]]) (.keep [2, 3] (.keep [2, 3] .ret))) .skip)))))))))))))))))))))))) (.keep [0] (.seq (.reg [iR 25 (.p .mv) [(.t 0)], iR 2 (.p .mv) [(.t 25)], iR 3 (.p .mv) [(.c (.bool true))]]) (.keep [2, 3] (.keep [2, 3] .ret))))))))), [(.t 2), (.t 3)]⟩
def s_cors_Method_j0 (call : CallK) (N : Nat) (q : KV) (st : St) (τ : Tape) : Ans := match st with
  | ⟨fr, H⟩ => getK fr 0 fun t0 => q (.tup [t0, (.bool true)]) H τ
def s_cors_Method_j1 (call : CallK) (N : Nat) (q : KV) (st : St) (τ : Tape) : Ans := match st with
  | ⟨fr, H⟩ => getK fr 0 fun t0 => getK fr 8 fun t8 => getK fr 9 fun t9 => condK t9 (q (.tup [(.str []), (.bool false)]) H τ) (binK .eql t8 (.str (bs [100, 101, 108, 101, 116, 101])) fun v8 => condK v8 (q (.tup [(.str (bs [68, 69, 76, 69, 84, 69])), (.bool true)]) H τ) (binK .eql t8 (.str (bs [103, 101, 116])) fun v9 => condK v9 (q (.tup [(.str (bs [71, 69, 84])), (.bool true)]) H τ) (binK .eql t8 (.str (bs [104, 101, 97, 100])) fun v10 => condK v10 (q (.tup [(.str (bs [72, 69, 65, 68])), (.bool true)]) H τ) (binK .eql t8 (.str (bs [111, 112, 116, 105, 111, 110, 115])) fun v11 => condK v11 (q (.tup [(.str (bs [79, 80, 84, 73, 79, 78, 83])), (.bool true)]) H τ) (binK .eql t8 (.str (bs [112, 111, 115, 116])) fun v12 => condK v12 (q (.tup [(.str (bs [80, 79, 83, 84])), (.bool true)]) H τ) (binK .eql t8 (.str (bs [112, 117, 116])) fun v13 => condK v13
    (q (.tup [(.str (bs [80, 85, 84])), (.bool true)]) H τ) (s_cors_Method_j0 call N q ⟨(T.set (T.set .leaf 0 t0) 23 v13), H⟩ τ)))))))
def s_cors_Method (call : CallK) (N : Nat) (a0 : V) (H : Heap) (τ : Tape) (q : KV) : Ans := call f_infra_Token [a0] H τ fun v0 H1 τ2 => unK .not v0 fun v3 => condK v3 (q (.tup [(.str []), (.bool false)]) H1 τ2) (call f_infra_Lower [a0] H1 τ2 fun v4 H5 τ6 => binK .eql v4 (.str (bs [99, 111, 110, 110, 101, 99, 116])) fun v7 => condK v7 (s_cors_Method_j1 call N q ⟨(T.set (T.set (T.set .leaf 0 a0) 8 v4) 9 v7), H5⟩ τ6) (binK .eql v4 (.str (bs [116, 114, 97, 99, 101])) fun v14 => condK v14 (s_cors_Method_j1 call N q ⟨(T.set (T.set (T.set .leaf 0 a0) 8 v4) 9 v14), H5⟩ τ6) (binK .eql v4 (.str (bs [116, 114, 97, 99, 107])) fun v15 => s_cors_Method_j1 call N q ⟨(T.set (T.set (T.set (T.set (T.set .leaf 0 a0) 8 v4) 9 v14) 12 v15) 9 v15), H5⟩ τ6)))
theorem s_cors_Method_eq (call : CallK) (N : Nat) (a0 : V) (H : Heap) (τ : Tape) (q : KV) : s_cors_Method call N a0 H τ q = funK call N fn_cors_Method [a0] H τ q := by kernel_rfl
def e_cors_Method (call : CallK) (N : Nat) (vs : List V) (H : Heap) (τ : Tape) (q : KV) : Ans := match vs with | [a0] => s_cors_Method call N a0 H τ q | _ => none
theorem e_cors_Method_ok : EntOk fn_cors_Method e_cors_Method := by
  intro call N vs H τ q r h
  unfold e_cors_Method at h
  split at h
  · rw [s_cors_Method_eq] at h; exact h
  · cases h
theorem e_cors_Method_nat : EntNat e_cors_Method := by
  intro c hn N vs H τ q
  unfold e_cors_Method
  split
  · rw [s_cors_Method_eq, s_cors_Method_eq]; exact funK_ent hn _ _ _ _ _ _
  · rfl
/-- ostiary/ostiarylaw18.allow -/
def fn_law18_allow : Fun := ⟨1, (.seq (.reg [iR 2 (.p .mv) [(.c .nils)]]) (.keep [0] (.seq (.reg [iR 3 (.p .mv) [(.t 0)], iR 4 (.p (.build [(.str []), (.str [])] [(0, 1), (1, 1)])) [(.c (.str (bs [65, 99, 99, 101, 115, 115, 45, 67, 111, 110, 116, 114, 111, 108, 45, 65, 108, 108, 111, 119, 45, 79, 114, 105, 103, 105, 110]))), (.t 3)], iR 5 (.e (.buildSlice 1 2 [(.str []), (.str [])] [(0, 2)])) [(.t 4)], iR 2 (.p .mv) [(.t 5)]]) (.keep [2] (.keep [2] .ret))))), [(.t 2)]⟩
def s_law18_allow (call : CallK) (N : Nat) (a0 : V) (H : Heap) (τ : Tape) (q : KV) : Ans := someK (pBuild [(.str []), (.str [])] [(0, 1), (1, 1)] [(.str (bs [65, 99, 99, 101, 115, 115, 45, 67, 111, 110, 116, 114, 111, 108, 45, 65, 108, 108, 111, 119, 45, 79, 114, 105, 103, 105, 110])), a0]) fun v0 => effK (eBuildSlice 1 2 [(.str []), (.str [])] [(0, 2)] [v0] H τ) fun v1 H2 τ3 => q v1 H2 τ3
theorem s_law18_allow_eq (call : CallK) (N : Nat) (a0 : V) (H : Heap) (τ : Tape) (q : KV) : s_law18_allow call N a0 H τ q = funK call N fn_law18_allow [a0] H τ q := by kernel_rfl
def e_law18_allow (call : CallK) (N : Nat) (vs : List V) (H : Heap) (τ : Tape) (q : KV) : Ans := match vs with | [a0] => s_law18_allow call N a0 H τ q | _ => none
theorem e_law18_allow_ok : EntOk fn_law18_allow e_law18_allow := by
  intro call N vs H τ q r h
  unfold e_law18_allow at h
  split at h
  · rw [s_law18_allow_eq] at h; exact h
  · cases h
theorem e_law18_allow_nat : EntNat e_law18_allow := by
  intro c hn N vs H τ q
  unfold e_law18_allow
  split
  · rw [s_law18_allow_eq, s_law18_allow_eq]; exact funK_ent hn _ _ _ _ _ _
  · rfl
/-- ostiary/cors.Check -/
def fn_cors_Check : Fun := ⟨3, (.seq (.reg [iR 3 (.e .box) [(.t 0)], iR 6 (.p .mv) [(.c (.bool false))]]) (.keep [1, 2, 3] (.seq (.reg [iR 10 (.p .mv) [(.t 2)], iR 11 (.call 60) [(.t 10), (.c (.str (bs [97, 99, 99, 101, 115, 115, 45, 99, 111, 110, 116, 114, 111, 108, 45, 97, 108, 108, 111, 119, 45, 111, 114, 105, 103, 105, 110])))], iR 9 (.p .mv) [(.t 11)], iR 12 (.p (.extract 0)) [(.t 9)], iR 13 (.p (.extract 1)) [(.t 9)], iR 7 (.p .mv) [(.t 12)], iR 8 (.p .mv) [(.t 13)]]) (.keep [1, 2, 3, 7, 8] (.seq (.block 0 (.seq (.reg [iR 15 (.p .mv) [(.t 8)], iR 16 (.p (.un .not)) [(.t 15)], iR 14 (.p .mv) [(.t 16)]]) (.keep [1, 2, 3, 7, 14] (.cond (.t 14) (.seq (.reg [iR 6 (.p .mv) [(.c (.bool false))]]) (.keep [6] (.keep [6] .ret))) (.seq (.reg [iR 18 (.p .mv) [(.t 7)], iR 19 (.p (.bin .eql)) [(.t 18), (.c (.str (bs [42])))], iR 20 (.p .mv) [(.t 19)], iG 21 20 true (.p .mv) [(.t 1)],
    iG 22 20 true (.p (.un .not)) [(.t 21)], iR 23 (.p .pick) [(.t 20), (.t 22), (.c (.bool false))], iR 17 (.p .mv) [(.t 23)]]) (.keep [1, 2, 3, 7, 17] (.cond (.t 17) (.seq (.reg [iR 6 (.p .mv) [(.c (.bool true))]]) (.keep [6] (.keep [6] .ret))) (.seq (.reg [iR 25 (.p .mv) [(.t 7)], iR 26 (.l (.load (some 4))) [(.t 3)], iR 27 (.call 76) [(.t 26)], iR 28 (.p (.bin .neq)) [(.t 25), (.t 27)], iR 24 (.p .mv) [(.t 28)]]) (.keep [1, 2, 24] (.cond (.t 24) (.seq (.reg [iR 6 (.p .mv) [(.c (.bool false))]]) (.keep [6] (.keep [6] .ret))) .skip)))))))))) (.keep [1, 2] (.seq (.reg [iR 30 (.p .mv) [(.t 2)], iR 31 (.call 60) [(.t 30), (.c (.str (bs [97, 99, 99, 101, 115, 115, 45, 99, 111, 110, 116, 114, 111, 108, 45, 97, 108, 108, 111, 119, 45, 99, 114, 101, 100, 101, 110, 116, 105, 97, 108, 115])))], iR 29 (.p .mv) [(.t 31)], iR 32 (.p (.extract 0)) [(.t 29)], iR 33 (.p (.extract 1)) [(.t 29)],
    iR 7 (.p .mv) [(.t 32)]]) (.keep [1, 7] (.seq (.reg [iR 34 (.p .mv) [(.t 1)], iR 35 (.p (.un .not)) [(.t 34)], iR 36 (.p .mv) [(.t 35)], iG 37 36 false (.p .mv) [(.t 7)], iG 38 36 false (.p (.bin .eql)) [(.t 37), (.c (.str (bs [116, 114, 117, 101])))], iR 39 (.p .pick) [(.t 36), (.c (.bool true)), (.t 38)], iR 6 (.p .mv) [(.t 39)]]) (.keep [6] (.keep [6] .ret))))))))))), [(.t 6)]⟩
def s_cors_Check (call : CallK) (N : Nat) (a0 a1 a2 : V) (H : Heap) (τ : Tape) (q : KV) : Ans := effK (eBox [a0] H τ) fun v0 H1 τ2 => call f_headers_Get [a2, (.str (bs [97, 99, 99, 101, 115, 115, 45, 99, 111, 110, 116, 114, 111, 108, 45, 97, 108, 108, 111, 119, 45, 111, 114, 105, 103, 105, 110]))] H1 τ2 fun v3 H4 τ5 => someK (pExtract 0 [v3]) fun v6 => someK (pExtract 1 [v3]) fun v7 => unK .not v7 fun v8 => condK v8 (q (.bool false) H4 τ5) (binK .eql v6 (.str (bs [42])) fun v9 => gK v9 true (fun q' => q' a1 H4 τ5) H4 τ5 fun v10 H11 τ12 => gK v9 true (fun q' => unK .not v10 fun v => q' v H11 τ12) H11 τ12 fun v13 H14 τ15 => someK (pPick [v9, v13, (.bool false)]) fun v16 => condK v16 (q (.bool true) H14 τ15) (someK (lLoadN 4 [v0] H14) fun v17 => call f_origin_Text [v17] H14 τ15 fun v18 H19 τ20 => binK .neq v6 v18 fun v21 => condK v21 (q (.bool false) H19 τ20)
    (call f_headers_Get [a2, (.str (bs [97, 99, 99, 101, 115, 115, 45, 99, 111, 110, 116, 114, 111, 108, 45, 97, 108, 108, 111, 119, 45, 99, 114, 101, 100, 101, 110, 116, 105, 97, 108, 115]))] H19 τ20 fun v22 H23 τ24 => someK (pExtract 0 [v22]) fun v25 => someK (pExtract 1 [v22]) fun v26 => unK .not a1 fun v27 => gK v27 false (fun q' => q' v25 H23 τ24) H23 τ24 fun v28 H29 τ30 => gK v27 false (fun q' => binK .eql v28 (.str (bs [116, 114, 117, 101])) fun v => q' v H29 τ30) H29 τ30 fun v31 H32 τ33 => someK (pPick [v27, (.bool true), v31]) fun v34 => q v34 H32 τ33)))
theorem s_cors_Check_eq (call : CallK) (N : Nat) (a0 a1 a2 : V) (H : Heap) (τ : Tape) (q : KV) : s_cors_Check call N a0 a1 a2 H τ q = funK call N fn_cors_Check [a0, a1, a2] H τ q := by kernel_rfl
def e_cors_Check (call : CallK) (N : Nat) (vs : List V) (H : Heap) (τ : Tape) (q : KV) : Ans := match vs with | [a0, a1, a2] => s_cors_Check call N a0 a1 a2 H τ q | _ => none
theorem e_cors_Check_ok : EntOk fn_cors_Check e_cors_Check := by
  intro call N vs H τ q r h
  unfold e_cors_Check at h
  split at h
  · rw [s_cors_Check_eq] at h; exact h
  · cases h
theorem e_cors_Check_nat : EntNat e_cors_Check := by
  intro c hn N vs H τ q
  unfold e_cors_Check
  split
  · rw [s_cors_Check_eq, s_cors_Check_eq]; exact funK_ent hn _ _ _ _ _ _
  · rfl
/-- ostiary/ostiarylaw18.of -/
def fn_law18_of : Fun := ⟨1, (.seq (.reg [iR 2 (.e (.alloc [(.str []), (.str []), (.int .i64 (.ofNat 0)), (.bool false)])) []]) (.keep [0, 2] (.seq (.reg [iR 6 (.p .mv) [(.t 0)], iR 7 (.call 62) [(.t 6)], iR 5 (.p .mv) [(.t 7)], iR 8 (.p (.extract 0)) [(.t 5)], iR 9 (.p (.extract 1)) [(.t 5)], iR 3 (.e (.alloc [(.str []), (.str []), (.str []), (.str []), (.bool false), (.int .i64 (.ofNat 0)), (.bool false), .nils, (.str []), (.str []), (.bool false), (.bool false)])) [], ⟨none, none, (.e (.store 12)), [(.t 3), (.t 8)], none⟩, iR 4 (.p .mv) [(.t 9)]]) (.keep [2, 3] (.seq (.reg [iR 10 (.l (.load (some 12))) [(.t 3)], iR 11 (.call 63) [(.t 10)], ⟨none, none, (.e (.store 4)), [(.t 2), (.t 11)], none⟩]) (.keep [2] (.keep [2] .ret))))))), [(.cell 2 (some 4))]⟩
def s_law18_of (call : CallK) (N : Nat) (a0 : V) (H : Heap) (τ : Tape) (q : KV) : Ans := effK (eAlloc [(.str []), (.str []), (.int .i64 (.ofNat 0)), (.bool false)] [] H τ) fun v0 H1 τ2 => call f_keep_URL [a0] H1 τ2 fun v3 H4 τ5 => someK (pExtract 0 [v3]) fun v6 => someK (pExtract 1 [v3]) fun v7 => effK (eAlloc [(.str []), (.str []), (.str []), (.str []), (.bool false), (.int .i64 (.ofNat 0)), (.bool false), .nils, (.str []), (.str []), (.bool false), (.bool false)] [] H4 τ5) fun v8 H9 τ10 => effK (eStore 12 [v8, v6] H9 τ10) fun v11 H12 τ13 => someK (lLoadN 12 [v8] H12) fun v14 => call f_ref4_Of [v14] H12 τ13 fun v15 H16 τ17 => effK (eStore 4 [v0, v15] H16 τ17) fun v18 H19 τ20 => someK (results ⟨(T.set .leaf 2 v0), H19⟩ [(.cell 2 (some 4))]) fun v => q v H19 τ20
theorem s_law18_of_eq (call : CallK) (N : Nat) (a0 : V) (H : Heap) (τ : Tape) (q : KV) : s_law18_of call N a0 H τ q = funK call N fn_law18_of [a0] H τ q := by kernel_rfl
def e_law18_of (call : CallK) (N : Nat) (vs : List V) (H : Heap) (τ : Tape) (q : KV) : Ans := match vs with | [a0] => s_law18_of call N a0 H τ q | _ => none
theorem e_law18_of_ok : EntOk fn_law18_of e_law18_of := by
  intro call N vs H τ q r h
  unfold e_law18_of at h
  split at h
  · rw [s_law18_of_eq] at h; exact h
  · cases h
theorem e_law18_of_nat : EntNat e_law18_of := by
  intro c hn N vs H τ q
  unfold e_law18_of
  split
  · rw [s_law18_of_eq, s_law18_of_eq]; exact funK_ent hn _ _ _ _ _ _
  · rfl
/-- ostiary/cors.Simple -/
def fn_cors_Simple : Fun := ⟨1, (.seq (.reg [iR 2 (.p .mv) [(.c (.bool false))]]) (.keep [0] (.seq (.reg [iR 3 (.p .mv) [(.t 0)], iR 4 (.p (.bin .eql)) [(.t 3), (.c (.str (bs [71, 69, 84])))], iR 5 (.p .mv) [(.t 4)], iG 6 5 false (.p .mv) [(.t 0)], iG 7 5 false (.p (.bin .eql)) [(.t 6), (.c (.str (bs [72, 69, 65, 68])))], iR 8 (.p .pick) [(.t 5), (.c (.bool true)), (.t 7)], iR 9 (.p .mv) [(.t 8)], iG 10 9 false (.p .mv) [(.t 0)], iG 11 9 false (.p (.bin .eql)) [(.t 10), (.c (.str (bs [80, 79, 83, 84])))], iR 12 (.p .pick) [(.t 9), (.c (.bool true)), (.t 11)], iR 2 (.p .mv) [(.t 12)]]) (.keep [2] (.keep [2] .ret))))), [(.t 2)]⟩
def s_cors_Simple (call : CallK) (N : Nat) (a0 : V) (H : Heap) (τ : Tape) (q : KV) : Ans := binK .eql a0 (.str (bs [71, 69, 84])) fun v0 => gK v0 false (fun q' => q' a0 H τ) H τ fun v1 H2 τ3 => gK v0 false (fun q' => binK .eql v1 (.str (bs [72, 69, 65, 68])) fun v => q' v H2 τ3) H2 τ3 fun v4 H5 τ6 => someK (pPick [v0, (.bool true), v4]) fun v7 => gK v7 false (fun q' => q' a0 H5 τ6) H5 τ6 fun v8 H9 τ10 => gK v7 false (fun q' => binK .eql v8 (.str (bs [80, 79, 83, 84])) fun v => q' v H9 τ10) H9 τ10 fun v11 H12 τ13 => someK (pPick [v7, (.bool true), v11]) fun v14 => q v14 H12 τ13
theorem s_cors_Simple_eq (call : CallK) (N : Nat) (a0 : V) (H : Heap) (τ : Tape) (q : KV) : s_cors_Simple call N a0 H τ q = funK call N fn_cors_Simple [a0] H τ q := by kernel_rfl
def e_cors_Simple (call : CallK) (N : Nat) (vs : List V) (H : Heap) (τ : Tape) (q : KV) : Ans := match vs with | [a0] => s_cors_Simple call N a0 H τ q | _ => none
theorem e_cors_Simple_ok : EntOk fn_cors_Simple e_cors_Simple := by
  intro call N vs H τ q r h
  unfold e_cors_Simple at h
  split at h
  · rw [s_cors_Simple_eq] at h; exact h
  · cases h
theorem e_cors_Simple_nat : EntNat e_cors_Simple := by
  intro c hn N vs H τ q
  unfold e_cors_Simple
  split
  · rw [s_cors_Simple_eq, s_cors_Simple_eq]; exact funK_ent hn _ _ _ _ _ _
  · rfl
/-- slices.Contains[[]string,string] -/
def fn_slices_Contains_string : Fun := ⟨2, (.seq (.reg [iR 4 (.p .mv) [(.c (.bool false))]]) (.keep [0, 1] (.seq (.reg [iR 5 (.p .mv) [(.t 0)], iR 6 (.p .mv) [(.t 1)], iR 7 (.call 82) [(.t 5), (.t 6)], iR 8 (.p (.bin .geq)) [(.t 7), (.c (.int .i64 (.ofNat 0)))], iR 4 (.p .mv) [(.t 8)]]) (.keep [4] (.keep [4] .ret))))), [(.t 4)]⟩
def s_slices_Contains_string (call : CallK) (N : Nat) (a0 a1 : V) (H : Heap) (τ : Tape) (q : KV) : Ans := call f_slices_Index_string [a0, a1] H τ fun v0 H1 τ2 => binK .geq v0 (.int .i64 (.ofNat 0)) fun v3 => q v3 H1 τ2
theorem s_slices_Contains_string_eq (call : CallK) (N : Nat) (a0 a1 : V) (H : Heap) (τ : Tape) (q : KV) : s_slices_Contains_string call N a0 a1 H τ q = funK call N fn_slices_Contains_string [a0, a1] H τ q := by kernel_rfl
def e_slices_Contains_string (call : CallK) (N : Nat) (vs : List V) (H : Heap) (τ : Tape) (q : KV) : Ans := match vs with | [a0, a1] => s_slices_Contains_string call N a0 a1 H τ q | _ => none
theorem e_slices_Contains_string_ok : EntOk fn_slices_Contains_string e_slices_Contains_string := by
  intro call N vs H τ q r h
  unfold e_slices_Contains_string at h
  split at h
  · rw [s_slices_Contains_string_eq] at h; exact h
  · cases h
theorem e_slices_Contains_string_nat : EntNat e_slices_Contains_string := by
  intro c hn N vs H τ q
  unfold e_slices_Contains_string
  split
  · rw [s_slices_Contains_string_eq, s_slices_Contains_string_eq]; exact funK_ent hn _ _ _ _ _ _
  · rfl
/-- ostiary/ostiaryref1.Lower -/
def fn_ref1_Lower : Fun := ⟨1, (.seq (.reg [iR 2 (.p .mv) [(.c (.str []))]]) (.keep [0] (.seq (.reg [iR 5 (.p .mv) [(.t 0)], iR 6 (.e .strBytes) [(.t 5)], iR 3 (.p .mv) [(.t 6)]]) (.keep [3] (.seq (.seq (.reg [iR 4 (.p .mv) [(.c (.int .i64 (.ofNat 0)))]]) (.keep [3, 4] (.block 0 (.loop (.keep [3, 4] (.seq (.seq (.reg [iR 7 (.p .mv) [(.t 4)], iR 8 (.p .mv) [(.t 3)], iR 9 (.p .len) [(.t 8)], iR 10 (.p (.bin .lss)) [(.t 7), (.t 9)]]) (.keep [3, 4, 10] (.cond (.t 10) .skip (.keep [3] (.exit 0))))) (.keep [3, 4] (.seq (.block 1 (.seq (.reg [iR 13 (.p .mv) [(.t 3)], iR 14 (.p .mv) [(.t 4)], iR 15 (.p (.slIdx 1)) [(.t 13), (.t 14)], iR 16 (.l (.load none)) [(.t 15)], iR 17 (.p (.bin .geq)) [(.t 16), (.c (.int .u8 (.ofNat 65)))], iR 18 (.p .mv) [(.t 17)], iG 19 18 true (.p .mv) [(.t 3)], iG 20 18 true (.p .mv) [(.t 4)], iG 21 18 true (.p (.slIdx 1)) [(.t 19), (.t 20)],
    iG 22 18 true (.l (.load none)) [(.t 21)], iG 23 18 true (.p (.bin .leq)) [(.t 22), (.c (.int .u8 (.ofNat 90)))], iR 24 (.p .pick) [(.t 18), (.t 23), (.c (.bool false))]]) (.keep [3, 4, 24] (.cond (.t 24) (.reg [iR 25 (.p .mv) [(.t 3)], iR 26 (.p .mv) [(.t 4)], iR 27 (.p .mv) [(.t 3)], iR 28 (.p .mv) [(.t 4)], iR 29 (.p (.slIdx 1)) [(.t 27), (.t 28)], iR 30 (.l (.load none)) [(.t 29)], iR 31 (.p (.bin .add)) [(.t 30), (.c (.int .u8 (.ofNat 32)))], iR 32 (.p (.slIdx 1)) [(.t 25), (.t 26)], ⟨none, none, (.e (.store 1)), [(.t 32), (.t 31)], none⟩]) .skip)))) (.keep [3, 4] (.reg [iR 11 (.p .mv) [(.t 4)], iR 12 (.p (.bin .add)) [(.t 11), (.c (.int .i64 (.ofNat 1)))], iR 4 (.p .mv) [(.t 12)]])))))))))) (.keep [3] (.seq (.reg [iR 33 (.p .mv) [(.t 3)], iR 34 (.l .bytesStr) [(.t 33)], iR 2 (.p .mv) [(.t 34)]]) (.keep [2] (.keep [2] .ret))))))))), [(.t 2)]⟩
def s_ref1_Lower_j0 (call : CallK) (N : Nat) (q : KV) (st : St) (τ : Tape) : Ans := match st with
  | ⟨fr, H⟩ => getK fr 3 fun t3 => someK (lBytesStr [t3] H) fun v3 => q v3 H τ
def s_ref1_Lower_j2 (call : CallK) (N : Nat) (k : KC) (st : St) (τ : Tape) : Ans := match st with
  | ⟨fr, H⟩ => getK fr 3 fun t3 => getK fr 4 fun t4 => binK .add t4 (.int .i64 (.ofNat 1)) fun v6 => k .normal ⟨(T.set (T.set (T.set (T.set (T.set .leaf 3 t3) 4 t4) 11 t4) 12 v6) 4 v6), H⟩ τ
def s_ref1_Lower_l1 (call : CallK) (N : Nat) (st : St) (τ : Tape) (k : KC) : Ans := match st with
  | ⟨fr, H⟩ => getK fr 3 fun t3 => getK fr 4 fun t4 => someK (pLen [t3]) fun v4 => binK .lss t4 v4 fun v5 => condK v5 (someK (pSlIdx 1 [t3, t4]) fun v7 => someK (lLoad1 [v7] H) fun v8 => binK .geq v8 (.int .u8 (.ofNat 65)) fun v9 => gK v9 true (fun q' => q' t3 H τ) H τ fun v10 H11 τ12 => gK v9 true (fun q' => q' t4 H11 τ12) H11 τ12 fun v13 H14 τ15 => gK v9 true (fun q' => someK (pSlIdx 1 [v10, v13]) fun v => q' v H14 τ15) H14 τ15 fun v16 H17 τ18 => gK v9 true (fun q' => someK (lLoad1 [v16] H17) fun v => q' v H17 τ18) H17 τ18 fun v19 H20 τ21 => gK v9 true (fun q' => binK .leq v19 (.int .u8 (.ofNat 90)) fun v => q' v H20 τ21) H20 τ21 fun v22 H23 τ24 => someK (pPick [v9, v22, (.bool false)]) fun v25 => condK v25 (someK (pSlIdx 1 [t3, t4]) fun v26 => someK (lLoad1 [v26] H23) fun v27 => binK .add v27 (.int .u8 (.ofNat 32)) fun v28 => someK (pSlIdx 1 [t3, t4]) fun v29 =>
    effK (eStore 1 [v29, v28] H23 τ24) fun v30 H31 τ32 => s_ref1_Lower_j2 call N k ⟨(T.set (T.set (T.set (T.set (T.set (T.set (T.set (T.set (T.set (T.set (T.set .leaf 3 t3) 4 t4) 24 v25) 25 t3) 26 t4) 27 t3) 28 t4) 29 v26) 30 v27) 31 v28) 32 v29), H31⟩ τ32) (s_ref1_Lower_j2 call N k ⟨(T.set (T.set (T.set .leaf 3 t3) 4 t4) 24 v25), H23⟩ τ24)) (k (.exit 0) ⟨(T.set .leaf 3 t3), H⟩ τ)
def s_ref1_Lower (call : CallK) (N : Nat) (a0 : V) (H : Heap) (τ : Tape) (q : KV) : Ans := effK (eStrBytes [a0] H τ) fun v0 H1 τ2 => loopK (s_ref1_Lower_l1 call N) N ⟨(T.set (T.set .leaf 3 v0) 4 (.int .i64 (.ofNat 0))), H1⟩ τ2 (blockK 0 (seqK (s_ref1_Lower_j0 call N q) (endK [(.t 2)] q)))
theorem s_ref1_Lower_eq (call : CallK) (N : Nat) (a0 : V) (H : Heap) (τ : Tape) (q : KV) : s_ref1_Lower call N a0 H τ q = funK call N fn_ref1_Lower [a0] H τ q := by kernel_rfl
def e_ref1_Lower (call : CallK) (N : Nat) (vs : List V) (H : Heap) (τ : Tape) (q : KV) : Ans := match vs with | [a0] => s_ref1_Lower call N a0 H τ q | _ => none
theorem e_ref1_Lower_ok : EntOk fn_ref1_Lower e_ref1_Lower := by
  intro call N vs H τ q r h
  unfold e_ref1_Lower at h
  split at h
  · rw [s_ref1_Lower_eq] at h; exact h
  · cases h
theorem e_ref1_Lower_nat : EntNat e_ref1_Lower := by
  intro c hn N vs H τ q
  unfold e_ref1_Lower
  split
  · rw [s_ref1_Lower_eq, s_ref1_Lower_eq]; exact funK_ent hn _ _ _ _ _ _
  · rfl
/-- ostiary/infra.Lower -/
def fn_infra_Lower : Fun := ⟨1, (.seq (.reg [iR 2 (.p .mv) [(.c (.str []))]]) (.keep [0] (.seq (.reg [iR 3 (.p .mv) [(.t 0)], iR 4 (.call 85) [(.t 3), (.c (.func 86 [] []))], iR 2 (.p .mv) [(.t 4)]]) (.keep [2] (.keep [2] .ret))))), [(.t 2)]⟩
def s_infra_Lower (call : CallK) (N : Nat) (a0 : V) (H : Heap) (τ : Tape) (q : KV) : Ans := call f_infra_mapped [a0, (.func f_infra_Lower_1 [] [])] H τ fun v0 H1 τ2 => q v0 H1 τ2
theorem s_infra_Lower_eq (call : CallK) (N : Nat) (a0 : V) (H : Heap) (τ : Tape) (q : KV) : s_infra_Lower call N a0 H τ q = funK call N fn_infra_Lower [a0] H τ q := by kernel_rfl
def e_infra_Lower (call : CallK) (N : Nat) (vs : List V) (H : Heap) (τ : Tape) (q : KV) : Ans := match vs with | [a0] => s_infra_Lower call N a0 H τ q | _ => none
theorem e_infra_Lower_ok : EntOk fn_infra_Lower e_infra_Lower := by
  intro call N vs H τ q r h
  unfold e_infra_Lower at h
  split at h
  · rw [s_infra_Lower_eq] at h; exact h
  · cases h
theorem e_infra_Lower_nat : EntNat e_infra_Lower := by
  intro c hn N vs H τ q
  unfold e_infra_Lower
  split
  · rw [s_infra_Lower_eq, s_infra_Lower_eq]; exact funK_ent hn _ _ _ _ _ _
  · rfl
/-- ostiary/headers.Get -/
def fn_headers_Get : Fun := ⟨2, (.seq (.reg [iR 4 (.p .mv) [(.c (.str []))], iR 5 (.p .mv) [(.c (.bool false))]]) (.keep [0, 1] (.seq (.reg [iR 6 (.p .mv) [(.c .nils)]]) (.keep [0, 1, 6] (.seq (.seq (.reg [iR 9 (.p .mv) [(.t 0)], iR 10 (.p .len) [(.t 9)], iR 11 (.p .mv) [(.c (.int .i64 (.ofNat 0)))]]) (.keep [1, 6, 9, 10, 11] (.block 0 (.loop (.keep [1, 6, 9, 10, 11] (.seq (.reg [iR 12 (.p (.bin .lss)) [(.t 11), (.t 10)]]) (.keep [1, 6, 9, 10, 11, 12] (.seq (.cond (.t 12) .skip (.keep [6] (.exit 0))) (.keep [1, 6, 9, 10, 11] (.seq (.block 1 (.seq (.reg [iR 13 (.p (.slIdx 2)) [(.t 9), (.t 11)], iR 14 (.l (.load (some 2))) [(.t 13)], iR 8 (.e (.alloc [(.str []), (.str [])])) [], ⟨none, none, (.e (.store 2)), [(.t 8), (.t 14)], none⟩]) (.keep [1, 6, 8, 9, 10, 11] (.seq (.reg [iR 15 (.l (.load (some 2))) [(.t 8)], iR 16 (.p .mv) [(.t 1)], iR 17 (.call 87) [(.t 15), (.t 16)]])
    (.keep [1, 6, 8, 9, 10, 11, 17] (.cond (.t 17) (.reg [iR 18 (.p .mv) [(.t 6)], iR 19 (.p (.fieldAddr 1)) [(.t 8)], iR 20 (.l (.load none)) [(.t 19)], iR 21 (.e (.buildSlice 1 1 [(.str [])] [(0, 1)])) [(.t 20)], iR 22 (.e (.append 1 16)) [(.t 18), (.t 21)], iR 6 (.p .mv) [(.t 22)]]) .skip)))))) (.keep [1, 6, 9, 10, 11] (.reg [iR 23 (.p (.bin .add)) [(.t 11), (.c (.int .i64 (.ofNat 1)))], iR 11 (.p .mv) [(.t 23)]])))))))))))) (.keep [6] (.seq (.reg [iR 24 (.p .mv) [(.t 6)], iR 25 (.call 88) [(.t 24), (.c (.str (bs [44, 32])))], iR 26 (.p .mv) [(.t 6)], iR 27 (.p .len) [(.t 26)], iR 28 (.p (.bin .gtr)) [(.t 27), (.c (.int .i64 (.ofNat 0)))], iR 4 (.p .mv) [(.t 25)], iR 5 (.p .mv) [(.t 28)]]) (.keep [4, 5] (.keep [4, 5] .ret))))))))), [(.t 4), (.t 5)]⟩
def s_headers_Get_j0 (call : CallK) (N : Nat) (q : KV) (st : St) (τ : Tape) : Ans := match st with
  | ⟨fr, H⟩ => getK fr 6 fun t6 => call f_strings_Join [t6, (.str (bs [44, 32]))] H τ fun v1 H2 τ3 => someK (pLen [t6]) fun v4 => binK .gtr v4 (.int .i64 (.ofNat 0)) fun v5 => q (.tup [v1, v5]) H2 τ3
def s_headers_Get_j2 (call : CallK) (N : Nat) (k : KC) (st : St) (τ : Tape) : Ans := match st with
  | ⟨fr, H⟩ => getK fr 1 fun t1 => getK fr 6 fun t6 => getK fr 9 fun t9 => getK fr 10 fun t10 => getK fr 11 fun t11 => binK .add t11 (.int .i64 (.ofNat 1)) fun v7 => k .normal ⟨(T.set (T.set (T.set (T.set (T.set (T.set (T.set .leaf 1 t1) 6 t6) 9 t9) 10 t10) 11 t11) 23 v7) 11 v7), H⟩ τ
def s_headers_Get_l1 (call : CallK) (N : Nat) (st : St) (τ : Tape) (k : KC) : Ans := match st with
  | ⟨fr, H⟩ => getK fr 1 fun t1 => getK fr 6 fun t6 => getK fr 9 fun t9 => getK fr 10 fun t10 => getK fr 11 fun t11 => binK .lss t11 t10 fun v6 => condK v6 (someK (pSlIdx 2 [t9, t11]) fun v8 => someK (lLoadN 2 [v8] H) fun v9 => effK (eAlloc [(.str []), (.str [])] [] H τ) fun v10 H11 τ12 => effK (eStore 2 [v10, v9] H11 τ12) fun v13 H14 τ15 => someK (lLoadN 2 [v10] H14) fun v16 => call f_headers_is [v16, t1] H14 τ15 fun v17 H18 τ19 => condK v17 (someK (pFieldAddr 1 [v10]) fun v20 => someK (lLoad1 [v20] H18) fun v21 => effK (eBuildSlice 1 1 [(.str [])] [(0, 1)] [v21] H18 τ19) fun v22 H23 τ24 => effK (eAppend 1 16 [t6, v22] H23 τ24) fun v25 H26 τ27 => s_headers_Get_j2 call N k ⟨(T.set (T.set (T.set (T.set (T.set (T.set (T.set (T.set (T.set (T.set (T.set (T.set (T.set .leaf 1 t1) 6 t6) 8 v10) 9 t9) 10 t10) 11 t11) 17 v17) 18 t6) 19 v20) 20 v21) 21 v22) 22 v25) 6 v25), H26⟩ τ27)
    (s_headers_Get_j2 call N k ⟨(T.set (T.set (T.set (T.set (T.set (T.set (T.set .leaf 1 t1) 6 t6) 8 v10) 9 t9) 10 t10) 11 t11) 17 v17), H18⟩ τ19)) (k (.exit 0) ⟨(T.set .leaf 6 t6), H⟩ τ)
def s_headers_Get (call : CallK) (N : Nat) (a0 a1 : V) (H : Heap) (τ : Tape) (q : KV) : Ans := someK (pLen [a0]) fun v0 => loopK (s_headers_Get_l1 call N) N ⟨(T.set (T.set (T.set (T.set (T.set .leaf 1 a1) 6 .nils) 9 a0) 10 v0) 11 (.int .i64 (.ofNat 0))), H⟩ τ (blockK 0 (seqK (s_headers_Get_j0 call N q) (endK [(.t 4), (.t 5)] q)))
theorem s_headers_Get_eq (call : CallK) (N : Nat) (a0 a1 : V) (H : Heap) (τ : Tape) (q : KV) : s_headers_Get call N a0 a1 H τ q = funK call N fn_headers_Get [a0, a1] H τ q := by kernel_rfl
def e_headers_Get (call : CallK) (N : Nat) (vs : List V) (H : Heap) (τ : Tape) (q : KV) : Ans := match vs with | [a0, a1] => s_headers_Get call N a0 a1 H τ q | _ => none
theorem e_headers_Get_ok : EntOk fn_headers_Get e_headers_Get := by
  intro call N vs H τ q r h
  unfold e_headers_Get at h
  split at h
  · rw [s_headers_Get_eq] at h; exact h
  · cases h
theorem e_headers_Get_nat : EntNat e_headers_Get := by
  intro c hn N vs H τ q
  unfold e_headers_Get
  split
  · rw [s_headers_Get_eq, s_headers_Get_eq]; exact funK_ent hn _ _ _ _ _ _
  · rfl
/-- ostiary/infra.Int -/
def fn_infra_Int : Fun := ⟨1, (.seq (.reg [iR 2 (.p .mv) [(.c (.int .i64 (.ofNat 0)))], iR 3 (.p .mv) [(.c (.bool false))]]) (.keep [0] (.seq (.reg [iR 4 (.p .mv) [(.c (.int .i64 (.ofNat 0)))]]) (.keep [0, 4] (.seq (.seq (.reg [iR 8 (.p .mv) [(.t 0)], iR 9 (.p .lenS) [(.t 8)], iR 10 (.p .mv) [(.c (.int .i64 (.ofNat 0)))]]) (.keep [0, 4, 9, 10] (.block 0 (.loop (.keep [0, 4, 9, 10] (.seq (.reg [iR 11 (.p (.bin .lss)) [(.t 10), (.t 9)]]) (.keep [0, 4, 9, 10, 11] (.seq (.cond (.t 11) .skip (.keep [0, 4] (.exit 0))) (.keep [0, 4, 9, 10] (.seq (.block 1 (.seq (.reg [iR 12 (.p .mv) [(.t 10)], iR 5 (.p .mv) [(.t 12)]]) (.keep [0, 4, 5, 9, 10] (.seq (.reg [iR 13 (.p .mv) [(.t 0)], iR 14 (.p .mv) [(.t 5)], iR 15 (.p .strIndex) [(.t 13), (.t 14)], iR 6 (.p .mv) [(.t 15)]]) (.keep [0, 4, 6, 9, 10] (.seq (.seq (.reg [iR 16 (.p .mv) [(.t 6)],
    iR 17 (.p (.bin .lss)) [(.t 16), (.c (.int .u8 (.ofNat 48)))], iR 18 (.p .mv) [(.t 17)], iG 19 18 false (.p .mv) [(.t 6)], iG 20 18 false (.p (.bin .gtr)) [(.t 19), (.c (.int .u8 (.ofNat 57)))], iR 21 (.p .pick) [(.t 18), (.c (.bool true)), (.t 20)]]) (.keep [0, 4, 6, 9, 10, 21] (.cond (.t 21) (.seq (.reg [iR 2 (.p .mv) [(.c (.int .i64 (.ofNat 0)))], iR 3 (.p .mv) [(.c (.bool false))]]) (.keep [2, 3] (.keep [2, 3] .ret))) .skip))) (.keep [0, 4, 6, 9, 10] (.seq (.reg [iR 22 (.p .mv) [(.t 6)], iR 23 (.p (.bin .sub)) [(.t 22), (.c (.int .u8 (.ofNat 48)))], iR 24 (.p (.toInt .i64)) [(.t 23)], iR 7 (.p .mv) [(.t 24)]]) (.keep [0, 4, 7, 9, 10] (.seq (.seq (.reg [iR 25 (.p .mv) [(.t 4)], iR 26 (.p .mv) [(.t 7)], iR 27 (.p (.bin .sub)) [(.c (.int .i64 (.ofNat 9223372036854775807))), (.t 26)], iR 28 (.p (.bin .quo)) [(.t 27), (.c (.int .i64 (.ofNat 10)))],
    iR 29 (.p (.bin .gtr)) [(.t 25), (.t 28)]]) (.keep [0, 4, 7, 9, 10, 29] (.cond (.t 29) (.seq (.reg [iR 4 (.p .mv) [(.c (.int .i64 (.ofNat 9223372036854775807)))]]) (.keep [0, 4, 9, 10] (.keep [0, 4, 9, 10] (.exit 1)))) .skip))) (.keep [0, 4, 7, 9, 10] (.reg [iR 30 (.p .mv) [(.t 4)], iR 31 (.p (.bin .mul)) [(.t 30), (.c (.int .i64 (.ofNat 10)))], iR 32 (.p .mv) [(.t 7)], iR 33 (.p (.bin .add)) [(.t 31), (.t 32)], iR 4 (.p .mv) [(.t 33)]])))))))))))) (.keep [0, 4, 9, 10] (.reg [iR 34 (.p (.bin .add)) [(.t 10), (.c (.int .i64 (.ofNat 1)))], iR 10 (.p .mv) [(.t 34)]])))))))))))) (.keep [0, 4] (.seq (.reg [iR 35 (.p .mv) [(.t 4)], iR 36 (.p .mv) [(.t 0)], iR 37 (.p .lenS) [(.t 36)], iR 38 (.p (.bin .gtr)) [(.t 37), (.c (.int .i64 (.ofNat 0)))], iR 2 (.p .mv) [(.t 35)], iR 3 (.p .mv) [(.t 38)]]) (.keep [2, 3] (.keep [2, 3] .ret))))))))), [(.t 2), (.t 3)]⟩
def s_infra_Int_j0 (call : CallK) (N : Nat) (q : KV) (st : St) (τ : Tape) : Ans := match st with
  | ⟨fr, H⟩ => getK fr 0 fun t0 => getK fr 4 fun t4 => someK (pLenS [t0]) fun v1 => binK .gtr v1 (.int .i64 (.ofNat 0)) fun v2 => q (.tup [t4, v2]) H τ
def s_infra_Int_j2 (call : CallK) (N : Nat) (k : KC) (st : St) (τ : Tape) : Ans := match st with
  | ⟨fr, H⟩ => getK fr 0 fun t0 => getK fr 4 fun t4 => getK fr 9 fun t9 => getK fr 10 fun t10 => binK .add t10 (.int .i64 (.ofNat 1)) fun v4 => k .normal ⟨(T.set (T.set (T.set (T.set (T.set (T.set .leaf 0 t0) 4 t4) 9 t9) 10 t10) 34 v4) 10 v4), H⟩ τ
def s_infra_Int_l1 (call : CallK) (N : Nat) (st : St) (τ : Tape) (k : KC) : Ans := match st with
  | ⟨fr, H⟩ => getK fr 0 fun t0 => getK fr 4 fun t4 => getK fr 9 fun t9 => getK fr 10 fun t10 => binK .lss t10 t9 fun v3 => condK v3 (someK (pStrIndex [t0, t10]) fun v5 => binK .lss v5 (.int .u8 (.ofNat 48)) fun v6 => gK v6 false (fun q' => q' v5 H τ) H τ fun v7 H8 τ9 => gK v6 false (fun q' => binK .gtr v7 (.int .u8 (.ofNat 57)) fun v => q' v H8 τ9) H8 τ9 fun v10 H11 τ12 => someK (pPick [v6, (.bool true), v10]) fun v13 => condK v13 (k .ret ⟨(T.set (T.set .leaf 2 (.int .i64 (.ofNat 0))) 3 (.bool false)), H11⟩ τ12) (binK .sub v5 (.int .u8 (.ofNat 48)) fun v14 => toIntK .i64 v14 fun v15 => binK .sub (.int .i64 (.ofNat 9223372036854775807)) v15 fun v16 => binK .quo v16 (.int .i64 (.ofNat 10)) fun v17 => binK .gtr t4 v17 fun v18 => condK v18 (s_infra_Int_j2 call N k ⟨(T.set (T.set (T.set (T.set .leaf 0 t0) 4 (.int .i64 (.ofNat 9223372036854775807))) 9 t9) 10 t10), H11⟩ τ12)
    (binK .mul t4 (.int .i64 (.ofNat 10)) fun v19 => binK .add v19 v15 fun v20 => s_infra_Int_j2 call N k ⟨(T.set (T.set (T.set (T.set (T.set (T.set (T.set (T.set (T.set (T.set .leaf 0 t0) 4 t4) 7 v15) 9 t9) 10 t10) 30 t4) 31 v19) 32 v15) 33 v20) 4 v20), H11⟩ τ12))) (k (.exit 0) ⟨(T.set (T.set .leaf 0 t0) 4 t4), H⟩ τ)
def s_infra_Int (call : CallK) (N : Nat) (a0 : V) (H : Heap) (τ : Tape) (q : KV) : Ans := someK (pLenS [a0]) fun v0 => loopK (s_infra_Int_l1 call N) N ⟨(T.set (T.set (T.set (T.set .leaf 0 a0) 4 (.int .i64 (.ofNat 0))) 9 v0) 10 (.int .i64 (.ofNat 0))), H⟩ τ (blockK 0 (seqK (s_infra_Int_j0 call N q) (endK [(.t 2), (.t 3)] q)))
theorem s_infra_Int_eq (call : CallK) (N : Nat) (a0 : V) (H : Heap) (τ : Tape) (q : KV) : s_infra_Int call N a0 H τ q = funK call N fn_infra_Int [a0] H τ q := by kernel_rfl
def e_infra_Int (call : CallK) (N : Nat) (vs : List V) (H : Heap) (τ : Tape) (q : KV) : Ans := match vs with | [a0] => s_infra_Int call N a0 H τ q | _ => none
theorem e_infra_Int_ok : EntOk fn_infra_Int e_infra_Int := by
  intro call N vs H τ q r h
  unfold e_infra_Int at h
  split at h
  · rw [s_infra_Int_eq] at h; exact h
  · cases h
theorem e_infra_Int_nat : EntNat e_infra_Int := by
  intro c hn N vs H τ q
  unfold e_infra_Int
  split
  · rw [s_infra_Int_eq, s_infra_Int_eq]; exact funK_ent hn _ _ _ _ _ _
  · rfl
/-- ostiary/ostiarykeep.URL -/
def fn_keep_URL : Fun := ⟨1, (.seq (.reg [iR 2 (.e (.alloc [(.str []), (.str []), (.str []), (.str []), (.bool false), (.int .i64 (.ofNat 0)), (.bool false), .nils, (.str []), (.str []), (.bool false), (.bool false)])) [], iR 3 (.p .mv) [(.c (.bool false))]]) (.keep [0, 2] (.seq (.reg [iR 7 (.p .mv) [(.t 0)], iR 8 (.call 10) [(.t 7), (.c (.int .i64 (.ofNat 300)))], iR 9 (.call 89) [(.t 8)], iR 6 (.p .mv) [(.t 9)], iR 10 (.p (.extract 0)) [(.t 6)], iR 11 (.p (.extract 1)) [(.t 6)], iR 4 (.e (.alloc [(.str []), (.str []), (.str []), (.str []), (.bool false), (.int .i64 (.ofNat 0)), (.bool false), .nils, (.str []), (.str []), (.bool false), (.bool false)])) [], ⟨none, none, (.e (.store 12)), [(.t 4), (.t 10)], none⟩, iR 5 (.p .mv) [(.t 11)]]) (.keep [2, 4, 5] (.seq (.reg [iR 12 (.l (.load (some 12))) [(.t 4)], iR 13 (.p .mv) [(.t 5)],
    iR 14 (.p (.bin .eql)) [(.t 13), (.c (.int .i64 (.ofNat 0)))], ⟨none, none, (.e (.store 12)), [(.t 2), (.t 12)], none⟩, iR 3 (.p .mv) [(.t 14)]]) (.keep [2, 3] (.keep [2, 3] .ret))))))), [(.cell 2 (some 12)), (.t 3)]⟩
def s_keep_URL (call : CallK) (N : Nat) (a0 : V) (H : Heap) (τ : Tape) (q : KV) : Ans := effK (eAlloc [(.str []), (.str []), (.str []), (.str []), (.bool false), (.int .i64 (.ofNat 0)), (.bool false), .nils, (.str []), (.str []), (.bool false), (.bool false)] [] H τ) fun v0 H1 τ2 => call f_keep_Few [a0, (.int .i64 (.ofNat 300))] H1 τ2 fun v3 H4 τ5 => call f_ref3_Parse [v3] H4 τ5 fun v6 H7 τ8 => someK (pExtract 0 [v6]) fun v9 => someK (pExtract 1 [v6]) fun v10 => effK (eAlloc [(.str []), (.str []), (.str []), (.str []), (.bool false), (.int .i64 (.ofNat 0)), (.bool false), .nils, (.str []), (.str []), (.bool false), (.bool false)] [] H7 τ8) fun v11 H12 τ13 => effK (eStore 12 [v11, v9] H12 τ13) fun v14 H15 τ16 => someK (lLoadN 12 [v11] H15) fun v17 => binK .eql v10 (.int .i64 (.ofNat 0)) fun v18 => effK (eStore 12 [v0, v17] H15 τ16) fun v19 H20 τ21 =>
    someK (results ⟨(T.set (T.set .leaf 2 v0) 3 v18), H20⟩ [(.cell 2 (some 12)), (.t 3)]) fun v => q v H20 τ21
theorem s_keep_URL_eq (call : CallK) (N : Nat) (a0 : V) (H : Heap) (τ : Tape) (q : KV) : s_keep_URL call N a0 H τ q = funK call N fn_keep_URL [a0] H τ q := by kernel_rfl
def e_keep_URL (call : CallK) (N : Nat) (vs : List V) (H : Heap) (τ : Tape) (q : KV) : Ans := match vs with | [a0] => s_keep_URL call N a0 H τ q | _ => none
theorem e_keep_URL_ok : EntOk fn_keep_URL e_keep_URL := by
  intro call N vs H τ q r h
  unfold e_keep_URL at h
  split at h
  · rw [s_keep_URL_eq] at h; exact h
  · cases h
theorem e_keep_URL_nat : EntNat e_keep_URL := by
  intro c hn N vs H τ q
  unfold e_keep_URL
  split
  · rw [s_keep_URL_eq, s_keep_URL_eq]; exact funK_ent hn _ _ _ _ _ _
  · rfl
/-- ostiary/ostiaryref4.Of -/
def fn_ref4_Of : Fun := ⟨1, (.seq (.reg [iR 1 (.e .box) [(.t 0)], iR 2 (.e (.alloc [(.str []), (.str []), (.int .i64 (.ofNat 0)), (.bool false)])) []]) (.keep [1, 2] (.seq (.seq (.reg [iR 5 (.p (.fieldAddr 0)) [(.t 1)], iR 6 (.l (.load none)) [(.t 5)], iR 7 (.p (.bin .eql)) [(.t 6), (.c (.str (bs [98, 108, 111, 98])))], iR 8 (.p .mv) [(.t 7)], iG 9 8 true (.p (.fieldAddr 6)) [(.t 1)], iG 10 8 true (.l (.load none)) [(.t 9)], iR 11 (.p .pick) [(.t 8), (.t 10), (.c (.bool false))], iR 12 (.p .mv) [(.t 11)], iG 13 12 true (.p (.fieldAddr 7)) [(.t 1)], iG 14 12 true (.l (.load none)) [(.t 13)], iG 15 12 true (.p .len) [(.t 14)], iG 16 12 true (.p (.bin .eql)) [(.t 15), (.c (.int .i64 (.ofNat 1)))], iR 17 (.p .pick) [(.t 12), (.t 16), (.c (.bool false))]]) (.keep [1, 2, 17] (.cond (.t 17) (.seq (.reg [iR 19 (.p (.fieldAddr 7)) [(.t 1)], iR 20 (.l (.load none)) [(.t 19)],
    iR 21 (.p (.slIdx 1)) [(.t 20), (.c (.int .i64 (.ofNat 0)))], iR 22 (.l (.load none)) [(.t 21)], iR 23 (.call 89) [(.t 22)], iR 18 (.p .mv) [(.t 23)], iR 24 (.p (.extract 0)) [(.t 18)], iR 25 (.p (.extract 1)) [(.t 18)], iR 3 (.e (.alloc [(.str []), (.str []), (.str []), (.str []), (.bool false), (.int .i64 (.ofNat 0)), (.bool false), .nils, (.str []), (.str []), (.bool false), (.bool false)])) [], ⟨none, none, (.e (.store 12)), [(.t 3), (.t 24)], none⟩, iR 4 (.p .mv) [(.t 25)]]) (.keep [1, 2, 3, 4] (.seq (.reg [iR 26 (.p .mv) [(.t 4)], iR 27 (.p (.bin .eql)) [(.t 26), (.c (.int .i64 (.ofNat 0)))], iR 28 (.p .mv) [(.t 27)], iG 29 28 true (.p (.fieldAddr 0)) [(.t 3)], iG 30 28 true (.l (.load none)) [(.t 29)], iG 31 28 true (.p (.bin .eql)) [(.t 30), (.c (.str (bs [104, 116, 116, 112])))], iG 32 28 true (.p .mv) [(.t 31)], iG 33 32 false (.p (.fieldAddr 0)) [(.t 3)],
    iG 34 32 false (.l (.load none)) [(.t 33)], iG 35 32 false (.p (.bin .eql)) [(.t 34), (.c (.str (bs [104, 116, 116, 112, 115])))], iG 36 28 true (.p .pick) [(.t 32), (.c (.bool true)), (.t 35)], iR 37 (.p .pick) [(.t 28), (.t 36), (.c (.bool false))]]) (.keep [1, 2, 3, 37] (.cond (.t 37) (.seq (.reg [iR 38 (.l (.load (some 12))) [(.t 3)], iR 39 (.call 63) [(.t 38)], ⟨none, none, (.e (.store 4)), [(.t 2), (.t 39)], none⟩]) (.keep [2] (.keep [2] .ret))) .skip))))) .skip))) (.keep [1, 2] (.seq (.seq (.reg [iR 40 (.p (.fieldAddr 0)) [(.t 1)], iR 41 (.l (.load none)) [(.t 40)], iR 42 (.call 90) [(.t 41)], iR 43 (.p (.un .not)) [(.t 42)]]) (.keep [1, 2, 43] (.cond (.t 43) (.seq (.reg [iR 44 (.p (.build [(.str []), (.str []), (.int .i64 (.ofNat 0)), (.bool false)] [(3, 1)])) [(.c (.bool true))], ⟨none, none, (.e (.store 4)), [(.t 2), (.t 44)], none⟩]) (.keep [2] (.keep [2] .ret)))
    .skip))) (.keep [1, 2] (.seq (.draw [iR 45 (.p (.fieldAddr 0)) [(.t 1)], ⟨(some 46), none, (.l (.load none)), [(.t 45)], some (0, 1)⟩, iR 47 (.p (.fieldAddr 3)) [(.t 1)], ⟨(some 48), none, (.l (.load none)), [(.t 47)], some (0, 1)⟩, iR 49 (.l (.load (some 12))) [(.t 1)], iR 50 (.call 91) [(.t 49)], iR 51 (.p (.build [(.str []), (.str []), (.int .i64 (.ofNat 0)), (.bool false)] [(0, 1), (1, 1), (2, 1)])) [(.t 46), (.t 48), (.t 50)], ⟨none, none, (.e (.store 4)), [(.t 2), (.t 51)], none⟩]) (.keep [2] (.keep [2] .ret))))))))), [(.cell 2 (some 4))]⟩
def s_ref4_Of_j0 (call : CallK) (N : Nat) (q : KV) (st : St) (τ : Tape) : Ans := match st with
  | ⟨fr, H⟩ => getK fr 1 fun t1 => getK fr 2 fun t2 => someK (pFieldAddr 0 [t1]) fun v29 => someK (lLoad1 [v29] H) fun v30 => call f_ref3_Special [v30] H τ fun v31 H32 τ33 => unK .not v31 fun v34 => condK v34 (someK (pBuild [(.str []), (.str []), (.int .i64 (.ofNat 0)), (.bool false)] [(3, 1)] [(.bool true)]) fun v35 => effK (eStore 4 [t2, v35] H32 τ33) fun v36 H37 τ38 => someK (results ⟨(T.set .leaf 2 t2), H37⟩ [(.cell 2 (some 4))]) fun v => q v H37 τ38) (someK (pFieldAddr 0 [t1]) fun v39 => someK (lLoad1 [v39] H32) fun v40 => someK (pFieldAddr 3 [t1]) fun v41 => someK (lLoad1 [v41] H32) fun v42 => someK (lLoadN 12 [t1] H32) fun v43 => call f_ref4_Port [v43] H32 τ33 fun v44 H45 τ46 => someK (pBuild [(.str []), (.str []), (.int .i64 (.ofNat 0)), (.bool false)] [(0, 1), (1, 1), (2, 1)] [v40, v42, v44]) fun v47 => effK (eStore 4 [t2, v47] H45 τ46) fun v48 H49 τ50 =>
    bif chkLoads [H32, H45, H49] (((.load none), [v41], 0, 1) :: (((.load none), [v39], 0, 1) :: [])) then someK (results ⟨(T.set .leaf 2 t2), H49⟩ [(.cell 2 (some 4))]) fun v => q v H49 τ50 else none)
def s_ref4_Of (call : CallK) (N : Nat) (a0 : V) (H : Heap) (τ : Tape) (q : KV) : Ans := effK (eBox [a0] H τ) fun v0 H1 τ2 => effK (eAlloc [(.str []), (.str []), (.int .i64 (.ofNat 0)), (.bool false)] [] H1 τ2) fun v3 H4 τ5 => someK (pFieldAddr 0 [v0]) fun v6 => someK (lLoad1 [v6] H4) fun v7 => binK .eql v7 (.str (bs [98, 108, 111, 98])) fun v8 => gK v8 true (fun q' => someK (pFieldAddr 6 [v0]) fun v => q' v H4 τ5) H4 τ5 fun v9 H10 τ11 => gK v8 true (fun q' => someK (lLoad1 [v9] H10) fun v => q' v H10 τ11) H10 τ11 fun v12 H13 τ14 => someK (pPick [v8, v12, (.bool false)]) fun v15 => gK v15 true (fun q' => someK (pFieldAddr 7 [v0]) fun v => q' v H13 τ14) H13 τ14 fun v16 H17 τ18 => gK v15 true (fun q' => someK (lLoad1 [v16] H17) fun v => q' v H17 τ18) H17 τ18 fun v19 H20 τ21 => gK v15 true (fun q' => someK (pLen [v19]) fun v => q' v H20 τ21) H20 τ21 fun v22 H23 τ24 =>
    gK v15 true (fun q' => binK .eql v22 (.int .i64 (.ofNat 1)) fun v => q' v H23 τ24) H23 τ24 fun v25 H26 τ27 => someK (pPick [v15, v25, (.bool false)]) fun v28 => condK v28 (someK (pFieldAddr 7 [v0]) fun v51 => someK (lLoad1 [v51] H26) fun v52 => someK (pSlIdx 1 [v52, (.int .i64 (.ofNat 0))]) fun v53 => someK (lLoad1 [v53] H26) fun v54 => call f_ref3_Parse [v54] H26 τ27 fun v55 H56 τ57 => someK (pExtract 0 [v55]) fun v58 => someK (pExtract 1 [v55]) fun v59 => effK (eAlloc [(.str []), (.str []), (.str []), (.str []), (.bool false), (.int .i64 (.ofNat 0)), (.bool false), .nils, (.str []), (.str []), (.bool false), (.bool false)] [] H56 τ57) fun v60 H61 τ62 => effK (eStore 12 [v60, v58] H61 τ62) fun v63 H64 τ65 => binK .eql v59 (.int .i64 (.ofNat 0)) fun v66 => gK v66 true (fun q' => someK (pFieldAddr 0 [v60]) fun v => q' v H64 τ65) H64 τ65 fun v67 H68 τ69 =>
    gK v66 true (fun q' => someK (lLoad1 [v67] H68) fun v => q' v H68 τ69) H68 τ69 fun v70 H71 τ72 => gK v66 true (fun q' => binK .eql v70 (.str (bs [104, 116, 116, 112])) fun v => q' v H71 τ72) H71 τ72 fun v73 H74 τ75 => gK v66 true (fun q' => q' v73 H74 τ75) H74 τ75 fun v76 H77 τ78 => gK v76 false (fun q' => someK (pFieldAddr 0 [v60]) fun v => q' v H77 τ78) H77 τ78 fun v79 H80 τ81 => gK v76 false (fun q' => someK (lLoad1 [v79] H80) fun v => q' v H80 τ81) H80 τ81 fun v82 H83 τ84 => gK v76 false (fun q' => binK .eql v82 (.str (bs [104, 116, 116, 112, 115])) fun v => q' v H83 τ84) H83 τ84 fun v85 H86 τ87 => gK v66 true (fun q' => someK (pPick [v76, (.bool true), v85]) fun v => q' v H86 τ87) H86 τ87 fun v88 H89 τ90 => someK (pPick [v66, v88, (.bool false)]) fun v91 => condK v91 (someK (lLoadN 12 [v60] H89) fun v92 => call f_ref4_Of [v92] H89 τ90 fun v93 H94 τ95 =>
    effK (eStore 4 [v3, v93] H94 τ95) fun v96 H97 τ98 => someK (results ⟨(T.set .leaf 2 v3), H97⟩ [(.cell 2 (some 4))]) fun v => q v H97 τ98) (s_ref4_Of_j0 call N q ⟨(T.set (T.set (T.set (T.set .leaf 1 v0) 2 v3) 3 v60) 37 v91), H89⟩ τ90)) (s_ref4_Of_j0 call N q ⟨(T.set (T.set (T.set .leaf 1 v0) 2 v3) 17 v28), H26⟩ τ27)
theorem s_ref4_Of_eq (call : CallK) (N : Nat) (a0 : V) (H : Heap) (τ : Tape) (q : KV) : s_ref4_Of call N a0 H τ q = funK call N fn_ref4_Of [a0] H τ q := by kernel_rfl
def e_ref4_Of (call : CallK) (N : Nat) (vs : List V) (H : Heap) (τ : Tape) (q : KV) : Ans := match vs with | [a0] => s_ref4_Of call N a0 H τ q | _ => none
theorem e_ref4_Of_ok : EntOk fn_ref4_Of e_ref4_Of := by
  intro call N vs H τ q r h
  unfold e_ref4_Of at h
  split at h
  · rw [s_ref4_Of_eq] at h; exact h
  · cases h
theorem e_ref4_Of_nat : EntNat e_ref4_Of := by
  intro c hn N vs H τ q
  unfold e_ref4_Of
  split
  · rw [s_ref4_Of_eq, s_ref4_Of_eq]; exact funK_ent hn _ _ _ _ _ _
  · rfl
/-- ostiary/headers.Safe -/
def fn_headers_Safe : Fun := ⟨2, (.seq (.reg [iR 4 (.p .mv) [(.c (.bool false))]]) (.keep [0, 1] (.seq (.seq (.reg [iR 11 (.p .mv) [(.t 1)], iR 12 (.p .lenS) [(.t 11)], iR 13 (.p (.bin .gtr)) [(.t 12), (.c (.int .i64 (.ofNat 128)))]]) (.keep [0, 1, 13] (.cond (.t 13) (.seq (.reg [iR 4 (.p .mv) [(.c (.bool false))]]) (.keep [4] (.keep [4] .ret))) .skip))) (.keep [0, 1] (.seq (.seq (.reg [iR 14 (.p .mv) [(.t 0)], iR 15 (.call 59) [(.t 14)]]) (.keep [1, 15] (.block 0 (.seq (.reg [iR 17 (.p (.bin .eql)) [(.t 15), (.c (.str (bs [97, 99, 99, 101, 112, 116])))], iR 16 (.p .mv) [(.t 17)]]) (.keep [1, 15, 16] (.cond (.t 16) (.seq (.reg [iR 18 (.p .mv) [(.t 1)], iR 19 (.call 98) [(.t 18)], iR 20 (.p (.un .not)) [(.t 19)], iR 4 (.p .mv) [(.t 20)]]) (.keep [4] (.keep [4] .ret)))
    (.seq (.seq (.reg [iR 22 (.p (.bin .eql)) [(.t 15), (.c (.str (bs [97, 99, 99, 101, 112, 116, 45, 108, 97, 110, 103, 117, 97, 103, 101])))], iR 21 (.p .mv) [(.t 22)]]) (.keep [1, 15, 21] (.cond (.t 21) .skip (.reg [iR 23 (.p (.bin .eql)) [(.t 15), (.c (.str (bs [99, 111, 110, 116, 101, 110, 116, 45, 108, 97, 110, 103, 117, 97, 103, 101])))], iR 21 (.p .mv) [(.t 23)]])))) (.keep [1, 15, 21] (.cond (.t 21) (.seq (.reg [iR 24 (.p .mv) [(.t 1)], iR 25 (.call 99) [(.t 24)], iR 4 (.p .mv) [(.t 25)]]) (.keep [4] (.keep [4] .ret))) (.seq (.reg [iR 27 (.p (.bin .eql)) [(.t 15), (.c (.str (bs [99, 111, 110, 116, 101, 110, 116, 45, 116, 121, 112, 101])))], iR 26 (.p .mv) [(.t 27)]]) (.keep [1, 15, 26] (.cond (.t 26) (.seq (.reg [iR 29 (.p .mv) [(.t 1)], iR 30 (.call 100) [(.t 29), (.c (.str (bs [59])))], iR 28 (.p .mv) [(.t 30)], iR 31 (.p (.extract 0)) [(.t 28)],
    iR 32 (.p (.extract 1)) [(.t 28)], iR 33 (.p (.extract 2)) [(.t 28)], iR 5 (.p .mv) [(.t 31)], iR 6 (.p .mv) [(.t 32)], iR 7 (.p .mv) [(.t 33)]]) (.keep [1, 5] (.seq (.reg [iR 34 (.p .mv) [(.t 5)], iR 35 (.call 101) [(.t 34)], iR 36 (.call 59) [(.t 35)]]) (.keep [1, 36] (.block 1 (.seq (.seq (.reg [iR 38 (.p (.bin .eql)) [(.t 36), (.c (.str (bs [97, 112, 112, 108, 105, 99, 97, 116, 105, 111, 110, 47, 120, 45, 119, 119, 119, 45, 102, 111, 114, 109, 45, 117, 114, 108, 101, 110, 99, 111, 100, 101, 100])))], iR 37 (.p .mv) [(.t 38)]]) (.keep [1, 36, 37] (.cond (.t 37) .skip (.seq (.reg [iR 39 (.p (.bin .eql)) [(.t 36), (.c (.str (bs [109, 117, 108, 116, 105, 112, 97, 114, 116, 47, 102, 111, 114, 109, 45, 100, 97, 116, 97])))], iR 37 (.p .mv) [(.t 39)]]) (.keep [1, 36, 37] (.cond (.t 37) .skip
    (.reg [iR 40 (.p (.bin .eql)) [(.t 36), (.c (.str (bs [116, 101, 120, 116, 47, 112, 108, 97, 105, 110])))], iR 37 (.p .mv) [(.t 40)]]))))))) (.keep [1, 37] (.cond (.t 37) (.seq (.reg [iR 41 (.p .mv) [(.t 1)], iR 42 (.call 98) [(.t 41)], iR 43 (.p (.un .not)) [(.t 42)], iR 4 (.p .mv) [(.t 43)]]) (.keep [4] (.keep [4] .ret))) .skip)))))))) (.seq (.reg [iR 45 (.p (.bin .eql)) [(.t 15), (.c (.str (bs [114, 97, 110, 103, 101])))], iR 44 (.p .mv) [(.t 45)]]) (.keep [1, 44] (.cond (.t 44) (.seq (.reg [iR 47 (.p .mv) [(.t 1)], iR 48 (.call 102) [(.t 47)], iR 46 (.p .mv) [(.t 48)], iR 49 (.p (.extract 0)) [(.t 46)], iR 50 (.p (.extract 1)) [(.t 46)], iR 51 (.p (.extract 2)) [(.t 46)], iR 8 (.p .mv) [(.t 49)], iR 9 (.p .mv) [(.t 50)], iR 10 (.p .mv) [(.t 51)]]) (.keep [8, 10] (.seq (.reg [iR 52 (.p .mv) [(.t 10)], iR 53 (.p .mv) [(.t 52)], iG 54 53 true (.p .mv) [(.t 8)],
    iG 55 53 true (.p (.bin .geq)) [(.t 54), (.c (.int .i64 (.ofNat 0)))], iR 56 (.p .pick) [(.t 53), (.t 55), (.c (.bool false))], iR 4 (.p .mv) [(.t 56)]]) (.keep [4] (.keep [4] .ret))))) .skip))))))))))))))) (.keep [] (.seq (.reg [iR 4 (.p .mv) [(.c (.bool false))]]) (.keep [4] (.keep [4] .ret))))))))), [(.t 4)]⟩
def s_headers_Safe_j0 (call : CallK) (N : Nat) (q : KV) (st : St) (τ : Tape) : Ans := match st with
  | ⟨fr, H⟩ => q (.bool false) H τ
def s_headers_Safe_j2 (call : CallK) (N : Nat) (q : KV) (st : St) (τ : Tape) : Ans := match st with
  | ⟨fr, H⟩ => getK fr 1 fun t1 => getK fr 37 fun t37 => condK t37 (call f_headers_unsafe [t1] H τ fun v28 H29 τ30 => unK .not v28 fun v31 => q v31 H29 τ30) (s_headers_Safe_j0 call N q ⟨(T.set (T.set .leaf 1 t1) 37 t37), H⟩ τ)
def s_headers_Safe_j1 (call : CallK) (N : Nat) (q : KV) (st : St) (τ : Tape) : Ans := match st with
  | ⟨fr, H⟩ => getK fr 1 fun t1 => getK fr 15 fun t15 => getK fr 21 fun t21 => condK t21 (call f_headers_tongues [t1] H τ fun v11 H12 τ13 => q v11 H12 τ13) (binK .eql t15 (.str (bs [99, 111, 110, 116, 101, 110, 116, 45, 116, 121, 112, 101])) fun v14 => condK v14 (call f_strings_Cut [t1, (.str (bs [59]))] H τ fun v15 H16 τ17 => someK (pExtract 0 [v15]) fun v18 => someK (pExtract 1 [v15]) fun v19 => someK (pExtract 2 [v15]) fun v20 => call f_infra_Strip [v18] H16 τ17 fun v21 H22 τ23 => call f_infra_Lower [v21] H22 τ23 fun v24 H25 τ26 => binK .eql v24 (.str (bs [97, 112, 112, 108, 105, 99, 97, 116, 105, 111, 110, 47, 120, 45, 119, 119, 119, 45, 102, 111, 114, 109, 45, 117, 114, 108, 101, 110, 99, 111, 100, 101, 100])) fun v27 => condK v27 (s_headers_Safe_j2 call N q ⟨(T.set (T.set (T.set .leaf 1 t1) 36 v24) 37 v27), H25⟩ τ26)
    (binK .eql v24 (.str (bs [109, 117, 108, 116, 105, 112, 97, 114, 116, 47, 102, 111, 114, 109, 45, 100, 97, 116, 97])) fun v32 => condK v32 (s_headers_Safe_j2 call N q ⟨(T.set (T.set (T.set .leaf 1 t1) 36 v24) 37 v32), H25⟩ τ26) (binK .eql v24 (.str (bs [116, 101, 120, 116, 47, 112, 108, 97, 105, 110])) fun v33 => s_headers_Safe_j2 call N q ⟨(T.set (T.set (T.set (T.set (T.set .leaf 1 t1) 36 v24) 37 v32) 40 v33) 37 v33), H25⟩ τ26))) (binK .eql t15 (.str (bs [114, 97, 110, 103, 101])) fun v34 => condK v34 (call f_headers_Range [t1] H τ fun v35 H36 τ37 => someK (pExtract 0 [v35]) fun v38 => someK (pExtract 1 [v35]) fun v39 => someK (pExtract 2 [v35]) fun v40 => gK v40 true (fun q' => q' v38 H36 τ37) H36 τ37 fun v41 H42 τ43 => gK v40 true (fun q' => binK .geq v41 (.int .i64 (.ofNat 0)) fun v => q' v H42 τ43) H42 τ43 fun v44 H45 τ46 => someK (pPick [v40, v44, (.bool false)]) fun v47 =>
    q v47 H45 τ46) (s_headers_Safe_j0 call N q ⟨(T.set (T.set .leaf 1 t1) 44 v34), H⟩ τ)))
def s_headers_Safe (call : CallK) (N : Nat) (a0 a1 : V) (H : Heap) (τ : Tape) (q : KV) : Ans := someK (pLenS [a1]) fun v0 => binK .gtr v0 (.int .i64 (.ofNat 128)) fun v1 => condK v1 (q (.bool false) H τ) (call f_infra_Lower [a0] H τ fun v2 H3 τ4 => binK .eql v2 (.str (bs [97, 99, 99, 101, 112, 116])) fun v5 => condK v5 (call f_headers_unsafe [a1] H3 τ4 fun v6 H7 τ8 => unK .not v6 fun v9 => q v9 H7 τ8) (binK .eql v2 (.str (bs [97, 99, 99, 101, 112, 116, 45, 108, 97, 110, 103, 117, 97, 103, 101])) fun v10 => condK v10 (s_headers_Safe_j1 call N q ⟨(T.set (T.set (T.set .leaf 1 a1) 15 v2) 21 v10), H3⟩ τ4) (binK .eql v2 (.str (bs [99, 111, 110, 116, 101, 110, 116, 45, 108, 97, 110, 103, 117, 97, 103, 101])) fun v48 => s_headers_Safe_j1 call N q ⟨(T.set (T.set (T.set (T.set (T.set .leaf 1 a1) 15 v2) 21 v10) 23 v48) 21 v48), H3⟩ τ4)))
theorem s_headers_Safe_eq (call : CallK) (N : Nat) (a0 a1 : V) (H : Heap) (τ : Tape) (q : KV) : s_headers_Safe call N a0 a1 H τ q = funK call N fn_headers_Safe [a0, a1] H τ q := by kernel_rfl
def e_headers_Safe (call : CallK) (N : Nat) (vs : List V) (H : Heap) (τ : Tape) (q : KV) : Ans := match vs with | [a0, a1] => s_headers_Safe call N a0 a1 H τ q | _ => none
theorem e_headers_Safe_ok : EntOk fn_headers_Safe e_headers_Safe := by
  intro call N vs H τ q r h
  unfold e_headers_Safe at h
  split at h
  · rw [s_headers_Safe_eq] at h; exact h
  · cases h
theorem e_headers_Safe_nat : EntNat e_headers_Safe := by
  intro c hn N vs H τ q
  unfold e_headers_Safe
  split
  · rw [s_headers_Safe_eq, s_headers_Safe_eq]; exact funK_ent hn _ _ _ _ _ _
  · rfl
/-- ostiary/headers.Split -/
def fn_headers_Split : Fun := ⟨2, (.seq (.reg [iR 4 (.p .mv) [(.c .nils)], iR 5 (.p .mv) [(.c (.bool false))]]) (.keep [0, 1] (.seq (.reg [iR 13 (.p .mv) [(.t 0)], iR 14 (.p .mv) [(.t 1)], iR 15 (.call 60) [(.t 13), (.t 14)], iR 12 (.p .mv) [(.t 15)], iR 16 (.p (.extract 0)) [(.t 12)], iR 17 (.p (.extract 1)) [(.t 12)], iR 6 (.p .mv) [(.t 16)], iR 7 (.p .mv) [(.t 17)]]) (.keep [6, 7] (.seq (.seq (.reg [iR 18 (.p .mv) [(.t 7)], iR 19 (.p (.un .not)) [(.t 18)]]) (.keep [6, 19] (.cond (.t 19) (.seq (.reg [iR 4 (.p .mv) [(.c .nils)], iR 5 (.p .mv) [(.c (.bool false))]]) (.keep [4, 5] (.keep [4, 5] .ret))) .skip))) (.keep [6] (.seq (.reg [iR 8 (.p .mv) [(.c .nils)]]) (.keep [6, 8] (.seq (.reg [iR 9 (.p .mv) [(.c (.bool false))], iR 10 (.p .mv) [(.c (.int .i64 (.ofNat 0)))]]) (.keep [6, 8, 9, 10] (.seq (.seq (.reg [iR 11 (.p .mv) [(.c (.int .i64 (.ofNat 0)))]])
    (.keep [6, 8, 9, 10, 11] (.block 0 (.loop (.keep [6, 8, 9, 10, 11] (.seq (.seq (.reg [iR 20 (.p .mv) [(.t 11)], iR 21 (.p .mv) [(.t 6)], iR 22 (.p .lenS) [(.t 21)], iR 23 (.p (.bin .lss)) [(.t 20), (.t 22)]]) (.keep [6, 8, 9, 10, 11, 23] (.cond (.t 23) .skip (.keep [6, 8, 10] (.exit 0))))) (.keep [6, 8, 9, 10, 11] (.seq (.block 1 (.block 2 (.seq (.reg [iR 27 (.p .mv) [(.t 6)], iR 28 (.p .mv) [(.t 11)], iR 29 (.p .strIndex) [(.t 27), (.t 28)], iR 30 (.p (.bin .eql)) [(.t 29), (.c (.int .u8 (.ofNat 34)))], iR 26 (.p .mv) [(.t 30)]]) (.keep [6, 8, 9, 10, 11, 26] (.cond (.t 26) (.reg [iR 31 (.p .mv) [(.t 9)], iR 32 (.p (.un .not)) [(.t 31)], iR 9 (.p .mv) [(.t 32)]]) (.seq (.reg [iR 34 (.p .mv) [(.t 9)], iR 35 (.p .mv) [(.t 34)], iG 36 35 true (.p .mv) [(.t 6)], iG 37 35 true (.p .mv) [(.t 11)], iG 38 35 true (.p .strIndex) [(.t 36), (.t 37)],
    iG 39 35 true (.p (.bin .eql)) [(.t 38), (.c (.int .u8 (.ofNat 92)))], iR 40 (.p .pick) [(.t 35), (.t 39), (.c (.bool false))], iR 33 (.p .mv) [(.t 40)]]) (.keep [6, 8, 9, 10, 11, 33] (.cond (.t 33) (.reg [iR 41 (.p .mv) [(.t 11)], iR 42 (.p (.bin .add)) [(.t 41), (.c (.int .i64 (.ofNat 1)))], iR 11 (.p .mv) [(.t 42)]]) (.seq (.reg [iR 44 (.p .mv) [(.t 9)], iR 45 (.p (.un .not)) [(.t 44)], iR 46 (.p .mv) [(.t 45)], iG 47 46 true (.p .mv) [(.t 6)], iG 48 46 true (.p .mv) [(.t 11)], iG 49 46 true (.p .strIndex) [(.t 47), (.t 48)], iG 50 46 true (.p (.bin .eql)) [(.t 49), (.c (.int .u8 (.ofNat 44)))], iR 51 (.p .pick) [(.t 46), (.t 50), (.c (.bool false))], iR 43 (.p .mv) [(.t 51)]]) (.keep [6, 8, 9, 10, 11, 43] (.cond (.t 43) (.seq (.reg [iR 52 (.p .mv) [(.t 8)], iR 53 (.p .mv) [(.t 6)], iR 54 (.p .mv) [(.t 10)], iR 55 (.p .mv) [(.t 11)],
    iR 56 (.p (.strSlice true true)) [(.t 53), (.t 54), (.t 55)], iR 57 (.call 110) [(.t 56), (.c (.str (bs [9, 32])))], iR 58 (.e (.buildSlice 1 1 [(.str [])] [(0, 1)])) [(.t 57)], iR 59 (.e (.append 1 16)) [(.t 52), (.t 58)], iR 8 (.p .mv) [(.t 59)]]) (.keep [6, 8, 9, 11] (.reg [iR 60 (.p .mv) [(.t 11)], iR 61 (.p (.bin .add)) [(.t 60), (.c (.int .i64 (.ofNat 1)))], iR 10 (.p .mv) [(.t 61)]]))) .skip))))))))))) (.keep [6, 8, 9, 10, 11] (.reg [iR 24 (.p .mv) [(.t 11)], iR 25 (.p (.bin .add)) [(.t 24), (.c (.int .i64 (.ofNat 1)))], iR 11 (.p .mv) [(.t 25)]])))))))))) (.keep [6, 8, 10] (.seq (.reg [iR 62 (.p .mv) [(.t 8)], iR 63 (.p .mv) [(.t 6)], iR 64 (.p .mv) [(.t 10)], iR 65 (.p (.strSlice true false)) [(.t 63), (.t 64)], iR 66 (.call 110) [(.t 65), (.c (.str (bs [9, 32])))], iR 67 (.e (.buildSlice 1 1 [(.str [])] [(0, 1)])) [(.t 66)], iR 68 (.e (.append 1 16)) [(.t 62), (.t 67)],
    iR 4 (.p .mv) [(.t 68)], iR 5 (.p .mv) [(.c (.bool true))]]) (.keep [4, 5] (.keep [4, 5] .ret))))))))))))))), [(.t 4), (.t 5)]⟩
def s_headers_Split_j0 (call : CallK) (N : Nat) (q : KV) (st : St) (τ : Tape) : Ans := match st with
  | ⟨fr, H⟩ => getK fr 6 fun t6 => getK fr 8 fun t8 => getK fr 10 fun t10 => someK (pStrSlice true false [t6, t10]) fun v6 => call f_strings_Trim [v6, (.str (bs [9, 32]))] H τ fun v7 H8 τ9 => effK (eBuildSlice 1 1 [(.str [])] [(0, 1)] [v7] H8 τ9) fun v10 H11 τ12 => effK (eAppend 1 16 [t8, v10] H11 τ12) fun v13 H14 τ15 => q (.tup [v13, (.bool true)]) H14 τ15
def s_headers_Split_j2 (call : CallK) (N : Nat) (k : KC) (st : St) (τ : Tape) : Ans := match st with
  | ⟨fr, H⟩ => getK fr 6 fun t6 => getK fr 8 fun t8 => getK fr 9 fun t9 => getK fr 10 fun t10 => getK fr 11 fun t11 => binK .add t11 (.int .i64 (.ofNat 1)) fun v18 => k .normal ⟨(T.set (T.set (T.set (T.set (T.set (T.set (T.set (T.set .leaf 6 t6) 8 t8) 9 t9) 10 t10) 11 t11) 24 t11) 25 v18) 11 v18), H⟩ τ
def s_headers_Split_l1 (call : CallK) (N : Nat) (st : St) (τ : Tape) (k : KC) : Ans := match st with
  | ⟨fr, H⟩ => getK fr 6 fun t6 => getK fr 8 fun t8 => getK fr 9 fun t9 => getK fr 10 fun t10 => getK fr 11 fun t11 => someK (pLenS [t6]) fun v16 => binK .lss t11 v16 fun v17 => condK v17 (someK (pStrIndex [t6, t11]) fun v19 => binK .eql v19 (.int .u8 (.ofNat 34)) fun v20 => condK v20 (unK .not t9 fun v21 => s_headers_Split_j2 call N k ⟨(T.set (T.set (T.set (T.set (T.set (T.set (T.set (T.set (T.set .leaf 6 t6) 8 t8) 9 t9) 10 t10) 11 t11) 26 v20) 31 t9) 32 v21) 9 v21), H⟩ τ) (gK t9 true (fun q' => q' t6 H τ) H τ fun v22 H23 τ24 => gK t9 true (fun q' => q' t11 H23 τ24) H23 τ24 fun v25 H26 τ27 => gK t9 true (fun q' => someK (pStrIndex [v22, v25]) fun v => q' v H26 τ27) H26 τ27 fun v28 H29 τ30 => gK t9 true (fun q' => binK .eql v28 (.int .u8 (.ofNat 92)) fun v => q' v H29 τ30) H29 τ30 fun v31 H32 τ33 => someK (pPick [t9, v31, (.bool false)]) fun v34 => condK v34
    (binK .add t11 (.int .i64 (.ofNat 1)) fun v35 => s_headers_Split_j2 call N k ⟨(T.set (T.set (T.set (T.set (T.set (T.set (T.set (T.set (T.set .leaf 6 t6) 8 t8) 9 t9) 10 t10) 11 t11) 33 v34) 41 t11) 42 v35) 11 v35), H32⟩ τ33) (unK .not t9 fun v36 => gK v36 true (fun q' => q' t6 H32 τ33) H32 τ33 fun v37 H38 τ39 => gK v36 true (fun q' => q' t11 H38 τ39) H38 τ39 fun v40 H41 τ42 => gK v36 true (fun q' => someK (pStrIndex [v37, v40]) fun v => q' v H41 τ42) H41 τ42 fun v43 H44 τ45 => gK v36 true (fun q' => binK .eql v43 (.int .u8 (.ofNat 44)) fun v => q' v H44 τ45) H44 τ45 fun v46 H47 τ48 => someK (pPick [v36, v46, (.bool false)]) fun v49 => condK v49 (someK (pStrSlice true true [t6, t10, t11]) fun v50 => call f_strings_Trim [v50, (.str (bs [9, 32]))] H47 τ48 fun v51 H52 τ53 => effK (eBuildSlice 1 1 [(.str [])] [(0, 1)] [v51] H52 τ53) fun v54 H55 τ56 =>
    effK (eAppend 1 16 [t8, v54] H55 τ56) fun v57 H58 τ59 => binK .add t11 (.int .i64 (.ofNat 1)) fun v60 => s_headers_Split_j2 call N k ⟨(T.set (T.set (T.set (T.set (T.set (T.set (T.set .leaf 6 t6) 8 v57) 9 t9) 11 t11) 60 t11) 61 v60) 10 v60), H58⟩ τ59) (s_headers_Split_j2 call N k ⟨(T.set (T.set (T.set (T.set (T.set (T.set .leaf 6 t6) 8 t8) 9 t9) 10 t10) 11 t11) 43 v49), H47⟩ τ48)))) (k (.exit 0) ⟨(T.set (T.set (T.set .leaf 6 t6) 8 t8) 10 t10), H⟩ τ)
def s_headers_Split (call : CallK) (N : Nat) (a0 a1 : V) (H : Heap) (τ : Tape) (q : KV) : Ans := call f_headers_Get [a0, a1] H τ fun v0 H1 τ2 => someK (pExtract 0 [v0]) fun v3 => someK (pExtract 1 [v0]) fun v4 => unK .not v4 fun v5 => condK v5 (q (.tup [.nils, (.bool false)]) H1 τ2) (loopK (s_headers_Split_l1 call N) N ⟨(T.set (T.set (T.set (T.set (T.set .leaf 6 v3) 8 .nils) 9 (.bool false)) 10 (.int .i64 (.ofNat 0))) 11 (.int .i64 (.ofNat 0))), H1⟩ τ2 (blockK 0 (seqK (s_headers_Split_j0 call N q) (endK [(.t 4), (.t 5)] q))))
theorem s_headers_Split_eq (call : CallK) (N : Nat) (a0 a1 : V) (H : Heap) (τ : Tape) (q : KV) : s_headers_Split call N a0 a1 H τ q = funK call N fn_headers_Split [a0, a1] H τ q := by kernel_rfl
def e_headers_Split (call : CallK) (N : Nat) (vs : List V) (H : Heap) (τ : Tape) (q : KV) : Ans := match vs with | [a0, a1] => s_headers_Split call N a0 a1 H τ q | _ => none
theorem e_headers_Split_ok : EntOk fn_headers_Split e_headers_Split := by
  intro call N vs H τ q r h
  unfold e_headers_Split at h
  split at h
  · rw [s_headers_Split_eq] at h; exact h
  · cases h
theorem e_headers_Split_nat : EntNat e_headers_Split := by
  intro c hn N vs H τ q
  unfold e_headers_Split
  split
  · rw [s_headers_Split_eq, s_headers_Split_eq]; exact funK_ent hn _ _ _ _ _ _
  · rfl
/-- ostiary/infra.Token -/
def fn_infra_Token : Fun := ⟨1, (.seq (.reg [iR 2 (.p .mv) [(.c (.bool false))]]) (.keep [0] (.seq (.seq (.reg [iR 6 (.p .mv) [(.t 0)], iR 7 (.p .lenS) [(.t 6)], iR 8 (.p .mv) [(.c (.int .i64 (.ofNat 0)))]]) (.keep [0, 7, 8] (.block 0 (.loop (.keep [0, 7, 8] (.seq (.reg [iR 9 (.p (.bin .lss)) [(.t 8), (.t 7)]]) (.keep [0, 7, 8, 9] (.seq (.cond (.t 9) .skip (.keep [0] (.exit 0))) (.keep [0, 7, 8] (.seq (.block 1 (.seq (.reg [iR 10 (.p .mv) [(.t 8)], iR 3 (.p .mv) [(.t 10)]]) (.keep [0, 3, 7, 8] (.seq (.reg [iR 11 (.p .mv) [(.t 0)], iR 12 (.p .mv) [(.t 3)], iR 13 (.p .strIndex) [(.t 11), (.t 12)], iR 4 (.p .mv) [(.t 13)]]) (.keep [0, 4, 7, 8] (.seq (.reg [iR 14 (.p .mv) [(.t 4)], iR 15 (.p (.bin .geq)) [(.t 14), (.c (.int .u8 (.ofNat 97)))], iR 16 (.p .mv) [(.t 15)], iG 17 16 true (.p .mv) [(.t 4)], iG 18 16 true (.p (.bin .leq)) [(.t 17), (.c (.int .u8 (.ofNat 122)))],
    iR 19 (.p .pick) [(.t 16), (.t 18), (.c (.bool false))], iR 20 (.p .mv) [(.t 19)], iG 21 20 false (.p .mv) [(.t 4)], iG 22 20 false (.p (.bin .geq)) [(.t 21), (.c (.int .u8 (.ofNat 65)))], iG 23 20 false (.p .mv) [(.t 22)], iG 24 23 true (.p .mv) [(.t 4)], iG 25 23 true (.p (.bin .leq)) [(.t 24), (.c (.int .u8 (.ofNat 90)))], iG 26 20 false (.p .pick) [(.t 23), (.t 25), (.c (.bool false))], iR 27 (.p .pick) [(.t 20), (.c (.bool true)), (.t 26)], iR 28 (.p .mv) [(.t 27)], iG 29 28 false (.p .mv) [(.t 4)], iG 30 28 false (.p (.bin .geq)) [(.t 29), (.c (.int .u8 (.ofNat 48)))], iG 31 28 false (.p .mv) [(.t 30)], iG 32 31 true (.p .mv) [(.t 4)], iG 33 31 true (.p (.bin .leq)) [(.t 32), (.c (.int .u8 (.ofNat 57)))], iG 34 28 false (.p .pick) [(.t 31), (.t 33), (.c (.bool false))], iR 35 (.p .pick) [(.t 28), (.c (.bool true)), (.t 34)], iR 5 (.p .mv) [(.t 35)]])
    (.keep [0, 4, 5, 7, 8] (.seq (.reg [iR 36 (.p .mv) [(.t 5)], iR 37 (.p (.un .not)) [(.t 36)], iR 38 (.p .mv) [(.t 37)], iG 39 38 true (.p .mv) [(.t 4)], iG 40 38 true (.call 111) [(.c (.str (bs [33, 35, 36, 37, 38, 39, 42, 43, 45, 46, 94, 95, 96, 124, 126]))), (.t 39)], iG 41 38 true (.p (.bin .lss)) [(.t 40), (.c (.int .i64 (.ofNat 0)))], iR 42 (.p .pick) [(.t 38), (.t 41), (.c (.bool false))]]) (.keep [0, 7, 8, 42] (.cond (.t 42) (.seq (.reg [iR 2 (.p .mv) [(.c (.bool false))]]) (.keep [2] (.keep [2] .ret))) .skip)))))))))) (.keep [0, 7, 8] (.reg [iR 43 (.p (.bin .add)) [(.t 8), (.c (.int .i64 (.ofNat 1)))], iR 8 (.p .mv) [(.t 43)]])))))))))))) (.keep [0] (.seq (.reg [iR 44 (.p .mv) [(.t 0)], iR 45 (.p (.bin .neq)) [(.t 44), (.c (.str []))], iR 2 (.p .mv) [(.t 45)]]) (.keep [2] (.keep [2] .ret))))))), [(.t 2)]⟩
def s_infra_Token_j0 (call : CallK) (N : Nat) (q : KV) (st : St) (τ : Tape) : Ans := match st with
  | ⟨fr, H⟩ => getK fr 0 fun t0 => binK .neq t0 (.str []) fun v1 => q v1 H τ
def s_infra_Token_l1 (call : CallK) (N : Nat) (st : St) (τ : Tape) (k : KC) : Ans := match st with
  | ⟨fr, H⟩ => getK fr 0 fun t0 => getK fr 7 fun t7 => getK fr 8 fun t8 => binK .lss t8 t7 fun v2 => condK v2 (someK (pStrIndex [t0, t8]) fun v3 => binK .geq v3 (.int .u8 (.ofNat 97)) fun v4 => gK v4 true (fun q' => q' v3 H τ) H τ fun v5 H6 τ7 => gK v4 true (fun q' => binK .leq v5 (.int .u8 (.ofNat 122)) fun v => q' v H6 τ7) H6 τ7 fun v8 H9 τ10 => someK (pPick [v4, v8, (.bool false)]) fun v11 => gK v11 false (fun q' => q' v3 H9 τ10) H9 τ10 fun v12 H13 τ14 => gK v11 false (fun q' => binK .geq v12 (.int .u8 (.ofNat 65)) fun v => q' v H13 τ14) H13 τ14 fun v15 H16 τ17 => gK v11 false (fun q' => q' v15 H16 τ17) H16 τ17 fun v18 H19 τ20 => gK v18 true (fun q' => q' v3 H19 τ20) H19 τ20 fun v21 H22 τ23 => gK v18 true (fun q' => binK .leq v21 (.int .u8 (.ofNat 90)) fun v => q' v H22 τ23) H22 τ23 fun v24 H25 τ26 =>
    gK v11 false (fun q' => someK (pPick [v18, v24, (.bool false)]) fun v => q' v H25 τ26) H25 τ26 fun v27 H28 τ29 => someK (pPick [v11, (.bool true), v27]) fun v30 => gK v30 false (fun q' => q' v3 H28 τ29) H28 τ29 fun v31 H32 τ33 => gK v30 false (fun q' => binK .geq v31 (.int .u8 (.ofNat 48)) fun v => q' v H32 τ33) H32 τ33 fun v34 H35 τ36 => gK v30 false (fun q' => q' v34 H35 τ36) H35 τ36 fun v37 H38 τ39 => gK v37 true (fun q' => q' v3 H38 τ39) H38 τ39 fun v40 H41 τ42 => gK v37 true (fun q' => binK .leq v40 (.int .u8 (.ofNat 57)) fun v => q' v H41 τ42) H41 τ42 fun v43 H44 τ45 => gK v30 false (fun q' => someK (pPick [v37, v43, (.bool false)]) fun v => q' v H44 τ45) H44 τ45 fun v46 H47 τ48 => someK (pPick [v30, (.bool true), v46]) fun v49 => unK .not v49 fun v50 => gK v50 true (fun q' => q' v3 H47 τ48) H47 τ48 fun v51 H52 τ53 =>
    gK v50 true (fun q' => call f_strings_IndexByte [(.str (bs [33, 35, 36, 37, 38, 39, 42, 43, 45, 46, 94, 95, 96, 124, 126])), v51] H52 τ53 q') H52 τ53 fun v54 H55 τ56 => gK v50 true (fun q' => binK .lss v54 (.int .i64 (.ofNat 0)) fun v => q' v H55 τ56) H55 τ56 fun v57 H58 τ59 => someK (pPick [v50, v57, (.bool false)]) fun v60 => condK v60 (k .ret ⟨(T.set .leaf 2 (.bool false)), H58⟩ τ59) (binK .add t8 (.int .i64 (.ofNat 1)) fun v61 => k .normal ⟨(T.set (T.set (T.set (T.set (T.set .leaf 0 t0) 7 t7) 8 t8) 43 v61) 8 v61), H58⟩ τ59)) (k (.exit 0) ⟨(T.set .leaf 0 t0), H⟩ τ)
def s_infra_Token (call : CallK) (N : Nat) (a0 : V) (H : Heap) (τ : Tape) (q : KV) : Ans := someK (pLenS [a0]) fun v0 => loopK (s_infra_Token_l1 call N) N ⟨(T.set (T.set (T.set .leaf 0 a0) 7 v0) 8 (.int .i64 (.ofNat 0))), H⟩ τ (blockK 0 (seqK (s_infra_Token_j0 call N q) (endK [(.t 2)] q)))
theorem s_infra_Token_eq (call : CallK) (N : Nat) (a0 : V) (H : Heap) (τ : Tape) (q : KV) : s_infra_Token call N a0 H τ q = funK call N fn_infra_Token [a0] H τ q := by kernel_rfl
def e_infra_Token (call : CallK) (N : Nat) (vs : List V) (H : Heap) (τ : Tape) (q : KV) : Ans := match vs with | [a0] => s_infra_Token call N a0 H τ q | _ => none
theorem e_infra_Token_ok : EntOk fn_infra_Token e_infra_Token := by
  intro call N vs H τ q r h
  unfold e_infra_Token at h
  split at h
  · rw [s_infra_Token_eq] at h; exact h
  · cases h
theorem e_infra_Token_nat : EntNat e_infra_Token := by
  intro c hn N vs H τ q
  unfold e_infra_Token
  split
  · rw [s_infra_Token_eq, s_infra_Token_eq]; exact funK_ent hn _ _ _ _ _ _
  · rfl
/-- ostiary/origin.Text -/
def fn_origin_Text : Fun := ⟨1, (.seq (.reg [iR 1 (.e .box) [(.t 0)], iR 2 (.p .mv) [(.c (.str []))]]) (.keep [1] (.seq (.seq (.reg [iR 4 (.p (.fieldAddr 3)) [(.t 1)], iR 5 (.l (.load none)) [(.t 4)]]) (.keep [1, 5] (.cond (.t 5) (.seq (.reg [iR 2 (.p .mv) [(.c (.str (bs [110, 117, 108, 108])))]]) (.keep [2] (.keep [2] .ret))) .skip))) (.keep [1] (.seq (.reg [iR 6 (.p (.fieldAddr 0)) [(.t 1)], iR 7 (.l (.load none)) [(.t 6)], iR 8 (.p (.bin .add)) [(.t 7), (.c (.str (bs [58, 47, 47])))], iR 9 (.p (.fieldAddr 1)) [(.t 1)], iR 10 (.l (.load none)) [(.t 9)], iR 11 (.p (.bin .add)) [(.t 8), (.t 10)], iR 3 (.p .mv) [(.t 11)]]) (.keep [1, 3] (.seq (.seq (.draw [iR 12 (.p (.fieldAddr 2)) [(.t 1)], ⟨(some 13), none, (.l (.load none)), [(.t 12)], some (0, 1)⟩, iR 14 (.p (.fieldAddr 0)) [(.t 1)], iR 15 (.l (.load none)) [(.t 14)], iR 16 (.call 112) [(.t 15)],
    iR 17 (.p (.bin .neq)) [(.t 13), (.t 16)]]) (.keep [1, 3, 17] (.cond (.t 17) (.reg [iR 18 (.p .mv) [(.t 3)], iR 19 (.p (.fieldAddr 2)) [(.t 1)], iR 20 (.l (.load none)) [(.t 19)], iR 21 (.call 113) [(.t 20)], iR 22 (.p (.bin .add)) [(.c (.str (bs [58]))), (.t 21)], iR 23 (.p (.bin .add)) [(.t 18), (.t 22)], iR 3 (.p .mv) [(.t 23)]]) .skip))) (.keep [3] (.seq (.reg [iR 24 (.p .mv) [(.t 3)], iR 2 (.p .mv) [(.t 24)]]) (.keep [2] (.keep [2] .ret))))))))))), [(.t 2)]⟩
def s_origin_Text_j0 (call : CallK) (N : Nat) (q : KV) (st : St) (τ : Tape) : Ans := match st with
  | ⟨fr, H⟩ => getK fr 3 fun t3 => q t3 H τ
def s_origin_Text (call : CallK) (N : Nat) (a0 : V) (H : Heap) (τ : Tape) (q : KV) : Ans := effK (eBox [a0] H τ) fun v0 H1 τ2 => someK (pFieldAddr 3 [v0]) fun v3 => someK (lLoad1 [v3] H1) fun v4 => condK v4 (q (.str (bs [110, 117, 108, 108])) H1 τ2) (someK (pFieldAddr 0 [v0]) fun v5 => someK (lLoad1 [v5] H1) fun v6 => binK .add v6 (.str (bs [58, 47, 47])) fun v7 => someK (pFieldAddr 1 [v0]) fun v8 => someK (lLoad1 [v8] H1) fun v9 => binK .add v7 v9 fun v10 => someK (pFieldAddr 2 [v0]) fun v11 => someK (lLoad1 [v11] H1) fun v12 => someK (pFieldAddr 0 [v0]) fun v13 => someK (lLoad1 [v13] H1) fun v14 => call f_url_Own [v14] H1 τ2 fun v15 H16 τ17 => binK .neq v12 v15 fun v18 => bif chkLoads [H1, H16] (((.load none), [v11], 0, 1) :: []) then condK v18 (someK (pFieldAddr 2 [v0]) fun v19 => someK (lLoad1 [v19] H16) fun v20 => call f_strconv_Itoa [v20] H16 τ17 fun v21 H22 τ23 =>
    binK .add (.str (bs [58])) v21 fun v24 => binK .add v10 v24 fun v25 => s_origin_Text_j0 call N q ⟨(T.set (T.set (T.set (T.set (T.set (T.set (T.set (T.set (T.set (T.set .leaf 1 v0) 3 v10) 17 v18) 18 v10) 19 v19) 20 v20) 21 v21) 22 v24) 23 v25) 3 v25), H22⟩ τ23) (s_origin_Text_j0 call N q ⟨(T.set (T.set (T.set .leaf 1 v0) 3 v10) 17 v18), H16⟩ τ17) else none)
theorem s_origin_Text_eq (call : CallK) (N : Nat) (a0 : V) (H : Heap) (τ : Tape) (q : KV) : s_origin_Text call N a0 H τ q = funK call N fn_origin_Text [a0] H τ q := by kernel_rfl
def e_origin_Text (call : CallK) (N : Nat) (vs : List V) (H : Heap) (τ : Tape) (q : KV) : Ans := match vs with | [a0] => s_origin_Text call N a0 H τ q | _ => none
theorem e_origin_Text_ok : EntOk fn_origin_Text e_origin_Text := by
  intro call N vs H τ q r h
  unfold e_origin_Text at h
  split at h
  · rw [s_origin_Text_eq] at h; exact h
  · cases h
theorem e_origin_Text_nat : EntNat e_origin_Text := by
  intro c hn N vs H τ q
  unfold e_origin_Text
  split
  · rw [s_origin_Text_eq, s_origin_Text_eq]; exact funK_ent hn _ _ _ _ _ _
  · rfl
/-- slices.Index[[]string,string] -/
def fn_slices_Index_string : Fun := ⟨2, (.seq (.reg [iR 4 (.p .mv) [(.c (.int .i64 (.ofNat 0)))]]) (.keep [0, 1] (.seq (.seq (.reg [iR 6 (.p .mv) [(.t 0)], iR 7 (.p .len) [(.t 6)], iR 8 (.p .mv) [(.c (.int .i64 (.ofNat 0)))]]) (.keep [0, 1, 7, 8] (.block 0 (.loop (.keep [0, 1, 7, 8] (.seq (.reg [iR 9 (.p (.bin .lss)) [(.t 8), (.t 7)]]) (.keep [0, 1, 7, 8, 9] (.seq (.cond (.t 9) .skip (.keep [] (.exit 0))) (.keep [0, 1, 7, 8] (.seq (.block 1 (.seq (.reg [iR 10 (.p .mv) [(.t 8)], iR 5 (.p .mv) [(.t 10)]]) (.keep [0, 1, 5, 7, 8] (.seq (.reg [iR 11 (.p .mv) [(.t 1)], iR 12 (.p .mv) [(.t 0)], iR 13 (.p .mv) [(.t 5)], iR 14 (.p (.slIdx 1)) [(.t 12), (.t 13)], iR 15 (.l (.load none)) [(.t 14)], iR 16 (.p (.bin .eql)) [(.t 11), (.t 15)]]) (.keep [0, 1, 5, 7, 8, 16] (.cond (.t 16) (.seq (.reg [iR 17 (.p .mv) [(.t 5)], iR 4 (.p .mv) [(.t 17)]]) (.keep [4] (.keep [4] .ret))) .skip))))))
    (.keep [0, 1, 7, 8] (.reg [iR 18 (.p (.bin .add)) [(.t 8), (.c (.int .i64 (.ofNat 1)))], iR 8 (.p .mv) [(.t 18)]])))))))))))) (.keep [] (.seq (.reg [iR 4 (.p .mv) [(.c (.int .i64 (.negSucc 0)))]]) (.keep [4] (.keep [4] .ret))))))), [(.t 4)]⟩
def s_slices_Index_string_j0 (call : CallK) (N : Nat) (q : KV) (st : St) (τ : Tape) : Ans := match st with
  | ⟨fr, H⟩ => q (.int .i64 (.negSucc 0)) H τ
def s_slices_Index_string_l1 (call : CallK) (N : Nat) (st : St) (τ : Tape) (k : KC) : Ans := match st with
  | ⟨fr, H⟩ => getK fr 0 fun t0 => getK fr 1 fun t1 => getK fr 7 fun t7 => getK fr 8 fun t8 => binK .lss t8 t7 fun v1 => condK v1 (someK (pSlIdx 1 [t0, t8]) fun v2 => someK (lLoad1 [v2] H) fun v3 => binK .eql t1 v3 fun v4 => condK v4 (k .ret ⟨(T.set .leaf 4 t8), H⟩ τ) (binK .add t8 (.int .i64 (.ofNat 1)) fun v5 => k .normal ⟨(T.set (T.set (T.set (T.set (T.set (T.set .leaf 0 t0) 1 t1) 7 t7) 8 t8) 18 v5) 8 v5), H⟩ τ)) (k (.exit 0) ⟨.leaf, H⟩ τ)
def s_slices_Index_string (call : CallK) (N : Nat) (a0 a1 : V) (H : Heap) (τ : Tape) (q : KV) : Ans := someK (pLen [a0]) fun v0 => loopK (s_slices_Index_string_l1 call N) N ⟨(T.set (T.set (T.set (T.set .leaf 0 a0) 1 a1) 7 v0) 8 (.int .i64 (.ofNat 0))), H⟩ τ (blockK 0 (seqK (s_slices_Index_string_j0 call N q) (endK [(.t 4)] q)))
theorem s_slices_Index_string_eq (call : CallK) (N : Nat) (a0 a1 : V) (H : Heap) (τ : Tape) (q : KV) : s_slices_Index_string call N a0 a1 H τ q = funK call N fn_slices_Index_string [a0, a1] H τ q := by kernel_rfl
def e_slices_Index_string (call : CallK) (N : Nat) (vs : List V) (H : Heap) (τ : Tape) (q : KV) : Ans := match vs with | [a0, a1] => s_slices_Index_string call N a0 a1 H τ q | _ => none
theorem e_slices_Index_string_ok : EntOk fn_slices_Index_string e_slices_Index_string := by
  intro call N vs H τ q r h
  unfold e_slices_Index_string at h
  split at h
  · rw [s_slices_Index_string_eq] at h; exact h
  · cases h
theorem e_slices_Index_string_nat : EntNat e_slices_Index_string := by
  intro c hn N vs H τ q
  unfold e_slices_Index_string
  split
  · rw [s_slices_Index_string_eq, s_slices_Index_string_eq]; exact funK_ent hn _ _ _ _ _ _
  · rfl
/-- ostiary/infra.mapped -/
def fn_infra_mapped : Fun := ⟨2, (.seq (.reg [iR 4 (.p .mv) [(.c (.str []))]]) (.keep [0, 1] (.seq (.reg [iR 8 (.p .mv) [(.t 0)], iR 9 (.e .strBytes) [(.t 8)], iR 5 (.p .mv) [(.t 9)]]) (.keep [1, 5] (.seq (.seq (.reg [iR 10 (.p .mv) [(.t 5)], iR 11 (.p .len) [(.t 10)], iR 12 (.p .mv) [(.c (.int .i64 (.ofNat 0)))]]) (.keep [1, 5, 10, 11, 12] (.block 0 (.loop (.keep [1, 5, 10, 11, 12] (.seq (.reg [iR 13 (.p (.bin .lss)) [(.t 12), (.t 11)]]) (.keep [1, 5, 10, 11, 12, 13] (.seq (.cond (.t 13) .skip (.keep [5] (.exit 0))) (.keep [1, 5, 10, 11, 12] (.seq (.block 1 (.seq (.reg [iR 14 (.p .mv) [(.t 12)], iR 15 (.p (.slIdx 1)) [(.t 10), (.t 12)], iR 16 (.l (.load none)) [(.t 15)], iR 6 (.p .mv) [(.t 14)], iR 7 (.p .mv) [(.t 16)]]) (.keep [1, 5, 6, 7, 10, 11, 12] (.reg [iR 17 (.p .mv) [(.t 5)], iR 18 (.p .mv) [(.t 6)], iR 19 (.p .mv) [(.t 1)], iR 20 (.p .mv) [(.t 7)],
    iR 21 .callv [(.t 19), (.t 20)], iR 22 (.p (.slIdx 1)) [(.t 17), (.t 18)], ⟨none, none, (.e (.store 1)), [(.t 22), (.t 21)], none⟩])))) (.keep [1, 5, 10, 11, 12] (.reg [iR 23 (.p (.bin .add)) [(.t 12), (.c (.int .i64 (.ofNat 1)))], iR 12 (.p .mv) [(.t 23)]])))))))))))) (.keep [5] (.seq (.reg [iR 24 (.p .mv) [(.t 5)], iR 25 (.l .bytesStr) [(.t 24)], iR 4 (.p .mv) [(.t 25)]]) (.keep [4] (.keep [4] .ret))))))))), [(.t 4)]⟩
def s_infra_mapped_j0 (call : CallK) (N : Nat) (q : KV) (st : St) (τ : Tape) : Ans := match st with
  | ⟨fr, H⟩ => getK fr 5 fun t5 => someK (lBytesStr [t5] H) fun v4 => q v4 H τ
def s_infra_mapped_l1 (call : CallK) (N : Nat) (st : St) (τ : Tape) (k : KC) : Ans := match st with
  | ⟨fr, H⟩ => getK fr 1 fun t1 => getK fr 5 fun t5 => getK fr 10 fun t10 => getK fr 11 fun t11 => getK fr 12 fun t12 => binK .lss t12 t11 fun v5 => condK v5 (someK (pSlIdx 1 [t10, t12]) fun v6 => someK (lLoad1 [v6] H) fun v7 => opK call .callv [t1, v7] H τ fun v8 H9 τ10 => someK (pSlIdx 1 [t5, t12]) fun v11 => effK (eStore 1 [v11, v8] H9 τ10) fun v12 H13 τ14 => binK .add t12 (.int .i64 (.ofNat 1)) fun v15 => k .normal ⟨(T.set (T.set (T.set (T.set (T.set (T.set (T.set .leaf 1 t1) 5 t5) 10 t10) 11 t11) 12 t12) 23 v15) 12 v15), H13⟩ τ14) (k (.exit 0) ⟨(T.set .leaf 5 t5), H⟩ τ)
def s_infra_mapped (call : CallK) (N : Nat) (a0 a1 : V) (H : Heap) (τ : Tape) (q : KV) : Ans := effK (eStrBytes [a0] H τ) fun v0 H1 τ2 => someK (pLen [v0]) fun v3 => loopK (s_infra_mapped_l1 call N) N ⟨(T.set (T.set (T.set (T.set (T.set .leaf 1 a1) 5 v0) 10 v0) 11 v3) 12 (.int .i64 (.ofNat 0))), H1⟩ τ2 (blockK 0 (seqK (s_infra_mapped_j0 call N q) (endK [(.t 4)] q)))
theorem s_infra_mapped_eq (call : CallK) (N : Nat) (a0 a1 : V) (H : Heap) (τ : Tape) (q : KV) : s_infra_mapped call N a0 a1 H τ q = funK call N fn_infra_mapped [a0, a1] H τ q := by kernel_rfl
def e_infra_mapped (call : CallK) (N : Nat) (vs : List V) (H : Heap) (τ : Tape) (q : KV) : Ans := match vs with | [a0, a1] => s_infra_mapped call N a0 a1 H τ q | _ => none
theorem e_infra_mapped_ok : EntOk fn_infra_mapped e_infra_mapped := by
  intro call N vs H τ q r h
  unfold e_infra_mapped at h
  split at h
  · rw [s_infra_mapped_eq] at h; exact h
  · cases h
theorem e_infra_mapped_nat : EntNat e_infra_mapped := by
  intro c hn N vs H τ q
  unfold e_infra_mapped
  split
  · rw [s_infra_mapped_eq, s_infra_mapped_eq]; exact funK_ent hn _ _ _ _ _ _
  · rfl
/-- ostiary/infra.Lower$1 -/
def fn_infra_Lower_1 : Fun := ⟨1, (.seq (.reg [iR 2 (.p .mv) [(.c (.int .u8 (.ofNat 0)))]]) (.keep [0] (.seq (.seq (.reg [iR 3 (.p .mv) [(.t 0)], iR 4 (.p (.bin .geq)) [(.t 3), (.c (.int .u8 (.ofNat 65)))], iR 5 (.p .mv) [(.t 4)], iG 6 5 true (.p .mv) [(.t 0)], iG 7 5 true (.p (.bin .leq)) [(.t 6), (.c (.int .u8 (.ofNat 90)))], iR 8 (.p .pick) [(.t 5), (.t 7), (.c (.bool false))]]) (.keep [0, 8] (.cond (.t 8) (.reg [iR 9 (.p .mv) [(.t 0)], iR 10 (.p (.bin .add)) [(.t 9), (.c (.int .u8 (.ofNat 32)))], iR 0 (.p .mv) [(.t 10)]]) .skip))) (.keep [0] (.seq (.reg [iR 11 (.p .mv) [(.t 0)], iR 2 (.p .mv) [(.t 11)]]) (.keep [2] (.keep [2] .ret))))))), [(.t 2)]⟩
def s_infra_Lower_1_j0 (call : CallK) (N : Nat) (q : KV) (st : St) (τ : Tape) : Ans := match st with
  | ⟨fr, H⟩ => getK fr 0 fun t0 => q t0 H τ
def s_infra_Lower_1 (call : CallK) (N : Nat) (a0 : V) (H : Heap) (τ : Tape) (q : KV) : Ans := binK .geq a0 (.int .u8 (.ofNat 65)) fun v0 => gK v0 true (fun q' => q' a0 H τ) H τ fun v1 H2 τ3 => gK v0 true (fun q' => binK .leq v1 (.int .u8 (.ofNat 90)) fun v => q' v H2 τ3) H2 τ3 fun v4 H5 τ6 => someK (pPick [v0, v4, (.bool false)]) fun v7 => condK v7 (binK .add a0 (.int .u8 (.ofNat 32)) fun v8 => s_infra_Lower_1_j0 call N q ⟨(T.set (T.set (T.set (T.set (T.set .leaf 0 a0) 8 v7) 9 a0) 10 v8) 0 v8), H5⟩ τ6) (s_infra_Lower_1_j0 call N q ⟨(T.set (T.set .leaf 0 a0) 8 v7), H5⟩ τ6)
theorem s_infra_Lower_1_eq (call : CallK) (N : Nat) (a0 : V) (H : Heap) (τ : Tape) (q : KV) : s_infra_Lower_1 call N a0 H τ q = funK call N fn_infra_Lower_1 [a0] H τ q := by kernel_rfl
def e_infra_Lower_1 (call : CallK) (N : Nat) (vs : List V) (H : Heap) (τ : Tape) (q : KV) : Ans := match vs with | [a0] => s_infra_Lower_1 call N a0 H τ q | _ => none
theorem e_infra_Lower_1_ok : EntOk fn_infra_Lower_1 e_infra_Lower_1 := by
  intro call N vs H τ q r h
  unfold e_infra_Lower_1 at h
  split at h
  · rw [s_infra_Lower_1_eq] at h; exact h
  · cases h
theorem e_infra_Lower_1_nat : EntNat e_infra_Lower_1 := by
  intro c hn N vs H τ q
  unfold e_infra_Lower_1
  split
  · rw [s_infra_Lower_1_eq, s_infra_Lower_1_eq]; exact funK_ent hn _ _ _ _ _ _
  · rfl
/-- ostiary/headers.is -/
def fn_headers_is : Fun := ⟨2, (.seq (.reg [iR 2 (.e .box) [(.t 0)], iR 4 (.p .mv) [(.c (.bool false))]]) (.keep [1, 2] (.seq (.reg [iR 5 (.p (.fieldAddr 0)) [(.t 2)], iR 6 (.l (.load none)) [(.t 5)], iR 7 (.call 59) [(.t 6)], iR 8 (.p .mv) [(.t 1)], iR 9 (.call 59) [(.t 8)], iR 10 (.p (.bin .eql)) [(.t 7), (.t 9)], iR 4 (.p .mv) [(.t 10)]]) (.keep [4] (.keep [4] .ret))))), [(.t 4)]⟩
def s_headers_is (call : CallK) (N : Nat) (a0 a1 : V) (H : Heap) (τ : Tape) (q : KV) : Ans := effK (eBox [a0] H τ) fun v0 H1 τ2 => someK (pFieldAddr 0 [v0]) fun v3 => someK (lLoad1 [v3] H1) fun v4 => call f_infra_Lower [v4] H1 τ2 fun v5 H6 τ7 => call f_infra_Lower [a1] H6 τ7 fun v8 H9 τ10 => binK .eql v5 v8 fun v11 => q v11 H9 τ10
theorem s_headers_is_eq (call : CallK) (N : Nat) (a0 a1 : V) (H : Heap) (τ : Tape) (q : KV) : s_headers_is call N a0 a1 H τ q = funK call N fn_headers_is [a0, a1] H τ q := by kernel_rfl
def e_headers_is (call : CallK) (N : Nat) (vs : List V) (H : Heap) (τ : Tape) (q : KV) : Ans := match vs with | [a0, a1] => s_headers_is call N a0 a1 H τ q | _ => none
theorem e_headers_is_ok : EntOk fn_headers_is e_headers_is := by
  intro call N vs H τ q r h
  unfold e_headers_is at h
  split at h
  · rw [s_headers_is_eq] at h; exact h
  · cases h
theorem e_headers_is_nat : EntNat e_headers_is := by
  intro c hn N vs H τ q
  unfold e_headers_is
  split
  · rw [s_headers_is_eq, s_headers_is_eq]; exact funK_ent hn _ _ _ _ _ _
  · rfl
/-- ostiary/ostiaryref3.Parse -/
def fn_ref3_Parse : Fun := ⟨1, (.seq (.reg [iR 2 (.e (.alloc [(.str []), (.str []), (.str []), (.str []), (.bool false), (.int .i64 (.ofNat 0)), (.bool false), .nils, (.str []), (.str []), (.bool false), (.bool false)])) [], iR 3 (.p .mv) [(.c (.int .i64 (.ofNat 0)))]]) (.keep [0, 2] (.seq (.seq (.reg [iR 10 (.p .mv) [(.t 0)], iR 11 (.p .lenS) [(.t 10)], iR 12 (.p (.bin .gtr)) [(.t 11), (.c (.int .i64 (.ofNat 4096)))]]) (.keep [0, 2, 12] (.cond (.t 12) (.seq (.reg [iR 13 (.p (.build [(.str []), (.str []), (.str []), (.str []), (.bool false), (.int .i64 (.ofNat 0)), (.bool false), .nils, (.str []), (.str []), (.bool false), (.bool false)] [])) [], ⟨none, none, (.e (.store 12)), [(.t 2), (.t 13)], none⟩, iR 3 (.p .mv) [(.c (.int .i64 (.ofNat 3)))]]) (.keep [2, 3] (.keep [2, 3] .ret))) .skip)))
    (.keep [0, 2] (.seq (.reg [iR 4 (.e (.alloc [(.str []), (.str []), (.str []), (.str []), (.bool false), (.int .i64 (.ofNat 0)), (.bool false), .nils, (.str []), (.str []), (.bool false), (.bool false)])) []]) (.keep [0, 2, 4] (.seq (.reg [iR 14 (.p .mv) [(.t 0)], iR 15 (.call 126) [(.t 14)], iR 16 (.call 125) [(.t 4), (.t 15)], iR 5 (.p .mv) [(.t 16)]]) (.keep [2, 4, 5] (.seq (.reg [iR 18 (.p .mv) [(.t 5)], iR 19 (.call 127) [(.t 18)], iR 17 (.p .mv) [(.t 19)], iR 20 (.p (.extract 0)) [(.t 17)], iR 21 (.p (.extract 1)) [(.t 17)], iR 22 (.p (.extract 2)) [(.t 17)], iR 6 (.p .mv) [(.t 20)], iR 7 (.p .mv) [(.t 21)], iR 8 (.p .mv) [(.t 22)]]) (.keep [2, 4, 6, 7, 8] (.seq (.seq (.reg [iR 23 (.p .mv) [(.t 8)], iR 24 (.p (.un .not)) [(.t 23)]]) (.keep [2, 4, 6, 7, 24] (.cond (.t 24)
    (.seq (.reg [iR 25 (.p (.build [(.str []), (.str []), (.str []), (.str []), (.bool false), (.int .i64 (.ofNat 0)), (.bool false), .nils, (.str []), (.str []), (.bool false), (.bool false)] [])) [], ⟨none, none, (.e (.store 12)), [(.t 2), (.t 25)], none⟩, iR 3 (.p .mv) [(.c (.int .i64 (.ofNat 12)))]]) (.keep [2, 3] (.keep [2, 3] .ret))) .skip))) (.keep [2, 4, 6, 7] (.seq (.reg [iR 26 (.p .mv) [(.t 6)], iR 27 (.p (.fieldAddr 0)) [(.t 4)], ⟨none, none, (.e (.store 1)), [(.t 27), (.t 26)], none⟩]) (.keep [2, 4, 7] (.seq (.reg [iR 28 (.p .mv) [(.t 7)], iR 29 (.call 128) [(.t 4), (.t 28)], iR 9 (.p .mv) [(.t 29)]]) (.keep [2, 4, 9] (.seq (.seq (.reg [iR 30 (.p .mv) [(.t 9)], iR 31 (.p (.bin .neq)) [(.t 30), (.c (.int .i64 (.ofNat 0)))]]) (.keep [2, 4, 9, 31] (.cond (.t 31)
    (.seq (.reg [iR 32 (.p (.build [(.str []), (.str []), (.str []), (.str []), (.bool false), (.int .i64 (.ofNat 0)), (.bool false), .nils, (.str []), (.str []), (.bool false), (.bool false)] [])) [], iR 33 (.p .mv) [(.t 9)], ⟨none, none, (.e (.store 12)), [(.t 2), (.t 32)], none⟩, iR 3 (.p .mv) [(.t 33)]]) (.keep [2, 3] (.keep [2, 3] .ret))) .skip))) (.keep [2, 4] (.seq (.reg [iR 34 (.l (.load (some 12))) [(.t 4)], ⟨none, none, (.e (.store 12)), [(.t 2), (.t 34)], none⟩, iR 3 (.p .mv) [(.c (.int .i64 (.ofNat 0)))]]) (.keep [2, 3] (.keep [2, 3] .ret))))))))))))))))))))), [(.cell 2 (some 12)), (.t 3)]⟩
def s_ref3_Parse (call : CallK) (N : Nat) (a0 : V) (H : Heap) (τ : Tape) (q : KV) : Ans := effK (eAlloc [(.str []), (.str []), (.str []), (.str []), (.bool false), (.int .i64 (.ofNat 0)), (.bool false), .nils, (.str []), (.str []), (.bool false), (.bool false)] [] H τ) fun v0 H1 τ2 => someK (pLenS [a0]) fun v3 => binK .gtr v3 (.int .i64 (.ofNat 4096)) fun v4 => condK v4 (someK (pBuild [(.str []), (.str []), (.str []), (.str []), (.bool false), (.int .i64 (.ofNat 0)), (.bool false), .nils, (.str []), (.str []), (.bool false), (.bool false)] [] []) fun v5 => effK (eStore 12 [v0, v5] H1 τ2) fun v6 H7 τ8 => someK (results ⟨(T.set (T.set .leaf 2 v0) 3 (.int .i64 (.ofNat 3))), H7⟩ [(.cell 2 (some 12)), (.t 3)]) fun v => q v H7 τ8)
    (effK (eAlloc [(.str []), (.str []), (.str []), (.str []), (.bool false), (.int .i64 (.ofNat 0)), (.bool false), .nils, (.str []), (.str []), (.bool false), (.bool false)] [] H1 τ2) fun v9 H10 τ11 => call f_ref3_clean [a0] H10 τ11 fun v12 H13 τ14 => call f_ref3_split [v9, v12] H13 τ14 fun v15 H16 τ17 => call f_ref3_scheme [v15] H16 τ17 fun v18 H19 τ20 => someK (pExtract 0 [v18]) fun v21 => someK (pExtract 1 [v18]) fun v22 => someK (pExtract 2 [v18]) fun v23 => unK .not v23 fun v24 => condK v24 (someK (pBuild [(.str []), (.str []), (.str []), (.str []), (.bool false), (.int .i64 (.ofNat 0)), (.bool false), .nils, (.str []), (.str []), (.bool false), (.bool false)] [] []) fun v25 => effK (eStore 12 [v0, v25] H19 τ20) fun v26 H27 τ28 => someK (results ⟨(T.set (T.set .leaf 2 v0) 3 (.int .i64 (.ofNat 12))), H27⟩ [(.cell 2 (some 12)), (.t 3)]) fun v => q v H27 τ28)
    (someK (pFieldAddr 0 [v9]) fun v29 => effK (eStore 1 [v29, v21] H19 τ20) fun v30 H31 τ32 => call f_ref3_full [v9, v22] H31 τ32 fun v33 H34 τ35 => binK .neq v33 (.int .i64 (.ofNat 0)) fun v36 => condK v36 (someK (pBuild [(.str []), (.str []), (.str []), (.str []), (.bool false), (.int .i64 (.ofNat 0)), (.bool false), .nils, (.str []), (.str []), (.bool false), (.bool false)] [] []) fun v37 => effK (eStore 12 [v0, v37] H34 τ35) fun v38 H39 τ40 => someK (results ⟨(T.set (T.set .leaf 2 v0) 3 v33), H39⟩ [(.cell 2 (some 12)), (.t 3)]) fun v => q v H39 τ40) (someK (lLoadN 12 [v9] H34) fun v41 => effK (eStore 12 [v0, v41] H34 τ35) fun v42 H43 τ44 => someK (results ⟨(T.set (T.set .leaf 2 v0) 3 (.int .i64 (.ofNat 0))), H43⟩ [(.cell 2 (some 12)), (.t 3)]) fun v => q v H43 τ44)))
theorem s_ref3_Parse_eq (call : CallK) (N : Nat) (a0 : V) (H : Heap) (τ : Tape) (q : KV) : s_ref3_Parse call N a0 H τ q = funK call N fn_ref3_Parse [a0] H τ q := by kernel_rfl
def e_ref3_Parse (call : CallK) (N : Nat) (vs : List V) (H : Heap) (τ : Tape) (q : KV) : Ans := match vs with | [a0] => s_ref3_Parse call N a0 H τ q | _ => none
theorem e_ref3_Parse_ok : EntOk fn_ref3_Parse e_ref3_Parse := by
  intro call N vs H τ q r h
  unfold e_ref3_Parse at h
  split at h
  · rw [s_ref3_Parse_eq] at h; exact h
  · cases h
theorem e_ref3_Parse_nat : EntNat e_ref3_Parse := by
  intro c hn N vs H τ q
  unfold e_ref3_Parse
  split
  · rw [s_ref3_Parse_eq, s_ref3_Parse_eq]; exact funK_ent hn _ _ _ _ _ _
  · rfl
/-- ostiary/ostiaryref3.Special -/
def fn_ref3_Special : Fun := ⟨1, (.seq (.reg [iR 2 (.p .mv) [(.c (.bool false))]]) (.keep [0] (.seq (.reg [iR 3 (.p .mv) [(.t 0)], iR 4 (.call 118) [(.t 3)], iR 5 (.p (.bin .geq)) [(.t 4), (.c (.int .i64 (.ofNat 0)))], iR 2 (.p .mv) [(.t 5)]]) (.keep [2] (.keep [2] .ret))))), [(.t 2)]⟩
def s_ref3_Special (call : CallK) (N : Nat) (a0 : V) (H : Heap) (τ : Tape) (q : KV) : Ans := call f_ref3_Own [a0] H τ fun v0 H1 τ2 => binK .geq v0 (.int .i64 (.ofNat 0)) fun v3 => q v3 H1 τ2
theorem s_ref3_Special_eq (call : CallK) (N : Nat) (a0 : V) (H : Heap) (τ : Tape) (q : KV) : s_ref3_Special call N a0 H τ q = funK call N fn_ref3_Special [a0] H τ q := by kernel_rfl
def e_ref3_Special (call : CallK) (N : Nat) (vs : List V) (H : Heap) (τ : Tape) (q : KV) : Ans := match vs with | [a0] => s_ref3_Special call N a0 H τ q | _ => none
theorem e_ref3_Special_ok : EntOk fn_ref3_Special e_ref3_Special := by
  intro call N vs H τ q r h
  unfold e_ref3_Special at h
  split at h
  · rw [s_ref3_Special_eq] at h; exact h
  · cases h
theorem e_ref3_Special_nat : EntNat e_ref3_Special := by
  intro c hn N vs H τ q
  unfold e_ref3_Special
  split
  · rw [s_ref3_Special_eq, s_ref3_Special_eq]; exact funK_ent hn _ _ _ _ _ _
  · rfl
/-- ostiary/ostiaryref4.Port -/
def fn_ref4_Port : Fun := ⟨1, (.seq (.reg [iR 1 (.e .box) [(.t 0)], iR 2 (.p .mv) [(.c (.int .i64 (.ofNat 0)))]]) (.keep [1] (.seq (.seq (.reg [iR 3 (.p (.fieldAddr 5)) [(.t 1)], iR 4 (.l (.load none)) [(.t 3)], iR 5 (.p (.bin .eql)) [(.t 4), (.c (.int .i64 (.negSucc 0)))]]) (.keep [1, 5] (.cond (.t 5) (.seq (.reg [iR 6 (.p (.fieldAddr 0)) [(.t 1)], iR 7 (.l (.load none)) [(.t 6)], iR 8 (.call 118) [(.t 7)], iR 2 (.p .mv) [(.t 8)]]) (.keep [2] (.keep [2] .ret))) .skip))) (.keep [1] (.seq (.reg [iR 9 (.p (.fieldAddr 5)) [(.t 1)], iR 10 (.l (.load none)) [(.t 9)], iR 2 (.p .mv) [(.t 10)]]) (.keep [2] (.keep [2] .ret))))))), [(.t 2)]⟩
def s_ref4_Port (call : CallK) (N : Nat) (a0 : V) (H : Heap) (τ : Tape) (q : KV) : Ans := effK (eBox [a0] H τ) fun v0 H1 τ2 => someK (pFieldAddr 5 [v0]) fun v3 => someK (lLoad1 [v3] H1) fun v4 => binK .eql v4 (.int .i64 (.negSucc 0)) fun v5 => condK v5 (someK (pFieldAddr 0 [v0]) fun v6 => someK (lLoad1 [v6] H1) fun v7 => call f_ref3_Own [v7] H1 τ2 fun v8 H9 τ10 => q v8 H9 τ10) (someK (pFieldAddr 5 [v0]) fun v11 => someK (lLoad1 [v11] H1) fun v12 => q v12 H1 τ2)
theorem s_ref4_Port_eq (call : CallK) (N : Nat) (a0 : V) (H : Heap) (τ : Tape) (q : KV) : s_ref4_Port call N a0 H τ q = funK call N fn_ref4_Port [a0] H τ q := by kernel_rfl
def e_ref4_Port (call : CallK) (N : Nat) (vs : List V) (H : Heap) (τ : Tape) (q : KV) : Ans := match vs with | [a0] => s_ref4_Port call N a0 H τ q | _ => none
theorem e_ref4_Port_ok : EntOk fn_ref4_Port e_ref4_Port := by
  intro call N vs H τ q r h
  unfold e_ref4_Port at h
  split at h
  · rw [s_ref4_Port_eq] at h; exact h
  · cases h
theorem e_ref4_Port_nat : EntNat e_ref4_Port := by
  intro c hn N vs H τ q
  unfold e_ref4_Port
  split
  · rw [s_ref4_Port_eq, s_ref4_Port_eq]; exact funK_ent hn _ _ _ _ _ _
  · rfl
/-- ostiary/headers.un-safe -/
def fn_headers_unsafe : Fun := ⟨1, (.seq (.reg [iR 2 (.p .mv) [(.c (.bool false))]]) (.keep [0] (.seq (.seq (.reg [iR 5 (.p .mv) [(.t 0)], iR 6 (.p .lenS) [(.t 5)], iR 7 (.p .mv) [(.c (.int .i64 (.ofNat 0)))]]) (.keep [0, 6, 7] (.block 0 (.loop (.keep [0, 6, 7] (.seq (.reg [iR 8 (.p (.bin .lss)) [(.t 7), (.t 6)]]) (.keep [0, 6, 7, 8] (.seq (.cond (.t 8) .skip (.keep [] (.exit 0))) (.keep [0, 6, 7] (.seq (.block 1 (.seq (.reg [iR 9 (.p .mv) [(.t 7)], iR 3 (.p .mv) [(.t 9)]]) (.keep [0, 3, 6, 7] (.seq (.reg [iR 10 (.p .mv) [(.t 0)], iR 11 (.p .mv) [(.t 3)], iR 12 (.p .strIndex) [(.t 10), (.t 11)], iR 4 (.p .mv) [(.t 12)]]) (.keep [0, 4, 6, 7] (.seq (.reg [iR 13 (.p .mv) [(.t 4)], iR 14 (.p (.bin .lss)) [(.t 13), (.c (.int .u8 (.ofNat 32)))], iR 15 (.p .mv) [(.t 14)], iG 16 15 true (.p .mv) [(.t 4)], iG 17 15 true (.p (.bin .neq)) [(.t 16), (.c (.int .u8 (.ofNat 9)))],
    iR 18 (.p .pick) [(.t 15), (.t 17), (.c (.bool false))], iR 19 (.p .mv) [(.t 18)], iG 20 19 false (.p .mv) [(.t 4)], iG 21 19 false (.p (.bin .eql)) [(.t 20), (.c (.int .u8 (.ofNat 127)))], iR 22 (.p .pick) [(.t 19), (.c (.bool true)), (.t 21)], iR 23 (.p .mv) [(.t 22)], iG 24 23 false (.p .mv) [(.t 4)], iG 25 23 false (.call 111) [(.c (.str (bs [34, 40, 41, 58, 60, 62, 63, 64, 91, 92, 93, 123, 125]))), (.t 24)], iG 26 23 false (.p (.bin .geq)) [(.t 25), (.c (.int .i64 (.ofNat 0)))], iR 27 (.p .pick) [(.t 23), (.c (.bool true)), (.t 26)]]) (.keep [0, 6, 7, 27] (.cond (.t 27) (.seq (.reg [iR 2 (.p .mv) [(.c (.bool true))]]) (.keep [2] (.keep [2] .ret))) .skip)))))))) (.keep [0, 6, 7] (.reg [iR 28 (.p (.bin .add)) [(.t 7), (.c (.int .i64 (.ofNat 1)))], iR 7 (.p .mv) [(.t 28)]])))))))))))) (.keep [] (.seq (.reg [iR 2 (.p .mv) [(.c (.bool false))]]) (.keep [2] (.keep [2] .ret))))))),
    [(.t 2)]⟩
def s_headers_unsafe_j0 (call : CallK) (N : Nat) (q : KV) (st : St) (τ : Tape) : Ans := match st with
  | ⟨fr, H⟩ => q (.bool false) H τ
def s_headers_unsafe_l1 (call : CallK) (N : Nat) (st : St) (τ : Tape) (k : KC) : Ans := match st with
  | ⟨fr, H⟩ => getK fr 0 fun t0 => getK fr 6 fun t6 => getK fr 7 fun t7 => binK .lss t7 t6 fun v1 => condK v1 (someK (pStrIndex [t0, t7]) fun v2 => binK .lss v2 (.int .u8 (.ofNat 32)) fun v3 => gK v3 true (fun q' => q' v2 H τ) H τ fun v4 H5 τ6 => gK v3 true (fun q' => binK .neq v4 (.int .u8 (.ofNat 9)) fun v => q' v H5 τ6) H5 τ6 fun v7 H8 τ9 => someK (pPick [v3, v7, (.bool false)]) fun v10 => gK v10 false (fun q' => q' v2 H8 τ9) H8 τ9 fun v11 H12 τ13 => gK v10 false (fun q' => binK .eql v11 (.int .u8 (.ofNat 127)) fun v => q' v H12 τ13) H12 τ13 fun v14 H15 τ16 => someK (pPick [v10, (.bool true), v14]) fun v17 => gK v17 false (fun q' => q' v2 H15 τ16) H15 τ16 fun v18 H19 τ20 => gK v17 false (fun q' => call f_strings_IndexByte [(.str (bs [34, 40, 41, 58, 60, 62, 63, 64, 91, 92, 93, 123, 125])), v18] H19 τ20 q') H19 τ20 fun v21 H22 τ23 =>
    gK v17 false (fun q' => binK .geq v21 (.int .i64 (.ofNat 0)) fun v => q' v H22 τ23) H22 τ23 fun v24 H25 τ26 => someK (pPick [v17, (.bool true), v24]) fun v27 => condK v27 (k .ret ⟨(T.set .leaf 2 (.bool true)), H25⟩ τ26) (binK .add t7 (.int .i64 (.ofNat 1)) fun v28 => k .normal ⟨(T.set (T.set (T.set (T.set (T.set .leaf 0 t0) 6 t6) 7 t7) 28 v28) 7 v28), H25⟩ τ26)) (k (.exit 0) ⟨.leaf, H⟩ τ)
def s_headers_unsafe (call : CallK) (N : Nat) (a0 : V) (H : Heap) (τ : Tape) (q : KV) : Ans := someK (pLenS [a0]) fun v0 => loopK (s_headers_unsafe_l1 call N) N ⟨(T.set (T.set (T.set .leaf 0 a0) 6 v0) 7 (.int .i64 (.ofNat 0))), H⟩ τ (blockK 0 (seqK (s_headers_unsafe_j0 call N q) (endK [(.t 2)] q)))
theorem s_headers_unsafe_eq (call : CallK) (N : Nat) (a0 : V) (H : Heap) (τ : Tape) (q : KV) : s_headers_unsafe call N a0 H τ q = funK call N fn_headers_unsafe [a0] H τ q := by kernel_rfl
def e_headers_unsafe (call : CallK) (N : Nat) (vs : List V) (H : Heap) (τ : Tape) (q : KV) : Ans := match vs with | [a0] => s_headers_unsafe call N a0 H τ q | _ => none
theorem e_headers_unsafe_ok : EntOk fn_headers_unsafe e_headers_unsafe := by
  intro call N vs H τ q r h
  unfold e_headers_unsafe at h
  split at h
  · rw [s_headers_unsafe_eq] at h; exact h
  · cases h
theorem e_headers_unsafe_nat : EntNat e_headers_unsafe := by
  intro c hn N vs H τ q
  unfold e_headers_unsafe
  split
  · rw [s_headers_unsafe_eq, s_headers_unsafe_eq]; exact funK_ent hn _ _ _ _ _ _
  · rfl
/-- ostiary/headers.tongues -/
def fn_headers_tongues : Fun := ⟨1, (.seq (.reg [iR 2 (.p .mv) [(.c (.bool false))]]) (.keep [0] (.seq (.seq (.reg [iR 5 (.p .mv) [(.t 0)], iR 6 (.p .lenS) [(.t 5)], iR 7 (.p .mv) [(.c (.int .i64 (.ofNat 0)))]]) (.keep [0, 6, 7] (.block 0 (.loop (.keep [0, 6, 7] (.seq (.reg [iR 8 (.p (.bin .lss)) [(.t 7), (.t 6)]]) (.keep [0, 6, 7, 8] (.seq (.cond (.t 8) .skip (.keep [] (.exit 0))) (.keep [0, 6, 7] (.seq (.block 1 (.seq (.reg [iR 9 (.p .mv) [(.t 7)], iR 3 (.p .mv) [(.t 9)]]) (.keep [0, 3, 6, 7] (.seq (.reg [iR 10 (.p .mv) [(.t 0)], iR 11 (.p .mv) [(.t 3)], iR 12 (.p .strIndex) [(.t 10), (.t 11)], iR 4 (.p .mv) [(.t 12)]]) (.keep [0, 4, 6, 7] (.seq (.reg [iR 13 (.p .mv) [(.t 4)], iR 14 (.p (.bin .geq)) [(.t 13), (.c (.int .u8 (.ofNat 97)))], iR 15 (.p .mv) [(.t 14)], iG 16 15 true (.p .mv) [(.t 4)], iG 17 15 true (.p (.bin .leq)) [(.t 16), (.c (.int .u8 (.ofNat 122)))],
    iR 18 (.p .pick) [(.t 15), (.t 17), (.c (.bool false))], iR 19 (.p .mv) [(.t 18)], iG 20 19 false (.p .mv) [(.t 4)], iG 21 19 false (.p (.bin .geq)) [(.t 20), (.c (.int .u8 (.ofNat 65)))], iG 22 19 false (.p .mv) [(.t 21)], iG 23 22 true (.p .mv) [(.t 4)], iG 24 22 true (.p (.bin .leq)) [(.t 23), (.c (.int .u8 (.ofNat 90)))], iG 25 19 false (.p .pick) [(.t 22), (.t 24), (.c (.bool false))], iR 26 (.p .pick) [(.t 19), (.c (.bool true)), (.t 25)], iR 27 (.p .mv) [(.t 26)], iG 28 27 false (.p .mv) [(.t 4)], iG 29 27 false (.p (.bin .geq)) [(.t 28), (.c (.int .u8 (.ofNat 48)))], iG 30 27 false (.p .mv) [(.t 29)], iG 31 30 true (.p .mv) [(.t 4)], iG 32 30 true (.p (.bin .leq)) [(.t 31), (.c (.int .u8 (.ofNat 57)))], iG 33 27 false (.p .pick) [(.t 30), (.t 32), (.c (.bool false))], iR 34 (.p .pick) [(.t 27), (.c (.bool true)), (.t 33)], iR 35 (.p (.un .not)) [(.t 34)],
    iR 36 (.p .mv) [(.t 35)], iG 37 36 true (.p .mv) [(.t 4)], iG 38 36 true (.call 111) [(.c (.str (bs [32, 42, 44, 45, 46, 59, 61]))), (.t 37)], iG 39 36 true (.p (.bin .lss)) [(.t 38), (.c (.int .i64 (.ofNat 0)))], iR 40 (.p .pick) [(.t 36), (.t 39), (.c (.bool false))]]) (.keep [0, 6, 7, 40] (.cond (.t 40) (.seq (.reg [iR 2 (.p .mv) [(.c (.bool false))]]) (.keep [2] (.keep [2] .ret))) .skip)))))))) (.keep [0, 6, 7] (.reg [iR 41 (.p (.bin .add)) [(.t 7), (.c (.int .i64 (.ofNat 1)))], iR 7 (.p .mv) [(.t 41)]])))))))))))) (.keep [] (.seq (.reg [iR 2 (.p .mv) [(.c (.bool true))]]) (.keep [2] (.keep [2] .ret))))))), [(.t 2)]⟩
def s_headers_tongues_j0 (call : CallK) (N : Nat) (q : KV) (st : St) (τ : Tape) : Ans := match st with
  | ⟨fr, H⟩ => q (.bool true) H τ
def s_headers_tongues_l1 (call : CallK) (N : Nat) (st : St) (τ : Tape) (k : KC) : Ans := match st with
  | ⟨fr, H⟩ => getK fr 0 fun t0 => getK fr 6 fun t6 => getK fr 7 fun t7 => binK .lss t7 t6 fun v1 => condK v1 (someK (pStrIndex [t0, t7]) fun v2 => binK .geq v2 (.int .u8 (.ofNat 97)) fun v3 => gK v3 true (fun q' => q' v2 H τ) H τ fun v4 H5 τ6 => gK v3 true (fun q' => binK .leq v4 (.int .u8 (.ofNat 122)) fun v => q' v H5 τ6) H5 τ6 fun v7 H8 τ9 => someK (pPick [v3, v7, (.bool false)]) fun v10 => gK v10 false (fun q' => q' v2 H8 τ9) H8 τ9 fun v11 H12 τ13 => gK v10 false (fun q' => binK .geq v11 (.int .u8 (.ofNat 65)) fun v => q' v H12 τ13) H12 τ13 fun v14 H15 τ16 => gK v10 false (fun q' => q' v14 H15 τ16) H15 τ16 fun v17 H18 τ19 => gK v17 true (fun q' => q' v2 H18 τ19) H18 τ19 fun v20 H21 τ22 => gK v17 true (fun q' => binK .leq v20 (.int .u8 (.ofNat 90)) fun v => q' v H21 τ22) H21 τ22 fun v23 H24 τ25 =>
    gK v10 false (fun q' => someK (pPick [v17, v23, (.bool false)]) fun v => q' v H24 τ25) H24 τ25 fun v26 H27 τ28 => someK (pPick [v10, (.bool true), v26]) fun v29 => gK v29 false (fun q' => q' v2 H27 τ28) H27 τ28 fun v30 H31 τ32 => gK v29 false (fun q' => binK .geq v30 (.int .u8 (.ofNat 48)) fun v => q' v H31 τ32) H31 τ32 fun v33 H34 τ35 => gK v29 false (fun q' => q' v33 H34 τ35) H34 τ35 fun v36 H37 τ38 => gK v36 true (fun q' => q' v2 H37 τ38) H37 τ38 fun v39 H40 τ41 => gK v36 true (fun q' => binK .leq v39 (.int .u8 (.ofNat 57)) fun v => q' v H40 τ41) H40 τ41 fun v42 H43 τ44 => gK v29 false (fun q' => someK (pPick [v36, v42, (.bool false)]) fun v => q' v H43 τ44) H43 τ44 fun v45 H46 τ47 => someK (pPick [v29, (.bool true), v45]) fun v48 => unK .not v48 fun v49 => gK v49 true (fun q' => q' v2 H46 τ47) H46 τ47 fun v50 H51 τ52 =>
    gK v49 true (fun q' => call f_strings_IndexByte [(.str (bs [32, 42, 44, 45, 46, 59, 61])), v50] H51 τ52 q') H51 τ52 fun v53 H54 τ55 => gK v49 true (fun q' => binK .lss v53 (.int .i64 (.ofNat 0)) fun v => q' v H54 τ55) H54 τ55 fun v56 H57 τ58 => someK (pPick [v49, v56, (.bool false)]) fun v59 => condK v59 (k .ret ⟨(T.set .leaf 2 (.bool false)), H57⟩ τ58) (binK .add t7 (.int .i64 (.ofNat 1)) fun v60 => k .normal ⟨(T.set (T.set (T.set (T.set (T.set .leaf 0 t0) 6 t6) 7 t7) 41 v60) 7 v60), H57⟩ τ58)) (k (.exit 0) ⟨.leaf, H⟩ τ)
def s_headers_tongues (call : CallK) (N : Nat) (a0 : V) (H : Heap) (τ : Tape) (q : KV) : Ans := someK (pLenS [a0]) fun v0 => loopK (s_headers_tongues_l1 call N) N ⟨(T.set (T.set (T.set .leaf 0 a0) 6 v0) 7 (.int .i64 (.ofNat 0))), H⟩ τ (blockK 0 (seqK (s_headers_tongues_j0 call N q) (endK [(.t 2)] q)))
theorem s_headers_tongues_eq (call : CallK) (N : Nat) (a0 : V) (H : Heap) (τ : Tape) (q : KV) : s_headers_tongues call N a0 H τ q = funK call N fn_headers_tongues [a0] H τ q := by kernel_rfl
def e_headers_tongues (call : CallK) (N : Nat) (vs : List V) (H : Heap) (τ : Tape) (q : KV) : Ans := match vs with | [a0] => s_headers_tongues call N a0 H τ q | _ => none
theorem e_headers_tongues_ok : EntOk fn_headers_tongues e_headers_tongues := by
  intro call N vs H τ q r h
  unfold e_headers_tongues at h
  split at h
  · rw [s_headers_tongues_eq] at h; exact h
  · cases h
theorem e_headers_tongues_nat : EntNat e_headers_tongues := by
  intro c hn N vs H τ q
  unfold e_headers_tongues
  split
  · rw [s_headers_tongues_eq, s_headers_tongues_eq]; exact funK_ent hn _ _ _ _ _ _
  · rfl
/-- strings.Cut -/
def fn_strings_Cut : Fun := ⟨2, (.seq (.reg [iR 4 (.p .mv) [(.c (.str []))], iR 5 (.p .mv) [(.c (.str []))], iR 6 (.p .mv) [(.c (.bool false))]]) (.keep [0, 1] (.seq (.reg [iR 7 (.p .mv) [(.t 0)], iR 8 (.p .mv) [(.t 1)], iR 9 (.call 130) [(.t 7), (.t 8)], iR 10 (.p (.extract 0)) [(.t 9)], iR 11 (.p (.extract 1)) [(.t 9)], iR 12 (.p (.extract 2)) [(.t 9)], iR 4 (.p .mv) [(.t 10)], iR 5 (.p .mv) [(.t 11)], iR 6 (.p .mv) [(.t 12)]]) (.keep [4, 5, 6] (.keep [4, 5, 6] .ret))))), [(.t 4), (.t 5), (.t 6)]⟩
def s_strings_Cut (call : CallK) (N : Nat) (a0 a1 : V) (H : Heap) (τ : Tape) (q : KV) : Ans := call f_stringslite_Cut [a0, a1] H τ fun v0 H1 τ2 => someK (pExtract 0 [v0]) fun v3 => someK (pExtract 1 [v0]) fun v4 => someK (pExtract 2 [v0]) fun v5 => q (.tup [v3, v4, v5]) H1 τ2
theorem s_strings_Cut_eq (call : CallK) (N : Nat) (a0 a1 : V) (H : Heap) (τ : Tape) (q : KV) : s_strings_Cut call N a0 a1 H τ q = funK call N fn_strings_Cut [a0, a1] H τ q := by kernel_rfl
def e_strings_Cut (call : CallK) (N : Nat) (vs : List V) (H : Heap) (τ : Tape) (q : KV) : Ans := match vs with | [a0, a1] => s_strings_Cut call N a0 a1 H τ q | _ => none
theorem e_strings_Cut_ok : EntOk fn_strings_Cut e_strings_Cut := by
  intro call N vs H τ q r h
  unfold e_strings_Cut at h
  split at h
  · rw [s_strings_Cut_eq] at h; exact h
  · cases h
theorem e_strings_Cut_nat : EntNat e_strings_Cut := by
  intro c hn N vs H τ q
  unfold e_strings_Cut
  split
  · rw [s_strings_Cut_eq, s_strings_Cut_eq]; exact funK_ent hn _ _ _ _ _ _
  · rfl
/-- ostiary/infra.Strip -/
def fn_infra_Strip : Fun := ⟨1, (.seq (.reg [iR 2 (.p .mv) [(.c (.str []))]]) (.keep [0] (.seq (.reg [iR 3 (.p .mv) [(.t 0)], iR 4 (.call 110) [(.t 3), (.c (.str (bs [9, 10, 12, 13, 32])))], iR 2 (.p .mv) [(.t 4)]]) (.keep [2] (.keep [2] .ret))))), [(.t 2)]⟩
def s_infra_Strip (call : CallK) (N : Nat) (a0 : V) (H : Heap) (τ : Tape) (q : KV) : Ans := call f_strings_Trim [a0, (.str (bs [9, 10, 12, 13, 32]))] H τ fun v0 H1 τ2 => q v0 H1 τ2
theorem s_infra_Strip_eq (call : CallK) (N : Nat) (a0 : V) (H : Heap) (τ : Tape) (q : KV) : s_infra_Strip call N a0 H τ q = funK call N fn_infra_Strip [a0] H τ q := by kernel_rfl
def e_infra_Strip (call : CallK) (N : Nat) (vs : List V) (H : Heap) (τ : Tape) (q : KV) : Ans := match vs with | [a0] => s_infra_Strip call N a0 H τ q | _ => none
theorem e_infra_Strip_ok : EntOk fn_infra_Strip e_infra_Strip := by
  intro call N vs H τ q r h
  unfold e_infra_Strip at h
  split at h
  · rw [s_infra_Strip_eq] at h; exact h
  · cases h
theorem e_infra_Strip_nat : EntNat e_infra_Strip := by
  intro c hn N vs H τ q
  unfold e_infra_Strip
  split
  · rw [s_infra_Strip_eq, s_infra_Strip_eq]; exact funK_ent hn _ _ _ _ _ _
  · rfl
/-- ostiary/headers.Range -/
def fn_headers_Range : Fun := ⟨1, (.seq (.reg [iR 2 (.p .mv) [(.c (.int .i64 (.ofNat 0)))], iR 3 (.p .mv) [(.c (.int .i64 (.ofNat 0)))], iR 4 (.p .mv) [(.c (.bool false))]]) (.keep [0] (.seq (.reg [iR 15 (.p .mv) [(.t 0)], iR 16 (.call 131) [(.t 15), (.c (.str (bs [98, 121, 116, 101, 115, 61])))], iR 14 (.p .mv) [(.t 16)], iR 17 (.p (.extract 0)) [(.t 14)], iR 18 (.p (.extract 1)) [(.t 14)], iR 5 (.p .mv) [(.t 17)], iR 6 (.p .mv) [(.t 18)]]) (.keep [5, 6] (.seq (.reg [iR 20 (.p .mv) [(.t 5)], iR 21 (.call 100) [(.t 20), (.c (.str (bs [45])))], iR 19 (.p .mv) [(.t 21)], iR 22 (.p (.extract 0)) [(.t 19)], iR 23 (.p (.extract 1)) [(.t 19)], iR 24 (.p (.extract 2)) [(.t 19)], iR 7 (.p .mv) [(.t 22)], iR 8 (.p .mv) [(.t 23)], iR 9 (.p .mv) [(.t 24)]]) (.keep [6, 7, 8, 9] (.seq (.reg [iR 26 (.p .mv) [(.t 7)], iR 27 (.call 132) [(.t 26)], iR 25 (.p .mv) [(.t 27)],
    iR 28 (.p (.extract 0)) [(.t 25)], iR 29 (.p (.extract 1)) [(.t 25)], iR 10 (.p .mv) [(.t 28)], iR 11 (.p .mv) [(.t 29)]]) (.keep [6, 8, 9, 10, 11] (.seq (.reg [iR 31 (.p .mv) [(.t 8)], iR 32 (.call 132) [(.t 31)], iR 30 (.p .mv) [(.t 32)], iR 33 (.p (.extract 0)) [(.t 30)], iR 34 (.p (.extract 1)) [(.t 30)], iR 12 (.p .mv) [(.t 33)], iR 13 (.p .mv) [(.t 34)]]) (.keep [6, 9, 10, 11, 12, 13] (.seq (.seq (.reg [iR 35 (.p .mv) [(.t 6)], iR 36 (.p (.un .not)) [(.t 35)], iR 37 (.p .mv) [(.t 36)], iG 38 37 false (.p .mv) [(.t 9)], iG 39 37 false (.p (.un .not)) [(.t 38)], iR 40 (.p .pick) [(.t 37), (.c (.bool true)), (.t 39)], iR 41 (.p .mv) [(.t 40)], iG 42 41 false (.p .mv) [(.t 11)], iG 43 41 false (.p (.un .not)) [(.t 42)], iR 44 (.p .pick) [(.t 41), (.c (.bool true)), (.t 43)], iR 45 (.p .mv) [(.t 44)], iG 46 45 false (.p .mv) [(.t 13)], iG 47 45 false (.p (.un .not)) [(.t 46)],
    iR 48 (.p .pick) [(.t 45), (.c (.bool true)), (.t 47)], iR 49 (.p .mv) [(.t 48)], iG 50 49 false (.p .mv) [(.t 10)], iG 51 49 false (.p (.bin .lss)) [(.t 50), (.c (.int .i64 (.ofNat 0)))], iG 52 49 false (.p .mv) [(.t 51)], iG 53 52 true (.p .mv) [(.t 12)], iG 54 52 true (.p (.bin .lss)) [(.t 53), (.c (.int .i64 (.ofNat 0)))], iG 55 49 false (.p .pick) [(.t 52), (.t 54), (.c (.bool false))], iR 56 (.p .pick) [(.t 49), (.c (.bool true)), (.t 55)], iR 57 (.p .mv) [(.t 56)], iG 58 57 false (.p .mv) [(.t 10)], iG 59 57 false (.p (.bin .geq)) [(.t 58), (.c (.int .i64 (.ofNat 0)))], iG 60 57 false (.p .mv) [(.t 59)], iG 61 60 true (.p .mv) [(.t 12)], iG 62 60 true (.p (.bin .geq)) [(.t 61), (.c (.int .i64 (.ofNat 0)))], iG 63 57 false (.p .pick) [(.t 60), (.t 62), (.c (.bool false))], iG 64 57 false (.p .mv) [(.t 63)], iG 65 64 true (.p .mv) [(.t 10)], iG 66 64 true (.p .mv) [(.t 12)],
    iG 67 64 true (.p (.bin .gtr)) [(.t 65), (.t 66)], iG 68 57 false (.p .pick) [(.t 64), (.t 67), (.c (.bool false))], iR 69 (.p .pick) [(.t 57), (.c (.bool true)), (.t 68)]]) (.keep [10, 12, 69] (.cond (.t 69) (.seq (.reg [iR 2 (.p .mv) [(.c (.int .i64 (.ofNat 0)))], iR 3 (.p .mv) [(.c (.int .i64 (.ofNat 0)))], iR 4 (.p .mv) [(.c (.bool false))]]) (.keep [2, 3, 4] (.keep [2, 3, 4] .ret))) .skip))) (.keep [10, 12] (.seq (.reg [iR 70 (.p .mv) [(.t 10)], iR 71 (.p .mv) [(.t 12)], iR 2 (.p .mv) [(.t 70)], iR 3 (.p .mv) [(.t 71)], iR 4 (.p .mv) [(.c (.bool true))]]) (.keep [2, 3, 4] (.keep [2, 3, 4] .ret))))))))))))))), [(.t 2), (.t 3), (.t 4)]⟩
def s_headers_Range (call : CallK) (N : Nat) (a0 : V) (H : Heap) (τ : Tape) (q : KV) : Ans := call f_strings_CutPrefix [a0, (.str (bs [98, 121, 116, 101, 115, 61]))] H τ fun v0 H1 τ2 => someK (pExtract 0 [v0]) fun v3 => someK (pExtract 1 [v0]) fun v4 => call f_strings_Cut [v3, (.str (bs [45]))] H1 τ2 fun v5 H6 τ7 => someK (pExtract 0 [v5]) fun v8 => someK (pExtract 1 [v5]) fun v9 => someK (pExtract 2 [v5]) fun v10 => call f_headers_told [v8] H6 τ7 fun v11 H12 τ13 => someK (pExtract 0 [v11]) fun v14 => someK (pExtract 1 [v11]) fun v15 => call f_headers_told [v9] H12 τ13 fun v16 H17 τ18 => someK (pExtract 0 [v16]) fun v19 => someK (pExtract 1 [v16]) fun v20 => unK .not v4 fun v21 => gK v21 false (fun q' => q' v10 H17 τ18) H17 τ18 fun v22 H23 τ24 => gK v21 false (fun q' => unK .not v22 fun v => q' v H23 τ24) H23 τ24 fun v25 H26 τ27 => someK (pPick [v21, (.bool true), v25]) fun v28 =>
    gK v28 false (fun q' => q' v15 H26 τ27) H26 τ27 fun v29 H30 τ31 => gK v28 false (fun q' => unK .not v29 fun v => q' v H30 τ31) H30 τ31 fun v32 H33 τ34 => someK (pPick [v28, (.bool true), v32]) fun v35 => gK v35 false (fun q' => q' v20 H33 τ34) H33 τ34 fun v36 H37 τ38 => gK v35 false (fun q' => unK .not v36 fun v => q' v H37 τ38) H37 τ38 fun v39 H40 τ41 => someK (pPick [v35, (.bool true), v39]) fun v42 => gK v42 false (fun q' => q' v14 H40 τ41) H40 τ41 fun v43 H44 τ45 => gK v42 false (fun q' => binK .lss v43 (.int .i64 (.ofNat 0)) fun v => q' v H44 τ45) H44 τ45 fun v46 H47 τ48 => gK v42 false (fun q' => q' v46 H47 τ48) H47 τ48 fun v49 H50 τ51 => gK v49 true (fun q' => q' v19 H50 τ51) H50 τ51 fun v52 H53 τ54 => gK v49 true (fun q' => binK .lss v52 (.int .i64 (.ofNat 0)) fun v => q' v H53 τ54) H53 τ54 fun v55 H56 τ57 =>
    gK v42 false (fun q' => someK (pPick [v49, v55, (.bool false)]) fun v => q' v H56 τ57) H56 τ57 fun v58 H59 τ60 => someK (pPick [v42, (.bool true), v58]) fun v61 => gK v61 false (fun q' => q' v14 H59 τ60) H59 τ60 fun v62 H63 τ64 => gK v61 false (fun q' => binK .geq v62 (.int .i64 (.ofNat 0)) fun v => q' v H63 τ64) H63 τ64 fun v65 H66 τ67 => gK v61 false (fun q' => q' v65 H66 τ67) H66 τ67 fun v68 H69 τ70 => gK v68 true (fun q' => q' v19 H69 τ70) H69 τ70 fun v71 H72 τ73 => gK v68 true (fun q' => binK .geq v71 (.int .i64 (.ofNat 0)) fun v => q' v H72 τ73) H72 τ73 fun v74 H75 τ76 => gK v61 false (fun q' => someK (pPick [v68, v74, (.bool false)]) fun v => q' v H75 τ76) H75 τ76 fun v77 H78 τ79 => gK v61 false (fun q' => q' v77 H78 τ79) H78 τ79 fun v80 H81 τ82 => gK v80 true (fun q' => q' v14 H81 τ82) H81 τ82 fun v83 H84 τ85 =>
    gK v80 true (fun q' => q' v19 H84 τ85) H84 τ85 fun v86 H87 τ88 => gK v80 true (fun q' => binK .gtr v83 v86 fun v => q' v H87 τ88) H87 τ88 fun v89 H90 τ91 => gK v61 false (fun q' => someK (pPick [v80, v89, (.bool false)]) fun v => q' v H90 τ91) H90 τ91 fun v92 H93 τ94 => someK (pPick [v61, (.bool true), v92]) fun v95 => condK v95 (q (.tup [(.int .i64 (.ofNat 0)), (.int .i64 (.ofNat 0)), (.bool false)]) H93 τ94) (q (.tup [v14, v19, (.bool true)]) H93 τ94)
theorem s_headers_Range_eq (call : CallK) (N : Nat) (a0 : V) (H : Heap) (τ : Tape) (q : KV) : s_headers_Range call N a0 H τ q = funK call N fn_headers_Range [a0] H τ q := by kernel_rfl
def e_headers_Range (call : CallK) (N : Nat) (vs : List V) (H : Heap) (τ : Tape) (q : KV) : Ans := match vs with | [a0] => s_headers_Range call N a0 H τ q | _ => none
theorem e_headers_Range_ok : EntOk fn_headers_Range e_headers_Range := by
  intro call N vs H τ q r h
  unfold e_headers_Range at h
  split at h
  · rw [s_headers_Range_eq] at h; exact h
  · cases h
theorem e_headers_Range_nat : EntNat e_headers_Range := by
  intro c hn N vs H τ q
  unfold e_headers_Range
  split
  · rw [s_headers_Range_eq, s_headers_Range_eq]; exact funK_ent hn _ _ _ _ _ _
  · rfl
/-- ostiary/ostiaryref1.Part -/
def fn_ref1_Part : Fun := ⟨2, (.seq (.reg [iR 4 (.p .mv) [(.c (.str []))], iR 5 (.p .mv) [(.c (.str []))], iR 6 (.p .mv) [(.c (.bool false))]]) (.keep [0, 1] (.seq (.seq (.reg [iR 7 (.p .mv) [(.c (.int .i64 (.ofNat 0)))]]) (.keep [0, 1, 7] (.block 0 (.loop (.keep [0, 1, 7] (.seq (.seq (.reg [iR 8 (.p .mv) [(.t 7)], iR 9 (.p .mv) [(.t 0)], iR 10 (.p .lenS) [(.t 9)], iR 11 (.p (.bin .lss)) [(.t 8), (.t 10)]]) (.keep [0, 1, 7, 11] (.cond (.t 11) .skip (.keep [0] (.exit 0))))) (.keep [0, 1, 7] (.seq (.block 1 (.seq (.reg [iR 14 (.p .mv) [(.t 0)], iR 15 (.p .mv) [(.t 7)], iR 16 (.p .strIndex) [(.t 14), (.t 15)], iR 17 (.p .mv) [(.t 1)], iR 18 (.p (.bin .eql)) [(.t 16), (.t 17)]]) (.keep [0, 1, 7, 18] (.cond (.t 18) (.seq (.draw [iR 19 (.p .mv) [(.t 0)], iR 20 (.p .mv) [(.t 7)], iR 21 (.p (.strSlice false true)) [(.t 19), (.t 20)], iR 22 (.p .mv) [(.t 0)], iR 23 (.p .mv) [(.t 7)],
    iR 24 (.p (.bin .add)) [(.t 23), (.c (.int .i64 (.ofNat 1)))], iR 25 (.p (.strSlice true false)) [(.t 22), (.t 24)], iR 4 (.p .mv) [(.t 21)], iR 5 (.p .mv) [(.t 25)], iR 6 (.p .mv) [(.c (.bool true))]]) (.keep [4, 5, 6] (.keep [4, 5, 6] .ret))) .skip)))) (.keep [0, 1, 7] (.reg [iR 12 (.p .mv) [(.t 7)], iR 13 (.p (.bin .add)) [(.t 12), (.c (.int .i64 (.ofNat 1)))], iR 7 (.p .mv) [(.t 13)]])))))))))) (.keep [0] (.seq (.reg [iR 26 (.p .mv) [(.t 0)], iR 4 (.p .mv) [(.t 26)], iR 5 (.p .mv) [(.c (.str []))], iR 6 (.p .mv) [(.c (.bool false))]]) (.keep [4, 5, 6] (.keep [4, 5, 6] .ret))))))), [(.t 4), (.t 5), (.t 6)]⟩
def s_ref1_Part_j0 (call : CallK) (N : Nat) (q : KV) (st : St) (τ : Tape) : Ans := match st with
  | ⟨fr, H⟩ => getK fr 0 fun t0 => q (.tup [t0, (.str []), (.bool false)]) H τ
def s_ref1_Part_l1 (call : CallK) (N : Nat) (st : St) (τ : Tape) (k : KC) : Ans := match st with
  | ⟨fr, H⟩ => getK fr 0 fun t0 => getK fr 1 fun t1 => getK fr 7 fun t7 => someK (pLenS [t0]) fun v0 => binK .lss t7 v0 fun v1 => condK v1 (someK (pStrIndex [t0, t7]) fun v2 => binK .eql v2 t1 fun v3 => condK v3 (someK (pStrSlice false true [t0, t7]) fun v4 => binK .add t7 (.int .i64 (.ofNat 1)) fun v5 => someK (pStrSlice true false [t0, v5]) fun v6 => k .ret ⟨(T.set (T.set (T.set .leaf 4 v4) 5 v6) 6 (.bool true)), H⟩ τ) (binK .add t7 (.int .i64 (.ofNat 1)) fun v7 => k .normal ⟨(T.set (T.set (T.set (T.set (T.set (T.set .leaf 0 t0) 1 t1) 7 t7) 12 t7) 13 v7) 7 v7), H⟩ τ)) (k (.exit 0) ⟨(T.set .leaf 0 t0), H⟩ τ)
def s_ref1_Part (call : CallK) (N : Nat) (a0 a1 : V) (H : Heap) (τ : Tape) (q : KV) : Ans := loopK (s_ref1_Part_l1 call N) N ⟨(T.set (T.set (T.set .leaf 0 a0) 1 a1) 7 (.int .i64 (.ofNat 0))), H⟩ τ (blockK 0 (seqK (s_ref1_Part_j0 call N q) (endK [(.t 4), (.t 5), (.t 6)] q)))
theorem s_ref1_Part_eq (call : CallK) (N : Nat) (a0 a1 : V) (H : Heap) (τ : Tape) (q : KV) : s_ref1_Part call N a0 a1 H τ q = funK call N fn_ref1_Part [a0, a1] H τ q := by kernel_rfl
def e_ref1_Part (call : CallK) (N : Nat) (vs : List V) (H : Heap) (τ : Tape) (q : KV) : Ans := match vs with | [a0, a1] => s_ref1_Part call N a0 a1 H τ q | _ => none
theorem e_ref1_Part_ok : EntOk fn_ref1_Part e_ref1_Part := by
  intro call N vs H τ q r h
  unfold e_ref1_Part at h
  split at h
  · rw [s_ref1_Part_eq] at h; exact h
  · cases h
theorem e_ref1_Part_nat : EntNat e_ref1_Part := by
  intro c hn N vs H τ q
  unfold e_ref1_Part
  split
  · rw [s_ref1_Part_eq, s_ref1_Part_eq]; exact funK_ent hn _ _ _ _ _ _
  · rfl
/-- strings.Trim -/
def fn_strings_Trim : Fun := ⟨2, (.seq (.reg [iR 4 (.p .mv) [(.c (.str []))]]) (.keep [0, 1] (.seq (.seq (.reg [iR 7 (.p .mv) [(.t 0)], iR 8 (.p (.bin .eql)) [(.t 7), (.c (.str []))], iR 9 (.p .mv) [(.t 8)], iG 10 9 false (.p .mv) [(.t 1)], iG 11 9 false (.p (.bin .eql)) [(.t 10), (.c (.str []))], iR 12 (.p .pick) [(.t 9), (.c (.bool true)), (.t 11)]]) (.keep [0, 1, 12] (.cond (.t 12) (.seq (.reg [iR 13 (.p .mv) [(.t 0)], iR 4 (.p .mv) [(.t 13)]]) (.keep [4] (.keep [4] .ret))) .skip))) (.keep [0, 1] (.seq (.seq (.reg [iR 14 (.p .mv) [(.t 1)], iR 15 (.p .lenS) [(.t 14)], iR 16 (.p (.bin .eql)) [(.t 15), (.c (.int .i64 (.ofNat 1)))], iR 17 (.p .mv) [(.t 16)], iG 18 17 true (.p .mv) [(.t 1)], iG 19 17 true (.p .strIndex) [(.t 18), (.c (.int .i64 (.ofNat 0)))], iG 20 17 true (.p (.bin .lss)) [(.t 19), (.c (.int .u8 (.ofNat 128)))],
    iR 21 (.p .pick) [(.t 17), (.t 20), (.c (.bool false))]]) (.keep [0, 1, 21] (.cond (.t 21) (.seq (.draw [iR 22 (.p .mv) [(.t 0)], iR 23 (.p .mv) [(.t 1)], iR 24 (.p .strIndex) [(.t 23), (.c (.int .i64 (.ofNat 0)))], iR 25 (.call 139) [(.t 22), (.t 24)], iR 26 (.p .mv) [(.t 1)], iR 27 (.p .strIndex) [(.t 26), (.c (.int .i64 (.ofNat 0)))], iR 28 (.call 138) [(.t 25), (.t 27)], iR 4 (.p .mv) [(.t 28)]]) (.keep [4] (.keep [4] .ret))) .skip))) (.keep [0, 1] (.seq (.seq (.reg [iR 30 (.p .mv) [(.t 1)], iR 31 (.call 140) [(.t 30)], iR 29 (.p .mv) [(.t 31)], iR 32 (.p (.extract 0)) [(.t 29)], iR 33 (.p (.extract 1)) [(.t 29)], iR 5 (.e (.alloc (repl 256 [(.bool false)]))) [], ⟨none, none, (.e (.store 256)), [(.t 5), (.t 32)], none⟩, iR 6 (.p .mv) [(.t 33)]]) (.keep [0, 1, 5, 6] (.seq (.reg [iR 34 (.p .mv) [(.t 6)]]) (.keep [0, 1, 5, 34] (.cond (.t 34) (.seq (.reg [iR 35 (.p .mv) [(.t 0)],
    iR 36 (.call 142) [(.t 35), (.t 5)], iR 37 (.call 141) [(.t 36), (.t 5)], iR 4 (.p .mv) [(.t 37)]]) (.keep [4] (.keep [4] .ret))) .skip))))) (.keep [0, 1] (.seq (.reg [iR 38 (.p .mv) [(.t 0)], iR 39 (.p .mv) [(.t 1)], iR 40 (.call 144) [(.t 38), (.t 39)], iR 41 (.p .mv) [(.t 1)], iR 42 (.call 143) [(.t 40), (.t 41)], iR 4 (.p .mv) [(.t 42)]]) (.keep [4] (.keep [4] .ret))))))))))), [(.t 4)]⟩
def s_strings_Trim (call : CallK) (N : Nat) (a0 a1 : V) (H : Heap) (τ : Tape) (q : KV) : Ans := binK .eql a0 (.str []) fun v0 => gK v0 false (fun q' => q' a1 H τ) H τ fun v1 H2 τ3 => gK v0 false (fun q' => binK .eql v1 (.str []) fun v => q' v H2 τ3) H2 τ3 fun v4 H5 τ6 => someK (pPick [v0, (.bool true), v4]) fun v7 => condK v7 (q a0 H5 τ6) (someK (pLenS [a1]) fun v8 => binK .eql v8 (.int .i64 (.ofNat 1)) fun v9 => gK v9 true (fun q' => q' a1 H5 τ6) H5 τ6 fun v10 H11 τ12 => gK v9 true (fun q' => someK (pStrIndex [v10, (.int .i64 (.ofNat 0))]) fun v => q' v H11 τ12) H11 τ12 fun v13 H14 τ15 => gK v9 true (fun q' => binK .lss v13 (.int .u8 (.ofNat 128)) fun v => q' v H14 τ15) H14 τ15 fun v16 H17 τ18 => someK (pPick [v9, v16, (.bool false)]) fun v19 => condK v19 (someK (pStrIndex [a1, (.int .i64 (.ofNat 0))]) fun v20 => call f_strings_trimRightByte [a0, v20] H17 τ18 fun v21 H22 τ23 =>
    someK (pStrIndex [a1, (.int .i64 (.ofNat 0))]) fun v24 => call f_strings_trimLeftByte [v21, v24] H22 τ23 fun v25 H26 τ27 => q v25 H26 τ27) (call f_strings_makeASCIISet [a1] H17 τ18 fun v28 H29 τ30 => someK (pExtract 0 [v28]) fun v31 => someK (pExtract 1 [v28]) fun v32 => effK (eAlloc (repl 256 [(.bool false)]) [] H29 τ30) fun v33 H34 τ35 => effK (eStore 256 [v33, v31] H34 τ35) fun v36 H37 τ38 => condK v32 (call f_strings_trimRightASCII [a0, v33] H37 τ38 fun v39 H40 τ41 => call f_strings_trimLeftASCII [v39, v33] H40 τ41 fun v42 H43 τ44 => q v42 H43 τ44) (call f_strings_trimRightUnicode [a0, a1] H37 τ38 fun v45 H46 τ47 => call f_strings_trimLeftUnicode [v45, a1] H46 τ47 fun v48 H49 τ50 => q v48 H49 τ50)))
theorem s_strings_Trim_eq (call : CallK) (N : Nat) (a0 a1 : V) (H : Heap) (τ : Tape) (q : KV) : s_strings_Trim call N a0 a1 H τ q = funK call N fn_strings_Trim [a0, a1] H τ q := by kernel_rfl
def e_strings_Trim (call : CallK) (N : Nat) (vs : List V) (H : Heap) (τ : Tape) (q : KV) : Ans := match vs with | [a0, a1] => s_strings_Trim call N a0 a1 H τ q | _ => none
theorem e_strings_Trim_ok : EntOk fn_strings_Trim e_strings_Trim := by
  intro call N vs H τ q r h
  unfold e_strings_Trim at h
  split at h
  · rw [s_strings_Trim_eq] at h; exact h
  · cases h
theorem e_strings_Trim_nat : EntNat e_strings_Trim := by
  intro c hn N vs H τ q
  unfold e_strings_Trim
  split
  · rw [s_strings_Trim_eq, s_strings_Trim_eq]; exact funK_ent hn _ _ _ _ _ _
  · rfl
/-- strings.IndexByte -/
def fn_strings_IndexByte : Fun := ⟨2, (.seq (.reg [iR 4 (.p .mv) [(.c (.int .i64 (.ofNat 0)))]]) (.keep [0, 1] (.seq (.reg [iR 5 (.p .mv) [(.t 0)], iR 6 (.p .mv) [(.t 1)], iR 7 (.call 145) [(.t 5), (.t 6)], iR 4 (.p .mv) [(.t 7)]]) (.keep [4] (.keep [4] .ret))))), [(.t 4)]⟩
def s_strings_IndexByte (call : CallK) (N : Nat) (a0 a1 : V) (H : Heap) (τ : Tape) (q : KV) : Ans := call f_stringslite_IndexByte [a0, a1] H τ fun v0 H1 τ2 => q v0 H1 τ2
theorem s_strings_IndexByte_eq (call : CallK) (N : Nat) (a0 a1 : V) (H : Heap) (τ : Tape) (q : KV) : s_strings_IndexByte call N a0 a1 H τ q = funK call N fn_strings_IndexByte [a0, a1] H τ q := by kernel_rfl
def e_strings_IndexByte (call : CallK) (N : Nat) (vs : List V) (H : Heap) (τ : Tape) (q : KV) : Ans := match vs with | [a0, a1] => s_strings_IndexByte call N a0 a1 H τ q | _ => none
theorem e_strings_IndexByte_ok : EntOk fn_strings_IndexByte e_strings_IndexByte := by
  intro call N vs H τ q r h
  unfold e_strings_IndexByte at h
  split at h
  · rw [s_strings_IndexByte_eq] at h; exact h
  · cases h
theorem e_strings_IndexByte_nat : EntNat e_strings_IndexByte := by
  intro c hn N vs H τ q
  unfold e_strings_IndexByte
  split
  · rw [s_strings_IndexByte_eq, s_strings_IndexByte_eq]; exact funK_ent hn _ _ _ _ _ _
  · rfl
/-- ostiary/url.Own -/
def fn_url_Own : Fun := ⟨1, (.seq (.reg [iR 2 (.p .mv) [(.c (.int .i64 (.ofNat 0)))]]) (.keep [0] (.seq (.seq (.reg [iR 3 (.p .mv) [(.t 0)]]) (.keep [3] (.block 0 (.seq (.seq (.reg [iR 5 (.p (.bin .eql)) [(.t 3), (.c (.str (bs [104, 116, 116, 112])))], iR 4 (.p .mv) [(.t 5)]]) (.keep [3, 4] (.cond (.t 4) .skip (.reg [iR 6 (.p (.bin .eql)) [(.t 3), (.c (.str (bs [119, 115])))], iR 4 (.p .mv) [(.t 6)]])))) (.keep [3, 4] (.cond (.t 4) (.seq (.reg [iR 2 (.p .mv) [(.c (.int .i64 (.ofNat 80)))]]) (.keep [2] (.keep [2] .ret))) (.seq (.seq (.reg [iR 8 (.p (.bin .eql)) [(.t 3), (.c (.str (bs [104, 116, 116, 112, 115])))], iR 7 (.p .mv) [(.t 8)]]) (.keep [3, 7] (.cond (.t 7) .skip (.reg [iR 9 (.p (.bin .eql)) [(.t 3), (.c (.str (bs [119, 115, 115])))], iR 7 (.p .mv) [(.t 9)]])))) (.keep [3, 7] (.cond (.t 7) (.seq (.reg [iR 2 (.p .mv) [(.c (.int .i64 (.ofNat 443)))]])
    (.keep [2] (.keep [2] .ret))) (.seq (.reg [iR 11 (.p (.bin .eql)) [(.t 3), (.c (.str (bs [102, 116, 112])))], iR 10 (.p .mv) [(.t 11)]]) (.keep [10] (.cond (.t 10) (.seq (.reg [iR 2 (.p .mv) [(.c (.int .i64 (.ofNat 21)))]]) (.keep [2] (.keep [2] .ret))) .skip)))))))))))) (.keep [] (.seq (.reg [iR 2 (.p .mv) [(.c (.int .i64 (.negSucc 0)))]]) (.keep [2] (.keep [2] .ret))))))), [(.t 2)]⟩
def s_url_Own_j0 (call : CallK) (N : Nat) (q : KV) (st : St) (τ : Tape) : Ans := match st with
  | ⟨fr, H⟩ => q (.int .i64 (.negSucc 0)) H τ
def s_url_Own_j2 (call : CallK) (N : Nat) (q : KV) (st : St) (τ : Tape) : Ans := match st with
  | ⟨fr, H⟩ => getK fr 3 fun t3 => getK fr 7 fun t7 => condK t7 (q (.int .i64 (.ofNat 443)) H τ) (binK .eql t3 (.str (bs [102, 116, 112])) fun v2 => condK v2 (q (.int .i64 (.ofNat 21)) H τ) (s_url_Own_j0 call N q ⟨(T.set .leaf 10 v2), H⟩ τ))
def s_url_Own_j1 (call : CallK) (N : Nat) (q : KV) (st : St) (τ : Tape) : Ans := match st with
  | ⟨fr, H⟩ => getK fr 3 fun t3 => getK fr 4 fun t4 => condK t4 (q (.int .i64 (.ofNat 80)) H τ) (binK .eql t3 (.str (bs [104, 116, 116, 112, 115])) fun v1 => condK v1 (s_url_Own_j2 call N q ⟨(T.set (T.set .leaf 3 t3) 7 v1), H⟩ τ) (binK .eql t3 (.str (bs [119, 115, 115])) fun v3 => s_url_Own_j2 call N q ⟨(T.set (T.set (T.set (T.set .leaf 3 t3) 7 v1) 9 v3) 7 v3), H⟩ τ))
def s_url_Own (call : CallK) (N : Nat) (a0 : V) (H : Heap) (τ : Tape) (q : KV) : Ans := binK .eql a0 (.str (bs [104, 116, 116, 112])) fun v0 => condK v0 (s_url_Own_j1 call N q ⟨(T.set (T.set .leaf 3 a0) 4 v0), H⟩ τ) (binK .eql a0 (.str (bs [119, 115])) fun v4 => s_url_Own_j1 call N q ⟨(T.set (T.set (T.set (T.set .leaf 3 a0) 4 v0) 6 v4) 4 v4), H⟩ τ)
theorem s_url_Own_eq (call : CallK) (N : Nat) (a0 : V) (H : Heap) (τ : Tape) (q : KV) : s_url_Own call N a0 H τ q = funK call N fn_url_Own [a0] H τ q := by kernel_rfl
def e_url_Own (call : CallK) (N : Nat) (vs : List V) (H : Heap) (τ : Tape) (q : KV) : Ans := match vs with | [a0] => s_url_Own call N a0 H τ q | _ => none
theorem e_url_Own_ok : EntOk fn_url_Own e_url_Own := by
  intro call N vs H τ q r h
  unfold e_url_Own at h
  split at h
  · rw [s_url_Own_eq] at h; exact h
  · cases h
theorem e_url_Own_nat : EntNat e_url_Own := by
  intro c hn N vs H τ q
  unfold e_url_Own
  split
  · rw [s_url_Own_eq, s_url_Own_eq]; exact funK_ent hn _ _ _ _ _ _
  · rfl
/-- strconv.Itoa -/
def fn_strconv_Itoa : Fun := ⟨1, (.seq (.reg [iR 2 (.p .mv) [(.c (.str []))]]) (.keep [0] (.seq (.reg [iR 3 (.p .mv) [(.t 0)], iR 4 (.call 146) [(.t 3)], iR 2 (.p .mv) [(.t 4)]]) (.keep [2] (.keep [2] .ret))))), [(.t 2)]⟩
def s_strconv_Itoa (call : CallK) (N : Nat) (a0 : V) (H : Heap) (τ : Tape) (q : KV) : Ans := call f_strconv_Itoa_n146 [a0] H τ fun v0 H1 τ2 => q v0 H1 τ2
theorem s_strconv_Itoa_eq (call : CallK) (N : Nat) (a0 : V) (H : Heap) (τ : Tape) (q : KV) : s_strconv_Itoa call N a0 H τ q = funK call N fn_strconv_Itoa [a0] H τ q := by kernel_rfl
def e_strconv_Itoa (call : CallK) (N : Nat) (vs : List V) (H : Heap) (τ : Tape) (q : KV) : Ans := match vs with | [a0] => s_strconv_Itoa call N a0 H τ q | _ => none
theorem e_strconv_Itoa_ok : EntOk fn_strconv_Itoa e_strconv_Itoa := by
  intro call N vs H τ q r h
  unfold e_strconv_Itoa at h
  split at h
  · rw [s_strconv_Itoa_eq] at h; exact h
  · cases h
theorem e_strconv_Itoa_nat : EntNat e_strconv_Itoa := by
  intro c hn N vs H τ q
  unfold e_strconv_Itoa
  split
  · rw [s_strconv_Itoa_eq, s_strconv_Itoa_eq]; exact funK_ent hn _ _ _ _ _ _
  · rfl
/-- ostiary/ostiaryref1.Letter -/
def fn_ref1_Letter : Fun := ⟨1, (.seq (.reg [iR 2 (.p .mv) [(.c (.bool false))]]) (.keep [0] (.seq (.reg [iR 3 (.p .mv) [(.t 0)], iR 4 (.p (.bin .geq)) [(.t 3), (.c (.int .u8 (.ofNat 97)))], iR 5 (.p .mv) [(.t 4)], iG 6 5 true (.p .mv) [(.t 0)], iG 7 5 true (.p (.bin .leq)) [(.t 6), (.c (.int .u8 (.ofNat 122)))], iR 8 (.p .pick) [(.t 5), (.t 7), (.c (.bool false))], iR 9 (.p .mv) [(.t 8)], iG 10 9 false (.p .mv) [(.t 0)], iG 11 9 false (.p (.bin .geq)) [(.t 10), (.c (.int .u8 (.ofNat 65)))], iG 12 9 false (.p .mv) [(.t 11)], iG 13 12 true (.p .mv) [(.t 0)], iG 14 12 true (.p (.bin .leq)) [(.t 13), (.c (.int .u8 (.ofNat 90)))], iG 15 9 false (.p .pick) [(.t 12), (.t 14), (.c (.bool false))], iR 16 (.p .pick) [(.t 9), (.c (.bool true)), (.t 15)], iR 2 (.p .mv) [(.t 16)]]) (.keep [2] (.keep [2] .ret))))), [(.t 2)]⟩
def s_ref1_Letter (call : CallK) (N : Nat) (a0 : V) (H : Heap) (τ : Tape) (q : KV) : Ans := binK .geq a0 (.int .u8 (.ofNat 97)) fun v0 => gK v0 true (fun q' => q' a0 H τ) H τ fun v1 H2 τ3 => gK v0 true (fun q' => binK .leq v1 (.int .u8 (.ofNat 122)) fun v => q' v H2 τ3) H2 τ3 fun v4 H5 τ6 => someK (pPick [v0, v4, (.bool false)]) fun v7 => gK v7 false (fun q' => q' a0 H5 τ6) H5 τ6 fun v8 H9 τ10 => gK v7 false (fun q' => binK .geq v8 (.int .u8 (.ofNat 65)) fun v => q' v H9 τ10) H9 τ10 fun v11 H12 τ13 => gK v7 false (fun q' => q' v11 H12 τ13) H12 τ13 fun v14 H15 τ16 => gK v14 true (fun q' => q' a0 H15 τ16) H15 τ16 fun v17 H18 τ19 => gK v14 true (fun q' => binK .leq v17 (.int .u8 (.ofNat 90)) fun v => q' v H18 τ19) H18 τ19 fun v20 H21 τ22 => gK v7 false (fun q' => someK (pPick [v14, v20, (.bool false)]) fun v => q' v H21 τ22) H21 τ22 fun v23 H24 τ25 =>
    someK (pPick [v7, (.bool true), v23]) fun v26 => q v26 H24 τ25
theorem s_ref1_Letter_eq (call : CallK) (N : Nat) (a0 : V) (H : Heap) (τ : Tape) (q : KV) : s_ref1_Letter call N a0 H τ q = funK call N fn_ref1_Letter [a0] H τ q := by kernel_rfl
def e_ref1_Letter (call : CallK) (N : Nat) (vs : List V) (H : Heap) (τ : Tape) (q : KV) : Ans := match vs with | [a0] => s_ref1_Letter call N a0 H τ q | _ => none
theorem e_ref1_Letter_ok : EntOk fn_ref1_Letter e_ref1_Letter := by
  intro call N vs H τ q r h
  unfold e_ref1_Letter at h
  split at h
  · rw [s_ref1_Letter_eq] at h; exact h
  · cases h
theorem e_ref1_Letter_nat : EntNat e_ref1_Letter := by
  intro c hn N vs H τ q
  unfold e_ref1_Letter
  split
  · rw [s_ref1_Letter_eq, s_ref1_Letter_eq]; exact funK_ent hn _ _ _ _ _ _
  · rfl
/-- ostiary/ostiaryref1.Digit -/
def fn_ref1_Digit : Fun := ⟨1, (.seq (.reg [iR 2 (.p .mv) [(.c (.bool false))]]) (.keep [0] (.seq (.reg [iR 3 (.p .mv) [(.t 0)], iR 4 (.p (.bin .geq)) [(.t 3), (.c (.int .u8 (.ofNat 48)))], iR 5 (.p .mv) [(.t 4)], iG 6 5 true (.p .mv) [(.t 0)], iG 7 5 true (.p (.bin .leq)) [(.t 6), (.c (.int .u8 (.ofNat 57)))], iR 8 (.p .pick) [(.t 5), (.t 7), (.c (.bool false))], iR 2 (.p .mv) [(.t 8)]]) (.keep [2] (.keep [2] .ret))))), [(.t 2)]⟩
def s_ref1_Digit (call : CallK) (N : Nat) (a0 : V) (H : Heap) (τ : Tape) (q : KV) : Ans := binK .geq a0 (.int .u8 (.ofNat 48)) fun v0 => gK v0 true (fun q' => q' a0 H τ) H τ fun v1 H2 τ3 => gK v0 true (fun q' => binK .leq v1 (.int .u8 (.ofNat 57)) fun v => q' v H2 τ3) H2 τ3 fun v4 H5 τ6 => someK (pPick [v0, v4, (.bool false)]) fun v7 => q v7 H5 τ6
theorem s_ref1_Digit_eq (call : CallK) (N : Nat) (a0 : V) (H : Heap) (τ : Tape) (q : KV) : s_ref1_Digit call N a0 H τ q = funK call N fn_ref1_Digit [a0] H τ q := by kernel_rfl
def e_ref1_Digit (call : CallK) (N : Nat) (vs : List V) (H : Heap) (τ : Tape) (q : KV) : Ans := match vs with | [a0] => s_ref1_Digit call N a0 H τ q | _ => none
theorem e_ref1_Digit_ok : EntOk fn_ref1_Digit e_ref1_Digit := by
  intro call N vs H τ q r h
  unfold e_ref1_Digit at h
  split at h
  · rw [s_ref1_Digit_eq] at h; exact h
  · cases h
theorem e_ref1_Digit_nat : EntNat e_ref1_Digit := by
  intro c hn N vs H τ q
  unfold e_ref1_Digit
  split
  · rw [s_ref1_Digit_eq, s_ref1_Digit_eq]; exact funK_ent hn _ _ _ _ _ _
  · rfl
/-- ostiary/ostiaryref3.Own -/
def fn_ref3_Own : Fun := ⟨1, (.seq (.reg [iR 2 (.p .mv) [(.c (.int .i64 (.ofNat 0)))]]) (.keep [0] (.seq (.seq (.reg [iR 3 (.p .mv) [(.t 0)]]) (.keep [3] (.block 0 (.seq (.seq (.reg [iR 5 (.p (.bin .eql)) [(.t 3), (.c (.str (bs [104, 116, 116, 112])))], iR 4 (.p .mv) [(.t 5)]]) (.keep [3, 4] (.cond (.t 4) .skip (.reg [iR 6 (.p (.bin .eql)) [(.t 3), (.c (.str (bs [119, 115])))], iR 4 (.p .mv) [(.t 6)]])))) (.keep [3, 4] (.cond (.t 4) (.seq (.reg [iR 2 (.p .mv) [(.c (.int .i64 (.ofNat 80)))]]) (.keep [2] (.keep [2] .ret))) (.seq (.seq (.reg [iR 8 (.p (.bin .eql)) [(.t 3), (.c (.str (bs [104, 116, 116, 112, 115])))], iR 7 (.p .mv) [(.t 8)]]) (.keep [3, 7] (.cond (.t 7) .skip (.reg [iR 9 (.p (.bin .eql)) [(.t 3), (.c (.str (bs [119, 115, 115])))], iR 7 (.p .mv) [(.t 9)]])))) (.keep [3, 7] (.cond (.t 7) (.seq (.reg [iR 2 (.p .mv) [(.c (.int .i64 (.ofNat 443)))]])
    (.keep [2] (.keep [2] .ret))) (.seq (.reg [iR 11 (.p (.bin .eql)) [(.t 3), (.c (.str (bs [102, 116, 112])))], iR 10 (.p .mv) [(.t 11)]]) (.keep [10] (.cond (.t 10) (.seq (.reg [iR 2 (.p .mv) [(.c (.int .i64 (.ofNat 21)))]]) (.keep [2] (.keep [2] .ret))) .skip)))))))))))) (.keep [] (.seq (.reg [iR 2 (.p .mv) [(.c (.int .i64 (.negSucc 0)))]]) (.keep [2] (.keep [2] .ret))))))), [(.t 2)]⟩
def s_ref3_Own_j0 (call : CallK) (N : Nat) (q : KV) (st : St) (τ : Tape) : Ans := match st with
  | ⟨fr, H⟩ => q (.int .i64 (.negSucc 0)) H τ
def s_ref3_Own_j2 (call : CallK) (N : Nat) (q : KV) (st : St) (τ : Tape) : Ans := match st with
  | ⟨fr, H⟩ => getK fr 3 fun t3 => getK fr 7 fun t7 => condK t7 (q (.int .i64 (.ofNat 443)) H τ) (binK .eql t3 (.str (bs [102, 116, 112])) fun v2 => condK v2 (q (.int .i64 (.ofNat 21)) H τ) (s_ref3_Own_j0 call N q ⟨(T.set .leaf 10 v2), H⟩ τ))
def s_ref3_Own_j1 (call : CallK) (N : Nat) (q : KV) (st : St) (τ : Tape) : Ans := match st with
  | ⟨fr, H⟩ => getK fr 3 fun t3 => getK fr 4 fun t4 => condK t4 (q (.int .i64 (.ofNat 80)) H τ) (binK .eql t3 (.str (bs [104, 116, 116, 112, 115])) fun v1 => condK v1 (s_ref3_Own_j2 call N q ⟨(T.set (T.set .leaf 3 t3) 7 v1), H⟩ τ) (binK .eql t3 (.str (bs [119, 115, 115])) fun v3 => s_ref3_Own_j2 call N q ⟨(T.set (T.set (T.set (T.set .leaf 3 t3) 7 v1) 9 v3) 7 v3), H⟩ τ))
def s_ref3_Own (call : CallK) (N : Nat) (a0 : V) (H : Heap) (τ : Tape) (q : KV) : Ans := binK .eql a0 (.str (bs [104, 116, 116, 112])) fun v0 => condK v0 (s_ref3_Own_j1 call N q ⟨(T.set (T.set .leaf 3 a0) 4 v0), H⟩ τ) (binK .eql a0 (.str (bs [119, 115])) fun v4 => s_ref3_Own_j1 call N q ⟨(T.set (T.set (T.set (T.set .leaf 3 a0) 4 v0) 6 v4) 4 v4), H⟩ τ)
theorem s_ref3_Own_eq (call : CallK) (N : Nat) (a0 : V) (H : Heap) (τ : Tape) (q : KV) : s_ref3_Own call N a0 H τ q = funK call N fn_ref3_Own [a0] H τ q := by kernel_rfl
def e_ref3_Own (call : CallK) (N : Nat) (vs : List V) (H : Heap) (τ : Tape) (q : KV) : Ans := match vs with | [a0] => s_ref3_Own call N a0 H τ q | _ => none
theorem e_ref3_Own_ok : EntOk fn_ref3_Own e_ref3_Own := by
  intro call N vs H τ q r h
  unfold e_ref3_Own at h
  split at h
  · rw [s_ref3_Own_eq] at h; exact h
  · cases h
theorem e_ref3_Own_nat : EntNat e_ref3_Own := by
  intro c hn N vs H τ q
  unfold e_ref3_Own
  split
  · rw [s_ref3_Own_eq, s_ref3_Own_eq]; exact funK_ent hn _ _ _ _ _ _
  · rfl
/-- ostiary/ostiaryref1.Numeral -/
def fn_ref1_Numeral : Fun := ⟨1, (.seq (.reg [iR 2 (.p .mv) [(.c (.str []))]]) (.keep [0] (.seq (.seq (.reg [iR 5 (.p .mv) [(.t 0)], iR 6 (.p (.bin .eql)) [(.t 5), (.c (.int .i64 (.negSucc 9223372036854775807)))]]) (.keep [0, 6] (.cond (.t 6) (.seq (.reg [iR 2 (.p .mv) [(.c (.str (bs [45, 57, 50, 50, 51, 51, 55, 50, 48, 51, 54, 56, 53, 52, 55, 55, 53, 56, 48, 56])))]]) (.keep [2] (.keep [2] .ret))) .skip))) (.keep [0] (.seq (.seq (.reg [iR 7 (.p .mv) [(.t 0)], iR 8 (.p (.bin .lss)) [(.t 7), (.c (.int .i64 (.ofNat 0)))]]) (.keep [0, 8] (.cond (.t 8) (.seq (.reg [iR 9 (.p .mv) [(.t 0)], iR 10 (.p (.un .neg)) [(.t 9)], iR 11 (.call 119) [(.t 10)], iR 12 (.p (.bin .add)) [(.c (.str (bs [45]))), (.t 11)], iR 2 (.p .mv) [(.t 12)]]) (.keep [2] (.keep [2] .ret))) .skip))) (.keep [0] (.seq (.reg [iR 3 (.p .mv) [(.c (.str []))]]) (.keep [0, 3] (.seq (.block 0 (.loop
    (.keep [0, 3] (.seq (.seq (.reg [iR 13 (.p .mv) [(.t 0)], iR 14 (.p (.bin .gtr)) [(.t 13), (.c (.int .i64 (.ofNat 0)))], iR 15 (.p .mv) [(.t 14)], iG 16 15 false (.p .mv) [(.t 3)], iG 17 15 false (.p (.bin .eql)) [(.t 16), (.c (.str []))], iR 18 (.p .pick) [(.t 15), (.c (.bool true)), (.t 17)]]) (.keep [0, 3, 18] (.cond (.t 18) .skip (.keep [3] (.exit 0))))) (.keep [0, 3] (.block 1 (.seq (.reg [iR 19 (.p .mv) [(.t 0)], iR 20 (.p (.bin .rem)) [(.t 19), (.c (.int .i64 (.ofNat 10)))], iR 4 (.p .mv) [(.t 20)]]) (.keep [0, 3, 4] (.seq (.reg [iR 21 (.p .mv) [(.t 4)], iR 22 (.p .mv) [(.t 4)], iR 23 (.p (.bin .add)) [(.t 22), (.c (.int .i64 (.ofNat 1)))], iR 24 (.p (.strSlice true true)) [(.c (.str (bs [48, 49, 50, 51, 52, 53, 54, 55, 56, 57]))), (.t 21), (.t 23)], iR 25 (.p .mv) [(.t 3)], iR 26 (.p (.bin .add)) [(.t 24), (.t 25)], iR 3 (.p .mv) [(.t 26)]])
    (.keep [0, 3] (.reg [iR 27 (.p .mv) [(.t 0)], iR 28 (.p (.bin .quo)) [(.t 27), (.c (.int .i64 (.ofNat 10)))], iR 0 (.p .mv) [(.t 28)]]))))))))))) (.keep [3] (.seq (.reg [iR 29 (.p .mv) [(.t 3)], iR 2 (.p .mv) [(.t 29)]]) (.keep [2] (.keep [2] .ret))))))))))))), [(.t 2)]⟩
def s_ref1_Numeral_j0 (call : CallK) (N : Nat) (q : KV) (st : St) (τ : Tape) : Ans := match st with
  | ⟨fr, H⟩ => getK fr 3 fun t3 => q t3 H τ
def s_ref1_Numeral_l1 (call : CallK) (N : Nat) (st : St) (τ : Tape) (k : KC) : Ans := match st with
  | ⟨fr, H⟩ => getK fr 0 fun t0 => getK fr 3 fun t3 => binK .gtr t0 (.int .i64 (.ofNat 0)) fun v7 => gK v7 false (fun q' => q' t3 H τ) H τ fun v8 H9 τ10 => gK v7 false (fun q' => binK .eql v8 (.str []) fun v => q' v H9 τ10) H9 τ10 fun v11 H12 τ13 => someK (pPick [v7, (.bool true), v11]) fun v14 => condK v14 (binK .rem t0 (.int .i64 (.ofNat 10)) fun v15 => binK .add v15 (.int .i64 (.ofNat 1)) fun v16 => someK (pStrSlice true true [(.str (bs [48, 49, 50, 51, 52, 53, 54, 55, 56, 57])), v15, v16]) fun v17 => binK .add v17 t3 fun v18 => binK .quo t0 (.int .i64 (.ofNat 10)) fun v19 => k .normal ⟨(T.set (T.set (T.set (T.set (T.set .leaf 0 t0) 3 v18) 27 t0) 28 v19) 0 v19), H12⟩ τ13) (k (.exit 0) ⟨(T.set .leaf 3 t3), H12⟩ τ13)
def s_ref1_Numeral (call : CallK) (N : Nat) (a0 : V) (H : Heap) (τ : Tape) (q : KV) : Ans := binK .eql a0 (.int .i64 (.negSucc 9223372036854775807)) fun v0 => condK v0 (q (.str (bs [45, 57, 50, 50, 51, 51, 55, 50, 48, 51, 54, 56, 53, 52, 55, 55, 53, 56, 48, 56])) H τ) (binK .lss a0 (.int .i64 (.ofNat 0)) fun v1 => condK v1 (unK .neg a0 fun v2 => call f_ref1_Numeral [v2] H τ fun v3 H4 τ5 => binK .add (.str (bs [45])) v3 fun v6 => q v6 H4 τ5) (loopK (s_ref1_Numeral_l1 call N) N ⟨(T.set (T.set .leaf 0 a0) 3 (.str [])), H⟩ τ (blockK 0 (seqK (s_ref1_Numeral_j0 call N q) (endK [(.t 2)] q)))))
theorem s_ref1_Numeral_eq (call : CallK) (N : Nat) (a0 : V) (H : Heap) (τ : Tape) (q : KV) : s_ref1_Numeral call N a0 H τ q = funK call N fn_ref1_Numeral [a0] H τ q := by kernel_rfl
def e_ref1_Numeral (call : CallK) (N : Nat) (vs : List V) (H : Heap) (τ : Tape) (q : KV) : Ans := match vs with | [a0] => s_ref1_Numeral call N a0 H τ q | _ => none
theorem e_ref1_Numeral_ok : EntOk fn_ref1_Numeral e_ref1_Numeral := by
  intro call N vs H τ q r h
  unfold e_ref1_Numeral at h
  split at h
  · rw [s_ref1_Numeral_eq] at h; exact h
  · cases h
theorem e_ref1_Numeral_nat : EntNat e_ref1_Numeral := by
  intro c hn N vs H τ q
  unfold e_ref1_Numeral
  split
  · rw [s_ref1_Numeral_eq, s_ref1_Numeral_eq]; exact funK_ent hn _ _ _ _ _ _
  · rfl
/-- ostiary/ostiaryref3.split -/
def fn_ref3_split : Fun := ⟨2, (.seq (.reg [iR 4 (.p .mv) [(.c (.str []))]]) (.keep [0, 1] (.seq (.reg [iR 9 (.p .mv) [(.t 1)], iR 10 (.call 107) [(.t 9), (.c (.int .u8 (.ofNat 35)))], iR 8 (.p .mv) [(.t 10)], iR 11 (.p (.extract 0)) [(.t 8)], iR 12 (.p (.extract 1)) [(.t 8)], iR 13 (.p (.extract 2)) [(.t 8)], iR 5 (.p .mv) [(.t 11)], iR 6 (.p .mv) [(.t 12)], iR 7 (.p .mv) [(.t 13)]]) (.keep [0, 5, 6, 7] (.seq (.seq (.reg [iR 14 (.p .mv) [(.t 7)]]) (.keep [0, 5, 6, 14] (.cond (.t 14) (.seq (.reg [iR 15 (.p .mv) [(.t 0)], iR 16 (.p .nilck) [(.t 15)], iR 17 (.p (.fieldAddr 11)) [(.t 16)], ⟨none, none, (.e (.store 1)), [(.t 17), (.c (.bool true))], none⟩]) (.keep [0, 5, 6] (.reg [iR 18 (.p .mv) [(.t 0)], iR 19 (.p .mv) [(.t 6)], iR 20 (.call 161) [(.t 19), (.c (.int .i64 (.ofNat 2)))], iR 21 (.p .nilck) [(.t 18)], iR 22 (.p (.fieldAddr 9)) [(.t 21)],
    ⟨none, none, (.e (.store 1)), [(.t 22), (.t 20)], none⟩]))) .skip))) (.keep [5] (.seq (.reg [iR 23 (.p .mv) [(.t 5)], iR 4 (.p .mv) [(.t 23)]]) (.keep [4] (.keep [4] .ret))))))))), [(.t 4)]⟩
def s_ref3_split_j0 (call : CallK) (N : Nat) (q : KV) (st : St) (τ : Tape) : Ans := match st with
  | ⟨fr, H⟩ => getK fr 5 fun t5 => q t5 H τ
def s_ref3_split (call : CallK) (N : Nat) (a0 a1 : V) (H : Heap) (τ : Tape) (q : KV) : Ans := call f_ref1_Part [a1, (.int .u8 (.ofNat 35))] H τ fun v0 H1 τ2 => someK (pExtract 0 [v0]) fun v3 => someK (pExtract 1 [v0]) fun v4 => someK (pExtract 2 [v0]) fun v5 => condK v5 (someK (pNilck [a0]) fun v6 => someK (pFieldAddr 11 [v6]) fun v7 => effK (eStore 1 [v7, (.bool true)] H1 τ2) fun v8 H9 τ10 => call f_ref1_Percent [v4, (.int .i64 (.ofNat 2))] H9 τ10 fun v11 H12 τ13 => someK (pNilck [a0]) fun v14 => someK (pFieldAddr 9 [v14]) fun v15 => effK (eStore 1 [v15, v11] H12 τ13) fun v16 H17 τ18 => s_ref3_split_j0 call N q ⟨(T.set (T.set (T.set (T.set (T.set (T.set (T.set (T.set .leaf 0 a0) 5 v3) 6 v4) 18 a0) 19 v4) 20 v11) 21 v14) 22 v15), H17⟩ τ18) (s_ref3_split_j0 call N q ⟨(T.set (T.set (T.set (T.set .leaf 0 a0) 5 v3) 6 v4) 14 v5), H1⟩ τ2)
theorem s_ref3_split_eq (call : CallK) (N : Nat) (a0 a1 : V) (H : Heap) (τ : Tape) (q : KV) : s_ref3_split call N a0 a1 H τ q = funK call N fn_ref3_split [a0, a1] H τ q := by kernel_rfl
def e_ref3_split (call : CallK) (N : Nat) (vs : List V) (H : Heap) (τ : Tape) (q : KV) : Ans := match vs with | [a0, a1] => s_ref3_split call N a0 a1 H τ q | _ => none
theorem e_ref3_split_ok : EntOk fn_ref3_split e_ref3_split := by
  intro call N vs H τ q r h
  unfold e_ref3_split at h
  split at h
  · rw [s_ref3_split_eq] at h; exact h
  · cases h
theorem e_ref3_split_nat : EntNat e_ref3_split := by
  intro c hn N vs H τ q
  unfold e_ref3_split
  split
  · rw [s_ref3_split_eq, s_ref3_split_eq]; exact funK_ent hn _ _ _ _ _ _
  · rfl
end Go.Am.X
