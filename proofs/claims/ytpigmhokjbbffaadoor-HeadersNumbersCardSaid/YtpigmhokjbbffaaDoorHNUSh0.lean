/- The abstract machine, printed functions of the program, and what they are shown to be. -/
import Derived.Test.YtpigmhokjbbffaaDoorHNUM3
import Derived.KernelRfl
namespace Go.Am.X
set_option maxRecDepth 1000000
set_option linter.unusedVariables false
abbrev iR (n : Nat) (o : AOp) (a : List O) : Ins := ⟨some n, none, o, a, none⟩
abbrev iG (n g : Nat) (b : Bool) (o : AOp) (a : List O) : Ins := ⟨some n, some (g, b), o, a, none⟩
abbrev f_law5_HeadersNumbers : Nat := 6
abbrev f_law5_HeadersSet : Nat := 8
abbrev f_law5_known : Nat := 11
abbrev f_headers_Split : Nat := 12
abbrev f_law5_h : Nat := 13
abbrev f_book_Same_string : Nat := 14
abbrev f_headers_Range : Nat := 17
abbrev f_headers_Safe : Nat := 18
abbrev f_headers_Add : Nat := 19
abbrev f_headers_Get : Nat := 20
abbrev f_headers_Drop : Nat := 21
abbrev f_law5_long : Nat := 22
abbrev f_headers_Set : Nat := 23
abbrev f_book_Same_Header : Nat := 24
abbrev f_headers_Forbidden : Nat := 25
abbrev f_keep_FewHeaders : Nat := 31
abbrev f_headers_Value : Nat := 32
abbrev f_ref5_Named : Nat := 33
abbrev f_strings_Trim : Nat := 35
abbrev f_strings_CutPrefix : Nat := 36
abbrev f_strings_Cut : Nat := 37
abbrev f_headers_told : Nat := 38
abbrev f_infra_Lower : Nat := 39
abbrev f_headers_unsafe : Nat := 40
abbrev f_headers_tongues : Nat := 41
abbrev f_infra_Strip : Nat := 42
abbrev f_headers_may : Nat := 43
abbrev f_slices_Clone_Header : Nat := 44
abbrev f_headers_is : Nat := 45
abbrev f_strings_Join : Nat := 46
abbrev f_slices_DeleteFunc_Header : Nat := 47
abbrev f_headers_Drop_1 : Nat := 48
abbrev f_slices_IndexFunc_Header : Nat := 49
abbrev f_headers_Set_1 : Nat := 50
abbrev f_strings_HasPrefix : Nat := 51
abbrev f_keep_Few : Nat := 53
abbrev f_strings_ContainsAny : Nat := 54
abbrev f_ref1_Lower : Nat := 55
abbrev f_strings_trimLeftByte : Nat := 58
abbrev f_strings_trimRightByte : Nat := 59
abbrev f_strings_makeASCIISet : Nat := 60
abbrev f_strings_trimLeftASCII : Nat := 61
abbrev f_strings_trimRightASCII : Nat := 62
abbrev f_strings_trimLeftUnicode : Nat := 63
abbrev f_strings_trimRightUnicode : Nat := 64
abbrev f_stringslite_CutPrefix : Nat := 65
abbrev f_stringslite_Cut : Nat := 66
abbrev f_infra_Int : Nat := 67
abbrev f_infra_mapped : Nat := 68
abbrev f_infra_Lower_1 : Nat := 69
abbrev f_strings_IndexByte : Nat := 70
abbrev f_infra_Token : Nat := 71
abbrev f_stringslite_HasPrefix : Nat := 75
abbrev f_strings_IndexAny : Nat := 78
abbrev f_asciiSet_contains : Nat := 81
abbrev f_utf8_DecodeRuneInString : Nat := 82
abbrev f_strings_ContainsRune : Nat := 83
abbrev f_utf8_DecodeLastRuneInString : Nat := 84
abbrev f_stringslite_Index : Nat := 85
abbrev f_stringslite_IndexByte : Nat := 86
abbrev f_strings_IndexRune : Nat := 92
abbrev f_strings_shouldUseASCIISet : Nat := 93
abbrev f_utf8_decodeRuneInStringSlow : Nat := 105
abbrev f_utf8_RuneStart : Nat := 106
abbrev f_bytealg_Cutover : Nat := 108
abbrev f_bytealg_IndexRabinKarp_string : Nat := 109
abbrev f_utf8_ValidRune : Nat := 114
abbrev f_bytealg_hashStr_string : Nat := 121
/-- ostiary/ostiarylaw5.HeadersNumbers -/
def fn_law5_HeadersNumbers : Fun := ⟨0, (.seq (.reg [iR 0 (.p .mv) [(.c (.bool false))]]) (.keep [] (.seq (.reg [iR 22 (.call 19) [(.c .nils), (.c (.str [])), (.c (.str (bs [120])))], iR 21 (.p .mv) [(.t 22)], iR 23 (.p (.extract 0)) [(.t 21)], iR 24 (.p (.extract 1)) [(.t 21)], iR 1 (.p .mv) [(.t 23)], iR 2 (.p .mv) [(.t 24)]]) (.keep [2] (.seq (.reg [iR 26 (.call 19) [(.c .nils), (.c (.str (bs [120]))), (.c (.str (bs [97, 10, 98])))], iR 25 (.p .mv) [(.t 26)], iR 27 (.p (.extract 0)) [(.t 25)], iR 28 (.p (.extract 1)) [(.t 25)], iR 3 (.p .mv) [(.t 27)], iR 4 (.p .mv) [(.t 28)]]) (.keep [2, 4] (.seq (.reg [iR 30 (.e (.makeSlice 2 32 [(.str []), (.str [])])) [(.c (.int .i64 (.ofNat 64))), (.c (.int .i64 (.ofNat 64)))], iR 31 (.call 19) [(.t 30), (.c (.str (bs [120]))), (.c (.str (bs [121])))], iR 29 (.p .mv) [(.t 31)], iR 32 (.p (.extract 0)) [(.t 29)],
    iR 33 (.p (.extract 1)) [(.t 29)], iR 5 (.p .mv) [(.t 32)], iR 6 (.p .mv) [(.t 33)]]) (.keep [2, 4, 6] (.seq (.reg [iR 35 (.call 22) [(.c (.int .i64 (.ofNat 4097)))], iR 36 (.call 19) [(.c .nils), (.c (.str (bs [120]))), (.t 35)], iR 34 (.p .mv) [(.t 36)], iR 37 (.p (.extract 0)) [(.t 34)], iR 38 (.p (.extract 1)) [(.t 34)], iR 7 (.p .mv) [(.t 37)], iR 8 (.p .mv) [(.t 38)]]) (.keep [2, 4, 6, 8] (.seq (.reg [iR 40 (.call 13) [(.c (.str (bs [88]))), (.c (.str (bs [49])))], iR 41 (.call 13) [(.c (.str (bs [121]))), (.c (.str (bs [50])))], iR 42 (.call 13) [(.c (.str (bs [120]))), (.c (.str (bs [51])))], iR 43 (.e (.buildSlice 3 2 (repl 6 [(.str [])]) [(0, 2), (2, 2), (4, 2)])) [(.t 40), (.t 41), (.t 42)], iR 44 (.call 23) [(.t 43), (.c (.str (bs [120]))), (.c (.str (bs [32, 57, 32])))], iR 39 (.p .mv) [(.t 44)], iR 45 (.p (.extract 0)) [(.t 39)], iR 46 (.p (.extract 1)) [(.t 39)],
    iR 9 (.p .mv) [(.t 45)], iR 10 (.p .mv) [(.t 46)]]) (.keep [2, 4, 6, 8, 9, 10] (.seq (.reg [iR 48 (.call 13) [(.c (.str (bs [97]))), (.c (.str []))], iR 49 (.e (.buildSlice 1 2 [(.str []), (.str [])] [(0, 2)])) [(.t 48)], iR 50 (.call 12) [(.t 49), (.c (.str (bs [97])))], iR 47 (.p .mv) [(.t 50)], iR 51 (.p (.extract 0)) [(.t 47)], iR 52 (.p (.extract 1)) [(.t 47)], iR 11 (.p .mv) [(.t 51)], iR 12 (.p .mv) [(.t 52)]]) (.keep [2, 4, 6, 8, 9, 10, 11, 12] (.seq (.reg [iR 54 (.call 20) [(.c .nils), (.c (.str (bs [97])))], iR 53 (.p .mv) [(.t 54)], iR 55 (.p (.extract 0)) [(.t 53)], iR 56 (.p (.extract 1)) [(.t 53)], iR 13 (.p .mv) [(.t 55)], iR 14 (.p .mv) [(.t 56)]]) (.keep [2, 4, 6, 8, 9, 10, 11, 12, 14] (.seq (.reg [iR 58 (.call 17) [(.c (.str (bs [98, 121, 116, 101, 115, 61, 45, 53])))], iR 57 (.p .mv) [(.t 58)], iR 59 (.p (.extract 0)) [(.t 57)],
    iR 60 (.p (.extract 1)) [(.t 57)], iR 61 (.p (.extract 2)) [(.t 57)], iR 15 (.p .mv) [(.t 59)], iR 16 (.p .mv) [(.t 60)], iR 17 (.p .mv) [(.t 61)]]) (.keep [2, 4, 6, 8, 9, 10, 11, 12, 14, 15, 16, 17] (.seq (.reg [iR 63 (.call 17) [(.c (.str (bs [98, 121, 116, 101, 115, 61, 53, 45, 52])))], iR 62 (.p .mv) [(.t 63)], iR 64 (.p (.extract 0)) [(.t 62)], iR 65 (.p (.extract 1)) [(.t 62)], iR 66 (.p (.extract 2)) [(.t 62)], iR 18 (.p .mv) [(.t 64)], iR 19 (.p .mv) [(.t 65)], iR 20 (.p .mv) [(.t 66)]]) (.keep [2, 4, 6, 8, 9, 10, 11, 12, 14, 15, 16, 17, 20] (.seq (.reg [iR 67 (.p .mv) [(.t 2)], iR 68 (.p (.bin .eql)) [(.t 67), (.c (.int .i64 (.ofNat 1)))], iR 69 (.p .mv) [(.t 68)], iG 70 69 true (.p .mv) [(.t 4)], iG 71 69 true (.p (.bin .eql)) [(.t 70), (.c (.int .i64 (.ofNat 1)))], iR 72 (.p .pick) [(.t 69), (.t 71), (.c (.bool false))], iR 73 (.p .mv) [(.t 72)],
    iG 74 73 true (.p .mv) [(.t 6)], iG 75 73 true (.p (.bin .eql)) [(.t 74), (.c (.int .i64 (.ofNat 4)))], iR 76 (.p .pick) [(.t 73), (.t 75), (.c (.bool false))], iR 77 (.p .mv) [(.t 76)], iG 78 77 true (.p .mv) [(.t 8)], iG 79 77 true (.p (.bin .eql)) [(.t 78), (.c (.int .i64 (.ofNat 3)))], iR 80 (.p .pick) [(.t 77), (.t 79), (.c (.bool false))], iR 81 (.p .mv) [(.t 80)], iG 82 81 true (.p .mv) [(.t 10)], iG 83 81 true (.p (.bin .eql)) [(.t 82), (.c (.int .i64 (.ofNat 0)))], iR 84 (.p .pick) [(.t 81), (.t 83), (.c (.bool false))], iR 85 (.p .mv) [(.t 84)], iG 86 85 true (.p .mv) [(.t 9)], iG 87 85 true (.call 13) [(.c (.str (bs [88]))), (.c (.str (bs [57])))], iG 88 85 true (.call 13) [(.c (.str (bs [121]))), (.c (.str (bs [50])))], iG 89 85 true (.e (.buildSlice 2 2 [(.str []), (.str []), (.str []), (.str [])] [(0, 2), (2, 2)])) [(.t 87), (.t 88)],
    iG 90 85 true (.call 24) [(.t 86), (.t 89)], iR 91 (.p .pick) [(.t 85), (.t 90), (.c (.bool false))], iR 92 (.p .mv) [(.t 91)], iG 93 92 true (.p .mv) [(.t 12)], iR 94 (.p .pick) [(.t 92), (.t 93), (.c (.bool false))], iR 95 (.p .mv) [(.t 94)], iG 96 95 true (.p .mv) [(.t 11)], iG 97 95 true (.p .len) [(.t 96)], iG 98 95 true (.p (.bin .eql)) [(.t 97), (.c (.int .i64 (.ofNat 1)))], iR 99 (.p .pick) [(.t 95), (.t 98), (.c (.bool false))], iR 100 (.p .mv) [(.t 99)], iG 101 100 true (.p .mv) [(.t 11)], iG 102 100 true (.p (.slIdx 1)) [(.t 101), (.c (.int .i64 (.ofNat 0)))], iG 103 100 true (.l (.load none)) [(.t 102)], iG 104 100 true (.p (.bin .eql)) [(.t 103), (.c (.str []))], iR 105 (.p .pick) [(.t 100), (.t 104), (.c (.bool false))], iR 106 (.p .mv) [(.t 105)], iG 107 106 true (.p .mv) [(.t 14)], iG 108 106 true (.p (.un .not)) [(.t 107)],
    iR 109 (.p .pick) [(.t 106), (.t 108), (.c (.bool false))], iR 110 (.p .mv) [(.t 109)], iG 111 110 true (.p .mv) [(.t 15)], iG 112 110 true (.p (.bin .eql)) [(.t 111), (.c (.int .i64 (.negSucc 0)))], iR 113 (.p .pick) [(.t 110), (.t 112), (.c (.bool false))], iR 114 (.p .mv) [(.t 113)], iG 115 114 true (.p .mv) [(.t 16)], iG 116 114 true (.p (.bin .eql)) [(.t 115), (.c (.int .i64 (.ofNat 5)))], iR 117 (.p .pick) [(.t 114), (.t 116), (.c (.bool false))], iR 118 (.p .mv) [(.t 117)], iG 119 118 true (.p .mv) [(.t 17)], iR 120 (.p .pick) [(.t 118), (.t 119), (.c (.bool false))], iR 121 (.p .mv) [(.t 120)], iG 122 121 true (.p .mv) [(.t 20)], iG 123 121 true (.p (.un .not)) [(.t 122)], iR 124 (.p .pick) [(.t 121), (.t 123), (.c (.bool false))], iR 125 (.p .mv) [(.t 124)],
    iG 126 125 true (.call 18) [(.c (.str (bs [114, 97, 110, 103, 101]))), (.c (.str (bs [98, 121, 116, 101, 115, 61, 45, 53])))], iG 127 125 true (.p (.un .not)) [(.t 126)], iR 128 (.p .pick) [(.t 125), (.t 127), (.c (.bool false))], iR 129 (.p .mv) [(.t 128)], iG 130 129 true (.call 18) [(.c (.str (bs [82, 97, 110, 103, 101]))), (.c (.str (bs [98, 121, 116, 101, 115, 61, 48, 45])))], iR 131 (.p .pick) [(.t 129), (.t 130), (.c (.bool false))], iR 132 (.p .mv) [(.t 131)], iG 133 132 true (.call 25) [(.c (.str (bs [83, 101, 99, 45, 88])))], iR 134 (.p .pick) [(.t 132), (.t 133), (.c (.bool false))], iR 135 (.p .mv) [(.t 134)], iG 136 135 true (.call 25) [(.c (.str (bs [67, 111, 111, 107, 105, 101])))], iR 137 (.p .pick) [(.t 135), (.t 136), (.c (.bool false))], iR 138 (.p .mv) [(.t 137)], iG 139 138 true (.call 25) [(.c (.str (bs [120])))], iG 140 138 true (.p (.un .not)) [(.t 139)],
    iR 141 (.p .pick) [(.t 138), (.t 140), (.c (.bool false))], iR 142 (.p .mv) [(.t 141)], iG 143 142 true (.call 22) [(.c (.int .i64 (.ofNat 129)))], iG 144 142 true (.call 18) [(.c (.str (bs [97, 99, 99, 101, 112, 116]))), (.t 143)], iG 145 142 true (.p (.un .not)) [(.t 144)], iR 146 (.p .pick) [(.t 142), (.t 145), (.c (.bool false))], iR 147 (.p .mv) [(.t 146)], iG 148 147 true (.call 11) [], iR 149 (.p .pick) [(.t 147), (.t 148), (.c (.bool false))], iR 0 (.p .mv) [(.t 149)]]) (.keep [0] (.keep [0] .ret))))))))))))))))))))))), [(.t 0)]⟩
def s_law5_HeadersNumbers (call : CallK) (N : Nat) (H : Heap) (τ : Tape) (q : KV) : Ans := call f_headers_Add [.nils, (.str []), (.str (bs [120]))] H τ fun v0 H1 τ2 => someK (pExtract 0 [v0]) fun v3 => someK (pExtract 1 [v0]) fun v4 => call f_headers_Add [.nils, (.str (bs [120])), (.str (bs [97, 10, 98]))] H1 τ2 fun v5 H6 τ7 => someK (pExtract 0 [v5]) fun v8 => someK (pExtract 1 [v5]) fun v9 => effK (eMakeSlice 2 32 [(.str []), (.str [])] [(.int .i64 (.ofNat 64)), (.int .i64 (.ofNat 64))] H6 τ7) fun v10 H11 τ12 => call f_headers_Add [v10, (.str (bs [120])), (.str (bs [121]))] H11 τ12 fun v13 H14 τ15 => someK (pExtract 0 [v13]) fun v16 => someK (pExtract 1 [v13]) fun v17 => call f_law5_long [(.int .i64 (.ofNat 4097))] H14 τ15 fun v18 H19 τ20 => call f_headers_Add [.nils, (.str (bs [120])), v18] H19 τ20 fun v21 H22 τ23 => someK (pExtract 0 [v21]) fun v24 =>
    someK (pExtract 1 [v21]) fun v25 => call f_law5_h [(.str (bs [88])), (.str (bs [49]))] H22 τ23 fun v26 H27 τ28 => call f_law5_h [(.str (bs [121])), (.str (bs [50]))] H27 τ28 fun v29 H30 τ31 => call f_law5_h [(.str (bs [120])), (.str (bs [51]))] H30 τ31 fun v32 H33 τ34 => effK (eBuildSlice 3 2 (repl 6 [(.str [])]) [(0, 2), (2, 2), (4, 2)] [v26, v29, v32] H33 τ34) fun v35 H36 τ37 => call f_headers_Set [v35, (.str (bs [120])), (.str (bs [32, 57, 32]))] H36 τ37 fun v38 H39 τ40 => someK (pExtract 0 [v38]) fun v41 => someK (pExtract 1 [v38]) fun v42 => call f_law5_h [(.str (bs [97])), (.str [])] H39 τ40 fun v43 H44 τ45 => effK (eBuildSlice 1 2 [(.str []), (.str [])] [(0, 2)] [v43] H44 τ45) fun v46 H47 τ48 => call f_headers_Split [v46, (.str (bs [97]))] H47 τ48 fun v49 H50 τ51 => someK (pExtract 0 [v49]) fun v52 => someK (pExtract 1 [v49]) fun v53 =>
    call f_headers_Get [.nils, (.str (bs [97]))] H50 τ51 fun v54 H55 τ56 => someK (pExtract 0 [v54]) fun v57 => someK (pExtract 1 [v54]) fun v58 => call f_headers_Range [(.str (bs [98, 121, 116, 101, 115, 61, 45, 53]))] H55 τ56 fun v59 H60 τ61 => someK (pExtract 0 [v59]) fun v62 => someK (pExtract 1 [v59]) fun v63 => someK (pExtract 2 [v59]) fun v64 => call f_headers_Range [(.str (bs [98, 121, 116, 101, 115, 61, 53, 45, 52]))] H60 τ61 fun v65 H66 τ67 => someK (pExtract 0 [v65]) fun v68 => someK (pExtract 1 [v65]) fun v69 => someK (pExtract 2 [v65]) fun v70 => binK .eql v4 (.int .i64 (.ofNat 1)) fun v71 => gK v71 true (fun q' => q' v9 H66 τ67) H66 τ67 fun v72 H73 τ74 => gK v71 true (fun q' => binK .eql v72 (.int .i64 (.ofNat 1)) fun v => q' v H73 τ74) H73 τ74 fun v75 H76 τ77 => someK (pPick [v71, v75, (.bool false)]) fun v78 =>
    gK v78 true (fun q' => q' v17 H76 τ77) H76 τ77 fun v79 H80 τ81 => gK v78 true (fun q' => binK .eql v79 (.int .i64 (.ofNat 4)) fun v => q' v H80 τ81) H80 τ81 fun v82 H83 τ84 => someK (pPick [v78, v82, (.bool false)]) fun v85 => gK v85 true (fun q' => q' v25 H83 τ84) H83 τ84 fun v86 H87 τ88 => gK v85 true (fun q' => binK .eql v86 (.int .i64 (.ofNat 3)) fun v => q' v H87 τ88) H87 τ88 fun v89 H90 τ91 => someK (pPick [v85, v89, (.bool false)]) fun v92 => gK v92 true (fun q' => q' v42 H90 τ91) H90 τ91 fun v93 H94 τ95 => gK v92 true (fun q' => binK .eql v93 (.int .i64 (.ofNat 0)) fun v => q' v H94 τ95) H94 τ95 fun v96 H97 τ98 => someK (pPick [v92, v96, (.bool false)]) fun v99 => gK v99 true (fun q' => q' v41 H97 τ98) H97 τ98 fun v100 H101 τ102 => gK v99 true (fun q' => call f_law5_h [(.str (bs [88])), (.str (bs [57]))] H101 τ102 q') H101 τ102 fun v103 H104 τ105 =>
    gK v99 true (fun q' => call f_law5_h [(.str (bs [121])), (.str (bs [50]))] H104 τ105 q') H104 τ105 fun v106 H107 τ108 => gK v99 true (fun q' => effK (eBuildSlice 2 2 [(.str []), (.str []), (.str []), (.str [])] [(0, 2), (2, 2)] [v103, v106] H107 τ108) q') H107 τ108 fun v109 H110 τ111 => gK v99 true (fun q' => call f_book_Same_Header [v100, v109] H110 τ111 q') H110 τ111 fun v112 H113 τ114 => someK (pPick [v99, v112, (.bool false)]) fun v115 => gK v115 true (fun q' => q' v53 H113 τ114) H113 τ114 fun v116 H117 τ118 => someK (pPick [v115, v116, (.bool false)]) fun v119 => gK v119 true (fun q' => q' v52 H117 τ118) H117 τ118 fun v120 H121 τ122 => gK v119 true (fun q' => someK (pLen [v120]) fun v => q' v H121 τ122) H121 τ122 fun v123 H124 τ125 => gK v119 true (fun q' => binK .eql v123 (.int .i64 (.ofNat 1)) fun v => q' v H124 τ125) H124 τ125 fun v126 H127 τ128 =>
    someK (pPick [v119, v126, (.bool false)]) fun v129 => gK v129 true (fun q' => q' v52 H127 τ128) H127 τ128 fun v130 H131 τ132 => gK v129 true (fun q' => someK (pSlIdx 1 [v130, (.int .i64 (.ofNat 0))]) fun v => q' v H131 τ132) H131 τ132 fun v133 H134 τ135 => gK v129 true (fun q' => someK (lLoad1 [v133] H134) fun v => q' v H134 τ135) H134 τ135 fun v136 H137 τ138 => gK v129 true (fun q' => binK .eql v136 (.str []) fun v => q' v H137 τ138) H137 τ138 fun v139 H140 τ141 => someK (pPick [v129, v139, (.bool false)]) fun v142 => gK v142 true (fun q' => q' v58 H140 τ141) H140 τ141 fun v143 H144 τ145 => gK v142 true (fun q' => unK .not v143 fun v => q' v H144 τ145) H144 τ145 fun v146 H147 τ148 => someK (pPick [v142, v146, (.bool false)]) fun v149 => gK v149 true (fun q' => q' v62 H147 τ148) H147 τ148 fun v150 H151 τ152 =>
    gK v149 true (fun q' => binK .eql v150 (.int .i64 (.negSucc 0)) fun v => q' v H151 τ152) H151 τ152 fun v153 H154 τ155 => someK (pPick [v149, v153, (.bool false)]) fun v156 => gK v156 true (fun q' => q' v63 H154 τ155) H154 τ155 fun v157 H158 τ159 => gK v156 true (fun q' => binK .eql v157 (.int .i64 (.ofNat 5)) fun v => q' v H158 τ159) H158 τ159 fun v160 H161 τ162 => someK (pPick [v156, v160, (.bool false)]) fun v163 => gK v163 true (fun q' => q' v64 H161 τ162) H161 τ162 fun v164 H165 τ166 => someK (pPick [v163, v164, (.bool false)]) fun v167 => gK v167 true (fun q' => q' v70 H165 τ166) H165 τ166 fun v168 H169 τ170 => gK v167 true (fun q' => unK .not v168 fun v => q' v H169 τ170) H169 τ170 fun v171 H172 τ173 => someK (pPick [v167, v171, (.bool false)]) fun v174 =>
    gK v174 true (fun q' => call f_headers_Safe [(.str (bs [114, 97, 110, 103, 101])), (.str (bs [98, 121, 116, 101, 115, 61, 45, 53]))] H172 τ173 q') H172 τ173 fun v175 H176 τ177 => gK v174 true (fun q' => unK .not v175 fun v => q' v H176 τ177) H176 τ177 fun v178 H179 τ180 => someK (pPick [v174, v178, (.bool false)]) fun v181 => gK v181 true (fun q' => call f_headers_Safe [(.str (bs [82, 97, 110, 103, 101])), (.str (bs [98, 121, 116, 101, 115, 61, 48, 45]))] H179 τ180 q') H179 τ180 fun v182 H183 τ184 => someK (pPick [v181, v182, (.bool false)]) fun v185 => gK v185 true (fun q' => call f_headers_Forbidden [(.str (bs [83, 101, 99, 45, 88]))] H183 τ184 q') H183 τ184 fun v186 H187 τ188 => someK (pPick [v185, v186, (.bool false)]) fun v189 => gK v189 true (fun q' => call f_headers_Forbidden [(.str (bs [67, 111, 111, 107, 105, 101]))] H187 τ188 q') H187 τ188 fun v190 H191 τ192 =>
    someK (pPick [v189, v190, (.bool false)]) fun v193 => gK v193 true (fun q' => call f_headers_Forbidden [(.str (bs [120]))] H191 τ192 q') H191 τ192 fun v194 H195 τ196 => gK v193 true (fun q' => unK .not v194 fun v => q' v H195 τ196) H195 τ196 fun v197 H198 τ199 => someK (pPick [v193, v197, (.bool false)]) fun v200 => gK v200 true (fun q' => call f_law5_long [(.int .i64 (.ofNat 129))] H198 τ199 q') H198 τ199 fun v201 H202 τ203 => gK v200 true (fun q' => call f_headers_Safe [(.str (bs [97, 99, 99, 101, 112, 116])), v201] H202 τ203 q') H202 τ203 fun v204 H205 τ206 => gK v200 true (fun q' => unK .not v204 fun v => q' v H205 τ206) H205 τ206 fun v207 H208 τ209 => someK (pPick [v200, v207, (.bool false)]) fun v210 => gK v210 true (fun q' => call f_law5_known [] H208 τ209 q') H208 τ209 fun v211 H212 τ213 => someK (pPick [v210, v211, (.bool false)]) fun v214 => q v214 H212 τ213
theorem s_law5_HeadersNumbers_eq (call : CallK) (N : Nat) (H : Heap) (τ : Tape) (q : KV) : s_law5_HeadersNumbers call N  H τ q = funK call N fn_law5_HeadersNumbers [] H τ q := by kernel_rfl
def e_law5_HeadersNumbers (call : CallK) (N : Nat) (vs : List V) (H : Heap) (τ : Tape) (q : KV) : Ans := match vs with | [] => s_law5_HeadersNumbers call N  H τ q | _ => none
theorem e_law5_HeadersNumbers_ok : EntOk fn_law5_HeadersNumbers e_law5_HeadersNumbers := by
  intro call N vs H τ q r h
  unfold e_law5_HeadersNumbers at h
  split at h
  · rw [s_law5_HeadersNumbers_eq] at h; exact h
  · cases h
theorem e_law5_HeadersNumbers_nat : EntNat e_law5_HeadersNumbers := by
  intro c hn N vs H τ q
  unfold e_law5_HeadersNumbers
  split
  · rw [s_law5_HeadersNumbers_eq, s_law5_HeadersNumbers_eq]; exact funK_ent hn _ _ _ _ _ _
  · rfl
/-- ostiary/ostiarylaw5.HeadersSet -/
def fn_law5_HeadersSet : Fun := ⟨4, (.seq (.reg [iR 8 (.p .mv) [(.c (.bool false))]]) (.keep [0, 1, 2, 3] (.seq (.reg [iR 22 (.p .mv) [(.t 0)], iR 23 (.call 31) [(.t 22), (.c (.int .i64 (.ofNat 20))), (.c (.int .i64 (.ofNat 100)))], iR 0 (.p .mv) [(.t 23)]]) (.keep [0, 1, 2, 3] (.seq (.reg [iR 25 (.p .mv) [(.t 0)], iR 26 (.p .mv) [(.t 1)], iR 27 (.p .mv) [(.t 2)], iR 28 (.call 23) [(.t 25), (.t 26), (.t 27)], iR 24 (.p .mv) [(.t 28)], iR 29 (.p (.extract 0)) [(.t 24)], iR 30 (.p (.extract 1)) [(.t 24)], iR 9 (.p .mv) [(.t 29)], iR 10 (.p .mv) [(.t 30)]]) (.keep [0, 1, 2, 3, 9, 10] (.seq (.seq (.reg [iR 31 (.p .mv) [(.t 10)], iR 32 (.p (.bin .neq)) [(.t 31), (.c (.int .i64 (.ofNat 0)))]]) (.keep [0, 1, 2, 3, 9, 32] (.cond (.t 32) (.seq (.reg [iR 33 (.p .mv) [(.t 9)], iR 34 (.p .len) [(.t 33)], iR 35 (.p (.bin .eql)) [(.t 34), (.c (.int .i64 (.ofNat 0)))], iR 36 (.p .mv) [(.t 35)],
    iG 37 36 true (.call 11) [], iR 38 (.p .pick) [(.t 36), (.t 37), (.c (.bool false))], iR 8 (.p .mv) [(.t 38)]]) (.keep [8] (.keep [8] .ret))) .skip))) (.keep [0, 1, 2, 3, 9] (.seq (.reg [iR 40 (.p .mv) [(.t 9)], iR 41 (.p .mv) [(.t 1)], iR 42 (.call 20) [(.t 40), (.t 41)], iR 39 (.p .mv) [(.t 42)], iR 43 (.p (.extract 0)) [(.t 39)], iR 44 (.p (.extract 1)) [(.t 39)], iR 11 (.p .mv) [(.t 43)], iR 12 (.p .mv) [(.t 44)]]) (.keep [0, 1, 2, 3, 9, 11, 12] (.seq (.reg [iR 46 (.p .mv) [(.t 2)], iR 47 (.call 32) [(.t 46)], iR 45 (.p .mv) [(.t 47)], iR 48 (.p (.extract 0)) [(.t 45)], iR 49 (.p (.extract 1)) [(.t 45)], iR 13 (.p .mv) [(.t 48)], iR 14 (.p .mv) [(.t 49)]]) (.keep [0, 1, 3, 9, 11, 12, 13] (.seq (.seq (.reg [iR 50 (.p .mv) [(.t 12)], iR 51 (.p (.un .not)) [(.t 50)], iR 52 (.p .mv) [(.t 51)], iG 53 52 false (.p .mv) [(.t 11)], iG 54 52 false (.p .mv) [(.t 13)],
    iG 55 52 false (.p (.bin .neq)) [(.t 53), (.t 54)], iR 56 (.p .pick) [(.t 52), (.c (.bool true)), (.t 55)]]) (.keep [0, 1, 3, 9, 56] (.cond (.t 56) (.seq (.reg [iR 8 (.p .mv) [(.c (.bool false))]]) (.keep [8] (.keep [8] .ret))) .skip))) (.keep [0, 1, 3, 9] (.seq (.reg [iR 57 (.p .mv) [(.t 9)], iR 58 (.p .mv) [(.t 1)], iR 59 (.call 21) [(.t 57), (.t 58)], iR 15 (.p .mv) [(.t 59)]]) (.keep [0, 1, 3, 9, 15] (.seq (.reg [iR 61 (.p .mv) [(.t 15)], iR 62 (.p .mv) [(.t 1)], iR 63 (.call 20) [(.t 61), (.t 62)], iR 60 (.p .mv) [(.t 63)], iR 64 (.p (.extract 0)) [(.t 60)], iR 65 (.p (.extract 1)) [(.t 60)], iR 16 (.p .mv) [(.t 64)], iR 17 (.p .mv) [(.t 65)]]) (.keep [0, 1, 3, 9, 15, 17] (.seq (.seq (.reg [iR 66 (.p .mv) [(.t 17)], iR 67 (.p .mv) [(.t 66)], iG 68 67 false (.p .mv) [(.t 15)], iG 69 67 false (.p .mv) [(.t 0)], iG 70 67 false (.p .mv) [(.t 1)],
    iG 71 67 false (.call 21) [(.t 69), (.t 70)], iG 72 67 false (.call 24) [(.t 68), (.t 71)], iG 73 67 false (.p (.un .not)) [(.t 72)], iR 74 (.p .pick) [(.t 67), (.c (.bool true)), (.t 73)]]) (.keep [0, 1, 3, 9, 74] (.cond (.t 74) (.seq (.reg [iR 8 (.p .mv) [(.c (.bool false))]]) (.keep [8] (.keep [8] .ret))) .skip))) (.keep [0, 1, 3, 9] (.seq (.seq (.reg [iR 75 (.p .mv) [(.t 1)], iR 76 (.call 13) [(.t 75), (.c (.str []))], iR 77 (.p .mv) [(.t 3)], iR 78 (.call 33) [(.t 76), (.t 77)]]) (.keep [0, 3, 9, 78] (.cond (.t 78) (.seq (.reg [iR 79 (.call 11) [], iR 8 (.p .mv) [(.t 79)]]) (.keep [8] (.keep [8] .ret))) .skip))) (.keep [0, 3, 9] (.seq (.reg [iR 81 (.p .mv) [(.t 0)], iR 82 (.p .mv) [(.t 3)], iR 83 (.call 20) [(.t 81), (.t 82)], iR 80 (.p .mv) [(.t 83)], iR 84 (.p (.extract 0)) [(.t 80)], iR 85 (.p (.extract 1)) [(.t 80)], iR 18 (.p .mv) [(.t 84)], iR 19 (.p .mv) [(.t 85)]])
    (.keep [3, 9, 18, 19] (.seq (.reg [iR 87 (.p .mv) [(.t 9)], iR 88 (.p .mv) [(.t 3)], iR 89 (.call 20) [(.t 87), (.t 88)], iR 86 (.p .mv) [(.t 89)], iR 90 (.p (.extract 0)) [(.t 86)], iR 91 (.p (.extract 1)) [(.t 86)], iR 20 (.p .mv) [(.t 90)], iR 21 (.p .mv) [(.t 91)]]) (.keep [18, 19, 20, 21] (.seq (.reg [iR 92 (.p .mv) [(.t 18)], iR 93 (.p .mv) [(.t 20)], iR 94 (.p (.bin .eql)) [(.t 92), (.t 93)], iR 95 (.p .mv) [(.t 94)], iG 96 95 true (.p .mv) [(.t 19)], iG 97 95 true (.p .mv) [(.t 21)], iG 98 95 true (.p (.eq false .bool)) [(.t 96), (.t 97)], iR 99 (.p .pick) [(.t 95), (.t 98), (.c (.bool false))], iR 100 (.p .mv) [(.t 99)], iG 101 100 true (.call 11) [], iR 102 (.p .pick) [(.t 100), (.t 101), (.c (.bool false))], iR 8 (.p .mv) [(.t 102)]]) (.keep [8] (.keep [8] .ret))))))))))))))))))))))))))))), [(.t 8)]⟩
def s_law5_HeadersSet (call : CallK) (N : Nat) (a0 a1 a2 a3 : V) (H : Heap) (τ : Tape) (q : KV) : Ans := call f_keep_FewHeaders [a0, (.int .i64 (.ofNat 20)), (.int .i64 (.ofNat 100))] H τ fun v0 H1 τ2 => call f_headers_Set [v0, a1, a2] H1 τ2 fun v3 H4 τ5 => someK (pExtract 0 [v3]) fun v6 => someK (pExtract 1 [v3]) fun v7 => binK .neq v7 (.int .i64 (.ofNat 0)) fun v8 => condK v8 (someK (pLen [v6]) fun v9 => binK .eql v9 (.int .i64 (.ofNat 0)) fun v10 => gK v10 true (fun q' => call f_law5_known [] H4 τ5 q') H4 τ5 fun v11 H12 τ13 => someK (pPick [v10, v11, (.bool false)]) fun v14 => q v14 H12 τ13) (call f_headers_Get [v6, a1] H4 τ5 fun v15 H16 τ17 => someK (pExtract 0 [v15]) fun v18 => someK (pExtract 1 [v15]) fun v19 => call f_headers_Value [a2] H16 τ17 fun v20 H21 τ22 => someK (pExtract 0 [v20]) fun v23 => someK (pExtract 1 [v20]) fun v24 => unK .not v19 fun v25 =>
    gK v25 false (fun q' => q' v18 H21 τ22) H21 τ22 fun v26 H27 τ28 => gK v25 false (fun q' => q' v23 H27 τ28) H27 τ28 fun v29 H30 τ31 => gK v25 false (fun q' => binK .neq v26 v29 fun v => q' v H30 τ31) H30 τ31 fun v32 H33 τ34 => someK (pPick [v25, (.bool true), v32]) fun v35 => condK v35 (q (.bool false) H33 τ34) (call f_headers_Drop [v6, a1] H33 τ34 fun v36 H37 τ38 => call f_headers_Get [v36, a1] H37 τ38 fun v39 H40 τ41 => someK (pExtract 0 [v39]) fun v42 => someK (pExtract 1 [v39]) fun v43 => gK v43 false (fun q' => q' v36 H40 τ41) H40 τ41 fun v44 H45 τ46 => gK v43 false (fun q' => q' v0 H45 τ46) H45 τ46 fun v47 H48 τ49 => gK v43 false (fun q' => q' a1 H48 τ49) H48 τ49 fun v50 H51 τ52 => gK v43 false (fun q' => call f_headers_Drop [v47, v50] H51 τ52 q') H51 τ52 fun v53 H54 τ55 => gK v43 false (fun q' => call f_book_Same_Header [v44, v53] H54 τ55 q') H54 τ55 fun v56 H57 τ58 =>
    gK v43 false (fun q' => unK .not v56 fun v => q' v H57 τ58) H57 τ58 fun v59 H60 τ61 => someK (pPick [v43, (.bool true), v59]) fun v62 => condK v62 (q (.bool false) H60 τ61) (call f_law5_h [a1, (.str [])] H60 τ61 fun v63 H64 τ65 => call f_ref5_Named [v63, a3] H64 τ65 fun v66 H67 τ68 => condK v66 (call f_law5_known [] H67 τ68 fun v69 H70 τ71 => q v69 H70 τ71) (call f_headers_Get [v0, a3] H67 τ68 fun v72 H73 τ74 => someK (pExtract 0 [v72]) fun v75 => someK (pExtract 1 [v72]) fun v76 => call f_headers_Get [v6, a3] H73 τ74 fun v77 H78 τ79 => someK (pExtract 0 [v77]) fun v80 => someK (pExtract 1 [v77]) fun v81 => binK .eql v75 v80 fun v82 => gK v82 true (fun q' => q' v76 H78 τ79) H78 τ79 fun v83 H84 τ85 => gK v82 true (fun q' => q' v81 H84 τ85) H84 τ85 fun v86 H87 τ88 => gK v82 true (fun q' => someK (pEq false .bool [v83, v86]) fun v => q' v H87 τ88) H87 τ88 fun v89 H90 τ91 =>
    someK (pPick [v82, v89, (.bool false)]) fun v92 => gK v92 true (fun q' => call f_law5_known [] H90 τ91 q') H90 τ91 fun v93 H94 τ95 => someK (pPick [v92, v93, (.bool false)]) fun v96 => q v96 H94 τ95))))
theorem s_law5_HeadersSet_eq (call : CallK) (N : Nat) (a0 a1 a2 a3 : V) (H : Heap) (τ : Tape) (q : KV) : s_law5_HeadersSet call N a0 a1 a2 a3 H τ q = funK call N fn_law5_HeadersSet [a0, a1, a2, a3] H τ q := by kernel_rfl
def e_law5_HeadersSet (call : CallK) (N : Nat) (vs : List V) (H : Heap) (τ : Tape) (q : KV) : Ans := match vs with | [a0, a1, a2, a3] => s_law5_HeadersSet call N a0 a1 a2 a3 H τ q | _ => none
theorem e_law5_HeadersSet_ok : EntOk fn_law5_HeadersSet e_law5_HeadersSet := by
  intro call N vs H τ q r h
  unfold e_law5_HeadersSet at h
  split at h
  · rw [s_law5_HeadersSet_eq] at h; exact h
  · cases h
theorem e_law5_HeadersSet_nat : EntNat e_law5_HeadersSet := by
  intro c hn N vs H τ q
  unfold e_law5_HeadersSet
  split
  · rw [s_law5_HeadersSet_eq, s_law5_HeadersSet_eq]; exact funK_ent hn _ _ _ _ _ _
  · rfl
/-- ostiary/ostiarylaw5.known -/
def fn_law5_known : Fun := ⟨0, (.seq (.reg [iR 0 (.p .mv) [(.c (.bool false))]]) (.keep [] (.seq (.reg [iR 6 (.call 13) [(.c (.str (bs [65]))), (.c (.str (bs [49])))], iR 7 (.call 13) [(.c (.str (bs [98]))), (.c (.str (bs [50])))], iR 8 (.call 13) [(.c (.str (bs [97]))), (.c (.str (bs [51])))], iR 9 (.e (.buildSlice 3 2 (repl 6 [(.str [])]) [(0, 2), (2, 2), (4, 2)])) [(.t 6), (.t 7), (.t 8)], iR 10 (.call 20) [(.t 9), (.c (.str (bs [97])))], iR 5 (.p .mv) [(.t 10)], iR 11 (.p (.extract 0)) [(.t 5)], iR 12 (.p (.extract 1)) [(.t 5)], iR 1 (.p .mv) [(.t 11)], iR 2 (.p .mv) [(.t 12)]]) (.keep [1, 2] (.seq (.reg [iR 14 (.call 13) [(.c (.str (bs [97]))), (.c (.str (bs [120, 44, 32, 34, 121, 44, 32, 122, 34, 32, 44, 32, 119])))], iR 15 (.e (.buildSlice 1 2 [(.str []), (.str [])] [(0, 2)])) [(.t 14)], iR 16 (.call 12) [(.t 15), (.c (.str (bs [65])))], iR 13 (.p .mv) [(.t 16)],
    iR 17 (.p (.extract 0)) [(.t 13)], iR 18 (.p (.extract 1)) [(.t 13)], iR 3 (.p .mv) [(.t 17)], iR 4 (.p .mv) [(.t 18)]]) (.keep [1, 2, 3, 4] (.seq (.reg [iR 19 (.p .mv) [(.t 2)], iR 20 (.p .mv) [(.t 19)], iG 21 20 true (.p .mv) [(.t 1)], iG 22 20 true (.p (.bin .eql)) [(.t 21), (.c (.str (bs [49, 44, 32, 51])))], iR 23 (.p .pick) [(.t 20), (.t 22), (.c (.bool false))], iR 24 (.p .mv) [(.t 23)], iG 25 24 true (.p .mv) [(.t 4)], iR 26 (.p .pick) [(.t 24), (.t 25), (.c (.bool false))], iR 27 (.p .mv) [(.t 26)], iG 28 27 true (.p .mv) [(.t 3)], iG 29 27 true (.e (.buildSlice 3 1 [(.str []), (.str []), (.str [])] [(0, 1), (1, 1), (2, 1)])) [(.c (.str (bs [120]))), (.c (.str (bs [34, 121, 44, 32, 122, 34]))), (.c (.str (bs [119])))], iG 30 27 true (.call 14) [(.t 28), (.t 29)], iR 31 (.p .pick) [(.t 27), (.t 30), (.c (.bool false))], iR 32 (.p .mv) [(.t 31)],
    iG 33 32 true (.call 18) [(.c (.str (bs [67, 111, 110, 116, 101, 110, 116, 45, 84, 121, 112, 101]))), (.c (.str (bs [116, 101, 120, 116, 47, 112, 108, 97, 105, 110, 59, 113])))], iR 34 (.p .pick) [(.t 32), (.t 33), (.c (.bool false))], iR 0 (.p .mv) [(.t 34)]]) (.keep [0] (.keep [0] .ret))))))))), [(.t 0)]⟩
def s_law5_known (call : CallK) (N : Nat) (H : Heap) (τ : Tape) (q : KV) : Ans := call f_law5_h [(.str (bs [65])), (.str (bs [49]))] H τ fun v0 H1 τ2 => call f_law5_h [(.str (bs [98])), (.str (bs [50]))] H1 τ2 fun v3 H4 τ5 => call f_law5_h [(.str (bs [97])), (.str (bs [51]))] H4 τ5 fun v6 H7 τ8 => effK (eBuildSlice 3 2 (repl 6 [(.str [])]) [(0, 2), (2, 2), (4, 2)] [v0, v3, v6] H7 τ8) fun v9 H10 τ11 => call f_headers_Get [v9, (.str (bs [97]))] H10 τ11 fun v12 H13 τ14 => someK (pExtract 0 [v12]) fun v15 => someK (pExtract 1 [v12]) fun v16 => call f_law5_h [(.str (bs [97])), (.str (bs [120, 44, 32, 34, 121, 44, 32, 122, 34, 32, 44, 32, 119]))] H13 τ14 fun v17 H18 τ19 => effK (eBuildSlice 1 2 [(.str []), (.str [])] [(0, 2)] [v17] H18 τ19) fun v20 H21 τ22 => call f_headers_Split [v20, (.str (bs [65]))] H21 τ22 fun v23 H24 τ25 => someK (pExtract 0 [v23]) fun v26 =>
    someK (pExtract 1 [v23]) fun v27 => gK v16 true (fun q' => q' v15 H24 τ25) H24 τ25 fun v28 H29 τ30 => gK v16 true (fun q' => binK .eql v28 (.str (bs [49, 44, 32, 51])) fun v => q' v H29 τ30) H29 τ30 fun v31 H32 τ33 => someK (pPick [v16, v31, (.bool false)]) fun v34 => gK v34 true (fun q' => q' v27 H32 τ33) H32 τ33 fun v35 H36 τ37 => someK (pPick [v34, v35, (.bool false)]) fun v38 => gK v38 true (fun q' => q' v26 H36 τ37) H36 τ37 fun v39 H40 τ41 => gK v38 true (fun q' => effK (eBuildSlice 3 1 [(.str []), (.str []), (.str [])] [(0, 1), (1, 1), (2, 1)] [(.str (bs [120])), (.str (bs [34, 121, 44, 32, 122, 34])), (.str (bs [119]))] H40 τ41) q') H40 τ41 fun v42 H43 τ44 => gK v38 true (fun q' => call f_book_Same_string [v39, v42] H43 τ44 q') H43 τ44 fun v45 H46 τ47 => someK (pPick [v38, v45, (.bool false)]) fun v48 =>
    gK v48 true (fun q' => call f_headers_Safe [(.str (bs [67, 111, 110, 116, 101, 110, 116, 45, 84, 121, 112, 101])), (.str (bs [116, 101, 120, 116, 47, 112, 108, 97, 105, 110, 59, 113]))] H46 τ47 q') H46 τ47 fun v49 H50 τ51 => someK (pPick [v48, v49, (.bool false)]) fun v52 => q v52 H50 τ51
theorem s_law5_known_eq (call : CallK) (N : Nat) (H : Heap) (τ : Tape) (q : KV) : s_law5_known call N  H τ q = funK call N fn_law5_known [] H τ q := by kernel_rfl
def e_law5_known (call : CallK) (N : Nat) (vs : List V) (H : Heap) (τ : Tape) (q : KV) : Ans := match vs with | [] => s_law5_known call N  H τ q | _ => none
theorem e_law5_known_ok : EntOk fn_law5_known e_law5_known := by
  intro call N vs H τ q r h
  unfold e_law5_known at h
  split at h
  · rw [s_law5_known_eq] at h; exact h
  · cases h
theorem e_law5_known_nat : EntNat e_law5_known := by
  intro c hn N vs H τ q
  unfold e_law5_known
  split
  · rw [s_law5_known_eq, s_law5_known_eq]; exact funK_ent hn _ _ _ _ _ _
  · rfl
/-- ostiary/headers.Split -/
def fn_headers_Split : Fun := ⟨2, (.seq (.reg [iR 4 (.p .mv) [(.c .nils)], iR 5 (.p .mv) [(.c (.bool false))]]) (.keep [0, 1] (.seq (.reg [iR 13 (.p .mv) [(.t 0)], iR 14 (.p .mv) [(.t 1)], iR 15 (.call 20) [(.t 13), (.t 14)], iR 12 (.p .mv) [(.t 15)], iR 16 (.p (.extract 0)) [(.t 12)], iR 17 (.p (.extract 1)) [(.t 12)], iR 6 (.p .mv) [(.t 16)], iR 7 (.p .mv) [(.t 17)]]) (.keep [6, 7] (.seq (.seq (.reg [iR 18 (.p .mv) [(.t 7)], iR 19 (.p (.un .not)) [(.t 18)]]) (.keep [6, 19] (.cond (.t 19) (.seq (.reg [iR 4 (.p .mv) [(.c .nils)], iR 5 (.p .mv) [(.c (.bool false))]]) (.keep [4, 5] (.keep [4, 5] .ret))) .skip))) (.keep [6] (.seq (.reg [iR 8 (.p .mv) [(.c .nils)]]) (.keep [6, 8] (.seq (.reg [iR 9 (.p .mv) [(.c (.bool false))], iR 10 (.p .mv) [(.c (.int .i64 (.ofNat 0)))]]) (.keep [6, 8, 9, 10] (.seq (.seq (.reg [iR 11 (.p .mv) [(.c (.int .i64 (.ofNat 0)))]])
    (.keep [6, 8, 9, 10, 11] (.block 0 (.loop (.keep [6, 8, 9, 10, 11] (.seq (.seq (.reg [iR 20 (.p .mv) [(.t 11)], iR 21 (.p .mv) [(.t 6)], iR 22 (.p .lenS) [(.t 21)], iR 23 (.p (.bin .lss)) [(.t 20), (.t 22)]]) (.keep [6, 8, 9, 10, 11, 23] (.cond (.t 23) .skip (.keep [6, 8, 10] (.exit 0))))) (.keep [6, 8, 9, 10, 11] (.seq (.block 1 (.block 2 (.seq (.reg [iR 27 (.p .mv) [(.t 6)], iR 28 (.p .mv) [(.t 11)], iR 29 (.p .strIndex) [(.t 27), (.t 28)], iR 30 (.p (.bin .eql)) [(.t 29), (.c (.int .u8 (.ofNat 34)))], iR 26 (.p .mv) [(.t 30)]]) (.keep [6, 8, 9, 10, 11, 26] (.cond (.t 26) (.reg [iR 31 (.p .mv) [(.t 9)], iR 32 (.p (.un .not)) [(.t 31)], iR 9 (.p .mv) [(.t 32)]]) (.seq (.reg [iR 34 (.p .mv) [(.t 9)], iR 35 (.p .mv) [(.t 34)], iG 36 35 true (.p .mv) [(.t 6)], iG 37 35 true (.p .mv) [(.t 11)], iG 38 35 true (.p .strIndex) [(.t 36), (.t 37)],
    iG 39 35 true (.p (.bin .eql)) [(.t 38), (.c (.int .u8 (.ofNat 92)))], iR 40 (.p .pick) [(.t 35), (.t 39), (.c (.bool false))], iR 33 (.p .mv) [(.t 40)]]) (.keep [6, 8, 9, 10, 11, 33] (.cond (.t 33) (.reg [iR 41 (.p .mv) [(.t 11)], iR 42 (.p (.bin .add)) [(.t 41), (.c (.int .i64 (.ofNat 1)))], iR 11 (.p .mv) [(.t 42)]]) (.seq (.reg [iR 44 (.p .mv) [(.t 9)], iR 45 (.p (.un .not)) [(.t 44)], iR 46 (.p .mv) [(.t 45)], iG 47 46 true (.p .mv) [(.t 6)], iG 48 46 true (.p .mv) [(.t 11)], iG 49 46 true (.p .strIndex) [(.t 47), (.t 48)], iG 50 46 true (.p (.bin .eql)) [(.t 49), (.c (.int .u8 (.ofNat 44)))], iR 51 (.p .pick) [(.t 46), (.t 50), (.c (.bool false))], iR 43 (.p .mv) [(.t 51)]]) (.keep [6, 8, 9, 10, 11, 43] (.cond (.t 43) (.seq (.reg [iR 52 (.p .mv) [(.t 8)], iR 53 (.p .mv) [(.t 6)], iR 54 (.p .mv) [(.t 10)], iR 55 (.p .mv) [(.t 11)],
    iR 56 (.p (.strSlice true true)) [(.t 53), (.t 54), (.t 55)], iR 57 (.call 35) [(.t 56), (.c (.str (bs [9, 32])))], iR 58 (.e (.buildSlice 1 1 [(.str [])] [(0, 1)])) [(.t 57)], iR 59 (.e (.append 1 16)) [(.t 52), (.t 58)], iR 8 (.p .mv) [(.t 59)]]) (.keep [6, 8, 9, 11] (.reg [iR 60 (.p .mv) [(.t 11)], iR 61 (.p (.bin .add)) [(.t 60), (.c (.int .i64 (.ofNat 1)))], iR 10 (.p .mv) [(.t 61)]]))) .skip))))))))))) (.keep [6, 8, 9, 10, 11] (.reg [iR 24 (.p .mv) [(.t 11)], iR 25 (.p (.bin .add)) [(.t 24), (.c (.int .i64 (.ofNat 1)))], iR 11 (.p .mv) [(.t 25)]])))))))))) (.keep [6, 8, 10] (.seq (.reg [iR 62 (.p .mv) [(.t 8)], iR 63 (.p .mv) [(.t 6)], iR 64 (.p .mv) [(.t 10)], iR 65 (.p (.strSlice true false)) [(.t 63), (.t 64)], iR 66 (.call 35) [(.t 65), (.c (.str (bs [9, 32])))], iR 67 (.e (.buildSlice 1 1 [(.str [])] [(0, 1)])) [(.t 66)], iR 68 (.e (.append 1 16)) [(.t 62), (.t 67)],
    iR 4 (.p .mv) [(.t 68)], iR 5 (.p .mv) [(.c (.bool true))]]) (.keep [4, 5] (.keep [4, 5] .ret))))))))))))))), [(.t 4), (.t 5)]⟩
def s_headers_Split_j0 (call : CallK) (N : Nat) (q : KV) (st : St) (τ : Tape) : Ans := match st with
  | ⟨fr, H⟩ => getK fr 6 fun t6 => getK fr 8 fun t8 => getK fr 10 fun t10 => someK (pStrSlice true false [t6, t10]) fun v6 => call f_strings_Trim [v6, (.str (bs [9, 32]))] H τ fun v7 H8 τ9 => effK (eBuildSlice 1 1 [(.str [])] [(0, 1)] [v7] H8 τ9) fun v10 H11 τ12 => effK (eAppend 1 16 [t8, v10] H11 τ12) fun v13 H14 τ15 => q (.tup [v13, (.bool true)]) H14 τ15
def s_headers_Split_j2 (call : CallK) (N : Nat) (k : KC) (st : St) (τ : Tape) : Ans := match st with
  | ⟨fr, H⟩ => getK fr 6 fun t6 => getK fr 8 fun t8 => getK fr 9 fun t9 => getK fr 10 fun t10 => getK fr 11 fun t11 => binK .add t11 (.int .i64 (.ofNat 1)) fun v18 => k .normal ⟨(T.set (T.set (T.set (T.set (T.set (T.set (T.set (T.set .leaf 6 t6) 8 t8) 9 t9) 10 t10) 11 t11) 24 t11) 25 v18) 11 v18), H⟩ τ
def s_headers_Split_l1 (call : CallK) (N : Nat) (st : St) (τ : Tape) (k : KC) : Ans := match st with
  | ⟨fr, H⟩ => getK fr 6 fun t6 => getK fr 8 fun t8 => getK fr 9 fun t9 => getK fr 10 fun t10 => getK fr 11 fun t11 => someK (pLenS [t6]) fun v16 => binK .lss t11 v16 fun v17 => condK v17 (someK (pStrIndex [t6, t11]) fun v19 => binK .eql v19 (.int .u8 (.ofNat 34)) fun v20 => condK v20 (unK .not t9 fun v21 => s_headers_Split_j2 call N k ⟨(T.set (T.set (T.set (T.set (T.set (T.set (T.set (T.set (T.set .leaf 6 t6) 8 t8) 9 t9) 10 t10) 11 t11) 26 v20) 31 t9) 32 v21) 9 v21), H⟩ τ) (gK t9 true (fun q' => q' t6 H τ) H τ fun v22 H23 τ24 => gK t9 true (fun q' => q' t11 H23 τ24) H23 τ24 fun v25 H26 τ27 => gK t9 true (fun q' => someK (pStrIndex [v22, v25]) fun v => q' v H26 τ27) H26 τ27 fun v28 H29 τ30 => gK t9 true (fun q' => binK .eql v28 (.int .u8 (.ofNat 92)) fun v => q' v H29 τ30) H29 τ30 fun v31 H32 τ33 => someK (pPick [t9, v31, (.bool false)]) fun v34 => condK v34
    (binK .add t11 (.int .i64 (.ofNat 1)) fun v35 => s_headers_Split_j2 call N k ⟨(T.set (T.set (T.set (T.set (T.set (T.set (T.set (T.set (T.set .leaf 6 t6) 8 t8) 9 t9) 10 t10) 11 t11) 33 v34) 41 t11) 42 v35) 11 v35), H32⟩ τ33) (unK .not t9 fun v36 => gK v36 true (fun q' => q' t6 H32 τ33) H32 τ33 fun v37 H38 τ39 => gK v36 true (fun q' => q' t11 H38 τ39) H38 τ39 fun v40 H41 τ42 => gK v36 true (fun q' => someK (pStrIndex [v37, v40]) fun v => q' v H41 τ42) H41 τ42 fun v43 H44 τ45 => gK v36 true (fun q' => binK .eql v43 (.int .u8 (.ofNat 44)) fun v => q' v H44 τ45) H44 τ45 fun v46 H47 τ48 => someK (pPick [v36, v46, (.bool false)]) fun v49 => condK v49 (someK (pStrSlice true true [t6, t10, t11]) fun v50 => call f_strings_Trim [v50, (.str (bs [9, 32]))] H47 τ48 fun v51 H52 τ53 => effK (eBuildSlice 1 1 [(.str [])] [(0, 1)] [v51] H52 τ53) fun v54 H55 τ56 =>
    effK (eAppend 1 16 [t8, v54] H55 τ56) fun v57 H58 τ59 => binK .add t11 (.int .i64 (.ofNat 1)) fun v60 => s_headers_Split_j2 call N k ⟨(T.set (T.set (T.set (T.set (T.set (T.set (T.set .leaf 6 t6) 8 v57) 9 t9) 11 t11) 60 t11) 61 v60) 10 v60), H58⟩ τ59) (s_headers_Split_j2 call N k ⟨(T.set (T.set (T.set (T.set (T.set (T.set .leaf 6 t6) 8 t8) 9 t9) 10 t10) 11 t11) 43 v49), H47⟩ τ48)))) (k (.exit 0) ⟨(T.set (T.set (T.set .leaf 6 t6) 8 t8) 10 t10), H⟩ τ)
def s_headers_Split (call : CallK) (N : Nat) (a0 a1 : V) (H : Heap) (τ : Tape) (q : KV) : Ans := call f_headers_Get [a0, a1] H τ fun v0 H1 τ2 => someK (pExtract 0 [v0]) fun v3 => someK (pExtract 1 [v0]) fun v4 => unK .not v4 fun v5 => condK v5 (q (.tup [.nils, (.bool false)]) H1 τ2) (loopK (s_headers_Split_l1 call N) N ⟨(T.set (T.set (T.set (T.set (T.set .leaf 6 v3) 8 .nils) 9 (.bool false)) 10 (.int .i64 (.ofNat 0))) 11 (.int .i64 (.ofNat 0))), H1⟩ τ2 (blockK 0 (seqK (s_headers_Split_j0 call N q) (endK [(.t 4), (.t 5)] q))))
theorem s_headers_Split_eq (call : CallK) (N : Nat) (a0 a1 : V) (H : Heap) (τ : Tape) (q : KV) : s_headers_Split call N a0 a1 H τ q = funK call N fn_headers_Split [a0, a1] H τ q := by kernel_rfl
def e_headers_Split (call : CallK) (N : Nat) (vs : List V) (H : Heap) (τ : Tape) (q : KV) : Ans := match vs with | [a0, a1] => s_headers_Split call N a0 a1 H τ q | _ => none
theorem e_headers_Split_ok : EntOk fn_headers_Split e_headers_Split := by
  intro call N vs H τ q r h
  unfold e_headers_Split at h
  split at h
  · rw [s_headers_Split_eq] at h; exact h
  · cases h
theorem e_headers_Split_nat : EntNat e_headers_Split := by
  intro c hn N vs H τ q
  unfold e_headers_Split
  split
  · rw [s_headers_Split_eq, s_headers_Split_eq]; exact funK_ent hn _ _ _ _ _ _
  · rfl
/-- ostiary/ostiarylaw5.h -/
def fn_law5_h : Fun := ⟨2, (.seq (.reg [iR 4 (.e (.alloc [(.str []), (.str [])])) []]) (.keep [0, 1, 4] (.seq (.reg [iR 5 (.p .mv) [(.t 0)], iR 6 (.p .mv) [(.t 1)], iR 7 (.p (.build [(.str []), (.str [])] [(0, 1), (1, 1)])) [(.t 5), (.t 6)], ⟨none, none, (.e (.store 2)), [(.t 4), (.t 7)], none⟩]) (.keep [4] (.keep [4] .ret))))), [(.cell 4 (some 2))]⟩
def s_law5_h (call : CallK) (N : Nat) (a0 a1 : V) (H : Heap) (τ : Tape) (q : KV) : Ans := effK (eAlloc [(.str []), (.str [])] [] H τ) fun v0 H1 τ2 => someK (pBuild [(.str []), (.str [])] [(0, 1), (1, 1)] [a0, a1]) fun v3 => effK (eStore 2 [v0, v3] H1 τ2) fun v4 H5 τ6 => someK (results ⟨(T.set .leaf 4 v0), H5⟩ [(.cell 4 (some 2))]) fun v => q v H5 τ6
theorem s_law5_h_eq (call : CallK) (N : Nat) (a0 a1 : V) (H : Heap) (τ : Tape) (q : KV) : s_law5_h call N a0 a1 H τ q = funK call N fn_law5_h [a0, a1] H τ q := by kernel_rfl
def e_law5_h (call : CallK) (N : Nat) (vs : List V) (H : Heap) (τ : Tape) (q : KV) : Ans := match vs with | [a0, a1] => s_law5_h call N a0 a1 H τ q | _ => none
theorem e_law5_h_ok : EntOk fn_law5_h e_law5_h := by
  intro call N vs H τ q r h
  unfold e_law5_h at h
  split at h
  · rw [s_law5_h_eq] at h; exact h
  · cases h
theorem e_law5_h_nat : EntNat e_law5_h := by
  intro c hn N vs H τ q
  unfold e_law5_h
  split
  · rw [s_law5_h_eq, s_law5_h_eq]; exact funK_ent hn _ _ _ _ _ _
  · rfl
/-- ostiary/ostiarybook.Same[string] -/
def fn_book_Same_string : Fun := ⟨2, (.seq (.reg [iR 4 (.p .mv) [(.c (.bool false))]]) (.keep [0, 1] (.seq (.seq (.reg [iR 6 (.p .mv) [(.t 0)], iR 7 (.p .len) [(.t 6)], iR 8 (.p .mv) [(.t 1)], iR 9 (.p .len) [(.t 8)], iR 10 (.p (.bin .neq)) [(.t 7), (.t 9)]]) (.keep [0, 1, 10] (.cond (.t 10) (.seq (.reg [iR 4 (.p .mv) [(.c (.bool false))]]) (.keep [4] (.keep [4] .ret))) .skip))) (.keep [0, 1] (.seq (.seq (.reg [iR 5 (.p .mv) [(.c (.int .i64 (.ofNat 0)))]]) (.keep [0, 1, 5] (.block 0 (.loop (.keep [0, 1, 5] (.seq (.seq (.reg [iR 11 (.p .mv) [(.t 5)], iR 12 (.p .mv) [(.t 0)], iR 13 (.p .len) [(.t 12)], iR 14 (.p (.bin .lss)) [(.t 11), (.t 13)]]) (.keep [0, 1, 5, 14] (.cond (.t 14) .skip (.keep [] (.exit 0))))) (.keep [0, 1, 5] (.seq (.block 1 (.seq (.draw [iR 17 (.p .mv) [(.t 0)], iR 18 (.p .mv) [(.t 5)], iR 19 (.p (.slIdx 1)) [(.t 17), (.t 18)], iR 20 (.l (.load none)) [(.t 19)],
    iR 21 (.p .mv) [(.t 1)], iR 22 (.p .mv) [(.t 5)], iR 23 (.p (.slIdx 1)) [(.t 21), (.t 22)], iR 24 (.l (.load none)) [(.t 23)], iR 25 (.p (.bin .neq)) [(.t 20), (.t 24)]]) (.keep [0, 1, 5, 25] (.cond (.t 25) (.seq (.reg [iR 4 (.p .mv) [(.c (.bool false))]]) (.keep [4] (.keep [4] .ret))) .skip)))) (.keep [0, 1, 5] (.reg [iR 15 (.p .mv) [(.t 5)], iR 16 (.p (.bin .add)) [(.t 15), (.c (.int .i64 (.ofNat 1)))], iR 5 (.p .mv) [(.t 16)]])))))))))) (.keep [] (.seq (.reg [iR 4 (.p .mv) [(.c (.bool true))]]) (.keep [4] (.keep [4] .ret))))))))), [(.t 4)]⟩
def s_book_Same_string_j0 (call : CallK) (N : Nat) (q : KV) (st : St) (τ : Tape) : Ans := match st with
  | ⟨fr, H⟩ => q (.bool true) H τ
def s_book_Same_string_l1 (call : CallK) (N : Nat) (st : St) (τ : Tape) (k : KC) : Ans := match st with
  | ⟨fr, H⟩ => getK fr 0 fun t0 => getK fr 1 fun t1 => getK fr 5 fun t5 => someK (pLen [t0]) fun v3 => binK .lss t5 v3 fun v4 => condK v4 (someK (pSlIdx 1 [t0, t5]) fun v5 => someK (lLoad1 [v5] H) fun v6 => someK (pSlIdx 1 [t1, t5]) fun v7 => someK (lLoad1 [v7] H) fun v8 => binK .neq v6 v8 fun v9 => condK v9 (k .ret ⟨(T.set .leaf 4 (.bool false)), H⟩ τ) (binK .add t5 (.int .i64 (.ofNat 1)) fun v10 => k .normal ⟨(T.set (T.set (T.set (T.set (T.set (T.set .leaf 0 t0) 1 t1) 5 t5) 15 t5) 16 v10) 5 v10), H⟩ τ)) (k (.exit 0) ⟨.leaf, H⟩ τ)
def s_book_Same_string (call : CallK) (N : Nat) (a0 a1 : V) (H : Heap) (τ : Tape) (q : KV) : Ans := someK (pLen [a0]) fun v0 => someK (pLen [a1]) fun v1 => binK .neq v0 v1 fun v2 => condK v2 (q (.bool false) H τ) (loopK (s_book_Same_string_l1 call N) N ⟨(T.set (T.set (T.set .leaf 0 a0) 1 a1) 5 (.int .i64 (.ofNat 0))), H⟩ τ (blockK 0 (seqK (s_book_Same_string_j0 call N q) (endK [(.t 4)] q))))
theorem s_book_Same_string_eq (call : CallK) (N : Nat) (a0 a1 : V) (H : Heap) (τ : Tape) (q : KV) : s_book_Same_string call N a0 a1 H τ q = funK call N fn_book_Same_string [a0, a1] H τ q := by kernel_rfl
def e_book_Same_string (call : CallK) (N : Nat) (vs : List V) (H : Heap) (τ : Tape) (q : KV) : Ans := match vs with | [a0, a1] => s_book_Same_string call N a0 a1 H τ q | _ => none
theorem e_book_Same_string_ok : EntOk fn_book_Same_string e_book_Same_string := by
  intro call N vs H τ q r h
  unfold e_book_Same_string at h
  split at h
  · rw [s_book_Same_string_eq] at h; exact h
  · cases h
theorem e_book_Same_string_nat : EntNat e_book_Same_string := by
  intro c hn N vs H τ q
  unfold e_book_Same_string
  split
  · rw [s_book_Same_string_eq, s_book_Same_string_eq]; exact funK_ent hn _ _ _ _ _ _
  · rfl
/-- ostiary/headers.Range -/
def fn_headers_Range : Fun := ⟨1, (.seq (.reg [iR 2 (.p .mv) [(.c (.int .i64 (.ofNat 0)))], iR 3 (.p .mv) [(.c (.int .i64 (.ofNat 0)))], iR 4 (.p .mv) [(.c (.bool false))]]) (.keep [0] (.seq (.reg [iR 15 (.p .mv) [(.t 0)], iR 16 (.call 36) [(.t 15), (.c (.str (bs [98, 121, 116, 101, 115, 61])))], iR 14 (.p .mv) [(.t 16)], iR 17 (.p (.extract 0)) [(.t 14)], iR 18 (.p (.extract 1)) [(.t 14)], iR 5 (.p .mv) [(.t 17)], iR 6 (.p .mv) [(.t 18)]]) (.keep [5, 6] (.seq (.reg [iR 20 (.p .mv) [(.t 5)], iR 21 (.call 37) [(.t 20), (.c (.str (bs [45])))], iR 19 (.p .mv) [(.t 21)], iR 22 (.p (.extract 0)) [(.t 19)], iR 23 (.p (.extract 1)) [(.t 19)], iR 24 (.p (.extract 2)) [(.t 19)], iR 7 (.p .mv) [(.t 22)], iR 8 (.p .mv) [(.t 23)], iR 9 (.p .mv) [(.t 24)]]) (.keep [6, 7, 8, 9] (.seq (.reg [iR 26 (.p .mv) [(.t 7)], iR 27 (.call 38) [(.t 26)], iR 25 (.p .mv) [(.t 27)],
    iR 28 (.p (.extract 0)) [(.t 25)], iR 29 (.p (.extract 1)) [(.t 25)], iR 10 (.p .mv) [(.t 28)], iR 11 (.p .mv) [(.t 29)]]) (.keep [6, 8, 9, 10, 11] (.seq (.reg [iR 31 (.p .mv) [(.t 8)], iR 32 (.call 38) [(.t 31)], iR 30 (.p .mv) [(.t 32)], iR 33 (.p (.extract 0)) [(.t 30)], iR 34 (.p (.extract 1)) [(.t 30)], iR 12 (.p .mv) [(.t 33)], iR 13 (.p .mv) [(.t 34)]]) (.keep [6, 9, 10, 11, 12, 13] (.seq (.seq (.reg [iR 35 (.p .mv) [(.t 6)], iR 36 (.p (.un .not)) [(.t 35)], iR 37 (.p .mv) [(.t 36)], iG 38 37 false (.p .mv) [(.t 9)], iG 39 37 false (.p (.un .not)) [(.t 38)], iR 40 (.p .pick) [(.t 37), (.c (.bool true)), (.t 39)], iR 41 (.p .mv) [(.t 40)], iG 42 41 false (.p .mv) [(.t 11)], iG 43 41 false (.p (.un .not)) [(.t 42)], iR 44 (.p .pick) [(.t 41), (.c (.bool true)), (.t 43)], iR 45 (.p .mv) [(.t 44)], iG 46 45 false (.p .mv) [(.t 13)], iG 47 45 false (.p (.un .not)) [(.t 46)],
    iR 48 (.p .pick) [(.t 45), (.c (.bool true)), (.t 47)], iR 49 (.p .mv) [(.t 48)], iG 50 49 false (.p .mv) [(.t 10)], iG 51 49 false (.p (.bin .lss)) [(.t 50), (.c (.int .i64 (.ofNat 0)))], iG 52 49 false (.p .mv) [(.t 51)], iG 53 52 true (.p .mv) [(.t 12)], iG 54 52 true (.p (.bin .lss)) [(.t 53), (.c (.int .i64 (.ofNat 0)))], iG 55 49 false (.p .pick) [(.t 52), (.t 54), (.c (.bool false))], iR 56 (.p .pick) [(.t 49), (.c (.bool true)), (.t 55)], iR 57 (.p .mv) [(.t 56)], iG 58 57 false (.p .mv) [(.t 10)], iG 59 57 false (.p (.bin .geq)) [(.t 58), (.c (.int .i64 (.ofNat 0)))], iG 60 57 false (.p .mv) [(.t 59)], iG 61 60 true (.p .mv) [(.t 12)], iG 62 60 true (.p (.bin .geq)) [(.t 61), (.c (.int .i64 (.ofNat 0)))], iG 63 57 false (.p .pick) [(.t 60), (.t 62), (.c (.bool false))], iG 64 57 false (.p .mv) [(.t 63)], iG 65 64 true (.p .mv) [(.t 10)], iG 66 64 true (.p .mv) [(.t 12)],
    iG 67 64 true (.p (.bin .gtr)) [(.t 65), (.t 66)], iG 68 57 false (.p .pick) [(.t 64), (.t 67), (.c (.bool false))], iR 69 (.p .pick) [(.t 57), (.c (.bool true)), (.t 68)]]) (.keep [10, 12, 69] (.cond (.t 69) (.seq (.reg [iR 2 (.p .mv) [(.c (.int .i64 (.ofNat 0)))], iR 3 (.p .mv) [(.c (.int .i64 (.ofNat 0)))], iR 4 (.p .mv) [(.c (.bool false))]]) (.keep [2, 3, 4] (.keep [2, 3, 4] .ret))) .skip))) (.keep [10, 12] (.seq (.reg [iR 70 (.p .mv) [(.t 10)], iR 71 (.p .mv) [(.t 12)], iR 2 (.p .mv) [(.t 70)], iR 3 (.p .mv) [(.t 71)], iR 4 (.p .mv) [(.c (.bool true))]]) (.keep [2, 3, 4] (.keep [2, 3, 4] .ret))))))))))))))), [(.t 2), (.t 3), (.t 4)]⟩
def s_headers_Range (call : CallK) (N : Nat) (a0 : V) (H : Heap) (τ : Tape) (q : KV) : Ans := call f_strings_CutPrefix [a0, (.str (bs [98, 121, 116, 101, 115, 61]))] H τ fun v0 H1 τ2 => someK (pExtract 0 [v0]) fun v3 => someK (pExtract 1 [v0]) fun v4 => call f_strings_Cut [v3, (.str (bs [45]))] H1 τ2 fun v5 H6 τ7 => someK (pExtract 0 [v5]) fun v8 => someK (pExtract 1 [v5]) fun v9 => someK (pExtract 2 [v5]) fun v10 => call f_headers_told [v8] H6 τ7 fun v11 H12 τ13 => someK (pExtract 0 [v11]) fun v14 => someK (pExtract 1 [v11]) fun v15 => call f_headers_told [v9] H12 τ13 fun v16 H17 τ18 => someK (pExtract 0 [v16]) fun v19 => someK (pExtract 1 [v16]) fun v20 => unK .not v4 fun v21 => gK v21 false (fun q' => q' v10 H17 τ18) H17 τ18 fun v22 H23 τ24 => gK v21 false (fun q' => unK .not v22 fun v => q' v H23 τ24) H23 τ24 fun v25 H26 τ27 => someK (pPick [v21, (.bool true), v25]) fun v28 =>
    gK v28 false (fun q' => q' v15 H26 τ27) H26 τ27 fun v29 H30 τ31 => gK v28 false (fun q' => unK .not v29 fun v => q' v H30 τ31) H30 τ31 fun v32 H33 τ34 => someK (pPick [v28, (.bool true), v32]) fun v35 => gK v35 false (fun q' => q' v20 H33 τ34) H33 τ34 fun v36 H37 τ38 => gK v35 false (fun q' => unK .not v36 fun v => q' v H37 τ38) H37 τ38 fun v39 H40 τ41 => someK (pPick [v35, (.bool true), v39]) fun v42 => gK v42 false (fun q' => q' v14 H40 τ41) H40 τ41 fun v43 H44 τ45 => gK v42 false (fun q' => binK .lss v43 (.int .i64 (.ofNat 0)) fun v => q' v H44 τ45) H44 τ45 fun v46 H47 τ48 => gK v42 false (fun q' => q' v46 H47 τ48) H47 τ48 fun v49 H50 τ51 => gK v49 true (fun q' => q' v19 H50 τ51) H50 τ51 fun v52 H53 τ54 => gK v49 true (fun q' => binK .lss v52 (.int .i64 (.ofNat 0)) fun v => q' v H53 τ54) H53 τ54 fun v55 H56 τ57 =>
    gK v42 false (fun q' => someK (pPick [v49, v55, (.bool false)]) fun v => q' v H56 τ57) H56 τ57 fun v58 H59 τ60 => someK (pPick [v42, (.bool true), v58]) fun v61 => gK v61 false (fun q' => q' v14 H59 τ60) H59 τ60 fun v62 H63 τ64 => gK v61 false (fun q' => binK .geq v62 (.int .i64 (.ofNat 0)) fun v => q' v H63 τ64) H63 τ64 fun v65 H66 τ67 => gK v61 false (fun q' => q' v65 H66 τ67) H66 τ67 fun v68 H69 τ70 => gK v68 true (fun q' => q' v19 H69 τ70) H69 τ70 fun v71 H72 τ73 => gK v68 true (fun q' => binK .geq v71 (.int .i64 (.ofNat 0)) fun v => q' v H72 τ73) H72 τ73 fun v74 H75 τ76 => gK v61 false (fun q' => someK (pPick [v68, v74, (.bool false)]) fun v => q' v H75 τ76) H75 τ76 fun v77 H78 τ79 => gK v61 false (fun q' => q' v77 H78 τ79) H78 τ79 fun v80 H81 τ82 => gK v80 true (fun q' => q' v14 H81 τ82) H81 τ82 fun v83 H84 τ85 =>
    gK v80 true (fun q' => q' v19 H84 τ85) H84 τ85 fun v86 H87 τ88 => gK v80 true (fun q' => binK .gtr v83 v86 fun v => q' v H87 τ88) H87 τ88 fun v89 H90 τ91 => gK v61 false (fun q' => someK (pPick [v80, v89, (.bool false)]) fun v => q' v H90 τ91) H90 τ91 fun v92 H93 τ94 => someK (pPick [v61, (.bool true), v92]) fun v95 => condK v95 (q (.tup [(.int .i64 (.ofNat 0)), (.int .i64 (.ofNat 0)), (.bool false)]) H93 τ94) (q (.tup [v14, v19, (.bool true)]) H93 τ94)
theorem s_headers_Range_eq (call : CallK) (N : Nat) (a0 : V) (H : Heap) (τ : Tape) (q : KV) : s_headers_Range call N a0 H τ q = funK call N fn_headers_Range [a0] H τ q := by kernel_rfl
def e_headers_Range (call : CallK) (N : Nat) (vs : List V) (H : Heap) (τ : Tape) (q : KV) : Ans := match vs with | [a0] => s_headers_Range call N a0 H τ q | _ => none
theorem e_headers_Range_ok : EntOk fn_headers_Range e_headers_Range := by
  intro call N vs H τ q r h
  unfold e_headers_Range at h
  split at h
  · rw [s_headers_Range_eq] at h; exact h
  · cases h
theorem e_headers_Range_nat : EntNat e_headers_Range := by
  intro c hn N vs H τ q
  unfold e_headers_Range
  split
  · rw [s_headers_Range_eq, s_headers_Range_eq]; exact funK_ent hn _ _ _ _ _ _
  · rfl
/-- ostiary/headers.Safe -/
def fn_headers_Safe : Fun := ⟨2, (.seq (.reg [iR 4 (.p .mv) [(.c (.bool false))]]) (.keep [0, 1] (.seq (.seq (.reg [iR 11 (.p .mv) [(.t 1)], iR 12 (.p .lenS) [(.t 11)], iR 13 (.p (.bin .gtr)) [(.t 12), (.c (.int .i64 (.ofNat 128)))]]) (.keep [0, 1, 13] (.cond (.t 13) (.seq (.reg [iR 4 (.p .mv) [(.c (.bool false))]]) (.keep [4] (.keep [4] .ret))) .skip))) (.keep [0, 1] (.seq (.seq (.reg [iR 14 (.p .mv) [(.t 0)], iR 15 (.call 39) [(.t 14)]]) (.keep [1, 15] (.block 0 (.seq (.reg [iR 17 (.p (.bin .eql)) [(.t 15), (.c (.str (bs [97, 99, 99, 101, 112, 116])))], iR 16 (.p .mv) [(.t 17)]]) (.keep [1, 15, 16] (.cond (.t 16) (.seq (.reg [iR 18 (.p .mv) [(.t 1)], iR 19 (.call 40) [(.t 18)], iR 20 (.p (.un .not)) [(.t 19)], iR 4 (.p .mv) [(.t 20)]]) (.keep [4] (.keep [4] .ret)))
    (.seq (.seq (.reg [iR 22 (.p (.bin .eql)) [(.t 15), (.c (.str (bs [97, 99, 99, 101, 112, 116, 45, 108, 97, 110, 103, 117, 97, 103, 101])))], iR 21 (.p .mv) [(.t 22)]]) (.keep [1, 15, 21] (.cond (.t 21) .skip (.reg [iR 23 (.p (.bin .eql)) [(.t 15), (.c (.str (bs [99, 111, 110, 116, 101, 110, 116, 45, 108, 97, 110, 103, 117, 97, 103, 101])))], iR 21 (.p .mv) [(.t 23)]])))) (.keep [1, 15, 21] (.cond (.t 21) (.seq (.reg [iR 24 (.p .mv) [(.t 1)], iR 25 (.call 41) [(.t 24)], iR 4 (.p .mv) [(.t 25)]]) (.keep [4] (.keep [4] .ret))) (.seq (.reg [iR 27 (.p (.bin .eql)) [(.t 15), (.c (.str (bs [99, 111, 110, 116, 101, 110, 116, 45, 116, 121, 112, 101])))], iR 26 (.p .mv) [(.t 27)]]) (.keep [1, 15, 26] (.cond (.t 26) (.seq (.reg [iR 29 (.p .mv) [(.t 1)], iR 30 (.call 37) [(.t 29), (.c (.str (bs [59])))], iR 28 (.p .mv) [(.t 30)], iR 31 (.p (.extract 0)) [(.t 28)],
    iR 32 (.p (.extract 1)) [(.t 28)], iR 33 (.p (.extract 2)) [(.t 28)], iR 5 (.p .mv) [(.t 31)], iR 6 (.p .mv) [(.t 32)], iR 7 (.p .mv) [(.t 33)]]) (.keep [1, 5] (.seq (.reg [iR 34 (.p .mv) [(.t 5)], iR 35 (.call 42) [(.t 34)], iR 36 (.call 39) [(.t 35)]]) (.keep [1, 36] (.block 1 (.seq (.seq (.reg [iR 38 (.p (.bin .eql)) [(.t 36), (.c (.str (bs [97, 112, 112, 108, 105, 99, 97, 116, 105, 111, 110, 47, 120, 45, 119, 119, 119, 45, 102, 111, 114, 109, 45, 117, 114, 108, 101, 110, 99, 111, 100, 101, 100])))], iR 37 (.p .mv) [(.t 38)]]) (.keep [1, 36, 37] (.cond (.t 37) .skip (.seq (.reg [iR 39 (.p (.bin .eql)) [(.t 36), (.c (.str (bs [109, 117, 108, 116, 105, 112, 97, 114, 116, 47, 102, 111, 114, 109, 45, 100, 97, 116, 97])))], iR 37 (.p .mv) [(.t 39)]]) (.keep [1, 36, 37] (.cond (.t 37) .skip
    (.reg [iR 40 (.p (.bin .eql)) [(.t 36), (.c (.str (bs [116, 101, 120, 116, 47, 112, 108, 97, 105, 110])))], iR 37 (.p .mv) [(.t 40)]]))))))) (.keep [1, 37] (.cond (.t 37) (.seq (.reg [iR 41 (.p .mv) [(.t 1)], iR 42 (.call 40) [(.t 41)], iR 43 (.p (.un .not)) [(.t 42)], iR 4 (.p .mv) [(.t 43)]]) (.keep [4] (.keep [4] .ret))) .skip)))))))) (.seq (.reg [iR 45 (.p (.bin .eql)) [(.t 15), (.c (.str (bs [114, 97, 110, 103, 101])))], iR 44 (.p .mv) [(.t 45)]]) (.keep [1, 44] (.cond (.t 44) (.seq (.reg [iR 47 (.p .mv) [(.t 1)], iR 48 (.call 17) [(.t 47)], iR 46 (.p .mv) [(.t 48)], iR 49 (.p (.extract 0)) [(.t 46)], iR 50 (.p (.extract 1)) [(.t 46)], iR 51 (.p (.extract 2)) [(.t 46)], iR 8 (.p .mv) [(.t 49)], iR 9 (.p .mv) [(.t 50)], iR 10 (.p .mv) [(.t 51)]]) (.keep [8, 10] (.seq (.reg [iR 52 (.p .mv) [(.t 10)], iR 53 (.p .mv) [(.t 52)], iG 54 53 true (.p .mv) [(.t 8)],
    iG 55 53 true (.p (.bin .geq)) [(.t 54), (.c (.int .i64 (.ofNat 0)))], iR 56 (.p .pick) [(.t 53), (.t 55), (.c (.bool false))], iR 4 (.p .mv) [(.t 56)]]) (.keep [4] (.keep [4] .ret))))) .skip))))))))))))))) (.keep [] (.seq (.reg [iR 4 (.p .mv) [(.c (.bool false))]]) (.keep [4] (.keep [4] .ret))))))))), [(.t 4)]⟩
def s_headers_Safe_j0 (call : CallK) (N : Nat) (q : KV) (st : St) (τ : Tape) : Ans := match st with
  | ⟨fr, H⟩ => q (.bool false) H τ
def s_headers_Safe_j2 (call : CallK) (N : Nat) (q : KV) (st : St) (τ : Tape) : Ans := match st with
  | ⟨fr, H⟩ => getK fr 1 fun t1 => getK fr 37 fun t37 => condK t37 (call f_headers_unsafe [t1] H τ fun v28 H29 τ30 => unK .not v28 fun v31 => q v31 H29 τ30) (s_headers_Safe_j0 call N q ⟨(T.set (T.set .leaf 1 t1) 37 t37), H⟩ τ)
def s_headers_Safe_j1 (call : CallK) (N : Nat) (q : KV) (st : St) (τ : Tape) : Ans := match st with
  | ⟨fr, H⟩ => getK fr 1 fun t1 => getK fr 15 fun t15 => getK fr 21 fun t21 => condK t21 (call f_headers_tongues [t1] H τ fun v11 H12 τ13 => q v11 H12 τ13) (binK .eql t15 (.str (bs [99, 111, 110, 116, 101, 110, 116, 45, 116, 121, 112, 101])) fun v14 => condK v14 (call f_strings_Cut [t1, (.str (bs [59]))] H τ fun v15 H16 τ17 => someK (pExtract 0 [v15]) fun v18 => someK (pExtract 1 [v15]) fun v19 => someK (pExtract 2 [v15]) fun v20 => call f_infra_Strip [v18] H16 τ17 fun v21 H22 τ23 => call f_infra_Lower [v21] H22 τ23 fun v24 H25 τ26 => binK .eql v24 (.str (bs [97, 112, 112, 108, 105, 99, 97, 116, 105, 111, 110, 47, 120, 45, 119, 119, 119, 45, 102, 111, 114, 109, 45, 117, 114, 108, 101, 110, 99, 111, 100, 101, 100])) fun v27 => condK v27 (s_headers_Safe_j2 call N q ⟨(T.set (T.set (T.set .leaf 1 t1) 36 v24) 37 v27), H25⟩ τ26)
    (binK .eql v24 (.str (bs [109, 117, 108, 116, 105, 112, 97, 114, 116, 47, 102, 111, 114, 109, 45, 100, 97, 116, 97])) fun v32 => condK v32 (s_headers_Safe_j2 call N q ⟨(T.set (T.set (T.set .leaf 1 t1) 36 v24) 37 v32), H25⟩ τ26) (binK .eql v24 (.str (bs [116, 101, 120, 116, 47, 112, 108, 97, 105, 110])) fun v33 => s_headers_Safe_j2 call N q ⟨(T.set (T.set (T.set (T.set (T.set .leaf 1 t1) 36 v24) 37 v32) 40 v33) 37 v33), H25⟩ τ26))) (binK .eql t15 (.str (bs [114, 97, 110, 103, 101])) fun v34 => condK v34 (call f_headers_Range [t1] H τ fun v35 H36 τ37 => someK (pExtract 0 [v35]) fun v38 => someK (pExtract 1 [v35]) fun v39 => someK (pExtract 2 [v35]) fun v40 => gK v40 true (fun q' => q' v38 H36 τ37) H36 τ37 fun v41 H42 τ43 => gK v40 true (fun q' => binK .geq v41 (.int .i64 (.ofNat 0)) fun v => q' v H42 τ43) H42 τ43 fun v44 H45 τ46 => someK (pPick [v40, v44, (.bool false)]) fun v47 =>
    q v47 H45 τ46) (s_headers_Safe_j0 call N q ⟨(T.set (T.set .leaf 1 t1) 44 v34), H⟩ τ)))
def s_headers_Safe (call : CallK) (N : Nat) (a0 a1 : V) (H : Heap) (τ : Tape) (q : KV) : Ans := someK (pLenS [a1]) fun v0 => binK .gtr v0 (.int .i64 (.ofNat 128)) fun v1 => condK v1 (q (.bool false) H τ) (call f_infra_Lower [a0] H τ fun v2 H3 τ4 => binK .eql v2 (.str (bs [97, 99, 99, 101, 112, 116])) fun v5 => condK v5 (call f_headers_unsafe [a1] H3 τ4 fun v6 H7 τ8 => unK .not v6 fun v9 => q v9 H7 τ8) (binK .eql v2 (.str (bs [97, 99, 99, 101, 112, 116, 45, 108, 97, 110, 103, 117, 97, 103, 101])) fun v10 => condK v10 (s_headers_Safe_j1 call N q ⟨(T.set (T.set (T.set .leaf 1 a1) 15 v2) 21 v10), H3⟩ τ4) (binK .eql v2 (.str (bs [99, 111, 110, 116, 101, 110, 116, 45, 108, 97, 110, 103, 117, 97, 103, 101])) fun v48 => s_headers_Safe_j1 call N q ⟨(T.set (T.set (T.set (T.set (T.set .leaf 1 a1) 15 v2) 21 v10) 23 v48) 21 v48), H3⟩ τ4)))
theorem s_headers_Safe_eq (call : CallK) (N : Nat) (a0 a1 : V) (H : Heap) (τ : Tape) (q : KV) : s_headers_Safe call N a0 a1 H τ q = funK call N fn_headers_Safe [a0, a1] H τ q := by kernel_rfl
def e_headers_Safe (call : CallK) (N : Nat) (vs : List V) (H : Heap) (τ : Tape) (q : KV) : Ans := match vs with | [a0, a1] => s_headers_Safe call N a0 a1 H τ q | _ => none
theorem e_headers_Safe_ok : EntOk fn_headers_Safe e_headers_Safe := by
  intro call N vs H τ q r h
  unfold e_headers_Safe at h
  split at h
  · rw [s_headers_Safe_eq] at h; exact h
  · cases h
theorem e_headers_Safe_nat : EntNat e_headers_Safe := by
  intro c hn N vs H τ q
  unfold e_headers_Safe
  split
  · rw [s_headers_Safe_eq, s_headers_Safe_eq]; exact funK_ent hn _ _ _ _ _ _
  · rfl
/-- ostiary/headers.Add -/
def fn_headers_Add : Fun := ⟨3, (.seq (.reg [iR 6 (.p .mv) [(.c .nils)], iR 7 (.p .mv) [(.c (.int .i64 (.ofNat 0)))]]) (.keep [0, 1, 2] (.seq (.reg [iR 11 (.p .mv) [(.t 1)], iR 12 (.p .mv) [(.t 2)], iR 13 (.call 43) [(.t 11), (.t 12)], iR 10 (.p .mv) [(.t 13)], iR 14 (.p (.extract 0)) [(.t 10)], iR 15 (.p (.extract 1)) [(.t 10)], iR 8 (.p .mv) [(.t 14)], iR 9 (.p .mv) [(.t 15)]]) (.keep [0, 1, 8, 9] (.seq (.seq (.reg [iR 16 (.p .mv) [(.t 9)], iR 17 (.p (.bin .eql)) [(.t 16), (.c (.int .i64 (.ofNat 0)))], iR 18 (.p .mv) [(.t 17)], iG 19 18 true (.p .mv) [(.t 0)], iG 20 18 true (.p .len) [(.t 19)], iG 21 18 true (.p (.bin .geq)) [(.t 20), (.c (.int .i64 (.ofNat 64)))], iR 22 (.p .pick) [(.t 18), (.t 21), (.c (.bool false))]]) (.keep [0, 1, 8, 9, 22] (.cond (.t 22) (.reg [iR 9 (.p .mv) [(.c (.int .i64 (.ofNat 4)))]]) .skip))) (.keep [0, 1, 8, 9] (.seq (.seq (.reg [iR 23 (.p .mv) [(.t 9)],
    iR 24 (.p (.bin .neq)) [(.t 23), (.c (.int .i64 (.ofNat 0)))]]) (.keep [0, 1, 8, 9, 24] (.cond (.t 24) (.seq (.reg [iR 25 (.p .mv) [(.t 9)], iR 6 (.p .mv) [(.c .nils)], iR 7 (.p .mv) [(.t 25)]]) (.keep [6, 7] (.keep [6, 7] .ret))) .skip))) (.keep [0, 1, 8] (.seq (.reg [iR 26 (.p .mv) [(.t 0)], iR 27 (.call 44) [(.t 26)], iR 28 (.p .mv) [(.t 1)], iR 29 (.p .mv) [(.t 8)], iR 30 (.p (.build [(.str []), (.str [])] [(0, 1), (1, 1)])) [(.t 28), (.t 29)], iR 31 (.e (.buildSlice 1 2 [(.str []), (.str [])] [(0, 2)])) [(.t 30)], iR 32 (.e (.append 2 32)) [(.t 27), (.t 31)], iR 6 (.p .mv) [(.t 32)], iR 7 (.p .mv) [(.c (.int .i64 (.ofNat 0)))]]) (.keep [6, 7] (.keep [6, 7] .ret))))))))))), [(.t 6), (.t 7)]⟩
def s_headers_Add_j0 (call : CallK) (N : Nat) (q : KV) (st : St) (τ : Tape) : Ans := match st with
  | ⟨fr, H⟩ => getK fr 0 fun t0 => getK fr 1 fun t1 => getK fr 8 fun t8 => getK fr 9 fun t9 => binK .neq t9 (.int .i64 (.ofNat 0)) fun v16 => condK v16 (q (.tup [.nils, t9]) H τ) (call f_slices_Clone_Header [t0] H τ fun v17 H18 τ19 => someK (pBuild [(.str []), (.str [])] [(0, 1), (1, 1)] [t1, t8]) fun v20 => effK (eBuildSlice 1 2 [(.str []), (.str [])] [(0, 2)] [v20] H18 τ19) fun v21 H22 τ23 => effK (eAppend 2 32 [v17, v21] H22 τ23) fun v24 H25 τ26 => q (.tup [v24, (.int .i64 (.ofNat 0))]) H25 τ26)
def s_headers_Add (call : CallK) (N : Nat) (a0 a1 a2 : V) (H : Heap) (τ : Tape) (q : KV) : Ans := call f_headers_may [a1, a2] H τ fun v0 H1 τ2 => someK (pExtract 0 [v0]) fun v3 => someK (pExtract 1 [v0]) fun v4 => binK .eql v4 (.int .i64 (.ofNat 0)) fun v5 => gK v5 true (fun q' => q' a0 H1 τ2) H1 τ2 fun v6 H7 τ8 => gK v5 true (fun q' => someK (pLen [v6]) fun v => q' v H7 τ8) H7 τ8 fun v9 H10 τ11 => gK v5 true (fun q' => binK .geq v9 (.int .i64 (.ofNat 64)) fun v => q' v H10 τ11) H10 τ11 fun v12 H13 τ14 => someK (pPick [v5, v12, (.bool false)]) fun v15 => condK v15 (s_headers_Add_j0 call N q ⟨(T.set (T.set (T.set (T.set (T.set (T.set .leaf 0 a0) 1 a1) 8 v3) 9 v4) 22 v15) 9 (.int .i64 (.ofNat 4))), H13⟩ τ14) (s_headers_Add_j0 call N q ⟨(T.set (T.set (T.set (T.set (T.set .leaf 0 a0) 1 a1) 8 v3) 9 v4) 22 v15), H13⟩ τ14)
theorem s_headers_Add_eq (call : CallK) (N : Nat) (a0 a1 a2 : V) (H : Heap) (τ : Tape) (q : KV) : s_headers_Add call N a0 a1 a2 H τ q = funK call N fn_headers_Add [a0, a1, a2] H τ q := by kernel_rfl
def e_headers_Add (call : CallK) (N : Nat) (vs : List V) (H : Heap) (τ : Tape) (q : KV) : Ans := match vs with | [a0, a1, a2] => s_headers_Add call N a0 a1 a2 H τ q | _ => none
theorem e_headers_Add_ok : EntOk fn_headers_Add e_headers_Add := by
  intro call N vs H τ q r h
  unfold e_headers_Add at h
  split at h
  · rw [s_headers_Add_eq] at h; exact h
  · cases h
theorem e_headers_Add_nat : EntNat e_headers_Add := by
  intro c hn N vs H τ q
  unfold e_headers_Add
  split
  · rw [s_headers_Add_eq, s_headers_Add_eq]; exact funK_ent hn _ _ _ _ _ _
  · rfl
/-- ostiary/headers.Get -/
def fn_headers_Get : Fun := ⟨2, (.seq (.reg [iR 4 (.p .mv) [(.c (.str []))], iR 5 (.p .mv) [(.c (.bool false))]]) (.keep [0, 1] (.seq (.reg [iR 6 (.p .mv) [(.c .nils)]]) (.keep [0, 1, 6] (.seq (.seq (.reg [iR 9 (.p .mv) [(.t 0)], iR 10 (.p .len) [(.t 9)], iR 11 (.p .mv) [(.c (.int .i64 (.ofNat 0)))]]) (.keep [1, 6, 9, 10, 11] (.block 0 (.loop (.keep [1, 6, 9, 10, 11] (.seq (.reg [iR 12 (.p (.bin .lss)) [(.t 11), (.t 10)]]) (.keep [1, 6, 9, 10, 11, 12] (.seq (.cond (.t 12) .skip (.keep [6] (.exit 0))) (.keep [1, 6, 9, 10, 11] (.seq (.block 1 (.seq (.reg [iR 13 (.p (.slIdx 2)) [(.t 9), (.t 11)], iR 14 (.l (.load (some 2))) [(.t 13)], iR 8 (.e (.alloc [(.str []), (.str [])])) [], ⟨none, none, (.e (.store 2)), [(.t 8), (.t 14)], none⟩]) (.keep [1, 6, 8, 9, 10, 11] (.seq (.reg [iR 15 (.l (.load (some 2))) [(.t 8)], iR 16 (.p .mv) [(.t 1)], iR 17 (.call 45) [(.t 15), (.t 16)]])
    (.keep [1, 6, 8, 9, 10, 11, 17] (.cond (.t 17) (.reg [iR 18 (.p .mv) [(.t 6)], iR 19 (.p (.fieldAddr 1)) [(.t 8)], iR 20 (.l (.load none)) [(.t 19)], iR 21 (.e (.buildSlice 1 1 [(.str [])] [(0, 1)])) [(.t 20)], iR 22 (.e (.append 1 16)) [(.t 18), (.t 21)], iR 6 (.p .mv) [(.t 22)]]) .skip)))))) (.keep [1, 6, 9, 10, 11] (.reg [iR 23 (.p (.bin .add)) [(.t 11), (.c (.int .i64 (.ofNat 1)))], iR 11 (.p .mv) [(.t 23)]])))))))))))) (.keep [6] (.seq (.reg [iR 24 (.p .mv) [(.t 6)], iR 25 (.call 46) [(.t 24), (.c (.str (bs [44, 32])))], iR 26 (.p .mv) [(.t 6)], iR 27 (.p .len) [(.t 26)], iR 28 (.p (.bin .gtr)) [(.t 27), (.c (.int .i64 (.ofNat 0)))], iR 4 (.p .mv) [(.t 25)], iR 5 (.p .mv) [(.t 28)]]) (.keep [4, 5] (.keep [4, 5] .ret))))))))), [(.t 4), (.t 5)]⟩
def s_headers_Get_j0 (call : CallK) (N : Nat) (q : KV) (st : St) (τ : Tape) : Ans := match st with
  | ⟨fr, H⟩ => getK fr 6 fun t6 => call f_strings_Join [t6, (.str (bs [44, 32]))] H τ fun v1 H2 τ3 => someK (pLen [t6]) fun v4 => binK .gtr v4 (.int .i64 (.ofNat 0)) fun v5 => q (.tup [v1, v5]) H2 τ3
def s_headers_Get_j2 (call : CallK) (N : Nat) (k : KC) (st : St) (τ : Tape) : Ans := match st with
  | ⟨fr, H⟩ => getK fr 1 fun t1 => getK fr 6 fun t6 => getK fr 9 fun t9 => getK fr 10 fun t10 => getK fr 11 fun t11 => binK .add t11 (.int .i64 (.ofNat 1)) fun v7 => k .normal ⟨(T.set (T.set (T.set (T.set (T.set (T.set (T.set .leaf 1 t1) 6 t6) 9 t9) 10 t10) 11 t11) 23 v7) 11 v7), H⟩ τ
def s_headers_Get_l1 (call : CallK) (N : Nat) (st : St) (τ : Tape) (k : KC) : Ans := match st with
  | ⟨fr, H⟩ => getK fr 1 fun t1 => getK fr 6 fun t6 => getK fr 9 fun t9 => getK fr 10 fun t10 => getK fr 11 fun t11 => binK .lss t11 t10 fun v6 => condK v6 (someK (pSlIdx 2 [t9, t11]) fun v8 => someK (lLoadN 2 [v8] H) fun v9 => effK (eAlloc [(.str []), (.str [])] [] H τ) fun v10 H11 τ12 => effK (eStore 2 [v10, v9] H11 τ12) fun v13 H14 τ15 => someK (lLoadN 2 [v10] H14) fun v16 => call f_headers_is [v16, t1] H14 τ15 fun v17 H18 τ19 => condK v17 (someK (pFieldAddr 1 [v10]) fun v20 => someK (lLoad1 [v20] H18) fun v21 => effK (eBuildSlice 1 1 [(.str [])] [(0, 1)] [v21] H18 τ19) fun v22 H23 τ24 => effK (eAppend 1 16 [t6, v22] H23 τ24) fun v25 H26 τ27 => s_headers_Get_j2 call N k ⟨(T.set (T.set (T.set (T.set (T.set (T.set (T.set (T.set (T.set (T.set (T.set (T.set (T.set .leaf 1 t1) 6 t6) 8 v10) 9 t9) 10 t10) 11 t11) 17 v17) 18 t6) 19 v20) 20 v21) 21 v22) 22 v25) 6 v25), H26⟩ τ27)
    (s_headers_Get_j2 call N k ⟨(T.set (T.set (T.set (T.set (T.set (T.set (T.set .leaf 1 t1) 6 t6) 8 v10) 9 t9) 10 t10) 11 t11) 17 v17), H18⟩ τ19)) (k (.exit 0) ⟨(T.set .leaf 6 t6), H⟩ τ)
def s_headers_Get (call : CallK) (N : Nat) (a0 a1 : V) (H : Heap) (τ : Tape) (q : KV) : Ans := someK (pLen [a0]) fun v0 => loopK (s_headers_Get_l1 call N) N ⟨(T.set (T.set (T.set (T.set (T.set .leaf 1 a1) 6 .nils) 9 a0) 10 v0) 11 (.int .i64 (.ofNat 0))), H⟩ τ (blockK 0 (seqK (s_headers_Get_j0 call N q) (endK [(.t 4), (.t 5)] q)))
theorem s_headers_Get_eq (call : CallK) (N : Nat) (a0 a1 : V) (H : Heap) (τ : Tape) (q : KV) : s_headers_Get call N a0 a1 H τ q = funK call N fn_headers_Get [a0, a1] H τ q := by kernel_rfl
def e_headers_Get (call : CallK) (N : Nat) (vs : List V) (H : Heap) (τ : Tape) (q : KV) : Ans := match vs with | [a0, a1] => s_headers_Get call N a0 a1 H τ q | _ => none
theorem e_headers_Get_ok : EntOk fn_headers_Get e_headers_Get := by
  intro call N vs H τ q r h
  unfold e_headers_Get at h
  split at h
  · rw [s_headers_Get_eq] at h; exact h
  · cases h
theorem e_headers_Get_nat : EntNat e_headers_Get := by
  intro c hn N vs H τ q
  unfold e_headers_Get
  split
  · rw [s_headers_Get_eq, s_headers_Get_eq]; exact funK_ent hn _ _ _ _ _ _
  · rfl
/-- ostiary/headers.Drop -/
def fn_headers_Drop : Fun := ⟨2, (.seq (.reg [iR 3 (.e .box) [(.t 1)], iR 4 (.p .mv) [(.c .nils)]]) (.keep [0, 3] (.seq (.reg [iR 5 (.p .mv) [(.t 0)], iR 6 (.call 44) [(.t 5)], iR 7 (.p (.mkFunc 48 0)) [(.t 3)], iR 8 (.call 47) [(.t 6), (.t 7)], iR 4 (.p .mv) [(.t 8)]]) (.keep [4] (.keep [4] .ret))))), [(.t 4)]⟩
def s_headers_Drop (call : CallK) (N : Nat) (a0 a1 : V) (H : Heap) (τ : Tape) (q : KV) : Ans := effK (eBox [a1] H τ) fun v0 H1 τ2 => call f_slices_Clone_Header [a0] H1 τ2 fun v3 H4 τ5 => someK (some (V.func f_headers_Drop_1 (List.take 0 [v0]) (List.drop 0 [v0]))) fun v6 => call f_slices_DeleteFunc_Header [v3, v6] H4 τ5 fun v7 H8 τ9 => q v7 H8 τ9
theorem s_headers_Drop_eq (call : CallK) (N : Nat) (a0 a1 : V) (H : Heap) (τ : Tape) (q : KV) : s_headers_Drop call N a0 a1 H τ q = funK call N fn_headers_Drop [a0, a1] H τ q := by kernel_rfl
def e_headers_Drop (call : CallK) (N : Nat) (vs : List V) (H : Heap) (τ : Tape) (q : KV) : Ans := match vs with | [a0, a1] => s_headers_Drop call N a0 a1 H τ q | _ => none
theorem e_headers_Drop_ok : EntOk fn_headers_Drop e_headers_Drop := by
  intro call N vs H τ q r h
  unfold e_headers_Drop at h
  split at h
  · rw [s_headers_Drop_eq] at h; exact h
  · cases h
theorem e_headers_Drop_nat : EntNat e_headers_Drop := by
  intro c hn N vs H τ q
  unfold e_headers_Drop
  split
  · rw [s_headers_Drop_eq, s_headers_Drop_eq]; exact funK_ent hn _ _ _ _ _ _
  · rfl
/-- ostiary/ostiarylaw5.long -/
def fn_law5_long : Fun := ⟨1, (.seq (.reg [iR 2 (.p .mv) [(.c (.str []))]]) (.keep [0] (.seq (.reg [iR 5 (.p .mv) [(.t 0)], iR 6 (.e (.makeSlice 1 1 [(.int .u8 (.ofNat 0))])) [(.t 5), (.t 5)], iR 3 (.p .mv) [(.t 6)]]) (.keep [0, 3] (.seq (.seq (.reg [iR 4 (.p .mv) [(.c (.int .i64 (.ofNat 0)))]]) (.keep [0, 3, 4] (.block 0 (.loop (.keep [0, 3, 4] (.seq (.seq (.reg [iR 7 (.p .mv) [(.t 4)], iR 8 (.p .mv) [(.t 0)], iR 9 (.p (.bin .lss)) [(.t 7), (.t 8)]]) (.keep [0, 3, 4, 9] (.cond (.t 9) .skip (.keep [3] (.exit 0))))) (.keep [0, 3, 4] (.seq (.block 1 (.reg [iR 12 (.p .mv) [(.t 3)], iR 13 (.p .mv) [(.t 4)], iR 14 (.p (.slIdx 1)) [(.t 12), (.t 13)], ⟨none, none, (.e (.store 1)), [(.t 14), (.c (.int .u8 (.ofNat 97)))], none⟩])) (.keep [0, 3, 4] (.reg [iR 10 (.p .mv) [(.t 4)], iR 11 (.p (.bin .add)) [(.t 10), (.c (.int .i64 (.ofNat 1)))], iR 4 (.p .mv) [(.t 11)]]))))))))))
    (.keep [3] (.seq (.reg [iR 15 (.p .mv) [(.t 3)], iR 16 (.l .bytesStr) [(.t 15)], iR 2 (.p .mv) [(.t 16)]]) (.keep [2] (.keep [2] .ret))))))))), [(.t 2)]⟩
def s_law5_long_j0 (call : CallK) (N : Nat) (q : KV) (st : St) (τ : Tape) : Ans := match st with
  | ⟨fr, H⟩ => getK fr 3 fun t3 => someK (lBytesStr [t3] H) fun v3 => q v3 H τ
def s_law5_long_l1 (call : CallK) (N : Nat) (st : St) (τ : Tape) (k : KC) : Ans := match st with
  | ⟨fr, H⟩ => getK fr 0 fun t0 => getK fr 3 fun t3 => getK fr 4 fun t4 => binK .lss t4 t0 fun v4 => condK v4 (someK (pSlIdx 1 [t3, t4]) fun v5 => effK (eStore 1 [v5, (.int .u8 (.ofNat 97))] H τ) fun v6 H7 τ8 => binK .add t4 (.int .i64 (.ofNat 1)) fun v9 => k .normal ⟨(T.set (T.set (T.set (T.set (T.set (T.set .leaf 0 t0) 3 t3) 4 t4) 10 t4) 11 v9) 4 v9), H7⟩ τ8) (k (.exit 0) ⟨(T.set .leaf 3 t3), H⟩ τ)
def s_law5_long (call : CallK) (N : Nat) (a0 : V) (H : Heap) (τ : Tape) (q : KV) : Ans := effK (eMakeSlice 1 1 [(.int .u8 (.ofNat 0))] [a0, a0] H τ) fun v0 H1 τ2 => loopK (s_law5_long_l1 call N) N ⟨(T.set (T.set (T.set .leaf 0 a0) 3 v0) 4 (.int .i64 (.ofNat 0))), H1⟩ τ2 (blockK 0 (seqK (s_law5_long_j0 call N q) (endK [(.t 2)] q)))
theorem s_law5_long_eq (call : CallK) (N : Nat) (a0 : V) (H : Heap) (τ : Tape) (q : KV) : s_law5_long call N a0 H τ q = funK call N fn_law5_long [a0] H τ q := by kernel_rfl
def e_law5_long (call : CallK) (N : Nat) (vs : List V) (H : Heap) (τ : Tape) (q : KV) : Ans := match vs with | [a0] => s_law5_long call N a0 H τ q | _ => none
theorem e_law5_long_ok : EntOk fn_law5_long e_law5_long := by
  intro call N vs H τ q r h
  unfold e_law5_long at h
  split at h
  · rw [s_law5_long_eq] at h; exact h
  · cases h
theorem e_law5_long_nat : EntNat e_law5_long := by
  intro c hn N vs H τ q
  unfold e_law5_long
  split
  · rw [s_law5_long_eq, s_law5_long_eq]; exact funK_ent hn _ _ _ _ _ _
  · rfl
/-- ostiary/headers.Set -/
def fn_headers_Set : Fun := ⟨3, (.seq (.reg [iR 4 (.e .box) [(.t 1)], iR 6 (.p .mv) [(.c .nils)], iR 7 (.p .mv) [(.c (.int .i64 (.ofNat 0)))]]) (.keep [0, 2, 4] (.seq (.reg [iR 14 (.p .mv) [(.t 0)], iR 15 (.p (.mkFunc 50 0)) [(.t 4)], iR 16 (.call 49) [(.t 14), (.t 15)], iR 8 (.p .mv) [(.t 16)]]) (.keep [0, 2, 4, 8] (.seq (.seq (.reg [iR 17 (.p .mv) [(.t 8)], iR 18 (.p (.bin .lss)) [(.t 17), (.c (.int .i64 (.ofNat 0)))]]) (.keep [0, 2, 4, 8, 18] (.cond (.t 18) (.seq (.reg [iR 19 (.p .mv) [(.t 0)], iR 20 (.l (.load none)) [(.t 4)], iR 21 (.p .mv) [(.t 2)], iR 22 (.call 19) [(.t 19), (.t 20), (.t 21)], iR 23 (.p (.extract 0)) [(.t 22)], iR 24 (.p (.extract 1)) [(.t 22)], iR 6 (.p .mv) [(.t 23)], iR 7 (.p .mv) [(.t 24)]]) (.keep [6, 7] (.keep [6, 7] .ret))) .skip))) (.keep [0, 2, 4, 8] (.seq (.reg [iR 26 (.l (.load none)) [(.t 4)], iR 27 (.p .mv) [(.t 2)],
    iR 28 (.call 43) [(.t 26), (.t 27)], iR 25 (.p .mv) [(.t 28)], iR 29 (.p (.extract 0)) [(.t 25)], iR 30 (.p (.extract 1)) [(.t 25)], iR 9 (.p .mv) [(.t 29)], iR 10 (.p .mv) [(.t 30)]]) (.keep [0, 4, 8, 9, 10] (.seq (.seq (.reg [iR 31 (.p .mv) [(.t 10)], iR 32 (.p (.bin .neq)) [(.t 31), (.c (.int .i64 (.ofNat 0)))]]) (.keep [0, 4, 8, 9, 10, 32] (.cond (.t 32) (.seq (.reg [iR 33 (.p .mv) [(.t 10)], iR 6 (.p .mv) [(.c .nils)], iR 7 (.p .mv) [(.t 33)]]) (.keep [6, 7] (.keep [6, 7] .ret))) .skip))) (.keep [0, 4, 8, 9] (.seq (.reg [iR 11 (.p .mv) [(.c .nils)]]) (.keep [0, 4, 8, 9, 11] (.seq (.seq (.reg [iR 34 (.p .mv) [(.t 0)], iR 35 (.p .len) [(.t 34)], iR 36 (.p .mv) [(.c (.int .i64 (.ofNat 0)))]]) (.keep [4, 8, 9, 11, 34, 35, 36] (.block 0 (.loop (.keep [4, 8, 9, 11, 34, 35, 36] (.seq (.reg [iR 37 (.p (.bin .lss)) [(.t 36), (.t 35)]])
    (.keep [4, 8, 9, 11, 34, 35, 36, 37] (.seq (.cond (.t 37) .skip (.keep [11] (.exit 0))) (.keep [4, 8, 9, 11, 34, 35, 36] (.seq (.block 1 (.seq (.reg [iR 38 (.p .mv) [(.t 36)], iR 39 (.p (.slIdx 2)) [(.t 34), (.t 36)], iR 40 (.l (.load (some 2))) [(.t 39)], iR 13 (.e (.alloc [(.str []), (.str [])])) [], iR 12 (.p .mv) [(.t 38)], ⟨none, none, (.e (.store 2)), [(.t 13), (.t 40)], none⟩]) (.keep [4, 8, 9, 11, 12, 13, 34, 35, 36] (.block 2 (.seq (.reg [iR 42 (.p .mv) [(.t 12)], iR 43 (.p .mv) [(.t 8)], iR 44 (.p (.bin .eql)) [(.t 42), (.t 43)], iR 41 (.p .mv) [(.t 44)]]) (.keep [4, 8, 9, 11, 13, 34, 35, 36, 41] (.cond (.t 41) (.reg [iR 45 (.p .mv) [(.t 11)], iR 46 (.p (.fieldAddr 0)) [(.t 13)], iR 47 (.l (.load none)) [(.t 46)], iR 48 (.p .mv) [(.t 9)], iR 49 (.p (.build [(.str []), (.str [])] [(0, 1), (1, 1)])) [(.t 47), (.t 48)],
    iR 50 (.e (.buildSlice 1 2 [(.str []), (.str [])] [(0, 2)])) [(.t 49)], iR 51 (.e (.append 2 32)) [(.t 45), (.t 50)], iR 11 (.p .mv) [(.t 51)]]) (.seq (.reg [iR 53 (.l (.load (some 2))) [(.t 13)], iR 54 (.l (.load none)) [(.t 4)], iR 55 (.call 45) [(.t 53), (.t 54)], iR 56 (.p (.un .not)) [(.t 55)], iR 52 (.p .mv) [(.t 56)]]) (.keep [4, 8, 9, 11, 13, 34, 35, 36, 52] (.cond (.t 52) (.reg [iR 57 (.p .mv) [(.t 11)], iR 58 (.l (.load (some 2))) [(.t 13)], iR 59 (.e (.buildSlice 1 2 [(.str []), (.str [])] [(0, 2)])) [(.t 58)], iR 60 (.e (.append 2 32)) [(.t 57), (.t 59)], iR 11 (.p .mv) [(.t 60)]]) .skip)))))))))) (.keep [4, 8, 9, 11, 34, 35, 36] (.reg [iR 61 (.p (.bin .add)) [(.t 36), (.c (.int .i64 (.ofNat 1)))], iR 36 (.p .mv) [(.t 61)]])))))))))))) (.keep [11] (.seq (.reg [iR 62 (.p .mv) [(.t 11)], iR 6 (.p .mv) [(.t 62)], iR 7 (.p .mv) [(.c (.int .i64 (.ofNat 0)))]])
    (.keep [6, 7] (.keep [6, 7] .ret))))))))))))))))), [(.t 6), (.t 7)]⟩
def s_headers_Set_j0 (call : CallK) (N : Nat) (q : KV) (st : St) (τ : Tape) : Ans := match st with
  | ⟨fr, H⟩ => getK fr 11 fun t11 => q (.tup [t11, (.int .i64 (.ofNat 0))]) H τ
def s_headers_Set_j2 (call : CallK) (N : Nat) (k : KC) (st : St) (τ : Tape) : Ans := match st with
  | ⟨fr, H⟩ => getK fr 4 fun t4 => getK fr 8 fun t8 => getK fr 9 fun t9 => getK fr 11 fun t11 => getK fr 34 fun t34 => getK fr 35 fun t35 => getK fr 36 fun t36 => binK .add t36 (.int .i64 (.ofNat 1)) fun v23 => k .normal ⟨(T.set (T.set (T.set (T.set (T.set (T.set (T.set (T.set (T.set .leaf 4 t4) 8 t8) 9 t9) 11 t11) 34 t34) 35 t35) 36 t36) 61 v23) 36 v23), H⟩ τ
def s_headers_Set_l1 (call : CallK) (N : Nat) (st : St) (τ : Tape) (k : KC) : Ans := match st with
  | ⟨fr, H⟩ => getK fr 4 fun t4 => getK fr 8 fun t8 => getK fr 9 fun t9 => getK fr 11 fun t11 => getK fr 34 fun t34 => getK fr 35 fun t35 => getK fr 36 fun t36 => binK .lss t36 t35 fun v22 => condK v22 (someK (pSlIdx 2 [t34, t36]) fun v24 => someK (lLoadN 2 [v24] H) fun v25 => effK (eAlloc [(.str []), (.str [])] [] H τ) fun v26 H27 τ28 => effK (eStore 2 [v26, v25] H27 τ28) fun v29 H30 τ31 => binK .eql t36 t8 fun v32 => condK v32 (someK (pFieldAddr 0 [v26]) fun v33 => someK (lLoad1 [v33] H30) fun v34 => someK (pBuild [(.str []), (.str [])] [(0, 1), (1, 1)] [v34, t9]) fun v35 => effK (eBuildSlice 1 2 [(.str []), (.str [])] [(0, 2)] [v35] H30 τ31) fun v36 H37 τ38 => effK (eAppend 2 32 [t11, v36] H37 τ38) fun v39 H40 τ41 =>
    s_headers_Set_j2 call N k ⟨(T.set (T.set (T.set (T.set (T.set (T.set (T.set (T.set (T.set (T.set (T.set (T.set (T.set (T.set (T.set (T.set (T.set .leaf 4 t4) 8 t8) 9 t9) 11 t11) 13 v26) 34 t34) 35 t35) 36 t36) 41 v32) 45 t11) 46 v33) 47 v34) 48 t9) 49 v35) 50 v36) 51 v39) 11 v39), H40⟩ τ41) (someK (lLoadN 2 [v26] H30) fun v42 => someK (lLoad1 [t4] H30) fun v43 => call f_headers_is [v42, v43] H30 τ31 fun v44 H45 τ46 => unK .not v44 fun v47 => condK v47 (someK (lLoadN 2 [v26] H45) fun v48 => effK (eBuildSlice 1 2 [(.str []), (.str [])] [(0, 2)] [v48] H45 τ46) fun v49 H50 τ51 => effK (eAppend 2 32 [t11, v49] H50 τ51) fun v52 H53 τ54 => s_headers_Set_j2 call N k ⟨(T.set (T.set (T.set (T.set (T.set (T.set (T.set (T.set (T.set (T.set (T.set (T.set (T.set (T.set .leaf 4 t4) 8 t8) 9 t9) 11 t11) 13 v26) 34 t34) 35 t35) 36 t36) 52 v47) 57 t11) 58 v48) 59 v49) 60 v52) 11 v52), H53⟩ τ54)
    (s_headers_Set_j2 call N k ⟨(T.set (T.set (T.set (T.set (T.set (T.set (T.set (T.set (T.set .leaf 4 t4) 8 t8) 9 t9) 11 t11) 13 v26) 34 t34) 35 t35) 36 t36) 52 v47), H45⟩ τ46))) (k (.exit 0) ⟨(T.set .leaf 11 t11), H⟩ τ)
def s_headers_Set (call : CallK) (N : Nat) (a0 a1 a2 : V) (H : Heap) (τ : Tape) (q : KV) : Ans := effK (eBox [a1] H τ) fun v0 H1 τ2 => someK (some (V.func f_headers_Set_1 (List.take 0 [v0]) (List.drop 0 [v0]))) fun v3 => call f_slices_IndexFunc_Header [a0, v3] H1 τ2 fun v4 H5 τ6 => binK .lss v4 (.int .i64 (.ofNat 0)) fun v7 => condK v7 (someK (lLoad1 [v0] H5) fun v8 => call f_headers_Add [a0, v8, a2] H5 τ6 fun v9 H10 τ11 => someK (pExtract 0 [v9]) fun v12 => someK (pExtract 1 [v9]) fun v13 => q (.tup [v12, v13]) H10 τ11) (someK (lLoad1 [v0] H5) fun v14 => call f_headers_may [v14, a2] H5 τ6 fun v15 H16 τ17 => someK (pExtract 0 [v15]) fun v18 => someK (pExtract 1 [v15]) fun v19 => binK .neq v19 (.int .i64 (.ofNat 0)) fun v20 => condK v20 (q (.tup [.nils, v19]) H16 τ17) (someK (pLen [a0]) fun v21 =>
    loopK (s_headers_Set_l1 call N) N ⟨(T.set (T.set (T.set (T.set (T.set (T.set (T.set .leaf 4 v0) 8 v4) 9 v18) 11 .nils) 34 a0) 35 v21) 36 (.int .i64 (.ofNat 0))), H16⟩ τ17 (blockK 0 (seqK (s_headers_Set_j0 call N q) (endK [(.t 6), (.t 7)] q)))))
theorem s_headers_Set_eq (call : CallK) (N : Nat) (a0 a1 a2 : V) (H : Heap) (τ : Tape) (q : KV) : s_headers_Set call N a0 a1 a2 H τ q = funK call N fn_headers_Set [a0, a1, a2] H τ q := by kernel_rfl
def e_headers_Set (call : CallK) (N : Nat) (vs : List V) (H : Heap) (τ : Tape) (q : KV) : Ans := match vs with | [a0, a1, a2] => s_headers_Set call N a0 a1 a2 H τ q | _ => none
theorem e_headers_Set_ok : EntOk fn_headers_Set e_headers_Set := by
  intro call N vs H τ q r h
  unfold e_headers_Set at h
  split at h
  · rw [s_headers_Set_eq] at h; exact h
  · cases h
theorem e_headers_Set_nat : EntNat e_headers_Set := by
  intro c hn N vs H τ q
  unfold e_headers_Set
  split
  · rw [s_headers_Set_eq, s_headers_Set_eq]; exact funK_ent hn _ _ _ _ _ _
  · rfl
/-- ostiary/ostiarybook.Same[ostiary/api.Header] -/
def fn_book_Same_Header : Fun := ⟨2, (.seq (.reg [iR 4 (.p .mv) [(.c (.bool false))]]) (.keep [0, 1] (.seq (.seq (.reg [iR 6 (.p .mv) [(.t 0)], iR 7 (.p .len) [(.t 6)], iR 8 (.p .mv) [(.t 1)], iR 9 (.p .len) [(.t 8)], iR 10 (.p (.bin .neq)) [(.t 7), (.t 9)]]) (.keep [0, 1, 10] (.cond (.t 10) (.seq (.reg [iR 4 (.p .mv) [(.c (.bool false))]]) (.keep [4] (.keep [4] .ret))) .skip))) (.keep [0, 1] (.seq (.seq (.reg [iR 5 (.p .mv) [(.c (.int .i64 (.ofNat 0)))]]) (.keep [0, 1, 5] (.block 0 (.loop (.keep [0, 1, 5] (.seq (.seq (.reg [iR 11 (.p .mv) [(.t 5)], iR 12 (.p .mv) [(.t 0)], iR 13 (.p .len) [(.t 12)], iR 14 (.p (.bin .lss)) [(.t 11), (.t 13)]]) (.keep [0, 1, 5, 14] (.cond (.t 14) .skip (.keep [] (.exit 0))))) (.keep [0, 1, 5] (.seq (.block 1 (.seq (.draw [iR 17 (.p .mv) [(.t 0)], iR 18 (.p .mv) [(.t 5)], iR 19 (.p (.slIdx 2)) [(.t 17), (.t 18)],
    iR 20 (.l (.load (some 2))) [(.t 19)], iR 21 (.p .mv) [(.t 1)], iR 22 (.p .mv) [(.t 5)], iR 23 (.p (.slIdx 2)) [(.t 21), (.t 22)], iR 24 (.l (.load (some 2))) [(.t 23)], iR 25 (.p (.eq true (.flat [.str, .str]))) [(.t 20), (.t 24)]]) (.keep [0, 1, 5, 25] (.cond (.t 25) (.seq (.reg [iR 4 (.p .mv) [(.c (.bool false))]]) (.keep [4] (.keep [4] .ret))) .skip)))) (.keep [0, 1, 5] (.reg [iR 15 (.p .mv) [(.t 5)], iR 16 (.p (.bin .add)) [(.t 15), (.c (.int .i64 (.ofNat 1)))], iR 5 (.p .mv) [(.t 16)]])))))))))) (.keep [] (.seq (.reg [iR 4 (.p .mv) [(.c (.bool true))]]) (.keep [4] (.keep [4] .ret))))))))), [(.t 4)]⟩
def s_book_Same_Header_j0 (call : CallK) (N : Nat) (q : KV) (st : St) (τ : Tape) : Ans := match st with
  | ⟨fr, H⟩ => q (.bool true) H τ
def s_book_Same_Header_l1 (call : CallK) (N : Nat) (st : St) (τ : Tape) (k : KC) : Ans := match st with
  | ⟨fr, H⟩ => getK fr 0 fun t0 => getK fr 1 fun t1 => getK fr 5 fun t5 => someK (pLen [t0]) fun v3 => binK .lss t5 v3 fun v4 => condK v4 (someK (pSlIdx 2 [t0, t5]) fun v5 => someK (lLoadN 2 [v5] H) fun v6 => someK (pSlIdx 2 [t1, t5]) fun v7 => someK (lLoadN 2 [v7] H) fun v8 => someK (pEq true (.flat [.str, .str]) [v6, v8]) fun v9 => condK v9 (k .ret ⟨(T.set .leaf 4 (.bool false)), H⟩ τ) (binK .add t5 (.int .i64 (.ofNat 1)) fun v10 => k .normal ⟨(T.set (T.set (T.set (T.set (T.set (T.set .leaf 0 t0) 1 t1) 5 t5) 15 t5) 16 v10) 5 v10), H⟩ τ)) (k (.exit 0) ⟨.leaf, H⟩ τ)
def s_book_Same_Header (call : CallK) (N : Nat) (a0 a1 : V) (H : Heap) (τ : Tape) (q : KV) : Ans := someK (pLen [a0]) fun v0 => someK (pLen [a1]) fun v1 => binK .neq v0 v1 fun v2 => condK v2 (q (.bool false) H τ) (loopK (s_book_Same_Header_l1 call N) N ⟨(T.set (T.set (T.set .leaf 0 a0) 1 a1) 5 (.int .i64 (.ofNat 0))), H⟩ τ (blockK 0 (seqK (s_book_Same_Header_j0 call N q) (endK [(.t 4)] q))))
theorem s_book_Same_Header_eq (call : CallK) (N : Nat) (a0 a1 : V) (H : Heap) (τ : Tape) (q : KV) : s_book_Same_Header call N a0 a1 H τ q = funK call N fn_book_Same_Header [a0, a1] H τ q := by kernel_rfl
def e_book_Same_Header (call : CallK) (N : Nat) (vs : List V) (H : Heap) (τ : Tape) (q : KV) : Ans := match vs with | [a0, a1] => s_book_Same_Header call N a0 a1 H τ q | _ => none
theorem e_book_Same_Header_ok : EntOk fn_book_Same_Header e_book_Same_Header := by
  intro call N vs H τ q r h
  unfold e_book_Same_Header at h
  split at h
  · rw [s_book_Same_Header_eq] at h; exact h
  · cases h
theorem e_book_Same_Header_nat : EntNat e_book_Same_Header := by
  intro c hn N vs H τ q
  unfold e_book_Same_Header
  split
  · rw [s_book_Same_Header_eq, s_book_Same_Header_eq]; exact funK_ent hn _ _ _ _ _ _
  · rfl
/-- ostiary/headers.Forbidden -/
def fn_headers_Forbidden : Fun := ⟨1, (.seq (.reg [iR 2 (.p .mv) [(.c (.bool false))]]) (.keep [0] (.seq (.reg [iR 3 (.p .mv) [(.t 0)], iR 4 (.call 39) [(.t 3)], iR 0 (.p .mv) [(.t 4)]]) (.keep [0] (.seq (.seq (.reg [iR 5 (.p .mv) [(.t 0)]]) (.keep [0, 5] (.block 0 (.seq (.seq (.reg [iR 7 (.p (.bin .eql)) [(.t 5), (.c (.str (bs [104, 111, 115, 116])))], iR 6 (.p .mv) [(.t 7)]]) (.keep [0, 5, 6] (.cond (.t 6) .skip (.seq (.reg [iR 8 (.p (.bin .eql)) [(.t 5), (.c (.str (bs [99, 111, 111, 107, 105, 101])))], iR 6 (.p .mv) [(.t 8)]]) (.keep [0, 5, 6] (.cond (.t 6) .skip (.seq (.reg [iR 9 (.p (.bin .eql)) [(.t 5), (.c (.str (bs [111, 114, 105, 103, 105, 110])))], iR 6 (.p .mv) [(.t 9)]]) (.keep [0, 5, 6] (.cond (.t 6) .skip (.seq (.reg [iR 10 (.p (.bin .eql)) [(.t 5), (.c (.str (bs [114, 101, 102, 101, 114, 101, 114])))], iR 6 (.p .mv) [(.t 10)]]) (.keep [0, 5, 6] (.cond (.t 6) .skip
    (.seq (.reg [iR 11 (.p (.bin .eql)) [(.t 5), (.c (.str (bs [99, 111, 110, 116, 101, 110, 116, 45, 108, 101, 110, 103, 116, 104])))], iR 6 (.p .mv) [(.t 11)]]) (.keep [0, 5, 6] (.cond (.t 6) .skip (.seq (.reg [iR 12 (.p (.bin .eql)) [(.t 5), (.c (.str (bs [99, 111, 110, 110, 101, 99, 116, 105, 111, 110])))], iR 6 (.p .mv) [(.t 12)]]) (.keep [0, 5, 6] (.cond (.t 6) .skip (.seq (.reg [iR 13 (.p (.bin .eql)) [(.t 5), (.c (.str (bs [100, 97, 116, 101])))], iR 6 (.p .mv) [(.t 13)]]) (.keep [0, 5, 6] (.cond (.t 6) .skip (.seq (.reg [iR 14 (.p (.bin .eql)) [(.t 5), (.c (.str (bs [118, 105, 97])))], iR 6 (.p .mv) [(.t 14)]]) (.keep [0, 5, 6] (.cond (.t 6) .skip (.seq (.reg [iR 15 (.p (.bin .eql)) [(.t 5), (.c (.str (bs [116, 101])))], iR 6 (.p .mv) [(.t 15)]]) (.keep [0, 5, 6] (.cond (.t 6) .skip
    (.seq (.reg [iR 16 (.p (.bin .eql)) [(.t 5), (.c (.str (bs [117, 112, 103, 114, 97, 100, 101])))], iR 6 (.p .mv) [(.t 16)]]) (.keep [0, 5, 6] (.cond (.t 6) .skip (.seq (.reg [iR 17 (.p (.bin .eql)) [(.t 5), (.c (.str (bs [101, 120, 112, 101, 99, 116])))], iR 6 (.p .mv) [(.t 17)]]) (.keep [0, 5, 6] (.cond (.t 6) .skip (.seq (.reg [iR 18 (.p (.bin .eql)) [(.t 5), (.c (.str (bs [100, 110, 116])))], iR 6 (.p .mv) [(.t 18)]]) (.keep [0, 5, 6] (.cond (.t 6) .skip (.seq (.reg [iR 19 (.p (.bin .eql)) [(.t 5), (.c (.str (bs [97, 99, 99, 101, 112, 116, 45, 99, 104, 97, 114, 115, 101, 116])))], iR 6 (.p .mv) [(.t 19)]]) (.keep [0, 5, 6] (.cond (.t 6) .skip (.seq (.reg [iR 20 (.p (.bin .eql)) [(.t 5), (.c (.str (bs [97, 99, 99, 101, 112, 116, 45, 101, 110, 99, 111, 100, 105, 110, 103])))], iR 6 (.p .mv) [(.t 20)]]) (.keep [0, 5, 6] (.cond (.t 6) .skip
    (.seq (.reg [iR 21 (.p (.bin .eql)) [(.t 5), (.c (.str (bs [97, 99, 99, 101, 115, 115, 45, 99, 111, 110, 116, 114, 111, 108, 45, 114, 101, 113, 117, 101, 115, 116, 45, 104, 101, 97, 100, 101, 114, 115])))], iR 6 (.p .mv) [(.t 21)]]) (.keep [0, 5, 6] (.cond (.t 6) .skip (.seq (.reg [iR 22 (.p (.bin .eql)) [(.t 5), (.c (.str (bs [97, 99, 99, 101, 115, 115, 45, 99, 111, 110, 116, 114, 111, 108, 45, 114, 101, 113, 117, 101, 115, 116, 45, 109, 101, 116, 104, 111, 100])))], iR 6 (.p .mv) [(.t 22)]]) (.keep [0, 5, 6] (.cond (.t 6) .skip (.seq (.reg [iR 23 (.p (.bin .eql)) [(.t 5), (.c (.str (bs [107, 101, 101, 112, 45, 97, 108, 105, 118, 101])))], iR 6 (.p .mv) [(.t 23)]]) (.keep [0, 5, 6] (.cond (.t 6) .skip (.seq (.reg [iR 24 (.p (.bin .eql)) [(.t 5), (.c (.str (bs [116, 114, 97, 105, 108, 101, 114])))], iR 6 (.p .mv) [(.t 24)]]) (.keep [0, 5, 6] (.cond (.t 6) .skip
    (.reg [iR 25 (.p (.bin .eql)) [(.t 5), (.c (.str (bs [116, 114, 97, 110, 115, 102, 101, 114, 45, 101, 110, 99, 111, 100, 105, 110, 103])))], iR 6 (.p .mv) [(.t 25)]]))))))))))))))))))))))))))))))))))))))))))))))))))))))) (.keep [0, 6] (.cond (.t 6) (.seq (.reg [iR 2 (.p .mv) [(.c (.bool true))]]) (.keep [2] (.keep [2] .ret))) .skip)))))) (.keep [0] (.seq (.reg [iR 26 (.p .mv) [(.t 0)], iR 27 (.call 51) [(.t 26), (.c (.str (bs [112, 114, 111, 120, 121, 45])))], iR 28 (.p .mv) [(.t 27)], iG 29 28 false (.p .mv) [(.t 0)], iG 30 28 false (.call 51) [(.t 29), (.c (.str (bs [115, 101, 99, 45])))], iR 31 (.p .pick) [(.t 28), (.c (.bool true)), (.t 30)], iR 2 (.p .mv) [(.t 31)]]) (.keep [2] (.keep [2] .ret))))))))), [(.t 2)]⟩
def s_headers_Forbidden_j0 (call : CallK) (N : Nat) (q : KV) (st : St) (τ : Tape) : Ans := match st with
  | ⟨fr, H⟩ => getK fr 0 fun t0 => call f_strings_HasPrefix [t0, (.str (bs [112, 114, 111, 120, 121, 45]))] H τ fun v4 H5 τ6 => gK v4 false (fun q' => q' t0 H5 τ6) H5 τ6 fun v7 H8 τ9 => gK v4 false (fun q' => call f_strings_HasPrefix [v7, (.str (bs [115, 101, 99, 45]))] H8 τ9 q') H8 τ9 fun v10 H11 τ12 => someK (pPick [v4, (.bool true), v10]) fun v13 => q v13 H11 τ12
def s_headers_Forbidden_j1 (call : CallK) (N : Nat) (q : KV) (st : St) (τ : Tape) : Ans := match st with
  | ⟨fr, H⟩ => getK fr 0 fun t0 => getK fr 6 fun t6 => condK t6 (q (.bool true) H τ) (s_headers_Forbidden_j0 call N q ⟨(T.set (T.set .leaf 0 t0) 6 t6), H⟩ τ)
def s_headers_Forbidden (call : CallK) (N : Nat) (a0 : V) (H : Heap) (τ : Tape) (q : KV) : Ans := call f_infra_Lower [a0] H τ fun v0 H1 τ2 => binK .eql v0 (.str (bs [104, 111, 115, 116])) fun v3 => condK v3 (s_headers_Forbidden_j1 call N q ⟨(T.set (T.set (T.set .leaf 0 v0) 5 v0) 6 v3), H1⟩ τ2) (binK .eql v0 (.str (bs [99, 111, 111, 107, 105, 101])) fun v14 => condK v14 (s_headers_Forbidden_j1 call N q ⟨(T.set (T.set (T.set .leaf 0 v0) 5 v0) 6 v14), H1⟩ τ2) (binK .eql v0 (.str (bs [111, 114, 105, 103, 105, 110])) fun v15 => condK v15 (s_headers_Forbidden_j1 call N q ⟨(T.set (T.set (T.set .leaf 0 v0) 5 v0) 6 v15), H1⟩ τ2) (binK .eql v0 (.str (bs [114, 101, 102, 101, 114, 101, 114])) fun v16 => condK v16 (s_headers_Forbidden_j1 call N q ⟨(T.set (T.set (T.set .leaf 0 v0) 5 v0) 6 v16), H1⟩ τ2)
    (binK .eql v0 (.str (bs [99, 111, 110, 116, 101, 110, 116, 45, 108, 101, 110, 103, 116, 104])) fun v17 => condK v17 (s_headers_Forbidden_j1 call N q ⟨(T.set (T.set (T.set .leaf 0 v0) 5 v0) 6 v17), H1⟩ τ2) (binK .eql v0 (.str (bs [99, 111, 110, 110, 101, 99, 116, 105, 111, 110])) fun v18 => condK v18 (s_headers_Forbidden_j1 call N q ⟨(T.set (T.set (T.set .leaf 0 v0) 5 v0) 6 v18), H1⟩ τ2) (binK .eql v0 (.str (bs [100, 97, 116, 101])) fun v19 => condK v19 (s_headers_Forbidden_j1 call N q ⟨(T.set (T.set (T.set .leaf 0 v0) 5 v0) 6 v19), H1⟩ τ2) (binK .eql v0 (.str (bs [118, 105, 97])) fun v20 => condK v20 (s_headers_Forbidden_j1 call N q ⟨(T.set (T.set (T.set .leaf 0 v0) 5 v0) 6 v20), H1⟩ τ2) (binK .eql v0 (.str (bs [116, 101])) fun v21 => condK v21 (s_headers_Forbidden_j1 call N q ⟨(T.set (T.set (T.set .leaf 0 v0) 5 v0) 6 v21), H1⟩ τ2)
    (binK .eql v0 (.str (bs [117, 112, 103, 114, 97, 100, 101])) fun v22 => condK v22 (s_headers_Forbidden_j1 call N q ⟨(T.set (T.set (T.set .leaf 0 v0) 5 v0) 6 v22), H1⟩ τ2) (binK .eql v0 (.str (bs [101, 120, 112, 101, 99, 116])) fun v23 => condK v23 (s_headers_Forbidden_j1 call N q ⟨(T.set (T.set (T.set .leaf 0 v0) 5 v0) 6 v23), H1⟩ τ2) (binK .eql v0 (.str (bs [100, 110, 116])) fun v24 => condK v24 (s_headers_Forbidden_j1 call N q ⟨(T.set (T.set (T.set .leaf 0 v0) 5 v0) 6 v24), H1⟩ τ2) (binK .eql v0 (.str (bs [97, 99, 99, 101, 112, 116, 45, 99, 104, 97, 114, 115, 101, 116])) fun v25 => condK v25 (s_headers_Forbidden_j1 call N q ⟨(T.set (T.set (T.set .leaf 0 v0) 5 v0) 6 v25), H1⟩ τ2) (binK .eql v0 (.str (bs [97, 99, 99, 101, 112, 116, 45, 101, 110, 99, 111, 100, 105, 110, 103])) fun v26 => condK v26
    (s_headers_Forbidden_j1 call N q ⟨(T.set (T.set (T.set .leaf 0 v0) 5 v0) 6 v26), H1⟩ τ2) (binK .eql v0 (.str (bs [97, 99, 99, 101, 115, 115, 45, 99, 111, 110, 116, 114, 111, 108, 45, 114, 101, 113, 117, 101, 115, 116, 45, 104, 101, 97, 100, 101, 114, 115])) fun v27 => condK v27 (s_headers_Forbidden_j1 call N q ⟨(T.set (T.set (T.set .leaf 0 v0) 5 v0) 6 v27), H1⟩ τ2) (binK .eql v0 (.str (bs [97, 99, 99, 101, 115, 115, 45, 99, 111, 110, 116, 114, 111, 108, 45, 114, 101, 113, 117, 101, 115, 116, 45, 109, 101, 116, 104, 111, 100])) fun v28 => condK v28 (s_headers_Forbidden_j1 call N q ⟨(T.set (T.set (T.set .leaf 0 v0) 5 v0) 6 v28), H1⟩ τ2) (binK .eql v0 (.str (bs [107, 101, 101, 112, 45, 97, 108, 105, 118, 101])) fun v29 => condK v29 (s_headers_Forbidden_j1 call N q ⟨(T.set (T.set (T.set .leaf 0 v0) 5 v0) 6 v29), H1⟩ τ2)
    (binK .eql v0 (.str (bs [116, 114, 97, 105, 108, 101, 114])) fun v30 => condK v30 (s_headers_Forbidden_j1 call N q ⟨(T.set (T.set (T.set .leaf 0 v0) 5 v0) 6 v30), H1⟩ τ2) (binK .eql v0 (.str (bs [116, 114, 97, 110, 115, 102, 101, 114, 45, 101, 110, 99, 111, 100, 105, 110, 103])) fun v31 => s_headers_Forbidden_j1 call N q ⟨(T.set (T.set (T.set (T.set (T.set .leaf 0 v0) 5 v0) 6 v30) 25 v31) 6 v31), H1⟩ τ2))))))))))))))))))
theorem s_headers_Forbidden_eq (call : CallK) (N : Nat) (a0 : V) (H : Heap) (τ : Tape) (q : KV) : s_headers_Forbidden call N a0 H τ q = funK call N fn_headers_Forbidden [a0] H τ q := by kernel_rfl
def e_headers_Forbidden (call : CallK) (N : Nat) (vs : List V) (H : Heap) (τ : Tape) (q : KV) : Ans := match vs with | [a0] => s_headers_Forbidden call N a0 H τ q | _ => none
theorem e_headers_Forbidden_ok : EntOk fn_headers_Forbidden e_headers_Forbidden := by
  intro call N vs H τ q r h
  unfold e_headers_Forbidden at h
  split at h
  · rw [s_headers_Forbidden_eq] at h; exact h
  · cases h
theorem e_headers_Forbidden_nat : EntNat e_headers_Forbidden := by
  intro c hn N vs H τ q
  unfold e_headers_Forbidden
  split
  · rw [s_headers_Forbidden_eq, s_headers_Forbidden_eq]; exact funK_ent hn _ _ _ _ _ _
  · rfl
/-- ostiary/ostiarykeep.FewHeaders -/
def fn_keep_FewHeaders : Fun := ⟨3, (.seq (.reg [iR 6 (.p .mv) [(.c .nils)]]) (.keep [0, 1, 2] (.seq (.reg [iR 7 (.p .mv) [(.c .nils)]]) (.keep [0, 1, 2, 7] (.seq (.seq (.reg [iR 8 (.p .mv) [(.c (.int .i64 (.ofNat 0)))]]) (.keep [0, 1, 2, 7, 8] (.block 0 (.loop (.keep [0, 1, 2, 7, 8] (.seq (.seq (.reg [iR 9 (.p .mv) [(.t 8)], iR 10 (.p .mv) [(.t 0)], iR 11 (.p .len) [(.t 10)], iR 12 (.p (.bin .lss)) [(.t 9), (.t 11)], iR 13 (.p .mv) [(.t 12)], iG 14 13 true (.p .mv) [(.t 8)], iG 15 13 true (.p .mv) [(.t 1)], iG 16 13 true (.p (.bin .lss)) [(.t 14), (.t 15)], iR 17 (.p .pick) [(.t 13), (.t 16), (.c (.bool false))]]) (.keep [0, 1, 2, 7, 8, 17] (.cond (.t 17) .skip (.keep [7] (.exit 0))))) (.keep [0, 1, 2, 7, 8] (.seq (.block 1 (.draw [iR 20 (.p .mv) [(.t 7)], iR 21 (.p .mv) [(.t 0)], iR 22 (.p .mv) [(.t 8)], iR 23 (.p (.slIdx 2)) [(.t 21), (.t 22)],
    iR 24 (.p (.fieldAddr 0)) [(.t 23)], iR 25 (.l (.load none)) [(.t 24)], iR 26 (.p .mv) [(.t 2)], iR 27 (.call 53) [(.t 25), (.t 26)], iR 28 (.p .mv) [(.t 0)], iR 29 (.p .mv) [(.t 8)], iR 30 (.p (.slIdx 2)) [(.t 28), (.t 29)], iR 31 (.p (.fieldAddr 1)) [(.t 30)], ⟨(some 32), none, (.l (.load none)), [(.t 31)], some (0, 1)⟩, iR 33 (.p .mv) [(.t 2)], iR 34 (.call 53) [(.t 32), (.t 33)], iR 35 (.p (.build [(.str []), (.str [])] [(0, 1), (1, 1)])) [(.t 27), (.t 34)], iR 36 (.e (.buildSlice 1 2 [(.str []), (.str [])] [(0, 2)])) [(.t 35)], iR 37 (.e (.append 2 32)) [(.t 20), (.t 36)], iR 7 (.p .mv) [(.t 37)]])) (.keep [0, 1, 2, 7, 8] (.reg [iR 18 (.p .mv) [(.t 8)], iR 19 (.p (.bin .add)) [(.t 18), (.c (.int .i64 (.ofNat 1)))], iR 8 (.p .mv) [(.t 19)]])))))))))) (.keep [7] (.seq (.reg [iR 38 (.p .mv) [(.t 7)], iR 6 (.p .mv) [(.t 38)]]) (.keep [6] (.keep [6] .ret))))))))), [(.t 6)]⟩
def s_keep_FewHeaders_j0 (call : CallK) (N : Nat) (q : KV) (st : St) (τ : Tape) : Ans := match st with
  | ⟨fr, H⟩ => getK fr 7 fun t7 => q t7 H τ
def s_keep_FewHeaders_l1 (call : CallK) (N : Nat) (st : St) (τ : Tape) (k : KC) : Ans := match st with
  | ⟨fr, H⟩ => getK fr 0 fun t0 => getK fr 1 fun t1 => getK fr 2 fun t2 => getK fr 7 fun t7 => getK fr 8 fun t8 => someK (pLen [t0]) fun v0 => binK .lss t8 v0 fun v1 => gK v1 true (fun q' => q' t8 H τ) H τ fun v2 H3 τ4 => gK v1 true (fun q' => q' t1 H3 τ4) H3 τ4 fun v5 H6 τ7 => gK v1 true (fun q' => binK .lss v2 v5 fun v => q' v H6 τ7) H6 τ7 fun v8 H9 τ10 => someK (pPick [v1, v8, (.bool false)]) fun v11 => condK v11 (someK (pSlIdx 2 [t0, t8]) fun v12 => someK (pFieldAddr 0 [v12]) fun v13 => someK (lLoad1 [v13] H9) fun v14 => call f_keep_Few [v14, t2] H9 τ10 fun v15 H16 τ17 => someK (pSlIdx 2 [t0, t8]) fun v18 => someK (pFieldAddr 1 [v18]) fun v19 => someK (lLoad1 [v19] H16) fun v20 => call f_keep_Few [v20, t2] H16 τ17 fun v21 H22 τ23 => someK (pBuild [(.str []), (.str [])] [(0, 1), (1, 1)] [v15, v21]) fun v24 =>
    effK (eBuildSlice 1 2 [(.str []), (.str [])] [(0, 2)] [v24] H22 τ23) fun v25 H26 τ27 => effK (eAppend 2 32 [t7, v25] H26 τ27) fun v28 H29 τ30 => bif chkLoads [H9, H16, H22, H26, H29] (((.load none), [v19], 0, 1) :: []) then binK .add t8 (.int .i64 (.ofNat 1)) fun v31 => k .normal ⟨(T.set (T.set (T.set (T.set (T.set (T.set (T.set (T.set .leaf 0 t0) 1 t1) 2 t2) 7 v28) 8 t8) 18 t8) 19 v31) 8 v31), H29⟩ τ30 else none) (k (.exit 0) ⟨(T.set .leaf 7 t7), H9⟩ τ10)
def s_keep_FewHeaders (call : CallK) (N : Nat) (a0 a1 a2 : V) (H : Heap) (τ : Tape) (q : KV) : Ans := loopK (s_keep_FewHeaders_l1 call N) N ⟨(T.set (T.set (T.set (T.set (T.set .leaf 0 a0) 1 a1) 2 a2) 7 .nils) 8 (.int .i64 (.ofNat 0))), H⟩ τ (blockK 0 (seqK (s_keep_FewHeaders_j0 call N q) (endK [(.t 6)] q)))
theorem s_keep_FewHeaders_eq (call : CallK) (N : Nat) (a0 a1 a2 : V) (H : Heap) (τ : Tape) (q : KV) : s_keep_FewHeaders call N a0 a1 a2 H τ q = funK call N fn_keep_FewHeaders [a0, a1, a2] H τ q := by kernel_rfl
def e_keep_FewHeaders (call : CallK) (N : Nat) (vs : List V) (H : Heap) (τ : Tape) (q : KV) : Ans := match vs with | [a0, a1, a2] => s_keep_FewHeaders call N a0 a1 a2 H τ q | _ => none
theorem e_keep_FewHeaders_ok : EntOk fn_keep_FewHeaders e_keep_FewHeaders := by
  intro call N vs H τ q r h
  unfold e_keep_FewHeaders at h
  split at h
  · rw [s_keep_FewHeaders_eq] at h; exact h
  · cases h
theorem e_keep_FewHeaders_nat : EntNat e_keep_FewHeaders := by
  intro c hn N vs H τ q
  unfold e_keep_FewHeaders
  split
  · rw [s_keep_FewHeaders_eq, s_keep_FewHeaders_eq]; exact funK_ent hn _ _ _ _ _ _
  · rfl
/-- ostiary/headers.Value -/
def fn_headers_Value : Fun := ⟨1, (.seq (.reg [iR 2 (.p .mv) [(.c (.str []))], iR 3 (.p .mv) [(.c (.bool false))]]) (.keep [0] (.seq (.reg [iR 4 (.p .mv) [(.t 0)], iR 5 (.call 35) [(.t 4), (.c (.str (bs [9, 10, 13, 32])))], iR 0 (.p .mv) [(.t 5)]]) (.keep [0] (.seq (.seq (.reg [iR 6 (.p .mv) [(.t 0)], iR 7 (.call 54) [(.t 6), (.c (.str (bs [0, 10, 13])))]]) (.keep [0, 7] (.cond (.t 7) (.seq (.reg [iR 2 (.p .mv) [(.c (.str []))], iR 3 (.p .mv) [(.c (.bool false))]]) (.keep [2, 3] (.keep [2, 3] .ret))) .skip))) (.keep [0] (.seq (.reg [iR 8 (.p .mv) [(.t 0)], iR 2 (.p .mv) [(.t 8)], iR 3 (.p .mv) [(.c (.bool true))]]) (.keep [2, 3] (.keep [2, 3] .ret))))))))), [(.t 2), (.t 3)]⟩
def s_headers_Value (call : CallK) (N : Nat) (a0 : V) (H : Heap) (τ : Tape) (q : KV) : Ans := call f_strings_Trim [a0, (.str (bs [9, 10, 13, 32]))] H τ fun v0 H1 τ2 => call f_strings_ContainsAny [v0, (.str (bs [0, 10, 13]))] H1 τ2 fun v3 H4 τ5 => condK v3 (q (.tup [(.str []), (.bool false)]) H4 τ5) (q (.tup [v0, (.bool true)]) H4 τ5)
theorem s_headers_Value_eq (call : CallK) (N : Nat) (a0 : V) (H : Heap) (τ : Tape) (q : KV) : s_headers_Value call N a0 H τ q = funK call N fn_headers_Value [a0] H τ q := by kernel_rfl
def e_headers_Value (call : CallK) (N : Nat) (vs : List V) (H : Heap) (τ : Tape) (q : KV) : Ans := match vs with | [a0] => s_headers_Value call N a0 H τ q | _ => none
theorem e_headers_Value_ok : EntOk fn_headers_Value e_headers_Value := by
  intro call N vs H τ q r h
  unfold e_headers_Value at h
  split at h
  · rw [s_headers_Value_eq] at h; exact h
  · cases h
theorem e_headers_Value_nat : EntNat e_headers_Value := by
  intro c hn N vs H τ q
  unfold e_headers_Value
  split
  · rw [s_headers_Value_eq, s_headers_Value_eq]; exact funK_ent hn _ _ _ _ _ _
  · rfl
/-- ostiary/ostiaryref5.Named -/
def fn_ref5_Named : Fun := ⟨2, (.seq (.reg [iR 2 (.e .box) [(.t 0)], iR 4 (.p .mv) [(.c (.bool false))]]) (.keep [1, 2] (.seq (.reg [iR 5 (.p (.fieldAddr 0)) [(.t 2)], iR 6 (.l (.load none)) [(.t 5)], iR 7 (.call 55) [(.t 6)], iR 8 (.p .mv) [(.t 1)], iR 9 (.call 55) [(.t 8)], iR 10 (.p (.bin .eql)) [(.t 7), (.t 9)], iR 4 (.p .mv) [(.t 10)]]) (.keep [4] (.keep [4] .ret))))), [(.t 4)]⟩
def s_ref5_Named (call : CallK) (N : Nat) (a0 a1 : V) (H : Heap) (τ : Tape) (q : KV) : Ans := effK (eBox [a0] H τ) fun v0 H1 τ2 => someK (pFieldAddr 0 [v0]) fun v3 => someK (lLoad1 [v3] H1) fun v4 => call f_ref1_Lower [v4] H1 τ2 fun v5 H6 τ7 => call f_ref1_Lower [a1] H6 τ7 fun v8 H9 τ10 => binK .eql v5 v8 fun v11 => q v11 H9 τ10
theorem s_ref5_Named_eq (call : CallK) (N : Nat) (a0 a1 : V) (H : Heap) (τ : Tape) (q : KV) : s_ref5_Named call N a0 a1 H τ q = funK call N fn_ref5_Named [a0, a1] H τ q := by kernel_rfl
def e_ref5_Named (call : CallK) (N : Nat) (vs : List V) (H : Heap) (τ : Tape) (q : KV) : Ans := match vs with | [a0, a1] => s_ref5_Named call N a0 a1 H τ q | _ => none
theorem e_ref5_Named_ok : EntOk fn_ref5_Named e_ref5_Named := by
  intro call N vs H τ q r h
  unfold e_ref5_Named at h
  split at h
  · rw [s_ref5_Named_eq] at h; exact h
  · cases h
theorem e_ref5_Named_nat : EntNat e_ref5_Named := by
  intro c hn N vs H τ q
  unfold e_ref5_Named
  split
  · rw [s_ref5_Named_eq, s_ref5_Named_eq]; exact funK_ent hn _ _ _ _ _ _
  · rfl
/-- strings.Trim -/
def fn_strings_Trim : Fun := ⟨2, (.seq (.reg [iR 4 (.p .mv) [(.c (.str []))]]) (.keep [0, 1] (.seq (.seq (.reg [iR 7 (.p .mv) [(.t 0)], iR 8 (.p (.bin .eql)) [(.t 7), (.c (.str []))], iR 9 (.p .mv) [(.t 8)], iG 10 9 false (.p .mv) [(.t 1)], iG 11 9 false (.p (.bin .eql)) [(.t 10), (.c (.str []))], iR 12 (.p .pick) [(.t 9), (.c (.bool true)), (.t 11)]]) (.keep [0, 1, 12] (.cond (.t 12) (.seq (.reg [iR 13 (.p .mv) [(.t 0)], iR 4 (.p .mv) [(.t 13)]]) (.keep [4] (.keep [4] .ret))) .skip))) (.keep [0, 1] (.seq (.seq (.reg [iR 14 (.p .mv) [(.t 1)], iR 15 (.p .lenS) [(.t 14)], iR 16 (.p (.bin .eql)) [(.t 15), (.c (.int .i64 (.ofNat 1)))], iR 17 (.p .mv) [(.t 16)], iG 18 17 true (.p .mv) [(.t 1)], iG 19 17 true (.p .strIndex) [(.t 18), (.c (.int .i64 (.ofNat 0)))], iG 20 17 true (.p (.bin .lss)) [(.t 19), (.c (.int .u8 (.ofNat 128)))],
    iR 21 (.p .pick) [(.t 17), (.t 20), (.c (.bool false))]]) (.keep [0, 1, 21] (.cond (.t 21) (.seq (.draw [iR 22 (.p .mv) [(.t 0)], iR 23 (.p .mv) [(.t 1)], iR 24 (.p .strIndex) [(.t 23), (.c (.int .i64 (.ofNat 0)))], iR 25 (.call 59) [(.t 22), (.t 24)], iR 26 (.p .mv) [(.t 1)], iR 27 (.p .strIndex) [(.t 26), (.c (.int .i64 (.ofNat 0)))], iR 28 (.call 58) [(.t 25), (.t 27)], iR 4 (.p .mv) [(.t 28)]]) (.keep [4] (.keep [4] .ret))) .skip))) (.keep [0, 1] (.seq (.seq (.reg [iR 30 (.p .mv) [(.t 1)], iR 31 (.call 60) [(.t 30)], iR 29 (.p .mv) [(.t 31)], iR 32 (.p (.extract 0)) [(.t 29)], iR 33 (.p (.extract 1)) [(.t 29)], iR 5 (.e (.alloc (repl 256 [(.bool false)]))) [], ⟨none, none, (.e (.store 256)), [(.t 5), (.t 32)], none⟩, iR 6 (.p .mv) [(.t 33)]]) (.keep [0, 1, 5, 6] (.seq (.reg [iR 34 (.p .mv) [(.t 6)]]) (.keep [0, 1, 5, 34] (.cond (.t 34) (.seq (.reg [iR 35 (.p .mv) [(.t 0)],
    iR 36 (.call 62) [(.t 35), (.t 5)], iR 37 (.call 61) [(.t 36), (.t 5)], iR 4 (.p .mv) [(.t 37)]]) (.keep [4] (.keep [4] .ret))) .skip))))) (.keep [0, 1] (.seq (.reg [iR 38 (.p .mv) [(.t 0)], iR 39 (.p .mv) [(.t 1)], iR 40 (.call 64) [(.t 38), (.t 39)], iR 41 (.p .mv) [(.t 1)], iR 42 (.call 63) [(.t 40), (.t 41)], iR 4 (.p .mv) [(.t 42)]]) (.keep [4] (.keep [4] .ret))))))))))), [(.t 4)]⟩
def s_strings_Trim (call : CallK) (N : Nat) (a0 a1 : V) (H : Heap) (τ : Tape) (q : KV) : Ans := binK .eql a0 (.str []) fun v0 => gK v0 false (fun q' => q' a1 H τ) H τ fun v1 H2 τ3 => gK v0 false (fun q' => binK .eql v1 (.str []) fun v => q' v H2 τ3) H2 τ3 fun v4 H5 τ6 => someK (pPick [v0, (.bool true), v4]) fun v7 => condK v7 (q a0 H5 τ6) (someK (pLenS [a1]) fun v8 => binK .eql v8 (.int .i64 (.ofNat 1)) fun v9 => gK v9 true (fun q' => q' a1 H5 τ6) H5 τ6 fun v10 H11 τ12 => gK v9 true (fun q' => someK (pStrIndex [v10, (.int .i64 (.ofNat 0))]) fun v => q' v H11 τ12) H11 τ12 fun v13 H14 τ15 => gK v9 true (fun q' => binK .lss v13 (.int .u8 (.ofNat 128)) fun v => q' v H14 τ15) H14 τ15 fun v16 H17 τ18 => someK (pPick [v9, v16, (.bool false)]) fun v19 => condK v19 (someK (pStrIndex [a1, (.int .i64 (.ofNat 0))]) fun v20 => call f_strings_trimRightByte [a0, v20] H17 τ18 fun v21 H22 τ23 =>
    someK (pStrIndex [a1, (.int .i64 (.ofNat 0))]) fun v24 => call f_strings_trimLeftByte [v21, v24] H22 τ23 fun v25 H26 τ27 => q v25 H26 τ27) (call f_strings_makeASCIISet [a1] H17 τ18 fun v28 H29 τ30 => someK (pExtract 0 [v28]) fun v31 => someK (pExtract 1 [v28]) fun v32 => effK (eAlloc (repl 256 [(.bool false)]) [] H29 τ30) fun v33 H34 τ35 => effK (eStore 256 [v33, v31] H34 τ35) fun v36 H37 τ38 => condK v32 (call f_strings_trimRightASCII [a0, v33] H37 τ38 fun v39 H40 τ41 => call f_strings_trimLeftASCII [v39, v33] H40 τ41 fun v42 H43 τ44 => q v42 H43 τ44) (call f_strings_trimRightUnicode [a0, a1] H37 τ38 fun v45 H46 τ47 => call f_strings_trimLeftUnicode [v45, a1] H46 τ47 fun v48 H49 τ50 => q v48 H49 τ50)))
theorem s_strings_Trim_eq (call : CallK) (N : Nat) (a0 a1 : V) (H : Heap) (τ : Tape) (q : KV) : s_strings_Trim call N a0 a1 H τ q = funK call N fn_strings_Trim [a0, a1] H τ q := by kernel_rfl
def e_strings_Trim (call : CallK) (N : Nat) (vs : List V) (H : Heap) (τ : Tape) (q : KV) : Ans := match vs with | [a0, a1] => s_strings_Trim call N a0 a1 H τ q | _ => none
theorem e_strings_Trim_ok : EntOk fn_strings_Trim e_strings_Trim := by
  intro call N vs H τ q r h
  unfold e_strings_Trim at h
  split at h
  · rw [s_strings_Trim_eq] at h; exact h
  · cases h
theorem e_strings_Trim_nat : EntNat e_strings_Trim := by
  intro c hn N vs H τ q
  unfold e_strings_Trim
  split
  · rw [s_strings_Trim_eq, s_strings_Trim_eq]; exact funK_ent hn _ _ _ _ _ _
  · rfl
/-- strings.CutPrefix -/
def fn_strings_CutPrefix : Fun := ⟨2, (.seq (.reg [iR 4 (.p .mv) [(.c (.str []))], iR 5 (.p .mv) [(.c (.bool false))]]) (.keep [0, 1] (.seq (.reg [iR 6 (.p .mv) [(.t 0)], iR 7 (.p .mv) [(.t 1)], iR 8 (.call 65) [(.t 6), (.t 7)], iR 9 (.p (.extract 0)) [(.t 8)], iR 10 (.p (.extract 1)) [(.t 8)], iR 4 (.p .mv) [(.t 9)], iR 5 (.p .mv) [(.t 10)]]) (.keep [4, 5] (.keep [4, 5] .ret))))), [(.t 4), (.t 5)]⟩
def s_strings_CutPrefix (call : CallK) (N : Nat) (a0 a1 : V) (H : Heap) (τ : Tape) (q : KV) : Ans := call f_stringslite_CutPrefix [a0, a1] H τ fun v0 H1 τ2 => someK (pExtract 0 [v0]) fun v3 => someK (pExtract 1 [v0]) fun v4 => q (.tup [v3, v4]) H1 τ2
theorem s_strings_CutPrefix_eq (call : CallK) (N : Nat) (a0 a1 : V) (H : Heap) (τ : Tape) (q : KV) : s_strings_CutPrefix call N a0 a1 H τ q = funK call N fn_strings_CutPrefix [a0, a1] H τ q := by kernel_rfl
def e_strings_CutPrefix (call : CallK) (N : Nat) (vs : List V) (H : Heap) (τ : Tape) (q : KV) : Ans := match vs with | [a0, a1] => s_strings_CutPrefix call N a0 a1 H τ q | _ => none
theorem e_strings_CutPrefix_ok : EntOk fn_strings_CutPrefix e_strings_CutPrefix := by
  intro call N vs H τ q r h
  unfold e_strings_CutPrefix at h
  split at h
  · rw [s_strings_CutPrefix_eq] at h; exact h
  · cases h
theorem e_strings_CutPrefix_nat : EntNat e_strings_CutPrefix := by
  intro c hn N vs H τ q
  unfold e_strings_CutPrefix
  split
  · rw [s_strings_CutPrefix_eq, s_strings_CutPrefix_eq]; exact funK_ent hn _ _ _ _ _ _
  · rfl
/-- strings.Cut -/
def fn_strings_Cut : Fun := ⟨2, (.seq (.reg [iR 4 (.p .mv) [(.c (.str []))], iR 5 (.p .mv) [(.c (.str []))], iR 6 (.p .mv) [(.c (.bool false))]]) (.keep [0, 1] (.seq (.reg [iR 7 (.p .mv) [(.t 0)], iR 8 (.p .mv) [(.t 1)], iR 9 (.call 66) [(.t 7), (.t 8)], iR 10 (.p (.extract 0)) [(.t 9)], iR 11 (.p (.extract 1)) [(.t 9)], iR 12 (.p (.extract 2)) [(.t 9)], iR 4 (.p .mv) [(.t 10)], iR 5 (.p .mv) [(.t 11)], iR 6 (.p .mv) [(.t 12)]]) (.keep [4, 5, 6] (.keep [4, 5, 6] .ret))))), [(.t 4), (.t 5), (.t 6)]⟩
def s_strings_Cut (call : CallK) (N : Nat) (a0 a1 : V) (H : Heap) (τ : Tape) (q : KV) : Ans := call f_stringslite_Cut [a0, a1] H τ fun v0 H1 τ2 => someK (pExtract 0 [v0]) fun v3 => someK (pExtract 1 [v0]) fun v4 => someK (pExtract 2 [v0]) fun v5 => q (.tup [v3, v4, v5]) H1 τ2
theorem s_strings_Cut_eq (call : CallK) (N : Nat) (a0 a1 : V) (H : Heap) (τ : Tape) (q : KV) : s_strings_Cut call N a0 a1 H τ q = funK call N fn_strings_Cut [a0, a1] H τ q := by kernel_rfl
def e_strings_Cut (call : CallK) (N : Nat) (vs : List V) (H : Heap) (τ : Tape) (q : KV) : Ans := match vs with | [a0, a1] => s_strings_Cut call N a0 a1 H τ q | _ => none
theorem e_strings_Cut_ok : EntOk fn_strings_Cut e_strings_Cut := by
  intro call N vs H τ q r h
  unfold e_strings_Cut at h
  split at h
  · rw [s_strings_Cut_eq] at h; exact h
  · cases h
theorem e_strings_Cut_nat : EntNat e_strings_Cut := by
  intro c hn N vs H τ q
  unfold e_strings_Cut
  split
  · rw [s_strings_Cut_eq, s_strings_Cut_eq]; exact funK_ent hn _ _ _ _ _ _
  · rfl
/-- ostiary/headers.told -/
def fn_headers_told : Fun := ⟨1, (.seq (.reg [iR 2 (.p .mv) [(.c (.int .i64 (.ofNat 0)))], iR 3 (.p .mv) [(.c (.bool false))]]) (.keep [0] (.seq (.seq (.reg [iR 4 (.p .mv) [(.t 0)], iR 5 (.p (.bin .eql)) [(.t 4), (.c (.str []))]]) (.keep [0, 5] (.cond (.t 5) (.seq (.reg [iR 2 (.p .mv) [(.c (.int .i64 (.negSucc 0)))], iR 3 (.p .mv) [(.c (.bool true))]]) (.keep [2, 3] (.keep [2, 3] .ret))) .skip))) (.keep [0] (.seq (.reg [iR 6 (.p .mv) [(.t 0)], iR 7 (.call 67) [(.t 6)], iR 8 (.p (.extract 0)) [(.t 7)], iR 9 (.p (.extract 1)) [(.t 7)], iR 2 (.p .mv) [(.t 8)], iR 3 (.p .mv) [(.t 9)]]) (.keep [2, 3] (.keep [2, 3] .ret))))))), [(.t 2), (.t 3)]⟩
def s_headers_told (call : CallK) (N : Nat) (a0 : V) (H : Heap) (τ : Tape) (q : KV) : Ans := binK .eql a0 (.str []) fun v0 => condK v0 (q (.tup [(.int .i64 (.negSucc 0)), (.bool true)]) H τ) (call f_infra_Int [a0] H τ fun v1 H2 τ3 => someK (pExtract 0 [v1]) fun v4 => someK (pExtract 1 [v1]) fun v5 => q (.tup [v4, v5]) H2 τ3)
theorem s_headers_told_eq (call : CallK) (N : Nat) (a0 : V) (H : Heap) (τ : Tape) (q : KV) : s_headers_told call N a0 H τ q = funK call N fn_headers_told [a0] H τ q := by kernel_rfl
def e_headers_told (call : CallK) (N : Nat) (vs : List V) (H : Heap) (τ : Tape) (q : KV) : Ans := match vs with | [a0] => s_headers_told call N a0 H τ q | _ => none
theorem e_headers_told_ok : EntOk fn_headers_told e_headers_told := by
  intro call N vs H τ q r h
  unfold e_headers_told at h
  split at h
  · rw [s_headers_told_eq] at h; exact h
  · cases h
theorem e_headers_told_nat : EntNat e_headers_told := by
  intro c hn N vs H τ q
  unfold e_headers_told
  split
  · rw [s_headers_told_eq, s_headers_told_eq]; exact funK_ent hn _ _ _ _ _ _
  · rfl
/-- ostiary/infra.Lower -/
def fn_infra_Lower : Fun := ⟨1, (.seq (.reg [iR 2 (.p .mv) [(.c (.str []))]]) (.keep [0] (.seq (.reg [iR 3 (.p .mv) [(.t 0)], iR 4 (.call 68) [(.t 3), (.c (.func 69 [] []))], iR 2 (.p .mv) [(.t 4)]]) (.keep [2] (.keep [2] .ret))))), [(.t 2)]⟩
def s_infra_Lower (call : CallK) (N : Nat) (a0 : V) (H : Heap) (τ : Tape) (q : KV) : Ans := call f_infra_mapped [a0, (.func f_infra_Lower_1 [] [])] H τ fun v0 H1 τ2 => q v0 H1 τ2
theorem s_infra_Lower_eq (call : CallK) (N : Nat) (a0 : V) (H : Heap) (τ : Tape) (q : KV) : s_infra_Lower call N a0 H τ q = funK call N fn_infra_Lower [a0] H τ q := by kernel_rfl
def e_infra_Lower (call : CallK) (N : Nat) (vs : List V) (H : Heap) (τ : Tape) (q : KV) : Ans := match vs with | [a0] => s_infra_Lower call N a0 H τ q | _ => none
theorem e_infra_Lower_ok : EntOk fn_infra_Lower e_infra_Lower := by
  intro call N vs H τ q r h
  unfold e_infra_Lower at h
  split at h
  · rw [s_infra_Lower_eq] at h; exact h
  · cases h
theorem e_infra_Lower_nat : EntNat e_infra_Lower := by
  intro c hn N vs H τ q
  unfold e_infra_Lower
  split
  · rw [s_infra_Lower_eq, s_infra_Lower_eq]; exact funK_ent hn _ _ _ _ _ _
  · rfl
/-- ostiary/headers.un-safe -/
def fn_headers_unsafe : Fun := ⟨1, (.seq (.reg [iR 2 (.p .mv) [(.c (.bool false))]]) (.keep [0] (.seq (.seq (.reg [iR 5 (.p .mv) [(.t 0)], iR 6 (.p .lenS) [(.t 5)], iR 7 (.p .mv) [(.c (.int .i64 (.ofNat 0)))]]) (.keep [0, 6, 7] (.block 0 (.loop (.keep [0, 6, 7] (.seq (.reg [iR 8 (.p (.bin .lss)) [(.t 7), (.t 6)]]) (.keep [0, 6, 7, 8] (.seq (.cond (.t 8) .skip (.keep [] (.exit 0))) (.keep [0, 6, 7] (.seq (.block 1 (.seq (.reg [iR 9 (.p .mv) [(.t 7)], iR 3 (.p .mv) [(.t 9)]]) (.keep [0, 3, 6, 7] (.seq (.reg [iR 10 (.p .mv) [(.t 0)], iR 11 (.p .mv) [(.t 3)], iR 12 (.p .strIndex) [(.t 10), (.t 11)], iR 4 (.p .mv) [(.t 12)]]) (.keep [0, 4, 6, 7] (.seq (.reg [iR 13 (.p .mv) [(.t 4)], iR 14 (.p (.bin .lss)) [(.t 13), (.c (.int .u8 (.ofNat 32)))], iR 15 (.p .mv) [(.t 14)], iG 16 15 true (.p .mv) [(.t 4)], iG 17 15 true (.p (.bin .neq)) [(.t 16), (.c (.int .u8 (.ofNat 9)))],
    iR 18 (.p .pick) [(.t 15), (.t 17), (.c (.bool false))], iR 19 (.p .mv) [(.t 18)], iG 20 19 false (.p .mv) [(.t 4)], iG 21 19 false (.p (.bin .eql)) [(.t 20), (.c (.int .u8 (.ofNat 127)))], iR 22 (.p .pick) [(.t 19), (.c (.bool true)), (.t 21)], iR 23 (.p .mv) [(.t 22)], iG 24 23 false (.p .mv) [(.t 4)], iG 25 23 false (.call 70) [(.c (.str (bs [34, 40, 41, 58, 60, 62, 63, 64, 91, 92, 93, 123, 125]))), (.t 24)], iG 26 23 false (.p (.bin .geq)) [(.t 25), (.c (.int .i64 (.ofNat 0)))], iR 27 (.p .pick) [(.t 23), (.c (.bool true)), (.t 26)]]) (.keep [0, 6, 7, 27] (.cond (.t 27) (.seq (.reg [iR 2 (.p .mv) [(.c (.bool true))]]) (.keep [2] (.keep [2] .ret))) .skip)))))))) (.keep [0, 6, 7] (.reg [iR 28 (.p (.bin .add)) [(.t 7), (.c (.int .i64 (.ofNat 1)))], iR 7 (.p .mv) [(.t 28)]])))))))))))) (.keep [] (.seq (.reg [iR 2 (.p .mv) [(.c (.bool false))]]) (.keep [2] (.keep [2] .ret))))))),
    [(.t 2)]⟩
def s_headers_unsafe_j0 (call : CallK) (N : Nat) (q : KV) (st : St) (τ : Tape) : Ans := match st with
  | ⟨fr, H⟩ => q (.bool false) H τ
def s_headers_unsafe_l1 (call : CallK) (N : Nat) (st : St) (τ : Tape) (k : KC) : Ans := match st with
  | ⟨fr, H⟩ => getK fr 0 fun t0 => getK fr 6 fun t6 => getK fr 7 fun t7 => binK .lss t7 t6 fun v1 => condK v1 (someK (pStrIndex [t0, t7]) fun v2 => binK .lss v2 (.int .u8 (.ofNat 32)) fun v3 => gK v3 true (fun q' => q' v2 H τ) H τ fun v4 H5 τ6 => gK v3 true (fun q' => binK .neq v4 (.int .u8 (.ofNat 9)) fun v => q' v H5 τ6) H5 τ6 fun v7 H8 τ9 => someK (pPick [v3, v7, (.bool false)]) fun v10 => gK v10 false (fun q' => q' v2 H8 τ9) H8 τ9 fun v11 H12 τ13 => gK v10 false (fun q' => binK .eql v11 (.int .u8 (.ofNat 127)) fun v => q' v H12 τ13) H12 τ13 fun v14 H15 τ16 => someK (pPick [v10, (.bool true), v14]) fun v17 => gK v17 false (fun q' => q' v2 H15 τ16) H15 τ16 fun v18 H19 τ20 => gK v17 false (fun q' => call f_strings_IndexByte [(.str (bs [34, 40, 41, 58, 60, 62, 63, 64, 91, 92, 93, 123, 125])), v18] H19 τ20 q') H19 τ20 fun v21 H22 τ23 =>
    gK v17 false (fun q' => binK .geq v21 (.int .i64 (.ofNat 0)) fun v => q' v H22 τ23) H22 τ23 fun v24 H25 τ26 => someK (pPick [v17, (.bool true), v24]) fun v27 => condK v27 (k .ret ⟨(T.set .leaf 2 (.bool true)), H25⟩ τ26) (binK .add t7 (.int .i64 (.ofNat 1)) fun v28 => k .normal ⟨(T.set (T.set (T.set (T.set (T.set .leaf 0 t0) 6 t6) 7 t7) 28 v28) 7 v28), H25⟩ τ26)) (k (.exit 0) ⟨.leaf, H⟩ τ)
def s_headers_unsafe (call : CallK) (N : Nat) (a0 : V) (H : Heap) (τ : Tape) (q : KV) : Ans := someK (pLenS [a0]) fun v0 => loopK (s_headers_unsafe_l1 call N) N ⟨(T.set (T.set (T.set .leaf 0 a0) 6 v0) 7 (.int .i64 (.ofNat 0))), H⟩ τ (blockK 0 (seqK (s_headers_unsafe_j0 call N q) (endK [(.t 2)] q)))
theorem s_headers_unsafe_eq (call : CallK) (N : Nat) (a0 : V) (H : Heap) (τ : Tape) (q : KV) : s_headers_unsafe call N a0 H τ q = funK call N fn_headers_unsafe [a0] H τ q := by kernel_rfl
def e_headers_unsafe (call : CallK) (N : Nat) (vs : List V) (H : Heap) (τ : Tape) (q : KV) : Ans := match vs with | [a0] => s_headers_unsafe call N a0 H τ q | _ => none
theorem e_headers_unsafe_ok : EntOk fn_headers_unsafe e_headers_unsafe := by
  intro call N vs H τ q r h
  unfold e_headers_unsafe at h
  split at h
  · rw [s_headers_unsafe_eq] at h; exact h
  · cases h
theorem e_headers_unsafe_nat : EntNat e_headers_unsafe := by
  intro c hn N vs H τ q
  unfold e_headers_unsafe
  split
  · rw [s_headers_unsafe_eq, s_headers_unsafe_eq]; exact funK_ent hn _ _ _ _ _ _
  · rfl
/-- ostiary/headers.tongues -/
def fn_headers_tongues : Fun := ⟨1, (.seq (.reg [iR 2 (.p .mv) [(.c (.bool false))]]) (.keep [0] (.seq (.seq (.reg [iR 5 (.p .mv) [(.t 0)], iR 6 (.p .lenS) [(.t 5)], iR 7 (.p .mv) [(.c (.int .i64 (.ofNat 0)))]]) (.keep [0, 6, 7] (.block 0 (.loop (.keep [0, 6, 7] (.seq (.reg [iR 8 (.p (.bin .lss)) [(.t 7), (.t 6)]]) (.keep [0, 6, 7, 8] (.seq (.cond (.t 8) .skip (.keep [] (.exit 0))) (.keep [0, 6, 7] (.seq (.block 1 (.seq (.reg [iR 9 (.p .mv) [(.t 7)], iR 3 (.p .mv) [(.t 9)]]) (.keep [0, 3, 6, 7] (.seq (.reg [iR 10 (.p .mv) [(.t 0)], iR 11 (.p .mv) [(.t 3)], iR 12 (.p .strIndex) [(.t 10), (.t 11)], iR 4 (.p .mv) [(.t 12)]]) (.keep [0, 4, 6, 7] (.seq (.reg [iR 13 (.p .mv) [(.t 4)], iR 14 (.p (.bin .geq)) [(.t 13), (.c (.int .u8 (.ofNat 97)))], iR 15 (.p .mv) [(.t 14)], iG 16 15 true (.p .mv) [(.t 4)], iG 17 15 true (.p (.bin .leq)) [(.t 16), (.c (.int .u8 (.ofNat 122)))],
    iR 18 (.p .pick) [(.t 15), (.t 17), (.c (.bool false))], iR 19 (.p .mv) [(.t 18)], iG 20 19 false (.p .mv) [(.t 4)], iG 21 19 false (.p (.bin .geq)) [(.t 20), (.c (.int .u8 (.ofNat 65)))], iG 22 19 false (.p .mv) [(.t 21)], iG 23 22 true (.p .mv) [(.t 4)], iG 24 22 true (.p (.bin .leq)) [(.t 23), (.c (.int .u8 (.ofNat 90)))], iG 25 19 false (.p .pick) [(.t 22), (.t 24), (.c (.bool false))], iR 26 (.p .pick) [(.t 19), (.c (.bool true)), (.t 25)], iR 27 (.p .mv) [(.t 26)], iG 28 27 false (.p .mv) [(.t 4)], iG 29 27 false (.p (.bin .geq)) [(.t 28), (.c (.int .u8 (.ofNat 48)))], iG 30 27 false (.p .mv) [(.t 29)], iG 31 30 true (.p .mv) [(.t 4)], iG 32 30 true (.p (.bin .leq)) [(.t 31), (.c (.int .u8 (.ofNat 57)))], iG 33 27 false (.p .pick) [(.t 30), (.t 32), (.c (.bool false))], iR 34 (.p .pick) [(.t 27), (.c (.bool true)), (.t 33)], iR 35 (.p (.un .not)) [(.t 34)],
    iR 36 (.p .mv) [(.t 35)], iG 37 36 true (.p .mv) [(.t 4)], iG 38 36 true (.call 70) [(.c (.str (bs [32, 42, 44, 45, 46, 59, 61]))), (.t 37)], iG 39 36 true (.p (.bin .lss)) [(.t 38), (.c (.int .i64 (.ofNat 0)))], iR 40 (.p .pick) [(.t 36), (.t 39), (.c (.bool false))]]) (.keep [0, 6, 7, 40] (.cond (.t 40) (.seq (.reg [iR 2 (.p .mv) [(.c (.bool false))]]) (.keep [2] (.keep [2] .ret))) .skip)))))))) (.keep [0, 6, 7] (.reg [iR 41 (.p (.bin .add)) [(.t 7), (.c (.int .i64 (.ofNat 1)))], iR 7 (.p .mv) [(.t 41)]])))))))))))) (.keep [] (.seq (.reg [iR 2 (.p .mv) [(.c (.bool true))]]) (.keep [2] (.keep [2] .ret))))))), [(.t 2)]⟩
def s_headers_tongues_j0 (call : CallK) (N : Nat) (q : KV) (st : St) (τ : Tape) : Ans := match st with
  | ⟨fr, H⟩ => q (.bool true) H τ
def s_headers_tongues_l1 (call : CallK) (N : Nat) (st : St) (τ : Tape) (k : KC) : Ans := match st with
  | ⟨fr, H⟩ => getK fr 0 fun t0 => getK fr 6 fun t6 => getK fr 7 fun t7 => binK .lss t7 t6 fun v1 => condK v1 (someK (pStrIndex [t0, t7]) fun v2 => binK .geq v2 (.int .u8 (.ofNat 97)) fun v3 => gK v3 true (fun q' => q' v2 H τ) H τ fun v4 H5 τ6 => gK v3 true (fun q' => binK .leq v4 (.int .u8 (.ofNat 122)) fun v => q' v H5 τ6) H5 τ6 fun v7 H8 τ9 => someK (pPick [v3, v7, (.bool false)]) fun v10 => gK v10 false (fun q' => q' v2 H8 τ9) H8 τ9 fun v11 H12 τ13 => gK v10 false (fun q' => binK .geq v11 (.int .u8 (.ofNat 65)) fun v => q' v H12 τ13) H12 τ13 fun v14 H15 τ16 => gK v10 false (fun q' => q' v14 H15 τ16) H15 τ16 fun v17 H18 τ19 => gK v17 true (fun q' => q' v2 H18 τ19) H18 τ19 fun v20 H21 τ22 => gK v17 true (fun q' => binK .leq v20 (.int .u8 (.ofNat 90)) fun v => q' v H21 τ22) H21 τ22 fun v23 H24 τ25 =>
    gK v10 false (fun q' => someK (pPick [v17, v23, (.bool false)]) fun v => q' v H24 τ25) H24 τ25 fun v26 H27 τ28 => someK (pPick [v10, (.bool true), v26]) fun v29 => gK v29 false (fun q' => q' v2 H27 τ28) H27 τ28 fun v30 H31 τ32 => gK v29 false (fun q' => binK .geq v30 (.int .u8 (.ofNat 48)) fun v => q' v H31 τ32) H31 τ32 fun v33 H34 τ35 => gK v29 false (fun q' => q' v33 H34 τ35) H34 τ35 fun v36 H37 τ38 => gK v36 true (fun q' => q' v2 H37 τ38) H37 τ38 fun v39 H40 τ41 => gK v36 true (fun q' => binK .leq v39 (.int .u8 (.ofNat 57)) fun v => q' v H40 τ41) H40 τ41 fun v42 H43 τ44 => gK v29 false (fun q' => someK (pPick [v36, v42, (.bool false)]) fun v => q' v H43 τ44) H43 τ44 fun v45 H46 τ47 => someK (pPick [v29, (.bool true), v45]) fun v48 => unK .not v48 fun v49 => gK v49 true (fun q' => q' v2 H46 τ47) H46 τ47 fun v50 H51 τ52 =>
    gK v49 true (fun q' => call f_strings_IndexByte [(.str (bs [32, 42, 44, 45, 46, 59, 61])), v50] H51 τ52 q') H51 τ52 fun v53 H54 τ55 => gK v49 true (fun q' => binK .lss v53 (.int .i64 (.ofNat 0)) fun v => q' v H54 τ55) H54 τ55 fun v56 H57 τ58 => someK (pPick [v49, v56, (.bool false)]) fun v59 => condK v59 (k .ret ⟨(T.set .leaf 2 (.bool false)), H57⟩ τ58) (binK .add t7 (.int .i64 (.ofNat 1)) fun v60 => k .normal ⟨(T.set (T.set (T.set (T.set (T.set .leaf 0 t0) 6 t6) 7 t7) 41 v60) 7 v60), H57⟩ τ58)) (k (.exit 0) ⟨.leaf, H⟩ τ)
def s_headers_tongues (call : CallK) (N : Nat) (a0 : V) (H : Heap) (τ : Tape) (q : KV) : Ans := someK (pLenS [a0]) fun v0 => loopK (s_headers_tongues_l1 call N) N ⟨(T.set (T.set (T.set .leaf 0 a0) 6 v0) 7 (.int .i64 (.ofNat 0))), H⟩ τ (blockK 0 (seqK (s_headers_tongues_j0 call N q) (endK [(.t 2)] q)))
theorem s_headers_tongues_eq (call : CallK) (N : Nat) (a0 : V) (H : Heap) (τ : Tape) (q : KV) : s_headers_tongues call N a0 H τ q = funK call N fn_headers_tongues [a0] H τ q := by kernel_rfl
def e_headers_tongues (call : CallK) (N : Nat) (vs : List V) (H : Heap) (τ : Tape) (q : KV) : Ans := match vs with | [a0] => s_headers_tongues call N a0 H τ q | _ => none
theorem e_headers_tongues_ok : EntOk fn_headers_tongues e_headers_tongues := by
  intro call N vs H τ q r h
  unfold e_headers_tongues at h
  split at h
  · rw [s_headers_tongues_eq] at h; exact h
  · cases h
theorem e_headers_tongues_nat : EntNat e_headers_tongues := by
  intro c hn N vs H τ q
  unfold e_headers_tongues
  split
  · rw [s_headers_tongues_eq, s_headers_tongues_eq]; exact funK_ent hn _ _ _ _ _ _
  · rfl
/-- ostiary/infra.Strip -/
def fn_infra_Strip : Fun := ⟨1, (.seq (.reg [iR 2 (.p .mv) [(.c (.str []))]]) (.keep [0] (.seq (.reg [iR 3 (.p .mv) [(.t 0)], iR 4 (.call 35) [(.t 3), (.c (.str (bs [9, 10, 12, 13, 32])))], iR 2 (.p .mv) [(.t 4)]]) (.keep [2] (.keep [2] .ret))))), [(.t 2)]⟩
def s_infra_Strip (call : CallK) (N : Nat) (a0 : V) (H : Heap) (τ : Tape) (q : KV) : Ans := call f_strings_Trim [a0, (.str (bs [9, 10, 12, 13, 32]))] H τ fun v0 H1 τ2 => q v0 H1 τ2
theorem s_infra_Strip_eq (call : CallK) (N : Nat) (a0 : V) (H : Heap) (τ : Tape) (q : KV) : s_infra_Strip call N a0 H τ q = funK call N fn_infra_Strip [a0] H τ q := by kernel_rfl
def e_infra_Strip (call : CallK) (N : Nat) (vs : List V) (H : Heap) (τ : Tape) (q : KV) : Ans := match vs with | [a0] => s_infra_Strip call N a0 H τ q | _ => none
theorem e_infra_Strip_ok : EntOk fn_infra_Strip e_infra_Strip := by
  intro call N vs H τ q r h
  unfold e_infra_Strip at h
  split at h
  · rw [s_infra_Strip_eq] at h; exact h
  · cases h
theorem e_infra_Strip_nat : EntNat e_infra_Strip := by
  intro c hn N vs H τ q
  unfold e_infra_Strip
  split
  · rw [s_infra_Strip_eq, s_infra_Strip_eq]; exact funK_ent hn _ _ _ _ _ _
  · rfl
/-- ostiary/headers.may -/
def fn_headers_may : Fun := ⟨2, (.seq (.reg [iR 4 (.p .mv) [(.c (.str []))], iR 5 (.p .mv) [(.c (.int .i64 (.ofNat 0)))]]) (.keep [0, 1] (.seq (.reg [iR 9 (.p .mv) [(.t 1)], iR 10 (.call 32) [(.t 9)], iR 8 (.p .mv) [(.t 10)], iR 11 (.p (.extract 0)) [(.t 8)], iR 12 (.p (.extract 1)) [(.t 8)], iR 6 (.p .mv) [(.t 11)], iR 7 (.p .mv) [(.t 12)]]) (.keep [0, 6, 7] (.seq (.block 0 (.seq (.reg [iR 14 (.p .mv) [(.t 7)], iR 15 (.p (.un .not)) [(.t 14)], iR 16 (.p .mv) [(.t 15)], iG 17 16 false (.p .mv) [(.t 0)], iG 18 16 false (.call 71) [(.t 17)], iG 19 16 false (.p (.un .not)) [(.t 18)], iR 20 (.p .pick) [(.t 16), (.c (.bool true)), (.t 19)], iR 13 (.p .mv) [(.t 20)]]) (.keep [0, 6, 13] (.cond (.t 13) (.seq (.reg [iR 4 (.p .mv) [(.c (.str []))], iR 5 (.p .mv) [(.c (.int .i64 (.ofNat 1)))]]) (.keep [4, 5] (.keep [4, 5] .ret))) (.seq (.reg [iR 22 (.p .mv) [(.t 0)],
    iR 23 (.p .lenS) [(.t 22)], iR 24 (.p (.bin .gtr)) [(.t 23), (.c (.int .i64 (.ofNat 4096)))], iR 25 (.p .mv) [(.t 24)], iG 26 25 false (.p .mv) [(.t 6)], iG 27 25 false (.p .lenS) [(.t 26)], iG 28 25 false (.p (.bin .gtr)) [(.t 27), (.c (.int .i64 (.ofNat 4096)))], iR 29 (.p .pick) [(.t 25), (.c (.bool true)), (.t 28)], iR 21 (.p .mv) [(.t 29)]]) (.keep [6, 21] (.cond (.t 21) (.seq (.reg [iR 4 (.p .mv) [(.c (.str []))], iR 5 (.p .mv) [(.c (.int .i64 (.ofNat 3)))]]) (.keep [4, 5] (.keep [4, 5] .ret))) .skip))))))) (.keep [6] (.seq (.reg [iR 30 (.p .mv) [(.t 6)], iR 4 (.p .mv) [(.t 30)], iR 5 (.p .mv) [(.c (.int .i64 (.ofNat 0)))]]) (.keep [4, 5] (.keep [4, 5] .ret))))))))), [(.t 4), (.t 5)]⟩
def s_headers_may (call : CallK) (N : Nat) (a0 a1 : V) (H : Heap) (τ : Tape) (q : KV) : Ans := call f_headers_Value [a1] H τ fun v0 H1 τ2 => someK (pExtract 0 [v0]) fun v3 => someK (pExtract 1 [v0]) fun v4 => unK .not v4 fun v5 => gK v5 false (fun q' => q' a0 H1 τ2) H1 τ2 fun v6 H7 τ8 => gK v5 false (fun q' => call f_infra_Token [v6] H7 τ8 q') H7 τ8 fun v9 H10 τ11 => gK v5 false (fun q' => unK .not v9 fun v => q' v H10 τ11) H10 τ11 fun v12 H13 τ14 => someK (pPick [v5, (.bool true), v12]) fun v15 => condK v15 (q (.tup [(.str []), (.int .i64 (.ofNat 1))]) H13 τ14) (someK (pLenS [a0]) fun v16 => binK .gtr v16 (.int .i64 (.ofNat 4096)) fun v17 => gK v17 false (fun q' => q' v3 H13 τ14) H13 τ14 fun v18 H19 τ20 => gK v17 false (fun q' => someK (pLenS [v18]) fun v => q' v H19 τ20) H19 τ20 fun v21 H22 τ23 =>
    gK v17 false (fun q' => binK .gtr v21 (.int .i64 (.ofNat 4096)) fun v => q' v H22 τ23) H22 τ23 fun v24 H25 τ26 => someK (pPick [v17, (.bool true), v24]) fun v27 => condK v27 (q (.tup [(.str []), (.int .i64 (.ofNat 3))]) H25 τ26) (q (.tup [v3, (.int .i64 (.ofNat 0))]) H25 τ26))
theorem s_headers_may_eq (call : CallK) (N : Nat) (a0 a1 : V) (H : Heap) (τ : Tape) (q : KV) : s_headers_may call N a0 a1 H τ q = funK call N fn_headers_may [a0, a1] H τ q := by kernel_rfl
def e_headers_may (call : CallK) (N : Nat) (vs : List V) (H : Heap) (τ : Tape) (q : KV) : Ans := match vs with | [a0, a1] => s_headers_may call N a0 a1 H τ q | _ => none
theorem e_headers_may_ok : EntOk fn_headers_may e_headers_may := by
  intro call N vs H τ q r h
  unfold e_headers_may at h
  split at h
  · rw [s_headers_may_eq] at h; exact h
  · cases h
theorem e_headers_may_nat : EntNat e_headers_may := by
  intro c hn N vs H τ q
  unfold e_headers_may
  split
  · rw [s_headers_may_eq, s_headers_may_eq]; exact funK_ent hn _ _ _ _ _ _
  · rfl
/-- slices.Clone[[]ostiary/api.Header,ostiary/api.Header] -/
def fn_slices_Clone_Header : Fun := ⟨1, (.seq (.reg [iR 2 (.p .mv) [(.c .nils)]]) (.keep [0] (.seq (.seq (.reg [iR 3 (.p .mv) [(.t 0)], iR 4 (.p (.eq false .slice)) [(.t 3), (.c .nils)]]) (.keep [0, 4] (.cond (.t 4) (.seq (.reg [iR 2 (.p .mv) [(.c .nils)]]) (.keep [2] (.keep [2] .ret))) .skip))) (.keep [0] (.seq (.reg [iR 5 (.e (.buildSlice 0 2 [] [])) [], iR 6 (.p .mv) [(.t 0)], iR 7 (.e (.append 2 32)) [(.t 5), (.t 6)], iR 2 (.p .mv) [(.t 7)]]) (.keep [2] (.keep [2] .ret))))))), [(.t 2)]⟩
def s_slices_Clone_Header (call : CallK) (N : Nat) (a0 : V) (H : Heap) (τ : Tape) (q : KV) : Ans := someK (pEq false .slice [a0, .nils]) fun v0 => condK v0 (q .nils H τ) (effK (eBuildSlice 0 2 [] [] [] H τ) fun v1 H2 τ3 => effK (eAppend 2 32 [v1, a0] H2 τ3) fun v4 H5 τ6 => q v4 H5 τ6)
theorem s_slices_Clone_Header_eq (call : CallK) (N : Nat) (a0 : V) (H : Heap) (τ : Tape) (q : KV) : s_slices_Clone_Header call N a0 H τ q = funK call N fn_slices_Clone_Header [a0] H τ q := by kernel_rfl
def e_slices_Clone_Header (call : CallK) (N : Nat) (vs : List V) (H : Heap) (τ : Tape) (q : KV) : Ans := match vs with | [a0] => s_slices_Clone_Header call N a0 H τ q | _ => none
theorem e_slices_Clone_Header_ok : EntOk fn_slices_Clone_Header e_slices_Clone_Header := by
  intro call N vs H τ q r h
  unfold e_slices_Clone_Header at h
  split at h
  · rw [s_slices_Clone_Header_eq] at h; exact h
  · cases h
theorem e_slices_Clone_Header_nat : EntNat e_slices_Clone_Header := by
  intro c hn N vs H τ q
  unfold e_slices_Clone_Header
  split
  · rw [s_slices_Clone_Header_eq, s_slices_Clone_Header_eq]; exact funK_ent hn _ _ _ _ _ _
  · rfl
/-- ostiary/headers.is -/
def fn_headers_is : Fun := ⟨2, (.seq (.reg [iR 2 (.e .box) [(.t 0)], iR 4 (.p .mv) [(.c (.bool false))]]) (.keep [1, 2] (.seq (.reg [iR 5 (.p (.fieldAddr 0)) [(.t 2)], iR 6 (.l (.load none)) [(.t 5)], iR 7 (.call 39) [(.t 6)], iR 8 (.p .mv) [(.t 1)], iR 9 (.call 39) [(.t 8)], iR 10 (.p (.bin .eql)) [(.t 7), (.t 9)], iR 4 (.p .mv) [(.t 10)]]) (.keep [4] (.keep [4] .ret))))), [(.t 4)]⟩
def s_headers_is (call : CallK) (N : Nat) (a0 a1 : V) (H : Heap) (τ : Tape) (q : KV) : Ans := effK (eBox [a0] H τ) fun v0 H1 τ2 => someK (pFieldAddr 0 [v0]) fun v3 => someK (lLoad1 [v3] H1) fun v4 => call f_infra_Lower [v4] H1 τ2 fun v5 H6 τ7 => call f_infra_Lower [a1] H6 τ7 fun v8 H9 τ10 => binK .eql v5 v8 fun v11 => q v11 H9 τ10
theorem s_headers_is_eq (call : CallK) (N : Nat) (a0 a1 : V) (H : Heap) (τ : Tape) (q : KV) : s_headers_is call N a0 a1 H τ q = funK call N fn_headers_is [a0, a1] H τ q := by kernel_rfl
def e_headers_is (call : CallK) (N : Nat) (vs : List V) (H : Heap) (τ : Tape) (q : KV) : Ans := match vs with | [a0, a1] => s_headers_is call N a0 a1 H τ q | _ => none
theorem e_headers_is_ok : EntOk fn_headers_is e_headers_is := by
  intro call N vs H τ q r h
  unfold e_headers_is at h
  split at h
  · rw [s_headers_is_eq] at h; exact h
  · cases h
theorem e_headers_is_nat : EntNat e_headers_is := by
  intro c hn N vs H τ q
  unfold e_headers_is
  split
  · rw [s_headers_is_eq, s_headers_is_eq]; exact funK_ent hn _ _ _ _ _ _
  · rfl
/-- slices.DeleteFunc[[]ostiary/api.Header,ostiary/api.Header] -/
def fn_slices_DeleteFunc_Header : Fun := ⟨2, (.seq (.reg [iR 4 (.p .mv) [(.c .nils)]]) (.keep [0, 1] (.seq (.reg [iR 8 (.p .mv) [(.t 0)], iR 9 (.p .mv) [(.t 1)], iR 10 (.call 49) [(.t 8), (.t 9)], iR 5 (.p .mv) [(.t 10)]]) (.keep [0, 1, 5] (.seq (.seq (.reg [iR 11 (.p .mv) [(.t 5)], iR 12 (.p (.bin .eql)) [(.t 11), (.c (.int .i64 (.negSucc 0)))]]) (.keep [0, 1, 5, 12] (.cond (.t 12) (.seq (.reg [iR 13 (.p .mv) [(.t 0)], iR 4 (.p .mv) [(.t 13)]]) (.keep [4] (.keep [4] .ret))) .skip))) (.keep [0, 1, 5] (.seq (.seq (.reg [iR 14 (.p .mv) [(.t 5)], iR 15 (.p (.bin .add)) [(.t 14), (.c (.int .i64 (.ofNat 1)))], iR 6 (.p .mv) [(.t 15)]]) (.keep [0, 1, 5, 6] (.block 0 (.loop (.keep [0, 1, 5, 6] (.seq (.seq (.reg [iR 16 (.p .mv) [(.t 6)], iR 17 (.p .mv) [(.t 0)], iR 18 (.p .len) [(.t 17)], iR 19 (.p (.bin .lss)) [(.t 16), (.t 18)]]) (.keep [0, 1, 5, 6, 19] (.cond (.t 19) .skip
    (.keep [0, 5] (.exit 0))))) (.keep [0, 1, 5, 6] (.seq (.block 1 (.seq (.reg [iR 22 (.p .mv) [(.t 0)], iR 23 (.p .mv) [(.t 6)], iR 24 (.p (.slIdx 2)) [(.t 22), (.t 23)], iR 25 (.l (.load (some 2))) [(.t 24)], iR 7 (.e (.alloc [(.str []), (.str [])])) [], ⟨none, none, (.e (.store 2)), [(.t 7), (.t 25)], none⟩]) (.keep [0, 1, 5, 6, 7] (.seq (.reg [iR 26 (.p .mv) [(.t 1)], iR 27 (.l (.load (some 2))) [(.t 7)], iR 28 .callv [(.t 26), (.t 27)], iR 29 (.p (.un .not)) [(.t 28)]]) (.keep [0, 1, 5, 6, 7, 29] (.cond (.t 29) (.seq (.reg [iR 30 (.p .mv) [(.t 0)], iR 31 (.p .mv) [(.t 5)], iR 32 (.l (.load (some 2))) [(.t 7)], iR 33 (.p (.slIdx 2)) [(.t 30), (.t 31)], ⟨none, none, (.e (.store 2)), [(.t 33), (.t 32)], none⟩]) (.keep [0, 1, 5, 6] (.reg [iR 34 (.p .mv) [(.t 5)], iR 35 (.p (.bin .add)) [(.t 34), (.c (.int .i64 (.ofNat 1)))], iR 5 (.p .mv) [(.t 35)]]))) .skip))))))
    (.keep [0, 1, 5, 6] (.reg [iR 20 (.p .mv) [(.t 6)], iR 21 (.p (.bin .add)) [(.t 20), (.c (.int .i64 (.ofNat 1)))], iR 6 (.p .mv) [(.t 21)]])))))))))) (.keep [0, 5] (.seq (.reg [iR 36 (.p .mv) [(.t 0)], iR 37 (.p .mv) [(.t 5)], iR 38 (.p (.slSlice 2 true false false)) [(.t 36), (.t 37)], ⟨none, none, (.e (.clear 2 [(.str []), (.str [])])), [(.t 38)], none⟩]) (.keep [0, 5] (.seq (.reg [iR 39 (.p .mv) [(.t 0)], iR 40 (.p .mv) [(.t 5)], iR 41 (.p (.slSlice 2 false true false)) [(.t 39), (.t 40)], iR 4 (.p .mv) [(.t 41)]]) (.keep [4] (.keep [4] .ret))))))))))))), [(.t 4)]⟩
def s_slices_DeleteFunc_Header_j0 (call : CallK) (N : Nat) (q : KV) (st : St) (τ : Tape) : Ans := match st with
  | ⟨fr, H⟩ => getK fr 0 fun t0 => getK fr 5 fun t5 => someK (pSlSlice 2 true false false [t0, t5]) fun v5 => effK (eClear 2 [(.str []), (.str [])] [v5] H τ) fun v6 H7 τ8 => someK (pSlSlice 2 false true false [t0, t5]) fun v9 => q v9 H7 τ8
def s_slices_DeleteFunc_Header_j2 (call : CallK) (N : Nat) (k : KC) (st : St) (τ : Tape) : Ans := match st with
  | ⟨fr, H⟩ => getK fr 0 fun t0 => getK fr 1 fun t1 => getK fr 5 fun t5 => getK fr 6 fun t6 => binK .add t6 (.int .i64 (.ofNat 1)) fun v12 => k .normal ⟨(T.set (T.set (T.set (T.set (T.set (T.set (T.set .leaf 0 t0) 1 t1) 5 t5) 6 t6) 20 t6) 21 v12) 6 v12), H⟩ τ
def s_slices_DeleteFunc_Header_l1 (call : CallK) (N : Nat) (st : St) (τ : Tape) (k : KC) : Ans := match st with
  | ⟨fr, H⟩ => getK fr 0 fun t0 => getK fr 1 fun t1 => getK fr 5 fun t5 => getK fr 6 fun t6 => someK (pLen [t0]) fun v10 => binK .lss t6 v10 fun v11 => condK v11 (someK (pSlIdx 2 [t0, t6]) fun v13 => someK (lLoadN 2 [v13] H) fun v14 => effK (eAlloc [(.str []), (.str [])] [] H τ) fun v15 H16 τ17 => effK (eStore 2 [v15, v14] H16 τ17) fun v18 H19 τ20 => someK (lLoadN 2 [v15] H19) fun v21 => opK call .callv [t1, v21] H19 τ20 fun v22 H23 τ24 => unK .not v22 fun v25 => condK v25 (someK (lLoadN 2 [v15] H23) fun v26 => someK (pSlIdx 2 [t0, t5]) fun v27 => effK (eStore 2 [v27, v26] H23 τ24) fun v28 H29 τ30 => binK .add t5 (.int .i64 (.ofNat 1)) fun v31 => s_slices_DeleteFunc_Header_j2 call N k ⟨(T.set (T.set (T.set (T.set (T.set (T.set (T.set .leaf 0 t0) 1 t1) 5 t5) 6 t6) 34 t5) 35 v31) 5 v31), H29⟩ τ30)
    (s_slices_DeleteFunc_Header_j2 call N k ⟨(T.set (T.set (T.set (T.set (T.set (T.set .leaf 0 t0) 1 t1) 5 t5) 6 t6) 7 v15) 29 v25), H23⟩ τ24)) (k (.exit 0) ⟨(T.set (T.set .leaf 0 t0) 5 t5), H⟩ τ)
def s_slices_DeleteFunc_Header (call : CallK) (N : Nat) (a0 a1 : V) (H : Heap) (τ : Tape) (q : KV) : Ans := call f_slices_IndexFunc_Header [a0, a1] H τ fun v0 H1 τ2 => binK .eql v0 (.int .i64 (.negSucc 0)) fun v3 => condK v3 (q a0 H1 τ2) (binK .add v0 (.int .i64 (.ofNat 1)) fun v4 => loopK (s_slices_DeleteFunc_Header_l1 call N) N ⟨(T.set (T.set (T.set (T.set .leaf 0 a0) 1 a1) 5 v0) 6 v4), H1⟩ τ2 (blockK 0 (seqK (s_slices_DeleteFunc_Header_j0 call N q) (endK [(.t 4)] q))))
theorem s_slices_DeleteFunc_Header_eq (call : CallK) (N : Nat) (a0 a1 : V) (H : Heap) (τ : Tape) (q : KV) : s_slices_DeleteFunc_Header call N a0 a1 H τ q = funK call N fn_slices_DeleteFunc_Header [a0, a1] H τ q := by kernel_rfl
def e_slices_DeleteFunc_Header (call : CallK) (N : Nat) (vs : List V) (H : Heap) (τ : Tape) (q : KV) : Ans := match vs with | [a0, a1] => s_slices_DeleteFunc_Header call N a0 a1 H τ q | _ => none
theorem e_slices_DeleteFunc_Header_ok : EntOk fn_slices_DeleteFunc_Header e_slices_DeleteFunc_Header := by
  intro call N vs H τ q r h
  unfold e_slices_DeleteFunc_Header at h
  split at h
  · rw [s_slices_DeleteFunc_Header_eq] at h; exact h
  · cases h
theorem e_slices_DeleteFunc_Header_nat : EntNat e_slices_DeleteFunc_Header := by
  intro c hn N vs H τ q
  unfold e_slices_DeleteFunc_Header
  split
  · rw [s_slices_DeleteFunc_Header_eq, s_slices_DeleteFunc_Header_eq]; exact funK_ent hn _ _ _ _ _ _
  · rfl
/-- ostiary/headers.Drop$1 -/
def fn_headers_Drop_1 : Fun := ⟨2, (.seq (.reg [iR 2 (.e .box) [(.t 0)], iR 3 (.p .mv) [(.c (.bool false))]]) (.keep [1, 2] (.seq (.reg [iR 4 (.l (.load (some 2))) [(.t 2)], iR 5 (.l (.load none)) [(.t 1)], iR 6 (.call 45) [(.t 4), (.t 5)], iR 3 (.p .mv) [(.t 6)]]) (.keep [3] (.keep [3] .ret))))), [(.t 3)]⟩
def s_headers_Drop_1 (call : CallK) (N : Nat) (a0 a1 : V) (H : Heap) (τ : Tape) (q : KV) : Ans := effK (eBox [a0] H τ) fun v0 H1 τ2 => someK (lLoadN 2 [v0] H1) fun v3 => someK (lLoad1 [a1] H1) fun v4 => call f_headers_is [v3, v4] H1 τ2 fun v5 H6 τ7 => q v5 H6 τ7
theorem s_headers_Drop_1_eq (call : CallK) (N : Nat) (a0 a1 : V) (H : Heap) (τ : Tape) (q : KV) : s_headers_Drop_1 call N a0 a1 H τ q = funK call N fn_headers_Drop_1 [a0, a1] H τ q := by kernel_rfl
def e_headers_Drop_1 (call : CallK) (N : Nat) (vs : List V) (H : Heap) (τ : Tape) (q : KV) : Ans := match vs with | [a0, a1] => s_headers_Drop_1 call N a0 a1 H τ q | _ => none
theorem e_headers_Drop_1_ok : EntOk fn_headers_Drop_1 e_headers_Drop_1 := by
  intro call N vs H τ q r h
  unfold e_headers_Drop_1 at h
  split at h
  · rw [s_headers_Drop_1_eq] at h; exact h
  · cases h
theorem e_headers_Drop_1_nat : EntNat e_headers_Drop_1 := by
  intro c hn N vs H τ q
  unfold e_headers_Drop_1
  split
  · rw [s_headers_Drop_1_eq, s_headers_Drop_1_eq]; exact funK_ent hn _ _ _ _ _ _
  · rfl
/-- slices.IndexFunc[[]ostiary/api.Header,ostiary/api.Header] -/
def fn_slices_IndexFunc_Header : Fun := ⟨2, (.seq (.reg [iR 4 (.p .mv) [(.c (.int .i64 (.ofNat 0)))]]) (.keep [0, 1] (.seq (.seq (.reg [iR 6 (.p .mv) [(.t 0)], iR 7 (.p .len) [(.t 6)], iR 8 (.p .mv) [(.c (.int .i64 (.ofNat 0)))]]) (.keep [0, 1, 7, 8] (.block 0 (.loop (.keep [0, 1, 7, 8] (.seq (.reg [iR 9 (.p (.bin .lss)) [(.t 8), (.t 7)]]) (.keep [0, 1, 7, 8, 9] (.seq (.cond (.t 9) .skip (.keep [] (.exit 0))) (.keep [0, 1, 7, 8] (.seq (.block 1 (.seq (.reg [iR 10 (.p .mv) [(.t 8)], iR 5 (.p .mv) [(.t 10)]]) (.keep [0, 1, 5, 7, 8] (.seq (.reg [iR 11 (.p .mv) [(.t 1)], iR 12 (.p .mv) [(.t 0)], iR 13 (.p .mv) [(.t 5)], iR 14 (.p (.slIdx 2)) [(.t 12), (.t 13)], iR 15 (.l (.load (some 2))) [(.t 14)], iR 16 .callv [(.t 11), (.t 15)]]) (.keep [0, 1, 5, 7, 8, 16] (.cond (.t 16) (.seq (.reg [iR 17 (.p .mv) [(.t 5)], iR 4 (.p .mv) [(.t 17)]]) (.keep [4] (.keep [4] .ret))) .skip))))))
    (.keep [0, 1, 7, 8] (.reg [iR 18 (.p (.bin .add)) [(.t 8), (.c (.int .i64 (.ofNat 1)))], iR 8 (.p .mv) [(.t 18)]])))))))))))) (.keep [] (.seq (.reg [iR 4 (.p .mv) [(.c (.int .i64 (.negSucc 0)))]]) (.keep [4] (.keep [4] .ret))))))), [(.t 4)]⟩
def s_slices_IndexFunc_Header_j0 (call : CallK) (N : Nat) (q : KV) (st : St) (τ : Tape) : Ans := match st with
  | ⟨fr, H⟩ => q (.int .i64 (.negSucc 0)) H τ
def s_slices_IndexFunc_Header_l1 (call : CallK) (N : Nat) (st : St) (τ : Tape) (k : KC) : Ans := match st with
  | ⟨fr, H⟩ => getK fr 0 fun t0 => getK fr 1 fun t1 => getK fr 7 fun t7 => getK fr 8 fun t8 => binK .lss t8 t7 fun v1 => condK v1 (someK (pSlIdx 2 [t0, t8]) fun v2 => someK (lLoadN 2 [v2] H) fun v3 => opK call .callv [t1, v3] H τ fun v4 H5 τ6 => condK v4 (k .ret ⟨(T.set .leaf 4 t8), H5⟩ τ6) (binK .add t8 (.int .i64 (.ofNat 1)) fun v7 => k .normal ⟨(T.set (T.set (T.set (T.set (T.set (T.set .leaf 0 t0) 1 t1) 7 t7) 8 t8) 18 v7) 8 v7), H5⟩ τ6)) (k (.exit 0) ⟨.leaf, H⟩ τ)
def s_slices_IndexFunc_Header (call : CallK) (N : Nat) (a0 a1 : V) (H : Heap) (τ : Tape) (q : KV) : Ans := someK (pLen [a0]) fun v0 => loopK (s_slices_IndexFunc_Header_l1 call N) N ⟨(T.set (T.set (T.set (T.set .leaf 0 a0) 1 a1) 7 v0) 8 (.int .i64 (.ofNat 0))), H⟩ τ (blockK 0 (seqK (s_slices_IndexFunc_Header_j0 call N q) (endK [(.t 4)] q)))
theorem s_slices_IndexFunc_Header_eq (call : CallK) (N : Nat) (a0 a1 : V) (H : Heap) (τ : Tape) (q : KV) : s_slices_IndexFunc_Header call N a0 a1 H τ q = funK call N fn_slices_IndexFunc_Header [a0, a1] H τ q := by kernel_rfl
def e_slices_IndexFunc_Header (call : CallK) (N : Nat) (vs : List V) (H : Heap) (τ : Tape) (q : KV) : Ans := match vs with | [a0, a1] => s_slices_IndexFunc_Header call N a0 a1 H τ q | _ => none
theorem e_slices_IndexFunc_Header_ok : EntOk fn_slices_IndexFunc_Header e_slices_IndexFunc_Header := by
  intro call N vs H τ q r h
  unfold e_slices_IndexFunc_Header at h
  split at h
  · rw [s_slices_IndexFunc_Header_eq] at h; exact h
  · cases h
theorem e_slices_IndexFunc_Header_nat : EntNat e_slices_IndexFunc_Header := by
  intro c hn N vs H τ q
  unfold e_slices_IndexFunc_Header
  split
  · rw [s_slices_IndexFunc_Header_eq, s_slices_IndexFunc_Header_eq]; exact funK_ent hn _ _ _ _ _ _
  · rfl
/-- ostiary/headers.Set$1 -/
def fn_headers_Set_1 : Fun := ⟨2, (.seq (.reg [iR 2 (.e .box) [(.t 0)], iR 3 (.p .mv) [(.c (.bool false))]]) (.keep [1, 2] (.seq (.reg [iR 4 (.l (.load (some 2))) [(.t 2)], iR 5 (.l (.load none)) [(.t 1)], iR 6 (.call 45) [(.t 4), (.t 5)], iR 3 (.p .mv) [(.t 6)]]) (.keep [3] (.keep [3] .ret))))), [(.t 3)]⟩
def s_headers_Set_1 (call : CallK) (N : Nat) (a0 a1 : V) (H : Heap) (τ : Tape) (q : KV) : Ans := effK (eBox [a0] H τ) fun v0 H1 τ2 => someK (lLoadN 2 [v0] H1) fun v3 => someK (lLoad1 [a1] H1) fun v4 => call f_headers_is [v3, v4] H1 τ2 fun v5 H6 τ7 => q v5 H6 τ7
theorem s_headers_Set_1_eq (call : CallK) (N : Nat) (a0 a1 : V) (H : Heap) (τ : Tape) (q : KV) : s_headers_Set_1 call N a0 a1 H τ q = funK call N fn_headers_Set_1 [a0, a1] H τ q := by kernel_rfl
def e_headers_Set_1 (call : CallK) (N : Nat) (vs : List V) (H : Heap) (τ : Tape) (q : KV) : Ans := match vs with | [a0, a1] => s_headers_Set_1 call N a0 a1 H τ q | _ => none
theorem e_headers_Set_1_ok : EntOk fn_headers_Set_1 e_headers_Set_1 := by
  intro call N vs H τ q r h
  unfold e_headers_Set_1 at h
  split at h
  · rw [s_headers_Set_1_eq] at h; exact h
  · cases h
theorem e_headers_Set_1_nat : EntNat e_headers_Set_1 := by
  intro c hn N vs H τ q
  unfold e_headers_Set_1
  split
  · rw [s_headers_Set_1_eq, s_headers_Set_1_eq]; exact funK_ent hn _ _ _ _ _ _
  · rfl
/-- strings.HasPrefix -/
def fn_strings_HasPrefix : Fun := ⟨2, (.seq (.reg [iR 4 (.p .mv) [(.c (.bool false))]]) (.keep [0, 1] (.seq (.reg [iR 5 (.p .mv) [(.t 0)], iR 6 (.p .mv) [(.t 1)], iR 7 (.call 75) [(.t 5), (.t 6)], iR 4 (.p .mv) [(.t 7)]]) (.keep [4] (.keep [4] .ret))))), [(.t 4)]⟩
def s_strings_HasPrefix (call : CallK) (N : Nat) (a0 a1 : V) (H : Heap) (τ : Tape) (q : KV) : Ans := call f_stringslite_HasPrefix [a0, a1] H τ fun v0 H1 τ2 => q v0 H1 τ2
theorem s_strings_HasPrefix_eq (call : CallK) (N : Nat) (a0 a1 : V) (H : Heap) (τ : Tape) (q : KV) : s_strings_HasPrefix call N a0 a1 H τ q = funK call N fn_strings_HasPrefix [a0, a1] H τ q := by kernel_rfl
def e_strings_HasPrefix (call : CallK) (N : Nat) (vs : List V) (H : Heap) (τ : Tape) (q : KV) : Ans := match vs with | [a0, a1] => s_strings_HasPrefix call N a0 a1 H τ q | _ => none
theorem e_strings_HasPrefix_ok : EntOk fn_strings_HasPrefix e_strings_HasPrefix := by
  intro call N vs H τ q r h
  unfold e_strings_HasPrefix at h
  split at h
  · rw [s_strings_HasPrefix_eq] at h; exact h
  · cases h
theorem e_strings_HasPrefix_nat : EntNat e_strings_HasPrefix := by
  intro c hn N vs H τ q
  unfold e_strings_HasPrefix
  split
  · rw [s_strings_HasPrefix_eq, s_strings_HasPrefix_eq]; exact funK_ent hn _ _ _ _ _ _
  · rfl
/-- ostiary/ostiarykeep.Few -/
def fn_keep_Few : Fun := ⟨2, (.seq (.reg [iR 4 (.p .mv) [(.c (.str []))]]) (.keep [0, 1] (.seq (.seq (.reg [iR 5 (.p .mv) [(.t 0)], iR 6 (.p .lenS) [(.t 5)], iR 7 (.p .mv) [(.t 1)], iR 8 (.p (.bin .gtr)) [(.t 6), (.t 7)]]) (.keep [0, 1, 8] (.cond (.t 8) (.seq (.reg [iR 9 (.p .mv) [(.t 0)], iR 10 (.p .mv) [(.t 1)], iR 11 (.p (.strSlice false true)) [(.t 9), (.t 10)], iR 4 (.p .mv) [(.t 11)]]) (.keep [4] (.keep [4] .ret))) .skip))) (.keep [0] (.seq (.reg [iR 12 (.p .mv) [(.t 0)], iR 4 (.p .mv) [(.t 12)]]) (.keep [4] (.keep [4] .ret))))))), [(.t 4)]⟩
def s_keep_Few (call : CallK) (N : Nat) (a0 a1 : V) (H : Heap) (τ : Tape) (q : KV) : Ans := someK (pLenS [a0]) fun v0 => binK .gtr v0 a1 fun v1 => condK v1 (someK (pStrSlice false true [a0, a1]) fun v2 => q v2 H τ) (q a0 H τ)
theorem s_keep_Few_eq (call : CallK) (N : Nat) (a0 a1 : V) (H : Heap) (τ : Tape) (q : KV) : s_keep_Few call N a0 a1 H τ q = funK call N fn_keep_Few [a0, a1] H τ q := by kernel_rfl
def e_keep_Few (call : CallK) (N : Nat) (vs : List V) (H : Heap) (τ : Tape) (q : KV) : Ans := match vs with | [a0, a1] => s_keep_Few call N a0 a1 H τ q | _ => none
theorem e_keep_Few_ok : EntOk fn_keep_Few e_keep_Few := by
  intro call N vs H τ q r h
  unfold e_keep_Few at h
  split at h
  · rw [s_keep_Few_eq] at h; exact h
  · cases h
theorem e_keep_Few_nat : EntNat e_keep_Few := by
  intro c hn N vs H τ q
  unfold e_keep_Few
  split
  · rw [s_keep_Few_eq, s_keep_Few_eq]; exact funK_ent hn _ _ _ _ _ _
  · rfl
/-- strings.ContainsAny -/
def fn_strings_ContainsAny : Fun := ⟨2, (.seq (.reg [iR 4 (.p .mv) [(.c (.bool false))]]) (.keep [0, 1] (.seq (.reg [iR 5 (.p .mv) [(.t 0)], iR 6 (.p .mv) [(.t 1)], iR 7 (.call 78) [(.t 5), (.t 6)], iR 8 (.p (.bin .geq)) [(.t 7), (.c (.int .i64 (.ofNat 0)))], iR 4 (.p .mv) [(.t 8)]]) (.keep [4] (.keep [4] .ret))))), [(.t 4)]⟩
def s_strings_ContainsAny (call : CallK) (N : Nat) (a0 a1 : V) (H : Heap) (τ : Tape) (q : KV) : Ans := call f_strings_IndexAny [a0, a1] H τ fun v0 H1 τ2 => binK .geq v0 (.int .i64 (.ofNat 0)) fun v3 => q v3 H1 τ2
theorem s_strings_ContainsAny_eq (call : CallK) (N : Nat) (a0 a1 : V) (H : Heap) (τ : Tape) (q : KV) : s_strings_ContainsAny call N a0 a1 H τ q = funK call N fn_strings_ContainsAny [a0, a1] H τ q := by kernel_rfl
def e_strings_ContainsAny (call : CallK) (N : Nat) (vs : List V) (H : Heap) (τ : Tape) (q : KV) : Ans := match vs with | [a0, a1] => s_strings_ContainsAny call N a0 a1 H τ q | _ => none
theorem e_strings_ContainsAny_ok : EntOk fn_strings_ContainsAny e_strings_ContainsAny := by
  intro call N vs H τ q r h
  unfold e_strings_ContainsAny at h
  split at h
  · rw [s_strings_ContainsAny_eq] at h; exact h
  · cases h
theorem e_strings_ContainsAny_nat : EntNat e_strings_ContainsAny := by
  intro c hn N vs H τ q
  unfold e_strings_ContainsAny
  split
  · rw [s_strings_ContainsAny_eq, s_strings_ContainsAny_eq]; exact funK_ent hn _ _ _ _ _ _
  · rfl
/-- ostiary/ostiaryref1.Lower -/
def fn_ref1_Lower : Fun := ⟨1, (.seq (.reg [iR 2 (.p .mv) [(.c (.str []))]]) (.keep [0] (.seq (.reg [iR 5 (.p .mv) [(.t 0)], iR 6 (.e .strBytes) [(.t 5)], iR 3 (.p .mv) [(.t 6)]]) (.keep [3] (.seq (.seq (.reg [iR 4 (.p .mv) [(.c (.int .i64 (.ofNat 0)))]]) (.keep [3, 4] (.block 0 (.loop (.keep [3, 4] (.seq (.seq (.reg [iR 7 (.p .mv) [(.t 4)], iR 8 (.p .mv) [(.t 3)], iR 9 (.p .len) [(.t 8)], iR 10 (.p (.bin .lss)) [(.t 7), (.t 9)]]) (.keep [3, 4, 10] (.cond (.t 10) .skip (.keep [3] (.exit 0))))) (.keep [3, 4] (.seq (.block 1 (.seq (.reg [iR 13 (.p .mv) [(.t 3)], iR 14 (.p .mv) [(.t 4)], iR 15 (.p (.slIdx 1)) [(.t 13), (.t 14)], iR 16 (.l (.load none)) [(.t 15)], iR 17 (.p (.bin .geq)) [(.t 16), (.c (.int .u8 (.ofNat 65)))], iR 18 (.p .mv) [(.t 17)], iG 19 18 true (.p .mv) [(.t 3)], iG 20 18 true (.p .mv) [(.t 4)], iG 21 18 true (.p (.slIdx 1)) [(.t 19), (.t 20)],
    iG 22 18 true (.l (.load none)) [(.t 21)], iG 23 18 true (.p (.bin .leq)) [(.t 22), (.c (.int .u8 (.ofNat 90)))], iR 24 (.p .pick) [(.t 18), (.t 23), (.c (.bool false))]]) (.keep [3, 4, 24] (.cond (.t 24) (.reg [iR 25 (.p .mv) [(.t 3)], iR 26 (.p .mv) [(.t 4)], iR 27 (.p .mv) [(.t 3)], iR 28 (.p .mv) [(.t 4)], iR 29 (.p (.slIdx 1)) [(.t 27), (.t 28)], iR 30 (.l (.load none)) [(.t 29)], iR 31 (.p (.bin .add)) [(.t 30), (.c (.int .u8 (.ofNat 32)))], iR 32 (.p (.slIdx 1)) [(.t 25), (.t 26)], ⟨none, none, (.e (.store 1)), [(.t 32), (.t 31)], none⟩]) .skip)))) (.keep [3, 4] (.reg [iR 11 (.p .mv) [(.t 4)], iR 12 (.p (.bin .add)) [(.t 11), (.c (.int .i64 (.ofNat 1)))], iR 4 (.p .mv) [(.t 12)]])))))))))) (.keep [3] (.seq (.reg [iR 33 (.p .mv) [(.t 3)], iR 34 (.l .bytesStr) [(.t 33)], iR 2 (.p .mv) [(.t 34)]]) (.keep [2] (.keep [2] .ret))))))))), [(.t 2)]⟩
def s_ref1_Lower_j0 (call : CallK) (N : Nat) (q : KV) (st : St) (τ : Tape) : Ans := match st with
  | ⟨fr, H⟩ => getK fr 3 fun t3 => someK (lBytesStr [t3] H) fun v3 => q v3 H τ
def s_ref1_Lower_j2 (call : CallK) (N : Nat) (k : KC) (st : St) (τ : Tape) : Ans := match st with
  | ⟨fr, H⟩ => getK fr 3 fun t3 => getK fr 4 fun t4 => binK .add t4 (.int .i64 (.ofNat 1)) fun v6 => k .normal ⟨(T.set (T.set (T.set (T.set (T.set .leaf 3 t3) 4 t4) 11 t4) 12 v6) 4 v6), H⟩ τ
def s_ref1_Lower_l1 (call : CallK) (N : Nat) (st : St) (τ : Tape) (k : KC) : Ans := match st with
  | ⟨fr, H⟩ => getK fr 3 fun t3 => getK fr 4 fun t4 => someK (pLen [t3]) fun v4 => binK .lss t4 v4 fun v5 => condK v5 (someK (pSlIdx 1 [t3, t4]) fun v7 => someK (lLoad1 [v7] H) fun v8 => binK .geq v8 (.int .u8 (.ofNat 65)) fun v9 => gK v9 true (fun q' => q' t3 H τ) H τ fun v10 H11 τ12 => gK v9 true (fun q' => q' t4 H11 τ12) H11 τ12 fun v13 H14 τ15 => gK v9 true (fun q' => someK (pSlIdx 1 [v10, v13]) fun v => q' v H14 τ15) H14 τ15 fun v16 H17 τ18 => gK v9 true (fun q' => someK (lLoad1 [v16] H17) fun v => q' v H17 τ18) H17 τ18 fun v19 H20 τ21 => gK v9 true (fun q' => binK .leq v19 (.int .u8 (.ofNat 90)) fun v => q' v H20 τ21) H20 τ21 fun v22 H23 τ24 => someK (pPick [v9, v22, (.bool false)]) fun v25 => condK v25 (someK (pSlIdx 1 [t3, t4]) fun v26 => someK (lLoad1 [v26] H23) fun v27 => binK .add v27 (.int .u8 (.ofNat 32)) fun v28 => someK (pSlIdx 1 [t3, t4]) fun v29 =>
    effK (eStore 1 [v29, v28] H23 τ24) fun v30 H31 τ32 => s_ref1_Lower_j2 call N k ⟨(T.set (T.set (T.set (T.set (T.set (T.set (T.set (T.set (T.set (T.set (T.set .leaf 3 t3) 4 t4) 24 v25) 25 t3) 26 t4) 27 t3) 28 t4) 29 v26) 30 v27) 31 v28) 32 v29), H31⟩ τ32) (s_ref1_Lower_j2 call N k ⟨(T.set (T.set (T.set .leaf 3 t3) 4 t4) 24 v25), H23⟩ τ24)) (k (.exit 0) ⟨(T.set .leaf 3 t3), H⟩ τ)
def s_ref1_Lower (call : CallK) (N : Nat) (a0 : V) (H : Heap) (τ : Tape) (q : KV) : Ans := effK (eStrBytes [a0] H τ) fun v0 H1 τ2 => loopK (s_ref1_Lower_l1 call N) N ⟨(T.set (T.set .leaf 3 v0) 4 (.int .i64 (.ofNat 0))), H1⟩ τ2 (blockK 0 (seqK (s_ref1_Lower_j0 call N q) (endK [(.t 2)] q)))
theorem s_ref1_Lower_eq (call : CallK) (N : Nat) (a0 : V) (H : Heap) (τ : Tape) (q : KV) : s_ref1_Lower call N a0 H τ q = funK call N fn_ref1_Lower [a0] H τ q := by kernel_rfl
def e_ref1_Lower (call : CallK) (N : Nat) (vs : List V) (H : Heap) (τ : Tape) (q : KV) : Ans := match vs with | [a0] => s_ref1_Lower call N a0 H τ q | _ => none
theorem e_ref1_Lower_ok : EntOk fn_ref1_Lower e_ref1_Lower := by
  intro call N vs H τ q r h
  unfold e_ref1_Lower at h
  split at h
  · rw [s_ref1_Lower_eq] at h; exact h
  · cases h
theorem e_ref1_Lower_nat : EntNat e_ref1_Lower := by
  intro c hn N vs H τ q
  unfold e_ref1_Lower
  split
  · rw [s_ref1_Lower_eq, s_ref1_Lower_eq]; exact funK_ent hn _ _ _ _ _ _
  · rfl
/-- strings.trimLeftByte -/
def fn_strings_trimLeftByte : Fun := ⟨2, (.seq (.reg [iR 4 (.p .mv) [(.c (.str []))]]) (.keep [0, 1] (.seq (.block 0 (.loop (.keep [0, 1] (.seq (.seq (.reg [iR 5 (.p .mv) [(.t 0)], iR 6 (.p .lenS) [(.t 5)], iR 7 (.p (.bin .gtr)) [(.t 6), (.c (.int .i64 (.ofNat 0)))], iR 8 (.p .mv) [(.t 7)], iG 9 8 true (.p .mv) [(.t 0)], iG 10 8 true (.p .strIndex) [(.t 9), (.c (.int .i64 (.ofNat 0)))], iG 11 8 true (.p .mv) [(.t 1)], iG 12 8 true (.p (.bin .eql)) [(.t 10), (.t 11)], iR 13 (.p .pick) [(.t 8), (.t 12), (.c (.bool false))]]) (.keep [0, 1, 13] (.cond (.t 13) .skip (.keep [0] (.exit 0))))) (.keep [0, 1] (.block 1 (.reg [iR 14 (.p .mv) [(.t 0)], iR 15 (.p (.strSlice true false)) [(.t 14), (.c (.int .i64 (.ofNat 1)))], iR 0 (.p .mv) [(.t 15)]]))))))) (.keep [0] (.seq (.reg [iR 16 (.p .mv) [(.t 0)], iR 4 (.p .mv) [(.t 16)]]) (.keep [4] (.keep [4] .ret))))))), [(.t 4)]⟩
def s_strings_trimLeftByte_j0 (call : CallK) (N : Nat) (q : KV) (st : St) (τ : Tape) : Ans := match st with
  | ⟨fr, H⟩ => getK fr 0 fun t0 => q t0 H τ
def s_strings_trimLeftByte_l1 (call : CallK) (N : Nat) (st : St) (τ : Tape) (k : KC) : Ans := match st with
  | ⟨fr, H⟩ => getK fr 0 fun t0 => getK fr 1 fun t1 => someK (pLenS [t0]) fun v0 => binK .gtr v0 (.int .i64 (.ofNat 0)) fun v1 => gK v1 true (fun q' => q' t0 H τ) H τ fun v2 H3 τ4 => gK v1 true (fun q' => someK (pStrIndex [v2, (.int .i64 (.ofNat 0))]) fun v => q' v H3 τ4) H3 τ4 fun v5 H6 τ7 => gK v1 true (fun q' => q' t1 H6 τ7) H6 τ7 fun v8 H9 τ10 => gK v1 true (fun q' => binK .eql v5 v8 fun v => q' v H9 τ10) H9 τ10 fun v11 H12 τ13 => someK (pPick [v1, v11, (.bool false)]) fun v14 => condK v14 (someK (pStrSlice true false [t0, (.int .i64 (.ofNat 1))]) fun v15 => k .normal ⟨(T.set (T.set (T.set (T.set (T.set .leaf 0 t0) 1 t1) 14 t0) 15 v15) 0 v15), H12⟩ τ13) (k (.exit 0) ⟨(T.set .leaf 0 t0), H12⟩ τ13)
def s_strings_trimLeftByte (call : CallK) (N : Nat) (a0 a1 : V) (H : Heap) (τ : Tape) (q : KV) : Ans := loopK (s_strings_trimLeftByte_l1 call N) N ⟨(T.set (T.set .leaf 0 a0) 1 a1), H⟩ τ (blockK 0 (seqK (s_strings_trimLeftByte_j0 call N q) (endK [(.t 4)] q)))
theorem s_strings_trimLeftByte_eq (call : CallK) (N : Nat) (a0 a1 : V) (H : Heap) (τ : Tape) (q : KV) : s_strings_trimLeftByte call N a0 a1 H τ q = funK call N fn_strings_trimLeftByte [a0, a1] H τ q := by kernel_rfl
def e_strings_trimLeftByte (call : CallK) (N : Nat) (vs : List V) (H : Heap) (τ : Tape) (q : KV) : Ans := match vs with | [a0, a1] => s_strings_trimLeftByte call N a0 a1 H τ q | _ => none
theorem e_strings_trimLeftByte_ok : EntOk fn_strings_trimLeftByte e_strings_trimLeftByte := by
  intro call N vs H τ q r h
  unfold e_strings_trimLeftByte at h
  split at h
  · rw [s_strings_trimLeftByte_eq] at h; exact h
  · cases h
theorem e_strings_trimLeftByte_nat : EntNat e_strings_trimLeftByte := by
  intro c hn N vs H τ q
  unfold e_strings_trimLeftByte
  split
  · rw [s_strings_trimLeftByte_eq, s_strings_trimLeftByte_eq]; exact funK_ent hn _ _ _ _ _ _
  · rfl
/-- strings.trimRightByte -/
def fn_strings_trimRightByte : Fun := ⟨2, (.seq (.reg [iR 4 (.p .mv) [(.c (.str []))]]) (.keep [0, 1] (.seq (.block 0 (.loop (.keep [0, 1] (.seq (.seq (.reg [iR 5 (.p .mv) [(.t 0)], iR 6 (.p .lenS) [(.t 5)], iR 7 (.p (.bin .gtr)) [(.t 6), (.c (.int .i64 (.ofNat 0)))], iR 8 (.p .mv) [(.t 7)], iG 9 8 true (.p .mv) [(.t 0)], iG 10 8 true (.p .mv) [(.t 0)], iG 11 8 true (.p .lenS) [(.t 10)], iG 12 8 true (.p (.bin .sub)) [(.t 11), (.c (.int .i64 (.ofNat 1)))], iG 13 8 true (.p .strIndex) [(.t 9), (.t 12)], iG 14 8 true (.p .mv) [(.t 1)], iG 15 8 true (.p (.bin .eql)) [(.t 13), (.t 14)], iR 16 (.p .pick) [(.t 8), (.t 15), (.c (.bool false))]]) (.keep [0, 1, 16] (.cond (.t 16) .skip (.keep [0] (.exit 0))))) (.keep [0, 1] (.block 1 (.reg [iR 17 (.p .mv) [(.t 0)], iR 18 (.p .mv) [(.t 0)], iR 19 (.p .lenS) [(.t 18)], iR 20 (.p (.bin .sub)) [(.t 19), (.c (.int .i64 (.ofNat 1)))],
    iR 21 (.p (.strSlice false true)) [(.t 17), (.t 20)], iR 0 (.p .mv) [(.t 21)]]))))))) (.keep [0] (.seq (.reg [iR 22 (.p .mv) [(.t 0)], iR 4 (.p .mv) [(.t 22)]]) (.keep [4] (.keep [4] .ret))))))), [(.t 4)]⟩
def s_strings_trimRightByte_j0 (call : CallK) (N : Nat) (q : KV) (st : St) (τ : Tape) : Ans := match st with
  | ⟨fr, H⟩ => getK fr 0 fun t0 => q t0 H τ
def s_strings_trimRightByte_l1 (call : CallK) (N : Nat) (st : St) (τ : Tape) (k : KC) : Ans := match st with
  | ⟨fr, H⟩ => getK fr 0 fun t0 => getK fr 1 fun t1 => someK (pLenS [t0]) fun v0 => binK .gtr v0 (.int .i64 (.ofNat 0)) fun v1 => gK v1 true (fun q' => q' t0 H τ) H τ fun v2 H3 τ4 => gK v1 true (fun q' => q' t0 H3 τ4) H3 τ4 fun v5 H6 τ7 => gK v1 true (fun q' => someK (pLenS [v5]) fun v => q' v H6 τ7) H6 τ7 fun v8 H9 τ10 => gK v1 true (fun q' => binK .sub v8 (.int .i64 (.ofNat 1)) fun v => q' v H9 τ10) H9 τ10 fun v11 H12 τ13 => gK v1 true (fun q' => someK (pStrIndex [v2, v11]) fun v => q' v H12 τ13) H12 τ13 fun v14 H15 τ16 => gK v1 true (fun q' => q' t1 H15 τ16) H15 τ16 fun v17 H18 τ19 => gK v1 true (fun q' => binK .eql v14 v17 fun v => q' v H18 τ19) H18 τ19 fun v20 H21 τ22 => someK (pPick [v1, v20, (.bool false)]) fun v23 => condK v23 (someK (pLenS [t0]) fun v24 => binK .sub v24 (.int .i64 (.ofNat 1)) fun v25 => someK (pStrSlice false true [t0, v25]) fun v26 =>
    k .normal ⟨(T.set (T.set (T.set (T.set (T.set (T.set (T.set (T.set .leaf 0 t0) 1 t1) 17 t0) 18 t0) 19 v24) 20 v25) 21 v26) 0 v26), H21⟩ τ22) (k (.exit 0) ⟨(T.set .leaf 0 t0), H21⟩ τ22)
def s_strings_trimRightByte (call : CallK) (N : Nat) (a0 a1 : V) (H : Heap) (τ : Tape) (q : KV) : Ans := loopK (s_strings_trimRightByte_l1 call N) N ⟨(T.set (T.set .leaf 0 a0) 1 a1), H⟩ τ (blockK 0 (seqK (s_strings_trimRightByte_j0 call N q) (endK [(.t 4)] q)))
theorem s_strings_trimRightByte_eq (call : CallK) (N : Nat) (a0 a1 : V) (H : Heap) (τ : Tape) (q : KV) : s_strings_trimRightByte call N a0 a1 H τ q = funK call N fn_strings_trimRightByte [a0, a1] H τ q := by kernel_rfl
def e_strings_trimRightByte (call : CallK) (N : Nat) (vs : List V) (H : Heap) (τ : Tape) (q : KV) : Ans := match vs with | [a0, a1] => s_strings_trimRightByte call N a0 a1 H τ q | _ => none
theorem e_strings_trimRightByte_ok : EntOk fn_strings_trimRightByte e_strings_trimRightByte := by
  intro call N vs H τ q r h
  unfold e_strings_trimRightByte at h
  split at h
  · rw [s_strings_trimRightByte_eq] at h; exact h
  · cases h
theorem e_strings_trimRightByte_nat : EntNat e_strings_trimRightByte := by
  intro c hn N vs H τ q
  unfold e_strings_trimRightByte
  split
  · rw [s_strings_trimRightByte_eq, s_strings_trimRightByte_eq]; exact funK_ent hn _ _ _ _ _ _
  · rfl
/-- strings.makeASCIISet -/
def fn_strings_makeASCIISet : Fun := ⟨1, (.seq (.reg [iR 2 (.e (.alloc (repl 256 [(.bool false)]))) [], iR 3 (.p .mv) [(.c (.bool false))]]) (.keep [0, 2] (.seq (.seq (.reg [iR 4 (.p .mv) [(.c (.int .i64 (.ofNat 0)))]]) (.keep [0, 2, 4] (.block 0 (.loop (.keep [0, 2, 4] (.seq (.seq (.reg [iR 6 (.p .mv) [(.t 4)], iR 7 (.p .mv) [(.t 0)], iR 8 (.p .lenS) [(.t 7)], iR 9 (.p (.bin .lss)) [(.t 6), (.t 8)]]) (.keep [0, 2, 4, 9] (.cond (.t 9) .skip (.keep [2] (.exit 0))))) (.keep [0, 2, 4] (.seq (.block 1 (.seq (.reg [iR 12 (.p .mv) [(.t 0)], iR 13 (.p .mv) [(.t 4)], iR 14 (.p .strIndex) [(.t 12), (.t 13)], iR 5 (.p .mv) [(.t 14)]]) (.keep [0, 2, 4, 5] (.seq (.seq (.reg [iR 15 (.p .mv) [(.t 5)], iR 16 (.p (.bin .geq)) [(.t 15), (.c (.int .u8 (.ofNat 128)))]]) (.keep [0, 2, 4, 5, 16] (.cond (.t 16) (.seq (.reg [iR 17 (.l (.load (some 256))) [(.t 2)],
    ⟨none, none, (.e (.store 256)), [(.t 2), (.t 17)], none⟩, iR 3 (.p .mv) [(.c (.bool false))]]) (.keep [2, 3] (.keep [2, 3] .ret))) .skip))) (.keep [0, 2, 4, 5] (.reg [iR 18 (.p .mv) [(.t 5)], iR 19 (.p (.arrIdx 256 1)) [(.t 2), (.t 18)], ⟨none, none, (.e (.store 1)), [(.t 19), (.c (.bool true))], none⟩])))))) (.keep [0, 2, 4] (.reg [iR 10 (.p .mv) [(.t 4)], iR 11 (.p (.bin .add)) [(.t 10), (.c (.int .i64 (.ofNat 1)))], iR 4 (.p .mv) [(.t 11)]])))))))))) (.keep [2] (.seq (.reg [iR 20 (.l (.load (some 256))) [(.t 2)], ⟨none, none, (.e (.store 256)), [(.t 2), (.t 20)], none⟩, iR 3 (.p .mv) [(.c (.bool true))]]) (.keep [2, 3] (.keep [2, 3] .ret))))))), [(.cell 2 (some 256)), (.t 3)]⟩
def s_strings_makeASCIISet_j0 (call : CallK) (N : Nat) (q : KV) (st : St) (τ : Tape) : Ans := match st with
  | ⟨fr, H⟩ => getK fr 2 fun t2 => someK (lLoadN 256 [t2] H) fun v3 => effK (eStore 256 [t2, v3] H τ) fun v4 H5 τ6 => someK (results ⟨(T.set (T.set .leaf 2 t2) 3 (.bool true)), H5⟩ [(.cell 2 (some 256)), (.t 3)]) fun v => q v H5 τ6
def s_strings_makeASCIISet_l1 (call : CallK) (N : Nat) (st : St) (τ : Tape) (k : KC) : Ans := match st with
  | ⟨fr, H⟩ => getK fr 0 fun t0 => getK fr 2 fun t2 => getK fr 4 fun t4 => someK (pLenS [t0]) fun v7 => binK .lss t4 v7 fun v8 => condK v8 (someK (pStrIndex [t0, t4]) fun v9 => binK .geq v9 (.int .u8 (.ofNat 128)) fun v10 => condK v10 (someK (lLoadN 256 [t2] H) fun v11 => effK (eStore 256 [t2, v11] H τ) fun v12 H13 τ14 => k .ret ⟨(T.set (T.set .leaf 2 t2) 3 (.bool false)), H13⟩ τ14) (someK (pArrIdx 256 1 [t2, v9]) fun v15 => effK (eStore 1 [v15, (.bool true)] H τ) fun v16 H17 τ18 => binK .add t4 (.int .i64 (.ofNat 1)) fun v19 => k .normal ⟨(T.set (T.set (T.set (T.set (T.set (T.set .leaf 0 t0) 2 t2) 4 t4) 10 t4) 11 v19) 4 v19), H17⟩ τ18)) (k (.exit 0) ⟨(T.set .leaf 2 t2), H⟩ τ)
def s_strings_makeASCIISet (call : CallK) (N : Nat) (a0 : V) (H : Heap) (τ : Tape) (q : KV) : Ans := effK (eAlloc (repl 256 [(.bool false)]) [] H τ) fun v0 H1 τ2 => loopK (s_strings_makeASCIISet_l1 call N) N ⟨(T.set (T.set (T.set .leaf 0 a0) 2 v0) 4 (.int .i64 (.ofNat 0))), H1⟩ τ2 (blockK 0 (seqK (s_strings_makeASCIISet_j0 call N q) (endK [(.cell 2 (some 256)), (.t 3)] q)))
theorem s_strings_makeASCIISet_eq (call : CallK) (N : Nat) (a0 : V) (H : Heap) (τ : Tape) (q : KV) : s_strings_makeASCIISet call N a0 H τ q = funK call N fn_strings_makeASCIISet [a0] H τ q := by kernel_rfl
def e_strings_makeASCIISet (call : CallK) (N : Nat) (vs : List V) (H : Heap) (τ : Tape) (q : KV) : Ans := match vs with | [a0] => s_strings_makeASCIISet call N a0 H τ q | _ => none
theorem e_strings_makeASCIISet_ok : EntOk fn_strings_makeASCIISet e_strings_makeASCIISet := by
  intro call N vs H τ q r h
  unfold e_strings_makeASCIISet at h
  split at h
  · rw [s_strings_makeASCIISet_eq] at h; exact h
  · cases h
theorem e_strings_makeASCIISet_nat : EntNat e_strings_makeASCIISet := by
  intro c hn N vs H τ q
  unfold e_strings_makeASCIISet
  split
  · rw [s_strings_makeASCIISet_eq, s_strings_makeASCIISet_eq]; exact funK_ent hn _ _ _ _ _ _
  · rfl
/-- strings.trimLeftASCII -/
def fn_strings_trimLeftASCII : Fun := ⟨2, (.seq (.reg [iR 4 (.p .mv) [(.c (.str []))]]) (.keep [0, 1] (.seq (.block 0 (.loop (.keep [0, 1] (.seq (.seq (.reg [iR 5 (.p .mv) [(.t 0)], iR 6 (.p .lenS) [(.t 5)], iR 7 (.p (.bin .gtr)) [(.t 6), (.c (.int .i64 (.ofNat 0)))]]) (.keep [0, 1, 7] (.cond (.t 7) .skip (.keep [0] (.exit 0))))) (.keep [0, 1] (.block 1 (.seq (.seq (.reg [iR 8 (.p .mv) [(.t 1)], iR 9 (.p .mv) [(.t 0)], iR 10 (.p .strIndex) [(.t 9), (.c (.int .i64 (.ofNat 0)))], iR 11 (.call 81) [(.t 8), (.t 10)], iR 12 (.p (.un .not)) [(.t 11)]]) (.keep [0, 1, 12] (.cond (.t 12) (.keep [0] (.exit 0)) .skip))) (.keep [0, 1] (.reg [iR 13 (.p .mv) [(.t 0)], iR 14 (.p (.strSlice true false)) [(.t 13), (.c (.int .i64 (.ofNat 1)))], iR 0 (.p .mv) [(.t 14)]]))))))))) (.keep [0] (.seq (.reg [iR 15 (.p .mv) [(.t 0)], iR 4 (.p .mv) [(.t 15)]]) (.keep [4] (.keep [4] .ret))))))), [(.t 4)]⟩
def s_strings_trimLeftASCII_j0 (call : CallK) (N : Nat) (q : KV) (st : St) (τ : Tape) : Ans := match st with
  | ⟨fr, H⟩ => getK fr 0 fun t0 => q t0 H τ
def s_strings_trimLeftASCII_l1 (call : CallK) (N : Nat) (st : St) (τ : Tape) (k : KC) : Ans := match st with
  | ⟨fr, H⟩ => getK fr 0 fun t0 => getK fr 1 fun t1 => someK (pLenS [t0]) fun v0 => binK .gtr v0 (.int .i64 (.ofNat 0)) fun v1 => condK v1 (someK (pStrIndex [t0, (.int .i64 (.ofNat 0))]) fun v2 => call f_asciiSet_contains [t1, v2] H τ fun v3 H4 τ5 => unK .not v3 fun v6 => condK v6 (k (.exit 0) ⟨(T.set .leaf 0 t0), H4⟩ τ5) (someK (pStrSlice true false [t0, (.int .i64 (.ofNat 1))]) fun v7 => k .normal ⟨(T.set (T.set (T.set (T.set (T.set .leaf 0 t0) 1 t1) 13 t0) 14 v7) 0 v7), H4⟩ τ5)) (k (.exit 0) ⟨(T.set .leaf 0 t0), H⟩ τ)
def s_strings_trimLeftASCII (call : CallK) (N : Nat) (a0 a1 : V) (H : Heap) (τ : Tape) (q : KV) : Ans := loopK (s_strings_trimLeftASCII_l1 call N) N ⟨(T.set (T.set .leaf 0 a0) 1 a1), H⟩ τ (blockK 0 (seqK (s_strings_trimLeftASCII_j0 call N q) (endK [(.t 4)] q)))
theorem s_strings_trimLeftASCII_eq (call : CallK) (N : Nat) (a0 a1 : V) (H : Heap) (τ : Tape) (q : KV) : s_strings_trimLeftASCII call N a0 a1 H τ q = funK call N fn_strings_trimLeftASCII [a0, a1] H τ q := by kernel_rfl
def e_strings_trimLeftASCII (call : CallK) (N : Nat) (vs : List V) (H : Heap) (τ : Tape) (q : KV) : Ans := match vs with | [a0, a1] => s_strings_trimLeftASCII call N a0 a1 H τ q | _ => none
theorem e_strings_trimLeftASCII_ok : EntOk fn_strings_trimLeftASCII e_strings_trimLeftASCII := by
  intro call N vs H τ q r h
  unfold e_strings_trimLeftASCII at h
  split at h
  · rw [s_strings_trimLeftASCII_eq] at h; exact h
  · cases h
theorem e_strings_trimLeftASCII_nat : EntNat e_strings_trimLeftASCII := by
  intro c hn N vs H τ q
  unfold e_strings_trimLeftASCII
  split
  · rw [s_strings_trimLeftASCII_eq, s_strings_trimLeftASCII_eq]; exact funK_ent hn _ _ _ _ _ _
  · rfl
/-- strings.trimRightASCII -/
def fn_strings_trimRightASCII : Fun := ⟨2, (.seq (.reg [iR 4 (.p .mv) [(.c (.str []))]]) (.keep [0, 1] (.seq (.block 0 (.loop (.keep [0, 1] (.seq (.seq (.reg [iR 5 (.p .mv) [(.t 0)], iR 6 (.p .lenS) [(.t 5)], iR 7 (.p (.bin .gtr)) [(.t 6), (.c (.int .i64 (.ofNat 0)))]]) (.keep [0, 1, 7] (.cond (.t 7) .skip (.keep [0] (.exit 0))))) (.keep [0, 1] (.block 1 (.seq (.seq (.reg [iR 8 (.p .mv) [(.t 1)], iR 9 (.p .mv) [(.t 0)], iR 10 (.p .mv) [(.t 0)], iR 11 (.p .lenS) [(.t 10)], iR 12 (.p (.bin .sub)) [(.t 11), (.c (.int .i64 (.ofNat 1)))], iR 13 (.p .strIndex) [(.t 9), (.t 12)], iR 14 (.call 81) [(.t 8), (.t 13)], iR 15 (.p (.un .not)) [(.t 14)]]) (.keep [0, 1, 15] (.cond (.t 15) (.keep [0] (.exit 0)) .skip))) (.keep [0, 1] (.reg [iR 16 (.p .mv) [(.t 0)], iR 17 (.p .mv) [(.t 0)], iR 18 (.p .lenS) [(.t 17)], iR 19 (.p (.bin .sub)) [(.t 18), (.c (.int .i64 (.ofNat 1)))],
    iR 20 (.p (.strSlice false true)) [(.t 16), (.t 19)], iR 0 (.p .mv) [(.t 20)]]))))))))) (.keep [0] (.seq (.reg [iR 21 (.p .mv) [(.t 0)], iR 4 (.p .mv) [(.t 21)]]) (.keep [4] (.keep [4] .ret))))))), [(.t 4)]⟩
def s_strings_trimRightASCII_j0 (call : CallK) (N : Nat) (q : KV) (st : St) (τ : Tape) : Ans := match st with
  | ⟨fr, H⟩ => getK fr 0 fun t0 => q t0 H τ
def s_strings_trimRightASCII_l1 (call : CallK) (N : Nat) (st : St) (τ : Tape) (k : KC) : Ans := match st with
  | ⟨fr, H⟩ => getK fr 0 fun t0 => getK fr 1 fun t1 => someK (pLenS [t0]) fun v0 => binK .gtr v0 (.int .i64 (.ofNat 0)) fun v1 => condK v1 (someK (pLenS [t0]) fun v2 => binK .sub v2 (.int .i64 (.ofNat 1)) fun v3 => someK (pStrIndex [t0, v3]) fun v4 => call f_asciiSet_contains [t1, v4] H τ fun v5 H6 τ7 => unK .not v5 fun v8 => condK v8 (k (.exit 0) ⟨(T.set .leaf 0 t0), H6⟩ τ7) (someK (pLenS [t0]) fun v9 => binK .sub v9 (.int .i64 (.ofNat 1)) fun v10 => someK (pStrSlice false true [t0, v10]) fun v11 => k .normal ⟨(T.set (T.set (T.set (T.set (T.set (T.set (T.set (T.set .leaf 0 t0) 1 t1) 16 t0) 17 t0) 18 v9) 19 v10) 20 v11) 0 v11), H6⟩ τ7)) (k (.exit 0) ⟨(T.set .leaf 0 t0), H⟩ τ)
def s_strings_trimRightASCII (call : CallK) (N : Nat) (a0 a1 : V) (H : Heap) (τ : Tape) (q : KV) : Ans := loopK (s_strings_trimRightASCII_l1 call N) N ⟨(T.set (T.set .leaf 0 a0) 1 a1), H⟩ τ (blockK 0 (seqK (s_strings_trimRightASCII_j0 call N q) (endK [(.t 4)] q)))
theorem s_strings_trimRightASCII_eq (call : CallK) (N : Nat) (a0 a1 : V) (H : Heap) (τ : Tape) (q : KV) : s_strings_trimRightASCII call N a0 a1 H τ q = funK call N fn_strings_trimRightASCII [a0, a1] H τ q := by kernel_rfl
def e_strings_trimRightASCII (call : CallK) (N : Nat) (vs : List V) (H : Heap) (τ : Tape) (q : KV) : Ans := match vs with | [a0, a1] => s_strings_trimRightASCII call N a0 a1 H τ q | _ => none
theorem e_strings_trimRightASCII_ok : EntOk fn_strings_trimRightASCII e_strings_trimRightASCII := by
  intro call N vs H τ q r h
  unfold e_strings_trimRightASCII at h
  split at h
  · rw [s_strings_trimRightASCII_eq] at h; exact h
  · cases h
theorem e_strings_trimRightASCII_nat : EntNat e_strings_trimRightASCII := by
  intro c hn N vs H τ q
  unfold e_strings_trimRightASCII
  split
  · rw [s_strings_trimRightASCII_eq, s_strings_trimRightASCII_eq]; exact funK_ent hn _ _ _ _ _ _
  · rfl
/-- strings.trimLeftUnicode -/
def fn_strings_trimLeftUnicode : Fun := ⟨2, (.seq (.reg [iR 4 (.p .mv) [(.c (.str []))]]) (.keep [0, 1] (.seq (.block 0 (.loop (.keep [0, 1] (.seq (.seq (.reg [iR 7 (.p .mv) [(.t 0)], iR 8 (.p .lenS) [(.t 7)], iR 9 (.p (.bin .gtr)) [(.t 8), (.c (.int .i64 (.ofNat 0)))]]) (.keep [0, 1, 9] (.cond (.t 9) .skip (.keep [0] (.exit 0))))) (.keep [0, 1] (.block 1 (.seq (.reg [iR 11 (.p .mv) [(.t 0)], iR 12 (.call 82) [(.t 11)], iR 10 (.p .mv) [(.t 12)], iR 13 (.p (.extract 0)) [(.t 10)], iR 14 (.p (.extract 1)) [(.t 10)], iR 5 (.p .mv) [(.t 13)], iR 6 (.p .mv) [(.t 14)]]) (.keep [0, 1, 5, 6] (.seq (.seq (.reg [iR 15 (.p .mv) [(.t 1)], iR 16 (.p .mv) [(.t 5)], iR 17 (.call 83) [(.t 15), (.t 16)], iR 18 (.p (.un .not)) [(.t 17)]]) (.keep [0, 1, 6, 18] (.cond (.t 18) (.keep [0] (.exit 0)) .skip))) (.keep [0, 1, 6] (.reg [iR 19 (.p .mv) [(.t 0)], iR 20 (.p .mv) [(.t 6)],
    iR 21 (.p (.strSlice true false)) [(.t 19), (.t 20)], iR 0 (.p .mv) [(.t 21)]]))))))))))) (.keep [0] (.seq (.reg [iR 22 (.p .mv) [(.t 0)], iR 4 (.p .mv) [(.t 22)]]) (.keep [4] (.keep [4] .ret))))))), [(.t 4)]⟩
def s_strings_trimLeftUnicode_j0 (call : CallK) (N : Nat) (q : KV) (st : St) (τ : Tape) : Ans := match st with
  | ⟨fr, H⟩ => getK fr 0 fun t0 => q t0 H τ
def s_strings_trimLeftUnicode_l1 (call : CallK) (N : Nat) (st : St) (τ : Tape) (k : KC) : Ans := match st with
  | ⟨fr, H⟩ => getK fr 0 fun t0 => getK fr 1 fun t1 => someK (pLenS [t0]) fun v0 => binK .gtr v0 (.int .i64 (.ofNat 0)) fun v1 => condK v1 (call f_utf8_DecodeRuneInString [t0] H τ fun v2 H3 τ4 => someK (pExtract 0 [v2]) fun v5 => someK (pExtract 1 [v2]) fun v6 => call f_strings_ContainsRune [t1, v5] H3 τ4 fun v7 H8 τ9 => unK .not v7 fun v10 => condK v10 (k (.exit 0) ⟨(T.set .leaf 0 t0), H8⟩ τ9) (someK (pStrSlice true false [t0, v6]) fun v11 => k .normal ⟨(T.set (T.set (T.set (T.set (T.set (T.set (T.set .leaf 0 t0) 1 t1) 6 v6) 19 t0) 20 v6) 21 v11) 0 v11), H8⟩ τ9)) (k (.exit 0) ⟨(T.set .leaf 0 t0), H⟩ τ)
def s_strings_trimLeftUnicode (call : CallK) (N : Nat) (a0 a1 : V) (H : Heap) (τ : Tape) (q : KV) : Ans := loopK (s_strings_trimLeftUnicode_l1 call N) N ⟨(T.set (T.set .leaf 0 a0) 1 a1), H⟩ τ (blockK 0 (seqK (s_strings_trimLeftUnicode_j0 call N q) (endK [(.t 4)] q)))
theorem s_strings_trimLeftUnicode_eq (call : CallK) (N : Nat) (a0 a1 : V) (H : Heap) (τ : Tape) (q : KV) : s_strings_trimLeftUnicode call N a0 a1 H τ q = funK call N fn_strings_trimLeftUnicode [a0, a1] H τ q := by kernel_rfl
def e_strings_trimLeftUnicode (call : CallK) (N : Nat) (vs : List V) (H : Heap) (τ : Tape) (q : KV) : Ans := match vs with | [a0, a1] => s_strings_trimLeftUnicode call N a0 a1 H τ q | _ => none
theorem e_strings_trimLeftUnicode_ok : EntOk fn_strings_trimLeftUnicode e_strings_trimLeftUnicode := by
  intro call N vs H τ q r h
  unfold e_strings_trimLeftUnicode at h
  split at h
  · rw [s_strings_trimLeftUnicode_eq] at h; exact h
  · cases h
theorem e_strings_trimLeftUnicode_nat : EntNat e_strings_trimLeftUnicode := by
  intro c hn N vs H τ q
  unfold e_strings_trimLeftUnicode
  split
  · rw [s_strings_trimLeftUnicode_eq, s_strings_trimLeftUnicode_eq]; exact funK_ent hn _ _ _ _ _ _
  · rfl
/-- strings.trimRightUnicode -/
def fn_strings_trimRightUnicode : Fun := ⟨2, (.seq (.reg [iR 4 (.p .mv) [(.c (.str []))]]) (.keep [0, 1] (.seq (.block 0 (.loop (.keep [0, 1] (.seq (.seq (.reg [iR 7 (.p .mv) [(.t 0)], iR 8 (.p .lenS) [(.t 7)], iR 9 (.p (.bin .gtr)) [(.t 8), (.c (.int .i64 (.ofNat 0)))]]) (.keep [0, 1, 9] (.cond (.t 9) .skip (.keep [0] (.exit 0))))) (.keep [0, 1] (.block 1 (.seq (.reg [iR 10 (.p .mv) [(.t 0)], iR 11 (.p .mv) [(.t 0)], iR 12 (.p .lenS) [(.t 11)], iR 13 (.p (.bin .sub)) [(.t 12), (.c (.int .i64 (.ofNat 1)))], iR 14 (.p .strIndex) [(.t 10), (.t 13)], iR 15 (.p (.toInt .i32)) [(.t 14)], iR 5 (.p .mv) [(.t 15)], iR 6 (.p .mv) [(.c (.int .i64 (.ofNat 1)))]]) (.keep [0, 1, 5, 6] (.seq (.seq (.reg [iR 16 (.p .mv) [(.t 5)], iR 17 (.p (.bin .geq)) [(.t 16), (.c (.int .i32 (.ofNat 128)))]]) (.keep [0, 1, 5, 6, 17] (.cond (.t 17) (.reg [iR 19 (.p .mv) [(.t 0)], iR 20 (.call 84) [(.t 19)],
    iR 18 (.p .mv) [(.t 20)], iR 21 (.p (.extract 0)) [(.t 18)], iR 22 (.p (.extract 1)) [(.t 18)], iR 5 (.p .mv) [(.t 21)], iR 6 (.p .mv) [(.t 22)]]) .skip))) (.keep [0, 1, 5, 6] (.seq (.seq (.reg [iR 23 (.p .mv) [(.t 1)], iR 24 (.p .mv) [(.t 5)], iR 25 (.call 83) [(.t 23), (.t 24)], iR 26 (.p (.un .not)) [(.t 25)]]) (.keep [0, 1, 6, 26] (.cond (.t 26) (.keep [0] (.exit 0)) .skip))) (.keep [0, 1, 6] (.reg [iR 27 (.p .mv) [(.t 0)], iR 28 (.p .mv) [(.t 0)], iR 29 (.p .lenS) [(.t 28)], iR 30 (.p .mv) [(.t 6)], iR 31 (.p (.bin .sub)) [(.t 29), (.t 30)], iR 32 (.p (.strSlice false true)) [(.t 27), (.t 31)], iR 0 (.p .mv) [(.t 32)]]))))))))))))) (.keep [0] (.seq (.reg [iR 33 (.p .mv) [(.t 0)], iR 4 (.p .mv) [(.t 33)]]) (.keep [4] (.keep [4] .ret))))))), [(.t 4)]⟩
def s_strings_trimRightUnicode_j0 (call : CallK) (N : Nat) (q : KV) (st : St) (τ : Tape) : Ans := match st with
  | ⟨fr, H⟩ => getK fr 0 fun t0 => q t0 H τ
def s_strings_trimRightUnicode_j2 (call : CallK) (N : Nat) (k : KC) (st : St) (τ : Tape) : Ans := match st with
  | ⟨fr, H⟩ => getK fr 0 fun t0 => getK fr 1 fun t1 => getK fr 5 fun t5 => getK fr 6 fun t6 => call f_strings_ContainsRune [t1, t5] H τ fun v7 H8 τ9 => unK .not v7 fun v10 => condK v10 (k (.exit 0) ⟨(T.set .leaf 0 t0), H8⟩ τ9) (someK (pLenS [t0]) fun v11 => binK .sub v11 t6 fun v12 => someK (pStrSlice false true [t0, v12]) fun v13 => k .normal ⟨(T.set (T.set (T.set (T.set (T.set (T.set (T.set (T.set (T.set (T.set .leaf 0 t0) 1 t1) 6 t6) 27 t0) 28 t0) 29 v11) 30 t6) 31 v12) 32 v13) 0 v13), H8⟩ τ9)
def s_strings_trimRightUnicode_l1 (call : CallK) (N : Nat) (st : St) (τ : Tape) (k : KC) : Ans := match st with
  | ⟨fr, H⟩ => getK fr 0 fun t0 => getK fr 1 fun t1 => someK (pLenS [t0]) fun v0 => binK .gtr v0 (.int .i64 (.ofNat 0)) fun v1 => condK v1 (someK (pLenS [t0]) fun v2 => binK .sub v2 (.int .i64 (.ofNat 1)) fun v3 => someK (pStrIndex [t0, v3]) fun v4 => toIntK .i32 v4 fun v5 => binK .geq v5 (.int .i32 (.ofNat 128)) fun v6 => condK v6 (call f_utf8_DecodeLastRuneInString [t0] H τ fun v14 H15 τ16 => someK (pExtract 0 [v14]) fun v17 => someK (pExtract 1 [v14]) fun v18 => s_strings_trimRightUnicode_j2 call N k ⟨(T.set (T.set (T.set (T.set (T.set (T.set (T.set (T.set (T.set (T.set (T.set (T.set .leaf 0 t0) 1 t1) 5 v5) 6 (.int .i64 (.ofNat 1))) 17 v6) 19 t0) 20 v14) 18 v14) 21 v17) 22 v18) 5 v17) 6 v18), H15⟩ τ16) (s_strings_trimRightUnicode_j2 call N k ⟨(T.set (T.set (T.set (T.set (T.set .leaf 0 t0) 1 t1) 5 v5) 6 (.int .i64 (.ofNat 1))) 17 v6), H⟩ τ)) (k (.exit 0) ⟨(T.set .leaf 0 t0), H⟩ τ)
def s_strings_trimRightUnicode (call : CallK) (N : Nat) (a0 a1 : V) (H : Heap) (τ : Tape) (q : KV) : Ans := loopK (s_strings_trimRightUnicode_l1 call N) N ⟨(T.set (T.set .leaf 0 a0) 1 a1), H⟩ τ (blockK 0 (seqK (s_strings_trimRightUnicode_j0 call N q) (endK [(.t 4)] q)))
theorem s_strings_trimRightUnicode_eq (call : CallK) (N : Nat) (a0 a1 : V) (H : Heap) (τ : Tape) (q : KV) : s_strings_trimRightUnicode call N a0 a1 H τ q = funK call N fn_strings_trimRightUnicode [a0, a1] H τ q := by kernel_rfl
def e_strings_trimRightUnicode (call : CallK) (N : Nat) (vs : List V) (H : Heap) (τ : Tape) (q : KV) : Ans := match vs with | [a0, a1] => s_strings_trimRightUnicode call N a0 a1 H τ q | _ => none
theorem e_strings_trimRightUnicode_ok : EntOk fn_strings_trimRightUnicode e_strings_trimRightUnicode := by
  intro call N vs H τ q r h
  unfold e_strings_trimRightUnicode at h
  split at h
  · rw [s_strings_trimRightUnicode_eq] at h; exact h
  · cases h
theorem e_strings_trimRightUnicode_nat : EntNat e_strings_trimRightUnicode := by
  intro c hn N vs H τ q
  unfold e_strings_trimRightUnicode
  split
  · rw [s_strings_trimRightUnicode_eq, s_strings_trimRightUnicode_eq]; exact funK_ent hn _ _ _ _ _ _
  · rfl
/-- internal/stringslite.CutPrefix -/
def fn_stringslite_CutPrefix : Fun := ⟨2, (.seq (.reg [iR 4 (.p .mv) [(.c (.str []))], iR 5 (.p .mv) [(.c (.bool false))]]) (.keep [0, 1] (.seq (.seq (.reg [iR 6 (.p .mv) [(.t 0)], iR 7 (.p .mv) [(.t 1)], iR 8 (.call 75) [(.t 6), (.t 7)], iR 9 (.p (.un .not)) [(.t 8)]]) (.keep [0, 1, 9] (.cond (.t 9) (.seq (.reg [iR 10 (.p .mv) [(.t 0)], iR 4 (.p .mv) [(.t 10)], iR 5 (.p .mv) [(.c (.bool false))]]) (.keep [4, 5] (.keep [4, 5] .ret))) .skip))) (.keep [0, 1] (.seq (.reg [iR 11 (.p .mv) [(.t 0)], iR 12 (.p .mv) [(.t 1)], iR 13 (.p .lenS) [(.t 12)], iR 14 (.p (.strSlice true false)) [(.t 11), (.t 13)], iR 4 (.p .mv) [(.t 14)], iR 5 (.p .mv) [(.c (.bool true))]]) (.keep [4, 5] (.keep [4, 5] .ret))))))), [(.t 4), (.t 5)]⟩
def s_stringslite_CutPrefix (call : CallK) (N : Nat) (a0 a1 : V) (H : Heap) (τ : Tape) (q : KV) : Ans := call f_stringslite_HasPrefix [a0, a1] H τ fun v0 H1 τ2 => unK .not v0 fun v3 => condK v3 (q (.tup [a0, (.bool false)]) H1 τ2) (someK (pLenS [a1]) fun v4 => someK (pStrSlice true false [a0, v4]) fun v5 => q (.tup [v5, (.bool true)]) H1 τ2)
theorem s_stringslite_CutPrefix_eq (call : CallK) (N : Nat) (a0 a1 : V) (H : Heap) (τ : Tape) (q : KV) : s_stringslite_CutPrefix call N a0 a1 H τ q = funK call N fn_stringslite_CutPrefix [a0, a1] H τ q := by kernel_rfl
def e_stringslite_CutPrefix (call : CallK) (N : Nat) (vs : List V) (H : Heap) (τ : Tape) (q : KV) : Ans := match vs with | [a0, a1] => s_stringslite_CutPrefix call N a0 a1 H τ q | _ => none
theorem e_stringslite_CutPrefix_ok : EntOk fn_stringslite_CutPrefix e_stringslite_CutPrefix := by
  intro call N vs H τ q r h
  unfold e_stringslite_CutPrefix at h
  split at h
  · rw [s_stringslite_CutPrefix_eq] at h; exact h
  · cases h
theorem e_stringslite_CutPrefix_nat : EntNat e_stringslite_CutPrefix := by
  intro c hn N vs H τ q
  unfold e_stringslite_CutPrefix
  split
  · rw [s_stringslite_CutPrefix_eq, s_stringslite_CutPrefix_eq]; exact funK_ent hn _ _ _ _ _ _
  · rfl
/-- internal/stringslite.Cut -/
def fn_stringslite_Cut : Fun := ⟨2, (.seq (.reg [iR 4 (.p .mv) [(.c (.str []))], iR 5 (.p .mv) [(.c (.str []))], iR 6 (.p .mv) [(.c (.bool false))]]) (.keep [0, 1] (.seq (.seq (.reg [iR 8 (.p .mv) [(.t 0)], iR 9 (.p .mv) [(.t 1)], iR 10 (.call 85) [(.t 8), (.t 9)], iR 7 (.p .mv) [(.t 10)]]) (.keep [0, 1, 7] (.seq (.reg [iR 11 (.p .mv) [(.t 7)], iR 12 (.p (.bin .geq)) [(.t 11), (.c (.int .i64 (.ofNat 0)))]]) (.keep [0, 1, 7, 12] (.cond (.t 12) (.seq (.draw [iR 13 (.p .mv) [(.t 0)], iR 14 (.p .mv) [(.t 7)], iR 15 (.p (.strSlice false true)) [(.t 13), (.t 14)], iR 16 (.p .mv) [(.t 0)], iR 17 (.p .mv) [(.t 7)], iR 18 (.p .mv) [(.t 1)], iR 19 (.p .lenS) [(.t 18)], iR 20 (.p (.bin .add)) [(.t 17), (.t 19)], iR 21 (.p (.strSlice true false)) [(.t 16), (.t 20)], iR 4 (.p .mv) [(.t 15)], iR 5 (.p .mv) [(.t 21)], iR 6 (.p .mv) [(.c (.bool true))]]) (.keep [4, 5, 6] (.keep [4, 5, 6] .ret)))
    .skip))))) (.keep [0] (.seq (.reg [iR 22 (.p .mv) [(.t 0)], iR 4 (.p .mv) [(.t 22)], iR 5 (.p .mv) [(.c (.str []))], iR 6 (.p .mv) [(.c (.bool false))]]) (.keep [4, 5, 6] (.keep [4, 5, 6] .ret))))))), [(.t 4), (.t 5), (.t 6)]⟩
def s_stringslite_Cut (call : CallK) (N : Nat) (a0 a1 : V) (H : Heap) (τ : Tape) (q : KV) : Ans := call f_stringslite_Index [a0, a1] H τ fun v0 H1 τ2 => binK .geq v0 (.int .i64 (.ofNat 0)) fun v3 => condK v3 (someK (pStrSlice false true [a0, v0]) fun v4 => someK (pLenS [a1]) fun v5 => binK .add v0 v5 fun v6 => someK (pStrSlice true false [a0, v6]) fun v7 => q (.tup [v4, v7, (.bool true)]) H1 τ2) (q (.tup [a0, (.str []), (.bool false)]) H1 τ2)
theorem s_stringslite_Cut_eq (call : CallK) (N : Nat) (a0 a1 : V) (H : Heap) (τ : Tape) (q : KV) : s_stringslite_Cut call N a0 a1 H τ q = funK call N fn_stringslite_Cut [a0, a1] H τ q := by kernel_rfl
def e_stringslite_Cut (call : CallK) (N : Nat) (vs : List V) (H : Heap) (τ : Tape) (q : KV) : Ans := match vs with | [a0, a1] => s_stringslite_Cut call N a0 a1 H τ q | _ => none
theorem e_stringslite_Cut_ok : EntOk fn_stringslite_Cut e_stringslite_Cut := by
  intro call N vs H τ q r h
  unfold e_stringslite_Cut at h
  split at h
  · rw [s_stringslite_Cut_eq] at h; exact h
  · cases h
theorem e_stringslite_Cut_nat : EntNat e_stringslite_Cut := by
  intro c hn N vs H τ q
  unfold e_stringslite_Cut
  split
  · rw [s_stringslite_Cut_eq, s_stringslite_Cut_eq]; exact funK_ent hn _ _ _ _ _ _
  · rfl
end Go.Am.X
